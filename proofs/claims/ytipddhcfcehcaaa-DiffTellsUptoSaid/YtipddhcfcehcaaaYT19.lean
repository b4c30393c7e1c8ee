/- Lemmas for the claim, no condition. -/
import Derived.Test.YtipddhcfcehcaaaYT18
namespace Go.Proofs.Ytipddhcfcehcaaa
open Go Go.RowKit Go.Maps

/-- What a plain line says. -/
inductive PIt where
  | ty (n : ByteArray)
  | rel (n x : ByteArray) (ys : List ByteArray)
/-- A line's turn. -/
def stepD (ts : List TyS) : PIt → List TyS
  | .ty n => ts ++ [⟨n, []⟩]
  | .rel n x ys => ts.dropLast ++ (ts.drop (ts.length - 1)).map fun t => ⟨t.name, t.rels ++ [(n, altR x ys)]⟩
theorem stepD_rel (a : List TyS) (t : TyS) (n x : ByteArray) (ys : List ByteArray) : stepD (a ++ [t]) (.rel n x ys) = a ++ [⟨t.name, t.rels ++ [(n, altR x ys)]⟩] := by
  unfold stepD
  dsimp only
  rw [List.dropLast_concat, List.length_append, List.length_singleton, Nat.add_sub_cancel, List.drop_left]
  rfl
theorem tysT : ElemT Try.prog 22 49 2 40 := ElemT.mk' Try.underlying22 (show _ = some (some (.agg #[.string ByteArray.empty, .slice none 0 0]), 2, 40) by kernel_rfl) rfl (by decide)
theorem relsElT : ElemT Try.prog 47 82 5 80 := ElemT.mk' Try.underlying47 (show _ = some (some (.agg #[.string ByteArray.empty, .int .i64 0, .string ByteArray.empty, .string ByteArray.empty, .slice none 0 0]), 5, 80) by kernel_rfl) (by kernel_rfl) (by decide)

theorem Own.setAt {w : World} {B sz : Nat} {e : TypeId} {g n c : Nat} {xs : List Value} (h : Own w B e sz (.slice (some ⟨g, 0, none⟩) n c) xs) (i : Nat) (u : Value) : Own (w.setCell ⟨g, i, none⟩ u) B e sz (.slice (some ⟨g, 0, none⟩) n c) (xs.set i u) := by
  obtain ⟨m, h⟩ := h
  rcases h.2 with ⟨hv, rfl⟩ | ⟨g', cap, cur, hv, hbg, hg, hnc, hcm, hcs, htake⟩
  · cases hv
  · cases hv
    have hl := h.1
    refine ⟨n, by rw [List.length_set]; exact hl, .inr ⟨g, c, cur.setIfInBounds i u, rfl, hbg, heap_setCell_same w g i cur e u hg, hnc, hcm, by simpa using hcs, ?_⟩⟩
    rw [Array.toList_setIfInBounds, ← htake, List.take_set]
/-- Rows of unlike elements lie apart. -/
theorem Own.apart {w : World} {B B' sz sz' : Nat} {e e' : TypeId} {v v' : Value} {xs xs' : List Value} (h : Own w B e sz v xs) (k : Own w B' e' sz' v' xs') (hne : e ≠ e') {g : Nat} (hg : v.ownBlock = some g) : v'.ownBlock ≠ some g := fun hv => by
  obtain ⟨c1, h1⟩ := h.typed hg
  obtain ⟨c2, h2⟩ := k.typed hv
  rw [h1] at h2
  exact hne (by injection Option.some.inj h2)
theorem Own.slFo {w : World} {B sz : Nat} {e : TypeId} {v : Value} {xs : List Value} (h : Own w B e sz v xs) {S : Nat → Prop} (hS : ∀ g, v.ownBlock = some g → S g) : Sl S w sz v xs := by
  obtain ⟨n, h⟩ := h
  exact ownsRow_sl h _ hS

/-- Blocks that neither row owns. -/
def Fo (w : World) (L : Nat) (tv rv : Value) (b : Nat) : Prop := (L ≤ b ∧ b < w.heap.size) ∧ tv.ownBlock ≠ some b ∧ rv.ownBlock ≠ some b

/-- Some types, and one of which relations still come. -/
structure PAt (L : Nat) (w : World) (tv : Value) (pre : List (TyS × Value)) (n : ByteArray) (rv : Value) (qr : List ((ByteArray × RT) × Value)) : Prop where
  tys : Own w L 49 2 tv ((pre ++ [((⟨n, qr.map (·.1)⟩ : TyS), rv)]).flatMap tyC)
  rels : Own w L 82 5 rv (qr.flatMap relC)
  pr : ∀ x ∈ pre, RelsAt (Fo w L tv rv) w x.1.rels x.2
  rr : ∀ x ∈ qr, RTAt (Fo w L tv rv) w x.1.2 x.2

section
variable {L : Nat} {w w' : World} {tv tv' rv rv' : Value} {pre : List (TyS × Value)} {n : ByteArray} {qr : List ((ByteArray × RT) × Value)}
theorem PAt.keep (h : PAt L w tv pre n rv qr) (hk : ∀ b, L ≤ b → b < w.heap.size → w'.heap[b]? = w.heap[b]?) (hz : w.heap.size ≤ w'.heap.size) : PAt L w' tv pre n rv qr := by
  have hs : Same (Fo w L tv rv) w w' := fun b hb => hk b hb.1.1 hb.1.2
  have hm : ∀ b, Fo w L tv rv b → Fo w' L tv rv b := fun b hb => ⟨⟨hb.1.1, Nat.lt_of_lt_of_le hb.1.2 hz⟩, hb.2⟩
  exact ⟨h.tys.keepOwn fun g hg => hk g (h.tys.block g hg).1 (h.tys.block g hg).2, h.rels.keepOwn fun g hg => hk g (h.rels.block g hg).1 (h.rels.block g hg).2, fun x hx => ((h.pr x hx).same hs).mono hm, fun x hx => ((h.rr x hx).same hs).mono hm⟩
theorem PAt.ty {m : ByteArray} (h : PAt L w tv pre n rv qr) (hk : ∀ b, L ≤ b → b < w.heap.size → tv.ownBlock ≠ some b → w'.heap[b]? = w.heap[b]?) (hz : w.heap.size ≤ w'.heap.size)
    (ho : Own w' L 49 2 tv' ((pre ++ [((⟨n, qr.map (·.1)⟩ : TyS), rv)]).flatMap tyC ++ [.string m, .slice none 0 0])) (hb : ∀ g, tv'.ownBlock = some g → tv.ownBlock = some g ∨ w.heap.size ≤ g) : PAt L w' tv' (pre ++ [((⟨n, qr.map (·.1)⟩ : TyS), rv)]) m (.slice none 0 0) [] := by
  have hs : Same (Fo w L tv rv) w w' := fun b hb => hk b hb.1.1 hb.1.2 hb.2.1
  have hm : ∀ b, Fo w L tv rv b → Fo w' L tv' (.slice none 0 0) b := fun b hb' => ⟨⟨hb'.1.1, Nat.lt_of_lt_of_le hb'.1.2 hz⟩, fun e => by
    rcases hb b e with e | e
    · exact hb'.2.1 e
    · have := hb'.1.2; omega, fun e => (by cases e)⟩
  have hrg : ∀ g, rv.ownBlock = some g → tv.ownBlock ≠ some g := fun g hg => h.rels.apart h.tys (by decide) hg
  have hrk : Own w' L 82 5 rv (qr.flatMap relC) := h.rels.keepOwn fun g hg => hk g (h.rels.block g hg).1 (h.rels.block g hg).2 (hrg g hg)
  refine ⟨by rw [List.flatMap_append]; exact ho, Own.nil _ _ _ _, fun x hx => ?_, fun x hx => (by cases hx)⟩
  rcases List.mem_append.1 hx with hx | hx
  · exact ((h.pr x hx).same hs).mono hm
  · obtain rfl := List.mem_singleton.1 hx
    refine ⟨qr, rfl, fun x hx => ((h.rr x hx).same hs).mono hm, hrk.slFo fun g hg => ⟨⟨(hrk.block g hg).1, (hrk.block g hg).2⟩, fun e => ?_, fun e => (by cases e)⟩⟩
    rcases hb g e with e | e
    · exact hrg g hg e
    · have := (h.rels.block g hg).2; omega
theorem PAt.first {m : ByteArray} (ho : Own w' L 49 2 tv' [.string m, .slice none 0 0]) : PAt L w' tv' [] m (.slice none 0 0) [] :=
  ⟨ho, Own.nil _ _ _ _, fun x hx => (by cases hx), fun x hx => (by cases hx)⟩
theorem PAt.rel {m : ByteArray} {r : RT} {pv : Value} {g k c : Nat} (h : PAt L w (.slice (some ⟨g, 0, none⟩) k c) pre n rv qr) (hk : ∀ b, L ≤ b → b < w.heap.size → rv.ownBlock ≠ some b → w'.heap[b]? = w.heap[b]?) (hz : w.heap.size ≤ w'.heap.size)
    (ho : Own w' L 82 5 rv' (qr.flatMap relC ++ relC ((m, r), pv))) (hb : ∀ g, rv'.ownBlock = some g → rv.ownBlock = some g ∨ w.heap.size ≤ g) (hr : RTAt (Fo w L (.slice (some ⟨g, 0, none⟩) k c) rv) w r pv) : PAt L (w'.setCell ⟨g, pre.length * 2 + 1, none⟩ rv') (.slice (some ⟨g, 0, none⟩) k c) pre n rv' (qr ++ [((m, r), pv)]) := by
  have hrg : rv.ownBlock ≠ some g := fun e => h.rels.apart h.tys (by decide) e rfl
  have htk : Own w' L 49 2 (.slice (some ⟨g, 0, none⟩) k c) ((pre ++ [((⟨n, qr.map (·.1)⟩ : TyS), rv)]).flatMap tyC) := h.tys.keepOwn fun x hx => by
    cases hx
    exact hk g (h.tys.block g rfl).1 (h.tys.block g rfl).2 hrg
  have hrg' : rv'.ownBlock ≠ some g := fun e => ho.apart htk (by decide) e rfl
  have hs : Same (Fo w L (.slice (some ⟨g, 0, none⟩) k c) rv) w (w'.setCell ⟨g, pre.length * 2 + 1, none⟩ rv') := fun b hb =>
    (Below.heap_setCell w' _ _ b (fun e => hb.2.1 (by rw [e]; rfl))).trans (hk b hb.1.1 hb.1.2 hb.2.2)
  have hm : ∀ b, Fo w L (.slice (some ⟨g, 0, none⟩) k c) rv b → Fo (w'.setCell ⟨g, pre.length * 2 + 1, none⟩ rv') L (.slice (some ⟨g, 0, none⟩) k c) rv' b := fun b hb' => ⟨⟨hb'.1.1, by simp; exact Nat.lt_of_lt_of_le hb'.1.2 hz⟩, hb'.2.1, fun e => by
    rcases hb b e with e | e
    · exact hb'.2.2 e
    · have := hb'.1.2; omega⟩
  refine ⟨?_, ?_, fun x hx => ((h.pr x hx).same hs).mono hm, fun x hx => ?_⟩
  · have := htk.setAt (pre.length * 2 + 1) rv'
    rwa [show ((pre ++ [((⟨n, qr.map (·.1)⟩ : TyS), rv)]).flatMap tyC).set (pre.length * 2 + 1) rv' = (pre ++ [((⟨n, (qr ++ [((m, r), pv)]).map (·.1)⟩ : TyS), rv')]).flatMap tyC from by
      rw [List.flatMap_append, List.flatMap_append, List.set_append_right (h := by rw [flat_length tyC_length]; omega), flat_length tyC_length]
      rw [Nat.add_sub_cancel_left]
      rfl] at this
  · rw [List.flatMap_append]
    exact (show Own w' L 82 5 rv' (qr.flatMap relC ++ [((m, r), pv)].flatMap relC) from by simpa using ho).keepOwn fun x hx => Below.heap_setCell _ _ _ _ fun e => hrg' (by rw [hx, e])
  · rcases List.mem_append.1 hx with hx | hx
    · exact ((h.rr x hx).same hs).mono hm
    · obtain rfl := List.mem_singleton.1 hx
      exact (hr.same hs).mono hm
theorem PAt.tysAt (h : PAt L w tv pre n rv qr) : TysAt (fun b => L ≤ b ∧ b < w.heap.size) w (pre.map (·.1) ++ [⟨n, qr.map (·.1)⟩]) tv := by
  refine ⟨pre ++ [((⟨n, qr.map (·.1)⟩ : TyS), rv)], by simp, fun x hx => ?_, h.tys.sl⟩
  rcases List.mem_append.1 hx with hx | hx
  · exact (h.pr x hx).mono fun b hb => hb.1
  · obtain rfl := List.mem_singleton.1 hx
    exact ⟨qr, rfl, fun x hx => (h.rr x hx).mono fun b hb => hb.1, h.rels.sl⟩
end

end Go.Proofs.Ytipddhcfcehcaaa
namespace Go.Proofs.Ytipddhcfcehcaaa
open Go Go.RowKit Go.Maps

def PIt.toks : PIt → List ByteArray
  | .ty n => [⟨#[116, 121, 112, 101]⟩, n]
  | .rel n x ys => n :: ⟨#[61]⟩ :: altT x ys
def PIt.Fit : PIt → Prop
  | .ty n => isNm n = true ∧ n ≠ ⟨#[116, 104, 105, 115]⟩
  | .rel n x ys => isNm n = true ∧ n ≠ ⟨#[116, 104, 105, 115]⟩ ∧ n ≠ ⟨#[116, 121, 112, 101]⟩ ∧ (∀ z ∈ x :: ys, isNm z = true) ∧ ys.length ≤ 100000
/-- A plain line that says it. -/
structure LnOk (s : ByteArray) (it : PIt) : Prop where
  size : s.size ≤ 65536
  two : 2 ≤ s.size
  first : ∀ h : 0 < s.size, s[0] ≠ 32 ∧ s[0] ≠ 9
  slash : s.extract 0 2 ≠ ⟨#[47, 47]⟩
  plain : ∀ j (hj : j < s.size), plainC s[j] = true
  toks : toksD s = it.toks
/-- How the types so far lie. -/
def PSt (L : Nat) (w : World) (tv : Value) (ts : List TyS) (N : Nat) : Prop :=
  (N = 0 ∧ ts = [] ∧ tv = .slice none 0 0) ∨ ∃ pre n rv qr, PAt L w tv pre n rv qr ∧ ts = pre.map (·.1) ++ [⟨n, qr.map (·.1)⟩] ∧ pre.length + 1 ≤ N ∧ qr.length ≤ N
theorem PSt.own {L N : Nat} {w : World} {tv : Value} {ts : List TyS} (h : PSt L w tv ts N) : ∃ cs, Own w L 49 2 tv cs ∧ cs.length ≤ 2 * N ∧ (∀ w' tv' m, (∀ b, L ≤ b → b < w.heap.size → tv.ownBlock ≠ some b → w'.heap[b]? = w.heap[b]?) → w.heap.size ≤ w'.heap.size →
    Own w' L 49 2 tv' (cs ++ [.string m, .slice none 0 0]) → (∀ g, tv'.ownBlock = some g → tv.ownBlock = some g ∨ w.heap.size ≤ g) → PSt L w' tv' (stepD ts (.ty m)) (N + 1)) := by
  rcases h with ⟨rfl, rfl, rfl⟩ | ⟨pre, n, rv, qr, h, rfl, h1, h2⟩
  · exact ⟨[], Own.nil _ _ _ _, by simp, fun w' tv' m _ _ ho _ => .inr ⟨[], m, _, [], PAt.first ho, rfl, by simp, by simp⟩⟩
  · refine ⟨_, h.tys, ?_, fun w' tv' m hk hz ho hb => .inr ⟨_, m, _, [], h.ty hk hz ho hb, ?_, ?_, by simp⟩⟩
    · rw [flat_length tyC_length]; simp; omega
    · simp [stepD]
    · simp; omega
theorem PSt.keep {L N : Nat} {w w' : World} {tv : Value} {ts : List TyS} (h : PSt L w tv ts N) (hk : ∀ b, L ≤ b → b < w.heap.size → w'.heap[b]? = w.heap[b]?) (hz : w.heap.size ≤ w'.heap.size) : PSt L w' tv ts N := by
  rcases h with h | ⟨pre, n, rv, qr, h, r⟩
  · exact .inl h
  · exact .inr ⟨pre, n, rv, qr, h.keep hk hz, r⟩
theorem PSt.tysAt {L N : Nat} {w : World} {tv : Value} {ts : List TyS} (h : PSt L w tv ts N) : TysAt (fun b => L ≤ b ∧ b < w.heap.size) w ts tv := by
  rcases h with ⟨_, rfl, rfl⟩ | ⟨pre, n, rv, qr, h, rfl, _, _⟩
  · exact ⟨[], rfl, (fun x hx => (by cases hx)), Sl.nil _ _ _⟩
  · exact h.tysAt
/-- How a row of the call's own lies. -/
theorem Own.layN {w : World} {B sz : Nat} {e : TypeId} {v : Value} {xs : List Value} (h : Own w B e sz v xs) (hx : xs ≠ []) : ∃ g n c cs, v = .slice (some ⟨g, 0, none⟩) n c ∧ xs.length = n * sz ∧ B ≤ g ∧ Blk w g cs e ∧ n ≤ c ∧ c ≤ 9223372036854775807 ∧ (∀ i (hi : i < xs.length), cs[i]? = some xs[i]) := by
  obtain ⟨m, h⟩ := h
  rcases h.2 with ⟨hv, he⟩ | ⟨g', cap, cur, hv, hbg, hg, hnc, hcm, hcs, htake⟩
  · exact absurd (List.length_eq_zero_iff.1 (by have := h.1; rw [he] at this; simpa using this)) hx
  · refine ⟨g', m, cap, cur, hv, h.1, hbg, hg, hnc, by unfold maxLen at hcm; omega, fun i hi => ?_⟩
    have h1 := congrArg (fun l : List Value => l[i]?) htake
    rw [List.getElem?_take_of_lt (by rw [← h.1]; exact hi), List.getElem?_eq_getElem hi] at h1
    simpa using h1
theorem foldl_take_st (its : List PIt) {i : Nat} (hi : i < its.length) : (its.take (i + 1)).foldl stepD [] = stepD ((its.take i).foldl stepD []) its[i] := by
  rw [List.take_succ_eq_append_getElem hi, List.foldl_append]
  rfl

set_option maxRecDepth 100000 in
set_option maxHeartbeats 1500000 in
theorem parse_any (s : ByteArray) (its : List PIt) (w : World) (hs : s.size ≤ 65536) (hl : (linesD s).length = its.length) (hln : ∀ i (hi : i < its.length) (hj : i < (linesD s).length), LnOk (linesD s)[i] its[i]) (hok : ∀ it ∈ its, it.Fit) (h0 : ∀ h : 0 < its.length, ∃ n, its[0] = .ty n) (hN : its.length ≤ 70000) :
    Calls Try.prog 24 #[.string s] w fun e w' => ∃ tv, e = .returned (.tuple #[.agg #[tv], .int .i64 0, .int .i64 0]) ∧ TysAt (fun b => w.heap.size ≤ b ∧ b < w'.heap.size) w' (its.foldl stepD []) tv ∧ Below w.heap.size w w' := by
  obtain ⟨w1, hw1⟩ : ∃ z, z = w.alloc (.cells #[.slice none 0 0] 24) := ⟨_, rfl⟩
  obtain ⟨w2, hw2⟩ : ∃ z, z = w1.alloc (.cells #[.slice none 0 0] 24) := ⟨_, rfl⟩
  have e1 : w1.heap.size = w.heap.size + 1 := by rw [hw1]; simp
  have e2 : w2.heap.size = w.heap.size + 2 := by rw [hw2]; simp [e1]
  have x01 : Ext w w1 := by rw [hw1]; exact Ext.alloc _ _
  have x12 : Ext w1 w2 := by rw [hw2]; exact Ext.alloc _ _
  have HRB := Lib.hid (show Blk w2 w.heap.size #[.slice none 0 0] 24 from Blk.below (by rw [hw1]; exact Blk.made _ _ _) x12)
  have HSB := Lib.hid (show Blk w2 (w.heap.size + 1) #[.slice none 0 0] 24 from by rw [hw2, ← e1]; exact Blk.made _ _ _)
  have HB2 := Lib.hid (show Below w.heap.size w w2 from x01.trans x12)
  have HLN := Lib.hid (lines_any s hs w2)
  rw [e2] at HLN
  have HL := Lib.hid hl
  have HLK := Lib.hid hln
  have HOK := Lib.hid hok
  have HZ := Lib.hid h0
  have HN := Lib.hid hN
  have hsz : (s.size : Int) ≤ 65536 := by omega
  subst hw2 hw1
  clear hs hl hln hok h0 hN x01 x12 e1 e2
  go_enter Try.func24, Try.ntmps24
  go_wp2_with fail
  refine HLN.out.mono ?_
  rintro e wL ⟨lv, rfl, hownL, hbL⟩
  have HRL := Lib.hid (HRB.out.below (hbL.mono (by simp)))
  have HSLb := Lib.hid (HSB.out.below (hbL.mono (by simp)))
  have HBL := Lib.hid (HB2.out.trans (hbL.mono (by simp)))
  have HLL := Lib.hid (show w.heap.size + 2 ≤ wL.heap.size from by have := hbL.size; simpa using this)
  obtain ⟨aoL, nL, cL, rfl, hnL, hncL, hcmL⟩ := hownL.sl.len
  rw [txs_length, Nat.mul_one, HL.out] at hnL
  subst hnL
  have HCL := Lib.hid (show ∀ i (hi : i < its.length) (hj : i < (linesD s).length), ∃ b off, aoL = some ⟨b, off, none⟩ ∧ (w.heap.size + 2 ≤ b ∧ b < wL.heap.size) ∧ wL.cell? ⟨b, off + i, none⟩ = some (.string (linesD s)[i]) from fun i hi hj => by
    have h := hownL.sl
    rw [← HL.out] at h
    exact texts_at h i hj)
  clear HRB HSB HB2 HLN hbL hownL
  generalize linesD s = ls at *
  go_wp2_with fail
  go_loopw [20] (fun ii wr => ∃ (i : Nat) (tv : Value), ii = .int .i64 i ∧ i ≤ its.length ∧ Below w.heap.size w wr ∧ (∀ b, w.heap.size + 2 ≤ b → b < wL.heap.size → wr.heap[b]? = wL.heap[b]?) ∧ Blk wr w.heap.size #[.slice none 0 0] 24 ∧ Blk wr (w.heap.size + 1) #[tv] 24 ∧ wL.heap.size ≤ wr.heap.size ∧ PSt wL.heap.size wr tv ((its.take i).foldl stepD []) i) (fun ii _ => its.length - (intOf ii).toNat)
  case atStart => exact ⟨0, _, rfl, by omega, HBL.out, fun _ _ _ => rfl, HRL.out, HSLb.out, Nat.le_refl _, .inl ⟨rfl, rfl, rfl⟩⟩
  case round =>
    obtain ⟨i, tv, rfl, hi, hbel, hkl, hrb, hsb, hsz2, hst⟩ := hrel
    clear HRL HSLb HBL
    have HBE := Lib.hid hbel
    have HKL := Lib.hid hkl
    have HRB := Lib.hid hrb
    have HSB := Lib.hid hsb
    have HZ2 := Lib.hid hsz2
    have HST := Lib.hid hst
    have HI := Lib.hid hi
    clear hbel hkl hsz2 hst
    by_cases hlt : i < its.length
    · have hj : i < ls.length := by rw [HL.out]; exact hlt
      obtain ⟨bL, offL, rfl, hbL, hcL⟩ := HCL.out i hlt hj
      have hcr : wr.cell? ⟨bL, offL + i, none⟩ = some (.string ls[i]) := (World.cell?_of_block (a := ⟨bL, offL + i, none⟩) (HKL.out bL hbL.1 hbL.2)).trans hcL
      have HLO := Lib.hid (HLK.out i hlt hj)
      have HIT := Lib.hid (HOK.out its[i] (List.getElem_mem hlt))
      have HFT := Lib.hid (foldl_take_st its hlt)
      have HII := Lib.hid (show i = 0 → ∃ n, its[i] = .ty n from fun h => by subst h; exact HZ.out hlt)
      clear hcL
      generalize ls[i] = ln at *
      generalize its[i] = it at *
      have HBK := Lib.hid (blank1_any ln (by have := HLO.out.size; unfold maxLen; omega) HLO.out.two (ln[0]'(by have := HLO.out.two; omega)) rfl (HLO.out.first (by have := HLO.out.two; omega)).1 (HLO.out.first (by have := HLO.out.two; omega)).2 HLO.out.slash wr)
      have HTK := Lib.hid (tokens_any ln HLO.out.size HLO.out.plain wr)
      rw [HLO.out.toks] at HTK
      go_wp2_with fail
      refine HBK.out.mono ?_
      rintro e wx ⟨rfl, rfl⟩
      go_wp2_with fail
      refine HTK.out.mono ?_
      rintro e w2 ⟨v2, rfl, hown2, hb2⟩
      have HRB2 := Lib.hid (HRB.out.below hb2)
      have HSB2 := Lib.hid (HSB.out.below hb2)
      have HBE2 := Lib.hid (HBE.out.trans (hb2.mono HBE.out.size))
      have HKL2 := Lib.hid (show ∀ b, w.heap.size + 2 ≤ b → b < wL.heap.size → w2.heap[b]? = wL.heap[b]? from fun b h1 h2 => (hb2.block b (Nat.lt_of_lt_of_le h2 HZ2.out)).trans (HKL.out b h1 h2))
      have HZ22 := Lib.hid (Nat.le_trans HZ2.out hb2.size)
      have HXY := Lib.hid (show wx.heap.size ≤ w2.heap.size from hb2.size)
      have HST2 := Lib.hid (HST.out.keep (fun b _ h => hb2.block b h) hb2.size)
      have HTB := Lib.hid (show ∀ g, tv.ownBlock = some g → wL.heap.size ≤ g ∧ g < wx.heap.size from fun g hg => by obtain ⟨cs, hc, -⟩ := HST.out.own; exact hc.block g hg)
      have hs2 := HSB2.out.cells
      have fs2 := HSB2.out.free
      clear hrb hsb HRB HSB HBE HKL HBK HTK HST hcr
      cases it with
      | ty n =>
        obtain ⟨hnm, hnt⟩ := HIT.out
        have HT2 := Lib.hid (show Sl (fun b => wx.heap.size ≤ b ∧ b < w2.heap.size) w2 1 v2 (txs [⟨#[116, 121, 112, 101]⟩, n]) from hown2.sl)
        obtain ⟨aoT, nT, cT, rfl, hnT, hncT, hcmT⟩ := HT2.out.len
        obtain rfl : nT = 2 := by rw [txs_length] at hnT; simpa using hnT.symm
        have htx := texts_at (l := [⟨#[116, 121, 112, 101]⟩, n]) HT2.out
        obtain ⟨bT, offT, rfl, hbT, t0⟩ := htx 0 (by simp)
        obtain ⟨bT', offT', hbo, -, t1⟩ := htx 1 (by simp)
        cases hbo
        rw [Nat.add_zero] at t0
        have t0' : w2.cell? ⟨bT, offT, none⟩ = some (.string ⟨#[116, 121, 112, 101]⟩) := t0
        have t1' : w2.cell? ⟨bT, offT + 1, none⟩ = some (.string n) := t1
        have hnmx := hnm
        have HNM := Lib.hid (refName_any n (by
          unfold isNm at hnmx
          simp only [Bool.and_eq_true, decide_eq_true_eq] at hnmx
          unfold maxLen
          omega) w2)
        rw [hnm] at HNM
        have hne := ba_beq' hnt
        rw [← ByteArray.toList_eq, show (⟨#[116, 104, 105, 115]⟩ : ByteArray).data.toList = [116, 104, 105, 115] from rfl] at hne
        clear htx t0 t1 hnT hnm hnt hnmx hown2 hb2
        go_wp2_with fail
        refine HNM.out.mono ?_
        rintro e wy ⟨rfl, rfl⟩
        clear HNM
        go_wp2_with fail
        obtain ⟨csT, hoT, hcsT, hstepT⟩ := HST2.out.own
        obtain ⟨aot, kt, ct, rfl, -, -, -⟩ := hoT.sl.len
        have HCS := Lib.hid hcsT
        have HSTEP := Lib.hid hstepT
        have HOT := Lib.hid hoT
        clear hcsT hstepT hoT
        obtain ⟨wd, hwd⟩ : ∃ z, z = wy.drew := ⟨_, rfl⟩
        have hE : Ext wy wd := by rw [hwd]; exact Ext.drew wy
        have hsd : Blk wd (w.heap.size + 1) #[.slice aot kt ct] 24 := HSB2.out.below hE
        have htd1 : wd.cell? ⟨bT, offT + 1, none⟩ = some (.string n) := Ext.cell hE t1'
        have hBT : Value.ownBlock (.slice aot kt ct) ≠ some bT := fun e => by have := (HTB.out bT e).2; have := hbT.1; omega
        have hBS : Value.ownBlock (.slice aot kt ct) ≠ some (w.heap.size + 1) := fun e => by have := (HTB.out _ e).1; have := HLL.out; omega
        have HBSZ := Lib.hid hBS
        have HOD := Lib.hid (HOT.out.below hE)
        have HWD := Lib.hid (show wd.heap.size = wy.heap.size from by rw [hwd]; rfl)
        have hA1 : ∀ W, Kept (fun b => b < wd.heap.size ∧ Value.ownBlock (.slice aot kt ct) ≠ some b) wd W → W.cell? ⟨w.heap.size + 1, 0, none⟩ = some (.slice aot kt ct) := fun W hW => by
          rw [(hW.blk hsd ⟨hsd.lt, hBS⟩).cells]; rfl
        have hA2 : ∀ W, Kept (fun b => b < wd.heap.size ∧ Value.ownBlock (.slice aot kt ct) ≠ some b) wd W → W.cell? ⟨bT, offT + 1, none⟩ = some (.string n) := fun W hW =>
          (World.cell?_of_block (a := ⟨bT, offT + 1, none⟩) (hW.block bT ⟨World.block_lt_of_cell? wd _ htd1, hBT⟩)).trans htd1
        refine region_walkL 9 (Kept (fun b => b < wd.heap.size ∧ Value.ownBlock (.slice aot kt ct) ≠ some b) wd) (by rw [← hwd]; exact Kept.refl _ _) (by kernel_rfl) (by kernel_rfl) (fun _ _ d _ _ h => by cases d <;> exact h) ?_
        rw [← hwd]
        clear hwd hBT hBS
        ((refine WalkL.take 0 _ ?_ (by simp only [List.getElem?_toArray, List.getElem?_cons_zero]; rfl) (by kernel_rfl) (by kernel_rfl) (by kernel_rfl) (by rfl) (fun W hW => ?_) ?_; rotate_left; · (go_simp; try with_reducible rfl)); simp only [Act.put, List.setIfInBounds_toArray, List.set_cons_zero, List.set_cons_succ]); ((refine WalkL.take 1 _ ?_ (by simp only [List.getElem?_toArray, List.getElem?_cons_succ, List.getElem?_cons_zero]; rfl) (by kernel_rfl) (by kernel_rfl) (by kernel_rfl) (by rfl) (fun W hW => ?_) ?_; rotate_left; · (go_simp; try with_reducible rfl)); simp only [Act.put, List.setIfInBounds_toArray, List.set_cons_zero, List.set_cons_succ]); ((refine WalkL.take 2 _ ?_ (by simp only [List.getElem?_toArray, List.getElem?_cons_succ, List.getElem?_cons_zero]; rfl) (by kernel_rfl) (by kernel_rfl) (by kernel_rfl) (by rfl) (fun W hW => ?_) ?_; rotate_left; · (go_simp; try with_reducible rfl)); simp only [Act.put, List.setIfInBounds_toArray, List.set_cons_zero, List.set_cons_succ]); ((refine WalkL.take 3 _ ?_ (by simp only [List.getElem?_toArray, List.getElem?_cons_succ, List.getElem?_cons_zero]; rfl) (by kernel_rfl) (by kernel_rfl) (by kernel_rfl) (by rfl) (fun W hW => ?_) ?_; rotate_left; · (go_simp; try with_reducible rfl)); simp only [Act.put, List.setIfInBounds_toArray, List.set_cons_zero, List.set_cons_succ]); ((refine WalkL.take 4 _ ?_ (by simp only [List.getElem?_toArray, List.getElem?_cons_succ, List.getElem?_cons_zero]; rfl) (by kernel_rfl) (by kernel_rfl) (by kernel_rfl) (by rfl) (fun W hW => ?_) ?_; rotate_left; · (go_simp; try with_reducible rfl)); simp only [Act.put, List.setIfInBounds_toArray, List.set_cons_zero, List.set_cons_succ]); ((refine WalkL.take 5 _ ?_ (by simp only [List.getElem?_toArray, List.getElem?_cons_succ, List.getElem?_cons_zero]; rfl) (by kernel_rfl) (by kernel_rfl) (by kernel_rfl) (by rfl) (fun W hW => ?_) ?_; rotate_left; · (go_simp; try with_reducible rfl)); simp only [Act.put, List.setIfInBounds_toArray, List.set_cons_zero, List.set_cons_succ])
        refine WalkL.one 6 (by kernel_rfl) ?_
        refine ⟨_, (by simp only [List.getElem?_toArray, List.getElem?_cons_succ, List.getElem?_cons_zero]; rfl), by rfl, fun K hK => ?_⟩
        go_simp
        refine hK.out _ _ ((Kept.refl _ wd).alloc (fun b hb => hb.1) _) ?_
        clear hK
        refine WalkL.one 7 (by kernel_rfl) ?_
        refine ⟨_, (by simp only [List.getElem?_toArray, List.getElem?_cons_succ, List.getElem?_cons_zero]; rfl), by rfl, fun K hK => ?_⟩
        refine wp_ownw tysT (.tmp 57) (.tmp 62) rfl rfl (HOD.out.below (Ext.alloc wd _)) rfl (m := 1) (news := [.string n, .slice none 0 0]) rfl (fun j u hu => ?_) (by simp [Value.oneCell']) (by have := HCS.out; have := HI.out; have := HN.out; simp; omega) (by have := HCS.out; have := HI.out; have := HN.out; simp; omega) (by have := HWD.out; have := HZ22.out; simp; omega) (fun v5 w5 hown5 hb5 hgr5 => ?_)
        · rw [Addr.add_lit, cell_of_row _ wd.heap.size (0 + j) #[.string n, .slice none 0 0] 49 (0, 0) (heap_alloc_new wd _)]
          simpa using hu
        have hkk : Kept (fun b => b < wd.heap.size ∧ Value.ownBlock (.slice aot kt ct) ≠ some b) wd w5 := ((Kept.refl _ wd).alloc (fun b hb => hb.1) (.cells #[.string n, .slice none 0 0] 49)).trans ⟨hgr5.os, hgr5.tape, hgr5.output, hgr5.size, fun b hb => hgr5.block b (by have := hb.1; simp; omega) (fun e => hb.2 e.symm)⟩
        refine hK.out _ _ hkk ?_
        clear hK
        simp only [Act.put, List.setIfInBounds_toArray, List.set_cons_zero, List.set_cons_succ]
        have hb5' : ∀ g, v5.ownBlock = some g → (Value.slice aot kt ct).ownBlock = some g ∨ wd.heap.size ≤ g := fun g hg => (hb5 g hg).imp id (fun h => by simp at h; omega)
        obtain ⟨ao5, k5, c5, rfl, -, -, -⟩ := hown5.sl.len
        have hs5 := hkk.blk hsd ⟨hsd.lt, HBSZ.out⟩
        have HS5 := Lib.hid hs5
        have r5 := hs5.cells
        have f5 := hs5.free
        have HK5 := Lib.hid (show Kept (fun b => b < wd.heap.size ∧ Value.ownBlock (.slice aot kt ct) ≠ some b) wd w5 from hkk)
        have HO5 := Lib.hid hown5
        have HB5 := Lib.hid hb5'
        have HE := Lib.hid hE
        clear hA1 hA2 hb5 hgr5 hkk hs5 hown5 hb5' hE
        ((refine WalkL.take 8 _ ?_ (by simp only [List.getElem?_toArray, List.getElem?_cons_succ, List.getElem?_cons_zero]; rfl) (by kernel_rfl) (by kernel_rfl) (by kernel_rfl) (by rfl) (fun W hW => ?_) ?_; rotate_left; · (go_simp; try with_reducible rfl)); simp only [Act.put, List.setIfInBounds_toArray, List.set_cons_zero, List.set_cons_succ])
        refine WalkL.last (by kernel_rfl) (by kernel_rfl) ?_
        refine ⟨_, (by simp only [List.getElem?_toArray, List.getElem?_cons_succ, List.getElem?_cons_zero]; rfl), by rfl, fun K hK => ?_⟩
        go_simp
        refine hK.out _ _ ?_
        clear hK r5 f5
        have hw5 : wy.heap.size ≤ w5.heap.size := by have := HK5.out.size; have := HWD.out; omega
        have HKW := Lib.hid (show ∀ b, b < wy.heap.size → Value.ownBlock (.slice aot kt ct) ≠ some b → w5.heap[b]? = wy.heap[b]? from fun b h1 h2 => (HK5.out.block b ⟨by rw [HWD.out]; exact h1, h2⟩).trans (HE.out.block b h1))
        have HTS := Lib.hid (show ∀ b, wL.heap.size ≤ b → (w5.setCell ⟨w.heap.size + 1, 0, none⟩ (.slice ao5 k5 c5)).heap[b]? = w5.heap[b]? from fun b hb => Below.heap_setCell _ _ _ _ (by have := HLL.out; show b ≠ w.heap.size + 1; omega))
        have HNEW := Lib.hid (HSTEP.out (w5.setCell ⟨w.heap.size + 1, 0, none⟩ (.slice ao5 k5 c5)) (.slice ao5 k5 c5) n (fun b h1 h2 h3 => (HTS.out b h1).trans (HKW.out b h2 h3)) (by simpa using hw5) (HO5.out.keepOwn fun g hg => HTS.out g (HO5.out.block g hg).1) (fun g hg => by have := HB5.out g hg; rwa [HWD.out] at this))
        have HTB5 := Lib.hid (show ∀ g, g < wL.heap.size → Value.ownBlock (.slice aot kt ct) ≠ some g from fun g hg e => by have := (HTB.out g e).1; omega)
        have hkl5 : ∀ b, w.heap.size + 2 ≤ b → b < wL.heap.size → (w5.setCell ⟨w.heap.size + 1, 0, none⟩ (.slice ao5 k5 c5)).heap[b]? = wL.heap[b]? := fun b h1 h2 =>
          ((Below.heap_setCell _ _ _ _ (show b ≠ w.heap.size + 1 by omega)).trans (HKW.out b (Nat.lt_of_lt_of_le h2 HZ22.out) (HTB5.out b h2))).trans (HKL2.out b h1 h2)
        have hrb5 : Blk (w5.setCell ⟨w.heap.size + 1, 0, none⟩ (.slice ao5 k5 c5)) w.heap.size #[.slice none 0 0] 24 :=
          ((Below.heap_setCell _ _ _ _ (show w.heap.size ≠ w.heap.size + 1 by omega)).trans (HKW.out _ HRB2.out.lt (HTB5.out _ (by have := HLL.out; omega)))).trans HRB2.out
        have hsb5 : Blk (w5.setCell ⟨w.heap.size + 1, 0, none⟩ (.slice ao5 k5 c5)) (w.heap.size + 1) #[.slice ao5 k5 c5] 24 := HS5.out.set_to 0 _ rfl
        have hbe5 : Below w.heap.size w (w5.setCell ⟨w.heap.size + 1, 0, none⟩ (.slice ao5 k5 c5)) := by
          refine Below.setCell (Below.trans HBE2.out ?_) (Nat.le_succ _) _
          have h1 := HK5.out
          exact ⟨h1.os.trans HE.out.os, h1.tape.trans HE.out.tape, h1.output.trans HE.out.output, hw5, fun b hb => HKW.out b (Nat.lt_of_lt_of_le hb HBE2.out.size) (HTB5.out b (by have := HLL.out; omega))⟩
        have HALL := Lib.hid (show _ ∧ _ ∧ _ ∧ _ from ⟨hkl5, hrb5, hsb5, hbe5⟩)
        have HW5 := Lib.hid hw5
        clear hkl5 hrb5 hsb5 hbe5 hw5
        go_wp2_with fail
        go_roundw
        case rel => exact ⟨i + 1, _, by go_num, by omega, HALL.out.2.2.2, HALL.out.1, HALL.out.2.1, HALL.out.2.2.1, by have := HW5.out; have := HZ22.out; simp; omega, by rw [HFT.out]; exact HNEW.out⟩
        case measure => simp [intOf]; omega
      | rel n x ys =>
        obtain ⟨hnm, hnt, hny, hxs, hyl⟩ := HIT.out
        have HT2 := Lib.hid (show Sl (fun b => wx.heap.size ≤ b ∧ b < w2.heap.size) w2 1 v2 (txs (n :: ⟨#[61]⟩ :: altT x ys)) from hown2.sl)
        obtain ⟨aoT, nT, cT, rfl, hnT, hncT, hcmT⟩ := HT2.out.len
        have htx := texts_at (l := n :: ⟨#[61]⟩ :: altT x ys) (by rw [txs_length, Nat.mul_one] at hnT; rw [hnT]; exact HT2.out)
        obtain ⟨bT, offT, rfl, hbT, t0⟩ := htx 0 (by simp)
        obtain ⟨bT', offT', hbo, -, t1⟩ := htx 1 (by simp)
        cases hbo
        rw [Nat.add_zero] at t0
        have t0' : w2.cell? ⟨bT, offT, none⟩ = some (.string n) := t0
        have t1' : w2.cell? ⟨bT, offT + 1, none⟩ = some (.string ⟨#[61]⟩) := t1
        have HTY := Lib.hid (hown2.typed (g := bT) rfl)
        have HNT := Lib.hid (show nT = 2 * ys.length + 3 from by
          rw [txs_length, Nat.mul_one, List.length_cons, List.length_cons] at hnT
          unfold altT at hnT
          rw [List.length_cons, barT_length] at hnT
          omega)
        have HRU := Lib.hid (rule_any (S := fun b => wx.heap.size ≤ b ∧ b < w2.heap.size) x ys (.slice (some ⟨bT, offT + 2, none⟩) (nT - 2) (cT - 2)) w2 (fun b hb => hb.2) hxs hyl (by
          have := HT2.out.drop 2 (by have := HNT.out; omega)
          rwa [show (txs (n :: ⟨#[61]⟩ :: altT x ys)).drop 2 = txs (altT x ys) from rfl] at this))
        have hnmx := hnm
        have HNM := Lib.hid (refName_any n (by
          unfold isNm at hnmx
          simp only [Bool.and_eq_true, decide_eq_true_eq] at hnmx
          unfold maxLen
          omega) w2)
        rw [hnm] at HNM
        have hne := ba_beq' hnt
        rw [← ByteArray.toList_eq, show (⟨#[116, 104, 105, 115]⟩ : ByteArray).data.toList = [116, 104, 105, 115] from rfl] at hne
        have hne2 := ba_beq' hny
        rw [← ByteArray.toList_eq, show (⟨#[116, 121, 112, 101]⟩ : ByteArray).data.toList = [116, 121, 112, 101] from rfl] at hne2
        have hi0 : i ≠ 0 := fun h => by obtain ⟨m, hm⟩ := HII.out h; cases hm
        obtain ⟨pre, nn, rv, qr, hP, hts, hpl, hql⟩ : ∃ pre n rv qr, PAt wL.heap.size w2 tv pre n rv qr ∧ (its.take i).foldl stepD [] = pre.map (·.1) ++ [⟨n, qr.map (·.1)⟩] ∧ pre.length + 1 ≤ i ∧ qr.length ≤ i := by
          rcases HST2.out with h | h
          · exact absurd h.1 hi0
          · exact h
        obtain ⟨g, kt, ct, cst, rfl, hkt, hLg, hgb, hktc, hctm, hgc⟩ := hP.tys.layN (by simp [tyC])
        obtain ⟨pl, hpl0⟩ : ∃ z, z = pre.length := ⟨_, rfl⟩
        have hrvc : w2.cell? ⟨g, pl * 2 + 1, none⟩ = some rv := by
          rw [hgb.cells]
          have hl : pl * 2 + 1 < ((pre ++ [((⟨nn, qr.map (·.1)⟩ : TyS), rv)]).flatMap tyC).length := by rw [flat_length tyC_length]; simp; omega
          rw [hgc _ hl, ← List.getElem?_eq_getElem hl, List.flatMap_append, List.getElem?_append_right (by rw [flat_length tyC_length]; omega), flat_length tyC_length, hpl0, Nat.add_sub_cancel_left]
          rfl
        obtain rfl : kt = pl + 1 := by rw [flat_length tyC_length] at hkt; simp at hkt; omega
        have HPL := Lib.hid hpl
        have HPL0 := Lib.hid hpl0
        have HQL := Lib.hid hql
        have HTSS := Lib.hid hts
        have HP := Lib.hid hP
        have HGB := Lib.hid hgb
        have HLG := Lib.hid hLg
        have HRVC := Lib.hid hrvc
        have HSZT := Lib.hid hcmT
        obtain ⟨aor, kr, cr, rfl, -, -, -⟩ := hP.rels.sl.len
        have HNR2 := Lib.hid (fun b (e : Value.ownBlock (.slice aor kr cr) = some b) => (HP.out.rels.block b e).2)
        have hc1 : ((nT : Int) == 2) = false := by have := HNT.out; rw [beq_eq_false_iff_ne]; omega
        have hc2 : ¬ (nT : Int) < 3 := by have := HNT.out; omega
        have hc3 : (0 : Int) < (nT : Int) := by omega
        have hc4 : (1 : Int) < (nT : Int) := by omega
        have hc5 : (2 : Int) ≤ (nT : Int) := by omega
        have hc6 : (nT : Int) ≤ (cT : Int) := by omega
        have hc7 : ¬ cT = 2 := by omega
        have hc8 : (2 : Int) ≤ (cT : Int) := by omega
        have hc9 : ((pl : Int) + 1 == 0) = false := by rw [beq_eq_false_iff_ne]; omega
        have hc10 : ¬ ((pl : Int) + 1 = 0) := by omega
        have hw1 : wrap64 ((pl : Int) + 1 - 1) = (pl : Int) := by rw [Int.add_sub_cancel]; exact wrap_in _ (by omega) (by omega)
        have hw3 : IntKind.i64.wrap (pl : Int) = (pl : Int) := IntWalk.i64_in _ (by omega)
        have hlt1 : (pl : Int) < (pl : Int) + 1 := by omega
        have h0n : (0 : Int) ≤ (pl : Int) := by omega
        clear htx t0 t1 hnT hnm hnt hny hxs hyl hnmx hown2 hb2 hi0 hpl hpl0 hql hts hP hgb hgc hkt hLg hrvc
        go_wp2_with fail
        refine HNM.out.mono ?_
        rintro e wy ⟨rfl, rfl⟩
        clear HNM
        go_wp2_with fail
        refine HRU.out.mono ?_
        rintro e w3 ⟨v3, pv, rfl, hsl3, hat3, hb3⟩
        have HRB3 := Lib.hid (HRB2.out.below hb3)
        have HSB3 := Lib.hid (HSB2.out.below hb3)
        have HBE3 := Lib.hid (HBE2.out.trans (hb3.mono HBE2.out.size))
        have HKL3 := Lib.hid (show ∀ b, w.heap.size + 2 ≤ b → b < wL.heap.size → w3.heap[b]? = wL.heap[b]? from fun b h1 h2 => (hb3.block b (Nat.lt_of_lt_of_le h2 HZ22.out)).trans (HKL2.out b h1 h2))
        have HZ3 := Lib.hid (Nat.le_trans HZ22.out hb3.size)
        have HP3 := Lib.hid (HP.out.keep (fun b _ h => hb3.block b h) hb3.size)
        have HGB3 := Lib.hid (HGB.out.below hb3)
        have HRV3 := Lib.hid (Ext.cell hb3 HRVC.out)
        have HT3 := Lib.hid (Ext.cell hb3 t0')
        have HBTZ := Lib.hid (show wx.heap.size ≤ bT ∧ bT < w3.heap.size from ⟨hbT.1, Nat.lt_of_lt_of_le hbT.2 hb3.size⟩)
        have HAT := Lib.hid hat3
        have HTY3 := Lib.hid (show ∃ cur, w3.heap[bT]? = some (.cells cur 9 (0, 0)) from by obtain ⟨cur, h⟩ := HTY.out; exact ⟨cur, (hb3.block bT hbT.2).trans h⟩)
        have HY3 := Lib.hid hb3.size
        obtain ⟨ao3, n3, c3, rfl, hn3, -, -⟩ := hsl3.len
        obtain rfl : n3 = 0 := by simpa using hn3.symm
        obtain ⟨ao5, c5, rfl, -, -, -⟩ := hat3.rows
        generalize hr : altR x ys = r at *
        have HRR := Lib.hid hr
        clear hr
        clear hn3 hsl3 hat3 HRU HRB2 HSB2 HBE2 HKL2 HP HGB HRVC hs2 fs2 hb3 t0' t1' HT2
        have HS4 := Lib.hid (Blk.made w3 #[.int .i64 r.k, .string r.a, .string r.b, .slice ao5 r.ps.length c5] 72)
        have HE4 := Lib.hid (Ext.alloc w3 (.cells #[.int .i64 r.k, .string r.a, .string r.b, .slice ao5 r.ps.length c5] 72))
        have hsc : (w3.alloc (.cells #[.int .i64 r.k, .string r.a, .string r.b, .slice ao5 r.ps.length c5] 72)).cell? ⟨w.heap.size + 1, 0, none⟩ = some (.slice (some ⟨g, 0, none⟩) (pl + 1) ct) := by rw [(HSB3.out.below HE4.out).cells]; rfl
        unfold rV
        go_wp2_with fail
        obtain ⟨w4, hw4⟩ : ∃ z, z = w3.alloc (.cells #[.int .i64 r.k, .string r.a, .string r.b, .slice ao5 r.ps.length c5] 72) := ⟨_, rfl⟩
        rw [← hw4] at HS4 HE4 ⊢
        clear hw4 hsc
        obtain ⟨wd, hwd⟩ : ∃ z, z = w4.drew := ⟨_, rfl⟩
        have hE : Ext w3 wd := by rw [hwd]; exact HE4.out.trans (Ext.drew w4)
        have hrd : Blk wd w3.heap.size #[.int .i64 r.k, .string r.a, .string r.b, .slice ao5 r.ps.length c5] 72 := by rw [hwd]; exact HS4.out
        have hPd := HP3.out.keep (fun b _ h => hE.block b h) hE.size
        have htd := Ext.cell hE HT3.out
        have hvd := Ext.cell hE HRV3.out
        have hgd := HGB3.out.below hE
        have hne : Value.ownBlock (.slice aor kr cr) ≠ some g := fun e => hPd.rels.apart hPd.tys (by decide) e rfl
        have hnr : ∀ b, Value.ownBlock (.slice aor kr cr) = some b → wL.heap.size ≤ b ∧ b < w3.heap.size := fun b e => HP3.out.rels.block b e
        have hnT : Value.ownBlock (.slice aor kr cr) ≠ some bT := fun e => by
          obtain ⟨c1, h1⟩ := HP3.out.rels.typed e
          obtain ⟨c2, h2⟩ := HTY3.out
          rw [h1] at h2
          exact absurd (show (82 : TypeId) = 9 by injection Option.some.inj h2) (by decide)
        have hnB : Value.ownBlock (.slice aor kr cr) ≠ some w3.heap.size := fun e => by have := (hnr _ e).2; omega
        have HNR := Lib.hid hnr
        have HEX := Lib.hid hE
        have HPD := Lib.hid hPd
        have HGD := Lib.hid hgd
        have hKb : ∀ b, b < wd.heap.size → Value.ownBlock (.slice aor kr cr) ≠ some b → ∀ W, Kept (fun b => b < wd.heap.size ∧ Value.ownBlock (.slice aor kr cr) ≠ some b) wd W → W.heap[b]? = wd.heap[b]? := fun b h1 h2 W hW => hW.block b ⟨h1, h2⟩
        have hA1 : ∀ W, Kept (fun b => b < wd.heap.size ∧ Value.ownBlock (.slice aor kr cr) ≠ some b) wd W → W.cell? ⟨bT, offT, none⟩ = some (.string n) := fun W hW =>
          (World.cell?_of_block (a := ⟨bT, offT, none⟩) (hKb bT (World.block_lt_of_cell? wd _ htd) hnT W hW)).trans htd
        have hA2 : ∀ W, Kept (fun b => b < wd.heap.size ∧ Value.ownBlock (.slice aor kr cr) ≠ some b) wd W → W.cell? ⟨g, pl * 2 + 1, none⟩ = some (.slice aor kr cr) := fun W hW =>
          (World.cell?_of_block (a := ⟨g, pl * 2 + 1, none⟩) (hKb g (World.block_lt_of_cell? wd _ hvd) hne W hW)).trans hvd
        have hAR : ∀ W, Kept (fun b => b < wd.heap.size ∧ Value.ownBlock (.slice aor kr cr) ≠ some b) wd W → Blk W w3.heap.size #[.int .i64 r.k, .string r.a, .string r.b, .slice ao5 r.ps.length c5] 72 := fun W hW => (hKb _ hrd.lt hnB W hW).trans hrd
        have hB0 : ∀ W, Kept (fun b => b < wd.heap.size ∧ Value.ownBlock (.slice aor kr cr) ≠ some b) wd W → W.cell? ⟨w3.heap.size, 0, none⟩ = some (.int .i64 r.k) := fun W hW => (hAR W hW).cells 0
        have hB1 : ∀ W, Kept (fun b => b < wd.heap.size ∧ Value.ownBlock (.slice aor kr cr) ≠ some b) wd W → W.cell? ⟨w3.heap.size, 1, none⟩ = some (.string r.a) := fun W hW => (hAR W hW).cells 1
        have hB2 : ∀ W, Kept (fun b => b < wd.heap.size ∧ Value.ownBlock (.slice aor kr cr) ≠ some b) wd W → W.cell? ⟨w3.heap.size, 2, none⟩ = some (.string r.b) := fun W hW => (hAR W hW).cells 2
        have hB3 : ∀ W, Kept (fun b => b < wd.heap.size ∧ Value.ownBlock (.slice aor kr cr) ≠ some b) wd W → W.cell? ⟨w3.heap.size, 3, none⟩ = some (.slice ao5 r.ps.length c5) := fun W hW => (hAR W hW).cells 3
        have HNG := Lib.hid hne
        have HVD := Lib.hid hA2
        have HOD := Lib.hid hPd.rels
        have HSZD := Lib.hid (show wL.heap.size ≤ wd.heap.size from Nat.le_trans HZ3.out hE.size)
        refine region_walkL 14 (Kept (fun b => b < wd.heap.size ∧ Value.ownBlock (.slice aor kr cr) ≠ some b) wd) (by rw [← hwd]; exact Kept.refl _ _) (by kernel_rfl) (by kernel_rfl) (fun _ _ d _ _ h => by cases d <;> exact h) ?_
        rw [← hwd]
        clear hwd hne hnr hnT hnB hKb hAR hvd htd hrd hPd hgd hE
        ((refine WalkL.take 0 _ ?_ (by simp only [List.getElem?_toArray, List.getElem?_cons_zero]; rfl) (by kernel_rfl) (by kernel_rfl) (by kernel_rfl) (by rfl) (fun W hW => ?_) ?_; rotate_left; · (go_simp; try with_reducible rfl)); simp only [Act.put, List.setIfInBounds_toArray, List.set_cons_zero, List.set_cons_succ]); ((refine WalkL.take 1 _ ?_ (by simp only [List.getElem?_toArray, List.getElem?_cons_succ, List.getElem?_cons_zero]; rfl) (by kernel_rfl) (by kernel_rfl) (by kernel_rfl) (by rfl) (fun W hW => ?_) ?_; rotate_left; · (go_simp; try with_reducible rfl)); simp only [Act.put, List.setIfInBounds_toArray, List.set_cons_zero, List.set_cons_succ]); ((refine WalkL.take 2 _ ?_ (by simp only [List.getElem?_toArray, List.getElem?_cons_succ, List.getElem?_cons_zero]; rfl) (by kernel_rfl) (by kernel_rfl) (by kernel_rfl) (by rfl) (fun W hW => ?_) ?_; rotate_left; · (go_simp; try with_reducible rfl)); simp only [Act.put, List.setIfInBounds_toArray, List.set_cons_zero, List.set_cons_succ]); ((refine WalkL.take 3 _ ?_ (by simp only [List.getElem?_toArray, List.getElem?_cons_succ, List.getElem?_cons_zero]; rfl) (by kernel_rfl) (by kernel_rfl) (by kernel_rfl) (by rfl) (fun W hW => ?_) ?_; rotate_left; · (go_simp; try with_reducible rfl)); simp only [Act.put, List.setIfInBounds_toArray, List.set_cons_zero, List.set_cons_succ]); ((refine WalkL.take 4 _ ?_ (by simp only [List.getElem?_toArray, List.getElem?_cons_succ, List.getElem?_cons_zero]; rfl) (by kernel_rfl) (by kernel_rfl) (by kernel_rfl) (by rfl) (fun W hW => ?_) ?_; rotate_left; · (go_simp; try with_reducible rfl)); simp only [Act.put, List.setIfInBounds_toArray, List.set_cons_zero, List.set_cons_succ]); ((refine WalkL.take 5 _ ?_ (by simp only [List.getElem?_toArray, List.getElem?_cons_succ, List.getElem?_cons_zero]; rfl) (by kernel_rfl) (by kernel_rfl) (by kernel_rfl) (by rfl) (fun W hW => ?_) ?_; rotate_left; · (go_simp; try with_reducible rfl)); simp only [Act.put, List.setIfInBounds_toArray, List.set_cons_zero, List.set_cons_succ]); ((refine WalkL.take 6 _ ?_ (by simp only [List.getElem?_toArray, List.getElem?_cons_succ, List.getElem?_cons_zero]; rfl) (by kernel_rfl) (by kernel_rfl) (by kernel_rfl) (by rfl) (fun W hW => ?_) ?_; rotate_left; · (go_simp; try with_reducible rfl)); simp only [Act.put, List.setIfInBounds_toArray, List.set_cons_zero, List.set_cons_succ]); ((refine WalkL.take 7 _ ?_ (by simp only [List.getElem?_toArray, List.getElem?_cons_succ, List.getElem?_cons_zero]; rfl) (by kernel_rfl) (by kernel_rfl) (by kernel_rfl) (by rfl) (fun W hW => ?_) ?_; rotate_left; · (go_simp; try with_reducible rfl)); simp only [Act.put, List.setIfInBounds_toArray, List.set_cons_zero, List.set_cons_succ]); ((refine WalkL.take 8 _ ?_ (by simp only [List.getElem?_toArray, List.getElem?_cons_succ, List.getElem?_cons_zero]; rfl) (by kernel_rfl) (by kernel_rfl) (by kernel_rfl) (by rfl) (fun W hW => ?_) ?_; rotate_left; · (go_simp; try with_reducible rfl)); simp only [Act.put, List.setIfInBounds_toArray, List.set_cons_zero, List.set_cons_succ]); ((refine WalkL.take 9 _ ?_ (by simp only [List.getElem?_toArray, List.getElem?_cons_succ, List.getElem?_cons_zero]; rfl) (by kernel_rfl) (by kernel_rfl) (by kernel_rfl) (by rfl) (fun W hW => ?_) ?_; rotate_left; · (go_simp; try with_reducible rfl)); simp only [Act.put, List.setIfInBounds_toArray, List.set_cons_zero, List.set_cons_succ])
        refine WalkL.one 10 (by kernel_rfl) ?_
        refine ⟨_, (by simp only [List.getElem?_toArray, List.getElem?_cons_succ, List.getElem?_cons_zero]; rfl), by rfl, fun K hK => ?_⟩
        go_simp
        refine hK.out _ _ ((Kept.refl _ wd).alloc (fun b hb => hb.1) _) ?_
        clear hK hA1 hA2 hB0 hB1 hB2 hB3
        refine WalkL.one 11 (by kernel_rfl) ?_
        refine ⟨_, (by simp only [List.getElem?_toArray, List.getElem?_cons_succ, List.getElem?_cons_zero]; rfl), by rfl, fun K hK => ?_⟩
        refine wp_ownw relsElT (.tmp 134) (.tmp 140) rfl rfl (HOD.out.below (Ext.alloc wd _)) rfl (m := 1) (news := [.string n, .int .i64 r.k, .string r.a, .string r.b, .slice ao5 r.ps.length c5]) rfl (fun j u hu => ?_) (by simp [Value.oneCell']) (by have := HQL.out; have := HI.out; have := HN.out; rw [flat_length relC_length]; simp; omega) (by have := HQL.out; have := HI.out; have := HN.out; rw [flat_length relC_length]; simp; omega) (by have := HSZD.out; simp; omega) (fun v5 w5 hown5 hb5 hgr5 => ?_)
        · rw [Addr.add_lit, cell_of_row _ wd.heap.size (0 + j) #[.string n, .int .i64 r.k, .string r.a, .string r.b, .slice ao5 r.ps.length c5] 82 (0, 0) (heap_alloc_new wd _)]
          simpa using hu
        have hkk : Kept (fun b => b < wd.heap.size ∧ Value.ownBlock (.slice aor kr cr) ≠ some b) wd w5 := ((Kept.refl _ wd).alloc (fun b hb => hb.1) (.cells #[.string n, .int .i64 r.k, .string r.a, .string r.b, .slice ao5 r.ps.length c5] 82)).trans ⟨hgr5.os, hgr5.tape, hgr5.output, hgr5.size, fun b hb => hgr5.block b (by have := hb.1; simp; omega) (fun e => hb.2 e.symm)⟩
        refine hK.out _ _ hkk ?_
        clear hK
        simp only [Act.put, List.setIfInBounds_toArray, List.set_cons_zero, List.set_cons_succ]
        have HB5 := Lib.hid (show ∀ b, v5.ownBlock = some b → (Value.slice aor kr cr).ownBlock = some b ∨ wd.heap.size ≤ b from fun b hg => (hb5 b hg).imp id (fun h => by simp at h; omega))
        obtain ⟨ao6, k6, c6, rfl, -, -, -⟩ := hown5.sl.len
        have hg5 := hkk.blk HGD.out ⟨HGD.out.lt, HNG.out⟩
        have v5c := HVD.out w5 hkk
        have f5 := hg5.free
        have HK5 := Lib.hid (show Kept (fun b => b < wd.heap.size ∧ Value.ownBlock (.slice aor kr cr) ≠ some b) wd w5 from hkk)
        have HO5 := Lib.hid hown5
        clear hb5 hgr5 hkk hg5 hown5
        ((refine WalkL.take 12 _ ?_ (by simp only [List.getElem?_toArray, List.getElem?_cons_succ, List.getElem?_cons_zero]; rfl) (by kernel_rfl) (by kernel_rfl) (by kernel_rfl) (by rfl) (fun W hW => ?_) ?_; rotate_left; · (go_simp; try with_reducible rfl)); simp only [Act.put, List.setIfInBounds_toArray, List.set_cons_zero, List.set_cons_succ]); ((refine WalkL.take 13 _ ?_ (by simp only [List.getElem?_toArray, List.getElem?_cons_succ, List.getElem?_cons_zero]; rfl) (by kernel_rfl) (by kernel_rfl) (by kernel_rfl) (by rfl) (fun W hW => ?_) ?_; rotate_left; · (go_simp; try with_reducible rfl)); simp only [Act.put, List.setIfInBounds_toArray, List.set_cons_zero, List.set_cons_succ])
        refine WalkL.last (by kernel_rfl) (by kernel_rfl) ?_
        refine ⟨_, (by simp only [List.getElem?_toArray, List.getElem?_cons_succ, List.getElem?_cons_zero]; rfl), by rfl, fun K hK => ?_⟩
        go_simp
        refine hK.out _ _ ?_
        clear hK f5 v5c
        obtain ⟨W, hW⟩ : ∃ z, z = w5.setCell ⟨g, pl * 2 + 1, none⟩ (.slice ao6 k6 c6) := ⟨_, rfl⟩
        have hoth : ∀ b, b ≠ g → W.heap[b]? = w5.heap[b]? := fun b hb => by rw [hW]; exact Below.heap_setCell _ _ _ _ hb
        have hWs : W.heap.size = w5.heap.size := by rw [hW]; simp
        have hold : ∀ b, b < w3.heap.size → b < wL.heap.size → W.heap[b]? = w3.heap[b]? := fun b h1 h2 => by
          have h3 := HLG.out
          rw [hoth b (by omega)]
          exact (HK5.out.block b ⟨Nat.lt_of_lt_of_le h1 HEX.out.size, fun e => by have := (HNR.out b e).1; omega⟩).trans (HEX.out.block b h1)
        have hrel := HPD.out.rel (m := n) (r := r) (pv := .slice ao5 r.ps.length c5) (w' := w5) (rv' := .slice ao6 k6 c6) (fun b _ h1 h2 => HK5.out.block b ⟨h1, h2⟩) HK5.out.size HO5.out HB5.out
          ((HAT.out.same ((Same.below HEX.out).mono fun b hb => hb.2)).mono fun b hb => ⟨⟨Nat.le_trans HZ22.out hb.1, Nat.lt_of_lt_of_le hb.2 HEX.out.size⟩, fun e => by have := (HTB.out b e).2; have := hb.1; have := HXY.out; omega, fun e => by have := HNR2.out b e; have := hb.1; omega⟩)
        rw [← HPL0.out, ← hW] at hrel
        have hbe5 : Below w.heap.size w W := by
          refine Below.trans HBE3.out ⟨?_, ?_, ?_, ?_, fun b hb => hold b (Nat.lt_of_lt_of_le hb HBE3.out.size) (by have := HLL.out; omega)⟩
          · rw [hW]; exact HK5.out.os.trans HEX.out.os
          · rw [hW]; exact HK5.out.tape.trans HEX.out.tape
          · rw [hW]; exact HK5.out.output.trans HEX.out.output
          · rw [hWs]; exact Nat.le_trans HEX.out.size HK5.out.size
        have HALL := Lib.hid (show _ ∧ _ ∧ _ ∧ _ ∧ _ ∧ _ from ⟨(fun b (h1 : w.heap.size + 2 ≤ b) (h2 : b < wL.heap.size) => (hold b (Nat.lt_of_lt_of_le h2 HZ3.out) h2).trans (HKL3.out b h1 h2)),
          (show Blk W w.heap.size #[.slice none 0 0] 24 from (hold _ HRB3.out.lt (by have := HLL.out; omega)).trans HRB3.out),
          (show Blk W (w.heap.size + 1) #[.slice (some ⟨g, 0, none⟩) (pl + 1) ct] 24 from (hold _ HSB3.out.lt (by have := HLL.out; omega)).trans HSB3.out), hbe5, hrel, (show wL.heap.size ≤ W.heap.size from by rw [hWs]; exact Nat.le_trans HSZD.out HK5.out.size)⟩)
        have HEQ := Lib.hid (show (its.take (i + 1)).foldl stepD [] = pre.map (·.1) ++ [⟨nn, (qr ++ [((n, r), Value.slice ao5 r.ps.length c5)]).map (·.1)⟩] from by
          rw [HFT.out, HTSS.out, stepD_rel, HRR.out]; simp)
        rw [← hW]
        clear hW hoth hWs hold hrel hbe5
        go_wp2_with fail
        go_roundw
        case rel => exact ⟨i + 1, _, by go_num, by omega, HALL.out.2.2.2.1, HALL.out.1, HALL.out.2.1, HALL.out.2.2.1, HALL.out.2.2.2.2.2, .inr ⟨pre, nn, _, _, HALL.out.2.2.2.2.1, HEQ.out, by have := HPL.out; omega, by have := HQL.out; simp; omega⟩⟩
        case measure => simp [intOf]; omega
    · obtain rfl : i = its.length := by omega
      have hsc := HSB.out.cells
      have hrc := HRB.out.cells
      have hrf := HRB.out.free
      obtain ⟨cs, hcs, -⟩ := HST.out.own
      obtain ⟨aot, kt, ct, rfl, -, -, -⟩ := hcs.sl.len
      rw [List.take_length] at HST
      have hb1 := HRB.out.set_to 0 (.slice aot kt ct) rfl
      have HFB := Lib.hid hb1
      have HFE := Lib.hid (show Below w.heap.size w (wr.setCell ⟨w.heap.size, 0, none⟩ (.slice aot kt ct)) from setAt HBE.out)
      clear hb1 hrb hsb hcs
      go_wp2_with fail
      refine bodyPost_ret (v := .tuple #[.agg #[.slice aot kt ct], .int .i64 0, .int .i64 0]) ?_ rfl ⟨_, rfl, ?_, HFE.out⟩
      · rw [results_cell_tmp2 rfl]
        have hl := run_loadVar_row (P := Try.prog) _ w.heap.size _ 24 _ _ _ HFB.out Try.underlying24 rfl (by kernel_rfl)
        simp [asAddr, hl, Result.andThen]
      · refine (HST.out.tysAt.same (fun b hb => Below.heap_setCell _ _ _ _ (by have := HLL.out; have := hb.1; show b ≠ w.heap.size; omega))).mono fun b hb => ⟨by have := HLL.out; have := hb.1; omega, by simpa using hb.2⟩

end Go.Proofs.Ytipddhcfcehcaaa
