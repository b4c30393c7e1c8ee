/- Lemmas for the claim, no condition. -/
import Derived.Test.YtjdigpfipmckhaaGreatYReWalks0
import Derived.Test.YtjdigpfipmckhaaGreatYReWalks1
import Derived.Test.YtjdigpfipmckhaaGreatYReWalks3
import Derived.Test.YtjdigpfipmckhaaGreatYReWalks9
import Derived.Test.YtjdigpfipmckhaaGreatYReWalks10
import Derived.Test.YtjdigpfipmckhaaGreatYReWalks11
namespace Go.Proofs.YtjdigpfipmckhaaGreat
open Go Go.RowKit Go.Maps
abbrev NLG (κ ι : Type) := List (κ × Nat × List ι)
abbrev nVG {ι : Type} : Nat × List ι → Value := fun x => .map (some x.1)
abbrev blG {ι : Type} (l : List ι) : List (ι × Bool) := l.map fun p => (p, true)
def innG {κ ι : Type} [DecidableEq κ] (l : NLG κ ι) (p : κ) : List ι := match lookA l p with | some x => x.2 | none => []
structure NestG (P : Program) (ko k : TypeId) {κ ι : Type} (kvo : κ → Value) (kv : ι → Value) (w : World) (b : Nat) (l : NLG κ ι) : Prop where
  top : Mp P ko kvo nVG w b l
  inner : ∀ x ∈ l, Mp P k kv bV w x.2.1 (blG x.2.2)
  apart : (b :: l.map (·.2.1)).Nodup
def nBG {κ ι : Type} (b : Nat) (l : NLG κ ι) : List Nat := b :: l.map (·.2.1)
def mOG {κ ι : Type} [DecidableEq κ] (l : NLG κ ι) (q : κ) : Option Nat := (lookA l q).map (·.1)
theorem Mp.isMap {P : Program} {k : TypeId} {κ α : Type} {kv : κ → Value} {ev : α → Value} {w : World} {b : Nat} {l : List (κ × α)} (h : Mp P k kv ev w b l) : ∃ es c, w.heap[b]? = some (.map es c) := by
  obtain ⟨es, c, h, _⟩ := h
  exact ⟨es, c, h⟩
theorem Mp.keyed {P : Program} {k : TypeId} {κ α : Type} {kv : κ → Value} {ev : α → Value} {w : World} {b : Nat} {l : List (κ × α)} (h : Mp P k kv ev w b l) : ∀ p ∈ l, ∃ q, keyOf P k (kv p.1) = some q := by
  obtain ⟨_, _, _, _, _, h⟩ := h
  exact h
theorem Mp.pairs {P : Program} {k : TypeId} {κ α : Type} {kv : κ → Value} {ev : α → Value} {w : World} {b : Nat} {l l' : List (κ × α)} (h : Mp P k kv ev w b l) (he : l'.map (fun p => (kv p.1, ev p.2)) = l.map fun p => (kv p.1, ev p.2)) (hk : ∀ p ∈ l', ∃ q, keyOf P k (kv p.1) = some q) : Mp P k kv ev w b l' := by
  obtain ⟨es, c, h1, h2, h3, _⟩ := h
  exact ⟨es, c, h1, h2, h3.trans he.symm, hk⟩
theorem put_ghost {κ α β : Type} [DecidableEq κ] (f : κ × α → β) {a : κ} {x : α} (y : α) (hf : f (a, y) = f (a, x)) : ∀ {l : List (κ × α)}, lookA l a = some x → (putA l a y).map f = l.map f
  | p :: r, h => by
    unfold lookA at h
    unfold putA
    by_cases hp : p.1 = a
    · rw [if_pos hp] at h ⊢
      obtain rfl : p.2 = x := by simpa using h
      subst hp
      simp [hf]
    · rw [if_neg hp] at h ⊢
      simp [put_ghost f y hf h]
section
variable {κ ι : Type} {P : Program} {ko k : TypeId} {kvo : κ → Value} {kv : ι → Value} {w w' : World} {b : Nat} {l : NLG κ ι}
theorem NestG.isMap (h : NestG P ko k kvo kv w b l) : ∀ x ∈ nBG b l, ∃ es c, w.heap[x]? = some (.map es c) := by
  intro x hx
  rcases List.mem_cons.1 hx with rfl | hx
  · exact h.top.isMap
  · obtain ⟨e, he, rfl⟩ := List.mem_map.1 hx
    exact (h.inner e he).isMap
theorem NestG.lt (h : NestG P ko k kvo kv w b l) : ∀ x ∈ nBG b l, x < w.heap.size := fun x hx => by
  obtain ⟨es, c, hm⟩ := h.isMap x hx
  exact (Array.getElem?_eq_some_iff.1 hm).1
theorem NestG.same (h : NestG P ko k kvo kv w b l) (hs : ∀ x ∈ nBG b l, w'.heap[x]? = w.heap[x]?) : NestG P ko k kvo kv w' b l :=
  ⟨h.top.same (hs b (by simp [nBG])), fun x hx => (h.inner x hx).same (hs _ (by simp only [nBG]; exact List.mem_cons_of_mem _ (List.mem_map.2 ⟨x, hx, rfl⟩))), h.apart⟩
theorem NestG.below (h : NestG P ko k kvo kv w b l) (hb : Below w.heap.size w w') : NestG P ko k kvo kv w' b l := h.same fun x hx => hb.block x (h.lt x hx)
theorem NestG.notBlk (h : NestG P ko k kvo kv w b l) {B : Nat} {cs : Array Value} {t : TypeId} (hB : Blk w B cs t) : B ∉ nBG b l := fun hx => by
  obtain ⟨es, c, hm⟩ := h.isMap B hx
  rw [show w.heap[B]? = _ from hB] at hm
  cases hm
variable [DecidableEq κ]
theorem NestG.look (h : NestG P ko k kvo kv w b l) (K : Keyed P ko) (inj : ∀ a b, kvo a = kvo b → a = b) {t e : TypeId} (ht : P.underlying t = some (.map ko e)) (hz : (zeroValue e).run P w = .ok (.map none) w) {q : κ} (hk : ∃ z, keyOf P ko (kvo q) = some z) :
    (Instr.lookup t (.map (some b)) (kvo q) false).run P w = .ok (.map (mOG l q)) w := by
  rw [h.top.look K inj ht hz false hk]
  unfold mOG lookV
  cases lookA l q <;> rfl
theorem NestG.fresh (h : NestG P ko k kvo kv w b l) {q : κ} {bn : Nat} (hl : lookA l q = none) (hn : Mp P k kv bV w bn (blG [])) (hb : bn ∉ nBG b l) (ht : Turned w w' b) (hm : Mp P ko kvo nVG w' b (putA l q (bn, []))) : NestG P ko k kvo kv w' b (putA l q (bn, [])) := by
  have hap := h.apart
  rw [put_miss (look_none_iff.1 hl)] at hm ⊢
  refine ⟨hm, fun x hx => ?_, ?_⟩
  · rcases List.mem_append.1 hx with hx | hx
    · refine (h.inner x hx).same (ht.kept.block _ fun e => ?_)
      rw [List.nodup_cons] at hap
      exact hap.1 (e ▸ List.mem_map.2 ⟨x, hx, rfl⟩)
    · obtain rfl : x = (q, bn, []) := by simpa using hx
      exact hn.same (ht.kept.block _ fun e => hb (by simp [nBG, e]))
  · rw [List.map_append, ← List.cons_append, List.nodup_append]
    refine ⟨hap, by simp, fun x hx y hy => ?_⟩
    obtain rfl : y = bn := by simpa using hy
    rintro rfl
    exact hb hx
theorem fresh_blocksG {q : κ} {bn : Nat} (hl : lookA l q = none) : ∀ x ∈ nBG b (putA l q (bn, [])), x ∈ nBG b l ∨ x = bn := by
  rw [put_miss (look_none_iff.1 hl)]
  intro x hx
  simp only [nBG, List.map_append, List.mem_cons, List.mem_append, List.map_cons, List.map_nil, List.not_mem_nil, or_false] at hx ⊢
  rcases hx with h | h | h
  · exact .inl (.inl h)
  · exact .inl (.inr h)
  · exact .inr h
theorem NestG.mark (h : NestG P ko k kvo kv w b l) {q : κ} {bi : Nat} {ss ss' : List ι} (hl : lookA l q = some (bi, ss)) (ht : Turned w w' bi) (hm : Mp P k kv bV w' bi (blG ss')) : NestG P ko k kvo kv w' b (putA l q (bi, ss')) := by
  have hmem := look_mem hl
  have hap := h.apart
  have hbn : b ≠ bi := fun e => by
    rw [List.nodup_cons] at hap
    exact hap.1 (e ▸ List.mem_map.2 ⟨_, hmem, rfl⟩)
  refine ⟨?_, fun x hx => ?_, ?_⟩
  · refine Mp.pairs (h.top.same (ht.kept.block _ hbn)) (put_ghost (x := (bi, ss)) _ (bi, ss') rfl hl) fun x hx => ?_
    rcases put_keys_mem _ _ _ hx with rfl | hx
    · have := h.top.keyed _ hmem
      exact this
    · exact h.top.keyed _ hx
  · by_cases hxb : x.2.1 = bi
    · have hnd : (l.map (·.2.1)).Nodup := (List.nodup_cons.1 hap).2
      have hx2 : x = (q, bi, ss') := by
        have hkn := h.top.nodup
        rw [show putA l q (bi, ss') = l.map (fun e => if e.1 = q then (q, bi, ss') else e) from ?_] at hx
        · obtain ⟨e, he, rfl⟩ := List.mem_map.1 hx
          by_cases heq : e.1 = q
          · simp [heq]
          · simp only [heq, if_false] at hxb ⊢
            exfalso
            obtain ⟨i, hi, hie⟩ := List.getElem_of_mem he
            obtain ⟨j, hj, hje⟩ := List.getElem_of_mem hmem
            have hij : i = j := by
              have h1 : (l.map (·.2.1))[i]'(by simpa using hi) = (l.map (·.2.1))[j]'(by simpa using hj) := by simp [hie, hje, hxb]
              have hpw := List.pairwise_iff_getElem.1 hnd
              rcases Nat.lt_trichotomy i j with hlt | heq' | hlt
              · exact absurd h1 (hpw i j _ _ hlt)
              · exact heq'
              · exact absurd h1.symm (hpw j i _ _ hlt)
            subst hij
            rw [hie] at hje
            exact heq (by rw [hje])
        · clear hx hxb hnd hap hmem hbn ht hm h
          induction l with
          | nil => simp [lookA] at hl
          | cons e r ih =>
            simp only [List.map_cons, List.nodup_cons] at hkn
            unfold lookA at hl
            unfold putA
            by_cases he : e.1 = q
            · rw [if_pos he, List.map_cons, if_pos he]
              congr 1
              rw [eq_comm]
              conv => rhs; rw [← List.map_id r]
              refine List.map_congr_left fun y hy => ?_
              rw [if_neg (fun hyq => hkn.1 (by rw [he, ← hyq]; exact List.mem_map.2 ⟨y, hy, rfl⟩))]
              rfl
            · rw [if_neg he] at hl ⊢
              rw [List.map_cons, if_neg he, ih hl hkn.2]
      subst hx2
      exact hm
    · rcases put_keys_mem _ _ _ hx with rfl | hx
      · exact absurd rfl hxb
      · exact (h.inner x hx).same (ht.kept.block _ hxb)
  · rw [put_ghost (x := (bi, ss)) (fun e : κ × Nat × List ι => e.2.1) (bi, ss') rfl hl]
    exact hap
theorem mark_blocksG {q : κ} {bi : Nat} {ss ss' : List ι} (hl : lookA l q = some (bi, ss)) : nBG b (putA l q (bi, ss')) = nBG b l := by
  unfold nBG
  rw [put_ghost (x := (bi, ss)) (fun e : κ × Nat × List ι => e.2.1) (bi, ss') rfl hl]
end
end Go.Proofs.YtjdigpfipmckhaaGreat
namespace Go.Proofs.YtjdigpfipmckhaaGreat
open Go Go.RowKit Go.Maps
structure O2 where
  t : ByteArray
  i : ByteArray
deriving DecidableEq
def oV (o : O2) : Value := .agg #[.string o.t, .string o.i]
theorem oV_inj (a b : O2) (h : oV a = oV b) : a = b := by
  obtain ⟨a1, a2⟩ := a
  obtain ⟨b1, b2⟩ := b
  simpa [oV] using h
def O2.Ok (o : O2) : Prop := o.t.size ≤ maxLen ∧ o.i.size ≤ maxLen
theorem objK : Keyed Tryz.prog 28 := Keyed.of_law (deep_law_laid laidOut (m := 3) (by decide) (of_decide_eq_true (by kernel_rfl)) (by kernel_rfl) (by kernel_rfl))
theorem obj_key (o : O2) (h : o.Ok) : ∃ q, keyOf Tryz.prog 28 (oV o) = some q := by
  obtain ⟨d, hd⟩ := types_many
  have e := obj_lits (d + 1 + 1) o.t o.i h.1 h.2
  have e2 : (Tryz.prog.keyType 28 && (oV o).formed Tryz.prog 28) = true := by kernel_rfl
  have hs : Tryz.prog.types.size + 1 = d + 1 + 1 + 1 + 1 := by omega
  unfold keyOf
  rw [Tryz.underlying28]
  dsimp only
  rw [if_pos e2, hs]
  rw [show (oV o).cells.toList = [.string o.t, .string o.i] from rfl, e]
  exact ⟨_, rfl⟩
def P3.obj (p : P3) : O2 := ⟨p.t, p.i⟩
def subE : Elm P3 := ⟨63, 3, pC, pC_length, by decide⟩
def pntE : Elm P3 := ⟨30, 3, pC, pC_length, by decide⟩
def pointsOf (T : List Tup) (s : P3) : List P3 := (T.filter fun t => decide (t.s = s)).map (·.o)
def ObjIn (T : List Tup) (o : O2) : Prop := ∃ t ∈ T, t.o.obj = o ∨ t.s.obj = o
theorem subsOf_snoc (T : List Tup) (t : Tup) (p : P3) : subsOf (T ++ [t]) p = if t.o = p then subsOf T p ++ [t.s] else subsOf T p := by
  unfold subsOf
  rw [List.filter_append, List.map_append]
  by_cases h : t.o = p
  · simp [h]
  · simp [h]
theorem pointsOf_snoc (T : List Tup) (t : Tup) (p : P3) : pointsOf (T ++ [t]) p = if t.s = p then pointsOf T p ++ [t.o] else pointsOf T p := by
  unfold pointsOf
  rw [List.filter_append, List.map_append]
  by_cases h : t.s = p
  · simp [h]
  · simp [h]
abbrev OL := NLG ByteArray O2
abbrev ONest (w : World) (b : Nat) (l : OL) : Prop := NestG Tryz.prog 9 28 Value.string oV w b l
structure BkOf (w : World) (B b m1 m2 m3 : Nat) (l : OL) (T : List Tup) : Prop where
  box : Blk w b #[.map (some m1), .map (some m2), .map (some m3)] 123
  subs : MR Tryz.prog 30 pV subE w B m1 (subsOf T)
  pnts : MR Tryz.prog 63 pV pntE w B m2 (pointsOf T)
  objs : ONest w m3 l
  ne : m1 ≠ m2 ∧ m1 ∉ nBG m3 l ∧ m2 ∉ nBG m3 l
  what : ∀ typ o, o ∈ innG l typ ↔ o.t = typ ∧ ObjIn T o
def BookAt (w : World) (b : Nat) (T : List Tup) : Prop := ∃ B m1 m2 m3 l, BkOf w B b m1 m2 m3 l T
section
variable {w w' : World} {B b m1 m2 m3 : Nat} {l : OL} {T : List Tup}
theorem BkOf.ext (h : BkOf w B b m1 m2 m3 l T) (hx : Ext w w') : BkOf w' B b m1 m2 m3 l T := ⟨h.box.below hx, h.subs.up hx, h.pnts.up hx, h.objs.below hx, h.ne, h.what⟩
theorem BookAt.ext (h : BookAt w b T) (hx : Ext w w') : BookAt w' b T := by
  obtain ⟨B, m1, m2, m3, l, h⟩ := h
  exact ⟨B, m1, m2, m3, l, h.ext hx⟩
end
end Go.Proofs.YtjdigpfipmckhaaGreat
namespace Go.Proofs.YtjdigpfipmckhaaGreat
open Go Go.RowKit Go.Maps
set_option maxRecDepth 100000 in
set_option maxHeartbeats 1000000 in
theorem cloneU_own {S : Nat → Prop} (v : Value) (bs : List P3) (w : World) (hSw : ∀ b, S b → b < w.heap.size) (h : Sl S w 3 v (pcs bs)) (hl : bs.length ≤ 1073741824) :
    Calls Tryz.prog 235 #[v] w fun e w' => ∃ v', e = .returned v' ∧ Own w' w.heap.size 63 3 v' (pcs bs) ∧ Ext w w' := by
  have HS := Lib.hid h
  have HL := Lib.hid hl
  obtain ⟨ao, n, c, rfl, hn, hnc, hcm, hnil, -⟩ := h
  rw [pcs_length] at hn
  obtain rfl : n = bs.length := by omega
  rcases ao with _ | ad
  · obtain rfl : c = 0 := hnil rfl
    obtain rfl : bs = [] := List.eq_nil_of_length_eq_zero (by omega)
    simp only [List.length_nil] at *
    have hq : ∀ W, (binOp BinOp.eql 52 (.slice none 0 0) (.slice none 0 0)).run Tryz.prog W = .ok (.bool true) W := fun _ => by kernel_rfl
    go_enter Tryz.func235, Tryz.ntmps235
    go_wp2_with fail
    go_ret
    exact ⟨_, rfl, Own.nil _ _ _ _, Ext.refl _⟩
  · have hq : ∀ W, (binOp BinOp.eql 52 (.slice (some ad) bs.length c) (.slice none 0 0)).run Tryz.prog W = .ok (.bool false) W := fun _ => by kernel_rfl
    have HO := Lib.hid (Own.made w (Nat.le_refl _) 63 3)
    have HX := Lib.hid (Ext.alloc w (.cells #[] 63))
    have HS1 := Lib.hid (HS.out.same (w' := w.alloc (.cells #[] 63)) ((Same.below HX.out).mono hSw))
    go_enter Tryz.func235, Tryz.ntmps235
    go_wp2_with (at_builtin; go_must (refine wpList_own2 subsT rfl (.tmp 5) (.tmp 6) rfl rfl HO.out rfl HS1.out (pcs_one _) (by have := HL.out; rw [pcs_length]; simp only [List.length_nil]; omega) (by have := HL.out; rw [pcs_length]; simp only [List.length_nil]; omega) (by simp) ?_; intro v5 w5 hown5 hb5 _; have HF := Lib.hid (show Own w5 w.heap.size 63 3 v5 (pcs bs) from by rw [List.nil_append] at hown5; exact hown5); have HX5 := Lib.hid (show Ext w w5 from Below.trans HX.out hb5); obtain ⟨ao5, n5, c5, rfl, -, -, -⟩ := hown5.sl.len; clear hown5 hb5))
    go_ret
    exact ⟨_, rfl, HF.out, HX5.out⟩
theorem Own.low {w : World} {B B' : Nat} {e : TypeId} {sz : Nat} {v : Value} {xs : List Value} (h : Own w B e sz v xs) (hb : B' ≤ B) : Own w B' e sz v xs := by
  obtain ⟨n, h⟩ := h
  refine ⟨n, h.1, ?_⟩
  rcases h.2 with hn | ⟨g, cap, cur, rfl, hbg, r⟩
  · exact .inl hn
  · exact .inr ⟨g, cap, cur, rfl, by omega, r⟩
theorem Ext.sameSet {w w2 : World} {B i : Nat} {cs : Array Value} {e : TypeId} {v : Value} (h : Ext w w2) (hb : Blk w2 B cs e) (hi : cs.setIfInBounds i v = cs) : Ext w (w2.setCell ⟨B, i, none⟩ v) :=
  ⟨h.os, h.tape, h.output, by have := h.size; simpa using this, fun b hl => by
    by_cases hbB : b = B
    · subst hbB
      rw [show (w2.setCell ⟨b, i, none⟩ v).heap[b]? = _ from hb.set_to i v hi, ← h.block b hl]
      exact hb.symm
    · exact (Below.heap_setCell _ _ _ b hbB).trans (h.block b hl)⟩
theorem MR.lookE {P : Program} {k : TypeId} {κ ι : Type} [DecidableEq κ] {kv : κ → Value} {E : Elm ι} {w : World} {B b : Nat} {f : κ → List ι} (h : MR P k kv E w B b f) (K : Keyed P k) (inj : ∀ a b, kv a = kv b → a = b) {t e : TypeId} (ht : P.underlying t = some (.map k e)) (hz : ∀ W, (zeroValue e).run P W = .ok (.slice none 0 0) W) {n : κ} (hn : ∃ q, keyOf P k (kv n) = some q) :
    ∃ v, (∀ W, Ext w W → (Instr.lookup t (.map (some b)) (kv n) false).run P W = .ok v W) ∧ Own w B E.e E.sz v ((f n).flatMap E.enc) := by
  obtain ⟨v, _, ho, lw, hM, _, _, hl⟩ := h.look K inj ht (hz w) hn
  refine ⟨v, fun W hW => ?_, ho⟩
  rw [(hM.below hW).look K inj ht (hz W) false hn]
  rcases hl with hl | ⟨hl, -, rfl⟩ <;> rw [hl] <;> rfl
set_option maxRecDepth 100000 in
set_option maxHeartbeats 1600000 in
theorem bookSubs_any (b : Nat) (T : List Tup) (p : P3) (w : World) (hp : p.Ok) (h : BookAt w b T) (hl : (subsOf T p).length ≤ 1073741824) :
    Calls Tryz.prog 234 #[.pointer (some ⟨b, 0, none⟩), pV p] w fun e w' => ∃ v, e = .returned (.tuple #[v, .int .i64 0]) ∧ Own w' w.heap.size 63 3 v (pcs (subsOf T p)) ∧ Ext w w' := by
  obtain ⟨B, m1, m2, m3, l, h⟩ := h
  have HL := Lib.hid hl
  have HK := Lib.hid (point_key p hp)
  have HS0 := Lib.hid h.subs
  have HB0 := Lib.hid h.box
  generalize hsl : subsOf T p = sl at *
  have HSL := Lib.hid hsl
  clear hsl
  obtain ⟨pt, pi, pr⟩ := p
  have hx1 := Ext.alloc w (.cells #[.string pt, .string pi, .string pr] 30)
  have HP1 := Lib.hid (Blk.made w #[.string pt, .string pi, .string pr] 30)
  have HX1 := Lib.hid hx1
  clear hx1 h hp hl
  unfold pV
  dsimp only
  go_enter Tryz.func234, Tryz.ntmps234
  go_wp2_with fail
  obtain ⟨wd, hwd⟩ : ∃ wd, wd = (w.alloc (.cells #[.string pt, .string pi, .string pr] 30)).drew := ⟨_, rfl⟩
  have HPd := Lib.hid (show Blk wd w.heap.size #[.string pt, .string pi, .string pr] 30 from by rw [hwd]; exact HP1.out.drew)
  have HXd := Lib.hid (show Ext w wd from by rw [hwd]; exact HX1.out.trans (Ext.drew _))
  refine region_walkN (Ext wd) (by rw [← hwd]; exact Ext.refl _) (by kernel_rfl) (by kernel_rfl) (fun _ _ d _ _ h => by cases d <;> exact h) ?_
  rw [← hwd]
  clear hwd HP1 HX1
  have h1 := fun W (h : Ext wd W) => ((HB0.out.below HXd.out).below h).cells
  have h2 := fun W (h : Ext wd W) => (HPd.out.below h).cells
  obtain ⟨v, hlook, hv⟩ := (HS0.out.up HXd.out).lookE pointK pV_inj Tryz.underlying119 Tryz.zeroValue52 HK.out
  have HV := Lib.hid (show Own wd B 63 3 v (pcs sl) from by rw [← HSL.out]; exact hv)
  unfold pV at hlook
  dsimp only at hlook
  clear hv
  (refine WalkN.tk [0, 1, 2, 3, 4, 5] ?_; (iterate 6 ((refine TkN.c _ ?_ (by simp only [gtA, gtS, gtZ]; rfl) (by kernel_rfl) (by kernel_rfl) (by rfl) (fun W hW => ?_) ?_; rotate_left; · (go_simp; try with_reducible rfl)); simp only [Act.put, puA, puZ, puS])); refine TkN.n ?_)
  clear h1 h2 hlook
  refine WalkN.one 6 (by kernel_rfl) ?_
  refine ⟨_, (by simp only [gtA, gtS, gtZ]; rfl), by rfl, fun K hK => ?_⟩
  go_simp
  refine (cloneU_own v sl wd (fun x hx => hx.2) HV.out.sl HL.out).mono ?_
  rintro e w2 ⟨v2, rfl, ho2, hx2⟩
  have HO2 := Lib.hid ho2
  have HX2 := Lib.hid hx2
  refine hK.out _ _ hx2 ?_
  clear hK hx2
  obtain ⟨ao, n, c, rfl, -, -, -⟩ := ho2.sl.len
  clear ho2
  (refine WalkN.tk [7, 8] ?_; (iterate 2 ((refine TkN.c _ ?_ (by simp only [gtA, gtS, gtZ]; rfl) (by kernel_rfl) (by kernel_rfl) (by rfl) (fun W hW => ?_) ?_; rotate_left; · (go_simp; try with_reducible rfl)); simp only [Act.put, puA, puZ, puS])); refine TkN.n ?_)
  refine WalkN.done (by kernel_rfl) ?_
  go_wp2_with fail
  go_ret2
  exact ⟨_, rfl, HO2.out.low (HXd.out.size), HXd.out.trans HX2.out⟩
abbrev bkV (b : Nat) : Value := .iface 41 (.pointer (some ⟨b, 0, none⟩))
set_option maxRecDepth 100000 in
set_option maxHeartbeats 1600000 in
theorem wsubs_any (wp am B b : Nat) (tv sm pv fv : Value) (T : List Tup) (ps : List P3) (p : P3) (w : World) (hp : p.Ok) (h : WkAt w wp am B tv (bkV b) sm ps pv fv) (hb : BookAt w b T) (hl : (subsOf T p).length ≤ 1073741824) :
    Calls Tryz.prog 107 #[.pointer (some ⟨wp, 0, none⟩), pV p] w fun e w' => ∃ v, e = .returned v ∧ Own w' w.heap.size 63 3 v (pcs (subsOf T p)) ∧ Ext w w' := by
  have HL := Lib.hid hl
  have HOK := Lib.hid hp
  have HSB := Lib.hid (fun W (hW : Ext w W) => bookSubs_any b T p W hp (hb.ext hW) hl)
  generalize hsl : subsOf T p = sl at *
  obtain ⟨pt, pi, pr⟩ := p
  have hx1 := Ext.alloc w (.cells #[.string pt, .string pi, .string pr] 30)
  have HB1 := Lib.hid (h.box.below hx1)
  have HP1 := Lib.hid (Blk.made w #[.string pt, .string pi, .string pr] 30)
  have HX1 := Lib.hid hx1
  clear hx1 h hb hp hl hsl
  unfold pV at *
  dsimp only at *
  go_enter Tryz.func107, Tryz.ntmps107
  go_wp2_with fail
  obtain ⟨wd, hwd⟩ : ∃ wd, wd = (w.alloc (.cells #[.string pt, .string pi, .string pr] 30)).drew := ⟨_, rfl⟩
  have HBd := Lib.hid (show Blk wd wp _ _ from by rw [hwd]; exact HB1.out.drew)
  have HPd := Lib.hid (show Blk wd w.heap.size #[.string pt, .string pi, .string pr] 30 from by rw [hwd]; exact HP1.out.drew)
  have HXd := Lib.hid (show Ext w wd from by rw [hwd]; exact HX1.out.trans (Ext.drew _))
  refine region_walkN (Ext wd) (by rw [← hwd]; exact Ext.refl _) (by kernel_rfl) (by kernel_rfl) (fun _ _ d _ _ h => by cases d <;> exact h) ?_
  rw [← hwd]
  clear hwd HP1 HX1 HB1
  have h1 := fun W (h : Ext wd W) => (HBd.out.below h).cells
  have h2 := fun W (h : Ext wd W) => (HPd.out.below h).cells
  (refine WalkN.tk [0, 1, 2, 3, 4] ?_; (iterate 5 ((refine TkN.c _ ?_ (by simp only [gtA, gtS, gtZ]; rfl) (by kernel_rfl) (by kernel_rfl) (by rfl) (fun W hW => ?_) ?_; rotate_left; · (go_simp; try with_reducible rfl)); simp only [Act.put, puA, puZ, puS])); refine TkN.n ?_)
  clear h1 h2
  refine WalkN.one 5 (by kernel_rfl) ?_
  refine ⟨_, (by simp only [gtA, gtS, gtZ]; rfl), by rfl, fun K hK => ?_⟩
  go_simp
  refine (HSB.out wd HXd.out).mono ?_
  rintro e w2 ⟨v2, rfl, ho2, hx2⟩
  have HO2 := Lib.hid ho2
  have HX2 := Lib.hid hx2
  refine hK.out _ _ hx2 ?_
  clear hK hx2
  obtain ⟨ao, n, c, rfl, -, -, -⟩ := ho2.sl.len
  clear ho2
  (refine WalkN.tk [6, 7, 8, 9, 10] ?_; (iterate 5 ((refine TkN.c _ ?_ (by simp only [gtA, gtS, gtZ]; rfl) (by kernel_rfl) (by kernel_rfl) (by rfl) (fun W hW => ?_) ?_; rotate_left; · (go_simp; try with_reducible rfl)); simp only [Act.put, puA, puZ, puS])); refine TkN.n ?_)
  refine WalkN.done (by kernel_rfl) ?_
  have HB2 := Lib.hid (HBd.out.below HX2.out)
  have hb2 := HB2.out.cells
  have hz2 := HB2.out.free
  have HXE := Lib.hid ((HXd.out.trans HX2.out).sameSet (i := 6) (v := .int .i64 0) HB2.out rfl)
  have HOE := Lib.hid ((HO2.out.low HXd.out.size).keepOwn (w' := w2.setCell ⟨wp, 6, none⟩ (.int .i64 0)) fun g hg => Below.heap_setCell _ _ _ g fun e => by
    obtain ⟨cur, h3⟩ := HO2.out.typed hg
    have h4 := HB2.out
    rw [show g = wp from e] at h3
    rw [show w2.heap[wp]? = _ from h4] at h3
    injection h3 with h3
    injection h3 with _ h3 _
    exact absurd h3 (by decide))
  clear HO2 HX2 HBd HPd
  go_wp2_with fail
  go_ret
  exact ⟨_, rfl, HOE.out, HXE.out⟩
end Go.Proofs.YtjdigpfipmckhaaGreat
namespace Go.Proofs.YtjdigpfipmckhaaGreat
open Go Go.RowKit Go.Maps
theorem Blk.set3 {w : World} {B : Nat} {a b c : Value} {e : TypeId} (h : Blk w B #[a, b, c] e) (x0 x1 x2 : Value) : Blk (((w.setCell ⟨B, 0, none⟩ x0).setCell ⟨B, 1, none⟩ x1).setCell ⟨B, 2, none⟩ x2) B #[x0, x1, x2] e := ((h.set_to (cs' := #[x0, b, c]) 0 x0 rfl).set_to (cs' := #[x0, x1, c]) 1 x1 rfl).set_to 2 x2 rfl
theorem isEmpty_ba (b : ByteArray) : b.toList.isEmpty = decide (b = ⟨#[]⟩) := by
  by_cases h : b = ⟨#[]⟩
  · subst h; simp [ByteArray.toList_eq]
  · rw [decide_eq_false h]
    cases hb : b.toList.isEmpty with
    | false => rfl
    | true =>
      refine absurd ?_ h
      rw [List.isEmpty_iff, ByteArray.toList_eq] at hb
      obtain ⟨⟨d⟩⟩ := b
      simp only at hb
      subst hb
      rfl
def usetF (s : P3) : P3 := s
def viaF (b : ByteArray) (s : P3) : P3 := ⟨s.t, s.i, b⟩
set_option maxRecDepth 100000 in
set_option maxHeartbeats 1600000 in
theorem userset_any (s : P3) (w : World) : Calls Tryz.prog 109 #[pV s] w fun e w' => e = .returned (.tuple #[pV (usetF s), .bool (decide (s.r ≠ ⟨#[]⟩))]) ∧ Ext w w' := by
  obtain ⟨st, si, sr⟩ := s
  have hx1 : Ext w ((w.alloc (.cells #[.string st, .string si, .string sr] 63)).alloc (.cells #[.string ⟨#[]⟩, .string ⟨#[]⟩, .string ⟨#[]⟩] 30)) := (Ext.alloc w _).trans (Ext.alloc _ _)
  have HS1 := Lib.hid ((Blk.made w #[.string st, .string si, .string sr] 63).alloc (.cells #[.string ⟨#[]⟩, .string ⟨#[]⟩, .string ⟨#[]⟩] 30))
  have HP1 := Lib.hid (Blk.made' (w := w.alloc (.cells #[.string st, .string si, .string sr] 63)) (B := w.heap.size + 1) (by simp) #[.string ⟨#[]⟩, .string ⟨#[]⟩, .string ⟨#[]⟩] 30)
  have HX1 := Lib.hid hx1
  clear hx1
  unfold pV usetF
  dsimp only
  go_enter Tryz.func109, Tryz.ntmps109
  go_wp2_with fail
  obtain ⟨wd, hwd⟩ : ∃ wd, wd = ((w.alloc (.cells #[.string st, .string si, .string sr] 63)).alloc (.cells #[.string ⟨#[]⟩, .string ⟨#[]⟩, .string ⟨#[]⟩] 30)).drew := ⟨_, rfl⟩
  have HSd := Lib.hid (show Blk wd w.heap.size _ _ from by rw [hwd]; exact HS1.out.drew)
  have HPd := Lib.hid (show Blk wd (w.heap.size + 1) _ _ from by rw [hwd]; exact HP1.out.drew)
  have HXd := Lib.hid (show Ext w wd from by rw [hwd]; exact HX1.out.trans (Ext.drew _))
  refine region_walkN (Kept (· ≠ w.heap.size + 1) wd) (by rw [← hwd]; exact Kept.refl _ _) (by kernel_rfl) (by kernel_rfl) (fun _ _ d _ _ h => by cases d <;> exact h) ?_
  rw [← hwd]
  clear hwd HS1 HP1 HX1
  have h1 := fun W (h : Kept (· ≠ w.heap.size + 1) wd W) => (h.blk HSd.out (by show w.heap.size ≠ w.heap.size + 1; omega)).cells
  (refine WalkN.tk [0, 1, 2, 3, 4, 5, 6, 7] ?_; (iterate 8 ((refine TkN.c _ ?_ (by simp only [gtA, gtS, gtZ]; rfl) (by kernel_rfl) (by kernel_rfl) (by rfl) (fun W hW => ?_) ?_; rotate_left; · (go_simp; try with_reducible rfl)); simp only [Act.put, puA, puZ, puS])); refine TkN.n ?_)
  have hbf := HPd.out.cells
  have hbz := HPd.out.free
  refine WalkN.one 8 (by kernel_rfl) ?_
  refine ⟨_, (by simp only [gtA, gtS, gtZ]; rfl), by rfl, fun K hK => ?_⟩
  go_simp
  refine hK.out _ _ ((((Kept.refl _ wd).set (fun h => h rfl) _).set (fun h => h rfl) _).set (fun h => h rfl) _) ?_
  clear hK hbf hbz
  have HPe := Lib.hid (HPd.out.set3 (.string st) (.string si) (.string sr))
  have HXe := Lib.hid (show Below w.heap.size w _ from (((HXd.out : Below _ _ _).setCell (by show w.heap.size ≤ w.heap.size + 1; omega) (.string st) (p := ⟨w.heap.size + 1, 0, none⟩)).setCell (by show w.heap.size ≤ w.heap.size + 1; omega) (.string si) (p := ⟨w.heap.size + 1, 1, none⟩)).setCell (by show w.heap.size ≤ w.heap.size + 1; omega) (.string sr) (p := ⟨w.heap.size + 1, 2, none⟩))
  ((refine WalkN.take 9 _ ?_ (by simp only [gtA, gtS, gtZ]; rfl) (by kernel_rfl) (by kernel_rfl) (by rfl) (fun W hW => ?_) ?_; rotate_left; · (go_simp; try with_reducible rfl)); simp only [Act.put, puA, puZ, puS])
  refine WalkN.done (by kernel_rfl) ?_
  clear h1
  go_wp2_with fail
  refine bodyPost_ret (v := .tuple #[.agg #[.string st, .string si, .string sr], .bool _]) ?_ rfl ⟨rfl, HXe.out⟩
  rw [results_cell_tmp rfl]
  have hl := run_loadVar_row (P := Tryz.prog) _ (w.heap.size + 1) _ 30 _ _ _ HPe.out Tryz.underlying30 rfl (by kernel_rfl)
  simp [asAddr, hl, Result.andThen, isEmpty_ba]
set_option maxRecDepth 100000 in
set_option maxHeartbeats 1600000 in
theorem form1_any (rb : Nat) (k : Int) (a b : ByteArray) (pv : Value) (s : P3) (w : World) (hr : Blk w rb #[.int .i64 k, .string a, .string b, pv] 98) : Calls Tryz.prog 110 #[pV s, .pointer (some ⟨rb, 0, none⟩)] w fun e w' => e = .returned (.tuple #[pV (viaF b s), .bool (decide (s.r = ⟨#[]⟩))]) ∧ Ext w w' := by
  obtain ⟨st, si, sr⟩ := s
  have hx1 : Ext w ((w.alloc (.cells #[.string st, .string si, .string sr] 63)).alloc (.cells #[.string ⟨#[]⟩, .string ⟨#[]⟩, .string ⟨#[]⟩] 30)) := (Ext.alloc w _).trans (Ext.alloc _ _)
  have HS1 := Lib.hid ((Blk.made w #[.string st, .string si, .string sr] 63).alloc (.cells #[.string ⟨#[]⟩, .string ⟨#[]⟩, .string ⟨#[]⟩] 30))
  have HP1 := Lib.hid (Blk.made' (w := w.alloc (.cells #[.string st, .string si, .string sr] 63)) (B := w.heap.size + 1) (by simp) #[.string ⟨#[]⟩, .string ⟨#[]⟩, .string ⟨#[]⟩] 30)
  have HX1 := Lib.hid hx1
  have HR1 := Lib.hid (hr.below hx1)
  have HRL := Lib.hid hr.lt
  clear hx1 hr
  unfold pV viaF
  dsimp only
  go_enter Tryz.func110, Tryz.ntmps110
  go_wp2_with fail
  obtain ⟨wd, hwd⟩ : ∃ wd, wd = ((w.alloc (.cells #[.string st, .string si, .string sr] 63)).alloc (.cells #[.string ⟨#[]⟩, .string ⟨#[]⟩, .string ⟨#[]⟩] 30)).drew := ⟨_, rfl⟩
  have HSd := Lib.hid (show Blk wd w.heap.size _ _ from by rw [hwd]; exact HS1.out.drew)
  have HRd := Lib.hid (show Blk wd rb _ _ from by rw [hwd]; exact HR1.out.drew)
  have HPd := Lib.hid (show Blk wd (w.heap.size + 1) _ _ from by rw [hwd]; exact HP1.out.drew)
  have HXd := Lib.hid (show Ext w wd from by rw [hwd]; exact HX1.out.trans (Ext.drew _))
  refine region_walkN (Kept (· ≠ w.heap.size + 1) wd) (by rw [← hwd]; exact Kept.refl _ _) (by kernel_rfl) (by kernel_rfl) (fun _ _ d _ _ h => by cases d <;> exact h) ?_
  rw [← hwd]
  clear hwd HS1 HP1 HX1 HR1
  have h1 := fun W (h : Kept (· ≠ w.heap.size + 1) wd W) => (h.blk HSd.out (by show w.heap.size ≠ w.heap.size + 1; omega)).cells
  have h2 := fun W (h : Kept (· ≠ w.heap.size + 1) wd W) => (h.blk HRd.out (by show rb ≠ w.heap.size + 1; have := HRL.out; omega)).cells
  (refine WalkN.tk [0, 1, 2, 3, 4, 5, 6, 7] ?_; (iterate 8 ((refine TkN.c _ ?_ (by simp only [gtA, gtS, gtZ]; rfl) (by kernel_rfl) (by kernel_rfl) (by rfl) (fun W hW => ?_) ?_; rotate_left; · (go_simp; try with_reducible rfl)); simp only [Act.put, puA, puZ, puS])); refine TkN.n ?_)
  have hbf := HPd.out.cells
  have hbz := HPd.out.free
  refine WalkN.one 8 (by kernel_rfl) ?_
  refine ⟨_, (by simp only [gtA, gtS, gtZ]; rfl), by rfl, fun K hK => ?_⟩
  go_simp
  refine hK.out _ _ ((((Kept.refl _ wd).set (fun h => h rfl) _).set (fun h => h rfl) _).set (fun h => h rfl) _) ?_
  clear hK hbf hbz
  have HPe := Lib.hid (HPd.out.set3 (.string st) (.string si) (.string b))
  have HXe := Lib.hid (show Below w.heap.size w _ from (((HXd.out : Below _ _ _).setCell (by show w.heap.size ≤ w.heap.size + 1; omega) (.string st) (p := ⟨w.heap.size + 1, 0, none⟩)).setCell (by show w.heap.size ≤ w.heap.size + 1; omega) (.string si) (p := ⟨w.heap.size + 1, 1, none⟩)).setCell (by show w.heap.size ≤ w.heap.size + 1; omega) (.string b) (p := ⟨w.heap.size + 1, 2, none⟩))
  ((refine WalkN.take 9 _ ?_ (by simp only [gtA, gtS, gtZ]; rfl) (by kernel_rfl) (by kernel_rfl) (by rfl) (fun W hW => ?_) ?_; rotate_left; · (go_simp; try with_reducible rfl)); simp only [Act.put, puA, puZ, puS])
  refine WalkN.done (by kernel_rfl) ?_
  clear h1 h2
  go_wp2_with fail
  refine bodyPost_ret (v := .tuple #[.agg #[.string st, .string si, .string b], .bool _]) ?_ rfl ⟨rfl, HXe.out⟩
  rw [results_cell_tmp rfl]
  have hl := run_loadVar_row (P := Tryz.prog) _ (w.heap.size + 1) _ 30 _ _ _ HPe.out Tryz.underlying30 rfl (by kernel_rfl)
  simp [asAddr, hl, Result.andThen, isEmpty_ba]
end Go.Proofs.YtjdigpfipmckhaaGreat
