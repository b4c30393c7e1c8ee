/- Plain laws: what iter.Get and iter.Scan answer on rows of inner keys is what the document says. Rows of rows, and sources, in memory; the walks of slices.BinarySearch at rows of texts, of (iter.Rows).Seek, and of sentryref11.Seek. No condition: lemmas. -/
import Derived.Test.YtmmeofiocbfamaaGreatDoorZ20
import Derived.Test.YtmmeofiocbfamaaGreatDoorZ3
import Derived.Test.YtmmeofiocbfamaaGreatDoorZ18
namespace Go.Proofs.YtmmeofiocbfamaaGreatDoor
open Go Go.RowKit

theorem inner_ltS {a b : Ent} (ha : U64 a.2.1) (hb : U64 b.2.1) : ltS (innerA a) (innerA b) = true ↔ ltS a.1 b.1 = true ∨ a.1 = b.1 ∧ (b.2.1 < a.2.1 ∨ a.2.1 = b.2.1 ∧ a.2.2 = true ∧ b.2.2 = false) := by
  have h := inner_less a.1.data.toList a.2.1 a.2.2 b.1.data.toList b.2.1 b.2.2 ha hb
  have e : ltS (innerA a) (innerA b) = lessE a.1.data.toList a.2.1 a.2.2 b.1.data.toList b.2.1 b.2.2 := by
    rw [← h]; unfold ltS; rw [ByteArray.toList_eq, ByteArray.toList_eq]; rfl
  rw [e]
  unfold lessE
  by_cases hk : a.1 = b.1
  · rw [if_neg (by simp [hk])]
    have := ltS_irr b.1
    rw [hk, this]
    by_cases hr : a.2.1 = b.2.1
    · rw [if_neg (by simp [hr])]
      simp [hr]
    · rw [if_pos hr]
      simp [hr]
  · have hk' : a.1.data.toList ≠ b.1.data.toList := fun e => hk (ByteArray.ext (by rw [← Array.toList_inj]; exact e))
    rw [if_pos hk']
    have e2 : ltS a.1 b.1 = Op.bytesLess a.1.data.toList b.1.data.toList := by unfold ltS; rw [ByteArray.toList_eq, ByteArray.toList_eq]
    rw [e2]
    simp [hk]

theorem bl_esc2 : ∀ (k1 k2 t1 t2 : List UInt8), k1 ≠ k2 → Op.bytesLess (esc k1 ++ 0 :: 1 :: t1) (esc k2 ++ 0 :: 2 :: t2) = Op.bytesLess k1 k2
  | [], [], _, _, h => absurd rfl h
  | [], d :: s, t1, t2, _ => by
    by_cases hd : d = 0
    · subst hd; simp [esc, Op.bytesLess]
    · have : (0 : UInt8) < d := by
        rw [UInt8.lt_iff_toNat_lt]
        have : d.toNat ≠ 0 := fun h => hd (UInt8.toNat_inj.1 (by simpa using h))
        simp; omega
      simp [esc, Op.bytesLess, hd, this]
  | c :: r, [], t1, t2, _ => by
    by_cases hc : c = 0
    · subst hc; simp [esc, Op.bytesLess]
    · simp [esc, Op.bytesLess, hc]
  | c :: r, d :: s, t1, t2, h => by
    have ih := fun h => bl_esc2 r s t1 t2 h
    by_cases hcd : c = d
    · subst hcd
      have hrs : r ≠ s := fun e => h (by rw [e])
      by_cases hc : c = 0
      · subst hc; simp [esc, Op.bytesLess, ih hrs]
      · simp [esc, Op.bytesLess, hc, ih hrs]
    · by_cases hc : c = 0
      · subst hc
        have hd : ¬ d = 0 := fun e => hcd e.symm
        have : (0 : UInt8) < d := by
          rw [UInt8.lt_iff_toNat_lt]
          have : d.toNat ≠ 0 := fun h => hd (UInt8.toNat_inj.1 (by simpa using h))
          simp; omega
        simp [esc, Op.bytesLess, hd, this]
      · by_cases hd : d = 0
        · subst hd
          have : (c == 0) = false := by simpa using hc
          simp [esc, Op.bytesLess, hc, this]
        · have : (c == d) = false := by simpa using hcd
          simp [esc, Op.bytesLess, hc, hd, this]

theorem past_lt {e : Ent} {K : ByteArray} : ltS (innerA e) (pastA K) = true ↔ e.1 = K ∨ ltS e.1 K = true := by
  obtain ⟨k, r, d⟩ := e
  have e1 : ltS (innerA (k, r, d)) (pastA K) = Op.bytesLess (esc k.data.toList ++ 0 :: 1 :: (be8 (flip64 r) ++ [if d then 0 else 1])) (esc K.data.toList ++ 0 :: 2 :: []) := by
    unfold ltS innerA pastA innerB
    rw [ByteArray.toList_eq, ByteArray.toList_eq]
    simp
  have e2 : ltS k K = Op.bytesLess k.data.toList K.data.toList := by unfold ltS; rw [ByteArray.toList_eq, ByteArray.toList_eq]
  dsimp only
  rw [e1]
  by_cases hk : k = K
  · subst hk
    rw [bl_common]
    simp [Op.bytesLess]
  · have hk' : k.data.toList ≠ K.data.toList := fun e => hk (ByteArray.ext (by rw [← Array.toList_inj]; exact e))
    rw [bl_esc2 _ _ _ _ hk', ← e2]
    simp [hk]

/-- P19.1: the newest version. -/
def refGetL (es : List Ent) (key : ByteArray) (rev : Nat) : Option Ent := es.find? fun x => decide (x.1 = key) && decide (x.2.1 ≤ rev)
def ansGet (o : Option Ent) : Ans :=
  match o with
  | some x => (x, true, 0)
  | none => (zeroE, false, 0)

theorem key_ge {a : ByteArray} {A : List ByteArray} (h : Good (a :: A)) {e : Ent} (ha : a = innerA e) (hu : U64 e.2.1) {z : ByteArray} (hz : z ∈ A) : (decoD z).1 = e.1 ∨ ltS e.1 (decoD z).1 = true := by
  have hlt := (List.pairwise_cons.1 h.1).1 z hz
  obtain ⟨y, hy, rfl, hd⟩ := h.deco (List.mem_cons_of_mem _ hz)
  rw [decoD_of hd]
  subst ha
  rcases inner_lt hu hy hlt with h | h
  · exact .inl h.1.symm
  · exact .inr h

theorem getL_ok : ∀ {A : List ByteArray}, Good A → ∀ {key : ByteArray} {rev : Nat}, U64 rev → getL A key rev = ansGet (refGetL (A.map decoD) key rev)
  | [], _, key, rev, _ => rfl
  | a :: A, h, key, rev, hr => by
    have ih := getL_ok (h.sub (List.sublist_cons_self a A)) (key := key) hr
    obtain ⟨e, hu, ha, hd⟩ := h.deco (List.mem_cons_self)
    unfold getL nextL seekL refGetL at *
    rw [List.map_cons, List.find?_cons, List.find?_cons, decoD_of hd]
    cases hlt : ltS a (innerA (key, rev, true)) with
    | true =>
      rw [ha, inner_ltS hu hr] at hlt
      have hno : (decide (e.1 = key) && decide (e.2.1 ≤ rev)) = false := by
        rcases hlt with h1 | ⟨h1, h2 | ⟨_, _, h2⟩⟩
        · have hne : e.1 ≠ key := fun he => by rw [he, ltS_irr] at h1; cases h1
          simp [hne]
        · dsimp only at h2
          simp; intro _; omega
        · cases h2
      rw [hno]
      exact ih
    | false =>
      have hn : ¬ (ltS (innerA e) (innerA (key, rev, true)) = true) := by rw [← ha, hlt]; simp
      rw [inner_ltS hu hr] at hn
      have hns : ltS e.1 key = false := by
        cases h1 : ltS e.1 key with
        | false => rfl
        | true => exact absurd (.inl h1) hn
      simp only [Bool.not_false]
      unfold ansOf
      dsimp only
      rw [hd]
      unfold getAns
      by_cases hk : e.1 = key
      · have hrv : e.2.1 ≤ rev := by
          by_cases h1 : e.2.1 ≤ rev
          · exact h1
          · exact absurd (.inr ⟨hk, .inl (by dsimp only; omega)⟩) hn
        simp [hk, hrv, ansGet]
      · have hke : ltS key e.1 = true := ltS_total hns hk
        have hnone : List.find? (fun x => decide (x.1 = key) && decide (x.2.1 ≤ rev)) (A.map decoD) = none := by
          rw [List.find?_eq_none]
          intro x hx
          obtain ⟨z, hz, rfl⟩ := List.mem_map.1 hx
          have hne : (decoD z).1 ≠ key := by
            intro he
            rcases key_ge h ha hu hz with h1 | h1
            · exact hk (h1.symm.trans he)
            · rw [he] at h1
              have := ltS_trans h1 hke
              rw [ltS_irr] at this; cases this
          simp [hne]
        simp [hk, hnone, ansGet]

/-- One Key more of a scan. -/
def stepS (frm tto : ByteArray) (most : Int) (out : List ByteArray) (k : ByteArray) : List ByteArray :=
  if ltS k frm = false ∧ (tto.size = 0 ∨ ltS k tto = true) ∧ (most < 1 ∨ (out.length : Int) < most) then out ++ [k] else out

theorem foldS_full {frm tto : ByteArray} {most : Int} {out : List ByteArray} (h : ¬ (most < 1 ∨ (out.length : Int) < most)) : ∀ ks : List ByteArray, ks.foldl (stepS frm tto most) out = out
  | [] => rfl
  | k :: ks => by
    rw [List.foldl_cons, show stepS frm tto most out k = out from by unfold stepS; rw [if_neg (fun c => h c.2.2)]]
    exact foldS_full h ks
theorem foldS_none {frm tto : ByteArray} {most : Int} {out : List ByteArray} : ∀ ks : List ByteArray, (∀ k ∈ ks, ¬ (ltS k frm = false ∧ (tto.size = 0 ∨ ltS k tto = true))) → ks.foldl (stepS frm tto most) out = out
  | [], _ => rfl
  | k :: ks, h => by
    rw [List.foldl_cons, show stepS frm tto most out k = out from by unfold stepS; rw [if_neg (fun c => h k (by simp) ⟨c.1, c.2.1⟩)]]
    exact foldS_none ks fun x hx => h x (List.mem_cons_of_mem _ hx)

theorem mem_flt {p : ByteArray → Bool} {l : List ByteArray} {x : ByteArray} (h : x ∈ l.filter p) : x ∈ l := (List.mem_filter.1 h).1

theorem filter_split {b : ByteArray} (p : ByteArray → Bool) : ∀ {F : List ByteArray}, Up F → (∀ z, ltS z b = false → p z = true) →
    F.filter p = F.filter (fun z => p z && ltS z b) ++ F.filter fun z => !ltS z b
  | [], _, _ => rfl
  | a :: F, h, hp => by
    have ih := filter_split p (List.pairwise_cons.1 h).2 hp
    rw [List.filter_cons, List.filter_cons, List.filter_cons]
    cases hab : ltS a b with
    | true =>
      cases hpa : p a with
      | true => simpa using ih
      | false => simpa using ih
    | false =>
      rw [hp a hab]
      have h1 : F.filter (fun z => p z && ltS z b) = [] := by
        rw [List.filter_eq_nil_iff]
        intro z hz hc
        have h2 := (List.pairwise_cons.1 h).1 z hz
        have h3 : ltS z b = true := by
          rw [Bool.and_eq_true] at hc; exact hc.2
        rw [ltS_trans h2 h3] at hab; cases hab
      rw [h1] at ih
      simp only [Bool.and_false, Bool.false_eq_true, if_false, if_true, Bool.not_false, h1, List.nil_append, List.cons.injEq, true_and]
      simpa using ih

theorem filter_one {p : ByteArray → Bool} {z : ByteArray} : ∀ {A : List ByteArray}, Up A → z ∈ A → p z = true → (∀ y ∈ A, p y = true → y = z) → A.filter p = [z]
  | a :: A, h, hz, hp, hu => by
    have h1 := (List.pairwise_cons.1 h).1
    rw [List.filter_cons]
    cases hpa : p a with
    | true =>
      have e := hu a (by simp) hpa
      subst e
      have : A.filter p = [] := by
        rw [List.filter_eq_nil_iff]
        intro y hy hpy
        have := hu y (List.mem_cons_of_mem _ hy) hpy
        subst this
        have := h1 y hy
        rw [ltS_irr] at this; cases this
      simp [this]
    | false =>
      have hz' : z ∈ A := by
        rcases List.mem_cons.1 hz with e | hz
        · subst e; rw [hp] at hpa; cases hpa
        · exact hz
      simpa using filter_one (List.pairwise_cons.1 h).2 hz' hp fun y hy => hu y (List.mem_cons_of_mem _ hy)

/-- Of one Key at most one version is told. -/
theorem group_one {A : List ByteArray} (h : Good A) {rev : Nat} (K : ByteArray) :
    (A.filter fun z => atP rev A z && decide ((decoD z).1 = K)).map (fun k => (decoD k).1) =
      match refGetL (A.map decoD) K rev with
      | some e => if e.2.2 = false then [K] else []
      | none => [] := by
  unfold refGetL
  rw [List.find?_map]
  cases hf : A.find? ((fun x : Ent => decide (x.1 = K) && decide (x.2.1 ≤ rev)) ∘ decoD) with
  | none =>
    rw [List.find?_eq_none] at hf
    have : A.filter (fun z => atP rev A z && decide ((decoD z).1 = K)) = [] := by
      rw [List.filter_eq_nil_iff]
      intro z hz hc
      rw [Bool.and_eq_true, atP_iff, decide_eq_true_eq] at hc
      have := hf z hz
      simp only [Function.comp, Bool.and_eq_true, decide_eq_true_eq, not_and] at this
      exact this hc.2 hc.1.1.1
    rw [this]
    rfl
  | some z =>
    obtain ⟨hpz, pre, post, hA, has⟩ := List.find?_eq_some_iff_append.1 hf
    simp only [Function.comp, Bool.and_eq_true, decide_eq_true_eq] at hpz
    have hzA : z ∈ A := by rw [hA]; simp
    have hUp := h.1
    rw [hA] at hUp
    have hbs : ∀ y ∈ post, ltS z y = true := fun y hy => (List.pairwise_cons.1 (List.pairwise_append.1 hUp).2.1).1 y hy
    have hpos : ∀ y ∈ A, (decoD y).1 = K → (decoD y).2.1 ≤ rev → y = z ∨ ltS z y = true := by
      intro y hy h1 h2
      rw [hA] at hy
      rcases List.mem_append.1 hy with hy | hy
      · have := has y hy
        simp [Function.comp, h1, h2] at this
      · rcases List.mem_cons.1 hy with e | hy
        · exact .inl e
        · exact .inr (hbs y hy)
    have hfst : FirstOf A rev z := by
      refine ⟨hpz.2, fun ⟨w, hw, h1, h2, h3⟩ => ?_⟩
      rcases hpos w hw (h2.trans hpz.1) h3 with e | h4
      · subst e; rw [ltS_irr] at h1; cases h1
      · have := ltS_trans h1 h4; rw [ltS_irr] at this; cases this
    have huniq : ∀ y ∈ A, (atP rev A y && decide ((decoD y).1 = K)) = true → y = z := by
      intro y hy hc
      rw [Bool.and_eq_true, atP_iff, decide_eq_true_eq] at hc
      rcases hpos y hy hc.2 hc.1.1.1 with e | h4
      · exact e
      · exact absurd ⟨z, hzA, h4, hpz.1.trans hc.2.symm, hpz.2⟩ hc.1.1.2
    dsimp only [Option.map_some]
    cases hdel : (decoD z).2.2 with
    | false =>
      rw [filter_one h.1 hzA (by rw [Bool.and_eq_true, atP_iff, decide_eq_true_eq]; exact ⟨⟨hfst, hdel⟩, hpz.1⟩) huniq]
      simp [hpz.1]
    | true =>
      have : A.filter (fun z => atP rev A z && decide ((decoD z).1 = K)) = [] := by
        rw [List.filter_eq_nil_iff]
        intro y hy hc
        have e := huniq y hy hc
        subst e
        rw [Bool.and_eq_true, atP_iff] at hc
        rw [hc.1.2] at hdel; cases hdel
      rw [this]
      simp

theorem scan_ok {A : List ByteArray} (h : Good A) {frm tto : ByteArray} {rev : Nat} (hr : U64 rev) {most : Int} :
    ∀ (n : Nat) (at_ : ByteArray) (out : List ByteArray), cnt A at_ < n → (∀ z ∈ A, ltS z at_ = false → ltS (decoD z).1 frm = false) →
      (∀ z ∈ A, ∀ y ∈ A, (decoD z).1 = (decoD y).1 → ltS z at_ = ltS y at_) →
      scanF A tto rev most n at_ out = ((((A.filter (atP rev A)).filter fun z => !ltS z at_).map fun k => (decoD k).1).foldl (stepS frm tto most) out, 0)
  | 0, _, _, hn, _, _ => absurd hn (Nat.not_lt_zero _)
  | n + 1, at_, out, hn, hfrm, hbd => by
    unfold scanF
    by_cases hg : most < 1 ∨ (out.length : Int) < most
    · rw [if_neg (not_not_intro hg)]
      cases hs : seekL A at_ with
      | none =>
        have hall : ∀ x ∈ A, ltS x at_ = true := by
          have := seek_least h.1 at_
          rw [hs] at this
          exact this
        have hnx : nextL A at_ = (zeroE, false, 0) := by unfold nextL; rw [hs]; rfl
        rw [hnx]
        have hem : (A.filter (atP rev A)).filter (fun z => !ltS z at_) = [] := by
          rw [List.filter_eq_nil_iff]
          intro z hz
          rw [hall z (mem_flt hz)]
          simp
        rw [hem]
        simp
      | some y =>
        obtain ⟨hyA, hya⟩ := seek_mem hs
        obtain ⟨x, hux, hyx, hdy⟩ := h.deco hyA
        have hnx : nextL A at_ = (x, true, 0) := by unfold nextL ansOf; rw [hs]; dsimp only; rw [hdy]
        have hleast : ∀ z ∈ A, ltS z at_ = false → ltS z y = false := by
          have := seek_least h.1 at_
          rw [hs] at this
          exact this.2.2
        -- whatever stands from here on has no lesser Key
        have hkey : ∀ z ∈ A, ltS z at_ = false → ltS (decoD z).1 x.1 = false := by
          intro z hz hza
          obtain ⟨e, hue, hze, hdz⟩ := h.deco hz
          rw [decoD_of hdz]
          have h1 := hleast z hz hza
          cases h2 : ltS e.1 x.1 with
          | false => rfl
          | true =>
            have := (inner_ltS hue hux).2 (.inl h2)
            rw [← hze, ← hyx, h1] at this; cases this
        have hxk : (decoD y).1 = x.1 := by rw [decoD_of hdy]
        rw [hnx]
        dsimp only
        rw [if_neg (by simp)]
        by_cases hto : tto.size ≠ 0 ∧ ltS x.1 tto = false
        · rw [if_pos (.inr hto)]
          rw [foldS_none]
          intro k hk hc
          obtain ⟨z, hz, rfl⟩ := List.mem_map.1 hk
          obtain ⟨hz, hza⟩ := List.mem_filter.1 hz
          have hza : ltS z at_ = false := by simpa using hza
          have h1 := hkey z (mem_flt hz) hza
          rcases hc.2 with h2 | h2
          · exact hto.1 h2
          · rw [not_lt_le hto.2 h1] at h2; cases h2
        · rw [if_neg (by simp only [Bool.true_eq_false, false_or]; exact hto)]
          rw [getL_ok h hr]
          have hpa : ltS y (pastA x.1) = true := lt_past hdy
          have hle : ∀ z, ltS z (pastA x.1) = false → ltS z at_ = false := fun z hz => not_lt_le hya (not_lt_of hpa hz)
          have hcnt : cnt A (pastA x.1) < n := by
            have := cnt_lt (A := A) (k := at_) (by rw [hnx])
            rw [hnx] at this
            dsimp only at this
            omega
          have hpk : ∀ z ∈ A, (ltS z (pastA x.1) = true ↔ (decoD z).1 = x.1 ∨ ltS (decoD z).1 x.1 = true) := by
            intro z hz
            obtain ⟨e, _, hze, hdz⟩ := h.deco hz
            rw [decoD_of hdz, hze]
            exact past_lt
          have ih := fun out => scan_ok h (frm := frm) (tto := tto) hr (most := most) n (pastA x.1) out hcnt (fun z hz hzp => hfrm z hz (hle z hzp)) (fun z hz w hw he => by
            rw [Bool.eq_iff_iff, hpk z hz, hpk w hw, he])
          have hUF : Up (A.filter (atP rev A)) := h.1.sublist List.filter_sublist
          have hsplit := filter_split (b := pastA x.1) (fun z => !ltS z at_) hUF (fun z hz => by rw [hle z hz]; rfl)
          have hgroup : ((A.filter (atP rev A)).filter fun z => !ltS z at_ && ltS z (pastA x.1)) = A.filter fun z => atP rev A z && decide ((decoD z).1 = x.1) := by
            rw [List.filter_filter]
            apply List.filter_congr
            intro z hz
            cases atP rev A z with
            | false => simp
            | true =>
              rw [Bool.and_true, Bool.true_and, Bool.eq_iff_iff, Bool.and_eq_true, hpk z hz, decide_eq_true_eq]
              constructor
              · rintro ⟨h1, h2 | h2⟩
                · exact h2
                · have := hkey z hz (by simpa using h1)
                  rw [this] at h2; cases h2
              · intro h1
                refine ⟨?_, .inl h1⟩
                rw [hbd z hz y hyA (h1.trans hxk.symm), hya]; rfl
          rw [hsplit, List.map_append, List.foldl_append, hgroup, group_one h]
          have hstep : stepS frm tto most out x.1 = out ++ [x.1] := by
            have hc : tto.size = 0 ∨ ltS x.1 tto = true := by
              by_cases h0 : tto.size = 0
              · exact .inl h0
              · right
                cases h1 : ltS x.1 tto with
                | true => rfl
                | false => exact absurd ⟨h0, h1⟩ hto
            have hf : ltS x.1 frm = false := by rw [← hxk]; exact hfrm y hyA hya
            unfold stepS
            rw [if_pos ⟨hf, hc, hg⟩]
          cases refGetL (A.map decoD) x.1 rev with
          | none =>
            simp only [ansGet, ne_eq, not_true_eq_false, if_false, Bool.false_eq_true, false_and]
            rw [ih]
            rfl
          | some e =>
            simp only [ansGet, ne_eq, not_true_eq_false, if_false]
            cases hde : e.2.2 with
            | true => simp only [Bool.true_eq_false, and_false, if_false]; rw [ih]; rfl
            | false =>
              simp only [and_self, if_true, List.foldl_cons, List.foldl_nil]
              rw [ih, hstep]
    · rw [if_pos hg, foldS_full hg]

/-- The first key of a scan. -/
def atA (frm : ByteArray) : ByteArray := innerA (frm, 18446744073709551615, true)
theorem at_lt {e : Ent} {frm : ByteArray} (h : U64 e.2.1) : ltS (innerA e) (atA frm) = true ↔ ltS e.1 frm = true := by
  unfold atA
  rw [inner_ltS h (show U64 18446744073709551615 from by unfold U64; decide)]
  have := h.lt
  constructor
  · rintro (h | ⟨_, h | ⟨_, _, h⟩⟩)
    · exact h
    · dsimp only at h; omega
    · cases h
  · exact .inl

/-- P19.1. -/
def refScanL (A : List ByteArray) (frm tto : ByteArray) (rev : Nat) (most : Int) : List ByteArray := (atL rev A).foldl (stepS frm tto most) []
def scanL (A : List ByteArray) (frm tto : ByteArray) (rev : Nat) (most : Int) : List ByteArray × Nat := scanF A tto rev most (A.length + 1) (atA frm) []

theorem scanL_ok {A : List ByteArray} (h : Good A) (frm tto : ByteArray) {rev : Nat} (hr : U64 rev) (most : Int) : scanL A frm tto rev most = (refScanL A frm tto rev most, 0) := by
  have hat : ∀ z ∈ A, (ltS z (atA frm) = true ↔ ltS (decoD z).1 frm = true) := by
    intro z hz
    obtain ⟨e, hue, hze, hdz⟩ := h.deco hz
    rw [decoD_of hdz, hze]
    exact at_lt hue
  unfold scanL
  rw [scan_ok h (frm := frm) hr (A.length + 1) (atA frm) [] (Nat.lt_succ_of_le (List.length_filter_le _ _))
    (fun z hz hza => by
      cases h1 : ltS (decoD z).1 frm with
      | false => rfl
      | true => rw [(hat z hz).2 h1] at hza; cases hza)
    (fun z hz y hy he => by rw [Bool.eq_iff_iff, hat z hz, hat y hy, he])]
  unfold refScanL
  rw [atL_filter h]
  have hUF : Up (A.filter (atP rev A)) := h.1.sublist List.filter_sublist
  have hsplit := filter_split (b := atA frm) (fun _ => true) hUF (fun _ _ => rfl)
  rw [List.filter_eq_self.2 (fun _ _ => rfl)] at hsplit
  have hno : (((A.filter (atP rev A)).filter fun z => true && ltS z (atA frm)).map fun k => (decoD k).1).foldl (stepS frm tto most) [] = [] := by
    refine foldS_none _ fun k hk hc => ?_
    obtain ⟨z, hz, rfl⟩ := List.mem_map.1 hk
    obtain ⟨hz, hza⟩ := List.mem_filter.1 hz
    rw [Bool.true_and] at hza
    have := (hat z (mem_flt hz)).1 hza
    rw [this] at hc
    exact absurd hc.1 (by simp)
  conv => rhs; rw [hsplit]
  rw [List.map_append, List.foldl_append, hno]

/-- No key that is refused: no error. -/
theorem next_fine {A : List ByteArray} (h : ∀ k ∈ A, deco k ≠ none) (k : ByteArray) : (nextL A k).2.2 = 0 := by
  unfold nextL ansOf
  cases hs : seekL A k with
  | none => rfl
  | some y =>
    dsimp only
    cases hd : deco y with
    | none => exact absurd hd (h y (seek_mem hs).1)
    | some x => rfl
theorem get_fine {A : List ByteArray} (h : ∀ k ∈ A, deco k ≠ none) (key : ByteArray) (rev : Nat) : (getL A key rev).2.2 = 0 := by
  unfold getL getAns
  split
  · exact next_fine h _
  · rfl
theorem scan_fine {A : List ByteArray} (h : ∀ k ∈ A, deco k ≠ none) {tto : ByteArray} {rev : Nat} {most : Int} : ∀ (n : Nat) (at_ : ByteArray) (out : List ByteArray), (scanF A tto rev most n at_ out).2 = 0
  | 0, _, _ => rfl
  | n + 1, at_, out => by
    unfold scanF
    split
    · rfl
    · rw [if_neg (by rw [next_fine h]; simp)]
      split
      · rfl
      · rw [if_neg (by rw [get_fine h]; simp)]
        exact scan_fine h n _ _
theorem scan_code {A : List ByteArray} {tto : ByteArray} {rev : Nat} {most : Int} : ∀ (n : Nat) (at_ : ByteArray) (out : List ByteArray), (scanF A tto rev most n at_ out).2 = 0 ∨ (scanF A tto rev most n at_ out).2 = 9
  | 0, _, _ => .inl rfl
  | n + 1, at_, out => by
    unfold scanF
    split
    · exact .inl rfl
    · split
      · exact ansOf_code _
      · split
        · exact .inl rfl
        · split
          · exact getAns_code _ _ (ansOf_code _)
          · exact scan_code n _ _

end Go.Proofs.YtmmeofiocbfamaaGreatDoor
namespace Go.Proofs.YtmmeofiocbfamaaGreatDoor
open Go Go.RowKit

/-- A slice of one cell an element, each of which tells R of one of xs. -/
def Each {α : Type} (R : World → Value → α → Prop) (S : Nat → Prop) (w : World) (v : Value) (xs : List α) : Prop :=
  ∃ vs, Sl S w 1 v vs ∧ vs.length = xs.length ∧ ∀ i (h : i < vs.length) (h' : i < xs.length), R w vs[i] xs[i]

theorem Each.get {α : Type} {R : World → Value → α → Prop} {S : Nat → Prop} {w : World} {v : Value} {xs : List α} (h : Each R S w v xs) :
    ∃ ao c, v = .slice ao xs.length c ∧ xs.length ≤ c ∧ c ≤ 9223372036854775807 ∧
      (0 < xs.length → ∃ b off, ao = some ⟨b, off, none⟩ ∧ S b ∧ ∀ i (hi : i < xs.length), ∃ u, w.cell? ⟨b, off + i, none⟩ = some u ∧ R w u xs[i]) := by
  obtain ⟨vs, ⟨ao, n, c, rfl, h1, h2, h3, h4, h5⟩, hl, hr⟩ := h
  rw [Nat.mul_one] at h1
  obtain rfl : xs.length = n := by omega
  refine ⟨ao, c, rfl, h2, by unfold maxLen at h3; omega, fun hp => ?_⟩
  obtain ⟨b, off, rfl, hb, hc⟩ := h5 (fun e => by rw [e] at h1; simp at h1; omega)
  exact ⟨b, off, rfl, hb, fun i hi => ⟨vs[i]'(by omega), hc i _ (List.getElem?_eq_getElem (by omega)), hr i (by omega) hi⟩⟩

theorem Each.same {α : Type} {R : World → Value → α → Prop} {S T : Nat → Prop} {w w' : World} {v : Value} {xs : List α} (h : Each R S w v xs) (hs : Same S w w') (hT : ∀ b, S b → T b)
    (hR : ∀ u x, R w u x → R w' u x) : Each R T w' v xs := by
  obtain ⟨vs, h1, h2, h3⟩ := h
  exact ⟨vs, (h1.same hs).mono hT, h2, fun i hi hi' => hR _ _ (h3 i hi hi')⟩

/-- Rows of texts. -/
def RowT (w : World) (u : Value) (l : List ByteArray) : Prop := Sl (· < w.heap.size) w 1 u (sc l)
/-- Rows of entries. -/
def RowE (w : World) (u : Value) (l : List Ent) : Prop := Sl (· < w.heap.size) w 3 u (ec l)
theorem RowT.up {w w' : World} {u : Value} {l : List ByteArray} (h : RowT w u l) (hb : Below w.heap.size w w') : RowT w' u l := Sl.up h hb
theorem RowE.up {w w' : World} {u : Value} {l : List Ent} (h : RowE w u l) (hb : Below w.heap.size w w') : RowE w' u l := Sl.up h hb
abbrev RwsT (w : World) (v : Value) (rows : List (List ByteArray)) : Prop := Each RowT (· < w.heap.size) w v rows
abbrev RwsE (w : World) (v : Value) (rows : List (List Ent)) : Prop := Each RowE (· < w.heap.size) w v rows
theorem RwsT.up {w w' : World} {v : Value} {rows : List (List ByteArray)} (h : RwsT w v rows) (hb : Below w.heap.size w w') : RwsT w' v rows :=
  Each.same h (Same.below hb) (fun _ h => Nat.lt_of_lt_of_le h hb.size) fun _ _ h => h.up hb
theorem RwsE.up {w w' : World} {v : Value} {rows : List (List Ent)} (h : RwsE w v rows) (hb : Below w.heap.size w w') : RwsE w' v rows :=
  Each.same h (Same.below hb) (fun _ h => Nat.lt_of_lt_of_le h hb.size) fun _ _ h => h.up hb
/-- Up to i all are less, from i on none is. -/
def Splits (l : List ByteArray) (k : ByteArray) (i : Nat) : Prop := i ≤ l.length ∧ (∀ j (hj : j < l.length), j < i → ltS l[j] k = true) ∧ ∀ j (hj : j < l.length), i ≤ j → ltS l[j] k = false

theorem splits_seek : ∀ {l : List ByteArray} {k : ByteArray} {i : Nat}, Splits l k i → seekL l k = l[i]?
  | [], k, i, h => by simp [seekL]
  | a :: l, k, 0, ⟨_, _, h⟩ => by
    have := h 0 (by simp) (Nat.le_refl _)
    simp only [List.getElem_cons_zero] at this
    simp [seekL, this]
  | a :: l, k, i + 1, ⟨h1, h2, h3⟩ => by
    have h0 := h2 0 (by simp) (by omega)
    simp only [List.getElem_cons_zero] at h0
    have ih := splits_seek (l := l) (k := k) (i := i) ⟨by simpa using h1, fun j hj h => h2 (j + 1) (by simpa using hj) (by omega), fun j hj h => h3 (j + 1) (by simpa using hj) (by omega)⟩
    unfold seekL at *
    rw [List.find?_cons, h0]
    simpa using ih

theorem up_below {l : List ByteArray} (h : Up l) {k : ByteArray} {i j : Nat} (hi : i < l.length) (hj : j < l.length) (hji : j ≤ i) (hl : ltS l[i] k = true) : ltS l[j] k = true := by
  by_cases e : j = i
  · subst e; exact hl
  · exact ltS_trans (List.pairwise_iff_getElem.1 h j i hj hi (by omega)) hl
theorem up_above {l : List ByteArray} (h : Up l) {k : ByteArray} {i j : Nat} (hi : i < l.length) (hj : j < l.length) (hji : i ≤ j) (hl : ltS l[i] k = false) : ltS l[j] k = false := by
  cases hj' : ltS l[j] k with
  | false => rfl
  | true => rw [up_below h hj hi hji hj'] at hl; cases hl

set_option maxHeartbeats 400000 in
theorem lessStr_any (a b : ByteArray) (w : World) : Calls Tryz.prog 55 #[.string a, .string b] w fun e w' => e = .returned (.bool (ltS a b)) ∧ w = w' := by
  have e1 := ByteArray.toList_eq a
  have e2 := ByteArray.toList_eq b
  cases h : ltS a b with
  | true =>
    have h2 := h
    unfold ltS at h2
    rw [e1, e2] at h2
    clear h
    go_enter Tryz.func55, Tryz.ntmps55
    go_wp2
    go_ret
    exact ⟨rfl, rfl⟩
  | false =>
    have h2 := h
    unfold ltS at h2
    rw [e1, e2] at h2
    clear h
    go_enter Tryz.func55, Tryz.ntmps55
    go_wp2
    go_ret
    exact ⟨rfl, rfl⟩

end Go.Proofs.YtmmeofiocbfamaaGreatDoor
