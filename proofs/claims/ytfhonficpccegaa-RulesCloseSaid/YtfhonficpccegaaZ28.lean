/- The walks of Needs and Closure. The walk of Closure. No condition: lemmas. -/
import Derived.Test.YtfhonficpccegaaZ27
import Derived.Test.YtfhonficpccegaaZ13
namespace Go.Proofs.Ytfhonficpccegaa
open Go Go.RowKit Go.Maps Go.Shelf

/-- What a relation's rule needs. -/
def needsP (ts : List TyS) (r : R2) : List R2 := match lookA (refsOf ts) r with | none => [] | some rule => rule.pneeds (refsOf ts) r.t
theorem foldR_mem (l : List R2) : ∀ (S : List R2) (x : R2), x ∈ l.foldl addR S ↔ x ∈ S ∨ x ∈ l := by
  induction l with
  | nil => intro S x; simp
  | cons a l ih => intro S x; rw [List.foldl_cons, ih, addR_mem, List.mem_cons, or_assoc]
theorem foldR_len (l : List R2) : ∀ S : List R2, (l.foldl addR S).length ≤ S.length + l.length := by
  induction l with
  | nil => intro S; simp
  | cons a l ih =>
    intro S
    rw [List.foldl_cons]
    have h1 := ih (addR S a)
    have h2 := addR_len S a
    simp only [List.length_cons]
    omega
theorem BkR.lookF {S : Nat → Prop} {w : World} {b1 : Nat} {P : List (R2 × RT)} (h : BkR S w b1 P) (k : R2) (hk : k.Ok) : ∃ z : RV, (∀ W, Below w.heap.size w W → (Instr.lookup 70 (.map (some b1)) (r2V k) true).run Try.prog W = .ok (.tuple #[rvV z, .bool (lookA P k).isSome]) W) ∧ RTAt S w z.1 z.2 ∧ (∀ r, lookA P k = some r → z.1 = r) ∧ (lookA P k = none → z = (.mk 0 ByteArray.empty ByteArray.empty [], .slice none 0 0)) := by
  obtain ⟨lr, h1, h2, h3⟩ := h
  have hl := pairs_look (f := fun x : RV => x.1) (k := k) h2
  have hrun := fun W (hW : Below w.heap.size w W) => (h1.below hW).look refK r2V_inj Try.underlying70 (Try.zeroValue46 W) true (ref_key k hk)
  cases hlk : lookA lr k with
  | none =>
    rw [hlk] at hl
    refine ⟨(.mk 0 ByteArray.empty ByteArray.empty [], .slice none 0 0), fun W hW => ?_, ?_, ?_, fun _ => rfl⟩
    · have := hrun W hW
      rw [hlk] at this
      rw [this, ← hl]
      rfl
    · exact (RTAt.iff _ _).2 ⟨[], rfl, by simp, Sl.nil _ _ _⟩
    · intro r hr; rw [← hl] at hr; cases hr
  | some x =>
    rw [hlk] at hl
    refine ⟨x, fun W hW => ?_, h3 _ (look_mem hlk), ?_, ?_⟩
    · have := hrun W hW
      rw [hlk] at this
      rw [this, ← hl]
      rfl
    · intro r hr; rw [← hl] at hr; injection hr
    · intro hr; rw [← hl] at hr; cases hr
theorem rule_ok {ts : List TyS} (h : ∀ t ∈ ts, t.Ok) {k : R2} {r : RT} (hl : lookA (refsOf ts) k = some r) : r.Ok := by
  obtain ⟨t, ht, x, hx, e⟩ := refs_mem.1 (look_mem hl)
  injection e with _ e
  rw [e]
  exact ((h t ht).2 x hx).2

set_option maxRecDepth 100000 in
set_option maxHeartbeats 4000000 in
theorem needsP_any (ts : List TyS) (tv : Value) (r : R2) (w : World) (h : TysAt (· < w.heap.size) w ts tv) (hok : ∀ t ∈ ts, t.Ok) (hu : uniqOk ts = true) (hsz : (refsOf ts).length ≤ 1099511627776) (hr : r.Ok) (hn : (needsP ts r).length ≤ 549755813888) :
    Calls Try.prog 21 #[.agg #[tv], r2V r] w fun e w' => ∃ (v : Value) (ss : List R2), e = .returned v ∧ UpR ss ∧ (∀ x, x ∈ ss ↔ x ∈ needsP ts r) ∧ Own w' w.heap.size 43 2 v (r2cs ss) ∧ Below w.heap.size w w' := by
  obtain ⟨rt, rr⟩ := r
  have hx1 : Ext w ((w.alloc (.cells #[tv] 24)).alloc (.cells #[.string rt, .string rr] 43)) := (Ext.alloc _ _).trans (Ext.alloc _ _)
  have HX := Lib.hid hx1
  have HO := Lib.hid (wide_any ts tv _ (h.up hx1) hok hu hsz)
  have hS := ((Blk.made w #[tv] 24).alloc (.cells #[.string rt, .string rr] 43)).cells
  have HR0 := Lib.hid (Blk.made' (w := w.alloc (.cells #[tv] 24)) (B := w.heap.size + 1) (by simp) #[.string rt, .string rr] 43)
  have HOK := Lib.hid hok
  have HRK := Lib.hid hr
  have HN := Lib.hid hn
  have hmm := @run_makeMap Try.prog
  have hR0 := HR0.out.cells
  unfold r2V
  dsimp only
  clear h hok hu hsz hr hn hx1
  go_enter Try.func21, Try.ntmps21
  go_wp2_with fail
  refine HO.out.mono ?_
  rintro e w2 ⟨b1, b2, b3, rfl, hbk, hb2⟩
  have HBK := Lib.hid hbk
  have HB2 := Lib.hid (show Below w.heap.size w w2 from Ext.trans HX.out hb2)
  obtain ⟨w3, hw3⟩ : ∃ x, x = w2.alloc (.map #[] 0) := ⟨_, rfl⟩
  obtain ⟨w4, hw4⟩ : ∃ x, x = w3.alloc (.cells #[.map (some b1), .map (some b2), .map (some b3)] 74) := ⟨_, rfl⟩
  have e3 : w3.heap.size = w2.heap.size + 1 := by rw [hw3]; simp
  have x23 : Ext w2 w3 := by rw [hw3]; exact Ext.alloc _ _
  have x34 : Ext w3 w4 := by rw [hw4]; exact Ext.alloc _ _
  have HM4 := Lib.hid (show Mp Try.prog 43 r2V bV w4 w2.heap.size (blR []) from Mp.below (by rw [hw3]; exact Mp.made _) x34)
  have HC4 := Lib.hid (show Blk w4 (w2.heap.size + 1) #[.map (some b1), .map (some b2), .map (some b3)] 74 from by rw [hw4, ← e3]; exact Blk.made _ _ _)
  have HR4 := Lib.hid ((HR0.out.below hb2).below (x23.trans x34))
  obtain ⟨z, hlkF, hzat, hz1, hz2⟩ := hbk.R.lookF ⟨rt, rr⟩ HRK.out
  have hlk := hlkF w4 (x23.trans x34)
  have HZAT := Lib.hid hzat
  obtain ⟨zo, zc, hzv, -⟩ := hzat.rows
  unfold rvV rV r2V at hlk
  dsimp only at hlk
  rw [hzv] at hlk
  obtain ⟨w5, hw5⟩ : ∃ x, x = w4.alloc (.cells #[.int .i64 z.1.k, .string z.1.a, .string z.1.b, .slice zo z.1.ps.length zc] 46) := ⟨_, rfl⟩
  have x45 : Ext w4 w5 := by rw [hw5]; exact Ext.alloc _ _
  have HZ5 := Lib.hid (show Blk w5 w4.heap.size #[.int .i64 z.1.k, .string z.1.a, .string z.1.b, .slice zo z.1.ps.length zc] 46 from by rw [hw5]; exact Blk.made _ _ _)
  have c4 := HC4.out.cells
  have c5 := (HC4.out.below x45).cells
  have r4 := HR4.out.cells
  have r5 := (HR4.out.below x45).cells
  have z5 := HZ5.out.cells
  have HM5 := Lib.hid (HM4.out.below x45)
  have HX5 := Lib.hid (show Below w.heap.size w w5 from HB2.out.trans (Below.mono (x23.trans (x34.trans x45)) HB2.out.size))
  have HX25 := Lib.hid (show Below w2.heap.size w2 w5 from x23.trans (x34.trans x45))
  have HBN := Lib.hid (show w.heap.size ≤ w2.heap.size from HB2.out.size)
  cases hl : lookA (refsOf ts) ⟨rt, rr⟩ with
  | none =>
    have HE := Lib.hid (show needsP ts ⟨rt, rr⟩ = [] from by unfold needsP; rw [hl])
    rw [hl] at hlk
    have HS := Lib.hid (sortedP_any w2.heap.size [] w5 HM5.out (Nat.zero_le _))
    clear HO hS hR0 hbk hb2 hlkF hzat hzv hz1 hz2 e3 x23 x34 x45 hl
    subst hw5 hw4 hw3
    dsimp only [Option.isSome] at hlk
    go_wp2_with fail
    refine HS.out.mono ?_
    rintro e w6 ⟨v, ss, rfl, hp, hu, ho, hb⟩
    have HP := Lib.hid hp
    have HU := Lib.hid hu
    have HOW := Lib.hid (ho.mono HX5.out.size)
    have HBE := Lib.hid (HX5.out.trans (hb.mono HX5.out.size))
    clear HS hp hu ho hb c4 c5 r4 r5 z5 hlk
    go_wp2_with fail
    go_ret
    exact ⟨v, ss, rfl, HU.out, fun x => by rw [HE.out]; exact HP.out.mem_iff, HOW.out, HBE.out⟩
  | some rule =>
    obtain rfl := hz1 rule hl
    have HE := Lib.hid (show needsP ts ⟨rt, rr⟩ = z.1.pneeds (refsOf ts) rt from by unfold needsP; rw [hl])
    have hzok := rule_ok HOK.out hl
    rw [hl] at hlk
    have HNE := Lib.hid (need_any rt HRK.out.1 hbk HOK.out (Nat.le_refl _) z.1 z.2 w5 [] hzat hzok HX25.out HM5.out)
    have HLE := Lib.hid (show ((z.1.pneeds (refsOf ts) rt).foldl addR []).length ≤ 549755813888 from by
      have h1 := foldR_len (z.1.pneeds (refsOf ts) rt) []
      have h2 := HN.out
      rw [HE.out] at h2
      simp only [List.length_nil] at h1
      omega)
    unfold rV at HNE
    rw [hzv] at HNE
    clear HO hS hR0 hbk hb2 hlkF hzat hzv hz1 hz2 e3 x23 x34 x45 hl hzok
    subst hw5 hw4 hw3
    dsimp only [Option.isSome] at hlk
    go_wp2_with fail
    refine HNE.out.mono ?_
    rintro e w6 ⟨rfl, hm6, htk6⟩
    have HX6 := Lib.hid (HX5.out.trans (htk6.below HX5.out.size HBN.out))
    have HS := Lib.hid (sortedP_any w2.heap.size _ w6 hm6 HLE.out)
    clear HNE hm6 htk6 c4 c5 r4 r5 z5 hlk
    go_wp2_with fail
    refine HS.out.mono ?_
    rintro e w7 ⟨v, ss, rfl, hp, hu, ho, hb⟩
    have HP := Lib.hid hp
    have HU := Lib.hid hu
    have HOW := Lib.hid (ho.mono HX6.out.size)
    have HBE := Lib.hid (HX6.out.trans (hb.mono HX6.out.size))
    clear HS hp hu ho hb
    go_wp2_with fail
    go_ret
    exact ⟨v, ss, rfl, HU.out, fun x => by rw [HE.out, HP.out.mem_iff, foldR_mem]; simp, HOW.out, HBE.out⟩

end Go.Proofs.Ytfhonficpccegaa
namespace Go.Proofs.Ytfhonficpccegaa
open Go Go.RowKit Go.Maps Go.Shelf

/-- What a relation reaches. -/
inductive ReachP (ts : List TyS) (r : R2) : R2 → Prop where
  | self : ReachP ts r r
  | step {x y : R2} : ReachP ts r x → y ∈ needsP ts x → ReachP ts r y
/-- All that it may reach. -/
def univP (ts : List TyS) (r : R2) : List R2 := r :: (refsOf ts).flatMap fun x => x.2.pneeds (refsOf ts) x.1.t
theorem needs_univ {ts : List TyS} {x y : R2} (h : y ∈ needsP ts x) : ∃ rule, lookA (refsOf ts) x = some rule ∧ y ∈ rule.pneeds (refsOf ts) x.t := by
  unfold needsP at h
  split at h
  · cases h
  · rename_i rule hl
    exact ⟨rule, hl, h⟩
theorem reach_univ {ts : List TyS} {r x : R2} (h : ReachP ts r x) : x ∈ univP ts r := by
  cases h with
  | self => exact List.mem_cons_self
  | step h1 h2 =>
    obtain ⟨rule, hl, hy⟩ := needs_univ h2
    exact List.mem_cons_of_mem _ (List.mem_flatMap.2 ⟨_, look_mem hl, hy⟩)
theorem nodup_le {α : Type} : ∀ {l u : List α}, l.Nodup → (∀ x ∈ l, x ∈ u) → l.length ≤ u.length
  | [], _, _, _ => Nat.zero_le _
  | a :: l, u, hn, hs => by
    obtain ⟨p, q, rfl⟩ := List.append_of_mem (hs a List.mem_cons_self)
    rw [List.nodup_cons] at hn
    have h1 := nodup_le (l := l) (u := p ++ q) hn.2 fun x hx => by
      have h2 := hs x (List.mem_cons_of_mem _ hx)
      rcases List.mem_append.1 h2 with h3 | h3
      · exact List.mem_append_left _ h3
      · rcases List.mem_cons.1 h3 with h3 | h3
        · subst h3; exact absurd hx hn.1
        · exact List.mem_append_right _ h3
    simp only [List.length_cons, List.length_append] at h1 ⊢
    omega
/-- The work list's state. -/
structure ClI (ts : List TyS) (r : R2) (S l : List R2) : Prop where
  inS : ∀ x ∈ S, ReachP ts r x
  inL : ∀ x ∈ l, ReachP ts r x
  step : ∀ x ∈ S, ∀ y ∈ needsP ts x, y ∈ S ∨ y ∈ l
  start : r ∈ S ∨ r ∈ l
  len : l.length ≤ 1 + S.length * 4096
theorem ClI.start' (ts : List TyS) (r : R2) : ClI ts r [] [r] := ⟨by simp, fun x hx => by rw [List.mem_singleton.1 hx]; exact .self, by simp, .inr List.mem_cons_self, by simp⟩
theorem ClI.done {ts : List TyS} {r : R2} {S : List R2} (h : ClI ts r S []) (x : R2) : x ∈ S ↔ ReachP ts r x := by
  refine ⟨h.inS x, fun hr => ?_⟩
  induction hr with
  | self => exact h.start.elim id (fun h => by cases h)
  | step _ h2 ih => exact (h.step _ ih _ h2).elim id (fun h => by cases h)
theorem ClI.skip {ts : List TyS} {r x : R2} {S l : List R2} (h : ClI ts r S (l ++ [x])) (hx : x ∈ S) : ClI ts r S l := by
  refine ⟨h.inS, fun y hy => h.inL y (List.mem_append_left _ hy), fun a ha y hy => ?_, ?_, ?_⟩
  · rcases h.step a ha y hy with h1 | h1
    · exact .inl h1
    · rcases List.mem_append.1 h1 with h1 | h1
      · exact .inr h1
      · rw [List.mem_singleton.1 h1]; exact .inl hx
  · rcases h.start with h1 | h1
    · exact .inl h1
    · rcases List.mem_append.1 h1 with h1 | h1
      · exact .inr h1
      · rw [List.mem_singleton.1 h1]; exact .inl hx
  · have := h.len
    rw [List.length_append] at this
    omega
theorem ClI.more {ts : List TyS} {r x : R2} {S l ss : List R2} (h : ClI ts r S (l ++ [x])) (hx : ¬ x ∈ S) (hs : ∀ y, y ∈ ss ↔ y ∈ needsP ts x) (hl : ss.length ≤ 4096) : ClI ts r (addR S x) (l ++ ss) := by
  have hxr := h.inL x (by simp)
  have hlen : (addR S x).length = S.length + 1 := by unfold addR; rw [if_neg hx]; simp
  refine ⟨fun y hy => ?_, fun y hy => ?_, fun a ha y hy => ?_, ?_, ?_⟩
  · rcases (addR_mem _ _ _).1 hy with h1 | rfl
    · exact h.inS y h1
    · exact hxr
  · rcases List.mem_append.1 hy with h1 | h1
    · exact h.inL y (List.mem_append_left _ h1)
    · exact .step hxr ((hs y).1 h1)
  · rcases (addR_mem _ _ _).1 ha with h1 | rfl
    · rcases h.step a h1 y hy with h2 | h2
      · exact .inl ((addR_mem _ _ _).2 (.inl h2))
      · rcases List.mem_append.1 h2 with h2 | h2
        · exact .inr (List.mem_append_left _ h2)
        · exact .inl ((addR_mem _ _ _).2 (.inr (List.mem_singleton.1 h2)))
    · exact .inr (List.mem_append_right _ ((hs y).2 hy))
  · rcases h.start with h1 | h1
    · exact .inl ((addR_mem _ _ _).2 (.inl h1))
    · rcases List.mem_append.1 h1 with h1 | h1
      · exact .inr (List.mem_append_left _ h1)
      · exact .inl ((addR_mem _ _ _).2 (.inr (List.mem_singleton.1 h1)))
  · have := h.len
    rw [List.length_append] at this ⊢
    rw [hlen]
    simp only [List.length_cons, List.length_nil] at this
    omega
theorem flat_le {α β : Type} (f : α → List β) (D : Nat) : ∀ l : List α, (∀ x ∈ l, (f x).length ≤ D) → (l.flatMap f).length ≤ l.length * D
  | [], _ => by simp
  | a :: l, h => by
    rw [List.flatMap_cons, List.length_append, List.length_cons, Nat.add_mul]
    have h1 := h a List.mem_cons_self
    have h2 := flat_le f D l fun x hx => h x (List.mem_cons_of_mem _ hx)
    omega
theorem univ_len {ts : List TyS} {r : R2} (h1 : (refsOf ts).length ≤ 4096) (h2 : ∀ x ∈ refsOf ts, (x.2.pneeds (refsOf ts) x.1.t).length ≤ 4096) : (univP ts r).length ≤ 16777217 := by
  unfold univP
  rw [List.length_cons]
  have h3 := flat_le (fun x : R2 × RT => x.2.pneeds (refsOf ts) x.1.t) 4096 (refsOf ts) h2
  have h4 : (refsOf ts).length * 4096 ≤ 4096 * 4096 := Nat.mul_le_mul_right _ h1
  omega
theorem pneeds_ok {ts : List TyS} (h : ∀ t ∈ ts, t.Ok) {typ : ByteArray} (ht : typ.size ≤ maxLen) (r : RT) : r.Ok → ∀ x ∈ r.pneeds (refsOf ts) typ, x.Ok := by
  induction r using RT.ind with
  | h r ih =>
    intro hok x hx
    obtain ⟨-, hoa, hob, hop⟩ := r.ok_iff.1 hok
    obtain ⟨k, a, b, ps⟩ := r
    dsimp only [RT.a, RT.b, RT.ps] at hoa hob hop ih
    have ha : a.size ≤ maxLen := by unfold maxLen; omega
    have hb : b.size ≤ maxLen := by unfold maxLen; omega
    rw [RT.pneeds] at hx
    rcases List.mem_append.1 hx with hx | hx
    · split at hx
      · rw [List.mem_singleton.1 hx]; exact ⟨ht, ha⟩
      · split at hx
        · rcases List.mem_cons.1 hx with rfl | hx
          · exact ⟨ht, ha⟩
          · obtain ⟨n, hn, rfl⟩ := List.mem_map.1 hx
            exact ⟨where_ok h b n hn, hb⟩
        · cases hx
    · rw [pneedsL_eq] at hx
      obtain ⟨p, hp, hx⟩ := List.mem_flatMap.1 hx
      exact ih p hp (hop p hp) x hx
theorem reach_ok {ts : List TyS} (h : ∀ t ∈ ts, t.Ok) {r : R2} (hr : r.Ok) {x : R2} (hx : ReachP ts r x) : x.Ok := by
  induction hx with
  | self => exact hr
  | step _ h2 ih =>
    obtain ⟨rule, hl, hy⟩ := needs_univ h2
    exact pneeds_ok h ih.1 rule (rule_ok h hl) _ hy
def mapLen (w : World) (b : Nat) : Nat := match w.heap[b]? with | some (.map es _) => es.size | _ => 0
theorem Mp.mapLen {P : Program} {k : TypeId} {κ α : Type} {kv : κ → Value} {ev : α → Value} {w : World} {b : Nat} {l : List (κ × α)} (h : Mp P k kv ev w b l) : mapLen w b = l.length := by
  obtain ⟨es, clock, hb, _, hm, _⟩ := h
  unfold Go.Proofs.Ytfhonficpccegaa.mapLen
  rw [hb]
  have := congrArg List.length hm
  simpa using this
def sliceLen : Value → Nat | .slice _ n _ => n | _ => 0
theorem Own.cut {w : World} {B : Nat} {e : TypeId} {sz : Nat} {ao : Option Addr} {n c : Nat} {xs : List Value} (h : Own w B e sz (.slice ao n c) xs) (k : Nat) (hk : k ≤ n) : Own w B e sz (.slice ao k c) (xs.take (k * sz)) := by
  obtain ⟨m, h⟩ := h
  have hks : k * sz ≤ n * sz := Nat.mul_le_mul_right _ hk
  rcases h.2 with ⟨hv, rfl⟩ | ⟨g, cap, cur, hv, hbg, hg, hnc, hcm, hcs, htake⟩
  · cases hv
    obtain rfl : k = 0 := by omega
    rw [Nat.zero_mul, List.take_zero]
    exact Own.nil _ _ _ _
  · cases hv
    have hl := h.1
    refine ⟨k, by rw [List.length_take]; omega, .inr ⟨g, c, cur, rfl, hbg, hg, by omega, hcm, hcs, ?_⟩⟩
    rw [← htake, List.take_take]
    congr 1
    omega
theorem QKept.tk {e : TypeId} {b B : Nat} {w w' : World} (h : Tk b w w') (hB : B ≤ w.heap.size) (hb : B ≤ b) : QKept e (· = b) B w w' := Kept.mono h fun x hx => by
  rcases hx with hx | ⟨h1, h2, _⟩
  · exact ⟨by omega, by omega⟩
  · exact ⟨h2, h1⟩

set_option maxRecDepth 100000 in
set_option maxHeartbeats 8000000 in
theorem closureP_any (ts : List TyS) (tv : Value) (r : R2) (w : World) (h : TysAt (· < w.heap.size) w ts tv) (hok : ∀ t ∈ ts, t.Ok) (hu : uniqOk ts = true) (hsz : (refsOf ts).length ≤ 4096) (hr : r.Ok) (hn : ∀ x ∈ refsOf ts, (x.2.pneeds (refsOf ts) x.1.t).length ≤ 4096) :
    Calls Try.prog 23 #[.agg #[tv], r2V r] w fun e w' => ∃ (v : Value) (ss : List R2), e = .returned v ∧ (lookA (refsOf ts) r = none → ss = []) ∧ ((lookA (refsOf ts) r).isSome = true → UpR ss ∧ ∀ x, x ∈ ss ↔ ReachP ts r x) ∧ Own w' w.heap.size 43 2 v (r2cs ss) ∧ Below w.heap.size w w' := by
  obtain ⟨rt, rr⟩ := r
  have hx1 : Ext w ((w.alloc (.cells #[tv] 24)).alloc (.cells #[.string rt, .string rr] 43)) := (Ext.alloc _ _).trans (Ext.alloc _ _)
  have HX := Lib.hid hx1
  have HO := Lib.hid (wide_any ts tv _ (h.up hx1) hok hu (by omega))
  have hS := ((Blk.made w #[tv] 24).alloc (.cells #[.string rt, .string rr] 43)).cells
  have HR0 := Lib.hid (Blk.made' (w := w.alloc (.cells #[tv] 24)) (B := w.heap.size + 1) (by simp) #[.string rt, .string rr] 43)
  have HOK := Lib.hid hok
  have HRK := Lib.hid hr
  have HN := Lib.hid hn
  have HSZ := Lib.hid hsz
  have hmm := @run_makeMap Try.prog
  have hR0 := HR0.out.cells
  unfold r2V
  dsimp only
  clear h hok hu hsz hr hn hx1
  go_enter Try.func23, Try.ntmps23
  go_wp2_with fail
  refine HO.out.mono ?_
  rintro e w2 ⟨b1, b2, b3, rfl, hbk, hb2⟩
  have HBK := Lib.hid hbk
  have HB2 := Lib.hid (show Below w.heap.size w w2 from Ext.trans HX.out hb2)
  obtain ⟨w3, hw3⟩ : ∃ x, x = w2.alloc (.map #[] 0) := ⟨_, rfl⟩
  obtain ⟨w4, hw4⟩ : ∃ x, x = w3.alloc (.cells #[.map (some b1), .map (some b2), .map (some b3)] 74) := ⟨_, rfl⟩
  have e3 : w3.heap.size = w2.heap.size + 1 := by rw [hw3]; simp
  have x23 : Ext w2 w3 := by rw [hw3]; exact Ext.alloc _ _
  have x34 : Ext w3 w4 := by rw [hw4]; exact Ext.alloc _ _
  have HM4 := Lib.hid (show Mp Try.prog 43 r2V bV w4 w2.heap.size (blR []) from Mp.below (by rw [hw3]; exact Mp.made _) x34)
  have HC4 := Lib.hid (show Blk w4 (w2.heap.size + 1) #[.map (some b1), .map (some b2), .map (some b3)] 74 from by rw [hw4, ← e3]; exact Blk.made _ _ _)
  have HR4 := Lib.hid ((HR0.out.below hb2).below (x23.trans x34))
  obtain ⟨z, hlkF, hzat, -, -⟩ := hbk.R.lookF ⟨rt, rr⟩ HRK.out
  have hlk := hlkF w4 (x23.trans x34)
  obtain ⟨zo, zc, hzv, -⟩ := hzat.rows
  unfold rvV rV r2V at hlk
  dsimp only at hlk
  rw [hzv] at hlk
  obtain ⟨w5, hw5⟩ : ∃ x, x = w4.alloc (.cells #[.int .i64 z.1.k, .string z.1.a, .string z.1.b, .slice zo z.1.ps.length zc] 46) := ⟨_, rfl⟩
  have x45 : Ext w4 w5 := by rw [hw5]; exact Ext.alloc _ _
  have c4 := HC4.out.cells
  have r4 := HR4.out.cells
  have r5 := (HR4.out.below x45).cells
  have HX5 := Lib.hid (show Below w.heap.size w w5 from HB2.out.trans (Below.mono (x23.trans (x34.trans x45)) HB2.out.size))
  have HBN := Lib.hid (show w.heap.size ≤ w2.heap.size from HB2.out.size)
  have e5 : w5.heap.size = w2.heap.size + 1 + 1 + 1 := by rw [hw5, hw4]; simp [e3]
  cases hl : lookA (refsOf ts) ⟨rt, rr⟩ with
  | none =>
    have HL := Lib.hid hl
    rw [hl] at hlk
    clear HO hS hR0 hbk hb2 hlkF hzat hzv e3 e5 x23 x34 x45 hl
    subst hw5 hw4 hw3
    dsimp only [Option.isSome] at hlk
    go_wp2_with fail
    go_ret
    exact ⟨_, [], rfl, fun _ => rfl, (fun h => by rw [HL.out] at h; cases h), Own.nil _ _ _ _, HX5.out⟩
  | some rule =>
    have HLS := Lib.hid (show lookA (refsOf ts) ⟨rt, rr⟩ = some rule from hl)
    rw [hl] at hlk
    obtain ⟨w6, hw6⟩ : ∃ x, x = w5.alloc (.cells #[.string rt, .string rr] 43) := ⟨_, rfl⟩
    have x56 : Ext w5 w6 := by rw [hw6]; exact Ext.alloc _ _
    have HM6 := Lib.hid (HM4.out.below (x45.trans x56))
    have HC6 := Lib.hid (HC4.out.below (x45.trans x56))
    have HX26 := Lib.hid (show Below w2.heap.size w2 w6 from x23.trans (x34.trans (x45.trans x56)))
    have HOW6 := Lib.hid (show Own w6 w2.heap.size 43 2 (.slice (some ⟨w2.heap.size + 1 + 1 + 1, 0, none⟩) 1 1) (r2cs [⟨rt, rr⟩]) from by rw [hw6, ← e5]; exact Own.lit _ (by have := (x23.trans (x34.trans x45)).size; exact this) _ 2 1 #[.string rt, .string rr] rfl (by decide) (by decide))
    clear HO hS hR0 hbk hb2 hlkF hzat hzv e3 e5 x23 x34 x45 x56 hl
    subst hw6 hw5 hw4 hw3
    dsimp only [Option.isSome] at hlk
    go_wp2_with fail
    clear c4 r4 r5 hlk
    obtain ⟨w6, hw6⟩ : ∃ x, x = (((w2.alloc (.map #[] 0)).alloc (.cells #[.map (some b1), .map (some b2), .map (some b3)] 74)).alloc (.cells #[.int .i64 z.1.k, .string z.1.a, .string z.1.b, .slice zo z.1.ps.length zc] 46)).alloc (.cells #[.string rt, .string rr] 43) := ⟨_, rfl⟩
    rw [← hw6] at HM6 HC6 HX26 HOW6 ⊢
    clear hw6 HC4 HR4 HM4 HX5
    obtain ⟨bs, hbs⟩ : ∃ x, x = w2.heap.size := ⟨_, rfl⟩
    have HBS := Lib.hid hbs
    have HBS2 := Lib.hid (show w2.heap.size ≤ bs from by omega)
    have HCB := Lib.hid (show ¬ (w2.heap.size + 1 = bs) from by omega)
    rw [show Value.map (some w2.heap.size) = .map (some bs) from by rw [hbs]]
    have HM6 := Lib.hid (show Mp Try.prog 43 r2V bV w6 bs (blR []) from by rw [hbs]; exact HM6.out)
    clear hbs
    go_loopw [9] (fun wv wr => ∃ (S l : List R2), Mp Try.prog 43 r2V bV wr bs (blR S) ∧ Own wr w2.heap.size 43 2 wv (r2cs l) ∧ ClI ts ⟨rt, rr⟩ S l ∧ QKept 43 (· = bs) w2.heap.size w6 wr) (fun wv wr => ((univP ts ⟨rt, rr⟩).length - mapLen wr bs) * 4098 + sliceLen wv)
    case atStart => exact ⟨[], [⟨rt, rr⟩], HM6.out, HOW6.out, ClI.start' _ _, Kept.refl _ _⟩
    case round =>
      obtain ⟨S, l, hm, hown, hcl, hq⟩ := hrel
      have HM := Lib.hid hm
      have HOW := Lib.hid hown
      have HCL := Lib.hid hcl
      have HQ := Lib.hid hq
      have HND := Lib.hid (show S.Nodup from by have := hm.nodup; rwa [blR_keys] at this)
      have HML := Lib.hid (show mapLen wr bs = S.length from by rw [hm.mapLen]; simp [blR])
      have HUL := Lib.hid (show (univP ts ⟨rt, rr⟩).length ≤ 16777217 from univ_len HSZ.out HN.out)
      have HSL := Lib.hid (show S.length ≤ (univP ts ⟨rt, rr⟩).length from nodup_le HND.out fun x hx => reach_univ (hcl.inS x hx))
      have hbel2 : Below w2.heap.size w2 wr := HX26.out.trans hq.below
      have HB2R := Lib.hid hbel2
      obtain ⟨ao, c, rfl, hlc, hcm, hcell⟩ := refs_rows hown.sl
      clear HM6 HOW6 hm hcl hq
      rcases List.eq_nil_or_concat l with rfl | ⟨l2, x, rfl⟩
      · have HS := Lib.hid (sortedP_any bs S wr HM.out (by have := HSL.out; have := HUL.out; omega))
        clear hcell hown hbel2
        rw [List.length_nil]
        rw [List.length_nil] at HOW
        go_wp2_with fail
        refine HS.out.mono ?_
        rintro e w7 ⟨v, ss, rfl, hp, hu, ho, hb⟩
        have HP := Lib.hid hp
        have HU := Lib.hid hu
        have HBW := Lib.hid (HB2.out.trans (HB2R.out.mono HB2.out.size))
        have HOW7 := Lib.hid (ho.mono HBW.out.size)
        have HBE := Lib.hid (HBW.out.trans (hb.mono HBW.out.size))
        clear HS hp hu ho hb
        go_wp2_with fail
        go_ret
        exact ⟨v, ss, rfl, (fun h => by rw [HLS.out] at h; cases h), fun _ => ⟨HU.out, fun x => by rw [HP.out.mem_iff]; exact HCL.out.done x⟩, HOW7.out, HBE.out⟩
      · rw [List.concat_eq_append] at *
        obtain ⟨bb, off, hbo, hb, c0, c1⟩ := hcell l2.length (by simp)
        cases hbo
        rw [List.getElem_append_right (Nat.le_refl _)] at c0 c1
        simp only [Nat.sub_self, List.getElem_cons_zero] at c0 c1
        have HRX := Lib.hid (HCL.out.inL x (by simp))
        have HKX := Lib.hid (reach_ok HOK.out HRK.out HRX.out)
        have hlen : (l2 ++ [x]).length = l2.length + 1 := by simp
        rw [hlen] at hlc HOW hown ⊢
        have HLEN := Lib.hid HCL.out.len
        have HCUT := Lib.hid (show Own wr w2.heap.size 43 2 (.slice (some ⟨bb, off, none⟩) l2.length c) (r2cs l2) from by
          have := hown.cut l2.length (by omega)
          rwa [r2cs_append, List.take_left' (by rw [r2cs_length]; omega)] at this)
        obtain ⟨xt, xr⟩ := x
        dsimp only at c0 c1
        generalize hn2 : l2.length = n2 at *
        have HN2 := Lib.hid hn2
        have hw1 : wrap64 ((n2 : Int) + 1 - 1) = (n2 : Int) := by rw [Int.add_sub_cancel]; exact wrap_in _ (by omega) (by omega)
        have hw2 : wrap64 (n2 : Int) = (n2 : Int) := wrap_in _ (by omega) (by omega)
        have h0n : (0 : Int) ≤ (n2 : Int) := by omega
        have hnc : (n2 : Int) ≤ (n2 : Int) + 1 := by omega
        have hpos : (0 : Int) < (n2 : Int) + 1 := by omega
        have hlt1 : (n2 : Int) < (n2 : Int) + 1 := by omega
        obtain ⟨wa, hwa⟩ : ∃ x, x = wr.alloc (.cells #[.string xt, .string xr] 43) := ⟨_, rfl⟩
        have xra : Ext wr wa := by rw [hwa]; exact Ext.alloc _ _
        have HXA := Lib.hid (show Blk wa wr.heap.size #[.string xt, .string xr] 43 from by rw [hwa]; exact Blk.made _ _ _)
        have xa := HXA.out.cells
        have HMA := Lib.hid (HM.out.below xra)
        have hlks := HMA.out.look refK r2V_inj Try.underlying68 (Try.zeroValue4 wa) false (ref_key ⟨xt, xr⟩ HKX.out)
        rw [look_blR] at hlks
        unfold r2V lookV bV at hlks
        dsimp only at hlks
        have HXRA := Lib.hid xra
        clear hlen hcell hown hbel2 hn2
        by_cases hin : (⟨xt, xr⟩ : R2) ∈ S
        · rw [if_pos hin] at hlks
          dsimp only at hlks
          have HC2 := Lib.hid (HCL.out.skip hin)
          have HQ2 := Lib.hid (QKept.next HQ.out (QKept.of (e := 43) (M := (· = bs)) HXRA.out HB2R.out.size))
          have HW2 := Lib.hid (HCUT.out.below HXRA.out)
          have HML2 := Lib.hid (show mapLen wa bs = S.length from by rw [HMA.out.mapLen]; simp [blR])
          clear hin xra
          subst hwa
          go_wp2_with fail
          go_roundw
          case rel => exact ⟨S, l2, HMA.out, HW2.out, HC2.out, HQ2.out⟩
          case measure => rw [HML2.out, HML.out]; simp only [sliceLen]; omega
        rw [if_neg hin] at hlks
        have HIN := Lib.hid hin
        dsimp only at hlks
        obtain ⟨wb, hst, hMB, hTB⟩ := HMA.out.store refK r2V_inj Try.underlying68 (ref_key ⟨xt, xr⟩ HKX.out) true
        rw [put_addR] at hMB
        unfold r2V bV at hst
        dsimp only at hst
        have HXB := Lib.hid ((Tk.turned hTB).box HXA.out (by have := HM.out.lt; omega))
        have HTKB := Lib.hid (show Tk bs wr wb from Tk.next (Tk.of xra) (Tk.turned hTB))
        have HBLB := Lib.hid (HB2R.out.trans (HTKB.out.below HB2R.out.size HBS2.out))
        obtain ⟨y, hlyF, hyat, hy1, -⟩ := HBK.out.R.lookF ⟨xt, xr⟩ HKX.out
        have HYAT := Lib.hid hyat
        obtain ⟨yo, yc, hyv, -⟩ := hyat.rows
        have hly := hlyF wb HBLB.out
        unfold rvV rV r2V at hly
        dsimp only at hly
        rw [hyv] at hly
        obtain ⟨wc, hwc⟩ : ∃ x, x = wb.alloc (.cells #[.int .i64 y.1.k, .string y.1.a, .string y.1.b, .slice yo y.1.ps.length yc] 46) := ⟨_, rfl⟩
        have xbc : Ext wb wc := by rw [hwc]; exact Ext.alloc _ _
        have HCRB := Lib.hid ((QKept.next HQ.out (QKept.tk HTKB.out HB2R.out.size HBS2.out)).box HC6.out (by decide) HCB.out)
        have cb := HCRB.out.cells
        have cc := (HCRB.out.below xbc).cells
        have xb := HXB.out.cells
        have xc := (HXB.out.below xbc).cells
        have HYC := Lib.hid (show Blk wc wb.heap.size #[.int .i64 y.1.k, .string y.1.a, .string y.1.b, .slice yo y.1.ps.length yc] 46 from by rw [hwc]; exact Blk.made _ _ _)
        have HMC := Lib.hid (hMB.below xbc)
        have HTKC := Lib.hid (Tk.next HTKB.out (Tk.of xbc))
        have HSL2 := Lib.hid (show S.length + 1 ≤ (univP ts ⟨rt, rr⟩).length from by
          have := nodup_le (l := addR S ⟨xt, xr⟩) (u := univP ts ⟨rt, rr⟩) (by have := hMB.nodup; rwa [blR_keys] at this) (fun x hx => by
            rcases (addR_mem _ _ _).1 hx with h | rfl
            · exact reach_univ (HCL.out.inS x h)
            · exact reach_univ HRX.out)
          unfold addR at this
          rw [if_neg HIN.out] at this
          simpa using this)
        have HADL := Lib.hid (show (addR S ⟨xt, xr⟩).length = S.length + 1 from by unfold addR; rw [if_neg HIN.out]; simp)
        cases hlx : lookA (refsOf ts) ⟨xt, xr⟩ with
        | none =>
          rw [hlx] at hly
          have HC2 := Lib.hid (show ClI ts ⟨rt, rr⟩ (addR S ⟨xt, xr⟩) l2 from by
            have := HCL.out.more HIN.out (ss := []) (fun y => by unfold needsP; rw [hlx]) (Nat.zero_le _)
            rwa [List.append_nil] at this)
          have HQ2 := Lib.hid (QKept.next HQ.out (QKept.tk (e := 43) HTKC.out HB2R.out.size HBS2.out))
          have HW2 := Lib.hid (show Own wc w2.heap.size 43 2 _ (r2cs l2) from HCUT.out.keepB fun g hg => HTKC.out.block g ⟨(HCUT.out.block g hg).2, HCUT.out.notMap HM.out.notCells g hg⟩)
          have HML2 := Lib.hid (show mapLen wc bs = S.length + 1 from by rw [HMC.out.mapLen]; simpa [blR] using HADL.out)
          clear hin xra xbc hMB hTB hlyF hyat hyv hlx
          subst hwc hwa
          dsimp only [Option.isSome] at hly
          go_wp2_with fail
          go_roundw
          case rel => exact ⟨_, l2, HMC.out, HW2.out, HC2.out, HQ2.out⟩
          case measure => rw [HML2.out, HML.out]; have := HSL2.out; simp only [sliceLen]; omega
        | some rule2 =>
          rw [hlx] at hly
          obtain rfl := hy1 rule2 hlx
          have HND2 := Lib.hid (show needsP ts ⟨xt, xr⟩ = y.1.pneeds (refsOf ts) xt from by unfold needsP; rw [hlx])
          have hyok := rule_ok HOK.out hlx
          have HPL := Lib.hid (show (y.1.pneeds (refsOf ts) xt).length ≤ 4096 from HN.out _ (look_mem hlx))
          obtain ⟨wd, hwd⟩ : ∃ x, x = wc.alloc (.map #[] 0) := ⟨_, rfl⟩
          have ec : wc.heap.size = wb.heap.size + 1 := by rw [hwc]; simp
          have xcd : Ext wc wd := by rw [hwd]; exact Ext.alloc _ _
          have hmd : Mp Try.prog 43 r2V bV wd (wb.heap.size + 1) (blR []) := by rw [hwd, ← ec]; exact Mp.made _
          have HBLD := Lib.hid (show Below w2.heap.size w2 wd from HB2R.out.trans ((Tk.next HTKC.out (Tk.of xcd)).below HB2R.out.size HBS2.out))
          have HBM := Lib.hid (show wr.heap.size ≤ wb.heap.size + 1 from by rw [← ec]; exact HTKC.out.size)
          have HNE := Lib.hid (need_any xt HKX.out.1 HBK.out HOK.out (Nat.le_trans HB2R.out.size HBM.out) y.1 y.2 wd [] HYAT.out hyok HBLD.out hmd)
          have HTKD := Lib.hid (Tk.next HTKC.out (Tk.of xcd))
          have cd := (HCRB.out.below (xbc.trans xcd)).cells
          have xd := (HXB.out.below (xbc.trans xcd)).cells
          have yd := (HYC.out.below xcd).cells
          have HLE := Lib.hid (show ((y.1.pneeds (refsOf ts) xt).foldl addR []).length ≤ 4096 from by
            have h1 := foldR_len (y.1.pneeds (refsOf ts) xt) []
            have h2 := HPL.out
            simp only [List.length_nil] at h1
            omega)
          have HMD := Lib.hid (HMC.out.below xcd)
          have HBSM := Lib.hid (show bs ≠ wb.heap.size + 1 from by have := HM.out.lt; have := HBM.out; omega)
          unfold rV at HNE
          rw [hyv] at HNE
          clear hin xra hMB hTB hlyF hyat hyv hlx hy1 hyok hmd
          subst hwd
          clear ec xcd xbc
          subst hwc hwa
          dsimp only [Option.isSome] at hly
          go_wp2_with fail
          refine HNE.out.mono ?_
          rintro e we ⟨rfl, hme, htke⟩
          obtain ⟨bm, hbm⟩ : ∃ x, x = wb.heap.size + 1 := ⟨_, rfl⟩
          rw [← hbm] at HBM HBSM hme htke
          rw [show Value.map (some (wb.heap.size + 1)) = .map (some bm) from by rw [hbm]]
          have HTKE := Lib.hid (show Tk bs wr we from Kept.trans HTKD.out (htke.mono fun x hx => ⟨Nat.lt_of_lt_of_le hx.1 HTKD.out.size, by have := HBM.out; have := hx.1; omega⟩))
          have HME := Lib.hid hme
          have HMSE := Lib.hid (show Mp Try.prog 43 r2V bV we bs (blR (addR S ⟨xt, xr⟩)) from HMD.out.same (htke.block bs ⟨HMD.out.lt, HBSM.out⟩))
          have HKE := Lib.hid (keysR_any (some bm) we)
          have hxf : Ext we (we.alloc (.cells #[.map (some bm)] 68)) := Ext.alloc _ _
          have HCO := Lib.hid (collectR_any (we.alloc (.cells #[.map (some bm)] 68)) we.heap.size (some bm) (blR ((y.1.pneeds (refsOf ts) xt).foldl addR [])) (by have := HLE.out; simp only [blR, List.length_map]; omega) (by simp) ((Blk.made we #[.map (some bm)] 68).cells 0) (show MpO _ _ _ _ _ (some bm) _ from hme.below hxf))
          have HXF := Lib.hid hxf
          clear HNE hme htke hbm hxf cb cc cd xa xb xc xd yd hst hly hlks c0 c1
          go_wp2_with fail
          refine HKE.out.mono ?_
          rintro e wf ⟨rfl, hwf⟩
          subst hwf
          clear HKE
          go_wp2_with fail
          refine HCO.out.mono ?_
          rintro e wg ⟨vg, ss, rfl, hp, hog, hbg⟩
          have HPG := Lib.hid (show ss.Perm ((y.1.pneeds (refsOf ts) xt).foldl addR []) from by rw [blR_keys] at hp; exact hp)
          have HTKG := Lib.hid (show Tk bs wr wg from Tk.next HTKE.out (Tk.of (Ext.trans HXF.out hbg)))
          have HMSG := Lib.hid (HMSE.out.below (Ext.trans HXF.out hbg))
          have HOG := Lib.hid hog.sl
          have HWG := Lib.hid (show Own wg w2.heap.size 43 2 (.slice (some ⟨bb, off, none⟩) n2 c) (r2cs l2) from HCUT.out.keepB fun g hg => HTKG.out.block g ⟨(HCUT.out.block g hg).2, HCUT.out.notMap HM.out.notCells g hg⟩)
          have HSSL := Lib.hid (show ss.length ≤ 4096 from by rw [HPG.out.length_eq]; exact HLE.out)
          have HBG := Lib.hid (show w2.heap.size ≤ wg.heap.size from Nat.le_trans HB2R.out.size HTKG.out.size)
          have HC2 := Lib.hid (show ClI ts ⟨rt, rr⟩ (addR S ⟨xt, xr⟩) (l2 ++ ss) from HCL.out.more HIN.out (fun y2 => by rw [HPG.out.mem_iff, foldR_mem, HND2.out]; simp) HSSL.out)
          have HLL := Lib.hid (show (l2 ++ ss).length ≤ 100000000000 from by
            have h1 := HC2.out.len
            have h2 := HADL.out
            have h3 := HSL2.out
            have h4 := HUL.out
            omega)
          obtain ⟨go, gn, gc, rfl, -⟩ := hog.sl.len
          clear HCO hp hog hbg
          go_wp2_with (at_builtin; go_must (refine wpList_own2 refsT rfl (.tmp 62) (.tmp 65) rfl rfl HWG.out rfl HOG.out (r2cs_one _) (by have := HLL.out; simp only [r2cs_length, List.length_append] at this ⊢; omega) (by have := HLL.out; simp only [r2cs_length, List.length_append] at this ⊢; omega) HBG.out ?_); intro vh wh hoh hbh hgh)
          have HOH := Lib.hid (show Own wh w2.heap.size 43 2 vh (r2cs (l2 ++ ss)) from by rw [r2cs_append]; exact hoh)
          have HQH := Lib.hid (QKept.next HQ.out (QKept.next (QKept.tk (e := 43) HTKG.out HB2R.out.size HBS2.out) (QKept.grown (M := (· = bs)) HWG.out hgh HBG.out)))
          have HMH := Lib.hid (HMSG.out.same (hgh.block bs HMSG.out.lt (fun e => HWG.out.notMap HMSG.out.notCells bs e.symm rfl)))
          have HML2 := Lib.hid (show mapLen wh bs = S.length + 1 from by rw [HMH.out.mapLen]; simpa [blR] using HADL.out)
          have HVL := Lib.hid (show sliceLen vh = l2.length + ss.length from by
            obtain ⟨ho, hn, hc, rfl, hl, -, -⟩ := HOH.out.sl.len
            rw [r2cs_length, List.length_append] at hl
            simp only [sliceLen]
            omega)
          clear hoh hbh hgh
          go_wp2_with fail
          go_roundw
          case rel => exact ⟨_, l2 ++ ss, HMH.out, HOH.out, HC2.out, HQH.out⟩
          case measure =>
            rw [HML2.out, HML.out, HVL.out]
            have h1 := HSL2.out
            have h2 := HSSL.out
            have h3 := HN2.out
            simp only [sliceLen]
            omega

end Go.Proofs.Ytfhonficpccegaa
