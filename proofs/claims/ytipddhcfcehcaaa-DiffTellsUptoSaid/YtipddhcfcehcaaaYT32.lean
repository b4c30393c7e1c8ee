/- Lemmas for the claim, no condition. -/
import Derived.Test.YtipddhcfcehcaaaYT31
import Derived.Test.YtipddhcfcehcaaaYT24
import Derived.Test.YtipddhcfcehcaaaYT25
namespace Go.Proofs.Ytipddhcfcehcaaa
open Go Go.RowKit Go.Maps

def G1 (us : List TyS) (tn : ByteArray) (r : ByteArray × RT) : List Ch := match lookA (refsOf us) ⟨tn, r.1⟩ with | none => [⟨2, ⟨tn, r.1⟩⟩] | some q => if dtext q = dtext r.2 then [] else [⟨3, ⟨tn, r.1⟩⟩]
def F1 (us : List TyS) (t : TyS) : List Ch := match typF us t.name with | none => [⟨2, ⟨t.name, ⟨#[]⟩⟩⟩] | some _ => t.rels.flatMap (G1 us t.name)
def G2 (ts : List TyS) (un : ByteArray) (r : ByteArray × RT) : List Ch := match lookA (refsOf ts) ⟨un, r.1⟩ with | none => [⟨1, ⟨un, r.1⟩⟩] | some _ => []
def F2 (ts : List TyS) (u : TyS) : List Ch := match typF ts u.name with | none => [⟨1, ⟨u.name, ⟨#[]⟩⟩⟩] | some _ => u.rels.flatMap (G2 ts u.name)
/-- The document's differences, as they come up. -/
def d7 (ts us : List TyS) : List Ch := ts.flatMap (F1 us) ++ us.flatMap (F2 ts)
theorem fm_app_perm {α β : Type} (f g : α → List β) : ∀ l : List α, (l.flatMap fun x => f x ++ g x).Perm (l.flatMap f ++ l.flatMap g)
  | [] => List.Perm.refl _
  | a :: l => by
    rw [List.flatMap_cons, List.flatMap_cons, List.flatMap_cons]
    refine ((fm_app_perm f g l).append_left (f a ++ g a)).trans ?_
    rw [List.append_assoc, List.append_assoc]
    refine List.Perm.append_left _ ?_
    rw [← List.append_assoc, ← List.append_assoc]
    exact List.Perm.append_right _ List.perm_append_comm
theorem fm_perm_of {α β : Type} {f g : α → List β} : ∀ {l : List α}, (∀ x ∈ l, (f x).Perm (g x)) → (l.flatMap f).Perm (l.flatMap g)
  | [], _ => List.Perm.refl _
  | a :: l, h => by
    rw [List.flatMap_cons, List.flatMap_cons]
    exact (h a List.mem_cons_self).append (fm_perm_of fun x hx => h x (List.mem_cons_of_mem _ hx))
theorem fm_if {α β γ : Type} (m : α → β) (p : β → Bool) (h : β → γ) : ∀ l : List α, ((l.map m).filter p).map h = l.flatMap fun x => if p (m x) = true then [h (m x)] else []
  | [] => rfl
  | a :: l => by
    rw [List.map_cons, List.filter_cons, List.flatMap_cons, ← fm_if m p h l]
    by_cases hp : p (m a) = true <;> simp [hp]
theorem fm_ref {γ : Type} (p : R2 × ByteArray → Bool) (h : R2 × ByteArray → γ) : ∀ ts : List TyS, ((dL (refsOf ts)).filter p).map h = ts.flatMap fun t => t.rels.flatMap fun r => if p (⟨t.name, r.1⟩, dtext r.2) = true then [h (⟨t.name, r.1⟩, dtext r.2)] else []
  | [] => rfl
  | t :: ts => by
    have ih := fm_ref p h ts
    have e : dL (refsOf (t :: ts)) = (t.rels.map fun r => ((⟨t.name, r.1⟩ : R2), dtext r.2)) ++ dL (refsOf ts) := by
      unfold refsOf dL
      rw [List.flatMap_cons, List.map_append]
      unfold relsOf
      rw [List.map_map]
      rfl
    rw [e, List.filter_append, List.map_append, List.flatMap_cons, ih, fm_if]
theorem typ_kn (us : List TyS) (n : ByteArray) : kn us n = (typF us n).isSome := by
  rw [Bool.eq_iff_iff, kn_mem]
  unfold typF
  rw [List.find?_isSome, List.mem_map]
  exact ⟨fun ⟨t, ht, e⟩ => ⟨t, ht, decide_eq_true e⟩, fun ⟨t, ht, e⟩ => ⟨t, ht, of_decide_eq_true e⟩⟩
theorem typ_no_refs {us : List TyS} {n : ByteArray} (h : typF us n = none) (r : ByteArray) : lookA (refsOf us) ⟨n, r⟩ = none := refs_out fun j hj e => by
  unfold typF at h
  rw [List.find?_eq_none] at h
  exact h us[j] (List.getElem_mem hj) (decide_eq_true e)
theorem d7_half (ts us : List TyS) (k : Int) : (withoutL ts us k).Perm (ts.flatMap fun t => (if kn us t.name = true then [] else [⟨k, ⟨t.name, ⟨#[]⟩⟩⟩]) ++ t.rels.flatMap fun r => if ((lookA (refsOf us) ⟨t.name, r.1⟩).isNone && kn us t.name) = true then [⟨k, ⟨t.name, r.1⟩⟩] else []) := by
  refine List.Perm.trans ?_ (fm_app_perm _ _ ts).symm
  unfold withoutL noT noR
  rw [fm_ref]
  unfold trL
  rw [fm_if]
  refine List.Perm.append (List.Perm.of_eq ?_) (List.Perm.of_eq ?_)
  · refine congrArg (fun f => List.flatMap f ts) (funext fun t => ?_)
    cases kn us t.name <;> rfl
  · refine congrArg (fun f => List.flatMap f ts) (funext fun t => congrArg (fun f => List.flatMap f t.rels) (funext fun r => ?_))
    rw [dL_look]
    cases lookA (refsOf us) ⟨t.name, r.1⟩ <;> rfl
theorem chg_fm (ts us : List TyS) : chgL us (dL (refsOf ts)) = ts.flatMap fun t => t.rels.flatMap fun r => if chT3 us (⟨t.name, r.1⟩, dtext r.2) = true then [⟨3, ⟨t.name, r.1⟩⟩] else [] := by
  unfold chgL
  exact fm_ref _ _ ts
theorem d7_perm (ts us : List TyS) : (d7 ts us).Perm (diffL ts us) := by
  unfold d7 diffL
  have h1 : (ts.flatMap (F1 us)).Perm (withoutL ts us 2 ++ chgL us (dL (refsOf ts))) := by
    refine List.Perm.trans ?_ ((d7_half ts us 2).symm.append (List.Perm.of_eq (chg_fm ts us).symm))
    refine List.Perm.trans (fm_perm_of fun t _ => ?_) (fm_app_perm _ _ ts)
    unfold F1
    rw [typ_kn]
    cases h : typF us t.name with
    | none =>
      have e1 : (t.rels.flatMap fun r => if ((lookA (refsOf us) ⟨t.name, r.1⟩).isNone && (none : Option TyS).isSome) = true then [(⟨2, ⟨t.name, r.1⟩⟩ : Ch)] else []) = [] := by
        rw [List.flatMap_eq_nil_iff]
        intro r _
        simp
      have e2 : (t.rels.flatMap fun r => if chT3 us (⟨t.name, r.1⟩, dtext r.2) = true then [(⟨3, ⟨t.name, r.1⟩⟩ : Ch)] else []) = [] := by
        rw [List.flatMap_eq_nil_iff]
        intro r _
        unfold chT3
        rw [dL_look, typ_no_refs h]
        rfl
      rw [e1, e2]
      exact List.Perm.refl _
    | some u =>
      refine List.Perm.trans ?_ (List.Perm.of_eq (by rw [if_pos (by rfl), List.nil_append]))
      refine List.Perm.trans (fm_perm_of fun r _ => ?_) (fm_app_perm _ _ t.rels)
      unfold G1 chT3
      dsimp only
      rw [dL_look]
      cases lookA (refsOf us) ⟨t.name, r.1⟩ with
      | none => exact List.Perm.refl _
      | some q =>
        dsimp only [Option.map_some]
        by_cases e : dtext q = dtext r.2
        · simp [e]
        · have e2 : ¬ dtext r.2 = dtext q := fun h => e h.symm
          simp [e]
  have h2 : (us.flatMap (F2 ts)).Perm (withoutL us ts 1) := by
    refine List.Perm.trans (fm_perm_of fun t _ => ?_) (d7_half us ts 1).symm
    unfold F2
    rw [typ_kn]
    cases h : typF ts t.name with
    | none =>
      have e1 : (t.rels.flatMap fun r => if ((lookA (refsOf ts) ⟨t.name, r.1⟩).isNone && (none : Option TyS).isSome) = true then [(⟨1, ⟨t.name, r.1⟩⟩ : Ch)] else []) = [] := by
        rw [List.flatMap_eq_nil_iff]
        intro r _
        simp
      rw [e1]
      exact List.Perm.refl _
    | some u =>
      refine List.Perm.trans ?_ (List.Perm.of_eq (by rw [if_pos (by rfl), List.nil_append]))
      refine fm_perm_of fun r _ => ?_
      unfold G2
      cases lookA (refsOf ts) ⟨t.name, r.1⟩ with
      | none => exact List.Perm.refl _
      | some q => exact List.Perm.refl _
  refine (h1.append h2).trans ?_
  rw [List.append_assoc, List.append_assoc]
  exact List.Perm.append_left _ List.perm_append_comm
theorem d7_nodup {ts us : List TyS} (h0 : chk06 ts = 0) (h1 : chk06 us = 0) : ((d7 ts us).map (·.ref)).Nodup := ((d7_perm ts us).map _).nodup_iff.2 (diff_nodup (Nms.plain h0) (Nms.plain h1))
theorem diff_len3 (ts us : List TyS) : (diffL ts us).length ≤ ts.length + us.length + 2 * (refsOf ts).length + (refsOf us).length := by
  unfold diffL
  simp only [List.length_append]
  have h1 := without_len (ts := ts) (us := us) (k := 2)
  have h2 := without_len (ts := us) (us := ts) (k := 1)
  have h3 := chgL_le us (dL (refsOf ts))
  have h4 : (dL (refsOf ts)).length = (refsOf ts).length := by unfold dL; rw [List.length_map]
  omega
/-- A row as far as it has come. -/
structure Pre (ts us : List TyS) (cs pre : List Ch) : Prop where
  up : UpC cs
  pm : cs.Perm pre
  sub : pre.Sublist (d7 ts us)
theorem Pre.nil (ts us : List TyS) : Pre ts us [] [] := ⟨List.Pairwise.nil, List.Perm.refl _, List.nil_sublist _⟩
theorem Pre.put {ts us : List TyS} {cs cs' pre : List Ch} {c : Ch} (h : Pre ts us cs pre) (hs : (pre ++ [c]).Sublist (d7 ts us)) (hn : ((d7 ts us).map (·.ref)).Nodup) (hp : PutAt cs c cs') : Pre ts us cs' (pre ++ [c]) := by
  have hnr : ∀ x ∈ cs, x.ref ≠ c.ref := fun x hx e => by
    have := hn.sublist (List.Sublist.map (·.ref) hs)
    rw [List.map_append, List.nodup_append] at this
    exact this.2.2 x.ref (List.mem_map_of_mem (h.pm.mem_iff.1 hx)) c.ref (by simp) e
  obtain ⟨i, hi, hb, hst, rfl⟩ := hp
  have hup := h.up
  unfold UpC at hup
  have hd : ∀ y ∈ cs.drop i, ltR c.ref y.ref = true := fun y hy => by
    obtain ⟨j, hj, rfl⟩ := List.getElem_of_mem hy
    rw [List.length_drop] at hj
    rw [List.getElem_drop]
    have h0 := ltR_total (hst (by omega)) (hnr cs[i] (List.getElem_mem _))
    cases j with
    | zero => exact h0
    | succ j => exact ltR_trans h0 (List.pairwise_iff_getElem.1 hup i (i + (j + 1)) (by omega) (by omega) (by omega))
  have hk : ∀ x ∈ cs.take i, ltR x.ref c.ref = true := fun x hx => by
    obtain ⟨j, hj, rfl⟩ := List.getElem_of_mem hx
    rw [List.length_take] at hj
    rw [List.getElem_take]
    exact hb j (by omega) (by omega)
  refine ⟨?_, ?_, hs⟩
  · unfold UpC
    rw [List.append_assoc]
    refine List.pairwise_append.2 ⟨hup.sublist (List.take_sublist _ _), ?_, fun a ha b hb => ?_⟩
    · exact List.pairwise_cons.2 ⟨hd, hup.sublist (List.drop_sublist _ _)⟩
    · rw [List.singleton_append, List.mem_cons] at hb
      rcases hb with rfl | hb
      · exact hk a ha
      · exact ltR_trans (hk a ha) (hd b hb)
  · refine List.Perm.trans ?_ (h.pm.append_right [c])
    conv => rhs; rw [← List.take_append_drop i cs]
    rw [List.append_assoc, List.append_assoc]
    exact List.Perm.append_left _ List.perm_append_comm
theorem Pre.len {ts us : List TyS} {cs pre : List Ch} (h : Pre ts us cs pre) (k1 : SOk ts) (k2 : SOk us) : cs.length ≤ 10000000 := by
  have h1 := h.pm.length_eq
  have h2 := h.sub.length_le
  have h3 := (d7_perm ts us).length_eq
  have h4 := diff_len3 ts us
  have := k1.lr
  have := k2.lr
  have := k1.tl
  have := k2.tl
  omega
theorem Pre.cast {ts us : List TyS} {cs p q : List Ch} (h : Pre ts us cs p) (e : p = q) : Pre ts us cs q := e ▸ h
theorem fm_next {α β : Type} (f : α → List β) {l : List α} {i : Nat} (hi : i < l.length) : (l.take (i + 1)).flatMap f = (l.take i).flatMap f ++ f l[i] := by
  rw [List.take_succ_eq_append_getElem hi, List.flatMap_append]
  simp
theorem fm_take_sub {α β : Type} (f : α → List β) (l : List α) (i : Nat) : ((l.take i).flatMap f).Sublist (l.flatMap f) := by
  conv => rhs; rw [← List.take_append_drop i l, List.flatMap_append]
  exact List.sublist_append_left _ _
theorem sub1 (ts us : List TyS) {i : Nat} (hi : i < ts.length) : ((ts.take i).flatMap (F1 us) ++ F1 us ts[i]).Sublist (d7 ts us) := by
  rw [← fm_next (F1 us) hi]
  exact (fm_take_sub _ _ _).trans (List.sublist_append_left _ _)
theorem sub2 (ts us : List TyS) {i : Nat} (hi : i < us.length) : (ts.flatMap (F1 us) ++ (us.take i).flatMap (F2 ts) ++ F2 ts us[i]).Sublist (d7 ts us) := by
  rw [List.append_assoc, ← fm_next (F2 ts) hi]
  exact List.Sublist.append_left (fm_take_sub _ _ _) _
/-- A rule of a schema that may be. -/
theorem chk_rule {ts : List TyS} (h : chk06 ts = 0) {p : R2 × RT} (hp : p ∈ refsOf ts) : p.2.textOk 0 = true := by
  obtain ⟨t, ht, r, hr, rfl⟩ := refs_mem.1 hp
  have h1 := List.all_eq_true.1 (chk_print h) t ht
  unfold tyOk at h1
  rw [Bool.and_eq_true] at h1
  have h2 := List.all_eq_true.1 h1.2 r hr
  unfold relOk at h2
  simp only [Bool.and_eq_true] at h2
  exact h2.1.1

end Go.Proofs.Ytipddhcfcehcaaa
namespace Go.Proofs.Ytipddhcfcehcaaa
open Go Go.RowKit Go.Maps

set_option maxRecDepth 100000 in
set_option maxHeartbeats 4000000 in
theorem diff7_any (ts us : List TyS) (tv uv : Value) (w : World) (ht : TysAt (· < w.heap.size) w ts tv) (hu : TysAt (· < w.heap.size) w us uv) (k1 : SOk ts) (k2 : SOk us) (h0 : chk06 ts = 0) (h1 : chk06 us = 0) :
    Calls Try.prog 21 #[.agg #[tv], .agg #[uv]] w fun e w' => ∃ (v : Value) (cs : List Ch), e = .returned v ∧ Pre ts us cs (d7 ts us) ∧ Sl (· < w'.heap.size) w' 3 v (chcs cs) ∧ Ext w w' := by
  have HT := Lib.hid ht
  have HU := Lib.hid hu
  have HK := Lib.hid (And.intro k1 k2)
  have HC := Lib.hid (And.intro h0 h1)
  have HND := Lib.hid (d7_nodup h0 h1)
  obtain ⟨aot, ct, rfl, hct1, hct2, hrt⟩ := ht.rows
  obtain ⟨aou, cu, rfl, hcu1, hcu2, hru⟩ := hu.rows
  have HRT := Lib.hid hrt
  have HRU := Lib.hid hru
  clear ht hu k1 k2 h0 h1 hrt hru
  obtain ⟨wa, hwa⟩ : ∃ x, x = w.alloc (.cells #[.slice aot ts.length ct] 24) := ⟨_, rfl⟩
  obtain ⟨wb, hwb⟩ : ∃ x, x = wa.alloc (.cells #[.slice aou us.length cu] 24) := ⟨_, rfl⟩
  have ea : wa.heap.size = w.heap.size + 1 := by rw [hwa]; simp
  have xa : Ext w wa := by rw [hwa]; exact Ext.alloc _ _
  have xb : Ext wa wb := by rw [hwb]; exact Ext.alloc _ _
  have HA := Lib.hid (show Blk wb w.heap.size #[.slice aot ts.length ct] 24 from Blk.below (by rw [hwa]; exact Blk.made _ _ _) xb)
  have HB := Lib.hid (show Blk wb (w.heap.size + 1) #[.slice aou us.length cu] 24 from by rw [hwb, ← ea]; exact Blk.made _ _ _)
  have HX := Lib.hid (show Ext w wb from xa.trans xb)
  have ab := HA.out.cells
  clear xa xb ea
  subst hwb hwa
  go_enter Try.func21, Try.ntmps21
  go_wp2_with fail
  generalize (w.alloc (.cells #[.slice aot ts.length ct] 24)).alloc (.cells #[.slice aou us.length cu] 24) = wb at *
  clear ab
  obtain ⟨b0, hb0⟩ : ∃ x, x = w.heap.size := ⟨_, rfl⟩
  rw [← hb0] at HA HB ⊢
  clear hb0
  go_loopw [5, 26] (fun ov iv wr => ∃ (i : Nat) (cs : List Ch), i ≤ ts.length ∧ iv = .int .i64 i ∧ Pre ts us cs ((ts.take i).flatMap (F1 us)) ∧ Sl (· < wr.heap.size) wr 3 ov (chcs cs) ∧ Ext wb wr) (fun _ iv _ => ts.length - (intOf iv).toNat)
  case atStart => exact ⟨0, [], by omega, rfl, Pre.nil ts us, Sl.nil _ _ _, Ext.refl _⟩
  case round =>
    obtain ⟨i, cs, hi, rfl, hpre, hsl, hxb⟩ := hrel
    have HP := Lib.hid hpre
    have HS := Lib.hid hsl
    have HXB := Lib.hid hxb
    obtain ⟨aoc, nc, cc, rfl, -, -, -⟩ := hsl.len
    clear hpre hsl
    by_cases hlt : i < ts.length
    · obtain ⟨bl, offl, rvl, haol, hbb, d0, d1, hrtl⟩ := HRT.out i hlt
      have hxw : Ext w wr := HX.out.trans hxb
      have d0 := hxw.cell (a := ⟨bl, offl + i * 2, none⟩) d0
      have d1 := hxw.cell (a := ⟨bl, offl + i * 2 + 1, none⟩) d1
      have HNX := Lib.hid (show (ts.take (i + 1)).flatMap (F1 us) = (ts.take i).flatMap (F1 us) ++ F1 us ts[i] from by rw [fm_next (F1 us) hlt])
      have HSU := Lib.hid (sub1 ts us hlt)
      have HRL := Lib.hid (show ∀ r ∈ ts[i].rels, r.2.textOk 0 = true from fun r hr => chk_rule (p := (⟨ts[i].name, r.1⟩, r.2)) HC.out.1 (refs_mem.2 ⟨ts[i], List.getElem_mem hlt, r, hr, rfl⟩))
      subst haol
      generalize ts[i] = x at *
      obtain ⟨nm, rl⟩ := x
      dsimp only at d0 d1 hrtl HRL
      generalize (ts.take i).flatMap (F1 us) = pre at *
      obtain ⟨aor, cr, rfl, hcr1, hcr2, hrr⟩ := hrtl.rows
      have HRR := Lib.hid hrr
      obtain ⟨wp, hwp⟩ : ∃ x, x = wr.alloc (.cells #[.string nm, .slice aor rl.length cr] 49) := ⟨_, rfl⟩
      have xp : Ext wr wp := by rw [hwp]; exact Ext.alloc _ _
      have hpb : Blk wp wr.heap.size #[.string nm, .slice aor rl.length cr] 49 := by rw [hwp]; exact Blk.made _ _ _
      have HPB := Lib.hid hpb
      have HXP := Lib.hid (show Ext wb wp from hxb.trans xp)
      have HSP := Lib.hid (HS.out.up xp)
      have HTY := Lib.hid (typ7_any us _ nm wp (HU.out.up (HX.out.trans HXP.out)))
      have mb := (HB.out.below HXP.out).cells
      have pb := hpb.cells
      clear hrr hrtl hxw xp hpb HS HXB hxb
      rcases htf : typF us nm with _ | u
      · rw [htf] at HTY
        dsimp only [tyOr, Option.getD, Option.isSome] at HTY
        have HFX := Lib.hid (show F1 us ⟨nm, rl⟩ = [⟨2, ⟨nm, ⟨#[]⟩⟩⟩] from by unfold F1; rw [htf])
        rw [HFX.out] at HNX HSU
        clear htf HFX
        subst hwp
        go_wp2_with fail
        refine HTY.out.mono ?_
        rintro e w2 ⟨rv, rfl, hrv, hb2⟩
        obtain ⟨ao2, c2, rfl, -, -, -⟩ := hrv.rows
        generalize wr.alloc (.cells #[.string nm, .slice aor rl.length cr] 49) = wp at *
        generalize wr.heap.size = nP at *
        obtain ⟨w3, hw3⟩ : ∃ x, x = w2.alloc (.cells #[.string ⟨#[]⟩, .slice ao2 ([] : List (ByteArray × RT)).length c2] 49) := ⟨_, rfl⟩
        have x3 : Ext wp w3 := Ext.trans hb2 (by rw [hw3]; exact Ext.alloc _ _)
        have HPUT := Lib.hid (put7_any (.slice aoc nc cc) cs ⟨2, ⟨nm, ⟨#[]⟩⟩⟩ w3 (HSP.out.up x3) (HP.out.len HK.out.1 HK.out.2))
        unfold chV at HPUT
        dsimp only at HPUT
        have HX3 := Lib.hid (show Ext wb w3 from HXP.out.trans x3)
        have pb := (HPB.out.below x3).cells
        dsimp only [List.length_nil] at hw3
        clear HTY hrv hb2 x3 mb d0 d1 HSP HPB HXP
        subst hw3
        go_wp2_with fail
        refine HPUT.out.mono ?_
        rintro e w4 ⟨v4, cs4, rfl, hpa, how, hb4⟩
        have HP4 := Lib.hid (HP.out.put HSU.out HND.out hpa)
        have HS4 := Lib.hid (how.sl.mono fun b hb => hb.2)
        have HX4 := Lib.hid (show Ext wb w4 from HX3.out.trans hb4)
        clear hpa how hb4 HPUT pb
        go_wp2_with fail
        go_roundw
        case rel => exact ⟨i + 1, cs4, by omega, by go_num, HP4.out.cast HNX.out.symm, HS4.out, HX4.out⟩
        case measure => simp [intOf]; omega
      · have hun : u.name = nm := (typ_some htf).2
        rw [htf] at HTY
        dsimp only [tyOr, Option.getD, Option.isSome] at HTY
        have HFX := Lib.hid (show F1 us ⟨nm, rl⟩ = rl.flatMap (G1 us nm) from by unfold F1; rw [htf])
        rw [HFX.out] at HNX HSU
        rw [hun] at HTY
        generalize u.rels = ru at HTY
        clear htf HFX hun u
        subst hwp
        go_wp2_with fail
        refine HTY.out.mono ?_
        rintro e w2 ⟨rv, rfl, hrv, hb2⟩
        obtain ⟨ao2, c2, rfl, -, -, -⟩ := hrv.rows
        generalize wr.alloc (.cells #[.string nm, .slice aor rl.length cr] 49) = wp at *
        obtain ⟨nP, hnP⟩ : ∃ x, x = wr.heap.size := ⟨_, rfl⟩
        rw [← hnP] at HPB pb ⊢
        obtain ⟨nQ, hnQ⟩ : ∃ x, x = w2.heap.size := ⟨_, rfl⟩
        obtain ⟨w3, hw3⟩ : ∃ x, x = w2.alloc (.cells #[.string nm, .slice ao2 ru.length c2] 49) := ⟨_, rfl⟩
        have x3 : Ext wp w3 := Ext.trans hb2 (by rw [hw3]; exact Ext.alloc _ _)
        have HQB := Lib.hid (show Blk w3 nQ #[.string nm, .slice ao2 ru.length c2] 49 from by rw [hw3, hnQ]; exact Blk.made _ _ _)
        have HPB3 := Lib.hid (HPB.out.below x3)
        have HX3 := Lib.hid (show Ext wb w3 from HXP.out.trans x3)
        have HS3 := Lib.hid (HSP.out.up x3)
        have pb := HPB3.out.cells
        clear hnP HTY hrv hb2 x3 mb d0 d1 HSP HPB HXP
        subst hw3
        go_wp2_with fail
        rw [← hnQ]
        generalize w2.alloc (.cells #[.string nm, .slice ao2 ru.length c2] 49) = w3 at *
        clear hnQ pb
        go_loopw [5, 48] (fun ov kv wq => ∃ (k : Nat) (cs : List Ch), k ≤ rl.length ∧ kv = .int .i64 k ∧ Pre ts us cs (pre ++ (rl.take k).flatMap (G1 us nm)) ∧ Sl (· < wq.heap.size) wq 3 ov (chcs cs) ∧ Ext w3 wq) (fun _ kv _ => rl.length - (intOf kv).toNat)
        case atStart => exact ⟨0, cs, by omega, rfl, HP.out.cast (by simp), HS3.out, Ext.refl _⟩
        case round =>
          obtain ⟨k, cs, hk, rfl, hpre, hsl, hxq⟩ := hrel
          have HPK := Lib.hid hpre
          have HSK := Lib.hid hsl
          have HXQ := Lib.hid (show Ext wb wr from HX3.out.trans hxq)
          have HPQ := Lib.hid (HPB3.out.below hxq)
          have HQQ := Lib.hid (HQB.out.below hxq)
          obtain ⟨aoc, nc, cc, rfl, -, -, -⟩ := hsl.len
          clear hpre hsl HP HS3
          by_cases hlk : k < rl.length
          · obtain ⟨b2, off2, pv, haor, hb2, e0, e1, e2, e3, e4, hat⟩ := HRR.out k hlk
            have hxw : Ext w wr := HX.out.trans HXQ.out
            have e0 := hxw.cell (a := ⟨b2, off2 + k * 5, none⟩) e0
            have e1 := hxw.cell (a := ⟨b2, off2 + k * 5 + 1, none⟩) e1
            have e2 := hxw.cell (a := ⟨b2, off2 + k * 5 + 2, none⟩) e2
            have e3 := hxw.cell (a := ⟨b2, off2 + k * 5 + 3, none⟩) e3
            have e4 := hxw.cell (a := ⟨b2, off2 + k * 5 + 4, none⟩) e4
            have HNK := Lib.hid (show pre ++ (rl.take (k + 1)).flatMap (G1 us nm) = pre ++ (rl.take k).flatMap (G1 us nm) ++ G1 us nm rl[k] from by rw [fm_next (G1 us nm) hlk, List.append_assoc])
            have HSUK := Lib.hid (show (pre ++ (rl.take k).flatMap (G1 us nm) ++ G1 us nm rl[k]).Sublist (d7 ts us) from by
              rw [List.append_assoc, ← fm_next (G1 us nm) hlk]
              exact (List.Sublist.append_left (fm_take_sub _ _ _) _).trans HSU.out)
            have HYT := Lib.hid (HRL.out _ (List.getElem_mem hlk))
            have HAT := Lib.hid (hat.up hxw)
            subst haor
            generalize rl[k] = y at *
            obtain ⟨yn, yr⟩ := y
            dsimp only at e0 e1 e2 e3 e4 HYT HAT
            generalize pre ++ (rl.take k).flatMap (G1 us nm) = prk at *
            obtain ⟨aop, cp, rfl, -, -, -⟩ := hat.rows
            obtain ⟨wi, hwi⟩ : ∃ x, x = wr.alloc (.cells #[.string yn, .int .i64 yr.k, .string yr.a, .string yr.b, .slice aop yr.ps.length cp] 82) := ⟨_, rfl⟩
            have xi : Ext wr wi := by rw [hwi]; exact Ext.alloc _ _
            have HRB := Lib.hid (show Blk wi wr.heap.size #[.string yn, .int .i64 yr.k, .string yr.a, .string yr.b, .slice aop yr.ps.length cp] 82 from by rw [hwi]; exact Blk.made _ _ _)
            have hri := HRB.out.cells
            have hpi := (HPQ.out.below xi).cells
            have hqi := (HQQ.out.below xi).cells
            have ei : wi.heap.size = wr.heap.size + 1 := by rw [hwi]; simp
            obtain ⟨wk, hwk⟩ : ∃ x, x = wi.alloc (.cells #[.string nm, .string yn] 61) := ⟨_, rfl⟩
            have xk : Ext wi wk := by rw [hwk]; exact Ext.alloc _ _
            have HFB := Lib.hid (show Blk wk (wr.heap.size + 1) #[.string nm, .string yn] 61 from by rw [hwk, ← ei]; exact Blk.made _ _ _)
            have HRK := Lib.hid (HRB.out.below xk)
            have HXk := Lib.hid (show Ext wb wk from HXQ.out.trans (xi.trans xk))
            have HPk := Lib.hid (HPQ.out.below (xi.trans xk))
            have HQk := Lib.hid (HQQ.out.below (xi.trans xk))
            have HSk := Lib.hid (HSK.out.up (xi.trans xk))
            have HX3k := Lib.hid (show Ext w3 wk from hxq.trans (xi.trans xk))
            have HATk := Lib.hid (HAT.out.up (xi.trans xk))
            have HFI := Lib.hid (find06_any us _ nm yn wk (HU.out.up (HX.out.trans HXk.out)) (chk_uq HC.out.2))
            have hrk := HRK.out.cells
            have hpk := HPk.out.cells
            have hqk := HQk.out.cells
            have hbk := (HB.out.below HXk.out).cells
            have hfk := HFB.out.cells
            clear hat hxw xi xk HSK HAT HPQ HQQ HXQ hxq HRB ei
            rcases hlo : lookA (refsOf us) ⟨nm, yn⟩ with _ | q
            · have HGX := Lib.hid (show G1 us nm (yn, yr) = [⟨2, ⟨nm, yn⟩⟩] from by unfold G1; rw [hlo])
              rw [hlo] at HFI
              dsimp only [Option.isSome] at HFI
              rw [HGX.out] at HNK HSUK
              clear hlo HGX
              subst hwk
              subst hwi
              go_wp2_with fail
              refine HFI.out.mono ?_
              rintro e w5 ⟨z, rfl, hz1, -, hz2, hb5⟩
              obtain rfl := hz2 trivial
              unfold rvV rV
              dsimp only [RT.k, RT.a, RT.b]
              generalize (wr.alloc (.cells #[.string yn, .int .i64 yr.k, .string yr.a, .string yr.b, .slice aop yr.ps.length cp] 82)).alloc (.cells #[.string nm, .string yn] 61) = wk at *
              obtain ⟨w6, hw6⟩ : ∃ x, x = w5.alloc (.cells #[.int .i64 0, .string ByteArray.empty, .string ByteArray.empty, .slice none 0 0] 72) := ⟨_, rfl⟩
              have x6 : Ext wk w6 := Ext.trans hb5 (by rw [hw6]; exact Ext.alloc _ _)
              have HPUT := Lib.hid (put7_any (.slice aoc nc cc) cs ⟨2, ⟨nm, yn⟩⟩ w6 (HSk.out.up x6) (HPK.out.len HK.out.1 HK.out.2))
              unfold chV at HPUT
              dsimp only at HPUT
              have HX6 := Lib.hid (show Ext w3 w6 from HX3k.out.trans x6)
              have hf6 := (HFB.out.below x6).cells
      
              clear HFI hz1 hz2 hb5 x6 e0 e1 e2 e3 e4 hri hpi hqi hrk hpk hqk hbk hfk HSk HATk
              subst hw6
              go_wp2_with fail
              refine HPUT.out.mono ?_
              rintro e w7 ⟨v7, cs7, rfl, hpa, how, hb7⟩
              have HP7 := Lib.hid (HPK.out.put HSUK.out HND.out hpa)
              have HS7 := Lib.hid (how.sl.mono fun b hb => hb.2)
              have HX7 := Lib.hid (show Ext w3 w7 from HX6.out.trans hb7)
              clear hpa how hb7 HPUT hf6
              go_wp2_with fail
              go_roundw
              case rel => exact ⟨k + 1, cs7, by omega, by go_num, HP7.out.cast HNK.out.symm, HS7.out, HX7.out⟩
              case measure => simp [intOf]; omega
            · have HQT := Lib.hid (chk_rule (p := (⟨nm, yn⟩, q)) HC.out.2 (look_mem hlo))
              have HGX := Lib.hid (show G1 us nm (yn, yr) = if dtext q = dtext yr then [] else [⟨3, ⟨nm, yn⟩⟩] from by unfold G1; rw [hlo])
              rw [hlo] at HFI
              dsimp only [Option.isSome] at HFI
              rw [HGX.out] at HNK HSUK
              clear hlo HGX
              subst hwk
              subst hwi
              go_wp2_with fail
              refine HFI.out.mono ?_
              rintro e w5 ⟨⟨zq, zv⟩, rfl, hz1, hz3, -, hb5⟩
              obtain rfl : zq = q := hz3 q rfl
              try dsimp only at hz1
              obtain ⟨aoz, cz, rfl, -, -, -⟩ := hz1.rows
              unfold rvV rV
              try dsimp only
              generalize (wr.alloc (.cells #[.string yn, .int .i64 yr.k, .string yr.a, .string yr.b, .slice aop yr.ps.length cp] 82)).alloc (.cells #[.string nm, .string yn] 61) = wk at *
              obtain ⟨w6, hw6⟩ : ∃ x, x = w5.alloc (.cells #[.int .i64 zq.k, .string zq.a, .string zq.b, .slice aoz zq.ps.length cz] 72) := ⟨_, rfl⟩
              have x56 : Ext w5 w6 := by rw [hw6]; exact Ext.alloc _ _
              have x6 : Ext wk w6 := Ext.trans hb5 x56
              have HZ := Lib.hid (show Blk w6 w5.heap.size #[.int .i64 zq.k, .string zq.a, .string zq.b, .slice aoz zq.ps.length cz] 72 from by rw [hw6]; exact Blk.made _ _ _)
              have HSR := Lib.hid (sameRule_any zq yr _ _ w6 (decide (dtext zq = dtext yr)) (hz1.up x56) (HATk.out.up x6) ⟨fun h => dtext_inj HQT.out HYT.out (of_decide_eq_true h), fun e => by rw [e]; exact decide_eq_true rfl⟩)
              unfold rV at HSR
              try dsimp only at HSR
              have HX6 := Lib.hid (show Ext w3 w6 from HX3k.out.trans x6)
              have HS6 := Lib.hid (HSk.out.up x6)
              have HF6 := Lib.hid (HFB.out.below x6)
              have hr6 := (HRK.out.below x6).cells
              have hz6 := HZ.out.cells
              clear HFI hz1 hz3 hb5 x6 x56 e0 e1 e2 e3 e4 hri hpi hqi hrk hpk hqk hbk hfk HSk HATk HZ
              by_cases hdt : dtext zq = dtext yr
              · rw [decide_eq_true hdt] at HSR
                rw [if_pos hdt] at HNK HSUK
                clear hdt
                subst hw6
                go_wp2_with fail
                refine HSR.out.mono ?_
                rintro e w7 ⟨rfl, hb7⟩
                have HX7 := Lib.hid (show Ext w3 w7 from HX6.out.trans hb7)
                have HS7 := Lib.hid (HS6.out.up hb7)
                clear hb7 HSR hr6 hz6
                go_wp2_with fail
                go_roundw
                case rel => exact ⟨k + 1, cs, by omega, by go_num, HPK.out.cast (by rw [HNK.out, List.append_nil]), HS7.out, HX7.out⟩
                case measure => simp [intOf]; omega
              · rw [decide_eq_false hdt] at HSR
                rw [if_neg hdt] at HNK HSUK
                clear hdt
                subst hw6
                go_wp2_with fail
                refine HSR.out.mono ?_
                rintro e w7 ⟨rfl, hb7⟩
                have HX7 := Lib.hid (show Ext w3 w7 from HX6.out.trans hb7)
                have HPUT := Lib.hid (put7_any (.slice aoc nc cc) cs ⟨3, ⟨nm, yn⟩⟩ w7 (HS6.out.up hb7) (HPK.out.len HK.out.1 HK.out.2))
                unfold chV at HPUT
                dsimp only at HPUT
                have hf7 := (HF6.out.below hb7).cells
                clear hb7 HSR hr6 hz6
                go_wp2_with fail
                refine HPUT.out.mono ?_
                rintro e w8 ⟨v8, cs8, rfl, hpa, how, hb8⟩
                have HP8 := Lib.hid (HPK.out.put HSUK.out HND.out hpa)
                have HS8 := Lib.hid (how.sl.mono fun b hb => hb.2)
                have HX8 := Lib.hid (show Ext w3 w8 from HX7.out.trans hb8)
                clear hpa how hb8 HPUT hf7
                go_wp2_with fail
                go_roundw
                case rel => exact ⟨k + 1, cs8, by omega, by go_num, HP8.out.cast HNK.out.symm, HS8.out, HX8.out⟩
                case measure => simp [intOf]; omega
          · obtain rfl : k = rl.length := by omega
            rw [List.take_length] at HPK
            clear hlk hxq HPQ HQQ
            go_wp2_with fail
            go_roundw
            case rel => exact ⟨i + 1, cs, by omega, by go_num, HPK.out.cast HNX.out.symm, HSK.out, HXQ.out⟩
            case measure => simp [intOf]; omega
    · obtain rfl : i = ts.length := by omega
      rw [List.take_length] at HP
      clear hlt
      have bb := (HB.out.below hxb).cells
      clear hxb
      go_wp2_with fail
      clear bb
      go_loopw [5, 86] (fun ov iv wr => ∃ (i : Nat) (cs : List Ch), i ≤ us.length ∧ iv = .int .i64 i ∧ Pre ts us cs (ts.flatMap (F1 us) ++ (us.take i).flatMap (F2 ts)) ∧ Sl (· < wr.heap.size) wr 3 ov (chcs cs) ∧ Ext wb wr) (fun _ iv _ => us.length - (intOf iv).toNat)
      case atStart => exact ⟨0, cs, by omega, rfl, HP.out.cast (by simp), HS.out, HXB.out⟩
      case round =>
        obtain ⟨i, cs, hi, rfl, hpre, hsl, hxb⟩ := hrel
        have HP := Lib.hid hpre
        have HS := Lib.hid hsl
        have HXB := Lib.hid hxb
        obtain ⟨aoc, nc, cc, rfl, -, -, -⟩ := hsl.len
        clear hpre hsl
        by_cases hlt : i < us.length
        · obtain ⟨bl, offl, rvl, haol, hbb, d0, d1, hrtl⟩ := HRU.out i hlt
          have hxw : Ext w wr := HX.out.trans hxb
          have d0 := hxw.cell (a := ⟨bl, offl + i * 2, none⟩) d0
          have d1 := hxw.cell (a := ⟨bl, offl + i * 2 + 1, none⟩) d1
          have HNX := Lib.hid (show ts.flatMap (F1 us) ++ (us.take (i + 1)).flatMap (F2 ts) = ts.flatMap (F1 us) ++ (us.take i).flatMap (F2 ts) ++ F2 ts us[i] from by rw [fm_next (F2 ts) hlt, ← List.append_assoc])
          have HSU := Lib.hid (sub2 ts us hlt)
          have HRL := Lib.hid (show ∀ r ∈ us[i].rels, r.2.textOk 0 = true from fun r hr => chk_rule (p := (⟨us[i].name, r.1⟩, r.2)) HC.out.2 (refs_mem.2 ⟨us[i], List.getElem_mem hlt, r, hr, rfl⟩))
          subst haol
          generalize us[i] = x at *
          obtain ⟨nm, rl⟩ := x
          dsimp only at d0 d1 hrtl HRL
          generalize ts.flatMap (F1 us) ++ (us.take i).flatMap (F2 ts) = pre at *
          obtain ⟨aor, cr, rfl, hcr1, hcr2, hrr⟩ := hrtl.rows
          have HRR := Lib.hid hrr
          obtain ⟨wp, hwp⟩ : ∃ x, x = wr.alloc (.cells #[.string nm, .slice aor rl.length cr] 49) := ⟨_, rfl⟩
          have xp : Ext wr wp := by rw [hwp]; exact Ext.alloc _ _
          have hpb : Blk wp wr.heap.size #[.string nm, .slice aor rl.length cr] 49 := by rw [hwp]; exact Blk.made _ _ _
          have HPB := Lib.hid hpb
          have HXP := Lib.hid (show Ext wb wp from hxb.trans xp)
          have HSP := Lib.hid (HS.out.up xp)
          have HTY := Lib.hid (typ7_any ts _ nm wp (HT.out.up (HX.out.trans HXP.out)))
          have mb := (HA.out.below HXP.out).cells
          have pb := hpb.cells
          clear hrr hrtl hxw xp hpb HS HXB hxb
          rcases htf : typF ts nm with _ | u
          · rw [htf] at HTY
            dsimp only [tyOr, Option.getD, Option.isSome] at HTY
            have HFX := Lib.hid (show F2 ts ⟨nm, rl⟩ = [⟨1, ⟨nm, ⟨#[]⟩⟩⟩] from by unfold F2; rw [htf])
            rw [HFX.out] at HNX HSU
            clear htf HFX
            subst hwp
            go_wp2_with fail
            refine HTY.out.mono ?_
            rintro e w2 ⟨rv, rfl, hrv, hb2⟩
            obtain ⟨ao2, c2, rfl, -, -, -⟩ := hrv.rows
            generalize wr.alloc (.cells #[.string nm, .slice aor rl.length cr] 49) = wp at *
            generalize wr.heap.size = nP at *
            obtain ⟨w3, hw3⟩ : ∃ x, x = w2.alloc (.cells #[.string ⟨#[]⟩, .slice ao2 ([] : List (ByteArray × RT)).length c2] 49) := ⟨_, rfl⟩
            have x3 : Ext wp w3 := Ext.trans hb2 (by rw [hw3]; exact Ext.alloc _ _)
            have HPUT := Lib.hid (put7_any (.slice aoc nc cc) cs ⟨1, ⟨nm, ⟨#[]⟩⟩⟩ w3 (HSP.out.up x3) (HP.out.len HK.out.1 HK.out.2))
            unfold chV at HPUT
            dsimp only at HPUT
            have HX3 := Lib.hid (show Ext wb w3 from HXP.out.trans x3)
            have pb := (HPB.out.below x3).cells
            dsimp only [List.length_nil] at hw3
            clear HTY hrv hb2 x3 mb d0 d1 HSP HPB HXP
            subst hw3
            go_wp2_with fail
            refine HPUT.out.mono ?_
            rintro e w4 ⟨v4, cs4, rfl, hpa, how, hb4⟩
            have HP4 := Lib.hid (HP.out.put HSU.out HND.out hpa)
            have HS4 := Lib.hid (how.sl.mono fun b hb => hb.2)
            have HX4 := Lib.hid (show Ext wb w4 from HX3.out.trans hb4)
            clear hpa how hb4 HPUT pb
            go_wp2_with fail
            go_roundw
            case rel => exact ⟨i + 1, cs4, by omega, by go_num, HP4.out.cast HNX.out.symm, HS4.out, HX4.out⟩
            case measure => simp [intOf]; omega
          · have hun : u.name = nm := (typ_some htf).2
            rw [htf] at HTY
            dsimp only [tyOr, Option.getD, Option.isSome] at HTY
            have HFX := Lib.hid (show F2 ts ⟨nm, rl⟩ = rl.flatMap (G2 ts nm) from by unfold F2; rw [htf])
            rw [HFX.out] at HNX HSU
            rw [hun] at HTY
            generalize u.rels = ru at HTY
            clear htf HFX hun u
            subst hwp
            go_wp2_with fail
            refine HTY.out.mono ?_
            rintro e w2 ⟨rv, rfl, hrv, hb2⟩
            obtain ⟨ao2, c2, rfl, -, -, -⟩ := hrv.rows
            generalize wr.alloc (.cells #[.string nm, .slice aor rl.length cr] 49) = wp at *
            obtain ⟨nP, hnP⟩ : ∃ x, x = wr.heap.size := ⟨_, rfl⟩
            rw [← hnP] at HPB pb ⊢
            obtain ⟨nQ, hnQ⟩ : ∃ x, x = w2.heap.size := ⟨_, rfl⟩
            obtain ⟨w3, hw3⟩ : ∃ x, x = w2.alloc (.cells #[.string nm, .slice ao2 ru.length c2] 49) := ⟨_, rfl⟩
            have x3 : Ext wp w3 := Ext.trans hb2 (by rw [hw3]; exact Ext.alloc _ _)
            have HQB := Lib.hid (show Blk w3 nQ #[.string nm, .slice ao2 ru.length c2] 49 from by rw [hw3, hnQ]; exact Blk.made _ _ _)
            have HPB3 := Lib.hid (HPB.out.below x3)
            have HX3 := Lib.hid (show Ext wb w3 from HXP.out.trans x3)
            have HS3 := Lib.hid (HSP.out.up x3)
            have pb := HPB3.out.cells
            clear hnP HTY hrv hb2 x3 mb d0 d1 HSP HPB HXP
            subst hw3
            go_wp2_with fail
            rw [← hnQ]
            generalize w2.alloc (.cells #[.string nm, .slice ao2 ru.length c2] 49) = w3 at *
            clear hnQ pb
            go_loopw [5, 108] (fun ov kv wq => ∃ (k : Nat) (cs : List Ch), k ≤ rl.length ∧ kv = .int .i64 k ∧ Pre ts us cs (pre ++ (rl.take k).flatMap (G2 ts nm)) ∧ Sl (· < wq.heap.size) wq 3 ov (chcs cs) ∧ Ext w3 wq) (fun _ kv _ => rl.length - (intOf kv).toNat)
            case atStart => exact ⟨0, cs, by omega, rfl, HP.out.cast (by simp), HS3.out, Ext.refl _⟩
            case round =>
              obtain ⟨k, cs, hk, rfl, hpre, hsl, hxq⟩ := hrel
              have HPK := Lib.hid hpre
              have HSK := Lib.hid hsl
              have HXQ := Lib.hid (show Ext wb wr from HX3.out.trans hxq)
              have HPQ := Lib.hid (HPB3.out.below hxq)
              have HQQ := Lib.hid (HQB.out.below hxq)
              obtain ⟨aoc, nc, cc, rfl, -, -, -⟩ := hsl.len
              clear hpre hsl HP HS3
              by_cases hlk : k < rl.length
              · obtain ⟨b2, off2, pv, haor, hb2, e0, e1, e2, e3, e4, hat⟩ := HRR.out k hlk
                have hxw : Ext w wr := HX.out.trans HXQ.out
                have e0 := hxw.cell (a := ⟨b2, off2 + k * 5, none⟩) e0
                have e1 := hxw.cell (a := ⟨b2, off2 + k * 5 + 1, none⟩) e1
                have e2 := hxw.cell (a := ⟨b2, off2 + k * 5 + 2, none⟩) e2
                have e3 := hxw.cell (a := ⟨b2, off2 + k * 5 + 3, none⟩) e3
                have e4 := hxw.cell (a := ⟨b2, off2 + k * 5 + 4, none⟩) e4
                have HNK := Lib.hid (show pre ++ (rl.take (k + 1)).flatMap (G2 ts nm) = pre ++ (rl.take k).flatMap (G2 ts nm) ++ G2 ts nm rl[k] from by rw [fm_next (G2 ts nm) hlk, List.append_assoc])
                have HSUK := Lib.hid (show (pre ++ (rl.take k).flatMap (G2 ts nm) ++ G2 ts nm rl[k]).Sublist (d7 ts us) from by
                  rw [List.append_assoc, ← fm_next (G2 ts nm) hlk]
                  exact (List.Sublist.append_left (fm_take_sub _ _ _) _).trans HSU.out)
                have HYT := Lib.hid (HRL.out _ (List.getElem_mem hlk))
                have HAT := Lib.hid (hat.up hxw)
                subst haor
                generalize rl[k] = y at *
                obtain ⟨yn, yr⟩ := y
                dsimp only at e0 e1 e2 e3 e4 HYT HAT
                generalize pre ++ (rl.take k).flatMap (G2 ts nm) = prk at *
                obtain ⟨aop, cp, rfl, -, -, -⟩ := hat.rows
                obtain ⟨wi, hwi⟩ : ∃ x, x = wr.alloc (.cells #[.string yn, .int .i64 yr.k, .string yr.a, .string yr.b, .slice aop yr.ps.length cp] 82) := ⟨_, rfl⟩
                have xi : Ext wr wi := by rw [hwi]; exact Ext.alloc _ _
                have HRB := Lib.hid (show Blk wi wr.heap.size #[.string yn, .int .i64 yr.k, .string yr.a, .string yr.b, .slice aop yr.ps.length cp] 82 from by rw [hwi]; exact Blk.made _ _ _)
                have hri := HRB.out.cells
                have hpi := (HPQ.out.below xi).cells
                have hqi := (HQQ.out.below xi).cells
                have ei : wi.heap.size = wr.heap.size + 1 := by rw [hwi]; simp
                obtain ⟨wk, hwk⟩ : ∃ x, x = wi := ⟨_, rfl⟩
                have xk : Ext wi wk := by rw [hwk]; exact Ext.refl _
                have HRK := Lib.hid (HRB.out.below xk)
                have HXk := Lib.hid (show Ext wb wk from HXQ.out.trans (xi.trans xk))
                have HPk := Lib.hid (HPQ.out.below (xi.trans xk))
                have HQk := Lib.hid (HQQ.out.below (xi.trans xk))
                have HSk := Lib.hid (HSK.out.up (xi.trans xk))
                have HX3k := Lib.hid (show Ext w3 wk from hxq.trans (xi.trans xk))
                have HATk := Lib.hid (HAT.out.up (xi.trans xk))
                have HFI := Lib.hid (find06_any ts _ nm yn wk (HT.out.up (HX.out.trans HXk.out)) (chk_uq HC.out.1))
                have hrk := HRK.out.cells
                have hpk := HPk.out.cells
                have hqk := HQk.out.cells
                have hbk := (HA.out.below HXk.out).cells
                clear hat hxw xi xk HSK HAT HPQ HQQ HXQ hxq HRB ei
                rcases hlo : lookA (refsOf ts) ⟨nm, yn⟩ with _ | q
                · have HGX := Lib.hid (show G2 ts nm (yn, yr) = [⟨1, ⟨nm, yn⟩⟩] from by unfold G2; rw [hlo])
                  rw [hlo] at HFI
                  dsimp only [Option.isSome] at HFI
                  rw [HGX.out] at HNK HSUK
                  clear hlo HGX
                  subst hwk
                  subst hwi
                  go_wp2_with fail
                  refine HFI.out.mono ?_
                  rintro e w5 ⟨z, rfl, hz1, -, hz2, hb5⟩
                  obtain rfl := hz2 trivial
                  unfold rvV rV
                  dsimp only [RT.k, RT.a, RT.b]
                  generalize (wr.alloc (.cells #[.string yn, .int .i64 yr.k, .string yr.a, .string yr.b, .slice aop yr.ps.length cp] 82)) = wk at *
                  obtain ⟨w6, hw6⟩ : ∃ x, x = w5.alloc (.cells #[.int .i64 0, .string ByteArray.empty, .string ByteArray.empty, .slice none 0 0] 72) := ⟨_, rfl⟩
                  have x6 : Ext wk w6 := Ext.trans hb5 (by rw [hw6]; exact Ext.alloc _ _)
                  have HPUT := Lib.hid (put7_any (.slice aoc nc cc) cs ⟨1, ⟨nm, yn⟩⟩ w6 (HSk.out.up x6) (HPK.out.len HK.out.1 HK.out.2))
                  unfold chV at HPUT
                  dsimp only at HPUT
                  have HX6 := Lib.hid (show Ext w3 w6 from HX3k.out.trans x6)
                  have hp6 := (HPk.out.below x6).cells
                  have hr6 := (HRK.out.below x6).cells
                  clear HFI hz1 hz2 hb5 x6 e0 e1 e2 e3 e4 hri hpi hqi hrk hpk hqk hbk  HSk HATk
                  subst hw6
                  go_wp2_with fail
                  refine HPUT.out.mono ?_
                  rintro e w7 ⟨v7, cs7, rfl, hpa, how, hb7⟩
                  have HP7 := Lib.hid (HPK.out.put HSUK.out HND.out hpa)
                  have HS7 := Lib.hid (how.sl.mono fun b hb => hb.2)
                  have HX7 := Lib.hid (show Ext w3 w7 from HX6.out.trans hb7)
                  clear hpa how hb7 HPUT hp6 hr6
                  go_wp2_with fail
                  go_roundw
                  case rel => exact ⟨k + 1, cs7, by omega, by go_num, HP7.out.cast HNK.out.symm, HS7.out, HX7.out⟩
                  case measure => simp [intOf]; omega
                · have HGX := Lib.hid (show G2 ts nm (yn, yr) = [] from by unfold G2; rw [hlo])
                  rw [hlo] at HFI
                  dsimp only [Option.isSome] at HFI
                  rw [HGX.out] at HNK HSUK
                  clear hlo HGX
                  subst hwk
                  subst hwi
                  go_wp2_with fail
                  refine HFI.out.mono ?_
                  rintro e w5 ⟨⟨zq, zv⟩, rfl, hz1, hz3, -, hb5⟩
                  try dsimp only at hz1
                  obtain ⟨aoz, cz, rfl, -, -, -⟩ := hz1.rows
                  unfold rvV rV
                  try dsimp only
                  generalize wr.alloc (.cells #[.string yn, .int .i64 yr.k, .string yr.a, .string yr.b, .slice aop yr.ps.length cp] 82) = wk at *
                  obtain ⟨w6, hw6⟩ : ∃ x, x = w5.alloc (.cells #[.int .i64 zq.k, .string zq.a, .string zq.b, .slice aoz zq.ps.length cz] 72) := ⟨_, rfl⟩
                  have x6 : Ext wk w6 := Ext.trans hb5 (by rw [hw6]; exact Ext.alloc _ _)
                  have HX6 := Lib.hid (show Ext w3 w6 from HX3k.out.trans x6)
                  have HS6 := Lib.hid (HSk.out.up x6)
                  clear HFI hz1 hz3 hb5 x6 e0 e1 e2 e3 e4 hri hpi hqi hrk hpk hqk hbk HSk HATk
                  subst hw6
                  go_wp2_with fail
                  go_roundw
                  case rel => exact ⟨k + 1, cs, by omega, by go_num, HPK.out.cast (by rw [HNK.out, List.append_nil]), HS6.out, HX6.out⟩
                  case measure => simp [intOf]; omega
              · obtain rfl : k = rl.length := by omega
                rw [List.take_length] at HPK
                clear hlk hxq HPQ HQQ
                go_wp2_with fail
                go_roundw
                case rel => exact ⟨i + 1, cs, by omega, by go_num, HPK.out.cast HNX.out.symm, HSK.out, HXQ.out⟩
                case measure => simp [intOf]; omega
        · obtain rfl : i = us.length := by omega
          rw [List.take_length] at HP
          clear hlt
          go_wp2_with fail
          go_ret
          exact ⟨_, cs, rfl, HP.out, HS.out, HX.out.trans HXB.out⟩

end Go.Proofs.Ytipddhcfcehcaaa
