/- Lemmas for the claim, no condition. -/
import Derived.Test.YtipddhcfcehcaaaYB24
import Derived.Test.YtipddhcfcehcaaaYB22
namespace Go.Proofs.Ytipddhcfcehcaaa
open Go Go.RowKit Go.Maps

theorem take_eq_all {α : Type} {l m : List α} (hn : l.length = m.length) (h : l.take l.length = m.take l.length) : l = m := by
  rw [List.take_length, hn, List.take_length] at h
  exact h
theorem take_eq_next {α : Type} {l m : List α} {i : Nat} (h1 : i < l.length) (h2 : i < m.length) (h : l.take i = m.take i) (he : l[i] = m[i]) : l.take (i + 1) = m.take (i + 1) := by
  rw [List.take_succ_eq_append_getElem h1, List.take_succ_eq_append_getElem h2, h, he]

set_option maxRecDepth 100000 in
set_option maxHeartbeats 1000000 in
theorem equalC_any (v1 v2 : Value) (l m : List Ch) (w : World) (h1 : Sl (· < w.heap.size) w 3 v1 (chcs l)) (h2 : Sl (· < w.heap.size) w 3 v2 (chcs m)) : Calls Try.prog 41 #[v1, v2] w fun e w' => e = .returned (.bool (decide (l = m))) ∧ Ext w w' := by
  obtain ⟨ao, c, rfl, hlc, hcm, hc⟩ := Sl.rows chC_length (by decide) h1
  obtain ⟨ao2, c2, rfl, hlc2, hcm2, hc2⟩ := Sl.rows chC_length (by decide) h2
  have HC := Lib.hid hc
  have HC2 := Lib.hid hc2
  clear hc hc2 h1 h2
  by_cases hn : l.length = m.length
  case neg =>
    have HNE := Lib.hid (show decide (l = m) = false from decide_eq_false fun e => hn (by rw [e]))
    have hne : ((l.length : Int) == (m.length : Int)) = false := beq_eq_false_iff_ne.2 (by omega)
    have hne' : ((l.length : Int) != (m.length : Int)) = true := bne_iff_ne.2 (by omega)
    have hnn : ¬ (l.length : Int) = (m.length : Int) := by omega
    go_enter Try.func41, Try.ntmps41
    go_wp2_with fail
    go_ret
    exact ⟨by rw [HNE.out]; rfl, Ext.refl _⟩
  case pos =>
    have HN := Lib.hid hn
    rw [← hn] at hlc2 ⊢
    clear hn
    go_enter Try.func41, Try.ntmps41
    go_wp2_with fail
    go_loopw [5, 13] (fun _ ii wr => ∃ i : Nat, i ≤ l.length ∧ ii = .int .i64 i ∧ l.take i = m.take i ∧ Ext w wr) (fun _ ii _ => l.length - (intOf ii).toNat)
    case atStart => exact ⟨0, by omega, rfl, rfl, Ext.refl _⟩
    case round =>
      obtain ⟨i, hi, rfl, hte, hbel⟩ := hrel
      have HTE := Lib.hid hte
      clear hte
      by_cases hlt : i < l.length
      · have hlm : i < m.length := by have := HN.out; omega
        obtain ⟨b, off, rfl, hb, hk⟩ := HC.out (by omega)
        obtain ⟨b2, off2, rfl, hb2, he⟩ := HC2.out (by omega)
        have HNX := Lib.hid (take_eq_next hlt hlm HTE.out)
        have HNQ := Lib.hid (fun (h : l[i] ≠ m[i]) (e : l = m) => h (by subst e; rfl))
        have k0 := hk i hlt 0 _ rfl
        have k1 := hk i hlt 1 _ rfl
        have k2 := hk i hlt 2 _ rfl
        have e0 := he i hlm 0 _ rfl
        have e1 := he i hlm 1 _ rfl
        have e2 := he i hlm 2 _ rfl
        generalize l[i] = x at *
        generalize m[i] = y at *
        have hne := fun W => ch_neq x y W
        by_cases hxy : x = y
        case pos =>
          have HX := Lib.hid hxy
          subst hxy
          rw [decide_eq_false (by simp)] at hne
          obtain ⟨xk, ⟨xt, xr⟩⟩ := x
          unfold chV at hne
          dsimp only at k0 k1 k2 e0 e1 e2 hne
          clear hk he
          go_wp2_with fail
          obtain ⟨wd, hwd⟩ : ∃ wd, wd = wr.drew := ⟨_, rfl⟩
          have hbd : Ext w wd := by rw [hwd]; exact hbel.trans (Ext.drew wr)
          refine region_walkN (Ext wd) (by rw [← hwd]; exact Ext.refl _) (by kernel_rfl) (by kernel_rfl) (fun _ _ d _ _ h => by cases d <;> exact h) ?_
          rw [← hwd]
          clear hwd hbel
          have fk0 : ∀ W, Ext wd W → W.cell? ⟨b, off + i * 3, none⟩ = some (.int .i64 xk) := fun W h => (hbd.trans h).cell (a := ⟨b, off + i * 3, none⟩) k0
          have fk1 : ∀ W, Ext wd W → W.cell? ⟨b, off + i * 3 + 1, none⟩ = some (.string xt) := fun W h => (hbd.trans h).cell (a := ⟨b, off + i * 3 + 1, none⟩) k1
          have fk2 : ∀ W, Ext wd W → W.cell? ⟨b, off + i * 3 + 2, none⟩ = some (.string xr) := fun W h => (hbd.trans h).cell (a := ⟨b, off + i * 3 + 2, none⟩) k2
          have fe0 : ∀ W, Ext wd W → W.cell? ⟨b2, off2 + i * 3, none⟩ = some (.int .i64 xk) := fun W h => (hbd.trans h).cell (a := ⟨b2, off2 + i * 3, none⟩) e0
          have fe1 : ∀ W, Ext wd W → W.cell? ⟨b2, off2 + i * 3 + 1, none⟩ = some (.string xt) := fun W h => (hbd.trans h).cell (a := ⟨b2, off2 + i * 3 + 1, none⟩) e1
          have fe2 : ∀ W, Ext wd W → W.cell? ⟨b2, off2 + i * 3 + 2, none⟩ = some (.string xr) := fun W h => (hbd.trans h).cell (a := ⟨b2, off2 + i * 3 + 2, none⟩) e2
          clear k0 k1 k2 e0 e1 e2
          ((refine WalkN.take 0 _ ?_ (by simp only [List.getElem?_toArray, List.getElem?_cons_zero]; rfl) (by kernel_rfl) (by kernel_rfl) (by rfl) (fun W hW => ?_) ?_; rotate_left; · (go_simp; try with_reducible rfl)); simp only [Act.put, List.setIfInBounds_toArray, List.set_cons_zero, List.set_cons_succ]); ((refine WalkN.take 1 _ ?_ (by simp only [List.getElem?_toArray, List.getElem?_cons_succ, List.getElem?_cons_zero]; rfl) (by kernel_rfl) (by kernel_rfl) (by rfl) (fun W hW => ?_) ?_; rotate_left; · (go_simp; try with_reducible rfl)); simp only [Act.put, List.setIfInBounds_toArray, List.set_cons_zero, List.set_cons_succ]); ((refine WalkN.take 2 _ ?_ (by simp only [List.getElem?_toArray, List.getElem?_cons_succ, List.getElem?_cons_zero]; rfl) (by kernel_rfl) (by kernel_rfl) (by rfl) (fun W hW => ?_) ?_; rotate_left; · (go_simp; try with_reducible rfl)); simp only [Act.put, List.setIfInBounds_toArray, List.set_cons_zero, List.set_cons_succ]); ((refine WalkN.take 3 _ ?_ (by simp only [List.getElem?_toArray, List.getElem?_cons_succ, List.getElem?_cons_zero]; rfl) (by kernel_rfl) (by kernel_rfl) (by rfl) (fun W hW => ?_) ?_; rotate_left; · (go_simp; try with_reducible rfl)); simp only [Act.put, List.setIfInBounds_toArray, List.set_cons_zero, List.set_cons_succ]); ((refine WalkN.take 4 _ ?_ (by simp only [List.getElem?_toArray, List.getElem?_cons_succ, List.getElem?_cons_zero]; rfl) (by kernel_rfl) (by kernel_rfl) (by rfl) (fun W hW => ?_) ?_; rotate_left; · (go_simp; try with_reducible rfl)); simp only [Act.put, List.setIfInBounds_toArray, List.set_cons_zero, List.set_cons_succ]); ((refine WalkN.take 5 _ ?_ (by simp only [List.getElem?_toArray, List.getElem?_cons_succ, List.getElem?_cons_zero]; rfl) (by kernel_rfl) (by kernel_rfl) (by rfl) (fun W hW => ?_) ?_; rotate_left; · (go_simp; try with_reducible rfl)); simp only [Act.put, List.setIfInBounds_toArray, List.set_cons_zero, List.set_cons_succ]); ((refine WalkN.take 6 _ ?_ (by simp only [List.getElem?_toArray, List.getElem?_cons_succ, List.getElem?_cons_zero]; rfl) (by kernel_rfl) (by kernel_rfl) (by rfl) (fun W hW => ?_) ?_; rotate_left; · (go_simp; try with_reducible rfl)); simp only [Act.put, List.setIfInBounds_toArray, List.set_cons_zero, List.set_cons_succ]); ((refine WalkN.take 7 _ ?_ (by simp only [List.getElem?_toArray, List.getElem?_cons_succ, List.getElem?_cons_zero]; rfl) (by kernel_rfl) (by kernel_rfl) (by rfl) (fun W hW => ?_) ?_; rotate_left; · (go_simp; try with_reducible rfl)); simp only [Act.put, List.setIfInBounds_toArray, List.set_cons_zero, List.set_cons_succ]); ((refine WalkN.take 8 _ ?_ (by simp only [List.getElem?_toArray, List.getElem?_cons_succ, List.getElem?_cons_zero]; rfl) (by kernel_rfl) (by kernel_rfl) (by rfl) (fun W hW => ?_) ?_; rotate_left; · (go_simp; try with_reducible rfl)); simp only [Act.put, List.setIfInBounds_toArray, List.set_cons_zero, List.set_cons_succ])
          refine WalkN.done (by kernel_rfl) ?_
          clear fk0 fk1 fk2 fe0 fe1 fe2 hne
          go_wp2_with fail
          go_roundw
          case rel => exact ⟨i + 1, by omega, by go_num, HNX.out (by first | rfl | trivial), hbd⟩
          case measure => simp [intOf]; omega
        case neg =>
          have HX := Lib.hid hxy
          rw [decide_eq_true hxy] at hne
          have HF := Lib.hid (show decide (l = m) = false from decide_eq_false (HNQ.out hxy))
          clear hxy HNX HNQ
          obtain ⟨xk, ⟨xt, xr⟩⟩ := x
          obtain ⟨yk, ⟨yt, yr⟩⟩ := y
          unfold chV at hne
          dsimp only at k0 k1 k2 e0 e1 e2 hne
          clear hk he HX
          go_wp2_with fail
          obtain ⟨wd, hwd⟩ : ∃ wd, wd = wr.drew := ⟨_, rfl⟩
          have hbd : Ext w wd := by rw [hwd]; exact hbel.trans (Ext.drew wr)
          refine region_walkN (Ext wd) (by rw [← hwd]; exact Ext.refl _) (by kernel_rfl) (by kernel_rfl) (fun _ _ d _ _ h => by cases d <;> exact h) ?_
          rw [← hwd]
          clear hwd hbel
          have fk0 : ∀ W, Ext wd W → W.cell? ⟨b, off + i * 3, none⟩ = some (.int .i64 xk) := fun W h => (hbd.trans h).cell (a := ⟨b, off + i * 3, none⟩) k0
          have fk1 : ∀ W, Ext wd W → W.cell? ⟨b, off + i * 3 + 1, none⟩ = some (.string xt) := fun W h => (hbd.trans h).cell (a := ⟨b, off + i * 3 + 1, none⟩) k1
          have fk2 : ∀ W, Ext wd W → W.cell? ⟨b, off + i * 3 + 2, none⟩ = some (.string xr) := fun W h => (hbd.trans h).cell (a := ⟨b, off + i * 3 + 2, none⟩) k2
          have fe0 : ∀ W, Ext wd W → W.cell? ⟨b2, off2 + i * 3, none⟩ = some (.int .i64 yk) := fun W h => (hbd.trans h).cell (a := ⟨b2, off2 + i * 3, none⟩) e0
          have fe1 : ∀ W, Ext wd W → W.cell? ⟨b2, off2 + i * 3 + 1, none⟩ = some (.string yt) := fun W h => (hbd.trans h).cell (a := ⟨b2, off2 + i * 3 + 1, none⟩) e1
          have fe2 : ∀ W, Ext wd W → W.cell? ⟨b2, off2 + i * 3 + 2, none⟩ = some (.string yr) := fun W h => (hbd.trans h).cell (a := ⟨b2, off2 + i * 3 + 2, none⟩) e2
          clear k0 k1 k2 e0 e1 e2
          ((refine WalkN.take 0 _ ?_ (by simp only [List.getElem?_toArray, List.getElem?_cons_zero]; rfl) (by kernel_rfl) (by kernel_rfl) (by rfl) (fun W hW => ?_) ?_; rotate_left; · (go_simp; try with_reducible rfl)); simp only [Act.put, List.setIfInBounds_toArray, List.set_cons_zero, List.set_cons_succ]); ((refine WalkN.take 1 _ ?_ (by simp only [List.getElem?_toArray, List.getElem?_cons_succ, List.getElem?_cons_zero]; rfl) (by kernel_rfl) (by kernel_rfl) (by rfl) (fun W hW => ?_) ?_; rotate_left; · (go_simp; try with_reducible rfl)); simp only [Act.put, List.setIfInBounds_toArray, List.set_cons_zero, List.set_cons_succ]); ((refine WalkN.take 2 _ ?_ (by simp only [List.getElem?_toArray, List.getElem?_cons_succ, List.getElem?_cons_zero]; rfl) (by kernel_rfl) (by kernel_rfl) (by rfl) (fun W hW => ?_) ?_; rotate_left; · (go_simp; try with_reducible rfl)); simp only [Act.put, List.setIfInBounds_toArray, List.set_cons_zero, List.set_cons_succ]); ((refine WalkN.take 3 _ ?_ (by simp only [List.getElem?_toArray, List.getElem?_cons_succ, List.getElem?_cons_zero]; rfl) (by kernel_rfl) (by kernel_rfl) (by rfl) (fun W hW => ?_) ?_; rotate_left; · (go_simp; try with_reducible rfl)); simp only [Act.put, List.setIfInBounds_toArray, List.set_cons_zero, List.set_cons_succ]); ((refine WalkN.take 4 _ ?_ (by simp only [List.getElem?_toArray, List.getElem?_cons_succ, List.getElem?_cons_zero]; rfl) (by kernel_rfl) (by kernel_rfl) (by rfl) (fun W hW => ?_) ?_; rotate_left; · (go_simp; try with_reducible rfl)); simp only [Act.put, List.setIfInBounds_toArray, List.set_cons_zero, List.set_cons_succ]); ((refine WalkN.take 5 _ ?_ (by simp only [List.getElem?_toArray, List.getElem?_cons_succ, List.getElem?_cons_zero]; rfl) (by kernel_rfl) (by kernel_rfl) (by rfl) (fun W hW => ?_) ?_; rotate_left; · (go_simp; try with_reducible rfl)); simp only [Act.put, List.setIfInBounds_toArray, List.set_cons_zero, List.set_cons_succ]); ((refine WalkN.take 6 _ ?_ (by simp only [List.getElem?_toArray, List.getElem?_cons_succ, List.getElem?_cons_zero]; rfl) (by kernel_rfl) (by kernel_rfl) (by rfl) (fun W hW => ?_) ?_; rotate_left; · (go_simp; try with_reducible rfl)); simp only [Act.put, List.setIfInBounds_toArray, List.set_cons_zero, List.set_cons_succ]); ((refine WalkN.take 7 _ ?_ (by simp only [List.getElem?_toArray, List.getElem?_cons_succ, List.getElem?_cons_zero]; rfl) (by kernel_rfl) (by kernel_rfl) (by rfl) (fun W hW => ?_) ?_; rotate_left; · (go_simp; try with_reducible rfl)); simp only [Act.put, List.setIfInBounds_toArray, List.set_cons_zero, List.set_cons_succ]); ((refine WalkN.take 8 _ ?_ (by simp only [List.getElem?_toArray, List.getElem?_cons_succ, List.getElem?_cons_zero]; rfl) (by kernel_rfl) (by kernel_rfl) (by rfl) (fun W hW => ?_) ?_; rotate_left; · (go_simp; try with_reducible rfl)); simp only [Act.put, List.setIfInBounds_toArray, List.set_cons_zero, List.set_cons_succ])
          refine WalkN.done (by kernel_rfl) ?_
          clear fk0 fk1 fk2 fe0 fe1 fe2 hne
          go_wp2_with fail
          go_ret
          exact ⟨by rw [HF.out]; rfl, hbd⟩
      · obtain rfl : i = l.length := by omega
        have HF := Lib.hid (show decide (l = m) = true from decide_eq_true (take_eq_all HN.out HTE.out))
        go_wp2_with fail
        go_ret
        exact ⟨by rw [HF.out]; rfl, hbel⟩

end Go.Proofs.Ytipddhcfcehcaaa
namespace Go.Proofs.Ytipddhcfcehcaaa
open Go Go.RowKit Go.Maps

/-- The type of a name. -/
def typF (us : List TyS) (n : ByteArray) : Option TyS := us.find? fun u => decide (u.name = n)
/-- A type that is left. -/
def appF (us : List TyS) (t : TyS) : Option TyS := (typF us t.name).map fun u => ⟨t.name, mrgR t.rels u.rels⟩
/-- What a schema becomes. -/
def appL (ts us : List TyS) : List TyS := ts.filterMap (appF us) ++ us.filter fun u => (typF ts u.name).isNone
theorem mrg_nil (m : List (ByteArray × RT)) : mrgR [] m = m := by
  unfold mrgR
  rw [List.filterMap_nil, List.nil_append, List.filter_eq_self]
  intro r _
  rfl
theorem typ_of {us : List TyS} (hn : (us.map (·.name)).Nodup) {j : Nat} (hj : j < us.length) : typF us us[j].name = some us[j] := by
  unfold typF
  rw [List.find?_eq_some_iff_getElem]
  refine ⟨decide_eq_true rfl, j, hj, rfl, fun i hi => ?_⟩
  have := List.pairwise_iff_getElem.1 hn i j (by rw [List.length_map]; omega) (by rw [List.length_map]; exact hj) hi
  rw [List.getElem_map, List.getElem_map] at this
  simpa using this
theorem typ_none {us : List TyS} {n : ByteArray} (h : ∀ u ∈ us, decide (u.name = n) = false) : typF us n = none := by
  unfold typF
  rw [List.find?_eq_none]
  intro u hu
  rw [h u hu]
  simp
theorem idx_typ {us : List TyS} {n : ByteArray} {k : Int} (hn : (us.map (·.name)).Nodup) (h : IdxP (fun x : TyS => decide (x.name = n)) us k) : (∃ (j : Nat) (hj : j < us.length), k = (j : Int) ∧ typF us n = some us[j]) ∨ (k = -1 ∧ typF us n = none) := by
  rcases h with ⟨j, hj, rfl, hp⟩ | ⟨rfl, h⟩
  · refine .inl ⟨j, hj, rfl, ?_⟩
    have := typ_of hn hj
    rw [of_decide_eq_true hp] at this
    exact this
  · exact .inr ⟨rfl, typ_none h⟩
theorem rels_le {ts : List TyS} {t : TyS} (h : t ∈ ts) : t.rels.length ≤ (refsOf ts).length := by
  induction ts with
  | nil => cases h
  | cons a ts ih =>
    unfold refsOf at *
    rw [List.flatMap_cons, List.length_append]
    rcases List.mem_cons.1 h with rfl | h
    · unfold relsOf; rw [List.length_map]; omega
    · have := ih h; omega
theorem uq_rels {ts : List TyS} (h : uniqOk ts = true) {t : TyS} (ht : t ∈ ts) : (t.rels.map (·.1)).Nodup := by
  unfold uniqOk at h
  rw [Bool.and_eq_true, List.all_eq_true] at h
  exact of_decide_eq_true (h.2 t ht)
theorem uq_names {ts : List TyS} (h : uniqOk ts = true) : (ts.map (·.name)).Nodup := by
  unfold uniqOk at h
  rw [Bool.and_eq_true] at h
  exact of_decide_eq_true h.1

set_option maxRecDepth 100000 in
set_option maxHeartbeats 1000000 in
theorem apply_ne (aot aou : Option Addr) (nt ct nu cu : Nat) (lv : Value) (cs l : List Ch) (w : World) (hl : Sl (· < w.heap.size) w 3 lv (chcs l)) (hne : cs ≠ l) (HD : ∀ W, Ext w W → Calls Try.prog 17 #[.agg #[.slice aot nt ct], .agg #[.slice aou nu cu]] W fun e W' => ∃ v, e = .returned (.tuple #[v, .int .i64 0]) ∧ Sl (· < W'.heap.size) W' 3 v (chcs cs) ∧ Ext W W') :
    Calls Try.prog 19 #[.agg #[.slice aot nt ct], lv, .agg #[.slice aou nu cu]] w fun e w' => e = .returned (.tuple #[.agg #[.slice none 0 0], .int .i64 9]) ∧ Ext w w' := by
  have HL := Lib.hid hl
  have HNE := Lib.hid hne
  obtain ⟨aol, nl, cl, rfl, -, -, -⟩ := hl.len
  clear hl hne
  obtain ⟨wa, hwa⟩ : ∃ x, x = w.alloc (.cells #[.slice aot nt ct] 24) := ⟨_, rfl⟩
  obtain ⟨wc, hwc⟩ : ∃ x, x = wa.alloc (.cells #[.slice aou nu cu] 24) := ⟨_, rfl⟩
  obtain ⟨wb, hwb⟩ : ∃ x, x = wc.alloc (.cells #[.slice none 0 0] 24) := ⟨_, rfl⟩
  have ea : wa.heap.size = w.heap.size + 1 := by rw [hwa]; simp
  have ec : wc.heap.size = w.heap.size + 1 + 1 := by rw [hwc]; simp [ea]
  have xa : Ext w wa := by rw [hwa]; exact Ext.alloc _ _
  have xc : Ext wa wc := by rw [hwc]; exact Ext.alloc _ _
  have xb : Ext wc wb := by rw [hwb]; exact Ext.alloc _ _
  have HA := Lib.hid (show Blk wb w.heap.size #[.slice aot nt ct] 24 from Blk.below (by rw [hwa]; exact Blk.made _ _ _) (xc.trans xb))
  have HB := Lib.hid (show Blk wb (w.heap.size + 1) #[.slice aou nu cu] 24 from Blk.below (by rw [hwc, ← ea]; exact Blk.made _ _ _) xb)
  have HR := Lib.hid (show Blk wb (w.heap.size + 1 + 1) #[.slice none 0 0] 24 from by rw [hwb, ← ec]; exact Blk.made _ _ _)
  have HX := Lib.hid (show Ext w wb from xa.trans (xc.trans xb))
  have HDC := Lib.hid (HD wb HX.out)
  clear xa xc xb ea ec HD
  subst hwb hwc hwa
  go_enter Try.func19, Try.ntmps19
  go_wp2_with fail
  refine HDC.out.mono ?_
  rintro e w1 ⟨v1, rfl, hs1, hb1⟩
  have HX1 := Lib.hid (show Ext w w1 from HX.out.trans hb1)
  have HR1 := Lib.hid (HR.out.below hb1)
  have HEQ := Lib.hid (equalC_any v1 _ cs l w1 hs1 (HL.out.up HX1.out))
  rw [decide_eq_false HNE.out] at HEQ
  obtain ⟨ao1, n1, c1, rfl, -, -, -⟩ := hs1.len
  clear hb1 hs1 HDC HX HA HB HR
  go_wp2_with fail
  refine HEQ.out.mono ?_
  rintro e w2 ⟨rfl, hb2⟩
  have HX2 := Lib.hid (show Ext w w2 from HX1.out.trans hb2)
  have HR2 := Lib.hid (HR1.out.below hb2)
  have r1 := HR2.out.cells
  have f1 := HR2.out.free
  clear hb2 HEQ HX1 HR1
  go_wp2_with fail
  clear r1 f1
  refine bodyPost_ret (v := .tuple #[.agg #[.slice none 0 0], .int .i64 9]) ?_ rfl ⟨rfl, ?_⟩
  · rw [results_cell_tmp rfl]
    have hl := run_loadVar_row (P := Try.prog) _ (w.heap.size + 1 + 1) _ 24 _ _ _ (HR2.out.set_to (cs' := #[.slice none 0 0]) 0 (.slice none 0 0) rfl) Try.underlying24 rfl (by kernel_rfl)
    simp [asAddr, hl, Result.andThen]
  · exact Below.setCell HX2.out (by show w.heap.size ≤ w.heap.size + 1 + 1; omega) _

end Go.Proofs.Ytipddhcfcehcaaa
namespace Go.Proofs.Ytipddhcfcehcaaa
open Go Go.RowKit Go.Maps

theorem fm_congr {α β : Type} {f g : α → Option β} : ∀ {l : List α}, (∀ x ∈ l, f x = g x) → l.filterMap f = l.filterMap g
  | [], _ => rfl
  | a :: l, h => by rw [List.filterMap_cons, List.filterMap_cons, h a List.mem_cons_self, fm_congr fun x hx => h x (List.mem_cons_of_mem _ hx)]
/-- The same types, their relations in another order. -/
structure TwOn (f : TyS → TyS) (us : List TyS) : Prop where
  nm : ∀ u ∈ us, (f u).name = u.name
  rl : ∀ u ∈ us, (f u).rels.Perm u.rels
theorem tw_has {f : TyS → TyS} {us : List TyS} (h : TwOn f us) {u : TyS} (hu : u ∈ us) (n : ByteArray) : hasT (f u) n = hasT u n := by
  unfold hasT
  rw [Bool.eq_iff_iff, List.any_eq_true, List.any_eq_true]
  exact ⟨fun ⟨r, hr, e⟩ => ⟨r, (h.rl u hu).mem_iff.1 hr, e⟩, fun ⟨r, hr, e⟩ => ⟨r, (h.rl u hu).mem_iff.2 hr, e⟩⟩
theorem tw_any {f : TyS → TyS} {us : List TyS} (h : TwOn f us) (n : ByteArray) : anyT (us.map f) n = anyT us n := by
  unfold anyT
  rw [Bool.eq_iff_iff, List.any_eq_true, List.any_eq_true]
  constructor
  · rintro ⟨t, ht, e⟩
    obtain ⟨u, hu, rfl⟩ := List.mem_map.1 ht
    exact ⟨u, hu, by rw [← tw_has h hu]; exact e⟩
  · rintro ⟨u, hu, e⟩
    exact ⟨f u, List.mem_map_of_mem hu, by rw [tw_has h hu]; exact e⟩
theorem named_congr2 {ts us : List TyS} {t u : TyS} (h : ∀ n, anyT ts n = anyT us n) (h' : ∀ n, hasT t n = hasT u n) (r : RT) : r.named ts t = r.named us u := by
  induction r using RT.ind with
  | h r ih =>
    obtain ⟨k, a, b, ps⟩ := r
    rw [RT.named, RT.named, namedL_eq, namedL_eq]
    unfold headOk
    rw [h b, h' a]
    congr 1
    rw [Bool.eq_iff_iff, List.all_eq_true, List.all_eq_true]
    exact ⟨fun k p hp => (ih p hp) ▸ k p hp, fun k p hp => (ih p hp).symm ▸ k p hp⟩
theorem tw_names {f : TyS → TyS} {us : List TyS} (h : TwOn f us) : (us.map f).map (·.name) = us.map (·.name) := by
  rw [List.map_map]
  exact List.map_congr_left fun u hu => h.nm u hu
theorem tw_chk {f : TyS → TyS} {us : List TyS} (h : TwOn f us) (hc : chk06 us = 0) : chk06 (us.map f) = 0 := by
  have h1 : printOk (us.map f) = true := by
    unfold printOk
    rw [List.all_eq_true]
    intro t ht
    obtain ⟨u, hu, rfl⟩ := List.mem_map.1 ht
    have := List.all_eq_true.1 (chk_print hc) u hu
    unfold tyOk at this ⊢
    rw [Bool.and_eq_true] at this
    rw [h.nm u hu, this.1, Bool.true_and, List.all_eq_true]
    exact fun r hr => List.all_eq_true.1 this.2 r ((h.rl u hu).mem_iff.1 hr)
  have h2 : longOk (us.map f) = true := by
    have := chk_longT hc
    unfold longOk at this ⊢
    rw [Bool.and_eq_true, decide_eq_true_eq, List.all_eq_true] at this
    rw [Bool.and_eq_true, decide_eq_true_eq, List.all_eq_true, List.length_map]
    refine ⟨this.1, fun t ht => ?_⟩
    obtain ⟨u, hu, rfl⟩ := List.mem_map.1 ht
    have := this.2 u hu
    unfold tyLong at this ⊢
    rw [Bool.and_eq_true, decide_eq_true_eq, List.all_eq_true] at this
    rw [Bool.and_eq_true, decide_eq_true_eq, List.all_eq_true, (h.rl u hu).length_eq]
    exact ⟨this.1, fun r hr => this.2 r ((h.rl u hu).mem_iff.1 hr)⟩
  have h3 : uniqOk (us.map f) = true := by
    have := chk_uq hc
    unfold uniqOk at this ⊢
    rw [Bool.and_eq_true, decide_eq_true_eq, List.all_eq_true] at this
    rw [Bool.and_eq_true, decide_eq_true_eq, List.all_eq_true, tw_names h]
    refine ⟨this.1, fun t ht => ?_⟩
    obtain ⟨u, hu, rfl⟩ := List.mem_map.1 ht
    exact decide_eq_true (((h.rl u hu).map _).nodup_iff.2 (of_decide_eq_true (this.2 u hu)))
  have h4 : namesOk (us.map f) = true := by
    have := chk_names hc
    unfold namesOk at this ⊢
    rw [List.all_eq_true] at this ⊢
    intro t ht
    obtain ⟨u, hu, rfl⟩ := List.mem_map.1 ht
    have := List.all_eq_true.1 (this u hu)
    exact List.all_eq_true.2 fun r hr => by rw [named_congr2 (tw_any h) (tw_has h hu)]; exact this r ((h.rl u hu).mem_iff.1 hr)
  unfold chk06
  rw [h1, h2, h3, h4]
  rfl
theorem tw_like {f : TyS → TyS} {us : List TyS} (h : TwOn f us) (hc : chk06 us = 0) : Like (us.map f) us := by
  refine ⟨fun n => ?_, lookA_mem_eq (refs_nodup (tw_chk h hc)) (refs_nodup hc) fun p => ?_⟩
  · rw [Bool.eq_iff_iff, kn_mem, kn_mem, tw_names h]
  · rw [refs_mem, refs_mem]
    constructor
    · rintro ⟨t, ht, r, hr, e⟩
      obtain ⟨u, hu, rfl⟩ := List.mem_map.1 ht
      exact ⟨u, hu, r, (h.rl u hu).mem_iff.1 hr, by rw [← h.nm u hu]; exact e⟩
    · rintro ⟨u, hu, r, hr, e⟩
      exact ⟨f u, List.mem_map_of_mem hu, r, (h.rl u hu).mem_iff.2 hr, by rw [h.nm u hu]; exact e⟩
theorem tw_bk {f : TyS → TyS} : ∀ {us : List TyS}, TwOn f us → schBk (us.map f) = schBk us
  | [], _ => rfl
  | u :: us, h => by
    have ih := tw_bk (us := us) ⟨fun v hv => h.nm v (List.mem_cons_of_mem _ hv), fun v hv => h.rl v (List.mem_cons_of_mem _ hv)⟩
    unfold schBk at ih ⊢
    rw [List.map_cons, sumN, sumN, ih, tyBk_eq, tyBk_eq, h.nm u List.mem_cons_self, sumN_perm _ (h.rl u List.mem_cons_self)]
theorem tw_ok {f : TyS → TyS} {us : List TyS} (h : TwOn f us) (hk : ∀ u ∈ us, u.Ok) : ∀ t ∈ us.map f, t.Ok := fun t ht => by
  obtain ⟨u, hu, rfl⟩ := List.mem_map.1 ht
  exact ⟨by rw [h.nm u hu]; exact (hk u hu).1, fun r hr => (hk u hu).2 r ((h.rl u hu).mem_iff.1 hr)⟩
theorem mrg_perm {l m : List (ByteArray × RT)} (hl : (l.map (·.1)).Nodup) (hm : (m.map (·.1)).Nodup) : (mrgR l m).Perm m := by
  have key : ∀ p, p ∈ l.filterMap (mrgF m) → (lookA l p.1).isSome = true ∧ lookA m p.1 = some p.2 := fun p hp => by
    obtain ⟨r, hr, e⟩ := List.mem_filterMap.1 hp
    unfold mrgF at e
    cases h : lookA m r.1 with
    | none => rw [h] at e; cases e
    | some q =>
      rw [h] at e
      injection e with e
      subst e
      exact ⟨by rw [lookA_of_nodup hl hr]; rfl, h⟩
  have hk : ((mrgR l m).map (·.1)).Nodup := by
    unfold mrgR
    rw [List.map_append, List.nodup_append]
    refine ⟨?_, hm.sublist (List.Sublist.map _ List.filter_sublist), fun a ha b hb e => ?_⟩
    · have : ∀ k : List (ByteArray × RT), ((k.filterMap (mrgF m)).map (·.1)).Sublist (k.map (·.1)) := fun k => by
        induction k with
        | nil => exact List.Sublist.refl _
        | cons r k ih =>
          rw [List.filterMap_cons]
          unfold mrgF at ih ⊢
          cases h : lookA m r.1 with
          | none => exact List.Sublist.cons _ ih
          | some q => exact List.Sublist.cons_cons _ ih
      exact hl.sublist (this l)
    · subst e
      obtain ⟨p, hp, rfl⟩ := List.mem_map.1 ha
      obtain ⟨q, hq, e⟩ := List.mem_map.1 hb
      have h1 := (key p hp).1
      have h2 := (List.mem_filter.1 hq).2
      rw [e] at h2
      cases h : lookA l p.1 <;> rw [h] at h1 h2 <;> simp at h1 h2
  have nd : ∀ {k : List (ByteArray × RT)}, (k.map (·.1)).Nodup → k.Nodup := fun {k} h => List.Pairwise.of_map _ (fun a b h e => h (by rw [e])) h
  refine (List.perm_ext_iff_of_nodup (nd hk) (nd hm)).2 fun p => ?_
  unfold mrgR
  rw [List.mem_append, List.mem_filter]
  constructor
  · rintro (h | ⟨h, -⟩)
    · exact look_mem (key p h).2
    · exact h
  · intro h
    cases hx : lookA l p.1 with
    | none => exact .inr ⟨h, rfl⟩
    | some x =>
      refine .inl (List.mem_filterMap.2 ⟨(p.1, x), look_mem hx, ?_⟩)
      unfold mrgF
      dsimp only
      rw [lookA_of_nodup hm h]
      rfl
/-- The types as they come. -/
def arrL (ts us : List TyS) : List TyS := (ts.filterMap fun t => typF us t.name) ++ us.filter fun u => (typF ts u.name).isNone
/-- A type of the new schema as it becomes. -/
def twF (ts : List TyS) (u : TyS) : TyS := ⟨u.name, mrgR (match typF ts u.name with | some t => t.rels | none => []) u.rels⟩
theorem typ_some {us : List TyS} {n : ByteArray} {u : TyS} (h : typF us n = some u) : u ∈ us ∧ u.name = n := ⟨List.mem_of_find?_eq_some h, by have := List.find?_some h; exact of_decide_eq_true this⟩
theorem typ_mem {us : List TyS} (hn : (us.map (·.name)).Nodup) {u : TyS} (hu : u ∈ us) : typF us u.name = some u := by
  obtain ⟨j, hj, rfl⟩ := List.getElem_of_mem hu
  exact typ_of hn hj
theorem app_arr {ts us : List TyS} (hn : (ts.map (·.name)).Nodup) : appL ts us = (arrL ts us).map (twF ts) := by
  unfold appL arrL
  rw [List.map_append]
  congr 1
  · rw [List.map_filterMap]
    refine fm_congr fun t ht => ?_
    unfold appF
    cases h : typF us t.name with
    | none => rfl
    | some u =>
      have h2 := (typ_some h).2
      show some _ = some (twF ts u)
      unfold twF
      rw [h2, typ_mem hn ht]
  · symm
    refine (List.map_congr_left (g := id) fun u hu => ?_).trans (List.map_id _)
    have := (List.mem_filter.1 hu).2
    unfold twF
    cases h : typF ts u.name with
    | some t => rw [h] at this; simp at this
    | none => dsimp only; rw [mrg_nil]; rfl
theorem arr_perm {ts us : List TyS} (hn : (ts.map (·.name)).Nodup) (hm : (us.map (·.name)).Nodup) : (arrL ts us).Perm us := by
  have nd : ∀ {k : List TyS}, (k.map (·.name)).Nodup → k.Nodup := fun {k} h => List.Pairwise.of_map _ (fun a b h e => h (by rw [e])) h
  have hk : ((arrL ts us).map (·.name)).Nodup := by
    unfold arrL
    rw [List.map_append, List.nodup_append]
    refine ⟨?_, hm.sublist (List.Sublist.map _ List.filter_sublist), fun a ha b hb e => ?_⟩
    · have : ∀ k : List TyS, ((k.filterMap fun t => typF us t.name).map (·.name)).Sublist (k.map (·.name)) := fun k => by
        induction k with
        | nil => exact List.Sublist.refl _
        | cons r k ih =>
          rw [List.filterMap_cons]
          cases h : typF us r.name with
          | none => exact List.Sublist.cons _ ih
          | some q =>
            rw [List.map_cons, List.map_cons, (typ_some h).2]
            exact List.Sublist.cons_cons _ ih
      exact hn.sublist (this ts)
    · subst e
      obtain ⟨p, hp, rfl⟩ := List.mem_map.1 ha
      obtain ⟨q, hq, e⟩ := List.mem_map.1 hb
      obtain ⟨t, ht, e2⟩ := List.mem_filterMap.1 hp
      have h2 := (List.mem_filter.1 hq).2
      rw [e, (typ_some e2).2, typ_mem hn ht] at h2
      simp at h2
  refine (List.perm_ext_iff_of_nodup (nd hk) (nd hm)).2 fun u => ?_
  unfold arrL
  rw [List.mem_append, List.mem_filter]
  constructor
  · rintro (h | ⟨h, -⟩)
    · obtain ⟨t, -, e⟩ := List.mem_filterMap.1 h
      exact (typ_some e).1
    · exact h
  · intro h
    cases hx : typF ts u.name with
    | none => exact .inr ⟨h, rfl⟩
    | some t =>
      refine .inl (List.mem_filterMap.2 ⟨t, (typ_some hx).1, ?_⟩)
      rw [(typ_some hx).2]
      exact typ_mem hm h
theorem tw_app {ts us : List TyS} (u1 : uniqOk ts = true) (u2 : uniqOk us = true) : TwOn (twF ts) (arrL ts us) := by
  have hp := arr_perm (uq_names u1) (uq_names u2)
  refine ⟨fun _ _ => rfl, fun u hu => ?_⟩
  unfold twF
  refine mrg_perm ?_ (uq_rels u2 (hp.mem_iff.1 hu))
  cases h : typF ts u.name with
  | none => exact List.nodup_nil
  | some t => exact uq_rels u1 (typ_some h).1
/-- What a schema becomes tells the same as the new one. -/
theorem app_chk {ts us : List TyS} (h1 : chk06 ts = 0) (h2 : chk06 us = 0) : chk06 (appL ts us) = 0 := by
  have hp := arr_perm (uq_names (chk_uq h1)) (uq_names (chk_uq h2))
  rw [app_arr (uq_names (chk_uq h1))]
  exact tw_chk (tw_app (chk_uq h1) (chk_uq h2)) (chk_perm hp h2)
theorem Like.trans {a b c : List TyS} (h : Like a b) (k : Like b c) : Like a c := ⟨fun n => (h.T n).trans (k.T n), fun n => (h.R n).trans (k.R n)⟩
theorem app_like {ts us : List TyS} (h1 : chk06 ts = 0) (h2 : chk06 us = 0) : Like (appL ts us) us := by
  have hp := arr_perm (uq_names (chk_uq h1)) (uq_names (chk_uq h2))
  rw [app_arr (uq_names (chk_uq h1))]
  exact (tw_like (tw_app (chk_uq h1) (chk_uq h2)) (chk_perm hp h2)).trans (Like.of_mem (chk_perm hp h2) h2 fun t => hp.mem_iff)
theorem app_sok {ts us : List TyS} (h1 : chk06 ts = 0) (h2 : chk06 us = 0) (hb : schBk us ≤ 1048576) (hk : ∀ u ∈ us, u.Ok) : SOk (appL ts us) := by
  have hp := arr_perm (uq_names (chk_uq h1)) (uq_names (chk_uq h2))
  have ht := tw_app (chk_uq h1) (chk_uq h2)
  rw [app_arr (uq_names (chk_uq h1))]
  refine SOk.bk ?_ (tw_ok ht fun u hu => hk u (hp.mem_iff.1 hu))
  rw [tw_bk ht]
  unfold schBk at hb ⊢
  rw [sumN_perm _ hp]
  exact hb
theorem without_len2 (ts us : List TyS) (k j : Int) : (withoutL ts us k).length = (withoutL ts us j).length := by
  unfold withoutL noT noR
  rw [List.length_append, List.length_append, List.length_map, List.length_map, List.length_map, List.length_map]
theorem mem_look {κ α : Type} [DecidableEq κ] {l : List (κ × α)} (hn : (l.map (·.1)).Nodup) {p : κ × α} : p ∈ l ↔ lookA l p.1 = some p.2 := ⟨lookA_of_nodup hn, look_mem⟩
theorem chg_len {ts us : List TyS} (hn : Nms ts) (hm : Nms us) : (chgL us (dL (refsOf ts))).length = (chgL ts (dL (refsOf us))).length := by
  have hk : ∀ {a b : List TyS}, Nms a → (((dL (refsOf a)).filter (chT3 b)).map (·.1)).Nodup := fun h => h.R.sublist (List.Sublist.map _ List.filter_sublist)
  have hmem : ∀ {a b : List TyS}, Nms a → ∀ k, k ∈ ((dL (refsOf a)).filter (chT3 b)).map (·.1) ↔ ∃ x y, lookA (dL (refsOf a)) k = some x ∧ lookA (dL (refsOf b)) k = some y ∧ x ≠ y := fun {a b} h k => by
    rw [List.mem_map]
    constructor
    · rintro ⟨p, hp, rfl⟩
      obtain ⟨hp, hq⟩ := List.mem_filter.1 hp
      unfold chT3 at hq
      cases hl : lookA (dL (refsOf b)) p.1 with
      | none => rw [hl] at hq; cases hq
      | some y =>
        rw [hl] at hq
        exact ⟨p.2, y, (mem_look h.R).1 hp, rfl, fun e => of_decide_eq_true hq e.symm⟩
    · rintro ⟨x, y, h1, h2, h3⟩
      refine ⟨(k, x), List.mem_filter.2 ⟨look_mem h1, ?_⟩, rfl⟩
      unfold chT3
      dsimp only
      rw [h2]
      exact decide_eq_true fun e => h3 e.symm
  have hp : (((dL (refsOf ts)).filter (chT3 us)).map (·.1)).Perm (((dL (refsOf us)).filter (chT3 ts)).map (·.1)) :=
    (List.perm_ext_iff_of_nodup (hk hn) (hk hm)).2 fun k => by
      rw [hmem hn, hmem hm]
      exact ⟨fun ⟨x, y, a, b, c⟩ => ⟨y, x, b, a, fun e => c e.symm⟩, fun ⟨x, y, a, b, c⟩ => ⟨y, x, b, a, fun e => c e.symm⟩⟩
  have := hp.length_eq
  unfold chgL
  simpa using this
theorem diff_len2 {ts us : List TyS} (hn : Nms ts) (hm : Nms us) : (diffL us ts).length = (diffL ts us).length := by
  unfold diffL
  simp only [List.length_append]
  have h1 := without_len2 us ts 2 1
  have h2 := without_len2 ts us 1 2
  have h3 := chg_len hn hm
  omega

end Go.Proofs.Ytipddhcfcehcaaa
