/- The document's stems are the table's. The document's table: Stem, eight, Check. No condition: lemmas. -/
import Derived.Test.YtmmeofiocbfamaaGreatDoorZ32
namespace Go.Proofs.YtmmeofiocbfamaaGreatDoor
open Go Go.RowKit

/-- A valid key's parts. -/
theorem outer_parts {s : List UInt8} (h : (outerS s).isNone = false) : ∃ k rest, s = esc k ++ 0 :: 1 :: rest ∧ rest.length = 9 := by
  unfold outerS at h
  cases hs : scan s with
  | none => rw [hs] at h; cases h
  | some p =>
    obtain ⟨k, rest⟩ := p
    rw [hs] at h
    dsimp only at h
    split at h
    · next hc => exact ⟨k, rest, scan_some s hs, hc.1⟩
    · cases h
theorem stemB_data (k : ByteArray) : (stemB k).data.toList = k.data.toList.take (k.size - 9) := by
  unfold stemB
  rw [ByteArray.data_extract, Array.toList_extract]
  simp [List.extract]
theorem stem_parts {x : ByteArray} {k rest : List UInt8} (h : x.data.toList = esc k ++ 0 :: 1 :: rest) (hr : rest.length = 9) : (stemB x).data.toList = esc k ++ [0, 1] := by
  have hs : x.data.toList.length = x.size := Array.length_toList
  rw [stemB_data, ← hs, h]
  have e : esc k ++ 0 :: 1 :: rest = (esc k ++ [0, 1]) ++ rest := by simp
  rw [e, List.length_append, hr, Nat.add_sub_cancel, List.take_left]
theorem stem_le {x y : ByteArray} (hx : (outerS x.data.toList).isNone = false) (hy : (outerS y.data.toList).isNone = false) (h : ltS x y = true) : stemB x = stemB y ∨ ltS (stemB x) (stemB y) = true := by
  obtain ⟨a, r, h1, h2⟩ := outer_parts hx
  obtain ⟨b, s, h3, h4⟩ := outer_parts hy
  have e1 := stem_parts h1 h2
  have e2 := stem_parts h3 h4
  by_cases hab : a = b
  · left
    exact ByteArray.ext (by rw [← Array.toList_inj, e1, e2, hab])
  · right
    unfold ltS at *
    rw [ByteArray.toList_eq, ByteArray.toList_eq] at *
    rw [h1, h3] at h
    rw [e1, e2]
    have h5 := bl_esc a b r s hab
    have h6 := bl_esc a b [] [] hab
    exact h6.trans (h5.symm.trans h)
theorem addS_cons (a b : ByteArray) (r : List ByteArray) (x : ByteArray) : addS (a :: b :: r) x = a :: addS (b :: r) x := by
  unfold addS
  rw [List.getLast?_cons_cons]
  split <;> rfl
/-- At the end of a row that rises both ways of putting are one. -/
theorem putS_addS : ∀ (l : List ByteArray) (x : ByteArray), Up l → (∀ y ∈ l, y = x ∨ ltS y x = true) → (putS l x).1 = addS l x
  | [], x, _, _ => rfl
  | [a], x, _, h => by
    rcases h a (by simp) with rfl | h
    · simp [putS, addS, ltS_irr]
    · have : a ≠ x := fun e => by subst e; rw [ltS_irr] at h; cases h
      simp [putS, addS, h, this]
  | a :: b :: r, x, hu, h => by
    have h1 := List.pairwise_cons.1 hu
    have hlt : ltS a x = true := by
      rcases h a (by simp) with rfl | h2
      · have hb := h1.1 b (by simp)
        rcases h b (by simp) with rfl | h3
        · exact hb
        · exact ltS_trans hb h3
      · exact h2
    rw [addS_cons, ← putS_addS (b :: r) x h1.2 fun y hy => h y (List.mem_cons_of_mem _ hy)]
    rw [putS, if_pos hlt]
theorem stems_fold : ∀ (ks l : List ByteArray), Up l → (∀ y ∈ l, ∀ k ∈ ks, y = stemB k ∨ ltS y (stemB k) = true) → ks.Pairwise (fun a b => stemB a = stemB b ∨ ltS (stemB a) (stemB b) = true) →
    ks.foldl (fun l k => (putS l (stemB k)).1) l = ks.foldl (fun l k => addS l (stemB k)) l
  | [], _, _, _, _ => rfl
  | k :: ks, l, hu, h, hp => by
    obtain ⟨h1, h2⟩ := List.pairwise_cons.1 hp
    rw [List.foldl_cons, List.foldl_cons, ← putS_addS l (stemB k) hu fun y hy => h y hy k (by simp)]
    refine stems_fold ks _ (putS_up _ _ hu) (fun y hy z hz => ?_) h2
    rcases (putS_mem _ _ _).1 hy with rfl | hy
    · exact h1 z hz
    · exact h y hy z (List.mem_cons_of_mem _ hz)
theorem addsW_stems (split : Int) : ∀ (ks : List ByteArray) (s : WS), (ks.foldl (fun s k => s.add k split) s).stems = ks.foldl (fun l k => addS l (stemB k)) s.stems
  | [], _ => rfl
  | k :: ks, s => by rw [List.foldl_cons, List.foldl_cons, addsW_stems split ks, add_stems]
/-- The stems, as the document puts them. -/
def stemsL (ks : List ByteArray) : List ByteArray := ks.foldl (fun l k => (putS l (stemB k)).1) []
theorem stemsL_eq {ks : List ByteArray} (hu : UpK ks) (hg : ks.any (fun k => (outerS k.data.toList).isNone) = false) (split : Int) : (buildW ks split).stems = stemsL ks := by
  rw [List.any_eq_false] at hg
  have h1 : (buildW ks split).stems = (addsW split ks).stems := by
    unfold buildW
    split <;> rfl
  rw [h1]
  unfold addsW stemsL
  rw [addsW_stems]
  refine (stems_fold ks [] List.Pairwise.nil (fun y hy => by cases hy) ?_).symm
  refine List.Pairwise.imp_of_mem (fun {a b} ha hb hab => ?_) hu.up
  have e : ∀ x : Option (List UInt8 × Nat × Bool), ¬ x.isNone = true → x.isNone = false := fun x h => by cases x <;> simp_all
  exact stem_le (e _ (hg a ha)) (e _ (hg b hb)) hab
theorem stemsL_snoc (ks : List ByteArray) (i : Nat) (h : i < ks.length) : stemsL (ks.take (i + 1)) = (putS (stemsL (ks.take i)) (stemB ks[i])).1 := by
  unfold stemsL
  rw [List.take_succ_eq_append_getElem h, List.foldl_append]
  rfl
theorem stemsL_len (ks : List ByteArray) : (stemsL ks).length ≤ ks.length := by
  have : ∀ (ks l : List ByteArray), (ks.foldl (fun l k => (putS l (stemB k)).1) l).length ≤ l.length + ks.length := by
    intro ks
    induction ks with
    | nil => intro l; exact Nat.le_refl _
    | cons k ks ih =>
      intro l
      rw [List.foldl_cons, List.length_cons]
      have h1 := ih (putS l (stemB k)).1
      have h2 : (putS l (stemB k)).1.length ≤ l.length + 1 := by
        clear ih h1
        induction l with
        | nil => simp [putS]
        | cons a l ih =>
          unfold putS
          split
          · simpa using ih
          · split <;> simp
      omega
  have h := this ks []
  rw [List.length_nil, Nat.zero_add] at h
  exact h
/-- The table's bytes, as the document builds them. -/
theorem tableB_doc {ks : List ByteArray} (hu : UpK ks) (hg : ks.any (fun k => (outerS k.data.toList).isNone) = false) (split bits : Int) :
    tableB ks split bits = outOf (cutL split ks) ++ sealB (idxB (plcsOf 0 (cutL split ks))) ++ sealB (bloomB (dl (stemsL ks)) bits) ++ eightB (outOf (cutL split ks)).length ++ eightB (outOf (cutL split ks) ++ sealB (idxB (plcsOf 0 (cutL split ks)))).length ++ eightB ks.length ++ [116, 98, 108, 49] := by
  obtain ⟨h1, h2, _, _⟩ := blocks_cut ks split
  unfold tableB
  rw [h1, h2, stemsL_eq hu hg]

end Go.Proofs.YtmmeofiocbfamaaGreatDoor
namespace Go.Proofs.YtmmeofiocbfamaaGreatDoor
open Go Go.RowKit

set_option maxRecDepth 100000 in
set_option maxHeartbeats 400000 in
theorem stem14_any (s : ByteArray) (w : World) (hs : s.size ≤ 1000000000) :
    Calls Tryz.prog 18 #[.string s] w fun e w' => e = .returned (.string (stemB s)) ∧ w' = w := by
  have hst : stemB s = s.extract 0 (s.size - 9) := rfl
  rw [hst]
  by_cases h9 : s.size < 9
  · have he : s.extract 0 (s.size - 9) = ⟨#[]⟩ := by
      rw [show s.size - 9 = 0 from by omega]
      exact ByteArray.ext (by rw [← Array.toList_inj, Lib.extract_data]; simp)
    rw [he]
    go_enter Tryz.func18, Tryz.ntmps18
    go_wp2_with fail
    go_ret
    exact ⟨rfl, rfl⟩
  · have hm : (s.size : Int) - 9 = ((s.size - 9 : Nat) : Int) := by omega
    have hm2 : wrap64 ((s.size : Int) - 9) = ((s.size - 9 : Nat) : Int) := by rw [hm]; unfold wrap64; omega
    have hle : s.size - 9 ≤ s.size := Nat.sub_le _ _
    clear hst
    generalize s.size - 9 = k at *
    go_enter Tryz.func18, Tryz.ntmps18
    go_wp2_with fail
    go_ret
    exact ⟨rfl, rfl⟩

set_option maxRecDepth 100000 in
set_option maxHeartbeats 3000000 in
theorem eight14_any (n : Nat) (w : World) (hn : n < 4611686018427387904) :
    Calls Tryz.prog 41 #[.int .i64 n] w fun e w' => ∃ v, e = .returned v ∧ Own w' w.heap.size 5 1 v (bc (eightB n)) ∧ Ext w w' := by
  go_enter Tryz.func41, Tryz.ntmps41
  go_wp2_with fail
  go_loopw [3, 4] (fun bv sv wr => ∃ i : Nat, i ≤ 8 ∧ sv = .int .i64 (7 - (i : Int)) ∧ Own wr w.heap.size 5 1 bv (bc ((eightB n).take i)) ∧ Ext w wr) (fun _ sv _ => (intOf sv + 1).toNat)
  case atStart => exact ⟨0, by omega, rfl, by rw [List.take_zero]; exact Own.nil _ _ _ _, Ext.refl _⟩
  case round =>
    obtain ⟨i, hi, rfl, hb, hbel⟩ := hrel
    have HB := Lib.hid hb
    have HX := Lib.hid hbel
    obtain ⟨bo, bn, bcap, rfl, -, -, -⟩ := hb.sl.len
    clear hb hbel
    have hcase : i = 0 ∨ i = 1 ∨ i = 2 ∨ i = 3 ∨ i = 4 ∨ i = 5 ∨ i = 6 ∨ i = 7 ∨ i = 8 := by omega
    clear hi
    rcases hcase with rfl | rfl | rfl | rfl | rfl | rfl | rfl | rfl | rfl
    · go_wp2_with (at_builtin; go_must (refine wpList_own_lit bytesT rfl (.tmp 9) (.tmp 17) rfl rfl HB.out rfl rfl (by simp [Value.oneCell']) (by rw [bc_length, List.length_take]; first | omega | (simp; done) | (simp; omega)) (by rw [bc_length, List.length_take]; first | omega | (simp; done) | (simp; omega)) HX.out.size ?_; intro v5 w5 hown5 hb5 _; have HO5 := Lib.hid hown5; have HX5 := Lib.hid (show Ext w w5 from Below.trans HX.out hb5); obtain ⟨eo5, en5, ec5, rfl, -, -, -⟩ := hown5.sl.len; clear hown5 hb5))
      refine ⟨⟨1, by omega, by rfl, ?_, HX5.out⟩, by decide⟩
      have := eight_step [] n 0 (n / 72057594037927936) ((n : Int) / 72057594037927936 % 256) rfl (by omega)
      rw [List.nil_append, List.nil_append] at this
      rw [this]
      exact HO5.out
    · go_wp2_with (at_builtin; go_must (refine wpList_own_lit bytesT rfl (.tmp 9) (.tmp 17) rfl rfl HB.out rfl rfl (by simp [Value.oneCell']) (by rw [bc_length, List.length_take]; first | omega | (simp; done) | (simp; omega)) (by rw [bc_length, List.length_take]; first | omega | (simp; done) | (simp; omega)) HX.out.size ?_; intro v5 w5 hown5 hb5 _; have HO5 := Lib.hid hown5; have HX5 := Lib.hid (show Ext w w5 from Below.trans HX.out hb5); obtain ⟨eo5, en5, ec5, rfl, -, -, -⟩ := hown5.sl.len; clear hown5 hb5))
      refine ⟨⟨2, by omega, by rfl, ?_, HX5.out⟩, by decide⟩
      have := eight_step [] n 1 (n / 281474976710656) ((n : Int) / 281474976710656 % 256) rfl (by omega)
      rw [List.nil_append, List.nil_append] at this
      rw [this]
      exact HO5.out
    · go_wp2_with (at_builtin; go_must (refine wpList_own_lit bytesT rfl (.tmp 9) (.tmp 17) rfl rfl HB.out rfl rfl (by simp [Value.oneCell']) (by rw [bc_length, List.length_take]; first | omega | (simp; done) | (simp; omega)) (by rw [bc_length, List.length_take]; first | omega | (simp; done) | (simp; omega)) HX.out.size ?_; intro v5 w5 hown5 hb5 _; have HO5 := Lib.hid hown5; have HX5 := Lib.hid (show Ext w w5 from Below.trans HX.out hb5); obtain ⟨eo5, en5, ec5, rfl, -, -, -⟩ := hown5.sl.len; clear hown5 hb5))
      refine ⟨⟨3, by omega, by rfl, ?_, HX5.out⟩, by decide⟩
      have := eight_step [] n 2 (n / 1099511627776) ((n : Int) / 1099511627776 % 256) rfl (by omega)
      rw [List.nil_append, List.nil_append] at this
      rw [this]
      exact HO5.out
    · go_wp2_with (at_builtin; go_must (refine wpList_own_lit bytesT rfl (.tmp 9) (.tmp 17) rfl rfl HB.out rfl rfl (by simp [Value.oneCell']) (by rw [bc_length, List.length_take]; first | omega | (simp; done) | (simp; omega)) (by rw [bc_length, List.length_take]; first | omega | (simp; done) | (simp; omega)) HX.out.size ?_; intro v5 w5 hown5 hb5 _; have HO5 := Lib.hid hown5; have HX5 := Lib.hid (show Ext w w5 from Below.trans HX.out hb5); obtain ⟨eo5, en5, ec5, rfl, -, -, -⟩ := hown5.sl.len; clear hown5 hb5))
      refine ⟨⟨4, by omega, by rfl, ?_, HX5.out⟩, by decide⟩
      have := eight_step [] n 3 (n / 4294967296) ((n : Int) / 4294967296 % 256) rfl (by omega)
      rw [List.nil_append, List.nil_append] at this
      rw [this]
      exact HO5.out
    · go_wp2_with (at_builtin; go_must (refine wpList_own_lit bytesT rfl (.tmp 9) (.tmp 17) rfl rfl HB.out rfl rfl (by simp [Value.oneCell']) (by rw [bc_length, List.length_take]; first | omega | (simp; done) | (simp; omega)) (by rw [bc_length, List.length_take]; first | omega | (simp; done) | (simp; omega)) HX.out.size ?_; intro v5 w5 hown5 hb5 _; have HO5 := Lib.hid hown5; have HX5 := Lib.hid (show Ext w w5 from Below.trans HX.out hb5); obtain ⟨eo5, en5, ec5, rfl, -, -, -⟩ := hown5.sl.len; clear hown5 hb5))
      refine ⟨⟨5, by omega, by rfl, ?_, HX5.out⟩, by decide⟩
      have := eight_step [] n 4 (n / 16777216) ((n : Int) / 16777216 % 256) rfl (by omega)
      rw [List.nil_append, List.nil_append] at this
      rw [this]
      exact HO5.out
    · go_wp2_with (at_builtin; go_must (refine wpList_own_lit bytesT rfl (.tmp 9) (.tmp 17) rfl rfl HB.out rfl rfl (by simp [Value.oneCell']) (by rw [bc_length, List.length_take]; first | omega | (simp; done) | (simp; omega)) (by rw [bc_length, List.length_take]; first | omega | (simp; done) | (simp; omega)) HX.out.size ?_; intro v5 w5 hown5 hb5 _; have HO5 := Lib.hid hown5; have HX5 := Lib.hid (show Ext w w5 from Below.trans HX.out hb5); obtain ⟨eo5, en5, ec5, rfl, -, -, -⟩ := hown5.sl.len; clear hown5 hb5))
      refine ⟨⟨6, by omega, by rfl, ?_, HX5.out⟩, by decide⟩
      have := eight_step [] n 5 (n / 65536) ((n : Int) / 65536 % 256) rfl (by omega)
      rw [List.nil_append, List.nil_append] at this
      rw [this]
      exact HO5.out
    · go_wp2_with (at_builtin; go_must (refine wpList_own_lit bytesT rfl (.tmp 9) (.tmp 17) rfl rfl HB.out rfl rfl (by simp [Value.oneCell']) (by rw [bc_length, List.length_take]; first | omega | (simp; done) | (simp; omega)) (by rw [bc_length, List.length_take]; first | omega | (simp; done) | (simp; omega)) HX.out.size ?_; intro v5 w5 hown5 hb5 _; have HO5 := Lib.hid hown5; have HX5 := Lib.hid (show Ext w w5 from Below.trans HX.out hb5); obtain ⟨eo5, en5, ec5, rfl, -, -, -⟩ := hown5.sl.len; clear hown5 hb5))
      refine ⟨⟨7, by omega, by rfl, ?_, HX5.out⟩, by decide⟩
      have := eight_step [] n 6 (n / 256) ((n : Int) / 256 % 256) rfl (by omega)
      rw [List.nil_append, List.nil_append] at this
      rw [this]
      exact HO5.out
    · go_wp2_with (at_builtin; go_must (refine wpList_own_lit bytesT rfl (.tmp 9) (.tmp 17) rfl rfl HB.out rfl rfl (by simp [Value.oneCell']) (by rw [bc_length, List.length_take]; first | omega | (simp; done) | (simp; omega)) (by rw [bc_length, List.length_take]; first | omega | (simp; done) | (simp; omega)) HX.out.size ?_; intro v5 w5 hown5 hb5 _; have HO5 := Lib.hid hown5; have HX5 := Lib.hid (show Ext w w5 from Below.trans HX.out hb5); obtain ⟨eo5, en5, ec5, rfl, -, -, -⟩ := hown5.sl.len; clear hown5 hb5))
      refine ⟨⟨8, by omega, by rfl, ?_, HX5.out⟩, by decide⟩
      have := eight_step [] n 7 (n) ((n : Int) % 256) rfl (by omega)
      rw [List.nil_append, List.nil_append] at this
      rw [this]
      exact HO5.out
    · go_wp2_with fail
      go_ret
      exact ⟨_, rfl, HB.out, HX.out⟩

/-- What Check answers. -/
def RetChk (ks : List ByteArray) (split : Int) (w : World) (e : Ending) (w' : World) : Prop :=
  Ext w w' ∧ ((ks = [] ∨ split < 1) ∧ e = .returned (.int .i64 1) ∨
    ¬ (ks = [] ∨ split < 1) ∧ ks.any (fun k => (outerS k.data.toList).isNone) = true ∧ e = .returned (.int .i64 9) ∨
    ¬ (ks = [] ∨ split < 1) ∧ ks.any (fun k => (outerS k.data.toList).isNone) = false ∧ ¬ UpK ks ∧ e = .returned (.int .i64 11) ∨
    ¬ (ks = [] ∨ split < 1) ∧ ks.any (fun k => (outerS k.data.toList).isNone) = false ∧ UpK ks ∧ e = .returned (.int .i64 0))

set_option maxRecDepth 100000 in
set_option maxHeartbeats 1600000 in
theorem check14_any (v : Value) (ks : List ByteArray) (split : Int) (w : World) (h : Sl (· < w.heap.size) w 1 v (sc ks)) (hl : ks.length ≤ 1000) (hk : ∀ k ∈ ks, k.size ≤ 1000) :
    Calls Tryz.prog 34 #[v, .int .i64 split] w (RetChk ks split w) := by
  have HS := Lib.hid h
  have HK := Lib.hid hk
  obtain ⟨ao, c, rfl, hlc, hcm, -, hcell⟩ := Sl.strs0 h
  have HC := Lib.hid hcell
  clear h hk hcell
  by_cases hbad : ks = [] ∨ split < 1
  · have HB := Lib.hid hbad
    go_enter Tryz.func34, Tryz.ntmps34
    by_cases h0 : ks.length = 0
    · have hb0 : ((ks.length : Int) == 0) = true := by rw [h0]; rfl
      clear h0 hbad
      go_wp2_with fail
      go_ret
      exact ⟨Ext.refl _, .inl ⟨HB.out, rfl⟩⟩
    · have hb0 : ((ks.length : Int) == 0) = false := by simp; intro e; exact h0 (by rw [e]; rfl)
      have hs1 : split < 1 := hbad.resolve_left fun e => h0 (by rw [e]; rfl)
      clear h0 hbad
      go_wp2_with fail
      go_ret
      exact ⟨Ext.refl _, .inl ⟨HB.out, rfl⟩⟩
  have HGD := Lib.hid hbad
  have hb0 : ((ks.length : Int) == 0) = false := by simp; exact fun e => hbad (.inl e)
  have hs1 : ¬ split < 1 := fun e => hbad (.inr e)
  clear hbad
  go_enter Tryz.func34, Tryz.ntmps34
  go_wp2_with fail
  clear hb0 hs1
  go_loopw [19] (fun iv wr => ∃ i : Nat, i ≤ ks.length ∧ iv = .int .i64 i ∧ (∀ j (hj : j < ks.length), j < i → (outerS ks[j].data.toList).isNone = false) ∧ Ext w wr) (fun iv _ => ks.length - (intOf iv).toNat)
  case atStart => exact ⟨0, Nat.zero_le _, rfl, fun _ _ h => absurd h (Nat.not_lt_zero _), Ext.refl _⟩
  case round =>
    obtain ⟨i, hi, rfl, hall, hx⟩ := hrel
    have HALL := Lib.hid hall
    have HX := Lib.hid hx
    clear hall hx
    by_cases hlt : i < ks.length
    · obtain ⟨b, off, rfl, hb, hc⟩ := HC.out (by omega)
      have hcl := HX.out.cell (hc i hlt)
      have HO := Lib.hid (refOuter_any ks[i] wr (by have := HK.out _ (List.getElem_mem hlt); omega))
      have HIL := Lib.hid hlt
      have HMEM := Lib.hid (List.getElem_mem hlt)
      clear hc hb
      generalize hkey : ks[i] = key at *
      have HKEY := Lib.hid hkey
      clear hkey
      generalize hov : outerS key.data.toList = o at *
      go_wp2_with fail
      refine HO.out.mono ?_
      rintro e w1 ⟨rfl, hb1⟩
      have HX1 := Lib.hid (HX.out.trans hb1)
      clear hb1 HO hcl
      cases o with
      | none =>
        have HANY := Lib.hid (show ks.any (fun k => (outerS k.data.toList).isNone) = true from List.any_eq_true.2 ⟨key, HMEM.out, by rw [hov]; rfl⟩)
        clear hov
        unfold outV entV
        go_wp2_with fail
        go_ret
        exact ⟨HX1.out.trans (Ext.alloc _ _), .inr (.inl ⟨HGD.out, HANY.out, rfl⟩)⟩
      | some r =>
        obtain ⟨a, b2, c2⟩ := r
        have HN2 := Lib.hid (show (outerS ks[i].data.toList).isNone = false from by rw [HKEY.out, hov]; rfl)
        unfold outV entV
        clear hov
        go_wp2_with fail
        go_roundw
        case rel => exact ⟨i + 1, HIL.out, by go_num, fun j hj h => (Nat.lt_succ_iff_lt_or_eq.1 h).elim (fun e => HALL.out j hj e) (fun e => by subst e; exact HN2.out), HX1.out.trans (Ext.alloc _ _)⟩
        case measure => have := HIL.out; simp [intOf]; omega
    · obtain rfl : i = ks.length := by omega
      have HANY := Lib.hid (show ks.any (fun k => (outerS k.data.toList).isNone) = false from by
        rw [List.any_eq_false]
        intro k hk
        obtain ⟨j, hj, rfl⟩ := List.getElem_of_mem hk
        rw [HALL.out j hj hj]
        decide)
      clear HALL hi hlt
      go_wp2_with fail
      go_loopw [9] (fun iv wr => ∃ j : Nat, 1 ≤ j ∧ j ≤ ks.length + 1 ∧ iv = .int .i64 j ∧ (∀ m (hm : m + 1 < ks.length), m + 1 < j → ltS ks[m] ks[m + 1] = true) ∧ Ext w wr) (fun iv _ => ks.length + 1 - (intOf iv).toNat)
      case atStart => exact ⟨1, Nat.le_refl _, by omega, rfl, fun _ _ h => by omega, HX.out⟩
      case round =>
        clear HX
        obtain ⟨j, hj1, hj, rfl, hall, hx⟩ := hrel
        have HALL := Lib.hid hall
        have HX := Lib.hid hx
        clear hall hx
        by_cases hlt : j < ks.length
        · obtain ⟨b, off, rfl, hb, hc⟩ := HC.out (by omega)
          obtain ⟨m, hm⟩ : ∃ m, m = j - 1 := ⟨_, rfl⟩
          have hml : m < ks.length := by omega
          have hc1 := HX.out.cell (hc j hlt)
          have hc2 := HX.out.cell (hc m hml)
          have hjj : (j : Int) - 1 = (m : Int) := by omega
          have hwj : wrap64 ((j : Int) - 1) = (m : Int) := by rw [hjj]; unfold wrap64; omega
          have hwj2 : IntKind.i64.wrap (m : Int) = (m : Int) := IntWalk.i64_in _ (by omega)
          have HNX := Lib.hid (show ltS ks[m] ks[j] = true → ∀ q (hq : q + 1 < ks.length), q + 1 < j + 1 → ltS ks[q] ks[q + 1] = true from fun h q hq hqj => by
            rcases Nat.lt_succ_iff_lt_or_eq.1 hqj with h2 | h2
            · exact HALL.out q hq h2
            · have e1 : q = m := by omega
              subst e1
              subst h2
              exact h)
          have HNO := Lib.hid (show ltS ks[m] ks[j] = false → ¬ UpK ks from fun h hu => by
            have := hu m (by omega)
            simp only [show m + 1 = j from by omega] at this
            rw [this] at h
            cases h)
          have HJL := Lib.hid hlt
          have hwn : wrap64 ((j : Int) + 1) = (j : Int) + 1 := by unfold wrap64; omega
          have hji : (j : Int) < (ks.length : Int) := by omega
          have hmi : (m : Int) < (ks.length : Int) := by omega
          clear hc hm HALL
          generalize ks[m] = x at *
          generalize ks[j] = y at *
          go_wp2_with fail
          obtain ⟨wd, hwd⟩ : ∃ wd, wd = wr.drew := ⟨_, rfl⟩
          have HXd := Lib.hid (show Ext w wd from by rw [hwd]; exact HX.out.trans (Ext.drew wr))
          have hd1 : wd.cell? ⟨b, off + j, none⟩ = some (.string y) := by rw [hwd]; exact hc1
          have hd2 : wd.cell? ⟨b, off + m, none⟩ = some (.string x) := by rw [hwd]; exact hc2
          refine region_walkN (Ext wd) (by rw [← hwd]; exact Ext.refl _) (by kernel_rfl) (by kernel_rfl) (fun _ _ d _ _ h => by cases d <;> exact h) ?_
          rw [← hwd]
          clear hwd hc1 hc2
          have hA := fun W (h : Ext wd W) => h.cell hd1
          have hB := fun W (h : Ext wd W) => h.cell hd2
          clear hd1 hd2
          cases hq : ltS x y with
          | true =>
            have hge : Op.bytesLess x.toList y.toList = true := hq
            have HU := Lib.hid (HNX.out hq)
            ((refine WalkN.take 0 _ ?_ (by simp only [List.getElem?_toArray, List.getElem?_cons_zero]; rfl) (by kernel_rfl) (by kernel_rfl) (by rfl) (fun W hW => ?_) ?_; rotate_left; · (go_simp; try with_reducible rfl)); simp only [Act.put, List.setIfInBounds_toArray, List.set_cons_zero, List.set_cons_succ]); ((refine WalkN.take 1 _ ?_ (by simp only [List.getElem?_toArray, List.getElem?_cons_succ, List.getElem?_cons_zero]; rfl) (by kernel_rfl) (by kernel_rfl) (by rfl) (fun W hW => ?_) ?_; rotate_left; · (go_simp; try with_reducible rfl)); simp only [Act.put, List.setIfInBounds_toArray, List.set_cons_zero, List.set_cons_succ]); ((refine WalkN.take 2 _ ?_ (by simp only [List.getElem?_toArray, List.getElem?_cons_succ, List.getElem?_cons_zero]; rfl) (by kernel_rfl) (by kernel_rfl) (by rfl) (fun W hW => ?_) ?_; rotate_left; · (go_simp; try with_reducible rfl)); simp only [Act.put, List.setIfInBounds_toArray, List.set_cons_zero, List.set_cons_succ]); ((refine WalkN.take 3 _ ?_ (by simp only [List.getElem?_toArray, List.getElem?_cons_succ, List.getElem?_cons_zero]; rfl) (by kernel_rfl) (by kernel_rfl) (by rfl) (fun W hW => ?_) ?_; rotate_left; · (go_simp; try with_reducible rfl)); simp only [Act.put, List.setIfInBounds_toArray, List.set_cons_zero, List.set_cons_succ]); ((refine WalkN.take 4 _ ?_ (by simp only [List.getElem?_toArray, List.getElem?_cons_succ, List.getElem?_cons_zero]; rfl) (by kernel_rfl) (by kernel_rfl) (by rfl) (fun W hW => ?_) ?_; rotate_left; · (go_simp; try with_reducible rfl)); simp only [Act.put, List.setIfInBounds_toArray, List.set_cons_zero, List.set_cons_succ]); ((refine WalkN.take 5 _ ?_ (by simp only [List.getElem?_toArray, List.getElem?_cons_succ, List.getElem?_cons_zero]; rfl) (by kernel_rfl) (by kernel_rfl) (by rfl) (fun W hW => ?_) ?_; rotate_left; · (go_simp; try with_reducible rfl)); simp only [Act.put, List.setIfInBounds_toArray, List.set_cons_zero, List.set_cons_succ]); ((refine WalkN.take 6 _ ?_ (by simp only [List.getElem?_toArray, List.getElem?_cons_succ, List.getElem?_cons_zero]; rfl) (by kernel_rfl) (by kernel_rfl) (by rfl) (fun W hW => ?_) ?_; rotate_left; · (go_simp; try with_reducible rfl)); simp only [Act.put, List.setIfInBounds_toArray, List.set_cons_zero, List.set_cons_succ]); ((refine WalkN.take 7 _ ?_ (by simp only [List.getElem?_toArray, List.getElem?_cons_succ, List.getElem?_cons_zero]; rfl) (by kernel_rfl) (by kernel_rfl) (by rfl) (fun W hW => ?_) ?_; rotate_left; · (go_simp; try with_reducible rfl)); simp only [Act.put, List.setIfInBounds_toArray, List.set_cons_zero, List.set_cons_succ]); ((refine WalkN.take 8 _ ?_ (by simp only [List.getElem?_toArray, List.getElem?_cons_succ, List.getElem?_cons_zero]; rfl) (by kernel_rfl) (by kernel_rfl) (by rfl) (fun W hW => ?_) ?_; rotate_left; · (go_simp; try with_reducible rfl)); simp only [Act.put, List.setIfInBounds_toArray, List.set_cons_zero, List.set_cons_succ]); ((refine WalkN.take 9 _ ?_ (by simp only [List.getElem?_toArray, List.getElem?_cons_succ, List.getElem?_cons_zero]; rfl) (by kernel_rfl) (by kernel_rfl) (by rfl) (fun W hW => ?_) ?_; rotate_left; · (go_simp; try with_reducible rfl)); simp only [Act.put, List.setIfInBounds_toArray, List.set_cons_zero, List.set_cons_succ])
            refine WalkN.done (by kernel_rfl) ?_
            clear hA hB hge hq
            go_wp2_with fail
            exact ⟨⟨j + 1, by omega, by have := HJL.out; omega, by go_num, HU.out, HXd.out⟩, by have := HJL.out; simp [intOf]; omega⟩
          | false =>
            have hge : Op.bytesLess x.toList y.toList = false := hq
            have HU := Lib.hid (HNO.out hq)
            ((refine WalkN.take 0 _ ?_ (by simp only [List.getElem?_toArray, List.getElem?_cons_zero]; rfl) (by kernel_rfl) (by kernel_rfl) (by rfl) (fun W hW => ?_) ?_; rotate_left; · (go_simp; try with_reducible rfl)); simp only [Act.put, List.setIfInBounds_toArray, List.set_cons_zero, List.set_cons_succ]); ((refine WalkN.take 1 _ ?_ (by simp only [List.getElem?_toArray, List.getElem?_cons_succ, List.getElem?_cons_zero]; rfl) (by kernel_rfl) (by kernel_rfl) (by rfl) (fun W hW => ?_) ?_; rotate_left; · (go_simp; try with_reducible rfl)); simp only [Act.put, List.setIfInBounds_toArray, List.set_cons_zero, List.set_cons_succ]); ((refine WalkN.take 2 _ ?_ (by simp only [List.getElem?_toArray, List.getElem?_cons_succ, List.getElem?_cons_zero]; rfl) (by kernel_rfl) (by kernel_rfl) (by rfl) (fun W hW => ?_) ?_; rotate_left; · (go_simp; try with_reducible rfl)); simp only [Act.put, List.setIfInBounds_toArray, List.set_cons_zero, List.set_cons_succ]); ((refine WalkN.take 3 _ ?_ (by simp only [List.getElem?_toArray, List.getElem?_cons_succ, List.getElem?_cons_zero]; rfl) (by kernel_rfl) (by kernel_rfl) (by rfl) (fun W hW => ?_) ?_; rotate_left; · (go_simp; try with_reducible rfl)); simp only [Act.put, List.setIfInBounds_toArray, List.set_cons_zero, List.set_cons_succ]); ((refine WalkN.take 4 _ ?_ (by simp only [List.getElem?_toArray, List.getElem?_cons_succ, List.getElem?_cons_zero]; rfl) (by kernel_rfl) (by kernel_rfl) (by rfl) (fun W hW => ?_) ?_; rotate_left; · (go_simp; try with_reducible rfl)); simp only [Act.put, List.setIfInBounds_toArray, List.set_cons_zero, List.set_cons_succ]); ((refine WalkN.take 5 _ ?_ (by simp only [List.getElem?_toArray, List.getElem?_cons_succ, List.getElem?_cons_zero]; rfl) (by kernel_rfl) (by kernel_rfl) (by rfl) (fun W hW => ?_) ?_; rotate_left; · (go_simp; try with_reducible rfl)); simp only [Act.put, List.setIfInBounds_toArray, List.set_cons_zero, List.set_cons_succ]); ((refine WalkN.take 6 _ ?_ (by simp only [List.getElem?_toArray, List.getElem?_cons_succ, List.getElem?_cons_zero]; rfl) (by kernel_rfl) (by kernel_rfl) (by rfl) (fun W hW => ?_) ?_; rotate_left; · (go_simp; try with_reducible rfl)); simp only [Act.put, List.setIfInBounds_toArray, List.set_cons_zero, List.set_cons_succ]); ((refine WalkN.take 7 _ ?_ (by simp only [List.getElem?_toArray, List.getElem?_cons_succ, List.getElem?_cons_zero]; rfl) (by kernel_rfl) (by kernel_rfl) (by rfl) (fun W hW => ?_) ?_; rotate_left; · (go_simp; try with_reducible rfl)); simp only [Act.put, List.setIfInBounds_toArray, List.set_cons_zero, List.set_cons_succ]); ((refine WalkN.take 8 _ ?_ (by simp only [List.getElem?_toArray, List.getElem?_cons_succ, List.getElem?_cons_zero]; rfl) (by kernel_rfl) (by kernel_rfl) (by rfl) (fun W hW => ?_) ?_; rotate_left; · (go_simp; try with_reducible rfl)); simp only [Act.put, List.setIfInBounds_toArray, List.set_cons_zero, List.set_cons_succ]); ((refine WalkN.take 9 _ ?_ (by simp only [List.getElem?_toArray, List.getElem?_cons_succ, List.getElem?_cons_zero]; rfl) (by kernel_rfl) (by kernel_rfl) (by rfl) (fun W hW => ?_) ?_; rotate_left; · (go_simp; try with_reducible rfl)); simp only [Act.put, List.setIfInBounds_toArray, List.set_cons_zero, List.set_cons_succ])
            refine WalkN.done (by kernel_rfl) ?_
            clear hA hB hge hq
            go_wp2_with fail
            go_ret
            exact ⟨HXd.out, .inr (.inr (.inl ⟨HGD.out, HANY.out, HU.out, rfl⟩))⟩
        · have HU := Lib.hid (show UpK ks from fun q hq => HALL.out q hq (by omega))
          go_wp2_with fail
          go_ret
          exact ⟨HX.out, .inr (.inr (.inr ⟨HGD.out, HANY.out, HU.out, rfl⟩))⟩

end Go.Proofs.YtmmeofiocbfamaaGreatDoor
