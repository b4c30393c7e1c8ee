/- Lemmas for the claim, no condition. -/
import Derived.Test.YtjdigpfipmckhaaYRcOwn0
import Derived.Test.YtjdigpfipmckhaaYRcOwn8
namespace Go.Proofs.Ytjdigpfipmckhaa
open Go Go.RowKit Go.Maps
theorem Blk.set3 {w : World} {B : Nat} {a b c : Value} {e : TypeId} (h : Blk w B #[a, b, c] e) (x0 x1 x2 : Value) : Blk (((w.setCell ⟨B, 0, none⟩ x0).setCell ⟨B, 1, none⟩ x1).setCell ⟨B, 2, none⟩ x2) B #[x0, x1, x2] e := ((h.set_to (cs' := #[x0, b, c]) 0 x0 rfl).set_to (cs' := #[x0, x1, c]) 1 x1 rfl).set_to 2 x2 rfl
theorem isEmpty_ba (b : ByteArray) : b.toList.isEmpty = decide (b = ⟨#[]⟩) := by
  by_cases h : b = ⟨#[]⟩
  · subst h; simp [ByteArray.toList_eq]
  · rw [decide_eq_false h]
    cases hb : b.toList.isEmpty with
    | false => rfl
    | true =>
      refine absurd ?_ h
      rw [List.isEmpty_iff, ByteArray.toList_eq] at hb
      obtain ⟨⟨d⟩⟩ := b
      simp only at hb
      subst hb
      rfl
def usetF (s : P3) : P3 := s
def viaF (b : ByteArray) (s : P3) : P3 := ⟨s.t, s.i, b⟩
set_option maxRecDepth 100000 in
set_option maxHeartbeats 1600000 in
theorem userset_any (s : P3) (w : World) : Calls Try.prog 39 #[pV s] w fun e w' => e = .returned (.tuple #[pV (usetF s), .bool (decide (s.r ≠ ⟨#[]⟩))]) ∧ Ext w w' := by
  obtain ⟨st, si, sr⟩ := s
  have hx1 : Ext w ((w.alloc (.cells #[.string st, .string si, .string sr] 53)).alloc (.cells #[.string ⟨#[]⟩, .string ⟨#[]⟩, .string ⟨#[]⟩] 36)) := (Ext.alloc w _).trans (Ext.alloc _ _)
  have HS1 := Lib.hid ((Blk.made w #[.string st, .string si, .string sr] 53).alloc (.cells #[.string ⟨#[]⟩, .string ⟨#[]⟩, .string ⟨#[]⟩] 36))
  have HP1 := Lib.hid (Blk.made' (w := w.alloc (.cells #[.string st, .string si, .string sr] 53)) (B := w.heap.size + 1) (by simp) #[.string ⟨#[]⟩, .string ⟨#[]⟩, .string ⟨#[]⟩] 36)
  have HX1 := Lib.hid hx1
  clear hx1
  unfold pV usetF
  dsimp only
  go_enter Try.func39, Try.ntmps39
  go_wp2_with fail
  obtain ⟨wd, hwd⟩ : ∃ wd, wd = ((w.alloc (.cells #[.string st, .string si, .string sr] 53)).alloc (.cells #[.string ⟨#[]⟩, .string ⟨#[]⟩, .string ⟨#[]⟩] 36)).drew := ⟨_, rfl⟩
  have HSd := Lib.hid (show Blk wd w.heap.size _ _ from by rw [hwd]; exact HS1.out.drew)
  have HPd := Lib.hid (show Blk wd (w.heap.size + 1) _ _ from by rw [hwd]; exact HP1.out.drew)
  have HXd := Lib.hid (show Ext w wd from by rw [hwd]; exact HX1.out.trans (Ext.drew _))
  refine region_walkN (Kept (· ≠ w.heap.size + 1) wd) (by rw [← hwd]; exact Kept.refl _ _) (by kernel_rfl) (by kernel_rfl) (fun _ _ d _ _ h => by cases d <;> exact h) ?_
  rw [← hwd]
  clear hwd HS1 HP1 HX1
  have h1 := fun W (h : Kept (· ≠ w.heap.size + 1) wd W) => (h.blk HSd.out (by show w.heap.size ≠ w.heap.size + 1; omega)).cells
  ((refine WalkN.take 0 _ ?_ (by simp only [gtA, gtZ]; rfl) (by kernel_rfl) (by kernel_rfl) (by rfl) (fun W hW => ?_) ?_; rotate_left; · (go_simp; try with_reducible rfl)); simp only [Act.put, puA, puZ, puS]); ((refine WalkN.take 1 _ ?_ (by simp only [gtA, gtS, gtZ]; rfl) (by kernel_rfl) (by kernel_rfl) (by rfl) (fun W hW => ?_) ?_; rotate_left; · (go_simp; try with_reducible rfl)); simp only [Act.put, puA, puZ, puS]); ((refine WalkN.take 2 _ ?_ (by simp only [gtA, gtS, gtZ]; rfl) (by kernel_rfl) (by kernel_rfl) (by rfl) (fun W hW => ?_) ?_; rotate_left; · (go_simp; try with_reducible rfl)); simp only [Act.put, puA, puZ, puS]); ((refine WalkN.take 3 _ ?_ (by simp only [gtA, gtS, gtZ]; rfl) (by kernel_rfl) (by kernel_rfl) (by rfl) (fun W hW => ?_) ?_; rotate_left; · (go_simp; try with_reducible rfl)); simp only [Act.put, puA, puZ, puS]); ((refine WalkN.take 4 _ ?_ (by simp only [gtA, gtS, gtZ]; rfl) (by kernel_rfl) (by kernel_rfl) (by rfl) (fun W hW => ?_) ?_; rotate_left; · (go_simp; try with_reducible rfl)); simp only [Act.put, puA, puZ, puS]); ((refine WalkN.take 5 _ ?_ (by simp only [gtA, gtS, gtZ]; rfl) (by kernel_rfl) (by kernel_rfl) (by rfl) (fun W hW => ?_) ?_; rotate_left; · (go_simp; try with_reducible rfl)); simp only [Act.put, puA, puZ, puS]); ((refine WalkN.take 6 _ ?_ (by simp only [gtA, gtS, gtZ]; rfl) (by kernel_rfl) (by kernel_rfl) (by rfl) (fun W hW => ?_) ?_; rotate_left; · (go_simp; try with_reducible rfl)); simp only [Act.put, puA, puZ, puS]); ((refine WalkN.take 7 _ ?_ (by simp only [gtA, gtS, gtZ]; rfl) (by kernel_rfl) (by kernel_rfl) (by rfl) (fun W hW => ?_) ?_; rotate_left; · (go_simp; try with_reducible rfl)); simp only [Act.put, puA, puZ, puS])
  have hbf := HPd.out.cells
  have hbz := HPd.out.free
  refine WalkN.one 8 (by kernel_rfl) ?_
  refine ⟨_, (by simp only [gtA, gtS, gtZ]; rfl), by rfl, fun K hK => ?_⟩
  go_simp
  refine hK.out _ _ ((((Kept.refl _ wd).set (fun h => h rfl) _).set (fun h => h rfl) _).set (fun h => h rfl) _) ?_
  clear hK hbf hbz
  have HPe := Lib.hid (HPd.out.set3 (.string st) (.string si) (.string sr))
  have HXe := Lib.hid (show Below w.heap.size w _ from (((HXd.out : Below _ _ _).setCell (by show w.heap.size ≤ w.heap.size + 1; omega) (.string st) (p := ⟨w.heap.size + 1, 0, none⟩)).setCell (by show w.heap.size ≤ w.heap.size + 1; omega) (.string si) (p := ⟨w.heap.size + 1, 1, none⟩)).setCell (by show w.heap.size ≤ w.heap.size + 1; omega) (.string sr) (p := ⟨w.heap.size + 1, 2, none⟩))
  ((refine WalkN.take 9 _ ?_ (by simp only [gtA, gtS, gtZ]; rfl) (by kernel_rfl) (by kernel_rfl) (by rfl) (fun W hW => ?_) ?_; rotate_left; · (go_simp; try with_reducible rfl)); simp only [Act.put, puA, puZ, puS])
  refine WalkN.done (by kernel_rfl) ?_
  clear h1
  go_wp2_with fail
  refine bodyPost_ret (v := .tuple #[.agg #[.string st, .string si, .string sr], .bool _]) ?_ rfl ⟨rfl, HXe.out⟩
  rw [results_cell_tmp rfl]
  have hl := run_loadVar_row (P := Try.prog) _ (w.heap.size + 1) _ 36 _ _ _ HPe.out Try.underlying36 rfl (by kernel_rfl)
  simp [asAddr, hl, Result.andThen, isEmpty_ba]
set_option maxRecDepth 100000 in
set_option maxHeartbeats 1600000 in
theorem form1_any (rb : Nat) (k : Int) (a b : ByteArray) (pv : Value) (s : P3) (w : World) (hr : Blk w rb #[.int .i64 k, .string a, .string b, pv] 66) : Calls Try.prog 40 #[pV s, .pointer (some ⟨rb, 0, none⟩)] w fun e w' => e = .returned (.tuple #[pV (viaF b s), .bool (decide (s.r = ⟨#[]⟩))]) ∧ Ext w w' := by
  obtain ⟨st, si, sr⟩ := s
  have hx1 : Ext w ((w.alloc (.cells #[.string st, .string si, .string sr] 53)).alloc (.cells #[.string ⟨#[]⟩, .string ⟨#[]⟩, .string ⟨#[]⟩] 36)) := (Ext.alloc w _).trans (Ext.alloc _ _)
  have HS1 := Lib.hid ((Blk.made w #[.string st, .string si, .string sr] 53).alloc (.cells #[.string ⟨#[]⟩, .string ⟨#[]⟩, .string ⟨#[]⟩] 36))
  have HP1 := Lib.hid (Blk.made' (w := w.alloc (.cells #[.string st, .string si, .string sr] 53)) (B := w.heap.size + 1) (by simp) #[.string ⟨#[]⟩, .string ⟨#[]⟩, .string ⟨#[]⟩] 36)
  have HX1 := Lib.hid hx1
  have HR1 := Lib.hid (hr.below hx1)
  have HRL := Lib.hid hr.lt
  clear hx1 hr
  unfold pV viaF
  dsimp only
  go_enter Try.func40, Try.ntmps40
  go_wp2_with fail
  obtain ⟨wd, hwd⟩ : ∃ wd, wd = ((w.alloc (.cells #[.string st, .string si, .string sr] 53)).alloc (.cells #[.string ⟨#[]⟩, .string ⟨#[]⟩, .string ⟨#[]⟩] 36)).drew := ⟨_, rfl⟩
  have HSd := Lib.hid (show Blk wd w.heap.size _ _ from by rw [hwd]; exact HS1.out.drew)
  have HRd := Lib.hid (show Blk wd rb _ _ from by rw [hwd]; exact HR1.out.drew)
  have HPd := Lib.hid (show Blk wd (w.heap.size + 1) _ _ from by rw [hwd]; exact HP1.out.drew)
  have HXd := Lib.hid (show Ext w wd from by rw [hwd]; exact HX1.out.trans (Ext.drew _))
  refine region_walkN (Kept (· ≠ w.heap.size + 1) wd) (by rw [← hwd]; exact Kept.refl _ _) (by kernel_rfl) (by kernel_rfl) (fun _ _ d _ _ h => by cases d <;> exact h) ?_
  rw [← hwd]
  clear hwd HS1 HP1 HX1 HR1
  have h1 := fun W (h : Kept (· ≠ w.heap.size + 1) wd W) => (h.blk HSd.out (by show w.heap.size ≠ w.heap.size + 1; omega)).cells
  have h2 := fun W (h : Kept (· ≠ w.heap.size + 1) wd W) => (h.blk HRd.out (by show rb ≠ w.heap.size + 1; have := HRL.out; omega)).cells
  ((refine WalkN.take 0 _ ?_ (by simp only [gtA, gtZ]; rfl) (by kernel_rfl) (by kernel_rfl) (by rfl) (fun W hW => ?_) ?_; rotate_left; · (go_simp; try with_reducible rfl)); simp only [Act.put, puA, puZ, puS]); ((refine WalkN.take 1 _ ?_ (by simp only [gtA, gtS, gtZ]; rfl) (by kernel_rfl) (by kernel_rfl) (by rfl) (fun W hW => ?_) ?_; rotate_left; · (go_simp; try with_reducible rfl)); simp only [Act.put, puA, puZ, puS]); ((refine WalkN.take 2 _ ?_ (by simp only [gtA, gtS, gtZ]; rfl) (by kernel_rfl) (by kernel_rfl) (by rfl) (fun W hW => ?_) ?_; rotate_left; · (go_simp; try with_reducible rfl)); simp only [Act.put, puA, puZ, puS]); ((refine WalkN.take 3 _ ?_ (by simp only [gtA, gtS, gtZ]; rfl) (by kernel_rfl) (by kernel_rfl) (by rfl) (fun W hW => ?_) ?_; rotate_left; · (go_simp; try with_reducible rfl)); simp only [Act.put, puA, puZ, puS]); ((refine WalkN.take 4 _ ?_ (by simp only [gtA, gtS, gtZ]; rfl) (by kernel_rfl) (by kernel_rfl) (by rfl) (fun W hW => ?_) ?_; rotate_left; · (go_simp; try with_reducible rfl)); simp only [Act.put, puA, puZ, puS]); ((refine WalkN.take 5 _ ?_ (by simp only [gtA, gtS, gtZ]; rfl) (by kernel_rfl) (by kernel_rfl) (by rfl) (fun W hW => ?_) ?_; rotate_left; · (go_simp; try with_reducible rfl)); simp only [Act.put, puA, puZ, puS]); ((refine WalkN.take 6 _ ?_ (by simp only [gtA, gtS, gtZ]; rfl) (by kernel_rfl) (by kernel_rfl) (by rfl) (fun W hW => ?_) ?_; rotate_left; · (go_simp; try with_reducible rfl)); simp only [Act.put, puA, puZ, puS]); ((refine WalkN.take 7 _ ?_ (by simp only [gtA, gtS, gtZ]; rfl) (by kernel_rfl) (by kernel_rfl) (by rfl) (fun W hW => ?_) ?_; rotate_left; · (go_simp; try with_reducible rfl)); simp only [Act.put, puA, puZ, puS])
  have hbf := HPd.out.cells
  have hbz := HPd.out.free
  refine WalkN.one 8 (by kernel_rfl) ?_
  refine ⟨_, (by simp only [gtA, gtS, gtZ]; rfl), by rfl, fun K hK => ?_⟩
  go_simp
  refine hK.out _ _ ((((Kept.refl _ wd).set (fun h => h rfl) _).set (fun h => h rfl) _).set (fun h => h rfl) _) ?_
  clear hK hbf hbz
  have HPe := Lib.hid (HPd.out.set3 (.string st) (.string si) (.string b))
  have HXe := Lib.hid (show Below w.heap.size w _ from (((HXd.out : Below _ _ _).setCell (by show w.heap.size ≤ w.heap.size + 1; omega) (.string st) (p := ⟨w.heap.size + 1, 0, none⟩)).setCell (by show w.heap.size ≤ w.heap.size + 1; omega) (.string si) (p := ⟨w.heap.size + 1, 1, none⟩)).setCell (by show w.heap.size ≤ w.heap.size + 1; omega) (.string b) (p := ⟨w.heap.size + 1, 2, none⟩))
  ((refine WalkN.take 9 _ ?_ (by simp only [gtA, gtS, gtZ]; rfl) (by kernel_rfl) (by kernel_rfl) (by rfl) (fun W hW => ?_) ?_; rotate_left; · (go_simp; try with_reducible rfl)); simp only [Act.put, puA, puZ, puS])
  refine WalkN.done (by kernel_rfl) ?_
  clear h1 h2
  go_wp2_with fail
  refine bodyPost_ret (v := .tuple #[.agg #[.string st, .string si, .string b], .bool _]) ?_ rfl ⟨rfl, HXe.out⟩
  rw [results_cell_tmp rfl]
  have hl := run_loadVar_row (P := Try.prog) _ (w.heap.size + 1) _ 36 _ _ _ HPe.out Try.underlying36 rfl (by kernel_rfl)
  simp [asAddr, hl, Result.andThen, isEmpty_ba]
end Go.Proofs.Ytjdigpfipmckhaa
namespace Go.Proofs.Ytjdigpfipmckhaa
open Go Go.RowKit Go.Maps
def selF (ok : P3 → Bool) (f : P3 → P3) (l : List P3) : List P3 := (l.filter ok).map f
theorem setsOf_sel (l : List P3) : setsOf l = selF (fun s => decide (s.r ≠ ⟨#[]⟩)) usetF l := by
  unfold setsOf selF
  rw [show (usetF : P3 → P3) = id from rfl, List.map_id]
theorem viaOf_sel (b : ByteArray) (l : List P3) : viaOf b l = selF (fun s => decide (s.r = ⟨#[]⟩)) (viaF b) l := rfl
theorem selF_yes {ok : P3 → Bool} {f : P3 → P3} {l : List P3} {i : Nat} (hi : i < l.length) (h : ok l[i] = true) : selF ok f (l.take (i + 1)) = selF ok f (l.take i) ++ [f l[i]] := by
  unfold selF
  rw [List.take_succ_eq_append_getElem hi, List.filter_append, List.map_append]
  simp [h]
theorem selF_no {ok : P3 → Bool} {f : P3 → P3} {l : List P3} {i : Nat} (hi : i < l.length) (h : ok l[i] = false) : selF ok f (l.take (i + 1)) = selF ok f (l.take i) := by
  unfold selF
  rw [List.take_succ_eq_append_getElem hi, List.filter_append]
  simp [h]
theorem selF_len (ok : P3 → Bool) (f : P3 → P3) (l : List P3) : (selF ok f l).length ≤ l.length := by
  unfold selF
  rw [List.length_map]
  exact List.length_filter_le _ _
theorem putP_len (ps : List P3) (p : P3) : (putP ps p).length ≤ ps.length + 1 := by
  unfold putP
  split
  · omega
  · simp
theorem refsD_len2 : ∀ (l ps : List P3) (out : List Int), (refsD ps out l).2.length ≤ ps.length + l.length
  | [], ps, _ => by simp [refsD]
  | p :: l, ps, out => by
    rw [refsD]
    have h1 := refsD_len2 l (putP ps p) (if (numD ps p : Int) ∈ out then out else out ++ [(numD ps p : Int)])
    have h2 := putP_len ps p
    rw [List.length_cons]
    omega
theorem refsD_len1 : ∀ (l ps : List P3) (out : List Int), (refsD ps out l).1.length ≤ out.length + l.length
  | [], ps, _ => by simp [refsD]
  | p :: l, ps, out => by
    rw [refsD]
    have h1 := refsD_len1 l (putP ps p) (if (numD ps p : Int) ∈ out then out else out ++ [(numD ps p : Int)])
    have h2 : (if (numD ps p : Int) ∈ out then out else out ++ [(numD ps p : Int)]).length ≤ out.length + 1 := by
      split
      · omega
      · simp
    rw [List.length_cons]
    omega
set_option maxRecDepth 100000 in
set_option maxHeartbeats 3000000 in
theorem refs_any (wp am B : Nat) (tv fi sm pv fv : Value) (ps : List P3) (S : Nat → Prop) (lv : Value) (l : List P3) (g : Nat) (cap : Array Value) (eg : ∀ args W, (callFunc g args).run Try.prog W = .ok (.enter g args) W) (f : P3 → P3) (ok : P3 → Bool) (w : World) (h : WkAt w wp am B tv fi sm ps pv fv) (hB : B ≤ wp ∧ B ≤ am)
    (hl : Sl S w 3 lv (pcs l)) (hS : ∀ b, S b → KX wp am w pv b) (hok : ∀ s ∈ l, (f s).Ok) (hf : ∀ s ∈ l, ∀ W, Kept (KX wp am w pv) w W → Calls Try.prog g (#[pV s] ++ cap) W fun e W' => e = .returned (.tuple #[pV (f s), .bool (ok s)]) ∧ Ext W W') (hn : ps.length + l.length ≤ 1073741824) :
    Calls Try.prog 38 #[.pointer (some ⟨wp, 0, none⟩), lv, .func (.func g) #[] cap] w fun e w' => ∃ v pv', e = .returned v ∧ Own w' w.heap.size 3 1 v (ic (refsD ps [] (selF ok f l)).1) ∧ WkAt w' wp am B tv fi sm (refsD ps [] (selF ok f l)).2 pv' fv ∧ Fine wp am w w' pv pv' := by
  have HBB := Lib.hid hB
  have HB0 := Lib.hid (show B ≤ w.heap.size from by have := h.box.lt; omega)
  have HOK := Lib.hid hok
  have HF := Lib.hid hf
  have HN := Lib.hid hn
  have HSL := Lib.hid hl
  have HS := Lib.hid hS
  have HW := Lib.hid h
  obtain ⟨ao, c, rfl, hlc, hcm, -⟩ := Sl.rows pC_length (by decide) (show Sl S w 3 lv (l.flatMap pC) from hl)
  clear hB hok hf hn hl hS h
  go_enter Try.func38, Try.ntmps38
  go_wp2_with fail
  go_loopw [7, 15] (fun ov iv wr => ∃ (i : Nat) (pv' : Value), i ≤ l.length ∧ iv = .int .i64 i ∧ Own wr w.heap.size 3 1 ov (ic (refsD ps [] (selF ok f (l.take i))).1) ∧ WkAt wr wp am B tv fi sm (refsD ps [] (selF ok f (l.take i))).2 pv' fv ∧ Fine wp am w wr pv pv') (fun _ iv _ => l.length - (intOf iv).toNat)
  case atStart => exact ⟨0, pv, Nat.zero_le _, rfl, Own.nil _ _ _ _, HW.out, Fine.of _ _ _ (Ext.refl _)⟩
  case round =>
    obtain ⟨i, pv', hi, rfl, hown, hwk, hpk⟩ := hrel
    have HOWN := Lib.hid hown
    have HWK := Lib.hid hwk
    have HPK := Lib.hid hpk
    clear hown hwk hpk
    by_cases hlt : i < l.length
    · obtain ⟨ao', c', he', -, -, hcell⟩ := Sl.rows pC_length (by decide) (show Sl S wr 3 (.slice ao l.length c) (l.flatMap pC) from HSL.out.same fun b hb => HPK.out.kept.block b (HS.out b hb))
      cases he'
      obtain ⟨b, off, rfl, -, hcell⟩ := hcell (by omega)
      have hck := hcell i hlt
      clear hcell
      have HYES := Lib.hid (selF_yes (ok := ok) (f := f) hlt)
      have HNO := Lib.hid (selF_no (ok := ok) (f := f) hlt)
      have HFS := Lib.hid (HF.out l[i] (List.getElem_mem hlt))
      have HOKS := Lib.hid (HOK.out l[i] (List.getElem_mem hlt))
      have HTK := Lib.hid (show (selF ok f (l.take i)).length ≤ i from Nat.le_trans (selF_len _ _ _) (by rw [List.length_take]; omega))
      have HL2 := Lib.hid (refsD_len2 (selF ok f (l.take i)) ps [])
      have HL1 := Lib.hid (refsD_len1 (selF ok f (l.take i)) ps [])
      have HSN := Lib.hid (fun p => refsD_snoc (selF ok f (l.take i)) ps [] p)
      generalize selF ok f (l.take i) = sl at *
      have HLT := Lib.hid hlt
      generalize l[i] = s at *
      generalize hq : f s = q at *
      generalize hr : refsD ps [] sl = r at *
      obtain ⟨ro, rp⟩ := r
      dsimp only at HOWN HWK HL1 HL2 HSN
      obtain ⟨st, si, sr⟩ := s
      obtain ⟨qt, qi, qr⟩ := q
      have c0 : wr.cell? ⟨b, off + i * 3, none⟩ = some (.string st) := hck 0 _ rfl
      have c1 := hck 1 _ rfl
      have c2 := hck 2 _ rfl
      have HRD := Lib.hid hr
      clear hck hr hq
      have hx1 := Ext.alloc wr (.cells #[.string st, .string si, .string sr] 53)
      have HX1 := Lib.hid hx1
      have HCF := Lib.hid (HFS.out _ (HPK.out.trans (Fine.of _ _ _ hx1)).kept)
      clear hx1 HFS
      unfold pV at HCF
      dsimp only at HCF
      cases hokq : ok ⟨st, si, sr⟩ with
      | false =>
        rw [hokq] at HCF HNO HYES
        have HNO2 := Lib.hid (HNO.out rfl)
        clear HYES HNO hokq
        go_wp2_with fail
        refine HCF.out.mono ?_
        rintro e w2 ⟨rfl, hx2⟩
        have HX2 := Lib.hid (show Ext wr w2 from HX1.out.trans hx2)
        have HX3 := Lib.hid (Ext.alloc w2 (.cells #[.string qt, .string qi, .string qr] 36))
        clear HCF hx2 c0 c1 c2
        go_wp2_with fail
        go_roundw
        case rel => exact ⟨i + 1, pv', HLT.out, by go_num, by rw [HNO2.out, HRD.out]; exact HOWN.out.below (HX2.out.trans HX3.out), by rw [HNO2.out, HRD.out]; exact HWK.out.ext (HX2.out.trans HX3.out), HPK.out.trans (Fine.of _ _ _ (HX2.out.trans HX3.out))⟩
        case measure => have := HLT.out; simp [intOf]; omega
      | true =>
        rw [hokq] at HCF HNO HYES
        have HYE2 := Lib.hid (HYES.out rfl)
        clear HYES HNO hokq
        go_wp2_with fail
        refine HCF.out.mono ?_
        rintro e w2 ⟨rfl, hx2⟩
        have HX2 := Lib.hid (show Ext wr w2 from HX1.out.trans hx2)
        have HX3 := Lib.hid (Ext.alloc w2 (.cells #[.string qt, .string qi, .string qr] 36))
        have HP3 := Lib.hid (Blk.made w2 #[.string qt, .string qi, .string qr] 36)
        obtain ⟨w3, hw3⟩ : ∃ w3, w3 = w2.alloc (.cells #[.string qt, .string qi, .string qr] 36) := ⟨_, rfl⟩
        have HNB := Lib.hid (number_any wp am B tv fi sm pv' fv rp ⟨qt, qi, qr⟩ w3 HOKS.out (by rw [hw3]; exact HWK.out.ext (HX2.out.trans HX3.out)) HBB.out (by have := HL2.out; have := HTK.out; have := HN.out; have := HLT.out; omega))
        have HO3 := Lib.hid (show Own w3 w.heap.size 3 1 u7 (ic ro) from by rw [hw3]; exact HOWN.out.below (HX2.out.trans HX3.out))
        have HNM3 := Lib.hid (show WkAt w3 wp am B tv fi sm rp pv' fv from by rw [hw3]; exact HWK.out.ext (HX2.out.trans HX3.out))
        have HPK3 := Lib.hid (show Fine wp am w w3 pv pv' from by rw [hw3]; exact HPK.out.trans (Fine.of _ _ _ (HX2.out.trans HX3.out)))
        subst hw3
        clear HCF hx2 c0 c1 c2
        unfold pV at HNB
        dsimp only at HNB
        go_wp2_with fail
        refine HNB.out.mono ?_
        rintro e w4 ⟨pv4, rfl, hwk4, hpk4⟩
        have HWK4 := Lib.hid hwk4
        have HO4 := Lib.hid (hpk4.row HNM3.out HO3.out (by decide) (by decide))
        have HPK4 := Lib.hid (HPK3.out.trans hpk4)
        have HCI := Lib.hid (containsI_any u7 ro (numD rp ⟨qt, qi, qr⟩ : Nat) w4 HO4.out.sl)
        have HSNQ := Lib.hid (HSN.out ⟨qt, qi, qr⟩)
        clear HNB hwk4 hpk4 HO3 HNM3 HPK3 HX2 HX3 HP3
        generalize numD rp ⟨qt, qi, qr⟩ = nu at *
        obtain ⟨ao2, n2, c2, rfl, hn2, -, -⟩ := HO4.out.sl.len
        by_cases hm : (nu : Int) ∈ ro
        · rw [if_pos hm] at HSNQ
          rw [decide_eq_true hm] at HCI
          clear hm
          go_wp2_with fail
          refine HCI.out.mono ?_
          rintro e w5 ⟨rfl, rfl⟩
          go_wp2_with fail
          go_roundw
          case rel => exact ⟨i + 1, pv4, HLT.out, by go_num, by rw [HYE2.out, HSNQ.out]; exact HO4.out, by rw [HYE2.out, HSNQ.out]; exact HWK4.out, HPK4.out⟩
          case measure => have := HLT.out; simp [intOf]; omega
        · rw [if_neg hm] at HSNQ
          rw [decide_eq_false hm] at HCI
          clear hm
          go_wp2_with fail
          refine HCI.out.mono ?_
          rintro e w5 ⟨rfl, rfl⟩
          have HX5 := Lib.hid (Ext.alloc w5 (.cells #[.int .i64 nu] 3))
          clear HCI
          go_wp2_with (at_builtin; go_must (refine wpList_ownw intsT rfl (.tmp 34) (.tmp 36) rfl rfl (HO4.out.below HX5.out) rfl (m := 1) (news := [.int .i64 nu]) rfl (by intro j u hu; rw [Addr.add_lit, cell_of_row _ w5.heap.size (0 + j) #[.int .i64 nu] 3 (0, 0) (heap_alloc_new w5 _)]; simpa using hu) (by simp [Value.oneCell']) (by have := HL1.out; have := HTK.out; have := HN.out; have := HLT.out; rw [ic_length]; simp at *; omega) (by have := HL1.out; have := HTK.out; have := HN.out; have := HLT.out; rw [ic_length]; simp at *; omega) (by have := HPK4.out.size; have := HX5.out.size; omega) ?_; intro v6 w6 hown6 hb6 hg6; have HO6 := Lib.hid (show Own w6 w.heap.size 3 1 v6 (ic (ro ++ [(nu : Int)])) from by rw [ic_append]; exact hown6); have HWK6 := Lib.hid ((HWK4.out.ext HX5.out).grown (HO4.out.below HX5.out) (by decide) (by decide) hg6); have HPK6 := Lib.hid ((HPK4.out.trans (Fine.of _ _ _ HX5.out)).own (HO4.out.below HX5.out) hg6); clear hown6 hb6 hg6))
          go_roundw
          case rel => exact ⟨i + 1, pv4, HLT.out, by go_num, by rw [HYE2.out, HSNQ.out]; exact HO6.out, by rw [HYE2.out, HSNQ.out]; exact HWK6.out, HPK6.out⟩
          case measure => have := HLT.out; simp [intOf]; omega
    · obtain rfl : i = l.length := by omega
      have HTA := Lib.hid (show l.take l.length = l from List.take_length)
      rw [HTA.out] at HOWN HWK
      obtain ⟨ao2, n2, c2, rfl, -, -, -⟩ := HOWN.out.sl.len
      go_wp2_with fail
      go_ret
      exact ⟨_, pv', rfl, HOWN.out, HWK.out, HPK.out⟩
end Go.Proofs.Ytjdigpfipmckhaa
