/- table's Seek and All. table's Seek. What bytes are as a table. table's Open. No condition: lemmas. -/
import Derived.Test.YtmmeofiocbfamaaGreatDoorZ25
import Derived.Test.YtmmeofiocbfamaaGreatDoorZ24
namespace Go.Proofs.YtmmeofiocbfamaaGreatDoor
open Go Go.RowKit

theorem keysF_len : ∀ (f : Nat) (bs last : List UInt8) (ks : List (List UInt8)), keysF f bs last = some ks → ks.length ≤ bs.length
  | 0, bs, last, ks, h => by
    rw [keysF] at h
    split at h
    · cases h; exact Nat.zero_le _
    · cases h
  | f + 1, bs, last, ks, h => by
    rw [keysF] at h
    split at h
    · cases h; exact Nat.zero_le _
    · cases hn : nextD bs last with
      | none => rw [hn] at h; cases h
      | some r =>
        obtain ⟨k, m⟩ := r
        rw [hn] at h
        dsimp only at h
        obtain ⟨m1, m2, -⟩ := nextD_facts hn
        cases hf : keysF f (bs.drop m) k with
        | none => rw [hf] at h; cases h
        | some l =>
          rw [hf] at h
          cases h
          have := keysF_len f _ _ _ hf
          rw [List.length_drop] at this
          rw [List.length_cons]
          omega
theorem KeysOf.len {bs : List UInt8} {ks : List ByteArray} (h : KeysOf bs ks) : ks.length ≤ bs.length := by
  obtain ⟨kb, pb, h1, h2, -, -⟩ := h
  have h3 := keysF_len _ _ _ _ h2
  have h4 := openB_len h1
  have h5 : (dl ks).length = ks.length := List.length_map _
  omega
theorem BlkOf.len {t : Tb} {i : Int} {ks : List ByteArray} (h : BlkOf t i ks) (ok : TbOk t) : ks.length ≤ 60000 := by
  obtain ⟨j, hj, -, p, h1, h2, -⟩ := h
  have h3 := h2.len
  have h4 := partB_len t.b (t.idx[j].at_ : Int) ((t.idx[j].at_ + t.idx[j].size : Nat) : Int)
  rw [h1] at h4
  have := ok.len
  dsimp only at h4
  omega
theorem BlkOf.upK {t : Tb} {i : Int} {ks : List ByteArray} (h : BlkOf t i ks) : UpK ks := by
  obtain ⟨j, hj, -, p, h1, ⟨_, _, _, _, h2, _⟩, -⟩ := h
  exact h2

/-- What All answers. -/
def RetAll (t : Tb) (w : World) (e : Ending) (w' : World) : Prop := Ext w w' ∧
  ((∃ (bs : List (List ByteArray)) (v : Value), bs.length = t.idx.length ∧ (∀ j (hj : j < bs.length), BlkOf t j bs[j]) ∧ e = .returned (.tuple #[v, .int .i64 0]) ∧ Own w' w.heap.size 9 1 v (sc bs.flatten)) ∨
   ((∃ j : Nat, j < t.idx.length ∧ ∀ ks, ¬ BlkOf t j ks) ∧ ∃ er : Nat, er ≠ 0 ∧ e = .returned (.tuple #[.slice none 0 0, .int .i64 er])))

set_option maxRecDepth 100000 in
set_option maxHeartbeats 600000 in
theorem all_any (tb : Nat) (t : Tb) (w : World) (h : TbAt w tb t) (ok : TbOk t) :
    Calls Tryz.prog 20 #[.pointer (some ⟨tb, 0, none⟩)] w (RetAll t w) := by
  have HT := Lib.hid h
  have HOK := Lib.hid ok
  have HB := Lib.hid (blocks_any tb t w h)
  have hil := ok.ilen
  clear h ok
  go_enter Tryz.func20, Tryz.ntmps20
  go_wp2_with fail
  refine HB.out.mono ?_
  rintro e w1 ⟨rfl, rfl⟩
  go_wp2_with fail
  go_loopw [4, 15] (fun ov iv wr => ∃ (i : Nat) (bs : List (List ByteArray)), i ≤ t.idx.length ∧ iv = .int .i64 i ∧ bs.length = i ∧ (∀ j (hj : j < bs.length), BlkOf t j bs[j]) ∧ bs.flatten.length ≤ i * 60000 ∧ Own wr w1.heap.size 9 1 ov (sc bs.flatten) ∧ Ext w1 wr) (fun _ iv _ => t.idx.length - (intOf iv).toNat)
  case atStart => exact ⟨0, [], Nat.zero_le _, rfl, rfl, (fun j hj => absurd hj (Nat.not_lt_zero _)), Nat.le_refl _, Own.nil _ _ _ _, Ext.refl _⟩
  case round =>
    obtain ⟨i, bs, hi, rfl, hbl, hbs, hfl, ho, hx⟩ := hrel
    have HBL := Lib.hid hbl
    have HBS := Lib.hid hbs
    have HFL := Lib.hid hfl
    have HO := Lib.hid ho
    have HX := Lib.hid hx
    obtain ⟨oo, on, oc, rfl, -, -, -⟩ := ho.sl.len
    clear hbl hbs hfl ho hx
    by_cases hlt : i < t.idx.length
    · have HBK := Lib.hid (block_any tb t i wr (HT.out.up HX.out) HOK.out)
      go_wp2_with fail
      refine HBK.out.mono ?_
      clear HBK
      rintro e w2 ⟨hx2, ⟨ks, v, hk, rfl, hs⟩ | ⟨hk, er, her, -, rfl⟩⟩
      · have HX2 := Lib.hid (HX.out.trans hx2)
        have HK := Lib.hid hk
        have HS := Lib.hid hs
        have HO2 := Lib.hid (HO.out.below hx2)
        have HKL := Lib.hid (hk.len HOK.out)
        have HZ := Lib.hid (show w1.heap.size ≤ w2.heap.size from Nat.le_trans HX.out.size hx2.size)
        obtain ⟨ko, kc, rfl, -, -, -, -⟩ := Sl.strs0 hs
        clear hx2 hk hs
        go_wp2_with (at_builtin; go_must (refine wpList_own strsT rfl (.tmp 27) (.tmp 28) rfl rfl HO2.out rfl HS.out (sc_one2 _) (by have := HFL.out; have := HKL.out; rw [sc_len2, sc_len2]; omega) (by have := HFL.out; have := HKL.out; rw [sc_len2, sc_len2]; omega) HZ.out ?_; intro v5 w5 hown5 hb5 hgr5; have HO5 := Lib.hid (show Own w5 w1.heap.size 9 1 v5 (sc (bs ++ [ks]).flatten) from by rw [List.flatten_append, List.flatten_cons, List.flatten_nil, List.append_nil]; unfold sc at hown5 ⊢; rw [List.map_append]; exact hown5); have HX5 := Lib.hid (show Ext w1 w5 from Below.trans HX2.out hb5); obtain ⟨oo5, on5, oc5, rfl, -, -, -⟩ := hown5.sl.len; clear hown5 hb5 hgr5))
        go_roundw
        case rel => exact ⟨i + 1, bs ++ [ks], by omega, by go_num, by rw [List.length_append, HBL.out]; rfl, (fun j hj => by
          by_cases hji : j < bs.length
          · rw [List.getElem_append_left hji]; exact HBS.out j hji
          · obtain rfl : j = i := by rw [List.length_append, HBL.out] at hj; simp at hj; have := HBL.out; omega
            have := HBL.out
            subst this
            simp only [List.getElem_concat_length]
            exact HK.out), by rw [List.flatten_append, List.length_append, List.flatten_cons, List.flatten_nil, List.append_nil]; have := HFL.out; have := HKL.out; omega, HO5.out, HX5.out⟩
        case measure => simp [intOf]; omega
      · have HX2 := Lib.hid (HX.out.trans hx2)
        have HK := Lib.hid hk
        have HER := Lib.hid her
        have hei : ¬ ((er : Int) = 0) := by omega
        clear hx2 hk her
        go_wp2_with fail
        go_ret2
        exact ⟨HX2.out, .inr ⟨⟨i, hlt, HK.out⟩, er, HER.out, rfl⟩⟩
    · obtain rfl : i = t.idx.length := by omega
      go_wp2_with fail
      go_ret2
      exact ⟨HX.out, .inl ⟨bs, _, HBL.out, HBS.out, rfl, HO.out⟩⟩

set_option maxRecDepth 100000 in
theorem all_nil (w : World) : Calls Tryz.prog 20 #[.pointer none] w fun e w' => e = .returned (.tuple #[.slice none 0 0, .int .i64 1]) ∧ w' = w := by
  go_enter Tryz.func20, Tryz.ntmps20
  go_wp2_with fail
  go_ret2
  exact ⟨rfl, rfl⟩

end Go.Proofs.YtmmeofiocbfamaaGreatDoor
namespace Go.Proofs.YtmmeofiocbfamaaGreatDoor
open Go Go.RowKit

/-- A key, or none. -/
def seekR (o : Option ByteArray) : Ending := .returned (.tuple #[.string (o.getD ⟨#[]⟩), .bool o.isSome, .int .i64 0])
/-- What Seek answers. -/
def RetSeek (t : Tb) (key : ByteArray) (w : World) (e : Ending) (w' : World) : Prop := Ext w w' ∧ ∃ i : Nat, Splits (t.idx.map (·.first)) key i ∧
  ((∃ er : Nat, 0 < i ∧ er ≠ 0 ∧ (∀ ks, ¬ BlkOf t ((i - 1 : Nat) : Int) ks) ∧ e = .returned (.tuple #[.string ⟨#[]⟩, .bool false, .int .i64 er])) ∨
   (i = 0 ∧ e = seekR (t.idx[i]?.map (·.first))) ∨
   (∃ ks, 0 < i ∧ BlkOf t ((i - 1 : Nat) : Int) ks ∧ e = seekR ((seekL ks key).or (t.idx[i]?.map (·.first)))))

set_option maxRecDepth 100000 in
theorem seek_nil (w : World) (k : ByteArray) : Calls Tryz.prog 15 #[.pointer none, .string k] w fun e w' => e = .returned (.tuple #[.string ⟨#[]⟩, .bool false, .int .i64 1]) ∧ w' = w := by
  go_enter Tryz.func15, Tryz.ntmps15
  go_wp2_with fail
  go_ret3
  exact ⟨rfl, rfl⟩

set_option maxRecDepth 100000 in
set_option maxHeartbeats 600000 in
theorem seekT_any (tb : Nat) (t : Tb) (key : ByteArray) (w : World) (h : TbAt w tb t) (ok : TbOk t) :
    Calls Tryz.prog 15 #[.pointer (some ⟨tb, 0, none⟩), .string key] w (RetSeek t key w) := by
  have HT := Lib.hid h
  have HOK := Lib.hid ok
  obtain ⟨xv, bv, fv, hb, hx, -, -⟩ := h
  have HBS := Lib.hid (bsearchP_any xv t.idx key w hx (by have := ok.ilen; omega) ok.up)
  have HBK := Lib.hid hb
  have HXV := Lib.hid hx
  obtain ⟨xo, xc, rfl, -, -, hrow⟩ := hx.plcs
  have HROW := Lib.hid hrow
  have hcells := hb.cells
  have hil := ok.ilen
  clear hx hrow ok hb
  go_enter Tryz.func15, Tryz.ntmps15
  go_wp2_with fail
  refine HBS.out.mono ?_
  clear HBS
  rintro e w1 ⟨i, bw, rfl, hsp, hx1⟩
  have HSP := Lib.hid hsp
  have HX1 := Lib.hid hx1
  have hii : i ≤ t.idx.length := by have := hsp.1; rwa [List.length_map] at this
  have HB1 := Lib.hid (HBK.out.below hx1)
  clear hsp hx1 hcells
  have hcells := HB1.out.cells
  have HFI := Lib.hid (fun (hlt : i < t.idx.length) => show ∃ b off, xo = some ⟨b, off, none⟩ ∧ b < w.heap.size ∧ w.cell? ⟨b, off + i * 3, none⟩ = some (.string t.idx[i].first) from by obtain ⟨b, off, h1, h2, h3, -⟩ := HROW.out i hlt; exact ⟨b, off, h1, h2, h3⟩)
  by_cases hi0 : i = 0
  · subst hi0
    by_cases hlt : 0 < t.idx.length
    · obtain ⟨b, off, rfl, -, c0⟩ := HFI.out hlt
      have d0 := HX1.out.cell (a := ⟨b, off + 0 * 3, none⟩) c0
      rw [Nat.zero_mul, Nat.add_zero] at d0
      have HQ := Lib.hid (show t.idx[0]?.map (·.first) = some t.idx[0].first from by rw [List.getElem?_eq_getElem hlt]; rfl)
      generalize t.idx[0].first = pf at *
      have hne : ((0 : Int) == (t.idx.length : Int)) = false := by simp; omega
      have hne2 : ¬ ((0 : Int) = (t.idx.length : Int)) := by omega
      have hlt2 : (0 : Int) < (t.idx.length : Int) := by omega
      clear c0 HFI
      go_wp2_with fail
      go_ret3
      exact ⟨HX1.out, 0, HSP.out, .inr (.inl ⟨rfl, by rw [HQ.out]; rfl⟩)⟩
    · have h0 : t.idx.length = 0 := by omega
      have HQ := Lib.hid (show t.idx[0]?.map (·.first) = none from by rw [List.getElem?_eq_none (by omega)]; rfl)
      have HL0 := Lib.hid h0
      have heq : ((0 : Int) = (t.idx.length : Int)) := by omega
      have heq2 : ((0 : Int) == (t.idx.length : Int)) = true := by rw [h0]; rfl
      clear HFI h0
      rw [HL0.out] at hcells
      go_wp2_with fail
      go_ret3
      exact ⟨HX1.out, 0, HSP.out, .inr (.inl ⟨rfl, by rw [HQ.out]; rfl⟩)⟩
  obtain ⟨m, rfl⟩ : ∃ m, i = m + 1 := ⟨i - 1, by omega⟩
  clear hi0
  have HBK2 := Lib.hid (block_any tb t (m : Int) w1 (HT.out.up HX1.out) HOK.out)
  have hmi : ((m + 1 : Nat) : Int) - 1 = (m : Int) := by omega
  have hmp : (0 : Int) < ((m + 1 : Nat) : Int) := by omega
  go_wp2_with fail
  refine HBK2.out.mono ?_
  clear HBK2 hmi hmp hcells
  rintro e w2 ⟨hx2, ⟨ks, v, hk, rfl, hs⟩ | ⟨hk, er, her, -, rfl⟩⟩
  rotate_left
  · have HX2 := Lib.hid (HX1.out.trans hx2)
    have HK := Lib.hid hk
    have HER := Lib.hid her
    have hei : ¬ ((er : Int) = 0) := by omega
    clear hx2 hk her
    go_wp2_with fail
    go_ret3
    exact ⟨HX2.out, m + 1, HSP.out, .inl ⟨er, by omega, HER.out, HK.out, rfl⟩⟩
  have HX2 := Lib.hid (HX1.out.trans hx2)
  have HK := Lib.hid hk
  have HB2 := Lib.hid (HB1.out.below hx2)
  have hcells := HB2.out.cells
  have HKL := Lib.hid (hk.len HOK.out)
  have HUP := Lib.hid hk.upK.up
  have HBB := Lib.hid (bsearchS_any v ks key w2 _ hs (by have := HKL.out; omega) HUP.out)
  obtain ⟨ko, kc, rfl, -, -, -, hkc⟩ := Sl.strs0 hs
  have HKC := Lib.hid hkc
  clear hx2 hk hs hkc HX1 HB1 HB2
  go_wp2_with fail
  refine HBB.out.mono ?_
  clear HBB
  rintro e w3 ⟨j, bb, rfl, hsj, rfl⟩
  have HSE := Lib.hid (splits_seek hsj)
  have hjl := hsj.1
  clear hsj
  by_cases hjk : j < ks.length
  · obtain ⟨b, off, rfl, -, hc⟩ := HKC.out (by omega)
    have d0 := hc j hjk
    have HSQ := Lib.hid (show seekL ks key = some ks[j] from by rw [HSE.out, List.getElem?_eq_getElem hjk])
    generalize ks[j] = y at *
    have hji : (j : Int) < (ks.length : Int) := by omega
    clear hc hcells HFI
    go_wp2_with fail
    go_ret3
    exact ⟨HX2.out, m + 1, HSP.out, .inr (.inr ⟨ks, by omega, HK.out, by rw [HSQ.out]; rfl⟩)⟩
  · have HSQ := Lib.hid (show seekL ks key = none from by rw [HSE.out, List.getElem?_eq_none (by omega)])
    have hji : ¬ ((j : Int) < (ks.length : Int)) := by omega
    clear HSE HKC
    by_cases hlt : m + 1 < t.idx.length
    · obtain ⟨b, off, rfl, -, c0⟩ := HFI.out hlt
      have d0 := HX2.out.cell (a := ⟨b, off + (m + 1) * 3, none⟩) c0
      have HQ := Lib.hid (show t.idx[m + 1]?.map (·.first) = some t.idx[m + 1].first from by rw [List.getElem?_eq_getElem hlt]; rfl)
      generalize t.idx[m + 1].first = pf at *
      have hne2 : ¬ ((m : Int) + 1 = (t.idx.length : Int)) := by omega
      have hne : ((m : Int) + 1 == (t.idx.length : Int)) = false := by simp; omega
      have hlt2 : (m : Int) + 1 < (t.idx.length : Int) := by omega
      have h01 : (0 : Int) ≤ (m : Int) + 1 := by omega
      clear c0 HFI
      go_wp2_with fail
      go_ret3
      exact ⟨HX2.out, m + 1, HSP.out, .inr (.inr ⟨ks, by omega, HK.out, by rw [HSQ.out, HQ.out]; rfl⟩)⟩
    · have h0 : t.idx.length = m + 1 := by omega
      have HQ := Lib.hid (show t.idx[m + 1]?.map (·.first) = none from by rw [List.getElem?_eq_none (by omega)]; rfl)
      have heq : ((m : Int) + 1 = (t.idx.length : Int)) := by omega
      have heq2 : ((m : Int) + 1 == (t.idx.length : Int)) = true := by rw [h0]; simp
      have HL0 := Lib.hid h0
      clear HFI h0
      go_wp2_with fail
      go_ret3
      exact ⟨HX2.out, m + 1, HSP.out, .inr (.inr ⟨ks, by omega, HK.out, by rw [HSQ.out, HQ.out]; rfl⟩)⟩

end Go.Proofs.YtmmeofiocbfamaaGreatDoor
namespace Go.Proofs.YtmmeofiocbfamaaGreatDoor
open Go Go.RowKit

/-- The number in eight bytes; below 0: it is too great. -/
def numI (l : List UInt8) : Int := if 1099511627776 < numB (l.take 8) then (-1 : Int) else ((numB (l.take 8) : Nat) : Int)
theorem numI_le (l : List UInt8) : -1 ≤ numI l ∧ numI l ≤ 1099511627776 := by
  unfold numI
  split <;> omega
/-- What bytes are as a table. -/
def openT (bs : List UInt8) : Option Tb × Nat :=
  if bs.length < 28 then (none, 7)
  else if bs.drop (bs.length - 4) ≠ [116, 98, 108, 49] then (none, 9)
  else if numI (bs.drop (bs.length - 12)) < 0 then (none, 9)
  else if (partB bs (numI (bs.drop (bs.length - 28))) (numI (bs.drop (bs.length - 20)))).2 ≠ 0 then (none, (partB bs (numI (bs.drop (bs.length - 28))) (numI (bs.drop (bs.length - 20)))).2)
  else if (partB bs (numI (bs.drop (bs.length - 20))) ((bs.length - 28 : Nat) : Int)).2 ≠ 0 then (none, (partB bs (numI (bs.drop (bs.length - 20))) ((bs.length - 28 : Nat) : Int)).2)
  else match readB (partB bs (numI (bs.drop (bs.length - 28))) (numI (bs.drop (bs.length - 20)))).1 (numI (bs.drop (bs.length - 28))).toNat with
    | none => (none, 9)
    | some ps => (some ⟨ps, bs.take (numI (bs.drop (bs.length - 28))).toNat, (partB bs (numI (bs.drop (bs.length - 20))) ((bs.length - 28 : Nat) : Int)).1, (numI (bs.drop (bs.length - 12))).toNat⟩, 0)
theorem openT_eq (bs : List UInt8) (a b c : List UInt8) (ha : a = bs.drop (bs.length - 28)) (hb : b = bs.drop (bs.length - 20)) (hc : c = bs.drop (bs.length - 12)) (h : ¬ bs.length < 28) (h2 : bs.drop (bs.length - 4) = [116, 98, 108, 49]) :
    openT bs = if numI c < 0 then (none, 9)
      else if (partB bs (numI a) (numI b)).2 ≠ 0 then (none, (partB bs (numI a) (numI b)).2)
      else if (partB bs (numI b) ((bs.length - 28 : Nat) : Int)).2 ≠ 0 then (none, (partB bs (numI b) ((bs.length - 28 : Nat) : Int)).2)
      else match readB (partB bs (numI a) (numI b)).1 (numI a).toNat with
        | none => (none, 9)
        | some ps => (some ⟨ps, bs.take (numI a).toNat, (partB bs (numI b) ((bs.length - 28 : Nat) : Int)).1, (numI c).toNat⟩, 0) := by
  unfold openT
  rw [if_neg h, if_neg (by simp [h2]), ha, hb, hc]
def RetOpenT (r : Option Tb × Nat) (w : World) (e : Ending) (w' : World) : Prop := Ext w w' ∧ match r with
  | (some t, _) => ∃ tb, e = .returned (.tuple #[.pointer (some ⟨tb, 0, none⟩), .int .i64 0]) ∧ TbAt w' tb t ∧ w.heap.size ≤ tb
  | (none, er) => e = .returned (.tuple #[.pointer none, .int .i64 er])
theorem partB_ok {bs : List UInt8} {lo hi : Int} (h : (partB bs lo hi).2 = 0) : 0 ≤ lo ∧ lo ≤ hi ∧ hi ≤ bs.length := by
  unfold partB at h
  split at h
  · cases h
  · omega

end Go.Proofs.YtmmeofiocbfamaaGreatDoor
namespace Go.Proofs.YtmmeofiocbfamaaGreatDoor
open Go Go.RowKit

set_option maxRecDepth 100000 in
set_option maxHeartbeats 1600000 in
theorem open_raw (hread : ∀ (v : Value) (bs : List UInt8) (endN : Nat) (w : World), Sl (· < w.heap.size) w 1 v (bc bs) → bs.length ≤ 10000000 → endN ≤ 10000000 → Calls Tryz.prog 44 #[v, .int .i64 endN] w (RetRead (readB bs endN) w)) (v : Value) (bs : List UInt8) (w : World) (h : Sl (· < w.heap.size) w 1 v (bc bs)) (hl : bs.length ≤ 10000000) :
    Calls Tryz.prog 9 #[v] w (RetOpenT (openT bs) w) := by
  have HS := Lib.hid h
  obtain ⟨ao, c, rfl, hlc, hcm, -, hcell⟩ := Sl.bytes h
  go_enter Tryz.func9, Tryz.ntmps9
  by_cases h28 : bs.length < 28
  · have HR := Lib.hid (show openT bs = (none, 7) from if_pos h28)
    have h28i : (bs.length : Int) < 28 := by omega
    go_wp2_with fail
    go_ret2
    rw [HR.out]
    exact ⟨Ext.refl _, rfl⟩
  obtain ⟨n, hn⟩ : ∃ n, bs.length = n + 28 := ⟨bs.length - 28, by omega⟩
  obtain ⟨b, off, rfl, hb, -⟩ := hcell (by omega)
  clear hcell h
  have HD := Lib.hid (fun (k : Nat) (hk : k ≤ 28) => show Sl (· < w.heap.size) w 1 (.slice (some ⟨b, off + (n + k), none⟩) (28 - k) (c - (n + k))) (bc (bs.drop (n + k))) from by
    have := HS.out.drop (n + k) (by omega)
    rw [Option.map_some, Addr.add_lit, hn, show n + 28 - (n + k) = 28 - k from by omega] at this
    rw [show bc (bs.drop (n + k)) = (bc bs).drop (n + k) from by unfold bc; rw [List.map_drop]]
    exact this)
  have HSTR := Lib.hid (fun W (hW : Ext w W) => str_sl (Sl.up (HD.out 24 (by decide)) hW))
  have HN := Lib.hid hn
  have h28i : ¬ ((n : Int) + 28 < 28) := by omega
  have hcn : n + 28 ≤ c := by omega
  rw [hn] at HS
  have hstr := HSTR.out w (Ext.refl _)
  have hc1 : ¬ (c = n) := by omega
  have hc2 : ¬ (c - n = 24) := by omega
  have hc3 : ¬ (c - n = 8) := by omega
  have hc4 : ¬ (c - n = 16) := by omega
  rw [show off + (n + 24) = off + n + 24 from by omega, show c - (n + 24) = c - n - 24 from by omega] at hstr
  rw [hn]
  have hnci : (n : Int) ≤ (c : Int) := by omega
  by_cases hm : bs.drop (n + 24) = [116, 98, 108, 49]
  rotate_left
  · have HR := Lib.hid (show openT bs = (none, 9) from by
      unfold openT
      rw [if_neg h28, if_pos (by rw [hn, show n + 28 - 4 = n + 24 from by omega]; exact hm)])
    have hmb : (bs.drop (n + 24) == [116, 98, 108, 49]) = false := by simpa using hm
    clear hm
    go_wp2_with fail
    go_ret2
    rw [HR.out]
    exact ⟨Ext.refl _, rfl⟩
  have hmb : (bs.drop (n + 24) == [116, 98, 108, 49]) = true := by simpa using hm
  have HO := Lib.hid (openT_eq bs (bs.drop n) (bs.drop (n + 8)) (bs.drop (n + 16)) (by rw [hn]; congr 1) (by rw [hn]; congr 1) (by rw [hn]; congr 1) h28 (by rw [hn]; exact hm))
  rw [hn, show n + 28 - 28 = n from by omega] at HO
  have HZ1 := Lib.hid (numI_le (bs.drop n))
  have HZ2 := Lib.hid (numI_le (bs.drop (n + 8)))
  have HZ3 := Lib.hid (numI_le (bs.drop (n + 16)))
  have HN1 := Lib.hid (fun W (hW : Ext w W) => number_any _ _ W (Sl.up (HD.out 0 (by decide)) hW) (by rw [List.length_drop]; omega))
  have HN2 := Lib.hid (fun W (hW : Ext w W) => number_any _ _ W (Sl.up (HD.out 8 (by decide)) hW) (by rw [List.length_drop]; omega))
  have HN3 := Lib.hid (fun W (hW : Ext w W) => number_any _ _ W (Sl.up (HD.out 16 (by decide)) hW) (by rw [List.length_drop]; omega))
  have hI : ∀ l : List UInt8, (if 1099511627776 < numB (l.take 8) then (-1 : Int) else ((numB (l.take 8) : Nat) : Int)) = numI l := fun _ => rfl
  simp only [hI, Nat.add_zero, Nat.sub_zero] at HN1 HN2 HN3
  rw [show off + (n + 8) = off + n + 8 from by omega, show c - (n + 8) = c - n - 8 from by omega, show 28 - 8 = 20 from rfl] at HN2
  rw [show off + (n + 16) = off + n + 16 from by omega, show c - (n + 16) = c - n - 16 from by omega, show 28 - 16 = 12 from rfl] at HN3
  generalize numI (bs.drop n) = z1 at *
  generalize numI (bs.drop (n + 8)) = z2 at *
  generalize numI (bs.drop (n + 16)) = z3 at *
  clear hI hm HSTR HD
  go_wp2_with fail
  obtain ⟨wd, hwd⟩ : ∃ wd, wd = w.drew := ⟨_, rfl⟩
  have HXd := Lib.hid (show Ext w wd from by rw [hwd]; exact Ext.drew w)
  refine region_walkN (Ext wd) (by rw [← hwd]; exact Ext.refl _) (by kernel_rfl) (by kernel_rfl) (fun _ _ d _ _ h => by cases d <;> exact h) ?_
  rw [← hwd]
  clear hwd
  ((refine WalkN.take 0 _ ?_ (by simp only [List.getElem?_toArray, List.getElem?_cons_zero]; rfl) (by kernel_rfl) (by kernel_rfl) (by rfl) (fun W hW => ?_) ?_; rotate_left; · (go_simp; try with_reducible rfl)); simp only [Act.put, List.setIfInBounds_toArray, List.set_cons_zero, List.set_cons_succ]); ((refine WalkN.take 2 _ ?_ (by simp only [List.getElem?_toArray, List.getElem?_cons_succ, List.getElem?_cons_zero]; rfl) (by kernel_rfl) (by kernel_rfl) (by rfl) (fun W hW => ?_) ?_; rotate_left; · (go_simp; try with_reducible rfl)); simp only [Act.put, List.setIfInBounds_toArray, List.set_cons_zero, List.set_cons_succ]); ((refine WalkN.take 3 _ ?_ (by simp only [List.getElem?_toArray, List.getElem?_cons_succ, List.getElem?_cons_zero]; rfl) (by kernel_rfl) (by kernel_rfl) (by rfl) (fun W hW => ?_) ?_; rotate_left; · (go_simp; try with_reducible rfl)); simp only [Act.put, List.setIfInBounds_toArray, List.set_cons_zero, List.set_cons_succ]); ((refine WalkN.take 5 _ ?_ (by simp only [List.getElem?_toArray, List.getElem?_cons_succ, List.getElem?_cons_zero]; rfl) (by kernel_rfl) (by kernel_rfl) (by rfl) (fun W hW => ?_) ?_; rotate_left; · (go_simp; try with_reducible rfl)); simp only [Act.put, List.setIfInBounds_toArray, List.set_cons_zero, List.set_cons_succ]); ((refine WalkN.take 6 _ ?_ (by simp only [List.getElem?_toArray, List.getElem?_cons_succ, List.getElem?_cons_zero]; rfl) (by kernel_rfl) (by kernel_rfl) (by rfl) (fun W hW => ?_) ?_; rotate_left; · (go_simp; try with_reducible rfl)); simp only [Act.put, List.setIfInBounds_toArray, List.set_cons_zero, List.set_cons_succ])
  refine WalkN.one 1 (by kernel_rfl) ?_
  refine ⟨_, (by simp only [List.getElem?_toArray, List.getElem?_cons_succ, List.getElem?_cons_zero]; rfl), by rfl, fun K hK => ?_⟩
  go_simp
  refine (HN1.out wd HXd.out).mono ?_
  rintro e w1 ⟨rfl, hx1⟩
  refine hK.out _ _ hx1 ?_
  clear hK
  have HX1 := Lib.hid (HXd.out.trans hx1)
  refine WalkN.one 4 (by kernel_rfl) ?_
  refine ⟨_, (by simp only [List.getElem?_toArray, List.getElem?_cons_succ, List.getElem?_cons_zero]; rfl), by rfl, fun K hK => ?_⟩
  go_simp
  refine (HN2.out w1 HX1.out).mono ?_
  rintro e w2 ⟨rfl, hx2⟩
  have hx2' : Ext wd w2 := hx1.trans hx2
  refine hK.out _ _ hx2' ?_
  clear hK
  have HX2 := Lib.hid (HXd.out.trans hx2')
  refine WalkN.one 7 (by kernel_rfl) ?_
  refine ⟨_, (by simp only [List.getElem?_toArray, List.getElem?_cons_succ, List.getElem?_cons_zero]; rfl), by rfl, fun K hK => ?_⟩
  go_simp
  refine (HN3.out w2 HX2.out).mono ?_
  rintro e w3 ⟨rfl, hx3⟩
  have hx3' : Ext wd w3 := hx2'.trans hx3
  refine hK.out _ _ hx3' ?_
  clear hK
  have HX3 := Lib.hid (HXd.out.trans hx3')
  ((refine WalkN.take 8 _ ?_ (by simp only [List.getElem?_toArray, List.getElem?_cons_succ, List.getElem?_cons_zero]; rfl) (by kernel_rfl) (by kernel_rfl) (by rfl) (fun W hW => ?_) ?_; rotate_left; · (go_simp; try with_reducible rfl)); simp only [Act.put, List.setIfInBounds_toArray, List.set_cons_zero, List.set_cons_succ]); ((refine WalkN.take 9 _ ?_ (by simp only [List.getElem?_toArray, List.getElem?_cons_succ, List.getElem?_cons_zero]; rfl) (by kernel_rfl) (by kernel_rfl) (by rfl) (fun W hW => ?_) ?_; rotate_left; · (go_simp; try with_reducible rfl)); simp only [Act.put, List.setIfInBounds_toArray, List.set_cons_zero, List.set_cons_succ]); ((refine WalkN.take 10 _ ?_ (by simp only [List.getElem?_toArray, List.getElem?_cons_succ, List.getElem?_cons_zero]; rfl) (by kernel_rfl) (by kernel_rfl) (by rfl) (fun W hW => ?_) ?_; rotate_left; · (go_simp; try with_reducible rfl)); simp only [Act.put, List.setIfInBounds_toArray, List.set_cons_zero, List.set_cons_succ])
  refine WalkN.done (by kernel_rfl) ?_
  clear HN1 HN2 HN3 HX1 HX2 HXd hx1 hx2 hx2' hx3 hx3' hstr hmb
  by_cases h3 : z3 < 0
  · have HR := Lib.hid (show openT bs = (none, 9) from by rw [HO.out, if_pos h3])
    go_wp2_with fail
    go_ret2
    rw [HR.out]
    exact ⟨HX3.out, rfl⟩
  rw [if_neg h3] at HO
  have HS3 := Lib.hid (Sl.up HS.out HX3.out)
  have HP1 := Lib.hid (part_any (.slice (some ⟨b, off, none⟩) (n + 28) c) bs z1 z2 w3 (by rw [← HN.out] at HS3 ⊢; exact HS3.out) hl (by have := HZ1.out; omega) (by have := HZ2.out; omega))
  have HPK := Lib.hid (fun h => partB_ok (bs := bs) (lo := z1) (hi := z2) h)
  have HPL := Lib.hid (partB_len bs z1 z2)
  generalize partB bs z1 z2 = r1 at *
  obtain ⟨p1, e1⟩ := r1
  dsimp only at HO HPK HPL
  go_wp2_with fail
  refine HP1.out.mono ?_
  clear HP1
  rintro e w4 ⟨v4, rfl, hs4, hx4⟩
  dsimp only at hs4 ⊢
  have HX4 := Lib.hid (HX3.out.trans hx4)
  have HS4 := Lib.hid hs4
  obtain ⟨po, pc, rfl, -, -, -, -⟩ := Sl.bytes hs4
  clear hs4 hx4 HX3 HS3
  by_cases he1 : e1 = 0
  rotate_left
  · have HR := Lib.hid (show openT bs = (none, e1) from by rw [HO.out, if_pos he1])
    have hei : ¬ ((e1 : Int) = 0) := by omega
    go_wp2_with fail
    go_ret2
    rw [HR.out]
    exact ⟨HX4.out, rfl⟩
  obtain rfl := he1
  rw [if_neg (by simp)] at HO
  have HOK := Lib.hid (HPK.out rfl)
  clear HPK
  have HSX := Lib.hid (Sl.up HS.out HX4.out)
  have HP2 := Lib.hid (part_any (.slice (some ⟨b, off, none⟩) (n + 28) c) bs z2 (n : Int) w4 (by rw [← HN.out] at HSX ⊢; exact HSX.out) hl (by have := HZ2.out; omega) (by omega))
  have HFL := Lib.hid (partB_len bs z2 (n : Int))
  generalize partB bs z2 (n : Int) = r2 at *
  obtain ⟨p2, e2⟩ := r2
  dsimp only at HO HFL
  go_wp2_with fail
  refine HP2.out.mono ?_
  clear HP2
  rintro e w5 ⟨v5, rfl, hs5, hx5⟩
  dsimp only at hs5 ⊢
  have HX5 := Lib.hid (HX4.out.trans hx5)
  have HS5 := Lib.hid hs5
  have HS45 := Lib.hid ((HS4.out.same ((Same.below hx5).mono fun b hb => hb.2)).mono (T := fun x => x < w5.heap.size) fun b hb => Nat.lt_of_lt_of_le hb.2 hx5.size)
  obtain ⟨qo, qc, rfl, -, -, -, -⟩ := Sl.bytes hs5
  clear hs5 hx5 HX4 HS4 HSX
  by_cases he2 : e2 = 0
  rotate_left
  · have HR := Lib.hid (show openT bs = (none, e2) from by rw [HO.out, if_pos he2])
    have hei : ¬ ((e2 : Int) = 0) := by omega
    go_wp2_with fail
    go_ret2
    rw [HR.out]
    exact ⟨HX5.out, rfl⟩
  obtain rfl := he2
  rw [if_neg (by simp)] at HO
  obtain ⟨one, rfl⟩ : ∃ one : Nat, z1 = one := ⟨z1.toNat, by have := HOK.out.1; omega⟩
  obtain ⟨cnt, rfl⟩ : ∃ cnt : Nat, z3 = cnt := ⟨z3.toNat, by omega⟩
  rw [Int.toNat_natCast, Int.toNat_natCast] at HO
  have HON := Lib.hid (show one ≤ n + 28 from by have := HOK.out; have := HN.out; omega)
  have HRD := Lib.hid (hread (.slice po p1.length pc) p1 one w5 HS45.out (by have := HPL.out; omega) (by have := HON.out; have := HN.out; omega))
  clear hread h3 HOK HZ1 HZ2 HZ3
  go_wp2_with fail
  refine HRD.out.mono ?_
  clear HRD
  rintro e w6 ⟨hx6, hr⟩
  cases hrb : readB p1 one with
  | none =>
    rw [hrb] at hr HO
    dsimp only at hr HO
    subst hr
    have HR := Lib.hid HO.out
    have HX6 := Lib.hid (HX5.out.trans hx6)
    clear hx6 hrb HO
    go_wp2_with fail
    go_ret2
    rw [HR.out]
    exact ⟨HX6.out, rfl⟩
  | some ps =>
    rw [hrb] at hr HO
    dsimp only at hr HO
    obtain ⟨v6, rfl, ho6⟩ := hr
    have HR := Lib.hid HO.out
    have HX6 := Lib.hid (HX5.out.trans hx6)
    have HO6 := Lib.hid ho6
    have HS6 := Lib.hid ((HS5.out.same ((Same.below hx6).mono fun b hb => hb.2)).mono (T := fun x => x < w6.heap.size) fun b hb => Nat.lt_of_lt_of_le hb.2 hx6.size)
    obtain ⟨xo, xc, rfl, -, -, -⟩ := ho6.sl.plcs
    clear hx6 hrb HO ho6 HX5 HS5
    have HST := Lib.hid (show Sl (· < w6.heap.size) w6 1 (.slice (some ⟨b, off, none⟩) one c) (bc (bs.take one)) from by
      have := (Sl.up HS.out HX6.out).take one HON.out
      rw [Nat.mul_one] at this
      rw [show bc (bs.take one) = (bc bs).take one from by unfold bc; rw [List.map_take]]
      exact this)
    obtain ⟨bt, hbt⟩ : ∃ bt, bt = bs.take one := ⟨_, rfl⟩
    have hbtl : bt.length ≤ 10000000 := by rw [hbt, List.length_take]; omega
    rw [← hbt] at HST HR
    clear hbt
    have HCL := Lib.hid (clone8_any (.slice (some ⟨b, off, none⟩) one c) bt w6 (fun b hb => hb) HST.out (by omega))
    have hoc : (one : Int) ≤ (c : Int) := by have := HON.out; omega
    have ho0 : (0 : Int) ≤ (one : Int) := by omega
    go_wp2_with fail
    refine HCL.out.mono ?_
    clear HCL
    rintro e w7 ⟨v7, rfl, hs7, hx7⟩
    have HX7 := Lib.hid (HX6.out.trans hx7)
    have HS7 := Lib.hid hs7
    have HO7 := Lib.hid (HO6.out.below hx7)
    have HF7 := Lib.hid (Sl.up HS6.out hx7)
    have HZ7 := Lib.hid (show w.heap.size ≤ w7.heap.size from HX7.out.size)
    obtain ⟨co, cc, rfl, -, -, -, -⟩ := Sl.bytes hs7
    clear hs7 hx7 HX6 HO6 HS6 HST
    go_wp2_with fail
    go_ret2
    rw [HR.out]
    have hx := Ext.alloc w7 (.cells #[.slice xo ps.length xc, .slice co bt.length cc, .slice qo p2.length qc, .int .i64 cnt] 80)
    refine ⟨HX7.out.trans (Ext.alloc _ _), w7.heap.size, rfl, ⟨_, _, _, Blk.made w7 _ _, (HO7.out.below hx).sl.mono fun b hb => hb.2, (HS7.out.same ((Same.below hx).mono fun b hb => hb.2)).mono fun b hb => Nat.lt_of_lt_of_le hb.2 hx.size, Sl.up HF7.out hx⟩, HZ7.out⟩

end Go.Proofs.YtmmeofiocbfamaaGreatDoor
