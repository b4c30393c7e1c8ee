/- The walk of Barren. No condition: lemmas. -/
import Derived.Test.YtfhonficpccegaaZ29
namespace Go.Proofs.Ytfhonficpccegaa
open Go Go.RowKit Go.Maps Go.Shelf

theorem pcan_mono (P : List (R2 × RT)) {S T : List R2} (h : ∀ x ∈ S, x ∈ T) (typ : ByteArray) (r : RT) : r.pcan P S typ = true → r.pcan P T typ = true := by
  induction r using RT.ind with
  | h r ih =>
    obtain ⟨k, a, b, ps⟩ := r
    dsimp only [RT.ps] at ih
    rw [RT.pcan, RT.pcan, pcanN_eq, pcanL_eq, pcanN_eq, pcanL_eq]
    intro hc
    split
    · rfl
    · rename_i h1
      rw [if_neg h1] at hc
      split
      · rename_i h2
        rw [if_pos h2] at hc
        exact decide_eq_true (h _ (of_decide_eq_true hc))
      · rename_i h2
        rw [if_neg h2] at hc
        split
        · rename_i h3
          rw [if_pos h3, Bool.and_eq_true, List.any_eq_true] at hc
          obtain ⟨hc1, n, hn, hc2⟩ := hc
          rw [Bool.and_eq_true, List.any_eq_true]
          exact ⟨decide_eq_true (h _ (of_decide_eq_true hc1)), n, hn, decide_eq_true (h _ (of_decide_eq_true hc2))⟩
        · rename_i h3
          rw [if_neg h3] at hc
          split
          · rename_i h4
            rw [if_pos h4, Bool.or_eq_true, List.any_eq_true] at hc
            rw [Bool.or_eq_true, List.any_eq_true]
            rcases hc with ⟨p, hp, hc⟩ | hc
            · exact .inl ⟨p, hp, ih p hp hc⟩
            · exact .inr hc
          · rename_i h4
            rw [if_neg h4, List.all_eq_true] at hc
            rw [List.all_eq_true]
            exact fun p hp => ih p hp (hc p hp)
/-- Closed under what can have members. -/
def ClosedP (ts : List TyS) (S : List R2) : Prop := ∀ x r, (x, r) ∈ refsOf ts → r.pcan (refsOf ts) S x.t = true → x ∈ S
/-- Within each closed set. -/
structure LeastP (ts : List TyS) (S : List R2) : Prop where
  sub : ∀ x ∈ S, x ∈ (refsOf ts).map (·.1)
  least : ∀ T, ClosedP ts T → ∀ x ∈ S, x ∈ T
theorem LeastP.nil (ts : List TyS) : LeastP ts [] := ⟨by simp, by simp⟩
theorem LeastP.add {ts : List TyS} {S : List R2} (h : LeastP ts S) {x : R2} {r : RT} (hx : (x, r) ∈ refsOf ts) (hc : r.pcan (refsOf ts) S x.t = true) : LeastP ts (addR S x) := by
  refine ⟨fun y hy => ?_, fun T hT y hy => ?_⟩
  · rcases (addR_mem _ _ _).1 hy with h1 | rfl
    · exact h.sub y h1
    · exact List.mem_map.2 ⟨_, hx, rfl⟩
  · rcases (addR_mem _ _ _).1 hy with h1 | rfl
    · exact h.least T hT y h1
    · exact hT _ r hx (pcan_mono _ (fun z hz => h.least T hT z hz) _ r hc)
theorem LeastP.len {ts : List TyS} {S : List R2} (h : LeastP ts S) (hn : S.Nodup) : S.length ≤ (refsOf ts).length := by
  have := nodup_le hn h.sub
  rwa [List.length_map] at this
def msB (R M : Nat) (n : Int) : Nat := (R - M) * 2 + if n < (M : Int) then 1 else 0
theorem msB_same {R M : Nat} {n : Int} (h : n < (M : Int)) : msB R M (M : Int) < msB R M n := by
  unfold msB
  rw [if_neg (Int.lt_irrefl _), if_pos h]
  omega
theorem msB_more {R M M' : Nat} {n m : Int} (h : n < (M : Int)) (h1 : M < M') (h2 : M' ≤ R) : msB R M' m < msB R M n := by
  unfold msB
  rw [if_pos h]
  split <;> omega
theorem blR_len (S : List R2) : (blR S).length = S.length := by simp [blR]
theorem mp_nodup {w : World} {b : Nat} {S : List R2} (h : Mp Try.prog 43 r2V bV w b (blR S)) : S.Nodup := by have := h.nodup; rwa [blR_keys] at this
theorem refs_okk {ts : List TyS} (h : ∀ t ∈ ts, t.Ok) {x : R2} {r : RT} (hx : (x, r) ∈ refsOf ts) : x.Ok ∧ r.Ok := by
  obtain ⟨t, ht, y, hy, e⟩ := refs_mem.1 hx
  injection e with e1 e2
  have h1 := h t ht
  have h2 := h1.2 y hy
  have h3 := h1.1
  have h4 := h2.1
  subst e1 e2
  refine ⟨⟨?_, ?_⟩, h2.2⟩ <;> unfold maxLen <;> dsimp only <;> omega

set_option maxRecDepth 100000 in
set_option maxHeartbeats 8000000 in
theorem barrenP_any (ts : List TyS) (tv : Value) (w : World) (h : TysAt (· < w.heap.size) w ts tv) (hok : ∀ t ∈ ts, t.Ok) (hu : uniqOk ts = true) (hsz : (refsOf ts).length ≤ 4096) :
    Calls Try.prog 13 #[.agg #[tv]] w fun e w' => ∃ (v : Value) (ss S : List R2), e = .returned v ∧ LeastP ts S ∧ ClosedP ts S ∧ UpR ss ∧ (∀ x, x ∈ ss ↔ x ∈ (refsOf ts).map (·.1) ∧ ¬ x ∈ S) ∧ Own w' w.heap.size 43 2 v (r2cs ss) ∧ Below w.heap.size w w' := by
  have hx1 : Ext w (w.alloc (.cells #[tv] 24)) := Ext.alloc _ _
  have HX := Lib.hid hx1
  have HO := Lib.hid (wide_any ts tv _ (h.up hx1) hok hu (by omega))
  have hS := (Blk.made w #[tv] 24).cells
  have HOK := Lib.hid hok
  have HSZ := Lib.hid hsz
  have hmm := @run_makeMap Try.prog
  clear h hok hu hsz hx1
  go_enter Try.func13, Try.ntmps13
  go_wp2_with fail
  refine HO.out.mono ?_
  rintro e w2 ⟨b1, b2, b3, rfl, hbk, hb2⟩
  have HBK := Lib.hid hbk
  have HB2 := Lib.hid (show Below w.heap.size w w2 from Ext.trans HX.out hb2)
  obtain ⟨w3, hw3⟩ : ∃ x, x = w2.alloc (.map #[] 0) := ⟨_, rfl⟩
  obtain ⟨w4, hw4⟩ : ∃ x, x = w3.alloc (.cells #[.map (some b1), .map (some b2), .map (some b3)] 74) := ⟨_, rfl⟩
  have e3 : w3.heap.size = w2.heap.size + 1 := by rw [hw3]; simp
  have x23 : Ext w2 w3 := by rw [hw3]; exact Ext.alloc _ _
  have x34 : Ext w3 w4 := by rw [hw4]; exact Ext.alloc _ _
  have HM4 := Lib.hid (show Mp Try.prog 43 r2V bV w4 w2.heap.size (blR []) from Mp.below (by rw [hw3]; exact Mp.made _) x34)
  have HC4 := Lib.hid (show Blk w4 (w2.heap.size + 1) #[.map (some b1), .map (some b2), .map (some b3)] 74 from by rw [hw4, ← e3]; exact Blk.made _ _ _)
  have HX24 := Lib.hid (show Below w2.heap.size w2 w4 from x23.trans x34)
  clear HO hS hbk hb2 e3 x23 x34
  subst hw4 hw3
  go_wp2_with fail
  obtain ⟨w4, hw4⟩ : ∃ x, x = (w2.alloc (.map #[] 0)).alloc (.cells #[.map (some b1), .map (some b2), .map (some b3)] 74) := ⟨_, rfl⟩
  rw [← hw4] at HM4 HC4 HX24 ⊢
  clear hw4
  obtain ⟨bs, hbs⟩ : ∃ x, x = w2.heap.size := ⟨_, rfl⟩
  obtain ⟨bc, hbc⟩ : ∃ x, x = w2.heap.size + 1 := ⟨_, rfl⟩
  have HBS2 := Lib.hid (show w2.heap.size ≤ bs from by omega)
  have HCB := Lib.hid (show bc ≠ bs from by omega)
  rw [← hbc] at HC4 ⊢
  rw [show Value.map (some w2.heap.size) = .map (some bs) from by rw [hbs]]
  have HM4 := Lib.hid (show Mp Try.prog 43 r2V bV w4 bs (blR []) from by rw [hbs]; exact HM4.out)
  clear hbs hbc
  obtain ⟨lr, hMr, hLP, hLA⟩ := HBK.out.R
  have HMR := Lib.hid hMr
  have HLP := Lib.hid hLP
  have HLA := Lib.hid hLA
  clear hMr hLP hLA
  have HB1 := Lib.hid (show b1 < w2.heap.size from HMR.out.lt)
  go_loopw [5] (fun nv wr => ∃ (S : List R2) (n : Int), nv = .int .i64 n ∧ Mp Try.prog 43 r2V bV wr bs (blR S) ∧ LeastP ts S ∧ n ≤ (S.length : Int) ∧ -1 ≤ n ∧ (n = (S.length : Int) → ClosedP ts S) ∧ Tk bs w4 wr) (fun nv wr => msB (refsOf ts).length (mapLen wr bs) (intOf nv))
  case atStart => exact ⟨[], -1, rfl, HM4.out, LeastP.nil ts, by simp, by omega, fun h => absurd h (by simp), Tk.refl _ _⟩
  case round =>
    rename World => wo
    obtain ⟨S, n, rfl, hm, hle, hn1, hn2, hcl, htk⟩ := hrel
    have HM := Lib.hid hm
    have HLE := Lib.hid hle
    have HCL := Lib.hid hcl
    have HTK := Lib.hid htk
    have HND := Lib.hid (mp_nodup hm)
    have HML := Lib.hid (show mapLen wo bs = S.length from by rw [hm.mapLen, blR_len])
    have HSL := Lib.hid (show S.length ≤ 4096 from Nat.le_trans (hle.len HND.out) HSZ.out)
    have HSLR := Lib.hid (show S.length ≤ (refsOf ts).length from hle.len HND.out)
    have HB2R := Lib.hid (HX24.out.trans (htk.below HX24.out.size HBS2.out))
    have HCR := Lib.hid (htk.box HC4.out HCB.out)
    have hmlen := HM.out.len Try.underlying68
    rw [blR_len] at hmlen
    have HN1 := Lib.hid hn1
    have HN2 := Lib.hid hn2
    have cr := HCR.out.cells
    clear hm hle hcl htk hn1 hn2
    by_cases hlt : n < (S.length : Int)
    · have HLT := Lib.hid hlt
      have hMq := HMR.out.below HB2R.out
      go_wp2_with (at_range; go_must (refine wpList_mp_range _ rfl _ 70 rfl Try.underlying70 rfl hMq ?_); intro wR hRg hbR hszR)
      try go_frame
      have HRG0 := Lib.hid hRg
      have HBR := Lib.hid hbR
      obtain ⟨nR, hnR⟩ : ∃ nR, nR = wo.heap.size := ⟨_, rfl⟩
      rw [← hnR] at HRG0 ⊢
      have HNRL := Lib.hid (show wo.heap.size ≤ nR from by omega)
      have HNRB := Lib.hid (show nR ≠ bs from by have := HM.out.lt; omega)
      clear hMq hRg hbR hszR hnR cr hmlen
      go_loopw [22] (fun _ wq => ∃ (T : List R2) (rem : List (R2 × RV)), Mp Try.prog 43 r2V bV wq bs (blR T) ∧ Rng Try.prog 43 r2V rvV wq b1 nR lr rem ∧ LeastP ts T ∧ (T = S ∨ S.length < T.length) ∧ (T = S → ∀ x ∈ lr, x ∈ rem ∨ (x.2.1.pcan (refsOf ts) S x.1.t = true → x.1 ∈ S)) ∧ (∀ x ∈ rem, x ∈ lr) ∧ Tk bs wo wq) (fun _ wq => wq.rangeLeft b1 nR)
      case atStart => exact ⟨S, lr, HM.out.below HBR.out, HRG0.out, HLE.out, .inl rfl, fun _ x hx => .inl hx, fun x hx => hx, Tk.of HBR.out⟩
      case round =>
        obtain ⟨T, rem, hmT, hRg, hleT, hgr, hall, hsub, htkq⟩ := hrel
        have HMT := Lib.hid hmT
        have HLET := Lib.hid hleT
        have HGR := Lib.hid hgr
        have HALL := Lib.hid hall
        have HSUB := Lib.hid hsub
        have HTKQ := Lib.hid htkq
        clear HRG0 HBR hmT hleT hgr hall hsub htkq
        go_wp2_with (at_next; go_must (refine wpList_mp_next _ rfl _ rfl rfl hRg ?_ ?_))
        · intro hrem
          subst hrem
          have HNDT := Lib.hid (mp_nodup HMT.out)
          have HMLT := Lib.hid (show mapLen wr bs = T.length from by rw [HMT.out.mapLen, blR_len])
          clear hRg
          go_wp2_with fail
          go_roundw
          case rel =>
            refine ⟨T, S.length, rfl, HMT.out, HLET.out, ?_, by omega, ?_, Tk.next HTK.out HTKQ.out⟩
            · rcases HGR.out with rfl | h
              · exact Int.le_refl _
              · omega
            · intro he
              have hTS : T = S := HGR.out.elim id fun h => absurd h (by omega)
              intro x r hx hc
              rw [← HLP.out] at hx
              obtain ⟨y, hy, e⟩ := List.mem_map.1 hx
              injection e with e1 e2
              subst e1 e2
              rw [hTS] at hc ⊢
              rcases HALL.out hTS y hy with h | h
              · cases h
              · exact h hc
          case measure =>
            rw [HMLT.out, HML.out]
            simp only [intOf]
            rcases HGR.out with rfl | h
            · exact msB_same HLT.out
            · exact msB_more HLT.out h (HLET.out.len HNDT.out)
        · rintro pre ⟨kt, kr⟩ p pv post w7 hrem hRg2 hk2 hs2 hen
          have hum : ((⟨kt, kr⟩, (p, pv)) : R2 × RV) ∈ lr := HSUB.out _ (by rw [hrem]; simp)
          have hup : (⟨⟨kt, kr⟩, p⟩ : R2 × RT) ∈ refsOf ts := by rw [← HLP.out]; exact List.mem_map.2 ⟨_, hum, rfl⟩
          have HUP := Lib.hid hup
          have HKO := Lib.hid (refs_okk HOK.out hup).1
          have hpo := (refs_okk HOK.out hup).2
          have htk7 : Tk bs wo w7 := Kept.trans HTKQ.out (hk2.mono fun x hx => by have := HNRL.out; have := hx.1; show x ≠ nR; omega)
          have hb7 : Below w2.heap.size w2 w7 := HB2R.out.trans (htk7.below HB2R.out.size HBS2.out)
          have hat7 := (HLA.out _ hum).up hb7
          dsimp only at hat7
          obtain ⟨ao3, c3', rfl, -⟩ := hat7.rows
          have hM7 : Mp Try.prog 43 r2V bV w7 bs (blR T) := HMT.out.same (hk2.block bs (fun e => HNRB.out e.symm))
          obtain ⟨w8, hw8⟩ : ∃ x, x = w7.alloc (.cells #[.string kt, .string kr] 43) := ⟨_, rfl⟩
          obtain ⟨w9, hw9⟩ : ∃ x, x = w8.alloc (.cells #[.int .i64 p.k, .string p.a, .string p.b, .slice ao3 p.ps.length c3'] 46) := ⟨_, rfl⟩
          have e8 : w8.heap.size = w7.heap.size + 1 := by rw [hw8]; simp
          have x78 : Ext w7 w8 := by rw [hw8]; exact Ext.alloc _ _
          have x89 : Ext w8 w9 := by rw [hw9]; exact Ext.alloc _ _
          have HK9 := Lib.hid (show Blk w9 w7.heap.size #[.string kt, .string kr] 43 from Blk.below (by rw [hw8]; exact Blk.made _ _ _) x89)
          have k9 := HK9.out.cells
          have r9 := (show Blk w9 (w7.heap.size + 1) #[.int .i64 p.k, .string p.a, .string p.b, .slice ao3 p.ps.length c3'] 46 from by rw [hw9, ← e8]; exact Blk.made _ _ _).cells
          have HTK9 := Lib.hid (show Tk bs wo w9 from Tk.next htk7 (Tk.of (x78.trans x89)))
          have HB9 := Lib.hid (show Below w2.heap.size w2 w9 from HB2R.out.trans (HTK9.out.below HB2R.out.size HBS2.out))
          have b9 := (HTK9.out.box HCR.out HCB.out).cells
          have HM9 := Lib.hid (hM7.below (x78.trans x89))
          have HCN := Lib.hid (can_any kt HKO.out.1 HOK.out p _ w9 (HBK.out.up HB9.out) (hat7.up (x78.trans x89)) hpo HM9.out)
          have HRG9 := Lib.hid (hRg2.below (x78.trans x89))
          have HREM := Lib.hid hrem
          have HRL := Lib.hid (show wr.rangeLeft b1 nR = rem.length from hRg.left_eq)
          have HLT7 := Lib.hid (show w7.heap.size ≠ bs from by have := hM7.lt; omega)
          unfold r2V rvV rV at hen
          unfold rV at HCN
          dsimp only at hen
          subst hw9 hw8
          clear hum hup hpo hat7 hb7 htk7 hM7 e8 x78 x89 hRg2 hRg hk2 hs2
          cases hpn : p.pcan (refsOf ts) T kt with
          | false =>
            rw [hpn] at HCN
            have HPN := Lib.hid hpn
            clear hrem hpn
            go_wp2_with fail
            refine HCN.out.mono ?_
            rintro e wa ⟨rfl, hba⟩
            have HRA := Lib.hid (HRG9.out.below hba)
            have HMA := Lib.hid (HM9.out.below hba)
            have HTA := Lib.hid (Tk.next HTK9.out (Tk.of hba))
            clear HCN hba k9 r9 b9 hen
            go_wp2_with fail
            go_roundw
            case rel =>
              refine ⟨T, pre ++ post, HMA.out, HRA.out, HLET.out, HGR.out, fun hTS x hx => ?_, fun x hx => HSUB.out x (by rw [HREM.out]; rcases List.mem_append.1 hx with h | h <;> simp [h]), HTA.out⟩
              rcases HALL.out hTS x hx with h | h
              · rw [HREM.out] at h
                rcases List.mem_append.1 h with h | h
                · exact .inl (List.mem_append_left _ h)
                · rcases List.mem_cons.1 h with rfl | h
                  · refine .inr fun hc => ?_
                    have h1 := HPN.out
                    rw [hTS] at h1
                    dsimp only at hc
                    rw [h1] at hc
                    cases hc
                  · exact .inl (List.mem_append_right _ h)
              · exact .inr h
            case measure => rw [HRA.out.left_eq, HRL.out, HREM.out]; simp
          | true =>
            rw [hpn] at HCN
            have HLE2 := Lib.hid (HLET.out.add HUP.out hpn)
            clear hrem hpn
            go_wp2_with fail
            refine HCN.out.mono ?_
            rintro e wa ⟨rfl, hba⟩
            have HRA := Lib.hid (HRG9.out.below hba)
            have HMA := Lib.hid (HM9.out.below hba)
            have HTA := Lib.hid (Tk.next HTK9.out (Tk.of hba))
            have ka := (HK9.out.below hba).cells
            obtain ⟨wb, hst, hMB, hTB⟩ := HMA.out.store refK r2V_inj Try.underlying68 (ref_key ⟨kt, kr⟩ HKO.out) true
            rw [put_addR] at hMB
            unfold r2V bV at hst
            dsimp only at hst
            have HMB := Lib.hid hMB
            have HTB := Lib.hid hTB
            have HRB := Lib.hid (HRA.out.kept hTB.kept (by have := HMA.out.lt; have := HB1.out; have := HBS2.out; omega) HNRB.out)
            have HTKB := Lib.hid (Tk.next HTA.out (Tk.turned hTB))
            clear HCN hba k9 r9 b9 hen hMB hTB
            go_wp2_with fail
            go_roundw
            case rel =>
              refine ⟨addR T ⟨kt, kr⟩, pre ++ post, HMB.out, HRB.out, HLE2.out, ?_, fun hTS x hx => ?_, fun x hx => HSUB.out x (by rw [HREM.out]; rcases List.mem_append.1 hx with h | h <;> simp [h]), HTKB.out⟩
              · by_cases hin : (⟨kt, kr⟩ : R2) ∈ T
                · rw [show addR T ⟨kt, kr⟩ = T from by unfold addR; rw [if_pos hin]]; exact HGR.out
                · refine .inr ?_
                  rw [show addR T ⟨kt, kr⟩ = T ++ [⟨kt, kr⟩] from by unfold addR; rw [if_neg hin], List.length_append]
                  rcases HGR.out with h | h
                  · rw [h]; simp
                  · simp; omega
              · have hin : (⟨kt, kr⟩ : R2) ∈ T := by
                  refine Classical.byContradiction fun hin => ?_
                  rw [show addR T ⟨kt, kr⟩ = T ++ [⟨kt, kr⟩] from by unfold addR; rw [if_neg hin]] at hTS
                  have h1 := congrArg List.length hTS
                  rw [List.length_append] at h1
                  rcases HGR.out with h | h
                  · rw [h] at h1; simp at h1
                  · simp at h1; omega
                rw [show addR T ⟨kt, kr⟩ = T from by unfold addR; rw [if_pos hin]] at hTS
                rcases HALL.out hTS x hx with h | h
                · rw [HREM.out] at h
                  rcases List.mem_append.1 h with h | h
                  · exact .inl (List.mem_append_left _ h)
                  · rcases List.mem_cons.1 h with rfl | h
                    · exact .inr fun _ => by rw [← hTS]; exact hin
                    · exact .inl (List.mem_append_right _ h)
                · exact .inr h
            case measure => rw [HRB.out.left_eq, HRL.out, HREM.out]; simp
    · have HCLS := Lib.hid (HCL.out (by have := HN1.out; omega))
      obtain ⟨bo, hbo⟩ : ∃ x, x = wo.heap.size := ⟨_, rfl⟩
      obtain ⟨wn, hwn⟩ : ∃ x, x = wo.alloc (.map #[] 0) := ⟨_, rfl⟩
      have xon : Ext wo wn := by rw [hwn]; exact Ext.alloc _ _
      have HMN := Lib.hid (show Mp Try.prog 43 r2V bV wn bo (blR []) from by rw [hwn, hbo]; exact Mp.made _)
      have HXN := Lib.hid xon
      have HBN := Lib.hid (show Below w2.heap.size w2 wn from HB2R.out.trans (xon.mono HB2R.out.size))
      have hMq := HMR.out.below HBN.out
      have HSN := Lib.hid (HM.out.below xon)
      have HBON := Lib.hid (show bs ≠ bo from by have := HM.out.lt; omega)
      have HBO2 := Lib.hid (show w2.heap.size ≤ bo from by rw [hbo]; exact HB2R.out.size)
      have cn := (HCR.out.below xon).cells
      clear xon
      subst hwn
      go_wp2_with (at_range; go_must (refine wpList_mp_range _ rfl _ 70 rfl Try.underlying70 rfl hMq ?_); intro wR hRg hbR hszR)
      try go_frame
      rw [← hbo]
      have ewn : (wo.alloc (.map #[] 0)).heap.size = bo + 1 := by rw [hbo]; simp
      have HRG0 := Lib.hid (show Rng Try.prog 43 r2V rvV wR b1 (bo + 1) lr lr from by rw [← ewn]; exact hRg)
      obtain ⟨wn, hwn⟩ : ∃ x, x = wo.alloc (.map #[] 0) := ⟨_, rfl⟩
      rw [← hwn] at HMN HXN HBN hbR hszR HSN ewn
      clear hwn hbo
      have HBR := Lib.hid hbR
      obtain ⟨nR, hnR⟩ : ∃ nR, nR = bo + 1 := ⟨_, rfl⟩
      rw [← hnR] at HRG0 ewn ⊢
      have HNRL := Lib.hid (show wn.heap.size ≤ nR from by omega)
      have HNRB := Lib.hid (show nR ≠ bo from by have := HMN.out.lt; omega)
      clear hMq hRg hbR hszR hnR ewn cr cn hmlen
      go_loopw [39] (fun _ wq => ∃ (O : List R2) (rem : List (R2 × RV)), Mp Try.prog 43 r2V bV wq bo (blR O) ∧ Rng Try.prog 43 r2V rvV wq b1 nR lr rem ∧ (∀ x ∈ O, x ∈ (refsOf ts).map (·.1) ∧ ¬ x ∈ S) ∧ (∀ x ∈ lr, x ∈ rem ∨ x.1 ∈ S ∨ x.1 ∈ O) ∧ (∀ x ∈ rem, x ∈ lr) ∧ Tk bo wn wq) (fun _ wq => wq.rangeLeft b1 nR)
      case atStart => exact ⟨[], lr, HMN.out.below HBR.out, HRG0.out, by simp, fun x hx => .inl hx, fun x hx => hx, Tk.of HBR.out⟩
      case round =>
        obtain ⟨O, rem, hmO, hRg, hin, hall, hsub, htkq⟩ := hrel
        have HMO := Lib.hid hmO
        have HIN := Lib.hid hin
        have HALL := Lib.hid hall
        have HSUB := Lib.hid hsub
        have HTKQ := Lib.hid htkq
        have HBQ := Lib.hid (HBN.out.trans (htkq.below HBN.out.size HBO2.out))
        have HSQ := Lib.hid (show Mp Try.prog 43 r2V bV wr bs (blR S) from HSN.out.same (htkq.block bs ⟨HSN.out.lt, HBON.out⟩))
        clear HRG0 HBR hmO hin hall hsub htkq
        go_wp2_with (at_next; go_must (refine wpList_mp_next _ rfl _ rfl rfl hRg ?_ ?_))
        · intro hrem
          subst hrem
          have HOL := Lib.hid (show O.length ≤ 4096 from by
            have h1 := nodup_le (mp_nodup HMO.out) fun x hx => (HIN.out x hx).1
            rw [List.length_map] at h1
            have := HSZ.out
            omega)
          have HS := Lib.hid (sortedP_any bo O wr HMO.out (by have := HOL.out; omega))
          clear hRg
          go_wp2_with fail
          refine HS.out.mono ?_
          rintro e wz ⟨v, ss, rfl, hp, hu, ho, hb⟩
          have HP := Lib.hid hp
          have HU := Lib.hid hu
          have HBW := Lib.hid (HB2.out.trans (HBQ.out.mono HB2.out.size))
          have HOW := Lib.hid (ho.mono HBW.out.size)
          have HBE := Lib.hid (HBW.out.trans (hb.mono HBW.out.size))
          clear HS hp hu ho hb
          go_wp2_with fail
          go_ret
          refine ⟨v, ss, S, rfl, HLE.out, HCLS.out, HU.out, fun x => ?_, HOW.out, HBE.out⟩
          rw [HP.out.mem_iff]
          refine ⟨HIN.out x, fun ⟨h1, h2⟩ => ?_⟩
          rw [← HLP.out] at h1
          obtain ⟨y, hy, e⟩ := List.mem_map.1 h1
          obtain ⟨z, hz, e2⟩ := List.mem_map.1 hy
          subst e2
          dsimp only at e
          subst e
          rcases HALL.out z hz with h | h | h
          · cases h
          · exact absurd h h2
          · exact h
        · rintro pre ⟨kt, kr⟩ p pv post w7 hrem hRg2 hk2 hs2 hen
          have hum : ((⟨kt, kr⟩, (p, pv)) : R2 × RV) ∈ lr := HSUB.out _ (by rw [hrem]; simp)
          have hup : (⟨⟨kt, kr⟩, p⟩ : R2 × RT) ∈ refsOf ts := by rw [← HLP.out]; exact List.mem_map.2 ⟨_, hum, rfl⟩
          have HKM := Lib.hid (show (⟨kt, kr⟩ : R2) ∈ (refsOf ts).map (·.1) from List.mem_map.2 ⟨_, hup, rfl⟩)
          have HKO := Lib.hid (refs_okk HOK.out hup).1
          have htk7 : Tk bo wn w7 := Kept.trans HTKQ.out (hk2.mono fun x hx => by have := HNRL.out; have := hx.1; show x ≠ nR; omega)
          have hM7 : Mp Try.prog 43 r2V bV w7 bo (blR O) := HMO.out.same (hk2.block bo (fun e => HNRB.out e.symm))
          have hS7 : Mp Try.prog 43 r2V bV w7 bs (blR S) := HSN.out.same (htk7.block bs ⟨HSN.out.lt, HBON.out⟩)
          obtain ⟨w8, hw8⟩ : ∃ x, x = w7.alloc (.cells #[.string kt, .string kr] 43) := ⟨_, rfl⟩
          have x78 : Ext w7 w8 := by rw [hw8]; exact Ext.alloc _ _
          have HK8 := Lib.hid (show Blk w8 w7.heap.size #[.string kt, .string kr] 43 from by rw [hw8]; exact Blk.made _ _ _)
          have k8 := HK8.out.cells
          have HTK8 := Lib.hid (show Tk bo wn w8 from Tk.next htk7 (Tk.of x78))
          have HM8 := Lib.hid (hM7.below x78)
          have hlk := set_look (hS7.below x78) ⟨kt, kr⟩ HKO.out
          have HRG8 := Lib.hid (hRg2.below x78)
          have HREM := Lib.hid hrem
          have HRL := Lib.hid (show wr.rangeLeft b1 nR = rem.length from hRg.left_eq)
          obtain ⟨wb, hst, hMB, hTB⟩ := HM8.out.store refK r2V_inj Try.underlying68 (ref_key ⟨kt, kr⟩ HKO.out) true
          rw [put_addR] at hMB
          have HMB := Lib.hid hMB
          have HRB := Lib.hid (HRG8.out.kept hTB.kept (by have := HMO.out.lt; have := HB1.out; have := HBO2.out; omega) HNRB.out)
          have HTKB := Lib.hid (Tk.next HTK8.out (Tk.turned hTB))
          unfold r2V rvV rV at hen
          unfold r2V at hlk
          unfold r2V bV at hst
          dsimp only at hen hlk hst
          subst hw8
          clear hum hup htk7 hM7 hS7 x78 hRg2 hRg hk2 hs2 hMB hTB
          cases hin : decide ((⟨kt, kr⟩ : R2) ∈ S) with
          | true =>
            rw [hin] at hlk
            have HINS := Lib.hid (of_decide_eq_true hin)
            clear hrem hin hst
            go_wp2_with fail
            go_roundw
            case rel =>
              refine ⟨O, pre ++ post, HM8.out, HRG8.out, HIN.out, fun x hx => ?_, fun x hx => HSUB.out x (by rw [HREM.out]; rcases List.mem_append.1 hx with h | h <;> simp [h]), HTK8.out⟩
              rcases HALL.out x hx with h | h
              · rw [HREM.out] at h
                rcases List.mem_append.1 h with h | h
                · exact .inl (List.mem_append_left _ h)
                · rcases List.mem_cons.1 h with rfl | h
                  · exact .inr (.inl HINS.out)
                  · exact .inl (List.mem_append_right _ h)
              · exact .inr h
            case measure => rw [HRG8.out.left_eq, HRL.out, HREM.out]; simp
          | false =>
            rw [hin] at hlk
            have HINS := Lib.hid (of_decide_eq_false hin)
            clear hrem hin
            go_wp2_with fail
            go_roundw
            case rel =>
              refine ⟨addR O ⟨kt, kr⟩, pre ++ post, HMB.out, HRB.out, fun x hx => ?_, fun x hx => ?_, fun x hx => HSUB.out x (by rw [HREM.out]; rcases List.mem_append.1 hx with h | h <;> simp [h]), HTKB.out⟩
              · rcases (addR_mem _ _ _).1 hx with h | rfl
                · exact HIN.out x h
                · exact ⟨HKM.out, HINS.out⟩
              · rcases HALL.out x hx with h | h | h
                · rw [HREM.out] at h
                  rcases List.mem_append.1 h with h | h
                  · exact .inl (List.mem_append_left _ h)
                  · rcases List.mem_cons.1 h with rfl | h
                    · exact .inr (.inr ((addR_mem _ _ _).2 (.inr rfl)))
                    · exact .inl (List.mem_append_right _ h)
                · exact .inr (.inl h)
                · exact .inr (.inr ((addR_mem _ _ _).2 (.inl h)))
            case measure => rw [HRB.out.left_eq, HRL.out, HREM.out]; simp

end Go.Proofs.Ytfhonficpccegaa
