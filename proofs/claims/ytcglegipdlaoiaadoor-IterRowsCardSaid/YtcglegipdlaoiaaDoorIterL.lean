/- The walk of sentrylaw19's IterParted. No condition: lemmas. -/
import Derived.Test.YtcglegipdlaoiaaDoorIterK
namespace Go.Proofs.YtcglegipdlaoiaaDoor
open Go Go.RowKit

theorem ec_one (l : List Ent) : ∀ u ∈ ec l, u.oneCell' = true := by
  intro u hu
  obtain ⟨x, _, hx⟩ := List.mem_flatMap.1 hu
  unfold eC at hx
  simp only [List.mem_cons, List.mem_nil_iff, or_false] at hx
  rcases hx with rfl | rfl | rfl <;> rfl
theorem flat_sum : ∀ ls : List (List Ent), ls.flatten.length = sumE ls
  | [] => rfl
  | l :: ls => by rw [List.flatten_cons, List.length_append, flat_sum ls]; rfl
theorem flat_take (ls : List (List Ent)) {i : Nat} (hi : i < ls.length) : (ls.take (i + 1)).flatten = (ls.take i).flatten ++ ls[i] := by
  rw [List.take_succ_eq_append_getElem hi, List.flatten_append]; simp

def parts (ls : List (List Ent)) : List (List Ent) := [ls.flatten, [], ls.flatten]
theorem rowsLL_mem (ls : List (List Ent)) (x : ByteArray) : x ∈ allL (rowsLL ls) ↔ ∃ l ∈ ls, ∃ e ∈ l, x = innerA e := by
  rw [all_mem]
  constructor
  · rintro ⟨r, hr, hx⟩
    obtain ⟨l, hl, rfl⟩ := mem_rowsLL hr
    exact ⟨l, hl, (rowsL_mem l x).1 hx⟩
  · rintro ⟨l, hl, hx⟩
    exact ⟨rowsL l, List.mem_map_of_mem hl, (rowsL_mem l x).2 hx⟩
theorem parts_all (ls : List (List Ent)) : allL (rowsLL (parts ls)) = allL (rowsLL ls) := by
  refine up_ext (all_up _) (all_up _) fun x => ?_
  rw [rowsLL_mem, rowsLL_mem]
  constructor
  · rintro ⟨l, hl, e, he, rfl⟩
    have : l = ls.flatten ∨ l = [] := by
      unfold parts at hl
      simp only [List.mem_cons, List.mem_nil_iff, or_false] at hl
      rcases hl with h | h | h
      · exact .inl h
      · exact .inr h
      · exact .inl h
    rcases this with rfl | rfl
    · obtain ⟨l', hl', he'⟩ := List.mem_flatten.1 he
      exact ⟨l', hl', e, he', rfl⟩
    · cases he
  · rintro ⟨l, hl, e, he, rfl⟩
    exact ⟨ls.flatten, by simp [parts], e, List.mem_flatten.2 ⟨l, hl, he⟩, rfl⟩
theorem parts_ok {ls : List (List Ent)} (h : few19B ls = true) (hu : ∀ l ∈ ls, ∀ e ∈ l, U64 e.2.1) : LawOk (parts ls) := by
  have hf := few19_of h
  have hmem : ∀ l ∈ parts ls, ∀ e ∈ l, ∃ l' ∈ ls, e ∈ l' := by
    intro l hl e he
    unfold parts at hl
    simp only [List.mem_cons, List.mem_nil_iff, or_false] at hl
    rcases hl with rfl | rfl | rfl
    · obtain ⟨l', hl', he'⟩ := List.mem_flatten.1 he; exact ⟨l', hl', he'⟩
    · cases he
    · obtain ⟨l', hl', he'⟩ := List.mem_flatten.1 he; exact ⟨l', hl', he'⟩
  refine law_ok ?_ (by simp [parts]) (fun l hl e he => ?_) (fun l hl e he => ?_)
  · have := hf.sum
    have h2 := flat_sum ls
    show sumE [ls.flatten, [], ls.flatten] ≤ 1000
    simp only [sumE, List.length_nil]
    omega
  · obtain ⟨l', hl', he'⟩ := hmem l hl e he; exact hf.key l' hl' e he'
  · obtain ⟨l', hl', he'⟩ := hmem l hl e he; exact hu l' hl' e he'

theorem allL_nil (rows : List (List ByteArray)) : allL (rows ++ [[]]) = allL rows := by
  unfold allL; rw [List.foldl_append]; rfl
theorem srcOk_nil {rows : List (List ByteArray)} (h : SrcOk rows) : SrcOk (rows ++ [[]]) := by
  have : ∀ r ∈ rows ++ [[]], r ∈ rows ∨ r = [] := fun r hr => by simpa using hr
  refine ⟨fun r hr => ?_, fun r hr => ?_, fun r hr k hk => ?_⟩
  · rcases this r hr with h1 | rfl
    · exact h.up r h1
    · exact List.Pairwise.nil
  · rcases this r hr with h1 | rfl
    · exact h.len r h1
    · simp
  · rcases this r hr with h1 | rfl
    · exact h.key r h1 k hk
    · cases hk
/-- A source that is nil is appended. -/
theorem srcs_nil {w w' : World} {B : Nat} {v' : Value} {rows : List (List ByteArray)} {vs : List Value} (hB : B ≤ w.heap.size) (h2 : vs.length = rows.length)
    (h3 : ∀ i (h : i < vs.length) (h' : i < rows.length), ∃ sv, vs[i] = .iface 48 sv ∧ Sl (· < B) w 1 sv (sc rows[i]))
    (hv : Own w' B 66 1 v' (vs ++ [.nilIface])) (hb : Below B w w') : Srcs w' v' (rows ++ [[]]) := by
  refine ⟨_, hv.slU, by simp [h2], fun i hi hi' => ?_⟩
  by_cases hlt : i < vs.length
  · rw [List.getElem_append_left hlt, List.getElem_append_left (by omega)]
    obtain ⟨sv, e, h⟩ := h3 i hlt (by omega)
    exact .inr ⟨sv, e, (h.same (Same.below hb)).mono fun _ h => Nat.lt_of_lt_of_le h (Nat.le_trans hB hb.size)⟩
  · obtain rfl : i = vs.length := by simp at hi; omega
    rw [List.getElem_append_right (Nat.le_refl _), List.getElem_append_right (by omega)]
    simp only [Nat.sub_self, List.getElem_cons_zero, h2]
    exact .inl ⟨rfl, rfl⟩

/-- Three rows in a new block. -/
theorem rwsE3 (w : World) (v : Value) (l : List Ent) (h : RowE w v l) :
    RwsE (w.alloc (.cells #[v, .slice none 0 0, v] 44)) (.slice (some ⟨w.heap.size, 0, none⟩) 3 3) [l, [], l] := by
  have hb : Below w.heap.size w (w.alloc (.cells #[v, .slice none 0 0, v] 44)) := (Below.refl _ _).alloc (Nat.le_refl _) _
  refine ⟨[v, .slice none 0 0, v], Sl.made w _ 1 3 44 #[v, .slice none 0 0, v] rfl (by decide) (by simp), rfl, fun i hi hi' => ?_⟩
  match i, hi with
  | 0, _ => exact h.up hb
  | 1, _ => exact Sl.nil _ _ _
  | 2, _ => exact h.up hb

set_option maxRecDepth 100000 in
set_option maxHeartbeats 3200000 in
theorem iterParted_law (x : Value) (ls : List (List Ent)) (key : ByteArray) (rev : Nat) (w : World) (henv : Env w) (hx : RwsE w x ls) (hL : ∀ l ∈ ls, l.length ≤ 4398046511104) (hu : ∀ l ∈ ls, ∀ e ∈ l, U64 e.2.1) (hr : U64 rev) :
    Calls Tryd.prog 5 #[x, .string key, .int .u64 rev] w (RetV (.bool true) w) := by
  have HX := Lib.hid hx
  have HU := Lib.hid hu
  have HL := Lib.hid hL
  have HEN := Lib.hid henv
  have HFX := Lib.hid (fixed19 w henv)
  have HFEW := Lib.hid (fun b W (hb : Below w.heap.size w W) h => few19_is (b := b) x ls W (HX.out.up hb) HL.out h)
  have hxs := hx
  clear hx hu hL henv
  by_cases hfew : few19B ls = true
  · have HOK := Lib.hid (few_law hfew HU.out)
    have HPK := Lib.hid (parts_ok hfew HU.out)
    have HFW := Lib.hid hfew
    have HSUM := Lib.hid (few19_of hfew).sum
    clear hfew
    by_cases hk : key.size ≤ 200
    · have hki : (key.size : Int) ≤ 200 := by omega
      have HG := Lib.hid (get_law HOK.out key hr)
      have HG2 := Lib.hid (show getAns key (ansOf (bestL (rowsLL (parts ls)) (innerA (key, rev, true)))) = ansGet (refGetL ((allL (rowsLL ls)).map decoD) key rev) from by rw [get_law HPK.out key hr, parts_all])
      obtain ⟨ao, c, rfl, hac, hcm, hacell⟩ := hxs.get
      have HAC := Lib.hid hacell
      clear hacell hxs
      go_enter Tryd.func5, Tryd.ntmps5
      go_wp2_with fail
      refine HFX.out.mono ?_
      rintro e w1 ⟨rfl, hb1⟩
      go_wp2_with fail
      refine (HFEW.out _ _ hb1 HFW.out).mono ?_
      rintro e w2 ⟨rfl, hb2⟩
      have hb02 := hb1.trans (hb2.mono hb1.size)
      clear hb1 hb2
      go_wp2_with fail
      go_loopw [7, 34] (fun vv ii wr => ∃ i : Nat, i ≤ ls.length ∧ ii = .int .i64 i ∧ Own wr w.heap.size 29 3 vv (ec (ls.take i).flatten) ∧ Below w.heap.size w wr) (fun _ ii _ => ls.length - (intOf ii).toNat)
      case atStart => exact ⟨0, by omega, rfl, Own.nil _ _ _ _, hb02⟩
      case round =>
        obtain ⟨i, hi, rfl, hown, hbel⟩ := hrel
        by_cases hlt : i < ls.length
        · obtain ⟨b, off, rfl, hbb, hc⟩ := HAC.out (by omega)
          obtain ⟨u, hci, hru⟩ := hc i hlt
          have hci := (hbel.cell (p := ⟨b, off + i, none⟩) hbb).trans hci
          have hru2 : RowE wr u ls[i] := hru.up hbel
          obtain ⟨eo, en, ecp, rfl, _, _, _⟩ := hru.len
          have HT := Lib.hid (flat_take ls hlt)
          have hs1 : (ec (ls.take i).flatten).length ≤ 450 := by rw [ec_length, flat_sum]; have := sumE_le ls i; have := HSUM.out; omega
          have hs2 : (ec ls[i]).length ≤ 450 := by rw [ec_length]; have := len_sumE (List.getElem_mem hlt); have := HSUM.out; omega
          have HO := Lib.hid hown
          have HRU := Lib.hid hru2
          have hbs := hbel.size
          clear hc hru hru2 hown
          go_wp2_with (at_builtin; go_must (refine wpList_own entsT rfl (.tmp 38) (.tmp 39) rfl rfl HO.out rfl HRU.out (ec_one _) (by omega) (by omega) hbs ?_); intro v6 w6 hown6 hb6 _)
          rw [← ec_append, ← HT.out] at hown6
          have HO6 := Lib.hid hown6
          clear hown6
          go_roundw
          case rel => exact ⟨i + 1, by omega, by go_num, HO6.out, hbel.trans hb6⟩
          case measure => simp [intOf]; omega
        · obtain rfl : i = ls.length := by omega
          rw [List.take_length] at hown
          have hwx : RwsE wr (.slice ao ls.length c) ls := HX.out.up hbel
          have HWX := Lib.hid hwx
          obtain ⟨fo, fn, fc, rfl, _, _, _⟩ := hown.sl.len
          have HO := Lib.hid (show RowE wr (.slice fo fn fc) ls.flatten from hown.slU)
          clear hown hwx hb02
          go_wp2_with fail
          refine (rows19_any _ ls wr HWX.out HOK.out.n HOK.out.len HU.out HOK.out.key).mono ?_
          rintro e w3 ⟨v3, rfl, ho3, hb3⟩
          have hb03 := hbel.trans (hb3.mono hbel.size)
          have HR3 := Lib.hid ho3.rws
          have HO3 := Lib.hid (HO.out.up hb3)
          clear ho3 hbel hb3 HWX HO
          go_wp2_with fail
          refine (sources_any v3 _ w3 HR3.out HOK.out.rws.len).mono ?_
          rintro e w4 ⟨v4, rfl, ho4, hb4⟩
          have hb04 := hb03.trans (hb4.mono hb03.size)
          have HA4 := Lib.hid (ho4.srcs hb4.size)
          have HO4 := Lib.hid (HO3.out.up hb4)
          clear ho4 HR3 HO3 hb03 hb4
          have HE5 := Lib.hid (show Below w4.heap.size w4 (w4.alloc (.cells #[.slice fo fn fc, .slice none 0 0, .slice fo fn fc] 44)) from (Below.refl _ _).alloc (Nat.le_refl _) _)
          have HR5 := Lib.hid (rwsE3 w4 (.slice fo fn fc) ls.flatten HO4.out)
          have hb05 := hb04.alloc hb04.size (.cells #[.slice fo fn fc, .slice none 0 0, .slice fo fn fc] 44)
          have HA5 := Lib.hid (HA4.out.up HE5.out)
          clear HA4 HO4 HE5 hb04
          go_wp2_with fail
          refine (rows19_any _ (parts ls) _ HR5.out HPK.out.n HPK.out.len (fun l hl e he => by
            unfold parts at hl
            simp only [List.mem_cons, List.mem_nil_iff, or_false] at hl
            rcases hl with rfl | rfl | rfl
            · obtain ⟨l', hl', he'⟩ := List.mem_flatten.1 he; exact HU.out l' hl' e he'
            · cases he
            · obtain ⟨l', hl', he'⟩ := List.mem_flatten.1 he; exact HU.out l' hl' e he') HPK.out.key).mono ?_
          rintro e w6 ⟨v6, rfl, ho6, hb6⟩
          have hb06 := hb05.trans (hb6.mono hb05.size)
          have HA6 := Lib.hid (HA5.out.up hb6)
          have HR6 := Lib.hid ho6.rws
          clear ho6 HR5 HA5 hb05 hb6
          go_wp2_with fail
          refine (sources_any v6 _ w6 HR6.out HPK.out.rws.len).mono ?_
          rintro e w7 ⟨v7, rfl, ho7, hb7⟩
          have hb07 := hb06.trans (hb7.mono hb06.size)
          have HA7 := Lib.hid (HA6.out.up hb7)
          have HB7 := Lib.hid ho7
          have hs67 := hb7.size
          have HWB := Lib.hid hb06.size
          clear ho7 HA6 HR6 hb06 hb7
          generalize w6.heap.size = B at *
          go_wp2_with fail
          refine (get_any v4 _ key rev w7 (HEN.out.below hb07) HA7.out HOK.out.src hr (by omega)).mono ?_
          rintro e w8 ⟨rfl, hb8⟩
          rw [HG.out]
          have hb08 := hb07.trans (hb8.mono hb07.size)
          generalize refGetL ((allL (rowsLL ls)).map decoD) key rev = o at *
          obtain ⟨yk, yr, yd, ok, cd, hans⟩ : ∃ yk yr yd ok cd, ansGet o = ((yk, yr, yd), ok, cd) := ⟨_, _, _, _, _, rfl⟩
          rw [hans] at HG HG2 ⊢
          unfold ansV
          dsimp only
          have hb09 := hb08.alloc hb08.size (.cells #[.string yk, .int .u64 yr, .bool yd] 29)
          have hX9 := Blk.made w8 #[.string yk, .int .u64 yr, .bool yd] 29
          have hE9 : Below w7.heap.size w7 (w8.alloc (.cells #[.string yk, .int .u64 yr, .bool yd] 29)) := hb8.alloc hb8.size _
          have HA9 := Lib.hid (HA7.out.up hE9)
          have HB9 := Lib.hid (HB7.out.below hs67 hE9)
          have hs9 : B ≤ (w8.alloc (.cells #[.string yk, .int .u64 yr, .bool yd] 29)).heap.size := Nat.le_trans hs67 hE9.size
          clear HA7 HB7 hb07 hb8 hb08 hE9 hs67 hans HG
          go_wp2_with fail
          refine (get_any v7 _ key rev _ (HEN.out.below hb09) (HB9.out.srcs hs9) HPK.out.src hr (by omega)).mono ?_
          rintro e w10 ⟨rfl, hb10⟩
          rw [HG2.out]
          have hb010 := hb09.trans (hb10.mono hb09.size)
          have hX10 := hX9.below hb10
          have HA10 := Lib.hid (HA9.out.up hb10)
          have HB10 := Lib.hid (HB9.out.below hs9 hb10)
          have hs10 := Nat.le_trans hs9 hb10.size
          have hb11 := hb010.alloc hb010.size (.cells #[.string yk, .int .u64 yr, .bool yd] 29)
          have hE11 : Below w10.heap.size w10 (w10.alloc (.cells #[.string yk, .int .u64 yr, .bool yd] 29)) := (Below.refl _ _).alloc (Nat.le_refl _) _
          have hX11 := hX10.below hE11
          have hY11 := Blk.made w10 #[.string yk, .int .u64 yr, .bool yd] 29
          have HA11 := Lib.hid (HA10.out.up hE11)
          have HB11 := Lib.hid (HB10.out.below hs10 hE11)
          have hs11 := Nat.le_trans hs10 hE11.size
          clear HA9 HB9 hb09 hb10 hX9 HA10 HB10 hs9 hs10 hE11 hb010 HG2 hX10
          unfold ansV
          dsimp only
          go_wp2_with fail
          refine (scan_any v4 _ key ⟨#[]⟩ rev 0 _ (HEN.out.below hb11) HA11.out HOK.out.src hr (by omega) HOK.out.all).mono ?_
          rintro e w12 ⟨v12, rfl, ho12, hb12⟩
          have hb012 := hb11.trans (hb12.mono hb11.size)
          have hX12 := hX11.below hb12
          have hY12 := hY11.below hb12
          have HB12 := Lib.hid (HB11.out.below hs11 hb12)
          have hs12 := Nat.le_trans hs11 hb12.size
          have HK12 := Lib.hid ho12
          clear ho12 hb12 hX11 hY11 HA11 HB11 hs11 hb11
          obtain ⟨bvs, g1, g2, g3⟩ := HB12.out
          have HG1 := Lib.hid g1
          have HG2 := Lib.hid g2
          have HG3 := Lib.hid g3
          have hvl : bvs.length ≤ 1000 := by rw [g2]; exact HPK.out.rws.len
          clear g1 g2 g3 HB12
          go_wp2_with (at_builtin; go_must (refine wpList_own_lit srcsT rfl (.tmp 74) (.tmp 75) rfl rfl HG1.out rfl rfl (by simp [Value.oneCell']) (by simp; omega) (by simp; omega) hs12 ?_); intro v13 w13 hown13 hb13 hg13)
          have hb013 : Below w.heap.size w w13 := hb012.trans (hb13.mono (Nat.le_trans HWB.out (Nat.le_refl B)))
          have hX13 := hX12.aside HG1.out (by decide) hg13
          have hY13 := hY12.aside HG1.out (by decide) hg13
          have HK13 := Lib.hid (HK12.out.aside HG1.out (by decide) hg13)
          have HS13 := Lib.hid (srcs_nil hs12 HG2.out HG3.out hown13 hb13)
          have HSK := Lib.hid (srcOk_nil HPK.out.src)
          have HALL := Lib.hid (show allL (rowsLL (parts ls) ++ [[]]) = allL (rowsLL ls) from by rw [allL_nil, parts_all])
          clear hX12 hY12 HK12 hg13 hown13 hb13 HG1 HG2 HG3 hs12 hb012
          refine (scan_any v13 _ key ⟨#[]⟩ rev 0 _ (HEN.out.below hb013) HS13.out HSK.out hr (by omega) (by rw [HALL.out]; exact HOK.out.all)).mono ?_
          rintro e w14 ⟨v14, rfl, ho14, hb14⟩
          rw [HALL.out] at ho14 ⊢
          have hb014 := hb013.trans (hb14.mono hb013.size)
          have hX14 := hX13.below hb14
          have hY14 := hY13.below hb14
          have HK14 := Lib.hid (HK13.out.below hb14).slU
          have HM14 := Lib.hid ho14.slU
          have hxc := hX14.cells
          have hyc := hY14.cells
          clear ho14 hb14 hX13 hY13 HK13 HS13 hb013 hX14 hY14
          go_wp2_with fail
          refine (same_any v12 v14 _ _ w14 _ _ HK14.out HM14.out).mono ?_
          rintro e w15 ⟨rfl, hb15⟩
          rw [decide_eq_true (rfl : (scanL (allL (rowsLL ls)) key ⟨#[]⟩ rev 0).1 = _)]
          go_wp2_with fail
          go_ret
          exact ⟨rfl, hb014.trans (hb15.mono hb014.size)⟩
    · have hki : (200 : Int) < key.size := by omega
      go_enter Tryd.func5, Tryd.ntmps5
      go_wp2_with fail
      refine HFX.out.mono ?_
      rintro e w1 ⟨rfl, hb1⟩
      go_wp2_with fail
      refine (HFEW.out _ _ hb1 HFW.out).mono ?_
      rintro e w2 ⟨rfl, hb2⟩
      go_wp2_with fail
      go_ret
      exact ⟨rfl, hb1.trans (hb2.mono hb1.size)⟩
  · have hfew : few19B ls = false := by simpa using hfew
    have HFW := Lib.hid hfew
    clear hfew
    go_enter Tryd.func5, Tryd.ntmps5
    go_wp2_with fail
    refine HFX.out.mono ?_
    rintro e w1 ⟨rfl, hb1⟩
    go_wp2_with fail
    refine (HFEW.out _ _ hb1 HFW.out).mono ?_
    rintro e w2 ⟨rfl, hb2⟩
    go_wp2_with fail
    go_ret
    exact ⟨rfl, hb1.trans (hb2.mono hb1.size)⟩

end Go.Proofs.YtcglegipdlaoiaaDoor
