/- The walk of the document's points of a subject. No condition: lemmas. -/
import Derived.Test.YtcbgemnmehoeaaaFltB
namespace Go.Proofs.Ytcbgemnmehoeaaa
open Go Go.RowKit Go.Maps

/-- The law of append to a row of the call's own, beside blocks that are not the row's. -/
theorem wpList_owns {P : Program} {w : World} {ops : Array Oper} {rest : List Oper} {o : Oper} {a : Act} {Q : Exit → Act → World → Prop} {t e : TypeId} {size bytes : Nat} (E : ElemT P t e size bytes)
    (hg : o.guard = none) (s x : Operand) (hop : o.op = Op.call { callee := Callee.builtin Builtin.append, args := #[s, x], argTypes := #[t, t] })
    {B : Nat} {v : Value} {xs : List Value} (hs : a.eval s = v) (hown : Own w B e size v xs) {ad : Addr} {m c : Nat} {news : List Value} (hx : a.eval x = .slice (some ad) m c) (hn : news.length = m * size)
    (hc : ∀ j u, news[j]? = some u → w.cell? (ad.add j) = some u) (h1 : ∀ u ∈ news, u.oneCell' = true)
    (hlen : xs.length + news.length ≤ 9223372036854775807) (hbytes : (xs.length + news.length) * bytes ≤ 140737488355328) (hB : B ≤ w.heap.size)
    (S : Nat → Prop) (hq : ∀ b, S b → b < w.heap.size) (hne : ∀ g, v.ownBlock = some g → ¬ S g)
    (K : ∀ v' w', Own w' B e size v' (xs ++ news) → Below B w w' → (∀ g, v'.ownBlock = some g → ¬ S g) → (∀ b, S b → w'.heap[b]? = w.heap[b]?) → w.heap.size ≤ w'.heap.size → wpList P ops Q rest (a.put o.dst v') w') : wpList P ops Q (o :: rest) a w := by
  obtain ⟨hund, ⟨i, z, hi, hz, h4, h5, h6⟩, hpos⟩ := E
  obtain ⟨k, hown⟩ := hown
  have e1 : ∀ k l : Nat, k ≤ l * size → l * size ≤ k → l ≤ k := fun k l _ hb => Nat.le_trans (Nat.le_mul_of_pos_right l hpos) hb
  have hnl : k ≤ xs.length := e1 _ _ (Nat.le_of_eq hown.1) (Nat.le_of_eq hown.1.symm)
  have hml : m ≤ news.length := e1 _ _ (Nat.le_of_eq hn) (Nat.le_of_eq hn.symm)
  have hb47 : (k + m) * bytes ≤ 140737488355328 := Nat.le_trans (Nat.mul_le_mul_right _ (by omega)) hbytes
  refine wpList_append_own_at w hg s x t hop B e i z size bytes hund hi hz h4 h5 h6 hpos v k xs hs hown ad m c news hx hn hc h1 (by unfold maxLen; omega) hb47 hB (fun v' w' h h' _ h3 => ?_)
  refine K v' w' ⟨_, h⟩ ((Below.refl B w).grown h' hB (fun k hk => (hown.lt k hk).1)) (fun g hg' hS => ?_) (fun b hb => h'.block b (hq b hb) fun e => hne b e.symm hb) h'.size
  rcases h3 with h3 | h3
  · exact hne g (h3 ▸ hg') hS
  · rw [h3] at hg'
    injection hg' with hg'
    have := hq g hS
    omega

/-- The loop over the tuples, plainly. -/
def PtD (l : List Tup) (s : P3) (i : Nat) (all : List P3) : Prop := ∀ x, x ∈ all ↔ ∃ t ∈ l.take i, t.o = x ∧ Der (· ∈ l) x s
/-- What a tuple's turn adds. -/
def hitP (ms : List P3) (s p : P3) (all : List P3) : List P3 := if s ∈ ms then all ++ [p] else all
theorem hitP_none (s p : P3) (all : List P3) : hitP [] s p all = all := by simp [hitP]
theorem hitP_skip {ms : List P3} {k : Nat} (hk : k < ms.length) {s p : P3} {all : List P3} (h : ms[k] ≠ s) : hitP (ms.take (k + 1)) s p all = hitP (ms.take k) s p all := by
  have h1 : s ∈ ms.take (k + 1) ↔ s ∈ ms.take k := by
    rw [List.take_succ_eq_append_getElem hk, List.mem_append, List.mem_singleton]
    exact ⟨fun h2 => h2.resolve_right (Ne.symm h), .inl⟩
  unfold hitP
  by_cases hs : s ∈ ms.take k
  · rw [if_pos hs, if_pos (h1.2 hs)]
  · rw [if_neg hs, if_neg (fun h2 => hs (h1.1 h2))]
theorem hitP_hit {ms : List P3} {k : Nat} (hk : k < ms.length) (hn : ms.Nodup) {s p : P3} {all : List P3} (h : ms[k] = s) : hitP (ms.take (k + 1)) s p all = hitP (ms.take k) s p all ++ [p] := by
  have h1 : s ∉ ms.take k := by
    intro hs
    rw [← List.take_append_drop k ms, List.nodup_append] at hn
    exact hn.2.2 s hs s (by rw [← h, List.drop_eq_getElem_cons hk]; exact List.mem_cons_self) rfl
  unfold hitP
  rw [List.take_succ_eq_append_getElem hk, if_neg h1, if_pos (List.mem_append_right _ (List.mem_singleton.2 h.symm))]
theorem hitP_length (ms : List P3) (s p : P3) (all : List P3) : (hitP ms s p all).length ≤ all.length + 1 := by
  unfold hitP
  split <;> simp
theorem PtD.step {l : List Tup} {s : P3} {i : Nat} {all ms : List P3} (hi : i < l.length) (h : PtD l s i all) (hm : ∀ x, x ∈ ms ↔ Der (· ∈ l) l[i].o x) : PtD l s (i + 1) (hitP ms s l[i].o all) := fun x => by
  have h1 : x ∈ hitP ms s l[i].o all ↔ x ∈ all ∨ (x = l[i].o ∧ s ∈ ms) := by
    unfold hitP
    by_cases hs : s ∈ ms <;> simp [hs]
  rw [h1, h x, hm s, List.take_succ_eq_append_getElem hi]
  constructor
  · rintro (⟨t, ht, h⟩ | ⟨rfl, hd⟩)
    · exact ⟨t, List.mem_append_left _ ht, h⟩
    · exact ⟨l[i], List.mem_append_right _ (List.mem_singleton.2 rfl), rfl, hd⟩
  · rintro ⟨t, ht, rfl, hd⟩
    rcases List.mem_append.1 ht with ht | ht
    · exact .inl ⟨t, ht, rfl, hd⟩
    · obtain rfl := List.mem_singleton.1 ht
      exact .inr ⟨rfl, hd⟩
theorem PtD.last {l : List Tup} {s : P3} {all : List P3} (h : PtD l s l.length all) (x : P3) : x ∈ all ↔ Der (· ∈ l) x s := by
  rw [h x, List.take_length]
  constructor
  · rintro ⟨_, _, _, h⟩
    exact h
  · intro hd
    obtain ⟨t, ht, rfl⟩ := List.mem_map.1 (der_from hd)
    exact ⟨t, ht, rfl, hd⟩

set_option maxRecDepth 100000 in
set_option maxHeartbeats 8000000 in
theorem refPts_any (v : Value) (l : List Tup) (s : P3) (w : World) (h : Sl (· < w.heap.size) w 6 v (tcs l)) (hl : l.length ≤ 100) : Calls Try.prog 21 #[v, pV s] w fun e w' => ∃ (v' : Value) (out : List P3), e = .returned v' ∧ UpP out ∧ (∀ x, x ∈ out ↔ Der (· ∈ l) x s) ∧ Own w' w.heap.size 37 3 v' (pcs out) ∧ Below w.heap.size w w' := by
  obtain ⟨st, si, sr⟩ := s
  obtain ⟨w1, hw1⟩ : ∃ w1, w1 = w.alloc (.cells #[.string st, .string si, .string sr] 30) := ⟨_, rfl⟩
  have hb1 : Below w.heap.size w w1 := by rw [hw1]; exact (Below.refl _ _).alloc (Nat.le_refl _) _
  have hBS : Blk w1 w.heap.size #[.string st, .string si, .string sr] 30 := by rw [hw1]; exact Blk.made w _ _
  have HSL := Lib.hid h
  have HB1 := Lib.hid hb1
  have HBS := Lib.hid hBS
  obtain ⟨ao, c, rfl, hlc, hcm, hcell⟩ := tups_rows h
  have HC := Lib.hid hcell
  have HL := Lib.hid hl
  clear hcell h hl hb1 hBS
  unfold pV
  dsimp only
  go_enter Try.func21, Try.ntmps21
  go_wp2_with fail
  try rw [← hw1]
  clear hw1
  go_loopw [5, 13] (fun vv ii wr => ∃ (i : Nat) (all : List P3), i ≤ l.length ∧ ii = .int .i64 i ∧ Own wr w1.heap.size 37 3 vv (pcs all) ∧ PtD l ⟨st, si, sr⟩ i all ∧ all.length ≤ i ∧ Below w1.heap.size w1 wr) (fun _ ii _ => l.length - (intOf ii).toNat)
  case atStart => exact ⟨0, [], by omega, rfl, Own.nil _ _ _ _, fun x => by simp, by simp, Below.refl _ _⟩
  case round =>
    obtain ⟨i, all, hi, rfl, hown, hpd, hal, hbel⟩ := hrel
    have HPD := Lib.hid hpd
    have HOW := Lib.hid hown
    have HBEL := Lib.hid hbel
    have HAL := Lib.hid hal
    clear hpd hown hal
    by_cases hlt : i < l.length
    · obtain ⟨b, off, rfl, hb, c0, c1, c2, c3, c4, c5⟩ := HC.out i hlt
      have hbw : Below w.heap.size w wr := HB1.out.trans (hbel.mono HB1.out.size)
      have d0 := (hbw.cell (p := ⟨b, off + i * 6, none⟩) hb).trans c0
      have d1 := (hbw.cell (p := ⟨b, off + i * 6 + 1, none⟩) hb).trans c1
      have d2 := (hbw.cell (p := ⟨b, off + i * 6 + 2, none⟩) hb).trans c2
      have d3 := (hbw.cell (p := ⟨b, off + i * 6 + 3, none⟩) hb).trans c3
      have d4 := (hbw.cell (p := ⟨b, off + i * 6 + 4, none⟩) hb).trans c4
      have d5 := (hbw.cell (p := ⟨b, off + i * 6 + 5, none⟩) hb).trans c5
      have HST := fun ms hm => Lib.hid (PtD.step (ms := ms) hlt HPD.out hm)
      clear c0 c1 c2 c3 c4 c5 hb
      generalize l[i] = t at *
      obtain ⟨⟨ot, oi, or_⟩, ⟨xt, xi, xr⟩⟩ := t
      dsimp only at *
      have hcT := (Blk.made wr #[.string ot, .string oi, .string or_, .string xt, .string xi, .string xr] 32).cells
      have hE2 : Ext wr ((wr.alloc (.cells #[.string ot, .string oi, .string or_, .string xt, .string xi, .string xr] 32)).alloc (.cells #[.string ot, .string oi, .string or_] 37)) := (Ext.alloc _ _).trans (Ext.alloc _ _)
      have hBP := Blk.made' (w := wr.alloc (.cells #[.string ot, .string oi, .string or_, .string xt, .string xi, .string xr] 32)) (B := wr.heap.size + 1) (by simp) #[.string ot, .string oi, .string or_] 37
      have HBP := Lib.hid hBP
      have hcP := hBP.cells
      have HM := Lib.hid (refMembers_any (.slice (some ⟨b, off, none⟩) l.length c) l ⟨ot, oi, or_⟩ _ (HSL.out.up (hbw.trans (Below.mono hE2 hbw.size))) HL.out)
      unfold pV at HM
      dsimp only at HM
      have HE2 := Lib.hid hE2
      have hsz2 : ((wr.alloc (.cells #[.string ot, .string oi, .string or_, .string xt, .string xi, .string xr] 32)).alloc (.cells #[.string ot, .string oi, .string or_] 37)).heap.size = wr.heap.size + 2 := by simp
      have HSZ2 := Lib.hid hsz2
      clear hBP hE2 hbel hbw hsz2
      go_wp2_with fail
      clear hcT hcP d0 d1 d2 d3 d4 d5
      generalize (wr.alloc (.cells #[.string ot, .string oi, .string or_, .string xt, .string xi, .string xr] 32)).alloc (.cells #[.string ot, .string oi, .string or_] 37) = wc at *
      refine HM.out.mono ?_
      rintro e w5 ⟨vm, ms, rfl, hmu, hmm, hmo, hb5⟩
      have HMU := Lib.hid hmu.nodup
      have HMM := Lib.hid hmm
      obtain ⟨mo, mc, rfl, hmc, hmcm, hmcell⟩ := pts_rows hmo.sl
      have HMC := Lib.hid hmcell
      have HE5 := Lib.hid (HE2.out.trans hb5)
      have HO5 := Lib.hid (HOW.out.below (HE2.out.trans hb5))
      have HB5 := Lib.hid (HBEL.out.trans (Below.mono (HE2.out.trans hb5) HBEL.out.size))
      have HP5 := Lib.hid (HBP.out.below hb5)
      have HS5 := Lib.hid (show ∀ g, u5.ownBlock = some g → ¬ (g = wr.heap.size + 1 ∨ (wc.heap.size ≤ g ∧ g < w5.heap.size)) from fun g hg => by have h1 := (HOW.out.block g hg).2; have h2 := HSZ2.out; omega)
      have hbp : wr.heap.size + 1 < w5.heap.size := by have h1 := hb5.size; have h2 := HSZ2.out; omega
      have HBPL := Lib.hid hbp
      have HW1 := Lib.hid (show w1.heap.size ≤ wr.heap.size from HBEL.out.size)
      clear HM hmu hmm hmo hb5 hmcell HBP HE2 HOW HBEL hbp
      go_wp2_with fail
      generalize wr.heap.size + 1 = bp at *
      go_loopw [5, 26] (fun vv kk wr => ∃ (k : Nat), k ≤ ms.length ∧ kk = .int .i64 k ∧ Own wr w1.heap.size 37 3 vv (pcs (hitP (ms.take k) ⟨st, si, sr⟩ ⟨ot, oi, or_⟩ all)) ∧ (∀ g, vv.ownBlock = some g → ¬ (g = bp ∨ (wc.heap.size ≤ g ∧ g < w5.heap.size))) ∧ (∀ b, (b = bp ∨ (wc.heap.size ≤ b ∧ b < w5.heap.size)) → wr.heap[b]? = w5.heap[b]?) ∧ w5.heap.size ≤ wr.heap.size ∧ Below w1.heap.size w1 wr) (fun _ kk _ => ms.length - (intOf kk).toNat)
      case atStart => exact ⟨0, by omega, rfl, by rw [List.take_zero, hitP_none]; exact HO5.out, HS5.out, fun _ _ => rfl, Nat.le_refl _, HB5.out⟩
      case round =>
        obtain ⟨k, hk, rfl, hown, hns, hsame, hsz, hbel⟩ := hrel
        have HNS := Lib.hid hns
        have HSM := Lib.hid hsame
        have HSZ := Lib.hid hsz
        by_cases hkl : k < ms.length
        · obtain ⟨xb, xf, rfl, hxb, c0, c1, c2⟩ := HMC.out k hkl
          have hcs : ∀ f, wr.cell? ⟨xb, f, none⟩ = w5.cell? ⟨xb, f, none⟩ := fun f => World.cell?_of_block (hsame xb (.inr hxb))
          have k0 := (hcs (xf + k * 3)).trans c0
          have k1 := (hcs (xf + k * 3 + 1)).trans c1
          have k2 := (hcs (xf + k * 3 + 2)).trans c2
          have HSK := fun h => Lib.hid (hitP_skip hkl h (s := ⟨st, si, sr⟩) (p := ⟨ot, oi, or_⟩) (all := all))
          have HHI := fun h => Lib.hid (hitP_hit hkl HMU.out h (s := ⟨st, si, sr⟩) (p := ⟨ot, oi, or_⟩) (all := all))
          clear c0 c1 c2 hcs
          generalize ms[k] = x at *
          obtain ⟨yt, yi, yr⟩ := x
          dsimp only at k0 k1 k2
          have hE1 : Ext wr (wr.alloc (.cells #[.string yt, .string yi, .string yr] 30)) := Ext.alloc _ _
          have hcx := (Blk.made wr #[.string yt, .string yi, .string yr] 30).cells
          have hP1 : Blk (wr.alloc (.cells #[.string yt, .string yi, .string yr] 30)) bp #[.string ot, .string oi, .string or_] 37 := Blk.below ((hsame bp (.inl rfl)).trans HP5.out) hE1
          have hcp := hP1.cells
          have hb9 := hbel.trans (Below.mono hE1 hbel.size)
          have hcs := (HBS.out.below hb9).cells
          have HB9 := Lib.hid hb9
          have HO9 := Lib.hid (hown.below hE1)
          have HSM9 := Lib.hid (show ∀ b, (b = bp ∨ (wc.heap.size ≤ b ∧ b < w5.heap.size)) → (wr.alloc (.cells #[.string yt, .string yi, .string yr] 30)).heap[b]? = w5.heap[b]? from fun b hb => (Below.block hE1 b (by have h1 := HBPL.out; omega)).trans (hsame b hb))
          have HSZ9 := Lib.hid (show w5.heap.size ≤ (wr.alloc (.cells #[.string yt, .string yi, .string yr] 30)).heap.size from Nat.le_trans hsz (Ext.size hE1))
          have heq := fun W => sub_eql ⟨yt, yi, yr⟩ ⟨st, si, sr⟩ W
          unfold pV at heq
          dsimp only at heq
          clear hown hns hsame hsz hbel hE1 hP1 hb9
          by_cases hm : (⟨yt, yi, yr⟩ : P3) = ⟨st, si, sr⟩
          · rw [decide_eq_true hm] at heq
            have HNX := HHI hm
            clear HHI HSK hm
            have hE4 := Ext.alloc (wr.alloc (.cells #[.string yt, .string yi, .string yr] 30)) (.cells #[.string ot, .string oi, .string or_] 37)
            have HO4 := Lib.hid (HO9.out.below hE4)
            have HB4 := Lib.hid (HB9.out.trans (Below.mono hE4 HB9.out.size))
            have HSM4 := Lib.hid (show ∀ b, (b = bp ∨ (wc.heap.size ≤ b ∧ b < w5.heap.size)) → ((wr.alloc (.cells #[.string yt, .string yi, .string yr] 30)).alloc (.cells #[.string ot, .string oi, .string or_] 37)).heap[b]? = w5.heap[b]? from fun b hb => (Below.block hE4 b (by have h1 := HBPL.out; have h2 := HSZ9.out; omega)).trans (HSM9.out b hb))
            have HSZ4 := Lib.hid (Nat.le_trans HSZ9.out (Ext.size hE4))
            have HC3 := Lib.hid (show ∀ j u, (pcs [⟨ot, oi, or_⟩])[j]? = some u → ((wr.alloc (.cells #[.string yt, .string yi, .string yr] 30)).alloc (.cells #[.string ot, .string oi, .string or_] 37)).cell? ((⟨wr.heap.size + 1, 0, none⟩ : Addr).add j) = some u from by
              have := cells_three (wr.alloc (.cells #[.string yt, .string yi, .string yr] 30)) (.string ot) (.string oi) (.string or_) 37
              rw [World.size_alloc] at this
              exact this)
            have HLL := Lib.hid (show (pcs (hitP (ms.take k) ⟨st, si, sr⟩ ⟨ot, oi, or_⟩ all)).length + 3 ≤ 1649267441667 from by
              rw [pcs_length]
              have h1 := HAL.out
              have h2 := HL.out
              have h3 := hitP_length (ms.take k) ⟨st, si, sr⟩ ⟨ot, oi, or_⟩ all
              omega)
            clear hE4
            go_wp2_with (at_builtin; go_must (refine wpList_owns pointsT rfl (.tmp 33) (.tmp 35) rfl rfl HO4.out (m := 1) (news := pcs [⟨ot, oi, or_⟩]) rfl rfl HC3.out (pcs_one _) (by have := HLL.out; show _ + 3 ≤ _; omega) (by have := HLL.out; show (_ + 3) * 48 ≤ _; omega) HB4.out.size (fun b => b = bp ∨ (wc.heap.size ≤ b ∧ b < w5.heap.size)) (fun b hb => by have h1 := HBPL.out; have h2 := HSZ4.out; omega) HNS.out ?_); intro vL w6 hown6 hb6 hne6 hq6 hsz6)
            have HO6 := Lib.hid hown6
            have HB6 := Lib.hid (HB4.out.trans hb6)
            have HQ6 := Lib.hid (fun b hb => (hq6 b hb).trans (HSM4.out b hb))
            have HN6 := Lib.hid hne6
            have HZ6 := Lib.hid (Nat.le_trans HSZ4.out hsz6)
            clear hown6 hb6 hq6 hne6 hsz6
            go_wp2_with fail
            go_roundw
            case rel => exact ⟨k + 1, by omega, by go_num, by rw [HNX.out, pcs_append]; exact HO6.out, HN6.out, HQ6.out, HZ6.out, HB6.out⟩
            case measure => simp [intOf]; omega
          · rw [decide_eq_false hm] at heq
            have HNX := HSK hm
            clear HHI HSK hm
            go_wp2_with fail
            go_roundw
            case rel => exact ⟨k + 1, by omega, by go_num, by rw [HNX.out]; exact HO9.out, HNS.out, HSM9.out, HSZ9.out, HB9.out⟩
            case measure => simp [intOf]; omega
        · obtain rfl : k = ms.length := by omega
          rw [List.take_length] at hown
          have HOE := Lib.hid hown
          have HBE := Lib.hid hbel
          have HNX := HST ms HMM.out
          have HLE := Lib.hid (hitP_length ms ⟨st, si, sr⟩ ⟨ot, oi, or_⟩ all)
          clear hown hns hsame hsz hbel
          go_wp2_with fail
          go_roundw
          case rel => exact ⟨i + 1, hitP ms ⟨st, si, sr⟩ ⟨ot, oi, or_⟩ all, by omega, by go_num, HOE.out, HNX.out, by have h1 := HAL.out; have h2 := HLE.out; omega, HBE.out⟩
          case measure => simp [intOf]; omega
    · obtain rfl : i = l.length := by omega
      have HSO := Lib.hid (sorted_any _ all wr HOW.out.slU (by have h1 := HAL.out; have h2 := HL.out; omega))
      have HD := Lib.hid HPD.out.last
      clear HPD HOW hbel
      go_wp2_with fail
      refine HSO.out.mono ?_
      rintro e w5 ⟨vs, xs, rfl, hup, hxm, hxo, hb5⟩
      have HUP := Lib.hid hup
      have HXM := Lib.hid (fun x => (hxm x).trans (HD.out x))
      have HB5 := Lib.hid (HB1.out.trans ((HBEL.out.trans (hb5.mono HBEL.out.size)).mono HB1.out.size))
      have HXO := Lib.hid (hxo.base (B' := w.heap.size) (Nat.le_trans HB1.out.size HBEL.out.size))
      clear hup hxm hxo hb5 HSO
      go_wp2_with fail
      go_ret
      exact ⟨_, xs, rfl, HUP.out, HXM.out, HXO.out, HB5.out⟩

end Go.Proofs.Ytcbgemnmehoeaaa
