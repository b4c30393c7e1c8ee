/- The walk of the document's members. No condition: lemmas. -/
import Derived.Test.YtcbgemnmehoeaaaFltA
import Derived.Maps.AppendAt
namespace Go.Proofs.Ytcbgemnmehoeaaa
open Go Go.RowKit Go.Maps

/-- The law of append to a row of the call's own, beside a block that is not the row's. -/
theorem wpList_ownb {P : Program} {w : World} {ops : Array Oper} {rest : List Oper} {o : Oper} {a : Act} {Q : Exit → Act → World → Prop} {t e : TypeId} {size bytes : Nat} (E : ElemT P t e size bytes)
    (hg : o.guard = none) (s x : Operand) (hop : o.op = Op.call { callee := Callee.builtin Builtin.append, args := #[s, x], argTypes := #[t, t] })
    {B : Nat} {v : Value} {xs : List Value} (hs : a.eval s = v) (hown : Own w B e size v xs) {ad : Addr} {m c : Nat} {news : List Value} (hx : a.eval x = .slice (some ad) m c) (hn : news.length = m * size)
    (hc : ∀ j u, news[j]? = some u → w.cell? (ad.add j) = some u) (h1 : ∀ u ∈ news, u.oneCell' = true)
    (hlen : xs.length + news.length ≤ 9223372036854775807) (hbytes : (xs.length + news.length) * bytes ≤ 140737488355328) (hB : B ≤ w.heap.size)
    {bq : Nat} (hq : bq < w.heap.size) (hne : ∀ g, v.ownBlock = some g → g ≠ bq)
    (K : ∀ v' w', Own w' B e size v' (xs ++ news) → Below B w w' → (∀ g, v'.ownBlock = some g → g ≠ bq) → w'.heap[bq]? = w.heap[bq]? → wpList P ops Q rest (a.put o.dst v') w') : wpList P ops Q (o :: rest) a w := by
  obtain ⟨hund, ⟨i, z, hi, hz, h4, h5, h6⟩, hpos⟩ := E
  obtain ⟨k, hown⟩ := hown
  have e1 : ∀ k l : Nat, k ≤ l * size → l * size ≤ k → l ≤ k := fun k l _ hb => Nat.le_trans (Nat.le_mul_of_pos_right l hpos) hb
  have hnl : k ≤ xs.length := e1 _ _ (Nat.le_of_eq hown.1) (Nat.le_of_eq hown.1.symm)
  have hml : m ≤ news.length := e1 _ _ (Nat.le_of_eq hn) (Nat.le_of_eq hn.symm)
  have hb47 : (k + m) * bytes ≤ 140737488355328 := Nat.le_trans (Nat.mul_le_mul_right _ (by omega)) hbytes
  refine wpList_append_own_at w hg s x t hop B e i z size bytes hund hi hz h4 h5 h6 hpos v k xs hs hown ad m c news hx hn hc h1 (by unfold maxLen; omega) hb47 hB (fun v' w' h h' _ h3 => ?_)
  refine K v' w' ⟨_, h⟩ ((Below.refl B w).grown h' hB (fun k hk => (hown.lt k hk).1)) (fun g hg' => ?_) (h'.block bq hq fun e => hne bq e.symm rfl)
  rcases h3 with h3 | h3
  · exact hne g (h3 ▸ hg')
  · rw [h3] at hg'
    injection hg' with hg'
    omega

theorem UpP.nodup {l : List P3} (h : UpP l) : l.Nodup := List.Pairwise.imp (fun h e => by subst e; rw [ltP_irr] at h; cases h) h
/-- Whom tuples name behind a point. -/
def NameI (l : List Tup) (q : P3) (x : P3) : Prop := ∃ t ∈ l, t.o = q ∧ t.s = x
theorem nameI_step {l : List Tup} {j : Nat} (hj : j < l.length) (q x : P3) : NameI (l.take (j + 1)) q x ↔ NameI (l.take j) q x ∨ (l[j].o = q ∧ l[j].s = x) := by
  unfold NameI
  rw [List.take_succ_eq_append_getElem hj]
  constructor
  · rintro ⟨t, ht, h⟩
    rcases List.mem_append.1 ht with ht | ht
    · exact .inl ⟨t, ht, h⟩
    · obtain rfl := List.mem_singleton.1 ht
      exact .inr h
  · rintro (⟨t, ht, h⟩ | h)
    · exact ⟨t, List.mem_append_left _ ht, h⟩
    · exact ⟨l[j], List.mem_append_right _ (List.mem_singleton.2 rfl), h⟩
theorem names_der {l : List Tup} {p : P3} {qs : List P3} (h : ∀ q, q ∈ qs ↔ Fwd (· ∈ l) p q) (x : P3) : (∃ q ∈ qs, NameI l q x) ↔ Der (· ∈ l) p x := by
  rw [der_fwd]
  constructor
  · rintro ⟨q, hq, t, ht, rfl, hs⟩
    exact ⟨t, ht, (h _).1 hq, hs⟩
  · rintro ⟨t, ht, hf, hs⟩
    exact ⟨t.o, (h _).2 hf, t, ht, rfl, hs⟩
/-- The loop over the points, plainly. -/
def MemI (l : List Tup) (qs all : List P3) : Prop := ∀ x, x ∈ all ↔ ∃ q ∈ qs, NameI l q x
def MemJ (l : List Tup) (q : P3) (all all' : List P3) : Prop := ∀ x, x ∈ all' ↔ x ∈ all ∨ NameI l q x
theorem MemJ.first (q : P3) (all : List P3) : MemJ [] q all all := fun x => by simp [NameI]
theorem MemJ.skip {l : List Tup} {j : Nat} (hj : j < l.length) {q : P3} {all all' : List P3} (h : MemJ (l.take j) q all all') (hn : l[j].o ≠ q) : MemJ (l.take (j + 1)) q all all' := fun x => by
  rw [h x, nameI_step hj]
  simp [hn]
theorem MemJ.hit {l : List Tup} {j : Nat} (hj : j < l.length) {q : P3} {all all' : List P3} (h : MemJ (l.take j) q all all') (hn : l[j].o = q) : MemJ (l.take (j + 1)) q all (all' ++ [l[j].s]) := fun x => by
  rw [List.mem_append, h x, nameI_step hj, List.mem_singleton, or_assoc]
  simp only [hn, true_and, eq_comm]
theorem MemI.step {l : List Tup} {qs all all' : List P3} {i : Nat} (hi : i < qs.length) (h : MemI l (qs.take i) all) (h2 : MemJ l qs[i] all all') : MemI l (qs.take (i + 1)) all' := fun x => by
  rw [h2 x, h x, List.take_succ_eq_append_getElem hi]
  constructor
  · rintro (⟨q, hq, hx⟩ | hx)
    · exact ⟨q, List.mem_append_left _ hq, hx⟩
    · exact ⟨_, List.mem_append_right _ (List.mem_singleton.2 rfl), hx⟩
  · rintro ⟨q, hq, hx⟩
    rcases List.mem_append.1 hq with hq | hq
    · exact .inl ⟨q, hq, hx⟩
    · obtain rfl := List.mem_singleton.1 hq
      exact .inr hx

set_option maxRecDepth 100000 in
set_option maxHeartbeats 8000000 in
theorem refMembers_any (v : Value) (l : List Tup) (p : P3) (w : World) (h : Sl (· < w.heap.size) w 6 v (tcs l)) (hl : l.length ≤ 100) : Calls Try.prog 18 #[v, pV p] w fun e w' => ∃ (v' : Value) (out : List P3), e = .returned v' ∧ UpP out ∧ (∀ x, x ∈ out ↔ Der (· ∈ l) p x) ∧ Own w' w.heap.size 30 3 v' (pcs out) ∧ Below w.heap.size w w' := by
  obtain ⟨pt, pi, pr⟩ := p
  have hb1 : Below w.heap.size w (w.alloc (.cells #[.string pt, .string pi, .string pr] 37)) := (Below.refl _ _).alloc (Nat.le_refl _) _
  have HPO := Lib.hid (refPoints_any v l ⟨pt, pi, pr⟩ _ (h.up hb1) hl)
  have HB1 := Lib.hid hb1
  obtain ⟨ao, c, rfl, hlc, hcm, hcell⟩ := tups_rows h
  have HC := Lib.hid hcell
  have HL := Lib.hid hl
  have hP0 := (Blk.made w #[.string pt, .string pi, .string pr] 37).cells
  clear hcell h hl hb1
  unfold pV at HPO
  unfold pV
  dsimp only at HPO ⊢
  go_enter Try.func18, Try.ntmps18
  go_wp2_with fail
  refine HPO.out.mono ?_
  rintro e w3 ⟨vq, qs, rfl, hqm, hqn, hqo, hb3⟩
  have HQM := Lib.hid hqm
  have HQO := Lib.hid hqo
  have HB3 := Lib.hid (HB1.out.trans (hb3.mono HB1.out.size))
  obtain ⟨qo, qc, rfl, hqc, hqcm, hqcell⟩ := pts_rows hqo.sl
  have HQC := Lib.hid hqcell
  clear HPO HB1 hqm hqo hb3 hqcell hP0
  go_wp2_with fail
  go_loopw [5, 17] (fun vv ii wr => ∃ (i : Nat) (all : List P3), i ≤ qs.length ∧ ii = .int .i64 i ∧ Own wr w3.heap.size 37 3 vv (pcs all) ∧ MemI l (qs.take i) all ∧ all.length ≤ i * l.length ∧ Below w3.heap.size w3 wr) (fun _ ii _ => qs.length - (intOf ii).toNat)
  case atStart => exact ⟨0, [], by omega, rfl, Own.nil _ _ _ _, fun x => by simp, by simp, Below.refl _ _⟩
  case round =>
    obtain ⟨i, all, hi, rfl, hown, hme, hal, hbel⟩ := hrel
    have HME := Lib.hid hme
    have HOW := Lib.hid hown
    have HBEL := Lib.hid hbel
    have HAL := Lib.hid hal
    clear hme hown hal
    by_cases hlt : i < qs.length
    · obtain ⟨gb, go, rfl, hgb, c0, c1, c2⟩ := HQC.out i hlt
      have k0 := (hbel.cell (p := ⟨gb, go + i * 3, none⟩) hgb.2).trans c0
      have k1 := (hbel.cell (p := ⟨gb, go + i * 3 + 1, none⟩) hgb.2).trans c1
      have k2 := (hbel.cell (p := ⟨gb, go + i * 3 + 2, none⟩) hgb.2).trans c2
      have HST := fun all' (h : MemJ l qs[i] all all') => Lib.hid (MemI.step hlt HME.out h)
      clear c0 c1 c2 hbel
      generalize qs[i] = q at *
      obtain ⟨qt, qi, qr⟩ := q
      dsimp only at k0 k1 k2
      have hBQ := Blk.made wr #[.string qt, .string qi, .string qr] 37
      have HOWQ := Lib.hid (HOW.out.below (Ext.alloc wr (.cells #[.string qt, .string qi, .string qr] 37)))
      have HBQ := Lib.hid (HBEL.out.trans (Below.mono (Ext.alloc wr (.cells #[.string qt, .string qi, .string qr] 37)) HBEL.out.size))
      have HNE := Lib.hid (show ∀ g, u5.ownBlock = some g → g ≠ wr.heap.size from fun g hg => by have := (HOW.out.block g hg).2; omega)
      have hbq0 := HBEL.out.size
      go_wp2_with fail
      clear k0 k1 k2
      generalize wr.alloc (.cells #[.string qt, .string qi, .string qr] 37) = wq at *
      generalize wr.heap.size = bq at *
      have HAL2 := Lib.hid (show all.length + l.length ≤ 100000 from by
        have h1 := HAL.out
        have h2 := HL.out
        have h3 : i * l.length ≤ 101 * 100 := Nat.mul_le_mul (by omega) h2
        omega)
      go_loopw [5, 23] (fun vv jj wr => ∃ (j : Nat) (all' : List P3), j ≤ l.length ∧ jj = .int .i64 j ∧ Own wr w3.heap.size 37 3 vv (pcs all') ∧ MemJ (l.take j) ⟨qt, qi, qr⟩ all all' ∧ all'.length ≤ all.length + j ∧ Blk wr bq #[.string qt, .string qi, .string qr] 37 ∧ (∀ g, vv.ownBlock = some g → g ≠ bq) ∧ Below w3.heap.size w3 wr) (fun _ jj _ => l.length - (intOf jj).toNat)
      case atStart => exact ⟨0, all, by omega, rfl, HOWQ.out, by rw [List.take_zero]; exact MemJ.first _ _, by omega, hBQ, HNE.out, HBQ.out⟩
      case round =>
        obtain ⟨j, all', hj, rfl, hown, hmj, haj, hbq, hne, hbel⟩ := hrel
        have HMJ := Lib.hid hmj
        have HOWJ := Lib.hid hown
        have HBJ := Lib.hid hbel
        have HBQJ := Lib.hid hbq
        have HNEJ := Lib.hid hne
        have HAJ := Lib.hid haj
        clear hmj hown hne haj hBQ HOWQ HBQ HNE
        by_cases hjl : j < l.length
        · obtain ⟨b, off, rfl, hb, c0, c1, c2, c3, c4, c5⟩ := HC.out j hjl
          have hbw : Below w.heap.size w wr := HB3.out.trans (hbel.mono HB3.out.size)
          have d0 := (hbw.cell (p := ⟨b, off + j * 6, none⟩) hb).trans c0
          have d1 := (hbw.cell (p := ⟨b, off + j * 6 + 1, none⟩) hb).trans c1
          have d2 := (hbw.cell (p := ⟨b, off + j * 6 + 2, none⟩) hb).trans c2
          have d3 := (hbw.cell (p := ⟨b, off + j * 6 + 3, none⟩) hb).trans c3
          have d4 := (hbw.cell (p := ⟨b, off + j * 6 + 4, none⟩) hb).trans c4
          have d5 := (hbw.cell (p := ⟨b, off + j * 6 + 5, none⟩) hb).trans c5
          have HSK := fun h => Lib.hid (MemJ.skip hjl HMJ.out h)
          have HHI := fun h => Lib.hid (MemJ.hit hjl HMJ.out h)
          clear c0 c1 c2 c3 c4 c5 hb hbel hbw
          generalize l[j] = t at *
          obtain ⟨⟨ot, oi, or_⟩, ⟨st, si, sr⟩⟩ := t
          dsimp only at *
          have hET : Ext wr (wr.alloc (.cells #[.string ot, .string oi, .string or_, .string st, .string si, .string sr] 32)) := Ext.alloc _ _
          have hBT := (Blk.made wr #[.string ot, .string oi, .string or_, .string st, .string si, .string sr] 32).cells
          have hBQT := (hbq.below hET).cells
          have HBQT := Lib.hid (hbq.below hET)
          have HOWT := Lib.hid (HOWJ.out.below hET)
          have HBT := Lib.hid (HBJ.out.trans (Below.mono hET HBJ.out.size))
          clear hbq hET
          by_cases hA : ot = qt ∧ oi = qi
          rotate_left
          · have hno := fun W => obj_eql ot oi qt qi W
            rw [show (decide (ot = qt ∧ oi = qi)) = false from by simp [hA]] at hno
            have HNX := Lib.hid (HSK (fun e => hA (by injection e with e1 e2 _; exact ⟨e1, e2⟩))).out
            clear hA HSK HHI
            go_wp2_with fail
            go_roundw
            case rel => exact ⟨j + 1, all', by omega, by go_num, HOWT.out, HNX.out, by have := HAJ.out; omega, HBQT.out, HNEJ.out, HBT.out⟩
            case measure => simp [intOf]; omega
          obtain ⟨rfl, rfl⟩ := hA
          have hno := fun W => obj_eql ot oi ot oi W
          rw [show (decide (ot = ot ∧ oi = oi)) = true from by simp] at hno
          by_cases hB : or_ = qr
          rotate_left
          · have hnb := ba_beq' hB
            rw [← ByteArray.toList_eq, ← ByteArray.toList_eq] at hnb
            have HNX := Lib.hid (HSK (fun e => hB (by injection e))).out
            clear hB HSK HHI
            go_wp2_with fail
            go_roundw
            case rel => exact ⟨j + 1, all', by omega, by go_num, HOWT.out, HNX.out, by have := HAJ.out; omega, HBQT.out, HNEJ.out, HBT.out⟩
            case measure => simp [intOf]; omega
          subst hB
          have HNX := Lib.hid (HHI rfl).out
          clear HSK HHI
          have hll : (pcs all').length + 3 ≤ 1649267441667 := by
            rw [pcs_length]
            have h1 := HAL2.out
            have h2 := HAJ.out
            omega
          have HLL := Lib.hid hll
          have hE4 := Ext.alloc (wr.alloc (.cells #[.string ot, .string oi, .string or_, .string st, .string si, .string sr] 32)) (.cells #[.string st, .string si, .string sr] 37)
          have HO4 := Lib.hid (HOWT.out.below hE4)
          have HB4 := Lib.hid (HBT.out.trans (Below.mono hE4 HBT.out.size))
          have HQ4 := Lib.hid (HBQT.out.below hE4)
          have HC3 := Lib.hid (show ∀ j u, (pcs [⟨st, si, sr⟩])[j]? = some u → ((wr.alloc (.cells #[.string ot, .string oi, .string or_, .string st, .string si, .string sr] 32)).alloc (.cells #[.string st, .string si, .string sr] 37)).cell? ((⟨wr.heap.size + 1, 0, none⟩ : Addr).add j) = some u from by
            have := cells_three (wr.alloc (.cells #[.string ot, .string oi, .string or_, .string st, .string si, .string sr] 32)) (.string st) (.string si) (.string sr) 37
            rw [World.size_alloc] at this
            exact this)
          clear hll hE4
          go_wp2_with (at_builtin; go_must (refine wpList_ownb pointsT rfl (.tmp 39) (.tmp 47) rfl rfl HO4.out (m := 1) (news := pcs [⟨st, si, sr⟩]) rfl rfl HC3.out (pcs_one _) (by have := HLL.out; show _ + 3 ≤ _; omega) (by have := HLL.out; show (_ + 3) * 48 ≤ _; omega) HB4.out.size HQ4.out.lt HNEJ.out ?_); intro vL w6 hown6 hb6 hne6 hq6)
          have HO6 := Lib.hid hown6
          have HB6 := Lib.hid (HB4.out.trans hb6)
          have HQ6 := Lib.hid (hq6.trans HQ4.out)
          have HN6 := Lib.hid hne6
          clear hown6 hb6 hq6 hne6
          go_wp2_with fail
          go_roundw
          case rel => exact ⟨j + 1, all' ++ [⟨st, si, sr⟩], by omega, by go_num, by rw [pcs_append]; exact HO6.out, HNX.out, by have := HAJ.out; simp; omega, HQ6.out, HN6.out, HB6.out⟩
          case measure => simp [intOf]; omega
        · obtain rfl : j = l.length := by omega
          have HNX := Lib.hid (HST all' (by have := HMJ.out; rwa [List.take_length] at this)).out
          go_wp2_with fail
          go_roundw
          case rel => exact ⟨i + 1, all', by omega, by go_num, HOWJ.out, HNX.out, by have h1 := HAL.out; have h2 := HAJ.out; rw [Nat.add_mul]; omega, HBJ.out⟩
          case measure => simp [intOf]; omega
    · obtain rfl : i = qs.length := by omega
      have hal2 : all.length ≤ 100000 := by
        have h1 := HAL.out
        have h2 := HL.out
        have h3 : qs.length * l.length ≤ 101 * 100 := Nat.mul_le_mul (by omega) h2
        omega
      have hdn := HME.out
      rw [List.take_length] at hdn
      have HDN := Lib.hid (show ∀ x, x ∈ all ↔ Der (· ∈ l) ⟨pt, pi, pr⟩ x from fun x => (hdn x).trans (names_der HQM.out x))
      have HSO := Lib.hid (sorted_any _ all wr HOW.out.slU hal2)
      have HBW := Lib.hid (HB3.out.trans (HBEL.out.mono HB3.out.size))
      have HAL9 := Lib.hid hal2
      clear hdn hal2 HME HBEL
      go_wp2_with fail
      refine HSO.out.mono ?_
      rintro e w5 ⟨vs, xs, rfl, hup, hxm, hxo, hb5⟩
      have HUP := Lib.hid hup
      have HXM := Lib.hid (show ∀ x, x ∈ xs ↔ Der (· ∈ l) ⟨pt, pi, pr⟩ x from fun x => (hxm x).trans (HDN.out x))
      have HXL := Lib.hid (Nat.le_trans (nodup_le hup.nodup (fun x hx => (hxm x).1 hx)) HAL9.out)
      have HB5 := Lib.hid (HBW.out.trans (hb5.mono HBW.out.size))
      obtain ⟨xo, xc, rfl, hxc, hxcm, hxcell⟩ := pts_rows hxo.sl
      have HXC := Lib.hid hxcell
      clear HSO hup hxm hxo hb5 hxcell HBW HDN HOW HAL9
      go_wp2_with fail
      go_loopw [10, 54] (fun vv kk wr => ∃ k : Nat, k ≤ xs.length ∧ kk = .int .i64 k ∧ Own wr w5.heap.size 30 3 vv (pcs (xs.take k)) ∧ Below w5.heap.size w5 wr) (fun _ kk _ => xs.length - (intOf kk).toNat)
      case atStart => exact ⟨0, by omega, rfl, Own.nil _ _ _ _, Below.refl _ _⟩
      case round =>
        obtain ⟨k, hk, rfl, hown, hbel⟩ := hrel
        by_cases hkl : k < xs.length
        · obtain ⟨xb, xf, rfl, hxb, c0, c1, c2⟩ := HXC.out k hkl
          have k0 := (hbel.cell (p := ⟨xb, xf + k * 3, none⟩) hxb.2).trans c0
          have k1 := (hbel.cell (p := ⟨xb, xf + k * 3 + 1, none⟩) hxb.2).trans c1
          have k2 := (hbel.cell (p := ⟨xb, xf + k * 3 + 2, none⟩) hxb.2).trans c2
          have HTK := Lib.hid (List.take_succ_eq_append_getElem hkl)
          clear c0 c1 c2
          generalize xs[k] = x at *
          obtain ⟨xt, xi, xr⟩ := x
          dsimp only at k0 k1 k2
          have hE1 : Ext wr (wr.alloc (.cells #[.string xt, .string xi, .string xr] 37)) := Ext.alloc _ _
          have hcx := (Blk.made wr #[.string xt, .string xi, .string xr] 37).cells
          have hE2 := hE1.trans (Ext.alloc (wr.alloc (.cells #[.string xt, .string xi, .string xr] 37)) (.cells #[.string xt, .string xi, .string xr] 30))
          have HO2 := Lib.hid (hown.below hE2)
          have HB2 := Lib.hid (hbel.trans (Below.mono hE2 hbel.size))
          have hsl := Sl.made (wr.alloc (.cells #[.string xt, .string xi, .string xr] 37)) (fun _ => True) 3 1 30 #[.string xt, .string xi, .string xr] rfl (by decide) trivial
          rw [World.size_alloc] at hsl
          have hll : (pcs (xs.take k)).length + 3 ≤ 1649267441667 := by
            rw [pcs_length, List.length_take]
            have h1 := HXL.out
            omega
          have HSL := Lib.hid hsl
          have HLL := Lib.hid hll
          clear hsl hll hE1 hE2 hown hbel
          go_wp2_with (at_builtin; go_must (refine wpList_own subsT rfl (.tmp 58) (.tmp 64) rfl rfl HO2.out rfl HSL.out (pC_one ⟨xt, xi, xr⟩) (by have := HLL.out; show _ + 3 ≤ _; omega) (by have := HLL.out; show (_ + 3) * 48 ≤ _; omega) HB2.out.size ?_); intro vL w6 hown6 hb6 _)
          have HO6 := Lib.hid hown6
          have HB6 := Lib.hid (HB2.out.trans hb6)
          clear hown6 hb6
          go_wp2_with fail
          go_roundw
          case rel => exact ⟨k + 1, by omega, by go_num, by rw [HTK.out, pcs_append, pcs_single]; exact HO6.out, HB6.out⟩
          case measure => simp [intOf]; omega
        · obtain rfl : k = xs.length := by omega
          have HOS := Lib.hid (show Own wr w5.heap.size 30 3 u10 (pcs xs) from by rwa [List.take_length] at hown)
          have HBE := Lib.hid (HB5.out.trans (hbel.mono HB5.out.size))
          clear hown hbel
          go_wp2_with fail
          go_ret
          exact ⟨_, xs, rfl, HUP.out, HXM.out, HOS.out.base HB5.out.size, HBE.out⟩

end Go.Proofs.Ytcbgemnmehoeaaa
