/- A byte argument is opened. What holds of bytes that are opened: the plain law. sentrylaw14's TableSpoilt. No condition: lemmas. -/
import Derived.Test.YtmmeofiocbfamaaDoorZ29
namespace Go.Proofs.YtmmeofiocbfamaaDoor
open Go Go.RowKit Go.ChangeShapes Go.WideShapes Go.ChangeAt

section
variable {H : Type} {enc : TypeId × Value → H} {W : World} {base : Nat} {v : Value} {d : DataW H} {ps : List MemPlace}
set_option maxRecDepth 100000 in
theorem open_u8V (hok : Value.okWide Tryd.prog W .any base 5 v) (h : DataW.Trod enc Tryd.prog W 0 (fun _ => true) true 5 v d ps) : ∃ q : Nat, v = .int .u8 q ∧ q < 256 := by
  obtain ⟨x, rfl, _, _, wx⟩ := open_int Tryd.underlying5 hok h
  have hb := bounds_u8 wx
  exact ⟨x.toNat, by congr 1; omega, by omega⟩
end

end Go.Proofs.YtmmeofiocbfamaaDoor
namespace Go.Proofs.YtmmeofiocbfamaaDoor
open Go Go.RowKit

theorem up_snoc {l : List ByteArray} {k : ByteArray} (h : Up l) (hk : ∀ q, l.getLast? = some q → ltS q k = true) : Up (l ++ [k]) := by
  refine List.pairwise_append.2 ⟨h, List.pairwise_singleton _ _, fun a ha b hb => ?_⟩
  rw [List.mem_singleton.1 hb]
  rcases List.eq_nil_or_concat l with rfl | ⟨l, q, rfl⟩
  · cases ha
  · rw [List.concat_eq_append] at h hk ha
    have hq := hk q (by simp)
    rcases List.mem_append.1 ha with ha | ha
    · exact ltS_trans ((List.pairwise_append.1 h).2.2 a ha q (by simp)) hq
    · rw [List.mem_singleton.1 ha]; exact hq
theorem readL_facts (endN : Nat) : ∀ (k : Nat) (bs : List UInt8) (a : Nat) (ps qs : List Plc) (rest : List UInt8) (a' : Nat), readL endN k bs a ps = some (qs, rest, a') →
    Up (ps.map (·.first)) → (∀ p ∈ ps, p.at_ + p.size ≤ a) → Up (qs.map (·.first)) ∧ (∀ p ∈ qs, p.at_ + p.size ≤ a') ∧ a ≤ a' ∧ qs.length = ps.length + k
  | 0, bs, a, ps, qs, rest, a', h, hu, hp => by
    rw [readL] at h
    cases h
    exact ⟨hu, hp, Nat.le_refl _, rfl⟩
  | k + 1, bs, a, ps, qs, rest, a', h, hu, hp => by
    rw [readL] at h
    cases hd : plcD endN bs with
    | none => rw [hd] at h; cases h
    | some r =>
      obtain ⟨p, r⟩ := r
      rw [hd] at h
      dsimp only at h
      split at h
      · next hok =>
        obtain ⟨h1, h2, h3, h4⟩ := readL_facts endN k r (a + p.size) (ps ++ [p]) qs rest a' h (by
          rw [List.map_append]
          refine up_snoc hu fun q hq => ?_
          rw [List.getLast?_map] at hq
          cases hl : ps.getLast? with
          | none => rw [hl] at hq; cases hq
          | some q' =>
            rw [hl] at hq
            cases hq
            exact hok.2.2 q' hl) (fun x hx => by
          rcases List.mem_append.1 hx with hx | hx
          · have := hp x hx; omega
          · rw [List.mem_singleton.1 hx, hok.1]; exact Nat.le_refl _)
        rw [List.length_append, List.length_singleton] at h4
        exact ⟨h1, h2, by omega, by omega⟩
      · cases h
theorem readB_facts {bs : List UInt8} {endN : Nat} {ps : List Plc} (h : readB bs endN = some ps) : Up (ps.map (·.first)) ∧ (∀ p ∈ ps, p.at_ + p.size ≤ endN) ∧ ps.length ≤ bs.length := by
  unfold readB at h
  split at h
  · cases h
  · next hc =>
    cases hr : readL endN (getG bs 0 0).1 (bs.drop (getG bs 0 0).2.1) 0 [] with
    | none => rw [hr] at h; cases h
    | some r =>
      obtain ⟨qs, rest, a'⟩ := r
      rw [hr] at h
      dsimp only at h
      split at h
      · next he =>
        cases h
        obtain ⟨h1, h2, h3, h4⟩ := readL_facts endN _ _ 0 [] ps rest a' hr List.Pairwise.nil (fun p hp => by cases hp)
        rw [List.length_nil] at h4
        exact ⟨h1, he.2 ▸ h2, by omega⟩
      · cases h
/-- What bytes that are opened are; with what they are refused. -/
theorem openT_facts (bs : List UInt8) (hl : bs.length ≤ 60000) : (∃ t, openT bs = (some t, 0) ∧ TbOk t) ∨ ∃ er, openT bs = (none, er) ∧ (er = 7 ∨ er = 8 ∨ er = 9) := by
  have hpe : ∀ lo hi, (partB bs lo hi).2 ≠ 0 → (partB bs lo hi).2 = 7 ∨ (partB bs lo hi).2 = 8 ∨ (partB bs lo hi).2 = 9 := fun lo hi h => by
    unfold partB at h ⊢
    split
    · exact .inr (.inr rfl)
    · split
      · exact .inr (.inl rfl)
      · split
        · exact .inr (.inr rfl)
        · next h1 h2 h3 => rw [if_neg h1, if_neg h2, if_neg h3] at h; exact absurd rfl h
  have ho : openT bs = openT bs := rfl
  generalize hz : openT bs = z at ho
  unfold openT at hz
  split at hz
  · exact .inr ⟨7, hz.symm, .inl rfl⟩
  · split at hz
    · exact .inr ⟨9, hz.symm, .inr (.inr rfl)⟩
    · split at hz
      · exact .inr ⟨9, hz.symm, .inr (.inr rfl)⟩
      · split at hz
        · next h => exact .inr ⟨_, hz.symm, hpe _ _ h⟩
        · next h1 =>
          split at hz
          · next h => exact .inr ⟨_, hz.symm, hpe _ _ h⟩
          · next h2 =>
            have hk1 := partB_ok (Decidable.byContradiction h1)
            have hp1 := partB_len bs (numI (bs.drop (bs.length - 28))) (numI (bs.drop (bs.length - 20)))
            have hp2 := partB_len bs (numI (bs.drop (bs.length - 20))) ((bs.length - 28 : Nat) : Int)
            cases hr : readB (partB bs (numI (bs.drop (bs.length - 28))) (numI (bs.drop (bs.length - 20)))).1 (numI (bs.drop (bs.length - 28))).toNat with
            | none => rw [hr] at hz; exact .inr ⟨9, hz.symm, .inr (.inr rfl)⟩
            | some ps =>
              rw [hr] at hz
              obtain ⟨f1, f2, f3⟩ := readB_facts hr
              refine .inl ⟨_, hz.symm, f1, ?_, ?_, ?_, fun p hp => ?_⟩
              · dsimp only; rw [List.length_take]; omega
              · dsimp only; omega
              · dsimp only; omega
              · have := f2 p hp; omega

theorem cut_nums (L cut : Nat) (hL : L ≤ 60000) (hc : cut < 65536) : ∃ c1 c2 c3 m d D : Nat, (cut : Int) % 4 = (c1 : Int) ∧ wrap64 ((cut : Int) / 4) = (c2 : Int) ∧ wrap64 ((L : Int) + 1) = (L : Int) + 1 ∧ (c2 : Int).tmod ((L : Int) + 1) = (c3 : Int) ∧ wrap64 ((c1 : Int) * (c3 : Int)) = (m : Int) ∧ (m : Int).tdiv 4 = (d : Int) ∧ wrap64 (d : Int) = (d : Int) ∧ wrap64 ((L : Int) - (d : Int)) = (D : Int) ∧ D ≤ L ∧ (0 : Int) ≤ (D : Int) ∧ (D : Int) ≤ (L : Int) ∧ ¬ ((L : Int) + 1 = 0) := by
  obtain ⟨c3, hc3⟩ : ∃ c3, c3 = (cut / 4) % (L + 1) := ⟨_, rfl⟩
  have h3 : c3 ≤ L := by rw [hc3]; have := Nat.mod_lt (cut / 4) (show 0 < L + 1 by omega); omega
  obtain ⟨c1, hc1⟩ : ∃ c1, c1 = cut % 4 := ⟨_, rfl⟩
  have h1 : c1 < 4 := by omega
  have hm : c1 * c3 ≤ 3 * L := Nat.mul_le_mul (by omega) h3
  obtain ⟨m, hmd⟩ : ∃ m, m = c1 * c3 := ⟨_, rfl⟩
  rw [← hmd] at hm
  refine ⟨c1, cut / 4, c3, m, m / 4, L - m / 4, by omega, by unfold wrap64; omega, by unfold wrap64; omega, ?_, ?_, ?_, by unfold wrap64; omega, by unfold wrap64; omega, by omega, by omega, by omega, by omega⟩
  · have h := Int.ofNat_tmod (cut / 4) (L + 1)
    rw [Int.natCast_add] at h
    rw [hc3]; exact h.symm
  · rw [← Int.natCast_mul, ← hmd]; unfold wrap64; omega
  · rw [Int.tdiv_eq_ediv_of_nonneg (by omega)]; omega

theorem Sl.takeB {S : Nat → Prop} {w : World} {ao : Option Addr} {n c : Nat} {bs : List UInt8} (h : Sl S w 1 (.slice ao n c) (bc bs)) (k : Nat) (hk : k ≤ n) : Sl S w 1 (.slice ao k c) (bc (bs.take k)) := by
  have h1 := h.take k hk
  rw [Nat.mul_one] at h1
  unfold bc at h1 ⊢
  rw [List.map_take]
  exact h1

theorem RetSeek.ret {t : Tb} {k : ByteArray} {w w' : World} {e : Ending} (h : RetSeek t k w e w') : Ext w w' ∧ ∃ (s : ByteArray) (b : Bool) (er : Int), e = .returned (.tuple #[.string s, .bool b, .int .i64 er]) := by
  obtain ⟨hx, i, -, ⟨er, -, -, -, h⟩ | ⟨-, h⟩ | ⟨ks, -, -, h⟩⟩ := h
  · exact ⟨hx, _, _, _, h⟩
  · exact ⟨hx, _, _, _, h⟩
  · exact ⟨hx, _, _, _, h⟩
theorem RetAll.ret {t : Tb} {w w' : World} {e : Ending} (h : RetAll t w e w') : Ext w w' ∧ ∃ (o : Option Addr) (n c : Nat) (er : Int), e = .returned (.tuple #[.slice o n c, .int .i64 er]) := by
  obtain ⟨hx, ⟨bs, v, -, -, h, ho⟩ | ⟨-, er, -, h⟩⟩ := h
  · obtain ⟨o, n, c, rfl, -⟩ := ho.sl.len
    exact ⟨hx, _, _, _, _, h⟩
  · exact ⟨hx, _, _, _, _, h⟩
theorem meas_up {n L : Nat} (h : n < L) : L - (intOf (.int .i64 ((n : Int) + 1))).toNat < L - (intOf (.int .i64 (n : Int))).toNat := by
  simp [intOf]; omega
theorem step_nums {n L : Nat} (h1 : 1 ≤ n) (h : n < L) (hL : L ≤ 9223372036854775807) : ∃ q, n = q + 1 ∧ q < L ∧ IntKind.i64.wrap ((n : Int) - 1) = (q : Int) ∧ wrap64 ((n : Int) + 1) = (n : Int) + 1 ∧ (n : Int) < (L : Int) ∧ (q : Int) < (L : Int) ∧ (0 : Int) ≤ (q : Int) ∧ (0 : Int) ≤ (n : Int) := by
  refine ⟨n - 1, by omega, by omega, ?_, by unfold wrap64; omega, by omega, by omega, by omega, by omega⟩
  rw [IntWalk.i64_in _ (by omega)]
  omega
theorem min_nums (L : Nat) : ∃ m : Nat, min (L : Int) 50 = (m : Int) ∧ ∀ k : Nat, k < m → wrap64 ((k : Int) + 1) = (k : Int) + 1 := ⟨min L 50, by omega, fun k hk => by unfold wrap64; omega⟩
theorem two_made {w W : World} {ao ro : Option Addr} {n c rc : Nat} {bs raw : List UInt8} {S : Nat → Prop} (hx : Ext w W) (h : Sl (fun b => S b ∧ b < W.heap.size) W 1 (.slice ao n c) (bc bs)) (hl : bs.length ≤ 60000)
    (hr : Sl (· < w.heap.size) w 1 (.slice ro raw.length rc) (bc raw)) (hrl : raw.length ≤ 3000) (T : TypeId) :
    Ext w (W.alloc (.cells #[.slice ao n c, .slice ro raw.length rc] T)) ∧ ∀ j, j < 2 → ∃ xo bs xc, (W.alloc (.cells #[.slice ao n c, .slice ro raw.length rc] T)).cell? ⟨W.heap.size, j, none⟩ = some (.slice xo bs.length xc) ∧
      Sl (· < (W.alloc (.cells #[.slice ao n c, .slice ro raw.length rc] T)).heap.size) (W.alloc (.cells #[.slice ao n c, .slice ro raw.length rc] T)) 1 (.slice xo bs.length xc) (bc bs) ∧ bs.length ≤ 60000 := by
  have hB := Blk.made W #[.slice ao n c, .slice ro raw.length rc] T
  have hX : Ext W (W.alloc (.cells #[.slice ao n c, .slice ro raw.length rc] T)) := Ext.alloc _ _
  refine ⟨hx.trans hX, fun j hj => ?_⟩
  match j, hj with
  | 0, _ =>
    obtain ⟨bo, bc', hv, -, -, -, -⟩ := Sl.bytes h
    cases hv
    exact ⟨_, bs, _, hB.cells 0, (h.mono fun _ h => h.2).up hX, hl⟩
  | 1, _ => exact ⟨_, raw, _, hB.cells 1, (hr.up hx).up hX, by omega⟩

end Go.Proofs.YtmmeofiocbfamaaDoor
namespace Go.Proofs.YtmmeofiocbfamaaDoor
open Go Go.RowKit

/-- A slice of two slices of bytes. -/
theorem u8_xor (x y : Nat) (hx : x < 256) (hy : y < 256) : bits .xor .u8 (x : Int) (y : Int) = ((x ^^^ y : Nat) : Int) := u8_xor_nat x y hx hy
theorem bc_set (l : List UInt8) (i q : Nat) (hq : q < 256) : (bc l).set i (.int .u8 q) = bc (l.set i (UInt8.ofNat q)) := by
  unfold bc
  rw [List.map_set]
  congr 2
  simp only [UInt8.toNat_ofNat']
  congr 1
  omega

set_option maxRecDepth 100000 in
set_option maxHeartbeats 4000000 in
theorem tableSpoilt_law (hop : OpenLaw) (v : Value) (es : List Ent) (split at_ bu cut : Nat) (rv : Value) (raw : List UInt8) (w : World) (henv : Env w) (hx : Sl (· < w.heap.size) w 3 v (ec es)) (hl : es.length ≤ 4398046511104) (hu : ∀ e ∈ es, U64 e.2.1)
    (h1 : split < 65536) (h2 : at_ < 65536) (h3 : bu < 256) (h4 : cut < 65536) (hr : Sl (· < w.heap.size) w 1 rv (bc raw)) :
    Calls Tryd.prog 3 #[v, .int .u16 split, .int .u16 at_, .int .u8 bu, .int .u16 cut, rv] w (RetV (.bool true) w) := by
  have HF := Lib.hid (fixed14_any hop w henv)
  have HX := Lib.hid hx
  have HU := Lib.hid hu
  have HL := Lib.hid hl
  have HRW := Lib.hid hr
  obtain ⟨vo, vc, rfl, -, -, -⟩ := hx.ents
  obtain ⟨ro, rc, rfl, -, -, -, -⟩ := Sl.bytes hr
  clear hx hu hl hr
  go_enter Tryd.func3, Tryd.ntmps3
  go_wp2_with fail
  refine HF.out.mono ?_
  clear HF
  rintro e w1 ⟨rfl, hx1⟩
  have HX1 := Lib.hid hx1
  have HK := Lib.hid (keys14_any _ es w1 (Sl.up HX.out hx1) HL.out HU.out)
  clear hx1
  go_wp2_with fail
  refine HK.out.mono ?_
  clear HK
  rintro e w2 ⟨kv, rfl, hkv, hx2⟩
  have HX2 := Lib.hid (show Ext w w2 from HX1.out.trans hx2)
  clear hx2 HX1
  cases hfew : fewB es with
  | false =>
    clear hkv
    go_wp2_with fail
    go_ret
    exact ⟨rfl, HX2.out⟩
  | true =>
  have HROW := Lib.hid (keyRow_of hfew HU.out)
  have HKV := Lib.hid (hkv hfew)
  generalize rowsL es = ks at *
  obtain ⟨ko, kc, rfl, -, -, -, -⟩ := Sl.strs0 HKV.out
  clear hkv hfew
  by_cases hbig : 3000 < raw.length
  · have hbi : (3000 : Int) < (raw.length : Int) := by omega
    clear hbig
    go_wp2_with fail
    go_ret
    exact ⟨rfl, HX2.out⟩
  have hbi : ¬ ((3000 : Int) < (raw.length : Int)) := by omega
  have HRL := Lib.hid (show raw.length ≤ 3000 from by omega)
  have hw1 : IntKind.i64.wrap (split : Int) = (split : Int) := IntWalk.i64_in _ (by omega)
  have hz1 : wrap64 (1 + (split : Int)) = 1 + (split : Int) := by unfold wrap64; omega
  have H1 := Lib.hid (show (1 : Int) ≤ 1 + (split : Int) from by omega)
  have HS1 := Lib.hid (show ∀ k ∈ ks, k.size ≤ 1000 from fun k hk => by have := HROW.out.short k hk; omega)
  have HB1 := Lib.hid (table_build (.slice ko ks.length kc) ks (1 + (split : Int)) 10 w2 (henv.below HX2.out) HKV.out (by have := HROW.out.few; omega) HS1.out)
  clear hbig h1
  go_wp2_with fail
  refine HB1.out.mono ?_
  clear HB1
  intro e w3 hr3
  have HR3 := Lib.hid (show Ext w2 w3 ∧ ∃ (bv : Value) (er : Int) (bb : List UInt8), e = .returned (.tuple #[bv, .int .i64 er]) ∧ bb.length ≤ 60000 ∧ Own w3 w2.heap.size 5 1 bv (bc bb) from by
    by_cases hne : ks = []
    · obtain ⟨hx3, hr3⟩ := hr3
      rcases hr3 with ⟨_, h⟩ | ⟨h, _⟩ | ⟨h, _⟩ | ⟨h, _⟩
      · exact ⟨hx3, _, 1, [], h, by simp, Own.nil _ _ _ _⟩
      · exact absurd (.inl hne) h
      · exact absurd (.inl hne) h
      · exact absurd (.inl hne) h
    · obtain ⟨hx3, v3, h, ho3⟩ := build_row HROW.out hne H1.out hr3
      exact ⟨hx3, v3, 0, _, h, tableB_len HROW.out _ _, ho3⟩)
  obtain ⟨hx3, bv, er, bb, rfl, hbl, ho3⟩ := HR3.out
  have HX3 := Lib.hid (HX2.out.trans hx3)
  have HO3 := Lib.hid (ho3.mono (B' := w.heap.size) HX2.out.size)
  have HBB := Lib.hid hbl
  obtain ⟨bo, bc', rfl, hbc, hbm, -, -⟩ := Sl.bytes ho3.sl
  clear hr3 hx3 ho3 HR3 HX2 HKV HS1 H1 hbl
  -- the byte turned, the end cut
  have hwa : IntKind.i64.wrap (at_ : Int) = (at_ : Int) := IntWalk.i64_in _ (by omega)
  have hwc : IntKind.i64.wrap (cut : Int) = (cut : Int) := IntWalk.i64_in _ (by omega)
  have HH := Lib.hid (And.intro h2 (And.intro h3 h4))
  clear h2 h3 h4 hbi hbc hbm
  by_cases hbn : bb = []
  case' pos =>
    have hbz : ¬ ((0 : Int) < (bb.length : Int)) := by rw [hbn]; decide
    have hbz2 : bb.length = 0 := by rw [hbn]; rfl
    obtain ⟨w7, hw7⟩ : ∃ x, x = w3 := ⟨_, rfl⟩
    subst hw7
    have HX7 := HX3
    have HS7 := Lib.hid (HO3.out.sl)
    have HB7 := HBB
    have H8 := Lib.hid (two_made HX7.out HS7.out HB7.out HRW.out HRL.out 24)
    clear hbn hbz2 HX3 HO3 HBB HX7 HS7 HB7
    go_wp2_with fail
    clear hbz
    rename ((raw.length : Int) ≤ 3000) => hq1
    rename (¬ 0 < bb.length) => hq2
    clear hq1 hq2
    obtain ⟨w8, hw8⟩ : ∃ x, x = w7.alloc (.cells #[.slice bo bb.length bc', .slice ro raw.length rc] 24) := ⟨_, rfl⟩
    obtain ⟨B, hB⟩ : ∃ x, x = w7.heap.size := ⟨_, rfl⟩
    rw [← hw8]
    rw [← hw8, ← hB] at H8
  case' neg =>
    have hbz : (0 : Int) < (bb.length : Int) := by have := List.length_pos_iff.2 hbn; omega
    obtain ⟨g, c, cs, hv, hBg, hblk, hlc, hcm, hcs⟩ := HO3.out.lay (fun e => hbn (by cases bb with | nil => rfl | cons _ _ => cases e))
    rw [bc_length] at hv hlc
    cases hv
    obtain ⟨i, hidef⟩ : ∃ i, i = at_ % bb.length := ⟨_, rfl⟩
    have hlp : 0 < bb.length := by omega
    have hilt : i < bb.length := by rw [hidef]; exact Nat.mod_lt _ hlp
    have htm : (at_ : Int).tmod (bb.length : Int) = (i : Int) := by rw [hidef]; exact (Int.ofNat_tmod at_ bb.length).symm
    have hil : (i : Int) < (bb.length : Int) := by omega
    have hi0 : (0 : Int) ≤ (i : Int) := by omega
    have hci := hblk.cells i
    rw [hcs i (by rw [bc_length]; exact hilt)] at hci
    have hgf := hblk.free i
    obtain ⟨x, hxd⟩ : ∃ x, x = bb[i].toNat := ⟨_, rfl⟩
    have hbx : (bc bb)[i]'(by rw [bc_length]; exact hilt) = .int .u8 (x : Int) := by rw [hxd]; unfold bc; rw [List.getElem_map]
    rw [hbx] at hci
    obtain ⟨q, hqd⟩ : ∃ q, q = x ^^^ bu := ⟨_, rfl⟩
    have hx8 : x < 256 := by rw [hxd]; exact bb[i].toNat_lt
    have hxor : bits .xor .u8 (x : Int) (bu : Int) = (q : Int) := by rw [hqd]; exact u8_xor_nat x bu hx8 HH.out.2.1
    have hq8 : q < 256 := by rw [hqd]; exact Nat.xor_lt_two_pow (n := 8) hx8 HH.out.2.1
    have HO4 := Lib.hid (HO3.out.set1 i (.int .u8 (q : Int)))
    rw [bc_set bb i q hq8] at HO4
    have HX4 := Lib.hid (show Ext w (w3.setCell ⟨g, i, none⟩ (.int .u8 (q : Int))) from HX3.out.setCell hBg _)
    have HL4 := Lib.hid (show (bb.set i (UInt8.ofNat q)).length = bb.length from List.length_set ..)
    obtain ⟨c1, c2, c3, m, d, D, e1, e2, e3, e4, e5, e6, e7, e8, hD, hD0, hDL, hL0⟩ := cut_nums bb.length cut HBB.out HH.out.2.2
    have hDc : (D : Int) ≤ (bc' : Int) := Int.le_trans hDL (Int.ofNat_le.2 hlc)
    have hX : wrap64 ((bb.length : Int) - wrap64 ((wrap64 ((cut : Int) % 4 * (wrap64 ((cut : Int) / 4)).tmod (wrap64 ((bb.length : Int) + 1)))).tdiv 4)) = (D : Int) := by rw [e1, e2, e3, e4, e5, e6, e7, e8]
    have hL9 : ¬ (wrap64 ((bb.length : Int) + 1) = 0) := by rw [e3]; exact hL0
    clear e1 e2 e3 e4 e5 e6 e7 e8 hL0
    have HS4 := Lib.hid (Sl.takeB HO4.out.sl D hD)
    have HL4 := Lib.hid (show ((bb.set i (UInt8.ofNat q)).take D).length = D from by rw [List.length_take, List.length_set, Nat.min_eq_left hD])
    generalize hb7 : (bb.set i (UInt8.ofNat q)).take D = bb7 at HS4 HL4
    have H8 := Lib.hid (two_made HX4.out HS4.out (by rw [HL4.out]; exact Nat.le_trans hD HBB.out) HRW.out HRL.out 24)
    clear hb7 HO4 hlp hilt hbx hxd hqd hx8 hq8 hidef hblk hcs HX3 HO3 hbn hlc hcm hD HBB HS4 HX4
    go_wp2_with fail
    clear hbz hX hL9 hD0 hDL hDc hxor hci hgf hi0 hil htm HL4
    rename ((raw.length : Int) ≤ 3000) => hq1
    rename (0 < bb.length) => hq2
    clear hq1 hq2
    obtain ⟨w8, hw8⟩ : ∃ x, x = (w3.setCell ⟨g, i, none⟩ (.int .u8 (q : Int))).alloc (.cells #[.slice (some ⟨g, 0, none⟩) D bc', .slice ro raw.length rc] 24) := ⟨_, rfl⟩
    obtain ⟨B, hB⟩ : ∃ x, x = w3.heap.size := ⟨_, rfl⟩
    have hsz : (w3.setCell ⟨g, i, none⟩ (.int .u8 (q : Int))).heap.size = w3.heap.size := by simp
    rw [← hw8]
    rw [← hw8, hsz, ← hB] at H8
    clear hsz
  all_goals
    have HX8 := Lib.hid H8.out.1
    have HC8 := Lib.hid H8.out.2
    have HB := Lib.hid hB
    try rw [← hB]
    clear H8 hw8 hB HRW HRL hw1 hz1 hwa hwc HH HX HU HL HROW
    go_loopw [82] (fun jj wr => ∃ j : Nat, j ≤ 2 ∧ jj = .int .i64 j ∧ Ext w8 wr) (fun jj _ => 2 - (intOf jj).toNat)
    case atStart => exact ⟨0, by omega, rfl, Ext.refl _⟩
    case round =>
      obtain ⟨j, hj, rfl, hxr⟩ := hrel
      have HXR := Lib.hid hxr
      clear hxr
      by_cases hlt : j < 2
      · obtain ⟨xo, bs, xc, hcell, hsl, hbl⟩ := HC8.out j hlt
        have hcl := HXR.out.cell hcell
        have hji : (j : Int) < 2 := by omega
        have hj0 : (0 : Int) ≤ (j : Int) := by omega
        have HOP := Lib.hid (hop _ bs wr (hsl.up HXR.out) (by omega))
        have HFA := Lib.hid (openT_facts bs hbl)
        clear hcell hsl hbl hlt hj
        have HXR8 := Lib.hid (HX8.out.trans HXR.out)
        go_wp2_with fail
        refine HOP.out.mono ?_
        clear HOP hcl
        rintro e w9 ⟨hx9, hr9⟩
        have HX9 := Lib.hid (Ext.trans HXR.out hx9)
        rcases HFA.out with ⟨t, hop9, htok⟩ | ⟨er, hop9, her⟩
        · rw [hop9] at hr9
          obtain ⟨tb, rfl, htb, -⟩ := hr9
          have HT := Lib.hid htb
          have HOK := Lib.hid htok
          have HBN := Lib.hid (blocks_any tb t w9 htb)
          clear HFA hop9 htb htok hx9
          obtain ⟨m, hmi, hmw⟩ := min_nums t.idx.length
          have HMW := Lib.hid hmw
          clear hmw
          go_wp2_with fail
          refine HBN.out.mono ?_
          clear HBN
          rintro e w10 ⟨rfl, rfl⟩
          go_wp2_with fail
          clear hmi
          go_loopw [110] (fun kk wr => ∃ k : Nat, k ≤ m ∧ kk = .int .i64 k ∧ Ext w10 wr) (fun kk _ => m - (intOf kk).toNat)
          case atStart => exact ⟨0, Nat.zero_le _, rfl, Ext.refl _⟩
          case round =>
            obtain ⟨k, hk, rfl, hxk⟩ := hrel
            have HXK := Lib.hid (Ext.trans HX9.out hxk)
            have HK0 := Lib.hid hxk
            have HT2 := Lib.hid (HT.out.up hxk)
            clear hxk
            by_cases hlt2 : k < m
            · have hki : (k : Int) < (m : Int) := by omega
              have HLT2 := Lib.hid hlt2
              have HWK := Lib.hid (HMW.out k hlt2)
              clear hlt2 hk
              have HBK := Lib.hid (block_any tb t k wr HT2.out HOK.out)
              go_wp2_with fail
              refine HBK.out.mono ?_
              clear HBK
              rintro e w11 ⟨hx11, ⟨ls, v, hbk, rfl, hs⟩ | ⟨-, er', her', -, rfl⟩⟩
              · have HUP := Lib.hid hbk.upK
                have HX11 := Lib.hid (Ext.trans HK0.out hx11)
                obtain ⟨po, pc, rfl, hpl, hpm, -, hpc⟩ := Sl.strs0 hs
                have HPC := Lib.hid hpc
                have HPL := Lib.hid (Nat.le_trans hpl hpm)
                clear hx11 hbk hs hpl hpm hpc
                go_wp2_with fail
                go_loopw [24] (fun nn wr => ∃ n : Nat, 1 ≤ n ∧ nn = .int .i64 n ∧ Ext w11 wr) (fun nn _ => ls.length - (intOf nn).toNat)
                case atStart => exact ⟨1, Nat.le_refl _, rfl, Ext.refl _⟩
                case round =>
                  obtain ⟨n, hn1, rfl, hxn⟩ := hrel
                  have HXN := Lib.hid hxn
                  by_cases hlt3 : n < ls.length
                  · obtain ⟨q, hq, hqn, hwq, hwn, hnl, hql, hq0, hn0⟩ := step_nums hn1 hlt3 HPL.out
                    have HWN := Lib.hid hwn
                    clear hwn
                    have hbl : Op.bytesLess ls[q].toList ls[n].toList = true := by subst hq; exact HUP.out q hlt3
                    obtain ⟨b1, off, hao, -, hcc⟩ := HPC.out (Nat.lt_of_le_of_lt (Nat.zero_le _) hlt3)
                    cases hao
                    have c1 := hxn.cell (hcc q hqn)
                    have c2 := hxn.cell (hcc n hlt3)
                    have HLT3 := Lib.hid hlt3
                    clear hcc hxn
                    generalize ls[q] = s1 at *
                    generalize ls[n] = s2 at *
                    clear hq hn1 hlt3 hqn
                    go_wp2_with fail
                    obtain ⟨wd, hwd⟩ : ∃ wd, wd = wr.drew := ⟨_, rfl⟩
                    have HXd := Lib.hid (show Ext w11 wd from by rw [hwd]; exact Ext.trans HXN.out (Ext.drew wr))
                    have hA : ∀ W, Ext wd W → W.cell? ⟨b1, off + q, none⟩ = some (.string s1) := fun W h => Ext.cell h (by rw [hwd]; exact c1)
                    have hB : ∀ W, Ext wd W → W.cell? ⟨b1, off + n, none⟩ = some (.string s2) := fun W h => Ext.cell h (by rw [hwd]; exact c2)
                    refine region_walkN (Ext wd) (by rw [← hwd]; exact Ext.refl _) (by kernel_rfl) (by kernel_rfl) (fun _ _ d _ _ h => by cases d <;> exact h) ?_
                    rw [← hwd]
                    clear hwd c1 c2
                    ((refine WalkN.take 0 _ ?_ (by simp only [List.getElem?_toArray, List.getElem?_cons_zero]; rfl) (by kernel_rfl) (by kernel_rfl) (by rfl) (fun W hW => ?_) ?_; rotate_left; · (go_simp; try with_reducible rfl)); simp only [Act.put, List.setIfInBounds_toArray, List.set_cons_zero, List.set_cons_succ]); ((refine WalkN.take 1 _ ?_ (by simp only [List.getElem?_toArray, List.getElem?_cons_succ, List.getElem?_cons_zero]; rfl) (by kernel_rfl) (by kernel_rfl) (by rfl) (fun W hW => ?_) ?_; rotate_left; · (go_simp; try with_reducible rfl)); simp only [Act.put, List.setIfInBounds_toArray, List.set_cons_zero, List.set_cons_succ]); ((refine WalkN.take 2 _ ?_ (by simp only [List.getElem?_toArray, List.getElem?_cons_succ, List.getElem?_cons_zero]; rfl) (by kernel_rfl) (by kernel_rfl) (by rfl) (fun W hW => ?_) ?_; rotate_left; · (go_simp; try with_reducible rfl)); simp only [Act.put, List.setIfInBounds_toArray, List.set_cons_zero, List.set_cons_succ]); ((refine WalkN.take 3 _ ?_ (by simp only [List.getElem?_toArray, List.getElem?_cons_succ, List.getElem?_cons_zero]; rfl) (by kernel_rfl) (by kernel_rfl) (by rfl) (fun W hW => ?_) ?_; rotate_left; · (go_simp; try with_reducible rfl)); simp only [Act.put, List.setIfInBounds_toArray, List.set_cons_zero, List.set_cons_succ]); ((refine WalkN.take 4 _ ?_ (by simp only [List.getElem?_toArray, List.getElem?_cons_succ, List.getElem?_cons_zero]; rfl) (by kernel_rfl) (by kernel_rfl) (by rfl) (fun W hW => ?_) ?_; rotate_left; · (go_simp; try with_reducible rfl)); simp only [Act.put, List.setIfInBounds_toArray, List.set_cons_zero, List.set_cons_succ]); ((refine WalkN.take 5 _ ?_ (by simp only [List.getElem?_toArray, List.getElem?_cons_succ, List.getElem?_cons_zero]; rfl) (by kernel_rfl) (by kernel_rfl) (by rfl) (fun W hW => ?_) ?_; rotate_left; · (go_simp; try with_reducible rfl)); simp only [Act.put, List.setIfInBounds_toArray, List.set_cons_zero, List.set_cons_succ]); ((refine WalkN.take 6 _ ?_ (by simp only [List.getElem?_toArray, List.getElem?_cons_succ, List.getElem?_cons_zero]; rfl) (by kernel_rfl) (by kernel_rfl) (by rfl) (fun W hW => ?_) ?_; rotate_left; · (go_simp; try with_reducible rfl)); simp only [Act.put, List.setIfInBounds_toArray, List.set_cons_zero, List.set_cons_succ]); ((refine WalkN.take 7 _ ?_ (by simp only [List.getElem?_toArray, List.getElem?_cons_succ, List.getElem?_cons_zero]; rfl) (by kernel_rfl) (by kernel_rfl) (by rfl) (fun W hW => ?_) ?_; rotate_left; · (go_simp; try with_reducible rfl)); simp only [Act.put, List.setIfInBounds_toArray, List.set_cons_zero, List.set_cons_succ]); ((refine WalkN.take 8 _ ?_ (by simp only [List.getElem?_toArray, List.getElem?_cons_succ, List.getElem?_cons_zero]; rfl) (by kernel_rfl) (by kernel_rfl) (by rfl) (fun W hW => ?_) ?_; rotate_left; · (go_simp; try with_reducible rfl)); simp only [Act.put, List.setIfInBounds_toArray, List.set_cons_zero, List.set_cons_succ]); ((refine WalkN.take 9 _ ?_ (by simp only [List.getElem?_toArray, List.getElem?_cons_succ, List.getElem?_cons_zero]; rfl) (by kernel_rfl) (by kernel_rfl) (by rfl) (fun W hW => ?_) ?_; rotate_left; · (go_simp; try with_reducible rfl)); simp only [Act.put, List.setIfInBounds_toArray, List.set_cons_zero, List.set_cons_succ])
                    refine WalkN.done (by kernel_rfl) ?_
                    clear hA hB
                    go_wp2_with fail
                    go_roundw
                    case rel => exact ⟨n + 1, Nat.le_add_left _ _, by rw [HWN.out]; rfl, HXd.out⟩
                    case measure => rw [HWN.out]; exact meas_up HLT3.out
                  · have hnl : ¬ ((n : Int) < (ls.length : Int)) := fun h => hlt3 (Int.ofNat_lt.1 h)
                    have HX12 := Lib.hid (Ext.trans HX11.out HXN.out)
                    clear hlt3 hn1 hxn
                    go_wp2_with fail
                    go_roundw
                    case rel => exact ⟨k + 1, HLT2.out, by rw [HWK.out]; rfl, HX12.out⟩
                    case measure => rw [HWK.out]; exact meas_up HLT2.out
              · have HX11 := Lib.hid (Ext.trans HK0.out hx11)
                have hei : ¬ ((er' : Int) = 0) := by omega
                clear hx11 her'
                go_wp2_with fail
                go_roundw
                case rel => exact ⟨k + 1, HLT2.out, by rw [HWK.out]; rfl, HX11.out⟩
                case measure => rw [HWK.out]; exact meas_up HLT2.out
            · obtain rfl : k = m := by omega
              have HSK := Lib.hid (seekT_any tb t ⟨#[97]⟩ wr HT2.out HOK.out)
              go_wp2_with fail
              refine HSK.out.mono ?_
              clear HSK
              intro e w12 hr12
              obtain ⟨hx12, sv, sb, se, rfl⟩ := RetSeek.ret hr12
              have HX12 := Lib.hid (Ext.trans HXK.out hx12)
              have HAL := Lib.hid (all_any tb t w12 (HT2.out.up hx12) HOK.out)
              clear hr12 hx12
              go_wp2_with fail
              refine HAL.out.mono ?_
              clear HAL
              intro e w13 hr13
              obtain ⟨hx13, ao, an, ac, ae, rfl⟩ := RetAll.ret hr13
              have HX13 := Lib.hid (Ext.trans HX12.out hx13)
              clear hr13 hx13
              go_wp2_with fail
              go_roundw
              case rel => exact ⟨j + 1, by omega, by go_num, HX13.out⟩
              case measure => simp [intOf]; omega
        · rw [hop9] at hr9
          clear HFA hop9 hx9
          rcases her with rfl | rfl | rfl
          · obtain rfl := show e = .returned (.tuple #[.pointer none, .int .i64 7]) from hr9
            clear hr9
            go_wp2_with fail
            go_roundw
            case rel => exact ⟨j + 1, by omega, by go_num, HX9.out⟩
            case measure => simp [intOf]; omega
          · obtain rfl := show e = .returned (.tuple #[.pointer none, .int .i64 8]) from hr9
            clear hr9
            go_wp2_with fail
            go_roundw
            case rel => exact ⟨j + 1, by omega, by go_num, HX9.out⟩
            case measure => simp [intOf]; omega
          · obtain rfl := show e = .returned (.tuple #[.pointer none, .int .i64 9]) from hr9
            clear hr9
            go_wp2_with fail
            go_roundw
            case rel => exact ⟨j + 1, by omega, by go_num, HX9.out⟩
            case measure => simp [intOf]; omega
      · obtain rfl : j = 2 := by omega
        have HX := Lib.hid (HX8.out.trans HXR.out)
        go_wp2_with fail
        go_ret
        exact ⟨rfl, HX.out⟩

end Go.Proofs.YtmmeofiocbfamaaDoor
