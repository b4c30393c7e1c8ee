/- sentrylaw14's fixed. How an argument's reading as data gives what a slice holds in memory; and what a law's row asks behind the call. The arguments' types, opened; a world in which the library's tables lie. No condition: lemmas. -/
import Derived.ProofKit
import Derived.OpenShut
import GoSem.PinnedTables
import Derived.Deep.DeepHandedRow
import Derived.Lib.SmallJoins
import Derived.Test.YtmmeofiocbfamaaDoorZ25
import Derived.Test.YtmmeofiocbfamaaDoorZ27
import Derived.Test.YtmmeofiocbfamaaDoorZ0
import Derived.Test.YtmmeofiocbfamaaDoorZ5
namespace Go.Proofs.YtmmeofiocbfamaaDoor
open Go Go.RowKit

/-- Open's contract. -/
def OpenLaw : Prop := ∀ (v : Value) (bs : List UInt8) (w : World), Sl (· < w.heap.size) w 1 v (bc bs) → bs.length ≤ 10000000 → Calls Tryd.prog 9 #[v] w (RetOpenT (openT bs) w)
/-- Keys of entries: valid, short, few, rising. -/
structure KeyRow (ks : List ByteArray) : Prop where
  up : UpK ks
  few : ks.length ≤ 100
  short : ∀ k ∈ ks, k.size ≤ 220
  good : ks.any (fun k => (outerS k.data.toList).isNone) = false
/-- What Build answers of keys of entries. -/
theorem build_row {ks : List ByteArray} (h : KeyRow ks) (hne : ks ≠ []) {split bits : Int} (hs : 1 ≤ split) {w w' : World} {e : Ending} (hr : RetBuild ks split bits w e w') :
    Ext w w' ∧ ∃ v, e = .returned (.tuple #[v, .int .i64 0]) ∧ Own w' w.heap.size 5 1 v (bc (tableB ks split bits)) := by
  obtain ⟨hx, hr⟩ := hr
  have hg : ¬ (ks = [] ∨ split < 1) := fun e => e.elim hne (fun h => by omega)
  rcases hr with ⟨h1, _⟩ | ⟨_, h1, _⟩ | ⟨_, _, h1, _⟩ | ⟨_, _, _, v, h1, h2⟩
  · exact absurd h1 hg
  · rw [h.good] at h1; cases h1
  · exact absurd h.up h1
  · exact ⟨hx, v, h1, h2⟩
theorem bloom_len (ks : List ByteArray) (bits : Int) (h : ks.length ≤ 100) : (bloomB (dl ks) bits).length ≤ 600 := by
  unfold bloomB
  rw [List.length_append, fillL_length, List.length_replicate, List.length_singleton]
  have h1 : (dl ks).length = ks.length := List.length_map _
  have h2 := bitsN_bound bits
  unfold bloomN
  have h4 : (dl ks).length * bitsN bits ≤ 100 * 40 := Nat.mul_le_mul (by omega) h2.2
  omega
/-- A table of a row, opened. -/
theorem open_row {ks : List ByteArray} (h : KeyRow ks) (hne : ks ≠ []) (split bits : Int) : ∃ t, openT (tableB ks split bits) = (some t, 0) ∧ TbOk t ∧ t.count = ks.length ∧ t.filter = bloomB (dl (buildW ks split).stems) bits ∧
    (∃ bl, t.idx = plcsOf 0 bl ∧ t.b = outOf bl ∧ ks = bl.flatten ∧ ∀ b ∈ bl, b ≠ []) ∧
    (∀ key w e w', RetSeek t key w e w' → Ext w w' ∧ e = seekR (seekL ks key)) ∧
    (∀ w e w', RetAll t w e w' → Ext w w' ∧ ∃ v, e = .returned (.tuple #[v, .int .i64 0]) ∧ Own w' w.heap.size 9 1 v (sc ks)) := by
  have hk1 : ∀ k ∈ ks, k.size ≤ 1000 := fun k hk => by have := h.short k hk; omega
  obtain ⟨bl, h1, h2, h3⟩ := open_put ks split bits hne h.up hk1 (by have := h.few; omega)
  have hu : Up bl.flatten := h1 ▸ h.up.up
  have hs : ∀ k ∈ bl.flatten, k.size ≤ 400 := h1 ▸ fun k hk => by have := h.short k hk; omega
  have hl : bl.flatten.length ≤ 100 := h1 ▸ h.few
  have hs2 : ∀ k ∈ bl.flatten, k.size ≤ 1000 := h1 ▸ hk1
  have hst : (buildW ks split).stems.length ≤ 100 := by have := (WInv.build hk1 split).stems; have := h.few; omega
  refine ⟨_, h3, tbOk_put hu h2 hs hl (by have := bloom_len _ bits hst; omega), rfl, rfl, ⟨bl, rfl, rfl, h1, h2⟩, fun key w e w' hr => ?_, fun w e w' hr => ?_⟩
  · have := seek_put hu h2 hs2 (by omega) hr
    rwa [← h1] at this
  · have := all_put hu h2 hs2 (by omega) hr
    rwa [← h1] at this
theorem blocks_few : ∀ l : List (List ByteArray), (∀ b ∈ l, b ≠ []) → l.length ≤ l.flatten.length
  | [], _ => Nat.le_refl _
  | b :: l, h => by
    have := blocks_few l fun x hx => h x (List.mem_cons_of_mem _ hx)
    have := List.length_pos_iff.2 (h b List.mem_cons_self)
    rw [List.flatten_cons, List.length_append, List.length_cons]
    omega
theorem tableB_len {ks : List ByteArray} (h : KeyRow ks) (split bits : Int) : (tableB ks split bits).length ≤ 60000 := by
  have hk1 : ∀ k ∈ ks, k.size ≤ 1000 := fun k hk => by have := h.short k hk; omega
  obtain ⟨bl, ho, hi, hfl, hb⟩ := blocks_of ks split
  have hv := WInv.build hk1 split
  have hsh : ∀ k ∈ bl.flatten, k.size ≤ 220 := hfl ▸ h.short
  have h1 := outOf_bound 220 (by decide) bl hb hsh
  have h2 : bl.flatten.length * (220 + 36) ≤ 100 * 256 := Nat.mul_le_mul (hfl ▸ h.few) (Nat.le_refl _)
  have hbl : bl.length ≤ 100 := Nat.le_trans (blocks_few bl hb) (hfl ▸ h.few)
  have hst : (buildW ks split).stems.length ≤ 100 := by have := hv.stems; have := h.few; omega
  have h3 := bloom_len (buildW ks split).stems bits hst
  have h4 := idxB_len 220 (by decide) (plcsOf 0 bl) (fun p hp => by
    have h5 := hv.places p (by rw [hi]; exact hp)
    have h6 := hv.len
    have h7 := h.few
    refine ⟨?_, by omega, by omega⟩
    have hm : p.first ∈ (plcsOf 0 bl).map (·.first) := List.mem_map.2 ⟨p, hp, rfl⟩
    rw [plcsOf_first] at hm
    obtain ⟨b, hb', e⟩ := List.mem_map.1 hm
    rw [← e]
    cases b with
    | nil => exact Nat.zero_le _
    | cons x l => exact hsh x (List.mem_flatten.2 ⟨_, hb', by simp⟩))
  have h8 : (plcsOf 0 bl).length * (220 + 30) ≤ 100 * 250 := Nat.mul_le_mul (by rw [plcsOf_len]; exact hbl) (Nat.le_refl _)
  have h9 : (putB (plcsOf 0 bl).length).length ≤ 10 := U64.len (by unfold U64; rw [plcsOf_len]; omega)
  have hB := sealB_length (idxB (plcsOf 0 bl))
  have hC := sealB_length (bloomB (dl (buildW ks split).stems) bits)
  have hI : (idxB (plcsOf 0 bl)).length = (putB (plcsOf 0 bl).length).length + ((plcsOf 0 bl).flatMap plcB).length := by unfold idxB; rw [List.length_append]
  have e8 : ∀ n, (eightB n).length = 8 := fun n => rfl
  unfold tableB
  rw [ho, hi]
  simp only [List.length_append, e8, List.length_cons, List.length_nil] at *
  omega
theorem addS_self (l : List ByteArray) (x : ByteArray) : x ∈ addS l x := by
  unfold addS
  split
  · next h => exact List.mem_of_getLast? h
  · simp
theorem addS_sub (l : List ByteArray) (x y : ByteArray) (h : y ∈ l) : y ∈ addS l x := by
  unfold addS
  split
  · exact h
  · exact List.mem_append_left _ h
theorem add_stems (s : WS) (k : ByteArray) (split : Int) : (s.add k split).stems = addS s.stems (stemB k) := by
  unfold WS.add
  split <;> rfl
theorem adds_stems (split : Int) : ∀ (ks : List ByteArray) (s : WS) (x : ByteArray), x ∈ s.stems ∨ (∃ k ∈ ks, x = stemB k) → x ∈ (ks.foldl (fun s k => s.add k split) s).stems
  | [], s, x, h => by
    rcases h with h | ⟨k, hk, _⟩
    · exact h
    · cases hk
  | a :: ks, s, x, h => by
    refine adds_stems split ks _ x ?_
    rw [add_stems]
    rcases h with h | ⟨k, hk, rfl⟩
    · exact .inl (addS_sub _ _ _ h)
    · rcases List.mem_cons.1 hk with rfl | hk
      · exact .inl (addS_self _ _)
      · exact .inr ⟨k, hk, rfl⟩
theorem build_stems (ks : List ByteArray) (split : Int) (k : ByteArray) (h : k ∈ ks) : stemB k ∈ (buildW ks split).stems := by
  have := adds_stems split ks ws0 (stemB k) (.inr ⟨k, h, rfl⟩)
  unfold buildW
  split
  · exact this
  · exact this
theorem may_row (ks : List ByteArray) (split bits : Int) (k : ByteArray) (h : k ∈ ks) : mayB (bloomB (dl (buildW ks split).stems) bits) (stemB k).data.toList = true :=
  may_bloom _ _ _ (List.mem_map.2 ⟨_, build_stems ks split k h, rfl⟩)
/-- The key of fixed's entry. -/
def key14 : ByteArray := ⟨(innerB [97] 3 false).toArray⟩
theorem outer14 : outerS key14.data.toList = some ([97], 3, false) := by
  unfold key14
  exact outer_inner [97] 3 false (by unfold U64; decide)
theorem row14 : KeyRow [key14] := by
  refine ⟨fun j h => by simp at h, by simp, fun k hk => ?_, ?_⟩
  · rw [List.mem_singleton.1 hk]
    have : key14.size = 12 := by kernel_rfl
    omega
  · simp [outer14]

set_option maxRecDepth 100000 in
set_option maxHeartbeats 1600000 in
theorem fixed14_any (hop : OpenLaw) (w : World) (henv : Env w) : Calls Tryd.prog 6 #[] w fun e w' => e = .returned (.bool true) ∧ Ext w w' := by
  have HIN := Lib.hid (refInner_any ⟨#[97]⟩ 3 false w (by unfold U64; decide) (by decide))
  unfold entV at HIN
  go_enter Tryd.func6, Tryd.ntmps6
  go_wp2_with fail
  refine HIN.out.mono ?_
  clear HIN
  rintro e w1 ⟨rfl, hx1⟩
  rw [show (⟨(innerB (⟨#[97]⟩ : ByteArray).data.toList 3 false).toArray⟩ : ByteArray) = key14 from rfl]
  have HX1 := Lib.hid (show Ext w w1 from hx1)
  have hxa := Ext.alloc w1 (.cells #[.string key14] 9)
  have HSL := Lib.hid (show Sl (fun b => b < (w1.alloc (.cells #[.string key14] 9)).heap.size) (w1.alloc (.cells #[.string key14] 9)) 1 (.slice (some ⟨w1.heap.size, 0, none⟩) 1 1) (sc [key14]) from Sl.made w1 _ 1 1 9 #[.string key14] rfl (by decide) (by simp))
  have HX2 := Lib.hid (HX1.out.trans hxa)
  have HBU := Lib.hid (table_build (.slice (some ⟨w1.heap.size, 0, none⟩) 1 1) [key14] 100 10 _ (henv.below HX2.out) HSL.out (by simp) (fun k hk => by have := row14.short k hk; omega))
  clear hx1 hxa
  have HROW := Lib.hid row14
  generalize key14 = key at *
  go_wp2_with fail
  refine HBU.out.mono ?_
  clear HBU
  intro e w2 hr2
  obtain ⟨hx2, v2, rfl, ho2⟩ := build_row HROW.out (by simp) (by decide) hr2
  have HX3 := Lib.hid (HX2.out.trans hx2)
  obtain ⟨t, ht, htok, htc, htf, ⟨bl, hti, -, hfl, hbn⟩, hseek, -⟩ := open_row HROW.out (by simp) 100 10
  have HTL := Lib.hid (show (tableB [key] 100 10).length ≤ 10000000 from by have := tableB_len HROW.out 100 10; omega)
  have HOP := Lib.hid (hop v2 (tableB [key] 100 10) w2 (ho2.sl.mono fun b hb => hb.2) HTL.out)
  have HMAY := Lib.hid (show mayB t.filter (stemB key).data.toList = true from by rw [htf]; exact may_row [key] 100 10 key (by simp))
  have HBL := Lib.hid (show t.idx.length = 1 from by
    rw [hti, plcsOf_len]
    have h1 := blocks_few bl hbn
    rw [← hfl] at h1
    cases bl with
    | nil => cases hfl
    | cons b l => simp at h1 ⊢; omega)
  have HCT := Lib.hid (show t.count = 1 from htc)
  have HTO := Lib.hid htok
  have HSK := Lib.hid (fun w e w' h => (hseek ⟨#[]⟩ w e w' h))
  have HQ := Lib.hid (show seekL [key] ⟨#[]⟩ = some key from by
    unfold seekL
    rw [List.find?_cons_of_pos]
    rw [ltS_iff]
    simp)
  have hON : openT [] = (none, 7) := rfl
  rw [ht] at HOP
  obtain ⟨bo2, bn2, bc2, rfl, -, -, -⟩ := ho2.sl.len
  clear hr2 hx2 ho2 ht htok htc htf hti hfl hbn hseek HX1 HX2 HSL
  go_wp2_with fail
  refine HOP.out.mono ?_
  clear HOP
  rintro e w3 ⟨hx3, tb, rfl, hat, -⟩
  have HX4 := Lib.hid (HX3.out.trans hx3)
  have HAT := Lib.hid hat
  have HO2 := Lib.hid (hop (.slice none 0 0) [] w3 (Sl.nil _ _ _) (by simp))
  rw [hON] at HO2
  clear hx3 hat HX3 hON
  go_wp2_with fail
  refine HO2.out.mono ?_
  clear HO2
  rintro e w4 ⟨hx4, rfl⟩
  have HX5 := Lib.hid (HX4.out.trans hx4)
  have HAT4 := Lib.hid (HAT.out.up hx4)
  have HS := Lib.hid (seekT_any tb t ⟨#[]⟩ w4 HAT4.out HTO.out)
  clear hx4 HX4 HAT
  go_wp2_with fail
  refine HS.out.mono ?_
  clear HS
  intro e w5 hr5
  obtain ⟨hx5, rfl⟩ := HSK.out _ _ _ hr5
  rw [HQ.out]
  have HX6 := Lib.hid (HX5.out.trans hx5)
  have HAT5 := Lib.hid (HAT4.out.up hx5)
  have HB := Lib.hid (blocks_any tb t w5 HAT5.out)
  have HL := Lib.hid (len_any tb t w5 HAT5.out)
  rw [HBL.out] at HB
  rw [HCT.out] at HL
  have hks : key.size ≤ 220 := HROW.out.short key (by simp)
  have HST := Lib.hid (stem_any key w5 (by omega))
  have HM := Lib.hid (tmay_any tb t w5 (stemB key) HAT5.out HTO.out (by have := stemB_size key; omega))
  rw [HMAY.out] at HM
  rw [show key.extract 0 (key.size - 9) = stemB key from rfl] at HST
  clear hr5 hx5 HX5 HAT4 HMAY HQ HSK
  have hkk : (key.toList == key.toList) = true := by simp
  unfold seekR
  go_wp2_with fail
  refine HB.out.mono ?_
  rintro e w6 ⟨rfl, rfl⟩
  go_wp2_with fail
  refine HL.out.mono ?_
  rintro e w7 ⟨rfl, rfl⟩
  go_wp2_with fail
  refine HST.out.mono ?_
  rintro e w8 ⟨rfl, rfl⟩
  go_wp2_with fail
  refine HM.out.mono ?_
  rintro e w9 ⟨rfl, hx9⟩
  have HX7 := Lib.hid (HX6.out.trans hx9)
  clear hx9
  go_wp2_with fail
  go_ret
  exact ⟨rfl, HX7.out⟩

end Go.Proofs.YtmmeofiocbfamaaDoor
namespace Go.Proofs.YtmmeofiocbfamaaDoor
open Go Go.RowKit Go.ChangeShapes Go.WideShapes Go.ChangeAt

section
variable {H : Type} {enc : TypeId × Value → H} {P : Program} {w : World}

theorem mapM_some {α β : Type} {f : α → Option β} : ∀ {l : List α} {r : List β}, l.mapM f = some r → r.length = l.length ∧ ∀ (i : Nat) (x : α), l[i]? = some x → f x = r[i]? := by
  intro l
  induction l with
  | nil => intro r h; simp at h; subst h; exact ⟨rfl, by simp⟩
  | cons a l ih =>
    intro r h
    simp only [List.mapM_cons, Option.bind_eq_bind, Option.bind_eq_some_iff, Option.pure_def, Option.some.injEq] at h
    obtain ⟨b, hb, bs, hbs, rfl⟩ := h
    obtain ⟨h1, h2⟩ := ih hbs
    refine ⟨by simp [h1], fun i x hx => ?_⟩
    cases i with
    | zero => simp at hx; subst hx; simpa using hb
    | succ i => simp at hx ⊢; exact h2 i x hx

theorem addr_add_add (a : Addr) (x y : Nat) : (a.add x).add y = a.add (x + y) := by
  by_cases hx : x = 0
  · subst hx; simp [Addr.add]
  · by_cases hy : y = 0
    · subst hy; simp [Addr.add]
    · simp [Addr.add, hx, hy, Nat.add_assoc]

/-- The cells of a row: as World.cells? reads them. -/
theorem cells_get {base : Nat} {a : Addr} {n : Nat} {cs : List Value} (h : w.cells? base a n = some cs) : cs.length = n ∧ ∀ j, j < n → w.cell? (a.add j) = cs[j]? := by
  unfold World.cells? at h
  split at h
  · obtain ⟨h1, h2⟩ := mapM_some h
    refine ⟨by simpa using h1, fun j hj => h2 j j (by simp [hj])⟩
  · cases h

/-- A slice's reading gives its cells, element by element. -/
theorem open_sl {t e : TypeId} {v : Value} {d : DataW H} {ps : List MemPlace} (ht : P.underlying t = some (.slice e)) (hv : ∃ a len cap, v = .slice a len cap) (h : DataW.Trod enc P w 0 (fun _ => true) true t v d ps) :
    ∃ (xs : List Value) (elems : List (DataW H × List MemPlace)) (fuel : Nat), Sl (· < w.heap.size) w (P.cellsOf e) v xs ∧ xs.length = elems.length * P.cellsOf e ∧
      (∀ i y, elems[i]? = some y → DataW.trod enc P w 0 (fun _ => true) true fuel e ((xs.drop (i * P.cellsOf e)).take (P.cellsOf e)) = some y) ∧
      (d = .nil ∧ elems = [] ∨ ∃ rest, d = .slice (elems.map (·.1)) rest) := by
  obtain ⟨a0, len0, cap0, rfl⟩ := hv
  obtain ⟨fuel, hf⟩ := h
  rcases DataW.trod_slice ht hf with ⟨hcs, hx⟩ | ⟨a, len, cap, elems, rest, n, hfu, hcs, hx, _, hlc, hcm, hlen, hel, _⟩
  · have hv : Value.slice a0 len0 cap0 = .slice none 0 0 := by simpa [Value.cells] using hcs
    rw [hv]
    simp only [Prod.mk.injEq] at hx
    exact ⟨[], [], 0, Sl.nil _ w _, by simp, by simp, .inl ⟨hx.1, rfl⟩⟩
  · have hv : Value.slice a0 len0 cap0 = .slice (some a) len cap := by simpa [Value.cells] using hcs
    rw [hv]
    generalize hk : P.cellsOf e = k at *
    have hget : ∀ i, i < len → ∃ cs y, w.cells? 0 (a.add (i * k)) k = some cs ∧ elems[i]? = some y ∧ DataW.trod enc P w 0 (fun _ => true) true n e cs = some y := by
      intro i hi
      have h1 := hel i hi
      obtain ⟨y, hy⟩ : ∃ y, elems[i]? = some y := ⟨_, List.getElem?_eq_getElem (by omega)⟩
      rw [hy] at h1
      obtain ⟨cs, hc1, hc2⟩ := Option.bind_eq_some_iff.1 h1
      exact ⟨cs, y, hc1, hy, hc2⟩
    -- the cells, one by one
    obtain ⟨xs, hxl, hxs⟩ : ∃ xs : List Value, xs.length = len * k ∧ ∀ i j, i < len → j < k → w.cell? (a.add (i * k + j)) = xs[i * k + j]? := by
      refine ⟨(List.range (len * k)).map fun m => (w.cell? (a.add m)).getD undef, by simp, fun i j hi hj => ?_⟩
      have hm : i * k + j < len * k := by
        have := Nat.mul_le_mul_right k (show i + 1 ≤ len from hi)
        rw [Nat.add_mul] at this
        omega
      obtain ⟨cs, y, hc1, _, _⟩ := hget i hi
      obtain ⟨hcl, hcc⟩ := cells_get hc1
      have h2 := hcc j hj
      rw [addr_add_add] at h2
      rw [h2, List.getElem?_eq_getElem (by omega)]
      simp [hm, h2, List.getElem?_eq_getElem (show j < cs.length by omega)]
    have hxm : ∀ m u, xs[m]? = some u → w.cell? (a.add m) = some u := by
      intro m u hu
      have hml : m < len * k := by rw [← hxl]; exact (List.getElem?_eq_some_iff.1 hu).1
      have hk0 : 0 < k := by
        apply Nat.pos_of_ne_zero
        intro h0
        rw [h0] at hml
        omega
      have hdm := Nat.div_add_mod m k
      have hi : m / k < len := (Nat.div_lt_iff_lt_mul hk0).2 hml
      have := hxs (m / k) (m % k) hi (Nat.mod_lt _ hk0)
      rw [Nat.mul_comm, hdm] at this
      rw [this, hu]
    refine ⟨xs, elems, n, ⟨some a, len, cap, rfl, hxl, hlc, hcm, fun h => (by cases h), fun hne => ?_⟩, by rw [hxl, hlen], fun i y hy => ?_, .inr ⟨rest.map (·.1), ?_⟩⟩
    · obtain ⟨u, hu⟩ : ∃ u, xs[0]? = some u := by
        cases xs with
        | nil => exact absurd rfl hne
        | cons x _ => exact ⟨x, rfl⟩
      have h0 := hxm 0 u hu
      obtain ⟨b, off, s⟩ := a
      have hs : s = none := by
        cases s with
        | none => rfl
        | some s =>
          exfalso
          simp only [Addr.add, World.cell?] at h0
          split at h0 <;> simp at h0
      subst hs
      have hb := World.block_lt_of_cell? w _ h0
      rw [Addr.add_lit] at hb
      exact ⟨b, off, rfl, hb, fun j u hu => by have := hxm j u hu; rwa [Addr.add_lit] at this⟩
    · have hi : i < len := by rw [← hlen]; exact (List.getElem?_eq_some_iff.1 hy).1
      obtain ⟨cs, y', hc1, hy', hc2⟩ := hget i hi
      obtain rfl : y = y' := by rw [hy] at hy'; exact Option.some.inj hy'
      obtain ⟨hcl, hcc⟩ := cells_get hc1
      have : (xs.drop (i * k)).take k = cs := by
        apply List.ext_getElem?
        intro j
        rw [List.getElem?_take]
        split
        · rename_i hj
          rw [List.getElem?_drop, ← hxs i j hi hj, ← hcc j hj, addr_add_add]
        · rename_i hj
          rw [List.getElem?_eq_none (by omega)]
      rw [this]
      exact hc2
    · simp only [Prod.mk.injEq] at hx
      exact hx.1

/-- What all of a law's arguments read as, they read as behind a call that has only made new blocks. -/
theorem trodAll_stays {ts : List TypeId} (hl : laidOutB P = true) {W W' : World} (hb : Below W.heap.size W W') :
    ∀ {vs : List Value} {ds : List (DataW H)} {ps : List MemPlace}, (∀ t ∈ ts, P.readableRec t = true ∧ t < P.types.size) → (∀ x ∈ ps, x.block < W.heap.size) →
      DataW.TrodAll enc P W 0 (fun _ => true) true ts vs ds ps → DataW.TrodAll enc P W' 0 (fun b => decide (b < W.heap.size)) true ts vs ds ps := by
  induction ts with
  | nil =>
    intro vs ds ps _ _ h
    cases vs <;> cases ds <;> simp_all [DataW.TrodAll]
  | cons t ts ih =>
    intro vs ds ps hr hlt h
    obtain ⟨v, vs', d, ds', p, q, rfl, rfl, rfl, h1, h2⟩ := trodAll_cons h
    exact trodAll_cons_mk (Below.trod hl (hr t (by simp)).1 (hr t (by simp)).2 h1 hb (fun x hx => hlt x (by simp [hx]))) (ih (fun t ht => hr t (by simp [ht])) (fun x hx => hlt x (by simp [hx])) h2)

/-- A law's post: it says true; the arguments read as they did. -/
theorem law_post {f : Func} {s : ChangeSpec} {W W' : World} {args : Array Value} {ds gs : List (DataW H)} {before : List MemPlace} {tb : TypeId}
    (hW : DataW.Whole enc P f.params.toList s.vars false W args.toList ds gs before) (hvars : s.vars = []) (hres : f.resultTypes = #[tb]) (htb : P.underlying tb = some .bool)
    (hfn : (s.fn H (ds ++ gs)).results = [.lit (.bool true)]) (hfa : (s.fn H (ds ++ gs)).args = ds) (hfv : (s.fn H (ds ++ gs)).vars = [])
    (hl : laidOutB P = true) (hr : (f.params.toList.all fun t => P.readableRec t && decide (t < P.types.size)) = true) (hb : Below W.heap.size W W') :
    s.post enc P f false true false false W args (.bool true) W' := by
  have hlt := hW.lt
  have hW0 := hW
  obtain ⟨p, q, hA, hV, rfl, _, _⟩ := hW
  rw [hvars] at hV
  refine ⟨ds, gs, p ++ q, [], p, [], hW0, ?_, ?_, ?_, hb.frame _, fun h => by cases h⟩
  · rw [hfn, hres]
    exact trodAll_mk1 (shut_bool htb true)
  · rw [hfa]
    refine trodAll_stays hl hb (fun t ht => ?_) (fun x hx => hlt x (by simp [hx])) hA
    have := List.all_eq_true.1 hr t ht
    simpa using this
  · rw [hfv, hvars]
    rfl
end

end Go.Proofs.YtmmeofiocbfamaaDoor
namespace Go.Proofs.YtmmeofiocbfamaaDoor
open Go Go.RowKit Go.ChangeShapes Go.WideShapes Go.ChangeAt
open Go.ChangeMaps (open_string)

section
variable {H : Type} {enc : TypeId × Value → H} {W : World} {base : Nat} {v : Value} {d : DataW H} {ps : List MemPlace}

set_option maxRecDepth 100000 in
theorem open_bytesV (hok : Value.okWide Tryd.prog W .any base 24 v) (h : DataW.Trod enc Tryd.prog W 0 (fun _ => true) true 24 v d ps) : ∃ l : List UInt8, Sl (· < W.heap.size) W 1 v (bc l) := by
  obtain ⟨xs, elems, fuel, hs, hl, he, _⟩ := open_sl Tryd.underlying24 (okWide_slice Tryd.underlying24 hok) h
  rw [show Tryd.prog.cellsOf 5 = 1 from by kernel_rfl] at hs hl he
  have hall : ∀ i (hi : i < xs.length), ∃ c : UInt8, xs[i] = .int .u8 c.toNat := by
    intro i hi
    have hie : i < elems.length := by omega
    have := he i elems[i] (by simp [hie])
    rw [Nat.mul_one, show (xs.drop i).take 1 = [xs[i]] from by rw [List.drop_eq_getElem_cons hi]; rfl] at this
    obtain ⟨n, e1, _, hw⟩ := DataW.trod_int Tryd.underlying5 this
    have hb := bounds_u8 hw
    refine ⟨UInt8.ofNat n.toNat, ?_⟩
    have e2 : xs[i] = .int .u8 n := by simpa using e1
    rw [e2]
    congr 1
    have : (UInt8.ofNat n.toNat).toNat = n.toNat := by simp; omega
    rw [this]
    omega
  refine ⟨xs.map fun x => match x with | .int _ n => UInt8.ofNat n.toNat | _ => 0, ?_⟩
  have : bc (xs.map fun x => match x with | .int _ n => UInt8.ofNat n.toNat | _ => 0) = xs := by
    apply List.ext_getElem
    · simp [bc]
    · intro i h1 h2
      obtain ⟨c, hc⟩ := hall i h2
      simp [bc, hc]
  rw [this]
  exact hs

set_option maxRecDepth 100000 in
theorem open_u64V (hok : Value.okWide Tryd.prog W .any base 48 v) (h : DataW.Trod enc Tryd.prog W 0 (fun _ => true) true 48 v d ps) : ∃ q : Nat, v = .int .u64 q ∧ U64 q := by
  obtain ⟨x, rfl, _, _, wx⟩ := open_int Tryd.underlying48 hok h
  have hb := bounds_u64 wx
  refine ⟨x.toNat, by congr 1; omega, ?_⟩
  unfold U64
  omega

set_option maxRecDepth 100000 in
theorem open_strV (hok : Value.okWide Tryd.prog W .any base 9 v) (h : DataW.Trod enc Tryd.prog W 0 (fun _ => true) true 9 v d ps) : ∃ s : ByteArray, v = .string s ∧ s.size ≤ 9223372036854775807 := by
  obtain ⟨s, rfl, _, _, hs⟩ := open_string Tryd.underlying9 hok h
  exact ⟨s, rfl, by unfold maxLen at hs; omega⟩

set_option maxRecDepth 100000 in
theorem open_boolV (hok : Value.okWide Tryd.prog W .any base 4 v) (h : DataW.Trod enc Tryd.prog W 0 (fun _ => true) true 4 v d ps) : ∃ b : Bool, v = .bool b := by
  obtain ⟨b, rfl, _⟩ := open_bool Tryd.underlying4 hok h
  exact ⟨b, rfl⟩

set_option maxRecDepth 100000 in
theorem open_entryV (hok : Value.okWide Tryd.prog W .any base 50 v) (h : DataW.Trod enc Tryd.prog W 0 (fun _ => true) true 50 v d ps) : ∃ (k : ByteArray) (r : Nat) (b : Bool), v = entV k r b ∧ U64 r := by
  have hc : Tryd.prog.cellsOf 50 = 3 := by kernel_rfl
  obtain ⟨c0, c1, c2, y0, y1, y2, m, rfl, _, _, h0, h1, h2⟩ := Go.Joins.open_agg3 Tryd.underlying50 (by kernel_rfl) hc hok h
  obtain ⟨k, e0, _⟩ := DataW.trod_string Tryd.underlying9 h0
  obtain ⟨r, e1, _, wr⟩ := DataW.trod_int Tryd.underlying48 h1
  obtain ⟨b, e2, _⟩ := DataW.trod_bool Tryd.underlying4 h2
  have hb := bounds_u64 wr
  simp at e0 e1 e2
  subst e0 e1 e2
  refine ⟨k, r.toNat, b, ?_, by unfold U64; omega⟩
  unfold entV
  rw [show ((r.toNat : Nat) : Int) = r from by omega]
end

theorem own : ownKnob Tryd.prog.godebug = none := by kernel_rfl

def layRow (cs : Array Value) : Obj → Obj
  | .cells _ t frozen => .cells cs t frozen
  | o => o

def acceptRow : Array Value := #[.int .u8 128, .int .u8 191, .int .u8 160, .int .u8 191, .int .u8 128, .int .u8 159, .int .u8 144, .int .u8 191, .int .u8 128, .int .u8 143, .int .u8 0, .int .u8 0, .int .u8 0, .int .u8 0, .int .u8 0, .int .u8 0, .int .u8 0, .int .u8 0, .int .u8 0, .int .u8 0, .int .u8 0, .int .u8 0, .int .u8 0, .int .u8 0, .int .u8 0, .int .u8 0, .int .u8 0, .int .u8 0, .int .u8 0, .int .u8 0, .int .u8 0, .int .u8 0]
def firstRow : Array Value := (Go.Pinned.utf8FirstZ.map fun (n : Nat) => Value.int .u8 n).toArray

/-- The settled world, the library's two tables laid. -/
noncomputable def laidWorld (os : Os) : World :=
  { World.holding Tryd.prog os ⟨#[], #[], []⟩ with heap := ((World.holding Tryd.prog os ⟨#[], #[], []⟩).heap.modify 1 (layRow firstRow)).modify 2 (layRow acceptRow) }

end Go.Proofs.YtmmeofiocbfamaaDoor
