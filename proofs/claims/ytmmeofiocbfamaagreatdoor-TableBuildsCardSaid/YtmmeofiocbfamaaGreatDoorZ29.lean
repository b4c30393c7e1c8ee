/- What a table tells: the plain law. sentrylaw14's fixed. No condition: lemmas. -/
import Derived.Test.YtmmeofiocbfamaaGreatDoorZ28
import Derived.Test.YtmmeofiocbfamaaGreatDoorZ26
namespace Go.Proofs.YtmmeofiocbfamaaGreatDoor
open Go Go.RowKit

theorem drop_back {a z : List UInt8} {n k : Nat} (hn : n = a.length + z.length) (hk : k = z.length) : (a ++ z).drop (n - k) = z := by
  subst hn hk
  rw [Nat.add_sub_cancel, List.drop_left]
/-- A table's bytes, opened. -/
theorem open_cut (ks : List ByteArray) (split bits : Int) (hne : ks ≠ []) (hu : UpK ks) (hk : ∀ k ∈ ks, k.size ≤ 1000) (hl : ks.length ≤ 1000) :
    openT (tableB ks split bits) = (some ⟨plcsOf 0 (cutL split ks), outOf (cutL split ks), bloomB (dl (buildW ks split).stems) bits, ks.length⟩, 0) := by
  obtain ⟨ho, hi, hfl, hb⟩ := blocks_cut ks split
  have hv := WInv.build hk split
  generalize cutL split ks = bl at *
  have hup : Up bl.flatten := hfl ▸ hu.up
  have hbn : bl ≠ [] := fun e => hne (by rw [hfl, e]; rfl)
  have hol : (outOf bl).length ≤ 1036000 := by have := hv.len; rw [ho] at this; omega
  have hbl : bl.length ≤ 1000 := by have := hv.idx; rw [hi, plcsOf_len] at this; omega
  have hil : (idxB (plcsOf 0 bl)).length ≤ 2000000 := by
    have h1 := idxB_len 1000 (by decide) (plcsOf 0 bl) (fun p hp => by have := hv.places p (by rw [hi]; exact hp); have := hv.len; omega)
    have h2 : (putB (plcsOf 0 bl).length).length ≤ 10 := U64.len (by unfold U64; rw [plcsOf_len]; omega)
    have h3 : (plcsOf 0 bl).length * (1000 + 30) ≤ 1000 * 1030 := Nat.mul_le_mul (by rw [plcsOf_len]; omega) (Nat.le_refl _)
    unfold idxB
    rw [List.length_append]
    omega
  have hml : (bloomB (dl (buildW ks split).stems) bits).length ≤ 10000 := by
    unfold bloomB
    rw [List.length_append, fillL_length, List.length_replicate, List.length_singleton]
    have h1 : (dl (buildW ks split).stems).length = (buildW ks split).stems.length := List.length_map _
    have h2 := bitsN_bound bits
    have h3 := hv.stems
    unfold bloomN
    have h4 : (dl (buildW ks split).stems).length * bitsN bits ≤ 1000 * 40 := Nat.mul_le_mul (by omega) h2.2
    omega
  have hrb := readB_put bl hbn (by omega) (by omega) (fun b hb' => ⟨hb b hb', by
    have hm : b.headD ⟨#[]⟩ ∈ ks := by
      rw [hfl]
      cases b with
      | nil => exact absurd rfl (hb _ hb')
      | cons x l => exact List.mem_flatten.2 ⟨_, hb', by simp⟩
    have := hk _ hm
    unfold U64; omega⟩) (heads_up hup hb)
  unfold tableB
  rw [ho, hi]
  generalize bloomB (dl (buildW ks split).stems) bits = q at *
  generalize idxB (plcsOf 0 bl) = p at *
  generalize outOf bl = a at *
  have hB := sealB_length p
  have hC := sealB_length q
  have e8 : ∀ n, (eightB n).length = 8 := fun n => rfl
  obtain ⟨T, hT⟩ : ∃ T, T = a ++ sealB p ++ sealB q ++ eightB a.length ++ eightB (a ++ sealB p).length ++ eightB ks.length ++ [116, 98, 108, 49] := ⟨_, rfl⟩
  rw [← hT]
  have hTL : T.length = a.length + (sealB p).length + (sealB q).length + 28 := by rw [hT]; simp only [List.length_append, e8, List.length_cons, List.length_nil]
  have d4 : T.drop (T.length - 4) = [116, 98, 108, 49] := by
    rw [hT]
    exact drop_back (by rw [List.length_append]) rfl
  have d12 : eightB ks.length ++ [116, 98, 108, 49] = T.drop (T.length - 12) := by
    rw [hT, List.append_assoc _ (eightB ks.length)]
    exact (drop_back (by rw [List.length_append]) rfl).symm
  have d20 : eightB (a ++ sealB p).length ++ (eightB ks.length ++ [116, 98, 108, 49]) = T.drop (T.length - 20) := by
    rw [hT, List.append_assoc _ (eightB ks.length), List.append_assoc _ (eightB (a ++ sealB p).length)]
    exact (drop_back (by rw [List.length_append]) rfl).symm
  have d28 : eightB a.length ++ (eightB (a ++ sealB p).length ++ (eightB ks.length ++ [116, 98, 108, 49])) = T.drop (T.length - 28) := by
    rw [hT, List.append_assoc _ (eightB ks.length), List.append_assoc _ (eightB (a ++ sealB p).length), List.append_assoc _ (eightB a.length)]
    exact (drop_back (by rw [List.length_append]) rfl).symm
  have hap : (a ++ sealB p).length = a.length + (sealB p).length := List.length_append
  have p1 : partB T (a.length : Int) ((a ++ sealB p).length : Int) = (p, 0) := by
    have := partB_frame a p (sealB q ++ (eightB a.length ++ (eightB (a ++ sealB p).length ++ (eightB ks.length ++ [116, 98, 108, 49])))) (by omega)
    rw [show a ++ sealB p ++ (sealB q ++ (eightB a.length ++ (eightB (a ++ sealB p).length ++ (eightB ks.length ++ [116, 98, 108, 49])))) = T from by rw [hT]; simp only [List.append_assoc]] at this
    rw [hap]
    exact this
  have p2 : partB T ((a ++ sealB p).length : Int) ((T.length - 28 : Nat) : Int) = (q, 0) := by
    have := partB_frame (a ++ sealB p) q (eightB a.length ++ (eightB (a ++ sealB p).length ++ (eightB ks.length ++ [116, 98, 108, 49]))) (by omega)
    rw [show a ++ sealB p ++ sealB q ++ (eightB a.length ++ (eightB (a ++ sealB p).length ++ (eightB ks.length ++ [116, 98, 108, 49]))) = T from by rw [hT]; simp only [List.append_assoc]] at this
    rw [show T.length - 28 = (a ++ sealB p).length + (sealB q).length from by omega]
    exact this
  have ht : T.take a.length = a := by
    rw [hT]
    simp only [List.append_assoc]
    exact List.take_left
  rw [openT_eq T _ _ _ d28 d20 d12 (by omega) d4, numI_eight _ (by omega), numI_eight _ (by omega), numI_eight _ (by omega), p1, p2, if_neg (by omega), if_neg (by simp), if_neg (by simp), Int.toNat_natCast, Int.toNat_natCast, hrb]
  dsimp only
  rw [ht]

theorem open_put (ks : List ByteArray) (split bits : Int) (hne : ks ≠ []) (hu : UpK ks) (hk : ∀ k ∈ ks, k.size ≤ 1000) (hl : ks.length ≤ 1000) :
    ∃ bl, ks = bl.flatten ∧ (∀ b ∈ bl, b ≠ []) ∧ openT (tableB ks split bits) = (some ⟨plcsOf 0 bl, outOf bl, bloomB (dl (buildW ks split).stems) bits, ks.length⟩, 0) :=
  ⟨_, (blocks_cut ks split).2.2.1, (blocks_cut ks split).2.2.2, open_cut ks split bits hne hu hk hl⟩
theorem outOf_split (bl : List (List ByteArray)) (j : Nat) (hj : j < bl.length) : outOf bl = outOf (bl.take j) ++ sealB (blkF (dl bl[j])) ++ outOf (bl.drop (j + 1)) := by
  conv => lhs; rw [← List.take_append_drop j bl, List.drop_eq_getElem_cons hj]
  unfold outOf
  rw [List.flatMap_append, List.flatMap_cons, List.append_assoc]
  rfl
theorem plcsOf_get : ∀ (bl : List (List ByteArray)) (a j : Nat) (hj : j < bl.length) (hj' : j < (plcsOf a bl).length), (plcsOf a bl)[j] = ⟨bl[j].headD ⟨#[]⟩, a + (outOf (bl.take j)).length, (frmB bl[j]).length⟩
  | b :: bl, a, 0, _, _ => by simp [plcsOf, outOf]
  | b :: bl, a, j + 1, hj, hj' => by
    have := plcsOf_get bl (a + (frmB b).length) j (by simpa using hj) (by rw [plcsOf_len]; simpa using hj)
    simp only [plcsOf, List.getElem_cons_succ, this, List.take_succ_cons]
    simp [outOf, Nat.add_assoc]
theorem outOf_bound (M : Nat) (hM : M < 4294967296) : ∀ bl : List (List ByteArray), (∀ b ∈ bl, b ≠ []) → (∀ k ∈ bl.flatten, k.size ≤ M) → (outOf bl).length ≤ bl.flatten.length * (M + 36)
  | [], _, _ => Nat.zero_le _
  | b :: bl, hb, hk => by
    have ih := outOf_bound M hM bl (fun x hx => hb x (List.mem_cons_of_mem _ hx)) (fun k hk' => hk k (by rw [List.flatten_cons]; exact List.mem_append_right _ hk'))
    have h1 := blkF_len (dl b)
    have h2 := blkL_bound M hM 0 [] (dl b) (Nat.zero_le _) fun x hx => by
      obtain ⟨y, hy, rfl⟩ := List.mem_map.1 hx
      rw [show y.data.toList.length = y.size from Array.length_toList]
      exact hk y (by rw [List.flatten_cons]; exact List.mem_append_left _ hy)
    have h3 : (dl b).length = b.length := List.length_map _
    have h4 := sealB_length (blkF (dl b))
    have h5 : 0 < b.length := List.length_pos_iff.2 (hb b List.mem_cons_self)
    have h6 : (outOf (b :: bl)).length = (sealB (blkF (dl b))).length + (outOf bl).length := by simp [outOf, frmB]
    rw [h3] at h1 h2
    have h7 : b.length * (M + 36) = b.length * (M + 20) + 16 * b.length := by rw [show M + 36 = (M + 20) + 16 from by omega, Nat.mul_add]; omega
    rw [h6, List.flatten_cons, List.length_append, Nat.add_mul]
    omega
/-- A block of an opened table. -/
theorem blk_put {bl : List (List ByteArray)} {q : List UInt8} {n : Nat} (hu : Up bl.flatten) (hb : ∀ b ∈ bl, b ≠ []) (hk : ∀ k ∈ bl.flatten, k.size ≤ 1000) (hl : bl.flatten.length ≤ 1000) (j : Nat) (hj : j < bl.length) :
    BlkOf ⟨plcsOf 0 bl, outOf bl, q, n⟩ j bl[j] := by
  have hm : bl[j] ∈ bl := List.getElem_mem hj
  have hsub : ∀ k ∈ bl[j], k ∈ bl.flatten := fun k hk' => List.mem_flatten.2 ⟨_, hm, hk'⟩
  have hbu : Up bl[j] := (List.pairwise_flatten.1 hu).1 _ hm
  have hbl : bl[j].length ≤ bl.flatten.length := by
    have := (List.sublist_flatten_of_mem hm).length_le
    exact this
  have hbf := blkF_bound fun k hk' => hk k (hsub k hk')
  refine ⟨j, by show j < (plcsOf 0 bl).length; rw [plcsOf_len]; exact hj, rfl, blkF (dl bl[j]), ?_, ?_, ?_⟩
  · rw [plcsOf_get bl 0 j hj]
    dsimp only
    rw [Nat.zero_add]
    have := partB_frame (outOf (bl.take j)) (blkF (dl bl[j])) (outOf (bl.drop (j + 1))) (by omega)
    rw [← outOf_split bl j hj] at this
    exact this
  · exact KeysOf.blk hbu.upK (by omega) (fun k hk' => by have := hk k (hsub k hk'); omega)
  · rw [plcsOf_get bl 0 j hj]
    dsimp only
    have := hb _ hm
    cases h : bl[j] with
    | nil => exact absurd h this
    | cons x l => rfl

theorem seekL_append (a b : List ByteArray) (k : ByteArray) : seekL (a ++ b) k = (seekL a k).or (seekL b k) := by unfold seekL; exact List.find?_append ..
theorem seekL_none {a : List ByteArray} {k : ByteArray} (h : ∀ x ∈ a, ltS x k = true) : seekL a k = none := by
  unfold seekL
  rw [List.find?_eq_none]
  intro x hx
  simp [h x hx]
theorem heads_get (bl : List (List ByteArray)) (q : List UInt8) (n i : Nat) : (⟨plcsOf 0 bl, outOf bl, q, n⟩ : Tb).idx[i]?.map (·.first) = bl[i]?.map fun b => b.headD ⟨#[]⟩ := by
  show (plcsOf 0 bl)[i]?.map (·.first) = _
  rw [← List.getElem?_map, plcsOf_first, List.getElem?_map]
theorem seekL_blocks {bl : List (List ByteArray)} (hb : ∀ b ∈ bl, b ≠ []) {k : ByteArray} (h : ∀ b, bl[0]? = some b → ltS (b.headD ⟨#[]⟩) k = false) : seekL bl.flatten k = bl[0]?.map fun b => b.headD ⟨#[]⟩ := by
  cases bl with
  | nil => rfl
  | cons b bl =>
    cases b with
    | nil => exact absurd rfl (hb [] List.mem_cons_self)
    | cons x l =>
      have := h (x :: l) rfl
      unfold seekL
      rw [List.flatten_cons, List.cons_append, List.find?_cons_of_pos (by simpa using this)]
      rfl
/-- What Seek answers of a table of keys. -/
theorem seek_put {bl : List (List ByteArray)} {q : List UInt8} {n : Nat} (hu : Up bl.flatten) (hb : ∀ b ∈ bl, b ≠ []) (hk : ∀ k ∈ bl.flatten, k.size ≤ 1000) (hl : bl.flatten.length ≤ 1000) {key : ByteArray} {w w' : World} {e : Ending}
    (h : RetSeek ⟨plcsOf 0 bl, outOf bl, q, n⟩ key w e w') : Ext w w' ∧ e = seekR (seekL bl.flatten key) := by
  obtain ⟨hx, i, hsp, h⟩ := h
  refine ⟨hx, ?_⟩
  have hf : (⟨plcsOf 0 bl, outOf bl, q, n⟩ : Tb).idx.map (·.first) = bl.map fun b => b.headD ⟨#[]⟩ := plcsOf_first 0 bl
  rw [hf] at hsp
  have hil : i ≤ bl.length := by have := hsp.1; rwa [List.length_map] at this
  have hhi : ∀ b, bl[i]? = some b → ltS (b.headD ⟨#[]⟩) key = false := fun b hb' => by
    obtain ⟨h1, h2⟩ := List.getElem?_eq_some_iff.1 hb'
    have := hsp.2.2 i (by rw [List.length_map]; exact h1) (Nat.le_refl _)
    rwa [List.getElem_map, h2] at this
  rcases h with ⟨er, hi0, _, hno, _⟩ | ⟨rfl, rfl⟩ | ⟨ks, hi0, hbk, rfl⟩
  · exact absurd (blk_put (q := q) (n := n) hu hb hk hl (i - 1) (by omega)) (hno _)
  · rw [heads_get, seekL_blocks hb hhi]
  · obtain ⟨m, rfl⟩ : ∃ m, i = m + 1 := ⟨i - 1, by omega⟩
    rw [Nat.add_sub_cancel] at hbk
    obtain rfl := hbk.uniq (blk_put (q := q) (n := n) hu hb hk hl m (by omega))
    have hfl : bl.flatten = (bl.take m).flatten ++ (bl[m] ++ (bl.drop (m + 1)).flatten) := by
      conv => lhs; rw [← List.take_append_drop m bl, List.drop_eq_getElem_cons (show m < bl.length by omega)]
      rw [List.flatten_append, List.flatten_cons]
    have hlow : seekL (bl.take m).flatten key = none := seekL_none fun x hx' => by
      have h1 : ltS (bl[m].headD ⟨#[]⟩) key = true := by
        have := hsp.2.1 m (by rw [List.length_map]; omega) (Nat.lt_succ_self m)
        rwa [List.getElem_map] at this
      have hu2 := hu
      rw [hfl] at hu2
      have h2 : bl[m].headD ⟨#[]⟩ ∈ bl[m] ++ (bl.drop (m + 1)).flatten := by
        have := hb _ (List.getElem_mem (show m < bl.length by omega))
        cases h : bl[m] with
        | nil => exact absurd h this
        | cons y l => simp
      exact ltS_trans ((List.pairwise_append.1 hu2).2.2 x hx' _ h2) h1
    have hhigh : seekL (bl.drop (m + 1)).flatten key = bl[m + 1]?.map fun b => b.headD ⟨#[]⟩ := by
      rw [seekL_blocks (fun b hb' => hb b (List.mem_of_mem_drop hb')) (fun b hb' => hhi b (by rwa [List.getElem?_drop, Nat.add_zero] at hb'))]
      rw [List.getElem?_drop, Nat.add_zero]
    rw [hfl, seekL_append, hlow, Option.none_or, seekL_append, hhigh, heads_get]
/-- What All answers of a table of keys. -/
theorem all_put {bl : List (List ByteArray)} {q : List UInt8} {n : Nat} (hu : Up bl.flatten) (hb : ∀ b ∈ bl, b ≠ []) (hk : ∀ k ∈ bl.flatten, k.size ≤ 1000) (hl : bl.flatten.length ≤ 1000) {w w' : World} {e : Ending}
    (h : RetAll ⟨plcsOf 0 bl, outOf bl, q, n⟩ w e w') : Ext w w' ∧ ∃ v, e = .returned (.tuple #[v, .int .i64 0]) ∧ Own w' w.heap.size 9 1 v (sc bl.flatten) := by
  obtain ⟨hx, h⟩ := h
  have hil : (⟨plcsOf 0 bl, outOf bl, q, n⟩ : Tb).idx.length = bl.length := plcsOf_len 0 bl
  rw [hil] at h
  rcases h with ⟨bs, v, h1, h2, h3, h4⟩ | ⟨⟨j, hj, hno⟩, _⟩
  · have e : bs = bl := List.ext_getElem h1 fun j k1 k2 => (h2 j k1).uniq (blk_put (q := q) (n := n) hu hb hk hl j k2)
    subst e
    exact ⟨hx, v, h3, h4⟩
  · exact absurd (blk_put (q := q) (n := n) hu hb hk hl j hj) (hno _)
theorem tbOk_put {bl : List (List ByteArray)} {q : List UInt8} {n : Nat} (hu : Up bl.flatten) (hb : ∀ b ∈ bl, b ≠ []) (hk : ∀ k ∈ bl.flatten, k.size ≤ 400) (hl : bl.flatten.length ≤ 100) (hq : q.length ≤ 10000) : TbOk ⟨plcsOf 0 bl, outOf bl, q, n⟩ := by
  have hol := outOf_bound 400 (by decide) bl hb hk
  have hbl : bl.length ≤ 100 := by
    have h0 : ∀ l : List (List ByteArray), (∀ b ∈ l, b ≠ []) → l.length ≤ l.flatten.length := fun l => by
      induction l with
      | nil => intro _; exact Nat.le_refl _
      | cons b l ih =>
        intro h
        have := ih fun x hx => h x (List.mem_cons_of_mem _ hx)
        have := List.length_pos_iff.2 (h b List.mem_cons_self)
        rw [List.flatten_cons, List.length_append, List.length_cons]
        omega
    have := h0 bl hb
    omega
  have hol2 : (outOf bl).length ≤ 60000 := by
    have : bl.flatten.length * (400 + 36) ≤ 100 * 436 := Nat.mul_le_mul hl (Nat.le_refl _)
    omega
  refine ⟨?_, hol2, by show q.length ≤ 60000; omega, ?_, fun p hp => ?_⟩
  · show Up ((plcsOf 0 bl).map (·.first))
    rw [plcsOf_first]
    exact heads_up hu hb
  · show (plcsOf 0 bl).length ≤ 60000
    rw [plcsOf_len]
    omega
  · obtain ⟨j, hj, rfl⟩ := List.getElem_of_mem hp
    have hj' : j < bl.length := by rw [← plcsOf_len 0 bl]; exact hj
    rw [plcsOf_get bl 0 j hj' hj]
    dsimp only
    have := congrArg List.length (outOf_split bl j hj')
    simp only [List.length_append] at this
    unfold frmB
    omega

end Go.Proofs.YtmmeofiocbfamaaGreatDoor
namespace Go.Proofs.YtmmeofiocbfamaaGreatDoor
open Go Go.RowKit

/-- Open's contract. -/
def OpenLaw : Prop := ∀ (v : Value) (bs : List UInt8) (w : World), Sl (· < w.heap.size) w 1 v (bc bs) → bs.length ≤ 10000000 → Calls Tryz.prog 9 #[v] w (RetOpenT (openT bs) w)
/-- Keys of entries: valid, short, few, rising. -/
structure KeyRow (ks : List ByteArray) : Prop where
  up : UpK ks
  few : ks.length ≤ 100
  short : ∀ k ∈ ks, k.size ≤ 220
  good : ks.any (fun k => (outerS k.data.toList).isNone) = false
/-- What Build answers of keys of entries. -/
theorem build_row {ks : List ByteArray} (h : KeyRow ks) (hne : ks ≠ []) {split bits : Int} (hs : 1 ≤ split) {w w' : World} {e : Ending} (hr : RetBuild ks split bits w e w') :
    Ext w w' ∧ ∃ v, e = .returned (.tuple #[v, .int .i64 0]) ∧ Own w' w.heap.size 5 1 v (bc (tableB ks split bits)) := by
  obtain ⟨hx, hr⟩ := hr
  have hg : ¬ (ks = [] ∨ split < 1) := fun e => e.elim hne (fun h => by omega)
  rcases hr with ⟨h1, _⟩ | ⟨_, h1, _⟩ | ⟨_, _, h1, _⟩ | ⟨_, _, _, v, h1, h2⟩
  · exact absurd h1 hg
  · rw [h.good] at h1; cases h1
  · exact absurd h.up h1
  · exact ⟨hx, v, h1, h2⟩
theorem bloom_len (ks : List ByteArray) (bits : Int) (h : ks.length ≤ 100) : (bloomB (dl ks) bits).length ≤ 600 := by
  unfold bloomB
  rw [List.length_append, fillL_length, List.length_replicate, List.length_singleton]
  have h1 : (dl ks).length = ks.length := List.length_map _
  have h2 := bitsN_bound bits
  unfold bloomN
  have h4 : (dl ks).length * bitsN bits ≤ 100 * 40 := Nat.mul_le_mul (by omega) h2.2
  omega
/-- A table of a row, opened. -/
theorem open_row {ks : List ByteArray} (h : KeyRow ks) (hne : ks ≠ []) (split bits : Int) : ∃ t, openT (tableB ks split bits) = (some t, 0) ∧ TbOk t ∧ t.count = ks.length ∧ t.filter = bloomB (dl (buildW ks split).stems) bits ∧
    (∃ bl, t.idx = plcsOf 0 bl ∧ t.b = outOf bl ∧ ks = bl.flatten ∧ ∀ b ∈ bl, b ≠ []) ∧
    (∀ key w e w', RetSeek t key w e w' → Ext w w' ∧ e = seekR (seekL ks key)) ∧
    (∀ w e w', RetAll t w e w' → Ext w w' ∧ ∃ v, e = .returned (.tuple #[v, .int .i64 0]) ∧ Own w' w.heap.size 9 1 v (sc ks)) := by
  have hk1 : ∀ k ∈ ks, k.size ≤ 1000 := fun k hk => by have := h.short k hk; omega
  obtain ⟨bl, h1, h2, h3⟩ := open_put ks split bits hne h.up hk1 (by have := h.few; omega)
  have hu : Up bl.flatten := h1 ▸ h.up.up
  have hs : ∀ k ∈ bl.flatten, k.size ≤ 400 := h1 ▸ fun k hk => by have := h.short k hk; omega
  have hl : bl.flatten.length ≤ 100 := h1 ▸ h.few
  have hs2 : ∀ k ∈ bl.flatten, k.size ≤ 1000 := h1 ▸ hk1
  have hst : (buildW ks split).stems.length ≤ 100 := by have := (WInv.build hk1 split).stems; have := h.few; omega
  refine ⟨_, h3, tbOk_put hu h2 hs hl (by have := bloom_len _ bits hst; omega), rfl, rfl, ⟨bl, rfl, rfl, h1, h2⟩, fun key w e w' hr => ?_, fun w e w' hr => ?_⟩
  · have := seek_put hu h2 hs2 (by omega) hr
    rwa [← h1] at this
  · have := all_put hu h2 hs2 (by omega) hr
    rwa [← h1] at this
theorem blocks_few : ∀ l : List (List ByteArray), (∀ b ∈ l, b ≠ []) → l.length ≤ l.flatten.length
  | [], _ => Nat.le_refl _
  | b :: l, h => by
    have := blocks_few l fun x hx => h x (List.mem_cons_of_mem _ hx)
    have := List.length_pos_iff.2 (h b List.mem_cons_self)
    rw [List.flatten_cons, List.length_append, List.length_cons]
    omega
theorem tableB_len {ks : List ByteArray} (h : KeyRow ks) (split bits : Int) : (tableB ks split bits).length ≤ 60000 := by
  have hk1 : ∀ k ∈ ks, k.size ≤ 1000 := fun k hk => by have := h.short k hk; omega
  obtain ⟨bl, ho, hi, hfl, hb⟩ := blocks_of ks split
  have hv := WInv.build hk1 split
  have hsh : ∀ k ∈ bl.flatten, k.size ≤ 220 := hfl ▸ h.short
  have h1 := outOf_bound 220 (by decide) bl hb hsh
  have h2 : bl.flatten.length * (220 + 36) ≤ 100 * 256 := Nat.mul_le_mul (hfl ▸ h.few) (Nat.le_refl _)
  have hbl : bl.length ≤ 100 := Nat.le_trans (blocks_few bl hb) (hfl ▸ h.few)
  have hst : (buildW ks split).stems.length ≤ 100 := by have := hv.stems; have := h.few; omega
  have h3 := bloom_len (buildW ks split).stems bits hst
  have h4 := idxB_len 220 (by decide) (plcsOf 0 bl) (fun p hp => by
    have h5 := hv.places p (by rw [hi]; exact hp)
    have h6 := hv.len
    have h7 := h.few
    refine ⟨?_, by omega, by omega⟩
    have hm : p.first ∈ (plcsOf 0 bl).map (·.first) := List.mem_map.2 ⟨p, hp, rfl⟩
    rw [plcsOf_first] at hm
    obtain ⟨b, hb', e⟩ := List.mem_map.1 hm
    rw [← e]
    cases b with
    | nil => exact Nat.zero_le _
    | cons x l => exact hsh x (List.mem_flatten.2 ⟨_, hb', by simp⟩))
  have h8 : (plcsOf 0 bl).length * (220 + 30) ≤ 100 * 250 := Nat.mul_le_mul (by rw [plcsOf_len]; exact hbl) (Nat.le_refl _)
  have h9 : (putB (plcsOf 0 bl).length).length ≤ 10 := U64.len (by unfold U64; rw [plcsOf_len]; omega)
  have hB := sealB_length (idxB (plcsOf 0 bl))
  have hC := sealB_length (bloomB (dl (buildW ks split).stems) bits)
  have hI : (idxB (plcsOf 0 bl)).length = (putB (plcsOf 0 bl).length).length + ((plcsOf 0 bl).flatMap plcB).length := by unfold idxB; rw [List.length_append]
  have e8 : ∀ n, (eightB n).length = 8 := fun n => rfl
  unfold tableB
  rw [ho, hi]
  simp only [List.length_append, e8, List.length_cons, List.length_nil] at *
  omega
theorem addS_self (l : List ByteArray) (x : ByteArray) : x ∈ addS l x := by
  unfold addS
  split
  · next h => exact List.mem_of_getLast? h
  · simp
theorem addS_sub (l : List ByteArray) (x y : ByteArray) (h : y ∈ l) : y ∈ addS l x := by
  unfold addS
  split
  · exact h
  · exact List.mem_append_left _ h
theorem add_stems (s : WS) (k : ByteArray) (split : Int) : (s.add k split).stems = addS s.stems (stemB k) := by
  unfold WS.add
  split <;> rfl
theorem adds_stems (split : Int) : ∀ (ks : List ByteArray) (s : WS) (x : ByteArray), x ∈ s.stems ∨ (∃ k ∈ ks, x = stemB k) → x ∈ (ks.foldl (fun s k => s.add k split) s).stems
  | [], s, x, h => by
    rcases h with h | ⟨k, hk, _⟩
    · exact h
    · cases hk
  | a :: ks, s, x, h => by
    refine adds_stems split ks _ x ?_
    rw [add_stems]
    rcases h with h | ⟨k, hk, rfl⟩
    · exact .inl (addS_sub _ _ _ h)
    · rcases List.mem_cons.1 hk with rfl | hk
      · exact .inl (addS_self _ _)
      · exact .inr ⟨k, hk, rfl⟩
theorem build_stems (ks : List ByteArray) (split : Int) (k : ByteArray) (h : k ∈ ks) : stemB k ∈ (buildW ks split).stems := by
  have := adds_stems split ks ws0 (stemB k) (.inr ⟨k, h, rfl⟩)
  unfold buildW
  split
  · exact this
  · exact this
theorem may_row (ks : List ByteArray) (split bits : Int) (k : ByteArray) (h : k ∈ ks) : mayB (bloomB (dl (buildW ks split).stems) bits) (stemB k).data.toList = true :=
  may_bloom _ _ _ (List.mem_map.2 ⟨_, build_stems ks split k h, rfl⟩)
/-- The key of fixed's entry. -/
def key14 : ByteArray := ⟨(innerB [97] 3 false).toArray⟩
theorem outer14 : outerS key14.data.toList = some ([97], 3, false) := by
  unfold key14
  exact outer_inner [97] 3 false (by unfold U64; decide)
theorem row14 : KeyRow [key14] := by
  refine ⟨fun j h => by simp at h, by simp, fun k hk => ?_, ?_⟩
  · rw [List.mem_singleton.1 hk]
    have : key14.size = 12 := by kernel_rfl
    omega
  · simp [outer14]

set_option maxRecDepth 100000 in
set_option maxHeartbeats 1600000 in
theorem fixed14_any (hop : OpenLaw) (w : World) (henv : Env w) : Calls Tryz.prog 5 #[] w fun e w' => e = .returned (.bool true) ∧ Ext w w' := by
  have HIN := Lib.hid (refInner_any ⟨#[97]⟩ 3 false w (by unfold U64; decide) (by decide))
  unfold entV at HIN
  go_enter Tryz.func5, Tryz.ntmps5
  go_wp2_with fail
  refine HIN.out.mono ?_
  clear HIN
  rintro e w1 ⟨rfl, hx1⟩
  rw [show (⟨(innerB (⟨#[97]⟩ : ByteArray).data.toList 3 false).toArray⟩ : ByteArray) = key14 from rfl]
  have HX1 := Lib.hid (show Ext w w1 from hx1)
  have hxa := Ext.alloc w1 (.cells #[.string key14] 9)
  have HSL := Lib.hid (show Sl (fun b => b < (w1.alloc (.cells #[.string key14] 9)).heap.size) (w1.alloc (.cells #[.string key14] 9)) 1 (.slice (some ⟨w1.heap.size, 0, none⟩) 1 1) (sc [key14]) from Sl.made w1 _ 1 1 9 #[.string key14] rfl (by decide) (by simp))
  have HX2 := Lib.hid (HX1.out.trans hxa)
  have HBU := Lib.hid (table_build (.slice (some ⟨w1.heap.size, 0, none⟩) 1 1) [key14] 100 10 _ (henv.below HX2.out) HSL.out (by simp) (fun k hk => by have := row14.short k hk; omega))
  clear hx1 hxa
  have HROW := Lib.hid row14
  generalize key14 = key at *
  go_wp2_with fail
  refine HBU.out.mono ?_
  clear HBU
  intro e w2 hr2
  obtain ⟨hx2, v2, rfl, ho2⟩ := build_row HROW.out (by simp) (by decide) hr2
  have HX3 := Lib.hid (HX2.out.trans hx2)
  obtain ⟨t, ht, htok, htc, htf, ⟨bl, hti, -, hfl, hbn⟩, hseek, -⟩ := open_row HROW.out (by simp) 100 10
  have HTL := Lib.hid (show (tableB [key] 100 10).length ≤ 10000000 from by have := tableB_len HROW.out 100 10; omega)
  have HOP := Lib.hid (hop v2 (tableB [key] 100 10) w2 (ho2.sl.mono fun b hb => hb.2) HTL.out)
  have HMAY := Lib.hid (show mayB t.filter (stemB key).data.toList = true from by rw [htf]; exact may_row [key] 100 10 key (by simp))
  have HBL := Lib.hid (show t.idx.length = 1 from by
    rw [hti, plcsOf_len]
    have h1 := blocks_few bl hbn
    rw [← hfl] at h1
    cases bl with
    | nil => cases hfl
    | cons b l => simp at h1 ⊢; omega)
  have HCT := Lib.hid (show t.count = 1 from htc)
  have HTO := Lib.hid htok
  have HSK := Lib.hid (fun w e w' h => (hseek ⟨#[]⟩ w e w' h))
  have HQ := Lib.hid (show seekL [key] ⟨#[]⟩ = some key from by
    unfold seekL
    rw [List.find?_cons_of_pos]
    rw [ltS_iff]
    simp)
  have hON : openT [] = (none, 7) := rfl
  rw [ht] at HOP
  obtain ⟨bo2, bn2, bc2, rfl, -, -, -⟩ := ho2.sl.len
  clear hr2 hx2 ho2 ht htok htc htf hti hfl hbn hseek HX1 HX2 HSL
  go_wp2_with fail
  refine HOP.out.mono ?_
  clear HOP
  rintro e w3 ⟨hx3, tb, rfl, hat, -⟩
  have HX4 := Lib.hid (HX3.out.trans hx3)
  have HAT := Lib.hid hat
  have HO2 := Lib.hid (hop (.slice none 0 0) [] w3 (Sl.nil _ _ _) (by simp))
  rw [hON] at HO2
  clear hx3 hat HX3 hON
  go_wp2_with fail
  refine HO2.out.mono ?_
  clear HO2
  rintro e w4 ⟨hx4, rfl⟩
  have HX5 := Lib.hid (HX4.out.trans hx4)
  have HAT4 := Lib.hid (HAT.out.up hx4)
  have HS := Lib.hid (seekT_any tb t ⟨#[]⟩ w4 HAT4.out HTO.out)
  clear hx4 HX4 HAT
  go_wp2_with fail
  refine HS.out.mono ?_
  clear HS
  intro e w5 hr5
  obtain ⟨hx5, rfl⟩ := HSK.out _ _ _ hr5
  rw [HQ.out]
  have HX6 := Lib.hid (HX5.out.trans hx5)
  have HAT5 := Lib.hid (HAT4.out.up hx5)
  have HB := Lib.hid (blocks_any tb t w5 HAT5.out)
  have HL := Lib.hid (len_any tb t w5 HAT5.out)
  rw [HBL.out] at HB
  rw [HCT.out] at HL
  have hks : key.size ≤ 220 := HROW.out.short key (by simp)
  have HST := Lib.hid (stem_any key w5 (by omega))
  have HM := Lib.hid (tmay_any tb t w5 (stemB key) HAT5.out HTO.out (by have := stemB_size key; omega))
  rw [HMAY.out] at HM
  rw [show key.extract 0 (key.size - 9) = stemB key from rfl] at HST
  clear hr5 hx5 HX5 HAT4 HMAY HQ HSK
  have hkk : (key.toList == key.toList) = true := by simp
  unfold seekR
  go_wp2_with fail
  refine HB.out.mono ?_
  rintro e w6 ⟨rfl, rfl⟩
  go_wp2_with fail
  refine HL.out.mono ?_
  rintro e w7 ⟨rfl, rfl⟩
  go_wp2_with fail
  refine HST.out.mono ?_
  rintro e w8 ⟨rfl, rfl⟩
  go_wp2_with fail
  refine HM.out.mono ?_
  rintro e w9 ⟨rfl, hx9⟩
  have HX7 := Lib.hid (HX6.out.trans hx9)
  clear hx9
  go_wp2_with fail
  go_ret
  exact ⟨rfl, HX7.out⟩

end Go.Proofs.YtmmeofiocbfamaaGreatDoor
