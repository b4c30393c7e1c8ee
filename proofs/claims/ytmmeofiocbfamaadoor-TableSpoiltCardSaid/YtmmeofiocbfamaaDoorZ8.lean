/- The filter of keys: the plain law. bloom's Hash, start, many. A region whose order is open, and whose last operation leaves the class of worlds: it waits for all that is taken. bloom's next. No condition: lemmas. -/
import Derived.Test.YtmmeofiocbfamaaDoorZ0
import Derived.Test.YtmmeofiocbfamaaDoorZ7
import Derived.Test.YtmmeofiocbfamaaDoorZ1
namespace Go.Proofs.YtmmeofiocbfamaaDoor
open Go

/-- A key's place number i among so many bits. -/
def stepD (key : List UInt8) : Nat := if hashB key / 4294967296 % 2 = 0 then hashB key / 4294967296 + 1 else hashB key / 4294967296
def plcN (key : List UInt8) (bits i : Nat) : Nat := (hashB key % 4294967296 + i * stepD key) % bits
def setB (l : List UInt8) (k : Nat) : List UInt8 := l.set (k / 8) (UInt8.ofNat ((l.getD (k / 8) 0).toNat ||| 2 ^ (k % 8)))
def hasB (l : List UInt8) (k : Nat) : Bool := (l.getD (k / 8) 0).toNat.testBit (k % 8)
def manyN (b : Nat) : Nat := min (max (69 * b / 100) 1) 30
def bitsN (b : Int) : Nat := (min (max b 1) 40).toNat
def fillK (n m : Nat) (l : List UInt8) (key : List UInt8) : List UInt8 := (List.range m).foldl (fun l i => setB l (plcN key (8 * n) i)) l
def bloomN (len b : Nat) : Nat := (max (len * b) 64 + 7) / 8
/-- The filter of keys. -/
def bloomB (keys : List (List UInt8)) (b : Int) : List UInt8 :=
  keys.foldl (fillK (bloomN keys.length (bitsN b)) (manyN (bitsN b))) (List.replicate (bloomN keys.length (bitsN b)) 0) ++ [UInt8.ofNat (manyN (bitsN b))]
def mayB (f key : List UInt8) : Bool :=
  if f.length < 9 ∨ (f.getD (f.length - 1) 0).toNat = 0 ∨ 30 < (f.getD (f.length - 1) 0).toNat then true
  else (List.range (f.getD (f.length - 1) 0).toNat).all fun i => hasB f (plcN key (8 * (f.length - 1)) i)
theorem setB_length (l : List UInt8) (k : Nat) : (setB l k).length = l.length := by unfold setB; rw [List.length_set]
theorem or_lt8 (a k : Nat) (h : a < 256) : a ||| 2 ^ (k % 8) < 256 := by
  have : 2 ^ (k % 8) < 2 ^ 8 := Nat.pow_lt_pow_right (by omega) (by omega)
  exact Nat.or_lt_two_pow (n := 8) h this
theorem setB_has (l : List UInt8) (k : Nat) (h : k / 8 < l.length) : hasB (setB l k) k = true := by
  unfold hasB setB
  rw [List.getD_eq_getElem?_getD, List.getElem?_set_self (by simpa using h)]
  have h2 : (l.getD (k / 8) 0).toNat ||| 2 ^ (k % 8) < 256 := or_lt8 _ _ (UInt8.toNat_lt _)
  simp only [Option.getD_some]
  rw [show (UInt8.ofNat ((l.getD (k / 8) 0).toNat ||| 2 ^ (k % 8))).toNat = (l.getD (k / 8) 0).toNat ||| 2 ^ (k % 8) from by simp only [UInt8.toNat_ofNat']; exact Nat.mod_eq_of_lt h2, Nat.testBit_or, Nat.testBit_two_pow_self, Bool.or_true]
theorem setB_keep (l : List UInt8) (k j : Nat) (h : hasB l j = true) : hasB (setB l k) j = true := by
  unfold hasB setB at *
  by_cases hkj : k / 8 = j / 8
  · by_cases hl : k / 8 < l.length
    · rw [List.getD_eq_getElem?_getD, ← hkj, List.getElem?_set_self (by simpa using hl)]
      have h2 : (l.getD (k / 8) 0).toNat ||| 2 ^ (k % 8) < 256 := or_lt8 _ _ (UInt8.toNat_lt _)
      simp only [Option.getD_some]
      rw [show (UInt8.ofNat ((l.getD (k / 8) 0).toNat ||| 2 ^ (k % 8))).toNat = (l.getD (k / 8) 0).toNat ||| 2 ^ (k % 8) from by simp only [UInt8.toNat_ofNat']; exact Nat.mod_eq_of_lt h2, Nat.testBit_or, hkj, h, Bool.true_or]
    · rw [List.set_eq_of_length_le (by omega)]; exact h
  · rw [List.getD_eq_getElem?_getD, List.getElem?_set_ne hkj, ← List.getD_eq_getElem?_getD]; exact h
theorem foldB_length {α : Type} (f : α → Nat) : ∀ (r : List α) (l : List UInt8), (r.foldl (fun l i => setB l (f i)) l).length = l.length
  | [], _ => rfl
  | a :: r, l => by rw [List.foldl_cons, foldB_length f r, setB_length]
theorem foldB_keep {α : Type} (f : α → Nat) (j : Nat) : ∀ (r : List α) (l : List UInt8), hasB l j = true → hasB (r.foldl (fun l i => setB l (f i)) l) j = true
  | [], _, h => h
  | a :: r, l, h => by rw [List.foldl_cons]; exact foldB_keep f j r _ (setB_keep l _ j h)
theorem foldB_has {α : Type} (f : α → Nat) : ∀ (r : List α) (l : List UInt8) (a : α), a ∈ r → (∀ x ∈ r, f x / 8 < l.length) → hasB (r.foldl (fun l i => setB l (f i)) l) (f a) = true
  | [], _, _, h, _ => by cases h
  | b :: r, l, a, h, hl => by
    rw [List.foldl_cons]
    rcases List.mem_cons.1 h with rfl | h
    · exact foldB_keep f _ r _ (setB_has l _ (hl a List.mem_cons_self))
    · exact foldB_has f r _ a h fun x hx => by rw [setB_length]; exact hl x (List.mem_cons_of_mem _ hx)
theorem fillK_length (n m : Nat) (l key : List UInt8) : (fillK n m l key).length = l.length := foldB_length _ _ _
theorem fillL_length (n m : Nat) : ∀ (ks : List (List UInt8)) (l : List UInt8), (ks.foldl (fillK n m) l).length = l.length
  | [], _ => rfl
  | k :: ks, l => by rw [List.foldl_cons, fillL_length n m ks, fillK_length]
theorem fillL_keep (n m j : Nat) : ∀ (ks : List (List UInt8)) (l : List UInt8), hasB l j = true → hasB (ks.foldl (fillK n m) l) j = true
  | [], _, h => h
  | k :: ks, l, h => by rw [List.foldl_cons]; exact fillL_keep n m j ks _ (foldB_keep _ j _ _ h)
theorem plcN_lt (key : List UInt8) (n i : Nat) (h : 0 < n) : plcN key (8 * n) i / 8 < n := by
  unfold plcN
  have := Nat.mod_lt (hashB key % 4294967296 + i * stepD key) (show 0 < 8 * n by omega)
  omega
theorem fillL_has (n m : Nat) (hn : 0 < n) : ∀ (ks : List (List UInt8)) (l : List UInt8) (k : List UInt8) (i : Nat), l.length = n → k ∈ ks → i < m → hasB (ks.foldl (fillK n m) l) (plcN k (8 * n) i) = true
  | [], _, _, _, _, h, _ => by cases h
  | a :: ks, l, k, i, hl, h, hi => by
    rw [List.foldl_cons]
    rcases List.mem_cons.1 h with rfl | h
    · exact fillL_keep n m _ ks _ (foldB_has (fun i => plcN k (8 * n) i) (List.range m) l i (List.mem_range.2 hi) fun x _ => by rw [hl]; exact plcN_lt k n x hn)
    · exact fillL_has n m hn ks _ k i (by rw [fillK_length]; exact hl) h hi
theorem manyN_bound (b : Nat) : 1 ≤ manyN b ∧ manyN b ≤ 30 := by unfold manyN; omega
theorem bloomN_pos (len b : Nat) : 8 ≤ bloomN len b := by unfold bloomN; omega
theorem hasB_app (l r : List UInt8) (k : Nat) (h : k / 8 < l.length) : hasB (l ++ r) k = hasB l k := by
  unfold hasB
  rw [List.getD_eq_getElem?_getD, List.getElem?_append_left h, ← List.getD_eq_getElem?_getD]
/-- What is in the filter may be in it. -/
theorem may_bloom (ks : List (List UInt8)) (b : Int) (k : List UInt8) (h : k ∈ ks) : mayB (bloomB ks b) k = true := by
  unfold mayB bloomB
  generalize hm : manyN (bitsN b) = m
  generalize hn : bloomN ks.length (bitsN b) = n
  have hmb : 1 ≤ m ∧ m ≤ 30 := hm ▸ manyN_bound _
  have hnb : 8 ≤ n := hn ▸ bloomN_pos _ _
  have hlen : (ks.foldl (fillK n m) (List.replicate n 0)).length = n := by rw [fillL_length, List.length_replicate]
  rw [List.length_append, hlen, List.length_singleton, Nat.add_sub_cancel]
  have hlast : ((ks.foldl (fillK n m) (List.replicate n 0)) ++ [UInt8.ofNat m]).getD n 0 = UInt8.ofNat m := by
    rw [List.getD_eq_getElem?_getD, List.getElem?_append_right (by omega), hlen, Nat.sub_self]; rfl
  rw [hlast, show (UInt8.ofNat m).toNat = m from by simp only [UInt8.toNat_ofNat']; omega, if_neg (by omega), List.all_eq_true]
  intro i hi
  rw [hasB_app _ _ _ (by rw [hlen]; exact plcN_lt k n i (by omega))]
  exact fillL_has n m (by omega) ks _ k i (by rw [List.length_replicate]) h (List.mem_range.1 hi)

end Go.Proofs.YtmmeofiocbfamaaDoor
namespace Go.Proofs.YtmmeofiocbfamaaDoor
open Go Go.RowKit

theorem hashF_snoc (h : Nat) {l : List UInt8} {i : Nat} (hi : i < l.length) : hashF h (l.take (i + 1)) = hashS (hashF h (l.take i)) l[i] := by
  unfold hashF
  rw [List.take_succ_eq_append_getElem hi, List.foldl_append, List.foldl_cons, List.foldl_nil]
theorem hashS_form {h : Nat} (hh : h < 18446744073709551616) (c : UInt8) : IntKind.u64.wrap (bits .xor .u64 (h : Int) (IntKind.u64.wrap (c.toNat : Int)) * 1099511628211) = ((hashS h c : Nat) : Int) := by
  have hc := c.toNat_lt
  have e : ∀ n : Int, IntKind.u64.wrap n = n % 18446744073709551616 := fun n => by simp [IntKind.wrap, IntKind.bits, IntKind.signed]
  have e1 : IntKind.u64.wrap (c.toNat : Int) = (c.toNat : Int) := by rw [e]; omega
  rw [e1, u64_xor_nat h c.toNat hh (by omega), e]
  unfold hashS
  omega

set_option maxRecDepth 100000 in
set_option maxHeartbeats 1000000 in
theorem hash_any (s : ByteArray) (w : World) (hs : s.size ≤ 1000000000) :
    Calls Tryd.prog 68 #[.string s] w fun e w' => e = .returned (.int .u64 (hashB s.data.toList)) ∧ w' = w := by
  have hsz : s.data.toList.length = s.size := Array.length_toList
  go_enter Tryd.func68, Tryd.ntmps68
  go_wp2_with fail
  go_loopw [3, 7] (fun hv iv wr => ∃ i : Nat, i ≤ s.size ∧ iv = .int .i64 i ∧ hv = .int .u64 (hashF 14695981039346656037 (s.data.toList.take i)) ∧ wr = w) (fun _ iv _ => s.size - (intOf iv).toNat)
  case atStart => exact ⟨0, by omega, rfl, rfl, rfl⟩
  case round =>
    obtain ⟨i, hi, rfl, rfl, rfl⟩ := hrel
    by_cases hlt : i < s.size
    · have HN := Lib.hid (hashF_snoc 14695981039346656037 (show i < s.data.toList.length by omega))
      have HL := Lib.hid (hashF_lt (show 14695981039346656037 < 18446744073709551616 by decide) (s.data.toList.take i))
      have hi0 : (0 : Int) ≤ (i : Int) := by omega
      have HC := Lib.hid (show s[i] = s.data.toList[i]'(by omega) from by simp [ByteArray.getElem_eq_getElem_data])
      generalize hashF 14695981039346656037 (s.data.toList.take i) = h at *
      have HV := Lib.hid (hashS_form HL.out s[i])
      rw [HC.out, ← HN.out] at HV
      go_wp2_with fail
      go_roundw
      case rel => exact ⟨i + 1, by omega, by go_num, congrArg (Value.int .u64) (by rw [← HV.out, HC.out]), trivial⟩
      case measure => simp [intOf]; omega
    · obtain rfl : i = s.size := by omega
      have HV := Lib.hid (show hashF 14695981039346656037 (s.data.toList.take s.size) = hashB s.data.toList from by rw [← hsz, List.take_length]; rfl)
      go_wp2_with fail
      go_ret
      exact ⟨by rw [HV.out]; rfl, rfl⟩

set_option maxRecDepth 100000 in
set_option maxHeartbeats 1000000 in
theorem many_any (b : Nat) (w : World) (hb : b ≤ 40) :
    Calls Tryd.prog 52 #[.int .i64 b] w fun e w' => e = .returned (.int .i64 (manyN b)) ∧ w' = w := by
  go_enter Tryd.func52, Tryd.ntmps52
  have HV := Lib.hid (show min (max (69 * (b : Int) / 100) 1) 30 = ((manyN b : Nat) : Int) from by unfold manyN; omega)
  go_wp2_with fail
  go_ret
  exact ⟨congrArg (fun z => Ending.returned (Value.int .i64 z)) HV.out, rfl⟩

theorem or_one (y : Nat) : y ||| 1 = if y % 2 = 0 then y + 1 else y := by
  by_cases h : y % 2 = 0
  · rw [if_pos h, nat_join 1 y 1 (by simpa using h) (by decide)]
  · rw [if_neg h]
    have e : y - 1 ||| 1 = y := by rw [nat_join 1 (y - 1) 1 (by show (y - 1) % 2 = 0; omega) (by decide)]; omega
    conv => lhs; rw [← e, Nat.or_assoc, Nat.or_self]
    exact e
theorem start_forms {h : Nat} (hh : h < 18446744073709551616) : bits .and .u64 (h : Int) 4294967295 = ((h % 4294967296 : Nat) : Int) ∧ bits .or .u64 ((h : Int) / 4294967296) 1 = (((if h / 4294967296 % 2 = 0 then h / 4294967296 + 1 else h / 4294967296) : Nat) : Int) := by
  refine ⟨?_, ?_⟩
  · have := u64_and_nat h 4294967295 hh (by decide)
    rw [show (4294967295 : Nat) = 2 ^ 32 - 1 from by decide, Nat.and_two_pow_sub_one_eq_mod] at this
    exact this
  · have e : ((h : Int) / 4294967296) = ((h / 4294967296 : Nat) : Int) := by omega
    have := u64_or_nat (h / 4294967296) 1 (by omega) (by decide)
    rw [or_one] at this
    rw [e]
    exact this

set_option maxRecDepth 100000 in
set_option maxHeartbeats 1000000 in
theorem start_any (s : ByteArray) (n : Nat) (w : World) (hs : s.size ≤ 1000000000) (hn : n ≤ 1000000000) :
    Calls Tryd.prog 51 #[.string s, .int .i64 n] w fun e w' => e = .returned (.agg #[.int .u64 (hashB s.data.toList % 4294967296 : Nat), .int .u64 (stepD s.data.toList), .int .u64 n]) ∧ Ext w w' := by
  have HH := Lib.hid (hash_any s (w.alloc (.cells #[.int .u64 0, .int .u64 0, .int .u64 0] 96)) hs)
  have HL := Lib.hid (show hashB s.data.toList < 18446744073709551616 from hashF_lt (by decide) _)
  have hst : stepD s.data.toList = if hashB s.data.toList / 4294967296 % 2 = 0 then hashB s.data.toList / 4294967296 + 1 else hashB s.data.toList / 4294967296 := rfl
  have HST := Lib.hid hst
  clear hst
  generalize hashB s.data.toList = h at *
  go_enter Tryd.func51, Tryd.ntmps51
  go_wp2_with fail
  refine HH.out.mono ?_
  rintro e w1 ⟨rfl, rfl⟩
  obtain ⟨f1, f2⟩ := start_forms HL.out
  rw [← HST.out] at f2
  have HA := Lib.hid f1
  have HB := Lib.hid f2
  clear f1 f2
  go_wp2_with fail
  rw [HA.out, HB.out]
  exact bodyPost_ret (results_cell_row rfl _ _ w.heap.size 96 #[.int .u64 (h % 4294967296 : Nat), .int .u64 (stepD s.data.toList), .int .u64 n] (0, 0) _ rfl (heap_alloc_last w _) Tryd.underlying96 rfl (by kernel_rfl)) rfl ⟨rfl, Ext.alloc _ _⟩

end Go.Proofs.YtmmeofiocbfamaaDoor
namespace Go.Proofs.YtmmeofiocbfamaaDoor
open Go Go.RowKit

/-- Number i comes ahead of number j. -/
def ahead (ops : Array Oper) : Nat → Nat → Nat → Bool
  | 0, _, _ => false
  | f + 1, i, j => match ops[j]? with
    | some o => o.after.any fun e => Region.binds .any e && (e.on == i || ahead ops f i e.on)
    | none => false

/-- What is listed is listed with what comes ahead of it. -/
def Closed (ops : Array Oper) (l : Array Bool) : Prop :=
  ∀ j o, ops[j]? = some o → l.getD j false = true → ∀ e ∈ o.after, Region.binds .any e = true → l.getD e.on false = true

theorem ahead_listed {ops : Array Oper} {l : Array Bool} (hc : Closed ops l) : ∀ (f i j : Nat), ahead ops f i j = true →
    (∀ o, ops[j]? = some o → ∀ e ∈ o.after, Region.binds .any e = true → l.getD e.on false = true) → l.getD i false = true
  | 0, _, _, h, _ => by simp [ahead] at h
  | f + 1, i, j, h, hl => by
    unfold ahead at h
    cases ho : ops[j]? with
    | none => rw [ho] at h; simp at h
    | some o =>
      rw [ho] at h
      simp only [Array.any_eq_true', Bool.and_eq_true, Bool.or_eq_true, beq_iff_eq] at h
      obtain ⟨e, he, hb, h⟩ := h
      have h1 := hl o ho e he hb
      rcases h with h | h
      · exact h ▸ h1
      · exact ahead_listed hc f i e.on h fun o' ho' e' he' hb' => hc _ o' ho' h1 e' he' hb'

theorem Closed.set {ops : Array Oper} {l : Array Bool} (hc : Closed ops l) {j : Nat} (hj : j ∈ Region.ready .any ops l) : Closed ops (l.setIfInBounds j true) := by
  intro k o ho hk e he hb
  refine getD_set_true ?_
  by_cases hkj : k = j
  · subst hkj
    obtain ⟨_, o', ho', hall⟩ := mem_ready.1 hj
    rw [ho] at ho'
    cases ho'
    exact hall e he hb
  · rw [getD_set_ne false (Ne.symm hkj)] at hk
    exact hc k o ho hk e he hb

theorem Closed.start (ops : Array Oper) (n : Nat) : Closed ops (Array.replicate n false) := by
  intro j o _ hj
  simp only [Array.getD_eq_getD_getElem?, Array.getElem?_replicate] at hj
  split at hj <;> simp at hj

section
variable {P : Program} {ops : Array Oper} {Q : Exit → Act → World → Prop} {S : World → Prop} {L : Nat}

/-- Whatever order: the class is held behind each but L. -/
def wpAnyL (P : Program) (ops : Array Oper) (Q : Exit → Act → World → Prop) (S : World → Prop) (L : Nat) : Nat → Array Bool → Act → World → Prop
  | 0, l, a, w => Region.ready .any ops l = [] ∧ Q .normal a w
  | f + 1, l, a, w => (Region.ready .any ops l = [] → Q .normal a w) ∧
      ∀ i ∈ Region.ready .any ops l, wpOp P ops Q i (fun a' w' => (i ≠ L → S w') ∧ wpAnyL P ops Q S L f (l.setIfInBounds i true) a' w') a w

theorem wpAnyL_any : ∀ (f : Nat) (l : Array Bool) (a : Act) (w : World), wpAnyL P ops Q S L f l a w → wpAny P .any ops Q f l a w
  | 0, _, _, _, h => h
  | f + 1, _, _, _, h => ⟨h.1, fun i hi => wpOp_mono (fun a' w' k => wpAnyL_any f _ a' w' k.2) (h.2 i hi)⟩

theorem wpAnyL_done {l : Array Bool} {a : Act} {w : World} (hr : Region.ready .any ops l = []) (h : Q .normal a w) : ∀ f, wpAnyL P ops Q S L f l a w
  | 0 => ⟨hr, h⟩
  | _ + 1 => ⟨fun _ => h, by rw [hr]; simp⟩

theorem unlisted {l : Array Bool} {i : Nat} (h : l.getD i true = false) (k : l.getD i false = true) : False := by
  rcases Nat.lt_or_ge i l.size with h' | h'
  · simp [h'] at h k
    rw [h] at k
    cases k
  · simp [Array.getElem?_eq_none h'] at k

/-- What yields the same in each world of the class, and comes ahead of L, may be taken. -/
theorem wpAnyL_take {i : Nat} {oi : Oper} {v : Value} (hi : ops[i]? = some oi) (hsel : Region.noSelect ops = true)
    (hQ : ∀ c a w, Q (.panic c) (Act.put a oi.dst v) w → Q (.panic c) a w) {n : Nat} (hL : ahead ops n i L = true) :
    ∀ (f : Nat) (l : Array Bool) (a : Act) (w : World), Closed ops l →
      (∀ j oj, ops[j]? = some oj → j ≠ i → l.getD j true = false → (∀ e ∈ oj.after, Region.binds .any e = true → e.on ≠ i) → oi.apart ops oj = true) →
      i ∈ Region.ready .any ops l → YieldsIf P ops S oi v a → S w → wpAnyL P ops Q S L f (l.setIfInBounds i true) (a.put oi.dst v) w → wpAnyL P ops Q S L (f + 1) l a w := by
  intro f
  induction f with
  | zero =>
    intro l a w _ _ hr hy hS H
    refine ⟨fun h => (by rw [h] at hr; cases hr), fun j hj => ?_⟩
    by_cases hji : j = i
    · subst hji
      exact hy.wpOp hi hS ⟨fun _ => hS, H⟩
    · have := ready_mono hj hji
      rw [H.1] at this
      cases this
  | succ f ih =>
    intro l a w hc hfree hr hy hS H
    refine ⟨fun h => (by rw [h] at hr; cases hr), fun j hj => ?_⟩
    by_cases hji : j = i
    · subst hji
      exact hy.wpOp hi hS ⟨fun _ => hS, H⟩
    · obtain ⟨hjun, oj, hoj, hall⟩ := mem_ready.1 hj
      have hiun := (mem_ready.1 hr).1
      have hjL : j ≠ L := by
        intro e
        subst e
        exact unlisted hiun (ahead_listed hc n i j hL fun o ho e he hb => by rw [hoj] at ho; cases ho; exact hall e he hb)
      have hnot : ∀ e ∈ oj.after, Region.binds .any e = true → e.on ≠ i := fun e he hb heq => unlisted hiun (heq ▸ hall e he hb)
      have h2 := wpOp_putIf hoj (hfree j oj hoj hji hjun hnot) (fun cs b => Region.noSelect_spec hsel i oi cs b hi) (fun cs b => Region.noSelect_spec hsel j oj cs b hoj) hQ hy (H.2 j (ready_mono hj hji))
      refine wpOp_mono (fun a' w' k => ⟨k.2.1, ih (l.setIfInBounds j true) a' w' (hc.set hj) (fun m om hom hmi hun hno => ?_) (ready_mono hr (Ne.symm hji)) k.1 (k.2.1 hjL) ?_⟩) h2
      · refine hfree m om hom hmi ?_ hno
        by_cases hjm : j = m
        · exact hjm ▸ hjun
        · rwa [getD_set_ne true hjm] at hun
      · rw [Array.setIfInBounds_comm _ _ hji]
        exact k.2.2

/-- What is to be shown from here on. -/
def WalkL (P : Program) (ops : Array Oper) (Q : Exit → Act → World → Prop) (S : World → Prop) (L : Nat) : Nat → Array Bool → Act → World → Prop
  | 0, l, a, w => Region.ready .any ops l = [] ∧ Q .normal a w
  | f + 1, l, a, w => (Region.ready .any ops l = [] ∧ Q .normal a w) ∨
      (∃ i o v, ops[i]? = some o ∧ Region.free .any ops l i = true ∧ (Region.ready .any ops l).contains i = true ∧ ahead ops ops.size i L = true ∧ YieldsIf P ops S o v a ∧ WalkL P ops Q S L f (l.setIfInBounds i true) (a.put o.dst v) w) ∨
      (Region.ready .any ops l ≠ [] ∧ ∀ i ∈ Region.ready .any ops l, ∃ o, ops[i]? = some o ∧ ∀ K' : Act → World → Prop, Shut (∀ a' w', S w' → WalkL P ops Q S L f (l.setIfInBounds i true) a' w' → K' a' w') →
        if Region.wanted o (yielded ops a.tmps) = true then Oper.wp P o a w K' Q else K' (a.put o.dst undef) w) ∨
      (Region.ready .any ops l = [L] ∧ Region.ready .any ops (l.setIfInBounds L true) = [] ∧ ∃ o, ops[L]? = some o ∧ Region.wanted o (yielded ops a.tmps) = true ∧ ∀ K' : Act → World → Prop, Shut (∀ a' w', Q .normal a' w' → K' a' w') → Oper.wp P o a w K' Q)

theorem walkL_sound (hns : Region.noSelect ops = true) (hQ : ∀ c a d v w, Q (.panic c) (Act.put a d v) w → Q (.panic c) a w) :
    ∀ (f : Nat) (l : Array Bool) (a : Act) (w : World), Closed ops l → S w → WalkL P ops Q S L f l a w → wpAnyL P ops Q S L f l a w
  | 0, _, _, _, _, _, h => h
  | f + 1, l, a, w, hc, hs, h => by
    rcases h with ⟨h1, h2⟩ | ⟨i, o, v, ho, hf, hr, hL, hy, h⟩ | ⟨hne, h⟩ | ⟨h1, h2, o, ho, hw, h⟩
    · exact wpAnyL_done h1 h2 _
    · exact wpAnyL_take ho hns (fun c a w => hQ c a _ _ w) hL f l a w hc (Region.free_spec ho hf) (by simpa using hr) hy hs (walkL_sound hns hQ f _ _ w (hc.set (by simpa using hr)) hs h)
    · refine ⟨fun e => absurd e hne, fun i hi => ?_⟩
      obtain ⟨o, ho, hst⟩ := h i hi
      exact wpOp_step ho (fun K' hK => hst K' (fun a' w' he hw => hK a' w' ⟨fun _ => he, walkL_sound hns hQ f _ a' w' (hc.set hi) he hw⟩))
    · refine ⟨fun e => (by rw [e] at h1; exact absurd h1.symm (List.cons_ne_nil _ _)), fun i hi => ?_⟩
      rw [h1] at hi
      obtain rfl : i = L := by simpa using hi
      exact wpOp_step ho (fun K' hK => by rw [if_pos hw]; exact h K' (fun a' w' hq => hK a' w' ⟨fun e => absurd rfl e, wpAnyL_done h2 hq _⟩))

theorem region_walkL {id : Nat} {a : Act} {w : World} (L : Nat) (S : World → Prop) (hS : S w.drew) (hm : P.follows .mixedOrders = true) (hns : Region.noSelect ops = true) (hQ : ∀ c a d v w, Q (.panic c) (Act.put a d v) w → Q (.panic c) a w)
    (h : WalkL P ops Q S L ops.size (Array.replicate ops.size false) a w.drew) : (Code.region id ops true).wp P Q a w :=
  wp_region_any hm (wpAnyL_any _ _ _ _ (walkL_sound hns hQ _ _ a w.drew (Closed.start _ _) hS h))

theorem WalkL.take {f : Nat} {l : Array Bool} {a : Act} {w : World} (i : Nat) (o : Oper) (v : Value) (ho : ops[i]? = some o) (hf : Region.free .any ops l i = true) (hr : (Region.ready .any ops l).contains i = true) (hL : ahead ops ops.size i L = true)
    (hw : Region.wanted o (yielded ops a.tmps) = true) (hy : ∀ W, S W → (execOp a.eval o).run P W = .ok (.value v) W) (h : WalkL P ops Q S L f (l.setIfInBounds i true) (a.put o.dst v) w) : WalkL P ops Q S L (f + 1) l a w :=
  .inr (.inl ⟨i, o, v, ho, hf, hr, hL, .inl ⟨hw, hy⟩, h⟩)

/-- What is owed for number i: it is made, and the walk goes on. -/
def MadeL (P : Program) (ops : Array Oper) (Q : Exit → Act → World → Prop) (S : World → Prop) (L f : Nat) (l : Array Bool) (a : Act) (w : World) (i : Nat) : Prop :=
  ∃ o, ops[i]? = some o ∧ Region.wanted o (yielded ops a.tmps) = true ∧ ∀ K' : Act → World → Prop, Shut (∀ a' w', S w' → WalkL P ops Q S L f (l.setIfInBounds i true) a' w' → K' a' w') → Oper.wp P o a w K' Q

theorem WalkL.one {f : Nat} {l : Array Bool} {a : Act} {w : World} (i : Nat) (hr : Region.ready .any ops l = [i]) (h : MadeL P ops Q S L f l a w i) : WalkL P ops Q S L (f + 1) l a w := by
  refine .inr (.inr (.inl ⟨by rw [hr]; simp, fun j hj => ?_⟩))
  rw [hr] at hj
  obtain rfl : j = i := by simpa using hj
  obtain ⟨o, ho, hw, h⟩ := h
  exact ⟨o, ho, fun K hK => by rw [if_pos hw]; exact h K hK⟩

theorem WalkL.last {f : Nat} {l : Array Bool} {a : Act} {w : World} (hr : Region.ready .any ops l = [L]) (hr' : Region.ready .any ops (l.setIfInBounds L true) = [])
    (h : ∃ o, ops[L]? = some o ∧ Region.wanted o (yielded ops a.tmps) = true ∧ ∀ K' : Act → World → Prop, Shut (∀ a' w', Q .normal a' w' → K' a' w') → Oper.wp P o a w K' Q) : WalkL P ops Q S L (f + 1) l a w :=
  .inr (.inr (.inr ⟨hr, hr', h⟩))
end

end Go.Proofs.YtmmeofiocbfamaaDoor
namespace Go.Proofs.YtmmeofiocbfamaaDoor
open Go Go.RowKit

/-- A probe that lies at b. -/
def Prb (w : World) (b : Nat) (at_ step size : Nat) : Prop := Blk w b #[.int .u64 at_, .int .u64 step, .int .u64 size] 96

set_option maxRecDepth 100000 in
set_option maxHeartbeats 1000000 in
theorem probe_next (b at_ step size : Nat) (w : World) (h : Prb w b at_ step size) (ha : at_ ≤ 1000000000000) (hs : step ≤ 1000000000000) (h0 : 0 < size) (h1 : size ≤ 1000000000) :
    Calls Tryd.prog 53 #[.pointer (some ⟨b, 0, none⟩)] w fun e w' => e = .returned (.tuple #[.int .i64 (at_ % size / 8 : Nat), .int .u8 (2 ^ (at_ % size % 8) : Nat)]) ∧ Prb w' b (at_ + step) step size ∧ Kept (fun x => x ≠ b) w w' := by
  have HB := Lib.hid h
  have hz : ¬ (size = 0) := by omega
  obtain ⟨k, hk⟩ : ∃ k, k = at_ % size := ⟨_, rfl⟩
  have htm : (at_ : Int).tmod (size : Int) = (k : Int) := by rw [hk]; exact (Int.ofNat_tmod at_ size).symm
  have HKL := Lib.hid (show k < 1000000000 from by have := Nat.mod_lt at_ h0; omega)
  rw [← hk]
  clear hk
  clear h
  go_enter Tryd.func53, Tryd.ntmps53
  go_wp2_with fail
  obtain ⟨wd, hwd⟩ : ∃ wd, wd = w.drew := ⟨_, rfl⟩
  have HBd := Lib.hid (show Blk wd b #[.int .u64 at_, .int .u64 step, .int .u64 size] 96 from by rw [hwd]; exact HB.out.drew)
  have HKd := Lib.hid (show Kept (fun x => x ≠ b) w wd from by rw [hwd]; exact (Kept.refl _ w).drew)
  refine region_walkN (fun W => W = wd) (by rw [← hwd]) (by kernel_rfl) (by kernel_rfl) (fun _ _ d _ _ h => by cases d <;> exact h) ?_
  rw [← hwd]
  have g : ∀ W, W = wd → ∀ i, W.cell? ⟨b, i, none⟩ = (#[.int .u64 (at_ : Int), .int .u64 (step : Int), .int .u64 (size : Int)] : Array Value)[i]? := fun W h => by subst h; exact HBd.out.cells
  clear hwd
  ((refine WalkN.take 0 _ ?_ (by simp only [List.getElem?_toArray, List.getElem?_cons_zero]; rfl) (by kernel_rfl) (by kernel_rfl) (by rfl) (fun W hW => ?_) ?_; rotate_left; · (go_simp; try with_reducible rfl)); simp only [Act.put, List.setIfInBounds_toArray, List.set_cons_zero, List.set_cons_succ]); ((refine WalkN.take 1 _ ?_ (by simp only [List.getElem?_toArray, List.getElem?_cons_succ, List.getElem?_cons_zero]; rfl) (by kernel_rfl) (by kernel_rfl) (by rfl) (fun W hW => ?_) ?_; rotate_left; · (go_simp; try with_reducible rfl)); simp only [Act.put, List.setIfInBounds_toArray, List.set_cons_zero, List.set_cons_succ]); ((refine WalkN.take 2 _ ?_ (by simp only [List.getElem?_toArray, List.getElem?_cons_succ, List.getElem?_cons_zero]; rfl) (by kernel_rfl) (by kernel_rfl) (by rfl) (fun W hW => ?_) ?_; rotate_left; · (go_simp; try with_reducible rfl)); simp only [Act.put, List.setIfInBounds_toArray, List.set_cons_zero, List.set_cons_succ]); ((refine WalkN.take 3 _ ?_ (by simp only [List.getElem?_toArray, List.getElem?_cons_succ, List.getElem?_cons_zero]; rfl) (by kernel_rfl) (by kernel_rfl) (by rfl) (fun W hW => ?_) ?_; rotate_left; · (go_simp; try with_reducible rfl)); simp only [Act.put, List.setIfInBounds_toArray, List.set_cons_zero, List.set_cons_succ]); ((refine WalkN.take 4 _ ?_ (by simp only [List.getElem?_toArray, List.getElem?_cons_succ, List.getElem?_cons_zero]; rfl) (by kernel_rfl) (by kernel_rfl) (by rfl) (fun W hW => ?_) ?_; rotate_left; · (go_simp; try with_reducible rfl)); simp only [Act.put, List.setIfInBounds_toArray, List.set_cons_zero, List.set_cons_succ]); ((refine WalkN.take 5 _ ?_ (by simp only [List.getElem?_toArray, List.getElem?_cons_succ, List.getElem?_cons_zero]; rfl) (by kernel_rfl) (by kernel_rfl) (by rfl) (fun W hW => ?_) ?_; rotate_left; · (go_simp; try with_reducible rfl)); simp only [Act.put, List.setIfInBounds_toArray, List.set_cons_zero, List.set_cons_succ]); ((refine WalkN.take 6 _ ?_ (by simp only [List.getElem?_toArray, List.getElem?_cons_succ, List.getElem?_cons_zero]; rfl) (by kernel_rfl) (by kernel_rfl) (by rfl) (fun W hW => ?_) ?_; rotate_left; · (go_simp; try with_reducible rfl)); simp only [Act.put, List.setIfInBounds_toArray, List.set_cons_zero, List.set_cons_succ]); ((refine WalkN.take 7 _ ?_ (by simp only [List.getElem?_toArray, List.getElem?_cons_succ, List.getElem?_cons_zero]; rfl) (by kernel_rfl) (by kernel_rfl) (by rfl) (fun W hW => ?_) ?_; rotate_left; · (go_simp; try with_reducible rfl)); simp only [Act.put, List.setIfInBounds_toArray, List.set_cons_zero, List.set_cons_succ]); ((refine WalkN.take 8 _ ?_ (by simp only [List.getElem?_toArray, List.getElem?_cons_succ, List.getElem?_cons_zero]; rfl) (by kernel_rfl) (by kernel_rfl) (by rfl) (fun W hW => ?_) ?_; rotate_left; · (go_simp; try with_reducible rfl)); simp only [Act.put, List.setIfInBounds_toArray, List.set_cons_zero, List.set_cons_succ]); ((refine WalkN.take 9 _ ?_ (by simp only [List.getElem?_toArray, List.getElem?_cons_succ, List.getElem?_cons_zero]; rfl) (by kernel_rfl) (by kernel_rfl) (by rfl) (fun W hW => ?_) ?_; rotate_left; · (go_simp; try with_reducible rfl)); simp only [Act.put, List.setIfInBounds_toArray, List.set_cons_zero, List.set_cons_succ])
  refine WalkN.done (by kernel_rfl) ?_
  clear g htm hz
  go_wp2_with fail
  obtain ⟨we, hwe⟩ : ∃ we, we = wd.drew := ⟨_, rfl⟩
  have HBe := Lib.hid (show Blk we b #[.int .u64 at_, .int .u64 step, .int .u64 size] 96 from by rw [hwe]; exact HBd.out.drew)
  have HKe := Lib.hid (show Kept (fun x => x ≠ b) w we from by rw [hwe]; exact HKd.out.drew)
  refine region_walkL 11 (fun W => W = we) (by rw [← hwe]) (by kernel_rfl) (by kernel_rfl) (fun _ _ d _ _ h => by cases d <;> exact h) ?_
  rw [← hwe]
  have g : ∀ W, W = we → ∀ i, W.cell? ⟨b, i, none⟩ = (#[.int .u64 (at_ : Int), .int .u64 (step : Int), .int .u64 (size : Int)] : Array Value)[i]? := fun W h => by subst h; exact HBe.out.cells
  have gf := HBe.out.free
  have gc := HBe.out.cells
  have ew : IntKind.u64.wrap ((at_ : Int) + (step : Int)) = ((at_ + step : Nat) : Int) := by
    have e : ∀ n : Int, IntKind.u64.wrap n = n % 18446744073709551616 := fun n => by simp [IntKind.wrap, IntKind.bits, IntKind.signed]
    rw [e]; omega
  clear hwe
  ((refine WalkL.take 0 _ ?_ (by simp only [List.getElem?_toArray, List.getElem?_cons_zero]; rfl) (by kernel_rfl) (by kernel_rfl) (by kernel_rfl) (by rfl) (fun W hW => ?_) ?_; rotate_left; · (go_simp; try with_reducible rfl)); simp only [Act.put, List.setIfInBounds_toArray, List.set_cons_zero, List.set_cons_succ]); ((refine WalkL.take 1 _ ?_ (by simp only [List.getElem?_toArray, List.getElem?_cons_succ, List.getElem?_cons_zero]; rfl) (by kernel_rfl) (by kernel_rfl) (by kernel_rfl) (by rfl) (fun W hW => ?_) ?_; rotate_left; · (go_simp; try with_reducible rfl)); simp only [Act.put, List.setIfInBounds_toArray, List.set_cons_zero, List.set_cons_succ]); ((refine WalkL.take 2 _ ?_ (by simp only [List.getElem?_toArray, List.getElem?_cons_succ, List.getElem?_cons_zero]; rfl) (by kernel_rfl) (by kernel_rfl) (by kernel_rfl) (by rfl) (fun W hW => ?_) ?_; rotate_left; · (go_simp; try with_reducible rfl)); simp only [Act.put, List.setIfInBounds_toArray, List.set_cons_zero, List.set_cons_succ]); ((refine WalkL.take 3 _ ?_ (by simp only [List.getElem?_toArray, List.getElem?_cons_succ, List.getElem?_cons_zero]; rfl) (by kernel_rfl) (by kernel_rfl) (by kernel_rfl) (by rfl) (fun W hW => ?_) ?_; rotate_left; · (go_simp; try with_reducible rfl)); simp only [Act.put, List.setIfInBounds_toArray, List.set_cons_zero, List.set_cons_succ]); ((refine WalkL.take 4 _ ?_ (by simp only [List.getElem?_toArray, List.getElem?_cons_succ, List.getElem?_cons_zero]; rfl) (by kernel_rfl) (by kernel_rfl) (by kernel_rfl) (by rfl) (fun W hW => ?_) ?_; rotate_left; · (go_simp; try with_reducible rfl)); simp only [Act.put, List.setIfInBounds_toArray, List.set_cons_zero, List.set_cons_succ]); ((refine WalkL.take 5 _ ?_ (by simp only [List.getElem?_toArray, List.getElem?_cons_succ, List.getElem?_cons_zero]; rfl) (by kernel_rfl) (by kernel_rfl) (by kernel_rfl) (by rfl) (fun W hW => ?_) ?_; rotate_left; · (go_simp; try with_reducible rfl)); simp only [Act.put, List.setIfInBounds_toArray, List.set_cons_zero, List.set_cons_succ]); ((refine WalkL.take 6 _ ?_ (by simp only [List.getElem?_toArray, List.getElem?_cons_succ, List.getElem?_cons_zero]; rfl) (by kernel_rfl) (by kernel_rfl) (by kernel_rfl) (by rfl) (fun W hW => ?_) ?_; rotate_left; · (go_simp; try with_reducible rfl)); simp only [Act.put, List.setIfInBounds_toArray, List.set_cons_zero, List.set_cons_succ]); ((refine WalkL.take 7 _ ?_ (by simp only [List.getElem?_toArray, List.getElem?_cons_succ, List.getElem?_cons_zero]; rfl) (by kernel_rfl) (by kernel_rfl) (by kernel_rfl) (by rfl) (fun W hW => ?_) ?_; rotate_left; · (go_simp; try with_reducible rfl)); simp only [Act.put, List.setIfInBounds_toArray, List.set_cons_zero, List.set_cons_succ]); ((refine WalkL.take 8 _ ?_ (by simp only [List.getElem?_toArray, List.getElem?_cons_succ, List.getElem?_cons_zero]; rfl) (by kernel_rfl) (by kernel_rfl) (by kernel_rfl) (by rfl) (fun W hW => ?_) ?_; rotate_left; · (go_simp; try with_reducible rfl)); simp only [Act.put, List.setIfInBounds_toArray, List.set_cons_zero, List.set_cons_succ]); ((refine WalkL.take 9 _ ?_ (by simp only [List.getElem?_toArray, List.getElem?_cons_succ, List.getElem?_cons_zero]; rfl) (by kernel_rfl) (by kernel_rfl) (by kernel_rfl) (by rfl) (fun W hW => ?_) ?_; rotate_left; · (go_simp; try with_reducible rfl)); simp only [Act.put, List.setIfInBounds_toArray, List.set_cons_zero, List.set_cons_succ]); ((refine WalkL.take 10 _ ?_ (by simp only [List.getElem?_toArray, List.getElem?_cons_succ, List.getElem?_cons_zero]; rfl) (by kernel_rfl) (by kernel_rfl) (by kernel_rfl) (by rfl) (fun W hW => ?_) ?_; rotate_left; · (go_simp; try with_reducible rfl)); simp only [Act.put, List.setIfInBounds_toArray, List.set_cons_zero, List.set_cons_succ])
  refine WalkL.last (by kernel_rfl) (by kernel_rfl) ?_
  refine ⟨_, (by simp only [List.getElem?_toArray, List.getElem?_cons_succ, List.getElem?_cons_zero]; rfl), by rfl, fun K hK => ?_⟩
  go_simp
  refine hK.out _ _ ?_
  have HP := Lib.hid (show Prb (we.setCell ⟨b, 0, none⟩ (.int .u64 ((at_ : Int) + (step : Int)))) b (at_ + step) step size from HBe.out.set_to 0 _ (by rfl))
  have HK2 := Lib.hid (show Kept (fun x => x ≠ b) w (we.setCell ⟨b, 0, none⟩ (.int .u64 ((at_ : Int) + (step : Int)))) from HKe.out.set (a := ⟨b, 0, none⟩) (fun h => h rfl) _)
  generalize we.setCell ⟨b, 0, none⟩ (.int .u64 ((at_ : Int) + (step : Int))) = w5 at *
  have hm7 : bits .and .u64 (k : Int) 7 = ((k % 8 : Nat) : Int) := by
    have := u64_and_nat k 7 (by have := HKL.out; omega) (by decide)
    rw [nat_mask3] at this
    exact this
  have hk8 : k % 8 < 8 := Nat.mod_lt _ (by decide)
  have hkl := HKL.out
  have HV1 := Lib.hid (show ((k : Int) / 8) = ((k / 8 : Nat) : Int) from by omega)
  have HV2 := Lib.hid (show ((2 : Int) ^ (k % 8) % 256) = ((2 ^ (k % 8) : Nat) : Int) from by
    generalize k % 8 = m at hk8
    match m, hk8 with
    | 0, _ => rfl
    | 1, _ => rfl
    | 2, _ => rfl
    | 3, _ => rfl
    | 4, _ => rfl
    | 5, _ => rfl
    | 6, _ => rfl
    | 7, _ => rfl)
  clear hK g gf gc ew HBd HBe HKd HKe HB
  go_wp2_with fail
  go_ret2
  exact ⟨by rw [← HV1.out, ← HV2.out]; rfl, HP.out, HK2.out⟩

end Go.Proofs.YtmmeofiocbfamaaDoor
