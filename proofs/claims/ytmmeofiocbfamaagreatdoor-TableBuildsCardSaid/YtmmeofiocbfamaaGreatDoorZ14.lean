/- bytes.Equal. What a block's bytes tell: the plain law. table's Stem and eight. table's number. table's part. No condition: lemmas. -/
import Derived.Test.YtmmeofiocbfamaaGreatDoorZ13
namespace Go.Proofs.YtmmeofiocbfamaaGreatDoor
open Go Go.RowKit

set_option maxRecDepth 100000 in
set_option maxHeartbeats 400000 in
theorem equal8_any {S T : Nat → Prop} (v u : Value) (a b : List UInt8) (w : World) (hv : Sl S w 1 v (bc a)) (hu : Sl T w 1 u (bc b)) :
    Calls Tryz.prog 76 #[v, u] w fun e w' => e = .returned (.bool (decide (a = b))) ∧ w' = w := by
  have h1 := str_sl hv
  have h2 := str_sl hu
  obtain ⟨ao, c, rfl, -, -, -, -⟩ := Sl.bytes hv
  obtain ⟨uo, d, rfl, -, -, -, -⟩ := Sl.bytes hu
  have HV := Lib.hid (show (a == b) = decide (a = b) from by
    by_cases h : a = b
    · subst h; simp
    · simp [h])
  clear hv hu
  go_enter Tryz.func76, Tryz.ntmps76
  go_wp2_with fail
  go_ret
  exact ⟨by rw [← HV.out]; rfl, rfl⟩

end Go.Proofs.YtmmeofiocbfamaaGreatDoor
namespace Go.Proofs.YtmmeofiocbfamaaGreatDoor
open Go

/-- The keys, as bytes. -/
def dl (ks : List ByteArray) : List (List UInt8) := ks.map fun k => k.data.toList
theorem dl_inj {a b : List ByteArray} (h : dl a = dl b) : a = b := by
  unfold dl at h
  induction a generalizing b with
  | nil => cases b with
    | nil => rfl
    | cons x b => simp at h
  | cons x a ih => cases b with
    | nil => simp at h
    | cons y b =>
      simp only [List.map_cons, List.cons.injEq] at h
      rw [ih h.2, ByteArray.ext (Array.toList_inj.1 h.1)]
/-- The keys that a block's bytes tell. -/
def KeysOf (bs : List UInt8) (ks : List ByteArray) : Prop := ∃ kb pb, openB bs = some (kb, pb) ∧ keysF kb.length kb [] = some (dl ks) ∧ UpK ks ∧ blkF (dl ks) = bs
theorem KeysOf.uniq {bs : List UInt8} {ks ls : List ByteArray} (h : KeysOf bs ks) (k : KeysOf bs ls) : ks = ls := by
  obtain ⟨a, b, h1, h2, -, -⟩ := h
  obtain ⟨c, d, k1, k2, -, -⟩ := k
  rw [h1] at k1
  simp only [Option.some.injEq, Prod.mk.injEq] at k1
  obtain ⟨rfl, rfl⟩ := k1
  rw [h2] at k2
  exact dl_inj (Option.some.inj k2)
theorem openB_blk (kl : List (List UInt8)) (h : kl.length < 4294967296) : openB (blkF kl) = some (blkL 0 [] kl, (endsL 0 0 [] kl).flatMap four) := by
  have he := endsL_len 0 0 [] kl
  have hl : (blkF kl).length = (blkL 0 [] kl).length + 4 * (endsL 0 0 [] kl).length + 4 := by unfold blkF; rw [List.length_append, List.length_append, fours_len, four_length]
  have hd : (blkF kl).drop ((blkF kl).length - 4) = four (endsL 0 0 [] kl).length ++ [] := by
    rw [hl, List.append_nil]
    unfold blkF
    rw [List.drop_left' (by rw [List.length_append, fours_len]; omega)]
  unfold openB
  rw [if_neg (by omega), hd, get4_four _ (by omega), if_neg (by omega)]
  rw [show (blkF kl).length - 4 - 4 * (endsL 0 0 [] kl).length = (blkL 0 [] kl).length from by omega]
  unfold blkF
  rw [List.append_assoc, List.take_left, List.drop_left, ← fours_len, List.take_left]
theorem KeysOf.blk {ks : List ByteArray} (h : UpK ks) (hl : ks.length < 4294967296) (hk : ∀ k ∈ ks, k.size < 4294967296) : KeysOf (blkF (dl ks)) ks := by
  have hdl : (dl ks).length = ks.length := List.length_map _
  refine ⟨_, _, openB_blk _ (by rw [hdl]; exact hl), ?_, h, rfl⟩
  refine keysF_blk (dl ks) 0 [] _ ?_ (by unfold U64; decide) fun k hk' => ?_
  · have : ∀ (i : Nat) (last : List UInt8) (l : List (List UInt8)), l.length ≤ (blkL i last l).length := by
      intro i last l
      induction l generalizing i last with
      | nil => exact Nat.le_refl _
      | cons x l ih => rw [blkL, List.length_append, List.length_cons]; have := ih (i + 1) x; have := blkK_pos i last x; omega
    exact this 0 [] (dl ks)
  · obtain ⟨x, hx, rfl⟩ := List.mem_map.1 hk'
    have := hk x hx
    unfold U64
    rw [show x.data.toList.length = x.size from Array.length_toList]
    omega
theorem nextD_facts {bs last k : List UInt8} {m : Nat} (h : nextD bs last = some (k, m)) : 0 < m ∧ m ≤ bs.length ∧ k.length ≤ last.length + m := by
  unfold nextD at h
  have hg := getG_facts bs 0 0
  split at h
  · cases h
  · next h1 =>
    have h1' : (getG bs 0 0).2.2 = 0 ∧ (getG bs 0 0).1 ≤ last.length := ⟨Decidable.byContradiction fun e => h1 (.inl e), Nat.le_of_not_lt fun e => h1 (.inr e)⟩
    split at h
    · cases h
    · next h2 =>
      have h2' : (getT (bs.drop (getG bs 0 0).2.1)).2.2 = 0 := Decidable.byContradiction h2
      have hb := getT_bound _ h2'
      have hfirst : (getT (bs.drop (getG bs 0 0).2.1)).1.length ≤ (getT (bs.drop (getG bs 0 0).2.1)).2.1 := by
        generalize bs.drop (getG bs 0 0).2.1 = cs at *
        have h3 := h2'
        unfold getT at h3 ⊢
        split at h3
        · next h4 => exact absurd h3 h4
        · next h4 =>
          rw [if_neg h4]
          split
          · exact Nat.zero_le _
          · dsimp only; rw [List.length_take]; omega
      rw [List.length_drop] at hb
      simp only [Option.some.injEq, Prod.mk.injEq] at h
      obtain ⟨rfl, rfl⟩ := h
      rcases hg with ⟨_, g1, g2⟩ | g | g
      · refine ⟨by omega, by omega, ?_⟩
        rw [List.length_append, List.length_take]
        omega
      · omega
      · omega
/-- How far the keys are told. -/
def KInv (kb : List UInt8) (done : List ByteArray) (at_ : Nat) (key : ByteArray) : Prop :=
  at_ ≤ kb.length ∧ done.length ≤ at_ ∧ key.size ≤ at_ ∧ (∀ k ∈ done, k.size ≤ kb.length) ∧
  ∃ f, kb.length ≤ at_ + f ∧ keysF kb.length kb [] = (keysF f (kb.drop at_) key.data.toList).map (dl done ++ ·)
theorem KInv.start (kb : List UInt8) : KInv kb [] 0 ⟨#[]⟩ := ⟨Nat.zero_le _, Nat.le_refl _, Nat.le_refl _, (fun _ hk => by cases hk), kb.length, by omega, by rw [List.drop_zero, show (fun x => dl [] ++ x) = id from rfl, Option.map_id]; rfl⟩
theorem KInv.none {kb : List UInt8} {done : List ByteArray} {at_ : Nat} {key : ByteArray} (h : KInv kb done at_ key) (hlt : at_ < kb.length) (hn : nextD (kb.drop at_) key.data.toList = none) : keysF kb.length kb [] = none := by
  obtain ⟨-, -, -, -, f, hf, e⟩ := h
  cases f with
  | zero => omega
  | succ f => rw [e, keysF, if_neg (by intro e2; have := congrArg List.length e2; rw [List.length_drop] at this; simp at this; omega), hn]; rfl
theorem KInv.step {kb k : List UInt8} {done : List ByteArray} {at_ m : Nat} {key : ByteArray} (h : KInv kb done at_ key) (hlt : at_ < kb.length) (hn : nextD (kb.drop at_) key.data.toList = some (k, m)) :
    KInv kb (done ++ [⟨k.toArray⟩]) (at_ + m) ⟨k.toArray⟩ ∧ 0 < m ∧ at_ + m ≤ kb.length := by
  obtain ⟨h1, h2, h3, h4, f, hf, e⟩ := h
  obtain ⟨m1, m2, m3⟩ := nextD_facts hn
  rw [List.length_drop] at m2
  rw [show key.data.toList.length = key.size from Array.length_toList] at m3
  have hks : (⟨k.toArray⟩ : ByteArray).size = k.length := by show k.toArray.size = _; simp
  refine ⟨⟨by omega, by rw [List.length_append, List.length_singleton]; omega, by rw [hks]; omega, fun x hx => ?_, ?_⟩, m1, by omega⟩
  · rcases List.mem_append.1 hx with hx | hx
    · exact h4 x hx
    · rw [List.mem_singleton.1 hx, hks]; omega
  · cases f with
    | zero => omega
    | succ f =>
      refine ⟨f, by omega, ?_⟩
      rw [e, keysF, if_neg (by intro e2; have := congrArg List.length e2; rw [List.length_drop] at this; simp at this; omega), hn]
      dsimp only
      rw [List.drop_drop, Option.map_map]
      congr 1
      funext x
      simp [dl]
theorem KInv.last {kb : List UInt8} {done : List ByteArray} {key : ByteArray} (h : KInv kb done kb.length key) : keysF kb.length kb [] = some (dl done) := by
  obtain ⟨-, -, -, -, f, -, e⟩ := h
  rw [e, List.drop_length]
  cases f <;> simp [keysF]
theorem blkL_bound (M : Nat) (hM : M < 4294967296) : ∀ (i : Nat) (last : List UInt8) (l : List (List UInt8)), last.length ≤ M → (∀ k ∈ l, k.length ≤ M) → (blkL i last l).length ≤ l.length * (M + 20)
  | _, _, [], _, _ => Nat.zero_le _
  | i, last, k :: l, h, hk => by
    have hkk := hk k List.mem_cons_self
    have ih := blkL_bound M hM (i + 1) k l hkk fun x hx => hk x (List.mem_cons_of_mem _ hx)
    have hn : blkN i last k ≤ last.length := by
      unfold blkN
      split
      · exact Nat.zero_le _
      · exact (comm_le last k).1
    have p1 : (putB (blkN i last k)).length ≤ 10 := U64.len (by unfold U64; omega)
    have p2 : (putB (k.drop (blkN i last k)).length).length ≤ 10 := U64.len (by unfold U64; rw [List.length_drop]; omega)
    rw [blkL, List.length_append, List.length_cons, Nat.add_mul]
    have : (blkK i last k).length ≤ M + 20 := by
      unfold blkK putT
      rw [List.length_append, List.length_append, List.length_drop]
      rw [List.length_drop] at p2
      omega
    omega

end Go.Proofs.YtmmeofiocbfamaaGreatDoor
namespace Go.Proofs.YtmmeofiocbfamaaGreatDoor
open Go Go.RowKit

set_option maxRecDepth 100000 in
set_option maxHeartbeats 400000 in
theorem stem_any (s : ByteArray) (w : World) (hs : s.size ≤ 1000000000) :
    Calls Tryz.prog 19 #[.string s] w fun e w' => e = .returned (.string (s.extract 0 (s.size - 9))) ∧ w' = w := by
  have hm : max ((s.size : Int) - 9) 0 = ((s.size - 9 : Nat) : Int) := by omega
  have hle : s.size - 9 ≤ s.size := Nat.sub_le _ _
  generalize s.size - 9 = k at *
  go_enter Tryz.func19, Tryz.ntmps19
  go_wp2_with fail
  go_ret
  exact ⟨rfl, rfl⟩

/-- A number's eight bytes, the great ones first. -/
def eightB (n : Nat) : List UInt8 := [UInt8.ofNat (n / 72057594037927936), UInt8.ofNat (n / 281474976710656), UInt8.ofNat (n / 1099511627776), UInt8.ofNat (n / 4294967296), UInt8.ofNat (n / 16777216), UInt8.ofNat (n / 65536), UInt8.ofNat (n / 256), UInt8.ofNat n]

theorem eight_step (xs : List UInt8) (n i x : Nat) (X : Int) (h : (eightB n).take (i + 1) = (eightB n).take i ++ [UInt8.ofNat x]) (hX : ((x % 256 : Nat) : Int) = X) : bc (xs ++ (eightB n).take (i + 1)) = bc (xs ++ (eightB n).take i) ++ [.int .u8 X] := by
  rw [h, ← List.append_assoc, bc_append (xs ++ _)]
  congr 1
  show [Value.int .u8 (((UInt8.ofNat x).toNat : Nat) : Int)] = _
  rw [u8n, hX]

set_option maxRecDepth 100000 in
set_option maxHeartbeats 3000000 in
theorem eight_any {B : Nat} (b : Value) (xs : List UInt8) (n : Nat) (w : World) (hB : B ≤ w.heap.size) (hb : Own w B 5 1 b (bc xs)) (hx : xs.length ≤ 100000000) (hn : n < 4611686018427387904) :
    Calls Tryz.prog 33 #[b, .int .i64 n] w fun e w' => ∃ v, e = .returned v ∧ Own w' B 5 1 v (bc (xs ++ eightB n)) ∧ Below B w w' := by
  have HO := Lib.hid hb
  have HL := Lib.hid hx
  have HBW := Lib.hid hB
  have hwn : IntKind.u64.wrap (n : Int) = (n : Int) := by rw [IntKind.wrap_u64]; omega
  clear hb hx
  go_enter Tryz.func33, Tryz.ntmps33
  go_wp2_with fail
  go_loopw [0, 5] (fun bv sv wr => ∃ i : Nat, i ≤ 8 ∧ sv = .int .i64 (56 - 8 * (i : Int)) ∧ Own wr B 5 1 bv (bc (xs ++ (eightB n).take i)) ∧ Below B w wr) (fun _ sv _ => (intOf sv + 8).toNat)
  case atStart => exact ⟨0, by omega, rfl, by rw [List.take_zero, List.append_nil]; exact HO.out, Below.refl _ _⟩
  case round =>
    obtain ⟨i, hi, rfl, hb, hbel⟩ := hrel
    have HB := Lib.hid hb
    have HX := Lib.hid hbel
    obtain ⟨bo, bn, bcap, rfl, -, -, -⟩ := hb.sl.len
    clear hb hbel
    have hcase : i = 0 ∨ i = 1 ∨ i = 2 ∨ i = 3 ∨ i = 4 ∨ i = 5 ∨ i = 6 ∨ i = 7 ∨ i = 8 := by omega
    clear hi
    rcases hcase with rfl | rfl | rfl | rfl | rfl | rfl | rfl | rfl | rfl
    · go_wp2_with (at_builtin; go_must (refine wpList_own_lit bytesT rfl (.tmp 10) (.tmp 17) rfl rfl HB.out rfl rfl (by simp [Value.oneCell']) (by have := HL.out; rw [bc_length, List.length_append, List.length_take]; simp; omega) (by have := HL.out; rw [bc_length, List.length_append, List.length_take]; simp; omega) (Nat.le_trans HBW.out HX.out.size) ?_; intro v5 w5 hown5 hb5 _; have HO5 := Lib.hid hown5; have HX5 := Lib.hid (Below.trans HX.out hb5); obtain ⟨eo5, en5, ec5, rfl, -, -, -⟩ := hown5.sl.len; clear hown5 hb5))
      refine ⟨⟨1, by omega, by rfl, ?_, HX5.out⟩, by decide⟩
      rw [eight_step xs n 0 (n / 72057594037927936) ((n : Int) / 72057594037927936) rfl (by omega)]
      exact HO5.out
    · go_wp2_with (at_builtin; go_must (refine wpList_own_lit bytesT rfl (.tmp 10) (.tmp 17) rfl rfl HB.out rfl rfl (by simp [Value.oneCell']) (by have := HL.out; rw [bc_length, List.length_append, List.length_take]; simp; omega) (by have := HL.out; rw [bc_length, List.length_append, List.length_take]; simp; omega) (Nat.le_trans HBW.out HX.out.size) ?_; intro v5 w5 hown5 hb5 _; have HO5 := Lib.hid hown5; have HX5 := Lib.hid (Below.trans HX.out hb5); obtain ⟨eo5, en5, ec5, rfl, -, -, -⟩ := hown5.sl.len; clear hown5 hb5))
      refine ⟨⟨2, by omega, by rfl, ?_, HX5.out⟩, by decide⟩
      rw [eight_step xs n 1 (n / 281474976710656) ((n : Int) / 281474976710656 % 256) rfl (by omega)]
      exact HO5.out
    · go_wp2_with (at_builtin; go_must (refine wpList_own_lit bytesT rfl (.tmp 10) (.tmp 17) rfl rfl HB.out rfl rfl (by simp [Value.oneCell']) (by have := HL.out; rw [bc_length, List.length_append, List.length_take]; simp; omega) (by have := HL.out; rw [bc_length, List.length_append, List.length_take]; simp; omega) (Nat.le_trans HBW.out HX.out.size) ?_; intro v5 w5 hown5 hb5 _; have HO5 := Lib.hid hown5; have HX5 := Lib.hid (Below.trans HX.out hb5); obtain ⟨eo5, en5, ec5, rfl, -, -, -⟩ := hown5.sl.len; clear hown5 hb5))
      refine ⟨⟨3, by omega, by rfl, ?_, HX5.out⟩, by decide⟩
      rw [eight_step xs n 2 (n / 1099511627776) ((n : Int) / 1099511627776 % 256) rfl (by omega)]
      exact HO5.out
    · go_wp2_with (at_builtin; go_must (refine wpList_own_lit bytesT rfl (.tmp 10) (.tmp 17) rfl rfl HB.out rfl rfl (by simp [Value.oneCell']) (by have := HL.out; rw [bc_length, List.length_append, List.length_take]; simp; omega) (by have := HL.out; rw [bc_length, List.length_append, List.length_take]; simp; omega) (Nat.le_trans HBW.out HX.out.size) ?_; intro v5 w5 hown5 hb5 _; have HO5 := Lib.hid hown5; have HX5 := Lib.hid (Below.trans HX.out hb5); obtain ⟨eo5, en5, ec5, rfl, -, -, -⟩ := hown5.sl.len; clear hown5 hb5))
      refine ⟨⟨4, by omega, by rfl, ?_, HX5.out⟩, by decide⟩
      rw [eight_step xs n 3 (n / 4294967296) ((n : Int) / 4294967296 % 256) rfl (by omega)]
      exact HO5.out
    · go_wp2_with (at_builtin; go_must (refine wpList_own_lit bytesT rfl (.tmp 10) (.tmp 17) rfl rfl HB.out rfl rfl (by simp [Value.oneCell']) (by have := HL.out; rw [bc_length, List.length_append, List.length_take]; simp; omega) (by have := HL.out; rw [bc_length, List.length_append, List.length_take]; simp; omega) (Nat.le_trans HBW.out HX.out.size) ?_; intro v5 w5 hown5 hb5 _; have HO5 := Lib.hid hown5; have HX5 := Lib.hid (Below.trans HX.out hb5); obtain ⟨eo5, en5, ec5, rfl, -, -, -⟩ := hown5.sl.len; clear hown5 hb5))
      refine ⟨⟨5, by omega, by rfl, ?_, HX5.out⟩, by decide⟩
      rw [eight_step xs n 4 (n / 16777216) ((n : Int) / 16777216 % 256) rfl (by omega)]
      exact HO5.out
    · go_wp2_with (at_builtin; go_must (refine wpList_own_lit bytesT rfl (.tmp 10) (.tmp 17) rfl rfl HB.out rfl rfl (by simp [Value.oneCell']) (by have := HL.out; rw [bc_length, List.length_append, List.length_take]; simp; omega) (by have := HL.out; rw [bc_length, List.length_append, List.length_take]; simp; omega) (Nat.le_trans HBW.out HX.out.size) ?_; intro v5 w5 hown5 hb5 _; have HO5 := Lib.hid hown5; have HX5 := Lib.hid (Below.trans HX.out hb5); obtain ⟨eo5, en5, ec5, rfl, -, -, -⟩ := hown5.sl.len; clear hown5 hb5))
      refine ⟨⟨6, by omega, by rfl, ?_, HX5.out⟩, by decide⟩
      rw [eight_step xs n 5 (n / 65536) ((n : Int) / 65536 % 256) rfl (by omega)]
      exact HO5.out
    · go_wp2_with (at_builtin; go_must (refine wpList_own_lit bytesT rfl (.tmp 10) (.tmp 17) rfl rfl HB.out rfl rfl (by simp [Value.oneCell']) (by have := HL.out; rw [bc_length, List.length_append, List.length_take]; simp; omega) (by have := HL.out; rw [bc_length, List.length_append, List.length_take]; simp; omega) (Nat.le_trans HBW.out HX.out.size) ?_; intro v5 w5 hown5 hb5 _; have HO5 := Lib.hid hown5; have HX5 := Lib.hid (Below.trans HX.out hb5); obtain ⟨eo5, en5, ec5, rfl, -, -, -⟩ := hown5.sl.len; clear hown5 hb5))
      refine ⟨⟨7, by omega, by rfl, ?_, HX5.out⟩, by decide⟩
      rw [eight_step xs n 6 (n / 256) ((n : Int) / 256 % 256) rfl (by omega)]
      exact HO5.out
    · go_wp2_with (at_builtin; go_must (refine wpList_own_lit bytesT rfl (.tmp 10) (.tmp 17) rfl rfl HB.out rfl rfl (by simp [Value.oneCell']) (by have := HL.out; rw [bc_length, List.length_append, List.length_take]; simp; omega) (by have := HL.out; rw [bc_length, List.length_append, List.length_take]; simp; omega) (Nat.le_trans HBW.out HX.out.size) ?_; intro v5 w5 hown5 hb5 _; have HO5 := Lib.hid hown5; have HX5 := Lib.hid (Below.trans HX.out hb5); obtain ⟨eo5, en5, ec5, rfl, -, -, -⟩ := hown5.sl.len; clear hown5 hb5))
      refine ⟨⟨8, by omega, by rfl, ?_, HX5.out⟩, by decide⟩
      rw [eight_step xs n 7 (n) ((n : Int) % 256) rfl (by omega)]
      exact HO5.out
    · go_wp2_with fail
      go_ret
      exact ⟨_, rfl, HB.out, HX.out⟩

end Go.Proofs.YtmmeofiocbfamaaGreatDoor
namespace Go.Proofs.YtmmeofiocbfamaaGreatDoor
open Go Go.RowKit

def numB (l : List UInt8) : Nat := l.foldl (fun r b => r * 256 + b.toNat) 0
theorem numB_snoc (l : List UInt8) (i : Nat) (h : i < l.length) : numB (l.take (i + 1)) = numB (l.take i) * 256 + l[i].toNat := by
  unfold numB
  rw [List.take_succ_eq_append_getElem h, List.foldl_append, List.foldl_cons, List.foldl_nil]
theorem numB_lt (l : List UInt8) : ∀ i, i ≤ l.length → numB (l.take i) < 256 ^ i
  | 0, _ => by rw [List.take_zero]; exact Nat.one_pos
  | i + 1, h => by
    rw [numB_snoc l i (by omega), Nat.pow_succ]
    have := numB_lt l i (by omega)
    have := (l[i]).toNat_lt
    omega

set_option maxRecDepth 100000 in
set_option maxHeartbeats 1600000 in
theorem number_any {S : Nat → Prop} (v : Value) (bs : List UInt8) (w : World) (h : Sl S w 1 v (bc bs)) (h8 : 8 ≤ bs.length) :
    Calls Tryz.prog 42 #[v] w fun e w' => e = .returned (.int .i64 (if 1099511627776 < numB (bs.take 8) then (-1 : Int) else ((numB (bs.take 8) : Nat) : Int))) ∧ Ext w w' := by
  obtain ⟨ao, c, rfl, hlc, hcm, -, hcell⟩ := Sl.bytes h
  obtain ⟨b, off, rfl, hb, hcc⟩ := hcell (by omega)
  have HC := Lib.hid hcc
  clear hcell h hcc
  have h8c : 8 ≤ c := by omega
  have HZ := Lib.hid (show ∀ z : Int, z = (if 1099511627776 < numB (bs.take 8) then (-1 : Int) else ((numB (bs.take 8) : Nat) : Int)) → (1099511627776 < numB (bs.take 8) → z = -1) ∧ (¬ 1099511627776 < numB (bs.take 8) → z = (numB (bs.take 8) : Nat)) from fun z hz => ⟨fun h => by rw [hz, if_pos h], fun h => by rw [hz, if_neg h]⟩)
  obtain ⟨z, hz⟩ : ∃ z : Int, z = (if 1099511627776 < numB (bs.take 8) then (-1 : Int) else ((numB (bs.take 8) : Nat) : Int)) := ⟨_, rfl⟩
  have HZZ := Lib.hid (HZ.out z hz)
  rw [← hz]
  clear hz HZ
  go_enter Tryz.func42, Tryz.ntmps42
  go_wp2_with fail
  go_loopw [3, 9] (fun rv iv wr => ∃ i : Nat, i ≤ 8 ∧ iv = .int .i64 i ∧ rv = .int .u64 (numB (bs.take i)) ∧ Ext w wr) (fun _ iv _ => 8 - (intOf iv).toNat)
  case atStart => exact ⟨0, by omega, rfl, rfl, Ext.refl _⟩
  case round =>
    obtain ⟨i, hi, rfl, rfl, hx⟩ := hrel
    have HX := Lib.hid hx
    clear hx
    by_cases hlt : i < 8
    · have hcl := HX.out.cell (HC.out i (by omega))
      have HN := Lib.hid (numB_snoc bs i (by omega))
      have HL := Lib.hid (show numB (bs.take i) < 72057594037927936 from Nat.lt_of_lt_of_le (numB_lt bs i (by omega)) (Nat.le_trans (Nat.pow_le_pow_right (by decide) (show i ≤ 7 by omega)) (by decide)))
      have HY := Lib.hid (bs[i]).toNat_lt
      generalize numB (bs.take i) = r at *
      generalize (bs[i]).toNat = y at *
      have HV := Lib.hid (show bits .or .u64 (IntKind.u64.wrap ((r : Int) * 256)) (IntKind.u64.wrap (y : Int)) = ((r * 256 + y : Nat) : Int) from by
        have hr := HL.out
        have hy := HY.out
        have e1 : IntKind.u64.wrap ((r : Int) * 256) = ((r * 256 : Nat) : Int) := by rw [IntKind.wrap_u64]; omega
        have e2 : IntKind.u64.wrap (y : Int) = ((y : Nat) : Int) := by rw [IntKind.wrap_u64]; omega
        rw [e1, e2, u64_or_nat _ _ (by omega) (by omega), nat_join 8 _ _ (by omega) (by omega)])
      rw [← HN.out] at HV
      go_wp2_with fail
      exact ⟨⟨i + 1, by omega, by go_num, by rw [HV.out], HX.out⟩, by simp [intOf]; omega⟩
    · obtain rfl : i = 8 := by omega
      have HL := Lib.hid (show numB (bs.take 8) < 18446744073709551616 from Nat.lt_of_lt_of_le (numB_lt bs 8 h8) (by decide))
      generalize numB (bs.take 8) = r at *
      by_cases hr : 1099511627776 < r
      · have hri : (1099511627776 : Int) < (r : Int) := by omega
        have HR := Lib.hid (HZZ.out.1 hr)
        clear hr
        go_wp2_with fail
        go_ret
        exact ⟨by rw [HR.out]; rfl, HX.out⟩
      · have hri : ¬ ((1099511627776 : Int) < (r : Int)) := by omega
        have HR := Lib.hid (HZZ.out.2 hr)
        have hw : IntKind.i64.wrap (r : Int) = (r : Int) := IntWalk.i64_in _ (by omega)
        clear hr
        go_wp2_with fail
        go_ret
        exact ⟨by rw [HR.out]; rfl, HX.out⟩

end Go.Proofs.YtmmeofiocbfamaaGreatDoor
namespace Go.Proofs.YtmmeofiocbfamaaGreatDoor
open Go Go.RowKit

/-- A frame between two places. -/
def partB (bs : List UInt8) (lo hi : Int) : List UInt8 × Nat :=
  if lo < 0 ∨ hi < lo ∨ (bs.length : Int) < hi then ([], 9)
  else if (nextB ((bs.drop lo.toNat).take (hi.toNat - lo.toNat))).2.2 = 8 then ([], 8)
  else if (nextB ((bs.drop lo.toNat).take (hi.toNat - lo.toNat))).2.2 ≠ 0 ∨ (nextB ((bs.drop lo.toNat).take (hi.toNat - lo.toNat))).2.1 ≠ hi.toNat - lo.toNat then ([], 9)
  else ((nextB ((bs.drop lo.toNat).take (hi.toNat - lo.toNat))).1, 0)
def RetPart (r : List UInt8 × Nat) (w : World) (e : Ending) (w' : World) : Prop := ∃ v, e = .returned (.tuple #[v, .int .i64 r.2]) ∧ Sl (fun b => w.heap.size ≤ b ∧ b < w'.heap.size) w' 1 v (bc r.1) ∧ Ext w w'
theorem nextB_bound (b : List UInt8) : (nextB b).2.1 ≤ b.length ∧ ((nextB b).2.2 = 0 ∨ (nextB b).2.2 = 7 ∨ (nextB b).2.2 = 8) := by
  unfold nextB
  split
  · exact ⟨Nat.zero_le _, .inr (.inl rfl)⟩
  · split
    · exact ⟨Nat.zero_le _, .inr (.inr rfl)⟩
    · exact ⟨by dsimp only; omega, .inl rfl⟩

set_option maxRecDepth 100000 in
set_option maxHeartbeats 1600000 in
theorem part_any (v : Value) (bs : List UInt8) (lo hi : Int) (w : World) (h : Sl (· < w.heap.size) w 1 v (bc bs)) (hl : bs.length ≤ 10000000) (hlo : lo ≤ 4611686018427387904) (hhi : hi ≤ 4611686018427387904) :
    Calls Tryz.prog 43 #[v, .int .i64 lo, .int .i64 hi] w (RetPart (partB bs lo hi) w) := by
  have HS := Lib.hid h
  obtain ⟨ao, c, rfl, hlc, hcm, -, hcell⟩ := Sl.bytes h
  by_cases hbad : lo < 0 ∨ hi < lo ∨ (bs.length : Int) < hi
  · have HR := Lib.hid (show partB bs lo hi = ([], 9) from if_pos hbad)
    clear h hcell
    go_enter Tryz.func43, Tryz.ntmps43
    have h0 : lo < 0 ∨ (¬ lo < 0 ∧ hi < lo) ∨ (¬ lo < 0 ∧ ¬ hi < lo ∧ (bs.length : Int) < hi) := by omega
    clear hbad
    rcases h0 with h1 | ⟨h1, h2⟩ | ⟨h1, h2, h3⟩
    all_goals
      go_wp2_with fail
      go_ret2
      rw [HR.out]
      exact ⟨_, rfl, Sl.nil _ _ _, Ext.refl _⟩
  · obtain ⟨a, rfl⟩ : ∃ a : Nat, lo = a := ⟨lo.toNat, by omega⟩
    obtain ⟨d, rfl⟩ : ∃ d : Nat, hi = d := ⟨hi.toNat, by omega⟩
    have had : a ≤ d := by omega
    have hdl : d ≤ bs.length := by omega
    have HR := Lib.hid (show partB bs a d = if (nextB ((bs.drop a).take (d - a))).2.2 = 8 then ([], 8) else if (nextB ((bs.drop a).take (d - a))).2.2 ≠ 0 ∨ (nextB ((bs.drop a).take (d - a))).2.1 ≠ d - a then ([], 9) else ((nextB ((bs.drop a).take (d - a))).1, 0) from if_neg hbad)
    have HNB := Lib.hid (nextB_bound ((bs.drop a).take (d - a)))
    have HA := Lib.hid (fun (A : Option Addr) (hA : ¬ c = a → A = Option.map (fun x => x.add a) ao) => nextF_any (.slice A (d - a) (c - a)) ((bs.drop a).take (d - a)) w (by
      have := HS.out.window (ao' := A) a d had hdl hA
      rw [show bc ((bs.drop a).take (d - a)) = ((bc bs).drop a).take (d - a) from by unfold bc; rw [List.map_take, List.map_drop]]
      exact this) (by rw [List.length_take, List.length_drop]; omega))
    rw [List.length_take, List.length_drop] at HNB
    generalize nextB ((bs.drop a).take (d - a)) = r at *
    obtain ⟨p, used, er⟩ := r
    dsimp only at HR HNB HA
    have h1 : ¬ ((a : Int) < 0) := by omega
    have h2 : ¬ ((d : Int) < (a : Int)) := by omega
    have h3 : ¬ ((bs.length : Int) < (d : Int)) := by omega
    clear hbad h hcell
    by_cases hca : c = a
    · have HN := Lib.hid (show Calls Tryz.prog 71 #[.slice ao (d - a) 0] w _ from by have := HA.out ao (fun h => absurd hca h); rw [show c - a = 0 from by omega] at this; exact this)
      clear HA
      go_enter Tryz.func43, Tryz.ntmps43
      go_wp2_with fail
      refine HN.out.mono ?_
      rintro e w1 ⟨v1, rfl, hs1, hx1⟩
      have HS1 := Lib.hid hs1
      have HX1 := Lib.hid hx1
      obtain ⟨ao1, n1, c1, rfl, -, -, -⟩ := hs1.len
      clear hs1 hx1 HN
      rcases HNB.out.2 with he | he | he <;> subst he
      · by_cases hu : used = d - a
        · have HF := Lib.hid (show partB bs a d = (p, 0) from by rw [HR.out, if_neg (by decide), if_neg (by simp [hu])])
          have hui : (used : Int) = (d : Int) - (a : Int) := by omega
          clear hu
          go_wp2_with fail
          go_ret2
          rw [HF.out]
          exact ⟨_, rfl, HS1.out, HX1.out⟩
        · have HF := Lib.hid (show partB bs a d = ([], 9) from by rw [HR.out, if_neg (by decide), if_pos (.inr hu)])
          have hui : ¬ ((used : Int) = (d : Int) - (a : Int)) := by omega
          clear hu
          go_wp2_with fail
          go_ret2
          rw [HF.out]
          exact ⟨_, rfl, Sl.nil _ _ _, HX1.out⟩
      · have HF := Lib.hid (show partB bs a d = ([], 9) from by rw [HR.out, if_neg (by decide), if_pos (.inl (by decide))])
        go_wp2_with fail
        go_ret2
        rw [HF.out]
        exact ⟨_, rfl, Sl.nil _ _ _, HX1.out⟩
      · have HF := Lib.hid (show partB bs a d = ([], 8) from by rw [HR.out, if_pos rfl])
        go_wp2_with fail
        go_ret2
        rw [HF.out]
        exact ⟨_, rfl, Sl.nil _ _ _, HX1.out⟩
    · have HN := Lib.hid (HA.out (Option.map (fun x => x.add a) ao) (fun _ => rfl))
      clear HA
      go_enter Tryz.func43, Tryz.ntmps43
      go_wp2_with fail
      refine HN.out.mono ?_
      rintro e w1 ⟨v1, rfl, hs1, hx1⟩
      have HS1 := Lib.hid hs1
      have HX1 := Lib.hid hx1
      obtain ⟨ao1, n1, c1, rfl, -, -, -⟩ := hs1.len
      clear hs1 hx1 HN
      rcases HNB.out.2 with he | he | he <;> subst he
      · by_cases hu : used = d - a
        · have HF := Lib.hid (show partB bs a d = (p, 0) from by rw [HR.out, if_neg (by decide), if_neg (by simp [hu])])
          have hui : (used : Int) = (d : Int) - (a : Int) := by omega
          clear hu
          go_wp2_with fail
          go_ret2
          rw [HF.out]
          exact ⟨_, rfl, HS1.out, HX1.out⟩
        · have HF := Lib.hid (show partB bs a d = ([], 9) from by rw [HR.out, if_neg (by decide), if_pos (.inr hu)])
          have hui : ¬ ((used : Int) = (d : Int) - (a : Int)) := by omega
          clear hu
          go_wp2_with fail
          go_ret2
          rw [HF.out]
          exact ⟨_, rfl, Sl.nil _ _ _, HX1.out⟩
      · have HF := Lib.hid (show partB bs a d = ([], 9) from by rw [HR.out, if_neg (by decide), if_pos (.inl (by decide))])
        go_wp2_with fail
        go_ret2
        rw [HF.out]
        exact ⟨_, rfl, Sl.nil _ _ _, HX1.out⟩
      · have HF := Lib.hid (show partB bs a d = ([], 8) from by rw [HR.out, if_pos rfl])
        go_wp2_with fail
        go_ret2
        rw [HF.out]
        exact ⟨_, rfl, Sl.nil _ _ _, HX1.out⟩

end Go.Proofs.YtmmeofiocbfamaaGreatDoor
