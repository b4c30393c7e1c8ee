/- block's put and get. Blocks of keys: the plain law. block's Common. No condition: lemmas. -/
import Derived.Test.YtmmeofiocbfamaaDoorZ9
import Derived.Test.YtmmeofiocbfamaaDoorZ5
import Derived.Test.YtmmeofiocbfamaaDoorZ0
namespace Go.Proofs.YtmmeofiocbfamaaDoor
open Go Go.RowKit

set_option maxRecDepth 100000 in
set_option maxHeartbeats 1000000 in
theorem put_block {B : Nat} (b : Value) (xs : List UInt8) (q : Nat) (w : World) (hB : B ≤ w.heap.size) (hb : Own w B 5 1 b (bc xs)) (hx : xs.length ≤ 8000000000) (hq : q < 4294967296) :
    Calls Tryd.prog 66 #[b, .int .i64 q] w fun e w' => ∃ v, e = .returned v ∧ Own w' B 5 1 v (bc (xs ++ four q)) ∧ Below B w w' ∧ w.grownBy w' b.ownBlock := by
  have HO := Lib.hid hb
  have HL := Lib.hid hx
  have HBW := Lib.hid hB
  obtain ⟨ao, n, c, rfl, -, -, -⟩ := hb.sl.len
  clear hb hx
  go_enter Tryd.func66, Tryd.ntmps66
  go_wp2_with (at_builtin; go_must (refine wpList_own_lit bytesT rfl (.tmp 5) (.tmp 17) rfl rfl HO.out rfl rfl (by simp [Value.oneCell']) (by have := HL.out; rw [bc_length]; simp; omega) (by have := HL.out; rw [bc_length]; simp; omega) HBW.out ?_; intro v5 w5 hown5 hb5 hgr5))
  have HF := Lib.hid (show Own w5 B 5 1 v5 (bc (xs ++ four q)) from by rw [bc_append, four_eq hq]; exact hown5)
  have HB5 := Lib.hid hb5
  have HG5 := Lib.hid hgr5
  obtain ⟨ao5, n5, c5, rfl, -, -, -⟩ := hown5.sl.len
  clear hown5 hb5 hgr5
  go_ret
  exact ⟨_, rfl, HF.out, HB5.out, HG5.out⟩

theorem i64_or_nat (a b : Nat) (ha : a < 2 ^ 62) (hb : b < 2 ^ 62) : bits .or .i64 (a : Int) (b : Int) = ((a ||| b : Nat) : Int) := by
  have hx : a ||| b < 2 ^ 62 := Nat.or_lt_two_pow ha hb
  show IntKind.i64.wrap ((BitVec.ofInt 64 (a : Int) ||| BitVec.ofInt 64 (b : Int)).toNat : Int) = _
  rw [BitVec.toNat_or, ofInt_u64 a (by omega), ofInt_u64 b (by omega)]
  exact IntWalk.i64_in _ (by omega)
theorem or4i (x0 x1 x2 x3 : Nat) (h0 : x0 < 2 ^ 8) (h1 : x1 < 2 ^ 8) (h2 : x2 < 2 ^ 8) (h3 : x3 < 2 ^ 8) :
    bits .or .i64 (bits .or .i64 (bits .or .i64 (IntKind.i64.wrap (IntKind.i64.wrap (x0 : Int) * 16777216)) (IntKind.i64.wrap (IntKind.i64.wrap (x1 : Int) * 65536))) (IntKind.i64.wrap (IntKind.i64.wrap (x2 : Int) * 256))) (IntKind.i64.wrap (x3 : Int)) = ((x0 * 16777216 + x1 * 65536 + x2 * 256 + x3 : Nat) : Int) := by
  have w0 : IntKind.i64.wrap (x0 : Int) = (x0 : Int) := IntWalk.i64_in _ (by omega)
  have w1 : IntKind.i64.wrap (x1 : Int) = (x1 : Int) := IntWalk.i64_in _ (by omega)
  have w2 : IntKind.i64.wrap (x2 : Int) = (x2 : Int) := IntWalk.i64_in _ (by omega)
  have w3 : IntKind.i64.wrap (x3 : Int) = (x3 : Int) := IntWalk.i64_in _ (by omega)
  have e0 : IntKind.i64.wrap ((x0 : Int) * 16777216) = ((x0 * 16777216 : Nat) : Int) := by rw [IntWalk.i64_in _ (by omega)]; omega
  have e1 : IntKind.i64.wrap ((x1 : Int) * 65536) = ((x1 * 65536 : Nat) : Int) := by rw [IntWalk.i64_in _ (by omega)]; omega
  have e2 : IntKind.i64.wrap ((x2 : Int) * 256) = ((x2 * 256 : Nat) : Int) := by rw [IntWalk.i64_in _ (by omega)]; omega
  rw [w0, w1, w2, w3, e0, e1, e2, i64_or_nat _ _ (by omega) (by omega), nat_join 24 _ _ (by omega) (by omega), i64_or_nat _ _ (by omega) (by omega), nat_join 16 _ _ (by omega) (by omega), i64_or_nat _ _ (by omega) (by omega), nat_join 8 _ _ (by omega) (by omega)]

set_option maxRecDepth 100000 in
set_option maxHeartbeats 1000000 in
theorem get_block {S : Nat → Prop} (v : Value) (bs : List UInt8) (w : World) (h : Sl S w 1 v (bc bs)) (h4 : 4 ≤ bs.length) :
    Calls Tryd.prog 70 #[v] w fun e w' => e = .returned (.int .i64 (get4 bs)) ∧ Ext w w' := by
  obtain ⟨ao, c, rfl, hlc, hcm, -, hcell⟩ := Sl.bytes h
  obtain ⟨b, off, rfl, hb, hcc⟩ := hcell (by omega)
  obtain ⟨b0, b1, b2, b3, rest, rfl⟩ : ∃ b0 b1 b2 b3 rest, bs = b0 :: b1 :: b2 :: b3 :: rest := by
    match bs, h4 with
    | b0 :: b1 :: b2 :: b3 :: rest, _ => exact ⟨b0, b1, b2, b3, rest, rfl⟩
  have c0 := hcc 0 (by simp)
  have c1 := hcc 1 (by simp)
  have c2 := hcc 2 (by simp)
  have c3 := hcc 3 (by simp)
  simp only [List.getElem_cons_zero, List.getElem_cons_succ, Nat.add_zero] at c0 c1 c2 c3
  have HL := Lib.hid (show get4 (b0 :: b1 :: b2 :: b3 :: rest) = b0.toNat * 16777216 + b1.toNat * 65536 + b2.toNat * 256 + b3.toNat from rfl)
  have h0 := b0.toNat_lt
  have h1 := b1.toNat_lt
  have h2 := b2.toNat_lt
  have h3 := b3.toNat_lt
  generalize (b0 :: b1 :: b2 :: b3 :: rest) = bs at *
  generalize b0.toNat = x0 at *
  generalize b1.toNat = x1 at *
  generalize b2.toNat = x2 at *
  generalize b3.toNat = x3 at *
  clear hcc hcell h hb
  have l0 : 0 < bs.length := by omega
  have l1 : (1 : Int) < (bs.length : Int) := by omega
  have l2 : (2 : Int) < (bs.length : Int) := by omega
  have l3 : (3 : Int) < (bs.length : Int) := by omega
  go_enter Tryd.func70, Tryd.ntmps70
  go_wp2_with fail
  obtain ⟨wd, hwd⟩ : ∃ wd, wd = w.drew := ⟨_, rfl⟩
  have HX := Lib.hid (show Ext w wd from by rw [hwd]; exact Ext.drew w)
  refine region_walkN (Ext wd) (by rw [← hwd]; exact Ext.refl _) (by kernel_rfl) (by kernel_rfl) (fun _ _ d _ _ h => by cases d <;> exact h) ?_
  rw [← hwd]
  have g0 : ∀ W, Ext wd W → W.cell? ⟨b, off, none⟩ = some (.int .u8 x0) := fun W h => (HX.out.trans h).cell (a := ⟨b, off, none⟩) c0
  have g1 : ∀ W, Ext wd W → W.cell? ⟨b, off + 1, none⟩ = some (.int .u8 x1) := fun W h => (HX.out.trans h).cell (a := ⟨b, off + 1, none⟩) c1
  have g2 : ∀ W, Ext wd W → W.cell? ⟨b, off + 2, none⟩ = some (.int .u8 x2) := fun W h => (HX.out.trans h).cell (a := ⟨b, off + 2, none⟩) c2
  have g3 : ∀ W, Ext wd W → W.cell? ⟨b, off + 3, none⟩ = some (.int .u8 x3) := fun W h => (HX.out.trans h).cell (a := ⟨b, off + 3, none⟩) c3
  clear hwd c0 c1 c2 c3
  ((refine WalkN.take 0 _ ?_ (by simp only [List.getElem?_toArray, List.getElem?_cons_zero]; rfl) (by kernel_rfl) (by kernel_rfl) (by rfl) (fun W hW => ?_) ?_; rotate_left; · (go_simp; try with_reducible rfl)); simp only [Act.put, List.setIfInBounds_toArray, List.set_cons_zero, List.set_cons_succ]); ((refine WalkN.take 1 _ ?_ (by simp only [List.getElem?_toArray, List.getElem?_cons_succ, List.getElem?_cons_zero]; rfl) (by kernel_rfl) (by kernel_rfl) (by rfl) (fun W hW => ?_) ?_; rotate_left; · (go_simp; try with_reducible rfl)); simp only [Act.put, List.setIfInBounds_toArray, List.set_cons_zero, List.set_cons_succ]); ((refine WalkN.take 2 _ ?_ (by simp only [List.getElem?_toArray, List.getElem?_cons_succ, List.getElem?_cons_zero]; rfl) (by kernel_rfl) (by kernel_rfl) (by rfl) (fun W hW => ?_) ?_; rotate_left; · (go_simp; try with_reducible rfl)); simp only [Act.put, List.setIfInBounds_toArray, List.set_cons_zero, List.set_cons_succ]); ((refine WalkN.take 3 _ ?_ (by simp only [List.getElem?_toArray, List.getElem?_cons_succ, List.getElem?_cons_zero]; rfl) (by kernel_rfl) (by kernel_rfl) (by rfl) (fun W hW => ?_) ?_; rotate_left; · (go_simp; try with_reducible rfl)); simp only [Act.put, List.setIfInBounds_toArray, List.set_cons_zero, List.set_cons_succ]); ((refine WalkN.take 4 _ ?_ (by simp only [List.getElem?_toArray, List.getElem?_cons_succ, List.getElem?_cons_zero]; rfl) (by kernel_rfl) (by kernel_rfl) (by rfl) (fun W hW => ?_) ?_; rotate_left; · (go_simp; try with_reducible rfl)); simp only [Act.put, List.setIfInBounds_toArray, List.set_cons_zero, List.set_cons_succ]); ((refine WalkN.take 5 _ ?_ (by simp only [List.getElem?_toArray, List.getElem?_cons_succ, List.getElem?_cons_zero]; rfl) (by kernel_rfl) (by kernel_rfl) (by rfl) (fun W hW => ?_) ?_; rotate_left; · (go_simp; try with_reducible rfl)); simp only [Act.put, List.setIfInBounds_toArray, List.set_cons_zero, List.set_cons_succ]); ((refine WalkN.take 6 _ ?_ (by simp only [List.getElem?_toArray, List.getElem?_cons_succ, List.getElem?_cons_zero]; rfl) (by kernel_rfl) (by kernel_rfl) (by rfl) (fun W hW => ?_) ?_; rotate_left; · (go_simp; try with_reducible rfl)); simp only [Act.put, List.setIfInBounds_toArray, List.set_cons_zero, List.set_cons_succ]); ((refine WalkN.take 7 _ ?_ (by simp only [List.getElem?_toArray, List.getElem?_cons_succ, List.getElem?_cons_zero]; rfl) (by kernel_rfl) (by kernel_rfl) (by rfl) (fun W hW => ?_) ?_; rotate_left; · (go_simp; try with_reducible rfl)); simp only [Act.put, List.setIfInBounds_toArray, List.set_cons_zero, List.set_cons_succ]); ((refine WalkN.take 8 _ ?_ (by simp only [List.getElem?_toArray, List.getElem?_cons_succ, List.getElem?_cons_zero]; rfl) (by kernel_rfl) (by kernel_rfl) (by rfl) (fun W hW => ?_) ?_; rotate_left; · (go_simp; try with_reducible rfl)); simp only [Act.put, List.setIfInBounds_toArray, List.set_cons_zero, List.set_cons_succ]); ((refine WalkN.take 9 _ ?_ (by simp only [List.getElem?_toArray, List.getElem?_cons_succ, List.getElem?_cons_zero]; rfl) (by kernel_rfl) (by kernel_rfl) (by rfl) (fun W hW => ?_) ?_; rotate_left; · (go_simp; try with_reducible rfl)); simp only [Act.put, List.setIfInBounds_toArray, List.set_cons_zero, List.set_cons_succ]); ((refine WalkN.take 10 _ ?_ (by simp only [List.getElem?_toArray, List.getElem?_cons_succ, List.getElem?_cons_zero]; rfl) (by kernel_rfl) (by kernel_rfl) (by rfl) (fun W hW => ?_) ?_; rotate_left; · (go_simp; try with_reducible rfl)); simp only [Act.put, List.setIfInBounds_toArray, List.set_cons_zero, List.set_cons_succ]); ((refine WalkN.take 11 _ ?_ (by simp only [List.getElem?_toArray, List.getElem?_cons_succ, List.getElem?_cons_zero]; rfl) (by kernel_rfl) (by kernel_rfl) (by rfl) (fun W hW => ?_) ?_; rotate_left; · (go_simp; try with_reducible rfl)); simp only [Act.put, List.setIfInBounds_toArray, List.set_cons_zero, List.set_cons_succ]); ((refine WalkN.take 12 _ ?_ (by simp only [List.getElem?_toArray, List.getElem?_cons_succ, List.getElem?_cons_zero]; rfl) (by kernel_rfl) (by kernel_rfl) (by rfl) (fun W hW => ?_) ?_; rotate_left; · (go_simp; try with_reducible rfl)); simp only [Act.put, List.setIfInBounds_toArray, List.set_cons_zero, List.set_cons_succ]); ((refine WalkN.take 13 _ ?_ (by simp only [List.getElem?_toArray, List.getElem?_cons_succ, List.getElem?_cons_zero]; rfl) (by kernel_rfl) (by kernel_rfl) (by rfl) (fun W hW => ?_) ?_; rotate_left; · (go_simp; try with_reducible rfl)); simp only [Act.put, List.setIfInBounds_toArray, List.set_cons_zero, List.set_cons_succ]); ((refine WalkN.take 14 _ ?_ (by simp only [List.getElem?_toArray, List.getElem?_cons_succ, List.getElem?_cons_zero]; rfl) (by kernel_rfl) (by kernel_rfl) (by rfl) (fun W hW => ?_) ?_; rotate_left; · (go_simp; try with_reducible rfl)); simp only [Act.put, List.setIfInBounds_toArray, List.set_cons_zero, List.set_cons_succ]); ((refine WalkN.take 15 _ ?_ (by simp only [List.getElem?_toArray, List.getElem?_cons_succ, List.getElem?_cons_zero]; rfl) (by kernel_rfl) (by kernel_rfl) (by rfl) (fun W hW => ?_) ?_; rotate_left; · (go_simp; try with_reducible rfl)); simp only [Act.put, List.setIfInBounds_toArray, List.set_cons_zero, List.set_cons_succ]); ((refine WalkN.take 16 _ ?_ (by simp only [List.getElem?_toArray, List.getElem?_cons_succ, List.getElem?_cons_zero]; rfl) (by kernel_rfl) (by kernel_rfl) (by rfl) (fun W hW => ?_) ?_; rotate_left; · (go_simp; try with_reducible rfl)); simp only [Act.put, List.setIfInBounds_toArray, List.set_cons_zero, List.set_cons_succ]); ((refine WalkN.take 17 _ ?_ (by simp only [List.getElem?_toArray, List.getElem?_cons_succ, List.getElem?_cons_zero]; rfl) (by kernel_rfl) (by kernel_rfl) (by rfl) (fun W hW => ?_) ?_; rotate_left; · (go_simp; try with_reducible rfl)); simp only [Act.put, List.setIfInBounds_toArray, List.set_cons_zero, List.set_cons_succ]); ((refine WalkN.take 18 _ ?_ (by simp only [List.getElem?_toArray, List.getElem?_cons_succ, List.getElem?_cons_zero]; rfl) (by kernel_rfl) (by kernel_rfl) (by rfl) (fun W hW => ?_) ?_; rotate_left; · (go_simp; try with_reducible rfl)); simp only [Act.put, List.setIfInBounds_toArray, List.set_cons_zero, List.set_cons_succ]); ((refine WalkN.take 19 _ ?_ (by simp only [List.getElem?_toArray, List.getElem?_cons_succ, List.getElem?_cons_zero]; rfl) (by kernel_rfl) (by kernel_rfl) (by rfl) (fun W hW => ?_) ?_; rotate_left; · (go_simp; try with_reducible rfl)); simp only [Act.put, List.setIfInBounds_toArray, List.set_cons_zero, List.set_cons_succ]); ((refine WalkN.take 20 _ ?_ (by simp only [List.getElem?_toArray, List.getElem?_cons_succ, List.getElem?_cons_zero]; rfl) (by kernel_rfl) (by kernel_rfl) (by rfl) (fun W hW => ?_) ?_; rotate_left; · (go_simp; try with_reducible rfl)); simp only [Act.put, List.setIfInBounds_toArray, List.set_cons_zero, List.set_cons_succ]); ((refine WalkN.take 21 _ ?_ (by simp only [List.getElem?_toArray, List.getElem?_cons_succ, List.getElem?_cons_zero]; rfl) (by kernel_rfl) (by kernel_rfl) (by rfl) (fun W hW => ?_) ?_; rotate_left; · (go_simp; try with_reducible rfl)); simp only [Act.put, List.setIfInBounds_toArray, List.set_cons_zero, List.set_cons_succ]); ((refine WalkN.take 22 _ ?_ (by simp only [List.getElem?_toArray, List.getElem?_cons_succ, List.getElem?_cons_zero]; rfl) (by kernel_rfl) (by kernel_rfl) (by rfl) (fun W hW => ?_) ?_; rotate_left; · (go_simp; try with_reducible rfl)); simp only [Act.put, List.setIfInBounds_toArray, List.set_cons_zero, List.set_cons_succ])
  refine WalkN.done (by kernel_rfl) ?_
  clear g0 g1 g2 g3
  have HV := Lib.hid (or4i x0 x1 x2 x3 h0 h1 h2 h3)
  go_wp2_with fail
  go_ret
  exact ⟨congrArg (fun z => Ending.returned (Value.int .i64 z)) (by rw [HL.out]; exact HV.out), HX.out⟩

end Go.Proofs.YtmmeofiocbfamaaDoor
namespace Go.Proofs.YtmmeofiocbfamaaDoor
open Go

/-- How many first bytes two texts share. -/
def comm : List UInt8 → List UInt8 → Nat
  | x :: a, y :: b => if x = y then comm a b + 1 else 0
  | _, _ => 0
theorem comm_le : ∀ a b : List UInt8, comm a b ≤ a.length ∧ comm a b ≤ b.length
  | [], _ => by simp [comm]
  | _ :: _, [] => by simp [comm]
  | x :: a, y :: b => by
    rw [comm]
    have := comm_le a b
    split <;> simp <;> omega
theorem comm_take : ∀ a b : List UInt8, a.take (comm a b) = b.take (comm a b)
  | [], b => by cases b <;> simp [comm]
  | _ :: _, [] => by simp [comm]
  | x :: a, y :: b => by
    rw [comm]
    split
    · rename_i h
      subst h
      rw [List.take_succ_cons, List.take_succ_cons, comm_take a b]
    · simp
/-- A key, as a block has it behind another one. -/
def blkN (i : Nat) (last k : List UInt8) : Nat := if i % 16 = 0 then 0 else comm last k
def blkK (i : Nat) (last k : List UInt8) : List UInt8 := putB (blkN i last k) ++ putT (k.drop (blkN i last k))
def blkL : Nat → List UInt8 → List (List UInt8) → List UInt8
  | _, _, [] => []
  | i, last, k :: ks => blkK i last k ++ blkL (i + 1) k ks
theorem blkL_snoc : ∀ (i : Nat) (last : List UInt8) (ks : List (List UInt8)) (k : List UInt8), blkL i last (ks ++ [k]) = blkL i last ks ++ blkK (i + ks.length) (ks.getLast?.getD last) k
  | i, last, [], k => by simp [blkL]
  | i, last, a :: ks, k => by
    rw [List.cons_append, blkL, blkL, blkL_snoc, List.append_assoc, List.length_cons]
    have e : (a :: ks).getLast?.getD last = ks.getLast?.getD a := by
      cases ks with
      | nil => rfl
      | cons b ks => rw [List.getLast?_cons_cons]; cases h : (b :: ks).getLast? <;> simp_all
    rw [e, show i + 1 + ks.length = i + (ks.length + 1) from by omega]
/-- The places of whole keys. -/
def endsL : Nat → Nat → List UInt8 → List (List UInt8) → List Nat
  | _, _, _, [] => []
  | i, at_, last, k :: ks => (if i % 16 = 0 then [at_] else []) ++ endsL (i + 1) (at_ + (blkK i last k).length) k ks
/-- What a key's bytes tell: the key behind another one, and how many bytes. -/
def nextD (bs last : List UInt8) : Option (List UInt8 × Nat) :=
  if (getG bs 0 0).2.2 ≠ 0 ∨ last.length < (getG bs 0 0).1 then none
  else if (getT (bs.drop (getG bs 0 0).2.1)).2.2 ≠ 0 then none
  else some (last.take (getG bs 0 0).1 ++ (getT (bs.drop (getG bs 0 0).2.1)).1, (getG bs 0 0).2.1 + (getT (bs.drop (getG bs 0 0).2.1)).2.1)
theorem getT_put (s rest : List UInt8) (h : U64 s.length) : getT (putT s ++ rest) = (s, (putT s).length, 0) := by
  unfold getT putT
  rw [List.append_assoc, getG_put s.length h]
  dsimp only
  rw [if_neg (by simp), if_neg (by simp only [List.length_append]; omega)]
  rw [List.drop_left, List.take_left, List.length_append]
theorem nextD_put (i : Nat) (last k rest : List UInt8) (hl : U64 last.length) (hk : U64 k.length) : nextD (blkK i last k ++ rest) last = some (k, (blkK i last k).length) := by
  have h1 : blkN i last k ≤ last.length ∧ blkN i last k ≤ k.length := by
    unfold blkN
    split
    · simp
    · exact comm_le last k
  have h2 : last.take (blkN i last k) = k.take (blkN i last k) := by
    unfold blkN
    split
    · simp
    · exact comm_take last k
  have hg : getG (blkK i last k ++ rest) 0 0 = (blkN i last k, (putB (blkN i last k)).length, 0) := by
    unfold blkK
    rw [List.append_assoc]
    exact getG_put _ (Nat.lt_of_le_of_lt h1.1 hl) _
  have hd : (blkK i last k ++ rest).drop (putB (blkN i last k)).length = putT (k.drop (blkN i last k)) ++ rest := by
    unfold blkK
    rw [List.append_assoc, List.drop_left]
  unfold nextD
  rw [hg]
  dsimp only
  rw [if_neg (by simp; omega), hd, getT_put _ _ (by rw [List.length_drop]; exact Nat.lt_of_le_of_lt (Nat.sub_le _ _) hk)]
  dsimp only
  rw [if_neg (by simp), h2, List.take_append_drop]
  congr 2
  unfold blkK
  rw [List.length_append]
/-- All keys that bytes tell, one behind the other. -/
def keysF : Nat → List UInt8 → List UInt8 → Option (List (List UInt8))
  | 0, bs, _ => if bs = [] then some [] else none
  | f + 1, bs, last => if bs = [] then some [] else match nextD bs last with
    | none => none
    | some (k, m) => (keysF f (bs.drop m) k).map (k :: ·)
theorem blkK_pos (i : Nat) (last k : List UInt8) : 0 < (blkK i last k).length := by
  unfold blkK
  have := putB_pos (blkN i last k)
  rw [List.length_append]
  omega
theorem keysF_blk : ∀ (ks : List (List UInt8)) (i : Nat) (last : List UInt8) (f : Nat), ks.length ≤ f → U64 last.length → (∀ k ∈ ks, U64 k.length) → keysF f (blkL i last ks) last = some ks
  | [], i, last, f, _, _, _ => by cases f <;> simp [keysF, blkL]
  | k :: ks, i, last, 0, h, _, _ => by simp at h
  | k :: ks, i, last, f + 1, h, hl, hk => by
    rw [blkL, keysF, if_neg (by have := blkK_pos i last k; intro e; rw [List.append_eq_nil_iff] at e; rw [e.1] at this; simp at this), nextD_put i last k _ hl (hk k List.mem_cons_self)]
    dsimp only
    rw [List.drop_left, keysF_blk ks (i + 1) k f (by simpa using h) (hk k List.mem_cons_self) fun x hx => hk x (List.mem_cons_of_mem _ hx)]
    rfl

end Go.Proofs.YtmmeofiocbfamaaDoor
namespace Go.Proofs.YtmmeofiocbfamaaDoor
open Go Go.RowKit

theorem WalkN.skip {P : Program} {ops : Array Oper} {Q : Exit → Act → World → Prop} {S : World → Prop} {f : Nat} {l : Array Bool} {a : Act} {w : World} (i : Nat) (o : Oper) (ho : ops[i]? = some o) (hf : Region.free .any ops l i = true) (hr : (Region.ready .any ops l).contains i = true)
    (hw : Region.wanted o (yielded ops a.tmps) = false) (h : WalkN P ops Q S f (l.setIfInBounds i true) (a.put o.dst undef) w) : WalkN P ops Q S (f + 1) l a w :=
  .inr (.inl ⟨i, o, undef, ho, hf, hr, .inr ⟨hw, rfl⟩, h⟩)

theorem comm_step : ∀ (a b : List UInt8) (i : Nat), i ≤ comm a b → (ha : i < a.length) → (hb : i < b.length) → if a[i] = b[i] then i + 1 ≤ comm a b else comm a b = i
  | [], _, _, _, ha, _ => by simp at ha
  | _ :: _, [], _, _, _, hb => by simp at hb
  | x :: a, y :: b, 0, _, _, _ => by
    by_cases h : x = y
    · simp [comm, h]
    · simp [comm, h]
  | x :: a, y :: b, i + 1, h, ha, hb => by
    rw [comm] at h ⊢
    by_cases hxy : x = y
    · rw [if_pos hxy] at h ⊢
      have := comm_step a b i (by omega) (by simpa using ha) (by simpa using hb)
      simp only [List.getElem_cons_succ]
      split
      · next e => rw [if_pos e] at this; omega
      · next e => rw [if_neg e] at this; omega
    · rw [if_neg hxy] at h; omega

set_option maxRecDepth 100000 in
set_option maxHeartbeats 1000000 in
theorem common_any (s t : ByteArray) (w : World) (hs : s.size ≤ 1000000000) (ht : t.size ≤ 1000000000) :
    Calls Tryd.prog 65 #[.string s, .string t] w fun e w' => e = .returned (.int .i64 (comm s.data.toList t.data.toList)) ∧ Ext w w' := by
  have HC := Lib.hid (show ∀ i, i ≤ comm s.data.toList t.data.toList → (h1 : i < s.size) → (h2 : i < t.size) → if s[i] = t[i] then i + 1 ≤ comm s.data.toList t.data.toList else comm s.data.toList t.data.toList = i from fun i hi h1 h2 => by
    have := comm_step s.data.toList t.data.toList i hi (by simpa using h1) (by simpa using h2)
    simpa [ByteArray.getElem_eq_getElem_data] using this)
  have HL := Lib.hid (show comm s.data.toList t.data.toList ≤ s.size ∧ comm s.data.toList t.data.toList ≤ t.size from by have := comm_le s.data.toList t.data.toList; simpa using this)
  generalize comm s.data.toList t.data.toList = cm at *
  go_enter Tryd.func65, Tryd.ntmps65
  go_wp2_with fail
  go_loopw [5] (fun iv wr => ∃ i : Nat, i ≤ cm ∧ iv = .int .i64 i ∧ Ext w wr) (fun iv _ => cm - (intOf iv).toNat)
  case atStart => exact ⟨0, by omega, rfl, Ext.refl _⟩
  case round =>
    obtain ⟨i, hi, rfl, hx⟩ := hrel
    have HX := Lib.hid hx
    clear hx
    have HM := Lib.hid (show min (s.size : Int) (t.size : Int) = ((min s.size t.size : Nat) : Int) from by omega)
    have hms : min s.size t.size ≤ s.size ∧ min s.size t.size ≤ t.size := by omega
    have HMI := Lib.hid (show min s.size t.size = s.size ∨ min s.size t.size = t.size from by omega)
    generalize min s.size t.size = m at *
    have hmin := HM.out
    go_wp2_with fail
    obtain ⟨wd, hwd⟩ : ∃ wd, wd = wr.drew := ⟨_, rfl⟩
    have HXd := Lib.hid (show Ext w wd from by rw [hwd]; exact HX.out.trans (Ext.drew wr))
    refine region_walkN (Ext wd) (by rw [← hwd]; exact Ext.refl _) (by kernel_rfl) (by kernel_rfl) (fun _ _ d _ _ h => by cases d <;> exact h) ?_
    rw [← hwd]
    clear hwd
    by_cases hlt : i < m
    · have hi1 : i < s.size := by omega
      have hi2 : i < t.size := by omega
      have hc := HC.out i hi hi1 hi2
      by_cases he : s[i] = t[i]
      · rw [if_pos he] at hc
        have HCM := Lib.hid hc
        clear hc
        have hen : s[i].toNat = t[i].toNat := by rw [he]
        ((refine WalkN.take 0 _ ?_ (by simp only [List.getElem?_toArray, List.getElem?_cons_zero]; rfl) (by kernel_rfl) (by kernel_rfl) (by rfl) (fun W hW => ?_) ?_; rotate_left; · (go_simp; try with_reducible rfl)); simp only [Act.put, List.setIfInBounds_toArray, List.set_cons_zero, List.set_cons_succ]); ((refine WalkN.take 1 _ ?_ (by simp only [List.getElem?_toArray, List.getElem?_cons_succ, List.getElem?_cons_zero]; rfl) (by kernel_rfl) (by kernel_rfl) (by rfl) (fun W hW => ?_) ?_; rotate_left; · (go_simp; try with_reducible rfl)); simp only [Act.put, List.setIfInBounds_toArray, List.set_cons_zero, List.set_cons_succ]); ((refine WalkN.take 2 _ ?_ (by simp only [List.getElem?_toArray, List.getElem?_cons_succ, List.getElem?_cons_zero]; rfl) (by kernel_rfl) (by kernel_rfl) (by rfl) (fun W hW => ?_) ?_; rotate_left; · (go_simp; try with_reducible rfl)); simp only [Act.put, List.setIfInBounds_toArray, List.set_cons_zero, List.set_cons_succ]); ((refine WalkN.take 3 _ ?_ (by simp only [List.getElem?_toArray, List.getElem?_cons_succ, List.getElem?_cons_zero]; rfl) (by kernel_rfl) (by kernel_rfl) (by rfl) (fun W hW => ?_) ?_; rotate_left; · (go_simp; try with_reducible rfl)); simp only [Act.put, List.setIfInBounds_toArray, List.set_cons_zero, List.set_cons_succ]); ((refine WalkN.take 4 _ ?_ (by simp only [List.getElem?_toArray, List.getElem?_cons_succ, List.getElem?_cons_zero]; rfl) (by kernel_rfl) (by kernel_rfl) (by rfl) (fun W hW => ?_) ?_; rotate_left; · (go_simp; try with_reducible rfl)); simp only [Act.put, List.setIfInBounds_toArray, List.set_cons_zero, List.set_cons_succ]); ((refine WalkN.take 5 _ ?_ (by simp only [List.getElem?_toArray, List.getElem?_cons_succ, List.getElem?_cons_zero]; rfl) (by kernel_rfl) (by kernel_rfl) (by rfl) (fun W hW => ?_) ?_; rotate_left; · (go_simp; try with_reducible rfl)); simp only [Act.put, List.setIfInBounds_toArray, List.set_cons_zero, List.set_cons_succ]); ((refine WalkN.take 6 _ ?_ (by simp only [List.getElem?_toArray, List.getElem?_cons_succ, List.getElem?_cons_zero]; rfl) (by kernel_rfl) (by kernel_rfl) (by rfl) (fun W hW => ?_) ?_; rotate_left; · (go_simp; try with_reducible rfl)); simp only [Act.put, List.setIfInBounds_toArray, List.set_cons_zero, List.set_cons_succ]); ((refine WalkN.take 7 _ ?_ (by simp only [List.getElem?_toArray, List.getElem?_cons_succ, List.getElem?_cons_zero]; rfl) (by kernel_rfl) (by kernel_rfl) (by rfl) (fun W hW => ?_) ?_; rotate_left; · (go_simp; try with_reducible rfl)); simp only [Act.put, List.setIfInBounds_toArray, List.set_cons_zero, List.set_cons_succ]); ((refine WalkN.take 8 _ ?_ (by simp only [List.getElem?_toArray, List.getElem?_cons_succ, List.getElem?_cons_zero]; rfl) (by kernel_rfl) (by kernel_rfl) (by rfl) (fun W hW => ?_) ?_; rotate_left; · (go_simp; try with_reducible rfl)); simp only [Act.put, List.setIfInBounds_toArray, List.set_cons_zero, List.set_cons_succ]); ((refine WalkN.take 9 _ ?_ (by simp only [List.getElem?_toArray, List.getElem?_cons_succ, List.getElem?_cons_zero]; rfl) (by kernel_rfl) (by kernel_rfl) (by rfl) (fun W hW => ?_) ?_; rotate_left; · (go_simp; try with_reducible rfl)); simp only [Act.put, List.setIfInBounds_toArray, List.set_cons_zero, List.set_cons_succ]); ((refine WalkN.take 10 _ ?_ (by simp only [List.getElem?_toArray, List.getElem?_cons_succ, List.getElem?_cons_zero]; rfl) (by kernel_rfl) (by kernel_rfl) (by rfl) (fun W hW => ?_) ?_; rotate_left; · (go_simp; try with_reducible rfl)); simp only [Act.put, List.setIfInBounds_toArray, List.set_cons_zero, List.set_cons_succ]); ((refine WalkN.take 11 _ ?_ (by simp only [List.getElem?_toArray, List.getElem?_cons_succ, List.getElem?_cons_zero]; rfl) (by kernel_rfl) (by kernel_rfl) (by rfl) (fun W hW => ?_) ?_; rotate_left; · (go_simp; try with_reducible rfl)); simp only [Act.put, List.setIfInBounds_toArray, List.set_cons_zero, List.set_cons_succ]); ((refine WalkN.take 12 _ ?_ (by simp only [List.getElem?_toArray, List.getElem?_cons_succ, List.getElem?_cons_zero]; rfl) (by kernel_rfl) (by kernel_rfl) (by rfl) (fun W hW => ?_) ?_; rotate_left; · (go_simp; try with_reducible rfl)); simp only [Act.put, List.setIfInBounds_toArray, List.set_cons_zero, List.set_cons_succ]); ((refine WalkN.take 13 _ ?_ (by simp only [List.getElem?_toArray, List.getElem?_cons_succ, List.getElem?_cons_zero]; rfl) (by kernel_rfl) (by kernel_rfl) (by rfl) (fun W hW => ?_) ?_; rotate_left; · (go_simp; try with_reducible rfl)); simp only [Act.put, List.setIfInBounds_toArray, List.set_cons_zero, List.set_cons_succ]); ((refine WalkN.take 14 _ ?_ (by simp only [List.getElem?_toArray, List.getElem?_cons_succ, List.getElem?_cons_zero]; rfl) (by kernel_rfl) (by kernel_rfl) (by rfl) (fun W hW => ?_) ?_; rotate_left; · (go_simp; try with_reducible rfl)); simp only [Act.put, List.setIfInBounds_toArray, List.set_cons_zero, List.set_cons_succ]); ((refine WalkN.take 15 _ ?_ (by simp only [List.getElem?_toArray, List.getElem?_cons_succ, List.getElem?_cons_zero]; rfl) (by kernel_rfl) (by kernel_rfl) (by rfl) (fun W hW => ?_) ?_; rotate_left; · (go_simp; try with_reducible rfl)); simp only [Act.put, List.setIfInBounds_toArray, List.set_cons_zero, List.set_cons_succ])
        refine WalkN.done (by kernel_rfl) ?_
        go_wp2_with fail
        exact ⟨⟨i + 1, HCM.out, by go_num, HXd.out⟩, by have := HCM.out; simp [intOf]; omega⟩
      · rw [if_neg he] at hc
        have hen : ¬ ((s[i].toNat : Int) = (t[i].toNat : Int)) := fun e => he (UInt8.toNat_inj.1 (by omega))
        have heb : ((s[i].toNat : Int) == (t[i].toNat : Int)) = false := by simpa using hen
        obtain rfl : cm = i := hc
        clear he
        ((refine WalkN.take 0 _ ?_ (by simp only [List.getElem?_toArray, List.getElem?_cons_zero]; rfl) (by kernel_rfl) (by kernel_rfl) (by rfl) (fun W hW => ?_) ?_; rotate_left; · (go_simp; try with_reducible rfl)); simp only [Act.put, List.setIfInBounds_toArray, List.set_cons_zero, List.set_cons_succ]); ((refine WalkN.take 1 _ ?_ (by simp only [List.getElem?_toArray, List.getElem?_cons_succ, List.getElem?_cons_zero]; rfl) (by kernel_rfl) (by kernel_rfl) (by rfl) (fun W hW => ?_) ?_; rotate_left; · (go_simp; try with_reducible rfl)); simp only [Act.put, List.setIfInBounds_toArray, List.set_cons_zero, List.set_cons_succ]); ((refine WalkN.take 2 _ ?_ (by simp only [List.getElem?_toArray, List.getElem?_cons_succ, List.getElem?_cons_zero]; rfl) (by kernel_rfl) (by kernel_rfl) (by rfl) (fun W hW => ?_) ?_; rotate_left; · (go_simp; try with_reducible rfl)); simp only [Act.put, List.setIfInBounds_toArray, List.set_cons_zero, List.set_cons_succ]); ((refine WalkN.take 3 _ ?_ (by simp only [List.getElem?_toArray, List.getElem?_cons_succ, List.getElem?_cons_zero]; rfl) (by kernel_rfl) (by kernel_rfl) (by rfl) (fun W hW => ?_) ?_; rotate_left; · (go_simp; try with_reducible rfl)); simp only [Act.put, List.setIfInBounds_toArray, List.set_cons_zero, List.set_cons_succ]); ((refine WalkN.take 4 _ ?_ (by simp only [List.getElem?_toArray, List.getElem?_cons_succ, List.getElem?_cons_zero]; rfl) (by kernel_rfl) (by kernel_rfl) (by rfl) (fun W hW => ?_) ?_; rotate_left; · (go_simp; try with_reducible rfl)); simp only [Act.put, List.setIfInBounds_toArray, List.set_cons_zero, List.set_cons_succ]); ((refine WalkN.take 5 _ ?_ (by simp only [List.getElem?_toArray, List.getElem?_cons_succ, List.getElem?_cons_zero]; rfl) (by kernel_rfl) (by kernel_rfl) (by rfl) (fun W hW => ?_) ?_; rotate_left; · (go_simp; try with_reducible rfl)); simp only [Act.put, List.setIfInBounds_toArray, List.set_cons_zero, List.set_cons_succ]); ((refine WalkN.take 6 _ ?_ (by simp only [List.getElem?_toArray, List.getElem?_cons_succ, List.getElem?_cons_zero]; rfl) (by kernel_rfl) (by kernel_rfl) (by rfl) (fun W hW => ?_) ?_; rotate_left; · (go_simp; try with_reducible rfl)); simp only [Act.put, List.setIfInBounds_toArray, List.set_cons_zero, List.set_cons_succ]); ((refine WalkN.take 7 _ ?_ (by simp only [List.getElem?_toArray, List.getElem?_cons_succ, List.getElem?_cons_zero]; rfl) (by kernel_rfl) (by kernel_rfl) (by rfl) (fun W hW => ?_) ?_; rotate_left; · (go_simp; try with_reducible rfl)); simp only [Act.put, List.setIfInBounds_toArray, List.set_cons_zero, List.set_cons_succ]); ((refine WalkN.take 8 _ ?_ (by simp only [List.getElem?_toArray, List.getElem?_cons_succ, List.getElem?_cons_zero]; rfl) (by kernel_rfl) (by kernel_rfl) (by rfl) (fun W hW => ?_) ?_; rotate_left; · (go_simp; try with_reducible rfl)); simp only [Act.put, List.setIfInBounds_toArray, List.set_cons_zero, List.set_cons_succ]); ((refine WalkN.take 9 _ ?_ (by simp only [List.getElem?_toArray, List.getElem?_cons_succ, List.getElem?_cons_zero]; rfl) (by kernel_rfl) (by kernel_rfl) (by rfl) (fun W hW => ?_) ?_; rotate_left; · (go_simp; try with_reducible rfl)); simp only [Act.put, List.setIfInBounds_toArray, List.set_cons_zero, List.set_cons_succ]); ((refine WalkN.take 10 _ ?_ (by simp only [List.getElem?_toArray, List.getElem?_cons_succ, List.getElem?_cons_zero]; rfl) (by kernel_rfl) (by kernel_rfl) (by rfl) (fun W hW => ?_) ?_; rotate_left; · (go_simp; try with_reducible rfl)); simp only [Act.put, List.setIfInBounds_toArray, List.set_cons_zero, List.set_cons_succ]); ((refine WalkN.take 11 _ ?_ (by simp only [List.getElem?_toArray, List.getElem?_cons_succ, List.getElem?_cons_zero]; rfl) (by kernel_rfl) (by kernel_rfl) (by rfl) (fun W hW => ?_) ?_; rotate_left; · (go_simp; try with_reducible rfl)); simp only [Act.put, List.setIfInBounds_toArray, List.set_cons_zero, List.set_cons_succ]); ((refine WalkN.take 12 _ ?_ (by simp only [List.getElem?_toArray, List.getElem?_cons_succ, List.getElem?_cons_zero]; rfl) (by kernel_rfl) (by kernel_rfl) (by rfl) (fun W hW => ?_) ?_; rotate_left; · (go_simp; try with_reducible rfl)); simp only [Act.put, List.setIfInBounds_toArray, List.set_cons_zero, List.set_cons_succ]); ((refine WalkN.take 13 _ ?_ (by simp only [List.getElem?_toArray, List.getElem?_cons_succ, List.getElem?_cons_zero]; rfl) (by kernel_rfl) (by kernel_rfl) (by rfl) (fun W hW => ?_) ?_; rotate_left; · (go_simp; try with_reducible rfl)); simp only [Act.put, List.setIfInBounds_toArray, List.set_cons_zero, List.set_cons_succ]); ((refine WalkN.take 14 _ ?_ (by simp only [List.getElem?_toArray, List.getElem?_cons_succ, List.getElem?_cons_zero]; rfl) (by kernel_rfl) (by kernel_rfl) (by rfl) (fun W hW => ?_) ?_; rotate_left; · (go_simp; try with_reducible rfl)); simp only [Act.put, List.setIfInBounds_toArray, List.set_cons_zero, List.set_cons_succ]); ((refine WalkN.take 15 _ ?_ (by simp only [List.getElem?_toArray, List.getElem?_cons_succ, List.getElem?_cons_zero]; rfl) (by kernel_rfl) (by kernel_rfl) (by rfl) (fun W hW => ?_) ?_; rotate_left; · (go_simp; try with_reducible rfl)); simp only [Act.put, List.setIfInBounds_toArray, List.set_cons_zero, List.set_cons_succ])
        refine WalkN.done (by kernel_rfl) ?_
        go_wp2_with fail
        go_ret
        exact ⟨rfl, HXd.out⟩
    · obtain rfl : cm = i := by
        have := HMI.out
        have := HL.out
        omega
      have hlt2 : ¬ ((cm : Int) < (m : Int)) := by omega
      ((refine WalkN.take 0 _ ?_ (by simp only [List.getElem?_toArray, List.getElem?_cons_zero]; rfl) (by kernel_rfl) (by kernel_rfl) (by rfl) (fun W hW => ?_) ?_; rotate_left; · (go_simp; try with_reducible rfl)); simp only [Act.put, List.setIfInBounds_toArray, List.set_cons_zero, List.set_cons_succ]); ((refine WalkN.take 1 _ ?_ (by simp only [List.getElem?_toArray, List.getElem?_cons_succ, List.getElem?_cons_zero]; rfl) (by kernel_rfl) (by kernel_rfl) (by rfl) (fun W hW => ?_) ?_; rotate_left; · (go_simp; try with_reducible rfl)); simp only [Act.put, List.setIfInBounds_toArray, List.set_cons_zero, List.set_cons_succ]); ((refine WalkN.take 2 _ ?_ (by simp only [List.getElem?_toArray, List.getElem?_cons_succ, List.getElem?_cons_zero]; rfl) (by kernel_rfl) (by kernel_rfl) (by rfl) (fun W hW => ?_) ?_; rotate_left; · (go_simp; try with_reducible rfl)); simp only [Act.put, List.setIfInBounds_toArray, List.set_cons_zero, List.set_cons_succ]); ((refine WalkN.take 3 _ ?_ (by simp only [List.getElem?_toArray, List.getElem?_cons_succ, List.getElem?_cons_zero]; rfl) (by kernel_rfl) (by kernel_rfl) (by rfl) (fun W hW => ?_) ?_; rotate_left; · (go_simp; try with_reducible rfl)); simp only [Act.put, List.setIfInBounds_toArray, List.set_cons_zero, List.set_cons_succ]); ((refine WalkN.take 4 _ ?_ (by simp only [List.getElem?_toArray, List.getElem?_cons_succ, List.getElem?_cons_zero]; rfl) (by kernel_rfl) (by kernel_rfl) (by rfl) (fun W hW => ?_) ?_; rotate_left; · (go_simp; try with_reducible rfl)); simp only [Act.put, List.setIfInBounds_toArray, List.set_cons_zero, List.set_cons_succ]); ((refine WalkN.take 5 _ ?_ (by simp only [List.getElem?_toArray, List.getElem?_cons_succ, List.getElem?_cons_zero]; rfl) (by kernel_rfl) (by kernel_rfl) (by rfl) (fun W hW => ?_) ?_; rotate_left; · (go_simp; try with_reducible rfl)); simp only [Act.put, List.setIfInBounds_toArray, List.set_cons_zero, List.set_cons_succ]); ((refine WalkN.take 6 _ ?_ (by simp only [List.getElem?_toArray, List.getElem?_cons_succ, List.getElem?_cons_zero]; rfl) (by kernel_rfl) (by kernel_rfl) (by rfl) (fun W hW => ?_) ?_; rotate_left; · (go_simp; try with_reducible rfl)); simp only [Act.put, List.setIfInBounds_toArray, List.set_cons_zero, List.set_cons_succ]); ((refine WalkN.take 7 _ ?_ (by simp only [List.getElem?_toArray, List.getElem?_cons_succ, List.getElem?_cons_zero]; rfl) (by kernel_rfl) (by kernel_rfl) (by rfl) (fun W hW => ?_) ?_; rotate_left; · (go_simp; try with_reducible rfl)); simp only [Act.put, List.setIfInBounds_toArray, List.set_cons_zero, List.set_cons_succ])
      (refine WalkN.skip 8 _ (by simp only [List.getElem?_toArray, List.getElem?_cons_succ, List.getElem?_cons_zero]; rfl) (by kernel_rfl) (by kernel_rfl) (by rfl) ?_; simp only [Act.put, List.setIfInBounds_toArray, List.set_cons_zero, List.set_cons_succ]); (refine WalkN.skip 9 _ (by simp only [List.getElem?_toArray, List.getElem?_cons_succ, List.getElem?_cons_zero]; rfl) (by kernel_rfl) (by kernel_rfl) (by rfl) ?_; simp only [Act.put, List.setIfInBounds_toArray, List.set_cons_zero, List.set_cons_succ]); (refine WalkN.skip 10 _ (by simp only [List.getElem?_toArray, List.getElem?_cons_succ, List.getElem?_cons_zero]; rfl) (by kernel_rfl) (by kernel_rfl) (by rfl) ?_; simp only [Act.put, List.setIfInBounds_toArray, List.set_cons_zero, List.set_cons_succ]); (refine WalkN.skip 11 _ (by simp only [List.getElem?_toArray, List.getElem?_cons_succ, List.getElem?_cons_zero]; rfl) (by kernel_rfl) (by kernel_rfl) (by rfl) ?_; simp only [Act.put, List.setIfInBounds_toArray, List.set_cons_zero, List.set_cons_succ]); (refine WalkN.skip 12 _ (by simp only [List.getElem?_toArray, List.getElem?_cons_succ, List.getElem?_cons_zero]; rfl) (by kernel_rfl) (by kernel_rfl) (by rfl) ?_; simp only [Act.put, List.setIfInBounds_toArray, List.set_cons_zero, List.set_cons_succ]); (refine WalkN.skip 13 _ (by simp only [List.getElem?_toArray, List.getElem?_cons_succ, List.getElem?_cons_zero]; rfl) (by kernel_rfl) (by kernel_rfl) (by rfl) ?_; simp only [Act.put, List.setIfInBounds_toArray, List.set_cons_zero, List.set_cons_succ]); (refine WalkN.skip 14 _ (by simp only [List.getElem?_toArray, List.getElem?_cons_succ, List.getElem?_cons_zero]; rfl) (by kernel_rfl) (by kernel_rfl) (by rfl) ?_; simp only [Act.put, List.setIfInBounds_toArray, List.set_cons_zero, List.set_cons_succ])
      ((refine WalkN.take 15 _ ?_ (by simp only [List.getElem?_toArray, List.getElem?_cons_succ, List.getElem?_cons_zero]; rfl) (by kernel_rfl) (by kernel_rfl) (by rfl) (fun W hW => ?_) ?_; rotate_left; · (go_simp; try with_reducible rfl)); simp only [Act.put, List.setIfInBounds_toArray, List.set_cons_zero, List.set_cons_succ])
      refine WalkN.done (by kernel_rfl) ?_
      go_wp2_with fail
      go_ret
      exact ⟨rfl, HXd.out⟩

end Go.Proofs.YtmmeofiocbfamaaDoor
