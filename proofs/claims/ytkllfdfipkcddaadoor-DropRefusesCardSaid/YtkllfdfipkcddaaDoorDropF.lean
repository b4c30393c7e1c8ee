/- The walks of drop.Keep, drop.At and drop.Newest. No condition: lemmas. -/
import Derived.Test.YtkllfdfipkcddaaDoorDropE
namespace Go.Proofs.YtkllfdfipkcddaaDoor
open Go Go.RowKit

/-- A row's keys with the entries that they tell. -/
def pairs (l : List ByteArray) : List (ByteArray × Ent) := l.filterMap fun k => (deco k).map fun x => (k, x)
theorem pairs_take (l : List ByteArray) (i : Nat) (hi : i < l.length) (x : Ent) (h : deco l[i] = some x) : pairs (l.take (i + 1)) = pairs (l.take i) ++ [(l[i], x)] := by
  rw [List.take_succ_eq_append_getElem hi]; simp only [pairs, List.filterMap_append, List.filterMap_cons, h, List.filterMap_nil, Option.map_some]
theorem pairs_len_le (l : List ByteArray) : (pairs l).length ≤ l.length := List.length_filterMap_le _ _
abbrev s0 : St := (ByteArray.empty, false, false)
theorem fold_len {f : St × List ByteArray → ByteArray × Ent → St × List ByteArray} (hf : ∀ a y, (f a y).2.length ≤ a.2.length + 1) : ∀ (ys : List (ByteArray × Ent)) (a : St × List ByteArray), (ys.foldl f a).2.length ≤ a.2.length + ys.length
  | [], a => by simp
  | y :: ys, a => by
    have h1 := fold_len hf ys (f a y)
    have h2 := hf a y
    simp only [List.foldl_cons, List.length_cons]
    omega
theorem keepF_len (floor : Nat) (bottom : Bool) (a : St × List ByteArray) (y : ByteArray × Ent) : (keepF floor bottom a y).2.length ≤ a.2.length + 1 := by
  unfold keepF; dsimp only; split <;> simp
theorem atF_len (rev : Nat) (a : St × List ByteArray) (y : ByteArray × Ent) : (atF rev a y).2.length ≤ a.2.length + 1 := by
  unfold atF; dsimp only; split <;> simp
theorem acc_len {f : St × List ByteArray → ByteArray × Ent → St × List ByteArray} (hf : ∀ a y, (f a y).2.length ≤ a.2.length + 1) (l : List ByteArray) (n : Nat) : ((pairs (l.take n)).foldl f (s0, [])).2.length ≤ l.length := by
  have h1 := fold_len hf (pairs (l.take n)) (s0, [])
  have h2 := pairs_len_le (l.take n)
  rw [List.length_take] at h2
  simp only [List.length_nil] at h1
  omega

/-- P18.1: what drop.Keep keeps; what drop.At tells. -/
def keepL (floor : Nat) (bottom : Bool) (l : List ByteArray) : List ByteArray := ((pairs l).foldl (keepF floor bottom) (s0, [])).2
def atL (rev : Nat) (l : List ByteArray) : List ByteArray := ((pairs l).foldl (atF rev) (s0, [])).2
def newL (l : List ByteArray) : Nat := (pairs l).foldl (fun n y => max n y.2.2.1) 0

theorem Below.spares {M B0 Bw bF bO : Nat} {w w' : World} (h : Kept (fun b => b < M ∧ b ≠ bF ∧ b ≠ bO) w w') (hF : B0 ≤ bF ∧ bF < Bw) (hO : B0 ≤ bO ∧ bO < Bw) (hM : Bw ≤ M) : Spares B0 Bw M w w' :=
  ⟨h.below fun b hb => ⟨by omega, by omega, by omega⟩, fun b h1 h2 => h.block b ⟨h2, by omega, by omega⟩⟩

/-- What a call that answers with a row and an error returns. -/
def RetL (l : List ByteArray) (n : Nat) (w : World) (e : Ending) (w' : World) : Prop := ∃ v, e = .returned (.tuple #[v, .int .i64 n]) ∧ Sl (· < w'.heap.size) w' 1 v (sc l) ∧ Below w.heap.size w w'

open Classical in
noncomputable def keepR (floor : Nat) (bottom : Bool) (l : List ByteArray) : List ByteArray := if codeOf l = 0 then keepL floor bottom l else []
open Classical in
noncomputable def atR (rev : Nat) (l : List ByteArray) : List ByteArray := if codeOf l = 0 then atL rev l else []
open Classical in
noncomputable def newR (l : List ByteArray) : Nat := if codeOf l = 0 then newL l else 0

theorem Blk.made' {w : World} {B : Nat} (h : w.heap.size = B) (cs : Array Value) (e : TypeId) : Blk (w.alloc (.cells cs e)) B cs e := h ▸ Blk.made w cs e

/-- What drop.Keep's function value keeps up. -/
def KeepI (l : List ByteArray) (floor : Nat) (bottom : Bool) (b M n : Nat) (W : World) : Prop :=
  Blk W b #[.int .u64 floor] 23 ∧ Blk W (b + 1) #[.bool bottom] 4 ∧ Blk W (b + 4) #[.pointer (some ⟨b + 3, 0, none⟩)] 67 ∧
    Blk W (b + 3) (firstC floor ((pairs (l.take n)).foldl (keepF floor bottom) (s0, [])).1) 69 ∧
    ∃ v, Blk W (b + 2) #[v] 45 ∧ Own W M 9 1 v (sc ((pairs (l.take n)).foldl (keepF floor bottom) (s0, [])).2)

theorem keep_round {l : List ByteArray} {floor : Nat} {bottom : Bool} {b Bw M n : Nat} {W : World} (hl : l.length ≤ 1000000) (hb : b + 5 = Bw) (hM : Bw ≤ M) (hMW : M ≤ W.heap.size) (hn : n < l.length) (e : Ent) (hd : deco l[n] = some e) (hI : KeepI l floor bottom b M n W) :
    Calls Tryd.prog 39 (#[.string l[n], .agg #[.string e.1, .int .u64 e.2.1, .bool e.2.2]] ++ #[.pointer (some ⟨b + 4, 0, none⟩), .pointer (some ⟨b, 0, none⟩), .pointer (some ⟨b + 1, 0, none⟩), .pointer (some ⟨b + 2, 0, none⟩)]) W fun en W' =>
      en = .returned (.tuple #[]) ∧ KeepI l floor bottom b M (n + 1) W' ∧ Spares b Bw M W W' := by
  obtain ⟨hA, hB, hP, hF, hO⟩ := hI
  refine (keep1_any M b (b + 1) (b + 4) (b + 3) (b + 2) floor bottom _ l[n] e W hA hB hP hF hO hMW ⟨by omega, by omega, by omega, by omega, by omega⟩ ⟨by omega, by omega, by omega, by omega, by omega, by omega⟩ (Nat.le_trans (acc_len (keepF_len floor bottom) l n) hl)).mono ?_
  rintro en W' ⟨rfl, h⟩
  refine ⟨rfl, ⟨h.kept.blk hA ⟨by omega, by omega, by omega⟩, h.kept.blk hB ⟨by omega, by omega, by omega⟩, h.kept.blk hP ⟨by omega, by omega, by omega⟩, ?_, ?_⟩, Below.spares h.kept ⟨by omega, by omega⟩ ⟨by omega, by omega⟩ hM⟩
  · rw [pairs_take l n hn e hd, List.foldl_append]; exact h.first
  · rw [pairs_take l n hn e hd, List.foldl_append]; exact h.out

set_option maxRecDepth 100000 in
set_option maxHeartbeats 1600000 in
theorem dropKeep_any (x : Value) (l : List ByteArray) (floor : Nat) (bottom : Bool) (w : World) (henv : Env w) (hx : Sl (· < w.heap.size) w 1 x (sc l)) (hl : l.length ≤ 1000000) (hk : ∀ k ∈ l, k.size ≤ 10000000) :
    Calls Tryd.prog 27 #[x, .int .u64 floor, .bool bottom] w (RetL (keepR floor bottom l) (codeOf l) w) := by
  obtain ⟨b, hb⟩ : ∃ b, w.heap.size = b := ⟨_, rfl⟩
  go_enter Tryd.func27, Tryd.ntmps27
  go_wp2_with fail
  generalize hw1 : World.alloc _ _ = w1
  have hA := ((((Blk.made' hb #[Value.int IntKind.u64 floor] 23).alloc (Obj.cells #[Value.bool bottom] 4)).alloc (Obj.cells #[Value.slice none 0 0] 45)).alloc (Obj.cells #[Value.int IntKind.u64 floor, Value.string ⟨#[]⟩, Value.bool false, Value.bool false] 69)).alloc (Obj.cells #[Value.pointer (some ⟨b + 1 + 1 + 1, 0, none⟩)] 67)
  have hB := (((Blk.made' (w := w.alloc (Obj.cells #[Value.int IntKind.u64 floor] 23)) (B := b + 1) (by simp [hb]) #[Value.bool bottom] 4).alloc (Obj.cells #[Value.slice none 0 0] 45)).alloc (Obj.cells #[Value.int IntKind.u64 floor, Value.string ⟨#[]⟩, Value.bool false, Value.bool false] 69)).alloc (Obj.cells #[Value.pointer (some ⟨b + 1 + 1 + 1, 0, none⟩)] 67)
  have hO := ((Blk.made' (w := (w.alloc (Obj.cells #[Value.int IntKind.u64 floor] 23)).alloc (Obj.cells #[Value.bool bottom] 4)) (B := b + 2) (by simp [hb]) #[Value.slice none 0 0] 45).alloc (Obj.cells #[Value.int IntKind.u64 floor, Value.string ⟨#[]⟩, Value.bool false, Value.bool false] 69)).alloc (Obj.cells #[Value.pointer (some ⟨b + 1 + 1 + 1, 0, none⟩)] 67)
  have hF := (Blk.made' (w := ((w.alloc (Obj.cells #[Value.int IntKind.u64 floor] 23)).alloc (Obj.cells #[Value.bool bottom] 4)).alloc (Obj.cells #[Value.slice none 0 0] 45)) (B := b + 3) (by simp [hb]) #[Value.int IntKind.u64 floor, Value.string ⟨#[]⟩, Value.bool false, Value.bool false] 69).alloc (Obj.cells #[Value.pointer (some ⟨b + 1 + 1 + 1, 0, none⟩)] 67)
  have hP := Blk.made' (w := (((w.alloc (Obj.cells #[Value.int IntKind.u64 floor] 23)).alloc (Obj.cells #[Value.bool bottom] 4)).alloc (Obj.cells #[Value.slice none 0 0] 45)).alloc (Obj.cells #[Value.int IntKind.u64 floor, Value.string ⟨#[]⟩, Value.bool false, Value.bool false] 69)) (B := b + 4) (by simp [hb]) #[Value.pointer (some ⟨b + 1 + 1 + 1, 0, none⟩)] 67
  have hsz : w1.heap.size = b + 5 := by rw [← hw1]; simp [hb]
  have hb1 : Below b w w1 := by rw [← hw1, ← hb]; exact (((((Below.refl _ _).alloc (by simp) _).alloc (by simp <;> omega) _).alloc (by simp <;> omega) _).alloc (by simp <;> omega) _).alloc (by simp <;> omega) _
  rw [hw1] at hA hB hO hF hP
  clear hw1
  rw [hb] at hx
  have h01 : b ≤ w1.heap.size := by omega
  refine (walk_any x l 39 _ w1 b (henv.below (hb ▸ hb1)) h01 (hx.same (Same.below hb1)) hl hk (enters_of Tryd.func39 (by kernel_rfl) rfl) (KeepI l floor bottom b)
    (fun W hW => ⟨hA.below hW, hB.below hW, hP.below hW, hF.below hW, _, hO.below hW, Own.nil _ _ _ _⟩)
    (fun M n W hn e hd hI h1 h2 h3 => hsz ▸ keep_round hl rfl (by omega) h2 hn e hd hI)).mono ?_
  rintro e w2 ⟨rfl, hbel, hok, hno⟩
  obtain ⟨v, hO2, hS2⟩ : ∃ v, Blk w2 (b + 2) #[v] 45 ∧ Sl (· < w2.heap.size) w2 1 v (sc (keepR floor bottom l)) := by
    by_cases hc : codeOf l = 0
    · obtain ⟨M, hI⟩ := hok hc
      obtain ⟨_, _, _, _, v, h1, h2⟩ := hI
      refine ⟨v, h1, ?_⟩
      unfold keepR
      rw [if_pos hc]
      rw [List.take_length] at h2
      exact h2.sl.mono fun x hx => hx.2
    · refine ⟨_, hO.below (hno hc), ?_⟩
      unfold keepR
      rw [if_neg hc]
      exact Sl.nil _ _ _
  have HS := Lib.hid hS2
  obtain ⟨ao, m, c, rfl, _, _⟩ := hS2.len
  have hcO := hO2.cells
  have hbf := hb1.trans hbel
  rw [← hb] at hbf
  clear hA hB hO hF hP hS2
  subst hb
  go_wp2
  go_ret2
  exact ⟨_, rfl, HS.out, hbf⟩

/-- What drop.At's function value keeps up. -/
def AtI (l : List ByteArray) (rev : Nat) (b M n : Nat) (W : World) : Prop :=
  Blk W (b + 2) #[.pointer (some ⟨b + 1, 0, none⟩)] 67 ∧ Blk W (b + 1) (firstC rev ((pairs (l.take n)).foldl (atF rev) (s0, [])).1) 69 ∧
    ∃ v, Blk W b #[v] 45 ∧ Own W M 9 1 v (sc ((pairs (l.take n)).foldl (atF rev) (s0, [])).2)

theorem at_round {l : List ByteArray} {rev : Nat} {b Bw M n : Nat} {W : World} (hl : l.length ≤ 1000000) (hb : b + 3 = Bw) (hM : Bw ≤ M) (hMW : M ≤ W.heap.size) (hn : n < l.length) (e : Ent) (hd : deco l[n] = some e) (hI : AtI l rev b M n W) :
    Calls Tryd.prog 41 (#[.string l[n], .agg #[.string e.1, .int .u64 e.2.1, .bool e.2.2]] ++ #[.pointer (some ⟨b + 2, 0, none⟩), .pointer (some ⟨b, 0, none⟩)]) W fun en W' =>
      en = .returned (.tuple #[]) ∧ AtI l rev b M (n + 1) W' ∧ Spares b Bw M W W' := by
  obtain ⟨hP, hF, hO⟩ := hI
  refine (at1_any M (b + 2) (b + 1) b rev _ l[n] e W hP hF hO hMW ⟨by omega, by omega, by omega⟩ ⟨by omega, by omega⟩ (Nat.le_trans (acc_len (atF_len rev) l n) hl)).mono ?_
  rintro en W' ⟨rfl, h⟩
  refine ⟨rfl, ⟨h.kept.blk hP ⟨by omega, by omega, by omega⟩, ?_, ?_⟩, Below.spares h.kept ⟨by omega, by omega⟩ ⟨by omega, by omega⟩ hM⟩
  · rw [pairs_take l n hn e hd, List.foldl_append]; exact h.first
  · rw [pairs_take l n hn e hd, List.foldl_append]; exact h.out

set_option maxRecDepth 100000 in
set_option maxHeartbeats 1600000 in
theorem dropAt_any (x : Value) (l : List ByteArray) (rev : Nat) (w : World) (henv : Env w) (hx : Sl (· < w.heap.size) w 1 x (sc l)) (hl : l.length ≤ 1000000) (hk : ∀ k ∈ l, k.size ≤ 10000000) :
    Calls Tryd.prog 29 #[x, .int .u64 rev] w (RetL (atR rev l) (codeOf l) w) := by
  obtain ⟨b, hb⟩ : ∃ b, w.heap.size = b := ⟨_, rfl⟩
  go_enter Tryd.func29, Tryd.ntmps29
  go_wp2_with fail
  generalize hw1 : World.alloc _ _ = w1
  have hO := ((Blk.made' hb #[Value.slice none 0 0] 45).alloc (Obj.cells #[Value.int IntKind.u64 rev, Value.string ⟨#[]⟩, Value.bool false, Value.bool false] 69)).alloc (Obj.cells #[Value.pointer (some ⟨b + 1, 0, none⟩)] 67)
  have hF := (Blk.made' (w := w.alloc (Obj.cells #[Value.slice none 0 0] 45)) (B := b + 1) (by simp [hb]) #[Value.int IntKind.u64 rev, Value.string ⟨#[]⟩, Value.bool false, Value.bool false] 69).alloc (Obj.cells #[Value.pointer (some ⟨b + 1, 0, none⟩)] 67)
  have hP := Blk.made' (w := (w.alloc (Obj.cells #[Value.slice none 0 0] 45)).alloc (Obj.cells #[Value.int IntKind.u64 rev, Value.string ⟨#[]⟩, Value.bool false, Value.bool false] 69)) (B := b + 2) (by simp [hb]) #[Value.pointer (some ⟨b + 1, 0, none⟩)] 67
  have hsz : w1.heap.size = b + 3 := by rw [← hw1]; simp [hb]
  have hb1 : Below b w w1 := by rw [← hw1, ← hb]; exact (((Below.refl _ _).alloc (by simp) _).alloc (by simp <;> omega) _).alloc (by simp <;> omega) _
  rw [hw1] at hO hF hP
  clear hw1
  rw [hb] at hx
  have h01 : b ≤ w1.heap.size := by omega
  refine (walk_any x l 41 _ w1 b (henv.below (hb ▸ hb1)) h01 (hx.same (Same.below hb1)) hl hk (enters_of Tryd.func41 (by kernel_rfl) rfl) (AtI l rev b)
    (fun W hW => ⟨hP.below hW, hF.below hW, _, hO.below hW, Own.nil _ _ _ _⟩)
    (fun M n W hn e hd hI h1 h2 h3 => hsz ▸ at_round hl rfl (by omega) h2 hn e hd hI)).mono ?_
  rintro e w2 ⟨rfl, hbel, hok, hno⟩
  obtain ⟨v, hO2, hS2⟩ : ∃ v, Blk w2 b #[v] 45 ∧ Sl (· < w2.heap.size) w2 1 v (sc (atR rev l)) := by
    by_cases hc : codeOf l = 0
    · obtain ⟨M, hI⟩ := hok hc
      obtain ⟨_, _, v, h1, h2⟩ := hI
      refine ⟨v, h1, ?_⟩
      unfold atR
      rw [if_pos hc]
      rw [List.take_length] at h2
      exact h2.sl.mono fun x hx => hx.2
    · refine ⟨_, hO.below (hno hc), ?_⟩
      unfold atR
      rw [if_neg hc]
      exact Sl.nil _ _ _
  have HS := Lib.hid hS2
  obtain ⟨ao, m, c, rfl, _, _⟩ := hS2.len
  have hcO := hO2.cells
  have hbf := hb1.trans hbel
  rw [← hb] at hbf
  clear hO hF hP hS2
  subst hb
  go_wp2
  go_ret2
  exact ⟨_, rfl, HS.out, hbf⟩

/-- What drop.Newest's function value keeps up. -/
def NewI (l : List ByteArray) (b _M n : Nat) (W : World) : Prop := Blk W b #[.int .u64 ((pairs (l.take n)).foldl (fun n y => max n y.2.2.1) 0 : Nat)] 23

theorem new_round {l : List ByteArray} {b Bw M n : Nat} {W : World} (hb : b + 1 = Bw) (hM : Bw ≤ M) (hMW : M ≤ W.heap.size) (hn : n < l.length) (e : Ent) (hd : deco l[n] = some e) (hI : NewI l b M n W) :
    Calls Tryd.prog 42 (#[.string l[n], .agg #[.string e.1, .int .u64 e.2.1, .bool e.2.2]] ++ #[.pointer (some ⟨b, 0, none⟩)]) W fun en W' =>
      en = .returned (.tuple #[]) ∧ NewI l b M (n + 1) W' ∧ Spares b Bw M W W' := by
  refine (new1_any b _ l[n] e W hI).mono ?_
  rintro en W' ⟨rfl, h, hk⟩
  refine ⟨rfl, ?_, Below.spares (bF := b) (bO := b) (hk.mono fun x h => ⟨by omega, h.2.1⟩) ⟨by omega, by omega⟩ ⟨by omega, by omega⟩ hM⟩
  unfold NewI
  rw [pairs_take l n hn e hd, List.foldl_append]
  exact h

set_option maxRecDepth 100000 in
set_option maxHeartbeats 1600000 in
theorem dropNewest_any (x : Value) (l : List ByteArray) (w : World) (henv : Env w) (hx : Sl (· < w.heap.size) w 1 x (sc l)) (hl : l.length ≤ 1000000) (hk : ∀ k ∈ l, k.size ≤ 10000000) :
    Calls Tryd.prog 30 #[x] w fun e w' => e = .returned (.tuple #[.int .u64 (newR l), .int .i64 (codeOf l)]) ∧ Below w.heap.size w w' := by
  obtain ⟨b, hb⟩ : ∃ b, w.heap.size = b := ⟨_, rfl⟩
  go_enter Tryd.func30, Tryd.ntmps30
  go_wp2_with fail
  generalize hw1 : World.alloc _ _ = w1
  have hN := Blk.made' hb #[Value.int IntKind.u64 0] 23
  have hsz : w1.heap.size = b + 1 := by rw [← hw1]; simp [hb]
  have hb1 : Below b w w1 := by rw [← hw1, ← hb]; exact (Below.refl _ _).alloc (by simp) _
  rw [hw1] at hN
  clear hw1
  rw [hb] at hx
  have h01 : b ≤ w1.heap.size := by omega
  refine (walk_any x l 42 _ w1 b (henv.below (hb ▸ hb1)) h01 (hx.same (Same.below hb1)) hl hk (enters_of Tryd.func42 (by kernel_rfl) rfl) (NewI l b)
    (fun W hW => hN.below hW)
    (fun M n W hn e hd hI h1 h2 h3 => hsz ▸ new_round rfl (by omega) h2 hn e hd hI)).mono ?_
  rintro e w2 ⟨rfl, hbel, hok, hno⟩
  have hO2 : Blk w2 b #[.int .u64 (newR l)] 23 := by
    by_cases hc : codeOf l = 0
    · obtain ⟨M, hI⟩ := hok hc
      unfold NewI at hI
      rw [List.take_length] at hI
      unfold newR
      rw [if_pos hc]
      exact hI
    · unfold newR
      rw [if_neg hc]
      exact hN.below (hno hc)
  have hcO := hO2.cells
  have hbf := hb1.trans hbel
  rw [← hb] at hbf
  clear hN
  subst hb
  go_wp2
  go_ret2
  exact ⟨rfl, hbf⟩

end Go.Proofs.YtkllfdfipkcddaaDoor
