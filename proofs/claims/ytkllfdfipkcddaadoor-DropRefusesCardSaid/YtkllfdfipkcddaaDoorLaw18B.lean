/- sentrylaw18.fixed answers true. The contracts of drop's functions at rows of inner keys. No condition: lemmas. -/
import Derived.Test.YtkllfdfipkcddaaDoorPlainDropC
namespace Go.Proofs.YtkllfdfipkcddaaDoor
open Go Go.RowKit

/-- A row of inner keys that is not too long. -/
structure RowOk (l : List ByteArray) : Prop where
  good : Good l
  len : l.length ≤ 1000000
  sizes : ∀ k ∈ l, k.size ≤ 10000000

theorem innerA_size (x : Ent) (h : x.1.size ≤ 100) : (innerA x).size ≤ 10000000 := by
  have h1 : (innerA x).size = (innerB x.1.data.toList x.2.1 x.2.2).length := by simp [innerA, ByteArray.size]
  have h2 := esc_length x.1.data.toList
  rw [size_data] at h2
  rw [h1]
  simp only [innerB, List.length_append, List.length_cons, List.length_nil, be8]
  omega

theorem fewB_len {es : List Ent} (h : fewB es = true) : es.length ≤ 100 := by
  unfold fewB at h
  simp only [Bool.and_eq_true, decide_eq_true_eq] at h
  exact h.2
theorem fewB_key {es : List Ent} (h : fewB es = true) : ∀ e ∈ es, e.1.size ≤ 100 := by
  unfold fewB at h
  simp only [Bool.and_eq_true, List.all_eq_true, decide_eq_true_eq] at h
  exact h.1

theorem rowOk {es : List Ent} (hu : ∀ e ∈ es, U64 e.2.1) (h : fewB es = true) : RowOk (rowsL es) := by
  refine ⟨rowsL_good es hu, ?_, fun k hk => ?_⟩
  · have h1 := rows_length es []
    have h2 := fewB_len h
    simp only [List.length_nil] at h1
    unfold rowsL
    omega
  · obtain ⟨e, he, rfl⟩ := (rowsL_mem es k).1 hk
    exact innerA_size e (fewB_key h e he)

theorem RowOk.keep {l : List ByteArray} (h : RowOk l) (floor : Nat) (bottom : Bool) : RowOk (keepL floor bottom l) := by
  refine ⟨keep_good h.good floor bottom, Nat.le_trans (keep_length h.good floor bottom) h.len, fun k hk => h.sizes k ?_⟩
  rw [keepL_filter h.good] at hk
  exact (List.mem_filter.1 hk).1

theorem Sl.up {w w' : World} {sz : Nat} {v : Value} {xs : List Value} (h : Sl (· < w.heap.size) w sz v xs) (hb : Below w.heap.size w w') : Sl (· < w'.heap.size) w' sz v xs :=
  (h.same (Same.below hb)).mono fun _ hx => Nat.lt_of_lt_of_le hx hb.size

/-- One world behind the other. -/
theorem below_step {a b c : World} (h : Below a.heap.size a b) (k : Below b.heap.size b c) : Below a.heap.size a c := h.trans (k.mono h.size)

theorem keep_ok (x : Value) (l : List ByteArray) (floor : Nat) (bottom : Bool) (w : World) (henv : Env w) (hx : Sl (· < w.heap.size) w 1 x (sc l)) (hl : RowOk l) :
    Calls Tryd.prog 27 #[x, .int .u64 floor, .bool bottom] w (RetL (keepL floor bottom l) 0 w) := by
  have := dropKeep_any x l floor bottom w henv hx hl.len hl.sizes
  rw [hl.good.code] at this
  unfold keepR at this
  rwa [if_pos hl.good.code] at this
theorem at_ok (x : Value) (l : List ByteArray) (rev : Nat) (w : World) (henv : Env w) (hx : Sl (· < w.heap.size) w 1 x (sc l)) (hl : RowOk l) :
    Calls Tryd.prog 29 #[x, .int .u64 rev] w (RetL (atL rev l) 0 w) := by
  have := dropAt_any x l rev w henv hx hl.len hl.sizes
  rw [hl.good.code] at this
  unfold atR at this
  rwa [if_pos hl.good.code] at this
theorem new_ok (x : Value) (l : List ByteArray) (w : World) (henv : Env w) (hx : Sl (· < w.heap.size) w 1 x (sc l)) (hl : RowOk l) :
    Calls Tryd.prog 30 #[x] w (RetV (.tuple #[.int .u64 (newL l), .int .i64 (0 : Nat)]) w) := by
  have := dropNewest_any x l w henv hx hl.len hl.sizes
  rw [hl.good.code] at this
  unfold newR at this
  rwa [if_pos hl.good.code] at this
theorem refKeep_ok (x : Value) (l : List ByteArray) (floor : Nat) (bottom : Bool) (w : World) (hx : Sl (· < w.heap.size) w 1 x (sc l)) (hl : RowOk l) :
    Calls Tryd.prog 31 #[x, .int .u64 floor, .bool bottom] w (RetS (keepL floor bottom l) w) := by
  rw [keepL_rk hl.good]
  exact refKeep_any x l floor bottom w hx hl.len hl.sizes
theorem refAt_ok (x : Value) (l : List ByteArray) (rev : Nat) (w : World) (hx : Sl (· < w.heap.size) w 1 x (sc l)) (hl : RowOk l) :
    Calls Tryd.prog 32 #[x, .int .u64 rev] w (RetS (atL rev l) w) := by
  rw [atL_rk hl.good]
  exact refAt_any x l rev w hx hl.len hl.sizes
theorem refNewest_ok (x : Value) (l : List ByteArray) (w : World) (hx : Sl (· < w.heap.size) w 1 x (sc l)) (hl : RowOk l) :
    Calls Tryd.prog 33 #[x] w (RetV (.int .u64 (newL l)) w) := by
  have := refNewest_any x l w hx hl.len hl.sizes
  rw [List.foldl_map] at this
  rw [newL_fold hl.good]
  exact this
theorem same_ok (x y : Value) (a : List ByteArray) (w : World) (hx : Sl (· < w.heap.size) w 1 x (sc a)) (hy : Sl (· < w.heap.size) w 1 y (sc a)) :
    Calls Tryd.prog 28 #[x, y] w (RetV (.bool true) w) := by
  have := same_any x y a a w _ _ hx hy
  simpa using this

/-- The document's own row. -/
def es18 : List Ent := [(⟨#[97]⟩, 5, false), (⟨#[97]⟩, 3, false), (⟨#[97]⟩, 1, false)]
theorem es18_u : ∀ e ∈ es18, U64 e.2.1 := by
  intro e he
  simp only [es18, List.mem_cons, List.not_mem_nil, or_false] at he
  rcases he with rfl | rfl | rfl <;> (unfold U64; decide)
theorem es18_few : fewB es18 = true := by kernel_rfl
theorem es18_keep : keepL 3 false (rowsL es18) = (rowsL es18).take 2 := of_decide_eq_true (by kernel_rfl)
theorem es18_len : (rowsL es18).length = 3 := of_decide_eq_true (by kernel_rfl)
theorem a18_code : codeOf [(⟨#[97]⟩ : ByteArray)] = 9 := codeOf_none (l := [(⟨#[97]⟩ : ByteArray)]) (i := 0) (by simp) (by show deco ⟨#[97]⟩ = none; unfold deco; rw [outer_short _ (by simp)]; rfl)

set_option maxRecDepth 100000 in
set_option maxHeartbeats 800000 in
theorem fixed18 (w : World) (henv : Env w) : Calls Tryd.prog 24 #[] w (RetV (.bool true) w) := by
  obtain ⟨b, hb⟩ : ∃ b, w.heap.size = b := ⟨_, rfl⟩
  have hE : Sl (· < (w.alloc (.cells (ec es18).toArray 31)).heap.size) (w.alloc (.cells (ec es18).toArray 31)) 3 (.slice (some ⟨w.heap.size, 0, none⟩) 3 3) (ec es18) :=
    Sl.made w _ 3 3 31 (ec es18).toArray rfl (by unfold maxLen; omega) (by simp)
  have hb0 : Below w.heap.size w (w.alloc (.cells (ec es18).toArray 31)) := (Below.refl _ _).alloc (Nat.le_refl _) _
  have hc1 := rows_any _ es18 _ hE (by decide) es18_u (by intro e he; have := fewB_key es18_few e he; omega)
  have hrow := rowOk es18_u es18_few
  rw [show (ec es18).toArray = #[Value.string ⟨#[97]⟩, Value.int IntKind.u64 5, Value.bool false, Value.string ⟨#[97]⟩, Value.int IntKind.u64 3, Value.bool false, Value.string ⟨#[97]⟩, Value.int IntKind.u64 1, Value.bool false] from rfl] at hc1 hb0
  have HC1 := Lib.hid hc1
  have HK := Lib.hid es18_keep
  have HLEN := Lib.hid es18_len
  clear hc1 hE hb
  generalize rowsL es18 = l at *
  go_enter Tryd.func24, Tryd.ntmps24
  go_wp2_with fail
  refine HC1.out.mono ?_
  rintro e w1 ⟨v, rfl, hs1, hb1⟩
  have hb01 := below_step hb0 hb1
  clear HC1
  go_wp2_with fail
  refine (keep_ok v l 3 false _ (henv.below hb01) hs1 hrow).mono ?_
  rintro e w2 ⟨v2, rfl, hs2, hb2⟩
  have hb02 := below_step hb01 hb2
  have hs12 := hs1.up hb2
  rw [HK.out] at hs2
  have hA : Sl (· < (w2.alloc (.cells (sc [(⟨#[97]⟩ : ByteArray)]).toArray 9)).heap.size) (w2.alloc (.cells (sc [(⟨#[97]⟩ : ByteArray)]).toArray 9)) 1 (.slice (some ⟨w2.heap.size, 0, none⟩) 1 1) (sc [(⟨#[97]⟩ : ByteArray)]) :=
    Sl.made w2 _ 1 1 9 (sc [(⟨#[97]⟩ : ByteArray)]).toArray rfl (by unfold maxLen; omega) (by simp)
  have hbA : Below w2.heap.size w2 (w2.alloc (.cells (sc [(⟨#[97]⟩ : ByteArray)]).toArray 9)) := (Below.refl _ _).alloc (Nat.le_refl _) _
  have hbA0 := below_step hb02 hbA
  have hks : ∀ k ∈ [(⟨#[97]⟩ : ByteArray)], k.size ≤ 10000000 := by
    intro k hk
    obtain rfl : k = ⟨#[97]⟩ := by simpa using hk
    decide
  have hc3 := dropKeep_any _ [(⟨#[97]⟩ : ByteArray)] 3 false _ (henv.below hbA0) hA (by decide) hks
  rw [a18_code] at hc3
  rw [show (sc [(⟨#[97]⟩ : ByteArray)]).toArray = #[Value.string ⟨#[97]⟩] from rfl] at hc3 hbA hbA0
  have HC3 := Lib.hid hc3
  have HS2 := Lib.hid (hs2.up hbA)
  have HS12 := Lib.hid (hs12.up hbA)
  have HLEN2 := HLEN.out
  obtain ⟨ao, n, c, rfl, hn, hnc, hcm⟩ := hs12.len
  rw [sc_length, HLEN.out, Nat.mul_one] at hn
  obtain rfl : n = 3 := hn.symm
  clear hc3 hA hs2 hs12 hs1 HLEN2 hks
  go_wp2_with fail
  refine HC3.out.mono ?_
  rintro e w3 ⟨v3, rfl, hs3, hb3⟩
  have hb03 := below_step hbA0 hb3
  have HS3 := Lib.hid (HS2.out.up hb3)
  have HS4 := Lib.hid ((HS12.out.up hb3).take 2 (by omega))
  clear HC3 HS2 HS12 hs3
  go_wp2_with fail
  refine (same_ok _ _ (l.take 2) _ HS3.out (by have := HS4.out; rwa [Nat.mul_one, show (sc l).take 2 = sc (l.take 2) from List.map_take.symm] at this)).mono ?_
  rintro e w4 ⟨rfl, hb4⟩
  have hb04 := below_step hb03 hb4
  go_wp2
  go_ret
  exact ⟨rfl, hb04⟩

end Go.Proofs.YtkllfdfipkcddaaDoor
