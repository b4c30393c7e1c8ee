/- Rows of texts and of entries among the arguments, opened. Rows of rows of entries, and texts with their sizes, among the arguments, opened. table's Open, joined; entries among the arguments, with their sizes. sentrylaw14's TableSame. No condition: lemmas. -/
import Derived.SizedLaws
import Derived.Test.YtmmeofiocbfamaaDoorZ28
import Derived.Test.YtmmeofiocbfamaaDoorZ7
import Derived.Test.YtmmeofiocbfamaaDoorZ20
import Derived.Test.YtmmeofiocbfamaaDoorZ23
namespace Go.Proofs.YtmmeofiocbfamaaDoor
open Go Go.RowKit Go.ChangeShapes Go.WideShapes Go.ChangeAt

set_option maxRecDepth 100000 in
/-- A row of elements, each of which reads as something. -/
theorem open_rows {H : Type} {enc : TypeId × Value → H} {P : Program} {w : World} {α : Type} (ec : α → List Value) (Q : α → Prop) {t e : TypeId} {v : Value} {d : DataW H} {ps : List MemPlace} {sz : Nat}
    (ht : P.underlying t = some (.slice e)) (hsz : P.cellsOf e = sz) (hv : ∃ a len cap, v = .slice a len cap) (h : DataW.Trod enc P w 0 (fun _ => true) true t v d ps)
    (hel : ∀ fuel cs y, DataW.trod enc P w 0 (fun _ => true) true fuel e cs = some y → ∃ a, cs = ec a ∧ Q a) : ∃ l : List α, Sl (· < w.heap.size) w sz v (l.flatMap ec) ∧ ∀ a ∈ l, Q a := by
  obtain ⟨xs, elems, fuel, hs, hl, he, _⟩ := open_sl ht hv h
  rw [hsz] at hs hl he
  have main : ∀ n, n ≤ elems.length → ∃ l : List α, xs.take (n * sz) = l.flatMap ec ∧ ∀ a ∈ l, Q a := by
    intro n
    induction n with
    | zero => intro _; exact ⟨[], by simp, by simp⟩
    | succ n ih =>
      intro hn
      obtain ⟨l, hl1, hl2⟩ := ih (by omega)
      obtain ⟨a, ha, hq⟩ := hel _ _ _ (he n elems[n] (List.getElem?_eq_getElem (by omega)))
      refine ⟨l ++ [a], ?_, fun b hb => ?_⟩
      · rw [Nat.add_mul, Nat.one_mul, List.take_add, hl1, ha, List.flatMap_append]
        simp
      · rcases List.mem_append.1 hb with hb | hb
        · exact hl2 b hb
        · obtain rfl : b = a := by simpa using hb
          exact hq
  obtain ⟨l, hl1, hl2⟩ := main elems.length (Nat.le_refl _)
  rw [← hl, List.take_length] at hl1
  exact ⟨l, hl1 ▸ hs, hl2⟩

section
variable {H : Type} {enc : TypeId × Value → H} {W : World} {base : Nat} {v : Value} {d : DataW H} {ps : List MemPlace}

theorem sc_flat (l : List ByteArray) : l.flatMap (fun s => [Value.string s]) = sc l := by
  induction l with
  | nil => rfl
  | cons a l ih => rw [List.flatMap_cons, ih]; rfl

set_option maxRecDepth 100000 in
theorem open_strsV (hok : Value.okWide Tryd.prog W .any base 26 v) (h : DataW.Trod enc Tryd.prog W 0 (fun _ => true) true 26 v d ps) : ∃ l : List ByteArray, Sl (· < W.heap.size) W 1 v (sc l) ∧ ∀ k ∈ l, k.size ≤ 9223372036854775807 := by
  obtain ⟨l, h1, h2⟩ := open_rows (fun s : ByteArray => [Value.string s]) (fun k => k.size ≤ 9223372036854775807) Tryd.underlying26 (by kernel_rfl) (okWide_slice Tryd.underlying26 hok) h (fun fuel cs y hy => by
    obtain ⟨s, rfl, _, hs⟩ := DataW.trod_string Tryd.underlying9 hy
    exact ⟨s, rfl, by unfold maxLen at hs; omega⟩)
  exact ⟨l, sc_flat l ▸ h1, h2⟩

set_option maxRecDepth 100000 in
theorem open_entry_cells {fuel : Nat} {cs : List Value} {y : DataW H × List MemPlace} (hy : DataW.trod enc Tryd.prog W 0 (fun _ => true) true fuel 50 cs = some y) : ∃ x : Ent, cs = eC x ∧ U64 x.2.1 := by
  obtain ⟨xs, n, _, _, hl, hlen, hf⟩ := DataW.trod_struct Tryd.underlying50 hy
  rw [show Tryd.prog.cellsOf 50 = 3 from by kernel_rfl] at hl
  obtain ⟨c0, c1, c2, rfl⟩ : ∃ c0 c1 c2, cs = [c0, c1, c2] := by
    match cs, hl with
    | [c0, c1, c2], _ => exact ⟨c0, c1, c2, rfl⟩
  have h0 := hf 0 _ rfl
  have h1 := hf 1 _ rfl
  have h2 := hf 2 _ rfl
  obtain ⟨y0, y1, y2, rfl⟩ : ∃ y0 y1 y2, xs = [y0, y1, y2] := by
    match xs, hlen with
    | [y0, y1, y2], _ => exact ⟨y0, y1, y2, rfl⟩
  obtain ⟨k, e0, _⟩ := DataW.trod_string Tryd.underlying9 h0
  obtain ⟨r, e1, _, wr⟩ := DataW.trod_int Tryd.underlying48 h1
  obtain ⟨b, e2, _⟩ := DataW.trod_bool Tryd.underlying4 h2
  have k0 : Tryd.prog.cellsOf 9 = 1 := by kernel_rfl
  have k1 : Tryd.prog.cellsOf 48 = 1 := by kernel_rfl
  have k2 : Tryd.prog.cellsOf 4 = 1 := by kernel_rfl
  simp [k0] at e0
  simp [k1] at e1
  simp [k2] at e2
  subst e0 e1 e2
  have hb := bounds_u64 wr
  exact ⟨(k, r.toNat, b), by simp only [eC]; rw [show ((r.toNat : Nat) : Int) = r from by omega], by unfold U64; simp only; omega⟩

set_option maxRecDepth 100000 in
theorem open_entriesV (hok : Value.okWide Tryd.prog W .any base 22 v) (h : DataW.Trod enc Tryd.prog W 0 (fun _ => true) true 22 v d ps) : ∃ l : List Ent, Sl (· < W.heap.size) W 3 v (ec l) ∧ ∀ x ∈ l, U64 x.2.1 :=
  open_rows eC (fun x => U64 x.2.1) Tryd.underlying22 (by kernel_rfl) (okWide_slice Tryd.underlying22 hok) h (fun _ _ _ hy => open_entry_cells hy)

set_option maxRecDepth 100000 in
theorem open_u16V (hok : Value.okWide Tryd.prog W .any base 23 v) (h : DataW.Trod enc Tryd.prog W 0 (fun _ => true) true 23 v d ps) : ∃ q : Nat, v = .int .u16 q ∧ q < 65536 := by
  obtain ⟨x, rfl, _, _, wx⟩ := open_int Tryd.underlying23 hok h
  have hb := bounds_u16 wx
  exact ⟨x.toNat, by congr 1; omega, by omega⟩
end

end Go.Proofs.YtmmeofiocbfamaaDoor
namespace Go.Proofs.YtmmeofiocbfamaaDoor
open Go Go.RowKit Go.ChangeShapes Go.WideShapes Go.ChangeAt

section
variable {H : Type} {enc : TypeId × Value → H}

set_option maxRecDepth 100000 in
/-- A row of elements, each of which reads as something, and the data it reads as. -/
theorem open_rowsW {P : Program} {w : World} {α : Type} (ec : α → List Value) (Q : α → DataW H → Prop) {t e : TypeId} {v : Value} {fuel0 : Nat} {y0 : DataW H × List MemPlace} {sz : Nat}
    (ht : P.underlying t = some (.slice e)) (hsz : P.cellsOf e = sz) (h : DataW.trod enc P w 0 (fun _ => true) true fuel0 t [v] = some y0)
    (hel : ∀ fuel cs y, DataW.trod enc P w 0 (fun _ => true) true fuel e cs = some y → ∃ a, cs = ec a ∧ Q a y.1) :
    ∃ l : List α, Sl (· < w.heap.size) w sz v (l.flatMap ec) ∧ (l = [] ∨ ∃ elems rest, y0.1 = .slice elems rest ∧ l.length = elems.length ∧ ∀ a ∈ l, ∃ dd ∈ elems, Q a dd) := by
  have hv : ∃ a len cap, v = .slice a len cap := by
    rcases DataW.trod_slice ht h with ⟨hcs, _⟩ | ⟨a, len, cap, _, _, _, _, hcs, _⟩
    · exact ⟨none, 0, 0, by simpa using hcs⟩
    · exact ⟨some a, len, cap, by simpa using hcs⟩
  have hT : DataW.Trod enc P w 0 (fun _ => true) true t v y0.1 y0.2 := by
    obtain ⟨a, len, cap, rfl⟩ := hv
    exact ⟨fuel0, by simpa [Value.cells] using h⟩
  obtain ⟨xs, elems, fuel, hs, hl, he, hd⟩ := open_sl ht hv hT
  rw [hsz] at hs hl he
  have main : ∀ n, n ≤ elems.length → ∃ l : List α, l.length = n ∧ xs.take (n * sz) = l.flatMap ec ∧ ∀ a ∈ l, ∃ y ∈ elems, Q a y.1 := by
    intro n
    induction n with
    | zero => intro _; exact ⟨[], rfl, by simp, by simp⟩
    | succ n ih =>
      intro hn
      obtain ⟨l, hl0, hl1, hl2⟩ := ih (by omega)
      obtain ⟨a, ha, hq⟩ := hel _ _ _ (he n elems[n] (List.getElem?_eq_getElem (by omega)))
      refine ⟨l ++ [a], by simp [hl0], ?_, fun b hb => ?_⟩
      · rw [Nat.add_mul, Nat.one_mul, List.take_add, hl1, ha, List.flatMap_append]
        simp
      · rcases List.mem_append.1 hb with hb | hb
        · exact hl2 b hb
        · obtain rfl : b = a := by simpa using hb
          exact ⟨_, List.getElem_mem (by omega), hq⟩
  obtain ⟨l, hl0, hl1, hl2⟩ := main elems.length (Nat.le_refl _)
  rw [← hl, List.take_length] at hl1
  refine ⟨l, hl1 ▸ hs, ?_⟩
  rcases hd with ⟨_, rfl⟩ | ⟨rest, hd⟩
  · exact .inl (List.eq_nil_of_length_eq_zero (by simpa using hl0))
  · refine .inr ⟨_, rest, hd, by simp [hl0], fun a ha => ?_⟩
    obtain ⟨y, hy, hq⟩ := hl2 a ha
    exact ⟨y.1, List.mem_map.2 ⟨y, hy, rfl⟩, hq⟩

theorem weightsAll_in {P : Program} {e : TypeId} : ∀ {l : List (DataW H)} {d : DataW H}, d ∈ l → ∀ n ∈ d.weights P e, n ∈ DataW.weightsAll P e l
  | a :: l, d, hd, n, hn => by
    simp only [DataW.weightsAll, List.mem_append]
    rcases List.mem_cons.1 hd with rfl | hd
    · exact .inl hn
    · exact .inr (weightsAll_in hd n hn)

variable {W : World} {base : Nat} {v : Value} {d : DataW H} {ps : List MemPlace}

theorem str_weight {s : ByteArray} {t : TypeId} (ht : Tryd.prog.underlying t = some .string) (h : DataW.Trod enc Tryd.prog W 0 (fun _ => true) true t (.string s) d ps) (hw : ∀ n ∈ d.weights Tryd.prog t, n ≤ reachBytes) : s.size ≤ 1000000000000000 := by
  obtain ⟨fuel, hy⟩ := h
  obtain ⟨s', e, hd, _⟩ := DataW.trod_string ht hy
  simp [Value.cells] at e
  subst e
  have hd1 : d = .lit (.string s.data.toList) := (Prod.mk.inj hd).1
  subst hd1
  have := hw s.data.toList.length (by simp [DataW.weights])
  rw [Array.length_toList] at this
  have := reachBytes_lt
  show s.data.size ≤ _
  omega

def EntQ (a : Value × List Ent) (W : World) (d : DataW H) : Prop := RowE W a.1 a.2 ∧ (∀ e ∈ a.2, U64 e.2.1) ∧ (a.2 = [] ∨ ∃ elems rest, d = .slice elems rest ∧ a.2.length = elems.length)

set_option maxRecDepth 100000 in
theorem open_rowE_cells {fuel : Nat} {cs : List Value} {y : DataW H × List MemPlace} (hy : DataW.trod enc Tryd.prog W 0 (fun _ => true) true fuel 22 cs = some y) : ∃ a : Value × List Ent, cs = [a.1] ∧ EntQ a W y.1 := by
  have hv : ∃ u, cs = [u] := by
    rcases DataW.trod_slice Tryd.underlying22 hy with ⟨hcs, _⟩ | ⟨a, len, cap, _, _, _, _, hcs, _⟩
    · exact ⟨_, hcs⟩
    · exact ⟨_, hcs⟩
  obtain ⟨u, rfl⟩ := hv
  obtain ⟨l, hs, hq⟩ := open_rowsW eC (fun x _ => U64 x.2.1) Tryd.underlying22 (by kernel_rfl) hy (fun fuel cs y hy => open_entry_cells hy)
  refine ⟨(u, l), rfl, hs, fun e he => ?_, ?_⟩
  · rcases hq with rfl | ⟨elems, rest, _, _, h⟩
    · cases he
    · obtain ⟨_, _, h⟩ := h e he; exact h
  · rcases hq with rfl | ⟨elems, rest, h1, h2, _⟩
    · exact .inl rfl
    · exact .inr ⟨elems, rest, h1, h2⟩

theorem each_of {α : Type} {R : World → Value → α → Prop} {S : Nat → Prop} {w : World} {v : Value} {l : List (Value × α)} (h : Sl S w 1 v (l.flatMap fun a => [a.1])) (hR : ∀ a ∈ l, R w a.1 a.2) : Each R S w v (l.map (·.2)) := by
  refine ⟨l.map (·.1), ?_, by simp, fun i hi hi' => ?_⟩
  · have : (l.flatMap fun a => [a.1]) = l.map (·.1) := by
      clear h hR
      induction l with
      | nil => rfl
      | cons a l ih => rw [List.flatMap_cons, ih]; rfl
    rwa [this] at h
  · simp only [List.getElem_map]
    exact hR _ (List.getElem_mem _)

set_option maxRecDepth 100000 in
theorem open_strzV (hok : Value.okWide Tryd.prog W .any base 9 v) (h : DataW.Trod enc Tryd.prog W 0 (fun _ => true) true 9 v d ps) (hw : ∀ n ∈ d.weights Tryd.prog 9, n ≤ reachBytes) : ∃ s : ByteArray, v = .string s ∧ s.size ≤ 1000000000000000 := by
  obtain ⟨s, rfl, _⟩ := open_strV hok h
  exact ⟨s, rfl, str_weight Tryd.underlying9 h hw⟩

set_option maxRecDepth 100000 in
theorem open_intV (hok : Value.okWide Tryd.prog W .any base 3 v) (h : DataW.Trod enc Tryd.prog W 0 (fun _ => true) true 3 v d ps) : ∃ n : Int, v = .int .i64 n := by
  obtain ⟨x, rfl, _⟩ := open_int Tryd.underlying3 hok h
  exact ⟨x, rfl⟩
end

end Go.Proofs.YtmmeofiocbfamaaDoor
namespace Go.Proofs.YtmmeofiocbfamaaDoor
open Go Go.RowKit Go.ChangeShapes Go.WideShapes Go.ChangeAt

set_option maxRecDepth 100000 in
theorem open_table : OpenLaw := fun v bs w h hl => open_raw read_any v bs w h hl

section
variable {H : Type} {enc : TypeId × Value → H} {W : World} {base : Nat} {v : Value} {d : DataW H} {ps : List MemPlace}
set_option maxRecDepth 100000 in
theorem open_entzV (hok : Value.okWide Tryd.prog W .any base 22 v) (h : DataW.Trod enc Tryd.prog W 0 (fun _ => true) true 22 v d ps) (hw : ∀ n ∈ d.weights Tryd.prog 22, n ≤ reachBytes) :
    ∃ l : List Ent, Sl (· < W.heap.size) W 3 v (ec l) ∧ l.length ≤ 4398046511104 ∧ ∀ x ∈ l, U64 x.2.1 := by
  obtain ⟨a, len, cap, rfl⟩ := okWide_slice Tryd.underlying22 hok
  obtain ⟨fuel, hy⟩ := h
  have hy' : DataW.trod enc Tryd.prog W 0 (fun _ => true) true fuel 22 [.slice a len cap] = some (d, ps) := by simpa [Value.cells] using hy
  obtain ⟨⟨u, l⟩, hc, h1, h2, h3⟩ := open_rowE_cells hy'
  cases hc
  refine ⟨l, h1, ?_, h2⟩
  rcases h3 with h3 | ⟨els, rst, hd, h3⟩
  · dsimp only at h3; rw [h3]; simp
  · have hb : Tryd.prog.bytesOf 50 = 32 := by kernel_rfl
    dsimp only at hd h3
    subst hd
    have := hw ((els.length + rst.length) * 32) (by
      rw [DataW.weights, Tryd.underlying22]
      simp [hb])
    have := reachBytes_lt
    omega
end

end Go.Proofs.YtmmeofiocbfamaaDoor
namespace Go.Proofs.YtmmeofiocbfamaaDoor
open Go Go.RowKit

theorem innerA_size (x : Ent) (hr : U64 x.2.1) : (innerA x).size ≤ 2 * x.1.size + 20 := by
  have h1 := esc_length x.1.data.toList
  have e : (innerA x).size = (innerB x.1.data.toList x.2.1 x.2.2).length := by unfold innerA; show (Array.size _) = _; simp
  rw [e]
  have h2 : x.1.data.toList.length = x.1.size := Array.length_toList
  unfold innerB
  simp only [List.length_append, List.length_cons, List.length_nil]
  have h3 : (be8 (flip64 x.2.1)).length = 8 := by unfold be8; rfl
  omega
theorem keyRow_of {es : List Ent} (hf : fewB es = true) (hu : ∀ e ∈ es, U64 e.2.1) : KeyRow (rowsL es) := by
  unfold fewB at hf
  rw [Bool.and_eq_true, List.all_eq_true, decide_eq_true_eq] at hf
  refine ⟨(rowsL_up es).upK, ?_, fun k hk => ?_, ?_⟩
  · have := rows_length es []
    simp only [List.length_nil, Nat.zero_add] at this
    exact Nat.le_trans this hf.2
  · obtain ⟨x, hx, rfl⟩ := (rowsL_mem es k).1 hk
    have h1 := hf.1 x hx
    have h2 := innerA_size x (hu x hx)
    simp only [decide_eq_true_eq] at h1
    omega
  · rw [List.any_eq_false]
    intro k hk
    obtain ⟨x, hx, rfl⟩ := (rowsL_mem es k).1 hk
    have : outerS (innerA x).data.toList = some (x.1.data.toList, x.2.1, x.2.2) := by
      show outerS (innerB x.1.data.toList x.2.1 x.2.2) = _
      exact outer_inner _ _ _ (hu x hx)
    rw [this]
    simp

set_option maxRecDepth 100000 in
set_option maxHeartbeats 4000000 in
theorem tableSame_law (hop : OpenLaw) (v : Value) (es : List Ent) (one two : Nat) (ask : ByteArray) (w : World) (henv : Env w) (hx : Sl (· < w.heap.size) w 3 v (ec es)) (hl : es.length ≤ 4398046511104) (hu : ∀ e ∈ es, U64 e.2.1) (h1 : one < 65536) (h2 : two < 65536) :
    Calls Tryd.prog 4 #[v, .int .u16 one, .int .u16 two, .string ask] w (RetV (.bool true) w) := by
  have HF := Lib.hid (fixed14_any hop w henv)
  have HX := Lib.hid hx
  have HU := Lib.hid hu
  have HL := Lib.hid hl
  obtain ⟨vo, vc, rfl, -, -, -⟩ := hx.ents
  clear hx hu hl
  go_enter Tryd.func4, Tryd.ntmps4
  go_wp2_with fail
  refine HF.out.mono ?_
  clear HF
  rintro e w1 ⟨rfl, hx1⟩
  have HX1 := Lib.hid hx1
  have HK := Lib.hid (keys14_any _ es w1 (Sl.up HX.out hx1) HL.out HU.out)
  clear hx1
  go_wp2_with fail
  refine HK.out.mono ?_
  clear HK
  rintro e w2 ⟨kv, rfl, hkv, hx2⟩
  have HX2 := Lib.hid (show Ext w w2 from HX1.out.trans hx2)
  clear hx2 HX1
  cases hfew : fewB es with
  | false =>
    clear hkv
    go_wp2_with fail
    go_ret
    exact ⟨rfl, HX2.out⟩
  | true =>
    have HROW := Lib.hid (keyRow_of hfew HU.out)
    have HKV := Lib.hid (hkv hfew)
    generalize rowsL es = ks at *
    obtain ⟨ko, kc, rfl, -, -, -, -⟩ := Sl.strs0 HKV.out
    clear hkv hfew
    by_cases hk0 : ks.length = 0
    · have hkb : ((ks.length : Int) == 0) = true := by rw [hk0]; rfl
      clear hk0
      go_wp2_with fail
      go_ret
      exact ⟨rfl, HX2.out⟩
    have hkb : ((ks.length : Int) == 0) = false := by simp; intro e; exact hk0 (by rw [e]; rfl)
    by_cases hbig : 300 < ask.size
    · have hbi : (300 : Int) < (ask.size : Int) := by omega
      clear hbig hk0
      go_wp2_with fail
      go_ret
      exact ⟨rfl, HX2.out⟩
    have hbi : ¬ ((300 : Int) < (ask.size : Int)) := by omega
    have HNE := Lib.hid (show ks ≠ [] from fun e => hk0 (by rw [e]; rfl))
    clear hbig hk0
    have hw1 : IntKind.i64.wrap (one : Int) = (one : Int) := IntWalk.i64_in _ (by omega)
    have hw2 : IntKind.i64.wrap (two : Int) = (two : Int) := IntWalk.i64_in _ (by omega)
    have hz1 : wrap64 (1 + (one : Int)) = 1 + (one : Int) := by unfold wrap64; omega
    have hz2 : wrap64 (1 + (two : Int)) = 1 + (two : Int) := by unfold wrap64; omega
    have H1 := Lib.hid (show (1 : Int) ≤ 1 + (one : Int) from by omega)
    have H2 := Lib.hid (show (1 : Int) ≤ 1 + (two : Int) from by omega)
    have HS1 := Lib.hid (show ∀ k ∈ ks, k.size ≤ 1000 from fun k hk => by have := HROW.out.short k hk; omega)
    clear h1 h2
    have HB1 := Lib.hid (table_build (.slice ko ks.length kc) ks (1 + (one : Int)) 1 w2 (henv.below HX2.out) HKV.out (by have := HROW.out.few; omega) HS1.out)
    go_wp2_with fail
    refine HB1.out.mono ?_
    clear HB1
    intro e w3 hr3
    obtain ⟨hx3, v3, rfl, ho3⟩ := build_row HROW.out HNE.out H1.out hr3
    have HX3 := Lib.hid (HX2.out.trans hx3)
    have HO3 := Lib.hid ho3
    have HKV3 := Lib.hid (Sl.up HKV.out hx3)
    have HZ3 := Lib.hid (show w2.heap.size ≤ w2.heap.size from Nat.le_refl _)
    obtain ⟨bo3, bn3, bc3, rfl, -, -, -⟩ := ho3.sl.len
    have HB2 := Lib.hid (table_build (.slice ko ks.length kc) ks (1 + (two : Int)) 20 w3 (henv.below HX3.out) HKV3.out (by have := HROW.out.few; omega) HS1.out)
    clear hr3 hx3 ho3 HX2 HKV
    go_wp2_with fail
    refine HB2.out.mono ?_
    clear HB2
    intro e w4 hr4
    obtain ⟨hx4, v4, rfl, ho4⟩ := build_row HROW.out HNE.out H2.out hr4
    have HX4 := Lib.hid (HX3.out.trans hx4)
    have HO4 := Lib.hid ho4
    have HO34 := Lib.hid (HO3.out.below hx4)
    obtain ⟨bo4, bn4, bc4, rfl, -, -, -⟩ := ho4.sl.len
    clear hr4 hx4 ho4 HX3 HO3 HKV3
    obtain ⟨t, ht, htok, -, -, -, hseek, hall⟩ := open_row HROW.out HNE.out (1 + (one : Int)) 1
    obtain ⟨u, hu', huok, -, -, -, hseeku, hallu⟩ := open_row HROW.out HNE.out (1 + (two : Int)) 20
    have HTL1 := Lib.hid (tableB_len HROW.out (1 + (one : Int)) 1)
    have HTL2 := Lib.hid (tableB_len HROW.out (1 + (two : Int)) 20)
    have HTT := Lib.hid ht
    have HUU := Lib.hid hu'
    have HTO := Lib.hid htok
    have HUO := Lib.hid huok
    have HSK := Lib.hid hseek
    have HSU := Lib.hid hseeku
    have HAL := Lib.hid hall
    have HAU := Lib.hid hallu
    clear ht hu' htok huok hseek hseeku hall hallu
    have HP1 := Lib.hid (hop (.slice bo3 bn3 bc3) _ w4 (HO34.out.sl.mono fun b hb => hb.2) (by have := HTL1.out; omega))
    rw [HTT.out] at HP1
    go_wp2_with fail
    refine HP1.out.mono ?_
    clear HP1
    rintro e w5 ⟨hx5, tb, rfl, hat, -⟩
    have HX5 := Lib.hid (HX4.out.trans hx5)
    have HAT := Lib.hid hat
    have HO45 := Lib.hid (HO4.out.below hx5)
    clear hx5 hat HX4 HO4 HO34
    have HP2 := Lib.hid (hop (.slice bo4 bn4 bc4) _ w5 (HO45.out.sl.mono fun b hb => hb.2) (by have := HTL2.out; omega))
    rw [HUU.out] at HP2
    go_wp2_with fail
    refine HP2.out.mono ?_
    clear HP2
    rintro e w6 ⟨hx6, ub, rfl, haut, -⟩
    have HX6 := Lib.hid (HX5.out.trans hx6)
    have HAT6 := Lib.hid (HAT.out.up hx6)
    have HAU6 := Lib.hid haut
    clear hx6 haut HX5 HO45 HAT
    have HS := Lib.hid (seekT_any tb t ask w6 HAT6.out HTO.out)
    go_wp2_with fail
    refine HS.out.mono ?_
    clear HS
    intro e w7 hr7
    obtain ⟨hx7, rfl⟩ := HSK.out _ _ _ _ hr7
    have HX7 := Lib.hid (HX6.out.trans hx7)
    have HAT7 := Lib.hid (HAT6.out.up hx7)
    have HAU7 := Lib.hid (HAU6.out.up hx7)
    have HS2 := Lib.hid (seekT_any ub u ask w7 HAU7.out HUO.out)
    clear hr7 hx7 HX6 HAT6 HAU6
    unfold seekR
    go_wp2_with fail
    refine HS2.out.mono ?_
    clear HS2
    intro e w8 hr8
    obtain ⟨hx8, rfl⟩ := HSU.out _ _ _ _ hr8
    have HX8 := Lib.hid (HX7.out.trans hx8)
    have HAT8 := Lib.hid (HAT7.out.up hx8)
    have HAU8 := Lib.hid (HAU7.out.up hx8)
    have HA := Lib.hid (all_any tb t w8 HAT8.out HTO.out)
    clear hr8 hx8 HX7 HAT7 HAU7
    unfold seekR
    generalize seekL ks ask = so at *
    go_wp2_with fail
    refine HA.out.mono ?_
    clear HA
    intro e w9 hr9
    obtain ⟨hx9, v9, rfl, ho9⟩ := HAL.out _ _ _ hr9
    have HX9 := Lib.hid (HX8.out.trans hx9)
    have HAU9 := Lib.hid (HAU8.out.up hx9)
    have HO9 := Lib.hid ho9
    obtain ⟨no9, nn9, nc9, rfl, -, -, -⟩ := ho9.sl.len
    have HA2 := Lib.hid (all_any ub u w9 HAU9.out HUO.out)
    clear hr9 hx9 ho9 HX8 HAT8 HAU8
    go_wp2_with fail
    refine HA2.out.mono ?_
    clear HA2
    intro e wa hra
    obtain ⟨hxa, va, rfl, hoa⟩ := HAU.out _ _ _ hra
    have HXa := Lib.hid (HX9.out.trans hxa)
    have HO9a := Lib.hid (HO9.out.below hxa)
    have HOa := Lib.hid hoa
    obtain ⟨noa, nna, nca, rfl, -, -, -⟩ := hoa.sl.len
    have HSM := Lib.hid (same11_any (.slice no9 nn9 nc9) (.slice noa nna nca) ks ks wa HO9a.out.sl hoa.sl)
    clear hra hxa hoa HX9 HO9 HAU9
    have hd : decide (ks = ks) = true := decide_eq_true rfl
    have hss : ((so.getD ⟨#[]⟩).toList == (so.getD ⟨#[]⟩).toList) = true := by simp
    go_wp2_with fail
    refine HSM.out.mono ?_
    rintro e wb ⟨rfl, hxb⟩
    have HXb := Lib.hid (HXa.out.trans hxb)
    clear hxb
    go_wp2_with fail
    go_ret
    exact ⟨rfl, HXb.out⟩

end Go.Proofs.YtmmeofiocbfamaaDoor
