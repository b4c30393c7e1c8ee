/- Lemmas for the claim, no condition. -/
import Derived.Lib.Hide
import Derived.Test.YtjdigpfipmckhaaYRcOwn1
namespace Go.Proofs.Ytjdigpfipmckhaa
open Go Go.RowKit
inductive RT where
  | mk (k : Int) (a b : ByteArray) (ps : List RT)
def RT.k : RT → Int | .mk k _ _ _ => k
def RT.a : RT → ByteArray | .mk _ a _ _ => a
def RT.b : RT → ByteArray | .mk _ _ b _ => b
def RT.ps : RT → List RT | .mk _ _ _ ps => ps
instance : Inhabited RT := ⟨.mk 0 ByteArray.empty ByteArray.empty []⟩
mutual
def RT.sz : RT → Nat | .mk _ _ _ ps => 1 + szL ps
def szL : List RT → Nat | [] => 0 | r :: rs => r.sz + szL rs
end
theorem szL_mem {p : RT} : ∀ {ps : List RT}, p ∈ ps → p.sz ≤ szL ps
  | r :: rs, h => by
    rw [szL]
    rcases List.mem_cons.1 h with rfl | h
    · omega
    · have := szL_mem h
      omega
theorem RT.sz_lt {r p : RT} (h : p ∈ r.ps) : p.sz < r.sz := by
  obtain ⟨k, a, b, ps⟩ := r
  have := szL_mem (show p ∈ ps from h)
  rw [RT.sz]
  omega
theorem RT.sz_eq (r : RT) : r.sz = 1 + szL r.ps := by
  obtain ⟨k, a, b, ps⟩ := r
  rw [RT.sz]
  rfl
theorem RT.ind {Q : RT → Prop} (h : ∀ r, (∀ p ∈ r.ps, Q p) → Q r) (r : RT) : Q r := by
  generalize hn : r.sz = n
  induction n using Nat.strongRecOn generalizing r with
  | ind n ih => exact h r fun p hp => ih p.sz (by have := RT.sz_lt hp; omega) p rfl
theorem szL_append (a b : List RT) : szL (a ++ b) = szL a + szL b := by
  induction a with
  | nil => simp [szL]
  | cons x a ih => rw [List.cons_append, szL, szL, ih]; omega
theorem szL_take {l : List RT} {i : Nat} (hi : i < l.length) : szL (l.take (i + 1)) = szL (l.take i) + l[i].sz := by
  rw [List.take_succ_eq_append_getElem hi, szL_append]
  simp [szL]
mutual
def RT.Ok : RT → Prop | .mk k a b ps => (-9223372036854775808 ≤ k ∧ k ≤ 9223372036854775807) ∧ a.size ≤ 140737488351232 ∧ b.size ≤ 140737488351232 ∧ okL ps
def okL : List RT → Prop | [] => True | r :: rs => r.Ok ∧ okL rs
end
theorem okL_mem : ∀ {ps : List RT}, okL ps ↔ ∀ p ∈ ps, p.Ok
  | [] => by simp [okL]
  | r :: rs => by rw [okL, okL_mem]; simp
theorem RT.ok_iff (r : RT) : r.Ok ↔ (-9223372036854775808 ≤ r.k ∧ r.k ≤ 9223372036854775807) ∧ r.a.size ≤ 140737488351232 ∧ r.b.size ≤ 140737488351232 ∧ ∀ p ∈ r.ps, p.Ok := by
  obtain ⟨k, a, b, ps⟩ := r
  rw [RT.Ok, okL_mem]
  rfl
def rC (x : RT × Value) : List Value := [.int .i64 x.1.k, .string x.1.a, .string x.1.b, x.2]
theorem rC_length (x : RT × Value) : (rC x).length = 4 := rfl
mutual
def RTAt (S : Nat → Prop) (w : World) : RT → Value → Prop
  | .mk _ _ _ ps, v => ∃ l : List Value, RTsAt S w ps l ∧ Sl S w 4 v ((ps.zip l).flatMap rC)
def RTsAt (S : Nat → Prop) (w : World) : List RT → List Value → Prop
  | [], l => l = []
  | r :: rs, l => ∃ pv l', l = pv :: l' ∧ RTAt S w r pv ∧ RTsAt S w rs l'
end
theorem rtsAt_zip {S : Nat → Prop} {w : World} : ∀ {ps : List RT} {l : List Value}, RTsAt S w ps l → (ps.zip l).map (·.1) = ps ∧ ∀ x ∈ ps.zip l, RTAt S w x.1 x.2
  | [], l, h => by rw [RTsAt] at h; subst h; simp
  | r :: rs, l, h => by
    rw [RTsAt] at h
    obtain ⟨pv, l', rfl, h1, h2⟩ := h
    obtain ⟨h3, h4⟩ := rtsAt_zip h2
    refine ⟨by rw [List.zip_cons_cons, List.map_cons, h3], fun x hx => ?_⟩
    rw [List.zip_cons_cons] at hx
    rcases List.mem_cons.1 hx with rfl | hx
    · exact h1
    · exact h4 x hx
theorem rtsAt_of {S : Nat → Prop} {w : World} : ∀ {q : List (RT × Value)}, (∀ x ∈ q, RTAt S w x.1 x.2) → RTsAt S w (q.map (·.1)) (q.map (·.2))
  | [], _ => by rw [List.map_nil, List.map_nil, RTsAt]
  | x :: q, h => by
    rw [List.map_cons, List.map_cons, RTsAt]
    exact ⟨x.2, _, rfl, h x List.mem_cons_self, rtsAt_of fun y hy => h y (List.mem_cons_of_mem _ hy)⟩
theorem zip_maps {α β : Type} : ∀ (q : List (α × β)), (q.map (·.1)).zip (q.map (·.2)) = q
  | [] => rfl
  | x :: q => by rw [List.map_cons, List.map_cons, List.zip_cons_cons, zip_maps q]
theorem RTAt.iff {S : Nat → Prop} {w : World} (r : RT) (v : Value) : RTAt S w r v ↔ ∃ q : List (RT × Value), q.map (·.1) = r.ps ∧ (∀ x ∈ q, RTAt S w x.1 x.2) ∧ Sl S w 4 v (q.flatMap rC) := by
  obtain ⟨k, a, b, ps⟩ := r
  rw [RTAt]
  constructor
  · rintro ⟨l, h1, h2⟩
    exact ⟨_, (rtsAt_zip h1).1, (rtsAt_zip h1).2, h2⟩
  · rintro ⟨q, h1, h2, h3⟩
    refine ⟨q.map (·.2), ?_, ?_⟩
    · have := rtsAt_of h2
      rwa [h1] at this
    · rw [show ps = q.map (·.1) from h1.symm, zip_maps]
      exact h3
theorem RTAt.same {S : Nat → Prop} {w w' : World} {r : RT} {v : Value} (h : RTAt S w r v) (hs : Same S w w') : RTAt S w' r v := by
  induction r using RT.ind generalizing v with
  | h r ih =>
    obtain ⟨q, h1, h2, h3⟩ := (RTAt.iff r v).1 h
    exact (RTAt.iff r v).2 ⟨q, h1, fun x hx => ih x.1 (by rw [← h1]; exact List.mem_map_of_mem hx) (h2 x hx), h3.same hs⟩
theorem RTAt.mono {S S' : Nat → Prop} {w : World} {r : RT} {v : Value} (h : RTAt S w r v) (hs : ∀ b, S b → S' b) : RTAt S' w r v := by
  induction r using RT.ind generalizing v with
  | h r ih =>
    obtain ⟨q, h1, h2, h3⟩ := (RTAt.iff r v).1 h
    exact (RTAt.iff r v).2 ⟨q, h1, fun x hx => ih x.1 (by rw [← h1]; exact List.mem_map_of_mem hx) (h2 x hx), h3.mono hs⟩
theorem RTAt.up {w w' : World} {r : RT} {v : Value} (h : RTAt (· < w.heap.size) w r v) (hb : Below w.heap.size w w') : RTAt (· < w'.heap.size) w' r v :=
  (h.same (Same.below hb)).mono fun _ h => Nat.lt_of_lt_of_le h hb.size
theorem RTAt.rows {S : Nat → Prop} {w : World} {r : RT} {v : Value} (h : RTAt S w r v) :
    ∃ ao c, v = .slice ao r.ps.length c ∧ r.ps.length ≤ c ∧ c ≤ 9223372036854775807 ∧ ∀ i (hi : i < r.ps.length), ∃ b off pv, ao = some ⟨b, off, none⟩ ∧ S b ∧
      w.cell? ⟨b, off + i * 4, none⟩ = some (.int .i64 r.ps[i].k) ∧ w.cell? ⟨b, off + i * 4 + 1, none⟩ = some (.string r.ps[i].a) ∧ w.cell? ⟨b, off + i * 4 + 2, none⟩ = some (.string r.ps[i].b) ∧ w.cell? ⟨b, off + i * 4 + 3, none⟩ = some pv ∧ RTAt S w r.ps[i] pv := by
  obtain ⟨q, h1, h2, h3⟩ := (RTAt.iff r v).1 h
  have hlen : q.length = r.ps.length := by rw [← h1, List.length_map]
  obtain ⟨ao, c, rfl, h4, h5, hc⟩ := Sl.rows rC_length (by decide) h3
  refine ⟨ao, c, by rw [hlen], by omega, h5, fun i hi => ?_⟩
  have hiq : i < q.length := by omega
  obtain ⟨b, off, rfl, hb, hc⟩ := hc (by omega)
  have hget : r.ps[i] = q[i].1 := by simp only [← h1, List.getElem_map]
  rw [hget]
  exact ⟨b, off, q[i].2, rfl, hb, hc i hiq 0 _ rfl, hc i hiq 1 _ rfl, hc i hiq 2 _ rfl, hc i hiq 3 _ rfl, h2 _ (List.getElem_mem hiq)⟩
def rV (r : RT) (pv : Value) : Value := .agg #[.int .i64 r.k, .string r.a, .string r.b, pv]
structure TyS where
  name : ByteArray
  rels : List (ByteArray × RT)
instance : Inhabited TyS := ⟨⟨ByteArray.empty, []⟩⟩
def TyS.Ok (t : TyS) : Prop := t.name.size ≤ 140737488351232 ∧ ∀ r ∈ t.rels, r.1.size ≤ 140737488351232 ∧ r.2.Ok
def relC (x : (ByteArray × RT) × Value) : List Value := [.string x.1.1, .int .i64 x.1.2.k, .string x.1.2.a, .string x.1.2.b, x.2]
theorem relC_length (x : (ByteArray × RT) × Value) : (relC x).length = 5 := rfl
def RelsAt (S : Nat → Prop) (w : World) (l : List (ByteArray × RT)) (v : Value) : Prop := ∃ q : List ((ByteArray × RT) × Value), q.map (·.1) = l ∧ (∀ x ∈ q, RTAt S w x.1.2 x.2) ∧ Sl S w 5 v (q.flatMap relC)
def tyC (x : TyS × Value) : List Value := [.string x.1.name, x.2]
theorem tyC_length (x : TyS × Value) : (tyC x).length = 2 := rfl
def TysAt (S : Nat → Prop) (w : World) (l : List TyS) (v : Value) : Prop := ∃ q : List (TyS × Value), q.map (·.1) = l ∧ (∀ x ∈ q, RelsAt S w x.1.rels x.2) ∧ Sl S w 2 v (q.flatMap tyC)
section
variable {S S' : Nat → Prop} {w w' : World} {l : List (ByteArray × RT)} {ts : List TyS} {v : Value}
theorem RelsAt.same (h : RelsAt S w l v) (hs : Same S w w') : RelsAt S w' l v := by
  obtain ⟨q, h1, h2, h3⟩ := h
  exact ⟨q, h1, fun x hx => (h2 x hx).same hs, h3.same hs⟩
theorem RelsAt.mono (h : RelsAt S w l v) (hs : ∀ b, S b → S' b) : RelsAt S' w l v := by
  obtain ⟨q, h1, h2, h3⟩ := h
  exact ⟨q, h1, fun x hx => (h2 x hx).mono hs, h3.mono hs⟩
theorem RelsAt.up (h : RelsAt (· < w.heap.size) w l v) (hb : Below w.heap.size w w') : RelsAt (· < w'.heap.size) w' l v :=
  (h.same (Same.below hb)).mono fun _ h => Nat.lt_of_lt_of_le h hb.size
theorem TysAt.same (h : TysAt S w ts v) (hs : Same S w w') : TysAt S w' ts v := by
  obtain ⟨q, h1, h2, h3⟩ := h
  exact ⟨q, h1, fun x hx => (h2 x hx).same hs, h3.same hs⟩
theorem TysAt.mono (h : TysAt S w ts v) (hs : ∀ b, S b → S' b) : TysAt S' w ts v := by
  obtain ⟨q, h1, h2, h3⟩ := h
  exact ⟨q, h1, fun x hx => (h2 x hx).mono hs, h3.mono hs⟩
theorem TysAt.up (h : TysAt (· < w.heap.size) w ts v) (hb : Below w.heap.size w w') : TysAt (· < w'.heap.size) w' ts v :=
  (h.same (Same.below hb)).mono fun _ h => Nat.lt_of_lt_of_le h hb.size
theorem RelsAt.rows (h : RelsAt S w l v) :
    ∃ ao c, v = .slice ao l.length c ∧ l.length ≤ c ∧ c ≤ 9223372036854775807 ∧ ∀ i (hi : i < l.length), ∃ b off pv, ao = some ⟨b, off, none⟩ ∧ S b ∧ w.cell? ⟨b, off + i * 5, none⟩ = some (.string l[i].1) ∧
      w.cell? ⟨b, off + i * 5 + 1, none⟩ = some (.int .i64 l[i].2.k) ∧ w.cell? ⟨b, off + i * 5 + 2, none⟩ = some (.string l[i].2.a) ∧ w.cell? ⟨b, off + i * 5 + 3, none⟩ = some (.string l[i].2.b) ∧ w.cell? ⟨b, off + i * 5 + 4, none⟩ = some pv ∧ RTAt S w l[i].2 pv := by
  obtain ⟨q, h1, h2, h3⟩ := h
  have hlen : q.length = l.length := by rw [← h1, List.length_map]
  obtain ⟨ao, c, rfl, h4, h5, hc⟩ := Sl.rows relC_length (by decide) h3
  refine ⟨ao, c, by rw [hlen], by omega, h5, fun i hi => ?_⟩
  have hiq : i < q.length := by omega
  obtain ⟨b, off, rfl, hb, hc⟩ := hc (by omega)
  have hget : l[i] = q[i].1 := by simp only [← h1, List.getElem_map]
  rw [hget]
  exact ⟨b, off, q[i].2, rfl, hb, hc i hiq 0 _ rfl, hc i hiq 1 _ rfl, hc i hiq 2 _ rfl, hc i hiq 3 _ rfl, hc i hiq 4 _ rfl, h2 _ (List.getElem_mem hiq)⟩
theorem TysAt.rows (h : TysAt S w ts v) :
    ∃ ao c, v = .slice ao ts.length c ∧ ts.length ≤ c ∧ c ≤ 9223372036854775807 ∧ ∀ i (hi : i < ts.length), ∃ b off pv, ao = some ⟨b, off, none⟩ ∧ S b ∧ w.cell? ⟨b, off + i * 2, none⟩ = some (.string ts[i].name) ∧ w.cell? ⟨b, off + i * 2 + 1, none⟩ = some pv ∧ RelsAt S w ts[i].rels pv := by
  obtain ⟨q, h1, h2, h3⟩ := h
  have hlen : q.length = ts.length := by rw [← h1, List.length_map]
  obtain ⟨ao, c, rfl, h4, h5, hc⟩ := Sl.rows tyC_length (by decide) h3
  refine ⟨ao, c, by rw [hlen], by omega, h5, fun i hi => ?_⟩
  have hiq : i < q.length := by omega
  obtain ⟨b, off, rfl, hb, hc⟩ := hc (by omega)
  have hget : ts[i] = q[i].1 := by simp only [← h1, List.getElem_map]
  rw [hget]
  exact ⟨b, off, q[i].2, rfl, hb, hc i hiq 0 _ rfl, hc i hiq 1 _ rfl, h2 _ (List.getElem_mem hiq)⟩
end
end Go.Proofs.Ytjdigpfipmckhaa
namespace Go.Proofs.Ytjdigpfipmckhaa
open Go Go.RowKit
theorem szL_le (l : List RT) (i : Nat) : szL (l.take i) ≤ szL l := by
  conv => rhs; rw [← List.take_append_drop i l]
  rw [szL_append]
  omega
set_option maxRecDepth 100000 in
set_option maxHeartbeats 2000000 in
theorem sizeR_any (r : RT) : ∀ (pv : Value) (w : World), RTAt (· < w.heap.size) w r pv → r.sz ≤ 1000000 → Calls Try.prog 34 #[rV r pv] w fun e w' => e = .returned (.int .i64 r.sz) ∧ Below w.heap.size w w' := by
  induction r using RT.ind with
  | h r ih =>
  intro pv w hat hs
  obtain ⟨ao, c, rfl, hlc, hcm, hcell⟩ := hat.rows
  rw [RT.sz_eq] at hs
  have HC := Lib.hid hcell
  have HI := Lib.hid ih
  have HSZ := Lib.hid r.sz_eq
  have hbk := (Blk.made w #[.int .i64 r.k, .string r.a, .string r.b, .slice ao r.ps.length c] 66).cells
  have hb0 : Below w.heap.size w (w.alloc (.cells #[.int .i64 r.k, .string r.a, .string r.b, .slice ao r.ps.length c] 66)) := (Below.refl _ _).alloc (Nat.le_refl _) _
  have HB0 := Lib.hid hb0
  have HS := Lib.hid hs
  clear hat hcell ih hb0 hs
  unfold rV
  rw [HSZ.out]
  clear HSZ
  generalize hps : r.ps = ps at *
  clear hps
  go_enter Try.func34, Try.ntmps34
  go_wp2_with fail
  clear hbk
  go_loopw [3, 9] (fun nn ii wr => ∃ i : Nat, i ≤ ps.length ∧ ii = .int .i64 i ∧ nn = .int .i64 ((1 + szL (ps.take i) : Nat) : Int) ∧ Below w.heap.size w wr) (fun _ ii _ => ps.length - (intOf ii).toNat)
  case atStart => exact ⟨0, by omega, rfl, by simp [szL], HB0.out⟩
  case round =>
    obtain ⟨i, hi, rfl, rfl, hbel⟩ := hrel
    clear HB0
    by_cases hlt : i < ps.length
    · obtain ⟨b, off, pv2, rfl, hb, c0, c1, c2, c3, hat2⟩ := HC.out i hlt
      have d0 := (hbel.cell (p := ⟨b, off + i * 4, none⟩) hb).trans c0
      have d1 := (hbel.cell (p := ⟨b, off + i * 4 + 1, none⟩) hb).trans c1
      have d2 := (hbel.cell (p := ⟨b, off + i * 4 + 2, none⟩) hb).trans c2
      have d3 := (hbel.cell (p := ⟨b, off + i * 4 + 3, none⟩) hb).trans c3
      obtain ⟨ao2, c2', rfl, -⟩ := hat2.rows
      have hst := szL_take hlt
      have hle := szL_le ps (i + 1)
      have hsl := HS.out
      have hb1 := hbel.alloc hbel.size (.cells #[.int .i64 ps[i].k, .string ps[i].a, .string ps[i].b, .slice ao2 ps[i].ps.length c2'] 66)
      have HR := Lib.hid (HI.out ps[i] (List.getElem_mem hlt) _ _ (hat2.up hb1) (by have := szL_mem (List.getElem_mem hlt); omega))
      unfold rV at HR
      have HB1 := Lib.hid hb1
      have hbx := (Blk.made wr #[.int .i64 ps[i].k, .string ps[i].a, .string ps[i].b, .slice ao2 ps[i].ps.length c2'] 66).cells
      have HST := Lib.hid hst
      rw [hst] at hle
      clear c0 c1 c2 c3 hat2 hb1 hbel hst
      generalize ps[i] = p at *
      generalize szL (ps.take i) = sa at *
      go_wp2_with fail
      refine HR.out.mono ?_
      rintro e w5 ⟨rfl, hb5⟩
      have HB5 := Lib.hid (HB1.out.trans (hb5.mono HB1.out.size))
      clear HR hb5 hbx d0 d1 d2 d3 HB1
      generalize p.sz = ms at *
      go_wp2_with fail
      go_roundw
      case rel => exact ⟨i + 1, by omega, by go_num, by rw [HST.out]; go_num, HB5.out⟩
      case measure => simp [intOf]; omega
    · obtain rfl : i = ps.length := by omega
      rw [List.take_length]
      have HBE := Lib.hid hbel
      clear hbel
      go_wp2_with fail
      go_ret
      exact ⟨rfl, HBE.out⟩
end Go.Proofs.Ytjdigpfipmckhaa
namespace Go.Proofs.Ytjdigpfipmckhaa
open Go Go.RowKit
mutual
def RT.this : RT → Bool | .mk k _ _ ps => k == 1 || thisL ps
def thisL : List RT → Bool | [] => false | r :: rs => r.this || thisL rs
end
theorem thisL_eq : ∀ l : List RT, thisL l = l.any RT.this
  | [] => rfl
  | r :: rs => by rw [thisL, List.any_cons, thisL_eq rs]
theorem RT.this_eq (r : RT) : r.this = (r.k == 1 || r.ps.any RT.this) := by
  obtain ⟨k, a, b, ps⟩ := r
  rw [RT.this, thisL_eq]
  rfl
theorem wrap_in (x : Int) (h1 : -9223372036854775808 ≤ x) (h2 : x ≤ 9223372036854775807) : wrap64 x = x := by unfold wrap64; omega
set_option maxRecDepth 100000 in
set_option maxHeartbeats 2000000 in
theorem this06_any (r : RT) : ∀ (pv : Value) (w : World), RTAt (· < w.heap.size) w r pv → Calls Try.prog 32 #[rV r pv] w fun e w' => e = .returned (.bool r.this) ∧ Below w.heap.size w w' := by
  induction r using RT.ind with
  | h r ih =>
  intro pv w hat
  obtain ⟨ao, c, rfl, hlc, hcm, hcell⟩ := hat.rows
  have HC := Lib.hid hcell
  have HI := Lib.hid ih
  have hbk := (Blk.made w #[.int .i64 r.k, .string r.a, .string r.b, .slice ao r.ps.length c] 66).cells
  have hb0 : Below w.heap.size w (w.alloc (.cells #[.int .i64 r.k, .string r.a, .string r.b, .slice ao r.ps.length c] 66)) := (Below.refl _ _).alloc (Nat.le_refl _) _
  have HB0 := Lib.hid hb0
  clear hat hcell ih hb0
  have HE := Lib.hid r.this_eq
  unfold rV
  rw [HE.out]
  clear HE
  generalize r.ps = ps at *
  generalize r.k = k at *
  by_cases hk : k = 1
  · subst hk
    go_enter Try.func32, Try.ntmps32
    go_wp2_with fail
    go_ret
    exact ⟨rfl, HB0.out⟩
  have hkf : (k == 1) = false := by rw [beq_eq_false_iff_ne]; exact hk
  rw [hkf, Bool.false_or]
  clear hk
  go_enter Try.func32, Try.ntmps32
  go_wp2_with fail
  clear hbk
  go_loopw [11] (fun ii wr => ∃ i : Nat, i ≤ ps.length ∧ ii = .int .i64 i ∧ (∀ j (hj : j < ps.length), j < i → ps[j].this = false) ∧ Below w.heap.size w wr) (fun ii _ => ps.length - (intOf ii).toNat)
  case atStart => exact ⟨0, by omega, rfl, fun _ _ h => absurd h (by omega), HB0.out⟩
  case round =>
    obtain ⟨i, hi, rfl, hall, hbel⟩ := hrel
    have HALL := Lib.hid hall
    clear HB0 hall
    by_cases hlt : i < ps.length
    · have HUP := fun h => Lib.hid (upto_succ (p := fun j hj => ps[j].this = false) HALL.out hlt h)
      have HAN := fun (h : ps[i].this = true) => Lib.hid (show ps.any RT.this = true from List.any_eq_true.2 ⟨ps[i], List.getElem_mem hlt, h⟩)
      obtain ⟨b, off, pv2, hbo, hb, c0, c1, c2, c3, hat2⟩ := HC.out i hlt
      cases hbo
      have d0 := (hbel.cell (p := ⟨b, off + i * 4, none⟩) hb).trans c0
      have d1 := (hbel.cell (p := ⟨b, off + i * 4 + 1, none⟩) hb).trans c1
      have d2 := (hbel.cell (p := ⟨b, off + i * 4 + 2, none⟩) hb).trans c2
      have d3 := (hbel.cell (p := ⟨b, off + i * 4 + 3, none⟩) hb).trans c3
      obtain ⟨ao2, c2', rfl, -⟩ := hat2.rows
      have hb1 := hbel.alloc hbel.size (.cells #[.int .i64 ps[i].k, .string ps[i].a, .string ps[i].b, .slice ao2 ps[i].ps.length c2'] 66)
      have hat3 := hat2.up hb1
      have hbx := (Blk.made wr #[.int .i64 ps[i].k, .string ps[i].a, .string ps[i].b, .slice ao2 ps[i].ps.length c2'] 66).cells
      have HB1 := Lib.hid hb1
      clear c0 c1 c2 c3 hat2 hb1 hbel
      have HR := Lib.hid (HI.out ps[i] (List.getElem_mem hlt) _ _ hat3)
      unfold rV at HR
      clear hat3
      generalize ps[i] = p at *
      cases hpt : p.this with
      | true =>
        rw [hpt] at HR
        have HT := HAN hpt
        clear HUP HAN hpt
        go_wp2_with fail
        refine HR.out.mono ?_
        rintro e w5 ⟨rfl, hb5⟩
        have HB5 := Lib.hid (HB1.out.trans (hb5.mono HB1.out.size))
        clear HR hb5 hbx d0 d1 d2 d3 HB1
        go_wp2_with fail
        go_ret
        exact ⟨by rw [HT.out]; rfl, HB5.out⟩
      | false =>
        rw [hpt] at HR
        have HN := HUP hpt
        clear HUP HAN hpt
        go_wp2_with fail
        refine HR.out.mono ?_
        rintro e w5 ⟨rfl, hb5⟩
        have HB5 := Lib.hid (HB1.out.trans (hb5.mono HB1.out.size))
        clear HR hb5 hbx d0 d1 d2 d3 HB1
        go_wp2_with fail
        go_roundw
        case rel => exact ⟨i + 1, by omega, by go_num, HN.out, HB5.out⟩
        case measure => simp [intOf]; omega
    · obtain rfl : i = ps.length := by omega
      have HF := Lib.hid (show ps.any RT.this = false from by
        rw [List.any_eq_false]
        intro x hx
        obtain ⟨j, hj, rfl⟩ := List.getElem_of_mem hx
        rw [HALL.out j hj hj]
        exact Bool.false_ne_true)
      have HBE := Lib.hid hbel
      clear hbel
      go_wp2_with fail
      go_ret
      exact ⟨by rw [HF.out]; rfl, HBE.out⟩
end Go.Proofs.Ytjdigpfipmckhaa
namespace Go.Proofs.Ytjdigpfipmckhaa
open Go Go.RowKit
theorem ba_size_ne {a : ByteArray} (h : a.size ≠ 0) : a.toList.isEmpty = false := by
  rw [ByteArray.toList_eq]
  cases h' : a.data.toList with
  | nil => exact absurd (by have := congrArg List.length h'; simpa using this) h
  | cons => rfl
theorem ba_size_eq {a : ByteArray} (h : a.size = 0) : a = ⟨#[]⟩ := by
  refine ByteArray.ext (Array.eq_empty_of_size_eq_zero h)
def okc (c : UInt8) : Bool := decide ((97 ≤ (c.toNat : Int) ∧ (c.toNat : Int) ≤ 122) ∨ (48 ≤ (c.toNat : Int) ∧ (c.toNat : Int) ≤ 57) ∨ (c.toNat : Int) = 95 ∨ (c.toNat : Int) = 45)
def isNm (s : ByteArray) : Bool := s.data.toList.all okc && (decide (1 ≤ s.size) && decide (s.size ≤ 32))
theorem isNm_bad {s : ByteArray} {i : Nat} (hi : i < s.size) (h : okc s[i] = false) : isNm s = false := by
  unfold isNm
  rw [Bool.and_eq_false_iff]
  left
  rw [List.all_eq_false]
  exact ⟨s[i], by rw [show s[i] = s.data.toList[i]'(by simpa using hi) from rfl]; exact List.getElem_mem _, by simpa using h⟩
theorem isNm_end {s : ByteArray} (h : ∀ j (hj : j < s.size), j < s.size → okc s[j] = true) : isNm s = (decide (1 ≤ s.size) && decide (s.size ≤ 32)) := by
  unfold isNm
  rw [show s.data.toList.all okc = true from ?_, Bool.true_and]
  rw [List.all_eq_true]
  intro x hx
  obtain ⟨j, hj, rfl⟩ := List.getElem_of_mem hx
  have hj' : j < s.size := by simpa using hj
  exact h j hj' hj'
set_option maxRecDepth 100000 in
set_option maxHeartbeats 1600000 in
theorem isName_any (s : ByteArray) (hs : s.size ≤ maxLen) (w : World) : Calls Try.prog 46 #[.string s] w fun e w' => e = .returned (.bool (isNm s)) ∧ w' = w := by
  have hsz : s.size ≤ 9223372036854775807 := by unfold maxLen at hs; omega
  clear hs
  go_enter Try.func46, Try.ntmps46
  go_wp2_with fail
  go_loopw [7] (fun ii wr => ∃ i : Nat, i ≤ s.size ∧ ii = .int .i64 i ∧ (∀ j (hj : j < s.size), j < i → okc s[j] = true) ∧ wr = w) (fun ii _ => s.size - (intOf ii).toNat)
  case atStart => exact ⟨0, by omega, rfl, fun _ _ h => absurd h (by omega), rfl⟩
  case round =>
    obtain ⟨i, hi, rfl, hall, rfl⟩ := hrel
    have HALL := Lib.hid hall
    clear hall
    by_cases hlt : i < s.size
    · go_wp2_with fail
      all_goals first
        | (refine ⟨⟨i + 1, by omega, by go_num, upto_succ (p := fun j hj => okc s[j] = true) HALL.out hlt ?_, trivial⟩, by simp [intOf]; omega⟩
           unfold okc
           rw [decide_eq_true_iff]
           try simp only [beq_iff_eq, beq_eq_false_iff_ne, ne_eq] at *
           omega)
        | (go_ret
           refine ⟨?_, rfl⟩
           rw [isNm_bad hlt (by
             unfold okc
             rw [decide_eq_false_iff_not]
             try simp only [beq_eq_false_iff_ne, ne_eq] at *
             omega)]
           rfl)
    · obtain rfl : i = s.size := by omega
      have HE := Lib.hid (isNm_end HALL.out)
      by_cases h0 : s.size = 0
      · obtain rfl := ba_size_eq h0
        clear h0
        go_wp2_with fail
        go_ret
        exact ⟨by rw [HE.out]; rfl, rfl⟩
      · have hne := ba_size_ne h0
        have h1 : 1 ≤ s.size := by omega
        have HE2 := Lib.hid (show isNm s = decide ((s.size : Int) ≤ 32) from by
          rw [HE.out, decide_eq_true h1, Bool.true_and]
          by_cases h : s.size ≤ 32
          · rw [decide_eq_true h, decide_eq_true (by omega)]
          · rw [decide_eq_false h, decide_eq_false (by omega)])
        clear HE h0 h1
        go_wp2_with fail
        go_ret
        exact ⟨by rw [HE2.out]; rfl, rfl⟩
set_option maxRecDepth 100000 in
set_option maxHeartbeats 1600000 in
theorem refName_any (s : ByteArray) (hs : s.size ≤ maxLen) (w : World) : Calls Try.prog 49 #[.string s] w fun e w' => e = .returned (.bool (isNm s)) ∧ w' = w := by
  have hsz : s.size ≤ 9223372036854775807 := by unfold maxLen at hs; omega
  clear hs
  go_enter Try.func49, Try.ntmps49
  go_wp2_with fail
  go_loopw [3] (fun ii wr => ∃ i : Nat, i ≤ s.size ∧ ii = .int .i64 i ∧ (∀ j (hj : j < s.size), j < i → okc s[j] = true) ∧ wr = w) (fun ii _ => s.size - (intOf ii).toNat)
  case atStart => exact ⟨0, by omega, rfl, fun _ _ h => absurd h (by omega), rfl⟩
  case round =>
    obtain ⟨i, hi, rfl, hall, rfl⟩ := hrel
    have HALL := Lib.hid hall
    clear hall
    by_cases hlt : i < s.size
    · go_wp2_with fail
      all_goals first
        | (refine ⟨⟨i + 1, by omega, by go_num, upto_succ (p := fun j hj => okc s[j] = true) HALL.out hlt ?_, trivial⟩, by simp [intOf]; omega⟩
           unfold okc
           rw [decide_eq_true_iff]
           (try simp at *) <;> omega)
        | (go_ret
           refine ⟨?_, rfl⟩
           rw [isNm_bad hlt (by
             unfold okc
             rw [decide_eq_false_iff_not]
             (try simp at *) <;> omega)]
           rfl)
    · obtain rfl : i = s.size := by omega
      have HE := Lib.hid (isNm_end HALL.out)
      by_cases h0 : s.size = 0
      · obtain rfl := ba_size_eq h0
        clear h0
        go_wp2_with fail
        go_ret
        exact ⟨by rw [HE.out]; rfl, rfl⟩
      · have h1 : 1 ≤ s.size := by omega
        have h2 : (1 : Int) ≤ (s.size : Int) := by omega
        have HE2 := Lib.hid (show isNm s = decide ((s.size : Int) ≤ 32) from by
          rw [HE.out, decide_eq_true h1, Bool.true_and]
          by_cases h : s.size ≤ 32
          · rw [decide_eq_true h, decide_eq_true (by omega)]
          · rw [decide_eq_false h, decide_eq_false (by omega)])
        clear HE h0 h1
        go_wp2_with fail
        go_ret
        exact ⟨by rw [HE2.out]; rfl, rfl⟩
def ownB (s : ByteArray) : Bool := isNm s && decide (s ≠ ⟨#[116, 104, 105, 115]⟩)
end Go.Proofs.Ytjdigpfipmckhaa
