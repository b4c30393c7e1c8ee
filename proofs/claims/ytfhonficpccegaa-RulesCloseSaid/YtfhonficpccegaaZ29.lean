/- The walk of can. No condition: lemmas. -/
import Derived.Test.YtfhonficpccegaaZ28
namespace Go.Proofs.Ytfhonficpccegaa
open Go Go.RowKit Go.Maps Go.Shelf

mutual
/-- Can a rule's relation have members, when those of S can? -/
def RT.pcan (P : List (R2 × RT)) (S : List R2) (typ : ByteArray) : RT → Bool
  | .mk k a b ps => if k = 1 then true else if k = 2 then decide ((⟨typ, a⟩ : R2) ∈ S) else if k = 3 then decide ((⟨typ, a⟩ : R2) ∈ S) && (whereP P b).any fun n => decide ((⟨n, b⟩ : R2) ∈ S) else if k = 4 then pcanN P S typ ps || decide (ps.length = 0) else pcanL P S typ ps
def pcanN (P : List (R2 × RT)) (S : List R2) (typ : ByteArray) : List RT → Bool | [] => false | r :: rs => r.pcan P S typ || pcanN P S typ rs
def pcanL (P : List (R2 × RT)) (S : List R2) (typ : ByteArray) : List RT → Bool | [] => true | r :: rs => r.pcan P S typ && pcanL P S typ rs
end
theorem pcanN_eq (P : List (R2 × RT)) (S : List R2) (typ : ByteArray) : ∀ l : List RT, pcanN P S typ l = l.any fun r => r.pcan P S typ
  | [] => rfl
  | r :: rs => by rw [pcanN, List.any_cons, pcanN_eq P S typ rs]
theorem pcanL_eq (P : List (R2 × RT)) (S : List R2) (typ : ByteArray) : ∀ l : List RT, pcanL P S typ l = l.all fun r => r.pcan P S typ
  | [] => rfl
  | r :: rs => by rw [pcanL, List.all_cons, pcanL_eq P S typ rs]
theorem set_look {w : World} {b : Nat} {S : List R2} (h : Mp Try.prog 43 r2V bV w b (blR S)) (x : R2) (hx : x.Ok) : (Instr.lookup 68 (.map (some b)) (r2V x) false).run Try.prog w = .ok (.bool (decide (x ∈ S))) w := by
  have := h.look refK r2V_inj Try.underlying68 (Try.zeroValue4 w) false (ref_key x hx)
  rw [this, look_blR]
  by_cases hin : x ∈ S
  · rw [if_pos hin, decide_eq_true hin]; rfl
  · rw [if_neg hin, decide_eq_false hin]; rfl

set_option maxRecDepth 100000 in
set_option maxHeartbeats 2000000 in
theorem can1_any {b1 b2 b3 bs : Nat} {typ : ByteArray} (p : RT) (pv : Value) (X Y M : Nat) (w : World) (g : Bool) (hX : Blk w X #[.map (some b1), .map (some b2), .map (some b3)] 74) (hY : Blk w Y #[.string typ] 9) (hMc : Blk w M #[.map (some bs)] 68) (hat : RTAt (· < w.heap.size) w p pv)
    (h : Calls Try.prog 36 #[.agg #[.map (some b1), .map (some b2), .map (some b3)], .string typ, rV p pv, .map (some bs)] (w.alloc (.cells #[.int .i64 p.k, .string p.a, .string p.b, pv] 46)) fun e w' => e = .returned (.bool g) ∧ Below w.heap.size w w') :
    Calls Try.prog 68 #[rV p pv, .pointer (some ⟨X, 0, none⟩), .pointer (some ⟨Y, 0, none⟩), .pointer (some ⟨M, 0, none⟩)] w fun e w' => e = .returned (.bool g) ∧ Below w.heap.size w w' := by
  have HC := Lib.hid h
  obtain ⟨ao, c, rfl, -⟩ := hat.rows
  have hb := (Blk.made w #[.int .i64 p.k, .string p.a, .string p.b, .slice ao p.ps.length c] 46).cells
  have hx := (hX.alloc (.cells #[.int .i64 p.k, .string p.a, .string p.b, .slice ao p.ps.length c] 46)).cells
  have hy := (hY.alloc (.cells #[.int .i64 p.k, .string p.a, .string p.b, .slice ao p.ps.length c] 46)).cells
  have hm := (hMc.alloc (.cells #[.int .i64 p.k, .string p.a, .string p.b, .slice ao p.ps.length c] 46)).cells
  clear h hX hY hMc hat
  unfold rV at HC ⊢
  go_enter Try.func68, Try.ntmps68
  go_wp2_with fail
  refine HC.out.mono ?_
  rintro e w2 ⟨rfl, hb2⟩
  have HB := Lib.hid hb2
  clear HC hb hx hy hm hb2
  go_wp2_with fail
  go_ret
  exact ⟨rfl, HB.out⟩

set_option maxRecDepth 100000 in
set_option maxHeartbeats 2000000 in
theorem can2_any {bs : Nat} {S : List R2} (t ra rb : ByteArray) (k : Int) (pv : Value) (M Z : Nat) (w : World) (ht : t.size ≤ maxLen) (hrb : rb.size ≤ maxLen) (hMc : Blk w M #[.map (some bs)] 68) (hZ : Blk w Z #[.int .i64 k, .string ra, .string rb, pv] 46) (hM : Mp Try.prog 43 r2V bV w bs (blR S)) :
    Calls Try.prog 70 #[.string t, .pointer (some ⟨M, 0, none⟩), .pointer (some ⟨Z, 0, none⟩)] w fun e w' => e = .returned (.bool (decide ((⟨t, rb⟩ : R2) ∈ S))) ∧ Below w.heap.size w w' := by
  have hl := set_look hM ⟨t, rb⟩ ⟨ht, hrb⟩
  unfold r2V at hl
  dsimp only at hl
  have hm := hMc.cells
  have hz := hZ.cells
  clear hMc hZ hM ht hrb
  go_enter Try.func70, Try.ntmps70
  go_wp2_with fail
  go_ret
  exact ⟨rfl, Below.refl _ _⟩

set_option maxRecDepth 100000 in
set_option maxHeartbeats 2000000 in
theorem can3_any (p : RT) (pv : Value) (F : Nat) (cap : Array Value) (w : World) (g : Bool) (hF : Blk w F #[.func (.func 68) #[] cap] 84) (hat : RTAt (· < w.heap.size) w p pv)
    (h : Calls Try.prog 68 (#[rV p pv] ++ cap) (w.alloc (.cells #[.int .i64 p.k, .string p.a, .string p.b, pv] 46)) fun e w' => e = .returned (.bool g) ∧ Below w.heap.size w w') :
    Calls Try.prog 71 #[rV p pv, .pointer (some ⟨F, 0, none⟩)] w fun e w' => e = .returned (.bool (!g)) ∧ Below w.heap.size w w' := by
  have HC := Lib.hid h
  obtain ⟨ao, c, rfl, -⟩ := hat.rows
  have hb := (Blk.made w #[.int .i64 p.k, .string p.a, .string p.b, .slice ao p.ps.length c] 46).cells
  have hf := (hF.alloc (.cells #[.int .i64 p.k, .string p.a, .string p.b, .slice ao p.ps.length c] 46)).cells
  have eg := enters_of Try.func68 (by kernel_rfl) rfl
  clear h hF hat
  unfold rV at HC ⊢
  go_enter Try.func71, Try.ntmps71
  go_wp2_with fail
  refine HC.out.mono ?_
  rintro e w2 ⟨rfl, hb2⟩
  have HB := Lib.hid hb2
  clear HC hb hf hb2 eg
  go_wp2_with fail
  go_ret
  exact ⟨rfl, HB.out⟩

set_option maxRecDepth 100000 in
set_option maxHeartbeats 4000000 in
theorem can_any {b1 b2 b3 bs : Nat} {ts : List TyS} {S : List R2} (typ : ByteArray) (htyp : typ.size ≤ maxLen) (hokt : ∀ t ∈ ts, t.Ok) (r : RT) : ∀ (pv : Value) (w : World), Bk w b1 b2 b3 ts → RTAt (· < w.heap.size) w r pv → r.Ok → Mp Try.prog 43 r2V bV w bs (blR S) →
    Calls Try.prog 36 #[.agg #[.map (some b1), .map (some b2), .map (some b3)], .string typ, rV r pv, .map (some bs)] w fun e w' => e = .returned (.bool (r.pcan (refsOf ts) S typ)) ∧ Below w.heap.size w w' := by
  have HOKT := Lib.hid hokt
  clear hokt
  induction r using RT.ind with
  | h r ih =>
  intro pv w hbk hat hok hM
  obtain ⟨-, hoa, hob, hop⟩ := r.ok_iff.1 hok
  obtain ⟨k, ra, rb, ps⟩ := r
  obtain ⟨ao, c, rfl, -⟩ := hat.rows
  dsimp only [RT.a, RT.b] at hoa hob
  dsimp only [RT.ps] at hop ih
  have IH := Lib.hid ih
  have HOP := Lib.hid hop
  have HRA := Lib.hid (show ra.size ≤ maxLen from by unfold maxLen; omega)
  have HRB := Lib.hid (show rb.size ≤ maxLen from by unfold maxLen; omega)
  unfold rV
  dsimp only [RT.k, RT.a, RT.b, RT.ps]
  clear ih hop hoa hob hok
  by_cases k1 : k = 1
  · subst k1
    have HE := Lib.hid (show (RT.mk 1 ra rb ps).pcan (refsOf ts) S typ = (true) from by rw [RT.pcan]; rfl)
    obtain ⟨wx, hwx⟩ : ∃ x, x = w.alloc (.cells #[.map (some b1), .map (some b2), .map (some b3)] 74) := ⟨_, rfl⟩
    obtain ⟨wy, hwy⟩ : ∃ x, x = wx.alloc (.cells #[.string typ] 9) := ⟨_, rfl⟩
    obtain ⟨wz, hwz⟩ : ∃ x, x = wy.alloc (.cells #[.int .i64 1, .string ra, .string rb, .slice ao ps.length c] 46) := ⟨_, rfl⟩
    obtain ⟨wm, hwm⟩ : ∃ x, x = wz.alloc (.cells #[.map (some bs)] 68) := ⟨_, rfl⟩
    obtain ⟨wf, hwf⟩ : ∃ x, x = wm.alloc (.cells #[.func (.func 68) #[] #[.pointer (some ⟨w.heap.size, 0, none⟩), .pointer (some ⟨w.heap.size + 1, 0, none⟩), .pointer (some ⟨w.heap.size + 1 + 1 + 1, 0, none⟩)]] 84) := ⟨_, rfl⟩
    have ex : wx.heap.size = w.heap.size + 1 := by rw [hwx]; simp
    have ey : wy.heap.size = w.heap.size + 1 + 1 := by rw [hwy]; simp [ex]
    have ez : wz.heap.size = w.heap.size + 1 + 1 + 1 := by rw [hwz]; simp [ey]
    have em : wm.heap.size = w.heap.size + 1 + 1 + 1 + 1 := by rw [hwm]; simp [ez]
    have xwx : Ext w wx := by rw [hwx]; exact Ext.alloc _ _
    have xxy : Ext wx wy := by rw [hwy]; exact Ext.alloc _ _
    have xyz : Ext wy wz := by rw [hwz]; exact Ext.alloc _ _
    have xzm : Ext wz wm := by rw [hwm]; exact Ext.alloc _ _
    have xmf : Ext wm wf := by rw [hwf]; exact Ext.alloc _ _
    have HX := Lib.hid (show Blk wf w.heap.size #[.map (some b1), .map (some b2), .map (some b3)] 74 from Blk.below (by rw [hwx]; exact Blk.made _ _ _) (xxy.trans (xyz.trans (xzm.trans xmf))))
    have HY := Lib.hid (show Blk wf (w.heap.size + 1) #[.string typ] 9 from Blk.below (by rw [hwy, ← ex]; exact Blk.made _ _ _) (xyz.trans (xzm.trans xmf)))
    have HZ := Lib.hid (show Blk wf (w.heap.size + 1 + 1) #[.int .i64 1, .string ra, .string rb, .slice ao ps.length c] 46 from Blk.below (by rw [hwz, ← ey]; exact Blk.made _ _ _) (xzm.trans xmf))
    have HMC := Lib.hid (show Blk wf (w.heap.size + 1 + 1 + 1) #[.map (some bs)] 68 from Blk.below (by rw [hwm, ← ez]; exact Blk.made _ _ _) xmf)
    have HFC := Lib.hid (show Blk wf (w.heap.size + 1 + 1 + 1 + 1) #[.func (.func 68) #[] #[.pointer (some ⟨w.heap.size, 0, none⟩), .pointer (some ⟨w.heap.size + 1, 0, none⟩), .pointer (some ⟨w.heap.size + 1 + 1 + 1, 0, none⟩)]] 84 from by rw [hwf, ← em]; exact Blk.made _ _ _)
    have HXF := Lib.hid (show Below w.heap.size w wf from xwx.trans (xxy.trans (xyz.trans (xzm.trans xmf))))
    have HBKF := Lib.hid (hbk.up HXF.out)
    have HMF := Lib.hid (hM.below HXF.out)
    have hmf : ∀ (fn : Fn) (first cap : Array Value) (W : World), (Instr.makeFunc fn first cap).run Try.prog W = .ok (.func fn first cap) W := fun _ _ _ _ => rfl
    have cx := HX.out.cells
    have cy := HY.out.cells
    have cz := HZ.out.cells
    have cm := HMC.out.cells
    have cf := HFC.out.cells
    clear hbk hM hat ex ey ez em xwx xxy xyz xzm xmf
    subst hwf hwm hwz hwy hwx
    go_enter Try.func36, Try.ntmps36
    go_wp2_with fail
    go_ret
    exact ⟨by rw [HE.out]; rfl, HXF.out⟩
  by_cases k2 : k = 2
  · subst k2
    clear k1
    have HE := Lib.hid (show (RT.mk 2 ra rb ps).pcan (refsOf ts) S typ = (decide ((⟨typ, ra⟩ : R2) ∈ S)) from by rw [RT.pcan]; rfl)
    obtain ⟨wx, hwx⟩ : ∃ x, x = w.alloc (.cells #[.map (some b1), .map (some b2), .map (some b3)] 74) := ⟨_, rfl⟩
    obtain ⟨wy, hwy⟩ : ∃ x, x = wx.alloc (.cells #[.string typ] 9) := ⟨_, rfl⟩
    obtain ⟨wz, hwz⟩ : ∃ x, x = wy.alloc (.cells #[.int .i64 2, .string ra, .string rb, .slice ao ps.length c] 46) := ⟨_, rfl⟩
    obtain ⟨wm, hwm⟩ : ∃ x, x = wz.alloc (.cells #[.map (some bs)] 68) := ⟨_, rfl⟩
    obtain ⟨wf, hwf⟩ : ∃ x, x = wm.alloc (.cells #[.func (.func 68) #[] #[.pointer (some ⟨w.heap.size, 0, none⟩), .pointer (some ⟨w.heap.size + 1, 0, none⟩), .pointer (some ⟨w.heap.size + 1 + 1 + 1, 0, none⟩)]] 84) := ⟨_, rfl⟩
    have ex : wx.heap.size = w.heap.size + 1 := by rw [hwx]; simp
    have ey : wy.heap.size = w.heap.size + 1 + 1 := by rw [hwy]; simp [ex]
    have ez : wz.heap.size = w.heap.size + 1 + 1 + 1 := by rw [hwz]; simp [ey]
    have em : wm.heap.size = w.heap.size + 1 + 1 + 1 + 1 := by rw [hwm]; simp [ez]
    have xwx : Ext w wx := by rw [hwx]; exact Ext.alloc _ _
    have xxy : Ext wx wy := by rw [hwy]; exact Ext.alloc _ _
    have xyz : Ext wy wz := by rw [hwz]; exact Ext.alloc _ _
    have xzm : Ext wz wm := by rw [hwm]; exact Ext.alloc _ _
    have xmf : Ext wm wf := by rw [hwf]; exact Ext.alloc _ _
    have HX := Lib.hid (show Blk wf w.heap.size #[.map (some b1), .map (some b2), .map (some b3)] 74 from Blk.below (by rw [hwx]; exact Blk.made _ _ _) (xxy.trans (xyz.trans (xzm.trans xmf))))
    have HY := Lib.hid (show Blk wf (w.heap.size + 1) #[.string typ] 9 from Blk.below (by rw [hwy, ← ex]; exact Blk.made _ _ _) (xyz.trans (xzm.trans xmf)))
    have HZ := Lib.hid (show Blk wf (w.heap.size + 1 + 1) #[.int .i64 2, .string ra, .string rb, .slice ao ps.length c] 46 from Blk.below (by rw [hwz, ← ey]; exact Blk.made _ _ _) (xzm.trans xmf))
    have HMC := Lib.hid (show Blk wf (w.heap.size + 1 + 1 + 1) #[.map (some bs)] 68 from Blk.below (by rw [hwm, ← ez]; exact Blk.made _ _ _) xmf)
    have HFC := Lib.hid (show Blk wf (w.heap.size + 1 + 1 + 1 + 1) #[.func (.func 68) #[] #[.pointer (some ⟨w.heap.size, 0, none⟩), .pointer (some ⟨w.heap.size + 1, 0, none⟩), .pointer (some ⟨w.heap.size + 1 + 1 + 1, 0, none⟩)]] 84 from by rw [hwf, ← em]; exact Blk.made _ _ _)
    have HXF := Lib.hid (show Below w.heap.size w wf from xwx.trans (xxy.trans (xyz.trans (xzm.trans xmf))))
    have HBKF := Lib.hid (hbk.up HXF.out)
    have HMF := Lib.hid (hM.below HXF.out)
    have hmf : ∀ (fn : Fn) (first cap : Array Value) (W : World), (Instr.makeFunc fn first cap).run Try.prog W = .ok (.func fn first cap) W := fun _ _ _ _ => rfl
    have cx := HX.out.cells
    have cy := HY.out.cells
    have cz := HZ.out.cells
    have cm := HMC.out.cells
    have cf := HFC.out.cells
    have hl := set_look HMF.out ⟨typ, ra⟩ ⟨htyp, HRA.out⟩
    unfold r2V at hl
    dsimp only at hl
    clear hbk hM hat ex ey ez em xwx xxy xyz xzm xmf
    subst hwf hwm hwz hwy hwx
    go_enter Try.func36, Try.ntmps36
    go_wp2_with fail
    go_ret
    exact ⟨by rw [HE.out]; rfl, HXF.out⟩
  by_cases k3 : k = 3
  · subst k3
    clear k1 k2
    have HE := Lib.hid (show (RT.mk 3 ra rb ps).pcan (refsOf ts) S typ = (decide ((⟨typ, ra⟩ : R2) ∈ S) && (whereP (refsOf ts) rb).any fun n => decide ((⟨n, rb⟩ : R2) ∈ S)) from by rw [RT.pcan]; rfl)
    obtain ⟨wx, hwx⟩ : ∃ x, x = w.alloc (.cells #[.map (some b1), .map (some b2), .map (some b3)] 74) := ⟨_, rfl⟩
    obtain ⟨wy, hwy⟩ : ∃ x, x = wx.alloc (.cells #[.string typ] 9) := ⟨_, rfl⟩
    obtain ⟨wz, hwz⟩ : ∃ x, x = wy.alloc (.cells #[.int .i64 3, .string ra, .string rb, .slice ao ps.length c] 46) := ⟨_, rfl⟩
    obtain ⟨wm, hwm⟩ : ∃ x, x = wz.alloc (.cells #[.map (some bs)] 68) := ⟨_, rfl⟩
    obtain ⟨wf, hwf⟩ : ∃ x, x = wm.alloc (.cells #[.func (.func 68) #[] #[.pointer (some ⟨w.heap.size, 0, none⟩), .pointer (some ⟨w.heap.size + 1, 0, none⟩), .pointer (some ⟨w.heap.size + 1 + 1 + 1, 0, none⟩)]] 84) := ⟨_, rfl⟩
    have ex : wx.heap.size = w.heap.size + 1 := by rw [hwx]; simp
    have ey : wy.heap.size = w.heap.size + 1 + 1 := by rw [hwy]; simp [ex]
    have ez : wz.heap.size = w.heap.size + 1 + 1 + 1 := by rw [hwz]; simp [ey]
    have em : wm.heap.size = w.heap.size + 1 + 1 + 1 + 1 := by rw [hwm]; simp [ez]
    have xwx : Ext w wx := by rw [hwx]; exact Ext.alloc _ _
    have xxy : Ext wx wy := by rw [hwy]; exact Ext.alloc _ _
    have xyz : Ext wy wz := by rw [hwz]; exact Ext.alloc _ _
    have xzm : Ext wz wm := by rw [hwm]; exact Ext.alloc _ _
    have xmf : Ext wm wf := by rw [hwf]; exact Ext.alloc _ _
    have HX := Lib.hid (show Blk wf w.heap.size #[.map (some b1), .map (some b2), .map (some b3)] 74 from Blk.below (by rw [hwx]; exact Blk.made _ _ _) (xxy.trans (xyz.trans (xzm.trans xmf))))
    have HY := Lib.hid (show Blk wf (w.heap.size + 1) #[.string typ] 9 from Blk.below (by rw [hwy, ← ex]; exact Blk.made _ _ _) (xyz.trans (xzm.trans xmf)))
    have HZ := Lib.hid (show Blk wf (w.heap.size + 1 + 1) #[.int .i64 3, .string ra, .string rb, .slice ao ps.length c] 46 from Blk.below (by rw [hwz, ← ey]; exact Blk.made _ _ _) (xzm.trans xmf))
    have HMC := Lib.hid (show Blk wf (w.heap.size + 1 + 1 + 1) #[.map (some bs)] 68 from Blk.below (by rw [hwm, ← ez]; exact Blk.made _ _ _) xmf)
    have HFC := Lib.hid (show Blk wf (w.heap.size + 1 + 1 + 1 + 1) #[.func (.func 68) #[] #[.pointer (some ⟨w.heap.size, 0, none⟩), .pointer (some ⟨w.heap.size + 1, 0, none⟩), .pointer (some ⟨w.heap.size + 1 + 1 + 1, 0, none⟩)]] 84 from by rw [hwf, ← em]; exact Blk.made _ _ _)
    have HXF := Lib.hid (show Below w.heap.size w wf from xwx.trans (xxy.trans (xyz.trans (xzm.trans xmf))))
    have HBKF := Lib.hid (hbk.up HXF.out)
    have HMF := Lib.hid (hM.below HXF.out)
    have hmf : ∀ (fn : Fn) (first cap : Array Value) (W : World), (Instr.makeFunc fn first cap).run Try.prog W = .ok (.func fn first cap) W := fun _ _ _ _ => rfl
    have cx := HX.out.cells
    have cy := HY.out.cells
    have cz := HZ.out.cells
    have cm := HMC.out.cells
    have cf := HFC.out.cells
    have hl := set_look HMF.out ⟨typ, ra⟩ ⟨htyp, HRA.out⟩
    unfold r2V at hl
    dsimp only at hl
    obtain ⟨v, hov, hlwF⟩ := HBKF.out.W.lookF rb HRB.out
    have hlw := hlwF wf (Below.refl _ _)
    have HC2 : ∀ i (hi : i < (whereP (refsOf ts) rb).length) W, Below wf.heap.size wf W → Calls Try.prog 70 (#[.string (whereP (refsOf ts) rb)[i]] ++ #[.pointer (some ⟨w.heap.size + 1 + 1 + 1, 0, none⟩), .pointer (some ⟨w.heap.size + 1 + 1, 0, none⟩)]) W fun e W' => e = .returned (.bool ((fun n => decide ((⟨n, rb⟩ : R2) ∈ S)) (whereP (refsOf ts) rb)[i])) ∧ Below W.heap.size W W' := by
      intro i hi W hW
      exact can2_any (bs := bs) (S := S) (whereP (refsOf ts) rb)[i] ra rb 3 (.slice ao ps.length c) (w.heap.size + 1 + 1 + 1) (w.heap.size + 1 + 1) W (where_ok HOKT.out rb _ (List.getElem_mem hi)) HRB.out (HMC.out.below hW) (HZ.out.below hW) (HMF.out.below hW)
    have HCF := Lib.hid (containsTF_any wf (whereP (refsOf ts) rb) v 70 #[.pointer (some ⟨w.heap.size + 1 + 1 + 1, 0, none⟩), .pointer (some ⟨w.heap.size + 1 + 1, 0, none⟩)] (enters_of Try.func70 (by kernel_rfl) rfl) (fun n => decide ((⟨n, rb⟩ : R2) ∈ S)) (hov.sl.mono fun x hx => hx.2) HC2)
    clear hov hlwF HC2
    clear hbk hM hat ex ey ez em xwx xxy xyz xzm xmf
    subst hwf hwm hwz hwy hwx
    generalize hin : decide ((⟨typ, ra⟩ : R2) ∈ S) = b at *
    clear hin
    cases b with
    | false =>
      go_enter Try.func36, Try.ntmps36
      go_wp2_with fail
      go_ret
      exact ⟨by rw [HE.out]; simp, HXF.out⟩
    | true =>
      go_enter Try.func36, Try.ntmps36
      go_wp2_with fail
      refine HCF.out.mono ?_
      rintro e w5 ⟨rfl, hb5⟩
      have HBE := Lib.hid (HXF.out.trans (hb5.mono HXF.out.size))
      clear HCF hb5 cx cy cz cm cf hl hlw
      go_wp2_with fail
      go_ret
      exact ⟨by rw [HE.out]; simp, HBE.out⟩
  by_cases k4 : k = 4
  · subst k4
    clear k1 k2 k3
    have HE := Lib.hid (show (RT.mk 4 ra rb ps).pcan (refsOf ts) S typ = ((ps.any fun r => r.pcan (refsOf ts) S typ) || decide (ps.length = 0)) from by rw [RT.pcan, pcanN_eq]; rfl)
    obtain ⟨wx, hwx⟩ : ∃ x, x = w.alloc (.cells #[.map (some b1), .map (some b2), .map (some b3)] 74) := ⟨_, rfl⟩
    obtain ⟨wy, hwy⟩ : ∃ x, x = wx.alloc (.cells #[.string typ] 9) := ⟨_, rfl⟩
    obtain ⟨wz, hwz⟩ : ∃ x, x = wy.alloc (.cells #[.int .i64 4, .string ra, .string rb, .slice ao ps.length c] 46) := ⟨_, rfl⟩
    obtain ⟨wm, hwm⟩ : ∃ x, x = wz.alloc (.cells #[.map (some bs)] 68) := ⟨_, rfl⟩
    obtain ⟨wf, hwf⟩ : ∃ x, x = wm.alloc (.cells #[.func (.func 68) #[] #[.pointer (some ⟨w.heap.size, 0, none⟩), .pointer (some ⟨w.heap.size + 1, 0, none⟩), .pointer (some ⟨w.heap.size + 1 + 1 + 1, 0, none⟩)]] 84) := ⟨_, rfl⟩
    have ex : wx.heap.size = w.heap.size + 1 := by rw [hwx]; simp
    have ey : wy.heap.size = w.heap.size + 1 + 1 := by rw [hwy]; simp [ex]
    have ez : wz.heap.size = w.heap.size + 1 + 1 + 1 := by rw [hwz]; simp [ey]
    have em : wm.heap.size = w.heap.size + 1 + 1 + 1 + 1 := by rw [hwm]; simp [ez]
    have xwx : Ext w wx := by rw [hwx]; exact Ext.alloc _ _
    have xxy : Ext wx wy := by rw [hwy]; exact Ext.alloc _ _
    have xyz : Ext wy wz := by rw [hwz]; exact Ext.alloc _ _
    have xzm : Ext wz wm := by rw [hwm]; exact Ext.alloc _ _
    have xmf : Ext wm wf := by rw [hwf]; exact Ext.alloc _ _
    have HX := Lib.hid (show Blk wf w.heap.size #[.map (some b1), .map (some b2), .map (some b3)] 74 from Blk.below (by rw [hwx]; exact Blk.made _ _ _) (xxy.trans (xyz.trans (xzm.trans xmf))))
    have HY := Lib.hid (show Blk wf (w.heap.size + 1) #[.string typ] 9 from Blk.below (by rw [hwy, ← ex]; exact Blk.made _ _ _) (xyz.trans (xzm.trans xmf)))
    have HZ := Lib.hid (show Blk wf (w.heap.size + 1 + 1) #[.int .i64 4, .string ra, .string rb, .slice ao ps.length c] 46 from Blk.below (by rw [hwz, ← ey]; exact Blk.made _ _ _) (xzm.trans xmf))
    have HMC := Lib.hid (show Blk wf (w.heap.size + 1 + 1 + 1) #[.map (some bs)] 68 from Blk.below (by rw [hwm, ← ez]; exact Blk.made _ _ _) xmf)
    have HFC := Lib.hid (show Blk wf (w.heap.size + 1 + 1 + 1 + 1) #[.func (.func 68) #[] #[.pointer (some ⟨w.heap.size, 0, none⟩), .pointer (some ⟨w.heap.size + 1, 0, none⟩), .pointer (some ⟨w.heap.size + 1 + 1 + 1, 0, none⟩)]] 84 from by rw [hwf, ← em]; exact Blk.made _ _ _)
    have HXF := Lib.hid (show Below w.heap.size w wf from xwx.trans (xxy.trans (xyz.trans (xzm.trans xmf))))
    have HBKF := Lib.hid (hbk.up HXF.out)
    have HMF := Lib.hid (hM.below HXF.out)
    have hmf : ∀ (fn : Fn) (first cap : Array Value) (W : World), (Instr.makeFunc fn first cap).run Try.prog W = .ok (.func fn first cap) W := fun _ _ _ _ => rfl
    have cx := HX.out.cells
    have cy := HY.out.cells
    have cz := HZ.out.cells
    have cm := HMC.out.cells
    have cf := HFC.out.cells
    have HC1 : ∀ i (hi : i < ps.length) W pvi, Below wf.heap.size wf W → RTAt (· < W.heap.size) W ps[i] pvi → Calls Try.prog 68 (#[rV ps[i] pvi] ++ #[.pointer (some ⟨w.heap.size, 0, none⟩), .pointer (some ⟨w.heap.size + 1, 0, none⟩), .pointer (some ⟨w.heap.size + 1 + 1 + 1, 0, none⟩)]) W fun e W' => e = .returned (.bool ((fun p : RT => p.pcan (refsOf ts) S typ) ps[i])) ∧ Below W.heap.size W W' := by
      intro i hi W pvi hW hati
      have HIH := IH.out ps[i] (List.getElem_mem hi) pvi (W.alloc (.cells #[.int .i64 ps[i].k, .string ps[i].a, .string ps[i].b, pvi] 46)) ((HBKF.out.up hW).up (Ext.alloc _ _)) (hati.up (Ext.alloc _ _)) (HOP.out _ (List.getElem_mem hi)) ((HMF.out.below hW).below (Ext.alloc _ _))
      exact can1_any (b1 := b1) (b2 := b2) (b3 := b3) (bs := bs) (typ := typ) ps[i] pvi w.heap.size (w.heap.size + 1) (w.heap.size + 1 + 1 + 1) W _ (HX.out.below hW) (HY.out.below hW) (HMC.out.below hW) hati (HIH.mono fun e w' hr => ⟨hr.1, Ext.trans (Ext.alloc _ _) hr.2⟩)
    have HCF := Lib.hid (containsRF_any wf ps 4 ra rb _ 68 #[.pointer (some ⟨w.heap.size, 0, none⟩), .pointer (some ⟨w.heap.size + 1, 0, none⟩), .pointer (some ⟨w.heap.size + 1 + 1 + 1, 0, none⟩)] (enters_of Try.func68 (by kernel_rfl) rfl) (fun p => p.pcan (refsOf ts) S typ) (hat.up HXF.out) HC1)
    clear HC1
    clear hbk hM hat ex ey ez em xwx xxy xyz xzm xmf
    subst hwf hwm hwz hwy hwx
    go_enter Try.func36, Try.ntmps36
    go_wp2_with fail
    refine HCF.out.mono ?_
    rintro e w5 ⟨rfl, hb5⟩
    have HBE := Lib.hid (HXF.out.trans (hb5.mono HXF.out.size))
    have z5 := (HZ.out.below hb5).cells
    clear HCF hb5 cx cy cz cm cf
    cases hany : ps.any (fun p => p.pcan (refsOf ts) S typ) with
    | true =>
      have HA := Lib.hid hany
      clear hany
      go_wp2_with fail
      go_ret
      exact ⟨by rw [HE.out, HA.out]; rfl, HBE.out⟩
    | false =>
      have HA := Lib.hid hany
      clear hany
      go_wp2_with fail
      go_ret
      exact ⟨by rw [HE.out, HA.out]; rcases ps with _ | ⟨q, qs⟩ <;> simp <;> omega, HBE.out⟩
  have HE := Lib.hid (show (RT.mk k ra rb ps).pcan (refsOf ts) S typ = ps.all fun r => r.pcan (refsOf ts) S typ from by rw [RT.pcan, if_neg k1, if_neg k2, if_neg k3, if_neg k4, pcanL_eq])
  have q1 : (k == 1) = false := by rw [beq_eq_false_iff_ne]; exact k1
  have q2 : (k == 2) = false := by rw [beq_eq_false_iff_ne]; exact k2
  have q3 : (k == 3) = false := by rw [beq_eq_false_iff_ne]; exact k3
  have q4 : (k == 4) = false := by rw [beq_eq_false_iff_ne]; exact k4
  clear k1 k2 k3 k4
  obtain ⟨wx, hwx⟩ : ∃ x, x = w.alloc (.cells #[.map (some b1), .map (some b2), .map (some b3)] 74) := ⟨_, rfl⟩
  obtain ⟨wy, hwy⟩ : ∃ x, x = wx.alloc (.cells #[.string typ] 9) := ⟨_, rfl⟩
  obtain ⟨wz, hwz⟩ : ∃ x, x = wy.alloc (.cells #[.int .i64 k, .string ra, .string rb, .slice ao ps.length c] 46) := ⟨_, rfl⟩
  obtain ⟨wm, hwm⟩ : ∃ x, x = wz.alloc (.cells #[.map (some bs)] 68) := ⟨_, rfl⟩
  obtain ⟨wf, hwf⟩ : ∃ x, x = wm.alloc (.cells #[.func (.func 68) #[] #[.pointer (some ⟨w.heap.size, 0, none⟩), .pointer (some ⟨w.heap.size + 1, 0, none⟩), .pointer (some ⟨w.heap.size + 1 + 1 + 1, 0, none⟩)]] 84) := ⟨_, rfl⟩
  have ex : wx.heap.size = w.heap.size + 1 := by rw [hwx]; simp
  have ey : wy.heap.size = w.heap.size + 1 + 1 := by rw [hwy]; simp [ex]
  have ez : wz.heap.size = w.heap.size + 1 + 1 + 1 := by rw [hwz]; simp [ey]
  have em : wm.heap.size = w.heap.size + 1 + 1 + 1 + 1 := by rw [hwm]; simp [ez]
  have xwx : Ext w wx := by rw [hwx]; exact Ext.alloc _ _
  have xxy : Ext wx wy := by rw [hwy]; exact Ext.alloc _ _
  have xyz : Ext wy wz := by rw [hwz]; exact Ext.alloc _ _
  have xzm : Ext wz wm := by rw [hwm]; exact Ext.alloc _ _
  have xmf : Ext wm wf := by rw [hwf]; exact Ext.alloc _ _
  have HX := Lib.hid (show Blk wf w.heap.size #[.map (some b1), .map (some b2), .map (some b3)] 74 from Blk.below (by rw [hwx]; exact Blk.made _ _ _) (xxy.trans (xyz.trans (xzm.trans xmf))))
  have HY := Lib.hid (show Blk wf (w.heap.size + 1) #[.string typ] 9 from Blk.below (by rw [hwy, ← ex]; exact Blk.made _ _ _) (xyz.trans (xzm.trans xmf)))
  have HZ := Lib.hid (show Blk wf (w.heap.size + 1 + 1) #[.int .i64 k, .string ra, .string rb, .slice ao ps.length c] 46 from Blk.below (by rw [hwz, ← ey]; exact Blk.made _ _ _) (xzm.trans xmf))
  have HMC := Lib.hid (show Blk wf (w.heap.size + 1 + 1 + 1) #[.map (some bs)] 68 from Blk.below (by rw [hwm, ← ez]; exact Blk.made _ _ _) xmf)
  have HFC := Lib.hid (show Blk wf (w.heap.size + 1 + 1 + 1 + 1) #[.func (.func 68) #[] #[.pointer (some ⟨w.heap.size, 0, none⟩), .pointer (some ⟨w.heap.size + 1, 0, none⟩), .pointer (some ⟨w.heap.size + 1 + 1 + 1, 0, none⟩)]] 84 from by rw [hwf, ← em]; exact Blk.made _ _ _)
  have HXF := Lib.hid (show Below w.heap.size w wf from xwx.trans (xxy.trans (xyz.trans (xzm.trans xmf))))
  have HBKF := Lib.hid (hbk.up HXF.out)
  have HMF := Lib.hid (hM.below HXF.out)
  have hmf : ∀ (fn : Fn) (first cap : Array Value) (W : World), (Instr.makeFunc fn first cap).run Try.prog W = .ok (.func fn first cap) W := fun _ _ _ _ => rfl
  have cx := HX.out.cells
  have cy := HY.out.cells
  have cz := HZ.out.cells
  have cm := HMC.out.cells
  have cf := HFC.out.cells
  have HC3 : ∀ i (hi : i < ps.length) W pvi, Below wf.heap.size wf W → RTAt (· < W.heap.size) W ps[i] pvi → Calls Try.prog 71 (#[rV ps[i] pvi] ++ #[.pointer (some ⟨w.heap.size + 1 + 1 + 1 + 1, 0, none⟩)]) W fun e W' => e = .returned (.bool ((fun p : RT => !p.pcan (refsOf ts) S typ) ps[i])) ∧ Below W.heap.size W W' := by
    intro i hi W pvi hW hati
    have HIH := IH.out ps[i] (List.getElem_mem hi) pvi ((W.alloc (.cells #[.int .i64 ps[i].k, .string ps[i].a, .string ps[i].b, pvi] 46)).alloc (.cells #[.int .i64 ps[i].k, .string ps[i].a, .string ps[i].b, pvi] 46)) (((HBKF.out.up hW).up (Ext.alloc _ _)).up (Ext.alloc _ _)) ((hati.up (Ext.alloc _ _)).up (Ext.alloc _ _)) (HOP.out _ (List.getElem_mem hi)) (((HMF.out.below hW).below (Ext.alloc _ _)).below (Ext.alloc _ _))
    have H1 := can1_any (b1 := b1) (b2 := b2) (b3 := b3) (bs := bs) (typ := typ) ps[i] pvi w.heap.size (w.heap.size + 1) (w.heap.size + 1 + 1 + 1) (W.alloc (.cells #[.int .i64 ps[i].k, .string ps[i].a, .string ps[i].b, pvi] 46)) _ ((HX.out.below hW).alloc _) ((HY.out.below hW).alloc _) ((HMC.out.below hW).alloc _) (hati.up (Ext.alloc _ _)) (HIH.mono fun e w' hr => ⟨hr.1, Ext.trans (Ext.alloc _ _) hr.2⟩)
    exact can3_any ps[i] pvi (w.heap.size + 1 + 1 + 1 + 1) #[.pointer (some ⟨w.heap.size, 0, none⟩), .pointer (some ⟨w.heap.size + 1, 0, none⟩), .pointer (some ⟨w.heap.size + 1 + 1 + 1, 0, none⟩)] W _ (HFC.out.below hW) hati (H1.mono fun e w' hr => ⟨hr.1, Ext.trans (Ext.alloc _ _) hr.2⟩)
  have HCF := Lib.hid (containsRF_any wf ps k ra rb _ 71 #[.pointer (some ⟨w.heap.size + 1 + 1 + 1 + 1, 0, none⟩)] (enters_of Try.func71 (by kernel_rfl) rfl) (fun p => !p.pcan (refsOf ts) S typ) (hat.up HXF.out) HC3)
  clear HC3
  clear hbk hM hat ex ey ez em xwx xxy xyz xzm xmf
  subst hwf hwm hwz hwy hwx
  go_enter Try.func36, Try.ntmps36
  go_wp2_with fail
  refine HCF.out.mono ?_
  rintro e w5 ⟨rfl, hb5⟩
  have HBE := Lib.hid (HXF.out.trans (hb5.mono HXF.out.size))
  clear HCF hb5 cx cy cz cm cf
  go_wp2_with fail
  go_ret
  exact ⟨by rw [HE.out, List.not_any_eq_all_not]; simp, HBE.out⟩

end Go.Proofs.Ytfhonficpccegaa
