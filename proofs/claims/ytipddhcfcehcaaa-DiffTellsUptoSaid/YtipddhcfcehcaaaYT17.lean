/- Lemmas for the claim, no condition. -/
import Derived.Test.YtipddhcfcehcaaaYT16
namespace Go.Proofs.Ytipddhcfcehcaaa
open Go Go.RowKit Go.Maps

/-- A letter. -/
def isW (c : UInt8) : Bool := decide (97 ≤ c.toNat ∧ c.toNat ≤ 122)
/-- A byte of a plain line. -/
def plainC (c : UInt8) : Bool := decide (c = 32) || (decide (c = 61) || (decide (c = 124) || isW c))
/-- Where a word ends. -/
def wdEnd (s : ByteArray) : Nat → Nat → Nat
  | 0, n => n
  | f + 1, n => if h : n < s.size then if isW s[n] then wdEnd s f (n + 1) else n else n
/-- A plain line's tokens. -/
def tokR (s : ByteArray) : Nat → Nat → List ByteArray → List ByteArray
  | 0, _, out => out
  | f + 1, i, out => if h : i < s.size then (if s[i] = 32 then tokR s f (i + 1) out else if s[i] = 61 ∨ s[i] = 124 then tokR s f (i + 1) (out ++ [s.extract i (i + 1)]) else tokR s f (wdEnd s s.size i) (out ++ [s.extract i (wdEnd s s.size i)])) else out
def toksD (s : ByteArray) : List ByteArray := tokR s s.size 0 []
theorem tokR_end {s : ByteArray} {f i : Nat} {out : List ByteArray} (h : s.size ≤ i) : tokR s f i out = out := by
  cases f with
  | zero => rfl
  | succ f => rw [tokR, dif_neg (by omega)]
theorem wdEnd_ge (s : ByteArray) : ∀ (f n : Nat), n ≤ wdEnd s f n
  | 0, n => Nat.le_refl _
  | f + 1, n => by
    rw [wdEnd]
    split
    · split
      · have := wdEnd_ge s f (n + 1); omega
      · exact Nat.le_refl _
    · exact Nat.le_refl _
theorem wdEnd_gt {s : ByteArray} {n : Nat} (h : n < s.size) (hw : isW s[n] = true) : n < wdEnd s s.size n := by
  obtain ⟨f, hf⟩ : ∃ f, s.size = f + 1 := ⟨s.size - 1, by omega⟩
  rw [hf, wdEnd, dif_pos h, if_pos hw]
  have := wdEnd_ge s f (n + 1)
  omega
theorem isW_okc {c : UInt8} (h : plainC c = true) : okc c = isW c := by
  unfold plainC at h
  simp only [Bool.or_eq_true, decide_eq_true_eq] at h
  rcases h with rfl | rfl | rfl | h
  · rfl
  · rfl
  · rfl
  · rw [h]
    unfold isW at h
    have h2 := of_decide_eq_true h
    unfold okc
    exact decide_eq_true (.inl (by omega))
theorem u8_ne {c d : UInt8} (h : c ≠ d) : ((c.toNat : Int) == (d.toNat : Int)) = false := by
  rw [beq_eq_false_iff_ne]
  intro e
  exact h (UInt8.toNat_inj.1 (by exact_mod_cast e))

set_option maxRecDepth 100000 in
set_option maxHeartbeats 3000000 in
theorem tokens_any (s : ByteArray) (hs : s.size ≤ 65536) (hp : ∀ j (hj : j < s.size), plainC s[j] = true) (w : World) : Calls Try.prog 51 #[.string s] w fun e w' => ∃ v, e = .returned (.tuple #[v, .bool true]) ∧ Own w' w.heap.size 9 1 v (txs (toksD s)) ∧ Below w.heap.size w w' := by
  have hsz : s.size ≤ 9223372036854775807 := by omega
  have HS := Lib.hid hs
  have HPC := Lib.hid hp
  have HD := Lib.hid (show toksD s = tokR s s.size 0 [] from rfl)
  clear hs hp
  go_enter Try.func51, Try.ntmps51
  go_wp2_with fail
  go_loopw [4, 5] (fun ov ii wr => ∃ (i f : Nat) (out : List ByteArray), i ≤ s.size ∧ ii = .int .i64 i ∧ s.size - i ≤ f ∧ tokR s f i out = toksD s ∧ Own wr w.heap.size 9 1 ov (txs out) ∧ Below w.heap.size w wr ∧ out.length ≤ i) (fun _ ii _ => s.size - (intOf ii).toNat)
  case atStart => exact ⟨0, s.size, [], by omega, rfl, by omega, rfl, Own.nil _ _ _ _, Below.refl _ _, Nat.zero_le _⟩
  case round =>
    obtain ⟨i, f, out, hi, rfl, hf, hr, hown, hbel, hol⟩ := hrel
    have HR := Lib.hid hr
    have HOW := Lib.hid hown
    have HBL := Lib.hid hbel
    have HOL := Lib.hid hol
    have HF := Lib.hid hf
    clear hr hown hbel hol hf
    by_cases hlt : i < s.size
    · obtain ⟨f, rfl⟩ : ∃ g, f = g + 1 := ⟨f - 1, by have := HF.out; omega⟩
      have hpc := HPC.out i hlt
      have HR2 := Lib.hid (show (if s[i] = 32 then tokR s f (i + 1) out else if s[i] = 61 ∨ s[i] = 124 then tokR s f (i + 1) (out ++ [s.extract i (i + 1)]) else tokR s f (wdEnd s s.size i) (out ++ [s.extract i (wdEnd s s.size i)])) = toksD s from by rw [← HR.out, tokR, dif_pos hlt])
      by_cases h32 : s[i] = 32
      · have HN := Lib.hid (show tokR s f (i + 1) out = toksD s from by rw [← HR2.out, if_pos h32])
        clear hpc
        go_wp2_with fail
        go_roundw
        case rel => exact ⟨i + 1, f, out, by omega, by go_num, by have := HF.out; omega, HN.out, HOW.out, HBL.out, by have := HOL.out; omega⟩
        case measure => simp [intOf]; omega
      · have q32 : ((s[i].toNat : Int) == 32) = false := u8_ne (d := 32) h32
        have q9 : ((s[i].toNat : Int) == 9) = false := u8_ne (d := 9) (by
          intro e; rw [e] at hpc; exact absurd hpc (by decide))
        by_cases hsg : s[i] = 61 ∨ s[i] = 124
        · have HN := Lib.hid (show tokR s f (i + 1) (out ++ [s.extract i (i + 1)]) = toksD s from by rw [← HR2.out, if_neg h32, if_pos hsg])
          clear hpc q32 q9 h32
          rcases hsg with h61 | h124
          · go_wp2_with (at_builtin; go_must (refine wpList_own_lit textsT rfl (.tmp 43) (.tmp 49) rfl rfl HOW.out rfl rfl (by simp [Value.oneCell']) (by have := HOL.out; have := HS.out; rw [txs_length]; simp; omega) (by have := HOL.out; have := HS.out; rw [txs_length]; simp; omega) HBL.out.size ?_); intro v2 w2 hown2 hb2 hgr2)
            have HB2 := Lib.hid (HBL.out.trans hb2)
            have HO2 := Lib.hid (show Own w2 w.heap.size 9 1 v2 (txs (out ++ [s.extract i (i + 1)])) from by rw [txs_append]; exact hown2)
            clear hown2 hb2 hgr2
            go_wp2_with fail
            go_roundw
            case rel => exact ⟨i + 1, f, _, by omega, by go_num, by have := HF.out; omega, HN.out, HO2.out, HB2.out, by have := HOL.out; simp; omega⟩
            case measure => simp [intOf]; omega
          · go_wp2_with (at_builtin; go_must (refine wpList_own_lit textsT rfl (.tmp 43) (.tmp 49) rfl rfl HOW.out rfl rfl (by simp [Value.oneCell']) (by have := HOL.out; have := HS.out; rw [txs_length]; simp; omega) (by have := HOL.out; have := HS.out; rw [txs_length]; simp; omega) HBL.out.size ?_); intro v2 w2 hown2 hb2 hgr2)
            have HB2 := Lib.hid (HBL.out.trans hb2)
            have HO2 := Lib.hid (show Own w2 w.heap.size 9 1 v2 (txs (out ++ [s.extract i (i + 1)])) from by rw [txs_append]; exact hown2)
            clear hown2 hb2 hgr2
            go_wp2_with fail
            go_roundw
            case rel => exact ⟨i + 1, f, _, by omega, by go_num, by have := HF.out; omega, HN.out, HO2.out, HB2.out, by have := HOL.out; simp; omega⟩
            case measure => simp [intOf]; omega
        · have hw : isW s[i] = true := by
            unfold plainC at hpc
            simp only [Bool.or_eq_true, decide_eq_true_eq] at hpc
            rcases hpc with h | h | h | h
            · exact absurd h h32
            · exact absurd (.inl h) hsg
            · exact absurd (.inr h) hsg
            · exact h
          have HNX := Lib.hid (show tokR s f (wdEnd s s.size i) (out ++ [s.extract i (wdEnd s s.size i)]) = toksD s from by rw [← HR2.out, if_neg h32, if_neg hsg])
          have HIG := Lib.hid (wdEnd_gt hlt hw)
          have q61 : ((s[i].toNat : Int) == 61) = false := u8_ne (d := 61) (fun e => hsg (.inl e))
          have q124 : ((s[i].toNat : Int) == 124) = false := u8_ne (d := 124) (fun e => hsg (.inr e))
          have q38 : ((s[i].toNat : Int) == 38) = false := u8_ne (d := 38) (by intro e; rw [e] at hw; exact absurd hw (by decide))
          have q40 : ((s[i].toNat : Int) == 40) = false := u8_ne (d := 40) (by intro e; rw [e] at hw; exact absurd hw (by decide))
          have q41 : ((s[i].toNat : Int) == 41) = false := u8_ne (d := 41) (by intro e; rw [e] at hw; exact absurd hw (by decide))
          have q45 : ((s[i].toNat : Int) == 45) = false := u8_ne (d := 45) (by intro e; rw [e] at hw; exact absurd hw (by decide))
          have HSG := Lib.hid (sign_any s[i] wr)
          rw [isW_okc hpc, hw] at HSG
          clear hpc h32 hsg hw
          go_wp2_with fail
          refine HSG.out.mono ?_
          rintro e w2 ⟨rfl, rfl⟩
          clear HSG q32 q9 q61 q124 q38 q40 q41 q45
          go_wp2_with fail
          rename World => wo
          go_loopw [7] (fun nn wr => ∃ (n g : Nat), n ≤ s.size ∧ nn = .int .i64 n ∧ s.size - n ≤ g ∧ wdEnd s g n = wdEnd s s.size i ∧ i ≤ n ∧ wr = wo) (fun nn _ => s.size - (intOf nn).toNat)
          case atStart => exact ⟨i, s.size, by omega, rfl, by omega, rfl, Nat.le_refl _, rfl⟩
          case round =>
            obtain ⟨n, g, hn, rfl, hg, he, hin, rfl⟩ := hrel
            have HE := Lib.hid he
            have HGG := Lib.hid hg
            clear he hg
            by_cases hln : n < s.size
            · obtain ⟨g, rfl⟩ : ∃ k, g = k + 1 := ⟨g - 1, by have := HGG.out; omega⟩
              have hpc := HPC.out n hln
              cases hw : isW s[n] with
              | true =>
                have HE2 := Lib.hid (show wdEnd s g (n + 1) = wdEnd s s.size i from by rw [← HE.out, wdEnd, dif_pos hln, if_pos hw])
                have q45 : ((s[n].toNat : Int) == 45) = false := u8_ne (d := 45) (by intro e; rw [e] at hw; exact absurd hw (by decide))
                have HSG := Lib.hid (sign_any s[n] wr)
                rw [isW_okc hpc, hw] at HSG
                clear hpc hw
                go_wp2_with fail
                refine HSG.out.mono ?_
                rintro e w2 ⟨rfl, rfl⟩
                clear HSG
                go_wp2_with fail
                go_roundw
                case rel => exact ⟨n + 1, g, by omega, by go_num, by have := HGG.out; omega, HE2.out, by omega, trivial⟩
                case measure => simp [intOf]; omega
              | false =>
                have HEN := Lib.hid (show n = wdEnd s s.size i from by rw [← HE.out, wdEnd, dif_pos hln, if_neg (by rw [hw]; simp)])
                have HSG := Lib.hid (sign_any s[n] wr)
                rw [isW_okc hpc, hw] at HSG
                clear hpc hw
                go_wp2_with fail
                refine HSG.out.mono ?_
                rintro e w2 ⟨rfl, rfl⟩
                clear HSG
                have HN := Lib.hid (show tokR s f n (out ++ [s.extract i n]) = toksD s from by rw [HEN.out]; exact HNX.out)
                have HGT := Lib.hid (show i < n from by rw [HEN.out]; exact HIG.out)
                have h0i : (0 : Int) ≤ (i : Int) := by omega
                have h1i : (i : Int) ≤ (n : Int) := by omega
                have h2i : (n : Int) ≤ (s.size : Int) := by omega
                go_wp2_with (at_builtin; go_must (refine wpList_own_lit textsT rfl (.tmp 112) (.tmp 117) rfl rfl HOW.out rfl rfl (by simp [Value.oneCell']) (by have := HOL.out; have := HS.out; rw [txs_length]; simp; omega) (by have := HOL.out; have := HS.out; rw [txs_length]; simp; omega) HBL.out.size ?_); intro v2 w2 hown2 hb2 hgr2)
                have HB2 := Lib.hid (HBL.out.trans hb2)
                have HO2 := Lib.hid (show Own w2 w.heap.size 9 1 v2 (txs (out ++ [s.extract i n])) from by rw [txs_append]; exact hown2)
                clear hown2 hb2 hgr2
                go_wp2_with fail
                go_roundw
                case rel => exact ⟨n, f, _, by omega, by go_num, by have := HF.out; have := HGT.out; omega, HN.out, HO2.out, HB2.out, by have := HOL.out; have := HGT.out; simp; omega⟩
                case measure => have := HGT.out; simp [intOf]; omega
            · have HEN := Lib.hid (show n = wdEnd s s.size i from by
                rw [← HE.out]
                cases g with
                | zero => rfl
                | succ g => rw [wdEnd, dif_neg hln])
              have HN := Lib.hid (show tokR s f n (out ++ [s.extract i n]) = toksD s from by rw [HEN.out]; exact HNX.out)
              have HGT := Lib.hid (show i < n from by rw [HEN.out]; exact HIG.out)
              have h0i : (0 : Int) ≤ (i : Int) := by omega
              have h1i : (i : Int) ≤ (n : Int) := by omega
              have h2i : (n : Int) ≤ (s.size : Int) := by omega
              go_wp2_with (at_builtin; go_must (refine wpList_own_lit textsT rfl (.tmp 112) (.tmp 117) rfl rfl HOW.out rfl rfl (by simp [Value.oneCell']) (by have := HOL.out; have := HS.out; rw [txs_length]; simp; omega) (by have := HOL.out; have := HS.out; rw [txs_length]; simp; omega) HBL.out.size ?_); intro v2 w2 hown2 hb2 hgr2)
              have HB2 := Lib.hid (HBL.out.trans hb2)
              have HO2 := Lib.hid (show Own w2 w.heap.size 9 1 v2 (txs (out ++ [s.extract i n])) from by rw [txs_append]; exact hown2)
              clear hown2 hb2 hgr2
              go_wp2_with fail
              go_roundw
              case rel => exact ⟨n, f, _, by omega, by go_num, by have := HF.out; have := HGT.out; omega, HN.out, HO2.out, HB2.out, by have := HOL.out; have := HGT.out; simp; omega⟩
              case measure => have := HGT.out; simp [intOf]; omega
    · obtain rfl : i = s.size := by omega
      have HFF := Lib.hid (show toksD s = out from by rw [← HR.out, tokR_end (Nat.le_refl _)])
      go_wp2_with fail
      go_ret2
      exact ⟨_, rfl, by rw [HFF.out]; exact HOW.out, HBL.out⟩

end Go.Proofs.Ytipddhcfcehcaaa
namespace Go.Proofs.Ytipddhcfcehcaaa
open Go Go.RowKit Go.Maps

/-- What a word says as a rule. -/
def leafD (x : ByteArray) : RT := if x = ⟨#[116, 104, 105, 115]⟩ then .mk 1 ⟨#[]⟩ ⟨#[]⟩ [] else .mk 2 x ⟨#[]⟩ []
/-- Where a slice's tail begins. -/
def cut1 (b off c : Nat) : Option Addr := if c = 1 then some ⟨b, off, none⟩ else some ⟨b, off + 1, none⟩
theorem results_cell_tmp2 {fn : Func} {p u v : Tmp} {ty : TypeId} (h : fn.results = #[.cell p ty, .tmp u, .tmp v]) (tmps : Array Value) (P : Program) (w : World) :
    (results fn tmps).run P w = ((asAddr (tmps.getD p undef)).run P w).andThen fun a w₁ => ((loadVar ty a).run P w₁).andThen fun x w₂ => .ok (.tuple #[x, tmps.getD u undef, tmps.getD v undef]) w₂ := by
  simp only [results, h]
  simp [Sem.run_bind, Result.andThen]
theorem nm_ne {x y : ByteArray} (h : isNm x = true) (hy : isNm y = false) : x ≠ y := fun e => by rw [e, hy] at h; cases h

set_option maxRecDepth 100000 in
set_option maxHeartbeats 3000000 in
theorem one_any {S : Nat → Prop} (x : ByteArray) (rest : List ByteArray) (v : Value) (w : World) (hSw : ∀ b, S b → b < w.heap.size) (hx : isNm x = true) (hr : ∀ h : 0 < rest.length, rest[0] ≠ ⟨#[45, 62]⟩) (h : Sl S w 1 v (txs (x :: rest))) :
    Calls Try.prog 96 #[v, .int .i64 0] w fun e w' => ∃ v', e = .returned (.tuple #[rV (leafD x) (.slice none 0 0), v', .bool true]) ∧ Sl S w' 1 v' (txs rest) ∧ Below w.heap.size w w' := by
  obtain ⟨ao, n, c, rfl, hn, hnc, hcm⟩ := h.len
  rw [txs_length, Nat.mul_one] at hn
  subst hn
  obtain ⟨b, off, hbo, hS, hc0⟩ := texts_at h 0 (by simp)
  subst hbo
  have HC := Lib.hid (texts_at h)
  have HSW := Lib.hid hSw
  clear hSw
  have HWIN := Lib.hid (show Sl S w 1 (.slice (cut1 b off c) rest.length (c - 1)) (txs rest) from by
    have := h.window (ao' := cut1 b off c) 1 (x :: rest).length (by simp) (Nat.le_refl _) (fun hc => by unfold cut1; rw [if_neg hc]; rfl)
    rwa [show ((txs (x :: rest)).drop 1).take ((x :: rest).length - 1) = txs rest from by rw [show (txs (x :: rest)).drop 1 = txs rest from rfl]; exact List.take_of_length_le (by rw [txs_length]; simp)] at this)
  have HR := Lib.hid hr
  have HR0 := Lib.hid (Blk.made w #[.int .i64 0, .string ⟨#[]⟩, .string ⟨#[]⟩, .slice none 0 0] 72)
  obtain ⟨w1, hw1⟩ : ∃ x, x = w.alloc (.cells #[.int .i64 0, .string ⟨#[]⟩, .string ⟨#[]⟩, .slice none 0 0] 72) := ⟨_, rfl⟩
  rw [← hw1] at HR0
  have x01 : Ext w w1 := by rw [hw1]; exact Ext.alloc _ _
  have HX1 := Lib.hid x01
  rw [show (x :: rest)[0] = x from rfl, Nat.add_zero] at hc0
  have hA : ∀ W, Ext w W → W.cell? ⟨b, off, none⟩ = some (.string x) := fun W hW => Ext.cell hW hc0
  have hd0 := hA w1 x01
  have hlen : (x :: rest).length = rest.length + 1 := rfl
  rw [hlen] at hnc
  have HNM := Lib.hid (refName_any x (by
    unfold isNm at hx
    simp only [Bool.and_eq_true, decide_eq_true_eq] at hx
    unfold maxLen
    omega) w1)
  rw [hx] at HNM
  have hne40 := ba_beq' (nm_ne hx (y := ⟨#[40]⟩) (by decide))
  rw [← ByteArray.toList_eq, show (⟨#[40]⟩ : ByteArray).data.toList = [40] from rfl] at hne40
  have r1 := HR0.out.cells
  have f1 := HR0.out.free
  rw [hlen]
  clear h hx hr hc0 hlen
  obtain ⟨n2, hn2⟩ : ∃ n2, n2 = rest.length := ⟨_, rfl⟩
  rw [← hn2] at hnc HWIN ⊢
  have HN2 := Lib.hid hn2
  have HNX := Lib.hid (show 1 ≤ n2 → ∃ y, w1.cell? ⟨b, off + 1, none⟩ = some (.string y) ∧ (y.toList == [45, 62]) = false from fun h1 => by
    obtain ⟨b', off', hbo, _, hc⟩ := HC.out 1 (by simp; omega)
    cases hbo
    refine ⟨_, Ext.cell x01 hc, ?_⟩
    have := ba_beq' (HR.out (by omega))
    rw [ByteArray.toList_eq]
    simpa using this)
  clear hn2 x01
  subst hw1
  have hpos : ¬ ((n2 : Int) + 1 = 0) := by omega
  have hlt0 : (0 : Int) < (n2 : Int) + 1 := by omega
  go_enter Try.func96, Try.ntmps96
  go_wp2_with fail
  refine HNM.out.mono ?_
  rintro e w2 ⟨rfl, rfl⟩
  clear HNM
  obtain ⟨wr, hwr⟩ : ∃ x, x = w.alloc (.cells #[.int .i64 0, .string ⟨#[]⟩, .string ⟨#[]⟩, .slice none 0 0] 72) := ⟨_, rfl⟩
  rw [← hwr] at HR0 HX1 r1 f1 hd0 HNX ⊢
  clear hwr
  have h01 : (1 : Int) ≤ (n2 : Int) + 1 := by omega
  have hnci : (n2 : Int) + 1 ≤ (c : Int) := by omega
  have h1c : (1 : Int) ≤ (c : Int) := by omega
  by_cases h3 : (3 : Int) ≤ (n2 : Int) + 1
  · obtain ⟨y, hd1, hy⟩ := HNX.out (by omega)
    have hlt1 : (1 : Int) < (n2 : Int) + 1 := by omega
    by_cases ht : x = ⟨#[116, 104, 105, 115]⟩
    · subst ht
      have HLF := Lib.hid (show leafD ⟨#[116, 104, 105, 115]⟩ = .mk 1 ⟨#[]⟩ ⟨#[]⟩ [] from rfl)
      go_wp2_with fail
      have hE : Ext w wr.drew := HX1.out.trans (Ext.drew _)
      obtain ⟨wd, hwd⟩ : ∃ x, x = wr.drew := ⟨_, rfl⟩
      have xrd : Ext wr wd := by rw [hwd]; exact Ext.drew wr
      refine region_walkN (Ext w) hE (by kernel_rfl) (by kernel_rfl) (fun _ _ d _ _ h => by cases d <;> exact h) ?_
      rw [← hwd] at hE ⊢
      clear hwd
      have HR0 := Lib.hid (HR0.out.below xrd)
      have HX1 := Lib.hid hE
      ((refine WalkN.take 0 _ ?_ (by simp only [List.getElem?_toArray, List.getElem?_cons_zero]; rfl) (by kernel_rfl) (by kernel_rfl) (by rfl) (fun W hW => ?_) ?_; rotate_left; · (go_simp; try with_reducible rfl)); simp only [Act.put, List.setIfInBounds_toArray, List.set_cons_zero, List.set_cons_succ]); ((refine WalkN.take 1 _ ?_ (by simp only [List.getElem?_toArray, List.getElem?_cons_succ, List.getElem?_cons_zero]; rfl) (by kernel_rfl) (by kernel_rfl) (by rfl) (fun W hW => ?_) ?_; rotate_left; · (go_simp; try with_reducible rfl)); simp only [Act.put, List.setIfInBounds_toArray, List.set_cons_zero, List.set_cons_succ])
      refine WalkN.take 2 _ (.slice (cut1 b off c) n2 (c - 1)) (by simp only [List.getElem?_toArray, List.getElem?_cons_succ, List.getElem?_cons_zero]; rfl) (by kernel_rfl) (by kernel_rfl) (by rfl) (fun W hW => ?_) ?_
      · unfold cut1
        go_simp
        try with_reducible rfl
      simp only [Act.put, List.setIfInBounds_toArray, List.set_cons_zero, List.set_cons_succ]
      have rd := HR0.out.cells
      have fd := HR0.out.free
      have hs1 := HR0.out.set_to 0 (.int .i64 1) rfl
      have hs2 := hs1.set_to 1 (.string ⟨#[]⟩) rfl
      have hs3 := hs2.set_to 2 (.string ⟨#[]⟩) rfl
      have hs4 := hs3.set_to 3 (.slice none 0 0) rfl
      have HS4 := Lib.hid hs4
      have HE4 := Lib.hid (show Ext w ((((wd.setCell ⟨w.heap.size, 0, none⟩ (.int .i64 1)).setCell ⟨w.heap.size, 1, none⟩ (.string ⟨#[]⟩)).setCell ⟨w.heap.size, 2, none⟩ (.string ⟨#[]⟩)).setCell ⟨w.heap.size, 3, none⟩ (.slice none 0 0)) from (((HX1.out.setCell (Nat.le_refl _) _).setCell (Nat.le_refl _) _).setCell (Nat.le_refl _) _).setCell (Nat.le_refl _) _)
      clear hs1 hs2 hs3 hs4
      refine WalkN.one 3 (by kernel_rfl) ?_
      refine ⟨_, (by simp only [List.getElem?_toArray, List.getElem?_cons_succ, List.getElem?_cons_zero]; rfl), by rfl, fun K hK => ?_⟩
      go_simp
      refine hK.out _ _ HE4.out ?_
      clear hK
      have hE := HE4.out
      ((refine WalkN.take 4 _ ?_ (by simp only [List.getElem?_toArray, List.getElem?_cons_succ, List.getElem?_cons_zero]; rfl) (by kernel_rfl) (by kernel_rfl) (by rfl) (fun W hW => ?_) ?_; rotate_left; · (go_simp; try with_reducible rfl)); simp only [Act.put, List.setIfInBounds_toArray, List.set_cons_zero, List.set_cons_succ]); ((refine WalkN.take 5 _ ?_ (by simp only [List.getElem?_toArray, List.getElem?_cons_succ, List.getElem?_cons_zero]; rfl) (by kernel_rfl) (by kernel_rfl) (by rfl) (fun W hW => ?_) ?_; rotate_left; · (go_simp; try with_reducible rfl)); simp only [Act.put, List.setIfInBounds_toArray, List.set_cons_zero, List.set_cons_succ])
      refine WalkN.done (by kernel_rfl) ?_
      go_wp2_with fail
      refine bodyPost_ret (v := .tuple #[.agg #[.int .i64 1, .string ⟨#[]⟩, .string ⟨#[]⟩, .slice none 0 0], .slice (cut1 b off c) n2 (c - 1), .bool true]) ?_ rfl ⟨_, by rw [HLF.out]; rfl, ?_, HE4.out⟩
      · rw [results_cell_tmp2 rfl]
        have hl := run_loadVar_row (P := Try.prog) _ w.heap.size _ 72 _ _ _ HS4.out Try.underlying72 rfl (by kernel_rfl)
        simp [asAddr, hl, Result.andThen]
      · exact HWIN.out.same ((Same.below HE4.out).mono HSW.out)
    · have hneT := ba_beq' ht
      rw [← ByteArray.toList_eq, show (⟨#[116, 104, 105, 115]⟩ : ByteArray).data.toList = [116, 104, 105, 115] from rfl] at hneT
      have HLF := Lib.hid (show leafD x = .mk 2 x ⟨#[]⟩ [] from if_neg ht)
      clear ht
      go_wp2_with fail
      have hE : Ext w wr.drew := HX1.out.trans (Ext.drew _)
      obtain ⟨wd, hwd⟩ : ∃ x, x = wr.drew := ⟨_, rfl⟩
      have xrd : Ext wr wd := by rw [hwd]; exact Ext.drew wr
      refine region_walkN (Ext w) hE (by kernel_rfl) (by kernel_rfl) (fun _ _ d _ _ h => by cases d <;> exact h) ?_
      rw [← hwd] at hE ⊢
      clear hwd
      have HR0 := Lib.hid (HR0.out.below xrd)
      have HX1 := Lib.hid hE
      ((refine WalkN.take 0 _ ?_ (by simp only [List.getElem?_toArray, List.getElem?_cons_zero]; rfl) (by kernel_rfl) (by kernel_rfl) (by rfl) (fun W hW => ?_) ?_; rotate_left; · (go_simp; try with_reducible rfl)); simp only [Act.put, List.setIfInBounds_toArray, List.set_cons_zero, List.set_cons_succ]); ((refine WalkN.take 1 _ ?_ (by simp only [List.getElem?_toArray, List.getElem?_cons_succ, List.getElem?_cons_zero]; rfl) (by kernel_rfl) (by kernel_rfl) (by rfl) (fun W hW => ?_) ?_; rotate_left; · (go_simp; try with_reducible rfl)); simp only [Act.put, List.setIfInBounds_toArray, List.set_cons_zero, List.set_cons_succ]); ((refine WalkN.take 2 _ ?_ (by simp only [List.getElem?_toArray, List.getElem?_cons_succ, List.getElem?_cons_zero]; rfl) (by kernel_rfl) (by kernel_rfl) (by rfl) (fun W hW => ?_) ?_; rotate_left; · (go_simp; try with_reducible rfl)); simp only [Act.put, List.setIfInBounds_toArray, List.set_cons_zero, List.set_cons_succ]); ((refine WalkN.take 3 _ ?_ (by simp only [List.getElem?_toArray, List.getElem?_cons_succ, List.getElem?_cons_zero]; rfl) (by kernel_rfl) (by kernel_rfl) (by rfl) (fun W hW => ?_) ?_; rotate_left; · (go_simp; try with_reducible rfl)); simp only [Act.put, List.setIfInBounds_toArray, List.set_cons_zero, List.set_cons_succ]); ((refine WalkN.take 4 _ ?_ (by simp only [List.getElem?_toArray, List.getElem?_cons_succ, List.getElem?_cons_zero]; rfl) (by kernel_rfl) (by kernel_rfl) (by rfl) (fun W hW => ?_) ?_; rotate_left; · (go_simp; try with_reducible rfl)); simp only [Act.put, List.setIfInBounds_toArray, List.set_cons_zero, List.set_cons_succ])
      refine WalkN.take 5 _ (.slice (cut1 b off c) n2 (c - 1)) (by simp only [List.getElem?_toArray, List.getElem?_cons_succ, List.getElem?_cons_zero]; rfl) (by kernel_rfl) (by kernel_rfl) (by rfl) (fun W hW => ?_) ?_
      · unfold cut1
        go_simp
        try with_reducible rfl
      simp only [Act.put, List.setIfInBounds_toArray, List.set_cons_zero, List.set_cons_succ]
      have rd := HR0.out.cells
      have fd := HR0.out.free
      have hs1 := HR0.out.set_to 0 (.int .i64 2) rfl
      have hs2 := hs1.set_to 1 (.string x) rfl
      have hs3 := hs2.set_to 2 (.string ⟨#[]⟩) rfl
      have hs4 := hs3.set_to 3 (.slice none 0 0) rfl
      have HS4 := Lib.hid hs4
      have HE4 := Lib.hid (show Ext w ((((wd.setCell ⟨w.heap.size, 0, none⟩ (.int .i64 2)).setCell ⟨w.heap.size, 1, none⟩ (.string x)).setCell ⟨w.heap.size, 2, none⟩ (.string ⟨#[]⟩)).setCell ⟨w.heap.size, 3, none⟩ (.slice none 0 0)) from (((HX1.out.setCell (Nat.le_refl _) _).setCell (Nat.le_refl _) _).setCell (Nat.le_refl _) _).setCell (Nat.le_refl _) _)
      clear hs1 hs2 hs3 hs4
      refine WalkN.one 6 (by kernel_rfl) ?_
      refine ⟨_, (by simp only [List.getElem?_toArray, List.getElem?_cons_succ, List.getElem?_cons_zero]; rfl), by rfl, fun K hK => ?_⟩
      go_simp
      refine hK.out _ _ HE4.out ?_
      clear hK
      have hE := HE4.out
      ((refine WalkN.take 7 _ ?_ (by simp only [List.getElem?_toArray, List.getElem?_cons_succ, List.getElem?_cons_zero]; rfl) (by kernel_rfl) (by kernel_rfl) (by rfl) (fun W hW => ?_) ?_; rotate_left; · (go_simp; try with_reducible rfl)); simp only [Act.put, List.setIfInBounds_toArray, List.set_cons_zero, List.set_cons_succ]); ((refine WalkN.take 8 _ ?_ (by simp only [List.getElem?_toArray, List.getElem?_cons_succ, List.getElem?_cons_zero]; rfl) (by kernel_rfl) (by kernel_rfl) (by rfl) (fun W hW => ?_) ?_; rotate_left; · (go_simp; try with_reducible rfl)); simp only [Act.put, List.setIfInBounds_toArray, List.set_cons_zero, List.set_cons_succ])
      refine WalkN.done (by kernel_rfl) ?_
      go_wp2_with fail
      refine bodyPost_ret (v := .tuple #[.agg #[.int .i64 2, .string x, .string ⟨#[]⟩, .slice none 0 0], .slice (cut1 b off c) n2 (c - 1), .bool true]) ?_ rfl ⟨_, by rw [HLF.out]; rfl, ?_, HE4.out⟩
      · rw [results_cell_tmp2 rfl]
        have hl := run_loadVar_row (P := Try.prog) _ w.heap.size _ 72 _ _ _ HS4.out Try.underlying72 rfl (by kernel_rfl)
        simp [asAddr, hl, Result.andThen]
      · exact HWIN.out.same ((Same.below HE4.out).mono HSW.out)
  · skip
    by_cases ht : x = ⟨#[116, 104, 105, 115]⟩
    · subst ht
      have HLF := Lib.hid (show leafD ⟨#[116, 104, 105, 115]⟩ = .mk 1 ⟨#[]⟩ ⟨#[]⟩ [] from rfl)
      go_wp2_with fail
      have hE : Ext w wr.drew := HX1.out.trans (Ext.drew _)
      obtain ⟨wd, hwd⟩ : ∃ x, x = wr.drew := ⟨_, rfl⟩
      have xrd : Ext wr wd := by rw [hwd]; exact Ext.drew wr
      refine region_walkN (Ext w) hE (by kernel_rfl) (by kernel_rfl) (fun _ _ d _ _ h => by cases d <;> exact h) ?_
      rw [← hwd] at hE ⊢
      clear hwd
      have HR0 := Lib.hid (HR0.out.below xrd)
      have HX1 := Lib.hid hE
      ((refine WalkN.take 0 _ ?_ (by simp only [List.getElem?_toArray, List.getElem?_cons_zero]; rfl) (by kernel_rfl) (by kernel_rfl) (by rfl) (fun W hW => ?_) ?_; rotate_left; · (go_simp; try with_reducible rfl)); simp only [Act.put, List.setIfInBounds_toArray, List.set_cons_zero, List.set_cons_succ]); ((refine WalkN.take 1 _ ?_ (by simp only [List.getElem?_toArray, List.getElem?_cons_succ, List.getElem?_cons_zero]; rfl) (by kernel_rfl) (by kernel_rfl) (by rfl) (fun W hW => ?_) ?_; rotate_left; · (go_simp; try with_reducible rfl)); simp only [Act.put, List.setIfInBounds_toArray, List.set_cons_zero, List.set_cons_succ])
      refine WalkN.take 2 _ (.slice (cut1 b off c) n2 (c - 1)) (by simp only [List.getElem?_toArray, List.getElem?_cons_succ, List.getElem?_cons_zero]; rfl) (by kernel_rfl) (by kernel_rfl) (by rfl) (fun W hW => ?_) ?_
      · unfold cut1
        go_simp
        try with_reducible rfl
      simp only [Act.put, List.setIfInBounds_toArray, List.set_cons_zero, List.set_cons_succ]
      have rd := HR0.out.cells
      have fd := HR0.out.free
      have hs1 := HR0.out.set_to 0 (.int .i64 1) rfl
      have hs2 := hs1.set_to 1 (.string ⟨#[]⟩) rfl
      have hs3 := hs2.set_to 2 (.string ⟨#[]⟩) rfl
      have hs4 := hs3.set_to 3 (.slice none 0 0) rfl
      have HS4 := Lib.hid hs4
      have HE4 := Lib.hid (show Ext w ((((wd.setCell ⟨w.heap.size, 0, none⟩ (.int .i64 1)).setCell ⟨w.heap.size, 1, none⟩ (.string ⟨#[]⟩)).setCell ⟨w.heap.size, 2, none⟩ (.string ⟨#[]⟩)).setCell ⟨w.heap.size, 3, none⟩ (.slice none 0 0)) from (((HX1.out.setCell (Nat.le_refl _) _).setCell (Nat.le_refl _) _).setCell (Nat.le_refl _) _).setCell (Nat.le_refl _) _)
      clear hs1 hs2 hs3 hs4
      refine WalkN.one 3 (by kernel_rfl) ?_
      refine ⟨_, (by simp only [List.getElem?_toArray, List.getElem?_cons_succ, List.getElem?_cons_zero]; rfl), by rfl, fun K hK => ?_⟩
      go_simp
      refine hK.out _ _ HE4.out ?_
      clear hK
      have hE := HE4.out
      ((refine WalkN.take 4 _ ?_ (by simp only [List.getElem?_toArray, List.getElem?_cons_succ, List.getElem?_cons_zero]; rfl) (by kernel_rfl) (by kernel_rfl) (by rfl) (fun W hW => ?_) ?_; rotate_left; · (go_simp; try with_reducible rfl)); simp only [Act.put, List.setIfInBounds_toArray, List.set_cons_zero, List.set_cons_succ]); ((refine WalkN.take 5 _ ?_ (by simp only [List.getElem?_toArray, List.getElem?_cons_succ, List.getElem?_cons_zero]; rfl) (by kernel_rfl) (by kernel_rfl) (by rfl) (fun W hW => ?_) ?_; rotate_left; · (go_simp; try with_reducible rfl)); simp only [Act.put, List.setIfInBounds_toArray, List.set_cons_zero, List.set_cons_succ])
      refine WalkN.done (by kernel_rfl) ?_
      go_wp2_with fail
      refine bodyPost_ret (v := .tuple #[.agg #[.int .i64 1, .string ⟨#[]⟩, .string ⟨#[]⟩, .slice none 0 0], .slice (cut1 b off c) n2 (c - 1), .bool true]) ?_ rfl ⟨_, by rw [HLF.out]; rfl, ?_, HE4.out⟩
      · rw [results_cell_tmp2 rfl]
        have hl := run_loadVar_row (P := Try.prog) _ w.heap.size _ 72 _ _ _ HS4.out Try.underlying72 rfl (by kernel_rfl)
        simp [asAddr, hl, Result.andThen]
      · exact HWIN.out.same ((Same.below HE4.out).mono HSW.out)
    · have hneT := ba_beq' ht
      rw [← ByteArray.toList_eq, show (⟨#[116, 104, 105, 115]⟩ : ByteArray).data.toList = [116, 104, 105, 115] from rfl] at hneT
      have HLF := Lib.hid (show leafD x = .mk 2 x ⟨#[]⟩ [] from if_neg ht)
      clear ht
      go_wp2_with fail
      have hE : Ext w wr.drew := HX1.out.trans (Ext.drew _)
      obtain ⟨wd, hwd⟩ : ∃ x, x = wr.drew := ⟨_, rfl⟩
      have xrd : Ext wr wd := by rw [hwd]; exact Ext.drew wr
      refine region_walkN (Ext w) hE (by kernel_rfl) (by kernel_rfl) (fun _ _ d _ _ h => by cases d <;> exact h) ?_
      rw [← hwd] at hE ⊢
      clear hwd
      have HR0 := Lib.hid (HR0.out.below xrd)
      have HX1 := Lib.hid hE
      ((refine WalkN.take 0 _ ?_ (by simp only [List.getElem?_toArray, List.getElem?_cons_zero]; rfl) (by kernel_rfl) (by kernel_rfl) (by rfl) (fun W hW => ?_) ?_; rotate_left; · (go_simp; try with_reducible rfl)); simp only [Act.put, List.setIfInBounds_toArray, List.set_cons_zero, List.set_cons_succ]); ((refine WalkN.take 1 _ ?_ (by simp only [List.getElem?_toArray, List.getElem?_cons_succ, List.getElem?_cons_zero]; rfl) (by kernel_rfl) (by kernel_rfl) (by rfl) (fun W hW => ?_) ?_; rotate_left; · (go_simp; try with_reducible rfl)); simp only [Act.put, List.setIfInBounds_toArray, List.set_cons_zero, List.set_cons_succ]); ((refine WalkN.take 2 _ ?_ (by simp only [List.getElem?_toArray, List.getElem?_cons_succ, List.getElem?_cons_zero]; rfl) (by kernel_rfl) (by kernel_rfl) (by rfl) (fun W hW => ?_) ?_; rotate_left; · (go_simp; try with_reducible rfl)); simp only [Act.put, List.setIfInBounds_toArray, List.set_cons_zero, List.set_cons_succ]); ((refine WalkN.take 3 _ ?_ (by simp only [List.getElem?_toArray, List.getElem?_cons_succ, List.getElem?_cons_zero]; rfl) (by kernel_rfl) (by kernel_rfl) (by rfl) (fun W hW => ?_) ?_; rotate_left; · (go_simp; try with_reducible rfl)); simp only [Act.put, List.setIfInBounds_toArray, List.set_cons_zero, List.set_cons_succ]); ((refine WalkN.take 4 _ ?_ (by simp only [List.getElem?_toArray, List.getElem?_cons_succ, List.getElem?_cons_zero]; rfl) (by kernel_rfl) (by kernel_rfl) (by rfl) (fun W hW => ?_) ?_; rotate_left; · (go_simp; try with_reducible rfl)); simp only [Act.put, List.setIfInBounds_toArray, List.set_cons_zero, List.set_cons_succ])
      refine WalkN.take 5 _ (.slice (cut1 b off c) n2 (c - 1)) (by simp only [List.getElem?_toArray, List.getElem?_cons_succ, List.getElem?_cons_zero]; rfl) (by kernel_rfl) (by kernel_rfl) (by rfl) (fun W hW => ?_) ?_
      · unfold cut1
        go_simp
        try with_reducible rfl
      simp only [Act.put, List.setIfInBounds_toArray, List.set_cons_zero, List.set_cons_succ]
      have rd := HR0.out.cells
      have fd := HR0.out.free
      have hs1 := HR0.out.set_to 0 (.int .i64 2) rfl
      have hs2 := hs1.set_to 1 (.string x) rfl
      have hs3 := hs2.set_to 2 (.string ⟨#[]⟩) rfl
      have hs4 := hs3.set_to 3 (.slice none 0 0) rfl
      have HS4 := Lib.hid hs4
      have HE4 := Lib.hid (show Ext w ((((wd.setCell ⟨w.heap.size, 0, none⟩ (.int .i64 2)).setCell ⟨w.heap.size, 1, none⟩ (.string x)).setCell ⟨w.heap.size, 2, none⟩ (.string ⟨#[]⟩)).setCell ⟨w.heap.size, 3, none⟩ (.slice none 0 0)) from (((HX1.out.setCell (Nat.le_refl _) _).setCell (Nat.le_refl _) _).setCell (Nat.le_refl _) _).setCell (Nat.le_refl _) _)
      clear hs1 hs2 hs3 hs4
      refine WalkN.one 6 (by kernel_rfl) ?_
      refine ⟨_, (by simp only [List.getElem?_toArray, List.getElem?_cons_succ, List.getElem?_cons_zero]; rfl), by rfl, fun K hK => ?_⟩
      go_simp
      refine hK.out _ _ HE4.out ?_
      clear hK
      have hE := HE4.out
      ((refine WalkN.take 7 _ ?_ (by simp only [List.getElem?_toArray, List.getElem?_cons_succ, List.getElem?_cons_zero]; rfl) (by kernel_rfl) (by kernel_rfl) (by rfl) (fun W hW => ?_) ?_; rotate_left; · (go_simp; try with_reducible rfl)); simp only [Act.put, List.setIfInBounds_toArray, List.set_cons_zero, List.set_cons_succ]); ((refine WalkN.take 8 _ ?_ (by simp only [List.getElem?_toArray, List.getElem?_cons_succ, List.getElem?_cons_zero]; rfl) (by kernel_rfl) (by kernel_rfl) (by rfl) (fun W hW => ?_) ?_; rotate_left; · (go_simp; try with_reducible rfl)); simp only [Act.put, List.setIfInBounds_toArray, List.set_cons_zero, List.set_cons_succ])
      refine WalkN.done (by kernel_rfl) ?_
      go_wp2_with fail
      refine bodyPost_ret (v := .tuple #[.agg #[.int .i64 2, .string x, .string ⟨#[]⟩, .slice none 0 0], .slice (cut1 b off c) n2 (c - 1), .bool true]) ?_ rfl ⟨_, by rw [HLF.out]; rfl, ?_, HE4.out⟩
      · rw [results_cell_tmp2 rfl]
        have hl := run_loadVar_row (P := Try.prog) _ w.heap.size _ 72 _ _ _ HS4.out Try.underlying72 rfl (by kernel_rfl)
        simp [asAddr, hl, Result.andThen]
      · exact HWIN.out.same ((Same.below HE4.out).mono HSW.out)

end Go.Proofs.Ytipddhcfcehcaaa
