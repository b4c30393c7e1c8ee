/- Two edits, one behind the other, lead where one that has both leads. Plain Lean: no program in sight. No condition: lemmas. -/
import Derived.Test.YtkllfdfipkcddaaEditP
namespace Go.Proofs.Ytkllfdfipkcddaa
open Go Go.RowKit

theorem applyR_inv {v a : Ver} {e : Edi} (h : applyR v e = (a, 0)) : chkN v = 0 ∧ rightE e = true ∧ ∃ l, dropAll v.tabs e.drop = some l ∧ addAll insT l e.add = some a.tabs ∧ a = outOf v e a.tabs ∧ chkN a = 0 := by
  rcases chkN_cases v with hc | hc
  · cases hr : rightE e with
    | false => rw [applyR_1 hc hr] at h; cases h
    | true =>
      refine ⟨hc, rfl, ?_⟩
      cases hd : dropAll v.tabs e.drop with
      | none => rw [applyR_4 hc hr hd] at h; cases h
      | some l =>
        cases ha : addAll insT l e.add with
        | none => rw [applyR_3 hc hr hd ha] at h; cases h
        | some m =>
          rw [applyR_ok hc hr hd ha] at h
          rcases chkN_cases (outOf v e m) with h0 | h0
          · rw [if_neg (by rw [h0]; decide)] at h
            obtain rfl : outOf v e m = a := (Prod.mk.inj h).1
            exact ⟨l, rfl, ha, rfl, h0⟩
          · rw [if_pos (by rw [h0]; decide)] at h
            have := (Prod.mk.inj h).2
            cases this
  · rw [applyR_9 hc] at h
    have := (Prod.mk.inj h).2
    cases this

theorem hasN_append (a b : List Tab) (n : Int) : hasN (a ++ b) n = (hasN a n || hasN b n) := by unfold hasN; rw [List.any_append]
theorem lessN_append (a b : List Tab) (n : Int) : lessN (a ++ b) n = lessN a n ++ lessN b n := by unfold lessN; rw [List.filter_append]
theorem lessN_same {a : List Tab} {n : Int} (h : hasN a n = false) : lessN a n = a := by
  unfold lessN
  rw [List.filter_eq_self]
  intro t ht
  rw [decide_eq_true_eq]
  intro e
  rw [Bool.eq_false_iff] at h
  exact h (hasN_iff.2 (List.mem_map.2 ⟨t, ht, e⟩))

/-- What is dropped out of a row with more in it, of which nothing is dropped. -/
theorem dropAll_part : ∀ (ns : List Int) {A L X A' : List Tab}, A.Perm (L ++ X) → (∀ n ∈ ns, hasN X n = false) → dropAll A ns = some A' → ∃ L', dropAll L ns = some L' ∧ A'.Perm (L' ++ X)
  | [], A, L, X, A', hp, _, h => by
    obtain rfl : A = A' := by simpa [dropAll] using h
    exact ⟨L, rfl, hp⟩
  | n :: ns, A, L, X, A', hp, hx, h => by
    unfold dropAll at h
    split at h
    · rename_i hn
      have hXn := hx n List.mem_cons_self
      rw [hasN_perm hp, hasN_append, hXn, Bool.or_false] at hn
      have hp2 : (lessN A n).Perm (lessN L n ++ X) := by
        have := hp.filter (fun t => decide (t.num ≠ n))
        have e : lessN (L ++ X) n = lessN L n ++ X := by rw [lessN_append, lessN_same hXn]
        exact e ▸ this
      obtain ⟨L', h1, h2⟩ := dropAll_part ns hp2 (fun m hm => hx m (List.mem_cons_of_mem _ hm)) h
      exact ⟨L', by unfold dropAll; rw [if_pos hn]; exact h1, h2⟩
    · cases h

/-- What is added behind a row: all of it, if no number comes twice. -/
theorem addAll_app : ∀ (ts : List Tab) {l : List Tab}, NumsT (l ++ ts) → addAll (fun l t => l ++ [t]) l ts = some (l ++ ts)
  | [], l, _ => by simp [addAll]
  | t :: ts, l, h => by
    have hn : hasN l t.num = false := by
      rw [Bool.eq_false_iff]
      intro e
      unfold NumsT at h
      rw [List.map_append, List.nodup_append] at h
      exact h.2.2 t.num (hasN_iff.1 e) t.num (by simp) rfl
    unfold addAll
    rw [hn]
    simp only [Bool.false_eq_true, if_false]
    have := addAll_app ts (l := l ++ [t]) (by rwa [List.append_assoc])
    rw [this, List.append_assoc]
    rfl
theorem addAll_val : ∀ (ts : List Tab) {l m : List Tab}, addAll (fun l t => l ++ [t]) l ts = some m → m = l ++ ts
  | [], l, m, h => by obtain rfl : l = m := by simpa [addAll] using h
                      simp
  | t :: ts, l, m, h => by
    unfold addAll at h
    split at h
    · cases h
    · rw [addAll_val ts h, List.append_assoc]; rfl
theorem addAll_isperm {ts l m : List Tab} (h : addAll insT l ts = some m) : m.Perm (l ++ ts) := by
  rcases addAll_perm ts (List.Perm.refl l) with ⟨h1, _⟩ | ⟨a, b, h1, h2, hp⟩
  · rw [h] at h1; cases h1
  · obtain rfl : m = a := by rw [h] at h1; exact Option.some.inj h1
    rw [addAll_val ts h2] at hp
    exact hp

/-- Both edits in one. -/
def bothE (x y : Edi) : Edi := ⟨x.add ++ y.add, x.drop ++ y.drop, max x.floor y.floor, max x.head y.head, max x.log y.log, max x.next y.next⟩

theorem oddB_max {a b : Int} (h : oddB a = false) (k : oddB b = false) : oddB (max a b) = false := by
  unfold oddB at *
  simp only [Bool.or_eq_false_iff, decide_eq_false_iff_not] at *
  omega

theorem rightE_both {x y : Edi} (h : rightE x = true) (k : rightE y = true) : rightE (bothE x y) = true := by
  unfold rightE bothE at *
  simp only [Bool.and_eq_true, Bool.not_eq_true'] at *
  refine ⟨oddB_max h.1 k.1, oddB_max h.2.1 k.2.1, ?_, ?_⟩
  · rw [List.any_append, h.2.2.1, k.2.2.1]; rfl
  · rw [List.any_append, h.2.2.2, k.2.2.2]; rfl

theorem apply_both {v a b : Ver} {x y : Edi} (hx : applyR v x = (a, 0)) (hy : applyR a y = (b, 0)) (hn : ∀ n ∈ y.drop, hasN x.add n = false) : applyR v (bothE x y) = (b, 0) := by
  obtain ⟨cv, rx, l1, d1, a1, ea, ca⟩ := applyR_inv hx
  obtain ⟨_, ry, l2, d2, a2, eb, cb⟩ := applyR_inv hy
  obtain ⟨l3, d3, hp3⟩ := dropAll_part y.drop (addAll_isperm a1) hn d2
  have hua := (chkN_chk ca).up
  have hna := (chkN_chk ca).nums
  have huv := (chkN_chk cv).up
  have hd : dropAll v.tabs (bothE x y).drop = some l3 := by
    show dropAll v.tabs (x.drop ++ y.drop) = some l3
    rw [dropAll_append, d1]
    exact d3
  have hn2 : NumsT l2 := List.Nodup.sublist ((dropAll_keep _ d2).map _) hna
  have hn3 : NumsT (l3 ++ x.add) := ((hp3.map _).nodup_iff).1 hn2
  have hu2 : UpT l2 := List.Pairwise.sublist (dropAll_keep _ d2) hua
  have hu3 : UpT l3 := List.Pairwise.sublist (dropAll_keep _ d3) (List.Pairwise.sublist (dropAll_keep _ d1) huv)
  obtain ⟨m, hm, hpm⟩ : ∃ m, addAll insT l3 x.add = some m ∧ m.Perm (l3 ++ x.add) := by
    rcases addAll_perm x.add (List.Perm.refl l3) with ⟨_, h2⟩ | ⟨m, c, h1, h2, hp⟩
    · rw [addAll_app _ hn3] at h2; cases h2
    · rw [addAll_app _ hn3] at h2
      obtain rfl := Option.some.inj h2
      exact ⟨m, h1, hp⟩
  have hpm2 : m.Perm l2 := hpm.trans hp3.symm
  obtain ⟨bt, hbt, hpb⟩ : ∃ bt, addAll insT m y.add = some bt ∧ bt.Perm b.tabs := by
    rcases addAll_perm y.add hpm2 with ⟨_, h2⟩ | ⟨bt, c, h1, h2, hp⟩
    · rcases addAll_perm y.add (List.Perm.refl l2) with ⟨h3, _⟩ | ⟨_, c', _, h4, _⟩
      · rw [a2] at h3; cases h3
      · rw [h2] at h4; cases h4
    · rcases addAll_perm y.add (List.Perm.refl l2) with ⟨h3, _⟩ | ⟨b', c', h3, h4, hp4⟩
      · rw [a2] at h3; cases h3
      · rw [a2] at h3
        obtain rfl := Option.some.inj h3
        rw [h2] at h4
        obtain rfl := Option.some.inj h4
        exact ⟨bt, h1, hp.trans hp4.symm⟩
  have hub : UpT b.tabs := addAll_up _ hu2 a2
  have hut : UpT bt := addAll_up _ (addAll_up _ hu3 hm) hbt
  obtain rfl : bt = b.tabs := up_unique hut hub hpb
  have ha : addAll insT l3 (bothE x y).add = some b.tabs := by
    show addAll insT l3 (x.add ++ y.add) = some b.tabs
    rw [addAll_append, hm]
    exact hbt
  have ho : outOf v (bothE x y) b.tabs = b := by
    rw [eb]
    conv => rhs; rw [ea]
    unfold outOf bothE
    simp only [Ver.mk.injEq, true_and]
    omega
  rw [applyR_ok cv (rightE_both rx ry) hd ha, ho, if_neg (by rw [cb]; decide)]

end Go.Proofs.Ytkllfdfipkcddaa
