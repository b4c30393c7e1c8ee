/- What rows of few entries are; the walk of sentrylaw19.fixed. No condition: lemmas. -/
import Derived.Test.YtcglegipdlaoiaaDoorIterH
namespace Go.Proofs.YtcglegipdlaoiaaDoor
open Go Go.RowKit

theorem innerA_sz (x : Ent) (h : x.1.size ≤ 100) : (innerA x).size ≤ 10000000 := by
  have h1 := esc_length x.1.data.toList
  have h2 : x.1.data.toList.length = x.1.size := Array.length_toList
  show (innerB x.1.data.toList x.2.1 x.2.2).toArray.size ≤ _
  simp [innerB, be8]
  omega
theorem sumLen_rows : ∀ ls : List (List Ent), sumLen (rowsLL ls) ≤ sumE ls
  | [] => by simp [rowsLL, sumLen, sumE]
  | l :: ls => by
    have := sumLen_rows ls
    have := rowsL_len l
    unfold rowsLL at *
    simp only [List.map_cons, sumLen, sumE]
    omega
theorem mem_rowsLL {ls : List (List Ent)} {r : List ByteArray} (h : r ∈ rowsLL ls) : ∃ l ∈ ls, r = rowsL l := by
  obtain ⟨l, hl, e⟩ := List.mem_map.1 h
  exact ⟨l, hl, e.symm⟩
theorem len_sumE : ∀ {ls : List (List Ent)} {l : List Ent}, l ∈ ls → l.length ≤ sumE ls
  | a :: ls, l, h => by
    rcases List.mem_cons.1 h with e | h
    · subst e; simp [sumE]
    · have := len_sumE h; simp only [sumE]; omega

/-- What rows of few entries are. -/
structure LawOk (ls : List (List Ent)) : Prop where
  src : SrcOk (rowsLL ls)
  rws : RowsOk (rowsLL ls)
  good : Good (allL (rowsLL ls))
  all : (allL (rowsLL ls)).length ≤ 1000000
  n : ls.length ≤ 1000
  len : ∀ l ∈ ls, l.length ≤ 1000
  key : ∀ l ∈ ls, ∀ e ∈ l, e.1.size ≤ 10000000

theorem law_ok {ls : List (List Ent)} (hs : sumE ls ≤ 1000) (hn : ls.length ≤ 1000) (hk : ∀ l ∈ ls, ∀ e ∈ l, e.1.size ≤ 100) (hu : ∀ l ∈ ls, ∀ e ∈ l, U64 e.2.1) : LawOk ls := by
  have hsum := sumLen_rows ls
  have hkey : ∀ r ∈ rowsLL ls, ∀ k ∈ r, k.size ≤ 10000000 := by
    intro r hr k hkr
    obtain ⟨l, hl, rfl⟩ := mem_rowsLL hr
    obtain ⟨e, he, rfl⟩ := (rowsL_mem l k).1 hkr
    exact innerA_sz e (hk l hl e he)
  have hal := allL_length (rowsLL ls)
  refine ⟨⟨fun r hr => ?_, fun r hr => ?_, hkey⟩, ⟨by unfold rowsLL; rw [List.length_map]; exact hn, by omega, hkey⟩, all_good fun r hr => ?_, by omega, hn, fun l hl => ?_, fun l hl e he => ?_⟩
  · obtain ⟨l, hl, rfl⟩ := mem_rowsLL hr
    exact rowsL_up l
  · obtain ⟨l, hl, rfl⟩ := mem_rowsLL hr
    have := rowsL_len l
    have := len_sumE hl
    omega
  · obtain ⟨l, hl, rfl⟩ := mem_rowsLL hr
    exact rowsL_good l (hu l hl)
  · have := len_sumE hl; omega
  · have := hk l hl e he; omega

def es19 : List (List Ent) := [[(⟨#[97]⟩, 3, true), (⟨#[97]⟩, 2, false)]]
theorem es19_ok : LawOk es19 := law_ok (by decide) (by decide) (by decide) (by unfold U64; decide)
theorem es19_get : refGetL ((allL (rowsLL es19)).map decoD) ⟨#[97]⟩ 2 = some (⟨#[97]⟩, 2, false) := of_decide_eq_true (by kernel_rfl)
theorem es19_scan : (atK 3 (allL (rowsLL es19))) = [] := of_decide_eq_true (by kernel_rfl)

end Go.Proofs.YtcglegipdlaoiaaDoor
