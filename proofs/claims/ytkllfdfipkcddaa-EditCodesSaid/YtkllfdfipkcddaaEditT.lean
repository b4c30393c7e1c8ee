/- The walk of edit.Encode. No condition: lemmas. -/
import Derived.Test.YtkllfdfipkcddaaEditS
import Derived.Test.YtkllfdfipkcddaaRegionN
import Derived.Test.YtkllfdfipkcddaaMapB
namespace Go.Proofs.Ytkllfdfipkcddaa
open Go Go.RowKit

/-- P16.1: a table as bytes, tables, an edit. -/
def encT (t : Tab) : List UInt8 := putsI [t.num, t.lvl, t.size] ++ putT t.first.data.toList ++ putT t.last.data.toList
def encA (l : List Tab) : List UInt8 := l.flatMap encT
def encE (x : Edi) : List UInt8 := putsI [x.add.length] ++ encA x.add ++ putsI [x.drop.length] ++ putsI x.drop ++ putB x.floor ++ putB x.head ++ putsI [x.log, x.next]

/-- A table whose numbers are written, and whose texts are short. -/
structure TabR (t : Tab) : Prop where
  num : In62 t.num
  lvl : In62 t.lvl
  size : In62 t.size
  short : t.first.size + t.last.size ≤ 300
theorem TabR.nums {t : Tab} (h : TabR t) : ∀ n ∈ [t.num, t.lvl, t.size], In62 n := by
  intro n hn
  simp only [List.mem_cons, List.not_mem_nil, or_false] at hn
  rcases hn with rfl | rfl | rfl
  · exact h.num
  · exact h.lvl
  · exact h.size
theorem putT_len (s : ByteArray) (h : s.size ≤ 300) : (putT s.data.toList).length ≤ 10 + s.size := by
  unfold putT
  rw [List.length_append, size_data]
  have : (putB s.size).length ≤ 10 := U64.len (by unfold U64; omega)
  omega
theorem encT_len {t : Tab} (h : TabR t) : (encT t).length ≤ 350 := by
  unfold encT
  rw [List.length_append, List.length_append]
  have h1 := putsI_len _ h.nums
  have h2 := putT_len t.first (by have := h.short; omega)
  have h3 := putT_len t.last (by have := h.short; omega)
  have := h.short
  simp only [List.length_cons, List.length_nil] at h1
  omega
theorem encA_len : ∀ (l : List Tab), (∀ t ∈ l, TabR t) → (encA l).length ≤ 350 * l.length
  | [], _ => by simp [encA]
  | t :: l, h => by
    have h1 := encA_len l (fun m hm => h m (List.mem_cons_of_mem _ hm))
    have h2 := encT_len (h t List.mem_cons_self)
    have e : encA (t :: l) = encT t ++ encA l := rfl
    rw [e, List.length_append, List.length_cons]
    omega
theorem encA_take {l : List Tab} {i : Nat} (hi : i < l.length) : encA (l.take (i + 1)) = encA (l.take i) ++ encT l[i] := by
  unfold encA
  rw [List.take_succ_eq_append_getElem hi, List.flatMap_append]
  simp
theorem oddB_in {n : Int} (h : oddB n = false) : In62 n := by
  unfold oddB at h
  simp only [Bool.or_eq_false_iff, decide_eq_false_iff_not] at h
  exact ⟨by omega, by omega⟩
theorem right_tabs {x : Edi} (hr : rightE x = true) (hf : fewL x.add x.drop = true) : ∀ t ∈ x.add, TabR t := by
  intro t ht
  unfold rightE at hr
  unfold fewL at hf
  simp only [Bool.and_eq_true, Bool.not_eq_true', List.any_eq_false, List.all_eq_true] at hr hf
  have h1 := hr.2.2.2 t ht
  have h2 := hf.1 t ht
  unfold oddT at h1
  unfold shortT at h2
  simp only [Bool.or_eq_true, not_or, Bool.not_eq_true] at h1
  simp only [decide_eq_true_eq] at h2
  exact ⟨oddB_in h1.1.1, oddB_in h1.1.2, oddB_in h1.2, by omega⟩
theorem right_drop {x : Edi} (hr : rightE x = true) : (∀ n ∈ x.drop, In62 n) ∧ In62 x.log ∧ In62 x.next := by
  unfold rightE at hr
  simp only [Bool.and_eq_true, Bool.not_eq_true', List.any_eq_false, Bool.not_eq_true] at hr
  exact ⟨fun n hn => oddB_in (hr.2.2.1 n hn), oddB_in hr.1, oddB_in hr.2.1⟩

/-- The closure, handed a literal. -/
theorem encPut_lit (g p k : Nat) (ns : List Int) (cs : Array Value) (v : Value) (ys : List UInt8) (w : World) (hp : w.heap.size = p) (hk : ns.length = k) (hB : Blk w g #[v] 40) (hv : Sl (· < w.heap.size) w 1 v (bc ys))
    (hcs : cs.toList = ic ns) (hok : ∀ n ∈ ns, In62 n) (hl : ys.length + 10 * ns.length ≤ 1000000) :
    Calls Try.prog 25 #[.slice (some ⟨p, 0, none⟩) k k, .pointer (some ⟨g, 0, none⟩)] (w.alloc (.cells cs 3)) (fun e w' => e = .returned (.tuple #[]) ∧ ∃ v', Blk w' g #[v'] 40 ∧ Sl (· < w'.heap.size) w' 1 v' (bc (ys ++ putsI ns)) ∧ Kept (fun b => b < w.heap.size ∧ b ≠ g) w w') := by
  subst hp hk
  have hg := hB.lt
  have hE : Below w.heap.size w (w.alloc (.cells cs 3)) := (Below.refl _ _).alloc (Nat.le_refl _) _
  have hcl : cs.size = ns.length * 1 := by have := congrArg List.length hcs; rw [ic_length, Array.length_toList] at this; omega
  have h := encPut_any g (.slice (some ⟨w.heap.size, 0, none⟩) ns.length ns.length) ns v ys _ (hB.below hE) (hv.up hE)
    (by rw [← hcs]; exact Sl.made w _ 1 ns.length 3 cs hcl (by unfold maxLen; omega) ⟨by simp, by omega⟩) hok hl
  refine h.mono ?_
  rintro e w' ⟨he, v', h1, h2, h3⟩
  exact ⟨he, v', h1, h2, (Below.kept hE fun b hb => hb.1).trans (h3.mono fun b hb => ⟨by have := hb.1; simp; omega, hb.2⟩)⟩

end Go.Proofs.Ytkllfdfipkcddaa
