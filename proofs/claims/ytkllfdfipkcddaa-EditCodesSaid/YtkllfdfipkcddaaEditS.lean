/- The walks of edit.Encode and its closure. No condition: lemmas. -/
import Derived.Test.YtkllfdfipkcddaaEditD
import Derived.Test.YtkllfdfipkcddaaEditE
import Derived.Test.YtkllfdfipkcddaaCodecT
import Derived.IntWalk
namespace Go.Proofs.Ytkllfdfipkcddaa
open Go Go.RowKit

/-- Numbers as bytes. -/
def putsI (ns : List Int) : List UInt8 := ns.flatMap fun n => putB n.toNat
theorem putsI_append (a b : List Int) : putsI (a ++ b) = putsI a ++ putsI b := by simp [putsI]
/-- A number that is written. -/
def In62 (n : Int) : Prop := 0 ≤ n ∧ n < 4611686018427387904
theorem putsI_len : ∀ (ns : List Int), (∀ n ∈ ns, In62 n) → (putsI ns).length ≤ 10 * ns.length
  | [], _ => by simp [putsI]
  | n :: ns, h => by
    have h1 := putsI_len ns (fun m hm => h m (List.mem_cons_of_mem _ hm))
    have h2 : (putB n.toNat).length ≤ 10 := U64.len (by have := h n List.mem_cons_self; unfold U64; unfold In62 at this; omega)
    have e : putsI (n :: ns) = putB n.toNat ++ putsI ns := rfl
    rw [e, List.length_append, List.length_cons]
    omega
theorem putsI_take {ns : List Int} {i : Nat} (hi : i < ns.length) : putsI (ns.take (i + 1)) = putsI (ns.take i) ++ putB ns[i].toNat := by
  rw [List.take_succ_eq_append_getElem hi, putsI_append]
  simp [putsI]

set_option maxRecDepth 100000 in
set_option maxHeartbeats 800000 in
theorem encPut_any (g : Nat) (nv : Value) (ns : List Int) (v : Value) (ys : List UInt8) (w : World) (hB : Blk w g #[v] 40) (hv : Sl (· < w.heap.size) w 1 v (bc ys))
    (hn : Sl (fun b => b < w.heap.size ∧ b ≠ g) w 1 nv (ic ns)) (hok : ∀ n ∈ ns, In62 n) (hl : ys.length + 10 * ns.length ≤ 1000000) :
    Calls Try.prog 25 #[nv, .pointer (some ⟨g, 0, none⟩)] w (fun e w' => e = .returned (.tuple #[]) ∧ ∃ v', Blk w' g #[v'] 40 ∧ Sl (· < w'.heap.size) w' 1 v' (bc (ys ++ putsI ns)) ∧ Kept (fun b => b < w.heap.size ∧ b ≠ g) w w') := by
  obtain ⟨ao, c, rfl, hnc, hnm, hcell⟩ := hn.ints
  have HC := Lib.hid hcell
  have HOK := Lib.hid hok
  clear hcell hn hok
  go_enter Try.func25, Try.ntmps25
  go_wp2
  go_loopw [7] (fun ii wr => ∃ i : Nat, i ≤ ns.length ∧ ii = .int .i64 i ∧ ∃ v', Blk wr g #[v'] 40 ∧ Sl (· < wr.heap.size) wr 1 v' (bc (ys ++ putsI (ns.take i))) ∧ Kept (fun b => b < w.heap.size ∧ b ≠ g) w wr) (fun ii _ => ns.length - (intOf ii).toNat)
  case atStart => exact ⟨0, by omega, rfl, v, hB, by simpa [putsI] using hv, Kept.refl _ _⟩
  case round =>
    obtain ⟨i, hi, rfl, v', hB', hv', hk⟩ := hrel
    have hsz := hk.size
    have hBc := hB'.cells
    have hBf := hB'.free
    have hlen : (ys ++ putsI (ns.take i)).length ≤ 1000000 := by
      have := putsI_len (ns.take i) (fun n hn => HOK.out n (List.mem_of_mem_take hn))
      rw [List.length_take] at this
      rw [List.length_append]
      omega
    by_cases hlt : i < ns.length
    · obtain ⟨b, off, rfl, hb, hc⟩ := HC.out (by omega)
      have c0 := hc i hlt
      have c0 := (show wr.cell? ⟨b, off + i, none⟩ = w.cell? ⟨b, off + i, none⟩ from Same.cell (fun x hx => hk.block x hx) (p := ⟨b, off + i, none⟩) hb).trans c0
      have HT := Lib.hid (putsI_take hlt)
      have hin := HOK.out _ (List.getElem_mem hlt)
      clear hc
      generalize ns[i] = n at *
      obtain ⟨q, rfl⟩ : ∃ q : Nat, n = q := ⟨n.toNat, by unfold In62 at hin; omega⟩
      have hq : U64 q := by unfold In62 at hin; unfold U64; omega
      have hw := hq.wrap
      have HP := Lib.hid (put_any v' _ q wr hv' (by omega) hq)
      go_wp2_with fail
      refine HP.out.mono ?_
      rintro e w1 ⟨v1, rfl, happ, hb1⟩
      obtain ⟨ao', n', c', rfl, _, _⟩ := hv'.len
      have hB1 := hB'.below hb1
      have hB1c := hB1.cells
      have hB1f := hB1.free
      have hs1 := happ.sl.off hB1
      obtain ⟨ao1, n1, c1, rfl, _, _⟩ := happ.sl.len
      clear happ
      go_wp2
      go_roundw
      case rel =>
        refine ⟨i + 1, by omega, by go_num, _, Blk.set_to hB1 0 _ rfl, ?_, ?_⟩
        · rw [HT.out, ← List.append_assoc]
          refine (hs1.same fun x hx => Below.heap_setCell w1 _ _ x (by have := hx.2; simpa using this)).mono fun x hx => ?_
          simpa using hx.1
        · exact (hk.trans (Below.kept hb1 fun x hx => by omega)).set (by simp) _
      case measure => simp [intOf]; omega
    · obtain rfl : i = ns.length := by omega
      rw [List.take_length] at hv'
      go_wp2
      go_end0
      exact ⟨rfl, v', hB', hv', hk⟩

end Go.Proofs.Ytkllfdfipkcddaa
