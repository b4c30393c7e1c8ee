/- EditRow: for every version and two edits the law returns true, and its arguments read as before. -/
import Derived.Test.YtkllfdfipkcddaaEditY
import Derived.Test.YtkllfdfipkcddaaOpenE
import Derived.Test.YtkllfdfipkcddaaRows
import Derived.Deep.DeepHandedRow
namespace Go.Proofs.Ytkllfdfipkcddaa.editRow
open Go Go.RowKit Go.ChangeShapes Go.WideShapes Go.ChangeAt

set_option maxRecDepth 100000 in
theorem contract (H : Type) (enc : TypeId × Value → H) (W : World) (base : Nat) (args : Array Value) (ds gs : List (DataW H)) (before : List MemPlace) (ts : List TypeId)
    (hval : ∀ (j : Nat) t v, Try.f4.params[j]? = some t → args[j]? = some v → Value.okWide Try.prog W .any base t v)
    (hW : DataW.Whole enc Try.prog Try.f4.params.toList Rows.editRowSpec.vars false W args.toList ds gs before)
    (hsz : (DataW.weightsEach Try.prog (Try.f4.params.toList ++ ts) (ds ++ gs)).all (· ≤ reachBytes) = true) :
    Calls Try.prog 4 args W fun e W' => ∃ v, e = .returned v ∧ Rows.editRowSpec.post enc Try.prog Try.f4 false true false false W args v W' := by
  have hW' := hW
  obtain ⟨p, q, hA0, hV, rfl, hfz, hnd⟩ := hW
  have hA : DataW.TrodAll enc Try.prog W 0 (fun _ => true) true Try.f4.params.toList args.toList ds p := hA0
  rw [Try.params4] at hA hval hsz
  obtain ⟨v0, vs0, d0, ds0, p0, q0, hargs, rfl, rfl, h0, r0⟩ := trodAll_cons hA
  obtain ⟨v1, vs1, d1, ds1, p1, q1, rfl, rfl, rfl, h1, r1⟩ := trodAll_cons r0
  obtain ⟨v2, vs2, d2, ds2, p2, q2, rfl, rfl, rfl, h2, r2⟩ := trodAll_cons r1
  obtain ⟨rfl, rfl, rfl⟩ := trodAll_nil r2
  obtain rfl : args = #[v0, v1, v2] := by cases args; simp_all
  have hz0 : ∀ n ∈ d0.weights Try.prog 25, n ≤ reachBytes := fun n hn => by
    have := List.all_eq_true.1 hsz n (DataW.weights_mem_each (j := 0) rfl rfl n hn)
    simpa using this
  have hz1 : ∀ n ∈ d1.weights Try.prog 28, n ≤ reachBytes := fun n hn => by
    have := List.all_eq_true.1 hsz n (DataW.weights_mem_each (j := 1) rfl rfl n hn)
    simpa using this
  have hz2 : ∀ n ∈ d2.weights Try.prog 28, n ≤ reachBytes := fun n hn => by
    have := List.all_eq_true.1 hsz n (DataW.weights_mem_each (j := 2) rfl rfl n hn)
    simpa using this
  obtain ⟨tv, x, rfl, ht, hx⟩ := open_ver (hval 0 _ v0 rfl rfl) h0 hz0
  obtain ⟨av, dv, y, rfl, ha, hd, hy, _, _⟩ := open_edit (hval 1 _ v1 rfl rfl) h1 hz1
  obtain ⟨bv, ev, z, rfl, hb, he, hzz, _, _⟩ := open_edit (hval 2 _ v2 rfl rfl) h2 hz2
  obtain ⟨rfl, rfl⟩ := trodVars_none hV
  clear hA0
  refine (rowlaw_any tv av dv bv ev x y z W ht ha hd hb he hx hy hzz).mono fun e W' hr => ?_
  obtain ⟨rfl, hb⟩ := hr
  exact ⟨_, rfl, law_post hW' rfl (tb := 4) (by kernel_rfl) Try.underlying4 rfl rfl rfl (by kernel_rfl) (by kernel_rfl) hb⟩

theorem own : ownKnob Try.prog.godebug = none := by kernel_rfl
noncomputable def settled (os : Os) : World := World.holding Try.prog os ⟨#[], #[], []⟩
theorem laid_met (os : Os) : laidMet Try.prog Rows.editRowRow.laid ((settled os).forCall (fun _ _ => 0) ⟨#[], #[.agg #[.slice none 0 0, .int .u64 0, .int .u64 0, .int .i64 0, .int .i64 0], .agg #[.slice none 0 0, .slice none 0 0, .int .u64 0, .int .u64 0, .int .i64 0, .int .i64 0], .agg #[.slice none 0 0, .slice none 0 0, .int .u64 0, .int .u64 0, .int .i64 0, .int .i64 0]], []⟩).memory :=
  laidMet_of_run' 8 (by kernel_rfl) (by kernel_rfl)
theorem reads (os : Os) {H : Type} (enc : TypeId × Value → H) : ∃ places, DataW.whole enc Try.prog ((settled os).forCall (fun _ _ => 0) ⟨#[], #[.agg #[.slice none 0 0, .int .u64 0, .int .u64 0, .int .i64 0, .int .i64 0], .agg #[.slice none 0 0, .slice none 0 0, .int .u64 0, .int .u64 0, .int .i64 0, .int .i64 0], .agg #[.slice none 0 0, .slice none 0 0, .int .u64 0, .int .u64 0, .int .i64 0, .int .i64 0]], []⟩).memory Try.f4.params.toList Rows.editRowSpec.vars false (#[.agg #[.slice none 0 0, .int .u64 0, .int .u64 0, .int .i64 0, .int .i64 0], .agg #[.slice none 0 0, .slice none 0 0, .int .u64 0, .int .u64 0, .int .i64 0, .int .i64 0], .agg #[.slice none 0 0, .slice none 0 0, .int .u64 0, .int .u64 0, .int .i64 0, .int .i64 0]] : Array Value).toList 8 = some ([.agg [.nil, .lit (.int .u64 0), .lit (.int .u64 0), .lit (.int .i64 0), .lit (.int .i64 0)], .agg [.nil, .nil, .lit (.int .u64 0), .lit (.int .u64 0), .lit (.int .i64 0), .lit (.int .i64 0)], .agg [.nil, .nil, .lit (.int .u64 0), .lit (.int .u64 0), .lit (.int .i64 0), .lit (.int .i64 0)]], [], places) :=
  ⟨[], by kernel_rfl⟩

set_option maxRecDepth 100000 in
theorem lifted (os : Os) (started : os.Started) (H : Type) (enc : TypeId × Value → H) (F : Stop.Interp) :
    ReturnsInHanded {} Try.checked os 4 .any ((OpenSpec.ofChange Rows.editRowSpec).preRow enc Try.prog Try.f4 Rows.editRowRow.domain false Rows.editRowRow.laid) (((OpenSpec.ofChange Rows.editRowSpec).at F).post enc Try.prog Try.f4 false true false false) := by
  obtain ⟨places, hx⟩ := reads os enc
  refine returnsInHanded_of_row (C := Try.checked) (s := OpenSpec.ofChange Rows.editRowSpec) own started (by kernel_rfl) Try.func4
    (witness_row_at (enc := enc) (C := Try.checked) false (settled os) #[.agg #[.slice none 0 0, .int .u64 0, .int .u64 0, .int .i64 0, .int .i64 0], .agg #[.slice none 0 0, .slice none 0 0, .int .u64 0, .int .u64 0, .int .i64 0, .int .i64 0], .agg #[.slice none 0 0, .slice none 0 0, .int .u64 0, .int .u64 0, .int .i64 0, .int .i64 0]] rfl (by kernel_rfl) (by kernel_rfl) (by kernel_rfl)
      (OpenSpec.preRow_of_cond 8 hx (by kernel_rfl) (fun k hk => by cases hk) (by kernel_rfl) (laid_met os))) ?_
  intro W base args ds gs before hval hW _ _ hsz _ _ _
  exact contract H enc W base args ds gs before _ hval hW hsz

theorem said : Rows.EditRowSaid :=
  OpenClaim.holds_of_cond 4 Try.f4 rfl rfl rfl rfl rfl rfl rfl ⟨rfl, rfl, rfl, rfl, rfl⟩ rfl rfl rfl rfl rfl (by kernel_rfl) Try.func4 (by kernel_rfl)
    (of_decide_eq_true (by kernel_rfl)) (by unfold Func.isWrapper; rw [if_neg (of_decide_eq_false (by kernel_rfl))]; exact ⟨rfl, rfl⟩)
    (fun os started H enc _ F => by rw [OpenClaim.pre_eq_preRow]; exact lifted os started H enc F)

end Go.Proofs.Ytkllfdfipkcddaa.editRow
