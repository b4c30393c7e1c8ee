/- CheckSolves: for every graph, subject and flags of a bulk of at most 1048576 the law returns true, and its arguments read as before. -/
import Derived.Test.YtjdigpfipmckhaaGreatRows
import Derived.Deep.DeepHandedRow
import Derived.Test.YtjdigpfipmckhaaGreatYChSolv14
namespace Go.Proofs.YtjdigpfipmckhaaGreat.checkSolves
open Go Go.RowKit Go.ChangeShapes Go.WideShapes Go.ChangeAt
set_option maxRecDepth 100000 in
theorem contract (H:Type)(enc:TypeId × Value->H)(W:World)(base:Nat)(args:Array Value)(ds gs:List (DataW H))(before:List MemPlace)
  (hval:∀ (j:Nat) t v,Tryz.f9.params[j]?=some t->args[j]?=some v->Value.okWide Tryz.prog W .any base t v)
  (hW:DataW.Whole enc Tryz.prog Tryz.f9.params.toList Rows.checkSolvesSpec.vars false W args.toList ds gs before) (hk:Rows.uptoSmall H (ds++gs)=true) :
  Calls Tryz.prog 9 args W fun e W'=>∃ v,e = .returned v/\Rows.checkSolvesSpec.post enc Tryz.prog Tryz.f9 false true false false W args v W':=by
 have hW':=hW;obtain⟨p,q,hA0,hV,rfl,hfz,hnd⟩:=hW;have hA:DataW.TrodAll enc Tryz.prog W 0 (fun _=>true) true Tryz.f9.params.toList args.toList ds p:=hA0;rw[Tryz.params9]at hA hval;obtain⟨v0,vs0,d0,ds0,p0,q0,hargs,rfl,rfl,h0,r0⟩:=trodAll_cons hA;obtain⟨v1,vs1,d1,ds1,p1,q1,rfl,rfl,rfl,h1,r1⟩:=trodAll_cons r0;obtain⟨v2,vs2,d2,ds2,p2,q2,rfl,rfl,rfl,h2,r2⟩:=trodAll_cons r1;obtain⟨rfl,rfl,rfl⟩:=trodAll_nil r2;obtain rfl:args=#[v0,v1,v2]:=by cases args;simp_all
 obtain⟨qs,fs,pv,fv,rfl,hg,hbk0⟩:=open_graphV (hval 0 _ v0 rfl rfl) h0;obtain⟨s,rfl⟩:=open_subV (hval 1 _ v1 rfl rfl) h1;obtain⟨bs,hbs⟩:=open_boolsV (hval 2 _ v2 rfl rfl) h2;obtain⟨rfl,rfl⟩:=trodVars_none hV;clear hA0;have hb1:Rows.uptoBulkAll [d0,d1,d2]<=1048576:=of_decide_eq_true hk;simp only[Rows.uptoBulkAll]at hb1;refine(solvesLaw_any qs fs pv fv s bs _ W hg (by omega) hbs).mono fun e W' hr=>?_;obtain⟨rfl,hb⟩:=hr;exact⟨_,rfl,law_post hW' rfl (tb:=4) (by kernel_rfl) Tryz.underlying4 rfl rfl rfl (by kernel_rfl) (by kernel_rfl) hb⟩
theorem own:ownKnob Tryz.prog.godebug=none:=by kernel_rfl
noncomputable def settled (os:Os):World:=World.holding Tryz.prog os ⟨#[],#[],[]⟩
theorem laid_met (os:Os):laidMet Tryz.prog Rows.checkSolvesUptoRow.laid ((settled os).forCall (fun _ _=>0) ⟨#[],#[.agg #[.slice none 0 0,.slice none 0 0],.agg #[.string ByteArray.empty,.string ByteArray.empty,.string ByteArray.empty],.slice none 0 0],[]⟩).memory :=
 laidMet_of_run' 8 (by kernel_rfl) (by kernel_rfl)
theorem reads (os:Os) {H:Type} (enc:TypeId × Value->H):∃ places,DataW.whole enc Tryz.prog ((settled os).forCall (fun _ _=>0) ⟨#[],#[.agg #[.slice none 0 0,.slice none 0 0],.agg #[.string ByteArray.empty,.string ByteArray.empty,.string ByteArray.empty],.slice none 0 0],[]⟩).memory Tryz.f9.params.toList Rows.checkSolvesSpec.vars false (#[.agg #[.slice none 0 0,.slice none 0 0],.agg #[.string ByteArray.empty,.string ByteArray.empty,.string ByteArray.empty],.slice none 0 0]:Array Value).toList 8=some ([.agg [.nil,.nil],.agg [.agg [.lit (.string []),.lit (.string [])],.lit (.string [])],.nil],[],places) :=
 ⟨[],by kernel_rfl⟩
set_option maxRecDepth 100000 in
theorem lifted (os:Os)(started:os.Started)(H:Type)(enc:TypeId × Value->H)(F:Stop.Interp) :
  ReturnsInHanded {} Tryz.checked os 9 .any ((Rows.OpenSpec.upto Rows.checkSolvesSpec).preRow enc Tryz.prog Tryz.f9 Rows.checkSolvesUptoRow.domain false Rows.checkSolvesUptoRow.laid) (((Rows.OpenSpec.upto Rows.checkSolvesSpec).at F).post enc Tryz.prog Tryz.f9 false true false false):=by
 obtain⟨places,hx⟩:=reads os enc
 refine returnsInHanded_of_row (C:=Tryz.checked) (s:=(Rows.OpenSpec.upto Rows.checkSolvesSpec)) own started (by kernel_rfl) Tryz.func9
  (witness_row_at (enc:=enc) (C:=Tryz.checked) false (settled os) #[.agg #[.slice none 0 0,.slice none 0 0],.agg #[.string ByteArray.empty,.string ByteArray.empty,.string ByteArray.empty],.slice none 0 0] rfl (by kernel_rfl) (by kernel_rfl) (by kernel_rfl)
   (OpenSpec.preRow_of_cond 8 hx (by kernel_rfl) (fun k hk=>by cases hk;kernel_rfl) (by kernel_rfl) (laid_met os))) ?_
 intro W base args ds gs before hval hW _ hcond _ _ _ _;exact contract H enc W base args ds gs before hval hW (hcond _ rfl)
theorem said:Rows.CheckSolvesUptoSaid :=
 OpenClaim.holds_of_cond 9 Tryz.f9 rfl rfl rfl rfl rfl rfl rfl ⟨rfl,rfl,rfl,rfl,rfl⟩ rfl rfl rfl rfl rfl (by kernel_rfl) Tryz.func9 (by kernel_rfl)
  (of_decide_eq_true (by kernel_rfl)) (by unfold Func.isWrapper;rw[if_neg (of_decide_eq_false (by kernel_rfl))];exact⟨rfl,rfl⟩)
  (fun os started H enc _ F=>by rw[OpenClaim.pre_eq_preRow];exact lifted os started H enc F)
end Go.Proofs.YtjdigpfipmckhaaGreat.checkSolves
