/- ExpandDeeper: for every tape and numbers the law returns true, and its arguments read as before. -/
import Derived.Test.YtjdigpfipmckhaaGreatRows
import Derived.Deep.DeepHandedRow
import Derived.Test.YtjdigpfipmckhaaGreatYXDeep17
import Derived.Test.YtjdigpfipmckhaaGreatYXDeep13
namespace Go.Proofs.YtjdigpfipmckhaaGreat.expandDeeper
open Go Go.RowKit Go.ChangeShapes Go.WideShapes Go.ChangeAt
set_option maxRecDepth 100000 in
theorem contract (H:Type)(enc:TypeId × Value->H)(W:World)(base:Nat)(args:Array Value)(ds gs:List (DataW H))(before:List MemPlace)
  (hval:∀ (j:Nat) t v,Tryz.f7.params[j]?=some t->args[j]?=some v->Value.okWide Tryz.prog W .any base t v)
  (hW:DataW.Whole enc Tryz.prog Tryz.f7.params.toList Rows.expandDeeperSpec.vars false W args.toList ds gs before) :
  Calls Tryz.prog 7 args W fun e W'=>∃ v,e = .returned v/\Rows.expandDeeperSpec.post enc Tryz.prog Tryz.f7 false true false false W args v W':=by
 have hW':=hW;obtain⟨p,q,hA0,hV,rfl,hfz,hnd⟩:=hW;have hA:DataW.TrodAll enc Tryz.prog W 0 (fun _=>true) true Tryz.f7.params.toList args.toList ds p:=hA0;rw[Tryz.params7]at hA hval;obtain⟨v0,vs0,d0,ds0,p0,q0,hargs,rfl,rfl,h0,r0⟩:=trodAll_cons hA;obtain⟨v1,vs1,d1,ds1,p1,q1,rfl,rfl,rfl,h1,r1⟩:=trodAll_cons r0;obtain⟨v2,vs2,d2,ds2,p2,q2,rfl,rfl,rfl,h2,r2⟩:=trodAll_cons r1;obtain⟨rfl,rfl,rfl⟩:=trodAll_nil r2;obtain rfl:args=#[v0,v1,v2]:=by cases args;simp_all
 obtain⟨l,hl⟩:=open_bytesV (hval 0 _ v0 rfl rfl) h0;obtain⟨a,rfl,ha⟩:=open_u8V (hval 1 _ v1 rfl rfl) h1;obtain⟨m,rfl,hm⟩:=open_u8V (hval 2 _ v2 rfl rfl) h2;obtain⟨rfl,rfl⟩:=trodVars_none hV;clear hA0;refine(deeperLaw_any l v0 a ha m hm W hl).mono fun e W' hr=>?_;obtain⟨rfl,hb⟩:=hr;exact⟨_,rfl,law_post hW' rfl (tb:=4) (by kernel_rfl) Tryz.underlying4 rfl rfl rfl (by kernel_rfl) (by kernel_rfl) hb⟩
theorem own:ownKnob Tryz.prog.godebug=none:=by kernel_rfl
noncomputable def settled (os:Os):World:=World.holding Tryz.prog os ⟨#[],#[],[]⟩
theorem laid_met (os:Os):laidMet Tryz.prog Rows.expandDeeperRow.laid ((settled os).forCall (fun _ _=>0) ⟨#[],#[.slice none 0 0,.int .u8 0,.int .u8 0],[]⟩).memory :=
 laidMet_of_run' 8 (by kernel_rfl) (by kernel_rfl)
theorem reads (os:Os) {H:Type} (enc:TypeId × Value->H):∃ places,DataW.whole enc Tryz.prog ((settled os).forCall (fun _ _=>0) ⟨#[],#[.slice none 0 0,.int .u8 0,.int .u8 0],[]⟩).memory Tryz.f7.params.toList Rows.expandDeeperSpec.vars false (#[.slice none 0 0,.int .u8 0,.int .u8 0]:Array Value).toList 8=some ([.nil,.lit (.int .u8 0),.lit (.int .u8 0)],[],places) :=
 ⟨[],by kernel_rfl⟩
set_option maxRecDepth 100000 in
theorem lifted (os:Os)(started:os.Started)(H:Type)(enc:TypeId × Value->H)(F:Stop.Interp) :
  ReturnsInHanded {} Tryz.checked os 7 .any ((OpenSpec.ofChange Rows.expandDeeperSpec).preRow enc Tryz.prog Tryz.f7 Rows.expandDeeperRow.domain false Rows.expandDeeperRow.laid) (((OpenSpec.ofChange Rows.expandDeeperSpec).at F).post enc Tryz.prog Tryz.f7 false true false false):=by
 obtain⟨places,hx⟩:=reads os enc
 refine returnsInHanded_of_row (C:=Tryz.checked) (s:=(OpenSpec.ofChange Rows.expandDeeperSpec)) own started (by kernel_rfl) Tryz.func7
  (witness_row_at (enc:=enc) (C:=Tryz.checked) false (settled os) #[.slice none 0 0,.int .u8 0,.int .u8 0] rfl (by kernel_rfl) (by kernel_rfl) (by kernel_rfl)
   (OpenSpec.preRow_of_cond 8 hx (by kernel_rfl) (fun k hk=>by cases hk) (by kernel_rfl) (laid_met os))) ?_
 intro W base args ds gs before hval hW _ _ _ _ _ _;exact contract H enc W base args ds gs before hval hW
theorem said:Rows.ExpandDeeperSaid :=
 OpenClaim.holds_of_cond 7 Tryz.f7 rfl rfl rfl rfl rfl rfl rfl ⟨rfl,rfl,rfl,rfl,rfl⟩ rfl rfl rfl rfl rfl (by kernel_rfl) Tryz.func7 (by kernel_rfl)
  (of_decide_eq_true (by kernel_rfl)) (by unfold Func.isWrapper;rw[if_neg (of_decide_eq_false (by kernel_rfl))];exact⟨rfl,rfl⟩)
  (fun os started H enc _ F=>by rw[OpenClaim.pre_eq_preRow];exact lifted os started H enc F)
end Go.Proofs.YtjdigpfipmckhaaGreat.expandDeeper
