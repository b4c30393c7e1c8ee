/- ExpandTrees: for every schema, tuples, shut relations, point and numbers of a bulk of at most 1048576 the law returns true, and its arguments read as before. -/
import Derived.Test.YtjdigpfipmckhaaGreatRows
import Derived.Deep.DeepHandedRow
import Derived.Test.YtjdigpfipmckhaaGreatYXTrees17
import Derived.Test.YtjdigpfipmckhaaGreatYXTrees10
import Derived.Test.YtjdigpfipmckhaaGreatYXTrees18
namespace Go.Proofs.YtjdigpfipmckhaaGreat.expandTrees
open Go Go.RowKit Go.ChangeShapes Go.WideShapes Go.ChangeAt
set_option maxRecDepth 100000 in
theorem contract (H:Type)(enc:TypeId × Value->H)(W:World)(base:Nat)(args:Array Value)(ds gs:List (DataW H))(before:List MemPlace)
  (hval:∀ (j:Nat) t v,Tryz.f4.params[j]?=some t->args[j]?=some v->Value.okWide Tryz.prog W .any base t v)
  (hW:DataW.Whole enc Tryz.prog Tryz.f4.params.toList Rows.expandTreesSpec.vars false W args.toList ds gs before) (hk:Rows.uptoSmall H (ds++gs)=true) :
  Calls Tryz.prog 4 args W fun e W'=>∃ v,e = .returned v/\Rows.expandTreesSpec.post enc Tryz.prog Tryz.f4 false true false false W args v W':=by
 have hW':=hW;obtain⟨p,q,hA0,hV,rfl,hfz,hnd⟩:=hW;have hA:DataW.TrodAll enc Tryz.prog W 0 (fun _=>true) true Tryz.f4.params.toList args.toList ds p:=hA0;rw[Tryz.params4]at hA hval;obtain⟨v0,vs0,d0,ds0,p0,q0,hargs,rfl,rfl,h0,r0⟩:=trodAll_cons hA;obtain⟨v1,vs1,d1,ds1,p1,q1,rfl,rfl,rfl,h1,r1⟩:=trodAll_cons r0;obtain⟨v2,vs2,d2,ds2,p2,q2,rfl,rfl,rfl,h2,r2⟩:=trodAll_cons r1;obtain⟨v3,vs3,d3,ds3,p3,q3,rfl,rfl,rfl,h3,r3⟩:=trodAll_cons r2;obtain⟨v4,vs4,d4,ds4,p4,q4,rfl,rfl,rfl,h4,r4⟩:=trodAll_cons r3;obtain⟨v5,vs5,d5,ds5,p5,q5,rfl,rfl,rfl,h5,r5⟩:=trodAll_cons r4;obtain⟨rfl,rfl,rfl⟩:=trodAll_nil r5;obtain rfl:args=#[v0,v1,v2,v3,v4,v5]:=by cases args;simp_all
 obtain⟨ts,tv,rfl,hts,hbk0,hok0⟩:=open_schemaV (hval 0 _ v0 rfl rfl) h0;obtain⟨l,hl,hlo⟩:=open_tupsV (hval 1 _ v1 rfl rfl) h1;obtain⟨shut,hsv,hso⟩:=open_refsV (hval 2 _ v2 rfl rfl) h2;obtain⟨p,rfl,hpo⟩:=open_pointV (hval 3 _ v3 rfl rfl) h3;obtain⟨d,rfl⟩:=open_intV (hval 4 _ v4 rfl rfl) h4;obtain⟨most,rfl⟩:=open_intV (hval 5 _ v5 rfl rfl) h5;obtain⟨rfl,rfl⟩:=trodVars_none hV;clear hA0;have hb1:Rows.uptoBulkAll [d0,d1,d2,d3,d4,d5]<=1048576:=of_decide_eq_true hk;simp only[Rows.uptoBulkAll]at hb1;refine(treesLaw_any ts tv l v1 shut v2 p d most W hts (by omega) (hok0 (by omega)) hl hlo hsv hso hpo).mono fun e W' hr=>?_;obtain⟨rfl,hb⟩:=hr;exact⟨_,rfl,law_post hW' rfl (tb:=4) (by kernel_rfl) Tryz.underlying4 rfl rfl rfl (by kernel_rfl) (by kernel_rfl) hb⟩
theorem own:ownKnob Tryz.prog.godebug=none:=by kernel_rfl
noncomputable def settled (os:Os):World:=World.holding Tryz.prog os ⟨#[],#[],[]⟩
theorem laid_met (os:Os):laidMet Tryz.prog Rows.expandTreesUptoRow.laid ((settled os).forCall (fun _ _=>0) ⟨#[],#[.agg #[.slice none 0 0],.slice none 0 0,.slice none 0 0,.agg #[.string ByteArray.empty,.string ByteArray.empty,.string ByteArray.empty],.int .i64 0,.int .i64 0],[]⟩).memory :=
 laidMet_of_run' 8 (by kernel_rfl) (by kernel_rfl)
theorem reads (os:Os) {H:Type} (enc:TypeId × Value->H):∃ places,DataW.whole enc Tryz.prog ((settled os).forCall (fun _ _=>0) ⟨#[],#[.agg #[.slice none 0 0],.slice none 0 0,.slice none 0 0,.agg #[.string ByteArray.empty,.string ByteArray.empty,.string ByteArray.empty],.int .i64 0,.int .i64 0],[]⟩).memory Tryz.f4.params.toList Rows.expandTreesSpec.vars false (#[.agg #[.slice none 0 0],.slice none 0 0,.slice none 0 0,.agg #[.string ByteArray.empty,.string ByteArray.empty,.string ByteArray.empty],.int .i64 0,.int .i64 0]:Array Value).toList 8=some ([.agg [.nil],.nil,.nil,.agg [.agg [.lit (.string []),.lit (.string [])],.lit (.string [])],.lit (.int .i64 0),.lit (.int .i64 0)],[],places) :=
 ⟨[],by kernel_rfl⟩
set_option maxRecDepth 100000 in
theorem lifted (os:Os)(started:os.Started)(H:Type)(enc:TypeId × Value->H)(F:Stop.Interp) :
  ReturnsInHanded {} Tryz.checked os 4 .any ((Rows.OpenSpec.upto Rows.expandTreesSpec).preRow enc Tryz.prog Tryz.f4 Rows.expandTreesUptoRow.domain false Rows.expandTreesUptoRow.laid) (((Rows.OpenSpec.upto Rows.expandTreesSpec).at F).post enc Tryz.prog Tryz.f4 false true false false):=by
 obtain⟨places,hx⟩:=reads os enc
 refine returnsInHanded_of_row (C:=Tryz.checked) (s:=(Rows.OpenSpec.upto Rows.expandTreesSpec)) own started (by kernel_rfl) Tryz.func4
  (witness_row_at (enc:=enc) (C:=Tryz.checked) false (settled os) #[.agg #[.slice none 0 0],.slice none 0 0,.slice none 0 0,.agg #[.string ByteArray.empty,.string ByteArray.empty,.string ByteArray.empty],.int .i64 0,.int .i64 0] rfl (by kernel_rfl) (by kernel_rfl) (by kernel_rfl)
   (OpenSpec.preRow_of_cond 8 hx (by kernel_rfl) (fun k hk=>by cases hk;kernel_rfl) (by kernel_rfl) (laid_met os))) ?_
 intro W base args ds gs before hval hW _ hcond _ _ _ _;exact contract H enc W base args ds gs before hval hW (hcond _ rfl)
theorem said:Rows.ExpandTreesUptoSaid :=
 OpenClaim.holds_of_cond 4 Tryz.f4 rfl rfl rfl rfl rfl rfl rfl ⟨rfl,rfl,rfl,rfl,rfl⟩ rfl rfl rfl rfl rfl (by kernel_rfl) Tryz.func4 (by kernel_rfl)
  (of_decide_eq_true (by kernel_rfl)) (by unfold Func.isWrapper;rw[if_neg (of_decide_eq_false (by kernel_rfl))];exact⟨rfl,rfl⟩)
  (fun os started H enc _ F=>by rw[OpenClaim.pre_eq_preRow];exact lifted os started H enc F)
end Go.Proofs.YtjdigpfipmckhaaGreat.expandTrees
