/- LookupObjects: for every schema, tuples, shut relations, relation, subject and number of a bulk of at most 1048576 the law returns true, and its arguments read as before. -/
import Derived.Test.YtlhaghoajpglaaaGreatRows
import Derived.Deep.DeepHandedRow
import Derived.Test.YtlhaghoajpglaaaGreatYLkObj21
import Derived.Deep.DeepHandedRow
set_option maxRecDepth 100000
namespace Go.Proofs.YtlhaghoajpglaaaGreat.lookupObjects
open Go Go.RowKit Go.ChangeShapes Go.WideShapes Go.ChangeAt
theorem contract (H:Type)(enc:TypeId × Value->H)(W:World)(base:Nat)(args:Array Value)(ds gs:List (DataW H))(before:List MemPlace)
  (hval:∀ (j:Nat) t v,Tryz.f14.params[j]?=some t->args[j]?=some v->Value.okWide Tryz.prog W .any base t v)
  (hW:DataW.Whole enc Tryz.prog Tryz.f14.params.toList Rows.lookupObjectsSpec.vars false W args.toList ds gs before) (hk:Rows.uptoSmall H (ds++gs)=true) :
  Calls Tryz.prog 14 args W fun e W'=>∃ v,e = .returned v/\Rows.lookupObjectsSpec.post enc Tryz.prog Tryz.f14 false true false false W args v W':=by
 have hW':=hW;obtain⟨p,q,hA0,hV,rfl,hfz,hnd⟩:=hW;have hA:DataW.TrodAll enc Tryz.prog W 0 (fun _=>true) true Tryz.f14.params.toList args.toList ds p:=hA0;rw[Tryz.params14]at hA hval;obtain⟨v0,vs0,d0,ds0,p0,q0,hargs,rfl,rfl,h0,r0⟩:=trodAll_cons hA;obtain⟨v1,vs1,d1,ds1,p1,q1,rfl,rfl,rfl,h1,r1⟩:=trodAll_cons r0;obtain⟨v2,vs2,d2,ds2,p2,q2,rfl,rfl,rfl,h2,r2⟩:=trodAll_cons r1;obtain⟨v3,vs3,d3,ds3,p3,q3,rfl,rfl,rfl,h3,r3⟩:=trodAll_cons r2;obtain⟨v4,vs4,d4,ds4,p4,q4,rfl,rfl,rfl,h4,r4⟩:=trodAll_cons r3;obtain⟨v5,vs5,d5,ds5,p5,q5,rfl,rfl,rfl,h5,r5⟩:=trodAll_cons r4;obtain⟨rfl,rfl,rfl⟩:=trodAll_nil r5;obtain rfl:args=#[v0,v1,v2,v3,v4,v5]:=by cases args;simp_all
 obtain⟨ts,tv,rfl,hts,hbk0,hok0⟩:=open_schemaV (hval 0 _ v0 rfl rfl) h0;obtain⟨l,hl,hlo⟩:=open_tupsV (hval 1 _ v1 rfl rfl) h1;obtain⟨shut,hsv,hso⟩:=open_refsV (hval 2 _ v2 rfl rfl) h2;obtain⟨⟨rt,rr⟩,rfl,hro⟩:=open_refV (hval 3 _ v3 rfl rfl) h3;obtain⟨s,rfl⟩:=open_subV (hval 4 _ v4 rfl rfl) h4;obtain⟨most,rfl⟩:=open_intV (hval 5 _ v5 rfl rfl) h5;obtain⟨rfl,rfl⟩:=trodVars_none hV;clear hA0;have hb1:Rows.uptoBulkAll [d0,d1,d2,d3,d4,d5]<=1048576:=of_decide_eq_true hk;simp only[Rows.uptoBulkAll]at hb1;refine(objectsLaw_any ts tv l v1 shut v2 rt rr s most W hts (by omega) (hok0 (by omega)) hl hlo hsv hso hro).mono fun e W' hr=>?_;obtain⟨rfl,hb⟩:=hr;exact⟨_,rfl,law_post hW' rfl (tb:=4) (by kernel_rfl) Tryz.underlying4 rfl rfl rfl (by kernel_rfl) (by kernel_rfl) hb⟩
theorem own:ownKnob Tryz.prog.godebug=none:=by kernel_rfl
noncomputable def settled (os:Os):World:=World.holding Tryz.prog os ⟨#[],#[],[]⟩
theorem laid_met (os:Os):laidMet Tryz.prog Rows.lookupObjectsUptoRow.laid ((settled os).forCall (fun _ _=>0) ⟨#[],#[.agg #[.slice none 0 0],.slice none 0 0,.slice none 0 0,.agg #[.string ByteArray.empty,.string ByteArray.empty],.agg #[.string ByteArray.empty,.string ByteArray.empty,.string ByteArray.empty],.int .i64 0],[]⟩).memory :=
 laidMet_of_run' 8 (by kernel_rfl) (by kernel_rfl)
theorem reads (os:Os) {H:Type} (enc:TypeId × Value->H):∃ places,DataW.whole enc Tryz.prog ((settled os).forCall (fun _ _=>0) ⟨#[],#[.agg #[.slice none 0 0],.slice none 0 0,.slice none 0 0,.agg #[.string ByteArray.empty,.string ByteArray.empty],.agg #[.string ByteArray.empty,.string ByteArray.empty,.string ByteArray.empty],.int .i64 0],[]⟩).memory Tryz.f14.params.toList Rows.lookupObjectsSpec.vars false (#[.agg #[.slice none 0 0],.slice none 0 0,.slice none 0 0,.agg #[.string ByteArray.empty,.string ByteArray.empty],.agg #[.string ByteArray.empty,.string ByteArray.empty,.string ByteArray.empty],.int .i64 0]:Array Value).toList 8=some ([.agg [.nil],.nil,.nil,.agg [.lit (.string []),.lit (.string [])],.agg [.agg [.lit (.string []),.lit (.string [])],.lit (.string [])],.lit (.int .i64 0)],[],places) :=
 ⟨[],by kernel_rfl⟩
theorem lifted (os:Os)(started:os.Started)(H:Type)(enc:TypeId × Value->H)(F:Stop.Interp) :
  ReturnsInHanded {} Tryz.checked os 14 .any ((Rows.OpenSpec.upto Rows.lookupObjectsSpec).preRow enc Tryz.prog Tryz.f14 Rows.lookupObjectsUptoRow.domain false Rows.lookupObjectsUptoRow.laid) (((Rows.OpenSpec.upto Rows.lookupObjectsSpec).at F).post enc Tryz.prog Tryz.f14 false true false false):=by
 obtain⟨places,hx⟩:=reads os enc
 refine returnsInHanded_of_row (C:=Tryz.checked) (s:=(Rows.OpenSpec.upto Rows.lookupObjectsSpec)) own started (by kernel_rfl) Tryz.func14
  (witness_row_at (enc:=enc) (C:=Tryz.checked) false (settled os) #[.agg #[.slice none 0 0],.slice none 0 0,.slice none 0 0,.agg #[.string ByteArray.empty,.string ByteArray.empty],.agg #[.string ByteArray.empty,.string ByteArray.empty,.string ByteArray.empty],.int .i64 0] rfl (by kernel_rfl) (by kernel_rfl) (by kernel_rfl)
   (OpenSpec.preRow_of_cond 8 hx (by kernel_rfl) (fun k hk=>by cases hk;kernel_rfl) (by kernel_rfl) (laid_met os))) ?_
 intro W base args ds gs before hval hW _ hcond _ _ _ _;exact contract H enc W base args ds gs before hval hW (hcond _ rfl)
theorem and2 {a b:Bool} (h:a=true)(k:b=true):(a&&b)=true:=by rw[h,k];rfl
theorem fact1:(Rows.lookupObjectsUptoRow.wf (OpenSpec.ofChange ((Rows.OpenSpec.upto Rows.lookupObjectsSpec)).bare))=true:=by kernel_rfl
theorem fact2:(laidOutB Tryz.pinned.checked.prog)=true:=by kernel_rfl
theorem fact3:(mapsRowed Tryz.pinned.checked.prog)=true:=by kernel_rfl
theorem fact4:(Tryz.f14.params.all (Tryz.pinned.checked.prog.readableRec ·))=true:=by kernel_rfl
theorem fact5:(namedTie Tryz.pinned.checked.prog Rows.lookupObjectsUptoRow.named ((Rows.OpenSpec.upto Rows.lookupObjectsSpec)).bare.vars)=true:=by kernel_rfl
theorem fact6:((Rows.lookupObjectsUptoRow.stops == []))=true:=by kernel_rfl
theorem fact7:((Tryz.pinned.checked.prog.stops == []))=true:=by kernel_rfl
theorem fact8:((Rows.lookupObjectsUptoRow.knobs == []))=true:=by kernel_rfl
theorem fact9:((Tryz.pinned.checked.prog.stopKnobs == []))=true:=by kernel_rfl
theorem fact10:((Rows.lookupObjectsUptoRow.inPlace == Tryz.pinned.checked.prog.inPlace 14))=true:=by kernel_rfl
theorem fact11:((Rows.lookupObjectsUptoRow.unfollowed == Tryz.pinned.checked.prog.unfollowed 14))=true:=by kernel_rfl
theorem fact12:((Rows.lookupObjectsUptoRow.recurses == Tryz.pinned.checked.prog.recurses 14))=true:=by kernel_rfl
theorem fact13:((Rows.lookupObjectsUptoRow.named == Tryz.pinned.checked.prog.varsNamed 14))=true:=by kernel_rfl
theorem fact14:((Rows.lookupObjectsUptoRow.maps == (Tryz.f14.params.toList++((Rows.OpenSpec.upto Rows.lookupObjectsSpec)).bare.plain.varTypes Tryz.pinned.checked.prog).any (Tryz.pinned.checked.prog.mapsRec ·)))=true:=by kernel_rfl
theorem fact15:((Rows.lookupObjectsUptoRow.ifaces == (Tryz.f14.params.toList++((Rows.OpenSpec.upto Rows.lookupObjectsSpec)).bare.plain.varTypes Tryz.pinned.checked.prog).any (Tryz.pinned.checked.prog.ifacesRec ·)))=true:=by kernel_rfl
theorem fact16:((Rows.lookupObjectsUptoRow.mapsOut == Tryz.pinned.checked.prog.mapsAmong Tryz.f14.resultTypes.toList))=true:=by kernel_rfl
theorem fact17:((Rows.lookupObjectsUptoRow.loops == (Tryz.f14.params.toList++((Rows.OpenSpec.upto Rows.lookupObjectsSpec)).bare.plain.varTypes Tryz.pinned.checked.prog).any (Tryz.pinned.checked.prog.loopsFrom ·)))=true:=by kernel_rfl
theorem fact18:((Rows.lookupObjectsUptoRow.wideKeys == (Tryz.f14.params.toList++((Rows.OpenSpec.upto Rows.lookupObjectsSpec)).bare.plain.varTypes Tryz.pinned.checked.prog++Tryz.f14.resultTypes.toList).any (Tryz.pinned.checked.prog.wideKeysFrom ·)))=true:=by kernel_rfl
theorem fact19:(((Rows.OpenSpec.upto Rows.lookupObjectsSpec)).bare.vars.all (Tryz.pinned.checked.prog.varReadable ·))=true:=by kernel_rfl
theorem fact20:(Tryz.f14.resultTypes.all (fun t=>Tryz.pinned.checked.prog.readableRec t&&decide (t<Tryz.pinned.checked.prog.types.size)))=true:=by kernel_rfl
theorem fact21:((Rows.lookupObjectsUptoRow.ifacesOut == Tryz.f14.resultTypes.toList.any (Tryz.pinned.checked.prog.ifacesRec ·)))=true:=by kernel_rfl
theorem fact22:((Rows.lookupObjectsUptoRow.loopsOut == Tryz.f14.resultTypes.toList.any (Tryz.pinned.checked.prog.loopsFrom ·)))=true:=by kernel_rfl
theorem fact23:((Rows.lookupObjectsUptoRow.plainKeys == Tryz.pinned.checked.prog.plainKeys))=true:=by kernel_rfl
theorem fact24:(Rows.lookupObjectsUptoRow.shortTexts.isNone)=true:=by kernel_rfl
theorem fact25:(Tryz.pinned.checked.prog.stopsHeard)=true:=by kernel_rfl
theorem fact26:(Tryz.pinned.checked.prog.mayEnter)=true:=by kernel_rfl
theorem fact27:((Rows.lookupObjectsUptoRow.lifted == Tryz.pinned.checked.prog.liftsFinal))=true:=by kernel_rfl
theorem fact28:((Tryz.pinned.checked.prog.make == some Rows.lookupObjectsUptoRow.make))=true:=by kernel_rfl
theorem fact29:((Rows.lookupObjectsUptoRow.kinds == (if Rows.lookupObjectsUptoRow.domain.isEmpty then []else Tryz.f14.params.toList.map fun t=>match Tryz.pinned.checked.prog.underlying t with | some (.int k)=>some k | _=>none)))=true:=by kernel_rfl
theorem fact30:((Rows.lookupObjectsUptoRow.pinned == Rows.lookupObjectsUptoRow.pinnedBy))=true:=by kernel_rfl
theorem fact31:((Rows.lookupObjectsUptoRow.veiled == (Tryz.f14.params.toList++((Rows.OpenSpec.upto Rows.lookupObjectsSpec)).bare.plain.varTypes Tryz.pinned.checked.prog++Tryz.f14.resultTypes.toList).any (Tryz.pinned.checked.prog.veiledRec ·)))=true:=by kernel_rfl
theorem fact32:(Rows.lookupObjectsUptoRow.veiledFits Tryz.pinned.checked.prog Tryz.f14.params.toList (Tryz.f14.params.toList++((Rows.OpenSpec.upto Rows.lookupObjectsSpec)).bare.plain.varTypes Tryz.pinned.checked.prog++Tryz.f14.resultTypes.toList))=true:=by kernel_rfl
theorem facts:joinedFacts Tryz.pinned.checked.prog 14 Tryz.f14 ((Rows.OpenSpec.upto Rows.lookupObjectsSpec)).bare Rows.lookupObjectsUptoRow=true:=by
 unfold joinedFacts;exact and2 (and2 (and2 (and2 (and2 (and2 (and2 (and2 (and2 (and2 (and2 (and2 (and2 (and2 (and2 (and2 (and2 (and2 (and2 (and2 (and2 (and2 (and2 (and2 (and2 (and2 (and2 (and2 (and2 (and2 (and2 fact1 fact2) fact3) fact4) fact5) fact6) fact7) fact8) fact9) fact10) fact11) fact12) fact13) fact14) fact15) fact16) fact17) fact18) fact19) fact20) fact21) fact22) fact23) fact24) fact25) fact26) fact27) fact28) fact29) fact30) fact31) fact32
theorem named:Tryz.pinned.checked.prog.funcNamed Rows.lookupObjectsUptoRow.func=some 14:=by kernel_rfl
theorem instance_:Tryz.f14.isInstance Tryz.pinned.checked.prog Rows.lookupObjectsUptoRow.origin Rows.lookupObjectsUptoRow.targs:=of_decide_eq_true (by kernel_rfl)
theorem wrapper_:Tryz.f14.isWrapper Tryz.pinned.checked.prog Rows.lookupObjectsUptoRow.wrapper Rows.lookupObjectsUptoRow.mainSum:=by
 unfold Func.isWrapper;rw[if_neg (of_decide_eq_false (by kernel_rfl))];exact⟨rfl,rfl⟩
theorem said:Rows.LookupObjectsUptoSaid :=
 OpenClaim.holds_of_cond 14 Tryz.f14 rfl rfl rfl rfl rfl rfl rfl ⟨rfl,rfl,rfl,rfl,rfl⟩ rfl rfl rfl rfl rfl named Tryz.func14 facts instance_ wrapper_
  (fun os started H enc _ F=>by rw[OpenClaim.pre_eq_preRow];exact lifted os started H enc F)
end Go.Proofs.YtlhaghoajpglaaaGreat.lookupObjects
