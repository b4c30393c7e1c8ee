/- ProofMore: for every tape and number the law returns true, and its arguments read as before. -/
import Derived.Test.YtlhaghoajpglaaaGreatRows
import Derived.Deep.DeepHandedRow
import Derived.Test.YtlhaghoajpglaaaGreatYPrMore21
import Derived.Deep.DeepHandedRow
set_option maxRecDepth 100000
namespace Go.Proofs.YtlhaghoajpglaaaGreat.proofMore
open Go Go.RowKit Go.ChangeShapes Go.WideShapes Go.ChangeAt
theorem contract (H:Type)(enc:TypeId × Value->H)(W:World)(base:Nat)(args:Array Value)(ds gs:List (DataW H))(before:List MemPlace)
  (hval:∀ (j:Nat) t v,Tryz.f12.params[j]?=some t->args[j]?=some v->Value.okWide Tryz.prog W .any base t v)
  (hW:DataW.Whole enc Tryz.prog Tryz.f12.params.toList Rows.proofMoreSpec.vars false W args.toList ds gs before) :
  Calls Tryz.prog 12 args W fun e W'=>∃ v,e = .returned v/\Rows.proofMoreSpec.post enc Tryz.prog Tryz.f12 false true false false W args v W':=by
 have hW':=hW;obtain⟨p,q,hA0,hV,rfl,hfz,hnd⟩:=hW;have hA:DataW.TrodAll enc Tryz.prog W 0 (fun _=>true) true Tryz.f12.params.toList args.toList ds p:=hA0;rw[Tryz.params12]at hA hval;obtain⟨v0,vs0,d0,ds0,p0,q0,hargs,rfl,rfl,h0,r0⟩:=trodAll_cons hA;obtain⟨v1,vs1,d1,ds1,p1,q1,rfl,rfl,rfl,h1,r1⟩:=trodAll_cons r0;obtain⟨rfl,rfl,rfl⟩:=trodAll_nil r1;obtain rfl:args=#[v0,v1]:=by cases args;simp_all
 obtain⟨l,hl⟩:=open_bytesV (hval 0 _ v0 rfl rfl) h0;obtain⟨a,rfl,ha⟩:=open_u8V (hval 1 _ v1 rfl rfl) h1;obtain⟨rfl,rfl⟩:=trodVars_none hV;clear hA0;refine(more29_any l v0 a ha W hl).mono fun e W' hr=>?_;obtain⟨rfl,hb⟩:=hr;exact⟨_,rfl,law_post hW' rfl (tb:=4) (by kernel_rfl) Tryz.underlying4 rfl rfl rfl (by kernel_rfl) (by kernel_rfl) hb⟩
theorem own:ownKnob Tryz.prog.godebug=none:=by kernel_rfl
noncomputable def settled (os:Os):World:=World.holding Tryz.prog os ⟨#[],#[],[]⟩
theorem laid_met (os:Os):laidMet Tryz.prog Rows.proofMoreRow.laid ((settled os).forCall (fun _ _=>0) ⟨#[],#[.slice none 0 0,.int .u8 0],[]⟩).memory :=
 laidMet_of_run' 8 (by kernel_rfl) (by kernel_rfl)
theorem reads (os:Os) {H:Type} (enc:TypeId × Value->H):∃ places,DataW.whole enc Tryz.prog ((settled os).forCall (fun _ _=>0) ⟨#[],#[.slice none 0 0,.int .u8 0],[]⟩).memory Tryz.f12.params.toList Rows.proofMoreSpec.vars false (#[.slice none 0 0,.int .u8 0]:Array Value).toList 8=some ([.nil,.lit (.int .u8 0)],[],places) :=
 ⟨[],by kernel_rfl⟩
theorem lifted (os:Os)(started:os.Started)(H:Type)(enc:TypeId × Value->H)(F:Stop.Interp) :
  ReturnsInHanded {} Tryz.checked os 12 .any ((OpenSpec.ofChange Rows.proofMoreSpec).preRow enc Tryz.prog Tryz.f12 Rows.proofMoreRow.domain false Rows.proofMoreRow.laid) (((OpenSpec.ofChange Rows.proofMoreSpec).at F).post enc Tryz.prog Tryz.f12 false true false false):=by
 obtain⟨places,hx⟩:=reads os enc
 refine returnsInHanded_of_row (C:=Tryz.checked) (s:=(OpenSpec.ofChange Rows.proofMoreSpec)) own started (by kernel_rfl) Tryz.func12
  (witness_row_at (enc:=enc) (C:=Tryz.checked) false (settled os) #[.slice none 0 0,.int .u8 0] rfl (by kernel_rfl) (by kernel_rfl) (by kernel_rfl)
   (OpenSpec.preRow_of_cond 8 hx (by kernel_rfl) (fun k hk=>by cases hk) (by kernel_rfl) (laid_met os))) ?_
 intro W base args ds gs before hval hW _ _ _ _ _ _;exact contract H enc W base args ds gs before hval hW
theorem and2 {a b:Bool} (h:a=true)(k:b=true):(a&&b)=true:=by rw[h,k];rfl
theorem fact1:(Rows.proofMoreRow.wf (OpenSpec.ofChange ((OpenSpec.ofChange Rows.proofMoreSpec)).bare))=true:=by kernel_rfl
theorem fact2:(laidOutB Tryz.pinned.checked.prog)=true:=by kernel_rfl
theorem fact3:(mapsRowed Tryz.pinned.checked.prog)=true:=by kernel_rfl
theorem fact4:(Tryz.f12.params.all (Tryz.pinned.checked.prog.readableRec ·))=true:=by kernel_rfl
theorem fact5:(namedTie Tryz.pinned.checked.prog Rows.proofMoreRow.named ((OpenSpec.ofChange Rows.proofMoreSpec)).bare.vars)=true:=by kernel_rfl
theorem fact6:((Rows.proofMoreRow.stops == []))=true:=by kernel_rfl
theorem fact7:((Tryz.pinned.checked.prog.stops == []))=true:=by kernel_rfl
theorem fact8:((Rows.proofMoreRow.knobs == []))=true:=by kernel_rfl
theorem fact9:((Tryz.pinned.checked.prog.stopKnobs == []))=true:=by kernel_rfl
theorem fact10:((Rows.proofMoreRow.inPlace == Tryz.pinned.checked.prog.inPlace 12))=true:=by kernel_rfl
theorem fact11:((Rows.proofMoreRow.unfollowed == Tryz.pinned.checked.prog.unfollowed 12))=true:=by kernel_rfl
theorem fact12:((Rows.proofMoreRow.recurses == Tryz.pinned.checked.prog.recurses 12))=true:=by kernel_rfl
theorem fact13:((Rows.proofMoreRow.named == Tryz.pinned.checked.prog.varsNamed 12))=true:=by kernel_rfl
theorem fact14:((Rows.proofMoreRow.maps == (Tryz.f12.params.toList++((OpenSpec.ofChange Rows.proofMoreSpec)).bare.plain.varTypes Tryz.pinned.checked.prog).any (Tryz.pinned.checked.prog.mapsRec ·)))=true:=by kernel_rfl
theorem fact15:((Rows.proofMoreRow.ifaces == (Tryz.f12.params.toList++((OpenSpec.ofChange Rows.proofMoreSpec)).bare.plain.varTypes Tryz.pinned.checked.prog).any (Tryz.pinned.checked.prog.ifacesRec ·)))=true:=by kernel_rfl
theorem fact16:((Rows.proofMoreRow.mapsOut == Tryz.pinned.checked.prog.mapsAmong Tryz.f12.resultTypes.toList))=true:=by kernel_rfl
theorem fact17:((Rows.proofMoreRow.loops == (Tryz.f12.params.toList++((OpenSpec.ofChange Rows.proofMoreSpec)).bare.plain.varTypes Tryz.pinned.checked.prog).any (Tryz.pinned.checked.prog.loopsFrom ·)))=true:=by kernel_rfl
theorem fact18:((Rows.proofMoreRow.wideKeys == (Tryz.f12.params.toList++((OpenSpec.ofChange Rows.proofMoreSpec)).bare.plain.varTypes Tryz.pinned.checked.prog++Tryz.f12.resultTypes.toList).any (Tryz.pinned.checked.prog.wideKeysFrom ·)))=true:=by kernel_rfl
theorem fact19:(((OpenSpec.ofChange Rows.proofMoreSpec)).bare.vars.all (Tryz.pinned.checked.prog.varReadable ·))=true:=by kernel_rfl
theorem fact20:(Tryz.f12.resultTypes.all (fun t=>Tryz.pinned.checked.prog.readableRec t&&decide (t<Tryz.pinned.checked.prog.types.size)))=true:=by kernel_rfl
theorem fact21:((Rows.proofMoreRow.ifacesOut == Tryz.f12.resultTypes.toList.any (Tryz.pinned.checked.prog.ifacesRec ·)))=true:=by kernel_rfl
theorem fact22:((Rows.proofMoreRow.loopsOut == Tryz.f12.resultTypes.toList.any (Tryz.pinned.checked.prog.loopsFrom ·)))=true:=by kernel_rfl
theorem fact23:((Rows.proofMoreRow.plainKeys == Tryz.pinned.checked.prog.plainKeys))=true:=by kernel_rfl
theorem fact24:(Rows.proofMoreRow.shortTexts.isNone)=true:=by kernel_rfl
theorem fact25:(Tryz.pinned.checked.prog.stopsHeard)=true:=by kernel_rfl
theorem fact26:(Tryz.pinned.checked.prog.mayEnter)=true:=by kernel_rfl
theorem fact27:((Rows.proofMoreRow.lifted == Tryz.pinned.checked.prog.liftsFinal))=true:=by kernel_rfl
theorem fact28:((Tryz.pinned.checked.prog.make == some Rows.proofMoreRow.make))=true:=by kernel_rfl
theorem fact29:((Rows.proofMoreRow.kinds == (if Rows.proofMoreRow.domain.isEmpty then []else Tryz.f12.params.toList.map fun t=>match Tryz.pinned.checked.prog.underlying t with | some (.int k)=>some k | _=>none)))=true:=by kernel_rfl
theorem fact30:((Rows.proofMoreRow.pinned == Rows.proofMoreRow.pinnedBy))=true:=by kernel_rfl
theorem fact31:((Rows.proofMoreRow.veiled == (Tryz.f12.params.toList++((OpenSpec.ofChange Rows.proofMoreSpec)).bare.plain.varTypes Tryz.pinned.checked.prog++Tryz.f12.resultTypes.toList).any (Tryz.pinned.checked.prog.veiledRec ·)))=true:=by kernel_rfl
theorem fact32:(Rows.proofMoreRow.veiledFits Tryz.pinned.checked.prog Tryz.f12.params.toList (Tryz.f12.params.toList++((OpenSpec.ofChange Rows.proofMoreSpec)).bare.plain.varTypes Tryz.pinned.checked.prog++Tryz.f12.resultTypes.toList))=true:=by kernel_rfl
theorem facts:joinedFacts Tryz.pinned.checked.prog 12 Tryz.f12 ((OpenSpec.ofChange Rows.proofMoreSpec)).bare Rows.proofMoreRow=true:=by
 unfold joinedFacts;exact and2 (and2 (and2 (and2 (and2 (and2 (and2 (and2 (and2 (and2 (and2 (and2 (and2 (and2 (and2 (and2 (and2 (and2 (and2 (and2 (and2 (and2 (and2 (and2 (and2 (and2 (and2 (and2 (and2 (and2 (and2 fact1 fact2) fact3) fact4) fact5) fact6) fact7) fact8) fact9) fact10) fact11) fact12) fact13) fact14) fact15) fact16) fact17) fact18) fact19) fact20) fact21) fact22) fact23) fact24) fact25) fact26) fact27) fact28) fact29) fact30) fact31) fact32
theorem named:Tryz.pinned.checked.prog.funcNamed Rows.proofMoreRow.func=some 12:=by kernel_rfl
theorem instance_:Tryz.f12.isInstance Tryz.pinned.checked.prog Rows.proofMoreRow.origin Rows.proofMoreRow.targs:=of_decide_eq_true (by kernel_rfl)
theorem wrapper_:Tryz.f12.isWrapper Tryz.pinned.checked.prog Rows.proofMoreRow.wrapper Rows.proofMoreRow.mainSum:=by
 unfold Func.isWrapper;rw[if_neg (of_decide_eq_false (by kernel_rfl))];exact⟨rfl,rfl⟩
theorem said:Rows.ProofMoreSaid :=
 OpenClaim.holds_of_cond 12 Tryz.f12 rfl rfl rfl rfl rfl rfl rfl ⟨rfl,rfl,rfl,rfl,rfl⟩ rfl rfl rfl rfl rfl named Tryz.func12 facts instance_ wrapper_
  (fun os started H enc _ F=>by rw[OpenClaim.pre_eq_preRow];exact lifted os started H enc F)
end Go.Proofs.YtlhaghoajpglaaaGreat.proofMore
