/- LookupSets: for every graph and type of a bulk of at most 1048576 the law returns true, and its arguments read as before. -/
import Derived.Test.YtlhaghoajpglaaaGreatRows
import Derived.Deep.DeepHandedRow
import Derived.Test.YtlhaghoajpglaaaGreatYLkSets18
import Derived.Test.YtlhaghoajpglaaaGreatYLkSets10
set_option maxRecDepth 100000
namespace Go.Proofs.YtlhaghoajpglaaaGreat.lookupSets
open Go Go.RowKit Go.ChangeShapes Go.WideShapes Go.ChangeAt
theorem contract (H:Type)(enc:TypeId × Value->H)(W:World)(base:Nat)(args:Array Value)(ds gs:List (DataW H))(before:List MemPlace)
  (hval:∀ (j:Nat) t v,Tryz.f16.params[j]?=some t->args[j]?=some v->Value.okWide Tryz.prog W .any base t v)
  (hW:DataW.Whole enc Tryz.prog Tryz.f16.params.toList Rows.lookupSetsSpec.vars false W args.toList ds gs before) (hk:Rows.uptoSmall H (ds++gs)=true) :
  Calls Tryz.prog 16 args W fun e W'=>∃ v,e = .returned v/\Rows.lookupSetsSpec.post enc Tryz.prog Tryz.f16 false true false false W args v W':=by
 have hW':=hW;obtain⟨p,q,hA0,hV,rfl,hfz,hnd⟩:=hW;have hA:DataW.TrodAll enc Tryz.prog W 0 (fun _=>true) true Tryz.f16.params.toList args.toList ds p:=hA0;rw[Tryz.params16]at hA hval;obtain⟨v0,vs0,d0,ds0,p0,q0,hargs,rfl,rfl,h0,r0⟩:=trodAll_cons hA;obtain⟨v1,vs1,d1,ds1,p1,q1,rfl,rfl,rfl,h1,r1⟩:=trodAll_cons r0;obtain⟨rfl,rfl,rfl⟩:=trodAll_nil r1;obtain rfl:args=#[v0,v1]:=by cases args;simp_all
 obtain⟨qs,fs,pv,fv,rfl,hg,hbk0,hok0⟩:=open_graphOkV (hval 0 _ v0 rfl rfl) h0;obtain⟨typ,rfl,htyp⟩:=open_strV (hval 1 _ v1 rfl rfl) h1;obtain⟨rfl,rfl⟩:=trodVars_none hV;clear hA0;have hb1:Rows.uptoBulkAll [d0,d1]<=1048576:=of_decide_eq_true hk;simp only[Rows.uptoBulkAll]at hb1;refine(setsLaw_any qs fs pv fv typ W hg (by omega) hok0).mono fun e W' hr=>?_;obtain⟨rfl,hb⟩:=hr;exact⟨_,rfl,law_post hW' rfl (tb:=4) (by kernel_rfl) Tryz.underlying4 rfl rfl rfl (by kernel_rfl) (by kernel_rfl) hb⟩
theorem own:ownKnob Tryz.prog.godebug=none:=by kernel_rfl
noncomputable def settled (os:Os):World:=World.holding Tryz.prog os ⟨#[],#[],[]⟩
theorem laid_met (os:Os):laidMet Tryz.prog Rows.lookupSetsUptoRow.laid ((settled os).forCall (fun _ _=>0) ⟨#[],#[.agg #[.slice none 0 0,.slice none 0 0],.string ByteArray.empty],[]⟩).memory :=
 laidMet_of_run' 8 (by kernel_rfl) (by kernel_rfl)
theorem reads (os:Os) {H:Type} (enc:TypeId × Value->H):∃ places,DataW.whole enc Tryz.prog ((settled os).forCall (fun _ _=>0) ⟨#[],#[.agg #[.slice none 0 0,.slice none 0 0],.string ByteArray.empty],[]⟩).memory Tryz.f16.params.toList Rows.lookupSetsSpec.vars false (#[.agg #[.slice none 0 0,.slice none 0 0],.string ByteArray.empty]:Array Value).toList 8=some ([.agg [.nil,.nil],.lit (.string [])],[],places) :=
 ⟨[],by kernel_rfl⟩
theorem lifted (os:Os)(started:os.Started)(H:Type)(enc:TypeId × Value->H)(F:Stop.Interp) :
  ReturnsInHanded {} Tryz.checked os 16 .any ((Rows.OpenSpec.upto Rows.lookupSetsSpec).preRow enc Tryz.prog Tryz.f16 Rows.lookupSetsUptoRow.domain false Rows.lookupSetsUptoRow.laid) (((Rows.OpenSpec.upto Rows.lookupSetsSpec).at F).post enc Tryz.prog Tryz.f16 false true false false):=by
 obtain⟨places,hx⟩:=reads os enc
 refine returnsInHanded_of_row (C:=Tryz.checked) (s:=(Rows.OpenSpec.upto Rows.lookupSetsSpec)) own started (by kernel_rfl) Tryz.func16
  (witness_row_at (enc:=enc) (C:=Tryz.checked) false (settled os) #[.agg #[.slice none 0 0,.slice none 0 0],.string ByteArray.empty] rfl (by kernel_rfl) (by kernel_rfl) (by kernel_rfl)
   (OpenSpec.preRow_of_cond 8 hx (by kernel_rfl) (fun k hk=>by cases hk;kernel_rfl) (by kernel_rfl) (laid_met os))) ?_
 intro W base args ds gs before hval hW _ hcond _ _ _ _;exact contract H enc W base args ds gs before hval hW (hcond _ rfl)
theorem and2 {a b:Bool} (h:a=true)(k:b=true):(a&&b)=true:=by rw[h,k];rfl
theorem fact1:(Rows.lookupSetsUptoRow.wf (OpenSpec.ofChange ((Rows.OpenSpec.upto Rows.lookupSetsSpec)).bare))=true:=by kernel_rfl
theorem fact2:(laidOutB Tryz.pinned.checked.prog)=true:=by kernel_rfl
theorem fact3:(mapsRowed Tryz.pinned.checked.prog)=true:=by kernel_rfl
theorem fact4:(Tryz.f16.params.all (Tryz.pinned.checked.prog.readableRec ·))=true:=by kernel_rfl
theorem fact5:(namedTie Tryz.pinned.checked.prog Rows.lookupSetsUptoRow.named ((Rows.OpenSpec.upto Rows.lookupSetsSpec)).bare.vars)=true:=by kernel_rfl
theorem fact6:((Rows.lookupSetsUptoRow.stops == []))=true:=by kernel_rfl
theorem fact7:((Tryz.pinned.checked.prog.stops == []))=true:=by kernel_rfl
theorem fact8:((Rows.lookupSetsUptoRow.knobs == []))=true:=by kernel_rfl
theorem fact9:((Tryz.pinned.checked.prog.stopKnobs == []))=true:=by kernel_rfl
theorem fact10:((Rows.lookupSetsUptoRow.inPlace == Tryz.pinned.checked.prog.inPlace 16))=true:=by kernel_rfl
theorem fact11:((Rows.lookupSetsUptoRow.unfollowed == Tryz.pinned.checked.prog.unfollowed 16))=true:=by kernel_rfl
theorem fact12:((Rows.lookupSetsUptoRow.recurses == Tryz.pinned.checked.prog.recurses 16))=true:=by kernel_rfl
theorem fact13:((Rows.lookupSetsUptoRow.named == Tryz.pinned.checked.prog.varsNamed 16))=true:=by kernel_rfl
theorem fact14:((Rows.lookupSetsUptoRow.maps == (Tryz.f16.params.toList++((Rows.OpenSpec.upto Rows.lookupSetsSpec)).bare.plain.varTypes Tryz.pinned.checked.prog).any (Tryz.pinned.checked.prog.mapsRec ·)))=true:=by kernel_rfl
theorem fact15:((Rows.lookupSetsUptoRow.ifaces == (Tryz.f16.params.toList++((Rows.OpenSpec.upto Rows.lookupSetsSpec)).bare.plain.varTypes Tryz.pinned.checked.prog).any (Tryz.pinned.checked.prog.ifacesRec ·)))=true:=by kernel_rfl
theorem fact16:((Rows.lookupSetsUptoRow.mapsOut == Tryz.pinned.checked.prog.mapsAmong Tryz.f16.resultTypes.toList))=true:=by kernel_rfl
theorem fact17:((Rows.lookupSetsUptoRow.loops == (Tryz.f16.params.toList++((Rows.OpenSpec.upto Rows.lookupSetsSpec)).bare.plain.varTypes Tryz.pinned.checked.prog).any (Tryz.pinned.checked.prog.loopsFrom ·)))=true:=by kernel_rfl
theorem fact18:((Rows.lookupSetsUptoRow.wideKeys == (Tryz.f16.params.toList++((Rows.OpenSpec.upto Rows.lookupSetsSpec)).bare.plain.varTypes Tryz.pinned.checked.prog++Tryz.f16.resultTypes.toList).any (Tryz.pinned.checked.prog.wideKeysFrom ·)))=true:=by kernel_rfl
theorem fact19:(((Rows.OpenSpec.upto Rows.lookupSetsSpec)).bare.vars.all (Tryz.pinned.checked.prog.varReadable ·))=true:=by kernel_rfl
theorem fact20:(Tryz.f16.resultTypes.all (fun t=>Tryz.pinned.checked.prog.readableRec t&&decide (t<Tryz.pinned.checked.prog.types.size)))=true:=by kernel_rfl
theorem fact21:((Rows.lookupSetsUptoRow.ifacesOut == Tryz.f16.resultTypes.toList.any (Tryz.pinned.checked.prog.ifacesRec ·)))=true:=by kernel_rfl
theorem fact22:((Rows.lookupSetsUptoRow.loopsOut == Tryz.f16.resultTypes.toList.any (Tryz.pinned.checked.prog.loopsFrom ·)))=true:=by kernel_rfl
theorem fact23:((Rows.lookupSetsUptoRow.plainKeys == Tryz.pinned.checked.prog.plainKeys))=true:=by kernel_rfl
theorem fact24:(Rows.lookupSetsUptoRow.shortTexts.isNone)=true:=by kernel_rfl
theorem fact25:(Tryz.pinned.checked.prog.stopsHeard)=true:=by kernel_rfl
theorem fact26:(Tryz.pinned.checked.prog.mayEnter)=true:=by kernel_rfl
theorem fact27:((Rows.lookupSetsUptoRow.lifted == Tryz.pinned.checked.prog.liftsFinal))=true:=by kernel_rfl
theorem fact28:((Tryz.pinned.checked.prog.make == some Rows.lookupSetsUptoRow.make))=true:=by kernel_rfl
theorem fact29:((Rows.lookupSetsUptoRow.kinds == (if Rows.lookupSetsUptoRow.domain.isEmpty then []else Tryz.f16.params.toList.map fun t=>match Tryz.pinned.checked.prog.underlying t with | some (.int k)=>some k | _=>none)))=true:=by kernel_rfl
theorem fact30:((Rows.lookupSetsUptoRow.pinned == Rows.lookupSetsUptoRow.pinnedBy))=true:=by kernel_rfl
theorem fact31:((Rows.lookupSetsUptoRow.veiled == (Tryz.f16.params.toList++((Rows.OpenSpec.upto Rows.lookupSetsSpec)).bare.plain.varTypes Tryz.pinned.checked.prog++Tryz.f16.resultTypes.toList).any (Tryz.pinned.checked.prog.veiledRec ·)))=true:=by kernel_rfl
theorem fact32:(Rows.lookupSetsUptoRow.veiledFits Tryz.pinned.checked.prog Tryz.f16.params.toList (Tryz.f16.params.toList++((Rows.OpenSpec.upto Rows.lookupSetsSpec)).bare.plain.varTypes Tryz.pinned.checked.prog++Tryz.f16.resultTypes.toList))=true:=by kernel_rfl
theorem facts:joinedFacts Tryz.pinned.checked.prog 16 Tryz.f16 ((Rows.OpenSpec.upto Rows.lookupSetsSpec)).bare Rows.lookupSetsUptoRow=true:=by
 unfold joinedFacts;exact and2 (and2 (and2 (and2 (and2 (and2 (and2 (and2 (and2 (and2 (and2 (and2 (and2 (and2 (and2 (and2 (and2 (and2 (and2 (and2 (and2 (and2 (and2 (and2 (and2 (and2 (and2 (and2 (and2 (and2 (and2 fact1 fact2) fact3) fact4) fact5) fact6) fact7) fact8) fact9) fact10) fact11) fact12) fact13) fact14) fact15) fact16) fact17) fact18) fact19) fact20) fact21) fact22) fact23) fact24) fact25) fact26) fact27) fact28) fact29) fact30) fact31) fact32
theorem named:Tryz.pinned.checked.prog.funcNamed Rows.lookupSetsUptoRow.func=some 16:=by kernel_rfl
theorem instance_:Tryz.f16.isInstance Tryz.pinned.checked.prog Rows.lookupSetsUptoRow.origin Rows.lookupSetsUptoRow.targs:=of_decide_eq_true (by kernel_rfl)
theorem wrapper_:Tryz.f16.isWrapper Tryz.pinned.checked.prog Rows.lookupSetsUptoRow.wrapper Rows.lookupSetsUptoRow.mainSum:=by
 unfold Func.isWrapper;rw[if_neg (of_decide_eq_false (by kernel_rfl))];exact⟨rfl,rfl⟩
theorem said:Rows.LookupSetsUptoSaid :=
 OpenClaim.holds_of_cond 16 Tryz.f16 rfl rfl rfl rfl rfl rfl rfl ⟨rfl,rfl,rfl,rfl,rfl⟩ rfl rfl rfl rfl rfl named Tryz.func16 facts instance_ wrapper_
  (fun os started H enc _ F=>by rw[OpenClaim.pre_eq_preRow];exact lifted os started H enc F)
end Go.Proofs.YtlhaghoajpglaaaGreat.lookupSets
