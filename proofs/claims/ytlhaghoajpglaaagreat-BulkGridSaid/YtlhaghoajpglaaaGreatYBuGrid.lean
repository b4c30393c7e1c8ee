/- BulkGrid: for every tape and draws the law returns true, and its arguments read as before. -/
import Derived.Test.YtlhaghoajpglaaaGreatRows
import Derived.Deep.DeepHandedRow
import Derived.Test.YtlhaghoajpglaaaGreatYBuGrid18
import Derived.Test.YtlhaghoajpglaaaGreatYBuGrid6
set_option maxRecDepth 100000
namespace Go.Proofs.YtlhaghoajpglaaaGreat.bulkGrid
open Go Go.RowKit Go.ChangeShapes Go.WideShapes Go.ChangeAt
theorem contract (H:Type)(enc:TypeId × Value->H)(W:World)(base:Nat)(args:Array Value)(ds gs:List (DataW H))(before:List MemPlace)
  (hval:∀ (j:Nat) t v,Tryz.f8.params[j]?=some t->args[j]?=some v->Value.okWide Tryz.prog W .any base t v)
  (hW:DataW.Whole enc Tryz.prog Tryz.f8.params.toList Rows.bulkGridSpec.vars false W args.toList ds gs before) :
  Calls Tryz.prog 8 args W fun e W'=>∃ v,e = .returned v/\Rows.bulkGridSpec.post enc Tryz.prog Tryz.f8 false true false false W args v W':=by
 have hW':=hW;obtain⟨p,q,hA0,hV,rfl,hfz,hnd⟩:=hW;have hA:DataW.TrodAll enc Tryz.prog W 0 (fun _=>true) true Tryz.f8.params.toList args.toList ds p:=hA0;rw[Tryz.params8]at hA hval;obtain⟨v0,vs0,d0,ds0,p0,q0,hargs,rfl,rfl,h0,r0⟩:=trodAll_cons hA;obtain⟨v1,vs1,d1,ds1,p1,q1,rfl,rfl,rfl,h1,r1⟩:=trodAll_cons r0;obtain⟨rfl,rfl,rfl⟩:=trodAll_nil r1;obtain rfl:args=#[v0,v1]:=by cases args;simp_all
 obtain⟨l,hl⟩:=open_bytesV (hval 0 _ v0 rfl rfl) h0;obtain⟨ld,hd⟩:=open_bytesV (hval 1 _ v1 rfl rfl) h1;obtain⟨rfl,rfl⟩:=trodVars_none hV;clear hA0;refine(gridLaw_any l ld v0 v1 W hl hd).mono fun e W' hr=>?_;obtain⟨rfl,hb⟩:=hr;exact⟨_,rfl,law_post hW' rfl (tb:=4) (by kernel_rfl) Tryz.underlying4 rfl rfl rfl (by kernel_rfl) (by kernel_rfl) hb⟩
theorem own:ownKnob Tryz.prog.godebug=none:=by kernel_rfl
noncomputable def settled (os:Os):World:=World.holding Tryz.prog os ⟨#[],#[],[]⟩
theorem laid_met (os:Os):laidMet Tryz.prog Rows.bulkGridRow.laid ((settled os).forCall (fun _ _=>0) ⟨#[],#[.slice none 0 0,.slice none 0 0],[]⟩).memory :=
 laidMet_of_run' 8 (by kernel_rfl) (by kernel_rfl)
theorem reads (os:Os) {H:Type} (enc:TypeId × Value->H):∃ places,DataW.whole enc Tryz.prog ((settled os).forCall (fun _ _=>0) ⟨#[],#[.slice none 0 0,.slice none 0 0],[]⟩).memory Tryz.f8.params.toList Rows.bulkGridSpec.vars false (#[.slice none 0 0,.slice none 0 0]:Array Value).toList 8=some ([.nil,.nil],[],places) :=
 ⟨[],by kernel_rfl⟩
theorem lifted (os:Os)(started:os.Started)(H:Type)(enc:TypeId × Value->H)(F:Stop.Interp) :
  ReturnsInHanded {} Tryz.checked os 8 .any ((OpenSpec.ofChange Rows.bulkGridSpec).preRow enc Tryz.prog Tryz.f8 Rows.bulkGridRow.domain false Rows.bulkGridRow.laid) (((OpenSpec.ofChange Rows.bulkGridSpec).at F).post enc Tryz.prog Tryz.f8 false true false false):=by
 obtain⟨places,hx⟩:=reads os enc
 refine returnsInHanded_of_row (C:=Tryz.checked) (s:=(OpenSpec.ofChange Rows.bulkGridSpec)) own started (by kernel_rfl) Tryz.func8
  (witness_row_at (enc:=enc) (C:=Tryz.checked) false (settled os) #[.slice none 0 0,.slice none 0 0] rfl (by kernel_rfl) (by kernel_rfl) (by kernel_rfl)
   (OpenSpec.preRow_of_cond 8 hx (by kernel_rfl) (fun k hk=>by cases hk) (by kernel_rfl) (laid_met os))) ?_
 intro W base args ds gs before hval hW _ _ _ _ _ _;exact contract H enc W base args ds gs before hval hW
theorem and2 {a b:Bool} (h:a=true)(k:b=true):(a&&b)=true:=by rw[h,k];rfl
theorem fact1:(Rows.bulkGridRow.wf (OpenSpec.ofChange ((OpenSpec.ofChange Rows.bulkGridSpec)).bare))=true:=by kernel_rfl
theorem fact2:(laidOutB Tryz.pinned.checked.prog)=true:=by kernel_rfl
theorem fact3:(mapsRowed Tryz.pinned.checked.prog)=true:=by kernel_rfl
theorem fact4:(Tryz.f8.params.all (Tryz.pinned.checked.prog.readableRec ·))=true:=by kernel_rfl
theorem fact5:(namedTie Tryz.pinned.checked.prog Rows.bulkGridRow.named ((OpenSpec.ofChange Rows.bulkGridSpec)).bare.vars)=true:=by kernel_rfl
theorem fact6:((Rows.bulkGridRow.stops == []))=true:=by kernel_rfl
theorem fact7:((Tryz.pinned.checked.prog.stops == []))=true:=by kernel_rfl
theorem fact8:((Rows.bulkGridRow.knobs == []))=true:=by kernel_rfl
theorem fact9:((Tryz.pinned.checked.prog.stopKnobs == []))=true:=by kernel_rfl
theorem fact10:((Rows.bulkGridRow.inPlace == Tryz.pinned.checked.prog.inPlace 8))=true:=by kernel_rfl
theorem fact11:((Rows.bulkGridRow.unfollowed == Tryz.pinned.checked.prog.unfollowed 8))=true:=by kernel_rfl
theorem fact12:((Rows.bulkGridRow.recurses == Tryz.pinned.checked.prog.recurses 8))=true:=by kernel_rfl
theorem fact13:((Rows.bulkGridRow.named == Tryz.pinned.checked.prog.varsNamed 8))=true:=by kernel_rfl
theorem fact14:((Rows.bulkGridRow.maps == (Tryz.f8.params.toList++((OpenSpec.ofChange Rows.bulkGridSpec)).bare.plain.varTypes Tryz.pinned.checked.prog).any (Tryz.pinned.checked.prog.mapsRec ·)))=true:=by kernel_rfl
theorem fact15:((Rows.bulkGridRow.ifaces == (Tryz.f8.params.toList++((OpenSpec.ofChange Rows.bulkGridSpec)).bare.plain.varTypes Tryz.pinned.checked.prog).any (Tryz.pinned.checked.prog.ifacesRec ·)))=true:=by kernel_rfl
theorem fact16:((Rows.bulkGridRow.mapsOut == Tryz.pinned.checked.prog.mapsAmong Tryz.f8.resultTypes.toList))=true:=by kernel_rfl
theorem fact17:((Rows.bulkGridRow.loops == (Tryz.f8.params.toList++((OpenSpec.ofChange Rows.bulkGridSpec)).bare.plain.varTypes Tryz.pinned.checked.prog).any (Tryz.pinned.checked.prog.loopsFrom ·)))=true:=by kernel_rfl
theorem fact18:((Rows.bulkGridRow.wideKeys == (Tryz.f8.params.toList++((OpenSpec.ofChange Rows.bulkGridSpec)).bare.plain.varTypes Tryz.pinned.checked.prog++Tryz.f8.resultTypes.toList).any (Tryz.pinned.checked.prog.wideKeysFrom ·)))=true:=by kernel_rfl
theorem fact19:(((OpenSpec.ofChange Rows.bulkGridSpec)).bare.vars.all (Tryz.pinned.checked.prog.varReadable ·))=true:=by kernel_rfl
theorem fact20:(Tryz.f8.resultTypes.all (fun t=>Tryz.pinned.checked.prog.readableRec t&&decide (t<Tryz.pinned.checked.prog.types.size)))=true:=by kernel_rfl
theorem fact21:((Rows.bulkGridRow.ifacesOut == Tryz.f8.resultTypes.toList.any (Tryz.pinned.checked.prog.ifacesRec ·)))=true:=by kernel_rfl
theorem fact22:((Rows.bulkGridRow.loopsOut == Tryz.f8.resultTypes.toList.any (Tryz.pinned.checked.prog.loopsFrom ·)))=true:=by kernel_rfl
theorem fact23:((Rows.bulkGridRow.plainKeys == Tryz.pinned.checked.prog.plainKeys))=true:=by kernel_rfl
theorem fact24:(Rows.bulkGridRow.shortTexts.isNone)=true:=by kernel_rfl
theorem fact25:(Tryz.pinned.checked.prog.stopsHeard)=true:=by kernel_rfl
theorem fact26:(Tryz.pinned.checked.prog.mayEnter)=true:=by kernel_rfl
theorem fact27:((Rows.bulkGridRow.lifted == Tryz.pinned.checked.prog.liftsFinal))=true:=by kernel_rfl
theorem fact28:((Tryz.pinned.checked.prog.make == some Rows.bulkGridRow.make))=true:=by kernel_rfl
theorem fact29:((Rows.bulkGridRow.kinds == (if Rows.bulkGridRow.domain.isEmpty then []else Tryz.f8.params.toList.map fun t=>match Tryz.pinned.checked.prog.underlying t with | some (.int k)=>some k | _=>none)))=true:=by kernel_rfl
theorem fact30:((Rows.bulkGridRow.pinned == Rows.bulkGridRow.pinnedBy))=true:=by kernel_rfl
theorem fact31:((Rows.bulkGridRow.veiled == (Tryz.f8.params.toList++((OpenSpec.ofChange Rows.bulkGridSpec)).bare.plain.varTypes Tryz.pinned.checked.prog++Tryz.f8.resultTypes.toList).any (Tryz.pinned.checked.prog.veiledRec ·)))=true:=by kernel_rfl
theorem fact32:(Rows.bulkGridRow.veiledFits Tryz.pinned.checked.prog Tryz.f8.params.toList (Tryz.f8.params.toList++((OpenSpec.ofChange Rows.bulkGridSpec)).bare.plain.varTypes Tryz.pinned.checked.prog++Tryz.f8.resultTypes.toList))=true:=by kernel_rfl
theorem facts:joinedFacts Tryz.pinned.checked.prog 8 Tryz.f8 ((OpenSpec.ofChange Rows.bulkGridSpec)).bare Rows.bulkGridRow=true:=by
 unfold joinedFacts;exact and2 (and2 (and2 (and2 (and2 (and2 (and2 (and2 (and2 (and2 (and2 (and2 (and2 (and2 (and2 (and2 (and2 (and2 (and2 (and2 (and2 (and2 (and2 (and2 (and2 (and2 (and2 (and2 (and2 (and2 (and2 fact1 fact2) fact3) fact4) fact5) fact6) fact7) fact8) fact9) fact10) fact11) fact12) fact13) fact14) fact15) fact16) fact17) fact18) fact19) fact20) fact21) fact22) fact23) fact24) fact25) fact26) fact27) fact28) fact29) fact30) fact31) fact32
theorem named:Tryz.pinned.checked.prog.funcNamed Rows.bulkGridRow.func=some 8:=by kernel_rfl
theorem instance_:Tryz.f8.isInstance Tryz.pinned.checked.prog Rows.bulkGridRow.origin Rows.bulkGridRow.targs:=of_decide_eq_true (by kernel_rfl)
theorem wrapper_:Tryz.f8.isWrapper Tryz.pinned.checked.prog Rows.bulkGridRow.wrapper Rows.bulkGridRow.mainSum:=by
 unfold Func.isWrapper;rw[if_neg (of_decide_eq_false (by kernel_rfl))];exact⟨rfl,rfl⟩
theorem said:Rows.BulkGridSaid :=
 OpenClaim.holds_of_cond 8 Tryz.f8 rfl rfl rfl rfl rfl rfl rfl ⟨rfl,rfl,rfl,rfl,rfl⟩ rfl rfl rfl rfl rfl named Tryz.func8 facts instance_ wrapper_
  (fun os started H enc _ F=>by rw[OpenClaim.pre_eq_preRow];exact lifted os started H enc F)
end Go.Proofs.YtlhaghoajpglaaaGreat.bulkGrid
