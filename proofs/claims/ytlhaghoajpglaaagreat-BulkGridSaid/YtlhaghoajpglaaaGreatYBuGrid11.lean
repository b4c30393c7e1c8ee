/- Lemmas for the claim, no condition. -/
import Derived.Test.YtlhaghoajpglaaaGreatYBuGrid0
import Derived.Test.YtlhaghoajpglaaaGreatYBuGrid5
import Derived.Test.YtlhaghoajpglaaaGreatYBuGrid3
import Derived.Test.YtlhaghoajpglaaaGreatYBuGrid10
import Derived.Test.YtlhaghoajpglaaaGreatYBuGrid6
set_option maxRecDepth 100000
set_option maxHeartbeats 8000000
namespace Go.Proofs.YtlhaghoajpglaaaGreat
open Go Go.RowKit Go.Maps
theorem findS_any {S:Nat->Prop} (ts:List TyS)(tv:Value)(ty rel:ByteArray)(w:World)(hS:∀ x,S x->x<w.heap.size)(h:TysAt S w ts tv)(hok:∀ t∈ts,t.Ok)(hu:uniqOk ts=true)(hsz:(refsOf ts).length<=1099511627776)(hty:ty.size<=maxLen)(hrel:rel.size<=maxLen) :
  Calls Tryz.prog 133 #[.agg #[tv],.string ty,.string rel] w fun e w'=>∃ z:RV,e = .returned (.tuple #[rvV z,.bool (lookA (refsOf ts) ⟨ty,rel⟩).isSome])/\RTAt S w' z.1 z.2/\(∀ r,lookA (refsOf ts) ⟨ty,rel⟩=some r->z.1=r)/\(lookA (refsOf ts) ⟨ty,rel⟩=none->z=(.mk 0 ByteArray.empty ByteArray.empty [],.slice none 0 0))/\Below w.heap.size w w':=by
 have hx1:Ext w ((w.alloc (.cells #[tv] 26)).alloc (.cells #[.int .i64 0,.string ByteArray.empty,.string ByteArray.empty,.slice none 0 0] 106)):=(Ext.alloc _ _).trans (Ext.alloc _ _);have HX:=h! hx1;have HO:=h! (open_any (S:=S) ts tv _ (fun x hx=>Nat.lt_of_lt_of_le (hS x hx) hx1.size) (h.same ((Same.below hx1).mono hS)) hok hu hsz);have HSS:=h! hS;have hS0:=((Blk.made w #[tv] 26).alloc (.cells #[.int .i64 0,.string ByteArray.empty,.string ByteArray.empty,.slice none 0 0] 106)).cells;have HR:=h! (Blk.made' (w:=w.alloc (.cells #[tv] 26)) (B:=w.heap.size+1) (by simp) #[.int .i64 0,.string ByteArray.empty,.string ByteArray.empty,.slice none 0 0] 106);have hR:=HR.out.cells;clear h hok hu hsz hx1 hS;go_enter Tryz.func133,Tryz.ntmps133
 go_wp2_with fail
 refine HO.out.mono ?_;rintro e w2 ⟨b1,b2,b3,rfl,hbk,hb2⟩;obtain⟨z,hlk,hzat,hz1,hz2⟩:=hbk.R.look ⟨ty,rel⟩ ⟨hty,hrel⟩;obtain⟨zo,zc,hzv,-⟩:=hzat.rows;have HZ:=h! (And.intro hz1 hz2);have HZA:=h! hzat;have HZV:=h! hzv;have HB2:=h! (Ext.trans HX.out hb2);have HR2:=h! (HR.out.below hb2);have HRZ:=h! (show w.heap.size+1<w2.heap.size from HR2.out.lt);generalize hokk:(lookA (refsOf ts) ⟨ty,rel⟩).isSome=ok at *;have HOKK:=h! hokk;clear hokk;unfold rvV rV r2V at hlk;dsimp only at hlk;rw[hzv]at hlk;have h3:Ext w2 (w2.alloc (.cells #[.int .i64 z.1.k,.string z.1.a,.string z.1.b,.slice zo z.1.ps.length zc] 106)):=Ext.alloc _ _;have HR3:=h! (HR2.out.below h3);have HX3:=h! h3;have r3:=HR3.out.cells;have f3:=HR3.out.free;have hfd:∀ W:World,(Instr.field 229 (.agg #[.map (some b1),.map (some b2),.map (some b3)]) 0).run Tryz.prog W = .ok (.map (some b1)) W:=fun _=>by kernel_rfl
 obtain⟨w3,hw3⟩:∃ x,x=w2.alloc (.cells #[.int .i64 z.1.k,.string z.1.a,.string z.1.b,.slice zo z.1.ps.length zc] 106):=⟨_,rfl⟩;have hne:w.heap.size+1≠w2.heap.size:=by have:=HRZ.out;omega
 have hs1:=HR3.out.set_to 0 (.int .i64 z.1.k) rfl;have hs2:=hs1.set_to 1 (.string z.1.a) rfl;have hs3:=hs2.set_to 2 (.string z.1.b) rfl;have hs4:=hs3.set_to 3 (.slice zo z.1.ps.length zc) rfl;have HS4:=h! hs4
 have hb4:∀ x,x≠w.heap.size+1->(((((w2.alloc (.cells #[.int .i64 z.1.k,.string z.1.a,.string z.1.b,.slice zo z.1.ps.length zc] 106)).setCell ⟨w.heap.size+1,0,none⟩ (.int .i64 z.1.k)).setCell ⟨w.heap.size+1,1,none⟩ (.string z.1.a)).setCell ⟨w.heap.size+1,2,none⟩ (.string z.1.b)).setCell ⟨w.heap.size+1,3,none⟩ (.slice zo z.1.ps.length zc)).heap[x]?=(w2.alloc (.cells #[.int .i64 z.1.k,.string z.1.a,.string z.1.b,.slice zo z.1.ps.length zc] 106)).heap[x]?:=fun x hx=>by
  rw[Below.heap_setCell _ _ _ x hx,Below.heap_setCell _ _ _ x hx,Below.heap_setCell _ _ _ x hx,Below.heap_setCell _ _ _ x hx]
 have HB4:=h! hb4;have HBE:=h! (show Below w.heap.size w (((((w2.alloc (.cells #[.int .i64 z.1.k,.string z.1.a,.string z.1.b,.slice zo z.1.ps.length zc] 106)).setCell ⟨w.heap.size+1,0,none⟩ (.int .i64 z.1.k)).setCell ⟨w.heap.size+1,1,none⟩ (.string z.1.a)).setCell ⟨w.heap.size+1,2,none⟩ (.string z.1.b)).setCell ⟨w.heap.size+1,3,none⟩ (.slice zo z.1.ps.length zc))from((((Ext.trans HB2.out HX3.out:Ext w _).setCell (by show w.heap.size<=w.heap.size+1;omega) _).setCell (by show w.heap.size<=w.heap.size+1;omega) _).setCell (by show w.heap.size<=w.heap.size+1;omega) _).setCell (by show w.heap.size<=w.heap.size+1;omega) _);clear HO hS0 hR hbk hb2 hz1 hz2 hzat hzv h3 hs1 hs2 hs3 hs4 hb4 hw3;go_wp2_with fail
 refine bodyPost_ret (v := .tuple #[.agg #[.int .i64 z.1.k,.string z.1.a,.string z.1.b,.slice zo z.1.ps.length zc],.bool ok]) ?_ rfl ⟨z,?_,?_,HZ.out.1,HZ.out.2,HBE.out⟩
 ·rw[results_cell_tmp rfl];have hl:=run_loadVar_row (P:=Tryz.prog) _ (w.heap.size+1) _ 106 _ _ _ HS4.out Tryz.underlying106 rfl (by kernel_rfl);simp[asAddr,hl,Result.andThen]
 ·unfold rvV rV;rw[HZV.out,HOKK.out]
 ·exact(HZA.out.same fun x hx=>HX3.out.block x (Nat.lt_of_lt_of_le (HSS.out x hx) HB2.out.size)).same fun x hx=>HB4.out x (by have:=HSS.out x hx;omega)
end Go.Proofs.YtlhaghoajpglaaaGreat
namespace Go.Proofs.YtlhaghoajpglaaaGreat
open Go Go.RowKit
section
variable {P : Program} {ops : Array Oper} {Q : Exit -> Act -> World -> Prop} {S : World -> Prop} {late : Nat -> Bool}
def wpAnyS (P:Program)(ops:Array Oper)(Q:Exit->Act->World->Prop)(S:World->Prop)(late:Nat->Bool):Nat->Array Bool->Act->World->Prop
 | 0,l,a,w=>Region.ready .any ops l=[]/\Q .normal a w
 | f+1,l,a,w=>(Region.ready .any ops l=[]->Q .normal a w) /\
   ∀ i∈Region.ready .any ops l,wpOp P ops Q i (fun a' w'=>(late i=false->S w')/\wpAnyS P ops Q S late f (l.setIfInBounds i true) a' w') a w
theorem wpAnyS_any:∀ (f:Nat)(l:Array Bool)(a:Act)(w:World),wpAnyS P ops Q S late f l a w->wpAny P .any ops Q f l a w
 | 0,_,_,_,h=>h
 | f+1,_,_,_,h=>⟨h.1,fun i hi=>wpOp_mono (fun a' w' k=>wpAnyS_any f _ a' w' k.2) (h.2 i hi)⟩
def early (ops:Array Oper)(late:Nat->Bool)(i:Nat):Bool:=(List.range ops.size).all fun j=>!late j||ahead ops ops.size i j
theorem wpAnyS_take {i:Nat} {oi:Oper} {v:Value} (hi:ops[i]?=some oi)(hsel:Region.noSelect ops=true)
  (hQ:∀ c a w,Q (.panic c) (Act.put a oi.dst v) w->Q (.panic c) a w) (hL:early ops late i=true) :
  ∀ (f:Nat) (l:Array Bool) (a:Act) (w:World),Closed ops l ->
   (∀ j oj,ops[j]?=some oj->j≠i->l.getD j true=false->(∀ e∈oj.after,Region.binds .any e=true->e.on≠i)->oi.apart ops oj=true) ->
   i∈Region.ready .any ops l->YieldsIf P ops S oi v a->S w->wpAnyS P ops Q S late f (l.setIfInBounds i true) (a.put oi.dst v) w->wpAnyS P ops Q S late (f+1) l a w:=by
 intro f;induction f with
 | zero =>
  intro l a w _ _ hr hy hS H;refine⟨fun h=>(by rw[h]at hr;cases hr),fun j hj=>?_⟩;by_cases hji:j=i
  ·subst hji;exact hy.wpOp hi hS ⟨fun _=>hS,H⟩
  ·have:=ready_mono hj hji;rw[H.1]at this;cases this
 | succ f ih =>
  intro l a w hc hfree hr hy hS H;refine⟨fun h=>(by rw[h]at hr;cases hr),fun j hj=>?_⟩;by_cases hji:j=i
  ·subst hji;exact hy.wpOp hi hS ⟨fun _=>hS,H⟩
  ·obtain⟨hjun,oj,hoj,hall⟩:=mem_ready.1 hj;have hiun:=(mem_ready.1 hr).1
   have hjL:late j=false:=by
    cases hlj:late j with
    | false=>rfl
    | true =>
     have hjs:j<ops.size:=(Array.getElem?_eq_some_iff.1 hoj).1;have ha:=List.all_eq_true.1 hL j (List.mem_range.2 hjs);rw[hlj]at ha;simp only[Bool.not_true,Bool.false_or]at ha;exact(unlisted hiun (ahead_listed hc ops.size i j ha fun o ho e he hb=>by rw[hoj]at ho;cases ho;exact hall e he hb)).elim
   have hnot:∀ e∈oj.after,Region.binds .any e=true->e.on≠i:=fun e he hb heq=>unlisted hiun (heq▸hall e he hb);have h2:=wpOp_putIf hoj (hfree j oj hoj hji hjun hnot) (fun cs b=>Region.noSelect_spec hsel i oi cs b hi) (fun cs b=>Region.noSelect_spec hsel j oj cs b hoj) hQ hy (H.2 j (ready_mono hj hji));refine wpOp_mono (fun a' w' k=>⟨k.2.1,ih (l.setIfInBounds j true) a' w' (hc.set hj) (fun m om hom hmi hun hno=>?_) (ready_mono hr (Ne.symm hji)) k.1 (k.2.1 hjL) ?_⟩) h2
   ·refine hfree m om hom hmi ?_ hno;by_cases hjm:j=m
    ·exact hjm▸hjun
    ·rwa[getD_set_ne true hjm]at hun
   ·rw[Array.setIfInBounds_comm _ _ hji];exact k.2.2
def allLate (ops:Array Oper)(late:Nat->Bool)(l:Array Bool):Bool:=(List.range ops.size).all fun j=>l.getD j false||late j
theorem late_ready {l:Array Bool} (h:allLate ops late l=true) {i:Nat} (hi:i∈Region.ready .any ops l):late i=true:=by
 obtain⟨hun,o,ho,_⟩:=mem_ready.1 hi;have h1:=List.all_eq_true.1 h i (List.mem_range.2 (Array.getElem?_eq_some_iff.1 ho).1);rcases Bool.or_eq_true_iff.1 h1 with h2 | h2
 ·exact(unlisted hun h2).elim
 ·exact h2
theorem late_set {l:Array Bool} (h:allLate ops late l=true)(i:Nat):allLate ops late (l.setIfInBounds i true)=true:=by
 refine List.all_eq_true.2 fun j hj=>?_;rcases Bool.or_eq_true_iff.1 (List.all_eq_true.1 h j hj)with h2 | h2
 ·exact Bool.or_eq_true_iff.2 (.inl (getD_set_true h2))
 ·exact Bool.or_eq_true_iff.2 (.inr h2)
theorem wpAnyS_late:∀ (f:Nat)(l:Array Bool)(a:Act)(w:World),allLate ops late l=true->wpAny P .any ops Q f l a w->wpAnyS P ops Q S late f l a w
 | 0,_,_,_,_,h=>h
 | f+1,l,a,w,hl,h=>⟨h.1,fun i hi=>wpOp_mono (fun a' w' k=>⟨fun e=>(by rw[late_ready hl hi]at e;cases e),wpAnyS_late f _ a' w' (late_set hl i) k⟩) (h.2 i hi)⟩
def WalkS (P:Program)(ops:Array Oper)(Q:Exit->Act->World->Prop)(S:World->Prop)(late:Nat->Bool):Nat->Array Bool->Act->World->Prop
 | 0,l,a,w=>Region.ready .any ops l=[]/\Q .normal a w
 | f+1,l,a,w=>(allLate ops late l=true/\WalkN P ops Q (fun _=>True) (f+1) l a w) \/
   (∃ i o v,ops[i]?=some o/\Region.free .any ops l i=true/\(Region.ready .any ops l).contains i=true/\early ops late i=true/\YieldsIf P ops S o v a/\WalkS P ops Q S late f (l.setIfInBounds i true) (a.put o.dst v) w) \/
   (Region.ready .any ops l≠[]/\∀ i∈Region.ready .any ops l,∃ o,ops[i]?=some o/\∀ K':Act->World->Prop,Shut (∀ a' w',S w'->WalkS P ops Q S late f (l.setIfInBounds i true) a' w'->K' a' w') ->
    if Region.wanted o (yielded ops a.tmps)=true then Oper.wp P o a w K' Q else K' (a.put o.dst undef) w)
theorem walkS_sound (hns:Region.noSelect ops=true)(hQ:∀ c a d v w,Q (.panic c) (Act.put a d v) w->Q (.panic c) a w) :
  ∀ (f:Nat) (l:Array Bool) (a:Act) (w:World),Closed ops l->S w->WalkS P ops Q S late f l a w->wpAnyS P ops Q S late f l a w
 | 0,_,_,_,_,_,h=>h
 | f+1,l,a,w,hc,hs,h=>by
  rcases h with⟨hl,h⟩ | ⟨i,o,v,ho,hf,hr,hL,hy,h⟩ | ⟨hne,h⟩
  ·exact wpAnyS_late _ l a w hl (wpAny_of_held _ _ _ _ (walkN_sound hns hQ _ l a w trivial h))
  ·exact wpAnyS_take ho hns (fun c a w=>hQ c a _ _ w) hL f l a w hc (Region.free_spec ho hf) (by simpa using hr) hy hs (walkS_sound hns hQ f _ _ w (hc.set (by simpa using hr)) hs h)
  ·refine⟨fun e=>absurd e hne,fun i hi=>?_⟩;obtain⟨o,ho,hst⟩:=h i hi;exact wpOp_step ho (fun K' hK=>hst K' (fun a' w' he hw=>hK a' w' ⟨fun _=>he,walkS_sound hns hQ f _ a' w' (hc.set hi) he hw⟩))
theorem region_walkS {id:Nat} {a:Act} {w:World} (late:Nat->Bool)(S:World->Prop)(hS:S w.drew)(hm:P.follows .mixedOrders=true)(hns:Region.noSelect ops=true)(hQ:∀ c a d v w,Q (.panic c) (Act.put a d v) w->Q (.panic c) a w)
  (h:WalkS P ops Q S late ops.size (Array.replicate ops.size false) a w.drew):(Code.region id ops true).wp P Q a w :=
 wp_region_any hm (wpAnyS_any _ _ _ _ (walkS_sound hns hQ _ _ a w.drew (Closed.start _ _) hS h))
theorem WalkS.take {f:Nat} {l:Array Bool} {a:Act} {w:World} (i:Nat)(o:Oper)(v:Value)(ho:ops[i]?=some o)(hf:Region.free .any ops l i=true)(hr:(Region.ready .any ops l).contains i=true)(hL:early ops late i=true)
  (hw:Region.wanted o (yielded ops a.tmps)=true) (hy:∀ W,S W->(execOp a.eval o).run P W = .ok (.value v) W) (h:WalkS P ops Q S late f (l.setIfInBounds i true) (a.put o.dst v) w):WalkS P ops Q S late (f+1) l a w :=
 .inr (.inl ⟨i,o,v,ho,hf,hr,hL,.inl ⟨hw,hy⟩,h⟩)
def TkS (P:Program)(ops:Array Oper)(Q:Exit->Act->World->Prop)(S:World->Prop)(late:Nat->Bool):List Nat->Nat->Array Bool->Act->World->Prop
 | [],f,l,a,w=>WalkS P ops Q S late f l a w
 | i::is,f,l,a,w=>∃ g,f=g+1/\∃ o v,ops[i]?=some o/\Region.free .any ops l i=true/\(Region.ready .any ops l).contains i=true/\early ops late i=true/\Region.wanted o (yielded ops a.tmps)=true/\(∀ W,S W->(execOp a.eval o).run P W = .ok (.value v) W)/\TkS P ops Q S late is g (l.setIfInBounds i true) (a.put o.dst v) w
theorem WalkS.tk (is:List Nat):∀ {f:Nat} {l:Array Bool} {a:Act} {w:World},TkS P ops Q S late is f l a w->WalkS P ops Q S late f l a w:=by
 induction is with
 | nil=>exact fun h=>h
 | cons i is ih =>
  rintro f l a w ⟨g,rfl,o,v,ho,hf,hr,hL,hw,hy,h⟩;exact WalkS.take i o v ho hf hr hL hw hy (ih h)
theorem TkS.c {f:Nat} {l:Array Bool} {a:Act} {w:World} {i:Nat} {is:List Nat} (o:Oper)(v:Value)(ho:ops[i]?=some o)(hf:Region.free .any ops l i=true)(hr:(Region.ready .any ops l).contains i=true)(hL:early ops late i=true)
  (hw:Region.wanted o (yielded ops a.tmps)=true) (hy:∀ W,S W->(execOp a.eval o).run P W = .ok (.value v) W) (h:TkS P ops Q S late is f (l.setIfInBounds i true) (a.put o.dst v) w):TkS P ops Q S late (i::is) (f+1) l a w :=
 ⟨f,rfl,o,v,ho,hf,hr,hL,hw,hy,h⟩
theorem TkS.n {f:Nat} {l:Array Bool} {a:Act} {w:World} (h:WalkS P ops Q S late f l a w):TkS P ops Q S late [] f l a w:=h
def MadeS (P:Program)(ops:Array Oper)(Q:Exit->Act->World->Prop)(S:World->Prop)(late:Nat->Bool)(f:Nat)(l:Array Bool)(a:Act)(w:World)(i:Nat):Prop :=
 ∃ o,ops[i]?=some o/\Region.wanted o (yielded ops a.tmps)=true/\∀ K':Act->World->Prop,Shut (∀ a' w',S w'->WalkS P ops Q S late f (l.setIfInBounds i true) a' w'->K' a' w')->Oper.wp P o a w K' Q
theorem WalkS.one {f:Nat} {l:Array Bool} {a:Act} {w:World} (i:Nat)(hr:Region.ready .any ops l=[i])(h:MadeS P ops Q S late f l a w i):WalkS P ops Q S late (f+1) l a w:=by
 refine .inr (.inr ⟨by rw[hr];simp,fun j hj=>?_⟩);rw[hr]at hj;obtain rfl:j=i:=by simpa using hj
 obtain⟨o,ho,hw,h⟩:=h;exact⟨o,ho,fun K hK=>by rw[if_pos hw];exact h K hK⟩
theorem WalkS.rest {f:Nat} {l:Array Bool} {a:Act} {w:World} (hl:allLate ops late l=true)(h:WalkN P ops Q (fun _=>True) (f+1) l a w):WalkS P ops Q S late (f+1) l a w := .inl ⟨hl,h⟩
end
theorem z! {P : Program} {ops : Array Oper} {Q : Exit -> Act -> World -> Prop} {S : World -> Prop} {late : Nat -> Bool} {f : Nat} {l : Array Bool} {a : Act} {w : World} {i : Nat} {is : List Nat} {o : Oper} {v : Value} {G : Prop} (h : G) (ho : ops[i]? = some o := by simp only[gA,gS,gZ];rfl) (hf : Region.free .any ops l i = true := by kernel_rfl) (hr : (Region.ready .any ops l).contains i = true := by kernel_rfl) (hL : early ops late i = true := by kernel_rfl) (hw : Region.wanted o (yielded ops a.tmps) = true := by rfl) (hy : ∀ W,S W->(execOp a.eval o).run P W=.ok (.value v) W := by intro W hW;go_simp;try with_reducible rfl) (hG : TkS P ops Q S late is f (l.setIfInBounds i true) (a.put o.dst v) w = G := by simp only[Act.put,pA,pZ,pS];rfl) : TkS P ops Q S late (i :: is) (f + 1) l a w := ⟨f, rfl, o, v, ho, hf, hr, hL, hw, hy, Eq.mpr hG h⟩
theorem oS! {P : Program} {ops : Array Oper} {Q : Exit -> Act -> World -> Prop} {S : World -> Prop} {late : Nat -> Bool} {f : Nat} {l : Array Bool} {a : Act} {w : World} (i : Nat) (h : MadeS P ops Q S late f l a w i) (hr : Region.ready .any ops l = [i] := by kernel_rfl) : WalkS P ops Q S late (f + 1) l a w := WalkS.one i hr h
end Go.Proofs.YtlhaghoajpglaaaGreat
namespace Go.Proofs.YtlhaghoajpglaaaGreat
open Go Go.RowKit Go.Maps
def shutM (l:List R2):List (R2 × Bool):=l.foldl (fun m r=>putA m r true) []
theorem shutM_snoc (l:List R2)(r:R2):shutM (l++[r])=putA (shutM l) r true:=by simp[shutM,List.foldl_append]
theorem look_shut (r:R2)(l:List R2):lookA (shutM l) r=if r∈l then some true else none:=by
 suffices h:∀ n,∀ l:List R2,l.length=n->lookA (shutM l) r=if r∈l then some true else none from h _ l rfl
 intro n;induction n with
 | zero=>intro l h;rw[List.eq_nil_of_length_eq_zero h];rfl
 | succ n ih =>
  intro l h;rcases List.eq_nil_or_concat l with rfl | ⟨l',x,rfl⟩
  ·simp at h
  ·rw[List.concat_eq_append]at h ⊢;rw[shutM_snoc,look_put,ih l' (by simpa using h)];by_cases e:x=r
   ·subst e;simp
   ·have e2:¬ r=x:=fun h=>e h.symm;simp[e,e2]
theorem shut_take {l:List R2} {i:Nat} (hi:i<l.length):shutM (l.take (i+1))=putA (shutM (l.take i)) l[i] true:=by
 rw[List.take_succ_eq_append_getElem hi,shutM_snoc]
structure WalkIn (ts:List TyS)(T:List Tup)(shut:List R2)(p:P3)(N:Nat):Prop where
 okp:∀ n,∀ x∈(walkN ts T shut p n).1,x.Ok
 few:∀ n,(walkN ts T shut p n).1.length<=N
 room:∀ x∈refsOf ts,x.2.sz*(T.length+1)+N<=1073741824
 nmax:N<=1073741823
 rok:∀ x∈refsOf ts,x.2.Ok
 tok:∀ t∈T,t.s.Ok
 tlen:T.length<=1000000
theorem Own.setAtR {w:World} {B:Nat} {e:TypeId} {sz:Nat} {g n c:Nat} {xs:List Value} (h:Own w B e sz (.slice (some ⟨g,0,none⟩) n c) xs)(i:Nat)(u:Value):Own (w.setCell ⟨g,i,none⟩ u) B e sz (.slice (some ⟨g,0,none⟩) n c) (xs.set i u):=by
 obtain⟨m,h⟩:=h;rcases h.2 with⟨hv,rfl⟩ | ⟨g',cap,cur,hv,hbg,hg,hnc,hcm,hcs,htake⟩
 ·cases hv
 ·cases hv;refine⟨n,by rw[List.length_set];exact h.1,.inr ⟨g,c,cur.setIfInBounds i u,rfl,hbg,heap_setCell_same w g i cur e u hg,hnc,hcm,by simpa using hcs,?_⟩⟩;rw[Array.toList_setIfInBounds,<- htake,List.take_set]
theorem set_four (xs:List Value)(a b c d p q r s:Value) {k:Nat} (hk:k=xs.length):((((xs++[p,q,r,s]).set k a).set (k+1) b).set (k+2) c).set (k+3) d=xs++[a,b,c,d]:=by
 subst hk;rw[List.set_append_right _ _ (Nat.le_refl _)];rw[List.set_append_right _ _ (by omega)];rw[List.set_append_right _ _ (by omega)];rw[List.set_append_right _ _ (by omega)];simp
theorem four_cells {w:World} {B:Nat} {e:TypeId} {sz:Nat} {g n c:Nat} {xs:List Value} {p q r s:Value} (h:Own w B e sz (.slice (some ⟨g,0,none⟩) n c) (xs++[p,q,r,s])) {k:Nat} (hk:k=xs.length):w.cell? ⟨g,k,none⟩=some p/\w.cell? ⟨g,k+1,none⟩=some q/\w.cell? ⟨g,k+2,none⟩=some r/\w.cell? ⟨g,k+3,none⟩=some s:=by
 obtain⟨m,h⟩:=h;have hc:=h.cells (g:=g) rfl;subst hk
 have hh:∀ j u,[p,q,r,s][j]?=some u->w.cell? ⟨g,xs.length+j,none⟩=some u:=fun j u hu=>by
  have:=hc (xs.length+j) u (by rw[List.getElem?_append_right (by omega)];simpa using hu);rwa[Addr.add_lit,Nat.zero_add]at this
 exact⟨hh 0 p rfl,hh 1 q rfl,hh 2 r rfl,hh 3 s rfl⟩
def World.setForm (w:World)(g k:Nat)(a b c d:Value):World:=(((w.setCell ⟨g,k,none⟩ a).setCell ⟨g,k+1,none⟩ b).setCell ⟨g,k+2,none⟩ c).setCell ⟨g,k+3,none⟩ d
theorem setForm_other (w:World)(g k:Nat)(a b c d:Value) {x:Nat} (hx:x≠g):(World.setForm w g k a b c d).heap[x]?=w.heap[x]?:=by
 unfold World.setForm;rw[Below.heap_setCell _ _ _ x hx,Below.heap_setCell _ _ _ x hx,Below.heap_setCell _ _ _ x hx,Below.heap_setCell _ _ _ x hx]
theorem setForm_size (w:World)(g k:Nat)(a b c d:Value):(World.setForm w g k a b c d).heap.size=w.heap.size:=by
 unfold World.setForm;simp
theorem Own.setForm {w:World} {B:Nat} {e:TypeId} {sz:Nat} {g n c:Nat} {xs:List Value} {p q r s:Value} (h:Own w B e sz (.slice (some ⟨g,0,none⟩) n c) (xs++[p,q,r,s])) {k:Nat} (hk:k=xs.length)(x0 x1 x2 x3:Value):Own (World.setForm w g k x0 x1 x2 x3) B e sz (.slice (some ⟨g,0,none⟩) n c) (xs++[x0,x1,x2,x3]):=by
 have:=(((h.setAtR k x0).setAtR (k+1) x1).setAtR (k+2) x2).setAtR (k+3) x3;rwa[set_four _ _ _ _ _ _ _ _ _ hk]at this
structure StepOk (wz w8:World)(wp am ash lo B:Nat)(tv fi sm pv fv6:Value)(ps:List P3)(shut:List R2)(q:List (FT × FV3)):Prop where
 walk:WkAt w8 wp am B tv fi sm ps pv fv6
 row:FRow lo w8 q fv6
 shut:Mp Tryz.prog 121 r2V bV w8 ash (shutM shut)
 below:Below B wz w8
theorem step_ok {wz we w3 w6 w8:World} {wp am ash lo B n0:Nat} {tv fi sm pv fv:Value} {ps:List P3} {shut:List R2} {q:List (FT × FV3)} {x:FT} {v:FV3} {g n c:Nat}
  (hw:WkAt we wp am B tv fi sm ps pv fv) (hr:FRow lo we q fv) (hs:Mp Tryz.prog 121 r2V bV we ash (shutM shut)) (hz:Below B wz we) (_hBz:B<=lo) (hlo:wp<lo/\am<lo/\ash<lo) (hash:ash≠wp/\ash≠am) (hlw:lo<=we.heap.size)
  (hx:FTAt (FS n0 we) we x v) (hn0:lo<=n0) (hfv:∀ g,fv.ownBlock=some g->g<n0) (hBw:B<=wp)
  (h3:Ext we w3) (hg:w3.grownBy w6 fv.ownBlock) (hb:∀ g',(Value.slice (some ⟨g,0,none⟩) n c).ownBlock=some g'->fv.ownBlock=some g'\/w3.heap.size<=g')
  (ho:Own w8 lo 128 4 (.slice (some ⟨g,0,none⟩) n c) (q.flatMap fC++fC (x,v))) (hbx:Blk w8 wp #[tv,fi,sm,.map (some am),pv,.slice (some ⟨g,0,none⟩) n c,.int .i64 0] 251)
  (h8:∀ y,y≠g->y≠wp->w8.heap[y]?=w6.heap[y]?) (hsz:w8.heap.size=w6.heap.size) (hos:w8.os=w6.os/\w8.tape=w6.tape/\w8.output=w6.output):StepOk wz w8 wp am ash lo B tv fi sm pv (.slice (some ⟨g,0,none⟩) n c) ps shut (q++[(x,v)]):=by
 have hgb:fv.ownBlock=some g\/w3.heap.size<=g:=hb g rfl
 have hglo:lo<=g:=by
  rcases hgb with h | h
  ·exact(hr.row.block g h).1
  ·exact Nat.le_trans (Nat.le_trans hlw h3.size) h
 have h6:∀ y,y<we.heap.size->fv.ownBlock≠some y->w6.heap[y]?=we.heap[y]?:=fun y hy hn=>(hg.block y (Nat.lt_of_lt_of_le hy h3.size) fun e=>hn e.symm).trans (h3.block y hy)
 have hgx:∀ y,y<we.heap.size->fv.ownBlock≠some y->y≠g:=fun y hy hn e=>by
  subst e;rcases hgb with h | h
  ·exact hn h
  ·have:=h3.size;omega
 have h86:∀ y,y<we.heap.size->fv.ownBlock≠some y->y≠wp->w8.heap[y]?=we.heap[y]?:=fun y hy hn hp=>(h8 y (hgx y hy hn) hp).trans (h6 y hy hn);have hlfv:∀ y,y<lo->fv.ownBlock≠some y:=fun y hy e=>by have:=(hr.row.block y e).1;omega
 have hz3:=h3.size;have hz6:=hg.size;refine⟨⟨hbx,hw.num.same (h86 _ hw.num.lt (hlfv _ hlo.2.1) hw.ne.symm),hw.pts.keepOwn fun y hy=>?_⟩,?_,hs.same (h86 _ hs.lt (hlfv _ hlo.2.2) hash.1),?_⟩
 ·have hyn:=hw.ptNe y hy;exact h86 y (hw.pts.block y hy).2 (fun e=>hr.row.apart hw.pts (by decide) e hy) hyn.1
 ·refine⟨by rw[List.flatMap_append];simpa using ho,fun y hy=>?_⟩
  have hm:∀ b,(FS lo we b/\fv.ownBlock≠some b)->(FS lo w8 b/\(Value.slice (some ⟨g,0,none⟩) n c).ownBlock≠some b):=fun b hb'=>⟨⟨hb'.1.1,Nat.lt_of_lt_of_le hb'.1.2.1 (by omega),fun cs=>by rw[h86 b hb'.1.2.1 hb'.2 (by have:=hb'.1.1;omega)];exact hb'.1.2.2 cs⟩,fun e=>by
   injection e with e
   exact hgx b hb'.1.2.1 hb'.2 e.symm⟩
  have hsame:∀ b,(FS lo we b/\fv.ownBlock≠some b)->w8.heap[b]?=we.heap[b]?:=fun b hb'=>h86 b hb'.1.2.1 hb'.2 (by have:=hb'.1.1;omega);rcases List.mem_append.1 hy with hy | hy
  ·exact((hr.parts y hy).same hsame).mono hm
  ·obtain rfl:=List.mem_singleton.1 hy;exact((hx.mono fun b hb'=>(⟨hb'.mono hn0,fun e=>by have:=hfv b e;have:=hb'.1;omega⟩:FS lo we b/\fv.ownBlock≠some b)).same hsame).mono hm
 ·have hz1:=hz.size;refine hz.trans ⟨hos.1.trans (hg.os.trans h3.os),hos.2.1.trans (hg.tape.trans h3.tape),hos.2.2.trans (hg.output.trans h3.output),by omega,fun y hy=>h86 y (by omega) (hlfv _ (by omega)) (by omega)⟩
theorem ft_zero (S:Nat->Prop)(w:World):FTAt S w FT.zero (.slice none 0 0,.slice none 0 0,.slice none 0 0):=(FTAt.iff _ _).2 ⟨Sl.nil _ _ _,Sl.nil _ _ _,[],rfl,(fun x hx=>by cases hx),Sl.nil _ _ _⟩
theorem stepG_none {ts:List TyS} {T:List Tup} {shut:List R2} {p:P3} {ps:List P3} (h:ruleOf ts shut p=none):stepG ts T shut p ps=(FT.zero,ps):=by unfold stepG;rw[h]
theorem stepG_some {ts:List TyS} {T:List Tup} {shut:List R2} {p:P3} {ps:List P3} {r:RT} (h:ruleOf ts shut p=some r):stepG ts T shut p ps=formD T p r ps:=by unfold stepG;rw[h]
def WalkSaid (ts:List TyS)(T:List Tup)(shut:List R2)(p:P3)(most:Int)(w:World)(e:Ending)(w':World):Prop:=Ext w w'/\((∃ n pv fv,WalkEnd ts T shut p most n/\e = .returned (.tuple #[.agg #[pv,fv],.int .i64 0])/\GrAt (fun x=>w.heap.size<=x/\x<w'.heap.size) w' (walkN ts T shut p n).1 (walkN ts T shut p n).2 pv fv)\/(WalkLong ts T shut p most/\e = .returned (.tuple #[.agg #[.slice none 0 0,.slice none 0 0],.int .i64 10])))
theorem WalkAt.le {ts:List TyS} {T:List Tup} {shut:List R2} {p:P3} {most:Int} {n:Nat} (h:WalkAt ts T shut p most n):n<=(walkN ts T shut p n).1.length:=by
 cases n with
 | zero=>exact Nat.zero_le _
 | succ n =>
  have h1:=(h n (Nat.lt_succ_self n)).1;have h2:=walk_mono ts T shut p (show n<=n+1 by omega);omega
theorem walkW_any (ts:List TyS)(tv:Value)(b:Nat)(T:List Tup)(shut:List R2)(sv:Value)(p:P3)(most:Int)(N:Nat)(w:World)(h:TysAt (· < w.heap.size) w ts tv)(hok:∀ t∈ts,t.Ok)(hc:chk06 ts=0)(hsB:schB ts<=549755813888)(hsz:∀ t∈ts,∀ r∈t.rels,r.2.sz<=1000000)(hln:(namesOf ts).length<=1099511627776)(hlr:(refsOf ts).length<=1099511627776)
  (hbk:BookAt w b T) (hsv:Sl (· < w.heap.size) w 2 sv (shut.flatMap r2C)) (hso:∀ r∈shut,r.Ok) (hin:WalkIn ts T shut p N) :
  Calls Tryz.prog 98 #[.agg #[tv],bkV b,sv,pV p,.int .i64 most] w fun e w'=>WalkSaid ts T shut p most w e w':=by
 have HIN:=h! hin;have HOKT:=h! hok;have HLR:=h! hlr;have HU:=h! (chk_uniq hc);have HSO:=h! hso;obtain⟨ao,c,rfl,-⟩:=h.rows;obtain⟨so,sc,rfl,hs1,hs2,-⟩:=Sl.rows r2C_length (by decide) hsv;have HSH:=h! (show shut.length<=9223372036854775807 from by omega);clear hs1 hs2;obtain⟨wa,hwa⟩:∃ x,x=w.alloc (.cells #[.slice ao ts.length c] 26):=⟨_,rfl⟩;obtain⟨wb,hwb⟩:∃ x,x=wa.alloc (.cells #[.string p.t,.string p.i,.string p.r] 32):=⟨_,rfl⟩;obtain⟨wc,hwc⟩:∃ x,x=wb.alloc (.cells #[.slice none 0 0,.slice none 0 0] 96):=⟨_,rfl⟩;have ea:wa.heap.size=w.heap.size+1:=by rw[hwa];simp
 have eb:wb.heap.size=w.heap.size+2:=by rw[hwb];simp[ea]
 have ec:wc.heap.size=w.heap.size+3:=by rw[hwc];simp[eb]
 have xa:Ext w wa:=by rw[hwa];exact Ext.alloc _ _
 have xb:Ext wa wb:=by rw[hwb];exact Ext.alloc _ _
 have xc:Ext wb wc:=by rw[hwc];exact Ext.alloc _ _
 have XC:=h! (show Ext w wc from xa.trans (xb.trans xc));have CZ:=h! ec;have CS:=h! (show Blk wc w.heap.size #[.slice ao ts.length c] 26 from Blk.below (by rw[hwa];exact Blk.made _ _ _) (xb.trans xc));have CP:=h! (show Blk wc (w.heap.size+1) #[.string p.t,.string p.i,.string p.r] 32 from Blk.below (by rw[hwb,<- ea];exact Blk.made _ _ _) xc);have CG:=h! (show Blk wc (w.heap.size+2) #[.slice none 0 0,.slice none 0 0] 96 from by rw[hwc,<- eb];exact Blk.made _ _ _);have CT:=h! (h.up XC.out);have CK:=h! (hbk.ext XC.out);have CV:=h! ((hsv.same (Same.below XC.out)).mono (T:=fun x=>x<wc.heap.size) fun x hx=>Nat.lt_of_lt_of_le hx XC.out.size)
 have HCK:=h! (show Calls Tryz.prog 74 #[.agg #[.slice ao ts.length c]] wc fun e w'=>e = .returned (.int .i64 0)/\Below wc.heap.size wc w' from by
  have h1:=checkP_any ts (.slice ao ts.length c) wc CT.out hok hsB hsz hln hlr;rw[hc]at h1;exact h1)
 clear h hok hc hsB hsz hln hlr hbk hsv hso hin ea eb ec xa xb xc;subst hwc hwb hwa;have cs0:=CS.out.cells;unfold pV;have hq:∀ W,(binOp BinOp.eql 139 (bkV b) .nilIface).run Tryz.prog W = .ok (.bool false) W:=fun _=>by kernel_rfl
 go_enter Tryz.func98,Tryz.ntmps98
 go_wp2_with fail
 refine HCK.out.mono ?_;rintro e w2 ⟨rfl,hx2⟩;have X2:=h! (show Ext w w2 from XC.out.trans hx2);have Z2:=h! (show w.heap.size+3<=w2.heap.size from by have:=CZ.out;have:=hx2.size;omega);have S2:=h! (CS.out.below hx2);have P2:=h! (CP.out.below hx2);have G2:=h! (CG.out.below hx2);have T2:=h! (CT.out.up hx2);have K2:=h! (CK.out.ext hx2);have V2:=h! ((CV.out.same (Same.below hx2)).mono (T:=fun x=>x<w2.heap.size) fun x hx=>Nat.lt_of_lt_of_le hx hx2.size);clear cs0 HCK hx2 XC CZ CS CP CG CT CK CV;obtain⟨tv,htv⟩:∃ tv,tv=Value.slice ao ts.length c:=⟨_,rfl⟩;obtain⟨w3,hw3⟩:∃ x,x=w2.alloc (.map #[] 0):=⟨_,rfl⟩;obtain⟨w4,hw4⟩:∃ x,x=w3.alloc (.map #[] 0):=⟨_,rfl⟩;obtain⟨w5,hw5⟩:∃ x,x=w4.alloc (.cells #[tv,bkV b,.map (some w2.heap.size),.map (some (w2.heap.size+1)),.slice none 0 0,.slice none 0 0,.int .i64 0] 251):=⟨_,rfl⟩;have e3:w3.heap.size=w2.heap.size+1:=by rw[hw3];simp
 have e4:w4.heap.size=w2.heap.size+2:=by rw[hw4];simp[e3]
 have e5:w5.heap.size=w2.heap.size+3:=by rw[hw5];simp[e4]
 have x3:Ext w2 w3:=by rw[hw3];exact Ext.alloc _ _
 have x4:Ext w3 w4:=by rw[hw4];exact Ext.alloc _ _
 have x5:Ext w4 w5:=by rw[hw5];exact Ext.alloc _ _
 have X5:=h! (show Below w2.heap.size w2 w5 from x3.trans (x4.trans x5));have Z5:=h! e5;have M5:=h! (show Mp Tryz.prog 121 r2V bV w5 w2.heap.size (shutM [])from Mp.below (by rw[hw3];exact Mp.made _) (x4.trans x5));have W5:=h! (show WkAt w5 (w2.heap.size+2) (w2.heap.size+1) w2.heap.size tv (bkV b) (.map (some w2.heap.size)) [] (.slice none 0 0) (.slice none 0 0)from⟨by rw[hw5,<- e4];exact Blk.made _ _ _,Mp.below (by rw[hw4,<- e3];exact Mp.made _) x5,Own.nil _ _ _ _⟩);clear e3 e4 e5 x3 x4 x5;have hmm:=@run_makeMap Tryz.prog;have cs2:=S2.out.cells;subst hw5 hw4 hw3 htv;go_wp2_with fail
 clear cs2 hmm hq;obtain⟨tv,htv⟩:∃ tv,tv=Value.slice ao ts.length c:=⟨_,rfl⟩;obtain⟨w5,hw5⟩:∃ x,x=((w2.alloc (.map #[] 0)).alloc (.map #[] 0)).alloc (.cells #[.slice ao ts.length c,bkV b,.map (some w2.heap.size),.map (some (w2.heap.size+1)),.slice none 0 0,.slice none 0 0,.int .i64 0] 251):=⟨_,rfl⟩;rw[<- hw5]at X5 Z5 M5 W5 ⊢;clear hw5;rw[<- htv]at W5 T2;have HTV:=h! htv;clear htv;go_loopw [38] (fun iv wr=>∃ i:Nat,i<=shut.length/\iv = .int .i64 i/\WkAt wr (w2.heap.size+2) (w2.heap.size+1) w2.heap.size tv (bkV b) (.map (some w2.heap.size)) [] (.slice none 0 0) (.slice none 0 0)/\Mp Tryz.prog 121 r2V bV wr w2.heap.size (shutM (shut.take i))/\Below w2.heap.size w2 wr/\w2.heap.size+3<=wr.heap.size) (fun iv _=>shut.length-(intOf iv).toNat)
 case atStart=>exact⟨0,Nat.zero_le _,rfl,W5.out,M5.out,X5.out,Nat.le_of_eq Z5.out.symm⟩
 case round =>
  obtain⟨i,hi,rfl,hwk,hmp,hbl,hzz⟩:=hrel;have RW:=h! hwk;have RM:=h! hmp;have RB:=h! hbl;have RZ:=h! hzz;clear W5 M5 X5 Z5 hwk hmp hbl hzz;by_cases hlt:i<shut.length
  ·obtain⟨ao',c',he',-,-,hcell⟩:=Sl.rows r2C_length (by decide) (V2.out.same (w':=wr) fun x hx=>RB.out.block x hx);cases he';obtain⟨bq,oq,rfl,-,hcell⟩:=hcell (by omega);have d0:wr.cell? ⟨bq,oq+i*2,none⟩=some (.string shut[i].t):=hcell i hlt 0 _ rfl;have d1:wr.cell? ⟨bq,oq+i*2+1,none⟩=some (.string shut[i].r):=hcell i hlt 1 _ rfl;have HTK:=h! (shut_take hlt);have HLT:=h! hlt;have HOR:=h! (HSO.out shut[i] (List.getElem_mem hlt));generalize shut[i]=r at *;obtain⟨rt,rr⟩:=r;dsimp only at d0 d1;clear hcell hi hlt;go_wp2_with fail
   clear d0 d1;obtain⟨wd,hwd⟩:∃ wd,wd=(wr.alloc (.cells #[.string rt,.string rr] 121)).drew:=⟨_,rfl⟩;have DX:=h! (show Ext wr wd from by rw[hwd];exact(Ext.alloc _ _).trans (Ext.drew _));have DR:=h! (show Blk wd wr.heap.size #[.string rt,.string rr] 121 from by rw[hwd];exact(Blk.made _ _ _).drew);have DW:=h! (RW.out.ext DX.out);have DM:=h! (RM.out.below DX.out);have DB:=h! (show Below w2.heap.size w2 wd from RB.out.trans (DX.out.mono (by have:=RZ.out;omega)));have DZ:=h! (show w2.heap.size+3<=wd.heap.size from Nat.le_trans RZ.out DX.out.size);refine r! (Kept (· ≠ w2.heap.size) wd) (by rw[<- hwd];exact Kept.refl _ _) ?_;rw[<- hwd];clear hwd RW RM DX;have h1:=fun W (h:Kept (· ≠ w2.heap.size) wd W)=>(h.blk DW.out.box (by show w2.heap.size+2≠w2.heap.size;omega)).cells;have h2:=fun W (h:Kept (· ≠ w2.heap.size) wd W)=>(h.blk DR.out (by show wr.heap.size≠w2.heap.size;have:=RZ.out;omega)).cells;(refine WalkN.tk [0,1,2,3,4] ?_;(iterate 5 (refine c! ?_));refine TkN.n ?_)
   clear h1 h2;obtain⟨wf,hrun,hMf,hTf⟩:=DM.out.store refK r2V_inj Tryz.underlying141 (ref_key ⟨rt,rr⟩ HOR.out) true;have FM:=h! hMf;unfold r2V bV at hrun;dsimp only at hrun;refine o! 5 ?_;refine b! ?_;intro K hK;go_simp;refine hK.out _ _ hTf.kept ?_;clear hK hrun hMf;refine d! ?_;have FW:=h! (DW.out.same (hTf.kept.block _ (by show w2.heap.size+2≠w2.heap.size;omega)) (hTf.kept.block _ (by show w2.heap.size+1≠w2.heap.size;omega)) (fun g hg=>by cases hg));have FB:=h! (show Below w2.heap.size w2 wf from DB.out.trans (hTf.below (Nat.le_refl _)));have FZ:=h! (show w2.heap.size+3<=wf.heap.size from by rw[hTf.size];exact DZ.out);clear hTf DW DM DB DR;have hsh:=HSH.out;have hil:=HLT.out;go_wp2_with fail
   go_roundw
   case rel=>exact⟨i+1,HLT.out,by go_num,FW.out,by rw[HTK.out];exact FM.out,FB.out,FZ.out⟩
   case measure=>have:=HLT.out;simp[intOf];omega
  ·obtain rfl:i=shut.length:=by omega
   have HTA:=h! (show shut.take shut.length=shut from List.take_length);rw[HTA.out]at RM;have HNB:=h! (number_any (w2.heap.size+2) (w2.heap.size+1) w2.heap.size tv (bkV b) (.map (some w2.heap.size)) (.slice none 0 0) (.slice none 0 0) [] p wr (HIN.out.okp 0 p (by simp[walkN])) RW.out ⟨by omega,by omega⟩ (by decide));have pp2:=(P2.out.same (S:=(· < w2.heap.size)) (W:=wr) (fun x hx=>RB.out.block x hx) P2.out.lt).cells;have HPP:=h! (show p=⟨p.t,p.i,p.r⟩from rfl);unfold pV at HNB;go_wp2_with fail
   refine HNB.out.mono ?_;rintro e w6 ⟨pv6,rfl,hwk6,hfn6⟩
   have Q6:=h! (show StepOk w2 w6 (w2.heap.size+2) (w2.heap.size+1) w2.heap.size (w2.heap.size+3) w2.heap.size tv (bkV b) (.map (some w2.heap.size)) pv6 (.slice none 0 0) (walkN ts T shut p 0).1 shut []from⟨by
    have h1:putP [] p=(walkN ts T shut p 0).1:=by simp[putP,walkN]
    rw[<- h1];exact hwk6,FRow.nil _ _,RM.out.same (hfn6.kept.block _ ⟨RM.out.lt,by omega,by omega,fun e=>by cases e⟩),RB.out.trans (hfn6.pk RW.out ⟨by omega,by omega⟩).below⟩)
   have Y6:=h! (show w2.heap.size+3<=w6.heap.size from Nat.le_trans RZ.out hfn6.size);clear pp2 HNB hwk6 hfn6 RW RM RB RZ hi hlt;go_wp2_with fail
   go_loopw [16] (fun iv wr=>∃ (i:Nat) (q:List (FT × FV3)) (pv fv:Value),iv = .int .i64 i/\WalkAt ts T shut p most i/\StepOk w2 wr (w2.heap.size+2) (w2.heap.size+1) w2.heap.size (w2.heap.size+3) w2.heap.size tv (bkV b) (.map (some w2.heap.size)) pv fv (walkN ts T shut p i).1 shut q/\q.map (·.1)=(walkN ts T shut p i).2/\w2.heap.size+3<=wr.heap.size) (fun iv _=>N+1-(intOf iv).toNat)
   case atStart=>exact⟨0,[],pv6,.slice none 0 0,rfl,(fun m hm=>absurd hm (Nat.not_lt_zero m)),Q6.out,rfl,Y6.out⟩
   case round =>
    obtain⟨i,q,pv,fv,rfl,hat,hst,hq,hzz⟩:=hrel;have HLE:=h! hat.le;have HFEW:=h! (HIN.out.few i);have HOKP:=h! (HIN.out.okp i)
    have HQL:=h! (show q.length=i from by
     have:=congrArg List.length hq;rwa[List.length_map,walkN_forms]at this)
    have HNX:=h! (show walkN ts T shut p (i+1)=_ from by rw[walkN]);have HLG:=h! (show i<(walkN ts T shut p i).1.length->most<((walkN ts T shut p i).1.length:Int)->WalkLong ts T shut p most from fun h1 h2=>⟨i,hat,h1,h2⟩)
    have HA1:=h! (show i<(walkN ts T shut p i).1.length->((walkN ts T shut p i).1.length:Int)<=most->WalkAt ts T shut p most (i+1)from fun h1 h2 m hm=>by
     rcases Nat.lt_succ_iff_lt_or_eq.1 hm with h3 | rfl
     ·exact hat m h3
     ·exact⟨h1,h2⟩)
    have HEND:=h! (show i=(walkN ts T shut p i).1.length->WalkEnd ts T shut p most i from fun h=>⟨hat,h⟩);have RW:=h! hst.walk;have RR:=h! hst.row;have RM:=h! hst.shut;have RB:=h! hst.below;have RZ:=h! hzz;have RQ:=h! hq;have RG:=h! (show Blk wr (w.heap.size+2) #[.slice none 0 0,.slice none 0 0] 96 from G2.out.same (S:=(· < w2.heap.size)) (fun x hx=>hst.below.block x hx) G2.out.lt)
    have RS:=h! (show Blk wr w.heap.size #[tv] 26 from by
     rw[HTV.out];exact S2.out.same (S:=(· < w2.heap.size)) (fun x hx=>hst.below.block x hx) S2.out.lt)
    clear Q6 Y6 hat hst hq hzz;by_cases hend:i<(walkN ts T shut p i).1.length
    ·by_cases hmost:most<((walkN ts T shut p i).1.length:Int)
     ·have HL:=h! (HLG.out hend hmost);obtain⟨po,pn,pc,rfl,hpn,-,-⟩:=RW.out.pts.sl.len;obtain rfl:pn=(walkN ts T shut p i).1.length:=by rw[pcs_length]at hpn;omega
      generalize (walkN ts T shut p i).1.length=len at *;have c1:=RW.out.box.cells;have c2:=RG.out.cells;have c3:=RG.out.free;have g1:(len:Int) > most:=hmost;have g2:(i:Int)<(len:Int):=by omega
      have XE:=h! (show Ext w ((wr.setCell ⟨w.heap.size+2,0,none⟩ (.slice none 0 0)).setCell ⟨w.heap.size+2,1,none⟩ (.slice none 0 0))from((X2.out.trans RB.out:Below w.heap.size w wr).setCell (p:=⟨w.heap.size+2,0,none⟩) (by show w.heap.size<=w.heap.size+2;omega) _).setCell (p:=⟨w.heap.size+2,1,none⟩) (by show w.heap.size<=w.heap.size+2;omega) _);have GE:=h! ((RG.out.set_to (cs':=#[.slice none 0 0,.slice none 0 0]) 0 (.slice none 0 0) rfl).set_to (cs':=#[.slice none 0 0,.slice none 0 0]) 1 (.slice none 0 0) rfl);go_wp2_with fail
      clear c1 c2 c3;refine bodyPost_ret (v := .tuple #[.agg #[.slice none 0 0,.slice none 0 0],.int .i64 10]) ?_ rfl ⟨XE.out,.inr ⟨HL.out,rfl⟩⟩;rw[results_cell_tmp rfl];have hl:=run_loadVar_row (P:=Tryz.prog) _ (w.heap.size+2) _ 96 _ _ _ GE.out Tryz.underlying96 rfl (by kernel_rfl);simp[asAddr,hl,Result.andThen]
     ·have HA:=h! (HA1.out hend (by omega));obtain⟨po,pc,rfl,hpc1,hpc2,hcell⟩:=Sl.rows pC_length (by decide) (show Sl _ wr 3 pv ((walkN ts T shut p i).1.flatMap pC)from RW.out.pts.sl);obtain⟨bq,oq,rfl,-,hcell⟩:=hcell (by omega);have hck:=hcell i hend;clear hcell;have HXOK:=h! (HOKP.out _ (List.getElem_mem hend));have HGD:=(show(walkN ts T shut p i).1.getD i p=(walkN ts T shut p i).1[i]from by rw[List.getD_eq_getElem?_getD,List.getElem?_eq_getElem hend];rfl);rw[HGD]at HNX;clear HGD;generalize (walkN ts T shut p i).1[i]=x at *;have HENDL:=h! hend;have hmost':¬ (((walkN ts T shut p i).1.length:Int) > most):=hmost;have RFV:=h! (show ∀ g,fv.ownBlock=some g->g<wr.heap.size from fun g hg=>(RR.out.row.block g hg).2);have g2:(i:Int)<((walkN ts T shut p i).1.length:Int):=by omega
      obtain⟨xt,xi,xr⟩:=x;have c0:wr.cell? ⟨bq,oq+i*3,none⟩=some (.string xt):=hck 0 _ rfl;have c1:wr.cell? ⟨bq,oq+i*3+1,none⟩=some (.string xi):=hck 1 _ rfl;have c2:wr.cell? ⟨bq,oq+i*3+2,none⟩=some (.string xr):=hck 2 _ rfl;have cb:=RW.out.box.cells;obtain⟨wj,hwj⟩:∃ y,y=wr.alloc (.cells #[.string xt,.string xi,.string xr] 32):=⟨_,rfl⟩;obtain⟨wk,hwk⟩:∃ y,y=wj.alloc (.cells #[.int .i64 0,.slice none 0 0,.slice none 0 0,.slice none 0 0] 128):=⟨_,rfl⟩;have ej:wj.heap.size=wr.heap.size+1:=by rw[hwj];simp
      have xj:Ext wr wj:=by rw[hwj];exact Ext.alloc _ _
      have xk:Ext wj wk:=by rw[hwk];exact Ext.alloc _ _
      have KX1:=h! (show Ext wr wk from xj.trans xk);have KP:=h! (show Blk wk wr.heap.size #[.string xt,.string xi,.string xr] 32 from Blk.below (by rw[hwj];exact Blk.made _ _ _) xk);have KF:=h! (show Blk wk (wr.heap.size+1) #[.int .i64 0,.slice none 0 0,.slice none 0 0,.slice none 0 0] 128 from by rw[hwk,<- ej];exact Blk.made _ _ _);have KS:=h! (RS.out.below KX1.out);have KB:=h! (show Below w2.heap.size w2 wk from RB.out.trans (KX1.out.mono (by have:=RZ.out;omega)));have HFD:=h! (findS_any (S:=(· < w2.heap.size)) ts tv xt xr wk (fun y hy=>Nat.lt_of_lt_of_le hy KB.out.size) (T2.out.same fun y hy=>KB.out.block y hy) HOKT.out HU.out HLR.out HXOK.out.1 HXOK.out.2.2);have kp:=KP.out.cells;have ks:=KS.out.cells;clear ej xj xk hck hend hmost HLG HEND;subst hwk hwj;go_wp2_with fail
      clear c0 c1 c2 cb kp ks;refine HFD.out.mono ?_;rintro e w3 ⟨⟨zr,zv⟩,rfl,hzat,hz1,hz2,hx3⟩;have hzat:RTAt (· < w2.heap.size) w3 zr zv:=hzat;obtain⟨zo,zc,rfl,-⟩:=hzat.rows;unfold rvV rV;dsimp only at hz1 hz2 ⊢;have X3:=h! (KX1.out.trans hx3);have P3:=h! (KP.out.below hx3);have F3:=h! (KF.out.below hx3);have B3:=h! (show Below w2.heap.size w2 w3 from KB.out.trans (hx3.mono KB.out.size));have HZA:=h! hzat;have HZ1:=h! hz1;have kp:=P3.out.cells;clear HFD KX1 KP KF KS KB hzat hz1 hz2 hx3 g2 hmost';obtain⟨w4,hw4⟩:∃ y,y=w3.alloc (.cells #[.int .i64 zr.k,.string zr.a,.string zr.b,.slice zo zr.ps.length zc] 106):=⟨_,rfl⟩;obtain⟨wd,hwd⟩:∃ y,y=w4.drew:=⟨_,rfl⟩;have X3D:=h! (show Ext w3 wd from by rw[hwd,hw4];exact(Ext.alloc _ _).trans (Ext.drew _));have DX:=h! (X3.out.trans X3D.out);have DR:=h! (show Blk wd w3.heap.size #[.int .i64 zr.k,.string zr.a,.string zr.b,.slice zo zr.ps.length zc] 106 from by rw[hwd,hw4];exact(Blk.made _ _ _).drew);have DP:=h! (P3.out.below X3D.out);have DF:=h! (F3.out.below X3D.out);have DW:=h! (RW.out.ext DX.out);have DM:=h! (RM.out.below DX.out);have DB:=h! (show Below w2.heap.size w2 wd from B3.out.trans (X3D.out.mono B3.out.size));have DRR:=h! (RR.out.ext DX.out);have DZ:=h! (show w2.heap.size+3<=wd.heap.size from Nat.le_trans RZ.out DX.out.size);have DZ2:=h! (show wr.heap.size+1<wd.heap.size from DF.out.lt);have DA:=h! (HZA.out.same fun y hy=>X3D.out.block y (Nat.lt_of_lt_of_le hy B3.out.size));clear X3 P3 F3 B3 HZA X3D;have hlk:=fun W (h:Ext wd W)=>(DM.out.below h).look refK r2V_inj Tryz.underlying141 (Tryz.zeroValue4 W) false (ref_key ⟨xt,xr⟩ ⟨HXOK.out.1,HXOK.out.2.2⟩);simp only[look_shut]at hlk;unfold r2V bV at hlk;dsimp only at hlk;have h1:=fun W (h:Ext wd W)=>(DW.out.box.below h).cells;have h2:=fun W (h:Ext wd W)=>(DP.out.below h).cells;have HLK:=h! hlk;have HH1:=h! h1;have HH2:=h! h2;clear hlk h1 h2;subst hwd hw4
      have tri:Hid (lookA (refsOf ts) ⟨xt,xr⟩=none)\/(∃ r,Hid (lookA (refsOf ts) ⟨xt,xr⟩=some r/\(⟨xt,xr⟩:R2)∈shut))\/(∃ r,Hid (lookA (refsOf ts) ⟨xt,xr⟩=some r/\¬ (⟨xt,xr⟩:R2)∈shut)):=by
       cases hL:lookA (refsOf ts) ⟨xt,xr⟩ with
       | none=>exact .inl rfl
       | some r =>
        by_cases hsh:(⟨xt,xr⟩:R2)∈shut
        ·exact .inr (.inl ⟨r,rfl,hsh⟩)
        ·exact .inr (.inr ⟨r,rfl,hsh⟩)
      rcases tri with hL | ⟨r,hL⟩ | ⟨r,hL⟩
      case' inl =>
       have hL:lookA (refsOf ts) ⟨xt,xr⟩=none:=hL.out;have HRU:=h! (show ruleOf ts shut ⟨xt,xi,xr⟩=none from by unfold ruleOf;split <;> first | rfl | exact hL);rw[hL]at HZ1;rw[hL];clear HZ1 hL;dsimp only[Option.isSome];go_wp2_with fail
       clear kp;obtain⟨wd,hwd⟩:∃ y,y=(w3.alloc (.cells #[.int .i64 zr.k,.string zr.a,.string zr.b,.slice zo zr.ps.length zc] 106)).drew:=⟨_,rfl⟩;rw[<- hwd]at DX DR DP DF DW DM DB DRR DZ DZ2 DA HLK HH1 HH2;refine r! (Ext wd) (by rw[<- hwd];exact Ext.refl _) ?_;rw[<- hwd];clear hwd;have hlk:=HLK.out;have h1:=HH1.out;have h2:=HH2.out;clear HLK HH1 HH2;(refine WalkN.tk [0,1] ?_;(iterate 2 (refine c! ?_));refine TkN.n ?_)
       refine k! 2 ?_;refine k! 3 ?_;refine k! 4 ?_;refine k! 5 ?_;refine k! 6 ?_;refine k! 7 ?_;refine k! 8 ?_;refine k! 9 ?_;refine k! 10 ?_;refine k! 11 ?_;refine k! 12 ?_;refine k! 13 ?_
       refine t! 14 ?_
       refine d! ?_;clear hlk h1 h2;obtain⟨fx,hfx⟩:∃ y,y=FT.zero:=⟨_,rfl⟩;obtain⟨ps1,hps⟩:∃ y,y=(walkN ts T shut p i).1:=⟨_,rfl⟩;obtain⟨pv1,hpv⟩:∃ y,y=(Value.slice (some ⟨bq,oq,none⟩) (walkN ts T shut p i).1.length pc):=⟨_,rfl⟩;obtain⟨a1,b1,c1,e1⟩:∃ a b c,Value.slice a b c = .slice none 0 0:=⟨_,_,_,rfl⟩;obtain⟨a2,b2,c2,e2⟩:∃ a b c,Value.slice a b c = .slice none 0 0:=⟨_,_,_,rfl⟩;obtain⟨a4,b4,c4,e4⟩:∃ a b c,Value.slice a b c = .slice none 0 0:=⟨_,_,_,rfl⟩;have TST:=h! (show stepG ts T shut ⟨xt,xi,xr⟩ (walkN ts T shut p i).1=(fx,ps1)from by rw[hfx,hps];exact stepG_none (T:=T) (ps:=(walkN ts T shut p i).1) HRU.out);have TW:=h! (show WkAt wd (w2.heap.size+2) (w2.heap.size+1) w2.heap.size tv (bkV b) (.map (some w2.heap.size)) ps1 pv1 fv from by rw[hps,hpv];exact DW.out);have TR:=DRR;have TM:=DM;have TB:=DB;have TZ:=DZ;have TF:=h! (show Blk wd (wr.heap.size+1) #[.int .i64 fx.k,.slice a1 b1 c1,.slice a2 b2 c2,.slice a4 b4 c4] 128 from by rw[hfx,e1,e2,e4];exact DF.out);obtain⟨n0,hn0⟩:∃ y,y=wd.heap.size:=⟨_,rfl⟩
       have TX:=h! (show w2.heap.size+3<=n0/\(∀ g,fv.ownBlock=some g->g<n0)/\FTAt (FS n0 wd) wd fx (.slice a1 b1 c1,.slice a2 b2 c2,.slice a4 b4 c4)from by
        rw[hfx,e1,e2,e4,hn0];exact⟨DZ.out,fun g hg=>Nat.lt_of_lt_of_le (RFV.out g hg) DX.out.size,ft_zero _ _⟩)
       clear DW DRR DM DB DZ DF DX DR DP DA hfx hps hpv e1 e2 e4 hn0;have tb:=TW.out.box.cells;obtain⟨fo,fn,fc,rfl,hfn,-,-⟩:=TR.out.row.sl.len;rw[fCs_length]at hfn;obtain rfl:i=fn:=by have:=HQL.out;omega
       clear hfn;go_wp2_with fail
       clear tb;obtain⟨w7,hw7⟩:∃ y,y=wd:=⟨_,rfl⟩;rw[<- hw7]at TW TR TM TB TF TX TZ ⊢;clear hw7
      case' inr.inl =>
       have hsh:=hL.out.2;have hL:=hL.out.1;have HRU:=h! (show ruleOf ts shut ⟨xt,xi,xr⟩=none from by unfold ruleOf;rw[if_pos hsh]);rw[if_pos hsh]at HLK;rw[hL];clear HZ1 hL hsh;unfold lookV at HLK;dsimp only[Option.isSome]at HLK ⊢;go_wp2_with fail
       clear kp;obtain⟨wd,hwd⟩:∃ y,y=(w3.alloc (.cells #[.int .i64 zr.k,.string zr.a,.string zr.b,.slice zo zr.ps.length zc] 106)).drew:=⟨_,rfl⟩;rw[<- hwd]at DX DR DP DF DW DM DB DRR DZ DZ2 DA HLK HH1 HH2;refine r! (Ext wd) (by rw[<- hwd];exact Ext.refl _) ?_;rw[<- hwd];clear hwd;have hlk:=HLK.out;have h1:=HH1.out;have h2:=HH2.out;clear HLK HH1 HH2;simp only[Bool.false_eq_true,if_false]at hlk;(refine WalkN.tk [0,1,2,3,4,5,6,7,8,9,10,11,12,13,14] ?_;(iterate 15 (refine c! ?_));refine TkN.n ?_)
       refine d! ?_;clear hlk h1 h2;obtain⟨fx,hfx⟩:∃ y,y=FT.zero:=⟨_,rfl⟩;obtain⟨ps1,hps⟩:∃ y,y=(walkN ts T shut p i).1:=⟨_,rfl⟩;obtain⟨pv1,hpv⟩:∃ y,y=(Value.slice (some ⟨bq,oq,none⟩) (walkN ts T shut p i).1.length pc):=⟨_,rfl⟩;obtain⟨a1,b1,c1,e1⟩:∃ a b c,Value.slice a b c = .slice none 0 0:=⟨_,_,_,rfl⟩;obtain⟨a2,b2,c2,e2⟩:∃ a b c,Value.slice a b c = .slice none 0 0:=⟨_,_,_,rfl⟩;obtain⟨a4,b4,c4,e4⟩:∃ a b c,Value.slice a b c = .slice none 0 0:=⟨_,_,_,rfl⟩;have TST:=h! (show stepG ts T shut ⟨xt,xi,xr⟩ (walkN ts T shut p i).1=(fx,ps1)from by rw[hfx,hps];exact stepG_none (T:=T) (ps:=(walkN ts T shut p i).1) HRU.out);have TW:=h! (show WkAt wd (w2.heap.size+2) (w2.heap.size+1) w2.heap.size tv (bkV b) (.map (some w2.heap.size)) ps1 pv1 fv from by rw[hps,hpv];exact DW.out);have TR:=DRR;have TM:=DM;have TB:=DB;have TZ:=DZ;have TF:=h! (show Blk wd (wr.heap.size+1) #[.int .i64 fx.k,.slice a1 b1 c1,.slice a2 b2 c2,.slice a4 b4 c4] 128 from by rw[hfx,e1,e2,e4];exact DF.out);obtain⟨n0,hn0⟩:∃ y,y=wd.heap.size:=⟨_,rfl⟩
       have TX:=h! (show w2.heap.size+3<=n0/\(∀ g,fv.ownBlock=some g->g<n0)/\FTAt (FS n0 wd) wd fx (.slice a1 b1 c1,.slice a2 b2 c2,.slice a4 b4 c4)from by
        rw[hfx,e1,e2,e4,hn0];exact⟨DZ.out,fun g hg=>Nat.lt_of_lt_of_le (RFV.out g hg) DX.out.size,ft_zero _ _⟩)
       clear DW DRR DM DB DZ DF DX DR DP DA hfx hps hpv e1 e2 e4 hn0;have tb:=TW.out.box.cells;obtain⟨fo,fn,fc,rfl,hfn,-,-⟩:=TR.out.row.sl.len;rw[fCs_length]at hfn;obtain rfl:i=fn:=by have:=HQL.out;omega
       clear hfn;go_wp2_with fail
       clear tb;obtain⟨w7,hw7⟩:∃ y,y=wd:=⟨_,rfl⟩;rw[<- hw7]at TW TR TM TB TF TX TZ ⊢;clear hw7
      case' inr.inr =>
       have hsh:=hL.out.2;have hL:=hL.out.1;have HRU:=h! (show ruleOf ts shut ⟨xt,xi,xr⟩=some r from by unfold ruleOf;rw[if_neg hsh];exact hL);have HLR2:=h! hL;rw[if_neg hsh]at HLK;rw[hL]at HZ1;rw[hL];clear hL hsh;unfold lookV at HLK;dsimp only[Option.isSome]at HLK ⊢;go_wp2_with fail
       clear kp;obtain⟨wd,hwd⟩:∃ y,y=(w3.alloc (.cells #[.int .i64 zr.k,.string zr.a,.string zr.b,.slice zo zr.ps.length zc] 106)).drew:=⟨_,rfl⟩;rw[<- hwd]at DX DR DP DF DW DM DB DRR DZ DZ2 DA HLK HH1 HH2;refine r! (Ext wd) (by rw[<- hwd];exact Ext.refl _) ?_;rw[<- hwd];clear hwd;have hlk:=HLK.out;have h1:=HH1.out;have h2:=HH2.out;clear HLK HH1 HH2;simp only[Bool.false_eq_true,if_false]at hlk;(refine WalkN.tk [0,1,2,3,4,5,6,7,8,9,10,11,12,13,14] ?_;(iterate 15 (refine c! ?_));refine TkN.n ?_)
       refine d! ?_;clear hlk h1 h2;have HRE:=HZ1.out _ rfl;subst HRE;have HRM:=h! (look_mem HLR2.out);have HFM:=h! (form_any (w2.heap.size+2) (w2.heap.size+1) w2.heap.size b tv (.map (some w2.heap.size)) fv T ⟨xt,xi,xr⟩ w2 HXOK.out HIN.out.tok HIN.out.tlen ⟨by omega,by omega⟩ K2.out (Nat.le_refl _) zr _ (.slice zo zr.ps.length zc) (walkN ts T shut p i).1 wd (HIN.out.rok _ HRM.out) DA.out DB.out DW.out (by have h1:zr.sz*(T.length+1)+N<=1073741824:=HIN.out.room _ HRM.out;have h2:=HFEW.out;omega));have dp:=DP.out.cells;have dr:=DR.out.cells;go_wp2_with fail
       clear dp dr;refine HFM.out.mono ?_;rintro e w5 ⟨v3,pv1,rfl,hat5,hwk5,hfn5⟩;have TST:=h! (stepG_some (T:=T) (ps:=(walkN ts T shut p i).1) HRU.out);generalize formD T ⟨xt,xi,xr⟩ zr (walkN ts T shut p i).1=fd at *;obtain⟨fx,ps1⟩:=fd;obtain⟨u1,u2,u4⟩:=v3;dsimp only at hat5 hwk5 TST;obtain⟨s1,s2,-⟩:=(FTAt.iff _ _).1 hat5;obtain⟨a1,b1,c1,rfl,-,-,-⟩:=s1.len;obtain⟨a2,b2,c2,rfl,-,-,-⟩:=s2.len;obtain⟨a4,c4,rfl,-⟩:=hat5.rows;obtain⟨b4,hb4⟩:∃ y,y=fx.ps.length:=⟨_,rfl⟩;rw[<- hb4]at hat5;unfold fV;dsimp only;rw[<- hb4];clear s1 s2 hb4;have F5:=h! (hfn5.blk DW.out DF.out (by decide) (by decide));have f5c:=F5.out.cells;have f5f:=F5.out.free;have ZS:∀ y,y≠wr.heap.size+1->((((w5.setCell ⟨wr.heap.size+1,0,none⟩ (.int .i64 fx.k)).setCell ⟨wr.heap.size+1,1,none⟩ (.slice a1 b1 c1)).setCell ⟨wr.heap.size+1,2,none⟩ (.slice a2 b2 c2)).setCell ⟨wr.heap.size+1,3,none⟩ (.slice a4 b4 c4)).heap[y]?=w5.heap[y]?:=fun y hy=>by rw[Below.heap_setCell _ _ _ y hy,Below.heap_setCell _ _ _ y hy,Below.heap_setCell _ _ _ y hy,Below.heap_setCell _ _ _ y hy]
       obtain⟨w7,hw7⟩:∃ y,y=(((w5.setCell ⟨wr.heap.size+1,0,none⟩ (.int .i64 fx.k)).setCell ⟨wr.heap.size+1,1,none⟩ (.slice a1 b1 c1)).setCell ⟨wr.heap.size+1,2,none⟩ (.slice a2 b2 c2)).setCell ⟨wr.heap.size+1,3,none⟩ (.slice a4 b4 c4):=⟨_,rfl⟩;have e7:w7.heap.size=w5.heap.size:=by rw[hw7];simp
       rw[<- hw7]at ZS;have F7:=h! (show Blk w7 (wr.heap.size+1) #[.int .i64 fx.k,.slice a1 b1 c1,.slice a2 b2 c2,.slice a4 b4 c4] 128 from by rw[hw7];exact F5.out.put4 _ _ _ _);have hun:=hwk5.un F5.out (by decide) (by decide);have TW:=h! (hwk5.same (w':=w7) (ZS _ fun e=>hun.2.1 e.symm) (ZS _ fun e=>hun.2.2.1 e.symm) fun g hg=>ZS _ fun e=>hun.2.2.2 (by rw[hg,e]))
       have PK7:=h! (show PKept (WM (w2.heap.size+2) (w2.heap.size+1)) w2.heap.size wr w7 from by
        rw[hw7];have hk:=QKept.next (QKept.of (e:=32) (M:=WM (w2.heap.size+2) (w2.heap.size+1)) DX.out (by have:=RZ.out;omega)) (hfn5.pk DW.out ⟨by omega,by omega⟩)
        have hno:¬ QK 32 (WM (w2.heap.size+2) (w2.heap.size+1)) w2.heap.size wr (wr.heap.size+1):=fun h=>by
         rcases h with h | h
         ·have:=RZ.out;omega
         ·have:=h.2.1;omega
        exact(((hk.set hno _).set hno _).set hno _).set hno _)
       have TR:=h! (RR.out.keep PK7.out fun y hy=>by rcases hy with rfl | rfl <;> omega);have TM:=h! ((DM.out.same (hfn5.kept.block _ ⟨DM.out.lt,by omega,by omega,fun e=>DW.out.pts.notMap DM.out.notCells _ e rfl⟩)).same (ZS _ (by have:=RZ.out;omega)));have TB:=h! (show Below w2.heap.size w2 w7 from RB.out.trans PK7.out.below);have TZ:=h! (show w2.heap.size+3<=w7.heap.size from Nat.le_trans RZ.out PK7.out.size);have TX:=h! (show w2.heap.size+3<=wd.heap.size/\(∀ g,fv.ownBlock=some g->g<wd.heap.size)/\FTAt (FS wd.heap.size w7) w7 fx (.slice a1 b1 c1,.slice a2 b2 c2,.slice a4 b4 c4)from⟨DZ.out,fun g hg=>Nat.lt_of_lt_of_le (RFV.out g hg) DX.out.size,(hat5.same fun y hy=>ZS y (by have:=hy.1;have:=DZ2.out;omega)).mono fun y hy=>⟨hy.1,by rw[e7];exact hy.2.1,fun cs=>by rw[ZS y (by have:=hy.1;have:=DZ2.out;omega)];exact hy.2.2 cs⟩⟩);have TF:=F7;clear HFM hat5 hwk5 hfn5 hun ZS e7 F7 PK7 DW DRR DM DB DZ DZ2 DF DX DR DP DA F5;obtain⟨n0,hn0⟩:∃ y,y=wd.heap.size:=⟨_,rfl⟩;rw[<- hn0]at TX;clear hn0;subst hw7;have tb:=TW.out.box.cells;obtain⟨fo,fn,fc,rfl,hfn,-,-⟩:=TR.out.row.sl.len;rw[fCs_length]at hfn;obtain rfl:i=fn:=by have:=HQL.out;omega
       clear hfn;go_wp2_with fail
       clear tb f5c f5f;obtain⟨w7,hw7⟩:∃ y,y=((((w5.setCell ⟨wr.heap.size+1,0,none⟩ (.int .i64 fx.k)).setCell ⟨wr.heap.size+1,1,none⟩ (.slice a1 b1 c1)).setCell ⟨wr.heap.size+1,2,none⟩ (.slice a2 b2 c2)).setCell ⟨wr.heap.size+1,3,none⟩ (.slice a4 b4 c4)):=⟨_,rfl⟩;rw[<- hw7]at TW TR TM TB TF TX TZ ⊢;clear hw7
      all_goals
       obtain⟨wq,hwq⟩:∃ x:World,x=World.drew w7:=⟨_,rfl⟩;have QX:=h! (show Ext w7 wq from by rw[hwq];exact Ext.drew _);have QW:=h! (TW.out.ext QX.out);have QF:=h! (TF.out.below QX.out);have QR:=h! (TR.out.ext QX.out);have QM:=h! (TM.out.below QX.out);have QB:=h! (show Below w2.heap.size w2 wq from TB.out.trans (QX.out.mono (by have:=TZ.out;omega)));have QZ:=h! (show w2.heap.size+3<=wq.heap.size from Nat.le_trans TZ.out QX.out.size);have QN:=h! (TX.out.1);have QV:=h! (TX.out.2.1);have QA:=h! ((TX.out.2.2.same fun y hy=>QX.out.block y hy.2.1).mono (S':=FS n0 wq) fun y hy=>hy.ext QX.out);refine region_walkS (fun j=>decide (9<=j)) (fun W=>Blk W (w2.heap.size+2) #[tv,bkV b,.map (some w2.heap.size),.map (some (w2.heap.size+1)),pv1,.slice fo i fc,.int .i64 0] 251/\Blk W (wr.heap.size+1) #[.int .i64 fx.k,.slice a1 b1 c1,.slice a2 b2 c2,.slice a4 b4 c4] 128) (by rw[<- hwq];exact⟨QW.out.box,QF.out⟩) (by kernel_rfl) (by kernel_rfl) (fun _ _ d _ _ h=>by cases d <;> exact h) ?_;rw[<- hwq];clear hwq TW TR TM TB TF TX QX;have h1:=fun W (h:Blk W (w2.heap.size+2) #[tv,bkV b,.map (some w2.heap.size),.map (some (w2.heap.size+1)),pv1,.slice fo i fc,.int .i64 0] 251/\Blk W (wr.heap.size+1) #[.int .i64 fx.k,.slice a1 b1 c1,.slice a2 b2 c2,.slice a4 b4 c4] 128)=>h.1.cells;have h2:=fun W (h:Blk W (w2.heap.size+2) #[tv,bkV b,.map (some w2.heap.size),.map (some (w2.heap.size+1)),pv1,.slice fo i fc,.int .i64 0] 251/\Blk W (wr.heap.size+1) #[.int .i64 fx.k,.slice a1 b1 c1,.slice a2 b2 c2,.slice a4 b4 c4] 128)=>h.2.cells;(refine WalkS.tk [0,1,2,3,4,5,6] ?_;(iterate 7 (refine z! ?_));refine TkS.n ?_)
       clear h1 h2;have hx3:=Ext.alloc wq (.cells #[.int .i64 0,.slice none 0 0,.slice none 0 0,.slice none 0 0] 128);refine oS! 7 ?_;refine b! ?_;intro K hK;go_simp;refine hK.out _ _ ⟨QW.out.box.below hx3,QF.out.below hx3⟩ ?_;clear hK;have HII:=h! (show i<=1073741823 from by have h1:=HFEW.out;have h2:=HIN.out.nmax;have h3:=HLE.out;omega);refine oS! 8 ?_;refine b! ?_;intro K hK;refine wp_ownw formsT (.tmp 122) (.tmp 125) rfl rfl (QR.out.row.below hx3) (m:=1) (news:=[.int .i64 0,.slice none 0 0,.slice none 0 0,.slice none 0 0]) rfl rfl (fun j u hu=>?_) (by simp[Value.oneCell']) (by have:=HQL.out;have:=HII.out;rw[fCs_length];simp;omega) (by have:=HQL.out;have:=HII.out;rw[fCs_length];simp;omega) (by have:=QZ.out;simp;omega) (fun v6 w6 hown6 hb6 hg6=>?_)
       ·rw[Addr.add_lit,cell_of_row _ wq.heap.size (0+j) #[.int .i64 0,.slice none 0 0,.slice none 0 0,.slice none 0 0] 128 (0,0) (heap_alloc_new wq _),Nat.zero_add];simpa using hu
       obtain⟨g,n6,c6,rfl⟩:∃ g n c,v6 = .slice (some ⟨g,0,none⟩) n c:=by
        rcases hown6.shape with⟨_,h⟩ | h
        ·simp at h
        ·exact h
       obtain rfl:n6=i+1:=by
        obtain⟨a,b,c,h1,h2,-,-⟩:=hown6.sl.len;cases h1;rw[List.length_append,fCs_length,HQL.out]at h2;simp at h2;omega
       have B6:=h! (show Blk w6 (w2.heap.size+2) _ _ from(hg6.block _ (QW.out.box.below hx3).lt fun e=>by have:=(QR.out.row.block _ e.symm).1;omega).trans (QW.out.box.below hx3));have F6:=h! (show Blk w6 (wr.heap.size+1) _ _ from(hg6.block _ (QF.out.below hx3).lt fun e=>by have:=RFV.out _ e.symm;omega).trans (QF.out.below hx3));obtain⟨cur,hcur⟩:=hown6.typed (g:=g) rfl;have HG6:=h! (show Blk w6 g cur 128 from hcur)
       have HGW:=h! (show g≠w2.heap.size+2 from fun e=>by
        have h1:w6.heap[w2.heap.size+2]?=_:=B6.out;rw[<- e,hcur]at h1;injection h1 with h1
        injection h1 with _ h1 _
        exact absurd h1 (by decide))
       have HO6:=h! hown6;have HB6:=h! hb6;have HS6:=h! hg6;have HX3:=h! hx3;refine hK.out _ _ ⟨B6.out,F6.out⟩ ?_;clear hK hx3 hown6 hb6 hg6 hcur;simp only[Act.put,pA,pZ,pS];have hi6:(i:Int)<(i:Int)+1:=by omega
       refine WalkS.rest (by kernel_rfl) ?_;(refine WalkN.tk [9,11,12,13] ?_;(iterate 4 (refine c! ?_));refine TkN.n ?_)
       refine p! 10 14 ?_ ?_
       ·refine b! ?_;intro K hK;have hgf:=HG6.out.free;obtain⟨k0,k1,k2,k3⟩:=four_cells HO6.out (k:=i*4) (by rw[fCs_length,HQL.out]);go_simp;clear hgf k0 k1 k2 k3;refine hK.out _ _ trivial ?_;clear hK;have HO7:=h! (Own.setForm (p := .int .i64 0) HO6.out (k:=i*4) (by rw[fCs_length,HQL.out]) (.int .i64 fx.k) (.slice a1 b1 c1) (.slice a2 b2 c2) (.slice a4 b4 c4));have B7:=h! (show Blk (World.setForm w6 g (i*4) (.int .i64 fx.k) (.slice a1 b1 c1) (.slice a2 b2 c2) (.slice a4 b4 c4)) (w2.heap.size+2) _ _ from(setForm_other _ _ _ _ _ _ _ (Ne.symm HGW.out)).trans B6.out);have hbf:∀ j,(World.setForm w6 g (i*4) (.int .i64 fx.k) (.slice a1 b1 c1) (.slice a2 b2 c2) (.slice a4 b4 c4)).frozen? ⟨w2.heap.size+2,j,none⟩=false:=B7.out.free;have hbc:=B7.out.cells;unfold World.setForm at hbf hbc;refine o! 14 ?_;refine b! ?_;intro K hK;go_simp;refine hK.out _ _ trivial ?_;clear hK hbf hbc;refine d! ?_;have ES:=h! (step_ok (ash:=w2.heap.size) (wz:=w2) (B:=w2.heap.size) (lo:=w2.heap.size+3) (w8:=(World.setForm w6 g (i*4) (.int .i64 fx.k) (.slice a1 b1 c1) (.slice a2 b2 c2) (.slice a4 b4 c4)).setCell ⟨w2.heap.size+2,5,none⟩ (.slice (some ⟨g,0,none⟩) (i+1) c6)) (v:=(.slice a1 b1 c1,.slice a2 b2 c2,.slice a4 b4 c4)) QW.out QR.out QM.out QB.out (by omega) ⟨by omega,by omega,by omega⟩ ⟨by omega,by omega⟩ QZ.out QA.out QN.out QV.out (by omega) HX3.out HS6.out HB6.out (Own.setBox HO7.out B7.out (by decide) _) (B7.out.set_to 5 _ rfl) (fun y h1 h2=>(Below.heap_setCell _ _ _ y h2).trans (setForm_other _ _ _ _ _ _ _ h1)) (by rw[show ∀ (x:World) a v,(x.setCell a v).heap.size=x.heap.size from fun x a v=>by simp,setForm_size]) ⟨rfl,rfl,rfl⟩);have EZ:=h! (show w2.heap.size+3<=((World.setForm w6 g (i*4) (.int .i64 fx.k) (.slice a1 b1 c1) (.slice a2 b2 c2) (.slice a4 b4 c4)).setCell ⟨w2.heap.size+2,5,none⟩ (.slice (some ⟨g,0,none⟩) (i+1) c6)).heap.size from by have h1:=HX3.out.size;have h2:=HS6.out.size;have h3:=QZ.out;rw[show ∀ (x:World) a v,(x.setCell a v).heap.size=x.heap.size from fun x a v=>by simp,setForm_size];omega);unfold World.setForm at ES EZ;clear HO7 B7 B6 F6 HG6 HGW HO6 HB6 HS6 HX3 QW QF QR QM QB QZ QN QV QA;have hii:=HII.out;go_wp2_with fail
        go_roundw
        case rel=>exact⟨i+1,_,pv1,_,by go_num,HA.out,by rw[HNX.out,TST.out];exact ES.out,by rw[HNX.out,TST.out,List.map_append,RQ.out];rfl,EZ.out⟩
        case measure=>have h1:=HFEW.out;have h2:=HENDL.out;simp[intOf];omega
       ·refine b! ?_;intro K hK;have hbf:=B6.out.free;have hbc:=B6.out.cells;go_simp;clear hbf hbc;refine hK.out _ _ trivial ?_;clear hK;have B7:=h! (B6.out.set_to (cs':=#[tv,bkV b,.map (some w2.heap.size),.map (some (w2.heap.size+1)),pv1,.slice (some ⟨g,0,none⟩) (i+1) c6,.int .i64 0]) 5 (.slice (some ⟨g,0,none⟩) (i+1) c6) rfl);have HO7:=h! (Own.setBox (i:=5) HO6.out B6.out (by decide) (.slice (some ⟨g,0,none⟩) (i+1) c6));have HG7:=h! (HG6.out.other (a:=⟨w2.heap.size+2,5,none⟩) HGW.out (.slice (some ⟨g,0,none⟩) (i+1) c6));have hgf:=HG7.out.free;obtain⟨k0,k1,k2,k3⟩:=four_cells HO7.out (k:=i*4) (by rw[fCs_length,HQL.out]);refine o! 10 ?_;refine b! ?_;intro K hK;go_simp;refine hK.out _ _ trivial ?_;clear hK hgf k0 k1 k2 k3;refine d! ?_;have ES:=h! (step_ok (ash:=w2.heap.size) (wz:=w2) (B:=w2.heap.size) (lo:=w2.heap.size+3) (w8:=World.setForm (w6.setCell ⟨w2.heap.size+2,5,none⟩ (.slice (some ⟨g,0,none⟩) (i+1) c6)) g (i*4) (.int .i64 fx.k) (.slice a1 b1 c1) (.slice a2 b2 c2) (.slice a4 b4 c4)) (v:=(.slice a1 b1 c1,.slice a2 b2 c2,.slice a4 b4 c4)) QW.out QR.out QM.out QB.out (by omega) ⟨by omega,by omega,by omega⟩ ⟨by omega,by omega⟩ QZ.out QA.out QN.out QV.out (by omega) HX3.out HS6.out HB6.out (Own.setForm HO7.out (k:=i*4) (by rw[fCs_length,HQL.out]) _ _ _ _) ((setForm_other _ _ _ _ _ _ _ (Ne.symm HGW.out)).trans B7.out) (fun y h1 h2=>(setForm_other _ _ _ _ _ _ _ h1).trans (Below.heap_setCell _ _ _ y h2)) (by rw[setForm_size];simp) ⟨rfl,rfl,rfl⟩);have EZ:=h! (show w2.heap.size+3<=(World.setForm (w6.setCell ⟨w2.heap.size+2,5,none⟩ (.slice (some ⟨g,0,none⟩) (i+1) c6)) g (i*4) (.int .i64 fx.k) (.slice a1 b1 c1) (.slice a2 b2 c2) (.slice a4 b4 c4)).heap.size from by have h1:=HX3.out.size;have h2:=HS6.out.size;have h3:=QZ.out;rw[setForm_size];simp;omega);unfold World.setForm at ES EZ;clear HO7 B7 HG7 B6 F6 HG6 HGW HO6 HB6 HS6 HX3 QW QF QR QM QB QZ QN QV QA;have hii:=HII.out;go_wp2_with fail
        go_roundw
        case rel=>exact⟨i+1,_,pv1,_,by go_num,HA.out,by rw[HNX.out,TST.out];exact ES.out,by rw[HNX.out,TST.out,List.map_append,RQ.out];rfl,EZ.out⟩
        case measure=>have h1:=HFEW.out;have h2:=HENDL.out;simp[intOf];omega
    ·have HE:=h! (HEND.out (by have:=HLE.out;omega));obtain⟨po,pn,pc,rfl,-,-,-⟩:=RW.out.pts.sl.len;obtain⟨fo,fn,fc,rfl,-,-,-⟩:=RR.out.row.sl.len
     have hpl:pn=(walkN ts T shut p i).1.length:=by
      have h:=RW.out.pts.sl.len;obtain⟨a1,a2,a3,h1,h2,-,-⟩:=h;cases h1;rw[pcs_length]at h2;omega
     subst hpl;have hle:=HLE.out;generalize hlen:(walkN ts T shut p i).1.length=len at *;have g2:¬ ((i:Int)<(len:Int)):=by omega
     have c1:=RW.out.box.cells;have c2:=RG.out.cells;have c3:=RG.out.free;go_wp2_with fail
     clear c1 c2 c3;have ZS:∀ y,y≠w.heap.size+2->((wr.setCell ⟨w.heap.size+2,0,none⟩ (.slice po len pc)).setCell ⟨w.heap.size+2,1,none⟩ (.slice fo fn fc)).heap[y]?=wr.heap[y]?:=fun y hy=>by rw[Below.heap_setCell _ _ _ y hy,Below.heap_setCell _ _ _ y hy]
     have XE:Ext w ((wr.setCell ⟨w.heap.size+2,0,none⟩ (.slice po len pc)).setCell ⟨w.heap.size+2,1,none⟩ (.slice fo fn fc)):=((X2.out.trans RB.out:Below w.heap.size w wr).setCell (p:=⟨w.heap.size+2,0,none⟩) (by show w.heap.size<=w.heap.size+2;omega) _).setCell (p:=⟨w.heap.size+2,1,none⟩) (by show w.heap.size<=w.heap.size+2;omega) _;have GE:=(RG.out.set_to (cs':=#[.slice po len pc,.slice none 0 0]) 0 (.slice po len pc) rfl).set_to (cs':=#[.slice po len pc,.slice fo fn fc]) 1 (.slice fo fn fc) rfl;refine bodyPost_ret (v := .tuple #[.agg #[.slice po len pc,.slice fo fn fc],.int .i64 0]) ?_ rfl ⟨XE,.inl ⟨i,.slice po len pc,.slice fo fn fc,HE.out,rfl,?_,?_⟩⟩
     ·rw[results_cell_tmp rfl];have hl:=run_loadVar_row (P:=Tryz.prog) _ (w.heap.size+2) _ 96 _ _ _ GE Tryz.underlying96 rfl (by kernel_rfl);simp[asAddr,hl,Result.andThen]
     ·exact(RW.out.pts.sl.same fun y hy=>ZS y (by have:=hy.1;have:=Z2.out;omega)).mono fun y hy=>⟨by have:=hy.1;have:=Z2.out;omega,by simpa using hy.2⟩
     ·obtain⟨q',h1,h2,h3⟩:=RR.out.forms;refine⟨q',h1.trans RQ.out,fun y hy=>((h2 y hy).same fun z hz=>ZS z (by have:=hz.1;have:=Z2.out;omega)).mono fun z hz=>⟨by have:=hz.1;have:=Z2.out;omega,by simpa using hz.2.1⟩,(h3.same fun z hz=>ZS z (by have:=hz.1;have:=Z2.out;omega)).mono fun z hz=>⟨by have:=hz.1;have:=Z2.out;omega,by simpa using hz.2.1⟩⟩
end Go.Proofs.YtlhaghoajpglaaaGreat
