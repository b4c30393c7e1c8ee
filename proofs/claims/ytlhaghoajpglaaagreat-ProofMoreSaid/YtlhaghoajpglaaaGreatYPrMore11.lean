/- Lemmas for the claim, no condition. -/
import Derived.Test.YtlhaghoajpglaaaGreatYPrMore10
import Derived.Test.YtlhaghoajpglaaaGreatYPrMore5
set_option maxRecDepth 100000
set_option maxHeartbeats 8000000
namespace Go.Proofs.YtlhaghoajpglaaaGreat
open Go Go.Maps Go.RowKit Go.Proofs.Tryz
theorem cK! {S:Nat->Prop}(ts:List TyS)(tv:Value)(ty rel:ByteArray)(w:World)(hS:∀x,S x->x<w.heap.size)(h:ou! S w ts tv)(hok:∀t∈ts,t.Ok)(hu:aK! ts=true)(hsz:(ab! ts).length<=1099511627776)(hty:ty.size<=maxLen)(hrel:rel.size<=maxLen) :
  Calls prog 133 #[.agg #[tv],.string ty,.string rel] w fun e w'=>∃z:RV,e= .returned (.tuple #[rvV z,.bool (lookA (ab! ts) ⟨ty,rel⟩).isSome])/\RTAt S w' z.1 z.2/\(∀r,lookA (ab! ts) ⟨ty,rel⟩=some r->z.1=r)/\(lookA (ab! ts) ⟨ty,rel⟩=none->z=(.mk 0 ByteArray.empty ByteArray.empty [],.slice none 0 0))/\Below w.heap.size w w':=by
 have d:Ext w ((w.alloc (.cells #[tv] 26)).alloc (.cells #[.int .i64 0,.string ByteArray.empty,.string ByteArray.empty,.slice none 0 0] 106)):=(Ext.alloc _ _).trans (Ext.alloc _ _);have HX:=h! d;have HO:=h! (ii! (S:=S) ts tv _ (fun x hx=>n1! (hS x hx) d.size) (h.same ((Same.below d).mono hS)) hok hu hsz);have E:=h! hS;have a5:=((Blk.made w #[tv] 26).alloc (.cells #[.int .i64 0,.string ByteArray.empty,.string ByteArray.empty,.slice none 0 0] 106)).cells;have HR:=h! (Blk.made' (w:=w.alloc (.cells #[tv] 26)) (B:=w.heap.size+1) (by simp) #[.int .i64 0,.string ByteArray.empty,.string ByteArray.empty,.slice none 0 0] 106);have hR:=HR.out.cells;clear h hok hu hsz d hS;go_enter func133,ntmps133
 go_wp2_with fail
 refine HO.out.mono ?_;rintro e F ⟨b1,b2,b3,rfl,y,g⟩;obtain⟨z,j,c,s,o⟩:=y.R.look ⟨ty,rel⟩ ⟨hty,hrel⟩;obtain⟨H,G,l,-⟩:=c.rows;have HZ:=h! (And.intro s o);have a1:=h! c;have a4:=h! l;have q:=h! (Ext.trans HX.out g);have n:=h! (HR.out.below g);have a3:Hid (w.heap.size+1<F.heap.size):=h! n.out.lt;generalize hokk:(lookA (ab! ts) ⟨ty,rel⟩).isSome=ok at *;have i:=h! hokk;clear hokk;unfold rvV rV r2V at j;dsimp only at j;rw[l]at j;have h3:Ext F (F.alloc (.cells #[.int .i64 z.1.k,.string z.1.a,.string z.1.b,.slice H z.1.ps.length G] 106)):=Ext.alloc _ _;have f:=h! (n.out.below h3);have C:=h! h3;have r3:=f.out.cells;have f3:=f.out.free;have a8:∀W:World,(Instr.field 229 (.agg #[.map (some b1),.map (some b2),.map (some b3)]) 0).run prog W= .ok (.map (some b1)) W:=fun _=>by kernel_rfl
 obtain⟨w3,a6⟩:=e! (F.alloc (.cells #[.int .i64 z.1.k,.string z.1.a,.string z.1.b,.slice H z.1.ps.length G] 106));have a9:w.heap.size+1≠F.heap.size:=by have:=a3.out;omega
 have D:=f.out.set_to 0 (.int .i64 z.1.k) rfl;have u:=D.set_to 1 (.string z.1.a) rfl;have p:=u.set_to 2 (.string z.1.b) rfl;have m:=p.set_to 3 (.slice H z.1.ps.length G) rfl;have a0:=h! m
 have A:∀x,x≠w.heap.size+1->(((((F.alloc (.cells #[.int .i64 z.1.k,.string z.1.a,.string z.1.b,.slice H z.1.ps.length G] 106)).setCell ⟨w.heap.size+1,0,none⟩ (.int .i64 z.1.k)).setCell ⟨w.heap.size+1,1,none⟩ (.string z.1.a)).setCell ⟨w.heap.size+1,2,none⟩ (.string z.1.b)).setCell ⟨w.heap.size+1,3,none⟩ (.slice H z.1.ps.length G)).heap[x]?=(F.alloc (.cells #[.int .i64 z.1.k,.string z.1.a,.string z.1.b,.slice H z.1.ps.length G] 106)).heap[x]?:=fun x hx=>by
  rw[Below.heap_setCell _ _ _ x hx,Below.heap_setCell _ _ _ x hx,Below.heap_setCell _ _ _ x hx,Below.heap_setCell _ _ _ x hx]
 have a2:=h! A;have a7:=h! (show Below w.heap.size w (((((F.alloc (.cells #[.int .i64 z.1.k,.string z.1.a,.string z.1.b,.slice H z.1.ps.length G] 106)).setCell ⟨w.heap.size+1,0,none⟩ (.int .i64 z.1.k)).setCell ⟨w.heap.size+1,1,none⟩ (.string z.1.a)).setCell ⟨w.heap.size+1,2,none⟩ (.string z.1.b)).setCell ⟨w.heap.size+1,3,none⟩ (.slice H z.1.ps.length G))from((((Ext.trans q.out C.out:Ext w _).setCell (by show w.heap.size<=w.heap.size+1;omega) _).setCell (by show w.heap.size<=w.heap.size+1;omega) _).setCell (by show w.heap.size<=w.heap.size+1;omega) _).setCell (by show w.heap.size<=w.heap.size+1;omega) _);clear HO a5 hR y g s o c l h3 D u p m A a6;go_wp2_with fail
 refine bodyPost_ret (v := .tuple #[.agg #[.int .i64 z.1.k,.string z.1.a,.string z.1.b,.slice H z.1.ps.length G],.bool ok]) ?_ rfl ⟨z,?_,?_,HZ.out.1,HZ.out.2,a7.out⟩
 ·rw[results_cell_tmp rfl];have hl:=run_loadVar_row (P:=prog) _ (w.heap.size+1) _ 106 _ _ _ a0.out Tryz.underlying106 rfl (by kernel_rfl);simp[asAddr,hl,Result.andThen]
 ·unfold rvV rV;rw[a4.out,i.out]
 ·exact(a1.out.same fun x hx=>C.out.block x (n1! (E.out x hx) q.out.size)).same fun x hx=>a2.out x (by have:=E.out x hx;omega)
section
variable {P : Program} {ops : Array Oper} {Q : Exit -> Act -> World -> Prop} {S : World -> Prop} {late : Nat -> Bool}
def gC! (P:Program)(ops:Array Oper)(Q:Exit->Act->World->Prop)(S:World->Prop)(late:Nat->Bool):Nat->Array Bool->Act->World->Prop
 | 0,l,a,w=>Region.ready .any ops l=[]/\Q .normal a w
 | f+1,l,a,w=>(Region.ready .any ops l=[]->Q .normal a w) /\
   ∀i∈Region.ready .any ops l,wpOp P ops Q i (fun a' w'=>(late i=false->S w')/\gC! P ops Q S late f (l.setIfInBounds i true) a' w') a w
theorem ev!:∀(f:Nat)(l:Array Bool)(a:Act)(w:World),gC! P ops Q S late f l a w->wpAny P .any ops Q f l a w
 | 0,_,_,_,h=>h
 | f+1,_,_,_,h=>⟨h.1,fun i hi=>wpOp_mono (fun a' w' k=>ev! f _ a' w' k.2) (h.2 i hi)⟩
def early (ops:Array Oper)(late:Nat->Bool)(i:Nat):Bool:=(List.range ops.size).all fun j=>!late j||ahead ops ops.size i j
theorem gB! {i:Nat}{oi:Oper}{v:Value}(hi:ops[i]?=some oi)(hsel:Region.noSelect ops=true)
  (hQ:∀c a w,Q (.panic c) (Act.put a oi.dst v) w->Q (.panic c) a w) (hL:early ops late i=true) :
  ∀(f:Nat) (l:Array Bool) (a:Act) (w:World),oh! ops l ->
   (∀j oj,ops[j]?=some oj->j≠i->l.getD j true=false->(∀e∈oj.after,Region.binds .any e=true->e.on≠i)->oi.apart ops oj=true) ->
   i∈Region.ready .any ops l->YieldsIf P ops S oi v a->S w->gC! P ops Q S late f (l.setIfInBounds i true) (a.put oi.dst v) w->gC! P ops Q S late (f+1) l a w:=by
 intro f;induction f with
 | zero =>
  intro l a w _ _ hr hy hS H;refine⟨fun h=>(by rw[h]at hr;cases hr),fun j hj=>?_⟩;by_cases hji:j=i
  ·subst hji;exact hy.wpOp hi hS ⟨fun _=>hS,H⟩
  ·have:=ready_mono hj hji;rw[H.1]at this;cases this
 | succ f ih =>
  intro l a w hc hfree hr hy hS H;refine⟨fun h=>(by rw[h]at hr;cases hr),fun j hj=>?_⟩;by_cases hji:j=i
  ·subst hji;exact hy.wpOp hi hS ⟨fun _=>hS,H⟩
  ·obtain⟨p,oj,n,g⟩:=mem_ready.1 hj;have d:=(mem_ready.1 hr).1
   have a0:late j=false:=by
    cases hlj:late j with
    | false=>rfl
    | true =>
     have a1:j<ops.size:=(x7!.1 n).1;have ha:=u8!.1 hL j (List.mem_range.2 a1);rw[hlj]at ha;simp only[Bool.not_true,Bool.false_or]at ha;exact(cQ! d (bR! hc ops.size i j ha fun o ho e he hb=>by rw[n]at ho;cases ho;exact g e he hb)).elim
   have q:∀e∈oj.after,Region.binds .any e=true->e.on≠i:=fun e he hb heq=>cQ! d (heq▸g e he hb);have h2:=wpOp_putIf n (hfree j oj n hji p q) (fun cs b=>Region.noSelect_spec hsel i oi cs b hi) (fun cs b=>Region.noSelect_spec hsel j oj cs b n) hQ hy (H.2 j (ready_mono hj hji));refine wpOp_mono (fun a' w' k=>⟨k.2.1,ih (l.setIfInBounds j true) a' w' (hc.set hj) (fun m om hom hmi hun hno=>?_) (ready_mono hr (Ne.symm hji)) k.1 (k.2.1 a0) ?_⟩) h2
   ·refine hfree m om hom hmi ?_ hno;by_cases hjm:j=m
    ·exact hjm▸p
    ·rwa[getD_set_ne true hjm]at hun
   ·rw[Array.setIfInBounds_comm _ _ hji];exact k.2.2
def dB! (ops:Array Oper)(late:Nat->Bool)(l:Array Bool):Bool:=(List.range ops.size).all fun j=>l.getD j false||late j
theorem iC! {l:Array Bool}(h:dB! ops late l=true) {i:Nat}(hi:i∈Region.ready .any ops l):late i=true:=by
 obtain⟨a0,o,ho,_⟩:=mem_ready.1 hi;have h1:=u8!.1 h i (List.mem_range.2 (x7!.1 ho).1);rcases Bool.or_eq_true_iff.1 h1 with h2 | h2
 ·exact(cQ! a0 h2).elim
 ·exact h2
theorem lR! {l:Array Bool}(h:dB! ops late l=true)(i:Nat):dB! ops late (l.setIfInBounds i true)=true:=by
 refine u8!.2 fun j hj=>?_;rcases Bool.or_eq_true_iff.1 (u8!.1 h j hj)with h2 | h2
 ·exact Bool.or_eq_true_iff.2 (.inl (getD_set_true h2))
 ·exact Bool.or_eq_true_iff.2 (.inr h2)
theorem do!:∀(f:Nat)(l:Array Bool)(a:Act)(w:World),dB! ops late l=true->wpAny P .any ops Q f l a w->gC! P ops Q S late f l a w
 | 0,_,_,_,_,h=>h
 | f+1,l,a,w,hl,h=>⟨h.1,fun i hi=>wpOp_mono (fun a' w' k=>⟨fun e=>(by rw[iC! hl hi]at e;cases e),do! f _ a' w' (lR! hl i) k⟩) (h.2 i hi)⟩
def WalkS (P:Program)(ops:Array Oper)(Q:Exit->Act->World->Prop)(S:World->Prop)(late:Nat->Bool):Nat->Array Bool->Act->World->Prop
 | 0,l,a,w=>Region.ready .any ops l=[]/\Q .normal a w
 | f+1,l,a,w=>(dB! ops late l=true/\WalkN P ops Q (fun _=>True) (f+1) l a w) \/
   (∃i o v,ops[i]?=some o/\Region.free .any ops l i=true/\(Region.ready .any ops l).contains i=true/\early ops late i=true/\YieldsIf P ops S o v a/\WalkS P ops Q S late f (l.setIfInBounds i true) (a.put o.dst v) w) \/
   (Region.ready .any ops l≠[]/\∀i∈Region.ready .any ops l,∃o,ops[i]?=some o/\∀K':Act->World->Prop,Shut (∀a' w',S w'->WalkS P ops Q S late f (l.setIfInBounds i true) a' w'->K' a' w') ->
    if Region.wanted o (yielded ops a.tmps)=true then Oper.wp P o a w K' Q else K' (a.put o.dst undef) w)
theorem ck! (hns:Region.noSelect ops=true)(hQ:∀c a d v w,Q (.panic c) (Act.put a d v) w->Q (.panic c) a w) :
  ∀(f:Nat) (l:Array Bool) (a:Act) (w:World),oh! ops l->S w->WalkS P ops Q S late f l a w->gC! P ops Q S late f l a w
 | 0,_,_,_,_,_,h=>h
 | f+1,l,a,w,hc,hs,h=>by
  rcases h with⟨hl,h⟩|⟨i,o,v,ho,hf,hr,hL,hy,h⟩|⟨hne,h⟩
  ·exact do! _ l a w hl (wpAny_of_held _ _ _ _ (bH! hns hQ _ l a w trivial h))
  ·exact gB! ho hns (fun c a w=>hQ c a _ _ w) hL f l a w hc (Region.free_spec ho hf) (by simpa using hr) hy hs (ck! hns hQ f _ _ w (hc.set (by simpa using hr)) hs h)
  ·refine⟨fun e=>absurd e hne,fun i hi=>?_⟩;obtain⟨o,ho,hst⟩:=h i hi;exact wpOp_step ho (fun K' hK=>hst K' (fun a' w' he hw=>hK a' w' ⟨fun _=>he,ck! hns hQ f _ a' w' (hc.set hi) he hw⟩))
theorem av! {id:Nat}{a:Act}{w:World}(late:Nat->Bool)(S:World->Prop)(hS:S w.drew)(hm:P.follows .mixedOrders=true)(hns:Region.noSelect ops=true)(hQ:∀c a d v w,Q (.panic c) (Act.put a d v) w->Q (.panic c) a w)
  (h:WalkS P ops Q S late ops.size (Array.replicate ops.size false) a w.drew):(Code.region id ops true).wp P Q a w :=
 wp_region_any hm (ev! _ _ _ _ (ck! hns hQ _ _ a w.drew (oh!.start _ _) hS h))
theorem WalkS.take {f:Nat}{l:Array Bool}{a:Act}{w:World}(i:Nat)(o:Oper)(v:Value)(ho:ops[i]?=some o)(hf:Region.free .any ops l i=true)(hr:(Region.ready .any ops l).contains i=true)(hL:early ops late i=true)
  (hw:Region.wanted o (yielded ops a.tmps)=true) (hy:∀W,S W->(execOp a.eval o).run P W= .ok (.value v) W) (h:WalkS P ops Q S late f (l.setIfInBounds i true) (a.put o.dst v) w):WalkS P ops Q S late (f+1) l a w :=
 .inr (.inl ⟨i,o,v,ho,hf,hr,hL,.inl ⟨hw,hy⟩,h⟩)
def TkS (P:Program)(ops:Array Oper)(Q:Exit->Act->World->Prop)(S:World->Prop)(late:Nat->Bool):List Nat->Nat->Array Bool->Act->World->Prop
 | [],f,l,a,w=>WalkS P ops Q S late f l a w
 | i::is,f,l,a,w=>∃g,f=g+1/\∃o v,ops[i]?=some o/\Region.free .any ops l i=true/\(Region.ready .any ops l).contains i=true/\early ops late i=true/\Region.wanted o (yielded ops a.tmps)=true/\(∀W,S W->(execOp a.eval o).run P W= .ok (.value v) W)/\TkS P ops Q S late is g (l.setIfInBounds i true) (a.put o.dst v) w
theorem WalkS.tk (is:List Nat):∀ {f:Nat}{l:Array Bool}{a:Act}{w:World},TkS P ops Q S late is f l a w->WalkS P ops Q S late f l a w:=by
 induction is with
 | nil=>exact fun h=>h
 | cons i is ih =>
  rintro f l a w ⟨g,rfl,o,v,ho,hf,hr,hL,hw,hy,h⟩;exact WalkS.take i o v ho hf hr hL hw hy (ih h)
theorem TkS.c {f:Nat}{l:Array Bool}{a:Act}{w:World}{i:Nat}{is:List Nat}(o:Oper)(v:Value)(ho:ops[i]?=some o)(hf:Region.free .any ops l i=true)(hr:(Region.ready .any ops l).contains i=true)(hL:early ops late i=true)
  (hw:Region.wanted o (yielded ops a.tmps)=true) (hy:∀W,S W->(execOp a.eval o).run P W= .ok (.value v) W) (h:TkS P ops Q S late is f (l.setIfInBounds i true) (a.put o.dst v) w):TkS P ops Q S late (i::is) (f+1) l a w :=
 ⟨f,rfl,o,v,ho,hf,hr,hL,hw,hy,h⟩
theorem TkS.n {f:Nat}{l:Array Bool}{a:Act}{w:World}(h:WalkS P ops Q S late f l a w):TkS P ops Q S late [] f l a w:=h
def MadeS (P:Program)(ops:Array Oper)(Q:Exit->Act->World->Prop)(S:World->Prop)(late:Nat->Bool)(f:Nat)(l:Array Bool)(a:Act)(w:World)(i:Nat):Prop :=
 ∃o,ops[i]?=some o/\Region.wanted o (yielded ops a.tmps)=true/\∀K':Act->World->Prop,Shut (∀a' w',S w'->WalkS P ops Q S late f (l.setIfInBounds i true) a' w'->K' a' w')->Oper.wp P o a w K' Q
theorem WalkS.one {f:Nat}{l:Array Bool}{a:Act}{w:World}(i:Nat)(hr:Region.ready .any ops l=[i])(h:MadeS P ops Q S late f l a w i):WalkS P ops Q S late (f+1) l a w:=by
 refine .inr (.inr ⟨by rw[hr];simp,fun j hj=>?_⟩);rw[hr]at hj;obtain rfl:j=i:=by simpa using hj
 obtain⟨o,ho,hw,h⟩:=h;exact⟨o,ho,fun K hK=>by rw[if_pos hw];exact h K hK⟩
theorem WalkS.rest {f:Nat}{l:Array Bool}{a:Act}{w:World}(hl:dB! ops late l=true)(h:WalkN P ops Q (fun _=>True) (f+1) l a w):WalkS P ops Q S late (f+1) l a w := .inl ⟨hl,h⟩
end
theorem z! {P : Program}{ops : Array Oper}{Q : Exit -> Act -> World -> Prop}{S : World -> Prop}{late : Nat -> Bool}{f : Nat}{l : Array Bool}{a : Act}{w : World}{i : Nat}{is : List Nat}{o : Oper}{v : Value}{G : Prop}(h : G) (ho : ops[i]? = some o := by simp only[gA,gS,gZ];rfl) (hf : Region.free .any ops l i = true := by kernel_rfl) (hr : (Region.ready .any ops l).contains i = true := by kernel_rfl) (hL : early ops late i = true := by kernel_rfl) (hw : Region.wanted o (yielded ops a.tmps) = true := by rfl) (hy : ∀W,S W->(execOp a.eval o).run P W=.ok (.value v) W := by intro W hW;go_simp;try with_reducible rfl) (hG : TkS P ops Q S late is f (l.setIfInBounds i true) (a.put o.dst v) w = G := by simp only[Act.put,pA,pZ,pS];rfl) : TkS P ops Q S late (i :: is) (f + 1) l a w := ⟨f, rfl, o, v, ho, hf, hr, hL, hw, hy, Eq.mpr hG h⟩
theorem oS! {P : Program}{ops : Array Oper}{Q : Exit -> Act -> World -> Prop}{S : World -> Prop}{late : Nat -> Bool}{f : Nat}{l : Array Bool}{a : Act}{w : World}(i : Nat) (h : MadeS P ops Q S late f l a w i) (hr : Region.ready .any ops l = [i] := by kernel_rfl) : WalkS P ops Q S late (f + 1) l a w := WalkS.one i hr h
def shutM (l:List R2):List (R2 × Bool):=l.foldl (fun m r=>putA m r true) []
theorem eF! (l:List R2)(r:R2):shutM (l++[r])=putA (shutM l) r true:=by simp[shutM,List.foldl_append]
theorem gm! (r:R2)(l:List R2):lookA (shutM l) r=if r∈l then some true else none:=by
 suffices h:∀n,∀l:List R2,l.length=n->lookA (shutM l) r=if r∈l then some true else none from h _ l rfl
 intro n;induction n with
 | zero=>intro l h;rw[x0! h];rfl
 | succ n ih =>
  intro l h;rcases List.eq_nil_or_concat l with rfl | ⟨l',x,rfl⟩
  ·simp at h
  ·rw[List.concat_eq_append]at h ⊢;rw[eF!,cu!,ih l' (by simpa using h)];by_cases e:x=r
   ·subst e;simp
   ·have e2:¬ r=x:=fun h=>e h.symm;simp[e,e2]
theorem fT! {l:List R2}{i:Nat}(hi:i<l.length):shutM (l.take (i+1))=putA (shutM (l.take i)) l[i] true:=by
 rw[n2! hi,eF!]
structure mp! (ts:List TyS)(T:List Tup)(shut:List R2)(p:P3)(N:Nat):Prop where
 okp:∀n,∀x∈(walkN ts T shut p n).1,x.Ok
 few:∀n,(walkN ts T shut p n).1.length<=N
 room:∀x∈ab! ts,x.2.sz*(T.length+1)+N<=1073741824
 nmax:N<=1073741823
 rok:∀x∈ab! ts,x.2.Ok
 tok:∀t∈T,t.s.Ok
 tlen:T.length<=1000000
theorem Own.setAtR {w:World}{B:Nat}{e:TypeId}{sz:Nat}{g n c:Nat}{xs:List Value}(h:Own w B e sz (.slice (some ⟨g,0,none⟩) n c) xs)(i:Nat)(u:Value):Own (w.setCell ⟨g,i,none⟩ u) B e sz (.slice (some ⟨g,0,none⟩) n c) (xs.set i u):=by
 obtain⟨m,h⟩:=h;rcases h.2 with⟨hv,rfl⟩|⟨g',cap,cur,hv,hbg,hg,hnc,hcm,hcs,htake⟩
 ·cases hv
 ·cases hv;refine⟨n,by rw[List.length_set];exact h.1,.inr ⟨g,c,cur.setIfInBounds i u,rfl,hbg,heap_setCell_same w g i cur e u hg,hnc,hcm,by simpa using hcs,?_⟩⟩;rw[Array.toList_setIfInBounds,<-htake,List.take_set]
theorem lr! (xs:List Value)(a b c d p q r s:Value) {k:Nat}(hk:k=xs.length):((((xs++[p,q,r,s]).set k a).set (k+1) b).set (k+2) c).set (k+3) d=xs++[a,b,c,d]:=by
 subst hk;rw[List.set_append_right _ _ (n0! _)];rw[List.set_append_right _ _ (by omega)];rw[List.set_append_right _ _ (by omega)];rw[List.set_append_right _ _ (by omega)];simp
theorem eX! {w:World}{B:Nat}{e:TypeId}{sz:Nat}{g n c:Nat}{xs:List Value}{p q r s:Value}(h:Own w B e sz (.slice (some ⟨g,0,none⟩) n c) (xs++[p,q,r,s])) {k:Nat}(hk:k=xs.length):w.cell? ⟨g,k,none⟩=some p/\w.cell? ⟨g,k+1,none⟩=some q/\w.cell? ⟨g,k+2,none⟩=some r/\w.cell? ⟨g,k+3,none⟩=some s:=by
 obtain⟨m,h⟩:=h;have hc:=h.cells (g:=g) rfl;subst hk
 have a:∀j u,[p,q,r,s][j]?=some u->w.cell? ⟨g,xs.length+j,none⟩=some u:=fun j u hu=>by
  have:=hc (xs.length+j) u (by rw[List.getElem?_append_right (by omega)];simpa using hu);rwa[Addr.add_lit,Nat.zero_add]at this
 exact⟨a 0 p rfl,a 1 q rfl,a 2 r rfl,a 3 s rfl⟩
def World.setForm (w:World)(g k:Nat)(a b c d:Value):World:=(((w.setCell ⟨g,k,none⟩ a).setCell ⟨g,k+1,none⟩ b).setCell ⟨g,k+2,none⟩ c).setCell ⟨g,k+3,none⟩ d
theorem bd! (w:World)(g k:Nat)(a b c d:Value) {x:Nat}(hx:x≠g):(World.setForm w g k a b c d).heap[x]?=w.heap[x]?:=by
 unfold World.setForm;rw[Below.heap_setCell _ _ _ x hx,Below.heap_setCell _ _ _ x hx,Below.heap_setCell _ _ _ x hx,Below.heap_setCell _ _ _ x hx]
theorem bp! (w:World)(g k:Nat)(a b c d:Value):(World.setForm w g k a b c d).heap.size=w.heap.size:=by
 unfold World.setForm;simp
theorem Own.setForm {w:World}{B:Nat}{e:TypeId}{sz:Nat}{g n c:Nat}{xs:List Value}{p q r s:Value}(h:Own w B e sz (.slice (some ⟨g,0,none⟩) n c) (xs++[p,q,r,s])) {k:Nat}(hk:k=xs.length)(x0 x1 x2 x3:Value):Own (World.setForm w g k x0 x1 x2 x3) B e sz (.slice (some ⟨g,0,none⟩) n c) (xs++[x0,x1,x2,x3]):=by
 have:=(((h.setAtR k x0).setAtR (k+1) x1).setAtR (k+2) x2).setAtR (k+3) x3;rwa[lr! _ _ _ _ _ _ _ _ _ hk]at this
structure mq! (wz w8:World)(wp am ash lo B:Nat)(tv fi sm pv fv6:Value)(ps:List P3)(shut:List R2)(q:List (FT × FV3)):Prop where
 walk:WkAt w8 wp am B tv fi sm ps pv fv6
 row:FRow lo w8 q fv6
 shut:Mp prog 121 r2V bV w8 ash (shutM shut)
 below:Below B wz w8
theorem kB! {wz we w3 w6 w8:World}{wp am ash lo B n0:Nat}{tv fi sm pv fv:Value}{ps:List P3}{shut:List R2}{q:List (FT × FV3)}{x:FT}{v:FV3}{g n c:Nat}
  (hw:WkAt we wp am B tv fi sm ps pv fv) (hr:FRow lo we q fv) (hs:Mp prog 121 r2V bV we ash (shutM shut)) (hz:Below B wz we) (_hBz:B<=lo) (hlo:wp<lo/\am<lo/\ash<lo) (hash:ash≠wp/\ash≠am) (hlw:lo<=we.heap.size)
  (hx:FTAt (FS n0 we) we x v) (hn0:lo<=n0) (hfv:∀g,fv.ownBlock=some g->g<n0) (hBw:B<=wp)
  (h3:Ext we w3) (hg:w3.grownBy w6 fv.ownBlock) (hb:∀g',(Value.slice (some ⟨g,0,none⟩) n c).ownBlock=some g'->fv.ownBlock=some g'\/w3.heap.size<=g')
  (ho:Own w8 lo 128 4 (.slice (some ⟨g,0,none⟩) n c) (q.flatMap fC++fC (x,v))) (hbx:Blk w8 wp #[tv,fi,sm,.map (some am),pv,.slice (some ⟨g,0,none⟩) n c,.int .i64 0] 251)
  (h8:∀y,y≠g->y≠wp->w8.heap[y]?=w6.heap[y]?) (hsz:w8.heap.size=w6.heap.size) (hos:w8.os=w6.os/\w8.tape=w6.tape/\w8.output=w6.output):mq! wz w8 wp am ash lo B tv fi sm pv (.slice (some ⟨g,0,none⟩) n c) ps shut (q++[(x,v)]):=by
 have i:fv.ownBlock=some g\/w3.heap.size<=g:=hb g rfl
 have a1:lo<=g:=by
  rcases i with h | h
  ·exact(hr.row.block g h).1
  ·exact n6! (n6! hlw h3.size) h
 have h6:∀y,y<we.heap.size->fv.ownBlock≠some y->w6.heap[y]?=we.heap[y]?:=fun y hy hn=>(hg.block y (n1! hy h3.size) fun e=>hn e.symm).trans (h3.block y hy)
 have j:∀y,y<we.heap.size->fv.ownBlock≠some y->y≠g:=fun y hy hn e=>by
  subst e;rcases i with h | h
  ·exact hn h
  ·have:=h3.size;omega
 have f:∀y,y<we.heap.size->fv.ownBlock≠some y->y≠wp->w8.heap[y]?=we.heap[y]?:=fun y hy hn hp=>(h8 y (j y hy hn) hp).trans (h6 y hy hn);have d:∀y,y<lo->fv.ownBlock≠some y:=fun y hy e=>by have:=(hr.row.block y e).1;omega
 have a2:=h3.size;have a3:=hg.size;refine⟨⟨hbx,hw.num.same (f _ hw.num.lt (d _ hlo.2.1) hw.ne.symm),hw.pts.keepOwn fun y hy=>?_⟩,?_,hs.same (f _ hs.lt (d _ hlo.2.2) hash.1),?_⟩
 ·have a0:=hw.ptNe y hy;exact f y (hw.pts.block y hy).2 (fun e=>hr.row.apart hw.pts (by decide) e hy) a0.1
 ·refine⟨by rw[x9!];simpa using ho,fun y hy=>?_⟩
  have hm:∀b,(FS lo we b/\fv.ownBlock≠some b)->(FS lo w8 b/\(Value.slice (some ⟨g,0,none⟩) n c).ownBlock≠some b):=fun b hb'=>⟨⟨hb'.1.1,n1! hb'.1.2.1 (by omega),fun cs=>by rw[f b hb'.1.2.1 hb'.2 (by have:=hb'.1.1;omega)];exact hb'.1.2.2 cs⟩,fun e=>by
   injection e with e
   exact j b hb'.1.2.1 hb'.2 e.symm⟩
  have a:∀b,(FS lo we b/\fv.ownBlock≠some b)->w8.heap[b]?=we.heap[b]?:=fun b hb'=>f b hb'.1.2.1 hb'.2 (by have:=hb'.1.1;omega);rcases u3!.1 hy with hy | hy
  ·exact((hr.parts y hy).same a).mono hm
  ·obtain rfl:=n9!.1 hy;exact((hx.mono fun b hb'=>(⟨hb'.mono hn0,fun e=>by have:=hfv b e;have:=hb'.1;omega⟩:FS lo we b/\fv.ownBlock≠some b)).same a).mono hm
 ·have a4:=hz.size;refine hz.trans ⟨hos.1.trans (hg.os.trans h3.os),hos.2.1.trans (hg.tape.trans h3.tape),hos.2.2.trans (hg.output.trans h3.output),by omega,fun y hy=>f y (by omega) (d _ (by omega)) (by omega)⟩
theorem kS! (S:Nat->Prop)(w:World):FTAt S w FT.zero (.slice none 0 0,.slice none 0 0,.slice none 0 0):=(FTAt.iff _ _).2 ⟨Sl.nil _ _ _,Sl.nil _ _ _,[],rfl,(fun x hx=>by cases hx),Sl.nil _ _ _⟩
theorem eE! {ts:List TyS}{T:List Tup}{shut:List R2}{p:P3}{ps:List P3}(h:ar! ts shut p=none):stepG ts T shut p ps=(FT.zero,ps):=by unfold stepG;rw[h]
theorem hF! {ts:List TyS}{T:List Tup}{shut:List R2}{p:P3}{ps:List P3}{r:RT}(h:ar! ts shut p=some r):stepG ts T shut p ps=formD T p r ps:=by unfold stepG;rw[h]
def mo! (ts:List TyS)(T:List Tup)(shut:List R2)(p:P3)(most:Int)(w:World)(e:Ending)(w':World):Prop:=Ext w w'/\((∃n pv fv,ow! ts T shut p most n/\e= .returned (.tuple #[.agg #[pv,fv],.int .i64 0])/\GrAt (fun x=>w.heap.size<=x/\x<w'.heap.size) w' (walkN ts T shut p n).1 (walkN ts T shut p n).2 pv fv)\/(er! ts T shut p most/\e= .returned (.tuple #[.agg #[.slice none 0 0,.slice none 0 0],.int .i64 10])))
theorem WalkAt.le {ts:List TyS}{T:List Tup}{shut:List R2}{p:P3}{most:Int}{n:Nat}(h:WalkAt ts T shut p most n):n<=(walkN ts T shut p n).1.length:=by
 cases n with
 | zero=>exact v1! _
 | succ n =>
  have h1:=(h n (Nat.lt_succ_self n)).1;have h2:=dF! ts T shut p (show n<=n+1 by omega);omega
theorem jo! (ts:List TyS)(tv:Value)(b:Nat)(T:List Tup)(shut:List R2)(sv:Value)(p:P3)(most:Int)(N:Nat)(w:World)(h:ou! (· < w.heap.size) w ts tv)(hok:∀t∈ts,t.Ok)(hc:chk06 ts=0)(hsB:schB ts<=549755813888)(hsz:∀t∈ts,∀r∈t.rels,r.2.sz<=1000000)(hln:(am! ts).length<=1099511627776)(hlr:(ab! ts).length<=1099511627776)
  (hbk:of! w b T) (hsv:Sl (· < w.heap.size) w 2 sv (shut.flatMap r2C)) (hso:∀r∈shut,r.Ok) (hin:mp! ts T shut p N) :
  Calls prog 98 #[.agg #[tv],bkV b,sv,pV p,.int .i64 most] w fun e w'=>mo! ts T shut p most w e w':=by
 have a6:=h! hin;have aY:=h! hok;have bm:=h! hlr;have HU:=h! (dg! hc);have bD:=h! hso;obtain⟨ao,c,rfl,-⟩:=h.rows;obtain⟨so,sc,rfl,bi,bz,-⟩:=Sl.rows bi! (by decide) hsv;have bk:Hid (shut.length<=9223372036854775807):=h! (by omega);clear bi bz;obtain⟨wa,aG⟩:=e! (w.alloc (.cells #[.slice ao ts.length c] 26));obtain⟨wb,aH⟩:=e! (wa.alloc (.cells #[.string p.t,.string p.i,.string p.r] 32));obtain⟨wc,aK⟩:=e! (wb.alloc (.cells #[.slice none 0 0,.slice none 0 0] 96));have ea:wa.heap.size=w.heap.size+1:=by rw[aG];simp
 have eb:wb.heap.size=w.heap.size+2:=by rw[aH];simp[ea]
 have ec:wc.heap.size=w.heap.size+3:=by rw[aK];simp[eb]
 have xa:Ext w wa:=xa! aG
 have xb:Ext wa wb:=xa! aH
 have xc:Ext wb wc:=xa! aK
 have XC:Hid (Ext w wc):=h! (xa.trans (xb.trans xc));have CZ:=h! ec;have CS:=h! (show Blk wc w.heap.size #[.slice ao ts.length c] 26 from Blk.below (bm! aG) (xb.trans xc));have CP:=h! (show Blk wc (w.heap.size+1) #[.string p.t,.string p.i,.string p.r] 32 from Blk.below (by rw[aH,<-ea];exact Blk.made _ _ _) xc);have CG:=h! (show Blk wc (w.heap.size+2) #[.slice none 0 0,.slice none 0 0] 96 from by rw[aK,<-eb];exact Blk.made _ _ _);have CT:=h! (h.up XC.out);have CK:=h! (hbk.ext XC.out);have CV:=h! ((hsv.same (Same.below XC.out)).mono (T:=fun x=>x<wc.heap.size) fun x hx=>n1! hx XC.out.size)
 have bb:=h! (show Calls prog 74 #[.agg #[.slice ao ts.length c]] wc fun e w'=>e= .returned (.int .i64 0)/\Below wc.heap.size wc w' from by
  have h1:=fg! ts (.slice ao ts.length c) wc CT.out hok hsB hsz hln hlr;rw[hc]at h1;exact h1)
 clear h hok hc hsB hsz hln hlr hbk hsv hso hin ea eb ec xa xb xc;subst aK aH aG;have bg:=CS.out.cells;unfold pV;have hq:∀W,(binOp BinOp.eql 139 (bkV b) .nilIface).run prog W= .ok (.bool false) W:=fun _=>by kernel_rfl
 go_enter func98,ntmps98
 go_wp2_with fail
 refine bb.out.mono ?_;rintro e w2 ⟨rfl,H⟩;have X2:Hid (Ext w w2):=h! (XC.out.trans H);have Z2:=h! (show w.heap.size+3<=w2.heap.size from by have:=CZ.out;have:=H.size;omega);have S2:=h! (CS.out.below H);have P2:=h! (CP.out.below H);have G2:=h! (CG.out.below H);have T2:=h! (CT.out.up H);have K2:=h! (CK.out.ext H);have V2:=h! ((CV.out.same (Same.below H)).mono (T:=fun x=>x<w2.heap.size) fun x hx=>n1! hx H.size);clear bg bb H XC CZ CS CP CG CT CK CV;obtain⟨tv,ap⟩:=e! (Value.slice ao ts.length c);obtain⟨w3,aI⟩:=e! (w2.alloc (.map #[] 0));obtain⟨w4,X⟩:=e! (w3.alloc (.map #[] 0));obtain⟨w5,ac⟩:=e! (w4.alloc (.cells #[tv,bkV b,.map (some w2.heap.size),.map (some (w2.heap.size+1)),.slice none 0 0,.slice none 0 0,.int .i64 0] 251));have e3:w3.heap.size=w2.heap.size+1:=by rw[aI];simp
 have e4:w4.heap.size=w2.heap.size+2:=by rw[X];simp[e3]
 have e5:w5.heap.size=w2.heap.size+3:=by rw[ac];simp[e4]
 have x3:Ext w2 w3:=xa! aI
 have x4:Ext w3 w4:=xa! X
 have x5:Ext w4 w5:=xa! ac
 have X5:Hid (Below w2.heap.size w2 w5):=h! (x3.trans (x4.trans x5));have Z5:=h! e5;have M5:=h! (show Mp prog 121 r2V bV w5 w2.heap.size (shutM [])from Mp.below (by rw[aI];exact Mp.made _) (x4.trans x5));have W5:=h! (show WkAt w5 (w2.heap.size+2) (w2.heap.size+1) w2.heap.size tv (bkV b) (.map (some w2.heap.size)) [] (.slice none 0 0) (.slice none 0 0)from⟨by rw[ac,<-e4];exact Blk.made _ _ _,Mp.below (by rw[X,<-e3];exact Mp.made _) x5,Own.nil _ _ _ _⟩);clear e3 e4 e5 x3 x4 x5;have bp:=@run_makeMap prog;have bB:=S2.out.cells;subst ac X aI ap;go_wp2_with fail
 clear bB bp hq;obtain⟨tv,ap⟩:=e! (Value.slice ao ts.length c);obtain⟨w5,ac⟩:=e! (((w2.alloc (.map #[] 0)).alloc (.map #[] 0)).alloc (.cells #[.slice ao ts.length c,bkV b,.map (some w2.heap.size),.map (some (w2.heap.size+1)),.slice none 0 0,.slice none 0 0,.int .i64 0] 251));rw[<-ac]at X5 Z5 M5 W5 ⊢;clear ac;rw[<-ap]at W5 T2;have br:=h! ap;clear ap;go_loopw [38] (fun iv wr=>∃i:Nat,i<=shut.length/\iv= .int .i64 i/\WkAt wr (w2.heap.size+2) (w2.heap.size+1) w2.heap.size tv (bkV b) (.map (some w2.heap.size)) [] (.slice none 0 0) (.slice none 0 0)/\Mp prog 121 r2V bV wr w2.heap.size (shutM (shut.take i))/\Below w2.heap.size w2 wr/\w2.heap.size+3<=wr.heap.size) (fun iv _=>shut.length-(intOf iv).toNat)
 case atStart=>exact⟨0,v1! _,rfl,W5.out,M5.out,X5.out,v4! Z5.out.symm⟩
 case round =>
  obtain⟨i,hi,rfl,ag,b8,b7,al⟩:=hrel;have RW:=h! ag;have RM:=h! b8;have RB:=h! b7;have RZ:=h! al;clear W5 M5 X5 Z5 ag b8 b7 al;by_cases hlt:i<shut.length
  ·obtain⟨bG,c',bA,-,-,f⟩:=Sl.rows bi! (by decide) (V2.out.same (w':=wr) fun x hx=>RB.out.block x hx);cases bA;obtain⟨bq,oq,rfl,-,f⟩:=f (by omega);have d0:wr.cell? ⟨bq,oq+i*2,none⟩=some (.string shut[i].t):=f i hlt 0 _ rfl;have d1:wr.cell? ⟨bq,oq+i*2+1,none⟩=some (.string shut[i].r):=f i hlt 1 _ rfl;have bl:=h! (fT! hlt);have aS:=h! hlt;have bo:=h! (bD.out shut[i] (n5! hlt));generalize shut[i]=r at *;obtain⟨rt,rr⟩:=r;dsimp only at d0 d1;clear f hi hlt;go_wp2_with fail
   clear d0 d1;obtain⟨wd,l⟩:=e! ((wr.alloc (.cells #[.string rt,.string rr] 121)).drew);have DX:=h! (show Ext wr wd from by rw[l];exact(Ext.alloc _ _).trans (Ext.drew _));have DR:=h! (show Blk wd wr.heap.size #[.string rt,.string rr] 121 from by rw[l];exact(Blk.made _ _ _).drew);have DW:=h! (RW.out.ext DX.out);have DM:=h! (RM.out.below DX.out);have DB:=h! (show Below w2.heap.size w2 wd from RB.out.trans (DX.out.mono (by have:=RZ.out;omega)));have DZ:Hid (w2.heap.size+3<=wd.heap.size):=h! (n6! RZ.out DX.out.size);refine r! (Kept (· ≠ w2.heap.size) wd) (by rw[<-l];exact Kept.refl _ _) ?_;rw[<-l];clear l RW RM DX;have h1:=fun W (h:Kept (· ≠ w2.heap.size) wd W)=>(h.blk DW.out.box (by show w2.heap.size+2≠w2.heap.size;omega)).cells;have h2:=fun W (h:Kept (· ≠ w2.heap.size) wd W)=>(h.blk DR.out (by show wr.heap.size≠w2.heap.size;have:=RZ.out;omega)).cells;(refine WalkN.tk [0,1,2,3,4] ?_;(iterate 5 (refine c! ?_));refine TkN.n ?_)
   clear h1 h2;obtain⟨wf,ab,bd,ad⟩:=DM.out.store refK bB! Tryz.underlying141 (bA! ⟨rt,rr⟩ bo.out) true;have FM:=h! bd;unfold r2V bV at ab;dsimp only at ab;refine ob! 5 ?_;intro K hK;go_simp;refine hK.out _ _ ad.kept ?_;clear hK ab bd;refine d! ?_;have FW:=h! (DW.out.same (ad.kept.block _ (by show w2.heap.size+2≠w2.heap.size;omega)) (ad.kept.block _ (by show w2.heap.size+1≠w2.heap.size;omega)) (fun g hg=>by cases hg));have FB:Hid (Below w2.heap.size w2 wf):=h! (DB.out.trans (ad.below (n0! _)));have FZ:=h! (show w2.heap.size+3<=wf.heap.size from by rw[ad.size];exact DZ.out);clear ad DW DM DB DR;have hsh:=bk.out;have bJ:=aS.out;go_wp2_with fail
   go_roundw
   case rel=>exact⟨i+1,aS.out,by go_num,FW.out,by rw[bl.out];exact FM.out,FB.out,FZ.out⟩
   case measure=>have:=aS.out;simp[intOf];omega
  ·obtain rfl:i=shut.length:=by omega
   have bx:Hid (shut.take shut.length=shut):=h! (u2!);rw[bx.out]at RM;have aU:=h! (db! (w2.heap.size+2) (w2.heap.size+1) w2.heap.size tv (bkV b) (.map (some w2.heap.size)) (.slice none 0 0) (.slice none 0 0) [] p wr (a6.out.okp 0 p (by simp[walkN])) RW.out ⟨by omega,by omega⟩ (by decide));have bj:=(P2.out.same (S:=(· < w2.heap.size)) (W:=wr) (fun x hx=>RB.out.block x hx) P2.out.lt).cells;have bI:Hid (p=⟨p.t,p.i,p.r⟩):=h! rfl;unfold pV at aU;go_wp2_with fail
   refine aU.out.mono ?_;rintro e w6 ⟨be,rfl,ay,L⟩
   have Q6:=h! (show mq! w2 w6 (w2.heap.size+2) (w2.heap.size+1) w2.heap.size (w2.heap.size+3) w2.heap.size tv (bkV b) (.map (some w2.heap.size)) be (.slice none 0 0) (walkN ts T shut p 0).1 shut []from⟨by
    have h1:putP [] p=(walkN ts T shut p 0).1:=by simp[putP,walkN]
    rw[<-h1];exact ay,FRow.nil _ _,RM.out.same (L.kept.block _ ⟨RM.out.lt,by omega,by omega,fun e=>by cases e⟩),RB.out.trans (L.pk RW.out ⟨by omega,by omega⟩).below⟩)
   have Y6:Hid (w2.heap.size+3<=w6.heap.size):=h! (n6! RZ.out L.size);clear bj aU ay L RW RM RB RZ hi hlt;go_wp2_with fail
   go_loopw [16] (fun iv wr=>∃(i:Nat) (q:List (FT × FV3)) (pv fv:Value),iv= .int .i64 i/\WalkAt ts T shut p most i/\mq! w2 wr (w2.heap.size+2) (w2.heap.size+1) w2.heap.size (w2.heap.size+3) w2.heap.size tv (bkV b) (.map (some w2.heap.size)) pv fv (walkN ts T shut p i).1 shut q/\q.map (·.1)=(walkN ts T shut p i).2/\w2.heap.size+3<=wr.heap.size) (fun iv _=>N+1-(intOf iv).toNat)
   case atStart=>exact⟨0,[],be,.slice none 0 0,rfl,(fun m hm=>absurd hm (Nat.not_lt_zero m)),Q6.out,rfl,Y6.out⟩
   case round =>
    obtain⟨i,q,pv,fv,rfl,an,a8,hq,al⟩:=hrel;have aW:=h! an.le;have O:=h! (a6.out.few i);have aV:=h! (a6.out.okp i)
    have I:=h! (show q.length=i from by
     have:=congrArg List.length hq;rwa[x1!,aX!]at this)
    have av:Hid (walkN ts T shut p (i+1)=_):=h! (by rw[walkN]);have bc:=h! (show i<(walkN ts T shut p i).1.length->most<((walkN ts T shut p i).1.length:Int)->er! ts T shut p most from fun h1 h2=>⟨i,an,h1,h2⟩)
    have bs:=h! (show i<(walkN ts T shut p i).1.length->((walkN ts T shut p i).1.length:Int)<=most->WalkAt ts T shut p most (i+1)from fun h1 h2 m hm=>by
     rcases Nat.lt_succ_iff_lt_or_eq.1 hm with h3 | rfl
     ·exact an m h3
     ·exact⟨h1,h2⟩)
    have aq:=h! (show i=(walkN ts T shut p i).1.length->ow! ts T shut p most i from fun h=>⟨an,h⟩);have RW:=h! a8.walk;have RR:=h! a8.row;have RM:=h! a8.shut;have RB:=h! a8.below;have RZ:=h! al;have RQ:=h! hq;have RG:Hid (Blk wr (w.heap.size+2) #[.slice none 0 0,.slice none 0 0] 96):=h! (G2.out.same (S:=(· < w2.heap.size)) (fun x hx=>a8.below.block x hx) G2.out.lt)
    have RS:=h! (show Blk wr w.heap.size #[tv] 26 from by
     rw[br.out];exact S2.out.same (S:=(· < w2.heap.size)) (fun x hx=>a8.below.block x hx) S2.out.lt)
    clear Q6 Y6 an a8 hq al;by_cases hend:i<(walkN ts T shut p i).1.length
    ·by_cases hmost:most<((walkN ts T shut p i).1.length:Int)
     ·have HL:=h! (bc.out hend hmost);obtain⟨po,pn,pc,rfl,bn,-,-⟩:=RW.out.pts.sl.len;obtain rfl:pn=(walkN ts T shut p i).1.length:=by rw[aS!]at bn;omega
      generalize (walkN ts T shut p i).1.length=len at *;have c1:=RW.out.box.cells;have c2:=RG.out.cells;have c3:=RG.out.free;have g1:(len:Int) > most:=hmost;have g2:(i:Int)<(len:Int):=by omega
      have XE:=h! (show Ext w ((wr.setCell ⟨w.heap.size+2,0,none⟩ (.slice none 0 0)).setCell ⟨w.heap.size+2,1,none⟩ (.slice none 0 0))from((X2.out.trans RB.out:Below w.heap.size w wr).setCell (p:=⟨w.heap.size+2,0,none⟩) (by show w.heap.size<=w.heap.size+2;omega) _).setCell (p:=⟨w.heap.size+2,1,none⟩) (by show w.heap.size<=w.heap.size+2;omega) _);have GE:=h! ((RG.out.set_to (cs':=#[.slice none 0 0,.slice none 0 0]) 0 (.slice none 0 0) rfl).set_to (cs':=#[.slice none 0 0,.slice none 0 0]) 1 (.slice none 0 0) rfl);go_wp2_with fail
      clear c1 c2 c3;refine bodyPost_ret (v := .tuple #[.agg #[.slice none 0 0,.slice none 0 0],.int .i64 10]) ?_ rfl ⟨XE.out,.inr ⟨HL.out,rfl⟩⟩;rw[results_cell_tmp rfl];have hl:=run_loadVar_row (P:=prog) _ (w.heap.size+2) _ 96 _ _ _ GE.out Tryz.underlying96 rfl (by kernel_rfl);simp[asAddr,hl,Result.andThen]
     ·have HA:=h! (bs.out hend (by omega));obtain⟨po,pc,rfl,bh,bw,f⟩:=Sl.rows au! (by decide) (show Sl _ wr 3 pv ((walkN ts T shut p i).1.flatMap pC)from RW.out.pts.sl);obtain⟨bq,oq,rfl,-,f⟩:=f (by omega);have aA:=f i hend;clear f;have F:=h! (aV.out _ (n5! hend));have ba:=(show(walkN ts T shut p i).1.getD i p=(walkN ts T shut p i).1[i]from by rw[n8!,n4! hend];rfl);rw[ba]at av;clear ba;generalize (walkN ts T shut p i).1[i]=x at *;have Z:=h! hend;have hmost':¬ (((walkN ts T shut p i).1.length:Int) > most):=hmost;have aM:Hid (∀g,fv.ownBlock=some g->g<wr.heap.size):=h! (fun g hg=>(RR.out.row.block g hg).2);have g2:(i:Int)<((walkN ts T shut p i).1.length:Int):=by omega
      obtain⟨xt,xi,xr⟩:=x;have c0:wr.cell? ⟨bq,oq+i*3,none⟩=some (.string xt):=aA 0 _ rfl;have c1:wr.cell? ⟨bq,oq+i*3+1,none⟩=some (.string xi):=aA 1 _ rfl;have c2:wr.cell? ⟨bq,oq+i*3+2,none⟩=some (.string xr):=aA 2 _ rfl;have cb:=RW.out.box.cells;obtain⟨wj,aP⟩:=e! (wr.alloc (.cells #[.string xt,.string xi,.string xr] 32));obtain⟨wk,ag⟩:=e! (wj.alloc (.cells #[.int .i64 0,.slice none 0 0,.slice none 0 0,.slice none 0 0] 128));have ej:wj.heap.size=wr.heap.size+1:=by rw[aP];simp
      have xj:Ext wr wj:=xa! aP
      have xk:Ext wj wk:=xa! ag
      have aO:Hid (Ext wr wk):=h! (xj.trans xk);have KP:=h! (show Blk wk wr.heap.size #[.string xt,.string xi,.string xr] 32 from Blk.below (bm! aP) xk);have KF:=h! (show Blk wk (wr.heap.size+1) #[.int .i64 0,.slice none 0 0,.slice none 0 0,.slice none 0 0] 128 from by rw[ag,<-ej];exact Blk.made _ _ _);have KS:=h! (RS.out.below aO.out);have KB:=h! (show Below w2.heap.size w2 wk from RB.out.trans (aO.out.mono (by have:=RZ.out;omega)));have b5:=h! (cK! (S:=(· < w2.heap.size)) ts tv xt xr wk (fun y hy=>n1! hy KB.out.size) (T2.out.same fun y hy=>KB.out.block y hy) aY.out HU.out bm.out F.out.1 F.out.2.2);have kp:=KP.out.cells;have ks:=KS.out.cells;clear ej xj xk aA hend hmost bc aq;subst ag aP;go_wp2_with fail
      clear c0 c1 c2 cb kp ks;refine b5.out.mono ?_;rintro e w3 ⟨⟨zr,zv⟩,rfl,E,aQ,b0,s⟩;have E:RTAt (· < w2.heap.size) w3 zr zv:=E;obtain⟨zo,zc,rfl,-⟩:=E.rows;unfold rvV rV;dsimp only at aQ b0 ⊢;have X3:=h! (aO.out.trans s);have P3:=h! (KP.out.below s);have F3:=h! (KF.out.below s);have B3:Hid (Below w2.heap.size w2 w3):=h! (KB.out.trans (s.mono KB.out.size));have b3:=h! E;have au:=h! aQ;have kp:=P3.out.cells;clear b5 aO KP KF KS KB E aQ b0 s g2 hmost';obtain⟨w4,X⟩:=e! (w3.alloc (.cells #[.int .i64 zr.k,.string zr.a,.string zr.b,.slice zo zr.ps.length zc] 106));obtain⟨wd,l⟩:=e! w4.drew;have af:=h! (show Ext w3 wd from by rw[l,X];exact(Ext.alloc _ _).trans (Ext.drew _));have DX:=h! (X3.out.trans af.out);have DR:=h! (show Blk wd w3.heap.size #[.int .i64 zr.k,.string zr.a,.string zr.b,.slice zo zr.ps.length zc] 106 from by rw[l,X];exact(Blk.made _ _ _).drew);have DP:=h! (P3.out.below af.out);have DF:=h! (F3.out.below af.out);have DW:=h! (RW.out.ext DX.out);have DM:=h! (RM.out.below DX.out);have DB:Hid (Below w2.heap.size w2 wd):=h! (B3.out.trans (af.out.mono B3.out.size));have a5:=h! (RR.out.ext DX.out);have DZ:Hid (w2.heap.size+3<=wd.heap.size):=h! (n6! RZ.out DX.out.size);have ai:Hid (wr.heap.size+1<wd.heap.size):=h! DF.out.lt;have DA:=h! (b3.out.same fun y hy=>af.out.block y (n1! hy B3.out.size));clear X3 P3 F3 B3 b3 af;have C:=fun W (h:Ext wd W)=>(DM.out.below h).look refK bB! Tryz.underlying141 (Tryz.zeroValue4 W) false (bA! ⟨xt,xr⟩ ⟨F.out.1,F.out.2.2⟩);simp only[gm!]at C;unfold r2V bV at C;dsimp only at C;have h1:=fun W (h:Ext wd W)=>(DW.out.box.below h).cells;have h2:=fun W (h:Ext wd W)=>(DP.out.below h).cells;have o:=h! C;have R:=h! h1;have J:=h! h2;clear C h1 h2;subst l X
      have bf:Hid (lookA (ab! ts) ⟨xt,xr⟩=none)\/(∃r,Hid (lookA (ab! ts) ⟨xt,xr⟩=some r/\(⟨xt,xr⟩:R2)∈shut))\/(∃r,Hid (lookA (ab! ts) ⟨xt,xr⟩=some r/\¬ (⟨xt,xr⟩:R2)∈shut)):=by
       cases hL:lookA (ab! ts) ⟨xt,xr⟩ with
       | none=>exact .inl rfl
       | some r =>
        by_cases hsh:(⟨xt,xr⟩:R2)∈shut
        ·exact .inr (.inl ⟨r,rfl,hsh⟩)
        ·exact .inr (.inr ⟨r,rfl,hsh⟩)
      rcases bf with hL | ⟨r,hL⟩|⟨r,hL⟩
      case' inl =>
       have hL:lookA (ab! ts) ⟨xt,xr⟩=none:=hL.out;have aw:=h! (show ar! ts shut ⟨xt,xi,xr⟩=none from by unfold ar!;split <;> first | rfl | exact hL);rw[hL]at au;rw[hL];clear au hL;dsimp only[Option.isSome];go_wp2_with fail
       clear kp;obtain⟨wd,l⟩:=e! ((w3.alloc (.cells #[.int .i64 zr.k,.string zr.a,.string zr.b,.slice zo zr.ps.length zc] 106)).drew);rw[<-l]at DX DR DP DF DW DM DB a5 DZ ai DA o R J;refine re! l ?_;clear l;have C:=o.out;have h1:=R.out;have h2:=J.out;clear o R J;(refine WalkN.tk [0,1] ?_;(iterate 2 (refine c! ?_));refine TkN.n ?_)
       refine k! 2 ?_;refine k! 3 ?_;refine k! 4 ?_;refine k! 5 ?_;refine k! 6 ?_;refine k! 7 ?_;refine k! 8 ?_;refine k! 9 ?_;refine k! 10 ?_;refine k! 11 ?_;refine k! 12 ?_;refine k! 13 ?_
       refine t! 14 ?_
       refine d! ?_;clear C h1 h2;obtain⟨fx,V⟩:=e! FT.zero;obtain⟨ae,a7⟩:=e! ((walkN ts T shut p i).1);obtain⟨G,am⟩:=e! ((Value.slice (some ⟨bq,oq,none⟩) (walkN ts T shut p i).1.length pc));obtain⟨a1,b1,c1,e1⟩:∃a b c,Value.slice a b c= .slice none 0 0:=⟨_,_,_,rfl⟩;obtain⟨a2,b2,c2,e2⟩:∃a b c,Value.slice a b c= .slice none 0 0:=⟨_,_,_,rfl⟩;obtain⟨a4,b4,c4,e4⟩:∃a b c,Value.slice a b c= .slice none 0 0:=⟨_,_,_,rfl⟩;have a9:=h! (show stepG ts T shut ⟨xt,xi,xr⟩ (walkN ts T shut p i).1=(fx,ae)from by rw[V,a7];exact eE! (T:=T) (ps:=(walkN ts T shut p i).1) aw.out);have TW:=h! (show WkAt wd (w2.heap.size+2) (w2.heap.size+1) w2.heap.size tv (bkV b) (.map (some w2.heap.size)) ae G fv from by rw[a7,am];exact DW.out);have TR:=a5;have TM:=DM;have TB:=DB;have TZ:=DZ;have TF:=h! (show Blk wd (wr.heap.size+1) #[.int .i64 fx.k,.slice a1 b1 c1,.slice a2 b2 c2,.slice a4 b4 c4] 128 from by rw[V,e1,e2,e4];exact DF.out);obtain⟨n0,a0⟩:=e! wd.heap.size
       have TX:=h! (show w2.heap.size+3<=n0/\(∀g,fv.ownBlock=some g->g<n0)/\FTAt (FS n0 wd) wd fx (.slice a1 b1 c1,.slice a2 b2 c2,.slice a4 b4 c4)from by
        rw[V,e1,e2,e4,a0];exact⟨DZ.out,fun g hg=>n1! (aM.out g hg) DX.out.size,kS! _ _⟩)
       clear DW a5 DM DB DZ DF DX DR DP DA V a7 am e1 e2 e4 a0;have tb:=TW.out.box.cells;obtain⟨fo,fn,fc,rfl,Y,-,-⟩:=TR.out.row.sl.len;rw[as!]at Y;obtain rfl:i=fn:=by have:=I.out;omega
       clear Y;go_wp2_with fail
       clear tb;obtain⟨w7,A⟩:=e! wd;rw[<-A]at TW TR TM TB TF TX TZ ⊢;clear A
      case' inr.inl =>
       have hsh:=hL.out.2;have hL:=hL.out.1;have aw:=h! (show ar! ts shut ⟨xt,xi,xr⟩=none from by unfold ar!;rw[if_pos hsh]);rw[if_pos hsh]at o;rw[hL];clear au hL hsh;unfold lookV at o;dsimp only[Option.isSome]at o ⊢;go_wp2_with fail
       clear kp;obtain⟨wd,l⟩:=e! ((w3.alloc (.cells #[.int .i64 zr.k,.string zr.a,.string zr.b,.slice zo zr.ps.length zc] 106)).drew);rw[<-l]at DX DR DP DF DW DM DB a5 DZ ai DA o R J;refine re! l ?_;clear l;have C:=o.out;have h1:=R.out;have h2:=J.out;clear o R J;simp only[Bool.false_eq_true,if_false]at C;(refine WalkN.tk [0,1,2,3,4,5,6,7,8,9,10,11,12,13,14] ?_;(iterate 15 (refine c! ?_));refine TkN.n ?_)
       refine d! ?_;clear C h1 h2;obtain⟨fx,V⟩:=e! FT.zero;obtain⟨ae,a7⟩:=e! ((walkN ts T shut p i).1);obtain⟨G,am⟩:=e! ((Value.slice (some ⟨bq,oq,none⟩) (walkN ts T shut p i).1.length pc));obtain⟨a1,b1,c1,e1⟩:∃a b c,Value.slice a b c= .slice none 0 0:=⟨_,_,_,rfl⟩;obtain⟨a2,b2,c2,e2⟩:∃a b c,Value.slice a b c= .slice none 0 0:=⟨_,_,_,rfl⟩;obtain⟨a4,b4,c4,e4⟩:∃a b c,Value.slice a b c= .slice none 0 0:=⟨_,_,_,rfl⟩;have a9:=h! (show stepG ts T shut ⟨xt,xi,xr⟩ (walkN ts T shut p i).1=(fx,ae)from by rw[V,a7];exact eE! (T:=T) (ps:=(walkN ts T shut p i).1) aw.out);have TW:=h! (show WkAt wd (w2.heap.size+2) (w2.heap.size+1) w2.heap.size tv (bkV b) (.map (some w2.heap.size)) ae G fv from by rw[a7,am];exact DW.out);have TR:=a5;have TM:=DM;have TB:=DB;have TZ:=DZ;have TF:=h! (show Blk wd (wr.heap.size+1) #[.int .i64 fx.k,.slice a1 b1 c1,.slice a2 b2 c2,.slice a4 b4 c4] 128 from by rw[V,e1,e2,e4];exact DF.out);obtain⟨n0,a0⟩:=e! wd.heap.size
       have TX:=h! (show w2.heap.size+3<=n0/\(∀g,fv.ownBlock=some g->g<n0)/\FTAt (FS n0 wd) wd fx (.slice a1 b1 c1,.slice a2 b2 c2,.slice a4 b4 c4)from by
        rw[V,e1,e2,e4,a0];exact⟨DZ.out,fun g hg=>n1! (aM.out g hg) DX.out.size,kS! _ _⟩)
       clear DW a5 DM DB DZ DF DX DR DP DA V a7 am e1 e2 e4 a0;have tb:=TW.out.box.cells;obtain⟨fo,fn,fc,rfl,Y,-,-⟩:=TR.out.row.sl.len;rw[as!]at Y;obtain rfl:i=fn:=by have:=I.out;omega
       clear Y;go_wp2_with fail
       clear tb;obtain⟨w7,A⟩:=e! wd;rw[<-A]at TW TR TM TB TF TX TZ ⊢;clear A
      case' inr.inr =>
       have hsh:=hL.out.2;have hL:=hL.out.1;have aw:=h! (show ar! ts shut ⟨xt,xi,xr⟩=some r from by unfold ar!;rw[if_neg hsh];exact hL);have aT:=h! hL;rw[if_neg hsh]at o;rw[hL]at au;rw[hL];clear hL hsh;unfold lookV at o;dsimp only[Option.isSome]at o ⊢;go_wp2_with fail
       clear kp;obtain⟨wd,l⟩:=e! ((w3.alloc (.cells #[.int .i64 zr.k,.string zr.a,.string zr.b,.slice zo zr.ps.length zc] 106)).drew);rw[<-l]at DX DR DP DF DW DM DB a5 DZ ai DA o R J;refine re! l ?_;clear l;have C:=o.out;have h1:=R.out;have h2:=J.out;clear o R J;simp only[Bool.false_eq_true,if_false]at C;(refine WalkN.tk [0,1,2,3,4,5,6,7,8,9,10,11,12,13,14] ?_;(iterate 15 (refine c! ?_));refine TkN.n ?_)
       refine d! ?_;clear C h1 h2;have bC:=au.out _ rfl;subst bC;have b6:=h! (aB! aT.out);have aZ:=h! (md! (w2.heap.size+2) (w2.heap.size+1) w2.heap.size b tv (.map (some w2.heap.size)) fv T ⟨xt,xi,xr⟩ w2 F.out a6.out.tok a6.out.tlen ⟨by omega,by omega⟩ K2.out (n0! _) zr _ (.slice zo zr.ps.length zc) (walkN ts T shut p i).1 wd (a6.out.rok _ b6.out) DA.out DB.out DW.out (by have h1:zr.sz*(T.length+1)+N<=1073741824:=a6.out.room _ b6.out;have h2:=O.out;omega));have dp:=DP.out.cells;have dr:=DR.out.cells;go_wp2_with fail
       clear dp dr;refine aZ.out.mono ?_;rintro e w5 ⟨v3,G,rfl,D,U,Q⟩;have a9:=h! (hF! (T:=T) (ps:=(walkN ts T shut p i).1) aw.out);generalize formD T ⟨xt,xi,xr⟩ zr (walkN ts T shut p i).1=fd at *;obtain⟨fx,ae⟩:=fd;obtain⟨u1,u2,u4⟩:=v3;dsimp only at D U a9;obtain⟨s1,s2,-⟩:=(FTAt.iff _ _).1 D;obtain⟨a1,b1,c1,rfl,-,-,-⟩:=s1.len;obtain⟨a2,b2,c2,rfl,-,-,-⟩:=s2.len;obtain⟨a4,c4,rfl,-⟩:=D.rows;obtain⟨b4,aX⟩:=e! fx.ps.length;rw[<-aX]at D;unfold fV;dsimp only;rw[<-aX];clear s1 s2 aX;have F5:=h! (Q.blk DW.out DF.out (by decide) (by decide));have bv:=F5.out.cells;have bu:=F5.out.free;have ZS:∀y,y≠wr.heap.size+1->((((w5.setCell ⟨wr.heap.size+1,0,none⟩ (.int .i64 fx.k)).setCell ⟨wr.heap.size+1,1,none⟩ (.slice a1 b1 c1)).setCell ⟨wr.heap.size+1,2,none⟩ (.slice a2 b2 c2)).setCell ⟨wr.heap.size+1,3,none⟩ (.slice a4 b4 c4)).heap[y]?=w5.heap[y]?:=fun y hy=>by rw[Below.heap_setCell _ _ _ y hy,Below.heap_setCell _ _ _ y hy,Below.heap_setCell _ _ _ y hy,Below.heap_setCell _ _ _ y hy]
       obtain⟨w7,A⟩:=e! ((((w5.setCell ⟨wr.heap.size+1,0,none⟩ (.int .i64 fx.k)).setCell ⟨wr.heap.size+1,1,none⟩ (.slice a1 b1 c1)).setCell ⟨wr.heap.size+1,2,none⟩ (.slice a2 b2 c2)).setCell ⟨wr.heap.size+1,3,none⟩ (.slice a4 b4 c4));have e7:w7.heap.size=w5.heap.size:=by rw[A];simp
       rw[<-A]at ZS;have F7:=h! (show Blk w7 (wr.heap.size+1) #[.int .i64 fx.k,.slice a1 b1 c1,.slice a2 b2 c2,.slice a4 b4 c4] 128 from by rw[A];exact F5.out.put4 _ _ _ _);have aN:=U.un F5.out (by decide) (by decide);have TW:=h! (U.same (w':=w7) (ZS _ fun e=>aN.2.1 e.symm) (ZS _ fun e=>aN.2.2.1 e.symm) fun g hg=>ZS _ fun e=>aN.2.2.2 (by rw[hg,e]))
       have aL:=h! (show PKept (WM (w2.heap.size+2) (w2.heap.size+1)) w2.heap.size wr w7 from by
        rw[A];have hk:=oo!.next (oo!.of (e:=32) (M:=WM (w2.heap.size+2) (w2.heap.size+1)) DX.out (by have:=RZ.out;omega)) (Q.pk DW.out ⟨by omega,by omega⟩)
        have aE:¬ QK 32 (WM (w2.heap.size+2) (w2.heap.size+1)) w2.heap.size wr (wr.heap.size+1):=fun h=>by
         rcases h with h | h
         ·have:=RZ.out;omega
         ·have:=h.2.1;omega
        exact(((hk.set aE _).set aE _).set aE _).set aE _)
       have TR:=h! (RR.out.keep aL.out fun y hy=>by rcases hy with rfl | rfl <;> omega);have TM:=h! ((DM.out.same (Q.kept.block _ ⟨DM.out.lt,by omega,by omega,fun e=>DW.out.pts.notMap DM.out.notCells _ e rfl⟩)).same (ZS _ (by have:=RZ.out;omega)));have TB:Hid (Below w2.heap.size w2 w7):=h! (RB.out.trans aL.out.below);have TZ:Hid (w2.heap.size+3<=w7.heap.size):=h! (n6! RZ.out aL.out.size);have TX:=h! (show w2.heap.size+3<=wd.heap.size/\(∀g,fv.ownBlock=some g->g<wd.heap.size)/\FTAt (FS wd.heap.size w7) w7 fx (.slice a1 b1 c1,.slice a2 b2 c2,.slice a4 b4 c4)from⟨DZ.out,fun g hg=>n1! (aM.out g hg) DX.out.size,(D.same fun y hy=>ZS y (by have:=hy.1;have:=ai.out;omega)).mono fun y hy=>⟨hy.1,by rw[e7];exact hy.2.1,fun cs=>by rw[ZS y (by have:=hy.1;have:=ai.out;omega)];exact hy.2.2 cs⟩⟩);have TF:=F7;clear aZ D U Q aN ZS e7 F7 aL DW a5 DM DB DZ ai DF DX DR DP DA F5;obtain⟨n0,a0⟩:=e! wd.heap.size;rw[<-a0]at TX;clear a0;subst A;have tb:=TW.out.box.cells;obtain⟨fo,fn,fc,rfl,Y,-,-⟩:=TR.out.row.sl.len;rw[as!]at Y;obtain rfl:i=fn:=by have:=I.out;omega
       clear Y;go_wp2_with fail
       clear tb bv bu;obtain⟨w7,A⟩:=e! (((((w5.setCell ⟨wr.heap.size+1,0,none⟩ (.int .i64 fx.k)).setCell ⟨wr.heap.size+1,1,none⟩ (.slice a1 b1 c1)).setCell ⟨wr.heap.size+1,2,none⟩ (.slice a2 b2 c2)).setCell ⟨wr.heap.size+1,3,none⟩ (.slice a4 b4 c4)));rw[<-A]at TW TR TM TB TF TX TZ ⊢;clear A
      all_goals
       obtain⟨wq,az⟩:=e! (World.drew w7);have QX:=h! (show Ext w7 wq from xd! az);have QW:=h! (TW.out.ext QX.out);have QF:=h! (TF.out.below QX.out);have QR:=h! (TR.out.ext QX.out);have QM:=h! (TM.out.below QX.out);have QB:=h! (show Below w2.heap.size w2 wq from TB.out.trans (QX.out.mono (by have:=TZ.out;omega)));have QZ:Hid (w2.heap.size+3<=wq.heap.size):=h! (n6! TZ.out QX.out.size);have QN:=h! (TX.out.1);have QV:=h! (TX.out.2.1);have QA:=h! ((TX.out.2.2.same fun y hy=>QX.out.block y hy.2.1).mono (S':=FS n0 wq) fun y hy=>hy.ext QX.out);refine av! (fun j=>decide (9<=j)) (fun W=>Blk W (w2.heap.size+2) #[tv,bkV b,.map (some w2.heap.size),.map (some (w2.heap.size+1)),G,.slice fo i fc,.int .i64 0] 251/\Blk W (wr.heap.size+1) #[.int .i64 fx.k,.slice a1 b1 c1,.slice a2 b2 c2,.slice a4 b4 c4] 128) (by rw[<-az];exact⟨QW.out.box,QF.out⟩) (by kernel_rfl) (by kernel_rfl) (fun _ _ d _ _ h=>by cases d <;> exact h) ?_;rw[<-az];clear az TW TR TM TB TF TX QX;have h1:=fun W (h:Blk W (w2.heap.size+2) #[tv,bkV b,.map (some w2.heap.size),.map (some (w2.heap.size+1)),G,.slice fo i fc,.int .i64 0] 251/\Blk W (wr.heap.size+1) #[.int .i64 fx.k,.slice a1 b1 c1,.slice a2 b2 c2,.slice a4 b4 c4] 128)=>h.1.cells;have h2:=fun W (h:Blk W (w2.heap.size+2) #[tv,bkV b,.map (some w2.heap.size),.map (some (w2.heap.size+1)),G,.slice fo i fc,.int .i64 0] 251/\Blk W (wr.heap.size+1) #[.int .i64 fx.k,.slice a1 b1 c1,.slice a2 b2 c2,.slice a4 b4 c4] 128)=>h.2.cells;(refine WalkS.tk [0,1,2,3,4,5,6] ?_;(iterate 7 (refine z! ?_));refine TkS.n ?_)
       clear h1 h2;have s:=Ext.alloc wq (.cells #[.int .i64 0,.slice none 0 0,.slice none 0 0,.slice none 0 0] 128);refine oS! 7 ?_;refine b! ?_;intro K hK;go_simp;refine hK.out _ _ ⟨QW.out.box.below s,QF.out.below s⟩ ?_;clear hK;have aF:=h! (show i<=1073741823 from by have h1:=O.out;have h2:=a6.out.nmax;have h3:=aW.out;omega);refine oS! 8 ?_;refine b! ?_;intro K hK;refine aP! nu! (.tmp 122) (.tmp 125) rfl rfl (QR.out.row.below s) (m:=1) (news:=[.int .i64 0,.slice none 0 0,.slice none 0 0,.slice none 0 0]) rfl rfl (fun j u hu=>?_) (by simp[Value.oneCell']) (by have:=I.out;have:=aF.out;rw[as!];simp;omega) (by have:=I.out;have:=aF.out;rw[as!];simp;omega) (by have:=QZ.out;simp;omega) (fun v6 w6 hown6 hb6 hg6=>?_)
       ·rw[Addr.add_lit,cell_of_row _ wq.heap.size (0+j) #[.int .i64 0,.slice none 0 0,.slice none 0 0,.slice none 0 0] 128 (0,0) (heap_alloc_new wq _),Nat.zero_add];simpa using hu
       obtain⟨g,n6,c6,rfl⟩:∃g n c,v6= .slice (some ⟨g,0,none⟩) n c:=by
        rcases hown6.shape with⟨_,h⟩ | h
        ·simp at h
        ·exact h
       obtain rfl:n6=i+1:=by
        obtain⟨a,b,c,h1,h2,-,-⟩:=hown6.sl.len;cases h1;rw[u4!,as!,I.out]at h2;simp at h2;omega
       have B6:=h! (show Blk w6 (w2.heap.size+2) _ _ from(hg6.block _ (QW.out.box.below s).lt fun e=>by have:=(QR.out.row.block _ e.symm).1;omega).trans (QW.out.box.below s));have F6:=h! (show Blk w6 (wr.heap.size+1) _ _ from(hg6.block _ (QF.out.below s).lt fun e=>by have:=aM.out _ e.symm;omega).trans (QF.out.below s));obtain⟨bt,aa⟩:=hown6.typed (g:=g) rfl;have aB:Hid (Blk w6 g bt 128):=h! aa
       have ax:=h! (show g≠w2.heap.size+2 from fun e=>by
        have h1:w6.heap[w2.heap.size+2]?=_:=B6.out;rw[<-e,aa]at h1;injection h1 with h1
        injection h1 with _ h1 _
        exact absurd h1 (by decide))
       have ar:=h! hown6;have aD:=h! hb6;have aj:=h! hg6;have ak:=h! s;refine hK.out _ _ ⟨B6.out,F6.out⟩ ?_;clear hK s hown6 hb6 hg6 aa;simp only[Act.put,pA,pZ,pS];have bK:(i:Int)<(i:Int)+1:=by omega
       refine WalkS.rest (by kernel_rfl) ?_;(refine WalkN.tk [9,11,12,13] ?_;(iterate 4 (refine c! ?_));refine TkN.n ?_)
       refine p! 10 14 ?_ ?_
       ·refine b! ?_;intro K hK;have aR:=aB.out.free;obtain⟨k0,k1,k2,k3⟩:=eX! ar.out (k:=i*4) (by rw[as!,I.out]);go_simp;clear aR k0 k1 k2 k3;refine hK.out _ _ trivial ?_;clear hK;have ah:=h! (Own.setForm (p := .int .i64 0) ar.out (k:=i*4) (by rw[as!,I.out]) (.int .i64 fx.k) (.slice a1 b1 c1) (.slice a2 b2 c2) (.slice a4 b4 c4));have B7:Hid (Blk (World.setForm w6 g (i*4) (.int .i64 fx.k) (.slice a1 b1 c1) (.slice a2 b2 c2) (.slice a4 b4 c4)) (w2.heap.size+2) _ _):=h! ((bd! _ _ _ _ _ _ _ (Ne.symm ax.out)).trans B6.out);have aC:∀j,(World.setForm w6 g (i*4) (.int .i64 fx.k) (.slice a1 b1 c1) (.slice a2 b2 c2) (.slice a4 b4 c4)).frozen? ⟨w2.heap.size+2,j,none⟩=false:=B7.out.free;have aJ:=B7.out.cells;unfold World.setForm at aC aJ;refine ob! 14 ?_;intro K hK;go_simp;refine hK.out _ _ trivial ?_;clear hK aC aJ;refine d! ?_;have ES:=h! (kB! (ash:=w2.heap.size) (wz:=w2) (B:=w2.heap.size) (lo:=w2.heap.size+3) (w8:=(World.setForm w6 g (i*4) (.int .i64 fx.k) (.slice a1 b1 c1) (.slice a2 b2 c2) (.slice a4 b4 c4)).setCell ⟨w2.heap.size+2,5,none⟩ (.slice (some ⟨g,0,none⟩) (i+1) c6)) (v:=(.slice a1 b1 c1,.slice a2 b2 c2,.slice a4 b4 c4)) QW.out QR.out QM.out QB.out (by omega) ⟨by omega,by omega,by omega⟩ ⟨by omega,by omega⟩ QZ.out QA.out QN.out QV.out (by omega) ak.out aj.out aD.out (Own.setBox ah.out B7.out (by decide) _) (B7.out.set_to 5 _ rfl) (fun y h1 h2=>(Below.heap_setCell _ _ _ y h2).trans (bd! _ _ _ _ _ _ _ h1)) (by rw[show ∀(x:World) a v,(x.setCell a v).heap.size=x.heap.size from fun x a v=>by simp,bp!]) ⟨rfl,rfl,rfl⟩);have EZ:=h! (show w2.heap.size+3<=((World.setForm w6 g (i*4) (.int .i64 fx.k) (.slice a1 b1 c1) (.slice a2 b2 c2) (.slice a4 b4 c4)).setCell ⟨w2.heap.size+2,5,none⟩ (.slice (some ⟨g,0,none⟩) (i+1) c6)).heap.size from by have h1:=ak.out.size;have h2:=aj.out.size;have h3:=QZ.out;rw[show ∀(x:World) a v,(x.setCell a v).heap.size=x.heap.size from fun x a v=>by simp,bp!];omega);unfold World.setForm at ES EZ;clear ah B7 B6 F6 aB ax ar aD aj ak QW QF QR QM QB QZ QN QV QA;have bE:=aF.out;go_wp2_with fail
        go_roundw
        case rel=>exact⟨i+1,_,G,_,by go_num,HA.out,by rw[av.out,a9.out];exact ES.out,by rw[av.out,a9.out,v9!,RQ.out];rfl,EZ.out⟩
        case measure=>have h1:=O.out;have h2:=Z.out;simp[intOf];omega
       ·refine b! ?_;intro K hK;have aC:=B6.out.free;have aJ:=B6.out.cells;go_simp;clear aC aJ;refine hK.out _ _ trivial ?_;clear hK;have B7:=h! (B6.out.set_to (cs':=#[tv,bkV b,.map (some w2.heap.size),.map (some (w2.heap.size+1)),G,.slice (some ⟨g,0,none⟩) (i+1) c6,.int .i64 0]) 5 (.slice (some ⟨g,0,none⟩) (i+1) c6) rfl);have ah:=h! (Own.setBox (i:=5) ar.out B6.out (by decide) (.slice (some ⟨g,0,none⟩) (i+1) c6));have b9:=h! (aB.out.other (a:=⟨w2.heap.size+2,5,none⟩) ax.out (.slice (some ⟨g,0,none⟩) (i+1) c6));have aR:=b9.out.free;obtain⟨k0,k1,k2,k3⟩:=eX! ah.out (k:=i*4) (by rw[as!,I.out]);refine ob! 10 ?_;intro K hK;go_simp;refine hK.out _ _ trivial ?_;clear hK aR k0 k1 k2 k3;refine d! ?_;have ES:=h! (kB! (ash:=w2.heap.size) (wz:=w2) (B:=w2.heap.size) (lo:=w2.heap.size+3) (w8:=World.setForm (w6.setCell ⟨w2.heap.size+2,5,none⟩ (.slice (some ⟨g,0,none⟩) (i+1) c6)) g (i*4) (.int .i64 fx.k) (.slice a1 b1 c1) (.slice a2 b2 c2) (.slice a4 b4 c4)) (v:=(.slice a1 b1 c1,.slice a2 b2 c2,.slice a4 b4 c4)) QW.out QR.out QM.out QB.out (by omega) ⟨by omega,by omega,by omega⟩ ⟨by omega,by omega⟩ QZ.out QA.out QN.out QV.out (by omega) ak.out aj.out aD.out (Own.setForm ah.out (k:=i*4) (by rw[as!,I.out]) _ _ _ _) ((bd! _ _ _ _ _ _ _ (Ne.symm ax.out)).trans B7.out) (fun y h1 h2=>(bd! _ _ _ _ _ _ _ h1).trans (Below.heap_setCell _ _ _ y h2)) (by rw[bp!];simp) ⟨rfl,rfl,rfl⟩);have EZ:=h! (show w2.heap.size+3<=(World.setForm (w6.setCell ⟨w2.heap.size+2,5,none⟩ (.slice (some ⟨g,0,none⟩) (i+1) c6)) g (i*4) (.int .i64 fx.k) (.slice a1 b1 c1) (.slice a2 b2 c2) (.slice a4 b4 c4)).heap.size from by have h1:=ak.out.size;have h2:=aj.out.size;have h3:=QZ.out;rw[bp!];simp;omega);unfold World.setForm at ES EZ;clear ah B7 b9 B6 F6 aB ax ar aD aj ak QW QF QR QM QB QZ QN QV QA;have bE:=aF.out;go_wp2_with fail
        go_roundw
        case rel=>exact⟨i+1,_,G,_,by go_num,HA.out,by rw[av.out,a9.out];exact ES.out,by rw[av.out,a9.out,v9!,RQ.out];rfl,EZ.out⟩
        case measure=>have h1:=O.out;have h2:=Z.out;simp[intOf];omega
    ·have HE:=h! (aq.out (by have:=aW.out;omega));obtain⟨po,pn,pc,rfl,-,-,-⟩:=RW.out.pts.sl.len;obtain⟨fo,fn,fc,rfl,-,-,-⟩:=RR.out.row.sl.len
     have bF:pn=(walkN ts T shut p i).1.length:=by
      have h:=RW.out.pts.sl.len;obtain⟨a1,a2,a3,h1,h2,-,-⟩:=h;cases h1;rw[aS!]at h2;omega
     subst bF;have bH:=aW.out;generalize hlen:(walkN ts T shut p i).1.length=len at *;have g2:¬ ((i:Int)<(len:Int)):=by omega
     have c1:=RW.out.box.cells;have c2:=RG.out.cells;have c3:=RG.out.free;go_wp2_with fail
     clear c1 c2 c3;have ZS:∀y,y≠w.heap.size+2->((wr.setCell ⟨w.heap.size+2,0,none⟩ (.slice po len pc)).setCell ⟨w.heap.size+2,1,none⟩ (.slice fo fn fc)).heap[y]?=wr.heap[y]?:=fun y hy=>by rw[Below.heap_setCell _ _ _ y hy,Below.heap_setCell _ _ _ y hy]
     have XE:Ext w ((wr.setCell ⟨w.heap.size+2,0,none⟩ (.slice po len pc)).setCell ⟨w.heap.size+2,1,none⟩ (.slice fo fn fc)):=((X2.out.trans RB.out:Below w.heap.size w wr).setCell (p:=⟨w.heap.size+2,0,none⟩) (by show w.heap.size<=w.heap.size+2;omega) _).setCell (p:=⟨w.heap.size+2,1,none⟩) (by show w.heap.size<=w.heap.size+2;omega) _;have GE:=(RG.out.set_to (cs':=#[.slice po len pc,.slice none 0 0]) 0 (.slice po len pc) rfl).set_to (cs':=#[.slice po len pc,.slice fo fn fc]) 1 (.slice fo fn fc) rfl;refine bodyPost_ret (v := .tuple #[.agg #[.slice po len pc,.slice fo fn fc],.int .i64 0]) ?_ rfl ⟨XE,.inl ⟨i,.slice po len pc,.slice fo fn fc,HE.out,rfl,?_,?_⟩⟩
     ·rw[results_cell_tmp rfl];have hl:=run_loadVar_row (P:=prog) _ (w.heap.size+2) _ 96 _ _ _ GE Tryz.underlying96 rfl (by kernel_rfl);simp[asAddr,hl,Result.andThen]
     ·exact(RW.out.pts.sl.same fun y hy=>ZS y (by have:=hy.1;have:=Z2.out;omega)).mono fun y hy=>⟨by have:=hy.1;have:=Z2.out;omega,by simpa using hy.2⟩
     ·obtain⟨q',h1,h2,h3⟩:=RR.out.forms;refine⟨q',h1.trans RQ.out,fun y hy=>((h2 y hy).same fun z hz=>ZS z (by have:=hz.1;have:=Z2.out;omega)).mono fun z hz=>⟨by have:=hz.1;have:=Z2.out;omega,by simpa using hz.2.1⟩,(h3.same fun z hz=>ZS z (by have:=hz.1;have:=Z2.out;omega)).mono fun z hz=>⟨by have:=hz.1;have:=Z2.out;omega,by simpa using hz.2.1⟩⟩
end Go.Proofs.YtlhaghoajpglaaaGreat
