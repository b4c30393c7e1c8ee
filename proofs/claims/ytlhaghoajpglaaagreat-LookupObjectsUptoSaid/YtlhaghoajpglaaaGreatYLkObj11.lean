/- Lemmas for the claim, no condition. -/
import Derived.Test.YtlhaghoajpglaaaGreatYLkObj10
import Derived.Test.YtlhaghoajpglaaaGreatYLkObj10
set_option maxRecDepth 100000
set_option maxHeartbeats 4000000
namespace Go.Proofs.YtlhaghoajpglaaaGreat
open Go Go.Maps Go.RowKit Go.Proofs.Tryz
def totL:List (List O2)->Nat | []=>0 | l::r=>l.length+totL r
theorem iv!:∀(L:List (List O2))(i:Nat)(A:List O2),i<L.length->totL (L.set i A)+(L.getD i []).length=totL L+A.length
 | [],i,A,h=>by simp at h
 | l::r,0,A,_=>by simp[totL];omega
 | l::r,i+1,A,h=>by
  have ih:=iv! r i A (by simpa using h);simp only[List.set_cons_succ,totL,List.getD_cons_succ];omega
theorem mn! {all:List O2}:∀(L:List (List O2)),(∀l∈L,l.Nodup)->(∀l∈L,∀o∈l,o∈all)->totL L<=L.length*all.length
 | [],_,_=>by simp[totL]
 | l::r,h1,h2=>by
  have ih:=mn! r (fun x hx=>h1 x (u9! _ hx)) (fun x hx=>h2 x (u9! _ hx));have:=bk! (h1 l y4!) (h2 l y4!);rw[totL,u7!,Nat.add_mul];omega
theorem InF.congr {all:List O2}{L M:List (List O2)}(hl:L.length=M.length)(h:∀j o,o∈L.getD j []↔o∈M.getD j [])(f:FT)(o:O2):InF all L f o↔InF all M f o:=by
 have:vecO L o=vecO M o:=by
  refine dT! (by rw[bd!,bd!,hl]) fun i hi=>?_;rw[bd!]at hi;rw[ch! hi,ch! (by omega),Bool.eq_iff_iff,u1!,u1!];have:=h i o;rw[n8!,n4! hi,n8!,n4! (show i<M.length by omega)]at this;exact this
 unfold InF;rw[this]
structure Pass (fs:List FT)(n:Nat)(all:List O2)(L0 L:List (List O2))(g:Bool)(i:Nat):Prop where
 at_:LkAt fs n all L
 nd:∀l∈L,l.Nodup
 ge:totL L0<=totL L
 gr:g=true->totL L0<totL L
 st:g=false->∀j f,j<i->fs[j]?=some f->∀o,InF all L f o->o∈L.getD j []
section
variable {fs : List FT} {n i : Nat} {all : List O2} {L0 L : List (List O2)} {g : Bool}
theorem Pass.start (h:LkAt fs n all L)(hn:∀l∈L,l.Nodup):Pass fs n all L L false 0:=⟨h,hn,n0! _,fun e=>(by cases e),fun _ j f hj=>absurd hj (Nat.not_lt_zero _)⟩
theorem Pass.step (h:Pass fs n all L0 L g i)(hi:i<n) {f:FT}(hf:fs[i]?=some f) {A:List O2}(hA:A.Nodup)(hm:∀o,o∈A↔o∈L.getD i []\/InF all L f o):Pass fs n all L0 (L.set i A) (g||decide ((L.getD i []).length<A.length)) (i+1):=by
 have c:i<L.length:=by rw[h.at_.len];exact hi
 have a2:L.getD i []=L[i]:=by rw[n8!,n4! c];rfl
 have d:(L.getD i []).Nodup:=by rw[a2];exact h.nd _ (n5! c)
 have a3:(L.getD i []).length<=A.length:=bk! d fun o ho=>(hm o).2 (.inl ho);have a1:=iv! L i A c;have a0:LkAt fs n all (L.set i A):=h.at_.put hi hf hm;refine⟨a0,fun l hl=>?_,by have:=h.ge;omega,fun hg=>?_,fun hg j f' hj hf' o ho=>?_⟩
 ·rcases List.mem_or_eq_of_mem_set hl with hl | rfl
  ·exact h.nd l hl
  ·exact hA
 ·rw[Bool.or_eq_true,u1!]at hg;rcases hg with hg | hg
  ·have:=h.gr hg;omega
  ·have:=h.ge;omega
 ·rw[Bool.or_eq_false_iff,decide_eq_false_iff_not]at hg
  have a:∀o,o∈A↔o∈L.getD i []:=fun o=>by
   refine⟨fun ho=>?_,fun ho=>(hm o).2 (.inl ho)⟩;refine Classical.byContradiction fun hno=>?_;have h1:(o::L.getD i []).Nodup:=List.nodup_cons.2 ⟨hno,d⟩
   have h2:=bk! (u:=A) h1 fun x hx=>by
    rcases v7!.1 hx with rfl | hx
    ·exact ho
    ·exact(hm x).2 (.inl hx)
   rw[u7!]at h2;omega
  have b:∀j o,o∈(L.set i A).getD j []↔o∈L.getD j []:=fun j o=>by
   rw[dP!];by_cases e:j=i
   ·subst e;rw[if_pos ⟨rfl,c⟩];exact a o
   ·rw[if_neg fun h=>e h.1]
  rw[b j o];have k:=(InF.congr (by rw[List.length_set]) b f' o).1 ho;by_cases e:j=i
  ·subst e;rw[hf]at hf';cases hf';exact(a o).1 ((hm o).2 (.inr k))
  ·exact h.st hg.1 j f' (by omega) hf' o k
theorem Pass.closed (h:Pass fs n all L0 L false i)(hi:min fs.length n<=i):∀o∈all,∀j,j<n->newS fs (oS o) (vecO L o) j=false :=
 me! h.at_.len fun j f hj hf o ho=>h.st rfl j f (by have:=(y3!.1 hf).1;omega) hf o ho
def potL (n:Nat)(all:List O2)(L:List (List O2)):Nat:=n*all.length-totL L
theorem Pass.less (h:Pass fs n all L0 L true i):potL n all L<potL n all L0:=by
 have h1:=mn! L h.nd h.at_.sub;rw[h.at_.len]at h1;have:=h.gr rfl;unfold potL;omega
theorem Pass.le (h:Pass fs n all L0 L g i):potL n all L<=potL n all L0:=by
 have:=h.ge;unfold potL;omega
end
theorem lS! {S:Nat->Prop}(ts:List TyS)(tv:Value)(ty rel:ByteArray)(w:World)(hS:∀x,S x->x<w.heap.size)(h:pU! S w ts tv)(hok:∀t∈ts,t.Ok)(hu:aT! ts=true)(hsz:(ac! ts).length<=1099511627776)(hty:ty.size<=maxLen)(hrel:rel.size<=maxLen) :
  Calls prog 133 #[.agg #[tv],.string ty,.string rel] w fun e w'=>∃z:RV,e= .returned (.tuple #[rvV z,.bool (lookA (ac! ts) ⟨ty,rel⟩).isSome])/\RTAt S w' z.1 z.2/\(∀r,lookA (ac! ts) ⟨ty,rel⟩=some r->z.1=r)/\(lookA (ac! ts) ⟨ty,rel⟩=none->z=(.mk 0 ByteArray.empty ByteArray.empty [],.slice none 0 0))/\Below w.heap.size w w':=by
 have d:Ext w ((w.alloc (.cells #[tv] 26)).alloc (.cells #[.int .i64 0,.string ByteArray.empty,.string ByteArray.empty,.slice none 0 0] 106)):=(Ext.alloc _ _).trans (Ext.alloc _ _);have HX:=h! d;have HO:=h! (ji! (S:=S) ts tv _ (fun x hx=>n1! (hS x hx) d.size) (h.same ((Same.below d).mono hS)) hok hu hsz);have A:=h! hS;have a3:=((Blk.made w #[tv] 26).alloc (.cells #[.int .i64 0,.string ByteArray.empty,.string ByteArray.empty,.slice none 0 0] 106)).cells;have HR:=h! (Blk.made' (w:=w.alloc (.cells #[tv] 26)) (B:=w.heap.size+1) (by simp) #[.int .i64 0,.string ByteArray.empty,.string ByteArray.empty,.slice none 0 0] 106);have hR:=HR.out.cells;clear h hok hu hsz d hS;go_enter func133,ntmps133
 go_wp2_with fail
 refine HO.out.mono ?_;rintro e H ⟨b1,b2,b3,rfl,n,i⟩;obtain⟨z,f,c,C,q⟩:=n.R.look ⟨ty,rel⟩ ⟨hty,hrel⟩;obtain⟨F,G,j,-⟩:=c.rows;have HZ:=h! (And.intro C q);have a4:=h! c;have a0:=h! j;have E:=h! (Ext.trans HX.out i);have D:=h! (HR.out.below i);have a2:Hid (w.heap.size+1<H.heap.size):=h! D.out.lt;generalize hokk:(lookA (ac! ts) ⟨ty,rel⟩).isSome=ok at *;have g:=h! hokk;clear hokk;unfold rvV rV r2V at f;dsimp only at f;rw[j]at f;have h3:Ext H (H.alloc (.cells #[.int .i64 z.1.k,.string z.1.a,.string z.1.b,.slice F z.1.ps.length G] 106)):=Ext.alloc _ _;have l:=h! (D.out.below h3);have o:=h! h3;have r3:=l.out.cells;have f3:=l.out.free;have a9:∀W:World,(Instr.field 229 (.agg #[.map (some b1),.map (some b2),.map (some b3)]) 0).run prog W= .ok (.map (some b1)) W:=fun _=>by kernel_rfl
 obtain⟨w3,a1⟩:=e! (H.alloc (.cells #[.int .i64 z.1.k,.string z.1.a,.string z.1.b,.slice F z.1.ps.length G] 106));have a8:w.heap.size+1≠H.heap.size:=by have:=a2.out;omega
 have y:=l.out.set_to 0 (.int .i64 z.1.k) rfl;have u:=y.set_to 1 (.string z.1.a) rfl;have m:=u.set_to 2 (.string z.1.b) rfl;have s:=m.set_to 3 (.slice F z.1.ps.length G) rfl;have a6:=h! s
 have p:∀x,x≠w.heap.size+1->(((((H.alloc (.cells #[.int .i64 z.1.k,.string z.1.a,.string z.1.b,.slice F z.1.ps.length G] 106)).setCell ⟨w.heap.size+1,0,none⟩ (.int .i64 z.1.k)).setCell ⟨w.heap.size+1,1,none⟩ (.string z.1.a)).setCell ⟨w.heap.size+1,2,none⟩ (.string z.1.b)).setCell ⟨w.heap.size+1,3,none⟩ (.slice F z.1.ps.length G)).heap[x]?=(H.alloc (.cells #[.int .i64 z.1.k,.string z.1.a,.string z.1.b,.slice F z.1.ps.length G] 106)).heap[x]?:=fun x hx=>by
  rw[Below.heap_setCell _ _ _ x hx,Below.heap_setCell _ _ _ x hx,Below.heap_setCell _ _ _ x hx,Below.heap_setCell _ _ _ x hx]
 have a7:=h! p;have a5:=h! (show Below w.heap.size w (((((H.alloc (.cells #[.int .i64 z.1.k,.string z.1.a,.string z.1.b,.slice F z.1.ps.length G] 106)).setCell ⟨w.heap.size+1,0,none⟩ (.int .i64 z.1.k)).setCell ⟨w.heap.size+1,1,none⟩ (.string z.1.a)).setCell ⟨w.heap.size+1,2,none⟩ (.string z.1.b)).setCell ⟨w.heap.size+1,3,none⟩ (.slice F z.1.ps.length G))from((((Ext.trans E.out o.out:Ext w _).setCell (by show w.heap.size<=w.heap.size+1;omega) _).setCell (by show w.heap.size<=w.heap.size+1;omega) _).setCell (by show w.heap.size<=w.heap.size+1;omega) _).setCell (by show w.heap.size<=w.heap.size+1;omega) _);clear HO a3 hR n i C q c j h3 y u m s p a1;go_wp2_with fail
 refine bodyPost_ret (v := .tuple #[.agg #[.int .i64 z.1.k,.string z.1.a,.string z.1.b,.slice F z.1.ps.length G],.bool ok]) ?_ rfl ⟨z,?_,?_,HZ.out.1,HZ.out.2,a5.out⟩
 ·rw[results_cell_tmp rfl];have hl:=run_loadVar_row (P:=prog) _ (w.heap.size+1) _ 106 _ _ _ a6.out Tryz.underlying106 rfl (by kernel_rfl);simp[asAddr,hl,Result.andThen]
 ·unfold rvV rV;rw[a0.out,g.out]
 ·exact(a4.out.same fun x hx=>o.out.block x (n1! (A.out x hx) E.out.size)).same fun x hx=>a7.out x (by have:=A.out x hx;omega)
section
variable {P : Program} {ops : Array Oper} {Q : Exit -> Act -> World -> Prop} {S : World -> Prop} {late : Nat -> Bool}
def hu! (P:Program)(ops:Array Oper)(Q:Exit->Act->World->Prop)(S:World->Prop)(late:Nat->Bool):Nat->Array Bool->Act->World->Prop
 | 0,l,a,w=>Region.ready .any ops l=[]/\Q .normal a w
 | f+1,l,a,w=>(Region.ready .any ops l=[]->Q .normal a w) /\
   ∀i∈Region.ready .any ops l,wpOp P ops Q i (fun a' w'=>(late i=false->S w')/\hu! P ops Q S late f (l.setIfInBounds i true) a' w') a w
theorem fb!:∀(f:Nat)(l:Array Bool)(a:Act)(w:World),hu! P ops Q S late f l a w->wpAny P .any ops Q f l a w
 | 0,_,_,_,h=>h
 | f+1,_,_,_,h=>⟨h.1,fun i hi=>wpOp_mono (fun a' w' k=>fb! f _ a' w' k.2) (h.2 i hi)⟩
def early (ops:Array Oper)(late:Nat->Bool)(i:Nat):Bool:=(List.range ops.size).all fun j=>!late j||ahead ops ops.size i j
theorem ht! {i:Nat}{oi:Oper}{v:Value}(hi:ops[i]?=some oi)(hsel:Region.noSelect ops=true)
  (hQ:∀c a w,Q (.panic c) (Act.put a oi.dst v) w->Q (.panic c) a w) (hL:early ops late i=true) :
  ∀(f:Nat) (l:Array Bool) (a:Act) (w:World),pM! ops l ->
   (∀j oj,ops[j]?=some oj->j≠i->l.getD j true=false->(∀e∈oj.after,Region.binds .any e=true->e.on≠i)->oi.apart ops oj=true) ->
   i∈Region.ready .any ops l->YieldsIf P ops S oi v a->S w->hu! P ops Q S late f (l.setIfInBounds i true) (a.put oi.dst v) w->hu! P ops Q S late (f+1) l a w:=by
 intro f;induction f with
 | zero =>
  intro l a w _ _ hr hy hS H;refine⟨fun h=>(by rw[h]at hr;cases hr),fun j hj=>?_⟩;by_cases hji:j=i
  ·subst hji;exact hy.wpOp hi hS ⟨fun _=>hS,H⟩
  ·have:=ready_mono hj hji;rw[H.1]at this;cases this
 | succ f ih =>
  intro l a w hc hfree hr hy hS H;refine⟨fun h=>(by rw[h]at hr;cases hr),fun j hj=>?_⟩;by_cases hji:j=i
  ·subst hji;exact hy.wpOp hi hS ⟨fun _=>hS,H⟩
  ·obtain⟨n,oj,g,p⟩:=mem_ready.1 hj;have d:=(mem_ready.1 hr).1
   have a1:late j=false:=by
    cases hlj:late j with
    | false=>rfl
    | true =>
     have a0:j<ops.size:=(x7!.1 g).1;have ha:=u8!.1 hL j (List.mem_range.2 a0);rw[hlj]at ha;simp only[Bool.not_true,Bool.false_or]at ha;exact(dw! d (ce! hc ops.size i j ha fun o ho e he hb=>by rw[g]at ho;cases ho;exact p e he hb)).elim
   have q:∀e∈oj.after,Region.binds .any e=true->e.on≠i:=fun e he hb heq=>dw! d (heq▸p e he hb);have h2:=wpOp_putIf g (hfree j oj g hji n q) (fun cs b=>Region.noSelect_spec hsel i oi cs b hi) (fun cs b=>Region.noSelect_spec hsel j oj cs b g) hQ hy (H.2 j (ready_mono hj hji));refine wpOp_mono (fun a' w' k=>⟨k.2.1,ih (l.setIfInBounds j true) a' w' (hc.set hj) (fun m om hom hmi hun hno=>?_) (ready_mono hr (Ne.symm hji)) k.1 (k.2.1 a1) ?_⟩) h2
   ·refine hfree m om hom hmi ?_ hno;by_cases hjm:j=m
    ·exact hjm▸n
    ·rwa[getD_set_ne true hjm]at hun
   ·rw[Array.setIfInBounds_comm _ _ hji];exact k.2.2
def eu! (ops:Array Oper)(late:Nat->Bool)(l:Array Bool):Bool:=(List.range ops.size).all fun j=>l.getD j false||late j
theorem jF! {l:Array Bool}(h:eu! ops late l=true) {i:Nat}(hi:i∈Region.ready .any ops l):late i=true:=by
 obtain⟨a0,o,ho,_⟩:=mem_ready.1 hi;have h1:=u8!.1 h i (List.mem_range.2 (x7!.1 ho).1);rcases Bool.or_eq_true_iff.1 h1 with h2 | h2
 ·exact(dw! a0 h2).elim
 ·exact h2
theorem nE! {l:Array Bool}(h:eu! ops late l=true)(i:Nat):eu! ops late (l.setIfInBounds i true)=true:=by
 refine u8!.2 fun j hj=>?_;rcases Bool.or_eq_true_iff.1 (u8!.1 h j hj)with h2 | h2
 ·exact Bool.or_eq_true_iff.2 (.inl (getD_set_true h2))
 ·exact Bool.or_eq_true_iff.2 (.inr h2)
theorem ec!:∀(f:Nat)(l:Array Bool)(a:Act)(w:World),eu! ops late l=true->wpAny P .any ops Q f l a w->hu! P ops Q S late f l a w
 | 0,_,_,_,_,h=>h
 | f+1,l,a,w,hl,h=>⟨h.1,fun i hi=>wpOp_mono (fun a' w' k=>⟨fun e=>(by rw[jF! hl hi]at e;cases e),ec! f _ a' w' (nE! hl i) k⟩) (h.2 i hi)⟩
def WalkS (P:Program)(ops:Array Oper)(Q:Exit->Act->World->Prop)(S:World->Prop)(late:Nat->Bool):Nat->Array Bool->Act->World->Prop
 | 0,l,a,w=>Region.ready .any ops l=[]/\Q .normal a w
 | f+1,l,a,w=>(eu! ops late l=true/\WalkN P ops Q (fun _=>True) (f+1) l a w) \/
   (∃i o v,ops[i]?=some o/\Region.free .any ops l i=true/\(Region.ready .any ops l).contains i=true/\early ops late i=true/\YieldsIf P ops S o v a/\WalkS P ops Q S late f (l.setIfInBounds i true) (a.put o.dst v) w) \/
   (Region.ready .any ops l≠[]/\∀i∈Region.ready .any ops l,∃o,ops[i]?=some o/\∀K':Act->World->Prop,Shut (∀a' w',S w'->WalkS P ops Q S late f (l.setIfInBounds i true) a' w'->K' a' w') ->
    if Region.wanted o (yielded ops a.tmps)=true then Oper.wp P o a w K' Q else K' (a.put o.dst undef) w)
theorem cI! (hns:Region.noSelect ops=true)(hQ:∀c a d v w,Q (.panic c) (Act.put a d v) w->Q (.panic c) a w) :
  ∀(f:Nat) (l:Array Bool) (a:Act) (w:World),pM! ops l->S w->WalkS P ops Q S late f l a w->hu! P ops Q S late f l a w
 | 0,_,_,_,_,_,h=>h
 | f+1,l,a,w,hc,hs,h=>by
  rcases h with⟨hl,h⟩|⟨i,o,v,ho,hf,hr,hL,hy,h⟩|⟨hne,h⟩
  ·exact ec! _ l a w hl (wpAny_of_held _ _ _ _ (bL! hns hQ _ l a w trivial h))
  ·exact ht! ho hns (fun c a w=>hQ c a _ _ w) hL f l a w hc (Region.free_spec ho hf) (by simpa using hr) hy hs (cI! hns hQ f _ _ w (hc.set (by simpa using hr)) hs h)
  ·refine⟨fun e=>absurd e hne,fun i hi=>?_⟩;obtain⟨o,ho,hst⟩:=h i hi;exact wpOp_step ho (fun K' hK=>hst K' (fun a' w' he hw=>hK a' w' ⟨fun _=>he,cI! hns hQ f _ a' w' (hc.set hi) he hw⟩))
theorem bx! {id:Nat}{a:Act}{w:World}(late:Nat->Bool)(S:World->Prop)(hS:S w.drew)(hm:P.follows .mixedOrders=true)(hns:Region.noSelect ops=true)(hQ:∀c a d v w,Q (.panic c) (Act.put a d v) w->Q (.panic c) a w)
  (h:WalkS P ops Q S late ops.size (Array.replicate ops.size false) a w.drew):(Code.region id ops true).wp P Q a w :=
 wp_region_any hm (fb! _ _ _ _ (cI! hns hQ _ _ a w.drew (pM!.start _ _) hS h))
theorem WalkS.take {f:Nat}{l:Array Bool}{a:Act}{w:World}(i:Nat)(o:Oper)(v:Value)(ho:ops[i]?=some o)(hf:Region.free .any ops l i=true)(hr:(Region.ready .any ops l).contains i=true)(hL:early ops late i=true)
  (hw:Region.wanted o (yielded ops a.tmps)=true) (hy:∀W,S W->(execOp a.eval o).run P W= .ok (.value v) W) (h:WalkS P ops Q S late f (l.setIfInBounds i true) (a.put o.dst v) w):WalkS P ops Q S late (f+1) l a w :=
 .inr (.inl ⟨i,o,v,ho,hf,hr,hL,.inl ⟨hw,hy⟩,h⟩)
def TkS (P:Program)(ops:Array Oper)(Q:Exit->Act->World->Prop)(S:World->Prop)(late:Nat->Bool):List Nat->Nat->Array Bool->Act->World->Prop
 | [],f,l,a,w=>WalkS P ops Q S late f l a w
 | i::is,f,l,a,w=>∃g,f=g+1/\∃o v,ops[i]?=some o/\Region.free .any ops l i=true/\(Region.ready .any ops l).contains i=true/\early ops late i=true/\Region.wanted o (yielded ops a.tmps)=true/\(∀W,S W->(execOp a.eval o).run P W= .ok (.value v) W)/\TkS P ops Q S late is g (l.setIfInBounds i true) (a.put o.dst v) w
theorem WalkS.tk (is:List Nat):∀ {f:Nat}{l:Array Bool}{a:Act}{w:World},TkS P ops Q S late is f l a w->WalkS P ops Q S late f l a w:=by
 induction is with
 | nil=>exact fun h=>h
 | cons i is ih =>
  rintro f l a w ⟨g,rfl,o,v,ho,hf,hr,hL,hw,hy,h⟩;exact WalkS.take i o v ho hf hr hL hw hy (ih h)
theorem TkS.c {f:Nat}{l:Array Bool}{a:Act}{w:World}{i:Nat}{is:List Nat}(o:Oper)(v:Value)(ho:ops[i]?=some o)(hf:Region.free .any ops l i=true)(hr:(Region.ready .any ops l).contains i=true)(hL:early ops late i=true)
  (hw:Region.wanted o (yielded ops a.tmps)=true) (hy:∀W,S W->(execOp a.eval o).run P W= .ok (.value v) W) (h:TkS P ops Q S late is f (l.setIfInBounds i true) (a.put o.dst v) w):TkS P ops Q S late (i::is) (f+1) l a w :=
 ⟨f,rfl,o,v,ho,hf,hr,hL,hw,hy,h⟩
theorem TkS.n {f:Nat}{l:Array Bool}{a:Act}{w:World}(h:WalkS P ops Q S late f l a w):TkS P ops Q S late [] f l a w:=h
def MadeS (P:Program)(ops:Array Oper)(Q:Exit->Act->World->Prop)(S:World->Prop)(late:Nat->Bool)(f:Nat)(l:Array Bool)(a:Act)(w:World)(i:Nat):Prop :=
 ∃o,ops[i]?=some o/\Region.wanted o (yielded ops a.tmps)=true/\∀K':Act->World->Prop,Shut (∀a' w',S w'->WalkS P ops Q S late f (l.setIfInBounds i true) a' w'->K' a' w')->Oper.wp P o a w K' Q
theorem WalkS.one {f:Nat}{l:Array Bool}{a:Act}{w:World}(i:Nat)(hr:Region.ready .any ops l=[i])(h:MadeS P ops Q S late f l a w i):WalkS P ops Q S late (f+1) l a w:=by
 refine .inr (.inr ⟨by rw[hr];simp,fun j hj=>?_⟩);rw[hr]at hj;obtain rfl:j=i:=by simpa using hj
 obtain⟨o,ho,hw,h⟩:=h;exact⟨o,ho,fun K hK=>by rw[if_pos hw];exact h K hK⟩
theorem WalkS.rest {f:Nat}{l:Array Bool}{a:Act}{w:World}(hl:eu! ops late l=true)(h:WalkN P ops Q (fun _=>True) (f+1) l a w):WalkS P ops Q S late (f+1) l a w := .inl ⟨hl,h⟩
end
theorem z! {P : Program}{ops : Array Oper}{Q : Exit -> Act -> World -> Prop}{S : World -> Prop}{late : Nat -> Bool}{f : Nat}{l : Array Bool}{a : Act}{w : World}{i : Nat}{is : List Nat}{o : Oper}{v : Value}{G : Prop}(h : G) (ho : ops[i]? = some o := by simp only[gA,gS,gZ];rfl) (hf : Region.free .any ops l i = true := by kernel_rfl) (hr : (Region.ready .any ops l).contains i = true := by kernel_rfl) (hL : early ops late i = true := by kernel_rfl) (hw : Region.wanted o (yielded ops a.tmps) = true := by rfl) (hy : ∀W,S W->(execOp a.eval o).run P W=.ok (.value v) W := by intro W hW;go_simp;try with_reducible rfl) (hG : TkS P ops Q S late is f (l.setIfInBounds i true) (a.put o.dst v) w = G := by simp only[Act.put,pA,pZ,pS];rfl) : TkS P ops Q S late (i :: is) (f + 1) l a w := ⟨f, rfl, o, v, ho, hf, hr, hL, hw, hy, Eq.mpr hG h⟩
theorem oS! {P : Program}{ops : Array Oper}{Q : Exit -> Act -> World -> Prop}{S : World -> Prop}{late : Nat -> Bool}{f : Nat}{l : Array Bool}{a : Act}{w : World}(i : Nat) (h : MadeS P ops Q S late f l a w i) (hr : Region.ready .any ops l = [i] := by kernel_rfl) : WalkS P ops Q S late (f + 1) l a w := WalkS.one i hr h
theorem fT! (c:UInt8)(w:World):Calls prog 149 #[.int .u8 (c.toNat:Int)] w fun e w'=>e= .returned (.bool (okc c))/\w'=w:=by
 go_enter func149,ntmps149
 have a:Hid (okc c=decide ((97<=(c.toNat:Int)/\(c.toNat:Int)<=122)\/(48<=(c.toNat:Int)/\(c.toNat:Int)<=57)\/(c.toNat:Int)=95\/(c.toNat:Int)=45)):=h! rfl;generalize okc c=g at *;generalize (c.toNat:Int)=n at *;by_cases a1:(97:Int)<=n
 all_goals by_cases a2:n<=122
 all_goals by_cases a3:(48:Int)<=n
 all_goals by_cases a4:n<=57
 all_goals cases a5:(n == 95)
 all_goals cases a6:(n == 45)
 all_goals try simp only[beq_iff_eq,n7!,ne_eq]at a5 a6
 all_goals first
  | (exfalso;omega)
  | (have b5:(n == 95)=true:=by rw[beq_iff_eq];exact a5
     have b6:(n == 45)=false:=by rw[n7!];omega
     go_wp2_with fail
     go_ret
     exact⟨congrArg (fun b=>Ending.returned (Value.bool b)) (a.out.trans (v2! (by omega))).symm,rfl⟩)
  | (have b5:(n == 95)=false:=by rw[n7!];omega
     have b6:(n == 45)=true:=by rw[beq_iff_eq];exact a6
     go_wp2_with fail
     go_ret
     exact⟨congrArg (fun b=>Ending.returned (Value.bool b)) (a.out.trans (v2! (by omega))).symm,rfl⟩)
  | (have b5:(n == 95)=false:=by rw[n7!];omega
     have b6:(n == 45)=false:=by rw[n7!];omega
     go_wp2_with fail
     go_ret
     first
       | exact⟨congrArg (fun b=>Ending.returned (Value.bool b)) (a.out.trans (v2! (by omega))).symm,rfl⟩
       | exact⟨congrArg (fun b=>Ending.returned (Value.bool b)) (a.out.trans (v3! (by omega))).symm,rfl⟩)
theorem kx! (s:ByteArray)(_hs:s.size<=maxLen)(h2:2<=s.size)(c:UInt8)(hc:s[0]'(by omega)=c)(h32:c≠32)(h9:c≠9)(hr:s.extract 0 2≠⟨#[47,47]⟩)(w:World):Calls prog 94 #[.string s] w fun e w'=>e= .returned (.bool false)/\w'=w:=by
 have q1:((c.toNat:Int) != 32)=true:=by
  rw[bne_iff_ne];intro e;exact h32 (UInt8.toNat_inj.1 (by exact_mod_cast e))
 have q2:((c.toNat:Int) != 9)=true:=by
  rw[bne_iff_ne];intro e;exact h9 (UInt8.toNat_inj.1 (by exact_mod_cast e))
 have q3:(1:Int)<(s.size:Int):=by omega
 have q4:0<s.size:=by omega
 have a0:=aH! hr;rw[<-u5!,show(⟨#[47,47]⟩:ByteArray).data.toList=[47,47]from rfl]at a0;clear h32 h9 hr;go_enter func94,ntmps94
 go_wp2_with fail
 go_loopw [3] (fun ii wr=>ii= .int .i64 0/\wr=w) (fun _ _=>0)
 case atStart=>exact⟨rfl,rfl⟩
 case round =>
  obtain⟨rfl,rfl⟩:=hrel;go_wp2_with fail
  go_ret
  exact⟨rfl,rfl⟩
def fB! (p:List ByteArray × ByteArray)(c:UInt8):List ByteArray × ByteArray:=if c=10 then(p.1++[p.2],⟨#[]⟩)else(p.1,p.2.push c)
def ea! (s:ByteArray):List ByteArray:=let p:=s.data.toList.foldl fB! ([],⟨#[]⟩);p.1++[p.2]
theorem kg! {β:Type}(f:β->UInt8->β)(b:β)(s:ByteArray) {i:Nat}(hi:i<s.size):(s.data.toList.take (i+1)).foldl f b=f ((s.data.toList.take i).foldl f b) s[i]:=by
 rw[n2! (by simpa using hi),List.foldl_append];rfl
theorem nm! (a s:ByteArray) {i:Nat}(hi:i<s.size):a++s.extract i (i+1)=a.push s[i]:=by
 refine ByteArray.ext ?_;rw[ByteArray.data_append,ByteArray.data_extract,ByteArray.data_push];refine Array.ext' ?_;simp only[Array.toList_append,Array.toList_push,Array.toList_extract];congr 1
 rw[List.extract_eq_take_drop,show i+1-i=1 from by omega,List.drop_eq_getElem_cons (by simpa using hi)];rfl
theorem lv! (s:ByteArray)(hs:s.size<=65536)(w:World):Calls prog 93 #[.string s] w fun e w'=>∃v,e= .returned v/\Own w' w.heap.size 9 1 v (txs (ea! s))/\Below w.heap.size w w':=by
 have al:s.size<=9223372036854775807:=by omega
 have HS:=h! hs;have HD:Hid (ea! s=(s.data.toList.foldl fB! ([],⟨#[]⟩)).1++[(s.data.toList.foldl fB! ([],⟨#[]⟩)).2]):=h! rfl;have M:=h! (Own.lit w (n0! _) 9 1 1 #[.string ⟨#[]⟩] rfl (by decide) (by decide));have G:Hid (Below w.heap.size w (w.alloc (.cells #[.string ⟨#[]⟩] 9))):=h! (Ext.alloc _ _);clear hs;go_enter func93,ntmps93
 go_wp2_with fail
 go_loopw [3,4] (fun ov ii wr=>∃(i:Nat) (p:List ByteArray × ByteArray),i<=s.size/\ii= .int .i64 i/\p=(s.data.toList.take i).foldl fB! ([],⟨#[]⟩)/\Own wr w.heap.size 9 1 ov (txs (p.1++[p.2]))/\Below w.heap.size w wr/\p.1.length<=i/\p.2.size<=i) (fun _ ii _=>s.size-(intOf ii).toNat)
 case atStart=>exact⟨0,([],⟨#[]⟩),by omega,rfl,rfl,M.out,G.out,v1! _,v1! _⟩
 case round =>
  obtain⟨i,⟨f,a⟩,hi,rfl,hp,j,u,B,m⟩:=hrel;dsimp only at j B m;have R:=h! hp;have A:=h! j;have z:=h! u;have y:=h! B;have L:=h! m;clear M G hp B m u;by_cases hlt:i<s.size
  ·have F:=h! (kg! fB! ([],⟨#[]⟩) s hlt);have a8:=h! (nm! a s hlt);have a1:wrap64 ((i:Int)+1)=((i+1:Nat):Int):=by rw[bn! _ (by omega) (by omega)];omega
   by_cases hc:s[i]=10
   ·have T:=h! (show(f++[a],(⟨#[]⟩:ByteArray))=(s.data.toList.take (i+1)).foldl fB! ([],⟨#[]⟩)from by rw[F.out,<-R.out,hc];rfl);clear j;go_wp2_with (at_builtin;go_must (refine aq! hB! rfl (.tmp 16) (.tmp 17) rfl rfl A.out rfl rfl (by simp[Value.oneCell']) (by have:=y.out;have:=HS.out;rw[af!];simp;omega) (by have:=y.out;have:=HS.out;rw[af!];simp;omega) z.out.size ?_);intro v2 w2 hown2 hb2 hgr2)
    have ac:=h! (z.out.trans hb2);have a7:=h! (show Own w2 w.heap.size 9 1 v2 (txs (f++[a]++[⟨#[]⟩]))from by rw[bo!];exact hown2);clear hown2 hb2 hgr2;go_wp2_with fail
    go_roundw
    case rel=>exact⟨i+1,(f++[a],⟨#[]⟩),by omega,by go_num,T.out,a7.out,ac.out,by have:=y.out;simp;omega,v1! _⟩
    case measure=>simp[intOf];omega
   ·have T:=h! (show(f,a.push s[i])=(s.data.toList.take (i+1)).foldl fB! ([],⟨#[]⟩)from by rw[F.out,<-R.out];unfold fB!;rw[if_neg hc]);obtain⟨g,c,cs,rfl,a5,r,J,ai,k⟩:=j.lay (by simp[txs]);have q:(txs (f++[a])).length=f.length+1:=by rw[af!];simp
    have m:=k f.length (by omega);rw[q]at J A;rw[q];have H:(txs (f++[a]))[f.length]'(by omega)= .string a:=by simp[txs]
    rw[H]at m;have E:wr.cell? ⟨g,f.length,none⟩=some (.string a):=by rw[r.cells];exact m
    have x:=h! (show(txs (f++[a])).set f.length (.string (a.push s[i]))=txs (f++[a.push s[i]])from by simp[txs])
    have af:((s[i].toNat:Int) == 10)=false:=by
     rw[n7!];intro e;exact hc (UInt8.toNat_inj.1 (by exact_mod_cast e))
    have a4:=a8.out;have B:=y.out;clear H k j;have aa:=h! (rfl:f.length=f.length);clear aa q;obtain⟨Q,I⟩:=e! f.length;rw[<-I]at A x J m E B ⊢;have ak:wrap64 ((Q:Int)+1-1)=(Q:Int):=by rw[Int.add_sub_cancel];exact bn! _ (by omega) (by omega)
    have ad:IntKind.i64.wrap (Q:Int)=(Q:Int):=IntWalk.i64_in _ (by omega);obtain⟨O,o⟩:=e! (i+1);rw[<-o]at a1 T a4;have D:=h! o;have aj:IntKind.i64.wrap ((i:Int)+1)=(O:Int):=by rw[IntWalk.i64_in _ (by omega)];omega
    have a2:(0:Int)<(Q:Int)+1:=by omega
    have ab:(Q:Int)<(Q:Int)+1:=by omega
    have am:(0:Int)<=(Q:Int):=by omega
    have ae:(0:Int)<=(i:Int):=by omega
    have ag:(i:Int)<=(O:Int):=by omega
    have ah:(O:Int)<=(s.size:Int):=by omega
    have hA:∀W,Ext wr W->W.cell? ⟨g,Q,none⟩=some (.string a):=fun W h=>by
     exact Ext.cell h E
    have a9:¬ 9223372036854775807<a.size+(min O s.size-i):=by have:=L.out;omega
    clear I hc o E;go_wp2_with fail
    obtain⟨wd,C⟩:=e! wr.drew;have N:Ext wr wd:=by rw[C];exact Ext.drew wr
    refine as! 17 (Ext wr) (by rw[<-C];exact N) (by kernel_rfl) (by kernel_rfl) (fun _ _ d _ _ h=>by cases d <;> exact h) ?_;rw[<-C];clear C;have t:=h! ((A.out.below N).set1 Q (.string (a.push s[i])));rw[x.out]at t;have a6:=(r.below N).free;have a0:=(r.below N).cells;have a3:Hid (Below w.heap.size w (wd.setCell ⟨g,Q,none⟩ (.string (a.push s[i])))):=h! ((z.out.trans (N.mono z.out.size)).setCell a5 _);(refine WalkL.tk [0,1,2,3,4,5,6,7,8,9,10,11,12,13,14,15,16] ?_;(iterate 17 (refine l! ?_));refine TkL.n ?_)
    clear hA;refine WalkL.last (by kernel_rfl) (by kernel_rfl) ?_;refine b! ?_;intro K hK;go_simp;refine hK.out _ _ ?_;clear hK a0 a6 m;go_wp2_with fail
    go_roundw
    case rel=>exact⟨O,(f,a.push s[i]),by omega,by go_num,T.out,t.out,a3.out,by have:=y.out;have:=D.out;dsimp only;omega,by have:=L.out;have:=D.out;dsimp only;rw[ByteArray.size_push];omega⟩
    case measure=>have:=D.out;simp[intOf];omega
  ·obtain rfl:i=s.size:=by omega
   rw[List.take_of_length_le (by simp)]at R;have HF:Hid (ea! s=f++[a]):=h! (by rw[HD.out,<-R.out]);clear j;go_wp2_with fail
   go_ret
   exact⟨_,rfl,by rw[HF.out];exact A.out,z.out⟩
def isW (c:UInt8):Bool:=decide (97<=c.toNat/\c.toNat<=122)
def hQ! (c:UInt8):Bool:=decide (c=32)||(decide (c=61)||(decide (c=124)||isW c))
def wdEnd (s:ByteArray):Nat->Nat->Nat
 | 0,n=>n
 | f+1,n=>if h:n<s.size then if isW s[n]then wdEnd s f (n+1)else n else n
def tokR (s:ByteArray):Nat->Nat->List ByteArray->List ByteArray
 | 0,_,out=>out
 | f+1,i,out=>if h:i<s.size then(if s[i]=32 then tokR s f (i+1) out else if s[i]=61\/s[i]=124 then tokR s f (i+1) (out++[s.extract i (i+1)])else tokR s f (wdEnd s s.size i) (out++[s.extract i (wdEnd s s.size i)]))else out
def toksD (s:ByteArray):List ByteArray:=tokR s s.size 0 []
theorem mZ! {s:ByteArray}{f i:Nat}{out:List ByteArray}(h:s.size<=i):tokR s f i out=out:=by
 cases f with
 | zero=>rfl
 | succ f=>rw[tokR,dif_neg (by omega)]
theorem io! (s:ByteArray):∀(f n:Nat),n<=wdEnd s f n
 | 0,n=>n0! _
 | f+1,n=>by
  rw[wdEnd];split
  ·split
   ·have:=io! s f (n+1);omega
   ·exact n0! _
  ·exact n0! _
theorem mS! {s:ByteArray}{n:Nat}(h:n<s.size)(hw:isW s[n]=true):n<wdEnd s s.size n:=by
 obtain⟨f,hf⟩:∃f,s.size=f+1:=⟨s.size-1,by omega⟩;rw[hf,wdEnd,dif_pos h,if_pos hw];have:=io! s f (n+1);omega
theorem jI! {c:UInt8}(h:hQ! c=true):okc c=isW c:=by
 unfold hQ! at h;simp only[Bool.or_eq_true,u1!]at h;rcases h with rfl | rfl | rfl | h
 ·rfl
 ·rfl
 ·rfl
 ·rw[h];unfold isW at h;have h2:=of_decide_eq_true h;unfold okc;exact v2! (.inl (by omega))
theorem u8_ne {c d:UInt8}(h:c≠d):((c.toNat:Int) == (d.toNat:Int))=false:=by
 rw[n7!];intro e;exact h (UInt8.toNat_inj.1 (by exact_mod_cast e))
theorem iw! (s:ByteArray)(hs:s.size<=65536)(hp:∀j (hj:j<s.size),hQ! s[j]=true)(w:World):Calls prog 95 #[.string s] w fun e w'=>∃v,e= .returned (.tuple #[v,.bool true])/\Own w' w.heap.size 9 1 v (txs (toksD s))/\Below w.heap.size w w':=by
 have aa:s.size<=9223372036854775807:=by omega
 have G:=h! hs;have B:=h! hp;have HD:Hid (toksD s=tokR s s.size 0 []):=h! rfl;clear hs hp;go_enter func95,ntmps95
 go_wp2_with fail
 go_loopw [4,5] (fun ov ii wr=>∃(i f:Nat) (out:List ByteArray),i<=s.size/\ii= .int .i64 i/\s.size-i<=f/\tokR s f i out=toksD s/\Own wr w.heap.size 9 1 ov (txs out)/\Below w.heap.size w wr/\out.length<=i) (fun _ ii _=>s.size-(intOf ii).toNat)
 case atStart=>exact⟨0,s.size,[],by omega,rfl,by omega,rfl,Own.nil _ _ _ _,Below.refl _ _,v1! _⟩
 case round =>
  obtain⟨i,f,out,hi,rfl,hf,hr,r,t,C⟩:=hrel;have HR:=h! hr;have q:=h! r;have l:=h! t;have b:=h! C;have I:=h! hf;clear hr r t C hf;by_cases hlt:i<s.size
  ·obtain⟨f,rfl⟩:∃g,f=g+1:=⟨f-1,by have:=I.out;omega⟩;have a:=B.out i hlt;have y:=h! (show(if s[i]=32 then tokR s f (i+1) out else if s[i]=61\/s[i]=124 then tokR s f (i+1) (out++[s.extract i (i+1)])else tokR s f (wdEnd s s.size i) (out++[s.extract i (wdEnd s s.size i)]))=toksD s from by rw[<-HR.out,tokR,dif_pos hlt]);by_cases h32:s[i]=32
   ·have H:Hid (tokR s f (i+1) out=toksD s):=h! (by rw[<-y.out,if_pos h32]);clear a;go_wp2_with fail
    go_roundw
    case rel=>exact⟨i+1,f,out,by omega,by go_num,by have:=I.out;omega,H.out,q.out,l.out,by have:=b.out;omega⟩
    case measure=>simp[intOf];omega
   ·have F:((s[i].toNat:Int) == 32)=false:=u8_ne (d:=32) h32
    have q9:((s[i].toNat:Int) == 9)=false:=u8_ne (d:=9) (by
     intro e;rw[e]at a;exact absurd a (by decide))
    by_cases hsg:s[i]=61\/s[i]=124
    ·have H:Hid (tokR s f (i+1) (out++[s.extract i (i+1)])=toksD s):=h! (by rw[<-y.out,if_neg h32,if_pos hsg]);clear a F q9 h32;rcases hsg with h61 | h124
     ·go_wp2_with (at_builtin;go_must (refine aq! hB! rfl (.tmp 43) (.tmp 49) rfl rfl q.out rfl rfl (by simp[Value.oneCell']) (by have:=b.out;have:=G.out;rw[af!];simp;omega) (by have:=b.out;have:=G.out;rw[af!];simp;omega) l.out.size ?_);intro v2 K hown2 hb2 hgr2)
      have p:=h! (l.out.trans hb2);have o:=h! (show Own K w.heap.size 9 1 v2 (txs (out++[s.extract i (i+1)]))from by rw[bo!];exact hown2);clear hown2 hb2 hgr2;go_wp2_with fail
      go_roundw
      case rel=>exact⟨i+1,f,_,by omega,by go_num,by have:=I.out;omega,H.out,o.out,p.out,by have:=b.out;simp;omega⟩
      case measure=>simp[intOf];omega
     ·go_wp2_with (at_builtin;go_must (refine aq! hB! rfl (.tmp 43) (.tmp 49) rfl rfl q.out rfl rfl (by simp[Value.oneCell']) (by have:=b.out;have:=G.out;rw[af!];simp;omega) (by have:=b.out;have:=G.out;rw[af!];simp;omega) l.out.size ?_);intro v2 K hown2 hb2 hgr2)
      have p:=h! (l.out.trans hb2);have o:=h! (show Own K w.heap.size 9 1 v2 (txs (out++[s.extract i (i+1)]))from by rw[bo!];exact hown2);clear hown2 hb2 hgr2;go_wp2_with fail
      go_roundw
      case rel=>exact⟨i+1,f,_,by omega,by go_num,by have:=I.out;omega,H.out,o.out,p.out,by have:=b.out;simp;omega⟩
      case measure=>simp[intOf];omega
    ·have J:isW s[i]=true:=by
      unfold hQ! at a;simp only[Bool.or_eq_true,u1!]at a;rcases a with h | h | h | h
      ·exact absurd h h32
      ·exact absurd (.inl h) hsg
      ·exact absurd (.inr h) hsg
      ·exact h
     have E:Hid (tokR s f (wdEnd s s.size i) (out++[s.extract i (wdEnd s s.size i)])=toksD s):=h! (by rw[<-y.out,if_neg h32,if_neg hsg]);have z:=h! (mS! hlt J);have a6:((s[i].toNat:Int) == 61)=false:=u8_ne (d:=61) (fun e=>hsg (.inl e));have x:((s[i].toNat:Int) == 124)=false:=u8_ne (d:=124) (fun e=>hsg (.inr e));have a7:((s[i].toNat:Int) == 38)=false:=u8_ne (d:=38) (by intro e;rw[e]at J;exact absurd J (by decide));have a5:((s[i].toNat:Int) == 40)=false:=u8_ne (d:=40) (by intro e;rw[e]at J;exact absurd J (by decide));have a2:((s[i].toNat:Int) == 41)=false:=u8_ne (d:=41) (by intro e;rw[e]at J;exact absurd J (by decide));have D:((s[i].toNat:Int) == 45)=false:=u8_ne (d:=45) (by intro e;rw[e]at J;exact absurd J (by decide));have c:=h! (fT! s[i] wr);rw[jI! a,J]at c;clear a h32 hsg J;go_wp2_with fail
     refine c.out.mono ?_;rintro e K ⟨rfl,rfl⟩;clear c F q9 a6 x a7 a5 a2 D;go_wp2_with fail
     rename World=>wo
     go_loopw [7] (fun nn wr=>∃(n g:Nat),n<=s.size/\nn= .int .i64 n/\s.size-n<=g/\wdEnd s g n=wdEnd s s.size i/\i<=n/\wr=wo) (fun nn _=>s.size-(intOf nn).toNat)
     case atStart=>exact⟨i,s.size,by omega,rfl,by omega,rfl,n0! _,rfl⟩
     case round =>
      obtain⟨n,g,hn,rfl,hg,he,a9,rfl⟩:=hrel;have HE:=h! he;have A:=h! hg;clear he hg;by_cases hln:n<s.size
      ·obtain⟨g,rfl⟩:∃k,g=k+1:=⟨g-1,by have:=A.out;omega⟩;have a:=B.out n hln;cases J:isW s[n] with
       | true =>
        have a8:Hid (wdEnd s g (n+1)=wdEnd s s.size i):=h! (by rw[<-HE.out,wdEnd,dif_pos hln,if_pos J]);have D:((s[n].toNat:Int) == 45)=false:=u8_ne (d:=45) (by intro e;rw[e]at J;exact absurd J (by decide));have c:=h! (fT! s[n] wr);rw[jI! a,J]at c;clear a J;go_wp2_with fail
        refine c.out.mono ?_;rintro e K ⟨rfl,rfl⟩;clear c;go_wp2_with fail
        go_roundw
        case rel=>exact⟨n+1,g,by omega,by go_num,by have:=A.out;omega,a8.out,by omega,trivial⟩
        case measure=>simp[intOf];omega
       | false =>
        have u:=h! (show n=wdEnd s s.size i from by rw[<-HE.out,wdEnd,dif_pos hln,if_neg (by rw[J];simp)]);have c:=h! (fT! s[n] wr);rw[jI! a,J]at c;clear a J;go_wp2_with fail
        refine c.out.mono ?_;rintro e K ⟨rfl,rfl⟩;clear c;have H:=h! (show tokR s f n (out++[s.extract i n])=toksD s from by rw[u.out];exact E.out);have m:=h! (show i<n from by rw[u.out];exact z.out);have a0:(0:Int)<=(i:Int):=by omega
        have a3:(i:Int)<=(n:Int):=by omega
        have a4:(n:Int)<=(s.size:Int):=by omega
        go_wp2_with (at_builtin;go_must (refine aq! hB! rfl (.tmp 112) (.tmp 117) rfl rfl q.out rfl rfl (by simp[Value.oneCell']) (by have:=b.out;have:=G.out;rw[af!];simp;omega) (by have:=b.out;have:=G.out;rw[af!];simp;omega) l.out.size ?_);intro v2 K hown2 hb2 hgr2)
        have p:=h! (l.out.trans hb2);have o:=h! (show Own K w.heap.size 9 1 v2 (txs (out++[s.extract i n]))from by rw[bo!];exact hown2);clear hown2 hb2 hgr2;go_wp2_with fail
        go_roundw
        case rel=>exact⟨n,f,_,by omega,by go_num,by have:=I.out;have:=m.out;omega,H.out,o.out,p.out,by have:=b.out;have:=m.out;simp;omega⟩
        case measure=>have:=m.out;simp[intOf];omega
      ·have u:=h! (show n=wdEnd s s.size i from by
        rw[<-HE.out];cases g with
        | zero=>rfl
        | succ g=>rw[wdEnd,dif_neg hln])
       have H:=h! (show tokR s f n (out++[s.extract i n])=toksD s from by rw[u.out];exact E.out);have m:=h! (show i<n from by rw[u.out];exact z.out);have a0:(0:Int)<=(i:Int):=by omega
       have a3:(i:Int)<=(n:Int):=by omega
       have a4:(n:Int)<=(s.size:Int):=by omega
       go_wp2_with (at_builtin;go_must (refine aq! hB! rfl (.tmp 112) (.tmp 117) rfl rfl q.out rfl rfl (by simp[Value.oneCell']) (by have:=b.out;have:=G.out;rw[af!];simp;omega) (by have:=b.out;have:=G.out;rw[af!];simp;omega) l.out.size ?_);intro v2 K hown2 hb2 hgr2)
       have p:=h! (l.out.trans hb2);have o:=h! (show Own K w.heap.size 9 1 v2 (txs (out++[s.extract i n]))from by rw[bo!];exact hown2);clear hown2 hb2 hgr2;go_wp2_with fail
       go_roundw
       case rel=>exact⟨n,f,_,by omega,by go_num,by have:=I.out;have:=m.out;omega,H.out,o.out,p.out,by have:=b.out;have:=m.out;simp;omega⟩
       case measure=>have:=m.out;simp[intOf];omega
  ·obtain rfl:i=s.size:=by omega
   have a1:Hid (toksD s=out):=h! (by rw[<-HR.out,mZ! (n0! _)]);go_wp2_with fail
   go_ret2
   exact⟨_,rfl,by rw[a1.out];exact q.out,l.out⟩
def leafD (x:ByteArray):RT:=if x=⟨#[116,104,105,115]⟩then .mk 1 ⟨#[]⟩ ⟨#[]⟩ []else .mk 2 x ⟨#[]⟩ []
def cut1 (b off c:Nat):Option Addr:=if c=1 then some ⟨b,off,none⟩else some ⟨b,off+1,none⟩
theorem am! {fn:Func}{p u v:Tmp}{ty:TypeId}(h:fn.results=#[.cell p ty,.tmp u,.tmp v])(tmps:Array Value)(P:Program)(w:World) :
  (results fn tmps).run P w=((asAddr (tmps.getD p undef)).run P w).andThen fun a w₁=>((loadVar ty a).run P w₁).andThen fun x w₂ => .ok (.tuple #[x,tmps.getD u undef,tmps.getD v undef]) w₂:=by
 simp only[results,h];simp[Sem.run_bind,Result.andThen]
theorem nm_ne {x y:ByteArray}(h:isNm x=true)(hy:isNm y=false):x≠y:=fun e=>by rw[e,hy]at h;cases h
theorem oR! {S:Nat->Prop}(x:ByteArray)(rest:List ByteArray)(v:Value)(w:World)(hSw:∀b,S b->b<w.heap.size)(hx:isNm x=true)(hr:∀h:0<rest.length,rest[0]≠⟨#[45,62]⟩)(h:Sl S w 1 v (txs (x::rest))) :
  Calls prog 203 #[v,.int .i64 0] w fun e w'=>∃v',e= .returned (.tuple #[rV (leafD x) (.slice none 0 0),v',.bool true])/\Sl S w' 1 v' (txs rest)/\Below w.heap.size w w':=by
 obtain⟨ao,n,c,rfl,hn,H,a8⟩:=h.len;rw[af!,Nat.mul_one]at hn;subst hn;obtain⟨b,j,D,hS,E⟩:=dx! h 0 (by simp);subst D;have HC:=h! (dx! h);have B:=h! hSw;clear hSw
 have l:=h! (show Sl S w 1 (.slice (cut1 b j c) rest.length (c-1)) (txs rest)from by
  have:=h.window (ao':=cut1 b j c) 1 (x::rest).length (by simp) (n0! _) (fun hc=>by unfold cut1;rw[if_neg hc];rfl);rwa[show((txs (x::rest)).drop 1).take ((x::rest).length-1)=txs rest from by rw[show(txs (x::rest)).drop 1=txs rest from rfl];exact List.take_of_length_le (by rw[af!];simp)]at this)
 have HR:=h! hr;have a:=h! (Blk.made w #[.int .i64 0,.string ⟨#[]⟩,.string ⟨#[]⟩,.slice none 0 0] 106);obtain⟨Q,G⟩:=e! (w.alloc (.cells #[.int .i64 0,.string ⟨#[]⟩,.string ⟨#[]⟩,.slice none 0 0] 106));rw[<-G]at a;have C:Ext w Q:=xa! G
 have i:=h! C;rw[show(x::rest)[0]=x from rfl,Nat.add_zero]at E;have hA:∀W,Ext w W->W.cell? ⟨b,j,none⟩=some (.string x):=fun W hW=>Ext.cell hW E;have a3:=hA Q C;have u:(x::rest).length=rest.length+1:=rfl;rw[u]at H
 have F:=h! (aA! x (by
  unfold isNm at hx;simp only[v0!,u1!]at hx;unfold maxLen;omega) Q)
 rw[hx]at F;have A:=aH! (nm_ne hx (y:=⟨#[40]⟩) (by decide));rw[<-u5!,show(⟨#[40]⟩:ByteArray).data.toList=[40]from rfl]at A;have r1:=a.out.cells;have f1:=a.out.free;rw[u];clear h hx hr E u;obtain⟨n2,I⟩:=e! rest.length;rw[<-I]at H l ⊢
 have J:=h! (show 1<=n2->∃y,Q.cell? ⟨b,j+1,none⟩=some (.string y)/\(y.toList == [45,62])=false from fun h1=>by
  obtain⟨b',a5,D,_,hc⟩:=HC.out 1 (by simp;omega);cases D;refine⟨_,Ext.cell C hc,?_⟩;have:=aH! (HR.out (by omega));rw[u5!];simpa using this)
 clear I C;subst G;have a0:¬ ((n2:Int)+1=0):=by omega
 have a2:(0:Int)<(n2:Int)+1:=by omega
 go_enter func203,ntmps203
 go_wp2_with fail
 refine F.out.mono ?_;rintro e w2 ⟨rfl,rfl⟩;clear F;obtain⟨N,L⟩:=e! (w.alloc (.cells #[.int .i64 0,.string ⟨#[]⟩,.string ⟨#[]⟩,.slice none 0 0] 106));rw[<-L]at a i r1 f1 a3 J ⊢;clear L;have a7:(1:Int)<=(n2:Int)+1:=by omega
 have a1:(n2:Int)+1<=(c:Int):=by omega
 have a6:(1:Int)<=(c:Int):=by omega
 by_cases h3:(3:Int)<=(n2:Int)+1
 ·obtain⟨y,a9,hy⟩:=J.out (by omega);have a4:(1:Int)<(n2:Int)+1:=by omega
  by_cases ht:x=⟨#[116,104,105,115]⟩
  ·subst ht;have z:Hid (leafD ⟨#[116,104,105,115]⟩= .mk 1 ⟨#[]⟩ ⟨#[]⟩ []):=h! rfl;go_wp2_with fail
   have M:Ext w N.drew:=i.out.trans (Ext.drew _);obtain⟨R,g⟩:=e! N.drew;have s:Ext N R:=by rw[g];exact Ext.drew N
   refine r! (Ext w) M ?_;rw[<-g]at M ⊢;clear g;have a:=h! (a.out.below s);have i:=h! M;(refine WalkN.tk [0,1] ?_;(iterate 2 (refine c! ?_));refine TkN.n ?_)
   refine WalkN.take 2 _ (.slice (cut1 b j c) n2 (c-1)) (by simp only[gA,gS,gZ];rfl) (by kernel_rfl) (by kernel_rfl) (by rfl) (fun W hW=>?_) ?_
   ·unfold cut1;go_simp;try with_reducible rfl
   simp only[Act.put,pA,pZ,pS];have rd:=a.out.cells;have fd:=a.out.free;have p:=a.out.set_to 0 (.int .i64 1) rfl;have o:=p.set_to 1 (.string ⟨#[]⟩) rfl;have k:=o.set_to 2 (.string ⟨#[]⟩) rfl;have m:=k.set_to 3 (.slice none 0 0) rfl;have t:=h! m;have f:Hid (Ext w ((((R.setCell ⟨w.heap.size,0,none⟩ (.int .i64 1)).setCell ⟨w.heap.size,1,none⟩ (.string ⟨#[]⟩)).setCell ⟨w.heap.size,2,none⟩ (.string ⟨#[]⟩)).setCell ⟨w.heap.size,3,none⟩ (.slice none 0 0))):=h! ((((i.out.setCell (n0! _) _).setCell (n0! _) _).setCell (n0! _) _).setCell (n0! _) _);clear p o k m;refine ob! 3 ?_;intro K hK;go_simp;refine hK.out _ _ f.out ?_;clear hK;have M:=f.out;(refine WalkN.tk [4,5] ?_;(iterate 2 (refine c! ?_));refine TkN.n ?_)
   refine d! ?_;go_wp2_with fail
   refine bodyPost_ret (v := .tuple #[.agg #[.int .i64 1,.string ⟨#[]⟩,.string ⟨#[]⟩,.slice none 0 0],.slice (cut1 b j c) n2 (c-1),.bool true]) ?_ rfl ⟨_,by rw[z.out];rfl,?_,f.out⟩
   ·rw[am! rfl];have O:=run_loadVar_row (P:=prog) _ w.heap.size _ 106 _ _ _ t.out Tryz.underlying106 rfl (by kernel_rfl);simp[asAddr,O,Result.andThen]
   ·exact l.out.same ((Same.below f.out).mono B.out)
  ·have q:=aH! ht;rw[<-u5!,show(⟨#[116,104,105,115]⟩:ByteArray).data.toList=[116,104,105,115]from rfl]at q;have z:Hid (leafD x= .mk 2 x ⟨#[]⟩ []):=h! (if_neg ht);clear ht;go_wp2_with fail
   have M:Ext w N.drew:=i.out.trans (Ext.drew _);obtain⟨R,g⟩:=e! N.drew;have s:Ext N R:=by rw[g];exact Ext.drew N
   refine r! (Ext w) M ?_;rw[<-g]at M ⊢;clear g;have a:=h! (a.out.below s);have i:=h! M;(refine WalkN.tk [0,1,2,3,4] ?_;(iterate 5 (refine c! ?_));refine TkN.n ?_)
   refine WalkN.take 5 _ (.slice (cut1 b j c) n2 (c-1)) (by simp only[gA,gS,gZ];rfl) (by kernel_rfl) (by kernel_rfl) (by rfl) (fun W hW=>?_) ?_
   ·unfold cut1;go_simp;try with_reducible rfl
   simp only[Act.put,pA,pZ,pS];have rd:=a.out.cells;have fd:=a.out.free;have p:=a.out.set_to 0 (.int .i64 2) rfl;have o:=p.set_to 1 (.string x) rfl;have k:=o.set_to 2 (.string ⟨#[]⟩) rfl;have m:=k.set_to 3 (.slice none 0 0) rfl;have t:=h! m;have f:Hid (Ext w ((((R.setCell ⟨w.heap.size,0,none⟩ (.int .i64 2)).setCell ⟨w.heap.size,1,none⟩ (.string x)).setCell ⟨w.heap.size,2,none⟩ (.string ⟨#[]⟩)).setCell ⟨w.heap.size,3,none⟩ (.slice none 0 0))):=h! ((((i.out.setCell (n0! _) _).setCell (n0! _) _).setCell (n0! _) _).setCell (n0! _) _);clear p o k m;refine ob! 6 ?_;intro K hK;go_simp;refine hK.out _ _ f.out ?_;clear hK;have M:=f.out;(refine WalkN.tk [7,8] ?_;(iterate 2 (refine c! ?_));refine TkN.n ?_)
   refine d! ?_;go_wp2_with fail
   refine bodyPost_ret (v := .tuple #[.agg #[.int .i64 2,.string x,.string ⟨#[]⟩,.slice none 0 0],.slice (cut1 b j c) n2 (c-1),.bool true]) ?_ rfl ⟨_,by rw[z.out];rfl,?_,f.out⟩
   ·rw[am! rfl];have O:=run_loadVar_row (P:=prog) _ w.heap.size _ 106 _ _ _ t.out Tryz.underlying106 rfl (by kernel_rfl);simp[asAddr,O,Result.andThen]
   ·exact l.out.same ((Same.below f.out).mono B.out)
 ·skip
  by_cases ht:x=⟨#[116,104,105,115]⟩
  ·subst ht;have z:Hid (leafD ⟨#[116,104,105,115]⟩= .mk 1 ⟨#[]⟩ ⟨#[]⟩ []):=h! rfl;go_wp2_with fail
   have M:Ext w N.drew:=i.out.trans (Ext.drew _);obtain⟨R,g⟩:=e! N.drew;have s:Ext N R:=by rw[g];exact Ext.drew N
   refine r! (Ext w) M ?_;rw[<-g]at M ⊢;clear g;have a:=h! (a.out.below s);have i:=h! M;(refine WalkN.tk [0,1] ?_;(iterate 2 (refine c! ?_));refine TkN.n ?_)
   refine WalkN.take 2 _ (.slice (cut1 b j c) n2 (c-1)) (by simp only[gA,gS,gZ];rfl) (by kernel_rfl) (by kernel_rfl) (by rfl) (fun W hW=>?_) ?_
   ·unfold cut1;go_simp;try with_reducible rfl
   simp only[Act.put,pA,pZ,pS];have rd:=a.out.cells;have fd:=a.out.free;have p:=a.out.set_to 0 (.int .i64 1) rfl;have o:=p.set_to 1 (.string ⟨#[]⟩) rfl;have k:=o.set_to 2 (.string ⟨#[]⟩) rfl;have m:=k.set_to 3 (.slice none 0 0) rfl;have t:=h! m;have f:Hid (Ext w ((((R.setCell ⟨w.heap.size,0,none⟩ (.int .i64 1)).setCell ⟨w.heap.size,1,none⟩ (.string ⟨#[]⟩)).setCell ⟨w.heap.size,2,none⟩ (.string ⟨#[]⟩)).setCell ⟨w.heap.size,3,none⟩ (.slice none 0 0))):=h! ((((i.out.setCell (n0! _) _).setCell (n0! _) _).setCell (n0! _) _).setCell (n0! _) _);clear p o k m;refine ob! 3 ?_;intro K hK;go_simp;refine hK.out _ _ f.out ?_;clear hK;have M:=f.out;(refine WalkN.tk [4,5] ?_;(iterate 2 (refine c! ?_));refine TkN.n ?_)
   refine d! ?_;go_wp2_with fail
   refine bodyPost_ret (v := .tuple #[.agg #[.int .i64 1,.string ⟨#[]⟩,.string ⟨#[]⟩,.slice none 0 0],.slice (cut1 b j c) n2 (c-1),.bool true]) ?_ rfl ⟨_,by rw[z.out];rfl,?_,f.out⟩
   ·rw[am! rfl];have O:=run_loadVar_row (P:=prog) _ w.heap.size _ 106 _ _ _ t.out Tryz.underlying106 rfl (by kernel_rfl);simp[asAddr,O,Result.andThen]
   ·exact l.out.same ((Same.below f.out).mono B.out)
  ·have q:=aH! ht;rw[<-u5!,show(⟨#[116,104,105,115]⟩:ByteArray).data.toList=[116,104,105,115]from rfl]at q;have z:Hid (leafD x= .mk 2 x ⟨#[]⟩ []):=h! (if_neg ht);clear ht;go_wp2_with fail
   have M:Ext w N.drew:=i.out.trans (Ext.drew _);obtain⟨R,g⟩:=e! N.drew;have s:Ext N R:=by rw[g];exact Ext.drew N
   refine r! (Ext w) M ?_;rw[<-g]at M ⊢;clear g;have a:=h! (a.out.below s);have i:=h! M;(refine WalkN.tk [0,1,2,3,4] ?_;(iterate 5 (refine c! ?_));refine TkN.n ?_)
   refine WalkN.take 5 _ (.slice (cut1 b j c) n2 (c-1)) (by simp only[gA,gS,gZ];rfl) (by kernel_rfl) (by kernel_rfl) (by rfl) (fun W hW=>?_) ?_
   ·unfold cut1;go_simp;try with_reducible rfl
   simp only[Act.put,pA,pZ,pS];have rd:=a.out.cells;have fd:=a.out.free;have p:=a.out.set_to 0 (.int .i64 2) rfl;have o:=p.set_to 1 (.string x) rfl;have k:=o.set_to 2 (.string ⟨#[]⟩) rfl;have m:=k.set_to 3 (.slice none 0 0) rfl;have t:=h! m;have f:Hid (Ext w ((((R.setCell ⟨w.heap.size,0,none⟩ (.int .i64 2)).setCell ⟨w.heap.size,1,none⟩ (.string x)).setCell ⟨w.heap.size,2,none⟩ (.string ⟨#[]⟩)).setCell ⟨w.heap.size,3,none⟩ (.slice none 0 0))):=h! ((((i.out.setCell (n0! _) _).setCell (n0! _) _).setCell (n0! _) _).setCell (n0! _) _);clear p o k m;refine ob! 6 ?_;intro K hK;go_simp;refine hK.out _ _ f.out ?_;clear hK;have M:=f.out;(refine WalkN.tk [7,8] ?_;(iterate 2 (refine c! ?_));refine TkN.n ?_)
   refine d! ?_;go_wp2_with fail
   refine bodyPost_ret (v := .tuple #[.agg #[.int .i64 2,.string x,.string ⟨#[]⟩,.slice none 0 0],.slice (cut1 b j c) n2 (c-1),.bool true]) ?_ rfl ⟨_,by rw[z.out];rfl,?_,f.out⟩
   ·rw[am! rfl];have O:=run_loadVar_row (P:=prog) _ w.heap.size _ 106 _ _ _ t.out Tryz.underlying106 rfl (by kernel_rfl);simp[asAddr,O,Result.andThen]
   ·exact l.out.same ((Same.below f.out).mono B.out)
theorem ruleT:pN! prog 104 106 4 64:=pN!.mk' Tryz.underlying104 (show _=some (some (.agg #[.int .i64 0,.string ByteArray.empty,.string ByteArray.empty,.slice none 0 0]),4,64)by kernel_rfl) rfl (by decide)
theorem jE! (x:ByteArray):((leafD x).k=1\/(leafD x).k=2)/\(leafD x).ps=[]:=by
 unfold leafD;split <;> simp[RT.k,RT.ps]
def leafQ (r:RT):RT × Value:=(r,.slice none 0 0)
def cd! (l:List RT):List Value:=(l.map leafQ).flatMap rC
theorem aL! (l:List RT):(cd! l).length=l.length*4:=by
 induction l with
 | nil=>rfl
 | cons x l ih=>simp only[cd!,v8!,y5!,u4!,u7!]at ih ⊢;rw[ih];simp[rC];omega
theorem dg! (a b:List RT):cd! (a++b)=cd! a++cd! b:=by simp[cd!]
theorem RTAt.leaf (S:Nat->Prop)(w:World) {r:RT}(h:r.ps=[]):RTAt S w r (.slice none 0 0):=(RTAt.iff _ _).2 ⟨[],by rw[h];rfl,by simp,Sl.nil _ _ _⟩
theorem eN! {S:Nat->Prop}{w:World}{v:Value}{l:List RT}(h:Sl S w 4 v (cd! l)):∃ao c,v= .slice ao l.length c/\l.length<=c/\c<=9223372036854775807/\∀i (hi:i<l.length),∃b off,ao=some ⟨b,off,none⟩/\S b/\w.cell? ⟨b,off+i*4,none⟩=some (.int .i64 l[i].k)/\w.cell? ⟨b,off+i*4+1,none⟩=some (.string l[i].a)/\w.cell? ⟨b,off+i*4+2,none⟩=some (.string l[i].b)/\w.cell? ⟨b,off+i*4+3,none⟩=some (.slice none 0 0):=by
 obtain⟨ao,c,rfl,h4,h5,hc⟩:=Sl.rows gN! (by decide) h;rw[x1!]at h4 ⊢;refine⟨ao,c,rfl,h4,h5,fun i hi=>?_⟩;obtain⟨b,off,rfl,hb,hc⟩:=hc (by rw[x1!];omega);have hx:(l.map leafQ)[i]'(by rw[x1!];exact hi)=leafQ l[i]:=List.getElem_map _;have d:=hc i (by rw[x1!];exact hi);rw[hx]at d;exact⟨b,off,rfl,hb,d 0 _ rfl,d 1 _ rfl,d 2 _ rfl,d 3 _ rfl⟩
theorem fh! {S:Nat->Prop}{w:World}{ao:Option Addr}{n c:Nat}{l:List ByteArray}(h:Sl S w 1 (.slice ao n c) (txs l))(hl:0<l.length):∃b off,ao=some ⟨b,off,none⟩/\S b/\w.cell? ⟨b,off,none⟩=some (.string l[0]):=by
 obtain⟨a0,n',c',hv,h1,h2,h3,h4,h5⟩:=h;cases hv;obtain⟨b,off,rfl,hb,hc⟩:=h5 (fun e=>by have:=congrArg List.length e;rw[af!]at this;simp only[v6!]at this;omega);exact⟨b,off,rfl,hb,hc 0 _ (by simp[txs,hl])⟩
theorem fU! {S:Nat->Prop}(x:ByteArray)(rest:List ByteArray)(v:Value)(w:World)(hSw:∀b,S b->b<w.heap.size)(hx:isNm x=true)(hr:∀h:0<rest.length,rest[0]≠⟨#[45,62]⟩/\rest[0]≠⟨#[38]⟩)(h:Sl S w 1 v (txs (x::rest))) :
  Calls prog 150 #[v,.int .i64 0,.string ⟨#[38]⟩,.int .i64 5] w fun e w'=>∃v',e= .returned (.tuple #[rV (leafD x) (.slice none 0 0),v',.bool true])/\Sl S w' 1 v' (txs rest)/\Below w.heap.size w w':=by
 obtain⟨w1,E⟩:=e! (w.alloc (.cells #[.int .i64 0,.string ⟨#[]⟩,.string ⟨#[]⟩,.slice none 0 0] 106));obtain⟨w2,T⟩:=e! (w1.alloc (.cells #[.int .i64 0,.string ⟨#[]⟩,.string ⟨#[]⟩,.slice none 0 0] 106));have e1:w1.heap.size=w.heap.size+1:=by rw[E];simp
 have X:Ext w w1:=xa! E
 have K:Ext w1 w2:=xa! T
 have Z:=h! (show Blk w2 w.heap.size #[.int .i64 0,.string ⟨#[]⟩,.string ⟨#[]⟩,.slice none 0 0] 106 from Blk.below (bm! E) K);have V:=h! (show Blk w2 (w.heap.size+1) #[.int .i64 0,.string ⟨#[]⟩,.string ⟨#[]⟩,.slice none 0 0] 106 from by rw[T,<-e1];exact Blk.made _ _ _);have B:Hid (Below w.heap.size w w2):=h! (X.trans K);have g:=h! hSw;have G:=h! (oR! (S:=S) x rest v w2 (fun b hb=>n1! (g.out b hb) B.out.size) hx (fun h=>(hr h).1) (h.same ((Same.below B.out).mono g.out)));have HR:=h! hr;have a7:=h! (jE! x);obtain⟨ao,n,c,rfl,hn,aa,ae⟩:=h.len;clear hn hr h hSw;subst T E;clear e1 X K;generalize leafD x=r at *;unfold rV at G ⊢;go_enter func150,ntmps150
 go_wp2_with fail
 go_loopw [0,11] (fun lv pv wr=>lv= .slice ao n c/\pv= .slice none 0 0/\wr=w.alloc (.cells #[.int .i64 0,.string ⟨#[]⟩,.string ⟨#[]⟩,.slice none 0 0] 106)) (fun _ _ _=>0)
 case atStart=>exact⟨rfl,rfl,rfl⟩
 case round =>
  obtain⟨rfl,rfl,rfl⟩:=hrel;go_wp2_with fail
  refine G.out.mono ?_;rintro e w3 ⟨v3,rfl,m,C⟩;have F:=h! (Z.out.below C);have D:=h! (V.out.below C);have u:=h! (B.out.trans (C.mono B.out.size));have j:=h! m;obtain⟨a2,n3,c3,rfl,N,a4,a1⟩:=m.len;clear C Z V B G m;have p3:=D.out.cells;have q3:=D.out.free;obtain⟨br,a0⟩:=e! (w.heap.size+1);rw[<-a0]at D p3 q3 ⊢;rw[af!,Nat.mul_one]at N;have M:=h! N;have t:=D.out.set_to 0 (.int .i64 r.k) rfl;have s:=t.set_to 1 (.string r.a) rfl;have q:=s.set_to 2 (.string r.b) rfl;have A:=q.set_to 3 (.slice none 0 0) rfl
  have ac:(r.k == 5)=false:=by
   have:=a7.out.1;rw[n7!];omega
  have z:=h! (show Kept (fun b=>S b\/b=w.heap.size) w3 ((((w3.setCell ⟨br,0,none⟩ (.int .i64 r.k)).setCell ⟨br,1,none⟩ (.string r.a)).setCell ⟨br,2,none⟩ (.string r.b)).setCell ⟨br,3,none⟩ (.slice none 0 0))from by
   have d:¬ (S br\/br=w.heap.size):=by
    rintro(h | h)
    ·have:=g.out _ h;omega
    ·omega
   exact((((Kept.refl _ _).set d _).set d _).set d _).set d _)
  have Y:Hid (Below w.heap.size w ((((w3.setCell ⟨br,0,none⟩ (.int .i64 r.k)).setCell ⟨br,1,none⟩ (.string r.a)).setCell ⟨br,2,none⟩ (.string r.b)).setCell ⟨br,3,none⟩ (.slice none 0 0))):=h! ((((u.out.setCell (show w.heap.size<=br by omega) _).setCell (show w.heap.size<=br by omega) _).setCell (show w.heap.size<=br by omega) _).setCell (show w.heap.size<=br by omega) _);clear t s q A a0 N;by_cases h0:n3=0
  ·subst h0;go_wp2_with (at_builtin;go_must (refine aq! ruleT rfl (.tmp 42) (.tmp 44) rfl rfl (Own.nil _ w3.heap.size _ _) (by show Value.slice (some ⟨w3.heap.size,0,none⟩) 1 1=_;simp) rfl (by simp[Value.oneCell']) (by simp) (by simp) (by simp) ?_);intro v4 w4 hown4 hb4 hgr4;have L:Hid (Own w4 w3.heap.size 106 4 v4 (cd! [r])):=h! hown4;have p:Hid (Blk w4 w.heap.size #[.int .i64 0,.string ⟨#[]⟩,.string ⟨#[]⟩,.slice none 0 0] 106):=h! ((hb4.block _ F.out.lt).trans (z.out.blk F.out (.inr rfl)));have U:=h! (Y.out.trans (hb4.mono u.out.size));have Q:=h! (j.out.same (fun b hb=>(hb4.block b (n1! (g.out b hb) u.out.size)).trans (z.out.block b (.inl hb))));obtain⟨a8,c4,rfl,o,O,f⟩:=eN! L.out.sl;obtain⟨g4,R,rfl,a5,k0,k1,k2,k3⟩:=f 0 (by simp);simp only[Nat.zero_mul,Nat.add_zero,List.getElem_cons_zero]at k0 k1 k2 k3;clear hown4 hb4 hgr4 f o;have r4:=p.out.cells;have f4:=p.out.free)
   have t:=p.out.set_to 0 (.int .i64 r.k) rfl;have s:=t.set_to 1 (.string r.a) rfl;have q:=s.set_to 2 (.string r.b) rfl;have A:=q.set_to 3 (.slice none 0 0) rfl;have J:=setAt (i:=3) (v := .slice none 0 0) (setAt (i:=2) (v := .string r.b) (setAt (i:=1) (v := .string r.a) (setAt (i:=0) (v := .int .i64 r.k) U.out)));have d:¬ S w.heap.size:=fun h=>by have:=g.out _ h;omega
   have I:=((((Kept.refl S w4).set (a:=⟨w.heap.size,0,none⟩) d (.int .i64 r.k)).set (a:=⟨w.heap.size,1,none⟩) d (.string r.a)).set (a:=⟨w.heap.size,2,none⟩) d (.string r.b)).set (a:=⟨w.heap.size,3,none⟩) d (.slice none 0 0);refine bodyPost_ret (v := .tuple #[.agg #[.int .i64 r.k,.string r.a,.string r.b,.slice none 0 0],.slice a2 0 c3,.bool true]) ?_ rfl ⟨_,rfl,Q.out.same I.block,J⟩;rw[am! rfl];have hl:=run_loadVar_row (P:=prog) _ w.heap.size _ 106 _ _ _ A Tryz.underlying106 rfl (by kernel_rfl);simp[asAddr,hl,Result.andThen]
  ·obtain⟨b5,l,rfl,a9,a6⟩:=fh! j.out (by have:=M.out;omega);have a3:=aH! (HR.out (by have:=M.out;omega)).2;rw[<-u5!,show(⟨#[38]⟩:ByteArray).data.toList=[38]from rfl]at a3;have ab:((n3:Int) == 0)=false:=by rw[n7!];omega
   have ad:(0:Int)<(n3:Int):=by omega
   generalize rest[0]'(by have:=M.out;omega)=y at *;go_wp2_with (at_builtin;go_must (refine aq! ruleT rfl (.tmp 42) (.tmp 44) rfl rfl (Own.nil _ w3.heap.size _ _) (by show Value.slice (some ⟨w3.heap.size,0,none⟩) 1 1=_;simp) rfl (by simp[Value.oneCell']) (by simp) (by simp) (by simp) ?_);intro v4 w4 hown4 hb4 hgr4;have L:Hid (Own w4 w3.heap.size 106 4 v4 (cd! [r])):=h! hown4;have p:Hid (Blk w4 w.heap.size #[.int .i64 0,.string ⟨#[]⟩,.string ⟨#[]⟩,.slice none 0 0] 106):=h! ((hb4.block _ F.out.lt).trans (z.out.blk F.out (.inr rfl)));have U:=h! (Y.out.trans (hb4.mono u.out.size));have H:Hid (∀b,S b->w4.heap[b]?=w3.heap[b]?):=h! (fun b hb=>(hb4.block b (n1! (g.out b hb) u.out.size)).trans (z.out.block b (.inl hb)));have Q:=h! (j.out.same (fun b hb=>(hb4.block b (n1! (g.out b hb) u.out.size)).trans (z.out.block b (.inl hb))));obtain⟨a8,c4,rfl,o,O,f⟩:=eN! L.out.sl;obtain⟨g4,R,rfl,a5,k0,k1,k2,k3⟩:=f 0 (by simp);simp only[Nat.zero_mul,Nat.add_zero,List.getElem_cons_zero]at k0 k1 k2 k3;clear hown4 hb4 hgr4 f o;have r4:=p.out.cells;have f4:=p.out.free;have d5:w4.cell? ⟨b5,l,none⟩=some (.string y):=(World.cell?_of_block (a:=⟨b5,l,none⟩) (H.out b5 a9)).trans a6)
   have t:=p.out.set_to 0 (.int .i64 r.k) rfl;have s:=t.set_to 1 (.string r.a) rfl;have q:=s.set_to 2 (.string r.b) rfl;have A:=q.set_to 3 (.slice none 0 0) rfl;have J:=setAt (i:=3) (v := .slice none 0 0) (setAt (i:=2) (v := .string r.b) (setAt (i:=1) (v := .string r.a) (setAt (i:=0) (v := .int .i64 r.k) U.out)));have d:¬ S w.heap.size:=fun h=>by have:=g.out _ h;omega
   have I:=((((Kept.refl S w4).set (a:=⟨w.heap.size,0,none⟩) d (.int .i64 r.k)).set (a:=⟨w.heap.size,1,none⟩) d (.string r.a)).set (a:=⟨w.heap.size,2,none⟩) d (.string r.b)).set (a:=⟨w.heap.size,3,none⟩) d (.slice none 0 0);refine bodyPost_ret (v := .tuple #[.agg #[.int .i64 r.k,.string r.a,.string r.b,.slice none 0 0],.slice (some ⟨b5,l,none⟩) n3 c3,.bool true]) ?_ rfl ⟨_,rfl,Q.out.same I.block,J⟩;rw[am! rfl];have hl:=run_loadVar_row (P:=prog) _ w.heap.size _ 106 _ _ _ A Tryz.underlying106 rfl (by kernel_rfl);simp[asAddr,hl,Result.andThen]
def barT:List ByteArray->List ByteArray
 | [] => []
 | y::ys=>⟨#[124]⟩::y::barT ys
def altT (x:ByteArray)(ys:List ByteArray):List ByteArray:=x::barT ys
def altR (x:ByteArray)(ys:List ByteArray):RT:=if ys=[]then leafD x else .mk 4 ⟨#[]⟩ ⟨#[]⟩ ((x::ys).map leafD)
theorem dd! (ys:List ByteArray):(barT ys).length=2*ys.length:=by
 induction ys with
 | nil=>rfl
 | cons y ys ih=>rw[barT,u7!,u7!,ih,u7!];omega
theorem nD! {l:List ByteArray}{ps qs:List RT}(h:ps++qs=l.map leafD):∀r∈ps,r.ps=[]:=fun r hr=>by
 have:=List.mem_append_left qs hr;rw[h]at this;obtain⟨x,_,rfl⟩:=u6!.1 this;exact(jE! x).2
theorem RTAt.leafs {S:Nat->Prop}{w:World}{v:Value}{ps:List RT}(hp:∀r∈ps,r.ps=[])(h:Sl S w 4 v (cd! ps))(k:Int)(a b:ByteArray):RTAt S w (.mk k a b ps) v :=
 (RTAt.iff _ _).2 ⟨ps.map leafQ,by rw[List.map_map];exact(List.map_congr_left fun _ _=>rfl).trans (List.map_id _),fun x hx=>by
  obtain⟨r,hr,rfl⟩:=u6!.1 hx;exact RTAt.leaf S w (hp r hr),h⟩
theorem ps! {r:RT}{x:ByteArray}{ys:List ByteArray}(h : [r]=(x::ys).map leafD):altR x ys=r:=by
 cases ys with
 | nil=>unfold altR;rw[if_pos rfl];simpa using h.symm
 | cons y ys=>simp at h
theorem oi! {ps:List RT}{x:ByteArray}{ys:List ByteArray}(h:ps=(x::ys).map leafD)(h2:2<=ps.length):altR x ys= .mk 4 ⟨#[]⟩ ⟨#[]⟩ ps:=by
 cases ys with
 | nil=>subst h;simp at h2
 | cons y ys=>unfold altR;rw[if_neg (by simp),h]
def px!:Value->Nat | .slice _ n _=>n | _=>0
theorem fV! {S:Nat->Prop}(x0:ByteArray)(ys0:List ByteArray)(v:Value)(w:World)(hSw:∀b,S b->b<w.heap.size)(hx0:∀z∈x0::ys0,isNm z=true)(hl0:ys0.length<=100000)(h:Sl S w 1 v (txs (altT x0 ys0))) :
  Calls prog 150 #[v,.int .i64 0,.string ⟨#[124]⟩,.int .i64 4] w fun e w'=>∃v' pv,e= .returned (.tuple #[rV (altR x0 ys0) pv,v',.bool true])/\Sl S w' 1 v' []/\RTAt (fun b=>w.heap.size<=b/\b<w'.heap.size) w' (altR x0 ys0) pv/\Below w.heap.size w w':=by
 have q:=h! hSw;have aE:=h! hx0;have aM:=h! hl0;have a2:=h! h;have ai:=h! (Blk.made w #[.int .i64 0,.string ⟨#[]⟩,.string ⟨#[]⟩,.slice none 0 0] 106);have a8:=h! (Ext.alloc w (.cells #[.int .i64 0,.string ⟨#[]⟩,.string ⟨#[]⟩,.slice none 0 0] 106));clear hSw hx0 hl0 h;obtain⟨ao,n,c,rfl,-,-,-⟩:=a2.out.len;go_enter func150,ntmps150
 go_wp2_with fail
 go_loopw [0,11] (fun lv pv wr=>∃(ps:List RT) (x:ByteArray) (ys:List ByteArray),(∀z∈x::ys,isNm z=true)/\Sl S wr 1 lv (txs (altT x ys))/\Own wr (w.heap.size+1) 106 4 pv (cd! ps)/\ps++(x::ys).map leafD=(x0::ys0).map leafD/\Blk wr w.heap.size #[.int .i64 0,.string ⟨#[]⟩,.string ⟨#[]⟩,.slice none 0 0] 106/\Below w.heap.size w wr) (fun lv _ _=>px! lv)
 case atStart=>exact⟨[],x0,ys0,aE.out,a2.out.same ((Same.below a8.out).mono q.out),Own.nil _ _ _ _,rfl,ai.out,a8.out⟩
 case round =>
  obtain⟨ps,x,ys,aq,a3,a6,R,ag,p⟩:=hrel;have l:=h! R;have ax:=h! aq;obtain⟨aO,n1,c1,rfl,a0,aH,aL⟩:=a3.len;rw[af!,Nat.mul_one]at a0;have aK:=h! a0;have E:Ext wr (wr.alloc (.cells #[.int .i64 0,.string ⟨#[]⟩,.string ⟨#[]⟩,.slice none 0 0] 106)):=Ext.alloc _ _;have T:=h! (show ∀b,S b->b<wr.heap.size from fun b hb=>n1! (q.out b hb) p.size)
  have a5:=h! (fU! (S:=S) x (barT ys) _ (wr.alloc (.cells #[.int .i64 0,.string ⟨#[]⟩,.string ⟨#[]⟩,.slice none 0 0] 106)) (fun b hb=>n1! (T.out b hb) E.size) (ax.out x y4!) (fun hpos=>by
   cases ys with
   | nil=>exact absurd hpos (by simp[barT])
   | cons y ys=>exact⟨by unfold barT;rw[List.getElem_cons_zero];decide,by unfold barT;rw[List.getElem_cons_zero];decide⟩) (a3.same ((Same.below E).mono T.out)))
  have am:=h! (ag.below E);have av:=h! (Blk.made wr #[.int .i64 0,.string ⟨#[]⟩,.string ⟨#[]⟩,.slice none 0 0] 106);have V:=h! (a6.below E);have al:=h! (jE! x);have af:=h! (show(x::ys).map leafD=leafD x::ys.map leafD from rfl);have X:=h! (fun g hg=>(a6.block g hg).2);have ae:=h! (p.trans (E.mono p.size));have ar:Hid (w.heap.size+1<=wr.heap.size):=h! ag.lt
  have C:=h! (show ps.length+1<=100001 from by
   have:=congrArg List.length l.out;have:=aM.out;simp at *;omega)
  clear a0 a3 a6 R ag p aq a8 ai a2 E;unfold rV at a5;generalize leafD x=r at *;go_wp2_with fail
  refine a5.out.mono ?_;rintro e w3 ⟨v3,rfl,s,L⟩;have a4:=h! (am.out.below L);have O:=h! (av.out.below L);have aF:=h! (ae.out.trans (L.mono ae.out.size));have j:=h! s;have Y:=V.out.below L;have aj:Hid (wr.heap.size<w3.heap.size):=h! O.out.lt;obtain⟨ap,n3,c3,rfl,ab,aG,aJ⟩:=s.len;rw[af!,Nat.mul_one,dd!]at ab;have a7:=h! ab;obtain⟨br,ay⟩:=e! wr.heap.size;rw[<-ay]at O ar X aj ⊢;have p3:=O.out.cells;have q3:=O.out.free;have ah:=ar.out;have H:=O.out.set_to 0 (.int .i64 r.k) rfl;have G:=H.set_to 1 (.string r.a) rfl;have I:=G.set_to 2 (.string r.b) rfl;have M:=I.set_to 3 (.slice none 0 0) rfl
  have aV:(r.k == 4)=false:=by
   have:=al.out.1;rw[n7!];omega
  have F:=h! (show Kept (fun b=>S b\/b=w.heap.size) w3 ((((w3.setCell ⟨br,0,none⟩ (.int .i64 r.k)).setCell ⟨br,1,none⟩ (.string r.a)).setCell ⟨br,2,none⟩ (.string r.b)).setCell ⟨br,3,none⟩ (.slice none 0 0))from by
   have d:¬ (S br\/br=w.heap.size):=by
    rintro(h | h)
    ·have:=q.out _ h;omega
    ·omega
   exact((((Kept.refl _ _).set d _).set d _).set d _).set d _)
  have a9:Hid (Below w.heap.size w ((((w3.setCell ⟨br,0,none⟩ (.int .i64 r.k)).setCell ⟨br,1,none⟩ (.string r.a)).setCell ⟨br,2,none⟩ (.string r.b)).setCell ⟨br,3,none⟩ (.slice none 0 0))):=h! ((((aF.out.setCell (show w.heap.size<=br by omega) _).setCell (show w.heap.size<=br by omega) _).setCell (show w.heap.size<=br by omega) _).setCell (show w.heap.size<=br by omega) _);have B:=h! (show w.heap.size+1<=(((((w3.setCell ⟨br,0,none⟩ (.int .i64 r.k)).setCell ⟨br,1,none⟩ (.string r.a)).setCell ⟨br,2,none⟩ (.string r.b)).setCell ⟨br,3,none⟩ (.slice none 0 0))).heap.size from by have:=aj.out;simp;omega)
  have A:=h! (show Own ((((w3.setCell ⟨br,0,none⟩ (.int .i64 r.k)).setCell ⟨br,1,none⟩ (.string r.a)).setCell ⟨br,2,none⟩ (.string r.b)).setCell ⟨br,3,none⟩ (.slice none 0 0)) (w.heap.size+1) 106 4 u11 (cd! ps)from by
   have d:∀g,u11.ownBlock=some g->g≠br:=fun g hg e=>by have:=X.out g hg;omega
   exact Y.keepOwn fun g hg=>by
    have h:=d g hg;rw[Below.heap_setCell _ _ _ _ h,Below.heap_setCell _ _ _ _ h,Below.heap_setCell _ _ _ _ h,Below.heap_setCell _ _ _ _ h])
  clear H G I M ay ab L Y am av ae a5 s ah V;cases ys with
  | nil =>
   obtain rfl:n3=0:=by have:=a7.out;simp at this;omega
   have J:=C.out;by_cases hp0:ps=[]
   ·subst hp0;go_wp2_with (at_builtin;go_must (refine aq! ruleT rfl (.tmp 42) (.tmp 44) rfl rfl A.out (by show Value.slice (some ⟨w3.heap.size,0,none⟩) 1 1=_;simp) rfl (by simp[Value.oneCell']) (by have:=C.out;rw[aL!];(try simp);(try omega)) (by have:=C.out;rw[aL!];(try simp);(try omega)) B.out ?_;intro v4 w4 hown4 hb4 hgr4;have t:Hid (Own w4 (w.heap.size+1) 106 4 v4 (cd! ([r]))):=h! (by exact hown4);have o:Hid (Blk w4 w.heap.size #[.int .i64 0,.string ⟨#[]⟩,.string ⟨#[]⟩,.slice none 0 0] 106):=h! ((hb4.block _ (Nat.lt_succ_self _)).trans (F.out.blk a4.out (.inr rfl)));have Z:=h! (a9.out.trans (hb4.mono (Nat.le_succ _)));have f:Hid (∀b,S b->w4.heap[b]?=w3.heap[b]?):=h! (fun b hb=>(hb4.block b (Nat.lt_succ_of_lt (q.out b hb))).trans (F.out.block b (.inl hb)));have Q:=h! (j.out.same f.out);obtain⟨D,c4,rfl,u,ac,K⟩:=eN! t.out.sl;obtain⟨g4,aA,rfl,aU,k0,k1,k2,k3⟩:=K 0 (by simp);simp only[Nat.zero_mul,Nat.add_zero,List.getElem_cons_zero]at k0 k1 k2 k3;have r4:=o.out.cells;have f4:=o.out.free;clear K u;clear hown4 hb4 hgr4))
    have U:=h! (show altR x0 ys0=r from ps! (by have:=l.out;rw[af.out]at this;exact this));have H:=o.out.set_to 0 (.int .i64 r.k) rfl;have G:=H.set_to 1 (.string r.a) rfl;have I:=G.set_to 2 (.string r.b) rfl;have M:=I.set_to 3 (.slice none 0 0) rfl;have a1:=setAt (i:=3) (v := .slice none 0 0) (setAt (i:=2) (v := .string r.b) (setAt (i:=1) (v := .string r.a) (setAt (i:=0) (v := .int .i64 r.k) Z.out)));have d:¬ S w.heap.size:=fun h=>by have:=q.out _ h;omega
    have aa:=((((Kept.refl S w4).set (a:=⟨w.heap.size,0,none⟩) d (.int .i64 r.k)).set (a:=⟨w.heap.size,1,none⟩) d (.string r.a)).set (a:=⟨w.heap.size,2,none⟩) d (.string r.b)).set (a:=⟨w.heap.size,3,none⟩) d (.slice none 0 0);have ak:=((((Kept.refl (fun x=>w.heap.size+1<=x) w4).set (a:=⟨w.heap.size,0,none⟩) (Nat.not_succ_le_self _) (.int .i64 r.k)).set (a:=⟨w.heap.size,1,none⟩) (Nat.not_succ_le_self _) (.string r.a)).set (a:=⟨w.heap.size,2,none⟩) (Nat.not_succ_le_self _) (.string r.b)).set (a:=⟨w.heap.size,3,none⟩) (Nat.not_succ_le_self _) (.slice none 0 0);refine bodyPost_ret (v := .tuple #[.agg #[.int .i64 r.k,.string r.a,.string r.b,.slice none 0 0],.slice ap 0 c3,.bool true]) ?_ rfl ⟨_,.slice none 0 0,by rw[U.out];rfl,?_,?_,a1⟩
    ·rw[am! rfl];have hl:=run_loadVar_row (P:=prog) _ w.heap.size _ 106 _ _ _ M Tryz.underlying106 rfl (by kernel_rfl);simp[asAddr,hl,Result.andThen]
    ·exact Q.out.same aa.block
    ·rw[U.out];exact RTAt.leaf _ _ al.out.2
   ·have aw:1<=ps.length:=by cases ps with | nil=>exact absurd rfl hp0 | cons _ _=>simp
    have az:=h! aw;clear hp0 aw J;go_wp2_with (at_builtin;go_must (refine aq! ruleT rfl (.tmp 42) (.tmp 44) rfl rfl A.out (by show Value.slice (some ⟨w3.heap.size,0,none⟩) 1 1=_;simp) rfl (by simp[Value.oneCell']) (by have:=C.out;rw[aL!];(try simp);(try omega)) (by have:=C.out;rw[aL!];(try simp);(try omega)) B.out ?_;intro v4 w4 hown4 hb4 hgr4;have t:=h! (show Own w4 (w.heap.size+1) 106 4 v4 (cd! (ps++[r]))from by rw[dg!];exact hown4);have o:Hid (Blk w4 w.heap.size #[.int .i64 0,.string ⟨#[]⟩,.string ⟨#[]⟩,.slice none 0 0] 106):=h! ((hb4.block _ (Nat.lt_succ_self _)).trans (F.out.blk a4.out (.inr rfl)));have Z:=h! (a9.out.trans (hb4.mono (Nat.le_succ _)));have f:Hid (∀b,S b->w4.heap[b]?=w3.heap[b]?):=h! (fun b hb=>(hb4.block b (Nat.lt_succ_of_lt (q.out b hb))).trans (F.out.block b (.inl hb)));have Q:=h! (j.out.same f.out);obtain⟨D,c4,rfl,u,ac,-⟩:=eN! t.out.sl;have HM:=h! (show 2<=(ps++[r]).length from by have:=az.out;simp;omega);have an:=h! (show ps++[r]=(x0::ys0).map leafD from by have:=l.out;rw[af.out]at this;exact this);generalize ps++[r]=pr at *;obtain⟨m,hm⟩:=e! pr.length;rw[<-hm]at t HM u ⊢;have aC:=h! hm;have aQ:((m:Int) == 1)=false:=(by have:=HM.out;rw[n7!];omega);clear hm;have r4:=o.out.cells;have f4:=o.out.free;clear hown4 hb4 hgr4))
    have U:=h! (show altR x0 ys0= .mk 4 ⟨#[]⟩ ⟨#[]⟩ pr from oi! an.out (by have:=HM.out;have:=aC.out;omega));have H:=o.out.set_to 0 (.int .i64 4) rfl;have G:=H.set_to 1 (.string ⟨#[]⟩) rfl;have I:=G.set_to 2 (.string ⟨#[]⟩) rfl;have M:=I.set_to 3 (.slice D m c4) rfl;have a1:=setAt (i:=3) (v := .slice D m c4) (setAt (i:=2) (v := .string ⟨#[]⟩) (setAt (i:=1) (v := .string ⟨#[]⟩) (setAt (i:=0) (v := .int .i64 4) Z.out)));have d:¬ S w.heap.size:=fun h=>by have:=q.out _ h;omega
    have aa:=((((Kept.refl S w4).set (a:=⟨w.heap.size,0,none⟩) d (.int .i64 4)).set (a:=⟨w.heap.size,1,none⟩) d (.string ⟨#[]⟩)).set (a:=⟨w.heap.size,2,none⟩) d (.string ⟨#[]⟩)).set (a:=⟨w.heap.size,3,none⟩) d (.slice D m c4);have ak:=((((Kept.refl (fun x=>w.heap.size+1<=x) w4).set (a:=⟨w.heap.size,0,none⟩) (Nat.not_succ_le_self _) (.int .i64 4)).set (a:=⟨w.heap.size,1,none⟩) (Nat.not_succ_le_self _) (.string ⟨#[]⟩)).set (a:=⟨w.heap.size,2,none⟩) (Nat.not_succ_le_self _) (.string ⟨#[]⟩)).set (a:=⟨w.heap.size,3,none⟩) (Nat.not_succ_le_self _) (.slice D m c4);refine bodyPost_ret (v := .tuple #[.agg #[.int .i64 4,.string ⟨#[]⟩,.string ⟨#[]⟩,.slice D m c4],.slice ap 0 c3,.bool true]) ?_ rfl ⟨_,.slice D m c4,by rw[U.out];rfl,?_,?_,a1⟩
    ·rw[am! rfl];have hl:=run_loadVar_row (P:=prog) _ w.heap.size _ 106 _ _ _ M Tryz.underlying106 rfl (by kernel_rfl);simp[asAddr,hl,Result.andThen]
    ·exact Q.out.same aa.block
    ·rw[U.out];refine RTAt.leafs (nD! (qs:=[]) (by rw[List.append_nil];exact an.out)) ?_ _ _ _;exact(t.out.sl.same (fun b hb=>ak.block b hb.1)).mono fun b hb=>⟨Nat.le_of_succ_le hb.1,by simpa using hb.2⟩
  | cons y ys =>
   have au:2<=n3:=by have:=a7.out;simp at this;omega
   obtain⟨b5,N,rfl,aB,ad⟩:=fh! j.out (by unfold barT;simp);rw[show(barT (y::ys))[0]'(by unfold barT;simp)=⟨#[124]⟩from by simp[barT]]at ad;have aP:((n3:Int) == 0)=false:=by rw[n7!];omega
   have a0:(0:Int)<(n3:Int):=by omega
   have aS:(1:Int)<=(n3:Int):=by omega
   have aD:(n3:Int)<=(c3:Int):=by omega
   have aN:(1:Int)<=(c3:Int):=by omega
   have aR:¬ c3=1:=by omega
   have aT:¬ (c3:Int)=1:=by omega
   have aI:=h! au;clear au;go_wp2_with (at_builtin;go_must (refine aq! ruleT rfl (.tmp 42) (.tmp 44) rfl rfl A.out (by show Value.slice (some ⟨w3.heap.size,0,none⟩) 1 1=_;simp) rfl (by simp[Value.oneCell']) (by have:=C.out;rw[aL!];(try simp);(try omega)) (by have:=C.out;rw[aL!];(try simp);(try omega)) B.out ?_;intro v4 w4 hown4 hb4 hgr4;have t:=h! (show Own w4 (w.heap.size+1) 106 4 v4 (cd! (ps++[r]))from by rw[dg!];exact hown4);have o:Hid (Blk w4 w.heap.size #[.int .i64 0,.string ⟨#[]⟩,.string ⟨#[]⟩,.slice none 0 0] 106):=h! ((hb4.block _ (Nat.lt_succ_self _)).trans (F.out.blk a4.out (.inr rfl)));have Z:=h! (a9.out.trans (hb4.mono (Nat.le_succ _)));have f:Hid (∀b,S b->w4.heap[b]?=w3.heap[b]?):=h! (fun b hb=>(hb4.block b (Nat.lt_succ_of_lt (q.out b hb))).trans (F.out.block b (.inl hb)));have Q:=h! (j.out.same f.out);have d5:w4.cell? ⟨b5,N,none⟩=some (.string ⟨#[124]⟩):=(World.cell?_of_block (a:=⟨b5,N,none⟩) (f.out b5 aB)).trans ad;clear ad;clear hown4 hb4 hgr4))
   go_roundw
   case rel =>
    refine⟨ps++[r],y,ys,fun z hz=>ax.out z (u9! _ hz),?_,t.out,?_,o.out,Z.out⟩
    ·have:=Q.out.drop 1 (by have:=aI.out;omega);rwa[show(txs (barT (y::ys))).drop 1=txs (altT y ys)from rfl]at this
    ·rw[<-l.out,af.out];simp
   case measure =>
    have h1:=aK.out;have h2:=a7.out;unfold altT at h1;rw[u7!,dd!]at h1;show n3-1<n1
    omega
theorem nh! {S:Nat->Prop}(x0:ByteArray)(ys0:List ByteArray)(v:Value)(w:World)(hSw:∀b,S b->b<w.heap.size)(hx0:∀z∈x0::ys0,isNm z=true)(hl0:ys0.length<=100000)(h:Sl S w 1 v (txs (altT x0 ys0))) :
  Calls prog 97 #[v,.int .i64 0] w fun e w'=>∃v' pv,e= .returned (.tuple #[rV (altR x0 ys0) pv,v',.bool true])/\Sl S w' 1 v' []/\RTAt (fun b=>w.heap.size<=b/\b<w'.heap.size) w' (altR x0 ys0) pv/\Below w.heap.size w w':=by
 have s:=h! hSw;have l:=Ext.alloc w (.cells #[.int .i64 0,.string ⟨#[]⟩,.string ⟨#[]⟩,.slice none 0 0] 106);have m:=h! (Blk.made w #[.int .i64 0,.string ⟨#[]⟩,.string ⟨#[]⟩,.slice none 0 0] 106);have q:=h! (fV! (S:=S) x0 ys0 v (w.alloc (.cells #[.int .i64 0,.string ⟨#[]⟩,.string ⟨#[]⟩,.slice none 0 0] 106)) (fun b hb=>n1! (s.out b hb) l.size) hx0 hl0 (h.same ((Same.below l).mono s.out)));have y:=h! l;obtain⟨ao,n,c,rfl,-,-,-⟩:=h.len;clear hSw hx0 hl0 h l;generalize altR x0 ys0=r at *;unfold rV at q ⊢;go_enter func97,ntmps97
 go_wp2_with fail
 refine q.out.mono ?_;rintro e w3 ⟨v3,pv,rfl,d,f,p⟩;have u:=h! (m.out.below p);have a9:Hid (Below w.heap.size w w3):=h! (y.out.trans p);have t:=h! d;have o:=h! f;have a4:=h! m.out.lt;obtain⟨a3,n3,c3,rfl,-,-,-⟩:=d.len;obtain⟨g,A,rfl,-,-,-⟩:=f.rows;clear p m y q d f;have r3:=u.out.cells;have f3:=u.out.free;go_wp2_with fail
 have a8:=u.out.set_to 0 (.int .i64 r.k) rfl;have a6:=a8.set_to 1 (.string r.a) rfl;have a2:=a6.set_to 2 (.string r.b) rfl;have a5:=a2.set_to 3 (.slice g r.ps.length A) rfl;have a1:=setAt (i:=3) (v := .slice g r.ps.length A) (setAt (i:=2) (v := .string r.b) (setAt (i:=1) (v := .string r.a) (setAt (i:=0) (v := .int .i64 r.k) a9.out)));have j:¬ S w.heap.size:=fun h=>by have:=s.out _ h;omega
 have a0:=((((Kept.refl S w3).set (a:=⟨w.heap.size,0,none⟩) j (.int .i64 r.k)).set (a:=⟨w.heap.size,1,none⟩) j (.string r.a)).set (a:=⟨w.heap.size,2,none⟩) j (.string r.b)).set (a:=⟨w.heap.size,3,none⟩) j (.slice g r.ps.length A);have a7:=((((Kept.refl (fun x=>w.heap.size+1<=x) w3).set (a:=⟨w.heap.size,0,none⟩) (Nat.not_succ_le_self _) (.int .i64 r.k)).set (a:=⟨w.heap.size,1,none⟩) (Nat.not_succ_le_self _) (.string r.a)).set (a:=⟨w.heap.size,2,none⟩) (Nat.not_succ_le_self _) (.string r.b)).set (a:=⟨w.heap.size,3,none⟩) (Nat.not_succ_le_self _) (.slice g r.ps.length A);refine bodyPost_ret (v := .tuple #[.agg #[.int .i64 r.k,.string r.a,.string r.b,.slice g r.ps.length A],.slice a3 n3 c3,.bool true]) ?_ rfl ⟨_,.slice g r.ps.length A,rfl,?_,?_,a1⟩
 ·rw[am! rfl];have hl:=run_loadVar_row (P:=prog) _ w.heap.size _ 106 _ _ _ a5 Tryz.underlying106 rfl (by kernel_rfl);simp[asAddr,hl,Result.andThen]
 ·exact t.out.same a0.block
 ·have h1:=a4.out;exact(o.out.same fun b hb=>a7.block b (by have:=hb.1;simp at this;omega)).mono fun b hb=>⟨by have:=hb.1;simp at this;omega,by simpa using hb.2⟩
end Go.Proofs.YtlhaghoajpglaaaGreat
