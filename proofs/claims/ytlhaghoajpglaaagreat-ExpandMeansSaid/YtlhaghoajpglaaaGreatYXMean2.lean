/- Lemmas for the claim, no condition. -/
import Derived.Laws.EntriesVeiled
import Derived.Shelf.Abstract
import Derived.Test.YtlhaghoajpglaaaGreatYXMean1
import Derived.Test.YtlhaghoajpglaaaGreatYXMean0
set_option maxRecDepth 100000
set_option maxHeartbeats 8000000
namespace Go.Proofs.YtlhaghoajpglaaaGreat
open Go Go.RowKit
theorem formsD_pre (T:List Tup)(p:P3):∀ (l:List RT)(ps:List P3),ps <+: (formsD T p l ps).2
 | [],ps=>List.prefix_refl _
 | r::l,ps=>by rw[formsD];exact(formD_pre T p r ps).trans (formsD_pre T p l _)
theorem walkN_first (ts:List TyS)(T:List Tup)(shut:List R2)(p:P3)(n:Nat):(walkN ts T shut p n).1[0]?=some p:=by
 have h:=walkN_pre ts T shut p 0 n (Nat.zero_le n);rw[walkN]at h;obtain⟨t,ht⟩:=h;rw[<- ht];rfl
def inAt (l:List Bool)(k:Int):Bool:=decide (0<=k)&&l.getD k.toNat false
mutual
def holdF (s:P3)(l:List Bool):FT->Bool
 | .mk k subs refs ps=>if k=1 then decide (s∈subs)||refs.any (inAt l)else if k=2\/k=3 then refs.any (inAt l)else if k=4 then anyF s l ps else if k=5 then allF s l ps else false
def anyF (s:P3)(l:List Bool):List FT->Bool | []=>false | r::rs=>holdF s l r||anyF s l rs
def allF (s:P3)(l:List Bool):List FT->Bool | []=>true | r::rs=>holdF s l r&&allF s l rs
end
theorem anyF_eq (s:P3)(l:List Bool):∀ ps,anyF s l ps=ps.any (holdF s l)
 | []=>rfl
 | r::rs=>by rw[anyF,anyF_eq s l rs,List.any_cons]
theorem allF_eq (s:P3)(l:List Bool):∀ ps,allF s l ps=ps.all (holdF s l)
 | []=>rfl
 | r::rs=>by rw[allF,allF_eq s l rs,List.all_cons]
theorem holdF_eq (s:P3)(l:List Bool)(f:FT):holdF s l f=if f.k=1 then decide (s∈f.subs)||f.refs.any (inAt l)else if f.k=2\/f.k=3 then f.refs.any (inAt l)else if f.k=4 then f.ps.any (holdF s l)else if f.k=5 then f.ps.all (holdF s l)else false:=by
 obtain⟨k,a,b,ps⟩:=f;rw[holdF,anyF_eq,allF_eq];rfl
theorem holdF_mk (s:P3)(l:List Bool)(k:Int)(subs:List P3)(refs:List Int)(ps:List FT):holdF s l (.mk k subs refs ps)=if k=1 then decide (s∈subs)||refs.any (inAt l)else if k=2\/k=3 then refs.any (inAt l)else if k=4 then ps.any (holdF s l)else if k=5 then ps.all (holdF s l)else false:=by
 rw[holdF,anyF_eq,allF_eq]
def newS (fs:List FT)(s:P3)(l:List Bool)(i:Nat):Bool:=!l.getD i true&&(match fs[i]? with | some f=>holdF s l f | none=>false)
def inN (fs:List FT)(s:P3)(n:Nat):Nat->List Bool
 | 0=>List.replicate n false
 | r+1=>(List.range n).map fun i=>(inN fs s n r).getD i false||newS fs s (inN fs s n r) i
def outN (fs:List FT)(s:P3)(n:Nat):Nat->List Int
 | 0=>List.replicate n 0
 | r+1=>(List.range n).map fun i=>if newS fs s (inN fs s n r) i=true then((r+1:Nat):Int)else(outN fs s n r).getD i 0
def EndS (fs:List FT)(s:P3)(n r:Nat):Prop:=∀ i,i<n->newS fs s (inN fs s n r) i=false
section
variable {fs : List FT} {s : P3} {n : Nat}
theorem inN_length (r:Nat):(inN fs s n r).length=n:=by cases r <;> simp[inN]
theorem outN_length (r:Nat):(outN fs s n r).length=n:=by cases r <;> simp[outN]
theorem inN_zero (i:Nat):(inN fs s n 0).getD i false=false:=by
 rw[inN,List.getD_eq_getElem?_getD,List.getElem?_replicate];split <;> rfl
theorem inN_succ {i:Nat} (h:i<n)(r:Nat):(inN fs s n (r+1)).getD i false=((inN fs s n r).getD i false||newS fs s (inN fs s n r) i):=by
 rw[inN,List.getD_eq_getElem?_getD,List.getElem?_map,List.getElem?_range h];rfl
theorem outN_zero (i:Nat):(outN fs s n 0).getD i 0=0:=by
 rw[outN,List.getD_eq_getElem?_getD,List.getElem?_replicate];split <;> rfl
theorem outN_succ {i:Nat} (h:i<n)(r:Nat):(outN fs s n (r+1)).getD i 0=if newS fs s (inN fs s n r) i=true then((r+1:Nat):Int)else(outN fs s n r).getD i 0:=by
 rw[outN,List.getD_eq_getElem?_getD,List.getElem?_map,List.getElem?_range h];rfl
theorem ext_bool {a b:List Bool} (hl:a.length=b.length)(h:∀ i,i<a.length->a.getD i false=b.getD i false):a=b:=by
 refine List.ext_getElem hl fun i h1 h2=>?_;have:=h i h1;rwa[List.getD_eq_getElem?_getD,List.getD_eq_getElem?_getD,List.getElem?_eq_getElem h1,List.getElem?_eq_getElem h2]at this
theorem ext_int {a b:List Int} (hl:a.length=b.length)(h:∀ i,i<a.length->a.getD i 0=b.getD i 0):a=b:=by
 refine List.ext_getElem hl fun i h1 h2=>?_;have:=h i h1;rwa[List.getD_eq_getElem?_getD,List.getD_eq_getElem?_getD,List.getElem?_eq_getElem h1,List.getElem?_eq_getElem h2]at this
theorem EndS.inL {r:Nat} (h:EndS fs s n r):∀ k,inN fs s n (r+k)=inN fs s n r
 | 0=>rfl
 | k+1=>by
  have ih:=EndS.inL h k;refine ext_bool (by rw[inN_length,inN_length]) fun i hi=>?_;rw[inN_length]at hi;rw[<- Nat.add_assoc,inN_succ hi,ih,h i hi,Bool.or_false]
theorem EndS.outL {r:Nat} (h:EndS fs s n r):∀ k,outN fs s n (r+k)=outN fs s n r
 | 0=>rfl
 | k+1=>by
  have ih:=EndS.outL h k;refine ext_int (by rw[outN_length,outN_length]) fun i hi=>?_;rw[outN_length]at hi;rw[<- Nat.add_assoc,outN_succ hi,ih,h.inL k,h i hi];rfl
theorem EndS.uniq {r r':Nat} (h:EndS fs s n r)(k:EndS fs s n r'):outN fs s n r=outN fs s n r'/\inN fs s n r=inN fs s n r':=by
 rcases Nat.le_total r r' with hl | hl
 ·obtain⟨d,rfl⟩:=Nat.exists_eq_add_of_le hl;exact⟨(h.outL d).symm,(h.inL d).symm⟩
 ·obtain⟨d,rfl⟩:=Nat.exists_eq_add_of_le hl;exact⟨k.outL d,k.inL d⟩
theorem outN_pos (r:Nat) {i:Nat} (h:i<n):0<=(outN fs s n r).getD i 0/\(outN fs s n r).getD i 0<=(r:Int)/\((inN fs s n r).getD i false=true↔0<(outN fs s n r).getD i 0):=by
 induction r with
 | zero=>rw[outN_zero,inN_zero];simp
 | succ r ih =>
  rw[outN_succ h,inN_succ h];by_cases hn:newS fs s (inN fs s n r) i=true
  ·rw[if_pos hn,hn];refine⟨by omega,by omega,⟨fun _=>by omega,fun _=>by simp⟩⟩
  ·have hf:newS fs s (inN fs s n r) i=false:=by simpa using hn
   rw[if_neg hn,hf,Bool.or_false];exact⟨ih.1,by omega,ih.2.2⟩
theorem newS_not {l:List Bool} {i:Nat} (h:newS fs s l i=true):l.getD i true=false:=by
 unfold newS at h;simp only[Bool.and_eq_true,Bool.not_eq_true']at h;exact h.1
theorem inN_mono1 (r:Nat) {i:Nat} (h:i<n)(hi:(inN fs s n r).getD i false=true):(inN fs s n (r+1)).getD i false=true:=by
 rw[inN_succ h,hi,Bool.true_or]
def cntT (l:List Bool):Nat:=(l.filter id).length
theorem cntT_le (l:List Bool):cntT l<=l.length:=List.length_filter_le _ _
theorem cntT_lt:∀ {a b:List Bool},a.length=b.length->(∀ i,i<a.length->a.getD i false=true->b.getD i false=true)->(∃ i,i<a.length/\a.getD i false=false/\b.getD i false=true)->cntT a<cntT b
 | [],[],_,_,h=>by obtain⟨i,hi,_⟩:=h;simp at hi
 | x::a,y::b,hl,hm,h=>by
  have hl':a.length=b.length:=by simpa using hl
  have hm':∀ i,i<a.length->a.getD i false=true->b.getD i false=true:=fun i hi e=>by
   have:=hm (i+1) (by simpa using hi) (by simpa using e);simpa using this
  have h0:=hm 0 (by simp);simp only[List.getD_cons_zero]at h0
  have hle:cntT a<=cntT b:=by
   by_cases he:∃ i,i<a.length/\a.getD i false=false/\b.getD i false=true
   ·exact Nat.le_of_lt (cntT_lt hl' hm' he)
   ·have:a=b:=ext_bool hl' fun i hi=>by
     cases h1:a.getD i false with
     | true=>exact(hm' i hi h1).symm
     | false =>
      cases h2:b.getD i false with
      | false=>rfl
      | true=>exact absurd ⟨i,hi,h1,h2⟩ he
    rw[this];exact Nat.le_refl _
  obtain⟨i,hi,h1,h2⟩:=h;cases i with
  | zero =>
   simp only[List.getD_cons_zero]at h1 h2;subst h1 h2;unfold cntT at *;simp only[List.filter_cons,id,if_true,List.length_cons,Bool.false_eq_true,if_false];omega
  | succ i =>
   simp only[List.getD_cons_succ,List.length_cons]at h1 h2 hi;have hlt:=cntT_lt hl' hm' ⟨i,by omega,h1,h2⟩;unfold cntT at *;cases x <;> cases y <;> simp only[List.filter_cons,id,if_true,List.length_cons,Bool.false_eq_true,if_false]
   ·exact hlt
   ·omega
   ·have:=h0 rfl;cases this
   ·omega
theorem getD_ft {l:List Bool} {i:Nat} (h:i<l.length):l.getD i true=l.getD i false:=by
 rw[List.getD_eq_getElem?_getD,List.getD_eq_getElem?_getD,List.getElem?_eq_getElem h];rfl
theorem endS_ex:∃ r,r<=n/\EndS fs s n r:=by
 refine Classical.byContradiction fun hno=>?_
 have h:∀ r,r<=n->∃ i,i<n/\newS fs s (inN fs s n r) i=true:=fun r hr=>by
  refine Classical.byContradiction fun h2=>hno ⟨r,hr,fun i hi=>?_⟩;cases e:newS fs s (inN fs s n r) i with
  | false=>rfl
  | true=>exact absurd ⟨i,hi,e⟩ h2
 have hc:∀ r,r<=n+1->r<=cntT (inN fs s n r):=by
  intro r;induction r with
  | zero=>intro _;exact Nat.zero_le _
  | succ r ih =>
   intro hr;have h1:=ih (by omega);obtain⟨i,hi,hnew⟩:=h r (by omega)
   have:=cntT_lt (a:=inN fs s n r) (b:=inN fs s n (r+1)) (by rw[inN_length,inN_length]) (fun j hj e=>inN_mono1 r (by rwa[inN_length]at hj) e)
    ⟨i,by rw[inN_length];exact hi,by rw[<- getD_ft (by rw[inN_length];exact hi)];exact newS_not hnew,by rw[inN_succ hi,hnew,Bool.or_true]⟩
   omega
 have h1:=hc (n+1) (Nat.le_refl _);have h2:=cntT_le (inN fs s n (n+1));rw[inN_length]at h2;omega
end
noncomputable def solveR (fs:List FT) (s:P3) (n:Nat):List Int:=outN fs s n n
theorem endS_n (fs:List FT)(s:P3)(n:Nat):EndS fs s n n:=by
 obtain⟨r,hr,h⟩:=endS_ex (fs:=fs) (s:=s) (n:=n);obtain⟨d,rfl⟩:=Nat.exists_eq_add_of_le hr;intro i hi;rw[h.inL d];exact h i hi
theorem EndS.solve {fs:List FT} {s:P3} {n r:Nat} (h:EndS fs s n r):outN fs s n r=solveR fs s n:=(h.uniq (endS_n fs s n)).1
mutual
def holdT (T:List Tup)(s:P3)(X:P3->Prop)(p:P3):RT->Prop
 | .mk k a b ps=>if k=1 then s∈subsOf T p\/∃ q∈setsOf (subsOf T p),X q else if k=2 then X ⟨p.t,p.i,a⟩else if k=3 then ∃ q∈viaOf b (subsOf T ⟨p.t,p.i,a⟩),X q else if k=4 then anyTT T s X p ps else if k=5 then allTT T s X p ps else False
def anyTT (T:List Tup)(s:P3)(X:P3->Prop)(p:P3):List RT->Prop | []=>False | r::rs=>holdT T s X p r\/anyTT T s X p rs
def allTT (T:List Tup)(s:P3)(X:P3->Prop)(p:P3):List RT->Prop | []=>True | r::rs=>holdT T s X p r/\allTT T s X p rs
end
theorem anyTT_eq (T:List Tup)(s:P3)(X:P3->Prop)(p:P3):∀ ps,anyTT T s X p ps↔∃ r∈ps,holdT T s X p r
 | []=>by rw[anyTT];simp
 | r::rs=>by rw[anyTT,anyTT_eq T s X p rs];simp
theorem allTT_eq (T:List Tup)(s:P3)(X:P3->Prop)(p:P3):∀ ps,allTT T s X p ps↔∀ r∈ps,holdT T s X p r
 | []=>by rw[allTT];simp
 | r::rs=>by rw[allTT,allTT_eq T s X p rs];simp
theorem holdT_mk (T:List Tup)(s:P3)(X:P3->Prop)(p:P3)(k:Int)(a b:ByteArray)(ps:List RT):holdT T s X p (.mk k a b ps)↔if k=1 then s∈subsOf T p\/∃ q∈setsOf (subsOf T p),X q else if k=2 then X ⟨p.t,p.i,a⟩else if k=3 then ∃ q∈viaOf b (subsOf T ⟨p.t,p.i,a⟩),X q else if k=4 then ∃ x∈ps,holdT T s X p x else if k=5 then ∀ x∈ps,holdT T s X p x else False:=by
 rw[holdT,anyTT_eq,allTT_eq]
theorem holdT_eq (T:List Tup)(s:P3)(X:P3->Prop)(p:P3)(r:RT):holdT T s X p r↔if r.k=1 then s∈subsOf T p\/∃ q∈setsOf (subsOf T p),X q else if r.k=2 then X ⟨p.t,p.i,r.a⟩else if r.k=3 then ∃ q∈viaOf r.b (subsOf T ⟨p.t,p.i,r.a⟩),X q else if r.k=4 then ∃ x∈r.ps,holdT T s X p x else if r.k=5 then ∀ x∈r.ps,holdT T s X p x else False:=by
 obtain⟨k,a,b,ps⟩:=r;exact holdT_mk T s X p k a b ps
theorem subsOf_has {T:List Tup} {p x:P3}:x∈subsOf T p↔∃ t∈T,t.o=p/\t.s=x:=by
 refine⟨subsOf_mem,?_⟩;rintro⟨t,ht,h1,rfl⟩;exact List.mem_map.2 ⟨t,List.mem_filter.2 ⟨ht,by simpa using h1⟩,rfl⟩
theorem setsOf_has {l:List P3} {x:P3}:x∈setsOf l↔x∈l/\x.r≠⟨#[]⟩:=by
 unfold setsOf;rw[List.mem_filter];simp
theorem viaOf_has {l:List P3} {b:ByteArray} {x:P3}:x∈viaOf b l↔∃ y∈l,y.r=⟨#[]⟩/\x=⟨y.t,y.i,b⟩:=by
 unfold viaOf;rw[List.mem_map];constructor
 ·rintro⟨y,hy,rfl⟩;rw[List.mem_filter]at hy;exact⟨y,hy.1,by simpa using hy.2,rfl⟩
 ·rintro⟨y,hy,h,rfl⟩;exact⟨y,List.mem_filter.2 ⟨hy,by simpa using h⟩,rfl⟩
theorem holdT_mono {T U:List Tup} (hT:∀ t∈T,t∈U)(s:P3) {X Y:P3->Prop} (hX:∀ q,X q->Y q)(p:P3)(r:RT):holdT T s X p r->holdT U s Y p r:=by
 have hs:∀ p x,x∈subsOf T p->x∈subsOf U p:=fun p x h=>by
  obtain⟨t,ht,h1,h2⟩:=subsOf_has.1 h;exact subsOf_has.2 ⟨t,hT t ht,h1,h2⟩
 induction r using RT.ind with
 | h r ih =>
  rw[holdT_eq,holdT_eq];split
  ·rintro(h | ⟨q,hq,h⟩)
   ·exact .inl (hs _ _ h)
   ·exact .inr ⟨q,setsOf_has.2 ⟨hs _ _ (setsOf_has.1 hq).1,(setsOf_has.1 hq).2⟩,hX q h⟩
  ·split
   ·exact hX _
   ·split
    ·rintro⟨q,hq,h⟩;obtain⟨y,hy,h1,h2⟩:=viaOf_has.1 hq;exact⟨q,viaOf_has.2 ⟨y,hs _ _ hy,h1,h2⟩,hX q h⟩
    ·split
     ·rintro⟨x,hx,h⟩;exact⟨x,hx,ih x hx h⟩
     ·split
      ·exact fun h x hx=>ih x hx (h x hx)
      ·exact id
def DenN (ts:List TyS)(T:List Tup)(shut:List R2)(s:P3):Nat->P3->Prop
 | 0=>fun _=>False
 | n+1=>fun p=>DenN ts T shut s n p\/∃ r,ruleOf ts shut p=some r/\holdT T s (DenN ts T shut s n) p r
def Den (ts:List TyS)(T:List Tup)(shut:List R2)(s:P3)(p:P3):Prop:=∃ n,DenN ts T shut s n p
section
variable {ts : List TyS} {T U : List Tup} {shut more : List R2} {s p q : P3}
theorem DenN.le {n m:Nat} (h:DenN ts T shut s n p)(hl:n<=m):DenN ts T shut s m p:=by
 obtain⟨d,rfl⟩:=Nat.exists_eq_add_of_le hl;induction d with
 | zero=>exact h
 | succ d ih=>exact .inl (ih (by omega))
end
/-! A graph's rounds. -/
theorem numD_pre {ps P:List P3} (h:ps <+: P) {q:P3} (hq:q∈ps):numD P q=numD ps q:=by
 obtain⟨t,rfl⟩:=h;unfold numD;rw[List.findIdx_append,if_pos];exact List.findIdx_lt_length_of_exists ⟨q,hq,by simp⟩
theorem numD_put {ps P:List P3} {q:P3} (h:putP ps q <+: P):numD ps q=numD P q:=by
 rw[numD_pre h ((putP_mem ps q q).2 (.inr rfl))];unfold putP;split
 ·rfl
 ·next hn =>
  rw[show numD ps q=ps.length from by
   unfold numD;rw[List.findIdx_eq_length];intro x hx;simp only[decide_eq_false_iff_not];exact fun e=>hn (e▸hx)]
  unfold numD
  rw[List.findIdx_append,if_neg (by
   rw[show ps.findIdx (fun x=>decide (x=q))=ps.length from by
    rw[List.findIdx_eq_length];intro x hx;simp only[decide_eq_false_iff_not];exact fun e=>hn (e▸hx)]
   omega)]
  simp
theorem numD_of_mem {P:List P3} {q:P3} (h:q∈P):∃ hi:numD P q<P.length,P[numD P q]=q:=by
 have hi:numD P q<P.length:=List.findIdx_lt_length_of_exists ⟨q,h,by simp⟩;refine⟨hi,?_⟩;exact of_decide_eq_true (List.findIdx_getElem (xs:=P) (p:=fun x=>decide (x=q)) (w:=hi))
def Tells (P:List P3)(X:P3->Prop)(l:List Bool):Prop:=∀ q∈P,(X q↔inAt l (numD P q)=true)
theorem refsD_any {P:List P3} {X:P3->Prop} {l:List Bool} (hX:Tells P X l):∀ (L ps:List P3)(out:List Int),(refsD ps out L).2 <+: P->((refsD ps out L).1.any (inAt l)=true↔out.any (inAt l)=true\/∃ q∈L,X q)
 | [],ps,out,_=>by simp[refsD]
 | q::L,ps,out,h=>by
  rw[refsD]at h ⊢;have hp:putP ps q <+: P:=(refsD_pre L _ _).trans h;have hm:q∈P:=hp.subset ((putP_mem ps q q).2 (.inr rfl));rw[refsD_any hX L _ _ h,numD_put hp];have hq:=hX q hm;constructor
  ·rintro(h1 | ⟨x,hx,h1⟩)
   ·split at h1
    ·exact .inl h1
    ·rw[List.any_append,Bool.or_eq_true]at h1;rcases h1 with h1 | h1
     ·exact .inl h1
     ·exact .inr ⟨q,by simp,hq.2 (by simpa using h1)⟩
   ·exact .inr ⟨x,List.mem_cons_of_mem _ hx,h1⟩
  ·rintro(h1 | ⟨x,hx,h1⟩)
   ·left
    split
    ·exact h1
    ·rw[List.any_append,h1,Bool.true_or]
   ·rcases List.mem_cons.1 hx with rfl | hx
    ·left
     split
     ·next hin=>exact List.any_eq_true.2 ⟨_,hin,hq.1 h1⟩
     ·rw[List.any_append,Bool.or_eq_true];right
      simpa using hq.1 h1
    ·exact .inr ⟨x,hx,h1⟩
theorem formD_hold {T:List Tup} {s:P3} {P:List P3} {X:P3->Prop} {l:List Bool} (hX:Tells P X l)(p:P3)(r:RT):∀ ps:List P3,(formD T p r ps).2 <+: P->(holdF s l (formD T p r ps).1=true↔holdT T s X p r):=by
 induction r using RT.ind with
 | h r ih =>
  intro ps h;rw[formD_eq]at h ⊢;dsimp only at h ⊢;have hH:(headF T p r.k r.a r.b ps).2.2 <+: P:=(formsD_pre T p r.ps _).trans h
  have parts:∀ (L:List RT) (qs:List P3),(∀ x∈L,x∈r.ps)->(formsD T p L qs).2 <+: P ->
    (((formsD T p L qs).1.any (holdF s l)=true↔∃ x∈L,holdT T s X p x)/\((formsD T p L qs).1.all (holdF s l)=true↔∀ x∈L,holdT T s X p x)):=by
   intro L;induction L with
   | nil=>intro qs _ _;simp[formsD]
   | cons x L ihl =>
    intro qs hx hp;rw[formsD]at hp ⊢;have h1:=ih x (hx x (by simp)) qs ((formsD_pre T p L _).trans hp);obtain⟨h2,h3⟩:=ihl (formD T p x qs).2 (fun y hy=>hx y (List.mem_cons_of_mem _ hy)) hp;constructor
    ·rw[List.any_cons,Bool.or_eq_true,h1,h2];simp
    ·rw[List.all_cons,Bool.and_eq_true,h1,h3];simp
  obtain⟨h2,h3⟩:=parts r.ps _ (fun _ h=>h) h;rw[holdF_mk,holdT_eq];by_cases k1:r.k=1
  ·rw[if_pos k1,if_pos k1];unfold headF at hH ⊢;rw[if_pos k1]at hH ⊢;rw[Bool.or_eq_true,refsD_any hX _ _ _ hH];simp
  ·rw[if_neg k1,if_neg k1];by_cases k2:r.k=2
   ·rw[if_pos (.inl k2),if_pos k2];unfold headF at hH ⊢;rw[if_neg k1,if_pos k2]at hH ⊢;have hq:=hX ⟨p.t,p.i,r.a⟩ (hH.subset ((putP_mem ps _ _).2 (.inr rfl)));rw[numD_put hH];simpa using hq.symm
   ·rw[if_neg k2];by_cases k3:r.k=3
    ·rw[if_pos (.inr k3),if_pos k3];unfold headF at hH ⊢;rw[if_neg k1,if_neg k2,if_pos k3]at hH ⊢;rw[refsD_any hX _ _ _ hH];simp
    ·rw[if_neg (by simp[k2,k3]),if_neg k3];by_cases k4:r.k=4
     ·rw[if_pos k4,if_pos k4];exact h2
     ·rw[if_neg k4,if_neg k4];by_cases k5:r.k=5
      ·rw[if_pos k5,if_pos k5];exact h3
      ·rw[if_neg k5,if_neg k5];simp
theorem walkN_form (ts:List TyS)(T:List Tup)(shut:List R2)(p:P3) {i:Nat}:∀ {n:Nat},i<n->(walkN ts T shut p n).2[i]?=some (stepG ts T shut ((walkN ts T shut p i).1.getD i p) (walkN ts T shut p i).1).1
 | n+1,h=>by
  rw[walkN];dsimp only;by_cases e:i=n
  ·subst e;rw[List.getElem?_append_right (by rw[walkN_forms];exact Nat.le_refl _),walkN_forms];simp
  ·rw[List.getElem?_append_left (by rw[walkN_forms];omega)];exact walkN_form ts T shut p (by omega)
section
variable {ts : List TyS} {T : List Tup} {shut : List R2} {p : P3} {most : Int} {n : Nat}
theorem WalkEnd.point (h:WalkEnd ts T shut p most n) {i:Nat} (hi:i<n):∃ hi2:i<(walkN ts T shut p n).1.length,(walkN ts T shut p i).1.getD i p=(walkN ts T shut p n).1[i]:=by
 have h1:=(h.1 i hi).1;refine⟨by rw[<- h.2];exact hi,?_⟩;obtain⟨t,ht⟩:=walkN_pre ts T shut p i n (Nat.le_of_lt hi);rw[List.getD_eq_getElem?_getD,List.getElem?_eq_getElem h1];simp only[Option.getD_some,<- ht];rw[List.getElem_append_left h1]
theorem WalkEnd.den (h:WalkEnd ts T shut p most n)(s:P3):∀ r,Tells (walkN ts T shut p n).1 (DenN ts T shut s r) (inN (walkN ts T shut p n).2 s n r)
 | 0=>fun q hq=>by
  unfold inAt;rw[Int.toNat_natCast,inN_zero,Bool.and_false,DenN];simp
 | r+1=>fun q hq=>by
  have ih:=WalkEnd.den h s r;obtain⟨hi,hget⟩:=numD_of_mem hq;have hin:numD (walkN ts T shut p n).1 q<n:=Nat.lt_of_lt_of_eq hi h.2.symm;have h0:=ih q hq;unfold inAt at h0 ⊢;rw[Int.toNat_natCast]at h0 ⊢;have hd:decide ((0:Int)<=(numD (walkN ts T shut p n).1 q:Int))=true:=by simp
  rw[hd,Bool.true_and]at h0 ⊢;rw[inN_succ hin]
  have hf:newS (walkN ts T shut p n).2 s (inN (walkN ts T shut p n).2 s n r) (numD (walkN ts T shut p n).1 q)=true\/(inN (walkN ts T shut p n).2 s n r).getD (numD (walkN ts T shut p n).1 q) false=true↔(∃ rl,ruleOf ts shut q=some rl/\holdT T s (DenN ts T shut s r) q rl)\/DenN ts T shut s r q:=by
   rw[h0];by_cases hc:(inN (walkN ts T shut p n).2 s n r).getD (numD (walkN ts T shut p n).1 q) false=true
   ·simp only[hc,or_true]
   ·simp only[hc,Bool.false_eq_true,or_false];unfold newS;rw[getD_ft (by rw[inN_length];exact hin)];have hc2:(inN (walkN ts T shut p n).2 s n r).getD (numD (walkN ts T shut p n).1 q) false=false:=by simpa using hc
    rw[hc2,Bool.not_false,Bool.true_and,walkN_form ts T shut p hin];obtain⟨_,e⟩:=h.point hin;rw[e,hget]
    have hpre:(stepG ts T shut q (walkN ts T shut p (numD (walkN ts T shut p n).1 q)).1).2 <+: (walkN ts T shut p n).1:=by
     have:=walkN_pre ts T shut p (numD (walkN ts T shut p n).1 q+1) n hin;rw[walkN,e,hget]at this;exact this
    unfold stepG at hpre ⊢;cases hr:ruleOf ts shut q with
    | none =>
     dsimp only;rw[holdF_eq];simp[FT.zero,FT.k]
    | some rl =>
     rw[hr]at hpre;dsimp only at hpre ⊢;rw[formD_hold ih q rl _ hpre];simp
  rw[Bool.or_eq_true];exact⟨fun e=>(hf.2 e.symm).symm,fun e=>(hf.1 e.symm).symm⟩
theorem WalkEnd.den_iff (h:WalkEnd ts T shut p most n)(s:P3):Den ts T shut s p↔0<(solveR (walkN ts T shut p n).2 s n).getD 0 0:=by
 have hn:0<n:=by
  have h2:=h.2;have:=walk_mono ts T shut p (Nat.zero_le n);rw[<- h2,walkN]at this;simp at this;omega
 have h0:=walkN_first ts T shut p n;have hp:p∈(walkN ts T shut p n).1:=List.mem_of_getElem? h0
 have hz:numD (walkN ts T shut p n).1 p=0:=by
  unfold numD;cases hl:(walkN ts T shut p n).1 with
  | nil=>rw[hl]at hp;cases hp
  | cons x l =>
   rw[hl]at h0;simp only[List.getElem?_cons_zero,Option.some.injEq]at h0;rw[List.findIdx_cons];simp[h0]
 have key:∀ r,DenN ts T shut s r p↔(inN (walkN ts T shut p n).2 s n r).getD 0 false=true:=fun r=>by
  have:=h.den s r p hp;rw[hz]at this;simpa [inAt] using this
 unfold solveR;rw[<- (outN_pos (fs:=(walkN ts T shut p n).2) (s:=s) n hn).2.2,<- key n];refine⟨fun⟨r,hr⟩=>?_,fun h=>⟨n,h⟩⟩;rcases Nat.le_total r n with hl | hl
 ·exact hr.le hl
 ·obtain⟨d,rfl⟩:=Nat.exists_eq_add_of_le hl;rw[key]at hr ⊢;rwa[(endS_n (walkN ts T shut p n).2 s n).inL d]at hr
end
def ahead (ops:Array Oper):Nat->Nat->Nat->Bool
 | 0,_,_=>false
 | f+1,i,j=>match ops[j]? with
  | some o=>o.after.any fun e=>Region.binds .any e&&(e.on == i||ahead ops f i e.on)
  | none=>false
def Closed (ops:Array Oper)(l:Array Bool):Prop :=
 ∀ j o,ops[j]?=some o->l.getD j false=true->∀ e∈o.after,Region.binds .any e=true->l.getD e.on false=true
theorem ahead_listed {ops:Array Oper} {l:Array Bool} (hc:Closed ops l):∀ (f i j:Nat),ahead ops f i j=true ->
  (∀ o,ops[j]?=some o->∀ e∈o.after,Region.binds .any e=true->l.getD e.on false=true)->l.getD i false=true
 | 0,_,_,h,_=>by simp[ahead]at h
 | f+1,i,j,h,hl=>by
  unfold ahead at h;cases ho:ops[j]? with
  | none=>rw[ho]at h;simp at h
  | some o =>
   rw[ho]at h;simp only[Array.any_eq_true',Bool.and_eq_true,Bool.or_eq_true,beq_iff_eq]at h;obtain⟨e,he,hb,h⟩:=h;have h1:=hl o ho e he hb;rcases h with h | h
   ·exact h▸h1
   ·exact ahead_listed hc f i e.on h fun o' ho' e' he' hb'=>hc _ o' ho' h1 e' he' hb'
theorem Closed.set {ops:Array Oper} {l:Array Bool} (hc:Closed ops l) {j:Nat} (hj:j∈Region.ready .any ops l):Closed ops (l.setIfInBounds j true):=by
 intro k o ho hk e he hb;refine getD_set_true ?_;by_cases hkj:k=j
 ·subst hkj;obtain⟨_,o',ho',hall⟩:=mem_ready.1 hj;rw[ho]at ho';cases ho';exact hall e he hb
 ·rw[getD_set_ne false (Ne.symm hkj)]at hk;exact hc k o ho hk e he hb
theorem Closed.start (ops:Array Oper)(n:Nat):Closed ops (Array.replicate n false):=by
 intro j o _ hj;simp only[Array.getD_eq_getD_getElem?,Array.getElem?_replicate]at hj;split at hj <;> simp at hj
section
variable {P : Program} {ops : Array Oper} {Q : Exit -> Act -> World -> Prop} {S : World -> Prop} {L : Nat}
def wpAnyL (P:Program)(ops:Array Oper)(Q:Exit->Act->World->Prop)(S:World->Prop)(L:Nat):Nat->Array Bool->Act->World->Prop
 | 0,l,a,w=>Region.ready .any ops l=[]/\Q .normal a w
 | f+1,l,a,w=>(Region.ready .any ops l=[]->Q .normal a w) /\
   ∀ i∈Region.ready .any ops l,wpOp P ops Q i (fun a' w'=>(i≠L->S w')/\wpAnyL P ops Q S L f (l.setIfInBounds i true) a' w') a w
theorem wpAnyL_any:∀ (f:Nat)(l:Array Bool)(a:Act)(w:World),wpAnyL P ops Q S L f l a w->wpAny P .any ops Q f l a w
 | 0,_,_,_,h=>h
 | f+1,_,_,_,h=>⟨h.1,fun i hi=>wpOp_mono (fun a' w' k=>wpAnyL_any f _ a' w' k.2) (h.2 i hi)⟩
theorem wpAnyL_done {l:Array Bool} {a:Act} {w:World} (hr:Region.ready .any ops l=[])(h:Q .normal a w):∀ f,wpAnyL P ops Q S L f l a w
 | 0=>⟨hr,h⟩
 | _+1=>⟨fun _=>h,by rw[hr];simp⟩
theorem unlisted {l:Array Bool} {i:Nat} (h:l.getD i true=false)(k:l.getD i false=true):False:=by
 rcases Nat.lt_or_ge i l.size with h' | h'
 ·simp[h']at h k;rw[h]at k;cases k
 ·simp[Array.getElem?_eq_none h']at k
theorem wpAnyL_take {i:Nat} {oi:Oper} {v:Value} (hi:ops[i]?=some oi)(hsel:Region.noSelect ops=true)
  (hQ:∀ c a w,Q (.panic c) (Act.put a oi.dst v) w->Q (.panic c) a w) {n:Nat} (hL:ahead ops n i L=true) :
  ∀ (f:Nat) (l:Array Bool) (a:Act) (w:World),Closed ops l ->
   (∀ j oj,ops[j]?=some oj->j≠i->l.getD j true=false->(∀ e∈oj.after,Region.binds .any e=true->e.on≠i)->oi.apart ops oj=true) ->
   i∈Region.ready .any ops l->YieldsIf P ops S oi v a->S w->wpAnyL P ops Q S L f (l.setIfInBounds i true) (a.put oi.dst v) w->wpAnyL P ops Q S L (f+1) l a w:=by
 intro f;induction f with
 | zero =>
  intro l a w _ _ hr hy hS H;refine⟨fun h=>(by rw[h]at hr;cases hr),fun j hj=>?_⟩;by_cases hji:j=i
  ·subst hji;exact hy.wpOp hi hS ⟨fun _=>hS,H⟩
  ·have:=ready_mono hj hji;rw[H.1]at this;cases this
 | succ f ih =>
  intro l a w hc hfree hr hy hS H;refine⟨fun h=>(by rw[h]at hr;cases hr),fun j hj=>?_⟩;by_cases hji:j=i
  ·subst hji;exact hy.wpOp hi hS ⟨fun _=>hS,H⟩
  ·obtain⟨hjun,oj,hoj,hall⟩:=mem_ready.1 hj;have hiun:=(mem_ready.1 hr).1
   have hjL:j≠L:=by
    intro e;subst e;exact unlisted hiun (ahead_listed hc n i j hL fun o ho e he hb=>by rw[hoj]at ho;cases ho;exact hall e he hb)
   have hnot:∀ e∈oj.after,Region.binds .any e=true->e.on≠i:=fun e he hb heq=>unlisted hiun (heq▸hall e he hb);have h2:=wpOp_putIf hoj (hfree j oj hoj hji hjun hnot) (fun cs b=>Region.noSelect_spec hsel i oi cs b hi) (fun cs b=>Region.noSelect_spec hsel j oj cs b hoj) hQ hy (H.2 j (ready_mono hj hji));refine wpOp_mono (fun a' w' k=>⟨k.2.1,ih (l.setIfInBounds j true) a' w' (hc.set hj) (fun m om hom hmi hun hno=>?_) (ready_mono hr (Ne.symm hji)) k.1 (k.2.1 hjL) ?_⟩) h2
   ·refine hfree m om hom hmi ?_ hno;by_cases hjm:j=m
    ·exact hjm▸hjun
    ·rwa[getD_set_ne true hjm]at hun
   ·rw[Array.setIfInBounds_comm _ _ hji];exact k.2.2
def WalkL (P:Program)(ops:Array Oper)(Q:Exit->Act->World->Prop)(S:World->Prop)(L:Nat):Nat->Array Bool->Act->World->Prop
 | 0,l,a,w=>Region.ready .any ops l=[]/\Q .normal a w
 | f+1,l,a,w=>(Region.ready .any ops l=[]/\Q .normal a w) \/
   (∃ i o v,ops[i]?=some o/\Region.free .any ops l i=true/\(Region.ready .any ops l).contains i=true/\ahead ops ops.size i L=true/\YieldsIf P ops S o v a/\WalkL P ops Q S L f (l.setIfInBounds i true) (a.put o.dst v) w) \/
   (Region.ready .any ops l≠[]/\∀ i∈Region.ready .any ops l,∃ o,ops[i]?=some o/\∀ K':Act->World->Prop,Shut (∀ a' w',S w'->WalkL P ops Q S L f (l.setIfInBounds i true) a' w'->K' a' w') ->
    if Region.wanted o (yielded ops a.tmps)=true then Oper.wp P o a w K' Q else K' (a.put o.dst undef) w) \/
   (Region.ready .any ops l=[L]/\Region.ready .any ops (l.setIfInBounds L true)=[]/\∃ o,ops[L]?=some o/\Region.wanted o (yielded ops a.tmps)=true/\∀ K':Act->World->Prop,Shut (∀ a' w',Q .normal a' w'->K' a' w')->Oper.wp P o a w K' Q)
theorem walkL_sound (hns:Region.noSelect ops=true)(hQ:∀ c a d v w,Q (.panic c) (Act.put a d v) w->Q (.panic c) a w) :
  ∀ (f:Nat) (l:Array Bool) (a:Act) (w:World),Closed ops l->S w->WalkL P ops Q S L f l a w->wpAnyL P ops Q S L f l a w
 | 0,_,_,_,_,_,h=>h
 | f+1,l,a,w,hc,hs,h=>by
  rcases h with⟨h1,h2⟩ | ⟨i,o,v,ho,hf,hr,hL,hy,h⟩ | ⟨hne,h⟩ | ⟨h1,h2,o,ho,hw,h⟩
  ·exact wpAnyL_done h1 h2 _
  ·exact wpAnyL_take ho hns (fun c a w=>hQ c a _ _ w) hL f l a w hc (Region.free_spec ho hf) (by simpa using hr) hy hs (walkL_sound hns hQ f _ _ w (hc.set (by simpa using hr)) hs h)
  ·refine⟨fun e=>absurd e hne,fun i hi=>?_⟩;obtain⟨o,ho,hst⟩:=h i hi;exact wpOp_step ho (fun K' hK=>hst K' (fun a' w' he hw=>hK a' w' ⟨fun _=>he,walkL_sound hns hQ f _ a' w' (hc.set hi) he hw⟩))
  ·refine⟨fun e=>(by rw[e]at h1;exact absurd h1.symm (List.cons_ne_nil _ _)),fun i hi=>?_⟩;rw[h1]at hi;obtain rfl:i=L:=by simpa using hi
   exact wpOp_step ho (fun K' hK=>by rw[if_pos hw];exact h K' (fun a' w' hq=>hK a' w' ⟨fun e=>absurd rfl e,wpAnyL_done h2 hq _⟩))
theorem region_walkL {id:Nat} {a:Act} {w:World} (L:Nat)(S:World->Prop)(hS:S w.drew)(hm:P.follows .mixedOrders=true)(hns:Region.noSelect ops=true)(hQ:∀ c a d v w,Q (.panic c) (Act.put a d v) w->Q (.panic c) a w)
  (h:WalkL P ops Q S L ops.size (Array.replicate ops.size false) a w.drew):(Code.region id ops true).wp P Q a w :=
 wp_region_any hm (wpAnyL_any _ _ _ _ (walkL_sound hns hQ _ _ a w.drew (Closed.start _ _) hS h))
theorem WalkL.take {f:Nat} {l:Array Bool} {a:Act} {w:World} (i:Nat)(o:Oper)(v:Value)(ho:ops[i]?=some o)(hf:Region.free .any ops l i=true)(hr:(Region.ready .any ops l).contains i=true)(hL:ahead ops ops.size i L=true)
  (hw:Region.wanted o (yielded ops a.tmps)=true) (hy:∀ W,S W->(execOp a.eval o).run P W = .ok (.value v) W) (h:WalkL P ops Q S L f (l.setIfInBounds i true) (a.put o.dst v) w):WalkL P ops Q S L (f+1) l a w :=
 .inr (.inl ⟨i,o,v,ho,hf,hr,hL,.inl ⟨hw,hy⟩,h⟩)
def TkL (P:Program)(ops:Array Oper)(Q:Exit->Act->World->Prop)(S:World->Prop)(L:Nat):List Nat->Nat->Array Bool->Act->World->Prop
 | [],f,l,a,w=>WalkL P ops Q S L f l a w
 | i::is,f,l,a,w=>∃ g,f=g+1/\∃ o v,ops[i]?=some o/\Region.free .any ops l i=true/\(Region.ready .any ops l).contains i=true/\ahead ops ops.size i L=true/\Region.wanted o (yielded ops a.tmps)=true/\(∀ W,S W->(execOp a.eval o).run P W = .ok (.value v) W)/\TkL P ops Q S L is g (l.setIfInBounds i true) (a.put o.dst v) w
theorem WalkL.tk (is:List Nat):∀ {f:Nat} {l:Array Bool} {a:Act} {w:World},TkL P ops Q S L is f l a w->WalkL P ops Q S L f l a w:=by
 induction is with
 | nil=>exact fun h=>h
 | cons i is ih =>
  rintro f l a w ⟨g,rfl,o,v,ho,hf,hr,hL,hw,hy,h⟩;exact WalkL.take i o v ho hf hr hL hw hy (ih h)
theorem TkL.c {f:Nat} {l:Array Bool} {a:Act} {w:World} {i:Nat} {is:List Nat} (o:Oper)(v:Value)(ho:ops[i]?=some o)(hf:Region.free .any ops l i=true)(hr:(Region.ready .any ops l).contains i=true)(hL:ahead ops ops.size i L=true)
  (hw:Region.wanted o (yielded ops a.tmps)=true) (hy:∀ W,S W->(execOp a.eval o).run P W = .ok (.value v) W) (h:TkL P ops Q S L is f (l.setIfInBounds i true) (a.put o.dst v) w):TkL P ops Q S L (i::is) (f+1) l a w :=
 ⟨f,rfl,o,v,ho,hf,hr,hL,hw,hy,h⟩
theorem TkL.n {f:Nat} {l:Array Bool} {a:Act} {w:World} (h:WalkL P ops Q S L f l a w):TkL P ops Q S L [] f l a w:=h
def MadeL (P:Program)(ops:Array Oper)(Q:Exit->Act->World->Prop)(S:World->Prop)(L f:Nat)(l:Array Bool)(a:Act)(w:World)(i:Nat):Prop :=
 ∃ o,ops[i]?=some o/\Region.wanted o (yielded ops a.tmps)=true/\∀ K':Act->World->Prop,Shut (∀ a' w',S w'->WalkL P ops Q S L f (l.setIfInBounds i true) a' w'->K' a' w')->Oper.wp P o a w K' Q
theorem WalkL.one {f:Nat} {l:Array Bool} {a:Act} {w:World} (i:Nat)(hr:Region.ready .any ops l=[i])(h:MadeL P ops Q S L f l a w i):WalkL P ops Q S L (f+1) l a w:=by
 refine .inr (.inr (.inl ⟨by rw[hr];simp,fun j hj=>?_⟩));rw[hr]at hj;obtain rfl:j=i:=by simpa using hj
 obtain⟨o,ho,hw,h⟩:=h;exact⟨o,ho,fun K hK=>by rw[if_pos hw];exact h K hK⟩
theorem WalkL.last {f:Nat} {l:Array Bool} {a:Act} {w:World} (hr:Region.ready .any ops l=[L])(hr':Region.ready .any ops (l.setIfInBounds L true)=[])
  (h:∃ o,ops[L]?=some o/\Region.wanted o (yielded ops a.tmps)=true/\∀ K':Act->World->Prop,Shut (∀ a' w',Q .normal a' w'->K' a' w')->Oper.wp P o a w K' Q):WalkL P ops Q S L (f+1) l a w :=
 .inr (.inr (.inr ⟨hr,hr',h⟩))
end
theorem l! {P : Program} {ops : Array Oper} {Q : Exit -> Act -> World -> Prop} {S : World -> Prop} {L : Nat} {f : Nat} {l : Array Bool} {a : Act} {w : World} {i : Nat} {is : List Nat} {o : Oper} {v : Value} {G : Prop} (h : G) (ho : ops[i]? = some o := by simp only[gA,gS,gZ];rfl) (hf : Region.free .any ops l i = true := by kernel_rfl) (hr : (Region.ready .any ops l).contains i = true := by kernel_rfl) (hL : ahead ops ops.size i L = true := by kernel_rfl) (hw : Region.wanted o (yielded ops a.tmps) = true := by rfl) (hy : ∀ W,S W->(execOp a.eval o).run P W=.ok (.value v) W := by intro W hW;go_simp;try with_reducible rfl) (hG : TkL P ops Q S L is f (l.setIfInBounds i true) (a.put o.dst v) w = G := by simp only[Act.put,pA,pZ,pS];rfl) : TkL P ops Q S L (i :: is) (f + 1) l a w := ⟨f, rfl, o, v, ho, hf, hr, hL, hw, hy, Eq.mpr hG h⟩
theorem oL! {P : Program} {ops : Array Oper} {Q : Exit -> Act -> World -> Prop} {S : World -> Prop} {L : Nat} {f : Nat} {l : Array Bool} {a : Act} {w : World} (i : Nat) (h : MadeL P ops Q S L f l a w i) (hr : Region.ready .any ops l = [i] := by kernel_rfl) : WalkL P ops Q S L (f + 1) l a w := WalkL.one i hr h
end Go.Proofs.YtlhaghoajpglaaaGreat
namespace Go.Proofs.YtlhaghoajpglaaaGreat
open Go Go.RowKit Go.Maps
def M3 (b1 b2 b3 x:Nat):Prop:=x=b1\/x=b2\/x=b3
def tyL (ts:List TyS):List (ByteArray × Bool):=ts.map fun t=>(t.name,true)
theorem tyL_take {l:List TyS} {i:Nat} (hi:i<l.length):tyL (l.take (i+1))=tyL (l.take i)++[(l[i].name,true)]:=by
 rw[List.take_succ_eq_append_getElem hi];simp only[tyL,List.map_append,List.map_cons,List.map_nil]
theorem refsOf_le (ts:List TyS)(i:Nat):(refsOf (ts.take i)).length<=(refsOf ts).length:=by
 conv=>rhs;rw[<- List.take_append_drop i ts,refsOf_append,List.length_append]
 omega
theorem tyL_fresh {ts:List TyS} (h:uniqOk ts=true) {i:Nat} (hi:i<ts.length):∀ p∈tyL (ts.take i),p.1≠ts[i].name:=by
 intro p hp e;obtain⟨t,ht,rfl⟩:=List.mem_map.1 hp;obtain⟨m,hm,rfl⟩:=List.getElem_of_mem ht;rw[List.length_take]at hm;rw[List.getElem_take]at e;exact(uniq_at h hi).1 m (by omega) hi (by omega) e
theorem ref_fresh {ts:List TyS} (h:uniqOk ts=true) {i:Nat} (hi:i<ts.length):∀ j (hj:j<ts[i].rels.length),lookA (refsOf (ts.take i)++relsOf ts[i].name (ts[i].rels.take j)) ⟨ts[i].name,ts[i].rels[j].1⟩=none:=by
 intro j hj;refine look_none_iff.2 fun p hp e=>?_;rcases List.mem_append.1 hp with hp | hp
 ·obtain⟨t,ht,hp⟩:=List.mem_flatMap.1 hp;obtain⟨r,hr,rfl⟩:=List.mem_map.1 hp;obtain⟨m,hm,rfl⟩:=List.getElem_of_mem ht;rw[List.length_take]at hm;injection e with e1 e2
  rw[List.getElem_take]at e1;exact(uniq_at h hi).1 m (by omega) hi (by omega) e1
 ·obtain⟨r,hr,rfl⟩:=List.mem_map.1 hp;injection e with e1 e2
  obtain⟨m,hm,rfl⟩:=List.getElem_of_mem hr;rw[List.length_take]at hm;rw[List.getElem_take]at e2;exact fresh_of (uniq_at h hi).2 j m (by omega) hj (by omega) e2
theorem Same.sub {S:Nat->Prop} {B:Nat} (hS:∀ x,S x->x<B) {a b:World} (h:Below B a b):Same S a b:=fun x hx=>h.block x (hS x hx)
structure BkO (S:Nat->Prop)(B:Nat)(w:World)(b1 b2 b3:Nat)(ts:List TyS):Prop where
 R:BkR S w b1 (refsOf ts)
 T:Mp Tryz.prog 9 Value.string bV w b2 (tyL ts)
 W:BkW w B b3 (refsOf ts)
 lo:B<=b1/\B<=b2/\B<=b3/\b1≠b2/\b1≠b3/\b2≠b3
theorem open_any {S:Nat->Prop} (ts:List TyS)(tv:Value)(w:World)(hS:∀ x,S x->x<w.heap.size)(h:TysAt S w ts tv)(hok:∀ t∈ts,t.Ok)(hu:uniqOk ts=true)(hsz:(refsOf ts).length<=1099511627776) :
  Calls Tryz.prog 131 #[.agg #[tv]] w fun e w'=>∃ b1 b2 b3,e = .returned (.agg #[.map (some b1),.map (some b2),.map (some b3)])/\BkO S w.heap.size w' b1 b2 b3 ts/\Below w.heap.size w w':=by
 obtain⟨ao,c,rfl,hlc,hcm,hcell⟩:=h.rows;have HC:=h! hcell;have HOK:=h! hok;have HU:=h! hu;have HSZ:=h! hsz;have hs0:=(Blk.made w #[.slice ao ts.length c] 26).cells;have hmm:=@run_makeMap Tryz.prog;clear h hcell hok hu hsz;go_enter Tryz.func131,Tryz.ntmps131
 go_wp2_with fail
 obtain⟨w1,hw1⟩:∃ x,x=w.alloc (.cells #[.slice ao ts.length c] 26):=⟨_,rfl⟩;rw[<- hw1];obtain⟨w2,hw2⟩:∃ x,x=w1.alloc (.cells #[.map none,.map none,.map none] 229):=⟨_,rfl⟩;rw[<- hw2];obtain⟨w3,hw3⟩:∃ x,x=w2.alloc (.map #[] 0):=⟨_,rfl⟩;rw[<- hw3];obtain⟨w4,hw4⟩:∃ x,x=w3.alloc (.map #[] 0):=⟨_,rfl⟩;rw[<- hw4];obtain⟨w5,hw5⟩:∃ x,x=w4.alloc (.map #[] 0):=⟨_,rfl⟩;rw[<- hw5];obtain⟨bc,hbc⟩:∃ x,x=w.heap.size+1+1+1+1+1:=⟨_,rfl⟩;obtain⟨b3,hb3⟩:∃ x,x=w.heap.size+1+1+1+1:=⟨_,rfl⟩;obtain⟨b2,hb2⟩:∃ x,x=w.heap.size+1+1+1:=⟨_,rfl⟩;obtain⟨b1,hb1⟩:∃ x,x=w.heap.size+1+1:=⟨_,rfl⟩;obtain⟨rc,hrc⟩:∃ x,x=w.heap.size+1:=⟨_,rfl⟩;rw[<- hbc,<- hb3,<- hb2,<- hb1,<- hrc];obtain⟨w6,hw6⟩:∃ x,x=w5.alloc (.cells #[.map (some b1),.map (some b2),.map (some b3)] 229):=⟨_,rfl⟩;rw[<- hw6];have e1:w1.heap.size=w.heap.size+1:=by rw[hw1];simp
 have e2:w2.heap.size=w.heap.size+1+1:=by rw[hw2];simp[e1]
 have e3:w3.heap.size=w.heap.size+1+1+1:=by rw[hw3];simp[e2]
 have e4:w4.heap.size=w.heap.size+1+1+1+1:=by rw[hw4];simp[e3]
 have e5:w5.heap.size=w.heap.size+1+1+1+1+1:=by rw[hw5];simp[e4]
 have x01:Ext w w1:=by rw[hw1];exact Ext.alloc _ _
 have x12:Ext w1 w2:=by rw[hw2];exact Ext.alloc _ _
 have x23:Ext w2 w3:=by rw[hw3];exact Ext.alloc _ _
 have x34:Ext w3 w4:=by rw[hw4];exact Ext.alloc _ _
 have x45:Ext w4 w5:=by rw[hw5];exact Ext.alloc _ _
 have x56:Ext w5 w6:=by rw[hw6];exact Ext.alloc _ _
 have hRC:Blk w2 rc #[.map none,.map none,.map none] 229:=by rw[hrc,hw2,<- e1];exact Blk.made _ _ _
 have hM1:Mp Tryz.prog 121 r2V rvV w3 b1 []:=by rw[hb1,hw3,<- e2];exact Mp.made _
 have hM2:Mp Tryz.prog 9 Value.string bV w4 b2 []:=by rw[hb2,hw4,<- e3];exact Mp.made _
 have hM3:Mp Tryz.prog 9 Value.string wvV w5 b3 []:=by rw[hb3,hw5,<- e4];exact Mp.made _
 have hBC:Blk w6 bc #[.map (some b1),.map (some b2),.map (some b3)] 229:=by rw[hbc,hw6,<- e5];exact Blk.made _ _ _
 have HLO:=h! (show w.heap.size<=rc from by omega);have HD:=h! (show w.heap.size<=b1/\w.heap.size<=b2/\w.heap.size<=b3/\b1≠b2/\b1≠b3/\b2≠b3/\¬ M3 b1 b2 b3 rc/\¬ M3 b1 b2 b3 bc/\rc≠bc from by unfold M3;omega);have HRC:=h! (hRC.below (x23.trans (x34.trans (x45.trans x56))));have HBC:=h! hBC;have HR:=h! (show BkR S w6 b1 []from⟨[],hM1.below (x34.trans (x45.trans x56)),rfl,by simp⟩);have HM:=h! (hM2.below (x45.trans x56));have HW:=h! (show BkW w6 w.heap.size b3 []from⟨[],hM3.below x56,⟨by simp,by simp⟩,fun n=>rfl⟩);have HX:=h! (show Below w.heap.size w w6 from x01.trans (x12.trans (x23.trans (x34.trans (x45.trans x56)))));clear hRC hM1 hM2 hM3 hBC x01 x12 x23 x34 x45 x56 e1 e2 e3 e4 e5 hw1 hw2 hw3 hw4 hw5 hw6 hbc hb1 hb2 hb3 hrc hs0;go_loopw [18] (fun ii wr=>∃ i:Nat,i<=ts.length/\ii = .int .i64 i/\BkR S wr b1 (refsOf (ts.take i))/\Mp Tryz.prog 9 Value.string bV wr b2 (tyL (ts.take i))/\BkW wr w.heap.size b3 (refsOf (ts.take i))/\QKept 9 (M3 b1 b2 b3) w.heap.size w6 wr) (fun ii _=>ts.length-(intOf ii).toNat)
 case atStart=>exact⟨0,by omega,rfl,HR.out,HM.out,HW.out,Kept.refl _ _⟩
 case round =>
  obtain⟨i,hi,rfl,hr,hm,hw,hq⟩:=hrel;have HR1:=h! hr;have HM1:=h! hm;have HW1:=h! hw;have HQ1:=h! hq;clear HR HM HW hr hm hw;by_cases hlt:i<ts.length
  ·have hbel:Below w.heap.size w wr:=HX.out.trans hq.below;obtain⟨bb,off,rsv,hbo,hb,c0,c1,hat2⟩:=HC.out i hlt;cases hbo;have d0:=(hbel.cell (p:=⟨bb,off+i*2,none⟩) (hS _ hb)).trans c0;have d1:=(hbel.cell (p:=⟨bb,off+i*2+1,none⟩) (hS _ hb)).trans c1;have HUN:=h! (uniq_at HU.out hlt);have hokt:=HOK.out _ (List.getElem_mem hlt);have HP1:=h! (refsOf_take hlt);have HT1:=h! (tyL_take hlt);have HNF:=h! (ref_fresh HU.out hlt);have HLE:=h! (refsOf_le ts (i+1));have HI1:=h! hlt;have HTF:=h! (tyL_fresh HU.out hlt);generalize ts[i]=t at *;obtain⟨tn,rels⟩:=t;dsimp only at *;obtain⟨hon,hor⟩:=hokt;dsimp only at hon hor;have HKT:=h! (show tn.size<=maxLen from by unfold maxLen;omega);have HOR:=h! hor;obtain⟨ao2,c2',rfl,hlc3,hcm3,hcell3⟩:=hat2.rows;have HC3:=h! hcell3;obtain⟨rsv,hrsv⟩:∃ v,v=Value.slice ao2 rels.length c2':=⟨_,rfl⟩;have hea:Ext wr (wr.alloc (.cells #[.string tn,.slice ao2 rels.length c2'] 176)):=Ext.alloc _ _;have HTB:=h! (Blk.made wr #[.string tn,.slice ao2 rels.length c2'] 176);have hta:=HTB.out.cells;have HBCA:=h! ((HQ1.out.box HBC.out (by decide) HD.out.2.2.2.2.2.2.2.1).below hea);have hbca:=HBCA.out.cells;have HSA:=h! (show w.heap.size<=(wr.alloc (.cells #[.string tn,.slice ao2 rels.length c2'] 176)).heap.size from Nat.le_trans hbel.size hea.size);have HQA:=h! (QKept.next hq (QKept.of (e:=9) (M:=M3 b1 b2 b3) hea hbel.size))
   have HNT:=h! (show ¬ M3 b1 b2 b3 wr.heap.size from fun h=>by
    have h1:=HR1.out.lt;have h2:=HM1.out.lt;have h3:=HW1.out.lt;rcases h with h | h | h <;> omega)
   have HRA:=h! (HR1.out.same (hea.block _ HR1.out.lt) (Same.sub hS (hea.mono hbel.size)));have HWA:=h! (HW1.out.up hea);have hMA:=HM1.out.below hea;have hlk:=hMA.look strK strV_inj Tryz.underlying226 (Tryz.zeroValue4 _) false (str_key tn HKT.out);rw[look_none_iff.2 HTF.out]at hlk;obtain⟨wT,hst,hMT,hTT⟩:=hMA.store strK strV_inj Tryz.underlying226 (str_key tn HKT.out) true;rw[put_miss HTF.out]at hMT;unfold lookV at hlk;unfold bV at hlk hst;have HQT:=h! (QKept.next HQA.out (QKept.turned hTT (.inr (.inl rfl)) HD.out.2.1));have HTBT:=h! (hTT.kept.blk HTB.out (fun e=>HNT.out (.inr (.inl e))));have htt:=HTBT.out.cells;have HBCT:=h! (hTT.kept.blk HBCA.out (fun e=>HD.out.2.2.2.2.2.2.2.1 (.inr (.inl e))));have HRT:=h! (HRA.out.same (hTT.kept.block _ HD.out.2.2.2.1) (Same.sub hS (hTT.below HD.out.2.1)));have HWT:=h! (HWA.out.turned hTT (fun e=>HD.out.2.2.2.2.2.1 e.symm) hMA.notCells);have HMT:=h! hMT;clear hMT hTT hMA c0 c1 hat2 hcell3 hbel hq hor hon;go_wp2_with fail
   clear hlk hst hta hbca d0 d1 htt hlt hea;generalize wr.heap.size=tb at *;go_loopw [34] (fun jj wr=>∃ j:Nat,j<=rels.length/\jj = .int .i64 j/\BkR S wr b1 (refsOf (ts.take i)++relsOf tn (rels.take j))/\Mp Tryz.prog 9 Value.string bV wr b2 (tyL (ts.take i)++[(tn,true)])/\BkW wr w.heap.size b3 (refsOf (ts.take i)++relsOf tn (rels.take j))/\QKept 9 (M3 b1 b2 b3) w.heap.size wT wr) (fun jj _=>rels.length-(intOf jj).toNat)
   case atStart=>exact⟨0,by omega,rfl,by rw[List.take_zero];simpa [relsOf] using HRT.out,HMT.out,by rw[List.take_zero];simpa [relsOf] using HWT.out,Kept.refl _ _⟩
   case round =>
    obtain⟨j,hj,rfl,hr,hm,hw,hqj⟩:=hrel;have HR2:=h! hr;have HM2:=h! hm;have HW2:=h! hw;have HQ2:=h! hqj;clear HRT HMT HWT hr hm hw;by_cases hlt:j<rels.length
    ·have hbel:Below w.heap.size w wr:=HX.out.trans (HQT.out.below.trans hqj.below);obtain⟨bb,off,pv,hbo,hb,c0,c1,c2,c3,c4,hat2⟩:=HC3.out j hlt;cases hbo;have d0:=(hbel.cell (p:=⟨bb,off+j*5,none⟩) (hS _ hb)).trans c0;have d1:=(hbel.cell (p:=⟨bb,off+j*5+1,none⟩) (hS _ hb)).trans c1;have d2:=(hbel.cell (p:=⟨bb,off+j*5+2,none⟩) (hS _ hb)).trans c2;have d3:=(hbel.cell (p:=⟨bb,off+j*5+3,none⟩) (hS _ hb)).trans c3;have d4:=(hbel.cell (p:=⟨bb,off+j*5+4,none⟩) (hS _ hb)).trans c4;obtain⟨ao3,c3',rfl,-⟩:=hat2.rows;have hokr:=HOR.out _ (List.getElem_mem hlt);have HPJ:=h! (relsOf_take (n:=tn) hlt);have HNJ:=h! (HNF.out j hlt);have HJ1:=h! hlt
     have HWL0:=h! (show(refsOf (ts.take i)++relsOf tn (rels.take j)).length<=1099511627776 from by
      have h1:=HLE.out;have h2:=HSZ.out;rw[HP1.out,List.length_append]at h1;have h3:(relsOf tn (rels.take j)).length<=(relsOf tn rels).length:=by simp only[relsOf,List.length_map,List.length_take];omega
      rw[List.length_append];omega)
     generalize rels[j]=x at *;obtain⟨xn,p⟩:=x;dsimp only at *;have HKX:=h! (show xn.size<=maxLen from by have:=hokr.1;unfold maxLen;omega)
     have HWL:=h! (show(whereP (refsOf (ts.take i)++relsOf tn (rels.take j)) xn).length<=1099511627776 from by
      have:=HWL0.out;unfold whereP;rw[List.length_map];exact Nat.le_trans (List.length_filter_le _ _) this)
     have HAT:=h! (hat2.same (Same.sub hS hbel));clear c0 c1 c2 c3 c4 hat2 hokr hb;obtain⟨wa,hwa⟩:∃ x,x=wr.alloc (.cells #[.string xn,.int .i64 p.k,.string p.a,.string p.b,.slice ao3 p.ps.length c3'] 181):=⟨_,rfl⟩;obtain⟨wb,hwb⟩:∃ x,x=wa.alloc (.cells #[.string tn,.string xn] 121):=⟨_,rfl⟩;obtain⟨wc,hwc⟩:∃ x,x=wb.alloc (.cells #[.int .i64 0,.string ByteArray.empty,.string ByteArray.empty,.slice none 0 0] 106):=⟨_,rfl⟩;have xra:Ext wr wa:=by rw[hwa];exact Ext.alloc _ _
     have xab:Ext wa wb:=by rw[hwb];exact Ext.alloc _ _
     have xbc:Ext wb wc:=by rw[hwc];exact Ext.alloc _ _
     have ea:wa.heap.size=wr.heap.size+1:=by rw[hwa];simp
     have HRB0:=h! (show Blk wa wr.heap.size #[.string xn,.int .i64 p.k,.string p.a,.string p.b,.slice ao3 p.ps.length c3'] 181 from by rw[hwa];exact Blk.made _ _ _);have HFB0:=h! (show Blk wb (wr.heap.size+1) #[.string tn,.string xn] 121 from by rw[hwb,<- ea];exact Blk.made _ _ _);have HTBR:=h! (HQ2.out.box HTBT.out (by decide) HNT.out);have HBCR:=h! (HQ2.out.box HBCT.out (by decide) HD.out.2.2.2.2.2.2.2.1);have t1:=(HTBR.out.below xra).cells;have t2:=(HTBR.out.below (xra.trans xab)).cells;have k2:=(HBCR.out.below (xra.trans xab)).cells;have k3:=(HBCR.out.below (xra.trans (xab.trans xbc))).cells;have r1:=HRB0.out.cells;have r2:=(HRB0.out.below xab).cells;have r3:=(HRB0.out.below (xab.trans xbc)).cells;have f2:=HFB0.out.cells;have f3:=(HFB0.out.below xbc).cells;have hRb:=HR2.out.same ((xra.trans xab).block _ HR2.out.lt) (Same.sub hS ((xra.trans xab).mono hbel.size));obtain⟨z,hlk,-,-,hz⟩:=hRb.look ⟨tn,xn⟩ ⟨HKT.out,HKX.out⟩;rw[HNJ.out]at hlk;rw[hz HNJ.out]at hlk;unfold rvV rV r2V at hlk;dsimp only[RT.k,RT.a,RT.b,Option.isSome]at hlk;have hRc:=HR2.out.same ((xra.trans (xab.trans xbc)).block _ HR2.out.lt) (Same.sub hS ((xra.trans (xab.trans xbc)).mono hbel.size));obtain⟨w4,hst,hR4,hT4⟩:=hRc.store (k:=⟨tn,xn⟩) ⟨HKT.out,HKX.out⟩ (HAT.out.same (Same.sub hS ((xra.trans (xab.trans xbc)).mono hbel.size))) (fun x hx e=>by have:=HD.out.1;have:=hS x hx;omega) HNJ.out;unfold rV r2V at hst;dsimp only at hst;have hsc:w.heap.size<=wc.heap.size:=Nat.le_trans hbel.size (xra.trans (xab.trans xbc)).size;have HS4:=h! (show w.heap.size<=w4.heap.size from by rw[hT4.size];exact hsc);have HQ4:=h! (QKept.next HQ2.out (QKept.next (QKept.of (e:=9) (M:=M3 b1 b2 b3) (xra.trans (xab.trans xbc)) hbel.size) (QKept.turned hT4 (.inl rfl) HD.out.1)))
     have HNR:=h! (show ¬ M3 b1 b2 b3 wr.heap.size from fun h=>by
      have h1:=HR2.out.lt;have h2:=HM2.out.lt;have h3:=HW2.out.lt;rcases h with h | h | h <;> omega)
     have HBC4:=h! (HQ4.out.box HBCT.out (by decide) HD.out.2.2.2.2.2.2.2.1);have HTB4:=h! (HQ4.out.box HTBT.out (by decide) HNT.out);have HRB4:=h! (hT4.kept.blk (HRB0.out.below (xab.trans xbc)) (fun e=>HNR.out (.inl e)));have HBW4:=h! ((HW2.out.up (xra.trans (xab.trans xbc))).turned hT4 (fun e=>HD.out.2.2.2.2.1 e.symm) hRc.notCells);have HR4:=h! hR4;have HM4:=h! ((HM2.out.below (xra.trans (xab.trans xbc))).kept hT4.kept (fun e=>HD.out.2.2.2.1 e.symm));have t4:=HTB4.out.cells;have r4:=HRB4.out.cells;have k4:=HBC4.out.cells;clear hRb hRc hR4 hT4 hsc hz hqj HAT ea xra xab xbc;subst hwc hwb hwa;go_wp2_with fail
     clear t1 t2 k2 k3 r1 r2 r3 f2 f3 hlk hst d0 d1 d2 d3 d4;generalize wr.heap.size=rb at *;obtain⟨wd,hwd⟩:∃ wd,wd=w4.drew:=⟨_,rfl⟩;have hbcd:Blk wd bc #[.map (some b1),.map (some b2),.map (some b3)] 229:=by rw[hwd];exact HBC4.out.drew
     have htbd:=(show Blk w4.drew tb _ _ from HTB4.out.drew);rw[<- hwd]at htbd;have hrbd:Blk wd rb #[.string xn,.int .i64 p.k,.string p.a,.string p.b,.slice ao3 p.ps.length c3'] 181:=by rw[hwd];exact HRB4.out.drew
     have hbwd:=HBW4.out.up (show Below w4.heap.size w4 wd from by rw[hwd];exact(Below.refl _ _).drew);have hq4d:QKept 9 (· = b3) w.heap.size w4 wd:=by rw[hwd];exact(Kept.refl _ _).drew
     have hszd:w.heap.size<=wd.heap.size:=by rw[hwd];exact HS4.out
     obtain⟨v,-,hov,lw,hM,hR,hL,hl⟩:=hbwd.look xn HKX.out;have hnb3:∀ g,v.ownBlock=some g->g≠b3:=hov.notMap hM.notCells;have hnbc:∀ g,v.ownBlock=some g->g≠bc:=hov.notBlk hbcd (by decide);have hntb:∀ g,v.ownBlock=some g->g≠tb:=hov.notBlk htbd (by decide);have hnrb:∀ g,v.ownBlock=some g->g≠rb:=hov.notBlk hrbd (by decide);refine region_walkL 13 (Kept (fun x=>x<wd.heap.size/\v.ownBlock≠some x) wd) (by rw[<- hwd];exact Kept.refl _ _) (by kernel_rfl) (by kernel_rfl) (fun _ _ d _ _ h=>by cases d <;> exact h) ?_;rw[<- hwd];clear hwd;have h1:∀ W,Kept (fun x=>x<wd.heap.size/\v.ownBlock≠some x) wd W->∀ i,W.cell? ⟨bc,i,none⟩=(#[.map (some b1),.map (some b2),.map (some b3)]:Array Value)[i]?:=fun W h=>(h.blk hbcd ⟨hbcd.lt,fun e=>hnbc _ e rfl⟩).cells;have h2:∀ W,Kept (fun x=>x<wd.heap.size/\v.ownBlock≠some x) wd W->W.cell? ⟨tb,0,none⟩=some (.string tn):=fun W h=>(h.blk htbd ⟨htbd.lt,fun e=>hntb _ e rfl⟩).cells 0;have h3:∀ W,Kept (fun x=>x<wd.heap.size/\v.ownBlock≠some x) wd W->∀ i,W.cell? ⟨rb,i,none⟩=(#[.string xn,.int .i64 p.k,.string p.a,.string p.b,.slice ao3 p.ps.length c3']:Array Value)[i]?:=fun W h=>(h.blk hrbd ⟨hrbd.lt,fun e=>hnrb _ e rfl⟩).cells
     have h4:∀ W,Kept (fun x=>x<wd.heap.size/\v.ownBlock≠some x) wd W->(Instr.lookup 227 (.map (some b3)) (.string xn) false).run Tryz.prog W = .ok v W:=fun W h=>by
      have:=(hM.same (h.block b3 ⟨hM.lt,fun e=>hnb3 _ e rfl⟩)).look strK strV_inj Tryz.underlying227 (Tryz.zeroValue169 W) false (str_key xn HKX.out);rw[this];rcases hl with hl | ⟨hl,_,rfl⟩ <;> rw[hl] <;> rfl
     (refine WalkL.tk [0,1,2,3,4,5,6,7,8,9,10] ?_;(iterate 11 (refine l! ?_));refine TkL.n ?_)
     clear h1 h2 h3 h4;refine oL! 11 ?_;refine b! ?_;intro K hK;go_simp;have hE1:Below wd.heap.size wd (wd.alloc (.cells #[.string tn] 9)):=(Below.refl _ _).alloc (Nat.le_refl _) _;refine hK.out _ _ ((Kept.refl _ _).alloc (fun x hx=>hx.1) _) ?_;clear hK;refine oL! 12 ?_;refine b! ?_;intro K hK;have hlen:(whereP (refsOf (ts.take i)++relsOf tn (rels.take j)) xn).length<=1099511627776:=by have:=HWL.out;exact this
     refine wp_ownw textsT (.tmp 65) (.tmp 68) rfl rfl (hov.below hE1) (m:=1) (news:=txs [tn]) rfl rfl (fun j u hu=>?_) (txs_one _) (by rw[txs_length,txs_length];simp only[List.length_cons,List.length_nil];omega) (by rw[txs_length,txs_length];simp only[List.length_cons,List.length_nil];omega) (by simp;omega) (fun v2 w2 hown2 hw2 hg2=>?_)
     ·rw[Addr.add_lit,cell_of_row _ wd.heap.size (0+j) #[.string tn] 9 (0,0) (heap_alloc_new wd _),Nat.zero_add];simpa [txs] using hu
     have hkg:Kept (fun x=>x<wd.heap.size/\v.ownBlock≠some x) wd w2:=⟨hg2.os.trans rfl,hg2.tape.trans rfl,hg2.output.trans rfl,Nat.le_trans (by simp) hg2.size,fun x hx=>(hg2.block x (by have:=hx.1;simp;omega) (fun e=>hx.2 e.symm)).trans (Below.heap_alloc wd _ x hx.1)⟩;have hqg:QKept 9 (· = b3) w.heap.size w4 w2:=QKept.next hq4d (QKept.next (QKept.of hE1 hszd) (QKept.grown (hov.below hE1) hg2 (by simp;omega)));refine hK.out _ _ hkg ?_;clear hK;simp only[Act.put,pA,pZ,pS];rw[<- txs_append]at hown2;obtain⟨w7,hrun,hbw7,ht7⟩:=BkW.put (k:=⟨tn,xn⟩) (r:=p) hM hR hL hl hE1 hg2 hov hown2 hw2 HKX.out;refine WalkL.last (by kernel_rfl) (by kernel_rfl) ?_;refine b! ?_;intro K hK;go_simp;refine hK.out _ _ ?_;clear hK;have HW7:=h! hbw7;have HQ47:=h! (QKept.next hqg (QKept.turned ht7 rfl HD.out.2.2.1));clear hrun hbw7 ht7 hqg hkg hown2 hw2 hg2 hE1 hlen hM hR hL hl hov hnb3 hnbc hntb hnrb hbcd htbd hrbd hbwd hq4d hszd
     have HRW:=h! (show BkR S w7 b1 (refsOf (ts.take i)++relsOf tn (rels.take (j+1)))from by
      rw[HPJ.out,<- List.append_assoc];exact HR4.out.same (HQ47.out.block b1 (.inr ⟨HD.out.2.2.2.2.1,HR4.out.lt,fun cs=>HR4.out.notCells cs _ _⟩)) (Same.sub hS HQ47.out.below))
     have HMW:=h! (HM4.out.same (HQ47.out.block b2 (.inr ⟨HD.out.2.2.2.2.2.1,HM4.out.lt,fun cs=>HM4.out.notCells cs _ _⟩)))
     have HWW:=h! (show BkW w7 w.heap.size b3 (refsOf (ts.take i)++relsOf tn (rels.take (j+1)))from by
      rw[HPJ.out,<- List.append_assoc];exact HW7.out)
     have HQW:=h! (QKept.next HQ4.out (HQ47.out.mono fun x hx=>by
      rcases hx with hx | ⟨h1,h2⟩
      ·exact .inl hx
      ·exact .inr ⟨fun e=>h1 (.inr (.inr e)),h2⟩))
     have hlt2:=HJ1.out;clear t4 r4 k4;go_wp2_with fail
     go_roundw
     case rel=>exact⟨j+1,by omega,by go_num,HRW.out,HMW.out,HWW.out,HQW.out⟩
     case measure=>simp[intOf];omega
    ·obtain rfl:j=rels.length:=by omega
     have HRW:=h! (show BkR S wr b1 (refsOf (ts.take (i+1)))from by have:=HR2.out;rw[List.take_length]at this;rw[HP1.out];exact this);have HMW:=h! (show Mp Tryz.prog 9 Value.string bV wr b2 (tyL (ts.take (i+1)))from by rw[HT1.out];exact HM2.out);have HWW:=h! (show BkW wr w.heap.size b3 (refsOf (ts.take (i+1)))from by have:=HW2.out;rw[List.take_length]at this;rw[HP1.out];exact this);have HQW:=h! (QKept.next HQT.out HQ2.out);have hlt2:=HI1.out;clear hqj;go_wp2_with fail
     go_roundw
     case rel=>exact⟨i+1,by omega,by go_num,HRW.out,HMW.out,HWW.out,HQW.out⟩
     case measure=>simp[intOf];omega
  ·obtain rfl:i=ts.length:=by omega
   rw[List.take_length]at HR1 HM1 HW1;have HRC1:=h! (HQ1.out.box HRC.out (by decide) HD.out.2.2.2.2.2.2.1);have HBC1:=h! (HQ1.out.box HBC.out (by decide) HD.out.2.2.2.2.2.2.2.1);have hlo:=HX.out.trans HQ1.out.below;have hrcw:w.heap.size<=rc:=HLO.out;have hs1:=HRC1.out.set_to 0 (.map (some b1)) rfl;have hs2:=hs1.set_to 1 (.map (some b2)) rfl;have hs3:=hs2.set_to 2 (.map (some b3)) rfl;have c1:=HBC1.out.cells;have c2:=HRC1.out.cells;have f2:=HRC1.out.free;have HS3:=h! hs3
   have hne:∀ x,x≠rc->(((wr.setCell ⟨rc,0,none⟩ (.map (some b1))).setCell ⟨rc,1,none⟩ (.map (some b2))).setCell ⟨rc,2,none⟩ (.map (some b3))).heap[x]?=wr.heap[x]?:=fun x hx=>by
    rw[Below.heap_setCell _ _ _ x hx,Below.heap_setCell _ _ _ x hx,Below.heap_setCell _ _ _ x hx]
   have HNE:=h! hne;have HBE:=h! (show Below w.heap.size w (((wr.setCell ⟨rc,0,none⟩ (.map (some b1))).setCell ⟨rc,1,none⟩ (.map (some b2))).setCell ⟨rc,2,none⟩ (.map (some b3)))from((hlo.setCell hrcw _).setCell hrcw _).setCell hrcw _);clear hs1 hs2 hs3 hlo hne hq;go_wp2_with fail
   refine bodyPost_ret (results_cell_row rfl _ _ rc 229 #[.map (some b1),.map (some b2),.map (some b3)] (0,0) _ rfl HS3.out Tryz.underlying229 rfl (by kernel_rfl)) rfl ⟨b1,b2,b3,rfl,⟨HR1.out.same (HNE.out _ fun e=>HD.out.2.2.2.2.2.2.1 (.inl e.symm)) (fun x hx=>HNE.out x (by have:=hS x hx;omega)),HM1.out.same (HNE.out _ fun e=>HD.out.2.2.2.2.2.2.1 (.inr (.inl e.symm))),HW1.out.keep (HNE.out _ fun e=>HD.out.2.2.2.2.2.2.1 (.inr (.inr e.symm))) (fun x _ _ hx=>HNE.out x fun e=>by
    obtain⟨cs,hx⟩:=hx;have:=HRC1.out;rw[e,show wr.heap[rc]?=_ from HRC1.out]at hx;injection hx with hx
    injection hx with _ h2 _
    revert h2
    decide),HD.out.1,HD.out.2.1,HD.out.2.2.1,HD.out.2.2.2.1,HD.out.2.2.2.2.1,HD.out.2.2.2.2.2.1⟩,HBE.out⟩
theorem Own.mono {w:World} {B B':Nat} {e:TypeId} {sz:Nat} {v:Value} {xs:List Value} (h:Own w B e sz v xs)(hb:B'<=B):Own w B' e sz v xs:=by
 obtain⟨n,h⟩:=h;refine⟨n,h.1,?_⟩;rcases h.2 with hn | ⟨g,cap,cur,rfl,hbg,r⟩
 ·exact .inl hn
 ·exact .inr ⟨g,cap,cur,rfl,by omega,r⟩
theorem BkW.mono {w:World} {B B' b3:Nat} {P:List (R2 × RT)} (h:BkW w B b3 P)(hb:B'<=B):BkW w B' b3 P:=by
 obtain⟨lw,h1,h2,h3⟩:=h;exact⟨lw,h1,⟨fun x hx=>⟨(h2.rows x hx).1,(h2.rows x hx).2.mono hb⟩,h2.apart⟩,h3⟩
structure Bk (w:World)(b1 b2 b3:Nat)(ts:List TyS):Prop where
 R:BkR (· < w.heap.size) w b1 (refsOf ts)
 T:Mp Tryz.prog 9 Value.string bV w b2 (tyL ts)
 W:BkW w 0 b3 (refsOf ts)
theorem Bk.up {w w':World} {b1 b2 b3:Nat} {ts:List TyS} (h:Bk w b1 b2 b3 ts)(hb:Below w.heap.size w w'):Bk w' b1 b2 b3 ts:=⟨h.R.up hb,h.T.below hb,h.W.up hb⟩
theorem BkR.mono {S S':Nat->Prop} {w:World} {b1:Nat} {P:List (R2 × RT)} (h:BkR S w b1 P)(hs:∀ x,S x->S' x):BkR S' w b1 P:=by
 obtain⟨lr,h1,h2,h3⟩:=h;exact⟨lr,h1,h2,fun x hx=>(h3 x hx).mono hs⟩
theorem open_bk (ts:List TyS)(tv:Value)(w:World)(h:TysAt (· < w.heap.size) w ts tv)(hok:∀ t∈ts,t.Ok)(hu:uniqOk ts=true)(hsz:(refsOf ts).length<=1099511627776) :
  Calls Tryz.prog 131 #[.agg #[tv]] w fun e w'=>∃ b1 b2 b3,e = .returned (.agg #[.map (some b1),.map (some b2),.map (some b3)])/\Bk w' b1 b2 b3 ts/\Below w.heap.size w w':=by
 refine(open_any ts tv w (fun _ hx=>hx) h hok hu hsz).mono ?_;rintro e w' ⟨b1,b2,b3,rfl,hb,hw⟩;exact⟨b1,b2,b3,rfl,⟨hb.R.mono fun x hx=>Nat.lt_of_lt_of_le hx hw.size,hb.T,hb.W.mono (Nat.zero_le _)⟩,hw⟩
theorem texts_at {S:Nat->Prop} {w:World} {ao:Option Addr} {l:List ByteArray} {c:Nat} (h:Sl S w 1 (.slice ao l.length c) (txs l)):∀ i (hi:i<l.length),∃ b off,ao=some ⟨b,off,none⟩/\S b/\w.cell? ⟨b,off+i,none⟩=some (.string l[i]):=by
 obtain⟨ao',n',c',hv,h1,h2,h3,h4,h5⟩:=h;cases hv;intro i hi;obtain⟨b,off,rfl,hb,hc⟩:=h5 (fun e=>by have:=congrArg List.length e;rw[txs_length]at this;simp only[List.length_nil]at this;omega);exact⟨b,off,rfl,hb,hc i _ (by simp[txs,hi])⟩
theorem indexRF_any (w:World)(ps:List RT)(k:Int)(a b:ByteArray)(pv:Value)(g:Nat)(cap:Array Value)(eg:∀ args W,(callFunc g args).run Tryz.prog W = .ok (.enter g args) W)(q:RT->Bool)(hat:RTAt (· < w.heap.size) w (.mk k a b ps) pv)(hf:∀ i (hi:i<ps.length) W pvi,Below w.heap.size w W->RTAt (· < W.heap.size) W ps[i] pvi->Calls Tryz.prog g (#[rV ps[i] pvi]++cap) W fun e W'=>e = .returned (.bool (q ps[i]))/\Below W.heap.size W W') :
  Calls Tryz.prog 223 #[pv,.func (.func g) #[] cap] w fun e w'=>∃ k:Int,e = .returned (.int .i64 k)/\(0<=k↔ps.any q=true)/\Below w.heap.size w w':=by
 obtain⟨ao,c,rfl,hlc,hcm,hcell⟩:=hat.rows;dsimp only[RT.ps]at hlc hcell;have HC:=h! hcell;have HF:=h! hf;clear hat hcell hf;go_enter Tryz.func223,Tryz.ntmps223
 go_wp2_with fail
 go_loopw [5,8] (fun _ ii wr=>∃ i:Nat,i<=ps.length/\ii = .int .i64 i/\(∀ j (hj:j<ps.length),j<i->q ps[j]=false)/\Below w.heap.size w wr) (fun _ ii _=>ps.length-(intOf ii).toNat)
 case atStart=>exact⟨0,by omega,rfl,fun _ _ h=>absurd h (by omega),Below.refl _ _⟩
 case round =>
  obtain⟨i,hi,rfl,hall,hbel⟩:=hrel;have HALL:=h! hall;clear hall;by_cases hlt:i<ps.length
  ·have HUP:=h! (fun h=>upto_succ (p:=fun j hj=>q ps[j]=false) HALL.out hlt h);have HAN:=h! (fun(h:q ps[i]=true)=>(show ps.any q=true from List.any_eq_true.2 ⟨_,List.getElem_mem hlt,h⟩));obtain⟨bb,off,pv2,hbo,hb,c0,c1,c2,c3,hat2⟩:=HC.out i hlt;cases hbo;have d0:=(hbel.cell (p:=⟨bb,off+i*4,none⟩) hb).trans c0;have d1:=(hbel.cell (p:=⟨bb,off+i*4+1,none⟩) hb).trans c1;have d2:=(hbel.cell (p:=⟨bb,off+i*4+2,none⟩) hb).trans c2;have d3:=(hbel.cell (p:=⟨bb,off+i*4+3,none⟩) hb).trans c3;have HR:=h! (HF.out i hlt wr pv2 hbel (hat2.up hbel));clear c0 c1 c2 c3 hat2 hb;unfold rV at HR;generalize ps[i]=p at *;have HB:=h! hbel;clear hbel;cases hq:q p with
   | true =>
    rw[hq]at HR;have HT:=h! (HAN.out hq);clear HUP HAN hq;go_wp2_with fail
    refine HR.out.mono ?_;rintro e w5 ⟨rfl,hb5⟩;have HBE:=h! (HB.out.trans (hb5.mono HB.out.size));clear HR hb5 d0 d1 d2 d3;go_wp2_with fail
    go_ret
    exact⟨_,rfl,⟨fun _=>HT.out,fun _=>by omega⟩,HBE.out⟩
   | false =>
    rw[hq]at HR;have HN:=h! (HUP.out hq);clear HUP HAN hq;go_wp2_with fail
    refine HR.out.mono ?_;rintro e w5 ⟨rfl,hb5⟩;have HBE:=h! (HB.out.trans (hb5.mono HB.out.size));clear HR hb5 d0 d1 d2 d3;go_wp2_with fail
    go_roundw
    case rel=>exact⟨i+1,by omega,by go_num,HN.out,HBE.out⟩
    case measure=>simp[intOf];omega
  ·obtain rfl:i=ps.length:=by omega
   have HN:=h! (show ¬ ps.any q=true from fun h=>by
    obtain⟨x,hx,hq⟩:=List.any_eq_true.1 h;obtain⟨j,hj,rfl⟩:=List.getElem_of_mem hx;rw[HALL.out j hj hj]at hq;cases hq)
   have HB:=h! hbel;clear hbel;go_wp2_with fail
   go_ret
   exact⟨_,rfl,⟨fun h=>absurd h (by omega),fun h=>absurd h HN.out⟩,HB.out⟩
theorem containsRF_any (w:World)(ps:List RT)(k:Int)(a b:ByteArray)(pv:Value)(g:Nat)(cap:Array Value)(eg:∀ args W,(callFunc g args).run Tryz.prog W = .ok (.enter g args) W)(q:RT->Bool)(hat:RTAt (· < w.heap.size) w (.mk k a b ps) pv)(hf:∀ i (hi:i<ps.length) W pvi,Below w.heap.size w W->RTAt (· < W.heap.size) W ps[i] pvi->Calls Tryz.prog g (#[rV ps[i] pvi]++cap) W fun e W'=>e = .returned (.bool (q ps[i]))/\Below W.heap.size W W') :
  Calls Tryz.prog 175 #[pv,.func (.func g) #[] cap] w fun e w'=>e = .returned (.bool (ps.any q))/\Below w.heap.size w w':=by
 have HI:=h! (indexRF_any w ps k a b pv g cap eg q hat hf);clear hat hf;go_enter Tryz.func175,Tryz.ntmps175
 go_wp2_with fail
 refine HI.out.mono ?_;rintro e w2 ⟨k,rfl,hk,hb⟩;have HK:=h! hk;have HB:=h! hb;clear HI hk hb;by_cases h0:0<=k
 ·have HM:=h! (HK.out.1 h0);go_wp2_with fail
  go_ret
  exact⟨by rw[HM.out];simp[],HB.out⟩
 ·have HM:=h! (show ps.any q=false from by cases h:ps.any q with | false=>rfl | true=>exact absurd (HK.out.2 h) h0);go_wp2_with fail
  go_ret
  exact⟨by rw[HM.out];simp[h0],HB.out⟩
end Go.Proofs.YtlhaghoajpglaaaGreat
namespace Go.Proofs.YtlhaghoajpglaaaGreat
open Go Go.RowKit Go.Maps Go.Shelf
mutual
def RT.pnamed (P:List (R2 × RT))(typ:ByteArray):RT->Bool
 | .mk k a b ps=>if k=2 then(lookA P ⟨typ,a⟩).isSome else if k=3 then(lookA P ⟨typ,a⟩).isSome&&decide (0<(whereP P b).length)else pnamedL P typ ps
def pnamedL (P:List (R2 × RT))(typ:ByteArray):List RT->Bool | []=>true | r::rs=>r.pnamed P typ&&pnamedL P typ rs
end
theorem pnamedL_eq (P:List (R2 × RT))(typ:ByteArray):∀ l:List RT,pnamedL P typ l=l.all fun r=>r.pnamed P typ
 | []=>rfl
 | r::rs=>by rw[pnamedL,List.all_cons,pnamedL_eq P typ rs]
theorem named1_any {b1 b2 b3:Nat} {typ:ByteArray} (p:RT)(pv:Value)(X Y:Nat)(w:World)(g:Bool)(hX:Blk w X #[.map (some b1),.map (some b2),.map (some b3)] 229)(hY:Blk w Y #[.string typ] 9)(hat:RTAt (· < w.heap.size) w p pv)
  (h:Calls Tryz.prog 132 #[.agg #[.map (some b1),.map (some b2),.map (some b3)],.string typ,rV p pv] (w.alloc (.cells #[.int .i64 p.k,.string p.a,.string p.b,pv] 106)) fun e w'=>e = .returned (.bool g)/\Below w.heap.size w w') :
  Calls Tryz.prog 192 #[rV p pv,.pointer (some ⟨X,0,none⟩),.pointer (some ⟨Y,0,none⟩)] w fun e w'=>e = .returned (.bool (!g))/\Below w.heap.size w w':=by
 have HC:=h! h;obtain⟨ao,c,rfl,-⟩:=hat.rows;have hb:=(Blk.made w #[.int .i64 p.k,.string p.a,.string p.b,.slice ao p.ps.length c] 106).cells;have hx:=(hX.alloc (.cells #[.int .i64 p.k,.string p.a,.string p.b,.slice ao p.ps.length c] 106)).cells;have hy:=(hY.alloc (.cells #[.int .i64 p.k,.string p.a,.string p.b,.slice ao p.ps.length c] 106)).cells;clear h hX hY hat;unfold rV at HC ⊢;go_enter Tryz.func192,Tryz.ntmps192
 go_wp2_with fail
 refine HC.out.mono ?_;rintro e w2 ⟨rfl,hb2⟩;have HB:=h! hb2;clear HC hb hx hy hb2;go_wp2_with fail
 go_ret
 exact⟨rfl,HB.out⟩
theorem pnamed_any {b1 b2 b3:Nat} {ts:List TyS} (typ:ByteArray)(htyp:typ.size<=maxLen)(r:RT):∀ (pv:Value)(w:World),Bk w b1 b2 b3 ts->RTAt (· < w.heap.size) w r pv->r.Ok ->
  Calls Tryz.prog 132 #[.agg #[.map (some b1),.map (some b2),.map (some b3)],.string typ,rV r pv] w fun e w'=>e = .returned (.bool (r.pnamed (refsOf ts) typ))/\Below w.heap.size w w':=by
 induction r using RT.ind with
 | h r ih =>
 intro pv w hbk hat hok;obtain⟨-,hoa,hob,hop⟩:=r.ok_iff.1 hok;obtain⟨k,ra,rb,ps⟩:=r;obtain⟨ao,c,rfl,-⟩:=hat.rows;dsimp only[RT.k,RT.a,RT.b,RT.ps]at hoa hob hop ih;have IH:=h! ih;have HOP:=h! hop;have HRA:=h! (show ra.size<=maxLen from by unfold maxLen;omega);have HRB:=h! (show rb.size<=maxLen from by unfold maxLen;omega);unfold rV;dsimp only[RT.k,RT.a,RT.b,RT.ps];clear ih hop hoa hob hok;by_cases k2:k=2
 ·subst k2;have HE:=h! (show(RT.mk 2 ra rb ps).pnamed (refsOf ts) typ=(lookA (refsOf ts) ⟨typ,ra⟩).isSome from by rw[RT.pnamed];rfl);obtain⟨wx,hwx⟩:∃ x,x=w.alloc (.cells #[.map (some b1),.map (some b2),.map (some b3)] 229):=⟨_,rfl⟩;obtain⟨wy,hwy⟩:∃ x,x=wx.alloc (.cells #[.string typ] 9):=⟨_,rfl⟩;obtain⟨wz,hwz⟩:∃ x,x=wy.alloc (.cells #[.int .i64 2,.string ra,.string rb,.slice ao ps.length c] 106):=⟨_,rfl⟩;have ex:wx.heap.size=w.heap.size+1:=by rw[hwx];simp
  have ey:wy.heap.size=w.heap.size+1+1:=by rw[hwy];simp[ex]
  have xwx:Ext w wx:=by rw[hwx];exact Ext.alloc _ _
  have xxy:Ext wx wy:=by rw[hwy];exact Ext.alloc _ _
  have xyz:Ext wy wz:=by rw[hwz];exact Ext.alloc _ _
  have HX:=h! (show Blk wz w.heap.size #[.map (some b1),.map (some b2),.map (some b3)] 229 from Blk.below (by rw[hwx];exact Blk.made _ _ _) (xxy.trans xyz));have HY:=h! (show Blk wz (w.heap.size+1) #[.string typ] 9 from Blk.below (by rw[hwy,<- ex];exact Blk.made _ _ _) xyz);have HZ:=h! (show Blk wz (w.heap.size+1+1) #[.int .i64 2,.string ra,.string rb,.slice ao ps.length c] 106 from by rw[hwz,<- ey];exact Blk.made _ _ _);have XWZ:=h! (show Below w.heap.size w wz from xwx.trans (xxy.trans xyz));have HBK:=h! (hbk.up XWZ.out);obtain⟨z,hlk,hzat,-,-⟩:=HBK.out.R.look ⟨typ,ra⟩ ⟨htyp,HRA.out⟩;obtain⟨zo,zc,hzv,-⟩:=hzat.rows;generalize hok:(lookA (refsOf ts) ⟨typ,ra⟩).isSome=ok at *;unfold rvV rV r2V at hlk;dsimp only at hlk;rw[hzv]at hlk;have h4:Ext wz (wz.alloc (.cells #[.int .i64 z.1.k,.string z.1.a,.string z.1.b,.slice zo z.1.ps.length zc] 106)):=Ext.alloc _ _;have x3:=HX.out.cells;have y3:=HY.out.cells;have z3:=HZ.out.cells;have x4:=(HX.out.below h4).cells;have z4:=(HZ.out.below h4).cells;have HB4:=h! (show Below w.heap.size w (wz.alloc (.cells #[.int .i64 z.1.k,.string z.1.a,.string z.1.b,.slice zo z.1.ps.length zc] 106))from Ext.trans XWZ.out h4);have HBK4:=h! (HBK.out.up h4);clear hbk hzat hzv hat ex ey xwx xxy xyz h4;subst hwz hwy hwx;go_enter Tryz.func132,Tryz.ntmps132
  go_wp2_with fail
  go_ret
  exact⟨by rw[HE.out];simp,HB4.out⟩
 by_cases k3:k=3
 ·subst k3;have HE:=h! (show(RT.mk 3 ra rb ps).pnamed (refsOf ts) typ=((lookA (refsOf ts) ⟨typ,ra⟩).isSome&&decide (0<(whereP (refsOf ts) rb).length))from by rw[RT.pnamed];rfl);clear k2;obtain⟨wx,hwx⟩:∃ x,x=w.alloc (.cells #[.map (some b1),.map (some b2),.map (some b3)] 229):=⟨_,rfl⟩;obtain⟨wy,hwy⟩:∃ x,x=wx.alloc (.cells #[.string typ] 9):=⟨_,rfl⟩;obtain⟨wz,hwz⟩:∃ x,x=wy.alloc (.cells #[.int .i64 3,.string ra,.string rb,.slice ao ps.length c] 106):=⟨_,rfl⟩;have ex:wx.heap.size=w.heap.size+1:=by rw[hwx];simp
  have ey:wy.heap.size=w.heap.size+1+1:=by rw[hwy];simp[ex]
  have xwx:Ext w wx:=by rw[hwx];exact Ext.alloc _ _
  have xxy:Ext wx wy:=by rw[hwy];exact Ext.alloc _ _
  have xyz:Ext wy wz:=by rw[hwz];exact Ext.alloc _ _
  have HX:=h! (show Blk wz w.heap.size #[.map (some b1),.map (some b2),.map (some b3)] 229 from Blk.below (by rw[hwx];exact Blk.made _ _ _) (xxy.trans xyz));have HY:=h! (show Blk wz (w.heap.size+1) #[.string typ] 9 from Blk.below (by rw[hwy,<- ex];exact Blk.made _ _ _) xyz);have HZ:=h! (show Blk wz (w.heap.size+1+1) #[.int .i64 3,.string ra,.string rb,.slice ao ps.length c] 106 from by rw[hwz,<- ey];exact Blk.made _ _ _);have XWZ:=h! (show Below w.heap.size w wz from xwx.trans (xxy.trans xyz));have HBK:=h! (hbk.up XWZ.out);obtain⟨z,hlk,hzat,-,-⟩:=HBK.out.R.look ⟨typ,ra⟩ ⟨htyp,HRA.out⟩;obtain⟨zo,zc,hzv,-⟩:=hzat.rows;generalize hok:(lookA (refsOf ts) ⟨typ,ra⟩).isSome=ok at *;unfold rvV rV r2V at hlk;dsimp only at hlk;rw[hzv]at hlk;have h4:Ext wz (wz.alloc (.cells #[.int .i64 z.1.k,.string z.1.a,.string z.1.b,.slice zo z.1.ps.length zc] 106)):=Ext.alloc _ _;have x3:=HX.out.cells;have y3:=HY.out.cells;have z3:=HZ.out.cells;have x4:=(HX.out.below h4).cells;have z4:=(HZ.out.below h4).cells;have HB4:=h! (show Below w.heap.size w (wz.alloc (.cells #[.int .i64 z.1.k,.string z.1.a,.string z.1.b,.slice zo z.1.ps.length zc] 106))from Ext.trans XWZ.out h4);have HBK4:=h! (HBK.out.up h4);obtain⟨v,hlw,hov,-⟩:=HBK4.out.W.look rb HRB.out;obtain⟨vo,vn,vc,rfl,hvn,-,-⟩:=hov.sl.len;rw[txs_length,Nat.mul_one]at hvn;subst hvn;clear hov;clear hbk hzat hzv hat ex ey xwx xxy xyz h4;subst hwz hwy hwx;cases ok with
  | false =>
   go_enter Tryz.func132,Tryz.ntmps132
   go_wp2_with fail
   go_ret
   exact⟨by rw[HE.out];simp,HB4.out⟩
  | true =>
   by_cases hp:0<(whereP (refsOf ts) rb).length
   ·have hpI:(0:Int)<((whereP (refsOf ts) rb).length:Int):=by omega
    have HP:=h! hp;clear hp;go_enter Tryz.func132,Tryz.ntmps132
    go_wp2_with fail
    go_ret
    exact⟨by rw[HE.out,decide_eq_true HP.out];simp,HB4.out⟩
   ·have hpI:¬ ((0:Int)<((whereP (refsOf ts) rb).length:Int)):=by omega
    have HP:=h! hp;clear hp;go_enter Tryz.func132,Tryz.ntmps132
    go_wp2_with fail
    go_ret
    exact⟨by rw[HE.out,decide_eq_false HP.out];simp,HB4.out⟩
 have q2:(k == 2)=false:=by rw[beq_eq_false_iff_ne];exact k2
 have q3:(k == 3)=false:=by rw[beq_eq_false_iff_ne];exact k3
 have HE:=h! (show(RT.mk k ra rb ps).pnamed (refsOf ts) typ=ps.all fun r=>r.pnamed (refsOf ts) typ from by rw[RT.pnamed,if_neg k2,if_neg k3,pnamedL_eq]);clear k2 k3;obtain⟨wx,hwx⟩:∃ x,x=w.alloc (.cells #[.map (some b1),.map (some b2),.map (some b3)] 229):=⟨_,rfl⟩;obtain⟨wy,hwy⟩:∃ x,x=wx.alloc (.cells #[.string typ] 9):=⟨_,rfl⟩;obtain⟨wz,hwz⟩:∃ x,x=wy.alloc (.cells #[.int .i64 k,.string ra,.string rb,.slice ao ps.length c] 106):=⟨_,rfl⟩;have ex:wx.heap.size=w.heap.size+1:=by rw[hwx];simp
 have ey:wy.heap.size=w.heap.size+1+1:=by rw[hwy];simp[ex]
 have xwx:Ext w wx:=by rw[hwx];exact Ext.alloc _ _
 have xxy:Ext wx wy:=by rw[hwy];exact Ext.alloc _ _
 have xyz:Ext wy wz:=by rw[hwz];exact Ext.alloc _ _
 have HX:=h! (show Blk wz w.heap.size #[.map (some b1),.map (some b2),.map (some b3)] 229 from Blk.below (by rw[hwx];exact Blk.made _ _ _) (xxy.trans xyz));have HY:=h! (show Blk wz (w.heap.size+1) #[.string typ] 9 from Blk.below (by rw[hwy,<- ex];exact Blk.made _ _ _) xyz);have HZ:=h! (show Blk wz (w.heap.size+1+1) #[.int .i64 k,.string ra,.string rb,.slice ao ps.length c] 106 from by rw[hwz,<- ey];exact Blk.made _ _ _);have XWZ:=h! (show Below w.heap.size w wz from xwx.trans (xxy.trans xyz));have HBK:=h! (hbk.up XWZ.out);obtain⟨z,hlk,hzat,-,-⟩:=HBK.out.R.look ⟨typ,ra⟩ ⟨htyp,HRA.out⟩;obtain⟨zo,zc,hzv,-⟩:=hzat.rows;generalize hok:(lookA (refsOf ts) ⟨typ,ra⟩).isSome=ok at *;unfold rvV rV r2V at hlk;dsimp only at hlk;rw[hzv]at hlk;have h4:Ext wz (wz.alloc (.cells #[.int .i64 z.1.k,.string z.1.a,.string z.1.b,.slice zo z.1.ps.length zc] 106)):=Ext.alloc _ _;have x3:=HX.out.cells;have y3:=HY.out.cells;have z3:=HZ.out.cells;have x4:=(HX.out.below h4).cells;have z4:=(HZ.out.below h4).cells;have HB4:=h! (show Below w.heap.size w (wz.alloc (.cells #[.int .i64 z.1.k,.string z.1.a,.string z.1.b,.slice zo z.1.ps.length zc] 106))from Ext.trans XWZ.out h4);have HBK4:=h! (HBK.out.up h4);have hmf:∀ (fn:Fn) (first cap:Array Value) (W:World),(Instr.makeFunc fn first cap).run Tryz.prog W = .ok (.func fn first cap) W:=fun _ _ _ _=>rfl
 have HCF:=h! (containsRF_any _ ps k ra rb _ 192 #[.pointer (some ⟨w.heap.size,0,none⟩),.pointer (some ⟨w.heap.size+1,0,none⟩)] (enters_of Tryz.func192 (by kernel_rfl) rfl) (fun p=>!p.pnamed (refsOf ts) typ) (hat.up HB4.out) (fun i hi W pvi hW hati=>named1_any ps[i] pvi _ _ W _ ((HX.out.below h4).below hW) ((HY.out.below h4).below hW) hati
  ((IH.out ps[i] (List.getElem_mem hi) pvi _ ((HBK4.out.up hW).up (Ext.alloc _ _)) (hati.up (Ext.alloc _ _)) (HOP.out _ (List.getElem_mem hi))).mono fun e w' hr=>⟨hr.1,Ext.trans (Ext.alloc _ _) hr.2⟩)))
 clear hbk hzat hzv hat ex ey xwx xxy xyz h4;subst hwz hwy hwx;go_enter Tryz.func132,Tryz.ntmps132
 go_wp2_with fail
 refine HCF.out.mono ?_;rintro e w5 ⟨rfl,hb5⟩;have HBE:=h! (HB4.out.trans (hb5.mono HB4.out.size));clear HCF hb5 x3 y3 z3 x4 z4 hlk;go_wp2_with fail
 go_ret
 exact⟨by rw[HE.out,List.not_any_eq_all_not];simp,HBE.out⟩
end Go.Proofs.YtlhaghoajpglaaaGreat
