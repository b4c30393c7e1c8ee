/- Lemmas for the claim, no condition. -/
import Derived.Test.YtjdigpfipmckhaaGreatYChMore0
import Derived.Test.YtjdigpfipmckhaaGreatYChMore14
import Derived.Test.YtjdigpfipmckhaaGreatYChMore16
import Derived.Test.YtjdigpfipmckhaaGreatYChMore11
import Derived.Test.YtjdigpfipmckhaaGreatYChMore5
import Derived.Test.YtjdigpfipmckhaaGreatYChMore13
import Derived.Test.YtjdigpfipmckhaaGreatYChMore6
import Derived.Test.YtjdigpfipmckhaaGreatYChMore8
namespace Go.Proofs.YtjdigpfipmckhaaGreat
open Go Go.RowKit
mutual
def holdT (T:List Tup)(s:P3)(X:P3->Prop)(p:P3):RT->Prop
 | .mk k a b ps=>if k=1 then s∈subsOf T p\/∃ q∈setsOf (subsOf T p),X q else if k=2 then X ⟨p.t,p.i,a⟩else if k=3 then ∃ q∈viaOf b (subsOf T ⟨p.t,p.i,a⟩),X q else if k=4 then anyTT T s X p ps else if k=5 then allTT T s X p ps else False
def anyTT (T:List Tup)(s:P3)(X:P3->Prop)(p:P3):List RT->Prop | []=>False | r::rs=>holdT T s X p r\/anyTT T s X p rs
def allTT (T:List Tup)(s:P3)(X:P3->Prop)(p:P3):List RT->Prop | []=>True | r::rs=>holdT T s X p r/\allTT T s X p rs
end
theorem anyTT_eq (T:List Tup)(s:P3)(X:P3->Prop)(p:P3):∀ ps,anyTT T s X p ps↔∃ r∈ps,holdT T s X p r
 | []=>by rw[anyTT];simp
 | r::rs=>by rw[anyTT,anyTT_eq T s X p rs];simp
theorem allTT_eq (T:List Tup)(s:P3)(X:P3->Prop)(p:P3):∀ ps,allTT T s X p ps↔∀ r∈ps,holdT T s X p r
 | []=>by rw[allTT];simp
 | r::rs=>by rw[allTT,allTT_eq T s X p rs];simp
theorem holdT_mk (T:List Tup)(s:P3)(X:P3->Prop)(p:P3)(k:Int)(a b:ByteArray)(ps:List RT):holdT T s X p (.mk k a b ps)↔if k=1 then s∈subsOf T p\/∃ q∈setsOf (subsOf T p),X q else if k=2 then X ⟨p.t,p.i,a⟩else if k=3 then ∃ q∈viaOf b (subsOf T ⟨p.t,p.i,a⟩),X q else if k=4 then ∃ x∈ps,holdT T s X p x else if k=5 then ∀ x∈ps,holdT T s X p x else False:=by
 rw[holdT,anyTT_eq,allTT_eq]
theorem holdT_eq (T:List Tup)(s:P3)(X:P3->Prop)(p:P3)(r:RT):holdT T s X p r↔if r.k=1 then s∈subsOf T p\/∃ q∈setsOf (subsOf T p),X q else if r.k=2 then X ⟨p.t,p.i,r.a⟩else if r.k=3 then ∃ q∈viaOf r.b (subsOf T ⟨p.t,p.i,r.a⟩),X q else if r.k=4 then ∃ x∈r.ps,holdT T s X p x else if r.k=5 then ∀ x∈r.ps,holdT T s X p x else False:=by
 obtain⟨k,a,b,ps⟩:=r;exact holdT_mk T s X p k a b ps
theorem subsOf_has {T:List Tup} {p x:P3}:x∈subsOf T p↔∃ t∈T,t.o=p/\t.s=x:=by
 refine⟨subsOf_mem,?_⟩;rintro⟨t,ht,h1,rfl⟩;exact List.mem_map.2 ⟨t,List.mem_filter.2 ⟨ht,by simpa using h1⟩,rfl⟩
theorem setsOf_has {l:List P3} {x:P3}:x∈setsOf l↔x∈l/\x.r≠⟨#[]⟩:=by
 unfold setsOf;rw[List.mem_filter];simp
theorem viaOf_has {l:List P3} {b:ByteArray} {x:P3}:x∈viaOf b l↔∃ y∈l,y.r=⟨#[]⟩/\x=⟨y.t,y.i,b⟩:=by
 unfold viaOf;rw[List.mem_map];constructor
 ·rintro⟨y,hy,rfl⟩;rw[List.mem_filter]at hy;exact⟨y,hy.1,by simpa using hy.2,rfl⟩
 ·rintro⟨y,hy,h,rfl⟩;exact⟨y,List.mem_filter.2 ⟨hy,by simpa using h⟩,rfl⟩
theorem holdT_mono {T U:List Tup} (hT:∀ t∈T,t∈U)(s:P3) {X Y:P3->Prop} (hX:∀ q,X q->Y q)(p:P3)(r:RT):holdT T s X p r->holdT U s Y p r:=by
 have hs:∀ p x,x∈subsOf T p->x∈subsOf U p:=fun p x h=>by
  obtain⟨t,ht,h1,h2⟩:=subsOf_has.1 h;exact subsOf_has.2 ⟨t,hT t ht,h1,h2⟩
 induction r using RT.ind with
 | h r ih =>
  rw[holdT_eq,holdT_eq];split
  ·rintro(h | ⟨q,hq,h⟩)
   ·exact .inl (hs _ _ h)
   ·exact .inr ⟨q,setsOf_has.2 ⟨hs _ _ (setsOf_has.1 hq).1,(setsOf_has.1 hq).2⟩,hX q h⟩
  ·split
   ·exact hX _
   ·split
    ·rintro⟨q,hq,h⟩;obtain⟨y,hy,h1,h2⟩:=viaOf_has.1 hq;exact⟨q,viaOf_has.2 ⟨y,hs _ _ hy,h1,h2⟩,hX q h⟩
    ·split
     ·rintro⟨x,hx,h⟩;exact⟨x,hx,ih x hx h⟩
     ·split
      ·exact fun h x hx=>ih x hx (h x hx)
      ·exact id
def DenN (ts:List TyS)(T:List Tup)(shut:List R2)(s:P3):Nat->P3->Prop
 | 0=>fun _=>False
 | n+1=>fun p=>DenN ts T shut s n p\/∃ r,ruleOf ts shut p=some r/\holdT T s (DenN ts T shut s n) p r
def Den (ts:List TyS)(T:List Tup)(shut:List R2)(s:P3)(p:P3):Prop:=∃ n,DenN ts T shut s n p
section
variable {ts : List TyS} {T U : List Tup} {shut more : List R2} {s p q : P3}
theorem DenN.le {n m:Nat} (h:DenN ts T shut s n p)(hl:n<=m):DenN ts T shut s m p:=by
 obtain⟨d,rfl⟩:=Nat.exists_eq_add_of_le hl;induction d with
 | zero=>exact h
 | succ d ih=>exact .inl (ih (by omega))
theorem ruleOf_less (h:∀ x∈shut,x∈more) {r:RT} (hr:ruleOf ts more p=some r):ruleOf ts shut p=some r:=by
 unfold ruleOf at *;split at hr
 ·cases hr
 ·next hn=>rw[if_neg fun hx=>hn (h _ hx)];exact hr
theorem DenN.mono (hT:∀ t∈T,t∈U)(hs:∀ x∈shut,x∈more):∀ {n:Nat} {p:P3},DenN ts T more s n p->DenN ts U shut s n p
 | 0,_,h=>h
 | n+1,p,h=>by
  rcases h with h | ⟨r,hr,h⟩
  ·exact .inl (DenN.mono hT hs h)
  ·exact .inr ⟨r,ruleOf_less hs hr,holdT_mono hT s (fun q hq=>DenN.mono hT hs hq) p r h⟩
theorem Den.mono (hT:∀ t∈T,t∈U)(hs:∀ x∈shut,x∈more)(h:Den ts T more s p):Den ts U shut s p:=by
 obtain⟨n,h⟩:=h;exact⟨n,h.mono hT hs⟩
end
/-! A graph's rounds. -/
theorem numD_pre {ps P:List P3} (h:ps <+: P) {q:P3} (hq:q∈ps):numD P q=numD ps q:=by
 obtain⟨t,rfl⟩:=h;unfold numD;rw[List.findIdx_append,if_pos];exact List.findIdx_lt_length_of_exists ⟨q,hq,by simp⟩
theorem numD_put {ps P:List P3} {q:P3} (h:putP ps q <+: P):numD ps q=numD P q:=by
 rw[numD_pre h ((putP_mem ps q q).2 (.inr rfl))];unfold putP;split
 ·rfl
 ·next hn =>
  rw[show numD ps q=ps.length from by
   unfold numD;rw[List.findIdx_eq_length];intro x hx;simp only[decide_eq_false_iff_not];exact fun e=>hn (e▸hx)]
  unfold numD
  rw[List.findIdx_append,if_neg (by
   rw[show ps.findIdx (fun x=>decide (x=q))=ps.length from by
    rw[List.findIdx_eq_length];intro x hx;simp only[decide_eq_false_iff_not];exact fun e=>hn (e▸hx)]
   omega)]
  simp
theorem numD_of_mem {P:List P3} {q:P3} (h:q∈P):∃ hi:numD P q<P.length,P[numD P q]=q:=by
 have hi:numD P q<P.length:=List.findIdx_lt_length_of_exists ⟨q,h,by simp⟩;refine⟨hi,?_⟩;exact of_decide_eq_true (List.findIdx_getElem (xs:=P) (p:=fun x=>decide (x=q)) (w:=hi))
def Tells (P:List P3)(X:P3->Prop)(l:List Bool):Prop:=∀ q∈P,(X q↔inAt l (numD P q)=true)
theorem refsD_any {P:List P3} {X:P3->Prop} {l:List Bool} (hX:Tells P X l):∀ (L ps:List P3)(out:List Int),(refsD ps out L).2 <+: P->((refsD ps out L).1.any (inAt l)=true↔out.any (inAt l)=true\/∃ q∈L,X q)
 | [],ps,out,_=>by simp[refsD]
 | q::L,ps,out,h=>by
  rw[refsD]at h ⊢;have hp:putP ps q <+: P:=(refsD_pre L _ _).trans h;have hm:q∈P:=hp.subset ((putP_mem ps q q).2 (.inr rfl));rw[refsD_any hX L _ _ h,numD_put hp];have hq:=hX q hm;constructor
  ·rintro(h1 | ⟨x,hx,h1⟩)
   ·split at h1
    ·exact .inl h1
    ·rw[List.any_append,Bool.or_eq_true]at h1;rcases h1 with h1 | h1
     ·exact .inl h1
     ·exact .inr ⟨q,by simp,hq.2 (by simpa using h1)⟩
   ·exact .inr ⟨x,List.mem_cons_of_mem _ hx,h1⟩
  ·rintro(h1 | ⟨x,hx,h1⟩)
   ·left
    split
    ·exact h1
    ·rw[List.any_append,h1,Bool.true_or]
   ·rcases List.mem_cons.1 hx with rfl | hx
    ·left
     split
     ·next hin=>exact List.any_eq_true.2 ⟨_,hin,hq.1 h1⟩
     ·rw[List.any_append,Bool.or_eq_true];right
      simpa using hq.1 h1
    ·exact .inr ⟨x,hx,h1⟩
theorem formD_hold {T:List Tup} {s:P3} {P:List P3} {X:P3->Prop} {l:List Bool} (hX:Tells P X l)(p:P3)(r:RT):∀ ps:List P3,(formD T p r ps).2 <+: P->(holdF s l (formD T p r ps).1=true↔holdT T s X p r):=by
 induction r using RT.ind with
 | h r ih =>
  intro ps h;rw[formD_eq]at h ⊢;dsimp only at h ⊢;have hH:(headF T p r.k r.a r.b ps).2.2 <+: P:=(formsD_pre T p r.ps _).trans h
  have parts:∀ (L:List RT) (qs:List P3),(∀ x∈L,x∈r.ps)->(formsD T p L qs).2 <+: P ->
    (((formsD T p L qs).1.any (holdF s l)=true↔∃ x∈L,holdT T s X p x)/\((formsD T p L qs).1.all (holdF s l)=true↔∀ x∈L,holdT T s X p x)):=by
   intro L;induction L with
   | nil=>intro qs _ _;simp[formsD]
   | cons x L ihl =>
    intro qs hx hp;rw[formsD]at hp ⊢;have h1:=ih x (hx x (by simp)) qs ((formsD_pre T p L _).trans hp);obtain⟨h2,h3⟩:=ihl (formD T p x qs).2 (fun y hy=>hx y (List.mem_cons_of_mem _ hy)) hp;constructor
    ·rw[List.any_cons,Bool.or_eq_true,h1,h2];simp
    ·rw[List.all_cons,Bool.and_eq_true,h1,h3];simp
  obtain⟨h2,h3⟩:=parts r.ps _ (fun _ h=>h) h;rw[holdF_mk,holdT_eq];by_cases k1:r.k=1
  ·rw[if_pos k1,if_pos k1];unfold headF at hH ⊢;rw[if_pos k1]at hH ⊢;rw[Bool.or_eq_true,refsD_any hX _ _ _ hH];simp
  ·rw[if_neg k1,if_neg k1];by_cases k2:r.k=2
   ·rw[if_pos (.inl k2),if_pos k2];unfold headF at hH ⊢;rw[if_neg k1,if_pos k2]at hH ⊢;have hq:=hX ⟨p.t,p.i,r.a⟩ (hH.subset ((putP_mem ps _ _).2 (.inr rfl)));rw[numD_put hH];simpa using hq.symm
   ·rw[if_neg k2];by_cases k3:r.k=3
    ·rw[if_pos (.inr k3),if_pos k3];unfold headF at hH ⊢;rw[if_neg k1,if_neg k2,if_pos k3]at hH ⊢;rw[refsD_any hX _ _ _ hH];simp
    ·rw[if_neg (by simp[k2,k3]),if_neg k3];by_cases k4:r.k=4
     ·rw[if_pos k4,if_pos k4];exact h2
     ·rw[if_neg k4,if_neg k4];by_cases k5:r.k=5
      ·rw[if_pos k5,if_pos k5];exact h3
      ·rw[if_neg k5,if_neg k5];simp
theorem walkN_form (ts:List TyS)(T:List Tup)(shut:List R2)(p:P3) {i:Nat}:∀ {n:Nat},i<n->(walkN ts T shut p n).2[i]?=some (stepG ts T shut ((walkN ts T shut p i).1.getD i p) (walkN ts T shut p i).1).1
 | n+1,h=>by
  rw[walkN];dsimp only;by_cases e:i=n
  ·subst e;rw[List.getElem?_append_right (by rw[walkN_forms];exact Nat.le_refl _),walkN_forms];simp
  ·rw[List.getElem?_append_left (by rw[walkN_forms];omega)];exact walkN_form ts T shut p (by omega)
section
variable {ts : List TyS} {T : List Tup} {shut : List R2} {p : P3} {most : Int} {n : Nat}
theorem WalkEnd.point (h:WalkEnd ts T shut p most n) {i:Nat} (hi:i<n):∃ hi2:i<(walkN ts T shut p n).1.length,(walkN ts T shut p i).1.getD i p=(walkN ts T shut p n).1[i]:=by
 have h1:=(h.1 i hi).1;refine⟨by rw[<- h.2];exact hi,?_⟩;obtain⟨t,ht⟩:=walkN_pre ts T shut p i n (Nat.le_of_lt hi);rw[List.getD_eq_getElem?_getD,List.getElem?_eq_getElem h1];simp only[Option.getD_some,<- ht];rw[List.getElem_append_left h1]
theorem WalkEnd.den (h:WalkEnd ts T shut p most n)(s:P3):∀ r,Tells (walkN ts T shut p n).1 (DenN ts T shut s r) (inN (walkN ts T shut p n).2 s n r)
 | 0=>fun q hq=>by
  unfold inAt;rw[Int.toNat_natCast,inN_zero,Bool.and_false,DenN];simp
 | r+1=>fun q hq=>by
  have ih:=WalkEnd.den h s r;obtain⟨hi,hget⟩:=numD_of_mem hq;have hin:numD (walkN ts T shut p n).1 q<n:=Nat.lt_of_lt_of_eq hi h.2.symm;have h0:=ih q hq;unfold inAt at h0 ⊢;rw[Int.toNat_natCast]at h0 ⊢;have hd:decide ((0:Int)<=(numD (walkN ts T shut p n).1 q:Int))=true:=by simp
  rw[hd,Bool.true_and]at h0 ⊢;rw[inN_succ hin]
  have hf:newS (walkN ts T shut p n).2 s (inN (walkN ts T shut p n).2 s n r) (numD (walkN ts T shut p n).1 q)=true\/(inN (walkN ts T shut p n).2 s n r).getD (numD (walkN ts T shut p n).1 q) false=true↔(∃ rl,ruleOf ts shut q=some rl/\holdT T s (DenN ts T shut s r) q rl)\/DenN ts T shut s r q:=by
   rw[h0];by_cases hc:(inN (walkN ts T shut p n).2 s n r).getD (numD (walkN ts T shut p n).1 q) false=true
   ·simp only[hc,or_true]
   ·simp only[hc,Bool.false_eq_true,or_false];unfold newS;rw[getD_ft (by rw[inN_length];exact hin)];have hc2:(inN (walkN ts T shut p n).2 s n r).getD (numD (walkN ts T shut p n).1 q) false=false:=by simpa using hc
    rw[hc2,Bool.not_false,Bool.true_and,walkN_form ts T shut p hin];obtain⟨_,e⟩:=h.point hin;rw[e,hget]
    have hpre:(stepG ts T shut q (walkN ts T shut p (numD (walkN ts T shut p n).1 q)).1).2 <+: (walkN ts T shut p n).1:=by
     have:=walkN_pre ts T shut p (numD (walkN ts T shut p n).1 q+1) n hin;rw[walkN,e,hget]at this;exact this
    unfold stepG at hpre ⊢;cases hr:ruleOf ts shut q with
    | none =>
     dsimp only;rw[holdF_eq];simp[FT.zero,FT.k]
    | some rl =>
     rw[hr]at hpre;dsimp only at hpre ⊢;rw[formD_hold ih q rl _ hpre];simp
  rw[Bool.or_eq_true];exact⟨fun e=>(hf.2 e.symm).symm,fun e=>(hf.1 e.symm).symm⟩
theorem WalkEnd.den_iff (h:WalkEnd ts T shut p most n)(s:P3):Den ts T shut s p↔0<(solveR (walkN ts T shut p n).2 s n).getD 0 0:=by
 have hn:0<n:=by
  have h2:=h.2;have:=walk_mono ts T shut p (Nat.zero_le n);rw[<- h2,walkN]at this;simp at this;omega
 have h0:=walkN_first ts T shut p n;have hp:p∈(walkN ts T shut p n).1:=List.mem_of_getElem? h0
 have hz:numD (walkN ts T shut p n).1 p=0:=by
  unfold numD;cases hl:(walkN ts T shut p n).1 with
  | nil=>rw[hl]at hp;cases hp
  | cons x l =>
   rw[hl]at h0;simp only[List.getElem?_cons_zero,Option.some.injEq]at h0;rw[List.findIdx_cons];simp[h0]
 have key:∀ r,DenN ts T shut s r p↔(inN (walkN ts T shut p n).2 s n r).getD 0 false=true:=fun r=>by
  have:=h.den s r p hp;rw[hz]at this;simpa [inAt] using this
 unfold solveR;rw[<- (outN_pos (fs:=(walkN ts T shut p n).2) (s:=s) n hn).2.2,<- key n];refine⟨fun⟨r,hr⟩=>?_,fun h=>⟨n,h⟩⟩;rcases Nat.le_total r n with hl | hl
 ·exact hr.le hl
 ·obtain⟨d,rfl⟩:=Nat.exists_eq_add_of_le hl;rw[key]at hr ⊢;rwa[(endS_n (walkN ts T shut p n).2 s n).inL d]at hr
end
end Go.Proofs.YtjdigpfipmckhaaGreat
namespace Go.Proofs.YtjdigpfipmckhaaGreat
open Go Go.RowKit Go.Maps
theorem subsOf_len (T:List Tup)(p:P3):(subsOf T p).length<=T.length:=by
 unfold subsOf;rw[List.length_map];exact List.length_filter_le _ _
theorem headF_refs (T:List Tup)(p:P3)(k:Int)(a b:ByteArray)(ps:List P3):(headF T p k a b ps).2.1.length<=T.length+1:=by
 unfold headF;split
 ·have h1:=refsD_len1 (setsOf (subsOf T p)) ps [];have h2:=subsOf_len T p;have h3:(setsOf (subsOf T p)).length<=(subsOf T p).length:=List.length_filter_le _ _;simp only[List.length_nil]at h1;dsimp only;omega
 ·split
  ·simp
  ·split
   ·have h1:=refsD_len1 (viaOf b (subsOf T ⟨p.t,p.i,a⟩)) ps [];have h2:=subsOf_len T ⟨p.t,p.i,a⟩;have h3:(viaOf b (subsOf T ⟨p.t,p.i,a⟩)).length<=(subsOf T ⟨p.t,p.i,a⟩).length:=by unfold viaOf;rw[List.length_map];exact List.length_filter_le _ _
    simp only[List.length_nil]at h1;dsimp only;omega
   ·simp
theorem formD_named (T:List Tup)(p:P3)(r:RT):∀ ps,(formD T p r ps).1.named.length<=r.sz*(T.length+1):=by
 induction r using RT.ind with
 | h r ih =>
  intro ps
  have:∀ (l:List RT) (qs:List P3),(∀ x∈l,x∈r.ps)->(nmdL (formsD T p l qs).1).length<=szL l*(T.length+1):=by
   intro l;induction l with
   | nil=>intro qs _;simp[formsD,nmdL]
   | cons x l ihl =>
    intro qs hx;rw[formsD,nmdL,szL,List.length_append,Nat.add_mul];have h1:=ih x (hx x (by simp)) qs;have h2:=ihl (formD T p x qs).2 fun y hy=>hx y (List.mem_cons_of_mem _ hy);omega
  have h1:=this r.ps (headF T p r.k r.a r.b ps).2.2 fun _ h=>h;have h2:=headF_refs T p r.k r.a r.b ps;rw[formD_eq];simp only;rw[FT.named_eq,List.length_append];obtain⟨k,a,b,parts⟩:=r;rw[RT.sz,Nat.add_mul];simp only[FT.refs,FT.ps,RT.k,RT.a,RT.b,RT.ps]at h1 h2 ⊢;omega
theorem walkN_named {ts:List TyS} {T:List Tup} {M:Nat} (h:∀ x∈refsOf ts,x.2.sz*(T.length+1)<=M)(shut:List R2)(p:P3):∀ n,(nmdL (walkN ts T shut p n).2).length<=n*M
 | 0=>by simp[walkN,nmdL]
 | n+1=>by
  have ih:=walkN_named h shut p n;rw[walkN];simp only;rw[nmdL_append,List.length_append,Nat.add_mul]
  have h2:(nmdL [(stepG ts T shut ((walkN ts T shut p n).1.getD n p) (walkN ts T shut p n).1).1]).length<=M:=by
   rw[nmdL,nmdL,List.append_nil];unfold stepG;split
   ·next r hr =>
    unfold ruleOf at hr;split at hr
    ·cases hr
    ·exact Nat.le_trans (formD_named T _ r _) (h _ (look_mem hr))
   ·simp[FT.zero,FT.named,nmdL]
  omega
def aC (p s:P3):Array Value:=#[.string p.t,.string p.i,.string p.r,.string s.t,.string s.i,.string s.r]
def HasSaid (ts:List TyS)(T:List Tup)(shut:List R2)(p s:P3)(most:Int)(e:Ending):Prop :=
 (∃ n b,WalkEnd ts T shut p most n/\e = .returned (.tuple #[.bool b,.int .i64 0])/\(b=true↔0<(solveR (walkN ts T shut p n).2 s n).getD 0 0))\/(WalkLong ts T shut p most/\e = .returned (.tuple #[.bool false,.int .i64 10]))
structure HasArg (ts:List TyS)(T:List Tup)(shut:List R2)(p:P3):Prop where
 ok:∀ t∈ts,t.Ok
 chk:chk06 ts=0
 bk:schB ts<=549755813888
 sz:∀ t∈ts,∀ r∈t.rels,r.2.sz<=1000000
 nms:(namesOf ts).length<=1099511627776
 rfs:(refsOf ts).length<=1099511627776
 sho:∀ r∈shut,r.Ok
 wk:WalkIn ts T shut p 1000000
 rm:∀ x∈refsOf ts,x.2.sz*(T.length+1)<=1000000
set_option maxRecDepth 100000 in
set_option maxHeartbeats 2000000 in
theorem hasP_any (ts:List TyS)(tv:Value)(b:Nat)(T:List Tup)(shut:List R2)(sv:Value)(p s:P3)(most:Int)(w:World)(h:TysAt (· < w.heap.size) w ts tv)(hA:HasArg ts T shut p)(hbk:BookAt w b T)(hsv:Sl (· < w.heap.size) w 2 sv (shut.flatMap r2C)) :
  Calls Tryz.prog 42 #[.agg #[tv],bkV b,sv,.agg (aC p s),.int .i64 most] w fun e w'=>HasSaid ts T shut p s most e/\Ext w w':=by
 have HA:=h! hA;obtain⟨ao,c,rfl,-⟩:=h.rows;obtain⟨so,sc,rfl,-⟩:=Sl.rows r2C_length (by decide) hsv;obtain⟨wa,hwa⟩:∃ x,x=w.alloc (.cells #[.slice ao ts.length c] 24):=⟨_,rfl⟩;obtain⟨wb,hwb⟩:∃ x,x=wa.alloc (.cells (aC p s) 65):=⟨_,rfl⟩;have ea:wa.heap.size=w.heap.size+1:=by rw[hwa];simp
 have xa:Ext w wa:=by rw[hwa];exact Ext.alloc _ _
 have xb:Ext wa wb:=by rw[hwb];exact Ext.alloc _ _
 have XB:=h! (show Ext w wb from xa.trans xb);have BS:=h! (show Blk wb w.heap.size #[.slice ao ts.length c] 24 from Blk.below (by rw[hwa];exact Blk.made _ _ _) xb);have BA:=h! (show Blk wb (w.heap.size+1) (aC p s) 65 from by rw[hwb,<- ea];exact Blk.made _ _ _);have HWK:=h! (walkW_any ts (.slice ao ts.length c) b T shut (.slice so shut.length sc) p most 1000000 wb (h.up XB.out) hA.ok hA.chk hA.bk hA.sz hA.nms hA.rfs (hbk.ext XB.out) ((hsv.same (Same.below XB.out)).mono fun _ hb=>Nat.lt_of_lt_of_le hb XB.out.size) hA.sho hA.wk);have hS:=BS.out.cells;have hAc:=BA.out.cells;clear h hbk hsv hA ea xa xb;unfold pV at HWK;unfold aC at *;subst hwb hwa;go_enter Tryz.func42,Tryz.ntmps42
 go_wp2_with fail
 refine HWK.out.mono ?_;rintro e w1 ⟨hx,⟨n,pv,fv,hwe,rfl,hgr⟩ | ⟨hlg,rfl⟩⟩
 case' inr =>
  have HL:=h! hlg;have X2:=h! (show Ext w (w1.alloc (.cells #[.slice none 0 0,.slice none 0 0] 37))from Ext.trans XB.out (Ext.trans hx (Ext.alloc _ _)));clear hx hlg HWK hS hAc;go_wp2_with fail
  go_ret2
  exact⟨.inr ⟨HL.out,rfl⟩,X2.out⟩
 case' inl =>
  obtain⟨ap,cp,af,cf,rfl,rfl,-⟩:=hgr.rows;have HE:=h! hwe;have HL:=h! (show(walkN ts T shut p n).1.length=n from hwe.2.symm);have HFL:=h! (show(walkN ts T shut p n).2.length=n from walkN_forms ts T shut p n);have HN:=h! (show n<=1000000 from by have:=HA.out.wk.few n;rw[HL.out]at this;exact this)
  have HNN:=h! (show(nmdL (walkN ts T shut p n).2).length<=1000000000000 from by
   have h1:=walkN_named HA.out.rm shut p n;have h2:n*1000000<=1000000*1000000:=Nat.mul_le_mul_right _ HN.out;omega)
  have HPO:=h! (show 0<n from by
   have h2:=hwe.2;have:=walk_mono ts T shut p (Nat.zero_le n);rw[<- h2,walkN]at this;simp at this;omega)
  rw[HL.out,HFL.out]at hgr ⊢;generalize (walkN ts T shut p n).1=ps at *;generalize hfs:(walkN ts T shut p n).2=fs at *;have HFS:=h! hfs;clear hfs;have X2:=h! (Ext.alloc w1 (.cells #[.slice ap n cp,.slice af n cf] 37));have HSV:=h! (solveP_any s ps fs (.slice ap n cp) (.slice af n cf) _ ((hgr.same (w':=w1.alloc (.cells #[.slice ap n cp,.slice af n cf] 37)) fun b hb=>X2.out.block b hb.2).mono fun b hb=>Nat.lt_of_lt_of_le hb.2 X2.out.size) (by rw[HL.out];exact HN.out) (by rw[HFL.out];exact HN.out) HNN.out);have XW:=h! (show Ext w (w1.alloc (.cells #[.slice ap n cp,.slice af n cf] 37))from Ext.trans XB.out (Ext.trans hx X2.out));have hB2:=(BA.out.below (Ext.trans hx X2.out)).cells;have hG:=(Blk.made w1 #[.slice ap n cp,.slice af n cf] 37).cells;clear hx hgr hwe HWK hS hAc;unfold pV at HSV;go_wp2_with fail
  clear hG hB2;refine HSV.out.mono ?_;rintro e w3 ⟨⟨v,rfl,ho⟩,hb3⟩;have X3:=h! (show Ext w w3 from Ext.trans XW.out hb3);have HLN:=h! (show(solveR fs s n).length=n from outN_length n);rw[HL.out]at ho
  obtain⟨g,c3,cs,rfl,-,hB,-,-,hcs⟩:=ho.lay (by
   intro e;have:=congrArg List.length e;rw[ic_length,HLN.out,List.length_nil]at this;have:=HPO.out;omega)
  have c0:w3.cell? ⟨g,0,none⟩=some (.int .i64 ((solveR fs s n).getD 0 0)):=by
   have h1:0<(ic (solveR fs s n)).length:=by rw[ic_length,HLN.out];exact HPO.out
   rw[hB.cells 0,hcs 0 h1];simp only[ic,List.getElem_map];rw[List.getD_eq_getElem?_getD,List.getElem?_eq_getElem (by rw[HLN.out];exact HPO.out)];rfl
  have hni:(0:Int)<(((ic (solveR fs s n)).length:Nat):Int):=by rw[ic_length,HLN.out];have:=HPO.out;omega
  have hni2:0<(ic (solveR fs s n)).length:=by omega
  clear hb3 ho hB hcs HSV;generalize (ic (solveR fs s n)).length=m at *;obtain⟨z,hz⟩:∃ z,Hid ((solveR fs s n).getD 0 0=z):=⟨_,h! rfl⟩;rw[hz.out]at c0;go_wp2_with fail
  go_ret2
  refine⟨.inl ⟨n,_,HE.out,rfl,?_⟩,X3.out⟩;rw[HFS.out,hz.out];simp
theorem obj_any (a b:ByteArray)(w:World):Calls Tryz.prog 90 #[.string a,.string b] w fun e w'=>e = .returned (.agg #[.string a,.string b])/\Ext w w':=by
 go_enter Tryz.func90,Tryz.ntmps90
 go_wp2_with fail
 exact bodyPost_ret (results_cell_row rfl _ _ w.heap.size 28 #[.string a,.string b] (0,0) _ rfl (heap_alloc_new w _) Tryz.underlying28 rfl (by kernel_rfl)) rfl ⟨rfl,Ext.alloc _ _⟩
theorem HasArg.of {ts:List TyS} {T:List Tup} {shut:List R2} {p:P3} (hc:chk06 ts=0)(hok:∀ t∈ts,t.Ok)(hb:schB ts<=549755813888)(hn:(namesOf ts).length<=1099511627776)(hr:(refsOf ts).length<=1099511627776)(hT:T.length<=41)(hTo:∀ t∈T,t.Ok)(hp:p.Ok)(hso:∀ r∈shut,r.Ok):HasArg ts T shut p:=by
 have hl:=chk_long hc;have hw:=walkIn_chk (T:=T) shut hl hok (by omega) hTo hp;have hsz:∀ t∈ts,∀ r∈t.rels,r.2.sz<=32:=fun t ht r hr'=>refs_sz hl ⟨⟨t.name,r.1⟩,r.2⟩ (refs_mem.2 ⟨t,ht,r,hr',rfl⟩)
 have hN:∀ n,(walkN ts T shut p n).1.length<=1000000:=fun n=>by
  have h:=walk_few T shut p (allN_mem ts) n
  have h2:(allN ts).length<=256*64:=by
   have h3:=flatN_len (fun x:R2 × RT=>x.2.nms) 64 (refsOf ts) fun x hx=>by have:=nms_len x.2;have:=refs_sz hl x hx;omega
   have h4:=long_refs hl;unfold allN;exact Nat.le_trans h3 (Nat.mul_le_mul_right _ h4)
  have h5:(T.length+1)*(T.length+(allN ts).length+1)<=42*(41+256*64+1):=Nat.mul_le_mul (by omega) (by omega);omega
 have hrm:∀ x∈refsOf ts,x.2.sz*(T.length+1)<=32*42:=fun x hx=>Nat.mul_le_mul (refs_sz hl x hx) (by omega)
 exact⟨hok,hc,hb,fun t ht r hr'=>Nat.le_trans (hsz t ht r hr') (by decide),hn,hr,hso,
  ⟨hw.okp,hN,fun x hx=>by have:=hrm x hx;omega,by decide,hw.rok,hw.tok,hw.tlen⟩,fun x hx=>by have:=hrm x hx;omega⟩
def viB:ByteArray:=⟨#[118,105,101,119,101,114]⟩
def meB:ByteArray:=⟨#[109,101,109,98,101,114]⟩
def grB:ByteArray:=⟨#[103,114,111,117,112]⟩
def usB:ByteArray:=⟨#[117,115,101,114]⟩
def thB:ByteArray:=⟨#[116,104,105,115]⟩
def txt27:ByteArray:=⟨#[116,121,112,101,32,100,111,99,10,118,105,101,119,101,114,32,61,32,116,104,105,115,10,116,121,112,101,32,103,114,111,117,112,10,109,101,109,98,101,114,32,61,32,116,104,105,115,10,116,121,112,101,32,117,115,101,114]⟩
def its27:List PIt:=[.ty docB,.rel viB thB [],.ty grB,.rel meB thB [],.ty usB]
def lns27:List ByteArray:=[⟨#[116,121,112,101,32,100,111,99]⟩,⟨#[118,105,101,119,101,114,32,61,32,116,104,105,115]⟩,⟨#[116,121,112,101,32,103,114,111,117,112]⟩,⟨#[109,101,109,98,101,114,32,61,32,116,104,105,115]⟩,⟨#[116,121,112,101,32,117,115,101,114]⟩]
def ts27:List TyS:=[⟨docB,[(viB,.mk 1 ⟨#[]⟩ ⟨#[]⟩ [])]⟩,⟨grB,[(meB,.mk 1 ⟨#[]⟩ ⟨#[]⟩ [])]⟩,⟨usB,[]⟩]
theorem lines27:linesD txt27=lns27:=by kernel_rfl
theorem step27:its27.foldl stepD []=ts27:=by kernel_rfl
theorem lnsOk27:(lns27.zip its27).all (fun p=>lnOkB p.1 p.2)=true:=by kernel_rfl
theorem fits27:its27.all PIt.fitB=true:=by kernel_rfl
theorem chk27:chk06 ts27=0:=by kernel_rfl
theorem ok27:∀ t∈ts27,t.Ok:=by
 intro t ht;unfold ts27 at ht;simp only[List.mem_cons,List.not_mem_nil,or_false]at ht;rcases ht with rfl | rfl | rfl
 ·refine⟨by decide,fun r hr=>?_⟩;obtain rfl:=List.mem_singleton.1 hr;exact⟨by decide,by simp[RT.Ok,okL];decide⟩
 ·refine⟨by decide,fun r hr=>?_⟩;obtain rfl:=List.mem_singleton.1 hr;exact⟨by decide,by simp[RT.Ok,okL];decide⟩
 ·exact⟨by decide,fun r hr=>by cases hr⟩
def p27:P3:=⟨docB,⟨#[49]⟩,viB⟩
def u27:P3:=⟨usB,⟨#[49]⟩,⟨#[]⟩⟩
def v27:P3:=⟨usB,⟨#[50]⟩,⟨#[]⟩⟩
def l27:List Tup:=[⟨p27,⟨grB,⟨#[49]⟩,meB⟩⟩,⟨⟨grB,⟨#[49]⟩,meB⟩,u27⟩]
theorem set27:SetT l27 l27:=⟨List.pairwise_cons.2 ⟨fun y hy=>by obtain rfl:=List.mem_singleton.1 hy;kernel_rfl,List.pairwise_singleton _ _⟩,fun t=>⟨fun h=>⟨h,by
 unfold l27 at h;simp only[List.mem_cons,List.not_mem_nil,or_false]at h;rcases h with rfl | rfl
 ·kernel_rfl
 ·kernel_rfl⟩,fun h=>h.1⟩⟩
theorem ok27l:∀ t∈l27,t.Ok:=by
 intro t ht;unfold l27 at ht;simp only[List.mem_cons,List.not_mem_nil,or_false]at ht;rcases ht with rfl | rfl
 ·exact⟨⟨by decide,by decide,by decide⟩,⟨by decide,by decide,by decide⟩⟩
 ·exact⟨⟨by decide,by decide,by decide⟩,⟨by decide,by decide,by decide⟩⟩
theorem arg27:HasArg ts27 l27 [] p27:=HasArg.of chk27 ok27 (by decide) (by decide) (by decide) (by decide) ok27l ⟨by decide,by decide,by decide⟩ (by simp)
theorem end27:WalkEnd ts27 l27 [] p27 9 2:=by
 have h0:(walkN ts27 l27 [] p27 0).1.length=1:=by kernel_rfl
 have h1:(walkN ts27 l27 [] p27 1).1.length=2:=by kernel_rfl
 have h2:(walkN ts27 l27 [] p27 2).1.length=2:=by kernel_rfl
 refine⟨fun m hm=>?_,h2.symm⟩;obtain rfl | rfl:m=0\/m=1:=by omega
 ·rw[h0];exact⟨by decide,by decide⟩
 ·rw[h1];exact⟨by decide,by decide⟩
theorem yes27:(outN (walkN ts27 l27 [] p27 2).2 u27 2 2).getD 0 0=2:=by kernel_rfl
theorem no27:(outN (walkN ts27 l27 [] p27 2).2 v27 2 2).getD 0 0=0:=by kernel_rfl
theorem said27 {s:P3} {e:Ending} (bb:Bool)(hs:bb=true↔0<(outN (walkN ts27 l27 [] p27 2).2 s 2 2).getD 0 0)(h:HasSaid ts27 l27 [] p27 s 9 e):e = .returned (.tuple #[.bool bb,.int .i64 0]):=by
 rcases h with⟨n,b,hw,rfl,hb⟩ | ⟨hl,-⟩
 ·obtain rfl:=hw.uniq end27
  have:b=bb:=by
   rw[Bool.eq_iff_iff,hb,hs];rfl
  rw[this]
 ·exact absurd hl end27.notLong
theorem has27_any (tv:Value)(s:P3)(bb:Bool)(hs:bb=true↔0<(outN (walkN ts27 l27 [] p27 2).2 s 2 2).getD 0 0)(w:World)(b:Nat)(h:TysAt (· < w.heap.size) w ts27 tv)(hb:BookAt w b l27) :
  Calls Tryz.prog 42 #[.agg #[tv],bkV b,.slice none 0 0,.agg (aC p27 s),.int .i64 9] w fun e w'=>e = .returned (.tuple #[.bool bb,.int .i64 0])/\Ext w w':=by
 refine(hasP_any ts27 tv b l27 [] (.slice none 0 0) p27 s 9 w h arg27 hb (Sl.nil _ _ _)).mono ?_;rintro e w' ⟨hh,hx⟩;exact⟨said27 bb hs hh,hx⟩
theorem yesS:true=true↔0<(outN (walkN ts27 l27 [] p27 2).2 u27 2 2).getD 0 0:=by rw[yes27];decide
theorem noS:false=true↔0<(outN (walkN ts27 l27 [] p27 2).2 v27 2 2).getD 0 0:=by rw[no27];decide
set_option maxRecDepth 100000 in
set_option maxHeartbeats 2000000 in
theorem fixed27_any (w:World):Calls Tryz.prog 40 #[] w fun e w'=>e = .returned (.bool true)/\Below w.heap.size w w':=by
 have HPA:=h! (parse_any txt27 its27 w (by decide) (by rw[lines27];rfl) (by rw[lines27];exact lnsOk_of lnsOk27) (fits_of fits27) (fun _=>⟨docB,rfl⟩) (by decide));rw[step27]at HPA;unfold txt27 at HPA;go_enter Tryz.func40,Tryz.ntmps40
 go_wp2_with fail
 refine HPA.out.mono ?_;rintro e w1 ⟨tv,rfl,hty,hb1⟩;obtain⟨aot,ct,rfl,-,-,-⟩:=hty.rows;rw[show ts27.length=3 from rfl]at *;have HX1:=h! (Ext.alloc w1 (.cells #[.slice aot 3 ct] 24));have HTY:=h! ((hty.mono (S':=(· < w1.heap.size)) fun b hb=>hb.2).up HX1.out);have HB1:=h! (show Below w.heap.size w _ from hb1.trans (HX1.out.mono hb1.size));have HS1:=h! (Blk.made w1 #[.slice aot 3 ct] 24);have HO1:=h! (fun W=>obj_any docB ⟨#[49]⟩ W);have HO2:=h! (fun W=>obj_any grB ⟨#[49]⟩ W);have HO3:=h! (fun W=>obj_any usB ⟨#[49]⟩ W);unfold docB at HO1;unfold grB at HO2;unfold usB at HO3;clear hty hb1 HPA;go_wp2_with fail
 refine(HO1.out _).mono ?_;rintro e w2 ⟨rfl,hx2⟩;go_wp2_with fail
 refine(HO2.out _).mono ?_;rintro e w3 ⟨rfl,hx3⟩;go_wp2_with fail
 refine(HO2.out _).mono ?_;rintro e w4 ⟨rfl,hx4⟩;go_wp2_with fail
 refine(HO3.out _).mono ?_;rintro e w5 ⟨rfl,hx5⟩;have X5:=h! (Ext.trans hx2 (Ext.trans hx3 (Ext.trans hx4 hx5)));clear hx2 hx3 hx4 hx5;have HL5:=h! (show Sl (fun b=>b<(w5.alloc (.cells (tuCs l27).toArray 104)).heap.size) (w5.alloc (.cells (tuCs l27).toArray 104)) 6 (.slice (some ⟨w5.heap.size,0,none⟩) 2 2) (tuCs l27)from Sl.made w5 _ 6 2 104 _ rfl (by decide) (by simp));have X6:=h! (show Ext w5 (w5.alloc (.cells (tuCs l27).toArray 104))from Ext.alloc _ _);go_wp2_with fail
 have hcs:(#[.string ⟨#[100,111,99]⟩,.string ⟨#[49]⟩,.string ⟨#[118,105,101,119,101,114]⟩,.string ⟨#[103,114,111,117,112]⟩,.string ⟨#[49]⟩,.string ⟨#[109,101,109,98,101,114]⟩,.string ⟨#[103,114,111,117,112]⟩,.string ⟨#[49]⟩,.string ⟨#[109,101,109,98,101,114]⟩,.string ⟨#[117,115,101,114]⟩,.string ⟨#[49]⟩,.string ⟨#[]⟩]:Array Value)=(tuCs l27).toArray:=by kernel_rfl
 try rw[hcs]
 clear hcs;obtain⟨w6,hw6⟩:∃ y,y=w5.alloc (.cells (tuCs l27).toArray 104):=⟨_,rfl⟩;rw[<- hw6]at HL5 X6 ⊢;clear hw6;obtain⟨g4,hg4⟩:∃ y,Hid (y=w5.heap.size):=⟨_,h! rfl⟩;rw[<- hg4.out]at HL5 ⊢;refine(HO1.out _).mono ?_;rintro e w7 ⟨rfl,hx7⟩;have X8:=h! (Ext.alloc w7 (.cells #[.string ⟨#[100,111,99]⟩,.string ⟨#[49]⟩,.string ⟨#[118,105,101,119,101,114]⟩] 30));have HP8:=h! (Blk.made w7 #[.string ⟨#[100,111,99]⟩,.string ⟨#[49]⟩,.string ⟨#[118,105,101,119,101,114]⟩] 30);have X68:=h! (Ext.trans hx7 X8.out);clear hx7;go_wp2_with fail
 obtain⟨w8,hw8⟩:∃ y,y=w7.alloc (.cells #[.string ⟨#[100,111,99]⟩,.string ⟨#[49]⟩,.string ⟨#[118,105,101,119,101,114]⟩] 30):=⟨_,rfl⟩;rw[<- hw8]at HP8 X68 ⊢;clear hw8 X8;have X18:=h! (Ext.trans X5.out (Ext.trans X6.out X68.out));have HBT:=h! (show Below w.heap.size w w8 from Below.trans HB1.out (Below.mono X18.out HB1.out.size));have HT4:=h! (fun W (hW:Ext w8 W)=>HTY.out.up (Ext.trans X18.out hW));have HS4:=h! (fun W (hW:Ext w8 W)=>HS1.out.below (Ext.trans X18.out hW));have HP4:=h! (fun W (hW:Ext w8 W)=>HP8.out.below hW);have HL4:=h! (fun W (hW:Ext w8 W)=>show Sl (· < W.heap.size) W 6 (.slice (some ⟨g4,0,none⟩) 2 2) (tuCs l27)from(HL5.out.same (Same.below (Ext.trans X68.out hW))).mono fun _ hb=>Nat.lt_of_lt_of_le hb (Ext.trans X68.out hW).size);clear HX1 HTY HB1 HS1 X5 X6 X68 HL5 HP8 hg4;generalize w1.heap.size=s1 at *;generalize w7.heap.size=s7 at *;obtain⟨wd,hwd⟩:∃ wd,Hid (wd=w8.drew):=⟨_,h! rfl⟩;have hxd:=h! (show Ext w8 wd from by rw[hwd.out];exact Ext.drew _);apply Code.wp_mono (Q:=J1 (fun(bk:Nat) W=>Ext wd W) _) ?rest4 ?reg4
 case reg4 =>
  have hE:=h! (Ext.refl wd);refine region_walkN (Ext wd) (by rw[<- hwd.out];exact Ext.refl _) (by kernel_rfl) (by kernel_rfl) (fun _ _ d _ _ h=>by cases h.1) ?_;rw[<- hwd.out];have HNB:=h! (fun W (hW:Ext wd W)=>bookT_any set27 (.slice (some ⟨g4,0,none⟩) 2 2) W ((HL4.out W (Ext.trans hxd.out hW))) (by decide) ok27l);have HOB:=h! (fun W=>obj_any usB ⟨#[49]⟩ W);have HHS:=h! (fun W b (hW:Ext wd W) (hB:BookAt W b l27)=>has27_any (.slice aot 3 ct) u27 true yesS W b (HT4.out W (Ext.trans hxd.out hW)) hB);have hs:=fun W (h:Ext wd W)=>(HS4.out W (Ext.trans hxd.out h)).cells;have hp:=fun W (h:Ext wd W)=>(HP4.out W (Ext.trans hxd.out h)).cells;unfold aC at HHS;unfold usB at HOB;dsimp only[p27,u27,v27,docB,viB,usB]at HHS;(refine WalkN.tk [0,1,4] ?_;(iterate 3 ((refine TkN.c _ ?_ (by simp only[gA,gS,gZ];rfl) (by kernel_rfl) (by kernel_rfl) (by rfl) (fun W hW=>?_) ?_;rotate_left;· (go_simp;try with_reducible rfl));simp only[Act.put,pA,pZ,pS]));refine TkN.n ?_)
  clear hs hp;refine WalkN.one 2 (by kernel_rfl) ?_;refine⟨_,(by simp only[gA,gS,gZ];rfl),by rfl,fun K hK=>?_⟩;go_simp;refine(HNB.out wd hE.out).mono ?_;rintro e u1 ⟨bk,rfl,hB0,hx0⟩;have hX0:=Ext.trans hE.out hx0;refine hK.out _ _ hX0 ?_;clear hK;have HBK:=h! hB0;clear hB0;have hE:=h! hX0;clear hx0 hX0;((refine WalkN.take 3 _ ?_ (by simp only[gA,gS,gZ];rfl) (by kernel_rfl) (by kernel_rfl) (by rfl) (fun W hW=>?_) ?_;rotate_left;· (go_simp;try with_reducible rfl));simp only[Act.put,pA,pZ,pS])
  refine WalkN.one 5 (by kernel_rfl) ?_;refine⟨_,(by simp only[gA,gS,gZ];rfl),by rfl,fun K hK=>?_⟩;go_simp;refine(HOB.out u1).mono ?_;rintro e u2 ⟨rfl,hx1⟩;have hX1:=Ext.trans hE.out hx1;refine hK.out _ _ hX1 ?_;clear hK;have HBK:=h! (HBK.out.ext hx1);have hE:=h! hX1;clear hx1 hX1;(refine WalkN.tk [6,7] ?_;(iterate 2 ((refine TkN.c _ ?_ (by simp only[gA,gS,gZ];rfl) (by kernel_rfl) (by kernel_rfl) (by rfl) (fun W hW=>?_) ?_;rotate_left;· (go_simp;try with_reducible rfl));simp only[Act.put,pA,pZ,pS]));refine TkN.n ?_)
  refine WalkN.one 8 (by kernel_rfl) ?_;refine⟨_,(by simp only[gA,gS,gZ];rfl),by rfl,fun K hK=>?_⟩;go_simp;refine(HHS.out u2 bk hE.out HBK.out).mono ?_;rintro e u3 ⟨rfl,hx2⟩;have hX2:=Ext.trans hE.out hx2;refine hK.out _ _ hX2 ?_;clear hK;have hE:=h! hX2;clear hx2 hX2;(refine WalkN.tk [9,10,11,12,13] ?_;(iterate 5 ((refine TkN.c _ ?_ (by simp only[gA,gS,gZ];rfl) (by kernel_rfl) (by kernel_rfl) (by rfl) (fun W hW=>?_) ?_;rotate_left;· (go_simp;try with_reducible rfl));simp only[Act.put,pA,pZ,pS]));refine TkN.n ?_)
  refine WalkN.done (by kernel_rfl) ?_;exact⟨rfl,bk,rfl,hE.out⟩
 rintro e _ W4 ⟨rfl,bk4,rfl,hX⟩;dsimp only;have X9:=h! (show Ext w8 W4 from Ext.trans hxd.out hX);clear hX hxd hwd;go_wp2_with fail
 obtain⟨wd,hwd⟩:∃ wd,Hid (wd=W4.drew):=⟨_,h! rfl⟩;have hxd:=h! (show Ext W4 wd from by rw[hwd.out];exact Ext.drew _);apply Code.wp_mono (Q:=J1 (fun(bk:Nat) W=>Ext wd W) _) ?rest5 ?reg5
 case reg5 =>
  have hE:=h! (Ext.refl wd);refine region_walkN (Ext wd) (by rw[<- hwd.out];exact Ext.refl _) (by kernel_rfl) (by kernel_rfl) (fun _ _ d _ _ h=>by cases h.1) ?_;rw[<- hwd.out];have HNB:=h! (fun W (hW:Ext wd W)=>bookT_any set27 (.slice (some ⟨g4,0,none⟩) 2 2) W ((HL4.out W (Ext.trans X9.out (Ext.trans hxd.out hW)))) (by decide) ok27l);have HOB:=h! (fun W=>obj_any usB ⟨#[50]⟩ W);have HHS:=h! (fun W b (hW:Ext wd W) (hB:BookAt W b l27)=>has27_any (.slice aot 3 ct) v27 false noS W b (HT4.out W (Ext.trans X9.out (Ext.trans hxd.out hW))) hB);have hs:=fun W (h:Ext wd W)=>(HS4.out W (Ext.trans X9.out (Ext.trans hxd.out h))).cells;have hp:=fun W (h:Ext wd W)=>(HP4.out W (Ext.trans X9.out (Ext.trans hxd.out h))).cells;unfold aC at HHS;unfold usB at HOB;dsimp only[p27,u27,v27,docB,viB,usB]at HHS;(refine WalkN.tk [0,1,4] ?_;(iterate 3 ((refine TkN.c _ ?_ (by simp only[gA,gS,gZ];rfl) (by kernel_rfl) (by kernel_rfl) (by rfl) (fun W hW=>?_) ?_;rotate_left;· (go_simp;try with_reducible rfl));simp only[Act.put,pA,pZ,pS]));refine TkN.n ?_)
  clear hs hp;refine WalkN.one 2 (by kernel_rfl) ?_;refine⟨_,(by simp only[gA,gS,gZ];rfl),by rfl,fun K hK=>?_⟩;go_simp;refine(HNB.out wd hE.out).mono ?_;rintro e u1 ⟨bk,rfl,hB0,hx0⟩;have hX0:=Ext.trans hE.out hx0;refine hK.out _ _ hX0 ?_;clear hK;have HBK:=h! hB0;clear hB0;have hE:=h! hX0;clear hx0 hX0;((refine WalkN.take 3 _ ?_ (by simp only[gA,gS,gZ];rfl) (by kernel_rfl) (by kernel_rfl) (by rfl) (fun W hW=>?_) ?_;rotate_left;· (go_simp;try with_reducible rfl));simp only[Act.put,pA,pZ,pS])
  refine WalkN.one 5 (by kernel_rfl) ?_;refine⟨_,(by simp only[gA,gS,gZ];rfl),by rfl,fun K hK=>?_⟩;go_simp;refine(HOB.out u1).mono ?_;rintro e u2 ⟨rfl,hx1⟩;have hX1:=Ext.trans hE.out hx1;refine hK.out _ _ hX1 ?_;clear hK;have HBK:=h! (HBK.out.ext hx1);have hE:=h! hX1;clear hx1 hX1;(refine WalkN.tk [6,7] ?_;(iterate 2 ((refine TkN.c _ ?_ (by simp only[gA,gS,gZ];rfl) (by kernel_rfl) (by kernel_rfl) (by rfl) (fun W hW=>?_) ?_;rotate_left;· (go_simp;try with_reducible rfl));simp only[Act.put,pA,pZ,pS]));refine TkN.n ?_)
  refine WalkN.one 8 (by kernel_rfl) ?_;refine⟨_,(by simp only[gA,gS,gZ];rfl),by rfl,fun K hK=>?_⟩;go_simp;refine(HHS.out u2 bk hE.out HBK.out).mono ?_;rintro e u3 ⟨rfl,hx2⟩;have hX2:=Ext.trans hE.out hx2;refine hK.out _ _ hX2 ?_;clear hK;have hE:=h! hX2;clear hx2 hX2;(refine WalkN.tk [9,10,11,12,13] ?_;(iterate 5 ((refine TkN.c _ ?_ (by simp only[gA,gS,gZ];rfl) (by kernel_rfl) (by kernel_rfl) (by rfl) (fun W hW=>?_) ?_;rotate_left;· (go_simp;try with_reducible rfl));simp only[Act.put,pA,pZ,pS]));refine TkN.n ?_)
  refine WalkN.done (by kernel_rfl) ?_;exact⟨rfl,bk,rfl,hE.out⟩
 rintro e _ W5 ⟨rfl,bk5,rfl,hX⟩;dsimp only;have HBE:=h! (show Below w.heap.size w W5 from Below.trans HBT.out (Below.mono (Ext.trans X9.out (Ext.trans hxd.out hX)) HBT.out.size));clear hX hxd hwd;go_wp2_with fail
 go_ret
 exact⟨rfl,HBE.out⟩
structure CaseW (w W:World)(cb:Nat)(ts:List TyS)(tv lv sv:Value)(l:List Tup)(shut:List R2)(p s:P3):Prop where
 X:Below w.heap.size w W
 B:Blk W cb (caseC tv lv sv p s) 67
 Y:TysAt (· < W.heap.size) W ts tv
 L:Sl (· < W.heap.size) W 6 lv (tuCs l)
 V:Sl (· < W.heap.size) W 2 sv (shut.flatMap r2C)
 good:GoodS ts
 lok:∀ t∈l,t.Ok/\wrN ts t=0
 len:l.length<=24
 sok:∀ r∈shut,r.Ok
 slen:shut.length<=1
 pok:p.Ok
 sOk:s.Ok
section
variable {w W W' : World} {cb : Nat} {ts : List TyS} {tv lv sv : Value} {l : List Tup} {shut : List R2} {p s : P3}
theorem CaseW.up (h:CaseW w W cb ts tv lv sv l shut p s)(hx:Ext W W'):CaseW w W' cb ts tv lv sv l shut p s :=
 ⟨h.X.trans (Below.mono hx h.X.size),h.B.below hx,h.Y.up hx,(h.L.same (Same.below hx)).mono fun _ hb=>Nat.lt_of_lt_of_le hb hx.size,(h.V.same (Same.below hx)).mono fun _ hb=>Nat.lt_of_lt_of_le hb hx.size,h.good,h.lok,h.len,h.sok,h.slen,h.pok,h.sOk⟩
theorem CaseW.has (h:CaseW w W cb ts tv lv sv l shut p s) {T:List Tup} (hT:T.length<=24)(hTo:∀ t∈T,t.Ok) {shut':List R2} {sv':Value} {W':World} (hx:Ext W W')(hv:Sl (· < W'.heap.size) W' 2 sv' (shut'.flatMap r2C))(hso:∀ r∈shut',r.Ok)(b:Nat)(hb:BookAt W' b T)(q u:P3)(hq:q.Ok) :
  Calls Tryz.prog 42 #[.agg #[tv],bkV b,sv',.agg (aC q u),.int .i64 1000] W' fun e w'=>(∃ bb,e = .returned (.tuple #[.bool bb,.int .i64 0])/\(bb=true↔Den ts T shut' u q))/\Ext W' w':=by
 have hf:=GoodS.fine h.good;have hbk:=hf.bk;refine(hasP_any ts tv b T shut' sv' q u 1000 W' (h.Y.up hx) (HasArg.of hf.chk hf.ok (by have:=schB_bk ts;omega) (by have:=(names_bk ts).1;omega) (by have:=(names_bk ts).2;omega) (by omega) hTo hq hso) hb hv).mono ?_;rintro e w' ⟨⟨n,bb,hw,rfl,hd⟩ | ⟨⟨n,h1,h2,h3⟩,-⟩,hx'⟩
 ·exact⟨⟨bb,rfl,hd.trans (hw.den_iff u).symm⟩,hx'⟩
 ·have:=good_few h.good hT shut' q n;omega
end
theorem set_sub {l T:List Tup} (h:SetT l T):T.length<=l.length/\∀ t∈T,t∈l:=⟨h.len,fun t ht=>((h.mem t).1 ht).1⟩
theorem i64_few (k:Nat)(h:k<=1000):IntKind.i64.wrap (k:Int)=(k:Int):=IntWalk.i64_in _ (by omega)
theorem i64_few1 (k:Nat)(h:k<=1000):IntKind.i64.wrap ((k:Int)+1)=(k:Int)+1:=IntWalk.i64_in _ (by omega)
theorem wrap_few1 (k:Nat)(h:k<=1000):wrap64 ((k:Int)+1)=(k:Int)+1:=by unfold wrap64;omega
theorem flat_one {α:Type} {f:α->List Value} (h:∀ x,∀ u∈f x,u.oneCell'=true)(l:List α):∀ u∈l.flatMap f,u.oneCell'=true:=fun u hu=>by
 obtain⟨x,_,hx⟩:=List.mem_flatMap.1 hu;exact h x u hx
theorem Blk.grown {w w':World} {b:Nat} {cs:Array Value} {e:TypeId} {row:Option Nat} (h:Blk w b cs e)(hg:w.grownBy w' row)(hn:row≠some b):Blk w' b cs e:=(hg.block b h.lt (fun e=>hn e.symm)).trans h
theorem Blk.slOne {w:World} {b:Nat} {cs:List Value} {e:TypeId} (h:Blk w b cs.toArray e) {sz:Nat} (hn:cs.length=sz):Sl (fun _=>True) w sz (.slice (some ⟨b,0,none⟩) 1 1) cs :=
 ⟨some ⟨b,0,none⟩,1,1,rfl,by omega,by decide,by decide,fun e=>(by cases e),fun _=>⟨b,0,rfl,trivial,fun j u hj=>by rw[Nat.zero_add,h.cells j];simpa using hj⟩⟩
theorem more_end {ts:List TyS} {l T1 T2 T3:List Tup} {shut:List R2} {x:R2} {p s:P3} {k:Nat} {b1 b2 b3:Bool} (h1:SetT (l.take k) T1)(h2:SetT l T2)(h3:SetT l T3)
  (d1:b1=true↔Den ts T1 shut s p) (d2:b2=true↔Den ts T2 shut s p) (d3:b3=true↔Den ts T3 (shut++[x]) s p):(b1=true->b2=true)/\(b3=true->b2=true):=by
 refine⟨fun h=>d2.2 (Den.mono (fun t ht=>(h2.mem t).2 ⟨List.mem_of_mem_take ((h1.mem t).1 ht).1,((h1.mem t).1 ht).2⟩) (fun _ h=>h) (d1.1 h)),fun h=>d2.2 (Den.mono (fun t ht=>(h2.mem t).2 ((h3.mem t).1 ht)) (fun y hy=>List.mem_append_left _ hy) (d3.1 h))⟩
theorem tup_take {ao:Option Addr} {l:List Tup} {cl k:Nat} (hk:k<=l.length)(hl:l.length<=24) {W:World} {S:Nat->Prop} (h:Sl S W 6 (.slice ao l.length cl) (tuCs l)):Sl S W 6 (.slice ao k cl) (tuCs (l.take k)):=by
 obtain⟨ao',n',c',e,h1,h2,h3,h4,h5⟩:=h;cases e;refine⟨ao,k,cl,rfl,by rw[tuCs_length,List.length_take];omega,by omega,h3,fun e2=>by have:=h4 e2;omega,fun hne=>?_⟩
 obtain⟨b,off,e3,hb,hcell⟩:=h5 (fun e4=>hne (by
  have:=congrArg List.length e4;rw[tuCs_length,List.length_nil]at this;have h0:l=[]:=List.length_eq_zero_iff.1 (by omega);rw[h0];simp[tuCs]))
 refine⟨b,off,e3,hb,fun j u hj=>hcell j u ?_⟩;rw[<- tuCs_take,List.getElem?_take]at hj;split at hj
 ·exact hj
 ·cases hj
theorem tup_cap {ao:Option Addr} {l:List Tup} {cl:Nat} {W:World} {S:Nat->Prop} (h:Sl S W 6 (.slice ao l.length cl) (tuCs l)):l.length<=cl:=by
 obtain⟨_,_,e,h1,h2,-⟩:=Sl.rows tuC_length (by decide) (show Sl _ W 6 _ (l.flatMap tuC)from h);cases e;exact h1
set_option maxRecDepth 100000 in
set_option maxHeartbeats 4000000 in
theorem moreLaw_any (l0:List UInt8)(v:Value)(a:Nat)(ha:a<256)(m:Nat)(hm:m<256)(w:World)(h:Sl (· < w.heap.size) w 1 v (bc l0)):Calls Tryz.prog 10 #[v,.int .u8 a,.int .u8 m] w fun e w'=>e = .returned (.bool true)/\Below w.heap.size w w':=by
 have HF:=h! (fixed27_any w);have HSL:=h! h;have HA:=h! ha;have HM:=h! hm;clear ha hm;obtain⟨ao,ln,c,rfl,hln,-,hcm⟩:=h.len;rw[bc_length,Nat.mul_one]at hln;subst hln;clear h;go_enter Tryz.func10,Tryz.ntmps10
 go_wp2_with fail
 refine HF.out.mono ?_;rintro e w1 ⟨rfl,hb1⟩;have HB1:=h! (show Below w.heap.size w w1 from hb1);clear hb1 HF;by_cases hlen:(300:Int)<(l0.length:Int)
 ·go_wp2_with fail
  go_ret
  exact⟨rfl,HB1.out⟩
 have hx12:=Ext.alloc w1 (.cells #[.slice ao l0.length c,.int .i64 0] 71);have HT2:=h! (show Tp (w1.alloc (.cells #[.slice ao l0.length c,.int .i64 0] 71)) w1.heap.size from⟨_,l0,0,Nat.zero_le _,(HSL.out.same (Same.below (HB1.out.trans (hx12.mono HB1.out.size)))).mono fun b (hb:b<w.heap.size)=>Nat.lt_of_lt_of_le hb HB1.out.size,Blk.made _ _ _⟩);have HMK:=h! (mkOne_any _ _ HT2.out);have HB2:=h! (show Below w.heap.size w _ from HB1.out.trans (hx12.mono HB1.out.size));have HZ1:=h! (show w.heap.size<=w1.heap.size from HB1.out.size);clear hx12;go_wp2_with fail
 obtain⟨w2,hw2⟩:∃ x,x=w1.alloc (.cells #[.slice ao l0.length c,.int .i64 0] 71):=⟨_,rfl⟩;rw[<- hw2]at HT2 HMK HB2 ⊢;clear hw2;generalize w1.heap.size=tp at *;refine HMK.out.mono ?_;rintro e w3 ⟨ts,tv,lv,sv,l,shut,p,s,rfl,hgs,hty,hl,hv,hlo,hll,hso,hsl,hpo,hs,hkt⟩;obtain⟨aot,ct,rfl,-,-,-⟩:=hty.rows;obtain⟨aol,cl,rfl,-⟩:=Sl.rows tuC_length (by decide) (show Sl _ w3 6 lv (l.flatMap tuC)from hl);obtain⟨aos,cs,rfl,-⟩:=Sl.rows r2C_length (by decide) hv;have x34:=Ext.alloc w3 (.cells (caseC (.slice aot ts.length ct) (.slice aol l.length cl) (.slice aos shut.length cs) p s) 67)
 have HC:=h! (show CaseW w (w3.alloc (.cells (caseC (.slice aot ts.length ct) (.slice aol l.length cl) (.slice aos shut.length cs) p s) 67)) w3.heap.size ts (.slice aot ts.length ct) (.slice aol l.length cl) (.slice aos shut.length cs) l shut p s from by
  have hm:∀ b,(w2.heap.size<=b/\b<w3.heap.size)->b<(w3.alloc (.cells (caseC (.slice aot ts.length ct) (.slice aol l.length cl) (.slice aos shut.length cs) p s) 67)).heap.size:=fun b hb=>Nat.lt_of_lt_of_le hb.2 x34.size
  exact⟨HB2.out.trans (Below.trans (hkt.below fun b hb=>⟨Nat.lt_of_lt_of_le hb HB2.out.size,by have:=HZ1.out;omega⟩) (x34.mono (by have:=hkt.size;have:=HB2.out.size;omega))),Blk.made _ _ _,
   (hty.same fun b hb=>x34.block b hb.2).mono hm,(hl.same fun b hb=>x34.block b hb.2).mono hm,(hv.same fun b hb=>x34.block b hb.2).mono hm,hgs,hlo,hll,hso,hsl,hpo,hs⟩)
 have hcb:=HC.out.B.cells;clear hgs hty hl hv hlo hll hso hsl hpo hs hkt x34 HMK HT2 HB2 HB1 HSL hlen HZ1;go_wp2_with fail
 obtain⟨w4,hw4⟩:∃ x,x=w3.alloc (.cells (caseC (.slice aot ts.length ct) (.slice aol l.length cl) (.slice aos shut.length cs) p s) 67):=⟨_,rfl⟩;try rw[<- hw4]at HC hcb
 try rw[<- hw4]
 clear hw4;generalize w3.heap.size=cb at *;clear hcb
 -- some
 obtain⟨wd,hwd⟩:∃ wd,Hid (wd=w4.drew):=⟨_,h! rfl⟩;have hxd:=h! (show Ext w4 wd from by rw[hwd.out];exact Ext.drew _);refine region_walkN (Ext wd) (by rw[<- hwd.out];exact Ext.refl _) (by kernel_rfl) (by kernel_rfl) (fun _ _ d _ _ h=>by cases d <;> exact h) ?_;rw[<- hwd.out];have HC:=h! (HC.out.up hxd.out);clear hwd hxd;have hc:=fun W (h:Ext wd W)=>(HC.out.B.below h).cells;obtain⟨k,hkl,hkq⟩:∃ k:Nat,k<=l.length/\(a:Int).tmod ((l.length:Int)+1)=(k:Int):=⟨a % (l.length+1),by have:=Nat.mod_lt a (show 0<l.length+1 by omega);omega,by rw[Int.tmod_eq_emod_of_nonneg (by omega)];simp⟩;have HKL:=h! hkl;have HTK:=h! (fun W (h:Sl (· < W.heap.size) W 6 (.slice aol l.length cl) (tuCs l))=>tup_take HKL.out HC.out.len h);have ha2:IntKind.i64.wrap (a:Int)=(a:Int):=i64_few a (by have:=HA.out;omega);have hkw:=i64_few k (by have:=HC.out.len;omega);have hlw:=i64_few1 l.length (by have:=HC.out.len;omega);have hlw2:=wrap_few1 l.length (by have:=HC.out.len;omega);have hln0:¬ ((l.length:Int)+1=0):=by omega
 have hk0:(0:Int)<=(k:Int):=by omega
 have hkc2:k<=cl:=Nat.le_trans hkl (tup_cap HC.out.L);have hkc:(k:Int)<=(cl:Int):=by omega
 (refine WalkN.tk [0,1,2,3,4,5,6,7,8,9,10] ?_;(iterate 11 ((refine TkN.c _ ?_ (by simp only[gA,gS,gZ];rfl) (by kernel_rfl) (by kernel_rfl) (by rfl) (fun W hW=>?_) ?_;rotate_left;· (go_simp;try with_reducible rfl));simp only[Act.put,pA,pZ,pS]));refine TkN.n ?_)
 refine WalkN.done (by kernel_rfl) ?_;clear hc hkq ha2 hkw hlw hlw2 hln0 hk0 hkc hkc2 hkl;obtain⟨w5,hw5⟩:∃ y,y=wd:=⟨_,rfl⟩;rw[<- hw5]at HC ⊢;clear hw5;go_wp2_with fail
 obtain⟨wd,hwd⟩:∃ wd,Hid (wd=w5.drew):=⟨_,h! rfl⟩;have hxd:=h! (show Ext w5 wd from by rw[hwd.out];exact Ext.drew _);refine region_walkN (Ext wd) (by rw[<- hwd.out];exact Ext.refl _) (by kernel_rfl) (by kernel_rfl) (fun _ _ d _ _ h=>by cases d <;> exact h) ?_;rw[<- hwd.out];have HC:=h! (HC.out.up hxd.out);clear hwd hxd;have hc:=fun W (h:Ext wd W)=>(HC.out.B.below h).cells;(refine WalkN.tk [0,1,2,5,6,7,8] ?_;(iterate 7 ((refine TkN.c _ ?_ (by simp only[gA,gS,gZ];rfl) (by kernel_rfl) (by kernel_rfl) (by rfl) (fun W hW=>?_) ?_;rotate_left;· (go_simp;try with_reducible rfl));simp only[Act.put,pA,pZ,pS]));refine TkN.n ?_)
 clear hc;have HNB:=h! (newBook_any (l.take k) (.slice aol k cl) wd ((HTK.out wd HC.out.L)) (by have:=HC.out.len;rw[List.length_take];omega) (fun t ht=>(HC.out.lok t (List.mem_of_mem_take ht)).1));refine WalkN.one 3 (by kernel_rfl) ?_;refine⟨_,(by simp only[gA,gS,gZ];rfl),by rfl,fun K hK=>?_⟩;go_simp;refine HNB.out.mono ?_;rintro e w5 ⟨bk,T1,rfl,hT,hbk,hb5⟩;refine hK.out _ _ hb5 ?_;clear hK HNB;have HT1:=h! hT;have HH:=h! (HC.out.has (T:=T1) (Nat.le_trans (set_sub hT).1 (by have:=HC.out.len;rw[List.length_take];omega)) (fun u hu=>(fun t ht=>(HC.out.lok t (List.mem_of_mem_take ht)).1) u ((set_sub hT).2 u hu)) hb5 (shut':=shut) (sv' := .slice aos shut.length cs) (((HC.out.up hb5).V)) (HC.out.sok) bk hbk p s HC.out.pok);unfold aC at HH;clear hT hbk;((refine WalkN.take 4 _ ?_ (by simp only[gA,gS,gZ];rfl) (by kernel_rfl) (by kernel_rfl) (by rfl) (fun W hW=>?_) ?_;rotate_left;· (go_simp;try with_reducible rfl));simp only[Act.put,pA,pZ,pS])
 refine WalkN.one 9 (by kernel_rfl) ?_;refine⟨_,(by simp only[gA,gS,gZ];rfl),by rfl,fun K hK=>?_⟩;go_simp;refine HH.out.mono ?_;rintro e w6 ⟨⟨y1,rfl,hbb⟩,hx6⟩;refine hK.out _ _ (Ext.trans hb5 hx6) ?_;clear hK HH;have HDy1:=h! hbb;have HC:=h! (HC.out.up (Ext.trans hb5 hx6));(refine WalkN.tk [10,11,12,13,14] ?_;(iterate 5 ((refine TkN.c _ ?_ (by simp only[gA,gS,gZ];rfl) (by kernel_rfl) (by kernel_rfl) (by rfl) (fun W hW=>?_) ?_;rotate_left;· (go_simp;try with_reducible rfl));simp only[Act.put,pA,pZ,pS]));refine TkN.n ?_)
 refine WalkN.done (by kernel_rfl) ?_;clear hbb hb5 hx6;obtain⟨w7,hw7⟩:∃ y,y=w6:=⟨_,rfl⟩;rw[<- hw7]at HC ⊢;clear hw7;go_wp2_with fail
 obtain⟨wd,hwd⟩:∃ wd,Hid (wd=w7.drew):=⟨_,h! rfl⟩;have hxd:=h! (show Ext w7 wd from by rw[hwd.out];exact Ext.drew _);refine region_walkN (Ext wd) (by rw[<- hwd.out];exact Ext.refl _) (by kernel_rfl) (by kernel_rfl) (fun _ _ d _ _ h=>by cases d <;> exact h) ?_;rw[<- hwd.out];have HC:=h! (HC.out.up hxd.out);clear hwd hxd;have hc:=fun W (h:Ext wd W)=>(HC.out.B.below h).cells;(refine WalkN.tk [0,1,2,3,6,7,8,9] ?_;(iterate 8 ((refine TkN.c _ ?_ (by simp only[gA,gS,gZ];rfl) (by kernel_rfl) (by kernel_rfl) (by rfl) (fun W hW=>?_) ?_;rotate_left;· (go_simp;try with_reducible rfl));simp only[Act.put,pA,pZ,pS]));refine TkN.n ?_)
 clear hc;have HNB:=h! (newBook_any (l) (.slice aol l.length cl) wd (HC.out.L) (by have:=HC.out.len;omega) (fun t ht=>(HC.out.lok t ht).1));refine WalkN.one 4 (by kernel_rfl) ?_;refine⟨_,(by simp only[gA,gS,gZ];rfl),by rfl,fun K hK=>?_⟩;go_simp;refine HNB.out.mono ?_;rintro e w5 ⟨bk,T2,rfl,hT,hbk,hb5⟩;refine hK.out _ _ hb5 ?_;clear hK HNB;have HT2:=h! hT;have HH:=h! (HC.out.has (T:=T2) (Nat.le_trans (set_sub hT).1 (by have:=HC.out.len;omega)) (fun u hu=>(fun t ht=>(HC.out.lok t ht).1) u ((set_sub hT).2 u hu)) hb5 (shut':=shut) (sv' := .slice aos shut.length cs) (((HC.out.up hb5).V)) (HC.out.sok) bk hbk p s HC.out.pok);unfold aC at HH;clear hT hbk;((refine WalkN.take 5 _ ?_ (by simp only[gA,gS,gZ];rfl) (by kernel_rfl) (by kernel_rfl) (by rfl) (fun W hW=>?_) ?_;rotate_left;· (go_simp;try with_reducible rfl));simp only[Act.put,pA,pZ,pS])
 refine WalkN.one 10 (by kernel_rfl) ?_;refine⟨_,(by simp only[gA,gS,gZ];rfl),by rfl,fun K hK=>?_⟩;go_simp;refine HH.out.mono ?_;rintro e w6 ⟨⟨y2,rfl,hbb⟩,hx6⟩;refine hK.out _ _ (Ext.trans hb5 hx6) ?_;clear hK HH;have HDy2:=h! hbb;have HC:=h! (HC.out.up (Ext.trans hb5 hx6));(refine WalkN.tk [11,12,13,14,15] ?_;(iterate 5 ((refine TkN.c _ ?_ (by simp only[gA,gS,gZ];rfl) (by kernel_rfl) (by kernel_rfl) (by rfl) (fun W hW=>?_) ?_;rotate_left;· (go_simp;try with_reducible rfl));simp only[Act.put,pA,pZ,pS]));refine TkN.n ?_)
 refine WalkN.done (by kernel_rfl) ?_;clear hbb hb5 hx6;obtain⟨w8,hw8⟩:∃ y,y=w6:=⟨_,rfl⟩;rw[<- hw8]at HC ⊢;clear hw8;go_wp2_with fail
 obtain⟨wd,hwd⟩:∃ wd,Hid (wd=w8.drew):=⟨_,h! rfl⟩;have hxd:=h! (show Ext w8 wd from by rw[hwd.out];exact Ext.drew _);refine region_walkN (Ext wd) (by rw[<- hwd.out];exact Ext.refl _) (by kernel_rfl) (by kernel_rfl) (fun _ _ d _ _ h=>by cases d <;> exact h) ?_;rw[<- hwd.out];have HC:=h! (HC.out.up hxd.out);clear hwd hxd;have hf:=GoodS.fine HC.out.good;obtain⟨b,off,ct',e0,hRW⟩:=HC.out.Y.row hf.ok (by have:=hf.two;omega) (fun t ht=>by have:=hf.rels t ht;omega);obtain⟨rfl,rfl⟩:aot=some ⟨b,off,none⟩/\ct=ct':=by cases e0;exact⟨rfl,rfl⟩
 clear e0;have HTY:=h! hf.two;obtain⟨n,hn⟩:∃ n,n=ts.length:=⟨_,rfl⟩;rw[<- hn]at HTY hRW ⊢;have HTS:=h! hn
 have hcc:∀ W,Ext wd W->∀ i,W.cell? ⟨cb,i,none⟩=(#[.slice (some ⟨b,off,none⟩) n ct,.slice aol l.length cl,.slice aos shut.length cs,.string p.t,.string p.i,.string p.r,.string s.t,.string s.i,.string s.r]:Array Value)[i]?:=fun W h=>by
  have:=(HC.out.B.below h).cells;rw[<- hn]at this;exact this
 clear hf hn;obtain⟨k2,hk2,hkq⟩:∃ k2:Nat,k2<n/\(m:Int).tmod (n:Int)=(k2:Int):=⟨m % n,Nat.mod_lt _ (by have:=HTY.out;omega),by rw[Int.tmod_eq_emod_of_nonneg (by omega)];simp⟩;obtain⟨nm,b2,off2,m2,c2,e0,e1,hnz,hm1,hm2,hR⟩:=hRW.2 k2 hk2;have g0:∀ W,Ext wd W->W.cell? ⟨b,off+k2*2,none⟩=some (.string nm):=fun W h=>h.cell e0;have g1:∀ W,Ext wd W->W.cell? ⟨b,off+k2*2+1,none⟩=some (.slice (some ⟨b2,off2,none⟩) m2 c2):=fun W h=>h.cell e1;have HNZ:=h! (show nm.size<=maxLen/\1<=m2/\m2<=1000/\RelRow (· < wd.heap.size) wd m2 b2 off2 from⟨hnz,hm1,hm2,hR⟩);have hm0:IntKind.i64.wrap (m:Int)=(m:Int):=IntWalk.i64_in _ (by have:=HM.out;omega);have hkw:=i64_few k2 (by have:=HTY.out;omega);have hn0:¬ ((n:Int)=0):=by have:=HTY.out;omega
 have hn1:¬ (n=0):=by have:=HTY.out;omega
 have hki:(k2:Int)<(n:Int):=by omega
 clear e0 e1 hnz hm1 hm2 hR hRW hk2;(refine WalkN.tk [0,1,2,3,4,5,6,7,8,9,10,11] ?_;(iterate 12 ((refine TkN.c _ ?_ (by simp only[gA,gS,gZ];rfl) (by kernel_rfl) (by kernel_rfl) (by rfl) (fun W hW=>?_) ?_;rotate_left;· (go_simp;try with_reducible rfl));simp only[Act.put,pA,pZ,pS]));refine TkN.n ?_)
 clear hcc hkq g0 g1 hm0 hkw hn0 hn1 hki;have HE0:=Ext.alloc wd (.cells #[.string ⟨#[]⟩,.slice none 0 0] 95);have HB0:=Blk.made wd #[.string ⟨#[]⟩,.slice none 0 0] 95;refine WalkN.one 12 (by kernel_rfl) ?_;refine⟨_,(by simp only[gA,gS,gZ];rfl),by rfl,fun K hK=>?_⟩;go_simp;refine hK.out _ _ HE0 ?_;clear hK;obtain⟨w5,hw5⟩:∃ y,y=wd.alloc (.cells #[.string ⟨#[]⟩,.slice none 0 0] 95):=⟨_,rfl⟩;rw[<- hw5]at HE0 HB0 ⊢;clear hw5;have cb5:=HB0.cells;have fb5:=HB0.free;refine WalkN.one 13 (by kernel_rfl) ?_;refine⟨_,(by simp only[gA,gS,gZ];rfl),by rfl,fun K hK=>?_⟩;go_simp;have hX:=Below.setCell (Below.setCell HE0 (p:=⟨wd.heap.size,0,none⟩) (Nat.le_refl _) (.string nm)) (p:=⟨wd.heap.size,1,none⟩) (Nat.le_refl _) (.slice (some ⟨b2,off2,none⟩) m2 c2);refine hK.out _ _ hX ?_;clear hK cb5 fb5;refine WalkN.done (by kernel_rfl) ?_;have HBT:=h! (HB0.set2D (.string nm) (.slice (some ⟨b2,off2,none⟩) m2 c2));have HC:=h! (HC.out.up hX)
 have HR2:=h! (show nm.size<=maxLen/\1<=m2/\m2<=1000/\b2<((w5.setCell ⟨wd.heap.size,0,none⟩ (.string nm)).setCell ⟨wd.heap.size,1,none⟩ (.slice (some ⟨b2,off2,none⟩) m2 c2)).heap.size/\∀ j,j<m2->∃ rn:ByteArray,((w5.setCell ⟨wd.heap.size,0,none⟩ (.string nm)).setCell ⟨wd.heap.size,1,none⟩ (.slice (some ⟨b2,off2,none⟩) m2 c2)).cell? ⟨b2,off2+j*5,none⟩=some (.string rn)/\rn.size<=maxLen from⟨HNZ.out.1,HNZ.out.2.1,HNZ.out.2.2.1,Nat.lt_of_lt_of_le HNZ.out.2.2.2.1 hX.size,fun j hj=>by
  obtain⟨rn,h1,h2⟩:=HNZ.out.2.2.2.2 j hj;exact⟨rn,Ext.cell hX h1,h2⟩⟩)
 obtain⟨w9,hw9⟩:∃ y,y=((w5.setCell ⟨wd.heap.size,0,none⟩ (.string nm)).setCell ⟨wd.heap.size,1,none⟩ (.slice (some ⟨b2,off2,none⟩) m2 c2)):=⟨_,rfl⟩;rw[<- hw9]at HBT HC HR2 ⊢;clear hw9 HE0 HB0 hX HNZ;generalize wd.heap.size=yb at *
 have HCB:=h! (show ∀ W,Ext w9 W->∀ i,W.cell? ⟨cb,i,none⟩=(#[.slice (some ⟨b,off,none⟩) n ct,.slice aol l.length cl,.slice aos shut.length cs,.string p.t,.string p.i,.string p.r,.string s.t,.string s.i,.string s.r]:Array Value)[i]? from fun W h=>by
  have:=(HC.out.B.below h).cells;rw[<- HTS.out]at this;exact this)
 go_wp2_with fail
 have hm0:IntKind.i64.wrap (m:Int)=(m:Int):=IntWalk.i64_in _ (by have:=HM.out;omega);obtain⟨q,hq,hqd⟩:∃ q:Nat,q<=m/\(m:Int).tdiv 4=(q:Int):=⟨m / 4,Nat.div_le_self _ _,by rw[Int.tdiv_eq_ediv_of_nonneg (by omega)];omega⟩;obtain⟨k3,hk3,hkq⟩:∃ k3:Nat,k3<m2/\(q:Int).tmod (m2:Int)=(k3:Int):=⟨q % m2,Nat.mod_lt _ (by have:=HR2.out.2.1;omega),by rw[Int.tmod_eq_emod_of_nonneg (by omega)];simp⟩;have hqw:IntKind.i64.wrap (q:Int)=(q:Int):=IntWalk.i64_in _ (by have:=HM.out;omega);have hkw:IntKind.i64.wrap (k3:Int)=(k3:Int):=IntWalk.i64_in _ (by have:=HR2.out.2.2.1;omega);have hn0:¬ ((m2:Int)=0):=by omega
 have hn1:¬ (m2=0):=by omega
 have hki:(k3:Int)<(m2:Int):=by omega
 have hk0:(0:Int)<=(k3:Int):=by omega
 obtain⟨rn,hrn,hrz⟩:=HR2.out.2.2.2.2 k3 hk3
 have HMO:=h! (show ∀ r∈shut++[(⟨nm,rn⟩:R2)],r.Ok from fun r hr=>by
  rcases List.mem_append.1 hr with h | h
  ·exact HC.out.sok r h
  ·obtain rfl:=List.mem_singleton.1 h;exact⟨HR2.out.1,hrz⟩)
 obtain⟨wd,hwd⟩:∃ wd,Hid (wd=w9.drew):=⟨_,h! rfl⟩;have hxd:=h! (show Ext w9 wd from by rw[hwd.out];exact Ext.drew _);have HRN:=h! hrn;clear hq hk3 hrn hrz HR2;apply Code.wp_mono (Q:=J4 (fun(b0 b1:Nat) (v1 v2:Value) W=>Ext w9 W/\Own W w9.heap.size 102 2 v2 (shut.flatMap r2C++r2C ⟨nm,rn⟩)) _) ?rest ?reg
 case reg =>
  have hE:=h! (show Ext w9 wd from hxd.out);refine region_walkN (Ext w9) (by rw[<- hwd.out];exact hxd.out) (by kernel_rfl) (by kernel_rfl) (fun _ _ d _ _ h=>by cases h.1) ?_;rw[<- hwd.out];have h1:∀ W,Ext w9 W->∀ i,W.cell? ⟨cb,i,none⟩=(#[.slice (some ⟨b,off,none⟩) n ct,.slice aol l.length cl,.slice aos shut.length cs,.string p.t,.string p.i,.string p.r,.string s.t,.string s.i,.string s.r]:Array Value)[i]?:=fun W h=>HCB.out W h;have h2:∀ W,Ext w9 W->∀ i,W.cell? ⟨yb,i,none⟩=(#[.string nm,.slice (some ⟨b2,off2,none⟩) m2 c2]:Array Value)[i]?:=fun W h=>(HBT.out.below h).cells;have h3:∀ W,Ext w9 W->W.cell? ⟨b2,off2+k3*5,none⟩=some (.string rn):=fun W h=>Ext.cell h HRN.out;(refine WalkN.tk [1,2,4,5,6,7,8,9,10,11,12,13,14,15,16,17,18] ?_;(iterate 17 ((refine TkN.c _ ?_ (by simp only[gA,gS,gZ];rfl) (by kernel_rfl) (by kernel_rfl) (by rfl) (fun W hW=>?_) ?_;rotate_left;· (go_simp;try with_reducible rfl));simp only[Act.put,pA,pZ,pS]));refine TkN.n ?_)
  clear h1 h2 h3;refine WalkN.two 0 19 (by kernel_rfl) ?_ ?_;refine⟨_,(by simp only[gA,gZ];rfl),by rfl,fun K hK=>?_⟩;go_simp;obtain⟨b0,hb0⟩:∃ x,x=wd.heap.size:=⟨_,rfl⟩;rw[<- hb0];have hA0:=Ext.alloc wd (.cells #[] 102);have hO0:Own (wd.alloc (.cells #[] 102)) w9.heap.size 102 2 (.slice (some ⟨b0,0,none⟩) 0 0) []:=by rw[hb0];exact Own.made wd hE.out.size 102 2
  have hX0:=Ext.trans hE.out hA0;have HLB:=h! (show b0<(wd.alloc (.cells #[] 102)).heap.size from by rw[hb0];simp);refine hK.out _ _ hX0 ?_;clear hK hb0;generalize wd.alloc (.cells #[] 102)=u1 at *;have hE:=h! hX0;have HO:=h! hO0;clear hO0 hX0 hA0;refine WalkN.two 3 19 (by kernel_rfl) ?_ ?_;refine⟨_,(by simp only[gA,gS,gZ];rfl),by rfl,fun K hK=>?_⟩;refine wp_own refsT (.tmp 75) (.tmp 77) rfl rfl HO.out rfl (HC.out.up hE.out).V (flat_one r2C_one _) (by have:=HC.out.slen;rw[flat_length r2C_length];simp;omega) (by have:=HC.out.slen;rw[flat_length r2C_length];simp;omega) hE.out.size (fun v1 u2 hown1 hb1 hg1=>?_);have hX1:=Below.trans hE.out hb1;have HLB:=h! (Nat.lt_of_lt_of_le HLB.out hb1.size);refine hK.out _ _ hX1 ?_;clear hK;simp only[Act.put,pA,pZ,pS];have hE:=h! hX1;rw[List.nil_append]at hown1;have HO:=h! hown1;clear hown1 hb1 hg1 hX1;refine WalkN.one 19 (by kernel_rfl) ?_;refine⟨_,(by simp only[gA,gS,gZ];rfl),by rfl,fun K hK=>?_⟩;go_simp;obtain⟨b1,hb1⟩:∃ x,x=u2.heap.size:=⟨_,rfl⟩;rw[<- hb1];have hA2:=Ext.alloc u2 (.cells #[.string nm,.string rn] 102);have hO2:Blk (u2.alloc (.cells #[.string nm,.string rn] 102)) b1 #[.string nm,.string rn] 102:=by rw[hb1];exact Blk.made _ _ _
  have hX2:=Ext.trans hE.out hA2;have HNB:=h! (show b1≠b0 from by have:=HLB.out;omega);have HO:=h! (HO.out.below hA2);have HLB:=h! (Nat.lt_of_lt_of_le HLB.out hA2.size);refine hK.out _ _ hX2 ?_;clear hK hb1;generalize u2.alloc (.cells #[.string nm,.string rn] 102)=u3 at *;have hE:=h! hX2;have HR1:=h! hO2;clear hO2 hX2 hA2;rotate_left
  refine⟨_,(by simp only[gA,gS,gZ];rfl),by rfl,fun K hK=>?_⟩;go_simp;obtain⟨b1,hb1⟩:∃ x,x=u1.heap.size:=⟨_,rfl⟩;rw[<- hb1];have hA1:=Ext.alloc u1 (.cells #[.string nm,.string rn] 102);have hO1:Blk (u1.alloc (.cells #[.string nm,.string rn] 102)) b1 #[.string nm,.string rn] 102:=by rw[hb1];exact Blk.made _ _ _
  have hX1:=Ext.trans hE.out hA1;have HNB:=h! (show b1≠b0 from by have:=HLB.out;omega);have HO:=h! (HO.out.below hA1);have HLB:=h! (Nat.lt_of_lt_of_le HLB.out hA1.size);refine hK.out _ _ hX1 ?_;clear hK hb1;generalize u1.alloc (.cells #[.string nm,.string rn] 102)=u2 at *;have hE:=h! hX1;have HR1:=h! hO1;clear hO1 hX1 hA1;refine WalkN.one 3 (by kernel_rfl) ?_;refine⟨_,(by simp only[gA,gS,gZ];rfl),by rfl,fun K hK=>?_⟩;refine wp_own refsT (.tmp 75) (.tmp 77) rfl rfl HO.out rfl (HC.out.up hE.out).V (flat_one r2C_one _) (by have:=HC.out.slen;rw[flat_length r2C_length];simp;omega) (by have:=HC.out.slen;rw[flat_length r2C_length];simp;omega) hE.out.size (fun v1 u3 hown2 hb2 hg2=>?_);have hX2:=Below.trans hE.out hb2;have HLB:=h! (Nat.lt_of_lt_of_le HLB.out hb2.size);have HR1:=h! (HR1.out.grown hg2 (fun e=>HNB.out (Option.some.inj e).symm));refine hK.out _ _ hX2 ?_;clear hK;simp only[Act.put,pA,pZ,pS];have hE:=h! hX2;rw[List.nil_append]at hown2;have HO:=h! hown2;clear hown2 hb2 hg2 hX2;rotate_left
  refine⟨_,(by simp only[gA,gS,gZ];rfl),by rfl,fun K hK=>?_⟩;go_simp;obtain⟨b1,hb1⟩:∃ x,x=wd.heap.size:=⟨_,rfl⟩;rw[<- hb1];have hA0:=Ext.alloc wd (.cells #[.string nm,.string rn] 102);have hO0:Blk (wd.alloc (.cells #[.string nm,.string rn] 102)) b1 #[.string nm,.string rn] 102:=by rw[hb1];exact Blk.made _ _ _
  have hX0:=Ext.trans hE.out hA0;refine hK.out _ _ hX0 ?_;clear hK hb1;generalize wd.alloc (.cells #[.string nm,.string rn] 102)=u1 at *;have hE:=h! hX0;have HR1:=h! hO0;clear hO0 hX0 hA0;refine WalkN.one 0 (by kernel_rfl) ?_;refine⟨_,(by simp only[gA,gZ];rfl),by rfl,fun K hK=>?_⟩;go_simp;obtain⟨b0,hb0⟩:∃ x,x=u1.heap.size:=⟨_,rfl⟩;rw[<- hb0];have hA1:=Ext.alloc u1 (.cells #[] 102);have hO1:Own (u1.alloc (.cells #[] 102)) w9.heap.size 102 2 (.slice (some ⟨b0,0,none⟩) 0 0) []:=by rw[hb0];exact Own.made u1 hE.out.size 102 2
  have hX1:=Ext.trans hE.out hA1;have HLB:=h! (show b0<(u1.alloc (.cells #[] 102)).heap.size from by rw[hb0];simp);have HNB:=h! (show b1≠b0 from by have:=HR1.out.lt;omega);have HR1:=h! (HR1.out.below hA1);refine hK.out _ _ hX1 ?_;clear hK hb0;generalize u1.alloc (.cells #[] 102)=u2 at *;have hE:=h! hX1;have HO:=h! hO1;clear hO1 hX1 hA1;refine WalkN.one 3 (by kernel_rfl) ?_;refine⟨_,(by simp only[gA,gS,gZ];rfl),by rfl,fun K hK=>?_⟩;refine wp_own refsT (.tmp 75) (.tmp 77) rfl rfl HO.out rfl (HC.out.up hE.out).V (flat_one r2C_one _) (by have:=HC.out.slen;rw[flat_length r2C_length];simp;omega) (by have:=HC.out.slen;rw[flat_length r2C_length];simp;omega) hE.out.size (fun v1 u3 hown2 hb2 hg2=>?_);have hX2:=Below.trans hE.out hb2;have HLB:=h! (Nat.lt_of_lt_of_le HLB.out hb2.size);have HR1:=h! (HR1.out.grown hg2 (fun e=>HNB.out (Option.some.inj e).symm));refine hK.out _ _ hX2 ?_;clear hK;simp only[Act.put,pA,pZ,pS];have hE:=h! hX2;rw[List.nil_append]at hown2;have HO:=h! hown2;clear hown2 hb2 hg2 hX2;rotate_left
  all_goals
   refine WalkN.one 20 (by kernel_rfl) ?_;refine⟨_,(by simp only[gA,gS,gZ];rfl),by rfl,fun K hK=>?_⟩;refine wp_own refsT (.tmp 78) (.tmp 94) rfl rfl HO.out rfl (T:=fun _=>True) (HR1.out.slOne rfl) (news:=r2C ⟨nm,rn⟩) (by simp[r2C,Value.oneCell']) (by have:=HC.out.slen;rw[flat_length r2C_length];simp[r2C];omega) (by have:=HC.out.slen;rw[flat_length r2C_length];simp[r2C];omega) hE.out.size (fun v2 u4 hown3 hb3 hg3=>?_);have hX3:=Below.trans hE.out hb3;refine hK.out _ _ hX3 ?_;clear hK;simp only[Act.put,pA,pZ,pS];((refine WalkN.take 21 _ ?_ (by simp only[gA,gS,gZ];rfl) (by kernel_rfl) (by kernel_rfl) (by rfl) (fun W hW=>?_) ?_;rotate_left;· (go_simp;try with_reducible rfl));simp only[Act.put,pA,pZ,pS])
   refine WalkN.done (by kernel_rfl) ?_;exact⟨rfl,b0,b1,v1,v2,rfl,hX3,hown3⟩
 rintro e _ W ⟨rfl,b0,b1',v1,v2,rfl,hX,hown⟩;have HC:=h! (HC.out.up hX)
 have HMV:=h! (show Sl (· < W.heap.size) W 2 v2 ((shut++[(⟨nm,rn⟩:R2)]).flatMap r2C)from by
  rw[List.flatMap_append,List.flatMap_cons,List.flatMap_nil,List.append_nil];exact hown.sl.mono fun _ h=>h.2)
 obtain⟨mo,mm,mc,rfl,-,-,-⟩:=hown.sl.len;clear HRN HCB HBT hX hown hqd hkq hqw hkw hn0 hn1 hki hk0 hm0;obtain⟨w10,hw10⟩:∃ y,y=W:=⟨_,rfl⟩;rw[<- hw10]at HC HMV ⊢;clear hw10 hwd hxd;go_wp2_with fail
 obtain⟨wd,hwd⟩:∃ wd,Hid (wd=w10.drew):=⟨_,h! rfl⟩;have hxd:=h! (show Ext w10 wd from by rw[hwd.out];exact Ext.drew _);refine region_walkN (Ext wd) (by rw[<- hwd.out];exact Ext.refl _) (by kernel_rfl) (by kernel_rfl) (fun _ _ d _ _ h=>by cases d <;> exact h) ?_;rw[<- hwd.out];have HC:=h! (HC.out.up hxd.out);have HMV:=h! ((HMV.out.same (Same.below hxd.out)).mono fun _ hb=>Nat.lt_of_lt_of_le hb hxd.out.size);clear hwd hxd;have hc:=fun W (h:Ext wd W)=>(HC.out.B.below h).cells;(refine WalkN.tk [0,1,2,3,6,7,8] ?_;(iterate 7 ((refine TkN.c _ ?_ (by simp only[gA,gS,gZ];rfl) (by kernel_rfl) (by kernel_rfl) (by rfl) (fun W hW=>?_) ?_;rotate_left;· (go_simp;try with_reducible rfl));simp only[Act.put,pA,pZ,pS]));refine TkN.n ?_)
 clear hc;have HNB:=h! (newBook_any (l) (.slice aol l.length cl) wd (HC.out.L) (by have:=HC.out.len;omega) (fun t ht=>(HC.out.lok t ht).1));refine WalkN.one 4 (by kernel_rfl) ?_;refine⟨_,(by simp only[gA,gS,gZ];rfl),by rfl,fun K hK=>?_⟩;go_simp;refine HNB.out.mono ?_;rintro e w5 ⟨bk,T3,rfl,hT,hbk,hb5⟩;refine hK.out _ _ hb5 ?_;clear hK HNB;have HT3:=h! hT;have HH:=h! (HC.out.has (T:=T3) (Nat.le_trans (set_sub hT).1 (by have:=HC.out.len;omega)) (fun u hu=>(fun t ht=>(HC.out.lok t ht).1) u ((set_sub hT).2 u hu)) hb5 (shut':=shut++[(⟨nm,rn⟩:R2)]) (sv' := .slice mo mm mc) (((HMV.out.same (Same.below hb5)).mono fun _ hb=>Nat.lt_of_lt_of_le hb hb5.size)) (HMO.out) bk hbk p s HC.out.pok);unfold aC at HH;clear hT hbk;((refine WalkN.take 5 _ ?_ (by simp only[gA,gS,gZ];rfl) (by kernel_rfl) (by kernel_rfl) (by rfl) (fun W hW=>?_) ?_;rotate_left;· (go_simp;try with_reducible rfl));simp only[Act.put,pA,pZ,pS])
 refine WalkN.one 9 (by kernel_rfl) ?_;refine⟨_,(by simp only[gA,gS,gZ];rfl),by rfl,fun K hK=>?_⟩;go_simp;refine HH.out.mono ?_;rintro e w6 ⟨⟨y3,rfl,hbb⟩,hx6⟩;refine hK.out _ _ (Ext.trans hb5 hx6) ?_;clear hK HH;have HDy3:=h! hbb;have HC:=h! (HC.out.up (Ext.trans hb5 hx6));have HMV:=h! ((HMV.out.same (Same.below (Ext.trans hb5 hx6))).mono fun _ hb=>Nat.lt_of_lt_of_le hb (Ext.trans hb5 hx6).size);(refine WalkN.tk [10,11,12,13,14] ?_;(iterate 5 ((refine TkN.c _ ?_ (by simp only[gA,gS,gZ];rfl) (by kernel_rfl) (by kernel_rfl) (by rfl) (fun W hW=>?_) ?_;rotate_left;· (go_simp;try with_reducible rfl));simp only[Act.put,pA,pZ,pS]));refine TkN.n ?_)
 refine WalkN.done (by kernel_rfl) ?_;clear hbb hb5 hx6;obtain⟨w11,hw11⟩:∃ y,y=w6:=⟨_,rfl⟩;rw[<- hw11]at HC ⊢;clear hw11;have HEND:=h! (more_end HT1.out HT2.out HT3.out HDy1.out HDy2.out HDy3.out);have HX:=h! HC.out.X;clear HDy1 HDy2 HDy3 HT1 HT2 HT3 HC HMV;cases y2 with
 | true =>
  cases y1 <;> cases y3 <;> (go_wp2_with fail;go_ret;exact⟨rfl,HX.out⟩)
 | false =>
  obtain rfl:y1=false:=by cases y1;rfl;exact absurd (HEND.out.1 rfl) (by simp)
  obtain rfl:y3=false:=by cases y3;rfl;exact absurd (HEND.out.2 rfl) (by simp)
  go_wp2_with fail
  go_ret
  exact⟨rfl,HX.out⟩
end Go.Proofs.YtjdigpfipmckhaaGreat
