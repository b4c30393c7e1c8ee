/- Lemmas for the claim, no condition. -/
import Derived.Test.YtlhaghoajpglaaaGreatYBuGrid14
import Derived.Test.YtlhaghoajpglaaaGreatYBuGrid16
import Derived.Test.YtlhaghoajpglaaaGreatYBuGrid11
import Derived.Test.YtlhaghoajpglaaaGreatYBuGrid5
import Derived.Test.YtlhaghoajpglaaaGreatYBuGrid13
import Derived.Test.YtlhaghoajpglaaaGreatYBuGrid6
import Derived.Test.YtlhaghoajpglaaaGreatYBuGrid9
import Derived.Test.YtlhaghoajpglaaaGreatYBuGrid10
import Derived.Test.YtlhaghoajpglaaaGreatYBuGrid0
import Derived.Test.YtlhaghoajpglaaaGreatYBuGrid2
set_option maxRecDepth 100000
set_option maxHeartbeats 3000000
namespace Go.Proofs.YtlhaghoajpglaaaGreat
open Go Go.RowKit
mutual
def holdT (T:List Tup)(s:P3)(X:P3->Prop)(p:P3):RT->Prop
 | .mk k a b ps=>if k=1 then s∈subsOf T p\/∃ q∈setsOf (subsOf T p),X q else if k=2 then X ⟨p.t,p.i,a⟩else if k=3 then ∃ q∈viaOf b (subsOf T ⟨p.t,p.i,a⟩),X q else if k=4 then anyTT T s X p ps else if k=5 then allTT T s X p ps else False
def anyTT (T:List Tup)(s:P3)(X:P3->Prop)(p:P3):List RT->Prop | []=>False | r::rs=>holdT T s X p r\/anyTT T s X p rs
def allTT (T:List Tup)(s:P3)(X:P3->Prop)(p:P3):List RT->Prop | []=>True | r::rs=>holdT T s X p r/\allTT T s X p rs
end
theorem anyTT_eq (T:List Tup)(s:P3)(X:P3->Prop)(p:P3):∀ ps,anyTT T s X p ps↔∃ r∈ps,holdT T s X p r
 | []=>by rw[anyTT];simp
 | r::rs=>by rw[anyTT,anyTT_eq T s X p rs];simp
theorem allTT_eq (T:List Tup)(s:P3)(X:P3->Prop)(p:P3):∀ ps,allTT T s X p ps↔∀ r∈ps,holdT T s X p r
 | []=>by rw[allTT];simp
 | r::rs=>by rw[allTT,allTT_eq T s X p rs];simp
theorem holdT_mk (T:List Tup)(s:P3)(X:P3->Prop)(p:P3)(k:Int)(a b:ByteArray)(ps:List RT):holdT T s X p (.mk k a b ps)↔if k=1 then s∈subsOf T p\/∃ q∈setsOf (subsOf T p),X q else if k=2 then X ⟨p.t,p.i,a⟩else if k=3 then ∃ q∈viaOf b (subsOf T ⟨p.t,p.i,a⟩),X q else if k=4 then ∃ x∈ps,holdT T s X p x else if k=5 then ∀ x∈ps,holdT T s X p x else False:=by
 rw[holdT,anyTT_eq,allTT_eq]
theorem holdT_eq (T:List Tup)(s:P3)(X:P3->Prop)(p:P3)(r:RT):holdT T s X p r↔if r.k=1 then s∈subsOf T p\/∃ q∈setsOf (subsOf T p),X q else if r.k=2 then X ⟨p.t,p.i,r.a⟩else if r.k=3 then ∃ q∈viaOf r.b (subsOf T ⟨p.t,p.i,r.a⟩),X q else if r.k=4 then ∃ x∈r.ps,holdT T s X p x else if r.k=5 then ∀ x∈r.ps,holdT T s X p x else False:=by
 obtain⟨k,a,b,ps⟩:=r;exact holdT_mk T s X p k a b ps
theorem subsOf_has {T:List Tup} {p x:P3}:x∈subsOf T p↔∃ t∈T,t.o=p/\t.s=x:=by
 refine⟨subsOf_mem,?_⟩;rintro⟨t,ht,h1,rfl⟩;exact List.mem_map.2 ⟨t,List.mem_filter.2 ⟨ht,by simpa using h1⟩,rfl⟩
theorem setsOf_has {l:List P3} {x:P3}:x∈setsOf l↔x∈l/\x.r≠⟨#[]⟩:=by
 unfold setsOf;rw[List.mem_filter];simp
def DenN (ts:List TyS)(T:List Tup)(shut:List R2)(s:P3):Nat->P3->Prop
 | 0=>fun _=>False
 | n+1=>fun p=>DenN ts T shut s n p\/∃ r,ruleOf ts shut p=some r/\holdT T s (DenN ts T shut s n) p r
def Den (ts:List TyS)(T:List Tup)(shut:List R2)(s:P3)(p:P3):Prop:=∃ n,DenN ts T shut s n p
section
variable {ts : List TyS} {T U : List Tup} {shut more : List R2} {s p q : P3}
theorem Den.said {t:Tup} (ht:t∈T) {r:RT} (hr:ruleOf ts shut t.o=some r)(hk:r.k=1):Den ts T shut t.s t.o :=
 ⟨1,.inr ⟨r,hr,by rw[holdT_eq,if_pos hk];exact .inl (subsOf_has.2 ⟨t,ht,rfl,rfl⟩)⟩⟩
end
/-! A graph's rounds. -/
theorem numD_pre {ps P:List P3} (h:ps <+: P) {q:P3} (hq:q∈ps):numD P q=numD ps q:=by
 obtain⟨t,rfl⟩:=h;unfold numD;rw[List.findIdx_append,if_pos];exact List.findIdx_lt_length_of_exists ⟨q,hq,by simp⟩
theorem numD_put {ps P:List P3} {q:P3} (h:putP ps q <+: P):numD ps q=numD P q:=by
 rw[numD_pre h ((putP_mem ps q q).2 (.inr rfl))];unfold putP;split
 ·rfl
 ·next hn =>
  rw[show numD ps q=ps.length from by
   unfold numD;rw[List.findIdx_eq_length];intro x hx;simp only[decide_eq_false_iff_not];exact fun e=>hn (e▸hx)]
  unfold numD
  rw[List.findIdx_append,if_neg (by
   rw[show ps.findIdx (fun x=>decide (x=q))=ps.length from by
    rw[List.findIdx_eq_length];intro x hx;simp only[decide_eq_false_iff_not];exact fun e=>hn (e▸hx)]
   omega)]
  simp
theorem numD_of_mem {P:List P3} {q:P3} (h:q∈P):∃ hi:numD P q<P.length,P[numD P q]=q:=by
 have hi:numD P q<P.length:=List.findIdx_lt_length_of_exists ⟨q,h,by simp⟩;refine⟨hi,?_⟩;exact of_decide_eq_true (List.findIdx_getElem (xs:=P) (p:=fun x=>decide (x=q)) (w:=hi))
def Tells (P:List P3)(X:P3->Prop)(l:List Bool):Prop:=∀ q∈P,(X q↔inAt l (numD P q)=true)
theorem refsD_any {P:List P3} {X:P3->Prop} {l:List Bool} (hX:Tells P X l):∀ (L ps:List P3)(out:List Int),(refsD ps out L).2 <+: P->((refsD ps out L).1.any (inAt l)=true↔out.any (inAt l)=true\/∃ q∈L,X q)
 | [],ps,out,_=>by simp[refsD]
 | q::L,ps,out,h=>by
  rw[refsD]at h ⊢;have hp:putP ps q <+: P:=(refsD_pre L _ _).trans h;have hm:q∈P:=hp.subset ((putP_mem ps q q).2 (.inr rfl));rw[refsD_any hX L _ _ h,numD_put hp];have hq:=hX q hm;constructor
  ·rintro(h1 | ⟨x,hx,h1⟩)
   ·split at h1
    ·exact .inl h1
    ·rw[List.any_append,Bool.or_eq_true]at h1;rcases h1 with h1 | h1
     ·exact .inl h1
     ·exact .inr ⟨q,by simp,hq.2 (by simpa using h1)⟩
   ·exact .inr ⟨x,List.mem_cons_of_mem _ hx,h1⟩
  ·rintro(h1 | ⟨x,hx,h1⟩)
   ·left
    split
    ·exact h1
    ·rw[List.any_append,h1,Bool.true_or]
   ·rcases List.mem_cons.1 hx with rfl | hx
    ·left
     split
     ·next hin=>exact List.any_eq_true.2 ⟨_,hin,hq.1 h1⟩
     ·rw[List.any_append,Bool.or_eq_true];right
      simpa using hq.1 h1
    ·exact .inr ⟨x,hx,h1⟩
theorem formD_hold {T:List Tup} {s:P3} {P:List P3} {X:P3->Prop} {l:List Bool} (hX:Tells P X l)(p:P3)(r:RT):∀ ps:List P3,(formD T p r ps).2 <+: P->(holdF s l (formD T p r ps).1=true↔holdT T s X p r):=by
 induction r using RT.ind with
 | h r ih =>
  intro ps h;rw[formD_eq]at h ⊢;dsimp only at h ⊢;have hH:(headF T p r.k r.a r.b ps).2.2 <+: P:=(formsD_pre T p r.ps _).trans h
  have parts:∀ (L:List RT) (qs:List P3),(∀ x∈L,x∈r.ps)->(formsD T p L qs).2 <+: P ->
    (((formsD T p L qs).1.any (holdF s l)=true↔∃ x∈L,holdT T s X p x)/\((formsD T p L qs).1.all (holdF s l)=true↔∀ x∈L,holdT T s X p x)):=by
   intro L;induction L with
   | nil=>intro qs _ _;simp[formsD]
   | cons x L ihl =>
    intro qs hx hp;rw[formsD]at hp ⊢;have h1:=ih x (hx x (by simp)) qs ((formsD_pre T p L _).trans hp);obtain⟨h2,h3⟩:=ihl (formD T p x qs).2 (fun y hy=>hx y (List.mem_cons_of_mem _ hy)) hp;constructor
    ·rw[List.any_cons,Bool.or_eq_true,h1,h2];simp
    ·rw[List.all_cons,Bool.and_eq_true,h1,h3];simp
  obtain⟨h2,h3⟩:=parts r.ps _ (fun _ h=>h) h;rw[holdF_mk,holdT_eq];by_cases k1:r.k=1
  ·rw[if_pos k1,if_pos k1];unfold headF at hH ⊢;rw[if_pos k1]at hH ⊢;rw[Bool.or_eq_true,refsD_any hX _ _ _ hH];simp
  ·rw[if_neg k1,if_neg k1];by_cases k2:r.k=2
   ·rw[if_pos (.inl k2),if_pos k2];unfold headF at hH ⊢;rw[if_neg k1,if_pos k2]at hH ⊢;have hq:=hX ⟨p.t,p.i,r.a⟩ (hH.subset ((putP_mem ps _ _).2 (.inr rfl)));rw[numD_put hH];simpa using hq.symm
   ·rw[if_neg k2];by_cases k3:r.k=3
    ·rw[if_pos (.inr k3),if_pos k3];unfold headF at hH ⊢;rw[if_neg k1,if_neg k2,if_pos k3]at hH ⊢;rw[refsD_any hX _ _ _ hH];simp
    ·rw[if_neg (by simp[k2,k3]),if_neg k3];by_cases k4:r.k=4
     ·rw[if_pos k4,if_pos k4];exact h2
     ·rw[if_neg k4,if_neg k4];by_cases k5:r.k=5
      ·rw[if_pos k5,if_pos k5];exact h3
      ·rw[if_neg k5,if_neg k5];simp
theorem walkN_form (ts:List TyS)(T:List Tup)(shut:List R2)(p:P3) {i:Nat}:∀ {n:Nat},i<n->(walkN ts T shut p n).2[i]?=some (stepG ts T shut ((walkN ts T shut p i).1.getD i p) (walkN ts T shut p i).1).1
 | n+1,h=>by
  rw[walkN];dsimp only;by_cases e:i=n
  ·subst e;rw[List.getElem?_append_right (by rw[walkN_forms];exact Nat.le_refl _),walkN_forms];simp
  ·rw[List.getElem?_append_left (by rw[walkN_forms];omega)];exact walkN_form ts T shut p (by omega)
section
variable {ts : List TyS} {T : List Tup} {shut : List R2} {p : P3} {most : Int} {n : Nat}
theorem WalkEnd.point (h:WalkEnd ts T shut p most n) {i:Nat} (hi:i<n):∃ hi2:i<(walkN ts T shut p n).1.length,(walkN ts T shut p i).1.getD i p=(walkN ts T shut p n).1[i]:=by
 have h1:=(h.1 i hi).1;refine⟨by rw[<- h.2];exact hi,?_⟩;obtain⟨t,ht⟩:=walkN_pre ts T shut p i n (Nat.le_of_lt hi);rw[List.getD_eq_getElem?_getD,List.getElem?_eq_getElem h1];simp only[Option.getD_some,<- ht];rw[List.getElem_append_left h1]
theorem WalkEnd.den (h:WalkEnd ts T shut p most n)(s:P3):∀ r,Tells (walkN ts T shut p n).1 (DenN ts T shut s r) (inN (walkN ts T shut p n).2 s n r)
 | 0=>fun q hq=>by
  unfold inAt;rw[Int.toNat_natCast,inN_zero,Bool.and_false,DenN];simp
 | r+1=>fun q hq=>by
  have ih:=WalkEnd.den h s r;obtain⟨hi,hget⟩:=numD_of_mem hq;have hin:numD (walkN ts T shut p n).1 q<n:=Nat.lt_of_lt_of_eq hi h.2.symm;have h0:=ih q hq;unfold inAt at h0 ⊢;rw[Int.toNat_natCast]at h0 ⊢;have hd:decide ((0:Int)<=(numD (walkN ts T shut p n).1 q:Int))=true:=by simp
  rw[hd,Bool.true_and]at h0 ⊢;rw[inN_succ hin]
  have hf:newS (walkN ts T shut p n).2 s (inN (walkN ts T shut p n).2 s n r) (numD (walkN ts T shut p n).1 q)=true\/(inN (walkN ts T shut p n).2 s n r).getD (numD (walkN ts T shut p n).1 q) false=true↔(∃ rl,ruleOf ts shut q=some rl/\holdT T s (DenN ts T shut s r) q rl)\/DenN ts T shut s r q:=by
   rw[h0];by_cases hc:(inN (walkN ts T shut p n).2 s n r).getD (numD (walkN ts T shut p n).1 q) false=true
   ·simp only[hc,or_true]
   ·simp only[hc,Bool.false_eq_true,or_false];unfold newS;rw[getD_ft (by rw[inN_length];exact hin)];have hc2:(inN (walkN ts T shut p n).2 s n r).getD (numD (walkN ts T shut p n).1 q) false=false:=by simpa using hc
    rw[hc2,Bool.not_false,Bool.true_and,walkN_form ts T shut p hin];obtain⟨_,e⟩:=h.point hin;rw[e,hget]
    have hpre:(stepG ts T shut q (walkN ts T shut p (numD (walkN ts T shut p n).1 q)).1).2 <+: (walkN ts T shut p n).1:=by
     have:=walkN_pre ts T shut p (numD (walkN ts T shut p n).1 q+1) n hin;rw[walkN,e,hget]at this;exact this
    unfold stepG at hpre ⊢;cases hr:ruleOf ts shut q with
    | none =>
     dsimp only;rw[holdF_eq];simp[FT.zero,FT.k]
    | some rl =>
     rw[hr]at hpre;dsimp only at hpre ⊢;rw[formD_hold ih q rl _ hpre];simp
  rw[Bool.or_eq_true];exact⟨fun e=>(hf.2 e.symm).symm,fun e=>(hf.1 e.symm).symm⟩
end
end Go.Proofs.YtlhaghoajpglaaaGreat
namespace Go.Proofs.YtlhaghoajpglaaaGreat
open Go Go.RowKit Go.Maps
theorem subsOf_len (T:List Tup)(p:P3):(subsOf T p).length<=T.length:=by
 unfold subsOf;rw[List.length_map];exact List.length_filter_le _ _
theorem headF_refs (T:List Tup)(p:P3)(k:Int)(a b:ByteArray)(ps:List P3):(headF T p k a b ps).2.1.length<=T.length+1:=by
 unfold headF;split
 ·have h1:=refsD_len1 (setsOf (subsOf T p)) ps [];have h2:=subsOf_len T p;have h3:(setsOf (subsOf T p)).length<=(subsOf T p).length:=List.length_filter_le _ _;simp only[List.length_nil]at h1;dsimp only;omega
 ·split
  ·simp
  ·split
   ·have h1:=refsD_len1 (viaOf b (subsOf T ⟨p.t,p.i,a⟩)) ps [];have h2:=subsOf_len T ⟨p.t,p.i,a⟩;have h3:(viaOf b (subsOf T ⟨p.t,p.i,a⟩)).length<=(subsOf T ⟨p.t,p.i,a⟩).length:=by unfold viaOf;rw[List.length_map];exact List.length_filter_le _ _
    simp only[List.length_nil]at h1;dsimp only;omega
   ·simp
theorem formD_named (T:List Tup)(p:P3)(r:RT):∀ ps,(formD T p r ps).1.named.length<=r.sz*(T.length+1):=by
 induction r using RT.ind with
 | h r ih =>
  intro ps
  have:∀ (l:List RT) (qs:List P3),(∀ x∈l,x∈r.ps)->(nmdL (formsD T p l qs).1).length<=szL l*(T.length+1):=by
   intro l;induction l with
   | nil=>intro qs _;simp[formsD,nmdL]
   | cons x l ihl =>
    intro qs hx;rw[formsD,nmdL,szL,List.length_append,Nat.add_mul];have h1:=ih x (hx x (by simp)) qs;have h2:=ihl (formD T p x qs).2 fun y hy=>hx y (List.mem_cons_of_mem _ hy);omega
  have h1:=this r.ps (headF T p r.k r.a r.b ps).2.2 fun _ h=>h;have h2:=headF_refs T p r.k r.a r.b ps;rw[formD_eq];simp only;rw[FT.named_eq,List.length_append];obtain⟨k,a,b,parts⟩:=r;rw[RT.sz,Nat.add_mul];simp only[FT.refs,FT.ps,RT.k,RT.a,RT.b,RT.ps]at h1 h2 ⊢;omega
theorem walkN_named {ts:List TyS} {T:List Tup} {M:Nat} (h:∀ x∈refsOf ts,x.2.sz*(T.length+1)<=M)(shut:List R2)(p:P3):∀ n,(nmdL (walkN ts T shut p n).2).length<=n*M
 | 0=>by simp[walkN,nmdL]
 | n+1=>by
  have ih:=walkN_named h shut p n;rw[walkN];simp only;rw[nmdL_append,List.length_append,Nat.add_mul]
  have h2:(nmdL [(stepG ts T shut ((walkN ts T shut p n).1.getD n p) (walkN ts T shut p n).1).1]).length<=M:=by
   rw[nmdL,nmdL,List.append_nil];unfold stepG;split
   ·next r hr =>
    unfold ruleOf at hr;split at hr
    ·cases hr
    ·exact Nat.le_trans (formD_named T _ r _) (h _ (look_mem hr))
   ·simp[FT.zero,FT.named,nmdL]
  omega
def aC (p s:P3):Array Value:=#[.string p.t,.string p.i,.string p.r,.string s.t,.string s.i,.string s.r]
structure HasArg (ts:List TyS)(T:List Tup)(shut:List R2)(p:P3):Prop where
 ok:∀ t∈ts,t.Ok
 chk:chk06 ts=0
 bk:schB ts<=549755813888
 sz:∀ t∈ts,∀ r∈t.rels,r.2.sz<=1000000
 nms:(namesOf ts).length<=1099511627776
 rfs:(refsOf ts).length<=1099511627776
 sho:∀ r∈shut,r.Ok
 wk:WalkIn ts T shut p 1000000
 rm:∀ x∈refsOf ts,x.2.sz*(T.length+1)<=1000000
theorem HasArg.of {ts:List TyS} {T:List Tup} {shut:List R2} {p:P3} (hc:chk06 ts=0)(hok:∀ t∈ts,t.Ok)(hb:schB ts<=549755813888)(hn:(namesOf ts).length<=1099511627776)(hr:(refsOf ts).length<=1099511627776)(hT:T.length<=41)(hTo:∀ t∈T,t.Ok)(hp:p.Ok)(hso:∀ r∈shut,r.Ok):HasArg ts T shut p:=by
 have hl:=chk_long hc;have hw:=walkIn_chk (T:=T) shut hl hok (by omega) hTo hp;have hsz:∀ t∈ts,∀ r∈t.rels,r.2.sz<=32:=fun t ht r hr'=>refs_sz hl ⟨⟨t.name,r.1⟩,r.2⟩ (refs_mem.2 ⟨t,ht,r,hr',rfl⟩)
 have hN:∀ n,(walkN ts T shut p n).1.length<=1000000:=fun n=>by
  have h:=walk_few T shut p (allN_mem ts) n
  have h2:(allN ts).length<=256*64:=by
   have h3:=flatN_len (fun x:R2 × RT=>x.2.nms) 64 (refsOf ts) fun x hx=>by have:=nms_len x.2;have:=refs_sz hl x hx;omega
   have h4:=long_refs hl;unfold allN;exact Nat.le_trans h3 (Nat.mul_le_mul_right _ h4)
  have h5:(T.length+1)*(T.length+(allN ts).length+1)<=42*(41+256*64+1):=Nat.mul_le_mul (by omega) (by omega);omega
 have hrm:∀ x∈refsOf ts,x.2.sz*(T.length+1)<=32*42:=fun x hx=>Nat.mul_le_mul (refs_sz hl x hx) (by omega)
 exact⟨hok,hc,hb,fun t ht r hr'=>Nat.le_trans (hsz t ht r hr') (by decide),hn,hr,hso,
  ⟨hw.okp,hN,fun x hx=>by have:=hrm x hx;omega,by decide,hw.rok,hw.tok,hw.tlen⟩,fun x hx=>by have:=hrm x hx;omega⟩
def viB:ByteArray:=⟨#[118,105,101,119,101,114]⟩
def usB:ByteArray:=⟨#[117,115,101,114]⟩
def thB:ByteArray:=⟨#[116,104,105,115]⟩
structure CaseW (w W:World)(cb:Nat)(ts:List TyS)(tv lv sv:Value)(l:List Tup)(shut:List R2)(p s:P3):Prop where
 X:Below w.heap.size w W
 B:Blk W cb (caseC tv lv sv p s) 37
 Y:TysAt (· < W.heap.size) W ts tv
 L:Sl (· < W.heap.size) W 6 lv (tuCs l)
 V:Sl (· < W.heap.size) W 2 sv (shut.flatMap r2C)
 good:GoodS ts
 lok:∀ t∈l,t.Ok/\wrN ts t=0
 len:l.length<=24
 sok:∀ r∈shut,r.Ok
 slen:shut.length<=1
 pok:p.Ok
 sOk:s.Ok
section
variable {w W W' : World} {cb : Nat} {ts : List TyS} {tv lv sv : Value} {l : List Tup} {shut : List R2} {p s : P3}
theorem CaseW.up (h:CaseW w W cb ts tv lv sv l shut p s)(hx:Ext W W'):CaseW w W' cb ts tv lv sv l shut p s :=
 ⟨h.X.trans (Below.mono hx h.X.size),h.B.below hx,h.Y.up hx,(h.L.same (Same.below hx)).mono fun _ hb=>Nat.lt_of_lt_of_le hb hx.size,(h.V.same (Same.below hx)).mono fun _ hb=>Nat.lt_of_lt_of_le hb hx.size,h.good,h.lok,h.len,h.sok,h.slen,h.pok,h.sOk⟩
end
abbrev AQ:=P3 × P3
def aV (a:AQ):Value := .agg (aC a.1 a.2)
theorem aV_inj (a b:AQ)(h:aV a=aV b):a=b:=by
 obtain⟨⟨a1,a2,a3⟩,a4,a5,a6⟩:=a;obtain⟨⟨b1,b2,b3⟩,b4,b5,b6⟩:=b;simp only[aV,aC,Value.agg.injEq,Array.mk.injEq,List.cons.injEq,Value.string.injEq,and_true]at h;obtain⟨rfl,rfl,rfl,rfl,rfl,rfl⟩:=h;rfl
theorem askK:Keyed Tryz.prog 35:=Keyed.of_law (deep_law_laid laidOut (m:=4) (by decide) (of_decide_eq_true (by kernel_rfl)) (by kernel_rfl) (by kernel_rfl))
theorem ask_lits (d:Nat)(p s:P3)(h:p.Ok)(k:s.Ok):Tryz.prog.keyLits (d+1+1+1+1) 35 [.string p.t,.string p.i,.string p.r,.string s.t,.string s.i,.string s.r]=some [.string p.t.data.toList,.string p.i.data.toList,.string p.r.data.toList,.string s.t.data.toList,.string s.i.data.toList,.string s.r.data.toList]:=by
 unfold Program.keyLits;rw[Tryz.underlying35];have e1:=point_lits d p h;have e2:=sub_lits d s k;have e3:Tryz.prog.cellsOf 35=6:=by kernel_rfl
 have e4:Tryz.prog.cellsOf 32=3:=by kernel_rfl
 have e5:Tryz.prog.cellsOf 33=3:=by kernel_rfl
 simp[e1,e2,e3,e4,e5]
theorem ask_key (a:AQ)(h:a.1.Ok)(k:a.2.Ok):∃ q,keyOf Tryz.prog 35 (aV a)=some q:=by
 obtain⟨d,hd⟩:=types_many4;have e:=ask_lits (d+1) a.1 a.2 h k;have e2:(Tryz.prog.keyType 35&&(aV a).formed Tryz.prog 35)=true:=by kernel_rfl
 have hs:Tryz.prog.types.size+1=d+1+1+1+1+1:=by omega
 unfold keyOf;rw[Tryz.underlying35];dsimp only;rw[if_pos e2,hs];rw[show(aV a).cells.toList=[.string a.1.t,.string a.1.i,.string a.1.r,.string a.2.t,.string a.2.i,.string a.2.r]from rfl,e];exact⟨_,rfl⟩
end Go.Proofs.YtlhaghoajpglaaaGreat
namespace Go.Proofs.YtlhaghoajpglaaaGreat
open Go Go.RowKit
section
variable {fs : List FT} {s : P3} {n : Nat}
theorem inAt_mono {l m:List Bool} (h:∀ i,l.getD i false=true->m.getD i false=true)(k:Int)(hk:inAt l k=true):inAt m k=true:=by
 unfold inAt at *;rw[Bool.and_eq_true]at *;exact⟨hk.1,h _ hk.2⟩
theorem below_fix {l m:List Bool} (h:∀ i,l.getD i false=true->m.getD i false=true) {i:Nat} (hm:newS fs s m i=false)(hi:i<m.length) {f:FT} (hf:fs[i]?=some f)(hh:holdF s l f=true):m.getD i false=true:=by
 have h1:=holdF_mono s (fun k hk=>inAt_mono h k hk) f hh;unfold newS at hm;rw[hf]at hm;dsimp only at hm;rw[h1,Bool.and_true,Bool.not_eq_false']at hm;rw[<- getD_ft hi];exact hm
theorem rounds_below {l:List Bool} (hl:l.length=n)(hc:∀ i,i<n->newS fs s l i=false):∀ (r i:Nat),(inN fs s n r).getD i false=true->l.getD i false=true
 | 0,i,h=>by rw[inN_zero]at h;cases h
 | r+1,i,h=>by
  by_cases hi:i<n
  ·rw[inN_succ hi,Bool.or_eq_true]at h;rcases h with h | h
   ·exact rounds_below hl hc r i h
   ·unfold newS at h;rw[Bool.and_eq_true]at h;obtain⟨-,h⟩:=h;split at h
    ·next f hf=>exact below_fix (fun j hj=>rounds_below hl hc r j hj) (hc i hi) (by omega) hf h
    ·cases h
  ·rw[List.getD_eq_getElem?_getD,List.getElem?_eq_none (by rw[inN_length];omega)]at h;cases h
end
structure Stp where
 p:P3
 r:RT
 s:P3
 b:List Int
theorem nodup_at {α:Type} {l:List α} (h:l.Nodup) {i j:Nat} {a:α} (hi:l[i]?=some a)(hj:l[j]?=some a):i=j:=by
 obtain⟨h1,h2⟩:=List.getElem?_eq_some_iff.1 hi;obtain⟨h3,h4⟩:=List.getElem?_eq_some_iff.1 hj;rcases Nat.lt_trichotomy i j with hlt | e | hlt
 ·exact absurd (h2.trans h4.symm) (List.pairwise_iff_getElem.1 h i j h1 h3 hlt)
 ·exact e
 ·exact absurd (h4.trans h2.symm) (List.pairwise_iff_getElem.1 h j i h3 h1 hlt)
section
variable {ts : List TyS} {T : List Tup} {shut : List R2} {sub : P3} {P : List P3} {out : List Stp} {names : List ((Nat × RT) × Nat)} {wait more : List Nat}
end
theorem numD_pl {P:List P3} (hP:P.Nodup) {i:Nat} {q:P3} (h:P[i]?=some q):numD P q=i:=by
 obtain⟨h1,h2⟩:=numD_of_mem (List.mem_of_getElem? h);exact nodup_at hP (by rw[List.getElem?_eq_getElem h1,h2]) h
theorem WalkEnd.den_at {ts:List TyS} {T:List Tup} {shut:List R2} {p:P3} {most:Int} {n:Nat} (h:WalkEnd ts T shut p most n)(hP:(walkN ts T shut p n).1.Nodup)(s:P3) {i:Nat} {q:P3} (hq:(walkN ts T shut p n).1[i]?=some q) :
  Den ts T shut s q↔0<(solveR (walkN ts T shut p n).2 s n).getD i 0:=by
 have hi:i<n:=by
  have:=(List.getElem?_eq_some_iff.1 hq).1;rw[<- h.2]at this;exact this
 have hn:=numD_pl hP hq
 have key:∀ r,DenN ts T shut s r q↔(inN (walkN ts T shut p n).2 s n r).getD i false=true:=fun r=>by
  have:=h.den s r q (List.mem_of_getElem? hq);rw[this,hn];unfold inAt;rw[Int.toNat_natCast];simp
 rw[<- (endS_n (walkN ts T shut p n).2 s n).solve,<- (outN_pos n hi).2.2];constructor
 ·rintro⟨r,hr⟩;exact rounds_below (inN_length n) (endS_n (walkN ts T shut p n).2 s n) r i ((key r).1 hr)
 ·exact fun hr=>⟨n,(key n).2 hr⟩
end Go.Proofs.YtlhaghoajpglaaaGreat
namespace Go.Proofs.YtlhaghoajpglaaaGreat
open Go Go.RowKit Go.Maps
abbrev G2:=Value × Value
def g2V (x:G2):Value := .agg #[x.1,x.2]
abbrev A2S (gm km:Nat) (M:Nat->Prop) (w:World):Nat->Prop:=fun x=>x<w.heap.size/\x≠gm/\x≠km/\¬ M x
abbrev A2 (gm km:Nat) (w w':World):Prop:=Kept (fun x=>x<w.heap.size/\x≠gm/\x≠km) w w'
section
variable {w w' w'' w0 : World} {gm km : Nat} {M : Nat -> Prop}
theorem A2.refl (gm km:Nat)(w:World):A2 gm km w w:=Kept.refl _ _
theorem A2.next (h:A2 gm km w w')(k:A2 gm km w' w''):A2 gm km w w'':=Kept.trans h (Kept.mono k fun _ hx=>⟨Nat.lt_of_lt_of_le hx.1 h.size,hx.2⟩)
theorem A2.of (h:Ext w w'):A2 gm km w w':=Below.kept h fun _ hx=>hx.1
theorem A2.turnG (h:Turned w w' gm):A2 gm km w w':=h.kept.mono fun _ hx=>hx.2.1
theorem A2.turnK (h:Turned w w' km):A2 gm km w w':=h.kept.mono fun _ hx=>hx.2.2
theorem A2.old (h:A2 gm km w w')(hX:Ext w0 w)(h1:w0.heap.size<=gm)(h2:w0.heap.size<=km):Ext w0 w' :=
 Below.trans hX (Kept.below (B:=w0.heap.size) h fun b hb=>⟨Nat.lt_of_lt_of_le hb hX.size,by omega,by omega⟩)
theorem A2.gr (h:A2 gm km w w') {ps:List P3} {fs:List FT} {pv fv:Value} (hg:GrAt (A2S gm km M w) w ps fs pv fv):GrAt (A2S gm km M w') w' ps fs pv fv:=(hg.same fun b hb=>h.block b ⟨hb.1,hb.2.1,hb.2.2.1⟩).mono fun _ hb=>⟨Nat.lt_of_lt_of_le hb.1 h.size,hb.2⟩
end
structure AskIn (w0:World)(ts:List TyS)(tv:Value)(b:Nat)(T:List Tup)(shut:List R2)(sv:Value):Prop where
 Y:TysAt (· < w0.heap.size) w0 ts tv
 K:BookAt w0 b T
 V:Sl (· < w0.heap.size) w0 2 sv (shut.flatMap r2C)
structure AskrAt (M:Nat->Prop)(w0 w:World)(xb gm km:Nat)(tc fi sv:Value)(most:Int)(ts:List TyS)(T:List Tup)(shut:List R2)(lg:List (P3 × G2))(lk:List (AQ × Bool)):Prop where
 X:Ext w0 w
 lo:w0.heap.size<=xb/\w0.heap.size<=gm/\w0.heap.size<=km
 box:Blk w xb #[tc,fi,sv,.int .i64 most,.map (some gm),.map (some km)] 264
 gs:Mp Tryz.prog 32 pV g2V w gm lg
 ks:Mp Tryz.prog 35 aV bV w km lk
 gok:∀ e∈lg,∃ n,WalkEnd ts T shut e.1 most n/\GrAt (A2S gm km M w) w (walkN ts T shut e.1 n).1 (walkN ts T shut e.1 n).2 e.2.1 e.2.2
 kok:∀ e∈lk,(e.2=true↔Den ts T shut e.1.2 e.1.1)
 ne:gm≠km
section
variable {M M' : Nat -> Prop} {w0 w w' : World} {xb gm km : Nat} {tc fi sv : Value} {most : Int} {ts : List TyS} {T : List Tup} {shut : List R2} {lg : List (P3 × G2)} {lk : List (AQ × Bool)}
theorem AskrAt.xbNe (h:AskrAt M w0 w xb gm km tc fi sv most ts T shut lg lk):xb≠gm/\xb≠km:=⟨fun e=>h.gs.notCells _ _ _ (e▸h.box),fun e=>h.ks.notCells _ _ _ (e▸h.box)⟩
theorem AskrAt.ext (h:AskrAt M w0 w xb gm km tc fi sv most ts T shut lg lk)(hx:Ext w w'):AskrAt (fun b=>M b\/w.heap.size<=b) w0 w' xb gm km tc fi sv most ts T shut lg lk :=
 ⟨Ext.trans h.X hx,h.lo,h.box.below hx,h.gs.below hx,h.ks.below hx,fun e he=>by
  obtain⟨n,h1,h2⟩:=h.gok e he;exact⟨n,h1,(h2.same fun b hb=>hx.block b hb.1).mono fun _ hb=>⟨Nat.lt_of_lt_of_le hb.1 hx.size,hb.2.1,hb.2.2.1,fun e=>e.elim hb.2.2.2 fun e=>by have:=hb.1;omega⟩⟩,h.kok,h.ne⟩
theorem AskrAt.less (h:AskrAt M w0 w xb gm km tc fi sv most ts T shut lg lk)(hM:∀ b,M' b->M b):AskrAt M' w0 w xb gm km tc fi sv most ts T shut lg lk :=
 ⟨h.X,h.lo,h.box,h.gs,h.ks,fun e he=>by
  obtain⟨n,h1,h2⟩:=h.gok e he;exact⟨n,h1,h2.mono fun _ hb=>⟨hb.1,hb.2.1,hb.2.2.1,fun e=>hb.2.2.2 (hM _ e)⟩⟩,h.kok,h.ne⟩
theorem AskrAt.up (h:AskrAt M w0 w xb gm km tc fi sv most ts T shut lg lk)(hx:Ext w w'):AskrAt M w0 w' xb gm km tc fi sv most ts T shut lg lk:=(h.ext hx).less fun _ => .inl
theorem AskrAt.set (h:AskrAt M w0 w xb gm km tc fi sv most ts T shut lg lk) {y i:Nat} {cs:Array Value} {t:TypeId} (hy:Blk w y cs t)(hM:M y)(hlo:w0.heap.size<=y)(ht:t≠264)(v:Value):AskrAt M w0 (w.setCell ⟨y,i,none⟩ v) xb gm km tc fi sv most ts T shut lg lk:=by
 have hs:∀ b,b≠y->(w.setCell ⟨y,i,none⟩ v).heap[b]?=w.heap[b]?:=fun b hb=>Below.heap_setCell _ _ _ _ hb;refine⟨Below.setCell h.X hlo v,h.lo,(hs _ fun e=>?_).trans h.box,h.gs.same (hs _ fun e=>h.gs.notCells _ _ _ (e▸hy)),h.ks.same (hs _ fun e=>h.ks.notCells _ _ _ (e▸hy)),fun e he=>?_,h.kok,h.ne⟩
 ·have h1:=(show w.heap[y]?=_ from hy).symm.trans (show w.heap[y]?=_ from e▸h.box);injection h1 with h1
  injection h1 with _ h1 _
  exact ht h1
 ·obtain⟨n,h1,h2⟩:=h.gok e he;exact⟨n,h1,(h2.same fun b hb=>hs b fun e=>hb.2.2.2 (e▸hM)).mono fun _ hb=>⟨by simpa using hb.1,hb.2⟩⟩
theorem AskrAt.putG (h:AskrAt M w0 w xb gm km tc fi sv most ts T shut lg lk) {p:P3} {pv fv:Value} {n:Nat} (hw:WalkEnd ts T shut p most n)(hg:GrAt (A2S gm km M w) w (walkN ts T shut p n).1 (walkN ts T shut p n).2 pv fv)(ht:Turned w w' gm)(hm:Mp Tryz.prog 32 pV g2V w' gm (putA lg p (pv,fv))) :
  AskrAt M w0 w' xb gm km tc fi sv most ts T shut (putA lg p (pv,fv)) lk :=
 ⟨(A2.turnG (km:=km) ht).old h.X h.lo.2.1 h.lo.2.2,h.lo,ht.kept.blk h.box h.xbNe.1,hm,h.ks.same (ht.kept.block _ h.ne.symm),fun e he=>by
  rcases put_mem _ _ _ h.gs.nodup he with rfl | ⟨he,-⟩
  ·exact⟨n,hw,(A2.turnG ht).gr hg⟩
  ·obtain⟨m,h1,h2⟩:=h.gok e he;exact⟨m,h1,(A2.turnG ht).gr h2⟩,h.kok,h.ne⟩
theorem AskrAt.putK (h:AskrAt M w0 w xb gm km tc fi sv most ts T shut lg lk) {a:AQ} {b:Bool} (hb:b=true↔Den ts T shut a.2 a.1)(ht:Turned w w' km)(hm:Mp Tryz.prog 35 aV bV w' km (putA lk a b)) :
  AskrAt M w0 w' xb gm km tc fi sv most ts T shut lg (putA lk a b) :=
 ⟨(A2.turnK (gm:=gm) ht).old h.X h.lo.2.1 h.lo.2.2,h.lo,ht.kept.blk h.box h.xbNe.2,h.gs.same (ht.kept.block _ h.ne),hm,fun e he=>by
  obtain⟨m,h1,h2⟩:=h.gok e he;exact⟨m,h1,(A2.turnK ht).gr h2⟩,fun e he=>by
  rcases put_mem _ _ _ h.ks.nodup he with rfl | ⟨he,-⟩
  ·exact hb
  ·exact h.kok e he,h.ne⟩
end
def GrfSaid (ts:List TyS)(T:List Tup)(shut:List R2)(p:P3)(most:Int)(gm km:Nat)(e:Ending)(w':World):Prop :=
 (∃ n pv fv,WalkEnd ts T shut p most n/\e = .returned (.tuple #[.agg #[pv,fv],.int .i64 0])/\GrAt (A2S gm km (fun _=>False) w') w' (walkN ts T shut p n).1 (walkN ts T shut p n).2 pv fv)\/(WalkLong ts T shut p most/\∃ po pn pc fo fn fc,e = .returned (.tuple #[.agg #[.slice po pn pc,.slice fo fn fc],.int .i64 10]))
theorem graph_any {M:Nat->Prop} {w0:World} {xb gm km ct b:Nat} {ao:Option Addr} {sv:Value} {most:Int} {ts:List TyS} {T:List Tup} {shut:List R2} {lg:List (P3 × G2)} {lk:List (AQ × Bool)} (hI:AskIn w0 ts (.slice ao ts.length ct) b T shut sv)(p:P3)(w:World)(h:AskrAt M w0 w xb gm km (.slice ao ts.length ct) (bkV b) sv most ts T shut lg lk)(hM:∀ b,M b->b<w.heap.size)(hA:HasArg ts T shut p)(hp:p.Ok) :
  Calls Tryz.prog 214 #[.pointer (some ⟨xb,0,none⟩),pV p] w fun e w'=>(∃ lg',AskrAt M w0 w' xb gm km (.slice ao ts.length ct) (bkV b) sv most ts T shut lg' lk)/\A2 gm km w w'/\GrfSaid ts T shut p most gm km e w':=by
 have HI:=h! hI;have HS0:=h! h;have HA:=h! hA;have HMM:=h! hM;have HKY:=h! (point_key p hp);obtain⟨so,sc,rfl,-⟩:=Sl.rows r2C_length (by decide) hI.V;obtain⟨pt,pi,pr⟩:=p;obtain⟨wa,hwa⟩:∃ x,x=w.alloc (.cells #[.string pt,.string pi,.string pr] 32):=⟨_,rfl⟩;obtain⟨wb,hwb⟩:∃ x,x=wa.alloc (.cells #[.slice none 0 0,.slice none 0 0] 96):=⟨_,rfl⟩;have ea:wa.heap.size=w.heap.size+1:=by rw[hwa];simp
 have xa:Ext w wa:=by rw[hwa];exact Ext.alloc _ _
 have xb':Ext wa wb:=by rw[hwb];exact Ext.alloc _ _
 have XB:=h! (show Ext w wb from xa.trans xb');have HWB:=h! (show wb.heap.size=w.heap.size+2 from by rw[hwb];simp[ea]);have BP:=h! (show Blk wb w.heap.size #[.string pt,.string pi,.string pr] 32 from Blk.below (by rw[hwa];exact Blk.made _ _ _) xb');have BR:=h! (show Blk wb (w.heap.size+1) #[.slice none 0 0,.slice none 0 0] 96 from by rw[hwb,<- ea];exact Blk.made _ _ _);have HS:=h! (HS0.out.ext XB.out);clear hI h hA hp hM ea xa xb';subst hwa;unfold pV;dsimp only;go_enter Tryz.func214,Tryz.ntmps214
 go_wp2_with fail
 rw[<- hwb];clear hwb;obtain⟨wd,hwd⟩:∃ wd,Hid (wd=World.drew wb):=⟨_,h! rfl⟩;have hxd:=h! (show Ext wb wd from by rw[hwd.out];exact Ext.drew _);refine r! (Ext wd) (by rw[<- hwd.out];exact Ext.refl _) ?_;rw[<- hwd.out];have HS:=h! (HS.out.up hxd.out);have BP:=h! (BP.out.below hxd.out);have BR:=h! (BR.out.below hxd.out);have XD:=h! (Ext.trans XB.out hxd.out);have HGB:=h! (show w.heap.size+2<=wd.heap.size from by have:=HWB.out;have:=hxd.out.size;omega);clear hwd hxd XB HWB;have h1:=fun W (h:Ext wd W)=>(HS.out.box.below h).cells;have h2:=fun W (h:Ext wd W)=>(BP.out.below h).cells;have hlook:=fun W (h:Ext wd W)=>(HS.out.gs.below h).look pointK pV_inj Tryz.underlying261 (Tryz.zeroValue96 W) true HKY.out
 obtain⟨po,pn,pc,fo,fn,fc,yes,hlv,hyes⟩:∃ (po:Option Addr) (pn pc:Nat) (fo:Option Addr) (fn fc:Nat) (yes:Bool),lookV true (.agg #[.slice none 0 0,.slice none 0 0]) g2V (lookA lg ⟨pt,pi,pr⟩) = .tuple #[.agg #[.slice po pn pc,.slice fo fn fc],.bool yes]/\(yes=true->∃ n,WalkEnd ts T shut ⟨pt,pi,pr⟩ most n/\GrAt (A2S gm km (fun b=>M b\/w.heap.size<=b) wd) wd (walkN ts T shut ⟨pt,pi,pr⟩ n).1 (walkN ts T shut ⟨pt,pi,pr⟩ n).2 (.slice po pn pc) (.slice fo fn fc)):=by
  cases hl:lookA lg ⟨pt,pi,pr⟩ with
  | none=>exact⟨none,0,0,none,0,0,false,rfl,fun e=>by cases e⟩
  | some x =>
   obtain⟨pv,fv⟩:=x;obtain⟨n,h3,h4⟩:=HS.out.gok _ (look_mem hl);dsimp only at h3 h4;obtain⟨po,pc,fo,fc,e1,e2⟩:=h4.shape;subst e1 e2;exact⟨po,_,pc,fo,_,fc,true,rfl,fun _=>⟨n,h3,h4⟩⟩
 have HYES:=h! hyes;unfold pV at hlook;dsimp only at hlook;try rw[hlv]at hlook
 clear hlv hyes;(refine WalkN.tk [0,1,2,3,4,5,6,7,8] ?_;(iterate 9 (refine c! ?_));refine TkN.n ?_)
 clear h1 h2 hlook;refine o! 9 ?_;refine b! ?_;intro K hK;go_simp;obtain⟨w3,hw3⟩:∃ y,y=wd.alloc (.cells #[.slice none 0 0,.slice none 0 0] 96):=⟨_,rfl⟩;have X3:=h! (show Ext wd w3 from by rw[hw3];exact Ext.alloc _ _);have B3:=h! (show Blk w3 wd.heap.size #[.slice none 0 0,.slice none 0 0] 96 from by rw[hw3];exact Blk.made _ _ _);rw[<- hw3];refine hK.out _ _ X3.out ?_;clear hK hw3;have c3:=B3.out.cells;have f3:=B3.out.free;refine o! 10 ?_;refine b! ?_;intro K hK;go_simp;obtain⟨w4,hw4⟩:∃ y,y=(w3.setCell ⟨wd.heap.size,0,none⟩ (.slice po pn pc)).setCell ⟨wd.heap.size,1,none⟩ (.slice fo fn fc):=⟨_,rfl⟩;have B4:=h! (show Blk w4 wd.heap.size #[.slice po pn pc,.slice fo fn fc] 96 from by rw[hw4];exact(B3.out.set_to (cs':=#[.slice po pn pc,.slice none 0 0]) 0 (.slice po pn pc) rfl).set_to 1 (.slice fo fn fc) rfl);have X4:=h! (show Ext wd w4 from by rw[hw4];exact Below.setCell (Below.setCell X3.out (p:=⟨wd.heap.size,0,none⟩) (Nat.le_refl _) _) (p:=⟨wd.heap.size,1,none⟩) (Nat.le_refl _) _);rw[<- hw4];refine hK.out _ _ X4.out ?_;clear hK hw4 c3 f3 B3 X3;refine t! 11 ?_
 refine d! ?_;have HS:=h! (HS.out.up X4.out);have BP:=h! (BP.out.below X4.out);have BR:=h! (BR.out.below X4.out);have X4W:=h! (Ext.trans XD.out X4.out);generalize hgbn:wd.heap.size=gb at *;cases yes with
 | true =>
  obtain⟨n,hwe,hgr⟩:=HYES.out rfl;have HWE:=h! hwe;have HGR:=h! hgr;have c4:=B4.out.cells;have c5:=BR.out.cells;have f5:=BR.out.free;clear hwe hgr;go_wp2_with fail
  clear c4 c5 f5;have B9:=(BR.out.set_to (cs':=#[.slice po pn pc,.slice none 0 0]) 0 (.slice po pn pc) rfl).set_to (cs':=#[.slice po pn pc,.slice fo fn fc]) 1 (.slice fo fn fc) rfl;have b8:=BR.out.set_to (cs':=#[.slice po pn pc,.slice none 0 0]) 0 (.slice po pn pc) rfl;have XF:Ext w ((w4.setCell ⟨w.heap.size+1,0,none⟩ (.slice po pn pc)).setCell ⟨w.heap.size+1,1,none⟩ (.slice fo fn fc)):=Below.setCell (Below.setCell X4W.out (p:=⟨w.heap.size+1,0,none⟩) (Nat.le_succ _) _) (p:=⟨w.heap.size+1,1,none⟩) (Nat.le_succ _) _;have HL0:=h! (show w0.heap.size<=w.heap.size+1 from by have:=HS0.out.X.size;omega);refine bodyPost_ret (v := .tuple #[.agg #[.slice po pn pc,.slice fo fn fc],.int .i64 0]) ?_ rfl ⟨⟨lg,((HS.out.set BR.out (.inr (Nat.le_succ _)) HL0.out (by decide) _).set b8 (.inr (Nat.le_succ _)) HL0.out (by decide) _).less fun _ h => .inl h⟩,A2.of XF,.inl ⟨n,_,_,HWE.out,rfl,?_⟩⟩
  ·rw[results_cell_tmp rfl];have hl:=run_loadVar_row (P:=Tryz.prog) _ (w.heap.size+1) _ 96 _ _ _ B9 Tryz.underlying96 rfl (by kernel_rfl);simp[asAddr,hl,Result.andThen]
  ·refine(HGR.out.same fun x hx=>?_).mono fun x hx=>⟨?_,hx.2.1,hx.2.2.1,id⟩
   ·have h3:x<w.heap.size:=Nat.lt_of_not_le fun h=>hx.2.2.2 (.inr h);exact(XF.block x h3).trans (XD.out.block x h3).symm
   ·have h3:x<w.heap.size:=Nat.lt_of_not_le fun h=>hx.2.2.2 (.inr h);exact Nat.lt_of_lt_of_le h3 XF.size
 | false =>
  have hbx0:=HS.out.box.cells;clear HYES B4;go_wp2_with fail
  clear hbx0;obtain⟨wd,hwd⟩:∃ wd,Hid (wd=w4.drew):=⟨_,h! rfl⟩;have hxd:=h! (show Ext w4 wd from by rw[hwd.out];exact Ext.drew _);apply Code.wp_mono (Q:=JoinG (β:=Nat) wd (WalkP ts T shut ⟨pt,pi,pr⟩ most (.int .i64 0) (.int .i64 10)) _) ?rest ?reg
  case reg =>
   have hE:=h! (Ext.refl wd);refine region_walkN (Ext wd) (by rw[<- hwd.out];exact Ext.refl _) (by kernel_rfl) (by kernel_rfl) (fun _ _ d _ _ h=>by cases h.1) ?_;rw[<- hwd.out];have hbx:=fun W (h:Ext wd W)=>((HS.out.up (Ext.trans hxd.out h)).box).cells;have hpc:=fun W (h:Ext wd W)=>(BP.out.below (Ext.trans hxd.out h)).cells;have HWK:=h! (fun W (hx:Ext wd W)=>walkG_any ts (.slice ao ts.length ct) b T shut (.slice so shut.length sc) ⟨pt,pi,pr⟩ most 1000000 W (HI.out.Y.up (HS.out.X.trans (Ext.trans hxd.out hx))) HA.out.ok HA.out.chk HA.out.bk HA.out.sz HA.out.nms HA.out.rfs (HI.out.K.ext (HS.out.X.trans (Ext.trans hxd.out hx))) ((HI.out.V.same (Same.below (HS.out.X.trans (Ext.trans hxd.out hx)))).mono fun _ hb=>Nat.lt_of_lt_of_le hb (HS.out.X.trans (Ext.trans hxd.out hx)).size) HA.out.sho HA.out.wk);unfold pV at HWK;dsimp only at HWK;(refine WalkN.tk [0,1,2,3,4,5,6,7,8,9,10,11,12,13,14,15,16] ?_;(iterate 17 (refine c! ?_));refine TkN.n ?_)
   clear hbx hpc;refine p! 17 21 ?_ ?_;refine b! ?_;intro K hK;go_simp;refine(HWK.out wd hE.out).mono ?_;rintro e u1 ⟨hx0,ps,fs,po,pc,fo,fc,ev,hP0,rfl,hG0⟩;have hX0:=Ext.trans hE.out hx0;refine hK.out _ _ hX0 ?_;clear hK;have HR:=h! (show GrAt (fun x=>wd.heap.size<=x/\x<u1.heap.size) u1 ps fs (.slice po ps.length pc) (.slice fo fs.length fc)from hG0.mono fun x hx=>⟨Nat.le_trans hE.out.size hx.1,hx.2⟩);have HP:=h! hP0;have hE:=h! hX0;clear hx0 hX0 hP0 hG0;refine t! 18 ?_
   refine t! 19 ?_
   refine t! 20 ?_
   refine o! 21 ?_;refine b! ?_;intro K hK;go_simp;obtain⟨bg,hbg⟩:∃ x,x=u1.heap.size:=⟨_,rfl⟩;rw[<- hbg];have hA1:=Ext.alloc u1 (.cells #[.slice none 0 0,.slice none 0 0] 96);have hO1:Blk (u1.alloc (.cells #[.slice none 0 0,.slice none 0 0] 96)) bg #[.slice none 0 0,.slice none 0 0] 96:=by rw[hbg];exact Blk.made _ _ _
   have hX1:=Ext.trans hE.out hA1;have HBG:=h! (show wd.heap.size<=bg from by have:=hE.out.size;omega);have HR:=h! (show GrAt (fun x=>x≠bg/\wd.heap.size<=x/\x<(u1.alloc (.cells #[.slice none 0 0,.slice none 0 0] 96)).heap.size) (u1.alloc (.cells #[.slice none 0 0,.slice none 0 0] 96)) ps fs (.slice po ps.length pc) (.slice fo fs.length fc)from(HR.out.same fun x hx=>hA1.block x hx.2).mono fun x hx=>⟨fun e=>by have:=hx.2;omega,hx.1,Nat.lt_of_lt_of_le hx.2 hA1.size⟩);refine hK.out _ _ hX1 ?_;clear hK hbg hA1;generalize u1.alloc (.cells #[.slice none 0 0,.slice none 0 0] 96)=u2 at *;have hE:=h! hX1;have HG:=h! hO1;clear hO1 hX1;rotate_left
   refine b! ?_;intro K hK;go_simp;obtain⟨bg,hbg⟩:∃ x,x=wd.heap.size:=⟨_,rfl⟩;rw[<- hbg];have hA0:=Ext.alloc wd (.cells #[.slice none 0 0,.slice none 0 0] 96);have hO0:Blk (wd.alloc (.cells #[.slice none 0 0,.slice none 0 0] 96)) bg #[.slice none 0 0,.slice none 0 0] 96:=by rw[hbg];exact Blk.made _ _ _
   have hX0:=Ext.trans hE.out hA0;have HBG:=h! (show wd.heap.size<=bg from by have:=hE.out.size;omega);refine hK.out _ _ hX0 ?_;clear hK hbg hA0;generalize wd.alloc (.cells #[.slice none 0 0,.slice none 0 0] 96)=u1 at *;have hE:=h! hX0;have HG:=h! hO0;clear hO0 hX0;refine o! 17 ?_;refine b! ?_;intro K hK;go_simp;refine(HWK.out u1 hE.out).mono ?_;rintro e u2 ⟨hx1,ps,fs,po,pc,fo,fc,ev,hP1,rfl,hG1⟩;have hX1:=Ext.trans hE.out hx1;refine hK.out _ _ hX1 ?_;clear hK;have HR:=h! (show GrAt (fun x=>x≠bg/\wd.heap.size<=x/\x<u2.heap.size) u2 ps fs (.slice po ps.length pc) (.slice fo fs.length fc)from hG1.mono fun x hx=>⟨fun e=>by have:=HG.out.lt;have:=hx.1;omega,Nat.le_trans hE.out.size hx.1,hx.2⟩);have HG:=h! (HG.out.below hx1);have HP:=h! hP1;have hE:=h! hX1;clear hx1 hX1 hP1 hG1;refine t! 18 ?_
   refine t! 19 ?_
   refine t! 20 ?_
   rotate_left
   all_goals
    refine o! 22 ?_;refine b! ?_;intro K hK;have hg:=HG.out.cells;have hf:=HG.out.free;go_simp;have hS2:=(HG.out.set_to (cs':=#[.slice po ps.length pc,.slice none 0 0]) 0 (.slice po ps.length pc) rfl).set_to (cs':=#[.slice po ps.length pc,.slice fo fs.length fc]) 1 (.slice fo fs.length fc) rfl;have hX2:Ext wd ((u2.setCell ⟨bg,0,none⟩ (.slice po ps.length pc)).setCell ⟨bg,1,none⟩ (.slice fo fs.length fc)):=Below.setCell (Below.setCell hE.out (p:=⟨bg,0,none⟩) HBG.out _) (p:=⟨bg,1,none⟩) HBG.out _;have hR2:=(HR.out.same (w':=((u2.setCell ⟨bg,0,none⟩ (.slice po ps.length pc)).setCell ⟨bg,1,none⟩ (.slice fo fs.length fc))) fun x hx=>by rw[Below.heap_setCell _ _ _ x hx.1,Below.heap_setCell _ _ _ x hx.1]).mono (T:=fun x=>x≠bg/\wd.heap.size<=x/\x<((u2.setCell ⟨bg,0,none⟩ (.slice po ps.length pc)).setCell ⟨bg,1,none⟩ (.slice fo fs.length fc)).heap.size) fun x hx=>⟨hx.1,hx.2.1,by simpa using hx.2.2⟩;refine hK.out _ _ hX2 ?_;clear hK hg hf;generalize (u2.setCell ⟨bg,0,none⟩ (.slice po ps.length pc)).setCell ⟨bg,1,none⟩ (.slice fo fs.length fc)=u3 at *;refine t! 23 ?_
    refine d! ?_;obtain⟨zz,-⟩:∃ z:Nat,True:=⟨0,trivial⟩;exact⟨rfl,zz,bg,po,pc,fo,fc,ps,fs,ev,rfl,HP.out,hX2,HBG.out,hS2,hR2⟩
  rintro e _ W ⟨rfl,_,bg,po_,pc_,fo_,fc_,ps,fs,ev,rfl,hP,hX,hbg,hblk,hgr⟩;dsimp only;have hX:=Ext.trans hxd.out hX;have HS:=h! (HS.out.up hX);have BP:=h! (BP.out.below hX);have BR:=h! (BR.out.below hX);have XW:=h! (Ext.trans X4W.out hX);have HBG:=h! (show w.heap.size+2<=wd.heap.size from by have h3:=HGB.out;have h4:=X4.out.size;have h5:=hxd.out.size;omega);have HGR:=h! hgr;have HBL:=h! hblk;have HL0:=h! (show w0.heap.size<=w.heap.size+1 from by have:=HS0.out.X.size;omega);generalize hn1:ps.length=n1 at *;generalize hn2:fs.length=n2 at *;clear hX hbg hblk hgr;rcases hP with⟨n,hwe,rfl,rfl,rfl⟩ | ⟨hlg,rfl,rfl,rfl⟩
  case' inr =>
   have HLG:=h! hlg;have c4:=HBL.out.cells;have c5:=BR.out.cells;have f5:=BR.out.free;clear hn1 hn2 hlg;go_wp2_with fail
   clear c4 c5 f5;have b8:=BR.out.set_to (cs':=#[.slice po_ n1 pc_,.slice none 0 0]) 0 (.slice po_ n1 pc_) rfl;have B9:=b8.set_to (cs':=#[.slice po_ n1 pc_,.slice fo_ n2 fc_]) 1 (.slice fo_ n2 fc_) rfl;have XF:Ext w ((W.setCell ⟨w.heap.size+1,0,none⟩ (.slice po_ n1 pc_)).setCell ⟨w.heap.size+1,1,none⟩ (.slice fo_ n2 fc_)):=Below.setCell (Below.setCell XW.out (p:=⟨w.heap.size+1,0,none⟩) (Nat.le_succ _) _) (p:=⟨w.heap.size+1,1,none⟩) (Nat.le_succ _) _;refine bodyPost_ret (v := .tuple #[.agg #[.slice po_ n1 pc_,.slice fo_ n2 fc_],.int .i64 10]) ?_ rfl ⟨⟨lg,((HS.out.set BR.out (.inr (Nat.le_succ _)) HL0.out (by decide) _).set b8 (.inr (Nat.le_succ _)) HL0.out (by decide) _).less fun _ h => .inl h⟩,A2.of XF,.inr ⟨HLG.out,_,_,_,_,_,_,rfl⟩⟩;rw[results_cell_tmp rfl];have hl:=run_loadVar_row (P:=Tryz.prog) _ (w.heap.size+1) _ 96 _ _ _ B9 Tryz.underlying96 rfl (by kernel_rfl);simp[asAddr,hl,Result.andThen]
  case' inl =>
   have HWE:=h! hwe;clear hwe hn1 hn2;go_wp2_with fail
   obtain⟨we,hwe⟩:∃ we,Hid (we=World.drew W):=⟨_,h! rfl⟩;have hxe:=h! (show Ext W we from by rw[hwe.out];exact Ext.drew _);refine r! (Kept (· ≠ gm) we) (by rw[<- hwe.out];exact Kept.refl _ _) ?_;rw[<- hwe.out];have HS:=h! ((HS.out.up hxe.out).less (M':=fun b=>M b\/b=w.heap.size+1) fun b hb=>hb.imp id fun e=>by omega);have BP:=h! (BP.out.below hxe.out);have BR:=h! (BR.out.below hxe.out);have HBL:=h! (HBL.out.below hxe.out);have XW:=h! (Ext.trans XW.out hxe.out);have HGM:=h! (show gm<w.heap.size/\km<w.heap.size from⟨HS0.out.gs.lt,HS0.out.ks.lt⟩);have HGR:=h! ((HGR.out.same fun x hx=>hxe.out.block x hx.2.2).mono (T:=fun x=>x≠bg/\wd.heap.size<=x/\x<we.heap.size) fun x hx=>⟨hx.1,hx.2.1,Nat.lt_of_lt_of_le hx.2.2 hxe.out.size⟩);clear hwe hxe;have k1:=fun W' (h:Kept (· ≠ gm) we W')=>(h.blk HS.out.box HS.out.xbNe.1).cells;have k2:=fun W' (h:Kept (· ≠ gm) we W')=>(h.blk BP.out (by have:=HGM.out.1;omega)).cells;have k3:=fun W' (h:Kept (· ≠ gm) we W')=>(h.blk HBL.out (fun e=>HS.out.gs.notCells _ _ _ (e▸HBL.out))).cells;(refine WalkN.tk [0,1,2,3,4,5] ?_;(iterate 6 (refine c! ?_));refine TkN.n ?_)
   clear k1 k2 k3;obtain⟨wf,hrun,hMf,hTf⟩:=HS.out.gs.store pointK pV_inj Tryz.underlying261 HKY.out (.slice po_ n1 pc_,.slice fo_ n2 fc_);unfold pV g2V at hrun;dsimp only at hrun;refine o! 6 ?_;refine b! ?_;intro K hK;go_simp;refine hK.out _ _ hTf.kept ?_;clear hK hrun;refine d! ?_;have HSF:=h! (HS.out.putG HWE.out (HGR.out.mono fun x hx=>⟨hx.2.2,by have h3:=HGM.out;have h4:=hx.2.1;have h5:=HBG.out;omega,by have h3:=HGM.out;have h4:=hx.2.1;have h5:=HBG.out;omega,fun e=>by have h4:=hx.2.1;have h5:=HBG.out;exact e.elim (fun e=>by have:=HMM.out _ e;omega) fun e=>by omega⟩) hTf hMf);have BLF:=h! (hTf.kept.blk HBL.out (fun e=>HS.out.gs.notCells _ _ _ (e▸HBL.out)));have BRF:=h! (hTf.kept.blk BR.out (by have:=HGM.out.1;omega));have A2F:=h! ((A2.of (gm:=gm) (km:=km) XW.out).next (A2.turnG hTf));have HGF:=h! (HGR.out.same (w':=wf) fun x hx=>hTf.kept.block x (by have h3:=HGM.out;have h4:=hx.2.1;have h5:=HBG.out;omega));have HSZ:=h! hTf.size;have c4:=BLF.out.cells;have c5:=BRF.out.cells;have f5:=BRF.out.free;clear hMf hTf;go_wp2_with fail
   clear c4 c5 f5;have b8:=BRF.out.set_to (cs':=#[.slice po_ n1 pc_,.slice none 0 0]) 0 (.slice po_ n1 pc_) rfl;have B9:=b8.set_to (cs':=#[.slice po_ n1 pc_,.slice fo_ n2 fc_]) 1 (.slice fo_ n2 fc_) rfl;have HFS:∀ x,x≠w.heap.size+1->((wf.setCell ⟨w.heap.size+1,0,none⟩ (.slice po_ n1 pc_)).setCell ⟨w.heap.size+1,1,none⟩ (.slice fo_ n2 fc_)).heap[x]?=wf.heap[x]?:=fun x hx=>by rw[Below.heap_setCell _ _ _ x hx,Below.heap_setCell _ _ _ x hx]
   refine bodyPost_ret (v := .tuple #[.agg #[.slice po_ n1 pc_,.slice fo_ n2 fc_],.int .i64 0]) ?_ rfl ⟨⟨_,((HSF.out.set BRF.out (.inr rfl) HL0.out (by decide) _).set b8 (.inr rfl) HL0.out (by decide) _).less fun _ h => .inl h⟩,(A2F.out.set (fun h=>by have h1:w.heap.size+1<w.heap.size:=h.1;omega) _).set (fun h=>by have h1:w.heap.size+1<w.heap.size:=h.1;omega) _,.inl ⟨n,_,_,HWE.out,rfl,?_⟩⟩
   ·rw[results_cell_tmp rfl];have hl:=run_loadVar_row (P:=Tryz.prog) _ (w.heap.size+1) _ 96 _ _ _ B9 Tryz.underlying96 rfl (by kernel_rfl);simp[asAddr,hl,Result.andThen]
   ·refine(HGF.out.same fun x hx=>HFS x (by have h4:=hx.2.1;have h5:=HBG.out;omega)).mono fun x hx=>⟨?_,by have h3:=HGM.out;have h4:=hx.2.1;have h5:=HBG.out;omega,by have h3:=HGM.out;have h4:=hx.2.1;have h5:=HBG.out;omega,id⟩;have h4:=hx.2.2;have h5:=HSZ.out;simp;omega
def AskSaid (ts:List TyS)(T:List Tup)(shut:List R2)(p s:P3)(most:Int)(e:Ending):Prop :=
 ((∃ n,WalkEnd ts T shut p most n)/\∃ b,e = .returned (.tuple #[.bool b,.int .i64 0])/\(b=true↔Den ts T shut s p))\/(WalkLong ts T shut p most/\e = .returned (.tuple #[.bool false,.int .i64 10]))
theorem A2.blk {gm km:Nat} {w w':World} (h:A2 gm km w w') {b:Nat} {cs:Array Value} {t:TypeId} (hb:Blk w b cs t)(h1:b≠gm)(h2:b≠km):Blk w' b cs t:=Kept.blk h hb ⟨hb.lt,h1,h2⟩
theorem ask_any {M:Nat->Prop} {w0:World} {xb gm km ct b:Nat} {ao:Option Addr} {sv:Value} {most:Int} {ts:List TyS} {T:List Tup} {shut:List R2} {lg:List (P3 × G2)} {lk:List (AQ × Bool)} (hI:AskIn w0 ts (.slice ao ts.length ct) b T shut sv)(p s:P3)(w:World)(h:AskrAt M w0 w xb gm km (.slice ao ts.length ct) (bkV b) sv most ts T shut lg lk)(hM:∀ b,M b->b<w.heap.size)(hA:HasArg ts T shut p)(hp:p.Ok)(hs:s.Ok) :
  Calls Tryz.prog 157 #[.pointer (some ⟨xb,0,none⟩),.agg (aC p s)] w fun e w'=>(∃ lg' lk',AskrAt M w0 w' xb gm km (.slice ao ts.length ct) (bkV b) sv most ts T shut lg' lk')/\A2 gm km w w'/\AskSaid ts T shut p s most e:=by
 have HS0:=h! h;have HA:=h! hA;have HP:=h! hp;have HSK:=h! hs;have HKY:=h! (ask_key (p,s) hp hs);obtain⟨wa,hwa⟩:∃ x,x=w.alloc (.cells (aC p s) 35):=⟨_,rfl⟩;have XA:=h! (show Ext w wa from by rw[hwa];exact Ext.alloc _ _);have BA:=h! (show Blk wa w.heap.size (aC p s) 35 from by rw[hwa];exact Blk.made _ _ _);have HS:=h! (HS0.out.up XA.out);have HGC:=h! (graph_any hI p wa HS.out (fun b hb=>Nat.lt_of_lt_of_le (hM b hb) XA.out.size) hA hp);have HNA:=h! (show w.heap.size≠gm/\w.heap.size≠km from⟨by have:=HS0.out.gs.lt;omega,by have:=HS0.out.ks.lt;omega⟩);have hAc:=BA.out.cells;clear hI h hA hp hs hM;unfold pV at HGC;unfold aC at *;subst hwa;go_enter Tryz.func157,Tryz.ntmps157
 go_wp2_with fail
 refine HGC.out.mono ?_;rintro e w1 ⟨⟨lg1,hS1⟩,hk1,⟨n,pv,fv,hwe,rfl,hgr⟩ | ⟨hlg,po,pn,pc,fo,fn,fc,rfl⟩⟩
 case' inr =>
  have HLG:=h! hlg;have K2:=h! (show A2 gm km w (w1.alloc (.cells #[.slice po pn pc,.slice fo fn fc] 96))from((A2.of XA.out).next hk1).next (A2.of (Ext.alloc _ _)));have S2:=h! (hS1.up (Ext.alloc w1 (.cells #[.slice po pn pc,.slice fo fn fc] 96)));clear hS1 hk1 hlg hAc HGC;go_wp2_with fail
  go_ret2
  exact⟨⟨lg1,lk,S2.out⟩,K2.out,.inr ⟨HLG.out,rfl⟩⟩
 case' inl =>
  obtain⟨po,pc,fo,fc,rfl,rfl⟩:=hgr.shape;have HE:=h! hwe;have HLN:=h! (show(walkN ts T shut p n).1.length=n from hwe.2.symm);have HFL:=h! (show(walkN ts T shut p n).2.length=n from walkN_forms ts T shut p n);have HN:=h! (show n<=1000000 from by have:=HA.out.wk.few n;rw[HLN.out]at this;exact this)
  have HNN:=h! (show(nmdL (walkN ts T shut p n).2).length<=1000000000000 from by
   have h1:=walkN_named HA.out.rm shut p n;have h2:n*1000000<=1000000*1000000:=Nat.mul_le_mul_right _ HN.out;omega)
  have HP0:=h! (walkN_first ts T shut p n);have HPK:=h! (HA.out.wk.okp n);have HDA:=h! (fun(i:Nat) (q:P3) (hq:(walkN ts T shut p n).1[i]?=some q)=>hwe.den_at (walkN_nodup ts T shut p n) s hq);rw[HLN.out,HFL.out]at hgr ⊢;generalize (walkN ts T shut p n).1=ps at *;generalize (walkN ts T shut p n).2=fs at *;have X2:=h! (Ext.alloc w1 (.cells #[.slice po n pc,.slice fo n fc] 96));have S2:=h! (hS1.up X2.out);have K2:=h! (((A2.of XA.out).next hk1).next (A2.of X2.out));have GR2:=h! ((A2.of (gm:=gm) (km:=km) X2.out).gr hgr);have BA2:=h! ((hk1.blk BA.out HNA.out.1 HNA.out.2).below X2.out);have BG2:=h! (Blk.made w1 #[.slice po n pc,.slice fo n fc] 96);have HNG:=h! (show w1.heap.size≠gm/\w1.heap.size≠km from⟨by have:=hS1.gs.lt;omega,by have:=hS1.ks.lt;omega⟩);clear hS1 hk1 hwe hgr hAc HGC BA HS XA;go_wp2_with fail
  obtain⟨w2,hw2⟩:∃ y,y=w1.alloc (.cells #[.slice po n pc,.slice fo n fc] 96):=⟨_,rfl⟩;rw[<- hw2]at S2 K2 GR2 BA2 BG2 ⊢;clear hw2 X2;generalize w1.heap.size=gb at *;generalize w.heap.size=ab at *;obtain⟨wd,hwd⟩:∃ wd,Hid (wd=World.drew w2):=⟨_,h! rfl⟩;have hxd:=h! (show Ext w2 wd from by rw[hwd.out];exact Ext.drew _);refine r! (Ext wd) (by rw[<- hwd.out];exact Ext.refl _) ?_;rw[<- hwd.out];have S2:=h! (S2.out.up hxd.out);have K2:=h! (K2.out.next (A2.of hxd.out));have GR2:=h! ((A2.of (gm:=gm) (km:=km) hxd.out).gr GR2.out);have BA2:=h! (BA2.out.below hxd.out);have BG2:=h! (BG2.out.below hxd.out);clear hwd hxd;have k1:=fun W (h:Ext wd W)=>(S2.out.box.below h).cells;have k2:=fun W (h:Ext wd W)=>(BA2.out.below h).cells;have hlook:=fun W (h:Ext wd W)=>(S2.out.ks.below h).look askK aV_inj Tryz.underlying262 (Tryz.zeroValue4 W) true HKY.out
  obtain⟨yes,found,hlv,hyes⟩:∃ yes found:Bool,lookV true (.bool false) bV (lookA lk (p,s)) = .tuple #[.bool yes,.bool found]/\(found=true->(yes=true↔Den ts T shut s p)):=by
   cases hl:lookA lk (p,s) with
   | none=>exact⟨false,false,rfl,fun e=>by cases e⟩
   | some x=>exact⟨x,true,rfl,fun _=>S2.out.kok _ (look_mem hl)⟩
  have HYES:=h! hyes;try rw[hlv]at hlook
  unfold aV aC at hlook;dsimp only at hlook;clear hlv hyes;(refine WalkN.tk [0,1,2,3,4,5,6,7,8,9,10] ?_;(iterate 11 (refine c! ?_));refine TkN.n ?_)
  clear k1 k2 hlook;refine d! ?_;cases found with
  | true =>
   go_wp2_with fail
   go_ret2
   exact⟨⟨lg1,lk,S2.out⟩,K2.out,.inl ⟨⟨n,HE.out⟩,yes,rfl,by first | exact HYES.out rfl | exact HYES.out trivial⟩⟩
  | false =>
   have HSV:=h! (solveP_any s ps fs (.slice po n pc) (.slice fo n fc) wd (GR2.out.mono fun x hx=>hx.1) (by rw[HLN.out];exact HN.out) (by rw[HFL.out];exact HN.out) HNN.out);rw[HLN.out]at HSV;unfold pV at HSV;have k1:=BA2.out.cells;have k2:=BG2.out.cells;clear HYES;go_wp2_with fail
   clear k1 k2;refine HSV.out.mono ?_;rintro e w3 ⟨⟨v,rfl,ho⟩,hx3⟩;have S3:=h! (S2.out.up hx3);have K3:=h! (K2.out.next (A2.of hx3));have GR3:=h! ((A2.of (gm:=gm) (km:=km) hx3).gr GR2.out);have BA3:=h! (BA2.out.below hx3);have BG3:=h! (BG2.out.below hx3);have HRL:=h! (show(solveR fs s n).length=n from outN_length n);have HVS:=h! ((ho.sl).mono (T:=fun x=>x<w3.heap.size/\x≠gm/\x≠km) fun x hx=>⟨hx.2,by have:=S2.out.gs.lt;have:=hx.1;omega,by have:=S2.out.ks.lt;have:=hx.1;omega⟩);obtain⟨vo,vn,vc,rfl,hvn,-,-⟩:=ho.sl.len;rw[ic_length,Nat.mul_one,HRL.out]at hvn;subst hvn;clear ho hx3 HSV S2 K2 GR2 BA2 BG2;generalize solveR fs s n=R at *;go_wp2_with fail
   go_loopw [38] (fun jv wr=>∃ (i:Nat) (lk':List (AQ × Bool)),i<=n/\jv = .int .i64 i/\AskrAt M w0 wr xb gm km (.slice ao ts.length ct) (bkV b) sv most ts T shut lg1 lk'/\A2 gm km w3 wr/\(0<i->∃ b,lookA lk' (p,s)=some b)) (fun jv _=>n-(intOf jv).toNat)
   case atStart=>exact⟨0,lk,Nat.zero_le _,rfl,S3.out,A2.refl _ _ _,fun h=>absurd h (Nat.lt_irrefl _)⟩
   case round =>
    obtain⟨i,lk1,hi,rfl,hS,hk,hf⟩:=hrel;have S4:=h! hS;have K4:=h! hk;have HFD:=h! hf;clear hS hk hf S3;by_cases hlt:i<n
    ·have HLT:=h! hlt;have HWI:=h! (show wrap64 ((i:Int)+1)=((i+1:Nat):Int)from by have:=HN.out;unfold wrap64;omega);have hli:(i:Int)<(n:Int):=by omega
     have hiR:i<R.length:=by rw[HRL.out];exact hlt
     have hip:i<ps.length:=by rw[HLN.out];exact hlt
     obtain⟨vb,voff,rfl,hvb,c0⟩:=HVS.out.int_at hiR;have d0:=(World.cell?_of_block (a:=⟨vb,voff+i,none⟩) (K4.out.block vb hvb)).trans c0
     obtain⟨pb,poff,rfl,hpb,g5⟩:∃ pb poff,po=some ⟨pb,poff,none⟩/\A2S gm km (fun _=>False) w3 pb/\∀ (j:Nat) u,(pC ps[i])[j]?=some u->w3.cell? ⟨pb,poff+i*3+j,none⟩=some u:=by
      obtain⟨_,_,e,-,-,hcel⟩:=Sl.rows pC_length (by decide) (show Sl _ w3 3 _ (ps.flatMap pC)from GR3.out.1);obtain⟨b,off,rfl,hbl,hcel⟩:=hcel (by omega);cases e;exact⟨b,off,rfl,hbl,fun j u hj=>hcel i hip j u hj⟩
     have HQ:=h! (show ps[i]?=some ps[i]from List.getElem?_eq_getElem hip);have HQK:=h! (HPK.out _ (List.getElem_mem hip));have HD:=h! (show(decide (0<R[i])=true↔Den ts T shut s ps[i])from by rw[HDA.out i _ HQ.out,decide_eq_true_eq,List.getD_eq_getElem?_getD,List.getElem?_eq_getElem hiR];rfl);have HFI:=h! (show i=0->ps[i]=p from fun e=>by have h1:=HP0.out;have h2:=HQ.out;subst e;rw[h1]at h2;exact(Option.some.inj h2).symm);generalize ps[i]=q at *;generalize R[i]=r at *;clear hlt hvb c0;go_wp2_with fail
     clear d0;obtain⟨we,hwe⟩:∃ we,Hid (we=World.drew wr):=⟨_,h! rfl⟩;have hxe:=h! (show Ext wr we from by rw[hwe.out];exact Ext.drew _);refine r! (Kept (· ≠ km) we) (by rw[<- hwe.out];exact Kept.refl _ _) ?_;rw[<- hwe.out];have S5:=h! (S4.out.up hxe.out);have K5:=h! (K4.out.next (A2.of hxe.out));have BG5:=h! (K5.out.blk BG3.out HNG.out.1 HNG.out.2);have BA5:=h! (K5.out.blk BA3.out HNA.out.1 HNA.out.2);clear hwe hxe;have k1:=fun W (h:Kept (· ≠ km) we W)=>(h.blk S5.out.box S5.out.xbNe.2).cells;have k2:=fun W (h:Kept (· ≠ km) we W)=>(h.blk BG5.out HNG.out.2).cells;have k3:=fun W (h:Kept (· ≠ km) we W)=>(h.blk BA5.out HNA.out.2).cells;have g6:∀ W,Kept (· ≠ km) we W->∀ (j:Nat) u,(pC q)[j]?=some u->W.cell? ⟨pb,poff+i*3+j,none⟩=some u:=fun W h j u hj=>(World.cell?_of_block (a:=⟨pb,poff+i*3+j,none⟩) ((h.block pb hpb.2.2.1).trans (K5.out.block pb ⟨hpb.1,hpb.2.1,hpb.2.2.1⟩))).trans (g5 j u hj);have q0:∀ W,Kept (· ≠ km) we W->W.cell? ⟨pb,poff+i*3,none⟩=some (.string q.t):=fun W h=>g6 W h 0 _ rfl;have q1:=fun W (h:Kept (· ≠ km) we W)=>g6 W h 1 _ rfl;have q2:=fun W (h:Kept (· ≠ km) we W)=>g6 W h 2 _ rfl;clear g5 g6 hpb;(refine WalkN.tk [0,1,2,3,4,5,6,7,8,9,10,11,12,13] ?_;(iterate 14 (refine c! ?_));refine TkN.n ?_)
     clear k1 k2 k3 q0 q1 q2;obtain⟨wf,hrun,hMf,hTf⟩:=S5.out.ks.store askK aV_inj Tryz.underlying262 (ask_key (q,s) HQK.out HSK.out) (decide (0<r));unfold aV aC bV at hrun;dsimp only at hrun;refine o! 14 ?_;refine b! ?_;intro K hK;go_simp;refine hK.out _ _ hTf.kept ?_;clear hK hrun;refine d! ?_;have S6:=h! (S5.out.putK (a:=(q,s)) HD.out hTf hMf);have K6:=h! (K5.out.next (A2.turnK hTf))
     have F6:=h! (show ∃ b,lookA (putA lk1 (q,s) (decide (0<r))) (p,s)=some b from by
      rw[look_put];by_cases e:((q,s):AQ)=(p,s)
      ·exact⟨_,if_pos e⟩
      ·rw[if_neg e];exact HFD.out (Nat.pos_of_ne_zero fun e2=>e (by rw[HFI.out e2])))
     clear hTf hMf;go_wp2_with fail
     go_roundw
     case rel=>exact⟨i+1,_,HLT.out,by first | rw[HWI.out] | go_num,S6.out,K6.out,fun _=>F6.out⟩
     case measure=>have:=HLT.out;(try rw[HWI.out]);simp[intOf];omega
    ·obtain rfl:i=n:=by omega
     have HPO:=h! (show 0<i from by
      have h1:=HP0.out;have h2:=(List.getElem?_eq_some_iff.1 h1).1;rw[HLN.out]at h2;exact h2)
     obtain⟨yes,hyes⟩:=HFD.out HPO.out;have HY:=h! (S4.out.kok _ (look_mem hyes));have HYL:=h! hyes;clear hyes hlt hi;go_wp2_with fail
     obtain⟨we,hwe⟩:∃ we,Hid (we=World.drew wr):=⟨_,h! rfl⟩;have hxe:=h! (show Ext wr we from by rw[hwe.out];exact Ext.drew _);refine r! (Ext we) (by rw[<- hwe.out];exact Ext.refl _) ?_;rw[<- hwe.out];have S5:=h! (S4.out.up hxe.out);have K5:=h! (K4.out.next (A2.of hxe.out));have BA5:=h! (K5.out.blk BA3.out HNA.out.1 HNA.out.2);clear hwe hxe;have k1:=fun W (h:Ext we W)=>(S5.out.box.below h).cells;have k2:=fun W (h:Ext we W)=>(BA5.out.below h).cells;have hlook:=fun W (h:Ext we W)=>(S5.out.ks.below h).look askK aV_inj Tryz.underlying262 (Tryz.zeroValue4 W) false HKY.out;rw[HYL.out]at hlook;unfold lookV aV aC bV at hlook;dsimp only at hlook;(refine WalkN.tk [0,1,2,3,4,5,6,7] ?_;(iterate 8 (refine c! ?_));refine TkN.n ?_)
     refine d! ?_;clear k1 k2 hlook;go_wp2_with fail
     go_ret2
     exact⟨⟨lg1,_,S5.out⟩,K3.out.next K5.out,.inl ⟨⟨_,HE.out⟩,yes,rfl,HY.out⟩⟩
theorem boolsT:ElemT Tryz.prog 74 4 1 1:=ElemT.mk' Tryz.underlying74 (show _=some (some (.bool false),1,1)by kernel_rfl) rfl (by decide)
def aqC (a:AQ):List Value:=[.string a.1.t,.string a.1.i,.string a.1.r,.string a.2.t,.string a.2.i,.string a.2.r]
theorem aqC_length (a:AQ):(aqC a).length=6:=rfl
noncomputable def denA (ts:List TyS) (T:List Tup) (shut:List R2) (a:AQ):Bool:=@decide (Den ts T shut a.2 a.1) (Classical.propDecidable _)
theorem denA_iff {ts:List TyS} {T:List Tup} {shut:List R2} {a:AQ}:denA ts T shut a=true↔Den ts T shut a.2 a.1:=by unfold denA;simp
def AllSaid (ts:List TyS)(T:List Tup)(shut:List R2)(l:List AQ)(most:Int)(lo:Nat)(v:Value)(e:Ending)(w':World):Prop :=
 ((∀ a∈l,∃ n,WalkEnd ts T shut a.1 most n)/\e = .returned (.tuple #[v,.int .i64 0])/\Own w' lo 4 1 v (boC (l.map (denA ts T shut))))\/((∃ a∈l,WalkLong ts T shut a.1 most)/\v = .slice none 0 0/\e = .returned (.tuple #[v,.int .i64 10]))
theorem AskrAt.grown {M M':Nat->Prop} {w0 w w':World} {xb gm km:Nat} {tc fi sv:Value} {most:Int} {ts:List TyS} {T:List Tup} {shut:List R2} {lg:List (P3 × G2)} {lk:List (AQ × Bool)} (h:AskrAt M w0 w xb gm km tc fi sv most ts T shut lg lk) {B sz:Nat} {e:TypeId} {v:Value} {xs:List Value} (ho:Own w B e sz v xs)(hg:w.grownBy w' v.ownBlock)
  (hM:∀ b,v.ownBlock=some b->M b) (he:e≠264) (hB:w0.heap.size<=B) (hM':∀ b,M' b->M b\/w.heap.size<=b):AskrAt M' w0 w' xb gm km tc fi sv most ts T shut lg lk:=by
 refine⟨grown_below h.X (ho.mono hB) hg h.X.size,h.lo,(hg.block xb h.box.lt fun e2=>?_).trans h.box,h.gs.same (hg.block gm h.gs.lt fun e=>ho.notMap h.gs.notCells gm e.symm rfl),h.ks.same (hg.block km h.ks.lt fun e=>ho.notMap h.ks.notCells km e.symm rfl),fun e2 he2=>?_,h.kok,h.ne⟩
 ·obtain⟨c,hc⟩:=ho.typed e2.symm;rw[show w.heap[xb]?=_ from h.box]at hc;injection hc with hc
  injection hc with _ hc _
  exact he hc.symm
 ·obtain⟨n,h1,h2⟩:=h.gok e2 he2;refine⟨n,h1,(h2.same fun b hb=>hg.block b hb.1 fun e=>hb.2.2.2 (hM b e.symm)).mono fun b hb=>⟨Nat.lt_of_lt_of_le hb.1 hg.size,hb.2.1,hb.2.2.1,fun e=>(hM' b e).elim hb.2.2.2 fun e=>by have:=hb.1;omega⟩⟩
theorem Own.a2 {gm km:Nat} {w w':World} {B sz:Nat} {e:TypeId} {v:Value} {xs:List Value} (h:Own w B e sz v xs)(hk:A2 gm km w w')(h1:∀ cs t fr,w.heap[gm]?≠some (.cells cs t fr))(h2:∀ cs t fr,w.heap[km]?≠some (.cells cs t fr)):Own w' B e sz v xs :=
 h.keepOwn fun g hg=>hk.block g ⟨(h.block g hg).2,h.notMap h1 g hg,h.notMap h2 g hg⟩
theorem all_any {M:Nat->Prop} {w0:World} {xb gm km ct b:Nat} {ao:Option Addr} {sv:Value} {most:Int} {ts:List TyS} {T:List Tup} {shut:List R2} {lg:List (P3 × G2)} {lk:List (AQ × Bool)} (hI:AskIn w0 ts (.slice ao ts.length ct) b T shut sv)(l:List AQ)(lv:Value)(w:World)(h:AskrAt M w0 w xb gm km (.slice ao ts.length ct) (bkV b) sv most ts T shut lg lk)(hM:∀ b,M b->b<w.heap.size)
  (hl:Sl (fun x=>x<w.heap.size/\x≠gm/\x≠km) w 6 lv (l.flatMap aqC)) (hA:∀ a∈l,HasArg ts T shut a.1/\a.1.Ok/\a.2.Ok) (hll:l.length<=1000000) :
  Calls Tryz.prog 102 #[.pointer (some ⟨xb,0,none⟩),lv] w fun e w'=>(∃ v lg' lk',AskrAt (fun b=>M b\/v.ownBlock=some b) w0 w' xb gm km (.slice ao ts.length ct) (bkV b) sv most ts T shut lg' lk'/\AllSaid ts T shut l most w.heap.size v e w')/\A2 gm km w w':=by
 have HI:=h! hI;have HS0:=h! h;have HMM:=h! hM;have HA:=h! hA;have HLL:=h! hll;have HL:=h! hl;obtain⟨lo,c,rfl,-⟩:=Sl.rows aqC_length (by decide) hl;have hmf:∀ (fn:Fn) (first cap:Array Value) (w:World),(Instr.makeFunc fn first cap).run Tryz.prog w = .ok (.func fn first cap) w:=fun _ _ _ _=>rfl;clear hI h hM hA hll hl;go_enter Tryz.func102,Tryz.ntmps102
 go_wp2_with fail
 clear hmf;go_loopw [6,16] (fun ov jv wr=>∃ (i:Nat) (lg':List (P3 × G2)) (lk':List (AQ × Bool)),i<=l.length/\jv = .int .i64 i/\AskrAt (fun b=>M b\/ov.ownBlock=some b) w0 wr xb gm km (.slice ao ts.length ct) (bkV b) sv most ts T shut lg' lk'/\Own wr w.heap.size 4 1 ov (boC ((l.take i).map (denA ts T shut)))/\A2 gm km w wr/\∀ a∈l.take i,∃ n,WalkEnd ts T shut a.1 most n) (fun _ jv _=>l.length-(intOf jv).toNat)
 case atStart=>exact⟨0,lg,lk,Nat.zero_le _,rfl,(HS0.out.less fun b hb=>hb.elim id fun e=>by cases e),Own.nil _ _ _ _,A2.refl _ _ _,fun a ha=>by simp at ha⟩
 case round =>
  obtain⟨i,lg1,lk1,hi,rfl,hS,ho,hk,hw⟩:=hrel;have S1:=h! hS;have O1:=h! ho;have K1:=h! hk;have HW:=h! hw;obtain⟨vo,vn,vc,rfl,hvn,-,-⟩:=ho.sl.len;rw[boC_length,Nat.mul_one,List.length_map]at hvn;have HVN:=h! (show vn=i from by rw[<- hvn,List.length_take];omega);clear hS ho hk hw hvn;by_cases hlt:i<l.length
  ·have HLT:=h! hlt;have HWI:=h! (show wrap64 ((i:Int)+1)=((i+1:Nat):Int)from by have:=HLL.out;unfold wrap64;omega);have hli:(i:Int)<(l.length:Int):=by omega
   obtain⟨pb,poff,rfl,g5⟩:∃ pb poff,lo=some ⟨pb,poff,none⟩/\∀ (j:Nat) u,(aqC l[i])[j]?=some u->wr.cell? ⟨pb,poff+i*6+j,none⟩=some u:=by
    obtain⟨_,_,e,-,-,hcel⟩:=Sl.rows aqC_length (by decide) HL.out;obtain⟨b,off,rfl,hbl,hcel⟩:=hcel (by omega);cases e;exact⟨b,off,rfl,fun j u hj=>(World.cell?_of_block (a:=⟨b,off+i*6+j,none⟩) (K1.out.block b hbl)).trans (hcel i hlt j u hj)⟩
   have HNX:=h! (List.take_succ_eq_append_getElem hlt);have HQ:=h! (HA.out _ (List.getElem_mem hlt));generalize l[i]=a at *;have q0:wr.cell? ⟨pb,poff+i*6,none⟩=some (.string a.1.t):=g5 0 _ rfl;have q1:=g5 1 _ rfl;have q2:=g5 2 _ rfl;have q3:=g5 3 _ rfl;have q4:=g5 4 _ rfl;have q5:=g5 5 _ rfl;have X5:=h! (Ext.alloc wr (.cells (aC a.1 a.2) 35));have S5:=h! (S1.out.up X5.out);have HCL:=h! (ask_any HI.out a.1 a.2 _ S5.out (fun b hb=>hb.elim (fun e=>Nat.lt_of_lt_of_le (Nat.lt_of_lt_of_le (HMM.out b e) K1.out.size) X5.out.size) fun e=>Nat.lt_of_lt_of_le (O1.out.block b e).2 X5.out.size) HQ.out.1 HQ.out.2.1 HQ.out.2.2);have B5:=(Blk.made wr (aC a.1 a.2) 35).cells;unfold aC at *;clear g5 hlt;go_wp2_with fail
   clear q0 q1 q2 q3 q4 q5 B5;refine HCL.out.mono ?_;rintro e w6 ⟨⟨lg2,lk2,hS6⟩,hk6,⟨hwe,yes,rfl,hyes⟩ | ⟨hlg,rfl⟩⟩
   case' inr =>
    have HLG:=h! (show ∃ a∈l,WalkLong ts T shut a.1 most from⟨a,by
     have h1:=List.mem_of_mem_take (show a∈l.take (i+1)from by rw[HNX.out];simp);exact h1,hlg⟩)
    have S6:=h! (hS6.less (M':=fun b=>M b\/Value.ownBlock (.slice none 0 0)=some b) fun b hb=>hb.imp id fun e=>by cases e);have K6:=h! ((K1.out.next (A2.of X5.out)).next hk6);clear hS6 hk6 hlg HCL;go_wp2_with fail
    go_ret2
    exact⟨⟨_,lg2,lk2,S6.out,.inr ⟨HLG.out,rfl,rfl⟩⟩,K6.out⟩
   case' inl =>
    have S6:=h! hS6;have K6:=h! ((K1.out.next (A2.of X5.out)).next hk6);have O6:=h! ((O1.out.below X5.out).a2 hk6 S5.out.gs.notCells S5.out.ks.notCells)
    have HW6:=h! (show ∀ a∈l.take (i+1),∃ n,WalkEnd ts T shut a.1 most n from fun x hx=>by
     rw[HNX.out]at hx;rcases List.mem_append.1 hx with hx | hx
     ·exact HW.out x hx
     ·rw[List.mem_singleton.1 hx];exact hwe)
    have HY:=h! (show denA ts T shut a=yes from by rw[Bool.eq_iff_iff,denA_iff,hyes]);clear hS6 hk6 hwe hyes HCL;have X7:=h! (Ext.alloc w6 (.cells #[.bool yes] 4));have O7:=h! (O6.out.below X7.out);have S7:=h! (S6.out.up X7.out);have HWS:=h! (show w.heap.size<=w6.heap.size/\w0.heap.size<=w.heap.size from⟨K6.out.size,HS0.out.X.size⟩);go_wp2_with (at_builtin;go_must (refine wpList_ownw boolsT rfl _ _ rfl rfl O7.out rfl (m:=1) (news:=[.bool yes]) rfl (by intro j u hu;rw[Addr.add_lit,cell_of_row _ w6.heap.size (0+j) #[.bool yes] 4 (0,0) (heap_alloc_new w6 _)];simpa using hu) (by simp[Value.oneCell']) (by have:=HLL.out;have:=HLT.out;rw[boC_length,List.length_map,List.length_take];simp;omega) (by have:=HLL.out;have:=HLT.out;rw[boC_length,List.length_map,List.length_take];simp;omega) (by have:=HWS.out.1;have:=X7.out.size;omega) ?_;intro v8 w8 hown8 hbx8 hg8;have HO8:=h! hown8;have S8:=h! (S7.out.grown (M':=fun b=>M b\/v8.ownBlock=some b) O7.out hg8 (fun _ e => .inr e) (by decide) HWS.out.2 (fun b hb=>hb.elim (fun e => .inl (.inl e)) fun e=>(hbx8 b e).imp .inr id));have K8:=h! (show A2 gm km w w8 from⟨hg8.os.trans (K6.out.next (A2.of X7.out)).os,hg8.tape.trans (K6.out.next (A2.of X7.out)).tape,hg8.output.trans (K6.out.next (A2.of X7.out)).output,Nat.le_trans (K6.out.next (A2.of X7.out)).size hg8.size,fun x hx=>(hg8.block x (Nat.lt_of_lt_of_le hx.1 (K6.out.next (A2.of X7.out)).size) fun e=>by have:=(O7.out.block x e.symm).1;have:=hx.1;omega).trans ((K6.out.next (A2.of X7.out)).block x hx)⟩);clear hown8 hbx8 hg8))
    go_roundw
    case rel=>exact⟨i+1,lg2,lk2,HLT.out,by first | rw[HWI.out] | go_num,S8.out,by rw[HNX.out,List.map_append,show boC ((l.take i).map (denA ts T shut)++[a].map (denA ts T shut))=boC ((l.take i).map (denA ts T shut))++[.bool yes]from by simp[boC,HY.out]];exact HO8.out,K8.out,HW6.out⟩
    case measure=>have:=HLT.out;(try rw[HWI.out]);simp[intOf];omega
  ·obtain rfl:i=l.length:=by omega
   rw[List.take_length]at O1 HW;go_wp2_with fail
   go_ret2
   exact⟨⟨_,lg1,lk1,S1.out,.inl ⟨HW.out,rfl,O1.out⟩⟩,K1.out⟩
end Go.Proofs.YtlhaghoajpglaaaGreat
