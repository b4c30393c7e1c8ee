/- Lemmas for the claim, no condition. -/
import Derived.Test.YtlhaghoajpglaaaGreatYPrMore16
import Derived.Sort.MapsRangeIn
set_option maxRecDepth 100000
set_option maxHeartbeats 2000000
namespace Go.Proofs.YtlhaghoajpglaaaGreat
open Go Go.Maps Go.RowKit Go.Proofs.Tryz
mutual
def holdT (T:List Tup)(s:P3)(X:P3->Prop)(p:P3):RT->Prop
 | .mk k a b ps=>if k=1 then s∈ai! T p\/∃q∈bM! (ai! T p),X q else if k=2 then X ⟨p.t,p.i,a⟩else if k=3 then ∃q∈viaOf b (ai! T ⟨p.t,p.i,a⟩),X q else if k=4 then anyTT T s X p ps else if k=5 then allTT T s X p ps else False
def anyTT (T:List Tup)(s:P3)(X:P3->Prop)(p:P3):List RT->Prop | []=>False | r::rs=>holdT T s X p r\/anyTT T s X p rs
def allTT (T:List Tup)(s:P3)(X:P3->Prop)(p:P3):List RT->Prop | []=>True | r::rs=>holdT T s X p r/\allTT T s X p rs
end
theorem jf! (T:List Tup)(s:P3)(X:P3->Prop)(p:P3):∀ps,anyTT T s X p ps↔∃r∈ps,holdT T s X p r
 | []=>by rw[anyTT];simp
 | r::rs=>by rw[anyTT,jf! T s X p rs];simp
theorem ji! (T:List Tup)(s:P3)(X:P3->Prop)(p:P3):∀ps,allTT T s X p ps↔∀r∈ps,holdT T s X p r
 | []=>by rw[allTT];simp
 | r::rs=>by rw[allTT,ji! T s X p rs];simp
theorem lW! (T:List Tup)(s:P3)(X:P3->Prop)(p:P3)(k:Int)(a b:ByteArray)(ps:List RT):holdT T s X p (.mk k a b ps)↔if k=1 then s∈ai! T p\/∃q∈bM! (ai! T p),X q else if k=2 then X ⟨p.t,p.i,a⟩else if k=3 then ∃q∈viaOf b (ai! T ⟨p.t,p.i,a⟩),X q else if k=4 then ∃x∈ps,holdT T s X p x else if k=5 then ∀x∈ps,holdT T s X p x else False:=by
 rw[holdT,jf!,ji!]
theorem iL! (T:List Tup)(s:P3)(X:P3->Prop)(p:P3)(r:RT):holdT T s X p r↔if r.k=1 then s∈ai! T p\/∃q∈bM! (ai! T p),X q else if r.k=2 then X ⟨p.t,p.i,r.a⟩else if r.k=3 then ∃q∈viaOf r.b (ai! T ⟨p.t,p.i,r.a⟩),X q else if r.k=4 then ∃x∈r.ps,holdT T s X p x else if r.k=5 then ∀x∈r.ps,holdT T s X p x else False:=by
 obtain⟨k,a,b,ps⟩:=r;exact lW! T s X p k a b ps
theorem bU! {T:List Tup}{p x:P3}:x∈ai! T p↔∃t∈T,t.o=p/\t.s=x:=by
 refine⟨bT!,?_⟩;rintro⟨t,ht,h1,rfl⟩;exact u6!.2 ⟨t,List.mem_filter.2 ⟨ht,by simpa using h1⟩,rfl⟩
theorem eH! {l:List P3}{x:P3}:x∈bM! l↔x∈l/\x.r≠⟨#[]⟩:=by
 unfold bM!;rw[List.mem_filter];simp
theorem jp! {l:List P3}{b:ByteArray}{x:P3}:x∈viaOf b l↔∃y∈l,y.r=⟨#[]⟩/\x=⟨y.t,y.i,b⟩:=by
 unfold viaOf;rw[u6!];constructor
 ·rintro⟨y,a,rfl⟩;rw[List.mem_filter]at a;exact⟨y,a.1,by simpa using a.2,rfl⟩
 ·rintro⟨y,a,h,rfl⟩;exact⟨y,List.mem_filter.2 ⟨a,by simpa using h⟩,rfl⟩
def DenN (ts:List TyS)(T:List Tup)(shut:List R2)(s:P3):Nat->P3->Prop
 | 0=>fun _=>False
 | n+1=>fun p=>DenN ts T shut s n p\/∃r,ar! ts shut p=some r/\holdT T s (DenN ts T shut s n) p r
def Den (ts:List TyS)(T:List Tup)(shut:List R2)(s:P3)(p:P3):Prop:=∃n,DenN ts T shut s n p
section
variable {ts : List TyS} {T U : List Tup} {shut more : List R2} {s p q : P3}
theorem DenN.le {n m:Nat}(h:DenN ts T shut s n p)(hl:n<=m):DenN ts T shut s m p:=by
 obtain⟨d,rfl⟩:=Nat.exists_eq_add_of_le hl;induction d with
 | zero=>exact h
 | succ d ih=>exact .inl (ih (by omega))
theorem Den.said {t:Tup}(ht:t∈T) {r:RT}(hr:ar! ts shut t.o=some r)(hk:r.k=1):Den ts T shut t.s t.o :=
 ⟨1,.inr ⟨r,hr,by rw[iL!,if_pos hk];exact .inl (bU!.2 ⟨t,ht,rfl,rfl⟩)⟩⟩
end
/-! A graph's rounds. -/
theorem lD! {ps P:List P3}(h:ps <+: P) {q:P3}(hq:q∈ps):numD P q=numD ps q:=by
 obtain⟨t,rfl⟩:=h;unfold numD;rw[List.findIdx_append,if_pos];exact List.findIdx_lt_length_of_exists ⟨q,hq,by simp⟩
theorem dR! {ps P:List P3}{q:P3}(h:putP ps q <+: P):numD ps q=numD P q:=by
 rw[lD! h ((bP! ps q q).2 (.inr rfl))];unfold putP;split
 ·rfl
 ·next hn =>
  rw[show numD ps q=ps.length from by
   unfold numD;rw[List.findIdx_eq_length];intro x hx;simp only[decide_eq_false_iff_not];exact fun e=>hn (e▸hx)]
  unfold numD
  rw[List.findIdx_append,if_neg (by
   rw[show ps.findIdx (fun x=>decide (x=q))=ps.length from by
    rw[List.findIdx_eq_length];intro x hx;simp only[decide_eq_false_iff_not];exact fun e=>hn (e▸hx)]
   omega)]
  simp
theorem cr! {P:List P3}{q:P3}(h:q∈P):∃hi:numD P q<P.length,P[numD P q]=q:=by
 have hi:numD P q<P.length:=List.findIdx_lt_length_of_exists ⟨q,h,by simp⟩;refine⟨hi,?_⟩;exact of_decide_eq_true (List.findIdx_getElem (xs:=P) (p:=fun x=>decide (x=q)) (w:=hi))
def Tells (P:List P3)(X:P3->Prop)(l:List Bool):Prop:=∀q∈P,(X q↔inAt l (numD P q)=true)
theorem dM! {P:List P3}{X:P3->Prop}{l:List Bool}(hX:Tells P X l):∀(L ps:List P3)(out:List Int),(refsD ps out L).2 <+: P->((refsD ps out L).1.any (inAt l)=true↔out.any (inAt l)=true\/∃q∈L,X q)
 | [],ps,out,_=>by simp[refsD]
 | q::L,ps,out,h=>by
  rw[refsD]at h ⊢;have hp:putP ps q <+: P:=(bV! L _ _).trans h;have hm:q∈P:=hp.subset ((bP! ps q q).2 (.inr rfl));rw[dM! hX L _ _ h,dR! hp];have hq:=hX q hm;constructor
  ·rintro(h1 | ⟨x,hx,h1⟩)
   ·split at h1
    ·exact .inl h1
    ·rw[List.any_append,Bool.or_eq_true]at h1;rcases h1 with h1 | h1
     ·exact .inl h1
     ·exact .inr ⟨q,by simp,hq.2 (by simpa using h1)⟩
   ·exact .inr ⟨x,u9! _ hx,h1⟩
  ·rintro(h1 | ⟨x,hx,h1⟩)
   ·left
    split
    ·exact h1
    ·rw[List.any_append,h1,Bool.true_or]
   ·rcases v7!.1 hx with rfl | hx
    ·left
     split
     ·next hin=>exact x5!.2 ⟨_,hin,hq.1 h1⟩
     ·rw[List.any_append,Bool.or_eq_true];right
      simpa using hq.1 h1
    ·exact .inr ⟨x,hx,h1⟩
theorem iS! {T:List Tup}{s:P3}{P:List P3}{X:P3->Prop}{l:List Bool}(hX:Tells P X l)(p:P3)(r:RT):∀ps:List P3,(formD T p r ps).2 <+: P->(holdF s l (formD T p r ps).1=true↔holdT T s X p r):=by
 induction r using RT.ind with
 | h r ih =>
  intro ps h;rw[bF!]at h ⊢;dsimp only at h ⊢;have d:(headF T p r.k r.a r.b ps).2.2 <+: P:=(bE! T p r.ps _).trans h
  have c:∀(L:List RT) (qs:List P3),(∀x∈L,x∈r.ps)->(ap! T p L qs).2 <+: P ->
    (((ap! T p L qs).1.any (holdF s l)=true↔∃x∈L,holdT T s X p x)/\((ap! T p L qs).1.all (holdF s l)=true↔∀x∈L,holdT T s X p x)):=by
   intro L;induction L with
   | nil=>intro qs _ _;simp[ap!]
   | cons x L ihl =>
    intro qs hx hp;rw[ap!]at hp ⊢;have h1:=ih x (hx x (by simp)) qs ((bE! T p L _).trans hp);obtain⟨h2,h3⟩:=ihl (formD T p x qs).2 (fun y hy=>hx y (u9! _ hy)) hp;constructor
    ·rw[List.any_cons,Bool.or_eq_true,h1,h2];simp
    ·rw[List.all_cons,v0!,h1,h3];simp
  obtain⟨h2,h3⟩:=c r.ps _ (fun _ h=>h) h;rw[iM!,iL!];by_cases k1:r.k=1
  ·rw[if_pos k1,if_pos k1];unfold headF at d ⊢;rw[if_pos k1]at d ⊢;rw[Bool.or_eq_true,dM! hX _ _ _ d];simp
  ·rw[if_neg k1,if_neg k1];by_cases k2:r.k=2
   ·rw[if_pos (.inl k2),if_pos k2];unfold headF at d ⊢;rw[if_neg k1,if_pos k2]at d ⊢;have hq:=hX ⟨p.t,p.i,r.a⟩ (d.subset ((bP! ps _ _).2 (.inr rfl)));rw[dR! d];simpa using hq.symm
   ·rw[if_neg k2];by_cases k3:r.k=3
    ·rw[if_pos (.inr k3),if_pos k3];unfold headF at d ⊢;rw[if_neg k1,if_neg k2,if_pos k3]at d ⊢;rw[dM! hX _ _ _ d];simp
    ·rw[if_neg (by simp[k2,k3]),if_neg k3];by_cases k4:r.k=4
     ·rw[if_pos k4,if_pos k4];exact h2
     ·rw[if_neg k4,if_neg k4];by_cases k5:r.k=5
      ·rw[if_pos k5,if_pos k5];exact h3
      ·rw[if_neg k5,if_neg k5];simp
theorem cP! (ts:List TyS)(T:List Tup)(shut:List R2)(p:P3) {i:Nat}:∀ {n:Nat},i<n->(walkN ts T shut p n).2[i]?=some (stepG ts T shut ((walkN ts T shut p i).1.getD i p) (walkN ts T shut p i).1).1
 | n+1,h=>by
  rw[walkN];dsimp only;by_cases e:i=n
  ·subst e;rw[List.getElem?_append_right (by rw[aX!];exact n0! _),aX!];simp
  ·rw[List.getElem?_append_left (by rw[aX!];omega)];exact cP! ts T shut p (by omega)
section
variable {ts : List TyS} {T : List Tup} {shut : List R2} {p : P3} {most : Int} {n : Nat}
theorem ow!.point (h:ow! ts T shut p most n) {i:Nat}(hi:i<n):∃hi2:i<(walkN ts T shut p n).1.length,(walkN ts T shut p i).1.getD i p=(walkN ts T shut p n).1[i]:=by
 have h1:=(h.1 i hi).1;refine⟨by rw[<-h.2];exact hi,?_⟩;obtain⟨t,ht⟩:=bn! ts T shut p i n (Nat.le_of_lt hi);rw[n8!,n4! h1];simp only[Option.getD_some,<-ht];rw[List.getElem_append_left h1]
theorem ow!.den (h:ow! ts T shut p most n)(s:P3):∀r,Tells (walkN ts T shut p n).1 (DenN ts T shut s r) (inN (walkN ts T shut p n).2 s n r)
 | 0=>fun q hq=>by
  unfold inAt;rw[Int.toNat_natCast,iK!,Bool.and_false,DenN];simp
 | r+1=>fun q hq=>by
  have ih:=ow!.den h s r;obtain⟨hi,hget⟩:=cr! hq;have hin:numD (walkN ts T shut p n).1 q<n:=Nat.lt_of_lt_of_eq hi h.2.symm;have h0:=ih q hq;unfold inAt at h0 ⊢;rw[Int.toNat_natCast]at h0 ⊢;have hd:decide ((0:Int)<=(numD (walkN ts T shut p n).1 q:Int))=true:=by simp
  rw[hd,Bool.true_and]at h0 ⊢;rw[br! hin]
  have hf:newS (walkN ts T shut p n).2 s (inN (walkN ts T shut p n).2 s n r) (numD (walkN ts T shut p n).1 q)=true\/(inN (walkN ts T shut p n).2 s n r).getD (numD (walkN ts T shut p n).1 q) false=true↔(∃rl,ar! ts shut q=some rl/\holdT T s (DenN ts T shut s r) q rl)\/DenN ts T shut s r q:=by
   rw[h0];by_cases hc:(inN (walkN ts T shut p n).2 s n r).getD (numD (walkN ts T shut p n).1 q) false=true
   ·simp only[hc,or_true]
   ·simp only[hc,Bool.false_eq_true,or_false];unfold newS;rw[dy! (by rw[aj!];exact hin)];have a0:(inN (walkN ts T shut p n).2 s n r).getD (numD (walkN ts T shut p n).1 q) false=false:=by simpa using hc
    rw[a0,Bool.not_false,Bool.true_and,cP! ts T shut p hin];obtain⟨_,e⟩:=h.point hin;rw[e,hget]
    have a:(stepG ts T shut q (walkN ts T shut p (numD (walkN ts T shut p n).1 q)).1).2 <+: (walkN ts T shut p n).1:=by
     have:=bn! ts T shut p (numD (walkN ts T shut p n).1 q+1) n hin;rw[walkN,e,hget]at this;exact this
    unfold stepG at a ⊢;cases hr:ar! ts shut q with
    | none =>
     dsimp only;rw[bD!];simp[FT.zero,FT.k]
    | some rl =>
     rw[hr]at a;dsimp only at a ⊢;rw[iS! ih q rl _ a];simp
  rw[Bool.or_eq_true];exact⟨fun e=>(hf.2 e.symm).symm,fun e=>(hf.1 e.symm).symm⟩
theorem ow!.den_iff (h:ow! ts T shut p most n)(s:P3):Den ts T shut s p↔0<(aI! (walkN ts T shut p n).2 s n).getD 0 0:=by
 have hn:0<n:=by
  have h2:=h.2;have:=dF! ts T shut p (v1! n);rw[<-h2,walkN]at this;simp at this;omega
 have b:=gG! ts T shut p n;have hp:p∈(walkN ts T shut p n).1:=List.mem_of_getElem? b
 have hz:numD (walkN ts T shut p n).1 p=0:=by
  unfold numD;cases hl:(walkN ts T shut p n).1 with
  | nil=>rw[hl]at hp;cases hp
  | cons x l =>
   rw[hl]at b;simp only[List.getElem?_cons_zero,Option.some.injEq]at b;rw[List.findIdx_cons];simp[b]
 have a:∀r,DenN ts T shut s r p↔(inN (walkN ts T shut p n).2 s n r).getD 0 false=true:=fun r=>by
  have:=h.den s r p hp;rw[hz]at this;simpa [inAt] using this
 unfold aI!;rw[<- (da! (fs:=(walkN ts T shut p n).2) (s:=s) n hn).2.2,<-a n];refine⟨fun⟨r,hr⟩=>?_,fun h=>⟨n,h⟩⟩;rcases Nat.le_total r n with hl | hl
 ·exact hr.le hl
 ·obtain⟨d,rfl⟩:=Nat.exists_eq_add_of_le hl;rw[a]at hr ⊢;rwa[(mg! (walkN ts T shut p n).2 s n).inL d]at hr
end
theorem eD! (T:List Tup)(p:P3):(ai! T p).length<=T.length:=by
 unfold ai!;rw[x1!];exact x8! _ _
theorem iN! (T:List Tup)(p:P3)(k:Int)(a b:ByteArray)(ps:List P3):(headF T p k a b ps).2.1.length<=T.length+1:=by
 unfold headF;split
 ·have h1:=bX! (bM! (ai! T p)) ps [];have h2:=eD! T p;have h3:(bM! (ai! T p)).length<=(ai! T p).length:=x8! _ _;simp only[v6!]at h1;dsimp only;omega
 ·split
  ·simp
  ·split
   ·have h1:=bX! (viaOf b (ai! T ⟨p.t,p.i,a⟩)) ps [];have h2:=eD! T ⟨p.t,p.i,a⟩;have h3:(viaOf b (ai! T ⟨p.t,p.i,a⟩)).length<=(ai! T ⟨p.t,p.i,a⟩).length:=by unfold viaOf;rw[x1!];exact x8! _ _
    simp only[v6!]at h1;dsimp only;omega
   ·simp
theorem hl! (T:List Tup)(p:P3)(r:RT):∀ps,(formD T p r ps).1.named.length<=r.sz*(T.length+1):=by
 induction r using RT.ind with
 | h r ih =>
  intro ps
  have:∀(l:List RT) (qs:List P3),(∀x∈l,x∈r.ps)->(nmdL (ap! T p l qs).1).length<=szL l*(T.length+1):=by
   intro l;induction l with
   | nil=>intro qs _;simp[ap!,nmdL]
   | cons x l ihl =>
    intro qs hx;rw[ap!,nmdL,szL,u4!,Nat.add_mul];have h1:=ih x (hx x (by simp)) qs;have h2:=ihl (formD T p x qs).2 fun y hy=>hx y (u9! _ hy);omega
  have h1:=this r.ps (headF T p r.k r.a r.b ps).2.2 fun _ h=>h;have h2:=iN! T p r.k r.a r.b ps;rw[bF!];simp only;rw[FT.named_eq,u4!];obtain⟨k,a,b,a0⟩:=r;rw[RT.sz,Nat.add_mul];simp only[FT.refs,FT.ps,RT.k,RT.a,RT.b,RT.ps]at h1 h2 ⊢;omega
theorem dq! {ts:List TyS}{T:List Tup}{M:Nat}(h:∀x∈ab! ts,x.2.sz*(T.length+1)<=M)(shut:List R2)(p:P3):∀n,(nmdL (walkN ts T shut p n).2).length<=n*M
 | 0=>by simp[walkN,nmdL]
 | n+1=>by
  have ih:=dq! h shut p n;rw[walkN];simp only;rw[bl!,u4!,Nat.add_mul]
  have h2:(nmdL [(stepG ts T shut ((walkN ts T shut p n).1.getD n p) (walkN ts T shut p n).1).1]).length<=M:=by
   rw[nmdL,nmdL,List.append_nil];unfold stepG;split
   ·next r hr =>
    unfold ar! at hr;split at hr
    ·cases hr
    ·exact n6! (hl! T _ r _) (h _ (aB! hr))
   ·simp[FT.zero,FT.named,nmdL]
  omega
def aC (p s:P3):Array Value:=#[.string p.t,.string p.i,.string p.r,.string s.t,.string s.i,.string s.r]
structure HasArg (ts:List TyS)(T:List Tup)(shut:List R2)(p:P3):Prop where
 ok:∀t∈ts,t.Ok
 chk:chk06 ts=0
 bk:schB ts<=549755813888
 sz:∀t∈ts,∀r∈t.rels,r.2.sz<=1000000
 nms:(am! ts).length<=1099511627776
 rfs:(ab! ts).length<=1099511627776
 sho:∀r∈shut,r.Ok
 wk:mp! ts T shut p 1000000
 rm:∀x∈ab! ts,x.2.sz*(T.length+1)<=1000000
theorem HasArg.of {ts:List TyS}{T:List Tup}{shut:List R2}{p:P3}(hc:chk06 ts=0)(hok:∀t∈ts,t.Ok)(hb:schB ts<=549755813888)(hn:(am! ts).length<=1099511627776)(hr:(ab! ts).length<=1099511627776)(hT:T.length<=41)(hTo:∀t∈T,t.Ok)(hp:p.Ok)(hso:∀r∈shut,r.Ok):HasArg ts T shut p:=by
 have c:=en! hc;have b:=hw! (T:=T) shut c hok (by omega) hTo hp;have a0:∀t∈ts,∀r∈t.rels,r.2.sz<=32:=fun t ht r hr'=>cy! c ⟨⟨t.name,r.1⟩,r.2⟩ (aM!.2 ⟨t,ht,r,hr',rfl⟩)
 have hN:∀n,(walkN ts T shut p n).1.length<=1000000:=fun n=>by
  have h:=fk! T shut p (fL! ts) n
  have h2:(allN ts).length<=256*64:=by
   have h3:=eg! (fun x:R2 × RT=>x.2.nms) 64 (ab! ts) fun x hx=>by have:=kK! x.2;have:=cy! c x hx;omega
   have h4:=gn! c;unfold allN;exact n6! h3 (y7! _ h4)
  have h5:(T.length+1)*(T.length+(allN ts).length+1)<=42*(41+256*64+1):=Nat.mul_le_mul (by omega) (by omega);omega
 have a:∀x∈ab! ts,x.2.sz*(T.length+1)<=32*42:=fun x hx=>Nat.mul_le_mul (cy! c x hx) (by omega)
 exact⟨hok,hc,hb,fun t ht r hr'=>n6! (a0 t ht r hr') (by decide),hn,hr,hso,
  ⟨b.okp,hN,fun x hx=>by have:=a x hx;omega,by decide,b.rok,b.tok,b.tlen⟩,fun x hx=>by have:=a x hx;omega⟩
def viB:ByteArray:=⟨#[118,105,101,119,101,114]⟩
def usB:ByteArray:=⟨#[117,115,101,114]⟩
def thB:ByteArray:=⟨#[116,104,105,115]⟩
structure CaseW (w W:World)(cb:Nat)(ts:List TyS)(tv lv sv:Value)(l:List Tup)(shut:List R2)(p s:P3):Prop where
 X:Below w.heap.size w W
 B:Blk W cb (caseC tv lv sv p s) 37
 Y:ou! (· < W.heap.size) W ts tv
 L:Sl (· < W.heap.size) W 6 lv (tuCs l)
 V:Sl (· < W.heap.size) W 2 sv (shut.flatMap r2C)
 good:GoodS ts
 lok:∀t∈l,t.Ok/\wrN ts t=0
 len:l.length<=24
 sok:∀r∈shut,r.Ok
 slen:shut.length<=1
 pok:p.Ok
 sOk:s.Ok
section
variable {w W W' : World} {cb : Nat} {ts : List TyS} {tv lv sv : Value} {l : List Tup} {shut : List R2} {p s : P3}
theorem CaseW.up (h:CaseW w W cb ts tv lv sv l shut p s)(hx:Ext W W'):CaseW w W' cb ts tv lv sv l shut p s :=
 ⟨h.X.trans (Below.mono hx h.X.size),h.B.below hx,h.Y.up hx,(h.L.same (Same.below hx)).mono fun _ hb=>n1! hb hx.size,(h.V.same (Same.below hx)).mono fun _ hb=>n1! hb hx.size,h.good,h.lok,h.len,h.sok,h.slen,h.pok,h.sOk⟩
end
theorem hK! {l T:List Tup}(h:SetT l T):T.length<=l.length/\∀t∈T,t∈l:=⟨h.len,fun t ht=>((h.mem t).1 ht).1⟩
theorem eI! {ts:List TyS}{shut:List R2}{p:P3}{r:RT}(h:ar! ts shut p=some r):((⟨p.t,p.r⟩:R2),r)∈ab! ts:=by
 unfold ar! at h;split at h
 ·cases h
 ·exact aB! h
mutual
def RT.pre:RT->List RT | .mk k a b ps => .mk k a b ps::rpreL ps
def rpreL:List RT->List RT | [] => [] | r::rs=>r.pre++rpreL rs
end
theorem RT.pre_eq (r:RT):r.pre=r::rpreL r.ps:=by
 obtain⟨k,a,b,ps⟩:=r;rw[RT.pre];rfl
theorem aJ! {x:RT}:∀ {l:List RT},x∈rpreL l↔∃r∈l,x∈r.pre
 | []=>by simp[rpreL]
 | r::l=>by rw[rpreL,u3!,aJ!];simp
theorem RT.pre_self (r:RT):r∈r.pre:=by rw[r.pre_eq];exact y4!
theorem RT.pre_part {r q:RT}(h:q∈r.ps):q∈r.pre:=by
 rw[r.pre_eq];exact u9! _ (aJ!.2 ⟨q,h,q.pre_self⟩)
theorem RT.pre_trans (r:RT):∀ {q x:RT},q∈r.pre->x∈q.pre->x∈r.pre:=by
 induction r using RT.ind with
 | h r ih =>
  intro q x a hx;have hq':=a;rw[r.pre_eq]at a;rcases v7!.1 a with rfl | a
  ·exact hx
  ·obtain⟨y,hy,a⟩:=aJ!.1 a;rw[r.pre_eq];exact u9! _ (aJ!.2 ⟨y,hy,ih y hy a hx⟩)
structure Stp where
 p:P3
 r:RT
 s:P3
 b:List Int
def s3z:P3:=⟨⟨#[]⟩,⟨#[]⟩,⟨#[]⟩⟩
def aE! (ts:List TyS)(l:List Stp)(i:Nat)(b:Int)(p:P3):Prop:=0<=b/\b<(i:Int)/\∃x r,l[b.toNat]?=some x/\x.p=p/\lookA (ab! ts) ⟨p.t,p.r⟩=some r/\x.r=r
def partP (l:List Stp)(i:Nat)(b:Int)(p:P3)(r:RT):Prop:=0<=b/\b<(i:Int)/\∃x,l[b.toNat]?=some x/\x.p=p/\x.r=r
def kindP (ts:List TyS)(T:List Tup)(sub:P3)(l:List Stp)(i:Nat)(x:Stp):Prop :=
 if x.r.k=1 then x.s∈ai! T x.p/\(if x.b=[]then x.s=sub else x.s.r≠⟨#[]⟩/\∃b,x.b=[b]/\aE! ts l i b x.s)
 else if x.r.k=3 then x.s.r=⟨#[]⟩/\x.s∈ai! T ⟨x.p.t,x.p.i,x.r.a⟩/\∃b,x.b=[b]/\aE! ts l i b ⟨x.s.t,x.s.i,x.r.b⟩
 else x.s=s3z/\(if x.r.k=2 then ∃b,x.b=[b]/\aE! ts l i b ⟨x.p.t,x.p.i,x.r.a⟩
  else if x.r.k=4 then ∃b,x.b=[b]/\∃q∈x.r.ps,partP l i b x.p q
  else x.b.length=x.r.ps.length/\∀(j:Nat) (q:RT),x.r.ps[j]?=some q->∃b:Int,x.b[j]?=some b/\partP l i b x.p q)
def stepP (ts:List TyS)(T:List Tup)(shut:List R2)(sub:P3)(l:List Stp)(i:Nat)(x:Stp):Prop:=∃r,ar! ts shut x.p=some r/\x.r∈r.pre/\kindP ts T sub l i x
def or! (ts:List TyS)(T:List Tup)(shut:List R2)(sub p:P3)(l:List Stp):Prop:=(∀i x,l[i]?=some x->stepP ts T shut sub l i x)/\0<l.length/\aE! ts l l.length ((l.length:Int)-1) p
def nI! (ts:List TyS):Prop:=∀x∈ab! ts,∀q∈x.2.pre,q.k=1\/q.k=2\/q.k=3\/q.k=4\/q.k=5
theorem or!.more {ts:List TyS}{T U:List Tup}{shut:List R2}{sub p:P3}{l:List Stp}(hT:∀t∈T,t∈U)(h:or! ts T shut sub p l):or! ts U shut sub p l:=by
 have hs:∀p x,x∈ai! T p->x∈ai! U p:=fun p x h=>by
  obtain⟨t,ht,h1,h2⟩:=bU!.1 h;exact bU!.2 ⟨t,hT t ht,h1,h2⟩
 refine⟨fun i x hx=>?_,h.2⟩;obtain⟨r,hr,a0,a⟩:=h.1 i x hx;refine⟨r,hr,a0,?_⟩;unfold kindP at *;split
 ·next e =>
  rw[if_pos e]at a;exact⟨hs _ _ a.1,a.2⟩
 ·next e =>
  rw[if_neg e]at a;split
  ·next e2 =>
   rw[if_pos e2]at a;exact⟨a.1,hs _ _ a.2.1,a.2.2⟩
  ·next e2 =>
   rw[if_neg e2]at a;exact a
theorem cq! {ts:List TyS}{l m:List Stp}{i:Nat}{b:Int}{p:P3}(h:aE! ts l i b p)(hi:i<=l.length):aE! ts (l++m) i b p:=by
 obtain⟨h0,h1,x,r,hx,h2⟩:=h;exact⟨h0,h1,x,r,by rw[List.getElem?_append_left (by omega)];exact hx,h2⟩
theorem fZ! {l m:List Stp}{i:Nat}{b:Int}{p:P3}{r:RT}(h:partP l i b p r)(hi:i<=l.length):partP (l++m) i b p r:=by
 obtain⟨h0,h1,x,hx,h2⟩:=h;exact⟨h0,h1,x,by rw[List.getElem?_append_left (by omega)];exact hx,h2⟩
theorem gp! {ts:List TyS}{T:List Tup}{sub:P3}{l m:List Stp}{i:Nat}{x:Stp}(h:kindP ts T sub l i x)(hi:i<=l.length):kindP ts T sub (l++m) i x:=by
 unfold kindP at *;split
 ·next e =>
  rw[if_pos e]at h;refine⟨h.1,?_⟩;have a:=h.2;split at a
  ·next e2=>rw[if_pos e2];exact a
  ·next e2 =>
   rw[if_neg e2];obtain⟨h3,b,c,d⟩:=a;exact⟨h3,b,c,cq! d hi⟩
 ·next e =>
  rw[if_neg e]at h;split
  ·next e2 =>
   rw[if_pos e2]at h;obtain⟨h1,a,b,c,d⟩:=h;exact⟨h1,a,b,c,cq! d hi⟩
  ·next e2 =>
   rw[if_neg e2]at h;refine⟨h.1,?_⟩;have a:=h.2;split
   ·next e3 =>
    rw[if_pos e3]at a;obtain⟨b,c,d⟩:=a;exact⟨b,c,cq! d hi⟩
   ·next e3 =>
    rw[if_neg e3]at a;split
    ·next e4 =>
     rw[if_pos e4]at a;obtain⟨b,c,q,hq,d⟩:=a;exact⟨b,c,q,hq,fZ! d hi⟩
    ·next e4 =>
     rw[if_neg e4]at a;refine⟨a.1,fun j q hj=>?_⟩;obtain⟨b,c,d⟩:=a.2 j q hj;exact⟨b,c,fZ! d hi⟩
structure WrI (ts:List TyS)(T:List Tup)(shut:List R2)(sub:P3)(P:List P3)(out:List Stp)(names:List ((Nat × RT) × Nat))(wait:List Nat):Prop where
 ok:∀i x,out[i]?=some x->stepP ts T shut sub out i x
 key:∀e∈names,∃x,out[e.2]?=some x/\P[e.1.1]?=some x.p/\x.r=e.1.2
 all:∀i x,out[i]?=some x->∃k,((k,x.r),i)∈names
 nd:(names.map (·.1)).Nodup
 named:∀i,i<out.length->i∈wait\/∃j x,out[j]?=some x/\i<j/\(i:Int)∈x.b
theorem lG! {α:Type}{l:List α}(h:l.Nodup) {i j:Nat}{a:α}(hi:l[i]?=some a)(hj:l[j]?=some a):i=j:=by
 obtain⟨h1,h2⟩:=y3!.1 hi;obtain⟨h3,h4⟩:=y3!.1 hj;rcases Nat.lt_trichotomy i j with hlt | e | hlt
 ·exact absurd (h2.trans h4.symm) (x3!.1 h i j h1 h3 hlt)
 ·exact e
 ·exact absurd (h4.trans h2.symm) (x3!.1 h j i h3 h1 hlt)
section
variable {ts : List TyS} {T : List Tup} {shut : List R2} {sub : P3} {P : List P3} {out : List Stp} {names : List ((Nat × RT) × Nat)} {wait more : List Nat}
theorem WrI.nil (ts:List TyS)(T:List Tup)(shut:List R2)(sub:P3)(P:List P3)(wait:List Nat):WrI ts T shut sub P [] [] wait :=
 ⟨fun i x h=>(by simp at h),fun e h=>(by cases h),fun i x h=>(by simp at h),List.nodup_nil,fun i h=>(by cases h)⟩
theorem WrI.mono (h:WrI ts T shut sub P out names wait)(hw:∀i∈wait,i∈more):WrI ts T shut sub P out names more :=
 ⟨h.ok,h.key,h.all,h.nd,fun i hi=>(h.named i hi).imp (hw i) id⟩
theorem WrI.uniq (h:WrI ts T shut sub P out names wait) {a:Nat × RT}{i j:Nat}(h1:(a,i)∈names)(h2:(a,j)∈names):i=j:=by
 have a0:∀l:List ((Nat × RT) × Nat),(l.map (·.1)).Nodup->(a,i)∈l->(a,j)∈l->i=j:=by
  intro l;induction l with
  | nil=>intro _ h;cases h
  | cons e l ih =>
   intro hn h1 h2;rw[v8!,List.nodup_cons]at hn;rcases v7!.1 h1 with e1 | h1
   ·rcases v7!.1 h2 with e2 | h2
    ·rw[<-e1]at e2;exact(congrArg Prod.snd e2).symm
    ·exact absurd (u6!.2 ⟨_,h2,by rw[<-e1]⟩) hn.1
   ·rcases v7!.1 h2 with e2 | h2
    ·exact absurd (u6!.2 ⟨_,h1,by rw[<-e2]⟩) hn.1
    ·exact ih hn.2 h1 h2
 exact a0 names h.nd h1 h2
theorem WrI.put (h:WrI ts T shut sub P out names wait) {k:Nat}{x:Stp}(hk:P[k]?=some x.p)(hnew:∀e∈names,e.1≠(k,x.r))(hx:stepP ts T shut sub out out.length x)
  (hw:∀i∈wait,i<out.length->(i:Int)∈x.b\/i∈more):WrI ts T shut sub P (out++[x]) (names++[((k,x.r),out.length)]) (out.length::more) where
 ok i y hy:=by
  by_cases hi:i<out.length
  ·rw[List.getElem?_append_left hi]at hy;obtain⟨r,d,c,g⟩:=h.ok i y hy;exact⟨r,d,c,gp! g (by omega)⟩
  ·have:i=out.length:=by
    have:=(y3!.1 hy).1;rw[u4!]at this;simp at this;omega
   subst this;rw[List.getElem?_append_right (n0! _)]at hy;simp at hy;subst hy;obtain⟨r,d,c,g⟩:=hx;exact⟨r,d,c,gp! g (n0! _)⟩
 key e f:=by
  rcases u3!.1 f with f | f
  ·obtain⟨y,d,c,g⟩:=h.key e f;exact⟨y,by rw[List.getElem?_append_left (y3!.1 d).1];exact d,c,g⟩
  ·obtain rfl:=n9!.1 f;exact⟨x,by simp,hk,rfl⟩
 all i y hy:=by
  by_cases hi:i<out.length
  ·rw[List.getElem?_append_left hi]at hy;obtain⟨k,d⟩:=h.all i y hy;exact⟨k,List.mem_append_left _ d⟩
  ·have:i=out.length:=by
    have:=(y3!.1 hy).1;rw[u4!]at this;simp at this;omega
   subst this;rw[List.getElem?_append_right (n0! _)]at hy;simp at hy;subst hy;exact⟨k,List.mem_append_right _ y4!⟩
 nd:=by
  rw[v9!,List.nodup_append];refine⟨h.nd,by simp,fun a ha b hb=>?_⟩;obtain⟨e,f,rfl⟩:=u6!.1 ha;have hb:b=(k,x.r):=by simpa using hb
  rw[hb];exact hnew e f
 named i hi:=by
  by_cases hlt:i<out.length
  ·rcases h.named i hlt with d | ⟨j,y,d,c,g⟩
   ·rcases hw i d hlt with c | c
    ·exact .inr ⟨out.length,x,by simp,hlt,c⟩
    ·exact .inl (u9! _ c)
   ·exact .inr ⟨j,y,by rw[List.getElem?_append_left (y3!.1 d).1];exact d,c,g⟩
  ·rw[u4!]at hi;simp at hi;have:i=out.length:=by omega
   subst this;exact .inl y4!
theorem WrI.apart (h:WrI ts T shut sub P out names wait)(hP:P.Nodup) {i j:Nat}{x y:Stp}(hx:out[i]?=some x)(hy:out[j]?=some y)(hp:x.p=y.p)(hr:x.r=y.r):i=j:=by
 obtain⟨k,h1⟩:=h.all i x hx;obtain⟨m,h2⟩:=h.all j y hy;obtain⟨x',e1,e2,-⟩:=h.key _ h1;obtain⟨y',e3,e4,-⟩:=h.key _ h2;dsimp only at e1 e2 e3 e4;rw[hx]at e1;rw[hy]at e3;cases e1;cases e3;rw[<-hp]at e4;obtain rfl:k=m:=lG! hP e2 e4;rw[<-hr]at h2;exact h.uniq h1 h2
def ic! (ts:List TyS)(P:List P3):List (P3 × RT):=P.flatMap fun p=>match lookA (ab! ts) ⟨p.t,p.r⟩with | some r=>r.pre.map fun q=>(p,q) | none => []
theorem ba! {ts:List TyS}{shut:List R2}{p:P3}{r:RT}(h:ar! ts shut p=some r):lookA (ab! ts) ⟨p.t,p.r⟩=some r:=by
 unfold ar! at h;split at h
 ·cases h
 ·exact h
theorem WrI.few (h:WrI ts T shut sub P out names wait)(hP:P.Nodup):out.length<=(ic! ts P).length:=by
 have h1:(out.map fun x=>(x.p,x.r)).Nodup:=by
  refine x3!.2 fun i j a hj hlt e=>?_;rw[x1!]at a hj;rw[List.getElem_map,List.getElem_map]at e;have:=h.apart hP (n4! a) (n4! hj) (congrArg Prod.fst e) (congrArg Prod.snd e);omega
 have h2:=ik! h1 (u:=ic! ts P) fun e he=>by
  obtain⟨x,hx,rfl⟩:=u6!.1 he;obtain⟨i,a,rfl⟩:=u0! hx;obtain⟨r,hr,a0,-⟩:=h.ok i _ (n4! a);obtain⟨k,hk⟩:=h.all i _ (n4! a);obtain⟨y,e1,e2,-⟩:=h.key _ hk;dsimp only at e1 e2;rw[n4! a]at e1;cases e1;refine List.mem_flatMap.2 ⟨_,List.mem_of_getElem? e2,?_⟩;rw[ba! hr];exact u6!.2 ⟨_,a0,rfl⟩
 rwa[x1!]at h2
def TidyP (l:List Stp):Prop:=(∀(i j:Nat)(x y:Stp),l[i]?=some x->l[j]?=some y->x.p=y.p->x.r=y.r->i=j)/\∀(i:Nat),i+1<l.length->∃(j:Nat)(x:Stp),l[j]?=some x/\i<j/\(i:Int)∈x.b
theorem WrI.tidy (h:WrI ts T shut sub P out names [out.length-1])(hP:P.Nodup):TidyP out :=
 ⟨fun _ _ _ _ hx hy hp hr=>h.apart hP hx hy hp hr,fun i hi=>(h.named i (by omega)).elim (fun h=>by have:=n9!.1 h;omega) id⟩
theorem WrI.right (h:WrI ts T shut sub P out names wait) {p:P3}{r:RT}(hr:lookA (ab! ts) ⟨p.t,p.r⟩=some r) {x:Stp}(hx:out[out.length-1]?=some x)(hp:x.p=p)(hxr:x.r=r):or! ts T shut sub p out:=by
 have hl:=(y3!.1 hx).1;refine⟨h.ok,by omega,by omega,by omega,x,r,?_,hp,hr,hxr⟩;rw[show((out.length:Int)-1).toNat=out.length-1 from by omega];exact hx
end
def mr! (T:List Tup)(P:List P3)(p:P3)(k:Int)(a b:ByteArray)(refs:List Int):Prop :=
 (∀x∈refs,0<=x/\∃q,P[x.toNat]?=some q/\(k=1->q∈bM! (ai! T p))/\(k=2->q=⟨p.t,p.i,a⟩)/\(k=3->q∈viaOf b (ai! T ⟨p.t,p.i,a⟩)))/\(k=2->∃x,refs=[x])
mutual
def cE! (T:List Tup)(P:List P3)(p:P3):RT->FT->Prop
 | .mk k a b ps,f=>f.k=k/\f.subs=(if k=1 then ai! T p else [])/\mr! T P p k a b f.refs/\cj! T P p ps f.ps
def cj! (T:List Tup)(P:List P3)(p:P3):List RT->List FT->Prop
 | [],l=>l=[]
 | r::rs,l=>∃f l',l=f::l'/\cE! T P p r f/\cj! T P p rs l'
end
theorem bJ! (T:List Tup)(P:List P3)(p:P3)(r:RT)(f:FT):cE! T P p r f↔f.k=r.k/\f.subs=(if r.k=1 then ai! T p else [])/\mr! T P p r.k r.a r.b f.refs/\cj! T P p r.ps f.ps:=by
 obtain⟨k,a,b,ps⟩:=r;rw[cE!];rfl
theorem df! {T:List Tup}{P:List P3}{p:P3}:∀ {rs:List RT}{l:List FT},cj! T P p rs l->l.length=rs.length/\∀(i:Nat)(r:RT),rs[i]?=some r->∃f,l[i]?=some f/\cE! T P p r f
 | [],l,h=>by
  rw[cj!]at h;subst h;exact⟨rfl,fun i r h=>by simp at h⟩
 | r::rs,l,h=>by
  rw[cj!]at h;obtain⟨f,l',rfl,h1,h2⟩:=h;obtain⟨h3,h4⟩:=df! h2;refine⟨by simp[h3],fun i q hq=>?_⟩;cases i with
  | zero =>
   simp only[List.getElem?_cons_zero,Option.some.injEq]at hq;subst hq;exact⟨f,by simp,h1⟩
  | succ i =>
   rw[List.getElem?_cons_succ]at hq;obtain⟨g,h5,h6⟩:=h4 i q hq;exact⟨g,by rw[List.getElem?_cons_succ];exact h5,h6⟩
theorem cp! {P:List P3}{X:P3->Prop}:∀(L ps:List P3)(out:List Int),(refsD ps out L).2 <+: P->(∀q∈L,X q)->(∀x∈out,0<=x/\∃q,P[x.toNat]?=some q/\X q)->∀x∈(refsD ps out L).1,0<=x/\∃q,P[x.toNat]?=some q/\X q
 | [],ps,out,_,_,ho=>by rw[refsD];exact ho
 | q::L,ps,out,h,hX,ho=>by
  rw[refsD]at h ⊢;have hp:putP ps q <+: P:=(bV! L _ _).trans h;have hm:q∈P:=hp.subset ((bP! ps q q).2 (.inr rfl));refine cp! L _ _ h (fun x hx=>hX x (u9! _ hx)) fun x hx=>?_;split at hx
  ·exact ho x hx
  ·rcases u3!.1 hx with hx | hx
   ·exact ho x hx
   ·obtain rfl:=n9!.1 hx;obtain⟨h1,h2⟩:=cr! hm;refine⟨by omega,q,?_,hX q y4!⟩;rw[Int.toNat_natCast,dR! hp,n4! h1,h2]
theorem lX! {T:List Tup}{P:List P3}(p:P3)(k:Int)(a b:ByteArray)(ps:List P3)(h:(headF T p k a b ps).2.2 <+: P):(headF T p k a b ps).1=(if k=1 then ai! T p else [])/\mr! T P p k a b (headF T p k a b ps).2.1:=by
 unfold headF at h ⊢;by_cases k1:k=1
 ·rw[if_pos k1]at h ⊢;rw[if_pos k1];refine⟨rfl,fun x hx=>?_,fun e=>by omega⟩;obtain⟨h0,q,d,c⟩:=cp! (X:=fun q=>q∈bM! (ai! T p)) _ _ _ h (fun q hq=>hq) (fun x hx=>by cases hx) x hx;exact⟨h0,q,d,fun _=>c,fun e=>by omega,fun e=>by omega⟩
 ·rw[if_neg k1]at h ⊢;rw[if_neg k1];by_cases k2:k=2
  ·rw[if_pos k2]at h ⊢;refine⟨rfl,fun x hx=>?_,fun _=>⟨_,rfl⟩⟩;obtain rfl:=n9!.1 hx;have hm:(⟨p.t,p.i,a⟩:P3)∈P:=h.subset ((bP! ps _ _).2 (.inr rfl));obtain⟨d,c⟩:=cr! hm;refine⟨by omega,_,?_,fun e=>by omega,fun _=>rfl,fun e=>by omega⟩;rw[Int.toNat_natCast,dR! h,n4! d,c]
  ·rw[if_neg k2]at h ⊢;by_cases k3:k=3
   ·rw[if_pos k3]at h ⊢;refine⟨rfl,fun x hx=>?_,fun e=>by omega⟩;obtain⟨h0,q,d,c⟩:=cp! (X:=fun q=>q∈viaOf b (ai! T ⟨p.t,p.i,a⟩)) _ _ _ h (fun q hq=>hq) (fun x hx=>by cases hx) x hx;exact⟨h0,q,d,fun e=>by omega,fun e=>by omega,fun _=>c⟩
   ·rw[if_neg k3];exact⟨rfl,⟨fun x hx=>(by cases hx),fun e=>(by omega)⟩⟩
theorem me! {T:List Tup}{P:List P3}(p:P3)(r:RT):∀ps:List P3,(formD T p r ps).2 <+: P->cE! T P p r (formD T p r ps).1:=by
 induction r using RT.ind with
 | h r ih =>
  intro ps h;rw[bF!]at h ⊢;dsimp only at h ⊢;have hH:(headF T p r.k r.a r.b ps).2.2 <+: P:=(bE! T p r.ps _).trans h
  have c:∀(L:List RT) (qs:List P3),(∀x∈L,x∈r.ps)->(ap! T p L qs).2 <+: P->cj! T P p L (ap! T p L qs).1:=by
   intro L;induction L with
   | nil=>intro qs _ _;simp[ap!,cj!]
   | cons x L ihl =>
    intro qs hx hp;rw[ap!]at hp ⊢;rw[cj!];exact⟨_,_,rfl,ih x (hx x (by simp)) qs ((bE! T p L _).trans hp),ihl (formD T p x qs).2 (fun y hy=>hx y (u9! _ hy)) hp⟩
  rw[bJ!];obtain⟨h1,h2⟩:=lX! p r.k r.a r.b ps hH;exact⟨rfl,h1,h2,c r.ps _ (fun _ h=>h) h⟩
theorem ow!.formOf {ts:List TyS}{T:List Tup}{shut:List R2}{p:P3}{most:Int}{n:Nat}(h:ow! ts T shut p most n) {i:Nat}(hi:i<n):∃q f,(walkN ts T shut p n).1[i]?=some q/\(walkN ts T shut p n).2[i]?=some f/\((ar! ts shut q=none/\f=FT.zero)\/∃r,ar! ts shut q=some r/\cE! T (walkN ts T shut p n).1 q r f):=by
 obtain⟨h2,e⟩:=h.point hi;refine⟨_,_,n4! h2,cP! ts T shut p hi,?_⟩;rw[e]
 have a:(stepG ts T shut (walkN ts T shut p n).1[i] (walkN ts T shut p i).1).2 <+: (walkN ts T shut p n).1:=by
  have:=bn! ts T shut p (i+1) n hi;rw[walkN,e]at this;exact this
 unfold stepG at a ⊢;cases hr:ar! ts shut (walkN ts T shut p n).1[i] with
 | none=>exact .inl ⟨rfl,rfl⟩
 | some r =>
  rw[hr]at a;exact .inr ⟨r,rfl,me! _ r _ a⟩
section
variable {fs : List FT} {s : P3} {n : Nat}
theorem fw! {i r:Nat}(hi:i<n):∀k:Nat,(0<(outN fs s n (r+k)).getD i 0/\(outN fs s n (r+k)).getD i 0<=(r:Int))↔0<(outN fs s n r).getD i 0
 | 0=>by
  have:=(da! (fs:=fs) (s:=s) (n:=n) r hi).2.1;exact⟨fun h=>h.1,fun h=>⟨h,this⟩⟩
 | k+1=>by
  rw[<-Nat.add_assoc,bY! hi];split
  ·next hn =>
   have h1:=dT! hn;rw[dy! (by rw[aj!];exact hi)]at h1;have h2:=(da! (fs:=fs) (s:=s) (n:=n) (r+k) hi);constructor
   ·rintro⟨-,h⟩;omega
   ·intro h;have h3:=(fw! (r:=r) hi k).2 h;rw[h2.2.2.2 h3.1]at h1;cases h1
  ·exact fw! hi k
theorem kI! {i:Nat}(hi:i<n):∀(r:Nat),0<(outN fs s n r).getD i 0->∃q:Nat,(outN fs s n r).getD i 0=((q+1:Nat):Int)/\q<r/\newS fs s (inN fs s n q) i=true
 | 0,h=>by rw[gb!]at h;omega
 | r+1,h=>by
  rw[bY! hi]at h ⊢;split
  ·next hn=>exact⟨r,rfl,by omega,hn⟩
  ·next hn =>
   rw[if_neg hn]at h;obtain⟨q,h1,h2,h3⟩:=kI! hi r h;exact⟨q,h1,by omega,h3⟩
theorem hN! {i:Nat}(hi:i<n)(h:0<(aI! fs s n).getD i 0):∃(q:Nat)(f:FT),(aI! fs s n).getD i 0=((q+1:Nat):Int)/\fs[i]?=some f/\holdF s (inN fs s n q) f=true/\q<n /\
  ∀j,j<n->((inN fs s n q).getD j false=true↔0<(aI! fs s n).getD j 0/\(aI! fs s n).getD j 0<(aI! fs s n).getD i 0):=by
 rw[<- (mg! fs s n).solve]at h ⊢;obtain⟨q,h1,h2,a⟩:=kI! hi n h;unfold newS at a;rw[v0!]at a;obtain⟨-,a⟩:=a;split at a
 ·next f hf =>
  refine⟨q,f,h1,hf,a,h2,fun j hj=>?_⟩;rw[(da! (fs:=fs) (s:=s) q hj).2.2,<-fw! hj (n-q),show q+(n-q)=n from by omega,h1];constructor
  ·rintro⟨h4,h5⟩;exact⟨h4,by omega⟩
  ·rintro⟨h4,h5⟩;exact⟨h4,by omega⟩
 ·cases a
end
theorem hA! (r:RT):∀d,r.textOk d=true->∀q∈r.pre,(q.k=1\/q.k=2\/q.k=3\/q.k=4\/q.k=5)/\(q.k=4\/q.k=5->2<=q.ps.length):=by
 induction r using RT.ind with
 | h r ih =>
  intro d hd q g
  have c:(r.k=1\/r.k=2\/r.k=3\/r.k=4\/r.k=5)/\(r.k=4\/r.k=5->2<=r.ps.length)/\∀x∈r.ps,∃d',x.textOk d'=true:=by
   obtain⟨k,a,b,ps⟩:=r;rw[RT.textOk]at hd;dsimp only[RT.k,RT.ps];split at hd
   ·next e =>
    simp only[v0!,u1!]at hd;have i:=List.length_eq_zero_iff.1 hd.2;subst i;exact⟨.inl e,fun h=>by omega,fun x f=>by cases f⟩
   ·split at hd
    ·next e =>
     simp only[v0!,u1!]at hd;have i:=List.length_eq_zero_iff.1 hd.2;subst i;exact⟨.inr (.inl e),fun h=>by omega,fun x f=>by cases f⟩
    ·split at hd
     ·next e =>
      simp only[v0!,u1!]at hd;have i:=List.length_eq_zero_iff.1 hd.2;subst i;exact⟨.inr (.inr (.inl e)),fun h=>by omega,fun x f=>by cases f⟩
     ·split at hd
      ·next e =>
       simp only[v0!,u1!]at hd;rw[be!]at hd;refine⟨.inr (.inr (.inr e)),fun _=>hd.1.2,fun x f=>?_⟩;have:=u8!.1 hd.2 x f;unfold goodP at this;rw[v0!]at this;exact⟨_,this.2⟩
      ·cases hd
  rw[r.pre_eq]at g;rcases v7!.1 g with rfl | g
  ·exact⟨c.1,c.2.1⟩
  ·obtain⟨x,f,g⟩:=aJ!.1 g;obtain⟨d',a0⟩:=c.2.2 x f;exact ih x f d' a0 q g
theorem ha! {k q:Int}{d e:Nat}(h:e<=d):bv! k q e<=bv! k q d:=by
 unfold bv!;split <;> omega
theorem gL! (r:RT):∀d e,e<=d->r.textOk d=true->r.textOk e=true:=by
 induction r using RT.ind with
 | h r ih =>
  intro d e hle h;obtain⟨k,a,b,ps⟩:=r;rw[RT.textOk]at h ⊢;split
  ·next e1=>rw[if_pos e1]at h;exact h
  ·next e1 =>
   rw[if_neg e1]at h;split
   ·next e2=>rw[if_pos e2]at h;exact h
   ·next e2 =>
    rw[if_neg e2]at h;split
    ·next e3=>rw[if_pos e3]at h;exact h
    ·next e3 =>
     rw[if_neg e3]at h;split
     ·next e4 =>
      rw[if_pos e4,v0!]at h;rw[v0!];refine⟨h.1,?_⟩;rw[be!]at *;refine u8!.2 fun x hx=>?_;have:=u8!.1 h.2 x hx;unfold goodP at this ⊢;simp only[v0!,u1!]at this ⊢;have hm:=ha! (k:=k) (q:=x.k) hle;exact⟨⟨this.1.1,by omega⟩,ih x hx _ _ hm this.2⟩
     ·next e4=>rw[if_neg e4]at h;exact h
theorem gK! (r:RT):∀d,r.textOk d=true->∀q∈r.pre,q.textOk 0=true:=by
 induction r using RT.ind with
 | h r ih =>
  intro d hd q e;rw[r.pre_eq]at e;rcases v7!.1 e with rfl | e
  ·exact gL! _ d 0 (v1! _) hd
  ·obtain⟨x,c,e⟩:=aJ!.1 e
   have:∃d',x.textOk d'=true:=by
    obtain⟨k,a,b,ps⟩:=r;rw[RT.textOk]at hd;dsimp only[RT.ps]at c;split at hd
    ·simp only[v0!,u1!]at hd;rw[List.length_eq_zero_iff.1 hd.2]at c;cases c
    ·split at hd
     ·simp only[v0!,u1!]at hd;rw[List.length_eq_zero_iff.1 hd.2]at c;cases c
     ·split at hd
      ·simp only[v0!,u1!]at hd;rw[List.length_eq_zero_iff.1 hd.2]at c;cases c
      ·split at hd
       ·simp only[v0!,u1!]at hd;rw[be!]at hd;have:=u8!.1 hd.2 x c;unfold goodP at this;rw[v0!]at this;exact⟨_,this.2⟩
       ·cases hd
   obtain⟨d',a0⟩:=this;exact ih x c d' a0 q e
def txtL:ByteArray:=⟨#[116,121,112,101,32,100,111,99,10,118,105,101,119,101,114,32,61,32,116,104,105,115,10,116,121,112,101,32,117,115,101,114]⟩
def itsL:List PIt:=[.ty docB,.rel viB thB [],.ty usB]
def lnsL:List ByteArray:=[⟨#[116,121,112,101,32,100,111,99]⟩,⟨#[118,105,101,119,101,114,32,61,32,116,104,105,115]⟩,⟨#[116,121,112,101,32,117,115,101,114]⟩]
def tsL:List TyS:=[⟨docB,[(viB,.mk 1 ⟨#[]⟩ ⟨#[]⟩ [])]⟩,⟨usB,[]⟩]
theorem np!:dm! txtL=lnsL:=by kernel_rfl
theorem stepL:itsL.foldl stepD []=tsL:=by kernel_rfl
theorem nY!:(lnsL.zip itsL).all (fun p=>lnOkB p.1 p.2)=true:=by kernel_rfl
theorem fitsL:itsL.all PIt.fitB=true:=by kernel_rfl
theorem chkL:chk06 tsL=0:=by kernel_rfl
theorem okL_:∀t∈tsL,t.Ok:=by
 intro t ht;unfold tsL at ht;simp only[v7!,List.not_mem_nil,or_false]at ht;rcases ht with rfl | rfl
 ·refine⟨by decide,fun r hr=>?_⟩;obtain rfl:=n9!.1 hr;exact⟨by decide,by simp[RT.Ok,okL];decide⟩
 ·exact⟨by decide,fun r hr=>by cases hr⟩
def pL:P3:=⟨docB,⟨#[49]⟩,viB⟩
theorem ruleL:ar! tsL [] pL=some (.mk 1 ⟨#[]⟩ ⟨#[]⟩ []):=by rfl
def xB:ByteArray:=⟨#[120]⟩
def oneS9 (r:RT):List TyS:=[⟨xB,[(xB,r)]⟩]
theorem gV! {r:RT}(h:r.textOk 0=true):bj! (oneS9 r)=true:=by
 unfold bj! oneS9 tyOk relOk;simp only[List.all_cons,List.all_nil,Bool.and_true,h,Bool.true_and];exact(by decide:(ownB xB&&(ownB xB&&decide (xB≠⟨#[116,121,112,101]⟩)))=true)
theorem je! {a b c:ByteArray}(h:a++b=a++c):b=c:=by
 have h1:=congrArg (fun x=>x.data.toList) h;simp only[ByteArray.data_append,Array.toList_append,List.append_cancel_left_eq]at h1;obtain⟨⟨b⟩⟩:=b;obtain⟨⟨c⟩⟩:=c;simpa using h1
theorem eq! {a b c:ByteArray}(h:b++a=c++a):b=c:=by
 have h1:=congrArg (fun x=>x.data.toList) h;simp only[ByteArray.data_append,Array.toList_append,List.append_cancel_right_eq]at h1;obtain⟨⟨b⟩⟩:=b;obtain⟨⟨c⟩⟩:=c;simpa using h1
def nameT (r:RT):ByteArray:=schT (oneS9 r)
theorem gh! {r q:RT}(h:r.textOk 0=true)(k:q.textOk 0=true)(e:nameT r=nameT q):r=q:=by
 unfold nameT oneS9 at e;simp only[schT,tyT,relsT,relT]at e;have e1:=eq! e;have e2:=je! e1;have e3:=eq! e2;have e4:=eq! e3;exact lm! h k (je! e4)
theorem kH! (a b:P3)(W:World):(binOp BinOp.eql 32 (.agg #[.string a.t,.string a.i,.string a.r]) (.agg #[.string b.t,.string b.i,.string b.r])).run prog W= .ok (.bool (decide (a=b))) W:=by
 obtain⟨a1,a2,a3⟩:=a;obtain⟨b1,b2,b3⟩:=b;dsimp only;go_simp;simp only[bt!];by_cases h1:a1=b1 <;> by_cases h2:a2=b2 <;> by_cases h3:a3=b3 <;> simp[h1,h2,h3]
theorem nc! (a b:P3)(W:World):(binOp BinOp.neq 32 (.agg #[.string a.t,.string a.i,.string a.r]) (.agg #[.string b.t,.string b.i,.string b.r])).run prog W= .ok (.bool (decide (a≠b))) W:=by
 obtain⟨a1,a2,a3⟩:=a;obtain⟨b1,b2,b3⟩:=b;dsimp only;go_simp;simp only[bt!];by_cases h1:a1=b1 <;> by_cases h2:a2=b2 <;> by_cases h3:a3=b3 <;> simp[h1,h2,h3]
theorem dH! (a b:P3)(W:World):(binOp BinOp.eql 33 (.agg #[.string a.t,.string a.i,.string a.r]) (.agg #[.string b.t,.string b.i,.string b.r])).run prog W= .ok (.bool (decide (a=b))) W:=by
 obtain⟨a1,a2,a3⟩:=a;obtain⟨b1,b2,b3⟩:=b;dsimp only;go_simp;simp only[bt!];by_cases h1:a1=b1 <;> by_cases h2:a2=b2 <;> by_cases h3:a3=b3 <;> simp[h1,h2,h3]
def spC (x:Stp × Value × Value):List Value:=[.string x.1.p.t,.string x.1.p.i,.string x.1.p.r,.int .i64 x.1.r.k,.string x.1.r.a,.string x.1.r.b,x.2.1,.string x.1.s.t,.string x.1.s.i,.string x.1.s.r,x.2.2]
theorem aZ! (x:Stp × Value × Value):(spC x).length=11:=rfl
def os! (S:Nat->Prop)(w:World)(l:List Stp)(v:Value):Prop:=∃q:List (Stp × Value × Value),q.map (·.1)=l/\(∀x∈q,RTAt S w x.1.r x.2.1/\Sl S w 1 x.2.2 (ic x.1.b))/\Sl S w 11 v (q.flatMap spC)
section
variable {S S' : Nat -> Prop} {w w' : World} {l : List Stp} {v : Value}
theorem os!.same (h:os! S w l v)(hs:Same S w w'):os! S w' l v:=by
 obtain⟨q,h1,h2,h3⟩:=h;exact⟨q,h1,fun x hx=>⟨(h2 x hx).1.same hs,(h2 x hx).2.same hs⟩,h3.same hs⟩
theorem os!.mono (h:os! S w l v)(hs:∀b,S b->S' b):os! S' w l v:=by
 obtain⟨q,h1,h2,h3⟩:=h;exact⟨q,h1,fun x hx=>⟨(h2 x hx).1.mono hs,(h2 x hx).2.mono hs⟩,h3.mono hs⟩
theorem os!.up (h:os! (· < w.heap.size) w l v)(hb:Below w.heap.size w w'):os! (· < w'.heap.size) w' l v:=(h.same (Same.below hb)).mono fun _ h=>n1! h hb.size
theorem os!.rows (h:os! S w l v):∃ao c,v= .slice ao l.length c/\l.length<=c/\c<=9223372036854775807/\∀i (hi:i<l.length),∃b off rv bv,ao=some ⟨b,off,none⟩/\S b/\RTAt S w l[i].r rv/\Sl S w 1 bv (ic l[i].b)/\∀(j:Nat) u,(spC (l[i],rv,bv))[j]?=some u->w.cell? ⟨b,off+i*11+j,none⟩=some u:=by
 obtain⟨q,rfl,h2,h3⟩:=h;obtain⟨ao,c,rfl,h4,h5,hc⟩:=Sl.rows aZ! (by decide) h3;refine⟨ao,c,by rw[x1!],by rw[x1!];exact h4,h5,fun i hi=>?_⟩;rw[x1!]at hi;obtain⟨b,off,rfl,hb,hc⟩:=hc (by omega);have hm:=h2 _ (n5! hi);refine⟨b,off,q[i].2.1,q[i].2.2,rfl,hb,by rw[List.getElem_map];exact hm.1,by rw[List.getElem_map];exact hm.2,fun j u hj=>hc i hi j u ?_⟩;rw[List.getElem_map]at hj;exact hj
end
abbrev NK:=Nat × ByteArray
def nkV (x:NK):Value := .agg #[.int .i64 x.1,.string x.2]
theorem kL! (a b:NK)(h:nkV a=nkV b):a=b:=by
 obtain⟨a1,a2⟩:=a;obtain⟨b1,b2⟩:=b;simp only[nkV,Value.agg.injEq,Array.mk.injEq,List.cons.injEq,Value.string.injEq,Value.int.injEq,and_true,true_and]at h;obtain⟨h1,rfl⟩:=h;have:a1=b1:=by omega
 rw[this]
theorem nkK:Keyed prog 325:=Keyed.of_law (deep_law_laid eS! (m:=3) (by decide) (of_decide_eq_true (by kernel_rfl)) (by kernel_rfl) (by kernel_rfl))
theorem lT! (d n:Nat)(h:n<=4611686018427387904):prog.keyLits (d+1) 3 [.int .i64 n]=some [.int .i64 n]:=by
 unfold Program.keyLits;rw[Tryz.underlying3]
 have:(Lit.int .i64 (n:Int)).wf=true:=by
  have h1:IntKind.i64.min = -9223372036854775808:=by decide
  have h2:IntKind.i64.max=9223372036854775807:=by decide
  simp[Lit.wf,h1,h2];omega
 simp[this]
theorem nk! (d:Nat)(x:NK)(h:x.1<=4611686018427387904)(k:x.2.size<=maxLen):prog.keyLits (d+1+1) 325 [.int .i64 x.1,.string x.2]=some [.int .i64 x.1,.string x.2.data.toList]:=by
 unfold Program.keyLits;rw[Tryz.underlying325];have e1:=lT! d x.1 h;have e2:=bL! d x.2 k;have e3:prog.cellsOf 325=2:=by kernel_rfl
 have e4:prog.cellsOf 9=1:=by kernel_rfl
 have e5:prog.cellsOf 3=1:=by kernel_rfl
 simp[e1,e2,e3,e4,e5]
theorem nl! (x:NK)(h:x.1<=4611686018427387904)(k:x.2.size<=maxLen):∃q,keyOf prog 325 (nkV x)=some q:=by
 obtain⟨d,hd⟩:=bw!;have e:=nk! (d+1+1) x h k;have e2:(prog.keyType 325&&(nkV x).formed prog 325)=true:=by kernel_rfl
 have hs:prog.types.size+1=d+1+1+1+1:=by omega
 unfold keyOf;rw[Tryz.underlying325];dsimp only;rw[if_pos e2,hs];rw[show(nkV x).cells.toList=[.int .i64 x.1,.string x.2]from rfl,e];exact⟨_,rfl⟩
abbrev NL9:=List ((Nat × RT) × Nat)
def nkM (l:NL9):List (NK × Nat):=l.map fun e=>((e.1.1,nameT e.1.2),e.2)
theorem ca! {κ ε:Type} [DecidableEq κ] {k:κ}{v:ε}:∀ {l:List (κ × ε)},lookA l k=some v->(k,v)∈l
 | [],h=>by cases h
 | x::l,h=>by
  unfold lookA at h;split at h
  ·next e=>injection h with h;rw[<-e,<-h];exact y4!
  ·exact u9! _ (ca! h)
theorem cb! {κ ε:Type} [DecidableEq κ] {k:κ}:∀ {l:List (κ × ε)},lookA l k=none->∀x∈l,x.1≠k
 | [],_,x,hx=>by cases hx
 | y::l,h,x,hx=>by
  unfold lookA at h;split at h
  ·cases h
  ·next e =>
   rcases v7!.1 hx with rfl | hx
   ·exact e
   ·exact cb! h x hx
theorem lH! {l:NL9}{k i:Nat}{r:RT}(hl:∀e∈l,e.1.2.textOk 0=true)(hr:r.textOk 0=true)(h:lookA (nkM l) (k,nameT r)=some i):((k,r),i)∈l:=by
 have:=ca! h;unfold nkM at this;obtain⟨⟨⟨k',r'⟩,i'⟩,he,e⟩:=u6!.1 this;simp only[Prod.mk.injEq]at e;obtain⟨⟨rfl,e2⟩,rfl⟩:=e;rw[<-gh! (hl _ he) hr e2];exact he
theorem lI! {l:NL9}{k:Nat}{r:RT}(h:lookA (nkM l) (k,nameT r)=none):∀e∈l,e.1≠(k,r):=fun e he e2=>by
 refine cb! h ((e.1.1,nameT e.1.2),e.2) (u6!.2 ⟨e,he,rfl⟩) ?_;rw[e2]
theorem nm! {l:NL9}{k i:Nat}{r:RT}(hl:∀e∈l,e.1.2.textOk 0=true)(hr:r.textOk 0=true)(h:∀e∈l,e.1≠(k,r)):putA (nkM l) (k,nameT r) i=nkM (l++[((k,r),i)]):=by
 rw[bb! (fun x hx e=>by
  obtain⟨y,hy,rfl⟩:=u6!.1 hx;simp only[Prod.mk.injEq]at e;exact h y hy (by rw[<-gh! (hl y hy) hr e.2,<-e.1]))]
 unfold nkM;rw[v9!];rfl
abbrev pwC (tv fi gp gf rv:Value) (sub:P3) (am:Nat) (ov:Value):Array Value:=#[tv,fi,gp,gf,.string sub.t,.string sub.i,.string sub.r,rv,.map (some am),ov,.int .i64 0]
theorem nO!:oi! prog 90 109 11 184:=oi!.mk' Tryz.underlying90 (show _=some (some (.agg #[.string ⟨#[]⟩,.string ⟨#[]⟩,.string ⟨#[]⟩,.int .i64 0,.string ⟨#[]⟩,.string ⟨#[]⟩,.slice none 0 0,.string ⟨#[]⟩,.string ⟨#[]⟩,.string ⟨#[]⟩,.slice none 0 0]),11,184)by kernel_rfl) rfl (by decide)
structure PwAt (w:World)(wp am B:Nat)(tv fi gp gf rv:Value)(sub:P3)(D:Nat->Prop)(out:List Stp)(names:NL9)(ov:Value):Prop where
 box:Blk w wp (pwC tv fi gp gf rv sub am ov) 197
 num:Mp prog 325 nkV nuV w am (nkM names)
 row:∃q:List (Stp × Value × Value),q.map (·.1)=out/\Own w B 109 11 ov (q.flatMap spC)/\∀x∈q,RTAt D w x.1.r x.2.1/\Sl D w 1 x.2.2 (ic x.1.b)
 dk:∀b,D b->KX wp am w ov b
 low:∀b,b<B->D b
section
variable {w w' : World} {wp am B : Nat} {tv fi gp gf rv ov ov' : Value} {sub : P3} {D D' : Nat -> Prop} {out : List Stp} {names : NL9}
theorem Fine.kx {pv pv':Value}{x:Nat}(h:Fine wp am w w' pv pv')(hx:KX wp am w pv x):KX wp am w' pv' x:=⟨n1! hx.1 h.size,hx.2.1,hx.2.2.1,fun e=>(h.wher x e).elim hx.2.2.2 fun e=>by have:=hx.1;omega⟩
theorem PwAt.ne (h:PwAt w wp am B tv fi gp gf rv sub D out names ov):wp≠am:=fun e=>h.num.notCells _ _ _ (e▸h.box)
theorem PwAt.own (h:PwAt w wp am B tv fi gp gf rv sub D out names ov):∀g,ov.ownBlock=some g->g≠wp/\g≠am/\B<=g/\g<w.heap.size:=fun g hg=>by
 obtain⟨q,-,ho,-⟩:=h.row;obtain⟨cur,h2⟩:=ho.typed hg;refine⟨fun e=>?_,fun e=>?_,(ho.block g hg).1,(ho.block g hg).2⟩
 ·subst e;rw[show w.heap[g]?=_ from h.box]at h2;injection h2 with h2
  injection h2 with _ h2 _
  exact absurd h2 (by decide)
 ·subst e;exact h.num.notCells _ _ _ h2
theorem PwAt.same (h:PwAt w wp am B tv fi gp gf rv sub D out names ov)(hs:∀b,(b=wp\/b=am\/ov.ownBlock=some b\/D b)->w'.heap[b]?=w.heap[b]?)(hz:w.heap.size<=w'.heap.size):PwAt w' wp am B tv fi gp gf rv sub D out names ov:=by
 obtain⟨q,h1,h2,h3⟩:=h.row;exact⟨(hs wp (.inl rfl)).trans h.box,h.num.same (hs am (.inr (.inl rfl))),⟨q,h1,h2.keepOwn fun g hg=>hs g (.inr (.inr (.inl hg))),fun x hx=>⟨(h3 x hx).1.same fun b hb=>hs b (.inr (.inr (.inr hb))),(h3 x hx).2.same fun b hb=>hs b (.inr (.inr (.inr hb)))⟩⟩,fun b hb=>⟨n1! (h.dk b hb).1 hz,(h.dk b hb).2⟩,h.low⟩
theorem PwAt.lt (h:PwAt w wp am B tv fi gp gf rv sub D out names ov) {b:Nat}(hb:b=wp\/b=am\/ov.ownBlock=some b\/D b):b<w.heap.size:=by
 rcases hb with rfl | rfl | hb | hb
 ·exact h.box.lt
 ·exact h.num.lt
 ·exact(h.own b hb).2.2.2
 ·exact(h.dk b hb).1
theorem PwAt.ext (h:PwAt w wp am B tv fi gp gf rv sub D out names ov)(hx:Ext w w'):PwAt w' wp am B tv fi gp gf rv sub D out names ov:=h.same (fun b hb=>hx.block b (h.lt hb)) hx.size
theorem PwAt.aside (h:PwAt w wp am B tv fi gp gf rv sub D out names ov) {x:Nat}(hk:KX wp am w ov x)(hd:¬ D x)(hs:∀b,b<w.heap.size->b≠x->w'.heap[b]?=w.heap[b]?)(hz:w.heap.size<=w'.heap.size):PwAt w' wp am B tv fi gp gf rv sub D out names ov:=h.same (fun b hb=>hs b (h.lt hb) fun e=>by
 subst e;rcases hb with hb | hb | hb | hb
 ·exact hk.2.1 hb
 ·exact hk.2.2.1 hb
 ·exact hk.2.2.2 hb
 ·exact hd hb) hz
theorem PwAt.setBox (h:PwAt w wp am B tv fi gp gf rv sub D out names ov) {x:Nat}(hk:KX wp am w ov x)(hd:¬ D x)(i:Nat)(u:Value):PwAt (w.setCell ⟨x,i,none⟩ u) wp am B tv fi gp gf rv sub D out names ov:=h.aside hk hd (fun b _ hb=>Below.heap_setCell _ _ _ b hb) (by simp)
theorem PwAt.steps (h:PwAt w wp am B tv fi gp gf rv sub D out names ov):os! (· < w.heap.size) w out ov:=by
 obtain⟨q,h1,h2,h3⟩:=h.row;exact⟨q,h1,fun x hx=>⟨(h3 x hx).1.mono fun b hb=>(h.dk b hb).1,(h3 x hx).2.mono fun b hb=>(h.dk b hb).1⟩,h2.slU⟩
theorem PwAt.old (h:PwAt w wp am B tv fi gp gf rv sub D out names ov)(hf:Fine wp am w w' ov ov'):Below B w w' :=
 ⟨hf.kept.os,hf.kept.tape,hf.kept.output,hf.kept.size,fun b hb=>hf.kept.block b (h.dk b (h.low b hb))⟩
theorem Fine.at {x:Nat}{cs:Array Value}{e:TypeId}{pv pv':Value}(h:Fine wp am w w' pv pv')(hk:KX wp am w pv x)(hx:Blk w x cs e):Blk w' x cs e:=(h.kept.block x hk).trans hx
theorem PwAt.add {x:Stp}{rv2 bv:Value}{D2:Nat->Prop}{q:List (Stp × Value × Value)}(h:PwAt w wp am B tv fi gp gf rv sub D out names ov)(h1:q.map (·.1)=out)(h3:∀x∈q,RTAt D w x.1.r x.2.1/\Sl D w 1 x.2.2 (ic x.1.b))(hd:∀b,D b->D2 b)(hd2:∀b,D2 b->KX wp am w ov b)
  (hr:RTAt D2 w x.r rv2) (hb:Sl D2 w 1 bv (ic x.b)) (hg:w.grownBy w' ov.ownBlock)
  (hown:Own w' B 109 11 ov' (q.flatMap spC++spC (x,rv2,bv))) (hw:∀g,ov'.ownBlock=some g->ov.ownBlock=some g\/w.heap.size<=g) :
  PwAt (w'.setCell ⟨wp,9,none⟩ ov') wp am B tv fi gp gf rv sub D2 (out++[x]) names ov':=by
 have c:∀b,KX wp am w ov b->(w'.setCell ⟨wp,9,none⟩ ov').heap[b]?=w.heap[b]?:=fun b hb=>(Below.heap_setCell _ _ _ b hb.2.1).trans (hg.block b hb.1 fun e=>hb.2.2.2 e.symm);have a0:Blk w' wp (pwC tv fi gp gf rv sub am ov) 197:=(hg.block wp h.box.lt fun e=>(h.own wp e.symm).1 rfl).trans h.box;have a2:(w'.setCell ⟨wp,9,none⟩ ov').heap.size=w'.heap.size:=by simp
 have a1:∀g,ov'.ownBlock=some g->g≠wp:=fun g hgg e=>by
  rcases hw g hgg with e2 | e2
  ·exact(h.own g e2).1 e
  ·have:=h.box.lt;omega
 refine⟨a0.set_to 9 _ rfl,?_,⟨q++[(x,rv2,bv)],by rw[v9!,h1];rfl,?_,?_⟩,?_,fun b hb=>hd b (h.low b hb)⟩
 ·exact h.num.same ((Below.heap_setCell _ _ _ am fun e=>h.ne e.symm).trans (hg.block am h.num.lt fun e=>(h.own am e.symm).2.1 rfl))
 ·rw[x9!];have:Own (w'.setCell ⟨wp,9,none⟩ ov') B 109 11 ov' (q.flatMap spC++spC (x,rv2,bv)):=hown.keepOwn fun g hgg=>Below.heap_setCell _ _ _ g (a1 g hgg);simpa using this
 ·intro y hy;rcases u3!.1 hy with hy | hy
  ·exact⟨((h3 y hy).1.mono hd).same fun b hb=>c b (hd2 b hb),((h3 y hy).2.mono hd).same fun b hb=>c b (hd2 b hb)⟩
  ·rw[n9!.1 hy];exact⟨hr.same fun b hb=>c b (hd2 b hb),hb.same fun b hb=>c b (hd2 b hb)⟩
 ·intro b hb;have a:=hd2 b hb
  exact⟨by rw[a2];exact n1! a.1 hg.size,a.2.1,a.2.2.1,fun e=>by
   rcases hw b e with e2 | e2
   ·exact a.2.2.2 e2
   ·have:=a.1;omega⟩
end
def cD! (R:List Int)(k:Nat)(x:Int):Bool:=decide (0<R.getD x.toNat 0/\R.getD x.toNat 0<R.getD k 0)
theorem ko! (x:Int)(wp am bw bt:Nat)(tv fi gp gf rv ov:Value)(sub:P3)(R:List Int)(k:Nat)(hx:0<=x/\x.toNat<R.length)(hk:k<R.length)(w:World)(hb:Blk w wp (pwC tv fi gp gf rv sub am ov) 197)(h1:Blk w bw #[.pointer (some ⟨wp,0,none⟩)] 194)(h2:Blk w bt #[.int .i64 k] 3)(hr:Sl (· < w.heap.size) w 1 rv (ic R)) :
  Calls prog 269 #[.int .i64 x,.pointer (some ⟨bw,0,none⟩),.pointer (some ⟨bt,0,none⟩)] w fun e w'=>e= .returned (.bool (cD! R k x))/\Ext w w':=by
 obtain⟨n,rfl⟩:=Int.eq_ofNat_of_zero_le hx.1;have hn:n<R.length:=by have:=hx.2;omega
 obtain⟨ro,rn,rc,rfl,f,-,-⟩:=hr.len;rw[ad!,Nat.mul_one]at f;subst f;obtain⟨rb,ro,rfl,-,c1⟩:=bC! hr n hn;obtain⟨a1,a0,e,-,c2⟩:=bC! hr k hk;cases e
 have HE:=h! (show cD! R k (n:Int)=(decide (0<R[n])&&decide (R[n]<R[k]))from by
  unfold cD!;rw[Int.toNat_natCast,n8!,n8!,n4! hn,n4! hk];simp)
 have HB:=h! hb;have H1:=h! h1;have H2:=h! h2;have C1:=h! c1;have C2:=h! c2;have a2:(n:Int)<(R.length:Int):=by omega
 have a3:(k:Int)<(R.length:Int):=by omega
 clear hb h1 h2 hr c1 c2 hx;generalize R[n]=a at *;generalize R[k]=c at *;clear hn hk;go_enter func269,ntmps269
 go_wp2_with fail
 obtain⟨i,b⟩:=e! (World.drew w);have g:=h! (show Ext w i from xd! b);refine re! b ?_;clear b;have g1:=fun W (h:Ext i W)=>(HB.out.below (Ext.trans g.out h)).cells;have g2:=fun W (h:Ext i W)=>(H1.out.below (Ext.trans g.out h)).cells;have g3:=fun W (h:Ext i W)=>(H2.out.below (Ext.trans g.out h)).cells;have g4:=fun W (h:Ext i W)=>Ext.cell (Ext.trans g.out h) C1.out;have g5:=fun W (h:Ext i W)=>Ext.cell (Ext.trans g.out h) C2.out;unfold pwC at g1;by_cases ha:0<a
 ·(refine WalkN.tk [0,1,2,3,4,5,6,7,8,9,10,11,12,13,14,15,16,17,18,19,20,21,22,23,24,25] ?_;(iterate 26 (refine c! ?_));refine TkN.n ?_)
  refine d! ?_;clear g1 g2 g3 g4 g5;go_wp2_with fail
  go_ret
  exact⟨by rw[HE.out,v2! ha];rfl,g.out⟩
 ·(refine WalkN.tk [0,1,2,3,4,5,6,7,8] ?_;(iterate 9 (refine c! ?_));refine TkN.n ?_)
  refine k! 9 ?_;refine k! 10 ?_;refine k! 11 ?_;refine k! 12 ?_;refine k! 13 ?_;refine k! 14 ?_;refine k! 15 ?_;refine k! 16 ?_;refine k! 17 ?_;refine k! 18 ?_;refine k! 19 ?_;refine k! 20 ?_;refine k! 21 ?_;refine k! 22 ?_;refine k! 23 ?_
  (refine WalkN.tk [24,25] ?_;(iterate 2 (refine c! ?_));refine TkN.n ?_)
  refine d! ?_;clear g1 g2 g3 g4 g5;go_wp2_with fail
  go_ret
  exact⟨by rw[HE.out,show decide (0<a)=false from v3! (by omega)];rfl,g.out⟩
theorem iV! (wp am:Nat)(tv fi gp gf rv ov lv:Value)(sub:P3)(R l:List Int)(k:Nat)(hx:∀x∈l,0<=x/\x.toNat<R.length)(hk:k<R.length)(hs:∃x∈l,cD! R k x=true)(w:World)(hb:Blk w wp (pwC tv fi gp gf rv sub am ov) 197)(hr:Sl (· < w.heap.size) w 1 rv (ic R))(hl:Sl (· < w.heap.size) w 1 lv (ic l)) :
  Calls prog 217 #[.pointer (some ⟨wp,0,none⟩),lv,.int .i64 k] w fun e w'=>∃(j:Nat) (x:Int),e= .returned (.int .i64 j)/\l[j]?=some x/\cD! R k x=true/\Ext w w':=by
 obtain⟨lo,ln,lc,rfl,-,-,-⟩:=hl.len;obtain⟨o,a⟩:=e! (w.alloc (.cells #[.pointer (some ⟨wp,0,none⟩)] 194));obtain⟨f,b⟩:=e! (o.alloc (.cells #[.int .i64 k] 3));have ea:o.heap.size=w.heap.size+1:=by rw[a];simp
 have xa:Ext w o:=xa! a
 have xb:Ext o f:=xa! b
 have n:=h! (xa.trans xb);have B1:=h! (show Blk f w.heap.size #[.pointer (some ⟨wp,0,none⟩)] 194 from Blk.below (bm! a) xb);have B2:=h! (show Blk f (w.heap.size+1) #[.int .i64 k] 3 from by rw[b,<-ea];exact Blk.made _ _ _)
 have d:=h! (dx! f l _ 269 #[.pointer (some ⟨w.heap.size,0,none⟩),.pointer (some ⟨w.heap.size+1,0,none⟩)] (enters_of func269 (by kernel_rfl) rfl) (cD! R k) ((hl.same (Same.below n.out)).mono fun _ h=>n1! h n.out.size) fun i hi W hW =>
  ko! l[i] wp am w.heap.size (w.heap.size+1) tv fi gp gf rv ov sub R k (hx _ (n5! hi)) hk W (hb.below (Ext.trans n.out hW)) (B1.out.below hW) (B2.out.below hW) ((hr.same (Same.below (Ext.trans n.out hW))).mono fun _ h=>n1! h (Ext.trans n.out hW).size))
 have HS:=h! hs;have a0:∀(fn:Fn) (first cap:Array Value) (W:World),(Instr.makeFunc fn first cap).run prog W= .ok (.func fn first cap) W:=fun _ _ _ _=>rfl;clear hx hk hs hb hr hl ea xa xb B1 B2;go_enter func217,ntmps217
 go_wp2_with fail
 rw[<-a,<-b];clear a b a0;refine d.out.mono ?_;rintro e w2 ⟨h,c⟩;have HX:=h! (Ext.trans n.out c)
 obtain⟨i,rfl,g⟩:∃i:Nat,e= .returned (.int .i64 (i:Int))/\∃x,l[i]?=some x/\cD! R k x=true:=by
  rcases h with⟨i,he,-,g,-⟩|⟨-,g⟩
  ·exact⟨i,he,g⟩
  ·exfalso
   obtain⟨x,hx,m⟩:=HS.out;obtain⟨j,hj,rfl⟩:=u0! hx;rw[g j hj]at m;cases m
 have H1:=h! g;clear g h c d;go_wp2_with fail
 go_ret
 obtain⟨x,g,m⟩:=H1.out;exact⟨i,x,rfl,g,m,HX.out⟩
def inB9 (R:List Int)(rd:Int):List Bool:=R.map fun x=>decide (0<x/\x<rd)
def inC9 (R:List Int)(rd:Int)(i:Nat):List Bool:=inB9 (R.take i) rd++List.replicate (R.length-i) false
theorem ke! {R:List Int}{rd:Int}{i:Nat}(hi:i<R.length):(inC9 R rd i).set i (decide (0<R[i]/\R[i]<rd))=inC9 R rd (i+1):=by
 unfold inC9 inB9;rw[n2! hi,v9!,show R.length-i=(R.length-(i+1))+1 from by omega,List.replicate_succ,List.set_append];simp[Nat.min_eq_left (Nat.le_of_lt hi)]
theorem in29w (wp am:Nat)(tv fi gp gf rv ov:Value)(sub:P3)(R:List Int)(rd:Int)(hR:R.length<=1000000)(w:World)(hb:Blk w wp (pwC tv fi gp gf rv sub am ov) 197)(hr:Sl (· < w.heap.size) w 1 rv (ic R)) :
  Calls prog 218 #[.pointer (some ⟨wp,0,none⟩),.int .i64 rd] w fun e w'=>∃v,e= .returned v/\Own w' w.heap.size 4 1 v (boC (inB9 R rd))/\Ext w w':=by
 obtain⟨ro,rn,rc,rfl,m,-,-⟩:=hr.len;rw[ad!,Nat.mul_one]at m;subst m;have a4:=h! (bC! hr);have HB:=h! hb;have a1:=h! hR;have k:=h! (makeB R.length (by omega));obtain⟨wa,a⟩:=e! (w.alloc (.cells (madeCells #[.bool false] R.length) 4));have XA:=h! (show Ext w wa from xa! a)
 have HO:=h! (show Own wa w.heap.size 4 1 (.slice (some ⟨w.heap.size,0,none⟩) R.length R.length) (boC (inC9 R rd 0))from by
  have:=Own.made1 w R.length (by omega) 4 (.bool false);rw[<-a]at this;rw[show boC (inC9 R rd 0)=List.replicate R.length (.bool false)from by simp[inC9,inB9,boC]];exact this)
 have l:=HB.out.cells;have i:=(HB.out.below XA.out).cells;have a0:=k.out;rw[a]at i;unfold pwC at l i;clear hb hr hR k;go_enter func218,ntmps218
 go_wp2_with fail
 rw[<-a];clear a l i a0;go_loopw [6,7,19] (fun _ _ jv wr=>∃j:Nat,j<=R.length/\jv= .int .i64 j/\Own wr w.heap.size 4 1 (.slice (some ⟨w.heap.size,0,none⟩) R.length R.length) (boC (inC9 R rd j))/\Ext w wr) (fun _ _ jv _=>R.length-(intOf jv).toNat)
 case atStart=>exact⟨0,v1! _,rfl,HO.out,XA.out⟩
 case round =>
  obtain⟨j,hj,rfl,ho,hx⟩:=hrel;have q:=h! ho;have QX:=h! hx;clear ho hx HO;by_cases hlt:j<R.length
  ·obtain⟨b,a5,rfl,a2,c0⟩:=a4.out j hlt;have d0:=Ext.cell QX.out c0;have d:=h! hlt;have f:=h! (show wrap64 ((j:Int)+1)=((j+1:Nat):Int)from by have:=a1.out;unfold wrap64;omega);have a6:(j:Int)<(R.length:Int):=by omega
   have a3:=h! (ke! (rd:=rd) hlt);generalize R[j]=x at *;obtain⟨n,-,cs,hB,hc⟩:=q.out.cellAt;obtain⟨y,d1⟩:∃y,wr.cell? ⟨w.heap.size,j,none⟩=some y:=⟨_,hc j (by rw[n];exact hlt)⟩;have f1:=hB.free
   have c:=h! (show Own (wr.setCell ⟨w.heap.size,j,none⟩ (.bool (decide (0<x/\x<rd)))) w.heap.size 4 1 (.slice (some ⟨w.heap.size,0,none⟩) R.length R.length) (boC (inC9 R rd (j+1)))from by
    have:=q.out.set1 j (.bool (decide (0<x/\x<rd)));rw[show(boC (inC9 R rd j)).set j (.bool (decide (0<x/\x<rd)))=boC ((inC9 R rd j).set j (decide (0<x/\x<rd)))from by unfold boC;rw[List.map_set],a3.out]at this;exact this)
   have g:Hid (Ext w (wr.setCell ⟨w.heap.size,j,none⟩ (.bool (decide (0<x/\x<rd))))):=h! (Below.setCell QX.out (p:=⟨w.heap.size,j,none⟩) (n0! _) _);clear c0 a2 hB hc n hlt;by_cases hx0:0<x
   ·have o:decide (0<x/\x<rd)=decide (x<rd):=by simp[hx0]
    rw[o]at c g;clear o;go_wp2_with fail
    go_roundw
    case rel=>exact⟨j+1,d.out,by first | rw[f.out] | go_num,c.out,g.out⟩
    case measure=>have:=d.out;(try rw[f.out]);simp[intOf];omega
   ·have o:decide (0<x/\x<rd)=false:=by simp[hx0]
    rw[o]at c g;clear o;go_wp2_with fail
    go_roundw
    case rel=>exact⟨j+1,d.out,by first | rw[f.out] | go_num,c.out,g.out⟩
    case measure=>have:=d.out;(try rw[f.out]);simp[intOf];omega
  ·obtain rfl:j=R.length:=by omega
   have QF:=h! (show Own wr w.heap.size 4 1 (.slice (some ⟨w.heap.size,0,none⟩) R.length R.length) (boC (inB9 R rd))from by
    have:=q.out;rw[show inC9 R rd R.length=inB9 R rd from by simp[inC9]]at this;exact this)
   clear hlt q;go_wp2_with fail
   go_ret
   exact⟨_,rfl,QF.out,QX.out⟩
end Go.Proofs.YtlhaghoajpglaaaGreat
