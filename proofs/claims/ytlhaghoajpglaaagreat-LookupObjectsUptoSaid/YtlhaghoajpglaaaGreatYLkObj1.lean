/- Lemmas for the claim, no condition. -/
import Derived.DeepKeys4
import Derived.Test.YtlhaghoajpglaaaGreatYLkObj0
import Derived.DeepKeys4
set_option maxRecDepth 100000
set_option maxHeartbeats 4000000
namespace Go.Proofs.YtlhaghoajpglaaaGreat
open Go Go.RowKit Go.Proofs.Tryz
open Go.Maps (Keyed)
open Go.ChangeMaps (setBlock modify_eq_set)
open Go.MapKept (Stamped stamped_push stamped_modify stamped_erase)
theorem dS! {α:Type}(p:α->Bool):∀(l:List α)(j:Nat),(∀x,l[j]?=some x->p x=false)->(l.eraseIdx j).filter p=l.filter p
 | [],_,_=>rfl
 | x::l,0,h=>by
  rw[List.eraseIdx_cons_zero,List.filter_cons_of_neg];rw[h x rfl];decide
 | x::l,j+1,h=>by
  rw[List.eraseIdx_cons_succ,List.filter_cons,List.filter_cons,dS! p l j fun y hy=>h y (by simpa using hy)]
section
variable {P : Program} {k t e : TypeId} {κ α : Type} {kv : κ -> Value} {ev : α -> Value} {w : World} {b r : Nat} {l rem : List (κ × α)}
theorem Rng.drop {ty:TypeId} [DecidableEq κ] (h:Rng P k kv ev w b r l rem)(K:Keyed P k)(inj:∀a b,kv a=kv b->a=b)(ht:P.underlying t=some (.map k e)) {a:κ}(hk:∃q,keyOf P k (kv a)=some q)(ha:∀p∈rem,p.1≠a) :
  ∃w',(Builtin.delete_ #[t,k] ty #[.map (some b),kv a]).run P w= .ok (.tuple #[]) w'/\Rng P k kv ev w' b r (delA l a) rem/\pT! w w' b:=by
 have hn:=h.mp.nodup;have a0:=h.ne;obtain⟨A,d,f,c,c0,B,hs,C,u,hr,m,v,n,g⟩:=h;obtain⟨q,hq⟩:=hk;have z:∀o,(setBlock w b o).heap[r]?=some (.mapIter (some b) f c c0):=fun o=>(ax! _ _ _ _ a0).trans hr;rcases K.find w hq A.toList (eE! C u)with⟨h1,h2⟩|⟨j,e0,h1,h2,h3⟩
 ·refine⟨setBlock w b (.map A d),?_,⟨A,d,f,c,c0,aJ! B,hs,?_,?_,z _,m,v,n,g⟩,_,rfl⟩
  ·simp[Builtin.delete_,run_underlying ht,MapKept.run_getObj_map B,K.check w _ hq,h1,MapKept.run_setObj_map _ B,Result.andThen,setBlock]
  ·rw[gp! (cS! C h2),C]
  ·rw[gp! (cS! C h2)];exact u
 ·obtain⟨p,hp,e1,e2⟩:=ga! C h2;have a2:p.1=a:=inj _ _ (e1.symm.trans h3);have a1:j<A.size:=by simpa using (y3!.1 h2).1
  have i:(A.eraseIdxIfInBounds j).toList=A.toList.eraseIdx j:=by
   unfold Array.eraseIdxIfInBounds;rw[dif_pos a1];simp
  have hd:=(cv! (x:=p.2) hn hp a2).2.2;refine⟨setBlock w b (.map (A.eraseIdxIfInBounds j) d),?_,⟨_,_,f,c,c0,aJ! B,stamped_erase hs j,?_,?_,z _,?_,v,n,?_⟩,_,rfl⟩
  ·simp[Builtin.delete_,run_underlying ht,MapKept.run_getObj_map B,K.check w _ hq,h1,MapKept.run_setObj_map _ B,Result.andThen,setBlock]
  ·rw[hd,i,Go.ChangeMaps.map_eraseIdx,Go.ChangeMaps.map_eraseIdx,C]
  ·rw[hd];intro y hy;exact u y ((List.eraseIdx_sublist _ _).subset hy)
  ·rw[i];intro x hx;exact m x ((List.eraseIdx_sublist _ _).subset hx)
  ·rw[<-g]
   have:(leftOf (A.eraseIdxIfInBounds j) c).toList=(leftOf A c).toList:=by
    simp only[leftOf,Array.toList_filter];rw[i];refine dS! _ _ _ fun x hx=>?_;rw[h2]at hx;cases hx;rw[Bool.eq_false_iff];intro hc
    have s:e0∈(leftOf A c).toList:=by
     simp only[leftOf,Array.toList_filter];exact List.mem_filter.2 ⟨List.mem_of_getElem? h2,hc⟩
    have h5:(e0.key,e0.val)∈(leftOf A c).toList.map (fun x=>(x.key,x.val)):=u6!.2 ⟨e0,s,rfl⟩;rw[g]at h5;obtain⟨p',a3,e'⟩:=u6!.1 h5;refine ha p' a3 (inj _ _ ?_);have:=congrArg Prod.fst e';exact this.trans h3
   rw[this]
theorem pj! {ι:Type} [DecidableEq ι] {l:List ι}(hn:l.Nodup)(a:ι):delA (blG l) a=blG (l.filter fun x=>decide (x≠a)):=by
 induction l with
 | nil=>rfl
 | cons x r ih =>
  rw[List.nodup_cons]at hn;by_cases e:x=a
  ·subst e
   have:(x::r).filter (fun y=>decide (y≠x))=r:=by
    rw[List.filter_cons_of_neg (by simp),List.filter_eq_self.2];intro y hy;simp only[u1!];exact fun e=>hn.1 (e▸hy)
   rw[this];simp[blG,delA]
  ·rw[List.filter_cons_of_pos (by simpa using e)];simp only[blG,v8!,delA]at *;rw[if_neg e,ih hn.2]
end
section
variable {P : Program} (w : World) {ops : Array Oper} {rest : List Oper} {o : Oper} {a : Act} {Q : Exit -> Act -> World -> Prop} {κ α : Type} {kv : κ -> Value} {ev : α -> Value} {b r : Nat} {l rem : List (κ × α)}
end
end Go.Proofs.YtlhaghoajpglaaaGreat
namespace Go.Proofs.YtlhaghoajpglaaaGreat
open Go Go.Maps Go.RowKit Go.Proofs.Tryz
inductive RT where
 | mk (k:Int) (a b:ByteArray) (ps:List RT)
def RT.k:RT->Int | .mk k _ _ _=>k
def RT.a:RT->ByteArray | .mk _ a _ _=>a
def RT.b:RT->ByteArray | .mk _ _ b _=>b
def RT.ps:RT->List RT | .mk _ _ _ ps=>ps
instance:Inhabited RT:=⟨.mk 0 ByteArray.empty ByteArray.empty []⟩
mutual
def RT.sz:RT->Nat | .mk _ _ _ ps=>1+szL ps
def szL:List RT->Nat | []=>0 | r::rs=>r.sz+szL rs
end
theorem ei! {p:RT}:∀ {ps:List RT},p∈ps->p.sz<=szL ps
 | r::rs,h=>by
  rw[szL];rcases v7!.1 h with rfl | h
  ·omega
  ·have:=ei! h;omega
theorem RT.sz_lt {r p:RT}(h:p∈r.ps):p.sz<r.sz:=by
 obtain⟨k,a,b,ps⟩:=r;have:=ei! (show p∈ps from h);rw[RT.sz];omega
theorem RT.sz_eq (r:RT):r.sz=1+szL r.ps:=by
 obtain⟨k,a,b,ps⟩:=r;rw[RT.sz];rfl
theorem RT.ind {Q:RT->Prop}(h:∀r,(∀p∈r.ps,Q p)->Q r)(r:RT):Q r:=by
 generalize hn:r.sz=n;induction n using Nat.strongRecOn generalizing r with
 | ind n ih=>exact h r fun p hp=>ih p.sz (by have:=RT.sz_lt hp;omega) p rfl
theorem fi! (a b:List RT):szL (a++b)=szL a+szL b:=by
 induction a with
 | nil=>simp[szL]
 | cons x a ih=>rw[x2!,szL,szL,ih];omega
theorem dz! {l:List RT}{i:Nat}(hi:i<l.length):szL (l.take (i+1))=szL (l.take i)+l[i].sz:=by
 rw[n2! hi,fi!];simp[szL]
mutual
def RT.Ok:RT->Prop | .mk k a b ps=>(-9223372036854775808<=k/\k<=9223372036854775807)/\a.size<=140737488351232/\b.size<=140737488351232/\okL ps
def okL:List RT->Prop | []=>True | r::rs=>r.Ok/\okL rs
end
theorem jj!:∀ {ps:List RT},okL ps↔∀p∈ps,p.Ok
 | []=>by simp[okL]
 | r::rs=>by rw[okL,jj!];simp
theorem RT.ok_iff (r:RT):r.Ok↔(-9223372036854775808<=r.k/\r.k<=9223372036854775807)/\r.a.size<=140737488351232/\r.b.size<=140737488351232/\∀p∈r.ps,p.Ok:=by
 obtain⟨k,a,b,ps⟩:=r;rw[RT.Ok,jj!];rfl
def rC (x:RT × Value):List Value:=[.int .i64 x.1.k,.string x.1.a,.string x.1.b,x.2]
theorem gN! (x:RT × Value):(rC x).length=4:=rfl
mutual
def RTAt (S:Nat->Prop)(w:World):RT->Value->Prop
 | .mk _ _ _ ps,v=>∃l:List Value,RTsAt S w ps l/\Sl S w 4 v ((ps.zip l).flatMap rC)
def RTsAt (S:Nat->Prop)(w:World):List RT->List Value->Prop
 | [],l=>l=[]
 | r::rs,l=>∃pv l',l=pv::l'/\RTAt S w r pv/\RTsAt S w rs l'
end
theorem eA! {S:Nat->Prop}{w:World}:∀ {ps:List RT}{l:List Value},RTsAt S w ps l->(ps.zip l).map (·.1)=ps/\∀x∈ps.zip l,RTAt S w x.1 x.2
 | [],l,h=>by rw[RTsAt]at h;subst h;simp
 | r::rs,l,h=>by
  rw[RTsAt]at h;obtain⟨pv,l',rfl,h1,h2⟩:=h;obtain⟨h3,h4⟩:=eA! h2;refine⟨by rw[List.zip_cons_cons,v8!,h3],fun x hx=>?_⟩;rw[List.zip_cons_cons]at hx;rcases v7!.1 hx with rfl | hx
  ·exact h1
  ·exact h4 x hx
theorem iR! {S:Nat->Prop}{w:World}:∀ {q:List (RT × Value)},(∀x∈q,RTAt S w x.1 x.2)->RTsAt S w (q.map (·.1)) (q.map (·.2))
 | [],_=>by rw[List.map_nil,List.map_nil,RTsAt]
 | x::q,h=>by
  rw[v8!,v8!,RTsAt];exact⟨x.2,_,rfl,h x y4!,iR! fun y hy=>h y (u9! _ hy)⟩
theorem fM! {α β:Type}:∀(q:List (α × β)),(q.map (·.1)).zip (q.map (·.2))=q
 | []=>rfl
 | x::q=>by rw[v8!,v8!,List.zip_cons_cons,fM! q]
theorem RTAt.iff {S:Nat->Prop}{w:World}(r:RT)(v:Value):RTAt S w r v↔∃q:List (RT × Value),q.map (·.1)=r.ps/\(∀x∈q,RTAt S w x.1 x.2)/\Sl S w 4 v (q.flatMap rC):=by
 obtain⟨k,a,b,ps⟩:=r;rw[RTAt];constructor
 ·rintro⟨l,c,h2⟩;exact⟨_,(eA! c).1,(eA! c).2,h2⟩
 ·rintro⟨q,c,h2,h3⟩;refine⟨q.map (·.2),?_,?_⟩
  ·have:=iR! h2;rwa[c]at this
  ·rw[show ps=q.map (·.1)from c.symm,fM!];exact h3
theorem RTAt.same {S:Nat->Prop}{w w':World}{r:RT}{v:Value}(h:RTAt S w r v)(hs:Same S w w'):RTAt S w' r v:=by
 induction r using RT.ind generalizing v with
 | h r ih =>
  obtain⟨q,h1,h2,h3⟩:=(RTAt.iff r v).1 h;exact(RTAt.iff r v).2 ⟨q,h1,fun x hx=>ih x.1 (by rw[<-h1];exact List.mem_map_of_mem hx) (h2 x hx),h3.same hs⟩
theorem RTAt.mono {S S':Nat->Prop}{w:World}{r:RT}{v:Value}(h:RTAt S w r v)(hs:∀b,S b->S' b):RTAt S' w r v:=by
 induction r using RT.ind generalizing v with
 | h r ih =>
  obtain⟨q,h1,h2,h3⟩:=(RTAt.iff r v).1 h;exact(RTAt.iff r v).2 ⟨q,h1,fun x hx=>ih x.1 (by rw[<-h1];exact List.mem_map_of_mem hx) (h2 x hx),h3.mono hs⟩
theorem RTAt.up {w w':World}{r:RT}{v:Value}(h:RTAt (· < w.heap.size) w r v)(hb:Below w.heap.size w w'):RTAt (· < w'.heap.size) w' r v :=
 (h.same (Same.below hb)).mono fun _ h=>n1! h hb.size
theorem RTAt.rows {S:Nat->Prop}{w:World}{r:RT}{v:Value}(h:RTAt S w r v) :
  ∃ao c,v= .slice ao r.ps.length c/\r.ps.length<=c/\c<=9223372036854775807/\∀i (hi:i<r.ps.length),∃b off pv,ao=some ⟨b,off,none⟩/\S b /\
   w.cell? ⟨b,off+i*4,none⟩=some (.int .i64 r.ps[i].k)/\w.cell? ⟨b,off+i*4+1,none⟩=some (.string r.ps[i].a)/\w.cell? ⟨b,off+i*4+2,none⟩=some (.string r.ps[i].b)/\w.cell? ⟨b,off+i*4+3,none⟩=some pv/\RTAt S w r.ps[i] pv:=by
 obtain⟨q,h1,h2,h3⟩:=(RTAt.iff r v).1 h;have e:q.length=r.ps.length:=by rw[<-h1,x1!]
 obtain⟨ao,c,rfl,h4,h5,g⟩:=Sl.rows gN! (by decide) h3;refine⟨ao,c,by rw[e],by omega,h5,fun i hi=>?_⟩;have d:i<q.length:=by omega
 obtain⟨b,off,rfl,hb,g⟩:=g (by omega);have f:r.ps[i]=q[i].1:=by simp only[<-h1,List.getElem_map]
 rw[f];exact⟨b,off,q[i].2,rfl,hb,g i d 0 _ rfl,g i d 1 _ rfl,g i d 2 _ rfl,g i d 3 _ rfl,h2 _ (n5! d)⟩
def rV (r:RT)(pv:Value):Value := .agg #[.int .i64 r.k,.string r.a,.string r.b,pv]
structure TyS where
 name:ByteArray
 rels:List (ByteArray × RT)
instance:Inhabited TyS:=⟨⟨ByteArray.empty,[]⟩⟩
def TyS.Ok (t:TyS):Prop:=t.name.size<=140737488351232/\∀r∈t.rels,r.1.size<=140737488351232/\r.2.Ok
def relC (x:(ByteArray × RT) × Value):List Value:=[.string x.1.1,.int .i64 x.1.2.k,.string x.1.2.a,.string x.1.2.b,x.2]
theorem cP! (x:(ByteArray × RT) × Value):(relC x).length=5:=rfl
def pS! (S:Nat->Prop)(w:World)(l:List (ByteArray × RT))(v:Value):Prop:=∃q:List ((ByteArray × RT) × Value),q.map (·.1)=l/\(∀x∈q,RTAt S w x.1.2 x.2)/\Sl S w 5 v (q.flatMap relC)
def tyC (x:TyS × Value):List Value:=[.string x.1.name,x.2]
theorem aU! (x:TyS × Value):(tyC x).length=2:=rfl
def pU! (S:Nat->Prop)(w:World)(l:List TyS)(v:Value):Prop:=∃q:List (TyS × Value),q.map (·.1)=l/\(∀x∈q,pS! S w x.1.rels x.2)/\Sl S w 2 v (q.flatMap tyC)
section
variable {S S' : Nat -> Prop} {w w' : World} {l : List (ByteArray × RT)} {ts : List TyS} {v : Value}
theorem pS!.same (h:pS! S w l v)(hs:Same S w w'):pS! S w' l v:=by
 obtain⟨q,h1,h2,h3⟩:=h;exact⟨q,h1,fun x hx=>(h2 x hx).same hs,h3.same hs⟩
theorem pS!.mono (h:pS! S w l v)(hs:∀b,S b->S' b):pS! S' w l v:=by
 obtain⟨q,h1,h2,h3⟩:=h;exact⟨q,h1,fun x hx=>(h2 x hx).mono hs,h3.mono hs⟩
theorem pS!.up (h:pS! (· < w.heap.size) w l v)(hb:Below w.heap.size w w'):pS! (· < w'.heap.size) w' l v :=
 (h.same (Same.below hb)).mono fun _ h=>n1! h hb.size
theorem pU!.same (h:pU! S w ts v)(hs:Same S w w'):pU! S w' ts v:=by
 obtain⟨q,h1,h2,h3⟩:=h;exact⟨q,h1,fun x hx=>(h2 x hx).same hs,h3.same hs⟩
theorem pU!.mono (h:pU! S w ts v)(hs:∀b,S b->S' b):pU! S' w ts v:=by
 obtain⟨q,h1,h2,h3⟩:=h;exact⟨q,h1,fun x hx=>(h2 x hx).mono hs,h3.mono hs⟩
theorem pU!.up (h:pU! (· < w.heap.size) w ts v)(hb:Below w.heap.size w w'):pU! (· < w'.heap.size) w' ts v :=
 (h.same (Same.below hb)).mono fun _ h=>n1! h hb.size
theorem pS!.rows (h:pS! S w l v) :
  ∃ao c,v= .slice ao l.length c/\l.length<=c/\c<=9223372036854775807/\∀i (hi:i<l.length),∃b off pv,ao=some ⟨b,off,none⟩/\S b/\w.cell? ⟨b,off+i*5,none⟩=some (.string l[i].1) /\
   w.cell? ⟨b,off+i*5+1,none⟩=some (.int .i64 l[i].2.k)/\w.cell? ⟨b,off+i*5+2,none⟩=some (.string l[i].2.a)/\w.cell? ⟨b,off+i*5+3,none⟩=some (.string l[i].2.b)/\w.cell? ⟨b,off+i*5+4,none⟩=some pv/\RTAt S w l[i].2 pv:=by
 obtain⟨q,h1,h2,h3⟩:=h;have e:q.length=l.length:=by rw[<-h1,x1!]
 obtain⟨ao,c,rfl,h4,h5,g⟩:=Sl.rows cP! (by decide) h3;refine⟨ao,c,by rw[e],by omega,h5,fun i hi=>?_⟩;have d:i<q.length:=by omega
 obtain⟨b,off,rfl,hb,g⟩:=g (by omega);have f:l[i]=q[i].1:=by simp only[<-h1,List.getElem_map]
 rw[f];exact⟨b,off,q[i].2,rfl,hb,g i d 0 _ rfl,g i d 1 _ rfl,g i d 2 _ rfl,g i d 3 _ rfl,g i d 4 _ rfl,h2 _ (n5! d)⟩
theorem pU!.rows (h:pU! S w ts v) :
  ∃ao c,v= .slice ao ts.length c/\ts.length<=c/\c<=9223372036854775807/\∀i (hi:i<ts.length),∃b off pv,ao=some ⟨b,off,none⟩/\S b/\w.cell? ⟨b,off+i*2,none⟩=some (.string ts[i].name)/\w.cell? ⟨b,off+i*2+1,none⟩=some pv/\pS! S w ts[i].rels pv:=by
 obtain⟨q,h1,h2,h3⟩:=h;have d:q.length=ts.length:=by rw[<-h1,x1!]
 obtain⟨ao,c,rfl,h4,h5,f⟩:=Sl.rows aU! (by decide) h3;refine⟨ao,c,by rw[d],by omega,h5,fun i hi=>?_⟩;have a:i<q.length:=by omega
 obtain⟨b,off,rfl,hb,f⟩:=f (by omega);have e:ts[i]=q[i].1:=by simp only[<-h1,List.getElem_map]
 rw[e];exact⟨b,off,q[i].2,rfl,hb,f i a 0 _ rfl,f i a 1 _ rfl,h2 _ (n5! a)⟩
end
theorem kR! (l:List RT)(i:Nat):szL (l.take i)<=szL l:=by
 conv=>rhs;rw[<-x6! i l]
 rw[fi!];omega
theorem gI! (r:RT):∀(pv:Value)(w:World),RTAt (· < w.heap.size) w r pv->r.sz<=1000000->Calls prog 130 #[rV r pv] w fun e w'=>e= .returned (.int .i64 r.sz)/\Below w.heap.size w w':=by
 induction r using RT.ind with
 | h r ih =>
 intro pv w hat hs;obtain⟨ao,c,rfl,a9,a7,f⟩:=hat.rows;rw[RT.sz_eq]at hs;have HC:=h! f;have HI:=h! ih;have s:=h! r.sz_eq;have a1:=(Blk.made w #[.int .i64 r.k,.string r.a,.string r.b,.slice ao r.ps.length c] 106).cells;have o:Below w.heap.size w (w.alloc (.cells #[.int .i64 r.k,.string r.a,.string r.b,.slice ao r.ps.length c] 106)):=(Below.refl _ _).alloc (n0! _) _;have q:=h! o;have HS:=h! hs;clear hat f ih o hs;unfold rV;rw[s.out];clear s;generalize hps:r.ps=ps at *;clear hps;go_enter func130,ntmps130
 go_wp2_with fail
 clear a1;go_loopw [3,9] (fun nn ii wr=>∃i:Nat,i<=ps.length/\ii= .int .i64 i/\nn= .int .i64 ((1+szL (ps.take i):Nat):Int)/\Below w.heap.size w wr) (fun _ ii _=>ps.length-(intOf ii).toNat)
 case atStart=>exact⟨0,by omega,rfl,by simp[szL],q.out⟩
 case round =>
  obtain⟨i,hi,rfl,rfl,d⟩:=hrel;clear q;by_cases hlt:i<ps.length
  ·obtain⟨b,j,a6,rfl,x,c0,c1,c2,c3,g⟩:=HC.out i hlt;have d0:=(d.cell (p:=⟨b,j+i*4,none⟩) x).trans c0;have d1:=(d.cell (p:=⟨b,j+i*4+1,none⟩) x).trans c1;have d2:=(d.cell (p:=⟨b,j+i*4+2,none⟩) x).trans c2;have d3:=(d.cell (p:=⟨b,j+i*4+3,none⟩) x).trans c3;obtain⟨u,t,rfl,-⟩:=g.rows;have n:=dz! hlt;have a5:=kR! ps (i+1);have a8:=HS.out;have m:=d.alloc d.size (.cells #[.int .i64 ps[i].k,.string ps[i].a,.string ps[i].b,.slice u ps[i].ps.length t] 106);have HR:=h! (HI.out ps[i] (n5! hlt) _ _ (g.up m) (by have:=ei! (n5! hlt);omega));unfold rV at HR;have l:=h! m;have a3:=(Blk.made wr #[.int .i64 ps[i].k,.string ps[i].a,.string ps[i].b,.slice u ps[i].ps.length t] 106).cells;have a0:=h! n;rw[n]at a5;clear c0 c1 c2 c3 g m d n;generalize ps[i]=p at *;generalize szL (ps.take i)=sa at *;go_wp2_with fail
   refine HR.out.mono ?_;rintro e w5 ⟨rfl,v⟩;have a4:=h! (l.out.trans (v.mono l.out.size));clear HR v a3 d0 d1 d2 d3 l;generalize p.sz=ms at *;go_wp2_with fail
   go_roundw
   case rel=>exact⟨i+1,by omega,by go_num,by rw[a0.out];go_num,a4.out⟩
   case measure=>simp[intOf];omega
  ·obtain rfl:i=ps.length:=by omega
   rw[u2!];have a2:=h! d;clear d;go_wp2_with fail
   go_ret
   exact⟨rfl,a2.out⟩
theorem iJ! (r:RT):∀(pv:Value)(w:World),RTAt (· < w.heap.size) w r pv->r.sz<=1000000->Calls prog 104 #[rV r pv] w fun e w'=>e= .returned (.int .i64 r.sz)/\Below w.heap.size w w':=by
 induction r using RT.ind with
 | h r ih =>
 intro pv w hat hs;obtain⟨ao,c,rfl,a9,a7,f⟩:=hat.rows;rw[RT.sz_eq]at hs;have HC:=h! f;have HI:=h! ih;have s:=h! r.sz_eq;have a1:=(Blk.made w #[.int .i64 r.k,.string r.a,.string r.b,.slice ao r.ps.length c] 106).cells;have o:Below w.heap.size w (w.alloc (.cells #[.int .i64 r.k,.string r.a,.string r.b,.slice ao r.ps.length c] 106)):=(Below.refl _ _).alloc (n0! _) _;have q:=h! o;have HS:=h! hs;clear hat f ih o hs;unfold rV;rw[s.out];clear s;generalize hps:r.ps=ps at *;clear hps;go_enter func104,ntmps104
 go_wp2_with fail
 clear a1;go_loopw [3,9] (fun nn ii wr=>∃i:Nat,i<=ps.length/\ii= .int .i64 i/\nn= .int .i64 ((1+szL (ps.take i):Nat):Int)/\Below w.heap.size w wr) (fun _ ii _=>ps.length-(intOf ii).toNat)
 case atStart=>exact⟨0,by omega,rfl,by simp[szL],q.out⟩
 case round =>
  obtain⟨i,hi,rfl,rfl,d⟩:=hrel;clear q;by_cases hlt:i<ps.length
  ·obtain⟨b,j,a6,rfl,x,c0,c1,c2,c3,g⟩:=HC.out i hlt;have d0:=(d.cell (p:=⟨b,j+i*4,none⟩) x).trans c0;have d1:=(d.cell (p:=⟨b,j+i*4+1,none⟩) x).trans c1;have d2:=(d.cell (p:=⟨b,j+i*4+2,none⟩) x).trans c2;have d3:=(d.cell (p:=⟨b,j+i*4+3,none⟩) x).trans c3;obtain⟨u,t,rfl,-⟩:=g.rows;have n:=dz! hlt;have a5:=kR! ps (i+1);have a8:=HS.out;have m:=d.alloc d.size (.cells #[.int .i64 ps[i].k,.string ps[i].a,.string ps[i].b,.slice u ps[i].ps.length t] 106);have HR:=h! (HI.out ps[i] (n5! hlt) _ _ (g.up m) (by have:=ei! (n5! hlt);omega));unfold rV at HR;have l:=h! m;have a3:=(Blk.made wr #[.int .i64 ps[i].k,.string ps[i].a,.string ps[i].b,.slice u ps[i].ps.length t] 106).cells;have a0:=h! n;rw[n]at a5;clear c0 c1 c2 c3 g m d n;generalize ps[i]=p at *;generalize szL (ps.take i)=sa at *;go_wp2_with fail
   refine HR.out.mono ?_;rintro e w5 ⟨rfl,v⟩;have a4:=h! (l.out.trans (v.mono l.out.size));clear HR v a3 d0 d1 d2 d3 l;generalize p.sz=ms at *;go_wp2_with fail
   go_roundw
   case rel=>exact⟨i+1,by omega,by go_num,by rw[a0.out];go_num,a4.out⟩
   case measure=>simp[intOf];omega
  ·obtain rfl:i=ps.length:=by omega
   rw[u2!];have a2:=h! d;clear d;go_wp2_with fail
   go_ret
   exact⟨rfl,a2.out⟩
theorem bn! (x:Int)(h1 : -9223372036854775808<=x)(h2:x<=9223372036854775807):wrap64 x=x:=by unfold wrap64;omega
mutual
def RT.small:RT->Int->Int | .mk _ a b ps,left=>dX! ps (left-1-((a.size / 100:Nat):Int)-((b.size / 100:Nat):Int))
def dX!:List RT->Int->Int | [],left=>left | r::rs,left=>if left<0 then left else dX! rs (r.small left)
end
theorem RT.small_eq (r:RT)(left:Int):r.small left=dX! r.ps (left-1-((r.a.size / 100:Nat):Int)-((r.b.size / 100:Nat):Int)):=by
 obtain⟨k,a,b,ps⟩:=r;rw[RT.small];rfl
mutual
theorem RT.small_le:∀(r:RT)(left:Int),r.small left<=left-1
 | .mk _ a b ps,left=>by
  rw[RT.small];have:=gH! ps (left-1-((a.size / 100:Nat):Int)-((b.size / 100:Nat):Int));omega
theorem gH!:∀(l:List RT)(left:Int),dX! l left<=left
 | [],left=>by rw[dX!];omega
 | r::rs,left=>by
  rw[dX!];split
  ·omega
  ·have h1:=gH! rs (r.small left);have h2:=RT.small_le r left;omega
end
theorem kZ! (r:RT):∀(pv:Value)(left:Int)(w:World),RTAt (· < w.heap.size) w r pv->r.Ok -> -2305843009213693952<=left->left<=9223372036854775807->Calls prog 56 #[rV r pv,.int .i64 left] w fun e w'=>e= .returned (.int .i64 (r.small left))/\Below w.heap.size w w':=by
 induction r using RT.ind with
 | h r ih =>
 intro pv left w hat hok hlo hhi;obtain⟨-,a0,a6,A⟩:=r.ok_iff.1 hok;obtain⟨ao,c,rfl,aj,ai,g⟩:=hat.rows;have HC:=h! g;have HI:=h! ih;have a3:=(Blk.made w #[.int .i64 r.k,.string r.a,.string r.b,.slice ao r.ps.length c] 106).cells;have y:Below w.heap.size w (w.alloc (.cells #[.int .i64 r.k,.string r.a,.string r.b,.slice ao r.ps.length c] 106)):=(Below.refl _ _).alloc (n0! _) _;have B:=h! y;clear hat g ih y;have aa:=h! A;have HE:=h! (r.small_eq left);unfold rV;rw[HE.out];clear HE A hok;generalize r.ps=ps at *;generalize r.k=k at *;generalize r.a=a at *;generalize r.b=b at *;have u:((a.size:Int)).tdiv 100=((a.size / 100:Nat):Int):=by rw[Int.tdiv_eq_ediv_of_nonneg (by omega)];omega
 have t:((b.size:Int)).tdiv 100=((b.size / 100:Nat):Int):=by rw[Int.tdiv_eq_ediv_of_nonneg (by omega)];omega
 have a9:a.size / 100<=92233720368547758:=by omega
 have a8:b.size / 100<=92233720368547758:=by omega
 generalize a.size / 100=qa at *;generalize b.size / 100=qb at *;have G:=h! u;have C:=h! t;clear u t;obtain⟨L0,v⟩:=e! (left-1-(qa:Int)-(qb:Int));have hL:L0<=9223372036854775807:=by omega
 have ac:wrap64 (left-1)=left-1:=bn! _ (by omega) (by omega);have ag:wrap64 (left-1-(qa:Int))=left-1-(qa:Int):=bn! _ (by omega) (by omega);have z:wrap64 (left-1-(qa:Int)-(qb:Int))=L0:=by rw[v];exact bn! _ (by omega) (by omega)
 have a7:wrap64 (qa:Int)=(qa:Int):=bn! _ (by omega) (by omega);have ad:wrap64 (qb:Int)=(qb:Int):=bn! _ (by omega) (by omega);rw[<-v];have ae:=h! z;have E:=h! hL;clear v;have u:=G.out;have t:=C.out;clear hL hlo hhi a9 a8 a0 a6;go_enter func56,ntmps56
 go_wp2_with fail
 clear a3 ac ag z a7 ad u t G C;go_loopw [1,22] (fun lv ii wr=>∃(i:Nat) (L:Int),i<=ps.length/\ii= .int .i64 i/\lv= .int .i64 L/\L<=9223372036854775807/\dX! ps L0=dX! (ps.drop i) L/\Below w.heap.size w wr) (fun _ ii _=>ps.length-(intOf ii).toNat)
 case atStart=>exact⟨0,L0,by omega,rfl,by rw[ae.out],E.out,rfl,B.out⟩
 case round =>
  obtain⟨i,L,hi,rfl,rfl,a2,f,d⟩:=hrel;clear B E;by_cases hlt:i<ps.length
  ·rw[List.drop_eq_getElem_cons hlt,dX!]at f;obtain⟨b,s,ah,a1,I,c0,c1,c2,c3,m⟩:=HC.out i hlt;cases a1;have d0:=(d.cell (p:=⟨b,s+i*4,none⟩) I).trans c0;have d1:=(d.cell (p:=⟨b,s+i*4+1,none⟩) I).trans c1;have d2:=(d.cell (p:=⟨b,s+i*4+2,none⟩) I).trans c2;have d3:=(d.cell (p:=⟨b,s+i*4+3,none⟩) I).trans c3;obtain⟨F,D,rfl,-⟩:=m.rows;have x:=d.alloc d.size (.cells #[.int .i64 ps[i].k,.string ps[i].a,.string ps[i].b,.slice F ps[i].ps.length D] 106);have n:=m.up x;have a4:=(Blk.made wr #[.int .i64 ps[i].k,.string ps[i].a,.string ps[i].b,.slice F ps[i].ps.length D] 106).cells;have q:=h! x;clear c0 c1 c2 c3 m x d;have j:=aa.out ps[i] (n5! hlt);have l:=n5! hlt;by_cases hneg:L<0
   ·rw[if_pos hneg]at f;have o:=h! f;clear f n j l;generalize ps[i]=p at *;go_wp2_with fail
    go_ret
    exact⟨by rw[o.out];rfl,q.out⟩
   ·rw[if_neg hneg]at f;have HR:=h! (HI.out ps[i] l _ L _ n j (by omega) a2);unfold rV at HR;have o:=h! f;have af:=h! (show ps[i].small L<=9223372036854775807 from by have:=ps[i].small_le L;omega);clear f n j l;generalize ps[i]=p at *;go_wp2_with fail
    refine HR.out.mono ?_;rintro e w5 ⟨rfl,H⟩;have ab:=h! (q.out.trans (H.mono q.out.size));clear HR H a4 d0 d1 d2 d3 q;go_wp2_with fail
    go_roundw
    case rel=>exact⟨i+1,p.small L,by omega,by go_num,rfl,af.out,o.out,ab.out⟩
    case measure=>simp[intOf];omega
  ·obtain rfl:i=ps.length:=by omega
   rw[List.drop_length,dX!]at f;have o:=h! f;have a5:=h! d;clear d f;go_wp2_with fail
   go_ret
   exact⟨by rw[o.out];rfl,a5.out⟩
theorem al! {a:ByteArray}(h:a.size≠0):a.toList.isEmpty=false:=by
 rw[u5!];cases h':a.data.toList with
 | nil=>exact absurd (by have:=congrArg List.length h';simpa using this) h
 | cons=>rfl
theorem ae! {a:ByteArray}(h:a.size=0):a=⟨#[]⟩:=by
 refine ByteArray.ext (Array.eq_empty_of_size_eq_zero h)
def okc (c:UInt8):Bool:=decide ((97<=(c.toNat:Int)/\(c.toNat:Int)<=122)\/(48<=(c.toNat:Int)/\(c.toNat:Int)<=57)\/(c.toNat:Int)=95\/(c.toNat:Int)=45)
def isNm (s:ByteArray):Bool:=s.data.toList.all okc&&(decide (1<=s.size)&&decide (s.size<=32))
theorem jK! {s:ByteArray}{i:Nat}(hi:i<s.size)(h:okc s[i]=false):isNm s=false:=by
 unfold isNm;rw[Bool.and_eq_false_iff];left
 rw[List.all_eq_false];exact⟨s[i],by rw[show s[i]=s.data.toList[i]'(by simpa using hi)from rfl];exact n5! _,by simpa using h⟩
theorem jJ! {s:ByteArray}(h:∀j (hj:j<s.size),j<s.size->okc s[j]=true):isNm s=(decide (1<=s.size)&&decide (s.size<=32)):=by
 unfold isNm;rw[show s.data.toList.all okc=true from ?_,Bool.true_and];rw[u8!];intro x hx;obtain⟨j,hj,rfl⟩:=u0! hx;have hj':j<s.size:=by simpa using hj
 exact h j hj' hj'
theorem bg! (s:ByteArray)(hs:s.size<=maxLen)(w:World):Calls prog 141 #[.string s] w fun e w'=>e= .returned (.bool (isNm s))/\w'=w:=by
 have a2:s.size<=9223372036854775807:=by unfold maxLen at hs;omega
 clear hs;go_enter func141,ntmps141
 go_wp2_with fail
 go_loopw [7] (fun ii wr=>∃i:Nat,i<=s.size/\ii= .int .i64 i/\(∀j (hj:j<s.size),j<i->okc s[j]=true)/\wr=w) (fun ii _=>s.size-(intOf ii).toNat)
 case atStart=>exact⟨0,by omega,rfl,fun _ _ h=>absurd h (by omega),rfl⟩
 case round =>
  obtain⟨i,hi,rfl,b,rfl⟩:=hrel;have a:=h! b;clear b;by_cases hlt:i<s.size
  ·go_wp2_with fail
   all_goals first
    | (refine⟨⟨i+1,by omega,by go_num,ah! (p:=fun j hj=>okc s[j]=true) a.out hlt ?_,trivial⟩,by simp[intOf];omega⟩
       unfold okc;rw[decide_eq_true_iff];try simp only[beq_iff_eq,n7!,ne_eq]at *
       omega)
    | (go_ret
       refine⟨?_,rfl⟩
       rw[jK! hlt (by
         unfold okc;rw[decide_eq_false_iff_not];try simp only[n7!,ne_eq]at *
         omega)]
       rfl)
  ·obtain rfl:i=s.size:=by omega
   have HE:=h! (jJ! a.out);by_cases h0:s.size=0
   ·obtain rfl:=ae! h0;clear h0;go_wp2_with fail
    go_ret
    exact⟨by rw[HE.out];rfl,rfl⟩
   ·have a1:=al! h0;have h1:1<=s.size:=by omega
    have a0:=h! (show isNm s=decide ((s.size:Int)<=32)from by
     rw[HE.out,v2! h1,Bool.true_and];by_cases h:s.size<=32
     ·rw[v2! h,v2! (by omega)]
     ·rw[v3! h,v3! (by omega)])
    clear HE h0 h1;go_wp2_with fail
    go_ret
    exact⟨by rw[a0.out];rfl,rfl⟩
theorem aA! (s:ByteArray)(hs:s.size<=maxLen)(w:World):Calls prog 96 #[.string s] w fun e w'=>e= .returned (.bool (isNm s))/\w'=w:=by
 have a1:s.size<=9223372036854775807:=by unfold maxLen at hs;omega
 clear hs;go_enter func96,ntmps96
 go_wp2_with fail
 go_loopw [3] (fun ii wr=>∃i:Nat,i<=s.size/\ii= .int .i64 i/\(∀j (hj:j<s.size),j<i->okc s[j]=true)/\wr=w) (fun ii _=>s.size-(intOf ii).toNat)
 case atStart=>exact⟨0,by omega,rfl,fun _ _ h=>absurd h (by omega),rfl⟩
 case round =>
  obtain⟨i,hi,rfl,b,rfl⟩:=hrel;have a:=h! b;clear b;by_cases hlt:i<s.size
  ·go_wp2_with fail
   all_goals first
    | (refine⟨⟨i+1,by omega,by go_num,ah! (p:=fun j hj=>okc s[j]=true) a.out hlt ?_,trivial⟩,by simp[intOf];omega⟩
       unfold okc;rw[decide_eq_true_iff];(try simp at *) <;> omega)
    | (go_ret
       refine⟨?_,rfl⟩
       rw[jK! hlt (by
         unfold okc;rw[decide_eq_false_iff_not];(try simp at *) <;> omega)]
       rfl)
  ·obtain rfl:i=s.size:=by omega
   have HE:=h! (jJ! a.out);by_cases h0:s.size=0
   ·obtain rfl:=ae! h0;clear h0;go_wp2_with fail
    go_ret
    exact⟨by rw[HE.out];rfl,rfl⟩
   ·have h1:1<=s.size:=by omega
    have h2:(1:Int)<=(s.size:Int):=by omega
    have a0:=h! (show isNm s=decide ((s.size:Int)<=32)from by
     rw[HE.out,v2! h1,Bool.true_and];by_cases h:s.size<=32
     ·rw[v2! h,v2! (by omega)]
     ·rw[v3! h,v3! (by omega)])
    clear HE h0 h1;go_wp2_with fail
    go_ret
    exact⟨by rw[a0.out];rfl,rfl⟩
def ownB (s:ByteArray):Bool:=isNm s&&decide (s≠⟨#[116,104,105,115]⟩)
def hasT (t:TyS)(n:ByteArray):Bool:=t.rels.any fun r=>decide (r.1=n)
def anyT (ts:List TyS)(n:ByteArray):Bool:=ts.any fun t=>hasT t n
theorem ft! (s:ByteArray)(hs:s.size<=maxLen)(w:World):Calls prog 158 #[.string s] w fun e w'=>e= .returned (.bool (ownB s))/\w'=w:=by
 have HN:=h! (aA! s hs w);clear hs;go_enter func158,ntmps158
 go_wp2_with fail
 refine HN.out.mono ?_;rintro e w2 ⟨rfl,rfl⟩;clear HN;cases h1:isNm s with
 | false =>
  have a:=h! (show ownB s=false from by rw[ownB,h1];rfl);clear h1;go_wp2_with fail
  go_ret
  exact⟨by rw[a.out];rfl,rfl⟩
 | true =>
  by_cases he:s=⟨#[116,104,105,115]⟩
  ·have a:=h! (show ownB s=false from by rw[ownB,he];simp);subst he;clear h1;go_wp2_with fail
   go_ret
   exact⟨by rw[a.out];rfl,rfl⟩
  ·have a:=h! (show ownB s=true from by rw[ownB,h1];simp[he]);have a0:=aH! he;rw[<-u5!,show(⟨#[116,104,105,115]⟩:ByteArray).data.toList=[116,104,105,115]from rfl]at a0;clear h1 he;go_wp2_with fail
   go_ret
   exact⟨by rw[a.out];rfl,rfl⟩
theorem mC! (t:TyS)(rv:Value)(n:ByteArray)(w:World)(h:pS! (· < w.heap.size) w t.rels rv):Calls prog 160 #[.agg #[.string t.name,rv],.string n] w fun e w'=>e= .returned (.bool (hasT t n))/\Below w.heap.size w w':=by
 obtain⟨ao,c,rfl,a8,a7,f⟩:=h.rows;have HC:=h! f;have HD:Hid (hasT t n=t.rels.any (fun r=>decide (r.1=n))):=h! rfl;generalize hasT t n=g at *;generalize t.rels=l at *;generalize t.name=nm at *;have a1:=(Blk.made w #[.string nm,.slice ao l.length c] 176).cells;have B:Hid (Below w.heap.size w (w.alloc (.cells #[.string nm,.slice ao l.length c] 176))):=h! ((Below.refl _ _).alloc (n0! _) _);clear h f;go_enter func160,ntmps160
 go_wp2_with fail
 clear a1;go_loopw [10] (fun ii wr=>∃i:Nat,i<=l.length/\ii= .int .i64 i/\(∀j (hj:j<l.length),j<i->l[j].1≠n)/\Below w.heap.size w wr) (fun ii _=>l.length-(intOf ii).toNat)
 case atStart=>exact⟨0,by omega,rfl,fun _ _ h=>absurd h (by omega),B.out⟩
 case round =>
  obtain⟨i,hi,rfl,q,d⟩:=hrel;have s:=h! q;clear B q;by_cases hlt:i<l.length
  ·have v:=fun h=>h! (ah! (p:=fun j hj=>l[j].1≠n) s.out hlt h);have u:=fun(h:l[i].1=n)=>h! (show g=true from by rw[HD.out];exact x5!.2 ⟨l[i],n5! hlt,by simp[h]⟩);obtain⟨b,o,a6,a0,E,c0,c1,c2,c3,c4,m⟩:=HC.out i hlt;cases a0;have d0:=(d.cell (p:=⟨b,o+i*5,none⟩) E).trans c0;have d1:=(d.cell (p:=⟨b,o+i*5+1,none⟩) E).trans c1;have d2:=(d.cell (p:=⟨b,o+i*5+2,none⟩) E).trans c2;have d3:=(d.cell (p:=⟨b,o+i*5+3,none⟩) E).trans c3;have d4:=(d.cell (p:=⟨b,o+i*5+4,none⟩) E).trans c4;obtain⟨D,C,rfl,-⟩:=m.rows;have y:=d.alloc d.size (.cells #[.string l[i].1,.int .i64 l[i].2.k,.string l[i].2.a,.string l[i].2.b,.slice D l[i].2.ps.length C] 181);have z:=m.up y;have a4:=h! (Blk.made wr #[.string l[i].1,.int .i64 l[i].2.k,.string l[i].2.a,.string l[i].2.b,.slice D l[i].2.ps.length C] 181);have a5:=a4.out.cells;have A:=h! y;clear c0 c1 c2 c3 c4 m y d;clear z;generalize l[i]=x at *;obtain⟨xn,p⟩:=x;dsimp only at *;by_cases he:xn=n
   ·have HT:=u he;subst he;clear v u;go_wp2_with fail
    go_ret
    exact⟨by rw[HT.out];rfl,A.out⟩
   ·have HN:=v he;have a3:=aH! he;rw[<-u5!,<-u5!]at a3;clear v u he;go_wp2_with fail
    go_roundw
    case rel=>exact⟨i+1,by omega,by go_num,HN.out,A.out⟩
    case measure=>simp[intOf];omega
  ·obtain rfl:i=l.length:=by omega
   have HF:=h! (show g=false from by
    rw[HD.out,List.any_eq_false];intro x hx;obtain⟨j,hj,rfl⟩:=u0! hx;have:=s.out j hj hj;simpa using this)
   have a2:=h! d;clear d;go_wp2_with fail
   go_ret
   exact⟨by rw[HF.out];rfl,a2.out⟩
theorem gA! (ts:List TyS)(tv:Value)(n:ByteArray)(w:World)(h:pU! (· < w.heap.size) w ts tv):Calls prog 161 #[.agg #[tv],.string n] w fun e w'=>e= .returned (.bool (anyT ts n))/\Below w.heap.size w w':=by
 obtain⟨ao,c,rfl,a6,a5,d⟩:=h.rows;have HC:=h! d;have HD:Hid (anyT ts n=ts.any (fun t=>hasT t n)):=h! rfl;generalize anyT ts n=g at *;have a1:=(Blk.made w #[.slice ao ts.length c] 26).cells;have z:Hid (Below w.heap.size w (w.alloc (.cells #[.slice ao ts.length c] 26))):=h! ((Below.refl _ _).alloc (n0! _) _);clear h d;go_enter func161,ntmps161
 go_wp2_with fail
 clear a1;go_loopw [10] (fun ii wr=>∃i:Nat,i<=ts.length/\ii= .int .i64 i/\(∀j (hj:j<ts.length),j<i->hasT ts[j] n=false)/\Below w.heap.size w wr) (fun ii _=>ts.length-(intOf ii).toNat)
 case atStart=>exact⟨0,by omega,rfl,fun _ _ h=>absurd h (by omega),z.out⟩
 case round =>
  obtain⟨i,hi,rfl,l,a⟩:=hrel;have m:=h! l;clear z l;by_cases hlt:i<ts.length
  ·have s:=fun h=>h! (ah! (p:=fun j hj=>hasT ts[j] n=false) m.out hlt h);have r:=fun(h:hasT ts[i] n=true)=>h! (show g=true from by rw[HD.out];exact x5!.2 ⟨ts[i],n5! hlt,h⟩);obtain⟨b,A,a4,a0,hb,c0,c1,f⟩:=HC.out i hlt;cases a0;have d0:=(a.cell (p:=⟨b,A+i*2,none⟩) hb).trans c0;have d1:=(a.cell (p:=⟨b,A+i*2+1,none⟩) hb).trans c1;obtain⟨C,B,rfl,-⟩:=f.rows;have u:=a.alloc a.size (.cells #[.string ts[i].name,.slice C ts[i].rels.length B] 176);have o:=f.up u;have a3:=h! (Blk.made wr #[.string ts[i].name,.slice C ts[i].rels.length B] 176);have y:=a3.out.cells;have k:=h! u;clear c0 c1 f u a;have D:=h! (mC! ts[i] _ n _ o);clear o;generalize ts[i]=x at *;cases hx:hasT x n with
   | true =>
    rw[hx]at D;have HT:=r hx;clear s r hx;go_wp2_with fail
    refine D.out.mono ?_;rintro e w5 ⟨rfl,q⟩;have v:=h! (k.out.trans (q.mono k.out.size));clear D q y d0 d1 k;go_wp2_with fail
    go_ret
    exact⟨by rw[HT.out];rfl,v.out⟩
   | false =>
    rw[hx]at D;have HN:=s hx;clear s r hx;go_wp2_with fail
    refine D.out.mono ?_;rintro e w5 ⟨rfl,q⟩;have v:=h! (k.out.trans (q.mono k.out.size));clear D q y d0 d1 k;go_wp2_with fail
    go_roundw
    case rel=>exact⟨i+1,by omega,by go_num,HN.out,v.out⟩
    case measure=>simp[intOf];omega
  ·obtain rfl:i=ts.length:=by omega
   have HF:=h! (show g=false from by
    rw[HD.out,List.any_eq_false];intro x hx;obtain⟨j,hj,rfl⟩:=u0! hx;rw[m.out j hj hj];exact Bool.false_ne_true)
   have a2:=h! a;clear a;go_wp2_with fail
   go_ret
   exact⟨by rw[HF.out];rfl,a2.out⟩
structure R2 where
 t:ByteArray
 r:ByteArray
deriving DecidableEq
instance:Inhabited R2:=⟨⟨ByteArray.empty,ByteArray.empty⟩⟩
def r2V (p:R2):Value := .agg #[.string p.t,.string p.r]
def r2C (p:R2):List Value:=[.string p.t,.string p.r]
theorem aO! (p:R2):(r2C p).length=2:=rfl
theorem bc! (a b:ByteArray):a.toList=b.toList↔a=b:=by
 rw[u5!,u5!];exact⟨fun h=>ByteArray.ext (by rw[<-Array.toList_inj];exact h),fun h=>by rw[h]⟩
theorem pz! (a b:R2)(W:World):(binOp BinOp.neq 121 (r2V a) (r2V b)).run prog W= .ok (.bool (decide (a≠b))) W:=by
 obtain⟨a1,a2⟩:=a;obtain⟨b1,b2⟩:=b;unfold r2V;dsimp only;go_simp;simp only[bc!];by_cases h1:a1=b1 <;> by_cases h2:a2=b2 <;> simp[h1,h2]
theorem hb!:laidOutB prog=true:=by kernel_rfl
theorem cN! (d:Nat)(s:ByteArray)(h:s.size<=maxLen):prog.keyLits (d+1) 9 [.string s]=some [.string s.data.toList]:=by
 unfold Program.keyLits;rw[Tryz.underlying9];simp only[h,if_true]
theorem gg! (d:Nat)(s u:ByteArray)(h:s.size<=maxLen)(k:u.size<=maxLen):prog.keyLits (d+1+1) 30 [.string s,.string u]=some [.string s.data.toList,.string u.data.toList]:=by
 unfold Program.keyLits;rw[Tryz.underlying30];have e1:=cN! d s h;have e2:=cN! d u k;have e3:prog.cellsOf 30=2:=by kernel_rfl
 have e4:prog.cellsOf 9=1:=by kernel_rfl
 simp[e1,e2,e3,e4]
theorem ck!:∃d,prog.types.size=d+1+1+1:=⟨prog.types.size-3,by have:3<=prog.types.size:=of_decide_eq_true (by kernel_rfl);omega⟩
theorem refK:Keyed prog 121:=Keyed.of_law (deep_law_laid hb! (m:=3) (by decide) (of_decide_eq_true (by kernel_rfl)) (by kernel_rfl) (by kernel_rfl))
theorem ct! (a b:R2)(h:r2V a=r2V b):a=b:=by
 obtain⟨a1,a2⟩:=a;obtain⟨b1,b2⟩:=b;simpa [r2V] using h
def R2.Ok (p:R2):Prop:=p.t.size<=maxLen/\p.r.size<=maxLen
theorem nl! (d:Nat)(p:R2)(h:p.Ok):prog.keyLits (d+1+1) 121 [.string p.t,.string p.r]=some [.string p.t.data.toList,.string p.r.data.toList]:=by
 unfold Program.keyLits;rw[Tryz.underlying121];have e1:=cN! d p.t h.1;have e2:=cN! d p.r h.2;have e3:prog.cellsOf 121=2:=by kernel_rfl
 have e4:prog.cellsOf 9=1:=by kernel_rfl
 simp[e1,e2,e3,e4]
theorem cs! (p:R2)(h:p.Ok):∃q,keyOf prog 121 (r2V p)=some q:=by
 obtain⟨d,hd⟩:=ck!;have e:=nl! (d+1+1) p h;have e2:(prog.keyType 121&&(r2V p).formed prog 121)=true:=by kernel_rfl
 have hs:prog.types.size+1=d+1+1+1+1:=by omega
 unfold keyOf;rw[Tryz.underlying121];dsimp only;rw[if_pos e2,hs];rw[show(r2V p).cells.toList=[.string p.t,.string p.r]from rfl,e];exact⟨_,rfl⟩
theorem strK:Keyed prog 9:=string_keyed Tryz.underlying9
theorem bw! (a b:ByteArray)(h:Value.string a=Value.string b):a=b:=by injection h
theorem cm! (s:ByteArray)(h:s.size<=maxLen):∃q,keyOf prog 9 (.string s)=some q:=by
 unfold keyOf;rw[Tryz.underlying9];dsimp only;unfold mapKey;rw[Tryz.underlying9];simp[h]
def QK (e:TypeId)(M:Nat->Prop)(B:Nat)(w:World)(x:Nat):Prop:=x<B\/(¬ M x/\x<w.heap.size/\∀cs,w.heap[x]?≠some (.cells cs e (0,0)))
abbrev pR! (e:TypeId) (M:Nat->Prop) (B:Nat) (w w':World):Prop:=Kept (QK e M B w) w w'
section
variable {e : TypeId} {M : Nat -> Prop} {w w' w'' : World} {B : Nat}
theorem pR!.below (h:pR! e M B w w'):Below B w w':=Kept.below h fun _ hx => .inl hx
theorem pR!.next (h:pR! e M B w w')(k:pR! e M B w' w''):pR! e M B w w'':=Kept.trans h (Kept.mono k fun x hx=>by
 rcases hx with hx | ⟨h1,h2,h3⟩
 ·exact .inl hx
 ·refine .inr ⟨h1,n1! h2 h.size,fun cs=>?_⟩;rw[h.block x (.inr ⟨h1,h2,h3⟩)];exact h3 cs)
theorem pR!.of (h:Below w.heap.size w w')(hB:B<=w.heap.size):pR! e M B w w':=Below.kept h fun x hx=>by
 rcases hx with hx | ⟨_,h2,_⟩
 ·omega
 ·exact h2
theorem pR!.box (h:pR! e M B w w') {x:Nat}{cs:Array Value}{t:TypeId}(hx:Blk w x cs t)(he:t≠e)(hb:¬ M x):Blk w' x cs t:=Kept.blk h hx (.inr ⟨hb,hx.lt,fun cs' h'=>by
 rw[show w.heap[x]?=_ from hx]at h';injection h' with h'
 injection h' with _ h2 _
 exact he h2⟩)
theorem pR!.turned {b:Nat}(h:pT! w w' b)(hb:M b)(hB:B<=b):pR! e M B w w':=h.kept.mono fun x hx=>by
 rcases hx with hx | ⟨h1,_⟩
 ·show x≠b;omega
 ·show x≠b;exact fun e=>h1 (e▸hb)
theorem pR!.grown {v:Value}{sz:Nat}{xs:List Value}(ho:Own w B e sz v xs)(hg:w.grownBy w' v.ownBlock)(hB:B<=w.heap.size):pR! e M B w w':=⟨hg.os,hg.tape,hg.output,hg.size,fun x hx=>by
 rcases hx with hx | ⟨_,h2,h3⟩
 ·exact hg.block x (by omega) (fun e=>by have:=(ho.block x e.symm).1;omega)
 ·refine hg.block x h2 (fun e=>?_);obtain⟨n,ho⟩:=ho;rcases ho.2 with⟨rfl,_⟩|⟨g',cap,cur,rfl,hbg,hg',r⟩
  ·cases e
  ·injection e with e
   subst e;exact h3 _ hg'⟩
end
theorem hs! {P:Program}{w:World}{ops:Array Oper}{rest:List Oper}{o:Oper}{a:Act}{Q:Exit->Act->World->Prop}{t e:TypeId}{size bytes:Nat}(E:pN! P t e size bytes)
  (hg:o.guard=none) (s x:Operand) (hop:o.op=Op.call {callee:=Callee.builtin Builtin.append,args:=#[s,x],argTypes:=#[t,t]})
  {B:Nat} {v:Value} {xs:List Value} (hs:a.eval s=v) (hown:Own w B e size v xs) {T:Nat->Prop} {y:Value} {news:List Value} (hx:a.eval x=y) (hy:Sl T w size y news) (h1:∀u∈news,u.oneCell'=true)
  (hlen:xs.length+news.length<=9223372036854775807) (hbytes:(xs.length+news.length)*bytes<=140737488355328) (hB:B<=w.heap.size)
  (K:∀v' w',Own w' B e size v' (xs++news)->Below B w w'->w.grownBy w' v.ownBlock->wpList P ops Q rest (a.put o.dst v') w'):wpList P ops Q (o::rest) a w :=
 wpList_plain hg fun _K' hK'=>ay! E s x hop hs hown hx hy h1 hlen hbytes hB fun v' w' h2 h3 h4=>hK' _ _ (K v' w' h2 h3 h4)
theorem Own.keepB {w w':World}{B:Nat}{e:TypeId}{sz:Nat}{v:Value}{xs:List Value}(h:Own w B e sz v xs)(hs:∀g,v.ownBlock=some g->w'.heap[g]?=w.heap[g]?):Own w' B e sz v xs:=by
 obtain⟨n,h⟩:=h;refine⟨n,h.1,?_⟩;rcases h.2 with hn | ⟨g,cap,cur,rfl,hbg,hg,r⟩
 ·exact .inl hn
 ·exact .inr ⟨g,cap,cur,rfl,hbg,(hs g rfl).trans hg,r⟩
theorem Own.notBlk {w:World}{B:Nat}{e t:TypeId}{sz:Nat}{v:Value}{xs:List Value}{b:Nat}{cs:Array Value}(h:Own w B e sz v xs)(hb:Blk w b cs t)(hne:t≠e):∀g,v.ownBlock=some g->g≠b:=by
 intro g hg he;obtain⟨n,h⟩:=h;rcases h.2 with⟨rfl,_⟩|⟨g',cap,cur,rfl,hbg,hg',r⟩
 ·cases hg
 ·injection hg with hg
  subst hg he;rw[show w.heap[g']?=_ from hb]at hg';injection hg' with hg'
  injection hg' with _ h2 _
  exact hne h2
def WrB (w:World)(B b:Nat)(text:ByteArray)(odd:Bool):Prop:=B<=b/\∃p v,(p= .pointer none\/p= .pointer (some ⟨b,0,none⟩))/\Blk w b #[p,v,.bool odd] 298/\Own w B 5 1 v (Lib.strCells text)/\(text.size=0->v= .slice none 0 0)
def WK (B b:Nat)(w:World)(x:Nat):Prop:=x<B\/(x≠b/\x<w.heap.size/\∀cs,w.heap[x]?≠some (.cells cs 5 (0,0)))
abbrev pV! (B b:Nat) (w w':World):Prop:=Kept (WK B b w) w w'
section
variable {w w' w'' : World} {B b : Nat}
theorem pV!.below (h:pV! B b w w'):Below B w w':=Kept.below h fun _ hx => .inl hx
theorem pV!.next (h:pV! B b w w')(k:pV! B b w' w''):pV! B b w w'':=Kept.trans h (Kept.mono k fun x hx=>by
 rcases hx with hx | ⟨h1,h2,h3⟩
 ·exact .inl hx
 ·refine .inr ⟨h1,n1! h2 h.size,fun cs=>?_⟩;rw[h.block x (.inr ⟨h1,h2,h3⟩)];exact h3 cs)
theorem pV!.of (h:Below w.heap.size w w')(hB:B<=w.heap.size):pV! B b w w':=Below.kept h fun x hx=>by
 rcases hx with hx | ⟨_,h2,_⟩
 ·omega
 ·exact h2
theorem pV!.box (h:pV! B b w w') {x:Nat}{cs:Array Value}{e:TypeId}(hx:Blk w x cs e)(he:e≠5)(hb:x≠b):Blk w' x cs e:=Kept.blk h hx (.inr ⟨hb,hx.lt,fun cs' h'=>by
 rw[show w.heap[x]?=_ from hx]at h';injection h' with h'
 injection h' with _ h2 _
 exact he h2⟩)
theorem WrB.lt {text:ByteArray}{odd:Bool}(h:WrB w B b text odd):b<w.heap.size:=by
 obtain⟨_,p,v,_,hb,_⟩:=h;exact hb.lt
theorem WrB.up {text:ByteArray}{odd:Bool}(h:WrB w B b text odd)(hk:Below w.heap.size w w'):WrB w' B b text odd:=by
 obtain⟨hB,p,v,hp,hb,ho,hn⟩:=h;exact⟨hB,p,v,hp,hb.below hk,ho.below hk,hn⟩
theorem WrB.flag {text:ByteArray}{odd:Bool}(h:WrB w B b text odd)(o:Bool):WrB (w.setCell ⟨b,2,none⟩ (.bool o)) B b text o:=by
 obtain⟨hB,p,v,hp,hb,ho,hn⟩:=h;exact⟨hB,p,v,hp,hb.set 2 _,ho.keepB fun g hg=>Below.heap_setCell _ _ _ g (ho.notBlk hb (by decide) g hg),hn⟩
theorem pV!.flag (hB:B<=b)(v:Value):pV! B b w (w.setCell ⟨b,2,none⟩ v):=(Kept.refl _ _).set (a:=⟨b,2,none⟩) (fun h=>by
 rcases h with h | ⟨h,_⟩
 ·exact absurd h (by show ¬ b<B;omega)
 ·exact h rfl) _
theorem WrB.odd2 {text:ByteArray}{odd:Bool}(h:WrB w B b text odd):w.cell? ⟨b,2,none⟩=some (.bool odd)/\w.frozen? ⟨b,2,none⟩=false:=by
 obtain⟨hB,p,v,hp,hb,ho,hn⟩:=h;exact⟨hb.cells 2,hb.free 2⟩
end
theorem kv!:(prog.info? 5).map (fun i=>(i.zero,i.size,i.bytes))=some (some (.int .u8 0),1,1):=by kernel_rfl
theorem il!:(prog.info? 296).map (·.size)=some 2:=by kernel_rfl
theorem fa!:∃j,prog.info? 296=some j/\j.size≠0:=by
 obtain⟨j,hj,hs⟩:=Option.map_eq_some_iff.1 il!;exact⟨j,hj,by omega⟩
theorem liesW:liesAt prog prog.depth 298 (3 / prog.cellsOf 298) 0 296 1=true:=by kernel_rfl
theorem WrB.shape {w:World}{b:Nat}{cs:Array Value}(h:Blk w b cs 298)(hs:cs.size=3):w.shape? b=some (298,3):=by
 simp[World.shape?,show w.heap[b]?=_ from h,hs]
theorem eT! (b:Nat)(w:World)(h0:w.cell? ⟨b,0,none⟩=some (.pointer (some ⟨b,0,none⟩))) :
  Calls prog 230 #[.pointer (some ⟨b,0,none⟩)] w fun e w'=>e= .returned (.tuple #[])/\w'=w:=by
 obtain⟨j,hj,_⟩:=fa!;go_enter func230,ntmps230
 go_wp2
 rw[Lib.run_neq_ptr_same w _ Tryz.underlying294 hj];go_wp2
 go_end0
 exact⟨rfl,rfl⟩
theorem eb! (b:Nat)(w:World)(h0:w.cell? ⟨b,0,none⟩=some (.pointer none))(hsh:w.shape? b=some (298,3))(hfz:w.frozen? ⟨b,0,none⟩=false) :
  Calls prog 230 #[.pointer (some ⟨b,0,none⟩)] w fun e w'=>e= .returned (.tuple #[])/\w'=w.setCell ⟨b,0,none⟩ (.pointer (some ⟨b,0,none⟩)):=by
 obtain⟨j,hj,a0⟩:=fa!;go_enter func230,ntmps230
 go_wp2
 rw[Lib.run_to_unsafe w ⟨b,0,none⟩ Tryz.underlying294 Tryz.underlying376 hj a0 hsh (Nat.zero_lt_succ 2)];simp only[Result.andThen];rw[Oper.upon_value];go_wp2
 rw[run_callFunc_extern func280 (by kernel_rfl) (by kernel_rfl) (by kernel_rfl) (e:=Extern.AbiNoEscape.same) (by kernel_rfl)];rw[Lib.run_noEscape];simp only[Result.andThen];rw[Oper.upon_value];go_wp2
 rw[Lib.run_from_unsafe w ⟨b,0,none⟩ Tryz.underlying376 Tryz.underlying294 hj hsh liesW];simp only[Result.andThen];rw[Oper.upon_value];go_wp2
 go_end0
 exact⟨rfl,rfl⟩
theorem fJ! {B b:Nat}{text:ByteArray}{odd:Bool}{w:World}(h:WrB w B b text odd) :
  Calls prog 230 #[.pointer (some ⟨b,0,none⟩)] w fun e w'=>e= .returned (.tuple #[])/\(∃v,Blk w' b #[.pointer (some ⟨b,0,none⟩),v,.bool odd] 298/\Own w' B 5 1 v (Lib.strCells text))/\pV! B b w w':=by
 obtain⟨hB,p,v,hp,c,ho,hn⟩:=h;rcases hp with rfl | rfl
 ·refine(eb! b w (c.cells 0) (WrB.shape c rfl) (c.free 0)).mono ?_;rintro e w' ⟨rfl,rfl⟩;refine⟨rfl,⟨v,c.set 0 _,ho.keepB fun g hg=>Below.heap_setCell _ _ _ g (ho.notBlk c (by decide) g hg)⟩,(Kept.refl _ _).set (a:=⟨b,0,none⟩) (fun h=>?_) _⟩;rcases h with h | ⟨h,_⟩
  ·exact absurd h (by show ¬ b<B;omega)
  ·exact h rfl
 ·refine(eT! b w (c.cells 0)).mono ?_;rintro e w' ⟨rfl,rfl⟩;exact⟨rfl,⟨v,c,ho⟩,Kept.refl _ _⟩
theorem ab! {B b:Nat}{text:ByteArray}{odd:Bool}{w:World}(s:ByteArray)(h:WrB w B b text odd)(hlen:text.size+s.size<=140737488355328)(hpos:0<text.size+s.size)(hBw:B<=w.heap.size) :
  Calls prog 188 #[.pointer (some ⟨b,0,none⟩),.string s] w fun e w'=>e= .returned (.tuple #[.int .i64 s.size,.nilIface])/\WrB w' B b (text++s) odd/\pV! B b w w':=by
 have u:=h! (fJ! h);have hB:=h.1;obtain⟨i0,hi,p,y,q⟩:=info_parts kv!;clear h;go_enter func188,ntmps188
 go_wp2_with fail
 refine u.out.mono ?_;rintro e w1 ⟨rfl,⟨v,i,m⟩,j⟩;have a1:=j.size;have c1:=i.cells;have a0:=h! (m.notBlk i (by decide));have HO:=h! m;have HK:=h! j;obtain⟨n1,c⟩:=m;have a3:n1=text.size:=by have:=c.1;rw[Lib.strCells_length]at this;omega
 subst a3;have hb1':=i;clear u i j;go_wp2_with (at_builtin;refine Lib.wpList_append_own_string _ rfl _ _ 22 9 rfl B 5 i0 Tryz.underlying22 Tryz.underlying9 hi p y q _ _ _ rfl c s rfl ?c3 ?c4 ?c5 ?_)
 case c3=>unfold maxLen;omega
 case c4=>omega
 case c5=>omega
 intro v' w2 hown' hgrow _;have d:Blk w2 b #[.pointer (some ⟨b,0,none⟩),v,.bool odd] 298:=(hgrow.block b hb1'.lt (fun e=>a0.out b e.symm rfl)).trans hb1';have d0:=d.cells;have f0:=d.free;have l:Own w2 B 5 1 v' (Lib.strCells text++Lib.strCells s):=⟨_,hown'⟩;have t:=l.notBlk d (by decide)
 have o:pV! B b w1 w2:=⟨hgrow.os,hgrow.tape,hgrow.output,hgrow.size,fun x hx=>by
  have hO:=HO.out;rcases hx with hx | ⟨h1,h2,h3⟩
  ·exact hgrow.block x (by omega) (fun e=>by have:=(hO.block x e.symm).1;omega)
  ·refine hgrow.block x h2 (fun e=>?_);obtain⟨n,ho⟩:=hO;rcases ho.2 with⟨rfl,_⟩|⟨g',f,cur,rfl,hbg,hg',r⟩
   ·cases e
   ·injection e with e
    subst e;exact h3 _ hg'⟩
 have a4:=h! l;have k:=h! o;have a5:=h! d;have a2:=h! t
 obtain⟨ao,n',f,rfl⟩:∃ao n' f,v' = .slice ao n' f:=by
  rcases hown'.2 with⟨hv,_⟩|⟨g,f,cur,hv,_⟩
  ·exact⟨_,_,_,hv⟩
  ·exact⟨_,_,_,hv⟩
 clear c1 hb1' c hgrow hown' d l t o hi p y q;go_wp2_with fail
 go_ret2
 refine⟨rfl,⟨hB,_,_,.inr rfl,a5.out.set 1 _,?_,fun h=>?_⟩,?_⟩
 ·have h1:Lib.strCells (text++s)=Lib.strCells text++Lib.strCells s:=by simp[Lib.strCells]
  rw[h1];exact a4.out.keepB fun g hg=>Below.heap_setCell _ _ _ g (a2.out g hg)
 ·rw[n3!]at h;omega
 ·refine pV!.next (pV!.next HK.out k.out) ((Kept.refl _ _).set (a:=⟨b,1,none⟩) (fun h=>?_) _);rcases h with h | ⟨h,_⟩
  ·exact absurd h (by show ¬ b<B;omega)
  ·exact h rfl
def pd! (ts:List TyS)(t:TyS)(k:Int)(a b:ByteArray):Bool:=!((k == 2&&!hasT t a)||(k == 3&&(!hasT t a||!anyT ts b)))
mutual
def RT.named (ts:List TyS)(t:TyS):RT->Bool | .mk k a b ps=>pd! ts t k a b&&lo! ts t ps
def lo! (ts:List TyS)(t:TyS):List RT->Bool | []=>true | r::rs=>r.named ts t&&lo! ts t rs
end
theorem eL! (ts:List TyS)(t:TyS):∀l:List RT,lo! ts t l=l.all fun r=>r.named ts t
 | []=>rfl
 | r::rs=>by rw[lo!,List.all_cons,eL! ts t rs]
theorem RT.named_eq (ts:List TyS)(t:TyS)(r:RT):r.named ts t=(!((r.k == 2&&!hasT t r.a)||(r.k == 3&&(!hasT t r.a||!anyT ts r.b)))&&r.ps.all fun r=>r.named ts t):=by
 obtain⟨k,a,b,ps⟩:=r;rw[RT.named,eL!];rfl
theorem hU! (ts:List TyS)(t:TyS)(tv rv:Value)(r:RT):∀(pv:Value)(w:World),pU! (· < w.heap.size) w ts tv->pS! (· < w.heap.size) w t.rels rv->RTAt (· < w.heap.size) w r pv->Calls prog 105 #[.agg #[tv],.agg #[.string t.name,rv],rV r pv] w fun e w'=>e= .returned (.bool (r.named ts t))/\Below w.heap.size w w':=by
 induction r using RT.ind with
 | h r ih =>
 intro pv w hts hrs hat;obtain⟨ao,c,rfl,aa,a9,L⟩:=hat.rows;obtain⟨to,tc,a5,-⟩:=hts.rows;obtain⟨ro,rc,a2,-⟩:=hrs.rows;have HC:=h! L;have HI:=h! ih;have T:=h! hts;have U:=h! hrs;have HE:=h! (r.named_eq ts t);have HT:=h! (fun(w':World) (hb:Below w.heap.size w w')=>mC! t rv r.a w' (hrs.up hb));have HA:=h! (fun(w':World) (hb:Below w.heap.size w w')=>gA! ts tv r.b w' (hts.up hb));clear hat L ih hts hrs;generalize r.named ts t=g at *;unfold rV;generalize r.ps=ps at *;generalize r.k=k at *;generalize r.a=ra at *;generalize r.b=rb at *;generalize hasT t ra=ha at *;generalize anyT ts rb=hb at *;obtain⟨w3,N⟩:=e! (((w.alloc (.cells #[tv] 26)).alloc (.cells #[.string t.name,rv] 176)).alloc (.cells #[.int .i64 k,.string ra,.string rb,.slice ao ps.length c] 106));have a0:Blk w3 w.heap.size #[tv] 26:=by rw[N];exact((Blk.made w #[tv] 26).alloc _).alloc _
 have X:Blk w3 (w.heap.size+1) #[.string t.name,rv] 176:=by rw[N];exact(Blk.made' (w:=w.alloc (.cells #[tv] 26)) (B:=w.heap.size+1) (by simp) #[.string t.name,rv] 176).alloc _
 have Z:Blk w3 (w.heap.size+2) #[.int .i64 k,.string ra,.string rb,.slice ao ps.length c] 106:=by rw[N];exact Blk.made' (w:=(w.alloc (.cells #[tv] 26)).alloc (.cells #[.string t.name,rv] 176)) (B:=w.heap.size+2) (by simp) #[.int .i64 k,.string ra,.string rb,.slice ao ps.length c] 106
 have V:Below w.heap.size w w3:=by rw[N];exact(((Below.refl _ _).alloc (n0! _) _).alloc (by simp) _).alloc (by simp;omega) _
 subst a5 a2;have a1:=h! a0;have a8:=h! X;have a6:=h! Z;have o:=h! V;have J:=h! N;clear a0 X Z V N
 have a3:(k=2/\ha=false)\/(k=2/\ha=true)\/(k=3/\ha=false)\/(k=3/\ha=true/\hb=false)\/(k=3/\ha=true/\hb=true)\/(k≠2/\k≠3):=by
  cases ha <;> cases hb <;> simp <;> omega
 have D:Hid (∀W,Below w3.heap.size w3 W->(∀i,W.cell? ⟨w.heap.size,i,none⟩=(#[.slice to ts.length tc]:Array Value)[i]?)/\(∀i,W.cell? ⟨w.heap.size+1,i,none⟩=(#[.string t.name,.slice ro t.rels.length rc]:Array Value)[i]?)/\(∀i,W.cell? ⟨w.heap.size+2,i,none⟩=(#[.int .i64 k,.string ra,.string rb,.slice ao ps.length c]:Array Value)[i]?)):=h! (fun W hW=>⟨(a1.out.below hW).cells,(a8.out.below hW).cells,(a6.out.below hW).cells⟩);obtain⟨cS,cT,cR⟩:=D.out w3 (Below.refl _ _);rw[J.out]at cS cT cR;go_enter func105,ntmps105
 rcases a3 with⟨rfl,rfl⟩|⟨rfl,rfl⟩|⟨rfl,rfl⟩|⟨rfl,rfl,rfl⟩|⟨rfl,rfl,rfl⟩|⟨h2,h3⟩
 ·have HG:=h! (show g=false from by rw[HE.out];rfl);go_wp2_with fail
  rw[<-J.out];clear cS cT cR;refine(HT.out w3 o.out).mono ?_;rintro e w4 ⟨rfl,f⟩;obtain⟨cS,cT,cR⟩:=D.out w4 f;have C:=h! (o.out.trans (f.mono o.out.size));clear f;go_wp2_with fail
  go_ret
  exact⟨by rw[HG.out];rfl,C.out⟩
 ·have HG:=h! (show g=ps.all fun r=>r.named ts t from by rw[HE.out];simp);go_wp2_with fail
  rw[<-J.out];clear cS cT cR;refine(HT.out w3 o.out).mono ?_;rintro e w4 ⟨rfl,f⟩;obtain⟨cS,cT,cR⟩:=D.out w4 f;have M:=h! f;clear f;go_wp2_with fail
  try rw[<-J.out]
  clear cS cT cR;go_loopw [41] (fun ii wr=>∃i:Nat,i<=ps.length/\ii= .int .i64 i/\(∀j (hj:j<ps.length),j<i->ps[j].named ts t=true)/\Below w3.heap.size w3 wr) (fun ii _=>ps.length-(intOf ii).toNat)
  case atStart=>exact⟨0,by omega,rfl,fun _ _ h=>absurd h (by omega),M.out⟩
  case round =>
   obtain⟨i,hi,rfl,s,l⟩:=hrel;have v:=h! s;have d:Below w.heap.size w wr:=o.out.trans (l.mono o.out.size);clear M s;by_cases hlt:i<ps.length
   ·have F:=fun h=>h! (ah! (p:=fun j hj=>ps[j].named ts t=true) v.out hlt h);have A:=fun(h:ps[i].named ts t=false)=>h! (show g=false from by rw[HG.out];exact List.all_eq_false.2 ⟨ps[i],n5! hlt,by rw[h];exact Bool.false_ne_true⟩);obtain⟨b,z,Y,O,hb,c0,c1,c2,c3,n⟩:=HC.out i hlt;cases O;have d0:=(d.cell (p:=⟨b,z+i*4,none⟩) hb).trans c0;have d1:=(d.cell (p:=⟨b,z+i*4+1,none⟩) hb).trans c1;have d2:=(d.cell (p:=⟨b,z+i*4+2,none⟩) hb).trans c2;have d3:=(d.cell (p:=⟨b,z+i*4+3,none⟩) hb).trans c3;obtain⟨I,H,rfl,-⟩:=n.rows;have G:=d.alloc d.size (.cells #[.int .i64 ps[i].k,.string ps[i].a,.string ps[i].b,.slice I ps[i].ps.length H] 106);have y:=n.up G;have K:=(Blk.made wr #[.int .i64 ps[i].k,.string ps[i].a,.string ps[i].b,.slice I ps[i].ps.length H] 106).cells;have q:=h! G;clear c0 c1 c2 c3 n G d;have m:=h! (l.alloc l.size (.cells #[.int .i64 ps[i].k,.string ps[i].a,.string ps[i].b,.slice I ps[i].ps.length H] 106));obtain⟨cS,cT,cR⟩:=D.out _ m.out;have HR:=h! (HI.out ps[i] (n5! hlt) _ _ (T.out.up q.out) (U.out.up q.out) y);unfold rV at HR;clear y l;generalize ps[i]=p at *;cases hx:p.named ts t with
    | true =>
     rw[hx]at HR;have HN:=F hx;clear F A hx;go_wp2_with fail
     refine HR.out.mono ?_;rintro e w6 ⟨rfl,u⟩;have E:=h! (m.out.trans (u.mono m.out.size));clear HR u K d0 d1 d2 d3 q cS cT cR;go_wp2_with fail
     go_roundw
     case rel=>exact⟨i+1,by omega,by go_num,HN.out,E.out⟩
     case measure=>simp[intOf];omega
    | false =>
     rw[hx]at HR;have HF:=A hx;clear F A hx;go_wp2_with fail
     refine HR.out.mono ?_;rintro e w6 ⟨rfl,u⟩;have E:=h! (q.out.trans (u.mono q.out.size));clear HR u K d0 d1 d2 d3 q cS cT cR;go_wp2_with fail
     go_ret
     exact⟨by rw[HF.out];rfl,E.out⟩
   ·obtain rfl:i=ps.length:=by omega
    have HF:=h! (show g=true from by
     rw[HG.out,u8!];intro x hx;obtain⟨j,hj,rfl⟩:=u0! hx;exact v.out j hj hj)
    have C:=h! d;clear d;go_wp2_with fail
    go_ret
    exact⟨by rw[HF.out];rfl,C.out⟩
 ·have HG:=h! (show g=false from by rw[HE.out];simp);go_wp2_with fail
  rw[<-J.out];clear cS cT cR;refine(HT.out w3 o.out).mono ?_;rintro e w4 ⟨rfl,f⟩;obtain⟨cS,cT,cR⟩:=D.out w4 f;have C:=h! (o.out.trans (f.mono o.out.size));clear f;go_wp2_with fail
  go_ret
  exact⟨by rw[HG.out];rfl,C.out⟩
 ·have HG:=h! (show g=false from by rw[HE.out];simp);go_wp2_with fail
  rw[<-J.out];clear cS cT cR;refine(HT.out w3 o.out).mono ?_;rintro e w4 ⟨rfl,f⟩;obtain⟨cS,cT,cR⟩:=D.out w4 f;have Q:=h! (HA.out w4 (o.out.trans (f.mono o.out.size)));go_wp2_with fail
  clear cS cT cR;refine Q.out.mono ?_;rintro e w5 ⟨rfl,R⟩;replace f:=f.trans (R.mono f.size);clear Q R;obtain⟨cS,cT,cR⟩:=D.out w5 f;have C:=h! (o.out.trans (f.mono o.out.size));clear f;go_wp2_with fail
  go_ret
  exact⟨by rw[HG.out];rfl,C.out⟩
 ·have HG:=h! (show g=ps.all fun r=>r.named ts t from by rw[HE.out];simp);go_wp2_with fail
  rw[<-J.out];clear cS cT cR;refine(HT.out w3 o.out).mono ?_;rintro e w4 ⟨rfl,f⟩;obtain⟨cS,cT,cR⟩:=D.out w4 f;have Q:=h! (HA.out w4 (o.out.trans (f.mono o.out.size)));go_wp2_with fail
  clear cS cT cR;refine Q.out.mono ?_;rintro e w5 ⟨rfl,R⟩;replace f:=f.trans (R.mono f.size);clear Q R;obtain⟨cS,cT,cR⟩:=D.out w5 f;have M:=h! f;clear f;go_wp2_with fail
  try rw[<-J.out]
  clear cS cT cR;go_loopw [41] (fun ii wr=>∃i:Nat,i<=ps.length/\ii= .int .i64 i/\(∀j (hj:j<ps.length),j<i->ps[j].named ts t=true)/\Below w3.heap.size w3 wr) (fun ii _=>ps.length-(intOf ii).toNat)
  case atStart=>exact⟨0,by omega,rfl,fun _ _ h=>absurd h (by omega),M.out⟩
  case round =>
   obtain⟨i,hi,rfl,s,l⟩:=hrel;have v:=h! s;have d:Below w.heap.size w wr:=o.out.trans (l.mono o.out.size);clear M s;by_cases hlt:i<ps.length
   ·have F:=fun h=>h! (ah! (p:=fun j hj=>ps[j].named ts t=true) v.out hlt h);have A:=fun(h:ps[i].named ts t=false)=>h! (show g=false from by rw[HG.out];exact List.all_eq_false.2 ⟨ps[i],n5! hlt,by rw[h];exact Bool.false_ne_true⟩);obtain⟨b,z,Y,O,hb,c0,c1,c2,c3,n⟩:=HC.out i hlt;cases O;have d0:=(d.cell (p:=⟨b,z+i*4,none⟩) hb).trans c0;have d1:=(d.cell (p:=⟨b,z+i*4+1,none⟩) hb).trans c1;have d2:=(d.cell (p:=⟨b,z+i*4+2,none⟩) hb).trans c2;have d3:=(d.cell (p:=⟨b,z+i*4+3,none⟩) hb).trans c3;obtain⟨I,H,rfl,-⟩:=n.rows;have G:=d.alloc d.size (.cells #[.int .i64 ps[i].k,.string ps[i].a,.string ps[i].b,.slice I ps[i].ps.length H] 106);have y:=n.up G;have K:=(Blk.made wr #[.int .i64 ps[i].k,.string ps[i].a,.string ps[i].b,.slice I ps[i].ps.length H] 106).cells;have q:=h! G;clear c0 c1 c2 c3 n G d;have m:=h! (l.alloc l.size (.cells #[.int .i64 ps[i].k,.string ps[i].a,.string ps[i].b,.slice I ps[i].ps.length H] 106));obtain⟨cS,cT,cR⟩:=D.out _ m.out;have HR:=h! (HI.out ps[i] (n5! hlt) _ _ (T.out.up q.out) (U.out.up q.out) y);unfold rV at HR;clear y l;generalize ps[i]=p at *;cases hx:p.named ts t with
    | true =>
     rw[hx]at HR;have HN:=F hx;clear F A hx;go_wp2_with fail
     refine HR.out.mono ?_;rintro e w6 ⟨rfl,u⟩;have E:=h! (m.out.trans (u.mono m.out.size));clear HR u K d0 d1 d2 d3 q cS cT cR;go_wp2_with fail
     go_roundw
     case rel=>exact⟨i+1,by omega,by go_num,HN.out,E.out⟩
     case measure=>simp[intOf];omega
    | false =>
     rw[hx]at HR;have HF:=A hx;clear F A hx;go_wp2_with fail
     refine HR.out.mono ?_;rintro e w6 ⟨rfl,u⟩;have E:=h! (q.out.trans (u.mono q.out.size));clear HR u K d0 d1 d2 d3 q cS cT cR;go_wp2_with fail
     go_ret
     exact⟨by rw[HF.out];rfl,E.out⟩
   ·obtain rfl:i=ps.length:=by omega
    have HF:=h! (show g=true from by
     rw[HG.out,u8!];intro x hx;obtain⟨j,hj,rfl⟩:=u0! hx;exact v.out j hj hj)
    have C:=h! d;clear d;go_wp2_with fail
    go_ret
    exact⟨by rw[HF.out];rfl,C.out⟩
 ·have a7:(k == 2)=false:=by rw[n7!];exact h2
  have a4:(k == 3)=false:=by rw[n7!];exact h3
  have HG:=h! (show g=ps.all fun r=>r.named ts t from by rw[HE.out,a7,a4];simp);clear h2 h3;have M:=h! (Below.refl w3.heap.size w3);go_wp2_with fail
  try rw[<-J.out]
  go_loopw [41] (fun ii wr=>∃i:Nat,i<=ps.length/\ii= .int .i64 i/\(∀j (hj:j<ps.length),j<i->ps[j].named ts t=true)/\Below w3.heap.size w3 wr) (fun ii _=>ps.length-(intOf ii).toNat)
  case atStart=>exact⟨0,by omega,rfl,fun _ _ h=>absurd h (by omega),M.out⟩
  case round =>
   obtain⟨i,hi,rfl,s,l⟩:=hrel;have v:=h! s;have d:Below w.heap.size w wr:=o.out.trans (l.mono o.out.size);clear M s;by_cases hlt:i<ps.length
   ·have F:=fun h=>h! (ah! (p:=fun j hj=>ps[j].named ts t=true) v.out hlt h);have A:=fun(h:ps[i].named ts t=false)=>h! (show g=false from by rw[HG.out];exact List.all_eq_false.2 ⟨ps[i],n5! hlt,by rw[h];exact Bool.false_ne_true⟩);obtain⟨b,z,Y,O,hb,c0,c1,c2,c3,n⟩:=HC.out i hlt;cases O;have d0:=(d.cell (p:=⟨b,z+i*4,none⟩) hb).trans c0;have d1:=(d.cell (p:=⟨b,z+i*4+1,none⟩) hb).trans c1;have d2:=(d.cell (p:=⟨b,z+i*4+2,none⟩) hb).trans c2;have d3:=(d.cell (p:=⟨b,z+i*4+3,none⟩) hb).trans c3;obtain⟨I,H,rfl,-⟩:=n.rows;have G:=d.alloc d.size (.cells #[.int .i64 ps[i].k,.string ps[i].a,.string ps[i].b,.slice I ps[i].ps.length H] 106);have y:=n.up G;have K:=(Blk.made wr #[.int .i64 ps[i].k,.string ps[i].a,.string ps[i].b,.slice I ps[i].ps.length H] 106).cells;have q:=h! G;clear c0 c1 c2 c3 n G d;have m:=h! (l.alloc l.size (.cells #[.int .i64 ps[i].k,.string ps[i].a,.string ps[i].b,.slice I ps[i].ps.length H] 106));obtain⟨cS,cT,cR⟩:=D.out _ m.out;have HR:=h! (HI.out ps[i] (n5! hlt) _ _ (T.out.up q.out) (U.out.up q.out) y);unfold rV at HR;clear y l;generalize ps[i]=p at *;cases hx:p.named ts t with
    | true =>
     rw[hx]at HR;have HN:=F hx;clear F A hx;go_wp2_with fail
     refine HR.out.mono ?_;rintro e w6 ⟨rfl,u⟩;have E:=h! (m.out.trans (u.mono m.out.size));clear HR u K d0 d1 d2 d3 q cS cT cR;go_wp2_with fail
     go_roundw
     case rel=>exact⟨i+1,by omega,by go_num,HN.out,E.out⟩
     case measure=>simp[intOf];omega
    | false =>
     rw[hx]at HR;have HF:=A hx;clear F A hx;go_wp2_with fail
     refine HR.out.mono ?_;rintro e w6 ⟨rfl,u⟩;have E:=h! (q.out.trans (u.mono q.out.size));clear HR u K d0 d1 d2 d3 q cS cT cR;go_wp2_with fail
     go_ret
     exact⟨by rw[HF.out];rfl,E.out⟩
   ·obtain rfl:i=ps.length:=by omega
    have HF:=h! (show g=true from by
     rw[HG.out,u8!];intro x hx;obtain⟨j,hj,rfl⟩:=u0! hx;exact v.out j hj hj)
    have C:=h! d;clear d;go_wp2_with fail
    go_ret
    exact⟨by rw[HF.out];rfl,C.out⟩
theorem ot! (x:Int):wrap64 x<=9223372036854775807:=by unfold wrap64;omega
def fewR:List (ByteArray × RT)->Int->Option Int
 | [],left=>some left
 | x::rs,left=>if left<0 then none else fewR rs (x.2.small (left-((x.1.size / 100:Nat):Int)))
def fewT:List TyS->Int->Bool
 | [],left=>decide (0<=left)
 | t::ts,left=>match fewR t.rels (wrap64 (wrap64 (left-1)-((t.name.size / 100:Nat):Int))) with
  | none=>false
  | some l=>fewT ts l
theorem lV! (ts:List TyS)(tv:Value)(w:World)(h:pU! (· < w.heap.size) w ts tv)(hok:∀t∈ts,t.Ok):Calls prog 38 #[.agg #[tv]] w fun e w'=>e= .returned (.bool (fewT ts 200))/\Below w.heap.size w w':=by
 obtain⟨ao,c,rfl,ap,al,q⟩:=h.rows;have HC:=h! q;have a9:=h! hok;generalize hg:fewT ts 200=g;have R:=h! hg.symm;have a4:=(Blk.made w #[.slice ao ts.length c] 26).cells;have a0:Hid (Below w.heap.size w (w.alloc (.cells #[.slice ao ts.length c] 26))):=h! ((Below.refl _ _).alloc (n0! _) _);clear h q hok hg;go_enter func38,ntmps38
 go_wp2_with fail
 clear a4;go_loopw [3,11] (fun lv ii wr=>∃(i:Nat) (L:Int),i<=ts.length/\ii= .int .i64 i/\lv= .int .i64 L/\g=fewT (ts.drop i) L/\Below w.heap.size w wr) (fun _ ii _=>ts.length-(intOf ii).toNat)
 case atStart=>exact⟨0,200,by omega,rfl,rfl,R.out,a0.out⟩
 case round =>
  obtain⟨i,L,hi,rfl,rfl,o,d⟩:=hrel;clear a0 R;by_cases hlt:i<ts.length
  ·rw[List.drop_eq_getElem_cons hlt,fewT]at o;have H:=a9.out _ (n5! hlt);obtain⟨b,s,ab,Q,hb,c0,c1,f⟩:=HC.out i hlt;cases Q;have d0:=(d.cell (p:=⟨b,s+i*2,none⟩) hb).trans c0;have d1:=(d.cell (p:=⟨b,s+i*2+1,none⟩) hb).trans c1;obtain⟨z,A,rfl,-⟩:=f.rows;have v:=d.alloc d.size (.cells #[.string ts[i].name,.slice z ts[i].rels.length A] 176);have l:=f.up v;have ad:=h! (Blk.made wr #[.string ts[i].name,.slice z ts[i].rels.length A] 176);have K:=ad.out.cells;have r:=h! v;clear c0 c1 f v d;have ae:=h! hlt;generalize ts[i]=t at *;obtain⟨tn,rels⟩:=t;dsimp only at *;obtain⟨X,N⟩:=H;dsimp only at X N;have ac:((tn.size:Int)).tdiv 100=((tn.size / 100:Nat):Int):=by rw[Int.tdiv_eq_ediv_of_nonneg (by omega)];omega
   have a3:tn.size / 100<=92233720368547758:=by omega
   generalize tn.size / 100=qn at *;have I:wrap64 (qn:Int)=(qn:Int):=bn! _ (by omega) (by omega);obtain⟨L1,G⟩:=e! (wrap64 (wrap64 (L-1)-(qn:Int)));have D:L1<=9223372036854775807:=by rw[G];exact ot! _
   rw[<-G]at o;have a2:=h! G;have E:=h! D;have Y:=h! o;have a8:=h! N;obtain⟨am,c3,a6,ai,ah,n⟩:=l.rows;injection a6 with hv31 hv32 hv33
   subst hv31 hv33;have a1:=h! n;clear o G D N X a3 l n hv32;go_wp2_with fail
   clear hlt;rw[<-a2.out];clear K d0 d1 ac I a2;obtain⟨wq,U⟩:=e! (wr.alloc (.cells #[.string tn,.slice z rels.length A] 176));rw[<-U]at r a1 ⊢;have F:=h! r.out;clear U r;go_loopw [3,25] (fun mv jj wr=>∃(j:Nat) (M:Int),j<=rels.length/\jj= .int .i64 j/\mv= .int .i64 M/\M<=9223372036854775807/\fewR rels L1=fewR (rels.drop j) M/\Below wq.heap.size wq wr) (fun _ jj _=>rels.length-(intOf jj).toNat)
   case atStart=>exact⟨0,L1,by omega,rfl,rfl,E.out,rfl,Below.refl _ _⟩
   case round =>
    obtain⟨j,M,hj,rfl,rfl,an,m,C⟩:=hrel;clear E;by_cases hlt:j<rels.length
    ·rw[List.drop_eq_getElem_cons hlt]at m;have B:=a8.out _ (n5! hlt);have d:=C;obtain⟨b,s,ab,Q,hb,c0,c1,c2,c3,c4,f⟩:=a1.out j hlt;cases Q;have d0:=(d.cell (p:=⟨b,s+j*5,none⟩) hb).trans c0;have d1:=(d.cell (p:=⟨b,s+j*5+1,none⟩) hb).trans c1;have d2:=(d.cell (p:=⟨b,s+j*5+2,none⟩) hb).trans c2;have d3:=(d.cell (p:=⟨b,s+j*5+3,none⟩) hb).trans c3;have d4:=(d.cell (p:=⟨b,s+j*5+4,none⟩) hb).trans c4;obtain⟨z,A,rfl,-⟩:=f.rows;have v:=d.alloc d.size (.cells #[.string rels[j].1,.int .i64 rels[j].2.k,.string rels[j].2.a,.string rels[j].2.b,.slice z rels[j].2.ps.length A] 181);have l:=f.up v;have aj:=h! (Blk.made wr #[.string rels[j].1,.int .i64 rels[j].2.k,.string rels[j].2.a,.string rels[j].2.b,.slice z rels[j].2.ps.length A] 181);have K:=aj.out.cells;have r:=h! v;clear c0 c1 c2 c3 c4 f v d;generalize rels[j]=x at *;obtain⟨xn,p⟩:=x;dsimp only at *;rw[fewR]at m;by_cases hneg:M<0
     ·rw[if_pos hneg]at m;have HF:Hid (g=false):=h! (by rw[Y.out,m]);have y:=h! (F.out.trans (r.out.mono F.out.size));clear m l B C;go_wp2_with fail
      go_ret
      exact⟨by rw[HF.out];rfl,y.out⟩
     ·rw[if_neg hneg]at m;obtain⟨ak,Z⟩:=B;obtain⟨qx,u⟩:∃qx:Nat,qx=xn.size / 100:=⟨_,rfl⟩;rw[<-u]at m;have ag:qx<=92233720368547758:=by rw[u];omega
      have T:=h! (show((xn.size:Int)).tdiv 100=(qx:Int)from by rw[u,Int.tdiv_eq_ediv_of_nonneg (by omega)];omega);clear u ak;have hlo : -2305843009213693952<=M-(qx:Int):=by omega
      have O:M-(qx:Int)<=9223372036854775807:=by omega
      have HR:=h! (kZ! p _ (M-(qx:Int)) _ l Z hlo O);unfold rV at HR;have a7:=h! (show p.small (M-(qx:Int))<=9223372036854775807 from by have:=p.small_le (M-(qx:Int));omega);have a5:=h! m;have u:=T.out;have J:wrap64 (M-(qx:Int))=M-(qx:Int):=bn! _ (Int.le_trans (by decide) hlo) O;have I:wrap64 (qx:Int)=(qx:Int):=bn! _ (by clear J u;omega) (by clear J u;omega);clear m l Z ag C hlo O;go_wp2_with fail
      refine HR.out.mono ?_;rintro e w5 ⟨rfl,V⟩;have af:=h! (r.out.trans (V.mono r.out.size));clear HR V K d0 d1 d2 d3 d4 r u I J T;go_wp2_with fail
      go_roundw
      case rel=>exact⟨j+1,p.small (M-(qx:Int)),by omega,by go_num,rfl,a7.out,a5.out,af.out⟩
      case measure=>simp[intOf];omega
    ·obtain rfl:j=rels.length:=by omega
     rw[List.drop_length,fewR]at m;have HF:Hid (g=fewT (ts.drop (i+1)) M):=h! (by rw[Y.out,m]);have y:=h! (F.out.trans (C.mono F.out.size));have aa:=ae.out;clear m C;go_wp2_with fail
     go_roundw
     case rel=>exact⟨i+1,M,by omega,by go_num,rfl,HF.out,y.out⟩
     case measure=>simp[intOf];omega
  ·obtain rfl:i=ts.length:=by omega
   rw[List.drop_length,fewT]at o;have y:=h! d;by_cases h0:0<=L
   ·rw[v2! h0]at o;have HF:=h! o;clear d o;go_wp2_with fail
    go_ret
    exact⟨by rw[HF.out];simp,y.out⟩
   ·rw[v3! h0]at o;have HF:=h! o;clear d o;go_wp2_with fail
    go_ret
    exact⟨by rw[HF.out];simp,y.out⟩
end Go.Proofs.YtlhaghoajpglaaaGreat
