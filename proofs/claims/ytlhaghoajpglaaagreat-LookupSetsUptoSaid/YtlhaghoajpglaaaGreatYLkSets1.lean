/- Lemmas for the claim, no condition. -/
import Derived.Lib.Hide
import Derived.DeepKeys4
import Derived.Lib.Builder
import Derived.Lib.UnsafeStr
import Derived.Test.YtlhaghoajpglaaaGreatYLkSets0
set_option maxRecDepth 100000
set_option maxHeartbeats 3200000
namespace Go.Proofs.YtlhaghoajpglaaaGreat
open Go Go.RowKit
open Go.Maps (Keyed)
open Go.ChangeMaps (setBlock modify_eq_set)
open Go.MapKept (Stamped stamped_push stamped_modify stamped_erase)
theorem filter_erase {α:Type} (p:α->Bool):∀ (l:List α)(j:Nat),(∀ x,l[j]?=some x->p x=false)->(l.eraseIdx j).filter p=l.filter p
 | [],_,_=>rfl
 | x::l,0,h=>by
  rw[List.eraseIdx_cons_zero,List.filter_cons_of_neg];rw[h x rfl];decide
 | x::l,j+1,h=>by
  rw[List.eraseIdx_cons_succ,List.filter_cons,List.filter_cons,filter_erase p l j fun y hy=>h y (by simpa using hy)]
section
variable {P : Program} {k t e : TypeId} {κ α : Type} {kv : κ -> Value} {ev : α -> Value} {w : World} {b r : Nat} {l rem : List (κ × α)}
theorem Rng.drop {ty:TypeId} [DecidableEq κ] (h:Rng P k kv ev w b r l rem)(K:Keyed P k)(inj:∀ a b,kv a=kv b->a=b)(ht:P.underlying t=some (.map k e)) {a:κ} (hk:∃ q,keyOf P k (kv a)=some q)(ha:∀ p∈rem,p.1≠a) :
  ∃ w',(Builtin.delete_ #[t,k] ty #[.map (some b),kv a]).run P w = .ok (.tuple #[]) w'/\Rng P k kv ev w' b r (delA l a) rem/\Turned w w' b:=by
 have hn:=h.mp.nodup;have hne:=h.ne;obtain⟨es,clock,since,seen,c0,hb,hs,hm,hok,hr,hold,hsc,hscl,hrem⟩:=h;obtain⟨q,hq⟩:=hk;have hr2:∀ o,(setBlock w b o).heap[r]?=some (.mapIter (some b) since seen c0):=fun o=>(setBlock_block _ _ _ _ hne).trans hr;rcases K.find w hq es.toList (pairs_ok hm hok)with⟨h1,h2⟩ | ⟨j,e0,h1,h2,h3⟩
 ·refine⟨setBlock w b (.map es clock),?_,⟨es,clock,since,seen,c0,setBlock_at hb,hs,?_,?_,hr2 _,hold,hsc,hscl,hrem⟩,_,rfl⟩
  ·simp[Builtin.delete_,run_underlying ht,MapKept.run_getObj_map hb,K.check w _ hq,h1,MapKept.run_setObj_map _ hb,Result.andThen,setBlock]
  ·rw[del_miss (pairs_no hm h2),hm]
  ·rw[del_miss (pairs_no hm h2)];exact hok
 ·obtain⟨p,hp,e1,e2⟩:=pairs_at hm h2;have hpa:p.1=a:=inj _ _ (e1.symm.trans h3);have hjs:j<es.size:=by simpa using (List.getElem?_eq_some_iff.1 h2).1
  have hsub:(es.eraseIdxIfInBounds j).toList=es.toList.eraseIdx j:=by
   unfold Array.eraseIdxIfInBounds;rw[dif_pos hjs];simp
  have hd:=(pairs_hit (x:=p.2) hn hp hpa).2.2;refine⟨setBlock w b (.map (es.eraseIdxIfInBounds j) clock),?_,⟨_,_,since,seen,c0,setBlock_at hb,stamped_erase hs j,?_,?_,hr2 _,?_,hsc,hscl,?_⟩,_,rfl⟩
  ·simp[Builtin.delete_,run_underlying ht,MapKept.run_getObj_map hb,K.check w _ hq,h1,MapKept.run_setObj_map _ hb,Result.andThen,setBlock]
  ·rw[hd,hsub,Go.ChangeMaps.map_eraseIdx,Go.ChangeMaps.map_eraseIdx,hm]
  ·rw[hd];intro y hy;exact hok y ((List.eraseIdx_sublist _ _).subset hy)
  ·rw[hsub];intro x hx;exact hold x ((List.eraseIdx_sublist _ _).subset hx)
  ·rw[<- hrem]
   have:(leftOf (es.eraseIdxIfInBounds j) seen).toList=(leftOf es seen).toList:=by
    simp only[leftOf,Array.toList_filter];rw[hsub];refine filter_erase _ _ _ fun x hx=>?_;rw[h2]at hx;cases hx;rw[Bool.eq_false_iff];intro hc
    have hmem:e0∈(leftOf es seen).toList:=by
     simp only[leftOf,Array.toList_filter];exact List.mem_filter.2 ⟨List.mem_of_getElem? h2,hc⟩
    have h5:(e0.key,e0.val)∈(leftOf es seen).toList.map (fun x=>(x.key,x.val)):=List.mem_map.2 ⟨e0,hmem,rfl⟩;rw[hrem]at h5;obtain⟨p',hp',e'⟩:=List.mem_map.1 h5;refine ha p' hp' (inj _ _ ?_);have:=congrArg Prod.fst e';exact this.trans h3
   rw[this]
theorem del_blG {ι:Type} [DecidableEq ι] {l:List ι} (hn:l.Nodup)(a:ι):delA (blG l) a=blG (l.filter fun x=>decide (x≠a)):=by
 induction l with
 | nil=>rfl
 | cons x r ih =>
  rw[List.nodup_cons]at hn;by_cases e:x=a
  ·subst e
   have:(x::r).filter (fun y=>decide (y≠x))=r:=by
    rw[List.filter_cons_of_neg (by simp),List.filter_eq_self.2];intro y hy;simp only[decide_eq_true_eq];exact fun e=>hn.1 (e▸hy)
   rw[this];simp[blG,delA]
  ·rw[List.filter_cons_of_pos (by simpa using e)];simp only[blG,List.map_cons,delA]at *;rw[if_neg e,ih hn.2]
end
section
variable {P : Program} (w : World) {ops : Array Oper} {rest : List Oper} {o : Oper} {a : Act} {Q : Exit -> Act -> World -> Prop} {κ α : Type} {kv : κ -> Value} {ev : α -> Value} {b r : Nat} {l rem : List (κ × α)}
end
end Go.Proofs.YtlhaghoajpglaaaGreat
namespace Go.Proofs.YtlhaghoajpglaaaGreat
open Go Go.RowKit
inductive RT where
 | mk (k:Int) (a b:ByteArray) (ps:List RT)
def RT.k:RT->Int | .mk k _ _ _=>k
def RT.a:RT->ByteArray | .mk _ a _ _=>a
def RT.b:RT->ByteArray | .mk _ _ b _=>b
def RT.ps:RT->List RT | .mk _ _ _ ps=>ps
instance:Inhabited RT:=⟨.mk 0 ByteArray.empty ByteArray.empty []⟩
mutual
def RT.sz:RT->Nat | .mk _ _ _ ps=>1+szL ps
def szL:List RT->Nat | []=>0 | r::rs=>r.sz+szL rs
end
theorem szL_mem {p:RT}:∀ {ps:List RT},p∈ps->p.sz<=szL ps
 | r::rs,h=>by
  rw[szL];rcases List.mem_cons.1 h with rfl | h
  ·omega
  ·have:=szL_mem h;omega
theorem RT.sz_lt {r p:RT} (h:p∈r.ps):p.sz<r.sz:=by
 obtain⟨k,a,b,ps⟩:=r;have:=szL_mem (show p∈ps from h);rw[RT.sz];omega
theorem RT.sz_eq (r:RT):r.sz=1+szL r.ps:=by
 obtain⟨k,a,b,ps⟩:=r;rw[RT.sz];rfl
theorem RT.ind {Q:RT->Prop} (h:∀ r,(∀ p∈r.ps,Q p)->Q r)(r:RT):Q r:=by
 generalize hn:r.sz=n;induction n using Nat.strongRecOn generalizing r with
 | ind n ih=>exact h r fun p hp=>ih p.sz (by have:=RT.sz_lt hp;omega) p rfl
theorem szL_append (a b:List RT):szL (a++b)=szL a+szL b:=by
 induction a with
 | nil=>simp[szL]
 | cons x a ih=>rw[List.cons_append,szL,szL,ih];omega
theorem szL_take {l:List RT} {i:Nat} (hi:i<l.length):szL (l.take (i+1))=szL (l.take i)+l[i].sz:=by
 rw[List.take_succ_eq_append_getElem hi,szL_append];simp[szL]
mutual
def RT.Ok:RT->Prop | .mk k a b ps=>(-9223372036854775808<=k/\k<=9223372036854775807)/\a.size<=140737488351232/\b.size<=140737488351232/\okL ps
def okL:List RT->Prop | []=>True | r::rs=>r.Ok/\okL rs
end
theorem okL_mem:∀ {ps:List RT},okL ps↔∀ p∈ps,p.Ok
 | []=>by simp[okL]
 | r::rs=>by rw[okL,okL_mem];simp
theorem RT.ok_iff (r:RT):r.Ok↔(-9223372036854775808<=r.k/\r.k<=9223372036854775807)/\r.a.size<=140737488351232/\r.b.size<=140737488351232/\∀ p∈r.ps,p.Ok:=by
 obtain⟨k,a,b,ps⟩:=r;rw[RT.Ok,okL_mem];rfl
def rC (x:RT × Value):List Value:=[.int .i64 x.1.k,.string x.1.a,.string x.1.b,x.2]
theorem rC_length (x:RT × Value):(rC x).length=4:=rfl
mutual
def RTAt (S:Nat->Prop)(w:World):RT->Value->Prop
 | .mk _ _ _ ps,v=>∃ l:List Value,RTsAt S w ps l/\Sl S w 4 v ((ps.zip l).flatMap rC)
def RTsAt (S:Nat->Prop)(w:World):List RT->List Value->Prop
 | [],l=>l=[]
 | r::rs,l=>∃ pv l',l=pv::l'/\RTAt S w r pv/\RTsAt S w rs l'
end
theorem rtsAt_zip {S:Nat->Prop} {w:World}:∀ {ps:List RT} {l:List Value},RTsAt S w ps l->(ps.zip l).map (·.1)=ps/\∀ x∈ps.zip l,RTAt S w x.1 x.2
 | [],l,h=>by rw[RTsAt]at h;subst h;simp
 | r::rs,l,h=>by
  rw[RTsAt]at h;obtain⟨pv,l',rfl,h1,h2⟩:=h;obtain⟨h3,h4⟩:=rtsAt_zip h2;refine⟨by rw[List.zip_cons_cons,List.map_cons,h3],fun x hx=>?_⟩;rw[List.zip_cons_cons]at hx;rcases List.mem_cons.1 hx with rfl | hx
  ·exact h1
  ·exact h4 x hx
theorem rtsAt_of {S:Nat->Prop} {w:World}:∀ {q:List (RT × Value)},(∀ x∈q,RTAt S w x.1 x.2)->RTsAt S w (q.map (·.1)) (q.map (·.2))
 | [],_=>by rw[List.map_nil,List.map_nil,RTsAt]
 | x::q,h=>by
  rw[List.map_cons,List.map_cons,RTsAt];exact⟨x.2,_,rfl,h x List.mem_cons_self,rtsAt_of fun y hy=>h y (List.mem_cons_of_mem _ hy)⟩
theorem zip_maps {α β:Type}:∀ (q:List (α × β)),(q.map (·.1)).zip (q.map (·.2))=q
 | []=>rfl
 | x::q=>by rw[List.map_cons,List.map_cons,List.zip_cons_cons,zip_maps q]
theorem RTAt.iff {S:Nat->Prop} {w:World} (r:RT)(v:Value):RTAt S w r v↔∃ q:List (RT × Value),q.map (·.1)=r.ps/\(∀ x∈q,RTAt S w x.1 x.2)/\Sl S w 4 v (q.flatMap rC):=by
 obtain⟨k,a,b,ps⟩:=r;rw[RTAt];constructor
 ·rintro⟨l,h1,h2⟩;exact⟨_,(rtsAt_zip h1).1,(rtsAt_zip h1).2,h2⟩
 ·rintro⟨q,h1,h2,h3⟩;refine⟨q.map (·.2),?_,?_⟩
  ·have:=rtsAt_of h2;rwa[h1]at this
  ·rw[show ps=q.map (·.1)from h1.symm,zip_maps];exact h3
theorem RTAt.same {S:Nat->Prop} {w w':World} {r:RT} {v:Value} (h:RTAt S w r v)(hs:Same S w w'):RTAt S w' r v:=by
 induction r using RT.ind generalizing v with
 | h r ih =>
  obtain⟨q,h1,h2,h3⟩:=(RTAt.iff r v).1 h;exact(RTAt.iff r v).2 ⟨q,h1,fun x hx=>ih x.1 (by rw[<- h1];exact List.mem_map_of_mem hx) (h2 x hx),h3.same hs⟩
theorem RTAt.mono {S S':Nat->Prop} {w:World} {r:RT} {v:Value} (h:RTAt S w r v)(hs:∀ b,S b->S' b):RTAt S' w r v:=by
 induction r using RT.ind generalizing v with
 | h r ih =>
  obtain⟨q,h1,h2,h3⟩:=(RTAt.iff r v).1 h;exact(RTAt.iff r v).2 ⟨q,h1,fun x hx=>ih x.1 (by rw[<- h1];exact List.mem_map_of_mem hx) (h2 x hx),h3.mono hs⟩
theorem RTAt.up {w w':World} {r:RT} {v:Value} (h:RTAt (· < w.heap.size) w r v)(hb:Below w.heap.size w w'):RTAt (· < w'.heap.size) w' r v :=
 (h.same (Same.below hb)).mono fun _ h=>Nat.lt_of_lt_of_le h hb.size
theorem RTAt.rows {S:Nat->Prop} {w:World} {r:RT} {v:Value} (h:RTAt S w r v) :
  ∃ ao c,v = .slice ao r.ps.length c/\r.ps.length<=c/\c<=9223372036854775807/\∀ i (hi:i<r.ps.length),∃ b off pv,ao=some ⟨b,off,none⟩/\S b /\
   w.cell? ⟨b,off+i*4,none⟩=some (.int .i64 r.ps[i].k)/\w.cell? ⟨b,off+i*4+1,none⟩=some (.string r.ps[i].a)/\w.cell? ⟨b,off+i*4+2,none⟩=some (.string r.ps[i].b)/\w.cell? ⟨b,off+i*4+3,none⟩=some pv/\RTAt S w r.ps[i] pv:=by
 obtain⟨q,h1,h2,h3⟩:=(RTAt.iff r v).1 h;have hlen:q.length=r.ps.length:=by rw[<- h1,List.length_map]
 obtain⟨ao,c,rfl,h4,h5,hc⟩:=Sl.rows rC_length (by decide) h3;refine⟨ao,c,by rw[hlen],by omega,h5,fun i hi=>?_⟩;have hiq:i<q.length:=by omega
 obtain⟨b,off,rfl,hb,hc⟩:=hc (by omega);have hget:r.ps[i]=q[i].1:=by simp only[<- h1,List.getElem_map]
 rw[hget];exact⟨b,off,q[i].2,rfl,hb,hc i hiq 0 _ rfl,hc i hiq 1 _ rfl,hc i hiq 2 _ rfl,hc i hiq 3 _ rfl,h2 _ (List.getElem_mem hiq)⟩
def rV (r:RT)(pv:Value):Value := .agg #[.int .i64 r.k,.string r.a,.string r.b,pv]
structure TyS where
 name:ByteArray
 rels:List (ByteArray × RT)
instance:Inhabited TyS:=⟨⟨ByteArray.empty,[]⟩⟩
def TyS.Ok (t:TyS):Prop:=t.name.size<=140737488351232/\∀ r∈t.rels,r.1.size<=140737488351232/\r.2.Ok
def relC (x:(ByteArray × RT) × Value):List Value:=[.string x.1.1,.int .i64 x.1.2.k,.string x.1.2.a,.string x.1.2.b,x.2]
theorem relC_length (x:(ByteArray × RT) × Value):(relC x).length=5:=rfl
def RelsAt (S:Nat->Prop)(w:World)(l:List (ByteArray × RT))(v:Value):Prop:=∃ q:List ((ByteArray × RT) × Value),q.map (·.1)=l/\(∀ x∈q,RTAt S w x.1.2 x.2)/\Sl S w 5 v (q.flatMap relC)
def tyC (x:TyS × Value):List Value:=[.string x.1.name,x.2]
theorem tyC_length (x:TyS × Value):(tyC x).length=2:=rfl
def TysAt (S:Nat->Prop)(w:World)(l:List TyS)(v:Value):Prop:=∃ q:List (TyS × Value),q.map (·.1)=l/\(∀ x∈q,RelsAt S w x.1.rels x.2)/\Sl S w 2 v (q.flatMap tyC)
section
variable {S S' : Nat -> Prop} {w w' : World} {l : List (ByteArray × RT)} {ts : List TyS} {v : Value}
theorem RelsAt.same (h:RelsAt S w l v)(hs:Same S w w'):RelsAt S w' l v:=by
 obtain⟨q,h1,h2,h3⟩:=h;exact⟨q,h1,fun x hx=>(h2 x hx).same hs,h3.same hs⟩
theorem RelsAt.mono (h:RelsAt S w l v)(hs:∀ b,S b->S' b):RelsAt S' w l v:=by
 obtain⟨q,h1,h2,h3⟩:=h;exact⟨q,h1,fun x hx=>(h2 x hx).mono hs,h3.mono hs⟩
theorem TysAt.same (h:TysAt S w ts v)(hs:Same S w w'):TysAt S w' ts v:=by
 obtain⟨q,h1,h2,h3⟩:=h;exact⟨q,h1,fun x hx=>(h2 x hx).same hs,h3.same hs⟩
theorem TysAt.mono (h:TysAt S w ts v)(hs:∀ b,S b->S' b):TysAt S' w ts v:=by
 obtain⟨q,h1,h2,h3⟩:=h;exact⟨q,h1,fun x hx=>(h2 x hx).mono hs,h3.mono hs⟩
theorem TysAt.up (h:TysAt (· < w.heap.size) w ts v)(hb:Below w.heap.size w w'):TysAt (· < w'.heap.size) w' ts v :=
 (h.same (Same.below hb)).mono fun _ h=>Nat.lt_of_lt_of_le h hb.size
theorem RelsAt.rows (h:RelsAt S w l v) :
  ∃ ao c,v = .slice ao l.length c/\l.length<=c/\c<=9223372036854775807/\∀ i (hi:i<l.length),∃ b off pv,ao=some ⟨b,off,none⟩/\S b/\w.cell? ⟨b,off+i*5,none⟩=some (.string l[i].1) /\
   w.cell? ⟨b,off+i*5+1,none⟩=some (.int .i64 l[i].2.k)/\w.cell? ⟨b,off+i*5+2,none⟩=some (.string l[i].2.a)/\w.cell? ⟨b,off+i*5+3,none⟩=some (.string l[i].2.b)/\w.cell? ⟨b,off+i*5+4,none⟩=some pv/\RTAt S w l[i].2 pv:=by
 obtain⟨q,h1,h2,h3⟩:=h;have hlen:q.length=l.length:=by rw[<- h1,List.length_map]
 obtain⟨ao,c,rfl,h4,h5,hc⟩:=Sl.rows relC_length (by decide) h3;refine⟨ao,c,by rw[hlen],by omega,h5,fun i hi=>?_⟩;have hiq:i<q.length:=by omega
 obtain⟨b,off,rfl,hb,hc⟩:=hc (by omega);have hget:l[i]=q[i].1:=by simp only[<- h1,List.getElem_map]
 rw[hget];exact⟨b,off,q[i].2,rfl,hb,hc i hiq 0 _ rfl,hc i hiq 1 _ rfl,hc i hiq 2 _ rfl,hc i hiq 3 _ rfl,hc i hiq 4 _ rfl,h2 _ (List.getElem_mem hiq)⟩
theorem TysAt.rows (h:TysAt S w ts v) :
  ∃ ao c,v = .slice ao ts.length c/\ts.length<=c/\c<=9223372036854775807/\∀ i (hi:i<ts.length),∃ b off pv,ao=some ⟨b,off,none⟩/\S b/\w.cell? ⟨b,off+i*2,none⟩=some (.string ts[i].name)/\w.cell? ⟨b,off+i*2+1,none⟩=some pv/\RelsAt S w ts[i].rels pv:=by
 obtain⟨q,h1,h2,h3⟩:=h;have hlen:q.length=ts.length:=by rw[<- h1,List.length_map]
 obtain⟨ao,c,rfl,h4,h5,hc⟩:=Sl.rows tyC_length (by decide) h3;refine⟨ao,c,by rw[hlen],by omega,h5,fun i hi=>?_⟩;have hiq:i<q.length:=by omega
 obtain⟨b,off,rfl,hb,hc⟩:=hc (by omega);have hget:ts[i]=q[i].1:=by simp only[<- h1,List.getElem_map]
 rw[hget];exact⟨b,off,q[i].2,rfl,hb,hc i hiq 0 _ rfl,hc i hiq 1 _ rfl,h2 _ (List.getElem_mem hiq)⟩
end
theorem szL_le (l:List RT)(i:Nat):szL (l.take i)<=szL l:=by
 conv=>rhs;rw[<- List.take_append_drop i l]
 rw[szL_append];omega
theorem sizeR_any (r:RT):∀ (pv:Value)(w:World),RTAt (· < w.heap.size) w r pv->r.sz<=1000000->Calls Tryz.prog 130 #[rV r pv] w fun e w'=>e = .returned (.int .i64 r.sz)/\Below w.heap.size w w':=by
 induction r using RT.ind with
 | h r ih =>
 intro pv w hat hs;obtain⟨ao,c,rfl,hlc,hcm,hcell⟩:=hat.rows;rw[RT.sz_eq]at hs;have HC:=h! hcell;have HI:=h! ih;have HSZ:=h! r.sz_eq;have hbk:=(Blk.made w #[.int .i64 r.k,.string r.a,.string r.b,.slice ao r.ps.length c] 106).cells;have hb0:Below w.heap.size w (w.alloc (.cells #[.int .i64 r.k,.string r.a,.string r.b,.slice ao r.ps.length c] 106)):=(Below.refl _ _).alloc (Nat.le_refl _) _;have HB0:=h! hb0;have HS:=h! hs;clear hat hcell ih hb0 hs;unfold rV;rw[HSZ.out];clear HSZ;generalize hps:r.ps=ps at *;clear hps;go_enter Tryz.func130,Tryz.ntmps130
 go_wp2_with fail
 clear hbk;go_loopw [3,9] (fun nn ii wr=>∃ i:Nat,i<=ps.length/\ii = .int .i64 i/\nn = .int .i64 ((1+szL (ps.take i):Nat):Int)/\Below w.heap.size w wr) (fun _ ii _=>ps.length-(intOf ii).toNat)
 case atStart=>exact⟨0,by omega,rfl,by simp[szL],HB0.out⟩
 case round =>
  obtain⟨i,hi,rfl,rfl,hbel⟩:=hrel;clear HB0;by_cases hlt:i<ps.length
  ·obtain⟨b,off,pv2,rfl,hb,c0,c1,c2,c3,hat2⟩:=HC.out i hlt;have d0:=(hbel.cell (p:=⟨b,off+i*4,none⟩) hb).trans c0;have d1:=(hbel.cell (p:=⟨b,off+i*4+1,none⟩) hb).trans c1;have d2:=(hbel.cell (p:=⟨b,off+i*4+2,none⟩) hb).trans c2;have d3:=(hbel.cell (p:=⟨b,off+i*4+3,none⟩) hb).trans c3;obtain⟨ao2,c2',rfl,-⟩:=hat2.rows;have hst:=szL_take hlt;have hle:=szL_le ps (i+1);have hsl:=HS.out;have hb1:=hbel.alloc hbel.size (.cells #[.int .i64 ps[i].k,.string ps[i].a,.string ps[i].b,.slice ao2 ps[i].ps.length c2'] 106);have HR:=h! (HI.out ps[i] (List.getElem_mem hlt) _ _ (hat2.up hb1) (by have:=szL_mem (List.getElem_mem hlt);omega));unfold rV at HR;have HB1:=h! hb1;have hbx:=(Blk.made wr #[.int .i64 ps[i].k,.string ps[i].a,.string ps[i].b,.slice ao2 ps[i].ps.length c2'] 106).cells;have HST:=h! hst;rw[hst]at hle;clear c0 c1 c2 c3 hat2 hb1 hbel hst;generalize ps[i]=p at *;generalize szL (ps.take i)=sa at *;go_wp2_with fail
   refine HR.out.mono ?_;rintro e w5 ⟨rfl,hb5⟩;have HB5:=h! (HB1.out.trans (hb5.mono HB1.out.size));clear HR hb5 hbx d0 d1 d2 d3 HB1;generalize p.sz=ms at *;go_wp2_with fail
   go_roundw
   case rel=>exact⟨i+1,by omega,by go_num,by rw[HST.out];go_num,HB5.out⟩
   case measure=>simp[intOf];omega
  ·obtain rfl:i=ps.length:=by omega
   rw[List.take_length];have HBE:=h! hbel;clear hbel;go_wp2_with fail
   go_ret
   exact⟨rfl,HBE.out⟩
theorem wrap_in (x:Int)(h1 : -9223372036854775808<=x)(h2:x<=9223372036854775807):wrap64 x=x:=by unfold wrap64;omega
theorem ba_size_ne {a:ByteArray} (h:a.size≠0):a.toList.isEmpty=false:=by
 rw[ByteArray.toList_eq];cases h':a.data.toList with
 | nil=>exact absurd (by have:=congrArg List.length h';simpa using this) h
 | cons=>rfl
theorem ba_size_eq {a:ByteArray} (h:a.size=0):a=⟨#[]⟩:=by
 refine ByteArray.ext (Array.eq_empty_of_size_eq_zero h)
def okc (c:UInt8):Bool:=decide ((97<=(c.toNat:Int)/\(c.toNat:Int)<=122)\/(48<=(c.toNat:Int)/\(c.toNat:Int)<=57)\/(c.toNat:Int)=95\/(c.toNat:Int)=45)
def isNm (s:ByteArray):Bool:=s.data.toList.all okc&&(decide (1<=s.size)&&decide (s.size<=32))
theorem isNm_bad {s:ByteArray} {i:Nat} (hi:i<s.size)(h:okc s[i]=false):isNm s=false:=by
 unfold isNm;rw[Bool.and_eq_false_iff];left
 rw[List.all_eq_false];exact⟨s[i],by rw[show s[i]=s.data.toList[i]'(by simpa using hi)from rfl];exact List.getElem_mem _,by simpa using h⟩
theorem isNm_end {s:ByteArray} (h:∀ j (hj:j<s.size),j<s.size->okc s[j]=true):isNm s=(decide (1<=s.size)&&decide (s.size<=32)):=by
 unfold isNm;rw[show s.data.toList.all okc=true from ?_,Bool.true_and];rw[List.all_eq_true];intro x hx;obtain⟨j,hj,rfl⟩:=List.getElem_of_mem hx;have hj':j<s.size:=by simpa using hj
 exact h j hj' hj'
theorem isName_any (s:ByteArray)(hs:s.size<=maxLen)(w:World):Calls Tryz.prog 141 #[.string s] w fun e w'=>e = .returned (.bool (isNm s))/\w'=w:=by
 have hsz:s.size<=9223372036854775807:=by unfold maxLen at hs;omega
 clear hs;go_enter Tryz.func141,Tryz.ntmps141
 go_wp2_with fail
 go_loopw [7] (fun ii wr=>∃ i:Nat,i<=s.size/\ii = .int .i64 i/\(∀ j (hj:j<s.size),j<i->okc s[j]=true)/\wr=w) (fun ii _=>s.size-(intOf ii).toNat)
 case atStart=>exact⟨0,by omega,rfl,fun _ _ h=>absurd h (by omega),rfl⟩
 case round =>
  obtain⟨i,hi,rfl,hall,rfl⟩:=hrel;have HALL:=h! hall;clear hall;by_cases hlt:i<s.size
  ·go_wp2_with fail
   all_goals first
    | (refine⟨⟨i+1,by omega,by go_num,upto_succ (p:=fun j hj=>okc s[j]=true) HALL.out hlt ?_,trivial⟩,by simp[intOf];omega⟩
       unfold okc;rw[decide_eq_true_iff];try simp only[beq_iff_eq,beq_eq_false_iff_ne,ne_eq]at *
       omega)
    | (go_ret
       refine⟨?_,rfl⟩
       rw[isNm_bad hlt (by
         unfold okc;rw[decide_eq_false_iff_not];try simp only[beq_eq_false_iff_ne,ne_eq]at *
         omega)]
       rfl)
  ·obtain rfl:i=s.size:=by omega
   have HE:=h! (isNm_end HALL.out);by_cases h0:s.size=0
   ·obtain rfl:=ba_size_eq h0;clear h0;go_wp2_with fail
    go_ret
    exact⟨by rw[HE.out];rfl,rfl⟩
   ·have hne:=ba_size_ne h0;have h1:1<=s.size:=by omega
    have HE2:=h! (show isNm s=decide ((s.size:Int)<=32)from by
     rw[HE.out,decide_eq_true h1,Bool.true_and];by_cases h:s.size<=32
     ·rw[decide_eq_true h,decide_eq_true (by omega)]
     ·rw[decide_eq_false h,decide_eq_false (by omega)])
    clear HE h0 h1;go_wp2_with fail
    go_ret
    exact⟨by rw[HE2.out];rfl,rfl⟩
theorem refName_any (s:ByteArray)(hs:s.size<=maxLen)(w:World):Calls Tryz.prog 96 #[.string s] w fun e w'=>e = .returned (.bool (isNm s))/\w'=w:=by
 have hsz:s.size<=9223372036854775807:=by unfold maxLen at hs;omega
 clear hs;go_enter Tryz.func96,Tryz.ntmps96
 go_wp2_with fail
 go_loopw [3] (fun ii wr=>∃ i:Nat,i<=s.size/\ii = .int .i64 i/\(∀ j (hj:j<s.size),j<i->okc s[j]=true)/\wr=w) (fun ii _=>s.size-(intOf ii).toNat)
 case atStart=>exact⟨0,by omega,rfl,fun _ _ h=>absurd h (by omega),rfl⟩
 case round =>
  obtain⟨i,hi,rfl,hall,rfl⟩:=hrel;have HALL:=h! hall;clear hall;by_cases hlt:i<s.size
  ·go_wp2_with fail
   all_goals first
    | (refine⟨⟨i+1,by omega,by go_num,upto_succ (p:=fun j hj=>okc s[j]=true) HALL.out hlt ?_,trivial⟩,by simp[intOf];omega⟩
       unfold okc;rw[decide_eq_true_iff];(try simp at *) <;> omega)
    | (go_ret
       refine⟨?_,rfl⟩
       rw[isNm_bad hlt (by
         unfold okc;rw[decide_eq_false_iff_not];(try simp at *) <;> omega)]
       rfl)
  ·obtain rfl:i=s.size:=by omega
   have HE:=h! (isNm_end HALL.out);by_cases h0:s.size=0
   ·obtain rfl:=ba_size_eq h0;clear h0;go_wp2_with fail
    go_ret
    exact⟨by rw[HE.out];rfl,rfl⟩
   ·have h1:1<=s.size:=by omega
    have h2:(1:Int)<=(s.size:Int):=by omega
    have HE2:=h! (show isNm s=decide ((s.size:Int)<=32)from by
     rw[HE.out,decide_eq_true h1,Bool.true_and];by_cases h:s.size<=32
     ·rw[decide_eq_true h,decide_eq_true (by omega)]
     ·rw[decide_eq_false h,decide_eq_false (by omega)])
    clear HE h0 h1;go_wp2_with fail
    go_ret
    exact⟨by rw[HE2.out];rfl,rfl⟩
def ownB (s:ByteArray):Bool:=isNm s&&decide (s≠⟨#[116,104,105,115]⟩)
def hasT (t:TyS)(n:ByteArray):Bool:=t.rels.any fun r=>decide (r.1=n)
def anyT (ts:List TyS)(n:ByteArray):Bool:=ts.any fun t=>hasT t n
structure R2 where
 t:ByteArray
 r:ByteArray
deriving DecidableEq
instance:Inhabited R2:=⟨⟨ByteArray.empty,ByteArray.empty⟩⟩
def r2V (p:R2):Value := .agg #[.string p.t,.string p.r]
def r2C (p:R2):List Value:=[.string p.t,.string p.r]
theorem r2C_length (p:R2):(r2C p).length=2:=rfl
theorem ba_toList (a b:ByteArray):a.toList=b.toList↔a=b:=by
 rw[ByteArray.toList_eq,ByteArray.toList_eq];exact⟨fun h=>ByteArray.ext (by rw[<- Array.toList_inj];exact h),fun h=>by rw[h]⟩
end Go.Proofs.YtlhaghoajpglaaaGreat
namespace Go.Proofs.YtlhaghoajpglaaaGreat
open Go Go.RowKit Go.Maps
theorem laidOut:laidOutB Tryz.prog=true:=by kernel_rfl
theorem str_lits (d:Nat)(s:ByteArray)(h:s.size<=maxLen):Tryz.prog.keyLits (d+1) 9 [.string s]=some [.string s.data.toList]:=by
 unfold Program.keyLits;rw[Tryz.underlying9];simp only[h,if_true]
theorem obj_lits (d:Nat)(s u:ByteArray)(h:s.size<=maxLen)(k:u.size<=maxLen):Tryz.prog.keyLits (d+1+1) 30 [.string s,.string u]=some [.string s.data.toList,.string u.data.toList]:=by
 unfold Program.keyLits;rw[Tryz.underlying30];have e1:=str_lits d s h;have e2:=str_lits d u k;have e3:Tryz.prog.cellsOf 30=2:=by kernel_rfl
 have e4:Tryz.prog.cellsOf 9=1:=by kernel_rfl
 simp[e1,e2,e3,e4]
theorem types_many:∃ d,Tryz.prog.types.size=d+1+1+1:=⟨Tryz.prog.types.size-3,by have:3<=Tryz.prog.types.size:=of_decide_eq_true (by kernel_rfl);omega⟩
theorem refK:Keyed Tryz.prog 121:=Keyed.of_law (deep_law_laid laidOut (m:=3) (by decide) (of_decide_eq_true (by kernel_rfl)) (by kernel_rfl) (by kernel_rfl))
theorem r2V_inj (a b:R2)(h:r2V a=r2V b):a=b:=by
 obtain⟨a1,a2⟩:=a;obtain⟨b1,b2⟩:=b;simpa [r2V] using h
def R2.Ok (p:R2):Prop:=p.t.size<=maxLen/\p.r.size<=maxLen
theorem ref_lits (d:Nat)(p:R2)(h:p.Ok):Tryz.prog.keyLits (d+1+1) 121 [.string p.t,.string p.r]=some [.string p.t.data.toList,.string p.r.data.toList]:=by
 unfold Program.keyLits;rw[Tryz.underlying121];have e1:=str_lits d p.t h.1;have e2:=str_lits d p.r h.2;have e3:Tryz.prog.cellsOf 121=2:=by kernel_rfl
 have e4:Tryz.prog.cellsOf 9=1:=by kernel_rfl
 simp[e1,e2,e3,e4]
theorem ref_key (p:R2)(h:p.Ok):∃ q,keyOf Tryz.prog 121 (r2V p)=some q:=by
 obtain⟨d,hd⟩:=types_many;have e:=ref_lits (d+1+1) p h;have e2:(Tryz.prog.keyType 121&&(r2V p).formed Tryz.prog 121)=true:=by kernel_rfl
 have hs:Tryz.prog.types.size+1=d+1+1+1+1:=by omega
 unfold keyOf;rw[Tryz.underlying121];dsimp only;rw[if_pos e2,hs];rw[show(r2V p).cells.toList=[.string p.t,.string p.r]from rfl,e];exact⟨_,rfl⟩
theorem strK:Keyed Tryz.prog 9:=string_keyed Tryz.underlying9
theorem strV_inj (a b:ByteArray)(h:Value.string a=Value.string b):a=b:=by injection h
theorem str_key (s:ByteArray)(h:s.size<=maxLen):∃ q,keyOf Tryz.prog 9 (.string s)=some q:=by
 unfold keyOf;rw[Tryz.underlying9];dsimp only;unfold mapKey;rw[Tryz.underlying9];simp[h]
def QK (e:TypeId)(M:Nat->Prop)(B:Nat)(w:World)(x:Nat):Prop:=x<B\/(¬ M x/\x<w.heap.size/\∀ cs,w.heap[x]?≠some (.cells cs e (0,0)))
abbrev QKept (e:TypeId) (M:Nat->Prop) (B:Nat) (w w':World):Prop:=Kept (QK e M B w) w w'
section
variable {e : TypeId} {M : Nat -> Prop} {w w' w'' : World} {B : Nat}
theorem QKept.below (h:QKept e M B w w'):Below B w w':=Kept.below h fun _ hx => .inl hx
theorem QKept.next (h:QKept e M B w w')(k:QKept e M B w' w''):QKept e M B w w'':=Kept.trans h (Kept.mono k fun x hx=>by
 rcases hx with hx | ⟨h1,h2,h3⟩
 ·exact .inl hx
 ·refine .inr ⟨h1,Nat.lt_of_lt_of_le h2 h.size,fun cs=>?_⟩;rw[h.block x (.inr ⟨h1,h2,h3⟩)];exact h3 cs)
theorem QKept.of (h:Below w.heap.size w w')(hB:B<=w.heap.size):QKept e M B w w':=Below.kept h fun x hx=>by
 rcases hx with hx | ⟨_,h2,_⟩
 ·omega
 ·exact h2
theorem QKept.box (h:QKept e M B w w') {x:Nat} {cs:Array Value} {t:TypeId} (hx:Blk w x cs t)(he:t≠e)(hb:¬ M x):Blk w' x cs t:=Kept.blk h hx (.inr ⟨hb,hx.lt,fun cs' h'=>by
 rw[show w.heap[x]?=_ from hx]at h';injection h' with h'
 injection h' with _ h2 _
 exact he h2⟩)
theorem QKept.turned {b:Nat} (h:Turned w w' b)(hb:M b)(hB:B<=b):QKept e M B w w':=h.kept.mono fun x hx=>by
 rcases hx with hx | ⟨h1,_⟩
 ·show x≠b;omega
 ·show x≠b;exact fun e=>h1 (e▸hb)
theorem QKept.grown {v:Value} {sz:Nat} {xs:List Value} (ho:Own w B e sz v xs)(hg:w.grownBy w' v.ownBlock)(hB:B<=w.heap.size):QKept e M B w w':=⟨hg.os,hg.tape,hg.output,hg.size,fun x hx=>by
 rcases hx with hx | ⟨_,h2,h3⟩
 ·exact hg.block x (by omega) (fun e=>by have:=(ho.block x e.symm).1;omega)
 ·refine hg.block x h2 (fun e=>?_);obtain⟨n,ho⟩:=ho;rcases ho.2 with⟨rfl,_⟩ | ⟨g',cap,cur,rfl,hbg,hg',r⟩
  ·cases e
  ·injection e with e
   subst e;exact h3 _ hg'⟩
end
theorem wpList_own2 {P:Program} {w:World} {ops:Array Oper} {rest:List Oper} {o:Oper} {a:Act} {Q:Exit->Act->World->Prop} {t e:TypeId} {size bytes:Nat} (E:ElemT P t e size bytes)
  (hg:o.guard=none) (s x:Operand) (hop:o.op=Op.call {callee:=Callee.builtin Builtin.append,args:=#[s,x],argTypes:=#[t,t]})
  {B:Nat} {v:Value} {xs:List Value} (hs:a.eval s=v) (hown:Own w B e size v xs) {T:Nat->Prop} {y:Value} {news:List Value} (hx:a.eval x=y) (hy:Sl T w size y news) (h1:∀ u∈news,u.oneCell'=true)
  (hlen:xs.length+news.length<=9223372036854775807) (hbytes:(xs.length+news.length)*bytes<=140737488355328) (hB:B<=w.heap.size)
  (K:∀ v' w',Own w' B e size v' (xs++news)->Below B w w'->w.grownBy w' v.ownBlock->wpList P ops Q rest (a.put o.dst v') w'):wpList P ops Q (o::rest) a w :=
 wpList_plain hg fun _K' hK'=>wp_own E s x hop hs hown hx hy h1 hlen hbytes hB fun v' w' h2 h3 h4=>hK' _ _ (K v' w' h2 h3 h4)
end Go.Proofs.YtlhaghoajpglaaaGreat
namespace Go.Proofs.YtlhaghoajpglaaaGreat
open Go Go.RowKit
theorem Own.keepB {w w':World} {B:Nat} {e:TypeId} {sz:Nat} {v:Value} {xs:List Value} (h:Own w B e sz v xs)(hs:∀ g,v.ownBlock=some g->w'.heap[g]?=w.heap[g]?):Own w' B e sz v xs:=by
 obtain⟨n,h⟩:=h;refine⟨n,h.1,?_⟩;rcases h.2 with hn | ⟨g,cap,cur,rfl,hbg,hg,r⟩
 ·exact .inl hn
 ·exact .inr ⟨g,cap,cur,rfl,hbg,(hs g rfl).trans hg,r⟩
theorem Own.notBlk {w:World} {B:Nat} {e t:TypeId} {sz:Nat} {v:Value} {xs:List Value} {b:Nat} {cs:Array Value} (h:Own w B e sz v xs)(hb:Blk w b cs t)(hne:t≠e):∀ g,v.ownBlock=some g->g≠b:=by
 intro g hg he;obtain⟨n,h⟩:=h;rcases h.2 with⟨rfl,_⟩ | ⟨g',cap,cur,rfl,hbg,hg',r⟩
 ·cases hg
 ·injection hg with hg
  subst hg he;rw[show w.heap[g']?=_ from hb]at hg';injection hg' with hg'
  injection hg' with _ h2 _
  exact hne h2
def WrB (w:World)(B b:Nat)(text:ByteArray)(odd:Bool):Prop:=B<=b/\∃ p v,(p = .pointer none\/p = .pointer (some ⟨b,0,none⟩))/\Blk w b #[p,v,.bool odd] 298/\Own w B 5 1 v (Lib.strCells text)/\(text.size=0->v = .slice none 0 0)
def WK (B b:Nat)(w:World)(x:Nat):Prop:=x<B\/(x≠b/\x<w.heap.size/\∀ cs,w.heap[x]?≠some (.cells cs 5 (0,0)))
abbrev WKept (B b:Nat) (w w':World):Prop:=Kept (WK B b w) w w'
section
variable {w w' w'' : World} {B b : Nat}
theorem WKept.below (h:WKept B b w w'):Below B w w':=Kept.below h fun _ hx => .inl hx
theorem WKept.next (h:WKept B b w w')(k:WKept B b w' w''):WKept B b w w'':=Kept.trans h (Kept.mono k fun x hx=>by
 rcases hx with hx | ⟨h1,h2,h3⟩
 ·exact .inl hx
 ·refine .inr ⟨h1,Nat.lt_of_lt_of_le h2 h.size,fun cs=>?_⟩;rw[h.block x (.inr ⟨h1,h2,h3⟩)];exact h3 cs)
theorem WKept.of (h:Below w.heap.size w w')(hB:B<=w.heap.size):WKept B b w w':=Below.kept h fun x hx=>by
 rcases hx with hx | ⟨_,h2,_⟩
 ·omega
 ·exact h2
theorem WKept.box (h:WKept B b w w') {x:Nat} {cs:Array Value} {e:TypeId} (hx:Blk w x cs e)(he:e≠5)(hb:x≠b):Blk w' x cs e:=Kept.blk h hx (.inr ⟨hb,hx.lt,fun cs' h'=>by
 rw[show w.heap[x]?=_ from hx]at h';injection h' with h'
 injection h' with _ h2 _
 exact he h2⟩)
theorem WrB.lt {text:ByteArray} {odd:Bool} (h:WrB w B b text odd):b<w.heap.size:=by
 obtain⟨_,p,v,_,hb,_⟩:=h;exact hb.lt
theorem WrB.up {text:ByteArray} {odd:Bool} (h:WrB w B b text odd)(hk:Below w.heap.size w w'):WrB w' B b text odd:=by
 obtain⟨hB,p,v,hp,hb,ho,hn⟩:=h;exact⟨hB,p,v,hp,hb.below hk,ho.below hk,hn⟩
theorem WrB.flag {text:ByteArray} {odd:Bool} (h:WrB w B b text odd)(o:Bool):WrB (w.setCell ⟨b,2,none⟩ (.bool o)) B b text o:=by
 obtain⟨hB,p,v,hp,hb,ho,hn⟩:=h;exact⟨hB,p,v,hp,hb.set 2 _,ho.keepB fun g hg=>Below.heap_setCell _ _ _ g (ho.notBlk hb (by decide) g hg),hn⟩
theorem WKept.flag (hB:B<=b)(v:Value):WKept B b w (w.setCell ⟨b,2,none⟩ v):=(Kept.refl _ _).set (a:=⟨b,2,none⟩) (fun h=>by
 rcases h with h | ⟨h,_⟩
 ·exact absurd h (by show ¬ b<B;omega)
 ·exact h rfl) _
theorem WrB.odd2 {text:ByteArray} {odd:Bool} (h:WrB w B b text odd):w.cell? ⟨b,2,none⟩=some (.bool odd)/\w.frozen? ⟨b,2,none⟩=false:=by
 obtain⟨hB,p,v,hp,hb,ho,hn⟩:=h;exact⟨hb.cells 2,hb.free 2⟩
end
theorem bytesInfoW:(Tryz.prog.info? 5).map (fun i=>(i.zero,i.size,i.bytes))=some (some (.int .u8 0),1,1):=by kernel_rfl
theorem writerSize:(Tryz.prog.info? 296).map (·.size)=some 2:=by kernel_rfl
theorem writerInfo:∃ j,Tryz.prog.info? 296=some j/\j.size≠0:=by
 obtain⟨j,hj,hs⟩:=Option.map_eq_some_iff.1 writerSize;exact⟨j,hj,by omega⟩
theorem liesW:liesAt Tryz.prog Tryz.prog.depth 298 (3 / Tryz.prog.cellsOf 298) 0 296 1=true:=by kernel_rfl
theorem WrB.shape {w:World} {b:Nat} {cs:Array Value} (h:Blk w b cs 298)(hs:cs.size=3):w.shape? b=some (298,3):=by
 simp[World.shape?,show w.heap[b]?=_ from h,hs]
theorem copyCheck_used (b:Nat)(w:World)(h0:w.cell? ⟨b,0,none⟩=some (.pointer (some ⟨b,0,none⟩))) :
  Calls Tryz.prog 230 #[.pointer (some ⟨b,0,none⟩)] w fun e w'=>e = .returned (.tuple #[])/\w'=w:=by
 obtain⟨j,hj,_⟩:=writerInfo;go_enter Tryz.func230,Tryz.ntmps230
 go_wp2
 rw[Lib.run_neq_ptr_same w _ Tryz.underlying294 hj];go_wp2
 go_end0
 exact⟨rfl,rfl⟩
theorem copyCheck_fresh (b:Nat)(w:World)(h0:w.cell? ⟨b,0,none⟩=some (.pointer none))(hsh:w.shape? b=some (298,3))(hfz:w.frozen? ⟨b,0,none⟩=false) :
  Calls Tryz.prog 230 #[.pointer (some ⟨b,0,none⟩)] w fun e w'=>e = .returned (.tuple #[])/\w'=w.setCell ⟨b,0,none⟩ (.pointer (some ⟨b,0,none⟩)):=by
 obtain⟨j,hj,hjs⟩:=writerInfo;go_enter Tryz.func230,Tryz.ntmps230
 go_wp2
 rw[Lib.run_to_unsafe w ⟨b,0,none⟩ Tryz.underlying294 Tryz.underlying376 hj hjs hsh (Nat.zero_lt_succ 2)];simp only[Result.andThen];rw[Oper.upon_value];go_wp2
 rw[run_callFunc_extern Tryz.func280 (by kernel_rfl) (by kernel_rfl) (by kernel_rfl) (e:=Extern.AbiNoEscape.same) (by kernel_rfl)];rw[Lib.run_noEscape];simp only[Result.andThen];rw[Oper.upon_value];go_wp2
 rw[Lib.run_from_unsafe w ⟨b,0,none⟩ Tryz.underlying376 Tryz.underlying294 hj hsh liesW];simp only[Result.andThen];rw[Oper.upon_value];go_wp2
 go_end0
 exact⟨rfl,rfl⟩
theorem copyCheck_any {B b:Nat} {text:ByteArray} {odd:Bool} {w:World} (h:WrB w B b text odd) :
  Calls Tryz.prog 230 #[.pointer (some ⟨b,0,none⟩)] w fun e w'=>e = .returned (.tuple #[])/\(∃ v,Blk w' b #[.pointer (some ⟨b,0,none⟩),v,.bool odd] 298/\Own w' B 5 1 v (Lib.strCells text))/\WKept B b w w':=by
 obtain⟨hB,p,v,hp,hb,ho,hn⟩:=h;rcases hp with rfl | rfl
 ·refine(copyCheck_fresh b w (hb.cells 0) (WrB.shape hb rfl) (hb.free 0)).mono ?_;rintro e w' ⟨rfl,rfl⟩;refine⟨rfl,⟨v,hb.set 0 _,ho.keepB fun g hg=>Below.heap_setCell _ _ _ g (ho.notBlk hb (by decide) g hg)⟩,(Kept.refl _ _).set (a:=⟨b,0,none⟩) (fun h=>?_) _⟩;rcases h with h | ⟨h,_⟩
  ·exact absurd h (by show ¬ b<B;omega)
  ·exact h rfl
 ·refine(copyCheck_used b w (hb.cells 0)).mono ?_;rintro e w' ⟨rfl,rfl⟩;exact⟨rfl,⟨v,hb,ho⟩,Kept.refl _ _⟩
theorem writeString_any {B b:Nat} {text:ByteArray} {odd:Bool} {w:World} (s:ByteArray)(h:WrB w B b text odd)(hlen:text.size+s.size<=140737488355328)(hpos:0<text.size+s.size)(hBw:B<=w.heap.size) :
  Calls Tryz.prog 188 #[.pointer (some ⟨b,0,none⟩),.string s] w fun e w'=>e = .returned (.tuple #[.int .i64 s.size,.nilIface])/\WrB w' B b (text++s) odd/\WKept B b w w':=by
 have HCC:=h! (copyCheck_any h);have hB:=h.1;obtain⟨i0,hi,hz0,hz1,hz2⟩:=info_parts bytesInfoW;clear h;go_enter Tryz.func188,Tryz.ntmps188
 go_wp2_with fail
 refine HCC.out.mono ?_;rintro e w1 ⟨rfl,⟨v,hb1,ho1⟩,hk1⟩;have hsz1:=hk1.size;have c1:=hb1.cells;have HNB:=h! (ho1.notBlk hb1 (by decide));have HBL:=h! hb1;have HO:=h! ho1;have HK:=h! hk1;obtain⟨n1,ho1'⟩:=ho1;have hn1:n1=text.size:=by have:=ho1'.1;rw[Lib.strCells_length]at this;omega
 subst hn1;have hb1':=hb1;clear HCC hb1 hk1;go_wp2_with (at_builtin;refine Lib.wpList_append_own_string _ rfl _ _ 22 9 rfl B 5 i0 Tryz.underlying22 Tryz.underlying9 hi hz0 hz1 hz2 _ _ _ rfl ho1' s rfl ?c3 ?c4 ?c5 ?_)
 case c3=>unfold maxLen;omega
 case c4=>omega
 case c5=>omega
 intro v' w2 hown' hgrow _;have hb2:Blk w2 b #[.pointer (some ⟨b,0,none⟩),v,.bool odd] 298:=(hgrow.block b hb1'.lt (fun e=>HNB.out b e.symm rfl)).trans hb1';have d0:=hb2.cells;have f0:=hb2.free;have HO2:Own w2 B 5 1 v' (Lib.strCells text++Lib.strCells s):=⟨_,hown'⟩;have HN2:=HO2.notBlk hb2 (by decide)
 have HKG:WKept B b w1 w2:=⟨hgrow.os,hgrow.tape,hgrow.output,hgrow.size,fun x hx=>by
  have hO:=HO.out;rcases hx with hx | ⟨h1,h2,h3⟩
  ·exact hgrow.block x (by omega) (fun e=>by have:=(hO.block x e.symm).1;omega)
  ·refine hgrow.block x h2 (fun e=>?_);obtain⟨n,ho⟩:=hO;rcases ho.2 with⟨rfl,_⟩ | ⟨g',cap,cur,rfl,hbg,hg',r⟩
   ·cases e
   ·injection e with e
    subst e;exact h3 _ hg'⟩
 have HO3:=h! HO2;have HKG2:=h! HKG;have HB2:=h! hb2;have HN3:=h! HN2
 obtain⟨ao,n',cap,rfl⟩:∃ ao n' cap,v' = .slice ao n' cap:=by
  rcases hown'.2 with⟨hv,_⟩ | ⟨g,cap,cur,hv,_⟩
  ·exact⟨_,_,_,hv⟩
  ·exact⟨_,_,_,hv⟩
 clear c1 hb1' ho1' hgrow hown' hb2 HO2 HN2 HKG hi hz0 hz1 hz2;go_wp2_with fail
 go_ret2
 refine⟨rfl,⟨hB,_,_,.inr rfl,HB2.out.set 1 _,?_,fun h=>?_⟩,?_⟩
 ·have h1:Lib.strCells (text++s)=Lib.strCells text++Lib.strCells s:=by simp[Lib.strCells]
  rw[h1];exact HO3.out.keepB fun g hg=>Below.heap_setCell _ _ _ g (HN3.out g hg)
 ·rw[ByteArray.size_append]at h;omega
 ·refine WKept.next (WKept.next HK.out HKG2.out) ((Kept.refl _ _).set (a:=⟨b,1,none⟩) (fun h=>?_) _);rcases h with h | ⟨h,_⟩
  ·exact absurd h (by show ¬ b<B;omega)
  ·exact h rfl
def headOk (ts:List TyS)(t:TyS)(k:Int)(a b:ByteArray):Bool:=!((k == 2&&!hasT t a)||(k == 3&&(!hasT t a||!anyT ts b)))
mutual
def RT.named (ts:List TyS)(t:TyS):RT->Bool | .mk k a b ps=>headOk ts t k a b&&namedL ts t ps
def namedL (ts:List TyS)(t:TyS):List RT->Bool | []=>true | r::rs=>r.named ts t&&namedL ts t rs
end
theorem namedL_eq (ts:List TyS)(t:TyS):∀ l:List RT,namedL ts t l=l.all fun r=>r.named ts t
 | []=>rfl
 | r::rs=>by rw[namedL,List.all_cons,namedL_eq ts t rs]
theorem WalkN.skip {P:Program} {ops:Array Oper} {Q:Exit->Act->World->Prop} {S:World->Prop} {f:Nat} {l:Array Bool} {a:Act} {w:World} (i:Nat)(o:Oper)(ho:ops[i]?=some o)(hf:Region.free .any ops l i=true)(hr:(Region.ready .any ops l).contains i=true)
  (hw:Region.wanted o (yielded ops a.tmps)=false) (h:WalkN P ops Q S f (l.setIfInBounds i true) (a.put o.dst undef) w):WalkN P ops Q S (f+1) l a w :=
 .inr (.inl ⟨i,o,undef,ho,hf,hr,.inr ⟨hw,rfl⟩,h⟩)
def innerD (k pk:Int)(d:Nat):Nat:=if k=5/\pk=4 then d+1 else d
mutual
def RT.textOk:RT->Nat->Bool
 | .mk k a b ps,d =>
  if k=1 then decide (a.size=0)&&decide (b.size=0)&&decide (ps.length=0)
  else if k=2 then ownB a&&decide (b.size=0)&&decide (ps.length=0)
  else if k=3 then ownB a&&ownB b&&decide (ps.length=0)
  else if k=4\/k=5 then decide (a.size=0)&&decide (b.size=0)&&decide (2<=ps.length)&&textL k ps d
  else false
def textL (k:Int):List RT->Nat->Bool
 | [],_=>true
 | p::ps,d=>(decide (p.k≠k)&&decide (innerD k p.k d<=8)&&p.textOk (innerD k p.k d))&&textL k ps d
end
def goodP (k:Int)(d:Nat)(p:RT):Bool:=decide (p.k≠k)&&decide (innerD k p.k d<=8)&&p.textOk (innerD k p.k d)
theorem textL_eq (k:Int)(d:Nat):∀ l:List RT,textL k l d=l.all (goodP k d)
 | []=>by rw[textL];rfl
 | r::rs=>by rw[textL,List.all_cons,textL_eq k d rs];rfl
def relOk (x:ByteArray × RT):Bool:=x.2.textOk 0&&ownB x.1&&decide (x.1≠⟨#[116,121,112,101]⟩)
def tyOk (t:TyS):Bool:=ownB t.name&&t.rels.all relOk
def prN (b:Bool):Int:=if b then 0 else 9
def printOk (ts:List TyS):Bool:=ts.all tyOk
def tyLong (t:TyS):Bool:=decide (t.rels.length<=16)&&t.rels.all fun r=>decide (r.2.sz<=32)
def longOk (ts:List TyS):Bool:=decide (ts.length<=16)&&ts.all tyLong
def uniqOk (ts:List TyS):Bool:=decide ((ts.map (·.name)).Nodup)&&ts.all fun t=>decide ((t.rels.map (·.1)).Nodup)
def freshT (ts:List TyS)(j:Nat):Prop:=∀ m (hm:m<ts.length)(hj:j<ts.length),m<j->ts[m].name≠ts[j].name
def namesOk (ts:List TyS):Bool:=ts.all fun t=>t.rels.all fun r=>r.2.named ts t
theorem uniq_at {ts:List TyS} (h:uniqOk ts=true) {i:Nat} (hi:i<ts.length):freshT ts i/\((ts[i].rels.map (·.1)).Nodup):=by
 unfold uniqOk at h;rw[Bool.and_eq_true,decide_eq_true_eq,List.all_eq_true]at h;refine⟨fun m hm hj hmj he=>?_,of_decide_eq_true (h.2 _ (List.getElem_mem hi))⟩;have:=(List.pairwise_iff_getElem.1 h.1) m i (by simpa using hm) (by simpa using hi) hmj;simp only[List.getElem_map]at this;exact this he
theorem uniq_of {ts:List TyS} (h:∀ j (hj:j<ts.length),freshT ts j/\((ts[j].rels.map (·.1)).Nodup)):uniqOk ts=true:=by
 unfold uniqOk;rw[Bool.and_eq_true,decide_eq_true_eq,List.all_eq_true];refine⟨List.pairwise_iff_getElem.2 fun m j hm hj hmj=>?_,fun x hx=>?_⟩
 ·simp only[List.getElem_map];exact(h j (by simpa using hj)).1 m (by simpa using hm) (by simpa using hj) hmj
 ·obtain⟨j,hj,rfl⟩:=List.getElem_of_mem hx;exact decide_eq_true (h j hj).2
def freshN (l:List (ByteArray × RT))(j:Nat):Prop:=∀ m (hm:m<l.length)(hj:j<l.length),m<j->l[m].1≠l[j].1
theorem fresh_of {l:List (ByteArray × RT)} (h:(l.map (·.1)).Nodup)(j:Nat):freshN l j:=fun m hm hj hmj he=>by
 have:=(List.pairwise_iff_getElem.1 h) m j (by simpa using hm) (by simpa using hj) hmj;simp only[List.getElem_map]at this;exact this he
def chk06 (ts:List TyS):Int:=if printOk ts then(if longOk ts then(if uniqOk ts then(if namesOk ts then 0 else 2)else 3)else 10)else 9
end Go.Proofs.YtlhaghoajpglaaaGreat
namespace Go.Proofs.YtlhaghoajpglaaaGreat
open Go Go.RowKit Go.Maps
abbrev RV:=RT × Value
def rvV (x:RV):Value:=rV x.1 x.2
abbrev WV:=List ByteArray × Value
def wvV (x:WV):Value:=x.2
def txs (l:List ByteArray):List Value:=l.map Value.string
theorem txs_one (l:List ByteArray):∀ u∈txs l,u.oneCell'=true:=by
 intro u hu;obtain⟨s,_,rfl⟩:=List.mem_map.1 hu;rfl
theorem txs_length (l:List ByteArray):(txs l).length=l.length:=by simp[txs]
theorem txs_append (a b:List ByteArray):txs (a++b)=txs a++txs b:=by simp[txs]
theorem textsT:ElemT Tryz.prog 169 9 1 16:=ElemT.mk' Tryz.underlying169 (show _=some (some (.string ByteArray.empty),1,16)by kernel_rfl) rfl (by decide)
def relsOf (n:ByteArray)(l:List (ByteArray × RT)):List (R2 × RT):=l.map fun r=>(⟨n,r.1⟩,r.2)
def refsOf (ts:List TyS):List (R2 × RT):=ts.flatMap fun t=>relsOf t.name t.rels
def whereP (P:List (R2 × RT))(n:ByteArray):List ByteArray:=(P.filter fun x=>decide (x.1.r=n)).map (·.1.t)
def optL (l:List ByteArray):Option (List ByteArray):=if l=[]then none else some l
theorem whereP_snoc (P:List (R2 × RT))(x:R2 × RT)(n:ByteArray):whereP (P++[x]) n=if x.1.r=n then whereP P n++[x.1.t]else whereP P n:=by
 unfold whereP;rw[List.filter_append,List.map_append];by_cases h:x.1.r=n
 ·simp[h]
 ·simp[h]
theorem refsOf_append (a b:List TyS):refsOf (a++b)=refsOf a++refsOf b:=List.flatMap_append
theorem refsOf_take {l:List TyS} {i:Nat} (hi:i<l.length):refsOf (l.take (i+1))=refsOf (l.take i)++relsOf l[i].name l[i].rels:=by
 rw[List.take_succ_eq_append_getElem hi,refsOf_append];simp[refsOf]
theorem relsOf_take {n:ByteArray} {l:List (ByteArray × RT)} {i:Nat} (hi:i<l.length):relsOf n (l.take (i+1))=relsOf n (l.take i)++[(⟨n,l[i].1⟩,l[i].2)]:=by
 rw[List.take_succ_eq_append_getElem hi];simp only[relsOf,List.map_append,List.map_cons,List.map_nil]
structure WhRows (w:World)(B:Nat)(lw:List (ByteArray × WV)):Prop where
 rows:∀ x∈lw,x.2.1≠[]/\Own w B 9 1 x.2.2 (txs x.2.1)
 apart:∀ x∈lw,∀ y∈lw,x.1≠y.1->x.2.2.ownBlock≠y.2.2.ownBlock
def BkR (S:Nat->Prop)(w:World)(b1:Nat)(P:List (R2 × RT)):Prop :=
 ∃ lr:List (R2 × RV),Mp Tryz.prog 121 r2V rvV w b1 lr/\lr.map (fun x=>(x.1,x.2.1))=P/\∀ x∈lr,RTAt S w x.2.1 x.2.2
def BkW (w:World)(B b3:Nat)(P:List (R2 × RT)):Prop :=
 ∃ lw:List (ByteArray × WV),Mp Tryz.prog 9 Value.string wvV w b3 lw/\WhRows w B lw/\∀ n,(lookA lw n).map (·.1)=optL (whereP P n)
theorem Own.notMap {w:World} {B:Nat} {e:TypeId} {sz:Nat} {v:Value} {xs:List Value} (h:Own w B e sz v xs) {b:Nat} (hb:∀ cs t fr,w.heap[b]?≠some (.cells cs t fr)):∀ g,v.ownBlock=some g->g≠b:=by
 intro g hg he;obtain⟨n,h⟩:=h;rcases h.2 with⟨rfl,_⟩ | ⟨g',cap,cur,rfl,hbg,hg',r⟩
 ·cases hg
 ·injection hg with hg
  subst hg he;exact hb _ _ _ hg'
theorem Mp.notCells {P:Program} {k:TypeId} {κ α:Type} {kv:κ->Value} {ev:α->Value} {w:World} {b:Nat} {l:List (κ × α)} (h:Mp P k kv ev w b l):∀ cs t fr,w.heap[b]?≠some (.cells cs t fr):=by
 obtain⟨es,clock,hb,_⟩:=h;intro cs t fr h;rw[hb]at h;cases h
theorem own_some {w:World} {B:Nat} {e:TypeId} {v:Value} {l:List ByteArray} (h:Own w B e 1 v (txs l))(hl:l≠[]):∃ g,v.ownBlock=some g:=by
 obtain⟨n,h⟩:=h;rcases h.2 with⟨rfl,rfl⟩ | ⟨g',cap,cur,rfl,hbg,hg',r⟩
 ·have:=h.1;rw[txs_length]at this;exact absurd (List.eq_nil_of_length_eq_zero (by omega)) hl
 ·exact⟨g',rfl⟩
theorem WhRows.keep {w w':World} {B:Nat} {lw:List (ByteArray × WV)} (h:WhRows w B lw)(hs:∀ x,B<=x->x<w.heap.size->(∃ cs,w.heap[x]?=some (.cells cs 9 (0,0)))->w'.heap[x]?=w.heap[x]?):WhRows w' B lw :=
 ⟨fun x hx=>⟨(h.rows x hx).1,(h.rows x hx).2.keepB fun g hg=>by
  have ho:=(h.rows x hx).2;have hb:=ho.block g hg;refine hs g hb.1 hb.2 ?_;obtain⟨n,ho⟩:=ho;rcases ho.2 with⟨h0,_⟩ | ⟨g',cap,cur,h0,hbg,hg',r⟩
  ·rw[h0]at hg;cases hg
  ·rw[h0]at hg;injection hg with hg
   subst hg;exact⟨_,hg'⟩⟩,h.apart⟩
theorem put_mem {κ α:Type} [DecidableEq κ] (a:κ)(y:α)(x:κ × α):∀ {l:List (κ × α)},(l.map (·.1)).Nodup->x∈putA l a y->x=(a,y)\/(x∈l/\x.1≠a)
 | [],_,h=>by simp[putA]at h;exact .inl h
 | p::r,hn,h=>by
  simp only[List.map_cons,List.nodup_cons]at hn;unfold putA at h;split at h
  ·rename_i e
   rcases List.mem_cons.1 h with h | h
   ·exact .inl h
   ·exact .inr ⟨by simp[h],fun e2=>hn.1 (by rw[e,<- e2];exact List.mem_map.2 ⟨x,h,rfl⟩)⟩
  ·rename_i e
   rcases List.mem_cons.1 h with h | h
   ·exact .inr ⟨by simp[h],h▸e⟩
   ·rcases put_mem a y x hn.2 h with h | h
    ·exact .inl h
    ·exact .inr ⟨by simp[h.1],h.2⟩
theorem WhRows.put {w w1 w2 w3:World} {B b3:Nat} {lw:List (ByteArray × WV)} (h:WhRows w B lw) {n:ByteArray} {names:List ByteArray} {v v':Value} (hl:(lookA lw n=some (names,v))\/(lookA lw n=none/\names=[]/\v = .slice none 0 0))
  (h1:Below w.heap.size w w1) (h2:w1.grownBy w2 v.ownBlock) {tn:ByteArray} (ho:Own w2 B 9 1 v' (txs (names++[tn]))) (hw:∀ g,v'.ownBlock=some g->v.ownBlock=some g\/w1.heap.size<=g)
  (hm:Mp Tryz.prog 9 Value.string wvV w b3 lw) (hm2:Mp Tryz.prog 9 Value.string wvV w2 b3 lw) (ht:Turned w2 w3 b3):WhRows w3 B (putA lw n (names++[tn],v')):=by
 have hnd:=hm.nodup
 have old:∀ x∈lw,x.1≠n->∀ g,x.2.2.ownBlock=some g->v.ownBlock≠some g:=fun x hx hne g hg e=>by
  rcases hl with hl | ⟨_,_,rfl⟩
  ·exact h.apart x hx _ (look_mem hl) hne (hg.trans e.symm)
  ·cases e
 have lt:∀ x∈lw,∀ g,x.2.2.ownBlock=some g->g<w.heap.size:=fun x hx g hg=>((h.rows x hx).2.block g hg).2;refine⟨fun x hx=>?_,fun x hx y hy hne=>?_⟩
 ·rcases put_mem _ _ _ hnd hx with rfl | ⟨hx,hxn⟩
  ·exact⟨by simp,ho.keepB fun g hg=>ht.kept.block g (ho.notMap hm2.notCells g hg)⟩
  ·have hr:=(h.rows x hx).2;have hr1:=hr.below h1;refine⟨(h.rows x hx).1,hr1.keepB fun g hg=>?_⟩;have hg1:=lt x hx g hg;have hs1:=h1.size;refine(ht.kept.block g ?_).trans (h2.block g (by omega) fun e=>old x hx hxn g hg e.symm);intro e;subst e;exact hr.notMap hm.notCells g hg rfl
 ·rcases put_mem _ _ _ hnd hx with rfl | ⟨hx,hxn⟩ <;> rcases put_mem _ _ _ hnd hy with rfl | ⟨hy,hyn⟩
  ·exact absurd rfl hne
  ·intro e;obtain⟨g,hg⟩:=own_some ho (by simp);have hg2:y.2.2.ownBlock=some g:=e.symm.trans hg;rcases hw g hg with h3 | h3
   ·exact old y hy hyn g hg2 h3
   ·have:=lt y hy g hg2;have:=h1.size;omega
  ·intro e;obtain⟨g,hg⟩:=own_some ho (by simp);have hg2:x.2.2.ownBlock=some g:=e.trans hg;rcases hw g hg with h3 | h3
   ·exact old x hx hxn g hg2 h3
   ·have:=lt x hx g hg2;have:=h1.size;omega
  ·exact h.apart x hx y hy hne
section
variable {S : Nat -> Prop} {w w' : World} {B b1 b3 : Nat} {P : List (R2 × RT)}
theorem BkR.lt (h:BkR S w b1 P):b1<w.heap.size:=by
 obtain⟨lr,h1,_⟩:=h;exact h1.lt
theorem BkR.notCells (h:BkR S w b1 P):∀ cs t fr,w.heap[b1]?≠some (.cells cs t fr):=by
 obtain⟨lr,h1,_⟩:=h;exact h1.notCells
theorem BkR.same (h:BkR S w b1 P)(hb:w'.heap[b1]?=w.heap[b1]?)(hs:Same S w w'):BkR S w' b1 P:=by
 obtain⟨lr,h1,h2,h3⟩:=h;exact⟨lr,h1.same hb,h2,fun x hx=>(h3 x hx).same hs⟩
theorem BkR.up (h:BkR (· < w.heap.size) w b1 P)(hb:Below w.heap.size w w'):BkR (· < w'.heap.size) w' b1 P:=by
 obtain⟨lr,h1,h2,h3⟩:=h;exact⟨lr,h1.below hb,h2,fun x hx=>(h3 x hx).up hb⟩
theorem BkW.lt (h:BkW w B b3 P):b3<w.heap.size:=by
 obtain⟨lw,h1,_⟩:=h;exact h1.lt
theorem BkW.keep (h:BkW w B b3 P)(hb:w'.heap[b3]?=w.heap[b3]?)(hs:∀ x,B<=x->x<w.heap.size->(∃ cs,w.heap[x]?=some (.cells cs 9 (0,0)))->w'.heap[x]?=w.heap[x]?):BkW w' B b3 P:=by
 obtain⟨lw,h1,h2,h3⟩:=h;exact⟨lw,h1.same hb,h2.keep hs,h3⟩
theorem BkW.up (h:BkW w B b3 P)(hb:Below w.heap.size w w'):BkW w' B b3 P:=h.keep (hb.block _ h.lt) fun x _ hx _=>hb.block x hx
theorem BkW.turned (h:BkW w B b3 P) {b:Nat} (ht:Turned w w' b)(hb:b3≠b)(hc:∀ cs t fr,w.heap[b]?≠some (.cells cs t fr)):BkW w' B b3 P :=
 h.keep (ht.kept.block _ hb) fun x _ _ hx=>ht.kept.block x fun e=>by
  obtain⟨cs,hx⟩:=hx;exact hc _ _ _ (e▸hx)
theorem pairs_look {α β:Type} {f:α->β} {k:R2}:∀ {l:List (R2 × α)} {P:List (R2 × β)},l.map (fun x=>(x.1,f x.2))=P->(lookA l k).map f=lookA P k
 | [],P,h=>by subst h;rfl
 | x::l,P,h=>by
  subst h;simp only[List.map_cons,lookA];split
  ·rfl
  ·exact pairs_look rfl
theorem BkR.look (h:BkR S w b1 P)(k:R2)(hk:k.Ok):∃ z:RV,(Instr.lookup 225 (.map (some b1)) (r2V k) true).run Tryz.prog w = .ok (.tuple #[rvV z,.bool (lookA P k).isSome]) w/\RTAt S w z.1 z.2/\(∀ r,lookA P k=some r->z.1=r)/\(lookA P k=none->z=(.mk 0 ByteArray.empty ByteArray.empty [],.slice none 0 0)):=by
 obtain⟨lr,h1,h2,h3⟩:=h;have hl:=pairs_look (f:=fun x:RV=>x.1) (k:=k) h2;have hrun:=h1.look refK r2V_inj Tryz.underlying225 (Tryz.zeroValue106 w) true (ref_key k hk);cases hlk:lookA lr k with
 | none =>
  rw[hlk]at hl hrun;refine⟨(.mk 0 ByteArray.empty ByteArray.empty [],.slice none 0 0),?_,?_,?_,fun _=>rfl⟩
  ·rw[hrun,<- hl];rfl
  ·exact(RTAt.iff _ _).2 ⟨[],rfl,by simp,Sl.nil _ _ _⟩
  ·intro r hr;rw[<- hl]at hr;cases hr
 | some x =>
  rw[hlk]at hl hrun;refine⟨x,?_,h3 _ (look_mem hlk),?_,?_⟩
  ·rw[hrun,<- hl];rfl
  ·intro r hr;rw[<- hl]at hr;injection hr
  ·intro hr;rw[<- hl]at hr;cases hr
theorem BkR.store (h:BkR S w b1 P) {k:R2} (hk:k.Ok) {r:RT} {pv:Value} (hr:RTAt S w r pv)(hS:∀ x,S x->x≠b1)(hn:lookA P k=none) :
  ∃ w',(Instr.mapUpdate 225 (.map (some b1)) (r2V k) (rV r pv)).run Tryz.prog w = .ok () w'/\BkR S w' b1 (P++[(k,r)])/\Turned w w' b1:=by
 obtain⟨lr,h1,h2,h3⟩:=h;obtain⟨w',hrun,hM,hT⟩:=h1.store refK r2V_inj Tryz.underlying225 (ref_key k hk) ((r,pv):RV);have hl:=pairs_look (f:=fun x:RV=>x.1) (k:=k) h2;rw[hn]at hl;have hln:lookA lr k=none:=by cases hlk:lookA lr k with | none=>rfl | some x=>rw[hlk]at hl;cases hl
 rw[put_miss (look_none_iff.1 hln)]at hM;refine⟨w',hrun,⟨_,hM,by rw[List.map_append,h2];rfl,fun x hx=>?_⟩,hT⟩;have hs:Same S w w':=fun x hx=>hT.kept.block x (hS x hx);rcases List.mem_append.1 hx with hx | hx
 ·exact(h3 x hx).same hs
 ·obtain rfl:=List.mem_singleton.1 hx;exact hr.same hs
theorem BkW.look (h:BkW w B b3 P)(n:ByteArray)(hn:n.size<=maxLen):∃ v,(Instr.lookup 227 (.map (some b3)) (.string n) false).run Tryz.prog w = .ok v w/\Own w B 9 1 v (txs (whereP P n))/\∃ lw,Mp Tryz.prog 9 Value.string wvV w b3 lw/\WhRows w B lw/\(∀ n,(lookA lw n).map (·.1)=optL (whereP P n))/\(lookA lw n=some (whereP P n,v)\/(lookA lw n=none/\whereP P n=[]/\v = .slice none 0 0)):=by
 obtain⟨lw,h1,h2,h3⟩:=h;have hl:=h3 n;have hrun:=h1.look strK strV_inj Tryz.underlying227 (Tryz.zeroValue169 w) false (str_key n hn);cases hlk:lookA lw n with
 | none =>
  rw[hlk]at hl hrun
  have hw:whereP P n=[]:=by
   unfold optL at hl;split at hl
   ·assumption
   ·cases hl
  exact⟨.slice none 0 0,hrun,by rw[hw];exact Own.nil _ _ _ _,lw,h1,h2,h3,.inr ⟨hlk,hw,rfl⟩⟩
 | some x =>
  rw[hlk]at hl hrun
  have hw:x.1=whereP P n:=by
   unfold optL at hl;split at hl
   ·cases hl
   ·injection hl
  have hm:=h2.rows _ (look_mem hlk);refine⟨x.2,hrun,by rw[<- hw];exact hm.2,lw,h1,h2,h3,.inl ?_⟩;rw[hlk,<- hw]
theorem BkW.put {w1 w2:World} {lw:List (ByteArray × WV)} {k:R2} {r:RT} {v v':Value} (hM:Mp Tryz.prog 9 Value.string wvV w b3 lw)(hR:WhRows w B lw)(hL:∀ n,(lookA lw n).map (·.1)=optL (whereP P n))
  (hl:lookA lw k.r=some (whereP P k.r,v)\/(lookA lw k.r=none/\whereP P k.r=[]/\v = .slice none 0 0)) (h1:Below w.heap.size w w1) (h2:w1.grownBy w2 v.ownBlock) (ho0:Own w B 9 1 v (txs (whereP P k.r))) (ho:Own w2 B 9 1 v' (txs (whereP P k.r++[k.t])))
  (hw:∀ g,v'.ownBlock=some g->v.ownBlock=some g\/w1.heap.size<=g) (hk:k.r.size<=maxLen) :
  ∃ w',(Instr.mapUpdate 227 (.map (some b3)) (.string k.r) v').run Tryz.prog w2 = .ok () w'/\BkW w' B b3 (P++[(k,r)])/\Turned w2 w' b3:=by
 have hm1:=hM.below h1;have hm2:Mp Tryz.prog 9 Value.string wvV w2 b3 lw:=hm1.same (h2.block b3 hm1.lt (fun e=>((ho0.below h1).notMap hm1.notCells) b3 e.symm rfl));obtain⟨w',hrun,hM',hT⟩:=hm2.store strK strV_inj Tryz.underlying227 (str_key k.r hk) ((whereP P k.r++[k.t],v'):WV);refine⟨w',hrun,⟨_,hM',hR.put (names:=whereP P k.r) (v:=v) ?_ h1 h2 ho hw hM hm2 hT,fun n=>?_⟩,hT⟩
 ·rcases hl with hl | ⟨h3,h4,h5⟩
  ·exact .inl hl
  ·exact .inr ⟨h3,h4,h5⟩
 ·rw[look_put,whereP_snoc];by_cases e:k.r=n
  ·rw[if_pos e,if_pos e];subst e;unfold optL;rw[if_neg (by simp)];rfl
  ·rw[if_neg e,if_neg e];exact hL n
end
end Go.Proofs.YtlhaghoajpglaaaGreat
namespace Go.Proofs.YtlhaghoajpglaaaGreat
structure P3 where
 t:ByteArray
 i:ByteArray
 r:ByteArray
deriving DecidableEq
structure Tup where
 o:P3
 s:P3
deriving DecidableEq
instance:Inhabited P3:=⟨⟨ByteArray.empty,ByteArray.empty,ByteArray.empty⟩⟩
instance:Inhabited Tup:=⟨⟨default,default⟩⟩
def P3.isSet (p:P3):Prop:=p.r.size≠0
instance (p:P3):Decidable p.isSet:=by unfold P3.isSet;infer_instance
end Go.Proofs.YtlhaghoajpglaaaGreat
namespace Go.Proofs.YtlhaghoajpglaaaGreat
open Go Go.RowKit
def tV (t:Tup):Value := .agg #[.string t.o.t,.string t.o.i,.string t.o.r,.string t.s.t,.string t.s.i,.string t.s.r]
def P3.Ok (p:P3):Prop:=p.t.size<=maxLen/\p.i.size<=maxLen/\p.r.size<=maxLen
def Tup.Ok (t:Tup):Prop:=t.o.Ok/\t.s.Ok
def chkT (t:Tup):Bool:=isNm t.o.t&&isNm t.o.i&&isNm t.o.r&&isNm t.s.t&&isNm t.s.i&&(isNm t.s.r||decide (t.s.r.size=0))
def chkN (t:Tup):Int:=if chkT t then 0 else 2
theorem of_any (t:Tup)(w:World):Calls Tryz.prog 139 #[tV t] w fun e w'=>e = .returned (tV t)/\Below w.heap.size w w':=by
 obtain⟨⟨ot,oi,or_⟩,⟨st,si,sr⟩⟩:=t;have hb:=(Blk.made w #[.string ot,.string oi,.string or_,.string st,.string si,.string sr] 67);have h1:Below w.heap.size w (w.alloc (.cells #[.string ot,.string oi,.string or_,.string st,.string si,.string sr] 67)):=(Below.refl _ _).alloc (Nat.le_refl _) _;unfold tV;dsimp only;go_enter Tryz.func139,Tryz.ntmps139
 go_wp2_with fail
 refine bodyPost_ret (results_cell_row rfl _ _ (w.heap.size+1) 237 #[.string ot,.string oi,.string or_,.string st,.string si,.string sr] (0,0) _ rfl ?_ Tryz.underlying237 rfl (by kernel_rfl)) rfl ⟨rfl,h1.alloc h1.size _⟩;have:=heap_alloc_new (w.alloc (.cells #[.string ot,.string oi,.string or_,.string st,.string si,.string sr] 67)) (.cells #[.string ot,.string oi,.string or_,.string st,.string si,.string sr] 237);rwa[World.size_alloc]at this
theorem parts_at (a b c d e f:ByteArray)(W:World) :
  (Instr.index 237 (.agg #[.string a,.string b,.string c,.string d,.string e,.string f]) (.int .i64 0)).run Tryz.prog W = .ok (.string a) W /\
  (Instr.index 237 (.agg #[.string a,.string b,.string c,.string d,.string e,.string f]) (.int .i64 1)).run Tryz.prog W = .ok (.string b) W /\
  (Instr.index 237 (.agg #[.string a,.string b,.string c,.string d,.string e,.string f]) (.int .i64 2)).run Tryz.prog W = .ok (.string c) W /\
  (Instr.index 237 (.agg #[.string a,.string b,.string c,.string d,.string e,.string f]) (.int .i64 3)).run Tryz.prog W = .ok (.string d) W /\
  (Instr.index 237 (.agg #[.string a,.string b,.string c,.string d,.string e,.string f]) (.int .i64 4)).run Tryz.prog W = .ok (.string e) W /\
  (Instr.index 237 (.agg #[.string a,.string b,.string c,.string d,.string e,.string f]) (.int .i64 5)).run Tryz.prog W = .ok (.string f) W :=
 ⟨by kernel_rfl,by kernel_rfl,by kernel_rfl,by kernel_rfl,by kernel_rfl,by kernel_rfl⟩
theorem check_any (t:Tup)(ht:t.Ok)(w:World):Calls Tryz.prog 80 #[tV t] w fun e w'=>e = .returned (.int .i64 (chkN t))/\Below w.heap.size w w':=by
 obtain⟨⟨ot,oi,or_⟩,⟨st,si,sr⟩⟩:=t;have HOK:=h! ht;clear ht;have hb1:=(Blk.made w #[.string ot,.string oi,.string or_,.string st,.string si,.string sr] 67).cells;have HE:=h! (show Below w.heap.size w (w.alloc (.cells #[.string ot,.string oi,.string or_,.string st,.string si,.string sr] 67))from(Below.refl _ _).alloc (Nat.le_refl _) _);have HOF:=h! (of_any ⟨⟨ot,oi,or_⟩,⟨st,si,sr⟩⟩ (w.alloc (.cells #[.string ot,.string oi,.string or_,.string st,.string si,.string sr] 67)));unfold tV at HOF ⊢;dsimp only at HOF ⊢;unfold Tup.Ok P3.Ok at HOK;dsimp only at HOK;go_enter Tryz.func80,Tryz.ntmps80
 go_wp2_with fail
 refine HOF.out.mono ?_;rintro e w2 ⟨rfl,hb2⟩;have HBW:=h! (HE.out.trans (hb2.mono HE.out.size));clear HE HOF hb2 hb1;obtain⟨p0,p1,p2,p3,p4,p5⟩:=parts_at ot oi or_ st si sr w2;go_wp2_with fail
 refine wp_loop_rounds 7 ?_;rw[rounds_succ];go_wp2_with fail
 refine(isName_any ot HOK.out.1.1 _).mono ?_;rintro e w' ⟨rfl,rfl⟩;rcases hb0:isNm ot with _ | _
 ·have HB:=h! hb0;clear hb0;go_wp2_with fail
  go_ret
  exact⟨congrArg (fun n=>Ending.returned (.int .i64 n)) (show(2:Int)=chkN ⟨⟨ot,oi,or_⟩,⟨st,si,sr⟩⟩from by simp[chkN,chkT,HB.out]),HBW.out⟩
 have HB0:=h! hb0;clear hb0;go_wp2_with fail
 rw[rounds_succ];go_wp2_with fail
 refine(isName_any oi HOK.out.1.2.1 _).mono ?_;rintro e w' ⟨rfl,rfl⟩;rcases hb1:isNm oi with _ | _
 ·have HB:=h! hb1;clear hb1;go_wp2_with fail
  go_ret
  exact⟨congrArg (fun n=>Ending.returned (.int .i64 n)) (show(2:Int)=chkN ⟨⟨ot,oi,or_⟩,⟨st,si,sr⟩⟩from by simp[chkN,chkT,HB.out]),HBW.out⟩
 have HB1:=h! hb1;clear hb1;go_wp2_with fail
 rw[rounds_succ];go_wp2_with fail
 refine(isName_any or_ HOK.out.1.2.2 _).mono ?_;rintro e w' ⟨rfl,rfl⟩;rcases hb2:isNm or_ with _ | _
 ·have HB:=h! hb2;clear hb2;go_wp2_with fail
  go_ret
  exact⟨congrArg (fun n=>Ending.returned (.int .i64 n)) (show(2:Int)=chkN ⟨⟨ot,oi,or_⟩,⟨st,si,sr⟩⟩from by simp[chkN,chkT,HB.out]),HBW.out⟩
 have HB2:=h! hb2;clear hb2;go_wp2_with fail
 rw[rounds_succ];go_wp2_with fail
 refine(isName_any st HOK.out.2.1 _).mono ?_;rintro e w' ⟨rfl,rfl⟩;rcases hb3:isNm st with _ | _
 ·have HB:=h! hb3;clear hb3;go_wp2_with fail
  go_ret
  exact⟨congrArg (fun n=>Ending.returned (.int .i64 n)) (show(2:Int)=chkN ⟨⟨ot,oi,or_⟩,⟨st,si,sr⟩⟩from by simp[chkN,chkT,HB.out]),HBW.out⟩
 have HB3:=h! hb3;clear hb3;go_wp2_with fail
 rw[rounds_succ];go_wp2_with fail
 refine(isName_any si HOK.out.2.2.1 _).mono ?_;rintro e w' ⟨rfl,rfl⟩;rcases hb4:isNm si with _ | _
 ·have HB:=h! hb4;clear hb4;go_wp2_with fail
  go_ret
  exact⟨congrArg (fun n=>Ending.returned (.int .i64 n)) (show(2:Int)=chkN ⟨⟨ot,oi,or_⟩,⟨st,si,sr⟩⟩from by simp[chkN,chkT,HB.out]),HBW.out⟩
 have HB4:=h! hb4;clear hb4;go_wp2_with fail
 rw[rounds_succ];go_wp2_with fail
 refine(isName_any sr HOK.out.2.2.2 _).mono ?_;rintro e w' ⟨rfl,rfl⟩;rcases hb5:isNm sr with _ | _
 ·have HB5:=h! hb5;clear hb5;by_cases h0:sr.size=0
  ·obtain rfl:=ba_size_eq h0;clear h0;go_wp2_with fail
   rw[rounds_succ];go_wp2_with fail
   go_ret
   exact⟨congrArg (fun n=>Ending.returned (.int .i64 n)) (show(0:Int)=chkN ⟨⟨ot,oi,or_⟩,⟨st,si,⟨#[]⟩⟩⟩from by simp[chkN,chkT,HB0.out,HB1.out,HB2.out,HB3.out,HB4.out,show(ByteArray.mk #[]).size=0 from rfl]),HBW.out⟩
  ·have hne:=ba_size_ne h0;have H0:=h! h0;clear h0;go_wp2_with fail
   go_ret
   exact⟨congrArg (fun n=>Ending.returned (.int .i64 n)) (show(2:Int)=chkN ⟨⟨ot,oi,or_⟩,⟨st,si,sr⟩⟩from by simp[chkN,chkT,HB5.out,H0.out]),HBW.out⟩
 ·have HB5:=h! hb5;clear hb5;go_wp2_with fail
  rw[rounds_succ];go_wp2_with fail
  go_ret
  exact⟨congrArg (fun n=>Ending.returned (.int .i64 n)) (show(0:Int)=chkN ⟨⟨ot,oi,or_⟩,⟨st,si,sr⟩⟩from by simp[chkN,chkT,HB0.out,HB1.out,HB2.out,HB3.out,HB4.out,HB5.out]),HBW.out⟩
def subsOf (T:List Tup)(p:P3):List P3:=(T.filter fun t=>decide (t.o=p)).map (·.s)
inductive FT where
 | mk (k:Int) (subs:List P3) (refs:List Int) (ps:List FT)
def FT.k:FT->Int | .mk k _ _ _=>k
def FT.subs:FT->List P3 | .mk _ s _ _=>s
def FT.refs:FT->List Int | .mk _ _ r _=>r
def FT.ps:FT->List FT | .mk _ _ _ ps=>ps
def FT.zero:FT := .mk 0 [] [] []
instance:Inhabited FT:=⟨FT.zero⟩
mutual
def FT.sz:FT->Nat | .mk _ _ _ ps=>1+fszL ps
def fszL:List FT->Nat | []=>0 | r::rs=>r.sz+fszL rs
end
theorem fszL_mem {p:FT}:∀ {ps:List FT},p∈ps->p.sz<=fszL ps
 | r::rs,h=>by
  rw[fszL];rcases List.mem_cons.1 h with rfl | h
  ·omega
  ·have:=fszL_mem h;omega
theorem FT.sz_lt {r p:FT} (h:p∈r.ps):p.sz<r.sz:=by
 obtain⟨k,a,b,ps⟩:=r;have:=fszL_mem (show p∈ps from h);rw[FT.sz];omega
theorem FT.ind {Q:FT->Prop} (h:∀ r,(∀ p∈r.ps,Q p)->Q r)(r:FT):Q r:=by
 generalize hn:r.sz=n;induction n using Nat.strongRecOn generalizing r with
 | ind n ih=>exact h r fun p hp=>ih p.sz (by have:=FT.sz_lt hp;omega) p rfl
def numD (ps:List P3)(p:P3):Nat:=ps.findIdx fun x=>decide (x=p)
def putP (ps:List P3)(p:P3):List P3:=if p∈ps then ps else ps++[p]
def refsD:List P3->List Int->List P3->List Int × List P3
 | ps,out,[]=>(out,ps)
 | ps,out,p::l=>refsD (putP ps p) (if (numD ps p:Int)∈out then out else out++[(numD ps p:Int)]) l
theorem refsD_snoc:∀ (l:List P3)(ps:List P3)(out:List Int)(p:P3),refsD ps out (l++[p])=(if (numD (refsD ps out l).2 p:Int)∈(refsD ps out l).1 then(refsD ps out l).1 else(refsD ps out l).1++[(numD (refsD ps out l).2 p:Int)],putP (refsD ps out l).2 p)
 | [],ps,out,p=>rfl
 | x::l,ps,out,p=>by rw[List.cons_append,refsD,refsD,refsD_snoc l]
def setsOf (l:List P3):List P3:=l.filter fun s=>decide (s.r≠⟨#[]⟩)
def viaOf (b:ByteArray)(l:List P3):List P3:=(l.filter fun s=>decide (s.r=⟨#[]⟩)).map fun s=>⟨s.t,s.i,b⟩
def headF (T:List Tup)(p:P3)(k:Int)(a b:ByteArray)(ps:List P3):List P3 × List Int × List P3 :=
 if k=1 then(subsOf T p,refsD ps [] (setsOf (subsOf T p)))
 else if k=2 then([],[(numD ps ⟨p.t,p.i,a⟩:Int)],putP ps ⟨p.t,p.i,a⟩)
 else if k=3 then([],refsD ps [] (viaOf b (subsOf T ⟨p.t,p.i,a⟩)))
 else([],[],ps)
mutual
def formD (T:List Tup)(p:P3):RT->List P3->FT × List P3
 | .mk k a b parts,ps=>(.mk k (headF T p k a b ps).1 (headF T p k a b ps).2.1 (formsD T p parts (headF T p k a b ps).2.2).1,(formsD T p parts (headF T p k a b ps).2.2).2)
def formsD (T:List Tup)(p:P3):List RT->List P3->List FT × List P3
 | [],ps=>([],ps)
 | r::rs,ps=>((formD T p r ps).1::(formsD T p rs (formD T p r ps).2).1,(formsD T p rs (formD T p r ps).2).2)
end
theorem formD_eq (T:List Tup)(p:P3)(r:RT)(ps:List P3):formD T p r ps=(.mk r.k (headF T p r.k r.a r.b ps).1 (headF T p r.k r.a r.b ps).2.1 (formsD T p r.ps (headF T p r.k r.a r.b ps).2.2).1,(formsD T p r.ps (headF T p r.k r.a r.b ps).2.2).2):=by
 obtain⟨k,a,b,parts⟩:=r;rw[formD];rfl
theorem formsD_snoc (T:List Tup)(p:P3):∀ (rs:List RT)(r:RT)(ps:List P3),formsD T p (rs++[r]) ps=((formsD T p rs ps).1++[(formD T p r (formsD T p rs ps).2).1],(formD T p r (formsD T p rs ps).2).2)
 | [],r,ps=>by simp[formsD]
 | x::rs,r,ps=>by rw[List.cons_append,formsD,formsD_snoc T p rs r,formsD];rfl
theorem formsD_take (T:List Tup)(p:P3)(rs:List RT)(ps:List P3)(i:Nat)(h:i<rs.length):formsD T p (rs.take (i+1)) ps=((formsD T p (rs.take i) ps).1++[(formD T p rs[i] (formsD T p (rs.take i) ps).2).1],(formD T p rs[i] (formsD T p (rs.take i) ps).2).2):=by
 rw[List.take_succ_eq_append_getElem h,formsD_snoc]
def ruleOf (ts:List TyS)(shut:List R2)(p:P3):Option RT:=if (⟨p.t,p.r⟩:R2)∈shut then none else lookA (refsOf ts) ⟨p.t,p.r⟩
def stepG (ts:List TyS)(T:List Tup)(shut:List R2)(p:P3)(ps:List P3):FT × List P3 :=
 match ruleOf ts shut p with
 | some r=>formD T p r ps
 | none=>(FT.zero,ps)
def walkN (ts:List TyS)(T:List Tup)(shut:List R2)(p:P3):Nat->List P3 × List FT
 | 0=>([p],[])
 | n+1=>((stepG ts T shut ((walkN ts T shut p n).1.getD n p) (walkN ts T shut p n).1).2,(walkN ts T shut p n).2++[(stepG ts T shut ((walkN ts T shut p n).1.getD n p) (walkN ts T shut p n).1).1])
/-! What stays true of the points. -/
theorem putP_pre (ps:List P3)(p:P3):ps <+: putP ps p:=by
 unfold putP;split
 ·exact List.prefix_refl _
 ·exact List.prefix_append _ _
theorem putP_mem (ps:List P3)(p x:P3):x∈putP ps p↔x∈ps\/x=p:=by
 unfold putP;split
 ·next h=>exact⟨.inl,fun h2=>h2.elim id fun e=>e▸h⟩
 ·simp
theorem putP_nodup {ps:List P3} (h:ps.Nodup)(p:P3):(putP ps p).Nodup:=by
 unfold putP;split
 ·exact h
 ·next hn =>
  rw[List.nodup_append];refine⟨h,by simp,fun a ha b hb=>?_⟩;rw[List.mem_singleton.1 hb];exact fun e=>hn (e▸ha)
theorem refsD_pre:∀ (l:List P3)(ps:List P3)(out:List Int),ps <+: (refsD ps out l).2
 | [],ps,_=>List.prefix_refl _
 | p::l,ps,out=>by rw[refsD];exact(putP_pre ps p).trans (refsD_pre l _ _)
theorem refsD_mem:∀ (l:List P3)(ps:List P3)(out:List Int)(x:P3),x∈(refsD ps out l).2↔x∈ps\/x∈l
 | [],ps,_,x=>by simp[refsD]
 | p::l,ps,out,x=>by
  rw[refsD,refsD_mem l,putP_mem,List.mem_cons];constructor
  ·rintro((h | h) | h)
   ·exact .inl h
   ·exact .inr (.inl h)
   ·exact .inr (.inr h)
  ·rintro(h | h | h)
   ·exact .inl (.inl h)
   ·exact .inl (.inr h)
   ·exact .inr h
theorem refsD_nodup:∀ (l:List P3)(ps:List P3)(out:List Int),ps.Nodup->(refsD ps out l).2.Nodup
 | [],_,_,h=>h
 | p::l,ps,out,h=>by rw[refsD];exact refsD_nodup l _ _ (putP_nodup h p)
theorem headF_pre (T:List Tup)(p:P3)(k:Int)(a b:ByteArray)(ps:List P3):ps <+: (headF T p k a b ps).2.2:=by
 unfold headF;split
 ·exact refsD_pre _ _ _
 ·split
  ·exact putP_pre _ _
  ·split
   ·exact refsD_pre _ _ _
   ·exact List.prefix_refl _
theorem headF_nodup (T:List Tup)(p:P3)(k:Int)(a b:ByteArray) {ps:List P3} (h:ps.Nodup):(headF T p k a b ps).2.2.Nodup:=by
 unfold headF;split
 ·exact refsD_nodup _ _ _ h
 ·split
  ·exact putP_nodup h _
  ·split
   ·exact refsD_nodup _ _ _ h
   ·exact h
theorem formD_pre (T:List Tup)(p:P3)(r:RT):∀ ps:List P3,ps <+: (formD T p r ps).2:=by
 induction r using RT.ind with
 | h r ih =>
  intro ps;rw[formD_eq]
  have:∀ (l:List RT) (qs:List P3),(∀ x∈l,x∈r.ps)->qs <+: (formsD T p l qs).2:=by
   intro l;induction l with
   | nil=>intro qs _;exact List.prefix_refl _
   | cons x l ihl=>intro qs hx;rw[formsD];exact(ih x (hx x (by simp)) qs).trans (ihl _ fun y hy=>hx y (List.mem_cons_of_mem _ hy))
  exact(headF_pre T p r.k r.a r.b ps).trans (this r.ps _ fun _ h=>h)
theorem formD_nodup (T:List Tup)(p:P3)(r:RT):∀ {ps:List P3},ps.Nodup->(formD T p r ps).2.Nodup:=by
 induction r using RT.ind with
 | h r ih =>
  intro ps h;rw[formD_eq]
  have:∀ (l:List RT) (qs:List P3),(∀ x∈l,x∈r.ps)->qs.Nodup->(formsD T p l qs).2.Nodup:=by
   intro l;induction l with
   | nil=>intro qs _ h;exact h
   | cons x l ihl=>intro qs hx h;rw[formsD];exact ihl _ (fun y hy=>hx y (List.mem_cons_of_mem _ hy)) (ih x (hx x (by simp)) h)
  exact this r.ps _ (fun _ h=>h) (headF_nodup T p r.k r.a r.b h)
theorem stepG_pre (ts:List TyS)(T:List Tup)(shut:List R2)(p:P3)(ps:List P3):ps <+: (stepG ts T shut p ps).2:=by
 unfold stepG;split
 ·exact formD_pre _ _ _ _
 ·exact List.prefix_refl _
theorem stepG_nodup (ts:List TyS)(T:List Tup)(shut:List R2)(p:P3) {ps:List P3} (h:ps.Nodup):(stepG ts T shut p ps).2.Nodup:=by
 unfold stepG;split
 ·exact formD_nodup _ _ _ h
 ·exact h
theorem walkN_nodup (ts:List TyS)(T:List Tup)(shut:List R2)(p:P3):∀ n,(walkN ts T shut p n).1.Nodup
 | 0=>by simp[walkN]
 | n+1=>by rw[walkN];exact stepG_nodup _ _ _ _ (walkN_nodup ts T shut p n)
theorem walkN_pre (ts:List TyS)(T:List Tup)(shut:List R2)(p:P3):∀ n m,n<=m->(walkN ts T shut p n).1 <+: (walkN ts T shut p m).1
 | n,0,h=>by
  obtain rfl:n=0:=by omega
  exact List.prefix_refl _
 | n,m+1,h=>by
  by_cases e:n=m+1
  ·subst e;exact List.prefix_refl _
  ·refine(walkN_pre ts T shut p n m (by omega)).trans ?_;rw[walkN];exact stepG_pre _ _ _ _ _
theorem walkN_forms (ts:List TyS)(T:List Tup)(shut:List R2)(p:P3):∀ n,(walkN ts T shut p n).2.length=n
 | 0=>rfl
 | n+1=>by rw[walkN];simp[walkN_forms ts T shut p n]
/-! All points lie in one finite list. -/
mutual
def RT.nms:RT->List ByteArray | .mk _ a b ps=>a::b::nmsL ps
def nmsL:List RT->List ByteArray | [] => [] | r::rs=>r.nms++nmsL rs
end
theorem RT.nms_eq (r:RT):r.nms=r.a::r.b::nmsL r.ps:=by
 obtain⟨k,a,b,ps⟩:=r;rw[RT.nms];rfl
theorem nmsL_mem {r:RT}:∀ {l:List RT},r∈l->∀ n∈r.nms,n∈nmsL l
 | x::l,h,n,hn=>by
  rw[nmsL,List.mem_append];rcases List.mem_cons.1 h with rfl | h
  ·exact .inl hn
  ·exact .inr (nmsL_mem h n hn)
def InU (O:List (ByteArray × ByteArray))(N:List ByteArray)(x:P3):Prop:=(x.t,x.i)∈O/\x.r∈N
structure OkU (T:List Tup)(O:List (ByteArray × ByteArray))(N:List ByteArray):Prop where
 objs:∀ t∈T,(t.s.t,t.s.i)∈O
 rels:∀ t∈T,t.s.r∈N
theorem subsOf_mem {T:List Tup} {p x:P3} (h:x∈subsOf T p):∃ t∈T,t.o=p/\t.s=x:=by
 unfold subsOf at h;obtain⟨t,ht,rfl⟩:=List.mem_map.1 h;rw[List.mem_filter]at ht;exact⟨t,ht.1,by simpa using ht.2,rfl⟩
theorem headF_in {T:List Tup} {O:List (ByteArray × ByteArray)} {N:List ByteArray} (h:OkU T O N) {p:P3} (hp:(p.t,p.i)∈O) {k:Int} {a b:ByteArray} (ha:a∈N)(hb:b∈N) {ps:List P3} (hs:∀ x∈ps,InU O N x):∀ x∈(headF T p k a b ps).2.2,InU O N x:=by
 unfold headF;split
 ·intro x hx;rcases (refsD_mem _ _ _ x).1 hx with hx | hx
  ·exact hs x hx
  ·unfold setsOf at hx;rw[List.mem_filter]at hx;obtain⟨t,ht,_,rfl⟩:=subsOf_mem hx.1;exact⟨h.objs t ht,h.rels t ht⟩
 ·split
  ·intro x hx;rcases (putP_mem _ _ x).1 hx with hx | rfl
   ·exact hs x hx
   ·exact⟨hp,ha⟩
  ·split
   ·intro x hx;rcases (refsD_mem _ _ _ x).1 hx with hx | hx
    ·exact hs x hx
    ·unfold viaOf at hx;obtain⟨y,hy,rfl⟩:=List.mem_map.1 hx;rw[List.mem_filter]at hy;obtain⟨t,ht,_,rfl⟩:=subsOf_mem hy.1;exact⟨h.objs t ht,hb⟩
   ·exact hs
theorem formD_in {T:List Tup} {O:List (ByteArray × ByteArray)} {N:List ByteArray} (h:OkU T O N) {p:P3} (hp:(p.t,p.i)∈O)(r:RT):(∀ n∈r.nms,n∈N)->∀ {ps:List P3},(∀ x∈ps,InU O N x)->∀ x∈(formD T p r ps).2,InU O N x:=by
 induction r using RT.ind with
 | h r ih =>
  intro hn ps hs;rw[formD_eq];rw[RT.nms_eq]at hn
  have:∀ (l:List RT) (qs:List P3),(∀ x∈l,x∈r.ps)->(∀ x∈qs,InU O N x)->∀ x∈(formsD T p l qs).2,InU O N x:=by
   intro l;induction l with
   | nil=>intro qs _ h;exact h
   | cons y l ihl =>
    intro qs hx hq;rw[formsD];exact ihl _ (fun z hz=>hx z (List.mem_cons_of_mem _ hz)) (ih y (hx y (by simp)) (fun n hn'=>hn n (List.mem_cons_of_mem _ (List.mem_cons_of_mem _ (nmsL_mem (hx y (by simp)) n hn')))) hq)
  exact this r.ps _ (fun _ h=>h) (headF_in h hp (hn _ (by simp)) (hn _ (by simp)) hs)
def NmU (ts:List TyS)(N:List ByteArray):Prop:=∀ x∈refsOf ts,∀ n∈x.2.nms,n∈N
theorem stepG_in {ts:List TyS} {T:List Tup} {O:List (ByteArray × ByteArray)} {N:List ByteArray} (h:OkU T O N)(hN:NmU ts N)(shut:List R2) {p:P3} (hp:InU O N p) {ps:List P3} (hs:∀ x∈ps,InU O N x):∀ x∈(stepG ts T shut p ps).2,InU O N x:=by
 unfold stepG;split
 ·next r hr =>
  refine formD_in h hp.1 r ?_ hs;unfold ruleOf at hr;split at hr
  ·cases hr
  ·exact hN _ (look_mem hr)
 ·exact hs
theorem walkN_in {ts:List TyS} {T:List Tup} {O:List (ByteArray × ByteArray)} {N:List ByteArray} (h:OkU T O N)(hN:NmU ts N)(shut:List R2) {p:P3} (hp:InU O N p):∀ n,∀ x∈(walkN ts T shut p n).1,InU O N x
 | 0=>by
  intro x hx;rw[walkN]at hx;rw[List.mem_singleton.1 hx];exact hp
 | n+1=>by
  have ih:=walkN_in h hN shut hp n;rw[walkN];refine stepG_in h hN shut ?_ ih;rw[List.getD_eq_getElem?_getD];cases e:(walkN ts T shut p n).1[n]? with
  | none=>exact hp
  | some y=>exact ih y (List.mem_of_getElem? e)
theorem nodup_leR {α:Type}:∀ {l u:List α},l.Nodup->(∀ x∈l,x∈u)->l.length<=u.length
 | [],_,_,_=>Nat.zero_le _
 | a::l,u,hn,hs=>by
  obtain⟨p,q,rfl⟩:=List.append_of_mem (hs a List.mem_cons_self);rw[List.nodup_cons]at hn
  have h1:=nodup_leR (l:=l) (u:=p++q) hn.2 fun x hx=>by
   have h2:=hs x (List.mem_cons_of_mem _ hx);rcases List.mem_append.1 h2 with h3 | h3
   ·exact List.mem_append_left _ h3
   ·rcases List.mem_cons.1 h3 with h3 | h3
    ·subst h3;exact absurd hx hn.1
    ·exact List.mem_append_right _ h3
  simp only[List.length_cons,List.length_append]at h1 ⊢;omega
theorem inU_few {O:List (ByteArray × ByteArray)} {N:List ByteArray} {l:List P3} (hn:l.Nodup)(h:∀ x∈l,InU O N x):l.length<=O.length*N.length:=by
 have h1:∀ x∈l,x∈O.flatMap fun o=>N.map fun r=>(⟨o.1,o.2,r⟩:P3):=fun x hx=>by
  obtain⟨h2,h3⟩:=h x hx;exact List.mem_flatMap.2 ⟨_,h2,List.mem_map.2 ⟨_,h3,rfl⟩⟩
 refine Nat.le_trans (nodup_leR hn h1) (Nat.le_of_eq ?_);clear h h1 hn;induction O with
 | nil=>simp
 | cons o O ih=>rw[List.flatMap_cons,List.length_append,ih,List.length_map,List.length_cons,Nat.add_mul];omega
/-! How the walk ends. -/
def WalkAt (ts:List TyS)(T:List Tup)(shut:List R2)(p:P3)(most:Int)(n:Nat):Prop:=∀ m,m<n->m<(walkN ts T shut p m).1.length/\((walkN ts T shut p m).1.length:Int)<=most
def WalkEnd (ts:List TyS)(T:List Tup)(shut:List R2)(p:P3)(most:Int)(n:Nat):Prop:=WalkAt ts T shut p most n/\n=(walkN ts T shut p n).1.length
def WalkLong (ts:List TyS)(T:List Tup)(shut:List R2)(p:P3)(most:Int):Prop:=∃ n,WalkAt ts T shut p most n/\n<(walkN ts T shut p n).1.length/\most<((walkN ts T shut p n).1.length:Int)
theorem walk_mono (ts:List TyS)(T:List Tup)(shut:List R2)(p:P3) {n m:Nat} (h:n<=m):(walkN ts T shut p n).1.length<=(walkN ts T shut p m).1.length:=(walkN_pre ts T shut p n m h).length_le
theorem WalkEnd.notLong {ts:List TyS} {T:List Tup} {shut:List R2} {p:P3} {most:Int} {n:Nat} (h:WalkEnd ts T shut p most n):¬ WalkLong ts T shut p most:=by
 rintro⟨m,h1,h2,h3⟩;rcases Nat.lt_trichotomy n m with hlt | rfl | hlt
 ·have:=(h1 n hlt).1;have:=h.2;omega
 ·have:=h.2;omega
 ·have:=(h.1 m hlt).2;omega
end Go.Proofs.YtlhaghoajpglaaaGreat
