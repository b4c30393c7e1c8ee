/- Lemmas for the claim, no condition. -/
import Derived.Test.YtlhaghoajpglaaaGreatYBuGrid0
import Derived.Lib.SliceRun
import Derived.Test.YtlhaghoajpglaaaGreatYBuGrid7
import Derived.Test.YtlhaghoajpglaaaGreatYBuGrid6
import Derived.Test.YtlhaghoajpglaaaGreatYBuGrid9
import Derived.Test.YtlhaghoajpglaaaGreatYBuGrid13
import Derived.Test.YtlhaghoajpglaaaGreatYBuGrid12
set_option maxRecDepth 100000
set_option maxHeartbeats 4000000
namespace Go.Proofs.YtlhaghoajpglaaaGreat
open Go Go.RowKit Go.Maps
theorem rel_own:∀ n∈relNs,ownB n=true/\n≠(⟨#[116,121,112,101]⟩:ByteArray)/\n.size<=6:=by
 intro n hn;have h:(relNs.all fun n=>ownB n&&decide (n≠(⟨#[116,121,112,101]⟩:ByteArray))&&decide (n.size<=6))=true:=by kernel_rfl
 have:=List.all_eq_true.1 h n hn;simp only[Bool.and_eq_true,decide_eq_true_eq]at this;exact⟨this.1.1,this.1.2,this.2⟩
theorem ty_own:∀ n∈tyNs,ownB n=true/\n.size<=6:=by
 intro n hn;have h:(tyNs.all fun n=>ownB n&&decide (n.size<=6))=true:=by kernel_rfl
 have:=List.all_eq_true.1 h n hn;simp only[Bool.and_eq_true,decide_eq_true_eq]at this;exact this
theorem rel_nodup:relNs.Nodup:=of_decide_eq_true (by kernel_rfl)
theorem ty_nodup:tyNs.Nodup:=of_decide_eq_true (by kernel_rfl)
structure FineR (ts:List TyS)(t:TyS)(d n m:Nat)(r:RT):Prop where
 text:∀ k,k+d<=8->r.textOk k=true
 sz:r.sz<=n
 bk:r.bk<=m
 ok:r.Ok
 named:r.named ts t=true
theorem sumN_le {α:Type} (f:α->Nat)(D:Nat):∀ l:List α,(∀ x∈l,f x<=D)->sumN f l<=l.length*D
 | [],_=>by simp[sumN]
 | a::l,h=>by
  rw[sumN,List.length_cons,Nat.add_mul,Nat.one_mul];have:=sumN_le f D l fun x hx=>h x (List.mem_cons_of_mem _ hx);have:=h a List.mem_cons_self;omega
theorem szL_sum (l:List RT):szL l=sumN RT.sz l:=by
 induction l with
 | nil=>rfl
 | cons x l ih=>rw[szL,sumN,ih]
theorem FineR.leaf {ts:List TyS} {t:TyS} {own:List ByteArray} (hs:∀ n∈own,n∈relNs)(hh:∀ n∈own,hasT t n=true)(ha:∀ n∈relNs.take 2,anyT ts n=true)(d:Nat) {r:RT} (h:LeafR own r):FineR ts t d 1 17 r:=by
 have h0:(⟨#[]⟩:ByteArray).size=0:=rfl;rcases h with rfl | ⟨a,h1,rfl⟩ | ⟨a,h1,b,h2,rfl⟩
 ·refine⟨fun k _=>?_,?_,?_,?_,?_⟩
  ·rw[RT.textOk];rfl
  ·rw[RT.sz];simp[szL]
  ·rw[RT.bk,bkL,h0];omega
  ·rw[RT.Ok,okL,h0];exact⟨by omega,by omega,by omega,trivial⟩
  ·rw[RT.named];simp[namedL,headOk]
 ·obtain⟨o1,o2,o3⟩:=rel_own a (hs a h1);refine⟨fun k _=>?_,?_,?_,?_,?_⟩
  ·rw[RT.textOk,if_neg (by decide),if_pos rfl,o1];rfl
  ·rw[RT.sz];simp[szL]
  ·rw[RT.bk,bkL,h0];omega
  ·rw[RT.Ok,okL,h0];exact⟨by omega,by omega,by omega,trivial⟩
  ·rw[RT.named];simp[namedL,headOk,hh a h1]
 ·obtain⟨o1,o2,o3⟩:=rel_own a (hs a h1);obtain⟨p1,p2,p3⟩:=rel_own b (List.take_subset 2 relNs h2);refine⟨fun k _=>?_,?_,?_,?_,?_⟩
  ·rw[RT.textOk,if_neg (by decide),if_neg (by decide),if_pos rfl,o1,p1];rfl
  ·rw[RT.sz];simp[szL]
  ·rw[RT.bk,bkL];omega
  ·rw[RT.Ok,okL];exact⟨by omega,by omega,by omega,trivial⟩
  ·rw[RT.named];simp[namedL,headOk,hh a h1,ha b h2]
theorem FineR.group {ts:List TyS} {t:TyS} {d n m:Nat} {k:Int} (hk:k=4\/k=5) {ps:List RT} (hl:2<=ps.length/\ps.length<=3)(h:∀ p∈ps,FineR ts t d n m p/\p.k≠k):FineR ts t (d+1) (1+3*n) (5+3*m) (.mk k ⟨#[]⟩ ⟨#[]⟩ ps):=by
 refine⟨fun j hj=>?_,?_,?_,?_,?_⟩
 ·rw[RT.textOk,if_neg (by omega),if_neg (by omega),if_neg (by omega),if_pos hk,decide_eq_true hl.1,textL_eq]
  have:ps.all (goodP k j)=true:=List.all_eq_true.2 fun p hp=>by
   have hi:innerD k p.k j<=j+1:=by unfold innerD;split <;> omega
   unfold goodP;rw[decide_eq_true (h p hp).2,decide_eq_true (show innerD k p.k j<=8 by omega),(h p hp).1.text _ (by omega)];rfl
  rw[this];rfl
 ·rw[RT.sz,szL_sum];have:=sumN_le RT.sz n ps fun p hp=>(h p hp).1.sz;have:=Nat.mul_le_mul_right n hl.2;omega
 ·rw[RT.bk,bkL_sum];have:=sumN_le RT.bk m ps fun p hp=>(h p hp).1.bk;have:=Nat.mul_le_mul_right m hl.2;have h0:(⟨#[]⟩:ByteArray).size=0:=rfl;omega
 ·rw[RT.Ok];have h0:(⟨#[]⟩:ByteArray).size=0:=rfl;exact⟨by omega,by omega,by omega,okL_mem.2 fun p hp=>(h p hp).1.ok⟩
 ·rw[RT.named,namedL_eq]
  have h1:headOk ts t k ⟨#[]⟩ ⟨#[]⟩=true:=by
   unfold headOk;rcases hk with rfl | rfl <;> rfl
  rw[h1,Bool.true_and];exact List.all_eq_true.2 fun p hp=>(h p hp).1.named
theorem FineR.mono {ts:List TyS} {t:TyS} {d n m d' n' m':Nat} {r:RT} (h:FineR ts t d n m r)(hd:d<=d')(hn:n<=n')(hm:m<=m'):FineR ts t d' n' m' r:=⟨fun k hk=>h.text k (by omega),Nat.le_trans h.sz hn,Nat.le_trans h.bk hm,h.ok,h.named⟩
section
variable {ts : List TyS} {t : TyS} {own : List ByteArray} (hs : ∀ n ∈ own, n ∈ relNs) (hh : ∀ n ∈ own, hasT t n = true) (ha : ∀ n ∈ relNs.take 2, anyT ts n = true)
include hs hh ha
theorem GoodR.fine0 {r:RT} (h:GoodR own 0 r):FineR ts t 0 1 17 r:=FineR.leaf hs hh ha 0 h
theorem GoodR.fine1 {r:RT} (h:GoodR own 1 r):FineR ts t 1 4 56 r:=by
 rcases h with h | ⟨k,ps,rfl,hk,hl,hp⟩
 ·exact(FineR.leaf hs hh ha 1 h).mono (by omega) (by omega) (by omega)
 ·exact(FineR.group hk (by omega) fun p hx=>⟨GoodR.fine0 hs hh ha (hp p hx).1,(hp p hx).2⟩).mono (by omega) (by omega) (by omega)
theorem GoodR.fine2 {r:RT} (h:GoodR own 2 r):FineR ts t 2 13 173 r:=by
 rcases h with h | ⟨k,ps,rfl,hk,hl,hp⟩
 ·exact(FineR.leaf hs hh ha 2 h).mono (by omega) (by omega) (by omega)
 ·exact(FineR.group hk (by omega) fun p hx=>⟨GoodR.fine1 hs hh ha (hp p hx).1,(hp p hx).2⟩).mono (by omega) (by omega) (by omega)
theorem TopR.fine {r:RT} (h:TopR own r):FineR ts t 3 32 524 r/\r.sz<=15:=by
 rcases h with h | ⟨r0,h0,hk,rfl⟩
 ·have:=GoodR.fine2 hs hh ha h;exact⟨this.mono (by omega) (by omega) (by omega),Nat.le_trans this.sz (by omega)⟩
 ·have h2:=GoodR.fine2 hs hh ha h0;have h1:=(FineR.leaf hs hh ha 2 (r := .mk 1 ⟨#[]⟩ ⟨#[]⟩ []) (.inl rfl))
  have hsz:(RT.mk 4 ⟨#[]⟩ ⟨#[]⟩ [.mk 1 ⟨#[]⟩ ⟨#[]⟩ [],r0]).sz<=15:=by
   rw[RT.sz,szL,szL,szL];have:=h1.sz;have:=h2.sz;omega
  have:=FineR.group (ts:=ts) (t:=t) (k:=4) (.inl rfl) (ps:=[.mk 1 ⟨#[]⟩ ⟨#[]⟩ [],r0]) (by simp) (d:=2) (n:=13) (m:=173) fun p hp=>by
   simp only[List.mem_cons,List.not_mem_nil,or_false]at hp;rcases hp with rfl | rfl
   ·exact⟨h1.mono (by omega) (by omega) (by omega),by simp[RT.k]⟩
   ·exact⟨h2,hk⟩
  exact⟨⟨this.text,Nat.le_trans hsz (by omega),Nat.le_trans this.bk (by omega),this.ok,this.named⟩,hsz⟩
end
structure FineS (ts:List TyS):Prop where
 chk:chk06 ts=0
 ok:∀ t∈ts,t.Ok
 bk:schBk ts<=10000
 two:2<=ts.length/\ts.length<=3
 rels:∀ t∈ts,2<=t.rels.length/\t.rels.length<=4
theorem GoodS.fine {ts:List TyS} (h:GoodS ts):FineS ts:=by
 obtain⟨hl,hn,hg⟩:=h
 have hany:∀ n∈relNs.take 2,anyT ts n=true:=fun n hn2=>by
  have h0:0<ts.length:=by omega
  obtain⟨m,hm2,hm4,hr,_⟩:=hg ts[0] (List.getElem_mem h0);refine List.any_eq_true.2 ⟨ts[0],List.getElem_mem h0,?_⟩
  have:n∈ts[0].rels.map (·.1):=by
   rw[hr];exact List.take_subset_take_left relNs hm2 hn2
  obtain⟨x,hx,rfl⟩:=List.mem_map.1 this;exact List.any_eq_true.2 ⟨x,hx,decide_eq_true rfl⟩
 have hfine:∀ t∈ts,(∀ n∈t.rels.map (·.1),n∈relNs)/\(t.rels.map (·.1)).Nodup/\(2<=t.rels.length/\t.rels.length<=4)/\∀ r∈t.rels,FineR ts t 3 32 524 r.2/\r.2.sz<=15:=fun t ht=>by
  obtain⟨m,hm2,hm4,hr,hp⟩:=hg t ht
  have hlen:t.rels.length=m:=by
   have:=congrArg List.length hr;rw[List.length_map,List.length_take]at this;have h4:relNs.length=4:=rfl;omega
  refine⟨fun n hn=>by rw[hr]at hn;exact List.take_subset m relNs hn,by rw[hr];exact rel_nodup.sublist (List.take_sublist m relNs),by omega,fun r hr'=>?_⟩;refine TopR.fine (own:=relNs.take m) (fun n hn=>List.take_subset m relNs hn) (fun n hn=>?_) hany (hp r hr');rw[<- hr]at hn;obtain⟨x,hx,rfl⟩:=List.mem_map.1 hn;exact List.any_eq_true.2 ⟨x,hx,decide_eq_true rfl⟩
 have hnm:∀ t∈ts,ownB t.name=true/\t.name.size<=6:=fun t ht=>ty_own _ (by
  have:t.name∈ts.map (·.name):=List.mem_map_of_mem ht;rw[hn]at this;exact List.take_subset _ _ this)
 have hrn:∀ t∈ts,∀ r∈t.rels,ownB r.1=true/\r.1≠(⟨#[116,121,112,101]⟩:ByteArray)/\r.1.size<=6:=fun t ht r hr=>rel_own _ ((hfine t ht).1 _ (List.mem_map_of_mem hr))
 have hprint:printOk ts=true:=List.all_eq_true.2 fun t ht=>by
  unfold tyOk;rw[(hnm t ht).1,Bool.true_and];refine List.all_eq_true.2 fun r hr=>?_;unfold relOk;rw[((hfine t ht).2.2.2 r hr).1.text 0 (by omega),(hrn t ht r hr).1,decide_eq_true (hrn t ht r hr).2.1];rfl
 have hlong:longOk ts=true:=by
  unfold longOk;rw[decide_eq_true (show ts.length<=16 by omega),Bool.true_and];refine List.all_eq_true.2 fun t ht=>?_;unfold tyLong;rw[decide_eq_true (show t.rels.length<=16 by have:=(hfine t ht).2.2.1.2;omega),Bool.true_and];exact List.all_eq_true.2 fun r hr=>decide_eq_true ((hfine t ht).2.2.2 r hr).1.sz
 have huniq:uniqOk ts=true:=by
  unfold uniqOk;rw[hn,decide_eq_true (ty_nodup.sublist (List.take_sublist _ _)),Bool.true_and];exact List.all_eq_true.2 fun t ht=>decide_eq_true (hfine t ht).2.1
 have hnames:namesOk ts=true:=by
  unfold namesOk;exact List.all_eq_true.2 fun t ht=>List.all_eq_true.2 fun r hr=>((hfine t ht).2.2.2 r hr).1.named
 refine⟨by unfold chk06;rw[hprint,hlong,huniq,hnames];rfl,fun t ht=>⟨by have:=(hnm t ht).2;omega,fun r hr=>⟨by have:=(hrn t ht r hr).2.2;omega,((hfine t ht).2.2.2 r hr).1.ok⟩⟩,?_,by omega,fun t ht=>(hfine t ht).2.2.1⟩;unfold schBk
 have h1:=sumN_le tyBk 2136 ts fun t ht=>by
  rw[tyBk_eq]
  have:=sumN_le relBk 532 t.rels fun r hr=>by
   rw[relBk_eq];have:=(hrn t ht r hr).2.2;have:=((hfine t ht).2.2.2 r hr).1.bk;omega
  have:=(hfine t ht).2.2.1.2;have:=(hnm t ht).2;have:=Nat.mul_le_mul_right 532 (hfine t ht).2.2.1.2;omega
 have:=Nat.mul_le_mul_right 2136 (show ts.length<=3 by omega);omega
end Go.Proofs.YtlhaghoajpglaaaGreat
namespace Go.Proofs.YtlhaghoajpglaaaGreat
open Go Go.RowKit
theorem formsD_pre (T:List Tup)(p:P3):∀ (l:List RT)(ps:List P3),ps <+: (formsD T p l ps).2
 | [],ps=>List.prefix_refl _
 | r::l,ps=>by rw[formsD];exact(formD_pre T p r ps).trans (formsD_pre T p l _)
theorem walkN_first (ts:List TyS)(T:List Tup)(shut:List R2)(p:P3)(n:Nat):(walkN ts T shut p n).1[0]?=some p:=by
 have h:=walkN_pre ts T shut p 0 n (Nat.zero_le n);rw[walkN]at h;obtain⟨t,ht⟩:=h;rw[<- ht];rfl
end Go.Proofs.YtlhaghoajpglaaaGreat
namespace Go.Proofs.YtlhaghoajpglaaaGreat
open Go Go.RowKit Go.Maps
theorem nms_len (r:RT):r.nms.length<=2*r.sz:=by
 induction r using RT.ind with
 | h r ih =>
  have:∀ l:List RT,(∀ x∈l,x∈r.ps)->(nmsL l).length<=2*szL l:=by
   intro l;induction l with
   | nil=>intro _;simp[nmsL]
   | cons x l ihl =>
    intro hx;rw[nmsL,szL,List.length_append];have h1:=ih x (hx x (by simp));have h2:=ihl fun y hy=>hx y (List.mem_cons_of_mem _ hy);omega
  have h:=this r.ps fun _ h=>h;rw[RT.nms_eq,List.length_cons,List.length_cons];obtain⟨k,a,b,ps⟩:=r;rw[RT.sz];simp only[RT.ps]at h ⊢;omega
theorem nms_ok (r:RT)(h:r.Ok):∀ n∈r.nms,n.size<=maxLen:=by
 induction r using RT.ind with
 | h r ih =>
  obtain⟨k,a,b,ps⟩:=r;rw[RT.Ok]at h;intro n hn;rw[RT.nms_eq]at hn;simp only[RT.a,RT.b,RT.ps,List.mem_cons]at hn;rcases hn with rfl | rfl | hn
  ·exact Nat.le_trans h.2.1 (by decide)
  ·exact Nat.le_trans h.2.2.1 (by decide)
  ·have hp:=okL_mem.1 h.2.2.2
   have:∀ l:List RT,(∀ x∈l,x∈ps)->∀ n∈nmsL l,n.size<=maxLen:=by
    intro l;induction l with
    | nil=>intro _ n hn;simp[nmsL]at hn
    | cons x l ihl =>
     intro hx n hn;rw[nmsL,List.mem_append]at hn;rcases hn with hn | hn
     ·exact ih x (hx x (by simp)) (hp x (hx x (by simp))) n hn
     ·exact ihl (fun y hy=>hx y (List.mem_cons_of_mem _ hy)) n hn
   exact this ps (fun _ h=>h) n hn
def allN (ts:List TyS):List ByteArray:=(refsOf ts).flatMap fun x=>x.2.nms
theorem allN_mem (ts:List TyS):NmU ts (allN ts):=fun x hx _n hn=>List.mem_flatMap.2 ⟨x,hx,hn⟩
theorem flatN_len {α β:Type} (f:α->List β)(m:Nat):∀ (l:List α),(∀ x∈l,(f x).length<=m)->(l.flatMap f).length<=l.length*m
 | [],_=>by simp
 | a::l,h=>by
  rw[List.flatMap_cons,List.length_append,List.length_cons,Nat.add_mul];have h1:=h a (by simp);have h2:=flatN_len f m l fun x hx=>h x (List.mem_cons_of_mem _ hx);omega
theorem refs_sz {ts:List TyS} (h:longOk ts=true):∀ x∈refsOf ts,x.2.sz<=32:=fun x hx=>by
 obtain⟨t,ht,r,hr,rfl⟩:=refs_mem.1 hx;unfold longOk at h;rw[Bool.and_eq_true,List.all_eq_true]at h;have h2:=h.2 t ht;unfold tyLong at h2;rw[Bool.and_eq_true,List.all_eq_true]at h2;simpa using h2.2 r hr
theorem refs_ok {ts:List TyS} (h:∀ t∈ts,t.Ok):∀ x∈refsOf ts,x.2.Ok:=fun x hx=>by
 obtain⟨t,ht,r,hr,rfl⟩:=refs_mem.1 hx;exact((h t ht).2 r hr).2
def objU (T:List Tup)(p:P3):List (ByteArray × ByteArray):=(p.t,p.i)::T.map fun t=>(t.s.t,t.s.i)
def namU (N:List ByteArray)(T:List Tup)(p:P3):List ByteArray:=p.r::(T.map fun t=>t.s.r)++N
theorem okU (T:List Tup)(p:P3)(N:List ByteArray):OkU T (objU T p) (namU N T p) where
 objs t ht:=List.mem_cons_of_mem _ (List.mem_map.2 ⟨t,ht,rfl⟩)
 rels t ht:=by unfold namU;rw[List.cons_append];exact List.mem_cons_of_mem _ (List.mem_append_left _ (List.mem_map.2 ⟨t,ht,rfl⟩))
theorem inU_walk {ts:List TyS} (T:List Tup)(shut:List R2)(p:P3) {N:List ByteArray} (hN:NmU ts N)(n:Nat):∀ x∈(walkN ts T shut p n).1,InU (objU T p) (namU N T p) x :=
 walkN_in (okU T p N) (fun x hx m hm=>by unfold namU;rw[List.cons_append];exact List.mem_cons_of_mem _ (List.mem_append_right _ (hN x hx m hm))) shut ⟨by simp[objU],by simp[namU]⟩ n
theorem walk_few {ts:List TyS} (T:List Tup)(shut:List R2)(p:P3) {N:List ByteArray} (hN:NmU ts N)(n:Nat):(walkN ts T shut p n).1.length<=(T.length+1)*(T.length+N.length+1):=by
 have h:=inU_few (walkN_nodup ts T shut p n) (inU_walk T shut p hN n);simp only[objU,namU,List.length_cons,List.length_append,List.length_map]at h;rwa[show T.length+1+N.length=T.length+N.length+1 by omega]at h
theorem walkIn_chk {ts:List TyS} {T:List Tup} (shut:List R2) {p:P3} (hc:longOk ts=true)(hok:∀ t∈ts,t.Ok)(hT:T.length<=100)(hTo:∀ t∈T,t.Ok)(hp:p.Ok):WalkIn ts T shut p 2000000 where
 okp n x hx:=by
  have h:=inU_walk T shut p (allN_mem ts) n x hx
  have hN:∀ m∈allN ts,m.size<=maxLen:=fun m hm=>by
   obtain⟨y,hy,hm⟩:=List.mem_flatMap.1 hm;exact nms_ok _ (refs_ok hok y hy) m hm
  obtain⟨h1,h2⟩:=h
  have hO:x.t.size<=maxLen/\x.i.size<=maxLen:=by
   rcases List.mem_cons.1 h1 with h1 | h1
   ·have e1:=congrArg Prod.fst h1;have e2:=congrArg Prod.snd h1;dsimp only at e1 e2;rw[e1,e2];exact⟨hp.1,hp.2.1⟩
   ·obtain⟨t,ht,e⟩:=List.mem_map.1 h1;have h3:=(hTo t ht).2;have e1:=congrArg Prod.fst e;have e2:=congrArg Prod.snd e;dsimp only at e1 e2;rw[<- e1,<- e2];exact⟨h3.1,h3.2.1⟩
  refine⟨hO.1,hO.2,?_⟩;unfold namU at h2;rw[List.cons_append,List.mem_cons,List.mem_append]at h2;rcases h2 with h2 | h2 | h2
  ·rw[h2];exact hp.2.2
  ·obtain⟨t,ht,e⟩:=List.mem_map.1 h2;rw[<- e];exact(hTo t ht).2.2.2
  ·exact hN _ h2
 few n:=by
  have h:=walk_few T shut p (allN_mem ts) n
  have h2:(allN ts).length<=256*64:=by
   have h3:=flatN_len (fun x:R2 × RT=>x.2.nms) 64 (refsOf ts) fun x hx=>by have:=nms_len x.2;have:=refs_sz hc x hx;omega
   have h4:=long_refs hc;unfold allN;exact Nat.le_trans h3 (Nat.mul_le_mul_right _ h4)
  have h5:(T.length+1)*(T.length+(allN ts).length+1)<=101*(100+256*64+1):=Nat.mul_le_mul (by omega) (by omega);omega
 room x hx:=by
  have h1:=refs_sz hc x hx;have h2:x.2.sz*(T.length+1)<=32*101:=Nat.mul_le_mul h1 (by omega);omega
 nmax:=by omega
 rok:=refs_ok hok
 tok t ht:=(hTo t ht).2
 tlen:=by omega
theorem GoodR.nms {own:List ByteArray} (ho:∀ n∈own,n∈relNs):∀ (d:Nat)(r:RT),GoodR own d r->∀ n∈r.nms,n=⟨#[]⟩\/n∈relNs:=by
 have leaf:∀ r:RT,LeafR own r->∀ n∈r.nms,n=⟨#[]⟩\/n∈relNs:=fun r h n hn=>by
  rcases h with rfl | ⟨a,ha,rfl⟩ | ⟨a,ha,b,hb,rfl⟩ <;> rw[RT.nms_eq]at hn <;> simp only[RT.a,RT.b,RT.ps,nmsL,List.mem_cons,List.not_mem_nil,or_false]at hn
  ·rcases hn with rfl | rfl <;> exact .inl rfl
  ·rcases hn with rfl | rfl
   ·exact .inr (ho _ ha)
   ·exact .inl rfl
  ·rcases hn with rfl | rfl
   ·exact .inr (ho _ ha)
   ·exact .inr (List.mem_of_mem_take hb)
 intro d;induction d with
 | zero=>exact fun r h=>leaf r h
 | succ d ih =>
  intro r h n hn;rcases h with h | ⟨k,ps,rfl,-,-,hp⟩
  ·exact leaf r h n hn
  ·rw[RT.nms_eq]at hn;simp only[RT.a,RT.b,RT.ps,List.mem_cons]at hn;rcases hn with rfl | rfl | hn
   ·exact .inl rfl
   ·exact .inl rfl
   ·have:∀ l:List RT,(∀ x∈l,x∈ps)->∀ n∈nmsL l,n=⟨#[]⟩\/n∈relNs:=by
     intro l;induction l with
     | nil=>intro _ n hn;simp[nmsL]at hn
     | cons x l ihl =>
      intro hx n hn;rw[nmsL,List.mem_append]at hn;rcases hn with hn | hn
      ·exact ih x (hp x (hx x (by simp))).1 n hn
      ·exact ihl (fun y hy=>hx y (List.mem_cons_of_mem _ hy)) n hn
    exact this ps (fun _ h=>h) n hn
def fewN:List ByteArray:=⟨#[]⟩::relNs
theorem GoodS.nms {ts:List TyS} (h:GoodS ts):NmU ts fewN:=fun x hx n hn=>by
 obtain⟨t,ht,r,hr,rfl⟩:=refs_mem.1 hx;obtain⟨m,-,-,-,hp⟩:=h.2.2 t ht;have ho:∀ n∈relNs.take m,n∈relNs:=fun n hn=>List.mem_of_mem_take hn
 have key:n=⟨#[]⟩\/n∈relNs:=by
  rcases hp r hr with h | ⟨r0,h0,-,he⟩
  ·exact GoodR.nms ho 2 _ h n hn
  ·dsimp only at hn;rw[he,RT.nms_eq]at hn;simp only[RT.a,RT.b,RT.ps,nmsL,List.mem_cons,List.mem_append,List.not_mem_nil,or_false]at hn;rcases hn with rfl | rfl | hn | hn
   ·exact .inl rfl
   ·exact .inl rfl
   ·rw[RT.nms_eq]at hn;simp only[RT.a,RT.b,RT.ps,nmsL,List.mem_cons,List.not_mem_nil,or_false]at hn;rcases hn with rfl | rfl <;> exact .inl rfl
   ·exact GoodR.nms ho 2 _ h0 n hn
 rcases key with rfl | h
 ·exact List.mem_cons_self
 ·exact List.mem_cons_of_mem _ h
theorem good_few {ts:List TyS} (h:GoodS ts) {T:List Tup} (hT:T.length<=24)(shut:List R2)(p:P3)(n:Nat):(walkN ts T shut p n).1.length<=750:=by
 have h1:=walk_few T shut p h.nms n;have h2:(T.length+1)*(T.length+fewN.length+1)<=25*30:=Nat.mul_le_mul (by omega) (by have:fewN.length=5:=rfl;omega);omega
theorem mkTuple_any (ts:List TyS)(tv:Value)(tp:Nat)(w:World)(htp:Tp w tp)(ht:TysAt (fun b=>b<w.heap.size/\b≠tp) w ts tv)(hok:∀ t∈ts,t.Ok)(hn:1<=ts.length/\ts.length<=1000)(hr:∀ t∈ts,1<=t.rels.length/\t.rels.length<=1000) :
  Calls Tryz.prog 127 #[.pointer (some ⟨tp,0,none⟩),.agg #[tv]] w fun e w'=>∃ t:Tup,e = .returned (tV t)/\t.Ok/\Tp w' tp/\KT tp w w':=by
 obtain⟨b,off,c,rfl,hrow⟩:=ht.row hok hn.1 hr;exact mkTuple_row ts.length b off c tp w htp hrow hn
theorem tup_eql (a b:Tup)(W:World):(binOp BinOp.eql 67 (tV a) (tV b)).run Tryz.prog W = .ok (.bool (decide (a=b))) W:=by
 obtain⟨⟨a1,a2,a3⟩,⟨a4,a5,a6⟩⟩:=a;obtain⟨⟨b1,b2,b3⟩,⟨b4,b5,b6⟩⟩:=b;unfold tV;dsimp only;go_simp;simp only[ba_toList];by_cases h1:a1=b1
 ·by_cases h2:a2=b2
  ·by_cases h3:a3=b3
   ·by_cases h4:a4=b4
    ·by_cases h5:a5=b5
     ·by_cases h6:a6=b6 <;> simp[h1,h2,h3,h4,h5,h6]
     ·simp[h1,h2,h3,h4,h5]
    ·simp[h1,h2,h3,h4]
   ·simp[h1,h2,h3]
  ·simp[h1,h2]
 ·simp[h1]
theorem mkTuplesC_any (ts:List TyS)(tv:Value)(most tp:Nat)(w:World)(htp:Tp w tp)(ht:TysAt (fun b=>b<w.heap.size/\b≠tp) w ts tv)(hok:∀ t∈ts,t.Ok)(hu:uniqOk ts=true)(hn:1<=ts.length/\ts.length<=1000)(hr:∀ t∈ts,1<=t.rels.length/\t.rels.length<=1000)(hm:most<=1000) :
  Calls Tryz.prog 73 #[.pointer (some ⟨tp,0,none⟩),.agg #[tv],.int .i64 most] w fun e w'=>∃ (v:Value) (l:List Tup),e = .returned v/\Sl (fun b=>w.heap.size<=b/\b<w'.heap.size) w' 6 v (tuCs l)/\(∀ t∈l,t.Ok/\wrN ts t=0)/\l.length<=most/\Tp w' tp/\KT tp w w':=by
 obtain⟨aot,ct,rfl,-,-,-⟩:=ht.rows;have HTY:=h! ht;have HOK:=h! hok;have HU:=h! hu;have HN:=h! hn;have HR:=h! hr;have HM:=h! hm;have HLT:=h! htp.lt;obtain⟨wa,hwa⟩:∃ x,x=w.alloc (.cells #[.slice aot ts.length ct] 26):=⟨_,rfl⟩;have xa:Ext w wa:=by rw[hwa];exact Ext.alloc _ _
 have HSB:=h! (show Blk wa w.heap.size #[.slice aot ts.length ct] 26 from by rw[hwa];exact Blk.made _ _ _);have HTA:=h! (htp.ext xa);have HKA:=h! (KT.of (tp:=tp) xa);have HNX:=h! (next_any tp ((most:Int)+1) wa HTA.out (by omega) (by omega));have hm1:wrap64 ((most:Int)+1)=(most:Int)+1:=wrap_in _ (by omega) (by omega);have hm2:IntKind.i64.wrap ((most:Int)+1)=(most:Int)+1:=IntWalk.i64_in _ (by omega);clear ht hok hu hn hr hm htp xa;subst hwa;go_enter Tryz.func73,Tryz.ntmps73
 go_wp2_with fail
 refine HNX.out.mono ?_;rintro e w1 ⟨k,rfl,hk,ht1,hk1⟩;have HT1:=h! ht1;have HK1:=h! (KT.trans HKA.out hk1);have HB1:=h! (hk1.blk HSB.out (by have:=HLT.out;omega));have HKM:=h! (show k<=most from by omega);clear ht1 hk1 hk hm1 hm2 HNX HTA HKA HSB;go_wp2_with fail
 go_loopw [7,8] (fun ov iv wr=>∃ (l:List Tup) (i:Nat),iv = .int .i64 i/\l.length+i<=most/\Own wr (w.heap.size+1) 67 6 ov (tuCs l)/\(∀ t∈l,t.Ok/\wrN ts t=0)/\Blk wr w.heap.size #[.slice aot ts.length ct] 26/\Tp wr tp/\KT tp w wr) (fun _ iv _=>(intOf iv).toNat)
 case atStart=>exact⟨[],k,rfl,by have:=HKM.out;simp;omega,Own.nil _ _ _ _,by simp,HB1.out,HT1.out,HK1.out⟩
 case round =>
  obtain⟨l,i,rfl,hli,how,hlo,hbs,htr,hkr⟩:=hrel;clear HT1 HK1 HB1 HKM;have HLI:=h! hli;have HOW:=h! how;have HLO:=h! hlo;have HB:=h! hbs;have HT:=h! htr;have HK:=h! hkr;have hsb:=hbs.cells;clear hli how hlo hbs htr hkr;cases i with
  | zero =>
   have h0:¬ ((0:Int)<((0:Nat):Int)):=by omega
   go_wp2_with fail
   go_ret
   exact⟨_,rfl,l,HOW.out.sl.mono fun b hb=>⟨by have:=hb.1;omega,hb.2⟩,HLO.out,by have:=HLI.out;omega,HT.out,HK.out⟩
  | succ i =>
   have h0:(0:Int)<((i+1:Nat):Int):=by omega
   have HTU:=h! (mkTuple_any ts _ tp wr HT.out ((HTY.out.same (KT.same HK.out fun b hb=>hb)).mono fun b hb=>⟨Nat.lt_of_lt_of_le hb.1 HK.out.size,hb.2⟩) HOK.out HN.out HR.out);go_wp2_with fail
   refine HTU.out.mono ?_;rintro e w2 ⟨t,rfl,hto,ht2,hk2⟩;obtain⟨⟨t0,t1,t2⟩,⟨t3,t4,t5⟩⟩:=t;unfold tV;dsimp only;have x3:=Ext.alloc w2 (.cells #[.string t0,.string t1,.string t2,.string t3,.string t4,.string t5] 67);have HTB:=h! (Blk.made w2 #[.string t0,.string t1,.string t2,.string t3,.string t4,.string t5] 67);have hk3:=KT.trans hk2 (KT.of x3);have HK3:=h! (KT.trans HK.out hk3);have HT3:=h! (ht2.ext x3);have HB3:=h! (hk3.blk HB.out (by have:=HLT.out;omega));have HO3:=h! (Own.keepOwn HOW.out fun g hg=>hk3.block g ⟨(HOW.out.block g hg).2,by have:=(HOW.out.block g hg).1;have:=HLT.out;omega⟩);have HZ3:=h! (show w.heap.size+1<=w2.heap.size from Nat.le_trans HB.out.lt hk2.size);have HTO:=h! hto;have HW:=h! (writes06_any ts _ ⟨⟨t0,t1,t2⟩,⟨t3,t4,t5⟩⟩ _ ((HTY.out.same (KT.same HK3.out fun b hb=>hb)).mono fun b hb=>Nat.lt_of_lt_of_le hb.1 HK3.out.size) HU.out hto);unfold tV at HW;dsimp only at HW;have tb3:=HTB.out.cells;have sb3:=HB3.out.cells;clear hto ht2 hk2 x3 hk3 HTU hsb HOW HB HT HK;generalize hwn:(wrN ts ⟨⟨t0,t1,t2⟩,⟨t3,t4,t5⟩⟩)=wn at *;have HWN:=h! hwn;clear hwn;go_wp2_with fail
   refine HW.out.mono ?_;rintro e w4 ⟨rfl,hb4⟩;have HT4:=h! (HT3.out.ext hb4);have HK4:=h! (KT.trans HK3.out (KT.of hb4));have HB4:=h! (HB3.out.below hb4);have HO4:=h! (HO3.out.below hb4);have HTB4:=h! (HTB.out.below hb4);have HZ4:=h! (show w.heap.size+1<=w4.heap.size from by have:=HZ3.out;have:=HTB4.out.lt;omega);clear hb4 HW tb3 sb3 HT3 HK3 HB3 HO3 HTB;obtain⟨aoo,co,rfl,hoc,hom,hor⟩:=tups_rows HO4.out.sl;have HOR:=h! hor;clear hor;generalize w2.heap.size=tb at *;go_wp2_with fail
   go_loopw [10,30] (fun av jv wq=>∃ (j:Nat) (a:Bool),j<=l.length/\jv = .int .i64 j/\av = .bool a/\(a=false->wn=0)/\Ext w4 wq) (fun _ jv _=>l.length-(intOf jv).toNat)
   case atStart=>exact⟨0,_,by omega,rfl,rfl,fun h=>by simpa using h,Ext.refl _⟩
   case round =>
    obtain⟨j,a,hj,rfl,rfl,haz,hext⟩:=hrel;have HAZ:=h! haz;clear haz;have HE:=h! hext;by_cases hjt:j<l.length
    ·obtain⟨b,off,hbo,hb,k0,k1,k2,k3,k4,k5⟩:=HOR.out j hjt;cases hbo;have d0:=hext.cell (a:=⟨b,off+j*6,none⟩) k0;have d1:=hext.cell (a:=⟨b,off+j*6+1,none⟩) k1;have d2:=hext.cell (a:=⟨b,off+j*6+2,none⟩) k2;have d3:=hext.cell (a:=⟨b,off+j*6+3,none⟩) k3;have d4:=hext.cell (a:=⟨b,off+j*6+4,none⟩) k4;have d5:=hext.cell (a:=⟨b,off+j*6+5,none⟩) k5;generalize l[j]=y at *;obtain⟨⟨y0,y1,y2⟩,⟨y3,y4,y5⟩⟩:=y;dsimp only at d0 d1 d2 d3 d4 d5;have x1:=Ext.alloc wr (.cells #[.string y0,.string y1,.string y2,.string y3,.string y4,.string y5] 67);have HE1:=h! (show Ext w4 _ from hext.trans x1);have yb1:=(Blk.made wr #[.string y0,.string y1,.string y2,.string y3,.string y4,.string y5] 67).cells;have tb1:=(HTB4.out.below HE1.out).cells;have heq:=fun W=>tup_eql ⟨⟨t0,t1,t2⟩,⟨t3,t4,t5⟩⟩ ⟨⟨y0,y1,y2⟩,⟨y3,y4,y5⟩⟩ W;unfold tV at heq;dsimp only at heq;generalize decide ((⟨⟨t0,t1,t2⟩,⟨t3,t4,t5⟩⟩:Tup)=⟨⟨y0,y1,y2⟩,⟨y3,y4,y5⟩⟩)=eq at *;clear k0 k1 k2 k3 k4 k5 hext x1;cases a with
     | true =>
      go_wp2_with fail
      go_roundw
      case rel=>exact⟨j+1,_,by omega,by go_num,rfl,fun h=>(by first | exact HAZ.out rfl | cases h),HE1.out⟩
      case measure=>simp[intOf];omega
     | false =>
      go_wp2_with fail
      go_roundw
      case rel=>exact⟨j+1,_,by omega,by go_num,rfl,fun h=>(by first | exact HAZ.out rfl | cases h),HE1.out⟩
      case measure=>simp[intOf];omega
    ·obtain rfl:j=l.length:=by omega
     have HT5:=h! (HT4.out.ext hext);have HK5:=h! (KT.trans HK4.out (KT.of hext));have HB5:=h! (HB4.out.below hext);have HO5:=h! (HO4.out.below hext);have tb5:=(HTB4.out.below hext).cells;have HZ5:=h! (show w.heap.size+1<=wr.heap.size from by have:=HZ4.out;have:=hext.size;omega);have hwi:wrap64 (i:Int)=(i:Int):=wrap_in _ (by omega) (by have:=HLI.out;have:=HM.out;omega);have hwi2:IntKind.i64.wrap (i:Int)=(i:Int):=IntWalk.i64_in _ (by have:=HLI.out;have:=HM.out;omega);clear hext HE HT4 HK4 HB4 HO4;cases a with
     | true =>
      go_wp2_with fail
      go_roundw
      case rel=>exact⟨l,i,by go_num,by have:=HLI.out;omega,HO5.out,HLO.out,HB5.out,HT5.out,HK5.out⟩
      case measure=>simp[intOf]
     | false =>
      go_wp2_with (at_builtin;go_must (refine wpList_own_lit tupT rfl (.tmp 43) (.tmp 45) rfl rfl HO5.out rfl rfl (by simp[Value.oneCell']) (by have:=HLI.out;have:=HM.out;rw[tuCs_length];simp;omega) (by have:=HLI.out;have:=HM.out;rw[tuCs_length];simp;omega) HZ5.out ?_;intro v6 w6 hown6 hb6 hgr6;have HO6:=h! (show Own w6 (w.heap.size+1) 67 6 v6 (tuCs (l++[⟨⟨t0,t1,t2⟩,⟨t3,t4,t5⟩⟩]))from by rw[tuCs_append];exact hown6);have HG6:=h! hb6;clear hown6 hb6 hgr6))
      go_roundw
      case rel=>exact⟨l++[⟨⟨t0,t1,t2⟩,⟨t3,t4,t5⟩⟩],i,by go_num,by have:=HLI.out;simp;omega,HO6.out,fun x hx=>by
       rcases List.mem_append.1 hx with hx | hx
       ·exact HLO.out x hx
       ·rw[List.mem_singleton.1 hx];exact⟨HTO.out,HWN.out.trans (HAZ.out rfl)⟩,HB5.out.same (Same.below HG6.out) (by show w.heap.size<w.heap.size+1;omega),HT5.out.kept (K:=fun b=>b<w.heap.size+1) (Below.kept HG6.out fun b hb=>hb) (fun b hb=>by have:=HLT.out;show b<w.heap.size+1;omega),Kept.trans HK5.out (Below.kept HG6.out fun b (hb:b<w.heap.size/\b≠tp)=>by have:=hb.1;omega)⟩
      case measure=>simp[intOf]
abbrev caseC (tv lv sv:Value) (p s:P3):Array Value:=#[tv,lv,sv,.string p.t,.string p.i,.string p.r,.string s.t,.string s.i,.string s.r]
abbrev p3z:P3:=⟨⟨#[]⟩,⟨#[]⟩,⟨#[]⟩⟩
abbrev KC (tp cb:Nat) (w w':World):Prop:=Kept (fun b=>b<w.heap.size/\b≠tp/\b≠cb) w w'
theorem KC.of {tp cb:Nat} {w w':World} (h:KT tp w w'):KC tp cb w w':=Kept.mono h fun _b hb=>⟨hb.1,hb.2.1⟩
theorem KC.trans {tp cb:Nat} {w w' w'':World} (h:KC tp cb w w')(k:KC tp cb w' w''):KC tp cb w w'':=Kept.trans h (Kept.mono k fun _b hb=>⟨Nat.lt_of_lt_of_le hb.1 h.size,hb.2⟩)
theorem KC.set {tp cb i:Nat} {w w':World} (h:KC tp cb w w')(v:Value):KC tp cb w (w'.setCell ⟨cb,i,none⟩ v):=Kept.set h (a:=⟨cb,i,none⟩) (fun e=>e.2.2 rfl) v
structure CaseAt (w0 W:World)(tp cb lo:Nat)(ts:List TyS)(tv lv sv:Value)(l:List Tup)(shut:List R2)(p s:P3):Prop where
 K:KC tp cb w0 W
 T:Tp W tp
 B:Blk W cb (caseC tv lv sv p s) 37
 Y:TysAt (fun b=>lo<=b/\b<W.heap.size/\b≠tp/\b≠cb) W ts tv
 L:Sl (fun b=>lo<=b/\b<W.heap.size/\b≠tp/\b≠cb) W 6 lv (tuCs l)
 V:Sl (fun b=>lo<=b/\b<W.heap.size/\b≠tp/\b≠cb) W 2 sv (shut.flatMap r2C)
theorem CaseAt.step {w0 W W':World} {tp cb lo:Nat} {ts:List TyS} {tv lv sv:Value} {l:List Tup} {shut:List R2} {p s:P3} (h:CaseAt w0 W tp cb lo ts tv lv sv l shut p s)(hk:KT tp W W')(ht:Tp W' tp)(hc:cb≠tp):CaseAt w0 W' tp cb lo ts tv lv sv l shut p s:=by
 have hs:Same (fun b=>lo<=b/\b<W.heap.size/\b≠tp/\b≠cb) W W':=fun b hb=>hk.block b ⟨hb.2.1,hb.2.2.1⟩;have hm:∀ b,(lo<=b/\b<W.heap.size/\b≠tp/\b≠cb)->(lo<=b/\b<W'.heap.size/\b≠tp/\b≠cb):=fun b hb=>⟨hb.1,Nat.lt_of_lt_of_le hb.2.1 hk.size,hb.2.2⟩;exact⟨h.K.trans (KC.of hk),ht,hk.blk h.B hc,(h.Y.same hs).mono hm,(h.L.same hs).mono hm,(h.V.same hs).mono hm⟩
theorem CaseAt.keep {w0 W W':World} {tp cb lo:Nat} {ts:List TyS} {tv lv sv lv' sv':Value} {l:List Tup} {shut:List R2} {p s p' s':P3} (h:CaseAt w0 W tp cb lo ts tv lv sv l shut p s)(hk:Kept (fun b=>b≠cb) W W')(hb:Blk W' cb (caseC tv lv' sv' p' s') 37)(ht:Tp W' tp)
  (hl:lv'=lv) (hv:sv'=sv):CaseAt w0 W' tp cb lo ts tv lv' sv' l shut p' s':=by
 subst hl hv;have hs:Same (fun b=>lo<=b/\b<W.heap.size/\b≠tp/\b≠cb) W W':=fun b hb=>hk.block b hb.2.2.2;have hm:∀ b,(lo<=b/\b<W.heap.size/\b≠tp/\b≠cb)->(lo<=b/\b<W'.heap.size/\b≠tp/\b≠cb):=fun b hb=>⟨hb.1,Nat.lt_of_lt_of_le hb.2.1 hk.size,hb.2.2⟩;exact⟨Kept.trans h.K (Kept.mono hk fun b hb=>hb.2.2),ht,hb,(h.Y.same hs).mono hm,(h.L.same hs).mono hm,(h.V.same hs).mono hm⟩
theorem mkOne_any (tp:Nat)(w:World)(htp:Tp w tp):Calls Tryz.prog 18 #[.pointer (some ⟨tp,0,none⟩)] w fun e w'=>∃ (ts:List TyS)(tv lv sv:Value)(l:List Tup)(shut:List R2)(p s:P3),
  e = .returned (.agg (caseC tv lv sv p s))/\GoodS ts/\TysAt (fun b=>w.heap.size<=b/\b<w'.heap.size) w' ts tv/\Sl (fun b=>w.heap.size<=b/\b<w'.heap.size) w' 6 lv (tuCs l)/\Sl (fun b=>w.heap.size<=b/\b<w'.heap.size) w' 2 sv (shut.flatMap r2C) /\
  (∀ t∈l,t.Ok/\wrN ts t=0)/\l.length<=24/\(∀ r∈shut,r.Ok)/\shut.length<=1/\p.Ok/\s.Ok/\KT tp w w':=by
 have HL0:=h! htp.lt;obtain⟨w1,hw1⟩:∃ x,x=w.alloc (.cells (caseC (.slice none 0 0) (.slice none 0 0) (.slice none 0 0) p3z p3z) 37):=⟨_,rfl⟩;have x1:Ext w w1:=by rw[hw1];exact Ext.alloc _ _
 have HRB:=h! (show Blk w1 w.heap.size (caseC (.slice none 0 0) (.slice none 0 0) (.slice none 0 0) p3z p3z) 37 from by rw[hw1];exact Blk.made _ _ _);have HT1:=h! (htp.ext x1);have HMK:=h! (mkSchema_any tp w1 HT1.out);have HK1:=h! (show KT tp w w1 from KT.of x1);clear htp x1;go_enter Tryz.func18,Tryz.ntmps18
 go_wp2_with fail
 try rw[<- hw1]
 clear hw1;refine HMK.out.mono ?_;rintro e w3 ⟨ts,tv,rfl,hgs,hty,ht3,hk3⟩;have HGS:=h! hgs;have HFS:=h! (GoodS.fine hgs);obtain⟨aot,ct,rfl,-,-,-⟩:=hty.rows;have x4:=Ext.alloc w3 (.cells (caseC (.slice aot ts.length ct) (.slice none 0 0) (.slice none 0 0) p3z p3z) 37);have HK4:=h! (show KT tp w (w3.alloc (.cells (caseC (.slice aot ts.length ct) (.slice none 0 0) (.slice none 0 0) p3z p3z) 37))from KT.trans HK1.out (KT.trans hk3 (KT.of x4)))
 have HC4:=h! (show CaseAt w1 (w3.alloc (.cells (caseC (.slice aot ts.length ct) (.slice none 0 0) (.slice none 0 0) p3z p3z) 37)) tp w3.heap.size w1.heap.size ts (.slice aot ts.length ct) (.slice none 0 0) (.slice none 0 0) [] [] p3z p3z from
  ⟨KC.of (KT.trans hk3 (KT.of x4)),ht3.ext x4,Blk.made _ _ _,((hty.same fun b hb=>x4.block b hb.2).mono fun b hb=>⟨hb.1,Nat.lt_of_lt_of_le hb.2 x4.size,by have:=HT1.out.lt;have:=hb.1;omega,by have:=hb.2;omega⟩),Sl.nil _ _ _,Sl.nil _ _ _⟩)
 have HCB:=h! (show w3.heap.size≠tp/\tp<w1.heap.size/\w1.heap.size<=w3.heap.size/\w.heap.size<w1.heap.size from⟨by have:=ht3.lt;omega,HT1.out.lt,hk3.size,HRB.out.lt⟩);have cb4:=HC4.out.B.cells;clear hgs hty ht3 hk3 x4 HMK HT1;go_wp2_with fail
 obtain⟨w4,hw4⟩:∃ x,x=w3.alloc (.cells (caseC (.slice aot ts.length ct) (.slice none 0 0) (.slice none 0 0) p3z p3z) 37):=⟨_,rfl⟩;try rw[<- hw4]at HC4 HK4 cb4 ⊢
 clear hw4 cb4;generalize w3.heap.size=cb at *;obtain⟨bt,ot,ctt,htv,hrow⟩:=(HC4.out.Y.mono (S':=fun b=>b<w4.heap.size/\b≠tp) fun b hb=>⟨hb.2.1,hb.2.2.1⟩).row HFS.out.ok (by have:=HFS.out.two;omega) (fun t ht=>by have:=HFS.out.rels t ht;omega);cases htv;refine(mkShut_row ts.length bt ot ct tp w4 HC4.out.T hrow (by have:=HFS.out.two;omega)).mono ?_;rintro e w5 ⟨sv,shut,rfl,hsv,hsho,hshl,ht5,hk5⟩;have HC5:=h! (HC4.out.step hk5 ht5 HCB.out.1);have HK5:=h! (KT.trans HK4.out hk5);have HSH:=h! (And.intro hsho hshl);obtain⟨so,sm,sc,rfl,-⟩:=hsv.len;have cb5:=HC5.out.B.cells;have fb5:=HC5.out.B.free;have hcb4:cb<w4.heap.size:=HC4.out.B.lt
 have HC6:=h! (show CaseAt w1 (w5.setCell ⟨cb,2,none⟩ (.slice so sm sc)) tp cb w1.heap.size ts (.slice (some ⟨bt,ot,none⟩) ts.length ct) (.slice none 0 0) (.slice so sm sc) [] shut p3z p3z from
  ⟨KC.set (HC5.out.K) _,ht5.kept (K:=fun b=>b≠cb) (Kept.set (Kept.refl _ _) (a:=⟨cb,2,none⟩) (fun e=>e rfl) _) (fun b hb=>by have:=HCB.out;omega),(Blk.set_to (cs':=#[.slice (some ⟨bt,ot,none⟩) ts.length ct,.slice none 0 0,.slice so sm sc,.string ⟨#[]⟩,.string ⟨#[]⟩,.string ⟨#[]⟩,.string ⟨#[]⟩,.string ⟨#[]⟩,.string ⟨#[]⟩]) HC5.out.B 2 (.slice so sm sc) rfl),
   ((HC5.out.Y.same fun b hb=>Below.heap_setCell _ _ _ _ hb.2.2.2).mono fun b hb=>⟨hb.1,by simpa using hb.2.1,hb.2.2⟩),Sl.nil _ _ _,
   ((hsv.same fun b hb=>Below.heap_setCell _ _ _ _ (by have:=hb.1;show b≠cb;omega)).mono fun b hb=>⟨by have h1:=hb.1;have h2:=HC4.out.K.size;omega,by simpa using hb.2,by have:=hb.1;have:=HCB.out;omega,by have:=hb.1;omega⟩)⟩)
 have HK6:=h! (show KT tp w (w5.setCell ⟨cb,2,none⟩ (.slice so sm sc))from Kept.set HK5.out (a:=⟨cb,2,none⟩) (fun e=>by have:=e.1;have:=HCB.out;dsimp only at *;omega) _);clear hsv hsho hshl ht5 hk5 hcb4 HC4 HK4 HK5 hrow;go_wp2_with fail
 clear cb5 fb5 HC5;obtain⟨w6,hw6⟩:∃ x,x=(w5.setCell ⟨cb,2,none⟩ (.slice so sm sc)):=⟨_,rfl⟩;rw[<- hw6]at HC6 HK6;try rw[<- hw6]
 clear hw6;have cb6:=HC6.out.B.cells;go_wp2_with fail
 clear cb6;obtain⟨bt6,ot6,ctt6,htv6,hrow⟩:=(HC6.out.Y.mono (S':=fun b=>b<w6.heap.size/\b≠tp) fun b hb=>⟨hb.2.1,hb.2.2.1⟩).row HFS.out.ok (by have:=HFS.out.two;omega) (fun t ht=>by have:=HFS.out.rels t ht;omega);cases htv6;refine(mkPoint_row ts.length bt ot ct tp w6 HC6.out.T hrow (by have:=HFS.out.two;omega)).mono ?_;rintro e w7 ⟨p,rfl,hpo,ht7,hk7⟩;unfold pV;have HC7:=h! (HC6.out.step hk7 ht7 HCB.out.1);have HK7:=h! (KT.trans HK6.out hk7);have HOp:=h! hpo;have cb7:=HC7.out.B.cells;have fb7:=HC7.out.B.free
 have HC8:=h! (show CaseAt w1 (((w7.setCell ⟨cb,3,none⟩ (.string p.t)).setCell ⟨cb,4,none⟩ (.string p.i)).setCell ⟨cb,5,none⟩ (.string p.r)) tp cb w1.heap.size ts (.slice (some ⟨bt,ot,none⟩) ts.length ct) (.slice none 0 0) (.slice so sm sc) [] shut p p3z from
  HC7.out.keep (W':=(((w7.setCell ⟨cb,3,none⟩ (.string p.t)).setCell ⟨cb,4,none⟩ (.string p.i)).setCell ⟨cb,5,none⟩ (.string p.r))) (Kept.set (Kept.set (Kept.set (Kept.refl _ _) (a:=⟨cb,3,none⟩) (fun e=>e rfl) _) (a:=⟨cb,4,none⟩) (fun e=>e rfl) _) (a:=⟨cb,5,none⟩) (fun e=>e rfl) _) ((Blk.set_to (cs':=#[.slice (some ⟨bt,ot,none⟩) ts.length ct,.slice none 0 0,.slice so sm sc,.string p.t,.string p.i,.string p.r,.string ⟨#[]⟩,.string ⟨#[]⟩,.string ⟨#[]⟩]) (Blk.set_to (cs':=#[.slice (some ⟨bt,ot,none⟩) ts.length ct,.slice none 0 0,.slice so sm sc,.string p.t,.string p.i,.string ⟨#[]⟩,.string ⟨#[]⟩,.string ⟨#[]⟩,.string ⟨#[]⟩]) (Blk.set_to (cs':=#[.slice (some ⟨bt,ot,none⟩) ts.length ct,.slice none 0 0,.slice so sm sc,.string p.t,.string ⟨#[]⟩,.string ⟨#[]⟩,.string ⟨#[]⟩,.string ⟨#[]⟩,.string ⟨#[]⟩]) HC7.out.B 3 (.string p.t) rfl) 4 (.string p.i) rfl) 5 (.string p.r) rfl)) (ht7.kept (K:=fun b=>b≠cb) (Kept.set (Kept.set (Kept.set (Kept.refl _ _) (a:=⟨cb,3,none⟩) (fun e=>e rfl) _) (a:=⟨cb,4,none⟩) (fun e=>e rfl) _) (a:=⟨cb,5,none⟩) (fun e=>e rfl) _) (fun b hb=>by have:=HCB.out;omega)) rfl rfl)
 have HK8:=h! (show KT tp w (((w7.setCell ⟨cb,3,none⟩ (.string p.t)).setCell ⟨cb,4,none⟩ (.string p.i)).setCell ⟨cb,5,none⟩ (.string p.r))from Kept.set (Kept.set (Kept.set (HK7.out) (a:=⟨cb,3,none⟩) (fun e=>by have:=e.1;have:=HCB.out;dsimp only at *;omega) _) (a:=⟨cb,4,none⟩) (fun e=>by have:=e.1;have:=HCB.out;dsimp only at *;omega) _) (a:=⟨cb,5,none⟩) (fun e=>by have:=e.1;have:=HCB.out;dsimp only at *;omega) _);clear ht7 hk7 hpo HC6 HK6 HK7 hrow;go_wp2_with fail
 clear cb7 fb7 HC7;obtain⟨w8,hw8⟩:∃ x,x=(((w7.setCell ⟨cb,3,none⟩ (.string p.t)).setCell ⟨cb,4,none⟩ (.string p.i)).setCell ⟨cb,5,none⟩ (.string p.r)):=⟨_,rfl⟩;rw[<- hw8]at HC8 HK8;try rw[<- hw8]
 clear hw8;have cb8:=HC8.out.B.cells;go_wp2_with fail
 clear cb8;obtain⟨bt8,ot8,ctt8,htv8,hrow⟩:=(HC8.out.Y.mono (S':=fun b=>b<w8.heap.size/\b≠tp) fun b hb=>⟨hb.2.1,hb.2.2.1⟩).row HFS.out.ok (by have:=HFS.out.two;omega) (fun t ht=>by have:=HFS.out.rels t ht;omega);cases htv8;refine(mkSub_row ts.length bt ot ct tp w8 HC8.out.T hrow (by have:=HFS.out.two;omega)).mono ?_;rintro e w9 ⟨s,rfl,hso,ht7,hk7⟩;unfold pV;have HC7:=h! (HC8.out.step hk7 ht7 HCB.out.1);have HK7:=h! (KT.trans HK8.out hk7);have HOs:=h! hso;have cb7:=HC7.out.B.cells;have fb7:=HC7.out.B.free
 have HC10:=h! (show CaseAt w1 (((w9.setCell ⟨cb,6,none⟩ (.string s.t)).setCell ⟨cb,7,none⟩ (.string s.i)).setCell ⟨cb,8,none⟩ (.string s.r)) tp cb w1.heap.size ts (.slice (some ⟨bt,ot,none⟩) ts.length ct) (.slice none 0 0) (.slice so sm sc) [] shut p s from
  HC7.out.keep (W':=(((w9.setCell ⟨cb,6,none⟩ (.string s.t)).setCell ⟨cb,7,none⟩ (.string s.i)).setCell ⟨cb,8,none⟩ (.string s.r))) (Kept.set (Kept.set (Kept.set (Kept.refl _ _) (a:=⟨cb,6,none⟩) (fun e=>e rfl) _) (a:=⟨cb,7,none⟩) (fun e=>e rfl) _) (a:=⟨cb,8,none⟩) (fun e=>e rfl) _) ((Blk.set_to (cs':=#[.slice (some ⟨bt,ot,none⟩) ts.length ct,.slice none 0 0,.slice so sm sc,.string p.t,.string p.i,.string p.r,.string s.t,.string s.i,.string s.r]) (Blk.set_to (cs':=#[.slice (some ⟨bt,ot,none⟩) ts.length ct,.slice none 0 0,.slice so sm sc,.string p.t,.string p.i,.string p.r,.string s.t,.string s.i,.string ⟨#[]⟩]) (Blk.set_to (cs':=#[.slice (some ⟨bt,ot,none⟩) ts.length ct,.slice none 0 0,.slice so sm sc,.string p.t,.string p.i,.string p.r,.string s.t,.string ⟨#[]⟩,.string ⟨#[]⟩]) HC7.out.B 6 (.string s.t) rfl) 7 (.string s.i) rfl) 8 (.string s.r) rfl)) (ht7.kept (K:=fun b=>b≠cb) (Kept.set (Kept.set (Kept.set (Kept.refl _ _) (a:=⟨cb,6,none⟩) (fun e=>e rfl) _) (a:=⟨cb,7,none⟩) (fun e=>e rfl) _) (a:=⟨cb,8,none⟩) (fun e=>e rfl) _) (fun b hb=>by have:=HCB.out;omega)) rfl rfl)
 have HK10:=h! (show KT tp w (((w9.setCell ⟨cb,6,none⟩ (.string s.t)).setCell ⟨cb,7,none⟩ (.string s.i)).setCell ⟨cb,8,none⟩ (.string s.r))from Kept.set (Kept.set (Kept.set (HK7.out) (a:=⟨cb,6,none⟩) (fun e=>by have:=e.1;have:=HCB.out;dsimp only at *;omega) _) (a:=⟨cb,7,none⟩) (fun e=>by have:=e.1;have:=HCB.out;dsimp only at *;omega) _) (a:=⟨cb,8,none⟩) (fun e=>by have:=e.1;have:=HCB.out;dsimp only at *;omega) _);clear ht7 hk7 hso HC8 HK8 HK7 hrow;go_wp2_with fail
 clear cb7 fb7 HC7;obtain⟨w10,hw10⟩:∃ x,x=(((w9.setCell ⟨cb,6,none⟩ (.string s.t)).setCell ⟨cb,7,none⟩ (.string s.i)).setCell ⟨cb,8,none⟩ (.string s.r)):=⟨_,rfl⟩;rw[<- hw10]at HC10 HK10;try rw[<- hw10]
 clear hw10;have cb10:=HC10.out.B.cells;go_wp2_with fail
 clear cb10;refine(mkTuplesC_any ts _ 24 tp w10 HC10.out.T (HC10.out.Y.mono (S':=fun b=>b<w10.heap.size/\b≠tp) fun b hb=>⟨hb.2.1,hb.2.2.1⟩) HFS.out.ok (chk_uniq HFS.out.chk) (by have:=HFS.out.two;omega) (fun t ht=>by have:=HFS.out.rels t ht;omega) (by omega)).mono ?_;rintro e w11 ⟨lv,l,rfl,hsl,hlo,hll,ht11,hk11⟩;have HC11:=h! (HC10.out.step hk11 ht11 HCB.out.1);have HK11:=h! (KT.trans HK10.out hk11);have HLO:=h! (And.intro hlo hll);obtain⟨lo,lm,lc,rfl,-⟩:=hsl.len;have cb11:=HC11.out.B.cells;have fb11:=HC11.out.B.free;have hcb10:cb<w10.heap.size:=HC10.out.B.lt
 have HC12:=h! (show CaseAt w1 (w11.setCell ⟨cb,1,none⟩ (.slice lo lm lc)) tp cb w1.heap.size ts (.slice (some ⟨bt,ot,none⟩) ts.length ct) (.slice lo lm lc) (.slice so sm sc) l shut p s from
  ⟨KC.set (HC11.out.K) _,ht11.kept (K:=fun b=>b≠cb) (Kept.set (Kept.refl _ _) (a:=⟨cb,1,none⟩) (fun e=>e rfl) _) (fun b hb=>by have:=HCB.out;omega),(Blk.set_to (cs':=#[.slice (some ⟨bt,ot,none⟩) ts.length ct,.slice lo lm lc,.slice so sm sc,.string p.t,.string p.i,.string p.r,.string s.t,.string s.i,.string s.r]) HC11.out.B 1 (.slice lo lm lc) rfl),
   ((HC11.out.Y.same fun b hb=>Below.heap_setCell _ _ _ _ hb.2.2.2).mono fun b hb=>⟨hb.1,by simpa using hb.2.1,hb.2.2⟩),
   ((hsl.same fun b hb=>Below.heap_setCell _ _ _ _ (by have:=hb.1;show b≠cb;omega)).mono fun b hb=>⟨by have h1:=hb.1;have h2:=HC10.out.K.size;omega,by simpa using hb.2,by have:=hb.1;have:=HCB.out;omega,by have:=hb.1;omega⟩),
   ((HC11.out.V.same fun b hb=>Below.heap_setCell _ _ _ _ hb.2.2.2).mono fun b hb=>⟨hb.1,by simpa using hb.2.1,hb.2.2⟩)⟩)
 have HK12:=h! (show KT tp w (w11.setCell ⟨cb,1,none⟩ (.slice lo lm lc))from Kept.set HK11.out (a:=⟨cb,1,none⟩) (fun e=>by have:=e.1;have:=HCB.out;dsimp only at *;omega) _);clear hsl hlo hll ht11 hk11 hcb10 HC10 HK10 HK11;have HRB12:=h! (show Blk (w11.setCell ⟨cb,1,none⟩ (.slice lo lm lc)) w.heap.size (caseC (.slice none 0 0) (.slice none 0 0) (.slice none 0 0) p3z p3z) 37 from HC12.out.K.blk HRB.out ⟨HRB.out.lt,by have:=HL0.out;omega,by have:=HCB.out;omega⟩);have cb12:=HC12.out.B.cells;obtain⟨w12,hw12⟩:∃ x,x=(w11.setCell ⟨cb,1,none⟩ (.slice lo lm lc)):=⟨_,rfl⟩;rw[<- hw12]at HC12 HK12 HRB12 cb12;have c12:=HRB12.out.cells;have f12:=HRB12.out.free
 have hst:=run_storeCells_cells (P:=Tryz.prog) w.heap.size 0 [.slice (some ⟨bt,ot,none⟩) ts.length ct,.slice lo lm lc,.slice so sm sc,.string p.t,.string p.i,.string p.r,.string s.t,.string s.i,.string s.r] 0 w12 (by
  intro j hj;simp only[List.length_cons,List.length_nil]at hj;match j,hj with
  | 0,_=>rw[show 0+0+0=0 from rfl,c12 0];rfl
  | 1,_=>rw[show 0+0+1=1 from rfl,c12 1];rfl
  | 2,_=>rw[show 0+0+2=2 from rfl,c12 2];rfl
  | 3,_=>rw[show 0+0+3=3 from rfl,c12 3];rfl
  | 4,_=>rw[show 0+0+4=4 from rfl,c12 4];rfl
  | 5,_=>rw[show 0+0+5=5 from rfl,c12 5];rfl
  | 6,_=>rw[show 0+0+6=6 from rfl,c12 6];rfl
  | 7,_=>rw[show 0+0+7=7 from rfl,c12 7];rfl
  | 8,_=>rw[show 0+0+8=8 from rfl,c12 8];rfl) (fun j _=>f12 _) (by simp[Value.oneCell'])
 simp only[Nat.add_zero]at hst
 have hrun:(Instr.storeAt 37 (.pointer (some ⟨w.heap.size,0,none⟩)) (.agg #[.slice (some ⟨bt,ot,none⟩) ts.length ct,.slice lo lm lc,.slice so sm sc,.string p.t,.string p.i,.string p.r,.string s.t,.string s.i,.string s.r])).run Tryz.prog w12 = .ok () (w12.setCells w.heap.size 0 [.slice (some ⟨bt,ot,none⟩) ts.length ct,.slice lo lm lc,.slice so sm sc,.string p.t,.string p.i,.string p.r,.string s.t,.string s.i,.string s.r]):=by
  simp[Instr.storeAt,Instr.sureAddr,storeVar,Value.cells,Tryz.sizeOf37,hst,Result.andThen]
 have hsc:w12.setCells w.heap.size 0 [.slice (some ⟨bt,ot,none⟩) ts.length ct,.slice lo lm lc,.slice so sm sc,.string p.t,.string p.i,.string p.r,.string s.t,.string s.i,.string s.r]=(((((((((w12.setCell ⟨w.heap.size,0,none⟩ (.slice (some ⟨bt,ot,none⟩) ts.length ct)).setCell ⟨w.heap.size,1,none⟩ (.slice lo lm lc)).setCell ⟨w.heap.size,2,none⟩ (.slice so sm sc)).setCell ⟨w.heap.size,3,none⟩ (.string p.t)).setCell ⟨w.heap.size,4,none⟩ (.string p.i)).setCell ⟨w.heap.size,5,none⟩ (.string p.r)).setCell ⟨w.heap.size,6,none⟩ (.string s.t)).setCell ⟨w.heap.size,7,none⟩ (.string s.i)).setCell ⟨w.heap.size,8,none⟩ (.string s.r)):=by simp only[World.setCells,Nat.zero_add,Nat.reduceAdd]
 obtain⟨w13,hw13⟩:∃ y,y=w12.setCells w.heap.size 0 [.slice (some ⟨bt,ot,none⟩) ts.length ct,.slice lo lm lc,.slice so sm sc,.string p.t,.string p.i,.string p.r,.string s.t,.string s.i,.string s.r]:=⟨_,rfl⟩;have HR13:=h! (show Blk w13 w.heap.size #[.slice (some ⟨bt,ot,none⟩) ts.length ct,.slice lo lm lc,.slice so sm sc,.string p.t,.string p.i,.string p.r,.string s.t,.string s.i,.string s.r] 37 from by rw[hw13,hsc];exact(Blk.set_to (cs':=#[.slice (some ⟨bt,ot,none⟩) ts.length ct,.slice lo lm lc,.slice so sm sc,.string p.t,.string p.i,.string p.r,.string s.t,.string s.i,.string s.r]) (Blk.set_to (cs':=#[.slice (some ⟨bt,ot,none⟩) ts.length ct,.slice lo lm lc,.slice so sm sc,.string p.t,.string p.i,.string p.r,.string s.t,.string s.i,.string ⟨#[]⟩]) (Blk.set_to (cs':=#[.slice (some ⟨bt,ot,none⟩) ts.length ct,.slice lo lm lc,.slice so sm sc,.string p.t,.string p.i,.string p.r,.string s.t,.string ⟨#[]⟩,.string ⟨#[]⟩]) (Blk.set_to (cs':=#[.slice (some ⟨bt,ot,none⟩) ts.length ct,.slice lo lm lc,.slice so sm sc,.string p.t,.string p.i,.string p.r,.string ⟨#[]⟩,.string ⟨#[]⟩,.string ⟨#[]⟩]) (Blk.set_to (cs':=#[.slice (some ⟨bt,ot,none⟩) ts.length ct,.slice lo lm lc,.slice so sm sc,.string p.t,.string p.i,.string ⟨#[]⟩,.string ⟨#[]⟩,.string ⟨#[]⟩,.string ⟨#[]⟩]) (Blk.set_to (cs':=#[.slice (some ⟨bt,ot,none⟩) ts.length ct,.slice lo lm lc,.slice so sm sc,.string p.t,.string ⟨#[]⟩,.string ⟨#[]⟩,.string ⟨#[]⟩,.string ⟨#[]⟩,.string ⟨#[]⟩]) (Blk.set_to (cs':=#[.slice (some ⟨bt,ot,none⟩) ts.length ct,.slice lo lm lc,.slice so sm sc,.string ⟨#[]⟩,.string ⟨#[]⟩,.string ⟨#[]⟩,.string ⟨#[]⟩,.string ⟨#[]⟩,.string ⟨#[]⟩]) (Blk.set_to (cs':=#[.slice (some ⟨bt,ot,none⟩) ts.length ct,.slice lo lm lc,.slice none 0 0,.string ⟨#[]⟩,.string ⟨#[]⟩,.string ⟨#[]⟩,.string ⟨#[]⟩,.string ⟨#[]⟩,.string ⟨#[]⟩]) (Blk.set_to (cs':=#[.slice (some ⟨bt,ot,none⟩) ts.length ct,.slice none 0 0,.slice none 0 0,.string ⟨#[]⟩,.string ⟨#[]⟩,.string ⟨#[]⟩,.string ⟨#[]⟩,.string ⟨#[]⟩,.string ⟨#[]⟩]) HRB12.out 0 (.slice (some ⟨bt,ot,none⟩) ts.length ct) rfl) 1 (.slice lo lm lc) rfl) 2 (.slice so sm sc) rfl) 3 (.string p.t) rfl) 4 (.string p.i) rfl) 5 (.string p.r) rfl) 6 (.string s.t) rfl) 7 (.string s.i) rfl) 8 (.string s.r) rfl));have HK13:=h! (show KT tp w w13 from by rw[hw13];exact HK12.out.setMany (g:=w.heap.size) (fun h=>by have:=h.1;omega) _ _);have HZ13:=h! (show w13.heap.size=w12.heap.size from by rw[hw13];exact(setCells_fields _ _ _ _).2.2.2);have HS13:=h! (show ∀ b,b≠w.heap.size->w13.heap[b]?=w12.heap[b]? from fun b hb=>by rw[hw13];exact setCells_other _ _ _ _ hb);rw[<- hw13]at hrun;clear hst hsc hw13 c12 f12 HRB12;rw[hw12]at hrun cb12;go_wp2_with ((with_reducible refine wpList_store (x := .pointer (some ⟨w.heap.size,0,none⟩)) (v := .agg #[.slice (some ⟨bt,ot,none⟩) ts.length ct,.slice lo lm lc,.slice so sm sc,.string p.t,.string p.i,.string p.r,.string s.t,.string s.i,.string s.r]) (w':=w13) ?hA ?hV ?hR ?hK);(case hA=>rfl);(case hV=>rfl);(case hR=>exact hrun);clear hrun cb12)
 refine bodyPost_ret (results_cell_row rfl _ _ w.heap.size 37 #[.slice (some ⟨bt,ot,none⟩) ts.length ct,.slice lo lm lc,.slice so sm sc,.string p.t,.string p.i,.string p.r,.string s.t,.string s.i,.string s.r] (0,0) _ rfl HR13.out Tryz.underlying37 rfl (by kernel_rfl)) rfl ?_;have hm:∀ b,(w1.heap.size<=b/\b<w12.heap.size/\b≠tp/\b≠cb)->(w.heap.size<=b/\b<w13.heap.size):=fun b hb=>by have h1:=hb.1;have h2:=hb.2.1;have h3:=HCB.out;have h4:=HZ13.out;omega
 have hs:Same (fun b=>w1.heap.size<=b/\b<w12.heap.size/\b≠tp/\b≠cb) w12 w13:=fun b hb=>HS13.out b (by have h1:=hb.1;have h3:=HCB.out;omega);exact⟨ts,_,_,_,l,shut,p,s,rfl,HGS.out,(HC12.out.Y.same hs).mono hm,(HC12.out.L.same hs).mono hm,(HC12.out.V.same hs).mono hm,HLO.out.1,HLO.out.2,HSH.out.1,HSH.out.2,HOp.out,HOs.out,HK13.out⟩
theorem ints_at {S:Nat->Prop} {w:World} {ao:Option Addr} {l:List Int} {c:Nat} (h:Sl S w 1 (.slice ao l.length c) (ic l)):∀ i (hi:i<l.length),∃ b off,ao=some ⟨b,off,none⟩/\S b/\w.cell? ⟨b,off+i,none⟩=some (.int .i64 l[i]):=by
 obtain⟨ao',n',c',hv,h1,h2,h3,h4,h5⟩:=h;cases hv;intro i hi;obtain⟨b,off,rfl,hb,hc⟩:=h5 (fun e=>by have:=congrArg List.length e;rw[ic_length]at this;simp only[List.length_nil]at this;omega);exact⟨b,off,rfl,hb,hc i _ (by simp[ic,hi])⟩
theorem indexIF_any (w:World)(ps:List Int)(pv:Value)(g:Nat)(cap:Array Value)(eg:∀ args W,(callFunc g args).run Tryz.prog W = .ok (.enter g args) W)(q:Int->Bool)(hat:Sl (· < w.heap.size) w 1 pv (ic ps))(hf:∀ i (hi:i<ps.length) W,Below w.heap.size w W->Calls Tryz.prog g (#[.int .i64 ps[i]]++cap) W fun e W'=>e = .returned (.bool (q ps[i]))/\Below W.heap.size W W') :
  Calls Tryz.prog 252 #[pv,.func (.func g) #[] cap] w fun e w'=>∃ k:Int,e = .returned (.int .i64 k)/\(0<=k↔ps.any q=true)/\Below w.heap.size w w':=by
 obtain⟨ao,n,c,rfl,hn,hlc,hcm⟩:=hat.len;rw[ic_length,Nat.mul_one]at hn;subst hn;have HC:=h! (ints_at hat);have HF:=h! hf;clear hat hf;go_enter Tryz.func252,Tryz.ntmps252
 go_wp2_with fail
 go_loopw [5,8] (fun _ ii wr=>∃ i:Nat,i<=ps.length/\ii = .int .i64 i/\(∀ j (hj:j<ps.length),j<i->q ps[j]=false)/\Below w.heap.size w wr) (fun _ ii _=>ps.length-(intOf ii).toNat)
 case atStart=>exact⟨0,by omega,rfl,fun _ _ h=>absurd h (by omega),Below.refl _ _⟩
 case round =>
  obtain⟨i,hi,rfl,hall,hbel⟩:=hrel;have HALL:=h! hall;clear hall;by_cases hlt:i<ps.length
  ·have HUP:=h! (fun h=>upto_succ (p:=fun j hj=>q ps[j]=false) HALL.out hlt h);have HAN:=h! (fun(h:q ps[i]=true)=>(show ps.any q=true from List.any_eq_true.2 ⟨_,List.getElem_mem hlt,h⟩));obtain⟨bb,off,hbo,hb,c0⟩:=HC.out i hlt;cases hbo;have d0:=(hbel.cell (p:=⟨bb,off+i,none⟩) hb).trans c0;have HR:=h! (HF.out i hlt wr hbel);clear c0 hb;generalize ps[i]=p at *;have HB:=h! hbel;clear hbel;cases hq:q p with
   | true =>
    rw[hq]at HR;have HT:=h! (HAN.out hq);clear HUP HAN hq;go_wp2_with fail
    refine HR.out.mono ?_;rintro e w5 ⟨rfl,hb5⟩;have HBE:=h! (HB.out.trans (hb5.mono HB.out.size));clear HR hb5 d0;go_wp2_with fail
    go_ret
    exact⟨_,rfl,⟨fun _=>HT.out,fun _=>by omega⟩,HBE.out⟩
   | false =>
    rw[hq]at HR;have HN:=h! (HUP.out hq);clear HUP HAN hq;go_wp2_with fail
    refine HR.out.mono ?_;rintro e w5 ⟨rfl,hb5⟩;have HBE:=h! (HB.out.trans (hb5.mono HB.out.size));clear HR hb5 d0;go_wp2_with fail
    go_roundw
    case rel=>exact⟨i+1,by omega,by go_num,HN.out,HBE.out⟩
    case measure=>simp[intOf];omega
  ·obtain rfl:i=ps.length:=by omega
   have HN:=h! (show ¬ ps.any q=true from fun h=>by
    obtain⟨x,hx,hq⟩:=List.any_eq_true.1 h;obtain⟨j,hj,rfl⟩:=List.getElem_of_mem hx;rw[HALL.out j hj hj]at hq;cases hq)
   have HB:=h! hbel;clear hbel;go_wp2_with fail
   go_ret
   exact⟨_,rfl,⟨fun h=>absurd h (by omega),fun h=>absurd h HN.out⟩,HB.out⟩
theorem containsIF_any (w:World)(ps:List Int)(pv:Value)(g:Nat)(cap:Array Value)(eg:∀ args W,(callFunc g args).run Tryz.prog W = .ok (.enter g args) W)(q:Int->Bool)(hat:Sl (· < w.heap.size) w 1 pv (ic ps))(hf:∀ i (hi:i<ps.length) W,Below w.heap.size w W->Calls Tryz.prog g (#[.int .i64 ps[i]]++cap) W fun e W'=>e = .returned (.bool (q ps[i]))/\Below W.heap.size W W') :
  Calls Tryz.prog 254 #[pv,.func (.func g) #[] cap] w fun e w'=>e = .returned (.bool (ps.any q))/\Below w.heap.size w w':=by
 have HI:=h! (indexIF_any w ps pv g cap eg q hat hf);clear hat hf;go_enter Tryz.func254,Tryz.ntmps254
 go_wp2_with fail
 refine HI.out.mono ?_;rintro e w2 ⟨k,rfl,hk,hb⟩;have HK:=h! hk;have HB:=h! hb;clear HI hk hb;by_cases h0:0<=k
 ·have HM:=h! (HK.out.1 h0);go_wp2_with fail
  go_ret
  exact⟨by rw[HM.out];simp[],HB.out⟩
 ·have HM:=h! (show ps.any q=false from by cases h:ps.any q with | false=>rfl | true=>exact absurd (HK.out.2 h) h0);go_wp2_with fail
  go_ret
  exact⟨by rw[HM.out];simp[h0],HB.out⟩
theorem indexFF_any (w:World)(ps:List FT)(k:Int)(sa:List P3)(sb:List Int)(pv:FV3)(g:Nat)(cap:Array Value)(eg:∀ args W,(callFunc g args).run Tryz.prog W = .ok (.enter g args) W)(q:FT->Bool)(hat:FTAt (· < w.heap.size) w (.mk k sa sb ps) pv)(hf:∀ i (hi:i<ps.length) W pvi,Below w.heap.size w W->FTAt (· < W.heap.size) W ps[i] pvi->Calls Tryz.prog g (#[fV ps[i] pvi]++cap) W fun e W'=>e = .returned (.bool (q ps[i]))/\Below W.heap.size W W') :
  Calls Tryz.prog 219 #[pv.2.2,.func (.func g) #[] cap] w fun e w'=>∃ k:Int,e = .returned (.int .i64 k)/\(0<=k↔ps.any q=true)/\Below w.heap.size w w':=by
 obtain⟨pv1,pv2,pv3⟩:=pv;obtain⟨ao,c,he,hlc,hcm,hcell⟩:=hat.rows;dsimp only[FT.ps]at he hlc hcell ⊢;subst he;have HC:=h! hcell;have HF:=h! hf;clear hat hcell hf;go_enter Tryz.func219,Tryz.ntmps219
 go_wp2_with fail
 go_loopw [5,8] (fun _ ii wr=>∃ i:Nat,i<=ps.length/\ii = .int .i64 i/\(∀ j (hj:j<ps.length),j<i->q ps[j]=false)/\Below w.heap.size w wr) (fun _ ii _=>ps.length-(intOf ii).toNat)
 case atStart=>exact⟨0,by omega,rfl,fun _ _ h=>absurd h (by omega),Below.refl _ _⟩
 case round =>
  obtain⟨i,hi,rfl,hall,hbel⟩:=hrel;have HALL:=h! hall;clear hall;by_cases hlt:i<ps.length
  ·have HUP:=h! (fun h=>upto_succ (p:=fun j hj=>q ps[j]=false) HALL.out hlt h);have HAN:=h! (fun(h:q ps[i]=true)=>(show ps.any q=true from List.any_eq_true.2 ⟨_,List.getElem_mem hlt,h⟩));obtain⟨bb,off,⟨e1,e2,e3⟩,hbo,hb,c0,c1,c2,c3,hat2⟩:=HC.out i hlt;cases hbo;dsimp only at c1 c2 c3;have d0:=(hbel.cell (p:=⟨bb,off+i*4,none⟩) hb).trans c0;have d1:=(hbel.cell (p:=⟨bb,off+i*4+1,none⟩) hb).trans c1;have d2:=(hbel.cell (p:=⟨bb,off+i*4+2,none⟩) hb).trans c2;have d3:=(hbel.cell (p:=⟨bb,off+i*4+3,none⟩) hb).trans c3;have HR:=h! (HF.out i hlt wr (e1,e2,e3) hbel (hat2.up hbel));clear c0 c1 c2 c3 hat2 hb;unfold fV at HR;dsimp only at HR;generalize ps[i]=p at *;have HB:=h! hbel;clear hbel;cases hq:q p with
   | true =>
    rw[hq]at HR;have HT:=h! (HAN.out hq);clear HUP HAN hq;go_wp2_with fail
    refine HR.out.mono ?_;rintro e w5 ⟨rfl,hb5⟩;have HBE:=h! (HB.out.trans (hb5.mono HB.out.size));clear HR hb5 d0 d1 d2 d3;go_wp2_with fail
    go_ret
    exact⟨_,rfl,⟨fun _=>HT.out,fun _=>by omega⟩,HBE.out⟩
   | false =>
    rw[hq]at HR;have HN:=h! (HUP.out hq);clear HUP HAN hq;go_wp2_with fail
    refine HR.out.mono ?_;rintro e w5 ⟨rfl,hb5⟩;have HBE:=h! (HB.out.trans (hb5.mono HB.out.size));clear HR hb5 d0 d1 d2 d3;go_wp2_with fail
    go_roundw
    case rel=>exact⟨i+1,by omega,by go_num,HN.out,HBE.out⟩
    case measure=>simp[intOf];omega
  ·obtain rfl:i=ps.length:=by omega
   have HN:=h! (show ¬ ps.any q=true from fun h=>by
    obtain⟨x,hx,hq⟩:=List.any_eq_true.1 h;obtain⟨j,hj,rfl⟩:=List.getElem_of_mem hx;rw[HALL.out j hj hj]at hq;cases hq)
   have HB:=h! hbel;clear hbel;go_wp2_with fail
   go_ret
   exact⟨_,rfl,⟨fun h=>absurd h (by omega),fun h=>absurd h HN.out⟩,HB.out⟩
theorem containsFF_any (w:World)(ps:List FT)(k:Int)(sa:List P3)(sb:List Int)(pv:FV3)(g:Nat)(cap:Array Value)(eg:∀ args W,(callFunc g args).run Tryz.prog W = .ok (.enter g args) W)(q:FT->Bool)(hat:FTAt (· < w.heap.size) w (.mk k sa sb ps) pv)(hf:∀ i (hi:i<ps.length) W pvi,Below w.heap.size w W->FTAt (· < W.heap.size) W ps[i] pvi->Calls Tryz.prog g (#[fV ps[i] pvi]++cap) W fun e W'=>e = .returned (.bool (q ps[i]))/\Below W.heap.size W W') :
  Calls Tryz.prog 257 #[pv.2.2,.func (.func g) #[] cap] w fun e w'=>e = .returned (.bool (ps.any q))/\Below w.heap.size w w':=by
 have HI:=h! (indexFF_any w ps k sa sb pv g cap eg q hat hf);clear hat hf;go_enter Tryz.func257,Tryz.ntmps257
 go_wp2_with fail
 refine HI.out.mono ?_;rintro e w2 ⟨k,rfl,hk,hb⟩;have HK:=h! hk;have HB:=h! hb;clear HI hk hb;by_cases h0:0<=k
 ·have HM:=h! (HK.out.1 h0);go_wp2_with fail
  go_ret
  exact⟨by rw[HM.out];simp[],HB.out⟩
 ·have HM:=h! (show ps.any q=false from by cases h:ps.any q with | false=>rfl | true=>exact absurd (HK.out.2 h) h0);go_wp2_with fail
  go_ret
  exact⟨by rw[HM.out];simp[h0],HB.out⟩
theorem indexS_any (v:Value)(l:List P3)(k:P3)(w:World)(h:Sl (· < w.heap.size) w 3 v (pcs l)) :
  Calls Tryz.prog 268 #[v,pV k] w fun e w'=>(∃ i:Int,e = .returned (.int .i64 i)/\(0<=i↔k∈l))/\Below w.heap.size w w':=by
 obtain⟨ao,c,rfl,hlc,hcm,hc⟩:=Sl.rows pC_length (by decide) (show Sl (· < w.heap.size) w 3 v (l.flatMap pC)from h);have HC:=h! hc;clear hc h;obtain⟨w2,hw2⟩:∃ x,x=w.alloc (.cells #[.string k.t,.string k.i,.string k.r] 33):=⟨_,rfl⟩;have e2:w2.heap.size=w.heap.size+1:=by rw[hw2];simp
 have KB:=h! (show Blk w2 w.heap.size #[.string k.t,.string k.i,.string k.r] 33 from by rw[hw2];exact Blk.made _ _ _);have X2:=h! (show Ext w w2 from by rw[hw2];exact Ext.alloc _ _);unfold pV;go_enter Tryz.func268,Tryz.ntmps268
 go_wp2_with fail
 rw[<- hw2];clear hw2 e2;go_loopw [5,8] (fun _ iv wr=>∃ i:Nat,i<=l.length/\iv = .int .i64 i/\(∀ j (hj:j<l.length),j<i->l[j]≠k)/\Ext w2 wr) (fun _ iv _=>l.length-(intOf iv).toNat)
 case atStart=>exact⟨0,Nat.zero_le _,rfl,(fun _ _ h=>absurd h (Nat.not_lt_zero _)),Ext.refl _⟩
 case round =>
  obtain⟨i,hi,rfl,hall,hx⟩:=hrel;have HALL:=h! hall;have HX:=h! hx;clear hall hx;by_cases hlt:i<l.length
  ·obtain⟨b,off,rfl,hb,hcl⟩:=HC.out (by omega);have G:=h! (fun W (hW:Ext wr W)=>show ∀ (o:Nat) v,(pC l[i])[o]?=some v->W.cell? ⟨b,off+i*3+o,none⟩=some v from fun o v ho=>(X2.out.trans (HX.out.trans hW)).cell (hcl i hlt o v ho));have hli:(i:Int)<(l.length:Int):=by omega
   have HLT:=h! hlt;have HUP:=h! (fun(h:l[i]≠k)=>upto_succ (p:=fun j hj=>l[j]≠k) HALL.out hlt h);have HMM:=h! (fun(h:l[i]=k)=>(show k∈l from h▸List.getElem_mem hlt));generalize l[i]=x at *;clear hlt hb hcl;go_wp2_with fail
   obtain⟨wd,hwd⟩:∃ z:World,z=World.drew wr:=⟨_,rfl⟩;have DX:=h! (show Ext wr wd from by rw[hwd];exact Ext.drew _);refine r! (Ext wd) (by rw[<- hwd];exact Ext.refl _) ?_;rw[<- hwd];clear hwd;have h0:∀ W,Ext wd W->W.cell? ⟨b,off+i*3,none⟩=some (.string x.t):=fun W h=>G.out W (DX.out.trans h) 0 _ rfl;have h1:=fun W (h:Ext wd W)=>G.out W (DX.out.trans h) 1 _ rfl;have h2:=fun W (h:Ext wd W)=>G.out W (DX.out.trans h) 2 _ rfl;have h3:=fun W (h:Ext wd W)=>(KB.out.below (HX.out.trans (DX.out.trans h))).cells;have h4:=fun W=>sub_eql k x W;unfold pV at h4;have HQ:∃ bq,Hid (decide (k=x)=bq):=⟨_,h! rfl⟩;obtain⟨bq,HQ⟩:=HQ;rw[HQ.out]at h4;(refine WalkN.tk [0,1,2,3,4,5] ?_;(iterate 6 (refine c! ?_));refine TkN.n ?_)
   refine d! ?_;clear h0 h1 h2 h3 h4 hli;cases bq with
   | true =>
    have HM:=h! (HMM.out (of_decide_eq_true HQ.out).symm);have HE:=h! (show Below w.heap.size w wd from X2.out.trans (HX.out.trans DX.out));clear HUP HMM HQ;go_wp2_with fail
    go_ret
    exact⟨⟨_,rfl,⟨fun _=>HM.out,fun _=>by omega⟩⟩,HE.out⟩
   | false =>
    have HN:=h! (HUP.out fun e=>of_decide_eq_false HQ.out e.symm);have HWI:=h! (show wrap64 ((i:Int)+1)=((i+1:Nat):Int)from by have:=HLT.out;unfold wrap64;omega);clear HUP HMM HQ;go_wp2_with fail
    go_roundw
    case rel=>exact⟨i+1,HLT.out,by first | rw[HWI.out] | go_num,HN.out,HX.out.trans DX.out⟩
    case measure=>have:=HLT.out;(try rw[HWI.out]);simp[intOf];omega
  ·obtain rfl:i=l.length:=by omega
   have HN:=h! (show k∉l from fun hk=>by obtain⟨j,hj,e⟩:=List.getElem_of_mem hk;exact HALL.out j hj hj e);have HE:=h! (show Below w.heap.size w wr from X2.out.trans HX.out);go_wp2_with fail
   go_ret
   exact⟨⟨_,rfl,⟨fun h=>absurd h (by decide),fun h=>absurd h HN.out⟩⟩,HE.out⟩
theorem containsS_any (v:Value)(l:List P3)(k:P3)(w:World)(h:Sl (· < w.heap.size) w 3 v (pcs l)) :
  Calls Tryz.prog 216 #[v,pV k] w fun e w'=>e = .returned (.bool (decide (k∈l)))/\Below w.heap.size w w':=by
 obtain⟨w2,hw2⟩:∃ x,x=w.alloc (.cells #[.string k.t,.string k.i,.string k.r] 33):=⟨_,rfl⟩;have KB:=h! (show Blk w2 w.heap.size #[.string k.t,.string k.i,.string k.r] 33 from by rw[hw2];exact Blk.made _ _ _);have X2:=h! (show Ext w w2 from by rw[hw2];exact Ext.alloc _ _);have HI:=h! (indexS_any v l k w2 ((h.same (Same.below X2.out)).mono fun _ h=>Nat.lt_of_lt_of_le h X2.out.size));obtain⟨ao,c,rfl,-⟩:=Sl.rows pC_length (by decide) (show Sl (· < w.heap.size) w 3 v (l.flatMap pC)from h);clear h;unfold pV at HI ⊢;go_enter Tryz.func216,Tryz.ntmps216
 go_wp2_with fail
 rw[<- hw2];clear hw2;have hk:=KB.out.cells;go_wp2_with fail
 refine HI.out.mono ?_;rintro e w1 ⟨⟨i,rfl,hi⟩,hb⟩;have HB:=h! (show Below w.heap.size w w1 from Ext.trans X2.out hb);clear hk hb;by_cases hk:k∈l
 ·have h0:=hi.2 hk;clear hi;go_wp2_with fail
  go_ret
  exact⟨by rw[decide_eq_true hk];simp[],HB.out⟩
 ·have h0:¬ (0<=i):=fun h=>hk (hi.1 h);have hd:decide (0<=i)=false:=decide_eq_false h0;clear hi h0;go_wp2_with fail
  go_ret
  exact⟨by rw[decide_eq_false hk];rfl,HB.out⟩
end Go.Proofs.YtlhaghoajpglaaaGreat
namespace Go.Proofs.YtlhaghoajpglaaaGreat
open Go Go.RowKit
def inAt (l:List Bool)(k:Int):Bool:=decide (0<=k)&&l.getD k.toNat false
mutual
def holdF (s:P3)(l:List Bool):FT->Bool
 | .mk k subs refs ps=>if k=1 then decide (s∈subs)||refs.any (inAt l)else if k=2\/k=3 then refs.any (inAt l)else if k=4 then anyF s l ps else if k=5 then allF s l ps else false
def anyF (s:P3)(l:List Bool):List FT->Bool | []=>false | r::rs=>holdF s l r||anyF s l rs
def allF (s:P3)(l:List Bool):List FT->Bool | []=>true | r::rs=>holdF s l r&&allF s l rs
end
theorem anyF_eq (s:P3)(l:List Bool):∀ ps,anyF s l ps=ps.any (holdF s l)
 | []=>rfl
 | r::rs=>by rw[anyF,anyF_eq s l rs,List.any_cons]
theorem allF_eq (s:P3)(l:List Bool):∀ ps,allF s l ps=ps.all (holdF s l)
 | []=>rfl
 | r::rs=>by rw[allF,allF_eq s l rs,List.all_cons]
theorem holdF_eq (s:P3)(l:List Bool)(f:FT):holdF s l f=if f.k=1 then decide (s∈f.subs)||f.refs.any (inAt l)else if f.k=2\/f.k=3 then f.refs.any (inAt l)else if f.k=4 then f.ps.any (holdF s l)else if f.k=5 then f.ps.all (holdF s l)else false:=by
 obtain⟨k,a,b,ps⟩:=f;rw[holdF,anyF_eq,allF_eq];rfl
theorem holdF_mk (s:P3)(l:List Bool)(k:Int)(subs:List P3)(refs:List Int)(ps:List FT):holdF s l (.mk k subs refs ps)=if k=1 then decide (s∈subs)||refs.any (inAt l)else if k=2\/k=3 then refs.any (inAt l)else if k=4 then ps.any (holdF s l)else if k=5 then ps.all (holdF s l)else false:=by
 rw[holdF,anyF_eq,allF_eq]
mutual
def FT.named:FT->List Int | .mk _ _ refs ps=>refs++nmdL ps
def nmdL:List FT->List Int | [] => [] | r::rs=>r.named++nmdL rs
end
theorem FT.named_eq (f:FT):f.named=f.refs++nmdL f.ps:=by
 obtain⟨k,a,b,ps⟩:=f;rw[FT.named];rfl
theorem nmdL_mem {f:FT} {k:Int} (hk:k∈f.named):∀ {l:List FT},f∈l->k∈nmdL l
 | x::l,h=>by
  rw[nmdL,List.mem_append];rcases List.mem_cons.1 h with rfl | h
  ·exact .inl hk
  ·exact .inr (nmdL_mem hk h)
theorem nmdL_append:∀ (a b:List FT),nmdL (a++b)=nmdL a++nmdL b
 | [],_=>rfl
 | x::a,b=>by rw[List.cons_append,nmdL,nmdL,nmdL_append a b,List.append_assoc]
theorem nmdL_take {l:List FT} {i:Nat} (h:i<l.length):nmdL (l.take (i+1))=nmdL (l.take i)++l[i].named:=by
 rw[List.take_succ_eq_append_getElem h,nmdL_append];simp[nmdL]
theorem holdF_congr (s:P3)(l m:List Bool)(f:FT):(∀ k∈f.named,inAt l k=inAt m k)->holdF s l f=holdF s m f:=by
 induction f using FT.ind with
 | h f ih =>
  intro h;rw[FT.named_eq]at h
  have h1:f.refs.any (inAt l)=f.refs.any (inAt m):=by
   rw[Bool.eq_iff_iff,List.any_eq_true,List.any_eq_true];constructor
   ·rintro⟨k,hk,e⟩;exact⟨k,hk,by rw[<- h k (List.mem_append_left _ hk)];exact e⟩
   ·rintro⟨k,hk,e⟩;exact⟨k,hk,by rw[h k (List.mem_append_left _ hk)];exact e⟩
  have h2:∀ p∈f.ps,holdF s l p=holdF s m p:=fun p hp=>ih p hp fun k hk=>h k (List.mem_append_right _ (nmdL_mem hk hp))
  have h3:f.ps.any (holdF s l)=f.ps.any (holdF s m):=by
   rw[Bool.eq_iff_iff,List.any_eq_true,List.any_eq_true];constructor
   ·rintro⟨k,hk,e⟩;exact⟨k,hk,by rw[<- h2 k hk];exact e⟩
   ·rintro⟨k,hk,e⟩;exact⟨k,hk,by rw[h2 k hk];exact e⟩
  have h4:f.ps.all (holdF s l)=f.ps.all (holdF s m):=by
   rw[Bool.eq_iff_iff,List.all_eq_true,List.all_eq_true];exact⟨fun e k hk=>by rw[<- h2 k hk];exact e k hk,fun e k hk=>by rw[h2 k hk];exact e k hk⟩
  rw[holdF_eq,holdF_eq,h1,h3,h4]
theorem holdF_mono (s:P3) {l m:List Bool} (h:∀ k,inAt l k=true->inAt m k=true)(f:FT):holdF s l f=true->holdF s m f=true:=by
 induction f using FT.ind with
 | h f ih =>
  have h1:f.refs.any (inAt l)=true->f.refs.any (inAt m)=true:=fun e=>by
   rw[List.any_eq_true]at *;obtain⟨k,hk,e⟩:=e;exact⟨k,hk,h k e⟩
  have h3:f.ps.any (holdF s l)=true->f.ps.any (holdF s m)=true:=fun e=>by
   rw[List.any_eq_true]at *;obtain⟨k,hk,e⟩:=e;exact⟨k,hk,ih k hk e⟩
  have h4:f.ps.all (holdF s l)=true->f.ps.all (holdF s m)=true:=fun e=>by
   rw[List.all_eq_true]at *;exact fun k hk=>ih k hk (e k hk)
  rw[holdF_eq,holdF_eq];split
  ·simp only[Bool.or_eq_true];exact fun e=>e.imp id h1
  ·split
   ·exact h1
   ·split
    ·exact h3
    ·split
     ·exact h4
     ·exact id
def newS (fs:List FT)(s:P3)(l:List Bool)(i:Nat):Bool:=!l.getD i true&&(match fs[i]? with | some f=>holdF s l f | none=>false)
def inN (fs:List FT)(s:P3)(n:Nat):Nat->List Bool
 | 0=>List.replicate n false
 | r+1=>(List.range n).map fun i=>(inN fs s n r).getD i false||newS fs s (inN fs s n r) i
def outN (fs:List FT)(s:P3)(n:Nat):Nat->List Int
 | 0=>List.replicate n 0
 | r+1=>(List.range n).map fun i=>if newS fs s (inN fs s n r) i=true then((r+1:Nat):Int)else(outN fs s n r).getD i 0
def EndS (fs:List FT)(s:P3)(n r:Nat):Prop:=∀ i,i<n->newS fs s (inN fs s n r) i=false
section
variable {fs : List FT} {s : P3} {n : Nat}
theorem inN_length (r:Nat):(inN fs s n r).length=n:=by cases r <;> simp[inN]
theorem outN_length (r:Nat):(outN fs s n r).length=n:=by cases r <;> simp[outN]
theorem inN_zero (i:Nat):(inN fs s n 0).getD i false=false:=by
 rw[inN,List.getD_eq_getElem?_getD,List.getElem?_replicate];split <;> rfl
theorem inN_succ {i:Nat} (h:i<n)(r:Nat):(inN fs s n (r+1)).getD i false=((inN fs s n r).getD i false||newS fs s (inN fs s n r) i):=by
 rw[inN,List.getD_eq_getElem?_getD,List.getElem?_map,List.getElem?_range h];rfl
theorem outN_zero (i:Nat):(outN fs s n 0).getD i 0=0:=by
 rw[outN,List.getD_eq_getElem?_getD,List.getElem?_replicate];split <;> rfl
theorem outN_succ {i:Nat} (h:i<n)(r:Nat):(outN fs s n (r+1)).getD i 0=if newS fs s (inN fs s n r) i=true then((r+1:Nat):Int)else(outN fs s n r).getD i 0:=by
 rw[outN,List.getD_eq_getElem?_getD,List.getElem?_map,List.getElem?_range h];rfl
theorem ext_bool {a b:List Bool} (hl:a.length=b.length)(h:∀ i,i<a.length->a.getD i false=b.getD i false):a=b:=by
 refine List.ext_getElem hl fun i h1 h2=>?_;have:=h i h1;rwa[List.getD_eq_getElem?_getD,List.getD_eq_getElem?_getD,List.getElem?_eq_getElem h1,List.getElem?_eq_getElem h2]at this
theorem ext_int {a b:List Int} (hl:a.length=b.length)(h:∀ i,i<a.length->a.getD i 0=b.getD i 0):a=b:=by
 refine List.ext_getElem hl fun i h1 h2=>?_;have:=h i h1;rwa[List.getD_eq_getElem?_getD,List.getD_eq_getElem?_getD,List.getElem?_eq_getElem h1,List.getElem?_eq_getElem h2]at this
theorem EndS.inL {r:Nat} (h:EndS fs s n r):∀ k,inN fs s n (r+k)=inN fs s n r
 | 0=>rfl
 | k+1=>by
  have ih:=EndS.inL h k;refine ext_bool (by rw[inN_length,inN_length]) fun i hi=>?_;rw[inN_length]at hi;rw[<- Nat.add_assoc,inN_succ hi,ih,h i hi,Bool.or_false]
theorem EndS.outL {r:Nat} (h:EndS fs s n r):∀ k,outN fs s n (r+k)=outN fs s n r
 | 0=>rfl
 | k+1=>by
  have ih:=EndS.outL h k;refine ext_int (by rw[outN_length,outN_length]) fun i hi=>?_;rw[outN_length]at hi;rw[<- Nat.add_assoc,outN_succ hi,ih,h.inL k,h i hi];rfl
theorem EndS.uniq {r r':Nat} (h:EndS fs s n r)(k:EndS fs s n r'):outN fs s n r=outN fs s n r'/\inN fs s n r=inN fs s n r':=by
 rcases Nat.le_total r r' with hl | hl
 ·obtain⟨d,rfl⟩:=Nat.exists_eq_add_of_le hl;exact⟨(h.outL d).symm,(h.inL d).symm⟩
 ·obtain⟨d,rfl⟩:=Nat.exists_eq_add_of_le hl;exact⟨k.outL d,k.inL d⟩
theorem outN_pos (r:Nat) {i:Nat} (h:i<n):0<=(outN fs s n r).getD i 0/\(outN fs s n r).getD i 0<=(r:Int)/\((inN fs s n r).getD i false=true↔0<(outN fs s n r).getD i 0):=by
 induction r with
 | zero=>rw[outN_zero,inN_zero];simp
 | succ r ih =>
  rw[outN_succ h,inN_succ h];by_cases hn:newS fs s (inN fs s n r) i=true
  ·rw[if_pos hn,hn];refine⟨by omega,by omega,⟨fun _=>by omega,fun _=>by simp⟩⟩
  ·have hf:newS fs s (inN fs s n r) i=false:=by simpa using hn
   rw[if_neg hn,hf,Bool.or_false];exact⟨ih.1,by omega,ih.2.2⟩
theorem newS_not {l:List Bool} {i:Nat} (h:newS fs s l i=true):l.getD i true=false:=by
 unfold newS at h;simp only[Bool.and_eq_true,Bool.not_eq_true']at h;exact h.1
theorem inN_mono1 (r:Nat) {i:Nat} (h:i<n)(hi:(inN fs s n r).getD i false=true):(inN fs s n (r+1)).getD i false=true:=by
 rw[inN_succ h,hi,Bool.true_or]
def cntT (l:List Bool):Nat:=(l.filter id).length
theorem cntT_le (l:List Bool):cntT l<=l.length:=List.length_filter_le _ _
theorem cntT_lt:∀ {a b:List Bool},a.length=b.length->(∀ i,i<a.length->a.getD i false=true->b.getD i false=true)->(∃ i,i<a.length/\a.getD i false=false/\b.getD i false=true)->cntT a<cntT b
 | [],[],_,_,h=>by obtain⟨i,hi,_⟩:=h;simp at hi
 | x::a,y::b,hl,hm,h=>by
  have hl':a.length=b.length:=by simpa using hl
  have hm':∀ i,i<a.length->a.getD i false=true->b.getD i false=true:=fun i hi e=>by
   have:=hm (i+1) (by simpa using hi) (by simpa using e);simpa using this
  have h0:=hm 0 (by simp);simp only[List.getD_cons_zero]at h0
  have hle:cntT a<=cntT b:=by
   by_cases he:∃ i,i<a.length/\a.getD i false=false/\b.getD i false=true
   ·exact Nat.le_of_lt (cntT_lt hl' hm' he)
   ·have:a=b:=ext_bool hl' fun i hi=>by
     cases h1:a.getD i false with
     | true=>exact(hm' i hi h1).symm
     | false =>
      cases h2:b.getD i false with
      | false=>rfl
      | true=>exact absurd ⟨i,hi,h1,h2⟩ he
    rw[this];exact Nat.le_refl _
  obtain⟨i,hi,h1,h2⟩:=h;cases i with
  | zero =>
   simp only[List.getD_cons_zero]at h1 h2;subst h1 h2;unfold cntT at *;simp only[List.filter_cons,id,if_true,List.length_cons,Bool.false_eq_true,if_false];omega
  | succ i =>
   simp only[List.getD_cons_succ,List.length_cons]at h1 h2 hi;have hlt:=cntT_lt hl' hm' ⟨i,by omega,h1,h2⟩;unfold cntT at *;cases x <;> cases y <;> simp only[List.filter_cons,id,if_true,List.length_cons,Bool.false_eq_true,if_false]
   ·exact hlt
   ·omega
   ·have:=h0 rfl;cases this
   ·omega
theorem getD_ft {l:List Bool} {i:Nat} (h:i<l.length):l.getD i true=l.getD i false:=by
 rw[List.getD_eq_getElem?_getD,List.getD_eq_getElem?_getD,List.getElem?_eq_getElem h];rfl
theorem endS_ex:∃ r,r<=n/\EndS fs s n r:=by
 refine Classical.byContradiction fun hno=>?_
 have h:∀ r,r<=n->∃ i,i<n/\newS fs s (inN fs s n r) i=true:=fun r hr=>by
  refine Classical.byContradiction fun h2=>hno ⟨r,hr,fun i hi=>?_⟩;cases e:newS fs s (inN fs s n r) i with
  | false=>rfl
  | true=>exact absurd ⟨i,hi,e⟩ h2
 have hc:∀ r,r<=n+1->r<=cntT (inN fs s n r):=by
  intro r;induction r with
  | zero=>intro _;exact Nat.zero_le _
  | succ r ih =>
   intro hr;have h1:=ih (by omega);obtain⟨i,hi,hnew⟩:=h r (by omega)
   have:=cntT_lt (a:=inN fs s n r) (b:=inN fs s n (r+1)) (by rw[inN_length,inN_length]) (fun j hj e=>inN_mono1 r (by rwa[inN_length]at hj) e)
    ⟨i,by rw[inN_length];exact hi,by rw[<- getD_ft (by rw[inN_length];exact hi)];exact newS_not hnew,by rw[inN_succ hi,hnew,Bool.or_true]⟩
   omega
 have h1:=hc (n+1) (Nat.le_refl _);have h2:=cntT_le (inN fs s n (n+1));rw[inN_length]at h2;omega
end
noncomputable def solveR (fs:List FT) (s:P3) (n:Nat):List Int:=outN fs s n n
theorem endS_n (fs:List FT)(s:P3)(n:Nat):EndS fs s n n:=by
 obtain⟨r,hr,h⟩:=endS_ex (fs:=fs) (s:=s) (n:=n);obtain⟨d,rfl⟩:=Nat.exists_eq_add_of_le hr;intro i hi;rw[h.inL d];exact h i hi
theorem EndS.solve {fs:List FT} {s:P3} {n r:Nat} (h:EndS fs s n r):outN fs s n r=solveR fs s n:=(h.uniq (endS_n fs s n)).1
end Go.Proofs.YtlhaghoajpglaaaGreat
