/- Lemmas for the claim, no condition. -/
import Derived.Shelf.SortM.Plain
import Derived.Shelf.SortM.SortNone
import Derived.Test.YtlhaghoajpglaaaGreatYPrMore15
import Derived.Shelf.SortM.SortNone
set_option maxRecDepth 100000
set_option maxHeartbeats 8000000
namespace Go.Proofs.YtlhaghoajpglaaaGreat
open Go Go.RowKit Go.Sort Go.Shelf Go.Proofs.Tryz
theorem jC! {P:Program}{ρ:Ren}(L:SlLaysM.n5 P ρ) {w:World}{B:Nat}{T:TypeId}{v:Value}{l:List Int}(h:Own w B T 1 v (ic l))(hl:l.length<4611686018427387904) :
  Calls P (ρ.f 5) #[v] w fun e w'=>e= .returned (.tuple #[])/\Own w' B T 1 v (ic (l.mergeSort fun x y=>decide (x<=y)))/\Kept (fun b=>b<w.heap.size/\v.ownBlock≠some b) w w':=by
 obtain⟨n,i,a⟩:=h;rw[ad!,Nat.mul_one]at i;subst i;by_cases h0:l=[]
 ·subst h0
  have hv:∃p c,v= .slice p 0 c:=by
   rcases a with⟨rfl,_⟩|⟨b,cap,cur,rfl,_⟩
   ·exact⟨_,_,rfl⟩
   ·exact⟨_,_,rfl⟩
  have o:Own w B T 1 v (ic []):=⟨0,by simp[ic],a⟩;obtain⟨p,c,rfl⟩:=hv;refine(AnyM.slices_Sort_int_none L p c w).mono ?_;rintro e w' ⟨rfl,rfl⟩;exact⟨rfl,by simpa using o,Kept.refl _ _⟩
 ·have a4:0<l.length:=List.length_pos_iff.2 h0;rcases a with⟨rfl,hx⟩|⟨b,cap,cur,rfl,hB,hb,hnc,hcm,hcs,htake⟩
  ·exfalso
   omega
  ·have g:b<w.heap.size:=(x7!.1 hb).1
   have k:∀j (hj:j<l.length),cur[j]?=some (.int .i64 l[j]):=fun j hj=>by
    have e1:(cur.toList.take (l.length*1))[j]?=cur[j]?:=by rw[List.getElem?_take,if_pos (by omega)];simp
    rw[<-e1,htake];simp[ic,hj]
   have hH:Holds (Value.int .i64) w b 0 l.toArray:=fun j hj=>by
    have hj':j<l.length:=by simpa using hj
    refine⟨?_,frozen_of_row w b (0+j) cur T hb⟩;rw[cell_of_row w b (0+j) cur T (0,0) hb,Nat.zero_add,k j hj',getElem!_pos _ j hj];simp
   refine(AnyM.slices_Sort_int L b 0 cap l w hH g hl).mono ?_;rintro e w' ⟨rfl,m,os,rfl⟩;have a2:(l.mergeSort fun x y=>decide (x<=y)).length=l.length:=List.length_mergeSort _;generalize l.mergeSort (fun x y=>decide (x<=y))=d at *;refine⟨rfl,⟨l.length,by rw[ad!,a2,Nat.mul_one],.inr ⟨b,cap,putCells (Value.int .i64) 0 d.toArray cur,rfl,hB,?_,hnc,hcm,?_,?_⟩⟩,?_⟩
   ·simp only[putRow,mapBlock,grow,heap_ahead];rw[Array.getElem?_append_left (by simpa using g),Array.getElem?_modify,if_pos rfl,hb];rfl
   ·simp[putCells,hcs]
   ·apply List.ext_getElem?;intro t;rw[List.getElem?_take];split
    ·rename_i ht
     have a0:t<cur.size:=by omega
     have a1:t<d.length:=by omega
     simp only[putCells,Array.getElem?_toList,Array.getElem?_mapIdx];rw[Array.getElem?_eq_getElem a0];simp[a1,ic]
    ·rename_i ht
     rw[y0! (by rw[ad!];omega)]
   ·refine⟨rfl,rfl,rfl,by simp[putRow,grow,mapBlock,heap_ahead],fun c hc=>?_⟩;have a3:c≠b:=fun e=>hc.2 (by subst e;rfl);simp only[putRow,mapBlock,grow,heap_ahead];rw[Array.getElem?_append_left (by simpa using hc.1),Array.getElem?_modify,if_neg (Ne.symm a3)]
end Go.Proofs.YtlhaghoajpglaaaGreat
namespace Go.Proofs.YtlhaghoajpglaaaGreat
open Go Go.Maps Go.RowKit Go.Proofs.Tryz
def ddnI (l:List Int):Nat->List Int
 | 0 => []
 | m+1=>ddnI l m++(if m=0\/l[m]?≠l[m-1]? then l[m]?.toList else [])
def ddI (l:List Int):List Int:=ddnI l l.length
theorem iX! (l:List Int)(x:Int):∀m,x∈ddnI l m↔∃j,j<m/\l[j]?=some x:=by
 intro m;induction m with
 | zero=>simp[ddnI]
 | succ m ih =>
  rw[ddnI,u3!,ih];constructor
  ·rintro(⟨j,hj,h⟩ | h)
   ·exact⟨j,by omega,h⟩
   ·split at h
    ·exact⟨m,Nat.lt_succ_self m,by simpa using h⟩
    ·cases h
  ·rintro⟨j,hj,h⟩;by_cases hjm:j<m
   ·exact .inl ⟨j,hjm,h⟩
   ·obtain rfl:j=m:=by omega
    by_cases hc:j=0\/l[j]?≠l[j-1]?
    ·rw[if_pos hc];exact .inr (by simp[h])
    ·left
     have h0:j≠0:=fun e=>hc (.inl e);have h1:l[j]?=l[j-1]?:=Classical.byContradiction fun e=>hc (.inr e);exact⟨j-1,by omega,by rw[<-h1];exact h⟩
theorem nz! (l:List Int)(x:Int):x∈ddI l↔x∈l:=by
 unfold ddI;rw[iX!,List.mem_iff_getElem?];constructor
 ·rintro⟨j,_,h⟩;exact⟨j,h⟩
 ·rintro⟨j,h⟩;exact⟨j,(y3!.1 h).1,h⟩
theorem kV! (l:List Int)(hs:l.Pairwise fun a b=>a<=b):∀m,m<=l.length->(ddnI l m).Pairwise fun a b=>a<b
 | 0,_=>List.Pairwise.nil
 | m+1,hm=>by
  have ih:=kV! l hs m (by omega);rw[ddnI];split
  ·next hc =>
   have hlm:l[m]?=some l[m]:=n4! (by omega);rw[hlm,List.pairwise_append];refine⟨ih,by simp,fun x hx y hy=>?_⟩;obtain rfl:y=l[m]:=by simpa using hy
   obtain⟨j,hj,a0⟩:=(iX! l x m).1 hx;obtain⟨c,rfl⟩:=y3!.1 a0;have hp:=fun(a b:Nat) (ha:a<l.length) (hb:b<l.length) (hab:a<b)=>x3!.1 hs a b ha hb hab;have h1:=hp j m c (by omega) hj;rcases hc with hc | hc
   ·omega
   ·have a1:l[m-1]?=some (l[m-1]'(by omega)):=n4! _;rw[hlm,a1]at hc;have h2:l[m]≠l[m-1]'(by omega):=fun e=>hc (congrArg some e);have h3:=hp (m-1) m (by omega) (by omega) (by omega);by_cases hj1:j=m-1
    ·subst hj1;omega
    ·have h4:=hp j (m-1) c (by omega) (by omega);omega
  ·simpa using ih
theorem kq! {l:List Int}(hs:l.Pairwise fun a b=>a<=b):(ddI l).Nodup:=(kV! l hs _ (n0! _)).imp fun h e=>by omega
theorem cL! (l:List Int):∀m,m<=l.length->(∀j,0<j->j<m->l[j]?≠l[j-1]?)->ddnI l m=l.take m
 | 0,_,_=>by simp[ddnI]
 | m+1,hm,h=>by
  rw[ddnI,cL! l m (by omega) fun j h0 h1=>h j h0 (by omega),List.take_add_one];congr 1
  rw[if_pos];by_cases h0:m=0
  ·exact .inl h0
  ·exact .inr (h m (by omega) (by omega))
theorem kp! {l:List Int}(h:l.length<2):ddI l=l:=by
 unfold ddI;rw[cL! l _ (n0! _) fun j h0 h1=>by omega,u2!]
def setI (l:List Int):List Int:=ddI (l.mergeSort fun x y=>decide (x<=y))
theorem fp! (l:List Int)(x:Int):x∈setI l↔x∈l:=by
 unfold setI;rw[nz!,List.mem_mergeSort]
theorem hL! (l:List Int):(setI l).Nodup:=kq! ((List.pairwise_mergeSort (le:=fun x y:Int=>decide (x<=y)) (by intro a b c h1 h2;simp at *;omega) (by intro a b;simp;omega) l).imp fun h=>by simpa using h)
theorem dx! (w:World)(ps:List Int)(pv:Value)(g:Nat)(cap:Array Value)(eg:∀args W,(callFunc g args).run prog W= .ok (.enter g args) W)(q:Int->Bool)(hat:Sl (· < w.heap.size) w 1 pv (ic ps))(hf:∀i (hi:i<ps.length) W,Below w.heap.size w W->Calls prog g (#[.int .i64 ps[i]]++cap) W fun e W'=>e= .returned (.bool (q ps[i]))/\Below W.heap.size W W') :
  Calls prog 252 #[pv,.func (.func g) #[] cap] w fun e w'=>((∃i:Nat,e= .returned (.int .i64 (i:Int))/\i<ps.length/\(∃x,ps[i]?=some x/\q x=true)/\∀j (hj:j<ps.length),j<i->q ps[j]=false)\/(e= .returned (.int .i64 (-1))/\∀j (hj:j<ps.length),q ps[j]=false))/\Below w.heap.size w w':=by
 obtain⟨ao,n,c,rfl,hn,a2,a3⟩:=hat.len;rw[ad!,Nat.mul_one]at hn;subst hn;have HC:=h! (bC! hat);have HF:=h! hf;clear hat hf;go_enter func252,ntmps252
 go_wp2_with fail
 go_loopw [5,8] (fun _ ii wr=>∃i:Nat,i<=ps.length/\ii= .int .i64 i/\(∀j (hj:j<ps.length),j<i->q ps[j]=false)/\Below w.heap.size w wr) (fun _ ii _=>ps.length-(intOf ii).toNat)
 case atStart=>exact⟨0,by omega,rfl,fun _ _ h=>absurd h (by omega),Below.refl _ _⟩
 case round =>
  obtain⟨i,hi,rfl,f,a⟩:=hrel;have b:=h! f;clear f;by_cases hlt:i<ps.length
  ·have l:=h! (fun h=>aH! (p:=fun j hj=>q ps[j]=false) b.out hlt h);have k:=h! (fun(h:q ps[i]=true)=>(show i<ps.length/\(∃x,ps[i]?=some x/\q x=true)/\∀j (hj:j<ps.length),j<i->q ps[j]=false from⟨hlt,⟨_,n4! hlt,h⟩,b.out⟩));obtain⟨bb,a0,a1,hb,c0⟩:=HC.out i hlt;cases a1;have d0:=(a.cell (p:=⟨bb,a0+i,none⟩) hb).trans c0;have o:=h! (HF.out i hlt wr a);clear c0 hb;generalize ps[i]=p at *;have r:=h! a;clear a;cases hq:q p with
   | true =>
    rw[hq]at o;have HT:=h! (k.out hq);clear l k hq;go_wp2_with fail
    refine o.out.mono ?_;rintro e w5 ⟨rfl,d⟩;have m:=h! (r.out.trans (d.mono r.out.size));clear o d d0;go_wp2_with fail
    go_ret
    exact⟨.inl ⟨i,rfl,HT.out⟩,m.out⟩
   | false =>
    rw[hq]at o;have HN:=h! (l.out hq);clear l k hq;go_wp2_with fail
    refine o.out.mono ?_;rintro e w5 ⟨rfl,d⟩;have m:=h! (r.out.trans (d.mono r.out.size));clear o d d0;go_wp2_with fail
    go_roundw
    case rel=>exact⟨i+1,by omega,by go_num,HN.out,m.out⟩
    case measure=>simp[intOf];omega
  ·obtain rfl:i=ps.length:=by omega
   have r:=h! a;clear a;go_wp2_with fail
   go_ret
   exact⟨.inr ⟨rfl,fun j hj=>b.out j hj hj⟩,r.out⟩
theorem nC! {w:World}{B:Nat}{g n c:Nat}{R:List Int}(h:Own w B 3 1 (.slice (some ⟨g,0,none⟩) n c) (ic R))(hn:n=R.length)(q:Nat)(hq:q<n)(ty:TypeId)(c':Nat) :
  ∃vs,(Builtin.clear_ #[107] ty #[.slice (some ⟨g,q,none⟩) (n-q) c']).run prog w= .ok (.tuple #[]) (w.setCells g q vs):=by
 obtain⟨a0,e⟩:=h.typed (g:=g) rfl;have a1:=Blk.free (show Blk w g a0 3 from e);obtain⟨-,-,cs,hB,a⟩:=h.cellAt;have hz:=Tryz.zeroValue3;refine⟨(Builtin.zeroCells (Value.int .i64 0).cells (n-q)).toList,?_⟩
 have d:(Builtin.zeroCells (Value.int .i64 0).cells (n-q)).toList.length=n-q:=by
  simp[Builtin.zeroCells,Value.cells]
 have b:=run_storeCells_cells (P:=prog) g q (Builtin.zeroCells (Value.int .i64 0).cells (n-q)).toList 0 w
  (fun j hj=>by
   rw[d]at hj;have a2:q+j<(ic R).length:=by rw[ad!];omega
   have:=a (q+j) a2;simp only[Nat.add_zero];rw[this];rfl)
  (fun j hj=>a1 _)
  (by
   intro v hv;simp only[Builtin.zeroCells,Value.cells,Array.toList_map,Array.toList_range,u6!,List.mem_range]at hv;obtain⟨i,hi,rfl⟩:=hv;have h0:i % (#[Value.int .i64 0]:Array Value).size=0:=Nat.mod_one i;rw[h0];rfl)
 simp only[Nat.add_zero]at b;obtain⟨m,hm⟩:∃m,n-q=m+1:=⟨n-q-1,by omega⟩;rw[hm]at b ⊢;simp[Builtin.clear_,run_underlying Tryz.underlying107,hz,b]
theorem Own.intAt {w:World}{B:Nat}{g n c:Nat}{l:List Int}(h:Own w B 3 1 (.slice (some ⟨g,0,none⟩) n c) (ic l))(k:Nat)(hk:k<l.length):w.cell? ⟨g,k,none⟩=some (.int .i64 l[k]):=by
 obtain⟨-,-,cs,hB,hc⟩:=h.cellAt;rw[hc k (by rw[ad!];exact hk)];simp[ic]
theorem Own.setI {w:World}{B:Nat}{g n c:Nat}{l:List Int}(h:Own w B 3 1 (.slice (some ⟨g,0,none⟩) n c) (ic l))(k:Nat)(x:Int):Own (w.setCell ⟨g,k,none⟩ (.int .i64 x)) B 3 1 (.slice (some ⟨g,0,none⟩) n c) (ic (l.set k x)):=by
 have:=h.set1 k (.int .i64 x);rwa[show(ic l).set k (.int .i64 x)=ic (l.set k x)from by unfold ic;rw[List.map_set]]at this
theorem Own.cutI {w:World}{B:Nat}{g n c:Nat}{R:List Int}(h:Own w B 3 1 (.slice (some ⟨g,0,none⟩) n c) (ic R)) {q:Nat}(hq:q<=n)(vs:List Value):Own (w.setCells g q vs) B 3 1 (.slice (some ⟨g,0,none⟩) q c) (ic (R.take q)):=by
 have h1:=(Own.setMany vs q h).cutT (k:=q) hq;rw[Nat.mul_one,dI! _ _ _ _ (n0! _),show(ic R).take q=ic (R.take q)from by unfold ic;rw[List.map_take]]at h1;exact h1
theorem Own.at0 {w:World}{B:Nat}{n c:Nat}{ao:Option Addr}{l:List Int}(h:Own w B 3 1 (.slice ao n c) (ic l))(hl:0<l.length):∃g,ao=some ⟨g,0,none⟩:=by
 obtain⟨m,h1,h2⟩:=h;rcases h2 with⟨hv,hx⟩|⟨g',cap,cur,hv,hbg,hg,hr⟩
 ·exfalso
  rw[ad!]at h1;omega
 ·exact⟨g',by injection hv⟩
abbrev RowK (w0 w:World) (v:Value):Prop:=Kept (fun b=>b<w0.heap.size/\v.ownBlock≠some b) w0 w
theorem fF! {B:Nat}(v:Value)(l:List Int)(w:World)(h:Own w B 3 1 v (ic l))(hl:l.length<=1099511627776)(g0:Nat)(cap:Array Value)(eg:∀args W,(callFunc g0 args).run prog W= .ok (.enter g0 args) W)(q:Int->Bool)
  (hf:∀i (hi:i<l.length) W,RowK w W v->Calls prog g0 (#[.int .i64 l[i]]++cap) W fun e W'=>e= .returned (.bool (q l[i]))/\Below W.heap.size W W') :
  Calls prog 210 #[v,.func (.func g0) #[] cap] w fun e w'=>∃v',e= .returned v'/\Own w' B 3 1 v' (ic (l.filter fun x=>!q x))/\(∀b,v'.ownBlock=some b->v.ownBlock=some b)/\RowK w w' v:=by
 obtain⟨ao,n,c,rfl,hn,M,J⟩:=h.sl.len;rw[ad!,Nat.mul_one]at hn;subst hn;have HL:=h! hl;have HO:=h! h;have HF:=h! hf;have HC:=h! (And.intro M J);have HI:=h! (dx! w l (.slice ao l.length c) g0 cap eg q (h.sl.mono fun _ h=>h.2) fun i hi W hW=>hf i hi W (Below.kept hW fun _ h=>h.1));clear h hf M J;go_enter func210,ntmps210
 go_wp2_with fail
 refine HI.out.mono ?_;rintro e w1 ⟨a6,A⟩;have Y:=h! (HO.out.below A);have K1:Hid (RowK w w1 (.slice ao l.length c)):=h! (Below.kept A fun _ h=>h.1);clear HI A HO;rcases a6 with⟨i0,rfl,hi0,hq0,hall⟩|⟨rfl,hall⟩
 case' inr =>
  have HV:=h! (show(l.filter fun x=>!q x)=l from List.filter_eq_self.2 fun x O=>by
   obtain⟨j,hj,rfl⟩:=u0! O;rw[hall j hj];rfl)
  clear hall;go_wp2_with fail
  go_ret
  exact⟨_,rfl,by rw[HV.out];exact Y.out,fun b h=>h,K1.out⟩
 case' inl =>
  obtain⟨g,rfl⟩:=Y.out.at0 (by omega)
  have HS:=h! (show l.take i0=(l.take (i0+1)).filter fun x=>!q x from by
   obtain⟨x,O,a4⟩:=hq0;rw[List.take_add_one,O,List.filter_append];simp only[Option.toList_some,List.filter_cons,a4,Bool.not_true,Bool.false_eq_true,if_false,List.filter_nil,List.append_nil]
   exact(List.filter_eq_self.2 fun y hy=>by
    obtain⟨j,hj,rfl⟩:=u0! hy;rw[x4!]at hj;rw[List.getElem_take,hall j (by omega) (by omega)];rfl).symm)
  have E:=h! hi0;have H:wrap64 ((i0:Int)+1)=((i0+1:Nat):Int):=by unfold wrap64;omega
  have a1:((i0:Int) == -1)=false:=by rw[n7!];omega
  clear hq0 hall hi0;go_wp2_with fail
  obtain⟨z,I,hz⟩:∃z:Int,wrap64 ((i0:Int)+1)=z/\Hid (z=((i0+1:Nat):Int)):=⟨_,H,h! rfl⟩;rw[I];clear a1 H I;go_loopw [5,6] (fun iv jv wr=>∃(i j:Nat) (R:List Int),iv= .int .i64 i/\jv= .int .i64 j/\i<j/\j<=l.length/\R.length=l.length/\R.take i=(l.take j).filter (fun x=>!q x)/\(∀m,j<=m->R[m]?=l[m]?)/\Own wr B 3 1 (.slice (some ⟨g,0,none⟩) l.length c) (ic R)/\RowK w wr (.slice (some ⟨g,0,none⟩) l.length c)) (fun _ jv _=>l.length-(intOf jv).toNat)
  case atStart=>exact⟨i0,i0+1,l,rfl,by rw[hz.out],by omega,E.out,rfl,HS.out,fun _ _=>rfl,Y.out,K1.out⟩
  case round =>
   obtain⟨i,j,R,rfl,rfl,N,G,K,C,F,ho,hk⟩:=hrel;have X:=h! ho;have U:=h! hk;have QL:=h! K;have V:=h! C;have QJ:=h! F;have T:=h! (And.intro N G);clear ho hk K C F N G Y K1 HS E;by_cases hlt:j<l.length
   ·have p:=h! hlt;have u:j<R.length:=by rw[QL.out];exact hlt
    have O:R[j]?=l[j]?:=QJ.out _ (n0! _);rw[n4! u,n4! hlt]at O;have k0:=X.out.intAt j u;rw[v5! O]at k0;have f:=h! (HF.out j hlt wr U.out);have D:=h! (n2! hlt);have a8:(j:Int)<(l.length:Int):=by omega
    have k:=h! (show wrap64 ((j:Int)+1)=((j+1:Nat):Int)/\wrap64 ((i:Int)+1)=((i+1:Nat):Int)from by have:=HL.out;have:=T.out;unfold wrap64;omega);generalize l[j]=x at *;clear u O hlt;cases hq:q x with
    | true =>
     rw[hq]at f;have s:=h! (show R.take i=(l.take (j+1)).filter (fun x=>!q x)from by rw[D.out,List.filter_append,V.out];simp[hq]);clear hq;go_wp2_with fail
     refine f.out.mono ?_;rintro e Z ⟨rfl,d⟩;have Q:=h! (X.out.below d);have K5:Hid (RowK w Z (.slice (some ⟨g,0,none⟩) l.length c)):=h! (Kept.trans U.out (Below.kept d fun b hb=>n1! hb.1 U.out.size));clear d f k0 X U;go_wp2_with fail
     go_roundw
     case rel=>exact⟨i,j+1,R,rfl,by first | rw[k.out.1] | go_num,by have:=T.out;omega,p.out,QL.out,s.out,fun m hm=>QJ.out m (by omega),Q.out,K5.out⟩
     case measure=>have:=p.out;(try rw[k.out.1]);simp[intOf];omega
    | false =>
     rw[hq]at f
     have s:=h! (show(R.set i x).take (i+1)=(l.take (j+1)).filter (fun x=>!q x)from by
      rw[D.out,List.filter_append,<-V.out,n2! (by rw[List.length_set,QL.out];have:=T.out;omega),List.getElem_set_self,List.take_set_of_le (n0! i)];simp[hq])
     have a2:=h! (show ∀m,j+1<=m->(R.set i x)[m]?=l[m]? from fun m hm=>by
      rw[List.getElem?_set_ne (by have:=T.out;omega)];exact QJ.out m (by omega))
     clear hq;go_wp2_with fail
     refine f.out.mono ?_;rintro e Z ⟨rfl,d⟩;have Q:=h! (X.out.below d);have K5:Hid (RowK w Z (.slice (some ⟨g,0,none⟩) l.length c)):=h! (Kept.trans U.out (Below.kept d fun b hb=>n1! hb.1 U.out.size));have a9:(i:Int)<(l.length:Int):=by have:=T.out;omega
     obtain⟨y,d1⟩:∃y,Z.cell? ⟨g,i,none⟩=some y:=⟨_,Q.out.intAt i (by rw[QL.out];have:=T.out;omega)⟩;obtain⟨-,-,cs,hB,-⟩:=Q.out.cellAt;have f1:=hB.free;have O6:=h! (Q.out.setI i x);have K6:Hid (RowK w (Z.setCell ⟨g,i,none⟩ (.int .i64 x)) (.slice (some ⟨g,0,none⟩) l.length c)):=h! (Kept.set K5.out (a:=⟨g,i,none⟩) (fun h=>h.2 rfl) _);clear d f k0 X U hB;go_wp2_with fail
     go_roundw
     case rel=>exact⟨i+1,j+1,R.set i x,by first | rw[k.out.2] | go_num,by first | rw[k.out.1] | go_num,by have:=T.out;omega,p.out,by rw[List.length_set];exact QL.out,s.out,a2.out,O6.out,K6.out⟩
     case measure=>have:=p.out;(try rw[k.out.1]);simp[intOf];omega
   ·obtain rfl:j=l.length:=by have:=T.out;omega
    rw[u2!]at V;have L:i<l.length:=T.out.1;have ab:(i:Int)<=(l.length:Int):=by omega
    have a0:(0:Int)<=(i:Int):=by omega
    have aa:i<=c:=by have:=HC.out;omega
    have a7:¬ (c=i):=by have:=HC.out;omega
    obtain⟨vs,t⟩:=nC! X.out QL.out.symm i L 0 (c-i);obtain⟨w8,o⟩:=e! (wr.setCells g i vs);rw[<-o]at t
    have a5:=h! (show Own w8 B 3 1 (.slice (some ⟨g,0,none⟩) i c) (ic (l.filter fun x=>!q x))from by
     have h1:=X.out.cutI (q:=i) (Nat.le_of_lt L) vs;rw[V.out]at h1;rw[o];exact h1)
    have a3:=h! (show RowK w w8 (.slice (some ⟨g,0,none⟩) l.length c)from by rw[o];exact U.out.setMany (g:=g) (fun h=>h.2 rfl) _ _);clear o hlt X U V;go_wp2_with ((with_reducible refine bK! (v := .slice (some ⟨g,i,none⟩) (l.length-i) (c-i)) (w':=w8) (r := .tuple #[]) ?hV ?hR ?hK);(case hV=>rfl);(case hR=>exact t);clear t)
    go_ret
    exact⟨_,rfl,a5.out,fun b h=>h,a3.out⟩
theorem fI! {B:Nat}(v:Value)(l:List Int)(w:World)(h:Own w B 3 1 v (ic l))(hl:l.length<=1099511627776) :
  Calls prog 156 #[v] w fun e w'=>∃v',e= .returned v'/\Own w' B 3 1 v' (ic (ddI l))/\(∀b,v'.ownBlock=some b->v.ownBlock=some b)/\RowK w w' v:=by
 obtain⟨ao,n,c,rfl,hn,ab,ad⟩:=h.sl.len;rw[ad!,Nat.mul_one]at hn;subst hn;have HL:=h! hl;have HO:=h! h;have HC:=h! (And.intro ab ad);clear h;by_cases hlt:l.length<2
 ·have HD:=h! (kp! hlt);have hi:(l.length:Int)<2:=by omega
  go_enter func156,ntmps156
  go_wp2_with fail
  go_ret
  exact⟨_,rfl,by rw[HD.out];exact HO.out,fun b h=>h,Kept.refl _ _⟩
 have hi:¬ ((l.length:Int)<2):=by omega
 obtain⟨g,rfl⟩:=HO.out.at0 (by omega);have H2:Hid (2<=l.length):=h! (by omega);go_enter func156,ntmps156
 go_wp2_with fail
 clear hi hlt;go_loopw [3] (fun kv wr=>∃m:Nat,kv= .int .i64 ((m+1:Nat):Int)/\m+1<=l.length/\(∀j,0<j->j<m+1->l[j]?≠l[j-1]?)/\Own wr B 3 1 (.slice (some ⟨g,0,none⟩) l.length c) (ic l)/\RowK w wr (.slice (some ⟨g,0,none⟩) l.length c)) (fun kv _=>l.length-(intOf kv).toNat)
 case atStart=>exact⟨0,rfl,by have:=H2.out;omega,(fun j h0 h1=>by omega),HO.out,Kept.refl _ _⟩
 case round =>
  obtain⟨m,rfl,hm,z,ho,hk⟩:=hrel;have RO:=h! ho;have RK:=h! hk;have RN:=h! z;have ai:=HL.out;clear HO ho hk z;by_cases hlt:m+1<l.length
  ·have H:=h! hlt;have J:m<l.length:=by omega
   have K:=h! (show l[m+1]≠l[m]->∀j,0<j->j<m+2->l[j]?≠l[j-1]? from fun he j h0 h1=>by
    by_cases hj:j<m+1
    ·exact RN.out j h0 hj
    ·obtain rfl:j=m+1:=by omega
     rw[Nat.add_sub_cancel,n4! hlt,n4! J];exact fun e=>he (by injection e))
   have F:=h! (show l[m+1]=l[m]->l.take (m+1)=ddnI l (m+2)from fun he=>by
    rw[ddnI,if_neg (by
     rintro(h | h)
     ·omega
     ·apply h;rw[Nat.add_sub_cancel,n4! hlt,n4! J];exact congrArg some he),List.append_nil,cL! l (m+1) hm RN.out])
   go_wp2_with fail
   obtain⟨wd,i⟩:=e! wr.drew;have DO:=h! (show Own wd B 3 1 (.slice (some ⟨g,0,none⟩) l.length c) (ic l)from by rw[i];exact RO.out.below (Ext.drew _));have DK:=h! (show RowK w wd (.slice (some ⟨g,0,none⟩) l.length c)from by rw[i];exact Kept.drew RK.out);refine re! i ?_;clear i RO RK;have k0:=fun W (hW:Ext wd W)=>(DO.out.below hW).intAt (m+1) hlt;have j0:=fun W (hW:Ext wd W)=>(DO.out.below hW).intAt m J;have Z:=h! (show wrap64 ((m:Int)+1+1)=((m+1+1:Nat):Int)from by unfold wrap64;omega);generalize l[m+1]=x at *;generalize l[m]=y at *;have p:IntKind.i64.wrap (m:Int)=(m:Int):=IntWalk.i64_in _ (by omega);have D:(m:Int)<(l.length:Int):=by omega
   have U:((m:Int)+1)<(l.length:Int):=by omega
   have s:(0:Int)<=(m:Int)+1:=by omega
   by_cases he:x=y
   ·have a3:=h! (F.out he);subst he;clear F K;(refine WalkN.tk [0,1,2,3,4,5,6,7,8,9] ?_;(iterate 10 (refine c! ?_));refine TkN.n ?_)
    refine d! ?_;clear k0 j0 p;have a5:((m:Int)+1)<=(l.length:Int):=by omega
    have aa:m+1<=l.length:=hm;go_wp2_with fail
    clear D U s a5 aa;go_loopw [3,5] (fun kv jv wr=>∃(q a:Nat) (R:List Int),kv= .int .i64 q/\jv= .int .i64 ((a+1:Nat):Int)/\q<=m+1+a/\1<=q/\m+1+a+1<=l.length/\R.length=l.length/\R.take q=ddnI l (m+1+a+1)/\(∀j,m+1+a<=j->R[j]?=l[j]?)/\Own wr B 3 1 (.slice (some ⟨g,0,none⟩) l.length c) (ic R)/\RowK w wr (.slice (some ⟨g,0,none⟩) l.length c)) (fun _ jv _=>l.length-(m+(intOf jv).toNat))
    case atStart=>exact⟨m+1,0,l,rfl,rfl,by omega,by omega,by have:=H.out;omega,rfl,a3.out,(fun _ _=>rfl),DO.out,DK.out⟩
    case round =>
     obtain⟨q,a,R,rfl,rfl,E,a2,ae,T,O,X,Y,a1⟩:=hrel;have QO:=h! Y;have C:=h! a1;have QL:=h! T;have QT:=h! O;have QJ:=h! X;have QP:=h! (And.intro E (And.intro a2 ae));clear DO DK Y a1 T O X E a2 a3;by_cases hlt2:m+1+a+1<l.length
     ·have f:=h! hlt2;have Q:m+1+a+1<R.length:=by rw[QL.out];exact hlt2
      have N:m+1+a<R.length:=by omega
      have hx:R[m+1+a+1]?=l[m+1+a+1]?:=QJ.out _ (by omega);have hy:R[m+1+a]?=l[m+1+a]?:=QJ.out _ (by omega);rw[n4! Q]at hx;rw[n4! N]at hy
      have A:=h! (show ddnI l (m+1+a+1+1)=ddnI l (m+1+a+1)++(if R[m+1+a+1]≠R[m+1+a]then [R[m+1+a+1]]else [])from by
       rw[ddnI,Nat.add_sub_cancel,<-hx,<-hy];congr 1
       by_cases he:R[m+1+a+1]=R[m+1+a]
       ·rw [if_neg (by rintro (h | h); · omega
                       · exact h (congrArg some he)),if_neg (fun h=>h he)]
       ·rw[if_pos (.inr fun h=>he (by injection h)),if_pos he];rfl)
      clear hx hy;have a4:((a:Int)+1)<((l.length-(m+1):Nat):Int):=by omega
      go_wp2_with fail
      obtain⟨wd,i⟩:=e! wr.drew;have DO:=h! (show Own wd B 3 1 (.slice (some ⟨g,0,none⟩) l.length c) (ic R)from by rw[i];exact QO.out.below (Ext.drew _));have DK:=h! (show RowK w wd (.slice (some ⟨g,0,none⟩) l.length c)from by rw[i];exact Kept.drew C.out);refine re! i ?_;clear i QO C;have k0:∀W,Ext wd W->W.cell? ⟨g,m+1+(a+1),none⟩=_:=fun W hW=>(DO.out.below hW).intAt (m+1+a+1) Q;have j0:∀W,Ext wd W->W.cell? ⟨g,m+1+a,none⟩=_:=fun W hW=>(DO.out.below hW).intAt (m+1+a) N;have o:=h! (DO.out.setI q R[m+1+a+1])
      have V:=h! (show(R.set q R[m+1+a+1]).take (q+1)=R.take q++[R[m+1+a+1]]from by
       have u:q<R.length:=by have:=QP.out.1;omega
       rw[n2! (by simpa using u),List.getElem_set_self,List.take_set_of_le (n0! q)])
      have M:=h! (show ∀j,m+1+(a+1)<=j->(R.set q R[m+1+a+1])[j]?=l[j]? from fun j hj=>by
       rw[List.getElem?_set_ne (by have:=QP.out.1;omega)];exact QJ.out j (by omega))
      generalize R[m+1+a+1]=x at *;generalize R[m+1+a]=y at *;have p:IntKind.i64.wrap (a:Int)=(a:Int):=IntWalk.i64_in _ (by omega);have D:(a:Int)<((l.length-(m+1):Nat):Int):=by omega
      have s:(0:Int)<=(a:Int)+1:=by omega
      have k:=h! (show wrap64 ((a:Int)+1+1)=((a+1+1:Nat):Int)/\wrap64 ((q:Int)+1)=((q+1:Nat):Int)from by have:=QP.out;unfold wrap64;omega);by_cases he:x=y
      ·have I:Hid (ddnI l (m+1+a+1+1)=ddnI l (m+1+a+1)):=h! (by rw[A.out,if_neg (fun h=>h he),List.append_nil]);subst he;clear A o V M;(refine WalkN.tk [0,1,2,3,4,5,6,7,8,9] ?_;(iterate 10 (refine c! ?_));refine TkN.n ?_)
       refine d! ?_;clear k0 j0 p D s a4;have ah:(x != x)=false:=by simp
       go_wp2_with fail
       go_roundw
       case rel=>exact⟨q,a+1,R,rfl,by first | rw[k.out.1] | go_num,by have:=QP.out;omega,QP.out.2.1,by have:=f.out;omega,QL.out,by rw[QT.out];exact I.out.symm,(fun j hj=>QJ.out j (by omega)),DO.out,DK.out⟩
       case measure=>have:=f.out;(try rw[k.out.1]);simp[intOf];omega
      ·have I:Hid (ddnI l (m+1+a+1+1)=ddnI l (m+1+a+1)++[x]):=h! (by rw[A.out,if_pos he]);have z:(x != y)=true:=by simpa using he
       clear A he;(refine WalkN.tk [0,1,2,3,4,5,6,7,8,9] ?_;(iterate 10 (refine c! ?_));refine TkN.n ?_)
       refine d! ?_;have k1:=k0 wd (Ext.refl _);clear k0 j0 p;obtain⟨y',d1⟩:∃y,wd.cell? ⟨g,q,none⟩=some y:=⟨_,DO.out.intAt q (by rw[QL.out];have:=QP.out;omega)⟩;obtain⟨-,-,cs,hB,-⟩:=DO.out.cellAt;have f1:=hB.free;have a8:(q:Int)<(l.length:Int):=by have:=QP.out;omega
       have L:Hid (RowK w (wd.setCell ⟨g,q,none⟩ (.int .i64 x)) (.slice (some ⟨g,0,none⟩) l.length c)):=h! (Kept.set DK.out (a:=⟨g,q,none⟩) (fun h=>h.2 rfl) _);clear hB;go_wp2_with fail
       go_roundw
       case rel=>exact⟨q+1,a+1,R.set q x,by first | rw[k.out.2] | go_num,by first | rw[k.out.1] | go_num,by have:=QP.out;omega,by omega,by have:=f.out;omega,by rw[List.length_set];exact QL.out,by rw[V.out,QT.out];exact I.out.symm,M.out,o.out,L.out⟩
       case measure=>have:=f.out;(try rw[k.out.1]);simp[intOf];omega
     ·have a0:m+1+a+1=l.length:=by omega
      rw[a0]at QT;have a4:¬ (((a:Int)+1)<((l.length-(m+1):Nat):Int)):=by omega
      have E:=QP.out.1;have u:q<l.length:=by omega
      have a8:(q:Int)<=(l.length:Int):=by omega
      have a9:(0:Int)<=(q:Int):=by omega
      have af:q<=c:=by have:=HC.out;omega
      have ag:¬ (c=q):=by have:=HC.out;omega
      obtain⟨vs,G⟩:=nC! QO.out QL.out.symm q u 0 (c-q);obtain⟨w8,t⟩:=e! (wr.setCells g q vs);rw[<-t]at G
      have a7:=h! (show Own w8 B 3 1 (.slice (some ⟨g,0,none⟩) q c) (ic (ddI l))from by
       have h1:=QO.out.cutI (q:=q) (Nat.le_of_lt u) vs;rw[QT.out]at h1;rw[t];exact h1)
      have L:=h! (show RowK w w8 (.slice (some ⟨g,0,none⟩) l.length c)from by rw[t];exact C.out.setMany (g:=g) (fun h=>h.2 rfl) _ _);clear t E hlt2 QO C QT a0;go_wp2_with ((with_reducible refine bK! (v := .slice (some ⟨g,q,none⟩) (l.length-q) (c-q)) (w':=w8) (r := .tuple #[]) ?hV ?hR ?hK);(case hV=>rfl);(case hR=>exact G);clear G)
      go_ret
      exact⟨_,rfl,a7.out,fun b h=>h,L.out⟩
   ·have ac:=h! (K.out he);have z:(x == y)=false:=by simpa using he
    clear F K he;(refine WalkN.tk [0,1,2,3,4,5,6,7,8,9] ?_;(iterate 10 (refine c! ?_));refine TkN.n ?_)
    refine d! ?_;clear k0 j0 p D U s;go_wp2_with fail
    go_roundw
    case rel=>exact⟨m+1,by first | rw[Z.out] | go_num,by have:=H.out;omega,ac.out,DO.out,DK.out⟩
    case measure=>have:=H.out;(try rw[Z.out]);simp[intOf];omega
  ·obtain a6:m+1=l.length:=by omega
   have HD:=h! (show ddI l=l from by
    unfold ddI;rw[cL! l _ (n0! _) fun j h0 h1=>RN.out j h0 (by omega),u2!])
   go_wp2_with fail
   go_ret
   exact⟨_,rfl,by rw[HD.out];exact RO.out,fun b h=>h,RK.out⟩
theorem iQ! (s:P3)(ps:List P3)(fs:List FT)(pv fv:Value)(lo sp gi gr ub n b i:Nat)(L:List Bool)(w:World)(h:GrAt (· < w.heap.size) w ps fs pv fv)(hb:Blk w b #[.pointer (some ⟨sp,0,none⟩)] 254)
  (hsp:Blk w sp #[pv,fv,.string s.t,.string s.i,.string s.r,.slice (some ⟨gi,0,none⟩) n n,.slice (some ⟨gr,0,none⟩) n n,.slice (some ⟨ub,0,none⟩) n n] 259) (hin:Own w lo 4 1 (.slice (some ⟨gi,0,none⟩) n n) (boC L)) (hi:i<n) :
  Calls prog 211 #[.int .i64 (i:Int),.pointer (some ⟨b,0,none⟩)] w fun e w'=>e= .returned (.bool (!newS fs s L i))/\Below w.heap.size w w':=by
 have H0:=h! h;have HB:=h! hb;have z:=h! hsp;have a2:=h! hin;obtain⟨ap,cp,af,cf,rfl,rfl,-,C,-,B,-⟩:=h.rows;obtain⟨J,-,cs,hB,A⟩:=hin.cellAt;rw[ch!]at J;have g:i<L.length:=by omega
 have H:w.cell? ⟨gi,i,none⟩=some (.bool L[i]):=by rw[A i (by rw[ch!];exact g)];simp[boC]
 have a4:=h! (And.intro C B);have y:(i:Int)<(n:Int):=by omega
 clear h hb hsp hin A hB C B;go_enter func211,ntmps211
 cases hin:L[i] with
 | true =>
  have m:=h! (io! (fs:=fs) (s:=s) g hin);rw[hin]at H;clear hin J g;go_wp2_with fail
  obtain⟨E,a⟩:=e! (World.drew w);have D:=h! (show Ext w E from xd! a);refine re! a ?_;clear a;have I:=fun W (h:Ext E W)=>Ext.cell (D.out.trans h) H;have G:=fun W (h:Ext E W)=>(HB.out.below (D.out.trans h)).cells;have F:=fun W (h:Ext E W)=>(z.out.below (D.out.trans h)).cells;(refine WalkN.tk [0,1,2,3,4,5,6,7] ?_;(iterate 8 (refine c! ?_));refine TkN.n ?_)
  refine k! 8 ?_;refine k! 9 ?_;refine k! 10 ?_;refine k! 11 ?_;refine k! 12 ?_;refine k! 13 ?_;refine k! 14 ?_;refine k! 15 ?_
  (refine WalkN.tk [16,17] ?_;(iterate 2 (refine c! ?_));refine TkN.n ?_)
  refine k! 18 ?_;refine k! 19 ?_;refine k! 20 ?_;refine k! 21 ?_;refine k! 22 ?_;refine k! 23 ?_;refine k! 24 ?_;refine k! 25 ?_;refine k! 26 ?_;refine k! 27 ?_;refine k! 28 ?_;refine k! 29 ?_;refine k! 30 ?_;refine k! 31 ?_;refine k! 32 ?_;refine k! 33 ?_;refine k! 34 ?_;refine k! 35 ?_
  (refine WalkN.tk [36,37] ?_;(iterate 2 (refine c! ?_));refine TkN.n ?_)
  refine d! ?_;clear I G F H y;go_wp2_with fail
  go_ret
  exact⟨by rw[m.out];rfl,D.out⟩
 | false =>
  rw[hin]at H;by_cases hf:i<fs.length
  ·have m:=h! (jR! (fs:=fs) (s:=s) g hin hf);obtain⟨a6,a5,a3,a7,e1,e2,-,-,-,-,j⟩:=H0.out.rows;cases e2;obtain⟨p1,q1,u,rfl,a0,k0,k1,k2,k3,hu⟩:=j i hf;have q:(i:Int)<(fs.length:Int):=by omega
   have HU:=h! hu;generalize fs[i]=x at *;obtain⟨l1,m1,l2,m2,l4,m4,rfl⟩:=hu.shape;dsimp only at k0 k1 k2 k3;clear hu a0 j hin J g hf e1;go_wp2_with fail
   obtain⟨E,a⟩:=e! (World.drew w);have D:=h! (show Ext w E from xd! a);refine re! a ?_;clear a;have I:=fun W (h:Ext E W)=>Ext.cell (D.out.trans h) H;have G:=fun W (h:Ext E W)=>(HB.out.below (D.out.trans h)).cells;have F:=fun W (h:Ext E W)=>(z.out.below (D.out.trans h)).cells;have j0:=fun W (h:Ext E W)=>Ext.cell (D.out.trans h) k0;have j1:=fun W (h:Ext E W)=>Ext.cell (D.out.trans h) k1;have j2:=fun W (h:Ext E W)=>Ext.cell (D.out.trans h) k2;have j3:=fun W (h:Ext E W)=>Ext.cell (D.out.trans h) k3;have f:¬ fs.length<=i:=by omega
   have o:decide (fs.length<=i)=false:=v3! f;(refine WalkN.tk [0,1,2,3,4,5,6,7,8,9,10,11,12,13,14,15,16,17,18,19,20,21,22,23,24,25,26,27,28,29,30,31,32,33] ?_;(iterate 34 (refine c! ?_));refine TkN.n ?_)
   clear I G F j0 j1 j2 j3 k0 k1 k2 k3 H;have p:=h! (eU! s L x (.slice (some ⟨gi,0,none⟩) n n) _ E (HU.out.up D.out) ((a2.out.below D.out).sl.mono fun _ h=>h.2));unfold fV pV at p;dsimp only at p;refine ob! 34 ?_;intro K hK;go_simp;refine p.out.mono ?_;rintro e w5 ⟨rfl,v⟩;refine hK.out _ _ v ?_;clear hK p;have X5:Hid (Ext w w5):=h! (D.out.trans v);clear v;(refine WalkN.tk [35,36,37] ?_;(iterate 3 (refine c! ?_));refine TkN.n ?_)
   refine d! ?_;clear q y f o;go_wp2_with fail
   go_ret
   exact⟨by rw[m.out];try rfl,X5.out⟩
  ·have m:=h! (lL! (fs:=fs) (s:=s) (l:=L) (i:=i) (by omega));have q:¬ (i:Int)<(fs.length:Int):=by omega
   have f:fs.length<=i:=by omega
   have o:decide (fs.length<=i)=true:=v2! f;clear hin J g hf;go_wp2_with fail
   obtain⟨E,a⟩:=e! (World.drew w);have D:=h! (show Ext w E from xd! a);refine re! a ?_;clear a;have I:=fun W (h:Ext E W)=>Ext.cell (D.out.trans h) H;have G:=fun W (h:Ext E W)=>(HB.out.below (D.out.trans h)).cells;have F:=fun W (h:Ext E W)=>(z.out.below (D.out.trans h)).cells;have a1:(fs.length:Int)<=(i:Int):=by omega
   have f:fs.length<=i:=by omega
   have o:decide (fs.length<=i)=true:=v2! f;(refine WalkN.tk [0,1,2,3,4,5,6,7,8,9,10,11,12,13,14,15,16,17] ?_;(iterate 18 (refine c! ?_));refine TkN.n ?_)
   refine k! 18 ?_;refine k! 19 ?_;refine k! 20 ?_;refine k! 21 ?_;refine k! 22 ?_;refine k! 23 ?_;refine k! 24 ?_;refine k! 25 ?_;refine k! 26 ?_;refine k! 27 ?_;refine k! 28 ?_;refine k! 29 ?_;refine k! 30 ?_;refine k! 31 ?_;refine k! 32 ?_;refine k! 33 ?_;refine k! 34 ?_;refine k! 35 ?_
   (refine WalkN.tk [36,37] ?_;(iterate 2 (refine c! ?_));refine TkN.n ?_)
   refine d! ?_;clear I G F H y q a1 f o;go_wp2_with fail
   go_ret
   exact⟨by rw[m.out];rfl,D.out⟩
def frW (fs:List FT)(s:P3)(L:List Bool)(W:List Int):List Int:=W.filter fun x=>newS fs s L x.toNat
theorem kg! (s:P3)(ps:List P3)(fs:List FT)(pv fv:Value)(lo lo2 sp gi gr ub n:Nat)(L:List Bool)(W:List Int)(v:Value)(w:World)(h:GrAt (· < lo) w ps fs pv fv)
  (hsp:Blk w sp #[pv,fv,.string s.t,.string s.i,.string s.r,.slice (some ⟨gi,0,none⟩) n n,.slice (some ⟨gr,0,none⟩) n n,.slice (some ⟨ub,0,none⟩) n n] 259) (hin:Own w lo 4 1 (.slice (some ⟨gi,0,none⟩) n n) (boC L))
  (hw:Own w lo2 3 1 v (ic W)) (hl2:lo<=lo2) (hlw:lo<=w.heap.size) (hlen:W.length<=1099511627776) (hW:∀x∈W,0<=x/\x<(n:Int)) :
  Calls prog 154 #[.pointer (some ⟨sp,0,none⟩),v] w fun e w'=>∃v',e= .returned v'/\Own w' lo2 3 1 v' (ic (frW fs s L W))/\(∀b,v'.ownBlock=some b->v.ownBlock=some b)/\RowK w w' v:=by
 obtain⟨p,c⟩:=e! (w.alloc (.cells #[.pointer (some ⟨sp,0,none⟩)] 254));have k:=h! (show Ext w p from xa! c);have BA:=h! (show Blk p w.heap.size #[.pointer (some ⟨sp,0,none⟩)] 254 from bm! c);have q:=hw.below k.out
 have a:∀ {b:Nat} {cs:Array Value} {t:TypeId},Blk p b cs t->t≠3->∀W',RowK p W' v->Blk W' b cs t:=fun o ht W' j=>(j.block _ ⟨o.lt,fun e=>by
  obtain⟨d,l⟩:=q.typed e;rw[show p.heap[_]?=_ from o]at l;injection l with l
  injection l with _ l _
  exact ht l⟩).trans o
 have HD:=h! (fF! v W p q hlen 211 #[.pointer (some ⟨w.heap.size,0,none⟩)] (enters_of func211 (by kernel_rfl) rfl) (fun x=>!newS fs s L x.toNat) fun i hi W' j=>by
  obtain⟨h0,hn⟩:=hW _ (n5! hi);obtain⟨m,hm⟩:=Int.eq_ofNat_of_zero_le h0;rw[hm]at hn ⊢;rw[Int.toNat_natCast];refine iQ! s ps fs pv fv lo sp gi gr ub n w.heap.size m L W' ?_ (a BA.out (by decide) W' j) (a (hsp.below k.out) (by decide) W' j) ((hin.below k.out).keepOwn fun g hg=>?_) (by omega)
  ·have h1:GrAt (· < lo) p ps fs pv fv:=h.same fun b o=>k.out.block b (n1! o hlw)
   exact(h1.same fun b o=>j.block b ⟨by have l:=k.out.size;have h3:b<lo:=o;omega,fun e=>by have:=(q.block b e).1;have h3:b<lo:=o;omega⟩).mono fun b o=>by
    have h3:b<lo:=o;show b<W'.heap.size
    have l:=k.out.size;have h4:=j.size;omega
  ·obtain⟨d,l⟩:=(hin.below k.out).typed hg;exact(a (show Blk p g d 4 from l) (by decide) W' j).trans l.symm)
 have f:=h! (fun w' (j:RowK p w' v)=>show RowK w w' v from Kept.trans (Below.kept k.out fun b o=>o.1) (Kept.mono j fun b o=>⟨n1! o.1 k.out.size,o.2⟩));have a5:∀(fn:Fn) (first cap:Array Value) (W:World),(Instr.makeFunc fn first cap).run prog W= .ok (.func fn first cap) W:=fun _ _ _ _=>rfl;obtain⟨vo,vn,vc,rfl,-,-,-⟩:=hw.sl.len;clear hw q a h hsp hin hW;go_enter func154,ntmps154
 go_wp2_with fail
 try rw[<-c]
 clear c;refine HD.out.mono ?_;rintro e w1 ⟨v',rfl,ho,o,j⟩;have HO:=h! ho;have a1:=h! o;have a0:=h! (f.out w1 j);obtain⟨a2,a4,a3,rfl,-,-,-⟩:=ho.sl.len;clear ho o j HD f;go_wp2_with fail
 go_ret
 exact⟨_,rfl,by
  have:=HO.out;rwa[show(W.filter fun x=>!(fun x:Int=>!newS fs s L x.toNat) x)=frW fs s L W from by unfold frW;congr 1;funext x;simp]at this,a1.out,a0.out⟩
end Go.Proofs.YtlhaghoajpglaaaGreat
namespace Go.Proofs
open Go.Shelf Go.Proofs.Tryz
def Tryz.sortIn_ren:Go.Shelf.Ren:=⟨fun | 5=>155 | 8=>198 | 7=>213 | 19=>240 | 20=>241 | 10=>259 | 11=>260 | 12=>261 | 13=>262 | 14=>263 | 15=>264 | 16=>265 | 17=>266 | 18=>267 | 30=>290 | 31=>282 | 32=>283 | 33=>291 | 34=>292 | 35=>293 | 40=>299 | n=>n,fun | 23=>107 | 25=>3 | 3=>3 | 32=>311 | 22=>107 | 0=>0 | 44=>349 | 46=>351 | 4=>4 | 36=>343 | 35=>342 | 41=>314 | 5=>5 | 9=>9 | 53=>378 | 57=>382 | 63=>390 | 64=>391 | n=>n,fun | n=>n⟩
theorem Tryz.sortIn:Go.Proofs.SlLaysM.n5 prog Tryz.sortIn_ren := {
 mixed:=by kernel_rfl
 f5:=⟨Tryz.f155.name,by decide,func155.trans (congrArg some (by kernel_rfl))⟩
 f7:=⟨Tryz.f213.name,by decide,func213.trans (congrArg some (by kernel_rfl))⟩
 f8:=func198.trans (congrArg some (by kernel_rfl))
 f10:=⟨Tryz.f259.name,by decide,func259.trans (congrArg some (by kernel_rfl))⟩
 f11:=⟨Tryz.f260.name,by decide,func260.trans (congrArg some (by kernel_rfl))⟩
 f12:=⟨Tryz.f261.name,by decide,func261.trans (congrArg some (by kernel_rfl))⟩
 f13:=⟨Tryz.f262.name,by decide,func262.trans (congrArg some (by kernel_rfl))⟩
 f14:=⟨Tryz.f263.name,by decide,func263.trans (congrArg some (by kernel_rfl))⟩
 f15:=⟨Tryz.f264.name,by decide,func264.trans (congrArg some (by kernel_rfl))⟩
 f16:=⟨Tryz.f265.name,by decide,func265.trans (congrArg some (by kernel_rfl))⟩
 f17:=⟨Tryz.f266.name,by decide,func266.trans (congrArg some (by kernel_rfl))⟩
 f18:=⟨Tryz.f267.name,by decide,func267.trans (congrArg some (by kernel_rfl))⟩
 f19:=func240.trans (congrArg some (by kernel_rfl))
 f20:=func241.trans (congrArg some (by kernel_rfl))
 f30:=⟨Tryz.f290.name,by decide,func290.trans (congrArg some (by kernel_rfl))⟩
 f31:=func282.trans (congrArg some (by kernel_rfl))
 f32:=func283.trans (congrArg some (by kernel_rfl))
 f33:=⟨Tryz.f291.name,by decide,func291.trans (congrArg some (by kernel_rfl))⟩
 f34:=⟨Tryz.f292.name,by decide,func292.trans (congrArg some (by kernel_rfl))⟩
 f35:=⟨Tryz.f293.name,by decide,func293.trans (congrArg some (by kernel_rfl))⟩
 f40:=⟨Tryz.f299.name,by decide,func299.trans (congrArg some (by kernel_rfl))⟩
 t0:=Tryz.underlying0
 a0:=Tryz.isAgg0
 z0:=Tryz.sizeOf0
 v0:=Tryz.zeroValue0
 t3:=Tryz.underlying3
 a3:=Tryz.isAgg3
 z3:=Tryz.sizeOf3
 v3:=Tryz.zeroValue3
 t4:=Tryz.underlying4
 a4:=Tryz.isAgg4
 z4:=Tryz.sizeOf4
 v4:=Tryz.zeroValue4
 t5:=Tryz.underlying5
 a5:=Tryz.isAgg5
 z5:=Tryz.sizeOf5
 v5:=Tryz.zeroValue5
 t9:=Tryz.underlying9
 a9:=Tryz.isAgg9
 z9:=Tryz.sizeOf9
 v9:=Tryz.zeroValue9
 t22:=Tryz.underlying107
 a22:=Tryz.isAgg107
 z22:=Tryz.sizeOf107
 v22:=Tryz.zeroValue107
 t23:=Tryz.underlying107
 a23:=Tryz.isAgg107
 z23:=Tryz.sizeOf107
 v23:=Tryz.zeroValue107
 t25:=Tryz.underlying3
 a25:=Tryz.isAgg3
 z25:=Tryz.sizeOf3
 v25:=Tryz.zeroValue3
 t32:=Tryz.underlying311
 a32:=Tryz.isAgg311
 z32:=Tryz.sizeOf311
 v32:=Tryz.zeroValue311
 t35:=Tryz.underlying342
 a35:=Tryz.isAgg342
 z35:=Tryz.sizeOf342
 v35:=Tryz.zeroValue342
 t36:=Tryz.underlying343
 a36:=Tryz.isAgg343
 z36:=Tryz.sizeOf343
 v36:=Tryz.zeroValue343
 t41:=Tryz.underlying314
 a41:=Tryz.isAgg314
 z41:=Tryz.sizeOf314
 v41:=Tryz.zeroValue314
 t44:=Tryz.underlying349
 a44:=Tryz.isAgg349
 z44:=Tryz.sizeOf349
 v44:=Tryz.zeroValue349
 t46:=Tryz.underlying351
 a46:=Tryz.isAgg351
 z46:=Tryz.sizeOf351
 v46:=Tryz.zeroValue351
 t53:=Tryz.underlying378
 a53:=Tryz.isAgg378
 z53:=Tryz.sizeOf378
 v53:=Tryz.zeroValue378
 t57:=Tryz.underlying382
 a57:=Tryz.isAgg382
 z57:=Tryz.sizeOf382
 v57:=Tryz.zeroValue382
 t63:=Tryz.underlying390
 a63:=Tryz.isAgg390
 z63:=Tryz.sizeOf390
 v63:=Tryz.zeroValue390
 t64:=Tryz.underlying391
 a64:=Tryz.isAgg391
 z64:=Tryz.sizeOf391
 v64:=Tryz.zeroValue391}
end Go.Proofs
namespace Go.Proofs.YtlhaghoajpglaaaGreat
open Go Go.RowKit Go.Maps Go.Proofs.Tryz
theorem fa! {f:Int->List Int}:∀ {F R:List Int},F.Nodup->(∀x∈F,x∈R)->(F.flatMap f).length<=(R.flatMap f).length
 | [],_,_,_=>by simp
 | a::F,R,hn,hs=>by
  obtain⟨p,q,rfl⟩:=List.append_of_mem (hs a y4!);rw[List.nodup_cons]at hn
  have h1:=fa! (f:=f) (F:=F) (R:=p++q) hn.2 fun x hx=>by
   have h2:=hs x (u9! _ hx);rcases u3!.1 h2 with h3 | h3
   ·exact List.mem_append_left _ h3
   ·rcases v7!.1 h3 with h3 | h3
    ·subst h3;exact absurd hx hn.1
    ·exact List.mem_append_right _ h3
  simp only[y5!,x9!,u4!]at h1 ⊢;omega
theorem eL!:∀U:List (List Int),((List.range U.length).flatMap fun i=>U.getD i []).length=(U.map List.length).sum
 | []=>rfl
 | a::U=>by
  rw[u7!,List.range_succ_eq_map,y5!,List.flatMap_map,u4!];simp only[List.getD_cons_zero,List.getD_cons_succ,v8!,List.sum_cons];rw[eL! U]
def nextL (U:List (List Int))(F:List Int):List Int:=F.flatMap fun k=>U.getD k.toNat []
theorem ge! {U:List (List Int)}{F:List Int}(hn:F.Nodup)(hF:∀x∈F,0<=x/\x<(U.length:Int)):(nextL U F).length<=(U.map List.length).sum:=by
 have a:=fa! (f:=fun k:Int=>U.getD k.toNat []) (F:=F) (R:=(List.range U.length).map fun(i:Nat)=>(i:Int)) hn fun x hx=>by
  obtain⟨h0,a⟩:=hF x hx;exact u6!.2 ⟨x.toNat,List.mem_range.2 (by omega),by omega⟩
 rw[List.flatMap_map]at a;simp only[Int.toNat_natCast]at a;rw[eL!]at a;exact a
theorem in! {U:List (List Int)}{F:List Int}{j:Nat}(h:j<F.length):nextL U (F.take (j+1))=nextL U (F.take j)++U.getD F[j].toNat []:=by
 unfold nextL;rw[n2! h,x9!];simp
theorem lJ! {U:List (List Int)}{F:List Int}(hn:F.Nodup)(hF:∀x∈F,0<=x/\x<(U.length:Int))(j:Nat):(nextL U (F.take j)).length<=(U.map List.length).sum :=
 ge! (hn.sublist (List.take_sublist _ _)) fun x hx=>hF x (List.mem_of_mem_take hx)
def upI (i:Nat):List Int:=(List.range i).map fun(j:Nat)=>(j:Int)
theorem lg! (i:Nat):upI (i+1)=upI i++[(i:Int)]:=by unfold upI;rw[List.range_succ,v9!];rfl
theorem fP! (i:Nat):(upI i).length=i:=by simp[upI]
theorem my! (n:Nat)(x:Int)(h:x∈upI n):0<=x/\x<(n:Int):=by
 unfold upI at h;obtain⟨j,hj,rfl⟩:=u6!.1 h;rw[List.mem_range]at hj;omega
theorem jr! (n:Nat):(upI n).Nodup:=List.pairwise_map.2 (List.nodup_range.imp fun h e=>h (by omega))
theorem lf! (fs:List FT)(s:P3)(n r:Nat):Wide fs s n r (upI n):=fun i hi _=>u6!.2 ⟨i,List.mem_range.2 hi,rfl⟩
structure StB (lo2 sp gi gr ub:Nat)(vs:List Value):Prop where
 sp:sp<lo2
 gi:gi<lo2
 gr:gr<lo2
 ub:ub<lo2
 row:∀(k:Nat) (v:Value) (g:Nat),vs[k]?=some v->v.ownBlock=some g->g<lo2
section
variable {w w' : World} {lo lo2 sp gi gr ub n : Nat} {pv fv : Value} {s : P3} {L : List Bool} {R : List Int} {U : List (List Int)} {vs : List Value}
theorem StAt.bounds (h:StAt w lo sp gi gr ub n pv fv s L R U vs):StB w.heap.size sp gi gr ub vs :=
 ⟨h.box.lt,(h.inn.block gi rfl).2,(h.rnd.block gr rfl).2,(h.use.arr.block ub rfl).2,fun k v g hv hg=>((h.use.row k v hv).block g hg).2⟩
theorem StAt.keep (h:StAt w lo sp gi gr ub n pv fv s L R U vs)(hb:StB lo2 sp gi gr ub vs)(hk:∀b,b<lo2->w'.heap[b]?=w.heap[b]?):StAt w' lo sp gi gr ub n pv fv s L R U vs where
 box:=(hk _ hb.sp).trans h.box
 inn:=h.inn.keepOwn fun g hg=>hk g (by obtain rfl:gi=g:=v5! hg;exact hb.gi)
 rnd:=h.rnd.keepOwn fun g hg=>hk g (by obtain rfl:gr=g:=v5! hg;exact hb.gr)
 use:=⟨h.use.arr.keepOwn fun g hg=>hk g (by obtain rfl:ub=g:=v5! hg;exact hb.ub),h.use.vlen,h.use.ulen,fun k v hv=>(h.use.row k v hv).keepOwn fun g hg=>hk g (hb.row k v g hv hg),h.use.apart,h.use.off⟩
theorem StAt.set (h:StAt w lo sp gi gr ub n pv fv s L R U vs)(k:Nat)(x:Int):StAt ((w.setCell ⟨gi,k,none⟩ (.bool true)).setCell ⟨gr,k,none⟩ (.int .i64 x)) lo sp gi gr ub n pv fv s (L.set k true) (R.set k x) U vs:=by
 have f:gi≠gr:=fun e=>by
  subst e;exact h.inn.apart h.rnd (by decide) rfl rfl
 have a:∀ {g:Nat} {c:Array Value} {t:TypeId},w.heap[g]?=some (.cells c t (0,0))->(t≠4->g≠gi)/\(t≠3->g≠gr):=fun {g c t} hg=>⟨fun ht e=>by
   subst e;obtain⟨c2,i⟩:=h.inn.typed (g:=g) rfl;rw[hg]at i;injection i with i
   injection i with _ i _
   exact ht i,fun ht e=>by
   subst e;obtain⟨c2,i⟩:=h.rnd.typed (g:=g) rfl;rw[hg]at i;injection i with i
   injection i with _ i _
   exact ht i⟩
 have d:∀b,b≠gi->b≠gr->((w.setCell ⟨gi,k,none⟩ (.bool true)).setCell ⟨gr,k,none⟩ (.int .i64 x)).heap[b]?=w.heap[b]?:=fun b j i=>by
  rw[Below.heap_setCell _ _ _ _ i,Below.heap_setCell _ _ _ _ j]
 refine⟨(d sp ((a h.box).1 (by decide)) ((a h.box).2 (by decide))).trans h.box,?_,?_,?_⟩
 ·have j:=h.inn.set1 k (.bool true);rw[show(boC L).set k (.bool true)=boC (L.set k true)from by unfold boC;rw[List.map_set]]at j;exact j.keepOwn fun g hg=>Below.heap_setCell _ _ _ _ (by obtain rfl:gi=g:=v5! hg;exact f)
 ·have j:Own (w.setCell ⟨gi,k,none⟩ (.bool true)) lo 3 1 (.slice (some ⟨gr,0,none⟩) n n) (ic R):=h.rnd.keepOwn fun g hg=>Below.heap_setCell _ _ _ _ (by obtain rfl:gr=g:=v5! hg;exact fun e=>f e.symm);exact j.setI k x
 ·refine⟨h.use.arr.keepOwn fun g hg=>?_,h.use.vlen,h.use.ulen,fun k v hv=>(h.use.row k v hv).keepOwn fun g hg=>?_,h.use.apart,h.use.off⟩
  ·obtain⟨c,i⟩:=h.use.arr.typed hg;exact d g ((a i).1 (by decide)) ((a i).2 (by decide))
  ·obtain⟨c,i⟩:=(h.use.row k v hv).typed hg;exact d g ((a i).1 (by decide)) (h.use.off k v g hv hg)
end
theorem hH! {w:World}{B:Nat}{v:Value}{l:List Int}(h:Own w B 3 1 v (ic l))(hl:l.length<4611686018427387904) :
  Calls prog 155 #[v] w fun e w'=>e= .returned (.tuple #[])/\Own w' B 3 1 v (ic (l.mergeSort fun x y=>decide (x<=y)))/\Kept (fun b=>b<w.heap.size/\v.ownBlock≠some b) w w':=jC! Tryz.sortIn h hl
theorem hJ! (s:P3)(ps:List P3)(fs:List FT)(pv fv:Value)(w:World)(h:GrAt (· < w.heap.size) w ps fs pv fv)(hnm:ps.length<=1000000)(hfm:fs.length<=1000000)(hnn:(nmdL fs).length<=1000000000000) :
  Calls prog 99 #[.agg #[pv,fv],pV s] w fun e w'=>(∃v,e= .returned v/\Own w' w.heap.size 3 1 v (ic (aI! fs s ps.length)))/\Below w.heap.size w w':=by
 obtain⟨wa,Q⟩:=e! (w.alloc (.cells #[pv,fv] 96));obtain⟨wb,Y⟩:=e! (wa.alloc (.cells #[.string s.t,.string s.i,.string s.r] 33));have ea:wa.heap.size=w.heap.size+1:=by rw[Q];simp
 have xa:Ext w wa:=xa! Q
 have xb:Ext wa wb:=xa! Y
 have XB:=h! (xa.trans xb);have BG:=h! (show Blk wb w.heap.size #[pv,fv] 96 from Blk.below (bm! Q) xb);have BS:=h! (show Blk wb (w.heap.size+1) #[.string s.t,.string s.i,.string s.r] 33 from by rw[Y,<-ea];exact Blk.made _ _ _);have H0:=h! (h.up XB.out);have au:=h! (jA! s ps fs pv fv wb H0.out hnm hfm hnn);obtain⟨ap,cp,af,cf,e1,e2,-,-,-,-,-⟩:=h.rows;have E:=h! hnm;have bi:=h! hnn;clear h hnm hfm hnn ea xa xb;subst e1 e2;generalize hn:ps.length=n at *;unfold pV at au ⊢;have hA:=BG.out.cells;have hS:=BS.out.cells;rw[Y,Q]at hA hS;go_enter func99,ntmps99
 go_wp2_with fail
 rw[<-Q,<-Y];clear hA hS Q Y;refine au.out.mono ?_;rintro e w1 ⟨⟨sp,gi,gr,ub,U,vs,rfl,an,p,aa⟩,aH⟩;have ST:=h! p;have BD:=h! p.bounds;have UO:=h! aa.done;have a2:=h! (show(U.map List.length).sum<=1000000000000/\U.length=n from⟨by have h1:=aa.sum;have:=bi.out;rw[u2!]at h1;simp only[v6!]at h1;omega,aa.len⟩);have a9:=h! aH;obtain⟨lo,D⟩:∃y,Hid (wb.heap.size=y):=⟨_,h! rfl⟩;obtain⟨l,f⟩:∃y,Hid (w1.heap.size=y):=⟨_,h! rfl⟩;rw[D.out]at ST a9;rw[f.out]at BD;have o:=h! (show lo<=l from by have:=a9.out.size;have:=D.out;have:=f.out;omega)
 have RG:=h! (fun W (hW:Below lo wb W)=>show GrAt (· < lo) W ps fs (.slice ap n cp) (.slice af fs.length cf)from by
  have h1:=H0.out.same (w':=W) fun b hb=>hW.block b (by rw[<-D.out];exact hb);rw[D.out]at h1;exact h1)
 have RB:=h! (fun W (hW:Below lo wb W)=>show Below w.heap.size w W from Below.trans XB.out (hW.mono (by have:=XB.out.size;have:=D.out;omega)));have GB:=h! (show Blk w1 w.heap.size #[.slice ap n cp,.slice af fs.length cf] 96 from(a9.out.block _ (by have:=BG.out.lt;have:=D.out;omega)).trans BG.out);have hA:=GB.out.cells;clear p aa aH au an BG BS H0 XB;go_wp2_with fail
 clear hA GB;go_loopw [6,19] (fun qv iv wr=>∃i:Nat,i<=n/\iv= .int .i64 i/\Own wr l 3 1 qv (ic (upI i))/\Below l w1 wr) (fun _ iv _=>n-(intOf iv).toNat)
 case atStart=>exact⟨0,v1! _,rfl,Own.nil _ _ _ _,Below.refl _ _⟩
 case round =>
  obtain⟨i,hi,rfl,hq,C⟩:=hrel;have RF:=h! hq;have R2:=h! C;obtain⟨qo,qm,qc,rfl,-⟩:=hq.sl.len;clear hq C;by_cases hlt:i<n
  ·have A:=h! hlt;have a0:=h! (show wrap64 ((i:Int)+1)=((i+1:Nat):Int)from by have:=E.out;unfold wrap64;omega);have bm:(i:Int)<(n:Int):=by omega
   have a1:=h! (Ext.alloc wr (.cells #[.int .i64 (i:Int)] 3));clear hlt;go_wp2_with (at_builtin;go_must (refine aW! intsT rfl (.tmp 22) (.tmp 24) rfl rfl (RF.out.below a1.out) rfl (m:=1) (news:=[.int .i64 (i:Int)]) rfl (by intro j u hu;rw[Addr.add_lit,cell_of_row _ wr.heap.size (0+j) #[.int .i64 (i:Int)] 3 (0,0) (heap_alloc_new wr _)];simpa using hu) (by simp[Value.oneCell']) (by have:=E.out;have:=A.out;have:=fP! i;have:=f.out;have:=R2.out.size;rw[ad!];simp at *;omega) (by have:=E.out;have:=A.out;have:=fP! i;have:=f.out;have:=R2.out.size;rw[ad!];simp at *;omega) (by have:=E.out;have:=A.out;have:=fP! i;have:=f.out;have:=R2.out.size;have:=a1.out.size;omega) ?_;intro v6 w6 hown6 hb6 hg6;have ar:=h! (show Own w6 l 3 1 v6 (ic (upI (i+1)))from by rw[lg!,cJ!];exact hown6);have b4:=h! (show Below l w1 w6 from hh! (R2.out.trans (a1.out.mono (by have:=R2.out.size;have:=f.out;omega))) (RF.out.below a1.out) hg6 (by have:=R2.out.size;have:=a1.out.size;have:=f.out;omega));clear hown6 hb6 hg6))
   go_roundw
   case rel=>exact⟨i+1,A.out,by first | rw[a0.out] | go_num,ar.out,b4.out⟩
   case measure=>have:=A.out;(try rw[a0.out]);simp[intOf];omega
  ·obtain rfl:i=n:=by omega
   obtain⟨w2,aO⟩:=e! wr;rw[<-aO]at RF R2 ⊢;clear hlt hi aO;have aU:=h! (ST.out.keep BD.out fun b hb=>R2.out.block b hb);have B2:=h! (a9.out.trans (R2.out.mono o.out));have L2:=h! (show l<=w2.heap.size from by have:=R2.out.size;have:=f.out;omega);clear R2;go_wp2_with fail
   go_loopw [6,8] (fun qv rv wr=>∃(r:Nat) (W:List Int),rv= .int .i64 ((r+1:Nat):Int)/\Own wr l 3 1 qv (ic W)/\(∀x∈W,0<=x/\x<(i:Int))/\W.Nodup/\Wide fs s i r W/\(r<=cntT (inN fs s i r)\/(W=[]/\r<=i+1))/\StAt wr lo sp gi gr ub i (.slice ap i cp) (.slice af fs.length cf) s (inN fs s i r) (outN fs s i r) U vs/\Below lo wb wr/\l<=wr.heap.size) (fun _ rv _=>i+3-(intOf rv).toNat)
   case atStart=>exact⟨0,_,rfl,RF.out,my! i,jr! i,lf! fs s i 0,.inl (v1! _),aU.out,B2.out,L2.out⟩
   case round =>
    obtain⟨r,W,rfl,hw,aE,aC,aX,aK,p,C,aM⟩:=hrel;have RW:=h! hw;have RM:=h! aE;have RN:=h! aC;have ae:=h! aX;have RC:=h! aK;have RS:=h! p;have RL:=h! C;have RZ:=h! aM;obtain⟨rz,ad⟩:∃z:Int,z=((r+1:Nat):Int):=⟨_,rfl⟩;rw[<-ad];have aj:=h! ad;obtain⟨be,bk,bf,rfl,aL,-,-⟩:=hw.sl.len;rw[ad!,Nat.mul_one]at aL;subst aL;clear hw aE aC aX aK p C aM ad RF aU B2 L2 ST;by_cases h0:W=[]
    ·subst h0
     have b5:Hid (outN fs s i r=aI! fs s i):=h! (nw! fun j hj=>by
      cases hc:newS fs s (inN fs s i r) j with
      | false=>rfl
      | true=>exact absurd (ae.out j hj hc) (by simp))
     have ax:=RS.out.rnd;rw[b5.out]at ax;have al:=h! ax;have bd:=h! (RB.out wr RL.out);have ai:=RS.out.box.cells;clear ax;go_wp2_with fail
     go_ret
     exact⟨⟨_,rfl,by
      obtain⟨m,h1,h2⟩:=al.out;rcases h2 with⟨h2,_⟩|⟨g',cap,cur,hv,hbg,hg,hr⟩
      ·cases h2
      ·exact⟨m,h1,.inr ⟨g',cap,cur,hv,by have:=(RB.out wb (Below.refl _ _)).size;have:=D.out;omega,hg,hr⟩⟩⟩,bd.out⟩
    ·have aW:Hid (0<W.length):=h! (List.length_pos_iff.2 h0);have b7:(0:Int)<(W.length:Int):=by have:=aW.out;omega
     have aR:Hid (r<=cntT (inN fs s i r)):=h! (RC.out.elim id fun h=>absurd h.1 h0);have ay:Hid (r<=i):=h! (n6! aR.out (nA! _ _ _ _))
     have am:=h! (show W.length<=i from by
      have h1:=cI! RN.out (u:=upI i) fun x hx=>by
       obtain⟨h2,h3⟩:=RM.out x hx;exact u6!.2 ⟨x.toNat,List.mem_range.2 (by omega),by omega⟩
      rwa[fP!]at h1)
     have aN:=h! (kg! s ps fs (.slice ap i cp) (.slice af fs.length cf) lo l sp gi gr ub i (inN fs s i r) W (.slice be W.length bf) wr (RG.out wr RL.out) RS.out.box RS.out.inn RW.out o.out (by have:=RZ.out;have:=o.out;omega) (by have:=am.out;have:=E.out;omega) RM.out);clear h0;go_wp2_with fail
     clear b7;refine aN.out.mono ?_;rintro e w5 ⟨bo,rfl,M,-,ab⟩;have aP:=h! (fun j (hj:j<i)=>ae.out.fresh hj)
     have T:=h! (show ∀x∈frW fs s (inN fs s i r) W,(0<=x/\x<(i:Int))/\newS fs s (inN fs s i r) x.toNat=true from fun x hx=>by
      unfold frW at hx;rw[List.mem_filter]at hx;exact⟨RM.out x hx.1,hx.2⟩)
     have aD:=h! (show(frW fs s (inN fs s i r) W).Nodup from RN.out.filter _);have bg:=h! (show(frW fs s (inN fs s i r) W).length<=i from n6! (x8! _ _) am.out);have a3:Hid (∀j:Nat,j<i->((j:Int)∈frW fs s (inN fs s i r) W↔newS fs s (inN fs s i r) j=true)):=h! aP.out;have b0:=h! M;have S5:=h! (RS.out.keep BD.out fun b hb=>ab.block b ⟨by have:=RZ.out;omega,fun e=>by have:=(RW.out.block b e).1;omega⟩);have B5:=h! (show Below lo wb w5 from RL.out.trans (Kept.below (B:=lo) ab fun b hb=>⟨by have:=RZ.out;have:=o.out;omega,fun e=>by have:=(RW.out.block b e).1;have:=o.out;omega⟩));obtain⟨H,J⟩:∃y,Hid (w5.heap.size=y):=⟨_,h! rfl⟩;have L3:=h! (show l<=H from by have:=ab.size;have:=RZ.out;have:=J.out;omega);obtain⟨fo,fm,fc,rfl,hfm,-,-⟩:=M.sl.len;rw[ad!,Nat.mul_one]at hfm;have aG:=h! (fun g (hg:(Value.slice fo fm fc).ownBlock=some g)=>(M.block g hg).2);rw[J.out]at aG;generalize frW fs s (inN fs s i r) W=F at *;subst hfm;clear M ab aN aP RS RL RZ RW ae RM RN aW am RC;go_wp2_with fail
     go_loopw [10,37] (fun nv jv wr=>∃(j:Nat) (L:List Bool) (R:List Int),j<=F.length/\jv= .int .i64 j/\InvR fs s i r F j L R/\StAt wr lo sp gi gr ub i (.slice ap i cp) (.slice af fs.length cf) s L R U vs/\Own wr H 3 1 nv (ic (nextL U (F.take j)))/\Own wr l 3 1 (.slice fo F.length fc) (ic F)/\Below lo wb wr/\H<=wr.heap.size) (fun _ jv _=>F.length-(intOf jv).toNat)
     case atStart=>exact⟨0,_,_,v1! _,rfl,InvR.start fs s i r F,S5.out,Own.nil _ _ _ _,b0.out,B5.out,v4! J.out.symm⟩
     case round =>
      obtain⟨j,L,R,hj,rfl,Z,p,ak,M,C,aZ⟩:=hrel;have HI:=h! Z;have HS:=h! p;have HN:=h! ak;have HF:=h! M;have HB:=h! C;have HZ:=h! aZ;obtain⟨no,nm,nc,rfl,-⟩:=ak.sl.len;clear Z p ak M C aZ S5 B5 b0;by_cases hlt:j<F.length
      ·have A:=h! hlt;obtain⟨b9,bq,b2,-,-,V⟩:=HF.out.sl.ints;cases b2;obtain⟨b,ba,rfl,b8,c0⟩:=V j hlt;obtain⟨⟨aw,aV⟩,b6⟩:=T.out F[j] (n5! hlt);obtain⟨k,hk⟩:=Int.eq_ofNat_of_zero_le aw;have bh:k<i:=by omega
       have aq:=h! bh;have av:=h! (HI.out.step hlt aw aV);have aY:=h! (in! (U:=U) hlt);have a4:=h! (show(nextL U (F.take j)).length<=1000000000000 from n6! (lJ! aD.out (fun x hx=>by rw[a2.out.2];exact(T.out x hx).1) j) a2.out.1);have a0:=h! (show wrap64 ((j:Int)+1)=((j+1:Nat):Int)from by have:=bg.out;have:=E.out;unfold wrap64;omega);replace c0:=c0.trans (congrArg (fun z=>some (Value.int .i64 z)) hk);rw[show F[j].toNat=k by omega]at av aY;rw[<-aj.out]at av;have bl:(j:Int)<(F.length:Int):=by omega
       have bp:(k:Int)<(i:Int):=by omega
       have ai:=HS.out.box.cells;clear V b8 aw aV b6 hk hlt;go_wp2_with fail
       obtain⟨wd,a8⟩:=e! (World.drew wr);have DX:=h! (show Ext wr wd from xd! a8);refine r! (Kept (fun x=>x<wd.heap.size/\x≠gi/\x≠gr) wd) (by rw[<-a8];exact Kept.refl _ _) ?_;rw[<-a8];clear a8 ai c0;have SD:=h! (HS.out.keep (w':=wd) HS.out.bounds fun b hb=>DX.out.block b hb);have SS:=h! (SD.out.set k rz)
       have G:sp≠gi/\sp≠gr:=⟨fun e=>by
        obtain⟨c2,h2⟩:=SD.out.inn.typed (g:=gi) rfl;rw[<-e,show wd.heap[sp]?=_ from SD.out.box]at h2;injection h2 with h2
        injection h2 with _ h2 _
        exact absurd h2 (by decide),fun e=>by
        obtain⟨c2,h2⟩:=SD.out.rnd.typed (g:=gr) rfl;rw[<-e,show wd.heap[sp]?=_ from SD.out.box]at h2;injection h2 with h2
        injection h2 with _ h2 _
        exact absurd h2 (by decide)⟩
       have g1:=fun W (h:Kept (fun x=>x<wd.heap.size/\x≠gi/\x≠gr) wd W)=>(h.blk SD.out.box ⟨SD.out.box.lt,G.1,G.2⟩).cells;(refine WalkN.tk [0,1,2,3,4,5,6,7,8,9,10,11] ?_;(iterate 12 (refine c! ?_));refine TkN.n ?_)
       clear g1 G;obtain⟨I,X,aA,O,q⟩:=SD.out.inn.cellAt;obtain⟨y1,d1⟩:∃y,wd.cell? ⟨gi,k,none⟩=some y:=⟨_,q k (by omega)⟩;have f1:=O.free;clear I q O;refine ob! 12 ?_;intro K hK;go_simp;refine hK.out _ _ (Kept.set (Kept.refl _ _) (a:=⟨gi,k,none⟩) (fun h=>h.2.1 rfl) _) ?_;clear hK d1 f1;refine t! 13 ?_
       have aQ:gi≠gr:=fun e=>by
        have h1:=SD.out.rnd;rw[<-e]at h1;exact SD.out.inn.apart h1 (by decide) rfl rfl
       have aB:Own (wd.setCell ⟨gi,k,none⟩ (.bool true)) lo 3 1 (.slice (some ⟨gr,0,none⟩) i i) (ic R):=SD.out.rnd.keepOwn fun g hg=>Below.heap_setCell _ _ _ _ (by obtain rfl:gr=g:=v5! hg;exact fun e=>aQ e.symm);obtain⟨I,a5,aA,O,q⟩:=aB.cellAt;obtain⟨y2,d2⟩:∃y,(wd.setCell ⟨gi,k,none⟩ (.bool true)).cell? ⟨gr,k,none⟩=some y:=⟨_,q k (by omega)⟩;have f2:=O.free;clear I q O aB aQ;refine ob! 14 ?_;intro K hK;go_simp;refine hK.out _ _ (Kept.set (Kept.set (Kept.refl _ _) (a:=⟨gi,k,none⟩) (fun h=>h.2.1 rfl) _) (a:=⟨gr,k,none⟩) (fun h=>h.2.2 rfl) _) ?_;clear hK d2 f2;refine d! ?_;have B7':Below lo wb ((wd.setCell ⟨gi,k,none⟩ (.bool true)).setCell ⟨gr,k,none⟩ (.int .i64 rz)):=Below.setCell (Below.setCell (HB.out.trans (DX.out.mono (by have:=HZ.out;have:=L3.out;have:=o.out;omega))) X _) a5 _
       have a7:∀b,b≠gi->b≠gr->((wd.setCell ⟨gi,k,none⟩ (.bool true)).setCell ⟨gr,k,none⟩ (.int .i64 rz)).heap[b]?=wd.heap[b]?:=fun b h1 h2=>by
        rw[Below.heap_setCell _ _ _ _ h2,Below.heap_setCell _ _ _ _ h1]
       have ah:H<=((wd.setCell ⟨gi,k,none⟩ (.bool true)).setCell ⟨gr,k,none⟩ (.int .i64 rz)).heap.size:=by have h1:=HZ.out;have h2:=DX.out.size;simp;omega
       obtain⟨w7,aS⟩:=e! ((wd.setCell ⟨gi,k,none⟩ (.bool true)).setCell ⟨gr,k,none⟩ (.int .i64 rz));rw[<-aS]at SS B7' a7 ah ⊢;have N7:=h! (show Own w7 H 3 1 (.slice no nm nc) (ic (nextL U (F.take j)))from(HN.out.below DX.out).keepOwn fun g hg=>a7 g (by have h1:=(HN.out.block g hg).1;have:=BD.out.gi;have:=L3.out;omega) (by have h1:=(HN.out.block g hg).1;have:=BD.out.gr;have:=L3.out;omega));have F7:=h! (show Own w7 l 3 1 (.slice (some ⟨b,ba,none⟩) F.length fc) (ic F)from(HF.out.below DX.out).keepOwn fun g hg=>a7 g (by have h1:=(HF.out.block g hg).1;have:=BD.out.gi;omega) (by have h1:=(HF.out.block g hg).1;have:=BD.out.gr;omega));have B7:=h! B7';have Z7:=h! ah;obtain⟨v,hv⟩:∃v,vs[k]?=some v:=⟨_,n4! (by rw[SS.out.use.vlen];exact aq.out)⟩;have R7:=h! (SS.out.use.row k v hv);obtain⟨vo,vm,vc,rfl,-,-,-⟩:=R7.out.sl.len;have ai:=SS.out.box.cells;obtain⟨I,-,aA,O,q⟩:=SS.out.use.arr.cellAt
       have bn:w7.cell? ⟨ub,k,none⟩=some (.slice vo vm vc):=by
        rw[q k (by rw[I];exact aq.out)];rw[n4! (by rw[I];exact aq.out)]at hv;exact hv
       have aJ:=h! (n6! (iz! U k) a2.out.1);clear aS I q O hv B7' a7 ah X a5 SD HN HF HB HS HI;go_wp2_with (at_builtin;go_must (refine hr! intsT rfl (.tmp 54) (.tmp 61) rfl rfl N7.out rfl R7.out.sl (nZ! _) (by have:=a4.out;have:=aJ.out;rw[ad!,ad!];omega) (by have:=a4.out;have:=aJ.out;rw[ad!,ad!];omega) Z7.out ?_;intro v6 w6 hown6 hb6 hg6;have ar:=h! (show Own w6 H 3 1 v6 (ic (nextL U (F.take (j+1))))from by rw[aY.out,cJ!];exact hown6);have S6:=h! (SS.out.keep BD.out fun b hb=>hb6.block b (by have:=L3.out;omega));have F6:=h! (F7.out.keepOwn fun g hg=>hb6.block g (aG.out g hg));have B6:=h! (B7.out.trans (hb6.mono (by have:=L3.out;have:=o.out;omega)));have Z6:=h! (n6! Z7.out hb6.size);clear hown6 hb6 hg6))
       go_roundw
       case rel=>exact⟨j+1,_,_,A.out,by first | rw[a0.out] | go_num,av.out,S6.out,ar.out,F6.out,B6.out,Z6.out⟩
       case measure=>have:=A.out;(try rw[a0.out]);simp[intOf];omega
      ·obtain rfl:j=F.length:=by omega
       obtain⟨rfl,rfl⟩:=HI.out.done a3.out;rw[u2!]at HN;have aI:=h! (show wrap64 (rz+1)=((r+1+1:Nat):Int)from by have:=aj.out;have:=ay.out;have:=E.out;unfold wrap64;omega);have a4:=h! (show(nextL U F).length<=1000000000000 from n6! (ge! aD.out (fun x hx=>by rw[a2.out.2];exact(T.out x hx).1)) a2.out.1);have aF:=h! (show ∀x,x∈nextL U F↔∃k∈F,x∈U.getD k.toNat []from fun x=>by unfold nextL;rw[List.mem_flatMap])
       have bb:=h! (show ∀x∈nextL U F,0<=x/\x<(i:Int)from fun x hx=>by
        obtain⟨k,hk,hx⟩:=(aF.out x).1 hx;obtain⟨⟨h1,h2⟩,-⟩:=T.out k hk;obtain⟨m,_,rfl,h3,-⟩:=(UO.out k.toNat (by omega) x).1 hx;omega)
       have bj:=h! (Wide.next (fs:=fs) (s:=s) (r:=r) UO.out a3.out aF.out)
       have b3:=h! (show r+1<=cntT (inN fs s i (r+1))\/(nextL U F=[]/\r+1<=i+1)from by
        by_cases hF:F=[]
        ·exact .inr ⟨by rw[hF];rfl,by have:=ay.out;omega⟩
        ·left
         obtain⟨⟨h1,h2⟩,h3⟩:=T.out F[0]! (by
          rw[getElem!_pos F 0 (List.length_pos_iff.2 hF)];exact n5! _)
         have h4:=mj! (by omega) h3;have:=aR.out;omega)
       generalize nextL U F=N at *;have aT:=h! (hH! HN.out (by have:=a4.out;omega));clear hlt hj;go_wp2_with fail
       refine aT.out.mono ?_;rintro e w6 ⟨rfl,az,a6⟩;have O6:=h! az;have K6:=h! (show ∀b,b<H->w6.heap[b]?=wr.heap[b]? from fun b hb=>a6.block b ⟨by have:=HZ.out;omega,fun e=>by have:=(HN.out.block b e).1;omega⟩);have bc:=h! (show Below lo wr w6 from Kept.below (B:=lo) a6 fun b hb=>⟨by have:=HZ.out;have:=L3.out;have:=o.out;omega,fun e=>by have:=(HN.out.block b e).1;have:=L3.out;have:=o.out;omega⟩);have ao:=h! a6.size;have b1:=h! (fI! _ _ w6 az (by rw[List.length_mergeSort];have:=a4.out;omega));clear az a6 aT;go_wp2_with fail
       refine b1.out.mono ?_;rintro e w7 ⟨v',rfl,ag,-,ac⟩;have O7:Hid (Own w7 l 3 1 v' (ic (setI N))):=h! (ag.low L3.out);have S7:=h! (HS.out.keep BD.out fun b hb=>(ac.block b ⟨by have:=HZ.out;have:=ao.out;have:=L3.out;omega,fun e=>by have:=(O6.out.block b e).1;have:=L3.out;omega⟩).trans (K6.out b (by have:=L3.out;omega)));have B7:=h! (show Below lo wb w7 from HB.out.trans (bc.out.trans (Kept.below (B:=lo) ac fun b hb=>⟨by have:=HZ.out;have:=ao.out;have:=L3.out;have:=o.out;omega,fun e=>by have:=(O6.out.block b e).1;have:=L3.out;have:=o.out;omega⟩)));have Z7:=h! (show l<=w7.heap.size from by have:=ac.size;have:=HZ.out;have:=ao.out;have:=L3.out;omega);obtain⟨vo,vm,vc,rfl,-,-,-⟩:=ag.sl.len;clear ag ac b1;go_wp2_with fail
       go_roundw
       case rel=>exact⟨r+1,setI N,by first | rw[aI.out] | go_num,O7.out,fun x hx=>bb.out x ((fp! N x).1 hx),hL! N,fun m hm h=>(fp! N _).2 (bj.out m hm h),b3.out.imp id (fun h=>⟨by rw[h.1];exact List.eq_nil_iff_forall_not_mem.2 fun x hx=>by have:=(fp! [] x).1 hx;simp at this,h.2⟩),S7.out,B7.out,Z7.out⟩
       case measure=>have:=ay.out;have:=aj.out;(try rw[aI.out]);simp[intOf];omega
end Go.Proofs.YtlhaghoajpglaaaGreat
