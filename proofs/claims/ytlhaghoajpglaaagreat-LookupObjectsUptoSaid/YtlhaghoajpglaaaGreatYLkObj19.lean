/- Lemmas for the claim, no condition. -/
import Derived.Shelf.SortM.Plain
import Derived.Shelf.SortM.SortNone
import Derived.Test.YtlhaghoajpglaaaGreatYLkObj18
import Derived.Shelf.SortM.SortNone
set_option maxRecDepth 100000
set_option maxHeartbeats 8000000
namespace Go.Proofs.YtlhaghoajpglaaaGreat
open Go Go.RowKit Go.Sort Go.Shelf Go.Proofs.Tryz
theorem kY! {P:Program}{ρ:Ren}(L:SlLaysM.n5 P ρ) {w:World}{B:Nat}{T:TypeId}{v:Value}{l:List Int}(h:Own w B T 1 v (ic l))(hl:l.length<4611686018427387904) :
  Calls P (ρ.f 5) #[v] w fun e w'=>e= .returned (.tuple #[])/\Own w' B T 1 v (ic (l.mergeSort fun x y=>decide (x<=y)))/\Kept (fun b=>b<w.heap.size/\v.ownBlock≠some b) w w':=by
 obtain⟨n,g,a⟩:=h;rw[ad!,Nat.mul_one]at g;subst g;by_cases h0:l=[]
 ·subst h0
  have hv:∃p c,v= .slice p 0 c:=by
   rcases a with⟨rfl,_⟩|⟨b,cap,cur,rfl,_⟩
   ·exact⟨_,_,rfl⟩
   ·exact⟨_,_,rfl⟩
  have o:Own w B T 1 v (ic []):=⟨0,by simp[ic],a⟩;obtain⟨p,c,rfl⟩:=hv;refine(AnyM.slices_Sort_int_none L p c w).mono ?_;rintro e w' ⟨rfl,rfl⟩;exact⟨rfl,by simpa using o,Kept.refl _ _⟩
 ·have a4:0<l.length:=List.length_pos_iff.2 h0;rcases a with⟨rfl,hx⟩|⟨b,cap,cur,rfl,hB,hb,hnc,hcm,hcs,htake⟩
  ·exfalso
   omega
  ·have i:b<w.heap.size:=(x7!.1 hb).1
   have k:∀j (hj:j<l.length),cur[j]?=some (.int .i64 l[j]):=fun j hj=>by
    have e1:(cur.toList.take (l.length*1))[j]?=cur[j]?:=by rw[List.getElem?_take,if_pos (by omega)];simp
    rw[<-e1,htake];simp[ic,hj]
   have hH:Holds (Value.int .i64) w b 0 l.toArray:=fun j hj=>by
    have hj':j<l.length:=by simpa using hj
    refine⟨?_,frozen_of_row w b (0+j) cur T hb⟩;rw[cell_of_row w b (0+j) cur T (0,0) hb,Nat.zero_add,k j hj',getElem!_pos _ j hj];simp
   refine(AnyM.slices_Sort_int L b 0 cap l w hH i hl).mono ?_;rintro e w' ⟨rfl,m,os,rfl⟩;have a3:(l.mergeSort fun x y=>decide (x<=y)).length=l.length:=List.length_mergeSort _;generalize l.mergeSort (fun x y=>decide (x<=y))=d at *;refine⟨rfl,⟨l.length,by rw[ad!,a3,Nat.mul_one],.inr ⟨b,cap,putCells (Value.int .i64) 0 d.toArray cur,rfl,hB,?_,hnc,hcm,?_,?_⟩⟩,?_⟩
   ·simp only[putRow,mapBlock,grow,heap_ahead];rw[Array.getElem?_append_left (by simpa using i),Array.getElem?_modify,if_pos rfl,hb];rfl
   ·simp[putCells,hcs]
   ·apply List.ext_getElem?;intro t;rw[List.getElem?_take];split
    ·rename_i ht
     have a1:t<cur.size:=by omega
     have a2:t<d.length:=by omega
     simp only[putCells,Array.getElem?_toList,Array.getElem?_mapIdx];rw[Array.getElem?_eq_getElem a1];simp[a2,ic]
    ·rename_i ht
     rw[y0! (by rw[ad!];omega)]
   ·refine⟨rfl,rfl,rfl,by simp[putRow,grow,mapBlock,heap_ahead],fun c hc=>?_⟩;have a0:c≠b:=fun e=>hc.2 (by subst e;rfl);simp only[putRow,mapBlock,grow,heap_ahead];rw[Array.getElem?_append_left (by simpa using hc.1),Array.getElem?_modify,if_neg (Ne.symm a0)]
end Go.Proofs.YtlhaghoajpglaaaGreat
namespace Go.Proofs.YtlhaghoajpglaaaGreat
open Go Go.Maps Go.RowKit Go.Proofs.Tryz
def ddnI (l:List Int):Nat->List Int
 | 0 => []
 | m+1=>ddnI l m++(if m=0\/l[m]?≠l[m-1]? then l[m]?.toList else [])
def ddI (l:List Int):List Int:=ddnI l l.length
theorem kl! (l:List Int)(x:Int):∀m,x∈ddnI l m↔∃j,j<m/\l[j]?=some x:=by
 intro m;induction m with
 | zero=>simp[ddnI]
 | succ m ih =>
  rw[ddnI,u3!,ih];constructor
  ·rintro(⟨j,hj,h⟩ | h)
   ·exact⟨j,by omega,h⟩
   ·split at h
    ·exact⟨m,Nat.lt_succ_self m,by simpa using h⟩
    ·cases h
  ·rintro⟨j,hj,h⟩;by_cases hjm:j<m
   ·exact .inl ⟨j,hjm,h⟩
   ·obtain rfl:j=m:=by omega
    by_cases hc:j=0\/l[j]?≠l[j-1]?
    ·rw[if_pos hc];exact .inr (by simp[h])
    ·left
     have h0:j≠0:=fun e=>hc (.inl e);have h1:l[j]?=l[j-1]?:=Classical.byContradiction fun e=>hc (.inr e);exact⟨j-1,by omega,by rw[<-h1];exact h⟩
theorem pl! (l:List Int)(x:Int):x∈ddI l↔x∈l:=by
 unfold ddI;rw[kl!,List.mem_iff_getElem?];constructor
 ·rintro⟨j,_,h⟩;exact⟨j,h⟩
 ·rintro⟨j,h⟩;exact⟨j,(y3!.1 h).1,h⟩
theorem mH! (l:List Int)(hs:l.Pairwise fun a b=>a<=b):∀m,m<=l.length->(ddnI l m).Pairwise fun a b=>a<b
 | 0,_=>List.Pairwise.nil
 | m+1,hm=>by
  have ih:=mH! l hs m (by omega);rw[ddnI];split
  ·next hc =>
   have hlm:l[m]?=some l[m]:=n4! (by omega);rw[hlm,List.pairwise_append];refine⟨ih,by simp,fun x hx y hy=>?_⟩;obtain rfl:y=l[m]:=by simpa using hy
   obtain⟨j,hj,a0⟩:=(kl! l x m).1 hx;obtain⟨c,rfl⟩:=y3!.1 a0;have hp:=fun(a b:Nat) (ha:a<l.length) (hb:b<l.length) (hab:a<b)=>x3!.1 hs a b ha hb hab;have h1:=hp j m c (by omega) hj;rcases hc with hc | hc
   ·omega
   ·have a1:l[m-1]?=some (l[m-1]'(by omega)):=n4! _;rw[hlm,a1]at hc;have h2:l[m]≠l[m-1]'(by omega):=fun e=>hc (congrArg some e);have h3:=hp (m-1) m (by omega) (by omega) (by omega);by_cases hj1:j=m-1
    ·subst hj1;omega
    ·have h4:=hp j (m-1) c (by omega) (by omega);omega
  ·simpa using ih
theorem lX! {l:List Int}(hs:l.Pairwise fun a b=>a<=b):(ddI l).Nodup:=(mH! l hs _ (n0! _)).imp fun h e=>by omega
theorem dp! (l:List Int):∀m,m<=l.length->(∀j,0<j->j<m->l[j]?≠l[j-1]?)->ddnI l m=l.take m
 | 0,_,_=>by simp[ddnI]
 | m+1,hm,h=>by
  rw[ddnI,dp! l m (by omega) fun j h0 h1=>h j h0 (by omega),List.take_add_one];congr 1
  rw[if_pos];by_cases h0:m=0
  ·exact .inl h0
  ·exact .inr (h m (by omega) (by omega))
theorem lW! {l:List Int}(h:l.length<2):ddI l=l:=by
 unfold ddI;rw[dp! l _ (n0! _) fun j h0 h1=>by omega,u2!]
def setI (l:List Int):List Int:=ddI (l.mergeSort fun x y=>decide (x<=y))
theorem fW! (l:List Int)(x:Int):x∈setI l↔x∈l:=by
 unfold setI;rw[pl!,List.mem_mergeSort]
theorem iM! (l:List Int):(setI l).Nodup:=lX! ((List.pairwise_mergeSort (le:=fun x y:Int=>decide (x<=y)) (by intro a b c h1 h2;simp at *;omega) (by intro a b;simp;omega) l).imp fun h=>by simpa using h)
theorem ia! (w:World)(ps:List Int)(pv:Value)(g:Nat)(cap:Array Value)(eg:∀args W,(callFunc g args).run prog W= .ok (.enter g args) W)(q:Int->Bool)(hat:Sl (· < w.heap.size) w 1 pv (ic ps))(hf:∀i (hi:i<ps.length) W,Below w.heap.size w W->Calls prog g (#[.int .i64 ps[i]]++cap) W fun e W'=>e= .returned (.bool (q ps[i]))/\Below W.heap.size W W') :
  Calls prog 252 #[pv,.func (.func g) #[] cap] w fun e w'=>((∃i:Nat,e= .returned (.int .i64 (i:Int))/\i<ps.length/\(∃x,ps[i]?=some x/\q x=true)/\∀j (hj:j<ps.length),j<i->q ps[j]=false)\/(e= .returned (.int .i64 (-1))/\∀j (hj:j<ps.length),q ps[j]=false))/\Below w.heap.size w w':=by
 obtain⟨ao,n,c,rfl,hn,a3,a2⟩:=hat.len;rw[ad!,Nat.mul_one]at hn;subst hn;have HC:=h! (jL! hat);have HF:=h! hf;clear hat hf;go_enter func252,ntmps252
 go_wp2_with fail
 go_loopw [5,8] (fun _ ii wr=>∃i:Nat,i<=ps.length/\ii= .int .i64 i/\(∀j (hj:j<ps.length),j<i->q ps[j]=false)/\Below w.heap.size w wr) (fun _ ii _=>ps.length-(intOf ii).toNat)
 case atStart=>exact⟨0,by omega,rfl,fun _ _ h=>absurd h (by omega),Below.refl _ _⟩
 case round =>
  obtain⟨i,hi,rfl,d,a⟩:=hrel;have b:=h! d;clear d;by_cases hlt:i<ps.length
  ·have m:=h! (fun h=>ah! (p:=fun j hj=>q ps[j]=false) b.out hlt h);have k:=h! (fun(h:q ps[i]=true)=>(show i<ps.length/\(∃x,ps[i]?=some x/\q x=true)/\∀j (hj:j<ps.length),j<i->q ps[j]=false from⟨hlt,⟨_,n4! hlt,h⟩,b.out⟩));obtain⟨bb,a1,a0,hb,c0⟩:=HC.out i hlt;cases a0;have d0:=(a.cell (p:=⟨bb,a1+i,none⟩) hb).trans c0;have o:=h! (HF.out i hlt wr a);clear c0 hb;generalize ps[i]=p at *;have r:=h! a;clear a;cases hq:q p with
   | true =>
    rw[hq]at o;have HT:=h! (k.out hq);clear m k hq;go_wp2_with fail
    refine o.out.mono ?_;rintro e w5 ⟨rfl,f⟩;have l:=h! (r.out.trans (f.mono r.out.size));clear o f d0;go_wp2_with fail
    go_ret
    exact⟨.inl ⟨i,rfl,HT.out⟩,l.out⟩
   | false =>
    rw[hq]at o;have HN:=h! (m.out hq);clear m k hq;go_wp2_with fail
    refine o.out.mono ?_;rintro e w5 ⟨rfl,f⟩;have l:=h! (r.out.trans (f.mono r.out.size));clear o f d0;go_wp2_with fail
    go_roundw
    case rel=>exact⟨i+1,by omega,by go_num,HN.out,l.out⟩
    case measure=>simp[intOf];omega
  ·obtain rfl:i=ps.length:=by omega
   have r:=h! a;clear a;go_wp2_with fail
   go_ret
   exact⟨.inr ⟨rfl,fun j hj=>b.out j hj hj⟩,r.out⟩
theorem pp! {w:World}{B:Nat}{g n c:Nat}{R:List Int}(h:Own w B 3 1 (.slice (some ⟨g,0,none⟩) n c) (ic R))(hn:n=R.length)(q:Nat)(hq:q<n)(ty:TypeId)(c':Nat) :
  ∃vs,(Builtin.clear_ #[107] ty #[.slice (some ⟨g,q,none⟩) (n-q) c']).run prog w= .ok (.tuple #[]) (w.setCells g q vs):=by
 obtain⟨a1,b⟩:=h.typed (g:=g) rfl;have a0:=Blk.free (show Blk w g a1 3 from b);obtain⟨-,-,cs,hB,a⟩:=h.cellAt;have hz:=Tryz.zeroValue3;refine⟨(Builtin.zeroCells (Value.int .i64 0).cells (n-q)).toList,?_⟩
 have d:(Builtin.zeroCells (Value.int .i64 0).cells (n-q)).toList.length=n-q:=by
  simp[Builtin.zeroCells,Value.cells]
 have e:=run_storeCells_cells (P:=prog) g q (Builtin.zeroCells (Value.int .i64 0).cells (n-q)).toList 0 w
  (fun j hj=>by
   rw[d]at hj;have a2:q+j<(ic R).length:=by rw[ad!];omega
   have:=a (q+j) a2;simp only[Nat.add_zero];rw[this];rfl)
  (fun j hj=>a0 _)
  (by
   intro v hv;simp only[Builtin.zeroCells,Value.cells,Array.toList_map,Array.toList_range,u6!,List.mem_range]at hv;obtain⟨i,hi,rfl⟩:=hv;have h0:i % (#[Value.int .i64 0]:Array Value).size=0:=Nat.mod_one i;rw[h0];rfl)
 simp only[Nat.add_zero]at e;obtain⟨m,hm⟩:∃m,n-q=m+1:=⟨n-q-1,by omega⟩;rw[hm]at e ⊢;simp[Builtin.clear_,run_underlying Tryz.underlying107,hz,e]
theorem Own.intAt {w:World}{B:Nat}{g n c:Nat}{l:List Int}(h:Own w B 3 1 (.slice (some ⟨g,0,none⟩) n c) (ic l))(k:Nat)(hk:k<l.length):w.cell? ⟨g,k,none⟩=some (.int .i64 l[k]):=by
 obtain⟨-,-,cs,hB,hc⟩:=h.cellAt;rw[hc k (by rw[ad!];exact hk)];simp[ic]
theorem Own.setI {w:World}{B:Nat}{g n c:Nat}{l:List Int}(h:Own w B 3 1 (.slice (some ⟨g,0,none⟩) n c) (ic l))(k:Nat)(x:Int):Own (w.setCell ⟨g,k,none⟩ (.int .i64 x)) B 3 1 (.slice (some ⟨g,0,none⟩) n c) (ic (l.set k x)):=by
 have:=h.set1 k (.int .i64 x);rwa[show(ic l).set k (.int .i64 x)=ic (l.set k x)from by unfold ic;rw[List.map_set]]at this
theorem Own.cutI {w:World}{B:Nat}{g n c:Nat}{R:List Int}(h:Own w B 3 1 (.slice (some ⟨g,0,none⟩) n c) (ic R)) {q:Nat}(hq:q<=n)(vs:List Value):Own (w.setCells g q vs) B 3 1 (.slice (some ⟨g,0,none⟩) q c) (ic (R.take q)):=by
 have h1:=(Own.setMany vs q h).cutT (k:=q) hq;rw[Nat.mul_one,ez! _ _ _ _ (n0! _),show(ic R).take q=ic (R.take q)from by unfold ic;rw[List.map_take]]at h1;exact h1
theorem Own.at0 {w:World}{B:Nat}{n c:Nat}{ao:Option Addr}{l:List Int}(h:Own w B 3 1 (.slice ao n c) (ic l))(hl:0<l.length):∃g,ao=some ⟨g,0,none⟩:=by
 obtain⟨m,h1,h2⟩:=h;rcases h2 with⟨hv,hx⟩|⟨g',cap,cur,hv,hbg,hg,hr⟩
 ·exfalso
  rw[ad!]at h1;omega
 ·exact⟨g',by injection hv⟩
abbrev RowK (w0 w:World) (v:Value):Prop:=Kept (fun b=>b<w0.heap.size/\v.ownBlock≠some b) w0 w
theorem go! {B:Nat}(v:Value)(l:List Int)(w:World)(h:Own w B 3 1 v (ic l))(hl:l.length<=1099511627776)(g0:Nat)(cap:Array Value)(eg:∀args W,(callFunc g0 args).run prog W= .ok (.enter g0 args) W)(q:Int->Bool)
  (hf:∀i (hi:i<l.length) W,RowK w W v->Calls prog g0 (#[.int .i64 l[i]]++cap) W fun e W'=>e= .returned (.bool (q l[i]))/\Below W.heap.size W W') :
  Calls prog 210 #[v,.func (.func g0) #[] cap] w fun e w'=>∃v',e= .returned v'/\Own w' B 3 1 v' (ic (l.filter fun x=>!q x))/\(∀b,v'.ownBlock=some b->v.ownBlock=some b)/\RowK w w' v:=by
 obtain⟨ao,n,c,rfl,hn,C,I⟩:=h.sl.len;rw[ad!,Nat.mul_one]at hn;subst hn;have HL:=h! hl;have HO:=h! h;have HF:=h! hf;have HC:=h! (And.intro C I);have HI:=h! (ia! w l (.slice ao l.length c) g0 cap eg q (h.sl.mono fun _ h=>h.2) fun i hi W hW=>hf i hi W (Below.kept hW fun _ h=>h.1));clear h hf C I;go_enter func210,ntmps210
 go_wp2_with fail
 refine HI.out.mono ?_;rintro e w1 ⟨a4,u⟩;have T:=h! (HO.out.below u);have K1:Hid (RowK w w1 (.slice ao l.length c)):=h! (Below.kept u fun _ h=>h.1);clear HI u HO;rcases a4 with⟨i0,rfl,hi0,hq0,hall⟩|⟨rfl,hall⟩
 case' inr =>
  have HV:=h! (show(l.filter fun x=>!q x)=l from List.filter_eq_self.2 fun x U=>by
   obtain⟨j,hj,rfl⟩:=u0! U;rw[hall j hj];rfl)
  clear hall;go_wp2_with fail
  go_ret
  exact⟨_,rfl,by rw[HV.out];exact T.out,fun b h=>h,K1.out⟩
 case' inl =>
  obtain⟨g,rfl⟩:=T.out.at0 (by omega)
  have HS:=h! (show l.take i0=(l.take (i0+1)).filter fun x=>!q x from by
   obtain⟨x,U,a3⟩:=hq0;rw[List.take_add_one,U,List.filter_append];simp only[Option.toList_some,List.filter_cons,a3,Bool.not_true,Bool.false_eq_true,if_false,List.filter_nil,List.append_nil]
   exact(List.filter_eq_self.2 fun y hy=>by
    obtain⟨j,hj,rfl⟩:=u0! hy;rw[x4!]at hj;rw[List.getElem_take,hall j (by omega) (by omega)];rfl).symm)
  have D:=h! hi0;have J:wrap64 ((i0:Int)+1)=((i0+1:Nat):Int):=by unfold wrap64;omega
  have a1:((i0:Int) == -1)=false:=by rw[n7!];omega
  clear hq0 hall hi0;go_wp2_with fail
  obtain⟨z,H,hz⟩:∃z:Int,wrap64 ((i0:Int)+1)=z/\Hid (z=((i0+1:Nat):Int)):=⟨_,J,h! rfl⟩;rw[H];clear a1 J H;go_loopw [5,6] (fun iv jv wr=>∃(i j:Nat) (R:List Int),iv= .int .i64 i/\jv= .int .i64 j/\i<j/\j<=l.length/\R.length=l.length/\R.take i=(l.take j).filter (fun x=>!q x)/\(∀m,j<=m->R[m]?=l[m]?)/\Own wr B 3 1 (.slice (some ⟨g,0,none⟩) l.length c) (ic R)/\RowK w wr (.slice (some ⟨g,0,none⟩) l.length c)) (fun _ jv _=>l.length-(intOf jv).toNat)
  case atStart=>exact⟨i0,i0+1,l,rfl,by rw[hz.out],by omega,D.out,rfl,HS.out,fun _ _=>rfl,T.out,K1.out⟩
  case round =>
   obtain⟨i,j,R,rfl,rfl,L,M,F,E,K,ho,hk⟩:=hrel;have Q:=h! ho;have O:=h! hk;have Y:=h! F;have V:=h! E;have QJ:=h! K;have QI:=h! (And.intro L M);clear ho hk F E K L M T K1 HS D;by_cases hlt:j<l.length
   ·have o:=h! hlt;have s:j<R.length:=by rw[Y.out];exact hlt
    have U:R[j]?=l[j]?:=QJ.out _ (n0! _);rw[n4! s,n4! hlt]at U;have k0:=Q.out.intAt j s;rw[v5! U]at k0;have f:=h! (HF.out j hlt wr O.out);have G:=h! (n2! hlt);have a7:(j:Int)<(l.length:Int):=by omega
    have k:=h! (show wrap64 ((j:Int)+1)=((j+1:Nat):Int)/\wrap64 ((i:Int)+1)=((i+1:Nat):Int)from by have:=HL.out;have:=QI.out;unfold wrap64;omega);generalize l[j]=x at *;clear s U hlt;cases hq:q x with
    | true =>
     rw[hq]at f;have t:=h! (show R.take i=(l.take (j+1)).filter (fun x=>!q x)from by rw[G.out,List.filter_append,V.out];simp[hq]);clear hq;go_wp2_with fail
     refine f.out.mono ?_;rintro e Z ⟨rfl,d⟩;have X:=h! (Q.out.below d);have K5:Hid (RowK w Z (.slice (some ⟨g,0,none⟩) l.length c)):=h! (Kept.trans O.out (Below.kept d fun b hb=>n1! hb.1 O.out.size));clear d f k0 Q O;go_wp2_with fail
     go_roundw
     case rel=>exact⟨i,j+1,R,rfl,by first | rw[k.out.1] | go_num,by have:=QI.out;omega,o.out,Y.out,t.out,fun m hm=>QJ.out m (by omega),X.out,K5.out⟩
     case measure=>have:=o.out;(try rw[k.out.1]);simp[intOf];omega
    | false =>
     rw[hq]at f
     have t:=h! (show(R.set i x).take (i+1)=(l.take (j+1)).filter (fun x=>!q x)from by
      rw[G.out,List.filter_append,<-V.out,n2! (by rw[List.length_set,Y.out];have:=QI.out;omega),List.getElem_set_self,List.take_set_of_le (n0! i)];simp[hq])
     have a2:=h! (show ∀m,j+1<=m->(R.set i x)[m]?=l[m]? from fun m hm=>by
      rw[List.getElem?_set_ne (by have:=QI.out;omega)];exact QJ.out m (by omega))
     clear hq;go_wp2_with fail
     refine f.out.mono ?_;rintro e Z ⟨rfl,d⟩;have X:=h! (Q.out.below d);have K5:Hid (RowK w Z (.slice (some ⟨g,0,none⟩) l.length c)):=h! (Kept.trans O.out (Below.kept d fun b hb=>n1! hb.1 O.out.size));have a9:(i:Int)<(l.length:Int):=by have:=QI.out;omega
     obtain⟨y,d1⟩:∃y,Z.cell? ⟨g,i,none⟩=some y:=⟨_,X.out.intAt i (by rw[Y.out];have:=QI.out;omega)⟩;obtain⟨-,-,cs,hB,-⟩:=X.out.cellAt;have f1:=hB.free;have O6:=h! (X.out.setI i x);have K6:Hid (RowK w (Z.setCell ⟨g,i,none⟩ (.int .i64 x)) (.slice (some ⟨g,0,none⟩) l.length c)):=h! (Kept.set K5.out (a:=⟨g,i,none⟩) (fun h=>h.2 rfl) _);clear d f k0 Q O hB;go_wp2_with fail
     go_roundw
     case rel=>exact⟨i+1,j+1,R.set i x,by first | rw[k.out.2] | go_num,by first | rw[k.out.1] | go_num,by have:=QI.out;omega,o.out,by rw[List.length_set];exact Y.out,t.out,a2.out,O6.out,K6.out⟩
     case measure=>have:=o.out;(try rw[k.out.1]);simp[intOf];omega
   ·obtain rfl:j=l.length:=by have:=QI.out;omega
    rw[u2!]at V;have N:i<l.length:=QI.out.1;have aa:(i:Int)<=(l.length:Int):=by omega
    have a5:(0:Int)<=(i:Int):=by omega
    have ab:i<=c:=by have:=HC.out;omega
    have a8:¬ (c=i):=by have:=HC.out;omega
    obtain⟨vs,A⟩:=pp! Q.out Y.out.symm i N 0 (c-i);obtain⟨w8,p⟩:=e! (wr.setCells g i vs);rw[<-p]at A
    have a0:=h! (show Own w8 B 3 1 (.slice (some ⟨g,0,none⟩) i c) (ic (l.filter fun x=>!q x))from by
     have h1:=Q.out.cutI (q:=i) (Nat.le_of_lt N) vs;rw[V.out]at h1;rw[p];exact h1)
    have a6:=h! (show RowK w w8 (.slice (some ⟨g,0,none⟩) l.length c)from by rw[p];exact O.out.setMany (g:=g) (fun h=>h.2 rfl) _ _);clear p hlt Q O V;go_wp2_with ((with_reducible refine bV! (v := .slice (some ⟨g,i,none⟩) (l.length-i) (c-i)) (w':=w8) (r := .tuple #[]) ?hV ?hR ?hK);(case hV=>rfl);(case hR=>exact A);clear A)
    go_ret
    exact⟨_,rfl,a0.out,fun b h=>h,a6.out⟩
theorem gs! {B:Nat}(v:Value)(l:List Int)(w:World)(h:Own w B 3 1 v (ic l))(hl:l.length<=1099511627776) :
  Calls prog 156 #[v] w fun e w'=>∃v',e= .returned v'/\Own w' B 3 1 v' (ic (ddI l))/\(∀b,v'.ownBlock=some b->v.ownBlock=some b)/\RowK w w' v:=by
 obtain⟨ao,n,c,rfl,hn,a5,a7⟩:=h.sl.len;rw[ad!,Nat.mul_one]at hn;subst hn;have HL:=h! hl;have HO:=h! h;have HC:=h! (And.intro a5 a7);clear h;by_cases hlt:l.length<2
 ·have HD:=h! (lW! hlt);have hi:(l.length:Int)<2:=by omega
  go_enter func156,ntmps156
  go_wp2_with fail
  go_ret
  exact⟨_,rfl,by rw[HD.out];exact HO.out,fun b h=>h,Kept.refl _ _⟩
 have hi:¬ ((l.length:Int)<2):=by omega
 obtain⟨g,rfl⟩:=HO.out.at0 (by omega);have H2:Hid (2<=l.length):=h! (by omega);go_enter func156,ntmps156
 go_wp2_with fail
 clear hi hlt;go_loopw [3] (fun kv wr=>∃m:Nat,kv= .int .i64 ((m+1:Nat):Int)/\m+1<=l.length/\(∀j,0<j->j<m+1->l[j]?≠l[j-1]?)/\Own wr B 3 1 (.slice (some ⟨g,0,none⟩) l.length c) (ic l)/\RowK w wr (.slice (some ⟨g,0,none⟩) l.length c)) (fun kv _=>l.length-(intOf kv).toNat)
 case atStart=>exact⟨0,rfl,by have:=H2.out;omega,(fun j h0 h1=>by omega),HO.out,Kept.refl _ _⟩
 case round =>
  obtain⟨m,rfl,hm,s,ho,hk⟩:=hrel;have RO:=h! ho;have RK:=h! hk;have RN:=h! s;have ag:=HL.out;clear HO ho hk s;by_cases hlt:m+1<l.length
  ·have J:=h! hlt;have H:m<l.length:=by omega
   have K:=h! (show l[m+1]≠l[m]->∀j,0<j->j<m+2->l[j]?≠l[j-1]? from fun he j h0 h1=>by
    by_cases hj:j<m+1
    ·exact RN.out j h0 hj
    ·obtain rfl:j=m+1:=by omega
     rw[Nat.add_sub_cancel,n4! hlt,n4! H];exact fun e=>he (by injection e))
   have F:=h! (show l[m+1]=l[m]->l.take (m+1)=ddnI l (m+2)from fun he=>by
    rw[ddnI,if_neg (by
     rintro(h | h)
     ·omega
     ·apply h;rw[Nat.add_sub_cancel,n4! hlt,n4! H];exact congrArg some he),List.append_nil,dp! l (m+1) hm RN.out])
   go_wp2_with fail
   obtain⟨wd,f⟩:=e! wr.drew;have DO:=h! (show Own wd B 3 1 (.slice (some ⟨g,0,none⟩) l.length c) (ic l)from by rw[f];exact RO.out.below (Ext.drew _));have DK:=h! (show RowK w wd (.slice (some ⟨g,0,none⟩) l.length c)from by rw[f];exact Kept.drew RK.out);refine re! f ?_;clear f RO RK;have k0:=fun W (hW:Ext wd W)=>(DO.out.below hW).intAt (m+1) hlt;have j0:=fun W (hW:Ext wd W)=>(DO.out.below hW).intAt m H;have X:=h! (show wrap64 ((m:Int)+1+1)=((m+1+1:Nat):Int)from by unfold wrap64;omega);generalize l[m+1]=x at *;generalize l[m]=y at *;have o:IntKind.i64.wrap (m:Int)=(m:Int):=IntWalk.i64_in _ (by omega);have z:(m:Int)<(l.length:Int):=by omega
   have Y:((m:Int)+1)<(l.length:Int):=by omega
   have A:(0:Int)<=(m:Int)+1:=by omega
   by_cases he:x=y
   ·have Z:=h! (F.out he);subst he;clear F K;(refine WalkN.tk [0,1,2,3,4,5,6,7,8,9] ?_;(iterate 10 (refine c! ?_));refine TkN.n ?_)
    refine d! ?_;clear k0 j0 o;have a6:((m:Int)+1)<=(l.length:Int):=by omega
    have ae:m+1<=l.length:=hm;go_wp2_with fail
    clear z Y A a6 ae;go_loopw [3,5] (fun kv jv wr=>∃(q a:Nat) (R:List Int),kv= .int .i64 q/\jv= .int .i64 ((a+1:Nat):Int)/\q<=m+1+a/\1<=q/\m+1+a+1<=l.length/\R.length=l.length/\R.take q=ddnI l (m+1+a+1)/\(∀j,m+1+a<=j->R[j]?=l[j]?)/\Own wr B 3 1 (.slice (some ⟨g,0,none⟩) l.length c) (ic R)/\RowK w wr (.slice (some ⟨g,0,none⟩) l.length c)) (fun _ jv _=>l.length-(m+(intOf jv).toNat))
    case atStart=>exact⟨m+1,0,l,rfl,rfl,by omega,by omega,by have:=J.out;omega,rfl,Z.out,(fun _ _=>rfl),DO.out,DK.out⟩
    case round =>
     obtain⟨q,a,R,rfl,rfl,D,O,a8,a1,U,a3,V,a4⟩:=hrel;have QO:=h! V;have u:=h! a4;have QL:=h! a1;have QT:=h! U;have QJ:=h! a3;have QP:=h! (And.intro D (And.intro O a8));clear DO DK V a4 a1 U a3 D O Z;by_cases hlt2:m+1+a+1<l.length
     ·have i:=h! hlt2;have M:m+1+a+1<R.length:=by rw[QL.out];exact hlt2
      have T:m+1+a<R.length:=by omega
      have hx:R[m+1+a+1]?=l[m+1+a+1]?:=QJ.out _ (by omega);have hy:R[m+1+a]?=l[m+1+a]?:=QJ.out _ (by omega);rw[n4! M]at hx;rw[n4! T]at hy
      have t:=h! (show ddnI l (m+1+a+1+1)=ddnI l (m+1+a+1)++(if R[m+1+a+1]≠R[m+1+a]then [R[m+1+a+1]]else [])from by
       rw[ddnI,Nat.add_sub_cancel,<-hx,<-hy];congr 1
       by_cases he:R[m+1+a+1]=R[m+1+a]
       ·rw [if_neg (by rintro (h | h); · omega
                       · exact h (congrArg some he)),if_neg (fun h=>h he)]
       ·rw[if_pos (.inr fun h=>he (by injection h)),if_pos he];rfl)
      clear hx hy;have N:((a:Int)+1)<((l.length-(m+1):Nat):Int):=by omega
      go_wp2_with fail
      obtain⟨wd,f⟩:=e! wr.drew;have DO:=h! (show Own wd B 3 1 (.slice (some ⟨g,0,none⟩) l.length c) (ic R)from by rw[f];exact QO.out.below (Ext.drew _));have DK:=h! (show RowK w wd (.slice (some ⟨g,0,none⟩) l.length c)from by rw[f];exact Kept.drew u.out);refine re! f ?_;clear f QO u;have k0:∀W,Ext wd W->W.cell? ⟨g,m+1+(a+1),none⟩=_:=fun W hW=>(DO.out.below hW).intAt (m+1+a+1) M;have j0:∀W,Ext wd W->W.cell? ⟨g,m+1+a,none⟩=_:=fun W hW=>(DO.out.below hW).intAt (m+1+a) T;have k:=h! (DO.out.setI q R[m+1+a+1])
      have a0:=h! (show(R.set q R[m+1+a+1]).take (q+1)=R.take q++[R[m+1+a+1]]from by
       have E:q<R.length:=by have:=QP.out.1;omega
       rw[n2! (by simpa using E),List.getElem_set_self,List.take_set_of_le (n0! q)])
      have a2:=h! (show ∀j,m+1+(a+1)<=j->(R.set q R[m+1+a+1])[j]?=l[j]? from fun j hj=>by
       rw[List.getElem?_set_ne (by have:=QP.out.1;omega)];exact QJ.out j (by omega))
      generalize R[m+1+a+1]=x at *;generalize R[m+1+a]=y at *;have o:IntKind.i64.wrap (a:Int)=(a:Int):=IntWalk.i64_in _ (by omega);have z:(a:Int)<((l.length-(m+1):Nat):Int):=by omega
      have A:(0:Int)<=(a:Int)+1:=by omega
      have p:=h! (show wrap64 ((a:Int)+1+1)=((a+1+1:Nat):Int)/\wrap64 ((q:Int)+1)=((q+1:Nat):Int)from by have:=QP.out;unfold wrap64;omega);by_cases he:x=y
      ·have G:Hid (ddnI l (m+1+a+1+1)=ddnI l (m+1+a+1)):=h! (by rw[t.out,if_neg (fun h=>h he),List.append_nil]);subst he;clear t k a0 a2;(refine WalkN.tk [0,1,2,3,4,5,6,7,8,9] ?_;(iterate 10 (refine c! ?_));refine TkN.n ?_)
       refine d! ?_;clear k0 j0 o z A N;have ah:(x != x)=false:=by simp
       go_wp2_with fail
       go_roundw
       case rel=>exact⟨q,a+1,R,rfl,by first | rw[p.out.1] | go_num,by have:=QP.out;omega,QP.out.2.1,by have:=i.out;omega,QL.out,by rw[QT.out];exact G.out.symm,(fun j hj=>QJ.out j (by omega)),DO.out,DK.out⟩
       case measure=>have:=i.out;(try rw[p.out.1]);simp[intOf];omega
      ·have G:Hid (ddnI l (m+1+a+1+1)=ddnI l (m+1+a+1)++[x]):=h! (by rw[t.out,if_pos he]);have s:(x != y)=true:=by simpa using he
       clear t he;(refine WalkN.tk [0,1,2,3,4,5,6,7,8,9] ?_;(iterate 10 (refine c! ?_));refine TkN.n ?_)
       refine d! ?_;have k1:=k0 wd (Ext.refl _);clear k0 j0 o;obtain⟨y',d1⟩:∃y,wd.cell? ⟨g,q,none⟩=some y:=⟨_,DO.out.intAt q (by rw[QL.out];have:=QP.out;omega)⟩;obtain⟨-,-,cs,hB,-⟩:=DO.out.cellAt;have f1:=hB.free;have ab:(q:Int)<(l.length:Int):=by have:=QP.out;omega
       have L:Hid (RowK w (wd.setCell ⟨g,q,none⟩ (.int .i64 x)) (.slice (some ⟨g,0,none⟩) l.length c)):=h! (Kept.set DK.out (a:=⟨g,q,none⟩) (fun h=>h.2 rfl) _);clear hB;go_wp2_with fail
       go_roundw
       case rel=>exact⟨q+1,a+1,R.set q x,by first | rw[p.out.2] | go_num,by first | rw[p.out.1] | go_num,by have:=QP.out;omega,by omega,by have:=i.out;omega,by rw[List.length_set];exact QL.out,by rw[a0.out,QT.out];exact G.out.symm,a2.out,k.out,L.out⟩
       case measure=>have:=i.out;(try rw[p.out.1]);simp[intOf];omega
     ·have Q:m+1+a+1=l.length:=by omega
      rw[Q]at QT;have N:¬ (((a:Int)+1)<((l.length-(m+1):Nat):Int)):=by omega
      have D:=QP.out.1;have E:q<l.length:=by omega
      have ab:(q:Int)<=(l.length:Int):=by omega
      have a9:(0:Int)<=(q:Int):=by omega
      have ai:q<=c:=by have:=HC.out;omega
      have af:¬ (c=q):=by have:=HC.out;omega
      obtain⟨vs,I⟩:=pp! QO.out QL.out.symm q E 0 (c-q);obtain⟨w8,C⟩:=e! (wr.setCells g q vs);rw[<-C]at I
      have aa:=h! (show Own w8 B 3 1 (.slice (some ⟨g,0,none⟩) q c) (ic (ddI l))from by
       have h1:=QO.out.cutI (q:=q) (Nat.le_of_lt E) vs;rw[QT.out]at h1;rw[C];exact h1)
      have L:=h! (show RowK w w8 (.slice (some ⟨g,0,none⟩) l.length c)from by rw[C];exact u.out.setMany (g:=g) (fun h=>h.2 rfl) _ _);clear C D hlt2 QO u QT Q;go_wp2_with ((with_reducible refine bV! (v := .slice (some ⟨g,q,none⟩) (l.length-q) (c-q)) (w':=w8) (r := .tuple #[]) ?hV ?hR ?hK);(case hV=>rfl);(case hR=>exact I);clear I)
      go_ret
      exact⟨_,rfl,aa.out,fun b h=>h,L.out⟩
   ·have ac:=h! (K.out he);have s:(x == y)=false:=by simpa using he
    clear F K he;(refine WalkN.tk [0,1,2,3,4,5,6,7,8,9] ?_;(iterate 10 (refine c! ?_));refine TkN.n ?_)
    refine d! ?_;clear k0 j0 o z Y A;go_wp2_with fail
    go_roundw
    case rel=>exact⟨m+1,by first | rw[X.out] | go_num,by have:=J.out;omega,ac.out,DO.out,DK.out⟩
    case measure=>have:=J.out;(try rw[X.out]);simp[intOf];omega
  ·obtain ad:m+1=l.length:=by omega
   have HD:=h! (show ddI l=l from by
    unfold ddI;rw[dp! l _ (n0! _) fun j h0 h1=>RN.out j h0 (by omega),u2!])
   go_wp2_with fail
   go_ret
   exact⟨_,rfl,by rw[HD.out];exact RO.out,fun b h=>h,RK.out⟩
theorem kd! (s:P3)(ps:List P3)(fs:List FT)(pv fv:Value)(lo sp gi gr ub n b i:Nat)(L:List Bool)(w:World)(h:GrAt (· < w.heap.size) w ps fs pv fv)(hb:Blk w b #[.pointer (some ⟨sp,0,none⟩)] 254)
  (hsp:Blk w sp #[pv,fv,.string s.t,.string s.i,.string s.r,.slice (some ⟨gi,0,none⟩) n n,.slice (some ⟨gr,0,none⟩) n n,.slice (some ⟨ub,0,none⟩) n n] 259) (hin:Own w lo 4 1 (.slice (some ⟨gi,0,none⟩) n n) (boC L)) (hi:i<n) :
  Calls prog 211 #[.int .i64 (i:Int),.pointer (some ⟨b,0,none⟩)] w fun e w'=>e= .returned (.bool (!newS fs s L i))/\Below w.heap.size w w':=by
 have H0:=h! h;have HB:=h! hb;have y:=h! hsp;have a0:=h! hin;obtain⟨ap,cp,af,cf,rfl,rfl,-,C,-,B,-⟩:=h.rows;obtain⟨G,-,cs,hB,A⟩:=hin.cellAt;rw[aW!]at G;have g:i<L.length:=by omega
 have D:w.cell? ⟨gi,i,none⟩=some (.bool L[i]):=by rw[A i (by rw[aW!];exact g)];simp[boC]
 have a7:=h! (And.intro C B);have z:(i:Int)<(n:Int):=by omega
 clear h hb hsp hin A hB C B;go_enter func211,ntmps211
 cases hin:L[i] with
 | true =>
  have j:=h! (fw! (fs:=fs) (s:=s) g hin);rw[hin]at D;clear hin G g;go_wp2_with fail
  obtain⟨J,a⟩:=e! (World.drew w);have I:=h! (show Ext w J from xd! a);refine re! a ?_;clear a;have E:=fun W (h:Ext J W)=>Ext.cell (I.out.trans h) D;have H:=fun W (h:Ext J W)=>(HB.out.below (I.out.trans h)).cells;have F:=fun W (h:Ext J W)=>(y.out.below (I.out.trans h)).cells;(refine WalkN.tk [0,1,2,3,4,5,6,7] ?_;(iterate 8 (refine c! ?_));refine TkN.n ?_)
  refine k! 8 ?_;refine k! 9 ?_;refine k! 10 ?_;refine k! 11 ?_;refine k! 12 ?_;refine k! 13 ?_;refine k! 14 ?_;refine k! 15 ?_
  (refine WalkN.tk [16,17] ?_;(iterate 2 (refine c! ?_));refine TkN.n ?_)
  refine k! 18 ?_;refine k! 19 ?_;refine k! 20 ?_;refine k! 21 ?_;refine k! 22 ?_;refine k! 23 ?_;refine k! 24 ?_;refine k! 25 ?_;refine k! 26 ?_;refine k! 27 ?_;refine k! 28 ?_;refine k! 29 ?_;refine k! 30 ?_;refine k! 31 ?_;refine k! 32 ?_;refine k! 33 ?_;refine k! 34 ?_;refine k! 35 ?_
  (refine WalkN.tk [36,37] ?_;(iterate 2 (refine c! ?_));refine TkN.n ?_)
  refine d! ?_;clear E H F D z;go_wp2_with fail
  go_ret
  exact⟨by rw[j.out];rfl,I.out⟩
 | false =>
  rw[hin]at D;by_cases hf:i<fs.length
  ·have j:=h! (gU! (fs:=fs) (s:=s) g hin hf);obtain⟨a4,a5,a3,a6,e1,e2,-,-,-,-,m⟩:=H0.out.rows;cases e2;obtain⟨p1,q1,u,rfl,a2,k0,k1,k2,k3,hu⟩:=m i hf;have q:(i:Int)<(fs.length:Int):=by omega
   have HU:=h! hu;generalize fs[i]=x at *;obtain⟨l1,m1,l2,m2,l4,m4,rfl⟩:=hu.shape;dsimp only at k0 k1 k2 k3;clear hu a2 m hin G g hf e1;go_wp2_with fail
   obtain⟨J,a⟩:=e! (World.drew w);have I:=h! (show Ext w J from xd! a);refine re! a ?_;clear a;have E:=fun W (h:Ext J W)=>Ext.cell (I.out.trans h) D;have H:=fun W (h:Ext J W)=>(HB.out.below (I.out.trans h)).cells;have F:=fun W (h:Ext J W)=>(y.out.below (I.out.trans h)).cells;have j0:=fun W (h:Ext J W)=>Ext.cell (I.out.trans h) k0;have j1:=fun W (h:Ext J W)=>Ext.cell (I.out.trans h) k1;have j2:=fun W (h:Ext J W)=>Ext.cell (I.out.trans h) k2;have j3:=fun W (h:Ext J W)=>Ext.cell (I.out.trans h) k3;have f:¬ fs.length<=i:=by omega
   have o:decide (fs.length<=i)=false:=v3! f;(refine WalkN.tk [0,1,2,3,4,5,6,7,8,9,10,11,12,13,14,15,16,17,18,19,20,21,22,23,24,25,26,27,28,29,30,31,32,33] ?_;(iterate 34 (refine c! ?_));refine TkN.n ?_)
   clear E H F j0 j1 j2 j3 k0 k1 k2 k3 D;have p:=h! (jT! s L x (.slice (some ⟨gi,0,none⟩) n n) _ J (HU.out.up I.out) ((a0.out.below I.out).sl.mono fun _ h=>h.2));unfold fV pV at p;dsimp only at p;refine ob! 34 ?_;intro K hK;go_simp;refine p.out.mono ?_;rintro e w5 ⟨rfl,v⟩;refine hK.out _ _ v ?_;clear hK p;have X5:Hid (Ext w w5):=h! (I.out.trans v);clear v;(refine WalkN.tk [35,36,37] ?_;(iterate 3 (refine c! ?_));refine TkN.n ?_)
   refine d! ?_;clear q z f o;go_wp2_with fail
   go_ret
   exact⟨by rw[j.out];try rfl,X5.out⟩
  ·have j:=h! (jr! (fs:=fs) (s:=s) (l:=L) (i:=i) (by omega));have q:¬ (i:Int)<(fs.length:Int):=by omega
   have f:fs.length<=i:=by omega
   have o:decide (fs.length<=i)=true:=v2! f;clear hin G g hf;go_wp2_with fail
   obtain⟨J,a⟩:=e! (World.drew w);have I:=h! (show Ext w J from xd! a);refine re! a ?_;clear a;have E:=fun W (h:Ext J W)=>Ext.cell (I.out.trans h) D;have H:=fun W (h:Ext J W)=>(HB.out.below (I.out.trans h)).cells;have F:=fun W (h:Ext J W)=>(y.out.below (I.out.trans h)).cells;have a1:(fs.length:Int)<=(i:Int):=by omega
   have f:fs.length<=i:=by omega
   have o:decide (fs.length<=i)=true:=v2! f;(refine WalkN.tk [0,1,2,3,4,5,6,7,8,9,10,11,12,13,14,15,16,17] ?_;(iterate 18 (refine c! ?_));refine TkN.n ?_)
   refine k! 18 ?_;refine k! 19 ?_;refine k! 20 ?_;refine k! 21 ?_;refine k! 22 ?_;refine k! 23 ?_;refine k! 24 ?_;refine k! 25 ?_;refine k! 26 ?_;refine k! 27 ?_;refine k! 28 ?_;refine k! 29 ?_;refine k! 30 ?_;refine k! 31 ?_;refine k! 32 ?_;refine k! 33 ?_;refine k! 34 ?_;refine k! 35 ?_
   (refine WalkN.tk [36,37] ?_;(iterate 2 (refine c! ?_));refine TkN.n ?_)
   refine d! ?_;clear E H F D z q a1 f o;go_wp2_with fail
   go_ret
   exact⟨by rw[j.out];rfl,I.out⟩
def frW (fs:List FT)(s:P3)(L:List Bool)(W:List Int):List Int:=W.filter fun x=>newS fs s L x.toNat
theorem lN! (s:P3)(ps:List P3)(fs:List FT)(pv fv:Value)(lo lo2 sp gi gr ub n:Nat)(L:List Bool)(W:List Int)(v:Value)(w:World)(h:GrAt (· < lo) w ps fs pv fv)
  (hsp:Blk w sp #[pv,fv,.string s.t,.string s.i,.string s.r,.slice (some ⟨gi,0,none⟩) n n,.slice (some ⟨gr,0,none⟩) n n,.slice (some ⟨ub,0,none⟩) n n] 259) (hin:Own w lo 4 1 (.slice (some ⟨gi,0,none⟩) n n) (boC L))
  (hw:Own w lo2 3 1 v (ic W)) (hl2:lo<=lo2) (hlw:lo<=w.heap.size) (hlen:W.length<=1099511627776) (hW:∀x∈W,0<=x/\x<(n:Int)) :
  Calls prog 154 #[.pointer (some ⟨sp,0,none⟩),v] w fun e w'=>∃v',e= .returned v'/\Own w' lo2 3 1 v' (ic (frW fs s L W))/\(∀b,v'.ownBlock=some b->v.ownBlock=some b)/\RowK w w' v:=by
 obtain⟨j,c⟩:=e! (w.alloc (.cells #[.pointer (some ⟨sp,0,none⟩)] 254));have l:=h! (show Ext w j from xa! c);have BA:=h! (show Blk j w.heap.size #[.pointer (some ⟨sp,0,none⟩)] 254 from bm! c);have o:=hw.below l.out
 have a:∀ {b:Nat} {cs:Array Value} {t:TypeId},Blk j b cs t->t≠3->∀W',RowK j W' v->Blk W' b cs t:=fun p ht W' k=>(k.block _ ⟨p.lt,fun e=>by
  obtain⟨f,q⟩:=o.typed e;rw[show j.heap[_]?=_ from p]at q;injection q with q
  injection q with _ q _
  exact ht q⟩).trans p
 have HD:=h! (go! v W j o hlen 211 #[.pointer (some ⟨w.heap.size,0,none⟩)] (enters_of func211 (by kernel_rfl) rfl) (fun x=>!newS fs s L x.toNat) fun i hi W' k=>by
  obtain⟨h0,hn⟩:=hW _ (n5! hi);obtain⟨m,hm⟩:=Int.eq_ofNat_of_zero_le h0;rw[hm]at hn ⊢;rw[Int.toNat_natCast];refine kd! s ps fs pv fv lo sp gi gr ub n w.heap.size m L W' ?_ (a BA.out (by decide) W' k) (a (hsp.below l.out) (by decide) W' k) ((hin.below l.out).keepOwn fun g hg=>?_) (by omega)
  ·have h1:GrAt (· < lo) j ps fs pv fv:=h.same fun b p=>l.out.block b (n1! p hlw)
   exact(h1.same fun b p=>k.block b ⟨by have q:=l.out.size;have h3:b<lo:=p;omega,fun e=>by have:=(o.block b e).1;have h3:b<lo:=p;omega⟩).mono fun b p=>by
    have h3:b<lo:=p;show b<W'.heap.size
    have q:=l.out.size;have h4:=k.size;omega
  ·obtain⟨f,q⟩:=(hin.below l.out).typed hg;exact(a (show Blk j g f 4 from q) (by decide) W' k).trans q.symm)
 have d:=h! (fun w' (k:RowK j w' v)=>show RowK w w' v from Kept.trans (Below.kept l.out fun b p=>p.1) (Kept.mono k fun b p=>⟨n1! p.1 l.out.size,p.2⟩));have a5:∀(fn:Fn) (first cap:Array Value) (W:World),(Instr.makeFunc fn first cap).run prog W= .ok (.func fn first cap) W:=fun _ _ _ _=>rfl;obtain⟨vo,vn,vc,rfl,-,-,-⟩:=hw.sl.len;clear hw o a h hsp hin hW;go_enter func154,ntmps154
 go_wp2_with fail
 try rw[<-c]
 clear c;refine HD.out.mono ?_;rintro e w1 ⟨v',rfl,ho,p,k⟩;have HO:=h! ho;have a1:=h! p;have a0:=h! (d.out w1 k);obtain⟨a3,a4,a2,rfl,-,-,-⟩:=ho.sl.len;clear ho p k HD d;go_wp2_with fail
 go_ret
 exact⟨_,rfl,by
  have:=HO.out;rwa[show(W.filter fun x=>!(fun x:Int=>!newS fs s L x.toNat) x)=frW fs s L W from by unfold frW;congr 1;funext x;simp]at this,a1.out,a0.out⟩
end Go.Proofs.YtlhaghoajpglaaaGreat
namespace Go.Proofs
open Go.Shelf Go.Proofs.Tryz
def Tryz.sortIn_ren:Go.Shelf.Ren:=⟨fun | 5=>155 | 8=>198 | 7=>213 | 19=>240 | 20=>241 | 10=>259 | 11=>260 | 12=>261 | 13=>262 | 14=>263 | 15=>264 | 16=>265 | 17=>266 | 18=>267 | 30=>290 | 31=>282 | 32=>283 | 33=>291 | 34=>292 | 35=>293 | 40=>299 | n=>n,fun | 23=>107 | 25=>3 | 3=>3 | 32=>311 | 22=>107 | 0=>0 | 44=>349 | 46=>351 | 4=>4 | 36=>343 | 35=>342 | 41=>314 | 5=>5 | 9=>9 | 53=>378 | 57=>382 | 63=>390 | 64=>391 | n=>n,fun | n=>n⟩
theorem Tryz.sortIn:Go.Proofs.SlLaysM.n5 prog Tryz.sortIn_ren := {
 mixed:=by kernel_rfl
 f5:=⟨Tryz.f155.name,by decide,func155.trans (congrArg some (by kernel_rfl))⟩
 f7:=⟨Tryz.f213.name,by decide,func213.trans (congrArg some (by kernel_rfl))⟩
 f8:=func198.trans (congrArg some (by kernel_rfl))
 f10:=⟨Tryz.f259.name,by decide,func259.trans (congrArg some (by kernel_rfl))⟩
 f11:=⟨Tryz.f260.name,by decide,func260.trans (congrArg some (by kernel_rfl))⟩
 f12:=⟨Tryz.f261.name,by decide,func261.trans (congrArg some (by kernel_rfl))⟩
 f13:=⟨Tryz.f262.name,by decide,func262.trans (congrArg some (by kernel_rfl))⟩
 f14:=⟨Tryz.f263.name,by decide,func263.trans (congrArg some (by kernel_rfl))⟩
 f15:=⟨Tryz.f264.name,by decide,func264.trans (congrArg some (by kernel_rfl))⟩
 f16:=⟨Tryz.f265.name,by decide,func265.trans (congrArg some (by kernel_rfl))⟩
 f17:=⟨Tryz.f266.name,by decide,func266.trans (congrArg some (by kernel_rfl))⟩
 f18:=⟨Tryz.f267.name,by decide,func267.trans (congrArg some (by kernel_rfl))⟩
 f19:=func240.trans (congrArg some (by kernel_rfl))
 f20:=func241.trans (congrArg some (by kernel_rfl))
 f30:=⟨Tryz.f290.name,by decide,func290.trans (congrArg some (by kernel_rfl))⟩
 f31:=func282.trans (congrArg some (by kernel_rfl))
 f32:=func283.trans (congrArg some (by kernel_rfl))
 f33:=⟨Tryz.f291.name,by decide,func291.trans (congrArg some (by kernel_rfl))⟩
 f34:=⟨Tryz.f292.name,by decide,func292.trans (congrArg some (by kernel_rfl))⟩
 f35:=⟨Tryz.f293.name,by decide,func293.trans (congrArg some (by kernel_rfl))⟩
 f40:=⟨Tryz.f299.name,by decide,func299.trans (congrArg some (by kernel_rfl))⟩
 t0:=Tryz.underlying0
 a0:=Tryz.isAgg0
 z0:=Tryz.sizeOf0
 v0:=Tryz.zeroValue0
 t3:=Tryz.underlying3
 a3:=Tryz.isAgg3
 z3:=Tryz.sizeOf3
 v3:=Tryz.zeroValue3
 t4:=Tryz.underlying4
 a4:=Tryz.isAgg4
 z4:=Tryz.sizeOf4
 v4:=Tryz.zeroValue4
 t5:=Tryz.underlying5
 a5:=Tryz.isAgg5
 z5:=Tryz.sizeOf5
 v5:=Tryz.zeroValue5
 t9:=Tryz.underlying9
 a9:=Tryz.isAgg9
 z9:=Tryz.sizeOf9
 v9:=Tryz.zeroValue9
 t22:=Tryz.underlying107
 a22:=Tryz.isAgg107
 z22:=Tryz.sizeOf107
 v22:=Tryz.zeroValue107
 t23:=Tryz.underlying107
 a23:=Tryz.isAgg107
 z23:=Tryz.sizeOf107
 v23:=Tryz.zeroValue107
 t25:=Tryz.underlying3
 a25:=Tryz.isAgg3
 z25:=Tryz.sizeOf3
 v25:=Tryz.zeroValue3
 t32:=Tryz.underlying311
 a32:=Tryz.isAgg311
 z32:=Tryz.sizeOf311
 v32:=Tryz.zeroValue311
 t35:=Tryz.underlying342
 a35:=Tryz.isAgg342
 z35:=Tryz.sizeOf342
 v35:=Tryz.zeroValue342
 t36:=Tryz.underlying343
 a36:=Tryz.isAgg343
 z36:=Tryz.sizeOf343
 v36:=Tryz.zeroValue343
 t41:=Tryz.underlying314
 a41:=Tryz.isAgg314
 z41:=Tryz.sizeOf314
 v41:=Tryz.zeroValue314
 t44:=Tryz.underlying349
 a44:=Tryz.isAgg349
 z44:=Tryz.sizeOf349
 v44:=Tryz.zeroValue349
 t46:=Tryz.underlying351
 a46:=Tryz.isAgg351
 z46:=Tryz.sizeOf351
 v46:=Tryz.zeroValue351
 t53:=Tryz.underlying378
 a53:=Tryz.isAgg378
 z53:=Tryz.sizeOf378
 v53:=Tryz.zeroValue378
 t57:=Tryz.underlying382
 a57:=Tryz.isAgg382
 z57:=Tryz.sizeOf382
 v57:=Tryz.zeroValue382
 t63:=Tryz.underlying390
 a63:=Tryz.isAgg390
 z63:=Tryz.sizeOf390
 v63:=Tryz.zeroValue390
 t64:=Tryz.underlying391
 a64:=Tryz.isAgg391
 z64:=Tryz.sizeOf391
 v64:=Tryz.zeroValue391}
end Go.Proofs
namespace Go.Proofs.YtlhaghoajpglaaaGreat
open Go Go.RowKit Go.Maps Go.Proofs.Tryz
theorem fH! {f:Int->List Int}:∀ {F R:List Int},F.Nodup->(∀x∈F,x∈R)->(F.flatMap f).length<=(R.flatMap f).length
 | [],_,_,_=>by simp
 | a::F,R,hn,hs=>by
  obtain⟨p,q,rfl⟩:=List.append_of_mem (hs a y4!);rw[List.nodup_cons]at hn
  have h1:=fH! (f:=f) (F:=F) (R:=p++q) hn.2 fun x hx=>by
   have h2:=hs x (u9! _ hx);rcases u3!.1 h2 with h3 | h3
   ·exact List.mem_append_left _ h3
   ·rcases v7!.1 h3 with h3 | h3
    ·subst h3;exact absurd hx hn.1
    ·exact List.mem_append_right _ h3
  simp only[y5!,x9!,u4!]at h1 ⊢;omega
theorem fq!:∀U:List (List Int),((List.range U.length).flatMap fun i=>U.getD i []).length=(U.map List.length).sum
 | []=>rfl
 | a::U=>by
  rw[u7!,List.range_succ_eq_map,y5!,List.flatMap_map,u4!];simp only[List.getD_cons_zero,List.getD_cons_succ,v8!,List.sum_cons];rw[fq! U]
def nextL (U:List (List Int))(F:List Int):List Int:=F.flatMap fun k=>U.getD k.toNat []
theorem gT! {U:List (List Int)}{F:List Int}(hn:F.Nodup)(hF:∀x∈F,0<=x/\x<(U.length:Int)):(nextL U F).length<=(U.map List.length).sum:=by
 have a:=fH! (f:=fun k:Int=>U.getD k.toNat []) (F:=F) (R:=(List.range U.length).map fun(i:Nat)=>(i:Int)) hn fun x hx=>by
  obtain⟨h0,a⟩:=hF x hx;exact u6!.2 ⟨x.toNat,List.mem_range.2 (by omega),by omega⟩
 rw[List.flatMap_map]at a;simp only[Int.toNat_natCast]at a;rw[fq!]at a;exact a
theorem jq! {U:List (List Int)}{F:List Int}{j:Nat}(h:j<F.length):nextL U (F.take (j+1))=nextL U (F.take j)++U.getD F[j].toNat []:=by
 unfold nextL;rw[n2! h,x9!];simp
theorem nw! {U:List (List Int)}{F:List Int}(hn:F.Nodup)(hF:∀x∈F,0<=x/\x<(U.length:Int))(j:Nat):(nextL U (F.take j)).length<=(U.map List.length).sum :=
 gT! (hn.sublist (List.take_sublist _ _)) fun x hx=>hF x (List.mem_of_mem_take hx)
def upI (i:Nat):List Int:=(List.range i).map fun(j:Nat)=>(j:Int)
theorem mV! (i:Nat):upI (i+1)=upI i++[(i:Int)]:=by unfold upI;rw[List.range_succ,v9!];rfl
theorem gG! (i:Nat):(upI i).length=i:=by simp[upI]
theorem ou! (n:Nat)(x:Int)(h:x∈upI n):0<=x/\x<(n:Int):=by
 unfold upI at h;obtain⟨j,hj,rfl⟩:=u6!.1 h;rw[List.mem_range]at hj;omega
theorem kK! (n:Nat):(upI n).Nodup:=List.pairwise_map.2 (List.nodup_range.imp fun h e=>h (by omega))
theorem mU! (fs:List FT)(s:P3)(n r:Nat):Wide fs s n r (upI n):=fun i hi _=>u6!.2 ⟨i,List.mem_range.2 hi,rfl⟩
structure StB (lo2 sp gi gr ub:Nat)(vs:List Value):Prop where
 sp:sp<lo2
 gi:gi<lo2
 gr:gr<lo2
 ub:ub<lo2
 row:∀(k:Nat) (v:Value) (g:Nat),vs[k]?=some v->v.ownBlock=some g->g<lo2
section
variable {w w' : World} {lo lo2 sp gi gr ub n : Nat} {pv fv : Value} {s : P3} {L : List Bool} {R : List Int} {U : List (List Int)} {vs : List Value}
theorem StAt.bounds (h:StAt w lo sp gi gr ub n pv fv s L R U vs):StB w.heap.size sp gi gr ub vs :=
 ⟨h.box.lt,(h.inn.block gi rfl).2,(h.rnd.block gr rfl).2,(h.use.arr.block ub rfl).2,fun k v g hv hg=>((h.use.row k v hv).block g hg).2⟩
theorem StAt.keep (h:StAt w lo sp gi gr ub n pv fv s L R U vs)(hb:StB lo2 sp gi gr ub vs)(hk:∀b,b<lo2->w'.heap[b]?=w.heap[b]?):StAt w' lo sp gi gr ub n pv fv s L R U vs where
 box:=(hk _ hb.sp).trans h.box
 inn:=h.inn.keepOwn fun g hg=>hk g (by obtain rfl:gi=g:=v5! hg;exact hb.gi)
 rnd:=h.rnd.keepOwn fun g hg=>hk g (by obtain rfl:gr=g:=v5! hg;exact hb.gr)
 use:=⟨h.use.arr.keepOwn fun g hg=>hk g (by obtain rfl:ub=g:=v5! hg;exact hb.ub),h.use.vlen,h.use.ulen,fun k v hv=>(h.use.row k v hv).keepOwn fun g hg=>hk g (hb.row k v g hv hg),h.use.apart,h.use.off⟩
theorem StAt.set (h:StAt w lo sp gi gr ub n pv fv s L R U vs)(k:Nat)(x:Int):StAt ((w.setCell ⟨gi,k,none⟩ (.bool true)).setCell ⟨gr,k,none⟩ (.int .i64 x)) lo sp gi gr ub n pv fv s (L.set k true) (R.set k x) U vs:=by
 have f:gi≠gr:=fun e=>by
  subst e;exact h.inn.apart h.rnd (by decide) rfl rfl
 have a:∀ {g:Nat} {c:Array Value} {t:TypeId},w.heap[g]?=some (.cells c t (0,0))->(t≠4->g≠gi)/\(t≠3->g≠gr):=fun {g c t} hg=>⟨fun ht e=>by
   subst e;obtain⟨c2,i⟩:=h.inn.typed (g:=g) rfl;rw[hg]at i;injection i with i
   injection i with _ i _
   exact ht i,fun ht e=>by
   subst e;obtain⟨c2,i⟩:=h.rnd.typed (g:=g) rfl;rw[hg]at i;injection i with i
   injection i with _ i _
   exact ht i⟩
 have d:∀b,b≠gi->b≠gr->((w.setCell ⟨gi,k,none⟩ (.bool true)).setCell ⟨gr,k,none⟩ (.int .i64 x)).heap[b]?=w.heap[b]?:=fun b j i=>by
  rw[Below.heap_setCell _ _ _ _ i,Below.heap_setCell _ _ _ _ j]
 refine⟨(d sp ((a h.box).1 (by decide)) ((a h.box).2 (by decide))).trans h.box,?_,?_,?_⟩
 ·have j:=h.inn.set1 k (.bool true);rw[show(boC L).set k (.bool true)=boC (L.set k true)from by unfold boC;rw[List.map_set]]at j;exact j.keepOwn fun g hg=>Below.heap_setCell _ _ _ _ (by obtain rfl:gi=g:=v5! hg;exact f)
 ·have j:Own (w.setCell ⟨gi,k,none⟩ (.bool true)) lo 3 1 (.slice (some ⟨gr,0,none⟩) n n) (ic R):=h.rnd.keepOwn fun g hg=>Below.heap_setCell _ _ _ _ (by obtain rfl:gr=g:=v5! hg;exact fun e=>f e.symm);exact j.setI k x
 ·refine⟨h.use.arr.keepOwn fun g hg=>?_,h.use.vlen,h.use.ulen,fun k v hv=>(h.use.row k v hv).keepOwn fun g hg=>?_,h.use.apart,h.use.off⟩
  ·obtain⟨c,i⟩:=h.use.arr.typed hg;exact d g ((a i).1 (by decide)) ((a i).2 (by decide))
  ·obtain⟨c,i⟩:=(h.use.row k v hv).typed hg;exact d g ((a i).1 (by decide)) (h.use.off k v g hv hg)
end
theorem iF! {w:World}{B:Nat}{v:Value}{l:List Int}(h:Own w B 3 1 v (ic l))(hl:l.length<4611686018427387904) :
  Calls prog 155 #[v] w fun e w'=>e= .returned (.tuple #[])/\Own w' B 3 1 v (ic (l.mergeSort fun x y=>decide (x<=y)))/\Kept (fun b=>b<w.heap.size/\v.ownBlock≠some b) w w':=kY! Tryz.sortIn h hl
theorem iI! (s:P3)(ps:List P3)(fs:List FT)(pv fv:Value)(w:World)(h:GrAt (· < w.heap.size) w ps fs pv fv)(hnm:ps.length<=1000000)(hfm:fs.length<=1000000)(hnn:(nmdL fs).length<=1000000000000) :
  Calls prog 99 #[.agg #[pv,fv],pV s] w fun e w'=>(∃v,e= .returned v/\Own w' w.heap.size 3 1 v (ic (aX! fs s ps.length)))/\Below w.heap.size w w':=by
 obtain⟨wa,Q⟩:=e! (w.alloc (.cells #[pv,fv] 96));obtain⟨wb,a2⟩:=e! (wa.alloc (.cells #[.string s.t,.string s.i,.string s.r] 33));have ea:wa.heap.size=w.heap.size+1:=by rw[Q];simp
 have xa:Ext w wa:=xa! Q
 have xb:Ext wa wb:=xa! a2
 have XB:=h! (xa.trans xb);have BG:=h! (show Blk wb w.heap.size #[pv,fv] 96 from Blk.below (bm! Q) xb);have BS:=h! (show Blk wb (w.heap.size+1) #[.string s.t,.string s.i,.string s.r] 33 from by rw[a2,<-ea];exact Blk.made _ _ _);have H0:=h! (h.up XB.out);have ar:=h! (kU! s ps fs pv fv wb H0.out hnm hfm hnn);obtain⟨ap,cp,af,cf,e1,e2,-,-,-,-,-⟩:=h.rows;have M:=h! hnm;have be:=h! hnn;clear h hnm hfm hnn ea xa xb;subst e1 e2;generalize hn:ps.length=n at *;unfold pV at ar ⊢;have hA:=BG.out.cells;have hS:=BS.out.cells;rw[a2,Q]at hA hS;go_enter func99,ntmps99
 go_wp2_with fail
 rw[<-Q,<-a2];clear hA hS Q a2;refine ar.out.mono ?_;rintro e w1 ⟨⟨sp,gi,gr,ub,U,vs,rfl,am,p,ac⟩,aO⟩;have ST:=h! p;have BD:=h! p.bounds;have UO:=h! ac.done;have a0:=h! (show(U.map List.length).sum<=1000000000000/\U.length=n from⟨by have h1:=ac.sum;have:=be.out;rw[u2!]at h1;simp only[v6!]at h1;omega,ac.len⟩);have ab:=h! aO;obtain⟨lo,D⟩:∃y,Hid (wb.heap.size=y):=⟨_,h! rfl⟩;obtain⟨l,f⟩:∃y,Hid (w1.heap.size=y):=⟨_,h! rfl⟩;rw[D.out]at ST ab;rw[f.out]at BD;have o:=h! (show lo<=l from by have:=ab.out.size;have:=D.out;have:=f.out;omega)
 have RG:=h! (fun W (hW:Below lo wb W)=>show GrAt (· < lo) W ps fs (.slice ap n cp) (.slice af fs.length cf)from by
  have h1:=H0.out.same (w':=W) fun b hb=>hW.block b (by rw[<-D.out];exact hb);rw[D.out]at h1;exact h1)
 have RB:=h! (fun W (hW:Below lo wb W)=>show Below w.heap.size w W from Below.trans XB.out (hW.mono (by have:=XB.out.size;have:=D.out;omega)));have GB:=h! (show Blk w1 w.heap.size #[.slice ap n cp,.slice af fs.length cf] 96 from(ab.out.block _ (by have:=BG.out.lt;have:=D.out;omega)).trans BG.out);have hA:=GB.out.cells;clear p ac aO ar am BG BS H0 XB;go_wp2_with fail
 clear hA GB;go_loopw [6,19] (fun qv iv wr=>∃i:Nat,i<=n/\iv= .int .i64 i/\Own wr l 3 1 qv (ic (upI i))/\Below l w1 wr) (fun _ iv _=>n-(intOf iv).toNat)
 case atStart=>exact⟨0,v1! _,rfl,Own.nil _ _ _ _,Below.refl _ _⟩
 case round =>
  obtain⟨i,hi,rfl,hq,q⟩:=hrel;have RF:=h! hq;have R2:=h! q;obtain⟨qo,qm,qc,rfl,-⟩:=hq.sl.len;clear hq q;by_cases hlt:i<n
  ·have A:=h! hlt;have a5:=h! (show wrap64 ((i:Int)+1)=((i+1:Nat):Int)from by have:=M.out;unfold wrap64;omega);have bq:(i:Int)<(n:Int):=by omega
   have Y:=h! (Ext.alloc wr (.cells #[.int .i64 (i:Int)] 3));clear hlt;go_wp2_with (at_builtin;go_must (refine aE! intsT rfl (.tmp 22) (.tmp 24) rfl rfl (RF.out.below Y.out) rfl (m:=1) (news:=[.int .i64 (i:Int)]) rfl (by intro j u hu;rw[Addr.add_lit,cell_of_row _ wr.heap.size (0+j) #[.int .i64 (i:Int)] 3 (0,0) (heap_alloc_new wr _)];simpa using hu) (by simp[Value.oneCell']) (by have:=M.out;have:=A.out;have:=gG! i;have:=f.out;have:=R2.out.size;rw[ad!];simp at *;omega) (by have:=M.out;have:=A.out;have:=gG! i;have:=f.out;have:=R2.out.size;rw[ad!];simp at *;omega) (by have:=M.out;have:=A.out;have:=gG! i;have:=f.out;have:=R2.out.size;have:=Y.out.size;omega) ?_;intro v6 w6 hown6 hb6 hg6;have ax:=h! (show Own w6 l 3 1 v6 (ic (upI (i+1)))from by rw[mV!,bN!];exact hown6);have bh:=h! (show Below l w1 w6 from be! (R2.out.trans (Y.out.mono (by have:=R2.out.size;have:=f.out;omega))) (RF.out.below Y.out) hg6 (by have:=R2.out.size;have:=Y.out.size;have:=f.out;omega));clear hown6 hb6 hg6))
   go_roundw
   case rel=>exact⟨i+1,A.out,by first | rw[a5.out] | go_num,ax.out,bh.out⟩
   case measure=>have:=A.out;(try rw[a5.out]);simp[intOf];omega
  ·obtain rfl:i=n:=by omega
   obtain⟨w2,aF⟩:=e! wr;rw[<-aF]at RF R2 ⊢;clear hlt hi aF;have aY:=h! (ST.out.keep BD.out fun b hb=>R2.out.block b hb);have B2:=h! (ab.out.trans (R2.out.mono o.out));have L2:=h! (show l<=w2.heap.size from by have:=R2.out.size;have:=f.out;omega);clear R2;go_wp2_with fail
   go_loopw [6,8] (fun qv rv wr=>∃(r:Nat) (W:List Int),rv= .int .i64 ((r+1:Nat):Int)/\Own wr l 3 1 qv (ic W)/\(∀x∈W,0<=x/\x<(i:Int))/\W.Nodup/\Wide fs s i r W/\(r<=cntT (inN fs s i r)\/(W=[]/\r<=i+1))/\StAt wr lo sp gi gr ub i (.slice ap i cp) (.slice af fs.length cf) s (inN fs s i r) (outN fs s i r) U vs/\Below lo wb wr/\l<=wr.heap.size) (fun _ rv _=>i+3-(intOf rv).toNat)
   case atStart=>exact⟨0,_,rfl,RF.out,ou! i,kK! i,mU! fs s i 0,.inl (v1! _),aY.out,B2.out,L2.out⟩
   case round =>
    obtain⟨r,W,rfl,hw,aE,aC,aP,aU,p,q,aV⟩:=hrel;have RW:=h! hw;have RM:=h! aE;have RN:=h! aC;have az:=h! aP;have RC:=h! aU;have RS:=h! p;have RL:=h! q;have RZ:=h! aV;obtain⟨rz,aw⟩:∃z:Int,z=((r+1:Nat):Int):=⟨_,rfl⟩;rw[<-aw];have ad:=h! aw;obtain⟨bd,bn,b7,rfl,aL,-,-⟩:=hw.sl.len;rw[ad!,Nat.mul_one]at aL;subst aL;clear hw aE aC aP aU p q aV aw RF aY B2 L2 ST;by_cases h0:W=[]
    ·subst h0
     have bc:Hid (outN fs s i r=aX! fs s i):=h! (mG! fun j hj=>by
      cases hc:newS fs s (inN fs s i r) j with
      | false=>rfl
      | true=>exact absurd (az.out j hj hc) (by simp))
     have ai:=RS.out.rnd;rw[bc.out]at ai;have aq:=h! ai;have b3:=h! (RB.out wr RL.out);have aj:=RS.out.box.cells;clear ai;go_wp2_with fail
     go_ret
     exact⟨⟨_,rfl,by
      obtain⟨m,h1,h2⟩:=aq.out;rcases h2 with⟨h2,_⟩|⟨g',cap,cur,hv,hbg,hg,hr⟩
      ·cases h2
      ·exact⟨m,h1,.inr ⟨g',cap,cur,hv,by have:=(RB.out wb (Below.refl _ _)).size;have:=D.out;omega,hg,hr⟩⟩⟩,b3.out⟩
    ·have aR:Hid (0<W.length):=h! (List.length_pos_iff.2 h0);have b5:(0:Int)<(W.length:Int):=by have:=aR.out;omega
     have aN:Hid (r<=cntT (inN fs s i r)):=h! (RC.out.elim id fun h=>absurd h.1 h0);have al:Hid (r<=i):=h! (n6! aN.out (ko! _ _ _ _))
     have ae:=h! (show W.length<=i from by
      have h1:=bk! RN.out (u:=upI i) fun x hx=>by
       obtain⟨h2,h3⟩:=RM.out x hx;exact u6!.2 ⟨x.toNat,List.mem_range.2 (by omega),by omega⟩
      rwa[gG!]at h1)
     have b1:=h! (lN! s ps fs (.slice ap i cp) (.slice af fs.length cf) lo l sp gi gr ub i (inN fs s i r) W (.slice bd W.length b7) wr (RG.out wr RL.out) RS.out.box RS.out.inn RW.out o.out (by have:=RZ.out;have:=o.out;omega) (by have:=ae.out;have:=M.out;omega) RM.out);clear h0;go_wp2_with fail
     clear b5;refine b1.out.mono ?_;rintro e w5 ⟨bl,rfl,E,-,a8⟩;have aZ:=h! (fun j (hj:j<i)=>az.out.fresh hj)
     have V:=h! (show ∀x∈frW fs s (inN fs s i r) W,(0<=x/\x<(i:Int))/\newS fs s (inN fs s i r) x.toNat=true from fun x hx=>by
      unfold frW at hx;rw[List.mem_filter]at hx;exact⟨RM.out x hx.1,hx.2⟩)
     have aW:=h! (show(frW fs s (inN fs s i r) W).Nodup from RN.out.filter _);have ba:=h! (show(frW fs s (inN fs s i r) W).length<=i from n6! (x8! _ _) ae.out);have X:Hid (∀j:Nat,j<i->((j:Int)∈frW fs s (inN fs s i r) W↔newS fs s (inN fs s i r) j=true)):=h! aZ.out;have aG:=h! E;have S5:=h! (RS.out.keep BD.out fun b hb=>a8.block b ⟨by have:=RZ.out;omega,fun e=>by have:=(RW.out.block b e).1;omega⟩);have B5:=h! (show Below lo wb w5 from RL.out.trans (Kept.below (B:=lo) a8 fun b hb=>⟨by have:=RZ.out;have:=o.out;omega,fun e=>by have:=(RW.out.block b e).1;have:=o.out;omega⟩));obtain⟨I,O⟩:∃y,Hid (w5.heap.size=y):=⟨_,h! rfl⟩;have L3:=h! (show l<=I from by have:=a8.size;have:=RZ.out;have:=O.out;omega);obtain⟨fo,fm,fc,rfl,hfm,-,-⟩:=E.sl.len;rw[ad!,Nat.mul_one]at hfm;have aJ:=h! (fun g (hg:(Value.slice fo fm fc).ownBlock=some g)=>(E.block g hg).2);rw[O.out]at aJ;generalize frW fs s (inN fs s i r) W=F at *;subst hfm;clear E a8 b1 aZ RS RL RZ RW az RM RN aR ae RC;go_wp2_with fail
     go_loopw [10,37] (fun nv jv wr=>∃(j:Nat) (L:List Bool) (R:List Int),j<=F.length/\jv= .int .i64 j/\InvR fs s i r F j L R/\StAt wr lo sp gi gr ub i (.slice ap i cp) (.slice af fs.length cf) s L R U vs/\Own wr I 3 1 nv (ic (nextL U (F.take j)))/\Own wr l 3 1 (.slice fo F.length fc) (ic F)/\Below lo wb wr/\I<=wr.heap.size) (fun _ jv _=>F.length-(intOf jv).toNat)
     case atStart=>exact⟨0,_,_,v1! _,rfl,InvR.start fs s i r F,S5.out,Own.nil _ _ _ _,aG.out,B5.out,v4! O.out.symm⟩
     case round =>
      obtain⟨j,L,R,hj,rfl,a1,p,ak,E,q,aT⟩:=hrel;have HI:=h! a1;have HS:=h! p;have HN:=h! ak;have HF:=h! E;have HB:=h! q;have HZ:=h! aT;obtain⟨no,nm,nc,rfl,-⟩:=ak.sl.len;clear a1 p ak E q aT S5 B5 aG;by_cases hlt:j<F.length
      ·have A:=h! hlt;obtain⟨b9,bp,bb,-,-,Z⟩:=HF.out.sl.ints;cases bb;obtain⟨b,bi,rfl,b8,c0⟩:=Z j hlt;obtain⟨⟨au,aB⟩,b2⟩:=V.out F[j] (n5! hlt);obtain⟨k,hk⟩:=Int.eq_ofNat_of_zero_le au;have b6:k<i:=by omega
       have ao:=h! b6;have ag:=h! (HI.out.step hlt au aB);have aA:=h! (jq! (U:=U) hlt);have a4:=h! (show(nextL U (F.take j)).length<=1000000000000 from n6! (nw! aW.out (fun x hx=>by rw[a0.out.2];exact(V.out x hx).1) j) a0.out.1);have a5:=h! (show wrap64 ((j:Int)+1)=((j+1:Nat):Int)from by have:=ba.out;have:=M.out;unfold wrap64;omega);replace c0:=c0.trans (congrArg (fun z=>some (Value.int .i64 z)) hk);rw[show F[j].toNat=k by omega]at ag aA;rw[<-ad.out]at ag;have bk:(j:Int)<(F.length:Int):=by omega
       have bo:(k:Int)<(i:Int):=by omega
       have aj:=HS.out.box.cells;clear Z b8 au aB b2 hk hlt;go_wp2_with fail
       obtain⟨wd,a9⟩:=e! (World.drew wr);have DX:=h! (show Ext wr wd from xd! a9);refine r! (Kept (fun x=>x<wd.heap.size/\x≠gi/\x≠gr) wd) (by rw[<-a9];exact Kept.refl _ _) ?_;rw[<-a9];clear a9 aj c0;have SD:=h! (HS.out.keep (w':=wd) HS.out.bounds fun b hb=>DX.out.block b hb);have SS:=h! (SD.out.set k rz)
       have G:sp≠gi/\sp≠gr:=⟨fun e=>by
        obtain⟨c2,h2⟩:=SD.out.inn.typed (g:=gi) rfl;rw[<-e,show wd.heap[sp]?=_ from SD.out.box]at h2;injection h2 with h2
        injection h2 with _ h2 _
        exact absurd h2 (by decide),fun e=>by
        obtain⟨c2,h2⟩:=SD.out.rnd.typed (g:=gr) rfl;rw[<-e,show wd.heap[sp]?=_ from SD.out.box]at h2;injection h2 with h2
        injection h2 with _ h2 _
        exact absurd h2 (by decide)⟩
       have g1:=fun W (h:Kept (fun x=>x<wd.heap.size/\x≠gi/\x≠gr) wd W)=>(h.blk SD.out.box ⟨SD.out.box.lt,G.1,G.2⟩).cells;(refine WalkN.tk [0,1,2,3,4,5,6,7,8,9,10,11] ?_;(iterate 12 (refine c! ?_));refine TkN.n ?_)
       clear g1 G;obtain⟨H,a3,aS,J,C⟩:=SD.out.inn.cellAt;obtain⟨y1,d1⟩:∃y,wd.cell? ⟨gi,k,none⟩=some y:=⟨_,C k (by omega)⟩;have f1:=J.free;clear H C J;refine ob! 12 ?_;intro K hK;go_simp;refine hK.out _ _ (Kept.set (Kept.refl _ _) (a:=⟨gi,k,none⟩) (fun h=>h.2.1 rfl) _) ?_;clear hK d1 f1;refine t! 13 ?_
       have aQ:gi≠gr:=fun e=>by
        have h1:=SD.out.rnd;rw[<-e]at h1;exact SD.out.inn.apart h1 (by decide) rfl rfl
       have aM:Own (wd.setCell ⟨gi,k,none⟩ (.bool true)) lo 3 1 (.slice (some ⟨gr,0,none⟩) i i) (ic R):=SD.out.rnd.keepOwn fun g hg=>Below.heap_setCell _ _ _ _ (by obtain rfl:gr=g:=v5! hg;exact fun e=>aQ e.symm);obtain⟨H,T,aS,J,C⟩:=aM.cellAt;obtain⟨y2,d2⟩:∃y,(wd.setCell ⟨gi,k,none⟩ (.bool true)).cell? ⟨gr,k,none⟩=some y:=⟨_,C k (by omega)⟩;have f2:=J.free;clear H C J aM aQ;refine ob! 14 ?_;intro K hK;go_simp;refine hK.out _ _ (Kept.set (Kept.set (Kept.refl _ _) (a:=⟨gi,k,none⟩) (fun h=>h.2.1 rfl) _) (a:=⟨gr,k,none⟩) (fun h=>h.2.2 rfl) _) ?_;clear hK d2 f2;refine d! ?_;have B7':Below lo wb ((wd.setCell ⟨gi,k,none⟩ (.bool true)).setCell ⟨gr,k,none⟩ (.int .i64 rz)):=Below.setCell (Below.setCell (HB.out.trans (DX.out.mono (by have:=HZ.out;have:=L3.out;have:=o.out;omega))) a3 _) T _
       have a7:∀b,b≠gi->b≠gr->((wd.setCell ⟨gi,k,none⟩ (.bool true)).setCell ⟨gr,k,none⟩ (.int .i64 rz)).heap[b]?=wd.heap[b]?:=fun b h1 h2=>by
        rw[Below.heap_setCell _ _ _ _ h2,Below.heap_setCell _ _ _ _ h1]
       have an:I<=((wd.setCell ⟨gi,k,none⟩ (.bool true)).setCell ⟨gr,k,none⟩ (.int .i64 rz)).heap.size:=by have h1:=HZ.out;have h2:=DX.out.size;simp;omega
       obtain⟨w7,aD⟩:=e! ((wd.setCell ⟨gi,k,none⟩ (.bool true)).setCell ⟨gr,k,none⟩ (.int .i64 rz));rw[<-aD]at SS B7' a7 an ⊢;have N7:=h! (show Own w7 I 3 1 (.slice no nm nc) (ic (nextL U (F.take j)))from(HN.out.below DX.out).keepOwn fun g hg=>a7 g (by have h1:=(HN.out.block g hg).1;have:=BD.out.gi;have:=L3.out;omega) (by have h1:=(HN.out.block g hg).1;have:=BD.out.gr;have:=L3.out;omega));have F7:=h! (show Own w7 l 3 1 (.slice (some ⟨b,bi,none⟩) F.length fc) (ic F)from(HF.out.below DX.out).keepOwn fun g hg=>a7 g (by have h1:=(HF.out.block g hg).1;have:=BD.out.gi;omega) (by have h1:=(HF.out.block g hg).1;have:=BD.out.gr;omega));have B7:=h! B7';have Z7:=h! an;obtain⟨v,hv⟩:∃v,vs[k]?=some v:=⟨_,n4! (by rw[SS.out.use.vlen];exact ao.out)⟩;have R7:=h! (SS.out.use.row k v hv);obtain⟨vo,vm,vc,rfl,-,-,-⟩:=R7.out.sl.len;have aj:=SS.out.box.cells;obtain⟨H,-,aS,J,C⟩:=SS.out.use.arr.cellAt
       have bm:w7.cell? ⟨ub,k,none⟩=some (.slice vo vm vc):=by
        rw[C k (by rw[H];exact ao.out)];rw[n4! (by rw[H];exact ao.out)]at hv;exact hv
       have aX:=h! (n6! (jB! U k) a0.out.1);clear aD H C J hv B7' a7 an a3 T SD HN HF HB HS HI;go_wp2_with (at_builtin;go_must (refine in! intsT rfl (.tmp 54) (.tmp 61) rfl rfl N7.out rfl R7.out.sl (pH! _) (by have:=a4.out;have:=aX.out;rw[ad!,ad!];omega) (by have:=a4.out;have:=aX.out;rw[ad!,ad!];omega) Z7.out ?_;intro v6 w6 hown6 hb6 hg6;have ax:=h! (show Own w6 I 3 1 v6 (ic (nextL U (F.take (j+1))))from by rw[aA.out,bN!];exact hown6);have S6:=h! (SS.out.keep BD.out fun b hb=>hb6.block b (by have:=L3.out;omega));have F6:=h! (F7.out.keepOwn fun g hg=>hb6.block g (aJ.out g hg));have B6:=h! (B7.out.trans (hb6.mono (by have:=L3.out;have:=o.out;omega)));have Z6:=h! (n6! Z7.out hb6.size);clear hown6 hb6 hg6))
       go_roundw
       case rel=>exact⟨j+1,_,_,A.out,by first | rw[a5.out] | go_num,ag.out,S6.out,ax.out,F6.out,B6.out,Z6.out⟩
       case measure=>have:=A.out;(try rw[a5.out]);simp[intOf];omega
      ·obtain rfl:j=F.length:=by omega
       obtain⟨rfl,rfl⟩:=HI.out.done X.out;rw[u2!]at HN;have aH:=h! (show wrap64 (rz+1)=((r+1+1:Nat):Int)from by have:=ad.out;have:=al.out;have:=M.out;unfold wrap64;omega);have a4:=h! (show(nextL U F).length<=1000000000000 from n6! (gT! aW.out (fun x hx=>by rw[a0.out.2];exact(V.out x hx).1)) a0.out.1);have aI:=h! (show ∀x,x∈nextL U F↔∃k∈F,x∈U.getD k.toNat []from fun x=>by unfold nextL;rw[List.mem_flatMap])
       have bj:=h! (show ∀x∈nextL U F,0<=x/\x<(i:Int)from fun x hx=>by
        obtain⟨k,hk,hx⟩:=(aI.out x).1 hx;obtain⟨⟨h1,h2⟩,-⟩:=V.out k hk;obtain⟨m,_,rfl,h3,-⟩:=(UO.out k.toNat (by omega) x).1 hx;omega)
       have b4:=h! (Wide.next (fs:=fs) (s:=s) (r:=r) UO.out X.out aI.out)
       have bg:=h! (show r+1<=cntT (inN fs s i (r+1))\/(nextL U F=[]/\r+1<=i+1)from by
        by_cases hF:F=[]
        ·exact .inr ⟨by rw[hF];rfl,by have:=al.out;omega⟩
        ·left
         obtain⟨⟨h1,h2⟩,h3⟩:=V.out F[0]! (by
          rw[getElem!_pos F 0 (List.length_pos_iff.2 hF)];exact n5! _)
         have h4:=km! (by omega) h3;have:=aN.out;omega)
       generalize nextL U F=N at *;have aK:=h! (iF! HN.out (by have:=a4.out;omega));clear hlt hj;go_wp2_with fail
       refine aK.out.mono ?_;rintro e w6 ⟨rfl,ay,a6⟩;have O6:=h! ay;have K6:=h! (show ∀b,b<I->w6.heap[b]?=wr.heap[b]? from fun b hb=>a6.block b ⟨by have:=HZ.out;omega,fun e=>by have:=(HN.out.block b e).1;omega⟩);have bf:=h! (show Below lo wr w6 from Kept.below (B:=lo) a6 fun b hb=>⟨by have:=HZ.out;have:=L3.out;have:=o.out;omega,fun e=>by have:=(HN.out.block b e).1;have:=L3.out;have:=o.out;omega⟩);have av:=h! a6.size;have b0:=h! (gs! _ _ w6 ay (by rw[List.length_mergeSort];have:=a4.out;omega));clear ay a6 aK;go_wp2_with fail
       refine b0.out.mono ?_;rintro e w7 ⟨v',rfl,ah,-,aa⟩;have O7:Hid (Own w7 l 3 1 v' (ic (setI N))):=h! (ah.low L3.out);have S7:=h! (HS.out.keep BD.out fun b hb=>(aa.block b ⟨by have:=HZ.out;have:=av.out;have:=L3.out;omega,fun e=>by have:=(O6.out.block b e).1;have:=L3.out;omega⟩).trans (K6.out b (by have:=L3.out;omega)));have B7:=h! (show Below lo wb w7 from HB.out.trans (bf.out.trans (Kept.below (B:=lo) aa fun b hb=>⟨by have:=HZ.out;have:=av.out;have:=L3.out;have:=o.out;omega,fun e=>by have:=(O6.out.block b e).1;have:=L3.out;have:=o.out;omega⟩)));have Z7:=h! (show l<=w7.heap.size from by have:=aa.size;have:=HZ.out;have:=av.out;have:=L3.out;omega);obtain⟨vo,vm,vc,rfl,-,-,-⟩:=ah.sl.len;clear ah aa b0;go_wp2_with fail
       go_roundw
       case rel=>exact⟨r+1,setI N,by first | rw[aH.out] | go_num,O7.out,fun x hx=>bj.out x ((fW! N x).1 hx),iM! N,fun m hm h=>(fW! N _).2 (b4.out m hm h),bg.out.imp id (fun h=>⟨by rw[h.1];exact List.eq_nil_iff_forall_not_mem.2 fun x hx=>by have:=(fW! [] x).1 hx;simp at this,h.2⟩),S7.out,B7.out,Z7.out⟩
       case measure=>have:=al.out;have:=ad.out;(try rw[aH.out]);simp[intOf];omega
end Go.Proofs.YtlhaghoajpglaaaGreat
