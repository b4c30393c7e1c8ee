/- Lemmas for the claim, no condition. -/
import Derived.Shelf.SortM.Plain
import Derived.Shelf.SortM.SortNone
import Derived.Lib.SliceRun
import Derived.Shelf.SlGeneric
import Derived.Ground.SlgmProg
import Derived.Test.YtlhaghoajpglaaaGreatProg
import Derived.Test.YtlhaghoajpglaaaGreatYLkSets6
import Derived.Test.YtlhaghoajpglaaaGreatYLkSets0
import Derived.Test.YtlhaghoajpglaaaGreatYLkSets15
import Derived.Test.YtlhaghoajpglaaaGreatYLkSets12
set_option maxRecDepth 100000
set_option maxHeartbeats 8000000
namespace Go.Proofs.YtlhaghoajpglaaaGreat
open Go Go.RowKit Go.Sort Go.Shelf
theorem sortI_own {P:Program} {ρ:Ren} (L:SlLaysM.n5 P ρ) {w:World} {B:Nat} {T:TypeId} {v:Value} {l:List Int} (h:Own w B T 1 v (ic l))(hl:l.length<4611686018427387904) :
  Calls P (ρ.f 5) #[v] w fun e w'=>e = .returned (.tuple #[])/\Own w' B T 1 v (ic (l.mergeSort fun x y=>decide (x<=y)))/\Kept (fun b=>b<w.heap.size/\v.ownBlock≠some b) w w':=by
 obtain⟨n,hlen,hrow⟩:=h;rw[ic_length,Nat.mul_one]at hlen;subst hlen;by_cases h0:l=[]
 ·subst h0
  have hv:∃ p c,v = .slice p 0 c:=by
   rcases hrow with⟨rfl,_⟩ | ⟨b,cap,cur,rfl,_⟩
   ·exact⟨_,_,rfl⟩
   ·exact⟨_,_,rfl⟩
  have hown:Own w B T 1 v (ic []):=⟨0,by simp[ic],hrow⟩;obtain⟨p,c,rfl⟩:=hv;refine(AnyM.slices_Sort_int_none L p c w).mono ?_;rintro e w' ⟨rfl,rfl⟩;exact⟨rfl,by simpa using hown,Kept.refl _ _⟩
 ·have hl0:0<l.length:=List.length_pos_iff.2 h0;rcases hrow with⟨rfl,hx⟩ | ⟨b,cap,cur,rfl,hB,hb,hnc,hcm,hcs,htake⟩
  ·exfalso
   omega
  ·have hblt:b<w.heap.size:=(Array.getElem?_eq_some_iff.1 hb).1
   have hcur:∀ j (hj:j<l.length),cur[j]?=some (.int .i64 l[j]):=fun j hj=>by
    have e1:(cur.toList.take (l.length*1))[j]?=cur[j]?:=by rw[List.getElem?_take,if_pos (by omega)];simp
    rw[<- e1,htake];simp[ic,hj]
   have hH:Holds (Value.int .i64) w b 0 l.toArray:=fun j hj=>by
    have hj':j<l.length:=by simpa using hj
    refine⟨?_,frozen_of_row w b (0+j) cur T hb⟩;rw[cell_of_row w b (0+j) cur T (0,0) hb,Nat.zero_add,hcur j hj',getElem!_pos _ j hj];simp
   refine(AnyM.slices_Sort_int L b 0 cap l w hH hblt hl).mono ?_;rintro e w' ⟨rfl,m,os,rfl⟩;have hsl:(l.mergeSort fun x y=>decide (x<=y)).length=l.length:=List.length_mergeSort _;generalize l.mergeSort (fun x y=>decide (x<=y))=d at *;refine⟨rfl,⟨l.length,by rw[ic_length,hsl,Nat.mul_one],.inr ⟨b,cap,putCells (Value.int .i64) 0 d.toArray cur,rfl,hB,?_,hnc,hcm,?_,?_⟩⟩,?_⟩
   ·simp only[putRow,mapBlock,grow,heap_ahead];rw[Array.getElem?_append_left (by simpa using hblt),Array.getElem?_modify,if_pos rfl,hb];rfl
   ·simp[putCells,hcs]
   ·apply List.ext_getElem?;intro t;rw[List.getElem?_take];split
    ·rename_i ht
     have htc:t<cur.size:=by omega
     have htd:t<d.length:=by omega
     simp only[putCells,Array.getElem?_toList,Array.getElem?_mapIdx];rw[Array.getElem?_eq_getElem htc];simp[htd,ic]
    ·rename_i ht
     rw[List.getElem?_eq_none (by rw[ic_length];omega)]
   ·refine⟨rfl,rfl,rfl,by simp[putRow,grow,mapBlock,heap_ahead],fun c hc=>?_⟩;have hne:c≠b:=fun e=>hc.2 (by subst e;rfl);simp only[putRow,mapBlock,grow,heap_ahead];rw[Array.getElem?_append_left (by simpa using hc.1),Array.getElem?_modify,if_neg (Ne.symm hne)]
end Go.Proofs.YtlhaghoajpglaaaGreat
namespace Go.Proofs.YtlhaghoajpglaaaGreat
open Go Go.RowKit
def ddnI (l:List Int):Nat->List Int
 | 0 => []
 | m+1=>ddnI l m++(if m=0\/l[m]?≠l[m-1]? then l[m]?.toList else [])
def ddI (l:List Int):List Int:=ddnI l l.length
theorem ddnI_mem (l:List Int)(x:Int):∀ m,x∈ddnI l m↔∃ j,j<m/\l[j]?=some x:=by
 intro m;induction m with
 | zero=>simp[ddnI]
 | succ m ih =>
  rw[ddnI,List.mem_append,ih];constructor
  ·rintro(⟨j,hj,h⟩ | h)
   ·exact⟨j,by omega,h⟩
   ·split at h
    ·exact⟨m,Nat.lt_succ_self m,by simpa using h⟩
    ·cases h
  ·rintro⟨j,hj,h⟩;by_cases hjm:j<m
   ·exact .inl ⟨j,hjm,h⟩
   ·obtain rfl:j=m:=by omega
    by_cases hc:j=0\/l[j]?≠l[j-1]?
    ·rw[if_pos hc];exact .inr (by simp[h])
    ·left
     have h0:j≠0:=fun e=>hc (.inl e);have h1:l[j]?=l[j-1]?:=Classical.byContradiction fun e=>hc (.inr e);exact⟨j-1,by omega,by rw[<- h1];exact h⟩
theorem ddI_mem (l:List Int)(x:Int):x∈ddI l↔x∈l:=by
 unfold ddI;rw[ddnI_mem,List.mem_iff_getElem?];constructor
 ·rintro⟨j,_,h⟩;exact⟨j,h⟩
 ·rintro⟨j,h⟩;exact⟨j,(List.getElem?_eq_some_iff.1 h).1,h⟩
theorem ddnI_up (l:List Int)(hs:l.Pairwise fun a b=>a<=b):∀ m,m<=l.length->(ddnI l m).Pairwise fun a b=>a<b
 | 0,_=>List.Pairwise.nil
 | m+1,hm=>by
  have ih:=ddnI_up l hs m (by omega);rw[ddnI];split
  ·next hc =>
   have hlm:l[m]?=some l[m]:=List.getElem?_eq_getElem (by omega);rw[hlm,List.pairwise_append];refine⟨ih,by simp,fun x hx y hy=>?_⟩;obtain rfl:y=l[m]:=by simpa using hy
   obtain⟨j,hj,hjx⟩:=(ddnI_mem l x m).1 hx;obtain⟨hjl,rfl⟩:=List.getElem?_eq_some_iff.1 hjx;have hp:=fun(a b:Nat) (ha:a<l.length) (hb:b<l.length) (hab:a<b)=>List.pairwise_iff_getElem.1 hs a b ha hb hab;have h1:=hp j m hjl (by omega) hj;rcases hc with hc | hc
   ·omega
   ·have hl1:l[m-1]?=some (l[m-1]'(by omega)):=List.getElem?_eq_getElem _;rw[hlm,hl1]at hc;have h2:l[m]≠l[m-1]'(by omega):=fun e=>hc (congrArg some e);have h3:=hp (m-1) m (by omega) (by omega) (by omega);by_cases hj1:j=m-1
    ·subst hj1;omega
    ·have h4:=hp j (m-1) hjl (by omega) (by omega);omega
  ·simpa using ih
theorem ddI_nodup {l:List Int} (hs:l.Pairwise fun a b=>a<=b):(ddI l).Nodup:=(ddnI_up l hs _ (Nat.le_refl _)).imp fun h e=>by omega
theorem ddnI_same (l:List Int):∀ m,m<=l.length->(∀ j,0<j->j<m->l[j]?≠l[j-1]?)->ddnI l m=l.take m
 | 0,_,_=>by simp[ddnI]
 | m+1,hm,h=>by
  rw[ddnI,ddnI_same l m (by omega) fun j h0 h1=>h j h0 (by omega),List.take_add_one];congr 1
  rw[if_pos];by_cases h0:m=0
  ·exact .inl h0
  ·exact .inr (h m (by omega) (by omega))
theorem ddI_short {l:List Int} (h:l.length<2):ddI l=l:=by
 unfold ddI;rw[ddnI_same l _ (Nat.le_refl _) fun j h0 h1=>by omega,List.take_length]
def setI (l:List Int):List Int:=ddI (l.mergeSort fun x y=>decide (x<=y))
theorem setI_mem (l:List Int)(x:Int):x∈setI l↔x∈l:=by
 unfold setI;rw[ddI_mem,List.mem_mergeSort]
theorem setI_nodup (l:List Int):(setI l).Nodup:=ddI_nodup ((List.pairwise_mergeSort (le:=fun x y:Int=>decide (x<=y)) (by intro a b c h1 h2;simp at *;omega) (by intro a b;simp;omega) l).imp fun h=>by simpa using h)
theorem indexIX_any (w:World)(ps:List Int)(pv:Value)(g:Nat)(cap:Array Value)(eg:∀ args W,(callFunc g args).run Tryz.prog W = .ok (.enter g args) W)(q:Int->Bool)(hat:Sl (· < w.heap.size) w 1 pv (ic ps))(hf:∀ i (hi:i<ps.length) W,Below w.heap.size w W->Calls Tryz.prog g (#[.int .i64 ps[i]]++cap) W fun e W'=>e = .returned (.bool (q ps[i]))/\Below W.heap.size W W') :
  Calls Tryz.prog 252 #[pv,.func (.func g) #[] cap] w fun e w'=>((∃ i:Nat,e = .returned (.int .i64 (i:Int))/\i<ps.length/\(∃ x,ps[i]?=some x/\q x=true)/\∀ j (hj:j<ps.length),j<i->q ps[j]=false)\/(e = .returned (.int .i64 (-1))/\∀ j (hj:j<ps.length),q ps[j]=false))/\Below w.heap.size w w':=by
 obtain⟨ao,n,c,rfl,hn,hlc,hcm⟩:=hat.len;rw[ic_length,Nat.mul_one]at hn;subst hn;have HC:=h! (ints_at hat);have HF:=h! hf;clear hat hf;go_enter Tryz.func252,Tryz.ntmps252
 go_wp2_with fail
 go_loopw [5,8] (fun _ ii wr=>∃ i:Nat,i<=ps.length/\ii = .int .i64 i/\(∀ j (hj:j<ps.length),j<i->q ps[j]=false)/\Below w.heap.size w wr) (fun _ ii _=>ps.length-(intOf ii).toNat)
 case atStart=>exact⟨0,by omega,rfl,fun _ _ h=>absurd h (by omega),Below.refl _ _⟩
 case round =>
  obtain⟨i,hi,rfl,hall,hbel⟩:=hrel;have HALL:=h! hall;clear hall;by_cases hlt:i<ps.length
  ·have HUP:=h! (fun h=>upto_succ (p:=fun j hj=>q ps[j]=false) HALL.out hlt h);have HAN:=h! (fun(h:q ps[i]=true)=>(show i<ps.length/\(∃ x,ps[i]?=some x/\q x=true)/\∀ j (hj:j<ps.length),j<i->q ps[j]=false from⟨hlt,⟨_,List.getElem?_eq_getElem hlt,h⟩,HALL.out⟩));obtain⟨bb,off,hbo,hb,c0⟩:=HC.out i hlt;cases hbo;have d0:=(hbel.cell (p:=⟨bb,off+i,none⟩) hb).trans c0;have HR:=h! (HF.out i hlt wr hbel);clear c0 hb;generalize ps[i]=p at *;have HB:=h! hbel;clear hbel;cases hq:q p with
   | true =>
    rw[hq]at HR;have HT:=h! (HAN.out hq);clear HUP HAN hq;go_wp2_with fail
    refine HR.out.mono ?_;rintro e w5 ⟨rfl,hb5⟩;have HBE:=h! (HB.out.trans (hb5.mono HB.out.size));clear HR hb5 d0;go_wp2_with fail
    go_ret
    exact⟨.inl ⟨i,rfl,HT.out⟩,HBE.out⟩
   | false =>
    rw[hq]at HR;have HN:=h! (HUP.out hq);clear HUP HAN hq;go_wp2_with fail
    refine HR.out.mono ?_;rintro e w5 ⟨rfl,hb5⟩;have HBE:=h! (HB.out.trans (hb5.mono HB.out.size));clear HR hb5 d0;go_wp2_with fail
    go_roundw
    case rel=>exact⟨i+1,by omega,by go_num,HN.out,HBE.out⟩
    case measure=>simp[intOf];omega
  ·obtain rfl:i=ps.length:=by omega
   have HB:=h! hbel;clear hbel;go_wp2_with fail
   go_ret
   exact⟨.inr ⟨rfl,fun j hj=>HALL.out j hj hj⟩,HB.out⟩
theorem clearI {w:World} {B:Nat} {g n c:Nat} {R:List Int} (h:Own w B 3 1 (.slice (some ⟨g,0,none⟩) n c) (ic R))(hn:n=R.length)(q:Nat)(hq:q<n)(ty:TypeId)(c':Nat) :
  ∃ vs,(Builtin.clear_ #[107] ty #[.slice (some ⟨g,q,none⟩) (n-q) c']).run Tryz.prog w = .ok (.tuple #[]) (w.setCells g q vs):=by
 obtain⟨cur,hcur⟩:=h.typed (g:=g) rfl;have hfr:=Blk.free (show Blk w g cur 3 from hcur);obtain⟨-,-,cs,hB,hcells⟩:=h.cellAt;have hz:=Tryz.zeroValue3;refine⟨(Builtin.zeroCells (Value.int .i64 0).cells (n-q)).toList,?_⟩
 have hlen:(Builtin.zeroCells (Value.int .i64 0).cells (n-q)).toList.length=n-q:=by
  simp[Builtin.zeroCells,Value.cells]
 have hst:=run_storeCells_cells (P:=Tryz.prog) g q (Builtin.zeroCells (Value.int .i64 0).cells (n-q)).toList 0 w
  (fun j hj=>by
   rw[hlen]at hj;have hjl:q+j<(ic R).length:=by rw[ic_length];omega
   have:=hcells (q+j) hjl;simp only[Nat.add_zero];rw[this];rfl)
  (fun j hj=>hfr _)
  (by
   intro v hv;simp only[Builtin.zeroCells,Value.cells,Array.toList_map,Array.toList_range,List.mem_map,List.mem_range]at hv;obtain⟨i,hi,rfl⟩:=hv;have h0:i % (#[Value.int .i64 0]:Array Value).size=0:=Nat.mod_one i;rw[h0];rfl)
 simp only[Nat.add_zero]at hst;obtain⟨m,hm⟩:∃ m,n-q=m+1:=⟨n-q-1,by omega⟩;rw[hm]at hst ⊢;simp[Builtin.clear_,run_underlying Tryz.underlying107,hz,hst]
theorem Own.intAt {w:World} {B:Nat} {g n c:Nat} {l:List Int} (h:Own w B 3 1 (.slice (some ⟨g,0,none⟩) n c) (ic l))(k:Nat)(hk:k<l.length):w.cell? ⟨g,k,none⟩=some (.int .i64 l[k]):=by
 obtain⟨-,-,cs,hB,hc⟩:=h.cellAt;rw[hc k (by rw[ic_length];exact hk)];simp[ic]
theorem Own.setI {w:World} {B:Nat} {g n c:Nat} {l:List Int} (h:Own w B 3 1 (.slice (some ⟨g,0,none⟩) n c) (ic l))(k:Nat)(x:Int):Own (w.setCell ⟨g,k,none⟩ (.int .i64 x)) B 3 1 (.slice (some ⟨g,0,none⟩) n c) (ic (l.set k x)):=by
 have:=h.set1 k (.int .i64 x);rwa[show(ic l).set k (.int .i64 x)=ic (l.set k x)from by unfold ic;rw[List.map_set]]at this
theorem Own.cutI {w:World} {B:Nat} {g n c:Nat} {R:List Int} (h:Own w B 3 1 (.slice (some ⟨g,0,none⟩) n c) (ic R)) {q:Nat} (hq:q<=n)(vs:List Value):Own (w.setCells g q vs) B 3 1 (.slice (some ⟨g,0,none⟩) q c) (ic (R.take q)):=by
 have h1:=(Own.setMany vs q h).cutT (k:=q) hq;rw[Nat.mul_one,setL_take _ _ _ _ (Nat.le_refl _),show(ic R).take q=ic (R.take q)from by unfold ic;rw[List.map_take]]at h1;exact h1
theorem Own.at0 {w:World} {B:Nat} {n c:Nat} {ao:Option Addr} {l:List Int} (h:Own w B 3 1 (.slice ao n c) (ic l))(hl:0<l.length):∃ g,ao=some ⟨g,0,none⟩:=by
 obtain⟨m,h1,h2⟩:=h;rcases h2 with⟨hv,hx⟩ | ⟨g',cap,cur,hv,hbg,hg,hr⟩
 ·exfalso
  rw[ic_length]at h1;omega
 ·exact⟨g',by injection hv⟩
abbrev RowK (w0 w:World) (v:Value):Prop:=Kept (fun b=>b<w0.heap.size/\v.ownBlock≠some b) w0 w
theorem deleteIF_any {B:Nat} (v:Value)(l:List Int)(w:World)(h:Own w B 3 1 v (ic l))(hl:l.length<=1099511627776)(g0:Nat)(cap:Array Value)(eg:∀ args W,(callFunc g0 args).run Tryz.prog W = .ok (.enter g0 args) W)(q:Int->Bool)
  (hf:∀ i (hi:i<l.length) W,RowK w W v->Calls Tryz.prog g0 (#[.int .i64 l[i]]++cap) W fun e W'=>e = .returned (.bool (q l[i]))/\Below W.heap.size W W') :
  Calls Tryz.prog 210 #[v,.func (.func g0) #[] cap] w fun e w'=>∃ v',e = .returned v'/\Own w' B 3 1 v' (ic (l.filter fun x=>!q x))/\(∀ b,v'.ownBlock=some b->v.ownBlock=some b)/\RowK w w' v:=by
 obtain⟨ao,n,c,rfl,hn,hnc,hcm⟩:=h.sl.len;rw[ic_length,Nat.mul_one]at hn;subst hn;have HL:=h! hl;have HO:=h! h;have HF:=h! hf;have HC:=h! (And.intro hnc hcm);have HI:=h! (indexIX_any w l (.slice ao l.length c) g0 cap eg q (h.sl.mono fun _ h=>h.2) fun i hi W hW=>hf i hi W (Below.kept hW fun _ h=>h.1));clear h hf hnc hcm;go_enter Tryz.func210,Tryz.ntmps210
 go_wp2_with fail
 refine HI.out.mono ?_;rintro e w1 ⟨hor,hb1⟩;have O1:=h! (HO.out.below hb1);have K1:=h! (show RowK w w1 (.slice ao l.length c)from Below.kept hb1 fun _ h=>h.1);clear HI hb1 HO;rcases hor with⟨i0,rfl,hi0,hq0,hall⟩ | ⟨rfl,hall⟩
 case' inr =>
  have HV:=h! (show(l.filter fun x=>!q x)=l from List.filter_eq_self.2 fun x hx=>by
   obtain⟨j,hj,rfl⟩:=List.getElem_of_mem hx;rw[hall j hj];rfl)
  clear hall;go_wp2_with fail
  go_ret
  exact⟨_,rfl,by rw[HV.out];exact O1.out,fun b h=>h,K1.out⟩
 case' inl =>
  obtain⟨g,rfl⟩:=O1.out.at0 (by omega)
  have HS:=h! (show l.take i0=(l.take (i0+1)).filter fun x=>!q x from by
   obtain⟨x,hx,hqx⟩:=hq0;rw[List.take_add_one,hx,List.filter_append];simp only[Option.toList_some,List.filter_cons,hqx,Bool.not_true,Bool.false_eq_true,if_false,List.filter_nil,List.append_nil]
   exact(List.filter_eq_self.2 fun y hy=>by
    obtain⟨j,hj,rfl⟩:=List.getElem_of_mem hy;rw[List.length_take]at hj;rw[List.getElem_take,hall j (by omega) (by omega)];rfl).symm)
  have HI0:=h! hi0;have hw0:wrap64 ((i0:Int)+1)=((i0+1:Nat):Int):=by unfold wrap64;omega
  have hm1:((i0:Int) == -1)=false:=by rw[beq_eq_false_iff_ne];omega
  clear hq0 hall hi0;go_wp2_with fail
  obtain⟨z,hz0,hz⟩:∃ z:Int,wrap64 ((i0:Int)+1)=z/\Hid (z=((i0+1:Nat):Int)):=⟨_,hw0,h! rfl⟩;rw[hz0];clear hm1 hw0 hz0;go_loopw [5,6] (fun iv jv wr=>∃ (i j:Nat) (R:List Int),iv = .int .i64 i/\jv = .int .i64 j/\i<j/\j<=l.length/\R.length=l.length/\R.take i=(l.take j).filter (fun x=>!q x)/\(∀ m,j<=m->R[m]?=l[m]?)/\Own wr B 3 1 (.slice (some ⟨g,0,none⟩) l.length c) (ic R)/\RowK w wr (.slice (some ⟨g,0,none⟩) l.length c)) (fun _ jv _=>l.length-(intOf jv).toNat)
  case atStart=>exact⟨i0,i0+1,l,rfl,by rw[hz.out],by omega,HI0.out,rfl,HS.out,fun _ _=>rfl,O1.out,K1.out⟩
  case round =>
   obtain⟨i,j,R,rfl,rfl,hij,hjl,hRl,hRt,hRj,ho,hk⟩:=hrel;have QO:=h! ho;have QK:=h! hk;have QL:=h! hRl;have QT:=h! hRt;have QJ:=h! hRj;have QI:=h! (And.intro hij hjl);clear ho hk hRl hRt hRj hij hjl O1 K1 HS HI0;by_cases hlt:j<l.length
   ·have HLT:=h! hlt;have hRp:j<R.length:=by rw[QL.out];exact hlt
    have hx:R[j]?=l[j]?:=QJ.out _ (Nat.le_refl _);rw[List.getElem?_eq_getElem hRp,List.getElem?_eq_getElem hlt]at hx;have k0:=QO.out.intAt j hRp;rw[Option.some.inj hx]at k0;have HCL:=h! (HF.out j hlt wr QK.out);have HTN:=h! (List.take_succ_eq_append_getElem hlt);have hji:(j:Int)<(l.length:Int):=by omega
    have HWI:=h! (show wrap64 ((j:Int)+1)=((j+1:Nat):Int)/\wrap64 ((i:Int)+1)=((i+1:Nat):Int)from by have:=HL.out;have:=QI.out;unfold wrap64;omega);generalize l[j]=x at *;clear hRp hx hlt;cases hq:q x with
    | true =>
     rw[hq]at HCL;have HTQ:=h! (show R.take i=(l.take (j+1)).filter (fun x=>!q x)from by rw[HTN.out,List.filter_append,QT.out];simp[hq]);clear hq;go_wp2_with fail
     refine HCL.out.mono ?_;rintro e w5 ⟨rfl,hb5⟩;have O5:=h! (QO.out.below hb5);have K5:=h! (show RowK w w5 (.slice (some ⟨g,0,none⟩) l.length c)from Kept.trans QK.out (Below.kept hb5 fun b hb=>Nat.lt_of_lt_of_le hb.1 QK.out.size));clear hb5 HCL k0 QO QK;go_wp2_with fail
     go_roundw
     case rel=>exact⟨i,j+1,R,rfl,by first | rw[HWI.out.1] | go_num,by have:=QI.out;omega,HLT.out,QL.out,HTQ.out,fun m hm=>QJ.out m (by omega),O5.out,K5.out⟩
     case measure=>have:=HLT.out;(try rw[HWI.out.1]);simp[intOf];omega
    | false =>
     rw[hq]at HCL
     have HTQ:=h! (show(R.set i x).take (i+1)=(l.take (j+1)).filter (fun x=>!q x)from by
      rw[HTN.out,List.filter_append,<- QT.out,List.take_succ_eq_append_getElem (by rw[List.length_set,QL.out];have:=QI.out;omega),List.getElem_set_self,List.take_set_of_le (Nat.le_refl i)];simp[hq])
     have HJ2:=h! (show ∀ m,j+1<=m->(R.set i x)[m]?=l[m]? from fun m hm=>by
      rw[List.getElem?_set_ne (by have:=QI.out;omega)];exact QJ.out m (by omega))
     clear hq;go_wp2_with fail
     refine HCL.out.mono ?_;rintro e w5 ⟨rfl,hb5⟩;have O5:=h! (QO.out.below hb5);have K5:=h! (show RowK w w5 (.slice (some ⟨g,0,none⟩) l.length c)from Kept.trans QK.out (Below.kept hb5 fun b hb=>Nat.lt_of_lt_of_le hb.1 QK.out.size));have hii:(i:Int)<(l.length:Int):=by have:=QI.out;omega
     obtain⟨y,d1⟩:∃ y,w5.cell? ⟨g,i,none⟩=some y:=⟨_,O5.out.intAt i (by rw[QL.out];have:=QI.out;omega)⟩;obtain⟨-,-,cs,hB,-⟩:=O5.out.cellAt;have f1:=hB.free;have O6:=h! (O5.out.setI i x);have K6:=h! (show RowK w (w5.setCell ⟨g,i,none⟩ (.int .i64 x)) (.slice (some ⟨g,0,none⟩) l.length c)from Kept.set K5.out (a:=⟨g,i,none⟩) (fun h=>h.2 rfl) _);clear hb5 HCL k0 QO QK hB;go_wp2_with fail
     go_roundw
     case rel=>exact⟨i+1,j+1,R.set i x,by first | rw[HWI.out.2] | go_num,by first | rw[HWI.out.1] | go_num,by have:=QI.out;omega,HLT.out,by rw[List.length_set];exact QL.out,HTQ.out,HJ2.out,O6.out,K6.out⟩
     case measure=>have:=HLT.out;(try rw[HWI.out.1]);simp[intOf];omega
   ·obtain rfl:j=l.length:=by have:=QI.out;omega
    rw[List.take_length]at QT;have hql:i<l.length:=QI.out.1;have hqi:(i:Int)<=(l.length:Int):=by omega
    have hqi0:(0:Int)<=(i:Int):=by omega
    have hqc:i<=c:=by have:=HC.out;omega
    have hcq:¬ (c=i):=by have:=HC.out;omega
    obtain⟨vs,hcl⟩:=clearI QO.out QL.out.symm i hql 0 (c-i);obtain⟨w8,hw8⟩:∃ y,y=wr.setCells g i vs:=⟨_,rfl⟩;rw[<- hw8]at hcl
    have HO8:=h! (show Own w8 B 3 1 (.slice (some ⟨g,0,none⟩) i c) (ic (l.filter fun x=>!q x))from by
     have h1:=QO.out.cutI (q:=i) (Nat.le_of_lt hql) vs;rw[QT.out]at h1;rw[hw8];exact h1)
    have HK8:=h! (show RowK w w8 (.slice (some ⟨g,0,none⟩) l.length c)from by rw[hw8];exact QK.out.setMany (g:=g) (fun h=>h.2 rfl) _ _);clear hw8 hlt QO QK QT;go_wp2_with ((with_reducible refine wpList_clear (v := .slice (some ⟨g,i,none⟩) (l.length-i) (c-i)) (w':=w8) (r := .tuple #[]) ?hV ?hR ?hK);(case hV=>rfl);(case hR=>exact hcl);clear hcl)
    go_ret
    exact⟨_,rfl,HO8.out,fun b h=>h,HK8.out⟩
theorem compactI_any {B:Nat} (v:Value)(l:List Int)(w:World)(h:Own w B 3 1 v (ic l))(hl:l.length<=1099511627776) :
  Calls Tryz.prog 156 #[v] w fun e w'=>∃ v',e = .returned v'/\Own w' B 3 1 v' (ic (ddI l))/\(∀ b,v'.ownBlock=some b->v.ownBlock=some b)/\RowK w w' v:=by
 obtain⟨ao,n,c,rfl,hn,hnc,hcm⟩:=h.sl.len;rw[ic_length,Nat.mul_one]at hn;subst hn;have HL:=h! hl;have HO:=h! h;have HC:=h! (And.intro hnc hcm);clear h;by_cases hlt:l.length<2
 ·have HD:=h! (ddI_short hlt);have hi:(l.length:Int)<2:=by omega
  go_enter Tryz.func156,Tryz.ntmps156
  go_wp2_with fail
  go_ret
  exact⟨_,rfl,by rw[HD.out];exact HO.out,fun b h=>h,Kept.refl _ _⟩
 have hi:¬ ((l.length:Int)<2):=by omega
 obtain⟨g,rfl⟩:=HO.out.at0 (by omega);have H2:=h! (show 2<=l.length from by omega);go_enter Tryz.func156,Tryz.ntmps156
 go_wp2_with fail
 clear hi hlt;go_loopw [3] (fun kv wr=>∃ m:Nat,kv = .int .i64 ((m+1:Nat):Int)/\m+1<=l.length/\(∀ j,0<j->j<m+1->l[j]?≠l[j-1]?)/\Own wr B 3 1 (.slice (some ⟨g,0,none⟩) l.length c) (ic l)/\RowK w wr (.slice (some ⟨g,0,none⟩) l.length c)) (fun kv _=>l.length-(intOf kv).toNat)
 case atStart=>exact⟨0,rfl,by have:=H2.out;omega,(fun j h0 h1=>by omega),HO.out,Kept.refl _ _⟩
 case round =>
  obtain⟨m,rfl,hm,hne,ho,hk⟩:=hrel;have RO:=h! ho;have RK:=h! hk;have RN:=h! hne;have hll:=HL.out;clear HO ho hk hne;by_cases hlt:m+1<l.length
  ·have HLT:=h! hlt;have hl0:m<l.length:=by omega
   have HNX:=h! (show l[m+1]≠l[m]->∀ j,0<j->j<m+2->l[j]?≠l[j-1]? from fun he j h0 h1=>by
    by_cases hj:j<m+1
    ·exact RN.out j h0 hj
    ·obtain rfl:j=m+1:=by omega
     rw[Nat.add_sub_cancel,List.getElem?_eq_getElem hlt,List.getElem?_eq_getElem hl0];exact fun e=>he (by injection e))
   have HEQ:=h! (show l[m+1]=l[m]->l.take (m+1)=ddnI l (m+2)from fun he=>by
    rw[ddnI,if_neg (by
     rintro(h | h)
     ·omega
     ·apply h;rw[Nat.add_sub_cancel,List.getElem?_eq_getElem hlt,List.getElem?_eq_getElem hl0];exact congrArg some he),List.append_nil,ddnI_same l (m+1) hm RN.out])
   go_wp2_with fail
   obtain⟨wd,hwd⟩:∃ y:World,y=wr.drew:=⟨_,rfl⟩;have DO:=h! (show Own wd B 3 1 (.slice (some ⟨g,0,none⟩) l.length c) (ic l)from by rw[hwd];exact RO.out.below (Ext.drew _));have DK:=h! (show RowK w wd (.slice (some ⟨g,0,none⟩) l.length c)from by rw[hwd];exact Kept.drew RK.out);refine r! (Ext wd) (by rw[<- hwd];exact Ext.refl _) ?_;rw[<- hwd];clear hwd RO RK;have k0:=fun W (hW:Ext wd W)=>(DO.out.below hW).intAt (m+1) hlt;have j0:=fun W (hW:Ext wd W)=>(DO.out.below hW).intAt m hl0;have HWE:=h! (show wrap64 ((m:Int)+1+1)=((m+1+1:Nat):Int)from by unfold wrap64;omega);generalize l[m+1]=x at *;generalize l[m]=y at *;have hw1:IntKind.i64.wrap (m:Int)=(m:Int):=IntWalk.i64_in _ (by omega);have hi1:(m:Int)<(l.length:Int):=by omega
   have hi2:((m:Int)+1)<(l.length:Int):=by omega
   have hi3:(0:Int)<=(m:Int)+1:=by omega
   by_cases he:x=y
   ·have HE2:=h! (HEQ.out he);subst he;clear HEQ HNX;(refine WalkN.tk [0,1,2,3,4,5,6,7,8,9] ?_;(iterate 10 (refine c! ?_));refine TkN.n ?_)
    refine d! ?_;clear k0 j0 hw1;have hi4:((m:Int)+1)<=(l.length:Int):=by omega
    have hi5:m+1<=l.length:=hm;go_wp2_with fail
    clear hi1 hi2 hi3 hi4 hi5;go_loopw [3,5] (fun kv jv wr=>∃ (q a:Nat) (R:List Int),kv = .int .i64 q/\jv = .int .i64 ((a+1:Nat):Int)/\q<=m+1+a/\1<=q/\m+1+a+1<=l.length/\R.length=l.length/\R.take q=ddnI l (m+1+a+1)/\(∀ j,m+1+a<=j->R[j]?=l[j]?)/\Own wr B 3 1 (.slice (some ⟨g,0,none⟩) l.length c) (ic R)/\RowK w wr (.slice (some ⟨g,0,none⟩) l.length c)) (fun _ jv _=>l.length-(m+(intOf jv).toNat))
    case atStart=>exact⟨m+1,0,l,rfl,rfl,by omega,by omega,by have:=HLT.out;omega,rfl,HE2.out,(fun _ _=>rfl),DO.out,DK.out⟩
    case round =>
     obtain⟨q,a,R,rfl,rfl,hqp,hq1,hpl,hRl,hRt,hRj,ho2,hk2⟩:=hrel;have QO:=h! ho2;have QK2:=h! hk2;have QL:=h! hRl;have QT:=h! hRt;have QJ:=h! hRj;have QP:=h! (And.intro hqp (And.intro hq1 hpl));clear DO DK ho2 hk2 hRl hRt hRj hqp hq1 HE2;by_cases hlt2:m+1+a+1<l.length
     ·have HLT2:=h! hlt2;have hRp:m+1+a+1<R.length:=by rw[QL.out];exact hlt2
      have hRq:m+1+a<R.length:=by omega
      have hx:R[m+1+a+1]?=l[m+1+a+1]?:=QJ.out _ (by omega);have hy:R[m+1+a]?=l[m+1+a]?:=QJ.out _ (by omega);rw[List.getElem?_eq_getElem hRp]at hx;rw[List.getElem?_eq_getElem hRq]at hy
      have HDN:=h! (show ddnI l (m+1+a+1+1)=ddnI l (m+1+a+1)++(if R[m+1+a+1]≠R[m+1+a]then [R[m+1+a+1]]else [])from by
       rw[ddnI,Nat.add_sub_cancel,<- hx,<- hy];congr 1
       by_cases he:R[m+1+a+1]=R[m+1+a]
       ·rw [if_neg (by rintro (h | h); · omega
                       · exact h (congrArg some he)),if_neg (fun h=>h he)]
       ·rw[if_pos (.inr fun h=>he (by injection h)),if_pos he];rfl)
      clear hx hy;have hii:((a:Int)+1)<((l.length-(m+1):Nat):Int):=by omega
      go_wp2_with fail
      obtain⟨wd,hwd⟩:∃ y:World,y=wr.drew:=⟨_,rfl⟩;have DO:=h! (show Own wd B 3 1 (.slice (some ⟨g,0,none⟩) l.length c) (ic R)from by rw[hwd];exact QO.out.below (Ext.drew _));have DK:=h! (show RowK w wd (.slice (some ⟨g,0,none⟩) l.length c)from by rw[hwd];exact Kept.drew QK2.out);refine r! (Ext wd) (by rw[<- hwd];exact Ext.refl _) ?_;rw[<- hwd];clear hwd QO QK2;have k0:∀ W,Ext wd W->W.cell? ⟨g,m+1+(a+1),none⟩=_:=fun W hW=>(DO.out.below hW).intAt (m+1+a+1) hRp;have j0:∀ W,Ext wd W->W.cell? ⟨g,m+1+a,none⟩=_:=fun W hW=>(DO.out.below hW).intAt (m+1+a) hRq;have HSET:=h! (DO.out.setI q R[m+1+a+1])
      have HTK:=h! (show(R.set q R[m+1+a+1]).take (q+1)=R.take q++[R[m+1+a+1]]from by
       have hql:q<R.length:=by have:=QP.out.1;omega
       rw[List.take_succ_eq_append_getElem (by simpa using hql),List.getElem_set_self,List.take_set_of_le (Nat.le_refl q)])
      have HJ2:=h! (show ∀ j,m+1+(a+1)<=j->(R.set q R[m+1+a+1])[j]?=l[j]? from fun j hj=>by
       rw[List.getElem?_set_ne (by have:=QP.out.1;omega)];exact QJ.out j (by omega))
      generalize R[m+1+a+1]=x at *;generalize R[m+1+a]=y at *;have hw1:IntKind.i64.wrap (a:Int)=(a:Int):=IntWalk.i64_in _ (by omega);have hi1:(a:Int)<((l.length-(m+1):Nat):Int):=by omega
      have hi3:(0:Int)<=(a:Int)+1:=by omega
      have HWI:=h! (show wrap64 ((a:Int)+1+1)=((a+1+1:Nat):Int)/\wrap64 ((q:Int)+1)=((q+1:Nat):Int)from by have:=QP.out;unfold wrap64;omega);by_cases he:x=y
      ·have HD2:=h! (show ddnI l (m+1+a+1+1)=ddnI l (m+1+a+1)from by rw[HDN.out,if_neg (fun h=>h he),List.append_nil]);subst he;clear HDN HSET HTK HJ2;(refine WalkN.tk [0,1,2,3,4,5,6,7,8,9] ?_;(iterate 10 (refine c! ?_));refine TkN.n ?_)
       refine d! ?_;clear k0 j0 hw1 hi1 hi3 hii;have hxx:(x != x)=false:=by simp
       go_wp2_with fail
       go_roundw
       case rel=>exact⟨q,a+1,R,rfl,by first | rw[HWI.out.1] | go_num,by have:=QP.out;omega,QP.out.2.1,by have:=HLT2.out;omega,QL.out,by rw[QT.out];exact HD2.out.symm,(fun j hj=>QJ.out j (by omega)),DO.out,DK.out⟩
       case measure=>have:=HLT2.out;(try rw[HWI.out.1]);simp[intOf];omega
      ·have HD2:=h! (show ddnI l (m+1+a+1+1)=ddnI l (m+1+a+1)++[x]from by rw[HDN.out,if_pos he]);have hne:(x != y)=true:=by simpa using he
       clear HDN he;(refine WalkN.tk [0,1,2,3,4,5,6,7,8,9] ?_;(iterate 10 (refine c! ?_));refine TkN.n ?_)
       refine d! ?_;have k1:=k0 wd (Ext.refl _);clear k0 j0 hw1;obtain⟨y',d1⟩:∃ y,wd.cell? ⟨g,q,none⟩=some y:=⟨_,DO.out.intAt q (by rw[QL.out];have:=QP.out;omega)⟩;obtain⟨-,-,cs,hB,-⟩:=DO.out.cellAt;have f1:=hB.free;have hqi:(q:Int)<(l.length:Int):=by have:=QP.out;omega
       have HK8:=h! (show RowK w (wd.setCell ⟨g,q,none⟩ (.int .i64 x)) (.slice (some ⟨g,0,none⟩) l.length c)from Kept.set DK.out (a:=⟨g,q,none⟩) (fun h=>h.2 rfl) _);clear hB;go_wp2_with fail
       go_roundw
       case rel=>exact⟨q+1,a+1,R.set q x,by first | rw[HWI.out.2] | go_num,by first | rw[HWI.out.1] | go_num,by have:=QP.out;omega,by omega,by have:=HLT2.out;omega,by rw[List.length_set];exact QL.out,by rw[HTK.out,QT.out];exact HD2.out.symm,HJ2.out,HSET.out,HK8.out⟩
       case measure=>have:=HLT2.out;(try rw[HWI.out.1]);simp[intOf];omega
     ·have hpe:m+1+a+1=l.length:=by omega
      rw[hpe]at QT;have hii:¬ (((a:Int)+1)<((l.length-(m+1):Nat):Int)):=by omega
      have hqp:=QP.out.1;have hql:q<l.length:=by omega
      have hqi:(q:Int)<=(l.length:Int):=by omega
      have hqi0:(0:Int)<=(q:Int):=by omega
      have hqc:q<=c:=by have:=HC.out;omega
      have hcq:¬ (c=q):=by have:=HC.out;omega
      obtain⟨vs,hcl⟩:=clearI QO.out QL.out.symm q hql 0 (c-q);obtain⟨w8,hw8⟩:∃ y,y=wr.setCells g q vs:=⟨_,rfl⟩;rw[<- hw8]at hcl
      have HO8:=h! (show Own w8 B 3 1 (.slice (some ⟨g,0,none⟩) q c) (ic (ddI l))from by
       have h1:=QO.out.cutI (q:=q) (Nat.le_of_lt hql) vs;rw[QT.out]at h1;rw[hw8];exact h1)
      have HK8:=h! (show RowK w w8 (.slice (some ⟨g,0,none⟩) l.length c)from by rw[hw8];exact QK2.out.setMany (g:=g) (fun h=>h.2 rfl) _ _);clear hw8 hqp hlt2 QO QK2 QT hpe;go_wp2_with ((with_reducible refine wpList_clear (v := .slice (some ⟨g,q,none⟩) (l.length-q) (c-q)) (w':=w8) (r := .tuple #[]) ?hV ?hR ?hK);(case hV=>rfl);(case hR=>exact hcl);clear hcl)
      go_ret
      exact⟨_,rfl,HO8.out,fun b h=>h,HK8.out⟩
   ·have HN2:=h! (HNX.out he);have hne:(x == y)=false:=by simpa using he
    clear HEQ HNX he;(refine WalkN.tk [0,1,2,3,4,5,6,7,8,9] ?_;(iterate 10 (refine c! ?_));refine TkN.n ?_)
    refine d! ?_;clear k0 j0 hw1 hi1 hi2 hi3;go_wp2_with fail
    go_roundw
    case rel=>exact⟨m+1,by first | rw[HWE.out] | go_num,by have:=HLT.out;omega,HN2.out,DO.out,DK.out⟩
    case measure=>have:=HLT.out;(try rw[HWE.out]);simp[intOf];omega
  ·obtain hlen:m+1=l.length:=by omega
   have HD:=h! (show ddI l=l from by
    unfold ddI;rw[ddnI_same l _ (Nat.le_refl _) fun j h0 h1=>RN.out j h0 (by omega),List.take_length])
   go_wp2_with fail
   go_ret
   exact⟨_,rfl,by rw[HD.out];exact RO.out,fun b h=>h,RK.out⟩
end Go.Proofs.YtlhaghoajpglaaaGreat
namespace Go.Proofs.YtlhaghoajpglaaaGreat
open Go Go.RowKit Go.Maps
theorem fresh1_any (s:P3)(ps:List P3)(fs:List FT)(pv fv:Value)(lo sp gi gr ub n b i:Nat)(L:List Bool)(w:World)(h:GrAt (· < w.heap.size) w ps fs pv fv)(hb:Blk w b #[.pointer (some ⟨sp,0,none⟩)] 254)
  (hsp:Blk w sp #[pv,fv,.string s.t,.string s.i,.string s.r,.slice (some ⟨gi,0,none⟩) n n,.slice (some ⟨gr,0,none⟩) n n,.slice (some ⟨ub,0,none⟩) n n] 259) (hin:Own w lo 4 1 (.slice (some ⟨gi,0,none⟩) n n) (boC L)) (hi:i<n) :
  Calls Tryz.prog 211 #[.int .i64 (i:Int),.pointer (some ⟨b,0,none⟩)] w fun e w'=>e = .returned (.bool (!newS fs s L i))/\Below w.heap.size w w':=by
 have H0:=h! h;have HB:=h! hb;have HSP:=h! hsp;have HIN:=h! hin;obtain⟨ap,cp,af,cf,rfl,rfl,-,hfl,-,hfm,-⟩:=h.rows;obtain⟨hl,-,cs,hB,hcl⟩:=hin.cellAt;rw[boC_length]at hl;have hil:i<L.length:=by omega
 have c1:w.cell? ⟨gi,i,none⟩=some (.bool L[i]):=by rw[hcl i (by rw[boC_length];exact hil)];simp[boC]
 have HFM:=h! (And.intro hfl hfm);have hii:(i:Int)<(n:Int):=by omega
 clear h hb hsp hin hcl hB hfl hfm;go_enter Tryz.func211,Tryz.ntmps211
 cases hin:L[i] with
 | true =>
  have HNW:=h! (newS_false (fs:=fs) (s:=s) hil hin);rw[hin]at c1;clear hin hl hil;go_wp2_with fail
  obtain⟨wd,hwd⟩:∃ z:World,z=World.drew w:=⟨_,rfl⟩;have DX:=h! (show Ext w wd from by rw[hwd];exact Ext.drew _);refine r! (Ext wd) (by rw[<- hwd];exact Ext.refl _) ?_;rw[<- hwd];clear hwd;have g1:=fun W (h:Ext wd W)=>Ext.cell (DX.out.trans h) c1;have g2:=fun W (h:Ext wd W)=>(HB.out.below (DX.out.trans h)).cells;have g3:=fun W (h:Ext wd W)=>(HSP.out.below (DX.out.trans h)).cells;(refine WalkN.tk [0,1,2,3,4,5,6,7] ?_;(iterate 8 (refine c! ?_));refine TkN.n ?_)
  refine k! 8 ?_;refine k! 9 ?_;refine k! 10 ?_;refine k! 11 ?_;refine k! 12 ?_;refine k! 13 ?_;refine k! 14 ?_;refine k! 15 ?_
  (refine WalkN.tk [16,17] ?_;(iterate 2 (refine c! ?_));refine TkN.n ?_)
  refine k! 18 ?_;refine k! 19 ?_;refine k! 20 ?_;refine k! 21 ?_;refine k! 22 ?_;refine k! 23 ?_;refine k! 24 ?_;refine k! 25 ?_;refine k! 26 ?_;refine k! 27 ?_;refine k! 28 ?_;refine k! 29 ?_;refine k! 30 ?_;refine k! 31 ?_;refine k! 32 ?_;refine k! 33 ?_;refine k! 34 ?_;refine k! 35 ?_
  (refine WalkN.tk [36,37] ?_;(iterate 2 (refine c! ?_));refine TkN.n ?_)
  refine d! ?_;clear g1 g2 g3 c1 hii;go_wp2_with fail
  go_ret
  exact⟨by rw[HNW.out];rfl,DX.out⟩
 | false =>
  rw[hin]at c1;by_cases hf:i<fs.length
  ·have HNW:=h! (newS_form (fs:=fs) (s:=s) hil hin hf);obtain⟨ap',cp',af',cf',e1,e2,-,-,-,-,hrow⟩:=H0.out.rows;cases e2;obtain⟨p1,q1,u,rfl,hp1,k0,k1,k2,k3,hu⟩:=hrow i hf;have hfi:(i:Int)<(fs.length:Int):=by omega
   have HU:=h! hu;generalize fs[i]=x at *;obtain⟨l1,m1,l2,m2,l4,m4,rfl⟩:=hu.shape;dsimp only at k0 k1 k2 k3;clear hu hp1 hrow hin hl hil hf e1;go_wp2_with fail
   obtain⟨wd,hwd⟩:∃ z:World,z=World.drew w:=⟨_,rfl⟩;have DX:=h! (show Ext w wd from by rw[hwd];exact Ext.drew _);refine r! (Ext wd) (by rw[<- hwd];exact Ext.refl _) ?_;rw[<- hwd];clear hwd;have g1:=fun W (h:Ext wd W)=>Ext.cell (DX.out.trans h) c1;have g2:=fun W (h:Ext wd W)=>(HB.out.below (DX.out.trans h)).cells;have g3:=fun W (h:Ext wd W)=>(HSP.out.below (DX.out.trans h)).cells;have j0:=fun W (h:Ext wd W)=>Ext.cell (DX.out.trans h) k0;have j1:=fun W (h:Ext wd W)=>Ext.cell (DX.out.trans h) k1;have j2:=fun W (h:Ext wd W)=>Ext.cell (DX.out.trans h) k2;have j3:=fun W (h:Ext wd W)=>Ext.cell (DX.out.trans h) k3;have hfn:¬ fs.length<=i:=by omega
   have hfd:decide (fs.length<=i)=false:=decide_eq_false hfn;(refine WalkN.tk [0,1,2,3,4,5,6,7,8,9,10,11,12,13,14,15,16,17,18,19,20,21,22,23,24,25,26,27,28,29,30,31,32,33] ?_;(iterate 34 (refine c! ?_));refine TkN.n ?_)
   clear g1 g2 g3 j0 j1 j2 j3 k0 k1 k2 k3 c1;have HCL:=h! (holdsP_any s L x (.slice (some ⟨gi,0,none⟩) n n) _ wd (HU.out.up DX.out) ((HIN.out.below DX.out).sl.mono fun _ h=>h.2));unfold fV pV at HCL;dsimp only at HCL;refine o! 34 ?_;refine b! ?_;intro K hK;go_simp;refine HCL.out.mono ?_;rintro e w5 ⟨rfl,hx5⟩;refine hK.out _ _ hx5 ?_;clear hK HCL;have X5:=h! (show Ext w w5 from DX.out.trans hx5);clear hx5;(refine WalkN.tk [35,36,37] ?_;(iterate 3 (refine c! ?_));refine TkN.n ?_)
   refine d! ?_;clear hfi hii hfn hfd;go_wp2_with fail
   go_ret
   exact⟨by rw[HNW.out];try rfl,X5.out⟩
  ·have HNW:=h! (newS_out (fs:=fs) (s:=s) (l:=L) (i:=i) (by omega));have hfi:¬ (i:Int)<(fs.length:Int):=by omega
   have hfn:fs.length<=i:=by omega
   have hfd:decide (fs.length<=i)=true:=decide_eq_true hfn;clear hin hl hil hf;go_wp2_with fail
   obtain⟨wd,hwd⟩:∃ z:World,z=World.drew w:=⟨_,rfl⟩;have DX:=h! (show Ext w wd from by rw[hwd];exact Ext.drew _);refine r! (Ext wd) (by rw[<- hwd];exact Ext.refl _) ?_;rw[<- hwd];clear hwd;have g1:=fun W (h:Ext wd W)=>Ext.cell (DX.out.trans h) c1;have g2:=fun W (h:Ext wd W)=>(HB.out.below (DX.out.trans h)).cells;have g3:=fun W (h:Ext wd W)=>(HSP.out.below (DX.out.trans h)).cells;have hge:(fs.length:Int)<=(i:Int):=by omega
   have hfn:fs.length<=i:=by omega
   have hfd:decide (fs.length<=i)=true:=decide_eq_true hfn;(refine WalkN.tk [0,1,2,3,4,5,6,7,8,9,10,11,12,13,14,15,16,17] ?_;(iterate 18 (refine c! ?_));refine TkN.n ?_)
   refine k! 18 ?_;refine k! 19 ?_;refine k! 20 ?_;refine k! 21 ?_;refine k! 22 ?_;refine k! 23 ?_;refine k! 24 ?_;refine k! 25 ?_;refine k! 26 ?_;refine k! 27 ?_;refine k! 28 ?_;refine k! 29 ?_;refine k! 30 ?_;refine k! 31 ?_;refine k! 32 ?_;refine k! 33 ?_;refine k! 34 ?_;refine k! 35 ?_
   (refine WalkN.tk [36,37] ?_;(iterate 2 (refine c! ?_));refine TkN.n ?_)
   refine d! ?_;clear g1 g2 g3 c1 hii hfi hge hfn hfd;go_wp2_with fail
   go_ret
   exact⟨by rw[HNW.out];rfl,DX.out⟩
def frW (fs:List FT)(s:P3)(L:List Bool)(W:List Int):List Int:=W.filter fun x=>newS fs s L x.toNat
theorem fresh_any (s:P3)(ps:List P3)(fs:List FT)(pv fv:Value)(lo lo2 sp gi gr ub n:Nat)(L:List Bool)(W:List Int)(v:Value)(w:World)(h:GrAt (· < lo) w ps fs pv fv)
  (hsp:Blk w sp #[pv,fv,.string s.t,.string s.i,.string s.r,.slice (some ⟨gi,0,none⟩) n n,.slice (some ⟨gr,0,none⟩) n n,.slice (some ⟨ub,0,none⟩) n n] 259) (hin:Own w lo 4 1 (.slice (some ⟨gi,0,none⟩) n n) (boC L))
  (hw:Own w lo2 3 1 v (ic W)) (hl2:lo<=lo2) (hlw:lo<=w.heap.size) (hlen:W.length<=1099511627776) (hW:∀ x∈W,0<=x/\x<(n:Int)) :
  Calls Tryz.prog 154 #[.pointer (some ⟨sp,0,none⟩),v] w fun e w'=>∃ v',e = .returned v'/\Own w' lo2 3 1 v' (ic (frW fs s L W))/\(∀ b,v'.ownBlock=some b->v.ownBlock=some b)/\RowK w w' v:=by
 obtain⟨wa,hwa⟩:∃ x,x=w.alloc (.cells #[.pointer (some ⟨sp,0,none⟩)] 254):=⟨_,rfl⟩;have XA:=h! (show Ext w wa from by rw[hwa];exact Ext.alloc _ _);have BA:=h! (show Blk wa w.heap.size #[.pointer (some ⟨sp,0,none⟩)] 254 from by rw[hwa];exact Blk.made _ _ _);have OW:=hw.below XA.out
 have key:∀ {b:Nat} {cs:Array Value} {t:TypeId},Blk wa b cs t->t≠3->∀ W',RowK wa W' v->Blk W' b cs t:=fun hb ht W' hk=>(hk.block _ ⟨hb.lt,fun e=>by
  obtain⟨cur,h2⟩:=OW.typed e;rw[show wa.heap[_]?=_ from hb]at h2;injection h2 with h2
  injection h2 with _ h2 _
  exact ht h2⟩).trans hb
 have HD:=h! (deleteIF_any v W wa OW hlen 211 #[.pointer (some ⟨w.heap.size,0,none⟩)] (enters_of Tryz.func211 (by kernel_rfl) rfl) (fun x=>!newS fs s L x.toNat) fun i hi W' hk=>by
  obtain⟨h0,hn⟩:=hW _ (List.getElem_mem hi);obtain⟨m,hm⟩:=Int.eq_ofNat_of_zero_le h0;rw[hm]at hn ⊢;rw[Int.toNat_natCast];refine fresh1_any s ps fs pv fv lo sp gi gr ub n w.heap.size m L W' ?_ (key BA.out (by decide) W' hk) (key (hsp.below XA.out) (by decide) W' hk) ((hin.below XA.out).keepOwn fun g hg=>?_) (by omega)
  ·have h1:GrAt (· < lo) wa ps fs pv fv:=h.same fun b hb=>XA.out.block b (Nat.lt_of_lt_of_le hb hlw)
   exact(h1.same fun b hb=>hk.block b ⟨by have h2:=XA.out.size;have h3:b<lo:=hb;omega,fun e=>by have:=(OW.block b e).1;have h3:b<lo:=hb;omega⟩).mono fun b hb=>by
    have h3:b<lo:=hb;show b<W'.heap.size
    have h2:=XA.out.size;have h4:=hk.size;omega
  ·obtain⟨cur,h2⟩:=(hin.below XA.out).typed hg;exact(key (show Blk wa g cur 4 from h2) (by decide) W' hk).trans h2.symm)
 have HRK:=h! (fun w' (hk:RowK wa w' v)=>show RowK w w' v from Kept.trans (Below.kept XA.out fun b hb=>hb.1) (Kept.mono hk fun b hb=>⟨Nat.lt_of_lt_of_le hb.1 XA.out.size,hb.2⟩));have hmf:∀ (fn:Fn) (first cap:Array Value) (W:World),(Instr.makeFunc fn first cap).run Tryz.prog W = .ok (.func fn first cap) W:=fun _ _ _ _=>rfl;obtain⟨vo,vn,vc,rfl,-,-,-⟩:=hw.sl.len;clear hw OW key h hsp hin hW;go_enter Tryz.func154,Tryz.ntmps154
 go_wp2_with fail
 try rw[<- hwa]
 clear hwa;refine HD.out.mono ?_;rintro e w1 ⟨v',rfl,ho,hb,hk⟩;have HO:=h! ho;have HBK:=h! hb;have HKK:=h! (HRK.out w1 hk);obtain⟨vo',vn',vc',rfl,-,-,-⟩:=ho.sl.len;clear ho hb hk HD HRK;go_wp2_with fail
 go_ret
 exact⟨_,rfl,by
  have:=HO.out;rwa[show(W.filter fun x=>!(fun x:Int=>!newS fs s L x.toNat) x)=frW fs s L W from by unfold frW;congr 1;funext x;simp]at this,HBK.out,HKK.out⟩
end Go.Proofs.YtlhaghoajpglaaaGreat
namespace Go.Proofs
open Go.Shelf
def Tryz.sortIn_ren:Go.Shelf.Ren:=⟨fun | 5=>155 | 8=>198 | 7=>213 | 19=>240 | 20=>241 | 10=>259 | 11=>260 | 12=>261 | 13=>262 | 14=>263 | 15=>264 | 16=>265 | 17=>266 | 18=>267 | 30=>290 | 31=>282 | 32=>283 | 33=>291 | 34=>292 | 35=>293 | 40=>299 | n=>n,fun | 23=>107 | 25=>3 | 3=>3 | 32=>311 | 22=>107 | 0=>0 | 44=>349 | 46=>351 | 4=>4 | 36=>343 | 35=>342 | 41=>314 | 5=>5 | 9=>9 | 53=>378 | 57=>382 | 63=>390 | 64=>391 | n=>n,fun | n=>n⟩
theorem Tryz.sortIn:Go.Proofs.SlLaysM.n5 Tryz.prog Tryz.sortIn_ren := {
 mixed:=by kernel_rfl
 f5:=⟨Tryz.f155.name,by decide,Tryz.func155.trans (congrArg some (by kernel_rfl))⟩
 f7:=⟨Tryz.f213.name,by decide,Tryz.func213.trans (congrArg some (by kernel_rfl))⟩
 f8:=Tryz.func198.trans (congrArg some (by kernel_rfl))
 f10:=⟨Tryz.f259.name,by decide,Tryz.func259.trans (congrArg some (by kernel_rfl))⟩
 f11:=⟨Tryz.f260.name,by decide,Tryz.func260.trans (congrArg some (by kernel_rfl))⟩
 f12:=⟨Tryz.f261.name,by decide,Tryz.func261.trans (congrArg some (by kernel_rfl))⟩
 f13:=⟨Tryz.f262.name,by decide,Tryz.func262.trans (congrArg some (by kernel_rfl))⟩
 f14:=⟨Tryz.f263.name,by decide,Tryz.func263.trans (congrArg some (by kernel_rfl))⟩
 f15:=⟨Tryz.f264.name,by decide,Tryz.func264.trans (congrArg some (by kernel_rfl))⟩
 f16:=⟨Tryz.f265.name,by decide,Tryz.func265.trans (congrArg some (by kernel_rfl))⟩
 f17:=⟨Tryz.f266.name,by decide,Tryz.func266.trans (congrArg some (by kernel_rfl))⟩
 f18:=⟨Tryz.f267.name,by decide,Tryz.func267.trans (congrArg some (by kernel_rfl))⟩
 f19:=Tryz.func240.trans (congrArg some (by kernel_rfl))
 f20:=Tryz.func241.trans (congrArg some (by kernel_rfl))
 f30:=⟨Tryz.f290.name,by decide,Tryz.func290.trans (congrArg some (by kernel_rfl))⟩
 f31:=Tryz.func282.trans (congrArg some (by kernel_rfl))
 f32:=Tryz.func283.trans (congrArg some (by kernel_rfl))
 f33:=⟨Tryz.f291.name,by decide,Tryz.func291.trans (congrArg some (by kernel_rfl))⟩
 f34:=⟨Tryz.f292.name,by decide,Tryz.func292.trans (congrArg some (by kernel_rfl))⟩
 f35:=⟨Tryz.f293.name,by decide,Tryz.func293.trans (congrArg some (by kernel_rfl))⟩
 f40:=⟨Tryz.f299.name,by decide,Tryz.func299.trans (congrArg some (by kernel_rfl))⟩
 t0:=Tryz.underlying0
 a0:=Tryz.isAgg0
 z0:=Tryz.sizeOf0
 v0:=Tryz.zeroValue0
 t3:=Tryz.underlying3
 a3:=Tryz.isAgg3
 z3:=Tryz.sizeOf3
 v3:=Tryz.zeroValue3
 t4:=Tryz.underlying4
 a4:=Tryz.isAgg4
 z4:=Tryz.sizeOf4
 v4:=Tryz.zeroValue4
 t5:=Tryz.underlying5
 a5:=Tryz.isAgg5
 z5:=Tryz.sizeOf5
 v5:=Tryz.zeroValue5
 t9:=Tryz.underlying9
 a9:=Tryz.isAgg9
 z9:=Tryz.sizeOf9
 v9:=Tryz.zeroValue9
 t22:=Tryz.underlying107
 a22:=Tryz.isAgg107
 z22:=Tryz.sizeOf107
 v22:=Tryz.zeroValue107
 t23:=Tryz.underlying107
 a23:=Tryz.isAgg107
 z23:=Tryz.sizeOf107
 v23:=Tryz.zeroValue107
 t25:=Tryz.underlying3
 a25:=Tryz.isAgg3
 z25:=Tryz.sizeOf3
 v25:=Tryz.zeroValue3
 t32:=Tryz.underlying311
 a32:=Tryz.isAgg311
 z32:=Tryz.sizeOf311
 v32:=Tryz.zeroValue311
 t35:=Tryz.underlying342
 a35:=Tryz.isAgg342
 z35:=Tryz.sizeOf342
 v35:=Tryz.zeroValue342
 t36:=Tryz.underlying343
 a36:=Tryz.isAgg343
 z36:=Tryz.sizeOf343
 v36:=Tryz.zeroValue343
 t41:=Tryz.underlying314
 a41:=Tryz.isAgg314
 z41:=Tryz.sizeOf314
 v41:=Tryz.zeroValue314
 t44:=Tryz.underlying349
 a44:=Tryz.isAgg349
 z44:=Tryz.sizeOf349
 v44:=Tryz.zeroValue349
 t46:=Tryz.underlying351
 a46:=Tryz.isAgg351
 z46:=Tryz.sizeOf351
 v46:=Tryz.zeroValue351
 t53:=Tryz.underlying378
 a53:=Tryz.isAgg378
 z53:=Tryz.sizeOf378
 v53:=Tryz.zeroValue378
 t57:=Tryz.underlying382
 a57:=Tryz.isAgg382
 z57:=Tryz.sizeOf382
 v57:=Tryz.zeroValue382
 t63:=Tryz.underlying390
 a63:=Tryz.isAgg390
 z63:=Tryz.sizeOf390
 v63:=Tryz.zeroValue390
 t64:=Tryz.underlying391
 a64:=Tryz.isAgg391
 z64:=Tryz.sizeOf391
 v64:=Tryz.zeroValue391}
end Go.Proofs
namespace Go.Proofs.YtlhaghoajpglaaaGreat
open Go Go.RowKit Go.Maps
theorem flat_nodup {f:Int->List Int}:∀ {F R:List Int},F.Nodup->(∀ x∈F,x∈R)->(F.flatMap f).length<=(R.flatMap f).length
 | [],_,_,_=>by simp
 | a::F,R,hn,hs=>by
  obtain⟨p,q,rfl⟩:=List.append_of_mem (hs a List.mem_cons_self);rw[List.nodup_cons]at hn
  have h1:=flat_nodup (f:=f) (F:=F) (R:=p++q) hn.2 fun x hx=>by
   have h2:=hs x (List.mem_cons_of_mem _ hx);rcases List.mem_append.1 h2 with h3 | h3
   ·exact List.mem_append_left _ h3
   ·rcases List.mem_cons.1 h3 with h3 | h3
    ·subst h3;exact absurd hx hn.1
    ·exact List.mem_append_right _ h3
  simp only[List.flatMap_cons,List.flatMap_append,List.length_append]at h1 ⊢;omega
theorem range_flat:∀ U:List (List Int),((List.range U.length).flatMap fun i=>U.getD i []).length=(U.map List.length).sum
 | []=>rfl
 | a::U=>by
  rw[List.length_cons,List.range_succ_eq_map,List.flatMap_cons,List.flatMap_map,List.length_append];simp only[List.getD_cons_zero,List.getD_cons_succ,List.map_cons,List.sum_cons];rw[range_flat U]
def nextL (U:List (List Int))(F:List Int):List Int:=F.flatMap fun k=>U.getD k.toNat []
theorem nextL_len {U:List (List Int)} {F:List Int} (hn:F.Nodup)(hF:∀ x∈F,0<=x/\x<(U.length:Int)):(nextL U F).length<=(U.map List.length).sum:=by
 have h1:=flat_nodup (f:=fun k:Int=>U.getD k.toNat []) (F:=F) (R:=(List.range U.length).map fun(i:Nat)=>(i:Int)) hn fun x hx=>by
  obtain⟨h0,h1⟩:=hF x hx;exact List.mem_map.2 ⟨x.toNat,List.mem_range.2 (by omega),by omega⟩
 rw[List.flatMap_map]at h1;simp only[Int.toNat_natCast]at h1;rw[range_flat]at h1;exact h1
theorem nextL_take {U:List (List Int)} {F:List Int} {j:Nat} (h:j<F.length):nextL U (F.take (j+1))=nextL U (F.take j)++U.getD F[j].toNat []:=by
 unfold nextL;rw[List.take_succ_eq_append_getElem h,List.flatMap_append];simp
theorem nextL_le {U:List (List Int)} {F:List Int} (hn:F.Nodup)(hF:∀ x∈F,0<=x/\x<(U.length:Int))(j:Nat):(nextL U (F.take j)).length<=(U.map List.length).sum :=
 nextL_len (hn.sublist (List.take_sublist _ _)) fun x hx=>hF x (List.mem_of_mem_take hx)
def upI (i:Nat):List Int:=(List.range i).map fun(j:Nat)=>(j:Int)
theorem upI_succ (i:Nat):upI (i+1)=upI i++[(i:Int)]:=by unfold upI;rw[List.range_succ,List.map_append];rfl
theorem upI_len (i:Nat):(upI i).length=i:=by simp[upI]
theorem upI_mem (n:Nat)(x:Int)(h:x∈upI n):0<=x/\x<(n:Int):=by
 unfold upI at h;obtain⟨j,hj,rfl⟩:=List.mem_map.1 h;rw[List.mem_range]at hj;omega
theorem upI_nodup (n:Nat):(upI n).Nodup:=List.pairwise_map.2 (List.nodup_range.imp fun h e=>h (by omega))
theorem upI_wide (fs:List FT)(s:P3)(n r:Nat):Wide fs s n r (upI n):=fun i hi _=>List.mem_map.2 ⟨i,List.mem_range.2 hi,rfl⟩
structure StB (lo2 sp gi gr ub:Nat)(vs:List Value):Prop where
 sp:sp<lo2
 gi:gi<lo2
 gr:gr<lo2
 ub:ub<lo2
 row:∀ (k:Nat) (v:Value) (g:Nat),vs[k]?=some v->v.ownBlock=some g->g<lo2
section
variable {w w' : World} {lo lo2 sp gi gr ub n : Nat} {pv fv : Value} {s : P3} {L : List Bool} {R : List Int} {U : List (List Int)} {vs : List Value}
theorem StAt.bounds (h:StAt w lo sp gi gr ub n pv fv s L R U vs):StB w.heap.size sp gi gr ub vs :=
 ⟨h.box.lt,(h.inn.block gi rfl).2,(h.rnd.block gr rfl).2,(h.use.arr.block ub rfl).2,fun k v g hv hg=>((h.use.row k v hv).block g hg).2⟩
theorem StAt.keep (h:StAt w lo sp gi gr ub n pv fv s L R U vs)(hb:StB lo2 sp gi gr ub vs)(hk:∀ b,b<lo2->w'.heap[b]?=w.heap[b]?):StAt w' lo sp gi gr ub n pv fv s L R U vs where
 box:=(hk _ hb.sp).trans h.box
 inn:=h.inn.keepOwn fun g hg=>hk g (by obtain rfl:gi=g:=Option.some.inj hg;exact hb.gi)
 rnd:=h.rnd.keepOwn fun g hg=>hk g (by obtain rfl:gr=g:=Option.some.inj hg;exact hb.gr)
 use:=⟨h.use.arr.keepOwn fun g hg=>hk g (by obtain rfl:ub=g:=Option.some.inj hg;exact hb.ub),h.use.vlen,h.use.ulen,fun k v hv=>(h.use.row k v hv).keepOwn fun g hg=>hk g (hb.row k v g hv hg),h.use.apart,h.use.off⟩
theorem StAt.set (h:StAt w lo sp gi gr ub n pv fv s L R U vs)(k:Nat)(x:Int):StAt ((w.setCell ⟨gi,k,none⟩ (.bool true)).setCell ⟨gr,k,none⟩ (.int .i64 x)) lo sp gi gr ub n pv fv s (L.set k true) (R.set k x) U vs:=by
 have hgg:gi≠gr:=fun e=>by
  subst e;exact h.inn.apart h.rnd (by decide) rfl rfl
 have hty:∀ {g:Nat} {cur:Array Value} {t:TypeId},w.heap[g]?=some (.cells cur t (0,0))->(t≠4->g≠gi)/\(t≠3->g≠gr):=fun {g cur t} hg=>⟨fun ht e=>by
   subst e;obtain⟨c2,h2⟩:=h.inn.typed (g:=g) rfl;rw[hg]at h2;injection h2 with h2
   injection h2 with _ h2 _
   exact ht h2,fun ht e=>by
   subst e;obtain⟨c2,h2⟩:=h.rnd.typed (g:=g) rfl;rw[hg]at h2;injection h2 with h2
   injection h2 with _ h2 _
   exact ht h2⟩
 have hst:∀ b,b≠gi->b≠gr->((w.setCell ⟨gi,k,none⟩ (.bool true)).setCell ⟨gr,k,none⟩ (.int .i64 x)).heap[b]?=w.heap[b]?:=fun b h1 h2=>by
  rw[Below.heap_setCell _ _ _ _ h2,Below.heap_setCell _ _ _ _ h1]
 refine⟨(hst sp ((hty h.box).1 (by decide)) ((hty h.box).2 (by decide))).trans h.box,?_,?_,?_⟩
 ·have h1:=h.inn.set1 k (.bool true);rw[show(boC L).set k (.bool true)=boC (L.set k true)from by unfold boC;rw[List.map_set]]at h1;exact h1.keepOwn fun g hg=>Below.heap_setCell _ _ _ _ (by obtain rfl:gi=g:=Option.some.inj hg;exact hgg)
 ·have h1:Own (w.setCell ⟨gi,k,none⟩ (.bool true)) lo 3 1 (.slice (some ⟨gr,0,none⟩) n n) (ic R):=h.rnd.keepOwn fun g hg=>Below.heap_setCell _ _ _ _ (by obtain rfl:gr=g:=Option.some.inj hg;exact fun e=>hgg e.symm);exact h1.setI k x
 ·refine⟨h.use.arr.keepOwn fun g hg=>?_,h.use.vlen,h.use.ulen,fun k v hv=>(h.use.row k v hv).keepOwn fun g hg=>?_,h.use.apart,h.use.off⟩
  ·obtain⟨cur,h2⟩:=h.use.arr.typed hg;exact hst g ((hty h2).1 (by decide)) ((hty h2).2 (by decide))
  ·obtain⟨cur,h2⟩:=(h.use.row k v hv).typed hg;exact hst g ((hty h2).1 (by decide)) (h.use.off k v g hv hg)
end
theorem sortIn_any {w:World} {B:Nat} {v:Value} {l:List Int} (h:Own w B 3 1 v (ic l))(hl:l.length<4611686018427387904) :
  Calls Tryz.prog 155 #[v] w fun e w'=>e = .returned (.tuple #[])/\Own w' B 3 1 v (ic (l.mergeSort fun x y=>decide (x<=y)))/\Kept (fun b=>b<w.heap.size/\v.ownBlock≠some b) w w':=sortI_own Tryz.sortIn h hl
theorem solveP_any (s:P3)(ps:List P3)(fs:List FT)(pv fv:Value)(w:World)(h:GrAt (· < w.heap.size) w ps fs pv fv)(hnm:ps.length<=1000000)(hfm:fs.length<=1000000)(hnn:(nmdL fs).length<=1000000000000) :
  Calls Tryz.prog 99 #[.agg #[pv,fv],pV s] w fun e w'=>(∃ v,e = .returned v/\Own w' w.heap.size 3 1 v (ic (solveR fs s ps.length)))/\Below w.heap.size w w':=by
 obtain⟨wa,hwa⟩:∃ x,x=w.alloc (.cells #[pv,fv] 96):=⟨_,rfl⟩;obtain⟨wb,hwb⟩:∃ x,x=wa.alloc (.cells #[.string s.t,.string s.i,.string s.r] 33):=⟨_,rfl⟩;have ea:wa.heap.size=w.heap.size+1:=by rw[hwa];simp
 have xa:Ext w wa:=by rw[hwa];exact Ext.alloc _ _
 have xb:Ext wa wb:=by rw[hwb];exact Ext.alloc _ _
 have XB:=h! (xa.trans xb);have BG:=h! (show Blk wb w.heap.size #[pv,fv] 96 from Blk.below (by rw[hwa];exact Blk.made _ _ _) xb);have BS:=h! (show Blk wb (w.heap.size+1) #[.string s.t,.string s.i,.string s.r] 33 from by rw[hwb,<- ea];exact Blk.made _ _ _);have H0:=h! (h.up XB.out);have HST:=h! (start_any s ps fs pv fv wb H0.out hnm hfm hnn);obtain⟨ap,cp,af,cf,e1,e2,-,-,-,-,-⟩:=h.rows;have HNM:=h! hnm;have HNN:=h! hnn;clear h hnm hfm hnn ea xa xb;subst e1 e2;generalize hn:ps.length=n at *;unfold pV at HST ⊢;have hA:=BG.out.cells;have hS:=BS.out.cells;rw[hwb,hwa]at hA hS;go_enter Tryz.func99,Tryz.ntmps99
 go_wp2_with fail
 rw[<- hwa,<- hwb];clear hA hS hwa hwb;refine HST.out.mono ?_;rintro e w1 ⟨⟨sp,gi,gr,ub,U,vs,rfl,hspl,hst,hut⟩,hb1⟩;have ST:=h! hst;have UT:=h! hut;have BD:=h! hst.bounds;have UO:=h! hut.done;have USL:=h! (show(U.map List.length).sum<=1000000000000/\U.length=n from⟨by have h1:=hut.sum;have:=HNN.out;rw[List.take_length]at h1;simp only[List.length_nil]at h1;omega,hut.len⟩);have HB1:=h! hb1;obtain⟨lo,hlo⟩:∃ y,Hid (wb.heap.size=y):=⟨_,h! rfl⟩;obtain⟨lo2,hlo2⟩:∃ y,Hid (w1.heap.size=y):=⟨_,h! rfl⟩;rw[hlo.out]at ST HB1;rw[hlo2.out]at BD;have HLL:=h! (show lo<=lo2 from by have:=HB1.out.size;have:=hlo.out;have:=hlo2.out;omega)
 have RG:=h! (fun W (hW:Below lo wb W)=>show GrAt (· < lo) W ps fs (.slice ap n cp) (.slice af fs.length cf)from by
  have h1:=H0.out.same (w':=W) fun b hb=>hW.block b (by rw[<- hlo.out];exact hb);rw[hlo.out]at h1;exact h1)
 have RB:=h! (fun W (hW:Below lo wb W)=>show Below w.heap.size w W from Below.trans XB.out (hW.mono (by have:=XB.out.size;have:=hlo.out;omega)));have GB:=h! (show Blk w1 w.heap.size #[.slice ap n cp,.slice af fs.length cf] 96 from(HB1.out.block _ (by have:=BG.out.lt;have:=hlo.out;omega)).trans BG.out);have hA:=GB.out.cells;clear hst hut hb1 HST hspl BG BS H0 XB;go_wp2_with fail
 clear hA GB;go_loopw [6,19] (fun qv iv wr=>∃ i:Nat,i<=n/\iv = .int .i64 i/\Own wr lo2 3 1 qv (ic (upI i))/\Below lo2 w1 wr) (fun _ iv _=>n-(intOf iv).toNat)
 case atStart=>exact⟨0,Nat.zero_le _,rfl,Own.nil _ _ _ _,Below.refl _ _⟩
 case round =>
  obtain⟨i,hi,rfl,hq,hbl⟩:=hrel;have RF:=h! hq;have R2:=h! hbl;obtain⟨qo,qm,qc,rfl,-⟩:=hq.sl.len;clear hq hbl;by_cases hlt:i<n
  ·have HLT:=h! hlt;have HWI:=h! (show wrap64 ((i:Int)+1)=((i+1:Nat):Int)from by have:=HNM.out;unfold wrap64;omega);have hli:(i:Int)<(n:Int):=by omega
   have HX5:=h! (Ext.alloc wr (.cells #[.int .i64 (i:Int)] 3));clear hlt;go_wp2_with (at_builtin;go_must (refine wpList_ownw intsT rfl (.tmp 22) (.tmp 24) rfl rfl (RF.out.below HX5.out) rfl (m:=1) (news:=[.int .i64 (i:Int)]) rfl (by intro j u hu;rw[Addr.add_lit,cell_of_row _ wr.heap.size (0+j) #[.int .i64 (i:Int)] 3 (0,0) (heap_alloc_new wr _)];simpa using hu) (by simp[Value.oneCell']) (by have:=HNM.out;have:=HLT.out;have:=upI_len i;have:=hlo2.out;have:=R2.out.size;rw[ic_length];simp at *;omega) (by have:=HNM.out;have:=HLT.out;have:=upI_len i;have:=hlo2.out;have:=R2.out.size;rw[ic_length];simp at *;omega) (by have:=HNM.out;have:=HLT.out;have:=upI_len i;have:=hlo2.out;have:=R2.out.size;have:=HX5.out.size;omega) ?_;intro v6 w6 hown6 hb6 hg6;have HO6:=h! (show Own w6 lo2 3 1 v6 (ic (upI (i+1)))from by rw[upI_succ,ic_append];exact hown6);have HB6:=h! (show Below lo2 w1 w6 from grown_below (R2.out.trans (HX5.out.mono (by have:=R2.out.size;have:=hlo2.out;omega))) (RF.out.below HX5.out) hg6 (by have:=R2.out.size;have:=HX5.out.size;have:=hlo2.out;omega));clear hown6 hb6 hg6))
   go_roundw
   case rel=>exact⟨i+1,HLT.out,by first | rw[HWI.out] | go_num,HO6.out,HB6.out⟩
   case measure=>have:=HLT.out;(try rw[HWI.out]);simp[intOf];omega
  ·obtain rfl:i=n:=by omega
   obtain⟨w2,hw2⟩:∃ y,y=wr:=⟨_,rfl⟩;rw[<- hw2]at RF R2 ⊢;clear hlt hi hw2;have ST2:=h! (ST.out.keep BD.out fun b hb=>R2.out.block b hb);have B2:=h! (HB1.out.trans (R2.out.mono HLL.out));have L2:=h! (show lo2<=w2.heap.size from by have:=R2.out.size;have:=hlo2.out;omega);clear R2;go_wp2_with fail
   go_loopw [6,8] (fun qv rv wr=>∃ (r:Nat) (W:List Int),rv = .int .i64 ((r+1:Nat):Int)/\Own wr lo2 3 1 qv (ic W)/\(∀ x∈W,0<=x/\x<(i:Int))/\W.Nodup/\Wide fs s i r W/\(r<=cntT (inN fs s i r)\/(W=[]/\r<=i+1))/\StAt wr lo sp gi gr ub i (.slice ap i cp) (.slice af fs.length cf) s (inN fs s i r) (outN fs s i r) U vs/\Below lo wb wr/\lo2<=wr.heap.size) (fun _ rv _=>i+3-(intOf rv).toNat)
   case atStart=>exact⟨0,_,rfl,RF.out,upI_mem i,upI_nodup i,upI_wide fs s i 0,.inl (Nat.zero_le _),ST2.out,B2.out,L2.out⟩
   case round =>
    obtain⟨r,W,rfl,hw,hwm,hwn,hww,hrc,hst,hbl,hls⟩:=hrel;have RW:=h! hw;have RM:=h! hwm;have RN:=h! hwn;have RWd:=h! hww;have RC:=h! hrc;have RS:=h! hst;have RL:=h! hbl;have RZ:=h! hls;obtain⟨rz,hrz⟩:∃ z:Int,z=((r+1:Nat):Int):=⟨_,rfl⟩;rw[<- hrz];have HRZ:=h! hrz;obtain⟨qo',qm',qc',rfl,hqm,-,-⟩:=hw.sl.len;rw[ic_length,Nat.mul_one]at hqm;subst hqm;clear hw hwm hwn hww hrc hst hbl hls hrz RF ST2 B2 L2 ST;by_cases h0:W=[]
    ·subst h0
     have HEN:=h! (show outN fs s i r=solveR fs s i from endS_of fun j hj=>by
      cases hc:newS fs s (inN fs s i r) j with
      | false=>rfl
      | true=>exact absurd (RWd.out j hj hc) (by simp))
     have HOU:=RS.out.rnd;rw[HEN.out]at HOU;have HOU2:=h! HOU;have HBE:=h! (RB.out wr RL.out);have hbx:=RS.out.box.cells;clear HOU;go_wp2_with fail
     go_ret
     exact⟨⟨_,rfl,by
      obtain⟨m,h1,h2⟩:=HOU2.out;rcases h2 with⟨h2,_⟩ | ⟨g',cap,cur,hv,hbg,hg,hr⟩
      ·cases h2
      ·exact⟨m,h1,.inr ⟨g',cap,cur,hv,by have:=(RB.out wb (Below.refl _ _)).size;have:=hlo.out;omega,hg,hr⟩⟩⟩,HBE.out⟩
    ·have HNE:=h! (show 0<W.length from List.length_pos_iff.2 h0);have hne:(0:Int)<(W.length:Int):=by have:=HNE.out;omega
     have HRC:=h! (show r<=cntT (inN fs s i r)from RC.out.elim id fun h=>absurd h.1 h0);have HRN:=h! (show r<=i from Nat.le_trans HRC.out (cnt_max _ _ _ _))
     have HWL:=h! (show W.length<=i from by
      have h1:=nodup_leR RN.out (u:=upI i) fun x hx=>by
       obtain⟨h2,h3⟩:=RM.out x hx;exact List.mem_map.2 ⟨x.toNat,List.mem_range.2 (by omega),by omega⟩
      rwa[upI_len]at h1)
     have HFR:=h! (fresh_any s ps fs (.slice ap i cp) (.slice af fs.length cf) lo lo2 sp gi gr ub i (inN fs s i r) W (.slice qo' W.length qc') wr (RG.out wr RL.out) RS.out.box RS.out.inn RW.out HLL.out (by have:=RZ.out;have:=HLL.out;omega) (by have:=HWL.out;have:=HNM.out;omega) RM.out);clear h0;go_wp2_with fail
     clear hne;refine HFR.out.mono ?_;rintro e w5 ⟨fv',rfl,hfo,-,hrk⟩;have HFW:=h! (fun j (hj:j<i)=>RWd.out.fresh hj)
     have HFM:=h! (show ∀ x∈frW fs s (inN fs s i r) W,(0<=x/\x<(i:Int))/\newS fs s (inN fs s i r) x.toNat=true from fun x hx=>by
      unfold frW at hx;rw[List.mem_filter]at hx;exact⟨RM.out x hx.1,hx.2⟩)
     have HFN:=h! (show(frW fs s (inN fs s i r) W).Nodup from RN.out.filter _);have HFL:=h! (show(frW fs s (inN fs s i r) W).length<=i from Nat.le_trans (List.length_filter_le _ _) HWL.out);have HFW2:=h! (show ∀ j:Nat,j<i->((j:Int)∈frW fs s (inN fs s i r) W↔newS fs s (inN fs s i r) j=true)from HFW.out);have HFO:=h! hfo;have S5:=h! (RS.out.keep BD.out fun b hb=>hrk.block b ⟨by have:=RZ.out;omega,fun e=>by have:=(RW.out.block b e).1;omega⟩);have B5:=h! (show Below lo wb w5 from RL.out.trans (Kept.below (B:=lo) hrk fun b hb=>⟨by have:=RZ.out;have:=HLL.out;omega,fun e=>by have:=(RW.out.block b e).1;have:=HLL.out;omega⟩));obtain⟨lo3,hlo3⟩:∃ y,Hid (w5.heap.size=y):=⟨_,h! rfl⟩;have L3:=h! (show lo2<=lo3 from by have:=hrk.size;have:=RZ.out;have:=hlo3.out;omega);obtain⟨fo,fm,fc,rfl,hfm,-,-⟩:=hfo.sl.len;rw[ic_length,Nat.mul_one]at hfm;have HFB:=h! (fun g (hg:(Value.slice fo fm fc).ownBlock=some g)=>(hfo.block g hg).2);rw[hlo3.out]at HFB;generalize frW fs s (inN fs s i r) W=F at *;subst hfm;clear hfo hrk HFR HFW RS RL RZ RW RWd RM RN HNE HWL RC;go_wp2_with fail
     go_loopw [10,37] (fun nv jv wr=>∃ (j:Nat) (L:List Bool) (R:List Int),j<=F.length/\jv = .int .i64 j/\InvR fs s i r F j L R/\StAt wr lo sp gi gr ub i (.slice ap i cp) (.slice af fs.length cf) s L R U vs/\Own wr lo3 3 1 nv (ic (nextL U (F.take j)))/\Own wr lo2 3 1 (.slice fo F.length fc) (ic F)/\Below lo wb wr/\lo3<=wr.heap.size) (fun _ jv _=>F.length-(intOf jv).toNat)
     case atStart=>exact⟨0,_,_,Nat.zero_le _,rfl,InvR.start fs s i r F,S5.out,Own.nil _ _ _ _,HFO.out,B5.out,Nat.le_of_eq hlo3.out.symm⟩
     case round =>
      obtain⟨j,L,R,hj,rfl,hinv,hst,hno,hfo,hbl,hsz⟩:=hrel;have HI:=h! hinv;have HS:=h! hst;have HN:=h! hno;have HF:=h! hfo;have HB:=h! hbl;have HZ:=h! hsz;obtain⟨no,nm,nc,rfl,-⟩:=hno.sl.len;clear hinv hst hno hfo hbl hsz S5 B5 HFO;by_cases hlt:j<F.length
      ·have HLT:=h! hlt;obtain⟨fao2,fc2,he2,-,-,hcel⟩:=HF.out.sl.ints;cases he2;obtain⟨b,off,rfl,hbb,c0⟩:=hcel j hlt;obtain⟨⟨hx0,hxn⟩,hxw⟩:=HFM.out F[j] (List.getElem_mem hlt);obtain⟨k,hk⟩:=Int.eq_ofNat_of_zero_le hx0;have hki:k<i:=by omega
       have HKI:=h! hki;have HI2:=h! (HI.out.step hlt hx0 hxn);have HNT:=h! (nextL_take (U:=U) hlt);have HNL:=h! (show(nextL U (F.take j)).length<=1000000000000 from Nat.le_trans (nextL_le HFN.out (fun x hx=>by rw[USL.out.2];exact(HFM.out x hx).1) j) USL.out.1);have HWI:=h! (show wrap64 ((j:Int)+1)=((j+1:Nat):Int)from by have:=HFL.out;have:=HNM.out;unfold wrap64;omega);replace c0:=c0.trans (congrArg (fun z=>some (Value.int .i64 z)) hk);rw[show F[j].toNat=k by omega]at HI2 HNT;rw[<- HRZ.out]at HI2;have hji:(j:Int)<(F.length:Int):=by omega
       have hkn:(k:Int)<(i:Int):=by omega
       have hbx:=HS.out.box.cells;clear hcel hbb hx0 hxn hxw hk hlt;go_wp2_with fail
       obtain⟨wd,hwd⟩:∃ z:World,z=World.drew wr:=⟨_,rfl⟩;have DX:=h! (show Ext wr wd from by rw[hwd];exact Ext.drew _);refine r! (Kept (fun x=>x<wd.heap.size/\x≠gi/\x≠gr) wd) (by rw[<- hwd];exact Kept.refl _ _) ?_;rw[<- hwd];clear hwd hbx c0;have SD:=h! (HS.out.keep (w':=wd) HS.out.bounds fun b hb=>DX.out.block b hb);have SS:=h! (SD.out.set k rz)
       have hnsp:sp≠gi/\sp≠gr:=⟨fun e=>by
        obtain⟨c2,h2⟩:=SD.out.inn.typed (g:=gi) rfl;rw[<- e,show wd.heap[sp]?=_ from SD.out.box]at h2;injection h2 with h2
        injection h2 with _ h2 _
        exact absurd h2 (by decide),fun e=>by
        obtain⟨c2,h2⟩:=SD.out.rnd.typed (g:=gr) rfl;rw[<- e,show wd.heap[sp]?=_ from SD.out.box]at h2;injection h2 with h2
        injection h2 with _ h2 _
        exact absurd h2 (by decide)⟩
       have g1:=fun W (h:Kept (fun x=>x<wd.heap.size/\x≠gi/\x≠gr) wd W)=>(h.blk SD.out.box ⟨SD.out.box.lt,hnsp.1,hnsp.2⟩).cells;(refine WalkN.tk [0,1,2,3,4,5,6,7,8,9,10,11] ?_;(iterate 12 (refine c! ?_));refine TkN.n ?_)
       clear g1 hnsp;obtain⟨hl1,hb1',cs1,hB1,hc1⟩:=SD.out.inn.cellAt;obtain⟨y1,d1⟩:∃ y,wd.cell? ⟨gi,k,none⟩=some y:=⟨_,hc1 k (by omega)⟩;have f1:=hB1.free;clear hl1 hc1 hB1;refine o! 12 ?_;refine b! ?_;intro K hK;go_simp;refine hK.out _ _ (Kept.set (Kept.refl _ _) (a:=⟨gi,k,none⟩) (fun h=>h.2.1 rfl) _) ?_;clear hK d1 f1;refine t! 13 ?_
       have hgg:gi≠gr:=fun e=>by
        have h1:=SD.out.rnd;rw[<- e]at h1;exact SD.out.inn.apart h1 (by decide) rfl rfl
       have HR1:Own (wd.setCell ⟨gi,k,none⟩ (.bool true)) lo 3 1 (.slice (some ⟨gr,0,none⟩) i i) (ic R):=SD.out.rnd.keepOwn fun g hg=>Below.heap_setCell _ _ _ _ (by obtain rfl:gr=g:=Option.some.inj hg;exact fun e=>hgg e.symm);obtain⟨hl1,hb2',cs1,hB1,hc1⟩:=HR1.cellAt;obtain⟨y2,d2⟩:∃ y,(wd.setCell ⟨gi,k,none⟩ (.bool true)).cell? ⟨gr,k,none⟩=some y:=⟨_,hc1 k (by omega)⟩;have f2:=hB1.free;clear hl1 hc1 hB1 HR1 hgg;refine o! 14 ?_;refine b! ?_;intro K hK;go_simp;refine hK.out _ _ (Kept.set (Kept.set (Kept.refl _ _) (a:=⟨gi,k,none⟩) (fun h=>h.2.1 rfl) _) (a:=⟨gr,k,none⟩) (fun h=>h.2.2 rfl) _) ?_;clear hK d2 f2;refine d! ?_;have B7':Below lo wb ((wd.setCell ⟨gi,k,none⟩ (.bool true)).setCell ⟨gr,k,none⟩ (.int .i64 rz)):=Below.setCell (Below.setCell (HB.out.trans (DX.out.mono (by have:=HZ.out;have:=L3.out;have:=HLL.out;omega))) hb1' _) hb2' _
       have HS7:∀ b,b≠gi->b≠gr->((wd.setCell ⟨gi,k,none⟩ (.bool true)).setCell ⟨gr,k,none⟩ (.int .i64 rz)).heap[b]?=wd.heap[b]?:=fun b h1 h2=>by
        rw[Below.heap_setCell _ _ _ _ h2,Below.heap_setCell _ _ _ _ h1]
       have HZ7:lo3<=((wd.setCell ⟨gi,k,none⟩ (.bool true)).setCell ⟨gr,k,none⟩ (.int .i64 rz)).heap.size:=by have h1:=HZ.out;have h2:=DX.out.size;simp;omega
       obtain⟨w7,hw7⟩:∃ y,y=(wd.setCell ⟨gi,k,none⟩ (.bool true)).setCell ⟨gr,k,none⟩ (.int .i64 rz):=⟨_,rfl⟩;rw[<- hw7]at SS B7' HS7 HZ7 ⊢;have N7:=h! (show Own w7 lo3 3 1 (.slice no nm nc) (ic (nextL U (F.take j)))from(HN.out.below DX.out).keepOwn fun g hg=>HS7 g (by have h1:=(HN.out.block g hg).1;have:=BD.out.gi;have:=L3.out;omega) (by have h1:=(HN.out.block g hg).1;have:=BD.out.gr;have:=L3.out;omega));have F7:=h! (show Own w7 lo2 3 1 (.slice (some ⟨b,off,none⟩) F.length fc) (ic F)from(HF.out.below DX.out).keepOwn fun g hg=>HS7 g (by have h1:=(HF.out.block g hg).1;have:=BD.out.gi;omega) (by have h1:=(HF.out.block g hg).1;have:=BD.out.gr;omega));have B7:=h! B7';have Z7:=h! HZ7;obtain⟨v,hv⟩:∃ v,vs[k]?=some v:=⟨_,List.getElem?_eq_getElem (by rw[SS.out.use.vlen];exact HKI.out)⟩;have R7:=h! (SS.out.use.row k v hv);obtain⟨vo,vm,vc,rfl,-,-,-⟩:=R7.out.sl.len;have hbx:=SS.out.box.cells;obtain⟨hl1,-,cs1,hB1,hc1⟩:=SS.out.use.arr.cellAt
       have hrw:w7.cell? ⟨ub,k,none⟩=some (.slice vo vm vc):=by
        rw[hc1 k (by rw[hl1];exact HKI.out)];rw[List.getElem?_eq_getElem (by rw[hl1];exact HKI.out)]at hv;exact hv
       have HUL:=h! (Nat.le_trans (len_sum U k) USL.out.1);clear hw7 hl1 hc1 hB1 hv B7' HS7 HZ7 hb1' hb2' SD HN HF HB HS HI;go_wp2_with (at_builtin;go_must (refine wpList_own intsT rfl (.tmp 54) (.tmp 61) rfl rfl N7.out rfl R7.out.sl (ic_one _) (by have:=HNL.out;have:=HUL.out;rw[ic_length,ic_length];omega) (by have:=HNL.out;have:=HUL.out;rw[ic_length,ic_length];omega) Z7.out ?_;intro v6 w6 hown6 hb6 hg6;have HO6:=h! (show Own w6 lo3 3 1 v6 (ic (nextL U (F.take (j+1))))from by rw[HNT.out,ic_append];exact hown6);have S6:=h! (SS.out.keep BD.out fun b hb=>hb6.block b (by have:=L3.out;omega));have F6:=h! (F7.out.keepOwn fun g hg=>hb6.block g (HFB.out g hg));have B6:=h! (B7.out.trans (hb6.mono (by have:=L3.out;have:=HLL.out;omega)));have Z6:=h! (Nat.le_trans Z7.out hb6.size);clear hown6 hb6 hg6))
       go_roundw
       case rel=>exact⟨j+1,_,_,HLT.out,by first | rw[HWI.out] | go_num,HI2.out,S6.out,HO6.out,F6.out,B6.out,Z6.out⟩
       case measure=>have:=HLT.out;(try rw[HWI.out]);simp[intOf];omega
      ·obtain rfl:j=F.length:=by omega
       obtain⟨rfl,rfl⟩:=HI.out.done HFW2.out;rw[List.take_length]at HN;have HWR:=h! (show wrap64 (rz+1)=((r+1+1:Nat):Int)from by have:=HRZ.out;have:=HRN.out;have:=HNM.out;unfold wrap64;omega);have HNL:=h! (show(nextL U F).length<=1000000000000 from Nat.le_trans (nextL_len HFN.out (fun x hx=>by rw[USL.out.2];exact(HFM.out x hx).1)) USL.out.1);have HMM:=h! (show ∀ x,x∈nextL U F↔∃ k∈F,x∈U.getD k.toNat []from fun x=>by unfold nextL;rw[List.mem_flatMap])
       have HNX:=h! (show ∀ x∈nextL U F,0<=x/\x<(i:Int)from fun x hx=>by
        obtain⟨k,hk,hx⟩:=(HMM.out x).1 hx;obtain⟨⟨h1,h2⟩,-⟩:=HFM.out k hk;obtain⟨m,_,rfl,h3,-⟩:=(UO.out k.toNat (by omega) x).1 hx;omega)
       have HWN:=h! (Wide.next (fs:=fs) (s:=s) (r:=r) UO.out HFW2.out HMM.out)
       have HCT:=h! (show r+1<=cntT (inN fs s i (r+1))\/(nextL U F=[]/\r+1<=i+1)from by
        by_cases hF:F=[]
        ·exact .inr ⟨by rw[hF];rfl,by have:=HRN.out;omega⟩
        ·left
         obtain⟨⟨h1,h2⟩,h3⟩:=HFM.out F[0]! (by
          rw[getElem!_pos F 0 (List.length_pos_iff.2 hF)];exact List.getElem_mem _)
         have h4:=cnt_step (by omega) h3;have:=HRC.out;omega)
       generalize nextL U F=N at *;have HSO:=h! (sortIn_any HN.out (by have:=HNL.out;omega));clear hlt hj;go_wp2_with fail
       refine HSO.out.mono ?_;rintro e w6 ⟨rfl,ho6,hk6⟩;have O6:=h! ho6;have K6:=h! (show ∀ b,b<lo3->w6.heap[b]?=wr.heap[b]? from fun b hb=>hk6.block b ⟨by have:=HZ.out;omega,fun e=>by have:=(HN.out.block b e).1;omega⟩);have KL6:=h! (show Below lo wr w6 from Kept.below (B:=lo) hk6 fun b hb=>⟨by have:=HZ.out;have:=L3.out;have:=HLL.out;omega,fun e=>by have:=(HN.out.block b e).1;have:=L3.out;have:=HLL.out;omega⟩);have KS6:=h! hk6.size;have HCO:=h! (compactI_any _ _ w6 ho6 (by rw[List.length_mergeSort];have:=HNL.out;omega));clear ho6 hk6 HSO;go_wp2_with fail
       refine HCO.out.mono ?_;rintro e w7 ⟨v',rfl,ho7,-,hk7⟩;have O7:=h! (show Own w7 lo2 3 1 v' (ic (setI N))from ho7.low L3.out);have S7:=h! (HS.out.keep BD.out fun b hb=>(hk7.block b ⟨by have:=HZ.out;have:=KS6.out;have:=L3.out;omega,fun e=>by have:=(O6.out.block b e).1;have:=L3.out;omega⟩).trans (K6.out b (by have:=L3.out;omega)));have B7:=h! (show Below lo wb w7 from HB.out.trans (KL6.out.trans (Kept.below (B:=lo) hk7 fun b hb=>⟨by have:=HZ.out;have:=KS6.out;have:=L3.out;have:=HLL.out;omega,fun e=>by have:=(O6.out.block b e).1;have:=L3.out;have:=HLL.out;omega⟩)));have Z7:=h! (show lo2<=w7.heap.size from by have:=hk7.size;have:=HZ.out;have:=KS6.out;have:=L3.out;omega);obtain⟨vo,vm,vc,rfl,-,-,-⟩:=ho7.sl.len;clear ho7 hk7 HCO;go_wp2_with fail
       go_roundw
       case rel=>exact⟨r+1,setI N,by first | rw[HWR.out] | go_num,O7.out,fun x hx=>HNX.out x ((setI_mem N x).1 hx),setI_nodup N,fun m hm h=>(setI_mem N _).2 (HWN.out m hm h),HCT.out.imp id (fun h=>⟨by rw[h.1];exact List.eq_nil_iff_forall_not_mem.2 fun x hx=>by have:=(setI_mem [] x).1 hx;simp at this,h.2⟩),S7.out,B7.out,Z7.out⟩
       case measure=>have:=HRN.out;have:=HRZ.out;(try rw[HWR.out]);simp[intOf];omega
end Go.Proofs.YtlhaghoajpglaaaGreat
