/- Lemmas for the claim, no condition. -/
import Derived.Sort.Walk0
import Derived.Shelf.SlSortCmp.WholeK
import Derived.Shelf.SlSortCmp.NoneTotal
import Derived.Sort.MapsRangeIn
import Derived.RangeFuncGives
import Derived.RangeFuncNested
import Derived.WalkKit
import Derived.TacticsInMore
import Derived.RegionIn
import Derived.LoopNIn
import Derived.LoopIn
import Derived.RangeFuncLeaves
import Derived.OwnWalkIn
import Derived.Sort.KeysCollected
import Derived.DeepKeys4
import Derived.Test.YtlhaghoajpglaaaGreatYXMean0
import Derived.Test.YtlhaghoajpglaaaGreatYXMean1
import Derived.Test.YtlhaghoajpglaaaGreatYXMean2
set_option maxRecDepth 100000
set_option maxHeartbeats 2000000
namespace Go.Proofs.YtlhaghoajpglaaaGreat
open Go Go.RowKit
def ltS (a b:ByteArray):Bool:=Op.bytesLess a.toList b.toList
theorem ltS_iff (a b:ByteArray):ltS a b=decide (a.data.toList<b.data.toList):=by
 unfold ltS;rw[ByteArray.toList_eq,ByteArray.toList_eq];exact bytesLess_eq _ _
theorem ltS_irr (a:ByteArray):ltS a a=false:=by
 rw[ltS_iff];simp[List.lt_irrefl]
theorem ltS_trans {a b c:ByteArray} (h:ltS a b=true)(k:ltS b c=true):ltS a c=true:=by
 rw[ltS_iff]at *;simp only[decide_eq_true_eq]at *;exact List.lt_trans h k
theorem ltS_total {a b:ByteArray} (h:ltS a b=false)(hne:a≠b):ltS b a=true:=by
 rw[ltS_iff]at *;simp only[decide_eq_true_eq,decide_eq_false_iff_not]at *;have h1:b.data.toList<=a.data.toList:=List.not_lt.1 h;rcases List.le_iff_lt_or_eq.1 h1 with h2 | h2
 ·exact h2
 ·exact absurd (ByteArray.ext (by rw[<- Array.toList_inj];exact h2.symm)) hne
theorem ba_beq {a b:ByteArray} (h:a≠b):(a.data.toList == b.data.toList)=false:=by
 rw[beq_eq_false_iff_ne];exact fun e=>h (ByteArray.ext (by rw[<- Array.toList_inj];exact e))
def cmpS (a b:ByteArray):Int:=if ltS a b then -1 else if a=b then 0 else 1
theorem cmpS_zero (a b:ByteArray):cmpS a b=0↔a=b:=by
 unfold cmpS;by_cases h:a=b
 ·subst h;simp[ltS_irr]
 ·cases ltS a b <;> simp[h]
theorem cmpS_neg (a b:ByteArray):cmpS a b<0↔ltS a b=true:=by
 unfold cmpS;cases h:ltS a b with
 | true=>simp
 | false=>by_cases e:a=b <;> simp[e]
theorem cmpS_any (a b:ByteArray)(w:World):Calls Tryz.prog 147 #[.string a,.string b] w fun e w'=>e = .returned (.int .i64 (cmpS a b))/\w=w':=by
 by_cases hl:ltS a b=true
 ·have HC:=h! (show cmpS a b = -1 from by simp[cmpS,hl]);unfold ltS at hl;go_enter Tryz.func147,Tryz.ntmps147
  go_wp2
  go_ret
  exact⟨by rw[HC.out];rfl,rfl⟩
 ·have hl:ltS a b=false:=by simpa using hl
  by_cases he:a=b
  ·subst he;have HC:=h! (show cmpS a a=0 from by simp[cmpS,hl]);have h1:Op.bytesLess a.toList a.toList=false:=hl;clear hl;go_enter Tryz.func147,Tryz.ntmps147
   go_wp2
   go_ret
   exact⟨by rw[HC.out];rfl,rfl⟩
  ·have HC:=h! (show cmpS a b=1 from by simp[cmpS,hl,he]);have h1:Op.bytesLess a.toList b.toList=false:=hl;have h2:=ba_beq he;rw[<- ByteArray.toList_eq,<- ByteArray.toList_eq]at h2;clear hl he;go_enter Tryz.func147,Tryz.ntmps147
   go_wp2
   go_ret
   exact⟨by rw[HC.out];rfl,rfl⟩
def orL:List Int->Int
 | []=>0
 | a::l=>if a=0 then orL l else a
theorem orL_drop {l:List Int}:∀ {i:Nat},(∀ j (hj:j<l.length),j<i->l[j]=0)->orL l=orL (l.drop i):=by
 induction l with
 | nil=>intro i _;simp[orL]
 | cons a l ih =>
  intro i h;cases i with
  | zero=>rfl
  | succ i =>
   have h0:=h 0 (by simp) (by omega);simp only[List.getElem_cons_zero]at h0;rw[orL,if_pos h0,List.drop_succ_cons];refine ih fun j hj hji=>?_;have h1:=h (j+1) (by simpa using hj) (by omega);rwa[List.getElem_cons_succ]at h1
def icL (l:List Int):List Value:=l.map fun n => .int .i64 n
theorem orL_any (v:Value)(l:List Int)(w:World)(S:Nat->Prop)(h:Sl S w 1 v (icL l)) :
  Calls Tryz.prog 146 #[v] w fun e w'=>e = .returned (.int .i64 (orL l))/\w=w':=by
 obtain⟨ao,n,c,rfl,h1,hnc,hcm,_,hc⟩:=h;have hn:l.length=n:=by simpa [icL] using h1
 subst hn;have hcm':c<=9223372036854775807:=by unfold maxLen at hcm;omega
 have HC:=h! hc;clear hc h1 hcm;go_enter Tryz.func146,Tryz.ntmps146
 go_wp2
 go_loop [8] (fun ii=>∃ i:Nat,i<=l.length/\ii = .int .i64 i/\∀ j (hj:j<l.length),j<i->l[j]=0) (fun ii=>l.length-(intOf ii).toNat)
 case atStart=>exact⟨0,by omega,rfl,fun _ _ h=>absurd h (by omega)⟩
 case round =>
  obtain⟨i,hi,rfl,hall⟩:=hrel;have HALL:=h! hall;clear hall;by_cases hlt:i<l.length
  ·obtain⟨b,off,rfl,-,hcc⟩:=HC.out (by intro e;have:=congrArg List.length e;simp[icL]at this;subst this;simp at hlt);have hci:=hcc i (.int .i64 l[i]) (by simp[icL,hlt]);have HD:=h! (show orL l=orL (l[i]::l.drop (i+1))from by rw[orL_drop HALL.out,List.drop_eq_getElem_cons hlt]);have HN:=h! (fun h=>upto_succ (p:=fun j hj=>l[j]=0) HALL.out hlt h);clear hcc;generalize l[i]=a at *;by_cases ha:a=0
   ·subst ha;have HN2:=h! (HN.out rfl);clear HN;go_wp2
    go_round
    case rel=>exact⟨i+1,by omega,by go_num,HN2.out⟩
    case measure=>simp[intOf];omega
   ·have HV:=h! (show orL l=a from by rw[HD.out,orL,if_neg ha]);have ha2:(a != 0)=true:=by simpa using ha
    clear ha;go_wp2
    go_ret
    exact⟨by rw[HV.out];rfl,rfl⟩
  ·obtain rfl:i=l.length:=by omega
   have HV:=h! (show orL l=0 from by rw[orL_drop HALL.out,List.drop_length];rfl);go_wp2
   go_ret
   exact⟨by rw[HV.out];rfl,rfl⟩
end Go.Proofs.YtlhaghoajpglaaaGreat
namespace Go.Proofs.YtlhaghoajpglaaaGreat
open Go Go.RowKit Go.Sort Go.Shelf
theorem flatK_list {α:Type} [Inhabited α] {enc:α->List Value} {k:Nat} (hk:∀ x,(enc x).length=k)(hpos:0<k)(d:Array α):(flatK enc k d).toList=d.toList.flatMap enc:=by
 apply List.ext_getElem?;intro t;by_cases ht:t<d.size*k
 ·have h1:t / k<d.size:=(Nat.div_lt_iff_lt_mul hpos).2 ht;have h2:t % k<k:=Nat.mod_lt _ hpos;have h3:t=t / k*k+t % k:=by rw[Nat.mul_comm];exact(Nat.div_add_mod t k).symm
  have e1:(flatK enc k d).toList[t]?=some (flatK enc k d)[t]!:=by
   rw[getElem!_pos _ t (by simpa using ht)];simp[ht]
  rw[e1,get_flatK enc k d t ht];conv=>rhs;rw[h3]
  rw[flat_get hk d.toList (t / k) (by simpa using h1) (t % k) h2,getElem!_pos d (t / k) h1,getElem!_pos _ (t % k) (by rw[hk];exact h2),List.getElem?_eq_getElem (by rw[hk];exact h2)];simp
 ·rw[List.getElem?_eq_none (by simp;omega),List.getElem?_eq_none (by rw[flat_length hk];simp;omega)]
theorem sort_own {P:Program} {ρ:Ren} (L:SlLaysF0.n6 P ρ) {α:Type} [Inhabited α] (enc:α->List Value)(k:Nat)(hk:∀ x,(enc x).length=k)(hpos:0<k)(h1:∀ x,∀ v∈enc x,v.oneCell'=true)
  (aE:∀ w,(isAgg (ρ.t 24)).run P w = .ok true w) (zE:∀ w,(Go.sizeOf (ρ.t 24)).run P w = .ok k w) (cf:α->α->Int) (hO:SWO (ltOf cf)) (g:Nat) (cb:Array Value)
  (eg:∀ args w,(callFunc g args).run P w = .ok (.enter g args) w) (hcmp:∀ (W:World) x y,Calls P g (#[.agg (enc x).toArray,.agg (enc y).toArray]++cb) W fun e w'=>e = .returned (.int .i64 (cf x y))/\Gr W w')
  {w:World} {B:Nat} {T:TypeId} {v:Value} {l:List α} (h:Own w B T k v (l.flatMap enc)) (hl:l.length<4611686018427387904) :
  Calls P (ρ.f 6) #[v,.func (.func g) #[] cb] w fun e w'=>e = .returned (.tuple #[])/\∃ l':List α,l'.Perm l/\(l'.Pairwise fun a b=>ltOf cf b a=false)/\Own w' B T k v (l'.flatMap enc)/\Kept (fun b=>b<w.heap.size/\v.ownBlock≠some b) w w':=by
 obtain⟨n,hlen,hrow⟩:=h;rw[flat_length hk]at hlen;obtain rfl:l.length=n:=Nat.eq_of_mul_eq_mul_right hpos hlen;by_cases h0:l=[]
 ·subst h0
  have hv:∃ p c,v = .slice p 0 c:=by
   rcases hrow with⟨rfl,_⟩ | ⟨b,cap,cur,rfl,_⟩
   ·exact⟨_,_,rfl⟩
   ·exact⟨_,_,rfl⟩
  have hown:Own w B T k v (([]:List α).flatMap enc):=⟨0,by simp,hrow⟩;obtain⟨p,c,rfl⟩:=hv;refine(AnyF.slices_SortFunc_none L p c _ w).mono ?_;rintro e w' ⟨rfl,rfl⟩;exact⟨rfl,[],List.Perm.refl _,List.Pairwise.nil,hown,Kept.refl _ _⟩
 ·have hl0:0<l.length:=List.length_pos_iff.2 h0;rcases hrow with⟨rfl,hx⟩ | ⟨b,cap,cur,rfl,hB,hb,hnc,hcm,hcs,htake⟩
  ·exfalso
   omega
  ·have hblt:b<w.heap.size:=(Array.getElem?_eq_some_iff.1 hb).1;have hnk:l.length*k<=cur.size:=by rw[hcs];exact Nat.mul_le_mul_right k hnc
   have hcur:∀ j,j<l.length*k->cur[j]?=some (flatK enc k l.toArray)[j]!:=fun j hj=>by
    have e1:(cur.toList.take (l.length*k))[j]?=cur[j]?:=by rw[List.getElem?_take,if_pos hj];simp
    rw[<- e1,htake];have e2:=flatK_list hk hpos l.toArray;simp only at e2;rw[<- e2,getElem!_pos _ j (by simpa using hj)];simp[hj]
   have hH:HoldsK enc k w b 0 l.toArray:=fun j hj=>by
    rw[size_flatK]at hj;have hj':j<l.length*k:=by simpa using hj
    refine⟨?_,frozen_of_row w b (0+j) cur T hb⟩;rw[cell_of_row w b (0+j) cur T (0,0) hb,Nat.zero_add];exact hcur j hj'
   have hcl:CmpLays P g cb enc k cf b 0 l.toArray.size w:=fun m os dk _ x y=>(hcmp _ x y).mono fun _ _ ⟨he,hg⟩=>⟨he,hg⟩;have hc:=AnyQ.slices_SortFunc L k aE zE enc hk h1 cf hO g cb b 0 cap l.toArray w eg hcl hH hblt (by simpa using hl);simp only[List.size_toArray]at hc;refine hc.mono ?_;rintro e w' ⟨rfl,d',m,os,hp,hs,rfl⟩;obtain⟨hp1,_,hp2⟩:=hp;have hp1':d'.size=l.length:=by simpa using hp1
   have hperm:d'.toList.Perm l:=by
    have e1:(d'.extract 0 l.length).toList=d'.toList:=by rw[<- hp1'];simp
    have e2:(l.toArray.extract 0 l.length).toList=l:=by simp
    rw[e1,e2]at hp2;exact hp2
   refine⟨rfl,d'.toList,hperm,?_,⟨d'.toList.length,?_,.inr ⟨b,cap,putCells id 0 (flatK enc k d') cur,?_,hB,?_,?_,hcm,?_,?_⟩⟩,?_⟩
   ·refine List.pairwise_iff_getElem.2 fun i j hi hj hij=>?_;have hi':i<d'.size:=by simpa using hi
    have hj':j<d'.size:=by simpa using hj
    have:=hs i j (Nat.zero_le _) hij (by omega);rwa[getElem!_pos d' j hj',getElem!_pos d' i hi']at this
   ·rw[flat_length hk]
   ·simp[hp1']
   ·simp only[sortWorldK,putRowK,putRow,mapBlock,grow,heap_ahead];rw[Array.getElem?_append_left (by simpa using hblt),Array.getElem?_modify,if_pos rfl,hb];rfl
   ·simp[hp1',hnc]
   ·simp[putCells,hcs]
   ·rw[show d'.toList.length*k=(flatK enc k d').size from by simp];rw[<- flatK_list hk hpos d'];apply List.ext_getElem?;intro t;rw[List.getElem?_take];split
    ·rename_i ht
     have ht':t<d'.size*k:=by simpa using ht
     have htc:t<cur.size:=by rw[hp1']at ht';omega
     simp only[putCells,Array.getElem?_toList,Array.getElem?_mapIdx];rw[Array.getElem?_eq_getElem htc];simp only[Option.map_some,Nat.zero_le,true_and,Nat.zero_add,Nat.sub_zero,id];rw[if_pos ht,getElem!_pos _ t ht,Array.getElem?_eq_getElem ht]
    ·rename_i ht
     rw[List.getElem?_eq_none (by simpa using ht)]
   ·refine⟨rfl,rfl,rfl,by simp[sortWorldK,putRowK,grow],fun c hc=>?_⟩;have hne:c≠b:=fun e=>hc.2 (by subst e;rfl);simp only[sortWorldK,putRowK,putRow,mapBlock,grow,heap_ahead];rw[Array.getElem?_append_left (by simpa using hc.1),Array.getElem?_modify,if_neg (Ne.symm hne)]
end Go.Proofs.YtlhaghoajpglaaaGreat
namespace Go.Proofs.YtlhaghoajpglaaaGreat
open Go Go.RowKit
theorem ltS_ne {a b:ByteArray} (h:ltS a b=true):a≠b:=by
 rintro rfl;rw[ltS_irr]at h;cases h
end Go.Proofs.YtlhaghoajpglaaaGreat
namespace Go.Proofs.YtlhaghoajpglaaaGreat
open Go Go.RowKit Go.Maps
section
variable {F : Fence} {n : Nat} {P : Program} (w : World) {ops : Array Oper} {rest : List Oper} {o : Oper} {a : Act} {Q : Exit -> Act -> World -> Prop} {κ α : Type} {kv : κ -> Value} {ev : α -> Value} {b : Nat} {l : List (κ × α)}
theorem wpListIn_mp_range (hg:o.guard=none)(m:Operand)(t:TypeId)(hop:o.op=Op.range t m) {k e:TypeId} (ht:P.underlying t=some (.map k e))(hm:a.eval m = .map (some b))(h:Mp P k kv ev w b l)
  (hK:∀ w',Rng P k kv ev w' b w.heap.size l l->Below w.heap.size w w'->w'.heap.size=w.heap.size+1->wpListIn F n P ops Q rest (a.put o.dst (.pointer (some ⟨w.heap.size,0,none⟩))) w'):wpListIn F n P ops Q (o::rest) a w:=by
 refine wpListIn_plain hg fun K' hK'=>?_;obtain⟨w',hrun,h1,h2,h3⟩:=h.range ht;unfold Oper.wpIn;refine⟨by simp[Oper.about,hop],?_⟩;rw[Oper.semAt_plain F _ _ (by rw[hop];intro c hc';cases hc')];simp[execOp,hop,hm,hrun,Result.andThen];exact hK' _ _ (hK w' h1 h2 h3)
theorem wpListIn_mp_next (hg:o.guard=none)(it:Operand)(hop:o.op=Op.next it false) {k:TypeId} {r:Nat} {rem:List (κ × α)} (hit:a.eval it = .pointer (some ⟨r,0,none⟩))(h:Rng P k kv ev w b r l rem)
  (hDone:rem=[]->wpListIn F n P ops Q rest (a.put o.dst (.tuple #[.bool false])) w)
  (hMore:∀ pre p post w',rem=pre++p::post->Rng P k kv ev w' b r l (pre++post)->Kept (· ≠ r) w w'->w'.heap.size=w.heap.size->(Instr.entry (.pointer (some ⟨r,0,none⟩))).run P w' = .ok (.tuple #[kv p.1,ev p.2]) w' ->
   wpListIn F n P ops Q rest (a.put o.dst (.tuple #[.bool true,kv p.1,ev p.2])) w'):wpListIn F n P ops Q (o::rest) a w:=by
 refine wpListIn_plain hg fun K' hK'=>?_;unfold Oper.wpIn;refine⟨by simp[Oper.about,hop],?_⟩;rw[Oper.semAt_plain F _ _ (by rw[hop];intro c hc';cases hc')];rcases h.next o.type with⟨h0,hrun⟩ | ⟨pre,p,post,w',h0,hrun,h1,h2,h3,h4⟩
 ·simp[execOp,hop,hit,hrun,Result.andThen];exact hK' _ _ (hDone h0)
 ·simp[execOp,hop,hit,hrun,Result.andThen];exact hK' _ _ (hMore pre p post w' h0 h1 h2 h3 h4)
end
theorem Kept.grown {w w':World} {r:Nat} (h:Kept (· ≠ r) w w'):w.grownBy w' (some r):=⟨h.os,h.tape,h.output,h.size,fun k _ hk=>h.block k fun e=>hk (by rw[e])⟩
theorem grown0_of {w w':World} (h:Below w.heap.size w w'):w.grownBy w' none:=⟨h.os,h.tape,h.output,h.size,fun k hk _=>h.block k hk⟩
theorem Rng.walk {P:Program} {k:TypeId} {κ α:Type} {kv:κ->Value} {ev:α->Value} {w:World} {b r:Nat} {l rem:List (κ × α)} (h:Rng P k kv ev w b r l rem):∃ o:Obj,w.heap[r]?=some o/\o.isWalk=true:=by
 obtain⟨es,clock,since,seen,c0,_,_,_,_,hr,_⟩:=h;exact⟨_,hr,rfl⟩
theorem Rng.walks {P:Program} {k:TypeId} {κ α:Type} {kv:κ->Value} {ev:α->Value} {w w':World} {b r:Nat} {l rem:List (κ × α)} (h:Rng P k kv ev w b r l rem)(hk:KeepsWalks w w'):Rng P k kv ev w' b r l rem:=by
 obtain⟨es,clock,since,seen,c0,hb,hs,hm,hok,hr,rest⟩:=h;exact⟨es,clock,since,seen,c0,hk.same b _ hb rfl,hs,hm,hok,hk.same r _ hr rfl,rest⟩
end Go.Proofs.YtlhaghoajpglaaaGreat
namespace Go.Proofs.YtlhaghoajpglaaaGreat
open Go Go.RowKit
attribute [local go_sem] Oper.semAt_some
theorem refsT:ElemT Tryz.prog 28 121 2 32:=ElemT.mk' Tryz.underlying28 (show _=some (some (.agg #[.string ByteArray.empty,.string ByteArray.empty]),2,32)by kernel_rfl) rfl (by decide)
theorem r2cs_single (a:R2):r2cs [a]=r2C a:=by simp[r2cs]
end Go.Proofs.YtlhaghoajpglaaaGreat
namespace Go.Proofs.YtlhaghoajpglaaaGreat
open Go Go.RowKit Go.Maps
open Classical in
section
variable {P : Program} {k t e : TypeId} {κ α : Type} {kv : κ -> Value} {ev : α -> Value} {w : World}
def MpO (P:Program)(k:TypeId)(kv:κ->Value)(ev:α->Value)(w:World):Option Nat->List (κ × α)->Prop
 | none,l=>l=[]
 | some b,l=>Mp P k kv ev w b l
theorem MpO.nodup {mb:Option Nat} {l:List (κ × α)} (h:MpO P k kv ev w mb l):(l.map (·.1)).Nodup:=by
 cases mb with
 | none=>obtain rfl:l=[]:=h;simp
 | some b=>exact Mp.nodup (show Mp P k kv ev w b l from h)
end
end Go.Proofs.YtlhaghoajpglaaaGreat
namespace Go.Proofs.YtlhaghoajpglaaaGreat
open Go Go.RowKit Go.Maps
abbrev blR (l:List R2):List (R2 × Bool):=l.map fun p=>(p,true)
theorem put_blR (l:List R2)(a:R2)(h:a∉l):putA (blR l) a true=blR (l++[a]):=by
 rw[put_miss (fun p hp e=>h (by obtain⟨x,hx,rfl⟩:=List.mem_map.1 hp;exact e▸hx))];simp[blR]
theorem put_blR_in (l:List R2)(a:R2)(h:a∈l):putA (blR l) a true=blR l:=by
 induction l with
 | nil=>simp at h
 | cons x r ih =>
  simp only[blR,List.map_cons,putA]at *;by_cases e:x=a
  ·subst e;simp
  ·rw[if_neg e];rw[ih (by simpa [Ne.symm e] using h)]
def namesT (t:TyS):List R2:=⟨t.name,ByteArray.empty⟩::t.rels.map fun r=>⟨t.name,r.1⟩
def namesOf (ts:List TyS):List R2:=ts.flatMap namesT
theorem namesOf_take {l:List TyS} {i:Nat} (hi:i<l.length):namesOf (l.take (i+1))=namesOf (l.take i)++namesT l[i]:=by
 rw[List.take_succ_eq_append_getElem hi];simp only[namesOf,List.flatMap_append,List.flatMap_cons,List.flatMap_nil,List.append_nil]
theorem own_ne {s:ByteArray} (h:ownB s=true):s≠ByteArray.empty:=by
 rintro rfl;revert h
 decide
theorem names_nodup {ts:List TyS} (hp:printOk ts=true):(namesOf ts).Nodup↔uniqOk ts=true:=by
 have hown:∀ t∈ts,∀ r∈t.rels,r.1≠ByteArray.empty:=fun t ht r hr=>by
  have h1:=List.all_eq_true.1 hp t ht;unfold tyOk at h1;rw[Bool.and_eq_true]at h1;have h2:=List.all_eq_true.1 h1.2 r hr;unfold relOk at h2;simp only[Bool.and_eq_true]at h2;exact own_ne h2.1.2
 constructor
 ·intro h;refine uniq_of fun j hj=>⟨fun m hm _ hmj he=>?_,?_⟩
  ·have h1:=List.pairwise_iff_getElem.1 (List.pairwise_flatMap.1 h).2 m j hm hj hmj;exact h1 ⟨ts[m].name,ByteArray.empty⟩ List.mem_cons_self ⟨ts[j].name,ByteArray.empty⟩ List.mem_cons_self (by rw[he])
  ·have h1:=(List.pairwise_flatMap.1 h).1 ts[j] (List.getElem_mem hj);have h2:=(List.nodup_cons.1 (show(namesT ts[j]).Nodup from h1)).2;refine List.Pairwise.map _ ?_ (List.Pairwise.of_map _ (R:=fun a b:ByteArray × RT=>a.1≠b.1) ?_ h2)
   ·exact fun a b h=>h
   ·exact fun a b hne e=>hne (by rw[e])
 ·intro h;refine List.pairwise_flatMap.2 ⟨fun t ht=>?_,List.pairwise_iff_getElem.2 fun m j hm hj hmj=>?_⟩
  ·obtain⟨j,hj,rfl⟩:=List.getElem_of_mem ht;refine List.nodup_cons.2 ⟨fun hm=>?_,?_⟩
   ·obtain⟨r,hr,he⟩:=List.mem_map.1 hm;injection he with _ he
    exact hown _ ht r hr he
   ·have h1:=(uniq_at h hj).2;refine List.Pairwise.map _ ?_ (List.Pairwise.of_map _ (R:=fun a b:ByteArray × RT=>a.1≠b.1) (fun a b h=>h) h1);exact fun a b hne e=>hne (by injection e)
  ·intro x hx y hy e;subst e;have h1:=(uniq_at h hj).1 m hm hj hmj
   have n1:x.t=ts[m].name:=by
    rcases List.mem_cons.1 hx with rfl | hx
    ·rfl
    ·obtain⟨r,_,rfl⟩:=List.mem_map.1 hx;rfl
   have n2:x.t=ts[j].name:=by
    rcases List.mem_cons.1 hy with rfl | hy
    ·rfl
    ·obtain⟨r,_,rfl⟩:=List.mem_map.1 hy;rfl
   exact h1 (n1.symm.trans n2)
structure NamesI (L N:List R2):Prop where
 mem:∀ x,x∈N↔x∈L
 le:N.length<=L.length
 eq:N.length=L.length↔L.Nodup
theorem NamesI.nil:NamesI [] []:=⟨fun _=>Iff.rfl,Nat.le_refl _,by simp⟩
def addR (N:List R2)(x:R2):List R2:=if x∈N then N else N++[x]
theorem addR_len (N:List R2)(x:R2):(addR N x).length<=N.length+1:=by
 unfold addR;split <;> simp
theorem addR_mem (N:List R2)(x y:R2):y∈addR N x↔y∈N\/y=x:=by
 unfold addR;split
 ·rename_i h
  exact⟨.inl,fun hy=>hy.elim id fun e=>e▸h⟩
 ·simp
theorem put_addR (N:List R2)(x:R2):putA (blR N) x true=blR (addR N x):=by
 unfold addR;split
 ·rename_i h;exact put_blR_in N x h
 ·rename_i h;exact put_blR N x h
theorem NamesI.step {L N:List R2} (h:NamesI L N)(x:R2):NamesI (L++[x]) (addR N x):=by
 refine⟨fun y=>by rw[addR_mem,h.mem,List.mem_append,List.mem_singleton],?_,?_⟩
 ·have:=addR_len N x;have:=h.le;simp;omega
 ·unfold addR;split
  ·rename_i hx
   have h1:=h.le;have h2:=(h.mem x).1 hx;rw[List.length_append,List.nodup_append];simp only[List.length_cons,List.length_nil];constructor
   ·omega
   ·rintro⟨_,_,h3⟩;exact absurd rfl (h3 x h2 x (by simp))
  ·rename_i hx
   have h2:¬ x∈L:=fun h3=>hx ((h.mem x).2 h3);rw[List.length_append,List.length_append,List.nodup_append];simp only[List.length_cons,List.length_nil];constructor
   ·intro h3;refine⟨h.eq.1 (by omega),by simp,fun a ha b hb=>?_⟩;obtain rfl:=List.mem_singleton.1 hb;exact fun e=>h2 (e▸ha)
   ·rintro⟨h3,_,_⟩;have:=h.eq.2 h3;omega
theorem NamesI.lt {L N:List R2} (h:NamesI L N):N.length<L.length↔¬ L.Nodup:=by
 rw[<- h.eq];have:=h.le;omega
theorem refs_mem {ts:List TyS} {p:R2 × RT}:p∈refsOf ts↔∃ t∈ts,∃ r∈t.rels,p=(⟨t.name,r.1⟩,r.2):=by
 unfold refsOf relsOf;rw[List.mem_flatMap];constructor
 ·rintro⟨t,ht,hp⟩;obtain⟨r,hr,rfl⟩:=List.mem_map.1 hp;exact⟨t,ht,r,hr,rfl⟩
 ·rintro⟨t,ht,r,hr,rfl⟩;exact⟨t,ht,List.mem_map.2 ⟨r,hr,rfl⟩⟩
theorem uniq_eq {ts:List TyS} (h:uniqOk ts=true) {t u:TyS} (ht:t∈ts)(hu:u∈ts)(he:t.name=u.name):t=u:=by
 obtain⟨i,hi,rfl⟩:=List.getElem_of_mem ht;obtain⟨j,hj,rfl⟩:=List.getElem_of_mem hu;rcases Nat.lt_trichotomy i j with h1 | h1 | h1
 ·exact absurd he ((uniq_at h hj).1 i hi hj h1)
 ·subst h1;rfl
 ·exact absurd he.symm ((uniq_at h hi).1 j hj hi h1)
theorem look_has {ts:List TyS} (h:uniqOk ts=true) {t:TyS} (ht:t∈ts)(a:ByteArray):(lookA (refsOf ts) ⟨t.name,a⟩).isSome=hasT t a:=by
 cases hl:lookA (refsOf ts) ⟨t.name,a⟩ with
 | none =>
  have h1:=look_none_iff.1 hl;symm
  show hasT t a=false
  unfold hasT;rw[List.any_eq_false];intro r hr he;have he:r.1=a:=of_decide_eq_true he;exact h1 _ (refs_mem.2 ⟨t,ht,r,hr,rfl⟩) (by rw[he])
 | some x =>
  obtain⟨u,hu,r,hr,e⟩:=refs_mem.1 (look_mem hl);injection e with e1 e2
  injection e1 with e3 e4
  obtain rfl:=uniq_eq h ht hu e3;symm
  show hasT t a=true
  unfold hasT;exact List.any_eq_true.2 ⟨r,hr,decide_eq_true e4.symm⟩
theorem where_any (ts:List TyS)(b:ByteArray):decide (0<(whereP (refsOf ts) b).length)=anyT ts b:=by
 rw[Bool.eq_iff_iff,decide_eq_true_eq];unfold whereP anyT;rw[List.length_map,List.any_eq_true];constructor
 ·intro h;obtain⟨x,hx⟩:=List.exists_mem_of_length_pos h;rw[List.mem_filter,decide_eq_true_eq]at hx;obtain⟨u,hu,r,hr,rfl⟩:=refs_mem.1 hx.1;exact⟨u,hu,List.any_eq_true.2 ⟨r,hr,decide_eq_true hx.2⟩⟩
 ·rintro⟨u,hu,h⟩;obtain⟨r,hr,he⟩:=List.any_eq_true.1 h;exact List.length_pos_of_mem (List.mem_filter.2 ⟨refs_mem.2 ⟨u,hu,r,hr,rfl⟩,he⟩)
theorem textOk_leaf {k:Int} {a b:ByteArray} {ps:List RT} {d:Nat} (h:(RT.mk k a b ps).textOk d=true)(hk:k=2\/k=3):ps=[]:=by
 rw[RT.textOk]at h;rcases hk with rfl | rfl
 ·simp only[Int.reduceEq,if_false,if_true,Bool.and_eq_true,decide_eq_true_eq]at h;exact List.eq_nil_of_length_eq_zero h.2
 ·simp only[Int.reduceEq,if_false,if_true,Bool.and_eq_true,decide_eq_true_eq]at h;exact List.eq_nil_of_length_eq_zero h.2
theorem textOk_parts {k:Int} {a b:ByteArray} {ps:List RT} {d:Nat} (h:(RT.mk k a b ps).textOk d=true):∀ p∈ps,∃ d',p.textOk d'=true:=by
 intro p hp;by_cases h4:k=4\/k=5
 ·have hn:k≠1/\k≠2/\k≠3:=by omega
  rw[RT.textOk,if_neg hn.1,if_neg hn.2.1,if_neg hn.2.2,if_pos h4,textL_eq,Bool.and_eq_true]at h;have h1:=List.all_eq_true.1 h.2 p hp;unfold goodP at h1;rw[Bool.and_eq_true]at h1;exact⟨_,h1.2⟩
 ·exfalso
  have hnil:ps=[]:=by
   rw[RT.textOk]at h;by_cases k1:k=1
   ·subst k1;simp only[if_true,Bool.and_eq_true,decide_eq_true_eq]at h;exact List.eq_nil_of_length_eq_zero h.2
   ·by_cases k2:k=2
    ·subst k2;simp only[Int.reduceEq,if_false,if_true,Bool.and_eq_true,decide_eq_true_eq]at h;exact List.eq_nil_of_length_eq_zero h.2
    ·by_cases k3:k=3
     ·subst k3;simp only[Int.reduceEq,if_false,if_true,Bool.and_eq_true,decide_eq_true_eq]at h;exact List.eq_nil_of_length_eq_zero h.2
     ·rw[if_neg k1,if_neg k2,if_neg k3,if_neg h4]at h;cases h
  rw[hnil]at hp;cases hp
theorem named_eq2 {ts:List TyS} (h:uniqOk ts=true) {t:TyS} (ht:t∈ts)(r:RT):∀ d,r.textOk d=true->r.pnamed (refsOf ts) t.name=r.named ts t:=by
 induction r using RT.ind with
 | h r ih =>
  intro d hd;obtain⟨k,a,b,ps⟩:=r;dsimp only[RT.ps]at ih;rw[RT.pnamed,RT.named,pnamedL_eq,namedL_eq];unfold headOk;by_cases k2:k=2
  ·subst k2;obtain rfl:=textOk_leaf hd (.inl rfl);rw[if_pos rfl,look_has h ht];simp
  ·by_cases k3:k=3
   ·subst k3;obtain rfl:=textOk_leaf hd (.inr rfl);rw[if_neg k2,if_pos rfl,look_has h ht,where_any];simp
   ·rw[if_neg k2,if_neg k3];have e2:(k == 2)=false:=by rw[beq_eq_false_iff_ne];exact k2
    have e3:(k == 3)=false:=by rw[beq_eq_false_iff_ne];exact k3
    rw[e2,e3];simp only[Bool.false_and,Bool.or_false,Bool.not_false,Bool.true_and];rw[Bool.eq_iff_iff,List.all_eq_true,List.all_eq_true];constructor <;> intro hall p hp
    ·obtain⟨d',hd'⟩:=textOk_parts hd p hp;rw[<- ih p hp d' hd'];exact hall p hp
    ·obtain⟨d',hd'⟩:=textOk_parts hd p hp;rw[ih p hp d' hd'];exact hall p hp
theorem rel_text {ts:List TyS} (hp:printOk ts=true) {t:TyS} (ht:t∈ts) {r:ByteArray × RT} (hr:r∈t.rels):r.2.textOk 0=true:=by
 have h1:=List.all_eq_true.1 hp t ht;unfold tyOk at h1;rw[Bool.and_eq_true]at h1;have h2:=List.all_eq_true.1 h1.2 r hr;unfold relOk at h2;simp only[Bool.and_eq_true]at h2;exact h2.1.1
theorem names_all {ts:List TyS} (hp:printOk ts=true)(hu:uniqOk ts=true):(∀ x∈refsOf ts,x.2.pnamed (refsOf ts) x.1.t=true)↔namesOk ts=true:=by
 unfold namesOk;rw[List.all_eq_true];constructor
 ·intro h t ht;rw[List.all_eq_true];intro r hr;rw[<- named_eq2 hu ht r.2 0 (rel_text hp ht hr)];exact h _ (refs_mem.2 ⟨t,ht,r,hr,rfl⟩)
 ·intro h x hx;obtain⟨t,ht,r,hr,rfl⟩:=refs_mem.1 hx;dsimp only;rw[named_eq2 hu ht r.2 0 (rel_text hp ht hr)];exact List.all_eq_true.1 (h t ht) r hr
end Go.Proofs.YtlhaghoajpglaaaGreat
namespace Go.Proofs.YtlhaghoajpglaaaGreat
open Go Go.RowKit
inductive NT where
 | mk (k:Int) (p:P3) (subs:List P3) (ps:List NT)
def NT.k:NT->Int | .mk k _ _ _=>k
def NT.p:NT->P3 | .mk _ p _ _=>p
def NT.subs:NT->List P3 | .mk _ _ s _=>s
def NT.ps:NT->List NT | .mk _ _ _ ps=>ps
mutual
def NT.sz:NT->Nat | .mk _ _ _ ps=>1+nszL ps
def nszL:List NT->Nat | []=>0 | r::rs=>r.sz+nszL rs
end
theorem nszL_mem {p:NT}:∀ {ps:List NT},p∈ps->p.sz<=nszL ps
 | r::rs,h=>by
  rw[nszL];rcases List.mem_cons.1 h with rfl | h
  ·omega
  ·have:=nszL_mem h;omega
theorem NT.sz_eq (r:NT):r.sz=1+nszL r.ps:=by
 obtain⟨k,p,s,ps⟩:=r;rw[NT.sz];rfl
theorem NT.sz_lt {r p:NT} (h:p∈r.ps):p.sz<r.sz:=by
 have:=nszL_mem h;rw[r.sz_eq];omega
theorem NT.ind {Q:NT->Prop} (h:∀ r,(∀ p∈r.ps,Q p)->Q r)(r:NT):Q r:=by
 generalize hn:r.sz=n;induction n using Nat.strongRecOn generalizing r with
 | ind n ih=>exact h r fun p hp=>ih p.sz (by have:=NT.sz_lt hp;omega) p rfl
theorem nszL_append (a b:List NT):nszL (a++b)=nszL a+nszL b:=by
 induction a with
 | nil=>simp[nszL]
 | cons x a ih=>rw[List.cons_append,nszL,nszL,ih];omega
theorem nszL_one (x:NT):nszL [x]=x.sz:=by rw[nszL,nszL];omega
theorem nszL_take {l:List NT} {i:Nat} (hi:i<l.length):nszL (l.take (i+1))=nszL (l.take i)+l[i].sz:=by
 rw[List.take_succ_eq_append_getElem hi,nszL_append,nszL_one]
theorem nszL_le (l:List NT)(i:Nat):nszL (l.take i)<=nszL l:=by
 have:=nszL_append (l.take i) (l.drop i);rw[List.take_append_drop]at this;omega
theorem nszL_many:∀ l:List NT,l.length<=nszL l
 | []=>by simp[nszL]
 | r::l=>by
  have:=nszL_many l;have h:=r.sz_eq;rw[nszL,List.length_cons];omega
mutual
def NT.cuts:NT->List P3 | .mk k p _ ps=>(if k=0 then [p]else [])++cutsL ps
def cutsL:List NT->List P3 | [] => [] | r::rs=>r.cuts++cutsL rs
end
theorem NT.cuts_eq (r:NT):r.cuts=(if r.k=0 then [r.p]else [])++cutsL r.ps:=by
 obtain⟨k,p,s,ps⟩:=r;rw[NT.cuts];rfl
def headE (T:List Tup)(f:P3->NT)(p:P3)(k:Int)(a b:ByteArray):List NT :=
 if k=2 then [f ⟨p.t,p.i,a⟩]else if k=3 then(viaOf b (subsOf T ⟨p.t,p.i,a⟩)).map f else []
mutual
def ruleE (T:List Tup)(f:P3->NT)(p:P3):RT->NT
 | .mk k a b ps => .mk k p (if k=1 then subsOf T p else []) (headE T f p k a b++rulesE T f p ps)
def rulesE (T:List Tup)(f:P3->NT)(p:P3):List RT->List NT
 | [] => []
 | r::rs=>ruleE T f p r::rulesE T f p rs
end
theorem rulesE_map (T:List Tup)(f:P3->NT)(p:P3):∀ l:List RT,rulesE T f p l=l.map (ruleE T f p)
 | []=>by rw[rulesE];rfl
 | r::l=>by rw[rulesE,rulesE_map T f p l,List.map_cons]
theorem ruleE_mk (T:List Tup)(f:P3->NT)(p:P3)(k:Int)(a b:ByteArray)(ps:List RT):ruleE T f p (.mk k a b ps) = .mk k p (if k=1 then subsOf T p else []) (headE T f p k a b++ps.map (ruleE T f p)):=by rw[ruleE,rulesE_map]
def treeE (ts:List TyS)(T:List Tup)(shut:List R2):Nat->P3->NT
 | 0,p => .mk 0 p [] []
 | d+1,p=>match ruleOf ts shut p with
  | some r=>ruleE T (treeE ts T shut d) p r
  | none => .mk 4 p [] []
theorem NT.sz_pos (r:NT):1<=r.sz:=by rw[r.sz_eq];omega
/-! A deeper tree. -/
mutual
def holdN (X:P3->Prop)(s:P3):NT->Prop
 | .mk k p subs ps=>if k=0 then X p else if k=5 then allNN X s ps else anyNN X s ps\/(k=1/\(s∈subs\/∃ q∈setsOf subs,X q))
def anyNN (X:P3->Prop)(s:P3):List NT->Prop | []=>False | r::rs=>holdN X s r\/anyNN X s rs
def allNN (X:P3->Prop)(s:P3):List NT->Prop | []=>True | r::rs=>holdN X s r/\allNN X s rs
end
theorem anyNN_eq (X:P3->Prop)(s:P3):∀ l,anyNN X s l↔∃ r∈l,holdN X s r
 | []=>by rw[anyNN];simp
 | r::rs=>by rw[anyNN,anyNN_eq X s rs];simp
theorem allNN_eq (X:P3->Prop)(s:P3):∀ l,allNN X s l↔∀ r∈l,holdN X s r
 | []=>by rw[allNN];simp
 | r::rs=>by rw[allNN,allNN_eq X s rs];simp
theorem holdN_eq (X:P3->Prop)(s:P3)(n:NT):holdN X s n↔if n.k=0 then X n.p else if n.k=5 then ∀ r∈n.ps,holdN X s r else(∃ r∈n.ps,holdN X s r)\/(n.k=1/\(s∈n.subs\/∃ q∈setsOf n.subs,X q)):=by
 obtain⟨k,p,subs,ps⟩:=n;rw[holdN,anyNN_eq,allNN_eq];rfl
theorem holdT_some {ts:List TyS} {T:List Tup} {shut:List R2} {s p:P3} (r:RT):holdT T s (Den ts T shut s) p r->∃ n,holdT T s (DenN ts T shut s n) p r:=by
 induction r using RT.ind with
 | h r ih =>
  intro h;rw[holdT_eq]at h;simp only[holdT_eq T s _ p r];split at h
  ·next k1 =>
   simp only[if_pos k1];rcases h with h | ⟨q,hq,n,h⟩
   ·exact⟨0,.inl h⟩
   ·exact⟨n,.inr ⟨q,hq,h⟩⟩
  ·next k1 =>
   simp only[if_neg k1];split at h
   ·next k2 =>
    simp only[if_pos k2];exact h
   ·next k2 =>
    simp only[if_neg k2];split at h
    ·next k3 =>
     simp only[if_pos k3];obtain⟨q,hq,n,h⟩:=h;exact⟨n,q,hq,h⟩
    ·next k3 =>
     simp only[if_neg k3];split at h
     ·next k4 =>
      simp only[if_pos k4];obtain⟨x,hx,h⟩:=h;obtain⟨n,h⟩:=ih x hx h;exact⟨n,x,hx,h⟩
     ·next k4 =>
      simp only[if_neg k4];split at h
      ·next k5 =>
       simp only[if_pos k5]
       have:∀ l:List RT,(∀ x∈l,x∈r.ps)->∃ n,∀ x∈l,holdT T s (DenN ts T shut s n) p x:=by
        intro l;induction l with
        | nil=>intro _;exact⟨0,fun x hx=>by cases hx⟩
        | cons x l ihl =>
         intro hl;obtain⟨n,hn⟩:=ihl fun y hy=>hl y (List.mem_cons_of_mem _ hy);obtain⟨m,hm⟩:=ih x (hl x List.mem_cons_self) (h x (hl x List.mem_cons_self));refine⟨n+m,fun y hy=>?_⟩;rcases List.mem_cons.1 hy with rfl | hy
         ·exact holdT_mono (fun _ h=>h) s (fun q hq=>hq.le (by omega)) p _ hm
         ·exact holdT_mono (fun _ h=>h) s (fun q hq=>hq.le (by omega)) p _ (hn y hy)
       exact this r.ps fun _ h=>h
      ·exact h.elim
theorem Den.iff {ts:List TyS} {T:List Tup} {shut:List R2} {s p:P3}:Den ts T shut s p↔∃ r,ruleOf ts shut p=some r/\holdT T s (Den ts T shut s) p r:=by
 constructor
 ·rintro⟨n,h⟩;induction n with
  | zero=>exact h.elim
  | succ n ih =>
   rcases h with h | ⟨r,hr,h⟩
   ·exact ih h
   ·exact⟨r,hr,holdT_mono (fun _ h=>h) s (fun q hq=>⟨n,hq⟩) p r h⟩
 ·rintro⟨r,hr,h⟩;obtain⟨n,h⟩:=holdT_some r h;exact⟨n+1,.inr ⟨r,hr,h⟩⟩
theorem ruleE_hold {T:List Tup} {f:P3->NT} {X:P3->Prop} {s:P3} (h:∀ q,holdN X s (f q)↔X q)(p:P3)(r:RT):∀ d,r.textOk d=true->(holdN X s (ruleE T f p r)↔holdT T s X p r):=by
 induction r using RT.ind with
 | h r ih =>
  intro d hd
  have hps:∀ x∈r.ps,(holdN X s (ruleE T f p x)↔holdT T s X p x):=fun x hx=>by
   obtain⟨k,a,b,ps⟩:=r;obtain⟨d',hd'⟩:=textOk_parts hd x hx;exact ih x hx d' hd'
  obtain⟨k,a,b,ps⟩:=r;rw[RT.textOk]at hd;rw[ruleE,holdN,anyNN_eq,allNN_eq,rulesE_map,holdT_mk];simp only[RT.ps]at hps
  have k0:k≠0:=fun e=>by
   rw[if_neg (by omega),if_neg (by omega),if_neg (by omega),if_neg (by omega)]at hd;cases hd
  rw[if_neg k0];by_cases k1:k=1
  ·subst k1;rw[if_pos rfl]at hd;simp only[Bool.and_eq_true,decide_eq_true_eq]at hd;obtain rfl:ps=[]:=List.length_eq_zero_iff.1 hd.2;simp[headE]
  ·rw[if_neg k1]at hd;simp only[k1,false_and,or_false];by_cases k2:k=2
   ·subst k2;rw[if_pos rfl]at hd;simp only[Bool.and_eq_true,decide_eq_true_eq]at hd;obtain rfl:ps=[]:=List.length_eq_zero_iff.1 hd.2;simp[headE,h]
   ·rw[if_neg k2]at hd;simp only[if_neg k2];by_cases k3:k=3
    ·subst k3;rw[if_pos rfl]at hd;simp only[Bool.and_eq_true,decide_eq_true_eq]at hd;obtain rfl:ps=[]:=List.length_eq_zero_iff.1 hd.2;simp[headE];exact⟨fun⟨_,⟨q,hq,e⟩,hr⟩=>⟨q,hq,(h q).1 (e▸hr)⟩,fun⟨q,hq,hr⟩=>⟨_,⟨q,hq,rfl⟩,(h q).2 hr⟩⟩
    ·rw[if_neg k3]at hd;simp only[if_neg k3];have hh:headE T f p k a b=[]:=by unfold headE;rw[if_neg k2,if_neg k3]
     rw[hh,List.nil_append];by_cases k4:k=4
     ·subst k4;simp;exact⟨fun⟨_,⟨x,hx,e⟩,h⟩=>⟨x,hx,(hps x hx).1 (e▸h)⟩,fun⟨x,hx,h⟩=>⟨_,⟨x,hx,rfl⟩,(hps x hx).2 h⟩⟩
     ·by_cases k5:k=5
      ·subst k5;simp;exact⟨fun h x hx=>(hps x hx).1 (h x hx),fun h x hx=>(hps x hx).2 (h x hx)⟩
      ·rw[if_neg (by omega)]at hd;cases hd
theorem ruleOf_mem {ts:List TyS} {shut:List R2} {p:P3} {r:RT} (h:ruleOf ts shut p=some r):((⟨p.t,p.r⟩:R2),r)∈refsOf ts:=by
 unfold ruleOf at h;split at h
 ·cases h
 ·exact look_mem h
theorem treeE_hold {ts:List TyS} {T:List Tup} {shut:List R2} {s:P3} (ht:∀ p∈refsOf ts,p.2.textOk 0=true):∀ (d:Nat)(p:P3),holdN (Den ts T shut s) s (treeE ts T shut d p)↔Den ts T shut s p
 | 0,p=>by rw[treeE,holdN_eq];simp[NT.k,NT.p]
 | d+1,p=>by
  rw[treeE,Den.iff];cases hr:ruleOf ts shut p with
  | none=>rw[holdN_eq];simp[NT.k,NT.ps]
  | some r =>
   simp only[Option.some.injEq,exists_eq_left'];exact ruleE_hold (treeE_hold ht d) p r 0 (ht _ (ruleOf_mem hr))
def ic (l:List Int):List Value:=l.map fun n => .int .i64 n
theorem ic_append (a b:List Int):ic (a++b)=ic a++ic b:=by simp[ic]
theorem ic_length (a:List Int):(ic a).length=a.length:=by simp[ic]
theorem intsT:ElemT Tryz.prog 107 3 1 8:=ElemT.mk' Tryz.underlying107 (show _=some (some (.int .i64 0),1,8)by kernel_rfl) rfl (by decide)
theorem Sl.ints {S:Nat->Prop} {w:World} {v:Value} {l:List Int} (h:Sl S w 1 v (ic l)):∃ ao c,v = .slice ao l.length c/\l.length<=c/\c<=9223372036854775807/\∀ j,(hj:j<l.length)->∃ b off,ao=some ⟨b,off,none⟩/\S b/\w.cell? ⟨b,off+j,none⟩=some (.int .i64 l[j]):=by
 obtain⟨ao,n,c,rfl,h1,h2,h3,h4,h5⟩:=h;rw[ic_length,Nat.mul_one]at h1;subst h1;refine⟨ao,c,rfl,h2,by have e:maxLen=9223372036854775807:=rfl;omega,fun j hj=>?_⟩;obtain⟨b,off,rfl,hb,hc⟩:=h5 (by intro e;have:=congrArg List.length e;rw[ic_length,List.length_nil]at this;omega);exact⟨b,off,rfl,hb,hc j _ (by simp[ic,hj])⟩
def pC (p:P3):List Value:=[.string p.t,.string p.i,.string p.r]
def pV (p:P3):Value := .agg #[.string p.t,.string p.i,.string p.r]
theorem pC_length (p:P3):(pC p).length=3:=rfl
theorem pC_one (p:P3):∀ u∈pC p,u.oneCell'=true:=by
 intro u hu;simp only[pC,List.mem_cons,List.not_mem_nil,or_false]at hu;rcases hu with rfl | rfl | rfl <;> rfl
def pcs (l:List P3):List Value:=l.flatMap pC
def ordP (a b:P3):Int:=orL [cmpS a.t b.t,cmpS a.i b.i,cmpS a.r b.r]
def ltP (a b:P3):Bool:=if a.t=b.t then(if a.i=b.i then ltS a.r b.r else ltS a.i b.i)else ltS a.t b.t
theorem lt_ordP (a b:P3):Go.Proofs.ltOf ordP a b=ltP a b:=by
 unfold Go.Proofs.ltOf ordP ltP;rw[Bool.eq_iff_iff,decide_eq_true_eq];simp only[orL,cmpS_zero];by_cases h1:a.t=b.t
 ·simp only[h1,if_true];by_cases h2:a.i=b.i
  ·simp only[h2,if_true];by_cases h3:a.r=b.r
   ·simp[h3,ltS_irr]
   ·simp only[h3,if_false];exact cmpS_neg _ _
  ·simp only[h2,if_false];exact cmpS_neg _ _
 ·simp only[h1,if_false];exact cmpS_neg _ _
theorem ltP_irr (a:P3):ltP a a=false:=by simp[ltP,ltS_irr]
theorem ltP_total {a b:P3} (h:ltP a b=false)(hne:a≠b):ltP b a=true:=by
 unfold ltP at *;by_cases h1:a.t=b.t
 ·rw[if_pos h1]at h;rw[if_pos h1.symm];by_cases h2:a.i=b.i
  ·rw[if_pos h2]at h;rw[if_pos h2.symm];refine ltS_total h fun h3=>hne ?_;cases a;cases b;simp_all
  ·rw[if_neg h2]at h;rw[if_neg (Ne.symm h2)];exact ltS_total h h2
 ·rw[if_neg h1]at h;rw[if_neg (Ne.symm h1)];exact ltS_total h h1
theorem ltP_trans {a b c:P3} (h:ltP a b=true)(k:ltP b c=true):ltP a c=true:=by
 unfold ltP at *;by_cases h1:a.t=b.t <;> by_cases k1:b.t=c.t
 ·rw[if_pos h1]at h;rw[if_pos k1]at k;rw[if_pos (h1.trans k1)];by_cases h2:a.i=b.i <;> by_cases k2:b.i=c.i
  ·rw[if_pos h2]at h;rw[if_pos k2]at k;rw[if_pos (h2.trans k2)];exact ltS_trans h k
  ·rw[if_neg k2]at k;rw[if_neg (h2▸k2),h2];exact k
  ·rw[if_neg h2]at h;rw[if_neg (k2▸h2),<- k2];exact h
  ·rw[if_neg h2]at h;rw[if_neg k2]at k;have:=ltS_trans h k;rw[if_neg (ltS_ne this)];exact this
 ·rw[if_neg k1]at k;rw[if_neg (h1▸k1),h1];exact k
 ·rw[if_neg h1]at h;rw[if_neg (k1▸h1),<- k1];exact h
 ·rw[if_neg h1]at h;rw[if_neg k1]at k;have:=ltS_trans h k;rw[if_neg (ltS_ne this)];exact this
theorem swoP:Go.Sort.SWO (Go.Proofs.ltOf ordP) where
 irrefl x:=by rw[lt_ordP];exact ltP_irr x
 trans x y z h k:=by rw[lt_ordP]at *;exact ltP_trans h k
 ntrans x y z h k:=by
  rw[lt_ordP]at *;cases hxz:ltP x z with
  | false=>rfl
  | true =>
   by_cases e1:x=y
   ·subst e1;rw[hxz]at k;cases k
   ·have h1:=ltP_total h e1;have h2:=ltP_trans h1 hxz;rw[h2]at k;cases k
def UpP (l:List P3):Prop:=l.Pairwise fun a b=>ltP a b=true
theorem up_sorted {l:List P3} (hs:l.Pairwise fun a b=>Go.Proofs.ltOf ordP b a=false)(hn:l.Nodup):UpP l:=by
 refine List.pairwise_iff_getElem.2 fun i j hi hj hij=>?_;have h1:=List.pairwise_iff_getElem.1 hs i j hi hj hij;have h2:=List.pairwise_iff_getElem.1 hn i j hi hj hij;rw[lt_ordP]at h1;exact ltP_total h1 (Ne.symm h2)
abbrev FV3:=Value × Value × Value
def fC (x:FT × FV3):List Value:=[.int .i64 x.1.k,x.2.1,x.2.2.1,x.2.2.2]
theorem fC_length (x:FT × FV3):(fC x).length=4:=rfl
mutual
def FTAt (S:Nat->Prop)(w:World):FT->FV3->Prop
 | .mk _ subs refs ps,v=>Sl S w 3 v.1 (pcs subs)/\Sl S w 1 v.2.1 (ic refs)/\∃ l:List FV3,FTsAt S w ps l/\Sl S w 4 v.2.2 ((ps.zip l).flatMap fC)
def FTsAt (S:Nat->Prop)(w:World):List FT->List FV3->Prop
 | [],l=>l=[]
 | r::rs,l=>∃ pv l',l=pv::l'/\FTAt S w r pv/\FTsAt S w rs l'
end
theorem ftsAt_zip {S:Nat->Prop} {w:World}:∀ {ps:List FT} {l:List FV3},FTsAt S w ps l->(ps.zip l).map (·.1)=ps/\∀ x∈ps.zip l,FTAt S w x.1 x.2
 | [],l,h=>by rw[FTsAt]at h;subst h;simp
 | r::rs,l,h=>by
  rw[FTsAt]at h;obtain⟨pv,l',rfl,h1,h2⟩:=h;obtain⟨h3,h4⟩:=ftsAt_zip h2;refine⟨by rw[List.zip_cons_cons,List.map_cons,h3],fun x hx=>?_⟩;rw[List.zip_cons_cons]at hx;rcases List.mem_cons.1 hx with rfl | hx
  ·exact h1
  ·exact h4 x hx
theorem ftsAt_of {S:Nat->Prop} {w:World}:∀ {q:List (FT × FV3)},(∀ x∈q,FTAt S w x.1 x.2)->FTsAt S w (q.map (·.1)) (q.map (·.2))
 | [],_=>by rw[List.map_nil,List.map_nil,FTsAt]
 | x::q,h=>by
  rw[List.map_cons,List.map_cons,FTsAt];exact⟨x.2,_,rfl,h x List.mem_cons_self,ftsAt_of fun y hy=>h y (List.mem_cons_of_mem _ hy)⟩
theorem FTAt.iff {S:Nat->Prop} {w:World} (r:FT)(v:FV3):FTAt S w r v↔Sl S w 3 v.1 (pcs r.subs)/\Sl S w 1 v.2.1 (ic r.refs)/\∃ q:List (FT × FV3),q.map (·.1)=r.ps/\(∀ x∈q,FTAt S w x.1 x.2)/\Sl S w 4 v.2.2 (q.flatMap fC):=by
 obtain⟨k,subs,refs,ps⟩:=r;rw[FTAt];constructor
 ·rintro⟨h1,h2,l,h3,h4⟩;exact⟨h1,h2,_,(ftsAt_zip h3).1,(ftsAt_zip h3).2,h4⟩
 ·rintro⟨h1,h2,q,h3,h4,h5⟩;refine⟨h1,h2,q.map (·.2),?_,?_⟩
  ·have:=ftsAt_of h4;rwa[h3]at this
  ·rw[show ps=q.map (·.1)from h3.symm,zip_maps];exact h5
theorem FTAt.same {S:Nat->Prop} {w w':World} {r:FT} {v:FV3} (h:FTAt S w r v)(hs:Same S w w'):FTAt S w' r v:=by
 induction r using FT.ind generalizing v with
 | h r ih =>
  obtain⟨h1,h2,q,h3,h4,h5⟩:=(FTAt.iff r v).1 h;exact(FTAt.iff r v).2 ⟨h1.same hs,h2.same hs,q,h3,fun x hx=>ih x.1 (by rw[<- h3];exact List.mem_map_of_mem hx) (h4 x hx),h5.same hs⟩
theorem FTAt.mono {S S':Nat->Prop} {w:World} {r:FT} {v:FV3} (h:FTAt S w r v)(hs:∀ b,S b->S' b):FTAt S' w r v:=by
 induction r using FT.ind generalizing v with
 | h r ih =>
  obtain⟨h1,h2,q,h3,h4,h5⟩:=(FTAt.iff r v).1 h;exact(FTAt.iff r v).2 ⟨h1.mono hs,h2.mono hs,q,h3,fun x hx=>ih x.1 (by rw[<- h3];exact List.mem_map_of_mem hx) (h4 x hx),h5.mono hs⟩
theorem FTAt.up {w w':World} {r:FT} {v:FV3} (h:FTAt (· < w.heap.size) w r v)(hb:Below w.heap.size w w'):FTAt (· < w'.heap.size) w' r v :=
 (h.same (Same.below hb)).mono fun _ h=>Nat.lt_of_lt_of_le h hb.size
theorem FTAt.rows {S:Nat->Prop} {w:World} {r:FT} {v:FV3} (h:FTAt S w r v) :
  ∃ ao c,v.2.2 = .slice ao r.ps.length c/\r.ps.length<=c/\c<=9223372036854775807/\∀ i (hi:i<r.ps.length),∃ b off pv,ao=some ⟨b,off,none⟩/\S b /\
   w.cell? ⟨b,off+i*4,none⟩=some (.int .i64 r.ps[i].k)/\w.cell? ⟨b,off+i*4+1,none⟩=some pv.1/\w.cell? ⟨b,off+i*4+2,none⟩=some pv.2.1/\w.cell? ⟨b,off+i*4+3,none⟩=some pv.2.2/\FTAt S w r.ps[i] pv:=by
 obtain⟨-,-,q,h1,h2,h3⟩:=(FTAt.iff r v).1 h;have hlen:q.length=r.ps.length:=by rw[<- h1,List.length_map]
 obtain⟨ao,c,e,h4,h5,hc⟩:=Sl.rows fC_length (by decide) h3;refine⟨ao,c,by rw[e,hlen],by omega,h5,fun i hi=>?_⟩;have hiq:i<q.length:=by omega
 obtain⟨b,off,rfl,hb,hc⟩:=hc (by omega);have hget:r.ps[i]=q[i].1:=by simp only[<- h1,List.getElem_map]
 rw[hget];exact⟨b,off,q[i].2,rfl,hb,hc i hiq 0 _ rfl,hc i hiq 1 _ rfl,hc i hiq 2 _ rfl,hc i hiq 3 _ rfl,h2 _ (List.getElem_mem hiq)⟩
def fV (r:FT)(v:FV3):Value := .agg #[.int .i64 r.k,v.1,v.2.1,v.2.2]
end Go.Proofs.YtlhaghoajpglaaaGreat
namespace Go.Proofs.YtlhaghoajpglaaaGreat
open Go Go.RowKit Go.Maps
abbrev RwV (ι:Type):=List ι × Value
def rwV {ι:Type} (x:RwV ι):Value:=x.2
def optR {ι:Type} (l:List ι):Option (List ι):=if l.isEmpty then none else some l
structure Elm (ι:Type) where
 e:TypeId
 sz:Nat
 enc:ι->List Value
 len:∀ x,(enc x).length=sz
 pos:0<sz
section
variable {κ ι : Type}
structure MRows (E:Elm ι)(w:World)(B:Nat)(lw:List (κ × RwV ι)):Prop where
 rows:∀ x∈lw,x.2.1≠[]/\Own w B E.e E.sz x.2.2 (x.2.1.flatMap E.enc)
 apart:∀ x∈lw,∀ y∈lw,x.1≠y.1->x.2.2.ownBlock≠y.2.2.ownBlock
theorem flat_len (E:Elm ι):∀ l:List ι,(l.flatMap E.enc).length=l.length*E.sz
 | []=>by simp
 | x::l=>by rw[List.flatMap_cons,List.length_append,E.len,flat_len E l,List.length_cons,Nat.add_mul];omega
theorem own_someE {w:World} {B:Nat} {E:Elm ι} {v:Value} {l:List ι} (h:Own w B E.e E.sz v (l.flatMap E.enc))(hl:l≠[]):∃ g,v.ownBlock=some g:=by
 obtain⟨n,h⟩:=h;rcases h.2 with⟨rfl,rfl⟩ | ⟨g',cap,cur,rfl,hbg,hg',r⟩
 ·have:=h.1;rw[flat_len,Nat.zero_mul]at this;rcases Nat.mul_eq_zero.1 this with h0 | h0
  ·exact absurd (List.eq_nil_of_length_eq_zero h0) hl
  ·have:=E.pos;omega
 ·exact⟨g',rfl⟩
theorem MRows.keep {E:Elm ι} {w w':World} {B:Nat} {lw:List (κ × RwV ι)} (h:MRows E w B lw)(hs:∀ x,B<=x->x<w.heap.size->(∃ cs,w.heap[x]?=some (.cells cs E.e (0,0)))->w'.heap[x]?=w.heap[x]?):MRows E w' B lw :=
 ⟨fun x hx=>⟨(h.rows x hx).1,(h.rows x hx).2.keepB fun g hg=>by
  have ho:=(h.rows x hx).2;have hb:=ho.block g hg
  exact hs g hb.1 hb.2 (by
   obtain⟨n,ho⟩:=ho;rcases ho.2 with⟨h0,_⟩ | ⟨g',cap,cur,h0,hbg,hg',r⟩
   ·rw[h0]at hg;cases hg
   ·rw[h0]at hg;injection hg with hg
    subst hg;exact⟨_,hg'⟩)⟩,h.apart⟩
variable [DecidableEq κ]
def MR (P:Program)(k:TypeId)(kv:κ->Value)(E:Elm ι)(w:World)(B b:Nat)(f:κ->List ι):Prop :=
 ∃ lw:List (κ × RwV ι),Mp P k kv rwV w b lw/\MRows E w B lw/\∀ n,(lookA lw n).map (·.1)=optR (f n)
variable {P : Program} {k : TypeId} {kv : κ -> Value} {E : Elm ι} {w w' : World} {B b : Nat} {f : κ -> List ι}
theorem MR.made (w:World)(B:Nat):MR P k kv E (w.alloc (.map #[] 0)) B w.heap.size (fun _:κ=>([]:List ι)) :=
 ⟨[],Mp.made w,⟨(fun x hx=>by cases hx),fun x hx=>by cases hx⟩,fun n=>rfl⟩
theorem MR.lt (h:MR P k kv E w B b f):b<w.heap.size:=by
 obtain⟨lw,h1,_⟩:=h;exact h1.lt
theorem MR.notCells (h:MR P k kv E w B b f):∀ cs t fr,w.heap[b]?≠some (.cells cs t fr):=by
 obtain⟨lw,h1,_⟩:=h;exact h1.notCells
theorem MR.keep (h:MR P k kv E w B b f)(hb:w'.heap[b]?=w.heap[b]?)(hs:∀ x,B<=x->x<w.heap.size->(∃ cs,w.heap[x]?=some (.cells cs E.e (0,0)))->w'.heap[x]?=w.heap[x]?):MR P k kv E w' B b f:=by
 obtain⟨lw,h1,h2,h3⟩:=h;exact⟨lw,h1.same hb,h2.keep hs,h3⟩
theorem MR.up (h:MR P k kv E w B b f)(hb:Below w.heap.size w w'):MR P k kv E w' B b f:=h.keep (hb.block _ h.lt) fun x _ hx _=>hb.block x hx
theorem MR.turned (h:MR P k kv E w B b f) {c:Nat} (ht:Turned w w' c)(hb:b≠c)(hc:∀ cs t fr,w.heap[c]?≠some (.cells cs t fr)):MR P k kv E w' B b f :=
 h.keep (ht.kept.block _ hb) fun x _ _ hx=>ht.kept.block x fun e=>by
  obtain⟨cs,hx⟩:=hx;exact hc _ _ _ (e▸hx)
theorem MR.congr (h:MR P k kv E w B b f) {g:κ->List ι} (e:∀ n,f n=g n):MR P k kv E w B b g:=by
 have:f=g:=funext e;rw[<- this];exact h
theorem MR.look (h:MR P k kv E w B b f)(K:Keyed P k)(inj:∀ a b,kv a=kv b->a=b) {t e:TypeId} (ht:P.underlying t=some (.map k e))(hz:(zeroValue e).run P w = .ok (.slice none 0 0) w) {n:κ} (hn:∃ q,keyOf P k (kv n)=some q) :
  ∃ v,(Instr.lookup t (.map (some b)) (kv n) false).run P w = .ok v w/\Own w B E.e E.sz v ((f n).flatMap E.enc)/\∃ lw:List (κ × RwV ι),Mp P k kv rwV w b lw/\MRows E w B lw/\(∀ n,(lookA lw n).map (·.1)=optR (f n))/\(lookA lw n=some (f n,v)\/(lookA lw n=none/\f n=[]/\v = .slice none 0 0)):=by
 obtain⟨lw,h1,h2,h3⟩:=h;have hl:=h3 n;have hrun:=h1.look K inj ht hz false hn;cases hlk:lookA lw n with
 | none =>
  rw[hlk]at hl hrun
  have hw:f n=[]:=by
   unfold optR at hl;split at hl
   ·next h=>exact List.isEmpty_iff.1 h
   ·cases hl
  exact⟨.slice none 0 0,hrun,by rw[hw];exact Own.nil _ _ _ _,lw,h1,h2,h3,.inr ⟨hlk,hw,rfl⟩⟩
 | some x =>
  rw[hlk]at hl hrun
  have hw:x.1=f n:=by
   unfold optR at hl;split at hl
   ·cases hl
   ·injection hl
  have hm:=h2.rows _ (look_mem hlk);refine⟨x.2,hrun,by rw[<- hw];exact hm.2,lw,h1,h2,h3,.inl ?_⟩;rw[hlk,<- hw]
end
theorem pointK:Keyed Tryz.prog 32:=Keyed.of_law (deep_law_laid laidOut (m:=3) (by decide) (of_decide_eq_true (by kernel_rfl)) (by kernel_rfl) (by kernel_rfl))
theorem subK:Keyed Tryz.prog 33:=Keyed.of_law (deep_law_laid laidOut (m:=3) (by decide) (of_decide_eq_true (by kernel_rfl)) (by kernel_rfl) (by kernel_rfl))
theorem pV_inj (a b:P3)(h:pV a=pV b):a=b:=by
 obtain⟨a1,a2,a3⟩:=a;obtain⟨b1,b2,b3⟩:=b;simpa [pV] using h
theorem point_lits (d:Nat)(p:P3)(h:p.Ok):Tryz.prog.keyLits (d+1+1+1) 32 [.string p.t,.string p.i,.string p.r]=some [.string p.t.data.toList,.string p.i.data.toList,.string p.r.data.toList]:=by
 unfold Program.keyLits;rw[Tryz.underlying32];have e1:=obj_lits d p.t p.i h.1 h.2.1;have e2:=str_lits (d+1) p.r h.2.2;have e3:Tryz.prog.cellsOf 32=3:=by kernel_rfl
 have e4:Tryz.prog.cellsOf 9=1:=by kernel_rfl
 have e5:Tryz.prog.cellsOf 30=2:=by kernel_rfl
 simp[e1,e2,e3,e4,e5]
theorem point_key (p:P3)(h:p.Ok):∃ q,keyOf Tryz.prog 32 (pV p)=some q:=by
 obtain⟨d,hd⟩:=types_many;have e:=point_lits (d+1) p h;have e2:(Tryz.prog.keyType 32&&(pV p).formed Tryz.prog 32)=true:=by kernel_rfl
 have hs:Tryz.prog.types.size+1=d+1+1+1+1:=by omega
 unfold keyOf;rw[Tryz.underlying32];dsimp only;rw[if_pos e2,hs];rw[show(pV p).cells.toList=[.string p.t,.string p.i,.string p.r]from rfl,e];exact⟨_,rfl⟩
theorem sub_lits (d:Nat)(p:P3)(h:p.Ok):Tryz.prog.keyLits (d+1+1+1) 33 [.string p.t,.string p.i,.string p.r]=some [.string p.t.data.toList,.string p.i.data.toList,.string p.r.data.toList]:=by
 unfold Program.keyLits;rw[Tryz.underlying33];have e1:=obj_lits d p.t p.i h.1 h.2.1;have e2:=str_lits (d+1) p.r h.2.2;have e3:Tryz.prog.cellsOf 33=3:=by kernel_rfl
 have e4:Tryz.prog.cellsOf 9=1:=by kernel_rfl
 have e5:Tryz.prog.cellsOf 30=2:=by kernel_rfl
 simp[e1,e2,e3,e4,e5]
theorem sub_key (p:P3)(h:p.Ok):∃ q,keyOf Tryz.prog 33 (pV p)=some q:=by
 obtain⟨d,hd⟩:=types_many;have e:=sub_lits (d+1) p h;have e2:(Tryz.prog.keyType 33&&(pV p).formed Tryz.prog 33)=true:=by kernel_rfl
 have hs:Tryz.prog.types.size+1=d+1+1+1+1:=by omega
 unfold keyOf;rw[Tryz.underlying33];dsimp only;rw[if_pos e2,hs];rw[show(pV p).cells.toList=[.string p.t,.string p.i,.string p.r]from rfl,e];exact⟨_,rfl⟩
def NoPt (w:World)(b:Nat):Prop:=∀ cs,w.heap[b]?≠some (.cells cs 32 (0,0))
def FS (lo:Nat)(w:World)(b:Nat):Prop:=lo<=b/\b<w.heap.size/\NoPt w b
abbrev PKept (M:Nat->Prop) (B:Nat) (w w':World):Prop:=QKept 32 M B w w'
section
variable {w w' w'' : World} {M : Nat -> Prop} {B lo : Nat}
theorem FS.same (h:PKept M B w w')(hM:∀ x,M x->x<lo):Same (FS lo w) w w':=fun b hb=>h.block b (.inr ⟨fun hm=>by have:=hM b hm;have:=hb.1;omega,hb.2.1,hb.2.2⟩)
theorem FS.keep (h:PKept M B w w')(hM:∀ x,M x->x<lo) {b:Nat} (hb:FS lo w b):FS lo w' b :=
 ⟨hb.1,Nat.lt_of_lt_of_le hb.2.1 h.size,fun cs=>by rw[FS.same h hM b hb];exact hb.2.2 cs⟩
theorem FS.mono {lo':Nat} (h:lo<=lo') {b:Nat} (hb:FS lo' w b):FS lo w b:=⟨Nat.le_trans h hb.1,hb.2⟩
theorem FS.ext (h:Ext w w') {b:Nat} (hb:FS lo w b):FS lo w' b:=⟨hb.1,Nat.lt_of_lt_of_le hb.2.1 h.size,fun cs=>by rw[h.block b hb.2.1];exact hb.2.2 cs⟩
theorem Own.fs {e:TypeId} {sz:Nat} {v:Value} {xs:List Value} (h:Own w lo e sz v xs)(he:e≠32):Sl (FS lo w) w sz v xs:=by
 obtain⟨n,ho⟩:=h;refine ownsRow_sl ho _ fun g hg=>⟨(ho.lt g hg).1,(ho.lt g hg).2,fun cs hc=>?_⟩;obtain⟨cur,h2⟩:=(show Own w lo e sz v xs from⟨n,ho⟩).typed hg;rw[hc]at h2;injection h2 with h2
 injection h2 with _ h2 _
 exact he h2.symm
end
structure FRow (lo:Nat)(w:World)(q:List (FT × FV3))(pv:Value):Prop where
 row:Own w lo 128 4 pv (q.flatMap fC)
 parts:∀ x∈q,FTAt (fun b=>FS lo w b/\pv.ownBlock≠some b) w x.1 x.2
section
variable {w w' w1 w3 : World} {M : Nat -> Prop} {B lo n0 : Nat} {q : List (FT × FV3)} {pv v' : Value} {x : FT × FV3}
theorem FRow.nil (lo:Nat)(w:World):FRow lo w [] (.slice none 0 0):=⟨Own.nil _ _ _ _,fun x hx=>by cases hx⟩
theorem FRow.keep (h:FRow lo w q pv)(hk:PKept M B w w')(hM:∀ x,M x->x<lo):FRow lo w' q pv :=
 ⟨h.row.keepOwn fun g hg=>FS.same hk hM g ⟨(h.row.block g hg).1,(h.row.block g hg).2,fun cs hc=>by
   obtain⟨cur,h2⟩:=h.row.typed hg;rw[hc]at h2;injection h2 with h2
   injection h2 with _ h2 _
   exact absurd h2 (by decide)⟩,
  fun x hx=>((h.parts x hx).same fun b hb=>FS.same hk hM b hb.1).mono fun b hb=>⟨FS.keep hk hM hb.1,hb.2⟩⟩
theorem FRow.ext (h:FRow lo w q pv)(hx:Ext w w'):FRow lo w' q pv :=
 ⟨h.row.below hx,fun x hm=>((h.parts x hm).same fun b hb=>hx.block b hb.1.2.1).mono fun _b hb=>⟨hb.1.ext hx,hb.2⟩⟩
theorem FRow.above (h:FRow lo w q pv)(hs:∀ b,lo<=b->b<w.heap.size->w'.heap[b]?=w.heap[b]?)(hz:w.heap.size<=w'.heap.size):FRow lo w' q pv :=
 ⟨h.row.keepOwn fun g hg=>hs g (h.row.block g hg).1 (h.row.block g hg).2,fun x hx=>((h.parts x hx).same fun b hb=>hs b hb.1.1 hb.1.2.1).mono fun b hb=>⟨⟨hb.1.1,Nat.lt_of_lt_of_le hb.1.2.1 hz,fun cs=>by rw[hs b hb.1.1 hb.1.2.1];exact hb.1.2.2 cs⟩,hb.2⟩⟩
theorem FRow.add (h:FRow lo w1 q pv)(hk:∀ b,b<w1.heap.size->pv.ownBlock≠some b->w3.heap[b]?=w1.heap[b]?)(hz:w1.heap.size<=w3.heap.size)(ho:Own w3 lo 128 4 v' (q.flatMap fC++fC x))
  (hb:∀ g,v'.ownBlock=some g->pv.ownBlock=some g\/w1.heap.size<=g) (hx:FTAt (FS n0 w1) w1 x.1 x.2) (hn0:lo<=n0) (hpv:∀ g,pv.ownBlock=some g->g<n0):FRow lo w3 (q++[x]) v':=by
 have hm:∀ b,(FS lo w1 b/\pv.ownBlock≠some b)->(FS lo w3 b/\v'.ownBlock≠some b):=fun b hb'=>⟨⟨hb'.1.1,Nat.lt_of_lt_of_le hb'.1.2.1 hz,fun cs=>by rw[hk b hb'.1.2.1 hb'.2];exact hb'.1.2.2 cs⟩,fun e=>by
  rcases hb b e with e2 | e2
  ·exact hb'.2 e2
  ·have:=hb'.1.2.1;omega⟩
 refine⟨by rw[List.flatMap_append];simpa using ho,fun y hy=>?_⟩;rcases List.mem_append.1 hy with hy | hy
 ·exact((h.parts y hy).same fun b hb'=>hk b hb'.1.2.1 hb'.2).mono hm
 ·obtain rfl:=List.mem_singleton.1 hy;have h2:∀ b,FS n0 w1 b->(FS lo w1 b/\pv.ownBlock≠some b):=fun b hb'=>⟨hb'.mono hn0,fun e=>by have:=hpv b e;have:=hb'.1;omega⟩;exact((hx.mono h2).same fun b hb'=>hk b hb'.1.2.1 hb'.2).mono hm
theorem FRow.forms (h:FRow lo w q pv):∃ p:List (FT × FV3),p.map (·.1)=q.map (·.1)/\(∀ x∈p,FTAt (FS lo w) w x.1 x.2)/\Sl (FS lo w) w 4 pv (p.flatMap fC) :=
 ⟨q,rfl,fun x hx=>(h.parts x hx).mono fun b hb=>hb.1,h.row.fs (by decide)⟩
end
def GrAt (S:Nat->Prop)(w:World)(ps:List P3)(fs:List FT)(pv fv:Value):Prop :=
 Sl S w 3 pv (pcs ps)/\∃ q:List (FT × FV3),q.map (·.1)=fs/\(∀ x∈q,FTAt S w x.1 x.2)/\Sl S w 4 fv (q.flatMap fC)
theorem GrAt.same {S:Nat->Prop} {w w':World} {ps:List P3} {fs:List FT} {pv fv:Value} (h:GrAt S w ps fs pv fv)(hs:Same S w w'):GrAt S w' ps fs pv fv:=by
 obtain⟨h1,q,h2,h3,h4⟩:=h;exact⟨h1.same hs,q,h2,fun x hx=>(h3 x hx).same hs,h4.same hs⟩
theorem GrAt.mono {S T:Nat->Prop} {w:World} {ps:List P3} {fs:List FT} {pv fv:Value} (h:GrAt S w ps fs pv fv)(hs:∀ b,S b->T b):GrAt T w ps fs pv fv:=by
 obtain⟨h1,q,h2,h3,h4⟩:=h;exact⟨h1.mono hs,q,h2,fun x hx=>(h3 x hx).mono hs,h4.mono hs⟩
theorem GrAt.up {w w':World} {ps:List P3} {fs:List FT} {pv fv:Value} (h:GrAt (· < w.heap.size) w ps fs pv fv)(hb:Below w.heap.size w w'):GrAt (· < w'.heap.size) w' ps fs pv fv :=
 (h.same (Same.below hb)).mono fun _ h=>Nat.lt_of_lt_of_le h hb.size
theorem numD_new (ps:List P3)(p:P3)(h:p∉ps):numD ps p=ps.length:=by
 unfold numD;rw[List.findIdx_eq_length];intro x hx;simp only[decide_eq_false_iff_not];exact fun e=>h (e▸hx)
section
variable {w w' : World} {wp am B : Nat} {tv fi sm pv fv pv' fv' : Value} {ps : List P3} {p : P3}
end
abbrev KX (wp am:Nat) (w:World) (pv:Value) (x:Nat):Prop:=x<w.heap.size/\x≠wp/\x≠am/\pv.ownBlock≠some x
structure Fine (wp am:Nat)(w w':World)(pv pv':Value):Prop where
 kept:Kept (KX wp am w pv) w w'
 wher:∀ g,pv'.ownBlock=some g->pv.ownBlock=some g\/w.heap.size<=g
section
variable {w w' w'' w0 : World} {wp am B B' : Nat} {tv fi sm pv fv pv' pv'' v : Value} {ps : List P3} {e : TypeId} {sz : Nat} {xs : List Value}
theorem Fine.of (wp am:Nat)(pv:Value)(h:Ext w w'):Fine wp am w w' pv pv:=⟨Below.kept h fun _ hx=>hx.1,fun _ hg => .inl hg⟩
theorem Fine.trans (h:Fine wp am w w' pv pv')(k:Fine wp am w' w'' pv' pv''):Fine wp am w w'' pv pv'' :=
 ⟨h.kept.trans (k.kept.mono fun x (hx:KX wp am w pv x)=>⟨Nat.lt_of_lt_of_le hx.1 h.kept.size,hx.2.1,hx.2.2.1,fun e=>by
   rcases h.wher x e with e2 | e2
   ·exact hx.2.2.2 e2
   ·have:=hx.1;omega⟩),
  fun g hg=>by
   rcases k.wher g hg with e | e
   ·exact h.wher g e
   ·exact .inr (Nat.le_trans h.kept.size e)⟩
theorem Fine.size (h:Fine wp am w w' pv pv'):w.heap.size<=w'.heap.size:=h.kept.size
theorem Fine.set (h:Fine wp am w0 w pv pv') {x i:Nat} (hx:w0.heap.size<=x)(u:Value):Fine wp am w0 (w.setCell ⟨x,i,none⟩ u) pv pv' :=
 ⟨h.kept.set (fun hk=>by have h1:x<w0.heap.size:=hk.1;omega) _,h.wher⟩
theorem Own.setBox (ho:Own w B' e sz v xs) {x i:Nat} {cs:Array Value} {e2:TypeId} (hx:Blk w x cs e2)(he:e≠e2)(u:Value):Own (w.setCell ⟨x,i,none⟩ u) B' e sz v xs:=ho.keepOwn fun g hg=>Below.heap_setCell _ _ _ _ fun e3=>by
 obtain⟨c,hc⟩:=ho.typed hg;rw[show g=x from e3,show w.heap[x]?=_ from hx]at hc;injection hc with hc
 injection hc with _ hc _
 exact he hc.symm
end
abbrev NV2:=Value × Value
def nC (x:NT × NV2):List Value:=[.int .i64 x.1.k,.string x.1.p.t,.string x.1.p.i,.string x.1.p.r,x.2.1,x.2.2]
theorem nC_length (x:NT × NV2):(nC x).length=6:=rfl
theorem nCs_length (q:List (NT × NV2)):(q.flatMap nC).length=q.length*6:=by rw[flat_length nC_length]
mutual
def NtAt (S:Nat->Prop)(w:World):NT->NV2->Prop
 | .mk _ _ subs ps,v=>Sl S w 3 v.1 (pcs subs)/\∃ l:List NV2,NtsAt S w ps l/\Sl S w 6 v.2 ((ps.zip l).flatMap nC)
def NtsAt (S:Nat->Prop)(w:World):List NT->List NV2->Prop
 | [],l=>l=[]
 | r::rs,l=>∃ pv l',l=pv::l'/\NtAt S w r pv/\NtsAt S w rs l'
end
theorem ntsAt_zip {S:Nat->Prop} {w:World}:∀ {ps:List NT} {l:List NV2},NtsAt S w ps l->(ps.zip l).map (·.1)=ps/\∀ x∈ps.zip l,NtAt S w x.1 x.2
 | [],l,h=>by rw[NtsAt]at h;subst h;simp
 | r::rs,l,h=>by
  rw[NtsAt]at h;obtain⟨pv,l',rfl,h1,h2⟩:=h;obtain⟨h3,h4⟩:=ntsAt_zip h2;refine⟨by rw[List.zip_cons_cons,List.map_cons,h3],fun x hx=>?_⟩;rw[List.zip_cons_cons]at hx;rcases List.mem_cons.1 hx with rfl | hx
  ·exact h1
  ·exact h4 x hx
theorem ntsAt_of {S:Nat->Prop} {w:World}:∀ {q:List (NT × NV2)},(∀ x∈q,NtAt S w x.1 x.2)->NtsAt S w (q.map (·.1)) (q.map (·.2))
 | [],_=>by rw[List.map_nil,List.map_nil,NtsAt]
 | x::q,h=>by
  rw[List.map_cons,List.map_cons,NtsAt];exact⟨x.2,_,rfl,h x List.mem_cons_self,ntsAt_of fun y hy=>h y (List.mem_cons_of_mem _ hy)⟩
theorem NtAt.iff {S:Nat->Prop} {w:World} (r:NT)(v:NV2):NtAt S w r v↔Sl S w 3 v.1 (pcs r.subs)/\∃ q:List (NT × NV2),q.map (·.1)=r.ps/\(∀ x∈q,NtAt S w x.1 x.2)/\Sl S w 6 v.2 (q.flatMap nC):=by
 obtain⟨k,p,subs,ps⟩:=r;rw[NtAt];constructor
 ·rintro⟨h1,l,h3,h4⟩;exact⟨h1,_,(ntsAt_zip h3).1,(ntsAt_zip h3).2,h4⟩
 ·rintro⟨h1,q,h3,h4,h5⟩;refine⟨h1,q.map (·.2),?_,?_⟩
  ·have:=ntsAt_of h4;rwa[h3]at this
  ·rw[show ps=q.map (·.1)from h3.symm,zip_maps];exact h5
theorem NtAt.same {S:Nat->Prop} {w w':World} {r:NT} {v:NV2} (h:NtAt S w r v)(hs:Same S w w'):NtAt S w' r v:=by
 induction r using NT.ind generalizing v with
 | h r ih =>
  obtain⟨h1,q,h3,h4,h5⟩:=(NtAt.iff r v).1 h;exact(NtAt.iff r v).2 ⟨h1.same hs,q,h3,fun x hx=>ih x.1 (by rw[<- h3];exact List.mem_map_of_mem hx) (h4 x hx),h5.same hs⟩
theorem NtAt.mono {S S':Nat->Prop} {w:World} {r:NT} {v:NV2} (h:NtAt S w r v)(hs:∀ b,S b->S' b):NtAt S' w r v:=by
 induction r using NT.ind generalizing v with
 | h r ih =>
  obtain⟨h1,q,h3,h4,h5⟩:=(NtAt.iff r v).1 h;exact(NtAt.iff r v).2 ⟨h1.mono hs,q,h3,fun x hx=>ih x.1 (by rw[<- h3];exact List.mem_map_of_mem hx) (h4 x hx),h5.mono hs⟩
theorem NtAt.up {w w':World} {r:NT} {v:NV2} (h:NtAt (· < w.heap.size) w r v)(hb:Below w.heap.size w w'):NtAt (· < w'.heap.size) w' r v :=
 (h.same (Same.below hb)).mono fun _ h=>Nat.lt_of_lt_of_le h hb.size
theorem NtAt.rows {S:Nat->Prop} {w:World} {r:NT} {v:NV2} (h:NtAt S w r v) :
  ∃ ao c,v.2 = .slice ao r.ps.length c/\r.ps.length<=c/\c<=9223372036854775807/\∀ i (hi:i<r.ps.length),∃ b off pv,ao=some ⟨b,off,none⟩/\S b /\
   w.cell? ⟨b,off+i*6,none⟩=some (.int .i64 r.ps[i].k)/\w.cell? ⟨b,off+i*6+1,none⟩=some (.string r.ps[i].p.t)/\w.cell? ⟨b,off+i*6+2,none⟩=some (.string r.ps[i].p.i)/\w.cell? ⟨b,off+i*6+3,none⟩=some (.string r.ps[i].p.r)/\w.cell? ⟨b,off+i*6+4,none⟩=some pv.1/\w.cell? ⟨b,off+i*6+5,none⟩=some pv.2/\NtAt S w r.ps[i] pv:=by
 obtain⟨-,q,h1,h2,h3⟩:=(NtAt.iff r v).1 h;have hlen:q.length=r.ps.length:=by rw[<- h1,List.length_map]
 obtain⟨ao,c,e,h4,h5,hc⟩:=Sl.rows nC_length (by decide) h3;refine⟨ao,c,by rw[e,hlen],by omega,h5,fun i hi=>?_⟩;have hiq:i<q.length:=by omega
 obtain⟨b,off,rfl,hb,hc⟩:=hc (by omega);have hget:r.ps[i]=q[i].1:=by simp only[<- h1,List.getElem_map]
 rw[hget];exact⟨b,off,q[i].2,rfl,hb,hc i hiq 0 _ rfl,hc i hiq 1 _ rfl,hc i hiq 2 _ rfl,hc i hiq 3 _ rfl,hc i hiq 4 _ rfl,hc i hiq 5 _ rfl,h2 _ (List.getElem_mem hiq)⟩
def nV2 (r:NT)(v:NV2):Value := .agg #[.int .i64 r.k,.string r.p.t,.string r.p.i,.string r.p.r,v.1,v.2]
theorem nodesT:ElemT Tryz.prog 43 45 6 104:=ElemT.mk' Tryz.underlying43 (show _=some (some (.agg #[.int .i64 0,.string ByteArray.empty,.string ByteArray.empty,.string ByteArray.empty,.slice none 0 0,.slice none 0 0]),6,104)by kernel_rfl) rfl (by decide)
def NoOb (w:World)(b:Nat):Prop:=∀ cs,w.heap[b]?≠some (.cells cs 30 (0,0))
abbrev NS (lo:Nat) (w:World) (b:Nat):Prop:=lo<=b/\b<w.heap.size/\NoOb w b
theorem NS.keep {lo lo' b:Nat} {w w':World} (hb:NS lo w b)(h:w'.heap[b]?=w.heap[b]?)(hl:lo'<=lo)(hz:w.heap.size<=w'.heap.size):NS lo' w' b:=⟨Nat.le_trans hl hb.1,Nat.lt_of_lt_of_le hb.2.1 hz,fun cs=>by rw[h];exact hb.2.2 cs⟩
theorem Own.ns {w:World} {lo sz g:Nat} {e:TypeId} {v:Value} {xs:List Value} (h:Own w lo e sz v xs)(he:e≠30)(hg:v.ownBlock=some g):NS lo w g:=⟨(h.block g hg).1,(h.block g hg).2,fun cs hc=>by
 obtain⟨cur,h2⟩:=h.typed hg;rw[hc]at h2;injection h2 with h2
 injection h2 with _ h2 _
 exact he h2.symm⟩
structure NRow (lo:Nat)(w:World)(q:List (NT × NV2))(pv:Value):Prop where
 row:Own w lo 45 6 pv (q.flatMap nC)
 parts:∀ x∈q,NtAt (fun b=>NS lo w b/\pv.ownBlock≠some b) w x.1 x.2
section
variable {w w' w1 w3 : World} {lo n0 : Nat} {q : List (NT × NV2)} {pv v' : Value} {x : NT × NV2}
theorem NRow.nil (lo:Nat)(w:World):NRow lo w [] (.slice none 0 0):=⟨Own.nil _ _ _ _,fun x hx=>by cases hx⟩
theorem NRow.above (h:NRow lo w q pv)(hs:∀ b,NS lo w b->w'.heap[b]?=w.heap[b]?)(hz:w.heap.size<=w'.heap.size):NRow lo w' q pv :=
 ⟨h.row.keepOwn fun g hg=>hs g (h.row.ns (by decide) hg),fun x hx=>((h.parts x hx).same fun b hb=>hs b hb.1).mono fun b hb=>⟨hb.1.keep (hs b hb.1) (Nat.le_refl _) hz,hb.2⟩⟩
theorem NRow.ext (h:NRow lo w q pv)(hx:Ext w w'):NRow lo w' q pv:=h.above (fun b hb=>hx.block b hb.2.1) hx.size
theorem NRow.add (h:NRow lo w1 q pv)(hk:∀ b,NS lo w1 b->pv.ownBlock≠some b->w3.heap[b]?=w1.heap[b]?)(hz:w1.heap.size<=w3.heap.size)(ho:Own w3 lo 45 6 v' (q.flatMap nC++nC x))
  (hb:∀ g,v'.ownBlock=some g->pv.ownBlock=some g\/w1.heap.size<=g) (hx:NtAt (NS n0 w1) w1 x.1 x.2) (hn0:lo<=n0) (hpv:∀ g,pv.ownBlock=some g->g<n0):NRow lo w3 (q++[x]) v':=by
 have hm:∀ b,(NS lo w1 b/\pv.ownBlock≠some b)->(NS lo w3 b/\v'.ownBlock≠some b):=fun b hb'=>⟨hb'.1.keep (hk b hb'.1 hb'.2) (Nat.le_refl _) hz,fun e=>by
  rcases hb b e with e2 | e2
  ·exact hb'.2 e2
  ·have:=hb'.1.2.1;omega⟩
 refine⟨by rw[List.flatMap_append];simpa using ho,fun y hy=>?_⟩;rcases List.mem_append.1 hy with hy | hy
 ·exact((h.parts y hy).same fun b hb'=>hk b hb'.1 hb'.2).mono hm
 ·obtain rfl:=List.mem_singleton.1 hy;have h2:∀ b,NS n0 w1 b->(NS lo w1 b/\pv.ownBlock≠some b):=fun b hb'=>⟨hb'.keep rfl hn0 (Nat.le_refl _),fun e=>by have:=hpv b e;have:=hb'.1;omega⟩;exact((hx.mono h2).same fun b hb'=>hk b hb'.1 hb'.2).mono hm
theorem NRow.nodes (h:NRow lo w q pv):(∀ x∈q,NtAt (NS lo w) w x.1 x.2)/\Sl (NS lo w) w 6 pv (q.flatMap nC) :=
 ⟨fun x hx=>(h.parts x hx).mono fun b hb=>hb.1,h.row.slFo fun g hg=>h.row.ns (by decide) hg⟩
end
structure NdAt (w:World)(lo x:Nat)(k:Int)(p:P3)(subs:List P3)(q:List (NT × NV2))(sv qv:Value):Prop where
 box:Blk w x #[.int .i64 k,.string p.t,.string p.i,.string p.r,sv,qv] 45
 subs:Own w lo 33 3 sv (pcs subs)
 parts:NRow lo w q qv
section
variable {w w' : World} {lo x : Nat} {k : Int} {p : P3} {subs : List P3} {q : List (NT × NV2)} {sv qv : Value}
theorem NdAt.above (h:NdAt w lo x k p subs q sv qv)(hs:∀ b,NS lo w b->w'.heap[b]?=w.heap[b]?)(hx:w'.heap[x]?=w.heap[x]?)(hz:w.heap.size<=w'.heap.size):NdAt w' lo x k p subs q sv qv :=
 ⟨hx.trans h.box,h.subs.keepOwn fun g hg=>hs g (h.subs.ns (by decide) hg),h.parts.above hs hz⟩
theorem NdAt.ext (h:NdAt w lo x k p subs q sv qv)(hx:Ext w w'):NdAt w' lo x k p subs q sv qv:=⟨h.box.below hx,h.subs.below hx,h.parts.ext hx⟩
theorem NdAt.setSubs {s2:List P3} {sv':Value} (h:NdAt w lo x k p subs q sv qv)(hs:Own w lo 33 3 sv' (pcs s2))(hx:x<lo):NdAt (w.setCell ⟨x,4,none⟩ sv') lo x k p s2 q sv' qv :=
 ⟨h.box.set_to 4 sv' rfl,hs.setBox (x:=x) h.box (by decide) _,NRow.above h.parts (fun b hb=>Below.heap_setCell _ _ _ b (by have:=hb.1;show b≠x;omega)) (by simp)⟩
theorem NdAt.done {r:NT} {lo':Nat} (h:NdAt w lo x k p subs q sv qv)(hr:r = .mk k p subs (q.map (·.1)))(hs:∀ b,NS lo w b->w'.heap[b]?=w.heap[b]?)(hz:w.heap.size<=w'.heap.size)(hl:lo'<=lo):NtAt (NS lo' w') w' r (sv,qv):=by
 have hsame:Same (NS lo w) w w':=hs;have hmono:∀ b,NS lo w b->NS lo' w' b:=fun b hb=>hb.keep (hs b hb) hl hz;refine(NtAt.iff _ _).2 ?_;subst hr;obtain⟨h1,h2⟩:=h.parts.nodes;refine⟨((h.subs.slFo (S:=NS lo w) fun g hg=>h.subs.ns (by decide) hg).same hsame).mono hmono,q,rfl,fun y hy=>?_,(h2.same hsame).mono hmono⟩;exact((h1 y hy).same hsame).mono hmono
end
def tuC (t:Tup):List Value:=[.string t.o.t,.string t.o.i,.string t.o.r,.string t.s.t,.string t.s.i,.string t.s.r]
def tuCs (l:List Tup):List Value:=l.flatMap tuC
theorem tuC_length (t:Tup):(tuC t).length=6:=rfl
theorem tuCs_length (l:List Tup):(tuCs l).length=l.length*6:=flat_length tuC_length l
theorem tuCs_append (a b:List Tup):tuCs (a++b)=tuCs a++tuCs b:=by unfold tuCs;rw[List.flatMap_append]
theorem tupT:ElemT Tryz.prog 27 67 6 96:=ElemT.mk' Tryz.underlying27 (show _=some (some (.agg #[.string ByteArray.empty,.string ByteArray.empty,.string ByteArray.empty,.string ByteArray.empty,.string ByteArray.empty,.string ByteArray.empty]),6,96)by kernel_rfl) rfl (by decide)
theorem tups_rows {S:Nat->Prop} {w:World} {v:Value} {l:List Tup} (h:Sl S w 6 v (tuCs l)) :
  ∃ ao c,v = .slice ao l.length c/\l.length<=c/\c<=9223372036854775807/\∀ i (hi:i<l.length),∃ b off,ao=some ⟨b,off,none⟩/\S b/\w.cell? ⟨b,off+i*6,none⟩=some (.string l[i].o.t)/\w.cell? ⟨b,off+i*6+1,none⟩=some (.string l[i].o.i)/\w.cell? ⟨b,off+i*6+2,none⟩=some (.string l[i].o.r) /\
   w.cell? ⟨b,off+i*6+3,none⟩=some (.string l[i].s.t)/\w.cell? ⟨b,off+i*6+4,none⟩=some (.string l[i].s.i)/\w.cell? ⟨b,off+i*6+5,none⟩=some (.string l[i].s.r):=by
 obtain⟨ao,c,rfl,h1,h2,hc⟩:=Sl.rows tuC_length (by decide) (show Sl S w 6 v (l.flatMap tuC)from h);refine⟨ao,c,rfl,h1,h2,fun i hi=>?_⟩;obtain⟨b,off,rfl,hb,hc⟩:=hc (by omega);exact⟨b,off,rfl,hb,hc i hi 0 _ rfl,hc i hi 1 _ rfl,hc i hi 2 _ rfl,hc i hi 3 _ rfl,hc i hi 4 _ rfl,hc i hi 5 _ rfl⟩
theorem tup_neq (a b:Tup)(W:World):(binOp BinOp.neq 67 (tV a) (tV b)).run Tryz.prog W = .ok (.bool (decide (a≠b))) W:=by
 obtain⟨⟨a1,a2,a3⟩,⟨a4,a5,a6⟩⟩:=a;obtain⟨⟨b1,b2,b3⟩,⟨b4,b5,b6⟩⟩:=b;unfold tV;dsimp only;go_simp;simp only[ba_toList];by_cases h1:a1=b1
 ·by_cases h2:a2=b2
  ·by_cases h3:a3=b3
   ·by_cases h4:a4=b4
    ·by_cases h5:a5=b5
     ·by_cases h6:a6=b6 <;> simp[h1,h2,h3,h4,h5,h6]
     ·simp[h1,h2,h3,h4,h5]
    ·simp[h1,h2,h3,h4]
   ·simp[h1,h2,h3]
  ·simp[h1,h2]
 ·simp[h1]
end Go.Proofs.YtlhaghoajpglaaaGreat
namespace Go.Proofs.YtlhaghoajpglaaaGreat
open Go Go.RowKit
attribute [local go_sem] Oper.semAt_some
theorem tu_len (l:List Tup):(tuCs l).length=l.length*6:=tuCs_length l
theorem tu_app (a:List Tup)(b:List Tup):tuCs (a++b)=tuCs a++tuCs b:=tuCs_append a b
theorem tu_sing (x:Tup):tuCs [x]=tuC x:=by simp[tuCs]
theorem cells_litT (w:World)(a b c d e f:Value)(t:TypeId):∀ j u,[a,b,c,d,e,f][j]?=some u->(w.alloc (.cells #[a,b,c,d,e,f] t)).cell? ((⟨w.heap.size,0,none⟩:Addr).add j)=some u:=fun j u hu=>by
 rw[Addr.add_lit,cell_of_row _ w.heap.size (0+j) #[a,b,c,d,e,f] t (0,0) (heap_alloc_new w _),Nat.zero_add];simpa using hu
theorem appT_in (F:Fence)(n:Nat)(h45:F.fn 196)(hro:F.round=none)(hn:2<=n)(g:Nat)(lb:Array Value)(hFg:F.fn g)(eg:∀ args w,(callFunc g args).run Tryz.prog w = .ok (.enter g args) w)
  (S Sp:List Tup->Prop) (N:Nat) (w:World) (hN:N<=137438953472) (hseq:SeqStopsK F (n-1) Tryz.prog g lb (fun x=>#[tV x]) (Below w.heap.size) S Sp N w) :
  CallsIn F n Tryz.prog 196 #[.slice none 0 0,.func (.func g) #[] lb] w fun e w'=>∃ (v':Value) (ss:List Tup),e = .returned v'/\S ss/\Own w' w.heap.size 67 6 v' (tuCs ss)/\Ext w w':=by
 have h1:1<=n:=by omega
 refine callsIn_of_wp_marks Tryz.func196 rfl h45 ?_ hro;simp only[Tryz.ntmps196,List.size_toArray,List.length_cons,List.length_nil,Nat.reduceAdd,Nat.reduceSub,Array.replicate_succ,Array.replicate_zero,List.push_toArray,List.append_toArray,List.nil_append,List.cons_append];gi_wp2
 have bS:=Boxed.new w 27 (.slice none 0 0);have hw0:Below w.heap.size w (w.alloc (.cells #[.slice none 0 0] 27)):=(Below.refl _ w).alloc (Nat.le_refl _) _;have hsz:(w.alloc (.cells #[.slice none 0 0] 27)).heap.size=w.heap.size+1:=by simp
 have hk0:KeepsFrom 0 w (w.alloc (.cells #[.slice none 0 0] 27)):=(KeepsOthers.alloc _ _).from _;obtain⟨W0,hW0⟩:∃ W0,w.alloc (.cells #[.slice none 0 0] 27)=W0:=⟨_,rfl⟩;rw[hW0]at bS hw0 hsz hk0 ⊢;clear hW0
 refine wpIn_rangeFunc_ownH hro h1 (gf:=g) (lb:=lb) rfl hFg eg hseq belowK_t (belowK_b (n₀:=w.heap.size) (by omega)) hw0 (fun _=>rfl)
  (fun pre W=>(∃ v',Boxed W w.heap.size 27 v'/\Own W w.heap.size 67 6 v' (tuCs pre)/\(∀ g,v'.ownBlock=some g->(Value.slice none 0 0).ownBlock=some g\/w.heap.size<=g))/\(Kept (fun b=>b<w.heap.size/\(Value.slice none 0 0).ownBlock≠some b) w W/\KeepsFrom 0 w W))
  (fun _ _ _=>False)
  (OwnFrom.and (own_ownFrom w.heap.size w.heap.size 27 67 6 (fun pre=>tuCs pre) (fun v'=>∀ g,v'.ownBlock=some g->(Value.slice none 0 0).ownBlock=some g\/w.heap.size<=g) _) (OwnFrom.and (ownFrom_kept (fun b hb=>hb.1) (by omega)) (ownFrom_keepsFrom (by omega))))
  (fun _ _ _ _ _ hs _ _=>hs)
  ⟨⟨_,bS,Own.nil _ _ _ _,fun g hg => .inl hg⟩,Below.kept hw0 (fun b hb=>hb.1),hk0⟩
  (fun x a' W=>∃ Bx,w.heap.size<Bx/\Blk W Bx #[.string x.o.t,.string x.o.i,.string x.o.r,.string x.s.t,.string x.s.i,.string x.s.r] 67/\a' = {tmps:=#[.slice none 0 0,.func (.func g) #[] lb,.pointer (some ⟨w.heap.size,0,none⟩),undef,.slice none 0 0,.pointer (some ⟨Bx,0,none⟩),.func (.func g) #[] lb,tV x,undef,undef,undef,undef,undef],defers:=[]})
  (fun x a' _ X Y row hs hg hr=>by obtain⟨Bx,h1,h2,h3⟩:=hs;exact⟨Bx,h1,boxed3_kept h2 hg (fun r e=>(hr r e).2),h3⟩)
  ?assign ?body ?done ?stop
 case assign =>
  rintro l2 pre ⟨⟨xa,xb,xc⟩,⟨xd,xe,xf⟩⟩ W K ⟨⟨v',bS1,hO1,hG1⟩,hB1,hK1⟩ hK;dsimp only[tV];gi_wp2
  refine hK _ _ ((KeepsOthers.alloc _ _).from _) ((Below.refl _ _).alloc hB1.size _) ⟨⟨v',bS1.alloc _,hO1.below ((Below.refl _ _).alloc (Nat.le_refl _) _),hG1⟩,hB1.alloc (fun b hb=>Nat.lt_of_lt_of_le hb.1 hB1.size) _,hK1.trans ((KeepsOthers.alloc _ _).from _)⟩ ⟨W.heap.size,bS1.lt,Blk.made W _ _,rfl⟩
 case body =>
  rintro l2 pre ⟨⟨xa,xb,xc⟩,⟨xd,xe,xf⟩⟩ a' W hl ⟨r,hr⟩ ⟨⟨v',bS1,hO1,hG1⟩,hB1,hK1⟩ ⟨Bx,hBx,bX,rfl⟩ hlt;have cS:=bS1.cell;have cX:=bX.cells;have hwl:=hB1.size;have hpl:(tuCs pre).length=pre.length*6:=tu_len pre;have hbb:(pre.length*6+6)*96<=140737488355328:=by omega
  gi_wp2_with (first
   | (gi_at_builtin;go_loud (
      refine wpListIn_own tupT rfl _ _ rfl rfl (hO1.below ((Below.refl _ _).alloc (Nat.le_refl _) _)) (ad:=⟨W.heap.size,0,none⟩) (m:=1) (c:=1) (news:=[.string xa,.string xb,.string xc,.string xd,.string xe,.string xf]) rfl rfl (cells_litT _ _ _ _ _ _ _ _) (by intro u hu;simp only[List.mem_cons,List.not_mem_nil,or_false]at hu;rcases hu with rfl | rfl | rfl | rfl | rfl | rfl <;> rfl) (by simp only[List.length_cons,List.length_nil];omega) (by simp only[List.length_cons,List.length_nil];rw[hpl];exact hbb) (by simp;omega) ?_;intro v2 w2 hO2 hG2 hg2
      obtain⟨g2,n2,c2,rfl⟩:∃ g2 n2 c2,v2 = .slice (some ⟨g2,0,none⟩) n2 c2:=by
        rcases hO2.shape with⟨_,h⟩ | h
        · exact absurd h (by simp)
        · exact h
      have bS2:=(bS1.alloc (.cells #[.string xa,.string xb,.string xc,.string xd,.string xe,.string xf] 67)).kept hg2 (boxed_notOwn (bS1.alloc _) (by decide) (hO1.below ((Below.refl _ _).alloc (Nat.le_refl _) (.cells #[.string xa,.string xb,.string xc,.string xd,.string xe,.string xf] 67))));have cS2:=bS2.cell;have fS2:=bS2.frozen))
   | gi_in)
  have hKa:KeepsFrom 0 W (W.alloc (.cells #[.string xa,.string xb,.string xc,.string xd,.string xe,.string xf] 67)):=(KeepsOthers.alloc _ _).from _;have hKb:=hKa.trans (keeps_own (hO1.below ((Below.refl _ _).alloc (Nat.le_refl _) (.cells #[.string xa,.string xb,.string xc,.string xd,.string xe,.string xf] 67))) hg2 0);have hKc:KeepsFrom 0 W (w2.setCell ⟨w.heap.size,0,none⟩ (.slice (some ⟨g2,0,none⟩) n2 c2)):=hKb.trans ((KeepsOthers.setCell _ _ _).from _)
  have hlow:Below w.heap.size W (w2.setCell ⟨w.heap.size,0,none⟩ (.slice (some ⟨g2,0,none⟩) n2 c2)):=(((Below.refl _ W).alloc hwl _).grown hg2 (by simp;omega) (fun g hg=>by
   rcases hG1 g hg with h | h
   ·cases h
   ·exact h)).setCell (Nat.le_refl _) _
  refine⟨keeps_up hKc _,hlow,⟨⟨_,bS2.set _,?_,fun g hg=>?_⟩,?_,hK1.trans hKc⟩⟩
  ·have:=hO2.keepOwn (w':=w2.setCell ⟨w.heap.size,0,none⟩ (.slice (some ⟨g2,0,none⟩) n2 c2)) (fun g hg=>Below.heap_setCell _ _ _ g (fun e=>boxed_notOwn bS2 (by decide) hO2 (by rw[hg,e])));rw[tu_app pre,tu_sing];exact this
  ·rcases hG2 g hg with h | h
   ·exact hG1 g h
   ·exact .inr (by have:=hB1.size;simp at h;omega)
  ·have hk2:Kept (fun b=>b<w.heap.size/\(Value.slice none 0 0).ownBlock≠some b) (W.alloc (.cells #[.string xa,.string xb,.string xc,.string xd,.string xe,.string xf] 67)) w2:=⟨hg2.os,hg2.tape,hg2.output,hg2.size,fun b hb=>hg2.block b (by have:=hB1.size;have:=hb.1;simp;omega) (fun e=>by
    rcases hG1 b e.symm with h | h
    ·exact hb.2 h
    ·have:=hb.1;omega)⟩
   exact((hB1.alloc (fun b hb=>Nat.lt_of_lt_of_le hb.1 hB1.size) _).trans hk2).set (a:=⟨w.heap.size,0,none⟩) (fun h=>Nat.lt_irrefl _ h.1) _
 case done =>
  rintro D ys W hD hS ⟨⟨v',bS1,hO1,_⟩,hB1,hK1⟩ hK;have cS:=bS1.cell
  obtain⟨ao',k',c',rfl⟩:∃ ao k c,v' = .slice ao k c:=by
   rcases hO1.shape with⟨rfl,_⟩ | ⟨g,n,c,rfl⟩
   ·exact⟨_,_,_,rfl⟩
   ·exact⟨_,_,_,rfl⟩
  gi_wp2
  refine⟨by simp,.inl ⟨_,_,rfl,run_takeDeferred hK,?_⟩⟩;refine⟨_,results_tmp rfl _ _ _,_,ys,rfl,hS,hO1.put _ hK rfl,⟨hB1.os,hB1.tape,hB1.output,by have:=hB1.size;simpa using this,fun b hb=>(World.putObj_heap_other (fun e=>by omega)).trans (hB1.block b ⟨hb,fun e=>by cases e⟩)⟩⟩
 case stop =>
  rintro D c pre W _ _ h _;exact h.elim
end Go.Proofs.YtlhaghoajpglaaaGreat
