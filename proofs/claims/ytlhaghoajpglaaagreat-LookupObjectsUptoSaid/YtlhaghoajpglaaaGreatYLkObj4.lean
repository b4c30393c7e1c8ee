/- Lemmas for the claim, no condition. -/
import Derived.Shelf.SlSortCmp.NoneTotal
import Derived.Test.YtlhaghoajpglaaaGreatYLkObj3
import Derived.Shelf.SlSortCmp.WholeK
set_option maxRecDepth 100000
set_option maxHeartbeats 2000000
namespace Go.Proofs.YtlhaghoajpglaaaGreat
open Go Go.Maps Go.RowKit Go.Proofs.Tryz
abbrev RwV (ι:Type):=List ι × Value
def rwV {ι:Type}(x:RwV ι):Value:=x.2
def optR {ι:Type}(l:List ι):Option (List ι):=if l.isEmpty then none else some l
structure Elm (ι:Type) where
 e:TypeId
 sz:Nat
 enc:ι->List Value
 len:∀x,(enc x).length=sz
 pos:0<sz
section
variable {κ ι : Type}
structure MRows (E:Elm ι)(w:World)(B:Nat)(lw:List (κ × RwV ι)):Prop where
 rows:∀x∈lw,x.2.1≠[]/\Own w B E.e E.sz x.2.2 (x.2.1.flatMap E.enc)
 apart:∀x∈lw,∀y∈lw,x.1≠y.1->x.2.2.ownBlock≠y.2.2.ownBlock
theorem eQ! (E:Elm ι):∀l:List ι,(l.flatMap E.enc).length=l.length*E.sz
 | []=>by simp
 | x::l=>by rw[y5!,u4!,E.len,eQ! E l,u7!,Nat.add_mul];omega
theorem gQ! {w:World}{B:Nat}{E:Elm ι}{v:Value}{l:List ι}(h:Own w B E.e E.sz v (l.flatMap E.enc))(hl:l≠[]):∃g,v.ownBlock=some g:=by
 obtain⟨n,h⟩:=h;rcases h.2 with⟨rfl,rfl⟩|⟨g',cap,cur,rfl,hbg,hg',r⟩
 ·have:=h.1;rw[eQ!,Nat.zero_mul]at this;rcases Nat.mul_eq_zero.1 this with h0 | h0
  ·exact absurd (x0! h0) hl
  ·have:=E.pos;omega
 ·exact⟨g',rfl⟩
theorem MRows.keep {E:Elm ι}{w w':World}{B:Nat}{lw:List (κ × RwV ι)}(h:MRows E w B lw)(hs:∀x,B<=x->x<w.heap.size->(∃cs,w.heap[x]?=some (.cells cs E.e (0,0)))->w'.heap[x]?=w.heap[x]?):MRows E w' B lw :=
 ⟨fun x hx=>⟨(h.rows x hx).1,(h.rows x hx).2.keepB fun g hg=>by
  have ho:=(h.rows x hx).2;have hb:=ho.block g hg
  exact hs g hb.1 hb.2 (by
   obtain⟨n,ho⟩:=ho;rcases ho.2 with⟨h0,_⟩|⟨g',cap,cur,h0,hbg,hg',r⟩
   ·rw[h0]at hg;cases hg
   ·rw[h0]at hg;injection hg with hg
    subst hg;exact⟨_,hg'⟩)⟩,h.apart⟩
variable [DecidableEq κ]
def MR (P:Program)(k:TypeId)(kv:κ->Value)(E:Elm ι)(w:World)(B b:Nat)(f:κ->List ι):Prop :=
 ∃lw:List (κ × RwV ι),Mp P k kv rwV w b lw/\MRows E w B lw/\∀n,(lookA lw n).map (·.1)=optR (f n)
variable {P : Program} {k : TypeId} {kv : κ -> Value} {E : Elm ι} {w w' : World} {B b : Nat} {f : κ -> List ι}
theorem MR.made (w:World)(B:Nat):MR P k kv E (w.alloc (.map #[] 0)) B w.heap.size (fun _:κ=>([]:List ι)) :=
 ⟨[],Mp.made w,⟨(fun x hx=>by cases hx),fun x hx=>by cases hx⟩,fun n=>rfl⟩
theorem MR.lt (h:MR P k kv E w B b f):b<w.heap.size:=by
 obtain⟨lw,h1,_⟩:=h;exact h1.lt
theorem MR.notCells (h:MR P k kv E w B b f):∀cs t fr,w.heap[b]?≠some (.cells cs t fr):=by
 obtain⟨lw,h1,_⟩:=h;exact h1.notCells
theorem MR.keep (h:MR P k kv E w B b f)(hb:w'.heap[b]?=w.heap[b]?)(hs:∀x,B<=x->x<w.heap.size->(∃cs,w.heap[x]?=some (.cells cs E.e (0,0)))->w'.heap[x]?=w.heap[x]?):MR P k kv E w' B b f:=by
 obtain⟨lw,h1,h2,h3⟩:=h;exact⟨lw,h1.same hb,h2.keep hs,h3⟩
theorem MR.up (h:MR P k kv E w B b f)(hb:Below w.heap.size w w'):MR P k kv E w' B b f:=h.keep (hb.block _ h.lt) fun x _ hx _=>hb.block x hx
theorem MR.turned (h:MR P k kv E w B b f) {c:Nat}(ht:pT! w w' c)(hb:b≠c)(hc:∀cs t fr,w.heap[c]?≠some (.cells cs t fr)):MR P k kv E w' B b f :=
 h.keep (ht.kept.block _ hb) fun x _ _ hx=>ht.kept.block x fun e=>by
  obtain⟨cs,hx⟩:=hx;exact hc _ _ _ (e▸hx)
theorem MR.congr (h:MR P k kv E w B b f) {g:κ->List ι}(e:∀n,f n=g n):MR P k kv E w B b g:=by
 have:f=g:=funext e;rw[<-this];exact h
theorem MR.look (h:MR P k kv E w B b f)(K:Keyed P k)(inj:∀a b,kv a=kv b->a=b) {t e:TypeId}(ht:P.underlying t=some (.map k e))(hz:(zeroValue e).run P w= .ok (.slice none 0 0) w) {n:κ}(hn:∃q,keyOf P k (kv n)=some q) :
  ∃v,(Instr.lookup t (.map (some b)) (kv n) false).run P w= .ok v w/\Own w B E.e E.sz v ((f n).flatMap E.enc)/\∃lw:List (κ × RwV ι),Mp P k kv rwV w b lw/\MRows E w B lw/\(∀n,(lookA lw n).map (·.1)=optR (f n))/\(lookA lw n=some (f n,v)\/(lookA lw n=none/\f n=[]/\v= .slice none 0 0)):=by
 obtain⟨lw,h1,h2,h3⟩:=h;have d:=h3 n;have c:=h1.look K inj ht hz false hn;cases hlk:lookA lw n with
 | none =>
  rw[hlk]at d c
  have g:f n=[]:=by
   unfold optR at d;split at d
   ·next h=>exact List.isEmpty_iff.1 h
   ·cases d
  exact⟨.slice none 0 0,c,by rw[g];exact Own.nil _ _ _ _,lw,h1,h2,h3,.inr ⟨hlk,g,rfl⟩⟩
 | some x =>
  rw[hlk]at d c
  have g:x.1=f n:=by
   unfold optR at d;split at d
   ·cases d
   ·injection d
  have hm:=h2.rows _ (aD! hlk);refine⟨x.2,c,by rw[<-g];exact hm.2,lw,h1,h2,h3,.inl ?_⟩;rw[hlk,<-g]
end
def ltS (a b:ByteArray):Bool:=Op.bytesLess a.toList b.toList
theorem jx! (a b:ByteArray):ltS a b=decide (a.data.toList<b.data.toList):=by
 unfold ltS;rw[u5!,u5!];exact bytesLess_eq _ _
theorem bU! (a:ByteArray):ltS a a=false:=by
 rw[jx!];simp[List.lt_irrefl]
theorem cB! {a b c:ByteArray}(h:ltS a b=true)(k:ltS b c=true):ltS a c=true:=by
 rw[jx!]at *;simp only[u1!]at *;exact List.lt_trans h k
theorem by! {a b:ByteArray}(h:ltS a b=false)(hne:a≠b):ltS b a=true:=by
 rw[jx!]at *;simp only[u1!,decide_eq_false_iff_not]at *;have h1:b.data.toList<=a.data.toList:=List.not_lt.1 h;rcases List.le_iff_lt_or_eq.1 h1 with h2 | h2
 ·exact h2
 ·exact absurd (ByteArray.ext (by rw[<-Array.toList_inj];exact h2.symm)) hne
theorem pJ! {a b:ByteArray}(h:a≠b):(a.data.toList == b.data.toList)=false:=by
 rw[n7!];exact fun e=>h (ByteArray.ext (by rw[<-Array.toList_inj];exact e))
def cmpS (a b:ByteArray):Int:=if ltS a b then -1 else if a=b then 0 else 1
theorem dq! (a b:ByteArray):cmpS a b=0↔a=b:=by
 unfold cmpS;by_cases h:a=b
 ·subst h;simp[bU!]
 ·cases ltS a b <;> simp[h]
theorem da! (a b:ByteArray):cmpS a b<0↔ltS a b=true:=by
 unfold cmpS;cases h:ltS a b with
 | true=>simp
 | false=>by_cases e:a=b <;> simp[e]
theorem gw! (a b:ByteArray)(w:World):Calls prog 147 #[.string a,.string b] w fun e w'=>e= .returned (.int .i64 (cmpS a b))/\w=w':=by
 by_cases hl:ltS a b=true
 ·have c:Hid (cmpS a b = -1):=h! (by simp[cmpS,hl]);unfold ltS at hl;go_enter func147,ntmps147
  go_wp2
  go_ret
  exact⟨by rw[c.out];rfl,rfl⟩
 ·have hl:ltS a b=false:=by simpa using hl
  by_cases he:a=b
  ·subst he;have c:Hid (cmpS a a=0):=h! (by simp[cmpS,hl]);have h1:Op.bytesLess a.toList a.toList=false:=hl;clear hl;go_enter func147,ntmps147
   go_wp2
   go_ret
   exact⟨by rw[c.out];rfl,rfl⟩
  ·have c:Hid (cmpS a b=1):=h! (by simp[cmpS,hl,he]);have h1:Op.bytesLess a.toList b.toList=false:=hl;have h2:=pJ! he;rw[<-u5!,<-u5!]at h2;clear hl he;go_enter func147,ntmps147
   go_wp2
   go_ret
   exact⟨by rw[c.out];rfl,rfl⟩
def orL:List Int->Int
 | []=>0
 | a::l=>if a=0 then orL l else a
theorem eG! {l:List Int}:∀ {i:Nat},(∀j (hj:j<l.length),j<i->l[j]=0)->orL l=orL (l.drop i):=by
 induction l with
 | nil=>intro i _;simp[orL]
 | cons a l ih =>
  intro i h;cases i with
  | zero=>rfl
  | succ i =>
   have h0:=h 0 (by simp) (by omega);simp only[List.getElem_cons_zero]at h0;rw[orL,if_pos h0,List.drop_succ_cons];refine ih fun j hj hji=>?_;have h1:=h (j+1) (by simpa using hj) (by omega);rwa[List.getElem_cons_succ]at h1
def icL (l:List Int):List Value:=l.map fun n => .int .i64 n
theorem oN! (v:Value)(l:List Int)(w:World)(S:Nat->Prop)(h:Sl S w 1 v (icL l)) :
  Calls prog 146 #[v] w fun e w'=>e= .returned (.int .i64 (orL l))/\w=w':=by
 obtain⟨ao,n,c,rfl,h1,a1,g,_,hc⟩:=h;have hn:l.length=n:=by simpa [icL] using h1
 subst hn;have hcm':c<=9223372036854775807:=by unfold maxLen at g;omega
 have HC:=h! hc;clear hc h1 g;go_enter func146,ntmps146
 go_wp2
 go_loop [8] (fun ii=>∃i:Nat,i<=l.length/\ii= .int .i64 i/\∀j (hj:j<l.length),j<i->l[j]=0) (fun ii=>l.length-(intOf ii).toNat)
 case atStart=>exact⟨0,by omega,rfl,fun _ _ h=>absurd h (by omega)⟩
 case round =>
  obtain⟨i,hi,rfl,f⟩:=hrel;have d:=h! f;clear f;by_cases hlt:i<l.length
  ·obtain⟨b,a3,rfl,-,k⟩:=HC.out (by intro e;have:=congrArg List.length e;simp[icL]at this;subst this;simp at hlt);have a4:=k i (.int .i64 l[i]) (by simp[icL,hlt]);have HD:Hid (orL l=orL (l[i]::l.drop (i+1))):=h! (by rw[eG! d.out,List.drop_eq_getElem_cons hlt]);have HN:=h! (fun h=>ah! (p:=fun j hj=>l[j]=0) d.out hlt h);clear k;generalize l[i]=a at *;by_cases ha:a=0
   ·subst ha;have a0:=h! (HN.out rfl);clear HN;go_wp2
    go_round
    case rel=>exact⟨i+1,by omega,by go_num,a0.out⟩
    case measure=>simp[intOf];omega
   ·have HV:Hid (orL l=a):=h! (by rw[HD.out,orL,if_neg ha]);have a2:(a != 0)=true:=by simpa using ha
    clear ha;go_wp2
    go_ret
    exact⟨by rw[HV.out];rfl,rfl⟩
  ·obtain rfl:i=l.length:=by omega
   have HV:=h! (show orL l=0 from by rw[eG! d.out,List.drop_length];rfl);go_wp2
   go_ret
   exact⟨by rw[HV.out];rfl,rfl⟩
end Go.Proofs.YtlhaghoajpglaaaGreat
namespace Go.Proofs.YtlhaghoajpglaaaGreat
open Go Go.RowKit Go.Sort Go.Shelf Go.Proofs.Tryz
theorem fI! {α:Type} [Inhabited α] {enc:α->List Value}{k:Nat}(hk:∀x,(enc x).length=k)(hpos:0<k)(d:Array α):(flatK enc k d).toList=d.toList.flatMap enc:=by
 apply List.ext_getElem?;intro t;by_cases ht:t<d.size*k
 ·have h1:t / k<d.size:=(Nat.div_lt_iff_lt_mul hpos).2 ht;have h2:t % k<k:=Nat.mod_lt _ hpos;have h3:t=t / k*k+t % k:=by rw[Nat.mul_comm];exact(Nat.div_add_mod t k).symm
  have e1:(flatK enc k d).toList[t]?=some (flatK enc k d)[t]!:=by
   rw[getElem!_pos _ t (by simpa using ht)];simp[ht]
  rw[e1,get_flatK enc k d t ht];conv=>rhs;rw[h3]
  rw[gm! hk d.toList (t / k) (by simpa using h1) (t % k) h2,getElem!_pos d (t / k) h1,getElem!_pos _ (t % k) (by rw[hk];exact h2),n4! (by rw[hk];exact h2)];simp
 ·rw[y0! (by simp;omega),y0! (by rw[ao! hk];simp;omega)]
theorem fS! {P:Program}{ρ:Ren}(L:SlLaysF0.n6 P ρ) {α:Type} [Inhabited α] (enc:α->List Value)(k:Nat)(hk:∀x,(enc x).length=k)(hpos:0<k)(h1:∀x,∀v∈enc x,v.oneCell'=true)
  (aE:∀w,(isAgg (ρ.t 24)).run P w= .ok true w) (zE:∀w,(Go.sizeOf (ρ.t 24)).run P w= .ok k w) (cf:α->α->Int) (hO:SWO (ltOf cf)) (g:Nat) (cb:Array Value)
  (eg:∀args w,(callFunc g args).run P w= .ok (.enter g args) w) (hcmp:∀(W:World) x y,Calls P g (#[.agg (enc x).toArray,.agg (enc y).toArray]++cb) W fun e w'=>e= .returned (.int .i64 (cf x y))/\Gr W w')
  {w:World} {B:Nat} {T:TypeId} {v:Value} {l:List α} (h:Own w B T k v (l.flatMap enc)) (hl:l.length<4611686018427387904) :
  Calls P (ρ.f 6) #[v,.func (.func g) #[] cb] w fun e w'=>e= .returned (.tuple #[])/\∃l':List α,l'.Perm l/\(l'.Pairwise fun a b=>ltOf cf b a=false)/\Own w' B T k v (l'.flatMap enc)/\Kept (fun b=>b<w.heap.size/\v.ownBlock≠some b) w w':=by
 obtain⟨n,r,o⟩:=h;rw[ao! hk]at r;obtain rfl:l.length=n:=Nat.eq_of_mul_eq_mul_right hpos r;by_cases h0:l=[]
 ·subst h0
  have hv:∃p c,v= .slice p 0 c:=by
   rcases o with⟨rfl,_⟩|⟨b,cap,cur,rfl,_⟩
   ·exact⟨_,_,rfl⟩
   ·exact⟨_,_,rfl⟩
  have u:Own w B T k v (([]:List α).flatMap enc):=⟨0,by simp,o⟩;obtain⟨p,c,rfl⟩:=hv;refine(AnyF.slices_SortFunc_none L p c _ w).mono ?_;rintro e w' ⟨rfl,rfl⟩;exact⟨rfl,[],List.Perm.refl _,List.Pairwise.nil,u,Kept.refl _ _⟩
 ·have a4:0<l.length:=List.length_pos_iff.2 h0;rcases o with⟨rfl,hx⟩|⟨b,cap,cur,rfl,hB,hb,hnc,hcm,hcs,htake⟩
  ·exfalso
   omega
  ·have s:b<w.heap.size:=(x7!.1 hb).1;have a5:l.length*k<=cur.size:=by rw[hcs];exact y7! k hnc
   have z:∀j,j<l.length*k->cur[j]?=some (flatK enc k l.toArray)[j]!:=fun j hj=>by
    have e1:(cur.toList.take (l.length*k))[j]?=cur[j]?:=by rw[List.getElem?_take,if_pos hj];simp
    rw[<-e1,htake];have D:=fI! hk hpos l.toArray;simp only at D;rw[<-D,getElem!_pos _ j (by simpa using hj)];simp[hj]
   have hH:HoldsK enc k w b 0 l.toArray:=fun j hj=>by
    rw[size_flatK]at hj;have hj':j<l.length*k:=by simpa using hj
    refine⟨?_,frozen_of_row w b (0+j) cur T hb⟩;rw[cell_of_row w b (0+j) cur T (0,0) hb,Nat.zero_add];exact z j hj'
   have a3:CmpLays P g cb enc k cf b 0 l.toArray.size w:=fun m os dk _ x y=>(hcmp _ x y).mono fun _ _ ⟨he,hg⟩=>⟨he,hg⟩;have C:=AnyQ.slices_SortFunc L k aE zE enc hk h1 cf hO g cb b 0 cap l.toArray w eg a3 hH s (by simpa using hl);simp only[List.size_toArray]at C;refine C.mono ?_;rintro e w' ⟨rfl,d',m,os,hp,hs,rfl⟩;obtain⟨a2,_,A⟩:=hp;have hp1':d'.size=l.length:=by simpa using a2
   have q:d'.toList.Perm l:=by
    have e1:(d'.extract 0 l.length).toList=d'.toList:=by rw[<-hp1'];simp
    have D:(l.toArray.extract 0 l.length).toList=l:=by simp
    rw[e1,D]at A;exact A
   refine⟨rfl,d'.toList,q,?_,⟨d'.toList.length,?_,.inr ⟨b,cap,putCells id 0 (flatK enc k d') cur,?_,hB,?_,?_,hcm,?_,?_⟩⟩,?_⟩
   ·refine x3!.2 fun i j hi hj hij=>?_;have hi':i<d'.size:=by simpa using hi
    have hj':j<d'.size:=by simpa using hj
    have:=hs i j (v1! _) hij (by omega);rwa[getElem!_pos d' j hj',getElem!_pos d' i hi']at this
   ·rw[ao! hk]
   ·simp[hp1']
   ·simp only[sortWorldK,putRowK,putRow,mapBlock,grow,heap_ahead];rw[Array.getElem?_append_left (by simpa using s),Array.getElem?_modify,if_pos rfl,hb];rfl
   ·simp[hp1',hnc]
   ·simp[putCells,hcs]
   ·rw[show d'.toList.length*k=(flatK enc k d').size from by simp];rw[<-fI! hk hpos d'];apply List.ext_getElem?;intro t;rw[List.getElem?_take];split
    ·rename_i ht
     have ht':t<d'.size*k:=by simpa using ht
     have a1:t<cur.size:=by rw[hp1']at ht';omega
     simp only[putCells,Array.getElem?_toList,Array.getElem?_mapIdx];rw[Array.getElem?_eq_getElem a1];simp only[Option.map_some,v1!,true_and,Nat.zero_add,Nat.sub_zero,id];rw[if_pos ht,getElem!_pos _ t ht,Array.getElem?_eq_getElem ht]
    ·rename_i ht
     rw[y0! (by simpa using ht)]
   ·refine⟨rfl,rfl,rfl,by simp[sortWorldK,putRowK,grow],fun c C=>?_⟩;have a0:c≠b:=fun e=>C.2 (by subst e;rfl);simp only[sortWorldK,putRowK,putRow,mapBlock,grow,heap_ahead];rw[Array.getElem?_append_left (by simpa using C.1),Array.getElem?_modify,if_neg (Ne.symm a0)]
end Go.Proofs.YtlhaghoajpglaaaGreat
namespace Go.Proofs.YtlhaghoajpglaaaGreat
open Go Go.Maps Go.RowKit Go.Proofs.Tryz
theorem oX! {a b:ByteArray}(h:ltS a b=true):a≠b:=by
 rintro rfl;rw[bU!]at h;cases h
def ltR (a b:R2):Bool:=if a.t=b.t then ltS a.r b.r else ltS a.t b.t
def pC (p:P3):List Value:=[.string p.t,.string p.i,.string p.r]
def pV (p:P3):Value := .agg #[.string p.t,.string p.i,.string p.r]
theorem aj! (p:P3):(pC p).length=3:=rfl
theorem hR! (p:P3):∀u∈pC p,u.oneCell'=true:=by
 intro u hu;simp only[pC,v7!,List.not_mem_nil,or_false]at hu;rcases hu with rfl | rfl | rfl <;> rfl
def pcs (l:List P3):List Value:=l.flatMap pC
def ordP (a b:P3):Int:=orL [cmpS a.t b.t,cmpS a.i b.i,cmpS a.r b.r]
def ltP (a b:P3):Bool:=if a.t=b.t then(if a.i=b.i then ltS a.r b.r else ltS a.i b.i)else ltS a.t b.t
theorem df! (a b:P3):Go.Proofs.ltOf ordP a b=ltP a b:=by
 unfold Go.Proofs.ltOf ordP ltP;rw[Bool.eq_iff_iff,u1!];simp only[orL,dq!];by_cases h1:a.t=b.t
 ·simp only[h1,if_true];by_cases h2:a.i=b.i
  ·simp only[h2,if_true];by_cases h3:a.r=b.r
   ·simp[h3,bU!]
   ·simp only[h3,if_false];exact da! _ _
  ·simp only[h2,if_false];exact da! _ _
 ·simp only[h1,if_false];exact da! _ _
theorem cD! (a:P3):ltP a a=false:=by simp[ltP,bU!]
theorem cC! {a b:P3}(h:ltP a b=false)(hne:a≠b):ltP b a=true:=by
 unfold ltP at *;by_cases h1:a.t=b.t
 ·rw[if_pos h1]at h;rw[if_pos h1.symm];by_cases h2:a.i=b.i
  ·rw[if_pos h2]at h;rw[if_pos h2.symm];refine by! h fun h3=>hne ?_;cases a;cases b;simp_all
  ·rw[if_neg h2]at h;rw[if_neg (Ne.symm h2)];exact by! h h2
 ·rw[if_neg h1]at h;rw[if_neg (Ne.symm h1)];exact by! h h1
theorem bz! {a b c:P3}(h:ltP a b=true)(k:ltP b c=true):ltP a c=true:=by
 unfold ltP at *;by_cases h1:a.t=b.t <;> by_cases k1:b.t=c.t
 ·rw[if_pos h1]at h;rw[if_pos k1]at k;rw[if_pos (h1.trans k1)];by_cases h2:a.i=b.i <;> by_cases k2:b.i=c.i
  ·rw[if_pos h2]at h;rw[if_pos k2]at k;rw[if_pos (h2.trans k2)];exact cB! h k
  ·rw[if_neg k2]at k;rw[if_neg (h2▸k2),h2];exact k
  ·rw[if_neg h2]at h;rw[if_neg (k2▸h2),<-k2];exact h
  ·rw[if_neg h2]at h;rw[if_neg k2]at k;have:=cB! h k;rw[if_neg (oX! this)];exact this
 ·rw[if_neg k1]at k;rw[if_neg (h1▸k1),h1];exact k
 ·rw[if_neg h1]at h;rw[if_neg (k1▸h1),<-k1];exact h
 ·rw[if_neg h1]at h;rw[if_neg k1]at k;have:=cB! h k;rw[if_neg (oX! this)];exact this
theorem swoP:Go.Sort.SWO (Go.Proofs.ltOf ordP) where
 irrefl x:=by rw[df!];exact cD! x
 trans x y z h k:=by rw[df!]at *;exact bz! h k
 ntrans x y z h k:=by
  rw[df!]at *;cases hxz:ltP x z with
  | false=>rfl
  | true =>
   by_cases e1:x=y
   ·subst e1;rw[hxz]at k;cases k
   ·have h1:=cC! h e1;have h2:=bz! h1 hxz;rw[h2]at k;cases k
def UpP (l:List P3):Prop:=l.Pairwise fun a b=>ltP a b=true
theorem lj!:Keyed prog 32:=Keyed.of_law (deep_law_laid hb! (m:=3) (by decide) (of_decide_eq_true (by kernel_rfl)) (by kernel_rfl) (by kernel_rfl))
theorem subK:Keyed prog 33:=Keyed.of_law (deep_law_laid hb! (m:=3) (by decide) (of_decide_eq_true (by kernel_rfl)) (by kernel_rfl) (by kernel_rfl))
theorem je! (a b:P3)(h:pV a=pV b):a=b:=by
 obtain⟨a1,a2,a3⟩:=a;obtain⟨b1,b2,b3⟩:=b;simpa [pV] using h
theorem jb! (d:Nat)(p:P3)(h:p.Ok):prog.keyLits (d+1+1+1) 32 [.string p.t,.string p.i,.string p.r]=some [.string p.t.data.toList,.string p.i.data.toList,.string p.r.data.toList]:=by
 unfold Program.keyLits;rw[Tryz.underlying32];have e1:=gg! d p.t p.i h.1 h.2.1;have e2:=cN! (d+1) p.r h.2.2;have e3:prog.cellsOf 32=3:=by kernel_rfl
 have e4:prog.cellsOf 9=1:=by kernel_rfl
 have e5:prog.cellsOf 30=2:=by kernel_rfl
 simp[e1,e2,e3,e4,e5]
theorem eD! (p:P3)(h:p.Ok):∃q,keyOf prog 32 (pV p)=some q:=by
 obtain⟨d,hd⟩:=ck!;have e:=jb! (d+1) p h;have e2:(prog.keyType 32&&(pV p).formed prog 32)=true:=by kernel_rfl
 have hs:prog.types.size+1=d+1+1+1+1:=by omega
 unfold keyOf;rw[Tryz.underlying32];dsimp only;rw[if_pos e2,hs];rw[show(pV p).cells.toList=[.string p.t,.string p.i,.string p.r]from rfl,e];exact⟨_,rfl⟩
theorem nb! (d:Nat)(p:P3)(h:p.Ok):prog.keyLits (d+1+1+1) 33 [.string p.t,.string p.i,.string p.r]=some [.string p.t.data.toList,.string p.i.data.toList,.string p.r.data.toList]:=by
 unfold Program.keyLits;rw[Tryz.underlying33];have e1:=gg! d p.t p.i h.1 h.2.1;have e2:=cN! (d+1) p.r h.2.2;have e3:prog.cellsOf 33=3:=by kernel_rfl
 have e4:prog.cellsOf 9=1:=by kernel_rfl
 have e5:prog.cellsOf 30=2:=by kernel_rfl
 simp[e1,e2,e3,e4,e5]
theorem oy! (p:P3)(h:p.Ok):∃q,keyOf prog 33 (pV p)=some q:=by
 obtain⟨d,hd⟩:=ck!;have e:=nb! (d+1) p h;have e2:(prog.keyType 33&&(pV p).formed prog 33)=true:=by kernel_rfl
 have hs:prog.types.size+1=d+1+1+1+1:=by omega
 unfold keyOf;rw[Tryz.underlying33];dsimp only;rw[if_pos e2,hs];rw[show(pV p).cells.toList=[.string p.t,.string p.i,.string p.r]from rfl,e];exact⟨_,rfl⟩
structure O2 where
 t:ByteArray
 i:ByteArray
deriving DecidableEq
def oV (o:O2):Value := .agg #[.string o.t,.string o.i]
def oC (o:O2):List Value:=[.string o.t,.string o.i]
theorem aC! (o:O2):(oC o).length=2:=rfl
theorem hS! (a b:O2)(h:oV a=oV b):a=b:=by
 obtain⟨a1,a2⟩:=a;obtain⟨b1,b2⟩:=b;simpa [oV] using h
def O2.Ok (o:O2):Prop:=o.t.size<=maxLen/\o.i.size<=maxLen
theorem objK:Keyed prog 30:=Keyed.of_law (deep_law_laid hb! (m:=3) (by decide) (of_decide_eq_true (by kernel_rfl)) (by kernel_rfl) (by kernel_rfl))
theorem mx! (o:O2)(h:o.Ok):∃q,keyOf prog 30 (oV o)=some q:=by
 obtain⟨d,hd⟩:=ck!;have e:=gg! (d+1+1) o.t o.i h.1 h.2;have e2:(prog.keyType 30&&(oV o).formed prog 30)=true:=by kernel_rfl
 have hs:prog.types.size+1=d+1+1+1+1:=by omega
 unfold keyOf;rw[Tryz.underlying30];dsimp only;rw[if_pos e2,hs];rw[show(oV o).cells.toList=[.string o.t,.string o.i]from rfl,e];exact⟨_,rfl⟩
def P3.obj (p:P3):O2:=⟨p.t,p.i⟩
def subE:Elm P3:=⟨33,3,pC,aj!,by decide⟩
def pntE:Elm P3:=⟨32,3,pC,aj!,by decide⟩
def aZ! (T:List Tup)(s:P3):List P3:=(T.filter fun t=>decide (t.s=s)).map (·.o)
def ObjIn (T:List Tup)(o:O2):Prop:=∃t∈T,t.o.obj=o\/t.s.obj=o
theorem ej! (T:List Tup)(t:Tup)(p:P3):ak! (T++[t]) p=if t.o=p then ak! T p++[t.s]else ak! T p:=by
 unfold ak!;rw[List.filter_append,v9!];by_cases h:t.o=p
 ·simp[h]
 ·simp[h]
theorem fs! (T:List Tup)(t:Tup)(p:P3):aZ! (T++[t]) p=if t.s=p then aZ! T p++[t.o]else aZ! T p:=by
 unfold aZ!;rw[List.filter_append,v9!];by_cases h:t.s=p
 ·simp[h]
 ·simp[h]
abbrev OL:=NLG ByteArray O2
abbrev ONest (w:World) (b:Nat) (l:OL):Prop:=pQ! prog 9 30 Value.string oV w b l
structure BkOf (w:World)(B b m1 m2 m3:Nat)(l:OL)(T:List Tup):Prop where
 box:Blk w b #[.map (some m1),.map (some m2),.map (some m3)] 149
 subs:MR prog 32 pV subE w B m1 (ak! T)
 pnts:MR prog 33 pV pntE w B m2 (aZ! T)
 objs:ONest w m3 l
 ne:m1≠m2/\m1∉nBG m3 l/\m2∉nBG m3 l
 what:∀typ o,o∈innG l typ↔o.t=typ/\ObjIn T o
def pL! (w:World)(b:Nat)(T:List Tup):Prop:=∃B m1 m2 m3 l,BkOf w B b m1 m2 m3 l T
section
variable {w w' : World} {B b m1 m2 m3 : Nat} {l : OL} {T : List Tup}
theorem BkOf.ext (h:BkOf w B b m1 m2 m3 l T)(hx:Ext w w'):BkOf w' B b m1 m2 m3 l T:=⟨h.box.below hx,h.subs.up hx,h.pnts.up hx,h.objs.below hx,h.ne,h.what⟩
theorem pL!.ext (h:pL! w b T)(hx:Ext w w'):pL! w' b T:=by
 obtain⟨B,m1,m2,m3,l,h⟩:=h;exact⟨B,m1,m2,m3,l,h.ext hx⟩
end
abbrev OS (w:World) (b:Nat) (A:List O2):Prop:=Mp prog 30 oV bV w b (blG A)
theorem OS.nodup {w:World}{b:Nat}{A:List O2}(h:OS w b A):A.Nodup:=by
 have:=Mp.nodup h;rwa[dc!]at this
theorem OS.key {w:World}{b:Nat}{A:List O2}(h:OS w b A) {o:O2}(ho:o∈A):∃q,keyOf prog 30 (oV o)=some q:=Mp.keyed h (o,true) (u6!.2 ⟨o,ho,rfl⟩)
theorem fZ! (l:List O2)(a:O2):putA (blG l) a true=blG (if a∈l then l else l++[a]):=by
 split
 ·next h =>
  induction l with
  | nil=>simp at h
  | cons x r ih =>
   simp only[blG,v8!,putA]at *;by_cases e:x=a
   ·subst e;simp
   ·rw[if_neg e,ih (by simpa [Ne.symm e] using h)]
 ·next h =>
  rw[bf! (fun p hp e=>h (by obtain⟨x,hx,rfl⟩:=u6!.1 hp;exact e▸hx))];simp[blG]
theorem fY! (l:List O2)(a x:O2):x∈(if a∈l then l else l++[a])↔x∈l\/x=a:=by
 split
 ·next h=>exact⟨.inl,fun h2=>h2.elim id fun e=>e▸h⟩
 ·simp
theorem lu! (l:List O2)(a:O2):lookA (blG l) a=if a∈l then some true else none:=by
 induction l with
 | nil=>rfl
 | cons x r ih =>
  simp only[blG,v8!,lookA]at *;by_cases h:x=a
  ·subst h;simp
  ·simp[h,ih,Ne.symm h]
theorem OS.ask {w:World}{b:Nat}{A:List O2}(h:OS w b A) {t:TypeId}(ht:prog.underlying t=some (.map 30 4)) {o:O2}(ho:∃q,keyOf prog 30 (oV o)=some q):(Instr.lookup t (.map (some b)) (oV o) false).run prog w= .ok (.bool (decide (o∈A))) w:=by
 have a:=Mp.look h objK hS! ht (z := .bool false) (Tryz.zeroValue4 w) false ho;rw[lu!]at a;by_cases hin:o∈A
 ·rw[v2! hin];rw[if_pos hin]at a;exact a
 ·rw[v3! hin];rw[if_neg hin]at a;exact a
theorem ni! {P:Program}{k:TypeId}{κ:Type}{kv:κ->Value}{w:World}{b r:Nat}{l:List κ}{rem:List (κ × Bool)}(h:Rng P k kv bV w b r (blG l) rem):∀p∈rem,p.2=true:=by
 obtain⟨es,a1,a0,a,c0,_,_,a3,_,_,_,_,_,hl⟩:=h;intro p hp;have h1:(kv p.1,bV p.2)∈(leftOf es a).toList.map (fun x=>(x.key,x.val)):=by rw[hl];exact u6!.2 ⟨p,hp,rfl⟩
 obtain⟨x,hx,a2⟩:=u6!.1 h1
 have a4:x∈es.toList:=by
  simp only[leftOf,Array.toList_filter]at hx;exact(List.mem_filter.1 hx).1
 have h2:(x.key,x.val)∈es.toList.map (fun x=>(x.key,x.val)):=u6!.2 ⟨x,a4,rfl⟩;rw[a3,a2]at h2;obtain⟨q,hq,a5⟩:=u6!.1 h2;obtain⟨o,_,rfl⟩:=u6!.1 hq;have:=congrArg Prod.snd a5;simp only[bV,Value.bool.injEq]at this;exact this.symm
theorem cf! {P:Program}(w:World) {ops:Array Oper}{rest:List Oper}{o:Oper}{a:Act}{Q:Exit->Act->World->Prop}{κ:Type}{kv:κ->Value}{b:Nat}{l:List κ}(hg:o.guard=none)(it:Operand)(hop:o.op=Op.next it false) {k:TypeId}{r:Nat}{rem:List (κ × Bool)}(hit:a.eval it= .pointer (some ⟨r,0,none⟩))(h:Rng P k kv bV w b r (blG l) rem)
  (hDone:rem=[]->wpList P ops Q rest (a.put o.dst (.tuple #[.bool false])) w)
  (hMore:∀pre x post w',rem=pre++(x,true)::post->Rng P k kv bV w' b r (blG l) (pre++post)->Kept (· ≠ r) w w'->w'.heap.size=w.heap.size->(Instr.entry (.pointer (some ⟨r,0,none⟩))).run P w' = .ok (.tuple #[kv x,.bool true]) w' ->
   wpList P ops Q rest (a.put o.dst (.tuple #[.bool true,kv x,.bool true])) w'):wpList P ops Q (o::rest) a w:=by
 refine cg! w hg it hop hit h hDone fun pre p post w' h1 h2 h3 h4 h5=>?_;obtain⟨x,c⟩:=p;obtain rfl:c=true:=ni! h (x,c) (by rw[h1];simp);exact hMore pre x post w' h1 h2 h3 h4 h5
theorem Rng.neMp {P:Program}{k k2:TypeId}{κ α κ2 α2:Type}{kv:κ->Value}{ev:α->Value}{kv2:κ2->Value}{ev2:α2->Value}{w:World}{b r c:Nat}{l rem:List (κ × α)}{l2:List (κ2 × α2)}(h:Rng P k kv ev w b r l rem)(h2:Mp P k2 kv2 ev2 w c l2):c≠r:=fun e=>by
 obtain⟨es,clock,since,seen,c0,_,_,_,_,hr,_⟩:=h;obtain⟨es2,c2,h3,_⟩:=h2;rw[e,hr]at h3;cases h3
theorem lY! (a b:Nat)(A B:List O2)(w:World)(ha:OS w a A)(hb:OS w b B)(hne:a≠b) :
  Calls prog 224 #[.map (some a),.map (some b)] w fun e w'=>e= .returned (.tuple #[])/\(∃A',OS w' a A'/\∀o,o∈A'↔o∈A\/o∈B)/\Tk a w w':=by
 have HB:=h! hb;have a5:=h! hne;have HA:=h! ha;have hM:=hb;clear ha hb hne;go_enter func224,ntmps224
 go_wp2_with (at_range;go_must (refine bl! _ rfl _ 210 rfl Tryz.underlying210 rfl hM ?_);intro wR hRg hbR hszR)
 try go_frame
 have k:=h! hRg;have n:=h! hbR;clear hRg hbR hszR hM;go_loopw [5] (fun _ wr=>∃(done:List O2) (rem:List (O2 × Bool)) (A':List O2),(done++rem.map (·.1)).Perm B/\Rng prog 30 oV bV wr b w.heap.size (blG B) rem/\OS wr a A'/\(∀o,o∈A'↔o∈A\/o∈done)/\Tk a w wr) (fun _ wr=>wr.rangeLeft b w.heap.size)
 case atStart=>exact⟨[],blG B,A,by rw[dc!];exact List.Perm.refl _,k.out,HA.out.below n.out,by simp,Tk.of n.out⟩
 case round =>
  obtain⟨done,rem,A',hp,l,t,hm,hk⟩:=hrel;have G:=h! hp;have z:=h! l;have m:=h! t;have HM:=h! hm;have HK:=h! hk;clear hp t hm hk k n HA;go_wp2_with (at_next;go_must (refine cf! _ rfl _ rfl rfl l ?_ ?_))
  ·intro c;subst c;rw[List.map_nil,List.append_nil]at G;clear l;go_wp2_with fail
   go_end0
   exact⟨rfl,⟨A',m.out,fun o=>by rw[HM.out o,G.out.mem_iff]⟩,HK.out⟩
  ·rintro a2 ⟨E,D⟩ p F c j r a3 s;have C:(⟨E,D⟩:O2)∈B:=G.out.mem_iff.1 (by rw[c];simp);have g:=HB.out.key C;have v:OS F a A':=m.out.same (r.block a (z.out.neMp m.out));have xA:=Ext.alloc F (.cells #[.string E,.string D] 30);have q:=v.below xA;have i:=h! (j.below xA);have cX:=(Blk.made F #[.string E,.string D] 30).cells;have a0:=h! (show Tk a w (F.alloc (.cells #[.string E,.string D] 30))from Tk.next (show Tk a w F from Kept.trans HK.out (r.mono fun x hx e=>by have:=hx.1;omega)) (Tk.of xA));have f:=h! c;unfold oV at s;clear c j r a3 v l C;go_wp2_with (at_mapUpdate;go_must (refine bS! (kv:=oV) (ev:=bV) _ rfl _ _ _ 210 rfl objK hS! Tryz.underlying210 rfl q (y:=⟨E,D⟩) rfl g (u:=true) rfl ?_);intro w3 hM3 hT3)
   rw[fZ!]at hM3;have a4:=h! hM3;have d:=h! (i.out.same (w':=w3) (hT3.kept.block _ fun e=>a5.out e.symm) (hT3.kept.block _ fun e=>i.out.neMp q e.symm));have a1:=h! (a0.out.next (Tk.turned hT3));clear hM3 hT3 q cX s g;go_roundw
   case rel =>
    refine⟨done++[⟨E,D⟩],a2++p,?_,d.out,_,a4.out,fun o=>?_,a1.out⟩
    ·refine List.Perm.trans ?_ G.out;rw[f.out,y6!];simp only[v9!,v8!];exact List.Perm.append_left done (by simpa using List.perm_middle.symm)
    ·rw[fY!,HM.out o,u3!,n9!,or_assoc]
   case measure=>rw[d.out.left_eq,z.out.left_eq,f.out];simp
theorem lE! {A A' done:List O2}{q:O2->Bool}{y:O2}(hm:∀o,o∈A'↔o∈A/\(o∈done->q o=false))(hy:q y=true):∀o,o∈A'.filter (fun x=>decide (x≠y))↔o∈A/\(o∈done++[y]->q o=false):=fun o=>by
 rw[List.mem_filter,hm o,u3!,n9!,u1!];constructor
 ·rintro⟨⟨h1,h2⟩,h3⟩;exact⟨h1,fun h=>h.elim h2 fun e=>absurd e h3⟩
 ·rintro⟨h1,h2⟩
  exact⟨⟨h1,fun h=>h2 (.inl h)⟩,fun e=>by
   have:=h2 (.inr e);rw[e,hy]at this;cases this⟩
theorem jH! {A A' done:List O2}{q:O2->Bool}{y:O2}(hm:∀o,o∈A'↔o∈A/\(o∈done->q o=false))(hy:q y=false):∀o,o∈A'↔o∈A/\(o∈done++[y]->q o=false):=fun o=>by
 rw[hm o,u3!,n9!];constructor
 ·rintro⟨h1,h2⟩;exact⟨h1,fun h=>h.elim h2 fun e=>e▸hy⟩
 ·rintro⟨h1,h2⟩;exact⟨h1,fun h=>h2 (.inl h)⟩
theorem nX! (a:Nat)(A:List O2)(w:World)(ha:OS w a A)(g:Nat)(cap:Array Value)(eg:∀args W,(callFunc g args).run prog W= .ok (.enter g args) W)(q:O2->Bool)
  (hf:∀o∈A,∀c W,Tk a w W->Calls prog g (#[oV o,.bool c]++cap) W fun e W'=>e= .returned (.bool (q o))/\Ext W W') :
  Calls prog 270 #[.map (some a),.func (.func g) #[] cap] w fun e w'=>e= .returned (.tuple #[])/\(∃A',OS w' a A'/\∀o,o∈A'↔o∈A/\q o=false)/\Tk a w w':=by
 have HA:=h! ha;have HF:=h! hf;have a0:=h! ha.nodup;have hM:=ha;clear ha hf;go_enter func270,ntmps270
 go_wp2_with (at_range;go_must (refine bl! _ rfl _ 210 rfl Tryz.underlying210 rfl hM ?_);intro wR hRg hbR hszR)
 try go_frame
 have v:=h! hRg;have J:=h! hbR;clear hRg hbR hszR hM;go_loopw [5] (fun _ wr=>∃(done:List O2) (rem:List (O2 × Bool)) (A':List O2),(done++rem.map (·.1)).Perm A/\Rng prog 30 oV bV wr a w.heap.size (blG A') rem/\(∀o,o∈A'↔o∈A/\(o∈done->q o=false))/\Tk a w wr) (fun _ wr=>wr.rangeLeft a w.heap.size)
 case atStart=>exact⟨[],blG A,A,by rw[dc!];exact List.Perm.refl _,v.out,by simp,Tk.of J.out⟩
 case round =>
  obtain⟨done,rem,A',O,z,hm,hk⟩:=hrel;have R:=h! O;have G:=h! z;have HM:=h! hm;have HK:=h! hk;clear O hm hk v J;go_wp2_with (at_next;go_must (refine cf! _ rfl _ rfl rfl z ?_ ?_))
  ·intro b;subst b;rw[List.map_nil,List.append_nil]at R;clear z;go_wp2_with fail
   go_end0
   exact⟨rfl,⟨A',G.out.mp,fun o=>by
    rw[HM.out o];exact⟨fun h=>⟨h.1,h.2 (R.out.mem_iff.2 h.1)⟩,fun h=>⟨h.1,fun _=>h.2⟩⟩⟩,HK.out⟩
  ·rintro y ⟨N,M⟩ d Q b u K a3 C;have F:(⟨N,M⟩:O2)∈A:=R.out.mem_iff.1 (by rw[b];simp);have k:=HA.out.key F
   have a5:=h! (show ∀p∈y++d,p.1≠(⟨N,M⟩:O2)from fun p O e=>by
    have h1:=(R.out.nodup_iff).2 a0.out;rw[b]at h1;have h2:=(List.nodup_append.1 h1).2.1;rw[v9!,v8!]at h2;have h3:=(List.perm_middle.nodup_iff).1 h2;exact(List.nodup_cons.1 h3).1 (by rw[<-v9!];exact u6!.2 ⟨p,O,e⟩))
   have xA:=Ext.alloc Q (.cells #[.string N,.string M] 30);have r:=h! (u.below xA);have cX:=(Blk.made Q #[.string N,.string M] 30).cells;have a4:=h! (Blk.made Q #[.string N,.string M] 30);have D:=h! (show Tk a w (Q.alloc (.cells #[.string N,.string M] 30))from Tk.next (show Tk a w Q from Kept.trans HK.out (K.mono fun x hx e=>by have:=hx.1;omega)) (Tk.of xA));have n:=h! b
   have I:=h! (show((done++[(⟨N,M⟩:O2)])++(y++d).map (·.1)).Perm A from by
    refine List.Perm.trans ?_ R.out;rw[b,y6!];simp only[v9!,v8!];exact List.Perm.append_left done (by simpa using List.perm_middle.symm))
   have f:=h! (HF.out _ F true _ D.out);unfold oV at C f;dsimp only at f;clear b u K a3 z F;cases hq:q ⟨N,M⟩ with
   | false =>
    rw[hq]at f;have B:=h! (jH! HM.out hq);go_wp2_with fail
    refine f.out.mono ?_;rintro e w3 ⟨rfl,i⟩;have m:=h! (r.out.below i);have E:=h! (D.out.next (Tk.of i));clear i cX C k hq f;go_wp2_with fail
    go_roundw
    case rel=>exact⟨done++[⟨N,M⟩],y++d,A',I.out,m.out,B.out,E.out⟩
    case measure=>rw[m.out.left_eq,G.out.left_eq,n.out];simp
   | true =>
    rw[hq]at f;have B:=h! (lE! HM.out hq);go_wp2_with fail
    refine f.out.mono ?_;rintro e w3 ⟨rfl,i⟩;have l:=r.out.below i;have E:=h! (D.out.next (Tk.of i));have a1:=(a4.out.below i).cells;clear i cX C hq f;obtain⟨w4,j,H,L⟩:=l.drop (t:=210) (ty:=0) objK hS! Tryz.underlying210 (a:=⟨N,M⟩) k a5.out;unfold oV at j;dsimp only at j;go_wp2_with fail
    rw[pj! (OS.nodup (A:=A') l.mp)]at H;have s:=h! H;have a2:=h! (E.out.next (Tk.turned L));clear H L l a1 k j;go_roundw
    case rel=>exact⟨done++[⟨N,M⟩],y++d,_,I.out,s.out,B.out,a2.out⟩
    case measure=>rw[s.out.left_eq,G.out.left_eq,n.out];simp
theorem eX! (a b:Nat)(A B:List O2)(w:World)(ha:OS w a A)(hb:OS w b B)(hne:a≠b) :
  Calls prog 179 #[.map (some a),.map (some b)] w fun e w'=>e= .returned (.tuple #[])/\(∃A',OS w' a A'/\∀o,o∈A'↔o∈A\/o∈B)/\Tk a w w':=by
 have HC:=h! (lY! a b A B w ha hb hne);clear ha hb hne;go_enter func179,ntmps179
 go_wp2_with fail
 refine HC.out.mono ?_;rintro e w1 ⟨rfl,h1,h2⟩;go_wp2_with fail
 go_end0
 exact⟨rfl,h1,h2⟩
theorem lF! (b:Nat)(B:List O2)(Bt:Nat)(o:O2)(c:Bool)(w:World)(hb:OS w b B)(hc:w.cell? ⟨Bt,0,none⟩=some (.map (some b)))(ho:∃q,keyOf prog 30 (oV o)=some q) :
  Calls prog 271 #[oV o,.bool c,.pointer (some ⟨Bt,0,none⟩)] w fun e w'=>e= .returned (.bool (!decide (o∈B)))/\Ext w w':=by
 obtain⟨ot,oi⟩:=o;have xA:=Ext.alloc w (.cells #[.string ot,.string oi] 30);have a:=OS.ask (hb.below xA) Tryz.underlying210 ho;have a0:=Ext.cell xA hc;have cX:=(Blk.made w #[.string ot,.string oi] 30).cells;unfold oV at a ⊢;dsimp only at a ⊢;clear hb hc ho;go_enter func271,ntmps271
 go_wp2_with fail
 go_ret
 exact⟨rfl,xA⟩
theorem lD! (a b:Nat)(A B:List O2)(w:World)(ha:OS w a A)(hb:OS w b B)(hne:a≠b) :
  Calls prog 226 #[.map (some a),.map (some b)] w fun e w'=>e= .returned (.tuple #[])/\(∃A',OS w' a A'/\∀o,o∈A'↔o∈A/\o∈B)/\Tk a w w':=by
 have a0:∀(fn:Fn) (first cap:Array Value) (w:World),(Instr.makeFunc fn first cap).run prog w= .ok (.func fn first cap) w:=fun _ _ _ _=>rfl;have k:=Ext.alloc w (.cells #[.map (some b)] 210);have g:=ha.below k;have f:=hb.below k;have d:=Blk.made w #[.map (some b)] 210;have i:∀W,Tk a (w.alloc (.cells #[.map (some b)] 210)) W->OS W b B:=fun W h=>f.same (h.block b ⟨f.lt,fun e=>hne e.symm⟩);have j:∀W,Tk a (w.alloc (.cells #[.map (some b)] 210)) W->Blk W w.heap.size #[.map (some b)] 210:=fun W h=>(h.block _ ⟨d.lt,fun e=>by have:=ha.lt;omega⟩).trans d;have HD:=h! (nX! a A _ g 271 #[.pointer (some ⟨w.heap.size,0,none⟩)] (enters_of func271 (by kernel_rfl) rfl) (fun o=>!decide (o∈B)) fun o ho c W hW=>lF! b B w.heap.size o c W (i W hW) ((j W hW).cells 0) (ha.key ho));have XA:=h! k;clear ha hb g f d i j k hne;go_enter func226,ntmps226
 go_wp2_with fail
 refine HD.out.mono ?_;rintro e w1 ⟨rfl,⟨A',h1,h2⟩,h3⟩;go_wp2_with fail
 go_end0
 exact⟨rfl,⟨A',h1,fun o=>by rw[h2 o];simp⟩,(Tk.of XA.out).next h3⟩
theorem bK! (T:List Tup)(p:P3):∀(l:List RT)(ps:List P3),ps <+: (ar! T p l ps).2
 | [],ps=>List.prefix_refl _
 | r::l,ps=>by rw[ar!];exact(hk! T p r ps).trans (bK! T p l _)
theorem hy! (ts:List TyS)(T:List Tup)(shut:List R2)(p:P3)(n:Nat):(walkN ts T shut p n).1[0]?=some p:=by
 have h:=bM! ts T shut p 0 n (v1! n);rw[walkN]at h;obtain⟨t,ht⟩:=h;rw[<-ht];rfl
def inAt (l:List Bool)(k:Int):Bool:=decide (0<=k)&&l.getD k.toNat false
mutual
def holdF (s:P3)(l:List Bool):FT->Bool
 | .mk k subs refs ps=>if k=1 then decide (s∈subs)||refs.any (inAt l)else if k=2\/k=3 then refs.any (inAt l)else if k=4 then anyF s l ps else if k=5 then allF s l ps else false
def anyF (s:P3)(l:List Bool):List FT->Bool | []=>false | r::rs=>holdF s l r||anyF s l rs
def allF (s:P3)(l:List Bool):List FT->Bool | []=>true | r::rs=>holdF s l r&&allF s l rs
end
theorem kA! (s:P3)(l:List Bool):∀ps,anyF s l ps=ps.any (holdF s l)
 | []=>rfl
 | r::rs=>by rw[anyF,kA! s l rs,List.any_cons]
theorem kC! (s:P3)(l:List Bool):∀ps,allF s l ps=ps.all (holdF s l)
 | []=>rfl
 | r::rs=>by rw[allF,kC! s l rs,List.all_cons]
theorem cY! (s:P3)(l:List Bool)(f:FT):holdF s l f=if f.k=1 then decide (s∈f.subs)||f.refs.any (inAt l)else if f.k=2\/f.k=3 then f.refs.any (inAt l)else if f.k=4 then f.ps.any (holdF s l)else if f.k=5 then f.ps.all (holdF s l)else false:=by
 obtain⟨k,a,b,ps⟩:=f;rw[holdF,kA!,kC!];rfl
theorem bJ! (s:P3)(l:List Bool)(k:Int)(subs:List P3)(refs:List Int)(ps:List FT):holdF s l (.mk k subs refs ps)=if k=1 then decide (s∈subs)||refs.any (inAt l)else if k=2\/k=3 then refs.any (inAt l)else if k=4 then ps.any (holdF s l)else if k=5 then ps.all (holdF s l)else false:=by
 rw[holdF,kA!,kC!]
mutual
def FT.named:FT->List Int | .mk _ _ refs ps=>refs++nmdL ps
def nmdL:List FT->List Int | [] => [] | r::rs=>r.named++nmdL rs
end
theorem FT.named_eq (f:FT):f.named=f.refs++nmdL f.ps:=by
 obtain⟨k,a,b,ps⟩:=f;rw[FT.named];rfl
theorem jp! {f:FT}{k:Int}(hk:k∈f.named):∀ {l:List FT},f∈l->k∈nmdL l
 | x::l,h=>by
  rw[nmdL,u3!];rcases v7!.1 h with rfl | h
  ·exact .inl hk
  ·exact .inr (jp! hk h)
theorem bs!:∀(a b:List FT),nmdL (a++b)=nmdL a++nmdL b
 | [],_=>rfl
 | x::a,b=>by rw[x2!,nmdL,nmdL,bs! a b,y6!]
theorem eK! {l:List FT}{i:Nat}(h:i<l.length):nmdL (l.take (i+1))=nmdL (l.take i)++l[i].named:=by
 rw[n2! h,bs!];simp[nmdL]
theorem id! (s:P3)(l m:List Bool)(f:FT):(∀k∈f.named,inAt l k=inAt m k)->holdF s l f=holdF s m f:=by
 induction f using FT.ind with
 | h f ih =>
  intro h;rw[FT.named_eq]at h
  have h1:f.refs.any (inAt l)=f.refs.any (inAt m):=by
   rw[Bool.eq_iff_iff,x5!,x5!];constructor
   ·rintro⟨k,b,e⟩;exact⟨k,b,by rw[<-h k (List.mem_append_left _ b)];exact e⟩
   ·rintro⟨k,b,e⟩;exact⟨k,b,by rw[h k (List.mem_append_left _ b)];exact e⟩
  have a:∀p∈f.ps,holdF s l p=holdF s m p:=fun p hp=>ih p hp fun k b=>h k (List.mem_append_right _ (jp! b hp))
  have h3:f.ps.any (holdF s l)=f.ps.any (holdF s m):=by
   rw[Bool.eq_iff_iff,x5!,x5!];constructor
   ·rintro⟨k,b,e⟩;exact⟨k,b,by rw[<-a k b];exact e⟩
   ·rintro⟨k,b,e⟩;exact⟨k,b,by rw[a k b];exact e⟩
  have h4:f.ps.all (holdF s l)=f.ps.all (holdF s m):=by
   rw[Bool.eq_iff_iff,u8!,u8!];exact⟨fun e k b=>by rw[<-a k b];exact e k b,fun e k b=>by rw[a k b];exact e k b⟩
  rw[cY!,cY!,h1,h3,h4]
theorem jU! (s:P3) {l m:List Bool}(h:∀k,inAt l k=true->inAt m k=true)(f:FT):holdF s l f=true->holdF s m f=true:=by
 induction f using FT.ind with
 | h f ih =>
  have h1:f.refs.any (inAt l)=true->f.refs.any (inAt m)=true:=fun e=>by
   rw[x5!]at *;obtain⟨k,a,e⟩:=e;exact⟨k,a,h k e⟩
  have h3:f.ps.any (holdF s l)=true->f.ps.any (holdF s m)=true:=fun e=>by
   rw[x5!]at *;obtain⟨k,a,e⟩:=e;exact⟨k,a,ih k a e⟩
  have h4:f.ps.all (holdF s l)=true->f.ps.all (holdF s m)=true:=fun e=>by
   rw[u8!]at *;exact fun k a=>ih k a (e k a)
  rw[cY!,cY!];split
  ·simp only[Bool.or_eq_true];exact fun e=>e.imp id h1
  ·split
   ·exact h1
   ·split
    ·exact h3
    ·split
     ·exact h4
     ·exact id
def newS (fs:List FT)(s:P3)(l:List Bool)(i:Nat):Bool:=!l.getD i true&&(match fs[i]? with | some f=>holdF s l f | none=>false)
def inN (fs:List FT)(s:P3)(n:Nat):Nat->List Bool
 | 0=>List.replicate n false
 | r+1=>(List.range n).map fun i=>(inN fs s n r).getD i false||newS fs s (inN fs s n r) i
def outN (fs:List FT)(s:P3)(n:Nat):Nat->List Int
 | 0=>List.replicate n 0
 | r+1=>(List.range n).map fun i=>if newS fs s (inN fs s n r) i=true then((r+1:Nat):Int)else(outN fs s n r).getD i 0
def EndS (fs:List FT)(s:P3)(n r:Nat):Prop:=∀i,i<n->newS fs s (inN fs s n r) i=false
section
variable {fs : List FT} {s : P3} {n : Nat}
theorem ai! (r:Nat):(inN fs s n r).length=n:=by cases r <;> simp[inN]
theorem aK! (r:Nat):(outN fs s n r).length=n:=by cases r <;> simp[outN]
theorem eO! (i:Nat):(inN fs s n 0).getD i false=false:=by
 rw[inN,n8!,List.getElem?_replicate];split <;> rfl
theorem bh! {i:Nat}(h:i<n)(r:Nat):(inN fs s n (r+1)).getD i false=((inN fs s n r).getD i false||newS fs s (inN fs s n r) i):=by
 rw[inN,n8!,List.getElem?_map,List.getElem?_range h];rfl
theorem ll! (i:Nat):(outN fs s n 0).getD i 0=0:=by
 rw[outN,n8!,List.getElem?_replicate];split <;> rfl
theorem eF! {i:Nat}(h:i<n)(r:Nat):(outN fs s n (r+1)).getD i 0=if newS fs s (inN fs s n r) i=true then((r+1:Nat):Int)else(outN fs s n r).getD i 0:=by
 rw[outN,n8!,List.getElem?_map,List.getElem?_range h];rfl
theorem dT! {a b:List Bool}(hl:a.length=b.length)(h:∀i,i<a.length->a.getD i false=b.getD i false):a=b:=by
 refine List.ext_getElem hl fun i h1 h2=>?_;have:=h i h1;rwa[n8!,n8!,n4! h1,n4! h2]at this
theorem mF! {a b:List Int}(hl:a.length=b.length)(h:∀i,i<a.length->a.getD i 0=b.getD i 0):a=b:=by
 refine List.ext_getElem hl fun i h1 h2=>?_;have:=h i h1;rwa[n8!,n8!,n4! h1,n4! h2]at this
theorem EndS.inL {r:Nat}(h:EndS fs s n r):∀k,inN fs s n (r+k)=inN fs s n r
 | 0=>rfl
 | k+1=>by
  have ih:=EndS.inL h k;refine dT! (by rw[ai!,ai!]) fun i hi=>?_;rw[ai!]at hi;rw[<-Nat.add_assoc,bh! hi,ih,h i hi,Bool.or_false]
theorem EndS.outL {r:Nat}(h:EndS fs s n r):∀k,outN fs s n (r+k)=outN fs s n r
 | 0=>rfl
 | k+1=>by
  have ih:=EndS.outL h k;refine mF! (by rw[aK!,aK!]) fun i hi=>?_;rw[aK!]at hi;rw[<-Nat.add_assoc,eF! hi,ih,h.inL k,h i hi];rfl
theorem EndS.uniq {r r':Nat}(h:EndS fs s n r)(k:EndS fs s n r'):outN fs s n r=outN fs s n r'/\inN fs s n r=inN fs s n r':=by
 rcases Nat.le_total r r' with hl | hl
 ·obtain⟨d,rfl⟩:=Nat.exists_eq_add_of_le hl;exact⟨(h.outL d).symm,(h.inL d).symm⟩
 ·obtain⟨d,rfl⟩:=Nat.exists_eq_add_of_le hl;exact⟨k.outL d,k.inL d⟩
theorem gb! (r:Nat) {i:Nat}(h:i<n):0<=(outN fs s n r).getD i 0/\(outN fs s n r).getD i 0<=(r:Int)/\((inN fs s n r).getD i false=true↔0<(outN fs s n r).getD i 0):=by
 induction r with
 | zero=>rw[ll!,eO!];simp
 | succ r ih =>
  rw[eF! h,bh! h];by_cases hn:newS fs s (inN fs s n r) i=true
  ·rw[if_pos hn,hn];refine⟨by omega,by omega,⟨fun _=>by omega,fun _=>by simp⟩⟩
  ·have hf:newS fs s (inN fs s n r) i=false:=by simpa using hn
   rw[if_neg hn,hf,Bool.or_false];exact⟨ih.1,by omega,ih.2.2⟩
theorem gh! {l:List Bool}{i:Nat}(h:newS fs s l i=true):l.getD i true=false:=by
 unfold newS at h;simp only[v0!,Bool.not_eq_true']at h;exact h.1
theorem hd! (r:Nat) {i:Nat}(h:i<n)(hi:(inN fs s n r).getD i false=true):(inN fs s n (r+1)).getD i false=true:=by
 rw[bh! h,hi,Bool.true_or]
def cntT (l:List Bool):Nat:=(l.filter id).length
theorem mJ! (l:List Bool):cntT l<=l.length:=x8! _ _
theorem hl!:∀ {a b:List Bool},a.length=b.length->(∀i,i<a.length->a.getD i false=true->b.getD i false=true)->(∃i,i<a.length/\a.getD i false=false/\b.getD i false=true)->cntT a<cntT b
 | [],[],_,_,h=>by obtain⟨i,hi,_⟩:=h;simp at hi
 | x::a,y::b,hl,hm,h=>by
  have hl':a.length=b.length:=by simpa using hl
  have hm':∀i,i<a.length->a.getD i false=true->b.getD i false=true:=fun i hi e=>by
   have:=hm (i+1) (by simpa using hi) (by simpa using e);simpa using this
  have h0:=hm 0 (by simp);simp only[List.getD_cons_zero]at h0
  have a1:cntT a<=cntT b:=by
   by_cases he:∃i,i<a.length/\a.getD i false=false/\b.getD i false=true
   ·exact Nat.le_of_lt (hl! hl' hm' he)
   ·have:a=b:=dT! hl' fun i hi=>by
     cases d:a.getD i false with
     | true=>exact(hm' i hi d).symm
     | false =>
      cases c:b.getD i false with
      | false=>rfl
      | true=>exact absurd ⟨i,hi,d,c⟩ he
    rw[this];exact n0! _
  obtain⟨i,hi,d,c⟩:=h;cases i with
  | zero =>
   simp only[List.getD_cons_zero]at d c;subst d c;unfold cntT at *;simp only[List.filter_cons,id,if_true,u7!,Bool.false_eq_true,if_false];omega
  | succ i =>
   simp only[List.getD_cons_succ,u7!]at d c hi;have a0:=hl! hl' hm' ⟨i,by omega,d,c⟩;unfold cntT at *;cases x <;> cases y <;> simp only[List.filter_cons,id,if_true,u7!,Bool.false_eq_true,if_false]
   ·exact a0
   ·omega
   ·have:=h0 rfl;cases this
   ·omega
theorem dQ! {l:List Bool}{i:Nat}(h:i<l.length):l.getD i true=l.getD i false:=by
 rw[n8!,n8!,n4! h];rfl
theorem pi!:∃r,r<=n/\EndS fs s n r:=by
 refine Classical.byContradiction fun hno=>?_
 have h:∀r,r<=n->∃i,i<n/\newS fs s (inN fs s n r) i=true:=fun r hr=>by
  refine Classical.byContradiction fun h2=>hno ⟨r,hr,fun i d=>?_⟩;cases e:newS fs s (inN fs s n r) i with
  | false=>rfl
  | true=>exact absurd ⟨i,d,e⟩ h2
 have hc:∀r,r<=n+1->r<=cntT (inN fs s n r):=by
  intro r;induction r with
  | zero=>intro _;exact v1! _
  | succ r ih =>
   intro hr;have h1:=ih (by omega);obtain⟨i,d,c⟩:=h r (by omega)
   have:=hl! (a:=inN fs s n r) (b:=inN fs s n (r+1)) (by rw[ai!,ai!]) (fun j hj e=>hd! r (by rwa[ai!]at hj) e)
    ⟨i,by rw[ai!];exact d,by rw[<-dQ! (by rw[ai!];exact d)];exact gh! c,by rw[bh! d,c,Bool.or_true]⟩
   omega
 have h1:=hc (n+1) (n0! _);have h2:=mJ! (inN fs s n (n+1));rw[ai!]at h2;omega
end
noncomputable def aX! (fs:List FT) (s:P3) (n:Nat):List Int:=outN fs s n n
theorem kk! (fs:List FT)(s:P3)(n:Nat):EndS fs s n n:=by
 obtain⟨r,hr,h⟩:=pi! (fs:=fs) (s:=s) (n:=n);obtain⟨d,rfl⟩:=Nat.exists_eq_add_of_le hr;intro i hi;rw[h.inL d];exact h i hi
theorem EndS.solve {fs:List FT}{s:P3}{n r:Nat}(h:EndS fs s n r):outN fs s n r=aX! fs s n:=(h.uniq (kk! fs s n)).1
mutual
def holdT (T:List Tup)(s:P3)(X:P3->Prop)(p:P3):RT->Prop
 | .mk k a b ps=>if k=1 then s∈ak! T p\/∃q∈co! (ak! T p),X q else if k=2 then X ⟨p.t,p.i,a⟩else if k=3 then ∃q∈viaOf b (ak! T ⟨p.t,p.i,a⟩),X q else if k=4 then anyTT T s X p ps else if k=5 then allTT T s X p ps else False
def anyTT (T:List Tup)(s:P3)(X:P3->Prop)(p:P3):List RT->Prop | []=>False | r::rs=>holdT T s X p r\/anyTT T s X p rs
def allTT (T:List Tup)(s:P3)(X:P3->Prop)(p:P3):List RT->Prop | []=>True | r::rs=>holdT T s X p r/\allTT T s X p rs
end
theorem kz! (T:List Tup)(s:P3)(X:P3->Prop)(p:P3):∀ps,anyTT T s X p ps↔∃r∈ps,holdT T s X p r
 | []=>by rw[anyTT];simp
 | r::rs=>by rw[anyTT,kz! T s X p rs];simp
theorem kB! (T:List Tup)(s:P3)(X:P3->Prop)(p:P3):∀ps,allTT T s X p ps↔∀r∈ps,holdT T s X p r
 | []=>by rw[allTT];simp
 | r::rs=>by rw[allTT,kB! T s X p rs];simp
theorem nK! (T:List Tup)(s:P3)(X:P3->Prop)(p:P3)(k:Int)(a b:ByteArray)(ps:List RT):holdT T s X p (.mk k a b ps)↔if k=1 then s∈ak! T p\/∃q∈co! (ak! T p),X q else if k=2 then X ⟨p.t,p.i,a⟩else if k=3 then ∃q∈viaOf b (ak! T ⟨p.t,p.i,a⟩),X q else if k=4 then ∃x∈ps,holdT T s X p x else if k=5 then ∀x∈ps,holdT T s X p x else False:=by
 rw[holdT,kz!,kB!]
theorem gl! (T:List Tup)(s:P3)(X:P3->Prop)(p:P3)(r:RT):holdT T s X p r↔if r.k=1 then s∈ak! T p\/∃q∈co! (ak! T p),X q else if r.k=2 then X ⟨p.t,p.i,r.a⟩else if r.k=3 then ∃q∈viaOf r.b (ak! T ⟨p.t,p.i,r.a⟩),X q else if r.k=4 then ∃x∈r.ps,holdT T s X p x else if r.k=5 then ∀x∈r.ps,holdT T s X p x else False:=by
 obtain⟨k,a,b,ps⟩:=r;exact nK! T s X p k a b ps
theorem fk! {T:List Tup}{p x:P3}:x∈ak! T p↔∃t∈T,t.o=p/\t.s=x:=by
 refine⟨cl!,?_⟩;rintro⟨t,ht,h1,rfl⟩;exact u6!.2 ⟨t,List.mem_filter.2 ⟨ht,by simpa using h1⟩,rfl⟩
theorem iK! {l:List P3}{x:P3}:x∈co! l↔x∈l/\x.r≠⟨#[]⟩:=by
 unfold co!;rw[List.mem_filter];simp
def DenN (ts:List TyS)(T:List Tup)(shut:List R2)(s:P3):Nat->P3->Prop
 | 0=>fun _=>False
 | n+1=>fun p=>DenN ts T shut s n p\/∃r,bb! ts shut p=some r/\holdT T s (DenN ts T shut s n) p r
def Den (ts:List TyS)(T:List Tup)(shut:List R2)(s:P3)(p:P3):Prop:=∃n,DenN ts T shut s n p
section
variable {ts : List TyS} {T U : List Tup} {shut more : List R2} {s p q : P3}
theorem DenN.le {n m:Nat}(h:DenN ts T shut s n p)(hl:n<=m):DenN ts T shut s m p:=by
 obtain⟨d,rfl⟩:=Nat.exists_eq_add_of_le hl;induction d with
 | zero=>exact h
 | succ d ih=>exact .inl (ih (by omega))
theorem Den.said {t:Tup}(ht:t∈T) {r:RT}(hr:bb! ts shut t.o=some r)(hk:r.k=1):Den ts T shut t.s t.o :=
 ⟨1,.inr ⟨r,hr,by rw[gl!,if_pos hk];exact .inl (fk!.2 ⟨t,ht,rfl,rfl⟩)⟩⟩
end
/-! A graph's rounds. -/
theorem nt! {ps P:List P3}(h:ps <+: P) {q:P3}(hq:q∈ps):numD P q=numD ps q:=by
 obtain⟨t,rfl⟩:=h;unfold numD;rw[List.findIdx_append,if_pos];exact List.findIdx_lt_length_of_exists ⟨q,hq,by simp⟩
theorem eJ! {ps P:List P3}{q:P3}(h:putP ps q <+: P):numD ps q=numD P q:=by
 rw[nt! h ((cb! ps q q).2 (.inr rfl))];unfold putP;split
 ·rfl
 ·next hn =>
  rw[show numD ps q=ps.length from by
   unfold numD;rw[List.findIdx_eq_length];intro x hx;simp only[decide_eq_false_iff_not];exact fun e=>hn (e▸hx)]
  unfold numD
  rw[List.findIdx_append,if_neg (by
   rw[show ps.findIdx (fun x=>decide (x=q))=ps.length from by
    rw[List.findIdx_eq_length];intro x hx;simp only[decide_eq_false_iff_not];exact fun e=>hn (e▸hx)]
   omega)]
  simp
theorem cT! {P:List P3}{q:P3}(h:q∈P):∃hi:numD P q<P.length,P[numD P q]=q:=by
 have hi:numD P q<P.length:=List.findIdx_lt_length_of_exists ⟨q,h,by simp⟩;refine⟨hi,?_⟩;exact of_decide_eq_true (List.findIdx_getElem (xs:=P) (p:=fun x=>decide (x=q)) (w:=hi))
def Tells (P:List P3)(X:P3->Prop)(l:List Bool):Prop:=∀q∈P,(X q↔inAt l (numD P q)=true)
theorem eC! {P:List P3}{X:P3->Prop}{l:List Bool}(hX:Tells P X l):∀(L ps:List P3)(out:List Int),(refsD ps out L).2 <+: P->((refsD ps out L).1.any (inAt l)=true↔out.any (inAt l)=true\/∃q∈L,X q)
 | [],ps,out,_=>by simp[refsD]
 | q::L,ps,out,h=>by
  rw[refsD]at h ⊢;have hp:putP ps q <+: P:=(cr! L _ _).trans h;have hm:q∈P:=hp.subset ((cb! ps q q).2 (.inr rfl));rw[eC! hX L _ _ h,eJ! hp];have hq:=hX q hm;constructor
  ·rintro(h1 | ⟨x,hx,h1⟩)
   ·split at h1
    ·exact .inl h1
    ·rw[List.any_append,Bool.or_eq_true]at h1;rcases h1 with h1 | h1
     ·exact .inl h1
     ·exact .inr ⟨q,by simp,hq.2 (by simpa using h1)⟩
   ·exact .inr ⟨x,u9! _ hx,h1⟩
  ·rintro(h1 | ⟨x,hx,h1⟩)
   ·left
    split
    ·exact h1
    ·rw[List.any_append,h1,Bool.true_or]
   ·rcases v7!.1 hx with rfl | hx
    ·left
     split
     ·next hin=>exact x5!.2 ⟨_,hin,hq.1 h1⟩
     ·rw[List.any_append,Bool.or_eq_true];right
      simpa using hq.1 h1
    ·exact .inr ⟨x,hx,h1⟩
theorem ke! {T:List Tup}{s:P3}{P:List P3}{X:P3->Prop}{l:List Bool}(hX:Tells P X l)(p:P3)(r:RT):∀ps:List P3,(formD T p r ps).2 <+: P->(holdF s l (formD T p r ps).1=true↔holdT T s X p r):=by
 induction r using RT.ind with
 | h r ih =>
  intro ps h;rw[bA!]at h ⊢;dsimp only at h ⊢;have d:(headF T p r.k r.a r.b ps).2.2 <+: P:=(bK! T p r.ps _).trans h
  have c:∀(L:List RT) (qs:List P3),(∀x∈L,x∈r.ps)->(ar! T p L qs).2 <+: P ->
    (((ar! T p L qs).1.any (holdF s l)=true↔∃x∈L,holdT T s X p x)/\((ar! T p L qs).1.all (holdF s l)=true↔∀x∈L,holdT T s X p x)):=by
   intro L;induction L with
   | nil=>intro qs _ _;simp[ar!]
   | cons x L ihl =>
    intro qs hx hp;rw[ar!]at hp ⊢;have h1:=ih x (hx x (by simp)) qs ((bK! T p L _).trans hp);obtain⟨h2,h3⟩:=ihl (formD T p x qs).2 (fun y hy=>hx y (u9! _ hy)) hp;constructor
    ·rw[List.any_cons,Bool.or_eq_true,h1,h2];simp
    ·rw[List.all_cons,v0!,h1,h3];simp
  obtain⟨h2,h3⟩:=c r.ps _ (fun _ h=>h) h;rw[bJ!,gl!];by_cases k1:r.k=1
  ·rw[if_pos k1,if_pos k1];unfold headF at d ⊢;rw[if_pos k1]at d ⊢;rw[Bool.or_eq_true,eC! hX _ _ _ d];simp
  ·rw[if_neg k1,if_neg k1];by_cases k2:r.k=2
   ·rw[if_pos (.inl k2),if_pos k2];unfold headF at d ⊢;rw[if_neg k1,if_pos k2]at d ⊢;have hq:=hX ⟨p.t,p.i,r.a⟩ (d.subset ((cb! ps _ _).2 (.inr rfl)));rw[eJ! d];simpa using hq.symm
   ·rw[if_neg k2];by_cases k3:r.k=3
    ·rw[if_pos (.inr k3),if_pos k3];unfold headF at d ⊢;rw[if_neg k1,if_neg k2,if_pos k3]at d ⊢;rw[eC! hX _ _ _ d];simp
    ·rw[if_neg (by simp[k2,k3]),if_neg k3];by_cases k4:r.k=4
     ·rw[if_pos k4,if_pos k4];exact h2
     ·rw[if_neg k4,if_neg k4];by_cases k5:r.k=5
      ·rw[if_pos k5,if_pos k5];exact h3
      ·rw[if_neg k5,if_neg k5];simp
theorem du! (ts:List TyS)(T:List Tup)(shut:List R2)(p:P3) {i:Nat}:∀ {n:Nat},i<n->(walkN ts T shut p n).2[i]?=some (stepG ts T shut ((walkN ts T shut p i).1.getD i p) (walkN ts T shut p i).1).1
 | n+1,h=>by
  rw[walkN];dsimp only;by_cases e:i=n
  ·subst e;rw[List.getElem?_append_right (by rw[aF!];exact n0! _),aF!];simp
  ·rw[List.getElem?_append_left (by rw[aF!];omega)];exact du! ts T shut p (by omega)
section
variable {ts : List TyS} {T : List Tup} {shut : List R2} {p : P3} {most : Int} {n : Nat}
theorem pW!.point (h:pW! ts T shut p most n) {i:Nat}(hi:i<n):∃hi2:i<(walkN ts T shut p n).1.length,(walkN ts T shut p i).1.getD i p=(walkN ts T shut p n).1[i]:=by
 have h1:=(h.1 i hi).1;refine⟨by rw[<-h.2];exact hi,?_⟩;obtain⟨t,ht⟩:=bM! ts T shut p i n (Nat.le_of_lt hi);rw[n8!,n4! h1];simp only[Option.getD_some,<-ht];rw[List.getElem_append_left h1]
theorem pW!.den (h:pW! ts T shut p most n)(s:P3):∀r,Tells (walkN ts T shut p n).1 (DenN ts T shut s r) (inN (walkN ts T shut p n).2 s n r)
 | 0=>fun q hq=>by
  unfold inAt;rw[Int.toNat_natCast,eO!,Bool.and_false,DenN];simp
 | r+1=>fun q hq=>by
  have ih:=pW!.den h s r;obtain⟨hi,hget⟩:=cT! hq;have hin:numD (walkN ts T shut p n).1 q<n:=Nat.lt_of_lt_of_eq hi h.2.symm;have h0:=ih q hq;unfold inAt at h0 ⊢;rw[Int.toNat_natCast]at h0 ⊢;have hd:decide ((0:Int)<=(numD (walkN ts T shut p n).1 q:Int))=true:=by simp
  rw[hd,Bool.true_and]at h0 ⊢;rw[bh! hin]
  have hf:newS (walkN ts T shut p n).2 s (inN (walkN ts T shut p n).2 s n r) (numD (walkN ts T shut p n).1 q)=true\/(inN (walkN ts T shut p n).2 s n r).getD (numD (walkN ts T shut p n).1 q) false=true↔(∃rl,bb! ts shut q=some rl/\holdT T s (DenN ts T shut s r) q rl)\/DenN ts T shut s r q:=by
   rw[h0];by_cases hc:(inN (walkN ts T shut p n).2 s n r).getD (numD (walkN ts T shut p n).1 q) false=true
   ·simp only[hc,or_true]
   ·simp only[hc,Bool.false_eq_true,or_false];unfold newS;rw[dQ! (by rw[ai!];exact hin)];have a0:(inN (walkN ts T shut p n).2 s n r).getD (numD (walkN ts T shut p n).1 q) false=false:=by simpa using hc
    rw[a0,Bool.not_false,Bool.true_and,du! ts T shut p hin];obtain⟨_,e⟩:=h.point hin;rw[e,hget]
    have a:(stepG ts T shut q (walkN ts T shut p (numD (walkN ts T shut p n).1 q)).1).2 <+: (walkN ts T shut p n).1:=by
     have:=bM! ts T shut p (numD (walkN ts T shut p n).1 q+1) n hin;rw[walkN,e,hget]at this;exact this
    unfold stepG at a ⊢;cases hr:bb! ts shut q with
    | none =>
     dsimp only;rw[cY!];simp[FT.zero,FT.k]
    | some rl =>
     rw[hr]at a;dsimp only at a ⊢;rw[ke! ih q rl _ a];simp
  rw[Bool.or_eq_true];exact⟨fun e=>(hf.2 e.symm).symm,fun e=>(hf.1 e.symm).symm⟩
theorem pW!.den_iff (h:pW! ts T shut p most n)(s:P3):Den ts T shut s p↔0<(aX! (walkN ts T shut p n).2 s n).getD 0 0:=by
 have hn:0<n:=by
  have h2:=h.2;have:=dh! ts T shut p (v1! n);rw[<-h2,walkN]at this;simp at this;omega
 have b:=hy! ts T shut p n;have hp:p∈(walkN ts T shut p n).1:=List.mem_of_getElem? b
 have hz:numD (walkN ts T shut p n).1 p=0:=by
  unfold numD;cases hl:(walkN ts T shut p n).1 with
  | nil=>rw[hl]at hp;cases hp
  | cons x l =>
   rw[hl]at b;simp only[List.getElem?_cons_zero,Option.some.injEq]at b;rw[List.findIdx_cons];simp[b]
 have a:∀r,DenN ts T shut s r p↔(inN (walkN ts T shut p n).2 s n r).getD 0 false=true:=fun r=>by
  have:=h.den s r p hp;rw[hz]at this;simpa [inAt] using this
 unfold aX!;rw[<- (gb! (fs:=(walkN ts T shut p n).2) (s:=s) n hn).2.2,<-a n];refine⟨fun⟨r,hr⟩=>?_,fun h=>⟨n,h⟩⟩;rcases Nat.le_total r n with hl | hl
 ·exact hr.le hl
 ·obtain⟨d,rfl⟩:=Nat.exists_eq_add_of_le hl;rw[a]at hr ⊢;rwa[(kk! (walkN ts T shut p n).2 s n).inL d]at hr
end
def ahead (ops:Array Oper):Nat->Nat->Nat->Bool
 | 0,_,_=>false
 | f+1,i,j=>match ops[j]? with
  | some o=>o.after.any fun e=>Region.binds .any e&&(e.on == i||ahead ops f i e.on)
  | none=>false
def pM! (ops:Array Oper)(l:Array Bool):Prop :=
 ∀j o,ops[j]?=some o->l.getD j false=true->∀e∈o.after,Region.binds .any e=true->l.getD e.on false=true
theorem ce! {ops:Array Oper}{l:Array Bool}(hc:pM! ops l):∀(f i j:Nat),ahead ops f i j=true ->
  (∀o,ops[j]?=some o->∀e∈o.after,Region.binds .any e=true->l.getD e.on false=true)->l.getD i false=true
 | 0,_,_,h,_=>by simp[ahead]at h
 | f+1,i,j,h,hl=>by
  unfold ahead at h;cases ho:ops[j]? with
  | none=>rw[ho]at h;simp at h
  | some o =>
   rw[ho]at h;simp only[Array.any_eq_true',v0!,Bool.or_eq_true,beq_iff_eq]at h;obtain⟨e,he,hb,h⟩:=h;have h1:=hl o ho e he hb;rcases h with h | h
   ·exact h▸h1
   ·exact ce! hc f i e.on h fun o' ho' e' he' hb'=>hc _ o' ho' h1 e' he' hb'
theorem pM!.set {ops:Array Oper}{l:Array Bool}(hc:pM! ops l) {j:Nat}(hj:j∈Region.ready .any ops l):pM! ops (l.setIfInBounds j true):=by
 intro k o ho hk e he hb;refine getD_set_true ?_;by_cases hkj:k=j
 ·subst hkj;obtain⟨_,o',b,a⟩:=mem_ready.1 hj;rw[ho]at b;cases b;exact a e he hb
 ·rw[getD_set_ne false (Ne.symm hkj)]at hk;exact hc k o ho hk e he hb
theorem pM!.start (ops:Array Oper)(n:Nat):pM! ops (Array.replicate n false):=by
 intro j o _ hj;simp only[Array.getD_eq_getD_getElem?,Array.getElem?_replicate]at hj;split at hj <;> simp at hj
section
variable {P : Program} {ops : Array Oper} {Q : Exit -> Act -> World -> Prop} {S : World -> Prop} {L : Nat}
def hw! (P:Program)(ops:Array Oper)(Q:Exit->Act->World->Prop)(S:World->Prop)(L:Nat):Nat->Array Bool->Act->World->Prop
 | 0,l,a,w=>Region.ready .any ops l=[]/\Q .normal a w
 | f+1,l,a,w=>(Region.ready .any ops l=[]->Q .normal a w) /\
   ∀i∈Region.ready .any ops l,wpOp P ops Q i (fun a' w'=>(i≠L->S w')/\hw! P ops Q S L f (l.setIfInBounds i true) a' w') a w
theorem fc!:∀(f:Nat)(l:Array Bool)(a:Act)(w:World),hw! P ops Q S L f l a w->wpAny P .any ops Q f l a w
 | 0,_,_,_,h=>h
 | f+1,_,_,_,h=>⟨h.1,fun i hi=>wpOp_mono (fun a' w' k=>fc! f _ a' w' k.2) (h.2 i hi)⟩
theorem ed! {l:Array Bool}{a:Act}{w:World}(hr:Region.ready .any ops l=[])(h:Q .normal a w):∀f,hw! P ops Q S L f l a w
 | 0=>⟨hr,h⟩
 | _+1=>⟨fun _=>h,by rw[hr];simp⟩
theorem dw! {l:Array Bool}{i:Nat}(h:l.getD i true=false)(k:l.getD i false=true):False:=by
 rcases Nat.lt_or_ge i l.size with h' | h'
 ·simp[h']at h k;rw[h]at k;cases k
 ·simp[Array.getElem?_eq_none h']at k
theorem hv! {i:Nat}{oi:Oper}{v:Value}(hi:ops[i]?=some oi)(hsel:Region.noSelect ops=true)
  (hQ:∀c a w,Q (.panic c) (Act.put a oi.dst v) w->Q (.panic c) a w) {n:Nat} (hL:ahead ops n i L=true) :
  ∀(f:Nat) (l:Array Bool) (a:Act) (w:World),pM! ops l ->
   (∀j oj,ops[j]?=some oj->j≠i->l.getD j true=false->(∀e∈oj.after,Region.binds .any e=true->e.on≠i)->oi.apart ops oj=true) ->
   i∈Region.ready .any ops l->YieldsIf P ops S oi v a->S w->hw! P ops Q S L f (l.setIfInBounds i true) (a.put oi.dst v) w->hw! P ops Q S L (f+1) l a w:=by
 intro f;induction f with
 | zero =>
  intro l a w _ _ hr hy hS H;refine⟨fun h=>(by rw[h]at hr;cases hr),fun j hj=>?_⟩;by_cases hji:j=i
  ·subst hji;exact hy.wpOp hi hS ⟨fun _=>hS,H⟩
  ·have:=ready_mono hj hji;rw[H.1]at this;cases this
 | succ f ih =>
  intro l a w hc hfree hr hy hS H;refine⟨fun h=>(by rw[h]at hr;cases hr),fun j hj=>?_⟩;by_cases hji:j=i
  ·subst hji;exact hy.wpOp hi hS ⟨fun _=>hS,H⟩
  ·obtain⟨g,oj,q,p⟩:=mem_ready.1 hj;have d:=(mem_ready.1 hr).1
   have a0:j≠L:=by
    intro e;subst e;exact dw! d (ce! hc n i j hL fun o ho e he hb=>by rw[q]at ho;cases ho;exact p e he hb)
   have r:∀e∈oj.after,Region.binds .any e=true->e.on≠i:=fun e he hb heq=>dw! d (heq▸p e he hb);have h2:=wpOp_putIf q (hfree j oj q hji g r) (fun cs b=>Region.noSelect_spec hsel i oi cs b hi) (fun cs b=>Region.noSelect_spec hsel j oj cs b q) hQ hy (H.2 j (ready_mono hj hji));refine wpOp_mono (fun a' w' k=>⟨k.2.1,ih (l.setIfInBounds j true) a' w' (hc.set hj) (fun m om hom hmi hun hno=>?_) (ready_mono hr (Ne.symm hji)) k.1 (k.2.1 a0) ?_⟩) h2
   ·refine hfree m om hom hmi ?_ hno;by_cases hjm:j=m
    ·exact hjm▸g
    ·rwa[getD_set_ne true hjm]at hun
   ·rw[Array.setIfInBounds_comm _ _ hji];exact k.2.2
def WalkL (P:Program)(ops:Array Oper)(Q:Exit->Act->World->Prop)(S:World->Prop)(L:Nat):Nat->Array Bool->Act->World->Prop
 | 0,l,a,w=>Region.ready .any ops l=[]/\Q .normal a w
 | f+1,l,a,w=>(Region.ready .any ops l=[]/\Q .normal a w) \/
   (∃i o v,ops[i]?=some o/\Region.free .any ops l i=true/\(Region.ready .any ops l).contains i=true/\ahead ops ops.size i L=true/\YieldsIf P ops S o v a/\WalkL P ops Q S L f (l.setIfInBounds i true) (a.put o.dst v) w) \/
   (Region.ready .any ops l≠[]/\∀i∈Region.ready .any ops l,∃o,ops[i]?=some o/\∀K':Act->World->Prop,Shut (∀a' w',S w'->WalkL P ops Q S L f (l.setIfInBounds i true) a' w'->K' a' w') ->
    if Region.wanted o (yielded ops a.tmps)=true then Oper.wp P o a w K' Q else K' (a.put o.dst undef) w) \/
   (Region.ready .any ops l=[L]/\Region.ready .any ops (l.setIfInBounds L true)=[]/\∃o,ops[L]?=some o/\Region.wanted o (yielded ops a.tmps)=true/\∀K':Act->World->Prop,Shut (∀a' w',Q .normal a' w'->K' a' w')->Oper.wp P o a w K' Q)
theorem cJ! (hns:Region.noSelect ops=true)(hQ:∀c a d v w,Q (.panic c) (Act.put a d v) w->Q (.panic c) a w) :
  ∀(f:Nat) (l:Array Bool) (a:Act) (w:World),pM! ops l->S w->WalkL P ops Q S L f l a w->hw! P ops Q S L f l a w
 | 0,_,_,_,_,_,h=>h
 | f+1,l,a,w,hc,hs,h=>by
  rcases h with⟨h1,h2⟩|⟨i,o,v,ho,hf,hr,hL,hy,h⟩|⟨hne,h⟩|⟨h1,h2,o,ho,hw,h⟩
  ·exact ed! h1 h2 _
  ·exact hv! ho hns (fun c a w=>hQ c a _ _ w) hL f l a w hc (Region.free_spec ho hf) (by simpa using hr) hy hs (cJ! hns hQ f _ _ w (hc.set (by simpa using hr)) hs h)
  ·refine⟨fun e=>absurd e hne,fun i hi=>?_⟩;obtain⟨o,ho,hst⟩:=h i hi;exact wpOp_step ho (fun K' hK=>hst K' (fun a' w' he hw=>hK a' w' ⟨fun _=>he,cJ! hns hQ f _ a' w' (hc.set hi) he hw⟩))
  ·refine⟨fun e=>(by rw[e]at h1;exact absurd h1.symm (List.cons_ne_nil _ _)),fun i hi=>?_⟩;rw[h1]at hi;obtain rfl:i=L:=by simpa using hi
   exact wpOp_step ho (fun K' hK=>by rw[if_pos hw];exact h K' (fun a' w' hq=>hK a' w' ⟨fun e=>absurd rfl e,ed! h2 hq _⟩))
theorem as! {id:Nat}{a:Act}{w:World}(L:Nat)(S:World->Prop)(hS:S w.drew)(hm:P.follows .mixedOrders=true)(hns:Region.noSelect ops=true)(hQ:∀c a d v w,Q (.panic c) (Act.put a d v) w->Q (.panic c) a w)
  (h:WalkL P ops Q S L ops.size (Array.replicate ops.size false) a w.drew):(Code.region id ops true).wp P Q a w :=
 wp_region_any hm (fc! _ _ _ _ (cJ! hns hQ _ _ a w.drew (pM!.start _ _) hS h))
theorem WalkL.take {f:Nat}{l:Array Bool}{a:Act}{w:World}(i:Nat)(o:Oper)(v:Value)(ho:ops[i]?=some o)(hf:Region.free .any ops l i=true)(hr:(Region.ready .any ops l).contains i=true)(hL:ahead ops ops.size i L=true)
  (hw:Region.wanted o (yielded ops a.tmps)=true) (hy:∀W,S W->(execOp a.eval o).run P W= .ok (.value v) W) (h:WalkL P ops Q S L f (l.setIfInBounds i true) (a.put o.dst v) w):WalkL P ops Q S L (f+1) l a w :=
 .inr (.inl ⟨i,o,v,ho,hf,hr,hL,.inl ⟨hw,hy⟩,h⟩)
def TkL (P:Program)(ops:Array Oper)(Q:Exit->Act->World->Prop)(S:World->Prop)(L:Nat):List Nat->Nat->Array Bool->Act->World->Prop
 | [],f,l,a,w=>WalkL P ops Q S L f l a w
 | i::is,f,l,a,w=>∃g,f=g+1/\∃o v,ops[i]?=some o/\Region.free .any ops l i=true/\(Region.ready .any ops l).contains i=true/\ahead ops ops.size i L=true/\Region.wanted o (yielded ops a.tmps)=true/\(∀W,S W->(execOp a.eval o).run P W= .ok (.value v) W)/\TkL P ops Q S L is g (l.setIfInBounds i true) (a.put o.dst v) w
theorem WalkL.tk (is:List Nat):∀ {f:Nat}{l:Array Bool}{a:Act}{w:World},TkL P ops Q S L is f l a w->WalkL P ops Q S L f l a w:=by
 induction is with
 | nil=>exact fun h=>h
 | cons i is ih =>
  rintro f l a w ⟨g,rfl,o,v,ho,hf,hr,hL,hw,hy,h⟩;exact WalkL.take i o v ho hf hr hL hw hy (ih h)
theorem TkL.c {f:Nat}{l:Array Bool}{a:Act}{w:World}{i:Nat}{is:List Nat}(o:Oper)(v:Value)(ho:ops[i]?=some o)(hf:Region.free .any ops l i=true)(hr:(Region.ready .any ops l).contains i=true)(hL:ahead ops ops.size i L=true)
  (hw:Region.wanted o (yielded ops a.tmps)=true) (hy:∀W,S W->(execOp a.eval o).run P W= .ok (.value v) W) (h:TkL P ops Q S L is f (l.setIfInBounds i true) (a.put o.dst v) w):TkL P ops Q S L (i::is) (f+1) l a w :=
 ⟨f,rfl,o,v,ho,hf,hr,hL,hw,hy,h⟩
theorem TkL.n {f:Nat}{l:Array Bool}{a:Act}{w:World}(h:WalkL P ops Q S L f l a w):TkL P ops Q S L [] f l a w:=h
def MadeL (P:Program)(ops:Array Oper)(Q:Exit->Act->World->Prop)(S:World->Prop)(L f:Nat)(l:Array Bool)(a:Act)(w:World)(i:Nat):Prop :=
 ∃o,ops[i]?=some o/\Region.wanted o (yielded ops a.tmps)=true/\∀K':Act->World->Prop,Shut (∀a' w',S w'->WalkL P ops Q S L f (l.setIfInBounds i true) a' w'->K' a' w')->Oper.wp P o a w K' Q
theorem WalkL.one {f:Nat}{l:Array Bool}{a:Act}{w:World}(i:Nat)(hr:Region.ready .any ops l=[i])(h:MadeL P ops Q S L f l a w i):WalkL P ops Q S L (f+1) l a w:=by
 refine .inr (.inr (.inl ⟨by rw[hr];simp,fun j hj=>?_⟩));rw[hr]at hj;obtain rfl:j=i:=by simpa using hj
 obtain⟨o,ho,hw,h⟩:=h;exact⟨o,ho,fun K hK=>by rw[if_pos hw];exact h K hK⟩
theorem WalkL.last {f:Nat}{l:Array Bool}{a:Act}{w:World}(hr:Region.ready .any ops l=[L])(hr':Region.ready .any ops (l.setIfInBounds L true)=[])
  (h:∃o,ops[L]?=some o/\Region.wanted o (yielded ops a.tmps)=true/\∀K':Act->World->Prop,Shut (∀a' w',Q .normal a' w'->K' a' w')->Oper.wp P o a w K' Q):WalkL P ops Q S L (f+1) l a w :=
 .inr (.inr (.inr ⟨hr,hr',h⟩))
end
theorem l! {P : Program}{ops : Array Oper}{Q : Exit -> Act -> World -> Prop}{S : World -> Prop}{L : Nat}{f : Nat}{l : Array Bool}{a : Act}{w : World}{i : Nat}{is : List Nat}{o : Oper}{v : Value}{G : Prop}(h : G) (ho : ops[i]? = some o := by simp only[gA,gS,gZ];rfl) (hf : Region.free .any ops l i = true := by kernel_rfl) (hr : (Region.ready .any ops l).contains i = true := by kernel_rfl) (hL : ahead ops ops.size i L = true := by kernel_rfl) (hw : Region.wanted o (yielded ops a.tmps) = true := by rfl) (hy : ∀W,S W->(execOp a.eval o).run P W=.ok (.value v) W := by intro W hW;go_simp;try with_reducible rfl) (hG : TkL P ops Q S L is f (l.setIfInBounds i true) (a.put o.dst v) w = G := by simp only[Act.put,pA,pZ,pS];rfl) : TkL P ops Q S L (i :: is) (f + 1) l a w := ⟨f, rfl, o, v, ho, hf, hr, hL, hw, hy, Eq.mpr hG h⟩
theorem oL! {P : Program}{ops : Array Oper}{Q : Exit -> Act -> World -> Prop}{S : World -> Prop}{L : Nat}{f : Nat}{l : Array Bool}{a : Act}{w : World}(i : Nat) (h : MadeL P ops Q S L f l a w i) (hr : Region.ready .any ops l = [i] := by kernel_rfl) : WalkL P ops Q S L (f + 1) l a w := WalkL.one i hr h
end Go.Proofs.YtlhaghoajpglaaaGreat
