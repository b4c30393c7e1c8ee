/- Lemmas for the claim, no condition. -/
import Derived.Test.YtlhaghoajpglaaaGreatProg
import Derived.WalkSpells
import Derived.WalkLawsBesides
import Derived.Lib.Hide
import Derived.Sort.Grow
import Derived.Deep.RegionHeld
import Derived.RangeFuncNested
import Derived.OwnWalkIn
import Derived.TacticsInMore
import Derived.LoopNIn
import Derived.LoopIn
import Derived.WalkKit
namespace Go.Proofs.YtlhaghoajpglaaaGreat
open Go Go.RowKit
theorem e! {α : Type}(x : α) : ∃y, y = x := ⟨_, rfl⟩
abbrev n0! := @Nat.le_refl
abbrev n1! := @Nat.lt_of_lt_of_le
abbrev n2! := @List.take_succ_eq_append_getElem
abbrev n3! := @ByteArray.size_append
abbrev n4! := @List.getElem?_eq_getElem
abbrev n5! := @List.getElem_mem
abbrev n6! := @Nat.le_trans
abbrev n7! := @beq_eq_false_iff_ne
abbrev n8! := @List.getD_eq_getElem?_getD
abbrev n9! := @List.mem_singleton
abbrev u0! := @List.getElem_of_mem
abbrev u1! := @decide_eq_true_eq
abbrev u2! := @List.take_length
abbrev u3! := @List.mem_append
abbrev u4! := @List.length_append
abbrev u5! := @ByteArray.toList_eq
abbrev u6! := @List.mem_map
abbrev u7! := @List.length_cons
abbrev u8! := @List.all_eq_true
abbrev u9! := @List.mem_cons_of_mem
abbrev v0! := @Bool.and_eq_true
abbrev v1! := @Nat.zero_le
abbrev v2! := @decide_eq_true
abbrev v3! := @decide_eq_false
abbrev v4! := @Nat.le_of_eq
abbrev v5! := @Option.some.inj
abbrev v6! := @List.length_nil
abbrev v7! := @List.mem_cons
abbrev v8! := @List.map_cons
abbrev v9! := @List.map_append
abbrev x0! := @List.eq_nil_of_length_eq_zero
abbrev x1! := @List.length_map
abbrev x2! := @List.cons_append
abbrev x3! := @List.pairwise_iff_getElem
abbrev x4! := @List.length_take
abbrev x5! := @List.any_eq_true
abbrev x6! := @List.take_append_drop
abbrev x7! := @Array.getElem?_eq_some_iff
abbrev x8! := @List.length_filter_le
abbrev x9! := @List.flatMap_append
abbrev y0! := @List.getElem?_eq_none
abbrev y1! := @ByteArray.append_assoc
abbrev y2! := @List.nil_append
abbrev y3! := @List.getElem?_eq_some_iff
abbrev y4! := @List.mem_cons_self
abbrev y5! := @List.flatMap_cons
abbrev y6! := @List.append_assoc
abbrev y7! := @Nat.mul_le_mul_right
theorem h! {p : Prop}(h : p) : Hid p := Lib.hid h
theorem gA {α : Type}(l : List α) (i : Nat) : l.toArray[i]? = l[i]? := List.getElem?_toArray
theorem gS {α : Type}(a : α) (l : List α) (i : Nat) : (a :: l)[i + 1]? = l[i]? := List.getElem?_cons_succ
theorem gZ {α : Type}(a : α) (l : List α) : (a :: l)[0]? = some a := List.getElem?_cons_zero
theorem pA {α : Type}(l : List α) (i : Nat) (a : α) : l.toArray.setIfInBounds i a = (l.set i a).toArray := List.setIfInBounds_toArray _ _ _
theorem pZ {α : Type}(a b : α) (l : List α) : (a :: l).set 0 b = b :: l := List.set_cons_zero
theorem pS {α : Type}(a b : α) (l : List α) (i : Nat) : (a :: l).set (i + 1) b = a :: l.set i b := List.set_cons_succ
structure pN! (P:Program)(t e:TypeId)(size bytes:Nat):Prop where
 und:P.underlying t=some (.slice e)
 row:∃i z,P.info? e=some i/\i.zero=some z/\i.size=size/\i.bytes=bytes/\z.cells.size=size
 pos:0<size
theorem pN!.mk' {P:Program}{t e:TypeId}{z:Value}{size bytes:Nat}(h1:P.underlying t=some (.slice e))
  (h2:(P.info? e).map (fun i=>(i.zero,i.size,i.bytes))=some (some z,size,bytes)) (h3:z.cells.size=size) (h4:0<size):pN! P t e size bytes:=by
 obtain⟨i,a,b,c,d⟩:=info_parts h2;exact⟨h1,⟨i,z,a,b,c,d,h3⟩,h4⟩
def Same (S:Nat->Prop)(w w':World):Prop:=∀b,S b->w'.heap[b]?=w.heap[b]?
theorem Same.mono {S T:Nat->Prop}{a b:World}(h:Same S a b)(k:∀x,T x->S x):Same T a b:=fun x hx=>h x (k x hx)
theorem Same.below {B:Nat}{a b:World}(h:Below B a b):Same (· < B) a b:=fun x hx=>h.block x hx
theorem Same.cell {S:Nat->Prop}{a b:World}(h:Same S a b) {p:Addr}(hp:S p.block):b.cell? p=a.cell? p:=World.cell?_of_block (h _ hp)
def Sl (S:Nat->Prop)(w:World)(sz:Nat)(v:Value)(xs:List Value):Prop :=
 ∃ao n c,v= .slice ao n c/\xs.length=n*sz/\n<=c/\c<=maxLen/\(ao=none->c=0) /\
  (xs≠[]->∃b off,ao=some ⟨b,off,none⟩/\S b/\∀j u,xs[j]?=some u->w.cell? ⟨b,off+j,none⟩=some u)
theorem Sl.same {S:Nat->Prop}{w w':World}{sz:Nat}{v:Value}{xs:List Value}(h:Sl S w sz v xs)(hs:Same S w w'):Sl S w' sz v xs:=by
 obtain⟨ao,n,c,rfl,h1,h2,h3,h4,h5⟩:=h;refine⟨ao,n,c,rfl,h1,h2,h3,h4,fun hne=>?_⟩;obtain⟨b,a,rfl,hb,hc⟩:=h5 hne;exact⟨b,a,rfl,hb,fun j u hu=>(hs.cell (p:=⟨b,a+j,none⟩) hb).trans (hc j u hu)⟩
theorem Sl.mono {S T:Nat->Prop}{w:World}{sz:Nat}{v:Value}{xs:List Value}(h:Sl S w sz v xs)(hs:∀b,S b->T b):Sl T w sz v xs:=by
 obtain⟨ao,n,c,rfl,h1,h2,h3,h4,h5⟩:=h;refine⟨ao,n,c,rfl,h1,h2,h3,h4,fun hne=>?_⟩;obtain⟨b,a0,rfl,hb,hc⟩:=h5 hne;exact⟨b,a0,rfl,hs b hb,hc⟩
theorem Sl.nil (S:Nat->Prop)(w:World)(sz:Nat):Sl S w sz (.slice none 0 0) []:=⟨none,0,0,rfl,by simp,n0! _,v1! _,fun _=>rfl,fun h=>absurd rfl h⟩
theorem Sl.made (w:World)(S:Nat->Prop)(sz n:Nat)(e:TypeId)(cs:Array Value)(hn:cs.size=n*sz)(hm:n<=maxLen)(hS:S w.heap.size) :
  Sl S (w.alloc (.cells cs e)) sz (.slice (some ⟨w.heap.size,0,none⟩) n n) cs.toList:=by
 refine⟨_,n,n,rfl,by simpa using hn,n0! _,hm,(fun h=>by cases h),fun _=>⟨w.heap.size,0,rfl,hS,fun j u hu=>?_⟩⟩;rw[cell_of_row _ w.heap.size (0+j) cs e (0,0) (heap_alloc_new w _)];simpa using hu
theorem Sl.take {S:Nat->Prop}{w:World}{sz:Nat}{ao:Option Addr}{n c:Nat}{xs:List Value}(h:Sl S w sz (.slice ao n c) xs)(k:Nat)(hk:k<=n):Sl S w sz (.slice ao k c) (xs.take (k*sz)):=by
 obtain⟨a1,n',c',hv,h1,h2,h3,h4,h5⟩:=h;cases hv;have a2:=y7! sz hk;refine⟨ao,k,c,rfl,by rw[x4!];omega,by omega,h3,h4,fun hne=>?_⟩;obtain⟨b,a0,rfl,hb,hc⟩:=h5 (fun e=>hne (by simp[e]));refine⟨b,a0,rfl,hb,fun j u hu=>hc j u ?_⟩;rw[List.getElem?_take]at hu;split at hu
 ·exact hu
 ·cases hu
theorem Sl.drop {S:Nat->Prop}{w:World}{ao:Option Addr}{n c:Nat}{xs:List Value}(h:Sl S w 1 (.slice ao n c) xs)(k:Nat)(hk:k<=n) :
  Sl S w 1 (.slice (Option.map (fun x=>x.add k) ao) (n-k) (c-k)) (xs.drop k):=by
 obtain⟨a1,n',c',hv,h1,h2,h3,h4,h5⟩:=h;cases hv;refine⟨_,n-k,c-k,rfl,by rw[List.length_drop];omega,by omega,by omega,fun h=>?_,fun hne=>?_⟩
 ·have:=h4 (by simpa using h);omega
 ·obtain⟨b,a0,rfl,hb,hc⟩:=h5 (fun e=>hne (by simp[e]));refine⟨b,a0+k,by simp[Addr.add_lit],hb,fun j u hu=>?_⟩;rw[List.getElem?_drop]at hu;rw[Nat.add_assoc];exact hc _ u hu
theorem Sl.len {S:Nat->Prop}{w:World}{sz:Nat}{v:Value}{xs:List Value}(h:Sl S w sz v xs):∃ao n c,v= .slice ao n c/\xs.length=n*sz/\n<=c/\c<=9223372036854775807:=by
 obtain⟨a0,n',c',hv,h1,h2,h3,h4,h5⟩:=h;exact⟨a0,n',c',hv,h1,h2,by unfold maxLen at h3;omega⟩
theorem cw! {w:World}{B:Nat}{e:TypeId}{sz:Nat}{v:Value}{n:Nat}{xs:List Value}(h:w.ownsRow B e sz v n xs)(S:Nat->Prop)(hS:∀g,v.ownBlock=some g->S g) :
  Sl S w sz v xs:=by
 rcases h.2 with⟨rfl,rfl⟩|⟨g,cap,cur,rfl,hb,hg,hnc,hcm,hcs,htake⟩
 ·have:xs=[]:=x0! (by simpa using h.1);subst this;exact Sl.nil S w sz
 ·refine⟨_,n,cap,rfl,h.1,hnc,hcm,(fun h=>by cases h),fun _=>⟨g,0,rfl,hS g rfl,fun j u hu=>?_⟩⟩;have hj:j<n*sz:=by rw[<-h.1];exact(y3!.1 hu).1
  rw[Nat.zero_add,h.cellAt j hj];exact hu
theorem dO! {w w':World}{o:Obj}{row:Option Nat}(h:(w.alloc o).grownBy w' row):w.grownBy w' row :=
 ⟨h.os,h.tape,h.output,n6! (by simp) h.size,fun k hk hr=>(h.block k (by simp;omega) hr).trans (Below.heap_alloc w o k hk)⟩
theorem Sl.window {S:Nat->Prop}{w:World}{ao ao':Option Addr}{n c:Nat}{xs:List Value}(h:Sl S w 1 (.slice ao n c) xs)(lo hi:Nat)(h1:lo<=hi)(h2:hi<=n)
  (hao:¬ c=lo->ao'=Option.map (fun x=>x.add lo) ao):Sl S w 1 (.slice ao' (hi-lo) (c-lo)) ((xs.drop lo).take (hi-lo)):=by
 have a:=h.len;obtain⟨_,_,_,hv,hl,a0,_⟩:=a;cases hv;by_cases hc:c=lo
 ·have:hi-lo=0:=by omega
  have e:c-lo=0:=by omega
  rw[this,e,List.take_zero];exact⟨ao',0,0,rfl,rfl,n0! _,v1! _,fun _=>rfl,fun h=>absurd rfl h⟩
 ·rw[hao hc];have:=(h.drop lo (by omega)).take (hi-lo) (by omega);rwa[Nat.mul_one]at this
def Blk (w:World)(B:Nat)(cs:Array Value)(e:TypeId):Prop:=w.heap[B]?=some (.cells cs e (0,0))
section
variable {w W : World} {B : Nat} {cs : Array Value} {e : TypeId}
theorem Blk.made (w:World)(cs:Array Value)(e:TypeId):Blk (w.alloc (.cells cs e)) w.heap.size cs e:=heap_alloc_new w _
theorem Blk.made' {w:World}{B:Nat}(h:w.heap.size=B)(cs:Array Value)(e:TypeId):Blk (w.alloc (.cells cs e)) B cs e:=h▸Blk.made w cs e
theorem Blk.lt (h:Blk w B cs e):B<w.heap.size:=(x7!.1 h).1
theorem Blk.same {S:Nat->Prop}(h:Blk w B cs e)(hs:Same S w W)(hB:S B):Blk W B cs e:=(hs B hB).trans h
theorem Blk.below (h:Blk w B cs e)(hb:Below w.heap.size w W):Blk W B cs e:=(hb.block B h.lt).trans h
theorem Blk.alloc (h:Blk w B cs e)(o:Obj):Blk (w.alloc o) B cs e:=(Below.heap_alloc w o B h.lt).trans h
theorem Blk.drew (h:Blk w B cs e):Blk w.drew B cs e:=h
theorem Blk.cells (h:Blk w B cs e):∀i,w.cell? ⟨B,i,none⟩=cs[i]?:=fun i=>cell_of_row w B i cs e (0,0) h
theorem Blk.free (h:Blk w B cs e):∀i,w.frozen? ⟨B,i,none⟩=false:=fun i=>frozen_of_row w B i cs e h
theorem Blk.set (h:Blk w B cs e)(i:Nat)(v:Value):Blk (w.setCell ⟨B,i,none⟩ v) B (cs.setIfInBounds i v) e:=heap_setCell_same w B i cs e v h
theorem Blk.other (h:Blk w B cs e) {a:Addr}(ha:B≠a.block)(v:Value):Blk (w.setCell a v) B cs e:=(Below.heap_setCell w a v B ha).trans h
end
theorem setAt {B i:Nat}{w w':World}{v:Value}(h:Below B w w'):Below B w (w'.setCell ⟨B,i,none⟩ v):=h.setCell (n0! B) v
structure Kept (K:Nat->Prop)(w w':World):Prop where
 os:w'.os=w.os
 tape:w'.tape=w.tape
 output:w'.output=w.output
 size:w.heap.size<=w'.heap.size
 block:∀b,K b->w'.heap[b]?=w.heap[b]?
section
variable {K : Nat -> Prop} {w w' w'' : World} {B : Nat}
theorem Kept.refl (K:Nat->Prop)(w:World):Kept K w w:=⟨rfl,rfl,rfl,n0! _,fun _ _=>rfl⟩
theorem Kept.trans (h:Kept K w w')(k:Kept K w' w''):Kept K w w'' :=
 ⟨k.os.trans h.os,k.tape.trans h.tape,k.output.trans h.output,n6! h.size k.size,fun b hb=>(k.block b hb).trans (h.block b hb)⟩
theorem Kept.mono {J:Nat->Prop}(h:Kept K w w')(hj:∀b,J b->K b):Kept J w w':=⟨h.os,h.tape,h.output,h.size,fun b hb=>h.block b (hj b hb)⟩
theorem Below.kept (h:Below B w w')(hk:∀b,K b->b<B):Kept K w w':=⟨h.os,h.tape,h.output,h.size,fun b hb=>h.block b (hk b hb)⟩
theorem Kept.below (h:Kept K w w')(hk:∀b,b<B->K b):Below B w w':=⟨h.os,h.tape,h.output,h.size,fun b hb=>h.block b (hk b hb)⟩
theorem Kept.alloc (h:Kept K w w')(hk:∀b,K b->b<w'.heap.size)(o:Obj):Kept K w (w'.alloc o):=h.trans (Below.kept ((Below.refl _ _).alloc (n0! _) o) hk)
theorem Kept.set (h:Kept K w w') {a:Addr}(ha:¬ K a.block)(v:Value):Kept K w (w'.setCell a v) :=
 h.trans ⟨rfl,rfl,rfl,v4! (by simp),fun b hb=>Below.heap_setCell w' a v b (fun e=>ha (e▸hb))⟩
theorem Kept.drew (h:Kept K w w'):Kept K w w'.drew:=⟨h.os,h.tape,h.output,h.size,h.block⟩
theorem Blk.set_to {cs cs':Array Value}{e:TypeId}(h:Blk w B cs e)(i:Nat)(v:Value)(he:cs.setIfInBounds i v=cs'):Blk (w.setCell ⟨B,i,none⟩ v) B cs' e:=he▸h.set i v
theorem Kept.blk (h:Kept K w w') {cs:Array Value}{e:TypeId}(hB:Blk w B cs e)(hk:K B):Blk w' B cs e:=(h.block B hk).trans hB
end
end Go.Proofs.YtlhaghoajpglaaaGreat
namespace Go.Proofs.YtlhaghoajpglaaaGreat
open Go Go.RowKit
open Go.Maps (Keyed)
open Go.ChangeMaps (setBlock modify_eq_set)
open Go.MapKept (Stamped stamped_push stamped_modify stamped_erase)
section plain
variable {κ α : Type} [DecidableEq κ]
def lookA:List (κ × α)->κ->Option α
 | [],_=>none
 | p::r,a=>if p.1=a then some p.2 else lookA r a
def putA:List (κ × α)->κ->α->List (κ × α)
 | [],a,x => [(a,x)]
 | p::r,a,x=>if p.1=a then(a,x)::r else p::putA r a x
def delA:List (κ × α)->κ->List (κ × α)
 | [],_ => []
 | p::r,a=>if p.1=a then r else p::delA r a
theorem eM! {a:κ}:∀ {l:List (κ × α)},(∀p∈l,p.1≠a)->lookA l a=none
 | [],_=>rfl
 | p::r,h=>by rw[lookA,if_neg (h p (by simp)),eM! fun q hq=>h q (by simp[hq])]
theorem bf! {a:κ}{x:α}:∀ {l:List (κ × α)},(∀p∈l,p.1≠a)->putA l a x=l++[(a,x)]
 | [],_=>rfl
 | p::r,h=>by rw[putA,if_neg (h p (by simp)),bf! fun q hq=>h q (by simp[hq])];rfl
theorem gp! {a:κ}:∀ {l:List (κ × α)},(∀p∈l,p.1≠a)->delA l a=l
 | [],_=>rfl
 | p::r,h=>by rw[delA,if_neg (h p (by simp)),gp! fun q hq=>h q (by simp[hq])]
theorem cv! {a:κ}{x:α}:∀ {l:List (κ × α)}{j:Nat}{p:κ × α},(l.map (·.1)).Nodup->l[j]?=some p->p.1=a->lookA l a=some p.2/\putA l a x=l.set j (a,x)/\delA l a=l.eraseIdx j
 | [],j,p,_,h,_=>by simp at h
 | q::r,0,p,_,h,hp=>by
  obtain rfl:q=p:=by simpa using h
  simp[lookA,putA,delA,hp]
 | q::r,j+1,p,hn,h,hp=>by
  have h':r[j]?=some p:=by simpa using h
  simp only[v8!,List.nodup_cons]at hn;have a0:q.1≠a:=fun e=>hn.1 (by rw[e,<-hp];exact u6!.2 ⟨p,List.mem_of_getElem? h',rfl⟩);obtain⟨h1,h2,h3⟩:=cv! (x:=x) hn.2 h' hp;simp[lookA,putA,delA,a0,h1,h2,h3]
theorem aD! {a:κ}{x:α}:∀ {l:List (κ × α)},lookA l a=some x->(a,x)∈l
 | [],h=>by simp[lookA]at h
 | p::r,h=>by
  rw[lookA]at h;split at h
  ·rename_i e
   obtain rfl:p.2=x:=by simpa using h
   subst e;simp
  ·exact u9! _ (aD! h)
theorem au! {a:κ}:∀ {l:List (κ × α)},lookA l a=none↔∀p∈l,p.1≠a
 | []=>by simp[lookA]
 | p::r=>by
  rw[lookA];by_cases e:p.1=a
  ·simp[e]
  ·simp[e,au! (l:=r)]
end plain
def pT! (w w':World)(b:Nat):Prop:=∃o,w'=setBlock w b o
theorem ax! (w:World)(b c:Nat)(o:Obj)(h:c≠b):(setBlock w b o).heap[c]?=w.heap[c]?:=by
 simp[setBlock,Ne.symm h]
theorem aI! (w:World)(b:Nat)(o:Obj):(setBlock w b o).heap.size=w.heap.size:=by simp[setBlock]
theorem aJ! {w:World}{b:Nat}{o o':Obj}(h:w.heap[b]?=some o'):(setBlock w b o).heap[b]?=some o:=by
 have:=(x7!.1 h).1;simp[setBlock,this]
theorem pT!.size {w w':World}{b:Nat}(h:pT! w w' b):w'.heap.size=w.heap.size:=by
 obtain⟨o,rfl⟩:=h;exact aI! w b o
theorem pT!.kept {w w':World}{b:Nat}(h:pT! w w' b):Kept (· ≠ b) w w':=by
 obtain⟨o,rfl⟩:=h;exact⟨rfl,rfl,rfl,v4! (aI! w b o).symm,fun c hc=>ax! w b c o hc⟩
theorem pT!.below {w w':World}{b B:Nat}(h:pT! w w' b)(hb:B<=b):Below B w w':=h.kept.below fun _ hx=>by omega
section
variable {P : Program} {k t e : TypeId} {κ α : Type} {kv : κ -> Value} {ev : α -> Value} {w : World} {b : Nat} {l : List (κ × α)}
def Mp (P:Program)(k:TypeId)(kv:κ->Value)(ev:α->Value)(w:World)(b:Nat)(l:List (κ × α)):Prop :=
 ∃es clock,w.heap[b]?=some (.map es clock)/\Stamped es clock/\es.toList.map (fun x=>(x.key,x.val))=l.map (fun p=>(kv p.1,ev p.2))/\∀p∈l,∃q,keyOf P k (kv p.1)=some q
theorem Mp.made (w:World):Mp P k kv ev (w.alloc (.map #[] 0)) w.heap.size ([]:List (κ × α)) :=
 ⟨#[],0,heap_alloc_new w _,⟨by simp,by simp,by simp⟩,rfl,by simp⟩
theorem Mp.lt (h:Mp P k kv ev w b l):b<w.heap.size:=by
 obtain⟨es,a0,hb,_⟩:=h;exact(x7!.1 hb).1
theorem Mp.same {w':World}(h:Mp P k kv ev w b l)(hb:w'.heap[b]?=w.heap[b]?):Mp P k kv ev w' b l:=by
 obtain⟨es,a,h1,h2⟩:=h;exact⟨es,a,hb.trans h1,h2⟩
theorem Mp.below {w':World}(h:Mp P k kv ev w b l)(hb:Below w.heap.size w w'):Mp P k kv ev w' b l:=h.same (hb.block b h.lt)
theorem Mp.kept {w':World}{K:Nat->Prop}(h:Mp P k kv ev w b l)(hb:Kept K w w')(hk:K b):Mp P k kv ev w' b l:=h.same (hb.block b hk)
theorem dK! {es:Array MapEntry}(hm:es.toList.map (fun x=>(x.key,x.val))=l.map (fun p=>(kv p.1,ev p.2))):es.toList.map (·.key)=l.map fun p=>kv p.1:=by
 have:=congrArg (List.map Prod.fst) hm;simpa [List.map_map,Function.comp_def] using this
theorem Mp.nodup (h:Mp P k kv ev w b l):(l.map (·.1)).Nodup:=by
 obtain⟨es,a0,_,hs,hm,_⟩:=h;have h3:=hs.2.2;rw[dK! hm]at h3;have:(l.map fun p=>kv p.1)=(l.map (·.1)).map kv:=by rw[List.map_map];rfl
 rw[this]at h3;exact List.Pairwise.of_map kv (fun a b hne e=>hne (congrArg kv e)) h3
theorem ga! {es:Array MapEntry}(hm:es.toList.map (fun x=>(x.key,x.val))=l.map (fun p=>(kv p.1,ev p.2))) {j:Nat}{x:MapEntry}(hx:es.toList[j]?=some x):∃p,l[j]?=some p/\x.key=kv p.1/\x.val=ev p.2:=by
 have:=congrArg (fun z=>z[j]?) hm;simp only[List.getElem?_map,hx,Option.map_some]at this;cases hl:l[j]? with
 | none=>rw[hl]at this;simp at this
 | some p=>rw[hl]at this;simp at this;exact⟨p,rfl,this.1,this.2⟩
theorem cS! {es:Array MapEntry}(hm:es.toList.map (fun x=>(x.key,x.val))=l.map (fun p=>(kv p.1,ev p.2))) {a:κ}(h:∀x∈es.toList,x.key≠kv a):∀p∈l,p.1≠a:=by
 intro p hp e;have:kv p.1∈es.toList.map (·.key):=by rw[dK! hm];exact u6!.2 ⟨p,hp,rfl⟩
 obtain⟨x,hx,a0⟩:=u6!.1 this;exact h x hx (by rw[a0,e])
theorem eE! {es:Array MapEntry}(hm:es.toList.map (fun x=>(x.key,x.val))=l.map (fun p=>(kv p.1,ev p.2)))(hk:∀p∈l,∃q,keyOf P k (kv p.1)=some q):∀x∈es.toList,∃q,keyOf P k x.key=some q:=by
 intro x hx;have:x.key∈es.toList.map (·.key):=u6!.2 ⟨x,hx,rfl⟩;rw[dK! hm]at this;obtain⟨p,hp,he⟩:=u6!.1 this;rw[<-he];exact hk p hp
def lookV (c:Bool)(z:Value)(ev:α->Value):Option α->Value
 | some x=>if c then .tuple #[ev x,.bool true]else ev x
 | none=>if c then .tuple #[z,.bool false]else z
theorem Mp.look [DecidableEq κ] (h:Mp P k kv ev w b l)(K:Keyed P k)(inj:∀a b,kv a=kv b->a=b)(ht:P.underlying t=some (.map k e)) {z:Value}(hz:(zeroValue e).run P w= .ok z w)(c:Bool) {a:κ}(hk:∃q,keyOf P k (kv a)=some q) :
  (Instr.lookup t (.map (some b)) (kv a) c).run P w= .ok (lookV c z ev (lookA l a)) w:=by
 have hn:=h.nodup;obtain⟨es,a0,hb,hs,hm,a1⟩:=h;obtain⟨q,hq⟩:=hk;rcases K.find w hq es.toList (eE! hm a1)with⟨h1,h2⟩|⟨j,e0,h1,h2,h3⟩
 ·rw[eM! (cS! hm h2)];simp[Instr.lookup,run_underlying ht,MapKept.run_getObj_map hb,K.check w _ hq,h1,hz,Result.andThen,lookV]
 ·obtain⟨p,hp,e1,e2⟩:=ga! hm h2;have a2:p.1=a:=inj _ _ (e1.symm.trans h3);rw[(cv! (x:=p.2) hn hp a2).1];simp[Instr.lookup,run_underlying ht,MapKept.run_getObj_map hb,K.check w _ hq,h1,Result.andThen,lookV,e2]
theorem Mp.store [DecidableEq κ] (h:Mp P k kv ev w b l)(K:Keyed P k)(inj:∀a b,kv a=kv b->a=b)(ht:P.underlying t=some (.map k e)) {a:κ}(hk:∃q,keyOf P k (kv a)=some q)(x:α) :
  ∃w',(Instr.mapUpdate t (.map (some b)) (kv a) (ev x)).run P w= .ok () w'/\Mp P k kv ev w' b (putA l a x)/\pT! w w' b:=by
 have hn:=h.nodup;obtain⟨i,c,m,hs,o,f⟩:=h;have hk':=hk;obtain⟨q,r⟩:=hk;rcases K.find w r i.toList (eE! o f)with⟨h1,h2⟩|⟨j,e0,h1,h2,h3⟩
 ·refine⟨setBlock w b (.map (i.push ⟨kv a,ev x,c⟩) (c+1)),?_,⟨_,_,aJ! m,stamped_push hs h2,?_,?_⟩,_,rfl⟩
  ·simp[Instr.mapUpdate,run_underlying ht,MapKept.run_getObj_map m,K.check w false r,h1,MapKept.run_setObj_map _ m,Result.andThen,setBlock]
  ·rw[bf! (cS! o h2),Array.toList_push,v9!,v9!,o];rfl
  ·rw[bf! (cS! o h2)];intro p n;rcases u3!.1 n with n | n
   ·exact f p n
   ·obtain rfl:p=(a,x):=by simpa using n
    exact hk'
 ·obtain⟨p,n,e1,e2⟩:=ga! o h2;have g:p.1=a:=inj _ _ (e1.symm.trans h3);have hj:i[j]?=some e0:=by simpa using h2
  have d:(i.modify j (fun e' => {e' with key:=kv a,val:=ev x})).toList=i.toList.set j {e0 with key:=kv a,val:=ev x}:=by rw[Array.toList_modify,modify_eq_set _ _ _ _ h2]
  refine⟨setBlock w b (.map (i.modify j (fun e' => {e' with key:=kv a,val:=ev x})) c),?_,⟨_,_,aJ! m,stamped_modify hs _ _ (fun _ _=>rfl) (fun e' _ he'=>?_),?_,?_⟩,_,rfl⟩
  ·simp[Instr.mapUpdate,run_underlying ht,MapKept.run_getObj_map m,K.check w false r,h1,hj,h3,K.stays w r,MapKept.run_setObj_map _ m,Result.andThen,setBlock]
  ·rw[hj]at he';cases he';exact h3.symm
  ·rw[(cv! (x:=x) hn n g).2.1,d,List.map_set,List.map_set,o]
  ·rw[(cv! (x:=x) hn n g).2.1];intro y hy;rcases List.mem_or_eq_of_mem_set hy with hy | rfl
   ·exact f y hy
   ·exact hk'
theorem Mp.len (h:Mp P k kv ev w b l)(ht:P.underlying t=some (.map k e))(ty:TypeId):(Builtin.len_ #[t] ty #[.map (some b)]).run P w= .ok (.int .i64 l.length) w:=by
 obtain⟨es,a0,hb,hs,hm,a1⟩:=h;have:es.size=l.length:=by have:=congrArg List.length hm;simpa using this
 simp[Builtin.len_,run_underlying ht,MapKept.run_getObj_map hb,this,goInt]
def Rng (P:Program)(k:TypeId)(kv:κ->Value)(ev:α->Value)(w:World)(b r:Nat)(l rem:List (κ × α)):Prop :=
 ∃es clock since seen c0,w.heap[b]?=some (.map es clock)/\Stamped es clock/\es.toList.map (fun x=>(x.key,x.val))=l.map (fun p=>(kv p.1,ev p.2))/\(∀p∈l,∃q,keyOf P k (kv p.1)=some q) /\
  w.heap[r]?=some (.mapIter (some b) since seen c0)/\(∀x∈es.toList,x.born<since)/\since<=c0/\since<=clock/\(leftOf es seen).toList.map (fun x=>(x.key,x.val))=rem.map (fun p=>(kv p.1,ev p.2))
theorem Rng.mp {r:Nat}{rem:List (κ × α)}(h:Rng P k kv ev w b r l rem):Mp P k kv ev w b l:=by
 obtain⟨es,a,a0,a2,c0,hb,hs,hm,a1,_⟩:=h;exact⟨es,a,hb,hs,hm,a1⟩
theorem Rng.lt {r:Nat}{rem:List (κ × α)}(h:Rng P k kv ev w b r l rem):r<w.heap.size:=by
 obtain⟨es,a1,a0,a2,c0,_,_,_,_,hr,_⟩:=h;exact(x7!.1 hr).1
theorem Rng.ne {r:Nat}{rem:List (κ × α)}(h:Rng P k kv ev w b r l rem):r≠b:=by
 obtain⟨es,a1,a0,a2,c0,hb,_,_,_,hr,_⟩:=h;intro e;rw[e,hb]at hr;cases hr
theorem Rng.same {r:Nat}{rem:List (κ × α)}{w':World}(h:Rng P k kv ev w b r l rem)(h1:w'.heap[b]?=w.heap[b]?)(h2:w'.heap[r]?=w.heap[r]?):Rng P k kv ev w' b r l rem:=by
 obtain⟨es,c,a,e,c0,hb,hs,hm,a0,hr,d⟩:=h;exact⟨es,c,a,e,c0,h1.trans hb,hs,hm,a0,h2.trans hr,d⟩
theorem Rng.below {r:Nat}{rem:List (κ × α)}{w':World}(h:Rng P k kv ev w b r l rem)(hb:Below w.heap.size w w'):Rng P k kv ev w' b r l rem:=h.same (hb.block b h.mp.lt) (hb.block r h.lt)
theorem Rng.left_eq {r:Nat}{rem:List (κ × α)}(h:Rng P k kv ev w b r l rem):w.rangeLeft b r=rem.length:=by
 obtain⟨es,a1,a0,a2,c0,hb,_,_,_,hr,_,_,_,hc⟩:=h;simp only[World.rangeLeft,hb,hr];have:=congrArg List.length hc;simpa using this
theorem Mp.range (h:Mp P k kv ev w b l)(ht:P.underlying t=some (.map k e)) :
  ∃w',(Instr.range t (.map (some b))).run P w= .ok (.pointer (some ⟨w.heap.size,0,none⟩)) w'/\Rng P k kv ev w' b w.heap.size l l/\Below w.heap.size w w'/\w'.heap.size=w.heap.size+1:=by
 have a0:=h.lt;obtain⟨es,a,hb,hs,hm,a1⟩:=h;refine⟨_,run_range_map w t k e b es a ht hb,⟨es,a,a,#[],a,((MapKept.heap_alloc w _).2 b a0).trans hb,hs,hm,a1,(MapKept.heap_alloc w _).1,hs.1,n0! _,n0! _,?_⟩,(Below.refl _ _).alloc (n0! _) _,by simp⟩;rw[<-hm];simp only[leftOf,Array.toList_filter];rw[List.filter_eq_self.2 (fun _ _=>by simp)]
theorem kj! {L:List MapEntry}{seen:Array Nat}(hn:(L.map (·.born)).Nodup) {x:MapEntry}{A B:List MapEntry}(h:L.filter (fun y=>!seen.contains y.born)=A++x::B) :
  L.filter (fun y=>!(seen.push x.born).contains y.born)=A++B:=by
 have e1:L.filter (fun y=>!(seen.push x.born).contains y.born)=(L.filter (fun y=>!seen.contains y.born)).filter fun y=>!(y.born == x.born):=by
  rw[List.filter_filter];apply List.filter_congr;intro y _;simp only[Array.contains_push,Bool.not_or];rw[Bool.and_comm]
 have a:((A++x::B).map (·.born)).Nodup:=by rw[<-h];exact hn.sublist (List.Sublist.map _ List.filter_sublist)
 rw[e1,h,List.filter_append,List.filter_cons];simp only[beq_self_eq_true,Bool.not_true,Bool.false_eq_true,if_false];rw[v9!,v8!,List.nodup_append]at a;obtain⟨_,hB,hd⟩:=a;rw[List.filter_eq_self.2,List.filter_eq_self.2]
 ·intro y hy;have:=(List.nodup_cons.1 hB).1;simp only[Bool.not_eq_true',n7!];exact fun e=>this (e▸u6!.2 ⟨y,hy,rfl⟩)
 ·intro y hy;simp only[Bool.not_eq_true',n7!];exact hd _ (u6!.2 ⟨y,hy,rfl⟩) _ (by simp)
theorem Rng.next {r:Nat}{rem:List (κ × α)}(h:Rng P k kv ev w b r l rem)(ty:TypeId) :
  (rem=[]/\(Instr.next (.pointer (some ⟨r,0,none⟩)) false ty).run P w= .ok (.tuple #[.bool false]) w) \/
  ∃pre p post w',rem=pre++p::post/\(Instr.next (.pointer (some ⟨r,0,none⟩)) false ty).run P w= .ok (.tuple #[.bool true,kv p.1,ev p.2]) w'/\Rng P k kv ev w' b r l (pre++post)/\Kept (· ≠ r) w w'/\w'.heap.size=w.heap.size /\
   (Instr.entry (.pointer (some ⟨r,0,none⟩))).run P w' = .ok (.tuple #[kv p.1,ev p.2]) w':=by
 have a0:=h.ne;obtain⟨s,a,d,c,c0,hb,hs,hm,a7,hr,g,a3,i,e⟩:=h;rcases run_next_at w ty r b d c0 c s a hr hb g a3 with⟨h0,hrun⟩|⟨x,hx,w1,hw1,hrun⟩
 ·refine .inl ⟨?_,hrun⟩;have:=congrArg List.length e;simp[h0]at this;exact x0! this.symm
 ·right
  obtain⟨A,B,j⟩:=List.append_of_mem hx;rw[j]at e;rw[v9!,v8!]at e;obtain⟨pre,q,rfl,a2,hq⟩:=List.map_eq_append_iff.1 e.symm;obtain⟨p,post,rfl,f,a5⟩:=List.map_eq_cons_iff.1 hq;simp only[Prod.mk.injEq]at f;have a8:(leftOf s c).toList=s.toList.filter fun y=>!c.contains y.born:=by simp[leftOf]
  rw[a8]at j hx;have a6:x∈s.toList:=(List.mem_filter.1 hx).1;have a4:w1.heap[b]?=some (.map s a):=by rcases hw1 with rfl | rfl <;> exact hb
  have a1:w1.heap[r]?=some (.mapIter (some b) d c c0):=by rcases hw1 with rfl | rfl <;> exact hr
  have m:(setBlock w1 r (.mapIter (some b) d (c.push x.born) a)).heap[b]?=some (.map s a):=(ax! _ _ _ _ (Ne.symm a0)).trans a4;have n:=aJ! (o := .mapIter (some b) d (c.push x.born) a) a1;refine⟨pre,p,post,setBlock w1 r (.mapIter (some b) d (c.push x.born) a),rfl,?_,⟨s,a,d,c.push x.born,a,m,hs,hm,a7,n,g,i,i,?_⟩,?_,?_,?_⟩
  ·rw[hrun,f.1,f.2]
  ·rw[show(leftOf s (c.push x.born)).toList=s.toList.filter fun y=>!(c.push x.born).contains y.born from by simp[leftOf],kj! hs.2.1 j,v9!,v9!,a2,a5]
  ·have:Kept (· ≠ r) w w1:=by
    rcases hw1 with rfl | rfl
    ·exact Kept.refl _ _
    ·exact(Kept.refl _ _).drew
   exact this.trans (pT!.kept ⟨_,rfl⟩)
  ·rw[aI!];rcases hw1 with rfl | rfl <;> rfl
  ·rw[run_entry_at _ r b d c s a x n m a6 hs.2.1,f.1,f.2]
end
section
variable {P : Program} (w : World) {ops : Array Oper} {rest : List Oper} {o : Oper} {a : Act} {Q : Exit -> Act -> World -> Prop} {κ α : Type} {kv : κ -> Value} {ev : α -> Value} {b : Nat} {l : List (κ × α)}
theorem bS! [DecidableEq κ] (hg:o.guard=none)(m x v:Operand)(t:TypeId)(hop:o.op=Op.mapUpdate t m x v) {k e:TypeId}(K:Keyed P k)(inj:∀a b,kv a=kv b->a=b)(ht:P.underlying t=some (.map k e))
  (hm:a.eval m= .map (some b)) (h:Mp P k kv ev w b l) {y:κ} (hx:a.eval x=kv y) (hk:∃q,keyOf P k (kv y)=some q) {u:α} (hv:a.eval v=ev u)
  (hK:∀w',Mp P k kv ev w' b (putA l y u)->pT! w w' b->wpList P ops Q rest (a.put o.dst undef) w'):wpList P ops Q (o::rest) a w:=by
 refine wpList_plain hg fun K' hK'=>?_;obtain⟨w',c,h1,h2⟩:=h.store K inj ht hk u;unfold Oper.wp;simp[execOp,hop,hm,hx,hv,c,Result.andThen];exact hK' _ _ (hK w' h1 h2)
theorem bl! (hg:o.guard=none)(m:Operand)(t:TypeId)(hop:o.op=Op.range t m) {k e:TypeId}(ht:P.underlying t=some (.map k e))(hm:a.eval m= .map (some b))(h:Mp P k kv ev w b l)
  (hK:∀w',Rng P k kv ev w' b w.heap.size l l->Below w.heap.size w w'->w'.heap.size=w.heap.size+1->wpList P ops Q rest (a.put o.dst (.pointer (some ⟨w.heap.size,0,none⟩))) w'):wpList P ops Q (o::rest) a w:=by
 refine wpList_plain hg fun K' hK'=>?_;obtain⟨w',c,h1,h2,h3⟩:=h.range ht;unfold Oper.wp;simp[execOp,hop,hm,c,Result.andThen];exact hK' _ _ (hK w' h1 h2 h3)
theorem cg! (hg:o.guard=none)(it:Operand)(hop:o.op=Op.next it false) {k:TypeId}{r:Nat}{rem:List (κ × α)}(hit:a.eval it= .pointer (some ⟨r,0,none⟩))(h:Rng P k kv ev w b r l rem)
  (hDone:rem=[]->wpList P ops Q rest (a.put o.dst (.tuple #[.bool false])) w)
  (hMore:∀pre p post w',rem=pre++p::post->Rng P k kv ev w' b r l (pre++post)->Kept (· ≠ r) w w'->w'.heap.size=w.heap.size->(Instr.entry (.pointer (some ⟨r,0,none⟩))).run P w' = .ok (.tuple #[kv p.1,ev p.2]) w' ->
   wpList P ops Q rest (a.put o.dst (.tuple #[.bool true,kv p.1,ev p.2])) w'):wpList P ops Q (o::rest) a w:=by
 refine wpList_plain hg fun K' hK'=>?_;unfold Oper.wp;rcases h.next o.type with⟨h0,hrun⟩|⟨pre,p,post,w',h0,hrun,h1,h2,h3,h4⟩
 ·simp[execOp,hop,hit,hrun,Result.andThen];exact hK' _ _ (hDone h0)
 ·simp[execOp,hop,hit,hrun,Result.andThen];exact hK' _ _ (hMore pre p post w' h0 h1 h2 h3 h4)
end
end Go.Proofs.YtlhaghoajpglaaaGreat
namespace Go.Proofs.YtlhaghoajpglaaaGreat
open Go Go.Maps Go.RowKit
abbrev bV:Bool->Value:=fun x => .bool x
section
variable {κ α : Type} [DecidableEq κ]
theorem cW! (a:κ)(x:α)(b:κ):∀l:List (κ × α),lookA (putA l a x) b=if a=b then some x else lookA l b
 | []=>by simp[putA,lookA]
 | p::r=>by
  unfold putA;by_cases h:p.1=a
  ·rw[if_pos h];subst h;by_cases hb:p.1=b
   ·simp[lookA,hb]
   ·simp[lookA,hb]
  ·rw[if_neg h];by_cases hb:p.1=b
   ·subst hb;simp[lookA,Ne.symm h]
   ·simp[lookA,hb,cW! a x b r]
theorem ca! (a:κ)(x:α)(b:κ × α):∀ {l:List (κ × α)},b∈putA l a x->b=(a,x)\/b∈l
 | [],h=>by simpa [putA] using h
 | p::r,h=>by
  unfold putA at h;split at h
  ·rcases v7!.1 h with h | h
   ·exact .inl h
   ·exact .inr (by simp[h])
  ·rcases v7!.1 h with h | h
   ·exact .inr (by simp[h])
   ·rcases ca! a x b h with h | h
    ·exact .inl h
    ·exact .inr (by simp[h])
end
theorem hr! {P:Program}{w:World}{o:Oper}{a:Act}{Kx:Act->World->Prop}{Q:Exit->Act->World->Prop}{κ α:Type}{kv:κ->Value}{ev:α->Value}{b:Nat}{l:List (κ × α)} [DecidableEq κ] (m x v:Operand)(t:TypeId)(hop:o.op=Op.mapUpdate t m x v) {k e:TypeId}(K:Keyed P k)(inj:∀a b,kv a=kv b->a=b)(ht:P.underlying t=some (.map k e))
  (hm:a.eval m= .map (some b)) (h:Mp P k kv ev w b l) {y:κ} (hx:a.eval x=kv y) (hk:∃q,keyOf P k (kv y)=some q) {u:α} (hv:a.eval v=ev u)
  (hK:∀w',Mp P k kv ev w' b (putA l y u)->pT! w w' b->Kx (a.put o.dst undef) w'):o.wp P a w Kx Q:=by
 obtain⟨w',c,h1,h2⟩:=h.store K inj ht hk u;unfold Oper.wp;simp[execOp,hop,hm,hx,hv,c,Result.andThen];exact hK w' h1 h2
abbrev Tk (b:Nat) (w w':World):Prop:=Kept (fun x=>x<w.heap.size/\x≠b) w w'
section
variable {b : Nat} {w w' w'' : World}
theorem Tk.refl (b:Nat)(w:World):Tk b w w:=Kept.refl _ _
theorem Tk.next (h:Tk b w w')(k:Tk b w' w''):Tk b w w'':=Kept.trans h (Kept.mono k fun _x hx=>⟨n1! hx.1 h.size,hx.2⟩)
theorem Tk.of (h:Below w.heap.size w w'):Tk b w w':=Below.kept h fun _x hx=>hx.1
theorem Tk.turned (h:pT! w w' b):Tk b w w':=h.kept.mono fun _x hx=>hx.2
theorem Tk.box (h:Tk b w w') {x:Nat}{cs:Array Value}{t:TypeId}(hx:Blk w x cs t)(hb:x≠b):Blk w' x cs t:=Kept.blk h hx ⟨hx.lt,hb⟩
theorem Tk.below (h:Tk b w w') {B:Nat}(h1:B<=w.heap.size)(h2:B<=b):Below B w w':=Kept.below h fun x hx=>⟨by omega,by omega⟩
end
theorem gk! {γ:Type}(R:γ->Prop)(m:γ->Nat)(h:∃g,R g):∃n,(∃g,R g/\m g=n)/\∀g,R g->n<=m g:=by
 obtain⟨g0,h0⟩:=h
 have a0:∀k,∀g,R g->m g<=k->∃n,(∃g,R g/\m g=n)/\∀g,R g->n<=m g:=by
  intro k;induction k with
  | zero=>exact fun g hg hk=>⟨0,⟨g,hg,by omega⟩,fun _ _=>v1! _⟩
  | succ k ih =>
   intro g hg hk;by_cases hs:∃a,R a/\m a<=k
   ·obtain⟨a,h1,h2⟩:=hs;exact ih a h1 h2
   ·refine⟨m g,⟨g,hg,rfl⟩,fun a h'=>?_⟩;have:¬ m a<=k:=fun h2=>hs ⟨a,h',h2⟩;omega
 exact a0 _ g0 h0 (n0! _)
open Classical in
noncomputable def jD! {γ:Type} (R:γ->Prop) (m:γ->Nat):Nat:=if h:∃g,R g then Classical.choose (gk! R m h)else 0
theorem jC! {γ:Type}{R:γ->Prop}(m:γ->Nat)(h:∃g,R g):∃g,R g/\m g=jD! R m:=by
 unfold jD!;rw[dif_pos h];exact(Classical.choose_spec (gk! R m h)).1
theorem lw! {γ:Type}{R:γ->Prop}(m:γ->Nat) {g:γ}(h:R g):jD! R m<=m g:=by
 unfold jD!;rw[dif_pos ⟨g,h⟩];exact(Classical.choose_spec (gk! R m ⟨g,h⟩)).2 g h
section
variable {P : Program} {k t e : TypeId} {κ α : Type} {kv : κ -> Value} {ev : α -> Value} {w : World}
def MpO (P:Program)(k:TypeId)(kv:κ->Value)(ev:α->Value)(w:World):Option Nat->List (κ × α)->Prop
 | none,l=>l=[]
 | some b,l=>Mp P k kv ev w b l
theorem MpO.nodup {mb:Option Nat}{l:List (κ × α)}(h:MpO P k kv ev w mb l):(l.map (·.1)).Nodup:=by
 cases mb with
 | none=>obtain rfl:l=[]:=h;simp
 | some b=>exact Mp.nodup (show Mp P k kv ev w b l from h)
theorem MpO.below {w':World}{mb:Option Nat}{l:List (κ × α)}(h:MpO P k kv ev w mb l)(hb:Below w.heap.size w w'):MpO P k kv ev w' mb l:=by
 cases mb with
 | none=>exact h
 | some b=>exact Mp.below (show Mp P k kv ev w b l from h) hb
end
def Own (w:World)(B:Nat)(e:TypeId)(sz:Nat)(v:Value)(xs:List Value):Prop:=∃n,w.ownsRow B e sz v n xs
section
variable {w w' : World} {B : Nat} {e : TypeId} {sz : Nat} {v : Value} {xs : List Value}
theorem Own.nil (w:World)(B:Nat)(e:TypeId)(sz:Nat):Own w B e sz (.slice none 0 0) []:=⟨0,World.ownsRow_nil w B e sz⟩
theorem Own.sl (h:Own w B e sz v xs):Sl (fun b=>B<=b/\b<w.heap.size) w sz v xs:=by
 obtain⟨n,h⟩:=h;exact cw! h _ (fun g hg=>h.lt g hg)
theorem Own.keep (h:Own w B e sz v xs)(hs:∀b,B<=b->b<w.heap.size->w'.heap[b]?=w.heap[b]?):Own w' B e sz v xs:=by
 obtain⟨n,h⟩:=h;refine⟨n,h.1,?_⟩;rcases h.2 with hn | ⟨g,cap,cur,rfl,hbg,hg,r⟩
 ·exact .inl hn
 ·exact .inr ⟨g,cap,cur,rfl,hbg,(hs g hbg (x7!.1 hg).1).trans hg,r⟩
theorem Own.below (h:Own w B e sz v xs)(hb:Below w.heap.size w w'):Own w' B e sz v xs:=h.keep fun b _ hl=>hb.block b hl
theorem Own.block (h:Own w B e sz v xs):∀g,v.ownBlock=some g->B<=g/\g<w.heap.size:=by
 obtain⟨n,h⟩:=h;exact fun g hg=>h.lt g hg
end
theorem aq! {P:Program}{w:World}{ops:Array Oper}{rest:List Oper}{o:Oper}{a:Act}{Q:Exit->Act->World->Prop}{t e:TypeId}{size bytes:Nat}(E:pN! P t e size bytes)
  (hg:o.guard=none) (s x:Operand) (hop:o.op=Op.call {callee:=Callee.builtin Builtin.append,args:=#[s,x],argTypes:=#[t,t]})
  {B:Nat} {v:Value} {xs:List Value} (hs:a.eval s=v) (hown:Own w B e size v xs) {cs:Array Value} {m:Nat} (hx:a.eval x= .slice (some ⟨w.heap.size,0,none⟩) m m) (hm:cs.size=m*size) (h1:∀u∈cs.toList,u.oneCell'=true)
  (hlen:xs.length+cs.size<=9223372036854775807) (hbytes:(xs.length+cs.size)*bytes<=140737488355328) (hB:B<=w.heap.size)
  (K:∀v' w',Own w' B e size v' (xs++cs.toList)->Below B w w'->w.grownBy w' v.ownBlock->wpList P ops Q rest (a.put o.dst v') w'):wpList P ops Q (o::rest) a (w.alloc (.cells cs e)):=by
 obtain⟨d,⟨i,z,hi,hz,h4,h5,h6⟩,b⟩:=E;obtain⟨n,hown⟩:=hown;have e1:∀k l:Nat,k<=l*size->l*size<=k->l<=k:=fun k l _ hb=>n6! (Nat.le_mul_of_pos_right l b) hb;have a1:n<=xs.length:=e1 _ _ (v4! hown.1) (v4! hown.1.symm);have a0:m<=cs.size:=e1 _ _ (v4! hm) (v4! hm.symm);have c:(n+m)*bytes<=140737488355328:=n6! (y7! _ (by omega)) hbytes;refine wpList_append_own _ hg s x t hop B e i z size bytes d hi hz h4 h5 h6 b v n xs hs (hown.alloc _) ⟨w.heap.size,0,none⟩ m m cs.toList hx (by simpa using hm) (fun j u hu=>?_) h1 (by unfold maxLen;omega) c (by simp;omega) (fun v' w' h h' _=>?_)
 ·rw[Addr.add_lit,cell_of_row _ w.heap.size (0+j) cs e (0,0) (heap_alloc_new w _)];simpa using hu
 ·have f:=dO! h';exact K v' w' ⟨_,h⟩ ((Below.refl B w).grown f hB (fun k hk=>(hown.lt k hk).1)) f
theorem ao! {α:Type}{enc:α->List Value}{sz:Nat}(hk:∀a,(enc a).length=sz):∀l:List α,(l.flatMap enc).length=l.length*sz
 | []=>by simp
 | a::l=>by rw[y5!,u4!,ao! hk l,hk,u7!,Nat.add_mul,Nat.one_mul,Nat.add_comm]
theorem gm! {α:Type}{enc:α->List Value}{sz:Nat}(hk:∀a,(enc a).length=sz):∀(l:List α)(i:Nat)(h:i<l.length)(j:Nat),j<sz->(l.flatMap enc)[i*sz+j]?=(enc l[i])[j]?
 | a::l,0,_,j,hj=>by rw[y5!,Nat.zero_mul,Nat.zero_add,List.getElem?_append_left (by rw[hk];exact hj)];rfl
 | a::l,i+1,h,j,hj=>by
  rw[y5!,List.getElem?_append_right (by rw[hk,Nat.add_mul];omega),hk,show(i+1)*sz+j-sz=i*sz+j from by rw[Nat.add_mul];omega];exact gm! hk l i (by simpa using h) j hj
theorem Sl.rows {α:Type}{enc:α->List Value}{sz:Nat}(hk:∀a,(enc a).length=sz)(hpos:0<sz) {S:Nat->Prop}{w:World}{v:Value}{l:List α}(h:Sl S w sz v (l.flatMap enc)) :
  ∃ao c,v= .slice ao l.length c/\l.length<=c/\c<=9223372036854775807 /\
   (0<l.length->∃b off,ao=some ⟨b,off,none⟩/\S b/\∀i (hi:i<l.length) (j:Nat) u,(enc l[i])[j]?=some u->w.cell? ⟨b,off+i*sz+j,none⟩=some u):=by
 obtain⟨ao,n,c,rfl,h1,h2,h3,h4,h5⟩:=h;rw[ao! hk]at h1;obtain rfl:l.length=n:=Nat.eq_of_mul_eq_mul_right hpos h1;refine⟨ao,c,rfl,h2,by unfold maxLen at h3;omega,fun hl=>?_⟩
 obtain⟨b,off,rfl,hb,hc⟩:=h5 (fun e=>by
  have:=congrArg List.length e;rw[ao! hk,v6!]at this;have:=Nat.mul_pos hl hpos;omega)
 refine⟨b,off,rfl,hb,fun i hi j u hu=>?_⟩;rw[Nat.add_assoc];refine hc (i*sz+j) u ?_;rw[gm! hk l i hi j (by rw[<-hk l[i]];exact(y3!.1 hu).1)];exact hu
theorem ah! {n i:Nat}{p:(j:Nat)->j<n->Prop}(h:∀j (hj:j<n),j<i->p j hj)(hi:i<n)(hp:p i hi):∀j (hj:j<n),j<i+1->p j hj :=
 fun j hj hl=>(Nat.lt_succ_iff_lt_or_eq.1 hl).elim (fun e=>h j hj e) (fun e=>by subst e;exact hp)
theorem aH! {a b:ByteArray}(h:a≠b):(a.data.toList == b.data.toList)=false:=by
 rw[n7!];exact fun e=>h (ByteArray.ext (by rw[<-Array.toList_inj];exact e))
def Gr (w w':World):Prop:=∃q os,w'=Sort.grow (w.drewN q) os
theorem Gr.refl (w:World):Gr w w:=⟨0,#[],by simp[Sort.grow,World.drewN]⟩
theorem Gr.alloc {w w':World}(h:Gr w w')(o:Obj):Gr w (w'.alloc o):=by
 obtain⟨q,os,rfl⟩:=h;exact⟨q,os++#[o],by rw[Sort.alloc_eq_grow,Sort.grow_grow]⟩
theorem Gr.drew {w w':World}(h:Gr w w'):Gr w w'.drew:=by
 obtain⟨q,os,rfl⟩:=h;exact⟨q+1,os,rfl⟩
theorem Gr.below {w w':World}(h:Gr w w'):Below w.heap.size w w':=by
 obtain⟨q,os,rfl⟩:=h;exact⟨rfl,rfl,rfl,by simp[Sort.grow,World.drewN],fun k hk=>by simp[Sort.grow,World.drewN,Array.getElem?_append,hk]⟩
theorem Sl.up {w w':World}{sz:Nat}{v:Value}{xs:List Value}(h:Sl (· < w.heap.size) w sz v xs)(hb:Below w.heap.size w w'):Sl (· < w'.heap.size) w' sz v xs :=
 (h.same (Same.below hb)).mono fun _ hx=>n1! hx hb.size
def Ext (w W:World):Prop:=Below w.heap.size w W
theorem Ext.refl (w:World):Ext w w:=Below.refl _ _
theorem Ext.trans {a b c:World}(h:Ext a b)(k:Ext b c):Ext a c:=Below.trans h (Below.mono k (Below.size h))
theorem Ext.drew (w:World):Ext w w.drew:=(Below.refl _ _).drew
theorem Ext.alloc (w:World)(o:Obj):Ext w (w.alloc o):=(Below.refl _ _).alloc (n0! _) o
theorem Ext.size {w W:World}(h:Ext w W):w.heap.size<=W.heap.size:=Below.size h
theorem Ext.cell {w W:World}(h:Ext w W) {a:Addr}{v:Value}(hc:w.cell? a=some v):W.cell? a=some v:=(Below.cell h (World.block_lt_of_cell? w a hc)).trans hc
section
variable {P : Program} {ops : Array Oper} {Q : Exit -> Act -> World -> Prop}
end
section
variable {P : Program} {ops : Array Oper} {Q : Exit -> Act -> World -> Prop} {S : World -> Prop}
def WalkN (P:Program)(ops:Array Oper)(Q:Exit->Act->World->Prop)(S:World->Prop):Nat->Array Bool->Act->World->Prop
 | 0,l,a,w=>Region.ready .any ops l=[]/\Q .normal a w
 | f+1,l,a,w=>(Region.ready .any ops l=[]/\Q .normal a w) \/
   (∃i o v,ops[i]?=some o/\Region.free .any ops l i=true/\(Region.ready .any ops l).contains i=true/\YieldsIf P ops S o v a/\WalkN P ops Q S f (l.setIfInBounds i true) (a.put o.dst v) w) \/
   (Region.ready .any ops l≠[]/\∀i∈Region.ready .any ops l,∃o,ops[i]?=some o/\∀K':Act->World->Prop,Shut (∀a' w',S w'->WalkN P ops Q S f (l.setIfInBounds i true) a' w'->K' a' w') ->
    if Region.wanted o (yielded ops a.tmps)=true then Oper.wp P o a w K' Q else K' (a.put o.dst undef) w)
theorem bL! (hns:Region.noSelect ops=true)(hQ:∀c a d v w,Q (.panic c) (Act.put a d v) w->Q (.panic c) a w) :
  ∀(f:Nat) (l:Array Bool) (a:Act) (w:World),S w->WalkN P ops Q S f l a w->wpAnyH P .any ops Q S f l a w
 | 0,l,a,w,_,h=>wpAnyH_done h.1 h.2 0
 | f+1,l,a,w,hs,h=>by
  rcases h with⟨h1,h2⟩|⟨i,o,v,ho,hf,hr,hy,h⟩|⟨hne,h⟩
  ·exact wpAnyH_done h1 h2 _
  ·exact wpAnyH_take ho hns hf hr (fun c a w=>hQ c a _ _ w) hy hs (bL! hns hQ f _ _ w hs h)
  ·refine wpAnyH_all rfl hne (fun i hi=>?_);obtain⟨o,ho,hst⟩:=h i hi;exact wpOp_step ho (fun K' hK=>hst K' (fun a' w' he hw=>hK a' w' ⟨he,bL! hns hQ f _ a' w' he hw⟩))
theorem bZ! {id:Nat}{a:Act}{w:World}(S:World->Prop)(hS:S w.drew)(hm:P.follows .mixedOrders=true)(hns:Region.noSelect ops=true)(hQ:∀c a d v w,Q (.panic c) (Act.put a d v) w->Q (.panic c) a w)
  (h:WalkN P ops Q S ops.size (Array.replicate ops.size false) a w.drew):(Code.region id ops true).wp P Q a w :=
 wp_region_held (S:=S) hm (bL! hns hQ _ _ a w.drew hS h)
theorem WalkN.done {f:Nat}{l:Array Bool}{a:Act}{w:World}(hr:Region.ready .any ops l=[])(h:Q .normal a w):WalkN P ops Q S f l a w:=by
 cases f
 ·exact⟨hr,h⟩
 ·exact .inl ⟨hr,h⟩
theorem WalkN.take {f:Nat}{l:Array Bool}{a:Act}{w:World}(i:Nat)(o:Oper)(v:Value)(ho:ops[i]?=some o)(hf:Region.free .any ops l i=true)(hr:(Region.ready .any ops l).contains i=true)
  (hw:Region.wanted o (yielded ops a.tmps)=true) (hy:∀W,S W->(execOp a.eval o).run P W= .ok (.value v) W) (h:WalkN P ops Q S f (l.setIfInBounds i true) (a.put o.dst v) w):WalkN P ops Q S (f+1) l a w :=
 .inr (.inl ⟨i,o,v,ho,hf,hr,.inl ⟨hw,hy⟩,h⟩)
def TkN (P:Program)(ops:Array Oper)(Q:Exit->Act->World->Prop)(S:World->Prop):List Nat->Nat->Array Bool->Act->World->Prop
 | [],f,l,a,w=>WalkN P ops Q S f l a w
 | i::is,f,l,a,w=>∃g,f=g+1/\∃o v,ops[i]?=some o/\Region.free .any ops l i=true/\(Region.ready .any ops l).contains i=true/\Region.wanted o (yielded ops a.tmps)=true/\(∀W,S W->(execOp a.eval o).run P W= .ok (.value v) W)/\TkN P ops Q S is g (l.setIfInBounds i true) (a.put o.dst v) w
theorem WalkN.tk (is:List Nat):∀ {f:Nat}{l:Array Bool}{a:Act}{w:World},TkN P ops Q S is f l a w->WalkN P ops Q S f l a w:=by
 induction is with
 | nil=>exact fun h=>h
 | cons i is ih =>
  rintro f l a w ⟨g,rfl,o,v,ho,hf,hr,hw,hy,h⟩;exact WalkN.take i o v ho hf hr hw hy (ih h)
theorem TkN.c {f:Nat}{l:Array Bool}{a:Act}{w:World}{i:Nat}{is:List Nat}(o:Oper)(v:Value)(ho:ops[i]?=some o)(hf:Region.free .any ops l i=true)(hr:(Region.ready .any ops l).contains i=true)
  (hw:Region.wanted o (yielded ops a.tmps)=true) (hy:∀W,S W->(execOp a.eval o).run P W= .ok (.value v) W) (h:TkN P ops Q S is f (l.setIfInBounds i true) (a.put o.dst v) w):TkN P ops Q S (i::is) (f+1) l a w :=
 ⟨f,rfl,o,v,ho,hf,hr,hw,hy,h⟩
theorem TkN.n {f:Nat}{l:Array Bool}{a:Act}{w:World}(h:WalkN P ops Q S f l a w):TkN P ops Q S [] f l a w:=h
def MadeN (P:Program)(ops:Array Oper)(Q:Exit->Act->World->Prop)(S:World->Prop)(f:Nat)(l:Array Bool)(a:Act)(w:World)(i:Nat):Prop :=
 ∃o,ops[i]?=some o/\Region.wanted o (yielded ops a.tmps)=true/\∀K':Act->World->Prop,Shut (∀a' w',S w'->WalkN P ops Q S f (l.setIfInBounds i true) a' w'->K' a' w')->Oper.wp P o a w K' Q
theorem WalkN.one {f:Nat}{l:Array Bool}{a:Act}{w:World}(i:Nat)(hr:Region.ready .any ops l=[i])(h:MadeN P ops Q S f l a w i):WalkN P ops Q S (f+1) l a w:=by
 refine .inr (.inr ⟨by rw[hr];simp,fun j hj=>?_⟩);rw[hr]at hj;obtain rfl:j=i:=by simpa using hj
 obtain⟨o,ho,hw,h⟩:=h;exact⟨o,ho,fun K hK=>by rw[if_pos hw];exact h K hK⟩
theorem WalkN.two {f:Nat}{l:Array Bool}{a:Act}{w:World}(i j:Nat)(hr:Region.ready .any ops l=[i,j])(h:MadeN P ops Q S f l a w i)(h':MadeN P ops Q S f l a w j):WalkN P ops Q S (f+1) l a w:=by
 refine .inr (.inr ⟨by rw[hr];simp,fun k hk=>?_⟩);rw[hr]at hk;have:k=i\/k=j:=by simpa using hk
 rcases this with rfl | rfl
 ·obtain⟨o,ho,hw,h⟩:=h;exact⟨o,ho,fun K hK=>by rw[if_pos hw];exact h K hK⟩
 ·obtain⟨o,ho,hw,h⟩:=h';exact⟨o,ho,fun K hK=>by rw[if_pos hw];exact h K hK⟩
end
theorem ay! {P:Program}{w:World}{o:Oper}{a:Act}{K:Act->World->Prop}{Q:Exit->Act->World->Prop}{t e:TypeId}{size bytes:Nat}(E:pN! P t e size bytes)
  (s x:Operand) (hop:o.op=Op.call {callee:=Callee.builtin Builtin.append,args:=#[s,x],argTypes:=#[t,t]})
  {B:Nat} {v:Value} {xs:List Value} (hs:a.eval s=v) (hown:Own w B e size v xs) {T:Nat->Prop} {y:Value} {news:List Value} (hx:a.eval x=y) (hy:Sl T w size y news) (h1:∀u∈news,u.oneCell'=true)
  (hlen:xs.length+news.length<=9223372036854775807) (hbytes:(xs.length+news.length)*bytes<=140737488355328) (hB:B<=w.heap.size)
  (h:∀v' w',Own w' B e size v' (xs++news)->Below B w w'->w.grownBy w' v.ownBlock->K (a.put o.dst v') w'):o.wp P a w K Q:=by
 obtain⟨f,⟨i,z,hi,hz,h4,h5,h6⟩,d⟩:=E;obtain⟨n,hown⟩:=hown;obtain⟨yo,m,c,rfl,g,a9,a6,a4,a1⟩:=hy;have e1:∀k l:Nat,k<=l*size->l*size<=k->l<=k:=fun k l _ hb=>n6! (Nat.le_mul_of_pos_right l d) hb;have a5:n<=xs.length:=e1 _ _ (v4! hown.1) (v4! hown.1.symm);have a8:m<=news.length:=e1 _ _ (v4! g) (v4! g.symm);have p:(n+m)*bytes<=140737488355328:=n6! (y7! _ (by omega)) hbytes
 have r:∀v' w',w'.ownsRow B e size v' (n+m) (xs++news)->w.grownBy w' v.ownBlock->K (a.put o.dst v') w' :=
  fun v' w' h0 h'=>h v' w' ⟨_,h0⟩ ((Below.refl B w).grown h' hB (fun k hk=>(hown.lt k hk).1)) h'
 cases yo with
 | some ad =>
  refine wp_append_own w s x t hop B e i z size bytes f hi hz h4 h5 h6 d v n xs hs hown ad m c news hx g (fun j u hu=>?_) h1 (by unfold maxLen;omega) p hB (fun v' w' h h' _=>r v' w' h h');obtain⟨b,a7,a0,_,a3⟩:=a1 (fun e=>by subst e;simp at hu);cases a0;rw[Addr.add_lit];exact a3 j u hu
 | none =>
  have a2:=a4 rfl;obtain rfl:m=0:=by omega
  obtain rfl:c=0:=a2;obtain rfl:news=[]:=x0! (by simpa using g);have q:=run_append_owned_none (P:=P) w B t o.type e i size f hi v n xs hown;have:=r v w (by simpa using hown) ⟨rfl,rfl,rfl,n0! _,fun _ _ _=>rfl⟩;unfold Oper.wp;simp[execOp,hop,resolve,invoke,builtin,hs,hx,q,Result.andThen];exact this
theorem Own.made (w:World) {B:Nat}(hB:B<=w.heap.size)(e:TypeId)(sz:Nat):Own (w.alloc (.cells #[] e)) B e sz (.slice (some ⟨w.heap.size,0,none⟩) 0 0) [] :=
 ⟨0,by simp,.inr ⟨w.heap.size,0,#[],rfl,hB,heap_alloc_new w _,n0! _,by unfold maxLen;omega,by simp,by simp⟩⟩
theorem k! {P : Program}{ops : Array Oper}{Q : Exit -> Act -> World -> Prop}{S : World -> Prop}{f : Nat}{l : Array Bool}{a : Act}{w : World}(i : Nat) {o : Oper}{G : Prop}(h : G) (ho : ops[i]? = some o := by simp only[gA,gS,gZ];rfl) (hf : Region.free .any ops l i = true := by kernel_rfl) (hr : (Region.ready .any ops l).contains i = true := by kernel_rfl) (hw : Region.wanted o (yielded ops a.tmps) = false := by rfl) (hG : WalkN P ops Q S f (l.setIfInBounds i true) (a.put o.dst undef) w = G := by simp only[Act.put,pA,pZ,pS];rfl) : WalkN P ops Q S (f + 1) l a w := .inr (.inl ⟨i, o, undef, ho, hf, hr, .inr ⟨hw, rfl⟩, Eq.mpr hG h⟩)
theorem c! {P : Program}{ops : Array Oper}{Q : Exit -> Act -> World -> Prop}{S : World -> Prop}{f : Nat}{l : Array Bool}{a : Act}{w : World}{i : Nat}{is : List Nat}{o : Oper}{v : Value}{G : Prop}(h : G) (ho : ops[i]? = some o := by simp only[gA,gS,gZ];rfl) (hf : Region.free .any ops l i = true := by kernel_rfl) (hr : (Region.ready .any ops l).contains i = true := by kernel_rfl) (hw : Region.wanted o (yielded ops a.tmps) = true := by rfl) (hy : ∀W,S W->(execOp a.eval o).run P W=.ok (.value v) W := by intro W hW;go_simp;try with_reducible rfl) (hG : TkN P ops Q S is f (l.setIfInBounds i true) (a.put o.dst v) w = G := by simp only[Act.put,pA,pZ,pS];rfl) : TkN P ops Q S (i :: is) (f + 1) l a w := ⟨f, rfl, o, v, ho, hf, hr, hw, hy, Eq.mpr hG h⟩
theorem t! {P : Program}{ops : Array Oper}{Q : Exit -> Act -> World -> Prop}{S : World -> Prop}{f : Nat}{l : Array Bool}{a : Act}{w : World}(i : Nat) {o : Oper}{v : Value}{G : Prop}(h : G) (ho : ops[i]? = some o := by simp only[gA,gS,gZ];rfl) (hf : Region.free .any ops l i = true := by kernel_rfl) (hr : (Region.ready .any ops l).contains i = true := by kernel_rfl) (hw : Region.wanted o (yielded ops a.tmps) = true := by rfl) (hy : ∀W,S W->(execOp a.eval o).run P W=.ok (.value v) W := by intro W hW;go_simp;try with_reducible rfl) (hG : WalkN P ops Q S f (l.setIfInBounds i true) (a.put o.dst v) w = G := by simp only[Act.put,pA,pZ,pS];rfl) : WalkN P ops Q S (f + 1) l a w := .inr (.inl ⟨i, o, v, ho, hf, hr, .inl ⟨hw, hy⟩, Eq.mpr hG h⟩)
theorem b! {ops : Array Oper}{i : Nat}{o : Oper}{A B : Oper -> Prop}(h : B o) (ho : ops[i]? = some o := by simp only[gA,gS,gZ];rfl) (hw : A o := by rfl) : ∃o, ops[i]? = some o /\ A o /\ B o := ⟨o, ho, hw, h⟩
theorem o! {P : Program}{ops : Array Oper}{Q : Exit -> Act -> World -> Prop}{S : World -> Prop}{f : Nat}{l : Array Bool}{a : Act}{w : World}(i : Nat) (h : MadeN P ops Q S f l a w i) (hr : Region.ready .any ops l = [i] := by kernel_rfl) : WalkN P ops Q S (f + 1) l a w := WalkN.one i hr h
theorem p! {P : Program}{ops : Array Oper}{Q : Exit -> Act -> World -> Prop}{S : World -> Prop}{f : Nat}{l : Array Bool}{a : Act}{w : World}(i j : Nat) (h : MadeN P ops Q S f l a w i) (h' : MadeN P ops Q S f l a w j) (hr : Region.ready .any ops l = [i, j] := by kernel_rfl) : WalkN P ops Q S (f + 1) l a w := WalkN.two i j hr h h'
theorem d! {P : Program}{ops : Array Oper}{Q : Exit -> Act -> World -> Prop}{S : World -> Prop}{f : Nat}{l : Array Bool}{a : Act}{w : World}(h : Q .normal a w) (hr : Region.ready .any ops l = [] := by kernel_rfl) : WalkN P ops Q S f l a w := WalkN.done hr h
theorem r! {P : Program}{ops : Array Oper}{Q : Exit -> Act -> World -> Prop}{id : Nat}{a : Act}{w : World}(S : World -> Prop) (hS : S w.drew) (h : WalkN P ops Q S ops.size (Array.replicate ops.size false) a w.drew) (hm : P.follows .mixedOrders = true := by kernel_rfl) (hns : Region.noSelect ops = true := by kernel_rfl) (hQ : ∀c a d v w, Q (.panic c) (Act.put a d v) w -> Q (.panic c) a w := by intro _ _ d _ _ h;cases d <;> exact h) : (Code.region id ops true).wp P Q a w := bZ! S hS hm hns hQ h
theorem re! {P : Program} {ops : Array Oper} {Q : Exit -> Act -> World -> Prop} {id : Nat} {a : Act} {w wd : World} (e : wd = w.drew) (h : WalkN P ops Q (Ext wd) ops.size (Array.replicate ops.size false) a wd) (hm : P.follows .mixedOrders = true := by kernel_rfl) (hns : Region.noSelect ops = true := by kernel_rfl) (hQ : ∀ c a d v w, Q (.panic c) (Act.put a d v) w -> Q (.panic c) a w := by intro _ _ d _ _ h;cases d <;> exact h) : (Code.region id ops true).wp P Q a w := bZ! (Ext wd) (by rw [e]; exact Ext.refl _) hm hns hQ (by rw [e] at h ⊢; exact h)
structure Im (is : List Nat) (G H : Prop) : Prop where
 f : G -> H
theorem ci! {P : Program} {ops : Array Oper} {Q : Exit -> Act -> World -> Prop} {S : World -> Prop} {f : Nat} {l : Array Bool} {a : Act} {w : World} {i : Nat} {is : List Nat} {o : Oper} {v : Value} {G0 G : Prop} (h : Im [] G0 G) (ho : ops[i]? = some o := by simp only[gA,gS,gZ];rfl) (hf : Region.free .any ops l i = true := by kernel_rfl) (hr : (Region.ready .any ops l).contains i = true := by kernel_rfl) (hw : Region.wanted o (yielded ops a.tmps) = true := by rfl) (hy : ∀ W,S W->(execOp a.eval o).run P W=.ok (.value v) W := by intro W hW;go_simp;try with_reducible rfl) (hG : TkN P ops Q S is f (l.setIfInBounds i true) (a.put o.dst v) w = G := by simp only[Act.put,pA,pZ,pS];rfl) : Im [] G0 (TkN P ops Q S (i :: is) (f + 1) l a w) := ⟨fun g => ⟨f, rfl, o, v, ho, hf, hr, hw, hy, Eq.mpr hG (h.f g)⟩⟩
theorem cn! {P : Program} {ops : Array Oper} {Q : Exit -> Act -> World -> Prop} {S : World -> Prop} {f : Nat} {l : Array Bool} {a : Act} {w : World} : Im [] (WalkN P ops Q S f l a w) (TkN P ops Q S [] f l a w) := ⟨id⟩
theorem n! {P : Program} {ops : Array Oper} {Q : Exit -> Act -> World -> Prop} {S : World -> Prop} {f : Nat} {l : Array Bool} {a : Act} {w : World} (is : List Nat) {G : Prop} (h : G) (e : Im [] G (TkN P ops Q S is f l a w) := by (repeat refine ci! ?_);exact cn!) : WalkN P ops Q S f l a w := WalkN.tk is (e.f h)
theorem ki! {P : Program} {ops : Array Oper} {Q : Exit -> Act -> World -> Prop} {S : World -> Prop} {f : Nat} {l : Array Bool} {a : Act} {w : World} {i : Nat} {is : List Nat} {o : Oper} {G0 G : Prop} (h : Im is G0 G) (ho : ops[i]? = some o := by simp only[gA,gS,gZ];rfl) (hf : Region.free .any ops l i = true := by kernel_rfl) (hr : (Region.ready .any ops l).contains i = true := by kernel_rfl) (hw : Region.wanted o (yielded ops a.tmps) = false := by rfl) (hG : WalkN P ops Q S f (l.setIfInBounds i true) (a.put o.dst undef) w = G := by simp only[Act.put,pA,pZ,pS];rfl) : Im (i :: is) G0 (WalkN P ops Q S (f + 1) l a w) := ⟨fun g => .inr (.inl ⟨i, o, undef, ho, hf, hr, .inr ⟨hw, rfl⟩, Eq.mpr hG (h.f g)⟩)⟩
theorem kn! {G : Prop} : Im [] G G := ⟨id⟩
theorem ks! {P : Program} {ops : Array Oper} {Q : Exit -> Act -> World -> Prop} {S : World -> Prop} {f : Nat} {l : Array Bool} {a : Act} {w : World} (is : List Nat) {G : Prop} (h : G) (e : Im is G (WalkN P ops Q S f l a w) := by (repeat refine ki! ?_);exact kn!) : WalkN P ops Q S f l a w := e.f h
theorem ob! {P : Program} {ops : Array Oper} {Q : Exit -> Act -> World -> Prop} {S : World -> Prop} {f : Nat} {l : Array Bool} {a : Act} {w : World} (i : Nat) {o : Oper} (h : ∀ K' : Act -> World -> Prop, Shut (∀ a' w', S w' -> WalkN P ops Q S f (l.setIfInBounds i true) a' w' -> K' a' w') -> Oper.wp P o a w K' Q) (ho : ops[i]? = some o := by simp only[gA,gS,gZ];rfl) (hw : Region.wanted o (yielded ops a.tmps) = true := by rfl) (hr : Region.ready .any ops l = [i] := by kernel_rfl) : WalkN P ops Q S (f + 1) l a w := WalkN.one i hr ⟨o, ho, hw, h⟩
theorem xd! {w w' : World} (e : w' = w.drew) : Ext w w' := by rw[e]; exact Ext.drew _
theorem xa! {w w' : World} {o} (e : w' = w.alloc o) : Ext w w' := by rw[e]; exact Ext.alloc _ _
theorem bm! {w w' : World} {cs : Array Value} {t : TypeId} (e : w' = w.alloc (.cells cs t)) : Blk w' w.heap.size cs t := by rw[e]; exact Blk.made _ _ _
theorem Sl.dropK {S:Nat->Prop}{w:World}{ao:Option Addr}{n c sz:Nat}{xs:List Value}(h:Sl S w sz (.slice ao n c) xs)(k:Nat)(hk:k<=n) :
  Sl S w sz (.slice (Option.map (fun x=>x.add (k*sz)) ao) (n-k) (c-k)) (xs.drop (k*sz)):=by
 obtain⟨a1,n',c',hv,h1,h2,h3,h4,h5⟩:=h;cases hv;refine⟨_,n-k,c-k,rfl,by rw[List.length_drop,h1,Nat.sub_mul],by omega,by omega,fun h=>?_,fun hne=>?_⟩
 ·have:=h4 (by simpa using h);omega
 ·obtain⟨b,a0,rfl,hb,hc⟩:=h5 (fun e=>hne (by simp[e]));refine⟨b,a0+k*sz,by simp[Addr.add_lit],hb,fun j u hu=>?_⟩;rw[List.getElem?_drop]at hu;rw[Nat.add_assoc];exact hc _ u hu
theorem Sl.tailK {S:Nat->Prop}{w:World}{ao ao':Option Addr}{n c sz:Nat}{xs:List Value}(h:Sl S w sz (.slice ao n c) xs)(lo:Nat)(h1:lo<=n)(hao:¬ c=lo->ao'=Option.map (fun x=>x.add (lo*sz)) ao) :
  Sl S w sz (.slice ao' (n-lo) (c-lo)) (xs.drop (lo*sz)):=by
 obtain⟨_,_,_,hv,hl,a0,_⟩:=h.len;cases hv;by_cases hc:c=lo
 ·have e1:n-lo=0:=by omega
  have e2:c-lo=0:=by omega
  have e3:xs.drop (lo*sz)=[]:=List.drop_eq_nil_of_le (by rw[hl];exact y7! sz (by omega));rw[e1,e2,e3];exact⟨ao',0,0,rfl,by simp,n0! _,v1! _,fun _=>rfl,fun h=>absurd rfl h⟩
 ·rw[hao hc];exact h.dropK lo h1
theorem Own.base {w:World}{B B':Nat}{e:TypeId}{sz:Nat}{v:Value}{xs:List Value}(h:Own w B e sz v xs)(hB:B'<=B):Own w B' e sz v xs:=by
 obtain⟨n,h1,h2⟩:=h;refine⟨n,h1,?_⟩;rcases h2 with h2 | ⟨g,cap,cur,hv,hg,r⟩
 ·exact .inl h2
 ·exact .inr ⟨g,cap,cur,hv,n6! hB hg,r⟩
theorem Own.shape {w:World}{B:Nat}{e:TypeId}{sz:Nat}{v:Value}{xs:List Value}(h:Own w B e sz v xs):(v= .slice none 0 0/\xs=[])\/∃g n c,v= .slice (some ⟨g,0,none⟩) n c:=by
 obtain⟨n,h1,h2⟩:=h;rcases h2 with⟨rfl,h2⟩|⟨g,cap,cur,hv,_⟩
 ·left
  refine⟨rfl,x0! ?_⟩;rw[h1,h2,Nat.zero_mul]
 ·exact .inr ⟨g,n,cap,hv⟩
theorem Own.slU {w:World}{B:Nat}{e:TypeId}{sz:Nat}{v:Value}{xs:List Value}(h:Own w B e sz v xs):Sl (· < w.heap.size) w sz v xs:=h.sl.mono fun _ h=>h.2
theorem in! {P:Program}{w:World}{ops:Array Oper}{rest:List Oper}{o:Oper}{a:Act}{Q:Exit->Act->World->Prop}{t e:TypeId}{size bytes:Nat}(E:pN! P t e size bytes)
  (hg:o.guard=none) (s x:Operand) (hop:o.op=Op.call {callee:=Callee.builtin Builtin.append,args:=#[s,x],argTypes:=#[t,t]})
  {B:Nat} {v:Value} {xs:List Value} (hs:a.eval s=v) (hown:Own w B e size v xs) {T:Nat->Prop} {y:Value} {news:List Value} (hx:a.eval x=y) (hy:Sl T w size y news) (h1:∀u∈news,u.oneCell'=true)
  (hlen:xs.length+news.length<=9223372036854775807) (hbytes:(xs.length+news.length)*bytes<=140737488355328) (hB:B<=w.heap.size)
  (K:∀v' w',Own w' B e size v' (xs++news)->Below B w w'->w.grownBy w' v.ownBlock->wpList P ops Q rest (a.put o.dst v') w'):wpList P ops Q (o::rest) a w :=
 wpList_plain hg fun _ hK'=>ay! E s x hop hs hown hx hy h1 hlen hbytes hB fun v' w' h h' h''=>hK' _ _ (K v' w' h h' h'')
section
variable {w w' : World} {B B' p : Nat} {e e' : TypeId} {sz sz' : Nat} {v v' : Value} {xs xs' : List Value} {cs : Array Value}
theorem Own.typed (h:Own w B e sz v xs) {g:Nat}(hg:v.ownBlock=some g):∃cur,w.heap[g]?=some (.cells cur e (0,0)):=by
 obtain⟨n,_,h2⟩:=h;rcases h2 with⟨rfl,_⟩|⟨g',cap,cur,rfl,_,hh,_⟩
 ·cases hg
 ·obtain rfl:g'=g:=v5! hg;exact⟨cur,hh⟩
theorem Own.keepOwn (h:Own w B e sz v xs)(hs:∀g,v.ownBlock=some g->w'.heap[g]?=w.heap[g]?):Own w' B e sz v xs:=by
 obtain⟨n,h1,h2⟩:=h;refine⟨n,h1,?_⟩;rcases h2 with h2 | ⟨g,cap,cur,rfl,hb,hh,r⟩
 ·exact .inl h2
 ·exact .inr ⟨g,cap,cur,rfl,hb,(hs g rfl).trans hh,r⟩
theorem Own.aside (h:Own w B e sz v xs)(k:Own w B' e' sz' v' xs')(hne:e≠e')(hg:w.grownBy w' v'.ownBlock):Own w' B e sz v xs :=
 h.keepOwn fun g hv=>hg.block g (h.block g hv).2 fun hv'=>by
  obtain⟨c1,h1⟩:=h.typed hv;obtain⟨c2,h2⟩:=k.typed hv'.symm;rw[h1]at h2;exact hne (by injection v5! h2)
end
section
variable {P : Program} {ops : Array Oper} {Q : Exit -> Act -> World -> Prop} {S : World -> Prop}
theorem WalkN.three {f:Nat}{l:Array Bool}{a:Act}{w:World}(i j m:Nat)(hr:Region.ready .any ops l=[i,j,m])(h:MadeN P ops Q S f l a w i)(h':MadeN P ops Q S f l a w j)(h'':MadeN P ops Q S f l a w m):WalkN P ops Q S (f+1) l a w:=by
 refine .inr (.inr ⟨by rw[hr];simp,fun k hk=>?_⟩);rw[hr]at hk;have:k=i\/k=j\/k=m:=by simpa using hk
 rcases this with rfl | rfl | rfl
 ·obtain⟨o,b,c,h⟩:=h;exact⟨o,b,fun K hK=>by rw[if_pos c];exact h K hK⟩
 ·obtain⟨o,b,c,h⟩:=h';exact⟨o,b,fun K hK=>by rw[if_pos c];exact h K hK⟩
 ·obtain⟨o,b,c,h⟩:=h'';exact⟨o,b,fun K hK=>by rw[if_pos c];exact h K hK⟩
end
theorem dW! {P:Program}{w:World}(base:Nat)(t ty e:TypeId)(i:TypeInfo)(z:Value)(ht:P.underlying t=some (.slice e))(hi:P.info? e=some i)(hz:i.zero=some z)
  (v:Value) (n:Nat) (xs:List Value) (hown:w.ownsRow base e i.size v n xs)
  (a:Addr) (m c:Nat) (news:List Value) (hl:news.length=m*i.size) (hnews:∀j u,news[j]?=some u->w.cell? (a.add j)=some u) (h1:∀u∈news,u.oneCell'=true)
  (h63:n+m<=maxLen) (hbytes:(n+m)*i.bytes<=140737488355328) {v':Value} {w':World} (hrun:(Builtin.append_ #[t,t] ty #[v,.slice (some a) m c]).run P w= .ok v' w') :
  ∀g,v'.ownBlock=some g->v.ownBlock=some g\/w.heap.size<=g:=by
 have d:n+m<=9223372036854775807:=by simp only[maxLen]at h63;omega
 rcases hown.2 with⟨rfl,rfl⟩|⟨g,cap,cur,rfl,hbg,hg,hnc,hcm,hcs,htake⟩
 ·have hx:xs=[]:=x0! (by simpa using hown.1);subst hx;by_cases hm:m=0
  ·subst hm;have hn:news=[]:=x0! (by simpa using hl);subst hn
   have:(Builtin.append_ #[t,t] ty #[.slice none 0 0,.slice (some a) 0 c]).run P w= .ok (.slice none 0 0) w:=by
    simp[Builtin.append_,run_underlying ht,sizeOf,typeInfo,hi,Builtin.lenOf,Builtin.firstCells,loadCells,loadCellsFrom]
   rw[hrun]at this;injection this with h1 h2
   subst h1;intro g hg;cases hg
  ·have h:=run_append_nil (P:=P) w t ty e i z ht hi hz a m c news hl hnews (by omega) (by omega) (by have hb:=hbytes;simp only[Nat.zero_add]at hb;omega);rw[hrun]at h;injection h with h1 h2
   subst h1;intro g hg;simp only[Value.ownBlock,Option.some.injEq]at hg;exact .inr (v4! hg)
 ·by_cases hroom:n+m<=cap
  ·have f:n*i.size+news.length<=cur.size:=by rw[hl,hcs,<-Nat.add_mul];exact y7! _ hroom
   have h:=run_append_room (P:=P) w t ty e i ht hi g n cap cur hg a m c news hl hnews h1 hroom f;rw[hrun]at h;injection h with h1 h2
   subst h1;intro g' hg';exact .inl hg'
  ·have b:∀j u,xs[j]?=some u->w.cell? ((⟨g,0,none⟩:Addr).add j)=some u:=hown.cells (g:=g) rfl;have h:=run_append_grow (P:=P) w t ty e i z ht hi hz ⟨g,0,none⟩ n cap xs hown.1 b a m c news hl hnews (by omega) (by omega) (growslice_fits (by omega) hbytes);rw[hrun]at h;injection h with h1 h2
   subst h1;intro g hg;simp only[Value.ownBlock,Option.some.injEq]at hg;exact .inr (v4! hg)
theorem bD! {P:Program}{w:World}{o:Oper}{a:Act}{K:Act->World->Prop}{Q:Exit->Act->World->Prop}{t e:TypeId}{size bytes:Nat}(E:pN! P t e size bytes)
  (s x:Operand) (hop:o.op=Op.call {callee:=Callee.builtin Builtin.append,args:=#[s,x],argTypes:=#[t,t]})
  {B:Nat} {v:Value} {xs:List Value} (hs:a.eval s=v) (hown:Own w B e size v xs) {ad:Addr} {m c:Nat} {news:List Value} (hx:a.eval x= .slice (some ad) m c) (hn:news.length=m*size)
  (hc:∀j u,news[j]?=some u->w.cell? (ad.add j)=some u) (h1:∀u∈news,u.oneCell'=true)
  (hlen:xs.length+news.length<=9223372036854775807) (hbytes:(xs.length+news.length)*bytes<=140737488355328) (hB:B<=w.heap.size)
  (h:∀v' w',Own w' B e size v' (xs++news)->(∀g,v'.ownBlock=some g->v.ownBlock=some g\/w.heap.size<=g)->w.grownBy w' v.ownBlock->K (a.put o.dst v') w'):o.wp P a w K Q:=by
 obtain⟨n,⟨i,z,hi,hz,h4,h5,h6⟩,d⟩:=E;obtain⟨k,hown⟩:=hown;have e1:∀k l:Nat,k<=l*size->l*size<=k->l<=k:=fun k l _ hb=>n6! (Nat.le_mul_of_pos_right l d) hb;have a0:k<=xs.length:=e1 _ _ (v4! hown.1) (v4! hown.1.symm);have a1:m<=news.length:=e1 _ _ (v4! hn) (v4! hn.symm);have b:(k+m)*bytes<=140737488355328:=n6! (y7! _ (by omega)) hbytes;subst h4;subst h5;obtain⟨v',w',f,r1,r2,_⟩:=run_append_own (P:=P) w B t o.type e i z i.size i.bytes n hi hz rfl rfl h6 d v k xs hown ad m c news hn hc h1 (by unfold maxLen;omega) b hB;have r3:=dW! B t o.type e i z n hi hz v k xs hown ad m c news hn hc h1 (by unfold maxLen;omega) b f;unfold Oper.wp;simp[execOp,hop,resolve,invoke,builtin,hs,hx,f,Result.andThen];exact h v' w' ⟨_,r1⟩ r3 r2
theorem aE! {P:Program}{w:World}{ops:Array Oper}{rest:List Oper}{o:Oper}{a:Act}{Q:Exit->Act->World->Prop}{t e:TypeId}{size bytes:Nat}(E:pN! P t e size bytes)
  (hg:o.guard=none) (s x:Operand) (hop:o.op=Op.call {callee:=Callee.builtin Builtin.append,args:=#[s,x],argTypes:=#[t,t]})
  {B:Nat} {v:Value} {xs:List Value} (hs:a.eval s=v) (hown:Own w B e size v xs) {ad:Addr} {m c:Nat} {news:List Value} (hx:a.eval x= .slice (some ad) m c) (hn:news.length=m*size)
  (hc:∀j u,news[j]?=some u->w.cell? (ad.add j)=some u) (h1:∀u∈news,u.oneCell'=true)
  (hlen:xs.length+news.length<=9223372036854775807) (hbytes:(xs.length+news.length)*bytes<=140737488355328) (hB:B<=w.heap.size)
  (K:∀v' w',Own w' B e size v' (xs++news)->(∀g,v'.ownBlock=some g->v.ownBlock=some g\/w.heap.size<=g)->w.grownBy w' v.ownBlock->wpList P ops Q rest (a.put o.dst v') w'):wpList P ops Q (o::rest) a w :=
 wpList_plain hg fun _K' hK'=>bD! E s x hop hs hown hx hn hc h1 hlen hbytes hB fun v' w' h2 h3 h4=>hK' _ _ (K v' w' h2 h3 h4)
theorem Own.apart {w:World}{B B' sz sz':Nat}{e e':TypeId}{v v':Value}{xs xs':List Value}(h:Own w B e sz v xs)(k:Own w B' e' sz' v' xs')(hne:e≠e') {g:Nat}(hg:v.ownBlock=some g):v'.ownBlock≠some g:=fun hv=>by
 obtain⟨c1,h1⟩:=h.typed hg;obtain⟨c2,h2⟩:=k.typed hv;rw[h1]at h2;exact hne (by injection v5! h2)
theorem Own.slFo {w:World}{B sz:Nat}{e:TypeId}{v:Value}{xs:List Value}(h:Own w B e sz v xs) {S:Nat->Prop}(hS:∀g,v.ownBlock=some g->S g):Sl S w sz v xs:=by
 obtain⟨n,h⟩:=h;exact cw! h _ hS
theorem Own.set1 {w:World}{B:Nat}{e:TypeId}{g n c:Nat}{xs:List Value}(h:Own w B e 1 (.slice (some ⟨g,0,none⟩) n c) xs)(i:Nat)(u:Value):Own (w.setCell ⟨g,i,none⟩ u) B e 1 (.slice (some ⟨g,0,none⟩) n c) (xs.set i u):=by
 obtain⟨m,h⟩:=h;rcases h.2 with⟨hv,rfl⟩|⟨g',cap,cur,hv,hbg,hg,hnc,hcm,hcs,htake⟩
 ·cases hv
 ·cases hv;have hl:=h.1;refine⟨n,by rw[List.length_set];exact hl,.inr ⟨g,c,cur.setIfInBounds i u,rfl,hbg,heap_setCell_same w g i cur e u hg,hnc,hcm,by simpa using hcs,?_⟩⟩;rw[Array.toList_setIfInBounds,<-htake,List.take_set]
theorem Own.lay {w:World}{B:Nat}{e:TypeId}{v:Value}{xs:List Value}(h:Own w B e 1 v xs)(hx:xs≠[]):∃g c cs,v= .slice (some ⟨g,0,none⟩) xs.length c/\B<=g/\Blk w g cs e/\xs.length<=c/\c<=maxLen/\(∀i (hi:i<xs.length),cs[i]?=some xs[i]):=by
 obtain⟨m,h⟩:=h;rcases h.2 with⟨hv,he⟩|⟨g',cap,cur,hv,hbg,hg,hnc,hcm,hcs,htake⟩
 ·exact absurd (List.length_eq_zero_iff.1 (by have:=h.1;rw[he]at this;simpa using this)) hx
 ·have hl:=h.1;rw[Nat.mul_one]at hl htake;subst hl;refine⟨g',cap,cur,hv,hbg,hg,hnc,hcm,fun i hi=>?_⟩;have h1:=congrArg (fun l:List Value=>l[i]?) htake;rw[List.getElem?_take_of_lt hi,n4! hi]at h1;simpa using h1
attribute [local go_sem] Oper.semAt_some
theorem dt! {F:Fence}{n:Nat}{P:Program}{w:World}{ops:Array Oper}{rest:List Oper}{o:Oper}{a:Act}{Q:Exit->Act->World->Prop}{t e:TypeId}{size bytes:Nat}(E:pN! P t e size bytes)
  (hg:o.guard=none) (s x:Operand) (hop:o.op=Op.call {callee:=Callee.builtin Builtin.append,args:=#[s,x],argTypes:=#[t,t]})
  {B:Nat} {v:Value} {xs:List Value} (hs:a.eval s=v) (hown:Own w B e size v xs) {ad:Addr} {m c:Nat} {news:List Value} (hx:a.eval x= .slice (some ad) m c) (hn:news.length=m*size)
  (hc:∀j u,news[j]?=some u->w.cell? (ad.add j)=some u) (h1:∀u∈news,u.oneCell'=true)
  (hlen:xs.length+news.length<=9223372036854775807) (hbytes:(xs.length+news.length)*bytes<=140737488355328) (hB:B<=w.heap.size)
  (K:∀v' w',Own w' B e size v' (xs++news)->(∀g,v'.ownBlock=some g->v.ownBlock=some g\/w.heap.size<=g)->w.grownBy w' v.ownBlock->wpListIn F n P ops Q rest (a.put o.dst v') w'):wpListIn F n P ops Q (o::rest) a w:=by
 obtain⟨h,⟨i,z,hi,hz,h4,h5,h6⟩,d⟩:=E;obtain⟨k,hown⟩:=hown;have e1:∀k l:Nat,k<=l*size->l*size<=k->l<=k:=fun k l _ hb=>n6! (Nat.le_mul_of_pos_right l d) hb;have a0:k<=xs.length:=e1 _ _ (v4! hown.1) (v4! hown.1.symm);have a1:m<=news.length:=e1 _ _ (v4! hn) (v4! hn.symm);have b:(k+m)*bytes<=140737488355328:=n6! (y7! _ (by omega)) hbytes;subst h4;subst h5;refine wpListIn_plain hg fun K' hK'=>?_;obtain⟨v',w',f,r1,r2,_⟩:=run_append_own (P:=P) w B t o.type e i z i.size i.bytes h hi hz rfl rfl h6 d v k xs hown ad m c news hn hc h1 (by unfold maxLen;omega) b hB;have r3:=dW! B t o.type e i z h hi hz v k xs hown ad m c news hn hc h1 (by unfold maxLen;omega) b f;unfold Oper.wpIn;refine⟨?_,?_⟩
 ·simp[Oper.about,hop,resolve,Target.leads,Sem.run_pure]
 ·rw[Oper.semAt_plain F _ _ (by rw[hop];intro c hc';cases hc')];simp[execOp,hop,resolve,invoke,builtin,hs,hx,f,Result.andThen];exact hK' _ _ (K v' w' ⟨_,r1⟩ r3 r2)
theorem eo! {β:Type}(B0 Bs:Nat)(t e:TypeId)(sz:Nat)(f:β->List Value)(G:Value->Prop)(B:Nat):OwnFrom B (fun s W=>∃v,Boxed W Bs t v/\Own W B0 e sz v (f s)/\G v):=by
 rintro s X Y a0 ⟨v,hv,⟨n,hr⟩,hG⟩ hg a;obtain⟨v2,h1,h2,rfl⟩:=(holdsRow_own B0 Bs t e sz (fun _:Unit=>n) (fun _=>f s) (fun _ u=>u=v)) () X Y a0 ⟨v,hv,hr,rfl⟩ hg (fun r e=>(a r e).2);exact⟨v2,h1,⟨n,h2⟩,hG⟩
theorem dL! {β:Type}{K:Nat->Prop}{B:Nat}{w0:World}(hK:∀b,K b->b<w0.heap.size)(hB:w0.heap.size<=B):OwnFrom B (fun(_:β) W=>Kept K w0 W):=fun _ X _ row h hg hr =>
 h.trans ⟨hg.os,hg.tape,hg.output,hg.size,fun b hb=>hg.block b (n1! (hK b hb) h.size) (fun e=>by have h1:=(hr b e.symm).1;have h2:=hK b hb;omega)⟩
theorem et! {W W':World}{row:Option Nat}{B:Nat}{cs:Array Value}{t:TypeId}(h:Blk W B cs t)(hg:W.grownBy W' row)(hr:∀r,row=some r->∃o:Obj,W.heap[r]?=some o/\o.isCells=false):Blk W' B cs t :=
 (hg.block B h.lt (fun e=>by
  obtain⟨o,ho,hc⟩:=hr B e.symm;rw[show W.heap[B]?=_ from h]at ho;cases ho;cases hc)).trans h
theorem Own.put {W:World}{B0:Nat}{e:TypeId}{sz:Nat}{v:Value}{xs:List Value}(h:Own W B0 e sz v xs) {l:Nat}{o:Obj}(o':Obj)(hl:W.heap[l]?=some o)(ho:o.isCells=false):Own (W.putObj l o') B0 e sz v xs:=by
 obtain⟨n,h⟩:=h;exact⟨n,ownsRow_putObj h o' hl ho⟩
theorem bB! {W:World}{B:Nat}{t e:TypeId}{u:Value}(h:Boxed W B t u)(hte:t≠e) {B0 sz:Nat}{v:Value}{xs:List Value}(hr:Own W B0 e sz v xs):some B≠v.ownBlock:=by
 obtain⟨n,hr⟩:=hr;exact h.not_row hte hr
theorem Own.not_cells {W:World}{B0:Nat}{e:TypeId}{sz:Nat}{v:Value}{xs:List Value}(h:Own W B0 e sz v xs) {k:Nat}{o:Obj}(hk:W.heap[k]?=some o)(ho:o.isCells=false):some k≠v.ownBlock:=fun e'=>by
 obtain⟨cur,hc⟩:=h.typed e'.symm;rw[hk]at hc;cases hc;cases ho
theorem hc! {W W':World}{B0:Nat}{e:TypeId}{sz:Nat}{v:Value}{xs:List Value}(h:Own W B0 e sz v xs)(hg:W.grownBy W' v.ownBlock)(B:Nat):KeepsFrom B W W' :=
 ⟨hg.size,fun k _ _ hk ho=>(hg.block k (x7!.1 hk).1 (h.not_cells hk ho)).trans hk⟩
theorem hY! {W W':World}(h:KeepsFrom 0 W W'):KeepsWalks W W':=⟨h.size,fun k o hk ho=>h.same k o (v1! _) hk (Obj.not_cells_of_walk ho)⟩
theorem jG! {W W':World}(h:KeepsFrom 0 W W')(B:Nat):KeepsFrom B W W':=⟨h.size,fun k o _ hk ho=>h.same k o (v1! _) hk ho⟩
abbrev NLG (κ ι:Type):=List (κ × Nat × List ι)
abbrev nVG {ι:Type}:Nat × List ι->Value:=fun x => .map (some x.1)
abbrev blG {ι:Type}(l:List ι):List (ι × Bool):=l.map fun p=>(p,true)
theorem dc! {ι:Type}(l:List ι):(blG l).map (·.1)=l:=by simp[blG,Function.comp_def]
def innG {κ ι:Type} [DecidableEq κ] (l:NLG κ ι)(p:κ):List ι:=match lookA l p with | some x=>x.2 | none => []
structure pQ! (P:Program)(ko k:TypeId) {κ ι:Type}(kvo:κ->Value)(kv:ι->Value)(w:World)(b:Nat)(l:NLG κ ι):Prop where
 top:Mp P ko kvo nVG w b l
 inner:∀x∈l,Mp P k kv bV w x.2.1 (blG x.2.2)
 apart:(b::l.map (·.2.1)).Nodup
def nBG {κ ι:Type}(b:Nat)(l:NLG κ ι):List Nat:=b::l.map (·.2.1)
def mOG {κ ι:Type} [DecidableEq κ] (l:NLG κ ι)(q:κ):Option Nat:=(lookA l q).map (·.1)
theorem Mp.isMap {P:Program}{k:TypeId}{κ α:Type}{kv:κ->Value}{ev:α->Value}{w:World}{b:Nat}{l:List (κ × α)}(h:Mp P k kv ev w b l):∃es c,w.heap[b]?=some (.map es c):=by
 obtain⟨es,c,h,_⟩:=h;exact⟨es,c,h⟩
theorem Mp.keyed {P:Program}{k:TypeId}{κ α:Type}{kv:κ->Value}{ev:α->Value}{w:World}{b:Nat}{l:List (κ × α)}(h:Mp P k kv ev w b l):∀p∈l,∃q,keyOf P k (kv p.1)=some q:=by
 obtain⟨_,_,_,_,_,h⟩:=h;exact h
theorem Mp.pairs {P:Program}{k:TypeId}{κ α:Type}{kv:κ->Value}{ev:α->Value}{w:World}{b:Nat}{l l':List (κ × α)}(h:Mp P k kv ev w b l)(he:l'.map (fun p=>(kv p.1,ev p.2))=l.map fun p=>(kv p.1,ev p.2))(hk:∀p∈l',∃q,keyOf P k (kv p.1)=some q):Mp P k kv ev w b l':=by
 obtain⟨es,c,h1,h2,h3,_⟩:=h;exact⟨es,c,h1,h2,h3.trans he.symm,hk⟩
theorem dj! {κ α β:Type} [DecidableEq κ] (f:κ × α->β) {a:κ}{x:α}(y:α)(hf:f (a,y)=f (a,x)):∀ {l:List (κ × α)},lookA l a=some x->(putA l a y).map f=l.map f
 | p::r,h=>by
  unfold lookA at h;unfold putA;by_cases hp:p.1=a
  ·rw[if_pos hp]at h ⊢;obtain rfl:p.2=x:=by simpa using h
   subst hp;simp[hf]
  ·rw[if_neg hp]at h ⊢;simp[dj! f y hf h]
section
variable {κ ι : Type} {P : Program} {ko k : TypeId} {kvo : κ -> Value} {kv : ι -> Value} {w w' : World} {b : Nat} {l : NLG κ ι}
theorem pQ!.isMap (h:pQ! P ko k kvo kv w b l):∀x∈nBG b l,∃es c,w.heap[x]?=some (.map es c):=by
 intro x hx;rcases v7!.1 hx with rfl | hx
 ·exact h.top.isMap
 ·obtain⟨e,he,rfl⟩:=u6!.1 hx;exact(h.inner e he).isMap
theorem pQ!.lt (h:pQ! P ko k kvo kv w b l):∀x∈nBG b l,x<w.heap.size:=fun x hx=>by
 obtain⟨es,c,hm⟩:=h.isMap x hx;exact(x7!.1 hm).1
theorem pQ!.same (h:pQ! P ko k kvo kv w b l)(hs:∀x∈nBG b l,w'.heap[x]?=w.heap[x]?):pQ! P ko k kvo kv w' b l :=
 ⟨h.top.same (hs b (by simp[nBG])),fun x hx=>(h.inner x hx).same (hs _ (by simp only[nBG];exact u9! _ (u6!.2 ⟨x,hx,rfl⟩))),h.apart⟩
theorem pQ!.below (h:pQ! P ko k kvo kv w b l)(hb:Below w.heap.size w w'):pQ! P ko k kvo kv w' b l:=h.same fun x hx=>hb.block x (h.lt x hx)
theorem pQ!.notBlk (h:pQ! P ko k kvo kv w b l) {B:Nat}{cs:Array Value}{t:TypeId}(hB:Blk w B cs t):B∉nBG b l:=fun hx=>by
 obtain⟨es,c,hm⟩:=h.isMap B hx;rw[show w.heap[B]?=_ from hB]at hm;cases hm
variable [DecidableEq κ]
theorem pQ!.inn (h:pQ! P ko k kvo kv w b l)(q:κ):MpO P k kv bV w (mOG l q) (blG (innG l q)):=by
 unfold mOG innG;cases hl:lookA l q with
 | none=>rfl
 | some x=>exact h.inner _ (aD! hl)
theorem pQ!.look (h:pQ! P ko k kvo kv w b l)(K:Keyed P ko)(inj:∀a b,kvo a=kvo b->a=b) {t e:TypeId}(ht:P.underlying t=some (.map ko e))(hz:(zeroValue e).run P w= .ok (.map none) w) {q:κ}(hk:∃z,keyOf P ko (kvo q)=some z) :
  (Instr.lookup t (.map (some b)) (kvo q) false).run P w= .ok (.map (mOG l q)) w:=by
 rw[h.top.look K inj ht hz false hk];unfold mOG lookV;cases lookA l q <;> rfl
theorem pQ!.fresh (h:pQ! P ko k kvo kv w b l) {q:κ}{bn:Nat}(hl:lookA l q=none)(hn:Mp P k kv bV w bn (blG []))(hb:bn∉nBG b l)(ht:pT! w w' b)(hm:Mp P ko kvo nVG w' b (putA l q (bn,[]))):pQ! P ko k kvo kv w' b (putA l q (bn,[])):=by
 have a:=h.apart;rw[bf! (au!.1 hl)]at hm ⊢;refine⟨hm,fun x hx=>?_,?_⟩
 ·rcases u3!.1 hx with hx | hx
  ·refine(h.inner x hx).same (ht.kept.block _ fun e=>?_);rw[List.nodup_cons]at a;exact a.1 (e▸u6!.2 ⟨x,hx,rfl⟩)
  ·obtain rfl:x=(q,bn,[]):=by simpa using hx
   exact hn.same (ht.kept.block _ fun e=>hb (by simp[nBG,e]))
 ·rw[v9!,<-x2!,List.nodup_append];refine⟨a,by simp,fun x hx y hy=>?_⟩;obtain rfl:y=bn:=by simpa using hy
  rintro rfl;exact hb hx
theorem fE! {q:κ}{bn:Nat}(hl:lookA l q=none):∀x∈nBG b (putA l q (bn,[])),x∈nBG b l\/x=bn:=by
 rw[bf! (au!.1 hl)];intro x hx;simp only[nBG,v9!,v7!,u3!,v8!,List.map_nil,List.not_mem_nil,or_false]at hx ⊢;rcases hx with h | h | h
 ·exact .inl (.inl h)
 ·exact .inl (.inr h)
 ·exact .inr h
theorem pQ!.mark (h:pQ! P ko k kvo kv w b l) {q:κ}{bi:Nat}{ss ss':List ι}(hl:lookA l q=some (bi,ss))(ht:pT! w w' bi)(hm:Mp P k kv bV w' bi (blG ss')):pQ! P ko k kvo kv w' b (putA l q (bi,ss')):=by
 have a:=aD! hl;have c:=h.apart
 have o:b≠bi:=fun e=>by
  rw[List.nodup_cons]at c;exact c.1 (e▸u6!.2 ⟨_,a,rfl⟩)
 refine⟨?_,fun x hx=>?_,?_⟩
 ·refine Mp.pairs (h.top.same (ht.kept.block _ o)) (dj! (x:=(bi,ss)) _ (bi,ss') rfl hl) fun x hx=>?_;rcases ca! _ _ _ hx with rfl | hx
  ·have:=h.top.keyed _ a;exact this
  ·exact h.top.keyed _ hx
 ·by_cases hxb:x.2.1=bi
  ·have m:(l.map (·.2.1)).Nodup:=(List.nodup_cons.1 c).2
   have a1:x=(q,bi,ss'):=by
    have f:=h.top.nodup;rw[show putA l q (bi,ss')=l.map (fun e=>if e.1=q then(q,bi,ss')else e)from ?_]at hx
    ·obtain⟨e,he,rfl⟩:=u6!.1 hx;by_cases heq:e.1=q
     ·simp[heq]
     ·simp only[heq,if_false]at hxb ⊢;exfalso
      obtain⟨i,hi,g⟩:=u0! he;obtain⟨j,hj,d⟩:=u0! a
      have a0:i=j:=by
       have h1:(l.map (·.2.1))[i]'(by simpa using hi)=(l.map (·.2.1))[j]'(by simpa using hj):=by simp[g,d,hxb]
       have n:=x3!.1 m;rcases Nat.lt_trichotomy i j with hlt | heq' | hlt
       ·exact absurd h1 (n i j _ _ hlt)
       ·exact heq'
       ·exact absurd h1.symm (n j i _ _ hlt)
      subst a0;rw[g]at d;exact heq (by rw[d])
    ·clear hx hxb m c a o ht hm h;induction l with
     | nil=>simp[lookA]at hl
     | cons e r ih =>
      simp only[v8!,List.nodup_cons]at f;unfold lookA at hl;unfold putA;by_cases he:e.1=q
      ·rw[if_pos he,v8!,if_pos he];congr 1
       rw[eq_comm];conv=>rhs;rw[<-List.map_id r]
       refine List.map_congr_left fun y hy=>?_;rw[if_neg (fun hyq=>f.1 (by rw[he,<-hyq];exact u6!.2 ⟨y,hy,rfl⟩))];rfl
      ·rw[if_neg he]at hl ⊢;rw[v8!,if_neg he,ih hl f.2]
   subst a1;exact hm
  ·rcases ca! _ _ _ hx with rfl | hx
   ·exact absurd rfl hxb
   ·exact(h.inner x hx).same (ht.kept.block _ hxb)
 ·rw[dj! (x:=(bi,ss)) (fun e:κ × Nat × List ι=>e.2.1) (bi,ss') rfl hl];exact c
theorem gj! {q:κ}{bi:Nat}{ss ss':List ι}(hl:lookA l q=some (bi,ss)):nBG b (putA l q (bi,ss'))=nBG b l:=by
 unfold nBG;rw[dj! (x:=(bi,ss)) (fun e:κ × Nat × List ι=>e.2.1) (bi,ss') rfl hl]
end
end Go.Proofs.YtlhaghoajpglaaaGreat
