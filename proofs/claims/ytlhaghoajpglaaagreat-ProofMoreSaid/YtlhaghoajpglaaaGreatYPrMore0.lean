/- Lemmas for the claim, no condition. -/
import Derived.Test.YtlhaghoajpglaaaGreatProg
import Derived.WalkSpells
import Derived.WalkLawsBesides
import Derived.Lib.Hide
import Derived.Deep.RegionHeld
import Derived.Shelf.SlSortCmp.NoneTotal
import Derived.WalkKit
set_option maxRecDepth 100000
set_option maxHeartbeats 2000000
namespace Go.Proofs.YtlhaghoajpglaaaGreat
open Go Go.RowKit Go.Proofs.Tryz
theorem e! {α : Type}(x : α) : ∃y, y = x := ⟨_, rfl⟩
abbrev n0! := @Nat.le_refl
abbrev n1! := @Nat.lt_of_lt_of_le
abbrev n2! := @List.take_succ_eq_append_getElem
abbrev n3! := @ByteArray.size_append
abbrev n4! := @List.getElem?_eq_getElem
abbrev n5! := @List.getElem_mem
abbrev n6! := @Nat.le_trans
abbrev n7! := @beq_eq_false_iff_ne
abbrev n8! := @List.getD_eq_getElem?_getD
abbrev n9! := @List.mem_singleton
abbrev u0! := @List.getElem_of_mem
abbrev u1! := @decide_eq_true_eq
abbrev u2! := @List.take_length
abbrev u3! := @List.mem_append
abbrev u4! := @List.length_append
abbrev u5! := @ByteArray.toList_eq
abbrev u6! := @List.mem_map
abbrev u7! := @List.length_cons
abbrev u8! := @List.all_eq_true
abbrev u9! := @List.mem_cons_of_mem
abbrev v0! := @Bool.and_eq_true
abbrev v1! := @Nat.zero_le
abbrev v2! := @decide_eq_true
abbrev v3! := @decide_eq_false
abbrev v4! := @Nat.le_of_eq
abbrev v5! := @Option.some.inj
abbrev v6! := @List.length_nil
abbrev v7! := @List.mem_cons
abbrev v8! := @List.map_cons
abbrev v9! := @List.map_append
abbrev x0! := @List.eq_nil_of_length_eq_zero
abbrev x1! := @List.length_map
abbrev x2! := @List.cons_append
abbrev x3! := @List.pairwise_iff_getElem
abbrev x4! := @List.length_take
abbrev x5! := @List.any_eq_true
abbrev x6! := @List.take_append_drop
abbrev x7! := @Array.getElem?_eq_some_iff
abbrev x8! := @List.length_filter_le
abbrev x9! := @List.flatMap_append
abbrev y0! := @List.getElem?_eq_none
abbrev y1! := @ByteArray.append_assoc
abbrev y2! := @List.nil_append
abbrev y3! := @List.getElem?_eq_some_iff
abbrev y4! := @List.mem_cons_self
abbrev y5! := @List.flatMap_cons
abbrev y6! := @List.append_assoc
abbrev y7! := @Nat.mul_le_mul_right
theorem h! {p : Prop}(h : p) : Hid p := Lib.hid h
theorem gA {α : Type}(l : List α) (i : Nat) : l.toArray[i]? = l[i]? := List.getElem?_toArray
theorem gS {α : Type}(a : α) (l : List α) (i : Nat) : (a :: l)[i + 1]? = l[i]? := List.getElem?_cons_succ
theorem gZ {α : Type}(a : α) (l : List α) : (a :: l)[0]? = some a := List.getElem?_cons_zero
theorem pA {α : Type}(l : List α) (i : Nat) (a : α) : l.toArray.setIfInBounds i a = (l.set i a).toArray := List.setIfInBounds_toArray _ _ _
theorem pZ {α : Type}(a b : α) (l : List α) : (a :: l).set 0 b = b :: l := List.set_cons_zero
theorem pS {α : Type}(a b : α) (l : List α) (i : Nat) : (a :: l).set (i + 1) b = a :: l.set i b := List.set_cons_succ
structure oi! (P:Program)(t e:TypeId)(size bytes:Nat):Prop where
 und:P.underlying t=some (.slice e)
 row:∃i z,P.info? e=some i/\i.zero=some z/\i.size=size/\i.bytes=bytes/\z.cells.size=size
 pos:0<size
theorem oi!.mk' {P:Program}{t e:TypeId}{z:Value}{size bytes:Nat}(h1:P.underlying t=some (.slice e))
  (h2:(P.info? e).map (fun i=>(i.zero,i.size,i.bytes))=some (some z,size,bytes)) (h3:z.cells.size=size) (h4:0<size):oi! P t e size bytes:=by
 obtain⟨i,a,b,c,d⟩:=info_parts h2;exact⟨h1,⟨i,z,a,b,c,d,h3⟩,h4⟩
def Same (S:Nat->Prop)(w w':World):Prop:=∀b,S b->w'.heap[b]?=w.heap[b]?
theorem Same.mono {S T:Nat->Prop}{a b:World}(h:Same S a b)(k:∀x,T x->S x):Same T a b:=fun x hx=>h x (k x hx)
theorem Same.below {B:Nat}{a b:World}(h:Below B a b):Same (· < B) a b:=fun x hx=>h.block x hx
theorem Same.cell {S:Nat->Prop}{a b:World}(h:Same S a b) {p:Addr}(hp:S p.block):b.cell? p=a.cell? p:=World.cell?_of_block (h _ hp)
def Sl (S:Nat->Prop)(w:World)(sz:Nat)(v:Value)(xs:List Value):Prop :=
 ∃ao n c,v= .slice ao n c/\xs.length=n*sz/\n<=c/\c<=maxLen/\(ao=none->c=0) /\
  (xs≠[]->∃b off,ao=some ⟨b,off,none⟩/\S b/\∀j u,xs[j]?=some u->w.cell? ⟨b,off+j,none⟩=some u)
theorem Sl.same {S:Nat->Prop}{w w':World}{sz:Nat}{v:Value}{xs:List Value}(h:Sl S w sz v xs)(hs:Same S w w'):Sl S w' sz v xs:=by
 obtain⟨ao,n,c,rfl,h1,h2,h3,h4,h5⟩:=h;refine⟨ao,n,c,rfl,h1,h2,h3,h4,fun hne=>?_⟩;obtain⟨b,a,rfl,hb,hc⟩:=h5 hne;exact⟨b,a,rfl,hb,fun j u hu=>(hs.cell (p:=⟨b,a+j,none⟩) hb).trans (hc j u hu)⟩
theorem Sl.mono {S T:Nat->Prop}{w:World}{sz:Nat}{v:Value}{xs:List Value}(h:Sl S w sz v xs)(hs:∀b,S b->T b):Sl T w sz v xs:=by
 obtain⟨ao,n,c,rfl,h1,h2,h3,h4,h5⟩:=h;refine⟨ao,n,c,rfl,h1,h2,h3,h4,fun hne=>?_⟩;obtain⟨b,a0,rfl,hb,hc⟩:=h5 hne;exact⟨b,a0,rfl,hs b hb,hc⟩
theorem Sl.nil (S:Nat->Prop)(w:World)(sz:Nat):Sl S w sz (.slice none 0 0) []:=⟨none,0,0,rfl,by simp,n0! _,v1! _,fun _=>rfl,fun h=>absurd rfl h⟩
theorem Sl.made (w:World)(S:Nat->Prop)(sz n:Nat)(e:TypeId)(cs:Array Value)(hn:cs.size=n*sz)(hm:n<=maxLen)(hS:S w.heap.size) :
  Sl S (w.alloc (.cells cs e)) sz (.slice (some ⟨w.heap.size,0,none⟩) n n) cs.toList:=by
 refine⟨_,n,n,rfl,by simpa using hn,n0! _,hm,(fun h=>by cases h),fun _=>⟨w.heap.size,0,rfl,hS,fun j u hu=>?_⟩⟩;rw[cell_of_row _ w.heap.size (0+j) cs e (0,0) (heap_alloc_new w _)];simpa using hu
theorem Sl.take {S:Nat->Prop}{w:World}{sz:Nat}{ao:Option Addr}{n c:Nat}{xs:List Value}(h:Sl S w sz (.slice ao n c) xs)(k:Nat)(hk:k<=n):Sl S w sz (.slice ao k c) (xs.take (k*sz)):=by
 obtain⟨a2,n',c',hv,h1,h2,h3,h4,h5⟩:=h;cases hv;have a1:=y7! sz hk;refine⟨ao,k,c,rfl,by rw[x4!];omega,by omega,h3,h4,fun hne=>?_⟩;obtain⟨b,a0,rfl,hb,hc⟩:=h5 (fun e=>hne (by simp[e]));refine⟨b,a0,rfl,hb,fun j u hu=>hc j u ?_⟩;rw[List.getElem?_take]at hu;split at hu
 ·exact hu
 ·cases hu
theorem Sl.drop {S:Nat->Prop}{w:World}{ao:Option Addr}{n c:Nat}{xs:List Value}(h:Sl S w 1 (.slice ao n c) xs)(k:Nat)(hk:k<=n) :
  Sl S w 1 (.slice (Option.map (fun x=>x.add k) ao) (n-k) (c-k)) (xs.drop k):=by
 obtain⟨a1,n',c',hv,h1,h2,h3,h4,h5⟩:=h;cases hv;refine⟨_,n-k,c-k,rfl,by rw[List.length_drop];omega,by omega,by omega,fun h=>?_,fun hne=>?_⟩
 ·have:=h4 (by simpa using h);omega
 ·obtain⟨b,a0,rfl,hb,hc⟩:=h5 (fun e=>hne (by simp[e]));refine⟨b,a0+k,by simp[Addr.add_lit],hb,fun j u hu=>?_⟩;rw[List.getElem?_drop]at hu;rw[Nat.add_assoc];exact hc _ u hu
theorem Sl.len {S:Nat->Prop}{w:World}{sz:Nat}{v:Value}{xs:List Value}(h:Sl S w sz v xs):∃ao n c,v= .slice ao n c/\xs.length=n*sz/\n<=c/\c<=9223372036854775807:=by
 obtain⟨a0,n',c',hv,h1,h2,h3,h4,h5⟩:=h;exact⟨a0,n',c',hv,h1,h2,by unfold maxLen at h3;omega⟩
theorem bk! {w:World}{B:Nat}{e:TypeId}{sz:Nat}{v:Value}{n:Nat}{xs:List Value}(h:w.ownsRow B e sz v n xs)(S:Nat->Prop)(hS:∀g,v.ownBlock=some g->S g) :
  Sl S w sz v xs:=by
 rcases h.2 with⟨rfl,rfl⟩|⟨g,cap,cur,rfl,hb,hg,hnc,hcm,hcs,htake⟩
 ·have:xs=[]:=x0! (by simpa using h.1);subst this;exact Sl.nil S w sz
 ·refine⟨_,n,cap,rfl,h.1,hnc,hcm,(fun h=>by cases h),fun _=>⟨g,0,rfl,hS g rfl,fun j u hu=>?_⟩⟩;have hj:j<n*sz:=by rw[<-h.1];exact(y3!.1 hu).1
  rw[Nat.zero_add,h.cellAt j hj];exact hu
theorem de! {w w':World}{o:Obj}{row:Option Nat}(h:(w.alloc o).grownBy w' row):w.grownBy w' row :=
 ⟨h.os,h.tape,h.output,n6! (by simp) h.size,fun k hk hr=>(h.block k (by simp;omega) hr).trans (Below.heap_alloc w o k hk)⟩
theorem Sl.window {S:Nat->Prop}{w:World}{ao ao':Option Addr}{n c:Nat}{xs:List Value}(h:Sl S w 1 (.slice ao n c) xs)(lo hi:Nat)(h1:lo<=hi)(h2:hi<=n)
  (hao:¬ c=lo->ao'=Option.map (fun x=>x.add lo) ao):Sl S w 1 (.slice ao' (hi-lo) (c-lo)) ((xs.drop lo).take (hi-lo)):=by
 have a:=h.len;obtain⟨_,_,_,hv,hl,a0,_⟩:=a;cases hv;by_cases hc:c=lo
 ·have:hi-lo=0:=by omega
  have e:c-lo=0:=by omega
  rw[this,e,List.take_zero];exact⟨ao',0,0,rfl,rfl,n0! _,v1! _,fun _=>rfl,fun h=>absurd rfl h⟩
 ·rw[hao hc];have:=(h.drop lo (by omega)).take (hi-lo) (by omega);rwa[Nat.mul_one]at this
def Blk (w:World)(B:Nat)(cs:Array Value)(e:TypeId):Prop:=w.heap[B]?=some (.cells cs e (0,0))
section
variable {w W : World} {B : Nat} {cs : Array Value} {e : TypeId}
theorem Blk.made (w:World)(cs:Array Value)(e:TypeId):Blk (w.alloc (.cells cs e)) w.heap.size cs e:=heap_alloc_new w _
theorem Blk.made' {w:World}{B:Nat}(h:w.heap.size=B)(cs:Array Value)(e:TypeId):Blk (w.alloc (.cells cs e)) B cs e:=h▸Blk.made w cs e
theorem Blk.lt (h:Blk w B cs e):B<w.heap.size:=(x7!.1 h).1
theorem Blk.same {S:Nat->Prop}(h:Blk w B cs e)(hs:Same S w W)(hB:S B):Blk W B cs e:=(hs B hB).trans h
theorem Blk.below (h:Blk w B cs e)(hb:Below w.heap.size w W):Blk W B cs e:=(hb.block B h.lt).trans h
theorem Blk.alloc (h:Blk w B cs e)(o:Obj):Blk (w.alloc o) B cs e:=(Below.heap_alloc w o B h.lt).trans h
theorem Blk.drew (h:Blk w B cs e):Blk w.drew B cs e:=h
theorem Blk.cells (h:Blk w B cs e):∀i,w.cell? ⟨B,i,none⟩=cs[i]?:=fun i=>cell_of_row w B i cs e (0,0) h
theorem Blk.free (h:Blk w B cs e):∀i,w.frozen? ⟨B,i,none⟩=false:=fun i=>frozen_of_row w B i cs e h
theorem Blk.set (h:Blk w B cs e)(i:Nat)(v:Value):Blk (w.setCell ⟨B,i,none⟩ v) B (cs.setIfInBounds i v) e:=heap_setCell_same w B i cs e v h
theorem Blk.other (h:Blk w B cs e) {a:Addr}(ha:B≠a.block)(v:Value):Blk (w.setCell a v) B cs e:=(Below.heap_setCell w a v B ha).trans h
end
theorem setAt {B i:Nat}{w w':World}{v:Value}(h:Below B w w'):Below B w (w'.setCell ⟨B,i,none⟩ v):=h.setCell (n0! B) v
structure Kept (K:Nat->Prop)(w w':World):Prop where
 os:w'.os=w.os
 tape:w'.tape=w.tape
 output:w'.output=w.output
 size:w.heap.size<=w'.heap.size
 block:∀b,K b->w'.heap[b]?=w.heap[b]?
section
variable {K : Nat -> Prop} {w w' w'' : World} {B : Nat}
theorem Kept.refl (K:Nat->Prop)(w:World):Kept K w w:=⟨rfl,rfl,rfl,n0! _,fun _ _=>rfl⟩
theorem Kept.trans (h:Kept K w w')(k:Kept K w' w''):Kept K w w'' :=
 ⟨k.os.trans h.os,k.tape.trans h.tape,k.output.trans h.output,n6! h.size k.size,fun b hb=>(k.block b hb).trans (h.block b hb)⟩
theorem Kept.mono {J:Nat->Prop}(h:Kept K w w')(hj:∀b,J b->K b):Kept J w w':=⟨h.os,h.tape,h.output,h.size,fun b hb=>h.block b (hj b hb)⟩
theorem Below.kept (h:Below B w w')(hk:∀b,K b->b<B):Kept K w w':=⟨h.os,h.tape,h.output,h.size,fun b hb=>h.block b (hk b hb)⟩
theorem Kept.below (h:Kept K w w')(hk:∀b,b<B->K b):Below B w w':=⟨h.os,h.tape,h.output,h.size,fun b hb=>h.block b (hk b hb)⟩
theorem Kept.alloc (h:Kept K w w')(hk:∀b,K b->b<w'.heap.size)(o:Obj):Kept K w (w'.alloc o):=h.trans (Below.kept ((Below.refl _ _).alloc (n0! _) o) hk)
theorem Kept.set (h:Kept K w w') {a:Addr}(ha:¬ K a.block)(v:Value):Kept K w (w'.setCell a v) :=
 h.trans ⟨rfl,rfl,rfl,v4! (by simp),fun b hb=>Below.heap_setCell w' a v b (fun e=>ha (e▸hb))⟩
theorem Kept.drew (h:Kept K w w'):Kept K w w'.drew:=⟨h.os,h.tape,h.output,h.size,h.block⟩
theorem Blk.set_to {cs cs':Array Value}{e:TypeId}(h:Blk w B cs e)(i:Nat)(v:Value)(he:cs.setIfInBounds i v=cs'):Blk (w.setCell ⟨B,i,none⟩ v) B cs' e:=he▸h.set i v
theorem Kept.blk (h:Kept K w w') {cs:Array Value}{e:TypeId}(hB:Blk w B cs e)(hk:K B):Blk w' B cs e:=(h.block B hk).trans hB
end
theorem ac! {α:Type}{enc:α->List Value}{sz:Nat}(hk:∀a,(enc a).length=sz):∀l:List α,(l.flatMap enc).length=l.length*sz
 | []=>by simp
 | a::l=>by rw[y5!,u4!,ac! hk l,hk,u7!,Nat.add_mul,Nat.one_mul,Nat.add_comm]
theorem fD! {α:Type}{enc:α->List Value}{sz:Nat}(hk:∀a,(enc a).length=sz):∀(l:List α)(i:Nat)(h:i<l.length)(j:Nat),j<sz->(l.flatMap enc)[i*sz+j]?=(enc l[i])[j]?
 | a::l,0,_,j,hj=>by rw[y5!,Nat.zero_mul,Nat.zero_add,List.getElem?_append_left (by rw[hk];exact hj)];rfl
 | a::l,i+1,h,j,hj=>by
  rw[y5!,List.getElem?_append_right (by rw[hk,Nat.add_mul];omega),hk,show(i+1)*sz+j-sz=i*sz+j from by rw[Nat.add_mul];omega];exact fD! hk l i (by simpa using h) j hj
theorem Sl.rows {α:Type}{enc:α->List Value}{sz:Nat}(hk:∀a,(enc a).length=sz)(hpos:0<sz) {S:Nat->Prop}{w:World}{v:Value}{l:List α}(h:Sl S w sz v (l.flatMap enc)) :
  ∃ao c,v= .slice ao l.length c/\l.length<=c/\c<=9223372036854775807 /\
   (0<l.length->∃b off,ao=some ⟨b,off,none⟩/\S b/\∀i (hi:i<l.length) (j:Nat) u,(enc l[i])[j]?=some u->w.cell? ⟨b,off+i*sz+j,none⟩=some u):=by
 obtain⟨ao,n,c,rfl,h1,h2,h3,h4,h5⟩:=h;rw[ac! hk]at h1;obtain rfl:l.length=n:=Nat.eq_of_mul_eq_mul_right hpos h1;refine⟨ao,c,rfl,h2,by unfold maxLen at h3;omega,fun hl=>?_⟩
 obtain⟨b,off,rfl,hb,hc⟩:=h5 (fun e=>by
  have:=congrArg List.length e;rw[ac! hk,v6!]at this;have:=Nat.mul_pos hl hpos;omega)
 refine⟨b,off,rfl,hb,fun i hi j u hu=>?_⟩;rw[Nat.add_assoc];refine hc (i*sz+j) u ?_;rw[fD! hk l i hi j (by rw[<-hk l[i]];exact(y3!.1 hu).1)];exact hu
theorem aH! {n i:Nat}{p:(j:Nat)->j<n->Prop}(h:∀j (hj:j<n),j<i->p j hj)(hi:i<n)(hp:p i hi):∀j (hj:j<n),j<i+1->p j hj :=
 fun j hj hl=>(Nat.lt_succ_iff_lt_or_eq.1 hl).elim (fun e=>h j hj e) (fun e=>by subst e;exact hp)
theorem aV! {a b:ByteArray}(h:a≠b):(a.data.toList == b.data.toList)=false:=by
 rw[n7!];exact fun e=>h (ByteArray.ext (by rw[<-Array.toList_inj];exact e))
def Gr (w w':World):Prop:=∃q os,w'=Sort.grow (w.drewN q) os
theorem Gr.refl (w:World):Gr w w:=⟨0,#[],by simp[Sort.grow,World.drewN]⟩
theorem Gr.alloc {w w':World}(h:Gr w w')(o:Obj):Gr w (w'.alloc o):=by
 obtain⟨q,os,rfl⟩:=h;exact⟨q,os++#[o],by rw[Sort.alloc_eq_grow,Sort.grow_grow]⟩
theorem Gr.drew {w w':World}(h:Gr w w'):Gr w w'.drew:=by
 obtain⟨q,os,rfl⟩:=h;exact⟨q+1,os,rfl⟩
theorem Gr.below {w w':World}(h:Gr w w'):Below w.heap.size w w':=by
 obtain⟨q,os,rfl⟩:=h;exact⟨rfl,rfl,rfl,by simp[Sort.grow,World.drewN],fun k hk=>by simp[Sort.grow,World.drewN,Array.getElem?_append,hk]⟩
def ltS (a b:ByteArray):Bool:=Op.bytesLess a.toList b.toList
theorem iv! (a b:ByteArray):ltS a b=decide (a.data.toList<b.data.toList):=by
 unfold ltS;rw[u5!,u5!];exact bytesLess_eq _ _
theorem gj! (a:ByteArray):ltS a a=false:=by
 rw[iv!];simp[List.lt_irrefl]
theorem dY! {a b c:ByteArray}(h:ltS a b=true)(k:ltS b c=true):ltS a c=true:=by
 rw[iv!]at *;simp only[u1!]at *;exact List.lt_trans h k
theorem dZ! {a b:ByteArray}(h:ltS a b=false)(hne:a≠b):ltS b a=true:=by
 rw[iv!]at *;simp only[u1!,decide_eq_false_iff_not]at *;have h1:b.data.toList<=a.data.toList:=List.not_lt.1 h;rcases List.le_iff_lt_or_eq.1 h1 with h2 | h2
 ·exact h2
 ·exact absurd (ByteArray.ext (by rw[<-Array.toList_inj];exact h2.symm)) hne
def cmpS (a b:ByteArray):Int:=if ltS a b then -1 else if a=b then 0 else 1
theorem el! (a b:ByteArray):cmpS a b=0↔a=b:=by
 unfold cmpS;by_cases h:a=b
 ·subst h;simp[gj!]
 ·cases ltS a b <;> simp[h]
theorem fK! (a b:ByteArray):cmpS a b<0↔ltS a b=true:=by
 unfold cmpS;cases h:ltS a b with
 | true=>simp
 | false=>by_cases e:a=b <;> simp[e]
def orL:List Int->Int
 | []=>0
 | a::l=>if a=0 then orL l else a
theorem ih! {l:List Int}:∀ {i:Nat},(∀j (hj:j<l.length),j<i->l[j]=0)->orL l=orL (l.drop i):=by
 induction l with
 | nil=>intro i _;simp[orL]
 | cons a l ih =>
  intro i h;cases i with
  | zero=>rfl
  | succ i =>
   have h0:=h 0 (by simp) (by omega);simp only[List.getElem_cons_zero]at h0;rw[orL,if_pos h0,List.drop_succ_cons];refine ih fun j hj hji=>?_;have h1:=h (j+1) (by simpa using hj) (by omega);rwa[List.getElem_cons_succ]at h1
def Ext (w W:World):Prop:=Below w.heap.size w W
theorem Ext.refl (w:World):Ext w w:=Below.refl _ _
theorem Ext.trans {a b c:World}(h:Ext a b)(k:Ext b c):Ext a c:=Below.trans h (Below.mono k (Below.size h))
theorem Ext.drew (w:World):Ext w w.drew:=(Below.refl _ _).drew
theorem Ext.alloc (w:World)(o:Obj):Ext w (w.alloc o):=(Below.refl _ _).alloc (n0! _) o
theorem Ext.size {w W:World}(h:Ext w W):w.heap.size<=W.heap.size:=Below.size h
theorem Ext.cell {w W:World}(h:Ext w W) {a:Addr}{v:Value}(hc:w.cell? a=some v):W.cell? a=some v:=(Below.cell h (World.block_lt_of_cell? w a hc)).trans hc
section
variable {P : Program} {ops : Array Oper} {Q : Exit -> Act -> World -> Prop}
end
def Own (w:World)(B:Nat)(e:TypeId)(sz:Nat)(v:Value)(xs:List Value):Prop:=∃n,w.ownsRow B e sz v n xs
section
variable {w w' : World} {B : Nat} {e : TypeId} {sz : Nat} {v : Value} {xs : List Value}
theorem Own.nil (w:World)(B:Nat)(e:TypeId)(sz:Nat):Own w B e sz (.slice none 0 0) []:=⟨0,World.ownsRow_nil w B e sz⟩
theorem Own.sl (h:Own w B e sz v xs):Sl (fun b=>B<=b/\b<w.heap.size) w sz v xs:=by
 obtain⟨n,h⟩:=h;exact bk! h _ (fun g hg=>h.lt g hg)
theorem Own.keep (h:Own w B e sz v xs)(hs:∀b,B<=b->b<w.heap.size->w'.heap[b]?=w.heap[b]?):Own w' B e sz v xs:=by
 obtain⟨n,h⟩:=h;refine⟨n,h.1,?_⟩;rcases h.2 with hn | ⟨g,cap,cur,rfl,hbg,hg,r⟩
 ·exact .inl hn
 ·exact .inr ⟨g,cap,cur,rfl,hbg,(hs g hbg (x7!.1 hg).1).trans hg,r⟩
theorem Own.below (h:Own w B e sz v xs)(hb:Below w.heap.size w w'):Own w' B e sz v xs:=h.keep fun b _ hl=>hb.block b hl
theorem Own.block (h:Own w B e sz v xs):∀g,v.ownBlock=some g->B<=g/\g<w.heap.size:=by
 obtain⟨n,h⟩:=h;exact fun g hg=>h.lt g hg
end
theorem an! {P:Program}{w:World}{ops:Array Oper}{rest:List Oper}{o:Oper}{a:Act}{Q:Exit->Act->World->Prop}{t e:TypeId}{size bytes:Nat}(E:oi! P t e size bytes)
  (hg:o.guard=none) (s x:Operand) (hop:o.op=Op.call {callee:=Callee.builtin Builtin.append,args:=#[s,x],argTypes:=#[t,t]})
  {B:Nat} {v:Value} {xs:List Value} (hs:a.eval s=v) (hown:Own w B e size v xs) {cs:Array Value} {m:Nat} (hx:a.eval x= .slice (some ⟨w.heap.size,0,none⟩) m m) (hm:cs.size=m*size) (h1:∀u∈cs.toList,u.oneCell'=true)
  (hlen:xs.length+cs.size<=9223372036854775807) (hbytes:(xs.length+cs.size)*bytes<=140737488355328) (hB:B<=w.heap.size)
  (K:∀v' w',Own w' B e size v' (xs++cs.toList)->Below B w w'->w.grownBy w' v.ownBlock->wpList P ops Q rest (a.put o.dst v') w'):wpList P ops Q (o::rest) a (w.alloc (.cells cs e)):=by
 obtain⟨c,⟨i,z,hi,hz,h4,h5,h6⟩,b⟩:=E;obtain⟨n,hown⟩:=hown;have e1:∀k l:Nat,k<=l*size->l*size<=k->l<=k:=fun k l _ hb=>n6! (Nat.le_mul_of_pos_right l b) hb;have a1:n<=xs.length:=e1 _ _ (v4! hown.1) (v4! hown.1.symm);have a0:m<=cs.size:=e1 _ _ (v4! hm) (v4! hm.symm);have d:(n+m)*bytes<=140737488355328:=n6! (y7! _ (by omega)) hbytes;refine wpList_append_own _ hg s x t hop B e i z size bytes c hi hz h4 h5 h6 b v n xs hs (hown.alloc _) ⟨w.heap.size,0,none⟩ m m cs.toList hx (by simpa using hm) (fun j u hu=>?_) h1 (by unfold maxLen;omega) d (by simp;omega) (fun v' w' h h' _=>?_)
 ·rw[Addr.add_lit,cell_of_row _ w.heap.size (0+j) cs e (0,0) (heap_alloc_new w _)];simpa using hu
 ·have f:=de! h';exact K v' w' ⟨_,h⟩ ((Below.refl B w).grown f hB (fun k hk=>(hown.lt k hk).1)) f
section
variable {P : Program} {ops : Array Oper} {Q : Exit -> Act -> World -> Prop} {S : World -> Prop}
def WalkN (P:Program)(ops:Array Oper)(Q:Exit->Act->World->Prop)(S:World->Prop):Nat->Array Bool->Act->World->Prop
 | 0,l,a,w=>Region.ready .any ops l=[]/\Q .normal a w
 | f+1,l,a,w=>(Region.ready .any ops l=[]/\Q .normal a w) \/
   (∃i o v,ops[i]?=some o/\Region.free .any ops l i=true/\(Region.ready .any ops l).contains i=true/\YieldsIf P ops S o v a/\WalkN P ops Q S f (l.setIfInBounds i true) (a.put o.dst v) w) \/
   (Region.ready .any ops l≠[]/\∀i∈Region.ready .any ops l,∃o,ops[i]?=some o/\∀K':Act->World->Prop,Shut (∀a' w',S w'->WalkN P ops Q S f (l.setIfInBounds i true) a' w'->K' a' w') ->
    if Region.wanted o (yielded ops a.tmps)=true then Oper.wp P o a w K' Q else K' (a.put o.dst undef) w)
theorem bH! (hns:Region.noSelect ops=true)(hQ:∀c a d v w,Q (.panic c) (Act.put a d v) w->Q (.panic c) a w) :
  ∀(f:Nat) (l:Array Bool) (a:Act) (w:World),S w->WalkN P ops Q S f l a w->wpAnyH P .any ops Q S f l a w
 | 0,l,a,w,_,h=>wpAnyH_done h.1 h.2 0
 | f+1,l,a,w,hs,h=>by
  rcases h with⟨h1,h2⟩|⟨i,o,v,ho,hf,hr,hy,h⟩|⟨hne,h⟩
  ·exact wpAnyH_done h1 h2 _
  ·exact wpAnyH_take ho hns hf hr (fun c a w=>hQ c a _ _ w) hy hs (bH! hns hQ f _ _ w hs h)
  ·refine wpAnyH_all rfl hne (fun i hi=>?_);obtain⟨o,ho,hst⟩:=h i hi;exact wpOp_step ho (fun K' hK=>hst K' (fun a' w' he hw=>hK a' w' ⟨he,bH! hns hQ f _ a' w' he hw⟩))
theorem al! {id:Nat}{a:Act}{w:World}(S:World->Prop)(hS:S w.drew)(hm:P.follows .mixedOrders=true)(hns:Region.noSelect ops=true)(hQ:∀c a d v w,Q (.panic c) (Act.put a d v) w->Q (.panic c) a w)
  (h:WalkN P ops Q S ops.size (Array.replicate ops.size false) a w.drew):(Code.region id ops true).wp P Q a w :=
 wp_region_held (S:=S) hm (bH! hns hQ _ _ a w.drew hS h)
theorem WalkN.done {f:Nat}{l:Array Bool}{a:Act}{w:World}(hr:Region.ready .any ops l=[])(h:Q .normal a w):WalkN P ops Q S f l a w:=by
 cases f
 ·exact⟨hr,h⟩
 ·exact .inl ⟨hr,h⟩
theorem WalkN.take {f:Nat}{l:Array Bool}{a:Act}{w:World}(i:Nat)(o:Oper)(v:Value)(ho:ops[i]?=some o)(hf:Region.free .any ops l i=true)(hr:(Region.ready .any ops l).contains i=true)
  (hw:Region.wanted o (yielded ops a.tmps)=true) (hy:∀W,S W->(execOp a.eval o).run P W= .ok (.value v) W) (h:WalkN P ops Q S f (l.setIfInBounds i true) (a.put o.dst v) w):WalkN P ops Q S (f+1) l a w :=
 .inr (.inl ⟨i,o,v,ho,hf,hr,.inl ⟨hw,hy⟩,h⟩)
def TkN (P:Program)(ops:Array Oper)(Q:Exit->Act->World->Prop)(S:World->Prop):List Nat->Nat->Array Bool->Act->World->Prop
 | [],f,l,a,w=>WalkN P ops Q S f l a w
 | i::is,f,l,a,w=>∃g,f=g+1/\∃o v,ops[i]?=some o/\Region.free .any ops l i=true/\(Region.ready .any ops l).contains i=true/\Region.wanted o (yielded ops a.tmps)=true/\(∀W,S W->(execOp a.eval o).run P W= .ok (.value v) W)/\TkN P ops Q S is g (l.setIfInBounds i true) (a.put o.dst v) w
theorem WalkN.tk (is:List Nat):∀ {f:Nat}{l:Array Bool}{a:Act}{w:World},TkN P ops Q S is f l a w->WalkN P ops Q S f l a w:=by
 induction is with
 | nil=>exact fun h=>h
 | cons i is ih =>
  rintro f l a w ⟨g,rfl,o,v,ho,hf,hr,hw,hy,h⟩;exact WalkN.take i o v ho hf hr hw hy (ih h)
theorem TkN.c {f:Nat}{l:Array Bool}{a:Act}{w:World}{i:Nat}{is:List Nat}(o:Oper)(v:Value)(ho:ops[i]?=some o)(hf:Region.free .any ops l i=true)(hr:(Region.ready .any ops l).contains i=true)
  (hw:Region.wanted o (yielded ops a.tmps)=true) (hy:∀W,S W->(execOp a.eval o).run P W= .ok (.value v) W) (h:TkN P ops Q S is f (l.setIfInBounds i true) (a.put o.dst v) w):TkN P ops Q S (i::is) (f+1) l a w :=
 ⟨f,rfl,o,v,ho,hf,hr,hw,hy,h⟩
theorem TkN.n {f:Nat}{l:Array Bool}{a:Act}{w:World}(h:WalkN P ops Q S f l a w):TkN P ops Q S [] f l a w:=h
def MadeN (P:Program)(ops:Array Oper)(Q:Exit->Act->World->Prop)(S:World->Prop)(f:Nat)(l:Array Bool)(a:Act)(w:World)(i:Nat):Prop :=
 ∃o,ops[i]?=some o/\Region.wanted o (yielded ops a.tmps)=true/\∀K':Act->World->Prop,Shut (∀a' w',S w'->WalkN P ops Q S f (l.setIfInBounds i true) a' w'->K' a' w')->Oper.wp P o a w K' Q
theorem WalkN.one {f:Nat}{l:Array Bool}{a:Act}{w:World}(i:Nat)(hr:Region.ready .any ops l=[i])(h:MadeN P ops Q S f l a w i):WalkN P ops Q S (f+1) l a w:=by
 refine .inr (.inr ⟨by rw[hr];simp,fun j hj=>?_⟩);rw[hr]at hj;obtain rfl:j=i:=by simpa using hj
 obtain⟨o,ho,hw,h⟩:=h;exact⟨o,ho,fun K hK=>by rw[if_pos hw];exact h K hK⟩
theorem WalkN.two {f:Nat}{l:Array Bool}{a:Act}{w:World}(i j:Nat)(hr:Region.ready .any ops l=[i,j])(h:MadeN P ops Q S f l a w i)(h':MadeN P ops Q S f l a w j):WalkN P ops Q S (f+1) l a w:=by
 refine .inr (.inr ⟨by rw[hr];simp,fun k hk=>?_⟩);rw[hr]at hk;have:k=i\/k=j:=by simpa using hk
 rcases this with rfl | rfl
 ·obtain⟨o,ho,hw,h⟩:=h;exact⟨o,ho,fun K hK=>by rw[if_pos hw];exact h K hK⟩
 ·obtain⟨o,ho,hw,h⟩:=h';exact⟨o,ho,fun K hK=>by rw[if_pos hw];exact h K hK⟩
end
theorem mx! {P:Program}{w:World}{o:Oper}{a:Act}{K:Act->World->Prop}{Q:Exit->Act->World->Prop}{t e:TypeId}{size bytes:Nat}(E:oi! P t e size bytes)
  (s x:Operand) (hop:o.op=Op.call {callee:=Callee.builtin Builtin.append,args:=#[s,x],argTypes:=#[t,t]})
  {B:Nat} {v:Value} {xs:List Value} (hs:a.eval s=v) (hown:Own w B e size v xs) {T:Nat->Prop} {y:Value} {news:List Value} (hx:a.eval x=y) (hy:Sl T w size y news) (h1:∀u∈news,u.oneCell'=true)
  (hlen:xs.length+news.length<=9223372036854775807) (hbytes:(xs.length+news.length)*bytes<=140737488355328) (hB:B<=w.heap.size)
  (h:∀v' w',Own w' B e size v' (xs++news)->Below B w w'->w.grownBy w' v.ownBlock->K (a.put o.dst v') w'):o.wp P a w K Q:=by
 obtain⟨d,⟨i,z,hi,hz,h4,h5,h6⟩,f⟩:=E;obtain⟨n,hown⟩:=hown;obtain⟨yo,m,c,rfl,g,a9,a7,a4,a2⟩:=hy;have e1:∀k l:Nat,k<=l*size->l*size<=k->l<=k:=fun k l _ hb=>n6! (Nat.le_mul_of_pos_right l f) hb;have a6:n<=xs.length:=e1 _ _ (v4! hown.1) (v4! hown.1.symm);have a8:m<=news.length:=e1 _ _ (v4! g) (v4! g.symm);have q:(n+m)*bytes<=140737488355328:=n6! (y7! _ (by omega)) hbytes
 have r:∀v' w',w'.ownsRow B e size v' (n+m) (xs++news)->w.grownBy w' v.ownBlock->K (a.put o.dst v') w' :=
  fun v' w' h0 h'=>h v' w' ⟨_,h0⟩ ((Below.refl B w).grown h' hB (fun k hk=>(hown.lt k hk).1)) h'
 cases yo with
 | some ad =>
  refine wp_append_own w s x t hop B e i z size bytes d hi hz h4 h5 h6 f v n xs hs hown ad m c news hx g (fun j u hu=>?_) h1 (by unfold maxLen;omega) q hB (fun v' w' h h' _=>r v' w' h h');obtain⟨b,a5,a0,_,a3⟩:=a2 (fun e=>by subst e;simp at hu);cases a0;rw[Addr.add_lit];exact a3 j u hu
 | none =>
  have a1:=a4 rfl;obtain rfl:m=0:=by omega
  obtain rfl:c=0:=a1;obtain rfl:news=[]:=x0! (by simpa using g);have p:=run_append_owned_none (P:=P) w B t o.type e i size d hi v n xs hown;have:=r v w (by simpa using hown) ⟨rfl,rfl,rfl,n0! _,fun _ _ _=>rfl⟩;unfold Oper.wp;simp[execOp,hop,resolve,invoke,builtin,hs,hx,p,Result.andThen];exact this
theorem Own.made (w:World) {B:Nat}(hB:B<=w.heap.size)(e:TypeId)(sz:Nat):Own (w.alloc (.cells #[] e)) B e sz (.slice (some ⟨w.heap.size,0,none⟩) 0 0) [] :=
 ⟨0,by simp,.inr ⟨w.heap.size,0,#[],rfl,hB,heap_alloc_new w _,n0! _,by unfold maxLen;omega,by simp,by simp⟩⟩
theorem k! {P : Program}{ops : Array Oper}{Q : Exit -> Act -> World -> Prop}{S : World -> Prop}{f : Nat}{l : Array Bool}{a : Act}{w : World}(i : Nat) {o : Oper}{G : Prop}(h : G) (ho : ops[i]? = some o := by simp only[gA,gS,gZ];rfl) (hf : Region.free .any ops l i = true := by kernel_rfl) (hr : (Region.ready .any ops l).contains i = true := by kernel_rfl) (hw : Region.wanted o (yielded ops a.tmps) = false := by rfl) (hG : WalkN P ops Q S f (l.setIfInBounds i true) (a.put o.dst undef) w = G := by simp only[Act.put,pA,pZ,pS];rfl) : WalkN P ops Q S (f + 1) l a w := .inr (.inl ⟨i, o, undef, ho, hf, hr, .inr ⟨hw, rfl⟩, Eq.mpr hG h⟩)
theorem c! {P : Program}{ops : Array Oper}{Q : Exit -> Act -> World -> Prop}{S : World -> Prop}{f : Nat}{l : Array Bool}{a : Act}{w : World}{i : Nat}{is : List Nat}{o : Oper}{v : Value}{G : Prop}(h : G) (ho : ops[i]? = some o := by simp only[gA,gS,gZ];rfl) (hf : Region.free .any ops l i = true := by kernel_rfl) (hr : (Region.ready .any ops l).contains i = true := by kernel_rfl) (hw : Region.wanted o (yielded ops a.tmps) = true := by rfl) (hy : ∀W,S W->(execOp a.eval o).run P W=.ok (.value v) W := by intro W hW;go_simp;try with_reducible rfl) (hG : TkN P ops Q S is f (l.setIfInBounds i true) (a.put o.dst v) w = G := by simp only[Act.put,pA,pZ,pS];rfl) : TkN P ops Q S (i :: is) (f + 1) l a w := ⟨f, rfl, o, v, ho, hf, hr, hw, hy, Eq.mpr hG h⟩
theorem t! {P : Program}{ops : Array Oper}{Q : Exit -> Act -> World -> Prop}{S : World -> Prop}{f : Nat}{l : Array Bool}{a : Act}{w : World}(i : Nat) {o : Oper}{v : Value}{G : Prop}(h : G) (ho : ops[i]? = some o := by simp only[gA,gS,gZ];rfl) (hf : Region.free .any ops l i = true := by kernel_rfl) (hr : (Region.ready .any ops l).contains i = true := by kernel_rfl) (hw : Region.wanted o (yielded ops a.tmps) = true := by rfl) (hy : ∀W,S W->(execOp a.eval o).run P W=.ok (.value v) W := by intro W hW;go_simp;try with_reducible rfl) (hG : WalkN P ops Q S f (l.setIfInBounds i true) (a.put o.dst v) w = G := by simp only[Act.put,pA,pZ,pS];rfl) : WalkN P ops Q S (f + 1) l a w := .inr (.inl ⟨i, o, v, ho, hf, hr, .inl ⟨hw, hy⟩, Eq.mpr hG h⟩)
theorem b! {ops : Array Oper}{i : Nat}{o : Oper}{A B : Oper -> Prop}(h : B o) (ho : ops[i]? = some o := by simp only[gA,gS,gZ];rfl) (hw : A o := by rfl) : ∃o, ops[i]? = some o /\ A o /\ B o := ⟨o, ho, hw, h⟩
theorem o! {P : Program}{ops : Array Oper}{Q : Exit -> Act -> World -> Prop}{S : World -> Prop}{f : Nat}{l : Array Bool}{a : Act}{w : World}(i : Nat) (h : MadeN P ops Q S f l a w i) (hr : Region.ready .any ops l = [i] := by kernel_rfl) : WalkN P ops Q S (f + 1) l a w := WalkN.one i hr h
theorem p! {P : Program}{ops : Array Oper}{Q : Exit -> Act -> World -> Prop}{S : World -> Prop}{f : Nat}{l : Array Bool}{a : Act}{w : World}(i j : Nat) (h : MadeN P ops Q S f l a w i) (h' : MadeN P ops Q S f l a w j) (hr : Region.ready .any ops l = [i, j] := by kernel_rfl) : WalkN P ops Q S (f + 1) l a w := WalkN.two i j hr h h'
theorem d! {P : Program}{ops : Array Oper}{Q : Exit -> Act -> World -> Prop}{S : World -> Prop}{f : Nat}{l : Array Bool}{a : Act}{w : World}(h : Q .normal a w) (hr : Region.ready .any ops l = [] := by kernel_rfl) : WalkN P ops Q S f l a w := WalkN.done hr h
theorem r! {P : Program}{ops : Array Oper}{Q : Exit -> Act -> World -> Prop}{id : Nat}{a : Act}{w : World}(S : World -> Prop) (hS : S w.drew) (h : WalkN P ops Q S ops.size (Array.replicate ops.size false) a w.drew) (hm : P.follows .mixedOrders = true := by kernel_rfl) (hns : Region.noSelect ops = true := by kernel_rfl) (hQ : ∀c a d v w, Q (.panic c) (Act.put a d v) w -> Q (.panic c) a w := by intro _ _ d _ _ h;cases d <;> exact h) : (Code.region id ops true).wp P Q a w := al! S hS hm hns hQ h
theorem re! {P : Program} {ops : Array Oper} {Q : Exit -> Act -> World -> Prop} {id : Nat} {a : Act} {w wd : World} (e : wd = w.drew) (h : WalkN P ops Q (Ext wd) ops.size (Array.replicate ops.size false) a wd) (hm : P.follows .mixedOrders = true := by kernel_rfl) (hns : Region.noSelect ops = true := by kernel_rfl) (hQ : ∀ c a d v w, Q (.panic c) (Act.put a d v) w -> Q (.panic c) a w := by intro _ _ d _ _ h;cases d <;> exact h) : (Code.region id ops true).wp P Q a w := al! (Ext wd) (by rw [e]; exact Ext.refl _) hm hns hQ (by rw [e] at h ⊢; exact h)
structure Im (is : List Nat) (G H : Prop) : Prop where
 f : G -> H
theorem ci! {P : Program} {ops : Array Oper} {Q : Exit -> Act -> World -> Prop} {S : World -> Prop} {f : Nat} {l : Array Bool} {a : Act} {w : World} {i : Nat} {is : List Nat} {o : Oper} {v : Value} {G0 G : Prop} (h : Im [] G0 G) (ho : ops[i]? = some o := by simp only[gA,gS,gZ];rfl) (hf : Region.free .any ops l i = true := by kernel_rfl) (hr : (Region.ready .any ops l).contains i = true := by kernel_rfl) (hw : Region.wanted o (yielded ops a.tmps) = true := by rfl) (hy : ∀ W,S W->(execOp a.eval o).run P W=.ok (.value v) W := by intro W hW;go_simp;try with_reducible rfl) (hG : TkN P ops Q S is f (l.setIfInBounds i true) (a.put o.dst v) w = G := by simp only[Act.put,pA,pZ,pS];rfl) : Im [] G0 (TkN P ops Q S (i :: is) (f + 1) l a w) := ⟨fun g => ⟨f, rfl, o, v, ho, hf, hr, hw, hy, Eq.mpr hG (h.f g)⟩⟩
theorem cn! {P : Program} {ops : Array Oper} {Q : Exit -> Act -> World -> Prop} {S : World -> Prop} {f : Nat} {l : Array Bool} {a : Act} {w : World} : Im [] (WalkN P ops Q S f l a w) (TkN P ops Q S [] f l a w) := ⟨id⟩
theorem n! {P : Program} {ops : Array Oper} {Q : Exit -> Act -> World -> Prop} {S : World -> Prop} {f : Nat} {l : Array Bool} {a : Act} {w : World} (is : List Nat) {G : Prop} (h : G) (e : Im [] G (TkN P ops Q S is f l a w) := by (repeat refine ci! ?_);exact cn!) : WalkN P ops Q S f l a w := WalkN.tk is (e.f h)
theorem ki! {P : Program} {ops : Array Oper} {Q : Exit -> Act -> World -> Prop} {S : World -> Prop} {f : Nat} {l : Array Bool} {a : Act} {w : World} {i : Nat} {is : List Nat} {o : Oper} {G0 G : Prop} (h : Im is G0 G) (ho : ops[i]? = some o := by simp only[gA,gS,gZ];rfl) (hf : Region.free .any ops l i = true := by kernel_rfl) (hr : (Region.ready .any ops l).contains i = true := by kernel_rfl) (hw : Region.wanted o (yielded ops a.tmps) = false := by rfl) (hG : WalkN P ops Q S f (l.setIfInBounds i true) (a.put o.dst undef) w = G := by simp only[Act.put,pA,pZ,pS];rfl) : Im (i :: is) G0 (WalkN P ops Q S (f + 1) l a w) := ⟨fun g => .inr (.inl ⟨i, o, undef, ho, hf, hr, .inr ⟨hw, rfl⟩, Eq.mpr hG (h.f g)⟩)⟩
theorem kn! {G : Prop} : Im [] G G := ⟨id⟩
theorem ks! {P : Program} {ops : Array Oper} {Q : Exit -> Act -> World -> Prop} {S : World -> Prop} {f : Nat} {l : Array Bool} {a : Act} {w : World} (is : List Nat) {G : Prop} (h : G) (e : Im is G (WalkN P ops Q S f l a w) := by (repeat refine ki! ?_);exact kn!) : WalkN P ops Q S f l a w := e.f h
theorem ob! {P : Program} {ops : Array Oper} {Q : Exit -> Act -> World -> Prop} {S : World -> Prop} {f : Nat} {l : Array Bool} {a : Act} {w : World} (i : Nat) {o : Oper} (h : ∀ K' : Act -> World -> Prop, Shut (∀ a' w', S w' -> WalkN P ops Q S f (l.setIfInBounds i true) a' w' -> K' a' w') -> Oper.wp P o a w K' Q) (ho : ops[i]? = some o := by simp only[gA,gS,gZ];rfl) (hw : Region.wanted o (yielded ops a.tmps) = true := by rfl) (hr : Region.ready .any ops l = [i] := by kernel_rfl) : WalkN P ops Q S (f + 1) l a w := WalkN.one i hr ⟨o, ho, hw, h⟩
theorem xd! {w w' : World} (e : w' = w.drew) : Ext w w' := by rw[e]; exact Ext.drew _
theorem xa! {w w' : World} {o} (e : w' = w.alloc o) : Ext w w' := by rw[e]; exact Ext.alloc _ _
theorem bm! {w w' : World} {cs : Array Value} {t : TypeId} (e : w' = w.alloc (.cells cs t)) : Blk w' w.heap.size cs t := by rw[e]; exact Blk.made _ _ _
theorem Own.shape {w:World}{B:Nat}{e:TypeId}{sz:Nat}{v:Value}{xs:List Value}(h:Own w B e sz v xs):(v= .slice none 0 0/\xs=[])\/∃g n c,v= .slice (some ⟨g,0,none⟩) n c:=by
 obtain⟨n,h1,h2⟩:=h;rcases h2 with⟨rfl,h2⟩|⟨g,cap,cur,hv,_⟩
 ·left
  refine⟨rfl,x0! ?_⟩;rw[h1,h2,Nat.zero_mul]
 ·exact .inr ⟨g,n,cap,hv⟩
theorem Own.slU {w:World}{B:Nat}{e:TypeId}{sz:Nat}{v:Value}{xs:List Value}(h:Own w B e sz v xs):Sl (· < w.heap.size) w sz v xs:=h.sl.mono fun _ h=>h.2
theorem hr! {P:Program}{w:World}{ops:Array Oper}{rest:List Oper}{o:Oper}{a:Act}{Q:Exit->Act->World->Prop}{t e:TypeId}{size bytes:Nat}(E:oi! P t e size bytes)
  (hg:o.guard=none) (s x:Operand) (hop:o.op=Op.call {callee:=Callee.builtin Builtin.append,args:=#[s,x],argTypes:=#[t,t]})
  {B:Nat} {v:Value} {xs:List Value} (hs:a.eval s=v) (hown:Own w B e size v xs) {T:Nat->Prop} {y:Value} {news:List Value} (hx:a.eval x=y) (hy:Sl T w size y news) (h1:∀u∈news,u.oneCell'=true)
  (hlen:xs.length+news.length<=9223372036854775807) (hbytes:(xs.length+news.length)*bytes<=140737488355328) (hB:B<=w.heap.size)
  (K:∀v' w',Own w' B e size v' (xs++news)->Below B w w'->w.grownBy w' v.ownBlock->wpList P ops Q rest (a.put o.dst v') w'):wpList P ops Q (o::rest) a w :=
 wpList_plain hg fun _ hK'=>mx! E s x hop hs hown hx hy h1 hlen hbytes hB fun v' w' h h' h''=>hK' _ _ (K v' w' h h' h'')
end Go.Proofs.YtlhaghoajpglaaaGreat
namespace Go.Proofs.YtlhaghoajpglaaaGreat
open Go Go.RowKit Go.Proofs.Tryz
open Go.Maps (Keyed)
open Go.ChangeMaps (setBlock modify_eq_set)
open Go.MapKept (Stamped stamped_push stamped_modify stamped_erase)
section plain
variable {κ α : Type} [DecidableEq κ]
def lookA:List (κ × α)->κ->Option α
 | [],_=>none
 | p::r,a=>if p.1=a then some p.2 else lookA r a
def putA:List (κ × α)->κ->α->List (κ × α)
 | [],a,x => [(a,x)]
 | p::r,a,x=>if p.1=a then(a,x)::r else p::putA r a x
def delA:List (κ × α)->κ->List (κ × α)
 | [],_ => []
 | p::r,a=>if p.1=a then r else p::delA r a
theorem ea! {a:κ}:∀ {l:List (κ × α)},(∀p∈l,p.1≠a)->lookA l a=none
 | [],_=>rfl
 | p::r,h=>by rw[lookA,if_neg (h p (by simp)),ea! fun q hq=>h q (by simp[hq])]
theorem bb! {a:κ}{x:α}:∀ {l:List (κ × α)},(∀p∈l,p.1≠a)->putA l a x=l++[(a,x)]
 | [],_=>rfl
 | p::r,h=>by rw[putA,if_neg (h p (by simp)),bb! fun q hq=>h q (by simp[hq])];rfl
theorem cG! {a:κ}{x:α}:∀ {l:List (κ × α)}{j:Nat}{p:κ × α},(l.map (·.1)).Nodup->l[j]?=some p->p.1=a->lookA l a=some p.2/\putA l a x=l.set j (a,x)/\delA l a=l.eraseIdx j
 | [],j,p,_,h,_=>by simp at h
 | q::r,0,p,_,h,hp=>by
  obtain rfl:q=p:=by simpa using h
  simp[lookA,putA,delA,hp]
 | q::r,j+1,p,hn,h,hp=>by
  have h':r[j]?=some p:=by simpa using h
  simp only[v8!,List.nodup_cons]at hn;have a0:q.1≠a:=fun e=>hn.1 (by rw[e,<-hp];exact u6!.2 ⟨p,List.mem_of_getElem? h',rfl⟩);obtain⟨h1,h2,h3⟩:=cG! (x:=x) hn.2 h' hp;simp[lookA,putA,delA,a0,h1,h2,h3]
theorem aB! {a:κ}{x:α}:∀ {l:List (κ × α)},lookA l a=some x->(a,x)∈l
 | [],h=>by simp[lookA]at h
 | p::r,h=>by
  rw[lookA]at h;split at h
  ·rename_i e
   obtain rfl:p.2=x:=by simpa using h
   subst e;simp
  ·exact u9! _ (aB! h)
theorem aq! {a:κ}:∀ {l:List (κ × α)},lookA l a=none↔∀p∈l,p.1≠a
 | []=>by simp[lookA]
 | p::r=>by
  rw[lookA];by_cases e:p.1=a
  ·simp[e]
  ·simp[e,aq! (l:=r)]
end plain
def ot! (w w':World)(b:Nat):Prop:=∃o,w'=setBlock w b o
theorem ax! (w:World)(b c:Nat)(o:Obj)(h:c≠b):(setBlock w b o).heap[c]?=w.heap[c]?:=by
 simp[setBlock,Ne.symm h]
theorem aD! (w:World)(b:Nat)(o:Obj):(setBlock w b o).heap.size=w.heap.size:=by simp[setBlock]
theorem aY! {w:World}{b:Nat}{o o':Obj}(h:w.heap[b]?=some o'):(setBlock w b o).heap[b]?=some o:=by
 have:=(x7!.1 h).1;simp[setBlock,this]
theorem ot!.size {w w':World}{b:Nat}(h:ot! w w' b):w'.heap.size=w.heap.size:=by
 obtain⟨o,rfl⟩:=h;exact aD! w b o
theorem ot!.kept {w w':World}{b:Nat}(h:ot! w w' b):Kept (· ≠ b) w w':=by
 obtain⟨o,rfl⟩:=h;exact⟨rfl,rfl,rfl,v4! (aD! w b o).symm,fun c hc=>ax! w b c o hc⟩
theorem ot!.below {w w':World}{b B:Nat}(h:ot! w w' b)(hb:B<=b):Below B w w':=h.kept.below fun _ hx=>by omega
section
variable {P : Program} {k t e : TypeId} {κ α : Type} {kv : κ -> Value} {ev : α -> Value} {w : World} {b : Nat} {l : List (κ × α)}
def Mp (P:Program)(k:TypeId)(kv:κ->Value)(ev:α->Value)(w:World)(b:Nat)(l:List (κ × α)):Prop :=
 ∃es clock,w.heap[b]?=some (.map es clock)/\Stamped es clock/\es.toList.map (fun x=>(x.key,x.val))=l.map (fun p=>(kv p.1,ev p.2))/\∀p∈l,∃q,keyOf P k (kv p.1)=some q
theorem Mp.made (w:World):Mp P k kv ev (w.alloc (.map #[] 0)) w.heap.size ([]:List (κ × α)) :=
 ⟨#[],0,heap_alloc_new w _,⟨by simp,by simp,by simp⟩,rfl,by simp⟩
theorem Mp.lt (h:Mp P k kv ev w b l):b<w.heap.size:=by
 obtain⟨es,a0,hb,_⟩:=h;exact(x7!.1 hb).1
theorem Mp.same {w':World}(h:Mp P k kv ev w b l)(hb:w'.heap[b]?=w.heap[b]?):Mp P k kv ev w' b l:=by
 obtain⟨es,a,h1,h2⟩:=h;exact⟨es,a,hb.trans h1,h2⟩
theorem Mp.below {w':World}(h:Mp P k kv ev w b l)(hb:Below w.heap.size w w'):Mp P k kv ev w' b l:=h.same (hb.block b h.lt)
theorem Mp.kept {w':World}{K:Nat->Prop}(h:Mp P k kv ev w b l)(hb:Kept K w w')(hk:K b):Mp P k kv ev w' b l:=h.same (hb.block b hk)
theorem cZ! {es:Array MapEntry}(hm:es.toList.map (fun x=>(x.key,x.val))=l.map (fun p=>(kv p.1,ev p.2))):es.toList.map (·.key)=l.map fun p=>kv p.1:=by
 have:=congrArg (List.map Prod.fst) hm;simpa [List.map_map,Function.comp_def] using this
theorem Mp.nodup (h:Mp P k kv ev w b l):(l.map (·.1)).Nodup:=by
 obtain⟨es,a0,_,hs,hm,_⟩:=h;have h3:=hs.2.2;rw[cZ! hm]at h3;have:(l.map fun p=>kv p.1)=(l.map (·.1)).map kv:=by rw[List.map_map];rfl
 rw[this]at h3;exact List.Pairwise.of_map kv (fun a b hne e=>hne (congrArg kv e)) h3
theorem ie! {es:Array MapEntry}(hm:es.toList.map (fun x=>(x.key,x.val))=l.map (fun p=>(kv p.1,ev p.2))) {j:Nat}{x:MapEntry}(hx:es.toList[j]?=some x):∃p,l[j]?=some p/\x.key=kv p.1/\x.val=ev p.2:=by
 have:=congrArg (fun z=>z[j]?) hm;simp only[List.getElem?_map,hx,Option.map_some]at this;cases hl:l[j]? with
 | none=>rw[hl]at this;simp at this
 | some p=>rw[hl]at this;simp at this;exact⟨p,rfl,this.1,this.2⟩
theorem dP! {es:Array MapEntry}(hm:es.toList.map (fun x=>(x.key,x.val))=l.map (fun p=>(kv p.1,ev p.2))) {a:κ}(h:∀x∈es.toList,x.key≠kv a):∀p∈l,p.1≠a:=by
 intro p hp e;have:kv p.1∈es.toList.map (·.key):=by rw[cZ! hm];exact u6!.2 ⟨p,hp,rfl⟩
 obtain⟨x,hx,a0⟩:=u6!.1 this;exact h x hx (by rw[a0,e])
theorem fu! {es:Array MapEntry}(hm:es.toList.map (fun x=>(x.key,x.val))=l.map (fun p=>(kv p.1,ev p.2)))(hk:∀p∈l,∃q,keyOf P k (kv p.1)=some q):∀x∈es.toList,∃q,keyOf P k x.key=some q:=by
 intro x hx;have:x.key∈es.toList.map (·.key):=u6!.2 ⟨x,hx,rfl⟩;rw[cZ! hm]at this;obtain⟨p,hp,he⟩:=u6!.1 this;rw[<-he];exact hk p hp
def lookV (c:Bool)(z:Value)(ev:α->Value):Option α->Value
 | some x=>if c then .tuple #[ev x,.bool true]else ev x
 | none=>if c then .tuple #[z,.bool false]else z
theorem Mp.look [DecidableEq κ] (h:Mp P k kv ev w b l)(K:Keyed P k)(inj:∀a b,kv a=kv b->a=b)(ht:P.underlying t=some (.map k e)) {z:Value}(hz:(zeroValue e).run P w= .ok z w)(c:Bool) {a:κ}(hk:∃q,keyOf P k (kv a)=some q) :
  (Instr.lookup t (.map (some b)) (kv a) c).run P w= .ok (lookV c z ev (lookA l a)) w:=by
 have hn:=h.nodup;obtain⟨es,a0,hb,hs,hm,a1⟩:=h;obtain⟨q,hq⟩:=hk;rcases K.find w hq es.toList (fu! hm a1)with⟨h1,h2⟩|⟨j,e0,h1,h2,h3⟩
 ·rw[ea! (dP! hm h2)];simp[Instr.lookup,run_underlying ht,MapKept.run_getObj_map hb,K.check w _ hq,h1,hz,Result.andThen,lookV]
 ·obtain⟨p,hp,e1,e2⟩:=ie! hm h2;have a2:p.1=a:=inj _ _ (e1.symm.trans h3);rw[(cG! (x:=p.2) hn hp a2).1];simp[Instr.lookup,run_underlying ht,MapKept.run_getObj_map hb,K.check w _ hq,h1,Result.andThen,lookV,e2]
theorem Mp.store [DecidableEq κ] (h:Mp P k kv ev w b l)(K:Keyed P k)(inj:∀a b,kv a=kv b->a=b)(ht:P.underlying t=some (.map k e)) {a:κ}(hk:∃q,keyOf P k (kv a)=some q)(x:α) :
  ∃w',(Instr.mapUpdate t (.map (some b)) (kv a) (ev x)).run P w= .ok () w'/\Mp P k kv ev w' b (putA l a x)/\ot! w w' b:=by
 have hn:=h.nodup;obtain⟨m,c,r,hs,i,f⟩:=h;have hk':=hk;obtain⟨q,o⟩:=hk;rcases K.find w o m.toList (fu! i f)with⟨h1,h2⟩|⟨j,e0,h1,h2,h3⟩
 ·refine⟨setBlock w b (.map (m.push ⟨kv a,ev x,c⟩) (c+1)),?_,⟨_,_,aY! r,stamped_push hs h2,?_,?_⟩,_,rfl⟩
  ·simp[Instr.mapUpdate,run_underlying ht,MapKept.run_getObj_map r,K.check w false o,h1,MapKept.run_setObj_map _ r,Result.andThen,setBlock]
  ·rw[bb! (dP! i h2),Array.toList_push,v9!,v9!,i];rfl
  ·rw[bb! (dP! i h2)];intro p n;rcases u3!.1 n with n | n
   ·exact f p n
   ·obtain rfl:p=(a,x):=by simpa using n
    exact hk'
 ·obtain⟨p,n,e1,e2⟩:=ie! i h2;have g:p.1=a:=inj _ _ (e1.symm.trans h3);have hj:m[j]?=some e0:=by simpa using h2
  have d:(m.modify j (fun e' => {e' with key:=kv a,val:=ev x})).toList=m.toList.set j {e0 with key:=kv a,val:=ev x}:=by rw[Array.toList_modify,modify_eq_set _ _ _ _ h2]
  refine⟨setBlock w b (.map (m.modify j (fun e' => {e' with key:=kv a,val:=ev x})) c),?_,⟨_,_,aY! r,stamped_modify hs _ _ (fun _ _=>rfl) (fun e' _ he'=>?_),?_,?_⟩,_,rfl⟩
  ·simp[Instr.mapUpdate,run_underlying ht,MapKept.run_getObj_map r,K.check w false o,h1,hj,h3,K.stays w o,MapKept.run_setObj_map _ r,Result.andThen,setBlock]
  ·rw[hj]at he';cases he';exact h3.symm
  ·rw[(cG! (x:=x) hn n g).2.1,d,List.map_set,List.map_set,i]
  ·rw[(cG! (x:=x) hn n g).2.1];intro y hy;rcases List.mem_or_eq_of_mem_set hy with hy | rfl
   ·exact f y hy
   ·exact hk'
theorem Mp.len (h:Mp P k kv ev w b l)(ht:P.underlying t=some (.map k e))(ty:TypeId):(Builtin.len_ #[t] ty #[.map (some b)]).run P w= .ok (.int .i64 l.length) w:=by
 obtain⟨es,a0,hb,hs,hm,a1⟩:=h;have:es.size=l.length:=by have:=congrArg List.length hm;simpa using this
 simp[Builtin.len_,run_underlying ht,MapKept.run_getObj_map hb,this,goInt]
def Rng (P:Program)(k:TypeId)(kv:κ->Value)(ev:α->Value)(w:World)(b r:Nat)(l rem:List (κ × α)):Prop :=
 ∃es clock since seen c0,w.heap[b]?=some (.map es clock)/\Stamped es clock/\es.toList.map (fun x=>(x.key,x.val))=l.map (fun p=>(kv p.1,ev p.2))/\(∀p∈l,∃q,keyOf P k (kv p.1)=some q) /\
  w.heap[r]?=some (.mapIter (some b) since seen c0)/\(∀x∈es.toList,x.born<since)/\since<=c0/\since<=clock/\(leftOf es seen).toList.map (fun x=>(x.key,x.val))=rem.map (fun p=>(kv p.1,ev p.2))
theorem Rng.mp {r:Nat}{rem:List (κ × α)}(h:Rng P k kv ev w b r l rem):Mp P k kv ev w b l:=by
 obtain⟨es,a,a0,a2,c0,hb,hs,hm,a1,_⟩:=h;exact⟨es,a,hb,hs,hm,a1⟩
theorem Rng.lt {r:Nat}{rem:List (κ × α)}(h:Rng P k kv ev w b r l rem):r<w.heap.size:=by
 obtain⟨es,a1,a0,a2,c0,_,_,_,_,hr,_⟩:=h;exact(x7!.1 hr).1
theorem Rng.ne {r:Nat}{rem:List (κ × α)}(h:Rng P k kv ev w b r l rem):r≠b:=by
 obtain⟨es,a1,a0,a2,c0,hb,_,_,_,hr,_⟩:=h;intro e;rw[e,hb]at hr;cases hr
theorem Rng.same {r:Nat}{rem:List (κ × α)}{w':World}(h:Rng P k kv ev w b r l rem)(h1:w'.heap[b]?=w.heap[b]?)(h2:w'.heap[r]?=w.heap[r]?):Rng P k kv ev w' b r l rem:=by
 obtain⟨es,c,a,e,c0,hb,hs,hm,a0,hr,d⟩:=h;exact⟨es,c,a,e,c0,h1.trans hb,hs,hm,a0,h2.trans hr,d⟩
theorem Rng.below {r:Nat}{rem:List (κ × α)}{w':World}(h:Rng P k kv ev w b r l rem)(hb:Below w.heap.size w w'):Rng P k kv ev w' b r l rem:=h.same (hb.block b h.mp.lt) (hb.block r h.lt)
theorem Rng.left_eq {r:Nat}{rem:List (κ × α)}(h:Rng P k kv ev w b r l rem):w.rangeLeft b r=rem.length:=by
 obtain⟨es,a1,a0,a2,c0,hb,_,_,_,hr,_,_,_,hc⟩:=h;simp only[World.rangeLeft,hb,hr];have:=congrArg List.length hc;simpa using this
theorem Mp.range (h:Mp P k kv ev w b l)(ht:P.underlying t=some (.map k e)) :
  ∃w',(Instr.range t (.map (some b))).run P w= .ok (.pointer (some ⟨w.heap.size,0,none⟩)) w'/\Rng P k kv ev w' b w.heap.size l l/\Below w.heap.size w w'/\w'.heap.size=w.heap.size+1:=by
 have a1:=h.lt;obtain⟨es,a,hb,hs,hm,a0⟩:=h;refine⟨_,run_range_map w t k e b es a ht hb,⟨es,a,a,#[],a,((MapKept.heap_alloc w _).2 b a1).trans hb,hs,hm,a0,(MapKept.heap_alloc w _).1,hs.1,n0! _,n0! _,?_⟩,(Below.refl _ _).alloc (n0! _) _,by simp⟩;rw[<-hm];simp only[leftOf,Array.toList_filter];rw[List.filter_eq_self.2 (fun _ _=>by simp)]
theorem iU! {L:List MapEntry}{seen:Array Nat}(hn:(L.map (·.born)).Nodup) {x:MapEntry}{A B:List MapEntry}(h:L.filter (fun y=>!seen.contains y.born)=A++x::B) :
  L.filter (fun y=>!(seen.push x.born).contains y.born)=A++B:=by
 have e1:L.filter (fun y=>!(seen.push x.born).contains y.born)=(L.filter (fun y=>!seen.contains y.born)).filter fun y=>!(y.born == x.born):=by
  rw[List.filter_filter];apply List.filter_congr;intro y _;simp only[Array.contains_push,Bool.not_or];rw[Bool.and_comm]
 have a:((A++x::B).map (·.born)).Nodup:=by rw[<-h];exact hn.sublist (List.Sublist.map _ List.filter_sublist)
 rw[e1,h,List.filter_append,List.filter_cons];simp only[beq_self_eq_true,Bool.not_true,Bool.false_eq_true,if_false];rw[v9!,v8!,List.nodup_append]at a;obtain⟨_,hB,hd⟩:=a;rw[List.filter_eq_self.2,List.filter_eq_self.2]
 ·intro y hy;have:=(List.nodup_cons.1 hB).1;simp only[Bool.not_eq_true',n7!];exact fun e=>this (e▸u6!.2 ⟨y,hy,rfl⟩)
 ·intro y hy;simp only[Bool.not_eq_true',n7!];exact hd _ (u6!.2 ⟨y,hy,rfl⟩) _ (by simp)
theorem Rng.next {r:Nat}{rem:List (κ × α)}(h:Rng P k kv ev w b r l rem)(ty:TypeId) :
  (rem=[]/\(Instr.next (.pointer (some ⟨r,0,none⟩)) false ty).run P w= .ok (.tuple #[.bool false]) w) \/
  ∃pre p post w',rem=pre++p::post/\(Instr.next (.pointer (some ⟨r,0,none⟩)) false ty).run P w= .ok (.tuple #[.bool true,kv p.1,ev p.2]) w'/\Rng P k kv ev w' b r l (pre++post)/\Kept (· ≠ r) w w'/\w'.heap.size=w.heap.size /\
   (Instr.entry (.pointer (some ⟨r,0,none⟩))).run P w' = .ok (.tuple #[kv p.1,ev p.2]) w':=by
 have a8:=h.ne;obtain⟨s,a,c,d,c0,hb,hs,hm,a2,hr,f,a3,g,e⟩:=h;rcases run_next_at w ty r b c c0 d s a hr hb f a3 with⟨h0,hrun⟩|⟨x,hx,w1,hw1,hrun⟩
 ·refine .inl ⟨?_,hrun⟩;have:=congrArg List.length e;simp[h0]at this;exact x0! this.symm
 ·right
  obtain⟨A,B,j⟩:=List.append_of_mem hx;rw[j]at e;rw[v9!,v8!]at e;obtain⟨pre,q,rfl,a1,hq⟩:=List.map_eq_append_iff.1 e.symm;obtain⟨p,post,rfl,i,a5⟩:=List.map_eq_cons_iff.1 hq;simp only[Prod.mk.injEq]at i;have a4:(leftOf s d).toList=s.toList.filter fun y=>!d.contains y.born:=by simp[leftOf]
  rw[a4]at j hx;have a6:x∈s.toList:=(List.mem_filter.1 hx).1;have a7:w1.heap[b]?=some (.map s a):=by rcases hw1 with rfl | rfl <;> exact hb
  have a0:w1.heap[r]?=some (.mapIter (some b) c d c0):=by rcases hw1 with rfl | rfl <;> exact hr
  have n:(setBlock w1 r (.mapIter (some b) c (d.push x.born) a)).heap[b]?=some (.map s a):=(ax! _ _ _ _ (Ne.symm a8)).trans a7;have m:=aY! (o := .mapIter (some b) c (d.push x.born) a) a0;refine⟨pre,p,post,setBlock w1 r (.mapIter (some b) c (d.push x.born) a),rfl,?_,⟨s,a,c,d.push x.born,a,n,hs,hm,a2,m,f,g,g,?_⟩,?_,?_,?_⟩
  ·rw[hrun,i.1,i.2]
  ·rw[show(leftOf s (d.push x.born)).toList=s.toList.filter fun y=>!(d.push x.born).contains y.born from by simp[leftOf],iU! hs.2.1 j,v9!,v9!,a1,a5]
  ·have:Kept (· ≠ r) w w1:=by
    rcases hw1 with rfl | rfl
    ·exact Kept.refl _ _
    ·exact(Kept.refl _ _).drew
   exact this.trans (ot!.kept ⟨_,rfl⟩)
  ·rw[aD!];rcases hw1 with rfl | rfl <;> rfl
  ·rw[run_entry_at _ r b c d s a x m n a6 hs.2.1,i.1,i.2]
end
section
variable {P : Program} (w : World) {ops : Array Oper} {rest : List Oper} {o : Oper} {a : Act} {Q : Exit -> Act -> World -> Prop} {κ α : Type} {kv : κ -> Value} {ev : α -> Value} {b : Nat} {l : List (κ × α)}
theorem dl! (hg:o.guard=none)(m:Operand)(t:TypeId)(hop:o.op=Op.range t m) {k e:TypeId}(ht:P.underlying t=some (.map k e))(hm:a.eval m= .map (some b))(h:Mp P k kv ev w b l)
  (hK:∀w',Rng P k kv ev w' b w.heap.size l l->Below w.heap.size w w'->w'.heap.size=w.heap.size+1->wpList P ops Q rest (a.put o.dst (.pointer (some ⟨w.heap.size,0,none⟩))) w'):wpList P ops Q (o::rest) a w:=by
 refine wpList_plain hg fun K' hK'=>?_;obtain⟨w',c,h1,h2,h3⟩:=h.range ht;unfold Oper.wp;simp[execOp,hop,hm,c,Result.andThen];exact hK' _ _ (hK w' h1 h2 h3)
theorem dE! (hg:o.guard=none)(it:Operand)(hop:o.op=Op.next it false) {k:TypeId}{r:Nat}{rem:List (κ × α)}(hit:a.eval it= .pointer (some ⟨r,0,none⟩))(h:Rng P k kv ev w b r l rem)
  (hDone:rem=[]->wpList P ops Q rest (a.put o.dst (.tuple #[.bool false])) w)
  (hMore:∀pre p post w',rem=pre++p::post->Rng P k kv ev w' b r l (pre++post)->Kept (· ≠ r) w w'->w'.heap.size=w.heap.size->(Instr.entry (.pointer (some ⟨r,0,none⟩))).run P w' = .ok (.tuple #[kv p.1,ev p.2]) w' ->
   wpList P ops Q rest (a.put o.dst (.tuple #[.bool true,kv p.1,ev p.2])) w'):wpList P ops Q (o::rest) a w:=by
 refine wpList_plain hg fun K' hK'=>?_;unfold Oper.wp;rcases h.next o.type with⟨h0,hrun⟩|⟨pre,p,post,w',h0,hrun,h1,h2,h3,h4⟩
 ·simp[execOp,hop,hit,hrun,Result.andThen];exact hK' _ _ (hDone h0)
 ·simp[execOp,hop,hit,hrun,Result.andThen];exact hK' _ _ (hMore pre p post w' h0 h1 h2 h3 h4)
end
end Go.Proofs.YtlhaghoajpglaaaGreat
namespace Go.Proofs.YtlhaghoajpglaaaGreat
open Go Go.RowKit Go.Proofs.Tryz
section
variable {w w' : World} {B B' p : Nat} {e e' : TypeId} {sz sz' : Nat} {v v' : Value} {xs xs' : List Value} {cs : Array Value}
theorem Own.typed (h:Own w B e sz v xs) {g:Nat}(hg:v.ownBlock=some g):∃cur,w.heap[g]?=some (.cells cur e (0,0)):=by
 obtain⟨n,_,h2⟩:=h;rcases h2 with⟨rfl,_⟩|⟨g',cap,cur,rfl,_,hh,_⟩
 ·cases hg
 ·obtain rfl:g'=g:=v5! hg;exact⟨cur,hh⟩
theorem Own.keepOwn (h:Own w B e sz v xs)(hs:∀g,v.ownBlock=some g->w'.heap[g]?=w.heap[g]?):Own w' B e sz v xs:=by
 obtain⟨n,h1,h2⟩:=h;refine⟨n,h1,?_⟩;rcases h2 with h2 | ⟨g,cap,cur,rfl,hb,hh,r⟩
 ·exact .inl h2
 ·exact .inr ⟨g,cap,cur,rfl,hb,(hs g rfl).trans hh,r⟩
theorem Own.aside (h:Own w B e sz v xs)(k:Own w B' e' sz' v' xs')(hne:e≠e')(hg:w.grownBy w' v'.ownBlock):Own w' B e sz v xs :=
 h.keepOwn fun g hv=>hg.block g (h.block g hv).2 fun hv'=>by
  obtain⟨c1,h1⟩:=h.typed hv;obtain⟨c2,h2⟩:=k.typed hv'.symm;rw[h1]at h2;exact hne (by injection v5! h2)
end
section
variable {P : Program} {ops : Array Oper} {Q : Exit -> Act -> World -> Prop} {S : World -> Prop}
theorem WalkN.three {f:Nat}{l:Array Bool}{a:Act}{w:World}(i j m:Nat)(hr:Region.ready .any ops l=[i,j,m])(h:MadeN P ops Q S f l a w i)(h':MadeN P ops Q S f l a w j)(h'':MadeN P ops Q S f l a w m):WalkN P ops Q S (f+1) l a w:=by
 refine .inr (.inr ⟨by rw[hr];simp,fun k hk=>?_⟩);rw[hr]at hk;have:k=i\/k=j\/k=m:=by simpa using hk
 rcases this with rfl | rfl | rfl
 ·obtain⟨o,c,b,h⟩:=h;exact⟨o,c,fun K hK=>by rw[if_pos b];exact h K hK⟩
 ·obtain⟨o,c,b,h⟩:=h';exact⟨o,c,fun K hK=>by rw[if_pos b];exact h K hK⟩
 ·obtain⟨o,c,b,h⟩:=h'';exact⟨o,c,fun K hK=>by rw[if_pos b];exact h K hK⟩
end
inductive RT where
 | mk (k:Int) (a b:ByteArray) (ps:List RT)
def RT.k:RT->Int | .mk k _ _ _=>k
def RT.a:RT->ByteArray | .mk _ a _ _=>a
def RT.b:RT->ByteArray | .mk _ _ b _=>b
def RT.ps:RT->List RT | .mk _ _ _ ps=>ps
instance:Inhabited RT:=⟨.mk 0 ByteArray.empty ByteArray.empty []⟩
mutual
def RT.sz:RT->Nat | .mk _ _ _ ps=>1+szL ps
def szL:List RT->Nat | []=>0 | r::rs=>r.sz+szL rs
end
theorem eA! {p:RT}:∀ {ps:List RT},p∈ps->p.sz<=szL ps
 | r::rs,h=>by
  rw[szL];rcases v7!.1 h with rfl | h
  ·omega
  ·have:=eA! h;omega
theorem RT.sz_lt {r p:RT}(h:p∈r.ps):p.sz<r.sz:=by
 obtain⟨k,a,b,ps⟩:=r;have:=eA! (show p∈ps from h);rw[RT.sz];omega
theorem RT.sz_eq (r:RT):r.sz=1+szL r.ps:=by
 obtain⟨k,a,b,ps⟩:=r;rw[RT.sz];rfl
theorem RT.ind {Q:RT->Prop}(h:∀r,(∀p∈r.ps,Q p)->Q r)(r:RT):Q r:=by
 generalize hn:r.sz=n;induction n using Nat.strongRecOn generalizing r with
 | ind n ih=>exact h r fun p hp=>ih p.sz (by have:=RT.sz_lt hp;omega) p rfl
theorem eB! (a b:List RT):szL (a++b)=szL a+szL b:=by
 induction a with
 | nil=>simp[szL]
 | cons x a ih=>rw[x2!,szL,szL,ih];omega
theorem hB! {l:List RT}{i:Nat}(hi:i<l.length):szL (l.take (i+1))=szL (l.take i)+l[i].sz:=by
 rw[n2! hi,eB!];simp[szL]
mutual
def RT.Ok:RT->Prop | .mk k a b ps=>(-9223372036854775808<=k/\k<=9223372036854775807)/\a.size<=140737488351232/\b.size<=140737488351232/\okL ps
def okL:List RT->Prop | []=>True | r::rs=>r.Ok/\okL rs
end
theorem gc!:∀ {ps:List RT},okL ps↔∀p∈ps,p.Ok
 | []=>by simp[okL]
 | r::rs=>by rw[okL,gc!];simp
theorem RT.ok_iff (r:RT):r.Ok↔(-9223372036854775808<=r.k/\r.k<=9223372036854775807)/\r.a.size<=140737488351232/\r.b.size<=140737488351232/\∀p∈r.ps,p.Ok:=by
 obtain⟨k,a,b,ps⟩:=r;rw[RT.Ok,gc!];rfl
def rC (x:RT × Value):List Value:=[.int .i64 x.1.k,.string x.1.a,.string x.1.b,x.2]
theorem aO! (x:RT × Value):(rC x).length=4:=rfl
mutual
def RTAt (S:Nat->Prop)(w:World):RT->Value->Prop
 | .mk _ _ _ ps,v=>∃l:List Value,RTsAt S w ps l/\Sl S w 4 v ((ps.zip l).flatMap rC)
def RTsAt (S:Nat->Prop)(w:World):List RT->List Value->Prop
 | [],l=>l=[]
 | r::rs,l=>∃pv l',l=pv::l'/\RTAt S w r pv/\RTsAt S w rs l'
end
theorem dJ! {S:Nat->Prop}{w:World}:∀ {ps:List RT}{l:List Value},RTsAt S w ps l->(ps.zip l).map (·.1)=ps/\∀x∈ps.zip l,RTAt S w x.1 x.2
 | [],l,h=>by rw[RTsAt]at h;subst h;simp
 | r::rs,l,h=>by
  rw[RTsAt]at h;obtain⟨pv,l',rfl,h1,h2⟩:=h;obtain⟨h3,h4⟩:=dJ! h2;refine⟨by rw[List.zip_cons_cons,v8!,h3],fun x hx=>?_⟩;rw[List.zip_cons_cons]at hx;rcases v7!.1 hx with rfl | hx
  ·exact h1
  ·exact h4 x hx
theorem hM! {S:Nat->Prop}{w:World}:∀ {q:List (RT × Value)},(∀x∈q,RTAt S w x.1 x.2)->RTsAt S w (q.map (·.1)) (q.map (·.2))
 | [],_=>by rw[List.map_nil,List.map_nil,RTsAt]
 | x::q,h=>by
  rw[v8!,v8!,RTsAt];exact⟨x.2,_,rfl,h x y4!,hM! fun y hy=>h y (u9! _ hy)⟩
theorem fh! {α β:Type}:∀(q:List (α × β)),(q.map (·.1)).zip (q.map (·.2))=q
 | []=>rfl
 | x::q=>by rw[v8!,v8!,List.zip_cons_cons,fh! q]
theorem RTAt.iff {S:Nat->Prop}{w:World}(r:RT)(v:Value):RTAt S w r v↔∃q:List (RT × Value),q.map (·.1)=r.ps/\(∀x∈q,RTAt S w x.1 x.2)/\Sl S w 4 v (q.flatMap rC):=by
 obtain⟨k,a,b,ps⟩:=r;rw[RTAt];constructor
 ·rintro⟨l,c,h2⟩;exact⟨_,(dJ! c).1,(dJ! c).2,h2⟩
 ·rintro⟨q,c,h2,h3⟩;refine⟨q.map (·.2),?_,?_⟩
  ·have:=hM! h2;rwa[c]at this
  ·rw[show ps=q.map (·.1)from c.symm,fh!];exact h3
theorem RTAt.same {S:Nat->Prop}{w w':World}{r:RT}{v:Value}(h:RTAt S w r v)(hs:Same S w w'):RTAt S w' r v:=by
 induction r using RT.ind generalizing v with
 | h r ih =>
  obtain⟨q,h1,h2,h3⟩:=(RTAt.iff r v).1 h;exact(RTAt.iff r v).2 ⟨q,h1,fun x hx=>ih x.1 (by rw[<-h1];exact List.mem_map_of_mem hx) (h2 x hx),h3.same hs⟩
theorem RTAt.mono {S S':Nat->Prop}{w:World}{r:RT}{v:Value}(h:RTAt S w r v)(hs:∀b,S b->S' b):RTAt S' w r v:=by
 induction r using RT.ind generalizing v with
 | h r ih =>
  obtain⟨q,h1,h2,h3⟩:=(RTAt.iff r v).1 h;exact(RTAt.iff r v).2 ⟨q,h1,fun x hx=>ih x.1 (by rw[<-h1];exact List.mem_map_of_mem hx) (h2 x hx),h3.mono hs⟩
theorem RTAt.up {w w':World}{r:RT}{v:Value}(h:RTAt (· < w.heap.size) w r v)(hb:Below w.heap.size w w'):RTAt (· < w'.heap.size) w' r v :=
 (h.same (Same.below hb)).mono fun _ h=>n1! h hb.size
theorem RTAt.rows {S:Nat->Prop}{w:World}{r:RT}{v:Value}(h:RTAt S w r v) :
  ∃ao c,v= .slice ao r.ps.length c/\r.ps.length<=c/\c<=9223372036854775807/\∀i (hi:i<r.ps.length),∃b off pv,ao=some ⟨b,off,none⟩/\S b /\
   w.cell? ⟨b,off+i*4,none⟩=some (.int .i64 r.ps[i].k)/\w.cell? ⟨b,off+i*4+1,none⟩=some (.string r.ps[i].a)/\w.cell? ⟨b,off+i*4+2,none⟩=some (.string r.ps[i].b)/\w.cell? ⟨b,off+i*4+3,none⟩=some pv/\RTAt S w r.ps[i] pv:=by
 obtain⟨q,h1,h2,h3⟩:=(RTAt.iff r v).1 h;have f:q.length=r.ps.length:=by rw[<-h1,x1!]
 obtain⟨ao,c,rfl,h4,h5,g⟩:=Sl.rows aO! (by decide) h3;refine⟨ao,c,by rw[f],by omega,h5,fun i hi=>?_⟩;have d:i<q.length:=by omega
 obtain⟨b,off,rfl,hb,g⟩:=g (by omega);have e:r.ps[i]=q[i].1:=by simp only[<-h1,List.getElem_map]
 rw[e];exact⟨b,off,q[i].2,rfl,hb,g i d 0 _ rfl,g i d 1 _ rfl,g i d 2 _ rfl,g i d 3 _ rfl,h2 _ (n5! d)⟩
def rV (r:RT)(pv:Value):Value := .agg #[.int .i64 r.k,.string r.a,.string r.b,pv]
structure TyS where
 name:ByteArray
 rels:List (ByteArray × RT)
instance:Inhabited TyS:=⟨⟨ByteArray.empty,[]⟩⟩
def TyS.Ok (t:TyS):Prop:=t.name.size<=140737488351232/\∀r∈t.rels,r.1.size<=140737488351232/\r.2.Ok
def relC (x:(ByteArray × RT) × Value):List Value:=[.string x.1.1,.int .i64 x.1.2.k,.string x.1.2.a,.string x.1.2.b,x.2]
theorem ay! (x:(ByteArray × RT) × Value):(relC x).length=5:=rfl
def oq! (S:Nat->Prop)(w:World)(l:List (ByteArray × RT))(v:Value):Prop:=∃q:List ((ByteArray × RT) × Value),q.map (·.1)=l/\(∀x∈q,RTAt S w x.1.2 x.2)/\Sl S w 5 v (q.flatMap relC)
def tyC (x:TyS × Value):List Value:=[.string x.1.name,x.2]
theorem aC! (x:TyS × Value):(tyC x).length=2:=rfl
def ou! (S:Nat->Prop)(w:World)(l:List TyS)(v:Value):Prop:=∃q:List (TyS × Value),q.map (·.1)=l/\(∀x∈q,oq! S w x.1.rels x.2)/\Sl S w 2 v (q.flatMap tyC)
section
variable {S S' : Nat -> Prop} {w w' : World} {l : List (ByteArray × RT)} {ts : List TyS} {v : Value}
theorem oq!.same (h:oq! S w l v)(hs:Same S w w'):oq! S w' l v:=by
 obtain⟨q,h1,h2,h3⟩:=h;exact⟨q,h1,fun x hx=>(h2 x hx).same hs,h3.same hs⟩
theorem oq!.mono (h:oq! S w l v)(hs:∀b,S b->S' b):oq! S' w l v:=by
 obtain⟨q,h1,h2,h3⟩:=h;exact⟨q,h1,fun x hx=>(h2 x hx).mono hs,h3.mono hs⟩
theorem ou!.same (h:ou! S w ts v)(hs:Same S w w'):ou! S w' ts v:=by
 obtain⟨q,h1,h2,h3⟩:=h;exact⟨q,h1,fun x hx=>(h2 x hx).same hs,h3.same hs⟩
theorem ou!.mono (h:ou! S w ts v)(hs:∀b,S b->S' b):ou! S' w ts v:=by
 obtain⟨q,h1,h2,h3⟩:=h;exact⟨q,h1,fun x hx=>(h2 x hx).mono hs,h3.mono hs⟩
theorem ou!.up (h:ou! (· < w.heap.size) w ts v)(hb:Below w.heap.size w w'):ou! (· < w'.heap.size) w' ts v :=
 (h.same (Same.below hb)).mono fun _ h=>n1! h hb.size
theorem oq!.rows (h:oq! S w l v) :
  ∃ao c,v= .slice ao l.length c/\l.length<=c/\c<=9223372036854775807/\∀i (hi:i<l.length),∃b off pv,ao=some ⟨b,off,none⟩/\S b/\w.cell? ⟨b,off+i*5,none⟩=some (.string l[i].1) /\
   w.cell? ⟨b,off+i*5+1,none⟩=some (.int .i64 l[i].2.k)/\w.cell? ⟨b,off+i*5+2,none⟩=some (.string l[i].2.a)/\w.cell? ⟨b,off+i*5+3,none⟩=some (.string l[i].2.b)/\w.cell? ⟨b,off+i*5+4,none⟩=some pv/\RTAt S w l[i].2 pv:=by
 obtain⟨q,h1,h2,h3⟩:=h;have f:q.length=l.length:=by rw[<-h1,x1!]
 obtain⟨ao,c,rfl,h4,h5,g⟩:=Sl.rows ay! (by decide) h3;refine⟨ao,c,by rw[f],by omega,h5,fun i hi=>?_⟩;have d:i<q.length:=by omega
 obtain⟨b,off,rfl,hb,g⟩:=g (by omega);have e:l[i]=q[i].1:=by simp only[<-h1,List.getElem_map]
 rw[e];exact⟨b,off,q[i].2,rfl,hb,g i d 0 _ rfl,g i d 1 _ rfl,g i d 2 _ rfl,g i d 3 _ rfl,g i d 4 _ rfl,h2 _ (n5! d)⟩
theorem ou!.rows (h:ou! S w ts v) :
  ∃ao c,v= .slice ao ts.length c/\ts.length<=c/\c<=9223372036854775807/\∀i (hi:i<ts.length),∃b off pv,ao=some ⟨b,off,none⟩/\S b/\w.cell? ⟨b,off+i*2,none⟩=some (.string ts[i].name)/\w.cell? ⟨b,off+i*2+1,none⟩=some pv/\oq! S w ts[i].rels pv:=by
 obtain⟨q,h1,h2,h3⟩:=h;have e:q.length=ts.length:=by rw[<-h1,x1!]
 obtain⟨ao,c,rfl,h4,h5,f⟩:=Sl.rows aC! (by decide) h3;refine⟨ao,c,by rw[e],by omega,h5,fun i hi=>?_⟩;have a:i<q.length:=by omega
 obtain⟨b,off,rfl,hb,f⟩:=f (by omega);have d:ts[i]=q[i].1:=by simp only[<-h1,List.getElem_map]
 rw[d];exact⟨b,off,q[i].2,rfl,hb,f i a 0 _ rfl,f i a 1 _ rfl,h2 _ (n5! a)⟩
end
structure R2 where
 t:ByteArray
 r:ByteArray
deriving DecidableEq
instance:Inhabited R2:=⟨⟨ByteArray.empty,ByteArray.empty⟩⟩
def r2V (p:R2):Value := .agg #[.string p.t,.string p.r]
def r2C (p:R2):List Value:=[.string p.t,.string p.r]
theorem bi! (p:R2):(r2C p).length=2:=rfl
def r2cs (l:List R2):List Value:=l.flatMap r2C
theorem bt! (a b:ByteArray):a.toList=b.toList↔a=b:=by
 rw[u5!,u5!];exact⟨fun h=>ByteArray.ext (by rw[<-Array.toList_inj];exact h),fun h=>by rw[h]⟩
end Go.Proofs.YtlhaghoajpglaaaGreat
namespace Go.Proofs.YtlhaghoajpglaaaGreat
open Go Go.RowKit Go.Sort Go.Shelf Go.Proofs.Tryz
theorem fb! {α:Type} [Inhabited α] {enc:α->List Value}{k:Nat}(hk:∀x,(enc x).length=k)(hpos:0<k)(d:Array α):(flatK enc k d).toList=d.toList.flatMap enc:=by
 apply List.ext_getElem?;intro t;by_cases ht:t<d.size*k
 ·have h1:t / k<d.size:=(Nat.div_lt_iff_lt_mul hpos).2 ht;have h2:t % k<k:=Nat.mod_lt _ hpos;have h3:t=t / k*k+t % k:=by rw[Nat.mul_comm];exact(Nat.div_add_mod t k).symm
  have e1:(flatK enc k d).toList[t]?=some (flatK enc k d)[t]!:=by
   rw[getElem!_pos _ t (by simpa using ht)];simp[ht]
  rw[e1,get_flatK enc k d t ht];conv=>rhs;rw[h3]
  rw[fD! hk d.toList (t / k) (by simpa using h1) (t % k) h2,getElem!_pos d (t / k) h1,getElem!_pos _ (t % k) (by rw[hk];exact h2),n4! (by rw[hk];exact h2)];simp
 ·rw[y0! (by simp;omega),y0! (by rw[ac! hk];simp;omega)]
theorem lq! {P:Program}{ρ:Ren}(L:SlLaysF0.n6 P ρ) {α:Type} [Inhabited α] (enc:α->List Value)(k:Nat)(hk:∀x,(enc x).length=k)(hpos:0<k)(h1:∀x,∀v∈enc x,v.oneCell'=true)
  (aE:∀w,(isAgg (ρ.t 24)).run P w= .ok true w) (zE:∀w,(Go.sizeOf (ρ.t 24)).run P w= .ok k w) (cf:α->α->Int) (hO:SWO (ltOf cf)) (g:Nat) (cb:Array Value)
  (eg:∀args w,(callFunc g args).run P w= .ok (.enter g args) w) (hcmp:∀(W:World) x y,Calls P g (#[.agg (enc x).toArray,.agg (enc y).toArray]++cb) W fun e w'=>e= .returned (.int .i64 (cf x y))/\Gr W w')
  {w:World} {B:Nat} {T:TypeId} {v:Value} {l:List α} (h:Own w B T k v (l.flatMap enc)) (hl:l.length<4611686018427387904) :
  Calls P (ρ.f 6) #[v,.func (.func g) #[] cb] w fun e w'=>e= .returned (.tuple #[])/\∃l':List α,l'.Perm l/\(l'.Pairwise fun a b=>ltOf cf b a=false)/\Own w' B T k v (l'.flatMap enc)/\Kept (fun b=>b<w.heap.size/\v.ownBlock≠some b) w w':=by
 obtain⟨n,r,o⟩:=h;rw[ac! hk]at r;obtain rfl:l.length=n:=Nat.eq_of_mul_eq_mul_right hpos r;by_cases h0:l=[]
 ·subst h0
  have hv:∃p c,v= .slice p 0 c:=by
   rcases o with⟨rfl,_⟩|⟨b,cap,cur,rfl,_⟩
   ·exact⟨_,_,rfl⟩
   ·exact⟨_,_,rfl⟩
  have z:Own w B T k v (([]:List α).flatMap enc):=⟨0,by simp,o⟩;obtain⟨p,c,rfl⟩:=hv;refine(AnyF.slices_SortFunc_none L p c _ w).mono ?_;rintro e w' ⟨rfl,rfl⟩;exact⟨rfl,[],List.Perm.refl _,List.Pairwise.nil,z,Kept.refl _ _⟩
 ·have a5:0<l.length:=List.length_pos_iff.2 h0;rcases o with⟨rfl,hx⟩|⟨b,cap,cur,rfl,hB,hb,hnc,hcm,hcs,htake⟩
  ·exfalso
   omega
  ·have s:b<w.heap.size:=(x7!.1 hb).1;have a4:l.length*k<=cur.size:=by rw[hcs];exact y7! k hnc
   have u:∀j,j<l.length*k->cur[j]?=some (flatK enc k l.toArray)[j]!:=fun j hj=>by
    have e1:(cur.toList.take (l.length*k))[j]?=cur[j]?:=by rw[List.getElem?_take,if_pos hj];simp
    rw[<-e1,htake];have C:=fb! hk hpos l.toArray;simp only at C;rw[<-C,getElem!_pos _ j (by simpa using hj)];simp[hj]
   have hH:HoldsK enc k w b 0 l.toArray:=fun j hj=>by
    rw[size_flatK]at hj;have hj':j<l.length*k:=by simpa using hj
    refine⟨?_,frozen_of_row w b (0+j) cur T hb⟩;rw[cell_of_row w b (0+j) cur T (0,0) hb,Nat.zero_add];exact u j hj'
   have a0:CmpLays P g cb enc k cf b 0 l.toArray.size w:=fun m os dk _ x y=>(hcmp _ x y).mono fun _ _ ⟨he,hg⟩=>⟨he,hg⟩;have D:=AnyQ.slices_SortFunc L k aE zE enc hk h1 cf hO g cb b 0 cap l.toArray w eg a0 hH s (by simpa using hl);simp only[List.size_toArray]at D;refine D.mono ?_;rintro e w' ⟨rfl,d',m,os,hp,hs,rfl⟩;obtain⟨a1,_,A⟩:=hp;have hp1':d'.size=l.length:=by simpa using a1
   have q:d'.toList.Perm l:=by
    have e1:(d'.extract 0 l.length).toList=d'.toList:=by rw[<-hp1'];simp
    have C:(l.toArray.extract 0 l.length).toList=l:=by simp
    rw[e1,C]at A;exact A
   refine⟨rfl,d'.toList,q,?_,⟨d'.toList.length,?_,.inr ⟨b,cap,putCells id 0 (flatK enc k d') cur,?_,hB,?_,?_,hcm,?_,?_⟩⟩,?_⟩
   ·refine x3!.2 fun i j hi hj hij=>?_;have hi':i<d'.size:=by simpa using hi
    have hj':j<d'.size:=by simpa using hj
    have:=hs i j (v1! _) hij (by omega);rwa[getElem!_pos d' j hj',getElem!_pos d' i hi']at this
   ·rw[ac! hk]
   ·simp[hp1']
   ·simp only[sortWorldK,putRowK,putRow,mapBlock,grow,heap_ahead];rw[Array.getElem?_append_left (by simpa using s),Array.getElem?_modify,if_pos rfl,hb];rfl
   ·simp[hp1',hnc]
   ·simp[putCells,hcs]
   ·rw[show d'.toList.length*k=(flatK enc k d').size from by simp];rw[<-fb! hk hpos d'];apply List.ext_getElem?;intro t;rw[List.getElem?_take];split
    ·rename_i ht
     have ht':t<d'.size*k:=by simpa using ht
     have a2:t<cur.size:=by rw[hp1']at ht';omega
     simp only[putCells,Array.getElem?_toList,Array.getElem?_mapIdx];rw[Array.getElem?_eq_getElem a2];simp only[Option.map_some,v1!,true_and,Nat.zero_add,Nat.sub_zero,id];rw[if_pos ht,getElem!_pos _ t ht,Array.getElem?_eq_getElem ht]
    ·rename_i ht
     rw[y0! (by simpa using ht)]
   ·refine⟨rfl,rfl,rfl,by simp[sortWorldK,putRowK,grow],fun c D=>?_⟩;have a3:c≠b:=fun e=>D.2 (by subst e;rfl);simp only[sortWorldK,putRowK,putRow,mapBlock,grow,heap_ahead];rw[Array.getElem?_append_left (by simpa using D.1),Array.getElem?_modify,if_neg (Ne.symm a3)]
end Go.Proofs.YtlhaghoajpglaaaGreat
namespace Go.Proofs.YtlhaghoajpglaaaGreat
open Go Go.RowKit Go.Proofs.Tryz
theorem nn! {a b:ByteArray}(h:ltS a b=true):a≠b:=by
 rintro rfl;rw[gj!]at h;cases h
def ltR (a b:R2):Bool:=if a.t=b.t then ltS a.r b.r else ltS a.t b.t
end Go.Proofs.YtlhaghoajpglaaaGreat
namespace Go.Proofs
open Go.Shelf Go.Proofs.Tryz
def Tryz.sortT_ren:Go.Shelf.Ren:=⟨fun | 6=>137 | 15=>198 | 14=>197 | 28=>240 | 29=>241 | 20=>232 | 21=>233 | 22=>234 | 23=>235 | 24=>236 | 25=>237 | 26=>238 | 27=>239 | 46=>281 | 47=>282 | 48=>283 | 49=>284 | 50=>285 | 57=>297 | n=>n,fun | 22=>27 | 24=>67 | 25=>154 | 3=>3 | 39=>311 | 0=>0 | 53=>349 | 55=>351 | 4=>4 | 46=>343 | 45=>342 | 50=>314 | 5=>5 | 9=>9 | 66=>378 | 70=>382 | 76=>390 | 77=>391 | n=>n,fun | n=>n⟩
theorem Tryz.sortT:Go.Proofs.SlLaysF0.n6 prog Tryz.sortT_ren := {
 mixed:=by kernel_rfl
 f6:=⟨Tryz.f137.name,by decide,func137.trans (congrArg some (by kernel_rfl))⟩
 f14:=⟨Tryz.f197.name,by decide,func197.trans (congrArg some (by kernel_rfl))⟩
 f15:=func198.trans (congrArg some (by kernel_rfl))
 f20:=⟨Tryz.f232.name,by decide,func232.trans (congrArg some (by kernel_rfl))⟩
 f21:=⟨Tryz.f233.name,by decide,func233.trans (congrArg some (by kernel_rfl))⟩
 f22:=⟨Tryz.f234.name,by decide,func234.trans (congrArg some (by kernel_rfl))⟩
 f23:=⟨Tryz.f235.name,by decide,func235.trans (congrArg some (by kernel_rfl))⟩
 f24:=⟨Tryz.f236.name,by decide,func236.trans (congrArg some (by kernel_rfl))⟩
 f25:=⟨Tryz.f237.name,by decide,func237.trans (congrArg some (by kernel_rfl))⟩
 f26:=⟨Tryz.f238.name,by decide,func238.trans (congrArg some (by kernel_rfl))⟩
 f27:=⟨Tryz.f239.name,by decide,func239.trans (congrArg some (by kernel_rfl))⟩
 f28:=func240.trans (congrArg some (by kernel_rfl))
 f29:=func241.trans (congrArg some (by kernel_rfl))
 f46:=⟨Tryz.f281.name,by decide,func281.trans (congrArg some (by kernel_rfl))⟩
 f47:=func282.trans (congrArg some (by kernel_rfl))
 f48:=func283.trans (congrArg some (by kernel_rfl))
 f49:=⟨Tryz.f284.name,by decide,func284.trans (congrArg some (by kernel_rfl))⟩
 f50:=⟨Tryz.f285.name,by decide,func285.trans (congrArg some (by kernel_rfl))⟩
 f57:=⟨Tryz.f297.name,by decide,func297.trans (congrArg some (by kernel_rfl))⟩
 t0:=Tryz.underlying0
 a0:=Tryz.isAgg0
 z0:=Tryz.sizeOf0
 v0:=Tryz.zeroValue0
 t3:=Tryz.underlying3
 a3:=Tryz.isAgg3
 z3:=Tryz.sizeOf3
 v3:=Tryz.zeroValue3
 t4:=Tryz.underlying4
 a4:=Tryz.isAgg4
 z4:=Tryz.sizeOf4
 v4:=Tryz.zeroValue4
 t5:=Tryz.underlying5
 a5:=Tryz.isAgg5
 z5:=Tryz.sizeOf5
 v5:=Tryz.zeroValue5
 t9:=Tryz.underlying9
 a9:=Tryz.isAgg9
 z9:=Tryz.sizeOf9
 v9:=Tryz.zeroValue9
 t22:=Tryz.underlying27
 a22:=Tryz.isAgg27
 z22:=Tryz.sizeOf27
 v22:=Tryz.zeroValue27
 t25:=Tryz.underlying154
 a25:=Tryz.isAgg154
 z25:=Tryz.sizeOf154
 v25:=Tryz.zeroValue154
 t39:=Tryz.underlying311
 a39:=Tryz.isAgg311
 z39:=Tryz.sizeOf311
 v39:=Tryz.zeroValue311
 t45:=Tryz.underlying342
 a45:=Tryz.isAgg342
 z45:=Tryz.sizeOf342
 v45:=Tryz.zeroValue342
 t46:=Tryz.underlying343
 a46:=Tryz.isAgg343
 z46:=Tryz.sizeOf343
 v46:=Tryz.zeroValue343
 t50:=Tryz.underlying314
 a50:=Tryz.isAgg314
 z50:=Tryz.sizeOf314
 v50:=Tryz.zeroValue314
 t53:=Tryz.underlying349
 a53:=Tryz.isAgg349
 z53:=Tryz.sizeOf349
 v53:=Tryz.zeroValue349
 t55:=Tryz.underlying351
 a55:=Tryz.isAgg351
 z55:=Tryz.sizeOf351
 v55:=Tryz.zeroValue351
 t66:=Tryz.underlying378
 a66:=Tryz.isAgg378
 z66:=Tryz.sizeOf378
 v66:=Tryz.zeroValue378
 t70:=Tryz.underlying382
 a70:=Tryz.isAgg382
 z70:=Tryz.sizeOf382
 v70:=Tryz.zeroValue382
 t76:=Tryz.underlying390
 a76:=Tryz.isAgg390
 z76:=Tryz.sizeOf390
 v76:=Tryz.zeroValue390
 t77:=Tryz.underlying391
 a77:=Tryz.isAgg391
 z77:=Tryz.sizeOf391
 v77:=Tryz.zeroValue391}
end Go.Proofs
namespace Go.Proofs.YtlhaghoajpglaaaGreat
open Go Go.RowKit Go.Proofs.Tryz
theorem Own.keepB {w w':World}{B:Nat}{e:TypeId}{sz:Nat}{v:Value}{xs:List Value}(h:Own w B e sz v xs)(hs:∀g,v.ownBlock=some g->w'.heap[g]?=w.heap[g]?):Own w' B e sz v xs:=by
 obtain⟨n,h⟩:=h;refine⟨n,h.1,?_⟩;rcases h.2 with hn | ⟨g,cap,cur,rfl,hbg,hg,r⟩
 ·exact .inl hn
 ·exact .inr ⟨g,cap,cur,rfl,hbg,(hs g rfl).trans hg,r⟩
theorem Own.notBlk {w:World}{B:Nat}{e t:TypeId}{sz:Nat}{v:Value}{xs:List Value}{b:Nat}{cs:Array Value}(h:Own w B e sz v xs)(hb:Blk w b cs t)(hne:t≠e):∀g,v.ownBlock=some g->g≠b:=by
 intro g hg he;obtain⟨n,h⟩:=h;rcases h.2 with⟨rfl,_⟩|⟨g',cap,cur,rfl,hbg,hg',r⟩
 ·cases hg
 ·injection hg with hg
  subst hg he;rw[show w.heap[g']?=_ from hb]at hg';injection hg' with hg'
  injection hg' with _ h2 _
  exact hne h2
def WrB (w:World)(B b:Nat)(text:ByteArray)(odd:Bool):Prop:=B<=b/\∃p v,(p= .pointer none\/p= .pointer (some ⟨b,0,none⟩))/\Blk w b #[p,v,.bool odd] 298/\Own w B 5 1 v (Lib.strCells text)/\(text.size=0->v= .slice none 0 0)
def WK (B b:Nat)(w:World)(x:Nat):Prop:=x<B\/(x≠b/\x<w.heap.size/\∀cs,w.heap[x]?≠some (.cells cs 5 (0,0)))
abbrev ov! (B b:Nat) (w w':World):Prop:=Kept (WK B b w) w w'
section
variable {w w' w'' : World} {B b : Nat}
theorem ov!.below (h:ov! B b w w'):Below B w w':=Kept.below h fun _ hx => .inl hx
theorem ov!.next (h:ov! B b w w')(k:ov! B b w' w''):ov! B b w w'':=Kept.trans h (Kept.mono k fun x hx=>by
 rcases hx with hx | ⟨h1,h2,h3⟩
 ·exact .inl hx
 ·refine .inr ⟨h1,n1! h2 h.size,fun cs=>?_⟩;rw[h.block x (.inr ⟨h1,h2,h3⟩)];exact h3 cs)
theorem ov!.of (h:Below w.heap.size w w')(hB:B<=w.heap.size):ov! B b w w':=Below.kept h fun x hx=>by
 rcases hx with hx | ⟨_,h2,_⟩
 ·omega
 ·exact h2
theorem ov!.box (h:ov! B b w w') {x:Nat}{cs:Array Value}{e:TypeId}(hx:Blk w x cs e)(he:e≠5)(hb:x≠b):Blk w' x cs e:=Kept.blk h hx (.inr ⟨hb,hx.lt,fun cs' h'=>by
 rw[show w.heap[x]?=_ from hx]at h';injection h' with h'
 injection h' with _ h2 _
 exact he h2⟩)
theorem WrB.lt {text:ByteArray}{odd:Bool}(h:WrB w B b text odd):b<w.heap.size:=by
 obtain⟨_,p,v,_,hb,_⟩:=h;exact hb.lt
theorem WrB.up {text:ByteArray}{odd:Bool}(h:WrB w B b text odd)(hk:Below w.heap.size w w'):WrB w' B b text odd:=by
 obtain⟨hB,p,v,hp,hb,ho,hn⟩:=h;exact⟨hB,p,v,hp,hb.below hk,ho.below hk,hn⟩
theorem WrB.flag {text:ByteArray}{odd:Bool}(h:WrB w B b text odd)(o:Bool):WrB (w.setCell ⟨b,2,none⟩ (.bool o)) B b text o:=by
 obtain⟨hB,p,v,hp,hb,ho,hn⟩:=h;exact⟨hB,p,v,hp,hb.set 2 _,ho.keepB fun g hg=>Below.heap_setCell _ _ _ g (ho.notBlk hb (by decide) g hg),hn⟩
theorem ov!.flag (hB:B<=b)(v:Value):ov! B b w (w.setCell ⟨b,2,none⟩ v):=(Kept.refl _ _).set (a:=⟨b,2,none⟩) (fun h=>by
 rcases h with h | ⟨h,_⟩
 ·exact absurd h (by show ¬ b<B;omega)
 ·exact h rfl) _
theorem WrB.odd2 {text:ByteArray}{odd:Bool}(h:WrB w B b text odd):w.cell? ⟨b,2,none⟩=some (.bool odd)/\w.frozen? ⟨b,2,none⟩=false:=by
 obtain⟨hB,p,v,hp,hb,ho,hn⟩:=h;exact⟨hb.cells 2,hb.free 2⟩
end
theorem jc!:(prog.info? 5).map (fun i=>(i.zero,i.size,i.bytes))=some (some (.int .u8 0),1,1):=by kernel_rfl
theorem hq!:(prog.info? 296).map (·.size)=some 2:=by kernel_rfl
theorem et!:∃j,prog.info? 296=some j/\j.size≠0:=by
 obtain⟨j,hj,hs⟩:=Option.map_eq_some_iff.1 hq!;exact⟨j,hj,by omega⟩
theorem liesW:liesAt prog prog.depth 298 (3 / prog.cellsOf 298) 0 296 1=true:=by kernel_rfl
theorem WrB.shape {w:World}{b:Nat}{cs:Array Value}(h:Blk w b cs 298)(hs:cs.size=3):w.shape? b=some (298,3):=by
 simp[World.shape?,show w.heap[b]?=_ from h,hs]
theorem ej! (b:Nat)(w:World)(h0:w.cell? ⟨b,0,none⟩=some (.pointer (some ⟨b,0,none⟩))) :
  Calls prog 230 #[.pointer (some ⟨b,0,none⟩)] w fun e w'=>e= .returned (.tuple #[])/\w'=w:=by
 obtain⟨j,hj,_⟩:=et!;go_enter func230,ntmps230
 go_wp2
 rw[Lib.run_neq_ptr_same w _ Tryz.underlying294 hj];go_wp2
 go_end0
 exact⟨rfl,rfl⟩
theorem dn! (b:Nat)(w:World)(h0:w.cell? ⟨b,0,none⟩=some (.pointer none))(hsh:w.shape? b=some (298,3))(hfz:w.frozen? ⟨b,0,none⟩=false) :
  Calls prog 230 #[.pointer (some ⟨b,0,none⟩)] w fun e w'=>e= .returned (.tuple #[])/\w'=w.setCell ⟨b,0,none⟩ (.pointer (some ⟨b,0,none⟩)):=by
 obtain⟨j,hj,a0⟩:=et!;go_enter func230,ntmps230
 go_wp2
 rw[Lib.run_to_unsafe w ⟨b,0,none⟩ Tryz.underlying294 Tryz.underlying376 hj a0 hsh (Nat.zero_lt_succ 2)];simp only[Result.andThen];rw[Oper.upon_value];go_wp2
 rw[run_callFunc_extern func280 (by kernel_rfl) (by kernel_rfl) (by kernel_rfl) (e:=Extern.AbiNoEscape.same) (by kernel_rfl)];rw[Lib.run_noEscape];simp only[Result.andThen];rw[Oper.upon_value];go_wp2
 rw[Lib.run_from_unsafe w ⟨b,0,none⟩ Tryz.underlying376 Tryz.underlying294 hj hsh liesW];simp only[Result.andThen];rw[Oper.upon_value];go_wp2
 go_end0
 exact⟨rfl,rfl⟩
theorem fe! {B b:Nat}{text:ByteArray}{odd:Bool}{w:World}(h:WrB w B b text odd) :
  Calls prog 230 #[.pointer (some ⟨b,0,none⟩)] w fun e w'=>e= .returned (.tuple #[])/\(∃v,Blk w' b #[.pointer (some ⟨b,0,none⟩),v,.bool odd] 298/\Own w' B 5 1 v (Lib.strCells text))/\ov! B b w w':=by
 obtain⟨hB,p,v,hp,c,ho,hn⟩:=h;rcases hp with rfl | rfl
 ·refine(dn! b w (c.cells 0) (WrB.shape c rfl) (c.free 0)).mono ?_;rintro e w' ⟨rfl,rfl⟩;refine⟨rfl,⟨v,c.set 0 _,ho.keepB fun g hg=>Below.heap_setCell _ _ _ g (ho.notBlk c (by decide) g hg)⟩,(Kept.refl _ _).set (a:=⟨b,0,none⟩) (fun h=>?_) _⟩;rcases h with h | ⟨h,_⟩
  ·exact absurd h (by show ¬ b<B;omega)
  ·exact h rfl
 ·refine(ej! b w (c.cells 0)).mono ?_;rintro e w' ⟨rfl,rfl⟩;exact⟨rfl,⟨v,c,ho⟩,Kept.refl _ _⟩
theorem aa! {B b:Nat}{text:ByteArray}{odd:Bool}{w:World}(s:ByteArray)(h:WrB w B b text odd)(hlen:text.size+s.size<=140737488355328)(hpos:0<text.size+s.size)(hBw:B<=w.heap.size) :
  Calls prog 188 #[.pointer (some ⟨b,0,none⟩),.string s] w fun e w'=>e= .returned (.tuple #[.int .i64 s.size,.nilIface])/\WrB w' B b (text++s) odd/\ov! B b w w':=by
 have p:=h! (fe! h);have hB:=h.1;obtain⟨i0,hi,t,q,o⟩:=info_parts jc!;clear h;go_enter func188,ntmps188
 go_wp2_with fail
 refine p.out.mono ?_;rintro e w1 ⟨rfl,⟨v,i,l⟩,j⟩;have a4:=j.size;have c1:=i.cells;have a5:=h! (l.notBlk i (by decide));have HO:=h! l;have HK:=h! j;obtain⟨n1,c⟩:=l;have a0:n1=text.size:=by have:=c.1;rw[Lib.strCells_length]at this;omega
 subst a0;have hb1':=i;clear p i j;go_wp2_with (at_builtin;refine Lib.wpList_append_own_string _ rfl _ _ 22 9 rfl B 5 i0 Tryz.underlying22 Tryz.underlying9 hi t q o _ _ _ rfl c s rfl ?c3 ?c4 ?c5 ?_)
 case c3=>unfold maxLen;omega
 case c4=>omega
 case c5=>omega
 intro v' w2 hown' hgrow _;have d:Blk w2 b #[.pointer (some ⟨b,0,none⟩),v,.bool odd] 298:=(hgrow.block b hb1'.lt (fun e=>a5.out b e.symm rfl)).trans hb1';have d0:=d.cells;have f0:=d.free;have k:Own w2 B 5 1 v' (Lib.strCells text++Lib.strCells s):=⟨_,hown'⟩;have u:=k.notBlk d (by decide)
 have y:ov! B b w1 w2:=⟨hgrow.os,hgrow.tape,hgrow.output,hgrow.size,fun x hx=>by
  have hO:=HO.out;rcases hx with hx | ⟨h1,h2,h3⟩
  ·exact hgrow.block x (by omega) (fun e=>by have:=(hO.block x e.symm).1;omega)
  ·refine hgrow.block x h2 (fun e=>?_);obtain⟨n,ho⟩:=hO;rcases ho.2 with⟨rfl,_⟩|⟨g',f,cur,rfl,hbg,hg',r⟩
   ·cases e
   ·injection e with e
    subst e;exact h3 _ hg'⟩
 have a3:=h! k;have m:=h! y;have a1:=h! d;have a2:=h! u
 obtain⟨ao,n',f,rfl⟩:∃ao n' f,v' = .slice ao n' f:=by
  rcases hown'.2 with⟨hv,_⟩|⟨g,f,cur,hv,_⟩
  ·exact⟨_,_,_,hv⟩
  ·exact⟨_,_,_,hv⟩
 clear c1 hb1' c hgrow hown' d k u y hi t q o;go_wp2_with fail
 go_ret2
 refine⟨rfl,⟨hB,_,_,.inr rfl,a1.out.set 1 _,?_,fun h=>?_⟩,?_⟩
 ·have h1:Lib.strCells (text++s)=Lib.strCells text++Lib.strCells s:=by simp[Lib.strCells]
  rw[h1];exact a3.out.keepB fun g hg=>Below.heap_setCell _ _ _ g (a2.out g hg)
 ·rw[n3!]at h;omega
 ·refine ov!.next (ov!.next HK.out m.out) ((Kept.refl _ _).set (a:=⟨b,1,none⟩) (fun h=>?_) _);rcases h with h | ⟨h,_⟩
  ·exact absurd h (by show ¬ b<B;omega)
  ·exact h rfl
end Go.Proofs.YtlhaghoajpglaaaGreat
