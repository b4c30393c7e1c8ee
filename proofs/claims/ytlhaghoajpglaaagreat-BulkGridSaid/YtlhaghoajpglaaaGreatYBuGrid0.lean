/- Lemmas for the claim, no condition. -/
import Derived.Test.YtlhaghoajpglaaaGreatProg
import Derived.WalkKit
import Derived.WalkSpells
import Derived.WalkLawsBesides
import Derived.Lib.Hide
import Derived.Lib.AppendStr
import Derived.Sort.Grow
import Derived.Deep.Draws
import Derived.Sort.Walk0
import Derived.Deep.RegionHeld
import Derived.Maps.RangeWalk
import Derived.Maps.OwnSet
import Derived.Shelf.SlSortCmp.WholeK
import Derived.Shelf.SlSortCmp.NoneTotal
import Derived.Ground.SlsfProg
import Derived.Lib.Builder
import Derived.Lib.UnsafeStr
set_option maxRecDepth 100000
set_option maxHeartbeats 2000000
namespace Go.Proofs.YtlhaghoajpglaaaGreat
open Go Go.RowKit
theorem h! {p : Prop} (h : p) : Hid p := Lib.hid h
theorem gA {α : Type} (l : List α) (i : Nat) : l.toArray[i]? = l[i]? := List.getElem?_toArray
theorem gS {α : Type} (a : α) (l : List α) (i : Nat) : (a :: l)[i + 1]? = l[i]? := List.getElem?_cons_succ
theorem gZ {α : Type} (a : α) (l : List α) : (a :: l)[0]? = some a := List.getElem?_cons_zero
theorem pA {α : Type} (l : List α) (i : Nat) (a : α) : l.toArray.setIfInBounds i a = (l.set i a).toArray := List.setIfInBounds_toArray _ _ _
theorem pZ {α : Type} (a b : α) (l : List α) : (a :: l).set 0 b = b :: l := List.set_cons_zero
theorem pS {α : Type} (a b : α) (l : List α) (i : Nat) : (a :: l).set (i + 1) b = a :: l.set i b := List.set_cons_succ
structure ElemT (P:Program)(t e:TypeId)(size bytes:Nat):Prop where
 und:P.underlying t=some (.slice e)
 row:∃ i z,P.info? e=some i/\i.zero=some z/\i.size=size/\i.bytes=bytes/\z.cells.size=size
 pos:0<size
theorem ElemT.mk' {P:Program} {t e:TypeId} {z:Value} {size bytes:Nat} (h1:P.underlying t=some (.slice e))
  (h2:(P.info? e).map (fun i=>(i.zero,i.size,i.bytes))=some (some z,size,bytes)) (h3:z.cells.size=size) (h4:0<size):ElemT P t e size bytes:=by
 obtain⟨i,a,b,c,d⟩:=info_parts h2;exact⟨h1,⟨i,z,a,b,c,d,h3⟩,h4⟩
def Same (S:Nat->Prop)(w w':World):Prop:=∀ b,S b->w'.heap[b]?=w.heap[b]?
theorem Same.mono {S T:Nat->Prop} {a b:World} (h:Same S a b)(k:∀ x,T x->S x):Same T a b:=fun x hx=>h x (k x hx)
theorem Same.below {B:Nat} {a b:World} (h:Below B a b):Same (· < B) a b:=fun x hx=>h.block x hx
theorem Same.cell {S:Nat->Prop} {a b:World} (h:Same S a b) {p:Addr} (hp:S p.block):b.cell? p=a.cell? p:=World.cell?_of_block (h _ hp)
def Sl (S:Nat->Prop)(w:World)(sz:Nat)(v:Value)(xs:List Value):Prop :=
 ∃ ao n c,v = .slice ao n c/\xs.length=n*sz/\n<=c/\c<=maxLen/\(ao=none->c=0) /\
  (xs≠[]->∃ b off,ao=some ⟨b,off,none⟩/\S b/\∀ j u,xs[j]?=some u->w.cell? ⟨b,off+j,none⟩=some u)
theorem Sl.same {S:Nat->Prop} {w w':World} {sz:Nat} {v:Value} {xs:List Value} (h:Sl S w sz v xs)(hs:Same S w w'):Sl S w' sz v xs:=by
 obtain⟨ao,n,c,rfl,h1,h2,h3,h4,h5⟩:=h;refine⟨ao,n,c,rfl,h1,h2,h3,h4,fun hne=>?_⟩;obtain⟨b,off,rfl,hb,hc⟩:=h5 hne;exact⟨b,off,rfl,hb,fun j u hu=>(hs.cell (p:=⟨b,off+j,none⟩) hb).trans (hc j u hu)⟩
theorem Sl.mono {S T:Nat->Prop} {w:World} {sz:Nat} {v:Value} {xs:List Value} (h:Sl S w sz v xs)(hs:∀ b,S b->T b):Sl T w sz v xs:=by
 obtain⟨ao,n,c,rfl,h1,h2,h3,h4,h5⟩:=h;refine⟨ao,n,c,rfl,h1,h2,h3,h4,fun hne=>?_⟩;obtain⟨b,off,rfl,hb,hc⟩:=h5 hne;exact⟨b,off,rfl,hs b hb,hc⟩
theorem Sl.nil (S:Nat->Prop)(w:World)(sz:Nat):Sl S w sz (.slice none 0 0) []:=⟨none,0,0,rfl,by simp,Nat.le_refl _,Nat.zero_le _,fun _=>rfl,fun h=>absurd rfl h⟩
theorem Sl.made (w:World)(S:Nat->Prop)(sz n:Nat)(e:TypeId)(cs:Array Value)(hn:cs.size=n*sz)(hm:n<=maxLen)(hS:S w.heap.size) :
  Sl S (w.alloc (.cells cs e)) sz (.slice (some ⟨w.heap.size,0,none⟩) n n) cs.toList:=by
 refine⟨_,n,n,rfl,by simpa using hn,Nat.le_refl _,hm,(fun h=>by cases h),fun _=>⟨w.heap.size,0,rfl,hS,fun j u hu=>?_⟩⟩;rw[cell_of_row _ w.heap.size (0+j) cs e (0,0) (heap_alloc_new w _)];simpa using hu
theorem Sl.take {S:Nat->Prop} {w:World} {sz:Nat} {ao:Option Addr} {n c:Nat} {xs:List Value} (h:Sl S w sz (.slice ao n c) xs)(k:Nat)(hk:k<=n):Sl S w sz (.slice ao k c) (xs.take (k*sz)):=by
 obtain⟨ao',n',c',hv,h1,h2,h3,h4,h5⟩:=h;cases hv;have hkn:=Nat.mul_le_mul_right sz hk;refine⟨ao,k,c,rfl,by rw[List.length_take];omega,by omega,h3,h4,fun hne=>?_⟩;obtain⟨b,off,rfl,hb,hc⟩:=h5 (fun e=>hne (by simp[e]));refine⟨b,off,rfl,hb,fun j u hu=>hc j u ?_⟩;rw[List.getElem?_take]at hu;split at hu
 ·exact hu
 ·cases hu
theorem Sl.drop {S:Nat->Prop} {w:World} {ao:Option Addr} {n c:Nat} {xs:List Value} (h:Sl S w 1 (.slice ao n c) xs)(k:Nat)(hk:k<=n) :
  Sl S w 1 (.slice (Option.map (fun x=>x.add k) ao) (n-k) (c-k)) (xs.drop k):=by
 obtain⟨ao',n',c',hv,h1,h2,h3,h4,h5⟩:=h;cases hv;refine⟨_,n-k,c-k,rfl,by rw[List.length_drop];omega,by omega,by omega,fun h=>?_,fun hne=>?_⟩
 ·have:=h4 (by simpa using h);omega
 ·obtain⟨b,off,rfl,hb,hc⟩:=h5 (fun e=>hne (by simp[e]));refine⟨b,off+k,by simp[Addr.add_lit],hb,fun j u hu=>?_⟩;rw[List.getElem?_drop]at hu;rw[Nat.add_assoc];exact hc _ u hu
theorem Sl.len {S:Nat->Prop} {w:World} {sz:Nat} {v:Value} {xs:List Value} (h:Sl S w sz v xs):∃ ao n c,v = .slice ao n c/\xs.length=n*sz/\n<=c/\c<=9223372036854775807:=by
 obtain⟨ao',n',c',hv,h1,h2,h3,h4,h5⟩:=h;exact⟨ao',n',c',hv,h1,h2,by unfold maxLen at h3;omega⟩
theorem ownsRow_sl {w:World} {B:Nat} {e:TypeId} {sz:Nat} {v:Value} {n:Nat} {xs:List Value} (h:w.ownsRow B e sz v n xs)(S:Nat->Prop)(hS:∀ g,v.ownBlock=some g->S g) :
  Sl S w sz v xs:=by
 rcases h.2 with⟨rfl,rfl⟩ | ⟨g,cap,cur,rfl,hb,hg,hnc,hcm,hcs,htake⟩
 ·have:xs=[]:=List.eq_nil_of_length_eq_zero (by simpa using h.1);subst this;exact Sl.nil S w sz
 ·refine⟨_,n,cap,rfl,h.1,hnc,hcm,(fun h=>by cases h),fun _=>⟨g,0,rfl,hS g rfl,fun j u hu=>?_⟩⟩;have hj:j<n*sz:=by rw[<- h.1];exact(List.getElem?_eq_some_iff.1 hu).1
  rw[Nat.zero_add,h.cellAt j hj];exact hu
theorem grownBy_of_alloc {w w':World} {o:Obj} {row:Option Nat} (h:(w.alloc o).grownBy w' row):w.grownBy w' row :=
 ⟨h.os,h.tape,h.output,Nat.le_trans (by simp) h.size,fun k hk hr=>(h.block k (by simp;omega) hr).trans (Below.heap_alloc w o k hk)⟩
theorem Sl.window {S:Nat->Prop} {w:World} {ao ao':Option Addr} {n c:Nat} {xs:List Value} (h:Sl S w 1 (.slice ao n c) xs)(lo hi:Nat)(h1:lo<=hi)(h2:hi<=n)
  (hao:¬ c=lo->ao'=Option.map (fun x=>x.add lo) ao):Sl S w 1 (.slice ao' (hi-lo) (c-lo)) ((xs.drop lo).take (hi-lo)):=by
 have hlen:=h.len;obtain⟨_,_,_,hv,hl,hnc,_⟩:=hlen;cases hv;by_cases hc:c=lo
 ·have:hi-lo=0:=by omega
  have e:c-lo=0:=by omega
  rw[this,e,List.take_zero];exact⟨ao',0,0,rfl,rfl,Nat.le_refl _,Nat.zero_le _,fun _=>rfl,fun h=>absurd rfl h⟩
 ·rw[hao hc];have:=(h.drop lo (by omega)).take (hi-lo) (by omega);rwa[Nat.mul_one]at this
def Blk (w:World)(B:Nat)(cs:Array Value)(e:TypeId):Prop:=w.heap[B]?=some (.cells cs e (0,0))
section
variable {w W : World} {B : Nat} {cs : Array Value} {e : TypeId}
theorem Blk.made (w:World)(cs:Array Value)(e:TypeId):Blk (w.alloc (.cells cs e)) w.heap.size cs e:=heap_alloc_new w _
theorem Blk.made' {w:World} {B:Nat} (h:w.heap.size=B)(cs:Array Value)(e:TypeId):Blk (w.alloc (.cells cs e)) B cs e:=h▸Blk.made w cs e
theorem Blk.lt (h:Blk w B cs e):B<w.heap.size:=(Array.getElem?_eq_some_iff.1 h).1
theorem Blk.same {S:Nat->Prop} (h:Blk w B cs e)(hs:Same S w W)(hB:S B):Blk W B cs e:=(hs B hB).trans h
theorem Blk.below (h:Blk w B cs e)(hb:Below w.heap.size w W):Blk W B cs e:=(hb.block B h.lt).trans h
theorem Blk.alloc (h:Blk w B cs e)(o:Obj):Blk (w.alloc o) B cs e:=(Below.heap_alloc w o B h.lt).trans h
theorem Blk.drew (h:Blk w B cs e):Blk w.drew B cs e:=h
theorem Blk.cells (h:Blk w B cs e):∀ i,w.cell? ⟨B,i,none⟩=cs[i]?:=fun i=>cell_of_row w B i cs e (0,0) h
theorem Blk.free (h:Blk w B cs e):∀ i,w.frozen? ⟨B,i,none⟩=false:=fun i=>frozen_of_row w B i cs e h
theorem Blk.set (h:Blk w B cs e)(i:Nat)(v:Value):Blk (w.setCell ⟨B,i,none⟩ v) B (cs.setIfInBounds i v) e:=heap_setCell_same w B i cs e v h
theorem Blk.other (h:Blk w B cs e) {a:Addr} (ha:B≠a.block)(v:Value):Blk (w.setCell a v) B cs e:=(Below.heap_setCell w a v B ha).trans h
end
theorem setAt {B i:Nat} {w w':World} {v:Value} (h:Below B w w'):Below B w (w'.setCell ⟨B,i,none⟩ v):=h.setCell (Nat.le_refl B) v
structure Kept (K:Nat->Prop)(w w':World):Prop where
 os:w'.os=w.os
 tape:w'.tape=w.tape
 output:w'.output=w.output
 size:w.heap.size<=w'.heap.size
 block:∀ b,K b->w'.heap[b]?=w.heap[b]?
section
variable {K : Nat -> Prop} {w w' w'' : World} {B : Nat}
theorem Kept.refl (K:Nat->Prop)(w:World):Kept K w w:=⟨rfl,rfl,rfl,Nat.le_refl _,fun _ _=>rfl⟩
theorem Kept.trans (h:Kept K w w')(k:Kept K w' w''):Kept K w w'' :=
 ⟨k.os.trans h.os,k.tape.trans h.tape,k.output.trans h.output,Nat.le_trans h.size k.size,fun b hb=>(k.block b hb).trans (h.block b hb)⟩
theorem Kept.mono {J:Nat->Prop} (h:Kept K w w')(hj:∀ b,J b->K b):Kept J w w':=⟨h.os,h.tape,h.output,h.size,fun b hb=>h.block b (hj b hb)⟩
theorem Below.kept (h:Below B w w')(hk:∀ b,K b->b<B):Kept K w w':=⟨h.os,h.tape,h.output,h.size,fun b hb=>h.block b (hk b hb)⟩
theorem Kept.below (h:Kept K w w')(hk:∀ b,b<B->K b):Below B w w':=⟨h.os,h.tape,h.output,h.size,fun b hb=>h.block b (hk b hb)⟩
theorem Kept.alloc (h:Kept K w w')(hk:∀ b,K b->b<w'.heap.size)(o:Obj):Kept K w (w'.alloc o):=h.trans (Below.kept ((Below.refl _ _).alloc (Nat.le_refl _) o) hk)
theorem Kept.set (h:Kept K w w') {a:Addr} (ha:¬ K a.block)(v:Value):Kept K w (w'.setCell a v) :=
 h.trans ⟨rfl,rfl,rfl,Nat.le_of_eq (by simp),fun b hb=>Below.heap_setCell w' a v b (fun e=>ha (e▸hb))⟩
theorem Kept.drew (h:Kept K w w'):Kept K w w'.drew:=⟨h.os,h.tape,h.output,h.size,h.block⟩
theorem Blk.set_to {cs cs':Array Value} {e:TypeId} (h:Blk w B cs e)(i:Nat)(v:Value)(he:cs.setIfInBounds i v=cs'):Blk (w.setCell ⟨B,i,none⟩ v) B cs' e:=he▸h.set i v
theorem Kept.blk (h:Kept K w w') {cs:Array Value} {e:TypeId} (hB:Blk w B cs e)(hk:K B):Blk w' B cs e:=(h.block B hk).trans hB
end
theorem flat_length {α:Type} {enc:α->List Value} {sz:Nat} (hk:∀ a,(enc a).length=sz):∀ l:List α,(l.flatMap enc).length=l.length*sz
 | []=>by simp
 | a::l=>by rw[List.flatMap_cons,List.length_append,flat_length hk l,hk,List.length_cons,Nat.add_mul,Nat.one_mul,Nat.add_comm]
theorem flat_get {α:Type} {enc:α->List Value} {sz:Nat} (hk:∀ a,(enc a).length=sz):∀ (l:List α)(i:Nat)(h:i<l.length)(j:Nat),j<sz->(l.flatMap enc)[i*sz+j]?=(enc l[i])[j]?
 | a::l,0,_,j,hj=>by rw[List.flatMap_cons,Nat.zero_mul,Nat.zero_add,List.getElem?_append_left (by rw[hk];exact hj)];rfl
 | a::l,i+1,h,j,hj=>by
  rw[List.flatMap_cons,List.getElem?_append_right (by rw[hk,Nat.add_mul];omega),hk,show(i+1)*sz+j-sz=i*sz+j from by rw[Nat.add_mul];omega];exact flat_get hk l i (by simpa using h) j hj
theorem Sl.rows {α:Type} {enc:α->List Value} {sz:Nat} (hk:∀ a,(enc a).length=sz)(hpos:0<sz) {S:Nat->Prop} {w:World} {v:Value} {l:List α} (h:Sl S w sz v (l.flatMap enc)) :
  ∃ ao c,v = .slice ao l.length c/\l.length<=c/\c<=9223372036854775807 /\
   (0<l.length->∃ b off,ao=some ⟨b,off,none⟩/\S b/\∀ i (hi:i<l.length) (j:Nat) u,(enc l[i])[j]?=some u->w.cell? ⟨b,off+i*sz+j,none⟩=some u):=by
 obtain⟨ao,n,c,rfl,h1,h2,h3,h4,h5⟩:=h;rw[flat_length hk]at h1;obtain rfl:l.length=n:=Nat.eq_of_mul_eq_mul_right hpos h1;refine⟨ao,c,rfl,h2,by unfold maxLen at h3;omega,fun hl=>?_⟩
 obtain⟨b,off,rfl,hb,hc⟩:=h5 (fun e=>by
  have:=congrArg List.length e;rw[flat_length hk,List.length_nil]at this;have:=Nat.mul_pos hl hpos;omega)
 refine⟨b,off,rfl,hb,fun i hi j u hu=>?_⟩;rw[Nat.add_assoc];refine hc (i*sz+j) u ?_;rw[flat_get hk l i hi j (by rw[<- hk l[i]];exact(List.getElem?_eq_some_iff.1 hu).1)];exact hu
theorem upto_succ {n i:Nat} {p:(j:Nat)->j<n->Prop} (h:∀ j (hj:j<n),j<i->p j hj)(hi:i<n)(hp:p i hi):∀ j (hj:j<n),j<i+1->p j hj :=
 fun j hj hl=>(Nat.lt_succ_iff_lt_or_eq.1 hl).elim (fun e=>h j hj e) (fun e=>by subst e;exact hp)
theorem ba_beq' {a b:ByteArray} (h:a≠b):(a.data.toList == b.data.toList)=false:=by
 rw[beq_eq_false_iff_ne];exact fun e=>h (ByteArray.ext (by rw[<- Array.toList_inj];exact e))
def Gr (w w':World):Prop:=∃ q os,w'=Sort.grow (w.drewN q) os
theorem Gr.refl (w:World):Gr w w:=⟨0,#[],by simp[Sort.grow,World.drewN]⟩
theorem Gr.alloc {w w':World} (h:Gr w w')(o:Obj):Gr w (w'.alloc o):=by
 obtain⟨q,os,rfl⟩:=h;exact⟨q,os++#[o],by rw[Sort.alloc_eq_grow,Sort.grow_grow]⟩
theorem Gr.drew {w w':World} (h:Gr w w'):Gr w w'.drew:=by
 obtain⟨q,os,rfl⟩:=h;exact⟨q+1,os,rfl⟩
theorem Gr.below {w w':World} (h:Gr w w'):Below w.heap.size w w':=by
 obtain⟨q,os,rfl⟩:=h;exact⟨rfl,rfl,rfl,by simp[Sort.grow,World.drewN],fun k hk=>by simp[Sort.grow,World.drewN,Array.getElem?_append,hk]⟩
def ltS (a b:ByteArray):Bool:=Op.bytesLess a.toList b.toList
theorem ltS_iff (a b:ByteArray):ltS a b=decide (a.data.toList<b.data.toList):=by
 unfold ltS;rw[ByteArray.toList_eq,ByteArray.toList_eq];exact bytesLess_eq _ _
theorem ltS_irr (a:ByteArray):ltS a a=false:=by
 rw[ltS_iff];simp[List.lt_irrefl]
theorem ltS_trans {a b c:ByteArray} (h:ltS a b=true)(k:ltS b c=true):ltS a c=true:=by
 rw[ltS_iff]at *;simp only[decide_eq_true_eq]at *;exact List.lt_trans h k
theorem ltS_total {a b:ByteArray} (h:ltS a b=false)(hne:a≠b):ltS b a=true:=by
 rw[ltS_iff]at *;simp only[decide_eq_true_eq,decide_eq_false_iff_not]at *;have h1:b.data.toList<=a.data.toList:=List.not_lt.1 h;rcases List.le_iff_lt_or_eq.1 h1 with h2 | h2
 ·exact h2
 ·exact absurd (ByteArray.ext (by rw[<- Array.toList_inj];exact h2.symm)) hne
def cmpS (a b:ByteArray):Int:=if ltS a b then -1 else if a=b then 0 else 1
theorem cmpS_zero (a b:ByteArray):cmpS a b=0↔a=b:=by
 unfold cmpS;by_cases h:a=b
 ·subst h;simp[ltS_irr]
 ·cases ltS a b <;> simp[h]
theorem cmpS_neg (a b:ByteArray):cmpS a b<0↔ltS a b=true:=by
 unfold cmpS;cases h:ltS a b with
 | true=>simp
 | false=>by_cases e:a=b <;> simp[e]
def orL:List Int->Int
 | []=>0
 | a::l=>if a=0 then orL l else a
theorem orL_drop {l:List Int}:∀ {i:Nat},(∀ j (hj:j<l.length),j<i->l[j]=0)->orL l=orL (l.drop i):=by
 induction l with
 | nil=>intro i _;simp[orL]
 | cons a l ih =>
  intro i h;cases i with
  | zero=>rfl
  | succ i =>
   have h0:=h 0 (by simp) (by omega);simp only[List.getElem_cons_zero]at h0;rw[orL,if_pos h0,List.drop_succ_cons];refine ih fun j hj hji=>?_;have h1:=h (j+1) (by simpa using hj) (by omega);rwa[List.getElem_cons_succ]at h1
def Ext (w W:World):Prop:=Below w.heap.size w W
theorem Ext.refl (w:World):Ext w w:=Below.refl _ _
theorem Ext.trans {a b c:World} (h:Ext a b)(k:Ext b c):Ext a c:=Below.trans h (Below.mono k (Below.size h))
theorem Ext.drew (w:World):Ext w w.drew:=(Below.refl _ _).drew
theorem Ext.alloc (w:World)(o:Obj):Ext w (w.alloc o):=(Below.refl _ _).alloc (Nat.le_refl _) o
theorem Ext.size {w W:World} (h:Ext w W):w.heap.size<=W.heap.size:=Below.size h
theorem Ext.cell {w W:World} (h:Ext w W) {a:Addr} {v:Value} (hc:w.cell? a=some v):W.cell? a=some v:=(Below.cell h (World.block_lt_of_cell? w a hc)).trans hc
section
variable {P : Program} {ops : Array Oper} {Q : Exit -> Act -> World -> Prop}
end
def Own (w:World)(B:Nat)(e:TypeId)(sz:Nat)(v:Value)(xs:List Value):Prop:=∃ n,w.ownsRow B e sz v n xs
section
variable {w w' : World} {B : Nat} {e : TypeId} {sz : Nat} {v : Value} {xs : List Value}
theorem Own.nil (w:World)(B:Nat)(e:TypeId)(sz:Nat):Own w B e sz (.slice none 0 0) []:=⟨0,World.ownsRow_nil w B e sz⟩
theorem Own.sl (h:Own w B e sz v xs):Sl (fun b=>B<=b/\b<w.heap.size) w sz v xs:=by
 obtain⟨n,h⟩:=h;exact ownsRow_sl h _ (fun g hg=>h.lt g hg)
theorem Own.keep (h:Own w B e sz v xs)(hs:∀ b,B<=b->b<w.heap.size->w'.heap[b]?=w.heap[b]?):Own w' B e sz v xs:=by
 obtain⟨n,h⟩:=h;refine⟨n,h.1,?_⟩;rcases h.2 with hn | ⟨g,cap,cur,rfl,hbg,hg,r⟩
 ·exact .inl hn
 ·exact .inr ⟨g,cap,cur,rfl,hbg,(hs g hbg (Array.getElem?_eq_some_iff.1 hg).1).trans hg,r⟩
theorem Own.below (h:Own w B e sz v xs)(hb:Below w.heap.size w w'):Own w' B e sz v xs:=h.keep fun b _ hl=>hb.block b hl
theorem Own.block (h:Own w B e sz v xs):∀ g,v.ownBlock=some g->B<=g/\g<w.heap.size:=by
 obtain⟨n,h⟩:=h;exact fun g hg=>h.lt g hg
end
theorem wpList_own_lit {P:Program} {w:World} {ops:Array Oper} {rest:List Oper} {o:Oper} {a:Act} {Q:Exit->Act->World->Prop} {t e:TypeId} {size bytes:Nat} (E:ElemT P t e size bytes)
  (hg:o.guard=none) (s x:Operand) (hop:o.op=Op.call {callee:=Callee.builtin Builtin.append,args:=#[s,x],argTypes:=#[t,t]})
  {B:Nat} {v:Value} {xs:List Value} (hs:a.eval s=v) (hown:Own w B e size v xs) {cs:Array Value} {m:Nat} (hx:a.eval x = .slice (some ⟨w.heap.size,0,none⟩) m m) (hm:cs.size=m*size) (h1:∀ u∈cs.toList,u.oneCell'=true)
  (hlen:xs.length+cs.size<=9223372036854775807) (hbytes:(xs.length+cs.size)*bytes<=140737488355328) (hB:B<=w.heap.size)
  (K:∀ v' w',Own w' B e size v' (xs++cs.toList)->Below B w w'->w.grownBy w' v.ownBlock->wpList P ops Q rest (a.put o.dst v') w'):wpList P ops Q (o::rest) a (w.alloc (.cells cs e)):=by
 obtain⟨hund,⟨i,z,hi,hz,h4,h5,h6⟩,hpos⟩:=E;obtain⟨n,hown⟩:=hown;have e1:∀ k l:Nat,k<=l*size->l*size<=k->l<=k:=fun k l _ hb=>Nat.le_trans (Nat.le_mul_of_pos_right l hpos) hb;have hnl:n<=xs.length:=e1 _ _ (Nat.le_of_eq hown.1) (Nat.le_of_eq hown.1.symm);have hml:m<=cs.size:=e1 _ _ (Nat.le_of_eq hm) (Nat.le_of_eq hm.symm);have hb47:(n+m)*bytes<=140737488355328:=Nat.le_trans (Nat.mul_le_mul_right _ (by omega)) hbytes;refine wpList_append_own _ hg s x t hop B e i z size bytes hund hi hz h4 h5 h6 hpos v n xs hs (hown.alloc _) ⟨w.heap.size,0,none⟩ m m cs.toList hx (by simpa using hm) (fun j u hu=>?_) h1 (by unfold maxLen;omega) hb47 (by simp;omega) (fun v' w' h h' _=>?_)
 ·rw[Addr.add_lit,cell_of_row _ w.heap.size (0+j) cs e (0,0) (heap_alloc_new w _)];simpa using hu
 ·have hgr:=grownBy_of_alloc h';exact K v' w' ⟨_,h⟩ ((Below.refl B w).grown hgr hB (fun k hk=>(hown.lt k hk).1)) hgr
section
variable {P : Program} {ops : Array Oper} {Q : Exit -> Act -> World -> Prop} {S : World -> Prop}
def WalkN (P:Program)(ops:Array Oper)(Q:Exit->Act->World->Prop)(S:World->Prop):Nat->Array Bool->Act->World->Prop
 | 0,l,a,w=>Region.ready .any ops l=[]/\Q .normal a w
 | f+1,l,a,w=>(Region.ready .any ops l=[]/\Q .normal a w) \/
   (∃ i o v,ops[i]?=some o/\Region.free .any ops l i=true/\(Region.ready .any ops l).contains i=true/\YieldsIf P ops S o v a/\WalkN P ops Q S f (l.setIfInBounds i true) (a.put o.dst v) w) \/
   (Region.ready .any ops l≠[]/\∀ i∈Region.ready .any ops l,∃ o,ops[i]?=some o/\∀ K':Act->World->Prop,Shut (∀ a' w',S w'->WalkN P ops Q S f (l.setIfInBounds i true) a' w'->K' a' w') ->
    if Region.wanted o (yielded ops a.tmps)=true then Oper.wp P o a w K' Q else K' (a.put o.dst undef) w)
theorem walkN_sound (hns:Region.noSelect ops=true)(hQ:∀ c a d v w,Q (.panic c) (Act.put a d v) w->Q (.panic c) a w) :
  ∀ (f:Nat) (l:Array Bool) (a:Act) (w:World),S w->WalkN P ops Q S f l a w->wpAnyH P .any ops Q S f l a w
 | 0,l,a,w,_,h=>wpAnyH_done h.1 h.2 0
 | f+1,l,a,w,hs,h=>by
  rcases h with⟨h1,h2⟩ | ⟨i,o,v,ho,hf,hr,hy,h⟩ | ⟨hne,h⟩
  ·exact wpAnyH_done h1 h2 _
  ·exact wpAnyH_take ho hns hf hr (fun c a w=>hQ c a _ _ w) hy hs (walkN_sound hns hQ f _ _ w hs h)
  ·refine wpAnyH_all rfl hne (fun i hi=>?_);obtain⟨o,ho,hst⟩:=h i hi;exact wpOp_step ho (fun K' hK=>hst K' (fun a' w' he hw=>hK a' w' ⟨he,walkN_sound hns hQ f _ a' w' he hw⟩))
theorem region_walkN {id:Nat} {a:Act} {w:World} (S:World->Prop)(hS:S w.drew)(hm:P.follows .mixedOrders=true)(hns:Region.noSelect ops=true)(hQ:∀ c a d v w,Q (.panic c) (Act.put a d v) w->Q (.panic c) a w)
  (h:WalkN P ops Q S ops.size (Array.replicate ops.size false) a w.drew):(Code.region id ops true).wp P Q a w :=
 wp_region_held (S:=S) hm (walkN_sound hns hQ _ _ a w.drew hS h)
theorem WalkN.done {f:Nat} {l:Array Bool} {a:Act} {w:World} (hr:Region.ready .any ops l=[])(h:Q .normal a w):WalkN P ops Q S f l a w:=by
 cases f
 ·exact⟨hr,h⟩
 ·exact .inl ⟨hr,h⟩
theorem WalkN.take {f:Nat} {l:Array Bool} {a:Act} {w:World} (i:Nat)(o:Oper)(v:Value)(ho:ops[i]?=some o)(hf:Region.free .any ops l i=true)(hr:(Region.ready .any ops l).contains i=true)
  (hw:Region.wanted o (yielded ops a.tmps)=true) (hy:∀ W,S W->(execOp a.eval o).run P W = .ok (.value v) W) (h:WalkN P ops Q S f (l.setIfInBounds i true) (a.put o.dst v) w):WalkN P ops Q S (f+1) l a w :=
 .inr (.inl ⟨i,o,v,ho,hf,hr,.inl ⟨hw,hy⟩,h⟩)
def TkN (P:Program)(ops:Array Oper)(Q:Exit->Act->World->Prop)(S:World->Prop):List Nat->Nat->Array Bool->Act->World->Prop
 | [],f,l,a,w=>WalkN P ops Q S f l a w
 | i::is,f,l,a,w=>∃ g,f=g+1/\∃ o v,ops[i]?=some o/\Region.free .any ops l i=true/\(Region.ready .any ops l).contains i=true/\Region.wanted o (yielded ops a.tmps)=true/\(∀ W,S W->(execOp a.eval o).run P W = .ok (.value v) W)/\TkN P ops Q S is g (l.setIfInBounds i true) (a.put o.dst v) w
theorem WalkN.tk (is:List Nat):∀ {f:Nat} {l:Array Bool} {a:Act} {w:World},TkN P ops Q S is f l a w->WalkN P ops Q S f l a w:=by
 induction is with
 | nil=>exact fun h=>h
 | cons i is ih =>
  rintro f l a w ⟨g,rfl,o,v,ho,hf,hr,hw,hy,h⟩;exact WalkN.take i o v ho hf hr hw hy (ih h)
theorem TkN.c {f:Nat} {l:Array Bool} {a:Act} {w:World} {i:Nat} {is:List Nat} (o:Oper)(v:Value)(ho:ops[i]?=some o)(hf:Region.free .any ops l i=true)(hr:(Region.ready .any ops l).contains i=true)
  (hw:Region.wanted o (yielded ops a.tmps)=true) (hy:∀ W,S W->(execOp a.eval o).run P W = .ok (.value v) W) (h:TkN P ops Q S is f (l.setIfInBounds i true) (a.put o.dst v) w):TkN P ops Q S (i::is) (f+1) l a w :=
 ⟨f,rfl,o,v,ho,hf,hr,hw,hy,h⟩
theorem TkN.n {f:Nat} {l:Array Bool} {a:Act} {w:World} (h:WalkN P ops Q S f l a w):TkN P ops Q S [] f l a w:=h
def MadeN (P:Program)(ops:Array Oper)(Q:Exit->Act->World->Prop)(S:World->Prop)(f:Nat)(l:Array Bool)(a:Act)(w:World)(i:Nat):Prop :=
 ∃ o,ops[i]?=some o/\Region.wanted o (yielded ops a.tmps)=true/\∀ K':Act->World->Prop,Shut (∀ a' w',S w'->WalkN P ops Q S f (l.setIfInBounds i true) a' w'->K' a' w')->Oper.wp P o a w K' Q
theorem WalkN.one {f:Nat} {l:Array Bool} {a:Act} {w:World} (i:Nat)(hr:Region.ready .any ops l=[i])(h:MadeN P ops Q S f l a w i):WalkN P ops Q S (f+1) l a w:=by
 refine .inr (.inr ⟨by rw[hr];simp,fun j hj=>?_⟩);rw[hr]at hj;obtain rfl:j=i:=by simpa using hj
 obtain⟨o,ho,hw,h⟩:=h;exact⟨o,ho,fun K hK=>by rw[if_pos hw];exact h K hK⟩
theorem WalkN.two {f:Nat} {l:Array Bool} {a:Act} {w:World} (i j:Nat)(hr:Region.ready .any ops l=[i,j])(h:MadeN P ops Q S f l a w i)(h':MadeN P ops Q S f l a w j):WalkN P ops Q S (f+1) l a w:=by
 refine .inr (.inr ⟨by rw[hr];simp,fun k hk=>?_⟩);rw[hr]at hk;have:k=i\/k=j:=by simpa using hk
 rcases this with rfl | rfl
 ·obtain⟨o,ho,hw,h⟩:=h;exact⟨o,ho,fun K hK=>by rw[if_pos hw];exact h K hK⟩
 ·obtain⟨o,ho,hw,h⟩:=h';exact⟨o,ho,fun K hK=>by rw[if_pos hw];exact h K hK⟩
end
theorem wp_own {P:Program} {w:World} {o:Oper} {a:Act} {K:Act->World->Prop} {Q:Exit->Act->World->Prop} {t e:TypeId} {size bytes:Nat} (E:ElemT P t e size bytes)
  (s x:Operand) (hop:o.op=Op.call {callee:=Callee.builtin Builtin.append,args:=#[s,x],argTypes:=#[t,t]})
  {B:Nat} {v:Value} {xs:List Value} (hs:a.eval s=v) (hown:Own w B e size v xs) {T:Nat->Prop} {y:Value} {news:List Value} (hx:a.eval x=y) (hy:Sl T w size y news) (h1:∀ u∈news,u.oneCell'=true)
  (hlen:xs.length+news.length<=9223372036854775807) (hbytes:(xs.length+news.length)*bytes<=140737488355328) (hB:B<=w.heap.size)
  (h:∀ v' w',Own w' B e size v' (xs++news)->Below B w w'->w.grownBy w' v.ownBlock->K (a.put o.dst v') w'):o.wp P a w K Q:=by
 obtain⟨hund,⟨i,z,hi,hz,h4,h5,h6⟩,hpos⟩:=E;obtain⟨n,hown⟩:=hown;obtain⟨yo,m,c,rfl,hym,hmc,hcm,hyn,hyc⟩:=hy;have e1:∀ k l:Nat,k<=l*size->l*size<=k->l<=k:=fun k l _ hb=>Nat.le_trans (Nat.le_mul_of_pos_right l hpos) hb;have hnl:n<=xs.length:=e1 _ _ (Nat.le_of_eq hown.1) (Nat.le_of_eq hown.1.symm);have hml:m<=news.length:=e1 _ _ (Nat.le_of_eq hym) (Nat.le_of_eq hym.symm);have hb47:(n+m)*bytes<=140737488355328:=Nat.le_trans (Nat.mul_le_mul_right _ (by omega)) hbytes
 have fin:∀ v' w',w'.ownsRow B e size v' (n+m) (xs++news)->w.grownBy w' v.ownBlock->K (a.put o.dst v') w' :=
  fun v' w' h0 h'=>h v' w' ⟨_,h0⟩ ((Below.refl B w).grown h' hB (fun k hk=>(hown.lt k hk).1)) h'
 cases yo with
 | some ad =>
  refine wp_append_own w s x t hop B e i z size bytes hund hi hz h4 h5 h6 hpos v n xs hs hown ad m c news hx hym (fun j u hu=>?_) h1 (by unfold maxLen;omega) hb47 hB (fun v' w' h h' _=>fin v' w' h h');obtain⟨b,off,hbo,_,hcc⟩:=hyc (fun e=>by subst e;simp at hu);cases hbo;rw[Addr.add_lit];exact hcc j u hu
 | none =>
  have hc0:=hyn rfl;obtain rfl:m=0:=by omega
  obtain rfl:c=0:=hc0;obtain rfl:news=[]:=List.eq_nil_of_length_eq_zero (by simpa using hym);have hrun:=run_append_owned_none (P:=P) w B t o.type e i size hund hi v n xs hown;have:=fin v w (by simpa using hown) ⟨rfl,rfl,rfl,Nat.le_refl _,fun _ _ _=>rfl⟩;unfold Oper.wp;simp[execOp,hop,resolve,invoke,builtin,hs,hx,hrun,Result.andThen];exact this
theorem Own.made (w:World) {B:Nat} (hB:B<=w.heap.size)(e:TypeId)(sz:Nat):Own (w.alloc (.cells #[] e)) B e sz (.slice (some ⟨w.heap.size,0,none⟩) 0 0) [] :=
 ⟨0,by simp,.inr ⟨w.heap.size,0,#[],rfl,hB,heap_alloc_new w _,Nat.le_refl _,by unfold maxLen;omega,by simp,by simp⟩⟩
theorem k! {P : Program} {ops : Array Oper} {Q : Exit -> Act -> World -> Prop} {S : World -> Prop} {f : Nat} {l : Array Bool} {a : Act} {w : World} (i : Nat) {o : Oper} {G : Prop} (h : G) (ho : ops[i]? = some o := by simp only[gA,gS,gZ];rfl) (hf : Region.free .any ops l i = true := by kernel_rfl) (hr : (Region.ready .any ops l).contains i = true := by kernel_rfl) (hw : Region.wanted o (yielded ops a.tmps) = false := by rfl) (hG : WalkN P ops Q S f (l.setIfInBounds i true) (a.put o.dst undef) w = G := by simp only[Act.put,pA,pZ,pS];rfl) : WalkN P ops Q S (f + 1) l a w := .inr (.inl ⟨i, o, undef, ho, hf, hr, .inr ⟨hw, rfl⟩, Eq.mpr hG h⟩)
theorem c! {P : Program} {ops : Array Oper} {Q : Exit -> Act -> World -> Prop} {S : World -> Prop} {f : Nat} {l : Array Bool} {a : Act} {w : World} {i : Nat} {is : List Nat} {o : Oper} {v : Value} {G : Prop} (h : G) (ho : ops[i]? = some o := by simp only[gA,gS,gZ];rfl) (hf : Region.free .any ops l i = true := by kernel_rfl) (hr : (Region.ready .any ops l).contains i = true := by kernel_rfl) (hw : Region.wanted o (yielded ops a.tmps) = true := by rfl) (hy : ∀ W,S W->(execOp a.eval o).run P W=.ok (.value v) W := by intro W hW;go_simp;try with_reducible rfl) (hG : TkN P ops Q S is f (l.setIfInBounds i true) (a.put o.dst v) w = G := by simp only[Act.put,pA,pZ,pS];rfl) : TkN P ops Q S (i :: is) (f + 1) l a w := ⟨f, rfl, o, v, ho, hf, hr, hw, hy, Eq.mpr hG h⟩
theorem t! {P : Program} {ops : Array Oper} {Q : Exit -> Act -> World -> Prop} {S : World -> Prop} {f : Nat} {l : Array Bool} {a : Act} {w : World} (i : Nat) {o : Oper} {v : Value} {G : Prop} (h : G) (ho : ops[i]? = some o := by simp only[gA,gS,gZ];rfl) (hf : Region.free .any ops l i = true := by kernel_rfl) (hr : (Region.ready .any ops l).contains i = true := by kernel_rfl) (hw : Region.wanted o (yielded ops a.tmps) = true := by rfl) (hy : ∀ W,S W->(execOp a.eval o).run P W=.ok (.value v) W := by intro W hW;go_simp;try with_reducible rfl) (hG : WalkN P ops Q S f (l.setIfInBounds i true) (a.put o.dst v) w = G := by simp only[Act.put,pA,pZ,pS];rfl) : WalkN P ops Q S (f + 1) l a w := .inr (.inl ⟨i, o, v, ho, hf, hr, .inl ⟨hw, hy⟩, Eq.mpr hG h⟩)
theorem b! {ops : Array Oper} {i : Nat} {o : Oper} {A B : Oper -> Prop} (h : B o) (ho : ops[i]? = some o := by simp only[gA,gS,gZ];rfl) (hw : A o := by rfl) : ∃ o, ops[i]? = some o /\ A o /\ B o := ⟨o, ho, hw, h⟩
theorem o! {P : Program} {ops : Array Oper} {Q : Exit -> Act -> World -> Prop} {S : World -> Prop} {f : Nat} {l : Array Bool} {a : Act} {w : World} (i : Nat) (h : MadeN P ops Q S f l a w i) (hr : Region.ready .any ops l = [i] := by kernel_rfl) : WalkN P ops Q S (f + 1) l a w := WalkN.one i hr h
theorem p! {P : Program} {ops : Array Oper} {Q : Exit -> Act -> World -> Prop} {S : World -> Prop} {f : Nat} {l : Array Bool} {a : Act} {w : World} (i j : Nat) (h : MadeN P ops Q S f l a w i) (h' : MadeN P ops Q S f l a w j) (hr : Region.ready .any ops l = [i, j] := by kernel_rfl) : WalkN P ops Q S (f + 1) l a w := WalkN.two i j hr h h'
theorem d! {P : Program} {ops : Array Oper} {Q : Exit -> Act -> World -> Prop} {S : World -> Prop} {f : Nat} {l : Array Bool} {a : Act} {w : World} (h : Q .normal a w) (hr : Region.ready .any ops l = [] := by kernel_rfl) : WalkN P ops Q S f l a w := WalkN.done hr h
theorem r! {P : Program} {ops : Array Oper} {Q : Exit -> Act -> World -> Prop} {id : Nat} {a : Act} {w : World} (S : World -> Prop) (hS : S w.drew) (h : WalkN P ops Q S ops.size (Array.replicate ops.size false) a w.drew) (hm : P.follows .mixedOrders = true := by kernel_rfl) (hns : Region.noSelect ops = true := by kernel_rfl) (hQ : ∀ c a d v w, Q (.panic c) (Act.put a d v) w -> Q (.panic c) a w := by intro _ _ d _ _ h;cases d <;> exact h) : (Code.region id ops true).wp P Q a w := region_walkN S hS hm hns hQ h
theorem Own.shape {w:World} {B:Nat} {e:TypeId} {sz:Nat} {v:Value} {xs:List Value} (h:Own w B e sz v xs):(v = .slice none 0 0/\xs=[])\/∃ g n c,v = .slice (some ⟨g,0,none⟩) n c:=by
 obtain⟨n,h1,h2⟩:=h;rcases h2 with⟨rfl,h2⟩ | ⟨g,cap,cur,hv,_⟩
 ·left
  refine⟨rfl,List.eq_nil_of_length_eq_zero ?_⟩;rw[h1,h2,Nat.zero_mul]
 ·exact .inr ⟨g,n,cap,hv⟩
theorem Own.slU {w:World} {B:Nat} {e:TypeId} {sz:Nat} {v:Value} {xs:List Value} (h:Own w B e sz v xs):Sl (· < w.heap.size) w sz v xs:=h.sl.mono fun _ h=>h.2
theorem wpList_own {P:Program} {w:World} {ops:Array Oper} {rest:List Oper} {o:Oper} {a:Act} {Q:Exit->Act->World->Prop} {t e:TypeId} {size bytes:Nat} (E:ElemT P t e size bytes)
  (hg:o.guard=none) (s x:Operand) (hop:o.op=Op.call {callee:=Callee.builtin Builtin.append,args:=#[s,x],argTypes:=#[t,t]})
  {B:Nat} {v:Value} {xs:List Value} (hs:a.eval s=v) (hown:Own w B e size v xs) {T:Nat->Prop} {y:Value} {news:List Value} (hx:a.eval x=y) (hy:Sl T w size y news) (h1:∀ u∈news,u.oneCell'=true)
  (hlen:xs.length+news.length<=9223372036854775807) (hbytes:(xs.length+news.length)*bytes<=140737488355328) (hB:B<=w.heap.size)
  (K:∀ v' w',Own w' B e size v' (xs++news)->Below B w w'->w.grownBy w' v.ownBlock->wpList P ops Q rest (a.put o.dst v') w'):wpList P ops Q (o::rest) a w :=
 wpList_plain hg fun _ hK'=>wp_own E s x hop hs hown hx hy h1 hlen hbytes hB fun v' w' h h' h''=>hK' _ _ (K v' w' h h' h'')
end Go.Proofs.YtlhaghoajpglaaaGreat
namespace Go.Proofs.YtlhaghoajpglaaaGreat
open Go Go.RowKit
open Go.Maps (Keyed)
open Go.ChangeMaps (setBlock modify_eq_set)
open Go.MapKept (Stamped stamped_push stamped_modify stamped_erase)
section plain
variable {κ α : Type} [DecidableEq κ]
def lookA:List (κ × α)->κ->Option α
 | [],_=>none
 | p::r,a=>if p.1=a then some p.2 else lookA r a
def putA:List (κ × α)->κ->α->List (κ × α)
 | [],a,x => [(a,x)]
 | p::r,a,x=>if p.1=a then(a,x)::r else p::putA r a x
def delA:List (κ × α)->κ->List (κ × α)
 | [],_ => []
 | p::r,a=>if p.1=a then r else p::delA r a
theorem look_miss {a:κ}:∀ {l:List (κ × α)},(∀ p∈l,p.1≠a)->lookA l a=none
 | [],_=>rfl
 | p::r,h=>by rw[lookA,if_neg (h p (by simp)),look_miss fun q hq=>h q (by simp[hq])]
theorem put_miss {a:κ} {x:α}:∀ {l:List (κ × α)},(∀ p∈l,p.1≠a)->putA l a x=l++[(a,x)]
 | [],_=>rfl
 | p::r,h=>by rw[putA,if_neg (h p (by simp)),put_miss fun q hq=>h q (by simp[hq])];rfl
theorem pairs_hit {a:κ} {x:α}:∀ {l:List (κ × α)} {j:Nat} {p:κ × α},(l.map (·.1)).Nodup->l[j]?=some p->p.1=a->lookA l a=some p.2/\putA l a x=l.set j (a,x)/\delA l a=l.eraseIdx j
 | [],j,p,_,h,_=>by simp at h
 | q::r,0,p,_,h,hp=>by
  obtain rfl:q=p:=by simpa using h
  simp[lookA,putA,delA,hp]
 | q::r,j+1,p,hn,h,hp=>by
  have h':r[j]?=some p:=by simpa using h
  simp only[List.map_cons,List.nodup_cons]at hn;have hne:q.1≠a:=fun e=>hn.1 (by rw[e,<- hp];exact List.mem_map.2 ⟨p,List.mem_of_getElem? h',rfl⟩);obtain⟨h1,h2,h3⟩:=pairs_hit (x:=x) hn.2 h' hp;simp[lookA,putA,delA,hne,h1,h2,h3]
theorem look_mem {a:κ} {x:α}:∀ {l:List (κ × α)},lookA l a=some x->(a,x)∈l
 | [],h=>by simp[lookA]at h
 | p::r,h=>by
  rw[lookA]at h;split at h
  ·rename_i e
   obtain rfl:p.2=x:=by simpa using h
   subst e;simp
  ·exact List.mem_cons_of_mem _ (look_mem h)
theorem look_none_iff {a:κ}:∀ {l:List (κ × α)},lookA l a=none↔∀ p∈l,p.1≠a
 | []=>by simp[lookA]
 | p::r=>by
  rw[lookA];by_cases e:p.1=a
  ·simp[e]
  ·simp[e,look_none_iff (l:=r)]
end plain
def Turned (w w':World)(b:Nat):Prop:=∃ o,w'=setBlock w b o
theorem setBlock_block (w:World)(b c:Nat)(o:Obj)(h:c≠b):(setBlock w b o).heap[c]?=w.heap[c]?:=by
 simp[setBlock,Ne.symm h]
theorem setBlock_size (w:World)(b:Nat)(o:Obj):(setBlock w b o).heap.size=w.heap.size:=by simp[setBlock]
theorem setBlock_at {w:World} {b:Nat} {o o':Obj} (h:w.heap[b]?=some o'):(setBlock w b o).heap[b]?=some o:=by
 have:=(Array.getElem?_eq_some_iff.1 h).1;simp[setBlock,this]
theorem Turned.size {w w':World} {b:Nat} (h:Turned w w' b):w'.heap.size=w.heap.size:=by
 obtain⟨o,rfl⟩:=h;exact setBlock_size w b o
theorem Turned.kept {w w':World} {b:Nat} (h:Turned w w' b):Kept (· ≠ b) w w':=by
 obtain⟨o,rfl⟩:=h;exact⟨rfl,rfl,rfl,Nat.le_of_eq (setBlock_size w b o).symm,fun c hc=>setBlock_block w b c o hc⟩
theorem Turned.below {w w':World} {b B:Nat} (h:Turned w w' b)(hb:B<=b):Below B w w':=h.kept.below fun _ hx=>by omega
section
variable {P : Program} {k t e : TypeId} {κ α : Type} {kv : κ -> Value} {ev : α -> Value} {w : World} {b : Nat} {l : List (κ × α)}
def Mp (P:Program)(k:TypeId)(kv:κ->Value)(ev:α->Value)(w:World)(b:Nat)(l:List (κ × α)):Prop :=
 ∃ es clock,w.heap[b]?=some (.map es clock)/\Stamped es clock/\es.toList.map (fun x=>(x.key,x.val))=l.map (fun p=>(kv p.1,ev p.2))/\∀ p∈l,∃ q,keyOf P k (kv p.1)=some q
theorem Mp.made (w:World):Mp P k kv ev (w.alloc (.map #[] 0)) w.heap.size ([]:List (κ × α)) :=
 ⟨#[],0,heap_alloc_new w _,⟨by simp,by simp,by simp⟩,rfl,by simp⟩
theorem Mp.lt (h:Mp P k kv ev w b l):b<w.heap.size:=by
 obtain⟨es,clock,hb,_⟩:=h;exact(Array.getElem?_eq_some_iff.1 hb).1
theorem Mp.same {w':World} (h:Mp P k kv ev w b l)(hb:w'.heap[b]?=w.heap[b]?):Mp P k kv ev w' b l:=by
 obtain⟨es,clock,h1,h2⟩:=h;exact⟨es,clock,hb.trans h1,h2⟩
theorem Mp.below {w':World} (h:Mp P k kv ev w b l)(hb:Below w.heap.size w w'):Mp P k kv ev w' b l:=h.same (hb.block b h.lt)
theorem Mp.kept {w':World} {K:Nat->Prop} (h:Mp P k kv ev w b l)(hb:Kept K w w')(hk:K b):Mp P k kv ev w' b l:=h.same (hb.block b hk)
theorem pairs_keys {es:Array MapEntry} (hm:es.toList.map (fun x=>(x.key,x.val))=l.map (fun p=>(kv p.1,ev p.2))):es.toList.map (·.key)=l.map fun p=>kv p.1:=by
 have:=congrArg (List.map Prod.fst) hm;simpa [List.map_map,Function.comp_def] using this
theorem Mp.nodup (h:Mp P k kv ev w b l):(l.map (·.1)).Nodup:=by
 obtain⟨es,clock,_,hs,hm,_⟩:=h;have h3:=hs.2.2;rw[pairs_keys hm]at h3;have:(l.map fun p=>kv p.1)=(l.map (·.1)).map kv:=by rw[List.map_map];rfl
 rw[this]at h3;exact List.Pairwise.of_map kv (fun a b hne e=>hne (congrArg kv e)) h3
theorem pairs_at {es:Array MapEntry} (hm:es.toList.map (fun x=>(x.key,x.val))=l.map (fun p=>(kv p.1,ev p.2))) {j:Nat} {x:MapEntry} (hx:es.toList[j]?=some x):∃ p,l[j]?=some p/\x.key=kv p.1/\x.val=ev p.2:=by
 have:=congrArg (fun z=>z[j]?) hm;simp only[List.getElem?_map,hx,Option.map_some]at this;cases hl:l[j]? with
 | none=>rw[hl]at this;simp at this
 | some p=>rw[hl]at this;simp at this;exact⟨p,rfl,this.1,this.2⟩
theorem pairs_no {es:Array MapEntry} (hm:es.toList.map (fun x=>(x.key,x.val))=l.map (fun p=>(kv p.1,ev p.2))) {a:κ} (h:∀ x∈es.toList,x.key≠kv a):∀ p∈l,p.1≠a:=by
 intro p hp e;have:kv p.1∈es.toList.map (·.key):=by rw[pairs_keys hm];exact List.mem_map.2 ⟨p,hp,rfl⟩
 obtain⟨x,hx,hxe⟩:=List.mem_map.1 this;exact h x hx (by rw[hxe,e])
theorem pairs_ok {es:Array MapEntry} (hm:es.toList.map (fun x=>(x.key,x.val))=l.map (fun p=>(kv p.1,ev p.2)))(hk:∀ p∈l,∃ q,keyOf P k (kv p.1)=some q):∀ x∈es.toList,∃ q,keyOf P k x.key=some q:=by
 intro x hx;have:x.key∈es.toList.map (·.key):=List.mem_map.2 ⟨x,hx,rfl⟩;rw[pairs_keys hm]at this;obtain⟨p,hp,he⟩:=List.mem_map.1 this;rw[<- he];exact hk p hp
def lookV (c:Bool)(z:Value)(ev:α->Value):Option α->Value
 | some x=>if c then .tuple #[ev x,.bool true]else ev x
 | none=>if c then .tuple #[z,.bool false]else z
theorem Mp.look [DecidableEq κ] (h:Mp P k kv ev w b l)(K:Keyed P k)(inj:∀ a b,kv a=kv b->a=b)(ht:P.underlying t=some (.map k e)) {z:Value} (hz:(zeroValue e).run P w = .ok z w)(c:Bool) {a:κ} (hk:∃ q,keyOf P k (kv a)=some q) :
  (Instr.lookup t (.map (some b)) (kv a) c).run P w = .ok (lookV c z ev (lookA l a)) w:=by
 have hn:=h.nodup;obtain⟨es,clock,hb,hs,hm,hok⟩:=h;obtain⟨q,hq⟩:=hk;rcases K.find w hq es.toList (pairs_ok hm hok)with⟨h1,h2⟩ | ⟨j,e0,h1,h2,h3⟩
 ·rw[look_miss (pairs_no hm h2)];simp[Instr.lookup,run_underlying ht,MapKept.run_getObj_map hb,K.check w _ hq,h1,hz,Result.andThen,lookV]
 ·obtain⟨p,hp,e1,e2⟩:=pairs_at hm h2;have hpa:p.1=a:=inj _ _ (e1.symm.trans h3);rw[(pairs_hit (x:=p.2) hn hp hpa).1];simp[Instr.lookup,run_underlying ht,MapKept.run_getObj_map hb,K.check w _ hq,h1,Result.andThen,lookV,e2]
theorem Mp.store [DecidableEq κ] (h:Mp P k kv ev w b l)(K:Keyed P k)(inj:∀ a b,kv a=kv b->a=b)(ht:P.underlying t=some (.map k e)) {a:κ} (hk:∃ q,keyOf P k (kv a)=some q)(x:α) :
  ∃ w',(Instr.mapUpdate t (.map (some b)) (kv a) (ev x)).run P w = .ok () w'/\Mp P k kv ev w' b (putA l a x)/\Turned w w' b:=by
 have hn:=h.nodup;obtain⟨es,clock,hb,hs,hm,hok⟩:=h;have hk':=hk;obtain⟨q,hq⟩:=hk;rcases K.find w hq es.toList (pairs_ok hm hok)with⟨h1,h2⟩ | ⟨j,e0,h1,h2,h3⟩
 ·refine⟨setBlock w b (.map (es.push ⟨kv a,ev x,clock⟩) (clock+1)),?_,⟨_,_,setBlock_at hb,stamped_push hs h2,?_,?_⟩,_,rfl⟩
  ·simp[Instr.mapUpdate,run_underlying ht,MapKept.run_getObj_map hb,K.check w false hq,h1,MapKept.run_setObj_map _ hb,Result.andThen,setBlock]
  ·rw[put_miss (pairs_no hm h2),Array.toList_push,List.map_append,List.map_append,hm];rfl
  ·rw[put_miss (pairs_no hm h2)];intro p hp;rcases List.mem_append.1 hp with hp | hp
   ·exact hok p hp
   ·obtain rfl:p=(a,x):=by simpa using hp
    exact hk'
 ·obtain⟨p,hp,e1,e2⟩:=pairs_at hm h2;have hpa:p.1=a:=inj _ _ (e1.symm.trans h3);have hj:es[j]?=some e0:=by simpa using h2
  have hlist:(es.modify j (fun e' => {e' with key:=kv a,val:=ev x})).toList=es.toList.set j {e0 with key:=kv a,val:=ev x}:=by rw[Array.toList_modify,modify_eq_set _ _ _ _ h2]
  refine⟨setBlock w b (.map (es.modify j (fun e' => {e' with key:=kv a,val:=ev x})) clock),?_,⟨_,_,setBlock_at hb,stamped_modify hs _ _ (fun _ _=>rfl) (fun e' _ he'=>?_),?_,?_⟩,_,rfl⟩
  ·simp[Instr.mapUpdate,run_underlying ht,MapKept.run_getObj_map hb,K.check w false hq,h1,hj,h3,K.stays w hq,MapKept.run_setObj_map _ hb,Result.andThen,setBlock]
  ·rw[hj]at he';cases he';exact h3.symm
  ·rw[(pairs_hit (x:=x) hn hp hpa).2.1,hlist,List.map_set,List.map_set,hm]
  ·rw[(pairs_hit (x:=x) hn hp hpa).2.1];intro y hy;rcases List.mem_or_eq_of_mem_set hy with hy | rfl
   ·exact hok y hy
   ·exact hk'
theorem Mp.len (h:Mp P k kv ev w b l)(ht:P.underlying t=some (.map k e))(ty:TypeId):(Builtin.len_ #[t] ty #[.map (some b)]).run P w = .ok (.int .i64 l.length) w:=by
 obtain⟨es,clock,hb,hs,hm,hok⟩:=h;have:es.size=l.length:=by have:=congrArg List.length hm;simpa using this
 simp[Builtin.len_,run_underlying ht,MapKept.run_getObj_map hb,this,goInt]
def Rng (P:Program)(k:TypeId)(kv:κ->Value)(ev:α->Value)(w:World)(b r:Nat)(l rem:List (κ × α)):Prop :=
 ∃ es clock since seen c0,w.heap[b]?=some (.map es clock)/\Stamped es clock/\es.toList.map (fun x=>(x.key,x.val))=l.map (fun p=>(kv p.1,ev p.2))/\(∀ p∈l,∃ q,keyOf P k (kv p.1)=some q) /\
  w.heap[r]?=some (.mapIter (some b) since seen c0)/\(∀ x∈es.toList,x.born<since)/\since<=c0/\since<=clock/\(leftOf es seen).toList.map (fun x=>(x.key,x.val))=rem.map (fun p=>(kv p.1,ev p.2))
theorem Rng.mp {r:Nat} {rem:List (κ × α)} (h:Rng P k kv ev w b r l rem):Mp P k kv ev w b l:=by
 obtain⟨es,clock,since,seen,c0,hb,hs,hm,hok,_⟩:=h;exact⟨es,clock,hb,hs,hm,hok⟩
theorem Rng.lt {r:Nat} {rem:List (κ × α)} (h:Rng P k kv ev w b r l rem):r<w.heap.size:=by
 obtain⟨es,clock,since,seen,c0,_,_,_,_,hr,_⟩:=h;exact(Array.getElem?_eq_some_iff.1 hr).1
theorem Rng.ne {r:Nat} {rem:List (κ × α)} (h:Rng P k kv ev w b r l rem):r≠b:=by
 obtain⟨es,clock,since,seen,c0,hb,_,_,_,hr,_⟩:=h;intro e;rw[e,hb]at hr;cases hr
theorem Rng.same {r:Nat} {rem:List (κ × α)} {w':World} (h:Rng P k kv ev w b r l rem)(h1:w'.heap[b]?=w.heap[b]?)(h2:w'.heap[r]?=w.heap[r]?):Rng P k kv ev w' b r l rem:=by
 obtain⟨es,clock,since,seen,c0,hb,hs,hm,hok,hr,rest⟩:=h;exact⟨es,clock,since,seen,c0,h1.trans hb,hs,hm,hok,h2.trans hr,rest⟩
theorem Rng.below {r:Nat} {rem:List (κ × α)} {w':World} (h:Rng P k kv ev w b r l rem)(hb:Below w.heap.size w w'):Rng P k kv ev w' b r l rem:=h.same (hb.block b h.mp.lt) (hb.block r h.lt)
theorem Rng.left_eq {r:Nat} {rem:List (κ × α)} (h:Rng P k kv ev w b r l rem):w.rangeLeft b r=rem.length:=by
 obtain⟨es,clock,since,seen,c0,hb,_,_,_,hr,_,_,_,hc⟩:=h;simp only[World.rangeLeft,hb,hr];have:=congrArg List.length hc;simpa using this
theorem Mp.range (h:Mp P k kv ev w b l)(ht:P.underlying t=some (.map k e)) :
  ∃ w',(Instr.range t (.map (some b))).run P w = .ok (.pointer (some ⟨w.heap.size,0,none⟩)) w'/\Rng P k kv ev w' b w.heap.size l l/\Below w.heap.size w w'/\w'.heap.size=w.heap.size+1:=by
 have hlt:=h.lt;obtain⟨es,clock,hb,hs,hm,hok⟩:=h;refine⟨_,run_range_map w t k e b es clock ht hb,⟨es,clock,clock,#[],clock,((MapKept.heap_alloc w _).2 b hlt).trans hb,hs,hm,hok,(MapKept.heap_alloc w _).1,hs.1,Nat.le_refl _,Nat.le_refl _,?_⟩,(Below.refl _ _).alloc (Nat.le_refl _) _,by simp⟩;rw[<- hm];simp only[leftOf,Array.toList_filter];rw[List.filter_eq_self.2 (fun _ _=>by simp)]
theorem filter_out {L:List MapEntry} {seen:Array Nat} (hn:(L.map (·.born)).Nodup) {x:MapEntry} {A B:List MapEntry} (h:L.filter (fun y=>!seen.contains y.born)=A++x::B) :
  L.filter (fun y=>!(seen.push x.born).contains y.born)=A++B:=by
 have e1:L.filter (fun y=>!(seen.push x.born).contains y.born)=(L.filter (fun y=>!seen.contains y.born)).filter fun y=>!(y.born == x.born):=by
  rw[List.filter_filter];apply List.filter_congr;intro y _;simp only[Array.contains_push,Bool.not_or];rw[Bool.and_comm]
 have hn2:((A++x::B).map (·.born)).Nodup:=by rw[<- h];exact hn.sublist (List.Sublist.map _ List.filter_sublist)
 rw[e1,h,List.filter_append,List.filter_cons];simp only[beq_self_eq_true,Bool.not_true,Bool.false_eq_true,if_false];rw[List.map_append,List.map_cons,List.nodup_append]at hn2;obtain⟨_,hB,hd⟩:=hn2;rw[List.filter_eq_self.2,List.filter_eq_self.2]
 ·intro y hy;have:=(List.nodup_cons.1 hB).1;simp only[Bool.not_eq_true',beq_eq_false_iff_ne];exact fun e=>this (e▸List.mem_map.2 ⟨y,hy,rfl⟩)
 ·intro y hy;simp only[Bool.not_eq_true',beq_eq_false_iff_ne];exact hd _ (List.mem_map.2 ⟨y,hy,rfl⟩) _ (by simp)
theorem Rng.next {r:Nat} {rem:List (κ × α)} (h:Rng P k kv ev w b r l rem)(ty:TypeId) :
  (rem=[]/\(Instr.next (.pointer (some ⟨r,0,none⟩)) false ty).run P w = .ok (.tuple #[.bool false]) w) \/
  ∃ pre p post w',rem=pre++p::post/\(Instr.next (.pointer (some ⟨r,0,none⟩)) false ty).run P w = .ok (.tuple #[.bool true,kv p.1,ev p.2]) w'/\Rng P k kv ev w' b r l (pre++post)/\Kept (· ≠ r) w w'/\w'.heap.size=w.heap.size /\
   (Instr.entry (.pointer (some ⟨r,0,none⟩))).run P w' = .ok (.tuple #[kv p.1,ev p.2]) w':=by
 have hne:=h.ne;obtain⟨es,clock,since,seen,c0,hb,hs,hm,hok,hr,hold,hsc,hscl,hrem⟩:=h;rcases run_next_at w ty r b since c0 seen es clock hr hb hold hsc with⟨h0,hrun⟩ | ⟨x,hx,w1,hw1,hrun⟩
 ·refine .inl ⟨?_,hrun⟩;have:=congrArg List.length hrem;simp[h0]at this;exact List.eq_nil_of_length_eq_zero this.symm
 ·right
  obtain⟨A,B,hAB⟩:=List.append_of_mem hx;rw[hAB]at hrem;rw[List.map_append,List.map_cons]at hrem;obtain⟨pre,q,rfl,hp1,hq⟩:=List.map_eq_append_iff.1 hrem.symm;obtain⟨p,post,rfl,hp2,hp3⟩:=List.map_eq_cons_iff.1 hq;simp only[Prod.mk.injEq]at hp2;have hfl:(leftOf es seen).toList=es.toList.filter fun y=>!seen.contains y.born:=by simp[leftOf]
  rw[hfl]at hAB hx;have hxm:x∈es.toList:=(List.mem_filter.1 hx).1;have hb1:w1.heap[b]?=some (.map es clock):=by rcases hw1 with rfl | rfl <;> exact hb
  have hr1:w1.heap[r]?=some (.mapIter (some b) since seen c0):=by rcases hw1 with rfl | rfl <;> exact hr
  have hb2:(setBlock w1 r (.mapIter (some b) since (seen.push x.born) clock)).heap[b]?=some (.map es clock):=(setBlock_block _ _ _ _ (Ne.symm hne)).trans hb1;have hr2:=setBlock_at (o := .mapIter (some b) since (seen.push x.born) clock) hr1;refine⟨pre,p,post,setBlock w1 r (.mapIter (some b) since (seen.push x.born) clock),rfl,?_,⟨es,clock,since,seen.push x.born,clock,hb2,hs,hm,hok,hr2,hold,hscl,hscl,?_⟩,?_,?_,?_⟩
  ·rw[hrun,hp2.1,hp2.2]
  ·rw[show(leftOf es (seen.push x.born)).toList=es.toList.filter fun y=>!(seen.push x.born).contains y.born from by simp[leftOf],filter_out hs.2.1 hAB,List.map_append,List.map_append,hp1,hp3]
  ·have:Kept (· ≠ r) w w1:=by
    rcases hw1 with rfl | rfl
    ·exact Kept.refl _ _
    ·exact(Kept.refl _ _).drew
   exact this.trans (Turned.kept ⟨_,rfl⟩)
  ·rw[setBlock_size];rcases hw1 with rfl | rfl <;> rfl
  ·rw[run_entry_at _ r b since seen es clock x hr2 hb2 hxm hs.2.1,hp2.1,hp2.2]
end
section
variable {P : Program} (w : World) {ops : Array Oper} {rest : List Oper} {o : Oper} {a : Act} {Q : Exit -> Act -> World -> Prop} {κ α : Type} {kv : κ -> Value} {ev : α -> Value} {b : Nat} {l : List (κ × α)}
theorem wpList_mp_range (hg:o.guard=none)(m:Operand)(t:TypeId)(hop:o.op=Op.range t m) {k e:TypeId} (ht:P.underlying t=some (.map k e))(hm:a.eval m = .map (some b))(h:Mp P k kv ev w b l)
  (hK:∀ w',Rng P k kv ev w' b w.heap.size l l->Below w.heap.size w w'->w'.heap.size=w.heap.size+1->wpList P ops Q rest (a.put o.dst (.pointer (some ⟨w.heap.size,0,none⟩))) w'):wpList P ops Q (o::rest) a w:=by
 refine wpList_plain hg fun K' hK'=>?_;obtain⟨w',hrun,h1,h2,h3⟩:=h.range ht;unfold Oper.wp;simp[execOp,hop,hm,hrun,Result.andThen];exact hK' _ _ (hK w' h1 h2 h3)
theorem wpList_mp_next (hg:o.guard=none)(it:Operand)(hop:o.op=Op.next it false) {k:TypeId} {r:Nat} {rem:List (κ × α)} (hit:a.eval it = .pointer (some ⟨r,0,none⟩))(h:Rng P k kv ev w b r l rem)
  (hDone:rem=[]->wpList P ops Q rest (a.put o.dst (.tuple #[.bool false])) w)
  (hMore:∀ pre p post w',rem=pre++p::post->Rng P k kv ev w' b r l (pre++post)->Kept (· ≠ r) w w'->w'.heap.size=w.heap.size->(Instr.entry (.pointer (some ⟨r,0,none⟩))).run P w' = .ok (.tuple #[kv p.1,ev p.2]) w' ->
   wpList P ops Q rest (a.put o.dst (.tuple #[.bool true,kv p.1,ev p.2])) w'):wpList P ops Q (o::rest) a w:=by
 refine wpList_plain hg fun K' hK'=>?_;unfold Oper.wp;rcases h.next o.type with⟨h0,hrun⟩ | ⟨pre,p,post,w',h0,hrun,h1,h2,h3,h4⟩
 ·simp[execOp,hop,hit,hrun,Result.andThen];exact hK' _ _ (hDone h0)
 ·simp[execOp,hop,hit,hrun,Result.andThen];exact hK' _ _ (hMore pre p post w' h0 h1 h2 h3 h4)
end
end Go.Proofs.YtlhaghoajpglaaaGreat
namespace Go.Proofs.YtlhaghoajpglaaaGreat
open Go Go.RowKit
section
variable {w w' : World} {B B' p : Nat} {e e' : TypeId} {sz sz' : Nat} {v v' : Value} {xs xs' : List Value} {cs : Array Value}
theorem Own.typed (h:Own w B e sz v xs) {g:Nat} (hg:v.ownBlock=some g):∃ cur,w.heap[g]?=some (.cells cur e (0,0)):=by
 obtain⟨n,_,h2⟩:=h;rcases h2 with⟨rfl,_⟩ | ⟨g',cap,cur,rfl,_,hh,_⟩
 ·cases hg
 ·obtain rfl:g'=g:=Option.some.inj hg;exact⟨cur,hh⟩
theorem Own.keepOwn (h:Own w B e sz v xs)(hs:∀ g,v.ownBlock=some g->w'.heap[g]?=w.heap[g]?):Own w' B e sz v xs:=by
 obtain⟨n,h1,h2⟩:=h;refine⟨n,h1,?_⟩;rcases h2 with h2 | ⟨g,cap,cur,rfl,hb,hh,r⟩
 ·exact .inl h2
 ·exact .inr ⟨g,cap,cur,rfl,hb,(hs g rfl).trans hh,r⟩
theorem Own.aside (h:Own w B e sz v xs)(k:Own w B' e' sz' v' xs')(hne:e≠e')(hg:w.grownBy w' v'.ownBlock):Own w' B e sz v xs :=
 h.keepOwn fun g hv=>hg.block g (h.block g hv).2 fun hv'=>by
  obtain⟨c1,h1⟩:=h.typed hv;obtain⟨c2,h2⟩:=k.typed hv'.symm;rw[h1]at h2;exact hne (by injection Option.some.inj h2)
end
section
variable {P : Program} {ops : Array Oper} {Q : Exit -> Act -> World -> Prop} {S : World -> Prop}
theorem WalkN.three {f:Nat} {l:Array Bool} {a:Act} {w:World} (i j m:Nat)(hr:Region.ready .any ops l=[i,j,m])(h:MadeN P ops Q S f l a w i)(h':MadeN P ops Q S f l a w j)(h'':MadeN P ops Q S f l a w m):WalkN P ops Q S (f+1) l a w:=by
 refine .inr (.inr ⟨by rw[hr];simp,fun k hk=>?_⟩);rw[hr]at hk;have:k=i\/k=j\/k=m:=by simpa using hk
 rcases this with rfl | rfl | rfl
 ·obtain⟨o,ho,hw,h⟩:=h;exact⟨o,ho,fun K hK=>by rw[if_pos hw];exact h K hK⟩
 ·obtain⟨o,ho,hw,h⟩:=h';exact⟨o,ho,fun K hK=>by rw[if_pos hw];exact h K hK⟩
 ·obtain⟨o,ho,hw,h⟩:=h'';exact⟨o,ho,fun K hK=>by rw[if_pos hw];exact h K hK⟩
end
inductive RT where
 | mk (k:Int) (a b:ByteArray) (ps:List RT)
def RT.k:RT->Int | .mk k _ _ _=>k
def RT.a:RT->ByteArray | .mk _ a _ _=>a
def RT.b:RT->ByteArray | .mk _ _ b _=>b
def RT.ps:RT->List RT | .mk _ _ _ ps=>ps
instance:Inhabited RT:=⟨.mk 0 ByteArray.empty ByteArray.empty []⟩
mutual
def RT.sz:RT->Nat | .mk _ _ _ ps=>1+szL ps
def szL:List RT->Nat | []=>0 | r::rs=>r.sz+szL rs
end
theorem szL_mem {p:RT}:∀ {ps:List RT},p∈ps->p.sz<=szL ps
 | r::rs,h=>by
  rw[szL];rcases List.mem_cons.1 h with rfl | h
  ·omega
  ·have:=szL_mem h;omega
theorem RT.sz_lt {r p:RT} (h:p∈r.ps):p.sz<r.sz:=by
 obtain⟨k,a,b,ps⟩:=r;have:=szL_mem (show p∈ps from h);rw[RT.sz];omega
theorem RT.sz_eq (r:RT):r.sz=1+szL r.ps:=by
 obtain⟨k,a,b,ps⟩:=r;rw[RT.sz];rfl
theorem RT.ind {Q:RT->Prop} (h:∀ r,(∀ p∈r.ps,Q p)->Q r)(r:RT):Q r:=by
 generalize hn:r.sz=n;induction n using Nat.strongRecOn generalizing r with
 | ind n ih=>exact h r fun p hp=>ih p.sz (by have:=RT.sz_lt hp;omega) p rfl
theorem szL_append (a b:List RT):szL (a++b)=szL a+szL b:=by
 induction a with
 | nil=>simp[szL]
 | cons x a ih=>rw[List.cons_append,szL,szL,ih];omega
theorem szL_take {l:List RT} {i:Nat} (hi:i<l.length):szL (l.take (i+1))=szL (l.take i)+l[i].sz:=by
 rw[List.take_succ_eq_append_getElem hi,szL_append];simp[szL]
mutual
def RT.Ok:RT->Prop | .mk k a b ps=>(-9223372036854775808<=k/\k<=9223372036854775807)/\a.size<=140737488351232/\b.size<=140737488351232/\okL ps
def okL:List RT->Prop | []=>True | r::rs=>r.Ok/\okL rs
end
theorem okL_mem:∀ {ps:List RT},okL ps↔∀ p∈ps,p.Ok
 | []=>by simp[okL]
 | r::rs=>by rw[okL,okL_mem];simp
theorem RT.ok_iff (r:RT):r.Ok↔(-9223372036854775808<=r.k/\r.k<=9223372036854775807)/\r.a.size<=140737488351232/\r.b.size<=140737488351232/\∀ p∈r.ps,p.Ok:=by
 obtain⟨k,a,b,ps⟩:=r;rw[RT.Ok,okL_mem];rfl
def rC (x:RT × Value):List Value:=[.int .i64 x.1.k,.string x.1.a,.string x.1.b,x.2]
theorem rC_length (x:RT × Value):(rC x).length=4:=rfl
mutual
def RTAt (S:Nat->Prop)(w:World):RT->Value->Prop
 | .mk _ _ _ ps,v=>∃ l:List Value,RTsAt S w ps l/\Sl S w 4 v ((ps.zip l).flatMap rC)
def RTsAt (S:Nat->Prop)(w:World):List RT->List Value->Prop
 | [],l=>l=[]
 | r::rs,l=>∃ pv l',l=pv::l'/\RTAt S w r pv/\RTsAt S w rs l'
end
theorem rtsAt_zip {S:Nat->Prop} {w:World}:∀ {ps:List RT} {l:List Value},RTsAt S w ps l->(ps.zip l).map (·.1)=ps/\∀ x∈ps.zip l,RTAt S w x.1 x.2
 | [],l,h=>by rw[RTsAt]at h;subst h;simp
 | r::rs,l,h=>by
  rw[RTsAt]at h;obtain⟨pv,l',rfl,h1,h2⟩:=h;obtain⟨h3,h4⟩:=rtsAt_zip h2;refine⟨by rw[List.zip_cons_cons,List.map_cons,h3],fun x hx=>?_⟩;rw[List.zip_cons_cons]at hx;rcases List.mem_cons.1 hx with rfl | hx
  ·exact h1
  ·exact h4 x hx
theorem rtsAt_of {S:Nat->Prop} {w:World}:∀ {q:List (RT × Value)},(∀ x∈q,RTAt S w x.1 x.2)->RTsAt S w (q.map (·.1)) (q.map (·.2))
 | [],_=>by rw[List.map_nil,List.map_nil,RTsAt]
 | x::q,h=>by
  rw[List.map_cons,List.map_cons,RTsAt];exact⟨x.2,_,rfl,h x List.mem_cons_self,rtsAt_of fun y hy=>h y (List.mem_cons_of_mem _ hy)⟩
theorem zip_maps {α β:Type}:∀ (q:List (α × β)),(q.map (·.1)).zip (q.map (·.2))=q
 | []=>rfl
 | x::q=>by rw[List.map_cons,List.map_cons,List.zip_cons_cons,zip_maps q]
theorem RTAt.iff {S:Nat->Prop} {w:World} (r:RT)(v:Value):RTAt S w r v↔∃ q:List (RT × Value),q.map (·.1)=r.ps/\(∀ x∈q,RTAt S w x.1 x.2)/\Sl S w 4 v (q.flatMap rC):=by
 obtain⟨k,a,b,ps⟩:=r;rw[RTAt];constructor
 ·rintro⟨l,h1,h2⟩;exact⟨_,(rtsAt_zip h1).1,(rtsAt_zip h1).2,h2⟩
 ·rintro⟨q,h1,h2,h3⟩;refine⟨q.map (·.2),?_,?_⟩
  ·have:=rtsAt_of h2;rwa[h1]at this
  ·rw[show ps=q.map (·.1)from h1.symm,zip_maps];exact h3
theorem RTAt.same {S:Nat->Prop} {w w':World} {r:RT} {v:Value} (h:RTAt S w r v)(hs:Same S w w'):RTAt S w' r v:=by
 induction r using RT.ind generalizing v with
 | h r ih =>
  obtain⟨q,h1,h2,h3⟩:=(RTAt.iff r v).1 h;exact(RTAt.iff r v).2 ⟨q,h1,fun x hx=>ih x.1 (by rw[<- h1];exact List.mem_map_of_mem hx) (h2 x hx),h3.same hs⟩
theorem RTAt.mono {S S':Nat->Prop} {w:World} {r:RT} {v:Value} (h:RTAt S w r v)(hs:∀ b,S b->S' b):RTAt S' w r v:=by
 induction r using RT.ind generalizing v with
 | h r ih =>
  obtain⟨q,h1,h2,h3⟩:=(RTAt.iff r v).1 h;exact(RTAt.iff r v).2 ⟨q,h1,fun x hx=>ih x.1 (by rw[<- h1];exact List.mem_map_of_mem hx) (h2 x hx),h3.mono hs⟩
theorem RTAt.up {w w':World} {r:RT} {v:Value} (h:RTAt (· < w.heap.size) w r v)(hb:Below w.heap.size w w'):RTAt (· < w'.heap.size) w' r v :=
 (h.same (Same.below hb)).mono fun _ h=>Nat.lt_of_lt_of_le h hb.size
theorem RTAt.rows {S:Nat->Prop} {w:World} {r:RT} {v:Value} (h:RTAt S w r v) :
  ∃ ao c,v = .slice ao r.ps.length c/\r.ps.length<=c/\c<=9223372036854775807/\∀ i (hi:i<r.ps.length),∃ b off pv,ao=some ⟨b,off,none⟩/\S b /\
   w.cell? ⟨b,off+i*4,none⟩=some (.int .i64 r.ps[i].k)/\w.cell? ⟨b,off+i*4+1,none⟩=some (.string r.ps[i].a)/\w.cell? ⟨b,off+i*4+2,none⟩=some (.string r.ps[i].b)/\w.cell? ⟨b,off+i*4+3,none⟩=some pv/\RTAt S w r.ps[i] pv:=by
 obtain⟨q,h1,h2,h3⟩:=(RTAt.iff r v).1 h;have hlen:q.length=r.ps.length:=by rw[<- h1,List.length_map]
 obtain⟨ao,c,rfl,h4,h5,hc⟩:=Sl.rows rC_length (by decide) h3;refine⟨ao,c,by rw[hlen],by omega,h5,fun i hi=>?_⟩;have hiq:i<q.length:=by omega
 obtain⟨b,off,rfl,hb,hc⟩:=hc (by omega);have hget:r.ps[i]=q[i].1:=by simp only[<- h1,List.getElem_map]
 rw[hget];exact⟨b,off,q[i].2,rfl,hb,hc i hiq 0 _ rfl,hc i hiq 1 _ rfl,hc i hiq 2 _ rfl,hc i hiq 3 _ rfl,h2 _ (List.getElem_mem hiq)⟩
def rV (r:RT)(pv:Value):Value := .agg #[.int .i64 r.k,.string r.a,.string r.b,pv]
structure TyS where
 name:ByteArray
 rels:List (ByteArray × RT)
instance:Inhabited TyS:=⟨⟨ByteArray.empty,[]⟩⟩
def TyS.Ok (t:TyS):Prop:=t.name.size<=140737488351232/\∀ r∈t.rels,r.1.size<=140737488351232/\r.2.Ok
def relC (x:(ByteArray × RT) × Value):List Value:=[.string x.1.1,.int .i64 x.1.2.k,.string x.1.2.a,.string x.1.2.b,x.2]
theorem relC_length (x:(ByteArray × RT) × Value):(relC x).length=5:=rfl
def RelsAt (S:Nat->Prop)(w:World)(l:List (ByteArray × RT))(v:Value):Prop:=∃ q:List ((ByteArray × RT) × Value),q.map (·.1)=l/\(∀ x∈q,RTAt S w x.1.2 x.2)/\Sl S w 5 v (q.flatMap relC)
def tyC (x:TyS × Value):List Value:=[.string x.1.name,x.2]
theorem tyC_length (x:TyS × Value):(tyC x).length=2:=rfl
def TysAt (S:Nat->Prop)(w:World)(l:List TyS)(v:Value):Prop:=∃ q:List (TyS × Value),q.map (·.1)=l/\(∀ x∈q,RelsAt S w x.1.rels x.2)/\Sl S w 2 v (q.flatMap tyC)
section
variable {S S' : Nat -> Prop} {w w' : World} {l : List (ByteArray × RT)} {ts : List TyS} {v : Value}
theorem RelsAt.same (h:RelsAt S w l v)(hs:Same S w w'):RelsAt S w' l v:=by
 obtain⟨q,h1,h2,h3⟩:=h;exact⟨q,h1,fun x hx=>(h2 x hx).same hs,h3.same hs⟩
theorem RelsAt.mono (h:RelsAt S w l v)(hs:∀ b,S b->S' b):RelsAt S' w l v:=by
 obtain⟨q,h1,h2,h3⟩:=h;exact⟨q,h1,fun x hx=>(h2 x hx).mono hs,h3.mono hs⟩
theorem TysAt.same (h:TysAt S w ts v)(hs:Same S w w'):TysAt S w' ts v:=by
 obtain⟨q,h1,h2,h3⟩:=h;exact⟨q,h1,fun x hx=>(h2 x hx).same hs,h3.same hs⟩
theorem TysAt.mono (h:TysAt S w ts v)(hs:∀ b,S b->S' b):TysAt S' w ts v:=by
 obtain⟨q,h1,h2,h3⟩:=h;exact⟨q,h1,fun x hx=>(h2 x hx).mono hs,h3.mono hs⟩
theorem TysAt.up (h:TysAt (· < w.heap.size) w ts v)(hb:Below w.heap.size w w'):TysAt (· < w'.heap.size) w' ts v :=
 (h.same (Same.below hb)).mono fun _ h=>Nat.lt_of_lt_of_le h hb.size
theorem RelsAt.rows (h:RelsAt S w l v) :
  ∃ ao c,v = .slice ao l.length c/\l.length<=c/\c<=9223372036854775807/\∀ i (hi:i<l.length),∃ b off pv,ao=some ⟨b,off,none⟩/\S b/\w.cell? ⟨b,off+i*5,none⟩=some (.string l[i].1) /\
   w.cell? ⟨b,off+i*5+1,none⟩=some (.int .i64 l[i].2.k)/\w.cell? ⟨b,off+i*5+2,none⟩=some (.string l[i].2.a)/\w.cell? ⟨b,off+i*5+3,none⟩=some (.string l[i].2.b)/\w.cell? ⟨b,off+i*5+4,none⟩=some pv/\RTAt S w l[i].2 pv:=by
 obtain⟨q,h1,h2,h3⟩:=h;have hlen:q.length=l.length:=by rw[<- h1,List.length_map]
 obtain⟨ao,c,rfl,h4,h5,hc⟩:=Sl.rows relC_length (by decide) h3;refine⟨ao,c,by rw[hlen],by omega,h5,fun i hi=>?_⟩;have hiq:i<q.length:=by omega
 obtain⟨b,off,rfl,hb,hc⟩:=hc (by omega);have hget:l[i]=q[i].1:=by simp only[<- h1,List.getElem_map]
 rw[hget];exact⟨b,off,q[i].2,rfl,hb,hc i hiq 0 _ rfl,hc i hiq 1 _ rfl,hc i hiq 2 _ rfl,hc i hiq 3 _ rfl,hc i hiq 4 _ rfl,h2 _ (List.getElem_mem hiq)⟩
theorem TysAt.rows (h:TysAt S w ts v) :
  ∃ ao c,v = .slice ao ts.length c/\ts.length<=c/\c<=9223372036854775807/\∀ i (hi:i<ts.length),∃ b off pv,ao=some ⟨b,off,none⟩/\S b/\w.cell? ⟨b,off+i*2,none⟩=some (.string ts[i].name)/\w.cell? ⟨b,off+i*2+1,none⟩=some pv/\RelsAt S w ts[i].rels pv:=by
 obtain⟨q,h1,h2,h3⟩:=h;have hlen:q.length=ts.length:=by rw[<- h1,List.length_map]
 obtain⟨ao,c,rfl,h4,h5,hc⟩:=Sl.rows tyC_length (by decide) h3;refine⟨ao,c,by rw[hlen],by omega,h5,fun i hi=>?_⟩;have hiq:i<q.length:=by omega
 obtain⟨b,off,rfl,hb,hc⟩:=hc (by omega);have hget:ts[i]=q[i].1:=by simp only[<- h1,List.getElem_map]
 rw[hget];exact⟨b,off,q[i].2,rfl,hb,hc i hiq 0 _ rfl,hc i hiq 1 _ rfl,h2 _ (List.getElem_mem hiq)⟩
end
structure R2 where
 t:ByteArray
 r:ByteArray
deriving DecidableEq
instance:Inhabited R2:=⟨⟨ByteArray.empty,ByteArray.empty⟩⟩
def r2V (p:R2):Value := .agg #[.string p.t,.string p.r]
def r2C (p:R2):List Value:=[.string p.t,.string p.r]
theorem r2C_length (p:R2):(r2C p).length=2:=rfl
def r2cs (l:List R2):List Value:=l.flatMap r2C
theorem ba_toList (a b:ByteArray):a.toList=b.toList↔a=b:=by
 rw[ByteArray.toList_eq,ByteArray.toList_eq];exact⟨fun h=>ByteArray.ext (by rw[<- Array.toList_inj];exact h),fun h=>by rw[h]⟩
end Go.Proofs.YtlhaghoajpglaaaGreat
namespace Go.Proofs.YtlhaghoajpglaaaGreat
open Go Go.RowKit Go.Sort Go.Shelf
theorem flatK_list {α:Type} [Inhabited α] {enc:α->List Value} {k:Nat} (hk:∀ x,(enc x).length=k)(hpos:0<k)(d:Array α):(flatK enc k d).toList=d.toList.flatMap enc:=by
 apply List.ext_getElem?;intro t;by_cases ht:t<d.size*k
 ·have h1:t / k<d.size:=(Nat.div_lt_iff_lt_mul hpos).2 ht;have h2:t % k<k:=Nat.mod_lt _ hpos;have h3:t=t / k*k+t % k:=by rw[Nat.mul_comm];exact(Nat.div_add_mod t k).symm
  have e1:(flatK enc k d).toList[t]?=some (flatK enc k d)[t]!:=by
   rw[getElem!_pos _ t (by simpa using ht)];simp[ht]
  rw[e1,get_flatK enc k d t ht];conv=>rhs;rw[h3]
  rw[flat_get hk d.toList (t / k) (by simpa using h1) (t % k) h2,getElem!_pos d (t / k) h1,getElem!_pos _ (t % k) (by rw[hk];exact h2),List.getElem?_eq_getElem (by rw[hk];exact h2)];simp
 ·rw[List.getElem?_eq_none (by simp;omega),List.getElem?_eq_none (by rw[flat_length hk];simp;omega)]
theorem sort_own {P:Program} {ρ:Ren} (L:SlLaysF0.n6 P ρ) {α:Type} [Inhabited α] (enc:α->List Value)(k:Nat)(hk:∀ x,(enc x).length=k)(hpos:0<k)(h1:∀ x,∀ v∈enc x,v.oneCell'=true)
  (aE:∀ w,(isAgg (ρ.t 24)).run P w = .ok true w) (zE:∀ w,(Go.sizeOf (ρ.t 24)).run P w = .ok k w) (cf:α->α->Int) (hO:SWO (ltOf cf)) (g:Nat) (cb:Array Value)
  (eg:∀ args w,(callFunc g args).run P w = .ok (.enter g args) w) (hcmp:∀ (W:World) x y,Calls P g (#[.agg (enc x).toArray,.agg (enc y).toArray]++cb) W fun e w'=>e = .returned (.int .i64 (cf x y))/\Gr W w')
  {w:World} {B:Nat} {T:TypeId} {v:Value} {l:List α} (h:Own w B T k v (l.flatMap enc)) (hl:l.length<4611686018427387904) :
  Calls P (ρ.f 6) #[v,.func (.func g) #[] cb] w fun e w'=>e = .returned (.tuple #[])/\∃ l':List α,l'.Perm l/\(l'.Pairwise fun a b=>ltOf cf b a=false)/\Own w' B T k v (l'.flatMap enc)/\Kept (fun b=>b<w.heap.size/\v.ownBlock≠some b) w w':=by
 obtain⟨n,hlen,hrow⟩:=h;rw[flat_length hk]at hlen;obtain rfl:l.length=n:=Nat.eq_of_mul_eq_mul_right hpos hlen;by_cases h0:l=[]
 ·subst h0
  have hv:∃ p c,v = .slice p 0 c:=by
   rcases hrow with⟨rfl,_⟩ | ⟨b,cap,cur,rfl,_⟩
   ·exact⟨_,_,rfl⟩
   ·exact⟨_,_,rfl⟩
  have hown:Own w B T k v (([]:List α).flatMap enc):=⟨0,by simp,hrow⟩;obtain⟨p,c,rfl⟩:=hv;refine(AnyF.slices_SortFunc_none L p c _ w).mono ?_;rintro e w' ⟨rfl,rfl⟩;exact⟨rfl,[],List.Perm.refl _,List.Pairwise.nil,hown,Kept.refl _ _⟩
 ·have hl0:0<l.length:=List.length_pos_iff.2 h0;rcases hrow with⟨rfl,hx⟩ | ⟨b,cap,cur,rfl,hB,hb,hnc,hcm,hcs,htake⟩
  ·exfalso
   omega
  ·have hblt:b<w.heap.size:=(Array.getElem?_eq_some_iff.1 hb).1;have hnk:l.length*k<=cur.size:=by rw[hcs];exact Nat.mul_le_mul_right k hnc
   have hcur:∀ j,j<l.length*k->cur[j]?=some (flatK enc k l.toArray)[j]!:=fun j hj=>by
    have e1:(cur.toList.take (l.length*k))[j]?=cur[j]?:=by rw[List.getElem?_take,if_pos hj];simp
    rw[<- e1,htake];have e2:=flatK_list hk hpos l.toArray;simp only at e2;rw[<- e2,getElem!_pos _ j (by simpa using hj)];simp[hj]
   have hH:HoldsK enc k w b 0 l.toArray:=fun j hj=>by
    rw[size_flatK]at hj;have hj':j<l.length*k:=by simpa using hj
    refine⟨?_,frozen_of_row w b (0+j) cur T hb⟩;rw[cell_of_row w b (0+j) cur T (0,0) hb,Nat.zero_add];exact hcur j hj'
   have hcl:CmpLays P g cb enc k cf b 0 l.toArray.size w:=fun m os dk _ x y=>(hcmp _ x y).mono fun _ _ ⟨he,hg⟩=>⟨he,hg⟩;have hc:=AnyQ.slices_SortFunc L k aE zE enc hk h1 cf hO g cb b 0 cap l.toArray w eg hcl hH hblt (by simpa using hl);simp only[List.size_toArray]at hc;refine hc.mono ?_;rintro e w' ⟨rfl,d',m,os,hp,hs,rfl⟩;obtain⟨hp1,_,hp2⟩:=hp;have hp1':d'.size=l.length:=by simpa using hp1
   have hperm:d'.toList.Perm l:=by
    have e1:(d'.extract 0 l.length).toList=d'.toList:=by rw[<- hp1'];simp
    have e2:(l.toArray.extract 0 l.length).toList=l:=by simp
    rw[e1,e2]at hp2;exact hp2
   refine⟨rfl,d'.toList,hperm,?_,⟨d'.toList.length,?_,.inr ⟨b,cap,putCells id 0 (flatK enc k d') cur,?_,hB,?_,?_,hcm,?_,?_⟩⟩,?_⟩
   ·refine List.pairwise_iff_getElem.2 fun i j hi hj hij=>?_;have hi':i<d'.size:=by simpa using hi
    have hj':j<d'.size:=by simpa using hj
    have:=hs i j (Nat.zero_le _) hij (by omega);rwa[getElem!_pos d' j hj',getElem!_pos d' i hi']at this
   ·rw[flat_length hk]
   ·simp[hp1']
   ·simp only[sortWorldK,putRowK,putRow,mapBlock,grow,heap_ahead];rw[Array.getElem?_append_left (by simpa using hblt),Array.getElem?_modify,if_pos rfl,hb];rfl
   ·simp[hp1',hnc]
   ·simp[putCells,hcs]
   ·rw[show d'.toList.length*k=(flatK enc k d').size from by simp];rw[<- flatK_list hk hpos d'];apply List.ext_getElem?;intro t;rw[List.getElem?_take];split
    ·rename_i ht
     have ht':t<d'.size*k:=by simpa using ht
     have htc:t<cur.size:=by rw[hp1']at ht';omega
     simp only[putCells,Array.getElem?_toList,Array.getElem?_mapIdx];rw[Array.getElem?_eq_getElem htc];simp only[Option.map_some,Nat.zero_le,true_and,Nat.zero_add,Nat.sub_zero,id];rw[if_pos ht,getElem!_pos _ t ht,Array.getElem?_eq_getElem ht]
    ·rename_i ht
     rw[List.getElem?_eq_none (by simpa using ht)]
   ·refine⟨rfl,rfl,rfl,by simp[sortWorldK,putRowK,grow],fun c hc=>?_⟩;have hne:c≠b:=fun e=>hc.2 (by subst e;rfl);simp only[sortWorldK,putRowK,putRow,mapBlock,grow,heap_ahead];rw[Array.getElem?_append_left (by simpa using hc.1),Array.getElem?_modify,if_neg (Ne.symm hne)]
end Go.Proofs.YtlhaghoajpglaaaGreat
namespace Go.Proofs.YtlhaghoajpglaaaGreat
open Go Go.RowKit
theorem ltS_ne {a b:ByteArray} (h:ltS a b=true):a≠b:=by
 rintro rfl;rw[ltS_irr]at h;cases h
def ltR (a b:R2):Bool:=if a.t=b.t then ltS a.r b.r else ltS a.t b.t
end Go.Proofs.YtlhaghoajpglaaaGreat
namespace Go.Proofs
open Go.Shelf
def Tryz.sortT_ren:Go.Shelf.Ren:=⟨fun | 6=>137 | 15=>198 | 14=>197 | 28=>240 | 29=>241 | 20=>232 | 21=>233 | 22=>234 | 23=>235 | 24=>236 | 25=>237 | 26=>238 | 27=>239 | 46=>281 | 47=>282 | 48=>283 | 49=>284 | 50=>285 | 57=>297 | n=>n,fun | 22=>27 | 24=>67 | 25=>154 | 3=>3 | 39=>311 | 0=>0 | 53=>349 | 55=>351 | 4=>4 | 46=>343 | 45=>342 | 50=>314 | 5=>5 | 9=>9 | 66=>378 | 70=>382 | 76=>390 | 77=>391 | n=>n,fun | n=>n⟩
theorem Tryz.sortT:Go.Proofs.SlLaysF0.n6 Tryz.prog Tryz.sortT_ren := {
 mixed:=by kernel_rfl
 f6:=⟨Tryz.f137.name,by decide,Tryz.func137.trans (congrArg some (by kernel_rfl))⟩
 f14:=⟨Tryz.f197.name,by decide,Tryz.func197.trans (congrArg some (by kernel_rfl))⟩
 f15:=Tryz.func198.trans (congrArg some (by kernel_rfl))
 f20:=⟨Tryz.f232.name,by decide,Tryz.func232.trans (congrArg some (by kernel_rfl))⟩
 f21:=⟨Tryz.f233.name,by decide,Tryz.func233.trans (congrArg some (by kernel_rfl))⟩
 f22:=⟨Tryz.f234.name,by decide,Tryz.func234.trans (congrArg some (by kernel_rfl))⟩
 f23:=⟨Tryz.f235.name,by decide,Tryz.func235.trans (congrArg some (by kernel_rfl))⟩
 f24:=⟨Tryz.f236.name,by decide,Tryz.func236.trans (congrArg some (by kernel_rfl))⟩
 f25:=⟨Tryz.f237.name,by decide,Tryz.func237.trans (congrArg some (by kernel_rfl))⟩
 f26:=⟨Tryz.f238.name,by decide,Tryz.func238.trans (congrArg some (by kernel_rfl))⟩
 f27:=⟨Tryz.f239.name,by decide,Tryz.func239.trans (congrArg some (by kernel_rfl))⟩
 f28:=Tryz.func240.trans (congrArg some (by kernel_rfl))
 f29:=Tryz.func241.trans (congrArg some (by kernel_rfl))
 f46:=⟨Tryz.f281.name,by decide,Tryz.func281.trans (congrArg some (by kernel_rfl))⟩
 f47:=Tryz.func282.trans (congrArg some (by kernel_rfl))
 f48:=Tryz.func283.trans (congrArg some (by kernel_rfl))
 f49:=⟨Tryz.f284.name,by decide,Tryz.func284.trans (congrArg some (by kernel_rfl))⟩
 f50:=⟨Tryz.f285.name,by decide,Tryz.func285.trans (congrArg some (by kernel_rfl))⟩
 f57:=⟨Tryz.f297.name,by decide,Tryz.func297.trans (congrArg some (by kernel_rfl))⟩
 t0:=Tryz.underlying0
 a0:=Tryz.isAgg0
 z0:=Tryz.sizeOf0
 v0:=Tryz.zeroValue0
 t3:=Tryz.underlying3
 a3:=Tryz.isAgg3
 z3:=Tryz.sizeOf3
 v3:=Tryz.zeroValue3
 t4:=Tryz.underlying4
 a4:=Tryz.isAgg4
 z4:=Tryz.sizeOf4
 v4:=Tryz.zeroValue4
 t5:=Tryz.underlying5
 a5:=Tryz.isAgg5
 z5:=Tryz.sizeOf5
 v5:=Tryz.zeroValue5
 t9:=Tryz.underlying9
 a9:=Tryz.isAgg9
 z9:=Tryz.sizeOf9
 v9:=Tryz.zeroValue9
 t22:=Tryz.underlying27
 a22:=Tryz.isAgg27
 z22:=Tryz.sizeOf27
 v22:=Tryz.zeroValue27
 t25:=Tryz.underlying154
 a25:=Tryz.isAgg154
 z25:=Tryz.sizeOf154
 v25:=Tryz.zeroValue154
 t39:=Tryz.underlying311
 a39:=Tryz.isAgg311
 z39:=Tryz.sizeOf311
 v39:=Tryz.zeroValue311
 t45:=Tryz.underlying342
 a45:=Tryz.isAgg342
 z45:=Tryz.sizeOf342
 v45:=Tryz.zeroValue342
 t46:=Tryz.underlying343
 a46:=Tryz.isAgg343
 z46:=Tryz.sizeOf343
 v46:=Tryz.zeroValue343
 t50:=Tryz.underlying314
 a50:=Tryz.isAgg314
 z50:=Tryz.sizeOf314
 v50:=Tryz.zeroValue314
 t53:=Tryz.underlying349
 a53:=Tryz.isAgg349
 z53:=Tryz.sizeOf349
 v53:=Tryz.zeroValue349
 t55:=Tryz.underlying351
 a55:=Tryz.isAgg351
 z55:=Tryz.sizeOf351
 v55:=Tryz.zeroValue351
 t66:=Tryz.underlying378
 a66:=Tryz.isAgg378
 z66:=Tryz.sizeOf378
 v66:=Tryz.zeroValue378
 t70:=Tryz.underlying382
 a70:=Tryz.isAgg382
 z70:=Tryz.sizeOf382
 v70:=Tryz.zeroValue382
 t76:=Tryz.underlying390
 a76:=Tryz.isAgg390
 z76:=Tryz.sizeOf390
 v76:=Tryz.zeroValue390
 t77:=Tryz.underlying391
 a77:=Tryz.isAgg391
 z77:=Tryz.sizeOf391
 v77:=Tryz.zeroValue391}
end Go.Proofs
namespace Go.Proofs.YtlhaghoajpglaaaGreat
open Go Go.RowKit
theorem Own.keepB {w w':World} {B:Nat} {e:TypeId} {sz:Nat} {v:Value} {xs:List Value} (h:Own w B e sz v xs)(hs:∀ g,v.ownBlock=some g->w'.heap[g]?=w.heap[g]?):Own w' B e sz v xs:=by
 obtain⟨n,h⟩:=h;refine⟨n,h.1,?_⟩;rcases h.2 with hn | ⟨g,cap,cur,rfl,hbg,hg,r⟩
 ·exact .inl hn
 ·exact .inr ⟨g,cap,cur,rfl,hbg,(hs g rfl).trans hg,r⟩
theorem Own.notBlk {w:World} {B:Nat} {e t:TypeId} {sz:Nat} {v:Value} {xs:List Value} {b:Nat} {cs:Array Value} (h:Own w B e sz v xs)(hb:Blk w b cs t)(hne:t≠e):∀ g,v.ownBlock=some g->g≠b:=by
 intro g hg he;obtain⟨n,h⟩:=h;rcases h.2 with⟨rfl,_⟩ | ⟨g',cap,cur,rfl,hbg,hg',r⟩
 ·cases hg
 ·injection hg with hg
  subst hg he;rw[show w.heap[g']?=_ from hb]at hg';injection hg' with hg'
  injection hg' with _ h2 _
  exact hne h2
def WrB (w:World)(B b:Nat)(text:ByteArray)(odd:Bool):Prop:=B<=b/\∃ p v,(p = .pointer none\/p = .pointer (some ⟨b,0,none⟩))/\Blk w b #[p,v,.bool odd] 298/\Own w B 5 1 v (Lib.strCells text)/\(text.size=0->v = .slice none 0 0)
def WK (B b:Nat)(w:World)(x:Nat):Prop:=x<B\/(x≠b/\x<w.heap.size/\∀ cs,w.heap[x]?≠some (.cells cs 5 (0,0)))
abbrev WKept (B b:Nat) (w w':World):Prop:=Kept (WK B b w) w w'
section
variable {w w' w'' : World} {B b : Nat}
theorem WKept.below (h:WKept B b w w'):Below B w w':=Kept.below h fun _ hx => .inl hx
theorem WKept.next (h:WKept B b w w')(k:WKept B b w' w''):WKept B b w w'':=Kept.trans h (Kept.mono k fun x hx=>by
 rcases hx with hx | ⟨h1,h2,h3⟩
 ·exact .inl hx
 ·refine .inr ⟨h1,Nat.lt_of_lt_of_le h2 h.size,fun cs=>?_⟩;rw[h.block x (.inr ⟨h1,h2,h3⟩)];exact h3 cs)
theorem WKept.of (h:Below w.heap.size w w')(hB:B<=w.heap.size):WKept B b w w':=Below.kept h fun x hx=>by
 rcases hx with hx | ⟨_,h2,_⟩
 ·omega
 ·exact h2
theorem WKept.box (h:WKept B b w w') {x:Nat} {cs:Array Value} {e:TypeId} (hx:Blk w x cs e)(he:e≠5)(hb:x≠b):Blk w' x cs e:=Kept.blk h hx (.inr ⟨hb,hx.lt,fun cs' h'=>by
 rw[show w.heap[x]?=_ from hx]at h';injection h' with h'
 injection h' with _ h2 _
 exact he h2⟩)
theorem WrB.lt {text:ByteArray} {odd:Bool} (h:WrB w B b text odd):b<w.heap.size:=by
 obtain⟨_,p,v,_,hb,_⟩:=h;exact hb.lt
theorem WrB.up {text:ByteArray} {odd:Bool} (h:WrB w B b text odd)(hk:Below w.heap.size w w'):WrB w' B b text odd:=by
 obtain⟨hB,p,v,hp,hb,ho,hn⟩:=h;exact⟨hB,p,v,hp,hb.below hk,ho.below hk,hn⟩
theorem WrB.flag {text:ByteArray} {odd:Bool} (h:WrB w B b text odd)(o:Bool):WrB (w.setCell ⟨b,2,none⟩ (.bool o)) B b text o:=by
 obtain⟨hB,p,v,hp,hb,ho,hn⟩:=h;exact⟨hB,p,v,hp,hb.set 2 _,ho.keepB fun g hg=>Below.heap_setCell _ _ _ g (ho.notBlk hb (by decide) g hg),hn⟩
theorem WKept.flag (hB:B<=b)(v:Value):WKept B b w (w.setCell ⟨b,2,none⟩ v):=(Kept.refl _ _).set (a:=⟨b,2,none⟩) (fun h=>by
 rcases h with h | ⟨h,_⟩
 ·exact absurd h (by show ¬ b<B;omega)
 ·exact h rfl) _
theorem WrB.odd2 {text:ByteArray} {odd:Bool} (h:WrB w B b text odd):w.cell? ⟨b,2,none⟩=some (.bool odd)/\w.frozen? ⟨b,2,none⟩=false:=by
 obtain⟨hB,p,v,hp,hb,ho,hn⟩:=h;exact⟨hb.cells 2,hb.free 2⟩
end
theorem bytesInfoW:(Tryz.prog.info? 5).map (fun i=>(i.zero,i.size,i.bytes))=some (some (.int .u8 0),1,1):=by kernel_rfl
theorem writerSize:(Tryz.prog.info? 296).map (·.size)=some 2:=by kernel_rfl
theorem writerInfo:∃ j,Tryz.prog.info? 296=some j/\j.size≠0:=by
 obtain⟨j,hj,hs⟩:=Option.map_eq_some_iff.1 writerSize;exact⟨j,hj,by omega⟩
theorem liesW:liesAt Tryz.prog Tryz.prog.depth 298 (3 / Tryz.prog.cellsOf 298) 0 296 1=true:=by kernel_rfl
theorem WrB.shape {w:World} {b:Nat} {cs:Array Value} (h:Blk w b cs 298)(hs:cs.size=3):w.shape? b=some (298,3):=by
 simp[World.shape?,show w.heap[b]?=_ from h,hs]
theorem copyCheck_used (b:Nat)(w:World)(h0:w.cell? ⟨b,0,none⟩=some (.pointer (some ⟨b,0,none⟩))) :
  Calls Tryz.prog 230 #[.pointer (some ⟨b,0,none⟩)] w fun e w'=>e = .returned (.tuple #[])/\w'=w:=by
 obtain⟨j,hj,_⟩:=writerInfo;go_enter Tryz.func230,Tryz.ntmps230
 go_wp2
 rw[Lib.run_neq_ptr_same w _ Tryz.underlying294 hj];go_wp2
 go_end0
 exact⟨rfl,rfl⟩
theorem copyCheck_fresh (b:Nat)(w:World)(h0:w.cell? ⟨b,0,none⟩=some (.pointer none))(hsh:w.shape? b=some (298,3))(hfz:w.frozen? ⟨b,0,none⟩=false) :
  Calls Tryz.prog 230 #[.pointer (some ⟨b,0,none⟩)] w fun e w'=>e = .returned (.tuple #[])/\w'=w.setCell ⟨b,0,none⟩ (.pointer (some ⟨b,0,none⟩)):=by
 obtain⟨j,hj,hjs⟩:=writerInfo;go_enter Tryz.func230,Tryz.ntmps230
 go_wp2
 rw[Lib.run_to_unsafe w ⟨b,0,none⟩ Tryz.underlying294 Tryz.underlying376 hj hjs hsh (Nat.zero_lt_succ 2)];simp only[Result.andThen];rw[Oper.upon_value];go_wp2
 rw[run_callFunc_extern Tryz.func280 (by kernel_rfl) (by kernel_rfl) (by kernel_rfl) (e:=Extern.AbiNoEscape.same) (by kernel_rfl)];rw[Lib.run_noEscape];simp only[Result.andThen];rw[Oper.upon_value];go_wp2
 rw[Lib.run_from_unsafe w ⟨b,0,none⟩ Tryz.underlying376 Tryz.underlying294 hj hsh liesW];simp only[Result.andThen];rw[Oper.upon_value];go_wp2
 go_end0
 exact⟨rfl,rfl⟩
theorem copyCheck_any {B b:Nat} {text:ByteArray} {odd:Bool} {w:World} (h:WrB w B b text odd) :
  Calls Tryz.prog 230 #[.pointer (some ⟨b,0,none⟩)] w fun e w'=>e = .returned (.tuple #[])/\(∃ v,Blk w' b #[.pointer (some ⟨b,0,none⟩),v,.bool odd] 298/\Own w' B 5 1 v (Lib.strCells text))/\WKept B b w w':=by
 obtain⟨hB,p,v,hp,hb,ho,hn⟩:=h;rcases hp with rfl | rfl
 ·refine(copyCheck_fresh b w (hb.cells 0) (WrB.shape hb rfl) (hb.free 0)).mono ?_;rintro e w' ⟨rfl,rfl⟩;refine⟨rfl,⟨v,hb.set 0 _,ho.keepB fun g hg=>Below.heap_setCell _ _ _ g (ho.notBlk hb (by decide) g hg)⟩,(Kept.refl _ _).set (a:=⟨b,0,none⟩) (fun h=>?_) _⟩;rcases h with h | ⟨h,_⟩
  ·exact absurd h (by show ¬ b<B;omega)
  ·exact h rfl
 ·refine(copyCheck_used b w (hb.cells 0)).mono ?_;rintro e w' ⟨rfl,rfl⟩;exact⟨rfl,⟨v,hb,ho⟩,Kept.refl _ _⟩
theorem writeString_any {B b:Nat} {text:ByteArray} {odd:Bool} {w:World} (s:ByteArray)(h:WrB w B b text odd)(hlen:text.size+s.size<=140737488355328)(hpos:0<text.size+s.size)(hBw:B<=w.heap.size) :
  Calls Tryz.prog 188 #[.pointer (some ⟨b,0,none⟩),.string s] w fun e w'=>e = .returned (.tuple #[.int .i64 s.size,.nilIface])/\WrB w' B b (text++s) odd/\WKept B b w w':=by
 have HCC:=h! (copyCheck_any h);have hB:=h.1;obtain⟨i0,hi,hz0,hz1,hz2⟩:=info_parts bytesInfoW;clear h;go_enter Tryz.func188,Tryz.ntmps188
 go_wp2_with fail
 refine HCC.out.mono ?_;rintro e w1 ⟨rfl,⟨v,hb1,ho1⟩,hk1⟩;have hsz1:=hk1.size;have c1:=hb1.cells;have HNB:=h! (ho1.notBlk hb1 (by decide));have HBL:=h! hb1;have HO:=h! ho1;have HK:=h! hk1;obtain⟨n1,ho1'⟩:=ho1;have hn1:n1=text.size:=by have:=ho1'.1;rw[Lib.strCells_length]at this;omega
 subst hn1;have hb1':=hb1;clear HCC hb1 hk1;go_wp2_with (at_builtin;refine Lib.wpList_append_own_string _ rfl _ _ 22 9 rfl B 5 i0 Tryz.underlying22 Tryz.underlying9 hi hz0 hz1 hz2 _ _ _ rfl ho1' s rfl ?c3 ?c4 ?c5 ?_)
 case c3=>unfold maxLen;omega
 case c4=>omega
 case c5=>omega
 intro v' w2 hown' hgrow _;have hb2:Blk w2 b #[.pointer (some ⟨b,0,none⟩),v,.bool odd] 298:=(hgrow.block b hb1'.lt (fun e=>HNB.out b e.symm rfl)).trans hb1';have d0:=hb2.cells;have f0:=hb2.free;have HO2:Own w2 B 5 1 v' (Lib.strCells text++Lib.strCells s):=⟨_,hown'⟩;have HN2:=HO2.notBlk hb2 (by decide)
 have HKG:WKept B b w1 w2:=⟨hgrow.os,hgrow.tape,hgrow.output,hgrow.size,fun x hx=>by
  have hO:=HO.out;rcases hx with hx | ⟨h1,h2,h3⟩
  ·exact hgrow.block x (by omega) (fun e=>by have:=(hO.block x e.symm).1;omega)
  ·refine hgrow.block x h2 (fun e=>?_);obtain⟨n,ho⟩:=hO;rcases ho.2 with⟨rfl,_⟩ | ⟨g',cap,cur,rfl,hbg,hg',r⟩
   ·cases e
   ·injection e with e
    subst e;exact h3 _ hg'⟩
 have HO3:=h! HO2;have HKG2:=h! HKG;have HB2:=h! hb2;have HN3:=h! HN2
 obtain⟨ao,n',cap,rfl⟩:∃ ao n' cap,v' = .slice ao n' cap:=by
  rcases hown'.2 with⟨hv,_⟩ | ⟨g,cap,cur,hv,_⟩
  ·exact⟨_,_,_,hv⟩
  ·exact⟨_,_,_,hv⟩
 clear c1 hb1' ho1' hgrow hown' hb2 HO2 HN2 HKG hi hz0 hz1 hz2;go_wp2_with fail
 go_ret2
 refine⟨rfl,⟨hB,_,_,.inr rfl,HB2.out.set 1 _,?_,fun h=>?_⟩,?_⟩
 ·have h1:Lib.strCells (text++s)=Lib.strCells text++Lib.strCells s:=by simp[Lib.strCells]
  rw[h1];exact HO3.out.keepB fun g hg=>Below.heap_setCell _ _ _ g (HN3.out g hg)
 ·rw[ByteArray.size_append]at h;omega
 ·refine WKept.next (WKept.next HK.out HKG2.out) ((Kept.refl _ _).set (a:=⟨b,1,none⟩) (fun h=>?_) _);rcases h with h | ⟨h,_⟩
  ·exact absurd h (by show ¬ b<B;omega)
  ·exact h rfl
end Go.Proofs.YtlhaghoajpglaaaGreat
