/- Lemmas for the claim, no condition. -/
import Derived.Test.YtlhaghoajpglaaaGreatYLkObj7
import Derived.Test.YtlhaghoajpglaaaGreatYLkObj5
set_option maxRecDepth 100000
set_option maxHeartbeats 3000000
namespace Go.Proofs.YtlhaghoajpglaaaGreat
open Go Go.RowKit Go.Maps Go.Shelf Go.Proofs.Tryz
theorem mE! {α β:Type}(f:α->List β)(D:Nat):∀l:List α,(∀x∈l,(f x).length<=D)->(l.flatMap f).length<=l.length*D
 | [],_=>by simp
 | a::l,h=>by
  rw[y5!,u4!,u7!,Nat.add_mul];have h1:=h a y4!;have h2:=mE! f D l fun x hx=>h x (u9! _ hx);omega
end Go.Proofs.YtlhaghoajpglaaaGreat
namespace Go.Proofs.YtlhaghoajpglaaaGreat
open Go Go.Maps Go.RowKit Go.Proofs.Tryz
def on! (T:List Tup)(P:List P3)(p:P3)(k:Int)(a b:ByteArray)(refs:List Int):Prop :=
 (∀x∈refs,0<=x/\∃q,P[x.toNat]?=some q/\(k=1->q∈co! (ak! T p))/\(k=2->q=⟨p.t,p.i,a⟩)/\(k=3->q∈viaOf b (ak! T ⟨p.t,p.i,a⟩)))/\(k=2->∃x,refs=[x])
mutual
def pO! (T:List Tup)(P:List P3)(p:P3):RT->FT->Prop
 | .mk k a b ps,f=>f.k=k/\f.subs=(if k=1 then ak! T p else [])/\on! T P p k a b f.refs/\cH! T P p ps f.ps
def cH! (T:List Tup)(P:List P3)(p:P3):List RT->List FT->Prop
 | [],l=>l=[]
 | r::rs,l=>∃f l',l=f::l'/\pO! T P p r f/\cH! T P p rs l'
end
theorem eY! (T:List Tup)(P:List P3)(p:P3)(r:RT)(f:FT):pO! T P p r f↔f.k=r.k/\f.subs=(if r.k=1 then ak! T p else [])/\on! T P p r.k r.a r.b f.refs/\cH! T P p r.ps f.ps:=by
 obtain⟨k,a,b,ps⟩:=r;rw[pO!];rfl
theorem dR! {T:List Tup}{P:List P3}{p:P3}:∀ {rs:List RT}{l:List FT},cH! T P p rs l->l.length=rs.length/\∀(i:Nat)(r:RT),rs[i]?=some r->∃f,l[i]?=some f/\pO! T P p r f
 | [],l,h=>by
  rw[cH!]at h;subst h;exact⟨rfl,fun i r h=>by simp at h⟩
 | r::rs,l,h=>by
  rw[cH!]at h;obtain⟨f,l',rfl,h1,h2⟩:=h;obtain⟨h3,h4⟩:=dR! h2;refine⟨by simp[h3],fun i q hq=>?_⟩;cases i with
  | zero =>
   simp only[List.getElem?_cons_zero,Option.some.injEq]at hq;subst hq;exact⟨f,by simp,h1⟩
  | succ i =>
   rw[List.getElem?_cons_succ]at hq;obtain⟨g,h5,h6⟩:=h4 i q hq;exact⟨g,by rw[List.getElem?_cons_succ];exact h5,h6⟩
theorem cR! {P:List P3}{X:P3->Prop}:∀(L ps:List P3)(out:List Int),(refsD ps out L).2 <+: P->(∀q∈L,X q)->(∀x∈out,0<=x/\∃q,P[x.toNat]?=some q/\X q)->∀x∈(refsD ps out L).1,0<=x/\∃q,P[x.toNat]?=some q/\X q
 | [],ps,out,_,_,ho=>by rw[refsD];exact ho
 | q::L,ps,out,h,hX,ho=>by
  rw[refsD]at h ⊢;have hp:putP ps q <+: P:=(cr! L _ _).trans h;have hm:q∈P:=hp.subset ((cb! ps q q).2 (.inr rfl));refine cR! L _ _ h (fun x hx=>hX x (u9! _ hx)) fun x hx=>?_;split at hx
  ·exact ho x hx
  ·rcases u3!.1 hx with hx | hx
   ·exact ho x hx
   ·obtain rfl:=n9!.1 hx;obtain⟨h1,h2⟩:=cT! hm;refine⟨by omega,q,?_,hX q y4!⟩;rw[Int.toNat_natCast,eJ! hp,n4! h1,h2]
theorem nL! {T:List Tup}{P:List P3}(p:P3)(k:Int)(a b:ByteArray)(ps:List P3)(h:(headF T p k a b ps).2.2 <+: P):(headF T p k a b ps).1=(if k=1 then ak! T p else [])/\on! T P p k a b (headF T p k a b ps).2.1:=by
 unfold headF at h ⊢;by_cases k1:k=1
 ·rw[if_pos k1]at h ⊢;rw[if_pos k1];refine⟨rfl,fun x hx=>?_,fun e=>by omega⟩;obtain⟨h0,q,d,c⟩:=cR! (X:=fun q=>q∈co! (ak! T p)) _ _ _ h (fun q hq=>hq) (fun x hx=>by cases hx) x hx;exact⟨h0,q,d,fun _=>c,fun e=>by omega,fun e=>by omega⟩
 ·rw[if_neg k1]at h ⊢;rw[if_neg k1];by_cases k2:k=2
  ·rw[if_pos k2]at h ⊢;refine⟨rfl,fun x hx=>?_,fun _=>⟨_,rfl⟩⟩;obtain rfl:=n9!.1 hx;have hm:(⟨p.t,p.i,a⟩:P3)∈P:=h.subset ((cb! ps _ _).2 (.inr rfl));obtain⟨d,c⟩:=cT! hm;refine⟨by omega,_,?_,fun e=>by omega,fun _=>rfl,fun e=>by omega⟩;rw[Int.toNat_natCast,eJ! h,n4! d,c]
  ·rw[if_neg k2]at h ⊢;by_cases k3:k=3
   ·rw[if_pos k3]at h ⊢;refine⟨rfl,fun x hx=>?_,fun e=>by omega⟩;obtain⟨h0,q,d,c⟩:=cR! (X:=fun q=>q∈viaOf b (ak! T ⟨p.t,p.i,a⟩)) _ _ _ h (fun q hq=>hq) (fun x hx=>by cases hx) x hx;exact⟨h0,q,d,fun e=>by omega,fun e=>by omega,fun _=>c⟩
   ·rw[if_neg k3];exact⟨rfl,⟨fun x hx=>(by cases hx),fun e=>(by omega)⟩⟩
theorem nR! {T:List Tup}{P:List P3}(p:P3)(r:RT):∀ps:List P3,(formD T p r ps).2 <+: P->pO! T P p r (formD T p r ps).1:=by
 induction r using RT.ind with
 | h r ih =>
  intro ps h;rw[bA!]at h ⊢;dsimp only at h ⊢;have hH:(headF T p r.k r.a r.b ps).2.2 <+: P:=(bK! T p r.ps _).trans h
  have c:∀(L:List RT) (qs:List P3),(∀x∈L,x∈r.ps)->(ar! T p L qs).2 <+: P->cH! T P p L (ar! T p L qs).1:=by
   intro L;induction L with
   | nil=>intro qs _ _;simp[ar!,cH!]
   | cons x L ihl =>
    intro qs hx hp;rw[ar!]at hp ⊢;rw[cH!];exact⟨_,_,rfl,ih x (hx x (by simp)) qs ((bK! T p L _).trans hp),ihl (formD T p x qs).2 (fun y hy=>hx y (u9! _ hy)) hp⟩
  rw[eY!];obtain⟨h1,h2⟩:=nL! p r.k r.a r.b ps hH;exact⟨rfl,h1,h2,c r.ps _ (fun _ h=>h) h⟩
theorem pW!.formOf {ts:List TyS}{T:List Tup}{shut:List R2}{p:P3}{most:Int}{n:Nat}(h:pW! ts T shut p most n) {i:Nat}(hi:i<n):∃q f,(walkN ts T shut p n).1[i]?=some q/\(walkN ts T shut p n).2[i]?=some f/\((bb! ts shut q=none/\f=FT.zero)\/∃r,bb! ts shut q=some r/\pO! T (walkN ts T shut p n).1 q r f):=by
 obtain⟨h2,e⟩:=h.point hi;refine⟨_,_,n4! h2,du! ts T shut p hi,?_⟩;rw[e]
 have a:(stepG ts T shut (walkN ts T shut p n).1[i] (walkN ts T shut p i).1).2 <+: (walkN ts T shut p n).1:=by
  have:=bM! ts T shut p (i+1) n hi;rw[walkN,e]at this;exact this
 unfold stepG at a ⊢;cases hr:bb! ts shut (walkN ts T shut p n).1[i] with
 | none=>exact .inl ⟨rfl,rfl⟩
 | some r =>
  rw[hr]at a;exact .inr ⟨r,rfl,nR! _ r _ a⟩
section
variable {fs : List FT} {s : P3} {n : Nat}
theorem lK! {l m:List Bool}(h:∀i,l.getD i false=true->m.getD i false=true)(k:Int)(hk:inAt l k=true):inAt m k=true:=by
 unfold inAt at *;rw[v0!]at *;exact⟨hk.1,h _ hk.2⟩
theorem hn! {l m:List Bool}(h:∀i,l.getD i false=true->m.getD i false=true) {i:Nat}(hm:newS fs s m i=false)(hi:i<m.length) {f:FT}(hf:fs[i]?=some f)(hh:holdF s l f=true):m.getD i false=true:=by
 have h1:=jU! s (fun k hk=>lK! h k hk) f hh;unfold newS at hm;rw[hf]at hm;dsimp only at hm;rw[h1,Bool.and_true,Bool.not_eq_false']at hm;rw[<-dQ! hi];exact hm
theorem bX! {l:List Bool}(hl:l.length=n)(hc:∀i,i<n->newS fs s l i=false):∀(r i:Nat),(inN fs s n r).getD i false=true->l.getD i false=true
 | 0,i,h=>by rw[eO!]at h;cases h
 | r+1,i,h=>by
  by_cases hi:i<n
  ·rw[bh! hi,Bool.or_eq_true]at h;rcases h with h | h
   ·exact bX! hl hc r i h
   ·unfold newS at h;rw[v0!]at h;obtain⟨-,h⟩:=h;split at h
    ·next f hf=>exact hn! (fun j hj=>bX! hl hc r j hj) (hc i hi) (by omega) hf h
    ·cases h
  ·rw[n8!,y0! (by rw[ai!];omega)]at h;cases h
theorem mf! {l:List Bool}(hl:l.length=n)(hle:∀i,l.getD i false=true->(inN fs s n n).getD i false=true)(hc:∀i,i<n->newS fs s l i=false):l=inN fs s n n :=
 dT! (by rw[hl,ai!]) fun i _=>by
  rw[Bool.eq_iff_iff];exact⟨hle i,bX! hl hc n i⟩
end
def vecO (L:List (List O2))(o:O2):List Bool:=L.map fun l=>decide (o∈l)
theorem bd! (L:List (List O2))(o:O2):(vecO L o).length=L.length:=by simp[vecO]
theorem ch! {L:List (List O2)}{o:O2}{i:Nat}(hi:i<L.length):(vecO L o).getD i false=decide (o∈L[i]):=by
 rw[n8!,vecO,List.getElem?_map,n4! hi];rfl
theorem fO! {L:List (List O2)}{o:O2}{i:Nat}(hi:L.length<=i):(vecO L o).getD i false=false:=by
 rw[n8!,y0! (by rw[bd!];exact hi)];rfl
def oS (o:O2):P3:=⟨o.t,o.i,⟨#[]⟩⟩
structure LkAt (fs:List FT)(n:Nat)(all:List O2)(L:List (List O2)):Prop where
 len:L.length=n
 sub:∀l∈L,∀o∈l,o∈all
 le:∀o∈all,∀i,(vecO L o).getD i false=true->(inN fs (oS o) n n).getD i false=true
theorem LkAt.start (fs:List FT)(n:Nat)(all:List O2):LkAt fs n all (List.replicate n []) where
 len:=by simp
 sub l hl o ho:=by rw[List.eq_of_mem_replicate hl]at ho;cases ho
 le o _ i h:=by
  by_cases hi:i<n
  ·rw[ch! (by simpa using hi)]at h;simp at h
  ·rw[fO! (by simp;omega)]at h;cases h
theorem LkAt.put {fs:List FT}{n:Nat}{all:List O2}{L:List (List O2)}(h:LkAt fs n all L) {i:Nat}(hi:i<n) {f:FT}(hf:fs[i]?=some f) {l':List O2}
  (hl:∀o,o∈l'↔o∈L.getD i []\/(o∈all/\holdF (oS o) (vecO L o) f=true)):LkAt fs n all (L.set i l') where
 len:=by rw[List.length_set,h.len]
 sub l hm o ho:=by
  rcases List.mem_or_eq_of_mem_set hm with hm | rfl
  ·exact h.sub l hm o ho
  ·rcases (hl o).1 ho with ho | ⟨ho,-⟩
   ·rw[n8!,n4! (by rw[h.len];exact hi)]at ho;exact h.sub _ (n5! _) o ho
   ·exact ho
 le o ho j hj:=by
  have a:i<L.length:=by rw[h.len];exact hi
  by_cases hjn:j<n
  ·rw[ch! (by rw[List.length_set,h.len];exact hjn),List.getElem_set]at hj;split at hj
   ·next hij =>
    subst hij;rw[u1!]at hj;rcases (hl o).1 hj with hj | ⟨-,hj⟩
    ·refine h.le o ho i ?_;rw[ch! a,u1!];rw[n8!,n4! a]at hj;exact hj
    ·exact hn! (h.le o ho) (kk! fs (oS o) n i hi) (by rw[ai!];exact hi) hf hj
   ·refine h.le o ho j ?_;rw[ch! (by rw[h.len];exact hjn)];exact hj
  ·rw[fO! (by rw[List.length_set,h.len];omega)]at hj;cases hj
theorem LkAt.done {fs:List FT}{n:Nat}{all:List O2}{L:List (List O2)}(h:LkAt fs n all L)(hc:∀o∈all,∀i,i<n->newS fs (oS o) (vecO L o) i=false) {o:O2}(ho:o∈all) {i:Nat}(hi:i<n) :
  o∈L[i]'(by rw[h.len];exact hi)↔0<(aX! fs (oS o) n).getD i 0:=by
 have h1:=mf! (by rw[bd!,h.len]) (h.le o ho) (hc o ho);have h2:=ch! (L:=L) (o:=o) (i:=i) (by rw[h.len];exact hi);rw[h1]at h2;have h3:=(gb! (fs:=fs) (s:=oS o) n hi).2.2;rw[(kk! fs (oS o) n).solve]at h3;rw[<-h3,h2,u1!]
theorem iD! (r:RT):∀d,r.textOk d=true->∀q∈r.pre,(q.k=1\/q.k=2\/q.k=3\/q.k=4\/q.k=5)/\(q.k=4\/q.k=5->2<=q.ps.length):=by
 induction r using RT.ind with
 | h r ih =>
  intro d hd q g
  have c:(r.k=1\/r.k=2\/r.k=3\/r.k=4\/r.k=5)/\(r.k=4\/r.k=5->2<=r.ps.length)/\∀x∈r.ps,∃d',x.textOk d'=true:=by
   obtain⟨k,a,b,ps⟩:=r;rw[RT.textOk]at hd;dsimp only[RT.k,RT.ps];split at hd
   ·next e =>
    simp only[v0!,u1!]at hd;have i:=List.length_eq_zero_iff.1 hd.2;subst i;exact⟨.inl e,fun h=>by omega,fun x f=>by cases f⟩
   ·split at hd
    ·next e =>
     simp only[v0!,u1!]at hd;have i:=List.length_eq_zero_iff.1 hd.2;subst i;exact⟨.inr (.inl e),fun h=>by omega,fun x f=>by cases f⟩
    ·split at hd
     ·next e =>
      simp only[v0!,u1!]at hd;have i:=List.length_eq_zero_iff.1 hd.2;subst i;exact⟨.inr (.inr (.inl e)),fun h=>by omega,fun x f=>by cases f⟩
     ·split at hd
      ·next e =>
       simp only[v0!,u1!]at hd;rw[bW!]at hd;refine⟨.inr (.inr (.inr e)),fun _=>hd.1.2,fun x f=>?_⟩;have:=u8!.1 hd.2 x f;unfold goodP at this;rw[v0!]at this;exact⟨_,this.2⟩
      ·cases hd
  rw[r.pre_eq]at g;rcases v7!.1 g with rfl | g
  ·exact⟨c.1,c.2.1⟩
  ·obtain⟨x,f,g⟩:=cq!.1 g;obtain⟨d',a0⟩:=c.2.2 x f;exact ih x f d' a0 q g
mutual
def FT.ths:FT->List P3 | .mk k subs _ ps=>(if k=1 then subs else [])++thsL ps
def thsL:List FT->List P3 | [] => [] | f::fs=>f.ths++thsL fs
end
theorem FT.ths_eq (f:FT):f.ths=(if f.k=1 then f.subs else [])++thsL f.ps:=by
 obtain⟨k,a,b,ps⟩:=f;rw[FT.ths];rfl
theorem bv! {x:P3}:∀ {l:List FT},x∈thsL l↔∃f∈l,x∈f.ths
 | []=>by simp[thsL]
 | f::l=>by rw[thsL,u3!,bv!];simp
mutual
def FT.full:FT->Prop | .mk k _ _ ps=>(k=5->ps≠[])/\fullL ps
def fullL:List FT->Prop | []=>True | f::fs=>f.full/\fullL fs
end
theorem hh!:∀ {l:List FT},fullL l↔∀f∈l,f.full
 | []=>by simp[fullL]
 | f::l=>by rw[fullL,hh!];simp
theorem FT.full_eq (f:FT):f.full↔(f.k=5->f.ps≠[])/\∀g∈f.ps,g.full:=by
 obtain⟨k,a,b,ps⟩:=f;rw[FT.full,hh!];rfl
theorem nJ! {s:P3}{l:List Bool}(hl:∀k,inAt l k=false)(f:FT):f.full->holdF s l f=true->s∈f.ths:=by
 induction f using FT.ind with
 | h f ih =>
  intro hf h;rw[FT.full_eq]at hf;rw[cY!]at h;rw[FT.ths_eq,u3!]
  have hr:f.refs.any (inAt l)=false:=by
   rw[Bool.eq_false_iff];intro h;obtain⟨k,-,h⟩:=x5!.1 h;rw[hl k]at h;cases h
  rw[hr]at h;split at h
  ·next e =>
   rw[Bool.or_false,u1!]at h;left
   rw[if_pos e];exact h
  ·split at h
   ·cases h
   ·split at h
    ·obtain⟨g,a,h⟩:=x5!.1 h;exact .inr (bv!.2 ⟨g,a,ih g a (hf.2 g a) h⟩)
    ·split at h
     ·next e =>
      cases hp:f.ps with
      | nil=>exact absurd hp (hf.1 e)
      | cons g gs =>
       have a:g∈f.ps:=by rw[hp];exact y4!
       rw[<-hp];exact .inr (bv!.2 ⟨g,a,ih g a (hf.2 g a) (u8!.1 h g a)⟩)
     ·cases h
theorem lJ! {l:List Bool}(h:∀i,l.getD i false=false)(k:Int):inAt l k=false:=by
 unfold inAt;rw[h,Bool.and_false]
theorem cK! {fs:List FT}{s:P3}{n:Nat}(hf:∀f∈fs,f.full)(hs:∀f∈fs,s∉f.ths):∀r i,(inN fs s n r).getD i false=false
 | 0,i=>eO! i
 | r+1,i=>by
  by_cases hi:i<n
  ·rw[bh! hi,cK! hf hs r i,Bool.false_or];unfold newS;split
   ·next f hq =>
    have hm:=List.mem_of_getElem? hq
    have:holdF s (inN fs s n r) f=false:=by
     rw[Bool.eq_false_iff];exact fun h=>hs f hm (nJ! (lJ! fun i=>cK! hf hs r i) f (hf f hm) h)
    rw[this,Bool.and_false]
   ·rw[Bool.and_false]
  ·rw[n8!,y0! (by rw[ai!];omega)];rfl
theorem pO!.full {T:List Tup}{P:List P3}{p:P3}(r:RT):∀f,(∀q∈r.pre,q.k=4\/q.k=5->2<=q.ps.length)->pO! T P p r f->f.full:=by
 induction r using RT.ind with
 | h r ih =>
  intro f hr hf;rw[eY!]at hf;obtain⟨h1,-,-,h4⟩:=hf;obtain⟨h5,h6⟩:=dR! h4;rw[FT.full_eq];refine⟨fun e e2=>?_,fun g hg=>?_⟩
  ·have:=hr r r.pre_self (.inr (h1▸e));rw[<-h5,e2]at this;simp at this
  ·obtain⟨i,hi,rfl⟩:=u0! hg;have a:i<r.ps.length:=by omega
   obtain⟨g,h7,h8⟩:=h6 i _ (n4! a);rw[n4! hi]at h7;cases h7;exact ih _ (n5! a) _ (fun q hq=>hr q (RT.pre_trans r (RT.pre_part (n5! a)) hq)) h8
def InF (all:List O2)(L:List (List O2))(f:FT)(o:O2):Prop:=o∈all/\holdF (oS o) (vecO L o) f=true
theorem jS! {L:List (List O2)}{o:O2}{k:Int}:inAt (vecO L o) k=true↔0<=k/\o∈L.getD k.toNat []:=by
 unfold inAt;rw[v0!,u1!];refine and_congr Iff.rfl ?_;by_cases h:k.toNat<L.length
 ·rw[ch! h,u1!,n8!,n4! h];rfl
 ·rw[fO! (by omega),n8!,y0! (by omega)];simp
theorem iT! {L:List (List O2)}{o:O2}{l:List Int}:l.any (inAt (vecO L o))=true↔∃k∈l,0<=k/\o∈L.getD k.toNat []:=by
 rw[x5!];constructor
 ·rintro⟨k,hk,h⟩;exact⟨k,hk,jS!.1 h⟩
 ·rintro⟨k,hk,h⟩;exact⟨k,hk,jS!.2 h⟩
section
variable {all : List O2} {L : List (List O2)} {o : O2} {subs : List P3} {refs : List Int} {ps : List FT}
theorem jX! (hL:∀l∈L,∀o∈l,o∈all) {i:Nat}(h:o∈L.getD i []):o∈all:=by
 by_cases hi:i<L.length
 ·rw[n8!,n4! hi]at h;exact hL _ (n5! hi) o h
 ·rw[n8!,y0! (by omega)]at h;cases h
theorem InF.named (hL:∀l∈L,∀o∈l,o∈all) {k:Int}(hk:k=2\/k=3):InF all L (.mk k subs refs ps) o↔∃k∈refs,0<=k/\o∈L.getD k.toNat []:=by
 unfold InF;rw[bJ!,if_neg (by omega),if_pos hk,iT!];constructor
 ·exact fun h=>h.2
 ·rintro⟨k,hk,h0,h⟩;exact⟨jX! hL h,k,hk,h0,h⟩
theorem InF.some:InF all L (.mk 4 subs refs ps) o↔∃g∈ps,InF all L g o:=by
 unfold InF;rw[bJ!,if_neg (by decide),if_neg (by decide),if_pos rfl,x5!];constructor
 ·rintro⟨h,g,hg,k⟩;exact⟨g,hg,h,k⟩
 ·rintro⟨g,hg,h,k⟩;exact⟨h,g,hg,k⟩
theorem InF.every:InF all L (.mk 5 subs refs ps) o↔o∈all/\∀g∈ps,InF all L g o:=by
 unfold InF;rw[bJ!,if_neg (by decide),if_neg (by decide),if_neg (by decide),if_pos rfl,u8!];constructor
 ·rintro⟨h,k⟩;exact⟨h,fun g hg=>⟨h,k g hg⟩⟩
 ·rintro⟨h,k⟩;exact⟨h,fun g hg=>(k g hg).2⟩
theorem InF.none {k:Int}(h1:k≠1)(h2:k≠2)(h3:k≠3)(h4:k≠4)(h5:k≠5):¬ InF all L (.mk k subs refs ps) o:=by
 unfold InF;rw[bJ!,if_neg h1,if_neg (by omega),if_neg h4,if_neg h5];simp
theorem me! {fs:List FT}{n:Nat}(hl:L.length=n)(h:∀i f,i<n->fs[i]?=some f->∀o,InF all L f o->o∈L.getD i []):∀o∈all,∀i,i<n->newS fs (oS o) (vecO L o) i=false:=by
 intro o ho i hi;unfold newS;rw[dQ! (by rw[bd!,hl];exact hi)];cases hv:(vecO L o).getD i false with
 | true=>rfl
 | false =>
  rw[Bool.not_false,Bool.true_and];split
  ·next f hf =>
   rw[Bool.eq_false_iff];intro hh;have h1:=h i f hi hf o ⟨ho,hh⟩;rw[ch! (by rw[hl];exact hi),decide_eq_false_iff_not]at hv;rw[n8!,n4! (by rw[hl];exact hi)]at h1;exact hv h1
  ·rfl
end
def ic (l:List Int):List Value:=l.map fun n => .int .i64 n
theorem bN! (a b:List Int):ic (a++b)=ic a++ic b:=by simp[ic]
theorem ad! (a:List Int):(ic a).length=a.length:=by simp[ic]
theorem pH! (l:List Int):∀u∈ic l,u.oneCell'=true:=by
 intro u hu;obtain⟨s,_,rfl⟩:=u6!.1 hu;rfl
theorem intsT:pN! prog 107 3 1 8:=pN!.mk' Tryz.underlying107 (show _=some (some (.int .i64 0),1,8)by kernel_rfl) rfl (by decide)
theorem Sl.ints {S:Nat->Prop}{w:World}{v:Value}{l:List Int}(h:Sl S w 1 v (ic l)):∃ao c,v= .slice ao l.length c/\l.length<=c/\c<=9223372036854775807/\∀j,(hj:j<l.length)->∃b off,ao=some ⟨b,off,none⟩/\S b/\w.cell? ⟨b,off+j,none⟩=some (.int .i64 l[j]):=by
 obtain⟨ao,n,c,rfl,h1,h2,h3,h4,h5⟩:=h;rw[ad!,Nat.mul_one]at h1;subst h1;refine⟨ao,c,rfl,h2,by have e:maxLen=9223372036854775807:=rfl;omega,fun j hj=>?_⟩;obtain⟨b,off,rfl,hb,hc⟩:=h5 (by intro e;have:=congrArg List.length e;rw[ad!,v6!]at this;omega);exact⟨b,off,rfl,hb,hc j _ (by simp[ic,hj])⟩
abbrev FV3:=Value × Value × Value
def fC (x:FT × FV3):List Value:=[.int .i64 x.1.k,x.2.1,x.2.2.1,x.2.2.2]
theorem aS! (x:FT × FV3):(fC x).length=4:=rfl
mutual
def FTAt (S:Nat->Prop)(w:World):FT->FV3->Prop
 | .mk _ subs refs ps,v=>Sl S w 3 v.1 (pcs subs)/\Sl S w 1 v.2.1 (ic refs)/\∃l:List FV3,FTsAt S w ps l/\Sl S w 4 v.2.2 ((ps.zip l).flatMap fC)
def FTsAt (S:Nat->Prop)(w:World):List FT->List FV3->Prop
 | [],l=>l=[]
 | r::rs,l=>∃pv l',l=pv::l'/\FTAt S w r pv/\FTsAt S w rs l'
end
theorem eP! {S:Nat->Prop}{w:World}:∀ {ps:List FT}{l:List FV3},FTsAt S w ps l->(ps.zip l).map (·.1)=ps/\∀x∈ps.zip l,FTAt S w x.1 x.2
 | [],l,h=>by rw[FTsAt]at h;subst h;simp
 | r::rs,l,h=>by
  rw[FTsAt]at h;obtain⟨pv,l',rfl,h1,h2⟩:=h;obtain⟨h3,h4⟩:=eP! h2;refine⟨by rw[List.zip_cons_cons,v8!,h3],fun x hx=>?_⟩;rw[List.zip_cons_cons]at hx;rcases v7!.1 hx with rfl | hx
  ·exact h1
  ·exact h4 x hx
theorem jY! {S:Nat->Prop}{w:World}:∀ {q:List (FT × FV3)},(∀x∈q,FTAt S w x.1 x.2)->FTsAt S w (q.map (·.1)) (q.map (·.2))
 | [],_=>by rw[List.map_nil,List.map_nil,FTsAt]
 | x::q,h=>by
  rw[v8!,v8!,FTsAt];exact⟨x.2,_,rfl,h x y4!,jY! fun y hy=>h y (u9! _ hy)⟩
theorem FTAt.iff {S:Nat->Prop}{w:World}(r:FT)(v:FV3):FTAt S w r v↔Sl S w 3 v.1 (pcs r.subs)/\Sl S w 1 v.2.1 (ic r.refs)/\∃q:List (FT × FV3),q.map (·.1)=r.ps/\(∀x∈q,FTAt S w x.1 x.2)/\Sl S w 4 v.2.2 (q.flatMap fC):=by
 obtain⟨k,a1,a0,ps⟩:=r;rw[FTAt];constructor
 ·rintro⟨h1,h2,l,a,h4⟩;exact⟨h1,h2,_,(eP! a).1,(eP! a).2,h4⟩
 ·rintro⟨h1,h2,q,a,h4,h5⟩;refine⟨h1,h2,q.map (·.2),?_,?_⟩
  ·have:=jY! h4;rwa[a]at this
  ·rw[show ps=q.map (·.1)from a.symm,fM!];exact h5
theorem FTAt.same {S:Nat->Prop}{w w':World}{r:FT}{v:FV3}(h:FTAt S w r v)(hs:Same S w w'):FTAt S w' r v:=by
 induction r using FT.ind generalizing v with
 | h r ih =>
  obtain⟨h1,h2,q,h3,h4,h5⟩:=(FTAt.iff r v).1 h;exact(FTAt.iff r v).2 ⟨h1.same hs,h2.same hs,q,h3,fun x hx=>ih x.1 (by rw[<-h3];exact List.mem_map_of_mem hx) (h4 x hx),h5.same hs⟩
theorem FTAt.mono {S S':Nat->Prop}{w:World}{r:FT}{v:FV3}(h:FTAt S w r v)(hs:∀b,S b->S' b):FTAt S' w r v:=by
 induction r using FT.ind generalizing v with
 | h r ih =>
  obtain⟨h1,h2,q,h3,h4,h5⟩:=(FTAt.iff r v).1 h;exact(FTAt.iff r v).2 ⟨h1.mono hs,h2.mono hs,q,h3,fun x hx=>ih x.1 (by rw[<-h3];exact List.mem_map_of_mem hx) (h4 x hx),h5.mono hs⟩
theorem FTAt.up {w w':World}{r:FT}{v:FV3}(h:FTAt (· < w.heap.size) w r v)(hb:Below w.heap.size w w'):FTAt (· < w'.heap.size) w' r v :=
 (h.same (Same.below hb)).mono fun _ h=>n1! h hb.size
theorem FTAt.rows {S:Nat->Prop}{w:World}{r:FT}{v:FV3}(h:FTAt S w r v) :
  ∃ao c,v.2.2= .slice ao r.ps.length c/\r.ps.length<=c/\c<=9223372036854775807/\∀i (hi:i<r.ps.length),∃b off pv,ao=some ⟨b,off,none⟩/\S b /\
   w.cell? ⟨b,off+i*4,none⟩=some (.int .i64 r.ps[i].k)/\w.cell? ⟨b,off+i*4+1,none⟩=some pv.1/\w.cell? ⟨b,off+i*4+2,none⟩=some pv.2.1/\w.cell? ⟨b,off+i*4+3,none⟩=some pv.2.2/\FTAt S w r.ps[i] pv:=by
 obtain⟨-,-,q,h1,h2,h3⟩:=(FTAt.iff r v).1 h;have d:q.length=r.ps.length:=by rw[<-h1,x1!]
 obtain⟨ao,c,e,h4,h5,g⟩:=Sl.rows aS! (by decide) h3;refine⟨ao,c,by rw[e,d],by omega,h5,fun i hi=>?_⟩;have a:i<q.length:=by omega
 obtain⟨b,off,rfl,hb,g⟩:=g (by omega);have f:r.ps[i]=q[i].1:=by simp only[<-h1,List.getElem_map]
 rw[f];exact⟨b,off,q[i].2,rfl,hb,g i a 0 _ rfl,g i a 1 _ rfl,g i a 2 _ rfl,g i a 3 _ rfl,h2 _ (n5! a)⟩
def fV (r:FT)(v:FV3):Value := .agg #[.int .i64 r.k,v.1,v.2.1,v.2.2]
theorem ja!:pN! prog 59 32 3 48:=pN!.mk' Tryz.underlying59 (show _=some (some (.agg #[.string ByteArray.empty,.string ByteArray.empty,.string ByteArray.empty]),3,48)by kernel_rfl) rfl (by decide)
theorem subsT:pN! prog 42 33 3 48:=pN!.mk' Tryz.underlying42 (show _=some (some (.agg #[.string ByteArray.empty,.string ByteArray.empty,.string ByteArray.empty]),3,48)by kernel_rfl) rfl (by decide)
theorem az! (l:List P3):(pcs l).length=3*l.length:=by
 unfold pcs;induction l with
 | nil=>rfl
 | cons a r ih=>rw[y5!,u4!,ih,aj!,u7!];omega
theorem oK! (l:List P3):∀u∈pcs l,u.oneCell'=true:=by
 intro u hu;obtain⟨a,_,ha⟩:=List.mem_flatMap.1 hu;exact hR! a u ha
theorem dI! (a b:List P3):pcs (a++b)=pcs a++pcs b:=x9!
theorem cu! (a:P3):pcs [a]=pC a:=by simp[pcs]
def tuC (t:Tup):List Value:=[.string t.o.t,.string t.o.i,.string t.o.r,.string t.s.t,.string t.s.i,.string t.s.r]
def tuCs (l:List Tup):List Value:=l.flatMap tuC
theorem at! (t:Tup):(tuC t).length=6:=rfl
theorem ag! (l:List Tup):(tuCs l).length=l.length*6:=ao! at! l
theorem aQ! (a b:List Tup):tuCs (a++b)=tuCs a++tuCs b:=by unfold tuCs;rw[x9!]
theorem tupT:pN! prog 27 67 6 96:=pN!.mk' Tryz.underlying27 (show _=some (some (.agg #[.string ByteArray.empty,.string ByteArray.empty,.string ByteArray.empty,.string ByteArray.empty,.string ByteArray.empty,.string ByteArray.empty]),6,96)by kernel_rfl) rfl (by decide)
theorem kM! {S:Nat->Prop}{w:World}{v:Value}{l:List Tup}(h:Sl S w 6 v (tuCs l)) :
  ∃ao c,v= .slice ao l.length c/\l.length<=c/\c<=9223372036854775807/\∀i (hi:i<l.length),∃b off,ao=some ⟨b,off,none⟩/\S b/\w.cell? ⟨b,off+i*6,none⟩=some (.string l[i].o.t)/\w.cell? ⟨b,off+i*6+1,none⟩=some (.string l[i].o.i)/\w.cell? ⟨b,off+i*6+2,none⟩=some (.string l[i].o.r) /\
   w.cell? ⟨b,off+i*6+3,none⟩=some (.string l[i].s.t)/\w.cell? ⟨b,off+i*6+4,none⟩=some (.string l[i].s.i)/\w.cell? ⟨b,off+i*6+5,none⟩=some (.string l[i].s.r):=by
 obtain⟨ao,c,rfl,h1,h2,a⟩:=Sl.rows at! (by decide) (show Sl S w 6 v (l.flatMap tuC)from h);refine⟨ao,c,rfl,h1,h2,fun i hi=>?_⟩;obtain⟨b,off,rfl,hb,a⟩:=a (by omega);exact⟨b,off,rfl,hb,a i hi 0 _ rfl,a i hi 1 _ rfl,a i hi 2 _ rfl,a i hi 3 _ rfl,a i hi 4 _ rfl,a i hi 5 _ rfl⟩
theorem ml! (a b:Tup)(W:World):(binOp BinOp.neq 67 (tV a) (tV b)).run prog W= .ok (.bool (decide (a≠b))) W:=by
 obtain⟨⟨a1,a2,a3⟩,⟨a4,a5,a6⟩⟩:=a;obtain⟨⟨b1,b2,b3⟩,⟨b4,b5,b6⟩⟩:=b;unfold tV;dsimp only;go_simp;simp only[bc!];by_cases h1:a1=b1
 ·by_cases h2:a2=b2
  ·by_cases h3:a3=b3
   ·by_cases h4:a4=b4
    ·by_cases h5:a5=b5
     ·by_cases h6:a6=b6 <;> simp[h1,h2,h3,h4,h5,h6]
     ·simp[h1,h2,h3,h4,h5]
    ·simp[h1,h2,h3,h4]
   ·simp[h1,h2,h3]
  ·simp[h1,h2]
 ·simp[h1]
theorem pA! (a b:P3)(W:World):(binOp BinOp.eql 32 (pV a) (pV b)).run prog W= .ok (.bool (decide (a=b))) W:=by
 obtain⟨a1,a2,a3⟩:=a;obtain⟨b1,b2,b3⟩:=b;unfold pV;dsimp only;go_simp;simp only[bc!];by_cases h1:a1=b1 <;> by_cases h2:a2=b2 <;> by_cases h3:a3=b3 <;> simp[h1,h2,h3]
theorem mp! (a b:P3)(W:World):(binOp BinOp.eql 33 (pV a) (pV b)).run prog W= .ok (.bool (decide (a=b))) W:=by
 obtain⟨a1,a2,a3⟩:=a;obtain⟨b1,b2,b3⟩:=b;unfold pV;dsimp only;go_simp;simp only[bc!];by_cases h1:a1=b1 <;> by_cases h2:a2=b2 <;> by_cases h3:a3=b3 <;> simp[h1,h2,h3]
theorem nA! {a b:P3}(h:ltP a b=true):ltP b a=false:=by
 cases k:ltP b a with
 | false=>rfl
 | true=>have:=bz! h k;rw[cD!]at this;cases this
theorem fd!:∀ {a b:List P3},UpP a->UpP b->(∀x,x∈a↔x∈b)->a=b
 | [],[],_,_,_=>rfl
 | [],y::b,_,_,h=>absurd ((h y).2 (by simp)) (by simp)
 | x::a,[],_,_,h=>absurd ((h x).1 (by simp)) (by simp)
 | x::a,y::b,ha,hb,h=>by
  obtain⟨ha1,ha2⟩:=List.pairwise_cons.1 ha;obtain⟨hb1,hb2⟩:=List.pairwise_cons.1 hb
  have hxy:x=y:=by
   rcases v7!.1 ((h x).1 (by simp))with e | hx
   ·exact e
   ·rcases v7!.1 ((h y).2 (by simp))with e | hy
    ·exact e.symm
    ·have h1:=ha1 y hy;rw[nA! (hb1 x hx)]at h1;cases h1
  subst hxy;congr 1
  refine fd! ha2 hb2 fun z=>?_;constructor
  ·intro hz;rcases v7!.1 ((h z).1 (by simp[hz]))with rfl | k
   ·have:=ha1 z hz;rw[cD!]at this;cases this
   ·exact k
  ·intro hz;rcases v7!.1 ((h z).2 (by simp[hz]))with rfl | k
   ·have:=hb1 z hz;rw[cD!]at this;cases this
   ·exact k
theorem jL! {S:Nat->Prop}{w:World}{ao:Option Addr}{l:List Int}{c:Nat}(h:Sl S w 1 (.slice ao l.length c) (ic l)):∀i (hi:i<l.length),∃b off,ao=some ⟨b,off,none⟩/\S b/\w.cell? ⟨b,off+i,none⟩=some (.int .i64 l[i]):=by
 obtain⟨a0,n',c',hv,h1,h2,h3,h4,h5⟩:=h;cases hv;intro i hi;obtain⟨b,off,rfl,hb,hc⟩:=h5 (fun e=>by have:=congrArg List.length e;rw[ad!]at this;simp only[v6!]at this;omega);exact⟨b,off,rfl,hb,hc i _ (by simp[ic,hi])⟩
theorem ib! (w:World)(ps:List Int)(pv:Value)(g:Nat)(cap:Array Value)(eg:∀args W,(callFunc g args).run prog W= .ok (.enter g args) W)(q:Int->Bool)(hat:Sl (· < w.heap.size) w 1 pv (ic ps))(hf:∀i (hi:i<ps.length) W,Below w.heap.size w W->Calls prog g (#[.int .i64 ps[i]]++cap) W fun e W'=>e= .returned (.bool (q ps[i]))/\Below W.heap.size W W') :
  Calls prog 252 #[pv,.func (.func g) #[] cap] w fun e w'=>∃k:Int,e= .returned (.int .i64 k)/\(0<=k↔ps.any q=true)/\Below w.heap.size w w':=by
 obtain⟨ao,n,c,rfl,hn,a3,a2⟩:=hat.len;rw[ad!,Nat.mul_one]at hn;subst hn;have HC:=h! (jL! hat);have HF:=h! hf;clear hat hf;go_enter func252,ntmps252
 go_wp2_with fail
 go_loopw [5,8] (fun _ ii wr=>∃i:Nat,i<=ps.length/\ii= .int .i64 i/\(∀j (hj:j<ps.length),j<i->q ps[j]=false)/\Below w.heap.size w wr) (fun _ ii _=>ps.length-(intOf ii).toNat)
 case atStart=>exact⟨0,by omega,rfl,fun _ _ h=>absurd h (by omega),Below.refl _ _⟩
 case round =>
  obtain⟨i,hi,rfl,b,a⟩:=hrel;have d:=h! b;clear b;by_cases hlt:i<ps.length
  ·have o:=h! (fun h=>ah! (p:=fun j hj=>q ps[j]=false) d.out hlt h);have l:=h! (fun(h:q ps[i]=true)=>(show ps.any q=true from x5!.2 ⟨_,n5! hlt,h⟩));obtain⟨bb,a1,a0,hb,c0⟩:=HC.out i hlt;cases a0;have d0:=(a.cell (p:=⟨bb,a1+i,none⟩) hb).trans c0;have s:=h! (HF.out i hlt wr a);clear c0 hb;generalize ps[i]=p at *;have t:=h! a;clear a;cases r:q p with
   | true =>
    rw[r]at s;have HT:=h! (l.out r);clear o l r;go_wp2_with fail
    refine s.out.mono ?_;rintro e w5 ⟨rfl,f⟩;have m:=h! (t.out.trans (f.mono t.out.size));clear s f d0;go_wp2_with fail
    go_ret
    exact⟨_,rfl,⟨fun _=>HT.out,fun _=>by omega⟩,m.out⟩
   | false =>
    rw[r]at s;have HN:=h! (o.out r);clear o l r;go_wp2_with fail
    refine s.out.mono ?_;rintro e w5 ⟨rfl,f⟩;have m:=h! (t.out.trans (f.mono t.out.size));clear s f d0;go_wp2_with fail
    go_roundw
    case rel=>exact⟨i+1,by omega,by go_num,HN.out,m.out⟩
    case measure=>simp[intOf];omega
  ·obtain rfl:i=ps.length:=by omega
   have HN:=h! (show ¬ ps.any q=true from fun h=>by
    obtain⟨x,hx,r⟩:=x5!.1 h;obtain⟨j,hj,rfl⟩:=u0! hx;rw[d.out j hj hj]at r;cases r)
   have t:=h! a;clear a;go_wp2_with fail
   go_ret
   exact⟨_,rfl,⟨fun h=>absurd h (by omega),fun h=>absurd h HN.out⟩,t.out⟩
theorem eV! (w:World)(ps:List Int)(pv:Value)(g:Nat)(cap:Array Value)(eg:∀args W,(callFunc g args).run prog W= .ok (.enter g args) W)(q:Int->Bool)(hat:Sl (· < w.heap.size) w 1 pv (ic ps))(hf:∀i (hi:i<ps.length) W,Below w.heap.size w W->Calls prog g (#[.int .i64 ps[i]]++cap) W fun e W'=>e= .returned (.bool (q ps[i]))/\Below W.heap.size W W') :
  Calls prog 254 #[pv,.func (.func g) #[] cap] w fun e w'=>e= .returned (.bool (ps.any q))/\Below w.heap.size w w':=by
 have HI:=h! (ib! w ps pv g cap eg q hat hf);clear hat hf;go_enter func254,ntmps254
 go_wp2_with fail
 refine HI.out.mono ?_;rintro e w2 ⟨k,rfl,hk,hb⟩;have HK:=h! hk;have HB:=h! hb;clear HI hk hb;by_cases h0:0<=k
 ·have HM:=h! (HK.out.1 h0);go_wp2_with fail
  go_ret
  exact⟨by rw[HM.out];simp[],HB.out⟩
 ·have HM:Hid (ps.any q=false):=h! (by cases h:ps.any q with | false=>rfl | true=>exact absurd (HK.out.2 h) h0);go_wp2_with fail
  go_ret
  exact⟨by rw[HM.out];simp[h0],HB.out⟩
theorem ic! (w:World)(ps:List FT)(k:Int)(sa:List P3)(sb:List Int)(pv:FV3)(g:Nat)(cap:Array Value)(eg:∀args W,(callFunc g args).run prog W= .ok (.enter g args) W)(q:FT->Bool)(hat:FTAt (· < w.heap.size) w (.mk k sa sb ps) pv)(hf:∀i (hi:i<ps.length) W pvi,Below w.heap.size w W->FTAt (· < W.heap.size) W ps[i] pvi->Calls prog g (#[fV ps[i] pvi]++cap) W fun e W'=>e= .returned (.bool (q ps[i]))/\Below W.heap.size W W') :
  Calls prog 219 #[pv.2.2,.func (.func g) #[] cap] w fun e w'=>∃k:Int,e= .returned (.int .i64 k)/\(0<=k↔ps.any q=true)/\Below w.heap.size w w':=by
 obtain⟨a5,a3,a2⟩:=pv;obtain⟨ao,c,he,a1,a4,b⟩:=hat.rows;dsimp only[FT.ps]at he a1 b ⊢;subst he;have HC:=h! b;have HF:=h! hf;clear hat b hf;go_enter func219,ntmps219
 go_wp2_with fail
 go_loopw [5,8] (fun _ ii wr=>∃i:Nat,i<=ps.length/\ii= .int .i64 i/\(∀j (hj:j<ps.length),j<i->q ps[j]=false)/\Below w.heap.size w wr) (fun _ ii _=>ps.length-(intOf ii).toNat)
 case atStart=>exact⟨0,by omega,rfl,fun _ _ h=>absurd h (by omega),Below.refl _ _⟩
 case round =>
  obtain⟨i,hi,rfl,d,a⟩:=hrel;have l:=h! d;clear d;by_cases hlt:i<ps.length
  ·have s:=h! (fun h=>ah! (p:=fun j hj=>q ps[j]=false) l.out hlt h);have o:=h! (fun(h:q ps[i]=true)=>(show ps.any q=true from x5!.2 ⟨_,n5! hlt,h⟩));obtain⟨y,n,⟨e1,e2,e3⟩,a0,z,c0,c1,c2,c3,f⟩:=HC.out i hlt;cases a0;dsimp only at c1 c2 c3;have d0:=(a.cell (p:=⟨y,n+i*4,none⟩) z).trans c0;have d1:=(a.cell (p:=⟨y,n+i*4+1,none⟩) z).trans c1;have d2:=(a.cell (p:=⟨y,n+i*4+2,none⟩) z).trans c2;have d3:=(a.cell (p:=⟨y,n+i*4+3,none⟩) z).trans c3;have u:=h! (HF.out i hlt wr (e1,e2,e3) a (f.up a));clear c0 c1 c2 c3 f z;unfold fV at u;dsimp only at u;generalize ps[i]=p at *;have v:=h! a;clear a;cases t:q p with
   | true =>
    rw[t]at u;have HT:=h! (o.out t);clear s o t;go_wp2_with fail
    refine u.out.mono ?_;rintro e w5 ⟨rfl,m⟩;have r:=h! (v.out.trans (m.mono v.out.size));clear u m d0 d1 d2 d3;go_wp2_with fail
    go_ret
    exact⟨_,rfl,⟨fun _=>HT.out,fun _=>by omega⟩,r.out⟩
   | false =>
    rw[t]at u;have HN:=h! (s.out t);clear s o t;go_wp2_with fail
    refine u.out.mono ?_;rintro e w5 ⟨rfl,m⟩;have r:=h! (v.out.trans (m.mono v.out.size));clear u m d0 d1 d2 d3;go_wp2_with fail
    go_roundw
    case rel=>exact⟨i+1,by omega,by go_num,HN.out,r.out⟩
    case measure=>simp[intOf];omega
  ·obtain rfl:i=ps.length:=by omega
   have HN:=h! (show ¬ ps.any q=true from fun h=>by
    obtain⟨x,hx,t⟩:=x5!.1 h;obtain⟨j,hj,rfl⟩:=u0! hx;rw[l.out j hj hj]at t;cases t)
   have v:=h! a;clear a;go_wp2_with fail
   go_ret
   exact⟨_,rfl,⟨fun h=>absurd h (by omega),fun h=>absurd h HN.out⟩,v.out⟩
theorem cF! (w:World)(ps:List FT)(k:Int)(sa:List P3)(sb:List Int)(pv:FV3)(g:Nat)(cap:Array Value)(eg:∀args W,(callFunc g args).run prog W= .ok (.enter g args) W)(q:FT->Bool)(hat:FTAt (· < w.heap.size) w (.mk k sa sb ps) pv)(hf:∀i (hi:i<ps.length) W pvi,Below w.heap.size w W->FTAt (· < W.heap.size) W ps[i] pvi->Calls prog g (#[fV ps[i] pvi]++cap) W fun e W'=>e= .returned (.bool (q ps[i]))/\Below W.heap.size W W') :
  Calls prog 257 #[pv.2.2,.func (.func g) #[] cap] w fun e w'=>e= .returned (.bool (ps.any q))/\Below w.heap.size w w':=by
 have HI:=h! (ic! w ps k sa sb pv g cap eg q hat hf);clear hat hf;go_enter func257,ntmps257
 go_wp2_with fail
 refine HI.out.mono ?_;rintro e w2 ⟨k,rfl,hk,hb⟩;have HK:=h! hk;have HB:=h! hb;clear HI hk hb;by_cases h0:0<=k
 ·have HM:=h! (HK.out.1 h0);go_wp2_with fail
  go_ret
  exact⟨by rw[HM.out];simp[],HB.out⟩
 ·have HM:Hid (ps.any q=false):=h! (by cases h:ps.any q with | false=>rfl | true=>exact absurd (HK.out.2 h) h0);go_wp2_with fail
  go_ret
  exact⟨by rw[HM.out];simp[h0],HB.out⟩
theorem jP! (v:Value)(l:List P3)(k:P3)(w:World)(h:Sl (· < w.heap.size) w 3 v (pcs l)) :
  Calls prog 268 #[v,pV k] w fun e w'=>(∃i:Int,e= .returned (.int .i64 i)/\(0<=i↔k∈l))/\Below w.heap.size w w':=by
 obtain⟨ao,c,rfl,a2,a1,hc⟩:=Sl.rows aj! (by decide) (show Sl (· < w.heap.size) w 3 v (l.flatMap pC)from h);have HC:=h! hc;clear hc h;obtain⟨E,g⟩:=e! (w.alloc (.cells #[.string k.t,.string k.i,.string k.r] 33));have e2:E.heap.size=w.heap.size+1:=by rw[g];simp
 have KB:=h! (show Blk E w.heap.size #[.string k.t,.string k.i,.string k.r] 33 from bm! g);have X2:=h! (show Ext w E from xa! g);unfold pV;go_enter func268,ntmps268
 go_wp2_with fail
 rw[<-g];clear g e2;go_loopw [5,8] (fun _ iv wr=>∃i:Nat,i<=l.length/\iv= .int .i64 i/\(∀j (hj:j<l.length),j<i->l[j]≠k)/\Ext E wr) (fun _ iv _=>l.length-(intOf iv).toNat)
 case atStart=>exact⟨0,v1! _,rfl,(fun _ _ h=>absurd h (Nat.not_lt_zero _)),Ext.refl _⟩
 case round =>
  obtain⟨i,hi,rfl,a,hx⟩:=hrel;have f:=h! a;have D:=h! hx;clear a hx;by_cases hlt:i<l.length
  ·obtain⟨b,y,rfl,hb,z⟩:=HC.out (by omega);have G:=h! (fun W (hW:Ext wr W)=>show ∀(o:Nat) v,(pC l[i])[o]?=some v->W.cell? ⟨b,y+i*3+o,none⟩=some v from fun o v ho=>(X2.out.trans (D.out.trans hW)).cell (z i hlt o v ho));have a0:(i:Int)<(l.length:Int):=by omega
   have m:=h! hlt;have s:=h! (fun(h:l[i]≠k)=>ah! (p:=fun j hj=>l[j]≠k) f.out hlt h);have q:=h! (fun(h:l[i]=k)=>(show k∈l from h▸n5! hlt));generalize l[i]=x at *;clear hlt hb z;go_wp2_with fail
   obtain⟨F,u⟩:=e! (World.drew wr);have C:=h! (show Ext wr F from xd! u);refine re! u ?_;clear u;have h0:∀W,Ext F W->W.cell? ⟨b,y+i*3,none⟩=some (.string x.t):=fun W h=>G.out W (C.out.trans h) 0 _ rfl;have h1:=fun W (h:Ext F W)=>G.out W (C.out.trans h) 1 _ rfl;have h2:=fun W (h:Ext F W)=>G.out W (C.out.trans h) 2 _ rfl;have h3:=fun W (h:Ext F W)=>(KB.out.below (D.out.trans (C.out.trans h))).cells;have h4:=fun W=>mp! k x W;unfold pV at h4;have B:∃bq,Hid (decide (k=x)=bq):=⟨_,h! rfl⟩;obtain⟨bq,B⟩:=B;rw[B.out]at h4;(refine WalkN.tk [0,1,2,3,4,5] ?_;(iterate 6 (refine c! ?_));refine TkN.n ?_)
   refine d! ?_;clear h0 h1 h2 h3 h4 a0;cases bq with
   | true =>
    have HM:=h! (q.out (of_decide_eq_true B.out).symm);have HE:Hid (Below w.heap.size w F):=h! (X2.out.trans (D.out.trans C.out));clear s q B;go_wp2_with fail
    go_ret
    exact⟨⟨_,rfl,⟨fun _=>HM.out,fun _=>by omega⟩⟩,HE.out⟩
   | false =>
    have HN:=h! (s.out fun e=>of_decide_eq_false B.out e.symm);have A:=h! (show wrap64 ((i:Int)+1)=((i+1:Nat):Int)from by have:=m.out;unfold wrap64;omega);clear s q B;go_wp2_with fail
    go_roundw
    case rel=>exact⟨i+1,m.out,by first | rw[A.out] | go_num,HN.out,D.out.trans C.out⟩
    case measure=>have:=m.out;(try rw[A.out]);simp[intOf];omega
  ·obtain rfl:i=l.length:=by omega
   have HN:=h! (show k∉l from fun hk=>by obtain⟨j,hj,e⟩:=u0! hk;exact f.out j hj hj e);have HE:Hid (Below w.heap.size w wr):=h! (X2.out.trans D.out);go_wp2_with fail
   go_ret
   exact⟨⟨_,rfl,⟨fun h=>absurd h (by decide),fun h=>absurd h HN.out⟩⟩,HE.out⟩
theorem fK! (v:Value)(l:List P3)(k:P3)(w:World)(h:Sl (· < w.heap.size) w 3 v (pcs l)) :
  Calls prog 216 #[v,pV k] w fun e w'=>e= .returned (.bool (decide (k∈l)))/\Below w.heap.size w w':=by
 obtain⟨w2,a⟩:=e! (w.alloc (.cells #[.string k.t,.string k.i,.string k.r] 33));have KB:=h! (show Blk w2 w.heap.size #[.string k.t,.string k.i,.string k.r] 33 from bm! a);have X2:=h! (show Ext w w2 from xa! a);have HI:=h! (jP! v l k w2 ((h.same (Same.below X2.out)).mono fun _ h=>n1! h X2.out.size));obtain⟨ao,c,rfl,-⟩:=Sl.rows aj! (by decide) (show Sl (· < w.heap.size) w 3 v (l.flatMap pC)from h);clear h;unfold pV at HI ⊢;go_enter func216,ntmps216
 go_wp2_with fail
 rw[<-a];clear a;have hk:=KB.out.cells;go_wp2_with fail
 refine HI.out.mono ?_;rintro e w1 ⟨⟨i,rfl,b⟩,hb⟩;have HB:Hid (Below w.heap.size w w1):=h! (Ext.trans X2.out hb);clear hk hb;by_cases hk:k∈l
 ·have d:=b.2 hk;clear b;go_wp2_with fail
  go_ret
  exact⟨by rw[v2! hk];simp[],HB.out⟩
 ·have d:¬ (0<=i):=fun h=>hk (b.1 h);have hd:decide (0<=i)=false:=v3! d;clear b d;go_wp2_with fail
  go_ret
  exact⟨by rw[v3! hk];rfl,HB.out⟩
def msC (ms:List Nat):List Value:=ms.map fun m => .map (some m)
theorem bI! (ms:List Nat):(msC ms).length=ms.length:=by simp[msC]
structure LkM (w:World)(ms:List Nat)(L:List (List O2)):Prop where
 len:ms.length=L.length
 sets:∀i (h1:i<ms.length) (h2:i<L.length),OS w ms[i] L[i]
 nodup:ms.Nodup
structure LkS (w:World)(sp:Nat)(pv fv:Value)(typ:ByteArray)(iv:Value)(ms:List Nat)(ma:Nat)(L:List (List O2))(all:List O2):Prop where
 box:Blk w sp #[pv,fv,.string typ,iv,.map (some ma)] 284
 row:Sl (fun b=>b<w.heap.size/\b≠ma/\b∉ms) w 1 iv (msC ms)
 mem:LkM w ms L
 alls:OS w ma all
 ne:ma∉ms
section
variable {w w' : World} {sp ma : Nat} {pv fv iv : Value} {typ : ByteArray} {ms : List Nat} {L : List (List O2)} {all : List O2}
theorem LkM.ext (h:LkM w ms L)(hx:Ext w w'):LkM w' ms L:=⟨h.len,fun i h1 h2=>(h.sets i h1 h2).below hx,h.nodup⟩
theorem LkS.ext (h:LkS w sp pv fv typ iv ms ma L all)(hx:Ext w w'):LkS w' sp pv fv typ iv ms ma L all :=
 ⟨h.box.below hx,(h.row.same fun b hb=>hx.block b hb.1).mono fun _ hb=>⟨n1! hb.1 hx.size,hb.2⟩,h.mem.ext hx,h.alls.below hx,h.ne⟩
theorem LkM.lt (h:LkM w ms L):∀m∈ms,m<w.heap.size:=fun m hm=>by
 obtain⟨i,hi,rfl⟩:=u0! hm;exact(h.sets i hi (by rw[<-h.len];exact hi)).lt
theorem LkS.spNe (h:LkS w sp pv fv typ iv ms ma L all):sp≠ma:=fun e=>h.alls.notCells _ _ _ (e▸h.box)
theorem LkS.spNot (h:LkS w sp pv fv typ iv ms ma L all):sp∉ms:=fun hm=>by
 obtain⟨i,hi,e⟩:=u0! hm;exact(h.mem.sets i hi (by rw[<-h.mem.len];exact hi)).notCells _ _ _ (e▸h.box)
theorem LkS.setAll (h:LkS w sp pv fv typ iv ms ma L all)(hk:Tk ma w w') {all':List O2}(ha:OS w' ma all'):LkS w' sp pv fv typ iv ms ma L all' :=
 ⟨hk.box h.box h.spNe,(h.row.same fun b hb=>hk.block b ⟨hb.1,hb.2.1⟩).mono fun _ hb=>⟨n1! hb.1 hk.size,hb.2⟩,
  ⟨h.mem.len,fun i h1 h2=>(h.mem.sets i h1 h2).same (hk.block _ ⟨(h.mem.sets i h1 h2).lt,fun e=>h.ne (e▸n5! h1)⟩),h.mem.nodup⟩,ha,h.ne⟩
theorem LkS.setAt (h:LkS w sp pv fv typ iv ms ma L all) {i:Nat}(hi:i<ms.length)(hk:Tk ms[i] w w') {A:List O2}(ha:OS w' ms[i] A):LkS w' sp pv fv typ iv ms ma (L.set i A) all:=by
 have hm:=n5! hi
 refine⟨hk.box h.box fun e=>h.spNot (e▸hm),(h.row.same fun b hb=>hk.block b ⟨hb.1,fun e=>hb.2.2 (e▸hm)⟩).mono fun _ hb=>⟨n1! hb.1 hk.size,hb.2⟩,
  ⟨by rw[List.length_set];exact h.mem.len,fun j h1 h2=>?_,h.mem.nodup⟩,h.alls.same (hk.block _ ⟨h.alls.lt,fun e=>h.ne (e▸hm)⟩),h.ne⟩
 rw[List.getElem_set];by_cases e:i=j
 ·subst e;rw[if_pos rfl];exact ha
 ·rw[if_neg e];have h3:j<L.length:=by rw[List.length_set]at h2;exact h2
  exact(h.mem.sets j h1 h3).same (hk.block _ ⟨(h.mem.sets j h1 h3).lt,fun e2=>e ((List.getElem_inj h.mem.nodup).1 e2.symm)⟩)
theorem ms_at {S:Nat->Prop}{ao:Option Addr}{n c:Nat}(h:Sl S w 1 (.slice ao n c) (msC ms)):n=ms.length/\∀i (hi:i<ms.length),∃b off,ao=some ⟨b,off,none⟩/\S b/\w.cell? ⟨b,off+i,none⟩=some (.map (some ms[i])):=by
 obtain⟨a0,n',c',hv,h1,h2,h3,h4,h5⟩:=h;cases hv;rw[bI!,Nat.mul_one]at h1;refine⟨h1.symm,fun i hi=>?_⟩;obtain⟨b,off,rfl,hb,hc⟩:=h5 (fun e=>by have:=congrArg List.length e;rw[bI!]at this;simp only[v6!]at this;omega);exact⟨b,off,rfl,hb,hc i _ (by simp[msC,hi])⟩
def RfI (L:List (List O2))(l:List Int)(o:O2):Prop:=∃k∈l,0<=k/\o∈L.getD k.toNat []
theorem RfI.snoc {l:List Int}{k:Int}{o:O2}:RfI L (l++[k]) o↔RfI L l o\/(0<=k/\o∈L.getD k.toNat []):=by
 unfold RfI;constructor
 ·rintro⟨x,a,h⟩;rcases u3!.1 a with a | a
  ·exact .inl ⟨x,a,h⟩
  ·rw[n9!.1 a]at h;exact .inr h
 ·rintro(⟨x,a,h⟩ | h)
  ·exact⟨x,List.mem_append_left _ a,h⟩
  ·exact⟨k,by simp,h⟩
theorem nO! {L:List (List O2)}{k:Nat}(h:L.length<=k):L.getD k []=[]:=by rw[n8!,y0! h];rfl
theorem hg! {L:List (List O2)}{k:Nat}(h:k<L.length):L.getD k []=L[k]:=by rw[n8!,n4! h];rfl
theorem gM! (h:LkS w sp pv fv typ iv ms ma L all)(l:List Int)(rv:Value)(hr:Sl (· < w.heap.size) w 1 rv (ic l)) :
  Calls prog 225 #[.pointer (some ⟨sp,0,none⟩),rv] w fun e w'=>∃b A,e= .returned (.map (some b))/\w.heap.size<=b/\OS w' b A/\(∀o,o∈A↔RfI L l o)/\Ext w w':=by
 have F:=h! h;obtain⟨io,n,c0,rfl,hn,-,-⟩:=h.row.len;obtain⟨ro,rn,c,rfl,z,a3,a7⟩:=hr.len;rw[ad!,Nat.mul_one]at z;rw[bI!,Nat.mul_one]at hn;subst z hn;have HR:=h! (jL! hr);have v:l.length<=9223372036854775807:=by omega
 have ab:=h! v;clear h hr a7 v a3;have r:Hid (OS (w.alloc (.map #[] 0)) w.heap.size []):=h! (Mp.made w);have y:=h! (Ext.alloc w (.map #[] 0));have a6:=@run_makeMap prog;go_enter func225,ntmps225
 go_wp2_with fail
 clear a6;obtain⟨mb,f⟩:∃x,Hid (x=w.heap.size):=⟨_,h! rfl⟩;rw[<-f.out]at r;try rw[<-f.out]
 go_loopw [11] (fun iv wr=>∃(i:Nat) (A:List O2),i<=l.length/\iv= .int .i64 i/\OS wr mb A/\(∀o,o∈A↔RfI L (l.take i) o)/\Ext w wr) (fun iv _=>l.length-(intOf iv).toNat)
 case atStart=>exact⟨0,[],v1! _,rfl,r.out,fun o=>by simp[RfI],y.out⟩
 case round =>
  obtain⟨i,A,hi,rfl,hA,hm,hx⟩:=hrel;have E:=h! hA;have I:=h! hm;have J:=h! hx;clear hA hm hx r y;by_cases hlt:i<l.length
  ·have a:=h! hlt;have m:=h! (n2! hlt);obtain⟨b,ac,a9,H,c0⟩:=HR.out i hlt;cases a9;have d0:=J.out.cell c0;have j:=h! (F.out.ext J.out);have q:=j.out.box.cells;have ad:(i:Int)<(l.length:Int):=by omega
   have d:=h! (show wrap64 ((i:Int)+1)=((i+1:Nat):Int)from by have:=ab.out;unfold wrap64;omega);generalize l[i]=k at *;clear H c0 hlt;by_cases hk0:0<=k
   rotate_left
   ·have G:=h! (show ∀o,o∈A↔RfI L (l.take (i+1)) o from fun o=>by rw[m.out,RfI.snoc,I.out o];exact⟨.inl,fun h=>h.elim id fun h=>absurd h.1 hk0⟩);go_wp2_with fail
    go_roundw
    case rel=>exact⟨i+1,A,a.out,by first | rw[d.out] | go_num,E.out,G.out,J.out⟩
    case measure=>have:=a.out;(try rw[d.out]);simp[intOf];omega
   by_cases hk1:k<(ms.length:Int)
   rotate_left
   ·have G:=h! (show ∀o,o∈A↔RfI L (l.take (i+1)) o from fun o=>by
     rw[m.out,RfI.snoc,I.out o,nO! (by have:=F.out.mem.len;omega)];simp)
    go_wp2_with fail
    go_roundw
    case rel=>exact⟨i+1,A,a.out,by first | rw[d.out] | go_num,E.out,G.out,J.out⟩
    case measure=>have:=a.out;(try rw[d.out]);simp[intOf];omega
   obtain⟨D,rfl⟩:∃D:Nat,k=(D:Int):=⟨k.toNat,by omega⟩;have p:D<ms.length:=by omega
   have g:D<L.length:=by have:=F.out.mem.len;omega
   obtain⟨ib,aa,a4,a5,e0⟩:=(ms_at j.out.row).2 D p;cases a4;have a1:=h! (j.out.mem.sets D p g)
   have u:=h! (eX! mb ms[D] A L[D] wr E.out a1.out (fun e=>by
    have h1:=F.out.mem.lt _ (n5! p);rw[<-e,f.out]at h1;omega))
   have G:=h! (show ∀o,RfI L (l.take (i+1)) o↔o∈A\/o∈L[D]from fun o=>by
    rw[m.out,RfI.snoc,I.out o,Int.toNat_natCast,hg! g];simp)
   generalize ms[D]=mk at *;generalize L[D]=Lk at *;clear a5 g;go_wp2_with fail
   refine u.out.mono ?_;rintro e w5 ⟨rfl,⟨A',t,s⟩,C⟩;have a0:=h! t;have a2:Hid (∀o,o∈A'↔RfI L (l.take (i+1)) o):=h! (fun o=>by rw[s o,G.out o]);have a8:=h! (show Ext w w5 from Below.trans (show Below w.heap.size w wr from J.out) (Kept.below (B:=w.heap.size) C fun b H=>⟨n1! H J.out.size,fun e=>by rw[e,f.out]at H;exact Nat.lt_irrefl _ H⟩));clear t s C u d0 e0 q;go_wp2_with fail
   go_roundw
   case rel=>exact⟨i+1,A',a.out,by first | rw[d.out] | go_num,a0.out,a2.out,a8.out⟩
   case measure=>have:=a.out;(try rw[d.out]);simp[intOf];omega
  ·obtain rfl:i=l.length:=by omega
   rw[u2!]at I;go_wp2_with fail
   go_ret
   exact⟨mb,A,rfl,by rw[f.out];exact n0! _,E.out,I.out,J.out⟩
end
def NoPt (w:World)(b:Nat):Prop:=∀cs,w.heap[b]?≠some (.cells cs 32 (0,0))
def FS (lo:Nat)(w:World)(b:Nat):Prop:=lo<=b/\b<w.heap.size/\NoPt w b
abbrev PKept (M:Nat->Prop) (B:Nat) (w w':World):Prop:=pR! 32 M B w w'
section
variable {w w' w'' : World} {M : Nat -> Prop} {B lo : Nat}
theorem FS.same (h:PKept M B w w')(hM:∀x,M x->x<lo):Same (FS lo w) w w':=fun b hb=>h.block b (.inr ⟨fun hm=>by have:=hM b hm;have:=hb.1;omega,hb.2.1,hb.2.2⟩)
theorem FS.keep (h:PKept M B w w')(hM:∀x,M x->x<lo) {b:Nat}(hb:FS lo w b):FS lo w' b :=
 ⟨hb.1,n1! hb.2.1 h.size,fun cs=>by rw[FS.same h hM b hb];exact hb.2.2 cs⟩
theorem FS.mono {lo':Nat}(h:lo<=lo') {b:Nat}(hb:FS lo' w b):FS lo w b:=⟨n6! h hb.1,hb.2⟩
theorem FS.ext (h:Ext w w') {b:Nat}(hb:FS lo w b):FS lo w' b:=⟨hb.1,n1! hb.2.1 h.size,fun cs=>by rw[h.block b hb.2.1];exact hb.2.2 cs⟩
theorem Own.fs {e:TypeId}{sz:Nat}{v:Value}{xs:List Value}(h:Own w lo e sz v xs)(he:e≠32):Sl (FS lo w) w sz v xs:=by
 obtain⟨n,b⟩:=h;refine cw! b _ fun g hg=>⟨(b.lt g hg).1,(b.lt g hg).2,fun cs hc=>?_⟩;obtain⟨a0,a⟩:=(show Own w lo e sz v xs from⟨n,b⟩).typed hg;rw[hc]at a;injection a with a
 injection a with _ a _
 exact he a.symm
end
structure FRow (lo:Nat)(w:World)(q:List (FT × FV3))(pv:Value):Prop where
 row:Own w lo 128 4 pv (q.flatMap fC)
 parts:∀x∈q,FTAt (fun b=>FS lo w b/\pv.ownBlock≠some b) w x.1 x.2
section
variable {w w' w1 w3 : World} {M : Nat -> Prop} {B lo n0 : Nat} {q : List (FT × FV3)} {pv v' : Value} {x : FT × FV3}
theorem FRow.nil (lo:Nat)(w:World):FRow lo w [] (.slice none 0 0):=⟨Own.nil _ _ _ _,fun x hx=>by cases hx⟩
theorem FRow.keep (h:FRow lo w q pv)(hk:PKept M B w w')(hM:∀x,M x->x<lo):FRow lo w' q pv :=
 ⟨h.row.keepOwn fun g hg=>FS.same hk hM g ⟨(h.row.block g hg).1,(h.row.block g hg).2,fun cs hc=>by
   obtain⟨cur,h2⟩:=h.row.typed hg;rw[hc]at h2;injection h2 with h2
   injection h2 with _ h2 _
   exact absurd h2 (by decide)⟩,
  fun x hx=>((h.parts x hx).same fun b hb=>FS.same hk hM b hb.1).mono fun b hb=>⟨FS.keep hk hM hb.1,hb.2⟩⟩
theorem FRow.ext (h:FRow lo w q pv)(hx:Ext w w'):FRow lo w' q pv :=
 ⟨h.row.below hx,fun x hm=>((h.parts x hm).same fun b hb=>hx.block b hb.1.2.1).mono fun _b hb=>⟨hb.1.ext hx,hb.2⟩⟩
theorem FRow.above (h:FRow lo w q pv)(hs:∀b,lo<=b->b<w.heap.size->w'.heap[b]?=w.heap[b]?)(hz:w.heap.size<=w'.heap.size):FRow lo w' q pv :=
 ⟨h.row.keepOwn fun g hg=>hs g (h.row.block g hg).1 (h.row.block g hg).2,fun x hx=>((h.parts x hx).same fun b hb=>hs b hb.1.1 hb.1.2.1).mono fun b hb=>⟨⟨hb.1.1,n1! hb.1.2.1 hz,fun cs=>by rw[hs b hb.1.1 hb.1.2.1];exact hb.1.2.2 cs⟩,hb.2⟩⟩
theorem FRow.add (h:FRow lo w1 q pv)(hk:∀b,b<w1.heap.size->pv.ownBlock≠some b->w3.heap[b]?=w1.heap[b]?)(hz:w1.heap.size<=w3.heap.size)(ho:Own w3 lo 128 4 v' (q.flatMap fC++fC x))
  (hb:∀g,v'.ownBlock=some g->pv.ownBlock=some g\/w1.heap.size<=g) (hx:FTAt (FS n0 w1) w1 x.1 x.2) (hn0:lo<=n0) (hpv:∀g,pv.ownBlock=some g->g<n0):FRow lo w3 (q++[x]) v':=by
 have hm:∀b,(FS lo w1 b/\pv.ownBlock≠some b)->(FS lo w3 b/\v'.ownBlock≠some b):=fun b hb'=>⟨⟨hb'.1.1,n1! hb'.1.2.1 hz,fun cs=>by rw[hk b hb'.1.2.1 hb'.2];exact hb'.1.2.2 cs⟩,fun e=>by
  rcases hb b e with e2 | e2
  ·exact hb'.2 e2
  ·have:=hb'.1.2.1;omega⟩
 refine⟨by rw[x9!];simpa using ho,fun y hy=>?_⟩;rcases u3!.1 hy with hy | hy
 ·exact((h.parts y hy).same fun b hb'=>hk b hb'.1.2.1 hb'.2).mono hm
 ·obtain rfl:=n9!.1 hy;have h2:∀b,FS n0 w1 b->(FS lo w1 b/\pv.ownBlock≠some b):=fun b hb'=>⟨hb'.mono hn0,fun e=>by have:=hpv b e;have:=hb'.1;omega⟩;exact((hx.mono h2).same fun b hb'=>hk b hb'.1.2.1 hb'.2).mono hm
theorem FRow.forms (h:FRow lo w q pv):∃p:List (FT × FV3),p.map (·.1)=q.map (·.1)/\(∀x∈p,FTAt (FS lo w) w x.1 x.2)/\Sl (FS lo w) w 4 pv (p.flatMap fC) :=
 ⟨q,rfl,fun x hx=>(h.parts x hx).mono fun b hb=>hb.1,h.row.fs (by decide)⟩
end
def GrAt (S:Nat->Prop)(w:World)(ps:List P3)(fs:List FT)(pv fv:Value):Prop :=
 Sl S w 3 pv (pcs ps)/\∃q:List (FT × FV3),q.map (·.1)=fs/\(∀x∈q,FTAt S w x.1 x.2)/\Sl S w 4 fv (q.flatMap fC)
theorem GrAt.same {S:Nat->Prop}{w w':World}{ps:List P3}{fs:List FT}{pv fv:Value}(h:GrAt S w ps fs pv fv)(hs:Same S w w'):GrAt S w' ps fs pv fv:=by
 obtain⟨h1,q,h2,h3,h4⟩:=h;exact⟨h1.same hs,q,h2,fun x hx=>(h3 x hx).same hs,h4.same hs⟩
theorem GrAt.mono {S T:Nat->Prop}{w:World}{ps:List P3}{fs:List FT}{pv fv:Value}(h:GrAt S w ps fs pv fv)(hs:∀b,S b->T b):GrAt T w ps fs pv fv:=by
 obtain⟨h1,q,h2,h3,h4⟩:=h;exact⟨h1.mono hs,q,h2,fun x hx=>(h3 x hx).mono hs,h4.mono hs⟩
theorem GrAt.up {w w':World}{ps:List P3}{fs:List FT}{pv fv:Value}(h:GrAt (· < w.heap.size) w ps fs pv fv)(hb:Below w.heap.size w w'):GrAt (· < w'.heap.size) w' ps fs pv fv :=
 (h.same (Same.below hb)).mono fun _ h=>n1! h hb.size
abbrev nuV:Nat->Value:=fun n => .int .i64 n
theorem jy! (p:P3):∀(ps:List P3)(k:Nat),lookA (ps.zipIdx k) p=if p∈ps then some (k+numD ps p)else none
 | [],_=>rfl
 | x::ps,k=>by
  rw[List.zipIdx_cons];unfold lookA;by_cases h:x=p
  ·subst h;simp[numD,List.findIdx_cons]
  ·rw[if_neg h,jy! p ps (k+1)];have hp:¬ p=x:=fun e=>h e.symm;simp only[v7!,hp,false_or,numD,List.findIdx_cons,h,decide_false,cond_false];split
   ·congr 1;omega
   ·rfl
theorem oH! (p:P3)(ps:List P3)(h:p∉ps):putA (ps.zipIdx 0) p ps.length=(ps++[p]).zipIdx 0:=by
 rw[bf! (fun x hx e=>h (by
  have:=List.mem_map_of_mem (f:=Prod.fst) hx;rw[List.zipIdx_map_fst]at this;rw[<-e];exact this)),List.zipIdx_append]
 simp
theorem jm! (ps:List P3)(p:P3)(h:p∉ps):numD ps p=ps.length:=by
 unfold numD;rw[List.findIdx_eq_length];intro x hx;simp only[decide_eq_false_iff_not];exact fun e=>h (e▸hx)
structure WkAt (w:World)(wp am B:Nat)(tv fi sm:Value)(ps:List P3)(pv fv:Value):Prop where
 box:Blk w wp #[tv,fi,sm,.map (some am),pv,fv,.int .i64 0] 251
 num:Mp prog 32 pV nuV w am (ps.zipIdx 0)
 pts:Own w B 32 3 pv (pcs ps)
abbrev WM (wp am:Nat):Nat->Prop:=fun x=>x=wp\/x=am
section
variable {w w' : World} {wp am B : Nat} {tv fi sm pv fv pv' fv' : Value} {ps : List P3} {p : P3}
theorem WkAt.ext (h:WkAt w wp am B tv fi sm ps pv fv)(hx:Ext w w'):WkAt w' wp am B tv fi sm ps pv fv:=⟨h.box.below hx,h.num.below hx,h.pts.below hx⟩
theorem WkAt.same (h:WkAt w wp am B tv fi sm ps pv fv)(h1:w'.heap[wp]?=w.heap[wp]?)(h2:w'.heap[am]?=w.heap[am]?)(h3:∀g,pv.ownBlock=some g->w'.heap[g]?=w.heap[g]?):WkAt w' wp am B tv fi sm ps pv fv:=⟨h1.trans h.box,h.num.same h2,h.pts.keepOwn h3⟩
theorem WkAt.ne (h:WkAt w wp am B tv fi sm ps pv fv):wp≠am:=fun e=>h.num.notCells _ _ _ (e▸h.box)
theorem WkAt.ptNe (h:WkAt w wp am B tv fi sm ps pv fv):∀g,pv.ownBlock=some g->g≠wp/\g≠am:=fun g hg=>by
 obtain⟨cur,h2⟩:=h.pts.typed hg;refine⟨fun e=>?_,fun e=>?_⟩
 ·subst e;rw[show w.heap[g]?=_ from h.box]at h2;injection h2 with h2
  injection h2 with _ h2 _
  exact absurd h2 (by decide)
 ·subst e;exact h.num.notCells _ _ _ h2
end
abbrev KX (wp am:Nat) (w:World) (pv:Value) (x:Nat):Prop:=x<w.heap.size/\x≠wp/\x≠am/\pv.ownBlock≠some x
structure Fine (wp am:Nat)(w w':World)(pv pv':Value):Prop where
 kept:Kept (KX wp am w pv) w w'
 wher:∀g,pv'.ownBlock=some g->pv.ownBlock=some g\/w.heap.size<=g
section
variable {w w' w'' w0 : World} {wp am B B' : Nat} {tv fi sm pv fv pv' pv'' v : Value} {ps : List P3} {e : TypeId} {sz : Nat} {xs : List Value}
theorem Fine.of (wp am:Nat)(pv:Value)(h:Ext w w'):Fine wp am w w' pv pv:=⟨Below.kept h fun _ hx=>hx.1,fun _ hg => .inl hg⟩
theorem Fine.trans (h:Fine wp am w w' pv pv')(k:Fine wp am w' w'' pv' pv''):Fine wp am w w'' pv pv'' :=
 ⟨h.kept.trans (k.kept.mono fun x (hx:KX wp am w pv x)=>⟨n1! hx.1 h.kept.size,hx.2.1,hx.2.2.1,fun e=>by
   rcases h.wher x e with e2 | e2
   ·exact hx.2.2.2 e2
   ·have:=hx.1;omega⟩),
  fun g hg=>by
   rcases k.wher g hg with e | e
   ·exact h.wher g e
   ·exact .inr (n6! h.kept.size e)⟩
theorem Fine.size (h:Fine wp am w w' pv pv'):w.heap.size<=w'.heap.size:=h.kept.size
theorem Fine.own (h:Fine wp am w0 w pv pv')(ho:Own w w0.heap.size e sz v xs)(hg:w.grownBy w' v.ownBlock):Fine wp am w0 w' pv pv' :=
 ⟨⟨hg.os.trans h.kept.os,hg.tape.trans h.kept.tape,hg.output.trans h.kept.output,n6! h.kept.size hg.size,fun x hx=>(hg.block x (n1! hx.1 h.kept.size) fun e=>by have:=(ho.block x e.symm).1;have:=hx.1;omega).trans (h.kept.block x hx)⟩,h.wher⟩
theorem Fine.set (h:Fine wp am w0 w pv pv') {x i:Nat}(hx:w0.heap.size<=x)(u:Value):Fine wp am w0 (w.setCell ⟨x,i,none⟩ u) pv pv' :=
 ⟨h.kept.set (fun hk=>by have h1:x<w0.heap.size:=hk.1;omega) _,h.wher⟩
theorem Fine.pk (h:Fine wp am w w' pv pv')(hw:WkAt w wp am B tv fi sm ps pv fv)(hB:B<=wp/\B<=am):PKept (WM wp am) B w w':=h.kept.mono fun x hx=>by
 rcases hx with hx | ⟨h1,h2,h3⟩
 ·exact⟨by have:=hw.box.lt;omega,by omega,by omega,fun e=>by have:=(hw.pts.block x e).1;omega⟩
 ·refine⟨h2,fun e=>h1 (.inl e),fun e=>h1 (.inr e),fun e=>?_⟩;obtain⟨c,hc⟩:=hw.pts.typed e;exact h3 c hc
theorem WkAt.un (h:WkAt w wp am B tv fi sm ps pv fv) {x:Nat}{cs:Array Value}{fr:Nat × Nat}(hx:w.heap[x]?=some (.cells cs e fr))(he:e≠32)(he2:e≠251):KX wp am w pv x:=by
 refine⟨(x7!.1 hx).1,fun e=>?_,fun e=>?_,fun e=>?_⟩
 ·subst e;rw[show w.heap[x]?=_ from h.box]at hx;injection hx with hx
  injection hx with _ hx _
  exact he2 hx.symm
 ·subst e;exact h.num.notCells _ _ _ hx
 ·obtain⟨c,hc⟩:=h.pts.typed e;rw[hc]at hx;injection hx with hx
  injection hx with _ hx _
  exact he hx.symm
theorem Fine.blk (h:Fine wp am w w' pv pv')(hw:WkAt w wp am B tv fi sm ps pv fv) {x:Nat}{cs:Array Value}(hx:Blk w x cs e)(he:e≠32)(he2:e≠251):Blk w' x cs e:=(h.kept.block x (hw.un hx he he2)).trans hx
theorem Fine.row (h:Fine wp am w w' pv pv')(hw:WkAt w wp am B tv fi sm ps pv fv)(ho:Own w B' e sz v xs)(he:e≠32)(he2:e≠251):Own w' B' e sz v xs:=ho.keepOwn fun g hg=>by
 obtain⟨c,hc⟩:=ho.typed hg;exact h.kept.block g (hw.un hc he he2)
theorem WkAt.sl (hw:WkAt w wp am B tv fi sm ps pv fv)(ho:Own w B' e sz v xs)(he:e≠32)(he2:e≠251):Sl (KX wp am w pv) w sz v xs:=by
 obtain⟨n,h⟩:=ho;refine cw! h _ fun g hg=>?_;obtain⟨c,hc⟩:=(show Own w B' e sz v xs from⟨n,h⟩).typed hg;exact hw.un hc he he2
theorem WkAt.grown (h:WkAt w wp am B tv fi sm ps pv fv)(ho:Own w B' e sz v xs)(he:e≠32)(he2:e≠251)(hg:w.grownBy w' v.ownBlock):WkAt w' wp am B tv fi sm ps pv fv:=by
 refine h.same (hg.block wp h.box.lt fun e=>?_) (hg.block am h.num.lt fun e=>?_) fun g hgp=>hg.block g (h.pts.block g hgp).2 fun e=>?_
 ·obtain⟨c,hc⟩:=ho.typed e.symm;exact(h.un hc he he2).2.1 rfl
 ·exact ho.notMap h.num.notCells am e.symm rfl
 ·obtain⟨c,hc⟩:=ho.typed e.symm;exact(h.un hc he he2).2.2.2 hgp
theorem WkAt.setBox (h:WkAt w wp am B tv fi sm ps pv fv) {x i:Nat}{cs:Array Value}(hx:Blk w x cs e)(he:e≠32)(he2:e≠251)(u:Value):WkAt (w.setCell ⟨x,i,none⟩ u) wp am B tv fi sm ps pv fv:=by
 have hu:=h.un hx he he2;exact h.same (Below.heap_setCell _ _ _ _ fun e=>hu.2.1 e.symm) (Below.heap_setCell _ _ _ _ fun e=>hu.2.2.1 e.symm) fun g hg=>Below.heap_setCell _ _ _ _ fun e=>hu.2.2.2 (by rw[hg,show g=x from e])
theorem Own.setBox (ho:Own w B' e sz v xs) {x i:Nat}{cs:Array Value}{e2:TypeId}(hx:Blk w x cs e2)(he:e≠e2)(u:Value):Own (w.setCell ⟨x,i,none⟩ u) B' e sz v xs:=ho.keepOwn fun g hg=>Below.heap_setCell _ _ _ _ fun e3=>by
 obtain⟨c,hc⟩:=ho.typed hg;rw[show g=x from e3,show w.heap[x]?=_ from hx]at hc;injection hc with hc
 injection hc with _ hc _
 exact he hc.symm
end
theorem jQ! {S:Nat->Prop}(v:Value)(l:List Int)(k:Int)(w:World)(h:Sl S w 1 v (ic l)) :
  Calls prog 289 #[v,.int .i64 k] w fun e w'=>(∃i:Int,e= .returned (.int .i64 i)/\(0<=i↔k∈l))/\w'=w:=by
 obtain⟨ao,c,rfl,a5,a3,hc⟩:=h.ints;have HC:=h! hc;clear hc h;go_enter func289,ntmps289
 go_wp2_with fail
 go_loopw [5,8] (fun _ iv wr=>∃i:Nat,i<=l.length/\iv= .int .i64 i/\(∀j (hj:j<l.length),j<i->l[j]≠k)/\wr=w) (fun _ iv _=>l.length-(intOf iv).toNat)
 case atStart=>exact⟨0,v1! _,rfl,(fun _ _ h=>absurd h (Nat.not_lt_zero _)),rfl⟩
 case round =>
  obtain⟨i,hi,rfl,d,rfl⟩:=hrel;have a:=h! d;clear d;by_cases hlt:i<l.length
  ·obtain⟨b,a4,rfl,-,a1⟩:=HC.out i hlt;by_cases he:l[i]=k
   ·have HM:Hid (k∈l):=h! (he▸n5! hlt);rw[he]at a1;clear he;go_wp2_with fail
    go_ret
    exact⟨⟨_,rfl,⟨fun _=>HM.out,fun _=>by omega⟩⟩,rfl⟩
   ·have HN:=h! (show ∀j (hj:j<l.length),j<i+1->l[j]≠k from fun j hj h=>(Nat.lt_succ_iff_lt_or_eq.1 h).elim (fun e=>a.out j hj e) (fun e=>by subst e;exact he));generalize l[i]=x at *;have a0:¬ (k=x):=fun e=>he e.symm;have a2:(k == x)=false:=by simpa using a0
    have f:=h! hlt;clear he;go_wp2_with fail
    go_roundw
    case rel=>exact⟨i+1,f.out,by go_num,HN.out,trivial⟩
    case measure=>have:=f.out;simp[intOf];omega
  ·obtain rfl:i=l.length:=by omega
   have HN:=h! (show k∉l from fun hk=>by obtain⟨j,hj,e⟩:=u0! hk;exact a.out j hj hj e);go_wp2_with fail
   go_ret
   exact⟨⟨_,rfl,⟨fun h=>absurd h (by decide),fun h=>absurd h HN.out⟩⟩,rfl⟩
theorem fL! {S:Nat->Prop}(v:Value)(l:List Int)(k:Int)(w:World)(h:Sl S w 1 v (ic l)) :
  Calls prog 251 #[v,.int .i64 k] w fun e w'=>e= .returned (.bool (decide (k∈l)))/\w'=w:=by
 have HI:=h! (jQ! v l k w h);obtain⟨ao,c,rfl,-,-,-⟩:=h.ints;clear h;go_enter func251,ntmps251
 go_wp2_with fail
 refine HI.out.mono ?_;rintro e w1 ⟨⟨i,rfl,a⟩,rfl⟩;by_cases hk:k∈l
 ·have h0:=a.2 hk;clear a;go_wp2_with fail
  go_ret
  exact⟨by rw[v2! hk];rfl,rfl⟩
 ·have h0:¬ (0<=i):=fun h=>hk (a.1 h);have hd:decide (0<=i)=false:=v3! h0;clear a h0;go_wp2_with fail
  go_ret
  exact⟨by rw[v3! hk];rfl,rfl⟩
theorem dN! (wp am B:Nat)(tv fi sm pv fv:Value)(ps:List P3)(p:P3)(w:World)(hp:p.Ok)(h:WkAt w wp am B tv fi sm ps pv fv)(hB:B<=wp/\B<=am)(hl:ps.length<=1073741824) :
  Calls prog 151 #[.pointer (some ⟨wp,0,none⟩),pV p] w fun e w'=>∃pv',e= .returned (.int .i64 (numD ps p:Nat))/\WkAt w' wp am B tv fi sm (putP ps p) pv' fv/\Fine wp am w w' pv pv':=by
 have aj:=h! hB;have a7:=h! (show B<=w.heap.size from by have:=h.box.lt;omega);have ai:Hid (wp<w.heap.size/\am<w.heap.size):=h! ⟨h.box.lt,h.num.lt⟩;have y:=h! h.ptNe;have ab:=h! h.pts.block;obtain⟨po,n,pc,rfl,hn,-,-⟩:=h.pts.sl.len;rw[az!]at hn;obtain rfl:n=ps.length:=by omega
 have HK:=h! (eD! p hp);have ae:=h! (jy! p ps 0);have ac:=h! (oH! p ps);have a6:=h! (jm! ps p);have Z:Hid (putP ps p=if p∈ps then ps else ps++[p]):=h! rfl;obtain⟨pt,pi,pr⟩:=p;have M:=Ext.alloc w (.cells #[.string pt,.string pi,.string pr] 32);have X:=h! (h.ext M);have O:=h! (Blk.made w #[.string pt,.string pi,.string pr] 32);have Y:=h! M;clear M h hB hp hn;unfold pV;dsimp only;go_enter func151,ntmps151
 go_wp2_with fail
 obtain⟨wd,z⟩:=e! ((w.alloc (.cells #[.string pt,.string pi,.string pr] 32)).drew);have s:=h! (show WkAt wd wp am B tv fi sm ps (.slice po ps.length pc) fv from by rw[z];exact X.out.ext (Ext.drew _));have L:=h! (show Blk wd w.heap.size #[.string pt,.string pi,.string pr] 32 from by rw[z];exact O.out.drew);have H:=h! (show Ext w wd from by rw[z];exact Y.out.trans (Ext.drew _));refine re! z ?_;clear z X O Y;have h1:=fun W (h:Ext wd W)=>(s.out.box.below h).cells;have h2:=fun W (h:Ext wd W)=>(L.out.below h).cells;have a:=fun W (h:Ext wd W)=>(s.out.num.below h).look lj! je! Tryz.underlying249 (Tryz.zeroValue3 W) true HK.out;rw[ae.out]at a;by_cases hm:(⟨pt,pi,pr⟩:P3)∈ps
 ·rw[if_pos hm,Nat.zero_add]at a;have HR:Hid (putP ps ⟨pt,pi,pr⟩=ps):=h! (by rw[Z.out,if_pos hm]);clear hm;unfold lookV pV at a;dsimp only at a;(refine WalkN.tk [0,1,2,3,4,5,6,7,8,9,10] ?_;(iterate 11 (refine c! ?_));refine TkN.n ?_)
  refine d! ?_;clear h1 h2 a;go_wp2_with fail
  go_ret
  exact⟨_,rfl,by rw[HR.out];exact s.out,Fine.of _ _ _ H.out⟩
 ·rw[if_neg hm]at a;have HR:Hid (putP ps ⟨pt,pi,pr⟩=ps++[⟨pt,pi,pr⟩]):=h! (by rw[Z.out,if_neg hm]);have ah:=h! (a6.out hm);have a8:=h! (ac.out hm);clear hm;unfold lookV pV at a;dsimp only at a;(refine WalkN.tk [0,1,2,3,4,5,6,7,8,9,10] ?_;(iterate 11 (refine c! ?_));refine TkN.n ?_)
  refine d! ?_;clear h1 h2 a;have ag:=s.out.box.cells;go_wp2_with fail
  clear ag;obtain⟨we,v⟩:=e! wd.drew;have i:=h! (show WkAt we wp am B tv fi sm ps (.slice po ps.length pc) fv from by rw[v];exact s.out.ext (Ext.drew _));have D:=h! (show Blk we w.heap.size #[.string pt,.string pi,.string pr] 32 from by rw[v];exact L.out.drew);have G:=h! (show Ext w we from by rw[v];exact H.out.trans (Ext.drew _));refine r! (Kept (· ≠ am) we) (by rw[<-v];exact Kept.refl _ _) ?_;rw[<-v];clear v s L H;have k:Hid (w.heap.size≠am):=h! (fun e=>i.out.num.notCells _ _ _ (e▸D.out));have h1:=fun W (h:Kept (· ≠ am) we W)=>(h.blk i.out.box i.out.ne).cells;have h2:=fun W (h:Kept (· ≠ am) we W)=>(h.blk D.out k.out).cells;(refine WalkN.tk [0,1,2,3,4,5] ?_;(iterate 6 (refine c! ?_));refine TkN.n ?_)
  clear h1 h2;obtain⟨wf,o,J,q⟩:=i.out.num.store lj! je! Tryz.underlying249 HK.out (ps.length:Nat);rw[a8.out]at J;unfold pV at o;dsimp only at o;refine ob! 6 ?_;intro K hK;go_simp;refine hK.out _ _ q.kept ?_;clear hK o;refine d! ?_;have a3:=h! (q.kept.blk i.out.box i.out.ne);have R:=h! (q.kept.blk D.out k.out);have U:=h! J;have a1:=h! (i.out.pts.keepOwn fun g hg=>q.kept.block g (y.out g hg).2);have V:Hid (Kept (KX wp am w (.slice po ps.length pc)) w wf):=h! ((Below.kept G.out fun x hx=>hx.1).trans (q.kept.mono fun x hx=>hx.2.2.1));have Q:=h! (show w.heap.size<=wf.heap.size from by rw[q.size];exact G.out.size);clear J q i D k G;go_wp2_with fail
  obtain⟨wg,f⟩:=e! wf.drew;have t:=h! (show Blk wg wp _ _ from by rw[f];exact a3.out.drew);have I:=h! (show Blk wg w.heap.size _ _ from by rw[f];exact R.out.drew);have E:=h! (U.out.below (show Below wf.heap.size wf wg from by rw[f];exact(Below.refl _ _).drew));have a2:=h! (a1.out.below (show Below wf.heap.size wf wg from by rw[f];exact(Below.refl _ _).drew));have a0:=h! (show Kept (KX wp am w (.slice po ps.length pc)) w wg from by rw[f];exact V.out.drew);have F:=h! (show w.heap.size<=wg.heap.size from by rw[f];exact Q.out);refine as! 12 (Kept (fun x=>x<wg.heap.size/\Value.ownBlock (.slice po ps.length pc)≠some x) wg) (by rw[<-f];exact Kept.refl _ _) (by kernel_rfl) (by kernel_rfl) (fun _ _ d _ _ h=>by cases d <;> exact h) ?_;rw[<-f];clear f a3 R U a1 V Q;have h1:=fun W (h:Kept (fun x=>x<wg.heap.size/\Value.ownBlock (.slice po ps.length pc)≠some x) wg W)=>(h.blk t.out ⟨t.out.lt,fun e=>(y.out _ e).1 rfl⟩).cells;have h2:=fun W (h:Kept (fun x=>x<wg.heap.size/\Value.ownBlock (.slice po ps.length pc)≠some x) wg W)=>(h.blk I.out ⟨I.out.lt,fun e=>by have:=(ab.out _ e).2;omega⟩).cells;(refine WalkL.tk [0,1,2,3,4,5,6] ?_;(iterate 7 (refine l! ?_));refine TkL.n ?_)
  clear h1 h2;have N:Ext wg (wg.alloc (.cells #[.string pt,.string pi,.string pr] 32)):=Ext.alloc _ _;refine oL! 7 ?_;refine b! ?_;intro K hK;go_simp;refine hK.out _ _ ((Kept.refl _ _).alloc (fun x hx=>hx.1) _) ?_;clear hK;refine oL! 8 ?_;refine b! ?_;intro K hK;refine bD! ja! (.tmp 35) (.tmp 37) rfl rfl (a2.out.below N) (m:=1) (news:=pC ⟨pt,pi,pr⟩) rfl rfl (fun j u hu=>?_) (hR! _) (by rw[az!,aj!];omega) (by rw[az!,aj!];omega) (by have:=F.out;have:=a7.out;simp;omega) (fun v2 w2 hown2 hw2 hg2=>?_)
  ·rw[Addr.add_lit,cell_of_row _ wg.heap.size (0+j) #[.string pt,.string pi,.string pr] 32 (0,0) (heap_alloc_new wg _),Nat.zero_add];simpa [pC] using hu
  have A:Kept (fun x=>x<wg.heap.size/\Value.ownBlock (.slice po ps.length pc)≠some x) wg w2:=⟨hg2.os.trans rfl,hg2.tape.trans rfl,hg2.output.trans rfl,n6! (by simp) hg2.size,fun x hx=>(hg2.block x (by have:=hx.1;simp;omega) (fun e=>hx.2 e.symm)).trans (Below.heap_alloc wg _ x hx.1)⟩;have a9:Hid (Kept (KX wp am w (.slice po ps.length pc)) w w2):=h! (a0.out.trans (A.mono fun x hx=>⟨n1! hx.1 F.out,hx.2.2.2⟩));have aa:=h! (show ∀g,v2.ownBlock=some g->(Value.slice po ps.length pc).ownBlock=some g\/w.heap.size<=g from fun g hg=>(hw2 g hg).imp id fun e=>by have:=F.out;simp at e;omega);have C:=h! (A.blk t.out ⟨t.out.lt,fun e=>(y.out _ e).1 rfl⟩);have T:=h! (E.out.kept A ⟨E.out.lt,fun e=>(y.out _ e).2 rfl⟩);refine hK.out _ _ A ?_;clear hK;simp only[Act.put,pA,pZ,pS];have af:=h! (show Own w2 B 32 3 v2 (pcs (ps++[⟨pt,pi,pr⟩]))from by rw[dI!,cu!];exact hown2);have a5:=h! (show ∀g,v2.ownBlock=some g->g≠wp/\g≠am from fun g hg=>(hw2 g hg).elim (fun e=>y.out g e) (fun e=>by have h1:=C.out.lt;have h2:=t.out.lt;have h3:=E.out.lt;simp at e;omega));obtain⟨o2,n2,c2,rfl,-,-,-⟩:=hown2.sl.len;clear A hown2 hw2 hg2 N t E a2 a0 I;(refine WalkL.tk [9,10,11] ?_;(iterate 3 (refine l! ?_));refine TkL.n ?_)
  have a4:=C.out.cells;have ad:=C.out.free;refine WalkL.last (by kernel_rfl) (by kernel_rfl) ?_;refine b! ?_;intro K hK;go_simp;refine hK.out _ _ ?_;clear hK a4 ad;go_wp2_with fail
  go_ret
  refine⟨.slice o2 n2 c2,by rw[ah.out];rfl,?_,?_⟩
  ·rw[HR.out];exact⟨C.out.set_to 4 _ rfl,T.out.same (Below.heap_setCell _ _ _ _ (fun e=>T.out.notCells _ _ _ (show w2.heap[am]?=_ from by rw[show am=wp from e];exact C.out))),af.out.keepOwn fun g hg=>Below.heap_setCell _ _ _ _ (a5.out g hg).1⟩
  ·exact⟨a9.out.set (fun h=>h.2.1 rfl) _,aa.out⟩
end Go.Proofs.YtlhaghoajpglaaaGreat
