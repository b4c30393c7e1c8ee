/- Lemmas for the claim, no condition. -/
import Derived.Carry
import Derived.Test.YtlhaghoajpglaaaGreatYLkSets3
import Derived.Test.YtlhaghoajpglaaaGreatYLkSets2
import Derived.Test.YtlhaghoajpglaaaGreatYLkSets5
import Derived.Test.YtlhaghoajpglaaaGreatYLkSets1
import Derived.Test.YtlhaghoajpglaaaGreatYLkSets0
set_option maxRecDepth 100000
set_option maxHeartbeats 3000000
namespace Go.Proofs.YtlhaghoajpglaaaGreat
open Go Go.RowKit Go.Maps Go.Shelf
theorem flat_le {α β:Type} (f:α->List β)(D:Nat):∀ l:List α,(∀ x∈l,(f x).length<=D)->(l.flatMap f).length<=l.length*D
 | [],_=>by simp
 | a::l,h=>by
  rw[List.flatMap_cons,List.length_append,List.length_cons,Nat.add_mul];have h1:=h a List.mem_cons_self;have h2:=flat_le f D l fun x hx=>h x (List.mem_cons_of_mem _ hx);omega
end Go.Proofs.YtlhaghoajpglaaaGreat
namespace Go.Proofs.YtlhaghoajpglaaaGreat
open Go Go.RowKit
def RefsOf (T:List Tup)(P:List P3)(p:P3)(k:Int)(a b:ByteArray)(refs:List Int):Prop :=
 (∀ x∈refs,0<=x/\∃ q,P[x.toNat]?=some q/\(k=1->q∈setsOf (subsOf T p))/\(k=2->q=⟨p.t,p.i,a⟩)/\(k=3->q∈viaOf b (subsOf T ⟨p.t,p.i,a⟩)))/\(k=2->∃ x,refs=[x])
mutual
def FormOf (T:List Tup)(P:List P3)(p:P3):RT->FT->Prop
 | .mk k a b ps,f=>f.k=k/\f.subs=(if k=1 then subsOf T p else [])/\RefsOf T P p k a b f.refs/\FormsOf T P p ps f.ps
def FormsOf (T:List Tup)(P:List P3)(p:P3):List RT->List FT->Prop
 | [],l=>l=[]
 | r::rs,l=>∃ f l',l=f::l'/\FormOf T P p r f/\FormsOf T P p rs l'
end
theorem FormOf_eq (T:List Tup)(P:List P3)(p:P3)(r:RT)(f:FT):FormOf T P p r f↔f.k=r.k/\f.subs=(if r.k=1 then subsOf T p else [])/\RefsOf T P p r.k r.a r.b f.refs/\FormsOf T P p r.ps f.ps:=by
 obtain⟨k,a,b,ps⟩:=r;rw[FormOf];rfl
theorem formsOf_at {T:List Tup} {P:List P3} {p:P3}:∀ {rs:List RT} {l:List FT},FormsOf T P p rs l->l.length=rs.length/\∀ (i:Nat)(r:RT),rs[i]?=some r->∃ f,l[i]?=some f/\FormOf T P p r f
 | [],l,h=>by
  rw[FormsOf]at h;subst h;exact⟨rfl,fun i r h=>by simp at h⟩
 | r::rs,l,h=>by
  rw[FormsOf]at h;obtain⟨f,l',rfl,h1,h2⟩:=h;obtain⟨h3,h4⟩:=formsOf_at h2;refine⟨by simp[h3],fun i q hq=>?_⟩;cases i with
  | zero =>
   simp only[List.getElem?_cons_zero,Option.some.injEq]at hq;subst hq;exact⟨f,by simp,h1⟩
  | succ i =>
   rw[List.getElem?_cons_succ]at hq;obtain⟨g,h5,h6⟩:=h4 i q hq;exact⟨g,by rw[List.getElem?_cons_succ];exact h5,h6⟩
theorem refsD_names {P:List P3} {X:P3->Prop}:∀ (L ps:List P3)(out:List Int),(refsD ps out L).2 <+: P->(∀ q∈L,X q)->(∀ x∈out,0<=x/\∃ q,P[x.toNat]?=some q/\X q)->∀ x∈(refsD ps out L).1,0<=x/\∃ q,P[x.toNat]?=some q/\X q
 | [],ps,out,_,_,ho=>by rw[refsD];exact ho
 | q::L,ps,out,h,hX,ho=>by
  rw[refsD]at h ⊢;have hp:putP ps q <+: P:=(refsD_pre L _ _).trans h;have hm:q∈P:=hp.subset ((putP_mem ps q q).2 (.inr rfl));refine refsD_names L _ _ h (fun x hx=>hX x (List.mem_cons_of_mem _ hx)) fun x hx=>?_;split at hx
  ·exact ho x hx
  ·rcases List.mem_append.1 hx with hx | hx
   ·exact ho x hx
   ·obtain rfl:=List.mem_singleton.1 hx;obtain⟨h1,h2⟩:=numD_of_mem hm;refine⟨by omega,q,?_,hX q List.mem_cons_self⟩;rw[Int.toNat_natCast,numD_put hp,List.getElem?_eq_getElem h1,h2]
theorem headF_of {T:List Tup} {P:List P3} (p:P3)(k:Int)(a b:ByteArray)(ps:List P3)(h:(headF T p k a b ps).2.2 <+: P):(headF T p k a b ps).1=(if k=1 then subsOf T p else [])/\RefsOf T P p k a b (headF T p k a b ps).2.1:=by
 unfold headF at h ⊢;by_cases k1:k=1
 ·rw[if_pos k1]at h ⊢;rw[if_pos k1];refine⟨rfl,fun x hx=>?_,fun e=>by omega⟩;obtain⟨h0,q,h1,h2⟩:=refsD_names (X:=fun q=>q∈setsOf (subsOf T p)) _ _ _ h (fun q hq=>hq) (fun x hx=>by cases hx) x hx;exact⟨h0,q,h1,fun _=>h2,fun e=>by omega,fun e=>by omega⟩
 ·rw[if_neg k1]at h ⊢;rw[if_neg k1];by_cases k2:k=2
  ·rw[if_pos k2]at h ⊢;refine⟨rfl,fun x hx=>?_,fun _=>⟨_,rfl⟩⟩;obtain rfl:=List.mem_singleton.1 hx;have hm:(⟨p.t,p.i,a⟩:P3)∈P:=h.subset ((putP_mem ps _ _).2 (.inr rfl));obtain⟨h1,h2⟩:=numD_of_mem hm;refine⟨by omega,_,?_,fun e=>by omega,fun _=>rfl,fun e=>by omega⟩;rw[Int.toNat_natCast,numD_put h,List.getElem?_eq_getElem h1,h2]
  ·rw[if_neg k2]at h ⊢;by_cases k3:k=3
   ·rw[if_pos k3]at h ⊢;refine⟨rfl,fun x hx=>?_,fun e=>by omega⟩;obtain⟨h0,q,h1,h2⟩:=refsD_names (X:=fun q=>q∈viaOf b (subsOf T ⟨p.t,p.i,a⟩)) _ _ _ h (fun q hq=>hq) (fun x hx=>by cases hx) x hx;exact⟨h0,q,h1,fun e=>by omega,fun e=>by omega,fun _=>h2⟩
   ·rw[if_neg k3];exact⟨rfl,⟨fun x hx=>(by cases hx),fun e=>(by omega)⟩⟩
theorem formD_of {T:List Tup} {P:List P3} (p:P3)(r:RT):∀ ps:List P3,(formD T p r ps).2 <+: P->FormOf T P p r (formD T p r ps).1:=by
 induction r using RT.ind with
 | h r ih =>
  intro ps h;rw[formD_eq]at h ⊢;dsimp only at h ⊢;have hH:(headF T p r.k r.a r.b ps).2.2 <+: P:=(formsD_pre T p r.ps _).trans h
  have parts:∀ (L:List RT) (qs:List P3),(∀ x∈L,x∈r.ps)->(formsD T p L qs).2 <+: P->FormsOf T P p L (formsD T p L qs).1:=by
   intro L;induction L with
   | nil=>intro qs _ _;simp[formsD,FormsOf]
   | cons x L ihl =>
    intro qs hx hp;rw[formsD]at hp ⊢;rw[FormsOf];exact⟨_,_,rfl,ih x (hx x (by simp)) qs ((formsD_pre T p L _).trans hp),ihl (formD T p x qs).2 (fun y hy=>hx y (List.mem_cons_of_mem _ hy)) hp⟩
  rw[FormOf_eq];obtain⟨h1,h2⟩:=headF_of p r.k r.a r.b ps hH;exact⟨rfl,h1,h2,parts r.ps _ (fun _ h=>h) h⟩
theorem WalkEnd.formOf {ts:List TyS} {T:List Tup} {shut:List R2} {p:P3} {most:Int} {n:Nat} (h:WalkEnd ts T shut p most n) {i:Nat} (hi:i<n):∃ q f,(walkN ts T shut p n).1[i]?=some q/\(walkN ts T shut p n).2[i]?=some f/\((ruleOf ts shut q=none/\f=FT.zero)\/∃ r,ruleOf ts shut q=some r/\FormOf T (walkN ts T shut p n).1 q r f):=by
 obtain⟨h2,e⟩:=h.point hi;refine⟨_,_,List.getElem?_eq_getElem h2,walkN_form ts T shut p hi,?_⟩;rw[e]
 have hpre:(stepG ts T shut (walkN ts T shut p n).1[i] (walkN ts T shut p i).1).2 <+: (walkN ts T shut p n).1:=by
  have:=walkN_pre ts T shut p (i+1) n hi;rw[walkN,e]at this;exact this
 unfold stepG at hpre ⊢;cases hr:ruleOf ts shut (walkN ts T shut p n).1[i] with
 | none=>exact .inl ⟨rfl,rfl⟩
 | some r =>
  rw[hr]at hpre;exact .inr ⟨r,rfl,formD_of _ r _ hpre⟩
section
variable {fs : List FT} {s : P3} {n : Nat}
theorem inAt_mono {l m:List Bool} (h:∀ i,l.getD i false=true->m.getD i false=true)(k:Int)(hk:inAt l k=true):inAt m k=true:=by
 unfold inAt at *;rw[Bool.and_eq_true]at *;exact⟨hk.1,h _ hk.2⟩
theorem below_fix {l m:List Bool} (h:∀ i,l.getD i false=true->m.getD i false=true) {i:Nat} (hm:newS fs s m i=false)(hi:i<m.length) {f:FT} (hf:fs[i]?=some f)(hh:holdF s l f=true):m.getD i false=true:=by
 have h1:=holdF_mono s (fun k hk=>inAt_mono h k hk) f hh;unfold newS at hm;rw[hf]at hm;dsimp only at hm;rw[h1,Bool.and_true,Bool.not_eq_false']at hm;rw[<- getD_ft hi];exact hm
theorem rounds_below {l:List Bool} (hl:l.length=n)(hc:∀ i,i<n->newS fs s l i=false):∀ (r i:Nat),(inN fs s n r).getD i false=true->l.getD i false=true
 | 0,i,h=>by rw[inN_zero]at h;cases h
 | r+1,i,h=>by
  by_cases hi:i<n
  ·rw[inN_succ hi,Bool.or_eq_true]at h;rcases h with h | h
   ·exact rounds_below hl hc r i h
   ·unfold newS at h;rw[Bool.and_eq_true]at h;obtain⟨-,h⟩:=h;split at h
    ·next f hf=>exact below_fix (fun j hj=>rounds_below hl hc r j hj) (hc i hi) (by omega) hf h
    ·cases h
  ·rw[List.getD_eq_getElem?_getD,List.getElem?_eq_none (by rw[inN_length];omega)]at h;cases h
theorem closed_eq {l:List Bool} (hl:l.length=n)(hle:∀ i,l.getD i false=true->(inN fs s n n).getD i false=true)(hc:∀ i,i<n->newS fs s l i=false):l=inN fs s n n :=
 ext_bool (by rw[hl,inN_length]) fun i _=>by
  rw[Bool.eq_iff_iff];exact⟨hle i,rounds_below hl hc n i⟩
end
def vecO (L:List (List O2))(o:O2):List Bool:=L.map fun l=>decide (o∈l)
theorem vecO_length (L:List (List O2))(o:O2):(vecO L o).length=L.length:=by simp[vecO]
theorem vecO_at {L:List (List O2)} {o:O2} {i:Nat} (hi:i<L.length):(vecO L o).getD i false=decide (o∈L[i]):=by
 rw[List.getD_eq_getElem?_getD,vecO,List.getElem?_map,List.getElem?_eq_getElem hi];rfl
theorem vecO_out {L:List (List O2)} {o:O2} {i:Nat} (hi:L.length<=i):(vecO L o).getD i false=false:=by
 rw[List.getD_eq_getElem?_getD,List.getElem?_eq_none (by rw[vecO_length];exact hi)];rfl
def oS (o:O2):P3:=⟨o.t,o.i,⟨#[]⟩⟩
structure LkAt (fs:List FT)(n:Nat)(all:List O2)(L:List (List O2)):Prop where
 len:L.length=n
 sub:∀ l∈L,∀ o∈l,o∈all
 le:∀ o∈all,∀ i,(vecO L o).getD i false=true->(inN fs (oS o) n n).getD i false=true
theorem LkAt.start (fs:List FT)(n:Nat)(all:List O2):LkAt fs n all (List.replicate n []) where
 len:=by simp
 sub l hl o ho:=by rw[List.eq_of_mem_replicate hl]at ho;cases ho
 le o _ i h:=by
  by_cases hi:i<n
  ·rw[vecO_at (by simpa using hi)]at h;simp at h
  ·rw[vecO_out (by simp;omega)]at h;cases h
theorem LkAt.put {fs:List FT} {n:Nat} {all:List O2} {L:List (List O2)} (h:LkAt fs n all L) {i:Nat} (hi:i<n) {f:FT} (hf:fs[i]?=some f) {l':List O2}
  (hl:∀ o,o∈l'↔o∈L.getD i []\/(o∈all/\holdF (oS o) (vecO L o) f=true)):LkAt fs n all (L.set i l') where
 len:=by rw[List.length_set,h.len]
 sub l hm o ho:=by
  rcases List.mem_or_eq_of_mem_set hm with hm | rfl
  ·exact h.sub l hm o ho
  ·rcases (hl o).1 ho with ho | ⟨ho,-⟩
   ·rw[List.getD_eq_getElem?_getD,List.getElem?_eq_getElem (by rw[h.len];exact hi)]at ho;exact h.sub _ (List.getElem_mem _) o ho
   ·exact ho
 le o ho j hj:=by
  have hiL:i<L.length:=by rw[h.len];exact hi
  by_cases hjn:j<n
  ·rw[vecO_at (by rw[List.length_set,h.len];exact hjn),List.getElem_set]at hj;split at hj
   ·next hij =>
    subst hij;rw[decide_eq_true_eq]at hj;rcases (hl o).1 hj with hj | ⟨-,hj⟩
    ·refine h.le o ho i ?_;rw[vecO_at hiL,decide_eq_true_eq];rw[List.getD_eq_getElem?_getD,List.getElem?_eq_getElem hiL]at hj;exact hj
    ·exact below_fix (h.le o ho) (endS_n fs (oS o) n i hi) (by rw[inN_length];exact hi) hf hj
   ·refine h.le o ho j ?_;rw[vecO_at (by rw[h.len];exact hjn)];exact hj
  ·rw[vecO_out (by rw[List.length_set,h.len];omega)]at hj;cases hj
theorem LkAt.done {fs:List FT} {n:Nat} {all:List O2} {L:List (List O2)} (h:LkAt fs n all L)(hc:∀ o∈all,∀ i,i<n->newS fs (oS o) (vecO L o) i=false) {o:O2} (ho:o∈all) {i:Nat} (hi:i<n) :
  o∈L[i]'(by rw[h.len];exact hi)↔0<(solveR fs (oS o) n).getD i 0:=by
 have h1:=closed_eq (by rw[vecO_length,h.len]) (h.le o ho) (hc o ho);have h2:=vecO_at (L:=L) (o:=o) (i:=i) (by rw[h.len];exact hi);rw[h1]at h2;have h3:=(outN_pos (fs:=fs) (s:=oS o) n hi).2.2;rw[(endS_n fs (oS o) n).solve]at h3;rw[<- h3,h2,decide_eq_true_eq]
theorem textOk_pre (r:RT):∀ d,r.textOk d=true->∀ q∈r.pre,(q.k=1\/q.k=2\/q.k=3\/q.k=4\/q.k=5)/\(q.k=4\/q.k=5->2<=q.ps.length):=by
 induction r using RT.ind with
 | h r ih =>
  intro d hd q hq
  have hself:(r.k=1\/r.k=2\/r.k=3\/r.k=4\/r.k=5)/\(r.k=4\/r.k=5->2<=r.ps.length)/\∀ x∈r.ps,∃ d',x.textOk d'=true:=by
   obtain⟨k,a,b,ps⟩:=r;rw[RT.textOk]at hd;dsimp only[RT.k,RT.ps];split at hd
   ·next e =>
    simp only[Bool.and_eq_true,decide_eq_true_eq]at hd;have h0:=List.length_eq_zero_iff.1 hd.2;subst h0;exact⟨.inl e,fun h=>by omega,fun x hx=>by cases hx⟩
   ·split at hd
    ·next e =>
     simp only[Bool.and_eq_true,decide_eq_true_eq]at hd;have h0:=List.length_eq_zero_iff.1 hd.2;subst h0;exact⟨.inr (.inl e),fun h=>by omega,fun x hx=>by cases hx⟩
    ·split at hd
     ·next e =>
      simp only[Bool.and_eq_true,decide_eq_true_eq]at hd;have h0:=List.length_eq_zero_iff.1 hd.2;subst h0;exact⟨.inr (.inr (.inl e)),fun h=>by omega,fun x hx=>by cases hx⟩
     ·split at hd
      ·next e =>
       simp only[Bool.and_eq_true,decide_eq_true_eq]at hd;rw[textL_eq]at hd;refine⟨.inr (.inr (.inr e)),fun _=>hd.1.2,fun x hx=>?_⟩;have:=List.all_eq_true.1 hd.2 x hx;unfold goodP at this;rw[Bool.and_eq_true]at this;exact⟨_,this.2⟩
      ·cases hd
  rw[r.pre_eq]at hq;rcases List.mem_cons.1 hq with rfl | hq
  ·exact⟨hself.1,hself.2.1⟩
  ·obtain⟨x,hx,hq⟩:=rpreL_mem.1 hq;obtain⟨d',hd'⟩:=hself.2.2 x hx;exact ih x hx d' hd' q hq
mutual
def FT.ths:FT->List P3 | .mk k subs _ ps=>(if k=1 then subs else [])++thsL ps
def thsL:List FT->List P3 | [] => [] | f::fs=>f.ths++thsL fs
end
theorem FT.ths_eq (f:FT):f.ths=(if f.k=1 then f.subs else [])++thsL f.ps:=by
 obtain⟨k,a,b,ps⟩:=f;rw[FT.ths];rfl
theorem thsL_mem {x:P3}:∀ {l:List FT},x∈thsL l↔∃ f∈l,x∈f.ths
 | []=>by simp[thsL]
 | f::l=>by rw[thsL,List.mem_append,thsL_mem];simp
mutual
def FT.full:FT->Prop | .mk k _ _ ps=>(k=5->ps≠[])/\fullL ps
def fullL:List FT->Prop | []=>True | f::fs=>f.full/\fullL fs
end
theorem fullL_mem:∀ {l:List FT},fullL l↔∀ f∈l,f.full
 | []=>by simp[fullL]
 | f::l=>by rw[fullL,fullL_mem];simp
theorem FT.full_eq (f:FT):f.full↔(f.k=5->f.ps≠[])/\∀ g∈f.ps,g.full:=by
 obtain⟨k,a,b,ps⟩:=f;rw[FT.full,fullL_mem];rfl
theorem hold_ths {s:P3} {l:List Bool} (hl:∀ k,inAt l k=false)(f:FT):f.full->holdF s l f=true->s∈f.ths:=by
 induction f using FT.ind with
 | h f ih =>
  intro hf h;rw[FT.full_eq]at hf;rw[holdF_eq]at h;rw[FT.ths_eq,List.mem_append]
  have hr:f.refs.any (inAt l)=false:=by
   rw[Bool.eq_false_iff];intro h;obtain⟨k,-,h⟩:=List.any_eq_true.1 h;rw[hl k]at h;cases h
  rw[hr]at h;split at h
  ·next e =>
   rw[Bool.or_false,decide_eq_true_eq]at h;left
   rw[if_pos e];exact h
  ·split at h
   ·cases h
   ·split at h
    ·obtain⟨g,hg,h⟩:=List.any_eq_true.1 h;exact .inr (thsL_mem.2 ⟨g,hg,ih g hg (hf.2 g hg) h⟩)
    ·split at h
     ·next e =>
      cases hp:f.ps with
      | nil=>exact absurd hp (hf.1 e)
      | cons g gs =>
       have hg:g∈f.ps:=by rw[hp];exact List.mem_cons_self
       rw[<- hp];exact .inr (thsL_mem.2 ⟨g,hg,ih g hg (hf.2 g hg) (List.all_eq_true.1 h g hg)⟩)
     ·cases h
theorem inAt_none {l:List Bool} (h:∀ i,l.getD i false=false)(k:Int):inAt l k=false:=by
 unfold inAt;rw[h,Bool.and_false]
theorem unnamed_out {fs:List FT} {s:P3} {n:Nat} (hf:∀ f∈fs,f.full)(hs:∀ f∈fs,s∉f.ths):∀ r i,(inN fs s n r).getD i false=false
 | 0,i=>inN_zero i
 | r+1,i=>by
  by_cases hi:i<n
  ·rw[inN_succ hi,unnamed_out hf hs r i,Bool.false_or];unfold newS;split
   ·next f hq =>
    have hm:=List.mem_of_getElem? hq
    have:holdF s (inN fs s n r) f=false:=by
     rw[Bool.eq_false_iff];exact fun h=>hs f hm (hold_ths (inAt_none fun i=>unnamed_out hf hs r i) f (hf f hm) h)
    rw[this,Bool.and_false]
   ·rw[Bool.and_false]
  ·rw[List.getD_eq_getElem?_getD,List.getElem?_eq_none (by rw[inN_length];omega)];rfl
theorem FormOf.full {T:List Tup} {P:List P3} {p:P3} (r:RT):∀ f,(∀ q∈r.pre,q.k=4\/q.k=5->2<=q.ps.length)->FormOf T P p r f->f.full:=by
 induction r using RT.ind with
 | h r ih =>
  intro f hr hf;rw[FormOf_eq]at hf;obtain⟨h1,-,-,h4⟩:=hf;obtain⟨h5,h6⟩:=formsOf_at h4;rw[FT.full_eq];refine⟨fun e e2=>?_,fun g hg=>?_⟩
  ·have:=hr r r.pre_self (.inr (h1▸e));rw[<- h5,e2]at this;simp at this
  ·obtain⟨i,hi,rfl⟩:=List.getElem_of_mem hg;have hir:i<r.ps.length:=by omega
   obtain⟨g,h7,h8⟩:=h6 i _ (List.getElem?_eq_getElem hir);rw[List.getElem?_eq_getElem hi]at h7;cases h7;exact ih _ (List.getElem_mem hir) _ (fun q hq=>hr q (RT.pre_trans r (RT.pre_part (List.getElem_mem hir)) hq)) h8
def InF (all:List O2)(L:List (List O2))(f:FT)(o:O2):Prop:=o∈all/\holdF (oS o) (vecO L o) f=true
theorem inAt_vec {L:List (List O2)} {o:O2} {k:Int}:inAt (vecO L o) k=true↔0<=k/\o∈L.getD k.toNat []:=by
 unfold inAt;rw[Bool.and_eq_true,decide_eq_true_eq];refine and_congr Iff.rfl ?_;by_cases h:k.toNat<L.length
 ·rw[vecO_at h,decide_eq_true_eq,List.getD_eq_getElem?_getD,List.getElem?_eq_getElem h];rfl
 ·rw[vecO_out (by omega),List.getD_eq_getElem?_getD,List.getElem?_eq_none (by omega)];simp
theorem refs_vec {L:List (List O2)} {o:O2} {l:List Int}:l.any (inAt (vecO L o))=true↔∃ k∈l,0<=k/\o∈L.getD k.toNat []:=by
 rw[List.any_eq_true];constructor
 ·rintro⟨k,hk,h⟩;exact⟨k,hk,inAt_vec.1 h⟩
 ·rintro⟨k,hk,h⟩;exact⟨k,hk,inAt_vec.2 h⟩
section
variable {all : List O2} {L : List (List O2)} {o : O2} {subs : List P3} {refs : List Int} {ps : List FT}
theorem getD_sub (hL:∀ l∈L,∀ o∈l,o∈all) {i:Nat} (h:o∈L.getD i []):o∈all:=by
 by_cases hi:i<L.length
 ·rw[List.getD_eq_getElem?_getD,List.getElem?_eq_getElem hi]at h;exact hL _ (List.getElem_mem hi) o h
 ·rw[List.getD_eq_getElem?_getD,List.getElem?_eq_none (by omega)]at h;cases h
theorem InF.named (hL:∀ l∈L,∀ o∈l,o∈all) {k:Int} (hk:k=2\/k=3):InF all L (.mk k subs refs ps) o↔∃ k∈refs,0<=k/\o∈L.getD k.toNat []:=by
 unfold InF;rw[holdF_mk,if_neg (by omega),if_pos hk,refs_vec];constructor
 ·exact fun h=>h.2
 ·rintro⟨k,hk,h0,h⟩;exact⟨getD_sub hL h,k,hk,h0,h⟩
theorem InF.some:InF all L (.mk 4 subs refs ps) o↔∃ g∈ps,InF all L g o:=by
 unfold InF;rw[holdF_mk,if_neg (by decide),if_neg (by decide),if_pos rfl,List.any_eq_true];constructor
 ·rintro⟨h,g,hg,k⟩;exact⟨g,hg,h,k⟩
 ·rintro⟨g,hg,h,k⟩;exact⟨h,g,hg,k⟩
theorem InF.every:InF all L (.mk 5 subs refs ps) o↔o∈all/\∀ g∈ps,InF all L g o:=by
 unfold InF;rw[holdF_mk,if_neg (by decide),if_neg (by decide),if_neg (by decide),if_pos rfl,List.all_eq_true];constructor
 ·rintro⟨h,k⟩;exact⟨h,fun g hg=>⟨h,k g hg⟩⟩
 ·rintro⟨h,k⟩;exact⟨h,fun g hg=>(k g hg).2⟩
theorem InF.none {k:Int} (h1:k≠1)(h2:k≠2)(h3:k≠3)(h4:k≠4)(h5:k≠5):¬ InF all L (.mk k subs refs ps) o:=by
 unfold InF;rw[holdF_mk,if_neg h1,if_neg (by omega),if_neg h4,if_neg h5];simp
theorem closed_of {fs:List FT} {n:Nat} (hl:L.length=n)(h:∀ i f,i<n->fs[i]?=some f->∀ o,InF all L f o->o∈L.getD i []):∀ o∈all,∀ i,i<n->newS fs (oS o) (vecO L o) i=false:=by
 intro o ho i hi;unfold newS;rw[getD_ft (by rw[vecO_length,hl];exact hi)];cases hv:(vecO L o).getD i false with
 | true=>rfl
 | false =>
  rw[Bool.not_false,Bool.true_and];split
  ·next f hf =>
   rw[Bool.eq_false_iff];intro hh;have h1:=h i f hi hf o ⟨ho,hh⟩;rw[vecO_at (by rw[hl];exact hi),decide_eq_false_iff_not]at hv;rw[List.getD_eq_getElem?_getD,List.getElem?_eq_getElem (by rw[hl];exact hi)]at h1;exact hv h1
  ·rfl
end
def ic (l:List Int):List Value:=l.map fun n => .int .i64 n
theorem ic_append (a b:List Int):ic (a++b)=ic a++ic b:=by simp[ic]
theorem ic_length (a:List Int):(ic a).length=a.length:=by simp[ic]
theorem ic_one (l:List Int):∀ u∈ic l,u.oneCell'=true:=by
 intro u hu;obtain⟨s,_,rfl⟩:=List.mem_map.1 hu;rfl
theorem intsT:ElemT Tryz.prog 107 3 1 8:=ElemT.mk' Tryz.underlying107 (show _=some (some (.int .i64 0),1,8)by kernel_rfl) rfl (by decide)
theorem Sl.ints {S:Nat->Prop} {w:World} {v:Value} {l:List Int} (h:Sl S w 1 v (ic l)):∃ ao c,v = .slice ao l.length c/\l.length<=c/\c<=9223372036854775807/\∀ j,(hj:j<l.length)->∃ b off,ao=some ⟨b,off,none⟩/\S b/\w.cell? ⟨b,off+j,none⟩=some (.int .i64 l[j]):=by
 obtain⟨ao,n,c,rfl,h1,h2,h3,h4,h5⟩:=h;rw[ic_length,Nat.mul_one]at h1;subst h1;refine⟨ao,c,rfl,h2,by have e:maxLen=9223372036854775807:=rfl;omega,fun j hj=>?_⟩;obtain⟨b,off,rfl,hb,hc⟩:=h5 (by intro e;have:=congrArg List.length e;rw[ic_length,List.length_nil]at this;omega);exact⟨b,off,rfl,hb,hc j _ (by simp[ic,hj])⟩
abbrev FV3:=Value × Value × Value
def fC (x:FT × FV3):List Value:=[.int .i64 x.1.k,x.2.1,x.2.2.1,x.2.2.2]
theorem fC_length (x:FT × FV3):(fC x).length=4:=rfl
mutual
def FTAt (S:Nat->Prop)(w:World):FT->FV3->Prop
 | .mk _ subs refs ps,v=>Sl S w 3 v.1 (pcs subs)/\Sl S w 1 v.2.1 (ic refs)/\∃ l:List FV3,FTsAt S w ps l/\Sl S w 4 v.2.2 ((ps.zip l).flatMap fC)
def FTsAt (S:Nat->Prop)(w:World):List FT->List FV3->Prop
 | [],l=>l=[]
 | r::rs,l=>∃ pv l',l=pv::l'/\FTAt S w r pv/\FTsAt S w rs l'
end
theorem ftsAt_zip {S:Nat->Prop} {w:World}:∀ {ps:List FT} {l:List FV3},FTsAt S w ps l->(ps.zip l).map (·.1)=ps/\∀ x∈ps.zip l,FTAt S w x.1 x.2
 | [],l,h=>by rw[FTsAt]at h;subst h;simp
 | r::rs,l,h=>by
  rw[FTsAt]at h;obtain⟨pv,l',rfl,h1,h2⟩:=h;obtain⟨h3,h4⟩:=ftsAt_zip h2;refine⟨by rw[List.zip_cons_cons,List.map_cons,h3],fun x hx=>?_⟩;rw[List.zip_cons_cons]at hx;rcases List.mem_cons.1 hx with rfl | hx
  ·exact h1
  ·exact h4 x hx
theorem ftsAt_of {S:Nat->Prop} {w:World}:∀ {q:List (FT × FV3)},(∀ x∈q,FTAt S w x.1 x.2)->FTsAt S w (q.map (·.1)) (q.map (·.2))
 | [],_=>by rw[List.map_nil,List.map_nil,FTsAt]
 | x::q,h=>by
  rw[List.map_cons,List.map_cons,FTsAt];exact⟨x.2,_,rfl,h x List.mem_cons_self,ftsAt_of fun y hy=>h y (List.mem_cons_of_mem _ hy)⟩
theorem FTAt.iff {S:Nat->Prop} {w:World} (r:FT)(v:FV3):FTAt S w r v↔Sl S w 3 v.1 (pcs r.subs)/\Sl S w 1 v.2.1 (ic r.refs)/\∃ q:List (FT × FV3),q.map (·.1)=r.ps/\(∀ x∈q,FTAt S w x.1 x.2)/\Sl S w 4 v.2.2 (q.flatMap fC):=by
 obtain⟨k,subs,refs,ps⟩:=r;rw[FTAt];constructor
 ·rintro⟨h1,h2,l,h3,h4⟩;exact⟨h1,h2,_,(ftsAt_zip h3).1,(ftsAt_zip h3).2,h4⟩
 ·rintro⟨h1,h2,q,h3,h4,h5⟩;refine⟨h1,h2,q.map (·.2),?_,?_⟩
  ·have:=ftsAt_of h4;rwa[h3]at this
  ·rw[show ps=q.map (·.1)from h3.symm,zip_maps];exact h5
theorem FTAt.same {S:Nat->Prop} {w w':World} {r:FT} {v:FV3} (h:FTAt S w r v)(hs:Same S w w'):FTAt S w' r v:=by
 induction r using FT.ind generalizing v with
 | h r ih =>
  obtain⟨h1,h2,q,h3,h4,h5⟩:=(FTAt.iff r v).1 h;exact(FTAt.iff r v).2 ⟨h1.same hs,h2.same hs,q,h3,fun x hx=>ih x.1 (by rw[<- h3];exact List.mem_map_of_mem hx) (h4 x hx),h5.same hs⟩
theorem FTAt.mono {S S':Nat->Prop} {w:World} {r:FT} {v:FV3} (h:FTAt S w r v)(hs:∀ b,S b->S' b):FTAt S' w r v:=by
 induction r using FT.ind generalizing v with
 | h r ih =>
  obtain⟨h1,h2,q,h3,h4,h5⟩:=(FTAt.iff r v).1 h;exact(FTAt.iff r v).2 ⟨h1.mono hs,h2.mono hs,q,h3,fun x hx=>ih x.1 (by rw[<- h3];exact List.mem_map_of_mem hx) (h4 x hx),h5.mono hs⟩
theorem FTAt.up {w w':World} {r:FT} {v:FV3} (h:FTAt (· < w.heap.size) w r v)(hb:Below w.heap.size w w'):FTAt (· < w'.heap.size) w' r v :=
 (h.same (Same.below hb)).mono fun _ h=>Nat.lt_of_lt_of_le h hb.size
theorem FTAt.rows {S:Nat->Prop} {w:World} {r:FT} {v:FV3} (h:FTAt S w r v) :
  ∃ ao c,v.2.2 = .slice ao r.ps.length c/\r.ps.length<=c/\c<=9223372036854775807/\∀ i (hi:i<r.ps.length),∃ b off pv,ao=some ⟨b,off,none⟩/\S b /\
   w.cell? ⟨b,off+i*4,none⟩=some (.int .i64 r.ps[i].k)/\w.cell? ⟨b,off+i*4+1,none⟩=some pv.1/\w.cell? ⟨b,off+i*4+2,none⟩=some pv.2.1/\w.cell? ⟨b,off+i*4+3,none⟩=some pv.2.2/\FTAt S w r.ps[i] pv:=by
 obtain⟨-,-,q,h1,h2,h3⟩:=(FTAt.iff r v).1 h;have hlen:q.length=r.ps.length:=by rw[<- h1,List.length_map]
 obtain⟨ao,c,e,h4,h5,hc⟩:=Sl.rows fC_length (by decide) h3;refine⟨ao,c,by rw[e,hlen],by omega,h5,fun i hi=>?_⟩;have hiq:i<q.length:=by omega
 obtain⟨b,off,rfl,hb,hc⟩:=hc (by omega);have hget:r.ps[i]=q[i].1:=by simp only[<- h1,List.getElem_map]
 rw[hget];exact⟨b,off,q[i].2,rfl,hb,hc i hiq 0 _ rfl,hc i hiq 1 _ rfl,hc i hiq 2 _ rfl,hc i hiq 3 _ rfl,h2 _ (List.getElem_mem hiq)⟩
def fV (r:FT)(v:FV3):Value := .agg #[.int .i64 r.k,v.1,v.2.1,v.2.2]
theorem pointsT:ElemT Tryz.prog 59 32 3 48:=ElemT.mk' Tryz.underlying59 (show _=some (some (.agg #[.string ByteArray.empty,.string ByteArray.empty,.string ByteArray.empty]),3,48)by kernel_rfl) rfl (by decide)
theorem subsT:ElemT Tryz.prog 42 33 3 48:=ElemT.mk' Tryz.underlying42 (show _=some (some (.agg #[.string ByteArray.empty,.string ByteArray.empty,.string ByteArray.empty]),3,48)by kernel_rfl) rfl (by decide)
theorem pcs_length (l:List P3):(pcs l).length=3*l.length:=by
 unfold pcs;induction l with
 | nil=>rfl
 | cons a r ih=>rw[List.flatMap_cons,List.length_append,ih,pC_length,List.length_cons];omega
theorem pcs_one (l:List P3):∀ u∈pcs l,u.oneCell'=true:=by
 intro u hu;obtain⟨a,_,ha⟩:=List.mem_flatMap.1 hu;exact pC_one a u ha
theorem pcs_append (a b:List P3):pcs (a++b)=pcs a++pcs b:=List.flatMap_append
theorem pcs_single (a:P3):pcs [a]=pC a:=by simp[pcs]
end Go.Proofs.YtlhaghoajpglaaaGreat
namespace Go.Proofs.YtlhaghoajpglaaaGreat
open Go Go.RowKit Go.Maps
def tuC (t:Tup):List Value:=[.string t.o.t,.string t.o.i,.string t.o.r,.string t.s.t,.string t.s.i,.string t.s.r]
def tuCs (l:List Tup):List Value:=l.flatMap tuC
theorem tuC_length (t:Tup):(tuC t).length=6:=rfl
theorem tuCs_length (l:List Tup):(tuCs l).length=l.length*6:=flat_length tuC_length l
theorem tuCs_append (a b:List Tup):tuCs (a++b)=tuCs a++tuCs b:=by unfold tuCs;rw[List.flatMap_append]
theorem tupT:ElemT Tryz.prog 27 67 6 96:=ElemT.mk' Tryz.underlying27 (show _=some (some (.agg #[.string ByteArray.empty,.string ByteArray.empty,.string ByteArray.empty,.string ByteArray.empty,.string ByteArray.empty,.string ByteArray.empty]),6,96)by kernel_rfl) rfl (by decide)
theorem tup_neq (a b:Tup)(W:World):(binOp BinOp.neq 67 (tV a) (tV b)).run Tryz.prog W = .ok (.bool (decide (a≠b))) W:=by
 obtain⟨⟨a1,a2,a3⟩,⟨a4,a5,a6⟩⟩:=a;obtain⟨⟨b1,b2,b3⟩,⟨b4,b5,b6⟩⟩:=b;unfold tV;dsimp only;go_simp;simp only[ba_toList];by_cases h1:a1=b1
 ·by_cases h2:a2=b2
  ·by_cases h3:a3=b3
   ·by_cases h4:a4=b4
    ·by_cases h5:a5=b5
     ·by_cases h6:a6=b6 <;> simp[h1,h2,h3,h4,h5,h6]
     ·simp[h1,h2,h3,h4,h5]
    ·simp[h1,h2,h3,h4]
   ·simp[h1,h2,h3]
  ·simp[h1,h2]
 ·simp[h1]
theorem sub_eql (a b:P3)(W:World):(binOp BinOp.eql 33 (pV a) (pV b)).run Tryz.prog W = .ok (.bool (decide (a=b))) W:=by
 obtain⟨a1,a2,a3⟩:=a;obtain⟨b1,b2,b3⟩:=b;unfold pV;dsimp only;go_simp;simp only[ba_toList];by_cases h1:a1=b1 <;> by_cases h2:a2=b2 <;> by_cases h3:a3=b3 <;> simp[h1,h2,h3]
theorem ltP_asym {a b:P3} (h:ltP a b=true):ltP b a=false:=by
 cases k:ltP b a with
 | false=>rfl
 | true=>have:=ltP_trans h k;rw[ltP_irr]at this;cases this
theorem upP_unique:∀ {a b:List P3},UpP a->UpP b->(∀ x,x∈a↔x∈b)->a=b
 | [],[],_,_,_=>rfl
 | [],y::b,_,_,h=>absurd ((h y).2 (by simp)) (by simp)
 | x::a,[],_,_,h=>absurd ((h x).1 (by simp)) (by simp)
 | x::a,y::b,ha,hb,h=>by
  obtain⟨ha1,ha2⟩:=List.pairwise_cons.1 ha;obtain⟨hb1,hb2⟩:=List.pairwise_cons.1 hb
  have hxy:x=y:=by
   rcases List.mem_cons.1 ((h x).1 (by simp))with e | hx
   ·exact e
   ·rcases List.mem_cons.1 ((h y).2 (by simp))with e | hy
    ·exact e.symm
    ·have h1:=ha1 y hy;rw[ltP_asym (hb1 x hx)]at h1;cases h1
  subst hxy;congr 1
  refine upP_unique ha2 hb2 fun z=>?_;constructor
  ·intro hz;rcases List.mem_cons.1 ((h z).1 (by simp[hz]))with rfl | k
   ·have:=ha1 z hz;rw[ltP_irr]at this;cases this
   ·exact k
  ·intro hz;rcases List.mem_cons.1 ((h z).2 (by simp[hz]))with rfl | k
   ·have:=hb1 z hz;rw[ltP_irr]at this;cases this
   ·exact k
theorem ints_at {S:Nat->Prop} {w:World} {ao:Option Addr} {l:List Int} {c:Nat} (h:Sl S w 1 (.slice ao l.length c) (ic l)):∀ i (hi:i<l.length),∃ b off,ao=some ⟨b,off,none⟩/\S b/\w.cell? ⟨b,off+i,none⟩=some (.int .i64 l[i]):=by
 obtain⟨ao',n',c',hv,h1,h2,h3,h4,h5⟩:=h;cases hv;intro i hi;obtain⟨b,off,rfl,hb,hc⟩:=h5 (fun e=>by have:=congrArg List.length e;rw[ic_length]at this;simp only[List.length_nil]at this;omega);exact⟨b,off,rfl,hb,hc i _ (by simp[ic,hi])⟩
theorem indexIF_any (w:World)(ps:List Int)(pv:Value)(g:Nat)(cap:Array Value)(eg:∀ args W,(callFunc g args).run Tryz.prog W = .ok (.enter g args) W)(q:Int->Bool)(hat:Sl (· < w.heap.size) w 1 pv (ic ps))(hf:∀ i (hi:i<ps.length) W,Below w.heap.size w W->Calls Tryz.prog g (#[.int .i64 ps[i]]++cap) W fun e W'=>e = .returned (.bool (q ps[i]))/\Below W.heap.size W W') :
  Calls Tryz.prog 252 #[pv,.func (.func g) #[] cap] w fun e w'=>∃ k:Int,e = .returned (.int .i64 k)/\(0<=k↔ps.any q=true)/\Below w.heap.size w w':=by
 obtain⟨ao,n,c,rfl,hn,hlc,hcm⟩:=hat.len;rw[ic_length,Nat.mul_one]at hn;subst hn;have HC:=h! (ints_at hat);have HF:=h! hf;clear hat hf;go_enter Tryz.func252,Tryz.ntmps252
 go_wp2_with fail
 go_loopw [5,8] (fun _ ii wr=>∃ i:Nat,i<=ps.length/\ii = .int .i64 i/\(∀ j (hj:j<ps.length),j<i->q ps[j]=false)/\Below w.heap.size w wr) (fun _ ii _=>ps.length-(intOf ii).toNat)
 case atStart=>exact⟨0,by omega,rfl,fun _ _ h=>absurd h (by omega),Below.refl _ _⟩
 case round =>
  obtain⟨i,hi,rfl,hall,hbel⟩:=hrel;have HALL:=h! hall;clear hall;by_cases hlt:i<ps.length
  ·have HUP:=h! (fun h=>upto_succ (p:=fun j hj=>q ps[j]=false) HALL.out hlt h);have HAN:=h! (fun(h:q ps[i]=true)=>(show ps.any q=true from List.any_eq_true.2 ⟨_,List.getElem_mem hlt,h⟩));obtain⟨bb,off,hbo,hb,c0⟩:=HC.out i hlt;cases hbo;have d0:=(hbel.cell (p:=⟨bb,off+i,none⟩) hb).trans c0;have HR:=h! (HF.out i hlt wr hbel);clear c0 hb;generalize ps[i]=p at *;have HB:=h! hbel;clear hbel;cases hq:q p with
   | true =>
    rw[hq]at HR;have HT:=h! (HAN.out hq);clear HUP HAN hq;go_wp2_with fail
    refine HR.out.mono ?_;rintro e w5 ⟨rfl,hb5⟩;have HBE:=h! (HB.out.trans (hb5.mono HB.out.size));clear HR hb5 d0;go_wp2_with fail
    go_ret
    exact⟨_,rfl,⟨fun _=>HT.out,fun _=>by omega⟩,HBE.out⟩
   | false =>
    rw[hq]at HR;have HN:=h! (HUP.out hq);clear HUP HAN hq;go_wp2_with fail
    refine HR.out.mono ?_;rintro e w5 ⟨rfl,hb5⟩;have HBE:=h! (HB.out.trans (hb5.mono HB.out.size));clear HR hb5 d0;go_wp2_with fail
    go_roundw
    case rel=>exact⟨i+1,by omega,by go_num,HN.out,HBE.out⟩
    case measure=>simp[intOf];omega
  ·obtain rfl:i=ps.length:=by omega
   have HN:=h! (show ¬ ps.any q=true from fun h=>by
    obtain⟨x,hx,hq⟩:=List.any_eq_true.1 h;obtain⟨j,hj,rfl⟩:=List.getElem_of_mem hx;rw[HALL.out j hj hj]at hq;cases hq)
   have HB:=h! hbel;clear hbel;go_wp2_with fail
   go_ret
   exact⟨_,rfl,⟨fun h=>absurd h (by omega),fun h=>absurd h HN.out⟩,HB.out⟩
theorem containsIF_any (w:World)(ps:List Int)(pv:Value)(g:Nat)(cap:Array Value)(eg:∀ args W,(callFunc g args).run Tryz.prog W = .ok (.enter g args) W)(q:Int->Bool)(hat:Sl (· < w.heap.size) w 1 pv (ic ps))(hf:∀ i (hi:i<ps.length) W,Below w.heap.size w W->Calls Tryz.prog g (#[.int .i64 ps[i]]++cap) W fun e W'=>e = .returned (.bool (q ps[i]))/\Below W.heap.size W W') :
  Calls Tryz.prog 254 #[pv,.func (.func g) #[] cap] w fun e w'=>e = .returned (.bool (ps.any q))/\Below w.heap.size w w':=by
 have HI:=h! (indexIF_any w ps pv g cap eg q hat hf);clear hat hf;go_enter Tryz.func254,Tryz.ntmps254
 go_wp2_with fail
 refine HI.out.mono ?_;rintro e w2 ⟨k,rfl,hk,hb⟩;have HK:=h! hk;have HB:=h! hb;clear HI hk hb;by_cases h0:0<=k
 ·have HM:=h! (HK.out.1 h0);go_wp2_with fail
  go_ret
  exact⟨by rw[HM.out];simp[],HB.out⟩
 ·have HM:=h! (show ps.any q=false from by cases h:ps.any q with | false=>rfl | true=>exact absurd (HK.out.2 h) h0);go_wp2_with fail
  go_ret
  exact⟨by rw[HM.out];simp[h0],HB.out⟩
theorem indexFF_any (w:World)(ps:List FT)(k:Int)(sa:List P3)(sb:List Int)(pv:FV3)(g:Nat)(cap:Array Value)(eg:∀ args W,(callFunc g args).run Tryz.prog W = .ok (.enter g args) W)(q:FT->Bool)(hat:FTAt (· < w.heap.size) w (.mk k sa sb ps) pv)(hf:∀ i (hi:i<ps.length) W pvi,Below w.heap.size w W->FTAt (· < W.heap.size) W ps[i] pvi->Calls Tryz.prog g (#[fV ps[i] pvi]++cap) W fun e W'=>e = .returned (.bool (q ps[i]))/\Below W.heap.size W W') :
  Calls Tryz.prog 219 #[pv.2.2,.func (.func g) #[] cap] w fun e w'=>∃ k:Int,e = .returned (.int .i64 k)/\(0<=k↔ps.any q=true)/\Below w.heap.size w w':=by
 obtain⟨pv1,pv2,pv3⟩:=pv;obtain⟨ao,c,he,hlc,hcm,hcell⟩:=hat.rows;dsimp only[FT.ps]at he hlc hcell ⊢;subst he;have HC:=h! hcell;have HF:=h! hf;clear hat hcell hf;go_enter Tryz.func219,Tryz.ntmps219
 go_wp2_with fail
 go_loopw [5,8] (fun _ ii wr=>∃ i:Nat,i<=ps.length/\ii = .int .i64 i/\(∀ j (hj:j<ps.length),j<i->q ps[j]=false)/\Below w.heap.size w wr) (fun _ ii _=>ps.length-(intOf ii).toNat)
 case atStart=>exact⟨0,by omega,rfl,fun _ _ h=>absurd h (by omega),Below.refl _ _⟩
 case round =>
  obtain⟨i,hi,rfl,hall,hbel⟩:=hrel;have HALL:=h! hall;clear hall;by_cases hlt:i<ps.length
  ·have HUP:=h! (fun h=>upto_succ (p:=fun j hj=>q ps[j]=false) HALL.out hlt h);have HAN:=h! (fun(h:q ps[i]=true)=>(show ps.any q=true from List.any_eq_true.2 ⟨_,List.getElem_mem hlt,h⟩));obtain⟨bb,off,⟨e1,e2,e3⟩,hbo,hb,c0,c1,c2,c3,hat2⟩:=HC.out i hlt;cases hbo;dsimp only at c1 c2 c3;have d0:=(hbel.cell (p:=⟨bb,off+i*4,none⟩) hb).trans c0;have d1:=(hbel.cell (p:=⟨bb,off+i*4+1,none⟩) hb).trans c1;have d2:=(hbel.cell (p:=⟨bb,off+i*4+2,none⟩) hb).trans c2;have d3:=(hbel.cell (p:=⟨bb,off+i*4+3,none⟩) hb).trans c3;have HR:=h! (HF.out i hlt wr (e1,e2,e3) hbel (hat2.up hbel));clear c0 c1 c2 c3 hat2 hb;unfold fV at HR;dsimp only at HR;generalize ps[i]=p at *;have HB:=h! hbel;clear hbel;cases hq:q p with
   | true =>
    rw[hq]at HR;have HT:=h! (HAN.out hq);clear HUP HAN hq;go_wp2_with fail
    refine HR.out.mono ?_;rintro e w5 ⟨rfl,hb5⟩;have HBE:=h! (HB.out.trans (hb5.mono HB.out.size));clear HR hb5 d0 d1 d2 d3;go_wp2_with fail
    go_ret
    exact⟨_,rfl,⟨fun _=>HT.out,fun _=>by omega⟩,HBE.out⟩
   | false =>
    rw[hq]at HR;have HN:=h! (HUP.out hq);clear HUP HAN hq;go_wp2_with fail
    refine HR.out.mono ?_;rintro e w5 ⟨rfl,hb5⟩;have HBE:=h! (HB.out.trans (hb5.mono HB.out.size));clear HR hb5 d0 d1 d2 d3;go_wp2_with fail
    go_roundw
    case rel=>exact⟨i+1,by omega,by go_num,HN.out,HBE.out⟩
    case measure=>simp[intOf];omega
  ·obtain rfl:i=ps.length:=by omega
   have HN:=h! (show ¬ ps.any q=true from fun h=>by
    obtain⟨x,hx,hq⟩:=List.any_eq_true.1 h;obtain⟨j,hj,rfl⟩:=List.getElem_of_mem hx;rw[HALL.out j hj hj]at hq;cases hq)
   have HB:=h! hbel;clear hbel;go_wp2_with fail
   go_ret
   exact⟨_,rfl,⟨fun h=>absurd h (by omega),fun h=>absurd h HN.out⟩,HB.out⟩
theorem containsFF_any (w:World)(ps:List FT)(k:Int)(sa:List P3)(sb:List Int)(pv:FV3)(g:Nat)(cap:Array Value)(eg:∀ args W,(callFunc g args).run Tryz.prog W = .ok (.enter g args) W)(q:FT->Bool)(hat:FTAt (· < w.heap.size) w (.mk k sa sb ps) pv)(hf:∀ i (hi:i<ps.length) W pvi,Below w.heap.size w W->FTAt (· < W.heap.size) W ps[i] pvi->Calls Tryz.prog g (#[fV ps[i] pvi]++cap) W fun e W'=>e = .returned (.bool (q ps[i]))/\Below W.heap.size W W') :
  Calls Tryz.prog 257 #[pv.2.2,.func (.func g) #[] cap] w fun e w'=>e = .returned (.bool (ps.any q))/\Below w.heap.size w w':=by
 have HI:=h! (indexFF_any w ps k sa sb pv g cap eg q hat hf);clear hat hf;go_enter Tryz.func257,Tryz.ntmps257
 go_wp2_with fail
 refine HI.out.mono ?_;rintro e w2 ⟨k,rfl,hk,hb⟩;have HK:=h! hk;have HB:=h! hb;clear HI hk hb;by_cases h0:0<=k
 ·have HM:=h! (HK.out.1 h0);go_wp2_with fail
  go_ret
  exact⟨by rw[HM.out];simp[],HB.out⟩
 ·have HM:=h! (show ps.any q=false from by cases h:ps.any q with | false=>rfl | true=>exact absurd (HK.out.2 h) h0);go_wp2_with fail
  go_ret
  exact⟨by rw[HM.out];simp[h0],HB.out⟩
theorem indexS_any (v:Value)(l:List P3)(k:P3)(w:World)(h:Sl (· < w.heap.size) w 3 v (pcs l)) :
  Calls Tryz.prog 268 #[v,pV k] w fun e w'=>(∃ i:Int,e = .returned (.int .i64 i)/\(0<=i↔k∈l))/\Below w.heap.size w w':=by
 obtain⟨ao,c,rfl,hlc,hcm,hc⟩:=Sl.rows pC_length (by decide) (show Sl (· < w.heap.size) w 3 v (l.flatMap pC)from h);have HC:=h! hc;clear hc h;obtain⟨w2,hw2⟩:∃ x,x=w.alloc (.cells #[.string k.t,.string k.i,.string k.r] 33):=⟨_,rfl⟩;have e2:w2.heap.size=w.heap.size+1:=by rw[hw2];simp
 have KB:=h! (show Blk w2 w.heap.size #[.string k.t,.string k.i,.string k.r] 33 from by rw[hw2];exact Blk.made _ _ _);have X2:=h! (show Ext w w2 from by rw[hw2];exact Ext.alloc _ _);unfold pV;go_enter Tryz.func268,Tryz.ntmps268
 go_wp2_with fail
 rw[<- hw2];clear hw2 e2;go_loopw [5,8] (fun _ iv wr=>∃ i:Nat,i<=l.length/\iv = .int .i64 i/\(∀ j (hj:j<l.length),j<i->l[j]≠k)/\Ext w2 wr) (fun _ iv _=>l.length-(intOf iv).toNat)
 case atStart=>exact⟨0,Nat.zero_le _,rfl,(fun _ _ h=>absurd h (Nat.not_lt_zero _)),Ext.refl _⟩
 case round =>
  obtain⟨i,hi,rfl,hall,hx⟩:=hrel;have HALL:=h! hall;have HX:=h! hx;clear hall hx;by_cases hlt:i<l.length
  ·obtain⟨b,off,rfl,hb,hcl⟩:=HC.out (by omega);have G:=h! (fun W (hW:Ext wr W)=>show ∀ (o:Nat) v,(pC l[i])[o]?=some v->W.cell? ⟨b,off+i*3+o,none⟩=some v from fun o v ho=>(X2.out.trans (HX.out.trans hW)).cell (hcl i hlt o v ho));have hli:(i:Int)<(l.length:Int):=by omega
   have HLT:=h! hlt;have HUP:=h! (fun(h:l[i]≠k)=>upto_succ (p:=fun j hj=>l[j]≠k) HALL.out hlt h);have HMM:=h! (fun(h:l[i]=k)=>(show k∈l from h▸List.getElem_mem hlt));generalize l[i]=x at *;clear hlt hb hcl;go_wp2_with fail
   obtain⟨wd,hwd⟩:∃ z:World,z=World.drew wr:=⟨_,rfl⟩;have DX:=h! (show Ext wr wd from by rw[hwd];exact Ext.drew _);refine r! (Ext wd) (by rw[<- hwd];exact Ext.refl _) ?_;rw[<- hwd];clear hwd;have h0:∀ W,Ext wd W->W.cell? ⟨b,off+i*3,none⟩=some (.string x.t):=fun W h=>G.out W (DX.out.trans h) 0 _ rfl;have h1:=fun W (h:Ext wd W)=>G.out W (DX.out.trans h) 1 _ rfl;have h2:=fun W (h:Ext wd W)=>G.out W (DX.out.trans h) 2 _ rfl;have h3:=fun W (h:Ext wd W)=>(KB.out.below (HX.out.trans (DX.out.trans h))).cells;have h4:=fun W=>sub_eql k x W;unfold pV at h4;have HQ:∃ bq,Hid (decide (k=x)=bq):=⟨_,h! rfl⟩;obtain⟨bq,HQ⟩:=HQ;rw[HQ.out]at h4;(refine WalkN.tk [0,1,2,3,4,5] ?_;(iterate 6 (refine c! ?_));refine TkN.n ?_)
   refine d! ?_;clear h0 h1 h2 h3 h4 hli;cases bq with
   | true =>
    have HM:=h! (HMM.out (of_decide_eq_true HQ.out).symm);have HE:=h! (show Below w.heap.size w wd from X2.out.trans (HX.out.trans DX.out));clear HUP HMM HQ;go_wp2_with fail
    go_ret
    exact⟨⟨_,rfl,⟨fun _=>HM.out,fun _=>by omega⟩⟩,HE.out⟩
   | false =>
    have HN:=h! (HUP.out fun e=>of_decide_eq_false HQ.out e.symm);have HWI:=h! (show wrap64 ((i:Int)+1)=((i+1:Nat):Int)from by have:=HLT.out;unfold wrap64;omega);clear HUP HMM HQ;go_wp2_with fail
    go_roundw
    case rel=>exact⟨i+1,HLT.out,by first | rw[HWI.out] | go_num,HN.out,HX.out.trans DX.out⟩
    case measure=>have:=HLT.out;(try rw[HWI.out]);simp[intOf];omega
  ·obtain rfl:i=l.length:=by omega
   have HN:=h! (show k∉l from fun hk=>by obtain⟨j,hj,e⟩:=List.getElem_of_mem hk;exact HALL.out j hj hj e);have HE:=h! (show Below w.heap.size w wr from X2.out.trans HX.out);go_wp2_with fail
   go_ret
   exact⟨⟨_,rfl,⟨fun h=>absurd h (by decide),fun h=>absurd h HN.out⟩⟩,HE.out⟩
theorem containsS_any (v:Value)(l:List P3)(k:P3)(w:World)(h:Sl (· < w.heap.size) w 3 v (pcs l)) :
  Calls Tryz.prog 216 #[v,pV k] w fun e w'=>e = .returned (.bool (decide (k∈l)))/\Below w.heap.size w w':=by
 obtain⟨w2,hw2⟩:∃ x,x=w.alloc (.cells #[.string k.t,.string k.i,.string k.r] 33):=⟨_,rfl⟩;have KB:=h! (show Blk w2 w.heap.size #[.string k.t,.string k.i,.string k.r] 33 from by rw[hw2];exact Blk.made _ _ _);have X2:=h! (show Ext w w2 from by rw[hw2];exact Ext.alloc _ _);have HI:=h! (indexS_any v l k w2 ((h.same (Same.below X2.out)).mono fun _ h=>Nat.lt_of_lt_of_le h X2.out.size));obtain⟨ao,c,rfl,-⟩:=Sl.rows pC_length (by decide) (show Sl (· < w.heap.size) w 3 v (l.flatMap pC)from h);clear h;unfold pV at HI ⊢;go_enter Tryz.func216,Tryz.ntmps216
 go_wp2_with fail
 rw[<- hw2];clear hw2;have hk:=KB.out.cells;go_wp2_with fail
 refine HI.out.mono ?_;rintro e w1 ⟨⟨i,rfl,hi⟩,hb⟩;have HB:=h! (show Below w.heap.size w w1 from Ext.trans X2.out hb);clear hk hb;by_cases hk:k∈l
 ·have h0:=hi.2 hk;clear hi;go_wp2_with fail
  go_ret
  exact⟨by rw[decide_eq_true hk];simp[],HB.out⟩
 ·have h0:¬ (0<=i):=fun h=>hk (hi.1 h);have hd:decide (0<=i)=false:=decide_eq_false h0;clear hi h0;go_wp2_with fail
  go_ret
  exact⟨by rw[decide_eq_false hk];rfl,HB.out⟩
def msC (ms:List Nat):List Value:=ms.map fun m => .map (some m)
theorem msC_length (ms:List Nat):(msC ms).length=ms.length:=by simp[msC]
structure LkM (w:World)(ms:List Nat)(L:List (List O2)):Prop where
 len:ms.length=L.length
 sets:∀ i (h1:i<ms.length) (h2:i<L.length),OS w ms[i] L[i]
 nodup:ms.Nodup
structure LkS (w:World)(sp:Nat)(pv fv:Value)(typ:ByteArray)(iv:Value)(ms:List Nat)(ma:Nat)(L:List (List O2))(all:List O2):Prop where
 box:Blk w sp #[pv,fv,.string typ,iv,.map (some ma)] 284
 row:Sl (fun b=>b<w.heap.size/\b≠ma/\b∉ms) w 1 iv (msC ms)
 mem:LkM w ms L
 alls:OS w ma all
 ne:ma∉ms
section
variable {w w' : World} {sp ma : Nat} {pv fv iv : Value} {typ : ByteArray} {ms : List Nat} {L : List (List O2)} {all : List O2}
theorem LkM.ext (h:LkM w ms L)(hx:Ext w w'):LkM w' ms L:=⟨h.len,fun i h1 h2=>(h.sets i h1 h2).below hx,h.nodup⟩
theorem LkS.ext (h:LkS w sp pv fv typ iv ms ma L all)(hx:Ext w w'):LkS w' sp pv fv typ iv ms ma L all :=
 ⟨h.box.below hx,(h.row.same fun b hb=>hx.block b hb.1).mono fun _ hb=>⟨Nat.lt_of_lt_of_le hb.1 hx.size,hb.2⟩,h.mem.ext hx,h.alls.below hx,h.ne⟩
theorem LkM.lt (h:LkM w ms L):∀ m∈ms,m<w.heap.size:=fun m hm=>by
 obtain⟨i,hi,rfl⟩:=List.getElem_of_mem hm;exact(h.sets i hi (by rw[<- h.len];exact hi)).lt
theorem LkS.spNe (h:LkS w sp pv fv typ iv ms ma L all):sp≠ma:=fun e=>h.alls.notCells _ _ _ (e▸h.box)
theorem LkS.spNot (h:LkS w sp pv fv typ iv ms ma L all):sp∉ms:=fun hm=>by
 obtain⟨i,hi,e⟩:=List.getElem_of_mem hm;exact(h.mem.sets i hi (by rw[<- h.mem.len];exact hi)).notCells _ _ _ (e▸h.box)
theorem LkS.setAll (h:LkS w sp pv fv typ iv ms ma L all)(hk:Tk ma w w') {all':List O2} (ha:OS w' ma all'):LkS w' sp pv fv typ iv ms ma L all' :=
 ⟨hk.box h.box h.spNe,(h.row.same fun b hb=>hk.block b ⟨hb.1,hb.2.1⟩).mono fun _ hb=>⟨Nat.lt_of_lt_of_le hb.1 hk.size,hb.2⟩,
  ⟨h.mem.len,fun i h1 h2=>(h.mem.sets i h1 h2).same (hk.block _ ⟨(h.mem.sets i h1 h2).lt,fun e=>h.ne (e▸List.getElem_mem h1)⟩),h.mem.nodup⟩,ha,h.ne⟩
theorem LkS.setAt (h:LkS w sp pv fv typ iv ms ma L all) {i:Nat} (hi:i<ms.length)(hk:Tk ms[i] w w') {A:List O2} (ha:OS w' ms[i] A):LkS w' sp pv fv typ iv ms ma (L.set i A) all:=by
 have hm:=List.getElem_mem hi
 refine⟨hk.box h.box fun e=>h.spNot (e▸hm),(h.row.same fun b hb=>hk.block b ⟨hb.1,fun e=>hb.2.2 (e▸hm)⟩).mono fun _ hb=>⟨Nat.lt_of_lt_of_le hb.1 hk.size,hb.2⟩,
  ⟨by rw[List.length_set];exact h.mem.len,fun j h1 h2=>?_,h.mem.nodup⟩,h.alls.same (hk.block _ ⟨h.alls.lt,fun e=>h.ne (e▸hm)⟩),h.ne⟩
 rw[List.getElem_set];by_cases e:i=j
 ·subst e;rw[if_pos rfl];exact ha
 ·rw[if_neg e];have h3:j<L.length:=by rw[List.length_set]at h2;exact h2
  exact(h.mem.sets j h1 h3).same (hk.block _ ⟨(h.mem.sets j h1 h3).lt,fun e2=>e ((List.getElem_inj h.mem.nodup).1 e2.symm)⟩)
theorem ms_at {S:Nat->Prop} {ao:Option Addr} {n c:Nat} (h:Sl S w 1 (.slice ao n c) (msC ms)):n=ms.length/\∀ i (hi:i<ms.length),∃ b off,ao=some ⟨b,off,none⟩/\S b/\w.cell? ⟨b,off+i,none⟩=some (.map (some ms[i])):=by
 obtain⟨ao',n',c',hv,h1,h2,h3,h4,h5⟩:=h;cases hv;rw[msC_length,Nat.mul_one]at h1;refine⟨h1.symm,fun i hi=>?_⟩;obtain⟨b,off,rfl,hb,hc⟩:=h5 (fun e=>by have:=congrArg List.length e;rw[msC_length]at this;simp only[List.length_nil]at this;omega);exact⟨b,off,rfl,hb,hc i _ (by simp[msC,hi])⟩
def RfI (L:List (List O2))(l:List Int)(o:O2):Prop:=∃ k∈l,0<=k/\o∈L.getD k.toNat []
theorem RfI.snoc {l:List Int} {k:Int} {o:O2}:RfI L (l++[k]) o↔RfI L l o\/(0<=k/\o∈L.getD k.toNat []):=by
 unfold RfI;constructor
 ·rintro⟨x,hx,h⟩;rcases List.mem_append.1 hx with hx | hx
  ·exact .inl ⟨x,hx,h⟩
  ·rw[List.mem_singleton.1 hx]at h;exact .inr h
 ·rintro(⟨x,hx,h⟩ | h)
  ·exact⟨x,List.mem_append_left _ hx,h⟩
  ·exact⟨k,by simp,h⟩
theorem getD_out {L:List (List O2)} {k:Nat} (h:L.length<=k):L.getD k []=[]:=by rw[List.getD_eq_getElem?_getD,List.getElem?_eq_none h];rfl
theorem getD_in {L:List (List O2)} {k:Nat} (h:k<L.length):L.getD k []=L[k]:=by rw[List.getD_eq_getElem?_getD,List.getElem?_eq_getElem h];rfl
theorem refsS_any (h:LkS w sp pv fv typ iv ms ma L all)(l:List Int)(rv:Value)(hr:Sl (· < w.heap.size) w 1 rv (ic l)) :
  Calls Tryz.prog 225 #[.pointer (some ⟨sp,0,none⟩),rv] w fun e w'=>∃ b A,e = .returned (.map (some b))/\w.heap.size<=b/\OS w' b A/\(∀ o,o∈A↔RfI L l o)/\Ext w w':=by
 have HS:=h! h;obtain⟨io,n,c0,rfl,hn,-,-⟩:=h.row.len;obtain⟨ro,rn,c,rfl,hrn,hrc,hcm⟩:=hr.len;rw[ic_length,Nat.mul_one]at hrn;rw[msC_length,Nat.mul_one]at hn;subst hrn hn;have HR:=h! (ints_at hr);have hlm:l.length<=9223372036854775807:=by omega
 have HLM:=h! hlm;clear h hr hcm hlm hrc;have HA0:=h! (show OS (w.alloc (.map #[] 0)) w.heap.size []from Mp.made w);have HX0:=h! (Ext.alloc w (.map #[] 0));have hmm:=@run_makeMap Tryz.prog;go_enter Tryz.func225,Tryz.ntmps225
 go_wp2_with fail
 clear hmm;obtain⟨mb,hmb⟩:∃ x,Hid (x=w.heap.size):=⟨_,h! rfl⟩;rw[<- hmb.out]at HA0;try rw[<- hmb.out]
 go_loopw [11] (fun iv wr=>∃ (i:Nat) (A:List O2),i<=l.length/\iv = .int .i64 i/\OS wr mb A/\(∀ o,o∈A↔RfI L (l.take i) o)/\Ext w wr) (fun iv _=>l.length-(intOf iv).toNat)
 case atStart=>exact⟨0,[],Nat.zero_le _,rfl,HA0.out,fun o=>by simp[RfI],HX0.out⟩
 case round =>
  obtain⟨i,A,hi,rfl,hA,hm,hx⟩:=hrel;have HA:=h! hA;have HM:=h! hm;have HX:=h! hx;clear hA hm hx HA0 HX0;by_cases hlt:i<l.length
  ·have HLT:=h! hlt;have HNX:=h! (List.take_succ_eq_append_getElem hlt);obtain⟨b,off,hro,hb,c0⟩:=HR.out i hlt;cases hro;have d0:=HX.out.cell c0;have HSR:=h! (HS.out.ext HX.out);have hbox:=HSR.out.box.cells;have hli:(i:Int)<(l.length:Int):=by omega
   have HWI:=h! (show wrap64 ((i:Int)+1)=((i+1:Nat):Int)from by have:=HLM.out;unfold wrap64;omega);generalize l[i]=k at *;clear hb c0 hlt;by_cases hk0:0<=k
   rotate_left
   ·have HN:=h! (show ∀ o,o∈A↔RfI L (l.take (i+1)) o from fun o=>by rw[HNX.out,RfI.snoc,HM.out o];exact⟨.inl,fun h=>h.elim id fun h=>absurd h.1 hk0⟩);go_wp2_with fail
    go_roundw
    case rel=>exact⟨i+1,A,HLT.out,by first | rw[HWI.out] | go_num,HA.out,HN.out,HX.out⟩
    case measure=>have:=HLT.out;(try rw[HWI.out]);simp[intOf];omega
   by_cases hk1:k<(ms.length:Int)
   rotate_left
   ·have HN:=h! (show ∀ o,o∈A↔RfI L (l.take (i+1)) o from fun o=>by
     rw[HNX.out,RfI.snoc,HM.out o,getD_out (by have:=HS.out.mem.len;omega)];simp)
    go_wp2_with fail
    go_roundw
    case rel=>exact⟨i+1,A,HLT.out,by first | rw[HWI.out] | go_num,HA.out,HN.out,HX.out⟩
    case measure=>have:=HLT.out;(try rw[HWI.out]);simp[intOf];omega
   obtain⟨kn,rfl⟩:∃ kn:Nat,k=(kn:Int):=⟨k.toNat,by omega⟩;have hkn:kn<ms.length:=by omega
   have hkL:kn<L.length:=by have:=HS.out.mem.len;omega
   obtain⟨ib,ioff,hio,hib,e0⟩:=(ms_at HSR.out.row).2 kn hkn;cases hio;have HSK:=h! (HSR.out.mem.sets kn hkn hkL)
   have HAD:=h! (addS_any mb ms[kn] A L[kn] wr HA.out HSK.out (fun e=>by
    have h1:=HS.out.mem.lt _ (List.getElem_mem hkn);rw[<- e,hmb.out]at h1;omega))
   have HN:=h! (show ∀ o,RfI L (l.take (i+1)) o↔o∈A\/o∈L[kn]from fun o=>by
    rw[HNX.out,RfI.snoc,HM.out o,Int.toNat_natCast,getD_in hkL];simp)
   generalize ms[kn]=mk at *;generalize L[kn]=Lk at *;clear hib hkL;go_wp2_with fail
   refine HAD.out.mono ?_;rintro e w5 ⟨rfl,⟨A',hA',hm'⟩,hk'⟩;have HA5:=h! hA';have HM5:=h! (show ∀ o,o∈A'↔RfI L (l.take (i+1)) o from fun o=>by rw[hm' o,HN.out o]);have HX5:=h! (show Ext w w5 from Below.trans (show Below w.heap.size w wr from HX.out) (Kept.below (B:=w.heap.size) hk' fun b hb=>⟨Nat.lt_of_lt_of_le hb HX.out.size,fun e=>by rw[e,hmb.out]at hb;exact Nat.lt_irrefl _ hb⟩));clear hA' hm' hk' HAD d0 e0 hbox;go_wp2_with fail
   go_roundw
   case rel=>exact⟨i+1,A',HLT.out,by first | rw[HWI.out] | go_num,HA5.out,HM5.out,HX5.out⟩
   case measure=>have:=HLT.out;(try rw[HWI.out]);simp[intOf];omega
  ·obtain rfl:i=l.length:=by omega
   rw[List.take_length]at HM;go_wp2_with fail
   go_ret
   exact⟨mb,A,rfl,by rw[hmb.out];exact Nat.le_refl _,HA.out,HM.out,HX.out⟩
end
def NoPt (w:World)(b:Nat):Prop:=∀ cs,w.heap[b]?≠some (.cells cs 32 (0,0))
def FS (lo:Nat)(w:World)(b:Nat):Prop:=lo<=b/\b<w.heap.size/\NoPt w b
abbrev PKept (M:Nat->Prop) (B:Nat) (w w':World):Prop:=QKept 32 M B w w'
section
variable {w w' w'' : World} {M : Nat -> Prop} {B lo : Nat}
theorem FS.same (h:PKept M B w w')(hM:∀ x,M x->x<lo):Same (FS lo w) w w':=fun b hb=>h.block b (.inr ⟨fun hm=>by have:=hM b hm;have:=hb.1;omega,hb.2.1,hb.2.2⟩)
theorem FS.keep (h:PKept M B w w')(hM:∀ x,M x->x<lo) {b:Nat} (hb:FS lo w b):FS lo w' b :=
 ⟨hb.1,Nat.lt_of_lt_of_le hb.2.1 h.size,fun cs=>by rw[FS.same h hM b hb];exact hb.2.2 cs⟩
theorem FS.mono {lo':Nat} (h:lo<=lo') {b:Nat} (hb:FS lo' w b):FS lo w b:=⟨Nat.le_trans h hb.1,hb.2⟩
theorem FS.ext (h:Ext w w') {b:Nat} (hb:FS lo w b):FS lo w' b:=⟨hb.1,Nat.lt_of_lt_of_le hb.2.1 h.size,fun cs=>by rw[h.block b hb.2.1];exact hb.2.2 cs⟩
theorem Own.fs {e:TypeId} {sz:Nat} {v:Value} {xs:List Value} (h:Own w lo e sz v xs)(he:e≠32):Sl (FS lo w) w sz v xs:=by
 obtain⟨n,ho⟩:=h;refine ownsRow_sl ho _ fun g hg=>⟨(ho.lt g hg).1,(ho.lt g hg).2,fun cs hc=>?_⟩;obtain⟨cur,h2⟩:=(show Own w lo e sz v xs from⟨n,ho⟩).typed hg;rw[hc]at h2;injection h2 with h2
 injection h2 with _ h2 _
 exact he h2.symm
end
structure FRow (lo:Nat)(w:World)(q:List (FT × FV3))(pv:Value):Prop where
 row:Own w lo 128 4 pv (q.flatMap fC)
 parts:∀ x∈q,FTAt (fun b=>FS lo w b/\pv.ownBlock≠some b) w x.1 x.2
section
variable {w w' w1 w3 : World} {M : Nat -> Prop} {B lo n0 : Nat} {q : List (FT × FV3)} {pv v' : Value} {x : FT × FV3}
theorem FRow.nil (lo:Nat)(w:World):FRow lo w [] (.slice none 0 0):=⟨Own.nil _ _ _ _,fun x hx=>by cases hx⟩
theorem FRow.keep (h:FRow lo w q pv)(hk:PKept M B w w')(hM:∀ x,M x->x<lo):FRow lo w' q pv :=
 ⟨h.row.keepOwn fun g hg=>FS.same hk hM g ⟨(h.row.block g hg).1,(h.row.block g hg).2,fun cs hc=>by
   obtain⟨cur,h2⟩:=h.row.typed hg;rw[hc]at h2;injection h2 with h2
   injection h2 with _ h2 _
   exact absurd h2 (by decide)⟩,
  fun x hx=>((h.parts x hx).same fun b hb=>FS.same hk hM b hb.1).mono fun b hb=>⟨FS.keep hk hM hb.1,hb.2⟩⟩
theorem FRow.ext (h:FRow lo w q pv)(hx:Ext w w'):FRow lo w' q pv :=
 ⟨h.row.below hx,fun x hm=>((h.parts x hm).same fun b hb=>hx.block b hb.1.2.1).mono fun _b hb=>⟨hb.1.ext hx,hb.2⟩⟩
theorem FRow.above (h:FRow lo w q pv)(hs:∀ b,lo<=b->b<w.heap.size->w'.heap[b]?=w.heap[b]?)(hz:w.heap.size<=w'.heap.size):FRow lo w' q pv :=
 ⟨h.row.keepOwn fun g hg=>hs g (h.row.block g hg).1 (h.row.block g hg).2,fun x hx=>((h.parts x hx).same fun b hb=>hs b hb.1.1 hb.1.2.1).mono fun b hb=>⟨⟨hb.1.1,Nat.lt_of_lt_of_le hb.1.2.1 hz,fun cs=>by rw[hs b hb.1.1 hb.1.2.1];exact hb.1.2.2 cs⟩,hb.2⟩⟩
theorem FRow.add (h:FRow lo w1 q pv)(hk:∀ b,b<w1.heap.size->pv.ownBlock≠some b->w3.heap[b]?=w1.heap[b]?)(hz:w1.heap.size<=w3.heap.size)(ho:Own w3 lo 128 4 v' (q.flatMap fC++fC x))
  (hb:∀ g,v'.ownBlock=some g->pv.ownBlock=some g\/w1.heap.size<=g) (hx:FTAt (FS n0 w1) w1 x.1 x.2) (hn0:lo<=n0) (hpv:∀ g,pv.ownBlock=some g->g<n0):FRow lo w3 (q++[x]) v':=by
 have hm:∀ b,(FS lo w1 b/\pv.ownBlock≠some b)->(FS lo w3 b/\v'.ownBlock≠some b):=fun b hb'=>⟨⟨hb'.1.1,Nat.lt_of_lt_of_le hb'.1.2.1 hz,fun cs=>by rw[hk b hb'.1.2.1 hb'.2];exact hb'.1.2.2 cs⟩,fun e=>by
  rcases hb b e with e2 | e2
  ·exact hb'.2 e2
  ·have:=hb'.1.2.1;omega⟩
 refine⟨by rw[List.flatMap_append];simpa using ho,fun y hy=>?_⟩;rcases List.mem_append.1 hy with hy | hy
 ·exact((h.parts y hy).same fun b hb'=>hk b hb'.1.2.1 hb'.2).mono hm
 ·obtain rfl:=List.mem_singleton.1 hy;have h2:∀ b,FS n0 w1 b->(FS lo w1 b/\pv.ownBlock≠some b):=fun b hb'=>⟨hb'.mono hn0,fun e=>by have:=hpv b e;have:=hb'.1;omega⟩;exact((hx.mono h2).same fun b hb'=>hk b hb'.1.2.1 hb'.2).mono hm
theorem FRow.forms (h:FRow lo w q pv):∃ p:List (FT × FV3),p.map (·.1)=q.map (·.1)/\(∀ x∈p,FTAt (FS lo w) w x.1 x.2)/\Sl (FS lo w) w 4 pv (p.flatMap fC) :=
 ⟨q,rfl,fun x hx=>(h.parts x hx).mono fun b hb=>hb.1,h.row.fs (by decide)⟩
end
def GrAt (S:Nat->Prop)(w:World)(ps:List P3)(fs:List FT)(pv fv:Value):Prop :=
 Sl S w 3 pv (pcs ps)/\∃ q:List (FT × FV3),q.map (·.1)=fs/\(∀ x∈q,FTAt S w x.1 x.2)/\Sl S w 4 fv (q.flatMap fC)
theorem GrAt.same {S:Nat->Prop} {w w':World} {ps:List P3} {fs:List FT} {pv fv:Value} (h:GrAt S w ps fs pv fv)(hs:Same S w w'):GrAt S w' ps fs pv fv:=by
 obtain⟨h1,q,h2,h3,h4⟩:=h;exact⟨h1.same hs,q,h2,fun x hx=>(h3 x hx).same hs,h4.same hs⟩
theorem GrAt.mono {S T:Nat->Prop} {w:World} {ps:List P3} {fs:List FT} {pv fv:Value} (h:GrAt S w ps fs pv fv)(hs:∀ b,S b->T b):GrAt T w ps fs pv fv:=by
 obtain⟨h1,q,h2,h3,h4⟩:=h;exact⟨h1.mono hs,q,h2,fun x hx=>(h3 x hx).mono hs,h4.mono hs⟩
theorem GrAt.up {w w':World} {ps:List P3} {fs:List FT} {pv fv:Value} (h:GrAt (· < w.heap.size) w ps fs pv fv)(hb:Below w.heap.size w w'):GrAt (· < w'.heap.size) w' ps fs pv fv :=
 (h.same (Same.below hb)).mono fun _ h=>Nat.lt_of_lt_of_le h hb.size
abbrev nuV:Nat->Value:=fun n => .int .i64 n
theorem look_zip (p:P3):∀ (ps:List P3)(k:Nat),lookA (ps.zipIdx k) p=if p∈ps then some (k+numD ps p)else none
 | [],_=>rfl
 | x::ps,k=>by
  rw[List.zipIdx_cons];unfold lookA;by_cases h:x=p
  ·subst h;simp[numD,List.findIdx_cons]
  ·rw[if_neg h,look_zip p ps (k+1)];have hp:¬ p=x:=fun e=>h e.symm;simp only[List.mem_cons,hp,false_or,numD,List.findIdx_cons,h,decide_false,cond_false];split
   ·congr 1;omega
   ·rfl
theorem put_zip (p:P3)(ps:List P3)(h:p∉ps):putA (ps.zipIdx 0) p ps.length=(ps++[p]).zipIdx 0:=by
 rw[put_miss (fun x hx e=>h (by
  have:=List.mem_map_of_mem (f:=Prod.fst) hx;rw[List.zipIdx_map_fst]at this;rw[<- e];exact this)),List.zipIdx_append]
 simp
theorem numD_new (ps:List P3)(p:P3)(h:p∉ps):numD ps p=ps.length:=by
 unfold numD;rw[List.findIdx_eq_length];intro x hx;simp only[decide_eq_false_iff_not];exact fun e=>h (e▸hx)
structure WkAt (w:World)(wp am B:Nat)(tv fi sm:Value)(ps:List P3)(pv fv:Value):Prop where
 box:Blk w wp #[tv,fi,sm,.map (some am),pv,fv,.int .i64 0] 251
 num:Mp Tryz.prog 32 pV nuV w am (ps.zipIdx 0)
 pts:Own w B 32 3 pv (pcs ps)
abbrev WM (wp am:Nat):Nat->Prop:=fun x=>x=wp\/x=am
section
variable {w w' : World} {wp am B : Nat} {tv fi sm pv fv pv' fv' : Value} {ps : List P3} {p : P3}
theorem WkAt.ext (h:WkAt w wp am B tv fi sm ps pv fv)(hx:Ext w w'):WkAt w' wp am B tv fi sm ps pv fv:=⟨h.box.below hx,h.num.below hx,h.pts.below hx⟩
theorem WkAt.same (h:WkAt w wp am B tv fi sm ps pv fv)(h1:w'.heap[wp]?=w.heap[wp]?)(h2:w'.heap[am]?=w.heap[am]?)(h3:∀ g,pv.ownBlock=some g->w'.heap[g]?=w.heap[g]?):WkAt w' wp am B tv fi sm ps pv fv:=⟨h1.trans h.box,h.num.same h2,h.pts.keepOwn h3⟩
theorem WkAt.ne (h:WkAt w wp am B tv fi sm ps pv fv):wp≠am:=fun e=>h.num.notCells _ _ _ (e▸h.box)
theorem WkAt.ptNe (h:WkAt w wp am B tv fi sm ps pv fv):∀ g,pv.ownBlock=some g->g≠wp/\g≠am:=fun g hg=>by
 obtain⟨cur,h2⟩:=h.pts.typed hg;refine⟨fun e=>?_,fun e=>?_⟩
 ·subst e;rw[show w.heap[g]?=_ from h.box]at h2;injection h2 with h2
  injection h2 with _ h2 _
  exact absurd h2 (by decide)
 ·subst e;exact h.num.notCells _ _ _ h2
end
abbrev KX (wp am:Nat) (w:World) (pv:Value) (x:Nat):Prop:=x<w.heap.size/\x≠wp/\x≠am/\pv.ownBlock≠some x
structure Fine (wp am:Nat)(w w':World)(pv pv':Value):Prop where
 kept:Kept (KX wp am w pv) w w'
 wher:∀ g,pv'.ownBlock=some g->pv.ownBlock=some g\/w.heap.size<=g
section
variable {w w' w'' w0 : World} {wp am B B' : Nat} {tv fi sm pv fv pv' pv'' v : Value} {ps : List P3} {e : TypeId} {sz : Nat} {xs : List Value}
theorem Fine.of (wp am:Nat)(pv:Value)(h:Ext w w'):Fine wp am w w' pv pv:=⟨Below.kept h fun _ hx=>hx.1,fun _ hg => .inl hg⟩
theorem Fine.trans (h:Fine wp am w w' pv pv')(k:Fine wp am w' w'' pv' pv''):Fine wp am w w'' pv pv'' :=
 ⟨h.kept.trans (k.kept.mono fun x (hx:KX wp am w pv x)=>⟨Nat.lt_of_lt_of_le hx.1 h.kept.size,hx.2.1,hx.2.2.1,fun e=>by
   rcases h.wher x e with e2 | e2
   ·exact hx.2.2.2 e2
   ·have:=hx.1;omega⟩),
  fun g hg=>by
   rcases k.wher g hg with e | e
   ·exact h.wher g e
   ·exact .inr (Nat.le_trans h.kept.size e)⟩
theorem Fine.size (h:Fine wp am w w' pv pv'):w.heap.size<=w'.heap.size:=h.kept.size
theorem Fine.own (h:Fine wp am w0 w pv pv')(ho:Own w w0.heap.size e sz v xs)(hg:w.grownBy w' v.ownBlock):Fine wp am w0 w' pv pv' :=
 ⟨⟨hg.os.trans h.kept.os,hg.tape.trans h.kept.tape,hg.output.trans h.kept.output,Nat.le_trans h.kept.size hg.size,fun x hx=>(hg.block x (Nat.lt_of_lt_of_le hx.1 h.kept.size) fun e=>by have:=(ho.block x e.symm).1;have:=hx.1;omega).trans (h.kept.block x hx)⟩,h.wher⟩
theorem Fine.set (h:Fine wp am w0 w pv pv') {x i:Nat} (hx:w0.heap.size<=x)(u:Value):Fine wp am w0 (w.setCell ⟨x,i,none⟩ u) pv pv' :=
 ⟨h.kept.set (fun hk=>by have h1:x<w0.heap.size:=hk.1;omega) _,h.wher⟩
theorem Fine.pk (h:Fine wp am w w' pv pv')(hw:WkAt w wp am B tv fi sm ps pv fv)(hB:B<=wp/\B<=am):PKept (WM wp am) B w w':=h.kept.mono fun x hx=>by
 rcases hx with hx | ⟨h1,h2,h3⟩
 ·exact⟨by have:=hw.box.lt;omega,by omega,by omega,fun e=>by have:=(hw.pts.block x e).1;omega⟩
 ·refine⟨h2,fun e=>h1 (.inl e),fun e=>h1 (.inr e),fun e=>?_⟩;obtain⟨c,hc⟩:=hw.pts.typed e;exact h3 c hc
theorem WkAt.un (h:WkAt w wp am B tv fi sm ps pv fv) {x:Nat} {cs:Array Value} {fr:Nat × Nat} (hx:w.heap[x]?=some (.cells cs e fr))(he:e≠32)(he2:e≠251):KX wp am w pv x:=by
 refine⟨(Array.getElem?_eq_some_iff.1 hx).1,fun e=>?_,fun e=>?_,fun e=>?_⟩
 ·subst e;rw[show w.heap[x]?=_ from h.box]at hx;injection hx with hx
  injection hx with _ hx _
  exact he2 hx.symm
 ·subst e;exact h.num.notCells _ _ _ hx
 ·obtain⟨c,hc⟩:=h.pts.typed e;rw[hc]at hx;injection hx with hx
  injection hx with _ hx _
  exact he hx.symm
theorem Fine.blk (h:Fine wp am w w' pv pv')(hw:WkAt w wp am B tv fi sm ps pv fv) {x:Nat} {cs:Array Value} (hx:Blk w x cs e)(he:e≠32)(he2:e≠251):Blk w' x cs e:=(h.kept.block x (hw.un hx he he2)).trans hx
theorem Fine.row (h:Fine wp am w w' pv pv')(hw:WkAt w wp am B tv fi sm ps pv fv)(ho:Own w B' e sz v xs)(he:e≠32)(he2:e≠251):Own w' B' e sz v xs:=ho.keepOwn fun g hg=>by
 obtain⟨c,hc⟩:=ho.typed hg;exact h.kept.block g (hw.un hc he he2)
theorem WkAt.sl (hw:WkAt w wp am B tv fi sm ps pv fv)(ho:Own w B' e sz v xs)(he:e≠32)(he2:e≠251):Sl (KX wp am w pv) w sz v xs:=by
 obtain⟨n,h⟩:=ho;refine ownsRow_sl h _ fun g hg=>?_;obtain⟨c,hc⟩:=(show Own w B' e sz v xs from⟨n,h⟩).typed hg;exact hw.un hc he he2
theorem WkAt.grown (h:WkAt w wp am B tv fi sm ps pv fv)(ho:Own w B' e sz v xs)(he:e≠32)(he2:e≠251)(hg:w.grownBy w' v.ownBlock):WkAt w' wp am B tv fi sm ps pv fv:=by
 refine h.same (hg.block wp h.box.lt fun e=>?_) (hg.block am h.num.lt fun e=>?_) fun g hgp=>hg.block g (h.pts.block g hgp).2 fun e=>?_
 ·obtain⟨c,hc⟩:=ho.typed e.symm;exact(h.un hc he he2).2.1 rfl
 ·exact ho.notMap h.num.notCells am e.symm rfl
 ·obtain⟨c,hc⟩:=ho.typed e.symm;exact(h.un hc he he2).2.2.2 hgp
theorem WkAt.setBox (h:WkAt w wp am B tv fi sm ps pv fv) {x i:Nat} {cs:Array Value} (hx:Blk w x cs e)(he:e≠32)(he2:e≠251)(u:Value):WkAt (w.setCell ⟨x,i,none⟩ u) wp am B tv fi sm ps pv fv:=by
 have hu:=h.un hx he he2;exact h.same (Below.heap_setCell _ _ _ _ fun e=>hu.2.1 e.symm) (Below.heap_setCell _ _ _ _ fun e=>hu.2.2.1 e.symm) fun g hg=>Below.heap_setCell _ _ _ _ fun e=>hu.2.2.2 (by rw[hg,show g=x from e])
theorem Own.setBox (ho:Own w B' e sz v xs) {x i:Nat} {cs:Array Value} {e2:TypeId} (hx:Blk w x cs e2)(he:e≠e2)(u:Value):Own (w.setCell ⟨x,i,none⟩ u) B' e sz v xs:=ho.keepOwn fun g hg=>Below.heap_setCell _ _ _ _ fun e3=>by
 obtain⟨c,hc⟩:=ho.typed hg;rw[show g=x from e3,show w.heap[x]?=_ from hx]at hc;injection hc with hc
 injection hc with _ hc _
 exact he hc.symm
end
theorem indexI_any {S:Nat->Prop} (v:Value)(l:List Int)(k:Int)(w:World)(h:Sl S w 1 v (ic l)) :
  Calls Tryz.prog 289 #[v,.int .i64 k] w fun e w'=>(∃ i:Int,e = .returned (.int .i64 i)/\(0<=i↔k∈l))/\w'=w:=by
 obtain⟨ao,c,rfl,hlc,hcm,hc⟩:=h.ints;have HC:=h! hc;clear hc h;go_enter Tryz.func289,Tryz.ntmps289
 go_wp2_with fail
 go_loopw [5,8] (fun _ iv wr=>∃ i:Nat,i<=l.length/\iv = .int .i64 i/\(∀ j (hj:j<l.length),j<i->l[j]≠k)/\wr=w) (fun _ iv _=>l.length-(intOf iv).toNat)
 case atStart=>exact⟨0,Nat.zero_le _,rfl,(fun _ _ h=>absurd h (Nat.not_lt_zero _)),rfl⟩
 case round =>
  obtain⟨i,hi,rfl,hall,rfl⟩:=hrel;have HALL:=h! hall;clear hall;by_cases hlt:i<l.length
  ·obtain⟨b,off,rfl,-,hcl⟩:=HC.out i hlt;by_cases he:l[i]=k
   ·have HM:=h! (show k∈l from he▸List.getElem_mem hlt);rw[he]at hcl;clear he;go_wp2_with fail
    go_ret
    exact⟨⟨_,rfl,⟨fun _=>HM.out,fun _=>by omega⟩⟩,rfl⟩
   ·have HN:=h! (show ∀ j (hj:j<l.length),j<i+1->l[j]≠k from fun j hj h=>(Nat.lt_succ_iff_lt_or_eq.1 h).elim (fun e=>HALL.out j hj e) (fun e=>by subst e;exact he));generalize l[i]=x at *;have hne:¬ (k=x):=fun e=>he e.symm;have hnb:(k == x)=false:=by simpa using hne
    have HIL:=h! hlt;clear he;go_wp2_with fail
    go_roundw
    case rel=>exact⟨i+1,HIL.out,by go_num,HN.out,trivial⟩
    case measure=>have:=HIL.out;simp[intOf];omega
  ·obtain rfl:i=l.length:=by omega
   have HN:=h! (show k∉l from fun hk=>by obtain⟨j,hj,e⟩:=List.getElem_of_mem hk;exact HALL.out j hj hj e);go_wp2_with fail
   go_ret
   exact⟨⟨_,rfl,⟨fun h=>absurd h (by decide),fun h=>absurd h HN.out⟩⟩,rfl⟩
theorem containsI_any {S:Nat->Prop} (v:Value)(l:List Int)(k:Int)(w:World)(h:Sl S w 1 v (ic l)) :
  Calls Tryz.prog 251 #[v,.int .i64 k] w fun e w'=>e = .returned (.bool (decide (k∈l)))/\w'=w:=by
 have HI:=h! (indexI_any v l k w h);obtain⟨ao,c,rfl,-,-,-⟩:=h.ints;clear h;go_enter Tryz.func251,Tryz.ntmps251
 go_wp2_with fail
 refine HI.out.mono ?_;rintro e w1 ⟨⟨i,rfl,hi⟩,rfl⟩;by_cases hk:k∈l
 ·have h0:=hi.2 hk;clear hi;go_wp2_with fail
  go_ret
  exact⟨by rw[decide_eq_true hk];rfl,rfl⟩
 ·have h0:¬ (0<=i):=fun h=>hk (hi.1 h);have hd:decide (0<=i)=false:=decide_eq_false h0;clear hi h0;go_wp2_with fail
  go_ret
  exact⟨by rw[decide_eq_false hk];rfl,rfl⟩
theorem number_any (wp am B:Nat)(tv fi sm pv fv:Value)(ps:List P3)(p:P3)(w:World)(hp:p.Ok)(h:WkAt w wp am B tv fi sm ps pv fv)(hB:B<=wp/\B<=am)(hl:ps.length<=1073741824) :
  Calls Tryz.prog 151 #[.pointer (some ⟨wp,0,none⟩),pV p] w fun e w'=>∃ pv',e = .returned (.int .i64 (numD ps p:Nat))/\WkAt w' wp am B tv fi sm (putP ps p) pv' fv/\Fine wp am w w' pv pv':=by
 have HBB:=h! hB;have HB0:=h! (show B<=w.heap.size from by have:=h.box.lt;omega);have HLT:=h! (show wp<w.heap.size/\am<w.heap.size from⟨h.box.lt,h.num.lt⟩);have HOK:=h! hp;have HPT:=h! h.ptNe;have HPL:=h! h.pts.block;obtain⟨po,n,pc,rfl,hn,-,-⟩:=h.pts.sl.len;rw[pcs_length]at hn;obtain rfl:n=ps.length:=by omega
 have HK:=h! (point_key p hp);have HLK:=h! (look_zip p ps 0);have HPU:=h! (put_zip p ps);have HNW:=h! (numD_new ps p);have HPP:=h! (show putP ps p=if p∈ps then ps else ps++[p]from rfl);obtain⟨pt,pi,pr⟩:=p;have hx1:=Ext.alloc w (.cells #[.string pt,.string pi,.string pr] 32);have HW1:=h! (h.ext hx1);have HP1:=h! (Blk.made w #[.string pt,.string pi,.string pr] 32);have HX1:=h! hx1;clear hx1 h hB hp hn;unfold pV;dsimp only;go_enter Tryz.func151,Tryz.ntmps151
 go_wp2_with fail
 obtain⟨wd,hwd⟩:∃ wd,wd=(w.alloc (.cells #[.string pt,.string pi,.string pr] 32)).drew:=⟨_,rfl⟩;have HWd:=h! (show WkAt wd wp am B tv fi sm ps (.slice po ps.length pc) fv from by rw[hwd];exact HW1.out.ext (Ext.drew _));have HPd:=h! (show Blk wd w.heap.size #[.string pt,.string pi,.string pr] 32 from by rw[hwd];exact HP1.out.drew);have HXd:=h! (show Ext w wd from by rw[hwd];exact HX1.out.trans (Ext.drew _));refine r! (Ext wd) (by rw[<- hwd];exact Ext.refl _) ?_;rw[<- hwd];clear hwd HW1 HP1 HX1;have h1:=fun W (h:Ext wd W)=>(HWd.out.box.below h).cells;have h2:=fun W (h:Ext wd W)=>(HPd.out.below h).cells;have hlook:=fun W (h:Ext wd W)=>(HWd.out.num.below h).look pointK pV_inj Tryz.underlying249 (Tryz.zeroValue3 W) true HK.out;rw[HLK.out]at hlook;by_cases hm:(⟨pt,pi,pr⟩:P3)∈ps
 ·rw[if_pos hm,Nat.zero_add]at hlook;have HR:=h! (show putP ps ⟨pt,pi,pr⟩=ps from by rw[HPP.out,if_pos hm]);clear hm;unfold lookV pV at hlook;dsimp only at hlook;(refine WalkN.tk [0,1,2,3,4,5,6,7,8,9,10] ?_;(iterate 11 (refine c! ?_));refine TkN.n ?_)
  refine d! ?_;clear h1 h2 hlook;go_wp2_with fail
  go_ret
  exact⟨_,rfl,by rw[HR.out];exact HWd.out,Fine.of _ _ _ HXd.out⟩
 ·rw[if_neg hm]at hlook;have HR:=h! (show putP ps ⟨pt,pi,pr⟩=ps++[⟨pt,pi,pr⟩]from by rw[HPP.out,if_neg hm]);have HNN:=h! (HNW.out hm);have HPN:=h! (HPU.out hm);clear hm;unfold lookV pV at hlook;dsimp only at hlook;(refine WalkN.tk [0,1,2,3,4,5,6,7,8,9,10] ?_;(iterate 11 (refine c! ?_));refine TkN.n ?_)
  refine d! ?_;clear h1 h2 hlook;have hcw:=HWd.out.box.cells;go_wp2_with fail
  clear hcw;obtain⟨we,hwe⟩:∃ we,we=wd.drew:=⟨_,rfl⟩;have HWe:=h! (show WkAt we wp am B tv fi sm ps (.slice po ps.length pc) fv from by rw[hwe];exact HWd.out.ext (Ext.drew _));have HPe:=h! (show Blk we w.heap.size #[.string pt,.string pi,.string pr] 32 from by rw[hwe];exact HPd.out.drew);have HXe:=h! (show Ext w we from by rw[hwe];exact HXd.out.trans (Ext.drew _));refine r! (Kept (· ≠ am) we) (by rw[<- hwe];exact Kept.refl _ _) ?_;rw[<- hwe];clear hwe HWd HPd HXd;have HNEP:=h! (show w.heap.size≠am from fun e=>HWe.out.num.notCells _ _ _ (e▸HPe.out));have h1:=fun W (h:Kept (· ≠ am) we W)=>(h.blk HWe.out.box HWe.out.ne).cells;have h2:=fun W (h:Kept (· ≠ am) we W)=>(h.blk HPe.out HNEP.out).cells;(refine WalkN.tk [0,1,2,3,4,5] ?_;(iterate 6 (refine c! ?_));refine TkN.n ?_)
  clear h1 h2;obtain⟨wf,hrun,hMf,hTf⟩:=HWe.out.num.store pointK pV_inj Tryz.underlying249 HK.out (ps.length:Nat);rw[HPN.out]at hMf;unfold pV at hrun;dsimp only at hrun;refine o! 6 ?_;refine b! ?_;intro K hK;go_simp;refine hK.out _ _ hTf.kept ?_;clear hK hrun;refine d! ?_;have HBf:=h! (hTf.kept.blk HWe.out.box HWe.out.ne);have HPf:=h! (hTf.kept.blk HPe.out HNEP.out);have HMf:=h! hMf;have HOf:=h! (HWe.out.pts.keepOwn fun g hg=>hTf.kept.block g (HPT.out g hg).2);have HQf:=h! (show Kept (KX wp am w (.slice po ps.length pc)) w wf from(Below.kept HXe.out fun x hx=>hx.1).trans (hTf.kept.mono fun x hx=>hx.2.2.1));have HZf:=h! (show w.heap.size<=wf.heap.size from by rw[hTf.size];exact HXe.out.size);clear hMf hTf HWe HPe HNEP HXe;go_wp2_with fail
  obtain⟨wg,hwg⟩:∃ wg,wg=wf.drew:=⟨_,rfl⟩;have HBg:=h! (show Blk wg wp _ _ from by rw[hwg];exact HBf.out.drew);have HPg:=h! (show Blk wg w.heap.size _ _ from by rw[hwg];exact HPf.out.drew);have HMg:=h! (HMf.out.below (show Below wf.heap.size wf wg from by rw[hwg];exact(Below.refl _ _).drew));have HOg:=h! (HOf.out.below (show Below wf.heap.size wf wg from by rw[hwg];exact(Below.refl _ _).drew));have HQg:=h! (show Kept (KX wp am w (.slice po ps.length pc)) w wg from by rw[hwg];exact HQf.out.drew);have HZg:=h! (show w.heap.size<=wg.heap.size from by rw[hwg];exact HZf.out);refine region_walkL 12 (Kept (fun x=>x<wg.heap.size/\Value.ownBlock (.slice po ps.length pc)≠some x) wg) (by rw[<- hwg];exact Kept.refl _ _) (by kernel_rfl) (by kernel_rfl) (fun _ _ d _ _ h=>by cases d <;> exact h) ?_;rw[<- hwg];clear hwg HBf HPf HMf HOf HQf HZf;have h1:=fun W (h:Kept (fun x=>x<wg.heap.size/\Value.ownBlock (.slice po ps.length pc)≠some x) wg W)=>(h.blk HBg.out ⟨HBg.out.lt,fun e=>(HPT.out _ e).1 rfl⟩).cells;have h2:=fun W (h:Kept (fun x=>x<wg.heap.size/\Value.ownBlock (.slice po ps.length pc)≠some x) wg W)=>(h.blk HPg.out ⟨HPg.out.lt,fun e=>by have:=(HPL.out _ e).2;omega⟩).cells;(refine WalkL.tk [0,1,2,3,4,5,6] ?_;(iterate 7 (refine l! ?_));refine TkL.n ?_)
  clear h1 h2;have hE1:Ext wg (wg.alloc (.cells #[.string pt,.string pi,.string pr] 32)):=Ext.alloc _ _;refine oL! 7 ?_;refine b! ?_;intro K hK;go_simp;refine hK.out _ _ ((Kept.refl _ _).alloc (fun x hx=>hx.1) _) ?_;clear hK;refine oL! 8 ?_;refine b! ?_;intro K hK;refine wp_ownw pointsT (.tmp 35) (.tmp 37) rfl rfl (HOg.out.below hE1) (m:=1) (news:=pC ⟨pt,pi,pr⟩) rfl rfl (fun j u hu=>?_) (pC_one _) (by rw[pcs_length,pC_length];omega) (by rw[pcs_length,pC_length];omega) (by have:=HZg.out;have:=HB0.out;simp;omega) (fun v2 w2 hown2 hw2 hg2=>?_)
  ·rw[Addr.add_lit,cell_of_row _ wg.heap.size (0+j) #[.string pt,.string pi,.string pr] 32 (0,0) (heap_alloc_new wg _),Nat.zero_add];simpa [pC] using hu
  have hkg:Kept (fun x=>x<wg.heap.size/\Value.ownBlock (.slice po ps.length pc)≠some x) wg w2:=⟨hg2.os.trans rfl,hg2.tape.trans rfl,hg2.output.trans rfl,Nat.le_trans (by simp) hg2.size,fun x hx=>(hg2.block x (by have:=hx.1;simp;omega) (fun e=>hx.2 e.symm)).trans (Below.heap_alloc wg _ x hx.1)⟩;have HQ2:=h! (show Kept (KX wp am w (.slice po ps.length pc)) w w2 from HQg.out.trans (hkg.mono fun x hx=>⟨Nat.lt_of_lt_of_le hx.1 HZg.out,hx.2.2.2⟩));have HWH:=h! (show ∀ g,v2.ownBlock=some g->(Value.slice po ps.length pc).ownBlock=some g\/w.heap.size<=g from fun g hg=>(hw2 g hg).imp id fun e=>by have:=HZg.out;simp at e;omega);have HB2:=h! (hkg.blk HBg.out ⟨HBg.out.lt,fun e=>(HPT.out _ e).1 rfl⟩);have HM2:=h! (HMg.out.kept hkg ⟨HMg.out.lt,fun e=>(HPT.out _ e).2 rfl⟩);refine hK.out _ _ hkg ?_;clear hK;simp only[Act.put,pA,pZ,pS];have HO2:=h! (show Own w2 B 32 3 v2 (pcs (ps++[⟨pt,pi,pr⟩]))from by rw[pcs_append,pcs_single];exact hown2);have HW2:=h! (show ∀ g,v2.ownBlock=some g->g≠wp/\g≠am from fun g hg=>(hw2 g hg).elim (fun e=>HPT.out g e) (fun e=>by have h1:=HB2.out.lt;have h2:=HBg.out.lt;have h3:=HMg.out.lt;simp at e;omega));obtain⟨o2,n2,c2,rfl,-,-,-⟩:=hown2.sl.len;clear hkg hown2 hw2 hg2 hE1 HBg HMg HOg HQg HPg;(refine WalkL.tk [9,10,11] ?_;(iterate 3 (refine l! ?_));refine TkL.n ?_)
  have hbf:=HB2.out.cells;have hbz:=HB2.out.free;refine WalkL.last (by kernel_rfl) (by kernel_rfl) ?_;refine b! ?_;intro K hK;go_simp;refine hK.out _ _ ?_;clear hK hbf hbz;go_wp2_with fail
  go_ret
  refine⟨.slice o2 n2 c2,by rw[HNN.out];rfl,?_,?_⟩
  ·rw[HR.out];exact⟨HB2.out.set_to 4 _ rfl,HM2.out.same (Below.heap_setCell _ _ _ _ (fun e=>HM2.out.notCells _ _ _ (show w2.heap[am]?=_ from by rw[show am=wp from e];exact HB2.out))),HO2.out.keepOwn fun g hg=>Below.heap_setCell _ _ _ _ (HW2.out g hg).1⟩
  ·exact⟨HQ2.out.set (fun h=>h.2.1 rfl) _,HWH.out⟩
end Go.Proofs.YtlhaghoajpglaaaGreat
