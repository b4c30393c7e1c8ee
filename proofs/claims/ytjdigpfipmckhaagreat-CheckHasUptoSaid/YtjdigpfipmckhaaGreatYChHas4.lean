/- Lemmas for the claim, no condition. -/
import Derived.DeepKeys4
import Derived.Test.YtjdigpfipmckhaaGreatYChHas3
import Derived.Test.YtjdigpfipmckhaaGreatYChHas2
import Derived.Test.YtjdigpfipmckhaaGreatYChHas0
import Derived.Test.YtjdigpfipmckhaaGreatYChHas1
namespace Go.Proofs.YtjdigpfipmckhaaGreat
open Go Go.RowKit
def inAt (l:List Bool)(k:Int):Bool:=decide (0<=k)&&l.getD k.toNat false
mutual
def holdF (s:P3)(l:List Bool):FT->Bool
 | .mk k subs refs ps=>if k=1 then decide (s∈subs)||refs.any (inAt l)else if k=2\/k=3 then refs.any (inAt l)else if k=4 then anyF s l ps else if k=5 then allF s l ps else false
def anyF (s:P3)(l:List Bool):List FT->Bool | []=>false | r::rs=>holdF s l r||anyF s l rs
def allF (s:P3)(l:List Bool):List FT->Bool | []=>true | r::rs=>holdF s l r&&allF s l rs
end
theorem anyF_eq (s:P3)(l:List Bool):∀ ps,anyF s l ps=ps.any (holdF s l)
 | []=>rfl
 | r::rs=>by rw[anyF,anyF_eq s l rs,List.any_cons]
theorem allF_eq (s:P3)(l:List Bool):∀ ps,allF s l ps=ps.all (holdF s l)
 | []=>rfl
 | r::rs=>by rw[allF,allF_eq s l rs,List.all_cons]
theorem holdF_eq (s:P3)(l:List Bool)(f:FT):holdF s l f=if f.k=1 then decide (s∈f.subs)||f.refs.any (inAt l)else if f.k=2\/f.k=3 then f.refs.any (inAt l)else if f.k=4 then f.ps.any (holdF s l)else if f.k=5 then f.ps.all (holdF s l)else false:=by
 obtain⟨k,a,b,ps⟩:=f;rw[holdF,anyF_eq,allF_eq];rfl
theorem holdF_mk (s:P3)(l:List Bool)(k:Int)(subs:List P3)(refs:List Int)(ps:List FT):holdF s l (.mk k subs refs ps)=if k=1 then decide (s∈subs)||refs.any (inAt l)else if k=2\/k=3 then refs.any (inAt l)else if k=4 then ps.any (holdF s l)else if k=5 then ps.all (holdF s l)else false:=by
 rw[holdF,anyF_eq,allF_eq]
mutual
def FT.named:FT->List Int | .mk _ _ refs ps=>refs++nmdL ps
def nmdL:List FT->List Int | [] => [] | r::rs=>r.named++nmdL rs
end
theorem FT.named_eq (f:FT):f.named=f.refs++nmdL f.ps:=by
 obtain⟨k,a,b,ps⟩:=f;rw[FT.named];rfl
theorem nmdL_mem {f:FT} {k:Int} (hk:k∈f.named):∀ {l:List FT},f∈l->k∈nmdL l
 | x::l,h=>by
  rw[nmdL,List.mem_append];rcases List.mem_cons.1 h with rfl | h
  ·exact .inl hk
  ·exact .inr (nmdL_mem hk h)
theorem nmdL_append:∀ (a b:List FT),nmdL (a++b)=nmdL a++nmdL b
 | [],_=>rfl
 | x::a,b=>by rw[List.cons_append,nmdL,nmdL,nmdL_append a b,List.append_assoc]
theorem nmdL_take {l:List FT} {i:Nat} (h:i<l.length):nmdL (l.take (i+1))=nmdL (l.take i)++l[i].named:=by
 rw[List.take_succ_eq_append_getElem h,nmdL_append];simp[nmdL]
theorem holdF_congr (s:P3)(l m:List Bool)(f:FT):(∀ k∈f.named,inAt l k=inAt m k)->holdF s l f=holdF s m f:=by
 induction f using FT.ind with
 | h f ih =>
  intro h;rw[FT.named_eq]at h
  have h1:f.refs.any (inAt l)=f.refs.any (inAt m):=by
   rw[Bool.eq_iff_iff,List.any_eq_true,List.any_eq_true];constructor
   ·rintro⟨k,hk,e⟩;exact⟨k,hk,by rw[<- h k (List.mem_append_left _ hk)];exact e⟩
   ·rintro⟨k,hk,e⟩;exact⟨k,hk,by rw[h k (List.mem_append_left _ hk)];exact e⟩
  have h2:∀ p∈f.ps,holdF s l p=holdF s m p:=fun p hp=>ih p hp fun k hk=>h k (List.mem_append_right _ (nmdL_mem hk hp))
  have h3:f.ps.any (holdF s l)=f.ps.any (holdF s m):=by
   rw[Bool.eq_iff_iff,List.any_eq_true,List.any_eq_true];constructor
   ·rintro⟨k,hk,e⟩;exact⟨k,hk,by rw[<- h2 k hk];exact e⟩
   ·rintro⟨k,hk,e⟩;exact⟨k,hk,by rw[h2 k hk];exact e⟩
  have h4:f.ps.all (holdF s l)=f.ps.all (holdF s m):=by
   rw[Bool.eq_iff_iff,List.all_eq_true,List.all_eq_true];exact⟨fun e k hk=>by rw[<- h2 k hk];exact e k hk,fun e k hk=>by rw[h2 k hk];exact e k hk⟩
  rw[holdF_eq,holdF_eq,h1,h3,h4]
def newS (fs:List FT)(s:P3)(l:List Bool)(i:Nat):Bool:=!l.getD i true&&(match fs[i]? with | some f=>holdF s l f | none=>false)
def inN (fs:List FT)(s:P3)(n:Nat):Nat->List Bool
 | 0=>List.replicate n false
 | r+1=>(List.range n).map fun i=>(inN fs s n r).getD i false||newS fs s (inN fs s n r) i
def outN (fs:List FT)(s:P3)(n:Nat):Nat->List Int
 | 0=>List.replicate n 0
 | r+1=>(List.range n).map fun i=>if newS fs s (inN fs s n r) i=true then((r+1:Nat):Int)else(outN fs s n r).getD i 0
def EndS (fs:List FT)(s:P3)(n r:Nat):Prop:=∀ i,i<n->newS fs s (inN fs s n r) i=false
section
variable {fs : List FT} {s : P3} {n : Nat}
theorem inN_length (r:Nat):(inN fs s n r).length=n:=by cases r <;> simp[inN]
theorem outN_length (r:Nat):(outN fs s n r).length=n:=by cases r <;> simp[outN]
theorem inN_succ {i:Nat} (h:i<n)(r:Nat):(inN fs s n (r+1)).getD i false=((inN fs s n r).getD i false||newS fs s (inN fs s n r) i):=by
 rw[inN,List.getD_eq_getElem?_getD,List.getElem?_map,List.getElem?_range h];rfl
theorem outN_succ {i:Nat} (h:i<n)(r:Nat):(outN fs s n (r+1)).getD i 0=if newS fs s (inN fs s n r) i=true then((r+1:Nat):Int)else(outN fs s n r).getD i 0:=by
 rw[outN,List.getD_eq_getElem?_getD,List.getElem?_map,List.getElem?_range h];rfl
theorem ext_bool {a b:List Bool} (hl:a.length=b.length)(h:∀ i,i<a.length->a.getD i false=b.getD i false):a=b:=by
 refine List.ext_getElem hl fun i h1 h2=>?_;have:=h i h1;rwa[List.getD_eq_getElem?_getD,List.getD_eq_getElem?_getD,List.getElem?_eq_getElem h1,List.getElem?_eq_getElem h2]at this
theorem ext_int {a b:List Int} (hl:a.length=b.length)(h:∀ i,i<a.length->a.getD i 0=b.getD i 0):a=b:=by
 refine List.ext_getElem hl fun i h1 h2=>?_;have:=h i h1;rwa[List.getD_eq_getElem?_getD,List.getD_eq_getElem?_getD,List.getElem?_eq_getElem h1,List.getElem?_eq_getElem h2]at this
theorem EndS.inL {r:Nat} (h:EndS fs s n r):∀ k,inN fs s n (r+k)=inN fs s n r
 | 0=>rfl
 | k+1=>by
  have ih:=EndS.inL h k;refine ext_bool (by rw[inN_length,inN_length]) fun i hi=>?_;rw[inN_length]at hi;rw[<- Nat.add_assoc,inN_succ hi,ih,h i hi,Bool.or_false]
theorem EndS.outL {r:Nat} (h:EndS fs s n r):∀ k,outN fs s n (r+k)=outN fs s n r
 | 0=>rfl
 | k+1=>by
  have ih:=EndS.outL h k;refine ext_int (by rw[outN_length,outN_length]) fun i hi=>?_;rw[outN_length]at hi;rw[<- Nat.add_assoc,outN_succ hi,ih,h.inL k,h i hi];rfl
theorem EndS.uniq {r r':Nat} (h:EndS fs s n r)(k:EndS fs s n r'):outN fs s n r=outN fs s n r'/\inN fs s n r=inN fs s n r':=by
 rcases Nat.le_total r r' with hl | hl
 ·obtain⟨d,rfl⟩:=Nat.exists_eq_add_of_le hl;exact⟨(h.outL d).symm,(h.inL d).symm⟩
 ·obtain⟨d,rfl⟩:=Nat.exists_eq_add_of_le hl;exact⟨k.outL d,k.inL d⟩
theorem newS_not {l:List Bool} {i:Nat} (h:newS fs s l i=true):l.getD i true=false:=by
 unfold newS at h;simp only[Bool.and_eq_true,Bool.not_eq_true']at h;exact h.1
theorem inN_mono1 (r:Nat) {i:Nat} (h:i<n)(hi:(inN fs s n r).getD i false=true):(inN fs s n (r+1)).getD i false=true:=by
 rw[inN_succ h,hi,Bool.true_or]
def cntT (l:List Bool):Nat:=(l.filter id).length
theorem cntT_le (l:List Bool):cntT l<=l.length:=List.length_filter_le _ _
theorem cntT_lt:∀ {a b:List Bool},a.length=b.length->(∀ i,i<a.length->a.getD i false=true->b.getD i false=true)->(∃ i,i<a.length/\a.getD i false=false/\b.getD i false=true)->cntT a<cntT b
 | [],[],_,_,h=>by obtain⟨i,hi,_⟩:=h;simp at hi
 | x::a,y::b,hl,hm,h=>by
  have hl':a.length=b.length:=by simpa using hl
  have hm':∀ i,i<a.length->a.getD i false=true->b.getD i false=true:=fun i hi e=>by
   have:=hm (i+1) (by simpa using hi) (by simpa using e);simpa using this
  have h0:=hm 0 (by simp);simp only[List.getD_cons_zero]at h0
  have hle:cntT a<=cntT b:=by
   by_cases he:∃ i,i<a.length/\a.getD i false=false/\b.getD i false=true
   ·exact Nat.le_of_lt (cntT_lt hl' hm' he)
   ·have:a=b:=ext_bool hl' fun i hi=>by
     cases h1:a.getD i false with
     | true=>exact(hm' i hi h1).symm
     | false =>
      cases h2:b.getD i false with
      | false=>rfl
      | true=>exact absurd ⟨i,hi,h1,h2⟩ he
    rw[this];exact Nat.le_refl _
  obtain⟨i,hi,h1,h2⟩:=h;cases i with
  | zero =>
   simp only[List.getD_cons_zero]at h1 h2;subst h1 h2;unfold cntT at *;simp only[List.filter_cons,id,if_true,List.length_cons,Bool.false_eq_true,if_false];omega
  | succ i =>
   simp only[List.getD_cons_succ,List.length_cons]at h1 h2 hi;have hlt:=cntT_lt hl' hm' ⟨i,by omega,h1,h2⟩;unfold cntT at *;cases x <;> cases y <;> simp only[List.filter_cons,id,if_true,List.length_cons,Bool.false_eq_true,if_false]
   ·exact hlt
   ·omega
   ·have:=h0 rfl;cases this
   ·omega
theorem getD_ft {l:List Bool} {i:Nat} (h:i<l.length):l.getD i true=l.getD i false:=by
 rw[List.getD_eq_getElem?_getD,List.getD_eq_getElem?_getD,List.getElem?_eq_getElem h];rfl
theorem endS_ex:∃ r,r<=n/\EndS fs s n r:=by
 refine Classical.byContradiction fun hno=>?_
 have h:∀ r,r<=n->∃ i,i<n/\newS fs s (inN fs s n r) i=true:=fun r hr=>by
  refine Classical.byContradiction fun h2=>hno ⟨r,hr,fun i hi=>?_⟩;cases e:newS fs s (inN fs s n r) i with
  | false=>rfl
  | true=>exact absurd ⟨i,hi,e⟩ h2
 have hc:∀ r,r<=n+1->r<=cntT (inN fs s n r):=by
  intro r;induction r with
  | zero=>intro _;exact Nat.zero_le _
  | succ r ih =>
   intro hr;have h1:=ih (by omega);obtain⟨i,hi,hnew⟩:=h r (by omega)
   have:=cntT_lt (a:=inN fs s n r) (b:=inN fs s n (r+1)) (by rw[inN_length,inN_length]) (fun j hj e=>inN_mono1 r (by rwa[inN_length]at hj) e)
    ⟨i,by rw[inN_length];exact hi,by rw[<- getD_ft (by rw[inN_length];exact hi)];exact newS_not hnew,by rw[inN_succ hi,hnew,Bool.or_true]⟩
   omega
 have h1:=hc (n+1) (Nat.le_refl _);have h2:=cntT_le (inN fs s n (n+1));rw[inN_length]at h2;omega
end
noncomputable def solveR (fs:List FT) (s:P3) (n:Nat):List Int:=outN fs s n n
theorem endS_n (fs:List FT)(s:P3)(n:Nat):EndS fs s n n:=by
 obtain⟨r,hr,h⟩:=endS_ex (fs:=fs) (s:=s) (n:=n);obtain⟨d,rfl⟩:=Nat.exists_eq_add_of_le hr;intro i hi;rw[h.inL d];exact h i hi
theorem EndS.solve {fs:List FT} {s:P3} {n r:Nat} (h:EndS fs s n r):outN fs s n r=solveR fs s n:=(h.uniq (endS_n fs s n)).1
def boC (l:List Bool):List Value:=l.map .bool
theorem boC_length (l:List Bool):(boC l).length=l.length:=by simp[boC]
structure InvR (fs:List FT)(s:P3)(n r:Nat)(F:List Int)(j:Nat)(L:List Bool)(R:List Int):Prop where
 lenL:L.length=n
 lenR:R.length=n
 inn:∀ i,i<n->L.getD i false=((inN fs s n r).getD i false||decide ((i:Int)∈F.take j))
 out:∀ i,i<n->R.getD i 0=if (i:Int)∈F.take j then((r+1:Nat):Int)else(outN fs s n r).getD i 0
section
variable {fs : List FT} {s : P3} {n r j : Nat} {F : List Int} {L : List Bool} {R : List Int}
theorem InvR.start (fs:List FT)(s:P3)(n r:Nat)(F:List Int):InvR fs s n r F 0 (inN fs s n r) (outN fs s n r) where
 lenL:=inN_length r
 lenR:=outN_length r
 inn i _:=by simp
 out i _:=by simp
theorem getD_set {α:Type} (l:List α)(i j:Nat)(x d:α):(l.set j x).getD i d=if i=j/\j<l.length then x else l.getD i d:=by
 rw[List.getD_eq_getElem?_getD,List.getElem?_set,List.getD_eq_getElem?_getD];by_cases h:j=i
 ·subst h;rw[if_pos rfl];split
  ·next h=>rw[if_pos ⟨rfl,h⟩];rfl
  ·next h=>rw[if_neg fun e=>h e.2,List.getElem?_eq_none (by omega)]
 ·rw[if_neg h,if_neg fun e=>h e.1.symm]
theorem InvR.step (h:InvR fs s n r F j L R)(hj:j<F.length)(h0:0<=F[j])(hn:F[j]<(n:Int)):InvR fs s n r F (j+1) (L.set F[j].toNat true) (R.set F[j].toNat ((r+1:Nat):Int)):=by
 have ht:∀ x,x∈F.take (j+1)↔x∈F.take j\/x=F[j]:=fun x=>by rw[List.take_succ_eq_append_getElem hj,List.mem_append,List.mem_singleton]
 have hlt:F[j].toNat<n:=by omega
 refine⟨by rw[List.length_set,h.lenL],by rw[List.length_set,h.lenR],fun i hi=>?_,fun i hi=>?_⟩
 ·rw[getD_set,h.lenL];by_cases e:i=F[j].toNat
  ·have:(i:Int)∈F.take (j+1):=(ht _).2 (.inr (by omega));rw[if_pos ⟨e,hlt⟩,decide_eq_true this,Bool.or_true]
  ·rw[if_neg fun h=>e h.1,h.inn i hi];congr 1
   have:¬ (i:Int)=F[j]:=by omega
   rw[decide_eq_decide,ht];simp only[this,or_false]
 ·rw[getD_set,h.lenR];by_cases e:i=F[j].toNat
  ·rw[if_pos ⟨e,hlt⟩,if_pos ((ht _).2 (.inr (by omega)))]
  ·rw[if_neg fun h=>e h.1,h.out i hi];have:¬ (i:Int)=F[j]:=by omega
   have e2:(i:Int)∈F.take (j+1)↔(i:Int)∈F.take j:=by rw[ht];simp only[this,or_false]
   simp only[e2]
theorem InvR.done (h:InvR fs s n r F F.length L R)(hF:∀ i:Nat,i<n->((i:Int)∈F↔newS fs s (inN fs s n r) i=true)):L=inN fs s n (r+1)/\R=outN fs s n (r+1):=by
 constructor
 ·refine ext_bool (by rw[h.lenL,inN_length]) fun i hi=>?_;rw[h.lenL]at hi;rw[h.inn i hi,inN_succ hi,List.take_length];congr 1
  rw[Bool.eq_iff_iff,decide_eq_true_eq];exact hF i hi
 ·refine ext_int (by rw[h.lenR,outN_length]) fun i hi=>?_;rw[h.lenR]at hi;rw[h.out i hi,outN_succ hi,List.take_length];by_cases e:newS fs s (inN fs s n r) i=true
  ·rw[if_pos ((hF i hi).2 e),if_pos e]
  ·rw[if_neg fun hm=>e ((hF i hi).1 hm),if_neg e]
theorem endS_of (hF:∀ i:Nat,i<n->newS fs s (inN fs s n r) i=false):outN fs s n r=solveR fs s n:=EndS.solve hF
theorem cnt_step {i:Nat} (hi:i<n)(h:newS fs s (inN fs s n r) i=true):cntT (inN fs s n r)<cntT (inN fs s n (r+1)) :=
 cntT_lt (by rw[inN_length,inN_length]) (fun j hj e=>inN_mono1 r (by rwa[inN_length]at hj) e)
  ⟨i,by rw[inN_length];exact hi,by rw[<- getD_ft (by rw[inN_length];exact hi)];exact newS_not h,by rw[inN_succ hi,h,Bool.or_true]⟩
theorem cnt_max (fs:List FT)(s:P3)(n r:Nat):cntT (inN fs s n r)<=n:=by
 have:=cntT_le (inN fs s n r);rwa[inN_length]at this
theorem new_next {i:Nat} (hi:i<n)(h:newS fs s (inN fs s n (r+1)) i=true):∃ hf:i<fs.length,∃ k:Nat,k<n/\newS fs s (inN fs s n r) k=true/\(k:Int)∈fs[i].named:=by
 have hnot:=newS_not h;rw[getD_ft (by rw[inN_length];exact hi),inN_succ hi,Bool.or_eq_false_iff]at hnot;obtain⟨h1,h2⟩:=hnot;unfold newS at h h2;rw[Bool.and_eq_true]at h;replace h:=h.2;rw[getD_ft (by rw[inN_length];exact hi),h1,Bool.not_false,Bool.true_and]at h2;cases hf:fs[i]? with
 | none=>rw[hf]at h;cases h
 | some f =>
  rw[hf]at h h2;dsimp only at h h2;obtain⟨hfl,hfe⟩:=List.getElem?_eq_some_iff.1 hf;refine⟨hfl,?_⟩;rw[hfe];refine Classical.byContradiction fun hno=>?_;rw[holdF_congr s _ (inN fs s n r) f fun k hk=>?_,h2]at h
  ·cases h
  ·refine Classical.byContradiction fun hd=>hno ?_;unfold inAt at hd;by_cases h0:0<=k
   ·simp only[h0,decide_true,Bool.true_and]at hd;by_cases hkn:k.toNat<n
    ·rw[inN_succ hkn]at hd;refine⟨k.toNat,hkn,?_,by rwa[Int.toNat_of_nonneg h0]⟩;cases hn:newS fs s (inN fs s n r) k.toNat with
     | true=>rfl
     | false=>rw[hn,Bool.or_false]at hd;exact absurd rfl hd
    ·have e:∀ q,(inN fs s n q).getD k.toNat false=false:=fun q=>by
      rw[List.getD_eq_getElem?_getD,List.getElem?_eq_none (by rw[inN_length];omega)];rfl
     rw[e,e]at hd;exact absurd rfl hd
   ·simp[h0]at hd
def Wide (fs:List FT)(s:P3)(n r:Nat)(W:List Int):Prop:=∀ i:Nat,i<n->newS fs s (inN fs s n r) i=true->(i:Int)∈W
def UsOf (fs:List FT)(n:Nat)(U:List (List Int)):Prop:=∀ k:Nat,k<n->∀ x:Int,x∈U.getD k []↔∃ i:Nat,∃ hf:i<fs.length,x=(i:Int)/\i<n/\(k:Int)∈fs[i].named
theorem Wide.next {U:List (List Int)} (hU:UsOf fs n U) {N:List Int} (hF:∀ i:Nat,i<n->((i:Int)∈F↔newS fs s (inN fs s n r) i=true))(hN:∀ x,x∈N↔∃ k∈F,x∈U.getD k.toNat []):Wide fs s n (r+1) N:=fun i hi h=>by
 obtain⟨hf,k,hk,hn,hm⟩:=new_next hi h;exact(hN _).2 ⟨(k:Int),(hF k hk).2 hn,by rw[Int.toNat_natCast];exact(hU k hk _).2 ⟨i,hf,rfl,hi,hm⟩⟩
theorem Wide.fresh {W:List Int} (h:Wide fs s n r W) {i:Nat} (hi:i<n):((i:Int)∈W.filter fun x=>newS fs s (inN fs s n r) x.toNat)↔newS fs s (inN fs s n r) i=true:=by
 rw[List.mem_filter,Int.toNat_natCast];exact⟨fun h=>h.2,fun e=>⟨h i hi e,e⟩⟩
end
end Go.Proofs.YtjdigpfipmckhaaGreat
namespace Go.Proofs.YtjdigpfipmckhaaGreat
open Go Go.RowKit Go.Maps
abbrev RwV (ι:Type):=List ι × Value
def rwV {ι:Type} (x:RwV ι):Value:=x.2
def optR {ι:Type} (l:List ι):Option (List ι):=if l.isEmpty then none else some l
structure Elm (ι:Type) where
 e:TypeId
 sz:Nat
 enc:ι->List Value
 len:∀ x,(enc x).length=sz
 pos:0<sz
section
variable {κ ι : Type}
structure MRows (E:Elm ι)(w:World)(B:Nat)(lw:List (κ × RwV ι)):Prop where
 rows:∀ x∈lw,x.2.1≠[]/\Own w B E.e E.sz x.2.2 (x.2.1.flatMap E.enc)
 apart:∀ x∈lw,∀ y∈lw,x.1≠y.1->x.2.2.ownBlock≠y.2.2.ownBlock
theorem flat_len (E:Elm ι):∀ l:List ι,(l.flatMap E.enc).length=l.length*E.sz
 | []=>by simp
 | x::l=>by rw[List.flatMap_cons,List.length_append,E.len,flat_len E l,List.length_cons,Nat.add_mul];omega
theorem own_someE {w:World} {B:Nat} {E:Elm ι} {v:Value} {l:List ι} (h:Own w B E.e E.sz v (l.flatMap E.enc))(hl:l≠[]):∃ g,v.ownBlock=some g:=by
 obtain⟨n,h⟩:=h;rcases h.2 with⟨rfl,rfl⟩ | ⟨g',cap,cur,rfl,hbg,hg',r⟩
 ·have:=h.1;rw[flat_len,Nat.zero_mul]at this;rcases Nat.mul_eq_zero.1 this with h0 | h0
  ·exact absurd (List.eq_nil_of_length_eq_zero h0) hl
  ·have:=E.pos;omega
 ·exact⟨g',rfl⟩
theorem MRows.keep {E:Elm ι} {w w':World} {B:Nat} {lw:List (κ × RwV ι)} (h:MRows E w B lw)(hs:∀ x,B<=x->x<w.heap.size->(∃ cs,w.heap[x]?=some (.cells cs E.e (0,0)))->w'.heap[x]?=w.heap[x]?):MRows E w' B lw :=
 ⟨fun x hx=>⟨(h.rows x hx).1,(h.rows x hx).2.keepB fun g hg=>by
  have ho:=(h.rows x hx).2;have hb:=ho.block g hg
  exact hs g hb.1 hb.2 (by
   obtain⟨n,ho⟩:=ho;rcases ho.2 with⟨h0,_⟩ | ⟨g',cap,cur,h0,hbg,hg',r⟩
   ·rw[h0]at hg;cases hg
   ·rw[h0]at hg;injection hg with hg
    subst hg;exact⟨_,hg'⟩)⟩,h.apart⟩
variable [DecidableEq κ]
def MR (P:Program)(k:TypeId)(kv:κ->Value)(E:Elm ι)(w:World)(B b:Nat)(f:κ->List ι):Prop :=
 ∃ lw:List (κ × RwV ι),Mp P k kv rwV w b lw/\MRows E w B lw/\∀ n,(lookA lw n).map (·.1)=optR (f n)
theorem MRows.put {P:Program} {k:TypeId} {kv:κ->Value} {E:Elm ι} {w w1 w2 w3:World} {B b3:Nat} {lw:List (κ × RwV ι)} (h:MRows E w B lw) {n:κ} {names:List ι} {v v':Value} (hl:(lookA lw n=some (names,v))\/(lookA lw n=none/\names=[]/\v = .slice none 0 0))
  (h1:Below w.heap.size w w1) (h2:w1.grownBy w2 v.ownBlock) {tn:ι} (ho:Own w2 B E.e E.sz v' ((names++[tn]).flatMap E.enc)) (hw:∀ g,v'.ownBlock=some g->v.ownBlock=some g\/w1.heap.size<=g)
  (hm:Mp P k kv rwV w b3 lw) (hm2:Mp P k kv rwV w2 b3 lw) (ht:Turned w2 w3 b3):MRows E w3 B (putA lw n (names++[tn],v')):=by
 have hnd:=hm.nodup
 have old:∀ x∈lw,x.1≠n->∀ g,x.2.2.ownBlock=some g->v.ownBlock≠some g:=fun x hx hne g hg e=>by
  rcases hl with hl | ⟨_,_,rfl⟩
  ·exact h.apart x hx _ (look_mem hl) hne (hg.trans e.symm)
  ·cases e
 have lt:∀ x∈lw,∀ g,x.2.2.ownBlock=some g->g<w.heap.size:=fun x hx g hg=>((h.rows x hx).2.block g hg).2;refine⟨fun x hx=>?_,fun x hx y hy hne=>?_⟩
 ·rcases put_mem _ _ _ hnd hx with rfl | ⟨hx,hxn⟩
  ·exact⟨by simp,ho.keepB fun g hg=>ht.kept.block g (ho.notMap hm2.notCells g hg)⟩
  ·have hr:=(h.rows x hx).2;have hr1:=hr.below h1;refine⟨(h.rows x hx).1,hr1.keepB fun g hg=>?_⟩;have hg1:=lt x hx g hg;have hs1:=h1.size;refine(ht.kept.block g ?_).trans (h2.block g (by omega) fun e=>old x hx hxn g hg e.symm);intro e;subst e;exact hr.notMap hm.notCells g hg rfl
 ·rcases put_mem _ _ _ hnd hx with rfl | ⟨hx,hxn⟩ <;> rcases put_mem _ _ _ hnd hy with rfl | ⟨hy,hyn⟩
  ·exact absurd rfl hne
  ·intro e;obtain⟨g,hg⟩:=own_someE ho (by simp);have hg2:y.2.2.ownBlock=some g:=e.symm.trans hg;rcases hw g hg with h3 | h3
   ·exact old y hy hyn g hg2 h3
   ·have:=lt y hy g hg2;have:=h1.size;omega
  ·intro e;obtain⟨g,hg⟩:=own_someE ho (by simp);have hg2:x.2.2.ownBlock=some g:=e.trans hg;rcases hw g hg with h3 | h3
   ·exact old x hx hxn g hg2 h3
   ·have:=lt x hx g hg2;have:=h1.size;omega
  ·exact h.apart x hx y hy hne
variable {P : Program} {k : TypeId} {kv : κ -> Value} {E : Elm ι} {w w' : World} {B b : Nat} {f : κ -> List ι}
theorem MR.made (w:World)(B:Nat):MR P k kv E (w.alloc (.map #[] 0)) B w.heap.size (fun _:κ=>([]:List ι)) :=
 ⟨[],Mp.made w,⟨(fun x hx=>by cases hx),fun x hx=>by cases hx⟩,fun n=>rfl⟩
theorem MR.lt (h:MR P k kv E w B b f):b<w.heap.size:=by
 obtain⟨lw,h1,_⟩:=h;exact h1.lt
theorem MR.notCells (h:MR P k kv E w B b f):∀ cs t fr,w.heap[b]?≠some (.cells cs t fr):=by
 obtain⟨lw,h1,_⟩:=h;exact h1.notCells
theorem MR.keep (h:MR P k kv E w B b f)(hb:w'.heap[b]?=w.heap[b]?)(hs:∀ x,B<=x->x<w.heap.size->(∃ cs,w.heap[x]?=some (.cells cs E.e (0,0)))->w'.heap[x]?=w.heap[x]?):MR P k kv E w' B b f:=by
 obtain⟨lw,h1,h2,h3⟩:=h;exact⟨lw,h1.same hb,h2.keep hs,h3⟩
theorem MR.up (h:MR P k kv E w B b f)(hb:Below w.heap.size w w'):MR P k kv E w' B b f:=h.keep (hb.block _ h.lt) fun x _ hx _=>hb.block x hx
theorem MR.turned (h:MR P k kv E w B b f) {c:Nat} (ht:Turned w w' c)(hb:b≠c)(hc:∀ cs t fr,w.heap[c]?≠some (.cells cs t fr)):MR P k kv E w' B b f :=
 h.keep (ht.kept.block _ hb) fun x _ _ hx=>ht.kept.block x fun e=>by
  obtain⟨cs,hx⟩:=hx;exact hc _ _ _ (e▸hx)
theorem MR.congr (h:MR P k kv E w B b f) {g:κ->List ι} (e:∀ n,f n=g n):MR P k kv E w B b g:=by
 have:f=g:=funext e;rw[<- this];exact h
theorem MR.look (h:MR P k kv E w B b f)(K:Keyed P k)(inj:∀ a b,kv a=kv b->a=b) {t e:TypeId} (ht:P.underlying t=some (.map k e))(hz:(zeroValue e).run P w = .ok (.slice none 0 0) w) {n:κ} (hn:∃ q,keyOf P k (kv n)=some q) :
  ∃ v,(Instr.lookup t (.map (some b)) (kv n) false).run P w = .ok v w/\Own w B E.e E.sz v ((f n).flatMap E.enc)/\∃ lw:List (κ × RwV ι),Mp P k kv rwV w b lw/\MRows E w B lw/\(∀ n,(lookA lw n).map (·.1)=optR (f n))/\(lookA lw n=some (f n,v)\/(lookA lw n=none/\f n=[]/\v = .slice none 0 0)):=by
 obtain⟨lw,h1,h2,h3⟩:=h;have hl:=h3 n;have hrun:=h1.look K inj ht hz false hn;cases hlk:lookA lw n with
 | none =>
  rw[hlk]at hl hrun
  have hw:f n=[]:=by
   unfold optR at hl;split at hl
   ·next h=>exact List.isEmpty_iff.1 h
   ·cases hl
  exact⟨.slice none 0 0,hrun,by rw[hw];exact Own.nil _ _ _ _,lw,h1,h2,h3,.inr ⟨hlk,hw,rfl⟩⟩
 | some x =>
  rw[hlk]at hl hrun
  have hw:x.1=f n:=by
   unfold optR at hl;split at hl
   ·cases hl
   ·injection hl
  have hm:=h2.rows _ (look_mem hlk);refine⟨x.2,hrun,by rw[<- hw];exact hm.2,lw,h1,h2,h3,.inl ?_⟩;rw[hlk,<- hw]
theorem MR.put {w1 w2:World} {lw:List (κ × RwV ι)} (K:Keyed P k)(inj:∀ a b,kv a=kv b->a=b) {t e:TypeId} (ht:P.underlying t=some (.map k e)) {n:κ} {x:ι} {v v':Value} (hM:Mp P k kv rwV w b lw)(hR:MRows E w B lw)(hL:∀ n,(lookA lw n).map (·.1)=optR (f n))
  (hl:lookA lw n=some (f n,v)\/(lookA lw n=none/\f n=[]/\v = .slice none 0 0)) (h1:Below w.heap.size w w1) (h2:w1.grownBy w2 v.ownBlock) (ho0:Own w B E.e E.sz v ((f n).flatMap E.enc)) (ho:Own w2 B E.e E.sz v' ((f n++[x]).flatMap E.enc))
  (hw:∀ g,v'.ownBlock=some g->v.ownBlock=some g\/w1.heap.size<=g) (hn:∃ q,keyOf P k (kv n)=some q) :
  ∃ w',(Instr.mapUpdate t (.map (some b)) (kv n) v').run P w2 = .ok () w'/\MR P k kv E w' B b (fun m=>if n=m then f m++[x]else f m)/\Turned w2 w' b:=by
 have hm1:=hM.below h1;have hm2:Mp P k kv rwV w2 b lw:=hm1.same (h2.block b hm1.lt (fun e=>((ho0.below h1).notMap hm1.notCells) b e.symm rfl));obtain⟨w',hrun,hM',hT⟩:=hm2.store K inj ht hn ((f n++[x],v'):RwV ι);refine⟨w',hrun,⟨_,hM',hR.put (names:=f n) (v:=v) hl h1 h2 ho hw hM hm2 hT,fun m=>?_⟩,hT⟩;rw[look_put];show _=optR (if n=m then f m++[x]else f m)
 by_cases e:n=m
 ·rw[if_pos e,if_pos e];subst e;unfold optR;rw[if_neg (by simp)];rfl
 ·rw[if_neg e,if_neg e];exact hL m
end
theorem pointK:Keyed Tryz.prog 30:=Keyed.of_law (deep_law_laid laidOut (m:=3) (by decide) (of_decide_eq_true (by kernel_rfl)) (by kernel_rfl) (by kernel_rfl))
theorem subK:Keyed Tryz.prog 63:=Keyed.of_law (deep_law_laid laidOut (m:=3) (by decide) (of_decide_eq_true (by kernel_rfl)) (by kernel_rfl) (by kernel_rfl))
theorem pV_inj (a b:P3)(h:pV a=pV b):a=b:=by
 obtain⟨a1,a2,a3⟩:=a;obtain⟨b1,b2,b3⟩:=b;simpa [pV] using h
theorem point_lits (d:Nat)(p:P3)(h:p.Ok):Tryz.prog.keyLits (d+1+1+1) 30 [.string p.t,.string p.i,.string p.r]=some [.string p.t.data.toList,.string p.i.data.toList,.string p.r.data.toList]:=by
 unfold Program.keyLits;rw[Tryz.underlying30];have e1:=obj_lits d p.t p.i h.1 h.2.1;have e2:=str_lits (d+1) p.r h.2.2;have e3:Tryz.prog.cellsOf 30=3:=by kernel_rfl
 have e4:Tryz.prog.cellsOf 9=1:=by kernel_rfl
 have e5:Tryz.prog.cellsOf 28=2:=by kernel_rfl
 simp[e1,e2,e3,e4,e5]
theorem point_key (p:P3)(h:p.Ok):∃ q,keyOf Tryz.prog 30 (pV p)=some q:=by
 obtain⟨d,hd⟩:=types_many;have e:=point_lits (d+1) p h;have e2:(Tryz.prog.keyType 30&&(pV p).formed Tryz.prog 30)=true:=by kernel_rfl
 have hs:Tryz.prog.types.size+1=d+1+1+1+1:=by omega
 unfold keyOf;rw[Tryz.underlying30];dsimp only;rw[if_pos e2,hs];rw[show(pV p).cells.toList=[.string p.t,.string p.i,.string p.r]from rfl,e];exact⟨_,rfl⟩
theorem sub_lits (d:Nat)(p:P3)(h:p.Ok):Tryz.prog.keyLits (d+1+1+1) 63 [.string p.t,.string p.i,.string p.r]=some [.string p.t.data.toList,.string p.i.data.toList,.string p.r.data.toList]:=by
 unfold Program.keyLits;rw[Tryz.underlying63];have e1:=obj_lits d p.t p.i h.1 h.2.1;have e2:=str_lits (d+1) p.r h.2.2;have e3:Tryz.prog.cellsOf 63=3:=by kernel_rfl
 have e4:Tryz.prog.cellsOf 9=1:=by kernel_rfl
 have e5:Tryz.prog.cellsOf 28=2:=by kernel_rfl
 simp[e1,e2,e3,e4,e5]
theorem sub_key (p:P3)(h:p.Ok):∃ q,keyOf Tryz.prog 63 (pV p)=some q:=by
 obtain⟨d,hd⟩:=types_many;have e:=sub_lits (d+1) p h;have e2:(Tryz.prog.keyType 63&&(pV p).formed Tryz.prog 63)=true:=by kernel_rfl
 have hs:Tryz.prog.types.size+1=d+1+1+1+1:=by omega
 unfold keyOf;rw[Tryz.underlying63];dsimp only;rw[if_pos e2,hs];rw[show(pV p).cells.toList=[.string p.t,.string p.i,.string p.r]from rfl,e];exact⟨_,rfl⟩
def NoPt (w:World)(b:Nat):Prop:=∀ cs,w.heap[b]?≠some (.cells cs 30 (0,0))
def FS (lo:Nat)(w:World)(b:Nat):Prop:=lo<=b/\b<w.heap.size/\NoPt w b
abbrev PKept (M:Nat->Prop) (B:Nat) (w w':World):Prop:=QKept 30 M B w w'
section
variable {w w' w'' : World} {M : Nat -> Prop} {B lo : Nat}
theorem FS.same (h:PKept M B w w')(hM:∀ x,M x->x<lo):Same (FS lo w) w w':=fun b hb=>h.block b (.inr ⟨fun hm=>by have:=hM b hm;have:=hb.1;omega,hb.2.1,hb.2.2⟩)
theorem FS.keep (h:PKept M B w w')(hM:∀ x,M x->x<lo) {b:Nat} (hb:FS lo w b):FS lo w' b :=
 ⟨hb.1,Nat.lt_of_lt_of_le hb.2.1 h.size,fun cs=>by rw[FS.same h hM b hb];exact hb.2.2 cs⟩
theorem FS.mono {lo':Nat} (h:lo<=lo') {b:Nat} (hb:FS lo' w b):FS lo w b:=⟨Nat.le_trans h hb.1,hb.2⟩
theorem FS.lt {b:Nat} (hb:FS lo w b):b<w.heap.size:=hb.2.1
theorem FS.ext (h:Ext w w') {b:Nat} (hb:FS lo w b):FS lo w' b:=⟨hb.1,Nat.lt_of_lt_of_le hb.2.1 h.size,fun cs=>by rw[h.block b hb.2.1];exact hb.2.2 cs⟩
theorem Own.fs {e:TypeId} {sz:Nat} {v:Value} {xs:List Value} (h:Own w lo e sz v xs)(he:e≠30):Sl (FS lo w) w sz v xs:=by
 obtain⟨n,ho⟩:=h;refine ownsRow_sl ho _ fun g hg=>⟨(ho.lt g hg).1,(ho.lt g hg).2,fun cs hc=>?_⟩;obtain⟨cur,h2⟩:=(show Own w lo e sz v xs from⟨n,ho⟩).typed hg;rw[hc]at h2;injection h2 with h2
 injection h2 with _ h2 _
 exact he h2.symm
end
structure FRow (lo:Nat)(w:World)(q:List (FT × FV3))(pv:Value):Prop where
 row:Own w lo 90 4 pv (q.flatMap fC)
 parts:∀ x∈q,FTAt (fun b=>FS lo w b/\pv.ownBlock≠some b) w x.1 x.2
section
variable {w w' w1 w3 : World} {M : Nat -> Prop} {B lo n0 : Nat} {q : List (FT × FV3)} {pv v' : Value} {x : FT × FV3}
theorem FRow.nil (lo:Nat)(w:World):FRow lo w [] (.slice none 0 0):=⟨Own.nil _ _ _ _,fun x hx=>by cases hx⟩
theorem FRow.keep (h:FRow lo w q pv)(hk:PKept M B w w')(hM:∀ x,M x->x<lo):FRow lo w' q pv :=
 ⟨h.row.keepOwn fun g hg=>FS.same hk hM g ⟨(h.row.block g hg).1,(h.row.block g hg).2,fun cs hc=>by
   obtain⟨cur,h2⟩:=h.row.typed hg;rw[hc]at h2;injection h2 with h2
   injection h2 with _ h2 _
   exact absurd h2 (by decide)⟩,
  fun x hx=>((h.parts x hx).same fun b hb=>FS.same hk hM b hb.1).mono fun b hb=>⟨FS.keep hk hM hb.1,hb.2⟩⟩
theorem FRow.ext (h:FRow lo w q pv)(hx:Ext w w'):FRow lo w' q pv :=
 ⟨h.row.below hx,fun x hm=>((h.parts x hm).same fun b hb=>hx.block b hb.1.2.1).mono fun b hb=>⟨hb.1.ext hx,hb.2⟩⟩
theorem FRow.above (h:FRow lo w q pv)(hs:∀ b,lo<=b->b<w.heap.size->w'.heap[b]?=w.heap[b]?)(hz:w.heap.size<=w'.heap.size):FRow lo w' q pv :=
 ⟨h.row.keepOwn fun g hg=>hs g (h.row.block g hg).1 (h.row.block g hg).2,fun x hx=>((h.parts x hx).same fun b hb=>hs b hb.1.1 hb.1.2.1).mono fun b hb=>⟨⟨hb.1.1,Nat.lt_of_lt_of_le hb.1.2.1 hz,fun cs=>by rw[hs b hb.1.1 hb.1.2.1];exact hb.1.2.2 cs⟩,hb.2⟩⟩
theorem FRow.add (h:FRow lo w1 q pv)(hk:∀ b,b<w1.heap.size->pv.ownBlock≠some b->w3.heap[b]?=w1.heap[b]?)(hz:w1.heap.size<=w3.heap.size)(ho:Own w3 lo 90 4 v' (q.flatMap fC++fC x))
  (hb:∀ g,v'.ownBlock=some g->pv.ownBlock=some g\/w1.heap.size<=g) (hx:FTAt (FS n0 w1) w1 x.1 x.2) (hn0:lo<=n0) (hpv:∀ g,pv.ownBlock=some g->g<n0):FRow lo w3 (q++[x]) v':=by
 have hm:∀ b,(FS lo w1 b/\pv.ownBlock≠some b)->(FS lo w3 b/\v'.ownBlock≠some b):=fun b hb'=>⟨⟨hb'.1.1,Nat.lt_of_lt_of_le hb'.1.2.1 hz,fun cs=>by rw[hk b hb'.1.2.1 hb'.2];exact hb'.1.2.2 cs⟩,fun e=>by
  rcases hb b e with e2 | e2
  ·exact hb'.2 e2
  ·have:=hb'.1.2.1;omega⟩
 refine⟨by rw[List.flatMap_append];simpa using ho,fun y hy=>?_⟩;rcases List.mem_append.1 hy with hy | hy
 ·exact((h.parts y hy).same fun b hb'=>hk b hb'.1.2.1 hb'.2).mono hm
 ·obtain rfl:=List.mem_singleton.1 hy;have h2:∀ b,FS n0 w1 b->(FS lo w1 b/\pv.ownBlock≠some b):=fun b hb'=>⟨hb'.mono hn0,fun e=>by have:=hpv b e;have:=hb'.1;omega⟩;exact((hx.mono h2).same fun b hb'=>hk b hb'.1.2.1 hb'.2).mono hm
theorem FRow.forms (h:FRow lo w q pv):∃ p:List (FT × FV3),p.map (·.1)=q.map (·.1)/\(∀ x∈p,FTAt (FS lo w) w x.1 x.2)/\Sl (FS lo w) w 4 pv (p.flatMap fC) :=
 ⟨q,rfl,fun x hx=>(h.parts x hx).mono fun b hb=>hb.1,h.row.fs (by decide)⟩
end
def GrAt (S:Nat->Prop)(w:World)(ps:List P3)(fs:List FT)(pv fv:Value):Prop :=
 Sl S w 3 pv (pcs ps)/\∃ q:List (FT × FV3),q.map (·.1)=fs/\(∀ x∈q,FTAt S w x.1 x.2)/\Sl S w 4 fv (q.flatMap fC)
theorem GrAt.same {S:Nat->Prop} {w w':World} {ps:List P3} {fs:List FT} {pv fv:Value} (h:GrAt S w ps fs pv fv)(hs:Same S w w'):GrAt S w' ps fs pv fv:=by
 obtain⟨h1,q,h2,h3,h4⟩:=h;exact⟨h1.same hs,q,h2,fun x hx=>(h3 x hx).same hs,h4.same hs⟩
theorem GrAt.mono {S T:Nat->Prop} {w:World} {ps:List P3} {fs:List FT} {pv fv:Value} (h:GrAt S w ps fs pv fv)(hs:∀ b,S b->T b):GrAt T w ps fs pv fv:=by
 obtain⟨h1,q,h2,h3,h4⟩:=h;exact⟨h1.mono hs,q,h2,fun x hx=>(h3 x hx).mono hs,h4.mono hs⟩
theorem GrAt.up {w w':World} {ps:List P3} {fs:List FT} {pv fv:Value} (h:GrAt (· < w.heap.size) w ps fs pv fv)(hb:Below w.heap.size w w'):GrAt (· < w'.heap.size) w' ps fs pv fv :=
 (h.same (Same.below hb)).mono fun _ h=>Nat.lt_of_lt_of_le h hb.size
abbrev nuV:Nat->Value:=fun n => .int .i64 n
theorem look_zip (p:P3):∀ (ps:List P3)(k:Nat),lookA (ps.zipIdx k) p=if p∈ps then some (k+numD ps p)else none
 | [],_=>rfl
 | x::ps,k=>by
  rw[List.zipIdx_cons];unfold lookA;by_cases h:x=p
  ·subst h;simp[numD,List.findIdx_cons]
  ·rw[if_neg h,look_zip p ps (k+1)];have hp:¬ p=x:=fun e=>h e.symm;simp only[List.mem_cons,hp,false_or,numD,List.findIdx_cons,h,decide_false,cond_false];split
   ·congr 1;omega
   ·rfl
theorem put_zip (p:P3)(ps:List P3)(h:p∉ps):putA (ps.zipIdx 0) p ps.length=(ps++[p]).zipIdx 0:=by
 rw[put_miss (fun x hx e=>h (by
  have:=List.mem_map_of_mem (f:=Prod.fst) hx;rw[List.zipIdx_map_fst]at this;rw[<- e];exact this)),List.zipIdx_append]
 simp
theorem numD_new (ps:List P3)(p:P3)(h:p∉ps):numD ps p=ps.length:=by
 unfold numD;rw[List.findIdx_eq_length];intro x hx;simp only[decide_eq_false_iff_not];exact fun e=>h (e▸hx)
structure WkAt (w:World)(wp am B:Nat)(tv fi sm:Value)(ps:List P3)(pv fv:Value):Prop where
 box:Blk w wp #[tv,fi,sm,.map (some am),pv,fv,.int .i64 0] 116
 num:Mp Tryz.prog 30 pV nuV w am (ps.zipIdx 0)
 pts:Own w B 30 3 pv (pcs ps)
abbrev WM (wp am:Nat):Nat->Prop:=fun x=>x=wp\/x=am
section
variable {w w' : World} {wp am B : Nat} {tv fi sm pv fv pv' fv' : Value} {ps : List P3} {p : P3}
theorem WkAt.ext (h:WkAt w wp am B tv fi sm ps pv fv)(hx:Ext w w'):WkAt w' wp am B tv fi sm ps pv fv:=⟨h.box.below hx,h.num.below hx,h.pts.below hx⟩
theorem WkAt.same (h:WkAt w wp am B tv fi sm ps pv fv)(h1:w'.heap[wp]?=w.heap[wp]?)(h2:w'.heap[am]?=w.heap[am]?)(h3:∀ g,pv.ownBlock=some g->w'.heap[g]?=w.heap[g]?):WkAt w' wp am B tv fi sm ps pv fv:=⟨h1.trans h.box,h.num.same h2,h.pts.keepOwn h3⟩
theorem WkAt.ne (h:WkAt w wp am B tv fi sm ps pv fv):wp≠am:=fun e=>h.num.notCells _ _ _ (e▸h.box)
theorem WkAt.ptNe (h:WkAt w wp am B tv fi sm ps pv fv):∀ g,pv.ownBlock=some g->g≠wp/\g≠am:=fun g hg=>by
 obtain⟨cur,h2⟩:=h.pts.typed hg;refine⟨fun e=>?_,fun e=>?_⟩
 ·subst e;rw[show w.heap[g]?=_ from h.box]at h2;injection h2 with h2
  injection h2 with _ h2 _
  exact absurd h2 (by decide)
 ·subst e;exact h.num.notCells _ _ _ h2
end
abbrev KX (wp am:Nat) (w:World) (pv:Value) (x:Nat):Prop:=x<w.heap.size/\x≠wp/\x≠am/\pv.ownBlock≠some x
structure Fine (wp am:Nat)(w w':World)(pv pv':Value):Prop where
 kept:Kept (KX wp am w pv) w w'
 wher:∀ g,pv'.ownBlock=some g->pv.ownBlock=some g\/w.heap.size<=g
section
variable {w w' w'' w0 : World} {wp am B B' : Nat} {tv fi sm pv fv pv' pv'' v : Value} {ps : List P3} {e : TypeId} {sz : Nat} {xs : List Value}
theorem Fine.of (wp am:Nat)(pv:Value)(h:Ext w w'):Fine wp am w w' pv pv:=⟨Below.kept h fun _ hx=>hx.1,fun _ hg => .inl hg⟩
theorem Fine.trans (h:Fine wp am w w' pv pv')(k:Fine wp am w' w'' pv' pv''):Fine wp am w w'' pv pv'' :=
 ⟨h.kept.trans (k.kept.mono fun x (hx:KX wp am w pv x)=>⟨Nat.lt_of_lt_of_le hx.1 h.kept.size,hx.2.1,hx.2.2.1,fun e=>by
   rcases h.wher x e with e2 | e2
   ·exact hx.2.2.2 e2
   ·have:=hx.1;omega⟩),
  fun g hg=>by
   rcases k.wher g hg with e | e
   ·exact h.wher g e
   ·exact .inr (Nat.le_trans h.kept.size e)⟩
theorem Fine.size (h:Fine wp am w w' pv pv'):w.heap.size<=w'.heap.size:=h.kept.size
theorem Fine.own (h:Fine wp am w0 w pv pv')(ho:Own w w0.heap.size e sz v xs)(hg:w.grownBy w' v.ownBlock):Fine wp am w0 w' pv pv' :=
 ⟨⟨hg.os.trans h.kept.os,hg.tape.trans h.kept.tape,hg.output.trans h.kept.output,Nat.le_trans h.kept.size hg.size,fun x hx=>(hg.block x (Nat.lt_of_lt_of_le hx.1 h.kept.size) fun e=>by have:=(ho.block x e.symm).1;have:=hx.1;omega).trans (h.kept.block x hx)⟩,h.wher⟩
theorem Fine.set (h:Fine wp am w0 w pv pv') {x i:Nat} (hx:w0.heap.size<=x)(u:Value):Fine wp am w0 (w.setCell ⟨x,i,none⟩ u) pv pv' :=
 ⟨h.kept.set (fun hk=>by have h1:x<w0.heap.size:=hk.1;omega) _,h.wher⟩
theorem Fine.pk (h:Fine wp am w w' pv pv')(hw:WkAt w wp am B tv fi sm ps pv fv)(hB:B<=wp/\B<=am):PKept (WM wp am) B w w':=h.kept.mono fun x hx=>by
 rcases hx with hx | ⟨h1,h2,h3⟩
 ·exact⟨by have:=hw.box.lt;omega,by omega,by omega,fun e=>by have:=(hw.pts.block x e).1;omega⟩
 ·refine⟨h2,fun e=>h1 (.inl e),fun e=>h1 (.inr e),fun e=>?_⟩;obtain⟨c,hc⟩:=hw.pts.typed e;exact h3 c hc
theorem WkAt.un (h:WkAt w wp am B tv fi sm ps pv fv) {x:Nat} {cs:Array Value} {fr:Nat × Nat} (hx:w.heap[x]?=some (.cells cs e fr))(he:e≠30)(he2:e≠116):KX wp am w pv x:=by
 refine⟨(Array.getElem?_eq_some_iff.1 hx).1,fun e=>?_,fun e=>?_,fun e=>?_⟩
 ·subst e;rw[show w.heap[x]?=_ from h.box]at hx;injection hx with hx
  injection hx with _ hx _
  exact he2 hx.symm
 ·subst e;exact h.num.notCells _ _ _ hx
 ·obtain⟨c,hc⟩:=h.pts.typed e;rw[hc]at hx;injection hx with hx
  injection hx with _ hx _
  exact he hx.symm
theorem Fine.blk (h:Fine wp am w w' pv pv')(hw:WkAt w wp am B tv fi sm ps pv fv) {x:Nat} {cs:Array Value} (hx:Blk w x cs e)(he:e≠30)(he2:e≠116):Blk w' x cs e:=(h.kept.block x (hw.un hx he he2)).trans hx
theorem Fine.row (h:Fine wp am w w' pv pv')(hw:WkAt w wp am B tv fi sm ps pv fv)(ho:Own w B' e sz v xs)(he:e≠30)(he2:e≠116):Own w' B' e sz v xs:=ho.keepOwn fun g hg=>by
 obtain⟨c,hc⟩:=ho.typed hg;exact h.kept.block g (hw.un hc he he2)
theorem WkAt.sl (hw:WkAt w wp am B tv fi sm ps pv fv)(ho:Own w B' e sz v xs)(he:e≠30)(he2:e≠116):Sl (KX wp am w pv) w sz v xs:=by
 obtain⟨n,h⟩:=ho;refine ownsRow_sl h _ fun g hg=>?_;obtain⟨c,hc⟩:=(show Own w B' e sz v xs from⟨n,h⟩).typed hg;exact hw.un hc he he2
theorem WkAt.grown (h:WkAt w wp am B tv fi sm ps pv fv)(ho:Own w B' e sz v xs)(he:e≠30)(he2:e≠116)(hg:w.grownBy w' v.ownBlock):WkAt w' wp am B tv fi sm ps pv fv:=by
 refine h.same (hg.block wp h.box.lt fun e=>?_) (hg.block am h.num.lt fun e=>?_) fun g hgp=>hg.block g (h.pts.block g hgp).2 fun e=>?_
 ·obtain⟨c,hc⟩:=ho.typed e.symm;exact(h.un hc he he2).2.1 rfl
 ·exact ho.notMap h.num.notCells am e.symm rfl
 ·obtain⟨c,hc⟩:=ho.typed e.symm;exact(h.un hc he he2).2.2.2 hgp
theorem WkAt.setBox (h:WkAt w wp am B tv fi sm ps pv fv) {x i:Nat} {cs:Array Value} (hx:Blk w x cs e)(he:e≠30)(he2:e≠116)(u:Value):WkAt (w.setCell ⟨x,i,none⟩ u) wp am B tv fi sm ps pv fv:=by
 have hu:=h.un hx he he2;exact h.same (Below.heap_setCell _ _ _ _ fun e=>hu.2.1 e.symm) (Below.heap_setCell _ _ _ _ fun e=>hu.2.2.1 e.symm) fun g hg=>Below.heap_setCell _ _ _ _ fun e=>hu.2.2.2 (by rw[hg,show g=x from e])
theorem Own.setBox (ho:Own w B' e sz v xs) {x i:Nat} {cs:Array Value} {e2:TypeId} (hx:Blk w x cs e2)(he:e≠e2)(u:Value):Own (w.setCell ⟨x,i,none⟩ u) B' e sz v xs:=ho.keepOwn fun g hg=>Below.heap_setCell _ _ _ _ fun e3=>by
 obtain⟨c,hc⟩:=ho.typed hg;rw[show g=x from e3,show w.heap[x]?=_ from hx]at hc;injection hc with hc
 injection hc with _ hc _
 exact he hc.symm
end
set_option maxRecDepth 100000 in
set_option maxHeartbeats 400000 in
theorem indexI_any {S:Nat->Prop} (v:Value)(l:List Int)(k:Int)(w:World)(h:Sl S w 1 v (ic l)) :
  Calls Tryz.prog 183 #[v,.int .i64 k] w fun e w'=>(∃ i:Int,e = .returned (.int .i64 i)/\(0<=i↔k∈l))/\w'=w:=by
 obtain⟨ao,c,rfl,hlc,hcm,hc⟩:=h.ints;have HC:=h! hc;clear hc h;go_enter Tryz.func183,Tryz.ntmps183
 go_wp2_with fail
 go_loopw [5,8] (fun _ iv wr=>∃ i:Nat,i<=l.length/\iv = .int .i64 i/\(∀ j (hj:j<l.length),j<i->l[j]≠k)/\wr=w) (fun _ iv _=>l.length-(intOf iv).toNat)
 case atStart=>exact⟨0,Nat.zero_le _,rfl,(fun _ _ h=>absurd h (Nat.not_lt_zero _)),rfl⟩
 case round =>
  obtain⟨i,hi,rfl,hall,rfl⟩:=hrel;have HALL:=h! hall;clear hall;by_cases hlt:i<l.length
  ·obtain⟨b,off,rfl,-,hcl⟩:=HC.out i hlt;by_cases he:l[i]=k
   ·have HM:=h! (show k∈l from he▸List.getElem_mem hlt);rw[he]at hcl;clear he;go_wp2_with fail
    go_ret
    exact⟨⟨_,rfl,⟨fun _=>HM.out,fun _=>by omega⟩⟩,rfl⟩
   ·have HN:=h! (show ∀ j (hj:j<l.length),j<i+1->l[j]≠k from fun j hj h=>(Nat.lt_succ_iff_lt_or_eq.1 h).elim (fun e=>HALL.out j hj e) (fun e=>by subst e;exact he));generalize l[i]=x at *;have hne:¬ (k=x):=fun e=>he e.symm;have hnb:(k == x)=false:=by simpa using hne
    have HIL:=h! hlt;clear he;go_wp2_with fail
    go_roundw
    case rel=>exact⟨i+1,HIL.out,by go_num,HN.out,trivial⟩
    case measure=>have:=HIL.out;simp[intOf];omega
  ·obtain rfl:i=l.length:=by omega
   have HN:=h! (show k∉l from fun hk=>by obtain⟨j,hj,e⟩:=List.getElem_of_mem hk;exact HALL.out j hj hj e);go_wp2_with fail
   go_ret
   exact⟨⟨_,rfl,⟨fun h=>absurd h (by decide),fun h=>absurd h HN.out⟩⟩,rfl⟩
set_option maxRecDepth 100000 in
theorem containsI_any {S:Nat->Prop} (v:Value)(l:List Int)(k:Int)(w:World)(h:Sl S w 1 v (ic l)) :
  Calls Tryz.prog 157 #[v,.int .i64 k] w fun e w'=>e = .returned (.bool (decide (k∈l)))/\w'=w:=by
 have HI:=h! (indexI_any v l k w h);obtain⟨ao,c,rfl,-,-,-⟩:=h.ints;clear h;go_enter Tryz.func157,Tryz.ntmps157
 go_wp2_with fail
 refine HI.out.mono ?_;rintro e w1 ⟨⟨i,rfl,hi⟩,rfl⟩;by_cases hk:k∈l
 ·have h0:=hi.2 hk;clear hi;go_wp2_with fail
  go_ret
  exact⟨by rw[decide_eq_true hk];rfl,rfl⟩
 ·have h0:¬ (0<=i):=fun h=>hk (hi.1 h);have hd:decide (0<=i)=false:=decide_eq_false h0;clear hi h0;go_wp2_with fail
  go_ret
  exact⟨by rw[decide_eq_false hk];rfl,rfl⟩
set_option maxRecDepth 100000 in
set_option maxHeartbeats 1600000 in
theorem number_any (wp am B:Nat)(tv fi sm pv fv:Value)(ps:List P3)(p:P3)(w:World)(hp:p.Ok)(h:WkAt w wp am B tv fi sm ps pv fv)(hB:B<=wp/\B<=am)(hl:ps.length<=1073741824) :
  Calls Tryz.prog 52 #[.pointer (some ⟨wp,0,none⟩),pV p] w fun e w'=>∃ pv',e = .returned (.int .i64 (numD ps p:Nat))/\WkAt w' wp am B tv fi sm (putP ps p) pv' fv/\Fine wp am w w' pv pv':=by
 have HBB:=h! hB;have HB0:=h! (show B<=w.heap.size from by have:=h.box.lt;omega);have HLT:=h! (show wp<w.heap.size/\am<w.heap.size from⟨h.box.lt,h.num.lt⟩);have HOK:=h! hp;have HPT:=h! h.ptNe;have HPL:=h! h.pts.block;obtain⟨po,n,pc,rfl,hn,-,-⟩:=h.pts.sl.len;rw[pcs_length]at hn;obtain rfl:n=ps.length:=by omega
 have HK:=h! (point_key p hp);have HLK:=h! (look_zip p ps 0);have HPU:=h! (put_zip p ps);have HNW:=h! (numD_new ps p);have HPP:=h! (show putP ps p=if p∈ps then ps else ps++[p]from rfl);obtain⟨pt,pi,pr⟩:=p;have hx1:=Ext.alloc w (.cells #[.string pt,.string pi,.string pr] 30);have HW1:=h! (h.ext hx1);have HP1:=h! (Blk.made w #[.string pt,.string pi,.string pr] 30);have HX1:=h! hx1;clear hx1 h hB hp hn;unfold pV;dsimp only;go_enter Tryz.func52,Tryz.ntmps52
 go_wp2_with fail
 obtain⟨wd,hwd⟩:∃ wd,wd=(w.alloc (.cells #[.string pt,.string pi,.string pr] 30)).drew:=⟨_,rfl⟩;have HWd:=h! (show WkAt wd wp am B tv fi sm ps (.slice po ps.length pc) fv from by rw[hwd];exact HW1.out.ext (Ext.drew _));have HPd:=h! (show Blk wd w.heap.size #[.string pt,.string pi,.string pr] 30 from by rw[hwd];exact HP1.out.drew);have HXd:=h! (show Ext w wd from by rw[hwd];exact HX1.out.trans (Ext.drew _));refine region_walkN (Ext wd) (by rw[<- hwd];exact Ext.refl _) (by kernel_rfl) (by kernel_rfl) (fun _ _ d _ _ h=>by cases d <;> exact h) ?_;rw[<- hwd];clear hwd HW1 HP1 HX1;have h1:=fun W (h:Ext wd W)=>(HWd.out.box.below h).cells;have h2:=fun W (h:Ext wd W)=>(HPd.out.below h).cells;have hlook:=fun W (h:Ext wd W)=>(HWd.out.num.below h).look pointK pV_inj Tryz.underlying114 (Tryz.zeroValue3 W) true HK.out;rw[HLK.out]at hlook;by_cases hm:(⟨pt,pi,pr⟩:P3)∈ps
 ·rw[if_pos hm,Nat.zero_add]at hlook;have HR:=h! (show putP ps ⟨pt,pi,pr⟩=ps from by rw[HPP.out,if_pos hm]);clear hm;unfold lookV pV at hlook;dsimp only at hlook;(refine WalkN.tk [0,1,2,3,4,5,6,7,8,9,10] ?_;(iterate 11 ((refine TkN.c _ ?_ (by simp only[gA,gS,gZ];rfl) (by kernel_rfl) (by kernel_rfl) (by rfl) (fun W hW=>?_) ?_;rotate_left;· (go_simp;try with_reducible rfl));simp only[Act.put,pA,pZ,pS]));refine TkN.n ?_)
  refine WalkN.done (by kernel_rfl) ?_;clear h1 h2 hlook;go_wp2_with fail
  go_ret
  exact⟨_,rfl,by rw[HR.out];exact HWd.out,Fine.of _ _ _ HXd.out⟩
 ·rw[if_neg hm]at hlook;have HR:=h! (show putP ps ⟨pt,pi,pr⟩=ps++[⟨pt,pi,pr⟩]from by rw[HPP.out,if_neg hm]);have HNN:=h! (HNW.out hm);have HPN:=h! (HPU.out hm);clear hm;unfold lookV pV at hlook;dsimp only at hlook;(refine WalkN.tk [0,1,2,3,4,5,6,7,8,9,10] ?_;(iterate 11 ((refine TkN.c _ ?_ (by simp only[gA,gS,gZ];rfl) (by kernel_rfl) (by kernel_rfl) (by rfl) (fun W hW=>?_) ?_;rotate_left;· (go_simp;try with_reducible rfl));simp only[Act.put,pA,pZ,pS]));refine TkN.n ?_)
  refine WalkN.done (by kernel_rfl) ?_;clear h1 h2 hlook;have hcw:=HWd.out.box.cells;go_wp2_with fail
  clear hcw;obtain⟨we,hwe⟩:∃ we,we=wd.drew:=⟨_,rfl⟩;have HWe:=h! (show WkAt we wp am B tv fi sm ps (.slice po ps.length pc) fv from by rw[hwe];exact HWd.out.ext (Ext.drew _));have HPe:=h! (show Blk we w.heap.size #[.string pt,.string pi,.string pr] 30 from by rw[hwe];exact HPd.out.drew);have HXe:=h! (show Ext w we from by rw[hwe];exact HXd.out.trans (Ext.drew _));refine region_walkN (Kept (· ≠ am) we) (by rw[<- hwe];exact Kept.refl _ _) (by kernel_rfl) (by kernel_rfl) (fun _ _ d _ _ h=>by cases d <;> exact h) ?_;rw[<- hwe];clear hwe HWd HPd HXd;have HNEP:=h! (show w.heap.size≠am from fun e=>HWe.out.num.notCells _ _ _ (e▸HPe.out));have h1:=fun W (h:Kept (· ≠ am) we W)=>(h.blk HWe.out.box HWe.out.ne).cells;have h2:=fun W (h:Kept (· ≠ am) we W)=>(h.blk HPe.out HNEP.out).cells;(refine WalkN.tk [0,1,2,3,4,5] ?_;(iterate 6 ((refine TkN.c _ ?_ (by simp only[gA,gS,gZ];rfl) (by kernel_rfl) (by kernel_rfl) (by rfl) (fun W hW=>?_) ?_;rotate_left;· (go_simp;try with_reducible rfl));simp only[Act.put,pA,pZ,pS]));refine TkN.n ?_)
  clear h1 h2;obtain⟨wf,hrun,hMf,hTf⟩:=HWe.out.num.store pointK pV_inj Tryz.underlying114 HK.out (ps.length:Nat);rw[HPN.out]at hMf;unfold pV at hrun;dsimp only at hrun;refine WalkN.one 6 (by kernel_rfl) ?_;refine⟨_,(by simp only[gA,gS,gZ];rfl),by rfl,fun K hK=>?_⟩;go_simp;refine hK.out _ _ hTf.kept ?_;clear hK hrun;refine WalkN.done (by kernel_rfl) ?_;have HBf:=h! (hTf.kept.blk HWe.out.box HWe.out.ne);have HPf:=h! (hTf.kept.blk HPe.out HNEP.out);have HMf:=h! hMf;have HOf:=h! (HWe.out.pts.keepOwn fun g hg=>hTf.kept.block g (HPT.out g hg).2);have HQf:=h! (show Kept (KX wp am w (.slice po ps.length pc)) w wf from(Below.kept HXe.out fun x hx=>hx.1).trans (hTf.kept.mono fun x hx=>hx.2.2.1));have HZf:=h! (show w.heap.size<=wf.heap.size from by rw[hTf.size];exact HXe.out.size);clear hMf hTf HWe HPe HNEP HXe;go_wp2_with fail
  obtain⟨wg,hwg⟩:∃ wg,wg=wf.drew:=⟨_,rfl⟩;have HBg:=h! (show Blk wg wp _ _ from by rw[hwg];exact HBf.out.drew);have HPg:=h! (show Blk wg w.heap.size _ _ from by rw[hwg];exact HPf.out.drew);have HMg:=h! (HMf.out.below (show Below wf.heap.size wf wg from by rw[hwg];exact(Below.refl _ _).drew));have HOg:=h! (HOf.out.below (show Below wf.heap.size wf wg from by rw[hwg];exact(Below.refl _ _).drew));have HQg:=h! (show Kept (KX wp am w (.slice po ps.length pc)) w wg from by rw[hwg];exact HQf.out.drew);have HZg:=h! (show w.heap.size<=wg.heap.size from by rw[hwg];exact HZf.out);refine region_walkL 12 (Kept (fun x=>x<wg.heap.size/\Value.ownBlock (.slice po ps.length pc)≠some x) wg) (by rw[<- hwg];exact Kept.refl _ _) (by kernel_rfl) (by kernel_rfl) (fun _ _ d _ _ h=>by cases d <;> exact h) ?_;rw[<- hwg];clear hwg HBf HPf HMf HOf HQf HZf;have h1:=fun W (h:Kept (fun x=>x<wg.heap.size/\Value.ownBlock (.slice po ps.length pc)≠some x) wg W)=>(h.blk HBg.out ⟨HBg.out.lt,fun e=>(HPT.out _ e).1 rfl⟩).cells;have h2:=fun W (h:Kept (fun x=>x<wg.heap.size/\Value.ownBlock (.slice po ps.length pc)≠some x) wg W)=>(h.blk HPg.out ⟨HPg.out.lt,fun e=>by have:=(HPL.out _ e).2;omega⟩).cells;(refine WalkL.tk [0,1,2,3,4,5,6] ?_;(iterate 7 ((refine TkL.c _ ?_ (by simp only[gA,gS,gZ];rfl) (by kernel_rfl) (by kernel_rfl) (by kernel_rfl) (by rfl) (fun W hW=>?_) ?_;rotate_left;· (go_simp;try with_reducible rfl));simp only[Act.put,pA,pZ,pS]));refine TkL.n ?_)
  clear h1 h2;have hE1:Ext wg (wg.alloc (.cells #[.string pt,.string pi,.string pr] 30)):=Ext.alloc _ _;refine WalkL.one 7 (by kernel_rfl) ?_;refine⟨_,(by simp only[gA,gS,gZ];rfl),by rfl,fun K hK=>?_⟩;go_simp;refine hK.out _ _ ((Kept.refl _ _).alloc (fun x hx=>hx.1) _) ?_;clear hK;refine WalkL.one 8 (by kernel_rfl) ?_;refine⟨_,(by simp only[gA,gS,gZ];rfl),by rfl,fun K hK=>?_⟩;refine wp_ownw pointsT (.tmp 35) (.tmp 37) rfl rfl (HOg.out.below hE1) (m:=1) (news:=pC ⟨pt,pi,pr⟩) rfl rfl (fun j u hu=>?_) (pC_one _) (by rw[pcs_length,pC_length];omega) (by rw[pcs_length,pC_length];omega) (by have:=HZg.out;have:=HB0.out;simp;omega) (fun v2 w2 hown2 hw2 hg2=>?_)
  ·rw[Addr.add_lit,cell_of_row _ wg.heap.size (0+j) #[.string pt,.string pi,.string pr] 30 (0,0) (heap_alloc_new wg _),Nat.zero_add];simpa [pC] using hu
  have hkg:Kept (fun x=>x<wg.heap.size/\Value.ownBlock (.slice po ps.length pc)≠some x) wg w2:=⟨hg2.os.trans rfl,hg2.tape.trans rfl,hg2.output.trans rfl,Nat.le_trans (by simp) hg2.size,fun x hx=>(hg2.block x (by have:=hx.1;simp;omega) (fun e=>hx.2 e.symm)).trans (Below.heap_alloc wg _ x hx.1)⟩;have HQ2:=h! (show Kept (KX wp am w (.slice po ps.length pc)) w w2 from HQg.out.trans (hkg.mono fun x hx=>⟨Nat.lt_of_lt_of_le hx.1 HZg.out,hx.2.2.2⟩));have HWH:=h! (show ∀ g,v2.ownBlock=some g->(Value.slice po ps.length pc).ownBlock=some g\/w.heap.size<=g from fun g hg=>(hw2 g hg).imp id fun e=>by have:=HZg.out;simp at e;omega);have HB2:=h! (hkg.blk HBg.out ⟨HBg.out.lt,fun e=>(HPT.out _ e).1 rfl⟩);have HM2:=h! (HMg.out.kept hkg ⟨HMg.out.lt,fun e=>(HPT.out _ e).2 rfl⟩);refine hK.out _ _ hkg ?_;clear hK;simp only[Act.put,pA,pZ,pS];have HO2:=h! (show Own w2 B 30 3 v2 (pcs (ps++[⟨pt,pi,pr⟩]))from by rw[pcs_append,pcs_single];exact hown2);have HW2:=h! (show ∀ g,v2.ownBlock=some g->g≠wp/\g≠am from fun g hg=>(hw2 g hg).elim (fun e=>HPT.out g e) (fun e=>by have h1:=HB2.out.lt;have h2:=HBg.out.lt;have h3:=HMg.out.lt;simp at e;omega));obtain⟨o2,n2,c2,rfl,-,-,-⟩:=hown2.sl.len;clear hkg hown2 hw2 hg2 hE1 HBg HMg HOg HQg HPg;(refine WalkL.tk [9,10,11] ?_;(iterate 3 ((refine TkL.c _ ?_ (by simp only[gA,gS,gZ];rfl) (by kernel_rfl) (by kernel_rfl) (by kernel_rfl) (by rfl) (fun W hW=>?_) ?_;rotate_left;· (go_simp;try with_reducible rfl));simp only[Act.put,pA,pZ,pS]));refine TkL.n ?_)
  have hbf:=HB2.out.cells;have hbz:=HB2.out.free;refine WalkL.last (by kernel_rfl) (by kernel_rfl) ?_;refine⟨_,(by simp only[gA,gS,gZ];rfl),by rfl,fun K hK=>?_⟩;go_simp;refine hK.out _ _ ?_;clear hK hbf hbz;go_wp2_with fail
  go_ret
  refine⟨.slice o2 n2 c2,by rw[HNN.out];rfl,?_,?_⟩
  ·rw[HR.out];exact⟨HB2.out.set_to 4 _ rfl,HM2.out.same (Below.heap_setCell _ _ _ _ (fun e=>HM2.out.notCells _ _ _ (show w2.heap[am]?=_ from by rw[show am=wp from e];exact HB2.out))),HO2.out.keepOwn fun g hg=>Below.heap_setCell _ _ _ _ (HW2.out g hg).1⟩
  ·exact⟨HQ2.out.set (fun h=>h.2.1 rfl) _,HWH.out⟩
end Go.Proofs.YtjdigpfipmckhaaGreat
namespace Go.Proofs.YtjdigpfipmckhaaGreat
open Go Go.RowKit Go.Maps
open Classical in
section
variable {P : Program} {k t e : TypeId} {κ α : Type} {kv : κ -> Value} {ev : α -> Value} {w : World}
def MpO (P:Program)(k:TypeId)(kv:κ->Value)(ev:α->Value)(w:World):Option Nat->List (κ × α)->Prop
 | none,l=>l=[]
 | some b,l=>Mp P k kv ev w b l
theorem MpO.nodup {mb:Option Nat} {l:List (κ × α)} (h:MpO P k kv ev w mb l):(l.map (·.1)).Nodup:=by
 cases mb with
 | none=>obtain rfl:l=[]:=h;simp
 | some b=>exact Mp.nodup (show Mp P k kv ev w b l from h)
theorem MpO.below {w':World} {mb:Option Nat} {l:List (κ × α)} (h:MpO P k kv ev w mb l)(hb:Below w.heap.size w w'):MpO P k kv ev w' mb l:=by
 cases mb with
 | none=>exact h
 | some b=>exact Mp.below (show Mp P k kv ev w b l from h) hb
theorem MpO.same {w':World} {mb:Option Nat} {l:List (κ × α)} (h:MpO P k kv ev w mb l)(hb:∀ b,mb=some b->w'.heap[b]?=w.heap[b]?):MpO P k kv ev w' mb l:=by
 cases mb with
 | none=>exact h
 | some b=>exact Mp.same (show Mp P k kv ev w b l from h) (hb b rfl)
end
end Go.Proofs.YtjdigpfipmckhaaGreat
namespace Go.Proofs.YtjdigpfipmckhaaGreat
open Go Go.RowKit Go.Maps
abbrev NLG (κ ι:Type):=List (κ × Nat × List ι)
abbrev nVG {ι:Type}:Nat × List ι->Value:=fun x => .map (some x.1)
abbrev blG {ι:Type} (l:List ι):List (ι × Bool):=l.map fun p=>(p,true)
def innG {κ ι:Type} [DecidableEq κ] (l:NLG κ ι)(p:κ):List ι:=match lookA l p with | some x=>x.2 | none => []
structure NestG (P:Program)(ko k:TypeId) {κ ι:Type} (kvo:κ->Value)(kv:ι->Value)(w:World)(b:Nat)(l:NLG κ ι):Prop where
 top:Mp P ko kvo nVG w b l
 inner:∀ x∈l,Mp P k kv bV w x.2.1 (blG x.2.2)
 apart:(b::l.map (·.2.1)).Nodup
def nBG {κ ι:Type} (b:Nat)(l:NLG κ ι):List Nat:=b::l.map (·.2.1)
def mOG {κ ι:Type} [DecidableEq κ] (l:NLG κ ι)(q:κ):Option Nat:=(lookA l q).map (·.1)
theorem Mp.isMap {P:Program} {k:TypeId} {κ α:Type} {kv:κ->Value} {ev:α->Value} {w:World} {b:Nat} {l:List (κ × α)} (h:Mp P k kv ev w b l):∃ es c,w.heap[b]?=some (.map es c):=by
 obtain⟨es,c,h,_⟩:=h;exact⟨es,c,h⟩
theorem Mp.keyed {P:Program} {k:TypeId} {κ α:Type} {kv:κ->Value} {ev:α->Value} {w:World} {b:Nat} {l:List (κ × α)} (h:Mp P k kv ev w b l):∀ p∈l,∃ q,keyOf P k (kv p.1)=some q:=by
 obtain⟨_,_,_,_,_,h⟩:=h;exact h
theorem Mp.pairs {P:Program} {k:TypeId} {κ α:Type} {kv:κ->Value} {ev:α->Value} {w:World} {b:Nat} {l l':List (κ × α)} (h:Mp P k kv ev w b l)(he:l'.map (fun p=>(kv p.1,ev p.2))=l.map fun p=>(kv p.1,ev p.2))(hk:∀ p∈l',∃ q,keyOf P k (kv p.1)=some q):Mp P k kv ev w b l':=by
 obtain⟨es,c,h1,h2,h3,_⟩:=h;exact⟨es,c,h1,h2,h3.trans he.symm,hk⟩
theorem put_ghost {κ α β:Type} [DecidableEq κ] (f:κ × α->β) {a:κ} {x:α} (y:α)(hf:f (a,y)=f (a,x)):∀ {l:List (κ × α)},lookA l a=some x->(putA l a y).map f=l.map f
 | p::r,h=>by
  unfold lookA at h;unfold putA;by_cases hp:p.1=a
  ·rw[if_pos hp]at h ⊢;obtain rfl:p.2=x:=by simpa using h
   subst hp;simp[hf]
  ·rw[if_neg hp]at h ⊢;simp[put_ghost f y hf h]
section
variable {κ ι : Type} {P : Program} {ko k : TypeId} {kvo : κ -> Value} {kv : ι -> Value} {w w' : World} {b : Nat} {l : NLG κ ι}
theorem NestG.isMap (h:NestG P ko k kvo kv w b l):∀ x∈nBG b l,∃ es c,w.heap[x]?=some (.map es c):=by
 intro x hx;rcases List.mem_cons.1 hx with rfl | hx
 ·exact h.top.isMap
 ·obtain⟨e,he,rfl⟩:=List.mem_map.1 hx;exact(h.inner e he).isMap
theorem NestG.lt (h:NestG P ko k kvo kv w b l):∀ x∈nBG b l,x<w.heap.size:=fun x hx=>by
 obtain⟨es,c,hm⟩:=h.isMap x hx;exact(Array.getElem?_eq_some_iff.1 hm).1
theorem NestG.same (h:NestG P ko k kvo kv w b l)(hs:∀ x∈nBG b l,w'.heap[x]?=w.heap[x]?):NestG P ko k kvo kv w' b l :=
 ⟨h.top.same (hs b (by simp[nBG])),fun x hx=>(h.inner x hx).same (hs _ (by simp only[nBG];exact List.mem_cons_of_mem _ (List.mem_map.2 ⟨x,hx,rfl⟩))),h.apart⟩
theorem NestG.below (h:NestG P ko k kvo kv w b l)(hb:Below w.heap.size w w'):NestG P ko k kvo kv w' b l:=h.same fun x hx=>hb.block x (h.lt x hx)
theorem NestG.notBlk (h:NestG P ko k kvo kv w b l) {B:Nat} {cs:Array Value} {t:TypeId} (hB:Blk w B cs t):B∉nBG b l:=fun hx=>by
 obtain⟨es,c,hm⟩:=h.isMap B hx;rw[show w.heap[B]?=_ from hB]at hm;cases hm
variable [DecidableEq κ]
theorem NestG.look (h:NestG P ko k kvo kv w b l)(K:Keyed P ko)(inj:∀ a b,kvo a=kvo b->a=b) {t e:TypeId} (ht:P.underlying t=some (.map ko e))(hz:(zeroValue e).run P w = .ok (.map none) w) {q:κ} (hk:∃ z,keyOf P ko (kvo q)=some z) :
  (Instr.lookup t (.map (some b)) (kvo q) false).run P w = .ok (.map (mOG l q)) w:=by
 rw[h.top.look K inj ht hz false hk];unfold mOG lookV;cases lookA l q <;> rfl
theorem NestG.fresh (h:NestG P ko k kvo kv w b l) {q:κ} {bn:Nat} (hl:lookA l q=none)(hn:Mp P k kv bV w bn (blG []))(hb:bn∉nBG b l)(ht:Turned w w' b)(hm:Mp P ko kvo nVG w' b (putA l q (bn,[]))):NestG P ko k kvo kv w' b (putA l q (bn,[])):=by
 have hap:=h.apart;rw[put_miss (look_none_iff.1 hl)]at hm ⊢;refine⟨hm,fun x hx=>?_,?_⟩
 ·rcases List.mem_append.1 hx with hx | hx
  ·refine(h.inner x hx).same (ht.kept.block _ fun e=>?_);rw[List.nodup_cons]at hap;exact hap.1 (e▸List.mem_map.2 ⟨x,hx,rfl⟩)
  ·obtain rfl:x=(q,bn,[]):=by simpa using hx
   exact hn.same (ht.kept.block _ fun e=>hb (by simp[nBG,e]))
 ·rw[List.map_append,<- List.cons_append,List.nodup_append];refine⟨hap,by simp,fun x hx y hy=>?_⟩;obtain rfl:y=bn:=by simpa using hy
  rintro rfl;exact hb hx
theorem fresh_blocksG {q:κ} {bn:Nat} (hl:lookA l q=none):∀ x∈nBG b (putA l q (bn,[])),x∈nBG b l\/x=bn:=by
 rw[put_miss (look_none_iff.1 hl)];intro x hx;simp only[nBG,List.map_append,List.mem_cons,List.mem_append,List.map_cons,List.map_nil,List.not_mem_nil,or_false]at hx ⊢;rcases hx with h | h | h
 ·exact .inl (.inl h)
 ·exact .inl (.inr h)
 ·exact .inr h
theorem NestG.mark (h:NestG P ko k kvo kv w b l) {q:κ} {bi:Nat} {ss ss':List ι} (hl:lookA l q=some (bi,ss))(ht:Turned w w' bi)(hm:Mp P k kv bV w' bi (blG ss')):NestG P ko k kvo kv w' b (putA l q (bi,ss')):=by
 have hmem:=look_mem hl;have hap:=h.apart
 have hbn:b≠bi:=fun e=>by
  rw[List.nodup_cons]at hap;exact hap.1 (e▸List.mem_map.2 ⟨_,hmem,rfl⟩)
 refine⟨?_,fun x hx=>?_,?_⟩
 ·refine Mp.pairs (h.top.same (ht.kept.block _ hbn)) (put_ghost (x:=(bi,ss)) _ (bi,ss') rfl hl) fun x hx=>?_;rcases put_keys_mem _ _ _ hx with rfl | hx
  ·have:=h.top.keyed _ hmem;exact this
  ·exact h.top.keyed _ hx
 ·by_cases hxb:x.2.1=bi
  ·have hnd:(l.map (·.2.1)).Nodup:=(List.nodup_cons.1 hap).2
   have hx2:x=(q,bi,ss'):=by
    have hkn:=h.top.nodup;rw[show putA l q (bi,ss')=l.map (fun e=>if e.1=q then(q,bi,ss')else e)from ?_]at hx
    ·obtain⟨e,he,rfl⟩:=List.mem_map.1 hx;by_cases heq:e.1=q
     ·simp[heq]
     ·simp only[heq,if_false]at hxb ⊢;exfalso
      obtain⟨i,hi,hie⟩:=List.getElem_of_mem he;obtain⟨j,hj,hje⟩:=List.getElem_of_mem hmem
      have hij:i=j:=by
       have h1:(l.map (·.2.1))[i]'(by simpa using hi)=(l.map (·.2.1))[j]'(by simpa using hj):=by simp[hie,hje,hxb]
       have hpw:=List.pairwise_iff_getElem.1 hnd;rcases Nat.lt_trichotomy i j with hlt | heq' | hlt
       ·exact absurd h1 (hpw i j _ _ hlt)
       ·exact heq'
       ·exact absurd h1.symm (hpw j i _ _ hlt)
      subst hij;rw[hie]at hje;exact heq (by rw[hje])
    ·clear hx hxb hnd hap hmem hbn ht hm h;induction l with
     | nil=>simp[lookA]at hl
     | cons e r ih =>
      simp only[List.map_cons,List.nodup_cons]at hkn;unfold lookA at hl;unfold putA;by_cases he:e.1=q
      ·rw[if_pos he,List.map_cons,if_pos he];congr 1
       rw[eq_comm];conv=>rhs;rw[<- List.map_id r]
       refine List.map_congr_left fun y hy=>?_;rw[if_neg (fun hyq=>hkn.1 (by rw[he,<- hyq];exact List.mem_map.2 ⟨y,hy,rfl⟩))];rfl
      ·rw[if_neg he]at hl ⊢;rw[List.map_cons,if_neg he,ih hl hkn.2]
   subst hx2;exact hm
  ·rcases put_keys_mem _ _ _ hx with rfl | hx
   ·exact absurd rfl hxb
   ·exact(h.inner x hx).same (ht.kept.block _ hxb)
 ·rw[put_ghost (x:=(bi,ss)) (fun e:κ × Nat × List ι=>e.2.1) (bi,ss') rfl hl];exact hap
theorem mark_blocksG {q:κ} {bi:Nat} {ss ss':List ι} (hl:lookA l q=some (bi,ss)):nBG b (putA l q (bi,ss'))=nBG b l:=by
 unfold nBG;rw[put_ghost (x:=(bi,ss)) (fun e:κ × Nat × List ι=>e.2.1) (bi,ss') rfl hl]
end
structure O2 where
 t:ByteArray
 i:ByteArray
deriving DecidableEq
def oV (o:O2):Value := .agg #[.string o.t,.string o.i]
theorem oV_inj (a b:O2)(h:oV a=oV b):a=b:=by
 obtain⟨a1,a2⟩:=a;obtain⟨b1,b2⟩:=b;simpa [oV] using h
def O2.Ok (o:O2):Prop:=o.t.size<=maxLen/\o.i.size<=maxLen
theorem objK:Keyed Tryz.prog 28:=Keyed.of_law (deep_law_laid laidOut (m:=3) (by decide) (of_decide_eq_true (by kernel_rfl)) (by kernel_rfl) (by kernel_rfl))
theorem obj_key (o:O2)(h:o.Ok):∃ q,keyOf Tryz.prog 28 (oV o)=some q:=by
 obtain⟨d,hd⟩:=types_many;have e:=obj_lits (d+1+1) o.t o.i h.1 h.2;have e2:(Tryz.prog.keyType 28&&(oV o).formed Tryz.prog 28)=true:=by kernel_rfl
 have hs:Tryz.prog.types.size+1=d+1+1+1+1:=by omega
 unfold keyOf;rw[Tryz.underlying28];dsimp only;rw[if_pos e2,hs];rw[show(oV o).cells.toList=[.string o.t,.string o.i]from rfl,e];exact⟨_,rfl⟩
def P3.obj (p:P3):O2:=⟨p.t,p.i⟩
def subE:Elm P3:=⟨63,3,pC,pC_length,by decide⟩
def pntE:Elm P3:=⟨30,3,pC,pC_length,by decide⟩
def pointsOf (T:List Tup)(s:P3):List P3:=(T.filter fun t=>decide (t.s=s)).map (·.o)
def ObjIn (T:List Tup)(o:O2):Prop:=∃ t∈T,t.o.obj=o\/t.s.obj=o
theorem subsOf_snoc (T:List Tup)(t:Tup)(p:P3):subsOf (T++[t]) p=if t.o=p then subsOf T p++[t.s]else subsOf T p:=by
 unfold subsOf;rw[List.filter_append,List.map_append];by_cases h:t.o=p
 ·simp[h]
 ·simp[h]
theorem pointsOf_snoc (T:List Tup)(t:Tup)(p:P3):pointsOf (T++[t]) p=if t.s=p then pointsOf T p++[t.o]else pointsOf T p:=by
 unfold pointsOf;rw[List.filter_append,List.map_append];by_cases h:t.s=p
 ·simp[h]
 ·simp[h]
abbrev OL:=NLG ByteArray O2
abbrev ONest (w:World) (b:Nat) (l:OL):Prop:=NestG Tryz.prog 9 28 Value.string oV w b l
structure BkOf (w:World)(B b m1 m2 m3:Nat)(l:OL)(T:List Tup):Prop where
 box:Blk w b #[.map (some m1),.map (some m2),.map (some m3)] 123
 subs:MR Tryz.prog 30 pV subE w B m1 (subsOf T)
 pnts:MR Tryz.prog 63 pV pntE w B m2 (pointsOf T)
 objs:ONest w m3 l
 ne:m1≠m2/\m1∉nBG m3 l/\m2∉nBG m3 l
 what:∀ typ o,o∈innG l typ↔o.t=typ/\ObjIn T o
def BookAt (w:World)(b:Nat)(T:List Tup):Prop:=∃ B m1 m2 m3 l,BkOf w B b m1 m2 m3 l T
section
variable {w w' : World} {B b m1 m2 m3 : Nat} {l : OL} {T : List Tup}
theorem BkOf.ext (h:BkOf w B b m1 m2 m3 l T)(hx:Ext w w'):BkOf w' B b m1 m2 m3 l T:=⟨h.box.below hx,h.subs.up hx,h.pnts.up hx,h.objs.below hx,h.ne,h.what⟩
theorem BookAt.ext (h:BookAt w b T)(hx:Ext w w'):BookAt w' b T:=by
 obtain⟨B,m1,m2,m3,l,h⟩:=h;exact⟨B,m1,m2,m3,l,h.ext hx⟩
theorem BookAt.lt (h:BookAt w b T):b<w.heap.size:=by
 obtain⟨B,m1,m2,m3,l,h⟩:=h;exact h.box.lt
end
set_option maxRecDepth 100000 in
set_option maxHeartbeats 1000000 in
theorem cloneU_own {S:Nat->Prop} (v:Value)(bs:List P3)(w:World)(hSw:∀ b,S b->b<w.heap.size)(h:Sl S w 3 v (pcs bs))(hl:bs.length<=1073741824) :
  Calls Tryz.prog 235 #[v] w fun e w'=>∃ v',e = .returned v'/\Own w' w.heap.size 63 3 v' (pcs bs)/\Ext w w':=by
 have HS:=h! h;have HL:=h! hl;obtain⟨ao,n,c,rfl,hn,hnc,hcm,hnil,-⟩:=h;rw[pcs_length]at hn;obtain rfl:n=bs.length:=by omega
 rcases ao with _ | ad
 ·obtain rfl:c=0:=hnil rfl;obtain rfl:bs=[]:=List.eq_nil_of_length_eq_zero (by omega);simp only[List.length_nil]at *;have hq:∀ W,(binOp BinOp.eql 52 (.slice none 0 0) (.slice none 0 0)).run Tryz.prog W = .ok (.bool true) W:=fun _=>by kernel_rfl
  go_enter Tryz.func235,Tryz.ntmps235
  go_wp2_with fail
  go_ret
  exact⟨_,rfl,Own.nil _ _ _ _,Ext.refl _⟩
 ·have hq:∀ W,(binOp BinOp.eql 52 (.slice (some ad) bs.length c) (.slice none 0 0)).run Tryz.prog W = .ok (.bool false) W:=fun _=>by kernel_rfl
  have HO:=h! (Own.made w (Nat.le_refl _) 63 3);have HX:=h! (Ext.alloc w (.cells #[] 63));have HS1:=h! (HS.out.same (w':=w.alloc (.cells #[] 63)) ((Same.below HX.out).mono hSw));go_enter Tryz.func235,Tryz.ntmps235
  go_wp2_with (at_builtin;go_must (refine wpList_own2 subsT rfl (.tmp 5) (.tmp 6) rfl rfl HO.out rfl HS1.out (pcs_one _) (by have:=HL.out;rw[pcs_length];simp only[List.length_nil];omega) (by have:=HL.out;rw[pcs_length];simp only[List.length_nil];omega) (by simp) ?_;intro v5 w5 hown5 hb5 _;have HF:=h! (show Own w5 w.heap.size 63 3 v5 (pcs bs)from by rw[List.nil_append]at hown5;exact hown5);have HX5:=h! (show Ext w w5 from Below.trans HX.out hb5);obtain⟨ao5,n5,c5,rfl,-,-,-⟩:=hown5.sl.len;clear hown5 hb5))
  go_ret
  exact⟨_,rfl,HF.out,HX5.out⟩
theorem Own.low {w:World} {B B':Nat} {e:TypeId} {sz:Nat} {v:Value} {xs:List Value} (h:Own w B e sz v xs)(hb:B'<=B):Own w B' e sz v xs:=by
 obtain⟨n,h⟩:=h;refine⟨n,h.1,?_⟩;rcases h.2 with hn | ⟨g,cap,cur,rfl,hbg,r⟩
 ·exact .inl hn
 ·exact .inr ⟨g,cap,cur,rfl,by omega,r⟩
theorem Ext.sameSet {w w2:World} {B i:Nat} {cs:Array Value} {e:TypeId} {v:Value} (h:Ext w w2)(hb:Blk w2 B cs e)(hi:cs.setIfInBounds i v=cs):Ext w (w2.setCell ⟨B,i,none⟩ v) :=
 ⟨h.os,h.tape,h.output,by have:=h.size;simpa using this,fun b hl=>by
  by_cases hbB:b=B
  ·subst hbB;rw[show(w2.setCell ⟨b,i,none⟩ v).heap[b]?=_ from hb.set_to i v hi,<- h.block b hl];exact hb.symm
  ·exact(Below.heap_setCell _ _ _ b hbB).trans (h.block b hl)⟩
theorem MR.lookE {P:Program} {k:TypeId} {κ ι:Type} [DecidableEq κ] {kv:κ->Value} {E:Elm ι} {w:World} {B b:Nat} {f:κ->List ι} (h:MR P k kv E w B b f)(K:Keyed P k)(inj:∀ a b,kv a=kv b->a=b) {t e:TypeId} (ht:P.underlying t=some (.map k e))(hz:∀ W,(zeroValue e).run P W = .ok (.slice none 0 0) W) {n:κ} (hn:∃ q,keyOf P k (kv n)=some q) :
  ∃ v,(∀ W,Ext w W->(Instr.lookup t (.map (some b)) (kv n) false).run P W = .ok v W)/\Own w B E.e E.sz v ((f n).flatMap E.enc):=by
 obtain⟨v,_,ho,lw,hM,_,_,hl⟩:=h.look K inj ht (hz w) hn;refine⟨v,fun W hW=>?_,ho⟩;rw[(hM.below hW).look K inj ht (hz W) false hn];rcases hl with hl | ⟨hl,-,rfl⟩ <;> rw[hl] <;> rfl
set_option maxRecDepth 100000 in
set_option maxHeartbeats 1600000 in
theorem bookSubs_any (b:Nat)(T:List Tup)(p:P3)(w:World)(hp:p.Ok)(h:BookAt w b T)(hl:(subsOf T p).length<=1073741824) :
  Calls Tryz.prog 234 #[.pointer (some ⟨b,0,none⟩),pV p] w fun e w'=>∃ v,e = .returned (.tuple #[v,.int .i64 0])/\Own w' w.heap.size 63 3 v (pcs (subsOf T p))/\Ext w w':=by
 obtain⟨B,m1,m2,m3,l,h⟩:=h;have HL:=h! hl;have HK:=h! (point_key p hp);have HS0:=h! h.subs;have HB0:=h! h.box;generalize hsl:subsOf T p=sl at *;have HSL:=h! hsl;clear hsl;obtain⟨pt,pi,pr⟩:=p;have hx1:=Ext.alloc w (.cells #[.string pt,.string pi,.string pr] 30);have HP1:=h! (Blk.made w #[.string pt,.string pi,.string pr] 30);have HX1:=h! hx1;clear hx1 h hp hl;unfold pV;dsimp only;go_enter Tryz.func234,Tryz.ntmps234
 go_wp2_with fail
 obtain⟨wd,hwd⟩:∃ wd,wd=(w.alloc (.cells #[.string pt,.string pi,.string pr] 30)).drew:=⟨_,rfl⟩;have HPd:=h! (show Blk wd w.heap.size #[.string pt,.string pi,.string pr] 30 from by rw[hwd];exact HP1.out.drew);have HXd:=h! (show Ext w wd from by rw[hwd];exact HX1.out.trans (Ext.drew _));refine region_walkN (Ext wd) (by rw[<- hwd];exact Ext.refl _) (by kernel_rfl) (by kernel_rfl) (fun _ _ d _ _ h=>by cases d <;> exact h) ?_;rw[<- hwd];clear hwd HP1 HX1;have h1:=fun W (h:Ext wd W)=>((HB0.out.below HXd.out).below h).cells;have h2:=fun W (h:Ext wd W)=>(HPd.out.below h).cells;obtain⟨v,hlook,hv⟩:=(HS0.out.up HXd.out).lookE pointK pV_inj Tryz.underlying119 Tryz.zeroValue52 HK.out;have HV:=h! (show Own wd B 63 3 v (pcs sl)from by rw[<- HSL.out];exact hv);unfold pV at hlook;dsimp only at hlook;clear hv;(refine WalkN.tk [0,1,2,3,4,5] ?_;(iterate 6 ((refine TkN.c _ ?_ (by simp only[gA,gS,gZ];rfl) (by kernel_rfl) (by kernel_rfl) (by rfl) (fun W hW=>?_) ?_;rotate_left;· (go_simp;try with_reducible rfl));simp only[Act.put,pA,pZ,pS]));refine TkN.n ?_)
 clear h1 h2 hlook;refine WalkN.one 6 (by kernel_rfl) ?_;refine⟨_,(by simp only[gA,gS,gZ];rfl),by rfl,fun K hK=>?_⟩;go_simp;refine(cloneU_own v sl wd (fun x hx=>hx.2) HV.out.sl HL.out).mono ?_;rintro e w2 ⟨v2,rfl,ho2,hx2⟩;have HO2:=h! ho2;have HX2:=h! hx2;refine hK.out _ _ hx2 ?_;clear hK hx2;obtain⟨ao,n,c,rfl,-,-,-⟩:=ho2.sl.len;clear ho2;(refine WalkN.tk [7,8] ?_;(iterate 2 ((refine TkN.c _ ?_ (by simp only[gA,gS,gZ];rfl) (by kernel_rfl) (by kernel_rfl) (by rfl) (fun W hW=>?_) ?_;rotate_left;· (go_simp;try with_reducible rfl));simp only[Act.put,pA,pZ,pS]));refine TkN.n ?_)
 refine WalkN.done (by kernel_rfl) ?_;go_wp2_with fail
 go_ret2
 exact⟨_,rfl,HO2.out.low (HXd.out.size),HXd.out.trans HX2.out⟩
abbrev bkV (b:Nat):Value := .iface 41 (.pointer (some ⟨b,0,none⟩))
set_option maxRecDepth 100000 in
set_option maxHeartbeats 1600000 in
theorem wsubs_any (wp am B b:Nat)(tv sm pv fv:Value)(T:List Tup)(ps:List P3)(p:P3)(w:World)(hp:p.Ok)(h:WkAt w wp am B tv (bkV b) sm ps pv fv)(hb:BookAt w b T)(hl:(subsOf T p).length<=1073741824) :
  Calls Tryz.prog 107 #[.pointer (some ⟨wp,0,none⟩),pV p] w fun e w'=>∃ v,e = .returned v/\Own w' w.heap.size 63 3 v (pcs (subsOf T p))/\Ext w w':=by
 have HL:=h! hl;have HOK:=h! hp;have HSB:=h! (fun W (hW:Ext w W)=>bookSubs_any b T p W hp (hb.ext hW) hl);generalize hsl:subsOf T p=sl at *;obtain⟨pt,pi,pr⟩:=p;have hx1:=Ext.alloc w (.cells #[.string pt,.string pi,.string pr] 30);have HB1:=h! (h.box.below hx1);have HP1:=h! (Blk.made w #[.string pt,.string pi,.string pr] 30);have HX1:=h! hx1;clear hx1 h hb hp hl hsl;unfold pV at *;dsimp only at *;go_enter Tryz.func107,Tryz.ntmps107
 go_wp2_with fail
 obtain⟨wd,hwd⟩:∃ wd,wd=(w.alloc (.cells #[.string pt,.string pi,.string pr] 30)).drew:=⟨_,rfl⟩;have HBd:=h! (show Blk wd wp _ _ from by rw[hwd];exact HB1.out.drew);have HPd:=h! (show Blk wd w.heap.size #[.string pt,.string pi,.string pr] 30 from by rw[hwd];exact HP1.out.drew);have HXd:=h! (show Ext w wd from by rw[hwd];exact HX1.out.trans (Ext.drew _));refine region_walkN (Ext wd) (by rw[<- hwd];exact Ext.refl _) (by kernel_rfl) (by kernel_rfl) (fun _ _ d _ _ h=>by cases d <;> exact h) ?_;rw[<- hwd];clear hwd HP1 HX1 HB1;have h1:=fun W (h:Ext wd W)=>(HBd.out.below h).cells;have h2:=fun W (h:Ext wd W)=>(HPd.out.below h).cells;(refine WalkN.tk [0,1,2,3,4] ?_;(iterate 5 ((refine TkN.c _ ?_ (by simp only[gA,gS,gZ];rfl) (by kernel_rfl) (by kernel_rfl) (by rfl) (fun W hW=>?_) ?_;rotate_left;· (go_simp;try with_reducible rfl));simp only[Act.put,pA,pZ,pS]));refine TkN.n ?_)
 clear h1 h2;refine WalkN.one 5 (by kernel_rfl) ?_;refine⟨_,(by simp only[gA,gS,gZ];rfl),by rfl,fun K hK=>?_⟩;go_simp;refine(HSB.out wd HXd.out).mono ?_;rintro e w2 ⟨v2,rfl,ho2,hx2⟩;have HO2:=h! ho2;have HX2:=h! hx2;refine hK.out _ _ hx2 ?_;clear hK hx2;obtain⟨ao,n,c,rfl,-,-,-⟩:=ho2.sl.len;clear ho2;(refine WalkN.tk [6,7,8,9,10] ?_;(iterate 5 ((refine TkN.c _ ?_ (by simp only[gA,gS,gZ];rfl) (by kernel_rfl) (by kernel_rfl) (by rfl) (fun W hW=>?_) ?_;rotate_left;· (go_simp;try with_reducible rfl));simp only[Act.put,pA,pZ,pS]));refine TkN.n ?_)
 refine WalkN.done (by kernel_rfl) ?_;have HB2:=h! (HBd.out.below HX2.out);have hb2:=HB2.out.cells;have hz2:=HB2.out.free;have HXE:=h! ((HXd.out.trans HX2.out).sameSet (i:=6) (v := .int .i64 0) HB2.out rfl)
 have HOE:=h! ((HO2.out.low HXd.out.size).keepOwn (w':=w2.setCell ⟨wp,6,none⟩ (.int .i64 0)) fun g hg=>Below.heap_setCell _ _ _ g fun e=>by
  obtain⟨cur,h3⟩:=HO2.out.typed hg;have h4:=HB2.out;rw[show g=wp from e]at h3;rw[show w2.heap[wp]?=_ from h4]at h3;injection h3 with h3
  injection h3 with _ h3 _
  exact absurd h3 (by decide))
 clear HO2 HX2 HBd HPd;go_wp2_with fail
 go_ret
 exact⟨_,rfl,HOE.out,HXE.out⟩
end Go.Proofs.YtjdigpfipmckhaaGreat
