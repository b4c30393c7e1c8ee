/- Lemmas for the claim, no condition. -/
import Derived.Shelf.SlSortCmp.WholeK
import Derived.Shelf.SlSortCmp.NoneTotal
import Derived.Ground.SlsfProg
import Derived.Test.YtlhaghoajpglaaaGreatProg
import Derived.Test.YtlhaghoajpglaaaGreatYBuMany0
import Derived.Test.YtlhaghoajpglaaaGreatYBuMany3
import Derived.Test.YtlhaghoajpglaaaGreatYBuMany2
import Derived.Test.YtlhaghoajpglaaaGreatYBuMany1
set_option maxRecDepth 100000
set_option maxHeartbeats 2000000
namespace Go.Proofs.YtlhaghoajpglaaaGreat
open Go Go.RowKit
def ic (l:List Int):List Value:=l.map fun n => .int .i64 n
theorem ic_append (a b:List Int):ic (a++b)=ic a++ic b:=by simp[ic]
theorem ic_length (a:List Int):(ic a).length=a.length:=by simp[ic]
theorem ic_one (l:List Int):∀ u∈ic l,u.oneCell'=true:=by
 intro u hu;obtain⟨s,_,rfl⟩:=List.mem_map.1 hu;rfl
theorem intsT:ElemT Tryz.prog 107 3 1 8:=ElemT.mk' Tryz.underlying107 (show _=some (some (.int .i64 0),1,8)by kernel_rfl) rfl (by decide)
theorem Sl.ints {S:Nat->Prop} {w:World} {v:Value} {l:List Int} (h:Sl S w 1 v (ic l)):∃ ao c,v = .slice ao l.length c/\l.length<=c/\c<=9223372036854775807/\∀ j,(hj:j<l.length)->∃ b off,ao=some ⟨b,off,none⟩/\S b/\w.cell? ⟨b,off+j,none⟩=some (.int .i64 l[j]):=by
 obtain⟨ao,n,c,rfl,h1,h2,h3,h4,h5⟩:=h;rw[ic_length,Nat.mul_one]at h1;subst h1;refine⟨ao,c,rfl,h2,by have e:maxLen=9223372036854775807:=rfl;omega,fun j hj=>?_⟩;obtain⟨b,off,rfl,hb,hc⟩:=h5 (by intro e;have:=congrArg List.length e;rw[ic_length,List.length_nil]at this;omega);exact⟨b,off,rfl,hb,hc j _ (by simp[ic,hj])⟩
abbrev FV3:=Value × Value × Value
def fC (x:FT × FV3):List Value:=[.int .i64 x.1.k,x.2.1,x.2.2.1,x.2.2.2]
theorem fC_length (x:FT × FV3):(fC x).length=4:=rfl
mutual
def FTAt (S:Nat->Prop)(w:World):FT->FV3->Prop
 | .mk _ subs refs ps,v=>Sl S w 3 v.1 (pcs subs)/\Sl S w 1 v.2.1 (ic refs)/\∃ l:List FV3,FTsAt S w ps l/\Sl S w 4 v.2.2 ((ps.zip l).flatMap fC)
def FTsAt (S:Nat->Prop)(w:World):List FT->List FV3->Prop
 | [],l=>l=[]
 | r::rs,l=>∃ pv l',l=pv::l'/\FTAt S w r pv/\FTsAt S w rs l'
end
theorem ftsAt_zip {S:Nat->Prop} {w:World}:∀ {ps:List FT} {l:List FV3},FTsAt S w ps l->(ps.zip l).map (·.1)=ps/\∀ x∈ps.zip l,FTAt S w x.1 x.2
 | [],l,h=>by rw[FTsAt]at h;subst h;simp
 | r::rs,l,h=>by
  rw[FTsAt]at h;obtain⟨pv,l',rfl,h1,h2⟩:=h;obtain⟨h3,h4⟩:=ftsAt_zip h2;refine⟨by rw[List.zip_cons_cons,List.map_cons,h3],fun x hx=>?_⟩;rw[List.zip_cons_cons]at hx;rcases List.mem_cons.1 hx with rfl | hx
  ·exact h1
  ·exact h4 x hx
theorem ftsAt_of {S:Nat->Prop} {w:World}:∀ {q:List (FT × FV3)},(∀ x∈q,FTAt S w x.1 x.2)->FTsAt S w (q.map (·.1)) (q.map (·.2))
 | [],_=>by rw[List.map_nil,List.map_nil,FTsAt]
 | x::q,h=>by
  rw[List.map_cons,List.map_cons,FTsAt];exact⟨x.2,_,rfl,h x List.mem_cons_self,ftsAt_of fun y hy=>h y (List.mem_cons_of_mem _ hy)⟩
theorem FTAt.iff {S:Nat->Prop} {w:World} (r:FT)(v:FV3):FTAt S w r v↔Sl S w 3 v.1 (pcs r.subs)/\Sl S w 1 v.2.1 (ic r.refs)/\∃ q:List (FT × FV3),q.map (·.1)=r.ps/\(∀ x∈q,FTAt S w x.1 x.2)/\Sl S w 4 v.2.2 (q.flatMap fC):=by
 obtain⟨k,subs,refs,ps⟩:=r;rw[FTAt];constructor
 ·rintro⟨h1,h2,l,h3,h4⟩;exact⟨h1,h2,_,(ftsAt_zip h3).1,(ftsAt_zip h3).2,h4⟩
 ·rintro⟨h1,h2,q,h3,h4,h5⟩;refine⟨h1,h2,q.map (·.2),?_,?_⟩
  ·have:=ftsAt_of h4;rwa[h3]at this
  ·rw[show ps=q.map (·.1)from h3.symm,zip_maps];exact h5
theorem FTAt.same {S:Nat->Prop} {w w':World} {r:FT} {v:FV3} (h:FTAt S w r v)(hs:Same S w w'):FTAt S w' r v:=by
 induction r using FT.ind generalizing v with
 | h r ih =>
  obtain⟨h1,h2,q,h3,h4,h5⟩:=(FTAt.iff r v).1 h;exact(FTAt.iff r v).2 ⟨h1.same hs,h2.same hs,q,h3,fun x hx=>ih x.1 (by rw[<- h3];exact List.mem_map_of_mem hx) (h4 x hx),h5.same hs⟩
theorem FTAt.mono {S S':Nat->Prop} {w:World} {r:FT} {v:FV3} (h:FTAt S w r v)(hs:∀ b,S b->S' b):FTAt S' w r v:=by
 induction r using FT.ind generalizing v with
 | h r ih =>
  obtain⟨h1,h2,q,h3,h4,h5⟩:=(FTAt.iff r v).1 h;exact(FTAt.iff r v).2 ⟨h1.mono hs,h2.mono hs,q,h3,fun x hx=>ih x.1 (by rw[<- h3];exact List.mem_map_of_mem hx) (h4 x hx),h5.mono hs⟩
theorem FTAt.up {w w':World} {r:FT} {v:FV3} (h:FTAt (· < w.heap.size) w r v)(hb:Below w.heap.size w w'):FTAt (· < w'.heap.size) w' r v :=
 (h.same (Same.below hb)).mono fun _ h=>Nat.lt_of_lt_of_le h hb.size
theorem FTAt.rows {S:Nat->Prop} {w:World} {r:FT} {v:FV3} (h:FTAt S w r v) :
  ∃ ao c,v.2.2 = .slice ao r.ps.length c/\r.ps.length<=c/\c<=9223372036854775807/\∀ i (hi:i<r.ps.length),∃ b off pv,ao=some ⟨b,off,none⟩/\S b /\
   w.cell? ⟨b,off+i*4,none⟩=some (.int .i64 r.ps[i].k)/\w.cell? ⟨b,off+i*4+1,none⟩=some pv.1/\w.cell? ⟨b,off+i*4+2,none⟩=some pv.2.1/\w.cell? ⟨b,off+i*4+3,none⟩=some pv.2.2/\FTAt S w r.ps[i] pv:=by
 obtain⟨-,-,q,h1,h2,h3⟩:=(FTAt.iff r v).1 h;have hlen:q.length=r.ps.length:=by rw[<- h1,List.length_map]
 obtain⟨ao,c,e,h4,h5,hc⟩:=Sl.rows fC_length (by decide) h3;refine⟨ao,c,by rw[e,hlen],by omega,h5,fun i hi=>?_⟩;have hiq:i<q.length:=by omega
 obtain⟨b,off,rfl,hb,hc⟩:=hc (by omega);have hget:r.ps[i]=q[i].1:=by simp only[<- h1,List.getElem_map]
 rw[hget];exact⟨b,off,q[i].2,rfl,hb,hc i hiq 0 _ rfl,hc i hiq 1 _ rfl,hc i hiq 2 _ rfl,hc i hiq 3 _ rfl,h2 _ (List.getElem_mem hiq)⟩
def fV (r:FT)(v:FV3):Value := .agg #[.int .i64 r.k,v.1,v.2.1,v.2.2]
theorem pointsT:ElemT Tryz.prog 59 32 3 48:=ElemT.mk' Tryz.underlying59 (show _=some (some (.agg #[.string ByteArray.empty,.string ByteArray.empty,.string ByteArray.empty]),3,48)by kernel_rfl) rfl (by decide)
theorem subsT:ElemT Tryz.prog 42 33 3 48:=ElemT.mk' Tryz.underlying42 (show _=some (some (.agg #[.string ByteArray.empty,.string ByteArray.empty,.string ByteArray.empty]),3,48)by kernel_rfl) rfl (by decide)
theorem pcs_length (l:List P3):(pcs l).length=3*l.length:=by
 unfold pcs;induction l with
 | nil=>rfl
 | cons a r ih=>rw[List.flatMap_cons,List.length_append,ih,pC_length,List.length_cons];omega
theorem pcs_one (l:List P3):∀ u∈pcs l,u.oneCell'=true:=by
 intro u hu;obtain⟨a,_,ha⟩:=List.mem_flatMap.1 hu;exact pC_one a u ha
theorem pcs_append (a b:List P3):pcs (a++b)=pcs a++pcs b:=List.flatMap_append
theorem pcs_single (a:P3):pcs [a]=pC a:=by simp[pcs]
end Go.Proofs.YtlhaghoajpglaaaGreat
namespace Go.Proofs.YtlhaghoajpglaaaGreat
open Go Go.RowKit Go.Maps
def tuC (t:Tup):List Value:=[.string t.o.t,.string t.o.i,.string t.o.r,.string t.s.t,.string t.s.i,.string t.s.r]
def tuCs (l:List Tup):List Value:=l.flatMap tuC
theorem tuC_length (t:Tup):(tuC t).length=6:=rfl
theorem tuCs_length (l:List Tup):(tuCs l).length=l.length*6:=flat_length tuC_length l
theorem tuCs_append (a b:List Tup):tuCs (a++b)=tuCs a++tuCs b:=by unfold tuCs;rw[List.flatMap_append]
theorem tupT:ElemT Tryz.prog 27 67 6 96:=ElemT.mk' Tryz.underlying27 (show _=some (some (.agg #[.string ByteArray.empty,.string ByteArray.empty,.string ByteArray.empty,.string ByteArray.empty,.string ByteArray.empty,.string ByteArray.empty]),6,96)by kernel_rfl) rfl (by decide)
theorem tups_rows {S:Nat->Prop} {w:World} {v:Value} {l:List Tup} (h:Sl S w 6 v (tuCs l)) :
  ∃ ao c,v = .slice ao l.length c/\l.length<=c/\c<=9223372036854775807/\∀ i (hi:i<l.length),∃ b off,ao=some ⟨b,off,none⟩/\S b/\w.cell? ⟨b,off+i*6,none⟩=some (.string l[i].o.t)/\w.cell? ⟨b,off+i*6+1,none⟩=some (.string l[i].o.i)/\w.cell? ⟨b,off+i*6+2,none⟩=some (.string l[i].o.r) /\
   w.cell? ⟨b,off+i*6+3,none⟩=some (.string l[i].s.t)/\w.cell? ⟨b,off+i*6+4,none⟩=some (.string l[i].s.i)/\w.cell? ⟨b,off+i*6+5,none⟩=some (.string l[i].s.r):=by
 obtain⟨ao,c,rfl,h1,h2,hc⟩:=Sl.rows tuC_length (by decide) (show Sl S w 6 v (l.flatMap tuC)from h);refine⟨ao,c,rfl,h1,h2,fun i hi=>?_⟩;obtain⟨b,off,rfl,hb,hc⟩:=hc (by omega);exact⟨b,off,rfl,hb,hc i hi 0 _ rfl,hc i hi 1 _ rfl,hc i hi 2 _ rfl,hc i hi 3 _ rfl,hc i hi 4 _ rfl,hc i hi 5 _ rfl⟩
theorem tup_neq (a b:Tup)(W:World):(binOp BinOp.neq 67 (tV a) (tV b)).run Tryz.prog W = .ok (.bool (decide (a≠b))) W:=by
 obtain⟨⟨a1,a2,a3⟩,⟨a4,a5,a6⟩⟩:=a;obtain⟨⟨b1,b2,b3⟩,⟨b4,b5,b6⟩⟩:=b;unfold tV;dsimp only;go_simp;simp only[ba_toList];by_cases h1:a1=b1
 ·by_cases h2:a2=b2
  ·by_cases h3:a3=b3
   ·by_cases h4:a4=b4
    ·by_cases h5:a5=b5
     ·by_cases h6:a6=b6 <;> simp[h1,h2,h3,h4,h5,h6]
     ·simp[h1,h2,h3,h4,h5]
    ·simp[h1,h2,h3,h4]
   ·simp[h1,h2,h3]
  ·simp[h1,h2]
 ·simp[h1]
end Go.Proofs.YtlhaghoajpglaaaGreat
namespace Go.Proofs.YtlhaghoajpglaaaGreat
open Go Go.RowKit
def ahead (ops:Array Oper):Nat->Nat->Nat->Bool
 | 0,_,_=>false
 | f+1,i,j=>match ops[j]? with
  | some o=>o.after.any fun e=>Region.binds .any e&&(e.on == i||ahead ops f i e.on)
  | none=>false
def Closed (ops:Array Oper)(l:Array Bool):Prop :=
 ∀ j o,ops[j]?=some o->l.getD j false=true->∀ e∈o.after,Region.binds .any e=true->l.getD e.on false=true
theorem ahead_listed {ops:Array Oper} {l:Array Bool} (hc:Closed ops l):∀ (f i j:Nat),ahead ops f i j=true ->
  (∀ o,ops[j]?=some o->∀ e∈o.after,Region.binds .any e=true->l.getD e.on false=true)->l.getD i false=true
 | 0,_,_,h,_=>by simp[ahead]at h
 | f+1,i,j,h,hl=>by
  unfold ahead at h;cases ho:ops[j]? with
  | none=>rw[ho]at h;simp at h
  | some o =>
   rw[ho]at h;simp only[Array.any_eq_true',Bool.and_eq_true,Bool.or_eq_true,beq_iff_eq]at h;obtain⟨e,he,hb,h⟩:=h;have h1:=hl o ho e he hb;rcases h with h | h
   ·exact h▸h1
   ·exact ahead_listed hc f i e.on h fun o' ho' e' he' hb'=>hc _ o' ho' h1 e' he' hb'
theorem Closed.set {ops:Array Oper} {l:Array Bool} (hc:Closed ops l) {j:Nat} (hj:j∈Region.ready .any ops l):Closed ops (l.setIfInBounds j true):=by
 intro k o ho hk e he hb;refine getD_set_true ?_;by_cases hkj:k=j
 ·subst hkj;obtain⟨_,o',ho',hall⟩:=mem_ready.1 hj;rw[ho]at ho';cases ho';exact hall e he hb
 ·rw[getD_set_ne false (Ne.symm hkj)]at hk;exact hc k o ho hk e he hb
theorem Closed.start (ops:Array Oper)(n:Nat):Closed ops (Array.replicate n false):=by
 intro j o _ hj;simp only[Array.getD_eq_getD_getElem?,Array.getElem?_replicate]at hj;split at hj <;> simp at hj
section
variable {P : Program} {ops : Array Oper} {Q : Exit -> Act -> World -> Prop} {S : World -> Prop} {L : Nat}
def wpAnyL (P:Program)(ops:Array Oper)(Q:Exit->Act->World->Prop)(S:World->Prop)(L:Nat):Nat->Array Bool->Act->World->Prop
 | 0,l,a,w=>Region.ready .any ops l=[]/\Q .normal a w
 | f+1,l,a,w=>(Region.ready .any ops l=[]->Q .normal a w) /\
   ∀ i∈Region.ready .any ops l,wpOp P ops Q i (fun a' w'=>(i≠L->S w')/\wpAnyL P ops Q S L f (l.setIfInBounds i true) a' w') a w
theorem wpAnyL_any:∀ (f:Nat)(l:Array Bool)(a:Act)(w:World),wpAnyL P ops Q S L f l a w->wpAny P .any ops Q f l a w
 | 0,_,_,_,h=>h
 | f+1,_,_,_,h=>⟨h.1,fun i hi=>wpOp_mono (fun a' w' k=>wpAnyL_any f _ a' w' k.2) (h.2 i hi)⟩
theorem wpAnyL_done {l:Array Bool} {a:Act} {w:World} (hr:Region.ready .any ops l=[])(h:Q .normal a w):∀ f,wpAnyL P ops Q S L f l a w
 | 0=>⟨hr,h⟩
 | _+1=>⟨fun _=>h,by rw[hr];simp⟩
theorem unlisted {l:Array Bool} {i:Nat} (h:l.getD i true=false)(k:l.getD i false=true):False:=by
 rcases Nat.lt_or_ge i l.size with h' | h'
 ·simp[h']at h k;rw[h]at k;cases k
 ·simp[Array.getElem?_eq_none h']at k
theorem wpAnyL_take {i:Nat} {oi:Oper} {v:Value} (hi:ops[i]?=some oi)(hsel:Region.noSelect ops=true)
  (hQ:∀ c a w,Q (.panic c) (Act.put a oi.dst v) w->Q (.panic c) a w) {n:Nat} (hL:ahead ops n i L=true) :
  ∀ (f:Nat) (l:Array Bool) (a:Act) (w:World),Closed ops l ->
   (∀ j oj,ops[j]?=some oj->j≠i->l.getD j true=false->(∀ e∈oj.after,Region.binds .any e=true->e.on≠i)->oi.apart ops oj=true) ->
   i∈Region.ready .any ops l->YieldsIf P ops S oi v a->S w->wpAnyL P ops Q S L f (l.setIfInBounds i true) (a.put oi.dst v) w->wpAnyL P ops Q S L (f+1) l a w:=by
 intro f;induction f with
 | zero =>
  intro l a w _ _ hr hy hS H;refine⟨fun h=>(by rw[h]at hr;cases hr),fun j hj=>?_⟩;by_cases hji:j=i
  ·subst hji;exact hy.wpOp hi hS ⟨fun _=>hS,H⟩
  ·have:=ready_mono hj hji;rw[H.1]at this;cases this
 | succ f ih =>
  intro l a w hc hfree hr hy hS H;refine⟨fun h=>(by rw[h]at hr;cases hr),fun j hj=>?_⟩;by_cases hji:j=i
  ·subst hji;exact hy.wpOp hi hS ⟨fun _=>hS,H⟩
  ·obtain⟨hjun,oj,hoj,hall⟩:=mem_ready.1 hj;have hiun:=(mem_ready.1 hr).1
   have hjL:j≠L:=by
    intro e;subst e;exact unlisted hiun (ahead_listed hc n i j hL fun o ho e he hb=>by rw[hoj]at ho;cases ho;exact hall e he hb)
   have hnot:∀ e∈oj.after,Region.binds .any e=true->e.on≠i:=fun e he hb heq=>unlisted hiun (heq▸hall e he hb);have h2:=wpOp_putIf hoj (hfree j oj hoj hji hjun hnot) (fun cs b=>Region.noSelect_spec hsel i oi cs b hi) (fun cs b=>Region.noSelect_spec hsel j oj cs b hoj) hQ hy (H.2 j (ready_mono hj hji));refine wpOp_mono (fun a' w' k=>⟨k.2.1,ih (l.setIfInBounds j true) a' w' (hc.set hj) (fun m om hom hmi hun hno=>?_) (ready_mono hr (Ne.symm hji)) k.1 (k.2.1 hjL) ?_⟩) h2
   ·refine hfree m om hom hmi ?_ hno;by_cases hjm:j=m
    ·exact hjm▸hjun
    ·rwa[getD_set_ne true hjm]at hun
   ·rw[Array.setIfInBounds_comm _ _ hji];exact k.2.2
def WalkL (P:Program)(ops:Array Oper)(Q:Exit->Act->World->Prop)(S:World->Prop)(L:Nat):Nat->Array Bool->Act->World->Prop
 | 0,l,a,w=>Region.ready .any ops l=[]/\Q .normal a w
 | f+1,l,a,w=>(Region.ready .any ops l=[]/\Q .normal a w) \/
   (∃ i o v,ops[i]?=some o/\Region.free .any ops l i=true/\(Region.ready .any ops l).contains i=true/\ahead ops ops.size i L=true/\YieldsIf P ops S o v a/\WalkL P ops Q S L f (l.setIfInBounds i true) (a.put o.dst v) w) \/
   (Region.ready .any ops l≠[]/\∀ i∈Region.ready .any ops l,∃ o,ops[i]?=some o/\∀ K':Act->World->Prop,Shut (∀ a' w',S w'->WalkL P ops Q S L f (l.setIfInBounds i true) a' w'->K' a' w') ->
    if Region.wanted o (yielded ops a.tmps)=true then Oper.wp P o a w K' Q else K' (a.put o.dst undef) w) \/
   (Region.ready .any ops l=[L]/\Region.ready .any ops (l.setIfInBounds L true)=[]/\∃ o,ops[L]?=some o/\Region.wanted o (yielded ops a.tmps)=true/\∀ K':Act->World->Prop,Shut (∀ a' w',Q .normal a' w'->K' a' w')->Oper.wp P o a w K' Q)
theorem walkL_sound (hns:Region.noSelect ops=true)(hQ:∀ c a d v w,Q (.panic c) (Act.put a d v) w->Q (.panic c) a w) :
  ∀ (f:Nat) (l:Array Bool) (a:Act) (w:World),Closed ops l->S w->WalkL P ops Q S L f l a w->wpAnyL P ops Q S L f l a w
 | 0,_,_,_,_,_,h=>h
 | f+1,l,a,w,hc,hs,h=>by
  rcases h with⟨h1,h2⟩ | ⟨i,o,v,ho,hf,hr,hL,hy,h⟩ | ⟨hne,h⟩ | ⟨h1,h2,o,ho,hw,h⟩
  ·exact wpAnyL_done h1 h2 _
  ·exact wpAnyL_take ho hns (fun c a w=>hQ c a _ _ w) hL f l a w hc (Region.free_spec ho hf) (by simpa using hr) hy hs (walkL_sound hns hQ f _ _ w (hc.set (by simpa using hr)) hs h)
  ·refine⟨fun e=>absurd e hne,fun i hi=>?_⟩;obtain⟨o,ho,hst⟩:=h i hi;exact wpOp_step ho (fun K' hK=>hst K' (fun a' w' he hw=>hK a' w' ⟨fun _=>he,walkL_sound hns hQ f _ a' w' (hc.set hi) he hw⟩))
  ·refine⟨fun e=>(by rw[e]at h1;exact absurd h1.symm (List.cons_ne_nil _ _)),fun i hi=>?_⟩;rw[h1]at hi;obtain rfl:i=L:=by simpa using hi
   exact wpOp_step ho (fun K' hK=>by rw[if_pos hw];exact h K' (fun a' w' hq=>hK a' w' ⟨fun e=>absurd rfl e,wpAnyL_done h2 hq _⟩))
theorem region_walkL {id:Nat} {a:Act} {w:World} (L:Nat)(S:World->Prop)(hS:S w.drew)(hm:P.follows .mixedOrders=true)(hns:Region.noSelect ops=true)(hQ:∀ c a d v w,Q (.panic c) (Act.put a d v) w->Q (.panic c) a w)
  (h:WalkL P ops Q S L ops.size (Array.replicate ops.size false) a w.drew):(Code.region id ops true).wp P Q a w :=
 wp_region_any hm (wpAnyL_any _ _ _ _ (walkL_sound hns hQ _ _ a w.drew (Closed.start _ _) hS h))
theorem WalkL.take {f:Nat} {l:Array Bool} {a:Act} {w:World} (i:Nat)(o:Oper)(v:Value)(ho:ops[i]?=some o)(hf:Region.free .any ops l i=true)(hr:(Region.ready .any ops l).contains i=true)(hL:ahead ops ops.size i L=true)
  (hw:Region.wanted o (yielded ops a.tmps)=true) (hy:∀ W,S W->(execOp a.eval o).run P W = .ok (.value v) W) (h:WalkL P ops Q S L f (l.setIfInBounds i true) (a.put o.dst v) w):WalkL P ops Q S L (f+1) l a w :=
 .inr (.inl ⟨i,o,v,ho,hf,hr,hL,.inl ⟨hw,hy⟩,h⟩)
def TkL (P:Program)(ops:Array Oper)(Q:Exit->Act->World->Prop)(S:World->Prop)(L:Nat):List Nat->Nat->Array Bool->Act->World->Prop
 | [],f,l,a,w=>WalkL P ops Q S L f l a w
 | i::is,f,l,a,w=>∃ g,f=g+1/\∃ o v,ops[i]?=some o/\Region.free .any ops l i=true/\(Region.ready .any ops l).contains i=true/\ahead ops ops.size i L=true/\Region.wanted o (yielded ops a.tmps)=true/\(∀ W,S W->(execOp a.eval o).run P W = .ok (.value v) W)/\TkL P ops Q S L is g (l.setIfInBounds i true) (a.put o.dst v) w
theorem WalkL.tk (is:List Nat):∀ {f:Nat} {l:Array Bool} {a:Act} {w:World},TkL P ops Q S L is f l a w->WalkL P ops Q S L f l a w:=by
 induction is with
 | nil=>exact fun h=>h
 | cons i is ih =>
  rintro f l a w ⟨g,rfl,o,v,ho,hf,hr,hL,hw,hy,h⟩;exact WalkL.take i o v ho hf hr hL hw hy (ih h)
theorem TkL.c {f:Nat} {l:Array Bool} {a:Act} {w:World} {i:Nat} {is:List Nat} (o:Oper)(v:Value)(ho:ops[i]?=some o)(hf:Region.free .any ops l i=true)(hr:(Region.ready .any ops l).contains i=true)(hL:ahead ops ops.size i L=true)
  (hw:Region.wanted o (yielded ops a.tmps)=true) (hy:∀ W,S W->(execOp a.eval o).run P W = .ok (.value v) W) (h:TkL P ops Q S L is f (l.setIfInBounds i true) (a.put o.dst v) w):TkL P ops Q S L (i::is) (f+1) l a w :=
 ⟨f,rfl,o,v,ho,hf,hr,hL,hw,hy,h⟩
theorem TkL.n {f:Nat} {l:Array Bool} {a:Act} {w:World} (h:WalkL P ops Q S L f l a w):TkL P ops Q S L [] f l a w:=h
def MadeL (P:Program)(ops:Array Oper)(Q:Exit->Act->World->Prop)(S:World->Prop)(L f:Nat)(l:Array Bool)(a:Act)(w:World)(i:Nat):Prop :=
 ∃ o,ops[i]?=some o/\Region.wanted o (yielded ops a.tmps)=true/\∀ K':Act->World->Prop,Shut (∀ a' w',S w'->WalkL P ops Q S L f (l.setIfInBounds i true) a' w'->K' a' w')->Oper.wp P o a w K' Q
theorem WalkL.one {f:Nat} {l:Array Bool} {a:Act} {w:World} (i:Nat)(hr:Region.ready .any ops l=[i])(h:MadeL P ops Q S L f l a w i):WalkL P ops Q S L (f+1) l a w:=by
 refine .inr (.inr (.inl ⟨by rw[hr];simp,fun j hj=>?_⟩));rw[hr]at hj;obtain rfl:j=i:=by simpa using hj
 obtain⟨o,ho,hw,h⟩:=h;exact⟨o,ho,fun K hK=>by rw[if_pos hw];exact h K hK⟩
theorem WalkL.last {f:Nat} {l:Array Bool} {a:Act} {w:World} (hr:Region.ready .any ops l=[L])(hr':Region.ready .any ops (l.setIfInBounds L true)=[])
  (h:∃ o,ops[L]?=some o/\Region.wanted o (yielded ops a.tmps)=true/\∀ K':Act->World->Prop,Shut (∀ a' w',Q .normal a' w'->K' a' w')->Oper.wp P o a w K' Q):WalkL P ops Q S L (f+1) l a w :=
 .inr (.inr (.inr ⟨hr,hr',h⟩))
end
theorem l! {P : Program} {ops : Array Oper} {Q : Exit -> Act -> World -> Prop} {S : World -> Prop} {L : Nat} {f : Nat} {l : Array Bool} {a : Act} {w : World} {i : Nat} {is : List Nat} {o : Oper} {v : Value} {G : Prop} (h : G) (ho : ops[i]? = some o := by simp only[gA,gS,gZ];rfl) (hf : Region.free .any ops l i = true := by kernel_rfl) (hr : (Region.ready .any ops l).contains i = true := by kernel_rfl) (hL : ahead ops ops.size i L = true := by kernel_rfl) (hw : Region.wanted o (yielded ops a.tmps) = true := by rfl) (hy : ∀ W,S W->(execOp a.eval o).run P W=.ok (.value v) W := by intro W hW;go_simp;try with_reducible rfl) (hG : TkL P ops Q S L is f (l.setIfInBounds i true) (a.put o.dst v) w = G := by simp only[Act.put,pA,pZ,pS];rfl) : TkL P ops Q S L (i :: is) (f + 1) l a w := ⟨f, rfl, o, v, ho, hf, hr, hL, hw, hy, Eq.mpr hG h⟩
theorem oL! {P : Program} {ops : Array Oper} {Q : Exit -> Act -> World -> Prop} {S : World -> Prop} {L : Nat} {f : Nat} {l : Array Bool} {a : Act} {w : World} (i : Nat) (h : MadeL P ops Q S L f l a w i) (hr : Region.ready .any ops l = [i] := by kernel_rfl) : WalkL P ops Q S L (f + 1) l a w := WalkL.one i hr h
end Go.Proofs.YtlhaghoajpglaaaGreat
namespace Go.Proofs
open Go.Shelf
def Tryz.sortT_ren:Go.Shelf.Ren:=⟨fun | 6=>137 | 15=>198 | 14=>197 | 28=>240 | 29=>241 | 20=>232 | 21=>233 | 22=>234 | 23=>235 | 24=>236 | 25=>237 | 26=>238 | 27=>239 | 46=>281 | 47=>282 | 48=>283 | 49=>284 | 50=>285 | 57=>297 | n=>n,fun | 22=>27 | 24=>67 | 25=>154 | 3=>3 | 39=>311 | 0=>0 | 53=>349 | 55=>351 | 4=>4 | 46=>343 | 45=>342 | 50=>314 | 5=>5 | 9=>9 | 66=>378 | 70=>382 | 76=>390 | 77=>391 | n=>n,fun | n=>n⟩
theorem Tryz.sortT:Go.Proofs.SlLaysF0.n6 Tryz.prog Tryz.sortT_ren := {
 mixed:=by kernel_rfl
 f6:=⟨Tryz.f137.name,by decide,Tryz.func137.trans (congrArg some (by kernel_rfl))⟩
 f14:=⟨Tryz.f197.name,by decide,Tryz.func197.trans (congrArg some (by kernel_rfl))⟩
 f15:=Tryz.func198.trans (congrArg some (by kernel_rfl))
 f20:=⟨Tryz.f232.name,by decide,Tryz.func232.trans (congrArg some (by kernel_rfl))⟩
 f21:=⟨Tryz.f233.name,by decide,Tryz.func233.trans (congrArg some (by kernel_rfl))⟩
 f22:=⟨Tryz.f234.name,by decide,Tryz.func234.trans (congrArg some (by kernel_rfl))⟩
 f23:=⟨Tryz.f235.name,by decide,Tryz.func235.trans (congrArg some (by kernel_rfl))⟩
 f24:=⟨Tryz.f236.name,by decide,Tryz.func236.trans (congrArg some (by kernel_rfl))⟩
 f25:=⟨Tryz.f237.name,by decide,Tryz.func237.trans (congrArg some (by kernel_rfl))⟩
 f26:=⟨Tryz.f238.name,by decide,Tryz.func238.trans (congrArg some (by kernel_rfl))⟩
 f27:=⟨Tryz.f239.name,by decide,Tryz.func239.trans (congrArg some (by kernel_rfl))⟩
 f28:=Tryz.func240.trans (congrArg some (by kernel_rfl))
 f29:=Tryz.func241.trans (congrArg some (by kernel_rfl))
 f46:=⟨Tryz.f281.name,by decide,Tryz.func281.trans (congrArg some (by kernel_rfl))⟩
 f47:=Tryz.func282.trans (congrArg some (by kernel_rfl))
 f48:=Tryz.func283.trans (congrArg some (by kernel_rfl))
 f49:=⟨Tryz.f284.name,by decide,Tryz.func284.trans (congrArg some (by kernel_rfl))⟩
 f50:=⟨Tryz.f285.name,by decide,Tryz.func285.trans (congrArg some (by kernel_rfl))⟩
 f57:=⟨Tryz.f297.name,by decide,Tryz.func297.trans (congrArg some (by kernel_rfl))⟩
 t0:=Tryz.underlying0
 a0:=Tryz.isAgg0
 z0:=Tryz.sizeOf0
 v0:=Tryz.zeroValue0
 t3:=Tryz.underlying3
 a3:=Tryz.isAgg3
 z3:=Tryz.sizeOf3
 v3:=Tryz.zeroValue3
 t4:=Tryz.underlying4
 a4:=Tryz.isAgg4
 z4:=Tryz.sizeOf4
 v4:=Tryz.zeroValue4
 t5:=Tryz.underlying5
 a5:=Tryz.isAgg5
 z5:=Tryz.sizeOf5
 v5:=Tryz.zeroValue5
 t9:=Tryz.underlying9
 a9:=Tryz.isAgg9
 z9:=Tryz.sizeOf9
 v9:=Tryz.zeroValue9
 t22:=Tryz.underlying27
 a22:=Tryz.isAgg27
 z22:=Tryz.sizeOf27
 v22:=Tryz.zeroValue27
 t25:=Tryz.underlying154
 a25:=Tryz.isAgg154
 z25:=Tryz.sizeOf154
 v25:=Tryz.zeroValue154
 t39:=Tryz.underlying311
 a39:=Tryz.isAgg311
 z39:=Tryz.sizeOf311
 v39:=Tryz.zeroValue311
 t45:=Tryz.underlying342
 a45:=Tryz.isAgg342
 z45:=Tryz.sizeOf342
 v45:=Tryz.zeroValue342
 t46:=Tryz.underlying343
 a46:=Tryz.isAgg343
 z46:=Tryz.sizeOf343
 v46:=Tryz.zeroValue343
 t50:=Tryz.underlying314
 a50:=Tryz.isAgg314
 z50:=Tryz.sizeOf314
 v50:=Tryz.zeroValue314
 t53:=Tryz.underlying349
 a53:=Tryz.isAgg349
 z53:=Tryz.sizeOf349
 v53:=Tryz.zeroValue349
 t55:=Tryz.underlying351
 a55:=Tryz.isAgg351
 z55:=Tryz.sizeOf351
 v55:=Tryz.zeroValue351
 t66:=Tryz.underlying378
 a66:=Tryz.isAgg378
 z66:=Tryz.sizeOf378
 v66:=Tryz.zeroValue378
 t70:=Tryz.underlying382
 a70:=Tryz.isAgg382
 z70:=Tryz.sizeOf382
 v70:=Tryz.zeroValue382
 t76:=Tryz.underlying390
 a76:=Tryz.isAgg390
 z76:=Tryz.sizeOf390
 v76:=Tryz.zeroValue390
 t77:=Tryz.underlying391
 a77:=Tryz.isAgg391
 z77:=Tryz.sizeOf391
 v77:=Tryz.zeroValue391}
end Go.Proofs
namespace Go.Proofs.YtlhaghoajpglaaaGreat
open Go Go.RowKit Go.Maps
theorem p3_eql (a b:P3)(W:World):(binOp BinOp.eql 32 (pV a) (pV b)).run Tryz.prog W = .ok (.bool (decide (a=b))) W:=by
 obtain⟨a1,a2,a3⟩:=a;obtain⟨b1,b2,b3⟩:=b;unfold pV;dsimp only;go_simp;simp only[ba_toList];by_cases h1:a1=b1 <;> by_cases h2:a2=b2 <;> by_cases h3:a3=b3 <;> simp[h1,h2,h3]
theorem sub_eql (a b:P3)(W:World):(binOp BinOp.eql 33 (pV a) (pV b)).run Tryz.prog W = .ok (.bool (decide (a=b))) W:=by
 obtain⟨a1,a2,a3⟩:=a;obtain⟨b1,b2,b3⟩:=b;unfold pV;dsimp only;go_simp;simp only[ba_toList];by_cases h1:a1=b1 <;> by_cases h2:a2=b2 <;> by_cases h3:a3=b3 <;> simp[h1,h2,h3]
theorem ints_at {S:Nat->Prop} {w:World} {ao:Option Addr} {l:List Int} {c:Nat} (h:Sl S w 1 (.slice ao l.length c) (ic l)):∀ i (hi:i<l.length),∃ b off,ao=some ⟨b,off,none⟩/\S b/\w.cell? ⟨b,off+i,none⟩=some (.int .i64 l[i]):=by
 obtain⟨ao',n',c',hv,h1,h2,h3,h4,h5⟩:=h;cases hv;intro i hi;obtain⟨b,off,rfl,hb,hc⟩:=h5 (fun e=>by have:=congrArg List.length e;rw[ic_length]at this;simp only[List.length_nil]at this;omega);exact⟨b,off,rfl,hb,hc i _ (by simp[ic,hi])⟩
theorem indexIF_any (w:World)(ps:List Int)(pv:Value)(g:Nat)(cap:Array Value)(eg:∀ args W,(callFunc g args).run Tryz.prog W = .ok (.enter g args) W)(q:Int->Bool)(hat:Sl (· < w.heap.size) w 1 pv (ic ps))(hf:∀ i (hi:i<ps.length) W,Below w.heap.size w W->Calls Tryz.prog g (#[.int .i64 ps[i]]++cap) W fun e W'=>e = .returned (.bool (q ps[i]))/\Below W.heap.size W W') :
  Calls Tryz.prog 252 #[pv,.func (.func g) #[] cap] w fun e w'=>∃ k:Int,e = .returned (.int .i64 k)/\(0<=k↔ps.any q=true)/\Below w.heap.size w w':=by
 obtain⟨ao,n,c,rfl,hn,hlc,hcm⟩:=hat.len;rw[ic_length,Nat.mul_one]at hn;subst hn;have HC:=h! (ints_at hat);have HF:=h! hf;clear hat hf;go_enter Tryz.func252,Tryz.ntmps252
 go_wp2_with fail
 go_loopw [5,8] (fun _ ii wr=>∃ i:Nat,i<=ps.length/\ii = .int .i64 i/\(∀ j (hj:j<ps.length),j<i->q ps[j]=false)/\Below w.heap.size w wr) (fun _ ii _=>ps.length-(intOf ii).toNat)
 case atStart=>exact⟨0,by omega,rfl,fun _ _ h=>absurd h (by omega),Below.refl _ _⟩
 case round =>
  obtain⟨i,hi,rfl,hall,hbel⟩:=hrel;have HALL:=h! hall;clear hall;by_cases hlt:i<ps.length
  ·have HUP:=h! (fun h=>upto_succ (p:=fun j hj=>q ps[j]=false) HALL.out hlt h);have HAN:=h! (fun(h:q ps[i]=true)=>(show ps.any q=true from List.any_eq_true.2 ⟨_,List.getElem_mem hlt,h⟩));obtain⟨bb,off,hbo,hb,c0⟩:=HC.out i hlt;cases hbo;have d0:=(hbel.cell (p:=⟨bb,off+i,none⟩) hb).trans c0;have HR:=h! (HF.out i hlt wr hbel);clear c0 hb;generalize ps[i]=p at *;have HB:=h! hbel;clear hbel;cases hq:q p with
   | true =>
    rw[hq]at HR;have HT:=h! (HAN.out hq);clear HUP HAN hq;go_wp2_with fail
    refine HR.out.mono ?_;rintro e w5 ⟨rfl,hb5⟩;have HBE:=h! (HB.out.trans (hb5.mono HB.out.size));clear HR hb5 d0;go_wp2_with fail
    go_ret
    exact⟨_,rfl,⟨fun _=>HT.out,fun _=>by omega⟩,HBE.out⟩
   | false =>
    rw[hq]at HR;have HN:=h! (HUP.out hq);clear HUP HAN hq;go_wp2_with fail
    refine HR.out.mono ?_;rintro e w5 ⟨rfl,hb5⟩;have HBE:=h! (HB.out.trans (hb5.mono HB.out.size));clear HR hb5 d0;go_wp2_with fail
    go_roundw
    case rel=>exact⟨i+1,by omega,by go_num,HN.out,HBE.out⟩
    case measure=>simp[intOf];omega
  ·obtain rfl:i=ps.length:=by omega
   have HN:=h! (show ¬ ps.any q=true from fun h=>by
    obtain⟨x,hx,hq⟩:=List.any_eq_true.1 h;obtain⟨j,hj,rfl⟩:=List.getElem_of_mem hx;rw[HALL.out j hj hj]at hq;cases hq)
   have HB:=h! hbel;clear hbel;go_wp2_with fail
   go_ret
   exact⟨_,rfl,⟨fun h=>absurd h (by omega),fun h=>absurd h HN.out⟩,HB.out⟩
theorem containsIF_any (w:World)(ps:List Int)(pv:Value)(g:Nat)(cap:Array Value)(eg:∀ args W,(callFunc g args).run Tryz.prog W = .ok (.enter g args) W)(q:Int->Bool)(hat:Sl (· < w.heap.size) w 1 pv (ic ps))(hf:∀ i (hi:i<ps.length) W,Below w.heap.size w W->Calls Tryz.prog g (#[.int .i64 ps[i]]++cap) W fun e W'=>e = .returned (.bool (q ps[i]))/\Below W.heap.size W W') :
  Calls Tryz.prog 254 #[pv,.func (.func g) #[] cap] w fun e w'=>e = .returned (.bool (ps.any q))/\Below w.heap.size w w':=by
 have HI:=h! (indexIF_any w ps pv g cap eg q hat hf);clear hat hf;go_enter Tryz.func254,Tryz.ntmps254
 go_wp2_with fail
 refine HI.out.mono ?_;rintro e w2 ⟨k,rfl,hk,hb⟩;have HK:=h! hk;have HB:=h! hb;clear HI hk hb;by_cases h0:0<=k
 ·have HM:=h! (HK.out.1 h0);go_wp2_with fail
  go_ret
  exact⟨by rw[HM.out];simp[],HB.out⟩
 ·have HM:=h! (show ps.any q=false from by cases h:ps.any q with | false=>rfl | true=>exact absurd (HK.out.2 h) h0);go_wp2_with fail
  go_ret
  exact⟨by rw[HM.out];simp[h0],HB.out⟩
theorem indexFF_any (w:World)(ps:List FT)(k:Int)(sa:List P3)(sb:List Int)(pv:FV3)(g:Nat)(cap:Array Value)(eg:∀ args W,(callFunc g args).run Tryz.prog W = .ok (.enter g args) W)(q:FT->Bool)(hat:FTAt (· < w.heap.size) w (.mk k sa sb ps) pv)(hf:∀ i (hi:i<ps.length) W pvi,Below w.heap.size w W->FTAt (· < W.heap.size) W ps[i] pvi->Calls Tryz.prog g (#[fV ps[i] pvi]++cap) W fun e W'=>e = .returned (.bool (q ps[i]))/\Below W.heap.size W W') :
  Calls Tryz.prog 219 #[pv.2.2,.func (.func g) #[] cap] w fun e w'=>∃ k:Int,e = .returned (.int .i64 k)/\(0<=k↔ps.any q=true)/\Below w.heap.size w w':=by
 obtain⟨pv1,pv2,pv3⟩:=pv;obtain⟨ao,c,he,hlc,hcm,hcell⟩:=hat.rows;dsimp only[FT.ps]at he hlc hcell ⊢;subst he;have HC:=h! hcell;have HF:=h! hf;clear hat hcell hf;go_enter Tryz.func219,Tryz.ntmps219
 go_wp2_with fail
 go_loopw [5,8] (fun _ ii wr=>∃ i:Nat,i<=ps.length/\ii = .int .i64 i/\(∀ j (hj:j<ps.length),j<i->q ps[j]=false)/\Below w.heap.size w wr) (fun _ ii _=>ps.length-(intOf ii).toNat)
 case atStart=>exact⟨0,by omega,rfl,fun _ _ h=>absurd h (by omega),Below.refl _ _⟩
 case round =>
  obtain⟨i,hi,rfl,hall,hbel⟩:=hrel;have HALL:=h! hall;clear hall;by_cases hlt:i<ps.length
  ·have HUP:=h! (fun h=>upto_succ (p:=fun j hj=>q ps[j]=false) HALL.out hlt h);have HAN:=h! (fun(h:q ps[i]=true)=>(show ps.any q=true from List.any_eq_true.2 ⟨_,List.getElem_mem hlt,h⟩));obtain⟨bb,off,⟨e1,e2,e3⟩,hbo,hb,c0,c1,c2,c3,hat2⟩:=HC.out i hlt;cases hbo;dsimp only at c1 c2 c3;have d0:=(hbel.cell (p:=⟨bb,off+i*4,none⟩) hb).trans c0;have d1:=(hbel.cell (p:=⟨bb,off+i*4+1,none⟩) hb).trans c1;have d2:=(hbel.cell (p:=⟨bb,off+i*4+2,none⟩) hb).trans c2;have d3:=(hbel.cell (p:=⟨bb,off+i*4+3,none⟩) hb).trans c3;have HR:=h! (HF.out i hlt wr (e1,e2,e3) hbel (hat2.up hbel));clear c0 c1 c2 c3 hat2 hb;unfold fV at HR;dsimp only at HR;generalize ps[i]=p at *;have HB:=h! hbel;clear hbel;cases hq:q p with
   | true =>
    rw[hq]at HR;have HT:=h! (HAN.out hq);clear HUP HAN hq;go_wp2_with fail
    refine HR.out.mono ?_;rintro e w5 ⟨rfl,hb5⟩;have HBE:=h! (HB.out.trans (hb5.mono HB.out.size));clear HR hb5 d0 d1 d2 d3;go_wp2_with fail
    go_ret
    exact⟨_,rfl,⟨fun _=>HT.out,fun _=>by omega⟩,HBE.out⟩
   | false =>
    rw[hq]at HR;have HN:=h! (HUP.out hq);clear HUP HAN hq;go_wp2_with fail
    refine HR.out.mono ?_;rintro e w5 ⟨rfl,hb5⟩;have HBE:=h! (HB.out.trans (hb5.mono HB.out.size));clear HR hb5 d0 d1 d2 d3;go_wp2_with fail
    go_roundw
    case rel=>exact⟨i+1,by omega,by go_num,HN.out,HBE.out⟩
    case measure=>simp[intOf];omega
  ·obtain rfl:i=ps.length:=by omega
   have HN:=h! (show ¬ ps.any q=true from fun h=>by
    obtain⟨x,hx,hq⟩:=List.any_eq_true.1 h;obtain⟨j,hj,rfl⟩:=List.getElem_of_mem hx;rw[HALL.out j hj hj]at hq;cases hq)
   have HB:=h! hbel;clear hbel;go_wp2_with fail
   go_ret
   exact⟨_,rfl,⟨fun h=>absurd h (by omega),fun h=>absurd h HN.out⟩,HB.out⟩
theorem containsFF_any (w:World)(ps:List FT)(k:Int)(sa:List P3)(sb:List Int)(pv:FV3)(g:Nat)(cap:Array Value)(eg:∀ args W,(callFunc g args).run Tryz.prog W = .ok (.enter g args) W)(q:FT->Bool)(hat:FTAt (· < w.heap.size) w (.mk k sa sb ps) pv)(hf:∀ i (hi:i<ps.length) W pvi,Below w.heap.size w W->FTAt (· < W.heap.size) W ps[i] pvi->Calls Tryz.prog g (#[fV ps[i] pvi]++cap) W fun e W'=>e = .returned (.bool (q ps[i]))/\Below W.heap.size W W') :
  Calls Tryz.prog 257 #[pv.2.2,.func (.func g) #[] cap] w fun e w'=>e = .returned (.bool (ps.any q))/\Below w.heap.size w w':=by
 have HI:=h! (indexFF_any w ps k sa sb pv g cap eg q hat hf);clear hat hf;go_enter Tryz.func257,Tryz.ntmps257
 go_wp2_with fail
 refine HI.out.mono ?_;rintro e w2 ⟨k,rfl,hk,hb⟩;have HK:=h! hk;have HB:=h! hb;clear HI hk hb;by_cases h0:0<=k
 ·have HM:=h! (HK.out.1 h0);go_wp2_with fail
  go_ret
  exact⟨by rw[HM.out];simp[],HB.out⟩
 ·have HM:=h! (show ps.any q=false from by cases h:ps.any q with | false=>rfl | true=>exact absurd (HK.out.2 h) h0);go_wp2_with fail
  go_ret
  exact⟨by rw[HM.out];simp[h0],HB.out⟩
theorem indexS_any (v:Value)(l:List P3)(k:P3)(w:World)(h:Sl (· < w.heap.size) w 3 v (pcs l)) :
  Calls Tryz.prog 268 #[v,pV k] w fun e w'=>(∃ i:Int,e = .returned (.int .i64 i)/\(0<=i↔k∈l))/\Below w.heap.size w w':=by
 obtain⟨ao,c,rfl,hlc,hcm,hc⟩:=Sl.rows pC_length (by decide) (show Sl (· < w.heap.size) w 3 v (l.flatMap pC)from h);have HC:=h! hc;clear hc h;obtain⟨w2,hw2⟩:∃ x,x=w.alloc (.cells #[.string k.t,.string k.i,.string k.r] 33):=⟨_,rfl⟩;have e2:w2.heap.size=w.heap.size+1:=by rw[hw2];simp
 have KB:=h! (show Blk w2 w.heap.size #[.string k.t,.string k.i,.string k.r] 33 from by rw[hw2];exact Blk.made _ _ _);have X2:=h! (show Ext w w2 from by rw[hw2];exact Ext.alloc _ _);unfold pV;go_enter Tryz.func268,Tryz.ntmps268
 go_wp2_with fail
 rw[<- hw2];clear hw2 e2;go_loopw [5,8] (fun _ iv wr=>∃ i:Nat,i<=l.length/\iv = .int .i64 i/\(∀ j (hj:j<l.length),j<i->l[j]≠k)/\Ext w2 wr) (fun _ iv _=>l.length-(intOf iv).toNat)
 case atStart=>exact⟨0,Nat.zero_le _,rfl,(fun _ _ h=>absurd h (Nat.not_lt_zero _)),Ext.refl _⟩
 case round =>
  obtain⟨i,hi,rfl,hall,hx⟩:=hrel;have HALL:=h! hall;have HX:=h! hx;clear hall hx;by_cases hlt:i<l.length
  ·obtain⟨b,off,rfl,hb,hcl⟩:=HC.out (by omega);have G:=h! (fun W (hW:Ext wr W)=>show ∀ (o:Nat) v,(pC l[i])[o]?=some v->W.cell? ⟨b,off+i*3+o,none⟩=some v from fun o v ho=>(X2.out.trans (HX.out.trans hW)).cell (hcl i hlt o v ho));have hli:(i:Int)<(l.length:Int):=by omega
   have HLT:=h! hlt;have HUP:=h! (fun(h:l[i]≠k)=>upto_succ (p:=fun j hj=>l[j]≠k) HALL.out hlt h);have HMM:=h! (fun(h:l[i]=k)=>(show k∈l from h▸List.getElem_mem hlt));generalize l[i]=x at *;clear hlt hb hcl;go_wp2_with fail
   obtain⟨wd,hwd⟩:∃ z:World,z=World.drew wr:=⟨_,rfl⟩;have DX:=h! (show Ext wr wd from by rw[hwd];exact Ext.drew _);refine r! (Ext wd) (by rw[<- hwd];exact Ext.refl _) ?_;rw[<- hwd];clear hwd;have h0:∀ W,Ext wd W->W.cell? ⟨b,off+i*3,none⟩=some (.string x.t):=fun W h=>G.out W (DX.out.trans h) 0 _ rfl;have h1:=fun W (h:Ext wd W)=>G.out W (DX.out.trans h) 1 _ rfl;have h2:=fun W (h:Ext wd W)=>G.out W (DX.out.trans h) 2 _ rfl;have h3:=fun W (h:Ext wd W)=>(KB.out.below (HX.out.trans (DX.out.trans h))).cells;have h4:=fun W=>sub_eql k x W;unfold pV at h4;have HQ:∃ bq,Hid (decide (k=x)=bq):=⟨_,h! rfl⟩;obtain⟨bq,HQ⟩:=HQ;rw[HQ.out]at h4;(refine WalkN.tk [0,1,2,3,4,5] ?_;(iterate 6 (refine c! ?_));refine TkN.n ?_)
   refine d! ?_;clear h0 h1 h2 h3 h4 hli;cases bq with
   | true =>
    have HM:=h! (HMM.out (of_decide_eq_true HQ.out).symm);have HE:=h! (show Below w.heap.size w wd from X2.out.trans (HX.out.trans DX.out));clear HUP HMM HQ;go_wp2_with fail
    go_ret
    exact⟨⟨_,rfl,⟨fun _=>HM.out,fun _=>by omega⟩⟩,HE.out⟩
   | false =>
    have HN:=h! (HUP.out fun e=>of_decide_eq_false HQ.out e.symm);have HWI:=h! (show wrap64 ((i:Int)+1)=((i+1:Nat):Int)from by have:=HLT.out;unfold wrap64;omega);clear HUP HMM HQ;go_wp2_with fail
    go_roundw
    case rel=>exact⟨i+1,HLT.out,by first | rw[HWI.out] | go_num,HN.out,HX.out.trans DX.out⟩
    case measure=>have:=HLT.out;(try rw[HWI.out]);simp[intOf];omega
  ·obtain rfl:i=l.length:=by omega
   have HN:=h! (show k∉l from fun hk=>by obtain⟨j,hj,e⟩:=List.getElem_of_mem hk;exact HALL.out j hj hj e);have HE:=h! (show Below w.heap.size w wr from X2.out.trans HX.out);go_wp2_with fail
   go_ret
   exact⟨⟨_,rfl,⟨fun h=>absurd h (by decide),fun h=>absurd h HN.out⟩⟩,HE.out⟩
theorem containsS_any (v:Value)(l:List P3)(k:P3)(w:World)(h:Sl (· < w.heap.size) w 3 v (pcs l)) :
  Calls Tryz.prog 216 #[v,pV k] w fun e w'=>e = .returned (.bool (decide (k∈l)))/\Below w.heap.size w w':=by
 obtain⟨w2,hw2⟩:∃ x,x=w.alloc (.cells #[.string k.t,.string k.i,.string k.r] 33):=⟨_,rfl⟩;have KB:=h! (show Blk w2 w.heap.size #[.string k.t,.string k.i,.string k.r] 33 from by rw[hw2];exact Blk.made _ _ _);have X2:=h! (show Ext w w2 from by rw[hw2];exact Ext.alloc _ _);have HI:=h! (indexS_any v l k w2 ((h.same (Same.below X2.out)).mono fun _ h=>Nat.lt_of_lt_of_le h X2.out.size));obtain⟨ao,c,rfl,-⟩:=Sl.rows pC_length (by decide) (show Sl (· < w.heap.size) w 3 v (l.flatMap pC)from h);clear h;unfold pV at HI ⊢;go_enter Tryz.func216,Tryz.ntmps216
 go_wp2_with fail
 rw[<- hw2];clear hw2;have hk:=KB.out.cells;go_wp2_with fail
 refine HI.out.mono ?_;rintro e w1 ⟨⟨i,rfl,hi⟩,hb⟩;have HB:=h! (show Below w.heap.size w w1 from Ext.trans X2.out hb);clear hk hb;by_cases hk:k∈l
 ·have h0:=hi.2 hk;clear hi;go_wp2_with fail
  go_ret
  exact⟨by rw[decide_eq_true hk];simp[],HB.out⟩
 ·have h0:¬ (0<=i):=fun h=>hk (hi.1 h);have hd:decide (0<=i)=false:=decide_eq_false h0;clear hi h0;go_wp2_with fail
  go_ret
  exact⟨by rw[decide_eq_false hk];rfl,HB.out⟩
end Go.Proofs.YtlhaghoajpglaaaGreat
namespace Go.Proofs.YtlhaghoajpglaaaGreat
open Go Go.RowKit
def inAt (l:List Bool)(k:Int):Bool:=decide (0<=k)&&l.getD k.toNat false
mutual
def holdF (s:P3)(l:List Bool):FT->Bool
 | .mk k subs refs ps=>if k=1 then decide (s∈subs)||refs.any (inAt l)else if k=2\/k=3 then refs.any (inAt l)else if k=4 then anyF s l ps else if k=5 then allF s l ps else false
def anyF (s:P3)(l:List Bool):List FT->Bool | []=>false | r::rs=>holdF s l r||anyF s l rs
def allF (s:P3)(l:List Bool):List FT->Bool | []=>true | r::rs=>holdF s l r&&allF s l rs
end
theorem anyF_eq (s:P3)(l:List Bool):∀ ps,anyF s l ps=ps.any (holdF s l)
 | []=>rfl
 | r::rs=>by rw[anyF,anyF_eq s l rs,List.any_cons]
theorem allF_eq (s:P3)(l:List Bool):∀ ps,allF s l ps=ps.all (holdF s l)
 | []=>rfl
 | r::rs=>by rw[allF,allF_eq s l rs,List.all_cons]
theorem holdF_eq (s:P3)(l:List Bool)(f:FT):holdF s l f=if f.k=1 then decide (s∈f.subs)||f.refs.any (inAt l)else if f.k=2\/f.k=3 then f.refs.any (inAt l)else if f.k=4 then f.ps.any (holdF s l)else if f.k=5 then f.ps.all (holdF s l)else false:=by
 obtain⟨k,a,b,ps⟩:=f;rw[holdF,anyF_eq,allF_eq];rfl
theorem holdF_mk (s:P3)(l:List Bool)(k:Int)(subs:List P3)(refs:List Int)(ps:List FT):holdF s l (.mk k subs refs ps)=if k=1 then decide (s∈subs)||refs.any (inAt l)else if k=2\/k=3 then refs.any (inAt l)else if k=4 then ps.any (holdF s l)else if k=5 then ps.all (holdF s l)else false:=by
 rw[holdF,anyF_eq,allF_eq]
mutual
def FT.named:FT->List Int | .mk _ _ refs ps=>refs++nmdL ps
def nmdL:List FT->List Int | [] => [] | r::rs=>r.named++nmdL rs
end
theorem FT.named_eq (f:FT):f.named=f.refs++nmdL f.ps:=by
 obtain⟨k,a,b,ps⟩:=f;rw[FT.named];rfl
theorem nmdL_mem {f:FT} {k:Int} (hk:k∈f.named):∀ {l:List FT},f∈l->k∈nmdL l
 | x::l,h=>by
  rw[nmdL,List.mem_append];rcases List.mem_cons.1 h with rfl | h
  ·exact .inl hk
  ·exact .inr (nmdL_mem hk h)
theorem nmdL_append:∀ (a b:List FT),nmdL (a++b)=nmdL a++nmdL b
 | [],_=>rfl
 | x::a,b=>by rw[List.cons_append,nmdL,nmdL,nmdL_append a b,List.append_assoc]
theorem nmdL_take {l:List FT} {i:Nat} (h:i<l.length):nmdL (l.take (i+1))=nmdL (l.take i)++l[i].named:=by
 rw[List.take_succ_eq_append_getElem h,nmdL_append];simp[nmdL]
theorem holdF_congr (s:P3)(l m:List Bool)(f:FT):(∀ k∈f.named,inAt l k=inAt m k)->holdF s l f=holdF s m f:=by
 induction f using FT.ind with
 | h f ih =>
  intro h;rw[FT.named_eq]at h
  have h1:f.refs.any (inAt l)=f.refs.any (inAt m):=by
   rw[Bool.eq_iff_iff,List.any_eq_true,List.any_eq_true];constructor
   ·rintro⟨k,hk,e⟩;exact⟨k,hk,by rw[<- h k (List.mem_append_left _ hk)];exact e⟩
   ·rintro⟨k,hk,e⟩;exact⟨k,hk,by rw[h k (List.mem_append_left _ hk)];exact e⟩
  have h2:∀ p∈f.ps,holdF s l p=holdF s m p:=fun p hp=>ih p hp fun k hk=>h k (List.mem_append_right _ (nmdL_mem hk hp))
  have h3:f.ps.any (holdF s l)=f.ps.any (holdF s m):=by
   rw[Bool.eq_iff_iff,List.any_eq_true,List.any_eq_true];constructor
   ·rintro⟨k,hk,e⟩;exact⟨k,hk,by rw[<- h2 k hk];exact e⟩
   ·rintro⟨k,hk,e⟩;exact⟨k,hk,by rw[h2 k hk];exact e⟩
  have h4:f.ps.all (holdF s l)=f.ps.all (holdF s m):=by
   rw[Bool.eq_iff_iff,List.all_eq_true,List.all_eq_true];exact⟨fun e k hk=>by rw[<- h2 k hk];exact e k hk,fun e k hk=>by rw[h2 k hk];exact e k hk⟩
  rw[holdF_eq,holdF_eq,h1,h3,h4]
theorem holdF_mono (s:P3) {l m:List Bool} (h:∀ k,inAt l k=true->inAt m k=true)(f:FT):holdF s l f=true->holdF s m f=true:=by
 induction f using FT.ind with
 | h f ih =>
  have h1:f.refs.any (inAt l)=true->f.refs.any (inAt m)=true:=fun e=>by
   rw[List.any_eq_true]at *;obtain⟨k,hk,e⟩:=e;exact⟨k,hk,h k e⟩
  have h3:f.ps.any (holdF s l)=true->f.ps.any (holdF s m)=true:=fun e=>by
   rw[List.any_eq_true]at *;obtain⟨k,hk,e⟩:=e;exact⟨k,hk,ih k hk e⟩
  have h4:f.ps.all (holdF s l)=true->f.ps.all (holdF s m)=true:=fun e=>by
   rw[List.all_eq_true]at *;exact fun k hk=>ih k hk (e k hk)
  rw[holdF_eq,holdF_eq];split
  ·simp only[Bool.or_eq_true];exact fun e=>e.imp id h1
  ·split
   ·exact h1
   ·split
    ·exact h3
    ·split
     ·exact h4
     ·exact id
def newS (fs:List FT)(s:P3)(l:List Bool)(i:Nat):Bool:=!l.getD i true&&(match fs[i]? with | some f=>holdF s l f | none=>false)
def inN (fs:List FT)(s:P3)(n:Nat):Nat->List Bool
 | 0=>List.replicate n false
 | r+1=>(List.range n).map fun i=>(inN fs s n r).getD i false||newS fs s (inN fs s n r) i
def outN (fs:List FT)(s:P3)(n:Nat):Nat->List Int
 | 0=>List.replicate n 0
 | r+1=>(List.range n).map fun i=>if newS fs s (inN fs s n r) i=true then((r+1:Nat):Int)else(outN fs s n r).getD i 0
def EndS (fs:List FT)(s:P3)(n r:Nat):Prop:=∀ i,i<n->newS fs s (inN fs s n r) i=false
section
variable {fs : List FT} {s : P3} {n : Nat}
theorem inN_length (r:Nat):(inN fs s n r).length=n:=by cases r <;> simp[inN]
theorem outN_length (r:Nat):(outN fs s n r).length=n:=by cases r <;> simp[outN]
theorem inN_zero (i:Nat):(inN fs s n 0).getD i false=false:=by
 rw[inN,List.getD_eq_getElem?_getD,List.getElem?_replicate];split <;> rfl
theorem inN_succ {i:Nat} (h:i<n)(r:Nat):(inN fs s n (r+1)).getD i false=((inN fs s n r).getD i false||newS fs s (inN fs s n r) i):=by
 rw[inN,List.getD_eq_getElem?_getD,List.getElem?_map,List.getElem?_range h];rfl
theorem outN_zero (i:Nat):(outN fs s n 0).getD i 0=0:=by
 rw[outN,List.getD_eq_getElem?_getD,List.getElem?_replicate];split <;> rfl
theorem outN_succ {i:Nat} (h:i<n)(r:Nat):(outN fs s n (r+1)).getD i 0=if newS fs s (inN fs s n r) i=true then((r+1:Nat):Int)else(outN fs s n r).getD i 0:=by
 rw[outN,List.getD_eq_getElem?_getD,List.getElem?_map,List.getElem?_range h];rfl
theorem ext_bool {a b:List Bool} (hl:a.length=b.length)(h:∀ i,i<a.length->a.getD i false=b.getD i false):a=b:=by
 refine List.ext_getElem hl fun i h1 h2=>?_;have:=h i h1;rwa[List.getD_eq_getElem?_getD,List.getD_eq_getElem?_getD,List.getElem?_eq_getElem h1,List.getElem?_eq_getElem h2]at this
theorem ext_int {a b:List Int} (hl:a.length=b.length)(h:∀ i,i<a.length->a.getD i 0=b.getD i 0):a=b:=by
 refine List.ext_getElem hl fun i h1 h2=>?_;have:=h i h1;rwa[List.getD_eq_getElem?_getD,List.getD_eq_getElem?_getD,List.getElem?_eq_getElem h1,List.getElem?_eq_getElem h2]at this
theorem EndS.inL {r:Nat} (h:EndS fs s n r):∀ k,inN fs s n (r+k)=inN fs s n r
 | 0=>rfl
 | k+1=>by
  have ih:=EndS.inL h k;refine ext_bool (by rw[inN_length,inN_length]) fun i hi=>?_;rw[inN_length]at hi;rw[<- Nat.add_assoc,inN_succ hi,ih,h i hi,Bool.or_false]
theorem EndS.outL {r:Nat} (h:EndS fs s n r):∀ k,outN fs s n (r+k)=outN fs s n r
 | 0=>rfl
 | k+1=>by
  have ih:=EndS.outL h k;refine ext_int (by rw[outN_length,outN_length]) fun i hi=>?_;rw[outN_length]at hi;rw[<- Nat.add_assoc,outN_succ hi,ih,h.inL k,h i hi];rfl
theorem EndS.uniq {r r':Nat} (h:EndS fs s n r)(k:EndS fs s n r'):outN fs s n r=outN fs s n r'/\inN fs s n r=inN fs s n r':=by
 rcases Nat.le_total r r' with hl | hl
 ·obtain⟨d,rfl⟩:=Nat.exists_eq_add_of_le hl;exact⟨(h.outL d).symm,(h.inL d).symm⟩
 ·obtain⟨d,rfl⟩:=Nat.exists_eq_add_of_le hl;exact⟨k.outL d,k.inL d⟩
theorem outN_pos (r:Nat) {i:Nat} (h:i<n):0<=(outN fs s n r).getD i 0/\(outN fs s n r).getD i 0<=(r:Int)/\((inN fs s n r).getD i false=true↔0<(outN fs s n r).getD i 0):=by
 induction r with
 | zero=>rw[outN_zero,inN_zero];simp
 | succ r ih =>
  rw[outN_succ h,inN_succ h];by_cases hn:newS fs s (inN fs s n r) i=true
  ·rw[if_pos hn,hn];refine⟨by omega,by omega,⟨fun _=>by omega,fun _=>by simp⟩⟩
  ·have hf:newS fs s (inN fs s n r) i=false:=by simpa using hn
   rw[if_neg hn,hf,Bool.or_false];exact⟨ih.1,by omega,ih.2.2⟩
theorem newS_not {l:List Bool} {i:Nat} (h:newS fs s l i=true):l.getD i true=false:=by
 unfold newS at h;simp only[Bool.and_eq_true,Bool.not_eq_true']at h;exact h.1
theorem inN_mono1 (r:Nat) {i:Nat} (h:i<n)(hi:(inN fs s n r).getD i false=true):(inN fs s n (r+1)).getD i false=true:=by
 rw[inN_succ h,hi,Bool.true_or]
def cntT (l:List Bool):Nat:=(l.filter id).length
theorem cntT_le (l:List Bool):cntT l<=l.length:=List.length_filter_le _ _
theorem cntT_lt:∀ {a b:List Bool},a.length=b.length->(∀ i,i<a.length->a.getD i false=true->b.getD i false=true)->(∃ i,i<a.length/\a.getD i false=false/\b.getD i false=true)->cntT a<cntT b
 | [],[],_,_,h=>by obtain⟨i,hi,_⟩:=h;simp at hi
 | x::a,y::b,hl,hm,h=>by
  have hl':a.length=b.length:=by simpa using hl
  have hm':∀ i,i<a.length->a.getD i false=true->b.getD i false=true:=fun i hi e=>by
   have:=hm (i+1) (by simpa using hi) (by simpa using e);simpa using this
  have h0:=hm 0 (by simp);simp only[List.getD_cons_zero]at h0
  have hle:cntT a<=cntT b:=by
   by_cases he:∃ i,i<a.length/\a.getD i false=false/\b.getD i false=true
   ·exact Nat.le_of_lt (cntT_lt hl' hm' he)
   ·have:a=b:=ext_bool hl' fun i hi=>by
     cases h1:a.getD i false with
     | true=>exact(hm' i hi h1).symm
     | false =>
      cases h2:b.getD i false with
      | false=>rfl
      | true=>exact absurd ⟨i,hi,h1,h2⟩ he
    rw[this];exact Nat.le_refl _
  obtain⟨i,hi,h1,h2⟩:=h;cases i with
  | zero =>
   simp only[List.getD_cons_zero]at h1 h2;subst h1 h2;unfold cntT at *;simp only[List.filter_cons,id,if_true,List.length_cons,Bool.false_eq_true,if_false];omega
  | succ i =>
   simp only[List.getD_cons_succ,List.length_cons]at h1 h2 hi;have hlt:=cntT_lt hl' hm' ⟨i,by omega,h1,h2⟩;unfold cntT at *;cases x <;> cases y <;> simp only[List.filter_cons,id,if_true,List.length_cons,Bool.false_eq_true,if_false]
   ·exact hlt
   ·omega
   ·have:=h0 rfl;cases this
   ·omega
theorem getD_ft {l:List Bool} {i:Nat} (h:i<l.length):l.getD i true=l.getD i false:=by
 rw[List.getD_eq_getElem?_getD,List.getD_eq_getElem?_getD,List.getElem?_eq_getElem h];rfl
theorem endS_ex:∃ r,r<=n/\EndS fs s n r:=by
 refine Classical.byContradiction fun hno=>?_
 have h:∀ r,r<=n->∃ i,i<n/\newS fs s (inN fs s n r) i=true:=fun r hr=>by
  refine Classical.byContradiction fun h2=>hno ⟨r,hr,fun i hi=>?_⟩;cases e:newS fs s (inN fs s n r) i with
  | false=>rfl
  | true=>exact absurd ⟨i,hi,e⟩ h2
 have hc:∀ r,r<=n+1->r<=cntT (inN fs s n r):=by
  intro r;induction r with
  | zero=>intro _;exact Nat.zero_le _
  | succ r ih =>
   intro hr;have h1:=ih (by omega);obtain⟨i,hi,hnew⟩:=h r (by omega)
   have:=cntT_lt (a:=inN fs s n r) (b:=inN fs s n (r+1)) (by rw[inN_length,inN_length]) (fun j hj e=>inN_mono1 r (by rwa[inN_length]at hj) e)
    ⟨i,by rw[inN_length];exact hi,by rw[<- getD_ft (by rw[inN_length];exact hi)];exact newS_not hnew,by rw[inN_succ hi,hnew,Bool.or_true]⟩
   omega
 have h1:=hc (n+1) (Nat.le_refl _);have h2:=cntT_le (inN fs s n (n+1));rw[inN_length]at h2;omega
end
noncomputable def solveR (fs:List FT) (s:P3) (n:Nat):List Int:=outN fs s n n
theorem endS_n (fs:List FT)(s:P3)(n:Nat):EndS fs s n n:=by
 obtain⟨r,hr,h⟩:=endS_ex (fs:=fs) (s:=s) (n:=n);obtain⟨d,rfl⟩:=Nat.exists_eq_add_of_le hr;intro i hi;rw[h.inL d];exact h i hi
theorem EndS.solve {fs:List FT} {s:P3} {n r:Nat} (h:EndS fs s n r):outN fs s n r=solveR fs s n:=(h.uniq (endS_n fs s n)).1
def boC (l:List Bool):List Value:=l.map .bool
theorem boC_length (l:List Bool):(boC l).length=l.length:=by simp[boC]
structure InvR (fs:List FT)(s:P3)(n r:Nat)(F:List Int)(j:Nat)(L:List Bool)(R:List Int):Prop where
 lenL:L.length=n
 lenR:R.length=n
 inn:∀ i,i<n->L.getD i false=((inN fs s n r).getD i false||decide ((i:Int)∈F.take j))
 out:∀ i,i<n->R.getD i 0=if (i:Int)∈F.take j then((r+1:Nat):Int)else(outN fs s n r).getD i 0
section
variable {fs : List FT} {s : P3} {n r j : Nat} {F : List Int} {L : List Bool} {R : List Int}
theorem InvR.start (fs:List FT)(s:P3)(n r:Nat)(F:List Int):InvR fs s n r F 0 (inN fs s n r) (outN fs s n r) where
 lenL:=inN_length r
 lenR:=outN_length r
 inn i _:=by simp
 out i _:=by simp
theorem getD_set {α:Type} (l:List α)(i j:Nat)(x d:α):(l.set j x).getD i d=if i=j/\j<l.length then x else l.getD i d:=by
 rw[List.getD_eq_getElem?_getD,List.getElem?_set,List.getD_eq_getElem?_getD];by_cases h:j=i
 ·subst h;rw[if_pos rfl];split
  ·next h=>rw[if_pos ⟨rfl,h⟩];rfl
  ·next h=>rw[if_neg fun e=>h e.2,List.getElem?_eq_none (by omega)]
 ·rw[if_neg h,if_neg fun e=>h e.1.symm]
theorem InvR.step (h:InvR fs s n r F j L R)(hj:j<F.length)(h0:0<=F[j])(hn:F[j]<(n:Int)):InvR fs s n r F (j+1) (L.set F[j].toNat true) (R.set F[j].toNat ((r+1:Nat):Int)):=by
 have ht:∀ x,x∈F.take (j+1)↔x∈F.take j\/x=F[j]:=fun x=>by rw[List.take_succ_eq_append_getElem hj,List.mem_append,List.mem_singleton]
 have hlt:F[j].toNat<n:=by omega
 refine⟨by rw[List.length_set,h.lenL],by rw[List.length_set,h.lenR],fun i hi=>?_,fun i hi=>?_⟩
 ·rw[getD_set,h.lenL];by_cases e:i=F[j].toNat
  ·have:(i:Int)∈F.take (j+1):=(ht _).2 (.inr (by omega));rw[if_pos ⟨e,hlt⟩,decide_eq_true this,Bool.or_true]
  ·rw[if_neg fun h=>e h.1,h.inn i hi];congr 1
   have:¬ (i:Int)=F[j]:=by omega
   rw[decide_eq_decide,ht];simp only[this,or_false]
 ·rw[getD_set,h.lenR];by_cases e:i=F[j].toNat
  ·rw[if_pos ⟨e,hlt⟩,if_pos ((ht _).2 (.inr (by omega)))]
  ·rw[if_neg fun h=>e h.1,h.out i hi];have:¬ (i:Int)=F[j]:=by omega
   have e2:(i:Int)∈F.take (j+1)↔(i:Int)∈F.take j:=by rw[ht];simp only[this,or_false]
   simp only[e2]
theorem InvR.done (h:InvR fs s n r F F.length L R)(hF:∀ i:Nat,i<n->((i:Int)∈F↔newS fs s (inN fs s n r) i=true)):L=inN fs s n (r+1)/\R=outN fs s n (r+1):=by
 constructor
 ·refine ext_bool (by rw[h.lenL,inN_length]) fun i hi=>?_;rw[h.lenL]at hi;rw[h.inn i hi,inN_succ hi,List.take_length];congr 1
  rw[Bool.eq_iff_iff,decide_eq_true_eq];exact hF i hi
 ·refine ext_int (by rw[h.lenR,outN_length]) fun i hi=>?_;rw[h.lenR]at hi;rw[h.out i hi,outN_succ hi,List.take_length];by_cases e:newS fs s (inN fs s n r) i=true
  ·rw[if_pos ((hF i hi).2 e),if_pos e]
  ·rw[if_neg fun hm=>e ((hF i hi).1 hm),if_neg e]
theorem endS_of (hF:∀ i:Nat,i<n->newS fs s (inN fs s n r) i=false):outN fs s n r=solveR fs s n:=EndS.solve hF
theorem cnt_step {i:Nat} (hi:i<n)(h:newS fs s (inN fs s n r) i=true):cntT (inN fs s n r)<cntT (inN fs s n (r+1)) :=
 cntT_lt (by rw[inN_length,inN_length]) (fun j hj e=>inN_mono1 r (by rwa[inN_length]at hj) e)
  ⟨i,by rw[inN_length];exact hi,by rw[<- getD_ft (by rw[inN_length];exact hi)];exact newS_not h,by rw[inN_succ hi,h,Bool.or_true]⟩
theorem cnt_max (fs:List FT)(s:P3)(n r:Nat):cntT (inN fs s n r)<=n:=by
 have:=cntT_le (inN fs s n r);rwa[inN_length]at this
theorem new_next {i:Nat} (hi:i<n)(h:newS fs s (inN fs s n (r+1)) i=true):∃ hf:i<fs.length,∃ k:Nat,k<n/\newS fs s (inN fs s n r) k=true/\(k:Int)∈fs[i].named:=by
 have hnot:=newS_not h;rw[getD_ft (by rw[inN_length];exact hi),inN_succ hi,Bool.or_eq_false_iff]at hnot;obtain⟨h1,h2⟩:=hnot;unfold newS at h h2;rw[Bool.and_eq_true]at h;replace h:=h.2;rw[getD_ft (by rw[inN_length];exact hi),h1,Bool.not_false,Bool.true_and]at h2;cases hf:fs[i]? with
 | none=>rw[hf]at h;cases h
 | some f =>
  rw[hf]at h h2;dsimp only at h h2;obtain⟨hfl,hfe⟩:=List.getElem?_eq_some_iff.1 hf;refine⟨hfl,?_⟩;rw[hfe];refine Classical.byContradiction fun hno=>?_;rw[holdF_congr s _ (inN fs s n r) f fun k hk=>?_,h2]at h
  ·cases h
  ·refine Classical.byContradiction fun hd=>hno ?_;unfold inAt at hd;by_cases h0:0<=k
   ·simp only[h0,decide_true,Bool.true_and]at hd;by_cases hkn:k.toNat<n
    ·rw[inN_succ hkn]at hd;refine⟨k.toNat,hkn,?_,by rwa[Int.toNat_of_nonneg h0]⟩;cases hn:newS fs s (inN fs s n r) k.toNat with
     | true=>rfl
     | false=>rw[hn,Bool.or_false]at hd;exact absurd rfl hd
    ·have e:∀ q,(inN fs s n q).getD k.toNat false=false:=fun q=>by
      rw[List.getD_eq_getElem?_getD,List.getElem?_eq_none (by rw[inN_length];omega)];rfl
     rw[e,e]at hd;exact absurd rfl hd
   ·simp[h0]at hd
def Wide (fs:List FT)(s:P3)(n r:Nat)(W:List Int):Prop:=∀ i:Nat,i<n->newS fs s (inN fs s n r) i=true->(i:Int)∈W
def UsOf (fs:List FT)(n:Nat)(U:List (List Int)):Prop:=∀ k:Nat,k<n->∀ x:Int,x∈U.getD k []↔∃ i:Nat,∃ hf:i<fs.length,x=(i:Int)/\i<n/\(k:Int)∈fs[i].named
theorem Wide.next {U:List (List Int)} (hU:UsOf fs n U) {N:List Int} (hF:∀ i:Nat,i<n->((i:Int)∈F↔newS fs s (inN fs s n r) i=true))(hN:∀ x,x∈N↔∃ k∈F,x∈U.getD k.toNat []):Wide fs s n (r+1) N:=fun i hi h=>by
 obtain⟨hf,k,hk,hn,hm⟩:=new_next hi h;exact(hN _).2 ⟨(k:Int),(hF k hk).2 hn,by rw[Int.toNat_natCast];exact(hU k hk _).2 ⟨i,hf,rfl,hi,hm⟩⟩
theorem Wide.fresh {W:List Int} (h:Wide fs s n r W) {i:Nat} (hi:i<n):((i:Int)∈W.filter fun x=>newS fs s (inN fs s n r) x.toNat)↔newS fs s (inN fs s n r) i=true:=by
 rw[List.mem_filter,Int.toNat_natCast];exact⟨fun h=>h.2,fun e=>⟨h i hi e,e⟩⟩
end
end Go.Proofs.YtlhaghoajpglaaaGreat
namespace Go.Proofs.YtlhaghoajpglaaaGreat
open Go Go.RowKit Go.Maps
abbrev RwV (ι:Type):=List ι × Value
def rwV {ι:Type} (x:RwV ι):Value:=x.2
def optR {ι:Type} (l:List ι):Option (List ι):=if l.isEmpty then none else some l
structure Elm (ι:Type) where
 e:TypeId
 sz:Nat
 enc:ι->List Value
 len:∀ x,(enc x).length=sz
 pos:0<sz
section
variable {κ ι : Type}
structure MRows (E:Elm ι)(w:World)(B:Nat)(lw:List (κ × RwV ι)):Prop where
 rows:∀ x∈lw,x.2.1≠[]/\Own w B E.e E.sz x.2.2 (x.2.1.flatMap E.enc)
 apart:∀ x∈lw,∀ y∈lw,x.1≠y.1->x.2.2.ownBlock≠y.2.2.ownBlock
theorem flat_len (E:Elm ι):∀ l:List ι,(l.flatMap E.enc).length=l.length*E.sz
 | []=>by simp
 | x::l=>by rw[List.flatMap_cons,List.length_append,E.len,flat_len E l,List.length_cons,Nat.add_mul];omega
theorem own_someE {w:World} {B:Nat} {E:Elm ι} {v:Value} {l:List ι} (h:Own w B E.e E.sz v (l.flatMap E.enc))(hl:l≠[]):∃ g,v.ownBlock=some g:=by
 obtain⟨n,h⟩:=h;rcases h.2 with⟨rfl,rfl⟩ | ⟨g',cap,cur,rfl,hbg,hg',r⟩
 ·have:=h.1;rw[flat_len,Nat.zero_mul]at this;rcases Nat.mul_eq_zero.1 this with h0 | h0
  ·exact absurd (List.eq_nil_of_length_eq_zero h0) hl
  ·have:=E.pos;omega
 ·exact⟨g',rfl⟩
theorem MRows.keep {E:Elm ι} {w w':World} {B:Nat} {lw:List (κ × RwV ι)} (h:MRows E w B lw)(hs:∀ x,B<=x->x<w.heap.size->(∃ cs,w.heap[x]?=some (.cells cs E.e (0,0)))->w'.heap[x]?=w.heap[x]?):MRows E w' B lw :=
 ⟨fun x hx=>⟨(h.rows x hx).1,(h.rows x hx).2.keepB fun g hg=>by
  have ho:=(h.rows x hx).2;have hb:=ho.block g hg
  exact hs g hb.1 hb.2 (by
   obtain⟨n,ho⟩:=ho;rcases ho.2 with⟨h0,_⟩ | ⟨g',cap,cur,h0,hbg,hg',r⟩
   ·rw[h0]at hg;cases hg
   ·rw[h0]at hg;injection hg with hg
    subst hg;exact⟨_,hg'⟩)⟩,h.apart⟩
variable [DecidableEq κ]
def MR (P:Program)(k:TypeId)(kv:κ->Value)(E:Elm ι)(w:World)(B b:Nat)(f:κ->List ι):Prop :=
 ∃ lw:List (κ × RwV ι),Mp P k kv rwV w b lw/\MRows E w B lw/\∀ n,(lookA lw n).map (·.1)=optR (f n)
variable {P : Program} {k : TypeId} {kv : κ -> Value} {E : Elm ι} {w w' : World} {B b : Nat} {f : κ -> List ι}
theorem MR.made (w:World)(B:Nat):MR P k kv E (w.alloc (.map #[] 0)) B w.heap.size (fun _:κ=>([]:List ι)) :=
 ⟨[],Mp.made w,⟨(fun x hx=>by cases hx),fun x hx=>by cases hx⟩,fun n=>rfl⟩
theorem MR.lt (h:MR P k kv E w B b f):b<w.heap.size:=by
 obtain⟨lw,h1,_⟩:=h;exact h1.lt
theorem MR.notCells (h:MR P k kv E w B b f):∀ cs t fr,w.heap[b]?≠some (.cells cs t fr):=by
 obtain⟨lw,h1,_⟩:=h;exact h1.notCells
theorem MR.keep (h:MR P k kv E w B b f)(hb:w'.heap[b]?=w.heap[b]?)(hs:∀ x,B<=x->x<w.heap.size->(∃ cs,w.heap[x]?=some (.cells cs E.e (0,0)))->w'.heap[x]?=w.heap[x]?):MR P k kv E w' B b f:=by
 obtain⟨lw,h1,h2,h3⟩:=h;exact⟨lw,h1.same hb,h2.keep hs,h3⟩
theorem MR.up (h:MR P k kv E w B b f)(hb:Below w.heap.size w w'):MR P k kv E w' B b f:=h.keep (hb.block _ h.lt) fun x _ hx _=>hb.block x hx
theorem MR.turned (h:MR P k kv E w B b f) {c:Nat} (ht:Turned w w' c)(hb:b≠c)(hc:∀ cs t fr,w.heap[c]?≠some (.cells cs t fr)):MR P k kv E w' B b f :=
 h.keep (ht.kept.block _ hb) fun x _ _ hx=>ht.kept.block x fun e=>by
  obtain⟨cs,hx⟩:=hx;exact hc _ _ _ (e▸hx)
theorem MR.congr (h:MR P k kv E w B b f) {g:κ->List ι} (e:∀ n,f n=g n):MR P k kv E w B b g:=by
 have:f=g:=funext e;rw[<- this];exact h
theorem MR.look (h:MR P k kv E w B b f)(K:Keyed P k)(inj:∀ a b,kv a=kv b->a=b) {t e:TypeId} (ht:P.underlying t=some (.map k e))(hz:(zeroValue e).run P w = .ok (.slice none 0 0) w) {n:κ} (hn:∃ q,keyOf P k (kv n)=some q) :
  ∃ v,(Instr.lookup t (.map (some b)) (kv n) false).run P w = .ok v w/\Own w B E.e E.sz v ((f n).flatMap E.enc)/\∃ lw:List (κ × RwV ι),Mp P k kv rwV w b lw/\MRows E w B lw/\(∀ n,(lookA lw n).map (·.1)=optR (f n))/\(lookA lw n=some (f n,v)\/(lookA lw n=none/\f n=[]/\v = .slice none 0 0)):=by
 obtain⟨lw,h1,h2,h3⟩:=h;have hl:=h3 n;have hrun:=h1.look K inj ht hz false hn;cases hlk:lookA lw n with
 | none =>
  rw[hlk]at hl hrun
  have hw:f n=[]:=by
   unfold optR at hl;split at hl
   ·next h=>exact List.isEmpty_iff.1 h
   ·cases hl
  exact⟨.slice none 0 0,hrun,by rw[hw];exact Own.nil _ _ _ _,lw,h1,h2,h3,.inr ⟨hlk,hw,rfl⟩⟩
 | some x =>
  rw[hlk]at hl hrun
  have hw:x.1=f n:=by
   unfold optR at hl;split at hl
   ·cases hl
   ·injection hl
  have hm:=h2.rows _ (look_mem hlk);refine⟨x.2,hrun,by rw[<- hw];exact hm.2,lw,h1,h2,h3,.inl ?_⟩;rw[hlk,<- hw]
end
def NoPt (w:World)(b:Nat):Prop:=∀ cs,w.heap[b]?≠some (.cells cs 32 (0,0))
def FS (lo:Nat)(w:World)(b:Nat):Prop:=lo<=b/\b<w.heap.size/\NoPt w b
abbrev PKept (M:Nat->Prop) (B:Nat) (w w':World):Prop:=QKept 32 M B w w'
section
variable {w w' w'' : World} {M : Nat -> Prop} {B lo : Nat}
theorem FS.same (h:PKept M B w w')(hM:∀ x,M x->x<lo):Same (FS lo w) w w':=fun b hb=>h.block b (.inr ⟨fun hm=>by have:=hM b hm;have:=hb.1;omega,hb.2.1,hb.2.2⟩)
theorem FS.keep (h:PKept M B w w')(hM:∀ x,M x->x<lo) {b:Nat} (hb:FS lo w b):FS lo w' b :=
 ⟨hb.1,Nat.lt_of_lt_of_le hb.2.1 h.size,fun cs=>by rw[FS.same h hM b hb];exact hb.2.2 cs⟩
theorem FS.mono {lo':Nat} (h:lo<=lo') {b:Nat} (hb:FS lo' w b):FS lo w b:=⟨Nat.le_trans h hb.1,hb.2⟩
theorem FS.ext (h:Ext w w') {b:Nat} (hb:FS lo w b):FS lo w' b:=⟨hb.1,Nat.lt_of_lt_of_le hb.2.1 h.size,fun cs=>by rw[h.block b hb.2.1];exact hb.2.2 cs⟩
theorem Own.fs {e:TypeId} {sz:Nat} {v:Value} {xs:List Value} (h:Own w lo e sz v xs)(he:e≠32):Sl (FS lo w) w sz v xs:=by
 obtain⟨n,ho⟩:=h;refine ownsRow_sl ho _ fun g hg=>⟨(ho.lt g hg).1,(ho.lt g hg).2,fun cs hc=>?_⟩;obtain⟨cur,h2⟩:=(show Own w lo e sz v xs from⟨n,ho⟩).typed hg;rw[hc]at h2;injection h2 with h2
 injection h2 with _ h2 _
 exact he h2.symm
end
structure FRow (lo:Nat)(w:World)(q:List (FT × FV3))(pv:Value):Prop where
 row:Own w lo 128 4 pv (q.flatMap fC)
 parts:∀ x∈q,FTAt (fun b=>FS lo w b/\pv.ownBlock≠some b) w x.1 x.2
section
variable {w w' w1 w3 : World} {M : Nat -> Prop} {B lo n0 : Nat} {q : List (FT × FV3)} {pv v' : Value} {x : FT × FV3}
theorem FRow.nil (lo:Nat)(w:World):FRow lo w [] (.slice none 0 0):=⟨Own.nil _ _ _ _,fun x hx=>by cases hx⟩
theorem FRow.keep (h:FRow lo w q pv)(hk:PKept M B w w')(hM:∀ x,M x->x<lo):FRow lo w' q pv :=
 ⟨h.row.keepOwn fun g hg=>FS.same hk hM g ⟨(h.row.block g hg).1,(h.row.block g hg).2,fun cs hc=>by
   obtain⟨cur,h2⟩:=h.row.typed hg;rw[hc]at h2;injection h2 with h2
   injection h2 with _ h2 _
   exact absurd h2 (by decide)⟩,
  fun x hx=>((h.parts x hx).same fun b hb=>FS.same hk hM b hb.1).mono fun b hb=>⟨FS.keep hk hM hb.1,hb.2⟩⟩
theorem FRow.ext (h:FRow lo w q pv)(hx:Ext w w'):FRow lo w' q pv :=
 ⟨h.row.below hx,fun x hm=>((h.parts x hm).same fun b hb=>hx.block b hb.1.2.1).mono fun _b hb=>⟨hb.1.ext hx,hb.2⟩⟩
theorem FRow.above (h:FRow lo w q pv)(hs:∀ b,lo<=b->b<w.heap.size->w'.heap[b]?=w.heap[b]?)(hz:w.heap.size<=w'.heap.size):FRow lo w' q pv :=
 ⟨h.row.keepOwn fun g hg=>hs g (h.row.block g hg).1 (h.row.block g hg).2,fun x hx=>((h.parts x hx).same fun b hb=>hs b hb.1.1 hb.1.2.1).mono fun b hb=>⟨⟨hb.1.1,Nat.lt_of_lt_of_le hb.1.2.1 hz,fun cs=>by rw[hs b hb.1.1 hb.1.2.1];exact hb.1.2.2 cs⟩,hb.2⟩⟩
theorem FRow.add (h:FRow lo w1 q pv)(hk:∀ b,b<w1.heap.size->pv.ownBlock≠some b->w3.heap[b]?=w1.heap[b]?)(hz:w1.heap.size<=w3.heap.size)(ho:Own w3 lo 128 4 v' (q.flatMap fC++fC x))
  (hb:∀ g,v'.ownBlock=some g->pv.ownBlock=some g\/w1.heap.size<=g) (hx:FTAt (FS n0 w1) w1 x.1 x.2) (hn0:lo<=n0) (hpv:∀ g,pv.ownBlock=some g->g<n0):FRow lo w3 (q++[x]) v':=by
 have hm:∀ b,(FS lo w1 b/\pv.ownBlock≠some b)->(FS lo w3 b/\v'.ownBlock≠some b):=fun b hb'=>⟨⟨hb'.1.1,Nat.lt_of_lt_of_le hb'.1.2.1 hz,fun cs=>by rw[hk b hb'.1.2.1 hb'.2];exact hb'.1.2.2 cs⟩,fun e=>by
  rcases hb b e with e2 | e2
  ·exact hb'.2 e2
  ·have:=hb'.1.2.1;omega⟩
 refine⟨by rw[List.flatMap_append];simpa using ho,fun y hy=>?_⟩;rcases List.mem_append.1 hy with hy | hy
 ·exact((h.parts y hy).same fun b hb'=>hk b hb'.1.2.1 hb'.2).mono hm
 ·obtain rfl:=List.mem_singleton.1 hy;have h2:∀ b,FS n0 w1 b->(FS lo w1 b/\pv.ownBlock≠some b):=fun b hb'=>⟨hb'.mono hn0,fun e=>by have:=hpv b e;have:=hb'.1;omega⟩;exact((hx.mono h2).same fun b hb'=>hk b hb'.1.2.1 hb'.2).mono hm
theorem FRow.forms (h:FRow lo w q pv):∃ p:List (FT × FV3),p.map (·.1)=q.map (·.1)/\(∀ x∈p,FTAt (FS lo w) w x.1 x.2)/\Sl (FS lo w) w 4 pv (p.flatMap fC) :=
 ⟨q,rfl,fun x hx=>(h.parts x hx).mono fun b hb=>hb.1,h.row.fs (by decide)⟩
end
def GrAt (S:Nat->Prop)(w:World)(ps:List P3)(fs:List FT)(pv fv:Value):Prop :=
 Sl S w 3 pv (pcs ps)/\∃ q:List (FT × FV3),q.map (·.1)=fs/\(∀ x∈q,FTAt S w x.1 x.2)/\Sl S w 4 fv (q.flatMap fC)
theorem GrAt.same {S:Nat->Prop} {w w':World} {ps:List P3} {fs:List FT} {pv fv:Value} (h:GrAt S w ps fs pv fv)(hs:Same S w w'):GrAt S w' ps fs pv fv:=by
 obtain⟨h1,q,h2,h3,h4⟩:=h;exact⟨h1.same hs,q,h2,fun x hx=>(h3 x hx).same hs,h4.same hs⟩
theorem GrAt.mono {S T:Nat->Prop} {w:World} {ps:List P3} {fs:List FT} {pv fv:Value} (h:GrAt S w ps fs pv fv)(hs:∀ b,S b->T b):GrAt T w ps fs pv fv:=by
 obtain⟨h1,q,h2,h3,h4⟩:=h;exact⟨h1.mono hs,q,h2,fun x hx=>(h3 x hx).mono hs,h4.mono hs⟩
theorem GrAt.up {w w':World} {ps:List P3} {fs:List FT} {pv fv:Value} (h:GrAt (· < w.heap.size) w ps fs pv fv)(hb:Below w.heap.size w w'):GrAt (· < w'.heap.size) w' ps fs pv fv :=
 (h.same (Same.below hb)).mono fun _ h=>Nat.lt_of_lt_of_le h hb.size
abbrev nuV:Nat->Value:=fun n => .int .i64 n
theorem look_zip (p:P3):∀ (ps:List P3)(k:Nat),lookA (ps.zipIdx k) p=if p∈ps then some (k+numD ps p)else none
 | [],_=>rfl
 | x::ps,k=>by
  rw[List.zipIdx_cons];unfold lookA;by_cases h:x=p
  ·subst h;simp[numD,List.findIdx_cons]
  ·rw[if_neg h,look_zip p ps (k+1)];have hp:¬ p=x:=fun e=>h e.symm;simp only[List.mem_cons,hp,false_or,numD,List.findIdx_cons,h,decide_false,cond_false];split
   ·congr 1;omega
   ·rfl
theorem put_zip (p:P3)(ps:List P3)(h:p∉ps):putA (ps.zipIdx 0) p ps.length=(ps++[p]).zipIdx 0:=by
 rw[put_miss (fun x hx e=>h (by
  have:=List.mem_map_of_mem (f:=Prod.fst) hx;rw[List.zipIdx_map_fst]at this;rw[<- e];exact this)),List.zipIdx_append]
 simp
theorem numD_new (ps:List P3)(p:P3)(h:p∉ps):numD ps p=ps.length:=by
 unfold numD;rw[List.findIdx_eq_length];intro x hx;simp only[decide_eq_false_iff_not];exact fun e=>h (e▸hx)
structure WkAt (w:World)(wp am B:Nat)(tv fi sm:Value)(ps:List P3)(pv fv:Value):Prop where
 box:Blk w wp #[tv,fi,sm,.map (some am),pv,fv,.int .i64 0] 251
 num:Mp Tryz.prog 32 pV nuV w am (ps.zipIdx 0)
 pts:Own w B 32 3 pv (pcs ps)
abbrev WM (wp am:Nat):Nat->Prop:=fun x=>x=wp\/x=am
section
variable {w w' : World} {wp am B : Nat} {tv fi sm pv fv pv' fv' : Value} {ps : List P3} {p : P3}
theorem WkAt.ext (h:WkAt w wp am B tv fi sm ps pv fv)(hx:Ext w w'):WkAt w' wp am B tv fi sm ps pv fv:=⟨h.box.below hx,h.num.below hx,h.pts.below hx⟩
theorem WkAt.same (h:WkAt w wp am B tv fi sm ps pv fv)(h1:w'.heap[wp]?=w.heap[wp]?)(h2:w'.heap[am]?=w.heap[am]?)(h3:∀ g,pv.ownBlock=some g->w'.heap[g]?=w.heap[g]?):WkAt w' wp am B tv fi sm ps pv fv:=⟨h1.trans h.box,h.num.same h2,h.pts.keepOwn h3⟩
theorem WkAt.ne (h:WkAt w wp am B tv fi sm ps pv fv):wp≠am:=fun e=>h.num.notCells _ _ _ (e▸h.box)
theorem WkAt.ptNe (h:WkAt w wp am B tv fi sm ps pv fv):∀ g,pv.ownBlock=some g->g≠wp/\g≠am:=fun g hg=>by
 obtain⟨cur,h2⟩:=h.pts.typed hg;refine⟨fun e=>?_,fun e=>?_⟩
 ·subst e;rw[show w.heap[g]?=_ from h.box]at h2;injection h2 with h2
  injection h2 with _ h2 _
  exact absurd h2 (by decide)
 ·subst e;exact h.num.notCells _ _ _ h2
end
abbrev KX (wp am:Nat) (w:World) (pv:Value) (x:Nat):Prop:=x<w.heap.size/\x≠wp/\x≠am/\pv.ownBlock≠some x
structure Fine (wp am:Nat)(w w':World)(pv pv':Value):Prop where
 kept:Kept (KX wp am w pv) w w'
 wher:∀ g,pv'.ownBlock=some g->pv.ownBlock=some g\/w.heap.size<=g
section
variable {w w' w'' w0 : World} {wp am B B' : Nat} {tv fi sm pv fv pv' pv'' v : Value} {ps : List P3} {e : TypeId} {sz : Nat} {xs : List Value}
theorem Fine.of (wp am:Nat)(pv:Value)(h:Ext w w'):Fine wp am w w' pv pv:=⟨Below.kept h fun _ hx=>hx.1,fun _ hg => .inl hg⟩
theorem Fine.trans (h:Fine wp am w w' pv pv')(k:Fine wp am w' w'' pv' pv''):Fine wp am w w'' pv pv'' :=
 ⟨h.kept.trans (k.kept.mono fun x (hx:KX wp am w pv x)=>⟨Nat.lt_of_lt_of_le hx.1 h.kept.size,hx.2.1,hx.2.2.1,fun e=>by
   rcases h.wher x e with e2 | e2
   ·exact hx.2.2.2 e2
   ·have:=hx.1;omega⟩),
  fun g hg=>by
   rcases k.wher g hg with e | e
   ·exact h.wher g e
   ·exact .inr (Nat.le_trans h.kept.size e)⟩
theorem Fine.size (h:Fine wp am w w' pv pv'):w.heap.size<=w'.heap.size:=h.kept.size
theorem Fine.own (h:Fine wp am w0 w pv pv')(ho:Own w w0.heap.size e sz v xs)(hg:w.grownBy w' v.ownBlock):Fine wp am w0 w' pv pv' :=
 ⟨⟨hg.os.trans h.kept.os,hg.tape.trans h.kept.tape,hg.output.trans h.kept.output,Nat.le_trans h.kept.size hg.size,fun x hx=>(hg.block x (Nat.lt_of_lt_of_le hx.1 h.kept.size) fun e=>by have:=(ho.block x e.symm).1;have:=hx.1;omega).trans (h.kept.block x hx)⟩,h.wher⟩
theorem Fine.set (h:Fine wp am w0 w pv pv') {x i:Nat} (hx:w0.heap.size<=x)(u:Value):Fine wp am w0 (w.setCell ⟨x,i,none⟩ u) pv pv' :=
 ⟨h.kept.set (fun hk=>by have h1:x<w0.heap.size:=hk.1;omega) _,h.wher⟩
theorem Fine.pk (h:Fine wp am w w' pv pv')(hw:WkAt w wp am B tv fi sm ps pv fv)(hB:B<=wp/\B<=am):PKept (WM wp am) B w w':=h.kept.mono fun x hx=>by
 rcases hx with hx | ⟨h1,h2,h3⟩
 ·exact⟨by have:=hw.box.lt;omega,by omega,by omega,fun e=>by have:=(hw.pts.block x e).1;omega⟩
 ·refine⟨h2,fun e=>h1 (.inl e),fun e=>h1 (.inr e),fun e=>?_⟩;obtain⟨c,hc⟩:=hw.pts.typed e;exact h3 c hc
theorem WkAt.un (h:WkAt w wp am B tv fi sm ps pv fv) {x:Nat} {cs:Array Value} {fr:Nat × Nat} (hx:w.heap[x]?=some (.cells cs e fr))(he:e≠32)(he2:e≠251):KX wp am w pv x:=by
 refine⟨(Array.getElem?_eq_some_iff.1 hx).1,fun e=>?_,fun e=>?_,fun e=>?_⟩
 ·subst e;rw[show w.heap[x]?=_ from h.box]at hx;injection hx with hx
  injection hx with _ hx _
  exact he2 hx.symm
 ·subst e;exact h.num.notCells _ _ _ hx
 ·obtain⟨c,hc⟩:=h.pts.typed e;rw[hc]at hx;injection hx with hx
  injection hx with _ hx _
  exact he hx.symm
theorem Fine.blk (h:Fine wp am w w' pv pv')(hw:WkAt w wp am B tv fi sm ps pv fv) {x:Nat} {cs:Array Value} (hx:Blk w x cs e)(he:e≠32)(he2:e≠251):Blk w' x cs e:=(h.kept.block x (hw.un hx he he2)).trans hx
theorem Fine.row (h:Fine wp am w w' pv pv')(hw:WkAt w wp am B tv fi sm ps pv fv)(ho:Own w B' e sz v xs)(he:e≠32)(he2:e≠251):Own w' B' e sz v xs:=ho.keepOwn fun g hg=>by
 obtain⟨c,hc⟩:=ho.typed hg;exact h.kept.block g (hw.un hc he he2)
theorem WkAt.sl (hw:WkAt w wp am B tv fi sm ps pv fv)(ho:Own w B' e sz v xs)(he:e≠32)(he2:e≠251):Sl (KX wp am w pv) w sz v xs:=by
 obtain⟨n,h⟩:=ho;refine ownsRow_sl h _ fun g hg=>?_;obtain⟨c,hc⟩:=(show Own w B' e sz v xs from⟨n,h⟩).typed hg;exact hw.un hc he he2
theorem WkAt.grown (h:WkAt w wp am B tv fi sm ps pv fv)(ho:Own w B' e sz v xs)(he:e≠32)(he2:e≠251)(hg:w.grownBy w' v.ownBlock):WkAt w' wp am B tv fi sm ps pv fv:=by
 refine h.same (hg.block wp h.box.lt fun e=>?_) (hg.block am h.num.lt fun e=>?_) fun g hgp=>hg.block g (h.pts.block g hgp).2 fun e=>?_
 ·obtain⟨c,hc⟩:=ho.typed e.symm;exact(h.un hc he he2).2.1 rfl
 ·exact ho.notMap h.num.notCells am e.symm rfl
 ·obtain⟨c,hc⟩:=ho.typed e.symm;exact(h.un hc he he2).2.2.2 hgp
theorem WkAt.setBox (h:WkAt w wp am B tv fi sm ps pv fv) {x i:Nat} {cs:Array Value} (hx:Blk w x cs e)(he:e≠32)(he2:e≠251)(u:Value):WkAt (w.setCell ⟨x,i,none⟩ u) wp am B tv fi sm ps pv fv:=by
 have hu:=h.un hx he he2;exact h.same (Below.heap_setCell _ _ _ _ fun e=>hu.2.1 e.symm) (Below.heap_setCell _ _ _ _ fun e=>hu.2.2.1 e.symm) fun g hg=>Below.heap_setCell _ _ _ _ fun e=>hu.2.2.2 (by rw[hg,show g=x from e])
theorem Own.setBox (ho:Own w B' e sz v xs) {x i:Nat} {cs:Array Value} {e2:TypeId} (hx:Blk w x cs e2)(he:e≠e2)(u:Value):Own (w.setCell ⟨x,i,none⟩ u) B' e sz v xs:=ho.keepOwn fun g hg=>Below.heap_setCell _ _ _ _ fun e3=>by
 obtain⟨c,hc⟩:=ho.typed hg;rw[show g=x from e3,show w.heap[x]?=_ from hx]at hc;injection hc with hc
 injection hc with _ hc _
 exact he hc.symm
end
end Go.Proofs.YtlhaghoajpglaaaGreat
