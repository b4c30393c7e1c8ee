/- Lemmas for the claim, no condition. -/
import Derived.DeepKeys4
import Derived.RangeFuncGives
import Derived.RangeFuncNested
import Derived.RangeFuncLeaves
import Derived.WalkKit
import Derived.OwnWalkIn
import Derived.TacticsInMore
import Derived.RegionIn
import Derived.LoopNIn
import Derived.LoopIn
import Derived.Shelf.Small.Strs
import Derived.Shelf.LaysM
import Derived.Test.YtlhaghoajpglaaaGreatYXTells0
import Derived.Test.YtlhaghoajpglaaaGreatYXTells1
import Derived.Test.YtlhaghoajpglaaaGreatYXTells2
namespace Go.Proofs.YtlhaghoajpglaaaGreat
open Go Go.RowKit
def ic (l:List Int):List Value:=l.map fun n => .int .i64 n
def pC (p:P3):List Value:=[.string p.t,.string p.i,.string p.r]
def pV (p:P3):Value := .agg #[.string p.t,.string p.i,.string p.r]
theorem pC_length (p:P3):(pC p).length=3:=rfl
theorem pC_one (p:P3):∀ u∈pC p,u.oneCell'=true:=by
 intro u hu;simp only[pC,List.mem_cons,List.not_mem_nil,or_false]at hu;rcases hu with rfl | rfl | rfl <;> rfl
def pcs (l:List P3):List Value:=l.flatMap pC
def ordP (a b:P3):Int:=orL [cmpS a.t b.t,cmpS a.i b.i,cmpS a.r b.r]
def ltP (a b:P3):Bool:=if a.t=b.t then(if a.i=b.i then ltS a.r b.r else ltS a.i b.i)else ltS a.t b.t
theorem lt_ordP (a b:P3):Go.Proofs.ltOf ordP a b=ltP a b:=by
 unfold Go.Proofs.ltOf ordP ltP;rw[Bool.eq_iff_iff,decide_eq_true_eq];simp only[orL,cmpS_zero];by_cases h1:a.t=b.t
 ·simp only[h1,if_true];by_cases h2:a.i=b.i
  ·simp only[h2,if_true];by_cases h3:a.r=b.r
   ·simp[h3,ltS_irr]
   ·simp only[h3,if_false];exact cmpS_neg _ _
  ·simp only[h2,if_false];exact cmpS_neg _ _
 ·simp only[h1,if_false];exact cmpS_neg _ _
theorem ltP_irr (a:P3):ltP a a=false:=by simp[ltP,ltS_irr]
theorem ltP_total {a b:P3} (h:ltP a b=false)(hne:a≠b):ltP b a=true:=by
 unfold ltP at *;by_cases h1:a.t=b.t
 ·rw[if_pos h1]at h;rw[if_pos h1.symm];by_cases h2:a.i=b.i
  ·rw[if_pos h2]at h;rw[if_pos h2.symm];refine ltS_total h fun h3=>hne ?_;cases a;cases b;simp_all
  ·rw[if_neg h2]at h;rw[if_neg (Ne.symm h2)];exact ltS_total h h2
 ·rw[if_neg h1]at h;rw[if_neg (Ne.symm h1)];exact ltS_total h h1
theorem ltP_trans {a b c:P3} (h:ltP a b=true)(k:ltP b c=true):ltP a c=true:=by
 unfold ltP at *;by_cases h1:a.t=b.t <;> by_cases k1:b.t=c.t
 ·rw[if_pos h1]at h;rw[if_pos k1]at k;rw[if_pos (h1.trans k1)];by_cases h2:a.i=b.i <;> by_cases k2:b.i=c.i
  ·rw[if_pos h2]at h;rw[if_pos k2]at k;rw[if_pos (h2.trans k2)];exact ltS_trans h k
  ·rw[if_neg k2]at k;rw[if_neg (h2▸k2),h2];exact k
  ·rw[if_neg h2]at h;rw[if_neg (k2▸h2),<- k2];exact h
  ·rw[if_neg h2]at h;rw[if_neg k2]at k;have:=ltS_trans h k;rw[if_neg (ltS_ne this)];exact this
 ·rw[if_neg k1]at k;rw[if_neg (h1▸k1),h1];exact k
 ·rw[if_neg h1]at h;rw[if_neg (k1▸h1),<- k1];exact h
 ·rw[if_neg h1]at h;rw[if_neg k1]at k;have:=ltS_trans h k;rw[if_neg (ltS_ne this)];exact this
theorem swoP:Go.Sort.SWO (Go.Proofs.ltOf ordP) where
 irrefl x:=by rw[lt_ordP];exact ltP_irr x
 trans x y z h k:=by rw[lt_ordP]at *;exact ltP_trans h k
 ntrans x y z h k:=by
  rw[lt_ordP]at *;cases hxz:ltP x z with
  | false=>rfl
  | true =>
   by_cases e1:x=y
   ·subst e1;rw[hxz]at k;cases k
   ·have h1:=ltP_total h e1;have h2:=ltP_trans h1 hxz;rw[h2]at k;cases k
def UpP (l:List P3):Prop:=l.Pairwise fun a b=>ltP a b=true
theorem up_sorted {l:List P3} (hs:l.Pairwise fun a b=>Go.Proofs.ltOf ordP b a=false)(hn:l.Nodup):UpP l:=by
 refine List.pairwise_iff_getElem.2 fun i j hi hj hij=>?_;have h1:=List.pairwise_iff_getElem.1 hs i j hi hj hij;have h2:=List.pairwise_iff_getElem.1 hn i j hi hj hij;rw[lt_ordP]at h1;exact ltP_total h1 (Ne.symm h2)
abbrev FV3:=Value × Value × Value
def fC (x:FT × FV3):List Value:=[.int .i64 x.1.k,x.2.1,x.2.2.1,x.2.2.2]
theorem fC_length (x:FT × FV3):(fC x).length=4:=rfl
mutual
def FTAt (S:Nat->Prop)(w:World):FT->FV3->Prop
 | .mk _ subs refs ps,v=>Sl S w 3 v.1 (pcs subs)/\Sl S w 1 v.2.1 (ic refs)/\∃ l:List FV3,FTsAt S w ps l/\Sl S w 4 v.2.2 ((ps.zip l).flatMap fC)
def FTsAt (S:Nat->Prop)(w:World):List FT->List FV3->Prop
 | [],l=>l=[]
 | r::rs,l=>∃ pv l',l=pv::l'/\FTAt S w r pv/\FTsAt S w rs l'
end
theorem ftsAt_zip {S:Nat->Prop} {w:World}:∀ {ps:List FT} {l:List FV3},FTsAt S w ps l->(ps.zip l).map (·.1)=ps/\∀ x∈ps.zip l,FTAt S w x.1 x.2
 | [],l,h=>by rw[FTsAt]at h;subst h;simp
 | r::rs,l,h=>by
  rw[FTsAt]at h;obtain⟨pv,l',rfl,h1,h2⟩:=h;obtain⟨h3,h4⟩:=ftsAt_zip h2;refine⟨by rw[List.zip_cons_cons,List.map_cons,h3],fun x hx=>?_⟩;rw[List.zip_cons_cons]at hx;rcases List.mem_cons.1 hx with rfl | hx
  ·exact h1
  ·exact h4 x hx
theorem ftsAt_of {S:Nat->Prop} {w:World}:∀ {q:List (FT × FV3)},(∀ x∈q,FTAt S w x.1 x.2)->FTsAt S w (q.map (·.1)) (q.map (·.2))
 | [],_=>by rw[List.map_nil,List.map_nil,FTsAt]
 | x::q,h=>by
  rw[List.map_cons,List.map_cons,FTsAt];exact⟨x.2,_,rfl,h x List.mem_cons_self,ftsAt_of fun y hy=>h y (List.mem_cons_of_mem _ hy)⟩
theorem FTAt.iff {S:Nat->Prop} {w:World} (r:FT)(v:FV3):FTAt S w r v↔Sl S w 3 v.1 (pcs r.subs)/\Sl S w 1 v.2.1 (ic r.refs)/\∃ q:List (FT × FV3),q.map (·.1)=r.ps/\(∀ x∈q,FTAt S w x.1 x.2)/\Sl S w 4 v.2.2 (q.flatMap fC):=by
 obtain⟨k,subs,refs,ps⟩:=r;rw[FTAt];constructor
 ·rintro⟨h1,h2,l,h3,h4⟩;exact⟨h1,h2,_,(ftsAt_zip h3).1,(ftsAt_zip h3).2,h4⟩
 ·rintro⟨h1,h2,q,h3,h4,h5⟩;refine⟨h1,h2,q.map (·.2),?_,?_⟩
  ·have:=ftsAt_of h4;rwa[h3]at this
  ·rw[show ps=q.map (·.1)from h3.symm,zip_maps];exact h5
theorem FTAt.same {S:Nat->Prop} {w w':World} {r:FT} {v:FV3} (h:FTAt S w r v)(hs:Same S w w'):FTAt S w' r v:=by
 induction r using FT.ind generalizing v with
 | h r ih =>
  obtain⟨h1,h2,q,h3,h4,h5⟩:=(FTAt.iff r v).1 h;exact(FTAt.iff r v).2 ⟨h1.same hs,h2.same hs,q,h3,fun x hx=>ih x.1 (by rw[<- h3];exact List.mem_map_of_mem hx) (h4 x hx),h5.same hs⟩
theorem FTAt.mono {S S':Nat->Prop} {w:World} {r:FT} {v:FV3} (h:FTAt S w r v)(hs:∀ b,S b->S' b):FTAt S' w r v:=by
 induction r using FT.ind generalizing v with
 | h r ih =>
  obtain⟨h1,h2,q,h3,h4,h5⟩:=(FTAt.iff r v).1 h;exact(FTAt.iff r v).2 ⟨h1.mono hs,h2.mono hs,q,h3,fun x hx=>ih x.1 (by rw[<- h3];exact List.mem_map_of_mem hx) (h4 x hx),h5.mono hs⟩
theorem FTAt.up {w w':World} {r:FT} {v:FV3} (h:FTAt (· < w.heap.size) w r v)(hb:Below w.heap.size w w'):FTAt (· < w'.heap.size) w' r v :=
 (h.same (Same.below hb)).mono fun _ h=>Nat.lt_of_lt_of_le h hb.size
theorem FTAt.rows {S:Nat->Prop} {w:World} {r:FT} {v:FV3} (h:FTAt S w r v) :
  ∃ ao c,v.2.2 = .slice ao r.ps.length c/\r.ps.length<=c/\c<=9223372036854775807/\∀ i (hi:i<r.ps.length),∃ b off pv,ao=some ⟨b,off,none⟩/\S b /\
   w.cell? ⟨b,off+i*4,none⟩=some (.int .i64 r.ps[i].k)/\w.cell? ⟨b,off+i*4+1,none⟩=some pv.1/\w.cell? ⟨b,off+i*4+2,none⟩=some pv.2.1/\w.cell? ⟨b,off+i*4+3,none⟩=some pv.2.2/\FTAt S w r.ps[i] pv:=by
 obtain⟨-,-,q,h1,h2,h3⟩:=(FTAt.iff r v).1 h;have hlen:q.length=r.ps.length:=by rw[<- h1,List.length_map]
 obtain⟨ao,c,e,h4,h5,hc⟩:=Sl.rows fC_length (by decide) h3;refine⟨ao,c,by rw[e,hlen],by omega,h5,fun i hi=>?_⟩;have hiq:i<q.length:=by omega
 obtain⟨b,off,rfl,hb,hc⟩:=hc (by omega);have hget:r.ps[i]=q[i].1:=by simp only[<- h1,List.getElem_map]
 rw[hget];exact⟨b,off,q[i].2,rfl,hb,hc i hiq 0 _ rfl,hc i hiq 1 _ rfl,hc i hiq 2 _ rfl,hc i hiq 3 _ rfl,h2 _ (List.getElem_mem hiq)⟩
end Go.Proofs.YtlhaghoajpglaaaGreat
namespace Go.Proofs.YtlhaghoajpglaaaGreat
open Go Go.RowKit Go.Maps
abbrev RwV (ι:Type):=List ι × Value
def rwV {ι:Type} (x:RwV ι):Value:=x.2
def optR {ι:Type} (l:List ι):Option (List ι):=if l.isEmpty then none else some l
structure Elm (ι:Type) where
 e:TypeId
 sz:Nat
 enc:ι->List Value
 len:∀ x,(enc x).length=sz
 pos:0<sz
section
variable {κ ι : Type}
structure MRows (E:Elm ι)(w:World)(B:Nat)(lw:List (κ × RwV ι)):Prop where
 rows:∀ x∈lw,x.2.1≠[]/\Own w B E.e E.sz x.2.2 (x.2.1.flatMap E.enc)
 apart:∀ x∈lw,∀ y∈lw,x.1≠y.1->x.2.2.ownBlock≠y.2.2.ownBlock
theorem flat_len (E:Elm ι):∀ l:List ι,(l.flatMap E.enc).length=l.length*E.sz
 | []=>by simp
 | x::l=>by rw[List.flatMap_cons,List.length_append,E.len,flat_len E l,List.length_cons,Nat.add_mul];omega
theorem own_someE {w:World} {B:Nat} {E:Elm ι} {v:Value} {l:List ι} (h:Own w B E.e E.sz v (l.flatMap E.enc))(hl:l≠[]):∃ g,v.ownBlock=some g:=by
 obtain⟨n,h⟩:=h;rcases h.2 with⟨rfl,rfl⟩ | ⟨g',cap,cur,rfl,hbg,hg',r⟩
 ·have:=h.1;rw[flat_len,Nat.zero_mul]at this;rcases Nat.mul_eq_zero.1 this with h0 | h0
  ·exact absurd (List.eq_nil_of_length_eq_zero h0) hl
  ·have:=E.pos;omega
 ·exact⟨g',rfl⟩
theorem MRows.keep {E:Elm ι} {w w':World} {B:Nat} {lw:List (κ × RwV ι)} (h:MRows E w B lw)(hs:∀ x,B<=x->x<w.heap.size->(∃ cs,w.heap[x]?=some (.cells cs E.e (0,0)))->w'.heap[x]?=w.heap[x]?):MRows E w' B lw :=
 ⟨fun x hx=>⟨(h.rows x hx).1,(h.rows x hx).2.keepB fun g hg=>by
  have ho:=(h.rows x hx).2;have hb:=ho.block g hg
  exact hs g hb.1 hb.2 (by
   obtain⟨n,ho⟩:=ho;rcases ho.2 with⟨h0,_⟩ | ⟨g',cap,cur,h0,hbg,hg',r⟩
   ·rw[h0]at hg;cases hg
   ·rw[h0]at hg;injection hg with hg
    subst hg;exact⟨_,hg'⟩)⟩,h.apart⟩
variable [DecidableEq κ]
def MR (P:Program)(k:TypeId)(kv:κ->Value)(E:Elm ι)(w:World)(B b:Nat)(f:κ->List ι):Prop :=
 ∃ lw:List (κ × RwV ι),Mp P k kv rwV w b lw/\MRows E w B lw/\∀ n,(lookA lw n).map (·.1)=optR (f n)
theorem MRows.put {P:Program} {k:TypeId} {kv:κ->Value} {E:Elm ι} {w w1 w2 w3:World} {B b3:Nat} {lw:List (κ × RwV ι)} (h:MRows E w B lw) {n:κ} {names:List ι} {v v':Value} (hl:(lookA lw n=some (names,v))\/(lookA lw n=none/\names=[]/\v = .slice none 0 0))
  (h1:Below w.heap.size w w1) (h2:w1.grownBy w2 v.ownBlock) {tn:ι} (ho:Own w2 B E.e E.sz v' ((names++[tn]).flatMap E.enc)) (hw:∀ g,v'.ownBlock=some g->v.ownBlock=some g\/w1.heap.size<=g)
  (hm:Mp P k kv rwV w b3 lw) (hm2:Mp P k kv rwV w2 b3 lw) (ht:Turned w2 w3 b3):MRows E w3 B (putA lw n (names++[tn],v')):=by
 have hnd:=hm.nodup
 have old:∀ x∈lw,x.1≠n->∀ g,x.2.2.ownBlock=some g->v.ownBlock≠some g:=fun x hx hne g hg e=>by
  rcases hl with hl | ⟨_,_,rfl⟩
  ·exact h.apart x hx _ (look_mem hl) hne (hg.trans e.symm)
  ·cases e
 have lt:∀ x∈lw,∀ g,x.2.2.ownBlock=some g->g<w.heap.size:=fun x hx g hg=>((h.rows x hx).2.block g hg).2;refine⟨fun x hx=>?_,fun x hx y hy hne=>?_⟩
 ·rcases put_mem _ _ _ hnd hx with rfl | ⟨hx,hxn⟩
  ·exact⟨by simp,ho.keepB fun g hg=>ht.kept.block g (ho.notMap hm2.notCells g hg)⟩
  ·have hr:=(h.rows x hx).2;have hr1:=hr.below h1;refine⟨(h.rows x hx).1,hr1.keepB fun g hg=>?_⟩;have hg1:=lt x hx g hg;have hs1:=h1.size;refine(ht.kept.block g ?_).trans (h2.block g (by omega) fun e=>old x hx hxn g hg e.symm);intro e;subst e;exact hr.notMap hm.notCells g hg rfl
 ·rcases put_mem _ _ _ hnd hx with rfl | ⟨hx,hxn⟩ <;> rcases put_mem _ _ _ hnd hy with rfl | ⟨hy,hyn⟩
  ·exact absurd rfl hne
  ·intro e;obtain⟨g,hg⟩:=own_someE ho (by simp);have hg2:y.2.2.ownBlock=some g:=e.symm.trans hg;rcases hw g hg with h3 | h3
   ·exact old y hy hyn g hg2 h3
   ·have:=lt y hy g hg2;have:=h1.size;omega
  ·intro e;obtain⟨g,hg⟩:=own_someE ho (by simp);have hg2:x.2.2.ownBlock=some g:=e.trans hg;rcases hw g hg with h3 | h3
   ·exact old x hx hxn g hg2 h3
   ·have:=lt x hx g hg2;have:=h1.size;omega
  ·exact h.apart x hx y hy hne
variable {P : Program} {k : TypeId} {kv : κ -> Value} {E : Elm ι} {w w' : World} {B b : Nat} {f : κ -> List ι}
theorem MR.made (w:World)(B:Nat):MR P k kv E (w.alloc (.map #[] 0)) B w.heap.size (fun _:κ=>([]:List ι)) :=
 ⟨[],Mp.made w,⟨(fun x hx=>by cases hx),fun x hx=>by cases hx⟩,fun n=>rfl⟩
theorem MR.lt (h:MR P k kv E w B b f):b<w.heap.size:=by
 obtain⟨lw,h1,_⟩:=h;exact h1.lt
theorem MR.notCells (h:MR P k kv E w B b f):∀ cs t fr,w.heap[b]?≠some (.cells cs t fr):=by
 obtain⟨lw,h1,_⟩:=h;exact h1.notCells
theorem MR.keep (h:MR P k kv E w B b f)(hb:w'.heap[b]?=w.heap[b]?)(hs:∀ x,B<=x->x<w.heap.size->(∃ cs,w.heap[x]?=some (.cells cs E.e (0,0)))->w'.heap[x]?=w.heap[x]?):MR P k kv E w' B b f:=by
 obtain⟨lw,h1,h2,h3⟩:=h;exact⟨lw,h1.same hb,h2.keep hs,h3⟩
theorem MR.up (h:MR P k kv E w B b f)(hb:Below w.heap.size w w'):MR P k kv E w' B b f:=h.keep (hb.block _ h.lt) fun x _ hx _=>hb.block x hx
theorem MR.turned (h:MR P k kv E w B b f) {c:Nat} (ht:Turned w w' c)(hb:b≠c)(hc:∀ cs t fr,w.heap[c]?≠some (.cells cs t fr)):MR P k kv E w' B b f :=
 h.keep (ht.kept.block _ hb) fun x _ _ hx=>ht.kept.block x fun e=>by
  obtain⟨cs,hx⟩:=hx;exact hc _ _ _ (e▸hx)
theorem MR.congr (h:MR P k kv E w B b f) {g:κ->List ι} (e:∀ n,f n=g n):MR P k kv E w B b g:=by
 have:f=g:=funext e;rw[<- this];exact h
theorem MR.look (h:MR P k kv E w B b f)(K:Keyed P k)(inj:∀ a b,kv a=kv b->a=b) {t e:TypeId} (ht:P.underlying t=some (.map k e))(hz:(zeroValue e).run P w = .ok (.slice none 0 0) w) {n:κ} (hn:∃ q,keyOf P k (kv n)=some q) :
  ∃ v,(Instr.lookup t (.map (some b)) (kv n) false).run P w = .ok v w/\Own w B E.e E.sz v ((f n).flatMap E.enc)/\∃ lw:List (κ × RwV ι),Mp P k kv rwV w b lw/\MRows E w B lw/\(∀ n,(lookA lw n).map (·.1)=optR (f n))/\(lookA lw n=some (f n,v)\/(lookA lw n=none/\f n=[]/\v = .slice none 0 0)):=by
 obtain⟨lw,h1,h2,h3⟩:=h;have hl:=h3 n;have hrun:=h1.look K inj ht hz false hn;cases hlk:lookA lw n with
 | none =>
  rw[hlk]at hl hrun
  have hw:f n=[]:=by
   unfold optR at hl;split at hl
   ·next h=>exact List.isEmpty_iff.1 h
   ·cases hl
  exact⟨.slice none 0 0,hrun,by rw[hw];exact Own.nil _ _ _ _,lw,h1,h2,h3,.inr ⟨hlk,hw,rfl⟩⟩
 | some x =>
  rw[hlk]at hl hrun
  have hw:x.1=f n:=by
   unfold optR at hl;split at hl
   ·cases hl
   ·injection hl
  have hm:=h2.rows _ (look_mem hlk);refine⟨x.2,hrun,by rw[<- hw];exact hm.2,lw,h1,h2,h3,.inl ?_⟩;rw[hlk,<- hw]
theorem MR.put {w1 w2:World} {lw:List (κ × RwV ι)} (K:Keyed P k)(inj:∀ a b,kv a=kv b->a=b) {t e:TypeId} (ht:P.underlying t=some (.map k e)) {n:κ} {x:ι} {v v':Value} (hM:Mp P k kv rwV w b lw)(hR:MRows E w B lw)(hL:∀ n,(lookA lw n).map (·.1)=optR (f n))
  (hl:lookA lw n=some (f n,v)\/(lookA lw n=none/\f n=[]/\v = .slice none 0 0)) (h1:Below w.heap.size w w1) (h2:w1.grownBy w2 v.ownBlock) (ho0:Own w B E.e E.sz v ((f n).flatMap E.enc)) (ho:Own w2 B E.e E.sz v' ((f n++[x]).flatMap E.enc))
  (hw:∀ g,v'.ownBlock=some g->v.ownBlock=some g\/w1.heap.size<=g) (hn:∃ q,keyOf P k (kv n)=some q) :
  ∃ w',(Instr.mapUpdate t (.map (some b)) (kv n) v').run P w2 = .ok () w'/\MR P k kv E w' B b (fun m=>if n=m then f m++[x]else f m)/\Turned w2 w' b:=by
 have hm1:=hM.below h1;have hm2:Mp P k kv rwV w2 b lw:=hm1.same (h2.block b hm1.lt (fun e=>((ho0.below h1).notMap hm1.notCells) b e.symm rfl));obtain⟨w',hrun,hM',hT⟩:=hm2.store K inj ht hn ((f n++[x],v'):RwV ι);refine⟨w',hrun,⟨_,hM',hR.put (names:=f n) (v:=v) hl h1 h2 ho hw hM hm2 hT,fun m=>?_⟩,hT⟩;rw[look_put];show _=optR (if n=m then f m++[x]else f m)
 by_cases e:n=m
 ·rw[if_pos e,if_pos e];subst e;unfold optR;rw[if_neg (by simp)];rfl
 ·rw[if_neg e,if_neg e];exact hL m
end
theorem pointK:Keyed Tryz.prog 32:=Keyed.of_law (deep_law_laid laidOut (m:=3) (by decide) (of_decide_eq_true (by kernel_rfl)) (by kernel_rfl) (by kernel_rfl))
theorem subK:Keyed Tryz.prog 33:=Keyed.of_law (deep_law_laid laidOut (m:=3) (by decide) (of_decide_eq_true (by kernel_rfl)) (by kernel_rfl) (by kernel_rfl))
theorem pV_inj (a b:P3)(h:pV a=pV b):a=b:=by
 obtain⟨a1,a2,a3⟩:=a;obtain⟨b1,b2,b3⟩:=b;simpa [pV] using h
theorem point_lits (d:Nat)(p:P3)(h:p.Ok):Tryz.prog.keyLits (d+1+1+1) 32 [.string p.t,.string p.i,.string p.r]=some [.string p.t.data.toList,.string p.i.data.toList,.string p.r.data.toList]:=by
 unfold Program.keyLits;rw[Tryz.underlying32];have e1:=obj_lits d p.t p.i h.1 h.2.1;have e2:=str_lits (d+1) p.r h.2.2;have e3:Tryz.prog.cellsOf 32=3:=by kernel_rfl
 have e4:Tryz.prog.cellsOf 9=1:=by kernel_rfl
 have e5:Tryz.prog.cellsOf 30=2:=by kernel_rfl
 simp[e1,e2,e3,e4,e5]
theorem point_key (p:P3)(h:p.Ok):∃ q,keyOf Tryz.prog 32 (pV p)=some q:=by
 obtain⟨d,hd⟩:=types_many;have e:=point_lits (d+1) p h;have e2:(Tryz.prog.keyType 32&&(pV p).formed Tryz.prog 32)=true:=by kernel_rfl
 have hs:Tryz.prog.types.size+1=d+1+1+1+1:=by omega
 unfold keyOf;rw[Tryz.underlying32];dsimp only;rw[if_pos e2,hs];rw[show(pV p).cells.toList=[.string p.t,.string p.i,.string p.r]from rfl,e];exact⟨_,rfl⟩
theorem sub_lits (d:Nat)(p:P3)(h:p.Ok):Tryz.prog.keyLits (d+1+1+1) 33 [.string p.t,.string p.i,.string p.r]=some [.string p.t.data.toList,.string p.i.data.toList,.string p.r.data.toList]:=by
 unfold Program.keyLits;rw[Tryz.underlying33];have e1:=obj_lits d p.t p.i h.1 h.2.1;have e2:=str_lits (d+1) p.r h.2.2;have e3:Tryz.prog.cellsOf 33=3:=by kernel_rfl
 have e4:Tryz.prog.cellsOf 9=1:=by kernel_rfl
 have e5:Tryz.prog.cellsOf 30=2:=by kernel_rfl
 simp[e1,e2,e3,e4,e5]
theorem sub_key (p:P3)(h:p.Ok):∃ q,keyOf Tryz.prog 33 (pV p)=some q:=by
 obtain⟨d,hd⟩:=types_many;have e:=sub_lits (d+1) p h;have e2:(Tryz.prog.keyType 33&&(pV p).formed Tryz.prog 33)=true:=by kernel_rfl
 have hs:Tryz.prog.types.size+1=d+1+1+1+1:=by omega
 unfold keyOf;rw[Tryz.underlying33];dsimp only;rw[if_pos e2,hs];rw[show(pV p).cells.toList=[.string p.t,.string p.i,.string p.r]from rfl,e];exact⟨_,rfl⟩
def NoPt (w:World)(b:Nat):Prop:=∀ cs,w.heap[b]?≠some (.cells cs 32 (0,0))
def FS (lo:Nat)(w:World)(b:Nat):Prop:=lo<=b/\b<w.heap.size/\NoPt w b
abbrev PKept (M:Nat->Prop) (B:Nat) (w w':World):Prop:=QKept 32 M B w w'
section
variable {w w' w'' : World} {M : Nat -> Prop} {B lo : Nat}
theorem FS.same (h:PKept M B w w')(hM:∀ x,M x->x<lo):Same (FS lo w) w w':=fun b hb=>h.block b (.inr ⟨fun hm=>by have:=hM b hm;have:=hb.1;omega,hb.2.1,hb.2.2⟩)
theorem FS.keep (h:PKept M B w w')(hM:∀ x,M x->x<lo) {b:Nat} (hb:FS lo w b):FS lo w' b :=
 ⟨hb.1,Nat.lt_of_lt_of_le hb.2.1 h.size,fun cs=>by rw[FS.same h hM b hb];exact hb.2.2 cs⟩
theorem FS.mono {lo':Nat} (h:lo<=lo') {b:Nat} (hb:FS lo' w b):FS lo w b:=⟨Nat.le_trans h hb.1,hb.2⟩
theorem FS.lt {b:Nat} (hb:FS lo w b):b<w.heap.size:=hb.2.1
theorem Own.fs {e:TypeId} {sz:Nat} {v:Value} {xs:List Value} (h:Own w lo e sz v xs)(he:e≠32):Sl (FS lo w) w sz v xs:=by
 obtain⟨n,ho⟩:=h;refine ownsRow_sl ho _ fun g hg=>⟨(ho.lt g hg).1,(ho.lt g hg).2,fun cs hc=>?_⟩;obtain⟨cur,h2⟩:=(show Own w lo e sz v xs from⟨n,ho⟩).typed hg;rw[hc]at h2;injection h2 with h2
 injection h2 with _ h2 _
 exact he h2.symm
end
structure FRow (lo:Nat)(w:World)(q:List (FT × FV3))(pv:Value):Prop where
 row:Own w lo 128 4 pv (q.flatMap fC)
 parts:∀ x∈q,FTAt (fun b=>FS lo w b/\pv.ownBlock≠some b) w x.1 x.2
section
variable {w w' w1 w3 : World} {M : Nat -> Prop} {B lo n0 : Nat} {q : List (FT × FV3)} {pv v' : Value} {x : FT × FV3}
theorem FRow.nil (lo:Nat)(w:World):FRow lo w [] (.slice none 0 0):=⟨Own.nil _ _ _ _,fun x hx=>by cases hx⟩
theorem FRow.keep (h:FRow lo w q pv)(hk:PKept M B w w')(hM:∀ x,M x->x<lo):FRow lo w' q pv :=
 ⟨h.row.keepOwn fun g hg=>FS.same hk hM g ⟨(h.row.block g hg).1,(h.row.block g hg).2,fun cs hc=>by
   obtain⟨cur,h2⟩:=h.row.typed hg;rw[hc]at h2;injection h2 with h2
   injection h2 with _ h2 _
   exact absurd h2 (by decide)⟩,
  fun x hx=>((h.parts x hx).same fun b hb=>FS.same hk hM b hb.1).mono fun b hb=>⟨FS.keep hk hM hb.1,hb.2⟩⟩
end
def GrAt (S:Nat->Prop)(w:World)(ps:List P3)(fs:List FT)(pv fv:Value):Prop :=
 Sl S w 3 pv (pcs ps)/\∃ q:List (FT × FV3),q.map (·.1)=fs/\(∀ x∈q,FTAt S w x.1 x.2)/\Sl S w 4 fv (q.flatMap fC)
theorem GrAt.same {S:Nat->Prop} {w w':World} {ps:List P3} {fs:List FT} {pv fv:Value} (h:GrAt S w ps fs pv fv)(hs:Same S w w'):GrAt S w' ps fs pv fv:=by
 obtain⟨h1,q,h2,h3,h4⟩:=h;exact⟨h1.same hs,q,h2,fun x hx=>(h3 x hx).same hs,h4.same hs⟩
theorem GrAt.mono {S T:Nat->Prop} {w:World} {ps:List P3} {fs:List FT} {pv fv:Value} (h:GrAt S w ps fs pv fv)(hs:∀ b,S b->T b):GrAt T w ps fs pv fv:=by
 obtain⟨h1,q,h2,h3,h4⟩:=h;exact⟨h1.mono hs,q,h2,fun x hx=>(h3 x hx).mono hs,h4.mono hs⟩
theorem GrAt.up {w w':World} {ps:List P3} {fs:List FT} {pv fv:Value} (h:GrAt (· < w.heap.size) w ps fs pv fv)(hb:Below w.heap.size w w'):GrAt (· < w'.heap.size) w' ps fs pv fv :=
 (h.same (Same.below hb)).mono fun _ h=>Nat.lt_of_lt_of_le h hb.size
abbrev nuV:Nat->Value:=fun n => .int .i64 n
structure WkAt (w:World)(wp am B:Nat)(tv fi sm:Value)(ps:List P3)(pv fv:Value):Prop where
 box:Blk w wp #[tv,fi,sm,.map (some am),pv,fv,.int .i64 0] 251
 num:Mp Tryz.prog 32 pV nuV w am (ps.zipIdx 0)
 pts:Own w B 32 3 pv (pcs ps)
section
variable {w w' : World} {wp am B : Nat} {tv fi sm pv fv pv' fv' : Value} {ps : List P3} {p : P3}
theorem WkAt.same (h:WkAt w wp am B tv fi sm ps pv fv)(h1:w'.heap[wp]?=w.heap[wp]?)(h2:w'.heap[am]?=w.heap[am]?)(h3:∀ g,pv.ownBlock=some g->w'.heap[g]?=w.heap[g]?):WkAt w' wp am B tv fi sm ps pv fv:=⟨h1.trans h.box,h.num.same h2,h.pts.keepOwn h3⟩
theorem WkAt.ptNe (h:WkAt w wp am B tv fi sm ps pv fv):∀ g,pv.ownBlock=some g->g≠wp/\g≠am:=fun g hg=>by
 obtain⟨cur,h2⟩:=h.pts.typed hg;refine⟨fun e=>?_,fun e=>?_⟩
 ·subst e;rw[show w.heap[g]?=_ from h.box]at h2;injection h2 with h2
  injection h2 with _ h2 _
  exact absurd h2 (by decide)
 ·subst e;exact h.num.notCells _ _ _ h2
end
abbrev KX (wp am:Nat) (w:World) (pv:Value) (x:Nat):Prop:=x<w.heap.size/\x≠wp/\x≠am/\pv.ownBlock≠some x
structure Fine (wp am:Nat)(w w':World)(pv pv':Value):Prop where
 kept:Kept (KX wp am w pv) w w'
 wher:∀ g,pv'.ownBlock=some g->pv.ownBlock=some g\/w.heap.size<=g
section
variable {w w' w'' w0 : World} {wp am B B' : Nat} {tv fi sm pv fv pv' pv'' v : Value} {ps : List P3} {e : TypeId} {sz : Nat} {xs : List Value}
theorem Fine.trans (h:Fine wp am w w' pv pv')(k:Fine wp am w' w'' pv' pv''):Fine wp am w w'' pv pv'' :=
 ⟨h.kept.trans (k.kept.mono fun x (hx:KX wp am w pv x)=>⟨Nat.lt_of_lt_of_le hx.1 h.kept.size,hx.2.1,hx.2.2.1,fun e=>by
   rcases h.wher x e with e2 | e2
   ·exact hx.2.2.2 e2
   ·have:=hx.1;omega⟩),
  fun g hg=>by
   rcases k.wher g hg with e | e
   ·exact h.wher g e
   ·exact .inr (Nat.le_trans h.kept.size e)⟩
theorem Fine.size (h:Fine wp am w w' pv pv'):w.heap.size<=w'.heap.size:=h.kept.size
theorem Fine.set (h:Fine wp am w0 w pv pv') {x i:Nat} (hx:w0.heap.size<=x)(u:Value):Fine wp am w0 (w.setCell ⟨x,i,none⟩ u) pv pv' :=
 ⟨h.kept.set (fun hk=>by have h1:x<w0.heap.size:=hk.1;omega) _,h.wher⟩
theorem WkAt.un (h:WkAt w wp am B tv fi sm ps pv fv) {x:Nat} {cs:Array Value} {fr:Nat × Nat} (hx:w.heap[x]?=some (.cells cs e fr))(he:e≠32)(he2:e≠251):KX wp am w pv x:=by
 refine⟨(Array.getElem?_eq_some_iff.1 hx).1,fun e=>?_,fun e=>?_,fun e=>?_⟩
 ·subst e;rw[show w.heap[x]?=_ from h.box]at hx;injection hx with hx
  injection hx with _ hx _
  exact he2 hx.symm
 ·subst e;exact h.num.notCells _ _ _ hx
 ·obtain⟨c,hc⟩:=h.pts.typed e;rw[hc]at hx;injection hx with hx
  injection hx with _ hx _
  exact he hx.symm
theorem Fine.blk (h:Fine wp am w w' pv pv')(hw:WkAt w wp am B tv fi sm ps pv fv) {x:Nat} {cs:Array Value} (hx:Blk w x cs e)(he:e≠32)(he2:e≠251):Blk w' x cs e:=(h.kept.block x (hw.un hx he he2)).trans hx
theorem Fine.row (h:Fine wp am w w' pv pv')(hw:WkAt w wp am B tv fi sm ps pv fv)(ho:Own w B' e sz v xs)(he:e≠32)(he2:e≠251):Own w' B' e sz v xs:=ho.keepOwn fun g hg=>by
 obtain⟨c,hc⟩:=ho.typed hg;exact h.kept.block g (hw.un hc he he2)
theorem WkAt.setBox (h:WkAt w wp am B tv fi sm ps pv fv) {x i:Nat} {cs:Array Value} (hx:Blk w x cs e)(he:e≠32)(he2:e≠251)(u:Value):WkAt (w.setCell ⟨x,i,none⟩ u) wp am B tv fi sm ps pv fv:=by
 have hu:=h.un hx he he2;exact h.same (Below.heap_setCell _ _ _ _ fun e=>hu.2.1 e.symm) (Below.heap_setCell _ _ _ _ fun e=>hu.2.2.1 e.symm) fun g hg=>Below.heap_setCell _ _ _ _ fun e=>hu.2.2.2 (by rw[hg,show g=x from e])
theorem Own.setBox (ho:Own w B' e sz v xs) {x i:Nat} {cs:Array Value} {e2:TypeId} (hx:Blk w x cs e2)(he:e≠e2)(u:Value):Own (w.setCell ⟨x,i,none⟩ u) B' e sz v xs:=ho.keepOwn fun g hg=>Below.heap_setCell _ _ _ _ fun e3=>by
 obtain⟨c,hc⟩:=ho.typed hg;rw[show g=x from e3,show w.heap[x]?=_ from hx]at hc;injection hc with hc
 injection hc with _ hc _
 exact he hc.symm
end
abbrev NV2:=Value × Value
def nC (x:NT × NV2):List Value:=[.int .i64 x.1.k,.string x.1.p.t,.string x.1.p.i,.string x.1.p.r,x.2.1,x.2.2]
theorem nC_length (x:NT × NV2):(nC x).length=6:=rfl
theorem nCs_length (q:List (NT × NV2)):(q.flatMap nC).length=q.length*6:=by rw[flat_length nC_length]
mutual
def NtAt (S:Nat->Prop)(w:World):NT->NV2->Prop
 | .mk _ _ subs ps,v=>Sl S w 3 v.1 (pcs subs)/\∃ l:List NV2,NtsAt S w ps l/\Sl S w 6 v.2 ((ps.zip l).flatMap nC)
def NtsAt (S:Nat->Prop)(w:World):List NT->List NV2->Prop
 | [],l=>l=[]
 | r::rs,l=>∃ pv l',l=pv::l'/\NtAt S w r pv/\NtsAt S w rs l'
end
theorem ntsAt_zip {S:Nat->Prop} {w:World}:∀ {ps:List NT} {l:List NV2},NtsAt S w ps l->(ps.zip l).map (·.1)=ps/\∀ x∈ps.zip l,NtAt S w x.1 x.2
 | [],l,h=>by rw[NtsAt]at h;subst h;simp
 | r::rs,l,h=>by
  rw[NtsAt]at h;obtain⟨pv,l',rfl,h1,h2⟩:=h;obtain⟨h3,h4⟩:=ntsAt_zip h2;refine⟨by rw[List.zip_cons_cons,List.map_cons,h3],fun x hx=>?_⟩;rw[List.zip_cons_cons]at hx;rcases List.mem_cons.1 hx with rfl | hx
  ·exact h1
  ·exact h4 x hx
theorem ntsAt_of {S:Nat->Prop} {w:World}:∀ {q:List (NT × NV2)},(∀ x∈q,NtAt S w x.1 x.2)->NtsAt S w (q.map (·.1)) (q.map (·.2))
 | [],_=>by rw[List.map_nil,List.map_nil,NtsAt]
 | x::q,h=>by
  rw[List.map_cons,List.map_cons,NtsAt];exact⟨x.2,_,rfl,h x List.mem_cons_self,ntsAt_of fun y hy=>h y (List.mem_cons_of_mem _ hy)⟩
theorem NtAt.iff {S:Nat->Prop} {w:World} (r:NT)(v:NV2):NtAt S w r v↔Sl S w 3 v.1 (pcs r.subs)/\∃ q:List (NT × NV2),q.map (·.1)=r.ps/\(∀ x∈q,NtAt S w x.1 x.2)/\Sl S w 6 v.2 (q.flatMap nC):=by
 obtain⟨k,p,subs,ps⟩:=r;rw[NtAt];constructor
 ·rintro⟨h1,l,h3,h4⟩;exact⟨h1,_,(ntsAt_zip h3).1,(ntsAt_zip h3).2,h4⟩
 ·rintro⟨h1,q,h3,h4,h5⟩;refine⟨h1,q.map (·.2),?_,?_⟩
  ·have:=ntsAt_of h4;rwa[h3]at this
  ·rw[show ps=q.map (·.1)from h3.symm,zip_maps];exact h5
theorem NtAt.same {S:Nat->Prop} {w w':World} {r:NT} {v:NV2} (h:NtAt S w r v)(hs:Same S w w'):NtAt S w' r v:=by
 induction r using NT.ind generalizing v with
 | h r ih =>
  obtain⟨h1,q,h3,h4,h5⟩:=(NtAt.iff r v).1 h;exact(NtAt.iff r v).2 ⟨h1.same hs,q,h3,fun x hx=>ih x.1 (by rw[<- h3];exact List.mem_map_of_mem hx) (h4 x hx),h5.same hs⟩
theorem NtAt.mono {S S':Nat->Prop} {w:World} {r:NT} {v:NV2} (h:NtAt S w r v)(hs:∀ b,S b->S' b):NtAt S' w r v:=by
 induction r using NT.ind generalizing v with
 | h r ih =>
  obtain⟨h1,q,h3,h4,h5⟩:=(NtAt.iff r v).1 h;exact(NtAt.iff r v).2 ⟨h1.mono hs,q,h3,fun x hx=>ih x.1 (by rw[<- h3];exact List.mem_map_of_mem hx) (h4 x hx),h5.mono hs⟩
theorem NtAt.up {w w':World} {r:NT} {v:NV2} (h:NtAt (· < w.heap.size) w r v)(hb:Below w.heap.size w w'):NtAt (· < w'.heap.size) w' r v :=
 (h.same (Same.below hb)).mono fun _ h=>Nat.lt_of_lt_of_le h hb.size
theorem NtAt.rows {S:Nat->Prop} {w:World} {r:NT} {v:NV2} (h:NtAt S w r v) :
  ∃ ao c,v.2 = .slice ao r.ps.length c/\r.ps.length<=c/\c<=9223372036854775807/\∀ i (hi:i<r.ps.length),∃ b off pv,ao=some ⟨b,off,none⟩/\S b /\
   w.cell? ⟨b,off+i*6,none⟩=some (.int .i64 r.ps[i].k)/\w.cell? ⟨b,off+i*6+1,none⟩=some (.string r.ps[i].p.t)/\w.cell? ⟨b,off+i*6+2,none⟩=some (.string r.ps[i].p.i)/\w.cell? ⟨b,off+i*6+3,none⟩=some (.string r.ps[i].p.r)/\w.cell? ⟨b,off+i*6+4,none⟩=some pv.1/\w.cell? ⟨b,off+i*6+5,none⟩=some pv.2/\NtAt S w r.ps[i] pv:=by
 obtain⟨-,q,h1,h2,h3⟩:=(NtAt.iff r v).1 h;have hlen:q.length=r.ps.length:=by rw[<- h1,List.length_map]
 obtain⟨ao,c,e,h4,h5,hc⟩:=Sl.rows nC_length (by decide) h3;refine⟨ao,c,by rw[e,hlen],by omega,h5,fun i hi=>?_⟩;have hiq:i<q.length:=by omega
 obtain⟨b,off,rfl,hb,hc⟩:=hc (by omega);have hget:r.ps[i]=q[i].1:=by simp only[<- h1,List.getElem_map]
 rw[hget];exact⟨b,off,q[i].2,rfl,hb,hc i hiq 0 _ rfl,hc i hiq 1 _ rfl,hc i hiq 2 _ rfl,hc i hiq 3 _ rfl,hc i hiq 4 _ rfl,hc i hiq 5 _ rfl,h2 _ (List.getElem_mem hiq)⟩
def nV2 (r:NT)(v:NV2):Value := .agg #[.int .i64 r.k,.string r.p.t,.string r.p.i,.string r.p.r,v.1,v.2]
theorem nodesT:ElemT Tryz.prog 43 45 6 104:=ElemT.mk' Tryz.underlying43 (show _=some (some (.agg #[.int .i64 0,.string ByteArray.empty,.string ByteArray.empty,.string ByteArray.empty,.slice none 0 0,.slice none 0 0]),6,104)by kernel_rfl) rfl (by decide)
def NoOb (w:World)(b:Nat):Prop:=∀ cs,w.heap[b]?≠some (.cells cs 30 (0,0))
abbrev NS (lo:Nat) (w:World) (b:Nat):Prop:=lo<=b/\b<w.heap.size/\NoOb w b
theorem NS.keep {lo lo' b:Nat} {w w':World} (hb:NS lo w b)(h:w'.heap[b]?=w.heap[b]?)(hl:lo'<=lo)(hz:w.heap.size<=w'.heap.size):NS lo' w' b:=⟨Nat.le_trans hl hb.1,Nat.lt_of_lt_of_le hb.2.1 hz,fun cs=>by rw[h];exact hb.2.2 cs⟩
theorem Own.ns {w:World} {lo sz g:Nat} {e:TypeId} {v:Value} {xs:List Value} (h:Own w lo e sz v xs)(he:e≠30)(hg:v.ownBlock=some g):NS lo w g:=⟨(h.block g hg).1,(h.block g hg).2,fun cs hc=>by
 obtain⟨cur,h2⟩:=h.typed hg;rw[hc]at h2;injection h2 with h2
 injection h2 with _ h2 _
 exact he h2.symm⟩
structure NRow (lo:Nat)(w:World)(q:List (NT × NV2))(pv:Value):Prop where
 row:Own w lo 45 6 pv (q.flatMap nC)
 parts:∀ x∈q,NtAt (fun b=>NS lo w b/\pv.ownBlock≠some b) w x.1 x.2
section
variable {w w' w1 w3 : World} {lo n0 : Nat} {q : List (NT × NV2)} {pv v' : Value} {x : NT × NV2}
theorem NRow.nil (lo:Nat)(w:World):NRow lo w [] (.slice none 0 0):=⟨Own.nil _ _ _ _,fun x hx=>by cases hx⟩
theorem NRow.above (h:NRow lo w q pv)(hs:∀ b,NS lo w b->w'.heap[b]?=w.heap[b]?)(hz:w.heap.size<=w'.heap.size):NRow lo w' q pv :=
 ⟨h.row.keepOwn fun g hg=>hs g (h.row.ns (by decide) hg),fun x hx=>((h.parts x hx).same fun b hb=>hs b hb.1).mono fun b hb=>⟨hb.1.keep (hs b hb.1) (Nat.le_refl _) hz,hb.2⟩⟩
theorem NRow.ext (h:NRow lo w q pv)(hx:Ext w w'):NRow lo w' q pv:=h.above (fun b hb=>hx.block b hb.2.1) hx.size
theorem NRow.add (h:NRow lo w1 q pv)(hk:∀ b,NS lo w1 b->pv.ownBlock≠some b->w3.heap[b]?=w1.heap[b]?)(hz:w1.heap.size<=w3.heap.size)(ho:Own w3 lo 45 6 v' (q.flatMap nC++nC x))
  (hb:∀ g,v'.ownBlock=some g->pv.ownBlock=some g\/w1.heap.size<=g) (hx:NtAt (NS n0 w1) w1 x.1 x.2) (hn0:lo<=n0) (hpv:∀ g,pv.ownBlock=some g->g<n0):NRow lo w3 (q++[x]) v':=by
 have hm:∀ b,(NS lo w1 b/\pv.ownBlock≠some b)->(NS lo w3 b/\v'.ownBlock≠some b):=fun b hb'=>⟨hb'.1.keep (hk b hb'.1 hb'.2) (Nat.le_refl _) hz,fun e=>by
  rcases hb b e with e2 | e2
  ·exact hb'.2 e2
  ·have:=hb'.1.2.1;omega⟩
 refine⟨by rw[List.flatMap_append];simpa using ho,fun y hy=>?_⟩;rcases List.mem_append.1 hy with hy | hy
 ·exact((h.parts y hy).same fun b hb'=>hk b hb'.1 hb'.2).mono hm
 ·obtain rfl:=List.mem_singleton.1 hy;have h2:∀ b,NS n0 w1 b->(NS lo w1 b/\pv.ownBlock≠some b):=fun b hb'=>⟨hb'.keep rfl hn0 (Nat.le_refl _),fun e=>by have:=hpv b e;have:=hb'.1;omega⟩;exact((hx.mono h2).same fun b hb'=>hk b hb'.1 hb'.2).mono hm
theorem NRow.nodes (h:NRow lo w q pv):(∀ x∈q,NtAt (NS lo w) w x.1 x.2)/\Sl (NS lo w) w 6 pv (q.flatMap nC) :=
 ⟨fun x hx=>(h.parts x hx).mono fun b hb=>hb.1,h.row.slFo fun g hg=>h.row.ns (by decide) hg⟩
end
structure NdAt (w:World)(lo x:Nat)(k:Int)(p:P3)(subs:List P3)(q:List (NT × NV2))(sv qv:Value):Prop where
 box:Blk w x #[.int .i64 k,.string p.t,.string p.i,.string p.r,sv,qv] 45
 subs:Own w lo 33 3 sv (pcs subs)
 parts:NRow lo w q qv
section
variable {w w' : World} {lo x : Nat} {k : Int} {p : P3} {subs : List P3} {q : List (NT × NV2)} {sv qv : Value}
theorem NdAt.above (h:NdAt w lo x k p subs q sv qv)(hs:∀ b,NS lo w b->w'.heap[b]?=w.heap[b]?)(hx:w'.heap[x]?=w.heap[x]?)(hz:w.heap.size<=w'.heap.size):NdAt w' lo x k p subs q sv qv :=
 ⟨hx.trans h.box,h.subs.keepOwn fun g hg=>hs g (h.subs.ns (by decide) hg),h.parts.above hs hz⟩
theorem NdAt.ext (h:NdAt w lo x k p subs q sv qv)(hx:Ext w w'):NdAt w' lo x k p subs q sv qv:=⟨h.box.below hx,h.subs.below hx,h.parts.ext hx⟩
theorem NdAt.setSubs {s2:List P3} {sv':Value} (h:NdAt w lo x k p subs q sv qv)(hs:Own w lo 33 3 sv' (pcs s2))(hx:x<lo):NdAt (w.setCell ⟨x,4,none⟩ sv') lo x k p s2 q sv' qv :=
 ⟨h.box.set_to 4 sv' rfl,hs.setBox (x:=x) h.box (by decide) _,NRow.above h.parts (fun b hb=>Below.heap_setCell _ _ _ b (by have:=hb.1;show b≠x;omega)) (by simp)⟩
theorem NdAt.done {r:NT} {lo':Nat} (h:NdAt w lo x k p subs q sv qv)(hr:r = .mk k p subs (q.map (·.1)))(hs:∀ b,NS lo w b->w'.heap[b]?=w.heap[b]?)(hz:w.heap.size<=w'.heap.size)(hl:lo'<=lo):NtAt (NS lo' w') w' r (sv,qv):=by
 have hsame:Same (NS lo w) w w':=hs;have hmono:∀ b,NS lo w b->NS lo' w' b:=fun b hb=>hb.keep (hs b hb) hl hz;refine(NtAt.iff _ _).2 ?_;subst hr;obtain⟨h1,h2⟩:=h.parts.nodes;refine⟨((h.subs.slFo (S:=NS lo w) fun g hg=>h.subs.ns (by decide) hg).same hsame).mono hmono,q,rfl,fun y hy=>?_,(h2.same hsame).mono hmono⟩;exact((h1 y hy).same hsame).mono hmono
end
def tuC (t:Tup):List Value:=[.string t.o.t,.string t.o.i,.string t.o.r,.string t.s.t,.string t.s.i,.string t.s.r]
def tuCs (l:List Tup):List Value:=l.flatMap tuC
theorem tuC_length (t:Tup):(tuC t).length=6:=rfl
theorem tuCs_length (l:List Tup):(tuCs l).length=l.length*6:=flat_length tuC_length l
theorem tuCs_append (a b:List Tup):tuCs (a++b)=tuCs a++tuCs b:=by unfold tuCs;rw[List.flatMap_append]
theorem tupT:ElemT Tryz.prog 27 67 6 96:=ElemT.mk' Tryz.underlying27 (show _=some (some (.agg #[.string ByteArray.empty,.string ByteArray.empty,.string ByteArray.empty,.string ByteArray.empty,.string ByteArray.empty,.string ByteArray.empty]),6,96)by kernel_rfl) rfl (by decide)
theorem tup_neq (a b:Tup)(W:World):(binOp BinOp.neq 67 (tV a) (tV b)).run Tryz.prog W = .ok (.bool (decide (a≠b))) W:=by
 obtain⟨⟨a1,a2,a3⟩,⟨a4,a5,a6⟩⟩:=a;obtain⟨⟨b1,b2,b3⟩,⟨b4,b5,b6⟩⟩:=b;unfold tV;dsimp only;go_simp;simp only[ba_toList];by_cases h1:a1=b1
 ·by_cases h2:a2=b2
  ·by_cases h3:a3=b3
   ·by_cases h4:a4=b4
    ·by_cases h5:a5=b5
     ·by_cases h6:a6=b6 <;> simp[h1,h2,h3,h4,h5,h6]
     ·simp[h1,h2,h3,h4,h5]
    ·simp[h1,h2,h3,h4]
   ·simp[h1,h2,h3]
  ·simp[h1,h2]
 ·simp[h1]
end Go.Proofs.YtlhaghoajpglaaaGreat
namespace Go.Proofs.YtlhaghoajpglaaaGreat
open Go Go.RowKit
attribute [local go_sem] Oper.semAt_some
theorem tu_len (l:List Tup):(tuCs l).length=l.length*6:=tuCs_length l
theorem tu_app (a:List Tup)(b:List Tup):tuCs (a++b)=tuCs a++tuCs b:=tuCs_append a b
theorem tu_sing (x:Tup):tuCs [x]=tuC x:=by simp[tuCs]
theorem cells_litT (w:World)(a b c d e f:Value)(t:TypeId):∀ j u,[a,b,c,d,e,f][j]?=some u->(w.alloc (.cells #[a,b,c,d,e,f] t)).cell? ((⟨w.heap.size,0,none⟩:Addr).add j)=some u:=fun j u hu=>by
 rw[Addr.add_lit,cell_of_row _ w.heap.size (0+j) #[a,b,c,d,e,f] t (0,0) (heap_alloc_new w _),Nat.zero_add];simpa using hu
set_option maxRecDepth 100000 in
set_option maxHeartbeats 2000000 in
theorem appT_in (F:Fence)(n:Nat)(h45:F.fn 196)(hro:F.round=none)(hn:2<=n)(g:Nat)(lb:Array Value)(hFg:F.fn g)(eg:∀ args w,(callFunc g args).run Tryz.prog w = .ok (.enter g args) w)
  (S Sp:List Tup->Prop) (N:Nat) (w:World) (hN:N<=137438953472) (hseq:SeqStopsK F (n-1) Tryz.prog g lb (fun x=>#[tV x]) (Below w.heap.size) S Sp N w) :
  CallsIn F n Tryz.prog 196 #[.slice none 0 0,.func (.func g) #[] lb] w fun e w'=>∃ (v':Value) (ss:List Tup),e = .returned v'/\S ss/\Own w' w.heap.size 67 6 v' (tuCs ss)/\Ext w w':=by
 have h1:1<=n:=by omega
 refine callsIn_of_wp_marks Tryz.func196 rfl h45 ?_ hro;simp only[Tryz.ntmps196,List.size_toArray,List.length_cons,List.length_nil,Nat.reduceAdd,Nat.reduceSub,Array.replicate_succ,Array.replicate_zero,List.push_toArray,List.append_toArray,List.nil_append,List.cons_append];gi_wp2
 have bS:=Boxed.new w 27 (.slice none 0 0);have hw0:Below w.heap.size w (w.alloc (.cells #[.slice none 0 0] 27)):=(Below.refl _ w).alloc (Nat.le_refl _) _;have hsz:(w.alloc (.cells #[.slice none 0 0] 27)).heap.size=w.heap.size+1:=by simp
 have hk0:KeepsFrom 0 w (w.alloc (.cells #[.slice none 0 0] 27)):=(KeepsOthers.alloc _ _).from _;obtain⟨W0,hW0⟩:∃ W0,w.alloc (.cells #[.slice none 0 0] 27)=W0:=⟨_,rfl⟩;rw[hW0]at bS hw0 hsz hk0 ⊢;clear hW0
 refine wpIn_rangeFunc_ownH hro h1 (gf:=g) (lb:=lb) rfl hFg eg hseq belowK_t (belowK_b (n₀:=w.heap.size) (by omega)) hw0 (fun _=>rfl)
  (fun pre W=>(∃ v',Boxed W w.heap.size 27 v'/\Own W w.heap.size 67 6 v' (tuCs pre)/\(∀ g,v'.ownBlock=some g->(Value.slice none 0 0).ownBlock=some g\/w.heap.size<=g))/\(Kept (fun b=>b<w.heap.size/\(Value.slice none 0 0).ownBlock≠some b) w W/\KeepsFrom 0 w W))
  (fun _ _ _=>False)
  (OwnFrom.and (own_ownFrom w.heap.size w.heap.size 27 67 6 (fun pre=>tuCs pre) (fun v'=>∀ g,v'.ownBlock=some g->(Value.slice none 0 0).ownBlock=some g\/w.heap.size<=g) _) (OwnFrom.and (ownFrom_kept (fun b hb=>hb.1) (by omega)) (ownFrom_keepsFrom (by omega))))
  (fun _ _ _ _ _ hs _ _=>hs)
  ⟨⟨_,bS,Own.nil _ _ _ _,fun g hg => .inl hg⟩,Below.kept hw0 (fun b hb=>hb.1),hk0⟩
  (fun x a' W=>∃ Bx,w.heap.size<Bx/\Blk W Bx #[.string x.o.t,.string x.o.i,.string x.o.r,.string x.s.t,.string x.s.i,.string x.s.r] 67/\a' = {tmps:=#[.slice none 0 0,.func (.func g) #[] lb,.pointer (some ⟨w.heap.size,0,none⟩),undef,.slice none 0 0,.pointer (some ⟨Bx,0,none⟩),.func (.func g) #[] lb,tV x,undef,undef,undef,undef,undef],defers:=[]})
  (fun x a' _ X Y row hs hg hr=>by obtain⟨Bx,h1,h2,h3⟩:=hs;exact⟨Bx,h1,boxed3_kept h2 hg (fun r e=>(hr r e).2),h3⟩)
  ?assign ?body ?done ?stop
 case assign =>
  rintro l2 pre ⟨⟨xa,xb,xc⟩,⟨xd,xe,xf⟩⟩ W K ⟨⟨v',bS1,hO1,hG1⟩,hB1,hK1⟩ hK;dsimp only[tV];gi_wp2
  refine hK _ _ ((KeepsOthers.alloc _ _).from _) ((Below.refl _ _).alloc hB1.size _) ⟨⟨v',bS1.alloc _,hO1.below ((Below.refl _ _).alloc (Nat.le_refl _) _),hG1⟩,hB1.alloc (fun b hb=>Nat.lt_of_lt_of_le hb.1 hB1.size) _,hK1.trans ((KeepsOthers.alloc _ _).from _)⟩ ⟨W.heap.size,bS1.lt,Blk.made W _ _,rfl⟩
 case body =>
  rintro l2 pre ⟨⟨xa,xb,xc⟩,⟨xd,xe,xf⟩⟩ a' W hl ⟨r,hr⟩ ⟨⟨v',bS1,hO1,hG1⟩,hB1,hK1⟩ ⟨Bx,hBx,bX,rfl⟩ hlt;have cS:=bS1.cell;have cX:=bX.cells;have hwl:=hB1.size;have hpl:(tuCs pre).length=pre.length*6:=tu_len pre;have hbb:(pre.length*6+6)*96<=140737488355328:=by omega
  gi_wp2_with (first
   | (gi_at_builtin;go_loud (
      refine wpListIn_own tupT rfl _ _ rfl rfl (hO1.below ((Below.refl _ _).alloc (Nat.le_refl _) _)) (ad:=⟨W.heap.size,0,none⟩) (m:=1) (c:=1) (news:=[.string xa,.string xb,.string xc,.string xd,.string xe,.string xf]) rfl rfl (cells_litT _ _ _ _ _ _ _ _) (by intro u hu;simp only[List.mem_cons,List.not_mem_nil,or_false]at hu;rcases hu with rfl | rfl | rfl | rfl | rfl | rfl <;> rfl) (by simp only[List.length_cons,List.length_nil];omega) (by simp only[List.length_cons,List.length_nil];rw[hpl];exact hbb) (by simp;omega) ?_;intro v2 w2 hO2 hG2 hg2
      obtain⟨g2,n2,c2,rfl⟩:∃ g2 n2 c2,v2 = .slice (some ⟨g2,0,none⟩) n2 c2:=by
        rcases hO2.shape with⟨_,h⟩ | h
        · exact absurd h (by simp)
        · exact h
      have bS2:=(bS1.alloc (.cells #[.string xa,.string xb,.string xc,.string xd,.string xe,.string xf] 67)).kept hg2 (boxed_notOwn (bS1.alloc _) (by decide) (hO1.below ((Below.refl _ _).alloc (Nat.le_refl _) (.cells #[.string xa,.string xb,.string xc,.string xd,.string xe,.string xf] 67))));have cS2:=bS2.cell;have fS2:=bS2.frozen))
   | gi_in)
  have hKa:KeepsFrom 0 W (W.alloc (.cells #[.string xa,.string xb,.string xc,.string xd,.string xe,.string xf] 67)):=(KeepsOthers.alloc _ _).from _;have hKb:=hKa.trans (keeps_own (hO1.below ((Below.refl _ _).alloc (Nat.le_refl _) (.cells #[.string xa,.string xb,.string xc,.string xd,.string xe,.string xf] 67))) hg2 0);have hKc:KeepsFrom 0 W (w2.setCell ⟨w.heap.size,0,none⟩ (.slice (some ⟨g2,0,none⟩) n2 c2)):=hKb.trans ((KeepsOthers.setCell _ _ _).from _)
  have hlow:Below w.heap.size W (w2.setCell ⟨w.heap.size,0,none⟩ (.slice (some ⟨g2,0,none⟩) n2 c2)):=(((Below.refl _ W).alloc hwl _).grown hg2 (by simp;omega) (fun g hg=>by
   rcases hG1 g hg with h | h
   ·cases h
   ·exact h)).setCell (Nat.le_refl _) _
  refine⟨keeps_up hKc _,hlow,⟨⟨_,bS2.set _,?_,fun g hg=>?_⟩,?_,hK1.trans hKc⟩⟩
  ·have:=hO2.keepOwn (w':=w2.setCell ⟨w.heap.size,0,none⟩ (.slice (some ⟨g2,0,none⟩) n2 c2)) (fun g hg=>Below.heap_setCell _ _ _ g (fun e=>boxed_notOwn bS2 (by decide) hO2 (by rw[hg,e])));rw[tu_app pre,tu_sing];exact this
  ·rcases hG2 g hg with h | h
   ·exact hG1 g h
   ·exact .inr (by have:=hB1.size;simp at h;omega)
  ·have hk2:Kept (fun b=>b<w.heap.size/\(Value.slice none 0 0).ownBlock≠some b) (W.alloc (.cells #[.string xa,.string xb,.string xc,.string xd,.string xe,.string xf] 67)) w2:=⟨hg2.os,hg2.tape,hg2.output,hg2.size,fun b hb=>hg2.block b (by have:=hB1.size;have:=hb.1;simp;omega) (fun e=>by
    rcases hG1 b e.symm with h | h
    ·exact hb.2 h
    ·have:=hb.1;omega)⟩
   exact((hB1.alloc (fun b hb=>Nat.lt_of_lt_of_le hb.1 hB1.size) _).trans hk2).set (a:=⟨w.heap.size,0,none⟩) (fun h=>Nat.lt_irrefl _ h.1) _
 case done =>
  rintro D ys W hD hS ⟨⟨v',bS1,hO1,_⟩,hB1,hK1⟩ hK;have cS:=bS1.cell
  obtain⟨ao',k',c',rfl⟩:∃ ao k c,v' = .slice ao k c:=by
   rcases hO1.shape with⟨rfl,_⟩ | ⟨g,n,c,rfl⟩
   ·exact⟨_,_,_,rfl⟩
   ·exact⟨_,_,_,rfl⟩
  gi_wp2
  refine⟨by simp,.inl ⟨_,_,rfl,run_takeDeferred hK,?_⟩⟩;refine⟨_,results_tmp rfl _ _ _,_,ys,rfl,hS,hO1.put _ hK rfl,⟨hB1.os,hB1.tape,hB1.output,by have:=hB1.size;simpa using this,fun b hb=>(World.putObj_heap_other (fun e=>by omega)).trans (hB1.block b ⟨hb,fun e=>by cases e⟩)⟩⟩
 case stop =>
  rintro D c pre W _ _ h _;exact h.elim
attribute [local go_sem] Oper.semAt_some
theorem grown_alloc (w:World)(o:Obj):w.grownBy (w.alloc o) none:=⟨rfl,rfl,rfl,by simp,fun b hb _=>Below.heap_alloc w o b hb⟩
set_option maxRecDepth 100000 in
set_option maxHeartbeats 2000000 in
theorem valsT_in (F:Fence)(n:Nat)(hf:F.fn 138)(hro:F.round=none)(hn:1<=n)(l Bs n₀ B0:Nat)(ao:Option Addr)(cap:Nat)(zs:List Tup)(hl:zs.length<=1099511627776)(J Jx:List Tup->World->Prop)(hA:AbidesFrom B0 J)
  (hY:∀ pre x W,J pre W->pre.length<zs.length->YieldAt F (n-1) Tryz.prog l #[tV x] W fun e W' =>
   (e = .returned (.bool true)/\J (pre++[x]) W'/\Below n₀ W W')\/(e = .returned (.bool false)/\Jx (pre++[x]) W'))
  (W:World) (hn0:n₀<=W.heap.size) (hBs:W.cell? ⟨Bs,0,none⟩=some (.slice ao zs.length cap)) (hc:Sl (· < n₀) W 6 (.slice ao zs.length cap) (zs.flatMap tuC)) (h0:J [] W) :
  CallsIn F n Tryz.prog 138 #[.func (.yield l) #[] #[],.pointer (some ⟨Bs,0,none⟩)] W fun e W'=>(∃ v,e = .returned v) /\
   ((∃ ys,ys=zs/\J ys W')\/(∃ pre,pre <+: zs/\Jx pre W')):=by
 refine callsIn_of_wp Tryz.func138 rfl hf ?_ hro;simp only[Tryz.ntmps138,List.size_toArray,List.length_cons,List.length_nil,Nat.reduceAdd,Nat.reduceSub,Array.replicate_succ,Array.replicate_zero,List.push_toArray,List.append_toArray,List.nil_append,List.cons_append];gi_wp2
 gi_loopw [7] (fun i wr=>∃ k:Nat,k<=zs.length/\i = .int .i64 k/\J (zs.take k) wr/\Below n₀ W wr)
  (fun i _=>zs.length-(intOf i).toNat)
 case atStart=>exact⟨0,Nat.zero_le _,rfl,h0,Below.refl _ _⟩
 case round =>
  obtain⟨k,hk,rfl,hJs,hnx⟩:=hrel;by_cases hlt:k<zs.length
  ·obtain⟨ao',c',he',-,-,hcell⟩:=Sl.rows tuC_length (by decide) (hc.same (w':=wr) fun x hx=>hnx.block x hx);cases he';obtain⟨bq,oq,rfl,-,hcell⟩:=hcell (by omega);have hck:=hcell k hlt;have hts:=List.take_succ_eq_append_getElem hlt;have hpl:(zs.take k).length<zs.length:=by rw[List.length_take];omega
   have hpre:zs.take (k+1) <+: zs:=List.take_prefix _ _;generalize zs[k]=x at *;obtain⟨⟨xa,xb,xc⟩,⟨xd,xe,xf⟩⟩:=x;have c0:wr.cell? ⟨bq,oq+k*6,none⟩=some (.string xa):=hck 0 _ rfl;have c1:wr.cell? ⟨bq,oq+k*6+1,none⟩=some (.string xb):=hck 1 _ rfl;have c2:wr.cell? ⟨bq,oq+k*6+2,none⟩=some (.string xc):=hck 2 _ rfl;have c3:wr.cell? ⟨bq,oq+k*6+3,none⟩=some (.string xd):=hck 3 _ rfl;have c4:wr.cell? ⟨bq,oq+k*6+4,none⟩=some (.string xe):=hck 4 _ rfl;have c5:wr.cell? ⟨bq,oq+k*6+5,none⟩=some (.string xf):=hck 5 _ rfl;have hJ1:=hA _ _ _ none hJs (grown_alloc wr (.cells #[.string xa,.string xb,.string xc,.string xd,.string xe,.string xf] 67)) (fun r e=>by cases e);have hb1:Below n₀ wr (wr.alloc (.cells #[.string xa,.string xb,.string xc,.string xd,.string xe,.string xf] 67)):=(Below.refl _ _).alloc (Nat.le_trans hn0 hnx.size) _;obtain⟨fn,tmps,assign,body,hy,hR⟩:=hY _ ⟨⟨xa,xb,xc⟩,⟨xd,xe,xf⟩⟩ _ hJ1 hpl;try unfold tV at hy
   try dsimp only at hy
   clear hck hcell;gi_wp2
   refine hR.mono ?_;rintro e W3 (⟨rfl,hJ3,hk3⟩ | ⟨rfl,hJx3⟩)
   ·gi_wp2
    go_roundw
    case rel=>exact⟨k+1,by omega,by go_num,by rw[hts];exact hJ3,hnx.trans (hb1.trans hk3)⟩
    case measure=>simp[intOf];omega
   ·gi_wp2
    refine bodyPost_ret (results_none rfl _ _ _) rfl ?_;exact⟨⟨_,rfl⟩,.inr ⟨_,hpre,by rw[hts];exact hJx3⟩⟩
  ·obtain rfl:k=zs.length:=by omega
   gi_wp2
   go_end0
   exact⟨⟨_,rfl⟩,.inl ⟨_,List.take_length,hJs⟩⟩
theorem valsT_seq (F:Fence)(n:Nat)(hf:F.fn 138)(hro:F.round=none)(hn:1<=n)(Bs:Nat)(ao:Option Addr)(cap:Nat)(zs:List Tup)(hl:zs.length<=1099511627776)(w:World)(hBs:Bs<w.heap.size)
  (hc:w.cell? ⟨Bs,0,none⟩=some (.slice ao zs.length cap)) (hS:Sl (· < w.heap.size) w 6 (.slice ao zs.length cap) (zs.flatMap tuC)) :
  SeqStopsK F n Tryz.prog 138 #[.pointer (some ⟨Bs,0,none⟩)] (fun x:Tup=>#[tV x]) (Below w.heap.size) (fun ys=>ys=zs) (fun pre=>pre <+: zs) zs.length w:=fun l J Jx W hW hA _ hY h0 =>
 (valsT_in F n hf hro hn l Bs w.heap.size W.heap.size ao cap zs hl J Jx hA hY W hW.size ((hW.cell (p:=⟨Bs,0,none⟩) hBs).trans hc) (hS.same fun x hx=>hW.block x hx) h0).mono fun _ _ h=>h
set_option maxRecDepth 100000 in
set_option maxHeartbeats 800000 in
theorem valuesT_any (ao:Option Addr)(k cap:Nat)(w:World):Calls Tryz.prog 77 #[.slice ao k cap] w fun e w'=>e = .returned (.func (.func 138) #[] #[.pointer (some ⟨w.heap.size,0,none⟩)])/\w'=w.alloc (.cells #[.slice ao k cap] 27):=by
 go_enter Tryz.func77,Tryz.ntmps77
 go_wp2
 go_ret
 exact⟨rfl,rfl⟩
set_option maxRecDepth 100000 in
set_option maxHeartbeats 800000 in
theorem collectT_any (w:World)(Bs:Nat)(ao:Option Addr)(cap:Nat)(zs:List Tup)(hl:zs.length<=137438953472)(hBs:Bs<w.heap.size)(hc:w.cell? ⟨Bs,0,none⟩=some (.slice ao zs.length cap))(hS:Sl (· < w.heap.size) w 6 (.slice ao zs.length cap) (zs.flatMap tuC)) :
  Calls Tryz.prog 136 #[.func (.func 138) #[] #[.pointer (some ⟨Bs,0,none⟩)]] w fun e w'=>∃ v',e = .returned v'/\Own w' w.heap.size 67 6 v' (tuCs zs)/\Ext w w':=by
 have HP:=h! (callsIn_wide.1 (appT_in Fence.wide 3 trivial rfl (by omega) 138 _ trivial (enters_of Tryz.func138 (by kernel_rfl) rfl) _ _ zs.length w hl (valsT_seq Fence.wide 2 trivial rfl (by omega) Bs ao cap zs (by omega) w hBs hc hS)));clear hS hc;go_enter Tryz.func136,Tryz.ntmps136
 go_wp2_with fail
 refine HP.out.mono ?_;rintro e w1 ⟨v,ss,rfl,rfl,ho,hx⟩;go_wp2
 go_ret
 exact⟨v,rfl,ho,hx⟩
def ltT (a b:Tup):Bool:=if a.o=b.o then ltP a.s b.s else ltP a.o b.o
def cmpT (a b:Tup):Int:=if ltT a b then -1 else if a=b then 0 else 1
theorem ltP_ne {a b:P3} (h:ltP a b=true):a≠b:=fun e=>by subst e;rw[ltP_irr]at h;cases h
theorem ltT_irr (a:Tup):ltT a a=false:=by simp[ltT,ltP_irr]
theorem ltT_total {a b:Tup} (h:ltT a b=false)(hne:a≠b):ltT b a=true:=by
 unfold ltT at *;by_cases h1:a.o=b.o
 ·rw[if_pos h1]at h;rw[if_pos h1.symm];refine ltP_total h fun h2=>hne ?_;cases a;cases b;simp_all
 ·rw[if_neg h1]at h;rw[if_neg (Ne.symm h1)];exact ltP_total h h1
theorem ltT_trans {a b c:Tup} (h:ltT a b=true)(k:ltT b c=true):ltT a c=true:=by
 unfold ltT at *;by_cases h1:a.o=b.o <;> by_cases k1:b.o=c.o
 ·rw[if_pos h1]at h;rw[if_pos k1]at k;rw[if_pos (h1.trans k1)];exact ltP_trans h k
 ·rw[if_neg k1]at k;rw[if_neg (h1▸k1),h1];exact k
 ·rw[if_neg h1]at h;rw[if_neg (k1▸h1),<- k1];exact h
 ·rw[if_neg h1]at h;rw[if_neg k1]at k;have:=ltP_trans h k;rw[if_neg (ltP_ne this)];exact this
theorem lt_cmpT (a b:Tup):Go.Proofs.ltOf cmpT a b=ltT a b:=by
 unfold Go.Proofs.ltOf cmpT;cases h:ltT a b with
 | true=>simp
 | false =>
  simp only[Bool.false_eq_true,if_false];split <;> simp
theorem swoT:Go.Sort.SWO (Go.Proofs.ltOf cmpT) where
 irrefl x:=by rw[lt_cmpT];exact ltT_irr x
 trans x y z h k:=by rw[lt_cmpT]at *;exact ltT_trans h k
 ntrans x y z h k:=by
  rw[lt_cmpT]at *;cases hxz:ltT x z with
  | false=>rfl
  | true =>
   by_cases e1:x=y
   ·subst e1;rw[hxz]at k;cases k
   ·have h1:=ltT_total h e1;have h2:=ltT_trans h1 hxz;rw[h2]at k;cases k
def UpT (l:List Tup):Prop:=l.Pairwise fun a b=>ltT a b=true
theorem UpT.nodup {l:List Tup} (h:UpT l):l.Nodup:=h.imp fun {a b} hab e=>by subst e;rw[ltT_irr]at hab;cases hab
theorem UpT.uniq:∀ {l m:List Tup},UpT l->UpT m->(∀ t,t∈l↔t∈m)->l=m
 | [],[],_,_,_=>rfl
 | [],b::m,_,_,h=>by have:=(h b).2 (by simp);cases this
 | a::l,[],_,_,h=>by have:=(h a).1 (by simp);cases this
 | a::l,b::m,hl,hm,h=>by
  have hl1:=List.pairwise_cons.1 hl;have hm1:=List.pairwise_cons.1 hm
  have hab:a=b:=by
   rcases List.mem_cons.1 ((h a).1 (by simp))with e | e
   ·exact e
   ·rcases List.mem_cons.1 ((h b).2 (by simp))with e2 | e2
    ·exact e2.symm
    ·have h1:=hm1.1 a e;have h2:=hl1.1 b e2;have:=ltT_trans h1 h2;rw[ltT_irr]at this;cases this
  subst hab;congr 1
  refine UpT.uniq hl1.2 hm1.2 fun t=>⟨fun ht=>?_,fun ht=>?_⟩
  ·rcases List.mem_cons.1 ((h t).1 (List.mem_cons_of_mem _ ht))with e | e
   ·subst e;have:=hl1.1 t ht;rw[ltT_irr]at this;cases this
   ·exact e
  ·rcases List.mem_cons.1 ((h t).2 (List.mem_cons_of_mem _ ht))with e | e
   ·subst e;have:=hm1.1 t ht;rw[ltT_irr]at this;cases this
   ·exact e
theorem UpT.filter {l:List Tup} (h:UpT l)(p:Tup->Bool):UpT (l.filter p):=List.Pairwise.filter _ h
structure SetT (l T:List Tup):Prop where
 up:UpT T
 mem:∀ t,t∈T↔t∈l/\chkT t=true
theorem SetT.uniq {l T U:List Tup} (h:SetT l T)(k:SetT l U):T=U:=h.up.uniq k.up fun t=>(h.mem t).trans (k.mem t).symm
theorem SetT.len {l T:List Tup} (h:SetT l T):T.length<=l.length:=by
 have:∀ {l u:List Tup},l.Nodup->(∀ x∈l,x∈u)->l.length<=u.length:=by
  intro l;induction l with
  | nil=>intro u _ _;exact Nat.zero_le _
  | cons a l ih =>
   intro u hn hs;obtain⟨p,q,rfl⟩:=List.append_of_mem (hs a List.mem_cons_self);rw[List.nodup_cons]at hn
   have h1:=ih (u:=p++q) hn.2 fun x hx=>by
    have h2:=hs x (List.mem_cons_of_mem _ hx);rcases List.mem_append.1 h2 with h3 | h3
    ·exact List.mem_append_left _ h3
    ·rcases List.mem_cons.1 h3 with h3 | h3
     ·subst h3;exact absurd hx hn.1
     ·exact List.mem_append_right _ h3
   simp only[List.length_cons,List.length_append]at h1 ⊢;omega
 exact this h.up.nodup fun x hx=>((h.mem x).1 hx).1
end Go.Proofs.YtlhaghoajpglaaaGreat
namespace Go.Proofs.YtlhaghoajpglaaaGreat
open Go Go.RowKit Go.Shelf
theorem Gr.fields {w w':World} (h:Gr w w'):w'.tape=w.tape/\w'.os=w.os/\w'.output=w.output/\w.drawn<=w'.drawn:=by
 obtain⟨q,os,rfl⟩:=h;exact⟨rfl,rfl,rfl,by simp[Sort.grow,World.drewN]⟩
theorem Gr.of {w w':World} (ht:w'.tape=w.tape)(ho:w'.os=w.os)(hp:w'.output=w.output)(hd:w.drawn<=w'.drawn)(hz:w.heap.size<=w'.heap.size)(hk:∀ k,k<w.heap.size->w'.heap[k]?=w.heap[k]?):Gr w w':=by
 refine⟨w'.drawn-w.drawn,w'.heap.extract w.heap.size w'.heap.size,?_⟩
 have hh:w'.heap=w.heap++w'.heap.extract w.heap.size w'.heap.size:=by
  apply Array.ext_getElem?;intro i;by_cases hi:i<w.heap.size
  ·rw[hk i hi,Array.getElem?_append_left hi]
  ·rw[Array.getElem?_append_right (by omega),Array.getElem?_extract];by_cases h2:i<w'.heap.size
   ·rw[if_pos (by omega)];congr 1
    omega
   ·rw[if_neg (by omega)];exact Array.getElem?_eq_none (by omega)
 obtain⟨h1,t1,d1,o1,p1⟩:=w';simp only at ht ho hp hd hh;subst ht ho hp;simp only[Sort.grow,World.drewN];congr 1
 omega
theorem Gr.next {a b c:World} (h:Gr a b)(k:Gr b c):Gr a c:=by
 have h1:=h.fields;have k1:=k.fields;have h2:=h.below;have k2:=k.below;refine Gr.of (k1.1.trans h1.1) (k1.2.1.trans h1.2.1) (k1.2.2.1.trans h1.2.2.1) (Nat.le_trans h1.2.2.2 k1.2.2.2) (Nat.le_trans h2.size k2.size) fun j hj=>(k2.block j (Nat.lt_of_lt_of_le hj h2.size)).trans (h2.block j hj)
theorem Gr.set {w w':World} (h:Gr w w') {x i:Nat} (hx:w.heap.size<=x)(v:Value):Gr w (w'.setCell ⟨x,i,none⟩ v):=by
 have h1:=h.fields;have h2:=h.below;exact Gr.of h1.1 h1.2.1 h1.2.2.1 h1.2.2.2 (by have:=h2.size;simpa using this) fun j hj=>(Below.heap_setCell _ _ _ j (by show j≠x;omega)).trans (h2.block j hj)
def Tryz.lays106_ren:Go.Shelf.Ren:=⟨fun | 106=>140 | 213=>199 | 265=>242 | n=>n,fun | 9=>9 | 3=>3 | n=>n,fun | n=>n⟩
theorem Tryz.lays106:Go.Proofs.Lays.n106 Tryz.prog Tryz.lays106_ren := {
 mixed:=by kernel_rfl
 f106:=Tryz.func140.trans (congrArg some (by kernel_rfl))
 f213:=Tryz.func199.trans (congrArg some (by kernel_rfl))
 f265:=Tryz.func242.trans (congrArg some (by kernel_rfl))
 t3:=Tryz.underlying3
 a3:=Tryz.isAgg3
 z3:=Tryz.sizeOf3
 v3:=Tryz.zeroValue3
 t9:=Tryz.underlying9
 a9:=Tryz.isAgg9
 z9:=Tryz.sizeOf9
 v9:=Tryz.zeroValue9}
theorem compareS_any (a b:ByteArray)(w:World):Calls Tryz.prog 140 #[.string a,.string b] w fun e w'=>e = .returned (.int .i64 (Lib.compareBytes a.data.toList b.data.toList))/\w'=w:=Any.strings_Compare Tryz.lays106 a b w
theorem region_to {P:Program} {c:Code} {Q:Exit->Act->World->Prop} {a:Act} {w:World} (R:Act->World->Prop)(h1:c.wp P (fun e a' w'=>e = .normal/\R a' w') a w)(h2:∀ a' w',R a' w'->Q .normal a' w'):c.wp P Q a w :=
 Code.wp_mono (fun e a' w' h=>by
  obtain⟨rfl,h⟩:=h;exact h2 a' w' h) h1
end Go.Proofs.YtlhaghoajpglaaaGreat
namespace Go.Proofs.YtlhaghoajpglaaaGreat
open Go Go.RowKit
theorem cmpL_eq:∀ l m:List UInt8,Lib.compareBytes l m=if l<m then -1 else if l=m then 0 else 1
 | [],[]=>by simp[Lib.compareBytes]
 | [],_::_=>by simp[Lib.compareBytes]
 | _::_,[]=>by simp[Lib.compareBytes]
 | a::l,b::m=>by
  rw[Lib.compareBytes,cmpL_eq l m];by_cases h:a<b
  ·rw[if_pos h,if_pos (List.cons_lt_cons_iff.2 (.inl h))]
  ·rw[if_neg h];by_cases h2:b<a
   ·have hne:¬ a=b:=fun e=>by rw[e]at h2;exact UInt8.lt_irrefl _ h2
    have h3:¬ (a::l)<(b::m):=fun h4=>by
     rcases List.cons_lt_cons_iff.1 h4 with h5 | ⟨h5,_⟩
     ·exact h h5
     ·exact hne h5
    rw[if_pos h2,if_neg h3,if_neg (by simp[hne])]
   ·have e:a=b:=UInt8.le_antisymm (UInt8.not_lt.1 h2) (UInt8.not_lt.1 h);subst e;rw[if_neg h2];have h3:(a::l)<(a::m)↔l<m:=by rw[List.cons_lt_cons_iff];simp[UInt8.lt_irrefl]
    by_cases h4:l<m
    ·rw[if_pos h4,if_pos (h3.2 h4)]
    ·rw[if_neg h4,if_neg (fun h5=>h4 (h3.1 h5))];simp
theorem cB_cmpS (a b:ByteArray):Lib.compareBytes a.data.toList b.data.toList=cmpS a b:=by
 rw[cmpL_eq];unfold cmpS
 have h1:(ltS a b=true)↔a.data.toList<b.data.toList:=by
  unfold ltS;rw[ByteArray.toList_eq,ByteArray.toList_eq,bytesLess_eq];simp
 have h2:a.data.toList=b.data.toList↔a=b:=⟨fun h=>by
  obtain⟨⟨x⟩⟩:=a;obtain⟨⟨y⟩⟩:=b;simp only at h;rw[h],fun h=>by rw[h]⟩
 simp only[h1,h2]
def tp (a:Tup):Nat->ByteArray
 | 0=>a.o.t
 | 1=>a.o.i
 | 2=>a.o.r
 | 3=>a.s.t
 | 4=>a.s.i
 | _=>a.s.r
def cL (a b:Tup):List Int:=[cmpS a.o.t b.o.t,cmpS a.o.i b.o.i,cmpS a.o.r b.o.r,cmpS a.s.t b.s.t,cmpS a.s.i b.s.i,cmpS a.s.r b.s.r]
def cmpC (a b:Tup):Int:=orL (cL a b)
theorem cL_at (a b:Tup):∀ i (h:i<(cL a b).length),(cL a b)[i]=cmpS (tp a i) (tp b i)
 | 0,_=>rfl
 | 1,_=>rfl
 | 2,_=>rfl
 | 3,_=>rfl
 | 4,_=>rfl
 | 5,_=>rfl
 | _+6,h=>absurd h (by simp[cL])
theorem cmpC_eq (a b:Tup):cmpC a b=if a.o=b.o then ordP a.s b.s else ordP a.o b.o:=by
 obtain⟨⟨a1,a2,a3⟩,⟨a4,a5,a6⟩⟩:=a;obtain⟨⟨b1,b2,b3⟩,⟨b4,b5,b6⟩⟩:=b;simp only[cmpC,cL,ordP,orL,P3.mk.injEq,cmpS_zero];by_cases h1:a1=b1 <;> by_cases h2:a2=b2 <;> by_cases h3:a3=b3 <;> simp[h1,h2,h3]
theorem lt_cmpC (a b:Tup):Go.Proofs.ltOf cmpC a b=ltT a b:=by
 unfold ltT
 have e:Go.Proofs.ltOf cmpC a b=if a.o=b.o then Go.Proofs.ltOf ordP a.s b.s else Go.Proofs.ltOf ordP a.o b.o:=by
  unfold Go.Proofs.ltOf;rw[cmpC_eq];split <;> rfl
 rw[e,lt_ordP,lt_ordP]
theorem swoC:Go.Sort.SWO (Go.Proofs.ltOf cmpC):=by
 have:Go.Proofs.ltOf cmpC=Go.Proofs.ltOf cmpT:=funext fun a=>funext fun b=>by rw[lt_cmpC,lt_cmpT]
 rw[this];exact swoT
theorem cmpC_self (a:Tup):cmpC a a=0:=by
 have h:∀ x:ByteArray,cmpS x x=0:=fun x=>(cmpS_zero x x).2 rfl;simp[cmpC,cL,orL,h]
theorem cmpC_first {a b:Tup} {i:Nat} (hi:i<6)(h0:∀ j,j<i->cmpS (tp a j) (tp b j)=0)(h1:cmpS (tp a i) (tp b i)≠0):cmpC a b=cmpS (tp a i) (tp b i):=by
 have hl:i<(cL a b).length:=hi;unfold cmpC;rw[orL_drop (i:=i) fun j hj hji=>by rw[cL_at];exact h0 j hji];rw[List.drop_eq_getElem_cons hl,orL,cL_at,if_neg h1]
theorem cmpC_none {a b:Tup} (h0:∀ j,j<6->cmpS (tp a j) (tp b j)=0):cmpC a b=0:=by
 unfold cmpC;rw[orL_drop (i:=6) fun j hj hji=>by rw[cL_at];exact h0 j hji];rfl
def tpC (a:Tup):Array Value:=#[.string a.o.t,.string a.o.i,.string a.o.r,.string a.s.t,.string a.s.i,.string a.s.r]
theorem tpC_at (a:Tup):∀ i,i<6->(tpC a)[i]?=some (.string (tp a i))
 | 0,_=>rfl
 | 1,_=>rfl
 | 2,_=>rfl
 | 3,_=>rfl
 | 4,_=>rfl
 | 5,_=>rfl
 | _+6,h=>absurd h (by omega)
theorem tup_eq (a b:Tup)(W:World):(binOp BinOp.eql 67 (tV a) (tV b)).run Tryz.prog W = .ok (.bool (decide (a=b))) W:=by
 obtain⟨⟨a1,a2,a3⟩,⟨a4,a5,a6⟩⟩:=a;obtain⟨⟨b1,b2,b3⟩,⟨b4,b5,b6⟩⟩:=b;unfold tV;dsimp only;go_simp;simp only[ba_toList];by_cases h1:a1=b1
 ·by_cases h2:a2=b2
  ·by_cases h3:a3=b3
   ·by_cases h4:a4=b4
    ·by_cases h5:a5=b5
     ·by_cases h6:a6=b6 <;> simp[h1,h2,h3,h4,h5,h6]
     ·simp[h1,h2,h3,h4,h5]
    ·simp[h1,h2,h3,h4]
   ·simp[h1,h2,h3]
  ·simp[h1,h2]
 ·simp[h1]
def zr6:Array Value:=#[.string ⟨#[]⟩,.string ⟨#[]⟩,.string ⟨#[]⟩,.string ⟨#[]⟩,.string ⟨#[]⟩,.string ⟨#[]⟩]
section
variable {w w' : World} {B B' : Nat} {e : TypeId} {cs : Array Value}
theorem Blk.put6 (h:Blk w B zr6 e)(x0 x1 x2 x3 x4 x5:Value):Blk ((((((w.setCell ⟨B,0,none⟩ x0).setCell ⟨B,1,none⟩ x1).setCell ⟨B,2,none⟩ x2).setCell ⟨B,3,none⟩ x3).setCell ⟨B,4,none⟩ x4).setCell ⟨B,5,none⟩ x5) B #[x0,x1,x2,x3,x4,x5] e :=
 (((((h.set_to 0 x0 rfl).set_to 1 x1 rfl).set_to 2 x2 rfl).set_to 3 x3 rfl).set_to 4 x4 rfl).set_to 5 x5 rfl
theorem Blk.away6 (h:Blk w B cs e)(hne:B≠B')(x0 x1 x2 x3 x4 x5:Value):Blk ((((((w.setCell ⟨B',0,none⟩ x0).setCell ⟨B',1,none⟩ x1).setCell ⟨B',2,none⟩ x2).setCell ⟨B',3,none⟩ x3).setCell ⟨B',4,none⟩ x4).setCell ⟨B',5,none⟩ x5) B cs e :=
 (((((h.other (a:=⟨B',0,none⟩) hne x0).other (a:=⟨B',1,none⟩) hne x1).other (a:=⟨B',2,none⟩) hne x2).other (a:=⟨B',3,none⟩) hne x3).other (a:=⟨B',4,none⟩) hne x4).other (a:=⟨B',5,none⟩) hne x5
theorem gr_set6 (h:Gr w w')(hB:w.heap.size<=B)(x0 x1 x2 x3 x4 x5:Value):Gr w ((((((w'.setCell ⟨B,0,none⟩ x0).setCell ⟨B,1,none⟩ x1).setCell ⟨B,2,none⟩ x2).setCell ⟨B,3,none⟩ x3).setCell ⟨B,4,none⟩ x4).setCell ⟨B,5,none⟩ x5) :=
 (((((h.set hB x0).set hB x1).set hB x2).set hB x3).set hB x4).set hB x5
end
set_option maxRecDepth 100000 in
set_option maxHeartbeats 1600000 in
theorem ofG_any (t:Tup)(w:World):Calls Tryz.prog 139 #[tV t] w fun e w'=>e = .returned (tV t)/\Gr w w':=by
 obtain⟨⟨ot,oi,or_⟩,⟨st,si,sr⟩⟩:=t;have hb:=(Blk.made w #[.string ot,.string oi,.string or_,.string st,.string si,.string sr] 67);have h1:Gr w (w.alloc (.cells #[.string ot,.string oi,.string or_,.string st,.string si,.string sr] 67)):=(Gr.refl _).alloc _;unfold tV;dsimp only;go_enter Tryz.func139,Tryz.ntmps139
 go_wp2_with fail
 refine bodyPost_ret (results_cell_row rfl _ _ (w.heap.size+1) 237 #[.string ot,.string oi,.string or_,.string st,.string si,.string sr] (0,0) _ rfl ?_ Tryz.underlying237 rfl (by kernel_rfl)) rfl ⟨rfl,h1.alloc _⟩;have:=heap_alloc_new (w.alloc (.cells #[.string ot,.string oi,.string or_,.string st,.string si,.string sr] 67)) (.cells #[.string ot,.string oi,.string or_,.string st,.string si,.string sr] 237);rwa[World.size_alloc]at this
set_option maxRecDepth 100000 in
set_option maxHeartbeats 8000000 in
theorem cmpTup_any (a b:Tup)(w:World):Calls Tryz.prog 78 #[tV a,tV b] w fun e w'=>e = .returned (.int .i64 (cmpC a b))/\Gr w w':=by
 have hg1:Gr w ((w.alloc (.cells (tpC a) 67)).alloc (.cells (tpC b) 67)):=((Gr.refl _).alloc _).alloc _;have HG1:=h! hg1;have HA1:=h! ((Blk.made w (tpC a) 67).alloc (.cells (tpC b) 67));have HB1:=h! (Blk.made' (w:=w.alloc (.cells (tpC a) 67)) (B:=w.heap.size+1) (by simp) (tpC b) 67);clear hg1;by_cases hab:a=b
 ·subst hab;have HZ:=h! (cmpC_self a);obtain⟨⟨a1,a2,a3⟩,⟨a4,a5,a6⟩⟩:=a;unfold tpC at HG1 HA1 HB1;dsimp only at HG1 HA1 HB1;have ha:=HA1.out.cells;have hb:=HB1.out.cells;unfold tV;dsimp only
  have hq:∀ W,(binOp BinOp.eql 67 (.agg #[.string a1,.string a2,.string a3,.string a4,.string a5,.string a6]) (.agg #[.string a1,.string a2,.string a3,.string a4,.string a5,.string a6])).run Tryz.prog W = .ok (.bool true) W:=fun W=>by
   have h:=tup_eq ⟨⟨a1,a2,a3⟩,⟨a4,a5,a6⟩⟩ ⟨⟨a1,a2,a3⟩,⟨a4,a5,a6⟩⟩ W;rw[decide_eq_true rfl]at h;exact h
  go_enter Tryz.func78,Tryz.ntmps78
  go_wp2_with fail
  go_ret
  exact⟨by rw[HZ.out];rfl,HG1.out⟩
 ·have HF:=h! (fun i (h6:i<6) (h0:∀ j,j<i->cmpS (tp a j) (tp b j)=0) (h1:cmpS (tp a i) (tp b i)≠0)=>cmpC_first h6 h0 h1);have HN:=h! (fun(h0:∀ j,j<6->cmpS (tp a j) (tp b j)=0)=>cmpC_none h0);have HTA:=h! (tpC_at a);have HTB:=h! (tpC_at b);generalize cmpC a b=cab at *;generalize hta:tp a=ta at *;generalize htb:tp b=tb at *;clear hta htb
  have hqn:∀ W,(binOp BinOp.eql 67 (tV a) (tV b)).run Tryz.prog W = .ok (.bool false) W:=fun W=>by
   have h:=tup_eq a b W;rwa[decide_eq_false hab]at h
  clear hab;obtain⟨⟨a1,a2,a3⟩,⟨a4,a5,a6⟩⟩:=a;obtain⟨⟨b1,b2,b3⟩,⟨b4,b5,b6⟩⟩:=b;unfold tpC at *;dsimp only at HG1 HA1 HB1 HTA HTB;have ha:=HA1.out.cells;have hb:=HB1.out.cells;unfold tV at hqn ⊢;dsimp only at hqn ⊢;go_enter Tryz.func78,Tryz.ntmps78
  go_wp2_with fail
  clear ha hb hqn;refine region_to (fun a' W=>∃ x y,a' = {tmps:=#[.agg #[.string a1,.string a2,.string a3,.string a4,.string a5,.string a6],.agg #[.string b1,.string b2,.string b3,.string b4,.string b5,.string b6],.pointer (some ⟨w.heap.size,0,none⟩),.pointer (some ⟨w.heap.size+1,0,none⟩),.int .i64 0,.pointer (some ⟨x,0,none⟩),.pointer (some ⟨y,0,none⟩),undef,undef,.agg #[.string a1,.string a2,.string a3,.string a4,.string a5,.string a6],.agg #[.string b1,.string b2,.string b3,.string b4,.string b5,.string b6],.bool false,.agg #[.string a1,.string a2,.string a3,.string a4,.string a5,.string a6],.agg #[.string a1,.string a2,.string a3,.string a4,.string a5,.string a6],.agg #[.string b1,.string b2,.string b3,.string b4,.string b5,.string b6],.agg #[.string b1,.string b2,.string b3,.string b4,.string b5,.string b6],undef,undef,undef,undef,undef,undef,undef,undef,undef,undef,undef,undef,undef,undef],defers:=[]}/\Blk W x #[.string a1,.string a2,.string a3,.string a4,.string a5,.string a6] 237/\Blk W y #[.string b1,.string b2,.string b3,.string b4,.string b5,.string b6] 237/\Gr w W) ?_ ?_
  ·obtain⟨wd,hwd⟩:∃ y,y=((w.alloc (.cells #[.string a1,.string a2,.string a3,.string a4,.string a5,.string a6] 67)).alloc (.cells #[.string b1,.string b2,.string b3,.string b4,.string b5,.string b6] 67)).drew:=⟨_,rfl⟩;have hE:=h! (show Gr w wd from by rw[hwd];exact HG1.out.drew);have hAd:=h! (show Blk wd w.heap.size _ _ from by rw[hwd];exact HA1.out.drew);have hBd:=h! (show Blk wd (w.heap.size+1) _ _ from by rw[hwd];exact HB1.out.drew);refine region_walkN (Gr wd) (by rw[<- hwd];exact Gr.refl _) (by kernel_rfl) (by kernel_rfl) (fun _ _ d _ _ h=>absurd h.1 (fun e=>by cases e)) ?_;rw[<- hwd];clear hwd HG1 HA1 HB1;have h1:=fun W (h:Gr wd W)=>(hAd.out.below h.below).cells;have h2:=fun W (h:Gr wd W)=>(hBd.out.below h.below).cells;(refine WalkN.tk [0,2] ?_;(iterate 2 ((refine TkN.c _ ?_ (by simp only[gA,gS,gZ];rfl) (by kernel_rfl) (by kernel_rfl) (by rfl) (fun W hW=>?_) ?_;rotate_left;· (go_simp;try with_reducible rfl));simp only[Act.put,pA,pZ,pS]));refine TkN.n ?_)
   clear h1 h2;have hE0:=hE;have hE:=h! (Gr.refl wd);refine WalkN.three 1 4 5 (by kernel_rfl) ?_ ?_ ?_;refine⟨_,(by simp only[gA,gS,gZ];rfl),by rfl,fun K hK=>?_⟩;go_simp;refine(ofG_any ⟨⟨a1,a2,a3⟩,⟨a4,a5,a6⟩⟩ wd).mono ?_;rintro e u1 ⟨rfl,hg0⟩;refine hK.out _ _ (hE.out.next hg0) ?_;clear hK;unfold tV;dsimp only;have hE:=h! (hE.out.next hg0);clear hg0;refine WalkN.three 3 4 5 (by kernel_rfl) ?_ ?_ ?_;refine⟨_,(by simp only[gA,gS,gZ];rfl),by rfl,fun K hK=>?_⟩;go_simp;refine(ofG_any ⟨⟨b1,b2,b3⟩,⟨b4,b5,b6⟩⟩ u1).mono ?_;rintro e u2 ⟨rfl,hg1⟩;refine hK.out _ _ (hE.out.next hg1) ?_;clear hK;unfold tV;dsimp only;have hE:=h! (hE.out.next hg1);clear hg1;refine WalkN.two 4 5 (by kernel_rfl) ?_ ?_;refine⟨_,(by simp only[gA,gS,gZ];rfl),by rfl,fun K hK=>?_⟩;go_simp;refine hK.out _ _ (hE.out.alloc (.cells zr6 237)) ?_;clear hK;have hx2:=Ext.alloc u2 (.cells zr6 237);have hA0:=Blk.made u2 zr6 237;have hps2:=hE.out.below.size;have hE:=h! (hE.out.alloc (.cells zr6 237));clear hx2;unfold zr6 at *;generalize u2.alloc (.cells #[.string ⟨#[]⟩,.string ⟨#[]⟩,.string ⟨#[]⟩,.string ⟨#[]⟩,.string ⟨#[]⟩,.string ⟨#[]⟩] 237)=u3 at *;generalize hpe2:u2.heap.size=pa at *;have hpa:=h! (show wd.heap.size<=pa from by first | exact Nat.le_of_eq hpe2 | exact hps2);clear hpe2 hps2;have hA:=h! hA0;clear hA0;refine WalkN.one 5 (by kernel_rfl) ?_;refine⟨_,(by simp only[gA,gS,gZ];rfl),by rfl,fun K hK=>?_⟩;go_simp;refine hK.out _ _ (hE.out.alloc (.cells zr6 237)) ?_;clear hK;have hx3:=Ext.alloc u3 (.cells zr6 237);have hne:=h! (show pa≠u3.heap.size from Nat.ne_of_lt hA.out.lt);have hA:=h! (hA.out.below hx3);have hB0:=Blk.made u3 zr6 237;have hps3:=hE.out.below.size;have hE:=h! (hE.out.alloc (.cells zr6 237));clear hx3;unfold zr6 at *;generalize u3.alloc (.cells #[.string ⟨#[]⟩,.string ⟨#[]⟩,.string ⟨#[]⟩,.string ⟨#[]⟩,.string ⟨#[]⟩,.string ⟨#[]⟩] 237)=u4 at *;generalize hpe3:u3.heap.size=pb at *;have hpb:=h! (show wd.heap.size<=pb from by first | exact Nat.le_of_eq hpe3 | exact hps3);clear hpe3 hps3;have hB:=h! hB0;clear hB0;rotate_left
   refine⟨_,(by simp only[gA,gS,gZ];rfl),by rfl,fun K hK=>?_⟩;go_simp;refine hK.out _ _ (hE.out.alloc (.cells zr6 237)) ?_;clear hK;have hx2:=Ext.alloc u2 (.cells zr6 237);have hB0:=Blk.made u2 zr6 237;have hps2:=hE.out.below.size;have hE:=h! (hE.out.alloc (.cells zr6 237));clear hx2;unfold zr6 at *;generalize u2.alloc (.cells #[.string ⟨#[]⟩,.string ⟨#[]⟩,.string ⟨#[]⟩,.string ⟨#[]⟩,.string ⟨#[]⟩,.string ⟨#[]⟩] 237)=u3 at *;generalize hpe2:u2.heap.size=pb at *;have hpb:=h! (show wd.heap.size<=pb from by first | exact Nat.le_of_eq hpe2 | exact hps2);clear hpe2 hps2;have hB:=h! hB0;clear hB0;refine WalkN.one 4 (by kernel_rfl) ?_;refine⟨_,(by simp only[gA,gS,gZ];rfl),by rfl,fun K hK=>?_⟩;go_simp;refine hK.out _ _ (hE.out.alloc (.cells zr6 237)) ?_;clear hK;have hx3:=Ext.alloc u3 (.cells zr6 237);have hne:=h! (show u3.heap.size≠pb from fun e=>Nat.lt_irrefl _ (e▸hB.out.lt));have hB:=h! (hB.out.below hx3);have hA0:=Blk.made u3 zr6 237;have hps3:=hE.out.below.size;have hE:=h! (hE.out.alloc (.cells zr6 237));clear hx3;unfold zr6 at *;generalize u3.alloc (.cells #[.string ⟨#[]⟩,.string ⟨#[]⟩,.string ⟨#[]⟩,.string ⟨#[]⟩,.string ⟨#[]⟩,.string ⟨#[]⟩] 237)=u4 at *;generalize hpe3:u3.heap.size=pa at *;have hpa:=h! (show wd.heap.size<=pa from by first | exact Nat.le_of_eq hpe3 | exact hps3);clear hpe3 hps3;have hA:=h! hA0;clear hA0;rotate_left
   refine⟨_,(by simp only[gA,gS,gZ];rfl),by rfl,fun K hK=>?_⟩;go_simp;refine hK.out _ _ (hE.out.alloc (.cells zr6 237)) ?_;clear hK;have hx1:=Ext.alloc u1 (.cells zr6 237);have hA0:=Blk.made u1 zr6 237;have hps1:=hE.out.below.size;have hE:=h! (hE.out.alloc (.cells zr6 237));clear hx1;unfold zr6 at *;generalize u1.alloc (.cells #[.string ⟨#[]⟩,.string ⟨#[]⟩,.string ⟨#[]⟩,.string ⟨#[]⟩,.string ⟨#[]⟩,.string ⟨#[]⟩] 237)=u2 at *;generalize hpe1:u1.heap.size=pa at *;have hpa:=h! (show wd.heap.size<=pa from by first | exact Nat.le_of_eq hpe1 | exact hps1);clear hpe1 hps1;have hA:=h! hA0;clear hA0;refine WalkN.two 3 5 (by kernel_rfl) ?_ ?_;refine⟨_,(by simp only[gA,gS,gZ];rfl),by rfl,fun K hK=>?_⟩;go_simp;refine(ofG_any ⟨⟨b1,b2,b3⟩,⟨b4,b5,b6⟩⟩ u2).mono ?_;rintro e u3 ⟨rfl,hg2⟩;refine hK.out _ _ (hE.out.next hg2) ?_;clear hK;unfold tV;dsimp only;have hA:=h! (hA.out.below hg2.below);have hE:=h! (hE.out.next hg2);clear hg2;refine WalkN.one 5 (by kernel_rfl) ?_;refine⟨_,(by simp only[gA,gS,gZ];rfl),by rfl,fun K hK=>?_⟩;go_simp;refine hK.out _ _ (hE.out.alloc (.cells zr6 237)) ?_;clear hK;have hx3:=Ext.alloc u3 (.cells zr6 237);have hne:=h! (show pa≠u3.heap.size from Nat.ne_of_lt hA.out.lt);have hA:=h! (hA.out.below hx3);have hB0:=Blk.made u3 zr6 237;have hps3:=hE.out.below.size;have hE:=h! (hE.out.alloc (.cells zr6 237));clear hx3;unfold zr6 at *;generalize u3.alloc (.cells #[.string ⟨#[]⟩,.string ⟨#[]⟩,.string ⟨#[]⟩,.string ⟨#[]⟩,.string ⟨#[]⟩,.string ⟨#[]⟩] 237)=u4 at *;generalize hpe3:u3.heap.size=pb at *;have hpb:=h! (show wd.heap.size<=pb from by first | exact Nat.le_of_eq hpe3 | exact hps3);clear hpe3 hps3;have hB:=h! hB0;clear hB0;rotate_left
   refine⟨_,(by simp only[gA,gS,gZ];rfl),by rfl,fun K hK=>?_⟩;go_simp;refine hK.out _ _ (hE.out.alloc (.cells zr6 237)) ?_;clear hK;have hx2:=Ext.alloc u2 (.cells zr6 237);have hne:=h! (show pa≠u2.heap.size from Nat.ne_of_lt hA.out.lt);have hA:=h! (hA.out.below hx2);have hB0:=Blk.made u2 zr6 237;have hps2:=hE.out.below.size;have hE:=h! (hE.out.alloc (.cells zr6 237));clear hx2;unfold zr6 at *;generalize u2.alloc (.cells #[.string ⟨#[]⟩,.string ⟨#[]⟩,.string ⟨#[]⟩,.string ⟨#[]⟩,.string ⟨#[]⟩,.string ⟨#[]⟩] 237)=u3 at *;generalize hpe2:u2.heap.size=pb at *;have hpb:=h! (show wd.heap.size<=pb from by first | exact Nat.le_of_eq hpe2 | exact hps2);clear hpe2 hps2;have hB:=h! hB0;clear hB0;refine WalkN.one 3 (by kernel_rfl) ?_;refine⟨_,(by simp only[gA,gS,gZ];rfl),by rfl,fun K hK=>?_⟩;go_simp;refine(ofG_any ⟨⟨b1,b2,b3⟩,⟨b4,b5,b6⟩⟩ u3).mono ?_;rintro e u4 ⟨rfl,hg3⟩;refine hK.out _ _ (hE.out.next hg3) ?_;clear hK;unfold tV;dsimp only;have hA:=h! (hA.out.below hg3.below);have hB:=h! (hB.out.below hg3.below);have hE:=h! (hE.out.next hg3);clear hg3;rotate_left
   refine⟨_,(by simp only[gA,gS,gZ];rfl),by rfl,fun K hK=>?_⟩;go_simp;refine hK.out _ _ (hE.out.alloc (.cells zr6 237)) ?_;clear hK;have hx1:=Ext.alloc u1 (.cells zr6 237);have hB0:=Blk.made u1 zr6 237;have hps1:=hE.out.below.size;have hE:=h! (hE.out.alloc (.cells zr6 237));clear hx1;unfold zr6 at *;generalize u1.alloc (.cells #[.string ⟨#[]⟩,.string ⟨#[]⟩,.string ⟨#[]⟩,.string ⟨#[]⟩,.string ⟨#[]⟩,.string ⟨#[]⟩] 237)=u2 at *;generalize hpe1:u1.heap.size=pb at *;have hpb:=h! (show wd.heap.size<=pb from by first | exact Nat.le_of_eq hpe1 | exact hps1);clear hpe1 hps1;have hB:=h! hB0;clear hB0;refine WalkN.two 3 4 (by kernel_rfl) ?_ ?_;refine⟨_,(by simp only[gA,gS,gZ];rfl),by rfl,fun K hK=>?_⟩;go_simp;refine(ofG_any ⟨⟨b1,b2,b3⟩,⟨b4,b5,b6⟩⟩ u2).mono ?_;rintro e u3 ⟨rfl,hg2⟩;refine hK.out _ _ (hE.out.next hg2) ?_;clear hK;unfold tV;dsimp only;have hB:=h! (hB.out.below hg2.below);have hE:=h! (hE.out.next hg2);clear hg2;refine WalkN.one 4 (by kernel_rfl) ?_;refine⟨_,(by simp only[gA,gS,gZ];rfl),by rfl,fun K hK=>?_⟩;go_simp;refine hK.out _ _ (hE.out.alloc (.cells zr6 237)) ?_;clear hK;have hx3:=Ext.alloc u3 (.cells zr6 237);have hne:=h! (show u3.heap.size≠pb from fun e=>Nat.lt_irrefl _ (e▸hB.out.lt));have hB:=h! (hB.out.below hx3);have hA0:=Blk.made u3 zr6 237;have hps3:=hE.out.below.size;have hE:=h! (hE.out.alloc (.cells zr6 237));clear hx3;unfold zr6 at *;generalize u3.alloc (.cells #[.string ⟨#[]⟩,.string ⟨#[]⟩,.string ⟨#[]⟩,.string ⟨#[]⟩,.string ⟨#[]⟩,.string ⟨#[]⟩] 237)=u4 at *;generalize hpe3:u3.heap.size=pa at *;have hpa:=h! (show wd.heap.size<=pa from by first | exact Nat.le_of_eq hpe3 | exact hps3);clear hpe3 hps3;have hA:=h! hA0;clear hA0;rotate_left
   refine⟨_,(by simp only[gA,gS,gZ];rfl),by rfl,fun K hK=>?_⟩;go_simp;refine hK.out _ _ (hE.out.alloc (.cells zr6 237)) ?_;clear hK;have hx2:=Ext.alloc u2 (.cells zr6 237);have hne:=h! (show u2.heap.size≠pb from fun e=>Nat.lt_irrefl _ (e▸hB.out.lt));have hB:=h! (hB.out.below hx2);have hA0:=Blk.made u2 zr6 237;have hps2:=hE.out.below.size;have hE:=h! (hE.out.alloc (.cells zr6 237));clear hx2;unfold zr6 at *;generalize u2.alloc (.cells #[.string ⟨#[]⟩,.string ⟨#[]⟩,.string ⟨#[]⟩,.string ⟨#[]⟩,.string ⟨#[]⟩,.string ⟨#[]⟩] 237)=u3 at *;generalize hpe2:u2.heap.size=pa at *;have hpa:=h! (show wd.heap.size<=pa from by first | exact Nat.le_of_eq hpe2 | exact hps2);clear hpe2 hps2;have hA:=h! hA0;clear hA0;refine WalkN.one 3 (by kernel_rfl) ?_;refine⟨_,(by simp only[gA,gS,gZ];rfl),by rfl,fun K hK=>?_⟩;go_simp;refine(ofG_any ⟨⟨b1,b2,b3⟩,⟨b4,b5,b6⟩⟩ u3).mono ?_;rintro e u4 ⟨rfl,hg3⟩;refine hK.out _ _ (hE.out.next hg3) ?_;clear hK;unfold tV;dsimp only;have hA:=h! (hA.out.below hg3.below);have hB:=h! (hB.out.below hg3.below);have hE:=h! (hE.out.next hg3);clear hg3;rotate_left
   refine⟨_,(by simp only[gA,gS,gZ];rfl),by rfl,fun K hK=>?_⟩;go_simp;refine hK.out _ _ (hE.out.alloc (.cells zr6 237)) ?_;clear hK;have hx0:=Ext.alloc wd (.cells zr6 237);have hA0:=Blk.made wd zr6 237;have hps0:=hE.out.below.size;have hE:=h! (hE.out.alloc (.cells zr6 237));clear hx0;unfold zr6 at *;generalize wd.alloc (.cells #[.string ⟨#[]⟩,.string ⟨#[]⟩,.string ⟨#[]⟩,.string ⟨#[]⟩,.string ⟨#[]⟩,.string ⟨#[]⟩] 237)=u1 at *;generalize hpe0:wd.heap.size=pa at *;have hpa:=h! (show wd.heap.size<=pa from by first | exact Nat.le_of_eq hpe0 | exact hps0);clear hpe0 hps0;have hA:=h! hA0;clear hA0;refine WalkN.two 1 5 (by kernel_rfl) ?_ ?_;refine⟨_,(by simp only[gA,gS,gZ];rfl),by rfl,fun K hK=>?_⟩;go_simp;refine(ofG_any ⟨⟨a1,a2,a3⟩,⟨a4,a5,a6⟩⟩ u1).mono ?_;rintro e u2 ⟨rfl,hg1⟩;refine hK.out _ _ (hE.out.next hg1) ?_;clear hK;unfold tV;dsimp only;have hA:=h! (hA.out.below hg1.below);have hE:=h! (hE.out.next hg1);clear hg1;refine WalkN.two 3 5 (by kernel_rfl) ?_ ?_;refine⟨_,(by simp only[gA,gS,gZ];rfl),by rfl,fun K hK=>?_⟩;go_simp;refine(ofG_any ⟨⟨b1,b2,b3⟩,⟨b4,b5,b6⟩⟩ u2).mono ?_;rintro e u3 ⟨rfl,hg2⟩;refine hK.out _ _ (hE.out.next hg2) ?_;clear hK;unfold tV;dsimp only;have hA:=h! (hA.out.below hg2.below);have hE:=h! (hE.out.next hg2);clear hg2;refine WalkN.one 5 (by kernel_rfl) ?_;refine⟨_,(by simp only[gA,gS,gZ];rfl),by rfl,fun K hK=>?_⟩;go_simp;refine hK.out _ _ (hE.out.alloc (.cells zr6 237)) ?_;clear hK;have hx3:=Ext.alloc u3 (.cells zr6 237);have hne:=h! (show pa≠u3.heap.size from Nat.ne_of_lt hA.out.lt);have hA:=h! (hA.out.below hx3);have hB0:=Blk.made u3 zr6 237;have hps3:=hE.out.below.size;have hE:=h! (hE.out.alloc (.cells zr6 237));clear hx3;unfold zr6 at *;generalize u3.alloc (.cells #[.string ⟨#[]⟩,.string ⟨#[]⟩,.string ⟨#[]⟩,.string ⟨#[]⟩,.string ⟨#[]⟩,.string ⟨#[]⟩] 237)=u4 at *;generalize hpe3:u3.heap.size=pb at *;have hpb:=h! (show wd.heap.size<=pb from by first | exact Nat.le_of_eq hpe3 | exact hps3);clear hpe3 hps3;have hB:=h! hB0;clear hB0;rotate_left
   refine⟨_,(by simp only[gA,gS,gZ];rfl),by rfl,fun K hK=>?_⟩;go_simp;refine hK.out _ _ (hE.out.alloc (.cells zr6 237)) ?_;clear hK;have hx2:=Ext.alloc u2 (.cells zr6 237);have hne:=h! (show pa≠u2.heap.size from Nat.ne_of_lt hA.out.lt);have hA:=h! (hA.out.below hx2);have hB0:=Blk.made u2 zr6 237;have hps2:=hE.out.below.size;have hE:=h! (hE.out.alloc (.cells zr6 237));clear hx2;unfold zr6 at *;generalize u2.alloc (.cells #[.string ⟨#[]⟩,.string ⟨#[]⟩,.string ⟨#[]⟩,.string ⟨#[]⟩,.string ⟨#[]⟩,.string ⟨#[]⟩] 237)=u3 at *;generalize hpe2:u2.heap.size=pb at *;have hpb:=h! (show wd.heap.size<=pb from by first | exact Nat.le_of_eq hpe2 | exact hps2);clear hpe2 hps2;have hB:=h! hB0;clear hB0;refine WalkN.one 3 (by kernel_rfl) ?_;refine⟨_,(by simp only[gA,gS,gZ];rfl),by rfl,fun K hK=>?_⟩;go_simp;refine(ofG_any ⟨⟨b1,b2,b3⟩,⟨b4,b5,b6⟩⟩ u3).mono ?_;rintro e u4 ⟨rfl,hg3⟩;refine hK.out _ _ (hE.out.next hg3) ?_;clear hK;unfold tV;dsimp only;have hA:=h! (hA.out.below hg3.below);have hB:=h! (hB.out.below hg3.below);have hE:=h! (hE.out.next hg3);clear hg3;rotate_left
   refine⟨_,(by simp only[gA,gS,gZ];rfl),by rfl,fun K hK=>?_⟩;go_simp;refine hK.out _ _ (hE.out.alloc (.cells zr6 237)) ?_;clear hK;have hx1:=Ext.alloc u1 (.cells zr6 237);have hne:=h! (show pa≠u1.heap.size from Nat.ne_of_lt hA.out.lt);have hA:=h! (hA.out.below hx1);have hB0:=Blk.made u1 zr6 237;have hps1:=hE.out.below.size;have hE:=h! (hE.out.alloc (.cells zr6 237));clear hx1;unfold zr6 at *;generalize u1.alloc (.cells #[.string ⟨#[]⟩,.string ⟨#[]⟩,.string ⟨#[]⟩,.string ⟨#[]⟩,.string ⟨#[]⟩,.string ⟨#[]⟩] 237)=u2 at *;generalize hpe1:u1.heap.size=pb at *;have hpb:=h! (show wd.heap.size<=pb from by first | exact Nat.le_of_eq hpe1 | exact hps1);clear hpe1 hps1;have hB:=h! hB0;clear hB0;refine WalkN.one 1 (by kernel_rfl) ?_;refine⟨_,(by simp only[gA,gS,gZ];rfl),by rfl,fun K hK=>?_⟩;go_simp;refine(ofG_any ⟨⟨a1,a2,a3⟩,⟨a4,a5,a6⟩⟩ u2).mono ?_;rintro e u3 ⟨rfl,hg2⟩;refine hK.out _ _ (hE.out.next hg2) ?_;clear hK;unfold tV;dsimp only;have hA:=h! (hA.out.below hg2.below);have hB:=h! (hB.out.below hg2.below);have hE:=h! (hE.out.next hg2);clear hg2;refine WalkN.one 3 (by kernel_rfl) ?_;refine⟨_,(by simp only[gA,gS,gZ];rfl),by rfl,fun K hK=>?_⟩;go_simp;refine(ofG_any ⟨⟨b1,b2,b3⟩,⟨b4,b5,b6⟩⟩ u3).mono ?_;rintro e u4 ⟨rfl,hg3⟩;refine hK.out _ _ (hE.out.next hg3) ?_;clear hK;unfold tV;dsimp only;have hA:=h! (hA.out.below hg3.below);have hB:=h! (hB.out.below hg3.below);have hE:=h! (hE.out.next hg3);clear hg3;rotate_left
   refine⟨_,(by simp only[gA,gS,gZ];rfl),by rfl,fun K hK=>?_⟩;go_simp;refine hK.out _ _ (hE.out.alloc (.cells zr6 237)) ?_;clear hK;have hx0:=Ext.alloc wd (.cells zr6 237);have hB0:=Blk.made wd zr6 237;have hps0:=hE.out.below.size;have hE:=h! (hE.out.alloc (.cells zr6 237));clear hx0;unfold zr6 at *;generalize wd.alloc (.cells #[.string ⟨#[]⟩,.string ⟨#[]⟩,.string ⟨#[]⟩,.string ⟨#[]⟩,.string ⟨#[]⟩,.string ⟨#[]⟩] 237)=u1 at *;generalize hpe0:wd.heap.size=pb at *;have hpb:=h! (show wd.heap.size<=pb from by first | exact Nat.le_of_eq hpe0 | exact hps0);clear hpe0 hps0;have hB:=h! hB0;clear hB0;refine WalkN.two 1 4 (by kernel_rfl) ?_ ?_;refine⟨_,(by simp only[gA,gS,gZ];rfl),by rfl,fun K hK=>?_⟩;go_simp;refine(ofG_any ⟨⟨a1,a2,a3⟩,⟨a4,a5,a6⟩⟩ u1).mono ?_;rintro e u2 ⟨rfl,hg1⟩;refine hK.out _ _ (hE.out.next hg1) ?_;clear hK;unfold tV;dsimp only;have hB:=h! (hB.out.below hg1.below);have hE:=h! (hE.out.next hg1);clear hg1;refine WalkN.two 3 4 (by kernel_rfl) ?_ ?_;refine⟨_,(by simp only[gA,gS,gZ];rfl),by rfl,fun K hK=>?_⟩;go_simp;refine(ofG_any ⟨⟨b1,b2,b3⟩,⟨b4,b5,b6⟩⟩ u2).mono ?_;rintro e u3 ⟨rfl,hg2⟩;refine hK.out _ _ (hE.out.next hg2) ?_;clear hK;unfold tV;dsimp only;have hB:=h! (hB.out.below hg2.below);have hE:=h! (hE.out.next hg2);clear hg2;refine WalkN.one 4 (by kernel_rfl) ?_;refine⟨_,(by simp only[gA,gS,gZ];rfl),by rfl,fun K hK=>?_⟩;go_simp;refine hK.out _ _ (hE.out.alloc (.cells zr6 237)) ?_;clear hK;have hx3:=Ext.alloc u3 (.cells zr6 237);have hne:=h! (show u3.heap.size≠pb from fun e=>Nat.lt_irrefl _ (e▸hB.out.lt));have hB:=h! (hB.out.below hx3);have hA0:=Blk.made u3 zr6 237;have hps3:=hE.out.below.size;have hE:=h! (hE.out.alloc (.cells zr6 237));clear hx3;unfold zr6 at *;generalize u3.alloc (.cells #[.string ⟨#[]⟩,.string ⟨#[]⟩,.string ⟨#[]⟩,.string ⟨#[]⟩,.string ⟨#[]⟩,.string ⟨#[]⟩] 237)=u4 at *;generalize hpe3:u3.heap.size=pa at *;have hpa:=h! (show wd.heap.size<=pa from by first | exact Nat.le_of_eq hpe3 | exact hps3);clear hpe3 hps3;have hA:=h! hA0;clear hA0;rotate_left
   refine⟨_,(by simp only[gA,gS,gZ];rfl),by rfl,fun K hK=>?_⟩;go_simp;refine hK.out _ _ (hE.out.alloc (.cells zr6 237)) ?_;clear hK;have hx2:=Ext.alloc u2 (.cells zr6 237);have hne:=h! (show u2.heap.size≠pb from fun e=>Nat.lt_irrefl _ (e▸hB.out.lt));have hB:=h! (hB.out.below hx2);have hA0:=Blk.made u2 zr6 237;have hps2:=hE.out.below.size;have hE:=h! (hE.out.alloc (.cells zr6 237));clear hx2;unfold zr6 at *;generalize u2.alloc (.cells #[.string ⟨#[]⟩,.string ⟨#[]⟩,.string ⟨#[]⟩,.string ⟨#[]⟩,.string ⟨#[]⟩,.string ⟨#[]⟩] 237)=u3 at *;generalize hpe2:u2.heap.size=pa at *;have hpa:=h! (show wd.heap.size<=pa from by first | exact Nat.le_of_eq hpe2 | exact hps2);clear hpe2 hps2;have hA:=h! hA0;clear hA0;refine WalkN.one 3 (by kernel_rfl) ?_;refine⟨_,(by simp only[gA,gS,gZ];rfl),by rfl,fun K hK=>?_⟩;go_simp;refine(ofG_any ⟨⟨b1,b2,b3⟩,⟨b4,b5,b6⟩⟩ u3).mono ?_;rintro e u4 ⟨rfl,hg3⟩;refine hK.out _ _ (hE.out.next hg3) ?_;clear hK;unfold tV;dsimp only;have hA:=h! (hA.out.below hg3.below);have hB:=h! (hB.out.below hg3.below);have hE:=h! (hE.out.next hg3);clear hg3;rotate_left
   refine⟨_,(by simp only[gA,gS,gZ];rfl),by rfl,fun K hK=>?_⟩;go_simp;refine hK.out _ _ (hE.out.alloc (.cells zr6 237)) ?_;clear hK;have hx1:=Ext.alloc u1 (.cells zr6 237);have hne:=h! (show u1.heap.size≠pb from fun e=>Nat.lt_irrefl _ (e▸hB.out.lt));have hB:=h! (hB.out.below hx1);have hA0:=Blk.made u1 zr6 237;have hps1:=hE.out.below.size;have hE:=h! (hE.out.alloc (.cells zr6 237));clear hx1;unfold zr6 at *;generalize u1.alloc (.cells #[.string ⟨#[]⟩,.string ⟨#[]⟩,.string ⟨#[]⟩,.string ⟨#[]⟩,.string ⟨#[]⟩,.string ⟨#[]⟩] 237)=u2 at *;generalize hpe1:u1.heap.size=pa at *;have hpa:=h! (show wd.heap.size<=pa from by first | exact Nat.le_of_eq hpe1 | exact hps1);clear hpe1 hps1;have hA:=h! hA0;clear hA0;refine WalkN.one 1 (by kernel_rfl) ?_;refine⟨_,(by simp only[gA,gS,gZ];rfl),by rfl,fun K hK=>?_⟩;go_simp;refine(ofG_any ⟨⟨a1,a2,a3⟩,⟨a4,a5,a6⟩⟩ u2).mono ?_;rintro e u3 ⟨rfl,hg2⟩;refine hK.out _ _ (hE.out.next hg2) ?_;clear hK;unfold tV;dsimp only;have hA:=h! (hA.out.below hg2.below);have hB:=h! (hB.out.below hg2.below);have hE:=h! (hE.out.next hg2);clear hg2;refine WalkN.one 3 (by kernel_rfl) ?_;refine⟨_,(by simp only[gA,gS,gZ];rfl),by rfl,fun K hK=>?_⟩;go_simp;refine(ofG_any ⟨⟨b1,b2,b3⟩,⟨b4,b5,b6⟩⟩ u3).mono ?_;rintro e u4 ⟨rfl,hg3⟩;refine hK.out _ _ (hE.out.next hg3) ?_;clear hK;unfold tV;dsimp only;have hA:=h! (hA.out.below hg3.below);have hB:=h! (hB.out.below hg3.below);have hE:=h! (hE.out.next hg3);clear hg3;rotate_left
   all_goals
    refine WalkN.one 6 (by kernel_rfl) ?_;refine⟨_,(by simp only[gA,gS,gZ];rfl),by rfl,fun K hK=>?_⟩;have hbf:=hA.out.cells;have hbz:=hA.out.free;go_simp;clear hbf hbz;refine hK.out _ _ (gr_set6 hE.out hpa.out _ _ _ _ _ _) ?_;clear hK;have hE:=h! (gr_set6 hE.out hpa.out (.string a1) (.string a2) (.string a3) (.string a4) (.string a5) (.string a6));have hA0:=hA.out.put6 (.string a1) (.string a2) (.string a3) (.string a4) (.string a5) (.string a6);have hB0:=hB.out.away6 (B':=pa) (Ne.symm hne.out) (.string a1) (.string a2) (.string a3) (.string a4) (.string a5) (.string a6);generalize ((((((u4.setCell ⟨pa,0,none⟩ (.string a1)).setCell ⟨pa,1,none⟩ (.string a2)).setCell ⟨pa,2,none⟩ (.string a3)).setCell ⟨pa,3,none⟩ (.string a4)).setCell ⟨pa,4,none⟩ (.string a5)).setCell ⟨pa,5,none⟩ (.string a6))=u5 at *;have hA:=h! hA0;have hB:=h! hB0;clear hA0 hB0;refine WalkN.one 7 (by kernel_rfl) ?_;refine⟨_,(by simp only[gA,gS,gZ];rfl),by rfl,fun K hK=>?_⟩;have hbf:=hB.out.cells;have hbz:=hB.out.free;go_simp;clear hbf hbz;refine hK.out _ _ (gr_set6 hE.out hpb.out _ _ _ _ _ _) ?_;clear hK;have hE:=h! (gr_set6 hE.out hpb.out (.string b1) (.string b2) (.string b3) (.string b4) (.string b5) (.string b6));have hB0:=hB.out.put6 (.string b1) (.string b2) (.string b3) (.string b4) (.string b5) (.string b6);have hA0:=hA.out.away6 (B':=pb) hne.out (.string b1) (.string b2) (.string b3) (.string b4) (.string b5) (.string b6);generalize ((((((u5.setCell ⟨pb,0,none⟩ (.string b1)).setCell ⟨pb,1,none⟩ (.string b2)).setCell ⟨pb,2,none⟩ (.string b3)).setCell ⟨pb,3,none⟩ (.string b4)).setCell ⟨pb,4,none⟩ (.string b5)).setCell ⟨pb,5,none⟩ (.string b6))=u6 at *;have hA:=h! hA0;have hB:=h! hB0;clear hA0 hB0;refine WalkN.done (by kernel_rfl) ?_;exact⟨rfl,pa,pb,rfl,hA.out,hB.out,hE0.out.next hE.out⟩
  ·rintro a' W ⟨x,y,rfl,hA,hB,hG⟩;have HA:=h! hA;have HB:=h! hB;have HG:=h! hG;clear hA hB hG HG1 HA1 HB1;go_wp2_with fail
   go_loopw [7,8,16] (fun _ _ iv wr=>∃ i:Nat,i<=6/\iv = .int .i64 i/\(∀ j,j<i->cmpS (ta j) (tb j)=0)/\Blk wr x #[.string a1,.string a2,.string a3,.string a4,.string a5,.string a6] 237/\Blk wr y #[.string b1,.string b2,.string b3,.string b4,.string b5,.string b6] 237/\Gr w wr) (fun _ _ iv _=>6-(intOf iv).toNat)
   case atStart=>exact⟨0,Nat.zero_le _,rfl,(fun j h=>absurd h (Nat.not_lt_zero j)),HA.out,HB.out,HG.out⟩
   case round =>
    obtain⟨i,hi,rfl,hall,hA,hB,hG⟩:=hrel;have HALL:=h! hall;have RA:=h! hA;have RB:=h! hB;have RG:=h! hG;clear HA HB HG hall hA hB hG;by_cases hlt:i<6
    ·have HLT:=h! hlt;have hia:=HTA.out i hlt;have hib:=HTB.out i hlt;have hi6:(i:Int)<6:=by omega
     have hi0:(0:Int)<=(i:Int):=by omega
     have HFI:=h! (HF.out i hlt HALL.out)
     have HNX:=h! (show cmpS (ta i) (tb i)=0->∀ j,j<i+1->cmpS (ta j) (tb j)=0 from fun h0 j hj=>by
      rcases Nat.lt_succ_iff_lt_or_eq.1 hj with h | rfl
      ·exact HALL.out j h
      ·exact h0)
     generalize ta i=sa at *;generalize tb i=sb at *;clear hlt hi;go_wp2_with fail
     obtain⟨wd,hwd⟩:∃ wd:World,wd=wr.drew:=⟨_,rfl⟩;have DG:=h! (show Gr w wd from by rw[hwd];exact RG.out.drew);have DA:=h! (show Blk wd x _ _ from by rw[hwd];exact RA.out.drew);have DB:=h! (show Blk wd y _ _ from by rw[hwd];exact RB.out.drew);refine region_walkN (Ext wd) (by rw[<- hwd];exact Ext.refl _) (by kernel_rfl) (by kernel_rfl) (fun _ _ d _ _ h=>by cases d <;> exact h) ?_;rw[<- hwd];clear hwd RA RB RG;have h1:∀ W,Ext wd W->W.cell? ⟨x,i,none⟩=some (.string sa):=fun W h=>((DA.out.below h).cells i).trans hia;have h2:∀ W,Ext wd W->W.cell? ⟨y,i,none⟩=some (.string sb):=fun W h=>((DB.out.below h).cells i).trans hib;(refine WalkN.tk [0,1,2,3,4,5] ?_;(iterate 6 ((refine TkN.c _ ?_ (by simp only[gA,gS,gZ];rfl) (by kernel_rfl) (by kernel_rfl) (by rfl) (fun W hW=>?_) ?_;rotate_left;· (go_simp;try with_reducible rfl));simp only[Act.put,pA,pZ,pS]));refine TkN.n ?_)
     clear h1 h2 hia hib;refine WalkN.one 6 (by kernel_rfl) ?_;refine⟨_,(by simp only[gA,gS,gZ];rfl),by rfl,fun K hK=>?_⟩;go_simp;refine(compareS_any sa sb wd).mono ?_;rintro e w2 ⟨rfl,rfl⟩;rw[cB_cmpS];refine hK.out _ _ (Ext.refl _) ?_;clear hK;((refine WalkN.take 7 _ ?_ (by simp only[gA,gS,gZ];rfl) (by kernel_rfl) (by kernel_rfl) (by rfl) (fun W hW=>?_) ?_;rotate_left;· (go_simp;try with_reducible rfl));simp only[Act.put,pA,pZ,pS])
     refine WalkN.done (by kernel_rfl) ?_;by_cases hz:cmpS sa sb=0
     ·have HZ:=h! (HNX.out hz);rw[hz];clear hz;go_wp2_with fail
      go_roundw
      case rel=>exact⟨i+1,HLT.out,by go_num,HZ.out,DA.out,DB.out,DG.out⟩
      case measure=>have:=HLT.out;simp[intOf];omega
     ·have HZ:=h! (HFI.out hz);generalize cmpS sa sb=cz at *;have hcz:(cz != 0)=true:=by simpa using hz
      go_wp2_with fail
      go_ret
      exact⟨by rw[HZ.out];rfl,DG.out⟩
    ·obtain rfl:i=6:=by omega
     have HZ:=h! (HN.out HALL.out);go_wp2_with fail
     go_ret
     exact⟨by rw[HZ.out];rfl,RG.out⟩
end Go.Proofs.YtlhaghoajpglaaaGreat
