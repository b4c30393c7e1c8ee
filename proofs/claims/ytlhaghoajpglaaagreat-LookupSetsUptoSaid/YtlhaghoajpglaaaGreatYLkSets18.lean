/- Lemmas for the claim, no condition. -/
import Derived.Test.YtlhaghoajpglaaaGreatYLkSets0
import GoSem.PinnedTables
import Derived.Deep.DeepHandedRow
import Derived.Lib.SmallJoins
import Derived.ChangeMaps5
import Derived.Test.YtlhaghoajpglaaaGreatYLkSets17
import Derived.Test.YtlhaghoajpglaaaGreatYLkSets12
import Derived.Test.YtlhaghoajpglaaaGreatYLkSets14
import Derived.Test.YtlhaghoajpglaaaGreatYLkSets15
import Derived.Test.YtlhaghoajpglaaaGreatYLkSets3
import Derived.Test.YtlhaghoajpglaaaGreatYLkSets1
import Derived.Test.YtlhaghoajpglaaaGreatYLkSets10
import Derived.Test.YtlhaghoajpglaaaGreatYLkSets6
import Derived.Test.YtlhaghoajpglaaaGreatYLkSets9
import Derived.Test.YtlhaghoajpglaaaGreatYLkSets2
import Derived.Test.YtlhaghoajpglaaaGreatYLkSets5
set_option maxRecDepth 100000
set_option maxHeartbeats 6000000
namespace Go.Proofs.YtlhaghoajpglaaaGreat
open Go Go.RowKit Go.Maps
theorem sameO_any (v1 v2:Value)(l:List O2)(w:World)(h1:Sl (· < w.heap.size) w 2 v1 (ocs l))(h2:Sl (· < w.heap.size) w 2 v2 (ocs l)):Calls Tryz.prog 62 #[v1,v2] w fun e w'=>e = .returned (.bool true)/\Below w.heap.size w w':=by
 obtain⟨ao,c,rfl,hlc,hcm,hc⟩:=Sl.rows oC_length (by decide) (show Sl _ w 2 v1 (List.flatMap oC l)from h1);obtain⟨ao2,c2,rfl,hlc2,hcm2,hc2⟩:=Sl.rows oC_length (by decide) (show Sl _ w 2 v2 (List.flatMap oC l)from h2);have HC:=h! hc;have HC2:=h! hc2;clear hc hc2 h1 h2;go_enter Tryz.func62,Tryz.ntmps62
 go_wp2_with fail
 go_loopw [13] (fun ii wr=>∃ i:Nat,i<=l.length/\ii = .int .i64 i/\Below w.heap.size w wr) (fun ii _=>l.length-(intOf ii).toNat)
 case atStart=>exact⟨0,by omega,rfl,Below.refl _ _⟩
 case round =>
  obtain⟨i,hi,rfl,hbel⟩:=hrel;by_cases hlt:i<l.length
  ·obtain⟨b,off,rfl,hb,hc⟩:=HC.out (by omega);obtain⟨b2,off2,rfl,hb2,hc2⟩:=HC2.out (by omega);have c0:=hc i hlt 0 _ rfl;have c1:=hc i hlt 1 _ rfl;have e0:=hc2 i hlt 0 _ rfl;have e1:=hc2 i hlt 1 _ rfl;clear hc hc2;generalize l[i]=x at *;obtain⟨xt,xi⟩:=x;rw[Nat.add_zero]at c0 e0;dsimp only at c0 c1 e0 e1;go_wp2_with fail
   obtain⟨wd,hwd⟩:∃ wd,wd=wr.drew:=⟨_,rfl⟩;have hbd:=hbel.drew;rw[<- hwd]at hbd;refine r! (Ext wd) (by rw[<- hwd];exact Ext.refl _) ?_;rw[<- hwd];clear hwd hbel;have g0:∀ W,Ext wd W->W.cell? ⟨b,off+i*2,none⟩=some (.string xt):=fun W h=>((Below.cell (hbd.trans (h.mono hbd.size)) (p:=⟨b,off+i*2,none⟩) hb)).trans c0;have g1:∀ W,Ext wd W->W.cell? ⟨b,off+i*2+1,none⟩=some (.string xi):=fun W h=>((Below.cell (hbd.trans (h.mono hbd.size)) (p:=⟨b,off+i*2+1,none⟩) hb)).trans c1;have k0:∀ W,Ext wd W->W.cell? ⟨b2,off2+i*2,none⟩=some (.string xt):=fun W h=>((Below.cell (hbd.trans (h.mono hbd.size)) (p:=⟨b2,off2+i*2,none⟩) hb2)).trans e0;have k1:∀ W,Ext wd W->W.cell? ⟨b2,off2+i*2+1,none⟩=some (.string xi):=fun W h=>((Below.cell (hbd.trans (h.mono hbd.size)) (p:=⟨b2,off2+i*2+1,none⟩) hb2)).trans e1;(refine WalkN.tk [0,1,2,3,4,5,6,7,8] ?_;(iterate 9 (refine c! ?_));refine TkN.n ?_)
   refine d! ?_;clear c0 c1 e0 e1 g0 g1 k0 k1;go_wp2_with fail
   go_roundw
   case rel=>exact⟨i+1,by omega,by go_num,hbd⟩
   case measure=>simp[intOf];omega
  ·obtain rfl:i=l.length:=by omega
   go_wp2_with fail
   go_ret
   exact⟨rfl,hbel⟩
def NoOb (w:World)(b:Nat):Prop:=∀ cs fr,w.heap[b]?≠some (.cells cs 30 fr)/\w.heap[b]?≠some (.cells cs 113 fr)
abbrev UO (lo:Nat) (A:Nat->Prop) (w w':World):Prop:=Kept (fun b=>b<w.heap.size/\(b<lo\/A b\/NoOb w b)) w w'
section
variable {lo : Nat} {A : Nat -> Prop} {w w' w'' : World}
theorem UO.refl (lo:Nat)(A:Nat->Prop)(w:World):UO lo A w w:=Kept.refl _ _
theorem UO.of (h:Ext w w'):UO lo A w w':=Below.kept h fun _ hb=>hb.1
theorem UO.next (h:UO lo A w w')(k:UO lo A w' w''):UO lo A w w'':=Kept.trans h (Kept.mono k fun b hb=>⟨Nat.lt_of_lt_of_le hb.1 h.size,by
 rcases hb.2 with h1 | h1 | h1
 ·exact .inl h1
 ·exact .inr (.inl h1)
 ·exact .inr (.inr fun cs fr=>by rw[h.block b ⟨hb.1,.inr (.inr h1)⟩];exact h1 cs fr)⟩)
theorem UO.blk (h:UO lo A w w') {b:Nat} {cs:Array Value} {t:TypeId} (hb:Blk w b cs t)(h1:t≠30)(h2:t≠113):Blk w' b cs t :=
 (h.block b ⟨hb.lt,.inr (.inr fun cs' fr=>⟨fun e=>by
  rw[show w.heap[b]?=_ from hb]at e;injection e with e
  injection e with _ e _
  exact h1 e,fun e=>by
  rw[show w.heap[b]?=_ from hb]at e;injection e with e
  injection e with _ e _
  exact h2 e⟩)⟩).trans hb
theorem UO.blkA (h:UO lo A w w') {b:Nat} {cs:Array Value} {t:TypeId} (hb:Blk w b cs t)(h1:A b):Blk w' b cs t:=(h.block b ⟨hb.lt,.inr (.inl h1)⟩).trans hb
end
theorem UO.below {lo:Nat} {A:Nat->Prop} {w w':World} (h:UO lo A w w')(hl:lo<=w.heap.size):Below lo w w':=Kept.below (B:=lo) h fun _b hb=>⟨Nat.lt_of_lt_of_le hb hl,.inl hb⟩
structure RoAt (w:World)(lo ub n:Nat)(A:Nat->Prop)(U:List (List O2))(vs:List Value):Prop where
 arr:Own w lo 113 1 (.slice (some ⟨ub,0,none⟩) n n) vs
 vlen:vs.length=n
 ulen:U.length=n
 row:∀ k v,vs[k]?=some v->Own w lo 30 2 v (ocs (U.getD k []))
 apart:∀ (j k:Nat) (v u:Value) (g:Nat),j≠k->vs[j]?=some v->vs[k]?=some u->v.ownBlock=some g->u.ownBlock≠some g
 off:∀ (k:Nat) (v:Value) (g:Nat),vs[k]?=some v->v.ownBlock=some g->¬ A g
section
variable {w w' w2 : World} {lo ub n k : Nat} {A : Nat -> Prop} {U : List (List O2)} {vs : List Value} {v v2 : Value} {x : O2}
theorem RoAt.ext (h:RoAt w lo ub n A U vs)(hx:Ext w w'):RoAt w' lo ub n A U vs :=
 ⟨h.arr.below hx,h.vlen,h.ulen,fun k v hv=>(h.row k v hv).below hx,h.apart,h.off⟩
theorem RoAt.add (h:RoAt w lo ub n A U vs)(hk:k<n)(hv:vs[k]?=some v)(ho:Own w2 lo 30 2 v2 (ocs (U.getD k []++[x])))(hw:∀ g,v2.ownBlock=some g->v.ownBlock=some g\/w.heap.size<=g)(hg:w.grownBy w2 v.ownBlock)(hA:∀ b,A b->b<w.heap.size)(hub:¬ A ub) :
  RoAt (w2.setCell ⟨ub,k,none⟩ v2) lo ub n A (U.set k (U.getD k []++[x])) (vs.set k v2)/\UO lo A w (w2.setCell ⟨ub,k,none⟩ v2):=by
 have hr:=h.row k v hv;have ha2:Own w2 lo 113 1 (.slice (some ⟨ub,0,none⟩) n n) vs:=h.arr.aside hr (by decide) hg
 have hne:∀ g,v2.ownBlock=some g->g≠ub:=fun g hg2 e=>by
  subst e;exact ho.apart ha2 (by decide) hg2 rfl
 have hset:∀ b,b≠ub->(w2.setCell ⟨ub,k,none⟩ v2).heap[b]?=w2.heap[b]?:=fun b hb=>Below.heap_setCell _ _ _ _ hb
 have hrow:∀ j u,j≠k->vs[j]?=some u->∀ g,u.ownBlock=some g->g<w.heap.size/\g≠ub/\v.ownBlock≠some g:=fun j u hj hu g hg2=>by
  have h1:=(h.row j u hu);refine⟨(h1.block g hg2).2,fun e=>?_,fun e=>h.apart k j v u g (Ne.symm hj) hv hu e hg2⟩;subst e;exact h1.apart h.arr (by decide) hg2 rfl
 refine⟨⟨ha2.set1 k v2,by rw[List.length_set];exact h.vlen,by rw[List.length_set];exact h.ulen,fun j u hu=>?_,fun j l u u' g hjl hu hu' hg2=>?_,fun j u g hu hg2=>?_⟩,?_⟩
 ·rw[getD_set,h.ulen];by_cases hj:j=k
  ·subst hj;rw[List.getElem?_set_self (by rw[h.vlen];exact hk)]at hu;obtain rfl:=Option.some.inj hu;rw[if_pos ⟨rfl,hk⟩];exact ho.keepOwn fun g hg2=>hset g (hne g hg2)
  ·rw[List.getElem?_set_ne (Ne.symm hj)]at hu;rw[if_neg fun e=>hj e.1]
   exact(h.row j u hu).keepOwn fun g hg2=>by
    obtain⟨h1,h2,h3⟩:=hrow j u hj hu g hg2;rw[hset g h2];exact hg.block g h1 (fun e=>h3 e.symm)
 ·by_cases hj:j=k
  ·subst hj;rw[List.getElem?_set_self (by rw[h.vlen];exact hk)]at hu;obtain rfl:=Option.some.inj hu;rw[List.getElem?_set_ne hjl]at hu';intro e;obtain⟨h1,h2,h3⟩:=hrow l u' (Ne.symm hjl) hu' g e;rcases hw g hg2 with h4 | h4
   ·exact h3 h4
   ·omega
  ·rw[List.getElem?_set_ne (Ne.symm hj)]at hu;obtain⟨h1,h2,h3⟩:=hrow j u hj hu g hg2;by_cases hl:l=k
   ·subst hl;rw[List.getElem?_set_self (by rw[h.vlen];exact hk)]at hu';obtain rfl:=Option.some.inj hu';intro e;rcases hw g e with h4 | h4
    ·exact h3 h4
    ·omega
   ·rw[List.getElem?_set_ne (Ne.symm hl)]at hu';exact h.apart j l u u' g hjl hu hu' hg2
 ·by_cases hj:j=k
  ·subst hj;rw[List.getElem?_set_self (by rw[h.vlen];exact hk)]at hu;obtain rfl:=Option.some.inj hu;intro hAg;rcases hw g hg2 with h4 | h4
   ·exact h.off j v g hv h4 hAg
   ·have:=hA g hAg;omega
  ·rw[List.getElem?_set_ne (Ne.symm hj)]at hu;exact h.off j u g hu hg2
 ·refine⟨hg.os,hg.tape,hg.output,by simpa using hg.size,fun b hb=>?_⟩;obtain⟨hb1,hb2⟩:=hb
  have h1:b≠ub:=fun e=>by
   subst e;rcases hb2 with h2 | h2 | h2
   ·have:=(h.arr.block b rfl).1;omega
   ·exact hub h2
   ·obtain⟨cur,h3⟩:=h.arr.typed (g:=b) rfl;exact(h2 cur (0,0)).2 h3
  rw[hset b h1];refine hg.block b hb1 fun e=>?_;rcases hb2 with h2 | h2 | h2
  ·have:=(hr.block b e.symm).1;omega
  ·exact h.off k v b hv e.symm h2
  ·obtain⟨cur,h3⟩:=hr.typed e.symm;exact(h2 cur (0,0)).1 h3
end
theorem RoAt.start {w:World} {lo ub n:Nat} (A:Nat->Prop)(h:Own w lo 113 1 (.slice (some ⟨ub,0,none⟩) n n) (List.replicate n (.slice none 0 0))):RoAt w lo ub n A (List.replicate n []) (List.replicate n (.slice none 0 0)) where
 arr:=h
 vlen:=List.length_replicate
 ulen:=List.length_replicate
 row k v hv:=by
  rw[List.getElem?_replicate]at hv;split at hv
  ·obtain rfl:=Option.some.inj hv;rw[show(List.replicate n ([]:List O2)).getD k []=[]from by rw[List.getD_eq_getElem?_getD,List.getElem?_replicate];split <;> rfl];exact Own.nil _ _ _ _
  ·cases hv
 apart j k v u g _ hv _ hg:=by
  rw[List.getElem?_replicate]at hv;split at hv
  ·obtain rfl:=Option.some.inj hv;cases hg
  ·cases hv
 off k v g hv hg:=by
  rw[List.getElem?_replicate]at hv;split at hv
  ·obtain rfl:=Option.some.inj hv;cases hg
  ·cases hv
theorem objT30:ElemT Tryz.prog 113 30 2 32:=ElemT.mk' Tryz.underlying113 (show _=some (some (.agg #[.string ByteArray.empty,.string ByteArray.empty]),2,32)by kernel_rfl) rfl (by decide)
theorem ocs_len (l:List O2):(ocs l).length=2*l.length:=by induction l with | nil=>rfl | cons a l ih=>simp[ocs,oC]at *;omega
theorem ocs_snoc (l:List O2)(o:O2):ocs (l++[o])=ocs l++oC o:=by simp[ocs]
theorem cell_sl1 {S:Nat->Prop} {w:World} {ao:Option Addr} {n c:Nat} {xs:List Value} (h:Sl S w 1 (.slice ao n c) xs) {i:Nat} {x:Value} (hi:xs[i]?=some x):∃ b off,ao=some ⟨b,off,none⟩/\w.cell? ⟨b,off+i,none⟩=some x:=by
 obtain⟨ao',n',c',e,h1,h2,h3,h4,h5⟩:=h;cases e;obtain⟨b,off,e3,hb,hcell⟩:=h5 (fun e4=>by rw[e4]at hi;simp at hi);exact⟨b,off,e3,hcell i x hi⟩
noncomputable def posO (fs:List FT) (n i:Nat) (o:O2):Bool:=decide (0<(solveR fs (oS o) n).getD i 0)
def SetsU (fs:List FT)(n:Nat)(l:List O2)(U:List (List O2)):Prop:=∀ i,i<n->U.getD i []=l.filter (posO fs n i)
def SetsQ (fs:List FT)(n:Nat)(l:List O2)(o:O2)(q:Nat)(U:List (List O2)):Prop:=∀ i,i<n->U.getD i []=l.filter (posO fs n i)++(if i<q/\posO fs n i o=true then [o]else [])
theorem SetsU.start {fs:List FT} {n:Nat} {l:List O2} {U:List (List O2)} (h:SetsU fs n l U)(o:O2):SetsQ fs n l o 0 U:=fun i hi=>by rw[h i hi,if_neg (fun e=>absurd e.1 (Nat.not_lt_zero i)),List.append_nil]
theorem SetsQ.no {fs:List FT} {n q:Nat} {l:List O2} {o:O2} {U:List (List O2)} (h:SetsQ fs n l o q U)(hp:posO fs n q o=false):SetsQ fs n l o (q+1) U:=fun i hi=>by
 rw[h i hi];by_cases e:i=q
 ·subst e;rw[if_neg (by rw[hp];simp),if_neg (by rw[hp];simp)]
 ·by_cases h2:i<q/\posO fs n i o=true
  ·rw[if_pos h2,if_pos ⟨by omega,h2.2⟩]
  ·rw[if_neg h2,if_neg (fun h3=>h2 ⟨by omega,h3.2⟩)]
theorem SetsQ.yes {fs:List FT} {n q:Nat} {l:List O2} {o:O2} {U:List (List O2)} (h:SetsQ fs n l o q U)(hU:U.length=n)(hq:q<n)(hp:posO fs n q o=true):SetsQ fs n l o (q+1) (U.set q (U.getD q []++[o])):=fun i hi=>by
 rw[getD_set,hU];by_cases e:i=q
 ·subst e;rw[if_pos ⟨rfl,hi⟩,h i hi,if_neg (fun e=>absurd e.1 (Nat.lt_irrefl i)),List.append_nil,if_pos ⟨by omega,hp⟩]
 ·rw[if_neg (fun h2=>e h2.1),h i hi];by_cases h2:i<q/\posO fs n i o=true
  ·rw[if_pos h2,if_pos ⟨by omega,h2.2⟩]
  ·rw[if_neg h2,if_neg (fun h3=>h2 ⟨by omega,h3.2⟩)]
theorem SetsQ.done {fs:List FT} {n:Nat} {l:List O2} {o:O2} {U:List (List O2)} (h:SetsQ fs n l o n U):SetsU fs n (l++[o]) U:=fun i hi=>by
 rw[h i hi,List.filter_append];cases hp:posO fs n i o with
 | true=>rw[if_pos ⟨hi,rfl⟩,List.filter_cons_of_pos hp];rfl
 | false=>rw[if_neg (by simp),List.filter_cons_of_neg (by rw[hp];decide)];rfl
theorem RoAt.more {w:World} {lo ub n:Nat} {A A':Nat->Prop} {U:List (List O2)} {vs:List Value} (h:RoAt w lo ub n A U vs)(hA:∀ b,A' b->A b\/w.heap.size<=b):RoAt w lo ub n A' U vs :=
 ⟨h.arr,h.vlen,h.ulen,h.row,h.apart,fun k v g hv hg h2=>by
  rcases hA g h2 with h3 | h3
  ·exact h.off k v g hv hg h3
  ·have:=((h.row k v hv).block g hg).2;omega⟩
theorem UO.less {lo:Nat} {A A':Nat->Prop} {w w':World} (h:UO lo A' w w')(hA:∀ b,A b->A' b):UO lo A w w':=Kept.mono h fun _ hb=>⟨hb.1,hb.2.imp id fun h=>h.imp (hA _) id⟩
theorem UO.own {lo B sz:Nat} {A:Nat->Prop} {w w':World} {e:TypeId} {v:Value} {xs:List Value} (h:UO lo A w w')(ho:Own w B e sz v xs)(h1:e≠30)(h2:e≠113):Own w' B e sz v xs:=ho.keepOwn fun g hg=>by
 obtain⟨cur,hc⟩:=ho.typed hg;exact(h.blk (show Blk w g cur e from hc) h1 h2).trans hc.symm
theorem UO.ownA {lo B sz:Nat} {A:Nat->Prop} {w w':World} {e:TypeId} {v:Value} {xs:List Value} (h:UO lo A w w')(ho:Own w B e sz v xs)(hA:∀ g,v.ownBlock=some g->A g):Own w' B e sz v xs:=ho.keepOwn fun g hg=>h.block g ⟨(ho.block g hg).2,.inr (.inl (hA g hg))⟩
theorem docSets_any (ps:List P3)(fs:List FT)(pv fv:Value)(typ:ByteArray)(w:World)(hg:GrAt (· < w.heap.size) w ps fs pv fv)(hn:ps.length<=1000000)(hbk:bkF fs<=40000) :
  Calls Tryz.prog 68 #[.agg #[pv,fv],.string typ] w fun e w'=>∃ v vs,e = .returned v/\Sl (· < w'.heap.size) w' 1 v vs/\vs.length=ps.length/\StIn typ fs ps.length w' w.heap.size vs ps.length/\Ext w w':=by
 obtain⟨po,pc,fo,fc,rfl,rfl⟩:=hg.shape;have HN:=h! (And.intro hn hbk);have HFL:=h! (grLen hg);have HG:=h! hg;have HMK:=h! (makeO ps.length (by omega));have XA:=h! (Ext.alloc w (.cells #[.slice po ps.length pc,.slice fo fs.length fc] 96));have BG:=h! (Blk.made w #[.slice po ps.length pc,.slice fo fs.length fc] 96);have HS1:=h! (show(w.alloc (.cells #[.slice po ps.length pc,.slice fo fs.length fc] 96)).heap.size=w.heap.size+1 from by simp);have hc1:=BG.out.cells;clear hg hn hbk;go_enter Tryz.func68,Tryz.ntmps68
 go_wp2_with fail
 clear hc1;obtain⟨w1,hw1⟩:∃ x,x=w.alloc (.cells #[.slice po ps.length pc,.slice fo fs.length fc] 96):=⟨_,rfl⟩;rw[<- hw1]at XA BG HS1;try rw[<- hw1]
 clear hw1;go_loopw [5,16] (fun ov jv wr=>∃ (i:Nat),i<=fs.length/\jv = .int .i64 i/\Own wr w1.heap.size 67 6 ov (tuCs (nmT typ (thsL (fs.take i))))/\Ext w1 wr) (fun _ jv _=>fs.length-(intOf jv).toNat)
 case atStart=>exact⟨0,Nat.zero_le _,rfl,(by rw[show tuCs (nmT typ (thsL (fs.take 0)))=[]from by simp[thsL,nmT,tuCs]];exact Own.nil _ _ _ _),Ext.refl _⟩
 case round =>
  obtain⟨i,hi,rfl,ho,hx⟩:=hrel;have O1:=h! ho;have RX:=h! hx;obtain⟨vo,vn,vc,rfl,-⟩:=ho.sl.len;clear ho hx;by_cases hlt:i<fs.length
  ·have HNX:=h! (show thsL (fs.take (i+1))=thsL (fs.take i)++fs[i].ths from by rw[List.take_succ_eq_append_getElem hlt,thsL_append];simp[thsL])
   have HBK:=h! (show(nmT typ (thsL (fs.take i))).length+fs[i].bk<=2000000 from by
    have h1:=nmT_len typ (thsL (fs.take i));have h2:=thsL_bk (fs.take i);have h3:=bkF_take hlt;have h4:=bkF_le (l:=fs) (i+1);have:=HN.out.2;omega)
   have HLT:=h! hlt;have HWI:=h! (show wrap64 ((i:Int)+1)=((i+1:Nat):Int)from by have:=HFL.out;unfold wrap64;omega);have hli:(i:Int)<(fs.length:Int):=by omega
   obtain⟨b,off,l1,m1,l2,m2,l4,m4,rfl,hb,hft,e0,e1,e2,e3⟩:=grForm HG.out hlt;have d0:=Ext.cell (Ext.trans XA.out RX.out) e0;have d1:=Ext.cell (Ext.trans XA.out RX.out) e1;have d2:=Ext.cell (Ext.trans XA.out RX.out) e2;have d3:=Ext.cell (Ext.trans XA.out RX.out) e3;have HFT:=h! hft;clear hft e0 e1 e2 e3 hb;generalize fs[i]=x at *;clear hlt;have X1:=h! (Ext.alloc wr (.cells #[.int .i64 x.k,.slice l1 x.subs.length m1,.slice l2 x.refs.length m2,.slice l4 x.ps.length m4] 128));have HCL:=h! (named30_any typ w1.heap.size x _ (.slice vo vn vc) _ _ ((HFT.out.same fun b hb=>(Ext.trans XA.out (Ext.trans RX.out X1.out)).block b hb).mono fun _ hb=>Nat.lt_of_lt_of_le hb XA.out.size) (Nat.le_trans RX.out.size X1.out.size) (O1.out.below X1.out) HBK.out);unfold fV at HCL;dsimp only at HCL;have hbf:=(Blk.made wr #[.int .i64 x.k,.slice l1 x.subs.length m1,.slice l2 x.refs.length m2,.slice l4 x.ps.length m4] 128).cells;go_wp2_with fail
   clear d0 d1 d2 d3 hbf;refine HCL.out.mono ?_;rintro e w5 ⟨ov',rfl,ho',hb'⟩;have O5:=h! (show Own w5 w1.heap.size 67 6 ov' (tuCs (nmT typ (thsL (fs.take (i+1)))))from by rw[HNX.out,nmT_append];exact ho');have X5:=h! (show Ext w1 w5 from Below.trans (Ext.trans RX.out X1.out) hb');clear ho' hb' HCL;go_wp2_with fail
   go_roundw
   case rel=>exact⟨i+1,HLT.out,by first | rw[HWI.out] | go_num,O5.out,X5.out⟩
   case measure=>have:=HLT.out;(try rw[HWI.out]);simp[intOf];omega
  ·obtain rfl:i=fs.length:=by omega
   rw[List.take_length]at O1;have XR:=h! (Ext.trans XA.out RX.out);have BG:=h! (BG.out.below RX.out);obtain⟨w2,hw2⟩:∃ x,x=wr.alloc (.cells (madeCells #[.slice none 0 0] ps.length) 113):=⟨_,rfl⟩;have X2:=h! (show Ext wr w2 from by rw[hw2];exact Ext.alloc _ _);have OR:=h! (show Own w2 wr.heap.size 113 1 (.slice (some ⟨wr.heap.size,0,none⟩) ps.length ps.length) (List.replicate ps.length (.slice none 0 0))from by rw[hw2];exact Own.made1 wr ps.length (by have:=HN.out.1;omega) _ _);have HZ2:=h! (show w2.heap.size=wr.heap.size+1 from by rw[hw2];simp);have HOB:=h! (objects25_any (.slice vo vn vc) (nmT typ (thsL fs)) typ w2 (O1.out.slU.up X2.out) (by have h1:=nmT_len typ (thsL fs);have h2:=thsL_bk fs;have:=HN.out.2;omega));have hmk:=HMK.out;have hcg:=BG.out.cells;clear hi;go_wp2_with fail
   rw[<- hw2];clear hmk hcg hw2;refine HOB.out.mono ?_;rintro e w3 ⟨vq,objs,rfl,hup,hmem,hoq,hb3⟩;have HUP:=h! hup
   have HOL:=h! (show objs.length<=80000 from by
    have h0:=obj_few (T:=nmT typ (thsL fs)) (UpO.nodup hup) fun o ho=>((hmem o).1 ho).2;have h1:=nmT_len typ (thsL fs);have h2:=thsL_bk fs;have:=HN.out.2;omega)
   have HME:=h! (show ∀ o,o∈objs↔SbI typ (thsL fs) o from fun o=>by rw[hmem o];exact nmT_obj);obtain⟨qo,qn,qc,rfl,hqn,-,-⟩:=hoq.sl.len;rw[ocs_len]at hqn;obtain rfl:qn=objs.length:=by omega
   obtain⟨A0,hA0⟩:∃ A:Nat->Prop,Hid (A=fun b=>Value.ownBlock (.slice qo objs.length qc)=some b):=⟨_,h! rfl⟩;have HA0:=h! (show ∀ b,A0 b->w2.heap.size<=b/\b<w3.heap.size from fun b hb=>by rw[hA0.out]at hb;exact hoq.block b hb);have R0:=h! (RoAt.start A0 (OR.out.below hb3));have OQ:=h! hoq;have X3:=h! (show Ext wr w3 from Ext.trans X2.out hb3);have BG:=h! (BG.out.below X3.out);have HLO:=h! (show w.heap.size<wr.heap.size/\wr.heap.size<w3.heap.size from⟨by have h1:=HS1.out;have h2:=RX.out.size;omega,by have:=HZ2.out;have:=hb3.size;omega⟩);have HUB:=h! (show ¬ A0 wr.heap.size from fun h=>by have:=(HA0.out _ h).1;have:=HZ2.out;omega);have XR:=h! (Ext.trans XR.out X3.out);clear hup hmem hoq hb3 HOB OR X2 X3 HZ2 O1 RX hqn;generalize wr.heap.size=rb at *;go_wp2_with fail
   go_loopw [33] (fun jv wr=>∃ (j:Nat) (U:List (List O2)) (vs:List Value),j<=objs.length/\jv = .int .i64 j/\RoAt wr rb rb ps.length A0 U vs/\SetsU fs ps.length (objs.take j) U/\UO rb A0 w3 wr) (fun jv _=>objs.length-(intOf jv).toNat)
   case atStart=>exact⟨0,_,_,Nat.zero_le _,rfl,R0.out,(fun i hi=>by rw[List.take_zero,List.filter_nil,List.getD_eq_getElem?_getD,List.getElem?_replicate];split <;> rfl),UO.refl _ _ _⟩
   case round =>
    obtain⟨j,U,vs,hj,rfl,hro,hsu,huo⟩:=hrel;have R1:=h! hro;have SU:=h! hsu;have K1:=h! huo;clear hro hsu huo;have XW:=h! (show Ext w wr from Below.trans XR.out ((K1.out.below (by have:=HLO.out;omega)).mono (by have:=HLO.out;omega)));by_cases hlt:j<objs.length
    ·have HNX:=h! (List.take_succ_eq_append_getElem hlt);have OQ1:=K1.out.ownA OQ.out (fun g hg=>by rw[hA0.out];exact hg)
     obtain⟨qb,qoff,rfl,c0,c1⟩:∃ qb qoff,qo=some ⟨qb,qoff,none⟩/\wr.cell? ⟨qb,qoff+j*2,none⟩=some (.string objs[j].t)/\wr.cell? ⟨qb,qoff+j*2+1,none⟩=some (.string objs[j].i):=by
      obtain⟨_,_,e,-,-,hcel⟩:=Sl.rows oC_length (by decide) (show Sl (· < wr.heap.size) wr 2 _ (objs.flatMap oC)from OQ1.slU);obtain⟨b,off,rfl,hbl,hcel⟩:=hcel (by omega);cases e;exact⟨b,off,rfl,hcel j hlt 0 _ rfl,hcel j hlt 1 _ rfl⟩
     have HLT:=h! hlt;have HWI:=h! (show wrap64 ((j:Int)+1)=((j+1:Nat):Int)from by have:=HOL.out;unfold wrap64;omega);have hli:(j:Int)<(objs.length:Int):=by omega
     generalize objs[j]=o at *;have X4:=h! (Ext.alloc wr (.cells #[.string o.t,.string o.i] 30));have HSO:=h! (solve27_any (oS o) ps fs (.slice po ps.length pc) (.slice fo fs.length fc) (wr.alloc (.cells #[.string o.t,.string o.i] 30)) (HG.out.up (XW.out.trans X4.out)) HN.out.1);unfold pV oS at HSO;dsimp only at HSO;have BG4:=h! (show Blk wr w.heap.size #[.slice po ps.length pc,.slice fo fs.length fc] 96 from(K1.out.block _ ⟨BG.out.lt,.inl HLO.out.1⟩).trans BG.out);have hcg:=(BG4.out.below X4.out).cells;have B4:=h! (Blk.made wr #[.string o.t,.string o.i] 30);have hob:=B4.out.cells;clear hlt OQ1;go_wp2_with fail
     clear c0 c1 hcg hob;refine HSO.out.mono ?_;rintro e w5 ⟨⟨iv,rfl,hi5⟩,hb5⟩;have OI:=h! hi5;obtain⟨io,inn,ick,rfl,hin,-,-⟩:=hi5.sl.len;rw[ic_length,Nat.mul_one,show(solveR fs ⟨o.t,o.i,⟨#[]⟩⟩ ps.length).length=ps.length from outN_length _]at hin;obtain rfl:inn=ps.length:=by omega
     have X5:=h! (X4.out.trans hb5);have B5:=h! (B4.out.below hb5);obtain⟨A1,hA1⟩:∃ A:Nat->Prop,Hid (A=fun b=>A0 b\/b=wr.heap.size):=⟨_,h! rfl⟩;have R5:=h! ((R1.out.more (A':=A1) (fun b hb=>by rw[hA1.out]at hb;exact hb.imp id fun e=>by omega)).ext X5.out);have K5:=h! (K1.out.next (UO.of X5.out))
     have HA1:=h! (show(∀ b,A1 b->b<w5.heap.size)/\¬ A1 rb/\A1 wr.heap.size/\(∀ b,A0 b->A1 b)from by
      have h1:=K1.out.size;have h2:=X5.out.size;have h3:=B5.out.lt;refine⟨fun b hb=>?_,fun hb=>?_,by rw[hA1.out];exact .inr rfl,fun b hb=>by rw[hA1.out];exact .inl hb⟩
      ·rw[hA1.out]at hb;rcases hb with hb | hb
       ·have:=(HA0.out b hb).2;omega
       ·omega
      ·rw[hA1.out]at hb;rcases hb with hb | hb
       ·exact HUB.out hb
       ·have:=HLO.out;omega)
     have Q5:=h! (SU.out.start o);have HLO5:=h! (show rb<w5.heap.size from by have:=HLO.out;have h1:=K1.out.size;have h2:=X5.out.size;omega);clear hi5 hb5 hin HSO B4 X4 X5 K1 R1 SU BG4 XW hA1;generalize wr.heap.size=xb at *;go_wp2_with fail
     go_loopw [42] (fun kv wr=>∃ (q:Nat) (U:List (List O2)) (vs:List Value),q<=ps.length/\kv = .int .i64 q/\RoAt wr rb rb ps.length A1 U vs/\SetsQ fs ps.length (objs.take j) o q U/\UO rb A1 w5 wr) (fun kv _=>ps.length-(intOf kv).toNat)
     case atStart=>exact⟨0,_,_,Nat.zero_le _,rfl,R5.out,Q5.out,UO.refl _ _ _⟩
     case round =>
      obtain⟨q,U,vs,hq,rfl,hro,hsq,huo⟩:=hrel;have R6:=h! hro;have SQ:=h! hsq;have K6:=h! huo;clear hro hsq huo;by_cases hlq:q<ps.length
      ·have HLQ:=h! hlq;have HWQ:=h! (show wrap64 ((q:Int)+1)=((q+1:Nat):Int)from by have:=HN.out.1;unfold wrap64;omega);have hqi:(q:Int)<(ps.length:Int):=by omega
       obtain⟨k,hk⟩:∃ k,(solveR fs (oS o) ps.length)[q]?=some k:=⟨_,List.getElem?_eq_getElem (by rw[show(solveR fs (oS o) ps.length).length=ps.length from outN_length _];exact hlq)⟩;have HPO:=h! (show posO fs ps.length q o=decide (0<k)from by unfold posO;rw[List.getD_eq_getElem?_getD,hk];rfl);obtain⟨ib,ioff,rfl,hkc⟩:=cell_sl1 (K6.out.own OI.out (by decide) (by decide)).slU (i:=q) (x := .int .i64 k) (by rw[ic,List.getElem?_map,show solveR fs ⟨o.t,o.i,⟨#[]⟩⟩ ps.length=solveR fs (oS o) ps.length from rfl,hk];rfl);clear hk;by_cases hk0:0<k
       ·have HP:=h! (show posO fs ps.length q o=true from by rw[HPO.out];exact decide_eq_true hk0)
        have HQL:=h! (show(U.getD q []).length<=80000 from by
         rw[SQ.out q hlq,if_neg (fun e=>absurd e.1 (Nat.lt_irrefl q)),List.append_nil];have h1:=List.length_filter_le (posO fs ps.length q) (objs.take j);rw[List.length_take]at h1;have:=HOL.out;omega)
        have SQ2:=h! (SQ.out.yes R6.out.ulen hlq HP.out);obtain⟨v,hv⟩:∃ v,vs[q]?=some v:=⟨_,List.getElem?_eq_getElem (by rw[R6.out.vlen];exact hlq)⟩;have HV:=h! hv;have HR:=h! (R6.out.row q v hv);obtain⟨vao,vn2,vc2,rfl,-,-,-⟩:=HR.out.sl.len;clear hv hlq;go_wp2_with fail
        clear hkc;obtain⟨wd,hwd⟩:∃ z:World,z=World.drew wr:=⟨_,rfl⟩;have DX:=h! (show Ext wr wd from by rw[hwd];exact Ext.drew _);refine region_walkL 10 (Kept (fun x=>x<wd.heap.size/\Value.ownBlock (.slice vao vn2 vc2)≠some x) wd) (by rw[<- hwd];exact Kept.refl _ _) (by kernel_rfl) (by kernel_rfl) (fun _ _ d _ _ h=>by cases d <;> exact h) ?_;rw[<- hwd];clear hwd;have UD:=h! (R6.out.ext DX.out);have HRD:=h! (HR.out.below DX.out)
        have HNO:=h! (show ∀ b cs t,Blk wd b cs t->t≠30->Value.ownBlock (.slice vao vn2 vc2)≠some b from fun b cs t hb ht e=>by
         obtain⟨cur,h3⟩:=HRD.out.typed e;rw[show wd.heap[b]?=_ from hb]at h3;injection h3 with h3
         injection h3 with _ h3 _
         exact ht h3)
        have HBD:=((K6.out.blkA B5.out HA1.out.2.2.1).below DX.out);obtain⟨hvl,hbu,csu,hBu,hcu⟩:=UD.out.arr.cellAt;have h1:=fun W (h:Kept (fun x=>x<wd.heap.size/\Value.ownBlock (.slice vao vn2 vc2)≠some x) wd W)=>(h.blk HBD ⟨HBD.lt,fun e=>UD.out.off q _ xb HV.out e HA1.out.2.2.1⟩).cells
        have h4:∀ W,Kept (fun x=>x<wd.heap.size/\Value.ownBlock (.slice vao vn2 vc2)≠some x) wd W->W.cell? ⟨rb,q,none⟩=some (.slice vao vn2 vc2):=fun W h=>by
         have h5:=h.blk hBu ⟨hBu.lt,HNO.out _ _ _ hBu (by decide)⟩;have h6:=hcu q (by rw[hvl];exact HLQ.out);rw[h5.cells q,<- hBu.cells q,h6];have:=HV.out;rw[List.getElem?_eq_getElem (by rw[hvl];exact HLQ.out)]at this;exact this
        (refine WalkL.tk [0,1,2,3,4,5,6] ?_;(iterate 7 (refine l! ?_));refine TkL.n ?_)
        clear h1 h4;have hE1:Ext wd (wd.alloc (.cells #[.string o.t,.string o.i] 30)):=Ext.alloc _ _;refine oL! 7 ?_;refine b! ?_;intro K hK;go_simp;refine hK.out _ _ ((Kept.refl _ _).alloc (fun x hx=>hx.1) _) ?_;clear hK;refine oL! 8 ?_;refine b! ?_;intro K hK;refine wp_ownw objT30 (.tmp 54) (.tmp 56) rfl rfl (HRD.out.below hE1) (m:=1) (news:=oC o) rfl rfl (fun j2 u hu=>?_) (by intro u hu;simp[oC]at hu;rcases hu with rfl | rfl <;> rfl) (by have:=HQL.out;rw[ocs_len,oC_length];omega) (by have:=HQL.out;rw[ocs_len,oC_length];omega) (by have:=HLO5.out;have:=K6.out.size;have:=DX.out.size;simp;omega) (fun v2 w2 hown2 hw2 hg2=>?_)
        ·rw[Addr.add_lit,cell_of_row _ wd.heap.size (0+j2) #[.string o.t,.string o.i] 30 (0,0) (heap_alloc_new wd _),Nat.zero_add];simpa [oC] using hu
        have hkg:Kept (fun x=>x<wd.heap.size/\Value.ownBlock (.slice vao vn2 vc2)≠some x) wd w2:=⟨hg2.os.trans rfl,hg2.tape.trans rfl,hg2.output.trans rfl,Nat.le_trans (by simp) hg2.size,fun x hx=>(hg2.block x (by have:=hx.1;simp;omega) (fun e=>hx.2 e.symm)).trans (Below.heap_alloc wd _ x hx.1)⟩;have HAD:=h! ((UD.out.ext hE1).add (x:=o) HLQ.out HV.out (by rw[ocs_snoc];exact hown2) hw2 hg2 (fun b hb=>Nat.lt_of_lt_of_le (HA1.out.1 b hb) (Nat.le_trans K6.out.size (Nat.le_trans DX.out.size hE1.size))) HA1.out.2.1);have HUW:=h! (K6.out.next (UO.next (UO.of (lo:=rb) (A:=A1) DX.out) (UO.next (UO.of hE1) HAD.out.2)));have hB2:=hkg.blk hBu ⟨hBu.lt,HNO.out _ _ _ hBu (by decide)⟩;refine hK.out _ _ hkg ?_;clear hK;simp only[Act.put,pA,pZ,pS];obtain⟨o2,n2,c2',rfl,-,-,-⟩:=hown2.sl.len
        have hbf:w2.cell? ⟨rb,q,none⟩=some (.slice vao vn2 vc2):=by
         rw[hB2.cells q,<- hBu.cells q,hcu q (by rw[hvl];exact HLQ.out)];have:=HV.out;rw[List.getElem?_eq_getElem (by rw[hvl];exact HLQ.out)]at this;exact this
        have hbz:=hB2.free;clear hkg hown2 hw2 hg2 hE1 hB2 hBu hcu hvl hbu HBD;((refine WalkL.take 9 _ ?_ (by simp only[gA,gS,gZ];rfl) (by kernel_rfl) (by kernel_rfl) (by kernel_rfl) (by rfl) (fun W hW=>?_) ?_;rotate_left;· (go_simp;try with_reducible rfl));simp only[Act.put,pA,pZ,pS])
        refine WalkL.last (by kernel_rfl) (by kernel_rfl) ?_;refine b! ?_;intro K hK;go_simp;refine hK.out _ _ ?_;clear hK hbf hbz;go_wp2_with fail
        go_roundw
        case rel=>exact⟨q+1,_,_,HLQ.out,by first | rw[HWQ.out] | go_num,HAD.out.1,SQ2.out,HUW.out⟩
        case measure=>have:=HLQ.out;(try rw[HWQ.out]);simp[intOf];omega
       ·have HP:=h! (show posO fs ps.length q o=false from by rw[HPO.out];exact decide_eq_false hk0);clear hlq;go_wp2_with fail
        go_roundw
        case rel=>exact⟨q+1,U,vs,HLQ.out,by first | rw[HWQ.out] | go_num,R6.out,SQ.out.no HP.out,K6.out⟩
        case measure=>have:=HLQ.out;(try rw[HWQ.out]);simp[intOf];omega
      ·obtain rfl:q=ps.length:=by omega
       have R7:=h! (R6.out.more (A':=A0) fun b hb => .inl (HA1.out.2.2.2 b hb));have S7:=h! (show SetsU fs ps.length (objs.take (j+1)) U from by rw[HNX.out];exact SQ.out.done);have K7:=h! (K5.out.next (K6.out.less HA1.out.2.2.2));clear hlq;go_wp2_with fail
       go_roundw
       case rel=>exact⟨j+1,U,vs,HLT.out,by first | rw[HWI.out] | go_num,R7.out,S7.out,K7.out⟩
       case measure=>have:=HLT.out;(try rw[HWI.out]);simp[intOf];omega
    ·obtain rfl:j=objs.length:=by omega
     rw[List.take_length]at SU;clear hlt;go_wp2_with fail
     go_ret
     refine⟨_,vs,rfl,R1.out.arr.slU,R1.out.vlen,fun i hi=>?_,XW.out⟩;have hi2:i<vs.length:=by rw[R1.out.vlen];exact hi
     have hv:vs[i]?=some vs[i]:=List.getElem?_eq_getElem hi2;refine⟨_,_,hv,(R1.out.row i _ hv).mono (by have:=HLO.out;omega),?_,fun o=>?_⟩
     ·rw[SU.out i hi];exact HUP.out.filter _
     ·rw[SU.out i hi,List.mem_filter,HME.out o];unfold posO InSt;rw[decide_eq_true_eq]
structure BI (ts:List TyS)(N0:Nat)(L A:List R2)(ch:Bool)(pr:List (R2 × RT)):Prop where
 upL:UpR L
 upA:UpR A
 least:LeastP ts L
 subA:∀ x∈A,x∈(refsOf ts).map (·.1)
 len0:N0<=L.length
 more:ch=true->N0<L.length
 done:∀ p∈pr,p.1∈A/\(ch=false->p.2.pcan (refsOf ts) L p.1.t=true->p.1∈L)
theorem chk_long {ts:List TyS} (h:chk06 ts=0):longOk ts=true:=by
 unfold chk06 at h;split at h
 ·split at h
  ·assumption
  ·cases h
 ·cases h
theorem long_small {ts:List TyS} (h:longOk ts=true):ts.length<=16/\∀ t∈ts,t.rels.length<=16/\∀ r∈t.rels,r.2.sz<=32:=by
 unfold longOk at h;rw[Bool.and_eq_true,decide_eq_true_eq,List.all_eq_true]at h;refine⟨h.1,fun t ht=>?_⟩;have h2:=h.2 t ht;unfold tyLong at h2;rw[Bool.and_eq_true,decide_eq_true_eq,List.all_eq_true]at h2;exact⟨h2.1,fun r hr=>by simpa using h2.2 r hr⟩
theorem long_refs {ts:List TyS} (h:longOk ts=true):(refsOf ts).length<=256:=by
 obtain⟨h1,h2⟩:=long_small h;have:=flat_le (fun t:TyS=>relsOf t.name t.rels) 16 ts fun t ht=>by unfold relsOf;rw[List.length_map];exact(h2 t ht).1
 unfold refsOf;omega
end Go.Proofs.YtlhaghoajpglaaaGreat
namespace Go.Proofs.YtlhaghoajpglaaaGreat
open Go Go.RowKit Go.ChangeShapes Go.WideShapes Go.ChangeAt
def bc (l:List UInt8):List Value:=l.map fun c => .int .u8 c.toNat
section
variable {H : Type} {enc : TypeId × Value -> H} {W : World} {base : Nat} {v : Value} {d : DataW H} {ps : List MemPlace}
end
end Go.Proofs.YtlhaghoajpglaaaGreat
namespace Go.Proofs.YtlhaghoajpglaaaGreat
open Go Go.RowKit Go.Maps
def Tp (w:World)(tp:Nat):Prop:=∃ (bv:Value)(l:List UInt8)(n:Nat),n<=l.length/\Sl (· < tp) w 1 bv (bc l)/\Blk w tp #[bv,.int .i64 n] 41
abbrev KT (tp:Nat) (w w':World):Prop:=Kept (fun b=>b<w.heap.size/\b≠tp) w w'
theorem nms_len (r:RT):r.nms.length<=2*r.sz:=by
 induction r using RT.ind with
 | h r ih =>
  have:∀ l:List RT,(∀ x∈l,x∈r.ps)->(nmsL l).length<=2*szL l:=by
   intro l;induction l with
   | nil=>intro _;simp[nmsL]
   | cons x l ihl =>
    intro hx;rw[nmsL,szL,List.length_append];have h1:=ih x (hx x (by simp));have h2:=ihl fun y hy=>hx y (List.mem_cons_of_mem _ hy);omega
  have h:=this r.ps fun _ h=>h;rw[RT.nms_eq,List.length_cons,List.length_cons];obtain⟨k,a,b,ps⟩:=r;rw[RT.sz];simp only[RT.ps]at h ⊢;omega
theorem nms_ok (r:RT)(h:r.Ok):∀ n∈r.nms,n.size<=maxLen:=by
 induction r using RT.ind with
 | h r ih =>
  obtain⟨k,a,b,ps⟩:=r;rw[RT.Ok]at h;intro n hn;rw[RT.nms_eq]at hn;simp only[RT.a,RT.b,RT.ps,List.mem_cons]at hn;rcases hn with rfl | rfl | hn
  ·exact Nat.le_trans h.2.1 (by decide)
  ·exact Nat.le_trans h.2.2.1 (by decide)
  ·have hp:=okL_mem.1 h.2.2.2
   have:∀ l:List RT,(∀ x∈l,x∈ps)->∀ n∈nmsL l,n.size<=maxLen:=by
    intro l;induction l with
    | nil=>intro _ n hn;simp[nmsL]at hn
    | cons x l ihl =>
     intro hx n hn;rw[nmsL,List.mem_append]at hn;rcases hn with hn | hn
     ·exact ih x (hx x (by simp)) (hp x (hx x (by simp))) n hn
     ·exact ihl (fun y hy=>hx y (List.mem_cons_of_mem _ hy)) n hn
   exact this ps (fun _ h=>h) n hn
def allN (ts:List TyS):List ByteArray:=(refsOf ts).flatMap fun x=>x.2.nms
theorem allN_mem (ts:List TyS):NmU ts (allN ts):=fun x hx _n hn=>List.mem_flatMap.2 ⟨x,hx,hn⟩
theorem flatN_len {α β:Type} (f:α->List β)(m:Nat):∀ (l:List α),(∀ x∈l,(f x).length<=m)->(l.flatMap f).length<=l.length*m
 | [],_=>by simp
 | a::l,h=>by
  rw[List.flatMap_cons,List.length_append,List.length_cons,Nat.add_mul];have h1:=h a (by simp);have h2:=flatN_len f m l fun x hx=>h x (List.mem_cons_of_mem _ hx);omega
theorem refs_sz {ts:List TyS} (h:longOk ts=true):∀ x∈refsOf ts,x.2.sz<=32:=fun x hx=>by
 obtain⟨t,ht,r,hr,rfl⟩:=refs_mem.1 hx;unfold longOk at h;rw[Bool.and_eq_true,List.all_eq_true]at h;have h2:=h.2 t ht;unfold tyLong at h2;rw[Bool.and_eq_true,List.all_eq_true]at h2;simpa using h2.2 r hr
theorem refs_ok {ts:List TyS} (h:∀ t∈ts,t.Ok):∀ x∈refsOf ts,x.2.Ok:=fun x hx=>by
 obtain⟨t,ht,r,hr,rfl⟩:=refs_mem.1 hx;exact((h t ht).2 r hr).2
def objU (T:List Tup)(p:P3):List (ByteArray × ByteArray):=(p.t,p.i)::T.map fun t=>(t.s.t,t.s.i)
def namU (N:List ByteArray)(T:List Tup)(p:P3):List ByteArray:=p.r::(T.map fun t=>t.s.r)++N
theorem okU (T:List Tup)(p:P3)(N:List ByteArray):OkU T (objU T p) (namU N T p) where
 objs t ht:=List.mem_cons_of_mem _ (List.mem_map.2 ⟨t,ht,rfl⟩)
 rels t ht:=by unfold namU;rw[List.cons_append];exact List.mem_cons_of_mem _ (List.mem_append_left _ (List.mem_map.2 ⟨t,ht,rfl⟩))
theorem inU_walk {ts:List TyS} (T:List Tup)(shut:List R2)(p:P3) {N:List ByteArray} (hN:NmU ts N)(n:Nat):∀ x∈(walkN ts T shut p n).1,InU (objU T p) (namU N T p) x :=
 walkN_in (okU T p N) (fun x hx m hm=>by unfold namU;rw[List.cons_append];exact List.mem_cons_of_mem _ (List.mem_append_right _ (hN x hx m hm))) shut ⟨by simp[objU],by simp[namU]⟩ n
theorem walk_few {ts:List TyS} (T:List Tup)(shut:List R2)(p:P3) {N:List ByteArray} (hN:NmU ts N)(n:Nat):(walkN ts T shut p n).1.length<=(T.length+1)*(T.length+N.length+1):=by
 have h:=inU_few (walkN_nodup ts T shut p n) (inU_walk T shut p hN n);simp only[objU,namU,List.length_cons,List.length_append,List.length_map]at h;rwa[show T.length+1+N.length=T.length+N.length+1 by omega]at h
theorem walkIn_chk {ts:List TyS} {T:List Tup} (shut:List R2) {p:P3} (hc:longOk ts=true)(hok:∀ t∈ts,t.Ok)(hT:T.length<=100)(hTo:∀ t∈T,t.Ok)(hp:p.Ok):WalkIn ts T shut p 2000000 where
 okp n x hx:=by
  have h:=inU_walk T shut p (allN_mem ts) n x hx
  have hN:∀ m∈allN ts,m.size<=maxLen:=fun m hm=>by
   obtain⟨y,hy,hm⟩:=List.mem_flatMap.1 hm;exact nms_ok _ (refs_ok hok y hy) m hm
  obtain⟨h1,h2⟩:=h
  have hO:x.t.size<=maxLen/\x.i.size<=maxLen:=by
   rcases List.mem_cons.1 h1 with h1 | h1
   ·have e1:=congrArg Prod.fst h1;have e2:=congrArg Prod.snd h1;dsimp only at e1 e2;rw[e1,e2];exact⟨hp.1,hp.2.1⟩
   ·obtain⟨t,ht,e⟩:=List.mem_map.1 h1;have h3:=(hTo t ht).2;have e1:=congrArg Prod.fst e;have e2:=congrArg Prod.snd e;dsimp only at e1 e2;rw[<- e1,<- e2];exact⟨h3.1,h3.2.1⟩
  refine⟨hO.1,hO.2,?_⟩;unfold namU at h2;rw[List.cons_append,List.mem_cons,List.mem_append]at h2;rcases h2 with h2 | h2 | h2
  ·rw[h2];exact hp.2.2
  ·obtain⟨t,ht,e⟩:=List.mem_map.1 h2;rw[<- e];exact(hTo t ht).2.2.2
  ·exact hN _ h2
 few n:=by
  have h:=walk_few T shut p (allN_mem ts) n
  have h2:(allN ts).length<=256*64:=by
   have h3:=flatN_len (fun x:R2 × RT=>x.2.nms) 64 (refsOf ts) fun x hx=>by have:=nms_len x.2;have:=refs_sz hc x hx;omega
   have h4:=long_refs hc;unfold allN;exact Nat.le_trans h3 (Nat.mul_le_mul_right _ h4)
  have h5:(T.length+1)*(T.length+(allN ts).length+1)<=101*(100+256*64+1):=Nat.mul_le_mul (by omega) (by omega);omega
 room x hx:=by
  have h1:=refs_sz hc x hx;have h2:x.2.sz*(T.length+1)<=32*101:=Nat.mul_le_mul h1 (by omega);omega
 nmax:=by omega
 rok:=refs_ok hok
 tok t ht:=(hTo t ht).2
 tlen:=by omega
theorem HasArg.of {ts:List TyS} {T:List Tup} {shut:List R2} {p:P3} (hc:chk06 ts=0)(hok:∀ t∈ts,t.Ok)(hb:schB ts<=549755813888)(hn:(namesOf ts).length<=1099511627776)(hr:(refsOf ts).length<=1099511627776)(hT:T.length<=41)(hTo:∀ t∈T,t.Ok)(hp:p.Ok)(hso:∀ r∈shut,r.Ok):HasArg ts T shut p:=by
 have hl:=chk_long hc;have hw:=walkIn_chk (T:=T) shut hl hok (by omega) hTo hp;have hsz:∀ t∈ts,∀ r∈t.rels,r.2.sz<=32:=fun t ht r hr'=>refs_sz hl ⟨⟨t.name,r.1⟩,r.2⟩ (refs_mem.2 ⟨t,ht,r,hr',rfl⟩)
 have hN:∀ n,(walkN ts T shut p n).1.length<=1000000:=fun n=>by
  have h:=walk_few T shut p (allN_mem ts) n
  have h2:(allN ts).length<=256*64:=by
   have h3:=flatN_len (fun x:R2 × RT=>x.2.nms) 64 (refsOf ts) fun x hx=>by have:=nms_len x.2;have:=refs_sz hl x hx;omega
   have h4:=long_refs hl;unfold allN;exact Nat.le_trans h3 (Nat.mul_le_mul_right _ h4)
  have h5:(T.length+1)*(T.length+(allN ts).length+1)<=42*(41+256*64+1):=Nat.mul_le_mul (by omega) (by omega);omega
 have hrm:∀ x∈refsOf ts,x.2.sz*(T.length+1)<=32*42:=fun x hx=>Nat.mul_le_mul (refs_sz hl x hx) (by omega)
 exact⟨hok,hc,hb,fun t ht r hr'=>Nat.le_trans (hsz t ht r hr') (by decide),hn,hr,hso,
  ⟨hw.okp,hN,fun x hx=>by have:=hrm x hx;omega,by decide,hw.rok,hw.tok,hw.tlen⟩,fun x hx=>by have:=hrm x hx;omega⟩
def viB:ByteArray:=⟨#[118,105,101,119,101,114]⟩
def usB:ByteArray:=⟨#[117,115,101,114]⟩
def thB:ByteArray:=⟨#[116,104,105,115]⟩
def txtL:ByteArray:=⟨#[116,121,112,101,32,100,111,99,10,118,105,101,119,101,114,32,61,32,116,104,105,115,10,116,121,112,101,32,117,115,101,114]⟩
def itsL:List PIt:=[.ty docB,.rel viB thB [],.ty usB]
def lnsL:List ByteArray:=[⟨#[116,121,112,101,32,100,111,99]⟩,⟨#[118,105,101,119,101,114,32,61,32,116,104,105,115]⟩,⟨#[116,121,112,101,32,117,115,101,114]⟩]
def tsL:List TyS:=[⟨docB,[(viB,.mk 1 ⟨#[]⟩ ⟨#[]⟩ [])]⟩,⟨usB,[]⟩]
theorem linesL:linesD txtL=lnsL:=by kernel_rfl
theorem stepL:itsL.foldl stepD []=tsL:=by kernel_rfl
theorem lnsOkL:(lnsL.zip itsL).all (fun p=>lnOkB p.1 p.2)=true:=by kernel_rfl
theorem fitsL:itsL.all PIt.fitB=true:=by kernel_rfl
theorem chkL:chk06 tsL=0:=by kernel_rfl
theorem okL_:∀ t∈tsL,t.Ok:=by
 intro t ht;unfold tsL at ht;simp only[List.mem_cons,List.not_mem_nil,or_false]at ht;rcases ht with rfl | rfl
 ·refine⟨by decide,fun r hr=>?_⟩;obtain rfl:=List.mem_singleton.1 hr;exact⟨by decide,by simp[RT.Ok,okL];decide⟩
 ·exact⟨by decide,fun r hr=>by cases hr⟩
def pL:P3:=⟨docB,⟨#[49]⟩,viB⟩
def uL:P3:=⟨usB,⟨#[50]⟩,⟨#[]⟩⟩
def TLk:List Tup:=[⟨pL,uL⟩]
theorem setTL:SetT TLk TLk:=⟨List.pairwise_singleton _ _,fun t=>⟨fun h=>⟨h,by
 obtain rfl:=List.mem_singleton.1 h;kernel_rfl⟩,fun h=>h.1⟩⟩
theorem okTL:∀ t∈TLk,t.Ok:=by
 intro t ht;obtain rfl:=List.mem_singleton.1 ht;exact⟨⟨by decide,by decide,by decide⟩,⟨by decide,by decide,by decide⟩⟩
theorem argL {p:P3} (hp:p.Ok):HasArg tsL TLk [] p:=HasArg.of chkL okL_ (by decide) (by decide) (by decide) (by decide) okTL hp (by simp)
theorem endL:WalkEnd tsL TLk [] pL 9 1:=by
 have h0:(walkN tsL TLk [] pL 0).1.length=1:=by kernel_rfl
 have h1:(walkN tsL TLk [] pL 1).1.length=1:=by kernel_rfl
 refine⟨fun m hm=>?_,h1.symm⟩;obtain rfl:m=0:=by omega
 rw[h0];exact⟨by decide,by decide⟩
theorem ruleL:ruleOf tsL [] pL=some (.mk 1 ⟨#[]⟩ ⟨#[]⟩ []):=by rfl
theorem denL {s:P3}:Den tsL TLk [] s pL↔s=uL:=by
 have hs:subsOf TLk pL=[uL]:=by rfl
 constructor
 ·rintro⟨n,h⟩;induction n with
  | zero=>exact h.elim
  | succ n ih =>
   rcases h with h | ⟨r,hr,h⟩
   ·exact ih h
   ·rw[ruleL]at hr;cases hr;rw[holdT_eq,if_pos (show(RT.mk 1 ⟨#[]⟩ ⟨#[]⟩ []).k=1 from rfl),hs]at h;rcases h with h | ⟨q,hq,-⟩
    ·exact List.mem_singleton.1 h
    ·have:=setsOf_has.1 hq;rw[List.mem_singleton.1 this.1]at this;exact absurd rfl this.2
 ·rintro rfl;exact Den.said (t:=⟨pL,uL⟩) (List.mem_singleton.2 rfl) ruleL rfl
theorem subListL {l:List O2} (h:SubL tsL TLk [] pL usB l):l=[⟨usB,⟨#[50]⟩⟩]:=by
 refine upO_unique h.1 (List.pairwise_singleton _ _) fun x=>?_;rw[h.2 x,denL,List.mem_singleton];constructor
 ·rintro⟨-,h2⟩;exact oS_inj h2
 ·rintro rfl;exact⟨rfl,rfl⟩
theorem objListL {l:List O2} (h:ObjsOf TLk docB l):l=[⟨docB,⟨#[49]⟩⟩]:=by
 refine upO_unique h.1 (List.pairwise_singleton _ _) fun x=>?_;rw[h.2 x,List.mem_singleton];unfold ObjIn;constructor
 ·rintro⟨h1,t,ht,h2⟩;obtain rfl:=List.mem_singleton.1 ht;rcases h2 with rfl | rfl
  ·rfl
  ·exact absurd h1 (by decide)
 ·rintro rfl;exact⟨rfl,_,List.mem_singleton.2 rfl,.inl rfl⟩
theorem filtL : [(⟨docB,⟨#[49]⟩⟩:O2)].filter (denB tsL TLk [] uL viB)=[⟨docB,⟨#[49]⟩⟩]:=by
 rw[List.filter_cons_of_pos,List.filter_nil];exact denB_iff.2 (denL.2 rfl)
theorem subSaidL {e:Ending} {w':World} (h:SubSaid tsL TLk [] pL usB 9 (.int .i64 0) (.int .i64 10) e w'):∃ v,e = .returned (.tuple #[v,.int .i64 0])/\Sl (· < w'.heap.size) w' 2 v (ocs [⟨usB,⟨#[50]⟩⟩]):=by
 rcases h with⟨n,v,l,-,rfl,hs,hl⟩ | ⟨hl,-⟩
 ·rw[subListL hl]at hs;exact⟨v,rfl,hs⟩
 ·exact absurd hl endL.notLong
theorem objSaidL {e:Ending} {w':World} (h:ObjsSaid tsL TLk [] docB viB uL 9 (.int .i64 0) (.int .i64 10) e w'):∃ v,e = .returned (.tuple #[v,.int .i64 0])/\Sl (· < w'.heap.size) w' 2 v (ocs [⟨docB,⟨#[49]⟩⟩]):=by
 obtain⟨l,hl,⟨v,-,rfl,hs⟩ | ⟨⟨o,ho,h⟩,-⟩⟩:=h
 ·rw[objListL hl,filtL]at hs;exact⟨v,rfl,hs⟩
 ·rw[objListL hl]at ho;rw[List.mem_singleton.1 ho]at h;exact absurd h endL.notLong
theorem row1 {w:World} {v:Value} {a:O2} (h:Sl (· < w.heap.size) w 2 v (ocs [a])):∃ b off c,v = .slice (some ⟨b,off,none⟩) 1 c/\b<w.heap.size/\w.cell? ⟨b,off,none⟩=some (.string a.t)/\w.cell? ⟨b,off+1,none⟩=some (.string a.i):=by
 obtain⟨ao,c,rfl,-,-,hc⟩:=Sl.rows oC_length (by decide) (show Sl _ w 2 v (List.flatMap oC [a])from h);obtain⟨b,off,rfl,hb,hc⟩:=hc (by simp);have h0:=hc 0 (by simp) 0 _ rfl;have h1:=hc 0 (by simp) 1 _ rfl;rw[Nat.zero_mul,Nat.add_zero]at h0 h1;exact⟨b,off,c,rfl,hb,h0,h1⟩
theorem fixed30_any (w:World):Calls Tryz.prog 58 #[] w fun e w'=>e = .returned (.bool true)/\Below w.heap.size w w':=by
 have HPA:=h! (parse_any txtL itsL w (by decide) (by rw[linesL];rfl) (by rw[linesL];exact lnsOk_of lnsOkL) (fits_of fitsL) (fun _=>⟨docB,rfl⟩) (by decide));rw[stepL]at HPA;unfold txtL at HPA;go_enter Tryz.func58,Tryz.ntmps58
 go_wp2_with fail
 refine HPA.out.mono ?_;rintro e w1 ⟨tv,rfl,hty,hb1⟩;obtain⟨aot,ct,rfl,-,-,-⟩:=hty.rows;rw[show tsL.length=2 from rfl]at *;have HX1:=h! (Ext.alloc w1 (.cells #[.slice aot 2 ct] 26));have HTY:=h! ((hty.mono (S':=(· < w1.heap.size)) fun b hb=>hb.2).up HX1.out);have HB1:=h! (show Below w.heap.size w _ from hb1.trans (HX1.out.mono hb1.size));have HS1:=h! (Blk.made w1 #[.slice aot 2 ct] 26);clear hty hb1 HPA;obtain⟨wS,hwS⟩:∃ y,y=w1.alloc (.cells #[.slice aot 2 ct] 26):=⟨_,rfl⟩;rw[<- hwS]at HX1 HTY HB1 HS1;obtain⟨wt,hwt⟩:∃ y,y=wS.alloc (.cells #[.string ⟨#[100,111,99]⟩,.string ⟨#[49]⟩,.string ⟨#[118,105,101,119,101,114]⟩,.string ⟨#[117,115,101,114]⟩,.string ⟨#[50]⟩,.string ⟨#[]⟩] 67):=⟨_,rfl⟩;obtain⟨wr,hwr⟩:∃ y,y=wt.alloc (.cells #[.string ⟨#[100,111,99]⟩,.string ⟨#[49]⟩,.string ⟨#[118,105,101,119,101,114]⟩,.string ⟨#[117,115,101,114]⟩,.string ⟨#[50]⟩,.string ⟨#[]⟩] 67):=⟨_,rfl⟩;have XT:=h! (show Ext wS wt from by rw[hwt];exact Ext.alloc _ _);have XR:=h! (show Ext wt wr from by rw[hwr];exact Ext.alloc _ _);have BT:=h! (show Blk wt (w1.heap.size+1) #[.string ⟨#[100,111,99]⟩,.string ⟨#[49]⟩,.string ⟨#[118,105,101,119,101,114]⟩,.string ⟨#[117,115,101,114]⟩,.string ⟨#[50]⟩,.string ⟨#[]⟩] 67 from by rw[hwt,<- (show wS.heap.size=w1.heap.size+1 from by rw[hwS];simp)];exact Blk.made _ _ _);have es:wS.heap.size=w1.heap.size+1:=by rw[hwS];simp
 have et:wt.heap.size=w1.heap.size+1+1:=by rw[hwt];simp[es]
 have HL5:=h! (show Sl (fun b=>b<wr.heap.size) wr 6 (.slice (some ⟨w1.heap.size+1+1,0,none⟩) 1 1) (tuCs TLk)from by
  rw[<- et,hwr];exact Sl.made wt _ 6 1 67 _ rfl (by decide) (by simp))
 have HNB:=h! (bookT_any setTL (.slice (some ⟨w1.heap.size+1+1,0,none⟩) 1 1) wr HL5.out (by decide) okTL);have bt:=BT.out.cells;clear es et;subst hwr hwt hwS;go_wp2_with fail
 clear bt;refine HNB.out.mono ?_;rintro e w5 ⟨bk,rfl,hbk,hb5⟩;have X5:=h! (show Ext _ w5 from(XT.out.trans XR.out).trans hb5);have HTY5:=h! (HTY.out.up X5.out);have HS5:=h! (HS1.out.below X5.out);have BT5:=h! (BT.out.below (XR.out.trans hb5));have HB5:=h! (show Below w.heap.size w w5 from HB1.out.trans (Below.mono X5.out HB1.out.size));have HBK:=h! hbk;clear hbk hb5 HNB HL5 XT XR X5 HTY HS1 BT HB1 HX1;obtain⟨sb,hsb⟩:∃ x,Hid (x=w1.heap.size):=⟨_,h! rfl⟩;obtain⟨tb,htb⟩:∃ x,Hid (x=w1.heap.size+1):=⟨_,h! rfl⟩;obtain⟨rb,hrb⟩:∃ x,Hid (x=w1.heap.size+1+1):=⟨_,h! rfl⟩;rw[<- htb.out]at BT5;rw[<- hsb.out]at HS5;rw[<- hrb.out,<- htb.out];try rw[<- hsb.out]
 have cs5:=HS5.out.cells;have ct5:=BT5.out.cells;have HSU:=h! ((subjects_any tsL (.slice aot 2 ct) bk TLk [] (.slice none 0 0) pL usB 9 w5 HTY5.out (argL ⟨by decide,by decide,by decide⟩) HBK.out (Sl.nil _ _ _)).mono fun e w' h=>And.intro (subSaidL h.1) h.2);unfold pV pL docB usB viB at HSU;dsimp only at HSU;go_wp2_with fail
 clear cs5 ct5;refine HSU.out.mono ?_;rintro e w6 ⟨⟨v6,rfl,hs6⟩,hx6⟩;have HR6:=h! hs6;have HTY6:=h! (HTY5.out.up hx6);have HS6:=h! (HS5.out.below hx6);have BT6:=h! (BT5.out.below hx6);have HB6:=h! (show Below w.heap.size w w6 from HB5.out.trans (Below.mono hx6 HB5.out.size));have HBK6:=h! (HBK.out.ext hx6);obtain⟨b6,off6,c6,rfl,hb6,k60,k61⟩:=row1 hs6;clear hs6 hx6 HSU HTY5 HS5 BT5 HB5 HBK;have cs6:=HS6.out.cells;have ct6:=BT6.out.cells
 have HOU:=h! ((objects_any tsL (.slice aot 2 ct) bk TLk [] (.slice none 0 0) docB viB uL 9 w6 HTY6.out (fun o h1 h2=>argL ⟨by rw[h1];show docB.size<=maxLen;decide,by
   obtain⟨t,ht,h3⟩:=h2;obtain rfl:=List.mem_singleton.1 ht;rcases h3 with rfl | rfl
   ·decide
   ·decide,by show viB.size<=maxLen;decide⟩) okL_ chkL (by decide) (sz_sch (by decide)) (by decide) (by decide) (by decide) (by decide) HBK6.out (Sl.nil _ _ _)).mono fun e w' h=>And.intro (objSaidL h.1) h.2)
 unfold r2V pV uL docB usB viB at HOU;dsimp only at HOU;go_wp2_with fail
 clear cs6 ct6;refine HOU.out.mono ?_;rintro e w7 ⟨⟨v7,rfl,hs7⟩,hx7⟩;have HTY7:=h! (HTY6.out.up hx7);have HS7:=h! (HS6.out.below hx7);have BT7:=h! (BT6.out.below hx7);have HB7:=h! (show Below w.heap.size w w7 from HB6.out.trans (Below.mono hx7 HB6.out.size));have HK6:=h! (And.intro (Ext.cell hx7 k60) (Ext.cell hx7 k61));obtain⟨b7,off7,c7,rfl,hb7,k70,k71⟩:=row1 hs7;clear hs7 hx7 HOU HTY6 HS6 BT6 HB6 HBK6 hb6 k60 k61 HR6;have cs7:=HS7.out.cells;have ct7:=BT7.out.cells;have HOF:=h! (objectsF_any tsL (.slice aot 2 ct) (.slice none 0 0) (.int .i64 9) ⟨#[]⟩ ⟨#[]⟩ uL w7 HTY7.out okL_ chkL (by decide) (sz_sch (by decide)) (by decide) (by decide));unfold r2V pV uL usB at HOF;dsimp only at HOF;go_wp2_with fail
 clear cs7 ct7;refine HOF.out.mono ?_;rintro e w8 ⟨rfl,hx8⟩;have BT8:=h! (BT7.out.below hx8);have HB8:=h! (show Below w.heap.size w w8 from HB7.out.trans (Below.mono hx8 HB7.out.size));have k60:=Ext.cell hx8 HK6.out.1;have k61:=Ext.cell hx8 HK6.out.2;have k70:=Ext.cell hx8 k70;have k71:=Ext.cell hx8 k71;clear hx8 HOF HTY7 HS7 BT7 HB7 hb7 HK6;go_wp2_with fail
 obtain⟨wd,hwd⟩:∃ wd,Hid (wd=w8.drew):=⟨_,h! rfl⟩;have hxd:=h! (show Ext w8 wd from by rw[hwd.out];exact Ext.drew _);have HBE:=h! (show Below w.heap.size w wd from HB8.out.trans (Below.mono hxd.out HB8.out.size));refine r! (Ext wd) (by rw[<- hwd.out];exact Ext.refl _) ?_;rw[<- hwd.out];have g60:=fun W (h:Ext wd W)=>Ext.cell (hxd.out.trans h) k60;have g61:=fun W (h:Ext wd W)=>Ext.cell (hxd.out.trans h) k61;have g70:=fun W (h:Ext wd W)=>Ext.cell (hxd.out.trans h) k70;have g71:=fun W (h:Ext wd W)=>Ext.cell (hxd.out.trans h) k71;have gt:=fun W (h:Ext wd W)=>(BT8.out.below (hxd.out.trans h)).cells;have q1:=fun W=>o2_eql ⟨usB,⟨#[50]⟩⟩ ⟨usB,⟨#[50]⟩⟩ W;have q2:=fun W=>o2_eql ⟨docB,⟨#[49]⟩⟩ ⟨docB,⟨#[49]⟩⟩ W;unfold oV usB at q1;unfold oV docB at q2;unfold usB at g60;unfold docB at g70;rw[decide_eq_true rfl]at q1 q2;dsimp only at q1 q2 g60 g61 g70 g71;clear hwd k60 k61 k70 k71;(refine WalkN.tk [0,1,2,3,4,5,6,7,8,9,10,11,12,13,14,15,16,17,18,19,20,21,22,23,24,25,26,27,28,29,30,31,32,33,34,35,36,37] ?_;(iterate 38 (refine c! ?_));refine TkN.n ?_)
 refine d! ?_;clear g60 g61 g70 g71 gt q1 q2;go_wp2_with fail
 go_ret
 exact⟨rfl,HBE.out⟩
theorem setsLaw_any (ps:List P3)(fs:List FT)(pv fv:Value)(typ:ByteArray)(w:World)(hg:GrAt (· < w.heap.size) w ps fs pv fv)(hb:bkF fs<=1048576)(hok:∀ f∈fs,∀ s∈f.ths,s.Ok) :
  Calls Tryz.prog 16 #[.agg #[pv,fv],.string typ] w fun e w'=>e = .returned (.bool true)/\Below w.heap.size w w':=by
 obtain⟨po,pc,fo,fc,rfl,rfl⟩:=hg.shape;have HG:=h! hg;have HBK:=h! hb;have HOK:=h! hok;have XA:=h! (Ext.alloc w (.cells #[.slice po ps.length pc,.slice fo fs.length fc] 96));have BG:=h! (Blk.made w #[.slice po ps.length pc,.slice fo fs.length fc] 96);clear hg hb hok;go_enter Tryz.func16,Tryz.ntmps16
 go_wp2_with fail
 obtain⟨w1,hw1⟩:∃ x,x=w.alloc (.cells #[.slice po ps.length pc,.slice fo fs.length fc] 96):=⟨_,rfl⟩;rw[<- hw1]at XA BG;try rw[<- hw1]
 clear hw1;refine(fixed30_any w1).mono ?_;rintro e w2 ⟨rfl,hb2⟩;have XA:=h! (XA.out.trans hb2);have BG:=h! (BG.out.below hb2);have hA:=BG.out.cells;clear hb2;by_cases hl1:(30:Int)<(ps.length:Int)
 ·go_wp2_with fail
  go_ret
  exact⟨rfl,XA.out⟩
 by_cases hl2:(30:Int)<(fs.length:Int)
 ·go_wp2_with fail
  go_ret
  exact⟨rfl,XA.out⟩
 have HLL:=h! (show ps.length<=30/\fs.length<=30 from⟨by omega,by omega⟩);go_wp2_with fail
 clear hA hl1 hl2;go_loopw [5,26] (fun lv jv wr=>∃ (i:Nat) (y:Int),i<=fs.length/\jv = .int .i64 i/\lv = .int .i64 y/\(200:Int)-(bkF (fs.take i):Int)<=y/\y<=200/\(0<=y->y=200-(bkF (fs.take i):Int))/\Ext w2 wr) (fun _ jv _=>fs.length-(intOf jv).toNat)
 case atStart=>exact⟨0,200,Nat.zero_le _,rfl,rfl,by simp[bkF],Int.le_refl _,fun _=>by simp[bkF],Ext.refl _⟩
 case round =>
  obtain⟨i,y,hi,rfl,rfl,hy1,hy2,hy3,hx⟩:=hrel;have HY:=h! (And.intro hy1 (And.intro hy2 hy3));have RX:=h! hx;clear hy1 hy2 hy3 hx;by_cases hlt:i<fs.length
  ·have HNX:=h! (show bkF (fs.take (i+1))=bkF (fs.take i)+fs[i].bk/\bkF (fs.take (i+1))<=1048576 from⟨bkF_take hlt,Nat.le_trans (bkF_le (l:=fs) (i+1)) HBK.out⟩);obtain⟨b,off,l1,m1,l2,m2,l4,m4,rfl,hb,hft,e0,e1,e2,e3⟩:=grForm HG.out hlt;have HLT:=h! hlt;have HWI:=h! (show wrap64 ((i:Int)+1)=((i+1:Nat):Int)from by have:=HLL.out.2;unfold wrap64;omega);have hli:(i:Int)<(fs.length:Int):=by omega
   have d0:=Ext.cell (Ext.trans XA.out RX.out) e0;have d1:=Ext.cell (Ext.trans XA.out RX.out) e1;have d2:=Ext.cell (Ext.trans XA.out RX.out) e2;have d3:=Ext.cell (Ext.trans XA.out RX.out) e3;have HFT:=h! hft;clear hft e0 e1 e2 e3 hb;generalize fs[i]=x at *;clear hlt;have X1:=h! (Ext.alloc wr (.cells #[.int .i64 x.k,.slice l1 x.subs.length m1,.slice l2 x.refs.length m2,.slice l4 x.ps.length m4] 128));have HCL:=h! (parts30_any x y _ (wr.alloc (.cells #[.int .i64 x.k,.slice l1 x.subs.length m1,.slice l2 x.refs.length m2,.slice l4 x.ps.length m4] 128)) ((HFT.out.same fun b hb=>(Ext.trans XA.out (Ext.trans RX.out X1.out)).block b hb).mono fun _ hb=>Nat.lt_of_lt_of_le hb (Ext.trans XA.out (Ext.trans RX.out X1.out)).size) (by have:=HY.out;have:=HNX.out;omega) (by have:=HY.out;omega));unfold fV at HCL;dsimp only at HCL;have hbf:=(Blk.made wr #[.int .i64 x.k,.slice l1 x.subs.length m1,.slice l2 x.refs.length m2,.slice l4 x.ps.length m4] 128).cells;go_wp2_with fail
   clear d0 d1 d2 d3 hbf;refine HCL.out.mono ?_;rintro e w5 ⟨⟨z,rfl,hz1,hz2,hz3⟩,hb5⟩
   have HZ:=h! (show(200:Int)-(bkF (fs.take (i+1)):Int)<=z/\z<=200/\(0<=z->z=200-(bkF (fs.take (i+1)):Int))from by
    have h1:=HY.out;have h2:=HNX.out.1;refine⟨by omega,by omega,fun h0=>?_⟩;have h3:=hz3 h0;have h4:=h1.2.2 (by omega);omega)
   have X5:=h! (Ext.trans RX.out (Ext.trans X1.out hb5));clear hz1 hz2 hz3 hb5 HCL;go_wp2_with fail
   go_roundw
   case rel=>exact⟨i+1,z,HLT.out,by first | rw[HWI.out] | go_num,rfl,HZ.out.1,HZ.out.2.1,HZ.out.2.2,X5.out⟩
   case measure=>have:=HLT.out;(try rw[HWI.out]);simp[intOf];omega
  ·obtain rfl:i=fs.length:=by omega
   rw[List.take_length]at HY;have XA:=h! (XA.out.trans RX.out);have BG:=h! (BG.out.below RX.out);by_cases hy0:y<0
   ·go_wp2_with fail
    go_ret
    exact⟨rfl,XA.out⟩
   have HB:=h! (show bkF fs<=200 from by have h1:=HY.out.2.2 (by omega);omega);clear hlt hi;go_wp2_with fail
   obtain⟨wd,hwd⟩:∃ wd,Hid (wd=World.drew wr):=⟨_,h! rfl⟩;have hxd:=h! (show Ext wr wd from by rw[hwd.out];exact Ext.drew _);refine r! (Ext wd) (by rw[<- hwd.out];exact Ext.refl _) ?_;rw[<- hwd.out];have XB:=h! (XA.out.trans hxd.out);have BA:=h! (BG.out.below hxd.out);clear hwd hxd hy0;have hA:=fun W (h:Ext wd W)=>(BA.out.below h).cells;(refine WalkN.tk [0,1,3,4] ?_;(iterate 4 (refine c! ?_));refine TkN.n ?_)
   clear hA;refine o! 2 ?_;refine b! ?_;intro K hK;go_simp;refine(sets_any ps fs _ _ typ wd (HG.out.up XB.out) HOK.out (by have:=HLL.out;omega) (by have h1:=thsL_bk fs;have:=HB.out;omega)).mono ?_;rintro e w5 ⟨av,vsa,rfl,hoa,hla,hsa,hx5⟩;refine hK.out _ _ hx5 ?_;clear hK;have HX5:=h! hx5;have HOA:=h! hoa;have HLA:=h! hla;have HSA:=h! hsa;clear hoa hla hsa hx5;refine o! 5 ?_;refine b! ?_;intro K hK;go_simp;refine(docSets_any ps fs _ _ typ w5 (HG.out.up (XB.out.trans HX5.out)) (by have:=HLL.out;omega) (by have:=HB.out;omega)).mono ?_;rintro e w6 ⟨bv,vsb,rfl,hob,hlb,hsb,hx6⟩;refine hK.out _ _ (HX5.out.trans hx6) ?_;clear hK
   have HEQ:=h! (show ∀ i,i<ps.length->∃ xa xb l,vsa[i]?=some xa/\vsb[i]?=some xb/\Sl (· < w6.heap.size) w6 2 xa (ocs l)/\Sl (· < w6.heap.size) w6 2 xb (ocs l)from fun i hi=>by
    obtain⟨xa,la,h1,h2,h3,h4⟩:=HSA.out i hi;obtain⟨xb,lb,k1,k2,k3,k4⟩:=hsb i hi;obtain rfl:=upO_unique h3 k3 fun o=>by rw[h4,k4]
    exact⟨xa,xb,la,h1,k1,(h2.below hx6).slU,k2.slU⟩)
   have SA:=h! (HOA.out.below hx6).slU;have SB:=h! hob;obtain⟨ao,an,ac,rfl,hna,-,-⟩:=HOA.out.sl.len;obtain⟨bo,bn,bc',rfl,hnb,-,-⟩:=hob.len;obtain rfl:an=ps.length:=by have:=HLA.out;omega
   obtain rfl:bn=ps.length:=by omega
   have X6:=h! (show Ext w w6 from Ext.trans XB.out (Ext.trans HX5.out hx6));clear hob hlb hsb hx6 hna hnb;(refine WalkN.tk [6,7] ?_;(iterate 2 (refine c! ?_));refine TkN.n ?_)
   refine d! ?_;have hnn:((ps.length:Int) != (ps.length:Int))=false:=by simp
   go_wp2_with fail
   clear hnn;obtain⟨wq,hwq⟩:∃ x,x=w6:=⟨_,rfl⟩;go_loopw [49] (fun jv wr=>∃ (i:Nat),i<=ps.length/\jv = .int .i64 i/\Ext w6 wr) (fun jv _=>ps.length-(intOf jv).toNat)
   case atStart=>exact⟨0,Nat.zero_le _,rfl,Ext.refl _⟩
   case round =>
    obtain⟨i,hi,rfl,hx⟩:=hrel;have RX:=h! hx;clear hx hwq;by_cases hlt:i<ps.length
    ·have HLT:=h! hlt;have HWI:=h! (show wrap64 ((i:Int)+1)=((i+1:Nat):Int)from by have:=HLL.out.1;unfold wrap64;omega);have hli:(i:Int)<(ps.length:Int):=by omega
     obtain⟨xa,xb,l,ha,hbb,hsa,hsb⟩:=HEQ.out i hlt;obtain⟨ab,aoff,rfl,ca⟩:=cell_sl1 SA.out ha;obtain⟨bb,boff,rfl,cb⟩:=cell_sl1 SB.out hbb;have HC:=h! (And.intro hsa hsb);obtain⟨xao,xan,xac,rfl,-,-,-⟩:=hsa.len;obtain⟨xbo,xbn,xbc,rfl,-,-,-⟩:=hsb.len;clear ha hbb hsa hsb hlt;go_wp2_with fail
     obtain⟨wd,hwd⟩:∃ wd,Hid (wd=World.drew wr):=⟨_,h! rfl⟩;have hxd:=h! (show Ext wr wd from by rw[hwd.out];exact Ext.drew _);refine r! (Ext wd) (by rw[<- hwd.out];exact Ext.refl _) ?_;rw[<- hwd.out];have RD:=h! (Ext.trans RX.out hxd.out);have k0:=fun W (h:Ext wd W)=>Ext.cell (Ext.trans RD.out h) ca;have k1:=fun W (h:Ext wd W)=>Ext.cell (Ext.trans RD.out h) cb;clear hwd hxd ca cb;(refine WalkN.tk [0,1,2,3,4,5,6,7] ?_;(iterate 8 (refine c! ?_));refine TkN.n ?_)
     clear k0 k1;have HSM:=h! (sameO_any (.slice xao xan xac) (.slice xbo xbn xbc) l wd ((HC.out.1.same (Same.below RD.out)).mono fun _ hb=>Nat.lt_of_lt_of_le hb RD.out.size) ((HC.out.2.same (Same.below RD.out)).mono fun _ hb=>Nat.lt_of_lt_of_le hb RD.out.size));refine o! 8 ?_;refine b! ?_;intro K hK;go_simp;refine HSM.out.mono ?_;rintro e w9 ⟨rfl,hx9⟩;refine hK.out _ _ hx9 ?_;clear hK;have R9:=h! (Ext.trans RD.out hx9);clear hx9 HSM;refine t! 9 ?_
     refine d! ?_;go_wp2_with fail
     go_roundw
     case rel=>exact⟨i+1,HLT.out,by first | rw[HWI.out] | go_num,R9.out⟩
     case measure=>have:=HLT.out;(try rw[HWI.out]);simp[intOf];omega
    ·obtain rfl:i=ps.length:=by omega
     have HX:=h! (X6.out.trans RX.out);go_wp2_with fail
     go_ret
     exact⟨rfl,HX.out⟩
end Go.Proofs.YtlhaghoajpglaaaGreat
namespace Go.Proofs.YtlhaghoajpglaaaGreat
open Go Go.RowKit Go.ChangeShapes Go.WideShapes Go.ChangeAt
def pC4 (p:P3):List Value:=[.string p.t,.string p.i,.string p.r]
section
variable {H : Type} {enc : TypeId × Value -> H} {W : World} {base : Nat} {v : Value} {d : DataW H} {ps : List MemPlace}
theorem open_obj_cells {fuel:Nat} {cs:List Value} {y:DataW H × List MemPlace} (hy:DataW.trod enc Tryz.prog W 0 (fun _=>true) true fuel 30 cs=some y):∃ a b:ByteArray,cs=[.string a,.string b]/\a.size<=maxLen/\b.size<=maxLen:=by
 obtain⟨xs,n,_,_,hl,hlen,hf⟩:=DataW.trod_struct Tryz.underlying30 hy;rw[show Tryz.prog.cellsOf 30=2 from by kernel_rfl]at hl
 obtain⟨c0,c1,rfl⟩:∃ c0 c1,cs=[c0,c1]:=by
  match cs,hl with
  | [c0,c1],_=>exact⟨c0,c1,rfl⟩
 have h0:=hf 0 _ rfl;have h1:=hf 1 _ rfl
 obtain⟨y0,y1,rfl⟩:∃ y0 y1,xs=[y0,y1]:=by
  match xs,hlen with
  | [y0,y1],_=>exact⟨y0,y1,rfl⟩
 obtain⟨a,e0,_,wa⟩:=DataW.trod_string Tryz.underlying9 h0;obtain⟨b,e1,_,wb⟩:=DataW.trod_string Tryz.underlying9 h1;have k1:Tryz.prog.cellsOf 9=1:=by kernel_rfl
 simp[k1]at e0 e1;subst e0 e1;exact⟨a,b,rfl,wa,wb⟩
theorem open_sub_cells {fuel:Nat} {cs:List Value} {y:DataW H × List MemPlace} (hy:DataW.trod enc Tryz.prog W 0 (fun _=>true) true fuel 33 cs=some y):∃ p:P3,cs=pC4 p/\p.Ok:=by
 obtain⟨xs,n,_,_,hl,hlen,hf⟩:=DataW.trod_struct Tryz.underlying33 hy;rw[show Tryz.prog.cellsOf 33=3 from by kernel_rfl]at hl
 obtain⟨c0,c1,c2,rfl⟩:∃ c0 c1 c2,cs=[c0,c1,c2]:=by
  match cs,hl with
  | [c0,c1,c2],_=>exact⟨c0,c1,c2,rfl⟩
 have h0:=hf 0 _ rfl;have h1:=hf 1 _ rfl
 obtain⟨y0,y1,rfl⟩:∃ y0 y1,xs=[y0,y1]:=by
  match xs,hlen with
  | [y0,y1],_=>exact⟨y0,y1,rfl⟩
 have k0:Tryz.prog.cellsOf 30=2:=by kernel_rfl
 have k1:Tryz.prog.cellsOf 9=1:=by kernel_rfl
 obtain⟨a,b,e0,wa,wb⟩:=open_obj_cells h0;obtain⟨c,e1,_,wc⟩:=DataW.trod_string Tryz.underlying9 h1;simp[k0]at e0;simp[k1]at e1;obtain⟨rfl,rfl⟩:=e0;subst e1;exact⟨⟨a,b,c⟩,rfl,wa,wb,wc⟩
end
section
variable {H : Type} {enc : TypeId × Value -> H} {W : World} {base : Nat} {v : Value} {d : DataW H} {ps : List MemPlace}
theorem open_point_cells {fuel:Nat} {cs:List Value} {y:DataW H × List MemPlace} (hy:DataW.trod enc Tryz.prog W 0 (fun _=>true) true fuel 32 cs=some y):∃ p:P3,cs=pC4 p/\p.Ok:=by
 obtain⟨xs,n,_,_,hl,hlen,hf⟩:=DataW.trod_struct Tryz.underlying32 hy;rw[show Tryz.prog.cellsOf 32=3 from by kernel_rfl]at hl
 obtain⟨c0,c1,c2,rfl⟩:∃ c0 c1 c2,cs=[c0,c1,c2]:=by
  match cs,hl with
  | [c0,c1,c2],_=>exact⟨c0,c1,c2,rfl⟩
 have h0:=hf 0 _ rfl;have h1:=hf 1 _ rfl
 obtain⟨y0,y1,rfl⟩:∃ y0 y1,xs=[y0,y1]:=by
  match xs,hlen with
  | [y0,y1],_=>exact⟨y0,y1,rfl⟩
 have k0:Tryz.prog.cellsOf 30=2:=by kernel_rfl
 have k1:Tryz.prog.cellsOf 9=1:=by kernel_rfl
 obtain⟨a,b,e0,wa,wb⟩:=open_obj_cells h0;obtain⟨c,e1,_,wc⟩:=DataW.trod_string Tryz.underlying9 h1;simp[k0]at e0;simp[k1]at e1;obtain⟨rfl,rfl⟩:=e0;subst e1;exact⟨⟨a,b,c⟩,rfl,wa,wb,wc⟩
end
end Go.Proofs.YtlhaghoajpglaaaGreat
namespace Go.Proofs.YtlhaghoajpglaaaGreat
open Go Go.RowKit Go.ChangeShapes Go.WideShapes Go.ChangeAt
open Go.ChangeMaps (open_string)
section
variable {H : Type} {enc : TypeId × Value -> H} {W : World} {base : Nat} {v : Value} {d : DataW H} {ps : List MemPlace}
theorem open_strV (hok:Value.okWide Tryz.prog W .any base 9 v)(h:DataW.Trod enc Tryz.prog W 0 (fun _=>true) true 9 v d ps):∃ s:ByteArray,v = .string s/\s.size<=9223372036854775807:=by
 obtain⟨s,rfl,_,_,hs⟩:=open_string Tryz.underlying9 hok h;exact⟨s,rfl,by unfold maxLen at hs;omega⟩
end
end Go.Proofs.YtlhaghoajpglaaaGreat
namespace Go.Proofs.YtlhaghoajpglaaaGreat
open Go Go.RowKit Go.ChangeShapes Go.WideShapes Go.ChangeAt
theorem flat_single {α β:Type} (f:α->β)(l:List α):l.flatMap (fun x => [f x])=l.map f:=by
 induction l with
 | nil=>rfl
 | cons x l ih=>rw[List.flatMap_cons,ih,List.map_cons];rfl
theorem sumN_one {α:Type} (l:List α):sumN (fun _=>1) l=l.length:=by
 induction l with
 | nil=>rfl
 | cons x l ih=>rw[sumN,ih,List.length_cons];omega
theorem bkF_sum (l:List FT):bkF l=sumN FT.bk l:=by
 induction l with
 | nil=>rfl
 | cons x l ih=>rw[bkF,sumN,ih]
section
variable {H : Type} {enc : TypeId × Value -> H} {W : World} {base : Nat} {v : Value} {d : DataW H} {ps : List MemPlace}
end
section
variable {H : Type} {enc : TypeId × Value -> H} {W : World} {base : Nat} {v : Value} {d : DataW H} {ps : List MemPlace}
def FormK (W:World)(x:FT × FV3)(d:DataW H):Prop:=FTAt (· < W.heap.size) W x.1 x.2/\x.1.bk<=Rows.uptoBulk d/\∀ s∈x.1.ths,s.Ok
theorem open_form_cellsK (fuel:Nat):∀ {cs:List Value} {y:DataW H × List MemPlace},DataW.trod enc Tryz.prog W 0 (fun _=>true) true fuel 128 cs=some y->∃ x:FT × FV3,cs=fC x/\FormK W x y.1:=by
 induction fuel using Nat.strongRecOn with
 | ind fuel ih =>
 intro cs y hy;obtain⟨xs,n,hfn,hyx,hl,hlen,hf⟩:=DataW.trod_struct Tryz.underlying128 hy;rw[show Tryz.prog.cellsOf 128=4 from by kernel_rfl]at hl
 obtain⟨c0,c1,c2,c3,rfl⟩:∃ c0 c1 c2 c3,cs=[c0,c1,c2,c3]:=by
  match cs,hl with
  | [c0,c1,c2,c3],_=>exact⟨c0,c1,c2,c3,rfl⟩
 have h0:=hf 0 _ rfl;have h1:=hf 1 _ rfl;have h2:=hf 2 _ rfl;have h3:=hf 3 _ rfl
 obtain⟨y0,y1,y2,y3,rfl⟩:∃ y0 y1 y2 y3,xs=[y0,y1,y2,y3]:=by
  match xs,hlen with
  | [y0,y1,y2,y3],_=>exact⟨y0,y1,y2,y3,rfl⟩
 have k0:Tryz.prog.cellsOf 3=1:=by kernel_rfl
 have k1:Tryz.prog.cellsOf 42=1:=by kernel_rfl
 have k2:Tryz.prog.cellsOf 107=1:=by kernel_rfl
 have k3:Tryz.prog.cellsOf 94=1:=by kernel_rfl
 obtain⟨k,e0,d0,w0⟩:=DataW.trod_int Tryz.underlying3 h0;simp[k0]at e0;subst e0;have h1':DataW.trod enc Tryz.prog W 0 (fun _=>true) true n 42 [c1]=some y1:=by simpa [k0,k1] using h1
 have h2':DataW.trod enc Tryz.prog W 0 (fun _=>true) true n 107 [c2]=some y2:=by simpa [k0,k1,k2] using h2
 have h3':DataW.trod enc Tryz.prog W 0 (fun _=>true) true n 94 [c3]=some y3:=by simpa [k0,k1,k2,k3] using h3
 obtain⟨l1,hs1,hq1,hd1⟩:=open_rowsB pC (fun p _=>p.Ok) Tryz.underlying42 (show _=3 by kernel_rfl) h1' (fun fuel' hlt cs y hy=>by obtain⟨p,hp,hpo⟩:=open_sub_cells hy;exact⟨p,hp,hpo⟩);obtain⟨l2,hs2,hq2,hd2⟩:=open_rowsB (fun x:Int => [Value.int .i64 x]) (fun _ _=>True) Tryz.underlying107 (show _=1 by kernel_rfl) h2' (fun fuel' hlt cs y hy=>by obtain⟨x,e,_⟩:=DataW.trod_int Tryz.underlying3 hy;exact⟨x,e,trivial⟩);obtain⟨l,hs,hq,hd⟩:=open_rowsB fC (FormK W) Tryz.underlying94 (show _=4 by kernel_rfl) h3' (fun fuel' hlt cs y hy=>ih fuel' (by omega) hy);rw[flat_single]at hs2;refine⟨(.mk k (l1.map Prod.fst) (l2.map Prod.fst) (l.map fun x:(FT × FV3) × DataW H=>x.1.1),(c1,c2,c3)),rfl,(FTAt.iff _ _).2 ⟨hs1,hs2,l.map (·.1),by simp[FT.ps,List.map_map],fun x hx=>?_,hs⟩,?_⟩
 ·obtain⟨p,hp,rfl⟩:=List.mem_map.1 hx;exact(hq p hp).1
 ·have h4:=bulk_row (f:=fun x:FT × FV3=>x.1.bk) hd fun p hp=>(hq p hp).2.1;have h5:=bulk_row (f:=fun _:P3=>1) hd1 fun p hp=>bulk_pos _;have h6:=bulk_row (f:=fun _:Int=>1) hd2 fun p hp=>bulk_pos _;rw[sumN_one,List.length_map]at h5 h6;rw[sumN_map FT.bk (fun x:FT × FV3=>x.1),List.map_map]at h4;rw[hyx,d0,FT.bk,bkF_sum];simp only[List.map_cons,List.map_nil,Rows.uptoBulkAll,Rows.uptoBulk];have e:(l.map (·.1.1))=l.map ((fun x:FT × FV3=>x.1) ∘ fun x=>x.1):=rfl;rw[e,List.length_map,List.length_map];refine⟨by omega,fun s hs=>?_⟩;rw[FT.ths_eq]at hs;rcases List.mem_append.1 hs with hs | hs
  ·split at hs
   ·obtain⟨p,hp,rfl⟩:=List.mem_map.1 hs;exact hq1 p hp
   ·cases hs
  ·obtain⟨g,hg,hs⟩:=thsL_mem.1 hs;obtain⟨p,hp,rfl⟩:=List.mem_map.1 hg;exact(hq p hp).2.2 s hs
theorem open_graphOkV (hok:Value.okWide Tryz.prog W .any base 96 v)(h:DataW.Trod enc Tryz.prog W 0 (fun _=>true) true 96 v d ps):∃ (qs:List P3)(fs:List FT)(pv fv:Value),v = .agg #[pv,fv]/\GrAt (· < W.heap.size) W qs fs pv fv/\qs.length+bkF fs<=Rows.uptoBulk d/\∀ f∈fs,∀ s∈f.ths,s.Ok:=by
 obtain⟨ca,rfl,_⟩:=okWide_struct Tryz.underlying96 hok;obtain⟨fuel,hy⟩:=h;obtain⟨xs,n,hfn,hyx,hl,hlen,hf⟩:=DataW.trod_struct Tryz.underlying96 hy;rw[show Tryz.prog.cellsOf 96=2 from by kernel_rfl]at hl
 obtain⟨c0,c1,hc⟩:∃ c0 c1,(Value.agg ca).cells.toList=[c0,c1]:=by
  match (Value.agg ca).cells.toList,hl with
  | [c0,c1],_=>exact⟨c0,c1,rfl⟩
 have h0:=hf 0 _ rfl;have h1:=hf 1 _ rfl
 obtain⟨y0,y1,rfl⟩:∃ y0 y1,xs=[y0,y1]:=by
  match xs,hlen with
  | [y0,y1],_=>exact⟨y0,y1,rfl⟩
 have k0:Tryz.prog.cellsOf 59=1:=by kernel_rfl
 have k1:Tryz.prog.cellsOf 94=1:=by kernel_rfl
 rw[hc]at h0 h1;have h0':DataW.trod enc Tryz.prog W 0 (fun _=>true) true n 59 [c0]=some y0:=by simpa [k0] using h0
 have h1':DataW.trod enc Tryz.prog W 0 (fun _=>true) true n 94 [c1]=some y1:=by simpa [k0,k1] using h1
 obtain⟨l1,hs1,hq1,hd1⟩:=open_rowsB pC (fun _ _=>True) Tryz.underlying59 (show _=3 by kernel_rfl) h0' (fun fuel' hlt cs y hy=>by obtain⟨p,hp,_⟩:=open_point_cells hy;exact⟨p,hp,trivial⟩);obtain⟨l,hs,hq,hd⟩:=open_rowsB fC (FormK W) Tryz.underlying94 (show _=4 by kernel_rfl) h1' (fun fuel' hlt cs y hy=>open_form_cellsK _ hy);have h4:=bulk_row (f:=fun x:FT × FV3=>x.1.bk) hd fun p hp=>(hq p hp).2.1;have h5:=bulk_row (f:=fun _:P3=>1) hd1 fun p hp=>bulk_pos _;rw[sumN_one,List.length_map]at h5;rw[sumN_map FT.bk (fun x:FT × FV3=>x.1),List.map_map]at h4;refine⟨l1.map Prod.fst,l.map ((fun x:FT × FV3=>x.1) ∘ fun x=>x.1),c0,c1,congrArg Value.agg (Array.toList_inj.1 hc),⟨hs1,l.map (·.1),by simp[List.map_map],fun x hx=>?_,hs⟩,?_⟩
 ·obtain⟨p,hp,rfl⟩:=List.mem_map.1 hx;exact(hq p hp).1
 ·have hdd:=congrArg Prod.fst hyx;dsimp only at hdd;rw[hdd,bkF_sum,List.length_map];simp only[List.map_cons,List.map_nil,Rows.uptoBulkAll,Rows.uptoBulk];refine⟨by omega,fun f hf s hs=>?_⟩;obtain⟨p,hp,rfl⟩:=List.mem_map.1 hf;exact(hq p hp).2.2 s hs
end
end Go.Proofs.YtlhaghoajpglaaaGreat
