/- Lemmas for the claim, no condition. -/
import Derived.Test.YtlhaghoajpglaaaGreatYLkSets14
import Derived.Test.YtlhaghoajpglaaaGreatYLkSets0
set_option maxRecDepth 100000
set_option maxHeartbeats 8000000
namespace Go.Proofs.YtlhaghoajpglaaaGreat
open Go Go.RowKit Go.Maps
def NoInt (w:World)(b:Nat):Prop:=∀ cs fr,w.heap[b]?≠some (.cells cs 3 fr)/\w.heap[b]?≠some (.cells cs 107 fr)
abbrev UK (lo:Nat) (A:Nat->Prop) (w w':World):Prop:=Kept (fun b=>b<w.heap.size/\(b<lo\/A b\/NoInt w b)) w w'
section
variable {lo : Nat} {A : Nat -> Prop} {w w' w'' : World}
theorem UK.refl (lo:Nat)(A:Nat->Prop)(w:World):UK lo A w w:=Kept.refl _ _
theorem UK.of (h:Ext w w'):UK lo A w w':=Below.kept h fun _ hb=>hb.1
theorem UK.next (h:UK lo A w w')(k:UK lo A w' w''):UK lo A w w'':=Kept.trans h (Kept.mono k fun b hb=>⟨Nat.lt_of_lt_of_le hb.1 h.size,by
 rcases hb.2 with h1 | h1 | h1
 ·exact .inl h1
 ·exact .inr (.inl h1)
 ·exact .inr (.inr fun cs fr=>by rw[h.block b ⟨hb.1,.inr (.inr h1)⟩];exact h1 cs fr)⟩)
theorem UK.low (h:UK lo A w w')(hl:lo<=w.heap.size):Same (· < lo) w w':=fun b hb=>h.block b ⟨Nat.lt_of_lt_of_le hb hl,.inl hb⟩
theorem UK.blk (h:UK lo A w w') {b:Nat} {cs:Array Value} {t:TypeId} (hb:Blk w b cs t)(h1:t≠3)(h2:t≠107):Blk w' b cs t :=
 (h.block b ⟨hb.lt,.inr (.inr fun cs' fr=>⟨fun e=>by
  rw[show w.heap[b]?=_ from hb]at e;injection e with e
  injection e with _ e _
  exact h1 e,fun e=>by
  rw[show w.heap[b]?=_ from hb]at e;injection e with e
  injection e with _ e _
  exact h2 e⟩)⟩).trans hb
theorem UK.blkA (h:UK lo A w w') {b:Nat} {cs:Array Value} {t:TypeId} (hb:Blk w b cs t)(h1:A b):Blk w' b cs t:=(h.block b ⟨hb.lt,.inr (.inl h1)⟩).trans hb
end
theorem FTAt.lowUp {lo:Nat} {A:Nat->Prop} {w w':World} {r:FT} {v:FV3} (h:FTAt (· < lo) w r v)(hk:UK lo A w w')(hl:lo<=w.heap.size):FTAt (· < lo) w' r v:=h.same (hk.low hl)
theorem named_any (g:Nat)(cap:Array Value)(eg:∀ args W,(callFunc g args).run Tryz.prog W = .ok (.enter g args) W)(lo N:Nat)(A:Nat->Prop)(Inv:List Int->World->Prop)
  (hx:∀ ks W W',Inv ks W->Ext W W'->Inv ks W') (hdo:∀ ks k W,Inv ks W->lo<=W.heap.size->ks.length<N->Calls Tryz.prog g (#[.int .i64 k]++cap) W fun e W'=>e = .returned (.tuple #[])/\Inv (ks++[k]) W'/\UK lo A W W') (f:FT) :
  ∀ (v:FV3) (ks:List Int) (w:World),FTAt (· < lo) w f v->lo<=w.heap.size->Inv ks w->ks.length+f.named.length<=N ->
  Calls Tryz.prog 208 #[fV f v,.func (.func g) #[] cap] w fun e w'=>e = .returned (.tuple #[])/\Inv (ks++f.named) w'/\UK lo A w w':=by
 induction f using FT.ind with
 | h f ih =>
 intro v ks w h hlo hinv hN;obtain⟨a1,c1,a2,c2,a4,c4,rfl⟩:=h.shape;obtain⟨k,subs,refs,parts⟩:=f;rw[FT.named_eq,List.length_append]at hN;rw[FT.named_eq];have HIH:=h! ih;have H1:=h! h;have HDO:=h! hdo;have HXX:=h! hx;have HN:=h! hN;have HLO:=h! hlo;clear ih h hdo hx hN hlo;unfold fV;dsimp only[FT.k,FT.subs,FT.refs,FT.ps]at HIH H1 HN ⊢;obtain⟨wa,hwa⟩:∃ x,x=w.alloc (.cells #[.int .i64 k,.slice a1 subs.length c1,.slice a2 refs.length c2,.slice a4 parts.length c4] 128):=⟨_,rfl⟩;have XA:=h! (show Ext w wa from by rw[hwa];exact Ext.alloc _ _);have BA:=h! (show Blk wa w.heap.size #[.int .i64 k,.slice a1 subs.length c1,.slice a2 refs.length c2,.slice a4 parts.length c4] 128 from by rw[hwa];exact Blk.made _ _ _);have HI0:=h! (HXX.out ks w wa hinv XA.out);have F1:=h! (fun W (hW:UK lo A wa W)=>H1.out.lowUp (UK.next (UK.of XA.out) hW) HLO.out);have FB:=h! (fun W (hW:UK lo A wa W)=>hW.blk BA.out (by decide) (by decide));have FL:=h! (fun W (hW:UK lo A wa W)=>show lo<=W.heap.size from Nat.le_trans HLO.out (Nat.le_trans XA.out.size hW.size));clear hinv H1;have hA:=BA.out.cells;clear BA;rw[hwa]at hA;go_enter Tryz.func208,Tryz.ntmps208
 go_wp2_with fail
 clear hA;rw[<- hwa];clear hwa;go_loopw [11] (fun iv wr=>∃ i:Nat,i<=refs.length/\iv = .int .i64 i/\Inv (ks++refs.take i) wr/\UK lo A wa wr) (fun iv _=>refs.length-(intOf iv).toNat)
 case atStart=>exact⟨0,Nat.zero_le _,rfl,by simpa using HI0.out,UK.refl _ _ _⟩
 case round =>
  obtain⟨i,hi,rfl,hiv,hk⟩:=hrel;have RI:=h! hiv;have RK:=h! hk;clear hiv hk HI0;by_cases hlt:i<refs.length
  ·have HLT:=h! hlt;have HNX:=h! (List.take_succ_eq_append_getElem hlt);obtain⟨-,h2,-⟩:=(FTAt.iff _ _).1 (F1.out wr RK.out);obtain⟨p1,q1,rfl,hp1,hc0⟩:=Sl.int_at h2 hlt;dsimp only[FT.refs]at hc0;have hli:(i:Int)<(refs.length:Int):=by omega
   have HWI:=h! (show wrap64 ((i:Int)+1)=((i+1:Nat):Int)from by
    obtain⟨_,n,c,he,h1,h2,h3⟩:=h2.len;cases he;unfold wrap64;omega)
   have HCL:=h! (HDO.out (ks++refs.take i) refs[i] wr RI.out (FL.out wr RK.out) (by have:=HN.out;rw[List.length_append,List.length_take];omega));generalize refs[i]=x at *;clear hlt hp1 h2;go_wp2_with fail
   refine HCL.out.mono ?_;rintro e w5 ⟨rfl,hi5,hk5⟩;have RI5:=h! (show Inv (ks++refs.take (i+1)) w5 from by rw[HNX.out,<- List.append_assoc];exact hi5);have RK5:=h! (show UK lo A wa w5 from UK.next RK.out hk5);clear hi5 hk5 HCL hc0;go_wp2_with fail
   go_roundw
   case rel=>exact⟨i+1,HLT.out,by first | rw[HWI.out] | go_num,RI5.out,RK5.out⟩
   case measure=>have:=HLT.out;(try rw[HWI.out]);simp[intOf];omega
  ·obtain rfl:i=refs.length:=by omega
   rw[List.take_length]at RI;have hA:=(FB.out wr RK.out).cells;clear hlt hi;go_wp2_with fail
   clear hA;obtain⟨w4,hw4⟩:∃ y,y=wr:=⟨_,rfl⟩;rw[<- hw4]at RI RK ⊢;clear hw4;go_loopw [22] (fun iv wr=>∃ i:Nat,i<=parts.length/\iv = .int .i64 i/\Inv (ks++refs++nmdL (parts.take i)) wr/\UK lo A wa wr) (fun iv _=>parts.length-(intOf iv).toNat)
   case atStart=>exact⟨0,Nat.zero_le _,rfl,by simpa [nmdL] using RI.out,RK.out⟩
   case round =>
    obtain⟨i,hi,rfl,hiv,hk⟩:=hrel;have RI2:=h! hiv;have RK2:=h! hk;clear hiv hk;by_cases hlt:i<parts.length
    ·have HLT:=h! hlt;have HNX:=h! (nmdL_take hlt)
     have HLN:=h! (show(nmdL (parts.take i)).length+parts[i].named.length<=(nmdL parts).length from by
      have h1:nmdL parts=nmdL (parts.take (i+1))++nmdL (parts.drop (i+1)):=by rw[<- nmdL_append,List.take_append_drop]
      rw[h1,HNX.out];simp only[List.length_append];omega)
     obtain⟨ao1,g1,he1,hg1,hg2,hc1⟩:=(F1.out wr RK2.out).rows;dsimp only[FT.ps]at he1 hg1 hg2 hc1;cases he1;obtain⟨p1,q1,u,rfl,hp1,e0,e1,e2,e3,hu⟩:=hc1 i hlt;have HII:=h! (HIH.out parts[i] (List.getElem_mem hlt));have HWI:=h! (show wrap64 ((i:Int)+1)=((i+1:Nat):Int)from by unfold wrap64;omega);have hli:(i:Int)<(parts.length:Int):=by omega
     generalize parts[i]=x at *;obtain⟨l1,m1,l2,m2,l4,m4,rfl⟩:=hu.shape;have X1:=h! (Ext.alloc wr (.cells #[.int .i64 x.k,.slice l1 x.subs.length m1,.slice l2 x.refs.length m2,.slice l4 x.ps.length m4] 128));have HCL:=h! (HII.out _ (ks++refs++nmdL (parts.take i)) _ (hu.lowUp (UK.of (A:=A) X1.out) (FL.out wr RK2.out)) (Nat.le_trans (FL.out wr RK2.out) X1.out.size) (HXX.out _ _ _ RI2.out X1.out) (by have:=HN.out;have:=HLN.out;simp only[List.length_append];omega));unfold fV at HCL;dsimp only at e0 e1 e2 e3 HCL;have hbf:=(Blk.made wr #[.int .i64 x.k,.slice l1 x.subs.length m1,.slice l2 x.refs.length m2,.slice l4 x.ps.length m4] 128).cells;clear hlt hc1 hu hp1 hg1 hg2;go_wp2_with fail
     refine HCL.out.mono ?_;rintro e w5 ⟨rfl,hi5,hk5⟩;have RI5:=h! (show Inv (ks++refs++nmdL (parts.take (i+1))) w5 from by rw[HNX.out,<- List.append_assoc];exact hi5);have RK5:=h! (show UK lo A wa w5 from UK.next RK2.out (UK.next (UK.of X1.out) hk5));clear hi5 hk5 hbf HCL e0 e1 e2 e3;go_wp2_with fail
     go_roundw
     case rel=>exact⟨i+1,HLT.out,by first | rw[HWI.out] | go_num,RI5.out,RK5.out⟩
     case measure=>have:=HLT.out;(try rw[HWI.out]);simp[intOf];omega
    ·obtain rfl:i=parts.length:=by omega
     rw[List.take_length,List.append_assoc]at RI2;have XE:=h! (show UK lo A w wr from UK.next (UK.of XA.out) RK2.out);go_wp2_with fail
     go_end0
     exact⟨rfl,RI2.out,XE.out⟩
structure UsAt (w:World)(lo ub n:Nat)(A:Nat->Prop)(U:List (List Int))(vs:List Value):Prop where
 arr:Own w lo 107 1 (.slice (some ⟨ub,0,none⟩) n n) vs
 vlen:vs.length=n
 ulen:U.length=n
 row:∀ k v,vs[k]?=some v->Own w lo 3 1 v (ic (U.getD k []))
 apart:∀ (j k:Nat) (v u:Value) (g:Nat),j≠k->vs[j]?=some v->vs[k]?=some u->v.ownBlock=some g->u.ownBlock≠some g
 off:∀ (k:Nat) (v:Value) (g:Nat),vs[k]?=some v->v.ownBlock=some g->¬ A g
section
variable {w w' w2 : World} {lo ub n k : Nat} {A : Nat -> Prop} {U : List (List Int)} {vs : List Value} {v v2 : Value} {x : Int}
theorem UsAt.ext (h:UsAt w lo ub n A U vs)(hx:Ext w w'):UsAt w' lo ub n A U vs :=
 ⟨h.arr.below hx,h.vlen,h.ulen,fun k v hv=>(h.row k v hv).below hx,h.apart,h.off⟩
theorem UsAt.add (h:UsAt w lo ub n A U vs)(hk:k<n)(hv:vs[k]?=some v)(ho:Own w2 lo 3 1 v2 (ic (U.getD k []++[x])))(hw:∀ g,v2.ownBlock=some g->v.ownBlock=some g\/w.heap.size<=g)(hg:w.grownBy w2 v.ownBlock)(hA:∀ b,A b->b<w.heap.size)(hub:¬ A ub) :
  UsAt (w2.setCell ⟨ub,k,none⟩ v2) lo ub n A (U.set k (U.getD k []++[x])) (vs.set k v2)/\UK lo A w (w2.setCell ⟨ub,k,none⟩ v2):=by
 have hr:=h.row k v hv;have ha2:Own w2 lo 107 1 (.slice (some ⟨ub,0,none⟩) n n) vs:=h.arr.aside hr (by decide) hg
 have hne:∀ g,v2.ownBlock=some g->g≠ub:=fun g hg2 e=>by
  subst e;exact ho.apart ha2 (by decide) hg2 rfl
 have hset:∀ b,b≠ub->(w2.setCell ⟨ub,k,none⟩ v2).heap[b]?=w2.heap[b]?:=fun b hb=>Below.heap_setCell _ _ _ _ hb
 have hrow:∀ j u,j≠k->vs[j]?=some u->∀ g,u.ownBlock=some g->g<w.heap.size/\g≠ub/\v.ownBlock≠some g:=fun j u hj hu g hg2=>by
  have h1:=(h.row j u hu);refine⟨(h1.block g hg2).2,fun e=>?_,fun e=>h.apart k j v u g (Ne.symm hj) hv hu e hg2⟩;subst e;exact h1.apart h.arr (by decide) hg2 rfl
 refine⟨⟨ha2.set1 k v2,by rw[List.length_set];exact h.vlen,by rw[List.length_set];exact h.ulen,fun j u hu=>?_,fun j l u u' g hjl hu hu' hg2=>?_,fun j u g hu hg2=>?_⟩,?_⟩
 ·rw[getD_set,h.ulen];by_cases hj:j=k
  ·subst hj;rw[List.getElem?_set_self (by rw[h.vlen];exact hk)]at hu;obtain rfl:=Option.some.inj hu;rw[if_pos ⟨rfl,hk⟩];exact ho.keepOwn fun g hg2=>hset g (hne g hg2)
  ·rw[List.getElem?_set_ne (Ne.symm hj)]at hu;rw[if_neg fun e=>hj e.1]
   exact(h.row j u hu).keepOwn fun g hg2=>by
    obtain⟨h1,h2,h3⟩:=hrow j u hj hu g hg2;rw[hset g h2];exact hg.block g h1 (fun e=>h3 e.symm)
 ·by_cases hj:j=k
  ·subst hj;rw[List.getElem?_set_self (by rw[h.vlen];exact hk)]at hu;obtain rfl:=Option.some.inj hu;rw[List.getElem?_set_ne hjl]at hu';intro e;obtain⟨h1,h2,h3⟩:=hrow l u' (Ne.symm hjl) hu' g e;rcases hw g hg2 with h4 | h4
   ·exact h3 h4
   ·omega
  ·rw[List.getElem?_set_ne (Ne.symm hj)]at hu;obtain⟨h1,h2,h3⟩:=hrow j u hj hu g hg2;by_cases hl:l=k
   ·subst hl;rw[List.getElem?_set_self (by rw[h.vlen];exact hk)]at hu';obtain rfl:=Option.some.inj hu';intro e;rcases hw g e with h4 | h4
    ·exact h3 h4
    ·omega
   ·rw[List.getElem?_set_ne (Ne.symm hl)]at hu';exact h.apart j l u u' g hjl hu hu' hg2
 ·by_cases hj:j=k
  ·subst hj;rw[List.getElem?_set_self (by rw[h.vlen];exact hk)]at hu;obtain rfl:=Option.some.inj hu;intro hAg;rcases hw g hg2 with h4 | h4
   ·exact h.off j v g hv h4 hAg
   ·have:=hA g hAg;omega
  ·rw[List.getElem?_set_ne (Ne.symm hj)]at hu;exact h.off j u g hu hg2
 ·refine⟨hg.os,hg.tape,hg.output,by simpa using hg.size,fun b hb=>?_⟩;obtain⟨hb1,hb2⟩:=hb
  have h1:b≠ub:=fun e=>by
   subst e;rcases hb2 with h2 | h2 | h2
   ·have:=(h.arr.block b rfl).1;omega
   ·exact hub h2
   ·obtain⟨cur,h3⟩:=h.arr.typed (g:=b) rfl;exact(h2 cur (0,0)).2 h3
  rw[hset b h1];refine hg.block b hb1 fun e=>?_;rcases hb2 with h2 | h2 | h2
  ·have:=(hr.block b e.symm).1;omega
  ·exact h.off k v b hv e.symm h2
  ·obtain⟨cur,h3⟩:=hr.typed e.symm;exact(h2 cur (0,0)).1 h3
end
def noteU (n i:Nat)(k:Int)(U:List (List Int)):List (List Int):=if i<n/\0<=k/\k<(n:Int)then U.set k.toNat (U.getD k.toNat []++[(i:Int)])else U
theorem note_any (lo ub n i ib nb sb sp:Nat)(A:Nat->Prop)(k:Int)(U:List (List Int))(vs:List Value)(c0 c1 c2 c3 c4 c5 c6:Value)(w:World)(hib:Blk w ib #[.int .i64 (i:Int)] 3)(hnb:Blk w nb #[.int .i64 (n:Int)] 3)(hsb:Blk w sb #[.pointer (some ⟨sp,0,none⟩)] 254)
  (hsp:Blk w sp #[c0,c1,c2,c3,c4,c5,c6,.slice (some ⟨ub,0,none⟩) n n] 259) (h:UsAt w lo ub n A U vs) (hAi:A ib/\A nb) (hA:∀ b,A b->b<w.heap.size) (hub:¬ A ub) (hlo:lo<=w.heap.size) (hlen:∀ k,(U.getD k []).length<=2000000000000) :
  Calls Tryz.prog 209 #[.int .i64 k,.pointer (some ⟨ib,0,none⟩),.pointer (some ⟨nb,0,none⟩),.pointer (some ⟨sb,0,none⟩)] w fun e w'=>e = .returned (.tuple #[])/\(∃ vs',UsAt w' lo ub n A (noteU n i k U) vs')/\UK lo A w w':=by
 have HU:=h! h;have h1:=hib.cells;have h2:=hnb.cells;have HIB:=h! hib;have HSB:=h! hsb;have HSP:=h! hsp;have HAI:=h! hAi;have HAA:=h! hA;have HUB:=h! hub;have HLO:=h! hlo;have HLN:=h! hlen;clear h hib hnb hsb hsp hAi hA hub hlo hlen;by_cases hc:i<n/\0<=k/\k<(n:Int)
 ·have HNU:=h! (show noteU n i k U=U.set k.toNat (U.getD k.toNat []++[(i:Int)])from by unfold noteU;rw[if_pos hc]);obtain⟨hin,hk0,hkn⟩:=hc;obtain⟨m,rfl⟩:=Int.eq_ofNat_of_zero_le hk0;rw[Int.toNat_natCast]at HNU;have hii:(i:Int)<(n:Int):=by omega
  have hmn:m<n:=by omega
  have HMN:=h! hmn;obtain⟨v,hv⟩:∃ v,vs[m]?=some v:=⟨_,List.getElem?_eq_getElem (by rw[HU.out.vlen];exact hmn)⟩;have HV:=h! hv;have HR:=h! (HU.out.row m v hv);obtain⟨vao,vn,vc,rfl,hvn,-,-⟩:=HR.out.sl.len;rw[ic_length,Nat.mul_one]at hvn;have HVL:=h! (show(U.getD m []).length<=2000000000000 from HLN.out m);clear hv hin hvn hmn;go_enter Tryz.func209,Tryz.ntmps209
  go_wp2_with fail
  obtain⟨wd,hwd⟩:∃ z:World,z=World.drew w:=⟨_,rfl⟩;have DX:=h! (show Ext w wd from by rw[hwd];exact Ext.drew _);refine region_walkL 16 (Kept (fun x=>x<wd.heap.size/\Value.ownBlock (.slice vao vn vc)≠some x) wd) (by rw[<- hwd];exact Kept.refl _ _) (by kernel_rfl) (by kernel_rfl) (fun _ _ d _ _ h=>by cases d <;> exact h) ?_;rw[<- hwd];clear hwd h1 h2;have UD:=h! (HU.out.ext DX.out);have HRD:=h! (HR.out.below DX.out)
  have HNO:=h! (show ∀ b cs t,Blk wd b cs t->t≠3->Value.ownBlock (.slice vao vn vc)≠some b from fun b cs t hb ht e=>by
   obtain⟨cur,h3⟩:=HRD.out.typed e;rw[show wd.heap[b]?=_ from hb]at h3;injection h3 with h3
   injection h3 with _ h3 _
   exact ht h3)
  have HSBD:=HSB.out.below DX.out;have HSPD:=HSP.out.below DX.out;have HIBD:=HIB.out.below DX.out;obtain⟨hvl,hbu,csu,hBu,hcu⟩:=UD.out.arr.cellAt;have h1:=fun W (h:Kept (fun x=>x<wd.heap.size/\Value.ownBlock (.slice vao vn vc)≠some x) wd W)=>(h.blk HSBD ⟨HSBD.lt,HNO.out _ _ _ HSBD (by decide)⟩).cells;have h2:=fun W (h:Kept (fun x=>x<wd.heap.size/\Value.ownBlock (.slice vao vn vc)≠some x) wd W)=>(h.blk HSPD ⟨HSPD.lt,HNO.out _ _ _ HSPD (by decide)⟩).cells;have h3:=fun W (h:Kept (fun x=>x<wd.heap.size/\Value.ownBlock (.slice vao vn vc)≠some x) wd W)=>(h.blk HIBD ⟨HIBD.lt,fun e=>UD.out.off m _ ib HV.out e HAI.out.1⟩).cells
  have h4:∀ W,Kept (fun x=>x<wd.heap.size/\Value.ownBlock (.slice vao vn vc)≠some x) wd W->W.cell? ⟨ub,m,none⟩=some (.slice vao vn vc):=fun W h=>by
   have h5:=h.blk hBu ⟨hBu.lt,HNO.out _ _ _ hBu (by decide)⟩;have h6:=hcu m (by rw[hvl];exact HMN.out);rw[h5.cells m,<- hBu.cells m,h6];have:=HV.out;rw[List.getElem?_eq_getElem (by rw[hvl];exact HMN.out)]at this;exact this
  have hmi:(m:Int)<(n:Int):=by have:=HMN.out;omega
  (refine WalkL.tk [0,1,2,3,4,5,6,7,8,9,10,11,12] ?_;(iterate 13 (refine l! ?_));refine TkL.n ?_)
  clear h1 h2 h3 h4;have hE1:Ext wd (wd.alloc (.cells #[.int .i64 (i:Int)] 3)):=Ext.alloc _ _;refine oL! 13 ?_;refine b! ?_;intro K hK;go_simp;refine hK.out _ _ ((Kept.refl _ _).alloc (fun x hx=>hx.1) _) ?_;clear hK;refine oL! 14 ?_;refine b! ?_;intro K hK;refine wp_ownw intsT (.tmp 28) (.tmp 30) rfl rfl (HRD.out.below hE1) (m:=1) (news:=[.int .i64 (i:Int)]) rfl rfl (fun j u hu=>?_) (by simp[Value.oneCell']) (by have:=HVL.out;rw[ic_length];simp at *;omega) (by have:=HVL.out;rw[ic_length];simp at *;omega) (by have:=HLO.out;have:=DX.out.size;simp;omega) (fun v2 w2 hown2 hw2 hg2=>?_)
  ·rw[Addr.add_lit,cell_of_row _ wd.heap.size (0+j) #[.int .i64 (i:Int)] 3 (0,0) (heap_alloc_new wd _),Nat.zero_add];simpa using hu
  have hkg:Kept (fun x=>x<wd.heap.size/\Value.ownBlock (.slice vao vn vc)≠some x) wd w2:=⟨hg2.os.trans rfl,hg2.tape.trans rfl,hg2.output.trans rfl,Nat.le_trans (by simp) hg2.size,fun x hx=>(hg2.block x (by have:=hx.1;simp;omega) (fun e=>hx.2 e.symm)).trans (Below.heap_alloc wd _ x hx.1)⟩;have HAD:=h! ((UD.out.ext hE1).add (x:=(i:Int)) HMN.out HV.out (by rw[ic_append];exact hown2) hw2 hg2 (fun b hb=>Nat.lt_of_lt_of_le (HAA.out b hb) (Nat.le_trans DX.out.size hE1.size)) HUB.out);have HUW:=h! (UK.next (UK.of (lo:=lo) (A:=A) DX.out) (UK.next (UK.of hE1) HAD.out.2));have hB2:=hkg.blk hBu ⟨hBu.lt,HNO.out _ _ _ hBu (by decide)⟩;refine hK.out _ _ hkg ?_;clear hK;simp only[Act.put,pA,pZ,pS];obtain⟨o2,n2,c2',rfl,-,-,-⟩:=hown2.sl.len
  have hbf:w2.cell? ⟨ub,m,none⟩=some (.slice vao vn vc):=by
   rw[hB2.cells m,<- hBu.cells m,hcu m (by rw[hvl];exact HMN.out)];have:=HV.out;rw[List.getElem?_eq_getElem (by rw[hvl];exact HMN.out)]at this;exact this
  have hbz:=hB2.free;clear hkg hown2 hw2 hg2 hE1 hB2 hBu hcu hvl hbu HSBD HSPD HIBD;((refine WalkL.take 15 _ ?_ (by simp only[gA,gS,gZ];rfl) (by kernel_rfl) (by kernel_rfl) (by kernel_rfl) (by rfl) (fun W hW=>?_) ?_;rotate_left;· (go_simp;try with_reducible rfl));simp only[Act.put,pA,pZ,pS])
  refine WalkL.last (by kernel_rfl) (by kernel_rfl) ?_;refine b! ?_;intro K hK;go_simp;refine hK.out _ _ ?_;clear hK hbf hbz;go_end0
  exact⟨rfl,⟨_,by rw[HNU.out];exact HAD.out.1⟩,HUW.out⟩
 ·have HNU:=h! (show noteU n i k U=U from by unfold noteU;rw[if_neg hc]);go_enter Tryz.func209,Tryz.ntmps209
  by_cases hin:i<n
  ·have hii:(i:Int)<(n:Int):=by omega
   by_cases hk0:0<=k
   ·have hkn:¬ k<(n:Int):=fun h=>hc ⟨hin,hk0,h⟩;clear hc hin;go_wp2_with fail
    go_end0
    exact⟨rfl,⟨vs,by rw[HNU.out];exact HU.out⟩,UK.refl _ _ _⟩
   ·clear hc hin;go_wp2_with fail
    go_end0
    exact⟨rfl,⟨vs,by rw[HNU.out];exact HU.out⟩,UK.refl _ _ _⟩
  ·have hii:¬ (i:Int)<(n:Int):=by omega
   clear hc hin;go_wp2_with fail
   go_end0
   exact⟨rfl,⟨vs,by rw[HNU.out];exact HU.out⟩,UK.refl _ _ _⟩
end Go.Proofs.YtlhaghoajpglaaaGreat
namespace Go.Proofs.YtlhaghoajpglaaaGreat
open Go Go.RowKit
def J5 {α0 α1 α2 α3 α4:Type} (F:α0->α1->α2->α3->α4->World->Prop)(A:α0->α1->α2->α3->α4->Act)(e:Exit)(a:Act)(W:World):Prop:=e = .normal/\∃ (x0:α0)(x1:α1)(x2:α2)(x3:α3)(x4:α4),a=A x0 x1 x2 x3 x4/\F x0 x1 x2 x3 x4 W
end Go.Proofs.YtlhaghoajpglaaaGreat
namespace Go.Proofs.YtlhaghoajpglaaaGreat
open Go Go.RowKit Go.Maps
theorem WalkN.four {P:Program} {ops:Array Oper} {Q:Exit->Act->World->Prop} {S:World->Prop} {f:Nat} {l:Array Bool} {a:Act} {w:World} (i j m q:Nat)(hr:Region.ready .any ops l=[i,j,m,q])(h:MadeN P ops Q S f l a w i)(h':MadeN P ops Q S f l a w j)(h'':MadeN P ops Q S f l a w m)(h3:MadeN P ops Q S f l a w q):WalkN P ops Q S (f+1) l a w:=by
 refine .inr (.inr ⟨by rw[hr];simp,fun k hk=>?_⟩);rw[hr]at hk;have:k=i\/k=j\/k=m\/k=q:=by simpa using hk
 rcases this with rfl | rfl | rfl | rfl
 ·obtain⟨o,ho,hw,h⟩:=h;exact⟨o,ho,fun K hK=>by rw[if_pos hw];exact h K hK⟩
 ·obtain⟨o,ho,hw,h⟩:=h';exact⟨o,ho,fun K hK=>by rw[if_pos hw];exact h K hK⟩
 ·obtain⟨o,ho,hw,h⟩:=h'';exact⟨o,ho,fun K hK=>by rw[if_pos hw];exact h K hK⟩
 ·obtain⟨o,ho,hw,h⟩:=h3;exact⟨o,ho,fun K hK=>by rw[if_pos hw];exact h K hK⟩
theorem newRow' (n:Nat)(hn:n<=1000000) {lo:Nat} {wd w:World} (hl:lo<=wd.heap.size)(hE:Ext wd w)(e:TypeId)(z:Value):∃ g w',w.heap.size=g/\w.alloc (.cells (madeCells #[z] n) e)=w'/\Ext w w'/\Ext wd w'/\Own w' lo e 1 (.slice (some ⟨g,0,none⟩) n n) (List.replicate n z) :=
 ⟨_,_,rfl,rfl,Ext.alloc _ _,hE.trans (Ext.alloc _ _),by
  have hl:=Nat.le_trans hl hE.size;obtain⟨m,h1,h2⟩:=Own.made1 w n (by omega) e z;rcases h2 with⟨h2,_⟩ | ⟨g',cap,cur,hv,hbg,hg,hr⟩
  ·cases h2
  ·exact⟨m,h1,.inr ⟨g',cap,cur,hv,Nat.le_trans hl hbg,hg,hr⟩⟩⟩
theorem newBox' {wd w:World} (hE:Ext wd w)(cs:Array Value)(e:TypeId):∃ g w',w.heap.size=g/\w.alloc (.cells cs e)=w'/\Ext w w'/\Ext wd w'/\wd.heap.size<=g/\Blk w' g cs e:=⟨_,_,rfl,rfl,Ext.alloc _ _,hE.trans (Ext.alloc _ _),hE.size,Blk.made _ _ _⟩
theorem St11 {wd w:World} {g:Nat} (h:Ext wd w)(hg:wd.heap.size<=g)(u:Value):Ext wd (w.setCell ⟨g,0,none⟩ u):=Below.setCell h hg u
theorem makeS (n:Nat)(h:n<=1000000):∀ W,(Instr.makeSlice 257 (.int .i64 (n:Int)) (.int .i64 (n:Int))).run Tryz.prog W = .ok (.slice (some ⟨W.heap.size,0,none⟩) n n) (W.alloc (.cells (madeCells #[.slice none 0 0] n) 107)):=by
 intro W;obtain⟨i,hi,hzz⟩:=Option.map_eq_some_iff.1 (show(Tryz.prog.info? 107).map (fun i=>(i.zero,i.size,i.bytes))=some (some (.slice none 0 0),1,24)by kernel_rfl);simp only[Prod.mk.injEq]at hzz;obtain⟨hz,hs,hb⟩:=hzz;have:=run_make (P:=Tryz.prog) W 257 107 i (.slice none 0 0) Tryz.underlying257 hi hz .i64 .i64 n n (by omega) (by omega) (by rw[hb];omega) (by omega);rw[this,hs,Nat.mul_one];rfl
structure StE0 (lo n:Nat)(pv fv:Value)(s:P3)(wd w:World)(g3 g5 g7 g9 g10:Nat):Prop where
 ext:Ext wd w
 inn:Own w lo 4 1 (.slice (some ⟨g3,0,none⟩) n n) (List.replicate n (.bool false))
 rnd:Own w lo 3 1 (.slice (some ⟨g5,0,none⟩) n n) (List.replicate n (.int .i64 0))
 use:Own w lo 107 1 (.slice (some ⟨g7,0,none⟩) n n) (List.replicate n (.slice none 0 0))
 box:Blk w g9 #[pv,fv,.string s.t,.string s.i,.string s.r,.slice (some ⟨g3,0,none⟩) n n,.slice (some ⟨g5,0,none⟩) n n,.slice (some ⟨g7,0,none⟩) n n] 259
 ptr:Blk w g10 #[.pointer (some ⟨g9,0,none⟩)] 254
 low:wd.heap.size<=g9
theorem StE {lo n:Nat} {pv fv:Value} {s:P3} {wd w:World} {g3 g5 g7 g9 g10:Nat} (hE:Ext wd w)(hg:wd.heap.size<=g10)(hg9:wd.heap.size<=g9)
  (h3:Own w lo 4 1 (.slice (some ⟨g3,0,none⟩) n n) (List.replicate n (.bool false))) (h5:Own w lo 3 1 (.slice (some ⟨g5,0,none⟩) n n) (List.replicate n (.int .i64 0))) (h7:Own w lo 107 1 (.slice (some ⟨g7,0,none⟩) n n) (List.replicate n (.slice none 0 0)))
  (h9:Blk w g9 #[pv,fv,.string s.t,.string s.i,.string s.r,.slice (some ⟨g3,0,none⟩) n n,.slice (some ⟨g5,0,none⟩) n n,.slice (some ⟨g7,0,none⟩) n n] 259) (h10:Blk w g10 #[.pointer none] 254):StE0 lo n pv fv s wd (w.setCell ⟨g10,0,none⟩ (.pointer (some ⟨g9,0,none⟩))) g3 g5 g7 g9 g10:=by
 have key:∀ {e:TypeId} {v:Value} {xs:List Value},Own w lo e 1 v xs->e≠254->Own (w.setCell ⟨g10,0,none⟩ (.pointer (some ⟨g9,0,none⟩))) lo e 1 v xs:=fun h he=>h.keepOwn fun g hg=>Below.heap_setCell _ _ _ _ fun e2=>by
  obtain⟨cur,h2⟩:=h.typed hg;rw[show g=g10 from e2,show w.heap[g10]?=_ from h10]at h2;injection h2 with h2
  injection h2 with _ h2 _
  exact he h2.symm
 refine⟨Below.setCell hE hg _,key h3 (by decide),key h5 (by decide),key h7 (by decide),?_,h10.set_to 0 _ rfl,hg9⟩;refine(Below.heap_setCell _ _ _ _ fun e2=>?_).trans h9;have k9:w.heap[g9]?=_:=h9;have k10:w.heap[g10]?=_:=h10;rw[show g9=g10 from e2,k10]at k9;injection k9 with k9
 injection k9 with _ k9 _
 exact absurd k9 (by decide)
theorem UK.lessA {lo:Nat} {A A':Nat->Prop} {w w':World} (h:UK lo A' w w')(hA:∀ b,A b->A' b):UK lo A w w':=Kept.mono h fun b hb=>⟨hb.1,hb.2.imp id fun h=>h.imp (hA b) id⟩
theorem UK.below {lo:Nat} {A:Nat->Prop} {w w':World} (h:UK lo A w w')(hl:lo<=w.heap.size):Below lo w w':=Kept.below (B:=lo) h fun _b hb=>⟨Nat.lt_of_lt_of_le hb hl,.inl hb⟩
theorem UsAt.fewer {w:World} {lo ub n:Nat} {A A':Nat->Prop} {U:List (List Int)} {vs:List Value} (h:UsAt w lo ub n A U vs)(hA:∀ b,A' b->A b):UsAt w lo ub n A' U vs:=⟨h.arr,h.vlen,h.ulen,h.row,h.apart,fun k v g hv hg ha=>h.off k v g hv hg (hA g ha)⟩
theorem UsAt.avoid {w:World} {lo ub n:Nat} {A A':Nat->Prop} {U:List (List Int)} {vs:List Value} (h:UsAt w lo ub n A U vs)(hA:∀ b,A' b->A b\/w.heap.size<=b):UsAt w lo ub n A' U vs:=⟨h.arr,h.vlen,h.ulen,h.row,h.apart,fun k v g hv hg ha=>by
 rcases hA g ha with h1 | h1
 ·exact h.off k v g hv hg h1
 ·have:=((h.row k v hv).block g hg).2;omega⟩
theorem UsAt.start {w:World} {lo ub n:Nat} (A:Nat->Prop)(h:Own w lo 107 1 (.slice (some ⟨ub,0,none⟩) n n) (List.replicate n (.slice none 0 0))):UsAt w lo ub n A (List.replicate n []) (List.replicate n (.slice none 0 0)) where
 arr:=h
 vlen:=List.length_replicate
 ulen:=List.length_replicate
 row k v hv:=by
  rw[List.getElem?_replicate]at hv;split at hv
  ·obtain rfl:=Option.some.inj hv;rw[show(List.replicate n ([]:List Int)).getD k []=[]from by rw[List.getD_eq_getElem?_getD,List.getElem?_replicate];split <;> rfl];exact Own.nil _ _ _ _
  ·cases hv
 apart j k v u g _ hv _ hg:=by
  rw[List.getElem?_replicate]at hv;split at hv
  ·obtain rfl:=Option.some.inj hv;cases hg
  ·cases hv
 off k v g hv hg:=by
  rw[List.getElem?_replicate]at hv;split at hv
  ·obtain rfl:=Option.some.inj hv;cases hg
  ·cases hv
theorem sum_set:∀ (U:List (List Int))(k:Nat)(x:Int),k<U.length->((U.set k (U.getD k []++[x])).map List.length).sum=(U.map List.length).sum+1
 | a::U,0,x,_=>by simp;omega
 | a::U,k+1,x,h=>by
  have ih:=sum_set U k x (by simpa using h);simp only[List.set_cons_succ,List.map_cons,List.sum_cons,List.getD_cons_succ]at ih ⊢;omega
theorem len_sum:∀ (U:List (List Int))(k:Nat),(U.getD k []).length<=(U.map List.length).sum
 | [],k=>by simp
 | a::U,0=>by simp
 | a::U,k+1=>by
  have:=len_sum U k;simp only[List.map_cons,List.sum_cons,List.getD_cons_succ];omega
structure UsTo (fs:List FT)(n i:Nat)(ks:List Int)(U:List (List Int)):Prop where
 len:U.length=n
 mem:∀ k:Nat,k<n->∀ x:Int,x∈U.getD k []↔(∃ j:Nat,∃ hf:j<fs.length,j<i/\x=(j:Int)/\j<n/\(k:Int)∈fs[j].named)\/(x=(i:Int)/\i<n/\(k:Int)∈ks)
 sum:(U.map List.length).sum<=(nmdL (fs.take i)).length+ks.length
theorem UsTo.start (fs:List FT)(n:Nat):UsTo fs n 0 [] (List.replicate n []):=by
 have h:∀ k:Nat,(List.replicate n ([]:List Int)).getD k []=[]:=fun k=>by rw[List.getD_eq_getElem?_getD,List.getElem?_replicate];split <;> rfl
 exact⟨List.length_replicate,fun k hk x=>by rw[h];simp,by rw[List.map_replicate];simp⟩
theorem UsTo.note {fs:List FT} {n i:Nat} {ks:List Int} {U:List (List Int)} (h:UsTo fs n i ks U)(k:Int):UsTo fs n i (ks++[k]) (noteU n i k U):=by
 unfold noteU;split
 ·next hc =>
  obtain⟨h1,h2,h3⟩:=hc;refine⟨by rw[List.length_set];exact h.len,fun m hm x=>?_,?_⟩
  ·rw[getD_set,h.len];by_cases e:m=k.toNat
   ·have hk:(m:Int)=k:=by omega
    rw[if_pos ⟨e,by omega⟩,List.mem_append,List.mem_singleton,<- e,h.mem m hm x];simp only[List.mem_append,List.mem_singleton,hk,or_true,and_true];constructor
    ·rintro((h | h) | h)
     ·exact .inl h
     ·exact .inr ⟨h.1,h.2.1⟩
     ·exact .inr ⟨h,h1⟩
    ·rintro(h | h)
     ·exact .inl (.inl h)
     ·exact .inr h.1
   ·have hk:¬ (m:Int)=k:=by omega
    rw[if_neg fun h=>e h.1,h.mem m hm x];simp only[List.mem_append,List.mem_singleton,hk,or_false]
  ·rw[sum_set _ _ _ (by rw[h.len];omega)];have h4:=h.sum;simp only[List.length_append,List.length_singleton];omega
 ·next hc =>
  refine⟨h.len,fun m hm x=>?_,?_⟩
  ·rw[h.mem m hm x];constructor
   ·rintro(h | h)
    ·exact .inl h
    ·exact .inr ⟨h.1,h.2.1,List.mem_append_left _ h.2.2⟩
   ·rintro(h | ⟨h1,h2,h3⟩)
    ·exact .inl h
    ·rcases List.mem_append.1 h3 with h3 | h3
     ·exact .inr ⟨h1,h2,h3⟩
     ·have:=List.mem_singleton.1 h3;exact absurd ⟨h2,by omega,by omega⟩ hc
  ·have h5:=h.sum;simp only[List.length_append,List.length_singleton];omega
theorem UsTo.next {fs:List FT} {n i:Nat} {U:List (List Int)} (hi:i<fs.length)(h:UsTo fs n i fs[i].named U):UsTo fs n (i+1) [] U:=by
 refine⟨h.len,fun m hm x=>?_,?_⟩
 ·rw[h.mem m hm x];constructor
  ·rintro(⟨j,hf,h1,h2⟩ | ⟨h1,h2,h3⟩)
   ·exact .inl ⟨j,hf,by omega,h2⟩
   ·exact .inl ⟨i,hi,by omega,h1,h2,h3⟩
  ·rintro(⟨j,hf,h1,h2,h3,h4⟩ | ⟨_,_,h⟩)
   ·by_cases e:j=i
    ·subst e;exact .inr ⟨h2,h3,h4⟩
    ·exact .inl ⟨j,hf,by omega,h2,h3,h4⟩
   ·cases h
 ·rw[nmdL_take hi,List.length_append];have:=h.sum;simp only[List.length_nil];omega
theorem UsTo.done {fs:List FT} {n:Nat} {U:List (List Int)} (h:UsTo fs n fs.length [] U):UsOf fs n U:=fun k hk x=>by
 rw[h.mem k hk x];constructor
 ·rintro(⟨j,hf,_,h1,h2,h3⟩ | ⟨_,_,h⟩)
  ·exact⟨j,hf,h1,h2,h3⟩
  ·cases h
 ·rintro⟨j,hf,h1,h2,h3⟩;exact .inl ⟨j,hf,hf,h1,h2,h3⟩
structure StAt (w:World)(lo sp gi gr ub n:Nat)(pv fv:Value)(s:P3)(L:List Bool)(R:List Int)(U:List (List Int))(vs:List Value):Prop where
 box:Blk w sp #[pv,fv,.string s.t,.string s.i,.string s.r,.slice (some ⟨gi,0,none⟩) n n,.slice (some ⟨gr,0,none⟩) n n,.slice (some ⟨ub,0,none⟩) n n] 259
 inn:Own w lo 4 1 (.slice (some ⟨gi,0,none⟩) n n) (boC L)
 rnd:Own w lo 3 1 (.slice (some ⟨gr,0,none⟩) n n) (ic R)
 use:UsAt w lo ub n (fun b=>b=gr) U vs
theorem start_any (s:P3)(ps:List P3)(fs:List FT)(pv fv:Value)(w:World)(h:GrAt (· < w.heap.size) w ps fs pv fv)(hnm:ps.length<=1000000)(hfm:fs.length<=1000000)(hnn:(nmdL fs).length<=1000000000000) :
  Calls Tryz.prog 153 #[.agg #[pv,fv],pV s] w fun e w'=>(∃ sp gi gr ub U vs,e = .returned (.pointer (some ⟨sp,0,none⟩))/\w.heap.size<=sp/\StAt w' w.heap.size sp gi gr ub ps.length pv fv s (inN fs s ps.length 0) (outN fs s ps.length 0) U vs/\UsTo fs ps.length fs.length [] U)/\Below w.heap.size w w':=by
 have H0:=h! h;obtain⟨ap,cp,af,cf,e1,e2,-,-,-,-,-⟩:=h.rows;have HNM:=h! hnm;have HFM:=h! hfm;have HNN:=h! hnn;have hmI:=makeI ps.length (by omega);have hmB:=makeB ps.length (by omega);have hmS:=makeS ps.length (by omega);clear h hnm hfm hnn;generalize hn:ps.length=n at *;unfold pV;obtain⟨wa,hwa⟩:∃ x,x=w.alloc (.cells #[pv,fv] 96):=⟨_,rfl⟩;obtain⟨wb,hwb⟩:∃ x,x=wa.alloc (.cells #[.string s.t,.string s.i,.string s.r] 33):=⟨_,rfl⟩;obtain⟨wc,hwc⟩:∃ x,x=wb.alloc (.cells #[.int .i64 (n:Int)] 3):=⟨_,rfl⟩;have ea:wa.heap.size=w.heap.size+1:=by rw[hwa];simp
 have eb:wb.heap.size=w.heap.size+1+1:=by rw[hwb];simp[ea]
 have ec:wc.heap.size=w.heap.size+1+1+1:=by rw[hwc];simp[eb]
 have xa:Ext w wa:=by rw[hwa];exact Ext.alloc _ _
 have xb:Ext wa wb:=by rw[hwb];exact Ext.alloc _ _
 have xc:Ext wb wc:=by rw[hwc];exact Ext.alloc _ _
 have XC:=h! (show Ext w wc from xa.trans (xb.trans xc));have BG:=h! (show Blk wc w.heap.size #[pv,fv] 96 from Blk.below (by rw[hwa];exact Blk.made _ _ _) (xb.trans xc));have BS:=h! (show Blk wc (w.heap.size+1) #[.string s.t,.string s.i,.string s.r] 33 from Blk.below (by rw[hwb,<- ea];exact Blk.made _ _ _) xc);have BN:=h! (show Blk wc (w.heap.size+1+1) #[.int .i64 (n:Int)] 3 from by rw[hwc,<- eb];exact Blk.made _ _ _);have EC:=h! ec;have hA:=(show Blk wb w.heap.size #[pv,fv] 96 from Blk.below (by rw[hwa];exact Blk.made _ _ _) xb).cells;clear ea eb ec xa xb xc;rw[hwb,hwa]at hA;subst e1 e2;go_enter Tryz.func153,Tryz.ntmps153
 go_wp2_with fail
 rw[<- hwa,<- hwb,<- hwc];clear hA hwa hwb hwc;obtain⟨lo,hlo⟩:∃ y,Hid (y=w.heap.size):=⟨_,h! rfl⟩;obtain⟨pv,hpv⟩:∃ y,Hid (y=Value.slice ap n cp):=⟨_,h! rfl⟩;obtain⟨fv,hfv⟩:∃ y,Hid (y=Value.slice af fs.length cf):=⟨_,h! rfl⟩;obtain⟨wd,hwd⟩:∃ wd,Hid (wd=wc.drew):=⟨_,h! rfl⟩;have hxd:=h! (show Ext wc wd from by rw[hwd.out];exact Ext.drew _);have HLD:=h! (show lo<=wd.heap.size from by rw[hlo.out];exact Nat.le_trans XC.out.size hxd.out.size);apply Code.wp_mono (Q:=J5 (fun(g3 g5 g7 g9 g10:Nat) W=>StE0 lo n pv fv s wd W g3 g5 g7 g9 g10) _) ?rest ?reg
 case reg =>
  have hE:Ext wd wd:=Ext.refl wd;refine region_walkN (Ext wd) (by rw[<- hwd.out];exact Ext.refl _) (by kernel_rfl) (by kernel_rfl) (fun _ _ d _ _ h=>by cases h.1) ?_;rw[<- hwd.out];have h1:=fun W (h:Ext wd W)=>(BG.out.below (hxd.out.trans h)).cells;have h2:=fun W (h:Ext wd W)=>(BS.out.below (hxd.out.trans h)).cells;have h3:=fun W (h:Ext wd W)=>(BN.out.below (hxd.out.trans h)).cells;rw[<- hpv.out,<- hfv.out]at h1;(refine WalkN.tk [0,1,2,4,6] ?_;(iterate 5 (refine c! ?_));refine TkN.n ?_)
  clear h1 h2 h3;have N3:=h! (fun W (hE:Ext wd W)=>newRow' n HNM.out HLD.out hE 4 (.bool false));have N5:=h! (fun W (hE:Ext wd W)=>newRow' n HNM.out HLD.out hE 3 (.int .i64 0));have N7:=h! (fun W (hE:Ext wd W)=>newRow' n HNM.out HLD.out hE 107 (.slice none 0 0));have N10:=h! (fun W (hE:Ext wd W)=>newBox' hE #[.pointer none] 254);have N9:=h! (fun g3 g5 g7 W (hE:Ext wd W)=>newBox' hE #[pv,fv,.string s.t,.string s.i,.string s.r,.slice (some ⟨g3,0,none⟩) n n,.slice (some ⟨g5,0,none⟩) n n,.slice (some ⟨g7,0,none⟩) n n] 259);refine WalkN.four 3 5 7 10 (by kernel_rfl) ?_ ?_ ?_ ?_;refine b! ?_;intro K hK;go_simp;obtain⟨g3,u1,e1,e2,hx,hE,H3⟩:=N3.out _ hE;rw[e2,e1];refine hK.out _ _ hE ?_;clear hK e1 e2;clear hx;refine WalkN.three 5 7 10 (by kernel_rfl) ?_ ?_ ?_;refine b! ?_;intro K hK;go_simp;obtain⟨g5,u2,e1,e2,hx,hE,H5⟩:=N5.out _ hE;rw[e2,e1];refine hK.out _ _ hE ?_;clear hK e1 e2;have H3:=H3.below hx;clear hx;refine p! 7 10 ?_ ?_;refine b! ?_;intro K hK;go_simp;obtain⟨g7,u3,e1,e2,hx,hE,H7⟩:=N7.out _ hE;rw[e2,e1];refine hK.out _ _ hE ?_;clear hK e1 e2;have H3:=H3.below hx;have H5:=H5.below hx;clear hx;refine t! 8 ?_
  refine p! 9 10 ?_ ?_;refine b! ?_;intro K hK;go_simp;obtain⟨g9,u4,e1,e2,hx,hE,HL9,H9⟩:=N9.out g3 g5 g7 _ hE;rw[e2,e1];refine hK.out _ _ hE ?_;clear hK e1 e2;have H3:=H3.below hx;have H5:=H5.below hx;have H7:=H7.below hx;clear hx;refine o! 10 ?_;refine b! ?_;intro K hK;go_simp;obtain⟨g10,u5,e1,e2,hx,hE,HL10,H10⟩:=N10.out _ hE;rw[e2,e1];refine hK.out _ _ hE ?_;clear hK e1 e2;have H3:=H3.below hx;have H5:=H5.below hx;have H7:=H7.below hx;have H9:=H9.below hx;clear hx;rotate_left
  refine b! ?_;intro K hK;go_simp;obtain⟨g10,u4,e1,e2,hx,hE,HL10,H10⟩:=N10.out _ hE;rw[e2,e1];refine hK.out _ _ hE ?_;clear hK e1 e2;have H3:=H3.below hx;have H5:=H5.below hx;have H7:=H7.below hx;clear hx;refine o! 9 ?_;refine b! ?_;intro K hK;go_simp;obtain⟨g9,u5,e1,e2,hx,hE,HL9,H9⟩:=N9.out g3 g5 g7 _ hE;rw[e2,e1];refine hK.out _ _ hE ?_;clear hK e1 e2;have H3:=H3.below hx;have H5:=H5.below hx;have H7:=H7.below hx;have H10:=H10.below hx;clear hx;rotate_left
  refine b! ?_;intro K hK;go_simp;obtain⟨g10,u3,e1,e2,hx,hE,HL10,H10⟩:=N10.out _ hE;rw[e2,e1];refine hK.out _ _ hE ?_;clear hK e1 e2;have H3:=H3.below hx;have H5:=H5.below hx;clear hx;refine o! 7 ?_;refine b! ?_;intro K hK;go_simp;obtain⟨g7,u4,e1,e2,hx,hE,H7⟩:=N7.out _ hE;rw[e2,e1];refine hK.out _ _ hE ?_;clear hK e1 e2;have H3:=H3.below hx;have H5:=H5.below hx;have H10:=H10.below hx;clear hx;refine t! 8 ?_
  refine o! 9 ?_;refine b! ?_;intro K hK;go_simp;obtain⟨g9,u5,e1,e2,hx,hE,HL9,H9⟩:=N9.out g3 g5 g7 _ hE;rw[e2,e1];refine hK.out _ _ hE ?_;clear hK e1 e2;have H3:=H3.below hx;have H5:=H5.below hx;have H7:=H7.below hx;have H10:=H10.below hx;clear hx;rotate_left
  refine b! ?_;intro K hK;go_simp;obtain⟨g7,u2,e1,e2,hx,hE,H7⟩:=N7.out _ hE;rw[e2,e1];refine hK.out _ _ hE ?_;clear hK e1 e2;have H3:=H3.below hx;clear hx;refine p! 5 10 ?_ ?_;refine b! ?_;intro K hK;go_simp;obtain⟨g5,u3,e1,e2,hx,hE,H5⟩:=N5.out _ hE;rw[e2,e1];refine hK.out _ _ hE ?_;clear hK e1 e2;have H3:=H3.below hx;have H7:=H7.below hx;clear hx;refine t! 8 ?_
  refine p! 9 10 ?_ ?_;refine b! ?_;intro K hK;go_simp;obtain⟨g9,u4,e1,e2,hx,hE,HL9,H9⟩:=N9.out g3 g5 g7 _ hE;rw[e2,e1];refine hK.out _ _ hE ?_;clear hK e1 e2;have H3:=H3.below hx;have H5:=H5.below hx;have H7:=H7.below hx;clear hx;refine o! 10 ?_;refine b! ?_;intro K hK;go_simp;obtain⟨g10,u5,e1,e2,hx,hE,HL10,H10⟩:=N10.out _ hE;rw[e2,e1];refine hK.out _ _ hE ?_;clear hK e1 e2;have H3:=H3.below hx;have H5:=H5.below hx;have H7:=H7.below hx;have H9:=H9.below hx;clear hx;rotate_left
  refine b! ?_;intro K hK;go_simp;obtain⟨g10,u4,e1,e2,hx,hE,HL10,H10⟩:=N10.out _ hE;rw[e2,e1];refine hK.out _ _ hE ?_;clear hK e1 e2;have H3:=H3.below hx;have H5:=H5.below hx;have H7:=H7.below hx;clear hx;refine o! 9 ?_;refine b! ?_;intro K hK;go_simp;obtain⟨g9,u5,e1,e2,hx,hE,HL9,H9⟩:=N9.out g3 g5 g7 _ hE;rw[e2,e1];refine hK.out _ _ hE ?_;clear hK e1 e2;have H3:=H3.below hx;have H5:=H5.below hx;have H7:=H7.below hx;have H10:=H10.below hx;clear hx;rotate_left
  refine b! ?_;intro K hK;go_simp;obtain⟨g10,u3,e1,e2,hx,hE,HL10,H10⟩:=N10.out _ hE;rw[e2,e1];refine hK.out _ _ hE ?_;clear hK e1 e2;have H3:=H3.below hx;have H7:=H7.below hx;clear hx;refine o! 5 ?_;refine b! ?_;intro K hK;go_simp;obtain⟨g5,u4,e1,e2,hx,hE,H5⟩:=N5.out _ hE;rw[e2,e1];refine hK.out _ _ hE ?_;clear hK e1 e2;have H3:=H3.below hx;have H7:=H7.below hx;have H10:=H10.below hx;clear hx;refine t! 8 ?_
  refine o! 9 ?_;refine b! ?_;intro K hK;go_simp;obtain⟨g9,u5,e1,e2,hx,hE,HL9,H9⟩:=N9.out g3 g5 g7 _ hE;rw[e2,e1];refine hK.out _ _ hE ?_;clear hK e1 e2;have H3:=H3.below hx;have H5:=H5.below hx;have H7:=H7.below hx;have H10:=H10.below hx;clear hx;rotate_left
  refine b! ?_;intro K hK;go_simp;obtain⟨g10,u2,e1,e2,hx,hE,HL10,H10⟩:=N10.out _ hE;rw[e2,e1];refine hK.out _ _ hE ?_;clear hK e1 e2;have H3:=H3.below hx;clear hx;refine p! 5 7 ?_ ?_;refine b! ?_;intro K hK;go_simp;obtain⟨g5,u3,e1,e2,hx,hE,H5⟩:=N5.out _ hE;rw[e2,e1];refine hK.out _ _ hE ?_;clear hK e1 e2;have H3:=H3.below hx;have H10:=H10.below hx;clear hx;refine o! 7 ?_;refine b! ?_;intro K hK;go_simp;obtain⟨g7,u4,e1,e2,hx,hE,H7⟩:=N7.out _ hE;rw[e2,e1];refine hK.out _ _ hE ?_;clear hK e1 e2;have H3:=H3.below hx;have H5:=H5.below hx;have H10:=H10.below hx;clear hx;refine t! 8 ?_
  refine o! 9 ?_;refine b! ?_;intro K hK;go_simp;obtain⟨g9,u5,e1,e2,hx,hE,HL9,H9⟩:=N9.out g3 g5 g7 _ hE;rw[e2,e1];refine hK.out _ _ hE ?_;clear hK e1 e2;have H3:=H3.below hx;have H5:=H5.below hx;have H7:=H7.below hx;have H10:=H10.below hx;clear hx;rotate_left
  refine b! ?_;intro K hK;go_simp;obtain⟨g7,u3,e1,e2,hx,hE,H7⟩:=N7.out _ hE;rw[e2,e1];refine hK.out _ _ hE ?_;clear hK e1 e2;have H3:=H3.below hx;have H10:=H10.below hx;clear hx;refine o! 5 ?_;refine b! ?_;intro K hK;go_simp;obtain⟨g5,u4,e1,e2,hx,hE,H5⟩:=N5.out _ hE;rw[e2,e1];refine hK.out _ _ hE ?_;clear hK e1 e2;have H3:=H3.below hx;have H7:=H7.below hx;have H10:=H10.below hx;clear hx;refine t! 8 ?_
  refine o! 9 ?_;refine b! ?_;intro K hK;go_simp;obtain⟨g9,u5,e1,e2,hx,hE,HL9,H9⟩:=N9.out g3 g5 g7 _ hE;rw[e2,e1];refine hK.out _ _ hE ?_;clear hK e1 e2;have H3:=H3.below hx;have H5:=H5.below hx;have H7:=H7.below hx;have H10:=H10.below hx;clear hx;rotate_left
  refine b! ?_;intro K hK;go_simp;obtain⟨g5,u1,e1,e2,hx,hE,H5⟩:=N5.out _ hE;rw[e2,e1];refine hK.out _ _ hE ?_;clear hK e1 e2;clear hx;refine WalkN.three 3 7 10 (by kernel_rfl) ?_ ?_ ?_;refine b! ?_;intro K hK;go_simp;obtain⟨g3,u2,e1,e2,hx,hE,H3⟩:=N3.out _ hE;rw[e2,e1];refine hK.out _ _ hE ?_;clear hK e1 e2;have H5:=H5.below hx;clear hx;refine p! 7 10 ?_ ?_;refine b! ?_;intro K hK;go_simp;obtain⟨g7,u3,e1,e2,hx,hE,H7⟩:=N7.out _ hE;rw[e2,e1];refine hK.out _ _ hE ?_;clear hK e1 e2;have H3:=H3.below hx;have H5:=H5.below hx;clear hx;refine t! 8 ?_
  refine p! 9 10 ?_ ?_;refine b! ?_;intro K hK;go_simp;obtain⟨g9,u4,e1,e2,hx,hE,HL9,H9⟩:=N9.out g3 g5 g7 _ hE;rw[e2,e1];refine hK.out _ _ hE ?_;clear hK e1 e2;have H3:=H3.below hx;have H5:=H5.below hx;have H7:=H7.below hx;clear hx;refine o! 10 ?_;refine b! ?_;intro K hK;go_simp;obtain⟨g10,u5,e1,e2,hx,hE,HL10,H10⟩:=N10.out _ hE;rw[e2,e1];refine hK.out _ _ hE ?_;clear hK e1 e2;have H3:=H3.below hx;have H5:=H5.below hx;have H7:=H7.below hx;have H9:=H9.below hx;clear hx;rotate_left
  refine b! ?_;intro K hK;go_simp;obtain⟨g10,u4,e1,e2,hx,hE,HL10,H10⟩:=N10.out _ hE;rw[e2,e1];refine hK.out _ _ hE ?_;clear hK e1 e2;have H3:=H3.below hx;have H5:=H5.below hx;have H7:=H7.below hx;clear hx;refine o! 9 ?_;refine b! ?_;intro K hK;go_simp;obtain⟨g9,u5,e1,e2,hx,hE,HL9,H9⟩:=N9.out g3 g5 g7 _ hE;rw[e2,e1];refine hK.out _ _ hE ?_;clear hK e1 e2;have H3:=H3.below hx;have H5:=H5.below hx;have H7:=H7.below hx;have H10:=H10.below hx;clear hx;rotate_left
  refine b! ?_;intro K hK;go_simp;obtain⟨g10,u3,e1,e2,hx,hE,HL10,H10⟩:=N10.out _ hE;rw[e2,e1];refine hK.out _ _ hE ?_;clear hK e1 e2;have H3:=H3.below hx;have H5:=H5.below hx;clear hx;refine o! 7 ?_;refine b! ?_;intro K hK;go_simp;obtain⟨g7,u4,e1,e2,hx,hE,H7⟩:=N7.out _ hE;rw[e2,e1];refine hK.out _ _ hE ?_;clear hK e1 e2;have H3:=H3.below hx;have H5:=H5.below hx;have H10:=H10.below hx;clear hx;refine t! 8 ?_
  refine o! 9 ?_;refine b! ?_;intro K hK;go_simp;obtain⟨g9,u5,e1,e2,hx,hE,HL9,H9⟩:=N9.out g3 g5 g7 _ hE;rw[e2,e1];refine hK.out _ _ hE ?_;clear hK e1 e2;have H3:=H3.below hx;have H5:=H5.below hx;have H7:=H7.below hx;have H10:=H10.below hx;clear hx;rotate_left
  refine b! ?_;intro K hK;go_simp;obtain⟨g7,u2,e1,e2,hx,hE,H7⟩:=N7.out _ hE;rw[e2,e1];refine hK.out _ _ hE ?_;clear hK e1 e2;have H5:=H5.below hx;clear hx;refine p! 3 10 ?_ ?_;refine b! ?_;intro K hK;go_simp;obtain⟨g3,u3,e1,e2,hx,hE,H3⟩:=N3.out _ hE;rw[e2,e1];refine hK.out _ _ hE ?_;clear hK e1 e2;have H5:=H5.below hx;have H7:=H7.below hx;clear hx;refine t! 8 ?_
  refine p! 9 10 ?_ ?_;refine b! ?_;intro K hK;go_simp;obtain⟨g9,u4,e1,e2,hx,hE,HL9,H9⟩:=N9.out g3 g5 g7 _ hE;rw[e2,e1];refine hK.out _ _ hE ?_;clear hK e1 e2;have H3:=H3.below hx;have H5:=H5.below hx;have H7:=H7.below hx;clear hx;refine o! 10 ?_;refine b! ?_;intro K hK;go_simp;obtain⟨g10,u5,e1,e2,hx,hE,HL10,H10⟩:=N10.out _ hE;rw[e2,e1];refine hK.out _ _ hE ?_;clear hK e1 e2;have H3:=H3.below hx;have H5:=H5.below hx;have H7:=H7.below hx;have H9:=H9.below hx;clear hx;rotate_left
  refine b! ?_;intro K hK;go_simp;obtain⟨g10,u4,e1,e2,hx,hE,HL10,H10⟩:=N10.out _ hE;rw[e2,e1];refine hK.out _ _ hE ?_;clear hK e1 e2;have H3:=H3.below hx;have H5:=H5.below hx;have H7:=H7.below hx;clear hx;refine o! 9 ?_;refine b! ?_;intro K hK;go_simp;obtain⟨g9,u5,e1,e2,hx,hE,HL9,H9⟩:=N9.out g3 g5 g7 _ hE;rw[e2,e1];refine hK.out _ _ hE ?_;clear hK e1 e2;have H3:=H3.below hx;have H5:=H5.below hx;have H7:=H7.below hx;have H10:=H10.below hx;clear hx;rotate_left
  refine b! ?_;intro K hK;go_simp;obtain⟨g10,u3,e1,e2,hx,hE,HL10,H10⟩:=N10.out _ hE;rw[e2,e1];refine hK.out _ _ hE ?_;clear hK e1 e2;have H5:=H5.below hx;have H7:=H7.below hx;clear hx;refine o! 3 ?_;refine b! ?_;intro K hK;go_simp;obtain⟨g3,u4,e1,e2,hx,hE,H3⟩:=N3.out _ hE;rw[e2,e1];refine hK.out _ _ hE ?_;clear hK e1 e2;have H5:=H5.below hx;have H7:=H7.below hx;have H10:=H10.below hx;clear hx;refine t! 8 ?_
  refine o! 9 ?_;refine b! ?_;intro K hK;go_simp;obtain⟨g9,u5,e1,e2,hx,hE,HL9,H9⟩:=N9.out g3 g5 g7 _ hE;rw[e2,e1];refine hK.out _ _ hE ?_;clear hK e1 e2;have H3:=H3.below hx;have H5:=H5.below hx;have H7:=H7.below hx;have H10:=H10.below hx;clear hx;rotate_left
  refine b! ?_;intro K hK;go_simp;obtain⟨g10,u2,e1,e2,hx,hE,HL10,H10⟩:=N10.out _ hE;rw[e2,e1];refine hK.out _ _ hE ?_;clear hK e1 e2;have H5:=H5.below hx;clear hx;refine p! 3 7 ?_ ?_;refine b! ?_;intro K hK;go_simp;obtain⟨g3,u3,e1,e2,hx,hE,H3⟩:=N3.out _ hE;rw[e2,e1];refine hK.out _ _ hE ?_;clear hK e1 e2;have H5:=H5.below hx;have H10:=H10.below hx;clear hx;refine o! 7 ?_;refine b! ?_;intro K hK;go_simp;obtain⟨g7,u4,e1,e2,hx,hE,H7⟩:=N7.out _ hE;rw[e2,e1];refine hK.out _ _ hE ?_;clear hK e1 e2;have H3:=H3.below hx;have H5:=H5.below hx;have H10:=H10.below hx;clear hx;refine t! 8 ?_
  refine o! 9 ?_;refine b! ?_;intro K hK;go_simp;obtain⟨g9,u5,e1,e2,hx,hE,HL9,H9⟩:=N9.out g3 g5 g7 _ hE;rw[e2,e1];refine hK.out _ _ hE ?_;clear hK e1 e2;have H3:=H3.below hx;have H5:=H5.below hx;have H7:=H7.below hx;have H10:=H10.below hx;clear hx;rotate_left
  refine b! ?_;intro K hK;go_simp;obtain⟨g7,u3,e1,e2,hx,hE,H7⟩:=N7.out _ hE;rw[e2,e1];refine hK.out _ _ hE ?_;clear hK e1 e2;have H5:=H5.below hx;have H10:=H10.below hx;clear hx;refine o! 3 ?_;refine b! ?_;intro K hK;go_simp;obtain⟨g3,u4,e1,e2,hx,hE,H3⟩:=N3.out _ hE;rw[e2,e1];refine hK.out _ _ hE ?_;clear hK e1 e2;have H5:=H5.below hx;have H7:=H7.below hx;have H10:=H10.below hx;clear hx;refine t! 8 ?_
  refine o! 9 ?_;refine b! ?_;intro K hK;go_simp;obtain⟨g9,u5,e1,e2,hx,hE,HL9,H9⟩:=N9.out g3 g5 g7 _ hE;rw[e2,e1];refine hK.out _ _ hE ?_;clear hK e1 e2;have H3:=H3.below hx;have H5:=H5.below hx;have H7:=H7.below hx;have H10:=H10.below hx;clear hx;rotate_left
  refine b! ?_;intro K hK;go_simp;obtain⟨g7,u1,e1,e2,hx,hE,H7⟩:=N7.out _ hE;rw[e2,e1];refine hK.out _ _ hE ?_;clear hK e1 e2;clear hx;refine WalkN.three 3 5 10 (by kernel_rfl) ?_ ?_ ?_;refine b! ?_;intro K hK;go_simp;obtain⟨g3,u2,e1,e2,hx,hE,H3⟩:=N3.out _ hE;rw[e2,e1];refine hK.out _ _ hE ?_;clear hK e1 e2;have H7:=H7.below hx;clear hx;refine p! 5 10 ?_ ?_;refine b! ?_;intro K hK;go_simp;obtain⟨g5,u3,e1,e2,hx,hE,H5⟩:=N5.out _ hE;rw[e2,e1];refine hK.out _ _ hE ?_;clear hK e1 e2;have H3:=H3.below hx;have H7:=H7.below hx;clear hx;refine t! 8 ?_
  refine p! 9 10 ?_ ?_;refine b! ?_;intro K hK;go_simp;obtain⟨g9,u4,e1,e2,hx,hE,HL9,H9⟩:=N9.out g3 g5 g7 _ hE;rw[e2,e1];refine hK.out _ _ hE ?_;clear hK e1 e2;have H3:=H3.below hx;have H5:=H5.below hx;have H7:=H7.below hx;clear hx;refine o! 10 ?_;refine b! ?_;intro K hK;go_simp;obtain⟨g10,u5,e1,e2,hx,hE,HL10,H10⟩:=N10.out _ hE;rw[e2,e1];refine hK.out _ _ hE ?_;clear hK e1 e2;have H3:=H3.below hx;have H5:=H5.below hx;have H7:=H7.below hx;have H9:=H9.below hx;clear hx;rotate_left
  refine b! ?_;intro K hK;go_simp;obtain⟨g10,u4,e1,e2,hx,hE,HL10,H10⟩:=N10.out _ hE;rw[e2,e1];refine hK.out _ _ hE ?_;clear hK e1 e2;have H3:=H3.below hx;have H5:=H5.below hx;have H7:=H7.below hx;clear hx;refine o! 9 ?_;refine b! ?_;intro K hK;go_simp;obtain⟨g9,u5,e1,e2,hx,hE,HL9,H9⟩:=N9.out g3 g5 g7 _ hE;rw[e2,e1];refine hK.out _ _ hE ?_;clear hK e1 e2;have H3:=H3.below hx;have H5:=H5.below hx;have H7:=H7.below hx;have H10:=H10.below hx;clear hx;rotate_left
  refine b! ?_;intro K hK;go_simp;obtain⟨g10,u3,e1,e2,hx,hE,HL10,H10⟩:=N10.out _ hE;rw[e2,e1];refine hK.out _ _ hE ?_;clear hK e1 e2;have H3:=H3.below hx;have H7:=H7.below hx;clear hx;refine o! 5 ?_;refine b! ?_;intro K hK;go_simp;obtain⟨g5,u4,e1,e2,hx,hE,H5⟩:=N5.out _ hE;rw[e2,e1];refine hK.out _ _ hE ?_;clear hK e1 e2;have H3:=H3.below hx;have H7:=H7.below hx;have H10:=H10.below hx;clear hx;refine t! 8 ?_
  refine o! 9 ?_;refine b! ?_;intro K hK;go_simp;obtain⟨g9,u5,e1,e2,hx,hE,HL9,H9⟩:=N9.out g3 g5 g7 _ hE;rw[e2,e1];refine hK.out _ _ hE ?_;clear hK e1 e2;have H3:=H3.below hx;have H5:=H5.below hx;have H7:=H7.below hx;have H10:=H10.below hx;clear hx;rotate_left
  refine b! ?_;intro K hK;go_simp;obtain⟨g5,u2,e1,e2,hx,hE,H5⟩:=N5.out _ hE;rw[e2,e1];refine hK.out _ _ hE ?_;clear hK e1 e2;have H7:=H7.below hx;clear hx;refine p! 3 10 ?_ ?_;refine b! ?_;intro K hK;go_simp;obtain⟨g3,u3,e1,e2,hx,hE,H3⟩:=N3.out _ hE;rw[e2,e1];refine hK.out _ _ hE ?_;clear hK e1 e2;have H5:=H5.below hx;have H7:=H7.below hx;clear hx;refine t! 8 ?_
  refine p! 9 10 ?_ ?_;refine b! ?_;intro K hK;go_simp;obtain⟨g9,u4,e1,e2,hx,hE,HL9,H9⟩:=N9.out g3 g5 g7 _ hE;rw[e2,e1];refine hK.out _ _ hE ?_;clear hK e1 e2;have H3:=H3.below hx;have H5:=H5.below hx;have H7:=H7.below hx;clear hx;refine o! 10 ?_;refine b! ?_;intro K hK;go_simp;obtain⟨g10,u5,e1,e2,hx,hE,HL10,H10⟩:=N10.out _ hE;rw[e2,e1];refine hK.out _ _ hE ?_;clear hK e1 e2;have H3:=H3.below hx;have H5:=H5.below hx;have H7:=H7.below hx;have H9:=H9.below hx;clear hx;rotate_left
  refine b! ?_;intro K hK;go_simp;obtain⟨g10,u4,e1,e2,hx,hE,HL10,H10⟩:=N10.out _ hE;rw[e2,e1];refine hK.out _ _ hE ?_;clear hK e1 e2;have H3:=H3.below hx;have H5:=H5.below hx;have H7:=H7.below hx;clear hx;refine o! 9 ?_;refine b! ?_;intro K hK;go_simp;obtain⟨g9,u5,e1,e2,hx,hE,HL9,H9⟩:=N9.out g3 g5 g7 _ hE;rw[e2,e1];refine hK.out _ _ hE ?_;clear hK e1 e2;have H3:=H3.below hx;have H5:=H5.below hx;have H7:=H7.below hx;have H10:=H10.below hx;clear hx;rotate_left
  refine b! ?_;intro K hK;go_simp;obtain⟨g10,u3,e1,e2,hx,hE,HL10,H10⟩:=N10.out _ hE;rw[e2,e1];refine hK.out _ _ hE ?_;clear hK e1 e2;have H5:=H5.below hx;have H7:=H7.below hx;clear hx;refine o! 3 ?_;refine b! ?_;intro K hK;go_simp;obtain⟨g3,u4,e1,e2,hx,hE,H3⟩:=N3.out _ hE;rw[e2,e1];refine hK.out _ _ hE ?_;clear hK e1 e2;have H5:=H5.below hx;have H7:=H7.below hx;have H10:=H10.below hx;clear hx;refine t! 8 ?_
  refine o! 9 ?_;refine b! ?_;intro K hK;go_simp;obtain⟨g9,u5,e1,e2,hx,hE,HL9,H9⟩:=N9.out g3 g5 g7 _ hE;rw[e2,e1];refine hK.out _ _ hE ?_;clear hK e1 e2;have H3:=H3.below hx;have H5:=H5.below hx;have H7:=H7.below hx;have H10:=H10.below hx;clear hx;rotate_left
  refine b! ?_;intro K hK;go_simp;obtain⟨g10,u2,e1,e2,hx,hE,HL10,H10⟩:=N10.out _ hE;rw[e2,e1];refine hK.out _ _ hE ?_;clear hK e1 e2;have H7:=H7.below hx;clear hx;refine p! 3 5 ?_ ?_;refine b! ?_;intro K hK;go_simp;obtain⟨g3,u3,e1,e2,hx,hE,H3⟩:=N3.out _ hE;rw[e2,e1];refine hK.out _ _ hE ?_;clear hK e1 e2;have H7:=H7.below hx;have H10:=H10.below hx;clear hx;refine o! 5 ?_;refine b! ?_;intro K hK;go_simp;obtain⟨g5,u4,e1,e2,hx,hE,H5⟩:=N5.out _ hE;rw[e2,e1];refine hK.out _ _ hE ?_;clear hK e1 e2;have H3:=H3.below hx;have H7:=H7.below hx;have H10:=H10.below hx;clear hx;refine t! 8 ?_
  refine o! 9 ?_;refine b! ?_;intro K hK;go_simp;obtain⟨g9,u5,e1,e2,hx,hE,HL9,H9⟩:=N9.out g3 g5 g7 _ hE;rw[e2,e1];refine hK.out _ _ hE ?_;clear hK e1 e2;have H3:=H3.below hx;have H5:=H5.below hx;have H7:=H7.below hx;have H10:=H10.below hx;clear hx;rotate_left
  refine b! ?_;intro K hK;go_simp;obtain⟨g5,u3,e1,e2,hx,hE,H5⟩:=N5.out _ hE;rw[e2,e1];refine hK.out _ _ hE ?_;clear hK e1 e2;have H7:=H7.below hx;have H10:=H10.below hx;clear hx;refine o! 3 ?_;refine b! ?_;intro K hK;go_simp;obtain⟨g3,u4,e1,e2,hx,hE,H3⟩:=N3.out _ hE;rw[e2,e1];refine hK.out _ _ hE ?_;clear hK e1 e2;have H5:=H5.below hx;have H7:=H7.below hx;have H10:=H10.below hx;clear hx;refine t! 8 ?_
  refine o! 9 ?_;refine b! ?_;intro K hK;go_simp;obtain⟨g9,u5,e1,e2,hx,hE,HL9,H9⟩:=N9.out g3 g5 g7 _ hE;rw[e2,e1];refine hK.out _ _ hE ?_;clear hK e1 e2;have H3:=H3.below hx;have H5:=H5.below hx;have H7:=H7.below hx;have H10:=H10.below hx;clear hx;rotate_left
  refine b! ?_;intro K hK;go_simp;obtain⟨g10,u1,e1,e2,hx,hE,HL10,H10⟩:=N10.out _ hE;rw[e2,e1];refine hK.out _ _ hE ?_;clear hK e1 e2;clear hx;refine WalkN.three 3 5 7 (by kernel_rfl) ?_ ?_ ?_;refine b! ?_;intro K hK;go_simp;obtain⟨g3,u2,e1,e2,hx,hE,H3⟩:=N3.out _ hE;rw[e2,e1];refine hK.out _ _ hE ?_;clear hK e1 e2;have H10:=H10.below hx;clear hx;refine p! 5 7 ?_ ?_;refine b! ?_;intro K hK;go_simp;obtain⟨g5,u3,e1,e2,hx,hE,H5⟩:=N5.out _ hE;rw[e2,e1];refine hK.out _ _ hE ?_;clear hK e1 e2;have H3:=H3.below hx;have H10:=H10.below hx;clear hx;refine o! 7 ?_;refine b! ?_;intro K hK;go_simp;obtain⟨g7,u4,e1,e2,hx,hE,H7⟩:=N7.out _ hE;rw[e2,e1];refine hK.out _ _ hE ?_;clear hK e1 e2;have H3:=H3.below hx;have H5:=H5.below hx;have H10:=H10.below hx;clear hx;refine t! 8 ?_
  refine o! 9 ?_;refine b! ?_;intro K hK;go_simp;obtain⟨g9,u5,e1,e2,hx,hE,HL9,H9⟩:=N9.out g3 g5 g7 _ hE;rw[e2,e1];refine hK.out _ _ hE ?_;clear hK e1 e2;have H3:=H3.below hx;have H5:=H5.below hx;have H7:=H7.below hx;have H10:=H10.below hx;clear hx;rotate_left
  refine b! ?_;intro K hK;go_simp;obtain⟨g7,u3,e1,e2,hx,hE,H7⟩:=N7.out _ hE;rw[e2,e1];refine hK.out _ _ hE ?_;clear hK e1 e2;have H3:=H3.below hx;have H10:=H10.below hx;clear hx;refine o! 5 ?_;refine b! ?_;intro K hK;go_simp;obtain⟨g5,u4,e1,e2,hx,hE,H5⟩:=N5.out _ hE;rw[e2,e1];refine hK.out _ _ hE ?_;clear hK e1 e2;have H3:=H3.below hx;have H7:=H7.below hx;have H10:=H10.below hx;clear hx;refine t! 8 ?_
  refine o! 9 ?_;refine b! ?_;intro K hK;go_simp;obtain⟨g9,u5,e1,e2,hx,hE,HL9,H9⟩:=N9.out g3 g5 g7 _ hE;rw[e2,e1];refine hK.out _ _ hE ?_;clear hK e1 e2;have H3:=H3.below hx;have H5:=H5.below hx;have H7:=H7.below hx;have H10:=H10.below hx;clear hx;rotate_left
  refine b! ?_;intro K hK;go_simp;obtain⟨g5,u2,e1,e2,hx,hE,H5⟩:=N5.out _ hE;rw[e2,e1];refine hK.out _ _ hE ?_;clear hK e1 e2;have H10:=H10.below hx;clear hx;refine p! 3 7 ?_ ?_;refine b! ?_;intro K hK;go_simp;obtain⟨g3,u3,e1,e2,hx,hE,H3⟩:=N3.out _ hE;rw[e2,e1];refine hK.out _ _ hE ?_;clear hK e1 e2;have H5:=H5.below hx;have H10:=H10.below hx;clear hx;refine o! 7 ?_;refine b! ?_;intro K hK;go_simp;obtain⟨g7,u4,e1,e2,hx,hE,H7⟩:=N7.out _ hE;rw[e2,e1];refine hK.out _ _ hE ?_;clear hK e1 e2;have H3:=H3.below hx;have H5:=H5.below hx;have H10:=H10.below hx;clear hx;refine t! 8 ?_
  refine o! 9 ?_;refine b! ?_;intro K hK;go_simp;obtain⟨g9,u5,e1,e2,hx,hE,HL9,H9⟩:=N9.out g3 g5 g7 _ hE;rw[e2,e1];refine hK.out _ _ hE ?_;clear hK e1 e2;have H3:=H3.below hx;have H5:=H5.below hx;have H7:=H7.below hx;have H10:=H10.below hx;clear hx;rotate_left
  refine b! ?_;intro K hK;go_simp;obtain⟨g7,u3,e1,e2,hx,hE,H7⟩:=N7.out _ hE;rw[e2,e1];refine hK.out _ _ hE ?_;clear hK e1 e2;have H5:=H5.below hx;have H10:=H10.below hx;clear hx;refine o! 3 ?_;refine b! ?_;intro K hK;go_simp;obtain⟨g3,u4,e1,e2,hx,hE,H3⟩:=N3.out _ hE;rw[e2,e1];refine hK.out _ _ hE ?_;clear hK e1 e2;have H5:=H5.below hx;have H7:=H7.below hx;have H10:=H10.below hx;clear hx;refine t! 8 ?_
  refine o! 9 ?_;refine b! ?_;intro K hK;go_simp;obtain⟨g9,u5,e1,e2,hx,hE,HL9,H9⟩:=N9.out g3 g5 g7 _ hE;rw[e2,e1];refine hK.out _ _ hE ?_;clear hK e1 e2;have H3:=H3.below hx;have H5:=H5.below hx;have H7:=H7.below hx;have H10:=H10.below hx;clear hx;rotate_left
  refine b! ?_;intro K hK;go_simp;obtain⟨g7,u2,e1,e2,hx,hE,H7⟩:=N7.out _ hE;rw[e2,e1];refine hK.out _ _ hE ?_;clear hK e1 e2;have H10:=H10.below hx;clear hx;refine p! 3 5 ?_ ?_;refine b! ?_;intro K hK;go_simp;obtain⟨g3,u3,e1,e2,hx,hE,H3⟩:=N3.out _ hE;rw[e2,e1];refine hK.out _ _ hE ?_;clear hK e1 e2;have H7:=H7.below hx;have H10:=H10.below hx;clear hx;refine o! 5 ?_;refine b! ?_;intro K hK;go_simp;obtain⟨g5,u4,e1,e2,hx,hE,H5⟩:=N5.out _ hE;rw[e2,e1];refine hK.out _ _ hE ?_;clear hK e1 e2;have H3:=H3.below hx;have H7:=H7.below hx;have H10:=H10.below hx;clear hx;refine t! 8 ?_
  refine o! 9 ?_;refine b! ?_;intro K hK;go_simp;obtain⟨g9,u5,e1,e2,hx,hE,HL9,H9⟩:=N9.out g3 g5 g7 _ hE;rw[e2,e1];refine hK.out _ _ hE ?_;clear hK e1 e2;have H3:=H3.below hx;have H5:=H5.below hx;have H7:=H7.below hx;have H10:=H10.below hx;clear hx;rotate_left
  refine b! ?_;intro K hK;go_simp;obtain⟨g5,u3,e1,e2,hx,hE,H5⟩:=N5.out _ hE;rw[e2,e1];refine hK.out _ _ hE ?_;clear hK e1 e2;have H7:=H7.below hx;have H10:=H10.below hx;clear hx;refine o! 3 ?_;refine b! ?_;intro K hK;go_simp;obtain⟨g3,u4,e1,e2,hx,hE,H3⟩:=N3.out _ hE;rw[e2,e1];refine hK.out _ _ hE ?_;clear hK e1 e2;have H5:=H5.below hx;have H7:=H7.below hx;have H10:=H10.below hx;clear hx;refine t! 8 ?_
  refine o! 9 ?_;refine b! ?_;intro K hK;go_simp;obtain⟨g9,u5,e1,e2,hx,hE,HL9,H9⟩:=N9.out g3 g5 g7 _ hE;rw[e2,e1];refine hK.out _ _ hE ?_;clear hK e1 e2;have H3:=H3.below hx;have H5:=H5.below hx;have H7:=H7.below hx;have H10:=H10.below hx;clear hx;rotate_left
  all_goals
   refine o! 11 ?_;have hc10:=H10.cells;have hf10:=H10.free;refine b! ?_;intro K hK;go_simp;refine hK.out _ _ (St11 hE HL10 _) ?_;clear hK hc10 hf10;refine d! ?_;exact⟨rfl,g3,g5,g7,g9,g10,rfl,StE hE HL10 HL9 H3 H5 H7 H9 H10⟩
 rintro e _ W1 ⟨rfl,g3,g5,g7,g9,g10,rfl,hst⟩;dsimp only;have ST:=h! hst;have X1:=h! (show Ext wc W1 from hxd.out.trans hst.ext);have GB:=h! (BG.out.below X1.out);have NB:=h! (BN.out.below X1.out);have XW:=h! (show Ext w W1 from XC.out.trans X1.out);have hA:=GB.out.cells;have HL9:=h! (show w.heap.size<=g9 from by have:=hst.low;have:=XC.out.size;have:=hxd.out.size;omega);have HND:=h! (show w.heap.size+1+1<W1.heap.size from by have:=X1.out.size;have:=EC.out;omega);clear hmI hmB hmS hst hwd hxd HLD XC BG BS BN;go_wp2_with fail
 clear hA;obtain⟨A,hAA⟩:∃ A:Nat->Prop,Hid (A=fun b=>b=w.heap.size+1+1\/b=g5):=⟨_,h! rfl⟩
 have HAL:=h! (show ∀ b,A b->b<W1.heap.size from fun b hb=>by
  rw[hAA.out]at hb;rcases hb with rfl | rfl
  ·exact HND.out
  ·exact(ST.out.rnd.block _ rfl).2)
 have HUB:=h! (show ¬ A g7 from fun hb=>by
  rw[hAA.out]at hb;obtain⟨c1,h1⟩:=ST.out.use.typed (g:=g7) rfl;rcases hb with rfl | rfl
  ·rw[show W1.heap[_]?=_ from NB.out]at h1;injection h1 with h1
   injection h1 with _ h1 _
   exact absurd h1 (by decide)
  ·exact ST.out.rnd.apart ST.out.use (by decide) (g:=g7) rfl rfl)
 have RR:=h! (fun W (hW:UK lo A W1 W)=>show GrAt (· < lo) W ps fs (.slice ap n cp) (.slice af fs.length cf)from by
  have h1:=H0.out.same (w':=W1) (fun b hb=>XW.out.block b hb);rw[<- hlo.out]at h1;exact h1.same (hW.low (by rw[hlo.out];exact XW.out.size)))
 have RL:=h! (fun W (hW:UK lo A W1 W)=>show lo<=W.heap.size from by rw[hlo.out];exact Nat.le_trans XW.out.size hW.size);have RG:=h! (fun W (hW:UK lo A W1 W)=>hW.blk GB.out (by decide) (by decide));have RN:=h! (fun W (hW:UK lo A W1 W)=>hW.blkA NB.out (by rw[hAA.out];exact .inl rfl));have RP:=h! (fun W (hW:UK lo A W1 W)=>hW.blk ST.out.ptr (by decide) (by decide));have RS:=h! (fun W (hW:UK lo A W1 W)=>hW.blk ST.out.box (by decide) (by decide));have RA:=h! (fun W (hW:UK lo A W1 W) b (hb:A b)=>Nat.lt_of_lt_of_le (HAL.out b hb) hW.size);have HU0:=h! (UsAt.start A ST.out.use);go_loopw [25] (fun iv wr=>∃ (i:Nat) (U:List (List Int)) (vs:List Value),i<=fs.length/\iv = .int .i64 i/\UsAt wr lo g7 n A U vs/\UsTo fs n i [] U/\UK lo A W1 wr) (fun iv _=>fs.length-(intOf iv).toNat)
 case atStart=>exact⟨0,_,_,Nat.zero_le _,rfl,HU0.out,UsTo.start fs n,UK.refl _ _ _⟩
 case round =>
  obtain⟨i,U,vs,hi,rfl,hu,ht,hk⟩:=hrel;have US:=h! hu;have UT:=h! ht;have RK:=h! hk;clear hu ht hk HU0;by_cases hlt:i<fs.length
  ·have HLT:=h! hlt;have HNX:=h! (fun U'=>UsTo.next (n:=n) (U:=U') hlt)
   have HNL:=h! (show(nmdL (fs.take i)).length+fs[i].named.length<=(nmdL fs).length from by
    have h1:nmdL fs=nmdL (fs.take (i+1))++nmdL (fs.drop (i+1)):=by rw[<- nmdL_append,List.take_append_drop]
    rw[h1,nmdL_take hlt];simp only[List.length_append];omega)
   have HWI:=h! (show wrap64 ((i:Int)+1)=((i+1:Nat):Int)from by have:=HFM.out;unfold wrap64;omega);obtain⟨ap',cp',af',cf',e1,e2,-,-,-,-,hrow⟩:=(RR.out wr RK.out).rows;cases e2;obtain⟨p1,q1,u,rfl,hp1,k0,k1,k2,k3,hu⟩:=hrow i hlt;have hli:(i:Int)<(fs.length:Int):=by omega
   generalize fs[i]=x at *;obtain⟨l1,m1,l2,m2,l4,m4,rfl⟩:=hu.shape;have HF:=h! hu;dsimp only at k0 k1 k2 k3;clear hu hp1 hrow e1 hlt;obtain⟨wq,hwq⟩:∃ y,Hid (y=(wr.alloc (.cells #[.int .i64 (i:Int)] 3)).alloc (.cells #[.int .i64 x.k,.slice l1 x.subs.length m1,.slice l2 x.refs.length m2,.slice l4 x.ps.length m4] 128)):=⟨_,h! rfl⟩;have XQ:=h! (show Ext wr wq from by rw[hwq.out];exact(Ext.alloc _ _).trans (Ext.alloc _ _));have BI:=h! (show Blk wq wr.heap.size #[.int .i64 (i:Int)] 3 from by rw[hwq.out];exact(Blk.made _ _ _).below (Ext.alloc _ _));obtain⟨A',hA'⟩:∃ A':Nat->Prop,Hid (A'=fun b=>A b\/b=wr.heap.size):=⟨_,h! rfl⟩;have HSU:=h! (show ∀ b,A b->A' b from fun b hb=>by rw[hA'.out];exact .inl hb);have RKQ:=h! (fun W (hW:UK lo A' wq W)=>show UK lo A W1 W from UK.next RK.out (UK.next (UK.of XQ.out) (hW.lessA HSU.out)))
   have HNU:=h! (show ¬ A' g7 from by
    rw[hA'.out];rintro(h1 | h1)
    ·exact HUB.out h1
    ·have:=(US.out.arr.block g7 rfl).2;omega)
   have HUQ:=h! (show UsAt wq lo g7 n A' U vs from(US.out.avoid (A':=A') fun b hb=>by rw[hA'.out]at hb;rcases hb with hb | hb;exact .inl hb;exact .inr (Nat.le_of_eq hb.symm)).ext XQ.out)
   have HCL:=h! (named_any 209 #[.pointer (some ⟨wr.heap.size,0,none⟩),.pointer (some ⟨w.heap.size+1+1,0,none⟩),.pointer (some ⟨g10,0,none⟩)] (enters_of Tryz.func209 (by kernel_rfl) rfl) lo 1000000000000 A'
    (fun ks W=>UK lo A' wq W/\∃ U vs,UsAt W lo g7 n A' U vs/\UsTo fs n i ks U) (fun ks W W' h hx=>⟨UK.next h.1 (UK.of hx),by obtain⟨_,U,vs,h1,h2⟩:=h;exact⟨U,vs,h1.ext hx,h2⟩⟩)
    (fun ks k W h hlW hkl=>by
     obtain⟨hk,U2,vs2,hu2,ht2⟩:=h
     refine(note_any lo g7 n i wr.heap.size (w.heap.size+1+1) g10 g9 A' k U2 vs2 _ _ _ _ _ _ _ W (hk.blkA BI.out (by rw[hA'.out];exact .inr rfl)) (RN.out W (RKQ.out W hk)) (RP.out W (RKQ.out W hk)) (RS.out W (RKQ.out W hk)) hu2 ⟨by rw[hA'.out];exact .inr rfl,by rw[hA'.out,hAA.out];exact .inl (.inl rfl)⟩ (fun b hb=>by
      rw[hA'.out]at hb;rcases hb with hb | hb
      ·exact RA.out W (RKQ.out W hk) b hb
      ·have h1:=BI.out.lt;have h2:=hk.size;omega) HNU.out hlW (fun m=>by have:=len_sum U2 m;have:=ht2.sum;have:=HNL.out;have:=HNN.out;omega)).mono ?_
     rintro e W' ⟨rfl,⟨vs',hu'⟩,hk'⟩;exact⟨rfl,⟨UK.next hk hk',_,vs',hu',ht2.note k⟩,hk'⟩)
    x (.slice l1 x.subs.length m1,.slice l2 x.refs.length m2,.slice l4 x.ps.length m4) [] wq (HF.out.lowUp (UK.of (A:=A) XQ.out) (RL.out wr RK.out)) (Nat.le_trans (RL.out wr RK.out) XQ.out.size) ⟨UK.refl _ _ _,U,vs,HUQ.out,UT.out⟩ (by have:=HNL.out;have:=HNN.out;simp only[List.length_nil];omega))
   unfold fV at HCL;dsimp only at HCL;go_wp2_with fail
   rw[<- hwq.out];clear hwq;refine HCL.out.mono ?_;rintro e w5 ⟨rfl,⟨hk5,U5,vs5,hu5,ht5⟩,-⟩;rw[List.nil_append]at ht5;have UT5:=h! (HNX.out U5 ht5);have US5:=h! (hu5.fewer HSU.out);have RK5:=h! (RKQ.out w5 hk5);clear hu5 ht5 hk5 HCL HUQ k0 k1 k2 k3;go_wp2_with fail
   go_roundw
   case rel=>exact⟨i+1,U5,vs5,HLT.out,by first | rw[HWI.out] | go_num,US5.out,UT5.out,RK5.out⟩
   case measure=>have:=HLT.out;(try rw[HWI.out]);simp[intOf];omega
  ·obtain rfl:i=fs.length:=by omega
   have hp:=(RP.out wr RK.out).cells
   have HSA:=h! (show StAt wr lo g9 g3 g5 g7 n pv fv s (inN fs s n 0) (outN fs s n 0) U vs from {
    box:=RS.out wr RK.out
    inn:=by
     rw[show boC (inN fs s n 0)=List.replicate n (.bool false)from by simp[boC,inN]]
     exact ST.out.inn.keepOwn fun g hg=>by
      obtain⟨cur,h1⟩:=ST.out.inn.typed hg;exact(RK.out.blk (show Blk W1 g cur 4 from h1) (by decide) (by decide)).trans h1.symm
    rnd:=by
     rw[show ic (outN fs s n 0)=List.replicate n (.int .i64 0)from by simp[ic,outN]]
     exact ST.out.rnd.keepOwn fun g hg=>by
      obtain⟨cur,h1⟩:=ST.out.rnd.typed hg;exact(RK.out.blkA (show Blk W1 g cur 3 from h1) (by rw[hAA.out];exact .inr (Option.some.inj hg).symm)).trans h1.symm
    use:=US.out.fewer fun b hb=>by rw[hAA.out];exact .inr hb})
   have HBE:=h! (show Below w.heap.size w wr from Below.trans XW.out (by
    have:=RK.out.below (by rw[hlo.out];exact XW.out.size);rwa[hlo.out]at this))
   go_wp2_with fail
   go_ret
   exact⟨⟨g9,g3,g5,g7,U,vs,rfl,HL9.out,by rw[<- hlo.out,<- hpv.out,<- hfv.out];exact HSA.out,UT.out⟩,HBE.out⟩
end Go.Proofs.YtlhaghoajpglaaaGreat
