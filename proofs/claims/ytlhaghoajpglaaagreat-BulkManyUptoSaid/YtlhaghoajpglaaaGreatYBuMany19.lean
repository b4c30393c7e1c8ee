/- Lemmas for the claim, no condition. -/
import Derived.Carry
import Derived.Sort.MapsRangeIn
import Derived.RangeFuncGives
import Derived.RangeFuncNested
import Derived.WalkKit
import Derived.TacticsInMore
import Derived.RegionIn
import Derived.LoopNIn
import Derived.LoopIn
import Derived.Sort.KeysCollected
import Derived.RangeFuncLeaves
import Derived.OwnWalkIn
import GoSem.PinnedTables
import Derived.Deep.DeepHandedRow
import Derived.Lib.SmallJoins
import Derived.Test.YtlhaghoajpglaaaGreatYBuMany18
import Derived.Test.YtlhaghoajpglaaaGreatYBuMany1
import Derived.Test.YtlhaghoajpglaaaGreatYBuMany12
import Derived.Test.YtlhaghoajpglaaaGreatYBuMany5
import Derived.Test.YtlhaghoajpglaaaGreatYBuMany15
import Derived.Test.YtlhaghoajpglaaaGreatYBuMany10
import Derived.Test.YtlhaghoajpglaaaGreatYBuMany2
import Derived.Test.YtlhaghoajpglaaaGreatYBuMany4
import Derived.Test.YtlhaghoajpglaaaGreatYBuMany6
import Derived.Test.YtlhaghoajpglaaaGreatYBuMany0
import Derived.Test.YtlhaghoajpglaaaGreatYBuMany3
import Derived.Test.YtlhaghoajpglaaaGreatYBuMany14
import Derived.Test.YtlhaghoajpglaaaGreatYBuMany13
import Derived.Test.YtlhaghoajpglaaaGreatYBuMany7
set_option maxRecDepth 100000
set_option maxHeartbeats 4000000
namespace Go.Proofs.YtlhaghoajpglaaaGreat
open Go Go.RowKit Go.Maps
def AskSaid (ts:List TyS)(T:List Tup)(shut:List R2)(p s:P3)(most:Int)(e:Ending):Prop :=
 ((∃ n,WalkEnd ts T shut p most n)/\∃ b,e = .returned (.tuple #[.bool b,.int .i64 0])/\(b=true↔Den ts T shut s p))\/(WalkLong ts T shut p most/\e = .returned (.tuple #[.bool false,.int .i64 10]))
theorem A2.blk {gm km:Nat} {w w':World} (h:A2 gm km w w') {b:Nat} {cs:Array Value} {t:TypeId} (hb:Blk w b cs t)(h1:b≠gm)(h2:b≠km):Blk w' b cs t:=Kept.blk h hb ⟨hb.lt,h1,h2⟩
theorem ask_any {M:Nat->Prop} {w0:World} {xb gm km ct b:Nat} {ao:Option Addr} {sv:Value} {most:Int} {ts:List TyS} {T:List Tup} {shut:List R2} {lg:List (P3 × G2)} {lk:List (AQ × Bool)} (hI:AskIn w0 ts (.slice ao ts.length ct) b T shut sv)(p s:P3)(w:World)(h:AskrAt M w0 w xb gm km (.slice ao ts.length ct) (bkV b) sv most ts T shut lg lk)(hM:∀ b,M b->b<w.heap.size)(hA:HasArg ts T shut p)(hp:p.Ok)(hs:s.Ok) :
  Calls Tryz.prog 157 #[.pointer (some ⟨xb,0,none⟩),.agg (aC p s)] w fun e w'=>(∃ lg' lk',AskrAt M w0 w' xb gm km (.slice ao ts.length ct) (bkV b) sv most ts T shut lg' lk')/\A2 gm km w w'/\AskSaid ts T shut p s most e:=by
 have HS0:=h! h;have HA:=h! hA;have HP:=h! hp;have HSK:=h! hs;have HKY:=h! (ask_key (p,s) hp hs);obtain⟨wa,hwa⟩:∃ x,x=w.alloc (.cells (aC p s) 35):=⟨_,rfl⟩;have XA:=h! (show Ext w wa from by rw[hwa];exact Ext.alloc _ _);have BA:=h! (show Blk wa w.heap.size (aC p s) 35 from by rw[hwa];exact Blk.made _ _ _);have HS:=h! (HS0.out.up XA.out);have HGC:=h! (graph_any hI p wa HS.out (fun b hb=>Nat.lt_of_lt_of_le (hM b hb) XA.out.size) hA hp);have HNA:=h! (show w.heap.size≠gm/\w.heap.size≠km from⟨by have:=HS0.out.gs.lt;omega,by have:=HS0.out.ks.lt;omega⟩);have hAc:=BA.out.cells;clear hI h hA hp hs hM;unfold pV at HGC;unfold aC at *;subst hwa;go_enter Tryz.func157,Tryz.ntmps157
 go_wp2_with fail
 refine HGC.out.mono ?_;rintro e w1 ⟨⟨lg1,hS1⟩,hk1,⟨n,pv,fv,hwe,rfl,hgr⟩ | ⟨hlg,po,pn,pc,fo,fn,fc,rfl⟩⟩
 case' inr =>
  have HLG:=h! hlg;have K2:=h! (show A2 gm km w (w1.alloc (.cells #[.slice po pn pc,.slice fo fn fc] 96))from((A2.of XA.out).next hk1).next (A2.of (Ext.alloc _ _)));have S2:=h! (hS1.up (Ext.alloc w1 (.cells #[.slice po pn pc,.slice fo fn fc] 96)));clear hS1 hk1 hlg hAc HGC;go_wp2_with fail
  go_ret2
  exact⟨⟨lg1,lk,S2.out⟩,K2.out,.inr ⟨HLG.out,rfl⟩⟩
 case' inl =>
  obtain⟨po,pc,fo,fc,rfl,rfl⟩:=hgr.shape;have HE:=h! hwe;have HLN:=h! (show(walkN ts T shut p n).1.length=n from hwe.2.symm);have HFL:=h! (show(walkN ts T shut p n).2.length=n from walkN_forms ts T shut p n);have HN:=h! (show n<=1000000 from by have:=HA.out.wk.few n;rw[HLN.out]at this;exact this)
  have HNN:=h! (show(nmdL (walkN ts T shut p n).2).length<=1000000000000 from by
   have h1:=walkN_named HA.out.rm shut p n;have h2:n*1000000<=1000000*1000000:=Nat.mul_le_mul_right _ HN.out;omega)
  have HP0:=h! (walkN_first ts T shut p n);have HPK:=h! (HA.out.wk.okp n);have HDA:=h! (fun(i:Nat) (q:P3) (hq:(walkN ts T shut p n).1[i]?=some q)=>hwe.den_at (walkN_nodup ts T shut p n) s hq);rw[HLN.out,HFL.out]at hgr ⊢;generalize (walkN ts T shut p n).1=ps at *;generalize (walkN ts T shut p n).2=fs at *;have X2:=h! (Ext.alloc w1 (.cells #[.slice po n pc,.slice fo n fc] 96));have S2:=h! (hS1.up X2.out);have K2:=h! (((A2.of XA.out).next hk1).next (A2.of X2.out));have GR2:=h! ((A2.of (gm:=gm) (km:=km) X2.out).gr hgr);have BA2:=h! ((hk1.blk BA.out HNA.out.1 HNA.out.2).below X2.out);have BG2:=h! (Blk.made w1 #[.slice po n pc,.slice fo n fc] 96);have HNG:=h! (show w1.heap.size≠gm/\w1.heap.size≠km from⟨by have:=hS1.gs.lt;omega,by have:=hS1.ks.lt;omega⟩);clear hS1 hk1 hwe hgr hAc HGC BA HS XA;go_wp2_with fail
  obtain⟨w2,hw2⟩:∃ y,y=w1.alloc (.cells #[.slice po n pc,.slice fo n fc] 96):=⟨_,rfl⟩;rw[<- hw2]at S2 K2 GR2 BA2 BG2 ⊢;clear hw2 X2;generalize w1.heap.size=gb at *;generalize w.heap.size=ab at *;obtain⟨wd,hwd⟩:∃ wd,Hid (wd=World.drew w2):=⟨_,h! rfl⟩;have hxd:=h! (show Ext w2 wd from by rw[hwd.out];exact Ext.drew _);refine r! (Ext wd) (by rw[<- hwd.out];exact Ext.refl _) ?_;rw[<- hwd.out];have S2:=h! (S2.out.up hxd.out);have K2:=h! (K2.out.next (A2.of hxd.out));have GR2:=h! ((A2.of (gm:=gm) (km:=km) hxd.out).gr GR2.out);have BA2:=h! (BA2.out.below hxd.out);have BG2:=h! (BG2.out.below hxd.out);clear hwd hxd;have k1:=fun W (h:Ext wd W)=>(S2.out.box.below h).cells;have k2:=fun W (h:Ext wd W)=>(BA2.out.below h).cells;have hlook:=fun W (h:Ext wd W)=>(S2.out.ks.below h).look askK aV_inj Tryz.underlying262 (Tryz.zeroValue4 W) true HKY.out
  obtain⟨yes,found,hlv,hyes⟩:∃ yes found:Bool,lookV true (.bool false) bV (lookA lk (p,s)) = .tuple #[.bool yes,.bool found]/\(found=true->(yes=true↔Den ts T shut s p)):=by
   cases hl:lookA lk (p,s) with
   | none=>exact⟨false,false,rfl,fun e=>by cases e⟩
   | some x=>exact⟨x,true,rfl,fun _=>S2.out.kok _ (look_mem hl)⟩
  have HYES:=h! hyes;try rw[hlv]at hlook
  unfold aV aC at hlook;dsimp only at hlook;clear hlv hyes;(refine WalkN.tk [0,1,2,3,4,5,6,7,8,9,10] ?_;(iterate 11 (refine c! ?_));refine TkN.n ?_)
  clear k1 k2 hlook;refine d! ?_;cases found with
  | true =>
   go_wp2_with fail
   go_ret2
   exact⟨⟨lg1,lk,S2.out⟩,K2.out,.inl ⟨⟨n,HE.out⟩,yes,rfl,by first | exact HYES.out rfl | exact HYES.out trivial⟩⟩
  | false =>
   have HSV:=h! (solveP_any s ps fs (.slice po n pc) (.slice fo n fc) wd (GR2.out.mono fun x hx=>hx.1) (by rw[HLN.out];exact HN.out) (by rw[HFL.out];exact HN.out) HNN.out);rw[HLN.out]at HSV;unfold pV at HSV;have k1:=BA2.out.cells;have k2:=BG2.out.cells;clear HYES;go_wp2_with fail
   clear k1 k2;refine HSV.out.mono ?_;rintro e w3 ⟨⟨v,rfl,ho⟩,hx3⟩;have S3:=h! (S2.out.up hx3);have K3:=h! (K2.out.next (A2.of hx3));have GR3:=h! ((A2.of (gm:=gm) (km:=km) hx3).gr GR2.out);have BA3:=h! (BA2.out.below hx3);have BG3:=h! (BG2.out.below hx3);have HRL:=h! (show(solveR fs s n).length=n from outN_length n);have HVS:=h! ((ho.sl).mono (T:=fun x=>x<w3.heap.size/\x≠gm/\x≠km) fun x hx=>⟨hx.2,by have:=S2.out.gs.lt;have:=hx.1;omega,by have:=S2.out.ks.lt;have:=hx.1;omega⟩);obtain⟨vo,vn,vc,rfl,hvn,-,-⟩:=ho.sl.len;rw[ic_length,Nat.mul_one,HRL.out]at hvn;subst hvn;clear ho hx3 HSV S2 K2 GR2 BA2 BG2;generalize solveR fs s n=R at *;go_wp2_with fail
   go_loopw [38] (fun jv wr=>∃ (i:Nat) (lk':List (AQ × Bool)),i<=n/\jv = .int .i64 i/\AskrAt M w0 wr xb gm km (.slice ao ts.length ct) (bkV b) sv most ts T shut lg1 lk'/\A2 gm km w3 wr/\(0<i->∃ b,lookA lk' (p,s)=some b)) (fun jv _=>n-(intOf jv).toNat)
   case atStart=>exact⟨0,lk,Nat.zero_le _,rfl,S3.out,A2.refl _ _ _,fun h=>absurd h (Nat.lt_irrefl _)⟩
   case round =>
    obtain⟨i,lk1,hi,rfl,hS,hk,hf⟩:=hrel;have S4:=h! hS;have K4:=h! hk;have HFD:=h! hf;clear hS hk hf S3;by_cases hlt:i<n
    ·have HLT:=h! hlt;have HWI:=h! (show wrap64 ((i:Int)+1)=((i+1:Nat):Int)from by have:=HN.out;unfold wrap64;omega);have hli:(i:Int)<(n:Int):=by omega
     have hiR:i<R.length:=by rw[HRL.out];exact hlt
     have hip:i<ps.length:=by rw[HLN.out];exact hlt
     obtain⟨vb,voff,rfl,hvb,c0⟩:=HVS.out.int_at hiR;have d0:=(World.cell?_of_block (a:=⟨vb,voff+i,none⟩) (K4.out.block vb hvb)).trans c0
     obtain⟨pb,poff,rfl,hpb,g5⟩:∃ pb poff,po=some ⟨pb,poff,none⟩/\A2S gm km (fun _=>False) w3 pb/\∀ (j:Nat) u,(pC ps[i])[j]?=some u->w3.cell? ⟨pb,poff+i*3+j,none⟩=some u:=by
      obtain⟨_,_,e,-,-,hcel⟩:=Sl.rows pC_length (by decide) (show Sl _ w3 3 _ (ps.flatMap pC)from GR3.out.1);obtain⟨b,off,rfl,hbl,hcel⟩:=hcel (by omega);cases e;exact⟨b,off,rfl,hbl,fun j u hj=>hcel i hip j u hj⟩
     have HQ:=h! (show ps[i]?=some ps[i]from List.getElem?_eq_getElem hip);have HQK:=h! (HPK.out _ (List.getElem_mem hip));have HD:=h! (show(decide (0<R[i])=true↔Den ts T shut s ps[i])from by rw[HDA.out i _ HQ.out,decide_eq_true_eq,List.getD_eq_getElem?_getD,List.getElem?_eq_getElem hiR];rfl);have HFI:=h! (show i=0->ps[i]=p from fun e=>by have h1:=HP0.out;have h2:=HQ.out;subst e;rw[h1]at h2;exact(Option.some.inj h2).symm);generalize ps[i]=q at *;generalize R[i]=r at *;clear hlt hvb c0;go_wp2_with fail
     clear d0;obtain⟨we,hwe⟩:∃ we,Hid (we=World.drew wr):=⟨_,h! rfl⟩;have hxe:=h! (show Ext wr we from by rw[hwe.out];exact Ext.drew _);refine r! (Kept (· ≠ km) we) (by rw[<- hwe.out];exact Kept.refl _ _) ?_;rw[<- hwe.out];have S5:=h! (S4.out.up hxe.out);have K5:=h! (K4.out.next (A2.of hxe.out));have BG5:=h! (K5.out.blk BG3.out HNG.out.1 HNG.out.2);have BA5:=h! (K5.out.blk BA3.out HNA.out.1 HNA.out.2);clear hwe hxe;have k1:=fun W (h:Kept (· ≠ km) we W)=>(h.blk S5.out.box S5.out.xbNe.2).cells;have k2:=fun W (h:Kept (· ≠ km) we W)=>(h.blk BG5.out HNG.out.2).cells;have k3:=fun W (h:Kept (· ≠ km) we W)=>(h.blk BA5.out HNA.out.2).cells;have g6:∀ W,Kept (· ≠ km) we W->∀ (j:Nat) u,(pC q)[j]?=some u->W.cell? ⟨pb,poff+i*3+j,none⟩=some u:=fun W h j u hj=>(World.cell?_of_block (a:=⟨pb,poff+i*3+j,none⟩) ((h.block pb hpb.2.2.1).trans (K5.out.block pb ⟨hpb.1,hpb.2.1,hpb.2.2.1⟩))).trans (g5 j u hj);have q0:∀ W,Kept (· ≠ km) we W->W.cell? ⟨pb,poff+i*3,none⟩=some (.string q.t):=fun W h=>g6 W h 0 _ rfl;have q1:=fun W (h:Kept (· ≠ km) we W)=>g6 W h 1 _ rfl;have q2:=fun W (h:Kept (· ≠ km) we W)=>g6 W h 2 _ rfl;clear g5 g6 hpb;(refine WalkN.tk [0,1,2,3,4,5,6,7,8,9,10,11,12,13] ?_;(iterate 14 (refine c! ?_));refine TkN.n ?_)
     clear k1 k2 k3 q0 q1 q2;obtain⟨wf,hrun,hMf,hTf⟩:=S5.out.ks.store askK aV_inj Tryz.underlying262 (ask_key (q,s) HQK.out HSK.out) (decide (0<r));unfold aV aC bV at hrun;dsimp only at hrun;refine o! 14 ?_;refine b! ?_;intro K hK;go_simp;refine hK.out _ _ hTf.kept ?_;clear hK hrun;refine d! ?_;have S6:=h! (S5.out.putK (a:=(q,s)) HD.out hTf hMf);have K6:=h! (K5.out.next (A2.turnK hTf))
     have F6:=h! (show ∃ b,lookA (putA lk1 (q,s) (decide (0<r))) (p,s)=some b from by
      rw[look_put];by_cases e:((q,s):AQ)=(p,s)
      ·exact⟨_,if_pos e⟩
      ·rw[if_neg e];exact HFD.out (Nat.pos_of_ne_zero fun e2=>e (by rw[HFI.out e2])))
     clear hTf hMf;go_wp2_with fail
     go_roundw
     case rel=>exact⟨i+1,_,HLT.out,by first | rw[HWI.out] | go_num,S6.out,K6.out,fun _=>F6.out⟩
     case measure=>have:=HLT.out;(try rw[HWI.out]);simp[intOf];omega
    ·obtain rfl:i=n:=by omega
     have HPO:=h! (show 0<i from by
      have h1:=HP0.out;have h2:=(List.getElem?_eq_some_iff.1 h1).1;rw[HLN.out]at h2;exact h2)
     obtain⟨yes,hyes⟩:=HFD.out HPO.out;have HY:=h! (S4.out.kok _ (look_mem hyes));have HYL:=h! hyes;clear hyes hlt hi;go_wp2_with fail
     obtain⟨we,hwe⟩:∃ we,Hid (we=World.drew wr):=⟨_,h! rfl⟩;have hxe:=h! (show Ext wr we from by rw[hwe.out];exact Ext.drew _);refine r! (Ext we) (by rw[<- hwe.out];exact Ext.refl _) ?_;rw[<- hwe.out];have S5:=h! (S4.out.up hxe.out);have K5:=h! (K4.out.next (A2.of hxe.out));have BA5:=h! (K5.out.blk BA3.out HNA.out.1 HNA.out.2);clear hwe hxe;have k1:=fun W (h:Ext we W)=>(S5.out.box.below h).cells;have k2:=fun W (h:Ext we W)=>(BA5.out.below h).cells;have hlook:=fun W (h:Ext we W)=>(S5.out.ks.below h).look askK aV_inj Tryz.underlying262 (Tryz.zeroValue4 W) false HKY.out;rw[HYL.out]at hlook;unfold lookV aV aC bV at hlook;dsimp only at hlook;(refine WalkN.tk [0,1,2,3,4,5,6,7] ?_;(iterate 8 (refine c! ?_));refine TkN.n ?_)
     refine d! ?_;clear k1 k2 hlook;go_wp2_with fail
     go_ret2
     exact⟨⟨lg1,_,S5.out⟩,K3.out.next K5.out,.inl ⟨⟨_,HE.out⟩,yes,rfl,HY.out⟩⟩
theorem boolsT:ElemT Tryz.prog 74 4 1 1:=ElemT.mk' Tryz.underlying74 (show _=some (some (.bool false),1,1)by kernel_rfl) rfl (by decide)
def aqC (a:AQ):List Value:=[.string a.1.t,.string a.1.i,.string a.1.r,.string a.2.t,.string a.2.i,.string a.2.r]
theorem aqC_length (a:AQ):(aqC a).length=6:=rfl
noncomputable def denA (ts:List TyS) (T:List Tup) (shut:List R2) (a:AQ):Bool:=@decide (Den ts T shut a.2 a.1) (Classical.propDecidable _)
theorem denA_iff {ts:List TyS} {T:List Tup} {shut:List R2} {a:AQ}:denA ts T shut a=true↔Den ts T shut a.2 a.1:=by unfold denA;simp
def AllSaid (ts:List TyS)(T:List Tup)(shut:List R2)(l:List AQ)(most:Int)(lo:Nat)(v:Value)(e:Ending)(w':World):Prop :=
 ((∀ a∈l,∃ n,WalkEnd ts T shut a.1 most n)/\e = .returned (.tuple #[v,.int .i64 0])/\Own w' lo 4 1 v (boC (l.map (denA ts T shut))))\/((∃ a∈l,WalkLong ts T shut a.1 most)/\v = .slice none 0 0/\e = .returned (.tuple #[v,.int .i64 10]))
theorem AskrAt.grown {M M':Nat->Prop} {w0 w w':World} {xb gm km:Nat} {tc fi sv:Value} {most:Int} {ts:List TyS} {T:List Tup} {shut:List R2} {lg:List (P3 × G2)} {lk:List (AQ × Bool)} (h:AskrAt M w0 w xb gm km tc fi sv most ts T shut lg lk) {B sz:Nat} {e:TypeId} {v:Value} {xs:List Value} (ho:Own w B e sz v xs)(hg:w.grownBy w' v.ownBlock)
  (hM:∀ b,v.ownBlock=some b->M b) (he:e≠264) (hB:w0.heap.size<=B) (hM':∀ b,M' b->M b\/w.heap.size<=b):AskrAt M' w0 w' xb gm km tc fi sv most ts T shut lg lk:=by
 refine⟨grown_below h.X (ho.mono hB) hg h.X.size,h.lo,(hg.block xb h.box.lt fun e2=>?_).trans h.box,h.gs.same (hg.block gm h.gs.lt fun e=>ho.notMap h.gs.notCells gm e.symm rfl),h.ks.same (hg.block km h.ks.lt fun e=>ho.notMap h.ks.notCells km e.symm rfl),fun e2 he2=>?_,h.kok,h.ne⟩
 ·obtain⟨c,hc⟩:=ho.typed e2.symm;rw[show w.heap[xb]?=_ from h.box]at hc;injection hc with hc
  injection hc with _ hc _
  exact he hc.symm
 ·obtain⟨n,h1,h2⟩:=h.gok e2 he2;refine⟨n,h1,(h2.same fun b hb=>hg.block b hb.1 fun e=>hb.2.2.2 (hM b e.symm)).mono fun b hb=>⟨Nat.lt_of_lt_of_le hb.1 hg.size,hb.2.1,hb.2.2.1,fun e=>(hM' b e).elim hb.2.2.2 fun e=>by have:=hb.1;omega⟩⟩
theorem Own.a2 {gm km:Nat} {w w':World} {B sz:Nat} {e:TypeId} {v:Value} {xs:List Value} (h:Own w B e sz v xs)(hk:A2 gm km w w')(h1:∀ cs t fr,w.heap[gm]?≠some (.cells cs t fr))(h2:∀ cs t fr,w.heap[km]?≠some (.cells cs t fr)):Own w' B e sz v xs :=
 h.keepOwn fun g hg=>hk.block g ⟨(h.block g hg).2,h.notMap h1 g hg,h.notMap h2 g hg⟩
theorem all_any {M:Nat->Prop} {w0:World} {xb gm km ct b:Nat} {ao:Option Addr} {sv:Value} {most:Int} {ts:List TyS} {T:List Tup} {shut:List R2} {lg:List (P3 × G2)} {lk:List (AQ × Bool)} (hI:AskIn w0 ts (.slice ao ts.length ct) b T shut sv)(l:List AQ)(lv:Value)(w:World)(h:AskrAt M w0 w xb gm km (.slice ao ts.length ct) (bkV b) sv most ts T shut lg lk)(hM:∀ b,M b->b<w.heap.size)
  (hl:Sl (fun x=>x<w.heap.size/\x≠gm/\x≠km) w 6 lv (l.flatMap aqC)) (hA:∀ a∈l,HasArg ts T shut a.1/\a.1.Ok/\a.2.Ok) (hll:l.length<=1000000) :
  Calls Tryz.prog 102 #[.pointer (some ⟨xb,0,none⟩),lv] w fun e w'=>(∃ v lg' lk',AskrAt (fun b=>M b\/v.ownBlock=some b) w0 w' xb gm km (.slice ao ts.length ct) (bkV b) sv most ts T shut lg' lk'/\AllSaid ts T shut l most w.heap.size v e w')/\A2 gm km w w':=by
 have HI:=h! hI;have HS0:=h! h;have HMM:=h! hM;have HA:=h! hA;have HLL:=h! hll;have HL:=h! hl;obtain⟨lo,c,rfl,-⟩:=Sl.rows aqC_length (by decide) hl;have hmf:∀ (fn:Fn) (first cap:Array Value) (w:World),(Instr.makeFunc fn first cap).run Tryz.prog w = .ok (.func fn first cap) w:=fun _ _ _ _=>rfl;clear hI h hM hA hll hl;go_enter Tryz.func102,Tryz.ntmps102
 go_wp2_with fail
 clear hmf;go_loopw [6,16] (fun ov jv wr=>∃ (i:Nat) (lg':List (P3 × G2)) (lk':List (AQ × Bool)),i<=l.length/\jv = .int .i64 i/\AskrAt (fun b=>M b\/ov.ownBlock=some b) w0 wr xb gm km (.slice ao ts.length ct) (bkV b) sv most ts T shut lg' lk'/\Own wr w.heap.size 4 1 ov (boC ((l.take i).map (denA ts T shut)))/\A2 gm km w wr/\∀ a∈l.take i,∃ n,WalkEnd ts T shut a.1 most n) (fun _ jv _=>l.length-(intOf jv).toNat)
 case atStart=>exact⟨0,lg,lk,Nat.zero_le _,rfl,(HS0.out.less fun b hb=>hb.elim id fun e=>by cases e),Own.nil _ _ _ _,A2.refl _ _ _,fun a ha=>by simp at ha⟩
 case round =>
  obtain⟨i,lg1,lk1,hi,rfl,hS,ho,hk,hw⟩:=hrel;have S1:=h! hS;have O1:=h! ho;have K1:=h! hk;have HW:=h! hw;obtain⟨vo,vn,vc,rfl,hvn,-,-⟩:=ho.sl.len;rw[boC_length,Nat.mul_one,List.length_map]at hvn;have HVN:=h! (show vn=i from by rw[<- hvn,List.length_take];omega);clear hS ho hk hw hvn;by_cases hlt:i<l.length
  ·have HLT:=h! hlt;have HWI:=h! (show wrap64 ((i:Int)+1)=((i+1:Nat):Int)from by have:=HLL.out;unfold wrap64;omega);have hli:(i:Int)<(l.length:Int):=by omega
   obtain⟨pb,poff,rfl,g5⟩:∃ pb poff,lo=some ⟨pb,poff,none⟩/\∀ (j:Nat) u,(aqC l[i])[j]?=some u->wr.cell? ⟨pb,poff+i*6+j,none⟩=some u:=by
    obtain⟨_,_,e,-,-,hcel⟩:=Sl.rows aqC_length (by decide) HL.out;obtain⟨b,off,rfl,hbl,hcel⟩:=hcel (by omega);cases e;exact⟨b,off,rfl,fun j u hj=>(World.cell?_of_block (a:=⟨b,off+i*6+j,none⟩) (K1.out.block b hbl)).trans (hcel i hlt j u hj)⟩
   have HNX:=h! (List.take_succ_eq_append_getElem hlt);have HQ:=h! (HA.out _ (List.getElem_mem hlt));generalize l[i]=a at *;have q0:wr.cell? ⟨pb,poff+i*6,none⟩=some (.string a.1.t):=g5 0 _ rfl;have q1:=g5 1 _ rfl;have q2:=g5 2 _ rfl;have q3:=g5 3 _ rfl;have q4:=g5 4 _ rfl;have q5:=g5 5 _ rfl;have X5:=h! (Ext.alloc wr (.cells (aC a.1 a.2) 35));have S5:=h! (S1.out.up X5.out);have HCL:=h! (ask_any HI.out a.1 a.2 _ S5.out (fun b hb=>hb.elim (fun e=>Nat.lt_of_lt_of_le (Nat.lt_of_lt_of_le (HMM.out b e) K1.out.size) X5.out.size) fun e=>Nat.lt_of_lt_of_le (O1.out.block b e).2 X5.out.size) HQ.out.1 HQ.out.2.1 HQ.out.2.2);have B5:=(Blk.made wr (aC a.1 a.2) 35).cells;unfold aC at *;clear g5 hlt;go_wp2_with fail
   clear q0 q1 q2 q3 q4 q5 B5;refine HCL.out.mono ?_;rintro e w6 ⟨⟨lg2,lk2,hS6⟩,hk6,⟨hwe,yes,rfl,hyes⟩ | ⟨hlg,rfl⟩⟩
   case' inr =>
    have HLG:=h! (show ∃ a∈l,WalkLong ts T shut a.1 most from⟨a,by
     have h1:=List.mem_of_mem_take (show a∈l.take (i+1)from by rw[HNX.out];simp);exact h1,hlg⟩)
    have S6:=h! (hS6.less (M':=fun b=>M b\/Value.ownBlock (.slice none 0 0)=some b) fun b hb=>hb.imp id fun e=>by cases e);have K6:=h! ((K1.out.next (A2.of X5.out)).next hk6);clear hS6 hk6 hlg HCL;go_wp2_with fail
    go_ret2
    exact⟨⟨_,lg2,lk2,S6.out,.inr ⟨HLG.out,rfl,rfl⟩⟩,K6.out⟩
   case' inl =>
    have S6:=h! hS6;have K6:=h! ((K1.out.next (A2.of X5.out)).next hk6);have O6:=h! ((O1.out.below X5.out).a2 hk6 S5.out.gs.notCells S5.out.ks.notCells)
    have HW6:=h! (show ∀ a∈l.take (i+1),∃ n,WalkEnd ts T shut a.1 most n from fun x hx=>by
     rw[HNX.out]at hx;rcases List.mem_append.1 hx with hx | hx
     ·exact HW.out x hx
     ·rw[List.mem_singleton.1 hx];exact hwe)
    have HY:=h! (show denA ts T shut a=yes from by rw[Bool.eq_iff_iff,denA_iff,hyes]);clear hS6 hk6 hwe hyes HCL;have X7:=h! (Ext.alloc w6 (.cells #[.bool yes] 4));have O7:=h! (O6.out.below X7.out);have S7:=h! (S6.out.up X7.out);have HWS:=h! (show w.heap.size<=w6.heap.size/\w0.heap.size<=w.heap.size from⟨K6.out.size,HS0.out.X.size⟩);go_wp2_with (at_builtin;go_must (refine wpList_ownw boolsT rfl _ _ rfl rfl O7.out rfl (m:=1) (news:=[.bool yes]) rfl (by intro j u hu;rw[Addr.add_lit,cell_of_row _ w6.heap.size (0+j) #[.bool yes] 4 (0,0) (heap_alloc_new w6 _)];simpa using hu) (by simp[Value.oneCell']) (by have:=HLL.out;have:=HLT.out;rw[boC_length,List.length_map,List.length_take];simp;omega) (by have:=HLL.out;have:=HLT.out;rw[boC_length,List.length_map,List.length_take];simp;omega) (by have:=HWS.out.1;have:=X7.out.size;omega) ?_;intro v8 w8 hown8 hbx8 hg8;have HO8:=h! hown8;have S8:=h! (S7.out.grown (M':=fun b=>M b\/v8.ownBlock=some b) O7.out hg8 (fun _ e => .inr e) (by decide) HWS.out.2 (fun b hb=>hb.elim (fun e => .inl (.inl e)) fun e=>(hbx8 b e).imp .inr id));have K8:=h! (show A2 gm km w w8 from⟨hg8.os.trans (K6.out.next (A2.of X7.out)).os,hg8.tape.trans (K6.out.next (A2.of X7.out)).tape,hg8.output.trans (K6.out.next (A2.of X7.out)).output,Nat.le_trans (K6.out.next (A2.of X7.out)).size hg8.size,fun x hx=>(hg8.block x (Nat.lt_of_lt_of_le hx.1 (K6.out.next (A2.of X7.out)).size) fun e=>by have:=(O7.out.block x e.symm).1;have:=hx.1;omega).trans ((K6.out.next (A2.of X7.out)).block x hx)⟩);clear hown8 hbx8 hg8))
    go_roundw
    case rel=>exact⟨i+1,lg2,lk2,HLT.out,by first | rw[HWI.out] | go_num,S8.out,by rw[HNX.out,List.map_append,show boC ((l.take i).map (denA ts T shut)++[a].map (denA ts T shut))=boC ((l.take i).map (denA ts T shut))++[.bool yes]from by simp[boC,HY.out]];exact HO8.out,K8.out,HW6.out⟩
    case measure=>have:=HLT.out;(try rw[HWI.out]);simp[intOf];omega
  ·obtain rfl:i=l.length:=by omega
   rw[List.take_length]at O1 HW;go_wp2_with fail
   go_ret2
   exact⟨⟨_,lg1,lk1,S1.out,.inl ⟨HW.out,rfl,O1.out⟩⟩,K1.out⟩
structure SchArg (ts:List TyS):Prop where
 ok:∀ t∈ts,t.Ok
 bk:schB ts<=549755813888
 sz:∀ t∈ts,∀ r∈t.rels,r.2.sz<=1000000
 nms:(namesOf ts).length<=1099511627776
 rfs:(refsOf ts).length<=1099511627776
theorem bstart_any (ts:List TyS)(tv:Value)(b:Nat)(T:List Tup)(shut:List R2)(sv:Value)(most:Int)(w:World)(hI:AskIn w ts tv b T shut sv)(hS:SchArg ts)(hc:chk06 ts=0) :
  Calls Tryz.prog 101 #[.agg #[tv],bkV b,sv,.int .i64 most] w fun e w'=>∃ xb gm km,e = .returned (.tuple #[.pointer (some ⟨xb,0,none⟩),.int .i64 0])/\AskrAt (fun _=>False) w w' xb gm km tv (bkV b) sv most ts T shut [] []:=by
 have HI:=h! hI;obtain⟨ao,c,rfl,-⟩:=hI.Y.rows;obtain⟨so,sc,rfl,-⟩:=Sl.rows r2C_length (by decide) hI.V;obtain⟨wa,hwa⟩:∃ x,x=w.alloc (.cells #[.slice ao ts.length c] 26):=⟨_,rfl⟩;have XA:=h! (show Ext w wa from by rw[hwa];exact Ext.alloc _ _);have BS:=h! (show Blk wa w.heap.size #[.slice ao ts.length c] 26 from by rw[hwa];exact Blk.made _ _ _);have HCH:=h! (checkP_any ts _ wa (hI.Y.up XA.out) hS.ok hS.bk hS.sz hS.nms hS.rfs);rw[hc]at HCH;have sb:=BS.out.cells;have hmm:=@run_makeMap Tryz.prog;clear hI hS hc;subst hwa;go_enter Tryz.func101,Tryz.ntmps101
 go_wp2_with fail
 refine HCH.out.mono ?_;rintro e w1 ⟨rfl,hb1⟩;have X1:=h! (show Ext w w1 from Ext.trans XA.out hb1);have sb1:=(BS.out.below hb1).cells;clear hb1 HCH sb;obtain⟨w2,hw2⟩:∃ y,y=w1.alloc (.map #[] 0):=⟨_,rfl⟩;obtain⟨w3,hw3⟩:∃ y,y=w2.alloc (.map #[] 0):=⟨_,rfl⟩;obtain⟨w4,hw4⟩:∃ y,y=w3.alloc (.cells #[.slice ao ts.length c,bkV b,.slice so shut.length sc,.int .i64 most,.map (some w1.heap.size),.map (some (w1.heap.size+1))] 264):=⟨_,rfl⟩;have e2:w2.heap.size=w1.heap.size+1:=by rw[hw2];simp
 have e3:w3.heap.size=w1.heap.size+2:=by rw[hw3];simp[e2]
 have x12:Ext w1 w2:=by rw[hw2];exact Ext.alloc _ _
 have x23:Ext w2 w3:=by rw[hw3];exact Ext.alloc _ _
 have x34:Ext w3 w4:=by rw[hw4];exact Ext.alloc _ _
 have HF:=h! (show AskrAt (fun _=>False) w w4 (w1.heap.size+2) w1.heap.size (w1.heap.size+1) (.slice ao ts.length c) (bkV b) (.slice so shut.length sc) most ts T shut [] [] from
  ⟨X1.out.trans (x12.trans (x23.trans x34)),by have:=X1.out.size;omega,by rw[hw4,<- e3];exact Blk.made _ _ _,Mp.below (show Mp _ _ _ _ w2 w1.heap.size []from by rw[hw2];exact Mp.made w1) (x23.trans x34),Mp.below (show Mp _ _ _ _ w3 (w1.heap.size+1) []from by rw[hw3,<- e2];exact Mp.made w2) x34,(fun e he=>by cases he),(fun e he=>by cases he),by omega⟩)
 clear e2 e3 x12 x23 x34;subst hw4 hw3 hw2;unfold bkV at *;go_wp2_with fail
 go_ret2
 exact⟨_,_,_,rfl,HF.out⟩
theorem bstartE_any (ts:List TyS)(tv fv sv mv:Value)(w:World)(h:TysAt (· < w.heap.size) w ts tv)(hS:SchArg ts)(hc:chk06 ts≠0) :
  Calls Tryz.prog 101 #[.agg #[tv],fv,sv,mv] w fun e w'=>e = .returned (.tuple #[.pointer none,.int .i64 (chk06 ts)])/\Ext w w':=by
 obtain⟨ao,c,rfl,-⟩:=h.rows;obtain⟨wa,hwa⟩:∃ x,x=w.alloc (.cells #[.slice ao ts.length c] 26):=⟨_,rfl⟩;have XA:=h! (show Ext w wa from by rw[hwa];exact Ext.alloc _ _);have BS:=h! (show Blk wa w.heap.size #[.slice ao ts.length c] 26 from by rw[hwa];exact Blk.made _ _ _);have HCH:=h! (checkP_any ts _ wa (h.up XA.out) hS.ok hS.bk hS.sz hS.nms hS.rfs);have sb:=BS.out.cells;obtain⟨q,hq,hq0⟩:∃ q:Int,Hid (chk06 ts=q)/\(q != 0)=true:=⟨_,h! rfl,by simpa using hc⟩;rw[hq.out]at HCH ⊢;clear h hS hc;subst hwa;go_enter Tryz.func101,Tryz.ntmps101
 go_wp2_with fail
 refine HCH.out.mono ?_;rintro e w1 ⟨rfl,hb1⟩;have X1:=h! (show Ext w w1 from Ext.trans XA.out hb1);clear hb1 HCH sb;go_wp2_with fail
 go_ret2
 exact⟨rfl,X1.out⟩
theorem bstartF_any (ts:List TyS)(tv sv mv:Value)(w:World)(h:TysAt (· < w.heap.size) w ts tv)(hS:SchArg ts)(hc:chk06 ts=0) :
  Calls Tryz.prog 101 #[.agg #[tv],.nilIface,sv,mv] w fun e w'=>e = .returned (.tuple #[.pointer none,.int .i64 1])/\Ext w w':=by
 obtain⟨ao,c,rfl,-⟩:=h.rows;obtain⟨wa,hwa⟩:∃ x,x=w.alloc (.cells #[.slice ao ts.length c] 26):=⟨_,rfl⟩;have XA:=h! (show Ext w wa from by rw[hwa];exact Ext.alloc _ _);have BS:=h! (show Blk wa w.heap.size #[.slice ao ts.length c] 26 from by rw[hwa];exact Blk.made _ _ _);have HCH:=h! (checkP_any ts _ wa (h.up XA.out) hS.ok hS.bk hS.sz hS.nms hS.rfs);rw[hc]at HCH;have sb:=BS.out.cells;clear h hS hc;subst hwa;go_enter Tryz.func101,Tryz.ntmps101
 go_wp2_with fail
 refine HCH.out.mono ?_;rintro e w1 ⟨rfl,hb1⟩;have X1:=h! (show Ext w w1 from Ext.trans XA.out hb1);clear hb1 HCH sb;go_wp2_with fail
 go_ret2
 exact⟨rfl,X1.out⟩
theorem AskIn.up {w w':World} {ts:List TyS} {tv:Value} {b:Nat} {T:List Tup} {shut:List R2} {sv:Value} (h:AskIn w ts tv b T shut sv)(hx:Ext w w'):AskIn w' ts tv b T shut sv :=
 ⟨h.Y.up hx,h.K.ext hx,(h.V.same (Same.below hx)).mono fun _ hb=>Nat.lt_of_lt_of_le hb hx.size⟩
theorem many_any (ts:List TyS)(tv:Value)(b:Nat)(T:List Tup)(shut:List R2)(sv:Value)(l:List AQ)(lv:Value)(most:Int)(w:World)(hI:AskIn w ts tv b T shut sv)(hS:SchArg ts)(hc:chk06 ts=0)
  (hl:Sl (· < w.heap.size) w 6 lv (l.flatMap aqC)) (hA:∀ a∈l,HasArg ts T shut a.1/\a.1.Ok/\a.2.Ok) (hll:l.length<=1000000) :
  Calls Tryz.prog 40 #[.agg #[tv],bkV b,sv,lv,.int .i64 most] w fun e w'=>(∃ v,AllSaid ts T shut l most w.heap.size v e w')/\Ext w w':=by
 obtain⟨ao,c,rfl,-⟩:=hI.Y.rows;obtain⟨wa,hwa⟩:∃ x,x=w.alloc (.cells #[.slice ao ts.length c] 26):=⟨_,rfl⟩;have XA:=h! (show Ext w wa from by rw[hwa];exact Ext.alloc _ _);have BS:=h! (show Blk wa w.heap.size #[.slice ao ts.length c] 26 from by rw[hwa];exact Blk.made _ _ _);have HI:=h! (hI.up XA.out);have HST:=h! (bstart_any ts _ b T shut sv most wa HI.out hS hc);have HL:=h! hl;have HA:=h! hA;have HLL:=h! hll;have sb:=BS.out.cells;clear hI hS hc hl hA hll;subst hwa;go_enter Tryz.func40,Tryz.ntmps40
 go_wp2_with fail
 refine HST.out.mono ?_;rintro e w1 ⟨xb,gm,km,rfl,hs⟩;have X1:=h! (show Ext w w1 from Ext.trans XA.out hs.X)
 have HAL:=h! (all_any HI.out l lv w1 hs (fun _ h=>h.elim) ((HL.out.same (Same.below X1.out)).mono fun x hx=>by
  have h1:=hs.lo;have h2:=XA.out.size;have h3:=X1.out.size;refine⟨by omega,?_,?_⟩ <;> · simp at h1;omega) HA.out HLL.out)
 have HLO:=h! hs.lo;clear hs HST sb;go_wp2_with fail
 refine HAL.out.mono ?_;rintro e w2 ⟨⟨v,lg,lk,hs2,hsd⟩,hk2⟩;have X2:=h! (show Ext w w2 from Ext.trans XA.out hs2.X);have HSZ:=h! X1.out.size;clear hs2 hk2 HAL;rcases hsd with⟨hw,rfl,ho⟩ | ⟨hlg,rfl,rfl⟩
 ·have HW:=h! hw;have HO:=h! ho;obtain⟨vo,vn,vc,rfl,-⟩:=ho.sl.len;clear hw ho;go_wp2_with fail
  go_ret2
  exact⟨⟨_,.inl ⟨HW.out,rfl,HO.out.mono HSZ.out⟩⟩,X2.out⟩
 ·have HLG:=h! hlg;clear hlg;go_wp2_with fail
  go_ret2
  exact⟨⟨_,.inr ⟨HLG.out,rfl,rfl⟩⟩,X2.out⟩
theorem manyN_any (ts:List TyS)(tv fv sv lv mv:Value)(k:Int)(hk:(k != 0)=true)(w:World)(h:TysAt (· < w.heap.size) w ts tv)
  (hs:∀ W,Ext w W->Calls Tryz.prog 101 #[.agg #[tv],fv,sv,mv] W fun e w'=>e = .returned (.tuple #[.pointer none,.int .i64 k])/\Ext W w') :
  Calls Tryz.prog 40 #[.agg #[tv],fv,sv,lv,mv] w fun e w'=>e = .returned (.tuple #[.slice none 0 0,.int .i64 k])/\Ext w w':=by
 obtain⟨ao,c,rfl,-⟩:=h.rows;have XA:=h! (Ext.alloc w (.cells #[.slice ao ts.length c] 26));have HST:=h! (hs _ XA.out);have sb:=(Blk.made w #[.slice ao ts.length c] 26).cells;clear h hs;go_enter Tryz.func40,Tryz.ntmps40
 go_wp2_with fail
 refine HST.out.mono ?_;rintro e w1 ⟨rfl,hb1⟩;have X1:=h! (show Ext w w1 from Ext.trans XA.out hb1);clear hb1 HST sb;go_wp2_with fail
 go_ret2
 exact⟨rfl,X1.out⟩
theorem WalkEnd.pos {ts:List TyS} {T:List Tup} {shut:List R2} {p:P3} {most:Int} {n:Nat} (h:WalkEnd ts T shut p most n):0<n:=by
 have h2:=h.2;have:=walk_mono ts T shut p (Nat.zero_le n);rw[<- h2,walkN]at this;simp at this;omega
theorem tups_rowsF {S:Nat->Prop} {w:World} {v:Value} {l:List Tup} (h:Sl S w 6 v (tuCs l)) :
  ∃ ao c,v = .slice ao l.length c/\l.length<=c/\c<=9223372036854775807/\∀ i (hi:i<l.length),∃ b off,ao=some ⟨b,off,none⟩/\S b /\
   w.cell? ⟨b,off+i*6,none⟩=some (.string l[i].o.t)/\w.cell? ⟨b,off+i*6+1,none⟩=some (.string l[i].o.i)/\w.cell? ⟨b,off+i*6+2,none⟩=some (.string l[i].o.r) /\
   w.cell? ⟨b,off+i*6+3,none⟩=some (.string l[i].s.t)/\w.cell? ⟨b,off+i*6+4,none⟩=some (.string l[i].s.i)/\w.cell? ⟨b,off+i*6+5,none⟩=some (.string l[i].s.r):=by
 obtain⟨ao,c,rfl,h1,h2,hc⟩:=Sl.rows tuC_length (by decide) (show Sl S w 6 v (l.flatMap tuC)from h);refine⟨ao,c,rfl,h1,h2,fun i hi=>?_⟩;obtain⟨b,off,rfl,hb,hc⟩:=hc (by omega);exact⟨b,off,rfl,hb,hc i hi 0 _ rfl,hc i hi 1 _ rfl,hc i hi 2 _ rfl,hc i hi 3 _ rfl,hc i hi 4 _ rfl,hc i hi 5 _ rfl⟩
def shortT (t:Tup):Bool:=decide (t.o.t.size<=100)&&decide (t.o.i.size<=100)&&decide (t.o.r.size<=100)&&decide (t.s.t.size<=100)&&decide (t.s.i.size<=100)&&decide (t.s.r.size<=100)
def fewL (l:List Tup):Bool:=l.all (fun a=>shortT a)&&decide (l.length<=40)
theorem fewL_bad {l:List Tup} {i:Nat} (hi:i<l.length)(h:shortT l[i]=false):fewL l=false:=by
 unfold fewL;rw[Bool.and_eq_false_iff];left
 rw[List.all_eq_false];exact⟨l[i],List.getElem_mem hi,by simp[h]⟩
theorem fewL_end {l:List Tup} (h:∀ j (hj:j<l.length),j<l.length->shortT l[j]=true):fewL l=decide ((l.length:Int)<=40):=by
 unfold fewL;rw[show l.all (fun a=>shortT a)=true from ?_,Bool.true_and]
 ·by_cases h:l.length<=40
  ·rw[decide_eq_true h,decide_eq_true (by omega)]
  ·rw[decide_eq_false h,decide_eq_false (by omega)]
 ·rw[List.all_eq_true];intro x hx;obtain⟨j,hj,rfl⟩:=List.getElem_of_mem hx;exact h j hj hj
theorem fewL_len {l:List Tup} (h:fewL l=true):l.length<=40:=by
 unfold fewL at h;simp only[Bool.and_eq_true,decide_eq_true_eq]at h;exact h.2
theorem solve_first {w:World} {B:Nat} {v:Value} {L:List Int} (h:Own w B 3 1 v (ic L))(hL:0<L.length):∃ g c,v = .slice (some ⟨g,0,none⟩) L.length c/\w.cell? ⟨g,0,none⟩=some (.int .i64 (L.getD 0 0)):=by
 obtain⟨g,c,cs,rfl,-,hB,-,-,hcs⟩:=h.lay (by
  intro e;have:=congrArg List.length e;rw[ic_length,List.length_nil]at this;omega)
 have h1:0<(ic L).length:=by rw[ic_length];exact hL
 refine⟨g,c,by rw[ic_length],?_⟩;rw[hB.cells 0,hcs 0 h1];simp only[ic,List.getElem_map];rw[List.getD_eq_getElem?_getD,List.getElem?_eq_getElem hL];rfl
structure BI (ts:List TyS)(N0:Nat)(L A:List R2)(ch:Bool)(pr:List (R2 × RT)):Prop where
 upL:UpR L
 upA:UpR A
 least:LeastP ts L
 subA:∀ x∈A,x∈(refsOf ts).map (·.1)
 len0:N0<=L.length
 more:ch=true->N0<L.length
 done:∀ p∈pr,p.1∈A/\(ch=false->p.2.pcan (refsOf ts) L p.1.t=true->p.1∈L)
theorem chk_long {ts:List TyS} (h:chk06 ts=0):longOk ts=true:=by
 unfold chk06 at h;split at h
 ·split at h
  ·assumption
  ·cases h
 ·cases h
theorem long_small {ts:List TyS} (h:longOk ts=true):ts.length<=16/\∀ t∈ts,t.rels.length<=16/\∀ r∈t.rels,r.2.sz<=32:=by
 unfold longOk at h;rw[Bool.and_eq_true,decide_eq_true_eq,List.all_eq_true]at h;refine⟨h.1,fun t ht=>?_⟩;have h2:=h.2 t ht;unfold tyLong at h2;rw[Bool.and_eq_true,decide_eq_true_eq,List.all_eq_true]at h2;exact⟨h2.1,fun r hr=>by simpa using h2.2 r hr⟩
theorem long_refs {ts:List TyS} (h:longOk ts=true):(refsOf ts).length<=256:=by
 obtain⟨h1,h2⟩:=long_small h;have:=flat_le (fun t:TyS=>relsOf t.name t.rels) 16 ts fun t ht=>by unfold relsOf;rw[List.length_map];exact(h2 t ht).1
 unfold refsOf;omega
end Go.Proofs.YtlhaghoajpglaaaGreat
namespace Go.Proofs.YtlhaghoajpglaaaGreat
open Go Go.RowKit Go.ChangeShapes Go.WideShapes Go.ChangeAt
def bc (l:List UInt8):List Value:=l.map fun c => .int .u8 c.toNat
section
variable {H : Type} {enc : TypeId × Value -> H} {W : World} {base : Nat} {v : Value} {d : DataW H} {ps : List MemPlace}
end
end Go.Proofs.YtlhaghoajpglaaaGreat
namespace Go.Proofs.YtlhaghoajpglaaaGreat
open Go Go.RowKit Go.Maps
def Tp (w:World)(tp:Nat):Prop:=∃ (bv:Value)(l:List UInt8)(n:Nat),n<=l.length/\Sl (· < tp) w 1 bv (bc l)/\Blk w tp #[bv,.int .i64 n] 41
theorem nms_len (r:RT):r.nms.length<=2*r.sz:=by
 induction r using RT.ind with
 | h r ih =>
  have:∀ l:List RT,(∀ x∈l,x∈r.ps)->(nmsL l).length<=2*szL l:=by
   intro l;induction l with
   | nil=>intro _;simp[nmsL]
   | cons x l ihl =>
    intro hx;rw[nmsL,szL,List.length_append];have h1:=ih x (hx x (by simp));have h2:=ihl fun y hy=>hx y (List.mem_cons_of_mem _ hy);omega
  have h:=this r.ps fun _ h=>h;rw[RT.nms_eq,List.length_cons,List.length_cons];obtain⟨k,a,b,ps⟩:=r;rw[RT.sz];simp only[RT.ps]at h ⊢;omega
theorem nms_ok (r:RT)(h:r.Ok):∀ n∈r.nms,n.size<=maxLen:=by
 induction r using RT.ind with
 | h r ih =>
  obtain⟨k,a,b,ps⟩:=r;rw[RT.Ok]at h;intro n hn;rw[RT.nms_eq]at hn;simp only[RT.a,RT.b,RT.ps,List.mem_cons]at hn;rcases hn with rfl | rfl | hn
  ·exact Nat.le_trans h.2.1 (by decide)
  ·exact Nat.le_trans h.2.2.1 (by decide)
  ·have hp:=okL_mem.1 h.2.2.2
   have:∀ l:List RT,(∀ x∈l,x∈ps)->∀ n∈nmsL l,n.size<=maxLen:=by
    intro l;induction l with
    | nil=>intro _ n hn;simp[nmsL]at hn
    | cons x l ihl =>
     intro hx n hn;rw[nmsL,List.mem_append]at hn;rcases hn with hn | hn
     ·exact ih x (hx x (by simp)) (hp x (hx x (by simp))) n hn
     ·exact ihl (fun y hy=>hx y (List.mem_cons_of_mem _ hy)) n hn
   exact this ps (fun _ h=>h) n hn
def allN (ts:List TyS):List ByteArray:=(refsOf ts).flatMap fun x=>x.2.nms
theorem allN_mem (ts:List TyS):NmU ts (allN ts):=fun x hx _n hn=>List.mem_flatMap.2 ⟨x,hx,hn⟩
theorem flatN_len {α β:Type} (f:α->List β)(m:Nat):∀ (l:List α),(∀ x∈l,(f x).length<=m)->(l.flatMap f).length<=l.length*m
 | [],_=>by simp
 | a::l,h=>by
  rw[List.flatMap_cons,List.length_append,List.length_cons,Nat.add_mul];have h1:=h a (by simp);have h2:=flatN_len f m l fun x hx=>h x (List.mem_cons_of_mem _ hx);omega
theorem refs_sz {ts:List TyS} (h:longOk ts=true):∀ x∈refsOf ts,x.2.sz<=32:=fun x hx=>by
 obtain⟨t,ht,r,hr,rfl⟩:=refs_mem.1 hx;unfold longOk at h;rw[Bool.and_eq_true,List.all_eq_true]at h;have h2:=h.2 t ht;unfold tyLong at h2;rw[Bool.and_eq_true,List.all_eq_true]at h2;simpa using h2.2 r hr
theorem refs_ok {ts:List TyS} (h:∀ t∈ts,t.Ok):∀ x∈refsOf ts,x.2.Ok:=fun x hx=>by
 obtain⟨t,ht,r,hr,rfl⟩:=refs_mem.1 hx;exact((h t ht).2 r hr).2
def objU (T:List Tup)(p:P3):List (ByteArray × ByteArray):=(p.t,p.i)::T.map fun t=>(t.s.t,t.s.i)
def namU (N:List ByteArray)(T:List Tup)(p:P3):List ByteArray:=p.r::(T.map fun t=>t.s.r)++N
theorem okU (T:List Tup)(p:P3)(N:List ByteArray):OkU T (objU T p) (namU N T p) where
 objs t ht:=List.mem_cons_of_mem _ (List.mem_map.2 ⟨t,ht,rfl⟩)
 rels t ht:=by unfold namU;rw[List.cons_append];exact List.mem_cons_of_mem _ (List.mem_append_left _ (List.mem_map.2 ⟨t,ht,rfl⟩))
theorem inU_walk {ts:List TyS} (T:List Tup)(shut:List R2)(p:P3) {N:List ByteArray} (hN:NmU ts N)(n:Nat):∀ x∈(walkN ts T shut p n).1,InU (objU T p) (namU N T p) x :=
 walkN_in (okU T p N) (fun x hx m hm=>by unfold namU;rw[List.cons_append];exact List.mem_cons_of_mem _ (List.mem_append_right _ (hN x hx m hm))) shut ⟨by simp[objU],by simp[namU]⟩ n
theorem walk_few {ts:List TyS} (T:List Tup)(shut:List R2)(p:P3) {N:List ByteArray} (hN:NmU ts N)(n:Nat):(walkN ts T shut p n).1.length<=(T.length+1)*(T.length+N.length+1):=by
 have h:=inU_few (walkN_nodup ts T shut p n) (inU_walk T shut p hN n);simp only[objU,namU,List.length_cons,List.length_append,List.length_map]at h;rwa[show T.length+1+N.length=T.length+N.length+1 by omega]at h
theorem walkIn_chk {ts:List TyS} {T:List Tup} (shut:List R2) {p:P3} (hc:longOk ts=true)(hok:∀ t∈ts,t.Ok)(hT:T.length<=100)(hTo:∀ t∈T,t.Ok)(hp:p.Ok):WalkIn ts T shut p 2000000 where
 okp n x hx:=by
  have h:=inU_walk T shut p (allN_mem ts) n x hx
  have hN:∀ m∈allN ts,m.size<=maxLen:=fun m hm=>by
   obtain⟨y,hy,hm⟩:=List.mem_flatMap.1 hm;exact nms_ok _ (refs_ok hok y hy) m hm
  obtain⟨h1,h2⟩:=h
  have hO:x.t.size<=maxLen/\x.i.size<=maxLen:=by
   rcases List.mem_cons.1 h1 with h1 | h1
   ·have e1:=congrArg Prod.fst h1;have e2:=congrArg Prod.snd h1;dsimp only at e1 e2;rw[e1,e2];exact⟨hp.1,hp.2.1⟩
   ·obtain⟨t,ht,e⟩:=List.mem_map.1 h1;have h3:=(hTo t ht).2;have e1:=congrArg Prod.fst e;have e2:=congrArg Prod.snd e;dsimp only at e1 e2;rw[<- e1,<- e2];exact⟨h3.1,h3.2.1⟩
  refine⟨hO.1,hO.2,?_⟩;unfold namU at h2;rw[List.cons_append,List.mem_cons,List.mem_append]at h2;rcases h2 with h2 | h2 | h2
  ·rw[h2];exact hp.2.2
  ·obtain⟨t,ht,e⟩:=List.mem_map.1 h2;rw[<- e];exact(hTo t ht).2.2.2
  ·exact hN _ h2
 few n:=by
  have h:=walk_few T shut p (allN_mem ts) n
  have h2:(allN ts).length<=256*64:=by
   have h3:=flatN_len (fun x:R2 × RT=>x.2.nms) 64 (refsOf ts) fun x hx=>by have:=nms_len x.2;have:=refs_sz hc x hx;omega
   have h4:=long_refs hc;unfold allN;exact Nat.le_trans h3 (Nat.mul_le_mul_right _ h4)
  have h5:(T.length+1)*(T.length+(allN ts).length+1)<=101*(100+256*64+1):=Nat.mul_le_mul (by omega) (by omega);omega
 room x hx:=by
  have h1:=refs_sz hc x hx;have h2:x.2.sz*(T.length+1)<=32*101:=Nat.mul_le_mul h1 (by omega);omega
 nmax:=by omega
 rok:=refs_ok hok
 tok t ht:=(hTo t ht).2
 tlen:=by omega
theorem HasArg.of {ts:List TyS} {T:List Tup} {shut:List R2} {p:P3} (hc:chk06 ts=0)(hok:∀ t∈ts,t.Ok)(hb:schB ts<=549755813888)(hn:(namesOf ts).length<=1099511627776)(hr:(refsOf ts).length<=1099511627776)(hT:T.length<=41)(hTo:∀ t∈T,t.Ok)(hp:p.Ok)(hso:∀ r∈shut,r.Ok):HasArg ts T shut p:=by
 have hl:=chk_long hc;have hw:=walkIn_chk (T:=T) shut hl hok (by omega) hTo hp;have hsz:∀ t∈ts,∀ r∈t.rels,r.2.sz<=32:=fun t ht r hr'=>refs_sz hl ⟨⟨t.name,r.1⟩,r.2⟩ (refs_mem.2 ⟨t,ht,r,hr',rfl⟩)
 have hN:∀ n,(walkN ts T shut p n).1.length<=1000000:=fun n=>by
  have h:=walk_few T shut p (allN_mem ts) n
  have h2:(allN ts).length<=256*64:=by
   have h3:=flatN_len (fun x:R2 × RT=>x.2.nms) 64 (refsOf ts) fun x hx=>by have:=nms_len x.2;have:=refs_sz hl x hx;omega
   have h4:=long_refs hl;unfold allN;exact Nat.le_trans h3 (Nat.mul_le_mul_right _ h4)
  have h5:(T.length+1)*(T.length+(allN ts).length+1)<=42*(41+256*64+1):=Nat.mul_le_mul (by omega) (by omega);omega
 have hrm:∀ x∈refsOf ts,x.2.sz*(T.length+1)<=32*42:=fun x hx=>Nat.mul_le_mul (refs_sz hl x hx) (by omega)
 exact⟨hok,hc,hb,fun t ht r hr'=>Nat.le_trans (hsz t ht r hr') (by decide),hn,hr,hso,
  ⟨hw.okp,hN,fun x hx=>by have:=hrm x hx;omega,by decide,hw.rok,hw.tok,hw.tlen⟩,fun x hx=>by have:=hrm x hx;omega⟩
def viB:ByteArray:=⟨#[118,105,101,119,101,114]⟩
def usB:ByteArray:=⟨#[117,115,101,114]⟩
def thB:ByteArray:=⟨#[116,104,105,115]⟩
def txtL:ByteArray:=⟨#[116,121,112,101,32,100,111,99,10,118,105,101,119,101,114,32,61,32,116,104,105,115,10,116,121,112,101,32,117,115,101,114]⟩
def itsL:List PIt:=[.ty docB,.rel viB thB [],.ty usB]
def lnsL:List ByteArray:=[⟨#[116,121,112,101,32,100,111,99]⟩,⟨#[118,105,101,119,101,114,32,61,32,116,104,105,115]⟩,⟨#[116,121,112,101,32,117,115,101,114]⟩]
def tsL:List TyS:=[⟨docB,[(viB,.mk 1 ⟨#[]⟩ ⟨#[]⟩ [])]⟩,⟨usB,[]⟩]
theorem linesL:linesD txtL=lnsL:=by kernel_rfl
theorem stepL:itsL.foldl stepD []=tsL:=by kernel_rfl
theorem lnsOkL:(lnsL.zip itsL).all (fun p=>lnOkB p.1 p.2)=true:=by kernel_rfl
theorem fitsL:itsL.all PIt.fitB=true:=by kernel_rfl
theorem chkL:chk06 tsL=0:=by kernel_rfl
theorem okL_:∀ t∈tsL,t.Ok:=by
 intro t ht;unfold tsL at ht;simp only[List.mem_cons,List.not_mem_nil,or_false]at ht;rcases ht with rfl | rfl
 ·refine⟨by decide,fun r hr=>?_⟩;obtain rfl:=List.mem_singleton.1 hr;exact⟨by decide,by simp[RT.Ok,okL];decide⟩
 ·exact⟨by decide,fun r hr=>by cases hr⟩
def pL:P3:=⟨docB,⟨#[49]⟩,viB⟩
def uL:P3:=⟨usB,⟨#[50]⟩,⟨#[]⟩⟩
def TLk:List Tup:=[⟨pL,uL⟩]
theorem setTL:SetT TLk TLk:=⟨List.pairwise_singleton _ _,fun t=>⟨fun h=>⟨h,by
 obtain rfl:=List.mem_singleton.1 h;kernel_rfl⟩,fun h=>h.1⟩⟩
theorem okTL:∀ t∈TLk,t.Ok:=by
 intro t ht;obtain rfl:=List.mem_singleton.1 ht;exact⟨⟨by decide,by decide,by decide⟩,⟨by decide,by decide,by decide⟩⟩
theorem argL {p:P3} (hp:p.Ok):HasArg tsL TLk [] p:=HasArg.of chkL okL_ (by decide) (by decide) (by decide) (by decide) okTL hp (by simp)
theorem endL:WalkEnd tsL TLk [] pL 9 1:=by
 have h0:(walkN tsL TLk [] pL 0).1.length=1:=by kernel_rfl
 have h1:(walkN tsL TLk [] pL 1).1.length=1:=by kernel_rfl
 refine⟨fun m hm=>?_,h1.symm⟩;obtain rfl:m=0:=by omega
 rw[h0];exact⟨by decide,by decide⟩
theorem ruleL:ruleOf tsL [] pL=some (.mk 1 ⟨#[]⟩ ⟨#[]⟩ []):=by rfl
theorem denL {s:P3}:Den tsL TLk [] s pL↔s=uL:=by
 have hs:subsOf TLk pL=[uL]:=by rfl
 constructor
 ·rintro⟨n,h⟩;induction n with
  | zero=>exact h.elim
  | succ n ih =>
   rcases h with h | ⟨r,hr,h⟩
   ·exact ih h
   ·rw[ruleL]at hr;cases hr;rw[holdT_eq,if_pos (show(RT.mk 1 ⟨#[]⟩ ⟨#[]⟩ []).k=1 from rfl),hs]at h;rcases h with h | ⟨q,hq,-⟩
    ·exact List.mem_singleton.1 h
    ·have:=setsOf_has.1 hq;rw[List.mem_singleton.1 this.1]at this;exact absurd rfl this.2
 ·rintro rfl;exact Den.said (t:=⟨pL,uL⟩) (List.mem_singleton.2 rfl) ruleL rfl
def zL:P3:=⟨⟨#[]⟩,⟨#[]⟩,⟨#[]⟩⟩
def asksL:List AQ:=[(pL,uL),(pL,zL)]
theorem schL:SchArg tsL:=⟨okL_,by decide,sz_sch (by decide),by decide,by decide⟩
theorem asksL_arg:∀ a∈asksL,HasArg tsL TLk [] a.1/\a.1.Ok/\a.2.Ok:=by
 intro a ha;unfold asksL at ha;simp only[List.mem_cons,List.not_mem_nil,or_false]at ha;have hp:pL.Ok:=⟨by decide,by decide,by decide⟩;rcases ha with rfl | rfl
 ·exact⟨argL hp,hp,⟨by decide,by decide,by decide⟩⟩
 ·exact⟨argL hp,hp,⟨by decide,by decide,by decide⟩⟩
theorem denAL:asksL.map (denA tsL TLk [])=[true,false]:=by
 have h1:denA tsL TLk [] (pL,uL)=true:=denA_iff.2 (denL.2 rfl)
 have h2:denA tsL TLk [] (pL,zL)=false:=by
  rw[Bool.eq_false_iff];intro h;have h3:=denL.1 (denA_iff.1 h);exact absurd (congrArg P3.t h3) (by decide)
 show [_,_]=_
 rw[h1,h2]
theorem manyL (ao:Option Addr)(c b:Nat)(lv:Value)(w:World)(h:TysAt (· < w.heap.size) w tsL (.slice ao 2 c))(hb:BookAt w b TLk)(hl:Sl (· < w.heap.size) w 6 lv (asksL.flatMap aqC)) :
  Calls Tryz.prog 40 #[.agg #[.slice ao 2 c],bkV b,.slice none 0 0,lv,.int .i64 9] w fun e w'=>∃ vo vc,e = .returned (.tuple #[.slice vo 2 vc,.int .i64 0])/\Sl (· < w'.heap.size) w' 1 (.slice vo 2 vc) (boC [true,false])/\Ext w w':=by
 refine(many_any tsL (.slice ao 2 c) b TLk [] (.slice none 0 0) asksL lv 9 w ⟨h,hb,Sl.nil _ _ _⟩ schL chkL hl asksL_arg (by decide)).mono ?_;rintro e w' ⟨⟨v,⟨-,rfl,ho⟩ | ⟨⟨a,ha,hlg⟩,-,-⟩⟩,hx⟩
 ·rw[denAL]at ho;obtain⟨vo,vn,vc,rfl,hvn,-,-⟩:=ho.sl.len;rw[boC_length,Nat.mul_one]at hvn;obtain rfl:vn=2:=hvn.symm;exact⟨vo,vc,rfl,ho.sl.mono fun _ hb=>hb.2,hx⟩
 ·exfalso
  unfold asksL at ha;simp only[List.mem_cons,List.not_mem_nil,or_false]at ha;rcases ha with rfl | rfl <;> exact endL.notLong hlg
theorem fixed32_any (w:World):Calls Tryz.prog 37 #[] w fun e w'=>e = .returned (.bool true)/\Below w.heap.size w w':=by
 have HPA:=h! (parse_any txtL itsL w (by decide) (by rw[linesL];rfl) (by rw[linesL];exact lnsOk_of lnsOkL) (fits_of fitsL) (fun _=>⟨docB,rfl⟩) (by decide));rw[stepL]at HPA;unfold txtL at HPA;go_enter Tryz.func37,Tryz.ntmps37
 go_wp2_with fail
 refine HPA.out.mono ?_;rintro e w1 ⟨tv,rfl,hty,hb1⟩;obtain⟨aot,ct,rfl,-,-,-⟩:=hty.rows;rw[show tsL.length=2 from rfl]at *;obtain⟨wS,hwS⟩:∃ y,y=w1.alloc (.cells #[.slice aot 2 ct] 26):=⟨_,rfl⟩;obtain⟨wt,hwt⟩:∃ y,y=wS.alloc (.cells #[.string ⟨#[100,111,99]⟩,.string ⟨#[49]⟩,.string ⟨#[118,105,101,119,101,114]⟩,.string ⟨#[117,115,101,114]⟩,.string ⟨#[50]⟩,.string ⟨#[]⟩] 67):=⟨_,rfl⟩;obtain⟨wp,hwp⟩:∃ y,y=wt.alloc (.cells #[.string ⟨#[100,111,99]⟩,.string ⟨#[49]⟩,.string ⟨#[118,105,101,119,101,114]⟩] 32):=⟨_,rfl⟩;have es:wS.heap.size=w1.heap.size+1:=by rw[hwS];simp
 have et:wt.heap.size=w1.heap.size+1+1:=by rw[hwt];simp[es]
 have x1:Ext w1 wS:=by rw[hwS];exact Ext.alloc _ _
 have x2:Ext wS wt:=by rw[hwt];exact Ext.alloc _ _
 have x3:Ext wt wp:=by rw[hwp];exact Ext.alloc _ _
 have X1:=h! (show Ext w1 wp from x1.trans (x2.trans x3));have HTY:=h! ((hty.mono (S':=(· < w1.heap.size)) fun b hb=>hb.2).up X1.out);have HB1:=h! (show Below w.heap.size w wp from hb1.trans (X1.out.mono hb1.size));have HS1:=h! (show Blk wp w1.heap.size #[.slice aot 2 ct] 26 from Blk.below (by rw[hwS];exact Blk.made _ _ _) (x2.trans x3));have HT1:=h! (show Blk wp (w1.heap.size+1) #[.string ⟨#[100,111,99]⟩,.string ⟨#[49]⟩,.string ⟨#[118,105,101,119,101,114]⟩,.string ⟨#[117,115,101,114]⟩,.string ⟨#[50]⟩,.string ⟨#[]⟩] 67 from Blk.below (by rw[hwt,<- es];exact Blk.made _ _ _) x3);have HP1:=h! (show Blk wp (w1.heap.size+1+1) #[.string ⟨#[100,111,99]⟩,.string ⟨#[49]⟩,.string ⟨#[118,105,101,119,101,114]⟩] 32 from by rw[hwp,<- et];exact Blk.made _ _ _);have bt:∀ i,wt.cell? ⟨w1.heap.size+1,i,none⟩=(#[.string ⟨#[100,111,99]⟩,.string ⟨#[49]⟩,.string ⟨#[118,105,101,119,101,114]⟩,.string ⟨#[117,115,101,114]⟩,.string ⟨#[50]⟩,.string ⟨#[]⟩]:Array Value)[i]?:=(show Blk wt (w1.heap.size+1) _ _ from by rw[hwt,<- es];exact Blk.made _ _ _).cells;clear hty hb1 HPA es et x1 x2 x3;subst hwt hwS;go_wp2_with fail
 clear bt;rw[<- hwp];clear hwp;generalize w1.heap.size+1+1=pb at *;generalize w1.heap.size+1=tb at *;generalize w1.heap.size=sb at *;obtain⟨wd,hwd⟩:∃ wd,Hid (wd=World.drew wp):=⟨_,h! rfl⟩;have hxd:=h! (show Ext wp wd from by rw[hwd.out];exact Ext.drew _);apply Code.wp_mono (Q:=J5 (fun(bk g2 g11:Nat) (vo:Option Addr) (vc:Nat) W=>Ext wd W/\Sl (· < W.heap.size) W 1 (.slice vo 2 vc) (boC [true,false])) _) ?rest ?reg
 case reg =>
  have hE:=h! (Ext.refl wd);refine region_walkN (Ext wd) (by rw[<- hwd.out];exact Ext.refl _) (by kernel_rfl) (by kernel_rfl) (fun _ _ d _ _ h=>by cases h.1) ?_;rw[<- hwd.out];have HNB:=h! (fun W gk hL=>bookT_any setTL (.slice (some ⟨gk,0,none⟩) 1 1) W hL (by decide) okTL);have HMN:=h! (fun W bk g (hx:Ext wd W) hB hA=>manyL aot ct bk (.slice (some ⟨g,0,none⟩) 2 2) W (HTY.out.up (hxd.out.trans hx)) hB hA);have h1:=fun W (h:Ext wd W)=>(HS1.out.below (hxd.out.trans h)).cells;have h2:=fun W (h:Ext wd W)=>(HT1.out.below (hxd.out.trans h)).cells;have h3:=fun W (h:Ext wd W)=>(HP1.out.below (hxd.out.trans h)).cells;(refine WalkN.tk [0,1,5,6,7,8,9,10] ?_;(iterate 8 (refine c! ?_));refine TkN.n ?_)
  clear h1 h2 h3;refine p! 2 11 ?_ ?_;refine b! ?_;intro K hK;go_simp;obtain⟨g2,hg2⟩:∃ x,x=wd.heap.size:=⟨_,rfl⟩;rw[<- hg2];have hA0:=Ext.alloc wd (.cells #[.string ⟨#[100,111,99]⟩,.string ⟨#[49]⟩,.string ⟨#[118,105,101,119,101,114]⟩,.string ⟨#[117,115,101,114]⟩,.string ⟨#[50]⟩,.string ⟨#[]⟩] 67);have hL0:Sl (fun b=>b<(wd.alloc (.cells #[.string ⟨#[100,111,99]⟩,.string ⟨#[49]⟩,.string ⟨#[118,105,101,119,101,114]⟩,.string ⟨#[117,115,101,114]⟩,.string ⟨#[50]⟩,.string ⟨#[]⟩] 67)).heap.size) (wd.alloc (.cells #[.string ⟨#[100,111,99]⟩,.string ⟨#[49]⟩,.string ⟨#[118,105,101,119,101,114]⟩,.string ⟨#[117,115,101,114]⟩,.string ⟨#[50]⟩,.string ⟨#[]⟩] 67)) 6 (.slice (some ⟨g2,0,none⟩) 1 1) (tuCs TLk):=by rw[hg2];exact Sl.made wd _ 6 1 67 _ rfl (by decide) (by simp)
  have hX0:=Ext.trans hE.out hA0;refine hK.out _ _ hX0 ?_;clear hK hg2;generalize wd.alloc (.cells #[.string ⟨#[100,111,99]⟩,.string ⟨#[49]⟩,.string ⟨#[118,105,101,119,101,114]⟩,.string ⟨#[117,115,101,114]⟩,.string ⟨#[50]⟩,.string ⟨#[]⟩] 67)=u1 at *;have hE:=h! hX0;have HL:=h! hL0;clear hA0 hX0 hL0;refine p! 3 11 ?_ ?_;refine b! ?_;intro K hK;go_simp;refine(HNB.out u1 g2 HL.out).mono ?_;rintro e u2 ⟨bk,rfl,hB1,hx1⟩;have hX1:=Ext.trans hE.out hx1;refine hK.out _ _ hX1 ?_;clear hK;have HBK:=h! hB1;have hE:=h! hX1;clear hx1 hX1 hB1 HL;refine t! 4 ?_
  refine o! 11 ?_;refine b! ?_;intro K hK;go_simp;obtain⟨g11,hg11⟩:∃ x,x=u2.heap.size:=⟨_,rfl⟩;rw[<- hg11];have hA2:=Ext.alloc u2 (.cells #[.string ⟨#[100,111,99]⟩,.string ⟨#[49]⟩,.string ⟨#[118,105,101,119,101,114]⟩,.string ⟨#[117,115,101,114]⟩,.string ⟨#[50]⟩,.string ⟨#[]⟩,.string ⟨#[100,111,99]⟩,.string ⟨#[49]⟩,.string ⟨#[118,105,101,119,101,114]⟩,.string ⟨#[]⟩,.string ⟨#[]⟩,.string ⟨#[]⟩] 35);have hL2:Sl (fun b=>b<(u2.alloc (.cells #[.string ⟨#[100,111,99]⟩,.string ⟨#[49]⟩,.string ⟨#[118,105,101,119,101,114]⟩,.string ⟨#[117,115,101,114]⟩,.string ⟨#[50]⟩,.string ⟨#[]⟩,.string ⟨#[100,111,99]⟩,.string ⟨#[49]⟩,.string ⟨#[118,105,101,119,101,114]⟩,.string ⟨#[]⟩,.string ⟨#[]⟩,.string ⟨#[]⟩] 35)).heap.size) (u2.alloc (.cells #[.string ⟨#[100,111,99]⟩,.string ⟨#[49]⟩,.string ⟨#[118,105,101,119,101,114]⟩,.string ⟨#[117,115,101,114]⟩,.string ⟨#[50]⟩,.string ⟨#[]⟩,.string ⟨#[100,111,99]⟩,.string ⟨#[49]⟩,.string ⟨#[118,105,101,119,101,114]⟩,.string ⟨#[]⟩,.string ⟨#[]⟩,.string ⟨#[]⟩] 35)) 6 (.slice (some ⟨g11,0,none⟩) 2 2) (asksL.flatMap aqC):=by rw[hg11];exact Sl.made u2 _ 6 2 35 _ rfl (by decide) (by simp)
  have hX2:=Ext.trans hE.out hA2;refine hK.out _ _ hX2 ?_;clear hK hg11;have HBK:=h! (HBK.out.ext hA2);generalize u2.alloc (.cells #[.string ⟨#[100,111,99]⟩,.string ⟨#[49]⟩,.string ⟨#[118,105,101,119,101,114]⟩,.string ⟨#[117,115,101,114]⟩,.string ⟨#[50]⟩,.string ⟨#[]⟩,.string ⟨#[100,111,99]⟩,.string ⟨#[49]⟩,.string ⟨#[118,105,101,119,101,114]⟩,.string ⟨#[]⟩,.string ⟨#[]⟩,.string ⟨#[]⟩] 35)=u3 at *;have hE:=h! hX2;have HAK:=h! hL2;clear hA2 hX2 hL2;rotate_left
  refine b! ?_;intro K hK;go_simp;obtain⟨g11,hg11⟩:∃ x,x=u1.heap.size:=⟨_,rfl⟩;rw[<- hg11];have hA1:=Ext.alloc u1 (.cells #[.string ⟨#[100,111,99]⟩,.string ⟨#[49]⟩,.string ⟨#[118,105,101,119,101,114]⟩,.string ⟨#[117,115,101,114]⟩,.string ⟨#[50]⟩,.string ⟨#[]⟩,.string ⟨#[100,111,99]⟩,.string ⟨#[49]⟩,.string ⟨#[118,105,101,119,101,114]⟩,.string ⟨#[]⟩,.string ⟨#[]⟩,.string ⟨#[]⟩] 35);have hL1:Sl (fun b=>b<(u1.alloc (.cells #[.string ⟨#[100,111,99]⟩,.string ⟨#[49]⟩,.string ⟨#[118,105,101,119,101,114]⟩,.string ⟨#[117,115,101,114]⟩,.string ⟨#[50]⟩,.string ⟨#[]⟩,.string ⟨#[100,111,99]⟩,.string ⟨#[49]⟩,.string ⟨#[118,105,101,119,101,114]⟩,.string ⟨#[]⟩,.string ⟨#[]⟩,.string ⟨#[]⟩] 35)).heap.size) (u1.alloc (.cells #[.string ⟨#[100,111,99]⟩,.string ⟨#[49]⟩,.string ⟨#[118,105,101,119,101,114]⟩,.string ⟨#[117,115,101,114]⟩,.string ⟨#[50]⟩,.string ⟨#[]⟩,.string ⟨#[100,111,99]⟩,.string ⟨#[49]⟩,.string ⟨#[118,105,101,119,101,114]⟩,.string ⟨#[]⟩,.string ⟨#[]⟩,.string ⟨#[]⟩] 35)) 6 (.slice (some ⟨g11,0,none⟩) 2 2) (asksL.flatMap aqC):=by rw[hg11];exact Sl.made u1 _ 6 2 35 _ rfl (by decide) (by simp)
  have hX1:=Ext.trans hE.out hA1;refine hK.out _ _ hX1 ?_;clear hK hg11;have HL:=h! ((HL.out.same (Same.below hA1)).mono fun _ hb=>Nat.lt_of_lt_of_le hb hA1.size);generalize u1.alloc (.cells #[.string ⟨#[100,111,99]⟩,.string ⟨#[49]⟩,.string ⟨#[118,105,101,119,101,114]⟩,.string ⟨#[117,115,101,114]⟩,.string ⟨#[50]⟩,.string ⟨#[]⟩,.string ⟨#[100,111,99]⟩,.string ⟨#[49]⟩,.string ⟨#[118,105,101,119,101,114]⟩,.string ⟨#[]⟩,.string ⟨#[]⟩,.string ⟨#[]⟩] 35)=u2 at *;have hE:=h! hX1;have HAK:=h! hL1;clear hA1 hX1 hL1;refine o! 3 ?_;refine b! ?_;intro K hK;go_simp;refine(HNB.out u2 g2 HL.out).mono ?_;rintro e u3 ⟨bk,rfl,hB2,hx2⟩;have hX2:=Ext.trans hE.out hx2;refine hK.out _ _ hX2 ?_;clear hK;have HBK:=h! hB2;have HAK:=h! ((HAK.out.same (Same.below hx2)).mono fun _ hb=>Nat.lt_of_lt_of_le hb hx2.size);have hE:=h! hX2;clear hx2 hX2 hB2 HL;refine t! 4 ?_
  rotate_left
  refine b! ?_;intro K hK;go_simp;obtain⟨g11,hg11⟩:∃ x,x=wd.heap.size:=⟨_,rfl⟩;rw[<- hg11];have hA0:=Ext.alloc wd (.cells #[.string ⟨#[100,111,99]⟩,.string ⟨#[49]⟩,.string ⟨#[118,105,101,119,101,114]⟩,.string ⟨#[117,115,101,114]⟩,.string ⟨#[50]⟩,.string ⟨#[]⟩,.string ⟨#[100,111,99]⟩,.string ⟨#[49]⟩,.string ⟨#[118,105,101,119,101,114]⟩,.string ⟨#[]⟩,.string ⟨#[]⟩,.string ⟨#[]⟩] 35);have hL0:Sl (fun b=>b<(wd.alloc (.cells #[.string ⟨#[100,111,99]⟩,.string ⟨#[49]⟩,.string ⟨#[118,105,101,119,101,114]⟩,.string ⟨#[117,115,101,114]⟩,.string ⟨#[50]⟩,.string ⟨#[]⟩,.string ⟨#[100,111,99]⟩,.string ⟨#[49]⟩,.string ⟨#[118,105,101,119,101,114]⟩,.string ⟨#[]⟩,.string ⟨#[]⟩,.string ⟨#[]⟩] 35)).heap.size) (wd.alloc (.cells #[.string ⟨#[100,111,99]⟩,.string ⟨#[49]⟩,.string ⟨#[118,105,101,119,101,114]⟩,.string ⟨#[117,115,101,114]⟩,.string ⟨#[50]⟩,.string ⟨#[]⟩,.string ⟨#[100,111,99]⟩,.string ⟨#[49]⟩,.string ⟨#[118,105,101,119,101,114]⟩,.string ⟨#[]⟩,.string ⟨#[]⟩,.string ⟨#[]⟩] 35)) 6 (.slice (some ⟨g11,0,none⟩) 2 2) (asksL.flatMap aqC):=by rw[hg11];exact Sl.made wd _ 6 2 35 _ rfl (by decide) (by simp)
  have hX0:=Ext.trans hE.out hA0;refine hK.out _ _ hX0 ?_;clear hK hg11;generalize wd.alloc (.cells #[.string ⟨#[100,111,99]⟩,.string ⟨#[49]⟩,.string ⟨#[118,105,101,119,101,114]⟩,.string ⟨#[117,115,101,114]⟩,.string ⟨#[50]⟩,.string ⟨#[]⟩,.string ⟨#[100,111,99]⟩,.string ⟨#[49]⟩,.string ⟨#[118,105,101,119,101,114]⟩,.string ⟨#[]⟩,.string ⟨#[]⟩,.string ⟨#[]⟩] 35)=u1 at *;have hE:=h! hX0;have HAK:=h! hL0;clear hA0 hX0 hL0;refine o! 2 ?_;refine b! ?_;intro K hK;go_simp;obtain⟨g2,hg2⟩:∃ x,x=u1.heap.size:=⟨_,rfl⟩;rw[<- hg2];have hA1:=Ext.alloc u1 (.cells #[.string ⟨#[100,111,99]⟩,.string ⟨#[49]⟩,.string ⟨#[118,105,101,119,101,114]⟩,.string ⟨#[117,115,101,114]⟩,.string ⟨#[50]⟩,.string ⟨#[]⟩] 67);have hL1:Sl (fun b=>b<(u1.alloc (.cells #[.string ⟨#[100,111,99]⟩,.string ⟨#[49]⟩,.string ⟨#[118,105,101,119,101,114]⟩,.string ⟨#[117,115,101,114]⟩,.string ⟨#[50]⟩,.string ⟨#[]⟩] 67)).heap.size) (u1.alloc (.cells #[.string ⟨#[100,111,99]⟩,.string ⟨#[49]⟩,.string ⟨#[118,105,101,119,101,114]⟩,.string ⟨#[117,115,101,114]⟩,.string ⟨#[50]⟩,.string ⟨#[]⟩] 67)) 6 (.slice (some ⟨g2,0,none⟩) 1 1) (tuCs TLk):=by rw[hg2];exact Sl.made u1 _ 6 1 67 _ rfl (by decide) (by simp)
  have hX1:=Ext.trans hE.out hA1;refine hK.out _ _ hX1 ?_;clear hK hg2;have HAK:=h! ((HAK.out.same (Same.below hA1)).mono fun _ hb=>Nat.lt_of_lt_of_le hb hA1.size);generalize u1.alloc (.cells #[.string ⟨#[100,111,99]⟩,.string ⟨#[49]⟩,.string ⟨#[118,105,101,119,101,114]⟩,.string ⟨#[117,115,101,114]⟩,.string ⟨#[50]⟩,.string ⟨#[]⟩] 67)=u2 at *;have hE:=h! hX1;have HL:=h! hL1;clear hA1 hX1 hL1;refine o! 3 ?_;refine b! ?_;intro K hK;go_simp;refine(HNB.out u2 g2 HL.out).mono ?_;rintro e u3 ⟨bk,rfl,hB2,hx2⟩;have hX2:=Ext.trans hE.out hx2;refine hK.out _ _ hX2 ?_;clear hK;have HBK:=h! hB2;have HAK:=h! ((HAK.out.same (Same.below hx2)).mono fun _ hb=>Nat.lt_of_lt_of_le hb hx2.size);have hE:=h! hX2;clear hx2 hX2 hB2 HL;refine t! 4 ?_
  rotate_left
  all_goals
   refine o! 12 ?_;refine b! ?_;intro K hK;go_simp;refine(HMN.out u3 bk g11 hE.out HBK.out HAK.out).mono ?_;rintro e u4 ⟨vo,vc,rfl,hs3,hx3⟩;have hX3:=Ext.trans hE.out hx3;refine hK.out _ _ hX3 ?_;clear hK;refine t! 13 ?_
   refine t! 14 ?_
   refine t! 15 ?_
   refine t! 16 ?_
   refine t! 17 ?_
   refine d! ?_;exact⟨rfl,bk,g2,g11,vo,vc,rfl,hX3,hs3⟩
 rintro e _ W1 ⟨rfl,bk,g2,g11,vo,vc,rfl,hX,hS⟩;dsimp only;have X2:=h! (hxd.out.trans hX);have HS2:=h! hS;have HTY2:=h! (HTY.out.up X2.out);have hsc:=(HS1.out.below X2.out).cells;have HMF:=h! (manyN_any tsL (.slice aot 2 ct) .nilIface (.slice none 0 0) (.slice none 0 0) (.int .i64 9) 1 rfl W1 HTY2.out fun W hx=>bstartF_any tsL (.slice aot 2 ct) (.slice none 0 0) (.int .i64 9) W (HTY2.out.up hx) schL chkL);clear hX hS hxd hwd;go_wp2_with fail
 clear hsc;refine HMF.out.mono ?_;rintro e w8 ⟨rfl,hx8⟩;have HBE:=h! (show Below w.heap.size w w8 from HB1.out.trans (Below.mono (Ext.trans X2.out hx8) HB1.out.size));obtain⟨_,_,e1,-,-,hc⟩:=bools_at ((HS2.out.same (Same.below hx8)).mono (T:=fun _=>True) fun _ _=>trivial);cases e1;obtain⟨b,off,rfl,-,k0⟩:=hc 0 (by decide);obtain⟨_,_,e2,-,k1⟩:=hc 1 (by decide);cases e2;rw[Nat.add_zero]at k0;dsimp only[List.getElem_cons_zero,List.getElem_cons_succ]at k0 k1;clear hx8 HMF hc;go_wp2_with fail
 go_ret
 exact⟨rfl,HBE.out⟩
theorem few32_any (v:Value)(l:List Tup)(w:World)(h:Sl (· < w.heap.size) w 6 v (tuCs l)):Calls Tryz.prog 39 #[v] w fun e w'=>e = .returned (.bool (fewL l))/\Below w.heap.size w w':=by
 obtain⟨ao,c,rfl,hlc,hcm,hcell⟩:=tups_rowsF h;have HC:=h! hcell;clear hcell h;go_enter Tryz.func39,Tryz.ntmps39
 go_wp2_with fail
 go_loopw [9] (fun ii wr=>∃ i:Nat,i<=l.length/\ii = .int .i64 i/\(∀ j (hj:j<l.length),j<i->shortT l[j]=true)/\Below w.heap.size w wr) (fun ii _=>l.length-(intOf ii).toNat)
 case atStart=>exact⟨0,by omega,rfl,fun _ _ h=>absurd h (by omega),Below.refl _ _⟩
 case round =>
  obtain⟨i,hi,rfl,hall,hbel⟩:=hrel;have HALL:=h! hall;clear hall;by_cases hlt:i<l.length
  ·obtain⟨b,off,rfl,hb,c1,c2,c3,c4,c5,c6⟩:=HC.out i hlt;have d1:=(hbel.cell (p:=⟨b,off+i*6,none⟩) hb).trans c1;have d2:=(hbel.cell (p:=⟨b,off+i*6+1,none⟩) hb).trans c2;have d3:=(hbel.cell (p:=⟨b,off+i*6+2,none⟩) hb).trans c3;have d4:=(hbel.cell (p:=⟨b,off+i*6+3,none⟩) hb).trans c4;have d5:=(hbel.cell (p:=⟨b,off+i*6+4,none⟩) hb).trans c5;have d6:=(hbel.cell (p:=⟨b,off+i*6+5,none⟩) hb).trans c6;have HF:=h! (fun h=>fewL_bad hlt h);have HN:=h! (fun h=>upto_succ (p:=fun j hj=>shortT l[j]=true) HALL.out hlt h);clear c1 c2 c3 c4 c5 c6 hb;generalize l[i]=a at *;obtain⟨⟨ot,oi,or_⟩,⟨st,si,sr⟩⟩:=a;dsimp only at *;have hb1:=hbel.alloc hbel.size (.cells #[.string ot,.string oi,.string or_,.string st,.string si,.string sr] 67);have hbk:=(Blk.made wr #[.string ot,.string oi,.string or_,.string st,.string si,.string sr] 67).cells;have HP:=h! (parts_any ⟨⟨ot,oi,or_⟩,⟨st,si,sr⟩⟩ (wr.alloc (.cells #[.string ot,.string oi,.string or_,.string st,.string si,.string sr] 67)));unfold tV at HP;dsimp only at HP;have HB1:=h! hb1;clear hb1;go_wp2_with fail
   refine HP.out.mono ?_;rintro e w2 ⟨rfl,hP2,hb2⟩;have cP:=hP2.cells;simp only[World.size_alloc]at cP ⊢;have HBB:=h! (HB1.out.trans (hb2.mono HB1.out.size));clear HP hP2 hb2 HB1 hbk d1 d2 d3 d4 d5 d6;go_wp2_with fail
   refine wp_loop_rounds 7 ?_;rw[rounds_succ];by_cases hs0:ot.size<=100
   rotate_left
   ·have hg:(100:Int)<(ot.size:Int):=by omega
    have HS:=h! hs0;clear hs0;go_wp2_with fail
    go_ret
    exact⟨congrArg (fun b=>Ending.returned (.bool b)) (HF.out (by simp[shortT,HS.out])).symm,HBB.out⟩
   have hg0:(ot.size:Int)<=100:=by omega
   have HS0:=h! hs0;clear hs0;go_wp2_with fail
   rw[rounds_succ];by_cases hs1:oi.size<=100
   rotate_left
   ·have hg:(100:Int)<(oi.size:Int):=by omega
    have HS:=h! hs1;clear hs1;go_wp2_with fail
    go_ret
    exact⟨congrArg (fun b=>Ending.returned (.bool b)) (HF.out (by simp[shortT,HS.out])).symm,HBB.out⟩
   have hg1:(oi.size:Int)<=100:=by omega
   have HS1:=h! hs1;clear hs1;go_wp2_with fail
   rw[rounds_succ];by_cases hs2:or_.size<=100
   rotate_left
   ·have hg:(100:Int)<(or_.size:Int):=by omega
    have HS:=h! hs2;clear hs2;go_wp2_with fail
    go_ret
    exact⟨congrArg (fun b=>Ending.returned (.bool b)) (HF.out (by simp[shortT,HS.out])).symm,HBB.out⟩
   have hg2:(or_.size:Int)<=100:=by omega
   have HS2:=h! hs2;clear hs2;go_wp2_with fail
   rw[rounds_succ];by_cases hs3:st.size<=100
   rotate_left
   ·have hg:(100:Int)<(st.size:Int):=by omega
    have HS:=h! hs3;clear hs3;go_wp2_with fail
    go_ret
    exact⟨congrArg (fun b=>Ending.returned (.bool b)) (HF.out (by simp[shortT,HS.out])).symm,HBB.out⟩
   have hg3:(st.size:Int)<=100:=by omega
   have HS3:=h! hs3;clear hs3;go_wp2_with fail
   rw[rounds_succ];by_cases hs4:si.size<=100
   rotate_left
   ·have hg:(100:Int)<(si.size:Int):=by omega
    have HS:=h! hs4;clear hs4;go_wp2_with fail
    go_ret
    exact⟨congrArg (fun b=>Ending.returned (.bool b)) (HF.out (by simp[shortT,HS.out])).symm,HBB.out⟩
   have hg4:(si.size:Int)<=100:=by omega
   have HS4:=h! hs4;clear hs4;go_wp2_with fail
   rw[rounds_succ];by_cases hs5:sr.size<=100
   rotate_left
   ·have hg:(100:Int)<(sr.size:Int):=by omega
    have HS:=h! hs5;clear hs5;go_wp2_with fail
    go_ret
    exact⟨congrArg (fun b=>Ending.returned (.bool b)) (HF.out (by simp[shortT,HS.out])).symm,HBB.out⟩
   have hg5:(sr.size:Int)<=100:=by omega
   have HS5:=h! hs5;clear hs5;go_wp2_with fail
   rw[rounds_succ];have HH:=h! (HN.out (by simp[shortT,HS0.out,HS1.out,HS2.out,HS3.out,HS4.out,HS5.out]));clear HN HF;go_wp2_with fail
   go_roundw
   case rel=>exact⟨i+1,by omega,by go_num,HH.out,HBB.out⟩
   case measure=>simp[intOf];omega
  ·obtain rfl:i=l.length:=by omega
   have HE:=h! (fewL_end HALL.out);go_wp2_with fail
   go_ret
   exact⟨congrArg (fun b=>Ending.returned (.bool b)) HE.out.symm,hbel⟩
def M32Said (ts:List TyS)(T:List Tup)(shut:List R2)(l:List AQ)(most:Int)(lo:Nat)(e:Ending)(w':World):Prop :=
 ((∀ a∈l,∃ n,WalkEnd ts T shut a.1 most n)/\∃ v,e = .returned (.tuple #[v,.bool true])/\Own w' lo 4 1 v (boC (l.map (denA ts T shut))))\/((∃ a∈l,WalkLong ts T shut a.1 most)/\e = .returned (.tuple #[.slice none 0 0,.bool false]))
theorem many32_any (ts:List TyS)(tv:Value)(tl:List Tup)(tlv:Value)(T:List Tup)(shut:List R2)(sv:Value)(l:List AQ)(lv:Value)(most:Int)(w:World)(h:TysAt (· < w.heap.size) w ts tv)(hc:chk06 ts=0)(hT:SetT tl T)(htl:Sl (· < w.heap.size) w 6 tlv (tuCs tl))(hto:∀ t∈tl,t.Ok)(htn:tl.length<=40)(hsv:Sl (· < w.heap.size) w 2 sv (shut.flatMap r2C))(hsl:shut.length<=1099511627776)
  (hl:Sl (· < w.heap.size) w 6 lv (l.flatMap aqC)) (hA:∀ a∈l,WalkIn ts T shut a.1 1000000) (hll:l.length<=1000000) :
  Calls Tryz.prog 42 #[.agg #[tv],tlv,sv,lv,.int .i64 most] w fun e w'=>M32Said ts T shut l most w.heap.size e w'/\Ext w w':=by
 have HC:=h! hc;have HST:=h! hT;have HSL:=h! hsl;have HA:=h! hA;have HLL:=h! hll;obtain⟨ao,c,rfl,-⟩:=h.rows;obtain⟨so,sc,rfl,-⟩:=Sl.rows r2C_length (by decide) hsv;obtain⟨lo,lc,rfl,-⟩:=Sl.rows aqC_length (by decide) hl;obtain⟨wa,hwa⟩:∃ x,x=w.alloc (.cells #[.slice ao ts.length c] 26):=⟨_,rfl⟩;have XA:=h! (show Ext w wa from by rw[hwa];exact Ext.alloc _ _);have CS:=h! (show Blk wa w.heap.size #[.slice ao ts.length c] 26 from by rw[hwa];exact Blk.made _ _ _);have HSE:=h! (setT_any hT tlv wa ((htl.same (Same.below XA.out)).mono fun _ hb=>Nat.lt_of_lt_of_le hb XA.out.size) (by omega) hto);have H0:=h! (And.intro h (And.intro hsv hl));clear h hc hT htl hto htn hsv hsl hl hA hll;subst hwa;go_enter Tryz.func42,Tryz.ntmps42
 go_wp2_with fail
 refine HSE.out.mono ?_;rintro e w3 ⟨zv,rfl,hz,hb3⟩;have XX3:=h! (show Ext w w3 from XA.out.trans hb3);have KS:=h! (CS.out.below hb3);have KE:=h! hz;obtain⟨zo,zc,rfl,-⟩:=Sl.rows tuC_length (by decide) (show Sl _ w3 6 zv (T.flatMap tuC)from hz);clear hz hb3 HSE CS XA;go_wp2_with fail
 obtain⟨sb,hsb⟩:∃ x,Hid (x=w.heap.size):=⟨_,h! rfl⟩;have KS:=h! (show Blk w3 sb _ _ from by rw[hsb.out];exact KS.out);try rw[<- hsb.out]
 go_loopw [13,22] (fun ov jv wr=>∃ i:Nat,i<=l.length/\jv = .int .i64 i/\Own wr w3.heap.size 4 1 ov (boC ((l.take i).map (denA ts T shut)))/\(∀ a∈l.take i,∃ n,WalkEnd ts T shut a.1 most n)/\Ext w3 wr) (fun _ jv _=>l.length-(intOf jv).toNat)
 case atStart=>exact⟨0,Nat.zero_le _,rfl,Own.nil _ _ _ _,(by simp),Ext.refl _⟩
 case round =>
  obtain⟨i,hi,rfl,hown,hall,hx⟩:=hrel;have HO:=h! hown;have HALL:=h! hall;have HX:=h! hx;obtain⟨uo,un,uc,rfl,-⟩:=hown.sl.len;clear hown hall hx;by_cases hlt:i<l.length
  ·have HNX:=h! (List.take_succ_eq_append_getElem hlt);have HLM:=h! (List.getElem_mem hlt);have HLT:=h! hlt;have HWI:=h! (show wrap64 ((i:Int)+1)=((i+1:Nat):Int)from by have:=HLL.out;unfold wrap64;omega);have hli:(i:Int)<(l.length:Int):=by omega
   obtain⟨pb,poff,rfl,g5⟩:∃ pb poff,lo=some ⟨pb,poff,none⟩/\∀ (j:Nat) u,(aqC l[i])[j]?=some u->wr.cell? ⟨pb,poff+i*6+j,none⟩=some u:=by
    obtain⟨_,_,e,-,-,hcel⟩:=Sl.rows aqC_length (by decide) H0.out.2.2;obtain⟨b,off,rfl,hbl,hcel⟩:=hcel (by omega);cases e;exact⟨b,off,rfl,fun j u hj=>Ext.cell (XX3.out.trans HX.out) (hcel i hlt j u hj)⟩
   generalize l[i]=a at *;clear hlt;obtain⟨p,s⟩:=a;have q0:wr.cell? ⟨pb,poff+i*6,none⟩=some (.string p.t):=g5 0 _ rfl;have q1:wr.cell? ⟨pb,poff+i*6+1,none⟩=some (.string p.i):=g5 1 _ rfl;have q2:wr.cell? ⟨pb,poff+i*6+2,none⟩=some (.string p.r):=g5 2 _ rfl;have q3:wr.cell? ⟨pb,poff+i*6+3,none⟩=some (.string s.t):=g5 3 _ rfl;have q4:wr.cell? ⟨pb,poff+i*6+4,none⟩=some (.string s.i):=g5 4 _ rfl;have q5:wr.cell? ⟨pb,poff+i*6+5,none⟩=some (.string s.r):=g5 5 _ rfl;have X4:=Ext.alloc wr (.cells (aC p s) 35);have BO:=h! (Blk.made wr (aC p s) 35);have X34:=h! (show Ext w3 _ from HX.out.trans X4);have HO4:=h! (HO.out.below X4);have HIO:=h! (HA.out _ HLM.out);have XX4:=h! (XX3.out.trans X34.out);have HWK:=h! (walkD_any ts (.slice ao ts.length c) T (.slice zo T.length zc) shut (.slice so shut.length sc) p most 1000000 _ (H0.out.1.up XX4.out) (chk_uniq HC.out) ((KE.out.same (Same.below X34.out)).mono fun _ hb=>Nat.lt_of_lt_of_le hb X34.out.size) ((H0.out.2.1.same (Same.below XX4.out)).mono fun _ hb=>Nat.lt_of_lt_of_le hb XX4.out.size) HSL.out HIO.out);unfold pV at HWK;unfold aC at *;have c1:=(KS.out.below X34.out).cells;have c4:=BO.out.cells;clear X4 g5;go_wp2_with fail
   clear c1 c4 q0 q1 q2 q3 q4 q5;obtain⟨w4,hw4⟩:∃ y,y=wr.alloc (.cells #[.string p.t,.string p.i,.string p.r,.string s.t,.string s.i,.string s.r] 35):=⟨_,rfl⟩;rw[<- hw4]at BO X34 HO4 HWK XX4;try rw[<- hw4]
   clear hw4;refine HWK.out.mono ?_;rintro e w5 ⟨hx,ps,fs,po,pc,fo,fc,ev,⟨n,hwe,rfl,rfl,rfl⟩ | ⟨hlg,rfl,rfl,rfl⟩,rfl,hgr⟩
   case' inr =>
    have HLO:=h! (show ∃ a∈l,WalkLong ts T shut a.1 most from⟨_,HLM.out,hlg⟩);have XE:=h! (show Ext w (w5.alloc (.cells #[.slice po 0 pc,.slice fo 0 fc] 96))from XX4.out.trans (Ext.trans hx (Ext.alloc _ _)));clear hlg hx HWK hgr;go_wp2_with fail
    go_ret2
    exact⟨.inr ⟨HLO.out,rfl⟩,XE.out⟩
   case' inl =>
    have HE:=h! hwe;have HLW:=h! (show(walkN ts T shut p n).1.length=n from hwe.2.symm);have HN:=h! (show n<=1000000 from by have:=HIO.out.few n;rw[HLW.out]at this;exact this)
    have HAL:=h! (show ∀ a∈l.take (i+1),∃ n,WalkEnd ts T shut a.1 most n from fun o ho=>by
     rw[HNX.out]at ho;rcases List.mem_append.1 ho with ho | ho
     ·exact HALL.out o ho
     ·rw[List.mem_singleton.1 ho];exact⟨n,hwe⟩)
    have HSZ:=h! (show(solveR (walkN ts T shut p n).2 s n).length=n from outN_length n);have HDB:=h! (show denA ts T shut (p,s)=decide (0<(solveR (walkN ts T shut p n).2 s n).getD 0 0)from by rw[Bool.eq_iff_iff,denA_iff,decide_eq_true_eq];exact HE.out.den_iff s);have HPO:=h! HE.out.pos;generalize (walkN ts T shut p n).1=ps at *;generalize (walkN ts T shut p n).2=fs at *;rw[HLW.out]at hgr ⊢;generalize hfl:fs.length=fl at *;have X6:=h! (Ext.alloc w5 (.cells #[.slice po n pc,.slice fo fl fc] 96));have HSV:=h! (solve27_any s ps fs (.slice po n pc) (.slice fo fl fc) _ ((hgr.same (w':=w5.alloc (.cells #[.slice po n pc,.slice fo fl fc] 96)) fun b hb=>X6.out.block b hb.2).mono fun b hb=>Nat.lt_of_lt_of_le hb.2 X6.out.size) (by rw[HLW.out];exact HN.out));rw[HLW.out]at HSV;have X36:=h! (show Ext w3 (w5.alloc (.cells #[.slice po n pc,.slice fo fl fc] 96))from X34.out.trans (Ext.trans hx X6.out));have cg:=(Blk.made w5 #[.slice po n pc,.slice fo fl fc] 96).cells;have BO6:=BO.out.below (Ext.trans hx X6.out);have cu:=BO6.cells;have HO6:=h! (HO4.out.below (Ext.trans hx X6.out));unfold pV at HSV;clear hwe hx hgr HWK HALL BO6 hfl;go_wp2_with fail
    clear cg cu;refine HSV.out.mono ?_;rintro e w7 ⟨⟨v5,rfl,ho5⟩,hb5⟩;have X37:=h! (show Ext w3 w7 from X36.out.trans hb5);have HO7:=h! (HO6.out.below hb5);obtain⟨g5,c55,rfl,k5⟩:=solve_first ho5 (by rw[HSZ.out];exact HPO.out);rw[HSZ.out]at *;have hln5:(0:Int)<(n:Int):=by have:=HPO.out;omega
    have hln6:0<n:=HPO.out;generalize (solveR fs s n).getD 0 0=z at *;clear hb5 HSV ho5;have X8:=Ext.alloc w7 (.cells #[.bool (decide (0<z))] 4);have HO8:=h! (HO7.out.below X8);have X38:=h! (show Ext w3 _ from X37.out.trans X8);clear X8;go_wp2_with (at_builtin;go_must (refine wpList_ownw boolsT rfl _ _ rfl rfl HO8.out rfl (m:=1) (news:=[.bool (decide (0<z))]) rfl (by intro j u hu;rw[Addr.add_lit,cell_of_row _ w7.heap.size (0+j) #[.bool (decide (0<z))] 4 (0,0) (heap_alloc_new w7 _)];simpa using hu) (by simp[Value.oneCell']) (by have:=HLL.out;have:=HLT.out;rw[boC_length,List.length_map,List.length_take];simp only[List.length_cons,List.length_nil];omega) (by have:=HLL.out;have:=HLT.out;rw[boC_length,List.length_map,List.length_take];simp only[List.length_cons,List.length_nil];omega) X38.out.size ?_;intro v6 w6 hown6 hb6 hg6;have HO9:=h! (show Own w6 w3.heap.size 4 1 v6 (boC ((l.take (i+1)).map (denA ts T shut)))from by(rw[HNX.out,List.map_append,show boC ((l.take i).map (denA ts T shut)++[(p,s)].map (denA ts T shut))=boC ((l.take i).map (denA ts T shut))++[.bool (decide (0<z))]from by simp[boC,HDB.out]];exact hown6));have HB9:=h! (show Ext w3 w6 from grown_below X38.out HO8.out hg6 X38.out.size);clear hown6 hb6 hg6))
    go_roundw
    case rel=>exact⟨i+1,HLT.out,by first | rw[HWI.out] | go_num,HO9.out,HAL.out,HB9.out⟩
    case measure=>have:=HLT.out;(try rw[HWI.out]);simp[intOf];omega
  ·obtain rfl:i=l.length:=by omega
   rw[List.take_length]at HALL HO;have XE:=h! (show Ext w wr from XX3.out.trans HX.out);clear hlt hi;go_wp2_with fail
   go_ret2
   exact⟨.inl ⟨HALL.out,_,rfl,HO.out.mono XX3.out.size⟩,XE.out⟩
theorem same32_any (v1 v2:Value)(l:List Bool)(w:World)(h1:Sl (· < w.heap.size) w 1 v1 (boC l))(h2:Sl (· < w.heap.size) w 1 v2 (boC l)):Calls Tryz.prog 43 #[v1,v2] w fun e w'=>e = .returned (.bool true)/\Ext w w':=by
 obtain⟨a1,c1,rfl,hl1,hc1,hg1⟩:=bools_at h1;obtain⟨a2,c2,rfl,-,hc2,hg2⟩:=bools_at h2;have HG1:=h! hg1;have HG2:=h! hg2;have HLL:=h! (show l.length<=9223372036854775807 from by omega);clear h1 h2 hg1 hg2 hc1 hc2 hl1;go_enter Tryz.func43,Tryz.ntmps43
 go_wp2_with fail
 go_loopw [13] (fun jv wr=>∃ i:Nat,i<=l.length/\jv = .int .i64 i/\Ext w wr) (fun jv _=>l.length-(intOf jv).toNat)
 case atStart=>exact⟨0,Nat.zero_le _,rfl,Ext.refl _⟩
 case round =>
  obtain⟨i,hi,rfl,hx⟩:=hrel;have RX:=h! hx;clear hx;by_cases hlt:i<l.length
  ·have HLT:=h! hlt;have HWI:=h! (show wrap64 ((i:Int)+1)=((i+1:Nat):Int)from by have:=HLL.out;unfold wrap64;omega);have hli:(i:Int)<(l.length:Int):=by omega
   obtain⟨b1,o1,rfl,-,e1⟩:=HG1.out i hlt;obtain⟨b2,o2,rfl,-,e2⟩:=HG2.out i hlt;generalize l[i]=x at *;clear hlt;go_wp2_with fail
   obtain⟨wd,hwd⟩:∃ wd,Hid (wd=World.drew wr):=⟨_,h! rfl⟩;have hxd:=h! (show Ext wr wd from by rw[hwd.out];exact Ext.drew _);refine r! (Ext wd) (by rw[<- hwd.out];exact Ext.refl _) ?_;rw[<- hwd.out];have RX2:=h! (Ext.trans RX.out hxd.out);have d1:=fun W (h:Ext wd W)=>Ext.cell (Ext.trans RX2.out h) e1;have d2:=fun W (h:Ext wd W)=>Ext.cell (Ext.trans RX2.out h) e2;clear hwd hxd e1 e2;(refine WalkN.tk [0,1,2,3,4,5,6,7,8] ?_;(iterate 9 (refine c! ?_));refine TkN.n ?_)
   refine d! ?_;clear d1 d2;have hxx:(x != x)=false:=by cases x <;> rfl
   go_wp2_with fail
   go_roundw
   case rel=>exact⟨i+1,HLT.out,by first | rw[HWI.out] | go_num,RX2.out⟩
   case measure=>have:=HLT.out;(try rw[HWI.out]);simp[intOf];omega
  ·obtain rfl:i=l.length:=by omega
   go_wp2_with fail
   go_ret
   exact⟨rfl,RX.out⟩
end Go.Proofs.YtlhaghoajpglaaaGreat
