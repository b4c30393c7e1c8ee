/- Lemmas for the claim, no condition. -/
import Derived.RangeFuncGives
import Derived.RangeFuncNested
import Derived.WalkKit
import Derived.TacticsInMore
import Derived.RegionIn
import Derived.LoopNIn
import Derived.LoopIn
import Derived.Sort.KeysCollected
import Derived.RangeFuncLeaves
import Derived.OwnWalkIn
import Derived.Test.YtlhaghoajpglaaaGreatYLkSets12
import Derived.Test.YtlhaghoajpglaaaGreatYLkSets6
import Derived.Test.YtlhaghoajpglaaaGreatYLkSets2
import Derived.Test.YtlhaghoajpglaaaGreatYLkSets0
import Derived.Test.YtlhaghoajpglaaaGreatYLkSets3
import Derived.Test.YtlhaghoajpglaaaGreatYLkSets1
import Derived.Test.YtlhaghoajpglaaaGreatYLkSets8
set_option maxRecDepth 100000
set_option maxHeartbeats 6000000
namespace Go.Proofs.YtlhaghoajpglaaaGreat
open Go Go.RowKit Go.Maps
theorem solveS_any (ps:List P3)(fs:List FT)(pv fv:Value)(typ:ByteArray)(w:World)(hg:GrAt (· < w.heap.size) w ps fs pv fv)(hok:∀ f∈fs,∀ s∈f.ths,s.Ok)(hn:ps.length<=1099511627776) :
  Calls Tryz.prog 118 #[.agg #[pv,fv],.string typ] w fun e w'=>∃ iv,e = .returned iv/\SolS w w' ps fs typ iv:=by
 have HG:=h! hg;have HOK:=h! hok;have HN:=h! hn;obtain⟨po,pc,fo,fc,rfl,rfl⟩:=hg.shape;obtain⟨w1,hw1⟩:∃ x,x=w.alloc (.cells #[.slice po ps.length pc,.slice fo fs.length fc] 96):=⟨_,rfl⟩;obtain⟨w2,hw2⟩:∃ x,x=w1.alloc (.map #[] 0):=⟨_,rfl⟩;obtain⟨w3,hw3⟩:∃ x,x=w2.alloc (.cells #[.slice po ps.length pc,.slice fo fs.length fc,.string typ,.slice none 0 0,.map (some (w.heap.size+1))] 284):=⟨_,rfl⟩;have s1:w1.heap.size=w.heap.size+1:=by rw[hw1];simp
 have s2:w2.heap.size=w.heap.size+2:=by rw[hw2];simp[s1]
 have x01:Ext w w1:=by rw[hw1];exact Ext.alloc _ _
 have x12:Ext w1 w2:=by rw[hw2];exact Ext.alloc _ _
 have x23:Ext w2 w3:=by rw[hw3];exact Ext.alloc _ _
 have X03:=h! (show Ext w w3 from x01.trans (x12.trans x23));have BG:=h! (show Blk w3 w.heap.size #[.slice po ps.length pc,.slice fo fs.length fc] 96 from Blk.below (by rw[hw1];exact Blk.made _ _ _) (x12.trans x23));have HM0:=h! (show OS w3 (w.heap.size+1) []from Mp.below (show OS w2 (w.heap.size+1) []from by rw[hw2,<- s1];exact Mp.made w1) x23);have BS:=h! (show Blk w3 (w.heap.size+2) #[.slice po ps.length pc,.slice fo fs.length fc,.string typ,.slice none 0 0,.map (some (w.heap.size+1))] 284 from by rw[hw3,<- s2];exact Blk.made _ _ _);have G0:=h! (show LkG w w3 w.heap.size (w.heap.size+2) (.slice po ps.length pc) (.slice fo fs.length fc) typ (.slice none 0 0) [] (w.heap.size+1)from⟨X03.out,by omega,⟨by omega,by simp⟩,BG.out,BS.out,Own.nil _ _ _ _,(by simp),(by simp),HM0.out,(by simp)⟩);have hgc:∀ i,w1.cell? ⟨w.heap.size,i,none⟩=(#[.slice po ps.length pc,.slice fo fs.length fc]:Array Value)[i]?:=(show Blk w1 w.heap.size _ _ from by rw[hw1];exact Blk.made _ _ _).cells;have hgc3:=BG.out.cells;have hmm:=@run_makeMap Tryz.prog;clear hg hok hn x01 x12 x23;subst hw3 hw2 hw1;go_enter Tryz.func118,Tryz.ntmps118
 go_wp2_with fail
 clear hgc hgc3;obtain⟨w3,hw3⟩:∃ x,x=((w.alloc (.cells #[.slice po ps.length pc,.slice fo fs.length fc] 96)).alloc (.map #[] 0)).alloc (.cells #[.slice po ps.length pc,.slice fo fs.length fc,.string typ,.slice none 0 0,.map (some (w.heap.size+1))] 284):=⟨_,rfl⟩;rw[<- hw3]at G0 ⊢;clear hw3 BS HM0 BG X03;obtain⟨gb,hgb⟩:∃ x,Hid (x=w.heap.size):=⟨_,h! rfl⟩;obtain⟨sp,hsp⟩:∃ x,Hid (x=w.heap.size+2):=⟨_,h! rfl⟩;obtain⟨ma,hma⟩:∃ x,Hid (x=w.heap.size+1):=⟨_,h! rfl⟩;have HLM:=h! (show w.heap.size<=ma from by rw[hma.out];omega);rw[<- hsp.out,<- hma.out]at G0;rw[<- hsp.out,<- hma.out];have G0:=h! (show LkG w w3 gb sp (.slice po ps.length pc) (.slice fo fs.length fc) typ (.slice none 0 0) [] ma from by rw[hgb.out];exact G0.out);try rw[<- hgb.out]
 go_loopw [19] (fun jv wr=>∃ (i:Nat) (ms:List Nat) (iv:Value),i<=ps.length/\jv = .int .i64 i/\ms.length=i/\LkG w wr gb sp (.slice po ps.length pc) (.slice fo fs.length fc) typ iv ms ma) (fun jv _=>ps.length-(intOf jv).toNat)
 case atStart=>exact⟨0,[],.slice none 0 0,Nat.zero_le _,rfl,rfl,G0.out⟩
 case round =>
  obtain⟨i,ms,iv,hi,rfl,hml,hG⟩:=hrel;have HML:=h! hml;have G1:=h! hG;clear hml hG G0;by_cases hlt:i<ps.length
  ·have HLT:=h! hlt;have HWI:=h! (show wrap64 ((i:Int)+1)=((i+1:Nat):Int)from by have:=HN.out;unfold wrap64;omega);have hli:(i:Int)<(ps.length:Int):=by omega
   have X4:=Ext.alloc wr (.map #[] 0);have s4:(wr.alloc (.map #[] 0)).heap.size=wr.heap.size+1:=by simp
   have X5:=Ext.alloc (wr.alloc (.map #[] 0)) (.cells #[.map (some wr.heap.size)] 210);have HM5:=h! (show OS _ wr.heap.size []from Mp.below (show OS (wr.alloc (.map #[] 0)) wr.heap.size []from Mp.made wr) X5);have G5:=h! (G1.out.ext (X4.trans X5));have HNM:=h! (show wr.heap.size∉ms from fun hm=>by have:=(G1.out.emp _ hm).lt;omega);have HNA:=h! (show ma≠wr.heap.size from fun e=>by have:=G1.out.alls.lt;omega);have hB1:=G1.out.box.cells;have hB4:=(G1.out.ext X4).box.cells;have hB5:=G5.out.box.cells;obtain⟨io,n0,c0,rfl,-⟩:=G1.out.row.sl.len;clear X4 X5 hlt;go_wp2_with (at_builtin;go_must (refine wpList_ownw setsT rfl (.tmp 25) (.tmp 27) rfl rfl G5.out.row rfl (m:=1) (news:=[.map (some wr.heap.size)]) rfl (by intro j u hu;rw[Addr.add_lit,cell_of_row _ (wr.heap.size+1) (0+j) #[.map (some wr.heap.size)] 210 (0,0) (by have h0:=heap_alloc_new (wr.alloc (.map #[] 0)) (.cells #[.map (some wr.heap.size)] 210);rw[s4]at h0;exact h0)];simpa using hu) (by simp[Value.oneCell']) (by have:=HN.out;have:=HLT.out;have:=HML.out;rw[msC_length];simp at *;omega) (by have:=HN.out;have:=HLT.out;have:=HML.out;rw[msC_length];simp at *;omega) (by have:=G5.out.bel.size;omega) ?_;intro v6 w6 hown6 hbx6 hg6;obtain⟨ao6,n6,cp6,rfl,-⟩:=hown6.sl.len;have HG6:=h! (G5.out.add HM5.out HNM.out HNA.out G1.out.bel.size hg6 hown6);have hb6:=G5.out.row.blkG G5.out.box (by decide) hg6;have c6:=hb6.cells;have f6:=hb6.free;clear hown6 hg6 hb6 hbx6))
   clear hB1 hB4 hB5 c6 f6;go_roundw
   case rel=>exact⟨i+1,ms++[wr.heap.size],_,HLT.out,by first | rw[HWI.out] | go_num,by rw[List.length_append,HML.out];rfl,HG6.out⟩
   case measure=>have:=HLT.out;(try rw[HWI.out]);simp[intOf];omega
  ·obtain rfl:i=ps.length:=by omega
   have W0:=h! G1.out.work;have hgb4:=G1.out.gr.cells;rw[HML.out]at W0;have HNI:=h! (show ∀ m∈ms,True from fun _ _=>trivial);clear hlt hi hmm s1 s2 HNI;go_wp2_with fail
   clear hgb4 G1;obtain⟨w4,hw4⟩:∃ y,y=wr:=⟨_,rfl⟩;rw[<- hw4]at W0 ⊢;clear hw4;go_loopw [35] (fun jv wr=>∃ (i:Nat) (all:List O2),i<=fs.length/\jv = .int .i64 i/\LkW w wr gb sp (.slice po ps.length pc) (.slice fo fs.length fc) typ iv ms ma (List.replicate ps.length []) all/\(∀ o,o∈all↔SbI typ (thsL (fs.take i)) o)) (fun jv _=>fs.length-(intOf jv).toNat)
   case atStart=>exact⟨0,[],Nat.zero_le _,rfl,W0.out,fun o=>by simp[SbI,thsL]⟩
   case round =>
    obtain⟨i,all,hi,rfl,hW,hm⟩:=hrel;have W1:=h! hW;have HM:=h! hm;clear hW hm W0;by_cases hlt:i<fs.length
    ·have HNX:=h! (show thsL (fs.take (i+1))=thsL (fs.take i)++fs[i].ths from by rw[List.take_succ_eq_append_getElem hlt,thsL_append];simp[thsL]);have HOI:=h! (HOK.out fs[i] (List.getElem_mem hlt));obtain⟨p1,q1,l1,m1,l2,m2,l4,m4,rfl,hp1,hft,e0,e1,e2,e3⟩:=grForm HG.out hlt;have HLT:=h! hlt
     have HWI:=h! (show wrap64 ((i:Int)+1)=((i+1:Nat):Int)from by
      have:=grLen HG.out;unfold wrap64;omega)
     have hli:(i:Int)<(fs.length:Int):=by omega
     have d0:=(W1.out.bel.cell (p:=⟨p1,q1+i*4,none⟩) hp1).trans e0;have d1:=(W1.out.bel.cell (p:=⟨p1,q1+i*4+1,none⟩) hp1).trans e1;have d2:=(W1.out.bel.cell (p:=⟨p1,q1+i*4+2,none⟩) hp1).trans e2;have d3:=(W1.out.bel.cell (p:=⟨p1,q1+i*4+3,none⟩) hp1).trans e3;have HFT:=h! hft;clear hft e0 e1 e2 e3 hp1;generalize fs[i]=x at *;clear hlt;have X1:=h! (Ext.alloc wr (.cells #[.int .i64 x.k,.slice l1 x.subs.length m1,.slice l2 x.refs.length m2,.slice l4 x.ps.length m4] 128));have W2:=h! (W1.out.ext X1.out);have HCL:=h! (namedS_any HLM.out x _ all _ W2.out.s (HFT.out.same fun b hb=>W2.out.bel.block b hb) W2.out.bel.size HOI.out);unfold fV at HCL;dsimp only at HCL;have hbf:=(Blk.made wr #[.int .i64 x.k,.slice l1 x.subs.length m1,.slice l2 x.refs.length m2,.slice l4 x.ps.length m4] 128).cells;go_wp2_with fail
     refine HCL.out.mono ?_;rintro e w5 ⟨rfl,⟨all3,hs3,hm3⟩,hk3⟩;have W5:=h! (W2.out.inAll hk3 hs3)
     have HM5:=h! (show ∀ o,o∈all3↔SbI typ (thsL (fs.take (i+1))) o from fun o=>by
      rw[hm3 o,HM.out o,HNX.out];unfold SbI;rw[List.mem_append,or_and_right])
     clear hs3 hm3 hk3 HCL d0 d1 d2 d3 hbf HOI;go_wp2_with fail
     go_roundw
     case rel=>exact⟨i+1,all3,HLT.out,by first | rw[HWI.out] | go_num,W5.out,HM5.out⟩
     case measure=>have:=HLT.out;(try rw[HWI.out]);simp[intOf];omega
    ·obtain rfl:i=fs.length:=by omega
     rw[List.take_length]at HM;clear hlt hi;go_wp2_with fail
     obtain⟨w4,hw4⟩:∃ y,y=wr:=⟨_,rfl⟩;rw[<- hw4]at W1 ⊢;clear hw4;have HTY:=h! (show ∀ o∈all,o.t=typ from fun o ho=>((HM.out o).1 ho).2);have HKN:=h! (kno_all HM.out);go_loopw [8] (fun gv wr=>∃ L,LkQ w wr gb sp (.slice po ps.length pc) (.slice fo fs.length fc) typ iv ms ma fs ps.length all L/\∃ g:Bool,gv = .bool g/\(g=false->∀ o∈all,∀ j,j<ps.length->newS fs (oS o) (vecO L o) j=false)) (fun gv wr=>leastM (LkQ w wr gb sp (.slice po ps.length pc) (.slice fo fs.length fc) typ iv ms ma fs ps.length all) (potL ps.length all)*2+flgV gv)
     case atStart=>exact⟨_,⟨W1.out,LkAt.start fs ps.length all,W1.out.s.mem.nd⟩,true,rfl,fun h=>by cases h⟩
     case round =>
      obtain⟨L0,hq0,g,rfl,hcl⟩:=hrel;cases g with
      | false =>
       have Q0:=h! hq0;have HCL:=h! (hcl rfl);clear hq0 hcl W1;have hb:=Q0.out.1.s.box.cells;go_wp2_with fail
       go_ret
       refine⟨iv,rfl,ms,L0,Q0.out.1.s.row.mono fun b hb=>⟨hb.1,hb.2.2⟩,Q0.out.1.s.mem,Q0.out.2.1.len,fun l hl o ho=>(HM.out o).1 (Q0.out.2.1.sub l hl o ho),fun o ho j hj=>?_,Q0.out.1.bel⟩;rw[getD_in (by rw[Q0.out.2.1.len];exact hj)];exact Q0.out.2.1.done HCL.out ((HM.out o).2 ho) hj
      | true =>
       obtain⟨L,hq,hmin⟩:=leastM_get (potL ps.length all) ⟨_,hq0⟩;have Q0:=h! hq;have HMN:=h! hmin;clear hq hmin hq0 hcl W1 L0;have hgr:=Q0.out.1.gr.cells;go_wp2_with fail
       rw[fill_min];clear hgr;obtain⟨mn,hmn⟩:∃ x,Hid (x=min fs.length ps.length):=⟨_,h! rfl⟩;rw[<- hmn.out];obtain⟨w5,hw5⟩:∃ y,y=wr:=⟨_,rfl⟩;rw[<- hw5]at Q0 ⊢;clear hw5;go_loopw [8,51] (fun gv jv wr=>∃ (i:Nat) (g:Bool) (L':List (List O2)),gv = .bool g/\jv = .int .i64 i/\i<=mn/\LkW w wr gb sp (.slice po ps.length pc) (.slice fo fs.length fc) typ iv ms ma L' all/\Pass fs ps.length all L L' g i) (fun _ jv _=>mn-(intOf jv).toNat)
       case atStart=>exact⟨0,false,L,rfl,rfl,Nat.zero_le _,Q0.out.1,Pass.start Q0.out.2.1 Q0.out.2.2⟩
       case round =>
        obtain⟨i,g,L',rfl,rfl,hi,hW,hP⟩:=hrel;have W1:=h! hW;have P1:=h! hP;clear hW hP;by_cases hlt:i<mn
        ·have HLT:=h! hlt;have HIP:=h! (show i<ps.length from by have:=hmn.out;omega);have HIF:=h! (show i<fs.length from by have:=hmn.out;omega);have HWI:=h! (show wrap64 ((i:Int)+1)=((i+1:Nat):Int)from by have:=HN.out;have:=HIP.out;unfold wrap64;omega);have hli:(i:Int)<(mn:Int):=by omega
         have hli2:(i:Int)<(fs.length:Int):=by have:=HIF.out;omega
         have him:i<ms.length:=by rw[HML.out];exact HIP.out
         have hiL:i<L'.length:=by rw[P1.out.at_.len];exact HIP.out
         have HGD:=h! (show L'.getD i []=L'[i]'hiL from getD_in hiL);have HOS:=h! (W1.out.s.mem.sets i him hiL)
         obtain⟨-,hrow⟩:True/\∃ io c0 b off,iv = .slice io ps.length c0/\io=some ⟨b,off,none⟩/\(b<wr.heap.size/\b≠ma/\b∉ms)/\wr.cell? ⟨b,off+i,none⟩=some (.map (some (ms[i]'him))):=⟨trivial,by
          obtain⟨io,n0,c0,he,-⟩:=W1.out.s.row.len;have h1:=W1.out.s.row;rw[he]at h1;obtain⟨rfl,h2⟩:=ms_at h1;obtain⟨b,off,h3,h4,h5⟩:=h2 i him;exact⟨io,c0,b,off,by rw[he,HML.out],h3,h4,h5⟩⟩
         obtain⟨io,c0,b2,off2,rfl,rfl,hb2,hcm⟩:=hrow;have hlm:(i:Int)<(ps.length:Int):=by have:=HIP.out;omega
         obtain⟨p1,q1,l1,m1,l2,m2,l4,m4,rfl,hp1,hft,e0,e1,e2,e3⟩:=grForm HG.out HIF.out;have HFX:=h! (show fs[i]?=some (fs[i]'HIF.out)from List.getElem?_eq_getElem HIF.out);have HKX:=h! (HKN.out _ (List.getElem_mem HIF.out));have HNB:=h! hb2;have HCM:=h! hcm;have HMM:=h! (show(ms[i]'him)∈ms/\w.heap.size<=(ms[i]'him)/\(ms[i]'him)<wr.heap.size from⟨List.getElem_mem him,W1.out.mlo.2 _ (List.getElem_mem him),HOS.out.lt⟩);have HAT:=h! (fun W A (hk:Tk (ms[i]'him) wr W) (ha:OS W (ms[i]'him) A)=>LkW.setAt W1.out him hk ha);generalize hmi:(ms[i]'him)=mi at *;generalize (fs[i]'HIF.out)=x at *;generalize (L'[i]'hiL)=A0 at *;have HFT:=h! hft;have hl0:=os_len HOS.out;have hbx:=W1.out.s.box.cells;clear hft hmi hlt;go_wp2_with fail
         clear hbx hl0 hcm;obtain⟨wd,hwd⟩:∃ wd,Hid (wd=wr.drew):=⟨_,h! rfl⟩;have hxd:=h! (show Ext wr wd from by rw[hwd.out];exact Ext.drew _);have WD:=h! (W1.out.ext hxd.out);have OD:=h! (HOS.out.below hxd.out);have HNS:=h! (show gb≠mi/\sp≠mi from⟨fun e=>HOS.out.notCells _ _ _ (e▸W1.out.gr),fun e=>HOS.out.notCells _ _ _ (e▸W1.out.s.box)⟩);refine r! (fun W=>Tk mi wd W) (by rw[<- hwd.out];exact Tk.refl _ _) ?_;rw[<- hwd.out];clear hwd;have hg:=fun W (h:Tk mi wd W)=>(h.box WD.out.gr HNS.out.1).cells;have hs:=fun W (h:Tk mi wd W)=>(h.box WD.out.s.box HNS.out.2).cells;have hold:∀ W,Tk mi wd W->∀ b,b<wr.heap.size->b≠mi->W.heap[b]?=wr.heap[b]?:=fun W h b h1 h2=>(h.block b ⟨Nat.lt_of_lt_of_le h1 hxd.out.size,h2⟩).trans (hxd.out.block b h1);have hc0:=fun W (h:Tk mi wd W)=>(World.cell?_of_block (a:=⟨b2,off2+i,none⟩) (hold W h b2 HNB.out.1 fun e=>HNB.out.2.2 (e▸HMM.out.1))).trans HCM.out;have hfo:∀ W,Tk mi wd W->∀ j,W.cell? ⟨p1,j,none⟩=w.cell? ⟨p1,j,none⟩:=fun W h j=>(World.cell?_of_block (a:=⟨p1,j,none⟩) (hold W h p1 (Nat.lt_of_lt_of_le hp1 W1.out.bel.size) fun e=>by have:=HMM.out.2.1;omega)).trans (W1.out.bel.cell (p:=⟨p1,j,none⟩) hp1);have q0:=fun W (h:Tk mi wd W)=>(hfo W h _).trans e0;have q1':=fun W (h:Tk mi wd W)=>(hfo W h _).trans e1;have q2:=fun W (h:Tk mi wd W)=>(hfo W h _).trans e2;have q3:=fun W (h:Tk mi wd W)=>(hfo W h _).trans e3;have HCL:=h! (formS_any P1.out.at_.sub HTY.out x _ wd WD.out.s ((HFT.out.same fun b hb=>WD.out.bel.block b hb).mono fun b hb=>Nat.lt_of_lt_of_le hb WD.out.bel.size) HKX.out);unfold fV at HCL;dsimp only at HCL;clear hfo hold e0 e1 e2 e3 hp1;(refine WalkN.tk [0,1,2,3,4,5,6,7,8,9,10,11,12] ?_;(iterate 13 (refine c! ?_));refine TkN.n ?_)
         clear hg hs hc0 q0 q1' q2 q3;refine o! 13 ?_;refine b! ?_;intro K hK;go_simp;refine HCL.out.mono ?_;rintro e w6 ⟨bf,Af,rfl,hbf,hAf,hmf,hx6⟩;refine hK.out _ _ (Tk.of hx6) ?_;clear hK HCL;have O6:=h! (OD.out.below hx6);have HAD:=h! (addS_any mi bf A0 Af w6 O6.out hAf (fun e=>by have:=OD.out.lt;omega));have HMF:=h! hmf;have X6:=h! (show Ext wr w6 from Ext.trans hxd.out hx6);have T6:=h! (show Tk mi wd w6 from Tk.of hx6);clear hbf hAf hmf hx6;refine o! 14 ?_;refine b! ?_;intro K hK;go_simp;refine HAD.out.mono ?_;rintro e w7 ⟨rfl,⟨A7,hA7,hm7⟩,hk7⟩;refine hK.out _ _ (T6.out.next hk7) ?_;clear hK HAD;refine d! ?_;have K7:=h! (show Tk mi wr w7 from(Tk.of X6.out).next hk7);have O7:=h! hA7;have W7:=h! (HAT.out w7 A7 K7.out hA7);have HM7:=h! (show ∀ o,o∈A7↔o∈L'.getD i []\/InF all L' x o from fun o=>by rw[hm7 o,HMF.out o,HGD.out]);have P7:=h! (P1.out.step HIP.out HFX.out (OS.nodup hA7) HM7.out);rw[HGD.out]at P7;have hl7:=os_len hA7;have hb7:=W7.out.s.box.cells;have hc7:w7.cell? ⟨b2,off2+i,none⟩=some (.map (some mi)):=(World.cell?_of_block (a:=⟨b2,off2+i,none⟩) (K7.out.block b2 ⟨HNB.out.1,fun e=>HNB.out.2.2 (e▸HMM.out.1)⟩)).trans HCM.out;clear hA7 hm7 hk7;cases g with
         | true =>
          go_wp2_with fail
          go_roundw
          case rel=>exact⟨i+1,true,_,rfl,by first | rw[HWI.out] | go_num,HLT.out,W7.out,P7.out⟩
          case measure=>have:=HLT.out;(try rw[HWI.out]);simp[intOf];omega
         | false =>
          go_wp2_with fail
          go_roundw
          case rel=>exact⟨i+1,decide (A0.length<A7.length),_,by simp,by first | rw[HWI.out] | go_num,HLT.out,W7.out,by simpa using P7.out⟩
          case measure=>have:=HLT.out;(try rw[HWI.out]);simp[intOf];omega
        ·obtain rfl:i=mn:=by omega
         go_wp2_with fail
         go_roundw
         case rel =>
          refine⟨L',⟨W1.out,P1.out.at_,P1.out.nd⟩,g,rfl,fun e=>?_⟩;subst e;exact P1.out.closed (by rw[<- hmn.out];exact Nat.le_refl _)
         case measure =>
          have h1:=leastM_le (R:=LkQ w wr gb sp (.slice po ps.length pc) (.slice fo fs.length fc) typ iv ms ma fs ps.length all) (potL ps.length all) (show LkQ w wr gb sp (.slice po ps.length pc) (.slice fo fs.length fc) typ iv ms ma fs ps.length all L' from⟨W1.out,P1.out.at_,P1.out.nd⟩);have h2:=HMN.out;cases g with
          | true=>have h3:=P1.out.less;simp only[flgV];omega
          | false=>have h3:=P1.out.le;simp only[flgV];omega
end Go.Proofs.YtlhaghoajpglaaaGreat
namespace Go.Proofs.YtlhaghoajpglaaaGreat
open Go Go.RowKit
instance:Inhabited O2:=⟨⟨⟨#[]⟩,⟨#[]⟩⟩⟩
theorem oS_inj {a b:O2} (h:oS a=oS b):a=b:=by
 cases a;cases b;simp only[oS,P3.mk.injEq]at h;simp[h.1,h.2.1]
def cmpO (a b:O2):Int:=orL [cmpS a.t b.t,cmpS a.i b.i]
def cmpI (a b:O2):Int:=cmpS a.i b.i
def ltO (a b:O2):Bool:=ltP (oS a) (oS b)
theorem ltO_eq (a b:O2):ltO a b=if a.t=b.t then ltS a.i b.i else ltS a.t b.t:=by
 unfold ltO ltP oS;dsimp only;split
 ·split
  ·next h=>rw[ltS_irr,h,ltS_irr]
  ·rfl
 ·rfl
theorem lt_cmpO (a b:O2):Go.Proofs.ltOf cmpO a b=ltO a b:=by
 rw[ltO_eq];unfold Go.Proofs.ltOf cmpO;rw[Bool.eq_iff_iff,decide_eq_true_eq];simp only[orL,cmpS_zero];by_cases h1:a.t=b.t
 ·simp only[h1,if_true];by_cases h2:a.i=b.i
  ·simp[h2,ltS_irr]
  ·simp only[h2,if_false];exact cmpS_neg _ _
 ·simp only[h1,if_false];exact cmpS_neg _ _
theorem lt_cmpI (a b:O2):Go.Proofs.ltOf cmpI a b=ltS a.i b.i:=by
 unfold Go.Proofs.ltOf cmpI;rw[Bool.eq_iff_iff,decide_eq_true_eq];exact cmpS_neg _ _
theorem swoO:Go.Sort.SWO (Go.Proofs.ltOf cmpO) where
 irrefl x:=by rw[lt_cmpO];exact ltP_irr _
 trans x y z h k:=by rw[lt_cmpO]at *;exact ltP_trans h k
 ntrans x y z h k:=by
  rw[lt_cmpO]at *;have:=swoP.ntrans (oS x) (oS y) (oS z);rw[lt_ordP,lt_ordP,lt_ordP]at this;exact this h k
theorem swoI:Go.Sort.SWO (Go.Proofs.ltOf cmpI) where
 irrefl x:=by rw[lt_cmpI];exact ltS_irr _
 trans x y z h k:=by rw[lt_cmpI]at *;exact ltS_trans h k
 ntrans x y z h k:=by
  rw[lt_cmpI]at *;cases hxz:ltS x.i z.i with
  | false=>rfl
  | true =>
   by_cases e1:x.i=y.i
   ·rw[e1]at hxz;rw[hxz]at k;cases k
   ·have h1:=ltS_total h e1;have h2:=ltS_trans h1 hxz;rw[h2]at k;cases k
def UpO (l:List O2):Prop:=l.Pairwise fun a b=>ltO a b=true
theorem upO_map {l:List O2}:UpO l↔UpP (l.map oS):=by
 unfold UpO UpP;rw[List.pairwise_map];rfl
theorem upO_unique {a b:List O2} (ha:UpO a)(hb:UpO b)(h:∀ x,x∈a↔x∈b):a=b:=by
 have h1:=upP_unique (upO_map.1 ha) (upO_map.1 hb) fun x=>by
  rw[List.mem_map,List.mem_map];constructor
  ·rintro⟨y,hy,e⟩;exact⟨y,(h y).1 hy,e⟩
  ·rintro⟨y,hy,e⟩;exact⟨y,(h y).2 hy,e⟩
 exact List.map_inj_right (fun x y e=>oS_inj e) |>.1 h1
theorem UpO.filter {l:List O2} (h:UpO l)(p:O2->Bool):UpO (l.filter p):=List.Pairwise.filter p h
theorem upO_sorted {l:List O2} (hs:l.Pairwise fun a b=>Go.Proofs.ltOf cmpO b a=false)(hn:l.Nodup):UpO l:=by
 refine List.pairwise_iff_getElem.2 fun i j hi hj hij=>?_;have h1:=List.pairwise_iff_getElem.1 hs i j hi hj hij;have h2:=List.pairwise_iff_getElem.1 hn i j hi hj hij;rw[lt_cmpO]at h1;exact ltP_total h1 fun e=>h2 (oS_inj e).symm
theorem upI_sorted {l:List O2} {typ:ByteArray} (ht:∀ o∈l,o.t=typ)(hs:l.Pairwise fun a b=>Go.Proofs.ltOf cmpI b a=false)(hn:l.Nodup):UpO l:=by
 refine List.pairwise_iff_getElem.2 fun i j hi hj hij=>?_;have h1:=List.pairwise_iff_getElem.1 hs i j hi hj hij;have h2:=List.pairwise_iff_getElem.1 hn i j hi hj hij;have e1:=ht _ (List.getElem_mem hi);have e2:=ht _ (List.getElem_mem hj);rw[lt_cmpI]at h1;rw[ltO_eq,if_pos (e1.trans e2.symm)];refine ltS_total h1 fun e=>h2 ?_;have:∀ a b:O2,a.t=b.t->a.i=b.i->a=b:=fun a b h k=>by cases a;cases b;simp_all
 exact this _ _ (e1.trans e2.symm) e.symm
theorem oC_one (p:O2):∀ u∈oC p,u.oneCell'=true:=by
 intro u hu;simp only[oC,List.mem_cons,List.not_mem_nil,or_false]at hu;rcases hu with rfl | rfl <;> rfl
def ocs (l:List O2):List Value:=l.flatMap oC
theorem ocs_one (l:List O2):∀ u∈ocs l,u.oneCell'=true:=by
 intro u hu;obtain⟨a,_,h⟩:=List.mem_flatMap.1 hu;exact oC_one a u h
theorem ocs_length (l:List O2):(ocs l).length=2*l.length:=by
 rw[ocs,flat_length oC_length];omega
theorem ocs_append (a b:List O2):ocs (a++b)=ocs a++ocs b:=List.flatMap_append
theorem ocs_single (a:O2):ocs [a]=oC a:=by simp[ocs]
theorem ocs_take (l:List O2)(k:Nat):(ocs l).take (k*2)=ocs (l.take k):=by
 induction k generalizing l with
 | zero=>simp[ocs]
 | succ k ih =>
  cases l with
  | nil=>simp[ocs]
  | cons a l =>
   rw[List.take_succ_cons,show ocs (a::l)=oC a++ocs l from rfl,show ocs (a::l.take k)=oC a++ocs (l.take k)from rfl,<- ih l];rw[show(k+1)*2=2+k*2 from by omega,List.take_append,List.take_of_length_le (by rw[oC_length];omega),oC_length,Nat.add_sub_cancel_left]
theorem ocs_drop (l:List O2)(k:Nat):(ocs l).drop (k*2)=ocs (l.drop k):=by
 induction k generalizing l with
 | zero=>simp[ocs]
 | succ k ih =>
  cases l with
  | nil=>simp[ocs]
  | cons a l =>
   rw[List.drop_succ_cons,show ocs (a::l)=oC a++ocs l from rfl,<- ih l];rw[show(k+1)*2=2+k*2 from by omega,List.drop_append,List.drop_eq_nil_of_le (by rw[oC_length];omega),oC_length,Nat.add_sub_cancel_left,List.nil_append]
theorem objsTO:ElemT Tryz.prog 113 30 2 32:=ElemT.mk' Tryz.underlying113 (show _=some (some (.agg #[.string ByteArray.empty,.string ByteArray.empty]),2,32)by kernel_rfl) rfl (by decide)
theorem cells_twoO (w:World)(a b:Value)(t:TypeId):∀ j u,[a,b][j]?=some u->(w.alloc (.cells #[a,b] t)).cell? ((⟨w.heap.size,0,none⟩:Addr).add j)=some u:=fun j u hu=>by
 rw[Addr.add_lit,cell_of_row _ w.heap.size (0+j) #[a,b] t (0,0) (heap_alloc_new w _),Nat.zero_add];simpa using hu
theorem o2_eql (a b:O2)(W:World):(binOp BinOp.eql 30 (oV a) (oV b)).run Tryz.prog W = .ok (.bool (decide (a=b))) W:=by
 obtain⟨a1,a2⟩:=a;obtain⟨b1,b2⟩:=b;unfold oV;dsimp only;go_simp;simp only[ba_toList];by_cases h1:a1=b1 <;> by_cases h2:a2=b2 <;> simp[h1,h2]
def SrtI (l:List O2):Prop:=l.Pairwise fun a b=>Go.Proofs.ltOf cmpI b a=false
theorem orderO_any (a b:O2)(w:World):Calls Tryz.prog 123 #[oV a,oV b] w (fun e w'=>e = .returned (.int .i64 (cmpO a b))/\Gr w w'):=by
 obtain⟨at_,ar⟩:=a;obtain⟨bt,br⟩:=b;unfold oV;dsimp only;have hA:=(Blk.made w #[.string at_,.string ar] 30).alloc (.cells #[.string bt,.string br] 30);have hB:=Blk.made' (w:=w.alloc (.cells #[.string at_,.string ar] 30)) (B:=w.heap.size+1) (by simp) #[.string bt,.string br] 30;have hb0:Gr w ((w.alloc (.cells #[.string at_,.string ar] 30)).alloc (.cells #[.string bt,.string br] 30)):=((Gr.refl _).alloc _).alloc _;go_enter Tryz.func123,Tryz.ntmps123
 go_wp2_with fail
 obtain⟨wd,hwd⟩:∃ wd,wd=((w.alloc (.cells #[.string at_,.string ar] 30)).alloc (.cells #[.string bt,.string br] 30)).drew:=⟨_,rfl⟩;have hAd:=hA.drew;have hBd:=hB.drew;have hbd:=hb0.drew;rw[<- hwd]at hAd hBd hbd;refine r! (Ext wd) (by rw[<- hwd];exact Ext.refl _) ?_;rw[<- hwd];clear hwd hA hB hb0;have h1:∀ W,Ext wd W->∀ i,W.cell? ⟨w.heap.size,i,none⟩=(#[.string at_,.string ar]:Array Value)[i]?:=fun W h=>(hAd.below h).cells;have h2:∀ W,Ext wd W->∀ i,W.cell? ⟨w.heap.size+1,i,none⟩=(#[.string bt,.string br]:Array Value)[i]?:=fun W h=>(hBd.below h).cells;(refine WalkN.tk [0,1,2,3,5,6,7,8] ?_;(iterate 8 (refine c! ?_));refine TkN.n ?_)
 clear h1 h2;have HP1:=h! (cmpS_any at_ bt wd);refine o! 4 ?_;refine b! ?_;intro K hK;go_simp;refine HP1.out.mono ?_;rintro e w1 ⟨rfl,rfl⟩;refine hK.out _ _ (Ext.refl _) ?_;clear hK HP1;have HP2:=h! (cmpS_any ar br wd);refine o! 9 ?_;refine b! ?_;intro K hK;go_simp;refine HP2.out.mono ?_;rintro e w1 ⟨rfl,rfl⟩;refine hK.out _ _ (Ext.refl _) ?_;clear hK HP2;refine o! 10 ?_;refine b! ?_;intro K hK;go_simp;have hE:Ext wd (wd.alloc (.cells #[.int .i64 (cmpS at_ bt),.int .i64 (cmpS ar br)] 3)):=Ext.alloc _ _;have hl:Sl (fun b=>b=wd.heap.size) (wd.alloc (.cells #[.int .i64 (cmpS at_ bt),.int .i64 (cmpS ar br)] 3)) 1 (.slice (some ⟨wd.heap.size,0,none⟩) 2 2) (icL [cmpS at_ bt,cmpS ar br]):=Sl.made wd _ 1 2 _ _ rfl (by decide) rfl;refine hK.out _ _ hE ?_;clear hK;have HP4:=h! (orL_any _ _ _ _ hl);have hbe:=hbd.alloc (.cells #[.int .i64 (cmpS at_ bt),.int .i64 (cmpS ar br)] 3);refine o! 11 ?_;refine b! ?_;intro K hK;go_simp;refine HP4.out.mono ?_;rintro e w1 ⟨rfl,rfl⟩;refine hK.out _ _ hE ?_;clear hK HP4;refine t! 12 ?_
 refine d! ?_;go_wp2
 go_ret
 exact⟨rfl,hbe⟩
theorem orderU_any (a b:O2)(w:World):Calls Tryz.prog 182 #[oV a,oV b] w (fun e w'=>e = .returned (.int .i64 (cmpI a b))/\Gr w w'):=by
 obtain⟨at_,ar⟩:=a;obtain⟨bt,br⟩:=b;unfold oV;dsimp only;have hA:=(Blk.made w #[.string at_,.string ar] 30).alloc (.cells #[.string bt,.string br] 30);have hB:=Blk.made' (w:=w.alloc (.cells #[.string at_,.string ar] 30)) (B:=w.heap.size+1) (by simp) #[.string bt,.string br] 30;have hb0:Gr w ((w.alloc (.cells #[.string at_,.string ar] 30)).alloc (.cells #[.string bt,.string br] 30)):=((Gr.refl _).alloc _).alloc _;go_enter Tryz.func182,Tryz.ntmps182
 have hA2:=hA.cells;have hB2:=hB.cells;have HP1:=h! (cmpS_any ar br ((w.alloc (.cells #[.string at_,.string ar] 30)).alloc (.cells #[.string bt,.string br] 30)));go_wp2_with fail
 refine HP1.out.mono ?_;rintro e w1 ⟨rfl,rfl⟩;go_wp2_with fail
 go_ret
 exact⟨rfl,hb0⟩
end Go.Proofs.YtlhaghoajpglaaaGreat
namespace Go.Proofs.YtlhaghoajpglaaaGreat
open Go Go.RowKit Go.Maps
theorem keysU_stops (F:Fence)(n:Nat)(h60:F.fn 227)(hro:F.round=none)(hn:1<=n)(Bm b:Nat)(m:List (O2 × Bool))(w:World)(hBm:Bm<w.heap.size)
  (hm:w.cell? ⟨Bm,0,none⟩=some (.map (some b))) (hM:Mp Tryz.prog 30 oV (fun x => .bool x) w b m) :
  SeqStopsK F n Tryz.prog 227 #[.pointer (some ⟨Bm,0,none⟩)] (fun x=>#[oV x]) KeepsWalks (fun ss=>ss.Perm (m.map (·.1))) (fun _=>True) m.length w:=fun l J Jx W hW hJ hJx hY h0=>by
 have hMW:=hM.below hW;have hmW:=(hW.cell (p:=⟨Bm,0,none⟩) hBm).trans hm;clear hM hm hW;refine callsIn_of_wp Tryz.func227 rfl h60 ?_ hro;simp only[Tryz.ntmps227,List.size_toArray,List.length_cons,List.length_nil,Nat.reduceAdd,Nat.reduceSub,Array.replicate_succ,Array.replicate_zero,List.push_toArray,List.append_toArray,List.nil_append,List.cons_append]
 gi_wp2_with (first
  | (gi_at_range;refine wpListIn_mp_range _ rfl _ 210 rfl Tryz.underlying210 rfl hMW ?_;intro w0 hrg0 hb0 hs0)
  | gi_in)
 try go_frame
 gi_loopw [3] (fun _ wr=>∃ (rem:List (O2 × Bool)) (ss:List O2),Rng Tryz.prog 30 oV (fun x => .bool x) wr b W.heap.size m rem/\(ss++rem.map (·.1)).Perm (m.map (·.1))/\J ss wr)
  (fun _ wr=>wr.rangeLeft b W.heap.size)
 case atStart=>exact⟨m,[],hrg0,List.Perm.refl _,hJ [] W w0 none h0 (grown0_of hb0) (fun r e=>by cases e)⟩
 case round =>
  obtain⟨rem,ss,hrg,hp,hJs⟩:=hrel;have hlen:ss.length+rem.length=m.length:=by have:=hp.length_eq;simpa using this
  have hrl:∀ pre (p:O2 × Bool) post,rem=pre++p::post->ss.length<m.length:=fun pre p post e=>by
   have:=congrArg List.length e;simp at this;omega
  gi_wp2_with (first
   | (gi_at_next;refine wpListIn_mp_next _ rfl _ rfl rfl hrg ?_ ?_;rotate_left;(rintro pre ⟨⟨xt,xr⟩,c⟩ post w2 hrem hrg2 hk2 hs2 hen;have HREM:=h! hrem;have hJ2:J ss w2:=hJ ss wr w2 (some W.heap.size) hJs hk2.grown (fun r e=>by cases e;exact⟨Nat.le_refl _,hrg.walk⟩);have hJ3:J ss (w2.alloc (.cells #[.string xt,.string xr] 30)):=hJ ss w2 _ none hJ2 (grown0_of ((Below.refl _ _).alloc (Nat.le_refl _) _)) (fun r e=>by cases e);obtain⟨fn,tmps,assign,body,hy,hR⟩:=hY ss ⟨xt,xr⟩ _ hJ3 (hrl _ _ _ hrem);have HR:=h! hR;have HRG:=h! hrg2;have HJ3:=h! hJ3;clear hR hrg2 hJ3 hJ2 hrem hs2 hrl hk2;dsimp only[oV]at hy hen);rotate_left;(intro hrem;have HREM0:=h! hrem;clear hrem hrl))
   | gi_in)
  ·go_end0
   refine⟨⟨_,rfl⟩,.inl ⟨ss,?_,hJs⟩⟩;have h1:=hp;rw[HREM0.out]at h1;simpa using h1
  ·refine HR.out.mono ?_;rintro e W3 (⟨rfl,hJ4,hk3⟩ | ⟨rfl,hJ4⟩);rotate_left
   ·gi_wp2
    exact bodyPost_ret (results_none rfl _ _ _) rfl ⟨⟨_,rfl⟩,.inr ⟨_,trivial,hJ4⟩⟩
   have hrg3:=(HRG.out.below ((Below.refl _ _).alloc (Nat.le_refl _) (.cells #[.string xt,.string xr] 30))).walks hk3;gi_wp2
   go_roundw
   case rel =>
    refine⟨pre++post,ss++[⟨xt,xr⟩],hrg3,?_,hJ4⟩;have h1:=hp;rw[HREM.out]at h1;refine List.Perm.trans ?_ h1;simp only[List.map_append,List.map_cons,List.append_assoc,List.singleton_append];exact List.Perm.append_left ss List.perm_middle.symm
   case measure=>rw[hrg3.left_eq,hrg.left_eq,HREM.out];simp
theorem keysU_in (F:Fence)(n:Nat)(h46:F.fn 181)(hro:F.round=none)(mb:Option Nat)(w:World) :
  CallsIn F n Tryz.prog 181 #[.map mb] w fun e w'=>e = .returned (.func (.func 227) #[] #[.pointer (some ⟨w.heap.size,0,none⟩)])/\w'=w.alloc (.cells #[.map mb] 210):=by
 have hmf:∀ (fn:Fn) (first cap:Array Value) (w:World),(Instr.makeFunc fn first cap).run Tryz.prog w = .ok (.func fn first cap) w:=fun _ _ _ _=>rfl;refine callsIn_of_wp Tryz.func181 rfl h46 ?_ hro;simp only[Tryz.ntmps181,List.size_toArray,List.length_cons,List.length_nil,Nat.reduceAdd,Nat.reduceSub,Array.replicate_succ,Array.replicate_zero,List.push_toArray,List.append_toArray,List.nil_append,List.cons_append];gi_wp2
 go_ret
 exact⟨rfl,rfl⟩
theorem keysU_nil (F:Fence)(n:Nat)(hf:F.fn 227)(hro:F.round=none)(Bm:Nat)(w:World)(hBm:Bm<w.heap.size)(hm:w.cell? ⟨Bm,0,none⟩=some (.map none)) :
  SeqStopsK F n Tryz.prog 227 #[.pointer (some ⟨Bm,0,none⟩)] (fun x:O2=>#[oV x]) KeepsWalks (fun ss:List O2=>ss=[]) (fun _=>True) 0 w:=fun l J Jx W hW hJ _ _ h0=>by
 have hmW:=(hW.cell (p:=⟨Bm,0,none⟩) hBm).trans hm;clear hm hW;refine callsIn_of_wp Tryz.func227 rfl hf ?_ hro;simp only[Tryz.ntmps227,List.size_toArray,List.length_cons,List.length_nil,Nat.reduceAdd,Nat.reduceSub,Array.replicate_succ,Array.replicate_zero,List.push_toArray,List.append_toArray,List.nil_append,List.cons_append];have hrg:=run_range_nilMap (P:=Tryz.prog) W 210 30 4 Tryz.underlying210;have hnx:∀ ty,(Instr.next (.pointer (some ⟨W.heap.size,0,none⟩)) false ty).run Tryz.prog (W.alloc (.mapIter none 0 #[] 0))=_:=fun ty=>run_next_nilMap _ ty 0 0 #[];gi_wp2
 refine wpIn_loop_rounds 1 ?_;rw[roundsIn_succ];gi_wp2
 go_end0
 exact⟨⟨_,rfl⟩,.inl ⟨[],rfl,hJ [] W _ none h0 (World.grownBy_alloc W _ none) (fun r e=>by cases e)⟩⟩
end Go.Proofs.YtlhaghoajpglaaaGreat
namespace Go.Proofs.YtlhaghoajpglaaaGreat
open Go Go.RowKit
attribute [local go_sem] Oper.semAt_some
theorem appO_in (F:Fence)(n:Nat)(h45:F.fn 228)(hro:F.round=none)(hn:2<=n)(g:Nat)(lb:Array Value)(hFg:F.fn g)(eg:∀ args w,(callFunc g args).run Tryz.prog w = .ok (.enter g args) w)
  (S Sp:List O2->Prop) (N:Nat) (w:World) (B0:Nat) (hB0:B0<=w.heap.size) (v:Value) (l:List O2) (hN:l.length+N<=549755813888) (hown:Own w B0 30 2 v (ocs l)) (hseq:SeqStopsK F (n-1) Tryz.prog g lb (fun x=>#[oV x]) KeepsWalks S Sp N w) :
  CallsIn F n Tryz.prog 228 #[v,.func (.func g) #[] lb] w fun e w'=>∃ (v':Value) (ss:List O2),e = .returned v'/\S ss/\Own w' B0 30 2 v' (ocs (l++ss))/\Kept (fun b=>b<w.heap.size/\v.ownBlock≠some b) w w'/\KeepsFrom 0 w w':=by
 have h1:1<=n:=by omega
 obtain⟨ao,k,c,rfl⟩:∃ ao k c,v = .slice ao k c:=by
  rcases hown.shape with⟨rfl,_⟩ | ⟨g,n,c,rfl⟩
  ·exact⟨_,_,_,rfl⟩
  ·exact⟨_,_,_,rfl⟩
 refine callsIn_of_wp_marks Tryz.func228 rfl h45 ?_ hro;simp only[Tryz.ntmps228,List.size_toArray,List.length_cons,List.length_nil,Nat.reduceAdd,Nat.reduceSub,Array.replicate_succ,Array.replicate_zero,List.push_toArray,List.append_toArray,List.nil_append,List.cons_append];gi_wp2
 have bS:=Boxed.new w 113 (.slice ao k c);have hw0:Below w.heap.size w (w.alloc (.cells #[.slice ao k c] 113)):=(Below.refl _ w).alloc (Nat.le_refl _) _;have hsz:(w.alloc (.cells #[.slice ao k c] 113)).heap.size=w.heap.size+1:=by simp
 have hown0:=hown.below hw0;have hk0:KeepsFrom 0 w (w.alloc (.cells #[.slice ao k c] 113)):=(KeepsOthers.alloc _ _).from _;obtain⟨W0,hW0⟩:∃ W0,w.alloc (.cells #[.slice ao k c] 113)=W0:=⟨_,rfl⟩;rw[hW0]at bS hw0 hsz hown0 hk0 ⊢;clear hW0
 refine wpIn_rangeFunc_ownH hro h1 (gf:=g) (lb:=lb) rfl hFg eg hseq walksK_t walksK_b hw0 (fun _=>rfl)
  (fun pre W=>(∃ v',Boxed W w.heap.size 113 v'/\Own W B0 30 2 v' (ocs (l++pre))/\(∀ g,v'.ownBlock=some g->(Value.slice ao k c).ownBlock=some g\/w.heap.size<=g))/\(Kept (fun b=>b<w.heap.size/\(Value.slice ao k c).ownBlock≠some b) w W/\KeepsFrom 0 w W))
  (fun _ _ _=>False)
  (OwnFrom.and (own_ownFrom B0 w.heap.size 113 30 2 (fun pre=>ocs (l++pre)) (fun v'=>∀ g,v'.ownBlock=some g->(Value.slice ao k c).ownBlock=some g\/w.heap.size<=g) _) (OwnFrom.and (ownFrom_kept (fun b hb=>hb.1) (by omega)) (ownFrom_keepsFrom (by omega))))
  (fun _ _ _ _ _ hs _ _=>hs)
  ⟨⟨_,bS,by simpa using hown0,fun g hg => .inl hg⟩,Below.kept hw0 (fun b hb=>hb.1),hk0⟩
  (fun x a' W=>∃ Bx,w.heap.size<Bx/\Blk W Bx #[.string x.t,.string x.i] 30/\a' = {tmps:=#[.slice ao k c,.func (.func g) #[] lb,.pointer (some ⟨w.heap.size,0,none⟩),undef,.slice none 0 0,.pointer (some ⟨Bx,0,none⟩),.func (.func g) #[] lb,oV x,undef,undef,undef,undef,undef],defers:=[]})
  (fun x a' _ X Y row hs hg hr=>by obtain⟨Bx,h1,h2,h3⟩:=hs;exact⟨Bx,h1,boxed3_kept h2 hg (fun r e=>(hr r e).2),h3⟩)
  ?assign ?body ?done ?stop
 case assign =>
  rintro l2 pre ⟨xt,xr⟩ W K ⟨⟨v',bS1,hO1,hG1⟩,hB1,hK1⟩ hK;dsimp only[oV];gi_wp2
  refine hK _ _ ((KeepsOthers.alloc _ _).from _) (KeepsWalks.alloc _ _) ⟨⟨v',bS1.alloc _,hO1.below ((Below.refl _ _).alloc (Nat.le_refl _) _),hG1⟩,hB1.alloc (fun b hb=>Nat.lt_of_lt_of_le hb.1 hB1.size) _,hK1.trans ((KeepsOthers.alloc _ _).from _)⟩ ⟨W.heap.size,bS1.lt,Blk.made W _ _,rfl⟩
 case body =>
  rintro l2 pre ⟨xt,xr⟩ a' W hl ⟨r,hr⟩ ⟨⟨v',bS1,hO1,hG1⟩,hB1,hK1⟩ ⟨Bx,hBx,bX,rfl⟩ hlt;have cS:=bS1.cell;have cX:=bX.cells;have hwl:=hB1.size;have hpl:=ocs_length (l++pre);rw[List.length_append]at hpl;have hbb:(2*(l.length+pre.length)+2)*32<=140737488355328:=by omega
  gi_wp2_with (first
   | (gi_at_builtin;go_loud (
      refine wpListIn_own objsTO rfl _ _ rfl rfl (hO1.below ((Below.refl _ _).alloc (Nat.le_refl _) _)) (ad:=⟨W.heap.size,0,none⟩) (m:=1) (c:=1) (news:=[.string xt,.string xr]) rfl rfl (cells_twoO _ _ _ _) (by intro u hu;simp only[List.mem_cons,List.not_mem_nil,or_false]at hu;rcases hu with rfl | rfl | rfl <;> rfl) (by simp only[List.length_cons,List.length_nil];omega) (by simp only[List.length_cons,List.length_nil];rw[hpl];exact hbb) (by simp;omega) ?_;intro v2 w2 hO2 hG2 hg2
      obtain⟨g2,n2,c2,rfl⟩:∃ g2 n2 c2,v2 = .slice (some ⟨g2,0,none⟩) n2 c2:=by
        rcases hO2.shape with⟨_,h⟩ | h
        · exact absurd h (by simp)
        · exact h
      have bS2:=(bS1.alloc (.cells #[.string xt,.string xr] 30)).kept hg2 (boxed_notOwn (bS1.alloc _) (by decide) (hO1.below ((Below.refl _ _).alloc (Nat.le_refl _) (.cells #[.string xt,.string xr] 30))));have cS2:=bS2.cell;have fS2:=bS2.frozen))
   | gi_in)
  have hKa:KeepsFrom 0 W (W.alloc (.cells #[.string xt,.string xr] 30)):=(KeepsOthers.alloc _ _).from _;have hKb:=hKa.trans (keeps_own (hO1.below ((Below.refl _ _).alloc (Nat.le_refl _) (.cells #[.string xt,.string xr] 30))) hg2 0);have hKc:KeepsFrom 0 W (w2.setCell ⟨w.heap.size,0,none⟩ (.slice (some ⟨g2,0,none⟩) n2 c2)):=hKb.trans ((KeepsOthers.setCell _ _ _).from _);refine⟨keeps_up hKc _,keeps_walks hKc,⟨⟨_,bS2.set _,?_,fun g hg=>?_⟩,?_,hK1.trans hKc⟩⟩
  ·have:=hO2.keepOwn (w':=w2.setCell ⟨w.heap.size,0,none⟩ (.slice (some ⟨g2,0,none⟩) n2 c2)) (fun g hg=>Below.heap_setCell _ _ _ g (fun e=>boxed_notOwn bS2 (by decide) hO2 (by rw[hg,e])));rw[<- List.append_assoc,ocs_append (l++pre),ocs_single];exact this
  ·rcases hG2 g hg with h | h
   ·exact hG1 g h
   ·exact .inr (by have:=hB1.size;simp at h;omega)
  ·have hk2:Kept (fun b=>b<w.heap.size/\(Value.slice ao k c).ownBlock≠some b) (W.alloc (.cells #[.string xt,.string xr] 30)) w2:=⟨hg2.os,hg2.tape,hg2.output,hg2.size,fun b hb=>hg2.block b (by have:=hB1.size;have:=hb.1;simp;omega) (fun e=>by
    rcases hG1 b e.symm with h | h
    ·exact hb.2 h
    ·have:=hb.1;omega)⟩
   exact((hB1.alloc (fun b hb=>Nat.lt_of_lt_of_le hb.1 hB1.size) _).trans hk2).set (a:=⟨w.heap.size,0,none⟩) (fun h=>Nat.lt_irrefl _ h.1) _
 case done =>
  rintro D ys W hD hS ⟨⟨v',bS1,hO1,_⟩,hB1,hK1⟩ hK;have cS:=bS1.cell
  obtain⟨ao',k',c',rfl⟩:∃ ao k c,v' = .slice ao k c:=by
   rcases hO1.shape with⟨rfl,_⟩ | ⟨g,n,c,rfl⟩
   ·exact⟨_,_,_,rfl⟩
   ·exact⟨_,_,_,rfl⟩
  gi_wp2
  refine⟨by simp,.inl ⟨_,_,rfl,run_takeDeferred hK,?_⟩⟩;refine⟨_,results_tmp rfl _ _ _,_,ys,rfl,hS,hO1.put _ hK rfl,⟨hB1.os,hB1.tape,hB1.output,by have:=hB1.size;simpa using this,fun b hb=>(World.putObj_heap_other (fun e=>by have:=hb.1;omega)).trans (hB1.block b hb)⟩,?_⟩;exact⟨by have:=hK1.size;simpa using this,fun k o _ hk ho=>(World.putObj_heap_other (fun e=>by have:=(Array.getElem?_eq_some_iff.1 hk).1;omega)).trans (hK1.same k o (Nat.zero_le _) hk ho)⟩
 case stop =>
  rintro D c pre W _ _ h _;exact h.elim
end Go.Proofs.YtlhaghoajpglaaaGreat
namespace Go.Proofs.YtlhaghoajpglaaaGreat
open Go Go.RowKit Go.Maps
theorem keysU_seq (F:Fence)(n:Nat)(hf:F.fn 227)(hro:F.round=none)(hn:1<=n)(Bm:Nat)(mb:Option Nat)(m:List (O2 × Bool))(w:World)(hBm:Bm<w.heap.size)(hm:w.cell? ⟨Bm,0,none⟩=some (.map mb))
  (hM:MpO Tryz.prog 30 oV bV w mb m) :
  SeqStopsK F n Tryz.prog 227 #[.pointer (some ⟨Bm,0,none⟩)] (fun x=>#[oV x]) KeepsWalks (fun ss=>ss.Perm (m.map (·.1))) (fun _=>True) m.length w:=by
 cases mb with
 | none =>
  obtain rfl:m=[]:=hM;have h:=keysU_nil F n hf hro Bm w hBm hm;rwa[show(fun ss:List O2=>ss=[])=(fun ss=>ss.Perm (([]:List (O2 × Bool)).map (·.1)))from funext fun ss=>propext List.perm_nil.symm]at h
 | some b=>exact keysU_stops F n hf hro hn Bm b m w hBm hm hM
theorem keysU_any (mb:Option Nat)(w:World):Calls Tryz.prog 181 #[.map mb] w fun e w'=>e = .returned (.func (.func 227) #[] #[.pointer (some ⟨w.heap.size,0,none⟩)])/\w'=w.alloc (.cells #[.map mb] 210) :=
 callsIn_wide.1 (keysU_in Fence.wide 1 trivial rfl mb w)
theorem appU_any (w:World)(B0:Nat)(hB0:B0<=w.heap.size)(v:Value)(l:List O2)(Bm:Nat)(mb:Option Nat)(m:List (O2 × Bool))(hN:l.length+m.length<=549755813888)(hown:Own w B0 30 2 v (ocs l))(hBm:Bm<w.heap.size)(hm:w.cell? ⟨Bm,0,none⟩=some (.map mb))(hM:MpO Tryz.prog 30 oV bV w mb m) :
  Calls Tryz.prog 228 #[v,.func (.func 227) #[] #[.pointer (some ⟨Bm,0,none⟩)]] w fun e w'=>∃ (v':Value) (ss:List O2),e = .returned v'/\ss.Perm (m.map (·.1))/\Own w' B0 30 2 v' (ocs (l++ss))/\Kept (fun b=>b<w.heap.size/\v.ownBlock≠some b) w w'/\KeepsFrom 0 w w' :=
 callsIn_wide.1 (appO_in Fence.wide 3 trivial rfl (by omega) 227 _ trivial (enters_of Tryz.func227 (by kernel_rfl) rfl) _ _ m.length w B0 hB0 v l hN hown (keysU_seq Fence.wide 2 trivial rfl (by omega) Bm mb m w hBm hm hM))
theorem collectU_any (w:World)(Bm:Nat)(mb:Option Nat)(m:List (O2 × Bool))(hN:m.length<=549755813888)(hBm:Bm<w.heap.size)(hm:w.cell? ⟨Bm,0,none⟩=some (.map mb))(hM:MpO Tryz.prog 30 oV bV w mb m) :
  Calls Tryz.prog 184 #[.func (.func 227) #[] #[.pointer (some ⟨Bm,0,none⟩)]] w fun e w'=>∃ (v':Value) (ss:List O2),e = .returned v'/\ss.Perm (m.map (·.1))/\Own w' w.heap.size 30 2 v' (ocs ss)/\Below w.heap.size w w':=by
 have HP:=h! (appU_any w w.heap.size (Nat.le_refl _) (.slice none 0 0) [] Bm mb m (by simpa using hN) (Own.nil w _ _ _) hBm hm hM);clear hM hm;go_enter Tryz.func184,Tryz.ntmps184
 go_wp2_with fail
 refine HP.out.mono ?_;rintro e w1 ⟨v,ss,rfl,hp,ho,hk,_⟩;go_wp2
 go_ret
 exact⟨v,ss,rfl,hp,ho,hk.below fun b hb=>⟨hb,by simp[Value.ownBlock]⟩⟩
end Go.Proofs.YtlhaghoajpglaaaGreat
namespace Go.Proofs.YtlhaghoajpglaaaGreat
open Go Go.RowKit
theorem sortU_any {w:World} {B:Nat} {v:Value} {l:List O2} (h:Own w B 30 2 v (ocs l))(hl:l.length<4611686018427387904)(_hn:l.Nodup) :
  Calls Tryz.prog 185 #[v,.func (.func 182) #[] #[]] w fun e w'=>e = .returned (.tuple #[])/\∃ l':List O2,l'.Perm l/\SrtI l'/\Own w' B 30 2 v (ocs l')/\Kept (fun b=>b<w.heap.size/\v.ownBlock≠some b) w w':=by
 refine Calls.mono (sort_own Tryz.sortO oC 2 oC_length (by decide) oC_one Tryz.isAgg30 Tryz.sizeOf30 cmpI swoI 182 #[] (enters_of Tryz.func182 (by kernel_rfl) rfl) (fun W x y=>orderU_any x y W) h hl) ?_;rintro e w' ⟨rfl,l',hp,hs,ho,hk⟩;exact⟨rfl,l',hp,hs,ho,hk⟩
end Go.Proofs.YtlhaghoajpglaaaGreat
namespace Go.Proofs.YtlhaghoajpglaaaGreat
open Go Go.RowKit Go.Maps
theorem sortedU_any (w:World)(Bm:Nat)(mb:Option Nat)(m:List (O2 × Bool))(hN:m.length<=549755813888)(hBm:Bm<w.heap.size)(hm:w.cell? ⟨Bm,0,none⟩=some (.map mb))(hM:MpO Tryz.prog 30 oV bV w mb m) :
  Calls Tryz.prog 121 #[.func (.func 227) #[] #[.pointer (some ⟨Bm,0,none⟩)],.func (.func 182) #[] #[]] w fun e w'=>∃ (v':Value) (ss:List O2),e = .returned v'/\ss.Perm (m.map (·.1))/\SrtI ss/\Own w' w.heap.size 30 2 v' (ocs ss)/\Below w.heap.size w w':=by
 have HN:=h! hM.nodup;have HP:=h! (collectU_any w Bm mb m hN hBm hm hM);clear hM hm;go_enter Tryz.func121,Tryz.ntmps121
 go_wp2_with fail
 refine HP.out.mono ?_;rintro e w1 ⟨v,ss,rfl,hp,ho,hb⟩;have HP2:=h! (sortU_any ho (by have:=hp.length_eq;simp at this;omega) (hp.nodup_iff.2 HN.out));go_wp2_with fail
 refine HP2.out.mono ?_;rintro e w2 ⟨rfl,l',hp',hu,ho',hk'⟩;go_wp2
 go_ret
 exact⟨v,l',rfl,hp'.trans hp,hu,ho',hb.trans (hk'.below fun b hb'=>⟨Nat.lt_of_lt_of_le hb' hb.size,fun e=>by have:=(ho.block b e).1;omega⟩)⟩
theorem keysO_stops (F:Fence)(n:Nat)(h60:F.fn 186)(hro:F.round=none)(hn:1<=n)(Bm b:Nat)(m:List (O2 × Bool))(w:World)(hBm:Bm<w.heap.size)
  (hm:w.cell? ⟨Bm,0,none⟩=some (.map (some b))) (hM:Mp Tryz.prog 30 oV (fun x => .bool x) w b m) :
  SeqStopsK F n Tryz.prog 186 #[.pointer (some ⟨Bm,0,none⟩)] (fun x=>#[oV x]) KeepsWalks (fun ss=>ss.Perm (m.map (·.1))) (fun _=>True) m.length w:=fun l J Jx W hW hJ hJx hY h0=>by
 have hMW:=hM.below hW;have hmW:=(hW.cell (p:=⟨Bm,0,none⟩) hBm).trans hm;clear hM hm hW;refine callsIn_of_wp Tryz.func186 rfl h60 ?_ hro;simp only[Tryz.ntmps186,List.size_toArray,List.length_cons,List.length_nil,Nat.reduceAdd,Nat.reduceSub,Array.replicate_succ,Array.replicate_zero,List.push_toArray,List.append_toArray,List.nil_append,List.cons_append]
 gi_wp2_with (first
  | (gi_at_range;refine wpListIn_mp_range _ rfl _ 157 rfl Tryz.underlying157 rfl hMW ?_;intro w0 hrg0 hb0 hs0)
  | gi_in)
 try go_frame
 gi_loopw [3] (fun _ wr=>∃ (rem:List (O2 × Bool)) (ss:List O2),Rng Tryz.prog 30 oV (fun x => .bool x) wr b W.heap.size m rem/\(ss++rem.map (·.1)).Perm (m.map (·.1))/\J ss wr)
  (fun _ wr=>wr.rangeLeft b W.heap.size)
 case atStart=>exact⟨m,[],hrg0,List.Perm.refl _,hJ [] W w0 none h0 (grown0_of hb0) (fun r e=>by cases e)⟩
 case round =>
  obtain⟨rem,ss,hrg,hp,hJs⟩:=hrel;have hlen:ss.length+rem.length=m.length:=by have:=hp.length_eq;simpa using this
  have hrl:∀ pre (p:O2 × Bool) post,rem=pre++p::post->ss.length<m.length:=fun pre p post e=>by
   have:=congrArg List.length e;simp at this;omega
  gi_wp2_with (first
   | (gi_at_next;refine wpListIn_mp_next _ rfl _ rfl rfl hrg ?_ ?_;rotate_left;(rintro pre ⟨⟨xt,xr⟩,c⟩ post w2 hrem hrg2 hk2 hs2 hen;have HREM:=h! hrem;have hJ2:J ss w2:=hJ ss wr w2 (some W.heap.size) hJs hk2.grown (fun r e=>by cases e;exact⟨Nat.le_refl _,hrg.walk⟩);have hJ3:J ss (w2.alloc (.cells #[.string xt,.string xr] 30)):=hJ ss w2 _ none hJ2 (grown0_of ((Below.refl _ _).alloc (Nat.le_refl _) _)) (fun r e=>by cases e);obtain⟨fn,tmps,assign,body,hy,hR⟩:=hY ss ⟨xt,xr⟩ _ hJ3 (hrl _ _ _ hrem);have HR:=h! hR;have HRG:=h! hrg2;have HJ3:=h! hJ3;clear hR hrg2 hJ3 hJ2 hrem hs2 hrl hk2;dsimp only[oV]at hy hen);rotate_left;(intro hrem;have HREM0:=h! hrem;clear hrem hrl))
   | gi_in)
  ·go_end0
   refine⟨⟨_,rfl⟩,.inl ⟨ss,?_,hJs⟩⟩;have h1:=hp;rw[HREM0.out]at h1;simpa using h1
  ·refine HR.out.mono ?_;rintro e W3 (⟨rfl,hJ4,hk3⟩ | ⟨rfl,hJ4⟩);rotate_left
   ·gi_wp2
    exact bodyPost_ret (results_none rfl _ _ _) rfl ⟨⟨_,rfl⟩,.inr ⟨_,trivial,hJ4⟩⟩
   have hrg3:=(HRG.out.below ((Below.refl _ _).alloc (Nat.le_refl _) (.cells #[.string xt,.string xr] 30))).walks hk3;gi_wp2
   go_roundw
   case rel =>
    refine⟨pre++post,ss++[⟨xt,xr⟩],hrg3,?_,hJ4⟩;have h1:=hp;rw[HREM.out]at h1;refine List.Perm.trans ?_ h1;simp only[List.map_append,List.map_cons,List.append_assoc,List.singleton_append];exact List.Perm.append_left ss List.perm_middle.symm
   case measure=>rw[hrg3.left_eq,hrg.left_eq,HREM.out];simp
theorem keysO_in (F:Fence)(n:Nat)(h46:F.fn 122)(hro:F.round=none)(mb:Option Nat)(w:World) :
  CallsIn F n Tryz.prog 122 #[.map mb] w fun e w'=>e = .returned (.func (.func 186) #[] #[.pointer (some ⟨w.heap.size,0,none⟩)])/\w'=w.alloc (.cells #[.map mb] 157):=by
 have hmf:∀ (fn:Fn) (first cap:Array Value) (w:World),(Instr.makeFunc fn first cap).run Tryz.prog w = .ok (.func fn first cap) w:=fun _ _ _ _=>rfl;refine callsIn_of_wp Tryz.func122 rfl h46 ?_ hro;simp only[Tryz.ntmps122,List.size_toArray,List.length_cons,List.length_nil,Nat.reduceAdd,Nat.reduceSub,Array.replicate_succ,Array.replicate_zero,List.push_toArray,List.append_toArray,List.nil_append,List.cons_append];gi_wp2
 go_ret
 exact⟨rfl,rfl⟩
theorem keysO_nil (F:Fence)(n:Nat)(hf:F.fn 186)(hro:F.round=none)(Bm:Nat)(w:World)(hBm:Bm<w.heap.size)(hm:w.cell? ⟨Bm,0,none⟩=some (.map none)) :
  SeqStopsK F n Tryz.prog 186 #[.pointer (some ⟨Bm,0,none⟩)] (fun x:O2=>#[oV x]) KeepsWalks (fun ss:List O2=>ss=[]) (fun _=>True) 0 w:=fun l J Jx W hW hJ _ _ h0=>by
 have hmW:=(hW.cell (p:=⟨Bm,0,none⟩) hBm).trans hm;clear hm hW;refine callsIn_of_wp Tryz.func186 rfl hf ?_ hro;simp only[Tryz.ntmps186,List.size_toArray,List.length_cons,List.length_nil,Nat.reduceAdd,Nat.reduceSub,Array.replicate_succ,Array.replicate_zero,List.push_toArray,List.append_toArray,List.nil_append,List.cons_append];have hrg:=run_range_nilMap (P:=Tryz.prog) W 157 30 4 Tryz.underlying157;have hnx:∀ ty,(Instr.next (.pointer (some ⟨W.heap.size,0,none⟩)) false ty).run Tryz.prog (W.alloc (.mapIter none 0 #[] 0))=_:=fun ty=>run_next_nilMap _ ty 0 0 #[];gi_wp2
 refine wpIn_loop_rounds 1 ?_;rw[roundsIn_succ];gi_wp2
 go_end0
 exact⟨⟨_,rfl⟩,.inl ⟨[],rfl,hJ [] W _ none h0 (World.grownBy_alloc W _ none) (fun r e=>by cases e)⟩⟩
theorem keysO_seq (F:Fence)(n:Nat)(hf:F.fn 186)(hro:F.round=none)(hn:1<=n)(Bm:Nat)(mb:Option Nat)(m:List (O2 × Bool))(w:World)(hBm:Bm<w.heap.size)(hm:w.cell? ⟨Bm,0,none⟩=some (.map mb))
  (hM:MpO Tryz.prog 30 oV bV w mb m) :
  SeqStopsK F n Tryz.prog 186 #[.pointer (some ⟨Bm,0,none⟩)] (fun x=>#[oV x]) KeepsWalks (fun ss=>ss.Perm (m.map (·.1))) (fun _=>True) m.length w:=by
 cases mb with
 | none =>
  obtain rfl:m=[]:=hM;have h:=keysO_nil F n hf hro Bm w hBm hm;rwa[show(fun ss:List O2=>ss=[])=(fun ss=>ss.Perm (([]:List (O2 × Bool)).map (·.1)))from funext fun ss=>propext List.perm_nil.symm]at h
 | some b=>exact keysO_stops F n hf hro hn Bm b m w hBm hm hM
theorem keysO_any (mb:Option Nat)(w:World):Calls Tryz.prog 122 #[.map mb] w fun e w'=>e = .returned (.func (.func 186) #[] #[.pointer (some ⟨w.heap.size,0,none⟩)])/\w'=w.alloc (.cells #[.map mb] 157) :=
 callsIn_wide.1 (keysO_in Fence.wide 1 trivial rfl mb w)
theorem appO_any (w:World)(B0:Nat)(hB0:B0<=w.heap.size)(v:Value)(l:List O2)(Bm:Nat)(mb:Option Nat)(m:List (O2 × Bool))(hN:l.length+m.length<=549755813888)(hown:Own w B0 30 2 v (ocs l))(hBm:Bm<w.heap.size)(hm:w.cell? ⟨Bm,0,none⟩=some (.map mb))(hM:MpO Tryz.prog 30 oV bV w mb m) :
  Calls Tryz.prog 228 #[v,.func (.func 186) #[] #[.pointer (some ⟨Bm,0,none⟩)]] w fun e w'=>∃ (v':Value) (ss:List O2),e = .returned v'/\ss.Perm (m.map (·.1))/\Own w' B0 30 2 v' (ocs (l++ss))/\Kept (fun b=>b<w.heap.size/\v.ownBlock≠some b) w w'/\KeepsFrom 0 w w' :=
 callsIn_wide.1 (appO_in Fence.wide 3 trivial rfl (by omega) 186 _ trivial (enters_of Tryz.func186 (by kernel_rfl) rfl) _ _ m.length w B0 hB0 v l hN hown (keysO_seq Fence.wide 2 trivial rfl (by omega) Bm mb m w hBm hm hM))
theorem collectO_any (w:World)(Bm:Nat)(mb:Option Nat)(m:List (O2 × Bool))(hN:m.length<=549755813888)(hBm:Bm<w.heap.size)(hm:w.cell? ⟨Bm,0,none⟩=some (.map mb))(hM:MpO Tryz.prog 30 oV bV w mb m) :
  Calls Tryz.prog 184 #[.func (.func 186) #[] #[.pointer (some ⟨Bm,0,none⟩)]] w fun e w'=>∃ (v':Value) (ss:List O2),e = .returned v'/\ss.Perm (m.map (·.1))/\Own w' w.heap.size 30 2 v' (ocs ss)/\Below w.heap.size w w':=by
 have HP:=h! (appO_any w w.heap.size (Nat.le_refl _) (.slice none 0 0) [] Bm mb m (by simpa using hN) (Own.nil w _ _ _) hBm hm hM);clear hM hm;go_enter Tryz.func184,Tryz.ntmps184
 go_wp2_with fail
 refine HP.out.mono ?_;rintro e w1 ⟨v,ss,rfl,hp,ho,hk,_⟩;go_wp2
 go_ret
 exact⟨v,ss,rfl,hp,ho,hk.below fun b hb=>⟨hb,by simp[Value.ownBlock]⟩⟩
end Go.Proofs.YtlhaghoajpglaaaGreat
namespace Go.Proofs.YtlhaghoajpglaaaGreat
open Go Go.RowKit
theorem sortO_any {w:World} {B:Nat} {v:Value} {l:List O2} (h:Own w B 30 2 v (ocs l))(hl:l.length<4611686018427387904)(hn:l.Nodup) :
  Calls Tryz.prog 185 #[v,.func (.func 123) #[] #[]] w fun e w'=>e = .returned (.tuple #[])/\∃ l':List O2,l'.Perm l/\UpO l'/\Own w' B 30 2 v (ocs l')/\Kept (fun b=>b<w.heap.size/\v.ownBlock≠some b) w w':=by
 refine Calls.mono (sort_own Tryz.sortO oC 2 oC_length (by decide) oC_one Tryz.isAgg30 Tryz.sizeOf30 cmpO swoO 123 #[] (enters_of Tryz.func123 (by kernel_rfl) rfl) (fun W x y=>orderO_any x y W) h hl) ?_;rintro e w' ⟨rfl,l',hp,hs,ho,hk⟩;exact⟨rfl,l',hp,upO_sorted hs (hp.nodup_iff.2 hn),ho,hk⟩
end Go.Proofs.YtlhaghoajpglaaaGreat
namespace Go.Proofs.YtlhaghoajpglaaaGreat
open Go Go.RowKit Go.Maps
theorem sortedO_any (w:World)(Bm:Nat)(mb:Option Nat)(m:List (O2 × Bool))(hN:m.length<=549755813888)(hBm:Bm<w.heap.size)(hm:w.cell? ⟨Bm,0,none⟩=some (.map mb))(hM:MpO Tryz.prog 30 oV bV w mb m) :
  Calls Tryz.prog 121 #[.func (.func 186) #[] #[.pointer (some ⟨Bm,0,none⟩)],.func (.func 123) #[] #[]] w fun e w'=>∃ (v':Value) (ss:List O2),e = .returned v'/\ss.Perm (m.map (·.1))/\UpO ss/\Own w' w.heap.size 30 2 v' (ocs ss)/\Below w.heap.size w w':=by
 have HN:=h! hM.nodup;have HP:=h! (collectO_any w Bm mb m hN hBm hm hM);clear hM hm;go_enter Tryz.func121,Tryz.ntmps121
 go_wp2_with fail
 refine HP.out.mono ?_;rintro e w1 ⟨v,ss,rfl,hp,ho,hb⟩;have HP2:=h! (sortO_any ho (by have:=hp.length_eq;simp at this;omega) (hp.nodup_iff.2 HN.out));go_wp2_with fail
 refine HP2.out.mono ?_;rintro e w2 ⟨rfl,l',hp',hu,ho',hk'⟩;go_wp2
 go_ret
 exact⟨v,l',rfl,hp'.trans hp,hu,ho',hb.trans (hk'.below fun b hb'=>⟨Nat.lt_of_lt_of_le hb' hb.size,fun e=>by have:=(ho.block b e).1;omega⟩)⟩
theorem sortedS_any (b:Nat)(A:List O2)(w:World)(h:OS w b A)(hl:A.length<=549755813888) :
  Calls Tryz.prog 119 #[.map (some b)] w fun e w'=>∃ v ss,e = .returned v/\ss.Perm A/\SrtI ss/\Own w' w.heap.size 30 2 v (ocs ss)/\Below w.heap.size w w':=by
 have HK:=h! (keysU_any (some b) w);have x1:=Ext.alloc w (.cells #[.map (some b)] 210);have HB:=Blk.made w #[.map (some b)] 210;have HS:=h! (sortedU_any (w.alloc (.cells #[.map (some b)] 210)) w.heap.size (some b) (blG A) (by simpa [blG] using hl) HB.lt (HB.cells 0) (h.below x1));have X1:=h! x1;clear x1 HB h hl;go_enter Tryz.func119,Tryz.ntmps119
 go_wp2_with fail
 refine HK.out.mono ?_;rintro e w1 ⟨rfl,rfl⟩;go_wp2_with fail
 refine HS.out.mono ?_;rintro e w2 ⟨v,ss,rfl,hp,hs,ho,hb⟩;rw[blG_keys]at hp;have HO:=h! ho;have HB:=h! hb;clear ho hb HS HK;go_wp2_with fail
 go_ret
 exact⟨v,ss,rfl,hp,hs,HO.out.base X1.out.size,Below.trans X1.out (HB.out.mono X1.out.size)⟩
theorem obj_few {T:List Tup} {l:List O2} (hn:l.Nodup)(h:∀ o∈l,ObjIn T o):l.length<=2*T.length:=by
 have h1:=nodup_leR (u:=T.flatMap fun t => [t.o.obj,t.s.obj]) hn fun o ho=>by
  obtain⟨t,ht,h⟩:=h o ho;refine List.mem_flatMap.2 ⟨t,ht,?_⟩;rcases h with h | h
  ·rw[<- h];simp
  ·rw[<- h];simp
 have h2:∀ T:List Tup,(T.flatMap fun t => [t.o.obj,t.s.obj]).length=2*T.length:=fun T=>by
  induction T with
  | nil=>rfl
  | cons t T ih=>rw[List.flatMap_cons,List.length_append,ih];simp;omega
 rw[h2]at h1;exact h1
theorem bookObjs_any (b:Nat)(T:List Tup)(typ:ByteArray)(w:World)(ht:typ.size<=maxLen)(h:BookAt w b T)(hl:T.length<=1000000) :
  Calls Tryz.prog 65 #[.pointer (some ⟨b,0,none⟩),.string typ] w fun e w'=>∃ v l,e = .returned (.tuple #[v,.int .i64 0])/\Own w' w.heap.size 30 2 v (ocs l)/\UpO l/\(∀ o,o∈l↔o.t=typ/\ObjIn T o)/\Ext w w':=by
 obtain⟨B,m1,m2,m3,l,h⟩:=h;have HIN:=h.objs.inn typ;have HW:=h! (h.what typ)
 have HFW:(innG l typ).length<=549755813888:=by
  have h1:=MpO.nodup HIN;rw[blG_keys]at h1;have:=obj_few (T:=T) h1 fun o ho=>((h.what typ o).1 ho).2;omega
 have hlk:=h.objs.look strK strV_inj Tryz.underlying147 (Tryz.zeroValue157 w) (str_key typ ht);have hbx:=h.box.cells;generalize mOG l typ=mb at *;generalize innG l typ=A at *;have x1:=Ext.alloc w (.cells #[.map mb] 157);have HB:=Blk.made w #[.map mb] 157;have HK:=h! (keysO_any mb w);have HS:=h! (sortedO_any (w.alloc (.cells #[.map mb] 157)) w.heap.size mb (blG A) (by simpa [blG] using HFW) HB.lt (HB.cells 0) (HIN.below x1));have X1:=h! x1;clear x1 HB HIN HFW h;go_enter Tryz.func65,Tryz.ntmps65
 go_wp2_with fail
 refine HK.out.mono ?_;rintro e w1 ⟨rfl,rfl⟩;go_wp2_with fail
 refine HS.out.mono ?_;rintro e w2 ⟨v,ss,rfl,hp,hs,ho,hb⟩;rw[blG_keys]at hp;have HO:=h! ho;have HB:=h! hb;have HP:=h! hp;obtain⟨ao,n,c,rfl,-⟩:=ho.sl.len;clear ho hb HS HK hlk hbx hp;go_wp2_with fail
 go_ret2
 exact⟨_,ss,rfl,HO.out.base X1.out.size,hs,fun o=>by rw[HP.out.mem_iff];exact HW.out o,Below.trans X1.out (HB.out.mono X1.out.size)⟩
theorem bools_at {S:Nat->Prop} {w:World} {v:Value} {l:List Bool} (h:Sl S w 1 v (boC l)):∃ ao c,v = .slice ao l.length c/\l.length<=c/\c<=9223372036854775807/\∀ i (hi:i<l.length),∃ b off,ao=some ⟨b,off,none⟩/\S b/\w.cell? ⟨b,off+i,none⟩=some (.bool l[i]):=by
 obtain⟨ao,n,c,rfl,h1,h2,h3,h4,h5⟩:=h;rw[boC_length,Nat.mul_one]at h1;subst h1;refine⟨ao,c,rfl,h2,by have e:maxLen=9223372036854775807:=rfl;omega,fun i hi=>?_⟩;obtain⟨b,off,rfl,hb,hc⟩:=h5 (fun e=>by have:=congrArg List.length e;rw[boC_length]at this;simp only[List.length_nil]at this;omega);exact⟨b,off,rfl,hb,hc i _ (by simp[boC,hi])⟩
theorem any_take {α:Type} (f:α->Bool) {l:List α} {i:Nat} (h:i<l.length):(l.take (i+1)).any f=((l.take i).any f||f l[i]):=by
 rw[List.take_succ_eq_append_getElem h,List.any_append];simp
def cntH (f:FT->Bool)(l:List FT):Nat:=(l.filter f).length
theorem cntH_take (f:FT->Bool) {l:List FT} {i:Nat} (h:i<l.length):cntH f (l.take (i+1))=cntH f (l.take i)+if f l[i]=true then 1 else 0:=by
 unfold cntH;rw[List.take_succ_eq_append_getElem h,List.filter_append,List.length_append];by_cases e:f l[i]=true <;> simp[e]
theorem cntH_le (f:FT->Bool)(l:List FT):cntH f l<=l.length:=List.length_filter_le _ _
theorem cntH_any (f:FT->Bool)(l:List FT):l.any f=decide (0<cntH f l):=by
 rw[Bool.eq_iff_iff,List.any_eq_true,decide_eq_true_eq];unfold cntH;rw[List.length_pos_iff_exists_mem];simp only[List.mem_filter]
theorem cntH_all (f:FT->Bool)(l:List FT):l.all f=decide (cntH f l=l.length):=by
 rw[Bool.eq_iff_iff,List.all_eq_true,decide_eq_true_eq];unfold cntH;rw[List.length_filter_eq_length_iff]
theorem hold27_any (s:P3)(bs:List Bool)(r:FT):∀ (iv:Value)(v:FV3)(w:World),FTAt (· < w.heap.size) w r v->Sl (· < w.heap.size) w 1 iv (boC bs) ->
  Calls Tryz.prog 142 #[fV r v,pV s,iv] w fun e w'=>e = .returned (.bool (holdF s bs r))/\Ext w w':=by
 induction r using FT.ind with
 | h r ih =>
 intro iv v w h hi;obtain⟨a1,c1,a2,c2,a4,c4,rfl⟩:=h.shape;obtain⟨ai,ci,rfl,hbl,hbm,-⟩:=bools_at hi;obtain⟨k,subs,refs,parts⟩:=r;have HIH:=h! ih;have H1:=h! h;have H2:=h! hi;have HBL:=h! (And.intro hbl hbm);clear ih h hi hbl hbm;unfold fV pV;dsimp only[FT.k,FT.subs,FT.refs,FT.ps]at HIH H1 ⊢;obtain⟨wa,hwa⟩:∃ x,x=w.alloc (.cells #[.int .i64 k,.slice a1 subs.length c1,.slice a2 refs.length c2,.slice a4 parts.length c4] 128):=⟨_,rfl⟩;obtain⟨wb,hwb⟩:∃ x,x=wa.alloc (.cells #[.string s.t,.string s.i,.string s.r] 33):=⟨_,rfl⟩;have ea:wa.heap.size=w.heap.size+1:=by rw[hwa];simp
 have xa:Ext w wa:=by rw[hwa];exact Ext.alloc _ _
 have xb:Ext wa wb:=by rw[hwb];exact Ext.alloc _ _
 have XB:=h! (xa.trans xb);have BA:=h! (show Blk wb w.heap.size #[.int .i64 k,.slice a1 subs.length c1,.slice a2 refs.length c2,.slice a4 parts.length c4] 128 from Blk.below (by rw[hwa];exact Blk.made _ _ _) xb);have BB:=h! (show Blk wb (w.heap.size+1) #[.string s.t,.string s.i,.string s.r] 33 from by rw[hwb,<- ea];exact Blk.made _ _ _);have F1:=h! (fun W (hW:Ext w W)=>(FTAt.iff _ _).1 (H1.out.up hW));have FI:=h! (fun W (hW:Ext w W)=>show Sl (· < W.heap.size) W 1 (.slice ai bs.length ci) (boC bs)from(H2.out.same (Same.below hW)).mono fun _ h=>Nat.lt_of_lt_of_le h hW.size);clear ea xa xb H2;subst hwb hwa;have hA:=BA.out.cells;go_enter Tryz.func142,Tryz.ntmps142
 go_wp2_with fail
 clear hA;obtain⟨w2,hw2⟩:∃ x,x=(w.alloc (.cells #[.int .i64 k,.slice a1 subs.length c1,.slice a2 refs.length c2,.slice a4 parts.length c4] 128)).alloc (.cells #[.string s.t,.string s.i,.string s.r] 33):=⟨_,rfl⟩;rw[<- hw2]at BA BB XB ⊢;clear hw2;go_loopw [7,18] (fun bv iv wr=>∃ i:Nat,i<=refs.length/\iv = .int .i64 i/\bv = .bool ((refs.take i).any (inAt bs))/\Ext w2 wr) (fun _ iv _=>refs.length-(intOf iv).toNat)
 case atStart=>exact⟨0,Nat.zero_le _,rfl,rfl,Ext.refl _⟩
 case round =>
  obtain⟨i,hi,rfl,rfl,hx⟩:=hrel;have RX:=h! hx;clear hx;by_cases hlt:i<refs.length
  ·have HLT:=h! hlt;have HNX:=h! (any_take (inAt bs) hlt);obtain⟨p1,q1,rfl,hp1,hc0⟩:=Sl.int_at (F1.out wr (XB.out.trans RX.out)).2.1 hlt;dsimp only[FT.refs]at hc0;have hli:(i:Int)<(refs.length:Int):=by omega
   have HWI:=h! (show wrap64 ((i:Int)+1)=((i+1:Nat):Int)from by
    obtain⟨_,n,c,he,h1,h2,h3⟩:=(F1.out wr (XB.out.trans RX.out)).2.1.len;cases he;unfold wrap64;omega)
   have HBA:=h! (show ∀ j (hj:j<bs.length),∃ b off,ai=some ⟨b,off,none⟩/\wr.cell? ⟨b,off+j,none⟩=some (.bool bs[j])from fun j hj=>by
    obtain⟨ao,c,he,-,-,hc⟩:=bools_at (FI.out wr (XB.out.trans RX.out));obtain⟨b,off,rfl,-,hc⟩:=hc j hj;cases he;exact⟨b,off,rfl,hc⟩)
   generalize refs[i]=x at *;cases hb:(refs.take i).any (inAt bs) with
   | true =>
    have HB:=h! hb;clear hlt hp1 hb;go_wp2_with fail
    go_roundw
    case rel=>exact⟨i+1,HLT.out,by first | rw[HWI.out] | go_num,by rw[HNX.out,HB.out];rfl,RX.out⟩
    case measure=>have:=HLT.out;(try rw[HWI.out]);simp[intOf];omega
   | false =>
    have HB:=h! hb;clear hlt hp1 hb;by_cases h0:0<=x
    ·obtain⟨m,rfl⟩:=Int.eq_ofNat_of_zero_le h0;by_cases hm:m<bs.length
     ·obtain⟨bb,bo,rfl,hc1⟩:=HBA.out m hm
      have HV:=h! (show inAt bs (m:Int)=bs[m]from by
       unfold inAt;rw[Int.toNat_natCast,List.getD_eq_getElem?_getD,List.getElem?_eq_getElem hm];simp)
      have hmi:(m:Int)<(bs.length:Int):=by omega
      generalize bs[m]=y at *;clear hm HBA;cases y
      all_goals
       go_wp2_with fail
       go_roundw
       case rel=>exact⟨i+1,HLT.out,by first | rw[HWI.out] | go_num,by rw[HNX.out,HB.out,HV.out];rfl,RX.out⟩
       case measure=>have:=HLT.out;(try rw[HWI.out]);simp[intOf];omega
     ·have hmi:¬ (m:Int)<(bs.length:Int):=by omega
      have HV:=h! (show inAt bs (m:Int)=false from by
       unfold inAt;rw[Int.toNat_natCast,List.getD_eq_getElem?_getD,List.getElem?_eq_none (by omega)];simp)
      clear hm HBA;go_wp2_with fail
      go_roundw
      case rel=>exact⟨i+1,HLT.out,by first | rw[HWI.out] | go_num,by rw[HNX.out,HB.out,HV.out];rfl,RX.out⟩
      case measure=>have:=HLT.out;(try rw[HWI.out]);simp[intOf];omega
    ·have HV:=h! (show inAt bs x=false from by unfold inAt;simp[h0]);clear HBA;go_wp2_with fail
     go_roundw
     case rel=>exact⟨i+1,HLT.out,by first | rw[HWI.out] | go_num,by rw[HNX.out,HB.out,HV.out];rfl,RX.out⟩
     case measure=>have:=HLT.out;(try rw[HWI.out]);simp[intOf];omega
  ·obtain rfl:i=refs.length:=by omega
   rw[List.take_length];have HEQ:=h! (holdF_mk s bs k subs refs parts);have RA:=h! (BA.out.below RX.out);have RB:=h! (BB.out.below RX.out);have XR:=h! (XB.out.trans RX.out);generalize refs.any (inAt bs)=bv at *;clear hlt hi BA BB XB RX;have hA:=RA.out.cells;by_cases k1:k=1
   ·subst k1;rw[if_pos rfl]at HEQ;go_wp2_with fail
    clear hA;obtain⟨w4,hw4⟩:∃ y,y=wr:=⟨_,rfl⟩;rw[<- hw4]at RA RB XR ⊢;clear hw4;go_loopw [7,47] (fun cv iv wr=>∃ i:Nat,i<=subs.length/\iv = .int .i64 i/\cv = .bool (bv||(subs.take i).any (fun x=>decide (x=s)))/\Ext w4 wr) (fun _ iv _=>subs.length-(intOf iv).toNat)
    case atStart=>exact⟨0,Nat.zero_le _,rfl,by simp,Ext.refl _⟩
    case round =>
     obtain⟨i,hi,rfl,rfl,hx⟩:=hrel;have RX:=h! hx;clear hx;by_cases hlt:i<subs.length
     ·have HLT:=h! hlt;have HNX:=h! (any_take (fun x=>decide (x=s)) hlt);obtain⟨so',sc',he',hn1,hn2,hcell⟩:=Sl.rows pC_length (by decide) (show Sl _ wr 3 (.slice a1 subs.length c1) (subs.flatMap pC)from(F1.out wr (XR.out.trans RX.out)).1);cases he';obtain⟨b,off,rfl,-,hcell⟩:=hcell (by omega);have hck:=hcell i hlt;clear hcell;have HWI:=h! (show wrap64 ((i:Int)+1)=((i+1:Nat):Int)from by unfold wrap64;omega);have hli:(i:Int)<(subs.length:Int):=by omega
      generalize subs[i]=x at *;clear hlt hn1 hn2;have c0:wr.cell? ⟨b,off+i*3,none⟩=some (.string x.t):=hck 0 _ rfl;have c1:wr.cell? ⟨b,off+i*3+1,none⟩=some (.string x.i):=hck 1 _ rfl;have c2:wr.cell? ⟨b,off+i*3+2,none⟩=some (.string x.r):=hck 2 _ rfl;clear hck;have X1:=h! (Ext.alloc wr (.cells #[.string x.t,.string x.i,.string x.r] 33));have hbs:=(Blk.made wr #[.string x.t,.string x.i,.string x.r] 33).cells;have hB:=(RB.out.below (RX.out.trans X1.out)).cells;have h4:=fun W=>sub_eql x s W;unfold pV at h4;cases hb:(bv||(subs.take i).any fun x=>decide (x=s)) with
      | true =>
       have HB:=h! hb;clear hb;go_wp2_with fail
       go_roundw
       case rel=>exact⟨i+1,HLT.out,by first | rw[HWI.out] | go_num,by rw[HNX.out,<- Bool.or_assoc,HB.out];rfl,RX.out.trans X1.out⟩
       case measure=>have:=HLT.out;(try rw[HWI.out]);simp[intOf];omega
      | false =>
       have HB:=h! hb;clear hb;go_wp2_with fail
       go_roundw
       case rel=>exact⟨i+1,HLT.out,by first | rw[HWI.out] | go_num,by rw[HNX.out,<- Bool.or_assoc,HB.out];simp,RX.out.trans X1.out⟩
       case measure=>have:=HLT.out;(try rw[HWI.out]);simp[intOf];omega
     ·obtain rfl:i=subs.length:=by omega
      rw[List.take_length]
      have HV:=h! (show holdF s bs (.mk 1 subs refs parts)=(bv||subs.any fun x=>decide (x=s))from by
       rw[HEQ.out,Bool.or_comm];congr 1
       rw[Bool.eq_iff_iff,List.any_eq_true,decide_eq_true_eq];simp)
      have XE:=h! (show Ext w wr from XR.out.trans RX.out);go_wp2_with fail
      go_ret
      exact⟨by rw[HV.out];try rfl,XE.out⟩
   ·rw[if_neg k1]at HEQ;have b1:(k == 1)=false:=by rw[beq_eq_false_iff_ne];exact k1
    by_cases k2:k=2
    ·subst k2;rw[if_pos (.inl rfl)]at HEQ;go_wp2_with fail
     go_ret
     exact⟨by rw[HEQ.out];try rfl,XR.out⟩
    ·have b2:(k == 2)=false:=by rw[beq_eq_false_iff_ne];exact k2
     by_cases k3:k=3
     ·subst k3;rw[if_pos (.inr rfl)]at HEQ;go_wp2_with fail
      go_ret
      exact⟨by rw[HEQ.out];try rfl,XR.out⟩
     ·have b3:(k == 3)=false:=by rw[beq_eq_false_iff_ne];exact k3
      rw[if_neg (by simp[k2,k3])]at HEQ;have HK:=h! (And.intro k1 (And.intro k2 k3));clear k1 k2 k3;by_cases k45:k=4\/k=5
      ·have HV:=h! (show holdF s bs (.mk k subs refs parts)=((k == 4)&&decide (0<cntH (holdF s bs) parts)||(k == 5)&&decide (cntH (holdF s bs) parts=parts.length))from by
        rw[HEQ.out,<- cntH_any,<- cntH_all];rcases k45 with rfl | rfl <;> simp)
       clear HEQ
       have hor:(k == 4)=true\/(k == 4)=false/\(k == 5)=true:=by
        rcases k45 with rfl | rfl <;> simp
       have HOR:=h! hor;rcases hor with hk4 | ⟨hk4,hk5⟩
       case' inl=>go_wp2_with fail
       case' inr=>go_wp2_with fail;clear hk5
       all_goals
        clear hA hk4 k45 b1 b2 b3;obtain⟨w4,hw4⟩:∃ y,y=wr:=⟨_,rfl⟩;rw[<- hw4]at RA RB XR ⊢;clear hw4;go_loopw [12,69] (fun cv iv wr=>∃ i:Nat,i<=parts.length/\iv = .int .i64 i/\cv = .int .i64 (cntH (holdF s bs) (parts.take i))/\Ext w4 wr) (fun _ iv _=>parts.length-(intOf iv).toNat)
        case atStart=>exact⟨0,Nat.zero_le _,rfl,rfl,Ext.refl _⟩
        case round =>
         obtain⟨i,hi,rfl,rfl,hx⟩:=hrel;have RX:=h! hx;clear hx;by_cases hlt:i<parts.length
         ·have HLT:=h! hlt;have HNX:=h! (cntH_take (holdF s bs) hlt);obtain⟨ao1,g1,he1,hg1,hg2,hc1⟩:=(H1.out.up (XR.out.trans RX.out)).rows;dsimp only[FT.ps]at he1 hg1 hg2 hc1;cases he1;obtain⟨p1,q1,u,rfl,hp1,e0,e1,e2,e3,hu⟩:=hc1 i hlt;have HII:=h! (HIH.out parts[i] (List.getElem_mem hlt));have HCN:=h! (show cntH (holdF s bs) (parts.take i)<=i from by have:=cntH_le (holdF s bs) (parts.take i);rw[List.length_take]at this;omega);have HWI:=h! (show wrap64 ((i:Int)+1)=((i+1:Nat):Int)/\wrap64 ((cntH (holdF s bs) (parts.take i):Int)+1)=((cntH (holdF s bs) (parts.take i)+1:Nat):Int)from by have:=HCN.out;unfold wrap64;omega);have hli:(i:Int)<(parts.length:Int):=by omega
          generalize parts[i]=x at *;generalize cntH (holdF s bs) (parts.take i)=cn at *;obtain⟨l1,m1,l2,m2,l4,m4,rfl⟩:=hu.shape;have X1:=h! (Ext.alloc wr (.cells #[.int .i64 x.k,.slice l1 x.subs.length m1,.slice l2 x.refs.length m2,.slice l4 x.ps.length m4] 128));have HCL:=h! (HII.out (.slice ai bs.length ci) _ _ (hu.up X1.out) (FI.out _ (XR.out.trans (RX.out.trans X1.out))));unfold fV pV at HCL;dsimp only at e0 e1 e2 e3 HCL;have hbf:=(Blk.made wr #[.int .i64 x.k,.slice l1 x.subs.length m1,.slice l2 x.refs.length m2,.slice l4 x.ps.length m4] 128).cells;have hB:=(RB.out.below (RX.out.trans X1.out)).cells;clear hlt hc1 hu hp1 hg1 hg2;go_wp2_with fail
          refine HCL.out.mono ?_;rintro e w5 ⟨rfl,hx5⟩;have X5:=h! (show Ext w4 w5 from RX.out.trans (X1.out.trans hx5));clear hx5 hbf hB HCL e0 e1 e2 e3;cases hq:holdF s bs x with
          | true =>
           rw[hq,if_pos rfl]at HNX;clear hq;go_wp2_with fail
           go_roundw
           case rel=>exact⟨i+1,HLT.out,by first | rw[HWI.out.1] | go_num,by first | rw[HNX.out,HWI.out.2] | (rw[HNX.out];go_num),X5.out⟩
           case measure=>have:=HLT.out;(try rw[HWI.out.1]);simp[intOf];omega
          | false =>
           rw[hq,if_neg (by decide)]at HNX;clear hq;go_wp2_with fail
           go_roundw
           case rel=>exact⟨i+1,HLT.out,by first | rw[HWI.out.1] | go_num,by rw[HNX.out];rfl,X5.out⟩
           case measure=>have:=HLT.out;(try rw[HWI.out.1]);simp[intOf];omega
         ·obtain rfl:i=parts.length:=by omega
          rw[List.take_length];have XE:=h! (show Ext w wr from XR.out.trans RX.out);have hA:=(RA.out.below RX.out).cells;generalize cntH (holdF s bs) parts=cn at *;have ho:=HOR.out;clear hlt hi;rcases ho with hk4 | ⟨hk4,hk5⟩
          ·rw[hk4]at HV;by_cases hcn:0<cn
           ·rw[decide_eq_true hcn]at HV;have hcz:(0:Int)<(cn:Int):=by omega
            go_wp2_with fail
            go_ret
            exact⟨by rw[HV.out];rfl,XE.out⟩
           ·have hcz:¬ (0:Int)<(cn:Int):=by omega
            have hk5:(k == 5)=false:=by rw[beq_iff_eq]at hk4;subst hk4;rfl
            rw[decide_eq_false hcn,hk5]at HV;go_wp2_with fail
            go_ret
            exact⟨by rw[HV.out];rfl,XE.out⟩
          ·rw[hk4,hk5]at HV;by_cases hcn:cn=parts.length
           ·rw[decide_eq_true hcn]at HV;subst hcn;go_wp2_with fail
            go_ret
            exact⟨by rw[HV.out];simp,XE.out⟩
           ·rw[decide_eq_false hcn]at HV;have hcz:((cn:Int) == (parts.length:Int))=false:=by rw[beq_eq_false_iff_ne];omega
            go_wp2_with fail
            go_ret
            exact⟨by rw[HV.out];rfl,XE.out⟩
      ·have b4:(k == 4)=false:=by rw[beq_eq_false_iff_ne];exact fun e=>k45 (.inl e)
       have b5:(k == 5)=false:=by rw[beq_eq_false_iff_ne];exact fun e=>k45 (.inr e)
       rw[if_neg fun e=>k45 (.inl e),if_neg fun e=>k45 (.inr e)]at HEQ;clear k45;go_wp2_with fail
       go_ret
       exact⟨by rw[HEQ.out];try rfl,XR.out⟩
end Go.Proofs.YtlhaghoajpglaaaGreat
