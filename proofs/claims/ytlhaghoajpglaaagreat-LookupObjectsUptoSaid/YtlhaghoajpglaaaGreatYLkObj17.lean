/- Lemmas for the claim, no condition. -/
import Derived.Test.YtlhaghoajpglaaaGreatYLkObj16
import Derived.RangeFuncNested
set_option maxRecDepth 100000
set_option maxHeartbeats 6000000
namespace Go.Proofs.YtlhaghoajpglaaaGreat
open Go Go.Maps Go.RowKit Go.Proofs.Tryz
theorem iH! (ps:List P3)(fs:List FT)(pv fv:Value)(typ:ByteArray)(w:World)(hg:GrAt (· < w.heap.size) w ps fs pv fv)(hok:∀f∈fs,∀s∈f.ths,s.Ok)(hn:ps.length<=1099511627776) :
  Calls prog 118 #[.agg #[pv,fv],.string typ] w fun e w'=>∃iv,e= .returned iv/\SolS w w' ps fs typ iv:=by
 have HG:=h! hg;have aK:=h! hok;have HN:=h! hn;obtain⟨po,pc,fo,fc,rfl,rfl⟩:=hg.shape;obtain⟨w1,V⟩:=e! (w.alloc (.cells #[.slice po ps.length pc,.slice fo fs.length fc] 96));obtain⟨w2,Y⟩:=e! (w1.alloc (.map #[] 0));obtain⟨w3,E⟩:=e! (w2.alloc (.cells #[.slice po ps.length pc,.slice fo fs.length fc,.string typ,.slice none 0 0,.map (some (w.heap.size+1))] 284));have s1:w1.heap.size=w.heap.size+1:=by rw[V];simp
 have s2:w2.heap.size=w.heap.size+2:=by rw[Y];simp[s1]
 have ap:Ext w w1:=xa! V
 have a7:Ext w1 w2:=xa! Y
 have a3:Ext w2 w3:=xa! E
 have ai:Hid (Ext w w3):=h! (ap.trans (a7.trans a3));have BG:=h! (show Blk w3 w.heap.size #[.slice po ps.length pc,.slice fo fs.length fc] 96 from Blk.below (bm! V) (a7.trans a3));have au:=h! (show OS w3 (w.heap.size+1) []from Mp.below (show OS w2 (w.heap.size+1) []from by rw[Y,<-s1];exact Mp.made w1) a3);have BS:=h! (show Blk w3 (w.heap.size+2) #[.slice po ps.length pc,.slice fo fs.length fc,.string typ,.slice none 0 0,.map (some (w.heap.size+1))] 284 from by rw[E,<-s2];exact Blk.made _ _ _);have G0:Hid (LkG w w3 w.heap.size (w.heap.size+2) (.slice po ps.length pc) (.slice fo fs.length fc) typ (.slice none 0 0) [] (w.heap.size+1)):=h! ⟨ai.out,by omega,⟨by omega,by simp⟩,BG.out,BS.out,Own.nil _ _ _ _,(by simp),(by simp),au.out,(by simp)⟩;have aE:∀i,w1.cell? ⟨w.heap.size,i,none⟩=(#[.slice po ps.length pc,.slice fo fs.length fc]:Array Value)[i]?:=(show Blk w1 w.heap.size _ _ from bm! V).cells;have ah:=BG.out.cells;have aO:=@run_makeMap prog;clear hg hok hn ap a7 a3;subst E Y V;go_enter func118,ntmps118
 go_wp2_with fail
 clear aE ah;obtain⟨w3,E⟩:=e! (((w.alloc (.cells #[.slice po ps.length pc,.slice fo fs.length fc] 96)).alloc (.map #[] 0)).alloc (.cells #[.slice po ps.length pc,.slice fo fs.length fc,.string typ,.slice none 0 0,.map (some (w.heap.size+1))] 284));rw[<-E]at G0 ⊢;clear E BS au BG ai;obtain⟨gb,aA⟩:∃x,Hid (x=w.heap.size):=⟨_,h! rfl⟩;obtain⟨sp,aj⟩:∃x,Hid (x=w.heap.size+2):=⟨_,h! rfl⟩;obtain⟨ma,ag⟩:∃x,Hid (x=w.heap.size+1):=⟨_,h! rfl⟩;have aL:=h! (show w.heap.size<=ma from by rw[ag.out];omega);rw[<-aj.out,<-ag.out]at G0;rw[<-aj.out,<-ag.out];have G0:=h! (show LkG w w3 gb sp (.slice po ps.length pc) (.slice fo fs.length fc) typ (.slice none 0 0) [] ma from by rw[aA.out];exact G0.out);try rw[<-aA.out]
 go_loopw [19] (fun jv wr=>∃(i:Nat) (ms:List Nat) (iv:Value),i<=ps.length/\jv= .int .i64 i/\ms.length=i/\LkG w wr gb sp (.slice po ps.length pc) (.slice fo fs.length fc) typ iv ms ma) (fun jv _=>ps.length-(intOf jv).toNat)
 case atStart=>exact⟨0,[],.slice none 0 0,v1! _,rfl,rfl,G0.out⟩
 case round =>
  obtain⟨i,ms,iv,hi,rfl,aq,hG⟩:=hrel;have F:=h! aq;have G1:=h! hG;clear aq hG G0;by_cases hlt:i<ps.length
  ·have v:=h! hlt;have z:=h! (show wrap64 ((i:Int)+1)=((i+1:Nat):Int)from by have:=HN.out;unfold wrap64;omega);have az:(i:Int)<(ps.length:Int):=by omega
   have X4:=Ext.alloc wr (.map #[] 0);have s4:(wr.alloc (.map #[] 0)).heap.size=wr.heap.size+1:=by simp
   have X5:=Ext.alloc (wr.alloc (.map #[] 0)) (.cells #[.map (some wr.heap.size)] 210);have a6:Hid (OS _ wr.heap.size []):=h! (Mp.below (show OS (wr.alloc (.map #[] 0)) wr.heap.size []from Mp.made wr) X5);have G5:=h! (G1.out.ext (X4.trans X5));have b4:=h! (show wr.heap.size∉ms from fun hm=>by have:=(G1.out.emp _ hm).lt;omega);have aJ:=h! (show ma≠wr.heap.size from fun e=>by have:=G1.out.alls.lt;omega);have aW:=G1.out.box.cells;have aS:=(G1.out.ext X4).box.cells;have aH:=G5.out.box.cells;obtain⟨io,n0,c0,rfl,-⟩:=G1.out.row.sl.len;clear X4 X5 hlt;go_wp2_with (at_builtin;go_must (refine aE! setsT rfl (.tmp 25) (.tmp 27) rfl rfl G5.out.row rfl (m:=1) (news:=[.map (some wr.heap.size)]) rfl (by intro j u hu;rw[Addr.add_lit,cell_of_row _ (wr.heap.size+1) (0+j) #[.map (some wr.heap.size)] 210 (0,0) (by have h0:=heap_alloc_new (wr.alloc (.map #[] 0)) (.cells #[.map (some wr.heap.size)] 210);rw[s4]at h0;exact h0)];simpa using hu) (by simp[Value.oneCell']) (by have:=HN.out;have:=v.out;have:=F.out;rw[bI!];simp at *;omega) (by have:=HN.out;have:=v.out;have:=F.out;rw[bI!];simp at *;omega) (by have:=G5.out.bel.size;omega) ?_;intro v6 w6 hown6 hbx6 hg6;obtain⟨b5,n6,b9,rfl,-⟩:=hown6.sl.len;have b1:=h! (G5.out.add a6.out b4.out aJ.out G1.out.bel.size hg6 hown6);have ad:=G5.out.row.blkG G5.out.box (by decide) hg6;have c6:=ad.cells;have f6:=ad.free;clear hown6 hg6 ad hbx6))
   clear aW aS aH c6 f6;go_roundw
   case rel=>exact⟨i+1,ms++[wr.heap.size],_,v.out,by first | rw[z.out] | go_num,by rw[u4!,F.out];rfl,b1.out⟩
   case measure=>have:=v.out;(try rw[z.out]);simp[intOf];omega
  ·obtain rfl:i=ps.length:=by omega
   have W0:=h! G1.out.work;have a8:=G1.out.gr.cells;rw[F.out]at W0;have aP:Hid (∀m∈ms,True):=h! (fun _ _=>trivial);clear hlt hi aO s1 s2 aP;go_wp2_with fail
   clear a8 G1;obtain⟨w4,J⟩:=e! wr;rw[<-J]at W0 ⊢;clear J;go_loopw [35] (fun jv wr=>∃(i:Nat) (all:List O2),i<=fs.length/\jv= .int .i64 i/\LkW w wr gb sp (.slice po ps.length pc) (.slice fo fs.length fc) typ iv ms ma (List.replicate ps.length []) all/\(∀o,o∈all↔SbI typ (thsL (fs.take i)) o)) (fun jv _=>fs.length-(intOf jv).toNat)
   case atStart=>exact⟨0,[],v1! _,rfl,W0.out,fun o=>by simp[SbI,thsL]⟩
   case round =>
    obtain⟨i,all,hi,rfl,hW,hm⟩:=hrel;have W1:=h! hW;have HM:=h! hm;clear hW hm W0;by_cases hlt:i<fs.length
    ·have b0:=h! (show thsL (fs.take (i+1))=thsL (fs.take i)++fs[i].ths from by rw[n2! hlt,cL!];simp[thsL]);have ax:=h! (aK.out fs[i] (n5! hlt));obtain⟨p1,q1,l1,m1,l2,m2,l4,m4,rfl,B,M,e0,e1,e2,e3⟩:=pf! HG.out hlt;have v:=h! hlt
     have z:=h! (show wrap64 ((i:Int)+1)=((i+1:Nat):Int)from by
      have:=grLen HG.out;unfold wrap64;omega)
     have az:(i:Int)<(fs.length:Int):=by omega
     have d0:=(W1.out.bel.cell (p:=⟨p1,q1+i*4,none⟩) B).trans e0;have d1:=(W1.out.bel.cell (p:=⟨p1,q1+i*4+1,none⟩) B).trans e1;have d2:=(W1.out.bel.cell (p:=⟨p1,q1+i*4+2,none⟩) B).trans e2;have d3:=(W1.out.bel.cell (p:=⟨p1,q1+i*4+3,none⟩) B).trans e3;have a9:=h! M;clear M e0 e1 e2 e3 B;generalize fs[i]=x at *;clear hlt;have X1:=h! (Ext.alloc wr (.cells #[.int .i64 x.k,.slice l1 x.subs.length m1,.slice l2 x.refs.length m2,.slice l4 x.ps.length m4] 128));have W2:=h! (W1.out.ext X1.out);have y:=h! (jv! aL.out x _ all _ W2.out.s (a9.out.same fun b hb=>W2.out.bel.block b hb) W2.out.bel.size ax.out);unfold fV at y;dsimp only at y;have aa:=(Blk.made wr #[.int .i64 x.k,.slice l1 x.subs.length m1,.slice l2 x.refs.length m2,.slice l4 x.ps.length m4] 128).cells;go_wp2_with fail
     refine y.out.mono ?_;rintro e w5 ⟨rfl,⟨Q,av,ao⟩,aB⟩;have W5:=h! (W2.out.inAll aB av)
     have a6:=h! (show ∀o,o∈Q↔SbI typ (thsL (fs.take (i+1))) o from fun o=>by
      rw[ao o,HM.out o,b0.out];unfold SbI;rw[u3!,or_and_right])
     clear av ao aB y d0 d1 d2 d3 aa ax;go_wp2_with fail
     go_roundw
     case rel=>exact⟨i+1,Q,v.out,by first | rw[z.out] | go_num,W5.out,a6.out⟩
     case measure=>have:=v.out;(try rw[z.out]);simp[intOf];omega
    ·obtain rfl:i=fs.length:=by omega
     rw[u2!]at HM;clear hlt hi;go_wp2_with fail
     obtain⟨w4,J⟩:=e! wr;rw[<-J]at W1 ⊢;clear J;have aI:Hid (∀o∈all,o.t=typ):=h! (fun o ho=>((HM.out o).1 ho).2);have aR:=h! (pa! HM.out);go_loopw [8] (fun gv wr=>∃L,LkQ w wr gb sp (.slice po ps.length pc) (.slice fo fs.length fc) typ iv ms ma fs ps.length all L/\∃g:Bool,gv= .bool g/\(g=false->∀o∈all,∀j,j<ps.length->newS fs (oS o) (vecO L o) j=false)) (fun gv wr=>jD! (LkQ w wr gb sp (.slice po ps.length pc) (.slice fo fs.length fc) typ iv ms ma fs ps.length all) (potL ps.length all)*2+flgV gv)
     case atStart=>exact⟨_,⟨W1.out,LkAt.start fs ps.length all,W1.out.s.mem.nd⟩,true,rfl,fun h=>by cases h⟩
     case round =>
      obtain⟨L0,X,g,rfl,ae⟩:=hrel;cases g with
      | false =>
       have Q0:=h! X;have y:=h! (ae rfl);clear X ae W1;have hb:=Q0.out.1.s.box.cells;go_wp2_with fail
       go_ret
       refine⟨iv,rfl,ms,L0,Q0.out.1.s.row.mono fun b hb=>⟨hb.1,hb.2.2⟩,Q0.out.1.s.mem,Q0.out.2.1.len,fun l hl o ho=>(HM.out o).1 (Q0.out.2.1.sub l hl o ho),fun o ho j hj=>?_,Q0.out.1.bel⟩;rw[hg! (by rw[Q0.out.2.1.len];exact hj)];exact Q0.out.2.1.done y.out ((HM.out o).2 ho) hj
      | true =>
       obtain⟨L,hq,U⟩:=jC! (potL ps.length all) ⟨_,X⟩;have Q0:=h! hq;have aM:=h! U;clear hq U X ae W1 L0;have aG:=Q0.out.1.gr.cells;go_wp2_with fail
       rw[nT!];clear aG;obtain⟨mn,a5⟩:∃x,Hid (x=min fs.length ps.length):=⟨_,h! rfl⟩;rw[<-a5.out];obtain⟨w5,am⟩:=e! wr;rw[<-am]at Q0 ⊢;clear am;go_loopw [8,51] (fun gv jv wr=>∃(i:Nat) (g:Bool) (L':List (List O2)),gv= .bool g/\jv= .int .i64 i/\i<=mn/\LkW w wr gb sp (.slice po ps.length pc) (.slice fo fs.length fc) typ iv ms ma L' all/\Pass fs ps.length all L L' g i) (fun _ jv _=>mn-(intOf jv).toNat)
       case atStart=>exact⟨0,false,L,rfl,rfl,v1! _,Q0.out.1,Pass.start Q0.out.2.1 Q0.out.2.2⟩
       case round =>
        obtain⟨i,g,L',rfl,rfl,hi,hW,hP⟩:=hrel;have W1:=h! hW;have P1:=h! hP;clear hW hP;by_cases hlt:i<mn
        ·have v:=h! hlt;have H:=h! (show i<ps.length from by have:=a5.out;omega);have G:=h! (show i<fs.length from by have:=a5.out;omega);have z:=h! (show wrap64 ((i:Int)+1)=((i+1:Nat):Int)from by have:=HN.out;have:=H.out;unfold wrap64;omega);have az:(i:Int)<(mn:Int):=by omega
         have b3:(i:Int)<(fs.length:Int):=by have:=G.out;omega
         have q:i<ms.length:=by rw[F.out];exact H.out
         have a0:i<L'.length:=by rw[P1.out.at_.len];exact H.out
         have an:Hid (L'.getD i []=L'[i]'a0):=h! (hg! a0);have N:=h! (W1.out.s.mem.sets i q a0)
         obtain⟨-,ac⟩:True/\∃io c0 b a4,iv= .slice io ps.length c0/\io=some ⟨b,a4,none⟩/\(b<wr.heap.size/\b≠ma/\b∉ms)/\wr.cell? ⟨b,a4+i,none⟩=some (.map (some (ms[i]'q))):=⟨trivial,by
          obtain⟨io,n0,c0,he,-⟩:=W1.out.s.row.len;have h1:=W1.out.s.row;rw[he]at h1;obtain⟨rfl,h2⟩:=ms_at h1;obtain⟨b,a4,h3,h4,h5⟩:=h2 i q;exact⟨io,c0,b,a4,by rw[he,F.out],h3,h4,h5⟩⟩
         obtain⟨io,c0,b2,C,rfl,rfl,aY,ak⟩:=ac;have b6:(i:Int)<(ps.length:Int):=by have:=H.out;omega
         obtain⟨p1,q1,l1,m1,l2,m2,l4,m4,rfl,B,M,e0,e1,e2,e3⟩:=pf! HG.out G.out;have aF:Hid (fs[i]?=some (fs[i]'G.out)):=h! (n4! G.out);have aT:=h! (aR.out _ (n5! G.out));have a1:=h! aY;have ar:=h! ak;have ab:=h! (show(ms[i]'q)∈ms/\w.heap.size<=(ms[i]'q)/\(ms[i]'q)<wr.heap.size from⟨n5! q,W1.out.mlo.2 _ (n5! q),N.out.lt⟩);have aQ:=h! (fun W A (hk:Tk (ms[i]'q) wr W) (ha:OS W (ms[i]'q) A)=>LkW.setAt W1.out q hk ha);generalize hmi:(ms[i]'q)=mi at *;generalize (fs[i]'G.out)=x at *;generalize (L'[i]'a0)=A0 at *;have a9:=h! M;have aU:=oM! N.out;have aN:=W1.out.s.box.cells;clear M hmi hlt;go_wp2_with fail
         clear aN aU ak;obtain⟨wd,a2⟩:∃wd,Hid (wd=wr.drew):=⟨_,h! rfl⟩;have I:=h! (show Ext wr wd from xd! a2.out);have WD:=h! (W1.out.ext I.out);have OD:=h! (N.out.below I.out);have aw:Hid (gb≠mi/\sp≠mi):=h! ⟨fun e=>N.out.notCells _ _ _ (e▸W1.out.gr),fun e=>N.out.notCells _ _ _ (e▸W1.out.s.box)⟩;refine r! (fun W=>Tk mi wd W) (by rw[<-a2.out];exact Tk.refl _ _) ?_;rw[<-a2.out];clear a2;have hg:=fun W (h:Tk mi wd W)=>(h.box WD.out.gr aw.out.1).cells;have hs:=fun W (h:Tk mi wd W)=>(h.box WD.out.s.box aw.out.2).cells;have D:∀W,Tk mi wd W->∀b,b<wr.heap.size->b≠mi->W.heap[b]?=wr.heap[b]?:=fun W h b h1 h2=>(h.block b ⟨n1! h1 I.out.size,h2⟩).trans (I.out.block b h1);have aX:=fun W (h:Tk mi wd W)=>(World.cell?_of_block (a:=⟨b2,C+i,none⟩) (D W h b2 a1.out.1 fun e=>a1.out.2.2 (e▸ab.out.1))).trans ar.out;have O:∀W,Tk mi wd W->∀j,W.cell? ⟨p1,j,none⟩=w.cell? ⟨p1,j,none⟩:=fun W h j=>(World.cell?_of_block (a:=⟨p1,j,none⟩) (D W h p1 (n1! B W1.out.bel.size) fun e=>by have:=ab.out.2.1;omega)).trans (W1.out.bel.cell (p:=⟨p1,j,none⟩) B);have q0:=fun W (h:Tk mi wd W)=>(O W h _).trans e0;have q1':=fun W (h:Tk mi wd W)=>(O W h _).trans e1;have q2:=fun W (h:Tk mi wd W)=>(O W h _).trans e2;have q3:=fun W (h:Tk mi wd W)=>(O W h _).trans e3;have y:=h! (lP! P1.out.at_.sub aI.out x _ wd WD.out.s ((a9.out.same fun b hb=>WD.out.bel.block b hb).mono fun b hb=>n1! hb WD.out.bel.size) aT.out);unfold fV at y;dsimp only at y;clear O D e0 e1 e2 e3 B;(refine WalkN.tk [0,1,2,3,4,5,6,7,8,9,10,11,12] ?_;(iterate 13 (refine c! ?_));refine TkN.n ?_)
         clear hg hs aX q0 q1' q2 q3;refine ob! 13 ?_;intro K hK;go_simp;refine y.out.mono ?_;rintro e w6 ⟨bf,Af,rfl,aa,al,aD,T⟩;refine hK.out _ _ (Tk.of T) ?_;clear hK y;have O6:=h! (OD.out.below T);have ay:=h! (eX! mi bf A0 Af w6 O6.out al (fun e=>by have:=OD.out.lt;omega));have aV:=h! aD;have X6:Hid (Ext wr w6):=h! (Ext.trans I.out T);have T6:Hid (Tk mi wd w6):=h! (Tk.of T);clear aa al aD T;refine ob! 14 ?_;intro K hK;go_simp;refine ay.out.mono ?_;rintro e w7 ⟨rfl,⟨A7,Z,aC⟩,af⟩;refine hK.out _ _ (T6.out.next af) ?_;clear hK ay;refine d! ?_;have K7:Hid (Tk mi wr w7):=h! ((Tk.of X6.out).next af);have W7:=h! (aQ.out w7 A7 K7.out Z);have aZ:Hid (∀o,o∈A7↔o∈L'.getD i []\/InF all L' x o):=h! (fun o=>by rw[aC o,aV.out o,an.out]);have P7:=h! (P1.out.step H.out aF.out (OS.nodup Z) aZ.out);rw[an.out]at P7;have b7:=oM! Z;have b8:=W7.out.s.box.cells;have ba:w7.cell? ⟨b2,C+i,none⟩=some (.map (some mi)):=(World.cell?_of_block (a:=⟨b2,C+i,none⟩) (K7.out.block b2 ⟨a1.out.1,fun e=>a1.out.2.2 (e▸ab.out.1)⟩)).trans ar.out;clear Z aC af;cases g with
         | true =>
          go_wp2_with fail
          go_roundw
          case rel=>exact⟨i+1,true,_,rfl,by first | rw[z.out] | go_num,v.out,W7.out,P7.out⟩
          case measure=>have:=v.out;(try rw[z.out]);simp[intOf];omega
         | false =>
          go_wp2_with fail
          go_roundw
          case rel=>exact⟨i+1,decide (A0.length<A7.length),_,by simp,by first | rw[z.out] | go_num,v.out,W7.out,by simpa using P7.out⟩
          case measure=>have:=v.out;(try rw[z.out]);simp[intOf];omega
        ·obtain rfl:i=mn:=by omega
         go_wp2_with fail
         go_roundw
         case rel =>
          refine⟨L',⟨W1.out,P1.out.at_,P1.out.nd⟩,g,rfl,fun e=>?_⟩;subst e;exact P1.out.closed (by rw[<-a5.out];exact n0! _)
         case measure =>
          have h1:=lw! (R:=LkQ w wr gb sp (.slice po ps.length pc) (.slice fo fs.length fc) typ iv ms ma fs ps.length all) (potL ps.length all) (show LkQ w wr gb sp (.slice po ps.length pc) (.slice fo fs.length fc) typ iv ms ma fs ps.length all L' from⟨W1.out,P1.out.at_,P1.out.nd⟩);have h2:=aM.out;cases g with
          | true=>have h3:=P1.out.less;simp only[flgV];omega
          | false=>have h3:=P1.out.le;simp only[flgV];omega
instance:Inhabited O2:=⟨⟨⟨#[]⟩,⟨#[]⟩⟩⟩
theorem lm! {a b:O2}(h:oS a=oS b):a=b:=by
 cases a;cases b;simp only[oS,P3.mk.injEq]at h;simp[h.1,h.2.1]
def cmpO (a b:O2):Int:=orL [cmpS a.t b.t,cmpS a.i b.i]
def cmpI (a b:O2):Int:=cmpS a.i b.i
def ltO (a b:O2):Bool:=ltP (oS a) (oS b)
theorem ls! (a b:O2):ltO a b=if a.t=b.t then ltS a.i b.i else ltS a.t b.t:=by
 unfold ltO ltP oS;dsimp only;split
 ·split
  ·next h=>rw[bU!,h,bU!]
  ·rfl
 ·rfl
theorem gY! (a b:O2):Go.Proofs.ltOf cmpO a b=ltO a b:=by
 rw[ls!];unfold Go.Proofs.ltOf cmpO;rw[Bool.eq_iff_iff,u1!];simp only[orL,dq!];by_cases h1:a.t=b.t
 ·simp only[h1,if_true];by_cases h2:a.i=b.i
  ·simp[h2,bU!]
  ·simp only[h2,if_false];exact da! _ _
 ·simp only[h1,if_false];exact da! _ _
theorem gZ! (a b:O2):Go.Proofs.ltOf cmpI a b=ltS a.i b.i:=by
 unfold Go.Proofs.ltOf cmpI;rw[Bool.eq_iff_iff,u1!];exact da! _ _
theorem swoO:Go.Sort.SWO (Go.Proofs.ltOf cmpO) where
 irrefl x:=by rw[gY!];exact cD! _
 trans x y z h k:=by rw[gY!]at *;exact bz! h k
 ntrans x y z h k:=by
  rw[gY!]at *;have:=swoP.ntrans (oS x) (oS y) (oS z);rw[df!,df!,df!]at this;exact this h k
theorem swoI:Go.Sort.SWO (Go.Proofs.ltOf cmpI) where
 irrefl x:=by rw[gZ!];exact bU! _
 trans x y z h k:=by rw[gZ!]at *;exact cB! h k
 ntrans x y z h k:=by
  rw[gZ!]at *;cases hxz:ltS x.i z.i with
  | false=>rfl
  | true =>
   by_cases e1:x.i=y.i
   ·rw[e1]at hxz;rw[hxz]at k;cases k
   ·have h1:=by! h e1;have h2:=cB! h1 hxz;rw[h2]at k;cases k
def UpO (l:List O2):Prop:=l.Pairwise fun a b=>ltO a b=true
theorem mi! {l:List O2}:UpO l↔UpP (l.map oS):=by
 unfold UpO UpP;rw[List.pairwise_map];rfl
theorem dv! {a b:List O2}(ha:UpO a)(hb:UpO b)(h:∀x,x∈a↔x∈b):a=b:=by
 have h1:=fd! (mi!.1 ha) (mi!.1 hb) fun x=>by
  rw[u6!,u6!];constructor
  ·rintro⟨y,hy,e⟩;exact⟨y,(h y).1 hy,e⟩
  ·rintro⟨y,hy,e⟩;exact⟨y,(h y).2 hy,e⟩
 exact List.map_inj_right (fun x y e=>lm! e) |>.1 h1
theorem it! {l:List O2}(hs:l.Pairwise fun a b=>Go.Proofs.ltOf cmpO b a=false)(hn:l.Nodup):UpO l:=by
 refine x3!.2 fun i j hi hj hij=>?_;have h1:=x3!.1 hs i j hi hj hij;have h2:=x3!.1 hn i j hi hj hij;rw[gY!]at h1;exact cC! h1 fun e=>h2 (lm! e).symm
theorem iu! {l:List O2}{typ:ByteArray}(ht:∀o∈l,o.t=typ)(hs:l.Pairwise fun a b=>Go.Proofs.ltOf cmpI b a=false)(hn:l.Nodup):UpO l:=by
 refine x3!.2 fun i j hi hj hij=>?_;have h1:=x3!.1 hs i j hi hj hij;have h2:=x3!.1 hn i j hi hj hij;have e1:=ht _ (n5! hi);have e2:=ht _ (n5! hj);rw[gZ!]at h1;rw[ls!,if_pos (e1.trans e2.symm)];refine by! h1 fun e=>h2 ?_;have:∀a b:O2,a.t=b.t->a.i=b.i->a=b:=fun a b h k=>by cases a;cases b;simp_all
 exact this _ _ (e1.trans e2.symm) e.symm
theorem ns! (p:O2):∀u∈oC p,u.oneCell'=true:=by
 intro u hu;simp only[oC,v7!,List.not_mem_nil,or_false]at hu;rcases hu with rfl | rfl <;> rfl
def ocs (l:List O2):List Value:=l.flatMap oC
theorem av! (l:List O2):∀u∈ocs l,u.oneCell'=true:=by
 intro u hu;obtain⟨a,_,h⟩:=List.mem_flatMap.1 hu;exact ns! a u h
theorem aa! (l:List O2):(ocs l).length=2*l.length:=by
 rw[ocs,ao! aC!];omega
theorem aP! (a b:List O2):ocs (a++b)=ocs a++ocs b:=x9!
theorem jk! (a:O2):ocs [a]=oC a:=by simp[ocs]
theorem gc! (l:List O2)(k:Nat):(ocs l).take (k*2)=ocs (l.take k):=by
 induction k generalizing l with
 | zero=>simp[ocs]
 | succ k ih =>
  cases l with
  | nil=>simp[ocs]
  | cons a l =>
   rw[List.take_succ_cons,show ocs (a::l)=oC a++ocs l from rfl,show ocs (a::l.take k)=oC a++ocs (l.take k)from rfl,<-ih l];rw[show(k+1)*2=2+k*2 from by omega,List.take_append,List.take_of_length_le (by rw[aC!];omega),aC!,Nat.add_sub_cancel_left]
theorem gd! (l:List O2)(k:Nat):(ocs l).drop (k*2)=ocs (l.drop k):=by
 induction k generalizing l with
 | zero=>simp[ocs]
 | succ k ih =>
  cases l with
  | nil=>simp[ocs]
  | cons a l =>
   rw[List.drop_succ_cons,show ocs (a::l)=oC a++ocs l from rfl,<-ih l];rw[show(k+1)*2=2+k*2 from by omega,List.drop_append,List.drop_eq_nil_of_le (by rw[aC!];omega),aC!,Nat.add_sub_cancel_left,y2!]
theorem aM!:pN! prog 113 30 2 32:=pN!.mk' Tryz.underlying113 (show _=some (some (.agg #[.string ByteArray.empty,.string ByteArray.empty]),2,32)by kernel_rfl) rfl (by decide)
theorem dU! (w:World)(a b:Value)(t:TypeId):∀j u,[a,b][j]?=some u->(w.alloc (.cells #[a,b] t)).cell? ((⟨w.heap.size,0,none⟩:Addr).add j)=some u:=fun j u hu=>by
 rw[Addr.add_lit,cell_of_row _ w.heap.size (0+j) #[a,b] t (0,0) (heap_alloc_new w _),Nat.zero_add];simpa using hu
theorem oV! (a b:O2)(W:World):(binOp BinOp.eql 30 (oV a) (oV b)).run prog W= .ok (.bool (decide (a=b))) W:=by
 obtain⟨a1,a2⟩:=a;obtain⟨b1,b2⟩:=b;unfold oV;dsimp only;go_simp;simp only[bc!];by_cases h1:a1=b1 <;> by_cases h2:a2=b2 <;> simp[h1,h2]
def SrtI (l:List O2):Prop:=l.Pairwise fun a b=>Go.Proofs.ltOf cmpI b a=false
theorem jh! (a b:O2)(w:World):Calls prog 123 #[oV a,oV b] w (fun e w'=>e= .returned (.int .i64 (cmpO a b))/\Gr w w'):=by
 obtain⟨f,s⟩:=a;obtain⟨q,r⟩:=b;unfold oV;dsimp only;have hA:=(Blk.made w #[.string f,.string s] 30).alloc (.cells #[.string q,.string r] 30);have hB:=Blk.made' (w:=w.alloc (.cells #[.string f,.string s] 30)) (B:=w.heap.size+1) (by simp) #[.string q,.string r] 30;have i:Gr w ((w.alloc (.cells #[.string f,.string s] 30)).alloc (.cells #[.string q,.string r] 30)):=((Gr.refl _).alloc _).alloc _;go_enter func123,ntmps123
 go_wp2_with fail
 obtain⟨u,g⟩:=e! (((w.alloc (.cells #[.string f,.string s] 30)).alloc (.cells #[.string q,.string r] 30)).drew);have o:=hA.drew;have l:=hB.drew;have p:=i.drew;rw[<-g]at o l p;refine re! g ?_;clear g hA hB i;have h1:=fun W (h:Ext u W)=>(o.below h).cells;have h2:=fun W (h:Ext u W)=>(l.below h).cells;(refine WalkN.tk [0,1,2,3,5,6,7,8] ?_;(iterate 8 (refine c! ?_));refine TkN.n ?_)
 clear h1 h2;have k:=h! (gw! f q u);refine ob! 4 ?_;intro K hK;go_simp;refine k.out.mono ?_;rintro e w1 ⟨rfl,rfl⟩;refine hK.out _ _ (Ext.refl _) ?_;clear hK k;have j:=h! (gw! s r u);refine ob! 9 ?_;intro K hK;go_simp;refine j.out.mono ?_;rintro e w1 ⟨rfl,rfl⟩;refine hK.out _ _ (Ext.refl _) ?_;clear hK j;refine ob! 10 ?_;intro K hK;go_simp;have hE:Ext u (u.alloc (.cells #[.int .i64 (cmpS f q),.int .i64 (cmpS s r)] 3)):=Ext.alloc _ _;have hl:Sl (fun b=>b=u.heap.size) (u.alloc (.cells #[.int .i64 (cmpS f q),.int .i64 (cmpS s r)] 3)) 1 (.slice (some ⟨u.heap.size,0,none⟩) 2 2) (icL [cmpS f q,cmpS s r]):=Sl.made u _ 1 2 _ _ rfl (by decide) rfl;refine hK.out _ _ hE ?_;clear hK;have m:=h! (oN! _ _ _ _ hl);have a0:=p.alloc (.cells #[.int .i64 (cmpS f q),.int .i64 (cmpS s r)] 3);refine ob! 11 ?_;intro K hK;go_simp;refine m.out.mono ?_;rintro e w1 ⟨rfl,rfl⟩;refine hK.out _ _ hE ?_;clear hK m;refine t! 12 ?_
 refine d! ?_;go_wp2
 go_ret
 exact⟨rfl,a0⟩
theorem jg! (a b:O2)(w:World):Calls prog 182 #[oV a,oV b] w (fun e w'=>e= .returned (.int .i64 (cmpI a b))/\Gr w w'):=by
 obtain⟨c,d⟩:=a;obtain⟨f,g⟩:=b;unfold oV;dsimp only;have hA:=(Blk.made w #[.string c,.string d] 30).alloc (.cells #[.string f,.string g] 30);have hB:=Blk.made' (w:=w.alloc (.cells #[.string c,.string d] 30)) (B:=w.heap.size+1) (by simp) #[.string f,.string g] 30;have a0:Gr w ((w.alloc (.cells #[.string c,.string d] 30)).alloc (.cells #[.string f,.string g] 30)):=((Gr.refl _).alloc _).alloc _;go_enter func182,ntmps182
 have a3:=hA.cells;have a2:=hB.cells;have a1:=h! (gw! d g ((w.alloc (.cells #[.string c,.string d] 30)).alloc (.cells #[.string f,.string g] 30)));go_wp2_with fail
 refine a1.out.mono ?_;rintro e w1 ⟨rfl,rfl⟩;go_wp2_with fail
 go_ret
 exact⟨rfl,a0⟩
theorem hV! (F:Fence)(n:Nat)(h60:F.fn 227)(hro:F.round=none)(hn:1<=n)(Bm b:Nat)(m:List (O2 × Bool))(w:World)(hBm:Bm<w.heap.size)
  (hm:w.cell? ⟨Bm,0,none⟩=some (.map (some b))) (hM:Mp prog 30 oV (fun x => .bool x) w b m) :
  SeqStopsK F n prog 227 #[.pointer (some ⟨Bm,0,none⟩)] (fun x=>#[oV x]) KeepsWalks (fun ss=>ss.Perm (m.map (·.1))) (fun _=>True) m.length w:=fun l J Jx W hW hJ hJx hY h0=>by
 have hMW:=hM.below hW;have hmW:=(hW.cell (p:=⟨Bm,0,none⟩) hBm).trans hm;clear hM hm hW;refine callsIn_of_wp func227 rfl h60 ?_ hro;simp only[ntmps227,List.size_toArray,u7!,v6!,Nat.reduceAdd,Nat.reduceSub,Array.replicate_succ,Array.replicate_zero,List.push_toArray,List.append_toArray,y2!,x2!]
 gi_wp2_with (first
  | (gi_at_range;refine bE! _ rfl _ 210 rfl Tryz.underlying210 rfl hMW ?_;intro w0 hrg0 hb0 hs0)
  | gi_in)
 try go_frame
 gi_loopw [3] (fun _ wr=>∃(rem:List (O2 × Bool)) (ss:List O2),Rng prog 30 oV (fun x => .bool x) wr b W.heap.size m rem/\(ss++rem.map (·.1)).Perm (m.map (·.1))/\J ss wr)
  (fun _ wr=>wr.rangeLeft b W.heap.size)
 case atStart=>exact⟨m,[],hrg0,List.Perm.refl _,hJ [] W w0 none h0 (do! hb0) (fun r e=>by cases e)⟩
 case round =>
  obtain⟨rem,ss,hrg,hp,hJs⟩:=hrel;have hlen:ss.length+rem.length=m.length:=by have:=hp.length_eq;simpa using this
  have o:∀k (p:O2 × Bool) d,rem=k++p::d->ss.length<m.length:=fun k p d e=>by
   have:=congrArg List.length e;simp at this;omega
  gi_wp2_with (first
   | (gi_at_next;refine bG! _ rfl _ rfl rfl hrg ?_ ?_;rotate_left;(rintro k ⟨⟨v,y⟩,c⟩ d A a i u a2 a0;have f:=h! a;have t:J ss A:=hJ ss wr A (some W.heap.size) hJs u.grown (fun r e=>by cases e;exact⟨n0! _,hrg.walk⟩);have s:J ss (A.alloc (.cells #[.string v,.string y] 30)):=hJ ss A _ none t (do! ((Below.refl _ _).alloc (n0! _) _)) (fun r e=>by cases e);obtain⟨fn,a3,q,a1,hy,hR⟩:=hY ss ⟨v,y⟩ _ s (o _ _ _ a);have HR:=h! hR;have a4:=h! i;clear hR i s t a a2 o u;dsimp only[oV]at hy a0);rotate_left;(intro a;have g:=h! a;clear a o))
   | gi_in)
  ·go_end0
   refine⟨⟨_,rfl⟩,.inl ⟨ss,?_,hJs⟩⟩;have z:=hp;rw[g.out]at z;simpa using z
  ·refine HR.out.mono ?_;rintro e W3 (⟨rfl,hJ4,hk3⟩|⟨rfl,hJ4⟩);rotate_left
   ·gi_wp2
    exact bodyPost_ret (results_none rfl _ _ _) rfl ⟨⟨_,rfl⟩,.inr ⟨_,trivial,hJ4⟩⟩
   have j:=(a4.out.below ((Below.refl _ _).alloc (n0! _) (.cells #[.string v,.string y] 30))).walks hk3;gi_wp2
   go_roundw
   case rel =>
    refine⟨k++d,ss++[⟨v,y⟩],j,?_,hJ4⟩;have z:=hp;rw[f.out]at z;refine List.Perm.trans ?_ z;simp only[v9!,v8!,y6!,List.singleton_append];exact List.Perm.append_left ss List.perm_middle.symm
   case measure=>rw[j.left_eq,hrg.left_eq,f.out];simp
theorem nF! (F:Fence)(n:Nat)(h46:F.fn 181)(hro:F.round=none)(mb:Option Nat)(w:World) :
  CallsIn F n prog 181 #[.map mb] w fun e w'=>e= .returned (.func (.func 227) #[] #[.pointer (some ⟨w.heap.size,0,none⟩)])/\w'=w.alloc (.cells #[.map mb] 210):=by
 have a0:∀(fn:Fn) (first cap:Array Value) (w:World),(Instr.makeFunc fn first cap).run prog w= .ok (.func fn first cap) w:=fun _ _ _ _=>rfl;refine callsIn_of_wp func181 rfl h46 ?_ hro;simp only[ntmps181,List.size_toArray,u7!,v6!,Nat.reduceAdd,Nat.reduceSub,Array.replicate_succ,Array.replicate_zero,List.push_toArray,List.append_toArray,y2!,x2!];gi_wp2
 go_ret
 exact⟨rfl,rfl⟩
theorem ly! (F:Fence)(n:Nat)(hf:F.fn 227)(hro:F.round=none)(Bm:Nat)(w:World)(hBm:Bm<w.heap.size)(hm:w.cell? ⟨Bm,0,none⟩=some (.map none)) :
  SeqStopsK F n prog 227 #[.pointer (some ⟨Bm,0,none⟩)] (fun x:O2=>#[oV x]) KeepsWalks (fun ss:List O2=>ss=[]) (fun _=>True) 0 w:=fun l J Jx W hW hJ _ _ h0=>by
 have hmW:=(hW.cell (p:=⟨Bm,0,none⟩) hBm).trans hm;clear hm hW;refine callsIn_of_wp func227 rfl hf ?_ hro;simp only[ntmps227,List.size_toArray,u7!,v6!,Nat.reduceAdd,Nat.reduceSub,Array.replicate_succ,Array.replicate_zero,List.push_toArray,List.append_toArray,y2!,x2!];have hrg:=run_range_nilMap (P:=prog) W 210 30 4 Tryz.underlying210;have hnx:∀ty,(Instr.next (.pointer (some ⟨W.heap.size,0,none⟩)) false ty).run prog (W.alloc (.mapIter none 0 #[] 0))=_:=fun ty=>run_next_nilMap _ ty 0 0 #[];gi_wp2
 refine wpIn_loop_rounds 1 ?_;rw[roundsIn_succ];gi_wp2
 go_end0
 exact⟨⟨_,rfl⟩,.inl ⟨[],rfl,hJ [] W _ none h0 (World.grownBy_alloc W _ none) (fun r e=>by cases e)⟩⟩
attribute [local go_sem] Oper.semAt_some
theorem mM! (F:Fence)(n:Nat)(h45:F.fn 228)(hro:F.round=none)(hn:2<=n)(g:Nat)(lb:Array Value)(hFg:F.fn g)(eg:∀args w,(callFunc g args).run prog w= .ok (.enter g args) w)
  (S Sp:List O2->Prop) (N:Nat) (w:World) (B0:Nat) (hB0:B0<=w.heap.size) (v:Value) (l:List O2) (hN:l.length+N<=549755813888) (hown:Own w B0 30 2 v (ocs l)) (hseq:SeqStopsK F (n-1) prog g lb (fun x=>#[oV x]) KeepsWalks S Sp N w) :
  CallsIn F n prog 228 #[v,.func (.func g) #[] lb] w fun e w'=>∃(v':Value) (ss:List O2),e= .returned v'/\S ss/\Own w' B0 30 2 v' (ocs (l++ss))/\Kept (fun b=>b<w.heap.size/\v.ownBlock≠some b) w w'/\KeepsFrom 0 w w':=by
 have h1:1<=n:=by omega
 obtain⟨H,k,c,rfl⟩:∃H k c,v= .slice H k c:=by
  rcases hown.shape with⟨rfl,_⟩|⟨g,n,c,rfl⟩
  ·exact⟨_,_,_,rfl⟩
  ·exact⟨_,_,_,rfl⟩
 refine callsIn_of_wp_marks func228 rfl h45 ?_ hro;simp only[ntmps228,List.size_toArray,u7!,v6!,Nat.reduceAdd,Nat.reduceSub,Array.replicate_succ,Array.replicate_zero,List.push_toArray,List.append_toArray,y2!,x2!];gi_wp2
 have bS:=Boxed.new w 113 (.slice H k c);have z:Below w.heap.size w (w.alloc (.cells #[.slice H k c] 113)):=(Below.refl _ w).alloc (n0! _) _;have a4:(w.alloc (.cells #[.slice H k c] 113)).heap.size=w.heap.size+1:=by simp
 have q:=hown.below z;have C:KeepsFrom 0 w (w.alloc (.cells #[.slice H k c] 113)):=(KeepsOthers.alloc _ _).from _;obtain⟨W0,E⟩:∃W0,w.alloc (.cells #[.slice H k c] 113)=W0:=⟨_,rfl⟩;rw[E]at bS z a4 q C ⊢;clear E
 refine wpIn_rangeFunc_ownH hro h1 (gf:=g) (lb:=lb) rfl hFg eg hseq walksK_t walksK_b z (fun _=>rfl)
  (fun f W=>(∃v',Boxed W w.heap.size 113 v'/\Own W B0 30 2 v' (ocs (l++f))/\(∀g,v'.ownBlock=some g->(Value.slice H k c).ownBlock=some g\/w.heap.size<=g))/\(Kept (fun b=>b<w.heap.size/\(Value.slice H k c).ownBlock≠some b) w W/\KeepsFrom 0 w W))
  (fun _ _ _=>False)
  (OwnFrom.and (eo! B0 w.heap.size 113 30 2 (fun f=>ocs (l++f)) (fun v'=>∀g,v'.ownBlock=some g->(Value.slice H k c).ownBlock=some g\/w.heap.size<=g) _) (OwnFrom.and (dL! (fun b hb=>hb.1) (by omega)) (ownFrom_keepsFrom (by omega))))
  (fun _ _ _ _ _ hs _ _=>hs)
  ⟨⟨_,bS,by simpa using q,fun g hg => .inl hg⟩,Below.kept z (fun b hb=>hb.1),C⟩
  (fun x a' W=>∃O,w.heap.size<O/\Blk W O #[.string x.t,.string x.i] 30/\a' = {tmps:=#[.slice H k c,.func (.func g) #[] lb,.pointer (some ⟨w.heap.size,0,none⟩),undef,.slice none 0 0,.pointer (some ⟨O,0,none⟩),.func (.func g) #[] lb,oV x,undef,undef,undef,undef,undef],defers:=[]})
  (fun x a' _ X Y row hs hg hr=>by obtain⟨O,h1,h2,h3⟩:=hs;exact⟨O,h1,et! h2 hg (fun r e=>(hr r e).2),h3⟩)
  ?assign ?body ?done ?stop
 case assign =>
  rintro l2 f ⟨J,R⟩ W K ⟨⟨v',p,j,A⟩,d,s⟩ I;dsimp only[oV];gi_wp2
  refine I _ _ ((KeepsOthers.alloc _ _).from _) (KeepsWalks.alloc _ _) ⟨⟨v',p.alloc _,j.below ((Below.refl _ _).alloc (n0! _) _),A⟩,d.alloc (fun b hb=>n1! hb.1 d.size) _,s.trans ((KeepsOthers.alloc _ _).from _)⟩ ⟨W.heap.size,p.lt,Blk.made W _ _,rfl⟩
 case body =>
  rintro l2 f ⟨J,R⟩ a' W hl ⟨r,hr⟩ ⟨⟨v',p,j,A⟩,d,s⟩ ⟨O,a7,bX,rfl⟩ a8;have cS:=p.cell;have cX:=bX.cells;have a5:=d.size;have G:=aa! (l++f);rw[u4!]at G;have a1:(2*(l.length+f.length)+2)*32<=140737488355328:=by omega
  gi_wp2_with (first
   | (gi_at_builtin;go_loud (
      refine dt! aM! rfl _ _ rfl rfl (j.below ((Below.refl _ _).alloc (n0! _) _)) (ad:=⟨W.heap.size,0,none⟩) (m:=1) (c:=1) (news:=[.string J,.string R]) rfl rfl (dU! _ _ _ _) (by intro u hu;simp only[v7!,List.not_mem_nil,or_false]at hu;rcases hu with rfl | rfl | rfl <;> rfl) (by simp only[u7!,v6!];omega) (by simp only[u7!,v6!];rw[G];exact a1) (by simp;omega) ?_;intro v2 w2 hO2 hG2 hg2
      obtain⟨Q,L,M,rfl⟩:∃Q L M,v2= .slice (some ⟨Q,0,none⟩) L M:=by
        rcases hO2.shape with⟨_,h⟩ | h
        · exact absurd h (by simp)
        · exact h
      have y:=(p.alloc (.cells #[.string J,.string R] 30)).kept hg2 (bB! (p.alloc _) (by decide) (j.below ((Below.refl _ _).alloc (n0! _) (.cells #[.string J,.string R] 30))));have aa:=y.cell;have a9:=y.frozen))
   | gi_in)
  have a0:KeepsFrom 0 W (W.alloc (.cells #[.string J,.string R] 30)):=(KeepsOthers.alloc _ _).from _;have a2:=a0.trans (hc! (j.below ((Below.refl _ _).alloc (n0! _) (.cells #[.string J,.string R] 30))) hg2 0);have B:KeepsFrom 0 W (w2.setCell ⟨w.heap.size,0,none⟩ (.slice (some ⟨Q,0,none⟩) L M)):=a2.trans ((KeepsOthers.setCell _ _ _).from _);refine⟨jG! B _,hY! B,⟨⟨_,y.set _,?_,fun g hg=>?_⟩,?_,s.trans B⟩⟩
  ·have:=hO2.keepOwn (w':=w2.setCell ⟨w.heap.size,0,none⟩ (.slice (some ⟨Q,0,none⟩) L M)) (fun g hg=>Below.heap_setCell _ _ _ g (fun e=>bB! y (by decide) hO2 (by rw[hg,e])));rw[<-y6!,aP! (l++f),jk!];exact this
  ·rcases hG2 g hg with h | h
   ·exact A g h
   ·exact .inr (by have:=d.size;simp at h;omega)
  ·have a3:Kept (fun b=>b<w.heap.size/\(Value.slice H k c).ownBlock≠some b) (W.alloc (.cells #[.string J,.string R] 30)) w2:=⟨hg2.os,hg2.tape,hg2.output,hg2.size,fun b hb=>hg2.block b (by have:=d.size;have:=hb.1;simp;omega) (fun e=>by
    rcases A b e.symm with h | h
    ·exact hb.2 h
    ·have:=hb.1;omega)⟩
   exact((d.alloc (fun b hb=>n1! hb.1 d.size) _).trans a3).set (a:=⟨w.heap.size,0,none⟩) (fun h=>Nat.lt_irrefl _ h.1) _
 case done =>
  rintro D ys W hD hS ⟨⟨v',p,j,_⟩,d,s⟩ I;have cS:=p.cell
  obtain⟨a6,k',c',rfl⟩:∃H k c,v' = .slice H k c:=by
   rcases j.shape with⟨rfl,_⟩|⟨g,n,c,rfl⟩
   ·exact⟨_,_,_,rfl⟩
   ·exact⟨_,_,_,rfl⟩
  gi_wp2
  refine⟨by simp,.inl ⟨_,_,rfl,run_takeDeferred I,?_⟩⟩;refine⟨_,results_tmp rfl _ _ _,_,ys,rfl,hS,j.put _ I rfl,⟨d.os,d.tape,d.output,by have:=d.size;simpa using this,fun b hb=>(World.putObj_heap_other (fun e=>by have:=hb.1;omega)).trans (d.block b hb)⟩,?_⟩;exact⟨by have:=s.size;simpa using this,fun k o _ hk ho=>(World.putObj_heap_other (fun e=>by have:=(x7!.1 hk).1;omega)).trans (s.same k o (v1! _) hk ho)⟩
 case stop =>
  rintro D c f W _ _ h _;exact h.elim
theorem lx! (F:Fence)(n:Nat)(hf:F.fn 227)(hro:F.round=none)(hn:1<=n)(Bm:Nat)(mb:Option Nat)(m:List (O2 × Bool))(w:World)(hBm:Bm<w.heap.size)(hm:w.cell? ⟨Bm,0,none⟩=some (.map mb))
  (hM:MpO prog 30 oV bV w mb m) :
  SeqStopsK F n prog 227 #[.pointer (some ⟨Bm,0,none⟩)] (fun x=>#[oV x]) KeepsWalks (fun ss=>ss.Perm (m.map (·.1))) (fun _=>True) m.length w:=by
 cases mb with
 | none =>
  obtain rfl:m=[]:=hM;have h:=ly! F n hf hro Bm w hBm hm;rwa[show(fun ss:List O2=>ss=[])=(fun ss=>ss.Perm (([]:List (O2 × Bool)).map (·.1)))from funext fun ss=>propext List.perm_nil.symm]at h
 | some b=>exact hV! F n hf hro hn Bm b m w hBm hm hM
theorem lz! (mb:Option Nat)(w:World):Calls prog 181 #[.map mb] w fun e w'=>e= .returned (.func (.func 227) #[] #[.pointer (some ⟨w.heap.size,0,none⟩)])/\w'=w.alloc (.cells #[.map mb] 210) :=
 callsIn_wide.1 (nF! Fence.wide 1 trivial rfl mb w)
theorem og! (w:World)(B0:Nat)(hB0:B0<=w.heap.size)(v:Value)(l:List O2)(Bm:Nat)(mb:Option Nat)(m:List (O2 × Bool))(hN:l.length+m.length<=549755813888)(hown:Own w B0 30 2 v (ocs l))(hBm:Bm<w.heap.size)(hm:w.cell? ⟨Bm,0,none⟩=some (.map mb))(hM:MpO prog 30 oV bV w mb m) :
  Calls prog 228 #[v,.func (.func 227) #[] #[.pointer (some ⟨Bm,0,none⟩)]] w fun e w'=>∃(v':Value) (ss:List O2),e= .returned v'/\ss.Perm (m.map (·.1))/\Own w' B0 30 2 v' (ocs (l++ss))/\Kept (fun b=>b<w.heap.size/\v.ownBlock≠some b) w w'/\KeepsFrom 0 w w' :=
 callsIn_wide.1 (mM! Fence.wide 3 trivial rfl (by omega) 227 _ trivial (enters_of func227 (by kernel_rfl) rfl) _ _ m.length w B0 hB0 v l hN hown (lx! Fence.wide 2 trivial rfl (by omega) Bm mb m w hBm hm hM))
theorem gt! (w:World)(Bm:Nat)(mb:Option Nat)(m:List (O2 × Bool))(hN:m.length<=549755813888)(hBm:Bm<w.heap.size)(hm:w.cell? ⟨Bm,0,none⟩=some (.map mb))(hM:MpO prog 30 oV bV w mb m) :
  Calls prog 184 #[.func (.func 227) #[] #[.pointer (some ⟨Bm,0,none⟩)]] w fun e w'=>∃(v':Value) (ss:List O2),e= .returned v'/\ss.Perm (m.map (·.1))/\Own w' w.heap.size 30 2 v' (ocs ss)/\Below w.heap.size w w':=by
 have HP:=h! (og! w w.heap.size (n0! _) (.slice none 0 0) [] Bm mb m (by simpa using hN) (Own.nil w _ _ _) hBm hm hM);clear hM hm;go_enter func184,ntmps184
 go_wp2_with fail
 refine HP.out.mono ?_;rintro e w1 ⟨v,ss,rfl,hp,ho,hk,_⟩;go_wp2
 go_ret
 exact⟨v,ss,rfl,hp,ho,hk.below fun b hb=>⟨hb,by simp[Value.ownBlock]⟩⟩
theorem kV! {w:World}{B:Nat}{v:Value}{l:List O2}(h:Own w B 30 2 v (ocs l))(hl:l.length<4611686018427387904)(_hn:l.Nodup) :
  Calls prog 185 #[v,.func (.func 182) #[] #[]] w fun e w'=>e= .returned (.tuple #[])/\∃l':List O2,l'.Perm l/\SrtI l'/\Own w' B 30 2 v (ocs l')/\Kept (fun b=>b<w.heap.size/\v.ownBlock≠some b) w w':=by
 refine Calls.mono (fS! Tryz.sortO oC 2 aC! (by decide) ns! Tryz.isAgg30 Tryz.sizeOf30 cmpI swoI 182 #[] (enters_of func182 (by kernel_rfl) rfl) (fun W x y=>jg! x y W) h hl) ?_;rintro e w' ⟨rfl,l',hp,hs,ho,hk⟩;exact⟨rfl,l',hp,hs,ho,hk⟩
theorem hG! (w:World)(Bm:Nat)(mb:Option Nat)(m:List (O2 × Bool))(hN:m.length<=549755813888)(hBm:Bm<w.heap.size)(hm:w.cell? ⟨Bm,0,none⟩=some (.map mb))(hM:MpO prog 30 oV bV w mb m) :
  Calls prog 121 #[.func (.func 227) #[] #[.pointer (some ⟨Bm,0,none⟩)],.func (.func 182) #[] #[]] w fun e w'=>∃(v':Value) (ss:List O2),e= .returned v'/\ss.Perm (m.map (·.1))/\SrtI ss/\Own w' w.heap.size 30 2 v' (ocs ss)/\Below w.heap.size w w':=by
 have HN:=h! hM.nodup;have HP:=h! (gt! w Bm mb m hN hBm hm hM);clear hM hm;go_enter func121,ntmps121
 go_wp2_with fail
 refine HP.out.mono ?_;rintro e w1 ⟨v,ss,rfl,hp,ho,hb⟩;have a0:=h! (kV! ho (by have:=hp.length_eq;simp at this;omega) (hp.nodup_iff.2 HN.out));go_wp2_with fail
 refine a0.out.mono ?_;rintro e w2 ⟨rfl,l',a1,hu,a2,a3⟩;go_wp2
 go_ret
 exact⟨v,l',rfl,a1.trans hp,hu,a2,hb.trans (a3.below fun b hb'=>⟨n1! hb' hb.size,fun e=>by have:=(ho.block b e).1;omega⟩)⟩
theorem hW! (F:Fence)(n:Nat)(h60:F.fn 186)(hro:F.round=none)(hn:1<=n)(Bm b:Nat)(m:List (O2 × Bool))(w:World)(hBm:Bm<w.heap.size)
  (hm:w.cell? ⟨Bm,0,none⟩=some (.map (some b))) (hM:Mp prog 30 oV (fun x => .bool x) w b m) :
  SeqStopsK F n prog 186 #[.pointer (some ⟨Bm,0,none⟩)] (fun x=>#[oV x]) KeepsWalks (fun ss=>ss.Perm (m.map (·.1))) (fun _=>True) m.length w:=fun l J Jx W hW hJ hJx hY h0=>by
 have hMW:=hM.below hW;have hmW:=(hW.cell (p:=⟨Bm,0,none⟩) hBm).trans hm;clear hM hm hW;refine callsIn_of_wp func186 rfl h60 ?_ hro;simp only[ntmps186,List.size_toArray,u7!,v6!,Nat.reduceAdd,Nat.reduceSub,Array.replicate_succ,Array.replicate_zero,List.push_toArray,List.append_toArray,y2!,x2!]
 gi_wp2_with (first
  | (gi_at_range;refine bE! _ rfl _ 157 rfl Tryz.underlying157 rfl hMW ?_;intro w0 hrg0 hb0 hs0)
  | gi_in)
 try go_frame
 gi_loopw [3] (fun _ wr=>∃(rem:List (O2 × Bool)) (ss:List O2),Rng prog 30 oV (fun x => .bool x) wr b W.heap.size m rem/\(ss++rem.map (·.1)).Perm (m.map (·.1))/\J ss wr)
  (fun _ wr=>wr.rangeLeft b W.heap.size)
 case atStart=>exact⟨m,[],hrg0,List.Perm.refl _,hJ [] W w0 none h0 (do! hb0) (fun r e=>by cases e)⟩
 case round =>
  obtain⟨rem,ss,hrg,hp,hJs⟩:=hrel;have hlen:ss.length+rem.length=m.length:=by have:=hp.length_eq;simpa using this
  have o:∀k (p:O2 × Bool) d,rem=k++p::d->ss.length<m.length:=fun k p d e=>by
   have:=congrArg List.length e;simp at this;omega
  gi_wp2_with (first
   | (gi_at_next;refine bG! _ rfl _ rfl rfl hrg ?_ ?_;rotate_left;(rintro k ⟨⟨v,y⟩,c⟩ d A a i u a2 a0;have f:=h! a;have t:J ss A:=hJ ss wr A (some W.heap.size) hJs u.grown (fun r e=>by cases e;exact⟨n0! _,hrg.walk⟩);have s:J ss (A.alloc (.cells #[.string v,.string y] 30)):=hJ ss A _ none t (do! ((Below.refl _ _).alloc (n0! _) _)) (fun r e=>by cases e);obtain⟨fn,a3,q,a1,hy,hR⟩:=hY ss ⟨v,y⟩ _ s (o _ _ _ a);have HR:=h! hR;have a4:=h! i;clear hR i s t a a2 o u;dsimp only[oV]at hy a0);rotate_left;(intro a;have g:=h! a;clear a o))
   | gi_in)
  ·go_end0
   refine⟨⟨_,rfl⟩,.inl ⟨ss,?_,hJs⟩⟩;have z:=hp;rw[g.out]at z;simpa using z
  ·refine HR.out.mono ?_;rintro e W3 (⟨rfl,hJ4,hk3⟩|⟨rfl,hJ4⟩);rotate_left
   ·gi_wp2
    exact bodyPost_ret (results_none rfl _ _ _) rfl ⟨⟨_,rfl⟩,.inr ⟨_,trivial,hJ4⟩⟩
   have j:=(a4.out.below ((Below.refl _ _).alloc (n0! _) (.cells #[.string v,.string y] 30))).walks hk3;gi_wp2
   go_roundw
   case rel =>
    refine⟨k++d,ss++[⟨v,y⟩],j,?_,hJ4⟩;have z:=hp;rw[f.out]at z;refine List.Perm.trans ?_ z;simp only[v9!,v8!,y6!,List.singleton_append];exact List.Perm.append_left ss List.perm_middle.symm
   case measure=>rw[j.left_eq,hrg.left_eq,f.out];simp
theorem nG! (F:Fence)(n:Nat)(h46:F.fn 122)(hro:F.round=none)(mb:Option Nat)(w:World) :
  CallsIn F n prog 122 #[.map mb] w fun e w'=>e= .returned (.func (.func 186) #[] #[.pointer (some ⟨w.heap.size,0,none⟩)])/\w'=w.alloc (.cells #[.map mb] 157):=by
 have a0:∀(fn:Fn) (first cap:Array Value) (w:World),(Instr.makeFunc fn first cap).run prog w= .ok (.func fn first cap) w:=fun _ _ _ _=>rfl;refine callsIn_of_wp func122 rfl h46 ?_ hro;simp only[ntmps122,List.size_toArray,u7!,v6!,Nat.reduceAdd,Nat.reduceSub,Array.replicate_succ,Array.replicate_zero,List.push_toArray,List.append_toArray,y2!,x2!];gi_wp2
 go_ret
 exact⟨rfl,rfl⟩
theorem lB! (F:Fence)(n:Nat)(hf:F.fn 186)(hro:F.round=none)(Bm:Nat)(w:World)(hBm:Bm<w.heap.size)(hm:w.cell? ⟨Bm,0,none⟩=some (.map none)) :
  SeqStopsK F n prog 186 #[.pointer (some ⟨Bm,0,none⟩)] (fun x:O2=>#[oV x]) KeepsWalks (fun ss:List O2=>ss=[]) (fun _=>True) 0 w:=fun l J Jx W hW hJ _ _ h0=>by
 have hmW:=(hW.cell (p:=⟨Bm,0,none⟩) hBm).trans hm;clear hm hW;refine callsIn_of_wp func186 rfl hf ?_ hro;simp only[ntmps186,List.size_toArray,u7!,v6!,Nat.reduceAdd,Nat.reduceSub,Array.replicate_succ,Array.replicate_zero,List.push_toArray,List.append_toArray,y2!,x2!];have hrg:=run_range_nilMap (P:=prog) W 157 30 4 Tryz.underlying157;have hnx:∀ty,(Instr.next (.pointer (some ⟨W.heap.size,0,none⟩)) false ty).run prog (W.alloc (.mapIter none 0 #[] 0))=_:=fun ty=>run_next_nilMap _ ty 0 0 #[];gi_wp2
 refine wpIn_loop_rounds 1 ?_;rw[roundsIn_succ];gi_wp2
 go_end0
 exact⟨⟨_,rfl⟩,.inl ⟨[],rfl,hJ [] W _ none h0 (World.grownBy_alloc W _ none) (fun r e=>by cases e)⟩⟩
theorem lA! (F:Fence)(n:Nat)(hf:F.fn 186)(hro:F.round=none)(hn:1<=n)(Bm:Nat)(mb:Option Nat)(m:List (O2 × Bool))(w:World)(hBm:Bm<w.heap.size)(hm:w.cell? ⟨Bm,0,none⟩=some (.map mb))
  (hM:MpO prog 30 oV bV w mb m) :
  SeqStopsK F n prog 186 #[.pointer (some ⟨Bm,0,none⟩)] (fun x=>#[oV x]) KeepsWalks (fun ss=>ss.Perm (m.map (·.1))) (fun _=>True) m.length w:=by
 cases mb with
 | none =>
  obtain rfl:m=[]:=hM;have h:=lB! F n hf hro Bm w hBm hm;rwa[show(fun ss:List O2=>ss=[])=(fun ss=>ss.Perm (([]:List (O2 × Bool)).map (·.1)))from funext fun ss=>propext List.perm_nil.symm]at h
 | some b=>exact hW! F n hf hro hn Bm b m w hBm hm hM
theorem lC! (mb:Option Nat)(w:World):Calls prog 122 #[.map mb] w fun e w'=>e= .returned (.func (.func 186) #[] #[.pointer (some ⟨w.heap.size,0,none⟩)])/\w'=w.alloc (.cells #[.map mb] 157) :=
 callsIn_wide.1 (nG! Fence.wide 1 trivial rfl mb w)
theorem oh! (w:World)(B0:Nat)(hB0:B0<=w.heap.size)(v:Value)(l:List O2)(Bm:Nat)(mb:Option Nat)(m:List (O2 × Bool))(hN:l.length+m.length<=549755813888)(hown:Own w B0 30 2 v (ocs l))(hBm:Bm<w.heap.size)(hm:w.cell? ⟨Bm,0,none⟩=some (.map mb))(hM:MpO prog 30 oV bV w mb m) :
  Calls prog 228 #[v,.func (.func 186) #[] #[.pointer (some ⟨Bm,0,none⟩)]] w fun e w'=>∃(v':Value) (ss:List O2),e= .returned v'/\ss.Perm (m.map (·.1))/\Own w' B0 30 2 v' (ocs (l++ss))/\Kept (fun b=>b<w.heap.size/\v.ownBlock≠some b) w w'/\KeepsFrom 0 w w' :=
 callsIn_wide.1 (mM! Fence.wide 3 trivial rfl (by omega) 186 _ trivial (enters_of func186 (by kernel_rfl) rfl) _ _ m.length w B0 hB0 v l hN hown (lA! Fence.wide 2 trivial rfl (by omega) Bm mb m w hBm hm hM))
theorem gv! (w:World)(Bm:Nat)(mb:Option Nat)(m:List (O2 × Bool))(hN:m.length<=549755813888)(hBm:Bm<w.heap.size)(hm:w.cell? ⟨Bm,0,none⟩=some (.map mb))(hM:MpO prog 30 oV bV w mb m) :
  Calls prog 184 #[.func (.func 186) #[] #[.pointer (some ⟨Bm,0,none⟩)]] w fun e w'=>∃(v':Value) (ss:List O2),e= .returned v'/\ss.Perm (m.map (·.1))/\Own w' w.heap.size 30 2 v' (ocs ss)/\Below w.heap.size w w':=by
 have HP:=h! (oh! w w.heap.size (n0! _) (.slice none 0 0) [] Bm mb m (by simpa using hN) (Own.nil w _ _ _) hBm hm hM);clear hM hm;go_enter func184,ntmps184
 go_wp2_with fail
 refine HP.out.mono ?_;rintro e w1 ⟨v,ss,rfl,hp,ho,hk,_⟩;go_wp2
 go_ret
 exact⟨v,ss,rfl,hp,ho,hk.below fun b hb=>⟨hb,by simp[Value.ownBlock]⟩⟩
theorem kX! {w:World}{B:Nat}{v:Value}{l:List O2}(h:Own w B 30 2 v (ocs l))(hl:l.length<4611686018427387904)(hn:l.Nodup) :
  Calls prog 185 #[v,.func (.func 123) #[] #[]] w fun e w'=>e= .returned (.tuple #[])/\∃l':List O2,l'.Perm l/\UpO l'/\Own w' B 30 2 v (ocs l')/\Kept (fun b=>b<w.heap.size/\v.ownBlock≠some b) w w':=by
 refine Calls.mono (fS! Tryz.sortO oC 2 aC! (by decide) ns! Tryz.isAgg30 Tryz.sizeOf30 cmpO swoO 123 #[] (enters_of func123 (by kernel_rfl) rfl) (fun W x y=>jh! x y W) h hl) ?_;rintro e w' ⟨rfl,l',hp,hs,ho,hk⟩;exact⟨rfl,l',hp,it! hs (hp.nodup_iff.2 hn),ho,hk⟩
theorem hJ! (w:World)(Bm:Nat)(mb:Option Nat)(m:List (O2 × Bool))(hN:m.length<=549755813888)(hBm:Bm<w.heap.size)(hm:w.cell? ⟨Bm,0,none⟩=some (.map mb))(hM:MpO prog 30 oV bV w mb m) :
  Calls prog 121 #[.func (.func 186) #[] #[.pointer (some ⟨Bm,0,none⟩)],.func (.func 123) #[] #[]] w fun e w'=>∃(v':Value) (ss:List O2),e= .returned v'/\ss.Perm (m.map (·.1))/\UpO ss/\Own w' w.heap.size 30 2 v' (ocs ss)/\Below w.heap.size w w':=by
 have HN:=h! hM.nodup;have HP:=h! (gv! w Bm mb m hN hBm hm hM);clear hM hm;go_enter func121,ntmps121
 go_wp2_with fail
 refine HP.out.mono ?_;rintro e w1 ⟨v,ss,rfl,hp,ho,hb⟩;have a0:=h! (kX! ho (by have:=hp.length_eq;simp at this;omega) (hp.nodup_iff.2 HN.out));go_wp2_with fail
 refine a0.out.mono ?_;rintro e w2 ⟨rfl,l',a1,hu,a2,a3⟩;go_wp2
 go_ret
 exact⟨v,l',rfl,a1.trans hp,hu,a2,hb.trans (a3.below fun b hb'=>⟨n1! hb' hb.size,fun e=>by have:=(ho.block b e).1;omega⟩)⟩
theorem hI! (b:Nat)(A:List O2)(w:World)(h:OS w b A)(hl:A.length<=549755813888) :
  Calls prog 119 #[.map (some b)] w fun e w'=>∃v ss,e= .returned v/\ss.Perm A/\SrtI ss/\Own w' w.heap.size 30 2 v (ocs ss)/\Below w.heap.size w w':=by
 have HK:=h! (lz! (some b) w);have x1:=Ext.alloc w (.cells #[.map (some b)] 210);have a:=Blk.made w #[.map (some b)] 210;have HS:=h! (hG! (w.alloc (.cells #[.map (some b)] 210)) w.heap.size (some b) (blG A) (by simpa [blG] using hl) a.lt (a.cells 0) (h.below x1));have X1:=h! x1;clear x1 a h hl;go_enter func119,ntmps119
 go_wp2_with fail
 refine HK.out.mono ?_;rintro e w1 ⟨rfl,rfl⟩;go_wp2_with fail
 refine HS.out.mono ?_;rintro e w2 ⟨v,ss,rfl,hp,hs,ho,hb⟩;rw[dc!]at hp;have HO:=h! ho;have a:=h! hb;clear ho hb HS HK;go_wp2_with fail
 go_ret
 exact⟨v,ss,rfl,hp,hs,HO.out.base X1.out.size,Below.trans X1.out (a.out.mono X1.out.size)⟩
theorem gR! {T:List Tup}{l:List O2}(hn:l.Nodup)(h:∀o∈l,ObjIn T o):l.length<=2*T.length:=by
 have h1:=bk! (u:=T.flatMap fun t => [t.o.obj,t.s.obj]) hn fun o ho=>by
  obtain⟨t,ht,h⟩:=h o ho;refine List.mem_flatMap.2 ⟨t,ht,?_⟩;rcases h with h | h
  ·rw[<-h];simp
  ·rw[<-h];simp
 have h2:∀T:List Tup,(T.flatMap fun t => [t.o.obj,t.s.obj]).length=2*T.length:=fun T=>by
  induction T with
  | nil=>rfl
  | cons t T ih=>rw[y5!,u4!,ih];simp;omega
 rw[h2]at h1;exact h1
theorem gz! (b:Nat)(T:List Tup)(typ:ByteArray)(w:World)(ht:typ.size<=maxLen)(h:pL! w b T)(hl:T.length<=1000000) :
  Calls prog 65 #[.pointer (some ⟨b,0,none⟩),.string typ] w fun e w'=>∃v l,e= .returned (.tuple #[v,.int .i64 0])/\Own w' w.heap.size 30 2 v (ocs l)/\UpO l/\(∀o,o∈l↔o.t=typ/\ObjIn T o)/\Ext w w':=by
 obtain⟨B,m1,m2,m3,l,h⟩:=h;have a:=h.objs.inn typ;have HW:=h! (h.what typ)
 have d:(innG l typ).length<=549755813888:=by
  have h1:=MpO.nodup a;rw[dc!]at h1;have:=gR! (T:=T) h1 fun o g=>((h.what typ o).1 g).2;omega
 have a1:=h.objs.look strK bw! Tryz.underlying147 (Tryz.zeroValue157 w) (cm! typ ht);have a0:=h.box.cells;generalize mOG l typ=mb at *;generalize innG l typ=A at *;have x1:=Ext.alloc w (.cells #[.map mb] 157);have f:=Blk.made w #[.map mb] 157;have HK:=h! (lC! mb w);have HS:=h! (hJ! (w.alloc (.cells #[.map mb] 157)) w.heap.size mb (blG A) (by simpa [blG] using d) f.lt (f.cells 0) (a.below x1));have X1:=h! x1;clear x1 f a d h;go_enter func65,ntmps65
 go_wp2_with fail
 refine HK.out.mono ?_;rintro e w1 ⟨rfl,rfl⟩;go_wp2_with fail
 refine HS.out.mono ?_;rintro e w2 ⟨v,ss,rfl,hp,hs,g,hb⟩;rw[dc!]at hp;have HO:=h! g;have f:=h! hb;have HP:=h! hp;obtain⟨ao,n,c,rfl,-⟩:=g.sl.len;clear g hb HS HK a1 a0 hp;go_wp2_with fail
 go_ret2
 exact⟨_,ss,rfl,HO.out.base X1.out.size,hs,fun o=>by rw[HP.out.mem_iff];exact HW.out o,Below.trans X1.out (f.out.mono X1.out.size)⟩
theorem pO!.ths {T:List Tup}{P:List P3}{p s:P3}(r:RT):∀f,pO! T P p r f->s∈f.ths->∃t∈T,t.s=s:=by
 induction r using RT.ind with
 | h r ih =>
  intro f hf b;rw[eY!]at hf;obtain⟨h1,h2,-,h4⟩:=hf;obtain⟨h5,h6⟩:=dR! h4;rw[FT.ths_eq,u3!]at b;rcases b with b | b
  ·split at b
   ·next e =>
    rw[h2,if_pos (h1▸e)]at b;obtain⟨t,ht,-,rfl⟩:=fk!.1 b;exact⟨t,ht,rfl⟩
   ·cases b
  ·obtain⟨g,hg,b⟩:=bv!.1 b;obtain⟨i,hi,rfl⟩:=u0! hg;have a:i<r.ps.length:=by omega
   obtain⟨g,h7,h8⟩:=h6 i _ (n4! a);rw[n4! hi]at h7;cases h7;exact ih _ (n5! a) _ h8 b
theorem pW!.forms {ts:List TyS}{T:List Tup}{shut:List R2}{p:P3}{most:Int}{n:Nat}(h:pW! ts T shut p most n)(ht:∀x∈ac! ts,x.2.textOk 0=true):∀f∈(walkN ts T shut p n).2,f.full/\∀s∈f.ths,∃t∈T,t.s=s:=by
 intro f hf;obtain⟨i,hi,rfl⟩:=u0! hf;have a0:i<n:=by rw[aF!]at hi;exact hi
 obtain⟨q,f,-,h2,h3⟩:=h.formOf a0;rw[n4! hi]at h2;cases h2;rcases h3 with⟨-,e⟩|⟨r,hr,hf⟩
 ·rw[e]
  exact⟨by rw[FT.full_eq];exact⟨fun e=>absurd e (by decide),fun g hg=>by cases hg⟩,fun s hs=>by
   rw[FT.ths_eq,if_neg (show ¬ FT.zero.k=1 by decide)]at hs;cases hs⟩
 ·have hk:=fun q hq=>(iD! r 0 (ht _ (iQ! hr)) q hq).2;exact⟨pO!.full r _ hk hf,fun s hs=>pO!.ths r _ hf hs⟩
theorem nI! {ts:List TyS}{T:List Tup}{shut:List R2}{p s:P3}{most:Int}{n i:Nat}(h:pW! ts T shut p most n)(ht:∀x∈ac! ts,x.2.textOk 0=true)(hi:i<n)(hs:0<(aX! (walkN ts T shut p n).2 s n).getD i 0):∃f∈(walkN ts T shut p n).2,s∈f.ths:=by
 by_cases hc:∃f∈(walkN ts T shut p n).2,s∈f.ths
 ·exact hc
 ·have h1:=cK! (n:=n) (fun f hf=>(h.forms ht f hf).1) (fun f hf hm=>hc ⟨f,hf,hm⟩) n i;have h2:=(gb! (fs:=(walkN ts T shut p n).2) (s:=s) n hi).2.2;rw[(kk! (walkN ts T shut p n).2 s n).solve]at h2;rw[h2.2 hs]at h1;cases h1
theorem dV! {S:Nat->Prop}{w:World}{v:Value}{l:List Bool}(h:Sl S w 1 v (boC l)):∃ao c,v= .slice ao l.length c/\l.length<=c/\c<=9223372036854775807/\∀i (hi:i<l.length),∃b off,ao=some ⟨b,off,none⟩/\S b/\w.cell? ⟨b,off+i,none⟩=some (.bool l[i]):=by
 obtain⟨ao,n,c,rfl,h1,h2,h3,h4,h5⟩:=h;rw[aW!,Nat.mul_one]at h1;subst h1;refine⟨ao,c,rfl,h2,by have e:maxLen=9223372036854775807:=rfl;omega,fun i hi=>?_⟩;obtain⟨b,off,rfl,hb,hc⟩:=h5 (fun e=>by have:=congrArg List.length e;rw[aW!]at this;simp only[v6!]at this;omega);exact⟨b,off,rfl,hb,hc i _ (by simp[boC,hi])⟩
theorem ky! {α:Type}(f:α->Bool) {l:List α}{i:Nat}(h:i<l.length):(l.take (i+1)).any f=((l.take i).any f||f l[i]):=by
 rw[n2! h,List.any_append];simp
def cntH (f:FT->Bool)(l:List FT):Nat:=(l.filter f).length
theorem lZ! (f:FT->Bool) {l:List FT}{i:Nat}(h:i<l.length):cntH f (l.take (i+1))=cntH f (l.take i)+if f l[i]=true then 1 else 0:=by
 unfold cntH;rw[n2! h,List.filter_append,u4!];by_cases e:f l[i]=true <;> simp[e]
theorem pm! (f:FT->Bool)(l:List FT):cntH f l<=l.length:=x8! _ _
theorem oa! (f:FT->Bool)(l:List FT):l.any f=decide (0<cntH f l):=by
 rw[Bool.eq_iff_iff,x5!,u1!];unfold cntH;rw[List.length_pos_iff_exists_mem];simp only[List.mem_filter]
theorem oc! (f:FT->Bool)(l:List FT):l.all f=decide (cntH f l=l.length):=by
 rw[Bool.eq_iff_iff,u8!,u1!];unfold cntH;rw[List.length_filter_eq_length_iff]
theorem jV! (s:P3)(bs:List Bool)(r:FT):∀(iv:Value)(v:FV3)(w:World),FTAt (· < w.heap.size) w r v->Sl (· < w.heap.size) w 1 iv (boC bs) ->
  Calls prog 142 #[fV r v,pV s,iv] w fun e w'=>e= .returned (.bool (holdF s bs r))/\Ext w w':=by
 induction r using FT.ind with
 | h r ih =>
 intro iv v w h R;obtain⟨a1,Q,a2,c2,a4,c4,rfl⟩:=h.shape;obtain⟨ai,ci,rfl,a3,ad,-⟩:=dV! R;obtain⟨k,subs,refs,parts⟩:=r;have L:=h! ih;have H1:=h! h;have H2:=h! R;clear ih h R a3 ad;unfold fV pV;dsimp only[FT.k,FT.subs,FT.refs,FT.ps]at L H1 ⊢;obtain⟨Z,B⟩:=e! (w.alloc (.cells #[.int .i64 k,.slice a1 subs.length Q,.slice a2 refs.length c2,.slice a4 parts.length c4] 128));obtain⟨wb,F⟩:=e! (Z.alloc (.cells #[.string s.t,.string s.i,.string s.r] 33));have ea:Z.heap.size=w.heap.size+1:=by rw[B];simp
 have xa:Ext w Z:=xa! B
 have xb:Ext Z wb:=xa! F
 have T:=h! (xa.trans xb);have BA:=h! (show Blk wb w.heap.size #[.int .i64 k,.slice a1 subs.length Q,.slice a2 refs.length c2,.slice a4 parts.length c4] 128 from Blk.below (bm! B) xb);have BB:=h! (show Blk wb (w.heap.size+1) #[.string s.t,.string s.i,.string s.r] 33 from by rw[F,<-ea];exact Blk.made _ _ _);have F1:=h! (fun W (hW:Ext w W)=>(FTAt.iff _ _).1 (H1.out.up hW));have FI:=h! (fun W (hW:Ext w W)=>show Sl (· < W.heap.size) W 1 (.slice ai bs.length ci) (boC bs)from(H2.out.same (Same.below hW)).mono fun _ h=>n1! h hW.size);clear ea xa xb H2;subst F B;have hA:=BA.out.cells;go_enter func142,ntmps142
 go_wp2_with fail
 clear hA;obtain⟨w2,G⟩:=e! ((w.alloc (.cells #[.int .i64 k,.slice a1 subs.length Q,.slice a2 refs.length c2,.slice a4 parts.length c4] 128)).alloc (.cells #[.string s.t,.string s.i,.string s.r] 33));rw[<-G]at BA BB T ⊢;clear G;go_loopw [7,18] (fun bv iv wr=>∃i:Nat,i<=refs.length/\iv= .int .i64 i/\bv= .bool ((refs.take i).any (inAt bs))/\Ext w2 wr) (fun _ iv _=>refs.length-(intOf iv).toNat)
 case atStart=>exact⟨0,v1! _,rfl,rfl,Ext.refl _⟩
 case round =>
  obtain⟨i,R,rfl,rfl,hx⟩:=hrel;have RX:=h! hx;clear hx;by_cases hlt:i<refs.length
  ·have d:=h! hlt;have g:=h! (ky! (inAt bs) hlt);obtain⟨p1,q1,rfl,D,ac⟩:=Sl.int_at (F1.out wr (T.out.trans RX.out)).2.1 hlt;dsimp only[FT.refs]at ac;have N:(i:Int)<(refs.length:Int):=by omega
   have a:=h! (show wrap64 ((i:Int)+1)=((i+1:Nat):Int)from by
    obtain⟨_,n,c,he,h1,h2,h3⟩:=(F1.out wr (T.out.trans RX.out)).2.1.len;cases he;unfold wrap64;omega)
   have A:=h! (show ∀j (hj:j<bs.length),∃b o,ai=some ⟨b,o,none⟩/\wr.cell? ⟨b,o+j,none⟩=some (.bool bs[j])from fun j hj=>by
    obtain⟨ao,c,he,-,-,hc⟩:=dV! (FI.out wr (T.out.trans RX.out));obtain⟨b,o,rfl,-,hc⟩:=hc j hj;cases he;exact⟨b,o,rfl,hc⟩)
   generalize refs[i]=x at *;cases hb:(refs.take i).any (inAt bs) with
   | true =>
    have HB:=h! hb;clear hlt D hb;go_wp2_with fail
    go_roundw
    case rel=>exact⟨i+1,d.out,by first | rw[a.out] | go_num,by rw[g.out,HB.out];rfl,RX.out⟩
    case measure=>have:=d.out;(try rw[a.out]);simp[intOf];omega
   | false =>
    have HB:=h! hb;clear hlt D hb;by_cases h0:0<=x
    ·obtain⟨m,rfl⟩:=Int.eq_ofNat_of_zero_le h0;by_cases hm:m<bs.length
     ·obtain⟨bb,bo,rfl,E⟩:=A.out m hm
      have V:=h! (show inAt bs (m:Int)=bs[m]from by
       unfold inAt;rw[Int.toNat_natCast,n8!,n4! hm];simp)
      have a6:(m:Int)<(bs.length:Int):=by omega
      generalize bs[m]=y at *;clear hm A;cases y
      all_goals
       go_wp2_with fail
       go_roundw
       case rel=>exact⟨i+1,d.out,by first | rw[a.out] | go_num,by rw[g.out,HB.out,V.out];rfl,RX.out⟩
       case measure=>have:=d.out;(try rw[a.out]);simp[intOf];omega
     ·have a6:¬ (m:Int)<(bs.length:Int):=by omega
      have V:=h! (show inAt bs (m:Int)=false from by
       unfold inAt;rw[Int.toNat_natCast,n8!,y0! (by omega)];simp)
      clear hm A;go_wp2_with fail
      go_roundw
      case rel=>exact⟨i+1,d.out,by first | rw[a.out] | go_num,by rw[g.out,HB.out,V.out];rfl,RX.out⟩
      case measure=>have:=d.out;(try rw[a.out]);simp[intOf];omega
    ·have V:=h! (show inAt bs x=false from by unfold inAt;simp[h0]);clear A;go_wp2_with fail
     go_roundw
     case rel=>exact⟨i+1,d.out,by first | rw[a.out] | go_num,by rw[g.out,HB.out,V.out];rfl,RX.out⟩
     case measure=>have:=d.out;(try rw[a.out]);simp[intOf];omega
  ·obtain rfl:i=refs.length:=by omega
   rw[u2!];have l:=h! (bJ! s bs k subs refs parts);have Y:=h! (BA.out.below RX.out);have U:=h! (BB.out.below RX.out);have X:=h! (T.out.trans RX.out);generalize refs.any (inAt bs)=bv at *;clear hlt R BA BB T RX;have hA:=Y.out.cells;by_cases k1:k=1
   ·subst k1;rw[if_pos rfl]at l;go_wp2_with fail
    clear hA;obtain⟨w4,p⟩:=e! wr;rw[<-p]at Y U X ⊢;clear p;go_loopw [7,47] (fun cv iv wr=>∃i:Nat,i<=subs.length/\iv= .int .i64 i/\cv= .bool (bv||(subs.take i).any (fun x=>decide (x=s)))/\Ext w4 wr) (fun _ iv _=>subs.length-(intOf iv).toNat)
    case atStart=>exact⟨0,v1! _,rfl,by simp,Ext.refl _⟩
    case round =>
     obtain⟨i,R,rfl,rfl,hx⟩:=hrel;have RX:=h! hx;clear hx;by_cases hlt:i<subs.length
     ·have d:=h! hlt;have g:=h! (ky! (fun x=>decide (x=s)) hlt);obtain⟨ag,af,a9,aa,ab,f⟩:=Sl.rows aj! (by decide) (show Sl _ wr 3 (.slice a1 subs.length Q) (subs.flatMap pC)from(F1.out wr (X.out.trans RX.out)).1);cases a9;obtain⟨b,o,rfl,-,f⟩:=f (by omega);have z:=f i hlt;clear f;have a:=h! (show wrap64 ((i:Int)+1)=((i+1:Nat):Int)from by unfold wrap64;omega);have N:(i:Int)<(subs.length:Int):=by omega
      generalize subs[i]=x at *;clear hlt aa ab;have c0:wr.cell? ⟨b,o+i*3,none⟩=some (.string x.t):=z 0 _ rfl;have Q:wr.cell? ⟨b,o+i*3+1,none⟩=some (.string x.i):=z 1 _ rfl;have c2:wr.cell? ⟨b,o+i*3+2,none⟩=some (.string x.r):=z 2 _ rfl;clear z;have X1:=h! (Ext.alloc wr (.cells #[.string x.t,.string x.i,.string x.r] 33));have ah:=(Blk.made wr #[.string x.t,.string x.i,.string x.r] 33).cells;have hB:=(U.out.below (RX.out.trans X1.out)).cells;have h4:=fun W=>mp! x s W;unfold pV at h4;cases hb:(bv||(subs.take i).any fun x=>decide (x=s)) with
      | true =>
       have HB:=h! hb;clear hb;go_wp2_with fail
       go_roundw
       case rel=>exact⟨i+1,d.out,by first | rw[a.out] | go_num,by rw[g.out,<-Bool.or_assoc,HB.out];rfl,RX.out.trans X1.out⟩
       case measure=>have:=d.out;(try rw[a.out]);simp[intOf];omega
      | false =>
       have HB:=h! hb;clear hb;go_wp2_with fail
       go_roundw
       case rel=>exact⟨i+1,d.out,by first | rw[a.out] | go_num,by rw[g.out,<-Bool.or_assoc,HB.out];simp,RX.out.trans X1.out⟩
       case measure=>have:=d.out;(try rw[a.out]);simp[intOf];omega
     ·obtain rfl:i=subs.length:=by omega
      rw[u2!]
      have V:=h! (show holdF s bs (.mk 1 subs refs parts)=(bv||subs.any fun x=>decide (x=s))from by
       rw[l.out,Bool.or_comm];congr 1
       rw[Bool.eq_iff_iff,x5!,u1!];simp)
      have XE:Hid (Ext w wr):=h! (X.out.trans RX.out);go_wp2_with fail
      go_ret
      exact⟨by rw[V.out];try rfl,XE.out⟩
   ·rw[if_neg k1]at l;have b1:(k == 1)=false:=by rw[n7!];exact k1
    by_cases k2:k=2
    ·subst k2;rw[if_pos (.inl rfl)]at l;go_wp2_with fail
     go_ret
     exact⟨by rw[l.out];try rfl,X.out⟩
    ·have b2:(k == 2)=false:=by rw[n7!];exact k2
     by_cases k3:k=3
     ·subst k3;rw[if_pos (.inr rfl)]at l;go_wp2_with fail
      go_ret
      exact⟨by rw[l.out];try rfl,X.out⟩
     ·have b3:(k == 3)=false:=by rw[n7!];exact k3
      rw[if_neg (by simp[k2,k3])]at l;clear k1 k2 k3;by_cases k45:k=4\/k=5
      ·have V:=h! (show holdF s bs (.mk k subs refs parts)=((k == 4)&&decide (0<cntH (holdF s bs) parts)||(k == 5)&&decide (cntH (holdF s bs) parts=parts.length))from by
        rw[l.out,<-oa!,<-oc!];rcases k45 with rfl | rfl <;> simp)
       clear l
       have I:(k == 4)=true\/(k == 4)=false/\(k == 5)=true:=by
        rcases k45 with rfl | rfl <;> simp
       have a5:=h! I;rcases I with hk4 | ⟨hk4,q⟩
       case' inl=>go_wp2_with fail
       case' inr=>go_wp2_with fail;clear q
       all_goals
        clear hA hk4 k45 b1 b2 b3;obtain⟨w4,p⟩:=e! wr;rw[<-p]at Y U X ⊢;clear p;go_loopw [12,69] (fun cv iv wr=>∃i:Nat,i<=parts.length/\iv= .int .i64 i/\cv= .int .i64 (cntH (holdF s bs) (parts.take i))/\Ext w4 wr) (fun _ iv _=>parts.length-(intOf iv).toNat)
        case atStart=>exact⟨0,v1! _,rfl,rfl,Ext.refl _⟩
        case round =>
         obtain⟨i,R,rfl,rfl,hx⟩:=hrel;have RX:=h! hx;clear hx;by_cases hlt:i<parts.length
         ·have d:=h! hlt;have g:=h! (lZ! (holdF s bs) hlt);obtain⟨ae,g1,J,K,O,E⟩:=(H1.out.up (X.out.trans RX.out)).rows;dsimp only[FT.ps]at J K O E;cases J;obtain⟨p1,q1,u,rfl,D,e0,e1,e2,e3,hu⟩:=E i hlt;have a7:=h! (L.out parts[i] (n5! hlt));have a0:=h! (show cntH (holdF s bs) (parts.take i)<=i from by have:=pm! (holdF s bs) (parts.take i);rw[x4!]at this;omega);have a:=h! (show wrap64 ((i:Int)+1)=((i+1:Nat):Int)/\wrap64 ((cntH (holdF s bs) (parts.take i):Int)+1)=((cntH (holdF s bs) (parts.take i)+1:Nat):Int)from by have:=a0.out;unfold wrap64;omega);have N:(i:Int)<(parts.length:Int):=by omega
          generalize parts[i]=x at *;generalize cntH (holdF s bs) (parts.take i)=cn at *;obtain⟨l1,m1,l2,m2,l4,m4,rfl⟩:=hu.shape;have X1:=h! (Ext.alloc wr (.cells #[.int .i64 x.k,.slice l1 x.subs.length m1,.slice l2 x.refs.length m2,.slice l4 x.ps.length m4] 128));have C:=h! (a7.out (.slice ai bs.length ci) _ _ (hu.up X1.out) (FI.out _ (X.out.trans (RX.out.trans X1.out))));unfold fV pV at C;dsimp only at e0 e1 e2 e3 C;have a8:=(Blk.made wr #[.int .i64 x.k,.slice l1 x.subs.length m1,.slice l2 x.refs.length m2,.slice l4 x.ps.length m4] 128).cells;have hB:=(U.out.below (RX.out.trans X1.out)).cells;clear hlt E hu D K O;go_wp2_with fail
          refine C.out.mono ?_;rintro e w5 ⟨rfl,H⟩;have X5:Hid (Ext w4 w5):=h! (RX.out.trans (X1.out.trans H));clear H a8 hB C e0 e1 e2 e3;cases hq:holdF s bs x with
          | true =>
           rw[hq,if_pos rfl]at g;clear hq;go_wp2_with fail
           go_roundw
           case rel=>exact⟨i+1,d.out,by first | rw[a.out.1] | go_num,by first | rw[g.out,a.out.2] | (rw[g.out];go_num),X5.out⟩
           case measure=>have:=d.out;(try rw[a.out.1]);simp[intOf];omega
          | false =>
           rw[hq,if_neg (by decide)]at g;clear hq;go_wp2_with fail
           go_roundw
           case rel=>exact⟨i+1,d.out,by first | rw[a.out.1] | go_num,by rw[g.out];rfl,X5.out⟩
           case measure=>have:=d.out;(try rw[a.out.1]);simp[intOf];omega
         ·obtain rfl:i=parts.length:=by omega
          rw[u2!];have XE:Hid (Ext w wr):=h! (X.out.trans RX.out);have hA:=(Y.out.below RX.out).cells;generalize cntH (holdF s bs) parts=cn at *;have ho:=a5.out;clear hlt R;rcases ho with hk4 | ⟨hk4,q⟩
          ·rw[hk4]at V;by_cases hcn:0<cn
           ·rw[v2! hcn]at V;have M:(0:Int)<(cn:Int):=by omega
            go_wp2_with fail
            go_ret
            exact⟨by rw[V.out];rfl,XE.out⟩
           ·have M:¬ (0:Int)<(cn:Int):=by omega
            have q:(k == 5)=false:=by rw[beq_iff_eq]at hk4;subst hk4;rfl
            rw[v3! hcn,q]at V;go_wp2_with fail
            go_ret
            exact⟨by rw[V.out];rfl,XE.out⟩
          ·rw[hk4,q]at V;by_cases hcn:cn=parts.length
           ·rw[v2! hcn]at V;subst hcn;go_wp2_with fail
            go_ret
            exact⟨by rw[V.out];simp,XE.out⟩
           ·rw[v3! hcn]at V;have M:((cn:Int) == (parts.length:Int))=false:=by rw[n7!];omega
            go_wp2_with fail
            go_ret
            exact⟨by rw[V.out];rfl,XE.out⟩
      ·have b4:(k == 4)=false:=by rw[n7!];exact fun e=>k45 (.inl e)
       have b5:(k == 5)=false:=by rw[n7!];exact fun e=>k45 (.inr e)
       rw[if_neg fun e=>k45 (.inl e),if_neg fun e=>k45 (.inr e)]at l;clear k45;go_wp2_with fail
       go_ret
       exact⟨by rw[l.out];try rfl,X.out⟩
end Go.Proofs.YtlhaghoajpglaaaGreat
