/- Lemmas for the claim, no condition. -/
import Derived.Test.YtlhaghoajpglaaaGreatYLkSub16
import Derived.RangeFuncNested
set_option maxRecDepth 100000
set_option maxHeartbeats 6000000
namespace Go.Proofs.YtlhaghoajpglaaaGreat
open Go Go.Maps Go.RowKit Go.Proofs.Tryz
theorem iG! (ps:List P3)(fs:List FT)(pv fv:Value)(typ:ByteArray)(w:World)(hg:GrAt (· < w.heap.size) w ps fs pv fv)(hok:∀f∈fs,∀s∈f.ths,s.Ok)(hn:ps.length<=1099511627776) :
  Calls prog 118 #[.agg #[pv,fv],.string typ] w fun e w'=>∃iv,e= .returned iv/\SolS w w' ps fs typ iv:=by
 have HG:=h! hg;have aU:=h! hok;have HN:=h! hn;obtain⟨po,pc,fo,fc,rfl,rfl⟩:=hg.shape;obtain⟨w1,H⟩:=e! (w.alloc (.cells #[.slice po ps.length pc,.slice fo fs.length fc] 96));obtain⟨w2,Y⟩:=e! (w1.alloc (.map #[] 0));obtain⟨w3,E⟩:=e! (w2.alloc (.cells #[.slice po ps.length pc,.slice fo fs.length fc,.string typ,.slice none 0 0,.map (some (w.heap.size+1))] 284));have s1:w1.heap.size=w.heap.size+1:=by rw[H];simp
 have s2:w2.heap.size=w.heap.size+2:=by rw[Y];simp[s1]
 have aC:Ext w w1:=xa! H
 have a8:Ext w1 w2:=xa! Y
 have a1:Ext w2 w3:=xa! E
 have ao:Hid (Ext w w3):=h! (aC.trans (a8.trans a1));have BG:=h! (show Blk w3 w.heap.size #[.slice po ps.length pc,.slice fo fs.length fc] 96 from Blk.below (bm! H) (a8.trans a1));have aj:=h! (show OS w3 (w.heap.size+1) []from Mp.below (show OS w2 (w.heap.size+1) []from by rw[Y,<-s1];exact Mp.made w1) a1);have BS:=h! (show Blk w3 (w.heap.size+2) #[.slice po ps.length pc,.slice fo fs.length fc,.string typ,.slice none 0 0,.map (some (w.heap.size+1))] 284 from by rw[E,<-s2];exact Blk.made _ _ _);have G0:Hid (LkG w w3 w.heap.size (w.heap.size+2) (.slice po ps.length pc) (.slice fo fs.length fc) typ (.slice none 0 0) [] (w.heap.size+1)):=h! ⟨ao.out,by omega,⟨by omega,by simp⟩,BG.out,BS.out,Own.nil _ _ _ _,(by simp),(by simp),aj.out,(by simp)⟩;have aE:∀i,w1.cell? ⟨w.heap.size,i,none⟩=(#[.slice po ps.length pc,.slice fo fs.length fc]:Array Value)[i]?:=(show Blk w1 w.heap.size _ _ from bm! H).cells;have ah:=BG.out.cells;have aW:=@run_makeMap prog;clear hg hok hn aC a8 a1;subst E Y H;go_enter func118,ntmps118
 go_wp2_with fail
 clear aE ah;obtain⟨w3,E⟩:=e! (((w.alloc (.cells #[.slice po ps.length pc,.slice fo fs.length fc] 96)).alloc (.map #[] 0)).alloc (.cells #[.slice po ps.length pc,.slice fo fs.length fc,.string typ,.slice none 0 0,.map (some (w.heap.size+1))] 284));rw[<-E]at G0 ⊢;clear E BS aj BG ao;obtain⟨gb,aw⟩:∃x,Hid (x=w.heap.size):=⟨_,h! rfl⟩;obtain⟨sp,aq⟩:∃x,Hid (x=w.heap.size+2):=⟨_,h! rfl⟩;obtain⟨ma,ae⟩:∃x,Hid (x=w.heap.size+1):=⟨_,h! rfl⟩;have aT:=h! (show w.heap.size<=ma from by rw[ae.out];omega);rw[<-aq.out,<-ae.out]at G0;rw[<-aq.out,<-ae.out];have G0:=h! (show LkG w w3 gb sp (.slice po ps.length pc) (.slice fo fs.length fc) typ (.slice none 0 0) [] ma from by rw[aw.out];exact G0.out);try rw[<-aw.out]
 go_loopw [19] (fun jv wr=>∃(i:Nat) (ms:List Nat) (iv:Value),i<=ps.length/\jv= .int .i64 i/\ms.length=i/\LkG w wr gb sp (.slice po ps.length pc) (.slice fo fs.length fc) typ iv ms ma) (fun jv _=>ps.length-(intOf jv).toNat)
 case atStart=>exact⟨0,[],.slice none 0 0,v1! _,rfl,rfl,G0.out⟩
 case round =>
  obtain⟨i,ms,iv,hi,rfl,aD,hG⟩:=hrel;have G:=h! aD;have G1:=h! hG;clear aD hG G0;by_cases hlt:i<ps.length
  ·have v:=h! hlt;have z:=h! (show wrap64 ((i:Int)+1)=((i+1:Nat):Int)from by have:=HN.out;unfold wrap64;omega);have ax:(i:Int)<(ps.length:Int):=by omega
   have X4:=Ext.alloc wr (.map #[] 0);have s4:(wr.alloc (.map #[] 0)).heap.size=wr.heap.size+1:=by simp
   have X5:=Ext.alloc (wr.alloc (.map #[] 0)) (.cells #[.map (some wr.heap.size)] 210);have ad:Hid (OS _ wr.heap.size []):=h! (Mp.below (show OS (wr.alloc (.map #[] 0)) wr.heap.size []from Mp.made wr) X5);have G5:=h! (G1.out.ext (X4.trans X5));have aS:=h! (show wr.heap.size∉ms from fun hm=>by have:=(G1.out.emp _ hm).lt;omega);have aK:=h! (show ma≠wr.heap.size from fun e=>by have:=G1.out.alls.lt;omega);have aO:=G1.out.box.cells;have aN:=(G1.out.ext X4).box.cells;have aG:=G5.out.box.cells;obtain⟨io,n0,c0,rfl,-⟩:=G1.out.row.sl.len;clear X4 X5 hlt;go_wp2_with (at_builtin;go_must (refine aE! setsT rfl (.tmp 25) (.tmp 27) rfl rfl G5.out.row rfl (m:=1) (news:=[.map (some wr.heap.size)]) rfl (by intro j u hu;rw[Addr.add_lit,cell_of_row _ (wr.heap.size+1) (0+j) #[.map (some wr.heap.size)] 210 (0,0) (by have h0:=heap_alloc_new (wr.alloc (.map #[] 0)) (.cells #[.map (some wr.heap.size)] 210);rw[s4]at h0;exact h0)];simpa using hu) (by simp[Value.oneCell']) (by have:=HN.out;have:=v.out;have:=G.out;rw[bJ!];simp at *;omega) (by have:=HN.out;have:=v.out;have:=G.out;rw[bJ!];simp at *;omega) (by have:=G5.out.bel.size;omega) ?_;intro v6 w6 hown6 hbx6 hg6;obtain⟨b5,n6,b6,rfl,-⟩:=hown6.sl.len;have aV:=h! (G5.out.add ad.out aS.out aK.out G1.out.bel.size hg6 hown6);have ag:=G5.out.row.blkG G5.out.box (by decide) hg6;have c6:=ag.cells;have f6:=ag.free;clear hown6 hg6 ag hbx6))
   clear aO aN aG c6 f6;go_roundw
   case rel=>exact⟨i+1,ms++[wr.heap.size],_,v.out,by first | rw[z.out] | go_num,by rw[u4!,G.out];rfl,aV.out⟩
   case measure=>have:=v.out;(try rw[z.out]);simp[intOf];omega
  ·obtain rfl:i=ps.length:=by omega
   have W0:=h! G1.out.work;have a6:=G1.out.gr.cells;rw[G.out]at W0;have aL:Hid (∀m∈ms,True):=h! (fun _ _=>trivial);clear hlt hi aW s1 s2 aL;go_wp2_with fail
   clear a6 G1;obtain⟨w4,J⟩:=e! wr;rw[<-J]at W0 ⊢;clear J;go_loopw [35] (fun jv wr=>∃(i:Nat) (all:List O2),i<=fs.length/\jv= .int .i64 i/\LkW w wr gb sp (.slice po ps.length pc) (.slice fo fs.length fc) typ iv ms ma (List.replicate ps.length []) all/\(∀o,o∈all↔SbI typ (thsL (fs.take i)) o)) (fun jv _=>fs.length-(intOf jv).toNat)
   case atStart=>exact⟨0,[],v1! _,rfl,W0.out,fun o=>by simp[SbI,thsL]⟩
   case round =>
    obtain⟨i,all,hi,rfl,hW,hm⟩:=hrel;have W1:=h! hW;have HM:=h! hm;clear hW hm W0;by_cases hlt:i<fs.length
    ·have aJ:=h! (show thsL (fs.take (i+1))=thsL (fs.take i)++fs[i].ths from by rw[n2! hlt,cK!];simp[thsL]);have ay:=h! (aU.out fs[i] (n5! hlt));obtain⟨p1,q1,l1,m1,l2,m2,l4,m4,rfl,B,V,e0,e1,e2,e3⟩:=pj! HG.out hlt;have v:=h! hlt
     have z:=h! (show wrap64 ((i:Int)+1)=((i+1:Nat):Int)from by
      have:=grLen HG.out;unfold wrap64;omega)
     have ax:(i:Int)<(fs.length:Int):=by omega
     have d0:=(W1.out.bel.cell (p:=⟨p1,q1+i*4,none⟩) B).trans e0;have d1:=(W1.out.bel.cell (p:=⟨p1,q1+i*4+1,none⟩) B).trans e1;have d2:=(W1.out.bel.cell (p:=⟨p1,q1+i*4+2,none⟩) B).trans e2;have d3:=(W1.out.bel.cell (p:=⟨p1,q1+i*4+3,none⟩) B).trans e3;have ab:=h! V;clear V e0 e1 e2 e3 B;generalize fs[i]=x at *;clear hlt;have X1:=h! (Ext.alloc wr (.cells #[.int .i64 x.k,.slice l1 x.subs.length m1,.slice l2 x.refs.length m2,.slice l4 x.ps.length m4] 128));have W2:=h! (W1.out.ext X1.out);have y:=h! (jt! aT.out x _ all _ W2.out.s (ab.out.same fun b hb=>W2.out.bel.block b hb) W2.out.bel.size ay.out);unfold fV at y;dsimp only at y;have aa:=(Blk.made wr #[.int .i64 x.k,.slice l1 x.subs.length m1,.slice l2 x.refs.length m2,.slice l4 x.ps.length m4] 128).cells;go_wp2_with fail
     refine y.out.mono ?_;rintro e w5 ⟨rfl,⟨U,aB,az⟩,ai⟩;have W5:=h! (W2.out.inAll ai aB)
     have ad:=h! (show ∀o,o∈U↔SbI typ (thsL (fs.take (i+1))) o from fun o=>by
      rw[az o,HM.out o,aJ.out];unfold SbI;rw[u3!,or_and_right])
     clear aB az ai y d0 d1 d2 d3 aa ay;go_wp2_with fail
     go_roundw
     case rel=>exact⟨i+1,U,v.out,by first | rw[z.out] | go_num,W5.out,ad.out⟩
     case measure=>have:=v.out;(try rw[z.out]);simp[intOf];omega
    ·obtain rfl:i=fs.length:=by omega
     rw[u2!]at HM;clear hlt hi;go_wp2_with fail
     obtain⟨w4,J⟩:=e! wr;rw[<-J]at W1 ⊢;clear J;have aP:Hid (∀o∈all,o.t=typ):=h! (fun o ho=>((HM.out o).1 ho).2);have b0:=h! (pe! HM.out);go_loopw [8] (fun gv wr=>∃L,LkQ w wr gb sp (.slice po ps.length pc) (.slice fo fs.length fc) typ iv ms ma fs ps.length all L/\∃g:Bool,gv= .bool g/\(g=false->∀o∈all,∀j,j<ps.length->newS fs (oS o) (vecO L o) j=false)) (fun gv wr=>jB! (LkQ w wr gb sp (.slice po ps.length pc) (.slice fo fs.length fc) typ iv ms ma fs ps.length all) (potL ps.length all)*2+flgV gv)
     case atStart=>exact⟨_,⟨W1.out,LkAt.start fs ps.length all,W1.out.s.mem.nd⟩,true,rfl,fun h=>by cases h⟩
     case round =>
      obtain⟨L0,Z,g,rfl,af⟩:=hrel;cases g with
      | false =>
       have Q0:=h! Z;have y:=h! (af rfl);clear Z af W1;have hb:=Q0.out.1.s.box.cells;go_wp2_with fail
       go_ret
       refine⟨iv,rfl,ms,L0,Q0.out.1.s.row.mono fun b hb=>⟨hb.1,hb.2.2⟩,Q0.out.1.s.mem,Q0.out.2.1.len,fun l hl o ho=>(HM.out o).1 (Q0.out.2.1.sub l hl o ho),fun o ho j hj=>?_,Q0.out.1.bel⟩;rw[hg! (by rw[Q0.out.2.1.len];exact hj)];exact Q0.out.2.1.done y.out ((HM.out o).2 ho) hj
      | true =>
       obtain⟨L,hq,T⟩:=jA! (potL ps.length all) ⟨_,Z⟩;have Q0:=h! hq;have aX:=h! T;clear hq T Z af W1 L0;have aH:=Q0.out.1.gr.cells;go_wp2_with fail
       rw[nW!];clear aH;obtain⟨mn,a0⟩:∃x,Hid (x=min fs.length ps.length):=⟨_,h! rfl⟩;rw[<-a0.out];obtain⟨w5,ak⟩:=e! wr;rw[<-ak]at Q0 ⊢;clear ak;go_loopw [8,51] (fun gv jv wr=>∃(i:Nat) (g:Bool) (L':List (List O2)),gv= .bool g/\jv= .int .i64 i/\i<=mn/\LkW w wr gb sp (.slice po ps.length pc) (.slice fo fs.length fc) typ iv ms ma L' all/\Pass fs ps.length all L L' g i) (fun _ jv _=>mn-(intOf jv).toNat)
       case atStart=>exact⟨0,false,L,rfl,rfl,v1! _,Q0.out.1,Pass.start Q0.out.2.1 Q0.out.2.2⟩
       case round =>
        obtain⟨i,g,L',rfl,rfl,hi,hW,hP⟩:=hrel;have W1:=h! hW;have P1:=h! hP;clear hW hP;by_cases hlt:i<mn
        ·have v:=h! hlt;have O:=h! (show i<ps.length from by have:=a0.out;omega);have F:=h! (show i<fs.length from by have:=a0.out;omega);have z:=h! (show wrap64 ((i:Int)+1)=((i+1:Nat):Int)from by have:=HN.out;have:=O.out;unfold wrap64;omega);have ax:(i:Int)<(mn:Int):=by omega
         have aQ:(i:Int)<(fs.length:Int):=by have:=F.out;omega
         have q:i<ms.length:=by rw[G.out];exact O.out
         have a5:i<L'.length:=by rw[P1.out.at_.len];exact O.out
         have ar:Hid (L'.getD i []=L'[i]'a5):=h! (hg! a5);have I:=h! (W1.out.s.mem.sets i q a5)
         obtain⟨-,a9⟩:True/\∃io c0 b a3,iv= .slice io ps.length c0/\io=some ⟨b,a3,none⟩/\(b<wr.heap.size/\b≠ma/\b∉ms)/\wr.cell? ⟨b,a3+i,none⟩=some (.map (some (ms[i]'q))):=⟨trivial,by
          obtain⟨io,n0,c0,he,-⟩:=W1.out.s.row.len;have h1:=W1.out.s.row;rw[he]at h1;obtain⟨rfl,h2⟩:=ms_at h1;obtain⟨b,a3,h3,h4,h5⟩:=h2 i q;exact⟨io,c0,b,a3,by rw[he,G.out],h3,h4,h5⟩⟩
         obtain⟨io,c0,b2,C,rfl,rfl,aY,au⟩:=a9;have b7:(i:Int)<(ps.length:Int):=by have:=O.out;omega
         obtain⟨p1,q1,l1,m1,l2,m2,l4,m4,rfl,B,V,e0,e1,e2,e3⟩:=pj! HG.out F.out;have aZ:Hid (fs[i]?=some (fs[i]'F.out)):=h! (n4! F.out);have aI:=h! (b0.out _ (n5! F.out));have a2:=h! aY;have am:=h! au;have a7:=h! (show(ms[i]'q)∈ms/\w.heap.size<=(ms[i]'q)/\(ms[i]'q)<wr.heap.size from⟨n5! q,W1.out.mlo.2 _ (n5! q),I.out.lt⟩);have b3:=h! (fun W A (hk:Tk (ms[i]'q) wr W) (ha:OS W (ms[i]'q) A)=>LkW.setAt W1.out q hk ha);generalize hmi:(ms[i]'q)=mi at *;generalize (fs[i]'F.out)=x at *;generalize (L'[i]'a5)=A0 at *;have ab:=h! V;have aR:=oQ! I.out;have b4:=W1.out.s.box.cells;clear V hmi hlt;go_wp2_with fail
         clear b4 aR au;obtain⟨wd,a4⟩:∃wd,Hid (wd=wr.drew):=⟨_,h! rfl⟩;have Q:=h! (show Ext wr wd from xd! a4.out);have WD:=h! (W1.out.ext Q.out);have OD:=h! (I.out.below Q.out);have ap:Hid (gb≠mi/\sp≠mi):=h! ⟨fun e=>I.out.notCells _ _ _ (e▸W1.out.gr),fun e=>I.out.notCells _ _ _ (e▸W1.out.s.box)⟩;refine r! (fun W=>Tk mi wd W) (by rw[<-a4.out];exact Tk.refl _ _) ?_;rw[<-a4.out];clear a4;have hg:=fun W (h:Tk mi wd W)=>(h.box WD.out.gr ap.out.1).cells;have hs:=fun W (h:Tk mi wd W)=>(h.box WD.out.s.box ap.out.2).cells;have D:∀W,Tk mi wd W->∀b,b<wr.heap.size->b≠mi->W.heap[b]?=wr.heap[b]?:=fun W h b h1 h2=>(h.block b ⟨n1! h1 Q.out.size,h2⟩).trans (Q.out.block b h1);have aM:=fun W (h:Tk mi wd W)=>(World.cell?_of_block (a:=⟨b2,C+i,none⟩) (D W h b2 a2.out.1 fun e=>a2.out.2.2 (e▸a7.out.1))).trans am.out;have N:∀W,Tk mi wd W->∀j,W.cell? ⟨p1,j,none⟩=w.cell? ⟨p1,j,none⟩:=fun W h j=>(World.cell?_of_block (a:=⟨p1,j,none⟩) (D W h p1 (n1! B W1.out.bel.size) fun e=>by have:=a7.out.2.1;omega)).trans (W1.out.bel.cell (p:=⟨p1,j,none⟩) B);have q0:=fun W (h:Tk mi wd W)=>(N W h _).trans e0;have q1':=fun W (h:Tk mi wd W)=>(N W h _).trans e1;have q2:=fun W (h:Tk mi wd W)=>(N W h _).trans e2;have q3:=fun W (h:Tk mi wd W)=>(N W h _).trans e3;have y:=h! (lS! P1.out.at_.sub aP.out x _ wd WD.out.s ((ab.out.same fun b hb=>WD.out.bel.block b hb).mono fun b hb=>n1! hb WD.out.bel.size) aI.out);unfold fV at y;dsimp only at y;clear N D e0 e1 e2 e3 B;(refine WalkN.tk [0,1,2,3,4,5,6,7,8,9,10,11,12] ?_;(iterate 13 (refine c! ?_));refine TkN.n ?_)
         clear hg hs aM q0 q1' q2 q3;refine ob! 13 ?_;intro K hK;go_simp;refine y.out.mono ?_;rintro e w6 ⟨bf,Af,rfl,aa,an,av,M⟩;refine hK.out _ _ (Tk.of M) ?_;clear hK y;have O6:=h! (OD.out.below M);have al:=h! (eZ! mi bf A0 Af w6 O6.out an (fun e=>by have:=OD.out.lt;omega));have aF:=h! av;have X6:Hid (Ext wr w6):=h! (Ext.trans Q.out M);have T6:Hid (Tk mi wd w6):=h! (Tk.of M);clear aa an av M;refine ob! 14 ?_;intro K hK;go_simp;refine al.out.mono ?_;rintro e w7 ⟨rfl,⟨A7,X,aA⟩,ac⟩;refine hK.out _ _ (T6.out.next ac) ?_;clear hK al;refine d! ?_;have K7:Hid (Tk mi wr w7):=h! ((Tk.of X6.out).next ac);have W7:=h! (b3.out w7 A7 K7.out X);have b1:Hid (∀o,o∈A7↔o∈L'.getD i []\/InF all L' x o):=h! (fun o=>by rw[aA o,aF.out o,ar.out]);have P7:=h! (P1.out.step O.out aZ.out (OS.nodup X) b1.out);rw[ar.out]at P7;have b9:=oQ! X;have ba:=W7.out.s.box.cells;have b8:w7.cell? ⟨b2,C+i,none⟩=some (.map (some mi)):=(World.cell?_of_block (a:=⟨b2,C+i,none⟩) (K7.out.block b2 ⟨a2.out.1,fun e=>a2.out.2.2 (e▸a7.out.1)⟩)).trans am.out;clear X aA ac;cases g with
         | true =>
          go_wp2_with fail
          go_roundw
          case rel=>exact⟨i+1,true,_,rfl,by first | rw[z.out] | go_num,v.out,W7.out,P7.out⟩
          case measure=>have:=v.out;(try rw[z.out]);simp[intOf];omega
         | false =>
          go_wp2_with fail
          go_roundw
          case rel=>exact⟨i+1,decide (A0.length<A7.length),_,by simp,by first | rw[z.out] | go_num,v.out,W7.out,by simpa using P7.out⟩
          case measure=>have:=v.out;(try rw[z.out]);simp[intOf];omega
        ·obtain rfl:i=mn:=by omega
         go_wp2_with fail
         go_roundw
         case rel =>
          refine⟨L',⟨W1.out,P1.out.at_,P1.out.nd⟩,g,rfl,fun e=>?_⟩;subst e;exact P1.out.closed (by rw[<-a0.out];exact n0! _)
         case measure =>
          have h1:=lz! (R:=LkQ w wr gb sp (.slice po ps.length pc) (.slice fo fs.length fc) typ iv ms ma fs ps.length all) (potL ps.length all) (show LkQ w wr gb sp (.slice po ps.length pc) (.slice fo fs.length fc) typ iv ms ma fs ps.length all L' from⟨W1.out,P1.out.at_,P1.out.nd⟩);have h2:=aX.out;cases g with
          | true=>have h3:=P1.out.less;simp only[flgV];omega
          | false=>have h3:=P1.out.le;simp only[flgV];omega
instance:Inhabited O2:=⟨⟨⟨#[]⟩,⟨#[]⟩⟩⟩
theorem lp! {a b:O2}(h:oS a=oS b):a=b:=by
 cases a;cases b;simp only[oS,P3.mk.injEq]at h;simp[h.1,h.2.1]
def cmpO (a b:O2):Int:=orL [cmpS a.t b.t,cmpS a.i b.i]
def cmpI (a b:O2):Int:=cmpS a.i b.i
def ltO (a b:O2):Bool:=ltP (oS a) (oS b)
theorem lv! (a b:O2):ltO a b=if a.t=b.t then ltS a.i b.i else ltS a.t b.t:=by
 unfold ltO ltP oS;dsimp only;split
 ·split
  ·next h=>rw[bV!,h,bV!]
  ·rfl
 ·rfl
theorem gY! (a b:O2):Go.Proofs.ltOf cmpO a b=ltO a b:=by
 rw[lv!];unfold Go.Proofs.ltOf cmpO;rw[Bool.eq_iff_iff,u1!];simp only[orL,dn!];by_cases h1:a.t=b.t
 ·simp only[h1,if_true];by_cases h2:a.i=b.i
  ·simp[h2,bV!]
  ·simp only[h2,if_false];exact cY! _ _
 ·simp only[h1,if_false];exact cY! _ _
theorem gZ! (a b:O2):Go.Proofs.ltOf cmpI a b=ltS a.i b.i:=by
 unfold Go.Proofs.ltOf cmpI;rw[Bool.eq_iff_iff,u1!];exact cY! _ _
theorem swoO:Go.Sort.SWO (Go.Proofs.ltOf cmpO) where
 irrefl x:=by rw[gY!];exact cC! _
 trans x y z h k:=by rw[gY!]at *;exact bA! h k
 ntrans x y z h k:=by
  rw[gY!]at *;have:=swoP.ntrans (oS x) (oS y) (oS z);rw[dc!,dc!,dc!]at this;exact this h k
theorem swoI:Go.Sort.SWO (Go.Proofs.ltOf cmpI) where
 irrefl x:=by rw[gZ!];exact bV! _
 trans x y z h k:=by rw[gZ!]at *;exact cA! h k
 ntrans x y z h k:=by
  rw[gZ!]at *;cases hxz:ltS x.i z.i with
  | false=>rfl
  | true =>
   by_cases e1:x.i=y.i
   ·rw[e1]at hxz;rw[hxz]at k;cases k
   ·have h1:=bz! h e1;have h2:=cA! h1 hxz;rw[h2]at k;cases k
def UpO (l:List O2):Prop:=l.Pairwise fun a b=>ltO a b=true
theorem mm! {l:List O2}:UpO l↔UpP (l.map oS):=by
 unfold UpO UpP;rw[List.pairwise_map];rfl
theorem ds! {a b:List O2}(ha:UpO a)(hb:UpO b)(h:∀x,x∈a↔x∈b):a=b:=by
 have h1:=ff! (mm!.1 ha) (mm!.1 hb) fun x=>by
  rw[u6!,u6!];constructor
  ·rintro⟨y,hy,e⟩;exact⟨y,(h y).1 hy,e⟩
  ·rintro⟨y,hy,e⟩;exact⟨y,(h y).2 hy,e⟩
 exact List.map_inj_right (fun x y e=>lp! e) |>.1 h1
theorem UpO.filter {l:List O2}(h:UpO l)(p:O2->Bool):UpO (l.filter p):=List.Pairwise.filter p h
theorem it! {l:List O2}(hs:l.Pairwise fun a b=>Go.Proofs.ltOf cmpO b a=false)(hn:l.Nodup):UpO l:=by
 refine x3!.2 fun i j hi hj hij=>?_;have h1:=x3!.1 hs i j hi hj hij;have h2:=x3!.1 hn i j hi hj hij;rw[gY!]at h1;exact cB! h1 fun e=>h2 (lp! e).symm
theorem iu! {l:List O2}{typ:ByteArray}(ht:∀o∈l,o.t=typ)(hs:l.Pairwise fun a b=>Go.Proofs.ltOf cmpI b a=false)(hn:l.Nodup):UpO l:=by
 refine x3!.2 fun i j hi hj hij=>?_;have h1:=x3!.1 hs i j hi hj hij;have h2:=x3!.1 hn i j hi hj hij;have e1:=ht _ (n5! hi);have e2:=ht _ (n5! hj);rw[gZ!]at h1;rw[lv!,if_pos (e1.trans e2.symm)];refine bz! h1 fun e=>h2 ?_;have:∀a b:O2,a.t=b.t->a.i=b.i->a=b:=fun a b h k=>by cases a;cases b;simp_all
 exact this _ _ (e1.trans e2.symm) e.symm
theorem nw! (p:O2):∀u∈oC p,u.oneCell'=true:=by
 intro u hu;simp only[oC,v7!,List.not_mem_nil,or_false]at hu;rcases hu with rfl | rfl <;> rfl
def ocs (l:List O2):List Value:=l.flatMap oC
theorem av! (l:List O2):∀u∈ocs l,u.oneCell'=true:=by
 intro u hu;obtain⟨a,_,h⟩:=List.mem_flatMap.1 hu;exact nw! a u h
theorem aa! (l:List O2):(ocs l).length=2*l.length:=by
 rw[ocs,ao! aC!];omega
theorem aP! (a b:List O2):ocs (a++b)=ocs a++ocs b:=x9!
theorem ji! (a:O2):ocs [a]=oC a:=by simp[ocs]
theorem gf! (l:List O2)(k:Nat):(ocs l).take (k*2)=ocs (l.take k):=by
 induction k generalizing l with
 | zero=>simp[ocs]
 | succ k ih =>
  cases l with
  | nil=>simp[ocs]
  | cons a l =>
   rw[List.take_succ_cons,show ocs (a::l)=oC a++ocs l from rfl,show ocs (a::l.take k)=oC a++ocs (l.take k)from rfl,<-ih l];rw[show(k+1)*2=2+k*2 from by omega,List.take_append,List.take_of_length_le (by rw[aC!];omega),aC!,Nat.add_sub_cancel_left]
theorem gg! (l:List O2)(k:Nat):(ocs l).drop (k*2)=ocs (l.drop k):=by
 induction k generalizing l with
 | zero=>simp[ocs]
 | succ k ih =>
  cases l with
  | nil=>simp[ocs]
  | cons a l =>
   rw[List.drop_succ_cons,show ocs (a::l)=oC a++ocs l from rfl,<-ih l];rw[show(k+1)*2=2+k*2 from by omega,List.drop_append,List.drop_eq_nil_of_le (by rw[aC!];omega),aC!,Nat.add_sub_cancel_left,y2!]
theorem aM!:pR! prog 113 30 2 32:=pR!.mk' Tryz.underlying113 (show _=some (some (.agg #[.string ByteArray.empty,.string ByteArray.empty]),2,32)by kernel_rfl) rfl (by decide)
theorem dT! (w:World)(a b:Value)(t:TypeId):∀j u,[a,b][j]?=some u->(w.alloc (.cells #[a,b] t)).cell? ((⟨w.heap.size,0,none⟩:Addr).add j)=some u:=fun j u hu=>by
 rw[Addr.add_lit,cell_of_row _ w.heap.size (0+j) #[a,b] t (0,0) (heap_alloc_new w _),Nat.zero_add];simpa using hu
theorem oZ! (a b:O2)(W:World):(binOp BinOp.eql 30 (oV a) (oV b)).run prog W= .ok (.bool (decide (a=b))) W:=by
 obtain⟨a1,a2⟩:=a;obtain⟨b1,b2⟩:=b;unfold oV;dsimp only;go_simp;simp only[bc!];by_cases h1:a1=b1 <;> by_cases h2:a2=b2 <;> simp[h1,h2]
def SrtI (l:List O2):Prop:=l.Pairwise fun a b=>Go.Proofs.ltOf cmpI b a=false
theorem jf! (a b:O2)(w:World):Calls prog 123 #[oV a,oV b] w (fun e w'=>e= .returned (.int .i64 (cmpO a b))/\Gr w w'):=by
 obtain⟨f,q⟩:=a;obtain⟨u,r⟩:=b;unfold oV;dsimp only;have hA:=(Blk.made w #[.string f,.string q] 30).alloc (.cells #[.string u,.string r] 30);have hB:=Blk.made' (w:=w.alloc (.cells #[.string f,.string q] 30)) (B:=w.heap.size+1) (by simp) #[.string u,.string r] 30;have m:Gr w ((w.alloc (.cells #[.string f,.string q] 30)).alloc (.cells #[.string u,.string r] 30)):=((Gr.refl _).alloc _).alloc _;go_enter func123,ntmps123
 go_wp2_with fail
 obtain⟨s,g⟩:=e! (((w.alloc (.cells #[.string f,.string q] 30)).alloc (.cells #[.string u,.string r] 30)).drew);have p:=hA.drew;have o:=hB.drew;have k:=m.drew;rw[<-g]at p o k;refine re! g ?_;clear g hA hB m;have h1:=fun W (h:Ext s W)=>(p.below h).cells;have h2:=fun W (h:Ext s W)=>(o.below h).cells;(refine WalkN.tk [0,1,2,3,5,6,7,8] ?_;(iterate 8 (refine c! ?_));refine TkN.n ?_)
 clear h1 h2;have j:=h! (gx! f u s);refine ob! 4 ?_;intro K hK;go_simp;refine j.out.mono ?_;rintro e w1 ⟨rfl,rfl⟩;refine hK.out _ _ (Ext.refl _) ?_;clear hK j;have i:=h! (gx! q r s);refine ob! 9 ?_;intro K hK;go_simp;refine i.out.mono ?_;rintro e w1 ⟨rfl,rfl⟩;refine hK.out _ _ (Ext.refl _) ?_;clear hK i;refine ob! 10 ?_;intro K hK;go_simp;have hE:Ext s (s.alloc (.cells #[.int .i64 (cmpS f u),.int .i64 (cmpS q r)] 3)):=Ext.alloc _ _;have hl:Sl (fun b=>b=s.heap.size) (s.alloc (.cells #[.int .i64 (cmpS f u),.int .i64 (cmpS q r)] 3)) 1 (.slice (some ⟨s.heap.size,0,none⟩) 2 2) (icL [cmpS f u,cmpS q r]):=Sl.made s _ 1 2 _ _ rfl (by decide) rfl;refine hK.out _ _ hE ?_;clear hK;have l:=h! (oR! _ _ _ _ hl);have a0:=k.alloc (.cells #[.int .i64 (cmpS f u),.int .i64 (cmpS q r)] 3);refine ob! 11 ?_;intro K hK;go_simp;refine l.out.mono ?_;rintro e w1 ⟨rfl,rfl⟩;refine hK.out _ _ hE ?_;clear hK l;refine t! 12 ?_
 refine d! ?_;go_wp2
 go_ret
 exact⟨rfl,a0⟩
theorem je! (a b:O2)(w:World):Calls prog 182 #[oV a,oV b] w (fun e w'=>e= .returned (.int .i64 (cmpI a b))/\Gr w w'):=by
 obtain⟨c,d⟩:=a;obtain⟨g,f⟩:=b;unfold oV;dsimp only;have hA:=(Blk.made w #[.string c,.string d] 30).alloc (.cells #[.string g,.string f] 30);have hB:=Blk.made' (w:=w.alloc (.cells #[.string c,.string d] 30)) (B:=w.heap.size+1) (by simp) #[.string g,.string f] 30;have a1:Gr w ((w.alloc (.cells #[.string c,.string d] 30)).alloc (.cells #[.string g,.string f] 30)):=((Gr.refl _).alloc _).alloc _;go_enter func182,ntmps182
 have a3:=hA.cells;have a2:=hB.cells;have a0:=h! (gx! d f ((w.alloc (.cells #[.string c,.string d] 30)).alloc (.cells #[.string g,.string f] 30)));go_wp2_with fail
 refine a0.out.mono ?_;rintro e w1 ⟨rfl,rfl⟩;go_wp2_with fail
 go_ret
 exact⟨rfl,a1⟩
theorem hV! (F:Fence)(n:Nat)(h60:F.fn 227)(hro:F.round=none)(hn:1<=n)(Bm b:Nat)(m:List (O2 × Bool))(w:World)(hBm:Bm<w.heap.size)
  (hm:w.cell? ⟨Bm,0,none⟩=some (.map (some b))) (hM:Mp prog 30 oV (fun x => .bool x) w b m) :
  SeqStopsK F n prog 227 #[.pointer (some ⟨Bm,0,none⟩)] (fun x=>#[oV x]) KeepsWalks (fun ss=>ss.Perm (m.map (·.1))) (fun _=>True) m.length w:=fun l J Jx W hW hJ hJx hY h0=>by
 have hMW:=hM.below hW;have hmW:=(hW.cell (p:=⟨Bm,0,none⟩) hBm).trans hm;clear hM hm hW;refine callsIn_of_wp func227 rfl h60 ?_ hro;simp only[ntmps227,List.size_toArray,u7!,v6!,Nat.reduceAdd,Nat.reduceSub,Array.replicate_succ,Array.replicate_zero,List.push_toArray,List.append_toArray,y2!,x2!]
 gi_wp2_with (first
  | (gi_at_range;refine bF! _ rfl _ 210 rfl Tryz.underlying210 rfl hMW ?_;intro w0 hrg0 hb0 hs0)
  | gi_in)
 try go_frame
 gi_loopw [3] (fun _ wr=>∃(rem:List (O2 × Bool)) (ss:List O2),Rng prog 30 oV (fun x => .bool x) wr b W.heap.size m rem/\(ss++rem.map (·.1)).Perm (m.map (·.1))/\J ss wr)
  (fun _ wr=>wr.rangeLeft b W.heap.size)
 case atStart=>exact⟨m,[],hrg0,List.Perm.refl _,hJ [] W w0 none h0 (dl! hb0) (fun r e=>by cases e)⟩
 case round =>
  obtain⟨rem,ss,hrg,hp,hJs⟩:=hrel;have hlen:ss.length+rem.length=m.length:=by have:=hp.length_eq;simpa using this
  have o:∀k (p:O2 × Bool) d,rem=k++p::d->ss.length<m.length:=fun k p d e=>by
   have:=congrArg List.length e;simp at this;omega
  gi_wp2_with (first
   | (gi_at_next;refine bH! _ rfl _ rfl rfl hrg ?_ ?_;rotate_left;(rintro k ⟨⟨y,A⟩,c⟩ d v a j u a1 a4;have g:=h! a;have s:J ss v:=hJ ss wr v (some W.heap.size) hJs u.grown (fun r e=>by cases e;exact⟨n0! _,hrg.walk⟩);have t:J ss (v.alloc (.cells #[.string y,.string A] 30)):=hJ ss v _ none s (dl! ((Below.refl _ _).alloc (n0! _) _)) (fun r e=>by cases e);obtain⟨fn,a3,q,a0,hy,hR⟩:=hY ss ⟨y,A⟩ _ t (o _ _ _ a);have HR:=h! hR;have a2:=h! j;clear hR j t s a a1 o u;dsimp only[oV]at hy a4);rotate_left;(intro a;have i:=h! a;clear a o))
   | gi_in)
  ·go_end0
   refine⟨⟨_,rfl⟩,.inl ⟨ss,?_,hJs⟩⟩;have z:=hp;rw[i.out]at z;simpa using z
  ·refine HR.out.mono ?_;rintro e W3 (⟨rfl,hJ4,hk3⟩|⟨rfl,hJ4⟩);rotate_left
   ·gi_wp2
    exact bodyPost_ret (results_none rfl _ _ _) rfl ⟨⟨_,rfl⟩,.inr ⟨_,trivial,hJ4⟩⟩
   have f:=(a2.out.below ((Below.refl _ _).alloc (n0! _) (.cells #[.string y,.string A] 30))).walks hk3;gi_wp2
   go_roundw
   case rel =>
    refine⟨k++d,ss++[⟨y,A⟩],f,?_,hJ4⟩;have z:=hp;rw[g.out]at z;refine List.Perm.trans ?_ z;simp only[v9!,v8!,y6!,List.singleton_append];exact List.Perm.append_left ss List.perm_middle.symm
   case measure=>rw[f.left_eq,hrg.left_eq,g.out];simp
theorem nJ! (F:Fence)(n:Nat)(h46:F.fn 181)(hro:F.round=none)(mb:Option Nat)(w:World) :
  CallsIn F n prog 181 #[.map mb] w fun e w'=>e= .returned (.func (.func 227) #[] #[.pointer (some ⟨w.heap.size,0,none⟩)])/\w'=w.alloc (.cells #[.map mb] 210):=by
 have a0:∀(fn:Fn) (first cap:Array Value) (w:World),(Instr.makeFunc fn first cap).run prog w= .ok (.func fn first cap) w:=fun _ _ _ _=>rfl;refine callsIn_of_wp func181 rfl h46 ?_ hro;simp only[ntmps181,List.size_toArray,u7!,v6!,Nat.reduceAdd,Nat.reduceSub,Array.replicate_succ,Array.replicate_zero,List.push_toArray,List.append_toArray,y2!,x2!];gi_wp2
 go_ret
 exact⟨rfl,rfl⟩
theorem lB! (F:Fence)(n:Nat)(hf:F.fn 227)(hro:F.round=none)(Bm:Nat)(w:World)(hBm:Bm<w.heap.size)(hm:w.cell? ⟨Bm,0,none⟩=some (.map none)) :
  SeqStopsK F n prog 227 #[.pointer (some ⟨Bm,0,none⟩)] (fun x:O2=>#[oV x]) KeepsWalks (fun ss:List O2=>ss=[]) (fun _=>True) 0 w:=fun l J Jx W hW hJ _ _ h0=>by
 have hmW:=(hW.cell (p:=⟨Bm,0,none⟩) hBm).trans hm;clear hm hW;refine callsIn_of_wp func227 rfl hf ?_ hro;simp only[ntmps227,List.size_toArray,u7!,v6!,Nat.reduceAdd,Nat.reduceSub,Array.replicate_succ,Array.replicate_zero,List.push_toArray,List.append_toArray,y2!,x2!];have hrg:=run_range_nilMap (P:=prog) W 210 30 4 Tryz.underlying210;have hnx:∀ty,(Instr.next (.pointer (some ⟨W.heap.size,0,none⟩)) false ty).run prog (W.alloc (.mapIter none 0 #[] 0))=_:=fun ty=>run_next_nilMap _ ty 0 0 #[];gi_wp2
 refine wpIn_loop_rounds 1 ?_;rw[roundsIn_succ];gi_wp2
 go_end0
 exact⟨⟨_,rfl⟩,.inl ⟨[],rfl,hJ [] W _ none h0 (World.grownBy_alloc W _ none) (fun r e=>by cases e)⟩⟩
attribute [local go_sem] Oper.semAt_some
theorem mR! (F:Fence)(n:Nat)(h45:F.fn 228)(hro:F.round=none)(hn:2<=n)(g:Nat)(lb:Array Value)(hFg:F.fn g)(eg:∀args w,(callFunc g args).run prog w= .ok (.enter g args) w)
  (S Sp:List O2->Prop) (N:Nat) (w:World) (B0:Nat) (hB0:B0<=w.heap.size) (v:Value) (l:List O2) (hN:l.length+N<=549755813888) (hown:Own w B0 30 2 v (ocs l)) (hseq:SeqStopsK F (n-1) prog g lb (fun x=>#[oV x]) KeepsWalks S Sp N w) :
  CallsIn F n prog 228 #[v,.func (.func g) #[] lb] w fun e w'=>∃(v':Value) (ss:List O2),e= .returned v'/\S ss/\Own w' B0 30 2 v' (ocs (l++ss))/\Kept (fun b=>b<w.heap.size/\v.ownBlock≠some b) w w'/\KeepsFrom 0 w w':=by
 have h1:1<=n:=by omega
 obtain⟨M,k,c,rfl⟩:∃M k c,v= .slice M k c:=by
  rcases hown.shape with⟨rfl,_⟩|⟨g,n,c,rfl⟩
  ·exact⟨_,_,_,rfl⟩
  ·exact⟨_,_,_,rfl⟩
 refine callsIn_of_wp_marks func228 rfl h45 ?_ hro;simp only[ntmps228,List.size_toArray,u7!,v6!,Nat.reduceAdd,Nat.reduceSub,Array.replicate_succ,Array.replicate_zero,List.push_toArray,List.append_toArray,y2!,x2!];gi_wp2
 have bS:=Boxed.new w 113 (.slice M k c);have A:Below w.heap.size w (w.alloc (.cells #[.slice M k c] 113)):=(Below.refl _ w).alloc (n0! _) _;have a2:(w.alloc (.cells #[.slice M k c] 113)).heap.size=w.heap.size+1:=by simp
 have q:=hown.below A;have E:KeepsFrom 0 w (w.alloc (.cells #[.slice M k c] 113)):=(KeepsOthers.alloc _ _).from _;obtain⟨W0,C⟩:∃W0,w.alloc (.cells #[.slice M k c] 113)=W0:=⟨_,rfl⟩;rw[C]at bS A a2 q E ⊢;clear C
 refine wpIn_rangeFunc_ownH hro h1 (gf:=g) (lb:=lb) rfl hFg eg hseq walksK_t walksK_b A (fun _=>rfl)
  (fun f W=>(∃v',Boxed W w.heap.size 113 v'/\Own W B0 30 2 v' (ocs (l++f))/\(∀g,v'.ownBlock=some g->(Value.slice M k c).ownBlock=some g\/w.heap.size<=g))/\(Kept (fun b=>b<w.heap.size/\(Value.slice M k c).ownBlock≠some b) w W/\KeepsFrom 0 w W))
  (fun _ _ _=>False)
  (OwnFrom.and (en! B0 w.heap.size 113 30 2 (fun f=>ocs (l++f)) (fun v'=>∀g,v'.ownBlock=some g->(Value.slice M k c).ownBlock=some g\/w.heap.size<=g) _) (OwnFrom.and (dJ! (fun b hb=>hb.1) (by omega)) (ownFrom_keepsFrom (by omega))))
  (fun _ _ _ _ _ hs _ _=>hs)
  ⟨⟨_,bS,by simpa using q,fun g hg => .inl hg⟩,Below.kept A (fun b hb=>hb.1),E⟩
  (fun x a' W=>∃I,w.heap.size<I/\Blk W I #[.string x.t,.string x.i] 30/\a' = {tmps:=#[.slice M k c,.func (.func g) #[] lb,.pointer (some ⟨w.heap.size,0,none⟩),undef,.slice none 0 0,.pointer (some ⟨I,0,none⟩),.func (.func g) #[] lb,oV x,undef,undef,undef,undef,undef],defers:=[]})
  (fun x a' _ X Y row hs hg hr=>by obtain⟨I,h1,h2,h3⟩:=hs;exact⟨I,h1,er! h2 hg (fun r e=>(hr r e).2),h3⟩)
  ?assign ?body ?done ?stop
 case assign =>
  rintro l2 f ⟨H,R⟩ W K ⟨⟨v',p,j,y⟩,d,s⟩ J;dsimp only[oV];gi_wp2
  refine J _ _ ((KeepsOthers.alloc _ _).from _) (KeepsWalks.alloc _ _) ⟨⟨v',p.alloc _,j.below ((Below.refl _ _).alloc (n0! _) _),y⟩,d.alloc (fun b hb=>n1! hb.1 d.size) _,s.trans ((KeepsOthers.alloc _ _).from _)⟩ ⟨W.heap.size,p.lt,Blk.made W _ _,rfl⟩
 case body =>
  rintro l2 f ⟨H,R⟩ a' W hl ⟨r,hr⟩ ⟨⟨v',p,j,y⟩,d,s⟩ ⟨I,a8,bX,rfl⟩ a9;have cS:=p.cell;have cX:=bX.cells;have aa:=d.size;have G:=aa! (l++f);rw[u4!]at G;have a1:(2*(l.length+f.length)+2)*32<=140737488355328:=by omega
  gi_wp2_with (first
   | (gi_at_builtin;go_loud (
      refine dq! aM! rfl _ _ rfl rfl (j.below ((Below.refl _ _).alloc (n0! _) _)) (ad:=⟨W.heap.size,0,none⟩) (m:=1) (c:=1) (news:=[.string H,.string R]) rfl rfl (dT! _ _ _ _) (by intro u hu;simp only[v7!,List.not_mem_nil,or_false]at hu;rcases hu with rfl | rfl | rfl <;> rfl) (by simp only[u7!,v6!];omega) (by simp only[u7!,v6!];rw[G];exact a1) (by simp;omega) ?_;intro v2 w2 hO2 hG2 hg2
      obtain⟨Q,O,L,rfl⟩:∃Q O L,v2= .slice (some ⟨Q,0,none⟩) O L:=by
        rcases hO2.shape with⟨_,h⟩ | h
        · exact absurd h (by simp)
        · exact h
      have z:=(p.alloc (.cells #[.string H,.string R] 30)).kept hg2 (bC! (p.alloc _) (by decide) (j.below ((Below.refl _ _).alloc (n0! _) (.cells #[.string H,.string R] 30))));have a5:=z.cell;have a6:=z.frozen))
   | gi_in)
  have a0:KeepsFrom 0 W (W.alloc (.cells #[.string H,.string R] 30)):=(KeepsOthers.alloc _ _).from _;have a3:=a0.trans (hc! (j.below ((Below.refl _ _).alloc (n0! _) (.cells #[.string H,.string R] 30))) hg2 0);have B:KeepsFrom 0 W (w2.setCell ⟨w.heap.size,0,none⟩ (.slice (some ⟨Q,0,none⟩) O L)):=a3.trans ((KeepsOthers.setCell _ _ _).from _);refine⟨jE! B _,hY! B,⟨⟨_,z.set _,?_,fun g hg=>?_⟩,?_,s.trans B⟩⟩
  ·have:=hO2.keepOwn (w':=w2.setCell ⟨w.heap.size,0,none⟩ (.slice (some ⟨Q,0,none⟩) O L)) (fun g hg=>Below.heap_setCell _ _ _ g (fun e=>bC! z (by decide) hO2 (by rw[hg,e])));rw[<-y6!,aP! (l++f),ji!];exact this
  ·rcases hG2 g hg with h | h
   ·exact y g h
   ·exact .inr (by have:=d.size;simp at h;omega)
  ·have a4:Kept (fun b=>b<w.heap.size/\(Value.slice M k c).ownBlock≠some b) (W.alloc (.cells #[.string H,.string R] 30)) w2:=⟨hg2.os,hg2.tape,hg2.output,hg2.size,fun b hb=>hg2.block b (by have:=d.size;have:=hb.1;simp;omega) (fun e=>by
    rcases y b e.symm with h | h
    ·exact hb.2 h
    ·have:=hb.1;omega)⟩
   exact((d.alloc (fun b hb=>n1! hb.1 d.size) _).trans a4).set (a:=⟨w.heap.size,0,none⟩) (fun h=>Nat.lt_irrefl _ h.1) _
 case done =>
  rintro D ys W hD hS ⟨⟨v',p,j,_⟩,d,s⟩ J;have cS:=p.cell
  obtain⟨a7,k',c',rfl⟩:∃M k c,v' = .slice M k c:=by
   rcases j.shape with⟨rfl,_⟩|⟨g,n,c,rfl⟩
   ·exact⟨_,_,_,rfl⟩
   ·exact⟨_,_,_,rfl⟩
  gi_wp2
  refine⟨by simp,.inl ⟨_,_,rfl,run_takeDeferred J,?_⟩⟩;refine⟨_,results_tmp rfl _ _ _,_,ys,rfl,hS,j.put _ J rfl,⟨d.os,d.tape,d.output,by have:=d.size;simpa using this,fun b hb=>(World.putObj_heap_other (fun e=>by have:=hb.1;omega)).trans (d.block b hb)⟩,?_⟩;exact⟨by have:=s.size;simpa using this,fun k o _ hk ho=>(World.putObj_heap_other (fun e=>by have:=(x7!.1 hk).1;omega)).trans (s.same k o (v1! _) hk ho)⟩
 case stop =>
  rintro D c f W _ _ h _;exact h.elim
theorem lA! (F:Fence)(n:Nat)(hf:F.fn 227)(hro:F.round=none)(hn:1<=n)(Bm:Nat)(mb:Option Nat)(m:List (O2 × Bool))(w:World)(hBm:Bm<w.heap.size)(hm:w.cell? ⟨Bm,0,none⟩=some (.map mb))
  (hM:MpO prog 30 oV bV w mb m) :
  SeqStopsK F n prog 227 #[.pointer (some ⟨Bm,0,none⟩)] (fun x=>#[oV x]) KeepsWalks (fun ss=>ss.Perm (m.map (·.1))) (fun _=>True) m.length w:=by
 cases mb with
 | none =>
  obtain rfl:m=[]:=hM;have h:=lB! F n hf hro Bm w hBm hm;rwa[show(fun ss:List O2=>ss=[])=(fun ss=>ss.Perm (([]:List (O2 × Bool)).map (·.1)))from funext fun ss=>propext List.perm_nil.symm]at h
 | some b=>exact hV! F n hf hro hn Bm b m w hBm hm hM
theorem lC! (mb:Option Nat)(w:World):Calls prog 181 #[.map mb] w fun e w'=>e= .returned (.func (.func 227) #[] #[.pointer (some ⟨w.heap.size,0,none⟩)])/\w'=w.alloc (.cells #[.map mb] 210) :=
 callsIn_wide.1 (nJ! Fence.wide 1 trivial rfl mb w)
theorem oj! (w:World)(B0:Nat)(hB0:B0<=w.heap.size)(v:Value)(l:List O2)(Bm:Nat)(mb:Option Nat)(m:List (O2 × Bool))(hN:l.length+m.length<=549755813888)(hown:Own w B0 30 2 v (ocs l))(hBm:Bm<w.heap.size)(hm:w.cell? ⟨Bm,0,none⟩=some (.map mb))(hM:MpO prog 30 oV bV w mb m) :
  Calls prog 228 #[v,.func (.func 227) #[] #[.pointer (some ⟨Bm,0,none⟩)]] w fun e w'=>∃(v':Value) (ss:List O2),e= .returned v'/\ss.Perm (m.map (·.1))/\Own w' B0 30 2 v' (ocs (l++ss))/\Kept (fun b=>b<w.heap.size/\v.ownBlock≠some b) w w'/\KeepsFrom 0 w w' :=
 callsIn_wide.1 (mR! Fence.wide 3 trivial rfl (by omega) 227 _ trivial (enters_of func227 (by kernel_rfl) rfl) _ _ m.length w B0 hB0 v l hN hown (lA! Fence.wide 2 trivial rfl (by omega) Bm mb m w hBm hm hM))
theorem gu! (w:World)(Bm:Nat)(mb:Option Nat)(m:List (O2 × Bool))(hN:m.length<=549755813888)(hBm:Bm<w.heap.size)(hm:w.cell? ⟨Bm,0,none⟩=some (.map mb))(hM:MpO prog 30 oV bV w mb m) :
  Calls prog 184 #[.func (.func 227) #[] #[.pointer (some ⟨Bm,0,none⟩)]] w fun e w'=>∃(v':Value) (ss:List O2),e= .returned v'/\ss.Perm (m.map (·.1))/\Own w' w.heap.size 30 2 v' (ocs ss)/\Below w.heap.size w w':=by
 have HP:=h! (oj! w w.heap.size (n0! _) (.slice none 0 0) [] Bm mb m (by simpa using hN) (Own.nil w _ _ _) hBm hm hM);clear hM hm;go_enter func184,ntmps184
 go_wp2_with fail
 refine HP.out.mono ?_;rintro e w1 ⟨v,ss,rfl,hp,ho,hk,_⟩;go_wp2
 go_ret
 exact⟨v,ss,rfl,hp,ho,hk.below fun b hb=>⟨hb,by simp[Value.ownBlock]⟩⟩
theorem kY! {w:World}{B:Nat}{v:Value}{l:List O2}(h:Own w B 30 2 v (ocs l))(hl:l.length<4611686018427387904)(_hn:l.Nodup) :
  Calls prog 185 #[v,.func (.func 182) #[] #[]] w fun e w'=>e= .returned (.tuple #[])/\∃l':List O2,l'.Perm l/\SrtI l'/\Own w' B 30 2 v (ocs l')/\Kept (fun b=>b<w.heap.size/\v.ownBlock≠some b) w w':=by
 refine Calls.mono (fV! Tryz.sortO oC 2 aC! (by decide) nw! Tryz.isAgg30 Tryz.sizeOf30 cmpI swoI 182 #[] (enters_of func182 (by kernel_rfl) rfl) (fun W x y=>je! x y W) h hl) ?_;rintro e w' ⟨rfl,l',hp,hs,ho,hk⟩;exact⟨rfl,l',hp,hs,ho,hk⟩
theorem hF! (w:World)(Bm:Nat)(mb:Option Nat)(m:List (O2 × Bool))(hN:m.length<=549755813888)(hBm:Bm<w.heap.size)(hm:w.cell? ⟨Bm,0,none⟩=some (.map mb))(hM:MpO prog 30 oV bV w mb m) :
  Calls prog 121 #[.func (.func 227) #[] #[.pointer (some ⟨Bm,0,none⟩)],.func (.func 182) #[] #[]] w fun e w'=>∃(v':Value) (ss:List O2),e= .returned v'/\ss.Perm (m.map (·.1))/\SrtI ss/\Own w' w.heap.size 30 2 v' (ocs ss)/\Below w.heap.size w w':=by
 have HN:=h! hM.nodup;have HP:=h! (gu! w Bm mb m hN hBm hm hM);clear hM hm;go_enter func121,ntmps121
 go_wp2_with fail
 refine HP.out.mono ?_;rintro e w1 ⟨v,ss,rfl,hp,ho,hb⟩;have a3:=h! (kY! ho (by have:=hp.length_eq;simp at this;omega) (hp.nodup_iff.2 HN.out));go_wp2_with fail
 refine a3.out.mono ?_;rintro e w2 ⟨rfl,l',a2,hu,a0,a1⟩;go_wp2
 go_ret
 exact⟨v,l',rfl,a2.trans hp,hu,a0,hb.trans (a1.below fun b hb'=>⟨n1! hb' hb.size,fun e=>by have:=(ho.block b e).1;omega⟩)⟩
theorem hW! (F:Fence)(n:Nat)(h60:F.fn 186)(hro:F.round=none)(hn:1<=n)(Bm b:Nat)(m:List (O2 × Bool))(w:World)(hBm:Bm<w.heap.size)
  (hm:w.cell? ⟨Bm,0,none⟩=some (.map (some b))) (hM:Mp prog 30 oV (fun x => .bool x) w b m) :
  SeqStopsK F n prog 186 #[.pointer (some ⟨Bm,0,none⟩)] (fun x=>#[oV x]) KeepsWalks (fun ss=>ss.Perm (m.map (·.1))) (fun _=>True) m.length w:=fun l J Jx W hW hJ hJx hY h0=>by
 have hMW:=hM.below hW;have hmW:=(hW.cell (p:=⟨Bm,0,none⟩) hBm).trans hm;clear hM hm hW;refine callsIn_of_wp func186 rfl h60 ?_ hro;simp only[ntmps186,List.size_toArray,u7!,v6!,Nat.reduceAdd,Nat.reduceSub,Array.replicate_succ,Array.replicate_zero,List.push_toArray,List.append_toArray,y2!,x2!]
 gi_wp2_with (first
  | (gi_at_range;refine bF! _ rfl _ 157 rfl Tryz.underlying157 rfl hMW ?_;intro w0 hrg0 hb0 hs0)
  | gi_in)
 try go_frame
 gi_loopw [3] (fun _ wr=>∃(rem:List (O2 × Bool)) (ss:List O2),Rng prog 30 oV (fun x => .bool x) wr b W.heap.size m rem/\(ss++rem.map (·.1)).Perm (m.map (·.1))/\J ss wr)
  (fun _ wr=>wr.rangeLeft b W.heap.size)
 case atStart=>exact⟨m,[],hrg0,List.Perm.refl _,hJ [] W w0 none h0 (dl! hb0) (fun r e=>by cases e)⟩
 case round =>
  obtain⟨rem,ss,hrg,hp,hJs⟩:=hrel;have hlen:ss.length+rem.length=m.length:=by have:=hp.length_eq;simpa using this
  have o:∀k (p:O2 × Bool) d,rem=k++p::d->ss.length<m.length:=fun k p d e=>by
   have:=congrArg List.length e;simp at this;omega
  gi_wp2_with (first
   | (gi_at_next;refine bH! _ rfl _ rfl rfl hrg ?_ ?_;rotate_left;(rintro k ⟨⟨y,A⟩,c⟩ d v a j u a1 a4;have g:=h! a;have s:J ss v:=hJ ss wr v (some W.heap.size) hJs u.grown (fun r e=>by cases e;exact⟨n0! _,hrg.walk⟩);have t:J ss (v.alloc (.cells #[.string y,.string A] 30)):=hJ ss v _ none s (dl! ((Below.refl _ _).alloc (n0! _) _)) (fun r e=>by cases e);obtain⟨fn,a3,q,a0,hy,hR⟩:=hY ss ⟨y,A⟩ _ t (o _ _ _ a);have HR:=h! hR;have a2:=h! j;clear hR j t s a a1 o u;dsimp only[oV]at hy a4);rotate_left;(intro a;have i:=h! a;clear a o))
   | gi_in)
  ·go_end0
   refine⟨⟨_,rfl⟩,.inl ⟨ss,?_,hJs⟩⟩;have z:=hp;rw[i.out]at z;simpa using z
  ·refine HR.out.mono ?_;rintro e W3 (⟨rfl,hJ4,hk3⟩|⟨rfl,hJ4⟩);rotate_left
   ·gi_wp2
    exact bodyPost_ret (results_none rfl _ _ _) rfl ⟨⟨_,rfl⟩,.inr ⟨_,trivial,hJ4⟩⟩
   have f:=(a2.out.below ((Below.refl _ _).alloc (n0! _) (.cells #[.string y,.string A] 30))).walks hk3;gi_wp2
   go_roundw
   case rel =>
    refine⟨k++d,ss++[⟨y,A⟩],f,?_,hJ4⟩;have z:=hp;rw[g.out]at z;refine List.Perm.trans ?_ z;simp only[v9!,v8!,y6!,List.singleton_append];exact List.Perm.append_left ss List.perm_middle.symm
   case measure=>rw[f.left_eq,hrg.left_eq,g.out];simp
theorem nK! (F:Fence)(n:Nat)(h46:F.fn 122)(hro:F.round=none)(mb:Option Nat)(w:World) :
  CallsIn F n prog 122 #[.map mb] w fun e w'=>e= .returned (.func (.func 186) #[] #[.pointer (some ⟨w.heap.size,0,none⟩)])/\w'=w.alloc (.cells #[.map mb] 157):=by
 have a0:∀(fn:Fn) (first cap:Array Value) (w:World),(Instr.makeFunc fn first cap).run prog w= .ok (.func fn first cap) w:=fun _ _ _ _=>rfl;refine callsIn_of_wp func122 rfl h46 ?_ hro;simp only[ntmps122,List.size_toArray,u7!,v6!,Nat.reduceAdd,Nat.reduceSub,Array.replicate_succ,Array.replicate_zero,List.push_toArray,List.append_toArray,y2!,x2!];gi_wp2
 go_ret
 exact⟨rfl,rfl⟩
theorem lE! (F:Fence)(n:Nat)(hf:F.fn 186)(hro:F.round=none)(Bm:Nat)(w:World)(hBm:Bm<w.heap.size)(hm:w.cell? ⟨Bm,0,none⟩=some (.map none)) :
  SeqStopsK F n prog 186 #[.pointer (some ⟨Bm,0,none⟩)] (fun x:O2=>#[oV x]) KeepsWalks (fun ss:List O2=>ss=[]) (fun _=>True) 0 w:=fun l J Jx W hW hJ _ _ h0=>by
 have hmW:=(hW.cell (p:=⟨Bm,0,none⟩) hBm).trans hm;clear hm hW;refine callsIn_of_wp func186 rfl hf ?_ hro;simp only[ntmps186,List.size_toArray,u7!,v6!,Nat.reduceAdd,Nat.reduceSub,Array.replicate_succ,Array.replicate_zero,List.push_toArray,List.append_toArray,y2!,x2!];have hrg:=run_range_nilMap (P:=prog) W 157 30 4 Tryz.underlying157;have hnx:∀ty,(Instr.next (.pointer (some ⟨W.heap.size,0,none⟩)) false ty).run prog (W.alloc (.mapIter none 0 #[] 0))=_:=fun ty=>run_next_nilMap _ ty 0 0 #[];gi_wp2
 refine wpIn_loop_rounds 1 ?_;rw[roundsIn_succ];gi_wp2
 go_end0
 exact⟨⟨_,rfl⟩,.inl ⟨[],rfl,hJ [] W _ none h0 (World.grownBy_alloc W _ none) (fun r e=>by cases e)⟩⟩
theorem lD! (F:Fence)(n:Nat)(hf:F.fn 186)(hro:F.round=none)(hn:1<=n)(Bm:Nat)(mb:Option Nat)(m:List (O2 × Bool))(w:World)(hBm:Bm<w.heap.size)(hm:w.cell? ⟨Bm,0,none⟩=some (.map mb))
  (hM:MpO prog 30 oV bV w mb m) :
  SeqStopsK F n prog 186 #[.pointer (some ⟨Bm,0,none⟩)] (fun x=>#[oV x]) KeepsWalks (fun ss=>ss.Perm (m.map (·.1))) (fun _=>True) m.length w:=by
 cases mb with
 | none =>
  obtain rfl:m=[]:=hM;have h:=lE! F n hf hro Bm w hBm hm;rwa[show(fun ss:List O2=>ss=[])=(fun ss=>ss.Perm (([]:List (O2 × Bool)).map (·.1)))from funext fun ss=>propext List.perm_nil.symm]at h
 | some b=>exact hW! F n hf hro hn Bm b m w hBm hm hM
theorem lF! (mb:Option Nat)(w:World):Calls prog 122 #[.map mb] w fun e w'=>e= .returned (.func (.func 186) #[] #[.pointer (some ⟨w.heap.size,0,none⟩)])/\w'=w.alloc (.cells #[.map mb] 157) :=
 callsIn_wide.1 (nK! Fence.wide 1 trivial rfl mb w)
theorem ok! (w:World)(B0:Nat)(hB0:B0<=w.heap.size)(v:Value)(l:List O2)(Bm:Nat)(mb:Option Nat)(m:List (O2 × Bool))(hN:l.length+m.length<=549755813888)(hown:Own w B0 30 2 v (ocs l))(hBm:Bm<w.heap.size)(hm:w.cell? ⟨Bm,0,none⟩=some (.map mb))(hM:MpO prog 30 oV bV w mb m) :
  Calls prog 228 #[v,.func (.func 186) #[] #[.pointer (some ⟨Bm,0,none⟩)]] w fun e w'=>∃(v':Value) (ss:List O2),e= .returned v'/\ss.Perm (m.map (·.1))/\Own w' B0 30 2 v' (ocs (l++ss))/\Kept (fun b=>b<w.heap.size/\v.ownBlock≠some b) w w'/\KeepsFrom 0 w w' :=
 callsIn_wide.1 (mR! Fence.wide 3 trivial rfl (by omega) 186 _ trivial (enters_of func186 (by kernel_rfl) rfl) _ _ m.length w B0 hB0 v l hN hown (lD! Fence.wide 2 trivial rfl (by omega) Bm mb m w hBm hm hM))
theorem gw! (w:World)(Bm:Nat)(mb:Option Nat)(m:List (O2 × Bool))(hN:m.length<=549755813888)(hBm:Bm<w.heap.size)(hm:w.cell? ⟨Bm,0,none⟩=some (.map mb))(hM:MpO prog 30 oV bV w mb m) :
  Calls prog 184 #[.func (.func 186) #[] #[.pointer (some ⟨Bm,0,none⟩)]] w fun e w'=>∃(v':Value) (ss:List O2),e= .returned v'/\ss.Perm (m.map (·.1))/\Own w' w.heap.size 30 2 v' (ocs ss)/\Below w.heap.size w w':=by
 have HP:=h! (ok! w w.heap.size (n0! _) (.slice none 0 0) [] Bm mb m (by simpa using hN) (Own.nil w _ _ _) hBm hm hM);clear hM hm;go_enter func184,ntmps184
 go_wp2_with fail
 refine HP.out.mono ?_;rintro e w1 ⟨v,ss,rfl,hp,ho,hk,_⟩;go_wp2
 go_ret
 exact⟨v,ss,rfl,hp,ho,hk.below fun b hb=>⟨hb,by simp[Value.ownBlock]⟩⟩
theorem la! {w:World}{B:Nat}{v:Value}{l:List O2}(h:Own w B 30 2 v (ocs l))(hl:l.length<4611686018427387904)(hn:l.Nodup) :
  Calls prog 185 #[v,.func (.func 123) #[] #[]] w fun e w'=>e= .returned (.tuple #[])/\∃l':List O2,l'.Perm l/\UpO l'/\Own w' B 30 2 v (ocs l')/\Kept (fun b=>b<w.heap.size/\v.ownBlock≠some b) w w':=by
 refine Calls.mono (fV! Tryz.sortO oC 2 aC! (by decide) nw! Tryz.isAgg30 Tryz.sizeOf30 cmpO swoO 123 #[] (enters_of func123 (by kernel_rfl) rfl) (fun W x y=>jf! x y W) h hl) ?_;rintro e w' ⟨rfl,l',hp,hs,ho,hk⟩;exact⟨rfl,l',hp,it! hs (hp.nodup_iff.2 hn),ho,hk⟩
theorem hI! (w:World)(Bm:Nat)(mb:Option Nat)(m:List (O2 × Bool))(hN:m.length<=549755813888)(hBm:Bm<w.heap.size)(hm:w.cell? ⟨Bm,0,none⟩=some (.map mb))(hM:MpO prog 30 oV bV w mb m) :
  Calls prog 121 #[.func (.func 186) #[] #[.pointer (some ⟨Bm,0,none⟩)],.func (.func 123) #[] #[]] w fun e w'=>∃(v':Value) (ss:List O2),e= .returned v'/\ss.Perm (m.map (·.1))/\UpO ss/\Own w' w.heap.size 30 2 v' (ocs ss)/\Below w.heap.size w w':=by
 have HN:=h! hM.nodup;have HP:=h! (gw! w Bm mb m hN hBm hm hM);clear hM hm;go_enter func121,ntmps121
 go_wp2_with fail
 refine HP.out.mono ?_;rintro e w1 ⟨v,ss,rfl,hp,ho,hb⟩;have a3:=h! (la! ho (by have:=hp.length_eq;simp at this;omega) (hp.nodup_iff.2 HN.out));go_wp2_with fail
 refine a3.out.mono ?_;rintro e w2 ⟨rfl,l',a2,hu,a0,a1⟩;go_wp2
 go_ret
 exact⟨v,l',rfl,a2.trans hp,hu,a0,hb.trans (a1.below fun b hb'=>⟨n1! hb' hb.size,fun e=>by have:=(ho.block b e).1;omega⟩)⟩
theorem hH! (b:Nat)(A:List O2)(w:World)(h:OS w b A)(hl:A.length<=549755813888) :
  Calls prog 119 #[.map (some b)] w fun e w'=>∃v ss,e= .returned v/\ss.Perm A/\SrtI ss/\Own w' w.heap.size 30 2 v (ocs ss)/\Below w.heap.size w w':=by
 have HK:=h! (lC! (some b) w);have x1:=Ext.alloc w (.cells #[.map (some b)] 210);have a:=Blk.made w #[.map (some b)] 210;have HS:=h! (hF! (w.alloc (.cells #[.map (some b)] 210)) w.heap.size (some b) (blG A) (by simpa [blG] using hl) a.lt (a.cells 0) (h.below x1));have X1:=h! x1;clear x1 a h hl;go_enter func119,ntmps119
 go_wp2_with fail
 refine HK.out.mono ?_;rintro e w1 ⟨rfl,rfl⟩;go_wp2_with fail
 refine HS.out.mono ?_;rintro e w2 ⟨v,ss,rfl,hp,hs,ho,hb⟩;rw[da!]at hp;have HO:=h! ho;have a:=h! hb;clear ho hb HS HK;go_wp2_with fail
 go_ret
 exact⟨v,ss,rfl,hp,hs,HO.out.base X1.out.size,Below.trans X1.out (a.out.mono X1.out.size)⟩
theorem gR! {T:List Tup}{l:List O2}(hn:l.Nodup)(h:∀o∈l,ObjIn T o):l.length<=2*T.length:=by
 have h1:=bj! (u:=T.flatMap fun t => [t.o.obj,t.s.obj]) hn fun o ho=>by
  obtain⟨t,ht,h⟩:=h o ho;refine List.mem_flatMap.2 ⟨t,ht,?_⟩;rcases h with h | h
  ·rw[<-h];simp
  ·rw[<-h];simp
 have h2:∀T:List Tup,(T.flatMap fun t => [t.o.obj,t.s.obj]).length=2*T.length:=fun T=>by
  induction T with
  | nil=>rfl
  | cons t T ih=>rw[y5!,u4!,ih];simp;omega
 rw[h2]at h1;exact h1
theorem gA! (b:Nat)(T:List Tup)(typ:ByteArray)(w:World)(ht:typ.size<=maxLen)(h:pP! w b T)(hl:T.length<=1000000) :
  Calls prog 65 #[.pointer (some ⟨b,0,none⟩),.string typ] w fun e w'=>∃v l,e= .returned (.tuple #[v,.int .i64 0])/\Own w' w.heap.size 30 2 v (ocs l)/\UpO l/\(∀o,o∈l↔o.t=typ/\ObjIn T o)/\Ext w w':=by
 obtain⟨B,m1,m2,m3,l,h⟩:=h;have a:=h.objs.inn typ;have HW:=h! (h.what typ)
 have d:(innG l typ).length<=549755813888:=by
  have h1:=MpO.nodup a;rw[da!]at h1;have:=gR! (T:=T) h1 fun o f=>((h.what typ o).1 f).2;omega
 have a0:=h.objs.look strK bw! Tryz.underlying147 (Tryz.zeroValue157 w) (cp! typ ht);have a1:=h.box.cells;generalize mOG l typ=mb at *;generalize innG l typ=A at *;have x1:=Ext.alloc w (.cells #[.map mb] 157);have g:=Blk.made w #[.map mb] 157;have HK:=h! (lF! mb w);have HS:=h! (hI! (w.alloc (.cells #[.map mb] 157)) w.heap.size mb (blG A) (by simpa [blG] using d) g.lt (g.cells 0) (a.below x1));have X1:=h! x1;clear x1 g a d h;go_enter func65,ntmps65
 go_wp2_with fail
 refine HK.out.mono ?_;rintro e w1 ⟨rfl,rfl⟩;go_wp2_with fail
 refine HS.out.mono ?_;rintro e w2 ⟨v,ss,rfl,hp,hs,f,hb⟩;rw[da!]at hp;have HO:=h! f;have g:=h! hb;have HP:=h! hp;obtain⟨ao,n,c,rfl,-⟩:=f.sl.len;clear f hb HS HK a0 a1 hp;go_wp2_with fail
 go_ret2
 exact⟨_,ss,rfl,HO.out.base X1.out.size,hs,fun o=>by rw[HP.out.mem_iff];exact HW.out o,Below.trans X1.out (g.out.mono X1.out.size)⟩
theorem pS!.ths {T:List Tup}{P:List P3}{p s:P3}(r:RT):∀f,pS! T P p r f->s∈f.ths->∃t∈T,t.s=s:=by
 induction r using RT.ind with
 | h r ih =>
  intro f hf b;rw[fa!]at hf;obtain⟨h1,h2,-,h4⟩:=hf;obtain⟨h5,h6⟩:=dQ! h4;rw[FT.ths_eq,u3!]at b;rcases b with b | b
  ·split at b
   ·next e =>
    rw[h2,if_pos (h1▸e)]at b;obtain⟨t,ht,-,rfl⟩:=fm!.1 b;exact⟨t,ht,rfl⟩
   ·cases b
  ·obtain⟨g,hg,b⟩:=bv!.1 b;obtain⟨i,hi,rfl⟩:=u0! hg;have a:i<r.ps.length:=by omega
   obtain⟨g,h7,h8⟩:=h6 i _ (n4! a);rw[n4! hi]at h7;cases h7;exact ih _ (n5! a) _ h8 b
theorem qa!.forms {ts:List TyS}{T:List Tup}{shut:List R2}{p:P3}{most:Int}{n:Nat}(h:qa! ts T shut p most n)(ht:∀x∈ac! ts,x.2.textOk 0=true):∀f∈(walkN ts T shut p n).2,f.full/\∀s∈f.ths,∃t∈T,t.s=s:=by
 intro f hf;obtain⟨i,hi,rfl⟩:=u0! hf;have a0:i<n:=by rw[aF!]at hi;exact hi
 obtain⟨q,f,-,h2,h3⟩:=h.formOf a0;rw[n4! hi]at h2;cases h2;rcases h3 with⟨-,e⟩|⟨r,hr,hf⟩
 ·rw[e]
  exact⟨by rw[FT.full_eq];exact⟨fun e=>absurd e (by decide),fun g hg=>by cases hg⟩,fun s hs=>by
   rw[FT.ths_eq,if_neg (show ¬ FT.zero.k=1 by decide)]at hs;cases hs⟩
 ·have hk:=fun q hq=>(iC! r 0 (ht _ (iO! hr)) q hq).2;exact⟨pS!.full r _ hk hf,fun s hs=>pS!.ths r _ hf hs⟩
theorem jP! {ts:List TyS}{T:List Tup}{shut:List R2}{p s:P3}{most:Int}{n i:Nat}(h:qa! ts T shut p most n)(ht:∀x∈ac! ts,x.2.textOk 0=true)(hi:i<n)(hs:0<(aR! (walkN ts T shut p n).2 s n).getD i 0):∃f∈(walkN ts T shut p n).2,s∈f.ths:=by
 by_cases hc:∃f∈(walkN ts T shut p n).2,s∈f.ths
 ·exact hc
 ·have h1:=cJ! (n:=n) (fun f hf=>(h.forms ht f hf).1) (fun f hf hm=>hc ⟨f,hf,hm⟩) n i;have h2:=(ge! (fs:=(walkN ts T shut p n).2) (s:=s) n hi).2.2;rw[(kj! (walkN ts T shut p n).2 s n).solve]at h2;rw[h2.2 hs]at h1;cases h1
theorem dU! {S:Nat->Prop}{w:World}{v:Value}{l:List Bool}(h:Sl S w 1 v (boC l)):∃ao c,v= .slice ao l.length c/\l.length<=c/\c<=9223372036854775807/\∀i (hi:i<l.length),∃b off,ao=some ⟨b,off,none⟩/\S b/\w.cell? ⟨b,off+i,none⟩=some (.bool l[i]):=by
 obtain⟨ao,n,c,rfl,h1,h2,h3,h4,h5⟩:=h;rw[aX!,Nat.mul_one]at h1;subst h1;refine⟨ao,c,rfl,h2,by have e:maxLen=9223372036854775807:=rfl;omega,fun i hi=>?_⟩;obtain⟨b,off,rfl,hb,hc⟩:=h5 (fun e=>by have:=congrArg List.length e;rw[aX!]at this;simp only[v6!]at this;omega);exact⟨b,off,rfl,hb,hc i _ (by simp[boC,hi])⟩
theorem ky! {α:Type}(f:α->Bool) {l:List α}{i:Nat}(h:i<l.length):(l.take (i+1)).any f=((l.take i).any f||f l[i]):=by
 rw[n2! h,List.any_append];simp
def cntH (f:FT->Bool)(l:List FT):Nat:=(l.filter f).length
theorem md! (f:FT->Bool) {l:List FT}{i:Nat}(h:i<l.length):cntH f (l.take (i+1))=cntH f (l.take i)+if f l[i]=true then 1 else 0:=by
 unfold cntH;rw[n2! h,List.filter_append,u4!];by_cases e:f l[i]=true <;> simp[e]
theorem pq! (f:FT->Bool)(l:List FT):cntH f l<=l.length:=x8! _ _
theorem oe! (f:FT->Bool)(l:List FT):l.any f=decide (0<cntH f l):=by
 rw[Bool.eq_iff_iff,x5!,u1!];unfold cntH;rw[List.length_pos_iff_exists_mem];simp only[List.mem_filter]
theorem of! (f:FT->Bool)(l:List FT):l.all f=decide (cntH f l=l.length):=by
 rw[Bool.eq_iff_iff,u8!,u1!];unfold cntH;rw[List.length_filter_eq_length_iff]
theorem jU! (s:P3)(bs:List Bool)(r:FT):∀(iv:Value)(v:FV3)(w:World),FTAt (· < w.heap.size) w r v->Sl (· < w.heap.size) w 1 iv (boC bs) ->
  Calls prog 142 #[fV r v,pV s,iv] w fun e w'=>e= .returned (.bool (holdF s bs r))/\Ext w w':=by
 induction r using FT.ind with
 | h r ih =>
 intro iv v w h hi;obtain⟨T,V,a2,c2,a4,c4,rfl⟩:=h.shape;obtain⟨ai,ci,rfl,a6,a9,-⟩:=dU! hi;obtain⟨k,subs,refs,parts⟩:=r;have H:=h! ih;have H1:=h! h;have H2:=h! hi;clear ih h hi a6 a9;unfold fV pV;dsimp only[FT.k,FT.subs,FT.refs,FT.ps]at H H1 ⊢;obtain⟨X,E⟩:=e! (w.alloc (.cells #[.int .i64 k,.slice T subs.length V,.slice a2 refs.length c2,.slice a4 parts.length c4] 128));obtain⟨wb,F⟩:=e! (X.alloc (.cells #[.string s.t,.string s.i,.string s.r] 33));have ea:X.heap.size=w.heap.size+1:=by rw[E];simp
 have xa:Ext w X:=xa! E
 have xb:Ext X wb:=xa! F
 have XB:=h! (xa.trans xb);have BA:=h! (show Blk wb w.heap.size #[.int .i64 k,.slice T subs.length V,.slice a2 refs.length c2,.slice a4 parts.length c4] 128 from Blk.below (bm! E) xb);have BB:=h! (show Blk wb (w.heap.size+1) #[.string s.t,.string s.i,.string s.r] 33 from by rw[F,<-ea];exact Blk.made _ _ _);have F1:=h! (fun W (hW:Ext w W)=>(FTAt.iff _ _).1 (H1.out.up hW));have FI:=h! (fun W (hW:Ext w W)=>show Sl (· < W.heap.size) W 1 (.slice ai bs.length ci) (boC bs)from(H2.out.same (Same.below hW)).mono fun _ h=>n1! h hW.size);clear ea xa xb H2;subst F E;have hA:=BA.out.cells;go_enter func142,ntmps142
 go_wp2_with fail
 clear hA;obtain⟨w2,I⟩:=e! ((w.alloc (.cells #[.int .i64 k,.slice T subs.length V,.slice a2 refs.length c2,.slice a4 parts.length c4] 128)).alloc (.cells #[.string s.t,.string s.i,.string s.r] 33));rw[<-I]at BA BB XB ⊢;clear I;go_loopw [7,18] (fun bv iv wr=>∃i:Nat,i<=refs.length/\iv= .int .i64 i/\bv= .bool ((refs.take i).any (inAt bs))/\Ext w2 wr) (fun _ iv _=>refs.length-(intOf iv).toNat)
 case atStart=>exact⟨0,v1! _,rfl,rfl,Ext.refl _⟩
 case round =>
  obtain⟨i,hi,rfl,rfl,Q⟩:=hrel;have Z:=h! Q;clear Q;by_cases hlt:i<refs.length
  ·have d:=h! hlt;have g:=h! (ky! (inAt bs) hlt);obtain⟨p1,q1,rfl,D,a3⟩:=Sl.int_at (F1.out wr (XB.out.trans Z.out)).2.1 hlt;dsimp only[FT.refs]at a3;have M:(i:Int)<(refs.length:Int):=by omega
   have a:=h! (show wrap64 ((i:Int)+1)=((i+1:Nat):Int)from by
    obtain⟨_,n,c,he,h1,h2,h3⟩:=(F1.out wr (XB.out.trans Z.out)).2.1.len;cases he;unfold wrap64;omega)
   have A:=h! (show ∀j (hj:j<bs.length),∃b o,ai=some ⟨b,o,none⟩/\wr.cell? ⟨b,o+j,none⟩=some (.bool bs[j])from fun j hj=>by
    obtain⟨ao,c,he,-,-,hc⟩:=dU! (FI.out wr (XB.out.trans Z.out));obtain⟨b,o,rfl,-,hc⟩:=hc j hj;cases he;exact⟨b,o,rfl,hc⟩)
   generalize refs[i]=x at *;cases hb:(refs.take i).any (inAt bs) with
   | true =>
    have HB:=h! hb;clear hlt D hb;go_wp2_with fail
    go_roundw
    case rel=>exact⟨i+1,d.out,by first | rw[a.out] | go_num,by rw[g.out,HB.out];rfl,Z.out⟩
    case measure=>have:=d.out;(try rw[a.out]);simp[intOf];omega
   | false =>
    have HB:=h! hb;clear hlt D hb;by_cases h0:0<=x
    ·obtain⟨m,rfl⟩:=Int.eq_ofNat_of_zero_le h0;by_cases hm:m<bs.length
     ·obtain⟨bb,bo,rfl,z⟩:=A.out m hm
      have HV:=h! (show inAt bs (m:Int)=bs[m]from by
       unfold inAt;rw[Int.toNat_natCast,n8!,n4! hm];simp)
      have a5:(m:Int)<(bs.length:Int):=by omega
      generalize bs[m]=y at *;clear hm A;cases y
      all_goals
       go_wp2_with fail
       go_roundw
       case rel=>exact⟨i+1,d.out,by first | rw[a.out] | go_num,by rw[g.out,HB.out,HV.out];rfl,Z.out⟩
       case measure=>have:=d.out;(try rw[a.out]);simp[intOf];omega
     ·have a5:¬ (m:Int)<(bs.length:Int):=by omega
      have HV:=h! (show inAt bs (m:Int)=false from by
       unfold inAt;rw[Int.toNat_natCast,n8!,y0! (by omega)];simp)
      clear hm A;go_wp2_with fail
      go_roundw
      case rel=>exact⟨i+1,d.out,by first | rw[a.out] | go_num,by rw[g.out,HB.out,HV.out];rfl,Z.out⟩
      case measure=>have:=d.out;(try rw[a.out]);simp[intOf];omega
    ·have HV:=h! (show inAt bs x=false from by unfold inAt;simp[h0]);clear A;go_wp2_with fail
     go_roundw
     case rel=>exact⟨i+1,d.out,by first | rw[a.out] | go_num,by rw[g.out,HB.out,HV.out];rfl,Z.out⟩
     case measure=>have:=d.out;(try rw[a.out]);simp[intOf];omega
  ·obtain rfl:i=refs.length:=by omega
   rw[u2!];have l:=h! (bK! s bs k subs refs parts);have U:=h! (BA.out.below Z.out);have RB:=h! (BB.out.below Z.out);have XR:=h! (XB.out.trans Z.out);generalize refs.any (inAt bs)=bv at *;clear hlt hi BA BB XB Z;have hA:=U.out.cells;by_cases k1:k=1
   ·subst k1;rw[if_pos rfl]at l;go_wp2_with fail
    clear hA;obtain⟨Y,p⟩:=e! wr;rw[<-p]at U RB XR ⊢;clear p;go_loopw [7,47] (fun cv iv wr=>∃i:Nat,i<=subs.length/\iv= .int .i64 i/\cv= .bool (bv||(subs.take i).any (fun x=>decide (x=s)))/\Ext Y wr) (fun _ iv _=>subs.length-(intOf iv).toNat)
    case atStart=>exact⟨0,v1! _,rfl,by simp,Ext.refl _⟩
    case round =>
     obtain⟨i,hi,rfl,rfl,Q⟩:=hrel;have Z:=h! Q;clear Q;by_cases hlt:i<subs.length
     ·have d:=h! hlt;have g:=h! (ky! (fun x=>decide (x=s)) hlt);obtain⟨ag,ae,a7,a8,ac,f⟩:=Sl.rows aj! (by decide) (show Sl _ wr 3 (.slice T subs.length V) (subs.flatMap pC)from(F1.out wr (XR.out.trans Z.out)).1);cases a7;obtain⟨b,o,rfl,-,f⟩:=f (by omega);have B:=f i hlt;clear f;have a:=h! (show wrap64 ((i:Int)+1)=((i+1:Nat):Int)from by unfold wrap64;omega);have M:(i:Int)<(subs.length:Int):=by omega
      generalize subs[i]=x at *;clear hlt a8 ac;have c0:wr.cell? ⟨b,o+i*3,none⟩=some (.string x.t):=B 0 _ rfl;have V:wr.cell? ⟨b,o+i*3+1,none⟩=some (.string x.i):=B 1 _ rfl;have c2:wr.cell? ⟨b,o+i*3+2,none⟩=some (.string x.r):=B 2 _ rfl;clear B;have R:=h! (Ext.alloc wr (.cells #[.string x.t,.string x.i,.string x.r] 33));have af:=(Blk.made wr #[.string x.t,.string x.i,.string x.r] 33).cells;have hB:=(RB.out.below (Z.out.trans R.out)).cells;have h4:=fun W=>mt! x s W;unfold pV at h4;cases hb:(bv||(subs.take i).any fun x=>decide (x=s)) with
      | true =>
       have HB:=h! hb;clear hb;go_wp2_with fail
       go_roundw
       case rel=>exact⟨i+1,d.out,by first | rw[a.out] | go_num,by rw[g.out,<-Bool.or_assoc,HB.out];rfl,Z.out.trans R.out⟩
       case measure=>have:=d.out;(try rw[a.out]);simp[intOf];omega
      | false =>
       have HB:=h! hb;clear hb;go_wp2_with fail
       go_roundw
       case rel=>exact⟨i+1,d.out,by first | rw[a.out] | go_num,by rw[g.out,<-Bool.or_assoc,HB.out];simp,Z.out.trans R.out⟩
       case measure=>have:=d.out;(try rw[a.out]);simp[intOf];omega
     ·obtain rfl:i=subs.length:=by omega
      rw[u2!]
      have HV:=h! (show holdF s bs (.mk 1 subs refs parts)=(bv||subs.any fun x=>decide (x=s))from by
       rw[l.out,Bool.or_comm];congr 1
       rw[Bool.eq_iff_iff,x5!,u1!];simp)
      have XE:Hid (Ext w wr):=h! (XR.out.trans Z.out);go_wp2_with fail
      go_ret
      exact⟨by rw[HV.out];try rfl,XE.out⟩
   ·rw[if_neg k1]at l;have b1:(k == 1)=false:=by rw[n7!];exact k1
    by_cases k2:k=2
    ·subst k2;rw[if_pos (.inl rfl)]at l;go_wp2_with fail
     go_ret
     exact⟨by rw[l.out];try rfl,XR.out⟩
    ·have b2:(k == 2)=false:=by rw[n7!];exact k2
     by_cases k3:k=3
     ·subst k3;rw[if_pos (.inr rfl)]at l;go_wp2_with fail
      go_ret
      exact⟨by rw[l.out];try rfl,XR.out⟩
     ·have b3:(k == 3)=false:=by rw[n7!];exact k3
      rw[if_neg (by simp[k2,k3])]at l;clear k1 k2 k3;by_cases k45:k=4\/k=5
      ·have HV:=h! (show holdF s bs (.mk k subs refs parts)=((k == 4)&&decide (0<cntH (holdF s bs) parts)||(k == 5)&&decide (cntH (holdF s bs) parts=parts.length))from by
        rw[l.out,<-oe!,<-of!];rcases k45 with rfl | rfl <;> simp)
       clear l
       have N:(k == 4)=true\/(k == 4)=false/\(k == 5)=true:=by
        rcases k45 with rfl | rfl <;> simp
       have aa:=h! N;rcases N with hk4 | ⟨hk4,q⟩
       case' inl=>go_wp2_with fail
       case' inr=>go_wp2_with fail;clear q
       all_goals
        clear hA hk4 k45 b1 b2 b3;obtain⟨Y,p⟩:=e! wr;rw[<-p]at U RB XR ⊢;clear p;go_loopw [12,69] (fun cv iv wr=>∃i:Nat,i<=parts.length/\iv= .int .i64 i/\cv= .int .i64 (cntH (holdF s bs) (parts.take i))/\Ext Y wr) (fun _ iv _=>parts.length-(intOf iv).toNat)
        case atStart=>exact⟨0,v1! _,rfl,rfl,Ext.refl _⟩
        case round =>
         obtain⟨i,hi,rfl,rfl,Q⟩:=hrel;have Z:=h! Q;clear Q;by_cases hlt:i<parts.length
         ·have d:=h! hlt;have g:=h! (md! (holdF s bs) hlt);obtain⟨ah,g1,G,J,L,z⟩:=(H1.out.up (XR.out.trans Z.out)).rows;dsimp only[FT.ps]at G J L z;cases G;obtain⟨p1,q1,u,rfl,D,e0,e1,e2,e3,hu⟩:=z i hlt;have ab:=h! (H.out parts[i] (n5! hlt));have ad:=h! (show cntH (holdF s bs) (parts.take i)<=i from by have:=pq! (holdF s bs) (parts.take i);rw[x4!]at this;omega);have a:=h! (show wrap64 ((i:Int)+1)=((i+1:Nat):Int)/\wrap64 ((cntH (holdF s bs) (parts.take i):Int)+1)=((cntH (holdF s bs) (parts.take i)+1:Nat):Int)from by have:=ad.out;unfold wrap64;omega);have M:(i:Int)<(parts.length:Int):=by omega
          generalize parts[i]=x at *;generalize cntH (holdF s bs) (parts.take i)=cn at *;obtain⟨l1,m1,l2,m2,l4,m4,rfl⟩:=hu.shape;have R:=h! (Ext.alloc wr (.cells #[.int .i64 x.k,.slice l1 x.subs.length m1,.slice l2 x.refs.length m2,.slice l4 x.ps.length m4] 128));have C:=h! (ab.out (.slice ai bs.length ci) _ _ (hu.up R.out) (FI.out _ (XR.out.trans (Z.out.trans R.out))));unfold fV pV at C;dsimp only at e0 e1 e2 e3 C;have a0:=(Blk.made wr #[.int .i64 x.k,.slice l1 x.subs.length m1,.slice l2 x.refs.length m2,.slice l4 x.ps.length m4] 128).cells;have hB:=(RB.out.below (Z.out.trans R.out)).cells;clear hlt z hu D J L;go_wp2_with fail
          refine C.out.mono ?_;rintro e w5 ⟨rfl,O⟩;have X5:Hid (Ext Y w5):=h! (Z.out.trans (R.out.trans O));clear O a0 hB C e0 e1 e2 e3;cases hq:holdF s bs x with
          | true =>
           rw[hq,if_pos rfl]at g;clear hq;go_wp2_with fail
           go_roundw
           case rel=>exact⟨i+1,d.out,by first | rw[a.out.1] | go_num,by first | rw[g.out,a.out.2] | (rw[g.out];go_num),X5.out⟩
           case measure=>have:=d.out;(try rw[a.out.1]);simp[intOf];omega
          | false =>
           rw[hq,if_neg (by decide)]at g;clear hq;go_wp2_with fail
           go_roundw
           case rel=>exact⟨i+1,d.out,by first | rw[a.out.1] | go_num,by rw[g.out];rfl,X5.out⟩
           case measure=>have:=d.out;(try rw[a.out.1]);simp[intOf];omega
         ·obtain rfl:i=parts.length:=by omega
          rw[u2!];have XE:Hid (Ext w wr):=h! (XR.out.trans Z.out);have hA:=(U.out.below Z.out).cells;generalize cntH (holdF s bs) parts=cn at *;have ho:=aa.out;clear hlt hi;rcases ho with hk4 | ⟨hk4,q⟩
          ·rw[hk4]at HV;by_cases hcn:0<cn
           ·rw[v2! hcn]at HV;have K:(0:Int)<(cn:Int):=by omega
            go_wp2_with fail
            go_ret
            exact⟨by rw[HV.out];rfl,XE.out⟩
           ·have K:¬ (0:Int)<(cn:Int):=by omega
            have q:(k == 5)=false:=by rw[beq_iff_eq]at hk4;subst hk4;rfl
            rw[v3! hcn,q]at HV;go_wp2_with fail
            go_ret
            exact⟨by rw[HV.out];rfl,XE.out⟩
          ·rw[hk4,q]at HV;by_cases hcn:cn=parts.length
           ·rw[v2! hcn]at HV;subst hcn;go_wp2_with fail
            go_ret
            exact⟨by rw[HV.out];simp,XE.out⟩
           ·rw[v3! hcn]at HV;have K:((cn:Int) == (parts.length:Int))=false:=by rw[n7!];omega
            go_wp2_with fail
            go_ret
            exact⟨by rw[HV.out];rfl,XE.out⟩
      ·have b4:(k == 4)=false:=by rw[n7!];exact fun e=>k45 (.inl e)
       have b5:(k == 5)=false:=by rw[n7!];exact fun e=>k45 (.inr e)
       rw[if_neg fun e=>k45 (.inl e),if_neg fun e=>k45 (.inr e)]at l;clear k45;go_wp2_with fail
       go_ret
       exact⟨by rw[l.out];try rfl,XR.out⟩
end Go.Proofs.YtlhaghoajpglaaaGreat
