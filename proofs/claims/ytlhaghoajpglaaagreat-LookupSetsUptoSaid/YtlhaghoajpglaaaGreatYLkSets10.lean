/- Lemmas for the claim, no condition. -/
import Derived.ProofKit
import Derived.OpenShut
import Derived.Test.YtlhaghoajpglaaaGreatRows
import Derived.SizedLaws
import Derived.Test.YtlhaghoajpglaaaGreatYLkSets9
import Derived.Test.YtlhaghoajpglaaaGreatYLkSets6
import Derived.Test.YtlhaghoajpglaaaGreatYLkSets0
import Derived.Test.YtlhaghoajpglaaaGreatYLkSets1
import Derived.Test.YtlhaghoajpglaaaGreatYLkSets5
import Derived.Test.YtlhaghoajpglaaaGreatYLkSets3
import Derived.Test.YtlhaghoajpglaaaGreatYLkSets7
import Derived.Test.YtlhaghoajpglaaaGreatYLkSets8
set_option maxRecDepth 100000
set_option maxHeartbeats 8000000
namespace Go.Proofs.YtlhaghoajpglaaaGreat
open Go Go.RowKit Go.Maps
def PIt.toks:PIt->List ByteArray
 | .ty n => [⟨#[116,121,112,101]⟩,n]
 | .rel n x ys=>n::⟨#[61]⟩::altT x ys
def PIt.Fit:PIt->Prop
 | .ty n=>isNm n=true/\n≠⟨#[116,104,105,115]⟩
 | .rel n x ys=>isNm n=true/\n≠⟨#[116,104,105,115]⟩/\n≠⟨#[116,121,112,101]⟩/\(∀ z∈x::ys,isNm z=true)/\ys.length<=100000
structure LnOk (s:ByteArray)(it:PIt):Prop where
 size:s.size<=65536
 two:2<=s.size
 first:∀ h:0<s.size,s[0]≠32/\s[0]≠9
 slash:s.extract 0 2≠⟨#[47,47]⟩
 plain:∀ j (hj:j<s.size),plainC s[j]=true
 toks:toksD s=it.toks
def PSt (L:Nat)(w:World)(tv:Value)(ts:List TyS)(N:Nat):Prop :=
 (N=0/\ts=[]/\tv = .slice none 0 0)\/∃ pre n rv qr,PAt L w tv pre n rv qr/\ts=pre.map (·.1)++[⟨n,qr.map (·.1)⟩]/\pre.length+1<=N/\qr.length<=N
theorem PSt.own {L N:Nat} {w:World} {tv:Value} {ts:List TyS} (h:PSt L w tv ts N):∃ cs,Own w L 176 2 tv cs/\cs.length<=2*N/\(∀ w' tv' m,(∀ b,L<=b->b<w.heap.size->tv.ownBlock≠some b->w'.heap[b]?=w.heap[b]?)->w.heap.size<=w'.heap.size ->
  Own w' L 176 2 tv' (cs++[.string m,.slice none 0 0])->(∀ g,tv'.ownBlock=some g->tv.ownBlock=some g\/w.heap.size<=g)->PSt L w' tv' (stepD ts (.ty m)) (N+1)):=by
 rcases h with⟨rfl,rfl,rfl⟩ | ⟨pre,n,rv,qr,h,rfl,h1,h2⟩
 ·exact⟨[],Own.nil _ _ _ _,by simp,fun w' tv' m _ _ ho _ => .inr ⟨[],m,_,[],PAt.first ho,rfl,by simp,by simp⟩⟩
 ·refine⟨_,h.tys,?_,fun w' tv' m hk hz ho hb => .inr ⟨_,m,_,[],h.ty hk hz ho hb,?_,?_,by simp⟩⟩
  ·rw[flat_length tyC_length];simp;omega
  ·simp[stepD]
  ·simp;omega
theorem PSt.keep {L N:Nat} {w w':World} {tv:Value} {ts:List TyS} (h:PSt L w tv ts N)(hk:∀ b,L<=b->b<w.heap.size->w'.heap[b]?=w.heap[b]?)(hz:w.heap.size<=w'.heap.size):PSt L w' tv ts N:=by
 rcases h with h | ⟨pre,n,rv,qr,h,r⟩
 ·exact .inl h
 ·exact .inr ⟨pre,n,rv,qr,h.keep hk hz,r⟩
theorem PSt.tysAt {L N:Nat} {w:World} {tv:Value} {ts:List TyS} (h:PSt L w tv ts N):TysAt (fun b=>L<=b/\b<w.heap.size) w ts tv:=by
 rcases h with⟨_,rfl,rfl⟩ | ⟨pre,n,rv,qr,h,rfl,_,_⟩
 ·exact⟨[],rfl,(fun x hx=>(by cases hx)),Sl.nil _ _ _⟩
 ·exact h.tysAt
theorem Own.layN {w:World} {B sz:Nat} {e:TypeId} {v:Value} {xs:List Value} (h:Own w B e sz v xs)(hx:xs≠[]):∃ g n c cs,v = .slice (some ⟨g,0,none⟩) n c/\xs.length=n*sz/\B<=g/\Blk w g cs e/\n<=c/\c<=9223372036854775807/\(∀ i (hi:i<xs.length),cs[i]?=some xs[i]):=by
 obtain⟨m,h⟩:=h;rcases h.2 with⟨hv,he⟩ | ⟨g',cap,cur,hv,hbg,hg,hnc,hcm,hcs,htake⟩
 ·exact absurd (List.length_eq_zero_iff.1 (by have:=h.1;rw[he]at this;simpa using this)) hx
 ·refine⟨g',m,cap,cur,hv,h.1,hbg,hg,hnc,by unfold maxLen at hcm;omega,fun i hi=>?_⟩;have h1:=congrArg (fun l:List Value=>l[i]?) htake;rw[List.getElem?_take_of_lt (by rw[<- h.1];exact hi),List.getElem?_eq_getElem hi]at h1;simpa using h1
theorem foldl_take_st (its:List PIt) {i:Nat} (hi:i<its.length):(its.take (i+1)).foldl stepD []=stepD ((its.take i).foldl stepD []) its[i]:=by
 rw[List.take_succ_eq_append_getElem hi,List.foldl_append];rfl
theorem parse_any (s:ByteArray)(its:List PIt)(w:World)(hs:s.size<=65536)(hl:(linesD s).length=its.length)(hln:∀ i (hi:i<its.length)(hj:i<(linesD s).length),LnOk (linesD s)[i] its[i])(hok:∀ it∈its,it.Fit)(h0:∀ h:0<its.length,∃ n,its[0] = .ty n)(hN:its.length<=70000) :
  Calls Tryz.prog 33 #[.string s] w fun e w'=>∃ tv,e = .returned (.tuple #[.agg #[tv],.int .i64 0,.int .i64 0])/\TysAt (fun b=>w.heap.size<=b/\b<w'.heap.size) w' (its.foldl stepD []) tv/\Below w.heap.size w w':=by
 obtain⟨w1,hw1⟩:∃ z,z=w.alloc (.cells #[.slice none 0 0] 26):=⟨_,rfl⟩;obtain⟨w2,hw2⟩:∃ z,z=w1.alloc (.cells #[.slice none 0 0] 26):=⟨_,rfl⟩;have e1:w1.heap.size=w.heap.size+1:=by rw[hw1];simp
 have e2:w2.heap.size=w.heap.size+2:=by rw[hw2];simp[e1]
 have x01:Ext w w1:=by rw[hw1];exact Ext.alloc _ _
 have x12:Ext w1 w2:=by rw[hw2];exact Ext.alloc _ _
 have HRB:=h! (show Blk w2 w.heap.size #[.slice none 0 0] 26 from Blk.below (by rw[hw1];exact Blk.made _ _ _) x12);have HSB:=h! (show Blk w2 (w.heap.size+1) #[.slice none 0 0] 26 from by rw[hw2,<- e1];exact Blk.made _ _ _);have HB2:=h! (show Below w.heap.size w w2 from x01.trans x12);have HLN:=h! (lines_any s hs w2);rw[e2]at HLN;have HL:=h! hl;have HLK:=h! hln;have HOK:=h! hok;have HZ:=h! h0;have HN:=h! hN;have hsz:(s.size:Int)<=65536:=by omega
 subst hw2 hw1;clear hs hl hln hok h0 hN x01 x12 e1 e2;go_enter Tryz.func33,Tryz.ntmps33
 go_wp2_with fail
 refine HLN.out.mono ?_;rintro e wL ⟨lv,rfl,hownL,hbL⟩;have HRL:=h! (HRB.out.below (hbL.mono (by simp)));have HSLb:=h! (HSB.out.below (hbL.mono (by simp)));have HBL:=h! (HB2.out.trans (hbL.mono (by simp)));have HLL:=h! (show w.heap.size+2<=wL.heap.size from by have:=hbL.size;simpa using this);obtain⟨aoL,nL,cL,rfl,hnL,hncL,hcmL⟩:=hownL.sl.len;rw[txs_length,Nat.mul_one,HL.out]at hnL;subst hnL
 have HCL:=h! (show ∀ i (hi:i<its.length) (hj:i<(linesD s).length),∃ b off,aoL=some ⟨b,off,none⟩/\(w.heap.size+2<=b/\b<wL.heap.size)/\wL.cell? ⟨b,off+i,none⟩=some (.string (linesD s)[i])from fun i hi hj=>by
  have h:=hownL.sl;rw[<- HL.out]at h;exact texts_at h i hj)
 clear HRB HSB HB2 HLN hbL hownL;generalize linesD s=ls at *;go_wp2_with fail
 go_loopw [20] (fun ii wr=>∃ (i:Nat) (tv:Value),ii = .int .i64 i/\i<=its.length/\Below w.heap.size w wr/\(∀ b,w.heap.size+2<=b->b<wL.heap.size->wr.heap[b]?=wL.heap[b]?)/\Blk wr w.heap.size #[.slice none 0 0] 26/\Blk wr (w.heap.size+1) #[tv] 26/\wL.heap.size<=wr.heap.size/\PSt wL.heap.size wr tv ((its.take i).foldl stepD []) i) (fun ii _=>its.length-(intOf ii).toNat)
 case atStart=>exact⟨0,_,rfl,by omega,HBL.out,fun _ _ _=>rfl,HRL.out,HSLb.out,Nat.le_refl _,.inl ⟨rfl,rfl,rfl⟩⟩
 case round =>
  obtain⟨i,tv,rfl,hi,hbel,hkl,hrb,hsb,hsz2,hst⟩:=hrel;clear HRL HSLb HBL;have HBE:=h! hbel;have HKL:=h! hkl;have HRB:=h! hrb;have HSB:=h! hsb;have HZ2:=h! hsz2;have HST:=h! hst;have HI:=h! hi;clear hbel hkl hsz2 hst;by_cases hlt:i<its.length
  ·have hj:i<ls.length:=by rw[HL.out];exact hlt
   obtain⟨bL,offL,rfl,hbL,hcL⟩:=HCL.out i hlt hj;have hcr:wr.cell? ⟨bL,offL+i,none⟩=some (.string ls[i]):=(World.cell?_of_block (a:=⟨bL,offL+i,none⟩) (HKL.out bL hbL.1 hbL.2)).trans hcL;have HLO:=h! (HLK.out i hlt hj);have HIT:=h! (HOK.out its[i] (List.getElem_mem hlt));have HFT:=h! (foldl_take_st its hlt);have HII:=h! (show i=0->∃ n,its[i] = .ty n from fun h=>by subst h;exact HZ.out hlt);clear hcL;generalize ls[i]=ln at *;generalize its[i]=it at *;have HBK:=h! (blank1_any ln (by have:=HLO.out.size;unfold maxLen;omega) HLO.out.two (ln[0]'(by have:=HLO.out.two;omega)) rfl (HLO.out.first (by have:=HLO.out.two;omega)).1 (HLO.out.first (by have:=HLO.out.two;omega)).2 HLO.out.slash wr);have HTK:=h! (tokens_any ln HLO.out.size HLO.out.plain wr);rw[HLO.out.toks]at HTK;go_wp2_with fail
   refine HBK.out.mono ?_;rintro e wx ⟨rfl,rfl⟩;go_wp2_with fail
   refine HTK.out.mono ?_;rintro e w2 ⟨v2,rfl,hown2,hb2⟩;have HRB2:=h! (HRB.out.below hb2);have HSB2:=h! (HSB.out.below hb2);have HBE2:=h! (HBE.out.trans (hb2.mono HBE.out.size));have HKL2:=h! (show ∀ b,w.heap.size+2<=b->b<wL.heap.size->w2.heap[b]?=wL.heap[b]? from fun b h1 h2=>(hb2.block b (Nat.lt_of_lt_of_le h2 HZ2.out)).trans (HKL.out b h1 h2));have HZ22:=h! (Nat.le_trans HZ2.out hb2.size);have HXY:=h! (show wx.heap.size<=w2.heap.size from hb2.size);have HST2:=h! (HST.out.keep (fun b _ h=>hb2.block b h) hb2.size);have HTB:=h! (show ∀ g,tv.ownBlock=some g->wL.heap.size<=g/\g<wx.heap.size from fun g hg=>by obtain⟨cs,hc,-⟩:=HST.out.own;exact hc.block g hg);have hs2:=HSB2.out.cells;have fs2:=HSB2.out.free;clear hrb hsb HRB HSB HBE HKL HBK HTK HST hcr;cases it with
   | ty n =>
    obtain⟨hnm,hnt⟩:=HIT.out;have HT2:=h! (show Sl (fun b=>wx.heap.size<=b/\b<w2.heap.size) w2 1 v2 (txs [⟨#[116,121,112,101]⟩,n])from hown2.sl);obtain⟨aoT,nT,cT,rfl,hnT,hncT,hcmT⟩:=HT2.out.len;obtain rfl:nT=2:=by rw[txs_length]at hnT;simpa using hnT.symm
    have htx:=texts_at (l:=[⟨#[116,121,112,101]⟩,n]) HT2.out;obtain⟨bT,offT,rfl,hbT,t0⟩:=htx 0 (by simp);obtain⟨bT',offT',hbo,-,t1⟩:=htx 1 (by simp);cases hbo;rw[Nat.add_zero]at t0;have t0':w2.cell? ⟨bT,offT,none⟩=some (.string ⟨#[116,121,112,101]⟩):=t0;have t1':w2.cell? ⟨bT,offT+1,none⟩=some (.string n):=t1;have hnmx:=hnm
    have HNM:=h! (refName_any n (by
     unfold isNm at hnmx;simp only[Bool.and_eq_true,decide_eq_true_eq]at hnmx;unfold maxLen;omega) w2)
    rw[hnm]at HNM;have hne:=ba_beq' hnt;rw[<- ByteArray.toList_eq,show(⟨#[116,104,105,115]⟩:ByteArray).data.toList=[116,104,105,115]from rfl]at hne;clear htx t0 t1 hnT hnm hnt hnmx hown2 hb2;go_wp2_with fail
    refine HNM.out.mono ?_;rintro e wy ⟨rfl,rfl⟩;clear HNM;go_wp2_with fail
    obtain⟨csT,hoT,hcsT,hstepT⟩:=HST2.out.own;obtain⟨aot,kt,ct,rfl,-,-,-⟩:=hoT.sl.len;have HCS:=h! hcsT;have HSTEP:=h! hstepT;have HOT:=h! hoT;clear hcsT hstepT hoT;obtain⟨wd,hwd⟩:∃ z,z=wy.drew:=⟨_,rfl⟩;have hE:Ext wy wd:=by rw[hwd];exact Ext.drew wy
    have hsd:Blk wd (w.heap.size+1) #[.slice aot kt ct] 26:=HSB2.out.below hE;have htd1:wd.cell? ⟨bT,offT+1,none⟩=some (.string n):=Ext.cell hE t1';have hBT:Value.ownBlock (.slice aot kt ct)≠some bT:=fun e=>by have:=(HTB.out bT e).2;have:=hbT.1;omega
    have hBS:Value.ownBlock (.slice aot kt ct)≠some (w.heap.size+1):=fun e=>by have:=(HTB.out _ e).1;have:=HLL.out;omega
    have HBSZ:=h! hBS;have HOD:=h! (HOT.out.below hE);have HWD:=h! (show wd.heap.size=wy.heap.size from by rw[hwd];rfl)
    have hA1:∀ W,Kept (fun b=>b<wd.heap.size/\Value.ownBlock (.slice aot kt ct)≠some b) wd W->W.cell? ⟨w.heap.size+1,0,none⟩=some (.slice aot kt ct):=fun W hW=>by
     rw[(hW.blk hsd ⟨hsd.lt,hBS⟩).cells];rfl
    have hA2:∀ W,Kept (fun b=>b<wd.heap.size/\Value.ownBlock (.slice aot kt ct)≠some b) wd W->W.cell? ⟨bT,offT+1,none⟩=some (.string n):=fun W hW =>
     (World.cell?_of_block (a:=⟨bT,offT+1,none⟩) (hW.block bT ⟨World.block_lt_of_cell? wd _ htd1,hBT⟩)).trans htd1
    refine region_walkL 9 (Kept (fun b=>b<wd.heap.size/\Value.ownBlock (.slice aot kt ct)≠some b) wd) (by rw[<- hwd];exact Kept.refl _ _) (by kernel_rfl) (by kernel_rfl) (fun _ _ d _ _ h=>by cases d <;> exact h) ?_;rw[<- hwd];clear hwd hBT hBS;(refine WalkL.tk [0,1,2,3,4,5] ?_;(iterate 6 (refine l! ?_));refine TkL.n ?_)
    refine oL! 6 ?_;refine b! ?_;intro K hK;go_simp;refine hK.out _ _ ((Kept.refl _ wd).alloc (fun b hb=>hb.1) _) ?_;clear hK;refine oL! 7 ?_;refine b! ?_;intro K hK;refine wp_ownw tysT (.tmp 57) (.tmp 62) rfl rfl (HOD.out.below (Ext.alloc wd _)) rfl (m:=1) (news:=[.string n,.slice none 0 0]) rfl (fun j u hu=>?_) (by simp[Value.oneCell']) (by have:=HCS.out;have:=HI.out;have:=HN.out;simp;omega) (by have:=HCS.out;have:=HI.out;have:=HN.out;simp;omega) (by have:=HWD.out;have:=HZ22.out;simp;omega) (fun v5 w5 hown5 hb5 hgr5=>?_)
    ·rw[Addr.add_lit,cell_of_row _ wd.heap.size (0+j) #[.string n,.slice none 0 0] 176 (0,0) (heap_alloc_new wd _)];simpa using hu
    have hkk:Kept (fun b=>b<wd.heap.size/\Value.ownBlock (.slice aot kt ct)≠some b) wd w5:=((Kept.refl _ wd).alloc (fun b hb=>hb.1) (.cells #[.string n,.slice none 0 0] 176)).trans ⟨hgr5.os,hgr5.tape,hgr5.output,hgr5.size,fun b hb=>hgr5.block b (by have:=hb.1;simp;omega) (fun e=>hb.2 e.symm)⟩;refine hK.out _ _ hkk ?_;clear hK;simp only[Act.put,pA,pZ,pS];have hb5':∀ g,v5.ownBlock=some g->(Value.slice aot kt ct).ownBlock=some g\/wd.heap.size<=g:=fun g hg=>(hb5 g hg).imp id (fun h=>by simp at h;omega);obtain⟨ao5,k5,c5,rfl,-,-,-⟩:=hown5.sl.len;have hs5:=hkk.blk hsd ⟨hsd.lt,HBSZ.out⟩;have HS5:=h! hs5;have r5:=hs5.cells;have f5:=hs5.free;have HK5:=h! (show Kept (fun b=>b<wd.heap.size/\Value.ownBlock (.slice aot kt ct)≠some b) wd w5 from hkk);have HO5:=h! hown5;have HB5:=h! hb5';have HE:=h! hE;clear hA1 hA2 hb5 hgr5 hkk hs5 hown5 hb5' hE;((refine WalkL.take 8 _ ?_ (by simp only[gA,gS,gZ];rfl) (by kernel_rfl) (by kernel_rfl) (by kernel_rfl) (by rfl) (fun W hW=>?_) ?_;rotate_left;· (go_simp;try with_reducible rfl));simp only[Act.put,pA,pZ,pS])
    refine WalkL.last (by kernel_rfl) (by kernel_rfl) ?_;refine b! ?_;intro K hK;go_simp;refine hK.out _ _ ?_;clear hK r5 f5;have hw5:wy.heap.size<=w5.heap.size:=by have:=HK5.out.size;have:=HWD.out;omega
    have HKW:=h! (show ∀ b,b<wy.heap.size->Value.ownBlock (.slice aot kt ct)≠some b->w5.heap[b]?=wy.heap[b]? from fun b h1 h2=>(HK5.out.block b ⟨by rw[HWD.out];exact h1,h2⟩).trans (HE.out.block b h1));have HTS:=h! (show ∀ b,wL.heap.size<=b->(w5.setCell ⟨w.heap.size+1,0,none⟩ (.slice ao5 k5 c5)).heap[b]?=w5.heap[b]? from fun b hb=>Below.heap_setCell _ _ _ _ (by have:=HLL.out;show b≠w.heap.size+1;omega));have HNEW:=h! (HSTEP.out (w5.setCell ⟨w.heap.size+1,0,none⟩ (.slice ao5 k5 c5)) (.slice ao5 k5 c5) n (fun b h1 h2 h3=>(HTS.out b h1).trans (HKW.out b h2 h3)) (by simpa using hw5) (HO5.out.keepOwn fun g hg=>HTS.out g (HO5.out.block g hg).1) (fun g hg=>by have:=HB5.out g hg;rwa[HWD.out]at this));have HTB5:=h! (show ∀ g,g<wL.heap.size->Value.ownBlock (.slice aot kt ct)≠some g from fun g hg e=>by have:=(HTB.out g e).1;omega)
    have hkl5:∀ b,w.heap.size+2<=b->b<wL.heap.size->(w5.setCell ⟨w.heap.size+1,0,none⟩ (.slice ao5 k5 c5)).heap[b]?=wL.heap[b]?:=fun b h1 h2 =>
     ((Below.heap_setCell _ _ _ _ (show b≠w.heap.size+1 by omega)).trans (HKW.out b (Nat.lt_of_lt_of_le h2 HZ22.out) (HTB5.out b h2))).trans (HKL2.out b h1 h2)
    have hrb5:Blk (w5.setCell ⟨w.heap.size+1,0,none⟩ (.slice ao5 k5 c5)) w.heap.size #[.slice none 0 0] 26 :=
     ((Below.heap_setCell _ _ _ _ (show w.heap.size≠w.heap.size+1 by omega)).trans (HKW.out _ HRB2.out.lt (HTB5.out _ (by have:=HLL.out;omega)))).trans HRB2.out
    have hsb5:Blk (w5.setCell ⟨w.heap.size+1,0,none⟩ (.slice ao5 k5 c5)) (w.heap.size+1) #[.slice ao5 k5 c5] 26:=HS5.out.set_to 0 _ rfl
    have hbe5:Below w.heap.size w (w5.setCell ⟨w.heap.size+1,0,none⟩ (.slice ao5 k5 c5)):=by
     refine Below.setCell (Below.trans HBE2.out ?_) (Nat.le_succ _) _;have h1:=HK5.out;exact⟨h1.os.trans HE.out.os,h1.tape.trans HE.out.tape,h1.output.trans HE.out.output,hw5,fun b hb=>HKW.out b (Nat.lt_of_lt_of_le hb HBE2.out.size) (HTB5.out b (by have:=HLL.out;omega))⟩
    have HALL:=h! (show _/\_/\_/\_ from⟨hkl5,hrb5,hsb5,hbe5⟩);have HW5:=h! hw5;clear hkl5 hrb5 hsb5 hbe5 hw5;go_wp2_with fail
    go_roundw
    case rel=>exact⟨i+1,_,by go_num,by omega,HALL.out.2.2.2,HALL.out.1,HALL.out.2.1,HALL.out.2.2.1,by have:=HW5.out;have:=HZ22.out;simp;omega,by rw[HFT.out];exact HNEW.out⟩
    case measure=>simp[intOf];omega
   | rel n x ys =>
    obtain⟨hnm,hnt,hny,hxs,hyl⟩:=HIT.out;have HT2:=h! (show Sl (fun b=>wx.heap.size<=b/\b<w2.heap.size) w2 1 v2 (txs (n::⟨#[61]⟩::altT x ys))from hown2.sl);obtain⟨aoT,nT,cT,rfl,hnT,hncT,hcmT⟩:=HT2.out.len;have htx:=texts_at (l:=n::⟨#[61]⟩::altT x ys) (by rw[txs_length,Nat.mul_one]at hnT;rw[hnT];exact HT2.out);obtain⟨bT,offT,rfl,hbT,t0⟩:=htx 0 (by simp);obtain⟨bT',offT',hbo,-,t1⟩:=htx 1 (by simp);cases hbo;rw[Nat.add_zero]at t0;have t0':w2.cell? ⟨bT,offT,none⟩=some (.string n):=t0;have t1':w2.cell? ⟨bT,offT+1,none⟩=some (.string ⟨#[61]⟩):=t1;have HTY:=h! (hown2.typed (g:=bT) rfl)
    have HNT:=h! (show nT=2*ys.length+3 from by
     rw[txs_length,Nat.mul_one,List.length_cons,List.length_cons]at hnT;unfold altT at hnT;rw[List.length_cons,barT_length]at hnT;omega)
    have HRU:=h! (rule_any (S:=fun b=>wx.heap.size<=b/\b<w2.heap.size) x ys (.slice (some ⟨bT,offT+2,none⟩) (nT-2) (cT-2)) w2 (fun b hb=>hb.2) hxs hyl (by
     have:=HT2.out.drop 2 (by have:=HNT.out;omega);rwa[show(txs (n::⟨#[61]⟩::altT x ys)).drop 2=txs (altT x ys)from rfl]at this))
    have hnmx:=hnm
    have HNM:=h! (refName_any n (by
     unfold isNm at hnmx;simp only[Bool.and_eq_true,decide_eq_true_eq]at hnmx;unfold maxLen;omega) w2)
    rw[hnm]at HNM;have hne:=ba_beq' hnt;rw[<- ByteArray.toList_eq,show(⟨#[116,104,105,115]⟩:ByteArray).data.toList=[116,104,105,115]from rfl]at hne;have hne2:=ba_beq' hny;rw[<- ByteArray.toList_eq,show(⟨#[116,121,112,101]⟩:ByteArray).data.toList=[116,121,112,101]from rfl]at hne2;have hi0:i≠0:=fun h=>by obtain⟨m,hm⟩:=HII.out h;cases hm
    obtain⟨pre,nn,rv,qr,hP,hts,hpl,hql⟩:∃ pre n rv qr,PAt wL.heap.size w2 tv pre n rv qr/\(its.take i).foldl stepD []=pre.map (·.1)++[⟨n,qr.map (·.1)⟩]/\pre.length+1<=i/\qr.length<=i:=by
     rcases HST2.out with h | h
     ·exact absurd h.1 hi0
     ·exact h
    obtain⟨g,kt,ct,cst,rfl,hkt,hLg,hgb,hktc,hctm,hgc⟩:=hP.tys.layN (by simp[tyC]);obtain⟨pl,hpl0⟩:∃ z,z=pre.length:=⟨_,rfl⟩
    have hrvc:w2.cell? ⟨g,pl*2+1,none⟩=some rv:=by
     rw[hgb.cells];have hl:pl*2+1<((pre++[((⟨nn,qr.map (·.1)⟩:TyS),rv)]).flatMap tyC).length:=by rw[flat_length tyC_length];simp;omega
     rw[hgc _ hl,<- List.getElem?_eq_getElem hl,List.flatMap_append,List.getElem?_append_right (by rw[flat_length tyC_length];omega),flat_length tyC_length,hpl0,Nat.add_sub_cancel_left];rfl
    obtain rfl:kt=pl+1:=by rw[flat_length tyC_length]at hkt;simp at hkt;omega
    have HPL:=h! hpl;have HPL0:=h! hpl0;have HQL:=h! hql;have HTSS:=h! hts;have HP:=h! hP;have HGB:=h! hgb;have HLG:=h! hLg;have HRVC:=h! hrvc;have HSZT:=h! hcmT;obtain⟨aor,kr,cr,rfl,-,-,-⟩:=hP.rels.sl.len;have HNR2:=h! (fun b (e:Value.ownBlock (.slice aor kr cr)=some b)=>(HP.out.rels.block b e).2);have hc1:((nT:Int) == 2)=false:=by have:=HNT.out;rw[beq_eq_false_iff_ne];omega
    have hc2:¬ (nT:Int)<3:=by have:=HNT.out;omega
    have hc3:(0:Int)<(nT:Int):=by omega
    have hc4:(1:Int)<(nT:Int):=by omega
    have hc5:(2:Int)<=(nT:Int):=by omega
    have hc6:(nT:Int)<=(cT:Int):=by omega
    have hc7:¬ cT=2:=by omega
    have hc8:(2:Int)<=(cT:Int):=by omega
    have hc9:((pl:Int)+1 == 0)=false:=by rw[beq_eq_false_iff_ne];omega
    have hc10:¬ ((pl:Int)+1=0):=by omega
    have hw1:wrap64 ((pl:Int)+1-1)=(pl:Int):=by rw[Int.add_sub_cancel];exact wrap_in _ (by omega) (by omega)
    have hw3:IntKind.i64.wrap (pl:Int)=(pl:Int):=IntWalk.i64_in _ (by omega);have hlt1:(pl:Int)<(pl:Int)+1:=by omega
    have h0n:(0:Int)<=(pl:Int):=by omega
    clear htx t0 t1 hnT hnm hnt hny hxs hyl hnmx hown2 hb2 hi0 hpl hpl0 hql hts hP hgb hgc hkt hLg hrvc;go_wp2_with fail
    refine HNM.out.mono ?_;rintro e wy ⟨rfl,rfl⟩;clear HNM;go_wp2_with fail
    refine HRU.out.mono ?_;rintro e w3 ⟨v3,pv,rfl,hsl3,hat3,hb3⟩;have HRB3:=h! (HRB2.out.below hb3);have HSB3:=h! (HSB2.out.below hb3);have HBE3:=h! (HBE2.out.trans (hb3.mono HBE2.out.size));have HKL3:=h! (show ∀ b,w.heap.size+2<=b->b<wL.heap.size->w3.heap[b]?=wL.heap[b]? from fun b h1 h2=>(hb3.block b (Nat.lt_of_lt_of_le h2 HZ22.out)).trans (HKL2.out b h1 h2));have HZ3:=h! (Nat.le_trans HZ22.out hb3.size);have HP3:=h! (HP.out.keep (fun b _ h=>hb3.block b h) hb3.size);have HGB3:=h! (HGB.out.below hb3);have HRV3:=h! (Ext.cell hb3 HRVC.out);have HT3:=h! (Ext.cell hb3 t0');have HBTZ:=h! (show wx.heap.size<=bT/\bT<w3.heap.size from⟨hbT.1,Nat.lt_of_lt_of_le hbT.2 hb3.size⟩);have HAT:=h! hat3;have HTY3:=h! (show ∃ cur,w3.heap[bT]?=some (.cells cur 9 (0,0))from by obtain⟨cur,h⟩:=HTY.out;exact⟨cur,(hb3.block bT hbT.2).trans h⟩);have HY3:=h! hb3.size;obtain⟨ao3,n3,c3,rfl,hn3,-,-⟩:=hsl3.len;obtain rfl:n3=0:=by simpa using hn3.symm
    obtain⟨ao5,c5,rfl,-,-,-⟩:=hat3.rows;generalize hr:altR x ys=r at *;have HRR:=h! hr;clear hr;clear hn3 hsl3 hat3 HRU HRB2 HSB2 HBE2 HKL2 HP HGB HRVC hs2 fs2 hb3 t0' t1' HT2;have HS4:=h! (Blk.made w3 #[.int .i64 r.k,.string r.a,.string r.b,.slice ao5 r.ps.length c5] 106);have HE4:=h! (Ext.alloc w3 (.cells #[.int .i64 r.k,.string r.a,.string r.b,.slice ao5 r.ps.length c5] 106));have hsc:(w3.alloc (.cells #[.int .i64 r.k,.string r.a,.string r.b,.slice ao5 r.ps.length c5] 106)).cell? ⟨w.heap.size+1,0,none⟩=some (.slice (some ⟨g,0,none⟩) (pl+1) ct):=by rw[(HSB3.out.below HE4.out).cells];rfl
    unfold rV;go_wp2_with fail
    obtain⟨w4,hw4⟩:∃ z,z=w3.alloc (.cells #[.int .i64 r.k,.string r.a,.string r.b,.slice ao5 r.ps.length c5] 106):=⟨_,rfl⟩;rw[<- hw4]at HS4 HE4 ⊢;clear hw4 hsc;obtain⟨wd,hwd⟩:∃ z,z=w4.drew:=⟨_,rfl⟩;have hE:Ext w3 wd:=by rw[hwd];exact HE4.out.trans (Ext.drew w4)
    have hrd:Blk wd w3.heap.size #[.int .i64 r.k,.string r.a,.string r.b,.slice ao5 r.ps.length c5] 106:=by rw[hwd];exact HS4.out
    have hPd:=HP3.out.keep (fun b _ h=>hE.block b h) hE.size;have htd:=Ext.cell hE HT3.out;have hvd:=Ext.cell hE HRV3.out;have hgd:=HGB3.out.below hE;have hne:Value.ownBlock (.slice aor kr cr)≠some g:=fun e=>hPd.rels.apart hPd.tys (by decide) e rfl;have hnr:∀ b,Value.ownBlock (.slice aor kr cr)=some b->wL.heap.size<=b/\b<w3.heap.size:=fun b e=>HP3.out.rels.block b e
    have hnT:Value.ownBlock (.slice aor kr cr)≠some bT:=fun e=>by
     obtain⟨c1,h1⟩:=HP3.out.rels.typed e;obtain⟨c2,h2⟩:=HTY3.out;rw[h1]at h2;exact absurd (show(181:TypeId)=9 by injection Option.some.inj h2) (by decide)
    have hnB:Value.ownBlock (.slice aor kr cr)≠some w3.heap.size:=fun e=>by have:=(hnr _ e).2;omega
    have HNR:=h! hnr;have HEX:=h! hE;have HPD:=h! hPd;have HGD:=h! hgd;have hKb:∀ b,b<wd.heap.size->Value.ownBlock (.slice aor kr cr)≠some b->∀ W,Kept (fun b=>b<wd.heap.size/\Value.ownBlock (.slice aor kr cr)≠some b) wd W->W.heap[b]?=wd.heap[b]?:=fun b h1 h2 W hW=>hW.block b ⟨h1,h2⟩
    have hA1:∀ W,Kept (fun b=>b<wd.heap.size/\Value.ownBlock (.slice aor kr cr)≠some b) wd W->W.cell? ⟨bT,offT,none⟩=some (.string n):=fun W hW =>
     (World.cell?_of_block (a:=⟨bT,offT,none⟩) (hKb bT (World.block_lt_of_cell? wd _ htd) hnT W hW)).trans htd
    have hA2:∀ W,Kept (fun b=>b<wd.heap.size/\Value.ownBlock (.slice aor kr cr)≠some b) wd W->W.cell? ⟨g,pl*2+1,none⟩=some (.slice aor kr cr):=fun W hW =>
     (World.cell?_of_block (a:=⟨g,pl*2+1,none⟩) (hKb g (World.block_lt_of_cell? wd _ hvd) hne W hW)).trans hvd
    have hAR:∀ W,Kept (fun b=>b<wd.heap.size/\Value.ownBlock (.slice aor kr cr)≠some b) wd W->Blk W w3.heap.size #[.int .i64 r.k,.string r.a,.string r.b,.slice ao5 r.ps.length c5] 106:=fun W hW=>(hKb _ hrd.lt hnB W hW).trans hrd;have hB0:∀ W,Kept (fun b=>b<wd.heap.size/\Value.ownBlock (.slice aor kr cr)≠some b) wd W->W.cell? ⟨w3.heap.size,0,none⟩=some (.int .i64 r.k):=fun W hW=>(hAR W hW).cells 0;have hB1:∀ W,Kept (fun b=>b<wd.heap.size/\Value.ownBlock (.slice aor kr cr)≠some b) wd W->W.cell? ⟨w3.heap.size,1,none⟩=some (.string r.a):=fun W hW=>(hAR W hW).cells 1;have hB2:∀ W,Kept (fun b=>b<wd.heap.size/\Value.ownBlock (.slice aor kr cr)≠some b) wd W->W.cell? ⟨w3.heap.size,2,none⟩=some (.string r.b):=fun W hW=>(hAR W hW).cells 2;have hB3:∀ W,Kept (fun b=>b<wd.heap.size/\Value.ownBlock (.slice aor kr cr)≠some b) wd W->W.cell? ⟨w3.heap.size,3,none⟩=some (.slice ao5 r.ps.length c5):=fun W hW=>(hAR W hW).cells 3;have HNG:=h! hne;have HVD:=h! hA2;have HOD:=h! hPd.rels;have HSZD:=h! (show wL.heap.size<=wd.heap.size from Nat.le_trans HZ3.out hE.size);refine region_walkL 14 (Kept (fun b=>b<wd.heap.size/\Value.ownBlock (.slice aor kr cr)≠some b) wd) (by rw[<- hwd];exact Kept.refl _ _) (by kernel_rfl) (by kernel_rfl) (fun _ _ d _ _ h=>by cases d <;> exact h) ?_;rw[<- hwd];clear hwd hne hnr hnT hnB hKb hAR hvd htd hrd hPd hgd hE;(refine WalkL.tk [0,1,2,3,4,5,6,7,8,9] ?_;(iterate 10 (refine l! ?_));refine TkL.n ?_)
    refine oL! 10 ?_;refine b! ?_;intro K hK;go_simp;refine hK.out _ _ ((Kept.refl _ wd).alloc (fun b hb=>hb.1) _) ?_;clear hK hA1 hA2 hB0 hB1 hB2 hB3;refine oL! 11 ?_;refine b! ?_;intro K hK;refine wp_ownw relsElT (.tmp 134) (.tmp 140) rfl rfl (HOD.out.below (Ext.alloc wd _)) rfl (m:=1) (news:=[.string n,.int .i64 r.k,.string r.a,.string r.b,.slice ao5 r.ps.length c5]) rfl (fun j u hu=>?_) (by simp[Value.oneCell']) (by have:=HQL.out;have:=HI.out;have:=HN.out;rw[flat_length relC_length];simp;omega) (by have:=HQL.out;have:=HI.out;have:=HN.out;rw[flat_length relC_length];simp;omega) (by have:=HSZD.out;simp;omega) (fun v5 w5 hown5 hb5 hgr5=>?_)
    ·rw[Addr.add_lit,cell_of_row _ wd.heap.size (0+j) #[.string n,.int .i64 r.k,.string r.a,.string r.b,.slice ao5 r.ps.length c5] 181 (0,0) (heap_alloc_new wd _)];simpa using hu
    have hkk:Kept (fun b=>b<wd.heap.size/\Value.ownBlock (.slice aor kr cr)≠some b) wd w5:=((Kept.refl _ wd).alloc (fun b hb=>hb.1) (.cells #[.string n,.int .i64 r.k,.string r.a,.string r.b,.slice ao5 r.ps.length c5] 181)).trans ⟨hgr5.os,hgr5.tape,hgr5.output,hgr5.size,fun b hb=>hgr5.block b (by have:=hb.1;simp;omega) (fun e=>hb.2 e.symm)⟩;refine hK.out _ _ hkk ?_;clear hK;simp only[Act.put,pA,pZ,pS];have HB5:=h! (show ∀ b,v5.ownBlock=some b->(Value.slice aor kr cr).ownBlock=some b\/wd.heap.size<=b from fun b hg=>(hb5 b hg).imp id (fun h=>by simp at h;omega));obtain⟨ao6,k6,c6,rfl,-,-,-⟩:=hown5.sl.len;have hg5:=hkk.blk HGD.out ⟨HGD.out.lt,HNG.out⟩;have v5c:=HVD.out w5 hkk;have f5:=hg5.free;have HK5:=h! (show Kept (fun b=>b<wd.heap.size/\Value.ownBlock (.slice aor kr cr)≠some b) wd w5 from hkk);have HO5:=h! hown5;clear hb5 hgr5 hkk hg5 hown5;(refine WalkL.tk [12,13] ?_;(iterate 2 (refine l! ?_));refine TkL.n ?_)
    refine WalkL.last (by kernel_rfl) (by kernel_rfl) ?_;refine b! ?_;intro K hK;go_simp;refine hK.out _ _ ?_;clear hK f5 v5c;obtain⟨W,hW⟩:∃ z,z=w5.setCell ⟨g,pl*2+1,none⟩ (.slice ao6 k6 c6):=⟨_,rfl⟩;have hoth:∀ b,b≠g->W.heap[b]?=w5.heap[b]?:=fun b hb=>by rw[hW];exact Below.heap_setCell _ _ _ _ hb
    have hWs:W.heap.size=w5.heap.size:=by rw[hW];simp
    have hold:∀ b,b<w3.heap.size->b<wL.heap.size->W.heap[b]?=w3.heap[b]?:=fun b h1 h2=>by
     have h3:=HLG.out;rw[hoth b (by omega)];exact(HK5.out.block b ⟨Nat.lt_of_lt_of_le h1 HEX.out.size,fun e=>by have:=(HNR.out b e).1;omega⟩).trans (HEX.out.block b h1)
    have hrel:=HPD.out.rel (m:=n) (r:=r) (pv := .slice ao5 r.ps.length c5) (w':=w5) (rv' := .slice ao6 k6 c6) (fun b _ h1 h2=>HK5.out.block b ⟨h1,h2⟩) HK5.out.size HO5.out HB5.out
     ((HAT.out.same ((Same.below HEX.out).mono fun b hb=>hb.2)).mono fun b hb=>⟨⟨Nat.le_trans HZ22.out hb.1,Nat.lt_of_lt_of_le hb.2 HEX.out.size⟩,fun e=>by have:=(HTB.out b e).2;have:=hb.1;have:=HXY.out;omega,fun e=>by have:=HNR2.out b e;have:=hb.1;omega⟩)
    rw[<- HPL0.out,<- hW]at hrel
    have hbe5:Below w.heap.size w W:=by
     refine Below.trans HBE3.out ⟨?_,?_,?_,?_,fun b hb=>hold b (Nat.lt_of_lt_of_le hb HBE3.out.size) (by have:=HLL.out;omega)⟩
     ·rw[hW];exact HK5.out.os.trans HEX.out.os
     ·rw[hW];exact HK5.out.tape.trans HEX.out.tape
     ·rw[hW];exact HK5.out.output.trans HEX.out.output
     ·rw[hWs];exact Nat.le_trans HEX.out.size HK5.out.size
    have HALL:=h! (show _/\_/\_/\_/\_/\_ from⟨(fun b (h1:w.heap.size+2<=b) (h2:b<wL.heap.size)=>(hold b (Nat.lt_of_lt_of_le h2 HZ3.out) h2).trans (HKL3.out b h1 h2)),
     (show Blk W w.heap.size #[.slice none 0 0] 26 from(hold _ HRB3.out.lt (by have:=HLL.out;omega)).trans HRB3.out),
     (show Blk W (w.heap.size+1) #[.slice (some ⟨g,0,none⟩) (pl+1) ct] 26 from(hold _ HSB3.out.lt (by have:=HLL.out;omega)).trans HSB3.out),hbe5,hrel,(show wL.heap.size<=W.heap.size from by rw[hWs];exact Nat.le_trans HSZD.out HK5.out.size)⟩)
    have HEQ:=h! (show(its.take (i+1)).foldl stepD []=pre.map (·.1)++[⟨nn,(qr++[((n,r),Value.slice ao5 r.ps.length c5)]).map (·.1)⟩]from by
     rw[HFT.out,HTSS.out,stepD_rel,HRR.out];simp)
    rw[<- hW];clear hW hoth hWs hold hrel hbe5;go_wp2_with fail
    go_roundw
    case rel=>exact⟨i+1,_,by go_num,by omega,HALL.out.2.2.2.1,HALL.out.1,HALL.out.2.1,HALL.out.2.2.1,HALL.out.2.2.2.2.2,.inr ⟨pre,nn,_,_,HALL.out.2.2.2.2.1,HEQ.out,by have:=HPL.out;omega,by have:=HQL.out;simp;omega⟩⟩
    case measure=>simp[intOf];omega
  ·obtain rfl:i=its.length:=by omega
   have hsc:=HSB.out.cells;have hrc:=HRB.out.cells;have hrf:=HRB.out.free;obtain⟨cs,hcs,-⟩:=HST.out.own;obtain⟨aot,kt,ct,rfl,-,-,-⟩:=hcs.sl.len;rw[List.take_length]at HST;have hb1:=HRB.out.set_to 0 (.slice aot kt ct) rfl;have HFB:=h! hb1;have HFE:=h! (show Below w.heap.size w (wr.setCell ⟨w.heap.size,0,none⟩ (.slice aot kt ct))from setAt HBE.out);clear hb1 hrb hsb hcs;go_wp2_with fail
   refine bodyPost_ret (v := .tuple #[.agg #[.slice aot kt ct],.int .i64 0,.int .i64 0]) ?_ rfl ⟨_,rfl,?_,HFE.out⟩
   ·rw[results_cell_tmp2 rfl];have hl:=run_loadVar_row (P:=Tryz.prog) _ w.heap.size _ 26 _ _ _ HFB.out Tryz.underlying26 rfl (by kernel_rfl);simp[asAddr,hl,Result.andThen]
   ·refine(HST.out.tysAt.same (fun b hb=>Below.heap_setCell _ _ _ _ (by have:=HLL.out;have:=hb.1;show b≠w.heap.size;omega))).mono fun b hb=>⟨by have:=HLL.out;have:=hb.1;omega,by simpa using hb.2⟩
end Go.Proofs.YtlhaghoajpglaaaGreat
namespace Go.Proofs.YtlhaghoajpglaaaGreat
open Go Go.RowKit Go.Maps Go.Shelf
mutual
def RT.pcan (P:List (R2 × RT))(S:List R2)(typ:ByteArray):RT->Bool
 | .mk k a b ps=>if k=1 then true else if k=2 then decide ((⟨typ,a⟩:R2)∈S)else if k=3 then decide ((⟨typ,a⟩:R2)∈S)&&(whereP P b).any fun n=>decide ((⟨n,b⟩:R2)∈S)else if k=4 then pcanN P S typ ps||decide (ps.length=0)else pcanL P S typ ps
def pcanN (P:List (R2 × RT))(S:List R2)(typ:ByteArray):List RT->Bool | []=>false | r::rs=>r.pcan P S typ||pcanN P S typ rs
def pcanL (P:List (R2 × RT))(S:List R2)(typ:ByteArray):List RT->Bool | []=>true | r::rs=>r.pcan P S typ&&pcanL P S typ rs
end
def ClosedP (ts:List TyS)(S:List R2):Prop:=∀ x r,(x,r)∈refsOf ts->r.pcan (refsOf ts) S x.t=true->x∈S
structure LeastP (ts:List TyS)(S:List R2):Prop where
 sub:∀ x∈S,x∈(refsOf ts).map (·.1)
 least:∀ T,ClosedP ts T->∀ x∈S,x∈T
end Go.Proofs.YtlhaghoajpglaaaGreat
namespace Go.Proofs.YtlhaghoajpglaaaGreat
open Go Go.RowKit Go.Maps
def docB:ByteArray:=⟨#[100,111,99]⟩
def lnOkB (s:ByteArray)(it:PIt):Bool:=decide (s.size<=65536)&&(decide (2<=s.size)&&(!(s.data.toList.head? == some 32)&&(!(s.data.toList.head? == some 9)&&(!(decide (s.extract 0 2=⟨#[47,47]⟩))&&(s.data.toList.all plainC&&decide (toksD s=it.toks))))))
theorem lnOk_of {s:ByteArray} {it:PIt} (h:lnOkB s it=true):LnOk s it:=by
 unfold lnOkB at h;simp only[Bool.and_eq_true,decide_eq_true_eq,Bool.not_eq_true',decide_eq_false_iff_not]at h;obtain⟨h1,h2,h3,h4,h5,h6,h7⟩:=h
 have hhd:∀ hp:0<s.size,s.data.toList.head?=some s[0]:=fun hp=>by
  rw[List.head?_eq_getElem?,List.getElem?_eq_getElem (by simpa using hp)];rfl
 refine⟨h1,h2,fun hp=>⟨fun e=>?_,fun e=>?_⟩,h5,fun j hj=>?_,h7⟩
 ·rw[hhd hp,e]at h3;exact absurd h3 (by decide)
 ·rw[hhd hp,e]at h4;exact absurd h4 (by decide)
 ·rw[List.all_eq_true]at h6
  exact h6 _ (by
   have:s[j]=s.data.toList[j]'(by simpa using hj):=rfl;rw[this];exact List.getElem_mem _)
theorem lnsOk_of {ls:List ByteArray} {its:List PIt} (h:(ls.zip its).all (fun p=>lnOkB p.1 p.2)=true):∀ i (hi:i<its.length)(hj:i<ls.length),LnOk ls[i] its[i]:=fun i hi hj=>by
 rw[List.all_eq_true]at h;have hz:i<(ls.zip its).length:=by rw[List.length_zip];omega
 have:=h _ (List.getElem_mem hz);rw[List.getElem_zip]at this;exact lnOk_of this
def PIt.fitB:PIt->Bool
 | .ty n=>isNm n&&decide (n≠⟨#[116,104,105,115]⟩)
 | .rel n x ys=>isNm n&&(decide (n≠⟨#[116,104,105,115]⟩)&&(decide (n≠⟨#[116,121,112,101]⟩)&&((x::ys).all isNm&&decide (ys.length<=100000))))
theorem fits_of {its:List PIt} (h:its.all PIt.fitB=true):∀ it∈its,it.Fit:=fun it hit=>by
 rw[List.all_eq_true]at h;have:=h it hit;cases it with
 | ty n =>
  simp only[PIt.fitB,Bool.and_eq_true,decide_eq_true_eq]at this;exact this
 | rel n x ys =>
  simp only[PIt.fitB,Bool.and_eq_true,decide_eq_true_eq]at this;obtain⟨h1,h2,h3,h4,h5⟩:=this;exact⟨h1,h2,h3,fun z hz=>(List.all_eq_true.1 h4) z hz,h5⟩
end Go.Proofs.YtlhaghoajpglaaaGreat
namespace Go.Proofs.YtlhaghoajpglaaaGreat
open Go Go.RowKit Go.ChangeShapes Go.WideShapes Go.ChangeAt
section
variable {H : Type} {enc : TypeId × Value -> H} {P : Program} {w : World}
theorem mapM_some {α β:Type} {f:α->Option β}:∀ {l:List α} {r:List β},l.mapM f=some r->r.length=l.length/\∀ (i:Nat)(x:α),l[i]?=some x->f x=r[i]?:=by
 intro l;induction l with
 | nil=>intro r h;simp at h;subst h;exact⟨rfl,by simp⟩
 | cons a l ih =>
  intro r h;simp only[List.mapM_cons,Option.bind_eq_bind,Option.bind_eq_some_iff,Option.pure_def,Option.some.injEq]at h;obtain⟨b,hb,bs,hbs,rfl⟩:=h;obtain⟨h1,h2⟩:=ih hbs;refine⟨by simp[h1],fun i x hx=>?_⟩;cases i with
  | zero=>simp at hx;subst hx;simpa using hb
  | succ i=>simp at hx ⊢;exact h2 i x hx
theorem addr_add_add (a:Addr)(x y:Nat):(a.add x).add y=a.add (x+y):=by
 by_cases hx:x=0
 ·subst hx;simp[Addr.add]
 ·by_cases hy:y=0
  ·subst hy;simp[Addr.add]
  ·simp[Addr.add,hx,hy,Nat.add_assoc]
theorem cells_get {base:Nat} {a:Addr} {n:Nat} {cs:List Value} (h:w.cells? base a n=some cs):cs.length=n/\∀ j,j<n->w.cell? (a.add j)=cs[j]?:=by
 unfold World.cells? at h;split at h
 ·obtain⟨h1,h2⟩:=mapM_some h;refine⟨by simpa using h1,fun j hj=>h2 j j (by simp[hj])⟩
 ·cases h
theorem trodAll_stays {ts:List TypeId} (hl:laidOutB P=true) {W W':World} (hb:Below W.heap.size W W') :
  ∀ {vs:List Value} {ds:List (DataW H)} {ps:List MemPlace},(∀ t∈ts,P.readableRec t=true/\t<P.types.size)->(∀ x∈ps,x.block<W.heap.size) ->
   DataW.TrodAll enc P W 0 (fun _=>true) true ts vs ds ps->DataW.TrodAll enc P W' 0 (fun b=>decide (b<W.heap.size)) true ts vs ds ps:=by
 induction ts with
 | nil =>
  intro vs ds ps _ _ h;cases vs <;> cases ds <;> simp_all [DataW.TrodAll]
 | cons t ts ih =>
  intro vs ds ps hr hlt h;obtain⟨v,vs',d,ds',p,q,rfl,rfl,rfl,h1,h2⟩:=trodAll_cons h;exact trodAll_cons_mk (Below.trod hl (hr t (by simp)).1 (hr t (by simp)).2 h1 hb (fun x hx=>hlt x (by simp[hx]))) (ih (fun t ht=>hr t (by simp[ht])) (fun x hx=>hlt x (by simp[hx])) h2)
theorem law_post {f:Func} {s:ChangeSpec} {W W':World} {args:Array Value} {ds gs:List (DataW H)} {before:List MemPlace} {tb:TypeId}
  (hW:DataW.Whole enc P f.params.toList s.vars false W args.toList ds gs before) (hvars:s.vars=[]) (hres:f.resultTypes=#[tb]) (htb:P.underlying tb=some .bool)
  (hfn:(s.fn H (ds++gs)).results=[.lit (.bool true)]) (hfa:(s.fn H (ds++gs)).args=ds) (hfv:(s.fn H (ds++gs)).vars=[])
  (hl:laidOutB P=true) (hr:(f.params.toList.all fun t=>P.readableRec t&&decide (t<P.types.size))=true) (hb:Below W.heap.size W W') :
  s.post enc P f false true false false W args (.bool true) W':=by
 have hlt:=hW.lt;have hW0:=hW;obtain⟨p,q,hA,hV,rfl,_,_⟩:=hW;rw[hvars]at hV;refine⟨ds,gs,p++q,[],p,[],hW0,?_,?_,?_,hb.frame _,fun h=>by cases h⟩
 ·rw[hfn,hres];exact trodAll_mk1 (shut_bool htb true)
 ·rw[hfa];refine trodAll_stays hl hb (fun t ht=>?_) (fun x hx=>hlt x (by simp[hx])) hA;have:=List.all_eq_true.1 hr t ht;simpa using this
 ·rw[hfv,hvars];rfl
end
section
variable {H : Type} {enc : TypeId × Value -> H} {P : Program} {w : World}
theorem open_slF {fuel0:Nat} {t e:TypeId} {v:Value} {d:DataW H} {ps:List MemPlace} (ht:P.underlying t=some (.slice e))(hf:DataW.trod enc P w 0 (fun _=>true) true fuel0 t [v]=some (d,ps)) :
  ∃ (xs:List Value) (elems:List (DataW H × List MemPlace)) (fuel:Nat),(elems=[]\/fuel<fuel0)/\Sl (· < w.heap.size) w (P.cellsOf e) v xs/\xs.length=elems.length*P.cellsOf e /\
   (∀ i y,elems[i]?=some y->DataW.trod enc P w 0 (fun _=>true) true fuel e ((xs.drop (i*P.cellsOf e)).take (P.cellsOf e))=some y) /\
   (d = .nil/\elems=[]\/∃ rest,d = .slice (elems.map (·.1)) rest):=by
 rcases DataW.trod_slice ht hf with⟨hcs,hx⟩ | ⟨a,len,cap,elems,rest,n,hfu,hcs,hx,_,hlc,hcm,hlen,hel,_⟩
 ·obtain rfl:v = .slice none 0 0:=by simpa using hcs
  simp only[Prod.mk.injEq]at hx;exact⟨[],[],0,.inl rfl,Sl.nil _ w _,by simp,by simp,.inl ⟨hx.1,rfl⟩⟩
 ·obtain rfl:v = .slice (some a) len cap:=by simpa using hcs
  generalize hk:P.cellsOf e=k at *
  have hget:∀ i,i<len->∃ cs y,w.cells? 0 (a.add (i*k)) k=some cs/\elems[i]?=some y/\DataW.trod enc P w 0 (fun _=>true) true n e cs=some y:=by
   intro i hi;have h1:=hel i hi;obtain⟨y,hy⟩:∃ y,elems[i]?=some y:=⟨_,List.getElem?_eq_getElem (by omega)⟩;rw[hy]at h1;obtain⟨cs,hc1,hc2⟩:=Option.bind_eq_some_iff.1 h1;exact⟨cs,y,hc1,hy,hc2⟩
  -- the cells, one by one
  obtain⟨xs,hxl,hxs⟩:∃ xs:List Value,xs.length=len*k/\∀ i j,i<len->j<k->w.cell? (a.add (i*k+j))=xs[i*k+j]?:=by
   refine⟨(List.range (len*k)).map fun m=>(w.cell? (a.add m)).getD undef,by simp,fun i j hi hj=>?_⟩
   have hm:i*k+j<len*k:=by
    have:=Nat.mul_le_mul_right k (show i+1<=len from hi);rw[Nat.add_mul]at this;omega
   obtain⟨cs,y,hc1,_,_⟩:=hget i hi;obtain⟨hcl,hcc⟩:=cells_get hc1;have h2:=hcc j hj;rw[addr_add_add]at h2;rw[h2,List.getElem?_eq_getElem (by omega)];simp[hm,h2,List.getElem?_eq_getElem (show j<cs.length by omega)]
  have hxm:∀ m u,xs[m]?=some u->w.cell? (a.add m)=some u:=by
   intro m u hu;have hml:m<len*k:=by rw[<- hxl];exact(List.getElem?_eq_some_iff.1 hu).1
   have hk0:0<k:=by
    apply Nat.pos_of_ne_zero;intro h0;rw[h0]at hml;omega
   have hdm:=Nat.div_add_mod m k;have hi:m / k<len:=(Nat.div_lt_iff_lt_mul hk0).2 hml;have:=hxs (m / k) (m % k) hi (Nat.mod_lt _ hk0);rw[Nat.mul_comm,hdm]at this;rw[this,hu]
  refine⟨xs,elems,n,.inr (by omega),⟨some a,len,cap,rfl,hxl,hlc,hcm,fun h=>(by cases h),fun hne=>?_⟩,by rw[hxl,hlen],fun i y hy=>?_,.inr ⟨rest.map (·.1),?_⟩⟩
  ·obtain⟨u,hu⟩:∃ u,xs[0]?=some u:=by
    cases xs with
    | nil=>exact absurd rfl hne
    | cons x _=>exact⟨x,rfl⟩
   have h0:=hxm 0 u hu;obtain⟨b,off,s⟩:=a
   have hs:s=none:=by
    cases s with
    | none=>rfl
    | some s =>
     exfalso
     simp only[Addr.add,World.cell?]at h0;split at h0 <;> simp at h0
   subst hs;have hb:=World.block_lt_of_cell? w _ h0;rw[Addr.add_lit]at hb;exact⟨b,off,rfl,hb,fun j u hu=>by have:=hxm j u hu;rwa[Addr.add_lit]at this⟩
  ·have hi:i<len:=by rw[<- hlen];exact(List.getElem?_eq_some_iff.1 hy).1
   obtain⟨cs,y',hc1,hy',hc2⟩:=hget i hi;obtain rfl:y=y':=by rw[hy]at hy';exact Option.some.inj hy'
   obtain⟨hcl,hcc⟩:=cells_get hc1
   have:(xs.drop (i*k)).take k=cs:=by
    apply List.ext_getElem?;intro j;rw[List.getElem?_take];split
    ·rename_i hj
     rw[List.getElem?_drop,<- hxs i j hi hj,<- hcc j hj,addr_add_add]
    ·rename_i hj
     rw[List.getElem?_eq_none (by omega)]
   rw[this];exact hc2
  ·simp only[Prod.mk.injEq]at hx;exact hx.1
theorem open_rowsB {α:Type} (ec:α->List Value)(Q:α->DataW H->Prop) {t e:TypeId} {v:Value} {fuel0:Nat} {y0:DataW H × List MemPlace} {sz:Nat}
  (ht:P.underlying t=some (.slice e)) (hsz:P.cellsOf e=sz) (h:DataW.trod enc P w 0 (fun _=>true) true fuel0 t [v]=some y0)
  (hel:∀ fuel,fuel<fuel0->∀ cs y,DataW.trod enc P w 0 (fun _=>true) true fuel e cs=some y->∃ a,cs=ec a/\Q a y.1) :
  ∃ l:List (α × DataW H),Sl (· < w.heap.size) w sz v ((l.map (·.1)).flatMap ec)/\(∀ p∈l,Q p.1 p.2)/\(l=[]\/∃ rest,y0.1 = .slice (l.map (·.2)) rest):=by
 obtain⟨xs,elems,fuel,hfu,hs,hl,he,hd⟩:=open_slF ht (d:=y0.1) (ps:=y0.2) h;rw[hsz]at hs hl he
 have main:∀ n,n<=elems.length->∃ l:List (α × DataW H),l.length=n/\xs.take (n*sz)=(l.map (·.1)).flatMap ec/\l.map (·.2)=(elems.take n).map (·.1)/\∀ p∈l,Q p.1 p.2:=by
  intro n;induction n with
  | zero=>intro _;exact⟨[],rfl,by simp,by simp,by simp⟩
  | succ n ih =>
   intro hn;obtain⟨l,hl0,hl1,hl3,hl2⟩:=ih (by omega)
   have hf:fuel<fuel0:=by
    rcases hfu with h | h
    ·rw[h]at hn;simp at hn
    ·exact h
   obtain⟨a,ha,hq⟩:=hel _ hf _ _ (he n elems[n] (List.getElem?_eq_getElem (by omega)));refine⟨l++[(a,elems[n].1)],by simp[hl0],?_,?_,fun b hb=>?_⟩
   ·rw[Nat.add_mul,Nat.one_mul,List.take_add,hl1,ha,List.map_append,List.flatMap_append];simp
   ·rw[List.map_append,hl3,List.take_succ_eq_append_getElem (by omega),List.map_append];rfl
   ·rcases List.mem_append.1 hb with hb | hb
    ·exact hl2 b hb
    ·obtain rfl:b=(a,elems[n].1):=by simpa using hb
     exact hq
 obtain⟨l,hl0,hl1,hl3,hl2⟩:=main elems.length (Nat.le_refl _);rw[<- hl,List.take_length]at hl1;rw[List.take_length]at hl3;refine⟨l,hl1▸hs,hl2,?_⟩;rcases hd with⟨_,rfl⟩ | ⟨rest,hd⟩
 ·exact .inl (List.eq_nil_of_length_eq_zero (by simpa using hl0))
 ·exact .inr ⟨rest,by rw[hl3];exact hd⟩
end
mutual
def RT.bk:RT->Nat | .mk _ a b ps=>5+a.size+b.size+bkL ps
def bkL:List RT->Nat | []=>0 | r::rs=>r.bk+bkL rs
end
def relBk (x:ByteArray × RT):Nat:=2+x.1.size+x.2.bk
def sumN {α:Type} (f:α->Nat):List α->Nat | []=>0 | x::l=>f x+sumN f l
theorem relBk_eq (x:ByteArray × RT):relBk x=2+x.1.size+x.2.bk:=rfl
def tyBk (t:TyS):Nat:=2+t.name.size+sumN relBk t.rels
theorem tyBk_eq (t:TyS):tyBk t=2+t.name.size+sumN relBk t.rels:=rfl
theorem bulk_sum {H α:Type} {f:α->Nat}:∀ {l:List (α × DataW H)},(∀ p∈l,f p.1<=Rows.uptoBulk p.2)->sumN f (l.map (·.1))<=Rows.uptoBulkAll (l.map (·.2))
 | [],_=>Nat.zero_le _
 | p::l,h=>by
  rw[List.map_cons,List.map_cons,sumN,Rows.uptoBulkAll];have h1:=h p List.mem_cons_self;have h2:=bulk_sum (l:=l) fun q hq=>h q (List.mem_cons_of_mem _ hq);omega
theorem bulk_pos {H:Type} (d:DataW H):1<=Rows.uptoBulk d:=by
 cases d with
 | lit l=>cases l <;> simp[Rows.uptoBulk]
 | nil=>simp[Rows.uptoBulk]
 | ptr d=>simp[Rows.uptoBulk]
 | slice elems spare=>simp[Rows.uptoBulk]
 | agg parts=>simp[Rows.uptoBulk]
 | iface t d=>simp[Rows.uptoBulk]
 | map entries=>simp[Rows.uptoBulk]
 | held h=>simp[Rows.uptoBulk]
theorem bulk_row {H α:Type} {f:α->Nat} {l:List (α × DataW H)} {d:DataW H} (hd:l=[]\/∃ rest,d = .slice (l.map (·.2)) rest)(h:∀ p∈l,f p.1<=Rows.uptoBulk p.2):sumN f (l.map (·.1))+1<=Rows.uptoBulk d:=by
 rcases hd with rfl | ⟨rest,rfl⟩
 ·have:=bulk_pos d;simpa [sumN] using this
 ·rw[Rows.uptoBulk];have:=bulk_sum (f:=f) h;omega
theorem sumN_map {α β:Type} (g:β->Nat)(f:α->β)(l:List α):sumN (fun x=>g (f x)) l=sumN g (l.map f):=by
 induction l with
 | nil=>rfl
 | cons x l ih=>rw[List.map_cons,sumN,sumN,ih]
theorem sumN_mem {α:Type} (f:α->Nat) {a:α}:∀ {l:List α},a∈l->f a<=sumN f l
 | x::l,h=>by
  rw[sumN];rcases List.mem_cons.1 h with rfl | h
  ·omega
  ·have:=sumN_mem f h;omega
section
variable {H : Type} {enc : TypeId × Value -> H} {W : World} {base : Nat} {v : Value} {d : DataW H} {ps : List MemPlace}
def schBk (ts:List TyS):Nat:=sumN tyBk ts
end
theorem sz_bk (r:RT):5*r.sz<=r.bk/\5+r.a.size+r.b.size<=r.bk:=by
 induction r using RT.ind with
 | h r ih =>
  obtain⟨k,a,b,ps⟩:=r
  have:5*szL ps<=bkL ps:=by
   have hh:∀ p∈ps,5*p.sz<=p.bk:=fun p hp=>(ih p hp).1;clear ih;induction ps with
   | nil=>simp[szL,bkL]
   | cons x ps ih =>
    rw[szL,bkL];have h1:=hh x List.mem_cons_self;have h2:=ih fun p hp=>hh p (List.mem_cons_of_mem _ hp);omega
  rw[RT.sz,RT.bk];refine⟨by omega,?_⟩;show 5+a.size+b.size<=_
  omega
theorem sz_sch {ts:List TyS} (h:schBk ts<=1048576):∀ t∈ts,∀ r∈t.rels,r.2.sz<=1000000:=fun t ht r hr=>by
 have h1:=sumN_mem tyBk ht;have h2:=sumN_mem relBk hr;have h3:=(sz_bk r.2).1;unfold schBk at h;have h4:=tyBk_eq t;have h5:=relBk_eq r;omega
end Go.Proofs.YtlhaghoajpglaaaGreat
namespace Go.Proofs.YtlhaghoajpglaaaGreat
open Go Go.RowKit Go.Maps
theorem chk_uniq {ts:List TyS} (h:chk06 ts=0):uniqOk ts=true:=by
 unfold chk06 at h;split at h
 ·split at h
  ·split at h
   ·assumption
   ·cases h
  ·cases h
 ·cases h
def shutM (l:List R2):List (R2 × Bool):=l.foldl (fun m r=>putA m r true) []
theorem shutM_snoc (l:List R2)(r:R2):shutM (l++[r])=putA (shutM l) r true:=by simp[shutM,List.foldl_append]
theorem look_shut (r:R2)(l:List R2):lookA (shutM l) r=if r∈l then some true else none:=by
 suffices h:∀ n,∀ l:List R2,l.length=n->lookA (shutM l) r=if r∈l then some true else none from h _ l rfl
 intro n;induction n with
 | zero=>intro l h;rw[List.eq_nil_of_length_eq_zero h];rfl
 | succ n ih =>
  intro l h;rcases List.eq_nil_or_concat l with rfl | ⟨l',x,rfl⟩
  ·simp at h
  ·rw[List.concat_eq_append]at h ⊢;rw[shutM_snoc,look_put,ih l' (by simpa using h)];by_cases e:x=r
   ·subst e;simp
   ·have e2:¬ r=x:=fun h=>e h.symm;simp[e,e2]
theorem shut_take {l:List R2} {i:Nat} (hi:i<l.length):shutM (l.take (i+1))=putA (shutM (l.take i)) l[i] true:=by
 rw[List.take_succ_eq_append_getElem hi,shutM_snoc]
structure WalkIn (ts:List TyS)(T:List Tup)(shut:List R2)(p:P3)(N:Nat):Prop where
 okp:∀ n,∀ x∈(walkN ts T shut p n).1,x.Ok
 few:∀ n,(walkN ts T shut p n).1.length<=N
 room:∀ x∈refsOf ts,x.2.sz*(T.length+1)+N<=1073741824
 nmax:N<=1073741823
 rok:∀ x∈refsOf ts,x.2.Ok
 tok:∀ t∈T,t.s.Ok
 tlen:T.length<=1000000
theorem Own.setAtR {w:World} {B:Nat} {e:TypeId} {sz:Nat} {g n c:Nat} {xs:List Value} (h:Own w B e sz (.slice (some ⟨g,0,none⟩) n c) xs)(i:Nat)(u:Value):Own (w.setCell ⟨g,i,none⟩ u) B e sz (.slice (some ⟨g,0,none⟩) n c) (xs.set i u):=by
 obtain⟨m,h⟩:=h;rcases h.2 with⟨hv,rfl⟩ | ⟨g',cap,cur,hv,hbg,hg,hnc,hcm,hcs,htake⟩
 ·cases hv
 ·cases hv;refine⟨n,by rw[List.length_set];exact h.1,.inr ⟨g,c,cur.setIfInBounds i u,rfl,hbg,heap_setCell_same w g i cur e u hg,hnc,hcm,by simpa using hcs,?_⟩⟩;rw[Array.toList_setIfInBounds,<- htake,List.take_set]
theorem set_four (xs:List Value)(a b c d p q r s:Value) {k:Nat} (hk:k=xs.length):((((xs++[p,q,r,s]).set k a).set (k+1) b).set (k+2) c).set (k+3) d=xs++[a,b,c,d]:=by
 subst hk;rw[List.set_append_right _ _ (Nat.le_refl _)];rw[List.set_append_right _ _ (by omega)];rw[List.set_append_right _ _ (by omega)];rw[List.set_append_right _ _ (by omega)];simp
theorem four_cells {w:World} {B:Nat} {e:TypeId} {sz:Nat} {g n c:Nat} {xs:List Value} {p q r s:Value} (h:Own w B e sz (.slice (some ⟨g,0,none⟩) n c) (xs++[p,q,r,s])) {k:Nat} (hk:k=xs.length):w.cell? ⟨g,k,none⟩=some p/\w.cell? ⟨g,k+1,none⟩=some q/\w.cell? ⟨g,k+2,none⟩=some r/\w.cell? ⟨g,k+3,none⟩=some s:=by
 obtain⟨m,h⟩:=h;have hc:=h.cells (g:=g) rfl;subst hk
 have hh:∀ j u,[p,q,r,s][j]?=some u->w.cell? ⟨g,xs.length+j,none⟩=some u:=fun j u hu=>by
  have:=hc (xs.length+j) u (by rw[List.getElem?_append_right (by omega)];simpa using hu);rwa[Addr.add_lit,Nat.zero_add]at this
 exact⟨hh 0 p rfl,hh 1 q rfl,hh 2 r rfl,hh 3 s rfl⟩
def World.setForm (w:World)(g k:Nat)(a b c d:Value):World:=(((w.setCell ⟨g,k,none⟩ a).setCell ⟨g,k+1,none⟩ b).setCell ⟨g,k+2,none⟩ c).setCell ⟨g,k+3,none⟩ d
theorem setForm_other (w:World)(g k:Nat)(a b c d:Value) {x:Nat} (hx:x≠g):(World.setForm w g k a b c d).heap[x]?=w.heap[x]?:=by
 unfold World.setForm;rw[Below.heap_setCell _ _ _ x hx,Below.heap_setCell _ _ _ x hx,Below.heap_setCell _ _ _ x hx,Below.heap_setCell _ _ _ x hx]
theorem setForm_size (w:World)(g k:Nat)(a b c d:Value):(World.setForm w g k a b c d).heap.size=w.heap.size:=by
 unfold World.setForm;simp
theorem Own.setForm {w:World} {B:Nat} {e:TypeId} {sz:Nat} {g n c:Nat} {xs:List Value} {p q r s:Value} (h:Own w B e sz (.slice (some ⟨g,0,none⟩) n c) (xs++[p,q,r,s])) {k:Nat} (hk:k=xs.length)(x0 x1 x2 x3:Value):Own (World.setForm w g k x0 x1 x2 x3) B e sz (.slice (some ⟨g,0,none⟩) n c) (xs++[x0,x1,x2,x3]):=by
 have:=(((h.setAtR k x0).setAtR (k+1) x1).setAtR (k+2) x2).setAtR (k+3) x3;rwa[set_four _ _ _ _ _ _ _ _ _ hk]at this
structure StepOk (wz w8:World)(wp am ash lo B:Nat)(tv fi sm pv fv6:Value)(ps:List P3)(shut:List R2)(q:List (FT × FV3)):Prop where
 walk:WkAt w8 wp am B tv fi sm ps pv fv6
 row:FRow lo w8 q fv6
 shut:Mp Tryz.prog 121 r2V bV w8 ash (shutM shut)
 below:Below B wz w8
theorem step_ok {wz we w3 w6 w8:World} {wp am ash lo B n0:Nat} {tv fi sm pv fv:Value} {ps:List P3} {shut:List R2} {q:List (FT × FV3)} {x:FT} {v:FV3} {g n c:Nat}
  (hw:WkAt we wp am B tv fi sm ps pv fv) (hr:FRow lo we q fv) (hs:Mp Tryz.prog 121 r2V bV we ash (shutM shut)) (hz:Below B wz we) (_hBz:B<=lo) (hlo:wp<lo/\am<lo/\ash<lo) (hash:ash≠wp/\ash≠am) (hlw:lo<=we.heap.size)
  (hx:FTAt (FS n0 we) we x v) (hn0:lo<=n0) (hfv:∀ g,fv.ownBlock=some g->g<n0) (hBw:B<=wp)
  (h3:Ext we w3) (hg:w3.grownBy w6 fv.ownBlock) (hb:∀ g',(Value.slice (some ⟨g,0,none⟩) n c).ownBlock=some g'->fv.ownBlock=some g'\/w3.heap.size<=g')
  (ho:Own w8 lo 128 4 (.slice (some ⟨g,0,none⟩) n c) (q.flatMap fC++fC (x,v))) (hbx:Blk w8 wp #[tv,fi,sm,.map (some am),pv,.slice (some ⟨g,0,none⟩) n c,.int .i64 0] 251)
  (h8:∀ y,y≠g->y≠wp->w8.heap[y]?=w6.heap[y]?) (hsz:w8.heap.size=w6.heap.size) (hos:w8.os=w6.os/\w8.tape=w6.tape/\w8.output=w6.output):StepOk wz w8 wp am ash lo B tv fi sm pv (.slice (some ⟨g,0,none⟩) n c) ps shut (q++[(x,v)]):=by
 have hgb:fv.ownBlock=some g\/w3.heap.size<=g:=hb g rfl
 have hglo:lo<=g:=by
  rcases hgb with h | h
  ·exact(hr.row.block g h).1
  ·exact Nat.le_trans (Nat.le_trans hlw h3.size) h
 have h6:∀ y,y<we.heap.size->fv.ownBlock≠some y->w6.heap[y]?=we.heap[y]?:=fun y hy hn=>(hg.block y (Nat.lt_of_lt_of_le hy h3.size) fun e=>hn e.symm).trans (h3.block y hy)
 have hgx:∀ y,y<we.heap.size->fv.ownBlock≠some y->y≠g:=fun y hy hn e=>by
  subst e;rcases hgb with h | h
  ·exact hn h
  ·have:=h3.size;omega
 have h86:∀ y,y<we.heap.size->fv.ownBlock≠some y->y≠wp->w8.heap[y]?=we.heap[y]?:=fun y hy hn hp=>(h8 y (hgx y hy hn) hp).trans (h6 y hy hn);have hlfv:∀ y,y<lo->fv.ownBlock≠some y:=fun y hy e=>by have:=(hr.row.block y e).1;omega
 have hz3:=h3.size;have hz6:=hg.size;refine⟨⟨hbx,hw.num.same (h86 _ hw.num.lt (hlfv _ hlo.2.1) hw.ne.symm),hw.pts.keepOwn fun y hy=>?_⟩,?_,hs.same (h86 _ hs.lt (hlfv _ hlo.2.2) hash.1),?_⟩
 ·have hyn:=hw.ptNe y hy;exact h86 y (hw.pts.block y hy).2 (fun e=>hr.row.apart hw.pts (by decide) e hy) hyn.1
 ·refine⟨by rw[List.flatMap_append];simpa using ho,fun y hy=>?_⟩
  have hm:∀ b,(FS lo we b/\fv.ownBlock≠some b)->(FS lo w8 b/\(Value.slice (some ⟨g,0,none⟩) n c).ownBlock≠some b):=fun b hb'=>⟨⟨hb'.1.1,Nat.lt_of_lt_of_le hb'.1.2.1 (by omega),fun cs=>by rw[h86 b hb'.1.2.1 hb'.2 (by have:=hb'.1.1;omega)];exact hb'.1.2.2 cs⟩,fun e=>by
   injection e with e
   exact hgx b hb'.1.2.1 hb'.2 e.symm⟩
  have hsame:∀ b,(FS lo we b/\fv.ownBlock≠some b)->w8.heap[b]?=we.heap[b]?:=fun b hb'=>h86 b hb'.1.2.1 hb'.2 (by have:=hb'.1.1;omega);rcases List.mem_append.1 hy with hy | hy
  ·exact((hr.parts y hy).same hsame).mono hm
  ·obtain rfl:=List.mem_singleton.1 hy;exact((hx.mono fun b hb'=>(⟨hb'.mono hn0,fun e=>by have:=hfv b e;have:=hb'.1;omega⟩:FS lo we b/\fv.ownBlock≠some b)).same hsame).mono hm
 ·have hz1:=hz.size;refine hz.trans ⟨hos.1.trans (hg.os.trans h3.os),hos.2.1.trans (hg.tape.trans h3.tape),hos.2.2.trans (hg.output.trans h3.output),by omega,fun y hy=>h86 y (by omega) (hlfv _ (by omega)) (by omega)⟩
theorem ft_zero (S:Nat->Prop)(w:World):FTAt S w FT.zero (.slice none 0 0,.slice none 0 0,.slice none 0 0):=(FTAt.iff _ _).2 ⟨Sl.nil _ _ _,Sl.nil _ _ _,[],rfl,(fun x hx=>by cases hx),Sl.nil _ _ _⟩
theorem stepG_none {ts:List TyS} {T:List Tup} {shut:List R2} {p:P3} {ps:List P3} (h:ruleOf ts shut p=none):stepG ts T shut p ps=(FT.zero,ps):=by unfold stepG;rw[h]
theorem stepG_some {ts:List TyS} {T:List Tup} {shut:List R2} {p:P3} {ps:List P3} {r:RT} (h:ruleOf ts shut p=some r):stepG ts T shut p ps=formD T p r ps:=by unfold stepG;rw[h]
def WalkSaid (ts:List TyS)(T:List Tup)(shut:List R2)(p:P3)(most:Int)(w:World)(e:Ending)(w':World):Prop:=Ext w w'/\((∃ n pv fv,WalkEnd ts T shut p most n/\e = .returned (.tuple #[.agg #[pv,fv],.int .i64 0])/\GrAt (fun x=>w.heap.size<=x/\x<w'.heap.size) w' (walkN ts T shut p n).1 (walkN ts T shut p n).2 pv fv)\/(WalkLong ts T shut p most/\e = .returned (.tuple #[.agg #[.slice none 0 0,.slice none 0 0],.int .i64 10])))
theorem WalkAt.le {ts:List TyS} {T:List Tup} {shut:List R2} {p:P3} {most:Int} {n:Nat} (h:WalkAt ts T shut p most n):n<=(walkN ts T shut p n).1.length:=by
 cases n with
 | zero=>exact Nat.zero_le _
 | succ n =>
  have h1:=(h n (Nat.lt_succ_self n)).1;have h2:=walk_mono ts T shut p (show n<=n+1 by omega);omega
theorem walkW_any (ts:List TyS)(tv:Value)(b:Nat)(T:List Tup)(shut:List R2)(sv:Value)(p:P3)(most:Int)(N:Nat)(w:World)(h:TysAt (· < w.heap.size) w ts tv)(hok:∀ t∈ts,t.Ok)(hc:chk06 ts=0)(hsB:schB ts<=549755813888)(hsz:∀ t∈ts,∀ r∈t.rels,r.2.sz<=1000000)(hln:(namesOf ts).length<=1099511627776)(hlr:(refsOf ts).length<=1099511627776)
  (hbk:BookAt w b T) (hsv:Sl (· < w.heap.size) w 2 sv (shut.flatMap r2C)) (hso:∀ r∈shut,r.Ok) (hin:WalkIn ts T shut p N) :
  Calls Tryz.prog 98 #[.agg #[tv],bkV b,sv,pV p,.int .i64 most] w fun e w'=>WalkSaid ts T shut p most w e w':=by
 have HIN:=h! hin;have HOKT:=h! hok;have HLR:=h! hlr;have HU:=h! (chk_uniq hc);have HSO:=h! hso;obtain⟨ao,c,rfl,-⟩:=h.rows;obtain⟨so,sc,rfl,hs1,hs2,-⟩:=Sl.rows r2C_length (by decide) hsv;have HSH:=h! (show shut.length<=9223372036854775807 from by omega);clear hs1 hs2;obtain⟨wa,hwa⟩:∃ x,x=w.alloc (.cells #[.slice ao ts.length c] 26):=⟨_,rfl⟩;obtain⟨wb,hwb⟩:∃ x,x=wa.alloc (.cells #[.string p.t,.string p.i,.string p.r] 32):=⟨_,rfl⟩;obtain⟨wc,hwc⟩:∃ x,x=wb.alloc (.cells #[.slice none 0 0,.slice none 0 0] 96):=⟨_,rfl⟩;have ea:wa.heap.size=w.heap.size+1:=by rw[hwa];simp
 have eb:wb.heap.size=w.heap.size+2:=by rw[hwb];simp[ea]
 have ec:wc.heap.size=w.heap.size+3:=by rw[hwc];simp[eb]
 have xa:Ext w wa:=by rw[hwa];exact Ext.alloc _ _
 have xb:Ext wa wb:=by rw[hwb];exact Ext.alloc _ _
 have xc:Ext wb wc:=by rw[hwc];exact Ext.alloc _ _
 have XC:=h! (show Ext w wc from xa.trans (xb.trans xc));have CZ:=h! ec;have CS:=h! (show Blk wc w.heap.size #[.slice ao ts.length c] 26 from Blk.below (by rw[hwa];exact Blk.made _ _ _) (xb.trans xc));have CP:=h! (show Blk wc (w.heap.size+1) #[.string p.t,.string p.i,.string p.r] 32 from Blk.below (by rw[hwb,<- ea];exact Blk.made _ _ _) xc);have CG:=h! (show Blk wc (w.heap.size+2) #[.slice none 0 0,.slice none 0 0] 96 from by rw[hwc,<- eb];exact Blk.made _ _ _);have CT:=h! (h.up XC.out);have CK:=h! (hbk.ext XC.out);have CV:=h! ((hsv.same (Same.below XC.out)).mono (T:=fun x=>x<wc.heap.size) fun x hx=>Nat.lt_of_lt_of_le hx XC.out.size)
 have HCK:=h! (show Calls Tryz.prog 74 #[.agg #[.slice ao ts.length c]] wc fun e w'=>e = .returned (.int .i64 0)/\Below wc.heap.size wc w' from by
  have h1:=checkP_any ts (.slice ao ts.length c) wc CT.out hok hsB hsz hln hlr;rw[hc]at h1;exact h1)
 clear h hok hc hsB hsz hln hlr hbk hsv hso hin ea eb ec xa xb xc;subst hwc hwb hwa;have cs0:=CS.out.cells;unfold pV;have hq:∀ W,(binOp BinOp.eql 139 (bkV b) .nilIface).run Tryz.prog W = .ok (.bool false) W:=fun _=>by kernel_rfl
 go_enter Tryz.func98,Tryz.ntmps98
 go_wp2_with fail
 refine HCK.out.mono ?_;rintro e w2 ⟨rfl,hx2⟩;have X2:=h! (show Ext w w2 from XC.out.trans hx2);have Z2:=h! (show w.heap.size+3<=w2.heap.size from by have:=CZ.out;have:=hx2.size;omega);have S2:=h! (CS.out.below hx2);have P2:=h! (CP.out.below hx2);have G2:=h! (CG.out.below hx2);have T2:=h! (CT.out.up hx2);have K2:=h! (CK.out.ext hx2);have V2:=h! ((CV.out.same (Same.below hx2)).mono (T:=fun x=>x<w2.heap.size) fun x hx=>Nat.lt_of_lt_of_le hx hx2.size);clear cs0 HCK hx2 XC CZ CS CP CG CT CK CV;obtain⟨tv,htv⟩:∃ tv,tv=Value.slice ao ts.length c:=⟨_,rfl⟩;obtain⟨w3,hw3⟩:∃ x,x=w2.alloc (.map #[] 0):=⟨_,rfl⟩;obtain⟨w4,hw4⟩:∃ x,x=w3.alloc (.map #[] 0):=⟨_,rfl⟩;obtain⟨w5,hw5⟩:∃ x,x=w4.alloc (.cells #[tv,bkV b,.map (some w2.heap.size),.map (some (w2.heap.size+1)),.slice none 0 0,.slice none 0 0,.int .i64 0] 251):=⟨_,rfl⟩;have e3:w3.heap.size=w2.heap.size+1:=by rw[hw3];simp
 have e4:w4.heap.size=w2.heap.size+2:=by rw[hw4];simp[e3]
 have e5:w5.heap.size=w2.heap.size+3:=by rw[hw5];simp[e4]
 have x3:Ext w2 w3:=by rw[hw3];exact Ext.alloc _ _
 have x4:Ext w3 w4:=by rw[hw4];exact Ext.alloc _ _
 have x5:Ext w4 w5:=by rw[hw5];exact Ext.alloc _ _
 have X5:=h! (show Below w2.heap.size w2 w5 from x3.trans (x4.trans x5));have Z5:=h! e5;have M5:=h! (show Mp Tryz.prog 121 r2V bV w5 w2.heap.size (shutM [])from Mp.below (by rw[hw3];exact Mp.made _) (x4.trans x5));have W5:=h! (show WkAt w5 (w2.heap.size+2) (w2.heap.size+1) w2.heap.size tv (bkV b) (.map (some w2.heap.size)) [] (.slice none 0 0) (.slice none 0 0)from⟨by rw[hw5,<- e4];exact Blk.made _ _ _,Mp.below (by rw[hw4,<- e3];exact Mp.made _) x5,Own.nil _ _ _ _⟩);clear e3 e4 e5 x3 x4 x5;have hmm:=@run_makeMap Tryz.prog;have cs2:=S2.out.cells;subst hw5 hw4 hw3 htv;go_wp2_with fail
 clear cs2 hmm hq;obtain⟨tv,htv⟩:∃ tv,tv=Value.slice ao ts.length c:=⟨_,rfl⟩;obtain⟨w5,hw5⟩:∃ x,x=((w2.alloc (.map #[] 0)).alloc (.map #[] 0)).alloc (.cells #[.slice ao ts.length c,bkV b,.map (some w2.heap.size),.map (some (w2.heap.size+1)),.slice none 0 0,.slice none 0 0,.int .i64 0] 251):=⟨_,rfl⟩;rw[<- hw5]at X5 Z5 M5 W5 ⊢;clear hw5;rw[<- htv]at W5 T2;have HTV:=h! htv;clear htv;go_loopw [38] (fun iv wr=>∃ i:Nat,i<=shut.length/\iv = .int .i64 i/\WkAt wr (w2.heap.size+2) (w2.heap.size+1) w2.heap.size tv (bkV b) (.map (some w2.heap.size)) [] (.slice none 0 0) (.slice none 0 0)/\Mp Tryz.prog 121 r2V bV wr w2.heap.size (shutM (shut.take i))/\Below w2.heap.size w2 wr/\w2.heap.size+3<=wr.heap.size) (fun iv _=>shut.length-(intOf iv).toNat)
 case atStart=>exact⟨0,Nat.zero_le _,rfl,W5.out,M5.out,X5.out,Nat.le_of_eq Z5.out.symm⟩
 case round =>
  obtain⟨i,hi,rfl,hwk,hmp,hbl,hzz⟩:=hrel;have RW:=h! hwk;have RM:=h! hmp;have RB:=h! hbl;have RZ:=h! hzz;clear W5 M5 X5 Z5 hwk hmp hbl hzz;by_cases hlt:i<shut.length
  ·obtain⟨ao',c',he',-,-,hcell⟩:=Sl.rows r2C_length (by decide) (V2.out.same (w':=wr) fun x hx=>RB.out.block x hx);cases he';obtain⟨bq,oq,rfl,-,hcell⟩:=hcell (by omega);have d0:wr.cell? ⟨bq,oq+i*2,none⟩=some (.string shut[i].t):=hcell i hlt 0 _ rfl;have d1:wr.cell? ⟨bq,oq+i*2+1,none⟩=some (.string shut[i].r):=hcell i hlt 1 _ rfl;have HTK:=h! (shut_take hlt);have HLT:=h! hlt;have HOR:=h! (HSO.out shut[i] (List.getElem_mem hlt));generalize shut[i]=r at *;obtain⟨rt,rr⟩:=r;dsimp only at d0 d1;clear hcell hi hlt;go_wp2_with fail
   clear d0 d1;obtain⟨wd,hwd⟩:∃ wd,wd=(wr.alloc (.cells #[.string rt,.string rr] 121)).drew:=⟨_,rfl⟩;have DX:=h! (show Ext wr wd from by rw[hwd];exact(Ext.alloc _ _).trans (Ext.drew _));have DR:=h! (show Blk wd wr.heap.size #[.string rt,.string rr] 121 from by rw[hwd];exact(Blk.made _ _ _).drew);have DW:=h! (RW.out.ext DX.out);have DM:=h! (RM.out.below DX.out);have DB:=h! (show Below w2.heap.size w2 wd from RB.out.trans (DX.out.mono (by have:=RZ.out;omega)));have DZ:=h! (show w2.heap.size+3<=wd.heap.size from Nat.le_trans RZ.out DX.out.size);refine r! (Kept (· ≠ w2.heap.size) wd) (by rw[<- hwd];exact Kept.refl _ _) ?_;rw[<- hwd];clear hwd RW RM DX;have h1:=fun W (h:Kept (· ≠ w2.heap.size) wd W)=>(h.blk DW.out.box (by show w2.heap.size+2≠w2.heap.size;omega)).cells;have h2:=fun W (h:Kept (· ≠ w2.heap.size) wd W)=>(h.blk DR.out (by show wr.heap.size≠w2.heap.size;have:=RZ.out;omega)).cells;(refine WalkN.tk [0,1,2,3,4] ?_;(iterate 5 (refine c! ?_));refine TkN.n ?_)
   clear h1 h2;obtain⟨wf,hrun,hMf,hTf⟩:=DM.out.store refK r2V_inj Tryz.underlying141 (ref_key ⟨rt,rr⟩ HOR.out) true;have FM:=h! hMf;unfold r2V bV at hrun;dsimp only at hrun;refine o! 5 ?_;refine b! ?_;intro K hK;go_simp;refine hK.out _ _ hTf.kept ?_;clear hK hrun hMf;refine d! ?_;have FW:=h! (DW.out.same (hTf.kept.block _ (by show w2.heap.size+2≠w2.heap.size;omega)) (hTf.kept.block _ (by show w2.heap.size+1≠w2.heap.size;omega)) (fun g hg=>by cases hg));have FB:=h! (show Below w2.heap.size w2 wf from DB.out.trans (hTf.below (Nat.le_refl _)));have FZ:=h! (show w2.heap.size+3<=wf.heap.size from by rw[hTf.size];exact DZ.out);clear hTf DW DM DB DR;have hsh:=HSH.out;have hil:=HLT.out;go_wp2_with fail
   go_roundw
   case rel=>exact⟨i+1,HLT.out,by go_num,FW.out,by rw[HTK.out];exact FM.out,FB.out,FZ.out⟩
   case measure=>have:=HLT.out;simp[intOf];omega
  ·obtain rfl:i=shut.length:=by omega
   have HTA:=h! (show shut.take shut.length=shut from List.take_length);rw[HTA.out]at RM;have HNB:=h! (number_any (w2.heap.size+2) (w2.heap.size+1) w2.heap.size tv (bkV b) (.map (some w2.heap.size)) (.slice none 0 0) (.slice none 0 0) [] p wr (HIN.out.okp 0 p (by simp[walkN])) RW.out ⟨by omega,by omega⟩ (by decide));have pp2:=(P2.out.same (S:=(· < w2.heap.size)) (W:=wr) (fun x hx=>RB.out.block x hx) P2.out.lt).cells;have HPP:=h! (show p=⟨p.t,p.i,p.r⟩from rfl);unfold pV at HNB;go_wp2_with fail
   refine HNB.out.mono ?_;rintro e w6 ⟨pv6,rfl,hwk6,hfn6⟩
   have Q6:=h! (show StepOk w2 w6 (w2.heap.size+2) (w2.heap.size+1) w2.heap.size (w2.heap.size+3) w2.heap.size tv (bkV b) (.map (some w2.heap.size)) pv6 (.slice none 0 0) (walkN ts T shut p 0).1 shut []from⟨by
    have h1:putP [] p=(walkN ts T shut p 0).1:=by simp[putP,walkN]
    rw[<- h1];exact hwk6,FRow.nil _ _,RM.out.same (hfn6.kept.block _ ⟨RM.out.lt,by omega,by omega,fun e=>by cases e⟩),RB.out.trans (hfn6.pk RW.out ⟨by omega,by omega⟩).below⟩)
   have Y6:=h! (show w2.heap.size+3<=w6.heap.size from Nat.le_trans RZ.out hfn6.size);clear pp2 HNB hwk6 hfn6 RW RM RB RZ hi hlt;go_wp2_with fail
   go_loopw [16] (fun iv wr=>∃ (i:Nat) (q:List (FT × FV3)) (pv fv:Value),iv = .int .i64 i/\WalkAt ts T shut p most i/\StepOk w2 wr (w2.heap.size+2) (w2.heap.size+1) w2.heap.size (w2.heap.size+3) w2.heap.size tv (bkV b) (.map (some w2.heap.size)) pv fv (walkN ts T shut p i).1 shut q/\q.map (·.1)=(walkN ts T shut p i).2/\w2.heap.size+3<=wr.heap.size) (fun iv _=>N+1-(intOf iv).toNat)
   case atStart=>exact⟨0,[],pv6,.slice none 0 0,rfl,(fun m hm=>absurd hm (Nat.not_lt_zero m)),Q6.out,rfl,Y6.out⟩
   case round =>
    obtain⟨i,q,pv,fv,rfl,hat,hst,hq,hzz⟩:=hrel;have HLE:=h! hat.le;have HFEW:=h! (HIN.out.few i);have HOKP:=h! (HIN.out.okp i)
    have HQL:=h! (show q.length=i from by
     have:=congrArg List.length hq;rwa[List.length_map,walkN_forms]at this)
    have HNX:=h! (show walkN ts T shut p (i+1)=_ from by rw[walkN]);have HLG:=h! (show i<(walkN ts T shut p i).1.length->most<((walkN ts T shut p i).1.length:Int)->WalkLong ts T shut p most from fun h1 h2=>⟨i,hat,h1,h2⟩)
    have HA1:=h! (show i<(walkN ts T shut p i).1.length->((walkN ts T shut p i).1.length:Int)<=most->WalkAt ts T shut p most (i+1)from fun h1 h2 m hm=>by
     rcases Nat.lt_succ_iff_lt_or_eq.1 hm with h3 | rfl
     ·exact hat m h3
     ·exact⟨h1,h2⟩)
    have HEND:=h! (show i=(walkN ts T shut p i).1.length->WalkEnd ts T shut p most i from fun h=>⟨hat,h⟩);have RW:=h! hst.walk;have RR:=h! hst.row;have RM:=h! hst.shut;have RB:=h! hst.below;have RZ:=h! hzz;have RQ:=h! hq;have RG:=h! (show Blk wr (w.heap.size+2) #[.slice none 0 0,.slice none 0 0] 96 from G2.out.same (S:=(· < w2.heap.size)) (fun x hx=>hst.below.block x hx) G2.out.lt)
    have RS:=h! (show Blk wr w.heap.size #[tv] 26 from by
     rw[HTV.out];exact S2.out.same (S:=(· < w2.heap.size)) (fun x hx=>hst.below.block x hx) S2.out.lt)
    clear Q6 Y6 hat hst hq hzz;by_cases hend:i<(walkN ts T shut p i).1.length
    ·by_cases hmost:most<((walkN ts T shut p i).1.length:Int)
     ·have HL:=h! (HLG.out hend hmost);obtain⟨po,pn,pc,rfl,hpn,-,-⟩:=RW.out.pts.sl.len;obtain rfl:pn=(walkN ts T shut p i).1.length:=by rw[pcs_length]at hpn;omega
      generalize (walkN ts T shut p i).1.length=len at *;have c1:=RW.out.box.cells;have c2:=RG.out.cells;have c3:=RG.out.free;have g1:(len:Int) > most:=hmost;have g2:(i:Int)<(len:Int):=by omega
      have XE:=h! (show Ext w ((wr.setCell ⟨w.heap.size+2,0,none⟩ (.slice none 0 0)).setCell ⟨w.heap.size+2,1,none⟩ (.slice none 0 0))from((X2.out.trans RB.out:Below w.heap.size w wr).setCell (p:=⟨w.heap.size+2,0,none⟩) (by show w.heap.size<=w.heap.size+2;omega) _).setCell (p:=⟨w.heap.size+2,1,none⟩) (by show w.heap.size<=w.heap.size+2;omega) _);have GE:=h! ((RG.out.set_to (cs':=#[.slice none 0 0,.slice none 0 0]) 0 (.slice none 0 0) rfl).set_to (cs':=#[.slice none 0 0,.slice none 0 0]) 1 (.slice none 0 0) rfl);go_wp2_with fail
      clear c1 c2 c3;refine bodyPost_ret (v := .tuple #[.agg #[.slice none 0 0,.slice none 0 0],.int .i64 10]) ?_ rfl ⟨XE.out,.inr ⟨HL.out,rfl⟩⟩;rw[results_cell_tmp rfl];have hl:=run_loadVar_row (P:=Tryz.prog) _ (w.heap.size+2) _ 96 _ _ _ GE.out Tryz.underlying96 rfl (by kernel_rfl);simp[asAddr,hl,Result.andThen]
     ·have HA:=h! (HA1.out hend (by omega));obtain⟨po,pc,rfl,hpc1,hpc2,hcell⟩:=Sl.rows pC_length (by decide) (show Sl _ wr 3 pv ((walkN ts T shut p i).1.flatMap pC)from RW.out.pts.sl);obtain⟨bq,oq,rfl,-,hcell⟩:=hcell (by omega);have hck:=hcell i hend;clear hcell;have HXOK:=h! (HOKP.out _ (List.getElem_mem hend));have HGD:=(show(walkN ts T shut p i).1.getD i p=(walkN ts T shut p i).1[i]from by rw[List.getD_eq_getElem?_getD,List.getElem?_eq_getElem hend];rfl);rw[HGD]at HNX;clear HGD;generalize (walkN ts T shut p i).1[i]=x at *;have HENDL:=h! hend;have hmost':¬ (((walkN ts T shut p i).1.length:Int) > most):=hmost;have RFV:=h! (show ∀ g,fv.ownBlock=some g->g<wr.heap.size from fun g hg=>(RR.out.row.block g hg).2);have g2:(i:Int)<((walkN ts T shut p i).1.length:Int):=by omega
      obtain⟨xt,xi,xr⟩:=x;have c0:wr.cell? ⟨bq,oq+i*3,none⟩=some (.string xt):=hck 0 _ rfl;have c1:wr.cell? ⟨bq,oq+i*3+1,none⟩=some (.string xi):=hck 1 _ rfl;have c2:wr.cell? ⟨bq,oq+i*3+2,none⟩=some (.string xr):=hck 2 _ rfl;have cb:=RW.out.box.cells;obtain⟨wj,hwj⟩:∃ y,y=wr.alloc (.cells #[.string xt,.string xi,.string xr] 32):=⟨_,rfl⟩;obtain⟨wk,hwk⟩:∃ y,y=wj.alloc (.cells #[.int .i64 0,.slice none 0 0,.slice none 0 0,.slice none 0 0] 128):=⟨_,rfl⟩;have ej:wj.heap.size=wr.heap.size+1:=by rw[hwj];simp
      have xj:Ext wr wj:=by rw[hwj];exact Ext.alloc _ _
      have xk:Ext wj wk:=by rw[hwk];exact Ext.alloc _ _
      have KX1:=h! (show Ext wr wk from xj.trans xk);have KP:=h! (show Blk wk wr.heap.size #[.string xt,.string xi,.string xr] 32 from Blk.below (by rw[hwj];exact Blk.made _ _ _) xk);have KF:=h! (show Blk wk (wr.heap.size+1) #[.int .i64 0,.slice none 0 0,.slice none 0 0,.slice none 0 0] 128 from by rw[hwk,<- ej];exact Blk.made _ _ _);have KS:=h! (RS.out.below KX1.out);have KB:=h! (show Below w2.heap.size w2 wk from RB.out.trans (KX1.out.mono (by have:=RZ.out;omega)));have HFD:=h! (findS_any (S:=(· < w2.heap.size)) ts tv xt xr wk (fun y hy=>Nat.lt_of_lt_of_le hy KB.out.size) (T2.out.same fun y hy=>KB.out.block y hy) HOKT.out HU.out HLR.out HXOK.out.1 HXOK.out.2.2);have kp:=KP.out.cells;have ks:=KS.out.cells;clear ej xj xk hck hend hmost HLG HEND;subst hwk hwj;go_wp2_with fail
      clear c0 c1 c2 cb kp ks;refine HFD.out.mono ?_;rintro e w3 ⟨⟨zr,zv⟩,rfl,hzat,hz1,hz2,hx3⟩;have hzat:RTAt (· < w2.heap.size) w3 zr zv:=hzat;obtain⟨zo,zc,rfl,-⟩:=hzat.rows;unfold rvV rV;dsimp only at hz1 hz2 ⊢;have X3:=h! (KX1.out.trans hx3);have P3:=h! (KP.out.below hx3);have F3:=h! (KF.out.below hx3);have B3:=h! (show Below w2.heap.size w2 w3 from KB.out.trans (hx3.mono KB.out.size));have HZA:=h! hzat;have HZ1:=h! hz1;have kp:=P3.out.cells;clear HFD KX1 KP KF KS KB hzat hz1 hz2 hx3 g2 hmost';obtain⟨w4,hw4⟩:∃ y,y=w3.alloc (.cells #[.int .i64 zr.k,.string zr.a,.string zr.b,.slice zo zr.ps.length zc] 106):=⟨_,rfl⟩;obtain⟨wd,hwd⟩:∃ y,y=w4.drew:=⟨_,rfl⟩;have X3D:=h! (show Ext w3 wd from by rw[hwd,hw4];exact(Ext.alloc _ _).trans (Ext.drew _));have DX:=h! (X3.out.trans X3D.out);have DR:=h! (show Blk wd w3.heap.size #[.int .i64 zr.k,.string zr.a,.string zr.b,.slice zo zr.ps.length zc] 106 from by rw[hwd,hw4];exact(Blk.made _ _ _).drew);have DP:=h! (P3.out.below X3D.out);have DF:=h! (F3.out.below X3D.out);have DW:=h! (RW.out.ext DX.out);have DM:=h! (RM.out.below DX.out);have DB:=h! (show Below w2.heap.size w2 wd from B3.out.trans (X3D.out.mono B3.out.size));have DRR:=h! (RR.out.ext DX.out);have DZ:=h! (show w2.heap.size+3<=wd.heap.size from Nat.le_trans RZ.out DX.out.size);have DZ2:=h! (show wr.heap.size+1<wd.heap.size from DF.out.lt);have DA:=h! (HZA.out.same fun y hy=>X3D.out.block y (Nat.lt_of_lt_of_le hy B3.out.size));clear X3 P3 F3 B3 HZA X3D;have hlk:=fun W (h:Ext wd W)=>(DM.out.below h).look refK r2V_inj Tryz.underlying141 (Tryz.zeroValue4 W) false (ref_key ⟨xt,xr⟩ ⟨HXOK.out.1,HXOK.out.2.2⟩);simp only[look_shut]at hlk;unfold r2V bV at hlk;dsimp only at hlk;have h1:=fun W (h:Ext wd W)=>(DW.out.box.below h).cells;have h2:=fun W (h:Ext wd W)=>(DP.out.below h).cells;have HLK:=h! hlk;have HH1:=h! h1;have HH2:=h! h2;clear hlk h1 h2;subst hwd hw4
      have tri:Hid (lookA (refsOf ts) ⟨xt,xr⟩=none)\/(∃ r,Hid (lookA (refsOf ts) ⟨xt,xr⟩=some r/\(⟨xt,xr⟩:R2)∈shut))\/(∃ r,Hid (lookA (refsOf ts) ⟨xt,xr⟩=some r/\¬ (⟨xt,xr⟩:R2)∈shut)):=by
       cases hL:lookA (refsOf ts) ⟨xt,xr⟩ with
       | none=>exact .inl rfl
       | some r =>
        by_cases hsh:(⟨xt,xr⟩:R2)∈shut
        ·exact .inr (.inl ⟨r,rfl,hsh⟩)
        ·exact .inr (.inr ⟨r,rfl,hsh⟩)
      rcases tri with hL | ⟨r,hL⟩ | ⟨r,hL⟩
      case' inl =>
       have hL:lookA (refsOf ts) ⟨xt,xr⟩=none:=hL.out;have HRU:=h! (show ruleOf ts shut ⟨xt,xi,xr⟩=none from by unfold ruleOf;split <;> first | rfl | exact hL);rw[hL]at HZ1;rw[hL];clear HZ1 hL;dsimp only[Option.isSome];go_wp2_with fail
       clear kp;obtain⟨wd,hwd⟩:∃ y,y=(w3.alloc (.cells #[.int .i64 zr.k,.string zr.a,.string zr.b,.slice zo zr.ps.length zc] 106)).drew:=⟨_,rfl⟩;rw[<- hwd]at DX DR DP DF DW DM DB DRR DZ DZ2 DA HLK HH1 HH2;refine r! (Ext wd) (by rw[<- hwd];exact Ext.refl _) ?_;rw[<- hwd];clear hwd;have hlk:=HLK.out;have h1:=HH1.out;have h2:=HH2.out;clear HLK HH1 HH2;(refine WalkN.tk [0,1] ?_;(iterate 2 (refine c! ?_));refine TkN.n ?_)
       refine k! 2 ?_;refine k! 3 ?_;refine k! 4 ?_;refine k! 5 ?_;refine k! 6 ?_;refine k! 7 ?_;refine k! 8 ?_;refine k! 9 ?_;refine k! 10 ?_;refine k! 11 ?_;refine k! 12 ?_;refine k! 13 ?_
       refine t! 14 ?_
       refine d! ?_;clear hlk h1 h2;obtain⟨fx,hfx⟩:∃ y,y=FT.zero:=⟨_,rfl⟩;obtain⟨ps1,hps⟩:∃ y,y=(walkN ts T shut p i).1:=⟨_,rfl⟩;obtain⟨pv1,hpv⟩:∃ y,y=(Value.slice (some ⟨bq,oq,none⟩) (walkN ts T shut p i).1.length pc):=⟨_,rfl⟩;obtain⟨a1,b1,c1,e1⟩:∃ a b c,Value.slice a b c = .slice none 0 0:=⟨_,_,_,rfl⟩;obtain⟨a2,b2,c2,e2⟩:∃ a b c,Value.slice a b c = .slice none 0 0:=⟨_,_,_,rfl⟩;obtain⟨a4,b4,c4,e4⟩:∃ a b c,Value.slice a b c = .slice none 0 0:=⟨_,_,_,rfl⟩;have TST:=h! (show stepG ts T shut ⟨xt,xi,xr⟩ (walkN ts T shut p i).1=(fx,ps1)from by rw[hfx,hps];exact stepG_none (T:=T) (ps:=(walkN ts T shut p i).1) HRU.out);have TW:=h! (show WkAt wd (w2.heap.size+2) (w2.heap.size+1) w2.heap.size tv (bkV b) (.map (some w2.heap.size)) ps1 pv1 fv from by rw[hps,hpv];exact DW.out);have TR:=DRR;have TM:=DM;have TB:=DB;have TZ:=DZ;have TF:=h! (show Blk wd (wr.heap.size+1) #[.int .i64 fx.k,.slice a1 b1 c1,.slice a2 b2 c2,.slice a4 b4 c4] 128 from by rw[hfx,e1,e2,e4];exact DF.out);obtain⟨n0,hn0⟩:∃ y,y=wd.heap.size:=⟨_,rfl⟩
       have TX:=h! (show w2.heap.size+3<=n0/\(∀ g,fv.ownBlock=some g->g<n0)/\FTAt (FS n0 wd) wd fx (.slice a1 b1 c1,.slice a2 b2 c2,.slice a4 b4 c4)from by
        rw[hfx,e1,e2,e4,hn0];exact⟨DZ.out,fun g hg=>Nat.lt_of_lt_of_le (RFV.out g hg) DX.out.size,ft_zero _ _⟩)
       clear DW DRR DM DB DZ DF DX DR DP DA hfx hps hpv e1 e2 e4 hn0;have tb:=TW.out.box.cells;obtain⟨fo,fn,fc,rfl,hfn,-,-⟩:=TR.out.row.sl.len;rw[fCs_length]at hfn;obtain rfl:i=fn:=by have:=HQL.out;omega
       clear hfn;go_wp2_with fail
       clear tb;obtain⟨w7,hw7⟩:∃ y,y=wd:=⟨_,rfl⟩;rw[<- hw7]at TW TR TM TB TF TX TZ ⊢;clear hw7
      case' inr.inl =>
       have hsh:=hL.out.2;have hL:=hL.out.1;have HRU:=h! (show ruleOf ts shut ⟨xt,xi,xr⟩=none from by unfold ruleOf;rw[if_pos hsh]);rw[if_pos hsh]at HLK;rw[hL];clear HZ1 hL hsh;unfold lookV at HLK;dsimp only[Option.isSome]at HLK ⊢;go_wp2_with fail
       clear kp;obtain⟨wd,hwd⟩:∃ y,y=(w3.alloc (.cells #[.int .i64 zr.k,.string zr.a,.string zr.b,.slice zo zr.ps.length zc] 106)).drew:=⟨_,rfl⟩;rw[<- hwd]at DX DR DP DF DW DM DB DRR DZ DZ2 DA HLK HH1 HH2;refine r! (Ext wd) (by rw[<- hwd];exact Ext.refl _) ?_;rw[<- hwd];clear hwd;have hlk:=HLK.out;have h1:=HH1.out;have h2:=HH2.out;clear HLK HH1 HH2;simp only[Bool.false_eq_true,if_false]at hlk;(refine WalkN.tk [0,1,2,3,4,5,6,7,8,9,10,11,12,13,14] ?_;(iterate 15 (refine c! ?_));refine TkN.n ?_)
       refine d! ?_;clear hlk h1 h2;obtain⟨fx,hfx⟩:∃ y,y=FT.zero:=⟨_,rfl⟩;obtain⟨ps1,hps⟩:∃ y,y=(walkN ts T shut p i).1:=⟨_,rfl⟩;obtain⟨pv1,hpv⟩:∃ y,y=(Value.slice (some ⟨bq,oq,none⟩) (walkN ts T shut p i).1.length pc):=⟨_,rfl⟩;obtain⟨a1,b1,c1,e1⟩:∃ a b c,Value.slice a b c = .slice none 0 0:=⟨_,_,_,rfl⟩;obtain⟨a2,b2,c2,e2⟩:∃ a b c,Value.slice a b c = .slice none 0 0:=⟨_,_,_,rfl⟩;obtain⟨a4,b4,c4,e4⟩:∃ a b c,Value.slice a b c = .slice none 0 0:=⟨_,_,_,rfl⟩;have TST:=h! (show stepG ts T shut ⟨xt,xi,xr⟩ (walkN ts T shut p i).1=(fx,ps1)from by rw[hfx,hps];exact stepG_none (T:=T) (ps:=(walkN ts T shut p i).1) HRU.out);have TW:=h! (show WkAt wd (w2.heap.size+2) (w2.heap.size+1) w2.heap.size tv (bkV b) (.map (some w2.heap.size)) ps1 pv1 fv from by rw[hps,hpv];exact DW.out);have TR:=DRR;have TM:=DM;have TB:=DB;have TZ:=DZ;have TF:=h! (show Blk wd (wr.heap.size+1) #[.int .i64 fx.k,.slice a1 b1 c1,.slice a2 b2 c2,.slice a4 b4 c4] 128 from by rw[hfx,e1,e2,e4];exact DF.out);obtain⟨n0,hn0⟩:∃ y,y=wd.heap.size:=⟨_,rfl⟩
       have TX:=h! (show w2.heap.size+3<=n0/\(∀ g,fv.ownBlock=some g->g<n0)/\FTAt (FS n0 wd) wd fx (.slice a1 b1 c1,.slice a2 b2 c2,.slice a4 b4 c4)from by
        rw[hfx,e1,e2,e4,hn0];exact⟨DZ.out,fun g hg=>Nat.lt_of_lt_of_le (RFV.out g hg) DX.out.size,ft_zero _ _⟩)
       clear DW DRR DM DB DZ DF DX DR DP DA hfx hps hpv e1 e2 e4 hn0;have tb:=TW.out.box.cells;obtain⟨fo,fn,fc,rfl,hfn,-,-⟩:=TR.out.row.sl.len;rw[fCs_length]at hfn;obtain rfl:i=fn:=by have:=HQL.out;omega
       clear hfn;go_wp2_with fail
       clear tb;obtain⟨w7,hw7⟩:∃ y,y=wd:=⟨_,rfl⟩;rw[<- hw7]at TW TR TM TB TF TX TZ ⊢;clear hw7
      case' inr.inr =>
       have hsh:=hL.out.2;have hL:=hL.out.1;have HRU:=h! (show ruleOf ts shut ⟨xt,xi,xr⟩=some r from by unfold ruleOf;rw[if_neg hsh];exact hL);have HLR2:=h! hL;rw[if_neg hsh]at HLK;rw[hL]at HZ1;rw[hL];clear hL hsh;unfold lookV at HLK;dsimp only[Option.isSome]at HLK ⊢;go_wp2_with fail
       clear kp;obtain⟨wd,hwd⟩:∃ y,y=(w3.alloc (.cells #[.int .i64 zr.k,.string zr.a,.string zr.b,.slice zo zr.ps.length zc] 106)).drew:=⟨_,rfl⟩;rw[<- hwd]at DX DR DP DF DW DM DB DRR DZ DZ2 DA HLK HH1 HH2;refine r! (Ext wd) (by rw[<- hwd];exact Ext.refl _) ?_;rw[<- hwd];clear hwd;have hlk:=HLK.out;have h1:=HH1.out;have h2:=HH2.out;clear HLK HH1 HH2;simp only[Bool.false_eq_true,if_false]at hlk;(refine WalkN.tk [0,1,2,3,4,5,6,7,8,9,10,11,12,13,14] ?_;(iterate 15 (refine c! ?_));refine TkN.n ?_)
       refine d! ?_;clear hlk h1 h2;have HRE:=HZ1.out _ rfl;subst HRE;have HRM:=h! (look_mem HLR2.out);have HFM:=h! (form_any (w2.heap.size+2) (w2.heap.size+1) w2.heap.size b tv (.map (some w2.heap.size)) fv T ⟨xt,xi,xr⟩ w2 HXOK.out HIN.out.tok HIN.out.tlen ⟨by omega,by omega⟩ K2.out (Nat.le_refl _) zr _ (.slice zo zr.ps.length zc) (walkN ts T shut p i).1 wd (HIN.out.rok _ HRM.out) DA.out DB.out DW.out (by have h1:zr.sz*(T.length+1)+N<=1073741824:=HIN.out.room _ HRM.out;have h2:=HFEW.out;omega));have dp:=DP.out.cells;have dr:=DR.out.cells;go_wp2_with fail
       clear dp dr;refine HFM.out.mono ?_;rintro e w5 ⟨v3,pv1,rfl,hat5,hwk5,hfn5⟩;have TST:=h! (stepG_some (T:=T) (ps:=(walkN ts T shut p i).1) HRU.out);generalize formD T ⟨xt,xi,xr⟩ zr (walkN ts T shut p i).1=fd at *;obtain⟨fx,ps1⟩:=fd;obtain⟨u1,u2,u4⟩:=v3;dsimp only at hat5 hwk5 TST;obtain⟨s1,s2,-⟩:=(FTAt.iff _ _).1 hat5;obtain⟨a1,b1,c1,rfl,-,-,-⟩:=s1.len;obtain⟨a2,b2,c2,rfl,-,-,-⟩:=s2.len;obtain⟨a4,c4,rfl,-⟩:=hat5.rows;obtain⟨b4,hb4⟩:∃ y,y=fx.ps.length:=⟨_,rfl⟩;rw[<- hb4]at hat5;unfold fV;dsimp only;rw[<- hb4];clear s1 s2 hb4;have F5:=h! (hfn5.blk DW.out DF.out (by decide) (by decide));have f5c:=F5.out.cells;have f5f:=F5.out.free;have ZS:∀ y,y≠wr.heap.size+1->((((w5.setCell ⟨wr.heap.size+1,0,none⟩ (.int .i64 fx.k)).setCell ⟨wr.heap.size+1,1,none⟩ (.slice a1 b1 c1)).setCell ⟨wr.heap.size+1,2,none⟩ (.slice a2 b2 c2)).setCell ⟨wr.heap.size+1,3,none⟩ (.slice a4 b4 c4)).heap[y]?=w5.heap[y]?:=fun y hy=>by rw[Below.heap_setCell _ _ _ y hy,Below.heap_setCell _ _ _ y hy,Below.heap_setCell _ _ _ y hy,Below.heap_setCell _ _ _ y hy]
       obtain⟨w7,hw7⟩:∃ y,y=(((w5.setCell ⟨wr.heap.size+1,0,none⟩ (.int .i64 fx.k)).setCell ⟨wr.heap.size+1,1,none⟩ (.slice a1 b1 c1)).setCell ⟨wr.heap.size+1,2,none⟩ (.slice a2 b2 c2)).setCell ⟨wr.heap.size+1,3,none⟩ (.slice a4 b4 c4):=⟨_,rfl⟩;have e7:w7.heap.size=w5.heap.size:=by rw[hw7];simp
       rw[<- hw7]at ZS;have F7:=h! (show Blk w7 (wr.heap.size+1) #[.int .i64 fx.k,.slice a1 b1 c1,.slice a2 b2 c2,.slice a4 b4 c4] 128 from by rw[hw7];exact F5.out.put4 _ _ _ _);have hun:=hwk5.un F5.out (by decide) (by decide);have TW:=h! (hwk5.same (w':=w7) (ZS _ fun e=>hun.2.1 e.symm) (ZS _ fun e=>hun.2.2.1 e.symm) fun g hg=>ZS _ fun e=>hun.2.2.2 (by rw[hg,e]))
       have PK7:=h! (show PKept (WM (w2.heap.size+2) (w2.heap.size+1)) w2.heap.size wr w7 from by
        rw[hw7];have hk:=QKept.next (QKept.of (e:=32) (M:=WM (w2.heap.size+2) (w2.heap.size+1)) DX.out (by have:=RZ.out;omega)) (hfn5.pk DW.out ⟨by omega,by omega⟩)
        have hno:¬ QK 32 (WM (w2.heap.size+2) (w2.heap.size+1)) w2.heap.size wr (wr.heap.size+1):=fun h=>by
         rcases h with h | h
         ·have:=RZ.out;omega
         ·have:=h.2.1;omega
        exact(((hk.set hno _).set hno _).set hno _).set hno _)
       have TR:=h! (RR.out.keep PK7.out fun y hy=>by rcases hy with rfl | rfl <;> omega);have TM:=h! ((DM.out.same (hfn5.kept.block _ ⟨DM.out.lt,by omega,by omega,fun e=>DW.out.pts.notMap DM.out.notCells _ e rfl⟩)).same (ZS _ (by have:=RZ.out;omega)));have TB:=h! (show Below w2.heap.size w2 w7 from RB.out.trans PK7.out.below);have TZ:=h! (show w2.heap.size+3<=w7.heap.size from Nat.le_trans RZ.out PK7.out.size);have TX:=h! (show w2.heap.size+3<=wd.heap.size/\(∀ g,fv.ownBlock=some g->g<wd.heap.size)/\FTAt (FS wd.heap.size w7) w7 fx (.slice a1 b1 c1,.slice a2 b2 c2,.slice a4 b4 c4)from⟨DZ.out,fun g hg=>Nat.lt_of_lt_of_le (RFV.out g hg) DX.out.size,(hat5.same fun y hy=>ZS y (by have:=hy.1;have:=DZ2.out;omega)).mono fun y hy=>⟨hy.1,by rw[e7];exact hy.2.1,fun cs=>by rw[ZS y (by have:=hy.1;have:=DZ2.out;omega)];exact hy.2.2 cs⟩⟩);have TF:=F7;clear HFM hat5 hwk5 hfn5 hun ZS e7 F7 PK7 DW DRR DM DB DZ DZ2 DF DX DR DP DA F5;obtain⟨n0,hn0⟩:∃ y,y=wd.heap.size:=⟨_,rfl⟩;rw[<- hn0]at TX;clear hn0;subst hw7;have tb:=TW.out.box.cells;obtain⟨fo,fn,fc,rfl,hfn,-,-⟩:=TR.out.row.sl.len;rw[fCs_length]at hfn;obtain rfl:i=fn:=by have:=HQL.out;omega
       clear hfn;go_wp2_with fail
       clear tb f5c f5f;obtain⟨w7,hw7⟩:∃ y,y=((((w5.setCell ⟨wr.heap.size+1,0,none⟩ (.int .i64 fx.k)).setCell ⟨wr.heap.size+1,1,none⟩ (.slice a1 b1 c1)).setCell ⟨wr.heap.size+1,2,none⟩ (.slice a2 b2 c2)).setCell ⟨wr.heap.size+1,3,none⟩ (.slice a4 b4 c4)):=⟨_,rfl⟩;rw[<- hw7]at TW TR TM TB TF TX TZ ⊢;clear hw7
      all_goals
       obtain⟨wq,hwq⟩:∃ x:World,x=World.drew w7:=⟨_,rfl⟩;have QX:=h! (show Ext w7 wq from by rw[hwq];exact Ext.drew _);have QW:=h! (TW.out.ext QX.out);have QF:=h! (TF.out.below QX.out);have QR:=h! (TR.out.ext QX.out);have QM:=h! (TM.out.below QX.out);have QB:=h! (show Below w2.heap.size w2 wq from TB.out.trans (QX.out.mono (by have:=TZ.out;omega)));have QZ:=h! (show w2.heap.size+3<=wq.heap.size from Nat.le_trans TZ.out QX.out.size);have QN:=h! (TX.out.1);have QV:=h! (TX.out.2.1);have QA:=h! ((TX.out.2.2.same fun y hy=>QX.out.block y hy.2.1).mono (S':=FS n0 wq) fun y hy=>hy.ext QX.out);refine region_walkS (fun j=>decide (9<=j)) (fun W=>Blk W (w2.heap.size+2) #[tv,bkV b,.map (some w2.heap.size),.map (some (w2.heap.size+1)),pv1,.slice fo i fc,.int .i64 0] 251/\Blk W (wr.heap.size+1) #[.int .i64 fx.k,.slice a1 b1 c1,.slice a2 b2 c2,.slice a4 b4 c4] 128) (by rw[<- hwq];exact⟨QW.out.box,QF.out⟩) (by kernel_rfl) (by kernel_rfl) (fun _ _ d _ _ h=>by cases d <;> exact h) ?_;rw[<- hwq];clear hwq TW TR TM TB TF TX QX;have h1:=fun W (h:Blk W (w2.heap.size+2) #[tv,bkV b,.map (some w2.heap.size),.map (some (w2.heap.size+1)),pv1,.slice fo i fc,.int .i64 0] 251/\Blk W (wr.heap.size+1) #[.int .i64 fx.k,.slice a1 b1 c1,.slice a2 b2 c2,.slice a4 b4 c4] 128)=>h.1.cells;have h2:=fun W (h:Blk W (w2.heap.size+2) #[tv,bkV b,.map (some w2.heap.size),.map (some (w2.heap.size+1)),pv1,.slice fo i fc,.int .i64 0] 251/\Blk W (wr.heap.size+1) #[.int .i64 fx.k,.slice a1 b1 c1,.slice a2 b2 c2,.slice a4 b4 c4] 128)=>h.2.cells;(refine WalkS.tk [0,1,2,3,4,5,6] ?_;(iterate 7 (refine z! ?_));refine TkS.n ?_)
       clear h1 h2;have hx3:=Ext.alloc wq (.cells #[.int .i64 0,.slice none 0 0,.slice none 0 0,.slice none 0 0] 128);refine oS! 7 ?_;refine b! ?_;intro K hK;go_simp;refine hK.out _ _ ⟨QW.out.box.below hx3,QF.out.below hx3⟩ ?_;clear hK;have HII:=h! (show i<=1073741823 from by have h1:=HFEW.out;have h2:=HIN.out.nmax;have h3:=HLE.out;omega);refine oS! 8 ?_;refine b! ?_;intro K hK;refine wp_ownw formsT (.tmp 122) (.tmp 125) rfl rfl (QR.out.row.below hx3) (m:=1) (news:=[.int .i64 0,.slice none 0 0,.slice none 0 0,.slice none 0 0]) rfl rfl (fun j u hu=>?_) (by simp[Value.oneCell']) (by have:=HQL.out;have:=HII.out;rw[fCs_length];simp;omega) (by have:=HQL.out;have:=HII.out;rw[fCs_length];simp;omega) (by have:=QZ.out;simp;omega) (fun v6 w6 hown6 hb6 hg6=>?_)
       ·rw[Addr.add_lit,cell_of_row _ wq.heap.size (0+j) #[.int .i64 0,.slice none 0 0,.slice none 0 0,.slice none 0 0] 128 (0,0) (heap_alloc_new wq _),Nat.zero_add];simpa using hu
       obtain⟨g,n6,c6,rfl⟩:∃ g n c,v6 = .slice (some ⟨g,0,none⟩) n c:=by
        rcases hown6.shape with⟨_,h⟩ | h
        ·simp at h
        ·exact h
       obtain rfl:n6=i+1:=by
        obtain⟨a,b,c,h1,h2,-,-⟩:=hown6.sl.len;cases h1;rw[List.length_append,fCs_length,HQL.out]at h2;simp at h2;omega
       have B6:=h! (show Blk w6 (w2.heap.size+2) _ _ from(hg6.block _ (QW.out.box.below hx3).lt fun e=>by have:=(QR.out.row.block _ e.symm).1;omega).trans (QW.out.box.below hx3));have F6:=h! (show Blk w6 (wr.heap.size+1) _ _ from(hg6.block _ (QF.out.below hx3).lt fun e=>by have:=RFV.out _ e.symm;omega).trans (QF.out.below hx3));obtain⟨cur,hcur⟩:=hown6.typed (g:=g) rfl;have HG6:=h! (show Blk w6 g cur 128 from hcur)
       have HGW:=h! (show g≠w2.heap.size+2 from fun e=>by
        have h1:w6.heap[w2.heap.size+2]?=_:=B6.out;rw[<- e,hcur]at h1;injection h1 with h1
        injection h1 with _ h1 _
        exact absurd h1 (by decide))
       have HO6:=h! hown6;have HB6:=h! hb6;have HS6:=h! hg6;have HX3:=h! hx3;refine hK.out _ _ ⟨B6.out,F6.out⟩ ?_;clear hK hx3 hown6 hb6 hg6 hcur;simp only[Act.put,pA,pZ,pS];have hi6:(i:Int)<(i:Int)+1:=by omega
       refine WalkS.rest (by kernel_rfl) ?_;(refine WalkN.tk [9,11,12,13] ?_;(iterate 4 (refine c! ?_));refine TkN.n ?_)
       refine p! 10 14 ?_ ?_
       ·refine b! ?_;intro K hK;have hgf:=HG6.out.free;obtain⟨k0,k1,k2,k3⟩:=four_cells HO6.out (k:=i*4) (by rw[fCs_length,HQL.out]);go_simp;clear hgf k0 k1 k2 k3;refine hK.out _ _ trivial ?_;clear hK;have HO7:=h! (Own.setForm (p := .int .i64 0) HO6.out (k:=i*4) (by rw[fCs_length,HQL.out]) (.int .i64 fx.k) (.slice a1 b1 c1) (.slice a2 b2 c2) (.slice a4 b4 c4));have B7:=h! (show Blk (World.setForm w6 g (i*4) (.int .i64 fx.k) (.slice a1 b1 c1) (.slice a2 b2 c2) (.slice a4 b4 c4)) (w2.heap.size+2) _ _ from(setForm_other _ _ _ _ _ _ _ (Ne.symm HGW.out)).trans B6.out);have hbf:∀ j,(World.setForm w6 g (i*4) (.int .i64 fx.k) (.slice a1 b1 c1) (.slice a2 b2 c2) (.slice a4 b4 c4)).frozen? ⟨w2.heap.size+2,j,none⟩=false:=B7.out.free;have hbc:=B7.out.cells;unfold World.setForm at hbf hbc;refine o! 14 ?_;refine b! ?_;intro K hK;go_simp;refine hK.out _ _ trivial ?_;clear hK hbf hbc;refine d! ?_;have ES:=h! (step_ok (ash:=w2.heap.size) (wz:=w2) (B:=w2.heap.size) (lo:=w2.heap.size+3) (w8:=(World.setForm w6 g (i*4) (.int .i64 fx.k) (.slice a1 b1 c1) (.slice a2 b2 c2) (.slice a4 b4 c4)).setCell ⟨w2.heap.size+2,5,none⟩ (.slice (some ⟨g,0,none⟩) (i+1) c6)) (v:=(.slice a1 b1 c1,.slice a2 b2 c2,.slice a4 b4 c4)) QW.out QR.out QM.out QB.out (by omega) ⟨by omega,by omega,by omega⟩ ⟨by omega,by omega⟩ QZ.out QA.out QN.out QV.out (by omega) HX3.out HS6.out HB6.out (Own.setBox HO7.out B7.out (by decide) _) (B7.out.set_to 5 _ rfl) (fun y h1 h2=>(Below.heap_setCell _ _ _ y h2).trans (setForm_other _ _ _ _ _ _ _ h1)) (by rw[show ∀ (x:World) a v,(x.setCell a v).heap.size=x.heap.size from fun x a v=>by simp,setForm_size]) ⟨rfl,rfl,rfl⟩);have EZ:=h! (show w2.heap.size+3<=((World.setForm w6 g (i*4) (.int .i64 fx.k) (.slice a1 b1 c1) (.slice a2 b2 c2) (.slice a4 b4 c4)).setCell ⟨w2.heap.size+2,5,none⟩ (.slice (some ⟨g,0,none⟩) (i+1) c6)).heap.size from by have h1:=HX3.out.size;have h2:=HS6.out.size;have h3:=QZ.out;rw[show ∀ (x:World) a v,(x.setCell a v).heap.size=x.heap.size from fun x a v=>by simp,setForm_size];omega);unfold World.setForm at ES EZ;clear HO7 B7 B6 F6 HG6 HGW HO6 HB6 HS6 HX3 QW QF QR QM QB QZ QN QV QA;have hii:=HII.out;go_wp2_with fail
        go_roundw
        case rel=>exact⟨i+1,_,pv1,_,by go_num,HA.out,by rw[HNX.out,TST.out];exact ES.out,by rw[HNX.out,TST.out,List.map_append,RQ.out];rfl,EZ.out⟩
        case measure=>have h1:=HFEW.out;have h2:=HENDL.out;simp[intOf];omega
       ·refine b! ?_;intro K hK;have hbf:=B6.out.free;have hbc:=B6.out.cells;go_simp;clear hbf hbc;refine hK.out _ _ trivial ?_;clear hK;have B7:=h! (B6.out.set_to (cs':=#[tv,bkV b,.map (some w2.heap.size),.map (some (w2.heap.size+1)),pv1,.slice (some ⟨g,0,none⟩) (i+1) c6,.int .i64 0]) 5 (.slice (some ⟨g,0,none⟩) (i+1) c6) rfl);have HO7:=h! (Own.setBox (i:=5) HO6.out B6.out (by decide) (.slice (some ⟨g,0,none⟩) (i+1) c6));have HG7:=h! (HG6.out.other (a:=⟨w2.heap.size+2,5,none⟩) HGW.out (.slice (some ⟨g,0,none⟩) (i+1) c6));have hgf:=HG7.out.free;obtain⟨k0,k1,k2,k3⟩:=four_cells HO7.out (k:=i*4) (by rw[fCs_length,HQL.out]);refine o! 10 ?_;refine b! ?_;intro K hK;go_simp;refine hK.out _ _ trivial ?_;clear hK hgf k0 k1 k2 k3;refine d! ?_;have ES:=h! (step_ok (ash:=w2.heap.size) (wz:=w2) (B:=w2.heap.size) (lo:=w2.heap.size+3) (w8:=World.setForm (w6.setCell ⟨w2.heap.size+2,5,none⟩ (.slice (some ⟨g,0,none⟩) (i+1) c6)) g (i*4) (.int .i64 fx.k) (.slice a1 b1 c1) (.slice a2 b2 c2) (.slice a4 b4 c4)) (v:=(.slice a1 b1 c1,.slice a2 b2 c2,.slice a4 b4 c4)) QW.out QR.out QM.out QB.out (by omega) ⟨by omega,by omega,by omega⟩ ⟨by omega,by omega⟩ QZ.out QA.out QN.out QV.out (by omega) HX3.out HS6.out HB6.out (Own.setForm HO7.out (k:=i*4) (by rw[fCs_length,HQL.out]) _ _ _ _) ((setForm_other _ _ _ _ _ _ _ (Ne.symm HGW.out)).trans B7.out) (fun y h1 h2=>(setForm_other _ _ _ _ _ _ _ h1).trans (Below.heap_setCell _ _ _ y h2)) (by rw[setForm_size];simp) ⟨rfl,rfl,rfl⟩);have EZ:=h! (show w2.heap.size+3<=(World.setForm (w6.setCell ⟨w2.heap.size+2,5,none⟩ (.slice (some ⟨g,0,none⟩) (i+1) c6)) g (i*4) (.int .i64 fx.k) (.slice a1 b1 c1) (.slice a2 b2 c2) (.slice a4 b4 c4)).heap.size from by have h1:=HX3.out.size;have h2:=HS6.out.size;have h3:=QZ.out;rw[setForm_size];simp;omega);unfold World.setForm at ES EZ;clear HO7 B7 HG7 B6 F6 HG6 HGW HO6 HB6 HS6 HX3 QW QF QR QM QB QZ QN QV QA;have hii:=HII.out;go_wp2_with fail
        go_roundw
        case rel=>exact⟨i+1,_,pv1,_,by go_num,HA.out,by rw[HNX.out,TST.out];exact ES.out,by rw[HNX.out,TST.out,List.map_append,RQ.out];rfl,EZ.out⟩
        case measure=>have h1:=HFEW.out;have h2:=HENDL.out;simp[intOf];omega
    ·have HE:=h! (HEND.out (by have:=HLE.out;omega));obtain⟨po,pn,pc,rfl,-,-,-⟩:=RW.out.pts.sl.len;obtain⟨fo,fn,fc,rfl,-,-,-⟩:=RR.out.row.sl.len
     have hpl:pn=(walkN ts T shut p i).1.length:=by
      have h:=RW.out.pts.sl.len;obtain⟨a1,a2,a3,h1,h2,-,-⟩:=h;cases h1;rw[pcs_length]at h2;omega
     subst hpl;have hle:=HLE.out;generalize hlen:(walkN ts T shut p i).1.length=len at *;have g2:¬ ((i:Int)<(len:Int)):=by omega
     have c1:=RW.out.box.cells;have c2:=RG.out.cells;have c3:=RG.out.free;go_wp2_with fail
     clear c1 c2 c3;have ZS:∀ y,y≠w.heap.size+2->((wr.setCell ⟨w.heap.size+2,0,none⟩ (.slice po len pc)).setCell ⟨w.heap.size+2,1,none⟩ (.slice fo fn fc)).heap[y]?=wr.heap[y]?:=fun y hy=>by rw[Below.heap_setCell _ _ _ y hy,Below.heap_setCell _ _ _ y hy]
     have XE:Ext w ((wr.setCell ⟨w.heap.size+2,0,none⟩ (.slice po len pc)).setCell ⟨w.heap.size+2,1,none⟩ (.slice fo fn fc)):=((X2.out.trans RB.out:Below w.heap.size w wr).setCell (p:=⟨w.heap.size+2,0,none⟩) (by show w.heap.size<=w.heap.size+2;omega) _).setCell (p:=⟨w.heap.size+2,1,none⟩) (by show w.heap.size<=w.heap.size+2;omega) _;have GE:=(RG.out.set_to (cs':=#[.slice po len pc,.slice none 0 0]) 0 (.slice po len pc) rfl).set_to (cs':=#[.slice po len pc,.slice fo fn fc]) 1 (.slice fo fn fc) rfl;refine bodyPost_ret (v := .tuple #[.agg #[.slice po len pc,.slice fo fn fc],.int .i64 0]) ?_ rfl ⟨XE,.inl ⟨i,.slice po len pc,.slice fo fn fc,HE.out,rfl,?_,?_⟩⟩
     ·rw[results_cell_tmp rfl];have hl:=run_loadVar_row (P:=Tryz.prog) _ (w.heap.size+2) _ 96 _ _ _ GE Tryz.underlying96 rfl (by kernel_rfl);simp[asAddr,hl,Result.andThen]
     ·exact(RW.out.pts.sl.same fun y hy=>ZS y (by have:=hy.1;have:=Z2.out;omega)).mono fun y hy=>⟨by have:=hy.1;have:=Z2.out;omega,by simpa using hy.2⟩
     ·obtain⟨q',h1,h2,h3⟩:=RR.out.forms;refine⟨q',h1.trans RQ.out,fun y hy=>((h2 y hy).same fun z hz=>ZS z (by have:=hz.1;have:=Z2.out;omega)).mono fun z hz=>⟨by have:=hz.1;have:=Z2.out;omega,by simpa using hz.2.1⟩,(h3.same fun z hz=>ZS z (by have:=hz.1;have:=Z2.out;omega)).mono fun z hz=>⟨by have:=hz.1;have:=Z2.out;omega,by simpa using hz.2.1⟩⟩
end Go.Proofs.YtlhaghoajpglaaaGreat
