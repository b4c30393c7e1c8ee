/- Lemmas for the claim, no condition. -/
import Derived.Test.YtlhaghoajpglaaaGreatYLkSets7
import Derived.Test.YtlhaghoajpglaaaGreatYLkSets6
import Derived.Test.YtlhaghoajpglaaaGreatYLkSets0
import Derived.Test.YtlhaghoajpglaaaGreatYLkSets2
import Derived.Test.YtlhaghoajpglaaaGreatYLkSets5
import Derived.Test.YtlhaghoajpglaaaGreatYLkSets1
set_option maxRecDepth 100000
set_option maxHeartbeats 6000000
namespace Go.Proofs.YtlhaghoajpglaaaGreat
open Go Go.RowKit Go.Maps
section
variable {w w' w0 : World} {gp B B' lo x : Nat} {pv fv pv' v sv rv qv : Value} {ps : List P3} {e : TypeId} {sz : Nat} {xs : List Value} {k : Int} {subs : List P3} {refs : List Int} {q : List (FT × FV3)}
end
theorem grown_below {w0 w w':World} {B sz:Nat} {e:TypeId} {v:Value} {xs:List Value} (h:Below B w0 w)(ho:Own w B e sz v xs)(hg:w.grownBy w' v.ownBlock)(hB:B<=w.heap.size):Below B w0 w' :=
 h.trans ⟨hg.os,hg.tape,hg.output,hg.size,fun x hx=>hg.block x (by omega) fun e=>by have:=(ho.block x e.symm).1;omega⟩
theorem FTAt.shape {S:Nat->Prop} {w:World} {r:FT} {v:FV3} (h:FTAt S w r v):∃ a1 c1 a2 c2 a4 c4,v=(.slice a1 r.subs.length c1,.slice a2 r.refs.length c2,.slice a4 r.ps.length c4):=by
 obtain⟨v1,v2,v4⟩:=v;obtain⟨h1,h2,-⟩:=(FTAt.iff _ _).1 h;obtain⟨a1,c1,e1,-⟩:=Sl.rows pC_length (by decide) (show Sl S w 3 v1 (r.subs.flatMap pC)from h1);obtain⟨a2,n2,c2,e2,hn,-,-⟩:=h2.len;obtain⟨a4,c4,e4,-⟩:=h.rows;rw[ic_length,Nat.mul_one]at hn;dsimp only at e1 e2 e4;subst e1 e2 e4;rw[<- hn];exact⟨_,_,_,_,_,_,rfl⟩
theorem Sl.int_at {S:Nat->Prop} {w:World} {a:Option Addr} {n c:Nat} {l:List Int} (h:Sl S w 1 (.slice a n c) (ic l)) {i:Nat} (hi:i<l.length):∃ b off,a=some ⟨b,off,none⟩/\S b/\w.cell? ⟨b,off+i,none⟩=some (.int .i64 l[i]):=by
 obtain⟨a1,n1,c1,hv,-,-,-,-,hcell⟩:=h;cases hv;obtain⟨b,off,rfl,hb,hcell⟩:=hcell (by intro h;have:=congrArg List.length h;rw[ic_length,List.length_nil]at this;omega);exact⟨b,off,rfl,hb,hcell i _ (by simp[ic,List.getElem?_eq_getElem hi])⟩
section
variable {all : List O2} {L : List (List O2)} {typ : ByteArray} {o : O2} {subs : List P3} {refs : List Int} {ps : List FT}
theorem InF.this2 (ht:∀ o∈all,o.t=typ)(hL:∀ l∈L,∀ o∈l,o∈all)(hs:oS o∈subs->o.t=typ->o∈all):InF all L (.mk 1 subs refs ps) o↔RfI L refs o\/(oS o∈subs/\o.t=typ):=by
 unfold InF RfI;rw[holdF_mk,if_pos rfl,Bool.or_eq_true,decide_eq_true_eq,refs_vec];constructor
 ·rintro⟨h0,h | h⟩
  ·exact .inr ⟨h,ht _ h0⟩
  ·exact .inl h
 ·rintro(⟨k,hk,h0,h⟩ | ⟨h,h2⟩)
  ·exact⟨getD_sub hL h,.inr ⟨k,hk,h0,h⟩⟩
  ·exact⟨hs h h2,.inl h⟩
def SbI (typ:ByteArray)(l:List P3)(o:O2):Prop:=oS o∈l/\o.t=typ
theorem SbI.snoc {l:List P3} {s:P3} {o:O2}:SbI typ (l++[s]) o↔SbI typ l o\/(oS o=s/\o.t=typ):=by
 unfold SbI;rw[List.mem_append,List.mem_singleton];constructor
 ·rintro⟨h | h,h2⟩
  ·exact .inl ⟨h,h2⟩
  ·exact .inr ⟨h,h2⟩
 ·rintro(⟨h,h2⟩ | ⟨h,h2⟩)
  ·exact⟨.inl h,h2⟩
  ·exact⟨.inr h,h2⟩
theorem oS_obj {s:P3} {o:O2} (hr:s.r=⟨#[]⟩):oS o=s↔o=s.obj:=by
 obtain⟨a,b,c⟩:=s;obtain⟨x,y⟩:=o;dsimp only at hr;subst hr;simp[oS,P3.obj]
theorem oS_nr {s:P3} {o:O2} (hr:s.r≠⟨#[]⟩):oS o≠s:=fun e=>hr (by rw[<- e];rfl)
def Kno (typ:ByteArray)(all:List O2)(f:FT):Prop:=∀ s∈f.ths,s.r=⟨#[]⟩->s.t=typ->s.obj∈all
theorem Kno.part {f g:FT} (h:Kno typ all f)(hg:g∈f.ps):Kno typ all g:=fun s hs=>h s (by rw[FT.ths_eq];exact List.mem_append_right _ (thsL_mem.2 ⟨g,hg,hs⟩))
theorem ths_sub {s:P3} {subs:List P3} {refs:List Int} {ps:List FT} (h:s∈subs):s∈(FT.mk 1 subs refs ps).ths:=by
 rw[FT.ths_eq];exact List.mem_append_left _ (show s∈(if (1:Int)=1 then subs else [])from by simpa using h)
theorem str_eqd (a b:ByteArray):(a.toList == b.toList)=decide (a=b):=by
 by_cases h:a=b
 ·subst h;simp
 ·rw[decide_eq_false h,beq_eq_false_iff_ne];exact fun e=>h ((ba_toList a b).1 e)
end
section
variable {sp ma : Nat} {pv fv iv : Value} {typ : ByteArray} {ms : List Nat} {L : List (List O2)} {all : List O2}
theorem formS_any (hL:∀ l∈L,∀ o∈l,o∈all)(ht:∀ o∈all,o.t=typ)(f:FT):∀ (v:FV3)(w:World),LkS w sp pv fv typ iv ms ma L all->FTAt (· < w.heap.size) w f v->Kno typ all f ->
  Calls Tryz.prog 180 #[.pointer (some ⟨sp,0,none⟩),fV f v] w fun e w'=>∃ b A,e = .returned (.map (some b))/\w.heap.size<=b/\OS w' b A/\(∀ o,o∈A↔InF all L f o)/\Ext w w':=by
 induction f using FT.ind with
 | h f ih =>
 intro v w hS h hkn;obtain⟨a1,c1,a2,c2,a4,c4,rfl⟩:=h.shape;obtain⟨k,subs,refs,parts⟩:=f;have HIH:=h! ih;have HS0:=h! hS;have H0:=h! h;have HK:=h! hkn;have HLL:=h! hL;have HT:=h! ht;clear ih hS hkn hL ht;unfold fV;dsimp only[FT.k,FT.subs,FT.refs,FT.ps]at HIH h H0 ⊢;obtain⟨wa,hwa⟩:∃ x,x=w.alloc (.cells #[.int .i64 k,.slice a1 subs.length c1,.slice a2 refs.length c2,.slice a4 parts.length c4] 128):=⟨_,rfl⟩;have XA:=h! (show Ext w wa from by rw[hwa];exact Ext.alloc _ _);have BA:=h! (show Blk wa w.heap.size #[.int .i64 k,.slice a1 subs.length c1,.slice a2 refs.length c2,.slice a4 parts.length c4] 128 from by rw[hwa];exact Blk.made _ _ _);have H1:=h! (h.up XA.out);have HS:=h! (HS0.out.ext XA.out);clear h;obtain⟨wb,hwb⟩:∃ x,x=wa.alloc (.map #[] 0):=⟨_,rfl⟩;have XB:=h! (show Ext wa wb from by rw[hwb];exact Ext.alloc _ _);have HM0:=h! (show OS wb (w.heap.size+1) []from by rw[hwb,show w.heap.size+1=wa.heap.size from by rw[hwa];simp];exact Mp.made wa);have BB:=h! (BA.out.below XB.out);have HSB:=h! (HS.out.ext XB.out);have H1B:=h! (H1.out.up XB.out);have hbx:=BB.out.cells;have hmm:=@run_makeMap Tryz.prog;go_enter Tryz.func180,Tryz.ntmps180
 rw[hwb,hwa]at hbx;by_cases e1:k=1
 ·subst e1;have HRF:=h! (refsS_any HSB.out refs (.slice a2 refs.length c2) ((FTAt.iff _ _).1 H1B.out).2.1);have HX2:=h! (show Ext w wb from XA.out.trans XB.out);rw[hwb,hwa]at HRF;go_wp2_with fail
  rw[<- hwa,<- hwb];rw[<- hwa,<- hwb]at HRF;clear hbx hmm;refine HRF.out.mono ?_;rintro e w3 ⟨mb,A,rfl,hb,hA,hm,hx⟩;have HA0:=h! hA;have HM1:=h! hm;have HB:=h! (show w.heap.size<=mb from Nat.le_trans HX2.out.size hb);have HX3:=h! (HX2.out.trans hx);have hbx3:=(BB.out.below hx).cells;obtain⟨_,_,_,he0,h10,h20,h30,-⟩:=((FTAt.iff _ _).1 H0.out).1;cases he0;have HSL:=h! (show subs.length<=9223372036854775807 from by unfold maxLen at h30;omega);clear h10 h20 h30 hA hm hb hx HRF hwa hwb XA XB BA H1 HS BB HSB H1B HM0 HX2;go_wp2_with fail
  clear hbx3;go_loopw [24] (fun iv wr=>∃ (i:Nat) (A':List O2),i<=subs.length/\iv = .int .i64 i/\OS wr mb A'/\(∀ o,o∈A'↔o∈A\/SbI typ (subs.take i) o)/\Ext w wr) (fun iv _=>subs.length-(intOf iv).toNat)
  case atStart=>exact⟨0,A,Nat.zero_le _,rfl,HA0.out,(fun o=>by simp[SbI]),HX3.out⟩
  case round =>
   obtain⟨i,A',hi,rfl,hA',hm',hx'⟩:=hrel;have HA:=h! hA';have HM:=h! hm';have HX:=h! hx';clear hA' hm' hx' HA0;by_cases hlt:i<subs.length
   ·have HLT:=h! hlt;have HNX:=h! (List.take_succ_eq_append_getElem hlt);have hsm:=List.getElem_mem hlt;have HKN:=h! (fun(h1:subs[i].r=⟨#[]⟩) (h2:subs[i].t=typ)=>HK.out subs[i] (ths_sub hsm) h1 h2);obtain⟨so',sc',he',-,hcm,hcell⟩:=Sl.rows pC_length (by decide) (show Sl _ w 3 (.slice a1 subs.length c1) (subs.flatMap pC)from((FTAt.iff _ _).1 H0.out).1);cases he';obtain⟨b,off,rfl,hb,hcell⟩:=hcell (by omega);have hck:=fun j u hj=>Ext.cell HX.out (hcell i hlt j u hj);have HWI:=h! (show wrap64 ((i:Int)+1)=((i+1:Nat):Int)from by have:=HSL.out;unfold wrap64;omega);have hli:(i:Int)<(subs.length:Int):=by omega
    clear hcell hb hsm;generalize subs[i]=s at *;clear hlt;obtain⟨st,si,sr⟩:=s;dsimp only at HKN;have d0:wr.cell? ⟨b,off+i*3,none⟩=some (.string st):=hck 0 _ rfl;have d1:wr.cell? ⟨b,off+i*3+1,none⟩=some (.string si):=hck 1 _ rfl;have d2:wr.cell? ⟨b,off+i*3+2,none⟩=some (.string sr):=hck 2 _ rfl;clear hck;have X4:=h! (Ext.alloc wr (.cells #[.string st,.string si,.string sr] 33));have BS:=h! (Blk.made wr #[.string st,.string si,.string sr] 33);have HS4:=h! ((HS0.out.ext HX.out).ext X4.out);have HA4:=h! (HA.out.below X4.out);go_wp2_with fail
    obtain⟨w4,hw4⟩:∃ y,y=wr.alloc (.cells #[.string st,.string si,.string sr] 33):=⟨_,rfl⟩;rw[<- hw4]at X4 BS HS4 HA4 ⊢;clear hw4 d0 d1 d2;obtain⟨wd,hwd⟩:∃ wd,Hid (wd=w4.drew):=⟨_,h! rfl⟩;have hxd:=h! (show Ext w4 wd from by rw[hwd.out];exact Ext.drew _);have XD:=h! (show Ext wr wd from X4.out.trans hxd.out);have hs:=fun W (h:Ext wd W)=>(BS.out.below (Ext.trans hxd.out h)).cells;have hq:=fun W (h:Ext wd W)=>(HS4.out.box.below (Ext.trans hxd.out h)).cells;have hAd:OS wd mb A':=HA4.out.below hxd.out;have hsd:=(BS.out.below hxd.out).cells;refine r! (Ext wd) (by rw[<- hwd.out];exact Ext.refl _) ?_;rw[<- hwd.out];clear hwd hxd;have hse:=isEmpty_ba sr;by_cases hr:sr=⟨#[]⟩
    rotate_left
    ·have HN:=h! (show ∀ o,o∈A'↔o∈A\/SbI typ (subs.take (i+1)) o from fun o=>by
      rw[HNX.out,SbI.snoc,HM.out o];exact⟨fun h=>h.imp id .inl,fun h=>h.imp id fun h=>h.elim id fun h=>absurd h.1 (oS_nr hr)⟩)
     rw[decide_eq_false hr]at hse;clear hr;(refine WalkN.tk [0,1,2,3] ?_;(iterate 4 (refine c! ?_));refine TkN.n ?_)
     refine k! 4 ?_;refine k! 5 ?_;refine k! 6 ?_;refine k! 7 ?_;refine k! 8 ?_;refine k! 9 ?_;refine k! 10 ?_;refine k! 11 ?_
     refine t! 12 ?_
     refine d! ?_;have HAD:=h! hAd;clear hs hq hse hsd hAd;go_wp2_with fail
     go_roundw
     case rel=>exact⟨i+1,A',HLT.out,by first | rw[HWI.out] | go_num,HAD.out,HN.out,Ext.trans HX.out XD.out⟩
     case measure=>have:=HLT.out;(try rw[HWI.out]);simp[intOf];omega
    subst hr;have hste:=str_eqd st typ;by_cases ht:st=typ
    rotate_left
    ·have HN:=h! (show ∀ o,o∈A'↔o∈A\/SbI typ (subs.take (i+1)) o from fun o=>by
      rw[HNX.out,SbI.snoc,HM.out o];exact⟨fun h=>h.imp id .inl,fun h=>h.imp id fun h=>h.elim id fun h=>absurd ((congrArg P3.t h.1).symm.trans h.2) ht⟩)
     rw[decide_eq_false ht]at hste;clear ht;(refine WalkN.tk [0,1,2,3,4,5,6,7,8,9,10,11,12] ?_;(iterate 13 (refine c! ?_));refine TkN.n ?_)
     refine d! ?_;have HAD:=h! hAd;clear hs hq hse hsd hste hAd;go_wp2_with fail
     go_roundw
     case rel=>exact⟨i+1,A',HLT.out,by first | rw[HWI.out] | go_num,HAD.out,HN.out,Ext.trans HX.out XD.out⟩
     case measure=>have:=HLT.out;(try rw[HWI.out]);simp[intOf];omega
    subst ht;rw[decide_eq_true rfl]at hste;have hkey:=HS4.out.alls.key (HKN.out rfl rfl)
    have HN:=h! (show ∀ o,o∈(if (⟨st,si⟩:O2)∈A' then A' else A'++[⟨st,si⟩])↔o∈A\/SbI st (subs.take (i+1)) o from fun o=>by
     rw[putO_mem,HNX.out,SbI.snoc,HM.out o,oS_obj rfl,or_assoc];exact⟨fun h=>h.imp id fun h=>h.imp id fun h=>⟨h,by rw[h];rfl⟩,fun h=>h.imp id fun h=>h.imp id fun h=>h.1⟩)
    (refine WalkN.tk [0,1,2,3,4,5,6,7,8,9,10,11,12] ?_;(iterate 13 (refine c! ?_));refine TkN.n ?_)
    refine d! ?_;clear hs hq hse hste;unfold P3.obj at hkey;dsimp only at hkey;go_wp2_with (at_mapUpdate;go_must (refine wpList_mp_store (kv:=oV) (ev:=bV) _ rfl _ _ _ 210 rfl objK oV_inj Tryz.underlying210 rfl hAd (y:=⟨st,si⟩) rfl hkey (u:=true) rfl ?_);intro w5 hM5 hT5)
    rw[putO_blG]at hM5;have HA5:=h! hM5;have HX5:=h! (show Ext w w5 from Below.trans (show Below w.heap.size w wd from Ext.trans HX.out XD.out) (hT5.below HB.out));clear hM5 hT5 hAd hkey hsd;go_roundw
    case rel=>exact⟨i+1,_,HLT.out,by first | rw[HWI.out] | go_num,HA5.out,HN.out,HX5.out⟩
    case measure=>have:=HLT.out;(try rw[HWI.out]);simp[intOf];omega
   ·obtain rfl:i=subs.length:=by omega
    rw[List.take_length]at HM
    have HF:=h! (show ∀ o,o∈A'↔InF all L (.mk 1 subs refs parts) o from fun o=>by
     rw[HM.out o,HM1.out o,InF.this2 (o:=o) HT.out HLL.out (fun h1 h2=>show o∈all from HK.out (oS o) (ths_sub h1) rfl h2)];rfl)
    go_wp2_with fail
    go_ret
    exact⟨mb,A',rfl,HB.out,HA.out,HF.out,HX.out⟩
 by_cases e2:k=2\/k=3
 ·have HRF:=h! (refsS_any HSB.out refs (.slice a2 refs.length c2) ((FTAt.iff _ _).1 H1B.out).2.1);have HX2:=h! (show Ext w wb from XA.out.trans XB.out);have HE:=h! e2;rw[hwb,hwa]at HRF;rcases e2 with rfl | rfl
  all_goals
   go_wp2_with fail
   rw[<- hwa,<- hwb];rw[<- hwa,<- hwb]at HRF;clear hbx hmm hwa hwb;refine HRF.out.mono ?_;rintro e w3 ⟨b,A,rfl,hb,hA,hm,hx⟩;have HA:=h! hA;have HM:=h! (show ∀ o,o∈A↔InF all L (.mk _ subs refs parts) o from fun o=>by rw[hm o,InF.named HLL.out (by first | exact .inl rfl | exact .inr rfl)];rfl);have HB:=h! (show w.heap.size<=b from Nat.le_trans HX2.out.size hb);have HX3:=h! (HX2.out.trans hx);clear hA hm hb hx HRF;go_wp2_with fail
   go_ret
   exact⟨b,A,rfl,HB.out,HA.out,HM.out,HX3.out⟩
 have HN2:=h! e2;have g2:(k == 2)=false:=by simpa using fun e=>e2 (.inl e)
 have g3:(k == 3)=false:=by simpa using fun e=>e2 (.inr e)
 by_cases e4:k=4
 ·subst e4;have HX2:=h! (show Ext w wb from XA.out.trans XB.out);clear g2 g3 e1 e2;go_wp2_with fail
  rw[<- hwa,<- hwb];clear hbx hmm hwa hwb HN2;go_loopw [57] (fun iv wr=>∃ (i:Nat) (A':List O2),i<=parts.length/\iv = .int .i64 i/\OS wr (w.heap.size+1) A'/\(∀ o,o∈A'↔∃ g∈parts.take i,InF all L g o)/\Ext w wr) (fun iv _=>parts.length-(intOf iv).toNat)
  case atStart=>exact⟨0,[],Nat.zero_le _,rfl,HM0.out,(fun o=>by simp),HX2.out⟩
  case round =>
   obtain⟨i,A',hi,rfl,hA',hm',hx'⟩:=hrel;have HA:=h! hA';have HM:=h! hm';have HX:=h! hx';clear hA' hm' hx';by_cases hlt:i<parts.length
   ·have HLT:=h! hlt;have HNX:=h! (List.take_succ_eq_append_getElem hlt);obtain⟨ao1,g1,he1,hg1,hg2,hc1⟩:=H0.out.rows;dsimp only[FT.ps]at he1 hg1 hg2 hc1;cases he1;obtain⟨p1,q1,u,rfl,hp1,e0,e1,e2,e3,hu⟩:=hc1 i hlt;have HII:=h! (HIH.out parts[i] (List.getElem_mem hlt));have HKK:=h! (show Kno typ all parts[i]from Kno.part HK.out (List.getElem_mem hlt));have HWI:=h! (show wrap64 ((i:Int)+1)=((i+1:Nat):Int)from by unfold wrap64;omega);have hli:(i:Int)<(parts.length:Int):=by omega
    generalize parts[i]=x at *;obtain⟨l1,m1,l2,m2,l4,m4,rfl⟩:=hu.shape;have d0:=Ext.cell HX.out e0;have d1:=Ext.cell HX.out e1;have d2:=Ext.cell HX.out e2;have d3:=Ext.cell HX.out e3;dsimp only at d1 d2 d3;have X1:=h! (Ext.alloc wr (.cells #[.int .i64 x.k,.slice l1 x.subs.length m1,.slice l2 x.refs.length m2,.slice l4 x.ps.length m4] 128));have XX:=h! (show Ext w (wr.alloc (.cells #[.int .i64 x.k,.slice l1 x.subs.length m1,.slice l2 x.refs.length m2,.slice l4 x.ps.length m4] 128))from Ext.trans HX.out X1.out);have HCL:=h! (HII.out _ _ (HS0.out.ext XX.out) (hu.up XX.out) HKK.out);have HA1:=h! (HA.out.below X1.out);unfold fV at HCL;dsimp only at HCL;have hbf:=(Blk.made wr #[.int .i64 x.k,.slice l1 x.subs.length m1,.slice l2 x.refs.length m2,.slice l4 x.ps.length m4] 128).cells;clear hlt hc1 hu hp1 hg1 hg2 e0 e1 e2 e3;go_wp2_with fail
    refine HCL.out.mono ?_;rintro e w5 ⟨b2,A2,rfl,hb2,hA2,hm2,hx2⟩;have HA5:=h! (HA1.out.below hx2);have HX5:=h! (show Ext w w5 from Ext.trans XX.out hx2);have HAD:=h! (addS_any (w.heap.size+1) b2 A' A2 w5 HA5.out hA2 (fun e=>by have h1:=HA1.out.lt;omega))
    have HM5:=h! (show ∀ o,(o∈A'\/o∈A2)↔∃ g∈parts.take (i+1),InF all L g o from fun o=>by
     rw[HM.out o,HNX.out,hm2 o];simp only[List.mem_append,List.mem_singleton];constructor
     ·rintro(⟨g,hg,h⟩ | h)
      ·exact⟨g,.inl hg,h⟩
      ·exact⟨_,.inr rfl,h⟩
     ·rintro⟨g,hg | rfl,h⟩
      ·exact .inl ⟨g,hg,h⟩
      ·exact .inr h)
    clear hb2 hA2 hm2 hx2 HCL d0 d1 d2 d3 hbf HA1 HA5 HII HKK;go_wp2_with fail
    refine HAD.out.mono ?_;rintro e w6 ⟨rfl,⟨A3,hA3,hm3⟩,hk3⟩;have HA6:=h! hA3;have HM6:=h! (fun o=>(hm3 o).trans (HM5.out o));have HX6:=h! (show Ext w w6 from Below.trans (show Below w.heap.size w w5 from HX5.out) (Kept.below (B:=w.heap.size) hk3 fun b hb=>⟨Nat.lt_of_lt_of_le hb HX5.out.size,fun e=>by omega⟩));clear hA3 hm3 hk3 HAD HM5;go_wp2_with fail
    go_roundw
    case rel=>exact⟨i+1,A3,HLT.out,by first | rw[HWI.out] | go_num,HA6.out,HM6.out,HX6.out⟩
    case measure=>have:=HLT.out;(try rw[HWI.out]);simp[intOf];omega
   ·obtain rfl:i=parts.length:=by omega
    rw[List.take_length]at HM;go_wp2_with fail
    go_ret
    exact⟨w.heap.size+1,A',rfl,by omega,HA.out,fun o=>by rw[HM.out o];exact InF.some.symm,HX.out⟩
 by_cases e5:k=5
 ·subst e5;have g1:(5 == (1:Int))=false:=rfl;have HX2:=h! (show Ext w wb from XA.out.trans XB.out);have HAD0:=h! (addS_any (w.heap.size+1) ma [] all wb HM0.out HSB.out.alls (fun e=>by have:=HS0.out.alls.lt;omega));have hsb:=HSB.out.box.cells;rw[hwb,hwa]at hsb HAD0;clear g2 g3 e1 e2 e4;go_wp2_with fail
  rw[<- hwa,<- hwb];rw[<- hwa,<- hwb]at HAD0;clear hsb hbx hmm;refine HAD0.out.mono ?_;rintro e w3 ⟨rfl,⟨A,hA,hm⟩,hk⟩;have HA0:=h! hA;have HM1:=h! (show ∀ o,o∈A↔o∈all from fun o=>by rw[hm o];simp);have HX3:=h! (show Ext w w3 from Below.trans (show Below w.heap.size w wb from HX2.out) (Kept.below (B:=w.heap.size) hk fun b hb=>⟨Nat.lt_of_lt_of_le hb HX2.out.size,fun e=>by omega⟩));have hbx3:=(show Blk w3 w.heap.size _ _ from(hk.block _ ⟨BB.out.lt,by omega⟩).trans BB.out).cells;clear hA hm hk HAD0 hwa hwb HN2 HM0 BB HSB H1B HX2 XA XB BA H1 HS;go_wp2_with fail
  clear hbx3;go_loopw [78] (fun iv wr=>∃ (i:Nat) (A':List O2),i<=parts.length/\iv = .int .i64 i/\OS wr (w.heap.size+1) A'/\(∀ o,o∈A'↔o∈all/\∀ g∈parts.take i,InF all L g o)/\Ext w wr) (fun iv _=>parts.length-(intOf iv).toNat)
  case atStart=>exact⟨0,A,Nat.zero_le _,rfl,HA0.out,(fun o=>by rw[HM1.out o];simp),HX3.out⟩
  case round =>
   obtain⟨i,A',hi,rfl,hA',hm',hx'⟩:=hrel;have HA:=h! hA';have HM:=h! hm';have HX:=h! hx';clear hA' hm' hx';by_cases hlt:i<parts.length
   ·have HLT:=h! hlt;have HNX:=h! (List.take_succ_eq_append_getElem hlt);obtain⟨ao1,g1,he1,hg1,hg2,hc1⟩:=H0.out.rows;dsimp only[FT.ps]at he1 hg1 hg2 hc1;cases he1;obtain⟨p1,q1,u,rfl,hp1,e0,e1,e2,e3,hu⟩:=hc1 i hlt;have HII:=h! (HIH.out parts[i] (List.getElem_mem hlt));have HKK:=h! (show Kno typ all parts[i]from Kno.part HK.out (List.getElem_mem hlt));have HWI:=h! (show wrap64 ((i:Int)+1)=((i+1:Nat):Int)from by unfold wrap64;omega);have hli:(i:Int)<(parts.length:Int):=by omega
    generalize parts[i]=x at *;obtain⟨l1,m1,l2,m2,l4,m4,rfl⟩:=hu.shape;have d0:=Ext.cell HX.out e0;have d1:=Ext.cell HX.out e1;have d2:=Ext.cell HX.out e2;have d3:=Ext.cell HX.out e3;dsimp only at d1 d2 d3;have X1:=h! (Ext.alloc wr (.cells #[.int .i64 x.k,.slice l1 x.subs.length m1,.slice l2 x.refs.length m2,.slice l4 x.ps.length m4] 128));have XX:=h! (show Ext w (wr.alloc (.cells #[.int .i64 x.k,.slice l1 x.subs.length m1,.slice l2 x.refs.length m2,.slice l4 x.ps.length m4] 128))from Ext.trans HX.out X1.out);have HCL:=h! (HII.out _ _ (HS0.out.ext XX.out) (hu.up XX.out) HKK.out);have HA1:=h! (HA.out.below X1.out);unfold fV at HCL;dsimp only at HCL;have hbf:=(Blk.made wr #[.int .i64 x.k,.slice l1 x.subs.length m1,.slice l2 x.refs.length m2,.slice l4 x.ps.length m4] 128).cells;clear hlt hc1 hu hp1 hg1 hg2 e0 e1 e2 e3;go_wp2_with fail
    refine HCL.out.mono ?_;rintro e w5 ⟨b2,A2,rfl,hb2,hA2,hm2,hx2⟩;have HA5:=h! (HA1.out.below hx2);have HX5:=h! (show Ext w w5 from Ext.trans XX.out hx2);have HAD:=h! (keepS_any (w.heap.size+1) b2 A' A2 w5 HA5.out hA2 (fun e=>by have h1:=HA1.out.lt;omega))
    have HM5:=h! (show ∀ o,(o∈A'/\o∈A2)↔o∈all/\∀ g∈parts.take (i+1),InF all L g o from fun o=>by
     rw[HM.out o,HNX.out,hm2 o];simp only[List.mem_append,List.mem_singleton];constructor
     ·rintro⟨⟨h0,h1⟩,h2⟩;exact⟨h0,fun g hg=>hg.elim (h1 g) fun e=>e▸h2⟩
     ·rintro⟨h0,h1⟩;exact⟨⟨h0,fun g hg=>h1 g (.inl hg)⟩,h1 _ (.inr rfl)⟩)
    clear hb2 hA2 hm2 hx2 HCL d0 d1 d2 d3 hbf HA1 HA5 HII HKK;go_wp2_with fail
    refine HAD.out.mono ?_;rintro e w6 ⟨rfl,⟨A3,hA3,hm3⟩,hk3⟩;have HA6:=h! hA3;have HM6:=h! (fun o=>(hm3 o).trans (HM5.out o));have HX6:=h! (show Ext w w6 from Below.trans (show Below w.heap.size w w5 from HX5.out) (Kept.below (B:=w.heap.size) hk3 fun b hb=>⟨Nat.lt_of_lt_of_le hb HX5.out.size,fun e=>by omega⟩));clear hA3 hm3 hk3 HAD HM5;go_wp2_with fail
    go_roundw
    case rel=>exact⟨i+1,A3,HLT.out,by first | rw[HWI.out] | go_num,HA6.out,HM6.out,HX6.out⟩
    case measure=>have:=HLT.out;(try rw[HWI.out]);simp[intOf];omega
   ·obtain rfl:i=parts.length:=by omega
    rw[List.take_length]at HM;go_wp2_with fail
    go_ret
    exact⟨w.heap.size+1,A',rfl,by omega,HA.out,fun o=>by rw[HM.out o];exact InF.every.symm,HX.out⟩
 ·have g1:(k == 1)=false:=by simpa using e1
  have g4:(k == 4)=false:=by simpa using e4
  have g5:(k == 5)=false:=by simpa using e5
  have HN:=h! (show ∀ o,¬ InF all L (.mk k subs refs parts) o from fun o=>InF.none e1 (fun e=>HN2.out (.inl e)) (fun e=>HN2.out (.inr e)) e4 e5);have HX2:=h! (show Ext w wb from XA.out.trans XB.out);clear e1 e2 e4 e5;go_wp2_with fail
  rw[<- hwa,<- hwb];go_ret
  exact⟨_,[],rfl,by omega,HM0.out,fun o=>⟨fun h=>(by cases h),fun h=>absurd h (HN.out o)⟩,HX2.out⟩
end
theorem thsL_append:∀ (a b:List FT),thsL (a++b)=thsL a++thsL b
 | [],_=>rfl
 | x::a,b=>by rw[List.cons_append,thsL,thsL,thsL_append a b,List.append_assoc]
theorem nam_next {typ:ByteArray} {k:Int} {all all':List O2} {l:List P3} {s:P3} (hm:∀ o,o∈all'↔o∈all\/(k=1/\SbI typ l o))(hs:¬ (k=1/\s.r=⟨#[]⟩/\s.t=typ)):∀ o,o∈all'↔o∈all\/(k=1/\SbI typ (l++[s]) o):=fun o=>by
 rw[hm o,SbI.snoc];refine or_congr Iff.rfl (and_congr_right fun h1=>⟨.inl,fun h=>h.elim id fun h=>absurd ⟨h1,?_,(congrArg P3.t h.1).symm.trans h.2⟩ hs⟩);rw[<- h.1];rfl
section
variable {sp ma lo : Nat} {pv fv iv : Value} {typ : ByteArray} {ms : List Nat} {L : List (List O2)}
theorem namedS_any (hlo:lo<=ma)(f:FT):∀ (v:FV3)(all:List O2)(w:World),LkS w sp pv fv typ iv ms ma L all->FTAt (· < lo) w f v->lo<=w.heap.size->(∀ s∈f.ths,s.Ok) ->
  Calls Tryz.prog 178 #[.pointer (some ⟨sp,0,none⟩),fV f v] w fun e w'=>e = .returned (.tuple #[])/\(∃ all',LkS w' sp pv fv typ iv ms ma L all'/\∀ o,o∈all'↔o∈all\/SbI typ f.ths o)/\Tk ma w w':=by
 induction f using FT.ind with
 | h f ih =>
 intro v all w hS h hlw hok;obtain⟨a1,c1,a2,c2,a4,c4,rfl⟩:=h.shape;obtain⟨k,subs,refs,parts⟩:=f;have HIH:=h! ih;have HS0:=h! hS;have H0:=h! h;have HOK:=h! hok;have HLO:=h! hlo;have HLW:=h! hlw;clear ih hS hok hlo hlw;unfold fV;dsimp only[FT.k,FT.subs,FT.refs,FT.ps]at HIH h H0 ⊢;obtain⟨wa,hwa⟩:∃ x,x=w.alloc (.cells #[.int .i64 k,.slice a1 subs.length c1,.slice a2 refs.length c2,.slice a4 parts.length c4] 128):=⟨_,rfl⟩;have XA:=h! (show Ext w wa from by rw[hwa];exact Ext.alloc _ _);have BA:=h! (show Blk wa w.heap.size #[.int .i64 k,.slice a1 subs.length c1,.slice a2 refs.length c2,.slice a4 parts.length c4] 128 from by rw[hwa];exact Blk.made _ _ _);have HS:=h! (HS0.out.ext XA.out);obtain⟨_,_,_,he0,h10,h20,h30,-⟩:=((FTAt.iff _ _).1 H0.out).1;cases he0;have HSL:=h! (show subs.length<=9223372036854775807 from by unfold maxLen at h30;omega);have HBN:=h! (show w.heap.size≠ma from fun e=>by have:=HS0.out.alls.lt;omega);have hbx:=BA.out.cells;clear h h10 h20 h30;go_enter Tryz.func178,Tryz.ntmps178
 rw[hwa]at hbx;go_wp2_with fail
 rw[<- hwa];clear hbx hwa;go_loopw [11] (fun jv wr=>∃ (i:Nat) (all':List O2),i<=subs.length/\jv = .int .i64 i/\LkS wr sp pv fv typ iv ms ma L all'/\(∀ o,o∈all'↔o∈all\/(k=1/\SbI typ (subs.take i) o))/\Tk ma wa wr) (fun iv _=>subs.length-(intOf iv).toNat)
 case atStart=>exact⟨0,all,Nat.zero_le _,rfl,HS.out,(fun o=>by simp[SbI]),Tk.refl _ _⟩
 case round =>
  obtain⟨i,all',hi,rfl,hA',hm',hx'⟩:=hrel;have HSR:=h! hA';have HM:=h! hm';have HK:=h! hx';have HKW:=h! (show Tk ma w wr from(Tk.of XA.out).next HK.out);clear hA' hm' hx' HS;by_cases hlt:i<subs.length
  ·have HLT:=h! hlt;have HNX:=h! (List.take_succ_eq_append_getElem hlt);have hsm:=List.getElem_mem hlt;have HKN:=h! (fun(h1:k=1)=>HOK.out subs[i] (by subst h1;exact ths_sub hsm));have HNN:=h! (fun(hs:¬ (k=1/\subs[i].r=⟨#[]⟩/\subs[i].t=typ))=>nam_next HM.out hs);obtain⟨so',sc',he',-,hcm,hcell⟩:=Sl.rows pC_length (by decide) (show Sl _ w 3 (.slice a1 subs.length c1) (subs.flatMap pC)from((FTAt.iff _ _).1 H0.out).1);cases he';obtain⟨b,off,rfl,hb,hcell⟩:=hcell (by omega)
   have hck:∀ j u,(pC subs[i])[j]?=some u->wr.cell? ⟨b,off+i*3+j,none⟩=some u:=fun j u hj=>by
    have h1:=hcell i hlt j u hj;have h2:=HKW.out.block b ⟨Nat.lt_of_lt_of_le hb HLW.out,fun e=>by have:=HLO.out;omega⟩;rw[<- h1];exact World.cell?_of_block h2
   have HWI:=h! (show wrap64 ((i:Int)+1)=((i+1:Nat):Int)from by have:=HSL.out;unfold wrap64;omega);have hli:(i:Int)<(subs.length:Int):=by omega
   clear hcell hb hsm;generalize subs[i]=s at *;clear hlt;obtain⟨st,si,sr⟩:=s;dsimp only at HKN HNN;have d0:wr.cell? ⟨b,off+i*3,none⟩=some (.string st):=hck 0 _ rfl;have d1:wr.cell? ⟨b,off+i*3+1,none⟩=some (.string si):=hck 1 _ rfl;have d2:wr.cell? ⟨b,off+i*3+2,none⟩=some (.string sr):=hck 2 _ rfl;clear hck;have X4:=h! (Ext.alloc wr (.cells #[.string st,.string si,.string sr] 33));have BS:=h! (Blk.made wr #[.string st,.string si,.string sr] 33);have HS4:=h! (HSR.out.ext X4.out);have BF:=h! ((HK.out.box BA.out HBN.out).below X4.out);go_wp2_with fail
   obtain⟨w4,hw4⟩:∃ y,y=wr.alloc (.cells #[.string st,.string si,.string sr] 33):=⟨_,rfl⟩;rw[<- hw4]at X4 BS HS4 BF ⊢;clear hw4 d0 d1 d2;obtain⟨wd,hwd⟩:∃ wd,Hid (wd=w4.drew):=⟨_,h! rfl⟩;have hxd:=h! (show Ext w4 wd from by rw[hwd.out];exact Ext.drew _);have XD:=h! (show Ext wr wd from X4.out.trans hxd.out);have hs:=fun W (h:Ext wd W)=>(BS.out.below (Ext.trans hxd.out h)).cells;have hq:=fun W (h:Ext wd W)=>(HS4.out.box.below (Ext.trans hxd.out h)).cells;have hf:=fun W (h:Ext wd W)=>(BF.out.below (Ext.trans hxd.out h)).cells;have HSD:=h! (HS4.out.ext hxd.out);have BSD:=h! (BS.out.below hxd.out);have HKD:=h! (show Tk ma wa wd from HK.out.next (Tk.of XD.out));refine r! (Ext wd) (by rw[<- hwd.out];exact Ext.refl _) ?_;rw[<- hwd.out];clear hwd hxd;by_cases hk1:k=1
   rotate_left
   ·have HN:=h! (HNN.out fun h=>hk1 h.1);have hkb:(k == 1)=false:=by simpa using hk1
    clear hk1;(refine WalkN.tk [0,1,2,3] ?_;(iterate 4 (refine c! ?_));refine TkN.n ?_)
    refine k! 4 ?_;refine k! 5 ?_;refine k! 6 ?_
    (refine WalkN.tk [7,8] ?_;(iterate 2 (refine c! ?_));refine TkN.n ?_)
    refine k! 9 ?_;refine k! 10 ?_;refine k! 11 ?_;refine k! 12 ?_;refine k! 13 ?_;refine k! 14 ?_;refine k! 15 ?_;refine k! 16 ?_
    refine t! 17 ?_
    refine d! ?_;clear hs hq hf hkb;go_wp2_with fail
    go_roundw
    case rel=>exact⟨i+1,all',HLT.out,by first | rw[HWI.out] | go_num,HSD.out,by rw[HNX.out];exact HN.out,HKD.out⟩
    case measure=>have:=HLT.out;(try rw[HWI.out]);simp[intOf];omega
   have HK1:=h! hk1;have hkb:(k == 1)=true:=by simpa using hk1
   clear hk1;have hse:=isEmpty_ba sr;by_cases hr:sr=⟨#[]⟩
   rotate_left
   ·have HN:=h! (HNN.out fun h=>hr h.2.1);rw[decide_eq_false hr]at hse;clear hr;(refine WalkN.tk [0,1,2,3,4,5,6,7,8] ?_;(iterate 9 (refine c! ?_));refine TkN.n ?_)
    refine k! 9 ?_;refine k! 10 ?_;refine k! 11 ?_;refine k! 12 ?_;refine k! 13 ?_;refine k! 14 ?_;refine k! 15 ?_;refine k! 16 ?_
    refine t! 17 ?_
    refine d! ?_;clear hs hq hf hkb hse;go_wp2_with fail
    go_roundw
    case rel=>exact⟨i+1,all',HLT.out,by first | rw[HWI.out] | go_num,HSD.out,by rw[HNX.out];exact HN.out,HKD.out⟩
    case measure=>have:=HLT.out;(try rw[HWI.out]);simp[intOf];omega
   subst hr;have hste:=str_eqd st typ;by_cases ht:st=typ
   rotate_left
   ·have HN:=h! (HNN.out fun h=>ht h.2.2);rw[decide_eq_false ht]at hste;clear ht;(refine WalkN.tk [0,1,2,3,4,5,6,7,8,9,10,11,12,13,14,15,16,17] ?_;(iterate 18 (refine c! ?_));refine TkN.n ?_)
    refine d! ?_;clear hs hq hf hkb hse hste;go_wp2_with fail
    go_roundw
    case rel=>exact⟨i+1,all',HLT.out,by first | rw[HWI.out] | go_num,HSD.out,by rw[HNX.out];exact HN.out,HKD.out⟩
    case measure=>have:=HLT.out;(try rw[HWI.out]);simp[intOf];omega
   subst ht;rw[decide_eq_true rfl]at hste;have hkey:=obj_key ⟨st,si⟩ ⟨(HKN.out HK1.out).1,(HKN.out HK1.out).2.1⟩
   have HN:=h! (show ∀ o,o∈(if (⟨st,si⟩:O2)∈all' then all' else all'++[⟨st,si⟩])↔o∈all\/(k=1/\SbI st (subs.take (i+1)) o)from fun o=>by
    rw[putO_mem,HNX.out,SbI.snoc,HM.out o,oS_obj rfl,or_assoc];refine or_congr Iff.rfl ⟨fun h=>⟨HK1.out,h.elim (fun h => .inl h.2) fun h => .inr ⟨h,by rw[h]⟩⟩,fun h=>h.2.elim (fun h2 => .inl ⟨h.1,h2⟩) fun h2 => .inr h2.1⟩)
   (refine WalkN.tk [0,1,2,3,4,5,6,7,8,9,10,11,12,13,14,15,16,17] ?_;(iterate 18 (refine c! ?_));refine TkN.n ?_)
   refine d! ?_;clear hs hq hf hkb hse hste;go_wp2_with fail
   obtain⟨we,hwe⟩:∃ we,Hid (we=wd.drew):=⟨_,h! rfl⟩;have hxe:=h! (show Ext wd we from by rw[hwe.out];exact Ext.drew _);have HSE:=h! (HSD.out.ext hxe.out);have BSE:=h! (BSD.out.below hxe.out);have HNE:=h! (show wr.heap.size≠ma from fun e=>by have:=HSR.out.alls.lt;omega);have HKE:=h! (show Tk ma wa we from HKD.out.next (Tk.of hxe.out));refine r! (fun W=>Tk ma we W) (by rw[<- hwe.out];exact Tk.refl _ _) ?_;rw[<- hwe.out];clear hwe hxe;have hs:=fun W (h:Tk ma we W)=>(h.box BSE.out HNE.out).cells;have hq:=fun W (h:Tk ma we W)=>(h.box HSE.out.box HSE.out.spNe).cells;(refine WalkN.tk [0,1,2,3,4,5] ?_;(iterate 6 (refine c! ?_));refine TkN.n ?_)
   clear hs hq;refine o! 6 ?_;refine b! ?_;intro K hK;refine wp_mp_store (kv:=oV) (ev:=bV) _ _ _ 210 rfl objK oV_inj Tryz.underlying210 rfl HSE.out.alls (y:=⟨st,si⟩) rfl hkey (u:=true) rfl ?_;intro w6 hm6 ht6;refine hK.out _ _ (Tk.turned ht6) ?_;clear hK;simp only[Act.put];refine d! ?_;rw[putO_blG]at hm6;have HS6:=h! (HSE.out.setAll (Tk.turned ht6) hm6);have HK6:=h! (HKE.out.next (Tk.turned ht6));clear hm6 ht6 hkey;go_wp2_with fail
   go_roundw
   case rel=>exact⟨i+1,_,HLT.out,by first | rw[HWI.out] | go_num,HS6.out,HN.out,HK6.out⟩
   case measure=>have:=HLT.out;(try rw[HWI.out]);simp[intOf];omega
  ·obtain rfl:i=subs.length:=by omega
   rw[List.take_length]at HM;have hbx:=(HK.out.box BA.out HBN.out).cells;clear hlt hi;go_wp2_with fail
   clear hbx;obtain⟨w4,hw4⟩:∃ y,y=wr:=⟨_,rfl⟩;rw[<- hw4]at HSR HK HKW ⊢;clear hw4;go_loopw [43] (fun jv wr=>∃ (i:Nat) (all2:List O2),i<=parts.length/\jv = .int .i64 i/\LkS wr sp pv fv typ iv ms ma L all2/\(∀ o,o∈all2↔o∈all\/(k=1/\SbI typ subs o)\/SbI typ (thsL (parts.take i)) o)/\Tk ma w wr) (fun jv _=>parts.length-(intOf jv).toNat)
   case atStart=>exact⟨0,all',Nat.zero_le _,rfl,HSR.out,(fun o=>(HM.out o).trans ⟨fun h=>h.imp id .inl,fun h=>h.imp id fun h=>h.elim id fun h=>absurd h.1 (by simp[thsL])⟩),HKW.out⟩
   case round =>
    obtain⟨i,all2,hi,rfl,hS2,hm2,hk2⟩:=hrel;have HS2:=h! hS2;have HM2:=h! hm2;have HK2:=h! hk2;clear hS2 hm2 hk2;by_cases hlt:i<parts.length
    ·have HNX:=h! (show thsL (parts.take (i+1))=thsL (parts.take i)++parts[i].ths from by rw[List.take_succ_eq_append_getElem hlt,thsL_append];simp[thsL]);have HLT:=h! hlt;obtain⟨ao1,g1,he1,hg1,hg2,hc1⟩:=H0.out.rows;dsimp only[FT.ps]at he1 hg1 hg2 hc1;cases he1;obtain⟨p1,q1,u,rfl,hp1,e0,e1,e2,e3,hu⟩:=hc1 i hlt;have HII:=h! (HIH.out parts[i] (List.getElem_mem hlt));have HOO:=h! (show ∀ s∈parts[i].ths,s.Ok from fun s hs=>HOK.out s (by rw[FT.ths_eq];exact List.mem_append_right _ (thsL_mem.2 ⟨_,List.getElem_mem hlt,hs⟩)));have HWI:=h! (show wrap64 ((i:Int)+1)=((i+1:Nat):Int)from by unfold wrap64;omega);have hli:(i:Int)<(parts.length:Int):=by omega
     have hbl:wr.cell? ⟨p1,q1+i*4,none⟩=w.cell? ⟨p1,q1+i*4,none⟩:=World.cell?_of_block (HK2.out.block p1 ⟨Nat.lt_of_lt_of_le hp1 HLW.out,fun e=>by have:=HLO.out;omega⟩);have hbl1:wr.cell? ⟨p1,q1+i*4+1,none⟩=w.cell? ⟨p1,q1+i*4+1,none⟩:=World.cell?_of_block (HK2.out.block p1 ⟨Nat.lt_of_lt_of_le hp1 HLW.out,fun e=>by have:=HLO.out;omega⟩);have hbl2:wr.cell? ⟨p1,q1+i*4+2,none⟩=w.cell? ⟨p1,q1+i*4+2,none⟩:=World.cell?_of_block (HK2.out.block p1 ⟨Nat.lt_of_lt_of_le hp1 HLW.out,fun e=>by have:=HLO.out;omega⟩);have hbl3:wr.cell? ⟨p1,q1+i*4+3,none⟩=w.cell? ⟨p1,q1+i*4+3,none⟩:=World.cell?_of_block (HK2.out.block p1 ⟨Nat.lt_of_lt_of_le hp1 HLW.out,fun e=>by have:=HLO.out;omega⟩);generalize parts[i]=x at *;obtain⟨l1,m1,l2,m2,l4,m4,rfl⟩:=hu.shape;have d0:=hbl.trans e0;have d1:=hbl1.trans e1;have d2:=hbl2.trans e2;have d3:=hbl3.trans e3;dsimp only at d1 d2 d3;have X1:=h! (Ext.alloc wr (.cells #[.int .i64 x.k,.slice l1 x.subs.length m1,.slice l2 x.refs.length m2,.slice l4 x.ps.length m4] 128));have HSX:=h! (HS2.out.ext X1.out);have HKX:=h! (show Tk ma w _ from HK2.out.next (Tk.of X1.out));have HCL:=h! (HII.out _ _ _ HSX.out (hu.same (w':=wr.alloc (.cells #[.int .i64 x.k,.slice l1 x.subs.length m1,.slice l2 x.refs.length m2,.slice l4 x.ps.length m4] 128)) fun b hb=>HKX.out.block b ⟨Nat.lt_of_lt_of_le hb HLW.out,fun e=>by have:=HLO.out;omega⟩) (Nat.le_trans HLW.out HKX.out.size) HOO.out);unfold fV at HCL;dsimp only at HCL;have hbf:=(Blk.made wr #[.int .i64 x.k,.slice l1 x.subs.length m1,.slice l2 x.refs.length m2,.slice l4 x.ps.length m4] 128).cells;clear hlt hc1 hu hp1 hg1 hg2 e0 e1 e2 e3 hbl hbl1 hbl2 hbl3;go_wp2_with fail
     refine HCL.out.mono ?_;rintro e w5 ⟨rfl,⟨all3,hs3,hm3⟩,hk3⟩;have HS5:=h! hs3
     have HM5:=h! (show ∀ o,o∈all3↔o∈all\/(k=1/\SbI typ subs o)\/SbI typ (thsL (parts.take (i+1))) o from fun o=>by
      rw[hm3 o,HM2.out o,HNX.out,or_assoc,or_assoc];refine or_congr Iff.rfl (or_congr Iff.rfl ?_);unfold SbI;rw[List.mem_append,or_and_right])
     have HK5:=h! (HKX.out.next hk3);clear hs3 hm3 hk3 HCL d0 d1 d2 d3 hbf HII HOO;go_wp2_with fail
     go_roundw
     case rel=>exact⟨i+1,all3,HLT.out,by first | rw[HWI.out] | go_num,HS5.out,HM5.out,HK5.out⟩
     case measure=>have:=HLT.out;(try rw[HWI.out]);simp[intOf];omega
    ·obtain rfl:i=parts.length:=by omega
     rw[List.take_length]at HM2;go_wp2_with fail
     go_end0
     refine⟨rfl,⟨all2,HS2.out,fun o=>?_⟩,HK2.out⟩;rw[HM2.out o,FT.ths_eq];refine or_congr Iff.rfl ?_;unfold SbI;dsimp only[FT.k,FT.subs,FT.ps];rw[List.mem_append,or_and_right];refine or_congr ?_ Iff.rfl;by_cases h:k=1
     ·simp[h]
     ·simp[h]
end
end Go.Proofs.YtlhaghoajpglaaaGreat
namespace Go.Proofs.YtlhaghoajpglaaaGreat
open Go Go.RowKit
def boC (l:List Bool):List Value:=l.map .bool
theorem boC_length (l:List Bool):(boC l).length=l.length:=by simp[boC]
structure InvR (fs:List FT)(s:P3)(n r:Nat)(F:List Int)(j:Nat)(L:List Bool)(R:List Int):Prop where
 lenL:L.length=n
 lenR:R.length=n
 inn:∀ i,i<n->L.getD i false=((inN fs s n r).getD i false||decide ((i:Int)∈F.take j))
 out:∀ i,i<n->R.getD i 0=if (i:Int)∈F.take j then((r+1:Nat):Int)else(outN fs s n r).getD i 0
section
variable {fs : List FT} {s : P3} {n r j : Nat} {F : List Int} {L : List Bool} {R : List Int}
theorem InvR.start (fs:List FT)(s:P3)(n r:Nat)(F:List Int):InvR fs s n r F 0 (inN fs s n r) (outN fs s n r) where
 lenL:=inN_length r
 lenR:=outN_length r
 inn i _:=by simp
 out i _:=by simp
theorem getD_set {α:Type} (l:List α)(i j:Nat)(x d:α):(l.set j x).getD i d=if i=j/\j<l.length then x else l.getD i d:=by
 rw[List.getD_eq_getElem?_getD,List.getElem?_set,List.getD_eq_getElem?_getD];by_cases h:j=i
 ·subst h;rw[if_pos rfl];split
  ·next h=>rw[if_pos ⟨rfl,h⟩];rfl
  ·next h=>rw[if_neg fun e=>h e.2,List.getElem?_eq_none (by omega)]
 ·rw[if_neg h,if_neg fun e=>h e.1.symm]
theorem InvR.step (h:InvR fs s n r F j L R)(hj:j<F.length)(h0:0<=F[j])(hn:F[j]<(n:Int)):InvR fs s n r F (j+1) (L.set F[j].toNat true) (R.set F[j].toNat ((r+1:Nat):Int)):=by
 have ht:∀ x,x∈F.take (j+1)↔x∈F.take j\/x=F[j]:=fun x=>by rw[List.take_succ_eq_append_getElem hj,List.mem_append,List.mem_singleton]
 have hlt:F[j].toNat<n:=by omega
 refine⟨by rw[List.length_set,h.lenL],by rw[List.length_set,h.lenR],fun i hi=>?_,fun i hi=>?_⟩
 ·rw[getD_set,h.lenL];by_cases e:i=F[j].toNat
  ·have:(i:Int)∈F.take (j+1):=(ht _).2 (.inr (by omega));rw[if_pos ⟨e,hlt⟩,decide_eq_true this,Bool.or_true]
  ·rw[if_neg fun h=>e h.1,h.inn i hi];congr 1
   have:¬ (i:Int)=F[j]:=by omega
   rw[decide_eq_decide,ht];simp only[this,or_false]
 ·rw[getD_set,h.lenR];by_cases e:i=F[j].toNat
  ·rw[if_pos ⟨e,hlt⟩,if_pos ((ht _).2 (.inr (by omega)))]
  ·rw[if_neg fun h=>e h.1,h.out i hi];have:¬ (i:Int)=F[j]:=by omega
   have e2:(i:Int)∈F.take (j+1)↔(i:Int)∈F.take j:=by rw[ht];simp only[this,or_false]
   simp only[e2]
theorem InvR.done (h:InvR fs s n r F F.length L R)(hF:∀ i:Nat,i<n->((i:Int)∈F↔newS fs s (inN fs s n r) i=true)):L=inN fs s n (r+1)/\R=outN fs s n (r+1):=by
 constructor
 ·refine ext_bool (by rw[h.lenL,inN_length]) fun i hi=>?_;rw[h.lenL]at hi;rw[h.inn i hi,inN_succ hi,List.take_length];congr 1
  rw[Bool.eq_iff_iff,decide_eq_true_eq];exact hF i hi
 ·refine ext_int (by rw[h.lenR,outN_length]) fun i hi=>?_;rw[h.lenR]at hi;rw[h.out i hi,outN_succ hi,List.take_length];by_cases e:newS fs s (inN fs s n r) i=true
  ·rw[if_pos ((hF i hi).2 e),if_pos e]
  ·rw[if_neg fun hm=>e ((hF i hi).1 hm),if_neg e]
theorem endS_of (hF:∀ i:Nat,i<n->newS fs s (inN fs s n r) i=false):outN fs s n r=solveR fs s n:=EndS.solve hF
theorem cnt_step {i:Nat} (hi:i<n)(h:newS fs s (inN fs s n r) i=true):cntT (inN fs s n r)<cntT (inN fs s n (r+1)) :=
 cntT_lt (by rw[inN_length,inN_length]) (fun j hj e=>inN_mono1 r (by rwa[inN_length]at hj) e)
  ⟨i,by rw[inN_length];exact hi,by rw[<- getD_ft (by rw[inN_length];exact hi)];exact newS_not h,by rw[inN_succ hi,h,Bool.or_true]⟩
theorem cnt_max (fs:List FT)(s:P3)(n r:Nat):cntT (inN fs s n r)<=n:=by
 have:=cntT_le (inN fs s n r);rwa[inN_length]at this
theorem new_next {i:Nat} (hi:i<n)(h:newS fs s (inN fs s n (r+1)) i=true):∃ hf:i<fs.length,∃ k:Nat,k<n/\newS fs s (inN fs s n r) k=true/\(k:Int)∈fs[i].named:=by
 have hnot:=newS_not h;rw[getD_ft (by rw[inN_length];exact hi),inN_succ hi,Bool.or_eq_false_iff]at hnot;obtain⟨h1,h2⟩:=hnot;unfold newS at h h2;rw[Bool.and_eq_true]at h;replace h:=h.2;rw[getD_ft (by rw[inN_length];exact hi),h1,Bool.not_false,Bool.true_and]at h2;cases hf:fs[i]? with
 | none=>rw[hf]at h;cases h
 | some f =>
  rw[hf]at h h2;dsimp only at h h2;obtain⟨hfl,hfe⟩:=List.getElem?_eq_some_iff.1 hf;refine⟨hfl,?_⟩;rw[hfe];refine Classical.byContradiction fun hno=>?_;rw[holdF_congr s _ (inN fs s n r) f fun k hk=>?_,h2]at h
  ·cases h
  ·refine Classical.byContradiction fun hd=>hno ?_;unfold inAt at hd;by_cases h0:0<=k
   ·simp only[h0,decide_true,Bool.true_and]at hd;by_cases hkn:k.toNat<n
    ·rw[inN_succ hkn]at hd;refine⟨k.toNat,hkn,?_,by rwa[Int.toNat_of_nonneg h0]⟩;cases hn:newS fs s (inN fs s n r) k.toNat with
     | true=>rfl
     | false=>rw[hn,Bool.or_false]at hd;exact absurd rfl hd
    ·have e:∀ q,(inN fs s n q).getD k.toNat false=false:=fun q=>by
      rw[List.getD_eq_getElem?_getD,List.getElem?_eq_none (by rw[inN_length];omega)];rfl
     rw[e,e]at hd;exact absurd rfl hd
   ·simp[h0]at hd
def Wide (fs:List FT)(s:P3)(n r:Nat)(W:List Int):Prop:=∀ i:Nat,i<n->newS fs s (inN fs s n r) i=true->(i:Int)∈W
def UsOf (fs:List FT)(n:Nat)(U:List (List Int)):Prop:=∀ k:Nat,k<n->∀ x:Int,x∈U.getD k []↔∃ i:Nat,∃ hf:i<fs.length,x=(i:Int)/\i<n/\(k:Int)∈fs[i].named
theorem Wide.next {U:List (List Int)} (hU:UsOf fs n U) {N:List Int} (hF:∀ i:Nat,i<n->((i:Int)∈F↔newS fs s (inN fs s n r) i=true))(hN:∀ x,x∈N↔∃ k∈F,x∈U.getD k.toNat []):Wide fs s n (r+1) N:=fun i hi h=>by
 obtain⟨hf,k,hk,hn,hm⟩:=new_next hi h;exact(hN _).2 ⟨(k:Int),(hF k hk).2 hn,by rw[Int.toNat_natCast];exact(hU k hk _).2 ⟨i,hf,rfl,hi,hm⟩⟩
theorem Wide.fresh {W:List Int} (h:Wide fs s n r W) {i:Nat} (hi:i<n):((i:Int)∈W.filter fun x=>newS fs s (inN fs s n r) x.toNat)↔newS fs s (inN fs s n r) i=true:=by
 rw[List.mem_filter,Int.toNat_natCast];exact⟨fun h=>h.2,fun e=>⟨h i hi e,e⟩⟩
end
def totL:List (List O2)->Nat | []=>0 | l::r=>l.length+totL r
theorem totL_set:∀ (L:List (List O2))(i:Nat)(A:List O2),i<L.length->totL (L.set i A)+(L.getD i []).length=totL L+A.length
 | [],i,A,h=>by simp at h
 | l::r,0,A,_=>by simp[totL];omega
 | l::r,i+1,A,h=>by
  have ih:=totL_set r i A (by simpa using h);simp only[List.set_cons_succ,totL,List.getD_cons_succ];omega
theorem totL_le {all:List O2}:∀ (L:List (List O2)),(∀ l∈L,l.Nodup)->(∀ l∈L,∀ o∈l,o∈all)->totL L<=L.length*all.length
 | [],_,_=>by simp[totL]
 | l::r,h1,h2=>by
  have ih:=totL_le r (fun x hx=>h1 x (List.mem_cons_of_mem _ hx)) (fun x hx=>h2 x (List.mem_cons_of_mem _ hx));have:=nodup_leR (h1 l List.mem_cons_self) (h2 l List.mem_cons_self);rw[totL,List.length_cons,Nat.add_mul];omega
theorem InF.congr {all:List O2} {L M:List (List O2)} (hl:L.length=M.length)(h:∀ j o,o∈L.getD j []↔o∈M.getD j [])(f:FT)(o:O2):InF all L f o↔InF all M f o:=by
 have:vecO L o=vecO M o:=by
  refine ext_bool (by rw[vecO_length,vecO_length,hl]) fun i hi=>?_;rw[vecO_length]at hi;rw[vecO_at hi,vecO_at (by omega),Bool.eq_iff_iff,decide_eq_true_eq,decide_eq_true_eq];have:=h i o;rw[List.getD_eq_getElem?_getD,List.getElem?_eq_getElem hi,List.getD_eq_getElem?_getD,List.getElem?_eq_getElem (show i<M.length by omega)]at this;exact this
 unfold InF;rw[this]
structure Pass (fs:List FT)(n:Nat)(all:List O2)(L0 L:List (List O2))(g:Bool)(i:Nat):Prop where
 at_:LkAt fs n all L
 nd:∀ l∈L,l.Nodup
 ge:totL L0<=totL L
 gr:g=true->totL L0<totL L
 st:g=false->∀ j f,j<i->fs[j]?=some f->∀ o,InF all L f o->o∈L.getD j []
section
variable {fs : List FT} {n i : Nat} {all : List O2} {L0 L : List (List O2)} {g : Bool}
theorem Pass.start (h:LkAt fs n all L)(hn:∀ l∈L,l.Nodup):Pass fs n all L L false 0:=⟨h,hn,Nat.le_refl _,fun e=>(by cases e),fun _ j f hj=>absurd hj (Nat.not_lt_zero _)⟩
theorem Pass.step (h:Pass fs n all L0 L g i)(hi:i<n) {f:FT} (hf:fs[i]?=some f) {A:List O2} (hA:A.Nodup)(hm:∀ o,o∈A↔o∈L.getD i []\/InF all L f o):Pass fs n all L0 (L.set i A) (g||decide ((L.getD i []).length<A.length)) (i+1):=by
 have hiL:i<L.length:=by rw[h.at_.len];exact hi
 have hgd:L.getD i []=L[i]:=by rw[List.getD_eq_getElem?_getD,List.getElem?_eq_getElem hiL];rfl
 have hnd:(L.getD i []).Nodup:=by rw[hgd];exact h.nd _ (List.getElem_mem hiL)
 have hle:(L.getD i []).length<=A.length:=nodup_leR hnd fun o ho=>(hm o).2 (.inl ho);have htot:=totL_set L i A hiL;have hat:LkAt fs n all (L.set i A):=h.at_.put hi hf hm;refine⟨hat,fun l hl=>?_,by have:=h.ge;omega,fun hg=>?_,fun hg j f' hj hf' o ho=>?_⟩
 ·rcases List.mem_or_eq_of_mem_set hl with hl | rfl
  ·exact h.nd l hl
  ·exact hA
 ·rw[Bool.or_eq_true,decide_eq_true_eq]at hg;rcases hg with hg | hg
  ·have:=h.gr hg;omega
  ·have:=h.ge;omega
 ·rw[Bool.or_eq_false_iff,decide_eq_false_iff_not]at hg
  have hsame:∀ o,o∈A↔o∈L.getD i []:=fun o=>by
   refine⟨fun ho=>?_,fun ho=>(hm o).2 (.inl ho)⟩;refine Classical.byContradiction fun hno=>?_;have h1:(o::L.getD i []).Nodup:=List.nodup_cons.2 ⟨hno,hnd⟩
   have h2:=nodup_leR (u:=A) h1 fun x hx=>by
    rcases List.mem_cons.1 hx with rfl | hx
    ·exact ho
    ·exact(hm x).2 (.inl hx)
   rw[List.length_cons]at h2;omega
  have hall:∀ j o,o∈(L.set i A).getD j []↔o∈L.getD j []:=fun j o=>by
   rw[getD_set];by_cases e:j=i
   ·subst e;rw[if_pos ⟨rfl,hiL⟩];exact hsame o
   ·rw[if_neg fun h=>e h.1]
  rw[hall j o];have ho2:=(InF.congr (by rw[List.length_set]) hall f' o).1 ho;by_cases e:j=i
  ·subst e;rw[hf]at hf';cases hf';exact(hsame o).1 ((hm o).2 (.inr ho2))
  ·exact h.st hg.1 j f' (by omega) hf' o ho2
theorem Pass.closed (h:Pass fs n all L0 L false i)(hi:min fs.length n<=i):∀ o∈all,∀ j,j<n->newS fs (oS o) (vecO L o) j=false :=
 closed_of h.at_.len fun j f hj hf o ho=>h.st rfl j f (by have:=(List.getElem?_eq_some_iff.1 hf).1;omega) hf o ho
def potL (n:Nat)(all:List O2)(L:List (List O2)):Nat:=n*all.length-totL L
theorem Pass.less (h:Pass fs n all L0 L true i):potL n all L<potL n all L0:=by
 have h1:=totL_le L h.nd h.at_.sub;rw[h.at_.len]at h1;have:=h.gr rfl;unfold potL;omega
theorem Pass.le (h:Pass fs n all L0 L g i):potL n all L<=potL n all L0:=by
 have:=h.ge;unfold potL;omega
end
end Go.Proofs.YtlhaghoajpglaaaGreat
namespace Go.Proofs.YtlhaghoajpglaaaGreat
open Go Go.RowKit Go.Maps
theorem findS_any {S:Nat->Prop} (ts:List TyS)(tv:Value)(ty rel:ByteArray)(w:World)(hS:∀ x,S x->x<w.heap.size)(h:TysAt S w ts tv)(hok:∀ t∈ts,t.Ok)(hu:uniqOk ts=true)(hsz:(refsOf ts).length<=1099511627776)(hty:ty.size<=maxLen)(hrel:rel.size<=maxLen) :
  Calls Tryz.prog 133 #[.agg #[tv],.string ty,.string rel] w fun e w'=>∃ z:RV,e = .returned (.tuple #[rvV z,.bool (lookA (refsOf ts) ⟨ty,rel⟩).isSome])/\RTAt S w' z.1 z.2/\(∀ r,lookA (refsOf ts) ⟨ty,rel⟩=some r->z.1=r)/\(lookA (refsOf ts) ⟨ty,rel⟩=none->z=(.mk 0 ByteArray.empty ByteArray.empty [],.slice none 0 0))/\Below w.heap.size w w':=by
 have hx1:Ext w ((w.alloc (.cells #[tv] 26)).alloc (.cells #[.int .i64 0,.string ByteArray.empty,.string ByteArray.empty,.slice none 0 0] 106)):=(Ext.alloc _ _).trans (Ext.alloc _ _);have HX:=h! hx1;have HO:=h! (open_any (S:=S) ts tv _ (fun x hx=>Nat.lt_of_lt_of_le (hS x hx) hx1.size) (h.same ((Same.below hx1).mono hS)) hok hu hsz);have HSS:=h! hS;have hS0:=((Blk.made w #[tv] 26).alloc (.cells #[.int .i64 0,.string ByteArray.empty,.string ByteArray.empty,.slice none 0 0] 106)).cells;have HR:=h! (Blk.made' (w:=w.alloc (.cells #[tv] 26)) (B:=w.heap.size+1) (by simp) #[.int .i64 0,.string ByteArray.empty,.string ByteArray.empty,.slice none 0 0] 106);have hR:=HR.out.cells;clear h hok hu hsz hx1 hS;go_enter Tryz.func133,Tryz.ntmps133
 go_wp2_with fail
 refine HO.out.mono ?_;rintro e w2 ⟨b1,b2,b3,rfl,hbk,hb2⟩;obtain⟨z,hlk,hzat,hz1,hz2⟩:=hbk.R.look ⟨ty,rel⟩ ⟨hty,hrel⟩;obtain⟨zo,zc,hzv,-⟩:=hzat.rows;have HZ:=h! (And.intro hz1 hz2);have HZA:=h! hzat;have HZV:=h! hzv;have HB2:=h! (Ext.trans HX.out hb2);have HR2:=h! (HR.out.below hb2);have HRZ:=h! (show w.heap.size+1<w2.heap.size from HR2.out.lt);generalize hokk:(lookA (refsOf ts) ⟨ty,rel⟩).isSome=ok at *;have HOKK:=h! hokk;clear hokk;unfold rvV rV r2V at hlk;dsimp only at hlk;rw[hzv]at hlk;have h3:Ext w2 (w2.alloc (.cells #[.int .i64 z.1.k,.string z.1.a,.string z.1.b,.slice zo z.1.ps.length zc] 106)):=Ext.alloc _ _;have HR3:=h! (HR2.out.below h3);have HX3:=h! h3;have r3:=HR3.out.cells;have f3:=HR3.out.free;have hfd:∀ W:World,(Instr.field 229 (.agg #[.map (some b1),.map (some b2),.map (some b3)]) 0).run Tryz.prog W = .ok (.map (some b1)) W:=fun _=>by kernel_rfl
 obtain⟨w3,hw3⟩:∃ x,x=w2.alloc (.cells #[.int .i64 z.1.k,.string z.1.a,.string z.1.b,.slice zo z.1.ps.length zc] 106):=⟨_,rfl⟩;have hne:w.heap.size+1≠w2.heap.size:=by have:=HRZ.out;omega
 have hs1:=HR3.out.set_to 0 (.int .i64 z.1.k) rfl;have hs2:=hs1.set_to 1 (.string z.1.a) rfl;have hs3:=hs2.set_to 2 (.string z.1.b) rfl;have hs4:=hs3.set_to 3 (.slice zo z.1.ps.length zc) rfl;have HS4:=h! hs4
 have hb4:∀ x,x≠w.heap.size+1->(((((w2.alloc (.cells #[.int .i64 z.1.k,.string z.1.a,.string z.1.b,.slice zo z.1.ps.length zc] 106)).setCell ⟨w.heap.size+1,0,none⟩ (.int .i64 z.1.k)).setCell ⟨w.heap.size+1,1,none⟩ (.string z.1.a)).setCell ⟨w.heap.size+1,2,none⟩ (.string z.1.b)).setCell ⟨w.heap.size+1,3,none⟩ (.slice zo z.1.ps.length zc)).heap[x]?=(w2.alloc (.cells #[.int .i64 z.1.k,.string z.1.a,.string z.1.b,.slice zo z.1.ps.length zc] 106)).heap[x]?:=fun x hx=>by
  rw[Below.heap_setCell _ _ _ x hx,Below.heap_setCell _ _ _ x hx,Below.heap_setCell _ _ _ x hx,Below.heap_setCell _ _ _ x hx]
 have HB4:=h! hb4;have HBE:=h! (show Below w.heap.size w (((((w2.alloc (.cells #[.int .i64 z.1.k,.string z.1.a,.string z.1.b,.slice zo z.1.ps.length zc] 106)).setCell ⟨w.heap.size+1,0,none⟩ (.int .i64 z.1.k)).setCell ⟨w.heap.size+1,1,none⟩ (.string z.1.a)).setCell ⟨w.heap.size+1,2,none⟩ (.string z.1.b)).setCell ⟨w.heap.size+1,3,none⟩ (.slice zo z.1.ps.length zc))from((((Ext.trans HB2.out HX3.out:Ext w _).setCell (by show w.heap.size<=w.heap.size+1;omega) _).setCell (by show w.heap.size<=w.heap.size+1;omega) _).setCell (by show w.heap.size<=w.heap.size+1;omega) _).setCell (by show w.heap.size<=w.heap.size+1;omega) _);clear HO hS0 hR hbk hb2 hz1 hz2 hzat hzv h3 hs1 hs2 hs3 hs4 hb4 hw3;go_wp2_with fail
 refine bodyPost_ret (v := .tuple #[.agg #[.int .i64 z.1.k,.string z.1.a,.string z.1.b,.slice zo z.1.ps.length zc],.bool ok]) ?_ rfl ⟨z,?_,?_,HZ.out.1,HZ.out.2,HBE.out⟩
 ·rw[results_cell_tmp rfl];have hl:=run_loadVar_row (P:=Tryz.prog) _ (w.heap.size+1) _ 106 _ _ _ HS4.out Tryz.underlying106 rfl (by kernel_rfl);simp[asAddr,hl,Result.andThen]
 ·unfold rvV rV;rw[HZV.out,HOKK.out]
 ·exact(HZA.out.same fun x hx=>HX3.out.block x (Nat.lt_of_lt_of_le (HSS.out x hx) HB2.out.size)).same fun x hx=>HB4.out x (by have:=HSS.out x hx;omega)
end Go.Proofs.YtlhaghoajpglaaaGreat
namespace Go.Proofs.YtlhaghoajpglaaaGreat
open Go Go.RowKit
section
variable {P : Program} {ops : Array Oper} {Q : Exit -> Act -> World -> Prop} {S : World -> Prop} {late : Nat -> Bool}
def wpAnyS (P:Program)(ops:Array Oper)(Q:Exit->Act->World->Prop)(S:World->Prop)(late:Nat->Bool):Nat->Array Bool->Act->World->Prop
 | 0,l,a,w=>Region.ready .any ops l=[]/\Q .normal a w
 | f+1,l,a,w=>(Region.ready .any ops l=[]->Q .normal a w) /\
   ∀ i∈Region.ready .any ops l,wpOp P ops Q i (fun a' w'=>(late i=false->S w')/\wpAnyS P ops Q S late f (l.setIfInBounds i true) a' w') a w
theorem wpAnyS_any:∀ (f:Nat)(l:Array Bool)(a:Act)(w:World),wpAnyS P ops Q S late f l a w->wpAny P .any ops Q f l a w
 | 0,_,_,_,h=>h
 | f+1,_,_,_,h=>⟨h.1,fun i hi=>wpOp_mono (fun a' w' k=>wpAnyS_any f _ a' w' k.2) (h.2 i hi)⟩
def early (ops:Array Oper)(late:Nat->Bool)(i:Nat):Bool:=(List.range ops.size).all fun j=>!late j||ahead ops ops.size i j
theorem wpAnyS_take {i:Nat} {oi:Oper} {v:Value} (hi:ops[i]?=some oi)(hsel:Region.noSelect ops=true)
  (hQ:∀ c a w,Q (.panic c) (Act.put a oi.dst v) w->Q (.panic c) a w) (hL:early ops late i=true) :
  ∀ (f:Nat) (l:Array Bool) (a:Act) (w:World),Closed ops l ->
   (∀ j oj,ops[j]?=some oj->j≠i->l.getD j true=false->(∀ e∈oj.after,Region.binds .any e=true->e.on≠i)->oi.apart ops oj=true) ->
   i∈Region.ready .any ops l->YieldsIf P ops S oi v a->S w->wpAnyS P ops Q S late f (l.setIfInBounds i true) (a.put oi.dst v) w->wpAnyS P ops Q S late (f+1) l a w:=by
 intro f;induction f with
 | zero =>
  intro l a w _ _ hr hy hS H;refine⟨fun h=>(by rw[h]at hr;cases hr),fun j hj=>?_⟩;by_cases hji:j=i
  ·subst hji;exact hy.wpOp hi hS ⟨fun _=>hS,H⟩
  ·have:=ready_mono hj hji;rw[H.1]at this;cases this
 | succ f ih =>
  intro l a w hc hfree hr hy hS H;refine⟨fun h=>(by rw[h]at hr;cases hr),fun j hj=>?_⟩;by_cases hji:j=i
  ·subst hji;exact hy.wpOp hi hS ⟨fun _=>hS,H⟩
  ·obtain⟨hjun,oj,hoj,hall⟩:=mem_ready.1 hj;have hiun:=(mem_ready.1 hr).1
   have hjL:late j=false:=by
    cases hlj:late j with
    | false=>rfl
    | true =>
     have hjs:j<ops.size:=(Array.getElem?_eq_some_iff.1 hoj).1;have ha:=List.all_eq_true.1 hL j (List.mem_range.2 hjs);rw[hlj]at ha;simp only[Bool.not_true,Bool.false_or]at ha;exact(unlisted hiun (ahead_listed hc ops.size i j ha fun o ho e he hb=>by rw[hoj]at ho;cases ho;exact hall e he hb)).elim
   have hnot:∀ e∈oj.after,Region.binds .any e=true->e.on≠i:=fun e he hb heq=>unlisted hiun (heq▸hall e he hb);have h2:=wpOp_putIf hoj (hfree j oj hoj hji hjun hnot) (fun cs b=>Region.noSelect_spec hsel i oi cs b hi) (fun cs b=>Region.noSelect_spec hsel j oj cs b hoj) hQ hy (H.2 j (ready_mono hj hji));refine wpOp_mono (fun a' w' k=>⟨k.2.1,ih (l.setIfInBounds j true) a' w' (hc.set hj) (fun m om hom hmi hun hno=>?_) (ready_mono hr (Ne.symm hji)) k.1 (k.2.1 hjL) ?_⟩) h2
   ·refine hfree m om hom hmi ?_ hno;by_cases hjm:j=m
    ·exact hjm▸hjun
    ·rwa[getD_set_ne true hjm]at hun
   ·rw[Array.setIfInBounds_comm _ _ hji];exact k.2.2
def allLate (ops:Array Oper)(late:Nat->Bool)(l:Array Bool):Bool:=(List.range ops.size).all fun j=>l.getD j false||late j
theorem late_ready {l:Array Bool} (h:allLate ops late l=true) {i:Nat} (hi:i∈Region.ready .any ops l):late i=true:=by
 obtain⟨hun,o,ho,_⟩:=mem_ready.1 hi;have h1:=List.all_eq_true.1 h i (List.mem_range.2 (Array.getElem?_eq_some_iff.1 ho).1);rcases Bool.or_eq_true_iff.1 h1 with h2 | h2
 ·exact(unlisted hun h2).elim
 ·exact h2
theorem late_set {l:Array Bool} (h:allLate ops late l=true)(i:Nat):allLate ops late (l.setIfInBounds i true)=true:=by
 refine List.all_eq_true.2 fun j hj=>?_;rcases Bool.or_eq_true_iff.1 (List.all_eq_true.1 h j hj)with h2 | h2
 ·exact Bool.or_eq_true_iff.2 (.inl (getD_set_true h2))
 ·exact Bool.or_eq_true_iff.2 (.inr h2)
theorem wpAnyS_late:∀ (f:Nat)(l:Array Bool)(a:Act)(w:World),allLate ops late l=true->wpAny P .any ops Q f l a w->wpAnyS P ops Q S late f l a w
 | 0,_,_,_,_,h=>h
 | f+1,l,a,w,hl,h=>⟨h.1,fun i hi=>wpOp_mono (fun a' w' k=>⟨fun e=>(by rw[late_ready hl hi]at e;cases e),wpAnyS_late f _ a' w' (late_set hl i) k⟩) (h.2 i hi)⟩
def WalkS (P:Program)(ops:Array Oper)(Q:Exit->Act->World->Prop)(S:World->Prop)(late:Nat->Bool):Nat->Array Bool->Act->World->Prop
 | 0,l,a,w=>Region.ready .any ops l=[]/\Q .normal a w
 | f+1,l,a,w=>(allLate ops late l=true/\WalkN P ops Q (fun _=>True) (f+1) l a w) \/
   (∃ i o v,ops[i]?=some o/\Region.free .any ops l i=true/\(Region.ready .any ops l).contains i=true/\early ops late i=true/\YieldsIf P ops S o v a/\WalkS P ops Q S late f (l.setIfInBounds i true) (a.put o.dst v) w) \/
   (Region.ready .any ops l≠[]/\∀ i∈Region.ready .any ops l,∃ o,ops[i]?=some o/\∀ K':Act->World->Prop,Shut (∀ a' w',S w'->WalkS P ops Q S late f (l.setIfInBounds i true) a' w'->K' a' w') ->
    if Region.wanted o (yielded ops a.tmps)=true then Oper.wp P o a w K' Q else K' (a.put o.dst undef) w)
theorem walkS_sound (hns:Region.noSelect ops=true)(hQ:∀ c a d v w,Q (.panic c) (Act.put a d v) w->Q (.panic c) a w) :
  ∀ (f:Nat) (l:Array Bool) (a:Act) (w:World),Closed ops l->S w->WalkS P ops Q S late f l a w->wpAnyS P ops Q S late f l a w
 | 0,_,_,_,_,_,h=>h
 | f+1,l,a,w,hc,hs,h=>by
  rcases h with⟨hl,h⟩ | ⟨i,o,v,ho,hf,hr,hL,hy,h⟩ | ⟨hne,h⟩
  ·exact wpAnyS_late _ l a w hl (wpAny_of_held _ _ _ _ (walkN_sound hns hQ _ l a w trivial h))
  ·exact wpAnyS_take ho hns (fun c a w=>hQ c a _ _ w) hL f l a w hc (Region.free_spec ho hf) (by simpa using hr) hy hs (walkS_sound hns hQ f _ _ w (hc.set (by simpa using hr)) hs h)
  ·refine⟨fun e=>absurd e hne,fun i hi=>?_⟩;obtain⟨o,ho,hst⟩:=h i hi;exact wpOp_step ho (fun K' hK=>hst K' (fun a' w' he hw=>hK a' w' ⟨fun _=>he,walkS_sound hns hQ f _ a' w' (hc.set hi) he hw⟩))
theorem region_walkS {id:Nat} {a:Act} {w:World} (late:Nat->Bool)(S:World->Prop)(hS:S w.drew)(hm:P.follows .mixedOrders=true)(hns:Region.noSelect ops=true)(hQ:∀ c a d v w,Q (.panic c) (Act.put a d v) w->Q (.panic c) a w)
  (h:WalkS P ops Q S late ops.size (Array.replicate ops.size false) a w.drew):(Code.region id ops true).wp P Q a w :=
 wp_region_any hm (wpAnyS_any _ _ _ _ (walkS_sound hns hQ _ _ a w.drew (Closed.start _ _) hS h))
theorem WalkS.take {f:Nat} {l:Array Bool} {a:Act} {w:World} (i:Nat)(o:Oper)(v:Value)(ho:ops[i]?=some o)(hf:Region.free .any ops l i=true)(hr:(Region.ready .any ops l).contains i=true)(hL:early ops late i=true)
  (hw:Region.wanted o (yielded ops a.tmps)=true) (hy:∀ W,S W->(execOp a.eval o).run P W = .ok (.value v) W) (h:WalkS P ops Q S late f (l.setIfInBounds i true) (a.put o.dst v) w):WalkS P ops Q S late (f+1) l a w :=
 .inr (.inl ⟨i,o,v,ho,hf,hr,hL,.inl ⟨hw,hy⟩,h⟩)
def TkS (P:Program)(ops:Array Oper)(Q:Exit->Act->World->Prop)(S:World->Prop)(late:Nat->Bool):List Nat->Nat->Array Bool->Act->World->Prop
 | [],f,l,a,w=>WalkS P ops Q S late f l a w
 | i::is,f,l,a,w=>∃ g,f=g+1/\∃ o v,ops[i]?=some o/\Region.free .any ops l i=true/\(Region.ready .any ops l).contains i=true/\early ops late i=true/\Region.wanted o (yielded ops a.tmps)=true/\(∀ W,S W->(execOp a.eval o).run P W = .ok (.value v) W)/\TkS P ops Q S late is g (l.setIfInBounds i true) (a.put o.dst v) w
theorem WalkS.tk (is:List Nat):∀ {f:Nat} {l:Array Bool} {a:Act} {w:World},TkS P ops Q S late is f l a w->WalkS P ops Q S late f l a w:=by
 induction is with
 | nil=>exact fun h=>h
 | cons i is ih =>
  rintro f l a w ⟨g,rfl,o,v,ho,hf,hr,hL,hw,hy,h⟩;exact WalkS.take i o v ho hf hr hL hw hy (ih h)
theorem TkS.c {f:Nat} {l:Array Bool} {a:Act} {w:World} {i:Nat} {is:List Nat} (o:Oper)(v:Value)(ho:ops[i]?=some o)(hf:Region.free .any ops l i=true)(hr:(Region.ready .any ops l).contains i=true)(hL:early ops late i=true)
  (hw:Region.wanted o (yielded ops a.tmps)=true) (hy:∀ W,S W->(execOp a.eval o).run P W = .ok (.value v) W) (h:TkS P ops Q S late is f (l.setIfInBounds i true) (a.put o.dst v) w):TkS P ops Q S late (i::is) (f+1) l a w :=
 ⟨f,rfl,o,v,ho,hf,hr,hL,hw,hy,h⟩
theorem TkS.n {f:Nat} {l:Array Bool} {a:Act} {w:World} (h:WalkS P ops Q S late f l a w):TkS P ops Q S late [] f l a w:=h
def MadeS (P:Program)(ops:Array Oper)(Q:Exit->Act->World->Prop)(S:World->Prop)(late:Nat->Bool)(f:Nat)(l:Array Bool)(a:Act)(w:World)(i:Nat):Prop :=
 ∃ o,ops[i]?=some o/\Region.wanted o (yielded ops a.tmps)=true/\∀ K':Act->World->Prop,Shut (∀ a' w',S w'->WalkS P ops Q S late f (l.setIfInBounds i true) a' w'->K' a' w')->Oper.wp P o a w K' Q
theorem WalkS.one {f:Nat} {l:Array Bool} {a:Act} {w:World} (i:Nat)(hr:Region.ready .any ops l=[i])(h:MadeS P ops Q S late f l a w i):WalkS P ops Q S late (f+1) l a w:=by
 refine .inr (.inr ⟨by rw[hr];simp,fun j hj=>?_⟩);rw[hr]at hj;obtain rfl:j=i:=by simpa using hj
 obtain⟨o,ho,hw,h⟩:=h;exact⟨o,ho,fun K hK=>by rw[if_pos hw];exact h K hK⟩
theorem WalkS.rest {f:Nat} {l:Array Bool} {a:Act} {w:World} (hl:allLate ops late l=true)(h:WalkN P ops Q (fun _=>True) (f+1) l a w):WalkS P ops Q S late (f+1) l a w := .inl ⟨hl,h⟩
end
theorem z! {P : Program} {ops : Array Oper} {Q : Exit -> Act -> World -> Prop} {S : World -> Prop} {late : Nat -> Bool} {f : Nat} {l : Array Bool} {a : Act} {w : World} {i : Nat} {is : List Nat} {o : Oper} {v : Value} {G : Prop} (h : G) (ho : ops[i]? = some o := by simp only[gA,gS,gZ];rfl) (hf : Region.free .any ops l i = true := by kernel_rfl) (hr : (Region.ready .any ops l).contains i = true := by kernel_rfl) (hL : early ops late i = true := by kernel_rfl) (hw : Region.wanted o (yielded ops a.tmps) = true := by rfl) (hy : ∀ W,S W->(execOp a.eval o).run P W=.ok (.value v) W := by intro W hW;go_simp;try with_reducible rfl) (hG : TkS P ops Q S late is f (l.setIfInBounds i true) (a.put o.dst v) w = G := by simp only[Act.put,pA,pZ,pS];rfl) : TkS P ops Q S late (i :: is) (f + 1) l a w := ⟨f, rfl, o, v, ho, hf, hr, hL, hw, hy, Eq.mpr hG h⟩
theorem oS! {P : Program} {ops : Array Oper} {Q : Exit -> Act -> World -> Prop} {S : World -> Prop} {late : Nat -> Bool} {f : Nat} {l : Array Bool} {a : Act} {w : World} (i : Nat) (h : MadeS P ops Q S late f l a w i) (hr : Region.ready .any ops l = [i] := by kernel_rfl) : WalkS P ops Q S late (f + 1) l a w := WalkS.one i hr h
end Go.Proofs.YtlhaghoajpglaaaGreat
