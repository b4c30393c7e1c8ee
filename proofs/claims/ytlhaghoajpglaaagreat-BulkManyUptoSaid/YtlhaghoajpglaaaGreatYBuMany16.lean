/- Lemmas for the claim, no condition. -/
import Derived.Test.YtlhaghoajpglaaaGreatYBuMany0
import Derived.Test.YtlhaghoajpglaaaGreatYBuMany15
import Derived.Test.YtlhaghoajpglaaaGreatYBuMany14
set_option maxRecDepth 100000
set_option maxHeartbeats 8000000
namespace Go.Proofs.YtlhaghoajpglaaaGreat
open Go Go.RowKit Go.Maps
theorem selF_at {ok:P3->Bool} {f:P3->P3} {l:List P3} {i:Nat} (hi:i<l.length)(ps:List P3)(out:List Int):refsD ps out (selF ok f (l.take (i+1)))=if ok l[i]=true then(if (numD (refsD ps out (selF ok f (l.take i))).2 (f l[i]):Int)∈(refsD ps out (selF ok f (l.take i))).1 then(refsD ps out (selF ok f (l.take i))).1 else(refsD ps out (selF ok f (l.take i))).1++[(numD (refsD ps out (selF ok f (l.take i))).2 (f l[i]):Int)],putP (refsD ps out (selF ok f (l.take i))).2 (f l[i]))else refsD ps out (selF ok f (l.take i)):=by
 cases h:ok l[i] with
 | true=>rw[selF_yes hi h,refsD_snoc,if_pos rfl]
 | false=>rw[selF_no hi h];rfl
theorem form26_any (gp B:Nat)(tv fv:Value)(T:List Tup)(p:P3)(wb:World)(hT:∀ W,Below B wb W->Sl (· < B) W 6 tv (tuCs T))(hTl:T.length<=1000000)(hB:B<=gp)(r:RT):∀ (pv rpv:Value)(ps:List P3)(w:World),RTAt (· < B) w r rpv->Below B wb w->GkAt w gp B ps pv fv->ps.length+r.sz*(T.length+1)<=1073741824 ->
  Calls Tryz.prog 111 #[.pointer (some ⟨gp,0,none⟩),tv,pV p,rV r rpv] w fun e w'=>∃ v3 pv',e = .returned (fV (formD T p r ps).1 v3)/\FTAt (FS w.heap.size w') w' (formD T p r ps).1 v3/\GkAt w' gp B (formD T p r ps).2 pv' fv/\Fine gp gp w w' pv pv':=by
 have HT:=h! hT;have HTL:=h! hTl;have HB:=h! hB;clear hT hTl hB;obtain⟨pt,pi,pr⟩:=p;induction r using RT.ind with
 | h r ih =>
 intro pv rpv ps w hat hbw hgk hlen;have HFD:=h! (formD_eq T ⟨pt,pi,pr⟩ r ps);obtain⟨k,ra,rb,parts⟩:=r;dsimp only[RT.k,RT.a,RT.b,RT.ps]at HFD ih;have HIH:=h! ih;have HRT:=h! hat;have HBW:=h! hbw;have HROOM:=h! (form_room (p:=⟨pt,pi,pr⟩) hlen);have HLEN:=h! hlen
 have HSUBL:=h! (show ∀ q,(subsOf T q).length<=T.length from fun q=>by
  unfold subsOf;rw[List.length_map];exact List.length_filter_le _ _)
 have HPSL:=h! (show ps.length+(T.length+1)<=1073741824 from by
  have h1:=(RT.mk k ra rb parts).sz_eq;rw[h1,Nat.add_mul]at hlen;omega)
 obtain⟨ao,c,rfl,hlc,hcm,-⟩:=hat.rows;obtain⟨to,tc,htv,-⟩:=Sl.rows tuC_length (by decide) (show Sl _ w 6 tv (T.flatMap tuC)from HT.out w hbw);subst htv;dsimp only[RT.ps]at hlc hcm ⊢;obtain⟨wa,hwa⟩:∃ x,x=w.alloc (.cells #[.string pt,.string pi,.string pr] 32):=⟨_,rfl⟩;obtain⟨wc,hwc⟩:∃ x,x=wa.alloc (.cells #[.int .i64 k,.string ra,.string rb,.slice ao parts.length c] 106):=⟨_,rfl⟩;obtain⟨wd,hwd⟩:∃ x,x=wc.alloc (.cells #[.int .i64 0,.slice none 0 0,.slice none 0 0,.slice none 0 0] 128):=⟨_,rfl⟩;obtain⟨we,hwe⟩:∃ x,x=wd.alloc (.cells #[.int .i64 k,.slice none 0 0,.slice none 0 0,.slice none 0 0] 128):=⟨_,rfl⟩;have ea:wa.heap.size=w.heap.size+1:=by rw[hwa];simp
 have ec:wc.heap.size=w.heap.size+2:=by rw[hwc];simp[ea]
 have ed:wd.heap.size=w.heap.size+3:=by rw[hwd];simp[ec]
 have ee:we.heap.size=w.heap.size+4:=by rw[hwe];simp[ed]
 have xa:Ext w wa:=by rw[hwa];exact Ext.alloc _ _
 have xc:Ext wa wc:=by rw[hwc];exact Ext.alloc _ _
 have xd:Ext wc wd:=by rw[hwd];exact Ext.alloc _ _
 have xe:Ext wd we:=by rw[hwe];exact Ext.alloc _ _
 have hgz:=hgk.box.lt;have hBg:=HB.out;have hra:=(Blk.below (show Blk wc (w.heap.size+1) #[.int .i64 k,.string ra,.string rb,.slice ao parts.length c] 106 from by rw[hwc,<- ea];exact Blk.made _ _ _) xd).cells
 have FI:=h! (show FrmI wb w we gp B pv fv #[.string pt,.string pi,.string pr] k #[.int .i64 k,.string ra,.string rb,.slice ao parts.length c] ps [] [] [] (.slice none 0 0) (.slice none 0 0) (.slice none 0 0) pv from
  ⟨⟨by rw[hwe,<- ed];exact Blk.made _ _ _,Own.nil _ _ _ _,Own.nil _ _ _ _,FRow.nil _ _⟩,hgk.ext (xa.trans (xc.trans (xd.trans xe))),Blk.below (by rw[hwa];exact Blk.made _ _ _) (xc.trans (xd.trans xe)),Blk.below (by rw[hwc,<- ea];exact Blk.made _ _ _) (xd.trans xe),Blk.below (by rw[hwd,<- ec];exact Blk.made _ _ _) xe,Fine.of _ _ _ (xa.trans (xc.trans (xd.trans xe))),hbw.trans ((xa.trans (xc.trans (xd.trans xe))).mono (by omega)),fun g hg => .inl hg,Nat.le_of_eq ee.symm,fun g hg=>(hgk.pts.block g hg).2,HB.out,hgz⟩)
 have EZ:=h! ee;have HGZ:=h! hgz;clear ea ec ed ee xa xc xd xe ih hat hbw hgk hlen hgz hBg;subst hwd hwc hwa;unfold pV rV;dsimp only[RT.k,RT.a,RT.b,RT.ps];by_cases h1:k=1
 case' pos =>
  have b1:(k == 1)=true:=by rw[beq_iff_eq];exact h1
  have b2:(k == 2)=false:=by rw[beq_eq_false_iff_ne];omega
  have b3:(k == 3)=false:=by rw[beq_eq_false_iff_ne];omega
  have H1:=h! h1;clear h1;go_enter Tryz.func111,Tryz.ntmps111
  go_wp2_with fail
  try rw[<- hwe]
  clear hwe hra;refine(subs25_any (S:=(· < B)) (.slice to T.length tc) T ⟨pt,pi,pr⟩ we (fun x hx=>by have:=FI.out.sz;have:=FI.out.g0;omega) (HT.out we FI.out.be) (by have:=HTL.out;omega)).mono ?_;rintro e w2 ⟨sv,rfl,ho2,hx2⟩;have HSL:=h! (HSUBL.out ⟨pt,pi,pr⟩);generalize hsb:subsOf T ⟨pt,pi,pr⟩=sb at *;have HSB:=h! hsb;clear hsb;obtain⟨so,sc,rfl,-⟩:=Sl.rows pC_length (by decide) (show Sl _ w2 3 sv (sb.flatMap pC)from ho2.sl);have F2:=h! (FI.out.ext hx2);have S2:=h! (ho2.low (B':=w.heap.size+4) (Nat.le_of_eq EZ.out.symm));clear ho2 hx2 FI;have hbf:=F2.out.fm.box.cells;have hbz:=F2.out.fm.box.free;have F3:=h! (F2.out.setSubs S2.out);have SR:=h! (show Own _ (w.heap.size+4) 33 3 (.slice so sb.length sc) (pcs sb)from F3.out.fm.subs);have hbc:=F3.out.fm.box.cells;clear F2 S2;go_wp2_with fail
  clear hbf hbz hbc;obtain⟨w3,hw3⟩:∃ x,x=w2.setCell ⟨w.heap.size+3,1,none⟩ (.slice so sb.length sc):=⟨_,rfl⟩;rw[<- hw3]at F3 SR ⊢;clear hw3;go_loopw [31] (fun iv wr=>∃ (i:Nat) (rf:List Int) (p0:List P3) (rv pv4:Value),i<=sb.length/\iv = .int .i64 i/\refsD ps [] (selF (fun s=>decide (s.r≠⟨#[]⟩)) usetF (sb.take i))=(rf,p0)/\FrmI wb w wr gp B pv fv #[.string pt,.string pi,.string pr] k #[.int .i64 k,.string ra,.string rb,.slice ao parts.length c] p0 sb rf [] (.slice so sb.length sc) rv (.slice none 0 0) pv4/\Own wr (w.heap.size+4) 33 3 (.slice so sb.length sc) (pcs sb)) (fun iv _=>sb.length-(intOf iv).toNat)
  case atStart=>exact⟨0,[],ps,.slice none 0 0,pv,Nat.zero_le _,rfl,rfl,F3.out,SR.out⟩
  case' round =>
   obtain⟨i,rf,p0,rv,pv4,hi,rfl,hrd,hfr,hsr⟩:=hrel;have HRD:=h! hrd;have FR:=h! hfr;have SR2:=h! hsr;clear hrd hfr hsr F3 SR;by_cases hlt:i<sb.length
   case' pos =>
    obtain⟨so',sc',he',-,-,hcell⟩:=Sl.rows pC_length (by decide) (show Sl _ wr 3 (.slice so sb.length sc) (sb.flatMap pC)from SR2.out.sl);cases he';obtain⟨b,off,rfl,-,hcell⟩:=hcell (by omega);have hck:=hcell i hlt;clear hcell;have HAT:=h! (selF_at (ok:=(fun s=>decide (s.r≠⟨#[]⟩))) (f:=usetF) hlt ps []);have HLT:=h! hlt;have HWI:=h! (show wrap64 ((i:Int)+1)=((i+1:Nat):Int)from by have h1:=HSL.out;have h2:=HTL.out;unfold wrap64;omega)
    have HPL:=h! (show p0.length<=ps.length+i/\rf.length<=i from by
     have h1:=refsD_len2 (selF (fun s=>decide (s.r≠⟨#[]⟩)) usetF (sb.take i)) ps [];have h2:=refsD_len1 (selF (fun s=>decide (s.r≠⟨#[]⟩)) usetF (sb.take i)) ps [];have h3:=selF_len (fun s=>decide (s.r≠⟨#[]⟩)) usetF (sb.take i);rw[List.length_take]at h3;rw[HRD.out]at h1 h2;simp only[List.length_nil]at h1 h2;omega)
    rw[HRD.out]at HAT;dsimp only at HAT;have hli:(i:Int)<(sb.length:Int):=by omega
    generalize sb[i]=s at *;clear hlt;obtain⟨st,si,sr⟩:=s;have c0:wr.cell? ⟨b,off+i*3,none⟩=some (.string st):=hck 0 _ rfl;have c1:wr.cell? ⟨b,off+i*3+1,none⟩=some (.string si):=hck 1 _ rfl;have c2:wr.cell? ⟨b,off+i*3+2,none⟩=some (.string sr):=hck 2 _ rfl;clear hck;have X1:=h! (Ext.alloc wr (.cells #[.string st,.string si,.string sr] 33));have BS:=h! (Blk.made wr #[.string st,.string si,.string sr] 33);have hbs:=BS.out.cells;have hse:=isEmpty_ba sr;by_cases he:sr=⟨#[]⟩
    ·have HNO:=h! (show refsD ps [] (selF (fun s=>decide (s.r≠⟨#[]⟩)) usetF (sb.take (i+1)))=(rf,p0)from by rw[HAT.out,if_neg (by simp[he])]);rw[decide_eq_true he]at hse;clear he;go_wp2_with fail
     go_roundw
     case rel=>exact⟨i+1,rf,p0,rv,pv4,HLT.out,by first | rw[HWI.out] | go_num,HNO.out,FR.out.ext X1.out,SR2.out.below X1.out⟩
     case measure=>have:=HLT.out;(try rw[HWI.out]);simp[intOf];omega
    ·have HYE:=h! (show refsD ps [] (selF (fun s=>decide (s.r≠⟨#[]⟩)) usetF (sb.take (i+1)))=(if (numD p0 ⟨st,si,sr⟩:Int)∈rf then rf else rf++[(numD p0 ⟨st,si,sr⟩:Int)],putP p0 ⟨st,si,sr⟩)from by rw[HAT.out,if_pos (by simp[he])];rfl);rw[decide_eq_false he]at hse;clear he;go_wp2_with fail
     obtain⟨wd,hwd⟩:∃ x:World,x=World.drew (wr.alloc (.cells #[.string st,.string si,.string sr] 33)):=⟨_,rfl⟩;have DX:=h! (show Ext wr wd from by rw[hwd];exact X1.out.trans (Ext.drew _));have DF:=h! (FR.out.ext DX.out);have DR:=h! (SR2.out.below DX.out);have DS:=h! (show Blk wd wr.heap.size #[.string st,.string si,.string sr] 33 from by rw[hwd];exact BS.out.drew);refine region_walkL 11 (fun W=>Kept (fun x=>KX gp gp wd pv4 x/\rv.ownBlock≠some x) wd W) (by rw[<- hwd];exact Kept.refl _ _) (by kernel_rfl) (by kernel_rfl) (fun _ _ d _ _ h=>by cases d <;> exact h) ?_;rw[<- hwd];clear hwd X1 BS FR SR2 DX hbs hse c0 c1 c2 hli;generalize wr.heap.size=sbx at *
     have nr:∀ {x:Nat} {cs:Array Value} {t:TypeId},Blk wd x cs t->t≠3->rv.ownBlock≠some x:=fun {x cs t} hx ht e=>by
      obtain⟨c2,h2⟩:=DF.out.fm.refs.typed e;rw[show wd.heap[x]?=_ from hx]at h2;exact ht (by injection Option.some.inj h2)
     have h1:=fun W (h:Kept (fun x=>KX gp gp wd pv4 x/\rv.ownBlock≠some x) wd W)=>(h.blk DF.out.fm.box ⟨DF.out.gk.un DF.out.fm.box (by decide) (by decide),nr DF.out.fm.box (by decide)⟩).cells;have h2:=fun W (h:Kept (fun x=>KX gp gp wd pv4 x/\rv.ownBlock≠some x) wd W)=>(h.blk DS.out ⟨DF.out.gk.un DS.out (by decide) (by decide),nr DS.out (by decide)⟩).cells;have h3:=fun W (h:Kept (fun x=>KX gp gp wd pv4 x/\rv.ownBlock≠some x) wd W)=>(h.blk DF.out.rb ⟨DF.out.gk.un DF.out.rb (by decide) (by decide),nr DF.out.rb (by decide)⟩).cells;clear nr;(refine WalkL.tk [0,1,2,3,4,5,6,7] ?_;(iterate 8 (refine l! ?_));refine TkL.n ?_)
     clear h2 h3;refine oL! 8 ?_;refine b! ?_;intro K hK;go_simp;refine(number26_any gp B pv4 fv p0 ⟨st,si,sr⟩ wd DF.out.gk HB.out (by have:=HPL.out.1;have:=HLT.out;have:=HSL.out;have:=HPSL.out;omega)).mono ?_;rintro e w5 ⟨pv5,rfl,hg5,hf5⟩;have E5:=h! (DF.out.num hf5 hg5);have R5:=h! (hf5.grow DF.out.gk DR.out (by decide) (by decide));have K5:=h! hf5.kept;refine hK.out _ _ (hf5.kept.mono fun x hx=>hx.1) ?_;clear hK hg5 hf5 DR DS;generalize numD p0 ⟨st,si,sr⟩=nu at *;generalize putP p0 ⟨st,si,sr⟩=p5 at *;refine oL! 9 ?_;refine b! ?_;intro K hK;go_simp;refine(put26_any rv rf (nu:Int) w5 E5.out.fm.refs (by have:=HPL.out.2;have:=HLT.out;have:=HSL.out;have:=HTL.out;omega) E5.out.sz).mono ?_;rintro e w6 ⟨rv6,rfl,ho6,hk6,hw6⟩;generalize (if (nu:Int)∈rf then rf else rf++[(nu:Int)])=rf6 at *;obtain⟨r1,r2,r3,rfl,-,-,-⟩:=ho6.sl.len;have E6:=h! (E5.out.keep hk6 ho6);have B6:=h! (E5.out.bx hk6);have R6:=h! (Own.setBox (x:=w.heap.size+3) (R5.out.keepOwn fun g hg=>hk6.block g ⟨(R5.out.block g hg).2,fun e=>R5.out.apart E5.out.fm.refs (by decide) hg e⟩) B6.out (by decide) (.slice r1 r2 r3) (i:=2));refine hK.out _ _ (Kept.trans (K5.out.mono fun x hx=>hx.1) (hk6.mono fun x hx=>⟨Nat.lt_of_lt_of_le hx.1.1 K5.out.size,hx.2⟩)) ?_;clear hK hk6 ho6 hw6 DF E5 R5 K5;((refine WalkL.take 10 _ ?_ (by simp only[gA,gS,gZ];rfl) (by kernel_rfl) (by kernel_rfl) (by kernel_rfl) (by rfl) (fun W hW=>?_) ?_;rotate_left;· (go_simp;try with_reducible rfl));simp only[Act.put,pA,pZ,pS])
     have hbf:=B6.out.cells;have hbz:=B6.out.free;clear h1;refine WalkL.last (by kernel_rfl) (by kernel_rfl) ?_;refine b! ?_;intro K hK;go_simp;refine hK.out _ _ ?_;clear hK hbf hbz;go_wp2_with fail
     go_roundw
     case rel=>exact⟨i+1,rf6,p5,.slice r1 r2 r3,pv5,HLT.out,by first | rw[HWI.out] | go_num,HYE.out,E6.out,R6.out⟩
     case measure=>have:=HLT.out;(try rw[HWI.out]);simp[intOf];omega
   case' neg =>
    obtain rfl:i=sb.length:=by omega
    rw[List.take_length]at HRD
    have HH:headF T ⟨pt,pi,pr⟩ k ra rb ps=(sb,rf,p0):=by
     unfold headF;rw[if_pos H1.out,HSB.out,setsOf_sel,HRD.out]
    obtain⟨r1,r2,r3,rfl,-,-,-⟩:=FR.out.fm.refs.sl.len;have FX:=h! (show ∃ s1 s2 s3 r1 r2 r3 su rf p0 pv4,headF T ⟨pt,pi,pr⟩ k ra rb ps=(su,rf,p0)/\FrmI wb w wr gp B pv fv #[.string pt,.string pi,.string pr] k #[.int .i64 k,.string ra,.string rb,.slice ao parts.length c] p0 su rf [] (.slice s1 s2 s3) (.slice r1 r2 r3) (.slice none 0 0) pv4 from⟨_,_,_,_,_,_,_,_,_,_,HH,FR.out⟩);have hrl:=FR.out.rb.cells;clear HH FR SR2 HRD hlt hi;go_wp2_with fail
    clear hrl b1 b2 b3;generalize wr=wh at *
 case' neg =>
  by_cases h2:k=2
  case' pos =>
   have hpb:=FI.out.pb.cells;have hrb:=FI.out.rb.cells;have b1:(k == 1)=false:=by rw[beq_eq_false_iff_ne];exact h1
   have b2:(k == 2)=true:=by rw[beq_iff_eq];exact h2
   have b3:(k == 3)=false:=by rw[beq_eq_false_iff_ne];omega
   have H1:=h! h1;clear h1;have H2:=h! h2;clear h2;go_enter Tryz.func111,Tryz.ntmps111
   rw[hwe]at hpb hrb;go_wp2_with fail
   try rw[<- hwe]
   clear hwe hra hpb hrb;refine(number26_any gp B pv fv ps ⟨pt,pi,ra⟩ we FI.out.gk HB.out (by have:=HPSL.out;omega)).mono ?_;rintro e w5 ⟨pv5,rfl,hg5,hf5⟩;have HH:=h! (show headF T ⟨pt,pi,pr⟩ k ra rb ps=([],[(numD ps ⟨pt,pi,ra⟩:Int)],putP ps ⟨pt,pi,ra⟩)from by unfold headF;rw[if_neg H1.out,if_pos H2.out]);generalize numD ps ⟨pt,pi,ra⟩=nu at *;generalize putP ps ⟨pt,pi,ra⟩=p5 at *;have X5:=h! (Ext.alloc w5 (.cells #[.int .i64 nu] 3));have E5:=h! ((FI.out.num hf5 hg5).ext X5.out);have O5:=h! (show Own _ (w.heap.size+4) 3 1 _ (ic [(nu:Int)])from Own.lit1 w5 (FI.out.num hf5 hg5).sz 3 (.int .i64 nu));have E6:=h! (E5.out.setRefs O5.out);have hbf:=E5.out.fm.box.cells;have hbz:=E5.out.fm.box.free;have hrl:=E6.out.rb.cells;have FX:=h! (show ∃ s1 s2 s3 r1 r2 r3 su rf p0 pv4,headF T ⟨pt,pi,pr⟩ k ra rb ps=(su,rf,p0)/\FrmI wb w _ gp B pv fv #[.string pt,.string pi,.string pr] k #[.int .i64 k,.string ra,.string rb,.slice ao parts.length c] p0 su rf [] (.slice s1 s2 s3) (.slice r1 r2 r3) (.slice none 0 0) pv4 from⟨_,_,_,_,_,_,_,_,_,_,HH.out,E6.out⟩);clear hg5 hf5 FI X5 E5 O5 E6 HH;go_wp2_with fail
   clear hrl hbf hbz b1 b2 b3;generalize (w5.alloc (.cells #[.int .i64 nu] 3)).setCell ⟨w.heap.size+3,2,none⟩ (.slice (some ⟨w5.heap.size,0,none⟩) 1 1)=wh at *
  case' neg =>
   by_cases h3:k=3
   case' pos =>
    have hpb:=FI.out.pb.cells;have hrb:=FI.out.rb.cells;have b1:(k == 1)=false:=by rw[beq_eq_false_iff_ne];exact h1
    have b2:(k == 2)=false:=by rw[beq_eq_false_iff_ne];exact h2
    have b3:(k == 3)=true:=by rw[beq_iff_eq];exact h3
    have H1:=h! h1;clear h1;have H2:=h! h2;clear h2;have H3:=h! h3;clear h3;go_enter Tryz.func111,Tryz.ntmps111
    rw[hwe]at hpb hrb;go_wp2_with fail
    try rw[<- hwe]
    clear hwe hra hpb hrb;refine(subs25_any (S:=(· < B)) (.slice to T.length tc) T ⟨pt,pi,ra⟩ we (fun x hx=>by have:=FI.out.sz;have:=FI.out.g0;omega) (HT.out we FI.out.be) (by have:=HTL.out;omega)).mono ?_;rintro e w2 ⟨sv,rfl,ho2,hx2⟩;have HSL:=h! (HSUBL.out ⟨pt,pi,ra⟩);generalize hsb:subsOf T ⟨pt,pi,ra⟩=sb at *;have HSB:=h! hsb;clear hsb;obtain⟨so,sc,rfl,-⟩:=Sl.rows pC_length (by decide) (show Sl _ w2 3 sv (sb.flatMap pC)from ho2.sl);have F2:=h! (FI.out.ext hx2);have S2:=h! (ho2.low (B':=w.heap.size+4) (Nat.le_of_eq EZ.out.symm));clear ho2 hx2 FI;have F3:=F2;have SR:=S2;go_wp2_with fail
    obtain⟨w3,hw3⟩:∃ x,x=w2:=⟨_,rfl⟩;rw[<- hw3]at F3 SR ⊢;clear hw3 F2 S2;go_loopw [71] (fun iv wr=>∃ (i:Nat) (rf:List Int) (p0:List P3) (rv pv4:Value),i<=sb.length/\iv = .int .i64 i/\refsD ps [] (selF (fun s=>decide (s.r=⟨#[]⟩)) (viaF rb) (sb.take i))=(rf,p0)/\FrmI wb w wr gp B pv fv #[.string pt,.string pi,.string pr] k #[.int .i64 k,.string ra,.string rb,.slice ao parts.length c] p0 [] rf [] (.slice none 0 0) rv (.slice none 0 0) pv4/\Own wr (w.heap.size+4) 33 3 (.slice so sb.length sc) (pcs sb)) (fun iv _=>sb.length-(intOf iv).toNat)
    case atStart=>exact⟨0,[],ps,.slice none 0 0,pv,Nat.zero_le _,rfl,rfl,F3.out,SR.out⟩
    case' round =>
     obtain⟨i,rf,p0,rv,pv4,hi,rfl,hrd,hfr,hsr⟩:=hrel;have HRD:=h! hrd;have FR:=h! hfr;have SR2:=h! hsr;clear hrd hfr hsr F3 SR;by_cases hlt:i<sb.length
     case' pos =>
      obtain⟨so',sc',he',-,-,hcell⟩:=Sl.rows pC_length (by decide) (show Sl _ wr 3 (.slice so sb.length sc) (sb.flatMap pC)from SR2.out.sl);cases he';obtain⟨b,off,rfl,-,hcell⟩:=hcell (by omega);have hck:=hcell i hlt;clear hcell;have HAT:=h! (selF_at (ok:=(fun s=>decide (s.r=⟨#[]⟩))) (f:=(viaF rb)) hlt ps []);have HLT:=h! hlt;have HWI:=h! (show wrap64 ((i:Int)+1)=((i+1:Nat):Int)from by have h1:=HSL.out;have h2:=HTL.out;unfold wrap64;omega)
      have HPL:=h! (show p0.length<=ps.length+i/\rf.length<=i from by
       have h1:=refsD_len2 (selF (fun s=>decide (s.r=⟨#[]⟩)) (viaF rb) (sb.take i)) ps [];have h2:=refsD_len1 (selF (fun s=>decide (s.r=⟨#[]⟩)) (viaF rb) (sb.take i)) ps [];have h3:=selF_len (fun s=>decide (s.r=⟨#[]⟩)) (viaF rb) (sb.take i);rw[List.length_take]at h3;rw[HRD.out]at h1 h2;simp only[List.length_nil]at h1 h2;omega)
      rw[HRD.out]at HAT;dsimp only at HAT;have hli:(i:Int)<(sb.length:Int):=by omega
      generalize sb[i]=s at *;clear hlt;obtain⟨st,si,sr⟩:=s;have c0:wr.cell? ⟨b,off+i*3,none⟩=some (.string st):=hck 0 _ rfl;have c1:wr.cell? ⟨b,off+i*3+1,none⟩=some (.string si):=hck 1 _ rfl;have c2:wr.cell? ⟨b,off+i*3+2,none⟩=some (.string sr):=hck 2 _ rfl;clear hck;have X1:=h! (Ext.alloc wr (.cells #[.string st,.string si,.string sr] 33));have BS:=h! (Blk.made wr #[.string st,.string si,.string sr] 33);have hbs:=BS.out.cells;have hse:=isEmpty_ba sr;by_cases he:sr=⟨#[]⟩
      ·have HYE:=h! (show refsD ps [] (selF (fun s=>decide (s.r=⟨#[]⟩)) (viaF rb) (sb.take (i+1)))=(if (numD p0 ⟨st,si,rb⟩:Int)∈rf then rf else rf++[(numD p0 ⟨st,si,rb⟩:Int)],putP p0 ⟨st,si,rb⟩)from by rw[HAT.out,if_pos (by simp[he])];rfl);rw[decide_eq_true he]at hse;clear he;go_wp2_with fail
       obtain⟨wd,hwd⟩:∃ x:World,x=World.drew (wr.alloc (.cells #[.string st,.string si,.string sr] 33)):=⟨_,rfl⟩;have DX:=h! (show Ext wr wd from by rw[hwd];exact X1.out.trans (Ext.drew _));have DF:=h! (FR.out.ext DX.out);have DR:=h! (SR2.out.below DX.out);have DS:=h! (show Blk wd wr.heap.size #[.string st,.string si,.string sr] 33 from by rw[hwd];exact BS.out.drew);refine region_walkL 11 (fun W=>Kept (fun x=>KX gp gp wd pv4 x/\rv.ownBlock≠some x) wd W) (by rw[<- hwd];exact Kept.refl _ _) (by kernel_rfl) (by kernel_rfl) (fun _ _ d _ _ h=>by cases d <;> exact h) ?_;rw[<- hwd];clear hwd X1 BS FR SR2 DX hbs hse c0 c1 c2 hli;generalize wr.heap.size=sbx at *
       have nr:∀ {x:Nat} {cs:Array Value} {t:TypeId},Blk wd x cs t->t≠3->rv.ownBlock≠some x:=fun {x cs t} hx ht e=>by
        obtain⟨c2,h2⟩:=DF.out.fm.refs.typed e;rw[show wd.heap[x]?=_ from hx]at h2;exact ht (by injection Option.some.inj h2)
       have h1:=fun W (h:Kept (fun x=>KX gp gp wd pv4 x/\rv.ownBlock≠some x) wd W)=>(h.blk DF.out.fm.box ⟨DF.out.gk.un DF.out.fm.box (by decide) (by decide),nr DF.out.fm.box (by decide)⟩).cells;have h2:=fun W (h:Kept (fun x=>KX gp gp wd pv4 x/\rv.ownBlock≠some x) wd W)=>(h.blk DS.out ⟨DF.out.gk.un DS.out (by decide) (by decide),nr DS.out (by decide)⟩).cells;have h3:=fun W (h:Kept (fun x=>KX gp gp wd pv4 x/\rv.ownBlock≠some x) wd W)=>(h.blk DF.out.rb ⟨DF.out.gk.un DF.out.rb (by decide) (by decide),nr DF.out.rb (by decide)⟩).cells;clear nr;(refine WalkL.tk [0,1,2,3,4,5,6,7] ?_;(iterate 8 (refine l! ?_));refine TkL.n ?_)
       clear h2 h3;refine oL! 8 ?_;refine b! ?_;intro K hK;go_simp;refine(number26_any gp B pv4 fv p0 ⟨st,si,rb⟩ wd DF.out.gk HB.out (by have:=HPL.out.1;have:=HLT.out;have:=HSL.out;have:=HPSL.out;omega)).mono ?_;rintro e w5 ⟨pv5,rfl,hg5,hf5⟩;have E5:=h! (DF.out.num hf5 hg5);have R5:=h! (hf5.grow DF.out.gk DR.out (by decide) (by decide));have K5:=h! hf5.kept;refine hK.out _ _ (hf5.kept.mono fun x hx=>hx.1) ?_;clear hK hg5 hf5 DR DS;generalize numD p0 ⟨st,si,rb⟩=nu at *;generalize putP p0 ⟨st,si,rb⟩=p5 at *;refine oL! 9 ?_;refine b! ?_;intro K hK;go_simp;refine(put26_any rv rf (nu:Int) w5 E5.out.fm.refs (by have:=HPL.out.2;have:=HLT.out;have:=HSL.out;have:=HTL.out;omega) E5.out.sz).mono ?_;rintro e w6 ⟨rv6,rfl,ho6,hk6,hw6⟩;generalize (if (nu:Int)∈rf then rf else rf++[(nu:Int)])=rf6 at *;obtain⟨r1,r2,r3,rfl,-,-,-⟩:=ho6.sl.len;have E6:=h! (E5.out.keep hk6 ho6);have B6:=h! (E5.out.bx hk6);have R6:=h! (Own.setBox (x:=w.heap.size+3) (R5.out.keepOwn fun g hg=>hk6.block g ⟨(R5.out.block g hg).2,fun e=>R5.out.apart E5.out.fm.refs (by decide) hg e⟩) B6.out (by decide) (.slice r1 r2 r3) (i:=2));refine hK.out _ _ (Kept.trans (K5.out.mono fun x hx=>hx.1) (hk6.mono fun x hx=>⟨Nat.lt_of_lt_of_le hx.1.1 K5.out.size,hx.2⟩)) ?_;clear hK hk6 ho6 hw6 DF E5 R5 K5;((refine WalkL.take 10 _ ?_ (by simp only[gA,gS,gZ];rfl) (by kernel_rfl) (by kernel_rfl) (by kernel_rfl) (by rfl) (fun W hW=>?_) ?_;rotate_left;· (go_simp;try with_reducible rfl));simp only[Act.put,pA,pZ,pS])
       have hbf:=B6.out.cells;have hbz:=B6.out.free;clear h1;refine WalkL.last (by kernel_rfl) (by kernel_rfl) ?_;refine b! ?_;intro K hK;go_simp;refine hK.out _ _ ?_;clear hK hbf hbz;go_wp2_with fail
       go_roundw
       case rel=>exact⟨i+1,rf6,p5,.slice r1 r2 r3,pv5,HLT.out,by first | rw[HWI.out] | go_num,HYE.out,E6.out,R6.out⟩
       case measure=>have:=HLT.out;(try rw[HWI.out]);simp[intOf];omega
      ·have HNO:=h! (show refsD ps [] (selF (fun s=>decide (s.r=⟨#[]⟩)) (viaF rb) (sb.take (i+1)))=(rf,p0)from by rw[HAT.out,if_neg (by simp[he])]);rw[decide_eq_false he]at hse;clear he;go_wp2_with fail
       go_roundw
       case rel=>exact⟨i+1,rf,p0,rv,pv4,HLT.out,by first | rw[HWI.out] | go_num,HNO.out,FR.out.ext X1.out,SR2.out.below X1.out⟩
       case measure=>have:=HLT.out;(try rw[HWI.out]);simp[intOf];omega
     case' neg =>
      obtain rfl:i=sb.length:=by omega
      rw[List.take_length]at HRD
      have HH:headF T ⟨pt,pi,pr⟩ k ra rb ps=([],rf,p0):=by
       unfold headF;rw[if_neg H1.out,if_neg H2.out,if_pos H3.out,HSB.out,viaOf_sel,HRD.out]
      obtain⟨r1,r2,r3,rfl,-,-,-⟩:=FR.out.fm.refs.sl.len;have FX:=h! (show ∃ s1 s2 s3 r1 r2 r3 su rf p0 pv4,headF T ⟨pt,pi,pr⟩ k ra rb ps=(su,rf,p0)/\FrmI wb w wr gp B pv fv #[.string pt,.string pi,.string pr] k #[.int .i64 k,.string ra,.string rb,.slice ao parts.length c] p0 su rf [] (.slice s1 s2 s3) (.slice r1 r2 r3) (.slice none 0 0) pv4 from⟨_,_,_,_,_,_,_,_,_,_,HH,FR.out⟩);have hrl:=FR.out.rb.cells;clear HH FR SR2 HRD hlt hi;go_wp2_with fail
      clear hrl b1 b2 b3;generalize wr=wh at *
   case' neg =>
    have b1:(k == 1)=false:=by rw[beq_eq_false_iff_ne];exact h1
    have b2:(k == 2)=false:=by rw[beq_eq_false_iff_ne];exact h2
    have b3:(k == 3)=false:=by rw[beq_eq_false_iff_ne];exact h3
    have H1:=h! h1;clear h1;have H2:=h! h2;clear h2;have H3:=h! h3;clear h3;have HH:=h! (show headF T ⟨pt,pi,pr⟩ k ra rb ps=([],[],ps)from by unfold headF;rw[if_neg H1.out,if_neg H2.out,if_neg H3.out]);have FX:=h! (show ∃ s1 s2 s3 r1 r2 r3 su rf p0 pv4,headF T ⟨pt,pi,pr⟩ k ra rb ps=(su,rf,p0)/\FrmI wb w we gp B pv fv #[.string pt,.string pi,.string pr] k #[.int .i64 k,.string ra,.string rb,.slice ao parts.length c] p0 su rf [] (.slice s1 s2 s3) (.slice r1 r2 r3) (.slice none 0 0) pv4 from⟨_,_,_,_,_,_,_,_,_,_,HH.out,FI.out⟩);have hrl:=FI.out.rb.cells;clear FI HH;go_enter Tryz.func111,Tryz.ntmps111
    rw[hwe]at hrl;go_wp2_with fail
    try rw[<- hwe]
    clear hwe hra hrl b1 b2 b3;generalize we=wh at *
 all_goals
  obtain⟨s1,s2,s3,r1,r2,r3,su,rf,p0,pv4,hh,hf⟩:=FX.out;have HH:=h! hh;have FH:=h! hf;have HSP:=h! (fun i=>formsD_take T ⟨pt,pi,pr⟩ parts p0 i)
  have HRM:=h! (show ∀ i (hi:i<parts.length),(formsD T ⟨pt,pi,pr⟩ (parts.take i) p0).2.length+parts[i].sz*(T.length+1)<=1073741824 from fun i hi=>by
   have:=HROOM.out i hi;rw[HH.out]at this;exact this)
  clear hh hf FX;go_loopw [93] (fun iv wr=>∃ (i:Nat) (q:List (FT × FV3)) (qv pv':Value),i<=parts.length/\iv = .int .i64 i/\q.map (·.1)=(formsD T ⟨pt,pi,pr⟩ (parts.take i) p0).1/\FrmI wb w wr gp B pv fv #[.string pt,.string pi,.string pr] k #[.int .i64 k,.string ra,.string rb,.slice ao parts.length c] (formsD T ⟨pt,pi,pr⟩ (parts.take i) p0).2 su rf q (.slice s1 s2 s3) (.slice r1 r2 r3) qv pv') (fun iv _=>parts.length-(intOf iv).toNat)
  case atStart=>exact⟨0,[],.slice none 0 0,pv4,Nat.zero_le _,rfl,rfl,FH.out⟩
  case round =>
   obtain⟨i,q,qv,pv',hi,rfl,hq,hfr⟩:=hrel;have RQ:=h! hq;have FR:=h! hfr;clear FH hq hfr;by_cases hlt:i<parts.length
   ·obtain⟨ao',c',he',-,-,hcell⟩:=(HRT.out.same (w':=wr) fun x hx=>(FR.out.be.block x hx).trans (HBW.out.block x hx).symm).rows;cases he';obtain⟨bq,oq,pq,rfl,hbq,d0,d1,d2,d3,hpat⟩:=hcell i hlt;dsimp only[RT.ps]at d0 d1 d2 d3 hpat;have HLTI:=h! hlt;have HST:=h! (HSP.out i hlt);have HRI:=h! (HRM.out i hlt);have HII:=h! (HIH.out parts[i] (List.getElem_mem hlt))
    have HQL:=h! (show q.length=i from by
     have:=congrArg List.length RQ.out;rw[List.length_map]at this;rw[this];rw[formsD_len1,List.length_take];omega)
    have HPL:=h! (show parts.length<=1073741824 from by
     have h1:=szL_many parts;have h2:=(RT.mk k ra rb parts).sz_eq;have h3:=HLEN.out;rw[h2,Nat.add_mul]at h3;have h4:szL parts*1<=szL parts*(T.length+1):=Nat.mul_le_mul_left _ (by omega);simp only[RT.ps]at h3;omega)
    have HWI:=h! (show wrap64 ((i:Int)+1)=((i+1:Nat):Int)from by have h1:=HPL.out;unfold wrap64;omega);have hli:(i:Int)<(parts.length:Int):=by omega
    generalize parts[i]=x at *;obtain⟨xo,xc,rfl,-⟩:=hpat.rows;generalize hfd:formsD T ⟨pt,pi,pr⟩ (parts.take i) p0=fd at *;obtain⟨ff,fp⟩:=fd;dsimp only at RQ FR HST HRI;clear hlt hi hfd hbq;have X1:=h! (Ext.alloc wr (.cells #[.int .i64 x.k,.string x.a,.string x.b,.slice xo x.ps.length xc] 106));have BX:=h! (Blk.made wr #[.int .i64 x.k,.string x.a,.string x.b,.slice xo x.ps.length xc] 106);have F1:=h! (FR.out.ext X1.out);have A1:=h! (hpat.same fun y (hy:y<B)=>X1.out.block y (by have:=FR.out.sz;have:=FR.out.g0;omega));have hbx:=BX.out.cells;have hbp:=F1.out.pb.cells;go_wp2_with fail
    clear hbx hbp d0 d1 d2 d3 hpat hli;refine(HII.out pv' (.slice xo x.ps.length xc) fp _ A1.out F1.out.be F1.out.gk HRI.out).mono ?_;rintro e w2 ⟨v3,pv2,rfl,hat2,hgk2,hfn2⟩;have F2:=h! (F1.out.num hfn2 hgk2);have TA:=h! hat2;have QB:=h! (fun g hg=>(F1.out.fm.parts.row.block g hg).2);have ZB:=h! F1.out.sz;clear hat2 hgk2 hfn2 F1 FR BX A1 X1;generalize (wr.alloc (.cells #[.int .i64 x.k,.string x.a,.string x.b,.slice xo x.ps.length xc] 106)).heap.size=n0 at *;generalize hfx:formD T ⟨pt,pi,pr⟩ x fp=fx at *;obtain⟨fx,fxp⟩:=fx;obtain⟨v1,v2,v4⟩:=v3;unfold fV at *;dsimp only at TA F2 HST ⊢;obtain⟨t1,t2,-⟩:=(FTAt.iff _ _).1 TA.out;obtain⟨x1,y1,z1,rfl,-,-,-⟩:=t1.len;obtain⟨x2,y2,z2,rfl,-,-,-⟩:=t2.len;obtain⟨x4,z4,rfl,-⟩:=TA.out.rows;clear t1 t2 hfx;obtain⟨qo,qn,qc,rfl,hqn,-,-⟩:=F2.out.fm.parts.row.sl.len;have X3:=h! (Ext.alloc w2 (.cells #[.int .i64 fx.k,.slice x1 y1 z1,.slice x2 y2 z2,.slice x4 fx.ps.length z4] 128));have X4:=h! (Ext.alloc (w2.alloc (.cells #[.int .i64 fx.k,.slice x1 y1 z1,.slice x2 y2 z2,.slice x4 fx.ps.length z4] 128)) (.cells #[.int .i64 fx.k,.slice x1 y1 z1,.slice x2 y2 z2,.slice x4 fx.ps.length z4] 128));have B4:=h! (Blk.made' (w:=w2.alloc (.cells #[.int .i64 fx.k,.slice x1 y1 z1,.slice x2 y2 z2,.slice x4 fx.ps.length z4] 128)) (B:=w2.heap.size+1) (by simp) #[.int .i64 fx.k,.slice x1 y1 z1,.slice x2 y2 z2,.slice x4 fx.ps.length z4] 128);have hby:=(Blk.made w2 #[.int .i64 fx.k,.slice x1 y1 z1,.slice x2 y2 z2,.slice x4 fx.ps.length z4] 128).cells;have hbF:=(F2.out.ext X3.out).fm.box.cells;have F4:=h! ((F2.out.ext X3.out).ext X4.out);have QL3:=h! (show(q.flatMap fC).length+4<=4294967300 from by have:=HQL.out;have:=HPL.out;have:=HLTI.out;rw[fCs_length];omega);clear hqn;go_wp2_with (at_builtin;go_must (refine wpList_ownw formsT rfl (.tmp 103) (.tmp 105) rfl rfl F4.out.fm.parts.row rfl (m:=1) (news:=fC (fx,(.slice x1 y1 z1,.slice x2 y2 z2,.slice x4 fx.ps.length z4))) rfl (by intro j u hu;rw[Addr.add_lit,Nat.zero_add];exact(B4.out.cells j).trans (by simpa [fC] using hu)) (by simp[fC,Value.oneCell']) (by have:=QL3.out;rw[fC_length];omega) (by have:=QL3.out;rw[fC_length];omega) F4.out.sz ?_;intro v6 w6 hown6 hb6 hg6;have HP6:=h! (F2.out.part (X3.out.trans X4.out) hg6 hown6 hb6 TA.out ZB.out QB.out);obtain⟨o6,m6,c6,rfl,-,-,-⟩:=hown6.sl.len;have hbf:=(F4.out.bg hg6).cells;have hbz:=(F4.out.bg hg6).free;clear hown6 hb6 hg6))
    go_roundw
    case rel=>exact⟨i+1,q++[(fx,(.slice x1 y1 z1,.slice x2 y2 z2,.slice x4 fx.ps.length z4))],.slice o6 m6 c6,pv2,HLTI.out,by first | rw[HWI.out] | go_num,by rw[HST.out,List.map_append,RQ.out];rfl,by rw[HST.out];exact HP6.out⟩
    case measure=>have:=HLTI.out;(try rw[HWI.out]);simp[intOf];omega
   ·obtain rfl:i=parts.length:=by omega
    have HTA:=h! (show parts.take parts.length=parts from List.take_length);rw[HTA.out]at RQ FR;obtain⟨qo,qn,qc,rfl,-,-,-⟩:=FR.out.fm.parts.row.sl.len;have hc3:=FR.out.fm.box.cells;have hc2:=FR.out.ob.cells;have hz2:=FR.out.ob.free;clear hi hlt;go_wp2_with fail
    clear hc3 hc2 hz2;have ZS:∀ y,y≠w.heap.size+2->((((wr.setCell ⟨w.heap.size+2,0,none⟩ (.int .i64 k)).setCell ⟨w.heap.size+2,1,none⟩ (.slice s1 s2 s3)).setCell ⟨w.heap.size+2,2,none⟩ (.slice r1 r2 r3)).setCell ⟨w.heap.size+2,3,none⟩ (.slice qo qn qc)).heap[y]?=wr.heap[y]?:=fun y hy=>by rw[Below.heap_setCell _ _ _ y hy,Below.heap_setCell _ _ _ y hy,Below.heap_setCell _ _ _ y hy,Below.heap_setCell _ _ _ y hy]
    have ZW:=FR.out.gk.un FR.out.ob (by decide) (by decide);refine bodyPost_ret (results_cell_row rfl _ _ (w.heap.size+2) 128 #[.int .i64 k,.slice s1 s2 s3,.slice r1 r2 r3,.slice qo qn qc] (0,0) _ rfl (FR.out.ob.put4 _ _ _ _) Tryz.underlying128 rfl (by kernel_rfl)) rfl ?_;refine⟨(.slice s1 s2 s3,.slice r1 r2 r3,.slice qo qn qc),pv',by rw[HFD.out,HH.out];rfl,?_,?_,(((FR.out.fn.set (by omega) _).set (by omega) _).set (by omega) _).set (by omega) _⟩
    ·refine(FR.out.fm.done (by rw[HFD.out,HH.out,RQ.out]) (fun y hy _=>ZS y (by omega)) (by simp)).mono fun y hy=>hy.mono (by omega)
    ·rw[HFD.out,HH.out];exact FR.out.gk.same (ZS _ fun e=>ZW.2.1 e.symm) fun g hg=>ZS _ fun e=>ZW.2.2.2 (by rw[hg,e])
end Go.Proofs.YtlhaghoajpglaaaGreat
namespace Go.Proofs.YtlhaghoajpglaaaGreat
open Go Go.RowKit Go.Maps Go.Shelf
theorem find06_at (ts:List TyS)(tv:Value)(ty rel:ByteArray)(w:World) {S:Nat->Prop} (hSw:∀ b,S b->b<w.heap.size)(h:TysAt S w ts tv)(hu:uniqOk ts=true) :
  Calls Tryz.prog 110 #[.agg #[tv],.string ty,.string rel] w fun e w'=>∃ z:RV,e = .returned (.tuple #[rvV z,.bool (lookA (refsOf ts) ⟨ty,rel⟩).isSome])/\RTAt S w' z.1 z.2/\(∀ r,lookA (refsOf ts) ⟨ty,rel⟩=some r->z.1=r)/\(lookA (refsOf ts) ⟨ty,rel⟩=none->z=(.mk 0 ByteArray.empty ByteArray.empty [],.slice none 0 0))/\Below w.heap.size w w':=by
 obtain⟨ao,c,rfl,hlc,hcm,hcell⟩:=h.rows;have HC:=h! hcell;have HSW:=h! hSw;have HU:=h! hu;obtain⟨w1,hw1⟩:∃ x,x=w.alloc (.cells #[.slice ao ts.length c] 26):=⟨_,rfl⟩;obtain⟨w2,hw2⟩:∃ x,x=w1.alloc (.cells #[.int .i64 0,.string ⟨#[]⟩,.string ⟨#[]⟩,.slice none 0 0] 106):=⟨_,rfl⟩;have e1:w1.heap.size=w.heap.size+1:=by rw[hw1];simp
 have x01:Ext w w1:=by rw[hw1];exact Ext.alloc _ _
 have x12:Ext w1 w2:=by rw[hw2];exact Ext.alloc _ _
 have hs2:=(show Blk w2 w.heap.size #[.slice ao ts.length c] 26 from Blk.below (by rw[hw1];exact Blk.made _ _ _) x12).cells;have HR:=h! (show Blk w2 (w.heap.size+1) #[.int .i64 0,.string ⟨#[]⟩,.string ⟨#[]⟩,.slice none 0 0] 106 from by rw[hw2,<- e1];exact Blk.made _ _ _);have HB2:=h! (show Below w.heap.size w w2 from x01.trans x12);subst hw2 hw1;clear h hcell hu e1 x01 x12;go_enter Tryz.func110,Tryz.ntmps110
 go_wp2_with fail
 obtain⟨w2,hw2⟩:∃ x,x=(w.alloc (.cells #[.slice ao ts.length c] 26)).alloc (.cells #[.int .i64 0,.string ⟨#[]⟩,.string ⟨#[]⟩,.slice none 0 0] 106):=⟨_,rfl⟩;rw[<- hw2]at HR HB2 ⊢;clear hw2 hs2;obtain⟨br,hbr⟩:∃ x,x=w.heap.size+1:=⟨_,rfl⟩;rw[<- hbr]at HR ⊢;have HBR:=h! (show w.heap.size<=br from by omega);clear hbr;go_loopw [15] (fun ii wr=>∃ i:Nat,i<=ts.length/\ii = .int .i64 i/\(∀ j (hj:j<ts.length),j<i->ts[j].name≠ty)/\Blk wr br #[.int .i64 0,.string ⟨#[]⟩,.string ⟨#[]⟩,.slice none 0 0] 106/\Below w.heap.size w wr) (fun ii _=>ts.length-(intOf ii).toNat)
 case atStart=>exact⟨0,by omega,rfl,fun _ _ h=>absurd h (by omega),HR.out,HB2.out⟩
 case round =>
  rename World=>wo
  obtain⟨i,hi,rfl,hall,hblk,hbel⟩:=hrel;have HALL:=h! hall;have HRO:=h! hblk;have HBO:=h! hbel;clear HR HB2 hall hblk;by_cases hlt:i<ts.length
  ·have HUP:=fun h=>h! (upto_succ (p:=fun j hj=>ts[j].name≠ty) HALL.out hlt h);have HMISS:=fun(h:ts[i].name=ty)=>h! (fun(hb2:∀ j (hj:j<ts[i].rels.length),ts[i].rels[j].1≠rel)=>refs_miss HU.out hlt h hb2);have HHIT:=fun(h:ts[i].name=ty)=>h! (fun k hk hr hb2=>refs_hit (k:=k) (rel:=rel) hlt h HALL.out hk hr hb2);obtain⟨b,off,pv2,hbo,hb,c0,c1,hat2⟩:=HC.out i hlt;cases hbo;have d0:=(hbel.cell (p:=⟨b,off+i*2,none⟩) (HSW.out _ hb)).trans c0;have d1:=(hbel.cell (p:=⟨b,off+i*2+1,none⟩) (HSW.out _ hb)).trans c1;obtain⟨ao2,c2',rfl,hlc2,hcm2,hcell2⟩:=hat2.rows;have HC2:=h! hcell2;have hb1:=hbel.alloc hbel.size (.cells #[.string ts[i].name,.slice ao2 ts[i].rels.length c2'] 176);have HB1:=h! hb1;have HRT:=h! (HRO.out.below (Ext.alloc wo (.cells #[.string ts[i].name,.slice ao2 ts[i].rels.length c2'] 176)));have hbx:=(Blk.made wo #[.string ts[i].name,.slice ao2 ts[i].rels.length c2'] 176).cells;clear c0 c1 hat2 hcell2 hb1 hbel;generalize ts[i]=x at *;obtain⟨xn,l⟩:=x;dsimp only at *;by_cases he:xn=ty
   ·have HM:=HMISS he;have HH:=HHIT he;subst he;clear HUP HMISS HHIT;go_wp2_with fail
    obtain⟨wq,hwq⟩:∃ x,x=wo.alloc (.cells #[.string xn,.slice ao2 l.length c2'] 176):=⟨_,rfl⟩;rw[<- hwq]at HB1 HRT ⊢;clear hwq hbx d0 d1;go_loopw [26] (fun kk wr=>∃ k:Nat,k<=l.length/\kk = .int .i64 k/\(∀ j (hj:j<l.length),j<k->l[j].1≠rel)/\Blk wr br #[.int .i64 0,.string ⟨#[]⟩,.string ⟨#[]⟩,.slice none 0 0] 106/\Below w.heap.size w wr) (fun kk _=>l.length-(intOf kk).toNat)
    case atStart=>exact⟨0,by omega,rfl,fun _ _ h=>absurd h (by omega),HRT.out,HB1.out⟩
    case round =>
     obtain⟨k,hk,rfl,hall2,hblk,hbel⟩:=hrel;have HALL2:=h! hall2;have HRR:=h! hblk;have HBQ:=h! hbel;clear HRT HB1 hall2 hblk;by_cases hlt2:k<l.length
     ·have HUP2:=fun h=>h! (upto_succ (p:=fun j hj=>l[j].1≠rel) HALL2.out hlt2 h);have HFND:=fun(h:l[k].1=rel)=>h! (HH.out k hlt2 h HALL2.out);obtain⟨b2,off2,pv3,hbo,hb2,c0,c1,c2,c3,c4,hat3⟩:=HC2.out k hlt2;cases hbo;have d0:=(hbel.cell (p:=⟨b2,off2+k*5,none⟩) (HSW.out _ hb2)).trans c0;have d1:=(hbel.cell (p:=⟨b2,off2+k*5+1,none⟩) (HSW.out _ hb2)).trans c1;have d2:=(hbel.cell (p:=⟨b2,off2+k*5+2,none⟩) (HSW.out _ hb2)).trans c2;have d3:=(hbel.cell (p:=⟨b2,off2+k*5+3,none⟩) (HSW.out _ hb2)).trans c3;have d4:=(hbel.cell (p:=⟨b2,off2+k*5+4,none⟩) (HSW.out _ hb2)).trans c4;obtain⟨ao3,c3',rfl,-⟩:=hat3.rows;obtain⟨wx,hwx⟩:∃ x,x=wr.alloc (.cells #[.string l[k].1,.int .i64 l[k].2.k,.string l[k].2.a,.string l[k].2.b,.slice ao3 l[k].2.ps.length c3'] 181):=⟨_,rfl⟩;have xrx:Ext wr wx:=by rw[hwx];exact Ext.alloc _ _
      have hbx:=(show Blk wx wr.heap.size #[.string l[k].1,.int .i64 l[k].2.k,.string l[k].2.a,.string l[k].2.b,.slice ao3 l[k].2.ps.length c3'] 181 from by rw[hwx];exact Blk.made _ _ _).cells;have HRX:=h! (HRR.out.below xrx);have HBX:=h! (show Below w.heap.size w wx from HBQ.out.trans (xrx.mono HBQ.out.size));have HAT:=h! hat3;have hne:br≠wr.heap.size:=by have:=HRR.out.lt;omega
      clear c0 c1 c2 c3 c4 hat3 xrx hbel;generalize l[k]=y at *;obtain⟨yn,p⟩:=y;dsimp only at *;by_cases he2:yn=rel
      ·have HF:=HFND he2;subst he2;have r3:=HRX.out.cells;have f3:=HRX.out.free;have hs1:=HRX.out.set_to 0 (.int .i64 p.k) rfl;have hs2:=hs1.set_to 1 (.string p.a) rfl;have hs3:=hs2.set_to 2 (.string p.b) rfl;have hs4:=hs3.set_to 3 (.slice ao3 p.ps.length c3') rfl;have HS4:=h! hs4;have HBE:=h! (show Below w.heap.size w ((((wx.setCell ⟨br,0,none⟩ (.int .i64 p.k)).setCell ⟨br,1,none⟩ (.string p.a)).setCell ⟨br,2,none⟩ (.string p.b)).setCell ⟨br,3,none⟩ (.slice ao3 p.ps.length c3'))from(((HBX.out.setCell HBR.out _).setCell HBR.out _).setCell HBR.out _).setCell HBR.out _);clear hs1 hs2 hs3 hs4 HUP2 HFND;subst hwx;go_wp2_with fail
       refine bodyPost_ret (v := .tuple #[.agg #[.int .i64 p.k,.string p.a,.string p.b,.slice ao3 p.ps.length c3'],.bool true]) ?_ rfl ⟨(p,.slice ao3 p.ps.length c3'),?_,?_,fun r hr=>?_,fun hr=>?_,HBE.out⟩
       ·rw[results_cell_tmp rfl];have hl:=run_loadVar_row (P:=Tryz.prog) _ br _ 106 _ _ _ HS4.out Tryz.underlying106 rfl (by kernel_rfl);simp[asAddr,hl,Result.andThen]
       ·unfold rvV rV;rw[HF.out];rfl
       ·exact HAT.out.same ((Same.below HBE.out).mono HSW.out)
       ·rw[HF.out]at hr;cases hr;rfl
       ·rw[HF.out]at hr;cases hr
      ·have HN:=HUP2 he2;have hne2:=ba_beq' he2;rw[<- ByteArray.toList_eq,<- ByteArray.toList_eq]at hne2;clear HUP2 HFND he2;subst hwx;go_wp2_with fail
       go_roundw
       case rel=>exact⟨k+1,by omega,by go_num,HN.out,HRX.out,HBX.out⟩
       case measure=>simp[intOf];omega
     ·obtain rfl:k=l.length:=by omega
      have HF:=h! (HM.out fun j hj=>HALL2.out j hj hj);have r3:=HRR.out.cells;have f3:=HRR.out.free;have hs1:=HRR.out.set_to 0 (.int .i64 0) rfl;have hs2:=hs1.set_to 1 (.string ⟨#[]⟩) rfl;have hs3:=hs2.set_to 2 (.string ⟨#[]⟩) rfl;have hs4:=hs3.set_to 3 (.slice none 0 0) rfl;have HS4:=h! hs4;have HBE:=h! (show Below w.heap.size w ((((wr.setCell ⟨br,0,none⟩ (.int .i64 0)).setCell ⟨br,1,none⟩ (.string ⟨#[]⟩)).setCell ⟨br,2,none⟩ (.string ⟨#[]⟩)).setCell ⟨br,3,none⟩ (.slice none 0 0))from(((HBQ.out.setCell HBR.out _).setCell HBR.out _).setCell HBR.out _).setCell HBR.out _);clear hs1 hs2 hs3 hs4 hbel;go_wp2_with fail
      refine bodyPost_ret (v := .tuple #[.agg #[.int .i64 0,.string ⟨#[]⟩,.string ⟨#[]⟩,.slice none 0 0],.bool false]) ?_ rfl ⟨(.mk 0 ByteArray.empty ByteArray.empty [],.slice none 0 0),?_,?_,fun r hr=>?_,fun hr=>rfl,HBE.out⟩
      ·rw[results_cell_tmp rfl];have hl:=run_loadVar_row (P:=Tryz.prog) _ br _ 106 _ _ _ HS4.out Tryz.underlying106 rfl (by kernel_rfl);simp[asAddr,hl,Result.andThen]
      ·rw[HF.out];rfl
      ·exact RTAt.nil _ _ _ _ _
      ·rw[HF.out]at hr;cases hr
   ·have HN:=HUP he;have hne:=ba_beq' he;rw[<- ByteArray.toList_eq,<- ByteArray.toList_eq]at hne;clear HUP HMISS HHIT he;go_wp2_with fail
    go_roundw
    case rel=>exact⟨i+1,by omega,by go_num,HN.out,HRT.out,HB1.out⟩
    case measure=>simp[intOf];omega
  ·obtain rfl:i=ts.length:=by omega
   have HF:=h! (refs_out (rel:=rel) fun j hj=>HALL.out j hj hj);have r3:=HRO.out.cells;have f3:=HRO.out.free;have hs1:=HRO.out.set_to 0 (.int .i64 0) rfl;have hs2:=hs1.set_to 1 (.string ⟨#[]⟩) rfl;have hs3:=hs2.set_to 2 (.string ⟨#[]⟩) rfl;have hs4:=hs3.set_to 3 (.slice none 0 0) rfl;have HS4:=h! hs4;have HBE:=h! (show Below w.heap.size w ((((wo.setCell ⟨br,0,none⟩ (.int .i64 0)).setCell ⟨br,1,none⟩ (.string ⟨#[]⟩)).setCell ⟨br,2,none⟩ (.string ⟨#[]⟩)).setCell ⟨br,3,none⟩ (.slice none 0 0))from(((HBO.out.setCell HBR.out _).setCell HBR.out _).setCell HBR.out _).setCell HBR.out _);clear hs1 hs2 hs3 hs4 hbel;go_wp2_with fail
   refine bodyPost_ret (v := .tuple #[.agg #[.int .i64 0,.string ⟨#[]⟩,.string ⟨#[]⟩,.slice none 0 0],.bool false]) ?_ rfl ⟨(.mk 0 ByteArray.empty ByteArray.empty [],.slice none 0 0),?_,?_,fun r hr=>?_,fun hr=>rfl,HBE.out⟩
   ·rw[results_cell_tmp rfl];have hl:=run_loadVar_row (P:=Tryz.prog) _ br _ 106 _ _ _ HS4.out Tryz.underlying106 rfl (by kernel_rfl);simp[asAddr,hl,Result.andThen]
   ·rw[HF.out];rfl
   ·exact RTAt.nil _ _ _ _ _
   ·rw[HF.out]at hr;cases hr
end Go.Proofs.YtlhaghoajpglaaaGreat
namespace Go.Proofs.YtlhaghoajpglaaaGreat
open Go Go.RowKit Go.Maps
theorem Blk.set2 {w:World} {B:Nat} {a b:Value} {e:TypeId} (h:Blk w B #[a,b] e)(x0 x1:Value):Blk ((w.setCell ⟨B,0,none⟩ x0).setCell ⟨B,1,none⟩ x1) B #[x0,x1] e:=(h.set_to (cs':=#[x0,b]) 0 x0 rfl).set_to (cs':=#[x0,x1]) 1 x1 rfl
structure WlkI (w0 w:World)(gp lo:Nat)(tv:Value)(ps:List P3)(q:List (FT × FV3))(pv fv:Value):Prop where
 gk:GkAt w gp w0.heap.size ps pv fv
 row:FRow lo w q fv
 sb:Blk w w0.heap.size #[tv] 26
 ob:Blk w (w0.heap.size+2) #[.slice none 0 0,.slice none 0 0] 96
 be:Below w0.heap.size w0 w
 lo:w0.heap.size+4=gp/\gp<lo/\lo<=w.heap.size
section
variable {w0 w w' w2 w3 w6 w8 : World} {gp lo n0 : Nat} {tv pv fv pv' : Value} {ps ps' : List P3} {q : List (FT × FV3)} {x : FT} {v : FV3}
theorem WlkI.ext (h:WlkI w0 w gp lo tv ps q pv fv)(hx:Ext w w'):WlkI w0 w' gp lo tv ps q pv fv :=
 ⟨h.gk.ext hx,h.row.ext hx,h.sb.below hx,h.ob.below hx,h.be.trans (hx.mono (by have:=h.lo;omega)),h.lo.1,h.lo.2.1,Nat.le_trans h.lo.2.2 hx.size⟩
theorem WlkI.num (h:WlkI w0 w gp lo tv ps q pv fv)(hf:Fine gp gp w w' pv pv')(hg:GkAt w' gp w0.heap.size ps' pv' fv):WlkI w0 w' gp lo tv ps' q pv' fv :=
 have hl:=h.lo
 ⟨hg,h.row.keep (hf.gpk h.gk (by omega)) fun x hx=>by rw[show x=gp from hx];exact hl.2.1,hf.gblk h.gk h.sb (by decide) (by decide),(hf.kept.block _ ⟨h.ob.lt,by omega,by omega,fun e=>by
  obtain⟨c,hc⟩:=h.gk.pts.typed e;rw[show w.heap[w0.heap.size+2]?=_ from h.ob]at hc;injection hc with hc
  injection hc with _ hc _
  exact absurd hc (by decide)⟩).trans h.ob,h.be.trans (hf.gpk h.gk (by omega)).below,hl.1,hl.2.1,Nat.le_trans hl.2.2 hf.size⟩
theorem WlkI.step {g n c:Nat} (h:WlkI w0 w gp lo tv ps q pv fv)(hx:FTAt (FS n0 w) w x v)(hn0:lo<=n0)(hfv:∀ g,fv.ownBlock=some g->g<n0)
  (h3:Ext w w3) (hg:w3.grownBy w6 fv.ownBlock) (hb:∀ g',(Value.slice (some ⟨g,0,none⟩) n c).ownBlock=some g'->fv.ownBlock=some g'\/w3.heap.size<=g')
  (ho:Own w8 lo 128 4 (.slice (some ⟨g,0,none⟩) n c) (q.flatMap fC++fC (x,v))) (hbx:Blk w8 gp #[pv,.slice (some ⟨g,0,none⟩) n c] 96)
  (h8:∀ y,y≠g->y≠gp->w8.heap[y]?=w6.heap[y]?) (hsz:w8.heap.size=w6.heap.size) (hos:w8.os=w6.os/\w8.tape=w6.tape/\w8.output=w6.output):WlkI w0 w8 gp lo tv ps (q++[(x,v)]) pv (.slice (some ⟨g,0,none⟩) n c):=by
 have hl:=h.lo;have hgb:fv.ownBlock=some g\/w3.heap.size<=g:=hb g rfl;have hz3:=h3.size;have hz6:=hg.size
 have hglo:lo<=g:=by
  rcases hgb with h1 | h1
  ·exact(h.row.row.block g h1).1
  ·omega
 have h6:∀ y,y<w.heap.size->fv.ownBlock≠some y->w6.heap[y]?=w.heap[y]?:=fun y hy hn=>(hg.block y (Nat.lt_of_lt_of_le hy h3.size) fun e=>hn e.symm).trans (h3.block y hy)
 have hgx:∀ y,y<w.heap.size->fv.ownBlock≠some y->y≠g:=fun y hy hn e=>by
  subst e;rcases hgb with h1 | h1
  ·exact hn h1
  ·omega
 have h86:∀ y,y<w.heap.size->fv.ownBlock≠some y->y≠gp->w8.heap[y]?=w.heap[y]?:=fun y hy hn hp=>(h8 y (hgx y hy hn) hp).trans (h6 y hy hn);have hlfv:∀ y,y<lo->fv.ownBlock≠some y:=fun y hy e=>by have:=(h.row.row.block y e).1;omega
 refine⟨⟨hbx,h.gk.pts.keepOwn fun y hy=>?_⟩,?_,(h86 _ h.sb.lt (hlfv _ (by omega)) (by omega)).trans h.sb,(h86 _ h.ob.lt (hlfv _ (by omega)) (by omega)).trans h.ob,?_,hl.1,hl.2.1,by omega⟩
 ·exact h86 y (h.gk.pts.block y hy).2 (fun e=>h.row.row.apart h.gk.pts (by decide) e hy) (h.gk.ptNe y hy)
 ·refine⟨by rw[List.flatMap_append];simpa using ho,fun y hy=>?_⟩
  have hm:∀ b,(FS lo w b/\fv.ownBlock≠some b)->(FS lo w8 b/\(Value.slice (some ⟨g,0,none⟩) n c).ownBlock≠some b):=fun b hb'=>⟨⟨hb'.1.1,Nat.lt_of_lt_of_le hb'.1.2.1 (by omega),fun cs=>by rw[h86 b hb'.1.2.1 hb'.2 (by have:=hb'.1.1;omega)];exact hb'.1.2.2 cs⟩,fun e=>by
   injection e with e
   exact hgx b hb'.1.2.1 hb'.2 e.symm⟩
  have hsame:∀ b,(FS lo w b/\fv.ownBlock≠some b)->w8.heap[b]?=w.heap[b]?:=fun b hb'=>h86 b hb'.1.2.1 hb'.2 (by have:=hb'.1.1;omega);rcases List.mem_append.1 hy with hy | hy
  ·exact((h.row.parts y hy).same hsame).mono hm
  ·obtain rfl:=List.mem_singleton.1 hy;exact((hx.mono fun b hb'=>(⟨hb'.mono hn0,fun e=>by have:=hfv b e;have:=hb'.1;omega⟩:FS lo w b/\fv.ownBlock≠some b)).same hsame).mono hm
 ·exact h.be.trans ⟨hos.1.trans (hg.os.trans h3.os),hos.2.1.trans (hg.tape.trans h3.tape),hos.2.2.trans (hg.output.trans h3.output),by omega,fun y hy=>h86 y (by omega) (hlfv _ (by omega)) (by omega)⟩
end
def WalkSaid26 (ts:List TyS)(T:List Tup)(shut:List R2)(p:P3)(most:Int)(w:World)(e:Ending)(w':World):Prop:=Ext w w'/\((∃ n pv fv,WalkEnd ts T shut p most n/\e = .returned (.tuple #[.agg #[pv,fv],.bool true])/\GrAt (fun x=>w.heap.size<=x/\x<w'.heap.size) w' (walkN ts T shut p n).1 (walkN ts T shut p n).2 pv fv)\/(WalkLong ts T shut p most/\e = .returned (.tuple #[.agg #[.slice none 0 0,.slice none 0 0],.bool false])))
theorem mem_take_succ {α:Type} [DecidableEq α] {l:List α} {j:Nat} (h:j<l.length)(x:α):(decide (x∈l.take (j+1))=(decide (x∈l.take j)||decide (l[j]=x))):=by
 rw[List.take_succ_eq_append_getElem h,Bool.eq_iff_iff,decide_eq_true_eq,Bool.or_eq_true,decide_eq_true_eq,decide_eq_true_eq,List.mem_append,List.mem_singleton];exact or_congr Iff.rfl eq_comm
theorem walk26_any (ts:List TyS)(tv:Value)(T:List Tup)(setv:Value)(shut:List R2)(sv:Value)(p:P3)(most:Int)(N:Nat)(w:World)(h:TysAt (· < w.heap.size) w ts tv)(hu:uniqOk ts=true)(hset:Sl (· < w.heap.size) w 6 setv (tuCs T))(hsv:Sl (· < w.heap.size) w 2 sv (shut.flatMap r2C))(hsl:shut.length<=1099511627776)(hin:WalkIn ts T shut p N) :
  Calls Tryz.prog 51 #[.agg #[tv],setv,sv,pV p,.int .i64 most] w fun e w'=>WalkSaid26 ts T shut p most w e w':=by
 have HIN:=h! hin;have HU:=h! hu;have HSL:=h! hsl;obtain⟨ao,c,rfl,-⟩:=h.rows;obtain⟨so,sc,rfl,-⟩:=Sl.rows r2C_length (by decide) hsv;obtain⟨to,tc,rfl,-⟩:=Sl.rows tuC_length (by decide) (show Sl _ w 6 setv (T.flatMap tuC)from hset);have HTY:=h! (fun W (hW:Below w.heap.size w W)=>(h.same (Same.below hW):TysAt (· < w.heap.size) W ts (.slice ao ts.length c)));have HSH:=h! (fun W (hW:Below w.heap.size w W)=>(hsv.same (Same.below hW):Sl (· < w.heap.size) W 2 (.slice so shut.length sc) (shut.flatMap r2C)));have HST:=h! (fun W (hW:Below w.heap.size w W)=>(hset.same (Same.below hW):Sl (· < w.heap.size) W 6 (.slice to T.length tc) (tuCs T)));obtain⟨wa,hwa⟩:∃ x,x=w.alloc (.cells #[.slice ao ts.length c] 26):=⟨_,rfl⟩;obtain⟨wb,hwb⟩:∃ x,x=wa.alloc (.cells #[.string p.t,.string p.i,.string p.r] 32):=⟨_,rfl⟩;obtain⟨wc,hwc⟩:∃ x,x=wb.alloc (.cells #[.slice none 0 0,.slice none 0 0] 96):=⟨_,rfl⟩;obtain⟨wd,hwd⟩:∃ x,x=wc.alloc (.cells #[.string p.t,.string p.i,.string p.r] 32):=⟨_,rfl⟩;have ea:wa.heap.size=w.heap.size+1:=by rw[hwa];simp
 have eb:wb.heap.size=w.heap.size+2:=by rw[hwb];simp[ea]
 have ec:wc.heap.size=w.heap.size+3:=by rw[hwc];simp[eb]
 have ed:wd.heap.size=w.heap.size+4:=by rw[hwd];simp[ec]
 obtain⟨we,hwe⟩:∃ x,x=wd.alloc (.cells #[.slice (some ⟨w.heap.size+3,0,none⟩) 1 1,.slice none 0 0] 96):=⟨_,rfl⟩;have ee:we.heap.size=w.heap.size+5:=by rw[hwe];simp[ed]
 have xa:Ext w wa:=by rw[hwa];exact Ext.alloc _ _
 have xb:Ext wa wb:=by rw[hwb];exact Ext.alloc _ _
 have xc:Ext wb wc:=by rw[hwc];exact Ext.alloc _ _
 have xd:Ext wc wd:=by rw[hwd];exact Ext.alloc _ _
 have xe:Ext wd we:=by rw[hwe];exact Ext.alloc _ _
 have EI:=h! (show WlkI w we (w.heap.size+4) (w.heap.size+5) (.slice ao ts.length c) [p] [] (.slice (some ⟨w.heap.size+3,0,none⟩) 1 1) (.slice none 0 0) from
  ⟨⟨by rw[hwe,<- ed];exact Blk.made _ _ _,Own.below (w:=wd) (by rw[hwd,<- ec,pcs_single];exact Own.lit wc (by omega) _ 3 1 #[.string p.t,.string p.i,.string p.r] rfl (by unfold maxLen;omega) (by omega)) xe⟩,FRow.nil _ _,Blk.below (by rw[hwa];exact Blk.made _ _ _) (xb.trans (xc.trans (xd.trans xe))),Blk.below (w:=wc) (by rw[hwc,<- eb];exact Blk.made _ _ _) (xd.trans xe),xa.trans (xb.trans (xc.trans (xd.trans xe))),rfl,by omega,by omega⟩)
 have hpc:=(Blk.below (show Blk wb (w.heap.size+1) #[.string p.t,.string p.i,.string p.r] 32 from by rw[hwb,<- ea];exact Blk.made _ _ _) xc).cells;clear h hu hset hsv hsl hin ea eb ec ed ee xa xb xc xd xe;subst hwd hwc hwb hwa;unfold pV;go_enter Tryz.func51,Tryz.ntmps51
 go_wp2_with fail
 rw[<- hwe];clear hpc hwe;go_loopw [13] (fun iv wr=>∃ (n:Nat) (q:List (FT × FV3)) (pv fv:Value),iv = .int .i64 n/\WalkAt ts T shut p most n/\q.map (·.1)=(walkN ts T shut p n).2/\WlkI w wr (w.heap.size+4) (w.heap.size+5) (.slice ao ts.length c) (walkN ts T shut p n).1 q pv fv) (fun iv _=>N+1-(intOf iv).toNat)
 case atStart=>exact⟨0,[],_,_,rfl,fun m hm=>absurd hm (Nat.not_lt_zero _),rfl,EI.out⟩
 case round =>
  obtain⟨n,q,pv,fv,rfl,hwn,hq,hwk⟩:=hrel;have HWN:=h! hwn;have HQ:=h! hq;have RW:=h! hwk;have HLE:=h! hwn.le;have HFEW:=h! (HIN.out.few n)
  have HQL:=h! (show q.length=n from by
   have:=congrArg List.length hq;rw[List.length_map,walkN_forms]at this;exact this)
  clear hwn hq hwk EI;obtain⟨po,pc,rfl,hpl,hpm,-⟩:=Sl.rows pC_length (by decide) (show Sl _ wr 3 pv ((walkN ts T shut p n).1.flatMap pC)from RW.out.gk.pts.sl);have hgc:=RW.out.gk.box.cells;by_cases hlt:n<(walkN ts T shut p n).1.length
  ·by_cases hmo:((walkN ts T shut p n).1.length:Int)<=most
   ·have HNX:=h! (show WalkAt ts T shut p most (n+1)from fun m hm=>by
     by_cases e:m=n
     ·subst e;exact⟨hlt,hmo⟩
     ·exact HWN.out m (by omega))
    obtain⟨ao',c',he',-,-,hcell⟩:=Sl.rows pC_length (by decide) (show Sl _ wr 3 (.slice po (walkN ts T shut p n).1.length pc) ((walkN ts T shut p n).1.flatMap pC)from RW.out.gk.pts.sl);cases he';obtain⟨b,off,rfl,-,hcell⟩:=hcell (by omega);have hck:=hcell n hlt;clear hcell
    have HN1:=h! (show walkN ts T shut p (n+1)=((stepG ts T shut (walkN ts T shut p n).1[n] (walkN ts T shut p n).1).2,(walkN ts T shut p n).2++[(stepG ts T shut (walkN ts T shut p n).1[n] (walkN ts T shut p n).1).1])from by
     rw[walkN,show(walkN ts T shut p n).1.getD n p=(walkN ts T shut p n).1[n]from by rw[List.getD_eq_getElem?_getD,List.getElem?_eq_getElem hlt];rfl])
    have HXOK:=h! (HIN.out.okp n _ (List.getElem_mem hlt));have HLT:=h! (show n<N from by have:=HFEW.out;omega);have hlt2:(n:Int)<((walkN ts T shut p n).1.length:Int):=by omega
    generalize (walkN ts T shut p n).1[n]=x at *;generalize hwn:walkN ts T shut p n=wn at *;obtain⟨ps,fs⟩:=wn;dsimp only at *;have hmo2:¬ (most<(ps.length:Int)):=by omega
    clear hlt hmo hwn;obtain⟨xt,xi,xr⟩:=x;have c0:wr.cell? ⟨b,off+n*3,none⟩=some (.string xt):=hck 0 _ rfl;have c1:wr.cell? ⟨b,off+n*3+1,none⟩=some (.string xi):=hck 1 _ rfl;have c2:wr.cell? ⟨b,off+n*3+2,none⟩=some (.string xr):=hck 2 _ rfl;clear hck;have X1:=h! (Ext.alloc wr (.cells #[.string xt,.string xi,.string xr] 32));have BX:=h! (Blk.made wr #[.string xt,.string xi,.string xr] 32);have W1:=h! (RW.out.ext X1.out);have hxb:=BX.out.cells;have hsb:=W1.out.sb.cells;have HWI:=h! (show wrap64 ((n:Int)+1)=((n+1:Nat):Int)from by have:=HLT.out;have:=HIN.out.nmax;unfold wrap64;omega);have HZR:=h! (fun g hg=>(RW.out.row.row.block g hg).2);go_wp2_with fail
    clear hxb hsb c0 c1 c2 hlt2 hmo2 hgc;refine(find06_at (S:=(· < w.heap.size)) ts (.slice ao ts.length c) xt xr _ (fun y hy=>by have:=W1.out.lo;omega) (HTY.out _ W1.out.be) HU.out).mono ?_;rintro e w2 ⟨z,rfl,hz,hz1,hz2,hb2⟩;obtain⟨⟨zk,za,zb,zps⟩,zv⟩:=z;dsimp only at hz;obtain⟨zo,zc,rfl,-⟩:=hz.rows;unfold rvV rV;dsimp only[RT.k,RT.a,RT.b,RT.ps]at hz hz1 hz2 ⊢;have X2:=h! (show Ext _ w2 from hb2);have W2:=h! (W1.out.ext X2.out);have BX2:=h! (BX.out.below X2.out);have HZ1:=h! hz1;have HZ2:=h! hz2;have HZ:=h! hz;have HRO:=h! (show ruleOf ts shut ⟨xt,xi,xr⟩=if (⟨xt,xr⟩:R2)∈shut then none else lookA (refsOf ts) ⟨xt,xr⟩from rfl);have Z1:=h! (show wr.heap.size<w2.heap.size from BX2.out.lt);clear hz hz1 hz2 hb2 W1 X1 BX RW;generalize hlk:lookA (refsOf ts) ⟨xt,xr⟩=lk at *;have HLK:=h! hlk;clear hlk;generalize ho0:lk.isSome=o0 at *;have HO0:=h! ho0;clear ho0;have HQM:=h! (fun g hg=>Nat.lt_of_lt_of_le (HZR.out g hg) (Nat.le_of_lt Z1.out));generalize wr.heap.size=xb at *;have X3:=h! (Ext.alloc w2 (.cells #[.int .i64 zk,.string za,.string zb,.slice zo zps.length zc] 106));have BZ:=h! (Blk.made w2 #[.int .i64 zk,.string za,.string zb,.slice zo zps.length zc] 106);have W3:=h! (W2.out.ext X3.out);have BX3:=h! (BX2.out.below X3.out);have HZ3:=h! (HZ.out.same fun y (hy:y<w.heap.size)=>X3.out.block y (by have:=W2.out.lo;omega));clear HZ BX2;go_wp2_with fail
    obtain⟨w3,hw3⟩:∃ y,y=w2.alloc (.cells #[.int .i64 zk,.string za,.string zb,.slice zo zps.length zc] 106):=⟨_,rfl⟩;rw[<- hw3]at X3 BZ W3 BX3 HZ3 ⊢;have HQ3:=h! (fun g hg=>Nat.lt_of_lt_of_le (HQM.out g hg) X3.out.size);clear hw3 HQM HZR hcell;generalize w2.heap.size=zb0 at *;go_loopw [16,53] (fun okv jv wr=>∃ j:Nat,j<=shut.length/\jv = .int .i64 j/\okv = .bool (o0&&!decide ((⟨xt,xr⟩:R2)∈shut.take j))/\Ext w3 wr) (fun _ jv _=>shut.length-(intOf jv).toNat)
    case atStart=>exact⟨0,Nat.zero_le _,rfl,by simp,Ext.refl _⟩
    case' round =>
     obtain⟨j,hj,rfl,rfl,hx⟩:=hrel;have RX:=h! hx;have RB:=h! (BX3.out.below hx);clear hx;by_cases hjl:j<shut.length
     case' pos =>
      obtain⟨ao2,c2,he2,-,-,hcell⟩:=Sl.rows r2C_length (by decide) (HSH.out wr (W3.out.ext RX.out).be);cases he2;obtain⟨b2,off2,rfl,-,hcell⟩:=hcell (by omega);have hck:=hcell j hjl;clear hcell;have HMT:=h! (mem_take_succ hjl (⟨xt,xr⟩:R2));have HJL:=h! hjl;have HWJ:=h! (show wrap64 ((j:Int)+1)=((j+1:Nat):Int)from by have:=HSL.out;unfold wrap64;omega);have hjli:(j:Int)<(shut.length:Int):=by omega
      generalize shut[j]=y at *;generalize hdm:decide ((⟨xt,xr⟩:R2)∈shut.take j)=dm at *;clear hdm hjl;have hne:=fun W=>r2_neq y ⟨xt,xr⟩ W;have HDE:=h! (show decide (y≠(⟨xt,xr⟩:R2))=!decide (y=(⟨xt,xr⟩:R2))from by simp);generalize decide (y≠(⟨xt,xr⟩:R2))=dn at *;obtain⟨yt,yr⟩:=y;unfold r2V at hne;dsimp only at hne;have k0:wr.cell? ⟨b2,off2+j*2,none⟩=some (.string yt):=hck 0 _ rfl;have k1:wr.cell? ⟨b2,off2+j*2+1,none⟩=some (.string yr):=hck 1 _ rfl;clear hck;have X4:=h! (Ext.alloc wr (.cells #[.string yt,.string yr] 121));have hyb:=(Blk.made wr #[.string yt,.string yr] 121).cells;have hxb:=(RB.out.below X4.out).cells;cases hok:(o0&&!dm) with
      | true =>
       have HNEW:=h! (show(o0&&!decide ((⟨xt,xr⟩:R2)∈shut.take (j+1)))=dn from by
        rw[HMT.out,HDE.out,Bool.not_or,<- Bool.and_assoc,hok,Bool.true_and])
       clear hok;go_wp2_with fail
       go_roundw
       case rel=>exact⟨j+1,HJL.out,by first | rw[HWJ.out] | go_num,by rw[HNEW.out],RX.out.trans X4.out⟩
       case measure=>have:=HJL.out;(try rw[HWJ.out]);simp[intOf];omega
      | false =>
       have HNEW:=h! (show(o0&&!decide ((⟨xt,xr⟩:R2)∈shut.take (j+1)))=false from by
        rw[HMT.out,Bool.not_or,<- Bool.and_assoc,hok,Bool.false_and])
       clear hok hne;go_wp2_with fail
       go_roundw
       case rel=>exact⟨j+1,HJL.out,by first | rw[HWJ.out] | go_num,by rw[HNEW.out],RX.out.trans X4.out⟩
       case measure=>have:=HJL.out;(try rw[HWJ.out]);simp[intOf];omega
     case' neg =>
      obtain rfl:j=shut.length:=by omega
      clear hj hjl;rw[List.take_length];have W5:=h! ((W3.out.ext RX.out).ext (Ext.alloc wr (.cells #[.int .i64 0,.slice none 0 0,.slice none 0 0,.slice none 0 0] 128)));have X5:=h! (show Ext w3 (wr.alloc (.cells #[.int .i64 0,.slice none 0 0,.slice none 0 0,.slice none 0 0] 128))from RX.out.trans (Ext.alloc _ _));have B5:=h! (Blk.made wr #[.int .i64 0,.slice none 0 0,.slice none 0 0,.slice none 0 0] 128);have HQ5:=h! (fun g hg=>Nat.lt_of_lt_of_le (HQ3.out g hg) X5.out.size);have hxb:=(RB.out.below (Ext.alloc wr (.cells #[.int .i64 0,.slice none 0 0,.slice none 0 0,.slice none 0 0] 128))).cells;have hzb:=(BZ.out.below X5.out).cells;have HF0:=h! (show w3.heap.size<=wr.heap.size/\wr.heap.size<(wr.alloc (.cells #[.int .i64 0,.slice none 0 0,.slice none 0 0,.slice none 0 0] 128)).heap.size from⟨RX.out.size,B5.out.lt⟩);cases hok:(o0&&!decide ((⟨xt,xr⟩:R2)∈shut))
      case' false =>
       have HRN:=h! (show ruleOf ts shut ⟨xt,xi,xr⟩=none from by
        rw[HRO.out];split
        ·rfl
        ·next hns =>
         rw[decide_eq_false hns]at hok;have h1:=HO0.out;simp only[Bool.not_false,Bool.and_true]at hok;rw[hok]at h1;simpa using h1)
       have FX:=h! (show ∃ (fx:FT) (s1:Option Addr) (s2 s3:Nat) (r1:Option Addr) (r2 r3:Nat) (t1:Option Addr) (t2 t3:Nat) (ps2:List P3) (pv2:Value) (n0:Nat),stepG ts T shut ⟨xt,xi,xr⟩ ps=(fx,ps2)/\WlkI w (wr.alloc (.cells #[.int .i64 0,.slice none 0 0,.slice none 0 0,.slice none 0 0] 128)) (w.heap.size+4) (w.heap.size+5) (.slice ao ts.length c) ps2 q pv2 fv/\Blk (wr.alloc (.cells #[.int .i64 0,.slice none 0 0,.slice none 0 0,.slice none 0 0] 128)) wr.heap.size #[.int .i64 fx.k,.slice s1 s2 s3,.slice r1 r2 r3,.slice t1 t2 t3] 128/\FTAt (FS n0 (wr.alloc (.cells #[.int .i64 0,.slice none 0 0,.slice none 0 0,.slice none 0 0] 128))) (wr.alloc (.cells #[.int .i64 0,.slice none 0 0,.slice none 0 0,.slice none 0 0] 128)) fx (.slice s1 s2 s3,.slice r1 r2 r3,.slice t1 t2 t3)/\w.heap.size+5<=n0/\∀ g,fv.ownBlock=some g->g<n0 from⟨FT.zero,none,0,0,none,0,0,none,0,0,ps,_,_,stepG_none HRN.out,W5.out,B5.out,ft_zero _ _,W5.out.lo.2.2,HQ5.out⟩);clear HRN hok W5 B5 HQ5 W3 RX RB X5 BZ BX3;go_wp2_with fail
       clear hxb hzb;generalize wr.alloc (.cells #[.int .i64 0,.slice none 0 0,.slice none 0 0,.slice none 0 0] 128)=wx at *
      case' true =>
       obtain⟨hk1,hk2⟩:=Bool.and_eq_true_iff.1 hok
       have HRS:=h! (show ruleOf ts shut ⟨xt,xi,xr⟩=some (.mk zk za zb zps)/\(⟨⟨xt,xr⟩,.mk zk za zb zps⟩:R2 × RT)∈refsOf ts from by
        have hns:¬ ((⟨xt,xr⟩:R2)∈shut):=by simpa using hk2
        have h1:=HO0.out;rw[hk1]at h1;obtain⟨r,hr⟩:=Option.isSome_iff_exists.1 h1;have h2:=HZ1.out r hr;rw[HRO.out,if_neg hns,hr,<- h2];exact⟨rfl,look_mem (by rw[HLK.out,hr,<- h2])⟩)
       have HRM:=h! (HIN.out.room _ HRS.out.2);have HFC:=h! (form26_any (w.heap.size+4) w.heap.size (.slice to T.length tc) fv T ⟨xt,xi,xr⟩ w (fun W hW=>HST.out W hW) HIN.out.tlen (by omega) (.mk zk za zb zps) (.slice (some ⟨b,off,none⟩) ps.length pc) (.slice zo zps.length zc) ps _ (HZ3.out.same fun y (hy:y<w.heap.size)=>X5.out.block y (by have:=W3.out.lo;omega)) W5.out.be W5.out.gk (by have h1:=HRM.out;have h2:=HFEW.out;dsimp only at h1;omega));unfold pV rV at HFC;dsimp only[RT.k,RT.a,RT.b,RT.ps]at HFC;clear hok hk1 hk2;go_wp2_with fail
       clear hxb hzb;refine HFC.out.mono ?_;rintro e w6 ⟨⟨v1,v2,v3⟩,pv2,rfl,hat,hgk,hfn⟩;have HSG:=h! (show stepG ts T shut ⟨xt,xi,xr⟩ ps=formD T ⟨xt,xi,xr⟩ (.mk zk za zb zps) ps from stepG_some HRS.out.1);generalize formD T ⟨xt,xi,xr⟩ (.mk zk za zb zps) ps=fd at *;obtain⟨fx,ps2⟩:=fd;unfold fV;dsimp only at hat hgk ⊢;obtain⟨u1,u2,-⟩:=(FTAt.iff _ _).1 hat;obtain⟨s1,s2,s3,rfl,-,-,-⟩:=u1.len;obtain⟨r1,r2,r3,rfl,-,-,-⟩:=u2.len;obtain⟨t1,t3,rfl,-⟩:=hat.rows;have B6:=h! (hfn.gblk W5.out.gk B5.out (by decide) (by decide));have FN:=h! (((((Fine.trans (Fine.of _ _ _ (Ext.alloc wr (.cells #[.int .i64 0,.slice none 0 0,.slice none 0 0,.slice none 0 0] 128))) hfn).set (x:=wr.heap.size) (i:=0) (Nat.le_refl _) (.int .i64 fx.k)).set (x:=wr.heap.size) (i:=1) (Nat.le_refl _) (.slice s1 s2 s3)).set (x:=wr.heap.size) (i:=2) (Nat.le_refl _) (.slice r1 r2 r3)).set (x:=wr.heap.size) (i:=3) (Nat.le_refl _) (.slice t1 fx.ps.length t3));have BP:=h! (B6.out.put4 (.int .i64 fx.k) (.slice s1 s2 s3) (.slice r1 r2 r3) (.slice t1 fx.ps.length t3));have GP:=h! ((((hgk.setBox (i:=0) B6.out (by decide) (by decide) (.int .i64 fx.k)).setBox (i:=1) (show Blk _ wr.heap.size _ _ from B6.out.set 0 (.int .i64 fx.k)) (by decide) (by decide) (.slice s1 s2 s3)).setBox (i:=2) (show Blk _ wr.heap.size _ _ from(B6.out.set 0 (.int .i64 fx.k)).set 1 (.slice s1 s2 s3)) (by decide) (by decide) (.slice r1 r2 r3)).setBox (i:=3) (show Blk _ wr.heap.size _ _ from((B6.out.set 0 (.int .i64 fx.k)).set 1 (.slice s1 s2 s3)).set 2 (.slice r1 r2 r3)) (by decide) (by decide) (.slice t1 fx.ps.length t3));obtain⟨wx,hwx⟩:∃ y,y=(((w6.setCell ⟨wr.heap.size,0,none⟩ (.int .i64 fx.k)).setCell ⟨wr.heap.size,1,none⟩ (.slice s1 s2 s3)).setCell ⟨wr.heap.size,2,none⟩ (.slice r1 r2 r3)).setCell ⟨wr.heap.size,3,none⟩ (.slice t1 fx.ps.length t3):=⟨_,rfl⟩;have HX6:=h! (show ∀ y,y≠wr.heap.size->wx.heap[y]?=w6.heap[y]? from fun y hy=>by rw[hwx,Below.heap_setCell _ _ _ y hy,Below.heap_setCell _ _ _ y hy,Below.heap_setCell _ _ _ y hy,Below.heap_setCell _ _ _ y hy]);have HX7:=h! (show wx.heap.size=w6.heap.size from by rw[hwx];simp);rw[<- hwx]at FN BP GP;have FX:=h! (show ∃ (fx:FT) (s1:Option Addr) (s2 s3:Nat) (r1:Option Addr) (r2 r3:Nat) (t1:Option Addr) (t2 t3:Nat) (ps2:List P3) (pv2:Value) (n0:Nat),stepG ts T shut ⟨xt,xi,xr⟩ ps=(fx,ps2)/\WlkI w wx (w.heap.size+4) (w.heap.size+5) (.slice ao ts.length c) ps2 q pv2 fv/\Blk wx wr.heap.size #[.int .i64 fx.k,.slice s1 s2 s3,.slice r1 r2 r3,.slice t1 t2 t3] 128/\FTAt (FS n0 wx) wx fx (.slice s1 s2 s3,.slice r1 r2 r3,.slice t1 t2 t3)/\w.heap.size+5<=n0/\∀ g,fv.ownBlock=some g->g<n0 from⟨fx,s1,s2,s3,r1,r2,r3,t1,fx.ps.length,t3,ps2,pv2,_,HSG.out,(W3.out.ext RX.out).num FN.out GP.out,BP.out,(hat.same fun y hy=>HX6.out y (by have:=hy.1;have:=HF0.out;omega)).mono fun y hy=>⟨hy.1,by rw[HX7.out];exact hy.2.1,fun cs=>by rw[HX6.out y (by have:=hy.1;have:=HF0.out;omega)];exact hy.2.2 cs⟩,W5.out.lo.2.2,HQ5.out⟩);have hbf:=B6.out.cells;have hbz:=B6.out.free;clear HFC hat hgk hfn u1 u2 HSG HRM HRS B6 FN BP GP HX6 HX7 W5 B5 HQ5 W3 RX RB X5 BZ BX3;go_wp2_with fail
       rw[<- hwx];clear hbf hbz hwx
      all_goals
       obtain⟨fx,s1,s2,s3,r1,r2,r3,t1,t2,t3,ps2,pv2,n0,hsg,hw,hbf,hat,hn0,hfv⟩:=FX.out;have TST:=h! hsg;have QN:=h! hn0;have QV:=h! hfv;obtain⟨wq,hwq⟩:∃ y:World,y=World.drew wx:=⟨_,rfl⟩;have QX:Ext wx wq:=by rw[hwq];exact Ext.drew _
       have QW:=h! (hw.ext QX);have QB:=h! (hbf.below QX);have QA:=h! ((hat.same fun y hy=>QX.block y hy.2.1).mono (S':=FS n0 wq) fun y hy=>hy.ext QX);obtain⟨qo,qn,qc,rfl,hqn,-,-⟩:=QW.out.row.row.sl.len;obtain rfl:qn=n:=by rw[fCs_length]at hqn;have:=HQL.out;omega
       have HF9:=h! HF0.out;refine region_walkS (fun j=>decide (6<=j)) (fun W=>Blk W (w.heap.size+4) #[pv2,.slice qo qn qc] 96/\Blk W wr.heap.size #[.int .i64 fx.k,.slice s1 s2 s3,.slice r1 r2 r3,.slice t1 t2 t3] 128) (by rw[<- hwq];exact⟨QW.out.gk.box,QB.out⟩) (by kernel_rfl) (by kernel_rfl) (fun _ _ d _ _ h=>by cases d <;> exact h) ?_;rw[<- hwq];clear hwq hsg hw hbf hat hn0 hfv FX QX hqn HF0;generalize wr.heap.size=f0 at *;have h1:=fun W (h:Blk W (w.heap.size+4) #[pv2,.slice qo qn qc] 96/\Blk W f0 #[.int .i64 fx.k,.slice s1 s2 s3,.slice r1 r2 r3,.slice t1 t2 t3] 128)=>h.1.cells;have h2:=fun W (h:Blk W (w.heap.size+4) #[pv2,.slice qo qn qc] 96/\Blk W f0 #[.int .i64 fx.k,.slice s1 s2 s3,.slice r1 r2 r3,.slice t1 t2 t3] 128)=>h.2.cells;(refine WalkS.tk [0,1,2,3] ?_;(iterate 4 (refine z! ?_));refine TkS.n ?_)
       clear h1 h2;have hx3:=Ext.alloc wq (.cells #[.int .i64 0,.slice none 0 0,.slice none 0 0,.slice none 0 0] 128);refine oS! 4 ?_;refine b! ?_;intro K hK;go_simp;refine hK.out _ _ ⟨QW.out.gk.box.below hx3,QB.out.below hx3⟩ ?_;clear hK;have HII:=h! (show qn<=1073741823 from by have h1:=HLT.out;have h2:=HIN.out.nmax;omega);refine oS! 5 ?_;refine b! ?_;intro K hK;refine wp_ownw formsT (.tmp 76) (.tmp 79) rfl rfl (QW.out.row.row.below hx3) (m:=1) (news:=[.int .i64 0,.slice none 0 0,.slice none 0 0,.slice none 0 0]) rfl rfl (fun j u hu=>?_) (by simp[Value.oneCell']) (by have:=HQL.out;have:=HII.out;rw[fCs_length];simp;omega) (by have:=HQL.out;have:=HII.out;rw[fCs_length];simp;omega) (by have:=QW.out.lo;simp;omega) (fun v6 w6 hown6 hb6 hg6=>?_)
       ·rw[Addr.add_lit,cell_of_row _ wq.heap.size (0+j) #[.int .i64 0,.slice none 0 0,.slice none 0 0,.slice none 0 0] 128 (0,0) (heap_alloc_new wq _),Nat.zero_add];simpa using hu
       obtain⟨g,n6,c6,rfl⟩:∃ g n c,v6 = .slice (some ⟨g,0,none⟩) n c:=by
        rcases hown6.shape with⟨_,h⟩ | h
        ·simp at h
        ·exact h
       obtain rfl:n6=qn+1:=by
        obtain⟨a,b,c,h1,h2,-,-⟩:=hown6.sl.len;cases h1;rw[List.length_append,fCs_length,HQL.out]at h2;simp at h2;omega
       have nfv:∀ y,y<w.heap.size+5->(Value.slice qo qn qc).ownBlock≠some y:=fun y hy e=>by have:=(QW.out.row.row.block y e).1;omega
       have B6:=h! (show Blk w6 (w.heap.size+4) _ _ from(hg6.block _ (QW.out.gk.box.below hx3).lt fun e=>nfv _ (by omega) e.symm).trans (QW.out.gk.box.below hx3));obtain⟨cur,hcur⟩:=hown6.typed (g:=g) rfl;have HG6:=h! (show Blk w6 g cur 128 from hcur)
       have HGW:=h! (show g≠w.heap.size+4 from fun e=>by
        have h1:w6.heap[w.heap.size+4]?=_:=B6.out;rw[<- e,hcur]at h1;injection h1 with h1
        injection h1 with _ h1 _
        exact absurd h1 (by decide))
       have HO6:=h! hown6;have HB6:=h! hb6;have HS6:=h! hg6;have HX3:=h! hx3;have F6:=h! (show Blk w6 f0 _ _ from(hg6.block _ (QB.out.below hx3).lt fun e=>by have h1:=(QW.out.row.row.block _ e.symm).2;have h2:=HQ3.out _ e.symm;have h3:=HF9.out.1;omega).trans (QB.out.below hx3));refine hK.out _ _ ⟨B6.out,F6.out⟩ ?_;clear hK hx3 hown6 hb6 hg6 hcur nfv;simp only[Act.put,pA,pZ,pS];have hi6:(qn:Int)<(qn:Int)+1:=by omega
       refine WalkS.rest (by kernel_rfl) ?_;(refine WalkN.tk [6,8] ?_;(iterate 2 (refine c! ?_));refine TkN.n ?_)
       refine p! 7 9 ?_ ?_
       ·refine b! ?_;intro K hK;have hgf:=HG6.out.free;obtain⟨k0,k1,k2,k3⟩:=four_cells HO6.out (k:=qn*4) (by rw[fCs_length,HQL.out]);go_simp;clear hgf k0 k1 k2 k3;refine hK.out _ _ trivial ?_;clear hK;have HO7:=h! (Own.setForm (p := .int .i64 0) HO6.out (k:=qn*4) (by rw[fCs_length,HQL.out]) (.int .i64 fx.k) (.slice s1 s2 s3) (.slice r1 r2 r3) (.slice t1 t2 t3));have B7:=h! (show Blk (World.setForm w6 g (qn*4) (.int .i64 fx.k) (.slice s1 s2 s3) (.slice r1 r2 r3) (.slice t1 t2 t3)) (w.heap.size+4) _ _ from(setForm_other _ _ _ _ _ _ _ (Ne.symm HGW.out)).trans B6.out);have hbf:∀ j,(World.setForm w6 g (qn*4) (.int .i64 fx.k) (.slice s1 s2 s3) (.slice r1 r2 r3) (.slice t1 t2 t3)).frozen? ⟨w.heap.size+4,j,none⟩=false:=B7.out.free;have hbc:=B7.out.cells;unfold World.setForm at hbf hbc;refine o! 9 ?_;refine b! ?_;intro K hK;go_simp;refine hK.out _ _ trivial ?_;clear hK hbf hbc;refine d! ?_;have ES:=h! (QW.out.step (w8:=(World.setForm w6 g (qn*4) (.int .i64 fx.k) (.slice s1 s2 s3) (.slice r1 r2 r3) (.slice t1 t2 t3)).setCell ⟨w.heap.size+4,1,none⟩ (.slice (some ⟨g,0,none⟩) (qn+1) c6)) (v:=(.slice s1 s2 s3,.slice r1 r2 r3,.slice t1 t2 t3)) QA.out QN.out QV.out HX3.out HS6.out HB6.out (Own.setBox HO7.out B7.out (by decide) _) (B7.out.set_to 1 _ rfl) (fun y h1 h2=>(Below.heap_setCell _ _ _ y h2).trans (setForm_other _ _ _ _ _ _ _ h1)) (by rw[show ∀ (x:World) a v,(x.setCell a v).heap.size=x.heap.size from fun x a v=>by simp,setForm_size]) ⟨rfl,rfl,rfl⟩);unfold World.setForm at ES;clear HO7 B7 B6 F6 HG6 HGW HO6 HB6 HS6 HX3 QW QB QA QN QV;go_wp2_with fail
        go_roundw
        case rel=>exact⟨qn+1,q++[(fx,(.slice s1 s2 s3,.slice r1 r2 r3,.slice t1 t2 t3))],pv2,.slice (some ⟨g,0,none⟩) (qn+1) c6,by first | rw[HWI.out] | go_num,HNX.out,by rw[HN1.out,TST.out,List.map_append,HQ.out];rfl,by rw[HN1.out,TST.out];exact ES.out⟩
        case measure=>have h1:=HLT.out;(try rw[HWI.out]);simp[intOf];omega
       ·refine b! ?_;intro K hK;have hbf:=B6.out.free;have hbc:=B6.out.cells;go_simp;clear hbf hbc;refine hK.out _ _ trivial ?_;clear hK;have B7:=h! (B6.out.set_to (cs':=#[pv2,.slice (some ⟨g,0,none⟩) (qn+1) c6]) 1 (.slice (some ⟨g,0,none⟩) (qn+1) c6) rfl);have HO7:=h! (Own.setBox (i:=1) HO6.out B6.out (by decide) (.slice (some ⟨g,0,none⟩) (qn+1) c6));have HG7:=h! (HG6.out.other (a:=⟨w.heap.size+4,1,none⟩) HGW.out (.slice (some ⟨g,0,none⟩) (qn+1) c6));have hgf:=HG7.out.free;obtain⟨k0,k1,k2,k3⟩:=four_cells HO7.out (k:=qn*4) (by rw[fCs_length,HQL.out]);refine o! 7 ?_;refine b! ?_;intro K hK;go_simp;refine hK.out _ _ trivial ?_;clear hK hgf k0 k1 k2 k3;refine d! ?_;have ES:=h! (QW.out.step (w8:=World.setForm (w6.setCell ⟨w.heap.size+4,1,none⟩ (.slice (some ⟨g,0,none⟩) (qn+1) c6)) g (qn*4) (.int .i64 fx.k) (.slice s1 s2 s3) (.slice r1 r2 r3) (.slice t1 t2 t3)) (v:=(.slice s1 s2 s3,.slice r1 r2 r3,.slice t1 t2 t3)) QA.out QN.out QV.out HX3.out HS6.out HB6.out (Own.setForm HO7.out (k:=qn*4) (by rw[fCs_length,HQL.out]) _ _ _ _) ((setForm_other _ _ _ _ _ _ _ (Ne.symm HGW.out)).trans B7.out) (fun y h1 h2=>(setForm_other _ _ _ _ _ _ _ h1).trans (Below.heap_setCell _ _ _ y h2)) (by rw[setForm_size];simp) ⟨rfl,rfl,rfl⟩);unfold World.setForm at ES;clear HO7 B7 HG7 B6 F6 HG6 HGW HO6 HB6 HS6 HX3 QW QB QA QN QV;go_wp2_with fail
        go_roundw
        case rel=>exact⟨qn+1,q++[(fx,(.slice s1 s2 s3,.slice r1 r2 r3,.slice t1 t2 t3))],pv2,.slice (some ⟨g,0,none⟩) (qn+1) c6,by first | rw[HWI.out] | go_num,HNX.out,by rw[HN1.out,TST.out,List.map_append,HQ.out];rfl,by rw[HN1.out,TST.out];exact ES.out⟩
        case measure=>have h1:=HLT.out;(try rw[HWI.out]);simp[intOf];omega
   ·have hmo2:most<((walkN ts T shut p n).1.length:Int):=by omega
    have HLG:=h! (show WalkLong ts T shut p most from⟨n,HWN.out,hlt,hmo2⟩);have hlt2:(n:Int)<((walkN ts T shut p n).1.length:Int):=by omega
    clear hlt hmo;have hob:=RW.out.ob.cells;have hoz:=RW.out.ob.free;go_wp2_with fail
    clear hob hoz hgc;have HZ:=RW.out.ob.set2 (.slice none 0 0) (.slice none 0 0);refine bodyPost_ret (v := .tuple #[.agg #[.slice none 0 0,.slice none 0 0],.bool false]) ?_ rfl ⟨Below.setCell (Below.setCell RW.out.be (by show w.heap.size<=w.heap.size+2;omega) _) (by show w.heap.size<=w.heap.size+2;omega) _,.inr ⟨HLG.out,rfl⟩⟩;rw[results_cell_tmp rfl];have hl:=run_loadVar_row (P:=Tryz.prog) _ (w.heap.size+2) _ 96 _ _ _ HZ Tryz.underlying96 rfl (by kernel_rfl);simp[asAddr,hl,Result.andThen]
  ·have HEN:=h! (show WalkEnd ts T shut p most n from⟨HWN.out,by have:=HLE.out;omega⟩);have hlt2:¬ ((n:Int)<((walkN ts T shut p n).1.length:Int)):=by omega
   obtain⟨fo,fn,fc,rfl,-,-,-⟩:=RW.out.row.row.sl.len;have hgc:=RW.out.gk.box.cells;have hob:=RW.out.ob.cells;have hoz:=RW.out.ob.free;clear hlt;go_wp2_with fail
   clear hob hoz hgc hlt2;have HZ:=RW.out.ob.set2 (.slice po (walkN ts T shut p n).1.length pc) (.slice fo fn fc);have hsm:∀ y,y≠w.heap.size+2->((wr.setCell ⟨w.heap.size+2,0,none⟩ (.slice po (walkN ts T shut p n).1.length pc)).setCell ⟨w.heap.size+2,1,none⟩ (.slice fo fn fc)).heap[y]?=wr.heap[y]?:=fun y hy=>by rw[Below.heap_setCell _ _ _ y hy,Below.heap_setCell _ _ _ y hy]
   have hsz:((wr.setCell ⟨w.heap.size+2,0,none⟩ (.slice po (walkN ts T shut p n).1.length pc)).setCell ⟨w.heap.size+2,1,none⟩ (.slice fo fn fc)).heap.size=wr.heap.size:=by simp
   obtain⟨q2,hq2,hq3,hq4⟩:=RW.out.row.forms;have hS:Same (FS (w.heap.size+5) wr) wr ((wr.setCell ⟨w.heap.size+2,0,none⟩ (.slice po (walkN ts T shut p n).1.length pc)).setCell ⟨w.heap.size+2,1,none⟩ (.slice fo fn fc)):=fun y hy=>hsm y (by have:=hy.1;omega);have hM:∀ y,FS (w.heap.size+5) wr y->w.heap.size<=y/\y<((wr.setCell ⟨w.heap.size+2,0,none⟩ (.slice po (walkN ts T shut p n).1.length pc)).setCell ⟨w.heap.size+2,1,none⟩ (.slice fo fn fc)).heap.size:=fun y hy=>⟨by have:=hy.1;omega,by rw[hsz];exact hy.2.1⟩;refine bodyPost_ret (v := .tuple #[.agg #[.slice po (walkN ts T shut p n).1.length pc,.slice fo fn fc],.bool true]) ?_ rfl ⟨Below.setCell (Below.setCell RW.out.be (by show w.heap.size<=w.heap.size+2;omega) _) (by show w.heap.size<=w.heap.size+2;omega) _,.inl ⟨n,_,_,HEN.out,rfl,?_,q2,hq2.trans HQ.out,fun x hx=>((hq3 x hx).same hS).mono hM,(hq4.same hS).mono hM⟩⟩
   ·rw[results_cell_tmp rfl];have hl:=run_loadVar_row (P:=Tryz.prog) _ (w.heap.size+2) _ 96 _ _ _ HZ Tryz.underlying96 rfl (by kernel_rfl);simp[asAddr,hl,Result.andThen]
   ·exact(RW.out.gk.pts.keepOwn fun g hg=>hsm g fun e=>by
     obtain⟨c2,h2⟩:=RW.out.gk.pts.typed hg;rw[e,show wr.heap[w.heap.size+2]?=_ from RW.out.ob]at h2;injection h2 with h2
     injection h2 with _ h2 _
     exact absurd h2 (by decide)).sl
end Go.Proofs.YtlhaghoajpglaaaGreat
