/- Lemmas for the claim, no condition. -/
import Derived.Test.YtlhaghoajpglaaaGreatYPrMore20
import Derived.Test.YtlhaghoajpglaaaGreatYPrMore20
set_option maxRecDepth 100000
set_option maxHeartbeats 4000000
namespace Go.Proofs.YtlhaghoajpglaaaGreat
open Go Go.RowKit Go.Maps Go.Proofs.Tryz
theorem fO! (ts:List TyS)(tv:Value)(b:Nat)(T:List Tup)(shut:List R2)(sv:Value)(p sub:P3)(l:List Stp)(lv:Value)(w:World)(h:ou! (· < w.heap.size) w ts tv)(hc:chk06 ts=0)(hsB:schB ts<=549755813888)(hsz:∀t∈ts,∀r∈t.rels,r.2.sz<=1000000)(hln:(am! ts).length<=1099511627776)
  (hin:Rd9In ts T shut l) (hbk:of! w b T) (hsv:Sl (· < w.heap.size) w 2 sv (shut.flatMap r2C)) (hl:os! (· < w.heap.size) w l lv) (hp:p.Ok) (t:Bool) (ht:t=true↔or! ts T shut sub p l) :
  Calls prog 57 #[.agg #[tv],bkV b,sv,.agg #[.string p.t,.string p.i,.string p.r,.string sub.t,.string sub.i,.string sub.r],lv] w fun e w'=>e= .returned (.tuple #[.bool t,.int .i64 0])/\Ext w w':=by
 have HT:=h! ht;have Q:=h! hin;have HP:=h! hp;obtain⟨ao,c,rfl,-⟩:=h.rows;obtain⟨so,sc,rfl,ac,ai,-⟩:=Sl.rows bi! (by decide) hsv;have ad:Hid (shut.length<=9223372036854775807):=h! (by omega);obtain⟨lo,lc,rfl,G,ap,C⟩:=hl.rows;have N:Hid (l.length<=9223372036854775807):=h! (by omega);have U:=h! C;clear ac ai G ap C;obtain⟨wa,v⟩:=e! (w.alloc (.cells #[.slice ao ts.length c] 26));obtain⟨wb,B⟩:=e! (wa.alloc (.cells #[.string p.t,.string p.i,.string p.r,.string sub.t,.string sub.i,.string sub.r] 35));have ea:wa.heap.size=w.heap.size+1:=by rw[v];simp
 have xa:Ext w wa:=xa! v
 have xb:Ext wa wb:=xa! B
 have XB:=h! (xa.trans xb);have BS:=h! (show Blk wb w.heap.size #[.slice ao ts.length c] 26 from Blk.below (bm! v) xb);have BA:=h! (show Blk wb (w.heap.size+1) #[.string p.t,.string p.i,.string p.r,.string sub.t,.string sub.i,.string sub.r] 35 from by rw[B,<-ea];exact Blk.made _ _ _);have HY:=h! (h.up XB.out);have HK:=h! (hbk.ext XB.out);have HV:=h! ((hsv.same (Same.below XB.out)).mono (T:=fun x=>x<wb.heap.size) fun x hx=>n1! hx XB.out.size);have J:=h! (hl.up XB.out)
 have a2:=h! (show Calls prog 74 #[.agg #[.slice ao ts.length c]] wb fun e w'=>e= .returned (.int .i64 0)/\Below wb.heap.size wb w' from by
  have h1:=fg! ts (.slice ao ts.length c) wb HY.out hin.ok hsB hsz hln hin.n;rw[hc]at h1;exact h1)
 clear h hc hsB hsz hln hin hbk hsv hl hp ht ea xa xb;have s1:=BS.out.cells;have hq:∀W,(binOp BinOp.eql 139 (bkV b) .nilIface).run prog W= .ok (.bool false) W:=fun _=>by kernel_rfl
 have ah:=@run_makeMap prog;rw[B,v]at s1;go_enter func57,ntmps57
 go_wp2_with fail
 rw[<-v,<-B];clear s1 v B;generalize w.heap.size+1=ab at *;generalize hsb:w.heap.size=sb at BS ⊢;refine a2.out.mono ?_;rintro e w2 ⟨rfl,m⟩;have a9:Hid (Ext w w2):=h! (Ext.trans XB.out m);have BS:=h! (BS.out.below m);have BA:=h! (BA.out.below m);have HY:=h! (HY.out.up m);have HK:=h! (HK.out.ext m);have HV:=h! ((HV.out.same (Same.below m)).mono (T:=fun x=>x<w2.heap.size) fun x hx=>n1! hx m.size);have J:=h! (J.out.up m);clear m a2 hsb XB;obtain⟨w3,z⟩:=e! (w2.alloc (.map #[] 0));obtain⟨w4,u⟩:=e! (w3.alloc (.cells (rdC (.slice ao ts.length c) b w2.heap.size sub (.slice lo l.length lc)) 207));have e3:w3.heap.size=w2.heap.size+1:=by rw[z];simp
 have x3:Ext w2 w3:=xa! z
 have x4:Ext w3 w4:=xa! u
 have Z4:=h! (show w2.heap.size+2<=w4.heap.size from by rw[u];simp[e3]);have X4:Hid (Below w2.heap.size w2 w4):=h! (x3.trans x4);have M4:=h! (show Mp prog 121 r2V bV w4 w2.heap.size (shutM [])from Mp.below (by rw[z];exact Mp.made _) x4);have W4:=h! (show Blk w4 (w2.heap.size+1) (rdC (.slice ao ts.length c) b w2.heap.size sub (.slice lo l.length lc)) 207 from by rw[u,<-e3];exact Blk.made _ _ _);have s1:=BS.out.cells;have s2:=(BA.out.below x3).cells;rw[z]at s2;clear e3 x3 x4;unfold rdC at u;go_wp2_with fail
 rw[<-z];(try rw[<-u])
 clear s1 s2 ah hq z u w3;go_loopw [35] (fun iv wr=>∃i:Nat,i<=shut.length/\iv= .int .i64 i/\Blk wr (w2.heap.size+1) (rdC (.slice ao ts.length c) b w2.heap.size sub (.slice lo l.length lc)) 207/\Mp prog 121 r2V bV wr w2.heap.size (shutM (shut.take i))/\Below w2.heap.size w2 wr/\w2.heap.size+2<=wr.heap.size) (fun iv _=>shut.length-(intOf iv).toNat)
 case atStart=>exact⟨0,v1! _,rfl,W4.out,M4.out,X4.out,Z4.out⟩
 case round =>
  obtain⟨i,hi,rfl,X,a1,Z,R⟩:=hrel;have RW:=h! X;have RM:=h! a1;have RB:=h! Z;have RZ:=h! R;clear W4 M4 X4 Z4 X a1 Z R;by_cases hlt:i<shut.length
  ·obtain⟨aq,c',aj,-,-,a⟩:=Sl.rows bi! (by decide) (HV.out.same (w':=wr) fun x hx=>RB.out.block x hx);cases aj;obtain⟨bq,oq,rfl,-,a⟩:=a (by omega);have d0:wr.cell? ⟨bq,oq+i*2,none⟩=some (.string shut[i].t):=a i hlt 0 _ rfl;have d1:wr.cell? ⟨bq,oq+i*2+1,none⟩=some (.string shut[i].r):=a i hlt 1 _ rfl;have ae:=h! (fT! hlt);have q:=h! hlt;have ag:=h! (Q.out.sh shut[i] (n5! hlt));generalize shut[i]=r at *;obtain⟨rt,rr⟩:=r;dsimp only at d0 d1;clear a hi hlt;go_wp2_with fail
   clear d0 d1;obtain⟨wd,o⟩:=e! ((wr.alloc (.cells #[.string rt,.string rr] 121)).drew);have DX:=h! (show Ext wr wd from by rw[o];exact(Ext.alloc _ _).trans (Ext.drew _));have DR:=h! (show Blk wd wr.heap.size #[.string rt,.string rr] 121 from by rw[o];exact(Blk.made _ _ _).drew);have DW:=h! (RW.out.below DX.out);have DM:=h! (RM.out.below DX.out);have DB:=h! (show Below w2.heap.size w2 wd from RB.out.trans (DX.out.mono (by have:=RZ.out;omega)));have DZ:Hid (w2.heap.size+2<=wd.heap.size):=h! (n6! RZ.out DX.out.size);refine r! (Kept (· ≠ w2.heap.size) wd) (by rw[<-o];exact Kept.refl _ _) ?_;rw[<-o];clear o RW RM DX;have h1:=fun W (h:Kept (· ≠ w2.heap.size) wd W)=>(h.blk DW.out (by show w2.heap.size+1≠w2.heap.size;omega)).cells;have h2:=fun W (h:Kept (· ≠ w2.heap.size) wd W)=>(h.blk DR.out (by show wr.heap.size≠w2.heap.size;have:=RZ.out;omega)).cells;unfold rdC at h1;(refine WalkN.tk [0,1,2,3,4] ?_;(iterate 5 (refine c! ?_));refine TkN.n ?_)
   clear h1 h2;obtain⟨wf,s,a5,A⟩:=DM.out.store refK bB! Tryz.underlying141 (bA! ⟨rt,rr⟩ ag.out) true;have FM:=h! a5;unfold r2V bV at s;dsimp only at s;refine ob! 5 ?_;intro K hK;go_simp;refine hK.out _ _ A.kept ?_;clear hK s a5;refine d! ?_;have FW:=h! (A.kept.blk DW.out (by show w2.heap.size+1≠w2.heap.size;omega));have FB:Hid (Below w2.heap.size w2 wf):=h! (DB.out.trans (A.below (n0! _)));have FZ:=h! (show w2.heap.size+2<=wf.heap.size from by rw[A.size];exact DZ.out);clear A DW DM DB DR;have ar:=ad.out;have au:=q.out;go_wp2_with fail
   go_roundw
   case rel=>exact⟨i+1,q.out,by go_num,FW.out,by rw[ae.out];exact FM.out,FB.out,FZ.out⟩
   case measure=>have:=q.out;simp[intOf];omega
  ·obtain rfl:i=shut.length:=by omega
   have a0:Hid (shut.take shut.length=shut):=h! (u2!);rw[a0.out]at RM;have XW:Hid (Ext w wr):=h! (Ext.trans a9.out RB.out);have BA:=h! (BA.out.below RB.out);have HR:Hid (Rd9At wr (w2.heap.size+1) w2.heap.size b ts (.slice ao ts.length c) T shut sub l (.slice lo l.length lc)):=h! ⟨RW.out,RM.out,HY.out.up RB.out,HK.out.ext RB.out,J.out.up RB.out⟩;generalize w2.heap.size+1=rb at *;generalize w2.heap.size=am at *;clear hi hlt RW RM HV RZ a0;go_wp2_with fail
   obtain⟨wd,o⟩:∃wd,Hid (wd=World.drew wr):=⟨_,h! rfl⟩;have D:=h! (show Ext wr wd from xd! o.out);refine re! o.out ?_;have XW:=h! (Ext.trans XW.out D.out);have BA:=h! (BA.out.below D.out);have HR:=h! (HR.out.ext D.out);clear o D;by_cases hl0:l.length=0
   ·have aa:=h! (show t=false from by cases t with | false=>rfl | true=>have:=(HT.out.1 rfl).2.1;omega);rw[hl0];(refine WalkN.tk [0,1,2,3] ?_;(iterate 4 (refine c! ?_));refine TkN.n ?_)
    refine k! 4 ?_;refine k! 5 ?_;refine k! 6 ?_;refine k! 7 ?_;refine k! 8 ?_;refine k! 9 ?_;refine k! 10 ?_;refine k! 11 ?_;refine k! 12 ?_;refine k! 13 ?_
    (refine WalkN.tk [14,15] ?_;(iterate 2 (refine c! ?_));refine TkN.n ?_)
    refine d! ?_;have HB:=h! HR.out.box;have b1:=HB.out.cells;unfold rdC at b1;clear hl0;go_wp2_with fail
    go_loopw [16,17,62] (fun gv _ jv wr=>∃g:Bool,gv= .bool g/\jv= .int .i64 0/\g=false/\Ext wd wr) (fun _ _ _ _=>0)
    case atStart=>exact⟨false,rfl,rfl,rfl,Ext.refl _⟩
    case round =>
     obtain⟨g,rfl,rfl,rfl,hx⟩:=hrel;have b1:=(HB.out.below hx).cells;have HX:=h! (Ext.trans XW.out hx);unfold rdC at b1;clear hx;go_wp2_with fail
     go_ret2
     exact⟨by rw[aa.out];rfl,HX.out⟩
   have G:0<l.length:=by omega
   have an:wrap64 ((l.length:Int)-1)=((l.length-1:Nat):Int):=by have:=N.out;unfold wrap64;omega
   have O:IntKind.i64.wrap ((l.length:Int)-1)=((l.length-1:Nat):Int):=(IntWalk.i64_in _ (by have:=N.out;omega)).trans (by omega);have V:((l.length-1:Nat):Int)<(l.length:Int):=by omega
   have a8:(0:Int)<(l.length:Int):=by omega
   have f:l.length-1<l.length:=by omega
   obtain⟨ob,oo,ov,al,rfl,-,I,-,go⟩:=U.out (l.length-1) f;obtain⟨zo,zc,rfl,-⟩:=I.rows;have a7:=h! I
   have Y:=h! (show t=true↔(∀i x,l[i]?=some x->stepP ts T shut sub l i x)/\(l[l.length-1]'f).p=p/\lookA (ab! ts) ⟨p.t,p.r⟩=some (l[l.length-1]'f).r from by
    rw[HT.out];unfold or!;rw[cU! (show(l.length:Int)-1=((l.length-1:Nat):Int)from by omega) f];exact⟨fun h=>⟨h.1,h.2.2.2⟩,fun h=>⟨h.1,G,f,h.2⟩⟩)
   have m0:=fun W (h:Ext wd W)=>Ext.cell (Ext.trans XW.out h) (show w.cell? ⟨ob,oo+(l.length-1)*11,none⟩=some (.string (l[l.length-1]'f).p.t)from go 0 _ rfl);have m1:=fun W (h:Ext wd W)=>Ext.cell (Ext.trans XW.out h) (go 1 _ rfl);have m2:=fun W (h:Ext wd W)=>Ext.cell (Ext.trans XW.out h) (go 2 _ rfl);have m3:=fun W (h:Ext wd W)=>Ext.cell (Ext.trans XW.out h) (go 3 _ rfl);have m4:=fun W (h:Ext wd W)=>Ext.cell (Ext.trans XW.out h) (go 4 _ rfl);have m5:=fun W (h:Ext wd W)=>Ext.cell (Ext.trans XW.out h) (go 5 _ rfl);have m6:=fun W (h:Ext wd W)=>Ext.cell (Ext.trans XW.out h) (go 6 _ rfl);have m7:=fun W (h:Ext wd W)=>Ext.cell (Ext.trans XW.out h) (go 7 _ rfl);have m8:=fun W (h:Ext wd W)=>Ext.cell (Ext.trans XW.out h) (go 8 _ rfl);have m9:=fun W (h:Ext wd W)=>Ext.cell (Ext.trans XW.out h) (go 9 _ rfl);have ma:=fun W (h:Ext wd W)=>Ext.cell (Ext.trans XW.out h) (go 10 _ rfl);have af:=fun W (h:Ext wd W)=>(BA.out.below h).cells;obtain⟨tw,L⟩:∃tw:Bool,tw=true↔(l[l.length-1]'f).p=p/\lookA (ab! ts) ⟨p.t,p.r⟩=some (l[l.length-1]'f).r:=⟨decP _,aN!⟩;have H:=h! (hs! rb am b ts _ T shut sub l _ Q.out (l[l.length-1]'f) (.slice zo (l[l.length-1]'f).r.ps.length zc,al) p HP.out wd HR.out (a7.out.up XW.out) tw L);rw[<-L]at Y;unfold stV pV at H;clear L I go hl0 HT U a7;generalize (l[l.length-1]'f)=y at *;dsimp only at m1 m2 m3 m4 m5 m6 m7 m8 m9 ma H;(refine WalkN.tk [0,1,2,3,4,5,6,7,8,9,10,11,12] ?_;(iterate 13 (refine c! ?_));refine TkN.n ?_)
   clear m0 m1 m2 m3 m4 m5 m6 m7 m8 m9 ma af an O V a8 G;refine ob! 13 ?_;intro K hK;go_simp;refine H.out.mono ?_;rintro e w7 ⟨rfl,F⟩;refine hK.out _ _ F ?_;clear hK H;have XW:=h! (Ext.trans XW.out F);have HR:=h! (HR.out.ext F);clear F BA;(refine WalkN.tk [14,15] ?_;(iterate 2 (refine c! ?_));refine TkN.n ?_)
   refine d! ?_;clear f;go_wp2_with fail
   go_loopw [16,17,62] (fun gv _ jv wr=>∃(j:Nat) (g:Bool),j<=l.length/\jv= .int .i64 j/\gv= .bool g/\(g=true↔tw=true/\∀i x,i<j->l[i]?=some x->stepP ts T shut sub l i x)/\Ext w7 wr) (fun _ _ jv _=>l.length-(intOf jv).toNat)
   case atStart=>exact⟨0,tw,v1! _,rfl,rfl,⟨fun h=>⟨h,fun i x h=>absurd h (Nat.not_lt_zero _)⟩,fun h=>h.1⟩,Ext.refl _⟩
   case round =>
    obtain⟨j,g,hj,rfl,rfl,hg,hx⟩:=hrel;have RX:=h! hx;have HG:=h! hg;clear hx hg;by_cases hlt:j<l.length
    ·obtain⟨tr,M⟩:∃tr:Bool,tr=true↔stepP ts T shut sub l j (l[j]'hlt):=⟨decP _,aN!⟩;have a3:=h! (lw! rb am b ts _ T shut sub l _ Q.out j hlt wr (HR.out.ext RX.out) tr M)
     have a4:=h! (show ∀ok:Bool,(ok=true↔tr=true/\g=true)->(ok=true↔tw=true/\∀i x,i<j+1->l[i]?=some x->stepP ts T shut sub l i x)from fun ok hok=>by
      rw[hok,M,HG.out];constructor
      ·rintro⟨h1,h2,h3⟩;refine⟨h2,fun i x hi hx=>?_⟩;by_cases e:i=j
       ·subst e;rw[n4! hlt]at hx;cases hx;exact h1
       ·exact h3 i x (by omega) hx
      ·rintro⟨h1,h2⟩;exact⟨h2 j _ (by omega) (n4! hlt),h1,fun i x hi hx=>h2 i x (by omega) hx⟩)
     have q:=h! hlt;have E:=h! (show wrap64 ((j:Int)+1)=((j+1:Nat):Int)from by have:=N.out;unfold wrap64;omega);have V:(j:Int)<(l.length:Int):=by omega
     clear M hlt;go_wp2_with fail
     refine a3.out.mono ?_;rintro e w8 ⟨rfl,a6⟩;have HX:=h! (Ext.trans RX.out a6);clear a6 a3;cases tr with
     | true =>
      have HN:=h! (a4.out g (by simp));go_wp2_with fail
      go_roundw
      case rel=>exact⟨j+1,g,q.out,by first | rw[E.out] | go_num,rfl,HN.out,HX.out⟩
      case measure=>have:=q.out;(try rw[E.out]);simp[intOf];omega
     | false =>
      have HN:=h! (a4.out false (by simp));go_wp2_with fail
      go_roundw
      case rel=>exact⟨j+1,false,q.out,by first | rw[E.out] | go_num,rfl,HN.out,HX.out⟩
      case measure=>have:=q.out;(try rw[E.out]);simp[intOf];omega
    ·obtain rfl:j=l.length:=by omega
     have ak:=h! (show g=t from by
      rw[Bool.eq_iff_iff,HG.out,Y.out];exact⟨fun h=>⟨fun i x hx=>h.2 i x (y3!.1 hx).1 hx,h.1⟩,fun h=>⟨h.2,fun i x _ hx=>h.1 i x hx⟩⟩)
     have b1:=(HR.out.box.below RX.out).cells;have HX:=h! (Ext.trans XW.out RX.out);unfold rdC at b1;clear hlt HG;go_wp2_with fail
     go_ret2
     exact⟨by rw[ak.out];rfl,HX.out⟩
def u9L:P3:=⟨usB,⟨#[49]⟩,⟨#[]⟩⟩
def T9L:List Tup:=[⟨pL,u9L⟩]
theorem set9L:SetT T9L T9L:=⟨List.pairwise_singleton _ _,fun t=>⟨fun h=>⟨h,by
 obtain rfl:=n9!.1 h;kernel_rfl⟩,fun h=>h.1⟩⟩
theorem ok9L:∀t∈T9L,t.Ok:=by
 intro t ht;obtain rfl:=n9!.1 ht;exact⟨⟨by decide,by decide,by decide⟩,⟨by decide,by decide,by decide⟩⟩
theorem arg9L:HasArg tsL T9L [] pL:=HasArg.of chkL okL_ (by decide) (by decide) (by decide) (by decide) ok9L ⟨by decide,by decide,by decide⟩ (by simp)
theorem end9L:ow! tsL T9L [] pL 9 1:=by
 have h0:(walkN tsL T9L [] pL 0).1.length=1:=by kernel_rfl
 have h1:(walkN tsL T9L [] pL 1).1.length=1:=by kernel_rfl
 refine⟨fun m hm=>?_,h1.symm⟩;obtain rfl:m=0:=by omega
 rw[h0];exact⟨by decide,by decide⟩
theorem nb! {e:Ending}{w':World}(h:cM! tsL T9L [] pL u9L 9 w' e):∃(l:List Stp)(b off lc:Nat)(po:Option Addr)(pc:Nat),e= .returned (.tuple #[.slice (some ⟨b,off,none⟩) 1 lc,.bool true,.int .i64 0])/\os! (· < w'.heap.size) w' l (.slice (some ⟨b,off,none⟩) 1 lc)/\or! tsL T9L [] u9L pL l/\(∀x∈l,St9Ok x)/\w'.cell? ⟨b,off+7,none⟩=some (.string ⟨#[117,115,101,114]⟩)/\w'.cell? ⟨b,off+8,none⟩=some (.string ⟨#[49]⟩)/\w'.cell? ⟨b,off+9,none⟩=some (.string ⟨#[]⟩)/\w'.cell? ⟨b,off+10,none⟩=some (.slice po 0 pc):=by
 rcases h with⟨n,lv,ok,l,hw,rfl,hst,hok,-,m⟩|⟨hl,-⟩
 ·obtain rfl:n=1:=hw.uniq end9L;obtain rfl:=hok.2 (Den.said (t:=⟨pL,u9L⟩) (n9!.2 rfl) ruleL rfl);obtain⟨m,-,hn,hs⟩:=m rfl;have a1:cB! tsL (walkN tsL T9L [] pL 1).1=1:=by kernel_rfl
  rw[a1]at hn;obtain⟨x,rfl⟩:∃x,l=[x]:=List.length_eq_one_iff.1 (by have:=m.2.1;omega);obtain⟨-,-,y,r,h1,h2,h3,h4⟩:=m.2.2;obtain rfl:x=y:=by simpa using h1
  rw[show lookA (ab! tsL) ⟨pL.t,pL.r⟩=some (.mk 1 ⟨#[]⟩ ⟨#[]⟩ [])from rfl]at h3;cases h3;obtain⟨-,-,-,a⟩:=m.1 0 x rfl;unfold kindP at a;rw[if_pos (by rw[h4];rfl),h2,show ai! T9L pL=[u9L]from rfl]at a;have j:=n9!.1 a.1
  have a0:x.b=[]:=by
   by_cases e:x.b=[]
   ·exact e
   ·have:=a.2;rw[if_neg e,j]at this;exact absurd rfl this.1
  obtain⟨ao,c,rfl,-,-,g⟩:=hst.rows;obtain⟨b,off,rv,bv,rfl,-,-,d,o⟩:=g 0 (by simp);rw[List.getElem_cons_zero]at d;rw[a0]at d;obtain⟨bo,bn,bc,rfl,f,-,-⟩:=d.len;have f:bn=0:=by simpa [ic] using f.symm
  subst f;have g7:=o 7 (.string x.s.t) rfl;have g8:=o 8 (.string x.s.i) rfl;have g9:=o 9 (.string x.s.r) rfl;have k:=o 10 _ rfl;rw[j]at g7 g8 g9;rw[Nat.zero_mul,Nat.add_zero]at g7 g8 g9 k;exact⟨[x],b,off,c,bo,bc,rfl,hst,m,hs,g7,g8,g9,k⟩
 ·exact absurd hl end9L.notLong
theorem hx! (ao:Option Addr)(c bk:Nat)(l:List Stp)(lv:Value)(w:World)(h:ou! (· < w.heap.size) w tsL (.slice ao 2 c))(hb:of! w bk T9L)(hl:os! (· < w.heap.size) w l lv)(hs:∀x∈l,St9Ok x)(t:Bool)(ht:t=true↔or! tsL T9L [] u9L pL l) :
  Calls prog 57 #[.agg #[.slice ao 2 c],bkV bk,.slice none 0 0,.agg #[.string ⟨#[100,111,99]⟩,.string ⟨#[49]⟩,.string ⟨#[118,105,101,119,101,114]⟩,.string ⟨#[117,115,101,114]⟩,.string ⟨#[49]⟩,.string ⟨#[]⟩],lv] w fun e w'=>e= .returned (.tuple #[.bool t,.int .i64 0])/\Ext w w' :=
 fO! tsL _ bk T9L [] (.slice none 0 0) pL u9L l lv w h chkL (by decide) (mM! (by decide)) (by decide) ⟨okL_,dg! chkL,by decide,by decide,by simp,hs⟩ hb (Sl.nil _ _ _) hl ⟨by decide,by decide,by decide⟩ t ht
theorem hm! (w:World):Calls prog 47 #[] w fun e w'=>e= .returned (.bool true)/\Below w.heap.size w w':=by
 have v:=h! (jP! txtL itsL w (by decide) (by rw[np!];rfl) (by rw[np!];exact lO! nY!) (nv! fitsL) (fun _=>⟨docB,rfl⟩) (by decide));rw[stepL]at v;unfold txtL at v;go_enter func47,ntmps47
 go_wp2_with fail
 refine v.out.mono ?_;rintro e w1 ⟨tv,rfl,C,D⟩;obtain⟨f,ct,rfl,-,-,-⟩:=C.rows;rw[show tsL.length=2 from rfl]at *;have r:=h! (Ext.alloc w1 (.cells #[.slice f 2 ct] 26));have K:=h! ((C.mono (S':=(· < w1.heap.size)) fun b hb=>hb.2).up r.out);have z:Hid (Below w.heap.size w _):=h! (D.trans (r.out.mono D.size));have G:=h! (Blk.made w1 #[.slice f 2 ct] 26);clear C D v;obtain⟨wS,t⟩:=e! (w1.alloc (.cells #[.slice f 2 ct] 26));rw[<-t]at r K z G;obtain⟨wt,y⟩:=e! (wS.alloc (.cells #[.string ⟨#[100,111,99]⟩,.string ⟨#[49]⟩,.string ⟨#[118,105,101,119,101,114]⟩,.string ⟨#[117,115,101,114]⟩,.string ⟨#[49]⟩,.string ⟨#[]⟩] 67));obtain⟨wr,H⟩:=e! (wt.alloc (.cells #[.string ⟨#[100,111,99]⟩,.string ⟨#[49]⟩,.string ⟨#[118,105,101,119,101,114]⟩,.string ⟨#[117,115,101,114]⟩,.string ⟨#[49]⟩,.string ⟨#[]⟩] 67));have XT:=h! (show Ext wS wt from xa! y);have XR:=h! (show Ext wt wr from xa! H);have BT:=h! (show Blk wt (w1.heap.size+1) #[.string ⟨#[100,111,99]⟩,.string ⟨#[49]⟩,.string ⟨#[118,105,101,119,101,114]⟩,.string ⟨#[117,115,101,114]⟩,.string ⟨#[49]⟩,.string ⟨#[]⟩] 67 from by rw[y,<- (show wS.heap.size=w1.heap.size+1 from by rw[t];simp)];exact Blk.made _ _ _);have es:wS.heap.size=w1.heap.size+1:=by rw[t];simp
 have et:wt.heap.size=w1.heap.size+1+1:=by rw[y];simp[es]
 have X:=h! (show Sl (fun b=>b<wr.heap.size) wr 6 (.slice (some ⟨w1.heap.size+1+1,0,none⟩) 1 1) (tuCs T9L)from by
  rw[<-et,H];exact Sl.made wt _ 6 1 67 _ rfl (by decide) (by simp))
 have V:=h! (kx! set9L (.slice (some ⟨w1.heap.size+1+1,0,none⟩) 1 1) wr X.out (by decide) ok9L);have bt:=BT.out.cells;clear es et;subst H y t;go_wp2_with fail
 clear bt;refine V.out.mono ?_;rintro e w5 ⟨bk,rfl,a2,B⟩;have X5:Hid (Ext _ w5):=h! ((XT.out.trans XR.out).trans B);have a:=h! (K.out.up X5.out);have g:=h! (G.out.below X5.out);have s:=h! (BT.out.below (XR.out.trans B));have M:Hid (Below w.heap.size w w5):=h! (z.out.trans (Below.mono X5.out z.out.size));have q:=h! a2;clear a2 B V X XT XR X5 K G BT z r;obtain⟨sb,a0⟩:∃x,Hid (x=w1.heap.size):=⟨_,h! rfl⟩;obtain⟨tb,a4⟩:∃x,Hid (x=w1.heap.size+1):=⟨_,h! rfl⟩;obtain⟨rb,ac⟩:∃x,Hid (x=w1.heap.size+1+1):=⟨_,h! rfl⟩;rw[<-a4.out]at s;rw[<-a0.out]at g;rw[<-ac.out,<-a4.out];try rw[<-a0.out]
 have aa:=g.out.cells;have a6:=s.out.cells;obtain⟨wa,m⟩:=e! (w5.alloc (.cells #[.string ⟨#[100,111,99]⟩,.string ⟨#[49]⟩,.string ⟨#[118,105,101,119,101,114]⟩,.string ⟨#[117,115,101,114]⟩,.string ⟨#[49]⟩,.string ⟨#[]⟩] 35));have xa:Ext w5 wa:=xa! m
 have I:Hid (Calls prog 49 #[.agg #[.slice f 2 ct],bkV bk,.slice none 0 0,.agg #[.string ⟨#[100,111,99]⟩,.string ⟨#[49]⟩,.string ⟨#[118,105,101,119,101,114]⟩,.string ⟨#[117,115,101,114]⟩,.string ⟨#[49]⟩,.string ⟨#[]⟩],.int .i64 9] wa _):=h! (hW! tsL _ bk T9L [] (.slice none 0 0) pL u9L 9 wa (a.out.up xa) arg9L (q.out.ext xa) (Sl.nil _ _ _));have p:=h! (show Blk wa w5.heap.size #[.string ⟨#[100,111,99]⟩,.string ⟨#[49]⟩,.string ⟨#[118,105,101,119,101,114]⟩,.string ⟨#[117,115,101,114]⟩,.string ⟨#[49]⟩,.string ⟨#[]⟩] 35 from bm! m);have Y:=h! xa;have O:=(g.out.below xa).cells;have a1:=p.out.cells;rw[m]at O a1;unfold bkV at I;clear xa;go_wp2_with fail
 clear aa a6 O a1;rw[<-m];clear m;generalize w5.heap.size=ab at p ⊢;refine I.out.mono ?_;rintro e w6 ⟨h6,F⟩;obtain⟨l,lb,lo,lc,po,pc,rfl,U,a3,Q,k7,k8,k9,o⟩:=nb! h6;have X6:=h! (Y.out.trans F);have E:=h! (hx! f ct bk l _ w6 (a.out.up X6.out) (q.out.ext X6.out) U Q true ⟨fun _=>a3,fun _=>rfl⟩);have L:=h! (p.out.below F);have k:=h! (And.intro k7 (And.intro k8 (And.intro k9 o)));have a7:=(g.out.below X6.out).cells;have af:=L.out.cells;unfold bkV at E;clear h6 F U a3 Q k7 k8 k9 o I p Y;go_wp2_with fail
 clear a7 af;refine E.out.mono ?_;rintro e w7 ⟨rfl,u⟩;have X7:=h! (X6.out.trans u);have A:=h! (hx! f ct bk [] (.slice none 0 0) w7 (a.out.up X7.out) (q.out.ext X7.out) (os!.nil9 _ _) (by simp) false ⟨fun h=>(by cases h),fun h=>absurd h.2.1 (by decide)⟩);have T:=h! (L.out.below u);have Z:=h! u;have a5:=(g.out.below X7.out).cells;have ad:=T.out.cells;unfold bkV at A;clear u E L X6;go_wp2_with fail
 clear a5 ad;refine A.out.mono ?_;rintro e w8 ⟨rfl,N⟩;have X8:=h! (X7.out.trans N);have j:=h! (Z.out.trans N);have a9:=h! (s.out.below X8.out);have R:Hid (Below w.heap.size w w8):=h! (M.out.trans (Below.mono X8.out M.out.size));have k7:=Ext.cell j.out k.out.1;have k8:=Ext.cell j.out k.out.2.1;have k9:=Ext.cell j.out k.out.2.2.1;have o:=Ext.cell j.out k.out.2.2.2;clear N A Z j X7 X8 a g s M q k T;go_wp2_with fail
 obtain⟨wd,J⟩:∃wd,Hid (wd=w8.drew):=⟨_,h! rfl⟩;have i:=h! (show Ext w8 wd from xd! J.out);have ae:Hid (Below w.heap.size w wd):=h! (R.out.trans (Below.mono i.out R.out.size));refine re! J.out ?_;have g7:=fun W (h:Ext wd W)=>Ext.cell (i.out.trans h) k7;have g8:=fun W (h:Ext wd W)=>Ext.cell (i.out.trans h) k8;have g9:=fun W (h:Ext wd W)=>Ext.cell (i.out.trans h) k9;have a8:=fun W (h:Ext wd W)=>Ext.cell (i.out.trans h) o;have gt:=fun W (h:Ext wd W)=>(a9.out.below (i.out.trans h)).cells;have q1:=fun W=>dH! u9L u9L W;unfold u9L usB at q1;rw[v2! rfl]at q1;dsimp only at q1;clear J k7 k8 k9 o;(refine WalkN.tk [0,1,2,3,4,5,6,7,8,9,10,11,12,13,14,15,16,17,18,19,20,21,22,23,24,25,26,27,28,29,30,31,32,33,34,35,36,37,38,39,40,41,42] ?_;(iterate 43 (refine c! ?_));refine TkN.n ?_)
 refine d! ?_;clear g7 g8 g9 a8 gt q1;go_wp2_with fail
 go_ret
 exact⟨rfl,ae.out⟩
theorem kR! (k:Nat)(h:k<=1000):IntKind.i64.wrap (k:Int)=(k:Int):=IntWalk.i64_in _ (by omega)
theorem lV! (k:Nat)(h:k<=1000):IntKind.i64.wrap ((k:Int)+1)=(k:Int)+1:=IntWalk.i64_in _ (by omega)
theorem jm! (k:Nat)(h:k<=1000):wrap64 ((k:Int)+1)=(k:Int)+1:=by unfold wrap64;omega
theorem li! {ao:Option Addr}{l:List Tup}{cl k:Nat}(hk:k<=l.length)(_hl:l.length<=24) {W:World}{S:Nat->Prop}(h:Sl S W 6 (.slice ao l.length cl) (tuCs l)):Sl S W 6 (.slice ao k cl) (tuCs (l.take k)):=by
 obtain⟨a1,n',c',e,h1,h2,h3,h4,h5⟩:=h;cases e;refine⟨ao,k,cl,rfl,by rw[aw!,x4!];omega,by omega,h3,fun e2=>by have:=h4 e2;omega,fun hne=>?_⟩
 obtain⟨b,a0,e3,hb,a⟩:=h5 (fun e4=>hne (by
  have:=congrArg List.length e4;rw[aw!,v6!]at this;have h0:l=[]:=List.length_eq_zero_iff.1 (by omega);rw[h0];simp[tuCs]))
 refine⟨b,a0,e3,hb,fun j u hj=>a j u ?_⟩;rw[<-fR!,List.getElem?_take]at hj;split at hj
 ·exact hj
 ·cases hj
theorem mD! {ao:Option Addr}{l:List Tup}{cl:Nat}{W:World}{S:Nat->Prop}(h:Sl S W 6 (.slice ao l.length cl) (tuCs l)):l.length<=cl:=by
 obtain⟨_,_,e,h1,h2,-⟩:=Sl.rows aQ! (by decide) (show Sl _ W 6 _ (l.flatMap tuC)from h);cases e;exact h1
def od! (ts:List TyS)(T:List Tup)(shut:List R2)(p s:P3)(e:Ending)(w':World):Prop :=
 ∃(lo:Option Addr) (lc:Nat) (ok:Bool) (l:List Stp),e= .returned (.tuple #[.slice lo l.length lc,.bool ok,.int .i64 0])/\os! (· < w'.heap.size) w' l (.slice lo l.length lc)/\(ok=true↔Den ts T shut s p)/\(ok=false->l=[])/\(ok=true->or! ts T shut s p l/\TidyP l/\(∃n,l.length<=cB! ts (walkN ts T shut p n).1/\ow! ts T shut p 1000 n)/\∀x∈l,St9Ok x)
theorem CaseW.arg {w W:World}{cb:Nat}{ts:List TyS}{tv lv sv:Value}{l:List Tup}{shut:List R2}{p s:P3}(h:CaseW w W cb ts tv lv sv l shut p s) {T:List Tup}(hT:T.length<=24)(hTo:∀t∈T,t.Ok) {shut':List R2}(hso:∀r∈shut',r.Ok) {q:P3}(hq:q.Ok):HasArg ts T shut' q:=by
 have hf:=GoodS.fine h.good;have a0:=hf.bk;exact HasArg.of hf.chk hf.ok (by have:=kD! ts;omega) (by have:=(dU! ts).1;omega) (by have:=(dU! ts).2;omega) (by omega) hTo hq hso
theorem CaseW.prove {w W:World}{cb:Nat}{ts:List TyS}{tv lv sv:Value}{l:List Tup}{shut:List R2}{p s:P3}(h:CaseW w W cb ts tv lv sv l shut p s) {T:List Tup}(hT:T.length<=24)(hTo:∀t∈T,t.Ok) {W':World}(hx:Ext W W')(b:Nat)(hb:of! W' b T) :
  Calls prog 49 #[.agg #[tv],bkV b,sv,.agg (aC p s),.int .i64 1000] W' fun e w'=>od! ts T shut p s e w'/\Ext W' w':=by
 refine(hW! ts tv b T shut sv p s 1000 W' (h.Y.up hx) (h.arg hT hTo h.sok h.pok) hb (h.up hx).V).mono ?_;rintro e w' ⟨⟨n,lv,ok,l,hw,rfl,hst,h1,h2,h3⟩|⟨⟨n,h1,h2,h3⟩,-⟩,hx'⟩
 ·obtain⟨lo,lc,rfl,-⟩:=hst.rows;exact⟨⟨lo,lc,ok,l,rfl,hst,h1,h2,fun h=>⟨(h3 h).1,(h3 h).2.1,⟨n,(h3 h).2.2.1,hw⟩,(h3 h).2.2.2⟩⟩,hx'⟩
 ·have:=mb! h.good hT shut p n;omega
theorem CaseW.verify {w W:World}{cb:Nat}{ts:List TyS}{tv lv sv:Value}{l:List Tup}{shut:List R2}{p s:P3}(h:CaseW w W cb ts tv lv sv l shut p s) {T:List Tup}(hT:T.length<=24) {W':World}(hx:Ext W W')(b:Nat)(hb:of! W' b T) {q:List Stp}{qv:Value}(hq:os! (· < W'.heap.size) W' q qv)(hs:∀x∈q,St9Ok x)(t:Bool)(ht:t=true↔or! ts T shut s p q) :
  Calls prog 57 #[.agg #[tv],bkV b,sv,.agg (aC p s),qv] W' fun e w'=>e= .returned (.tuple #[.bool t,.int .i64 0])/\Ext W' w':=by
 have a:=GoodS.fine h.good;have a0:=a.bk;exact fO! ts tv b T shut sv p s q qv W' (h.Y.up hx) a.chk (by have:=kD! ts;omega) (mM! (by omega)) (by have:=(dU! ts).1;omega) ⟨a.ok,dg! a.chk,by have:=(dU! ts).2;omega,by omega,h.sok,hs⟩ hb (h.up hx).V hq h.pok t ht
theorem more29_any (l0:List UInt8)(v:Value)(a:Nat)(ha:a<256)(w:World)(h:Sl (· < w.heap.size) w 1 v (bc l0)):Calls prog 12 #[v,.int .u8 a] w fun e w'=>e= .returned (.bool true)/\Below w.heap.size w w':=by
 have HF:=h! (hm! w);have ae:=h! h;have HA:=h! ha;clear ha;obtain⟨ao,ln,c,rfl,a5,-,av⟩:=h.len;rw[ep!,Nat.mul_one]at a5;subst a5;clear h;go_enter func12,ntmps12
 go_wp2_with fail
 refine HF.out.mono ?_;rintro e w1 ⟨rfl,a0⟩;have m:Hid (Below w.heap.size w w1):=h! a0;clear a0 HF;by_cases hlen:(300:Int)<(l0.length:Int)
 ·go_wp2_with fail
  go_ret
  exact⟨rfl,m.out⟩
 have r:=Ext.alloc w1 (.cells #[.slice ao l0.length c,.int .i64 0] 41);have Q:Hid (Tp (w1.alloc (.cells #[.slice ao l0.length c,.int .i64 0] 41)) w1.heap.size):=h! ⟨_,l0,0,v1! _,(ae.out.same (Same.below (m.out.trans (r.mono m.out.size)))).mono fun b (hb:b<w.heap.size)=>n1! hb m.out.size,Blk.made _ _ _⟩;have U:=h! (jV! _ _ Q.out);have z:Hid (Below w.heap.size w _):=h! (m.out.trans (r.mono m.out.size));have ab:Hid (w.heap.size<=w1.heap.size):=h! m.out.size;clear r;go_wp2_with fail
 obtain⟨w2,a6⟩:=e! (w1.alloc (.cells #[.slice ao l0.length c,.int .i64 0] 41));rw[<-a6]at Q U z ⊢;clear a6;generalize w1.heap.size=tp at *;refine U.out.mono ?_;rintro e w3 ⟨ts,tv,lv,sv,l,f,p,s,rfl,ag,G,hl,hv,V,a9,Z,ah,ad,hs,M⟩;obtain⟨y,ct,rfl,-,-,-⟩:=G.rows;obtain⟨o,cl,rfl,-⟩:=Sl.rows aQ! (by decide) (show Sl _ w3 6 lv (l.flatMap tuC)from hl);obtain⟨A,cs,rfl,-⟩:=Sl.rows bi! (by decide) hv;have x:=Ext.alloc w3 (.cells (caseC (.slice y ts.length ct) (.slice o l.length cl) (.slice A f.length cs) p s) 37)
 have HC:=h! (show CaseW w (w3.alloc (.cells (caseC (.slice y ts.length ct) (.slice o l.length cl) (.slice A f.length cs) p s) 37)) w3.heap.size ts (.slice y ts.length ct) (.slice o l.length cl) (.slice A f.length cs) l f p s from by
  have hm:∀b,(w2.heap.size<=b/\b<w3.heap.size)->b<(w3.alloc (.cells (caseC (.slice y ts.length ct) (.slice o l.length cl) (.slice A f.length cs) p s) 37)).heap.size:=fun b hb=>n1! hb.2 x.size
  exact⟨z.out.trans (Below.trans (M.below fun b hb=>⟨n1! hb z.out.size,by have:=ab.out;omega⟩) (x.mono (by have:=M.size;have:=z.out.size;omega))),Blk.made _ _ _,
   (G.same fun b hb=>x.block b hb.2).mono hm,(hl.same fun b hb=>x.block b hb.2).mono hm,(hv.same fun b hb=>x.block b hb.2).mono hm,ag,V,a9,Z,ah,ad,hs⟩)
 have a8:=HC.out.B.cells;clear ag G hl hv V a9 Z ah ad hs M x U Q z m ae hlen ab;go_wp2_with fail
 obtain⟨w4,F⟩:=e! (w3.alloc (.cells (caseC (.slice y ts.length ct) (.slice o l.length cl) (.slice A f.length cs) p s) 37));try rw[<-F]at HC a8
 try rw[<-F]
 clear F;generalize w3.heap.size=cb at *;clear a8
 -- some
 obtain⟨wd,i⟩:∃wd,Hid (wd=w4.drew):=⟨_,h! rfl⟩;have j:=h! (show Ext w4 wd from xd! i.out);refine re! i.out ?_;have HC:=h! (HC.out.up j.out);clear i j;have hc:=fun W (h:Ext wd W)=>(HC.out.B.below h).cells;obtain⟨k,N,am⟩:∃k:Nat,k<=l.length/\(a:Int).tmod ((l.length:Int)+1)=(k:Int):=⟨a % (l.length+1),by have:=Nat.mod_lt a (show 0<l.length+1 by omega);omega,by rw[Int.tmod_eq_emod_of_nonneg (by omega)];simp⟩;have ap:=h! N;have ai:=h! (fun W (h:Sl (· < W.heap.size) W 6 (.slice o l.length cl) (tuCs l))=>li! ap.out HC.out.len h);have ar:IntKind.i64.wrap (a:Int)=(a:Int):=kR! a (by have:=HA.out;omega);have an:=kR! k (by have:=HC.out.len;omega);have au:=lV! l.length (by have:=HC.out.len;omega);have R:=jm! l.length (by have:=HC.out.len;omega);have J:¬ ((l.length:Int)+1=0):=by omega
 have aq:(0:Int)<=(k:Int):=by omega
 have H:k<=cl:=n6! N (mD! HC.out.L);have ak:(k:Int)<=(cl:Int):=by omega
 (refine WalkN.tk [0,1,2,3,4,5,6,7,8,9,10] ?_;(iterate 11 (refine c! ?_));refine TkN.n ?_)
 refine d! ?_;clear hc am ar an au R J aq ak H N;obtain⟨w5,a7⟩:=e! wd;rw[<-a7]at HC ⊢;clear a7;go_wp2_with fail
 obtain⟨wd,i⟩:∃wd,Hid (wd=w5.drew):=⟨_,h! rfl⟩;have j:=h! (show Ext w5 wd from xd! i.out);refine re! i.out ?_;have HC:=h! (HC.out.up j.out);clear i j;have hc:=fun W (h:Ext wd W)=>(HC.out.B.below h).cells;(refine WalkN.tk [0,1,2,5,6,7,8] ?_;(iterate 7 (refine c! ?_));refine TkN.n ?_)
 clear hc;have C:=h! (ct! (l.take k) (.slice o k cl) wd ((ai.out wd HC.out.L)) (by have:=HC.out.len;rw[x4!];omega) (fun t ht=>(HC.out.lok t (List.mem_of_mem_take ht)).1));refine ob! 3 ?_;intro K hK;go_simp;refine C.out.mono ?_;rintro e w5 ⟨bk,T1,rfl,hT,D,g⟩;refine hK.out _ _ g ?_;clear hK C;have Y:=h! hT;have O:=h! (HC.out.prove (T:=T1) (n6! (hK! hT).1 (by have:=HC.out.len;rw[x4!];omega)) (fun u hu=>(HC.out.lok u (List.mem_of_mem_take ((hK! hT).2 u hu))).1) g bk D);unfold aC at O;clear hT D;refine t! 4 ?_
 refine ob! 9 ?_;intro K hK;go_simp;refine O.out.mono ?_;rintro e w6 ⟨⟨lo,lc,y1,st,rfl,a4,aj,a1,af⟩,q⟩;refine hK.out _ _ (Ext.trans g q) ?_;clear hK O;have E:=h! a4;have a3:=h! a1;have aa:=h! af;have HC:=h! (HC.out.up (Ext.trans g q));(refine WalkN.tk [10,11,12,13,14,15,16] ?_;(iterate 7 (refine c! ?_));refine TkN.n ?_)
 refine d! ?_;clear a4 aj a1 af g q;obtain⟨w7,ac⟩:=e! w6;rw[<-ac]at HC E ⊢;clear ac;cases y1 with
 | false =>
  have al:=a3.out rfl;subst al;have HX:=h! HC.out.X;go_wp2_with fail
  go_ret
  exact⟨rfl,HX.out⟩
 | true =>
 have a2:=h! (aa.out rfl);clear a3 aa;go_wp2_with fail
 obtain⟨wd,i⟩:∃wd,Hid (wd=w7.drew):=⟨_,h! rfl⟩;have j:=h! (show Ext w7 wd from xd! i.out);refine re! i.out ?_;have HC:=h! (HC.out.up j.out);have E:=h! (E.out.up j.out);clear i j;have hc:=fun W (h:Ext wd W)=>(HC.out.B.below h).cells;(refine WalkN.tk [0,1,2,3,6,7,8,9,10] ?_;(iterate 9 (refine c! ?_));refine TkN.n ?_)
 clear hc;have C:=h! (ct! l (.slice o l.length cl) wd HC.out.L (by have:=HC.out.len;omega) (fun t ht=>(HC.out.lok t ht).1));refine ob! 4 ?_;intro K hK;go_simp;refine C.out.mono ?_;rintro e w5 ⟨bk,T2,rfl,hT,D,g⟩;refine hK.out _ _ g ?_;clear hK C;have I:=h! (HC.out.verify (T:=T2) (n6! (hK! hT).1 (by have:=HC.out.len;omega)) g bk D (E.out.up g) a2.out.2.2.2 true ⟨fun _=>a2.out.1.more fun t ht=>(hT.mem t).2 ⟨List.mem_of_mem_take ((Y.out.mem t).1 ht).1,((Y.out.mem t).1 ht).2⟩,fun _=>rfl⟩);unfold aC at I;clear hT D;refine t! 5 ?_
 refine ob! 11 ?_;intro K hK;go_simp;refine I.out.mono ?_;rintro e w6 ⟨rfl,q⟩;refine hK.out _ _ (Ext.trans g q) ?_;clear hK I;have HX:=h! (HC.out.up (Ext.trans g q)).X;(refine WalkN.tk [12,13,14,15,16] ?_;(iterate 5 (refine c! ?_));refine TkN.n ?_)
 refine d! ?_;clear g q;go_wp2_with fail
 go_ret
 exact⟨rfl,HX.out⟩
end Go.Proofs.YtlhaghoajpglaaaGreat
