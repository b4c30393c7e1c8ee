/- Lemmas for the claim, no condition. -/
import Derived.Deep.RegionHeld
import Derived.Laws.EntriesVeiled
import Derived.Shelf.SortM.Plain
import Derived.Shelf.SortM.SortNone
import Derived.Lib.SliceRun
import Derived.Shelf.SlGeneric
import Derived.Ground.SlgmProg
import Derived.Test.YtlhaghoajpglaaaGreatProg
import Derived.Test.YtlhaghoajpglaaaGreatYXTells0
import Derived.Test.YtlhaghoajpglaaaGreatYXTells8
import Derived.Test.YtlhaghoajpglaaaGreatYXTells7
import Derived.Test.YtlhaghoajpglaaaGreatYXTells4
import Derived.Test.YtlhaghoajpglaaaGreatYXTells3
import Derived.Test.YtlhaghoajpglaaaGreatYXTells1
import Derived.Test.YtlhaghoajpglaaaGreatYXTells2
import Derived.Test.YtlhaghoajpglaaaGreatYXTells6
namespace Go.Proofs.YtlhaghoajpglaaaGreat
open Go Go.RowKit
def J4 {α0 α1 α2 α3:Type} (F:α0->α1->α2->α3->World->Prop)(A:α0->α1->α2->α3->Act)(e:Exit)(a:Act)(W:World):Prop:=e = .normal/\∃ (x0:α0)(x1:α1)(x2:α2)(x3:α3),a=A x0 x1 x2 x3/\F x0 x1 x2 x3 W
end Go.Proofs.YtlhaghoajpglaaaGreat
namespace Go.Proofs.YtlhaghoajpglaaaGreat
open Go Go.RowKit Go.Maps
theorem nt_leaf (S:Nat->Prop)(w:World)(k:Int)(p:P3):NtAt S w (.mk k p [] []) (.slice none 0 0,.slice none 0 0):=(NtAt.iff _ _).2 ⟨Sl.nil _ _ _,[],rfl,(fun x hx=>by cases hx),Sl.nil _ _ _⟩
section
variable {bp x : Nat} {tv fi sm : Value} {t : NT} {L L' e' : Int} {w w1 w2 : World}
theorem leaf_said {k:Int} {p:P3} (hb:Blk w2 bp (BdC tv fi sm L' e') 143)(hk:Kept (fun b=>b<w.heap.size/\b≠bp) w w2)(hx:w.heap.size<=x)(hbp:bp<w.heap.size)(hE:EndE t L (.mk k p [] []) L' e')(x0 x1 x2 x3 x4 x5:Value) :
  TreeSaid bp tv fi sm t L w (.returned (.agg #[.int .i64 k,.string p.t,.string p.i,.string p.r,.slice none 0 0,.slice none 0 0])) ((((((w2.setCell ⟨x,0,none⟩ x0).setCell ⟨x,1,none⟩ x1).setCell ⟨x,2,none⟩ x2).setCell ⟨x,3,none⟩ x3).setCell ⟨x,4,none⟩ x4).setCell ⟨x,5,none⟩ x5):=by
 have hn:¬ ((fun b=>b<w.heap.size/\b≠bp) x):=fun h=>by have:=h.1;omega
 exact⟨_,_,L',e',rfl,nt_leaf _ _ k p,(put6_other _ _ _ _ _ _ (by omega)).trans hb,(((((hk.set (a:=⟨x,0,none⟩) hn x0).set (a:=⟨x,1,none⟩) hn x1).set (a:=⟨x,2,none⟩) hn x2).set (a:=⟨x,3,none⟩) hn x3).set (a:=⟨x,4,none⟩) hn x4).set (a:=⟨x,5,none⟩) hn x5,hE⟩
theorem box_said {nt:NT} {v2:NV2} (ha:NtAt (NS w1.heap.size w2) w2 nt v2)(hb:Blk w2 bp (BdC tv fi sm L' e') 143)(hk2:Kept (fun b=>b<w1.heap.size/\b≠bp) w1 w2)(hE:EndE t L nt L' e')(hk:Kept (fun b=>b<w.heap.size/\b≠bp) w w1)(hx:w.heap.size<=x)(hx1:x<w1.heap.size)(hbp:bp<w.heap.size)(x0 x1 x2 x3 x4 x5:Value) :
  TreeSaid bp tv fi sm t L w (.returned (nV2 nt v2)) ((((((w2.setCell ⟨x,0,none⟩ x0).setCell ⟨x,1,none⟩ x1).setCell ⟨x,2,none⟩ x2).setCell ⟨x,3,none⟩ x3).setCell ⟨x,4,none⟩ x4).setCell ⟨x,5,none⟩ x5):=by
 have hn:¬ ((fun b=>b<w.heap.size/\b≠bp) x):=fun h=>by have:=h.1;omega
 refine⟨nt,v2,L',e',rfl,?_,(put6_other _ _ _ _ _ _ (by omega)).trans hb,((((((hk.trans (hk2.mono fun b hb=>⟨Nat.lt_of_lt_of_le hb.1 hk.size,hb.2⟩)).set (a:=⟨x,0,none⟩) hn x0).set (a:=⟨x,1,none⟩) hn x1).set (a:=⟨x,2,none⟩) hn x2).set (a:=⟨x,3,none⟩) hn x3).set (a:=⟨x,4,none⟩) hn x4).set (a:=⟨x,5,none⟩) hn x5,hE⟩;exact(ha.same fun b hb=>put6_other _ _ _ _ _ _ (by have:=hb.1;omega)).mono fun b hb=>hb.keep (put6_other _ _ _ _ _ _ (by have:=hb.1;omega)) hk.size (by simp)
end
theorem ruleOf_look {ts:List TyS} {shut:List R2} {p:P3} {r:RT} (h:lookA (refsOf ts) ⟨p.t,p.r⟩=some r)(hs:(⟨p.t,p.r⟩:R2)∉shut):ruleOf ts shut p=some r:=by unfold ruleOf;rw[if_neg hs,h]
theorem ruleOf_not {ts:List TyS} {shut:List R2} {p:P3} (h:lookA (refsOf ts) ⟨p.t,p.r⟩=none):ruleOf ts shut p=none:=by unfold ruleOf;split <;> first | rfl | exact h
theorem ruleOf_shut {ts:List TyS} {shut:List R2} {p:P3} (hs:(⟨p.t,p.r⟩:R2)∈shut):ruleOf ts shut p=none:=by unfold ruleOf;rw[if_pos hs]
set_option maxRecDepth 100000 in
set_option maxHeartbeats 1000000 in
theorem point_step (w0:World)(bp b ash:Nat)(ts:List TyS)(tv:Value)(T:List Tup)(shut:List R2)(HS:BdSt w0 bp b ash ts tv T shut)(hrs:∀ x∈refsOf ts,x.2.Ok)(d:Nat)(hd:d<=1000)(te:P3->NT)(hte:(d=0/\∀ p,te p = .mk 0 p [] [])\/(∃ d',d=d'+1/\PointLaw w0 bp b ash ts tv T shut d'/\∀ p,te p=treeE ts T shut d p))
  (p:P3) (L:Int) (w:World) (hp:p.Ok) (hx:Ext w0 w) (hbd:Blk w bp (BdC tv (bkV b) (.map (some ash)) L 0) 143) (h0:0<=L) (h1:L<=1000000) :
  Calls Tryz.prog 75 #[.pointer (some ⟨bp,0,none⟩),pV p,.int .i64 d] w (TreeSaid bp tv (bkV b) (.map (some ash)) (te p) L w):=by
 have HST:=h! HS;have HPO:=h! hp;have HX:=h! hx;have HBP:=h! (show bp<w.heap.size from hbd.lt);have HL0:=h! h0;have HL1:=h! h1;have HTE:=h! hte;have HRS:=h! hrs;have HD:=h! hd;obtain⟨pt,pi,pr⟩:=p;obtain⟨wa,hwa⟩:∃ x,x=w.alloc (.cells #[.string pt,.string pi,.string pr] 32):=⟨_,rfl⟩;obtain⟨we,hwe⟩:∃ x,x=wa.alloc (.cells #[.int .i64 0,.string ⟨#[]⟩,.string ⟨#[]⟩,.string ⟨#[]⟩,.slice none 0 0,.slice none 0 0] 45):=⟨_,rfl⟩;have ea:wa.heap.size=w.heap.size+1:=by rw[hwa];simp
 have ee:we.heap.size=w.heap.size+2:=by rw[hwe];simp[ea]
 have xa:Ext w wa:=by rw[hwa];exact Ext.alloc _ _
 have xe:Ext wa we:=by rw[hwe];exact Ext.alloc _ _
 have EXX:=h! (show Ext w we from xa.trans xe);have EP:=h! (show Blk we w.heap.size #[.string pt,.string pi,.string pr] 32 from Blk.below (by rw[hwa];exact Blk.made _ _ _) xe);have EO:=h! (show Blk we (w.heap.size+1) #[.int .i64 0,.string ⟨#[]⟩,.string ⟨#[]⟩,.string ⟨#[]⟩,.slice none 0 0,.slice none 0 0] 45 from by rw[hwe,<- ea];exact Blk.made _ _ _);have EB:=h! (hbd.below EXX.out);have EZ:=h! ee;clear HS hp hx hbd h0 h1 hte hrs hd ea ee xa xe;subst hwe hwa;unfold pV;dsimp only;go_enter Tryz.func75,Tryz.ntmps75
 go_wp2_with fail
 obtain⟨we,hwe⟩:∃ x,x=(w.alloc (.cells #[.string pt,.string pi,.string pr] 32)).alloc (.cells #[.int .i64 0,.string ⟨#[]⟩,.string ⟨#[]⟩,.string ⟨#[]⟩,.slice none 0 0,.slice none 0 0] 45):=⟨_,rfl⟩;rw[<- hwe]at EXX EP EO EB EZ ⊢;clear hwe;obtain⟨wd,hwd⟩:∃ wd,Hid (wd=we.drew):=⟨_,h! rfl⟩;have hxd:=h! (show Ext we wd from by rw[hwd.out];exact Ext.drew _);apply Code.wp_mono (Q:=J4 (fun(zr:RT) (zo:Option Addr) (zc:Nat) (bo:Nat) W=>wd.heap.size<=bo/\Ext wd W/\Blk W bo #[.int .i64 zr.k,.string zr.a,.string zr.b,.slice zo zr.ps.length zc] 106/\RTAt (· < w0.heap.size) W zr (.slice zo zr.ps.length zc)/\(∀ r,lookA (refsOf ts) ⟨pt,pr⟩=some r->zr=r)) _) ?rest1 ?reg1
 case reg1 =>
  refine region_walkN (Ext wd) (by rw[<- hwd.out];exact Ext.refl _) (by kernel_rfl) (by kernel_rfl) (fun _ _ d _ _ h=>by cases h.1) ?_;rw[<- hwd.out];have hs:∀ W,Ext wd W->∀ i,W.cell? ⟨bp,i,none⟩=(BdC tv (bkV b) (.map (some ash)) L 0)[i]?:=fun W h=>((EB.out.below hxd.out).below h).cells;have hp:∀ W,Ext wd W->∀ i,W.cell? ⟨w.heap.size,i,none⟩=(#[.string pt,.string pi,.string pr]:Array Value)[i]?:=fun W h=>((EP.out.below hxd.out).below h).cells;unfold BdC at hs;have HFD:=h! (fun W (hW:Ext wd W)=>findS_any (S:=(· < w0.heap.size)) ts tv pt pr W (fun y hy=>Nat.lt_of_lt_of_le hy (Ext.trans (Ext.trans (Ext.trans HX.out EXX.out) hxd.out) hW).size) (HST.out.ty.same fun y hy=>(Ext.trans (Ext.trans (Ext.trans HX.out EXX.out) hxd.out) hW).block y hy) HST.out.ok HST.out.un HST.out.ln HPO.out.1 HPO.out.2.2);(refine WalkN.tk [0,1,2,3,4,5,6,7,8] ?_;(iterate 9 ((refine TkN.c _ ?_ (by simp only[gA,gS,gZ];rfl) (by kernel_rfl) (by kernel_rfl) (by rfl) (fun W hW=>?_) ?_;rotate_left;· (go_simp;try with_reducible rfl));simp only[Act.put,pA,pZ,pS]));refine TkN.n ?_)
  clear hs hp;refine WalkN.two 9 13 (by kernel_rfl) ?_ ?_
  ·refine⟨_,(by simp only[gA,gS,gZ];rfl),by rfl,fun K hK=>?_⟩;go_simp;refine(HFD.out wd (Ext.refl wd)).mono ?_;rintro e w5 ⟨⟨zr,zv⟩,rfl,hza,hz1,-,hx5⟩;have hza:RTAt (· < w0.heap.size) w5 zr zv:=hza;obtain⟨zo,zc,rfl,-⟩:=hza.rows;dsimp only at hz1;unfold rvV rV;dsimp only;have hX5:Ext wd w5:=Ext.trans (Ext.refl wd) hx5;refine hK.out _ _ hX5 ?_;clear hK;(refine WalkN.tk [10,11,12] ?_;(iterate 3 ((refine TkN.c _ ?_ (by simp only[gA,gS,gZ];rfl) (by kernel_rfl) (by kernel_rfl) (by rfl) (fun W hW=>?_) ?_;rotate_left;· (go_simp;try with_reducible rfl));simp only[Act.put,pA,pZ,pS]));refine TkN.n ?_)
   refine WalkN.one 13 (by kernel_rfl) ?_;refine⟨_,(by simp only[gA,gS,gZ];rfl),by rfl,fun K hK=>?_⟩;go_simp;obtain⟨bo,hbo⟩:∃ x,x=w5.heap.size:=⟨_,rfl⟩;rw[<- hbo];have hA5:=Ext.alloc w5 (.cells #[.int .i64 0,.string ⟨#[]⟩,.string ⟨#[]⟩,.slice none 0 0] 106);have hO5:Blk (w5.alloc (.cells #[.int .i64 0,.string ⟨#[]⟩,.string ⟨#[]⟩,.slice none 0 0] 106)) bo #[.int .i64 0,.string ⟨#[]⟩,.string ⟨#[]⟩,.slice none 0 0] 106:=by rw[hbo];exact Blk.made _ _ _
   have hG5:wd.heap.size<=bo:=by rw[hbo];exact hX5.size
   have hX7:=Ext.trans hX5 hA5;have hZ5:=hza.same fun y hy=>hA5.block y (Nat.lt_of_lt_of_le hy (Ext.trans (Ext.trans (Ext.trans HX.out EXX.out) hxd.out) hX5).size);refine hK.out _ _ hX7 ?_;clear hK hbo hza;generalize w5.alloc (.cells #[.int .i64 0,.string ⟨#[]⟩,.string ⟨#[]⟩,.slice none 0 0] 106)=w7 at *;refine WalkN.one 14 (by kernel_rfl) ?_;refine⟨_,(by simp only[gA,gS,gZ];rfl),by rfl,fun K hK=>?_⟩;have hbc:=hO5.cells;have hbf:=hO5.free;go_simp;clear hbc hbf;have hB6:=hO5.put4 (.int .i64 zr.k) (.string zr.a) (.string zr.b) (.slice zo zr.ps.length zc);have hX6:Ext wd ((((w7.setCell ⟨bo,0,none⟩ (.int .i64 zr.k)).setCell ⟨bo,1,none⟩ (.string zr.a)).setCell ⟨bo,2,none⟩ (.string zr.b)).setCell ⟨bo,3,none⟩ (.slice zo zr.ps.length zc)):=Below.setCell (Below.setCell (Below.setCell (Below.setCell hX7 (p:=⟨bo,0,none⟩) hG5 _) (p:=⟨bo,1,none⟩) hG5 _) (p:=⟨bo,2,none⟩) hG5 _) (p:=⟨bo,3,none⟩) hG5 _
   have hA6:=hZ5.same (w':=((((w7.setCell ⟨bo,0,none⟩ (.int .i64 zr.k)).setCell ⟨bo,1,none⟩ (.string zr.a)).setCell ⟨bo,2,none⟩ (.string zr.b)).setCell ⟨bo,3,none⟩ (.slice zo zr.ps.length zc))) fun y hy=>by
    have:=hG5;have:=(Ext.trans (Ext.trans HX.out EXX.out) hxd.out).size;rw[Below.heap_setCell _ _ _ y (by show y≠bo;omega),Below.heap_setCell _ _ _ y (by show y≠bo;omega),Below.heap_setCell _ _ _ y (by show y≠bo;omega),Below.heap_setCell _ _ _ y (by show y≠bo;omega)]
   refine hK.out _ _ hX6 ?_;clear hK;((refine WalkN.take 15 _ ?_ (by simp only[gA,gS,gZ];rfl) (by kernel_rfl) (by kernel_rfl) (by rfl) (fun W hW=>?_) ?_;rotate_left;· (go_simp;try with_reducible rfl));simp only[Act.put,pA,pZ,pS])
   refine WalkN.done (by kernel_rfl) ?_;exact⟨rfl,zr,zo,zc,bo,rfl,hG5,hX6,hB6,hA6,hz1⟩
  ·refine⟨_,(by simp only[gA,gS,gZ];rfl),by rfl,fun K hK=>?_⟩;go_simp;obtain⟨bo,hbo⟩:∃ x,x=wd.heap.size:=⟨_,rfl⟩;rw[<- hbo];have hA4:=Ext.alloc wd (.cells #[.int .i64 0,.string ⟨#[]⟩,.string ⟨#[]⟩,.slice none 0 0] 106);have hO4:Blk (wd.alloc (.cells #[.int .i64 0,.string ⟨#[]⟩,.string ⟨#[]⟩,.slice none 0 0] 106)) bo #[.int .i64 0,.string ⟨#[]⟩,.string ⟨#[]⟩,.slice none 0 0] 106:=by rw[hbo];exact Blk.made _ _ _
   have hG5:wd.heap.size<=bo:=by rw[hbo];exact Nat.le_refl _
   refine hK.out _ _ hA4 ?_;clear hK hbo;generalize wd.alloc (.cells #[.int .i64 0,.string ⟨#[]⟩,.string ⟨#[]⟩,.slice none 0 0] 106)=w4 at *;refine WalkN.one 9 (by kernel_rfl) ?_;refine⟨_,(by simp only[gA,gS,gZ];rfl),by rfl,fun K hK=>?_⟩;go_simp;refine(HFD.out w4 hA4).mono ?_;rintro e w5 ⟨⟨zr,zv⟩,rfl,hza,hz1,-,hx5⟩;have hza:RTAt (· < w0.heap.size) w5 zr zv:=hza;obtain⟨zo,zc,rfl,-⟩:=hza.rows;dsimp only at hz1;unfold rvV rV;dsimp only;have hX5:Ext wd w5:=Ext.trans hA4 hx5;refine hK.out _ _ hX5 ?_;clear hK;(refine WalkN.tk [10,11,12] ?_;(iterate 3 ((refine TkN.c _ ?_ (by simp only[gA,gS,gZ];rfl) (by kernel_rfl) (by kernel_rfl) (by rfl) (fun W hW=>?_) ?_;rotate_left;· (go_simp;try with_reducible rfl));simp only[Act.put,pA,pZ,pS]));refine TkN.n ?_)
   have hO5:=hO4.below hx5;refine WalkN.one 14 (by kernel_rfl) ?_;refine⟨_,(by simp only[gA,gS,gZ];rfl),by rfl,fun K hK=>?_⟩;have hbc:=hO5.cells;have hbf:=hO5.free;go_simp;clear hbc hbf;have hB6:=hO5.put4 (.int .i64 zr.k) (.string zr.a) (.string zr.b) (.slice zo zr.ps.length zc);have hX6:Ext wd ((((w5.setCell ⟨bo,0,none⟩ (.int .i64 zr.k)).setCell ⟨bo,1,none⟩ (.string zr.a)).setCell ⟨bo,2,none⟩ (.string zr.b)).setCell ⟨bo,3,none⟩ (.slice zo zr.ps.length zc)):=Below.setCell (Below.setCell (Below.setCell (Below.setCell hX5 (p:=⟨bo,0,none⟩) hG5 _) (p:=⟨bo,1,none⟩) hG5 _) (p:=⟨bo,2,none⟩) hG5 _) (p:=⟨bo,3,none⟩) hG5 _
   have hA6:=hza.same (w':=((((w5.setCell ⟨bo,0,none⟩ (.int .i64 zr.k)).setCell ⟨bo,1,none⟩ (.string zr.a)).setCell ⟨bo,2,none⟩ (.string zr.b)).setCell ⟨bo,3,none⟩ (.slice zo zr.ps.length zc))) fun y hy=>by
    have:=hG5;have:=(Ext.trans (Ext.trans HX.out EXX.out) hxd.out).size;rw[Below.heap_setCell _ _ _ y (by show y≠bo;omega),Below.heap_setCell _ _ _ y (by show y≠bo;omega),Below.heap_setCell _ _ _ y (by show y≠bo;omega),Below.heap_setCell _ _ _ y (by show y≠bo;omega)]
   refine hK.out _ _ hX6 ?_;clear hK;((refine WalkN.take 15 _ ?_ (by simp only[gA,gS,gZ];rfl) (by kernel_rfl) (by kernel_rfl) (by rfl) (fun W hW=>?_) ?_;rotate_left;· (go_simp;try with_reducible rfl));simp only[Act.put,pA,pZ,pS])
   refine WalkN.done (by kernel_rfl) ?_;exact⟨rfl,zr,zo,zc,bo,rfl,hG5,hX6,hB6,hA6,hz1⟩
 rintro e _ W1 ⟨rfl,zr,zo,zc,bo,rfl,hbo,hX,hB,hA,hz1⟩;dsimp only at hB hA hz1 ⊢;have EX1:=h! (show Ext we W1 from Ext.trans hxd.out hX);have HZA:=h! hA;have HZ1:=h! hz1;have HBO:=h! hB;have HGE:=h! (show we.heap.size<=bo from Nat.le_trans hxd.out.size hbo);have HCT:=h! (count_any bp tv (bkV b) (.map (some ash)) L W1 (EB.out.below EX1.out) HL0.out HL1.out);clear hbo hX hB hA hz1 hxd hwd;rcases HTE.out with hte | ⟨d',hd',hP,hte⟩
 ·obtain⟨rfl,hte⟩:=hte;have HT0:=h! hte;clear hte HTE HZ1;go_wp2_with fail
  refine HCT.out.mono ?_;rintro e w2 ⟨rfl,hb2,hk2⟩;have P2:=h! (show Blk w2 w.heap.size _ _ from(hk2.block _ (by have:=HBP.out;omega)).trans (EP.out.below EX1.out));have O2':=h! (show Blk w2 (w.heap.size+1) _ _ from(hk2.block _ (by have:=HBP.out;omega)).trans (EO.out.below EX1.out));have K2:=h! (show Kept (fun b=>b<w.heap.size/\b≠bp) w w2 from(Below.kept (Ext.trans EXX.out EX1.out) fun b hb=>hb.1).trans (hk2.mono fun b hb=>hb.2));have B2:=h! hb2;have p2:=P2.out.cells;have o2:=O2'.out.cells;have f2:=O2'.out.free;clear hb2 hk2 HCT;go_wp2_with fail
  clear p2 o2 f2;refine bodyPost_ret (results_cell_row rfl _ _ (w.heap.size+1) 45 _ (0,0) _ rfl (O2'.out.setN6 _ _ _ _ _ _) Tryz.underlying45 rfl (by kernel_rfl)) rfl ?_;refine leaf_said (k:=0) (p:=⟨pt,pi,pr⟩) B2.out K2.out (by omega) HBP.out ?_ _ _ _ _ _ _;rw[HT0.out];have hL0:=HL0.out;have hsz:(NT.mk 0 ⟨pt,pi,pr⟩ [] []).sz=1:=by rw[NT.sz,nszL]
  unfold EndE;rw[hsz];exact⟨fun h=>⟨rfl,rfl,if_pos (by omega)⟩,fun h=>if_neg (by omega)⟩
 ·subst hd';have HPL:=h! hP;have HT1:=h! hte;have hdz:((d':Int)+1 == 0)=false:=by rw[beq_eq_false_iff_ne];omega
  clear hP hte HTE
  have tri:Hid (lookA (refsOf ts) ⟨pt,pr⟩=none)\/(∃ r,Hid (lookA (refsOf ts) ⟨pt,pr⟩=some r/\(⟨pt,pr⟩:R2)∈shut))\/(∃ r,Hid (lookA (refsOf ts) ⟨pt,pr⟩=some r/\¬ (⟨pt,pr⟩:R2)∈shut)):=by
   cases hL:lookA (refsOf ts) ⟨pt,pr⟩ with
   | none=>exact .inl rfl
   | some r =>
    by_cases hsh:(⟨pt,pr⟩:R2)∈shut
    ·exact .inr (.inl ⟨r,rfl,hsh⟩)
    ·exact .inr (.inr ⟨r,rfl,hsh⟩)
  clear HCT;rcases tri with hL | ⟨r,hL⟩ | ⟨r,hL⟩
  ·have EX0:=EX1;rw[hL.out];dsimp only[Option.isSome];go_wp2_with fail
   obtain⟨wd,hwd⟩:∃ wd,Hid (wd=W1.drew):=⟨_,h! rfl⟩;have hxd:=h! (show Ext W1 wd from by rw[hwd.out];exact Ext.drew _);have EX1:=h! (show Ext we wd from Ext.trans EX1.out hxd.out);have HBO:=h! (HBO.out.below hxd.out);have HX1:=h! (show Ext w0 wd from Ext.trans HX.out (Ext.trans EXX.out EX1.out));have HZA:=h! (HZA.out.same fun y hy=>hxd.out.block y (Nat.lt_of_lt_of_le hy (Ext.trans HX.out (Ext.trans EXX.out EX0.out)).size));refine region_walkN (Ext wd) (by rw[<- hwd.out];exact Ext.refl _) (by kernel_rfl) (by kernel_rfl) (fun _ _ d _ _ h=>by cases d <;> exact h) ?_;rw[<- hwd.out];clear hwd hxd hdz;(refine WalkN.tk [0,1,2] ?_;(iterate 3 ((refine TkN.c _ ?_ (by simp only[gA,gS,gZ];rfl) (by kernel_rfl) (by kernel_rfl) (by rfl) (fun W hW=>?_) ?_;rotate_left;· (go_simp;try with_reducible rfl));simp only[Act.put,pA,pZ,pS]));refine TkN.n ?_)
   (refine WalkN.skip 3 _ (by simp only[gA,gS,gZ];rfl) (by kernel_rfl) (by kernel_rfl) (by rfl) ?_;simp only[Act.put,pA,pZ,pS]);(refine WalkN.skip 4 _ (by simp only[gA,gS,gZ];rfl) (by kernel_rfl) (by kernel_rfl) (by rfl) ?_;simp only[Act.put,pA,pZ,pS]);(refine WalkN.skip 5 _ (by simp only[gA,gS,gZ];rfl) (by kernel_rfl) (by kernel_rfl) (by rfl) ?_;simp only[Act.put,pA,pZ,pS]);(refine WalkN.skip 6 _ (by simp only[gA,gS,gZ];rfl) (by kernel_rfl) (by kernel_rfl) (by rfl) ?_;simp only[Act.put,pA,pZ,pS]);(refine WalkN.skip 7 _ (by simp only[gA,gS,gZ];rfl) (by kernel_rfl) (by kernel_rfl) (by rfl) ?_;simp only[Act.put,pA,pZ,pS]);(refine WalkN.skip 8 _ (by simp only[gA,gS,gZ];rfl) (by kernel_rfl) (by kernel_rfl) (by rfl) ?_;simp only[Act.put,pA,pZ,pS]);(refine WalkN.skip 9 _ (by simp only[gA,gS,gZ];rfl) (by kernel_rfl) (by kernel_rfl) (by rfl) ?_;simp only[Act.put,pA,pZ,pS]);(refine WalkN.skip 10 _ (by simp only[gA,gS,gZ];rfl) (by kernel_rfl) (by kernel_rfl) (by rfl) ?_;simp only[Act.put,pA,pZ,pS]);(refine WalkN.skip 11 _ (by simp only[gA,gS,gZ];rfl) (by kernel_rfl) (by kernel_rfl) (by rfl) ?_;simp only[Act.put,pA,pZ,pS]);(refine WalkN.skip 12 _ (by simp only[gA,gS,gZ];rfl) (by kernel_rfl) (by kernel_rfl) (by rfl) ?_;simp only[Act.put,pA,pZ,pS]);(refine WalkN.skip 13 _ (by simp only[gA,gS,gZ];rfl) (by kernel_rfl) (by kernel_rfl) (by rfl) ?_;simp only[Act.put,pA,pZ,pS])
   (refine WalkN.tk [14,15] ?_;(iterate 2 ((refine TkN.c _ ?_ (by simp only[gA,gS,gZ];rfl) (by kernel_rfl) (by kernel_rfl) (by rfl) (fun W hW=>?_) ?_;rotate_left;· (go_simp;try with_reducible rfl));simp only[Act.put,pA,pZ,pS]));refine TkN.n ?_)
   refine WalkN.done (by kernel_rfl) ?_;have HCT:=h! (count_any bp tv (bkV b) (.map (some ash)) L wd (EB.out.below EX1.out) HL0.out HL1.out);have HTT:=h! (show te ⟨pt,pi,pr⟩ = .mk 4 ⟨pt,pi,pr⟩ [] []from by rw[HT1.out,treeE,ruleOf_not hL.out]);go_wp2_with fail
   refine HCT.out.mono ?_;rintro e w2 ⟨rfl,hb2,hk2⟩;have P2:=h! (show Blk w2 w.heap.size _ _ from(hk2.block _ (by have:=HBP.out;omega)).trans (EP.out.below EX1.out));have O2':=h! (show Blk w2 (w.heap.size+1) _ _ from(hk2.block _ (by have:=HBP.out;omega)).trans (EO.out.below EX1.out));have K2:=h! (show Kept (fun b=>b<w.heap.size/\b≠bp) w w2 from(Below.kept (Ext.trans EXX.out EX1.out) fun b hb=>hb.1).trans (hk2.mono fun b hb=>hb.2));have B2:=h! hb2;have p2:=P2.out.cells;have o2:=O2'.out.cells;have f2:=O2'.out.free;clear hb2 hk2 HCT;go_wp2_with fail
   clear p2 o2 f2;refine bodyPost_ret (results_cell_row rfl _ _ (w.heap.size+1) 45 _ (0,0) _ rfl (O2'.out.setN6 _ _ _ _ _ _) Tryz.underlying45 rfl (by kernel_rfl)) rfl ?_;refine leaf_said (k:=4) (p:=⟨pt,pi,pr⟩) B2.out K2.out (by omega) HBP.out ?_ _ _ _ _ _ _;rw[HTT.out];have hL0:=HL0.out;have hsz:(NT.mk 4 ⟨pt,pi,pr⟩ [] []).sz=1:=by rw[NT.sz,nszL]
   unfold EndE;rw[hsz];exact⟨fun h=>⟨rfl,rfl,if_pos (by omega)⟩,fun h=>if_neg (by omega)⟩
  ·have EX0:=EX1;rw[hL.out.1];dsimp only[Option.isSome];go_wp2_with fail
   obtain⟨wd,hwd⟩:∃ wd,Hid (wd=W1.drew):=⟨_,h! rfl⟩;have hxd:=h! (show Ext W1 wd from by rw[hwd.out];exact Ext.drew _);have EX1:=h! (show Ext we wd from Ext.trans EX1.out hxd.out);have HBO:=h! (HBO.out.below hxd.out);have HX1:=h! (show Ext w0 wd from Ext.trans HX.out (Ext.trans EXX.out EX1.out));have HZA:=h! (HZA.out.same fun y hy=>hxd.out.block y (Nat.lt_of_lt_of_le hy (Ext.trans HX.out (Ext.trans EXX.out EX0.out)).size));refine region_walkN (Ext wd) (by rw[<- hwd.out];exact Ext.refl _) (by kernel_rfl) (by kernel_rfl) (fun _ _ d _ _ h=>by cases d <;> exact h) ?_;rw[<- hwd.out];clear hwd hxd hdz;have hs:∀ W,Ext wd W->∀ i,W.cell? ⟨bp,i,none⟩=(BdC tv (bkV b) (.map (some ash)) L 0)[i]?:=fun W h=>((EB.out.below EX1.out).below h).cells;have hp:∀ W,Ext wd W->∀ i,W.cell? ⟨w.heap.size,i,none⟩=(#[.string pt,.string pi,.string pr]:Array Value)[i]?:=fun W h=>((EP.out.below EX1.out).below h).cells
   have hlk:∀ W,Ext wd W->(Instr.lookup 141 (.map (some ash)) (.agg #[.string pt,.string pr]) false).run Tryz.prog W = .ok (.bool true) W:=fun W h=>by
    have h1:=(HST.out.sh.below (Ext.trans HX1.out h)).look refK r2V_inj Tryz.underlying141 (Tryz.zeroValue4 W) false (ref_key ⟨pt,pr⟩ ⟨HPO.out.1,HPO.out.2.2⟩);rw[look_shut,if_pos hL.out.2]at h1;exact h1
   unfold BdC at hs;(refine WalkN.tk [0,1,2,3,4,5,6,7,8,9,10,11,12,13,14,15] ?_;(iterate 16 ((refine TkN.c _ ?_ (by simp only[gA,gS,gZ];rfl) (by kernel_rfl) (by kernel_rfl) (by rfl) (fun W hW=>?_) ?_;rotate_left;· (go_simp;try with_reducible rfl));simp only[Act.put,pA,pZ,pS]));refine TkN.n ?_)
   refine WalkN.done (by kernel_rfl) ?_;clear hs hp hlk;have HCT:=h! (count_any bp tv (bkV b) (.map (some ash)) L wd (EB.out.below EX1.out) HL0.out HL1.out);have HTT:=h! (show te ⟨pt,pi,pr⟩ = .mk 4 ⟨pt,pi,pr⟩ [] []from by rw[HT1.out,treeE,ruleOf_shut hL.out.2]);go_wp2_with fail
   refine HCT.out.mono ?_;rintro e w2 ⟨rfl,hb2,hk2⟩;have P2:=h! (show Blk w2 w.heap.size _ _ from(hk2.block _ (by have:=HBP.out;omega)).trans (EP.out.below EX1.out));have O2':=h! (show Blk w2 (w.heap.size+1) _ _ from(hk2.block _ (by have:=HBP.out;omega)).trans (EO.out.below EX1.out));have K2:=h! (show Kept (fun b=>b<w.heap.size/\b≠bp) w w2 from(Below.kept (Ext.trans EXX.out EX1.out) fun b hb=>hb.1).trans (hk2.mono fun b hb=>hb.2));have B2:=h! hb2;have p2:=P2.out.cells;have o2:=O2'.out.cells;have f2:=O2'.out.free;clear hb2 hk2 HCT;go_wp2_with fail
   clear p2 o2 f2;refine bodyPost_ret (results_cell_row rfl _ _ (w.heap.size+1) 45 _ (0,0) _ rfl (O2'.out.setN6 _ _ _ _ _ _) Tryz.underlying45 rfl (by kernel_rfl)) rfl ?_;refine leaf_said (k:=4) (p:=⟨pt,pi,pr⟩) B2.out K2.out (by omega) HBP.out ?_ _ _ _ _ _ _;rw[HTT.out];have hL0:=HL0.out;have hsz:(NT.mk 4 ⟨pt,pi,pr⟩ [] []).sz=1:=by rw[NT.sz,nszL]
   unfold EndE;rw[hsz];exact⟨fun h=>⟨rfl,rfl,if_pos (by omega)⟩,fun h=>if_neg (by omega)⟩
  ·have EX0:=EX1;rw[hL.out.1];dsimp only[Option.isSome];go_wp2_with fail
   obtain⟨wd,hwd⟩:∃ wd,Hid (wd=W1.drew):=⟨_,h! rfl⟩;have hxd:=h! (show Ext W1 wd from by rw[hwd.out];exact Ext.drew _);have EX1:=h! (show Ext we wd from Ext.trans EX1.out hxd.out);have HBO:=h! (HBO.out.below hxd.out);have HX1:=h! (show Ext w0 wd from Ext.trans HX.out (Ext.trans EXX.out EX1.out));have HZA:=h! (HZA.out.same fun y hy=>hxd.out.block y (Nat.lt_of_lt_of_le hy (Ext.trans HX.out (Ext.trans EXX.out EX0.out)).size));refine region_walkN (Ext wd) (by rw[<- hwd.out];exact Ext.refl _) (by kernel_rfl) (by kernel_rfl) (fun _ _ d _ _ h=>by cases d <;> exact h) ?_;rw[<- hwd.out];clear hwd hxd hdz;have hs:∀ W,Ext wd W->∀ i,W.cell? ⟨bp,i,none⟩=(BdC tv (bkV b) (.map (some ash)) L 0)[i]?:=fun W h=>((EB.out.below EX1.out).below h).cells;have hp:∀ W,Ext wd W->∀ i,W.cell? ⟨w.heap.size,i,none⟩=(#[.string pt,.string pi,.string pr]:Array Value)[i]?:=fun W h=>((EP.out.below EX1.out).below h).cells
   have hlk:∀ W,Ext wd W->(Instr.lookup 141 (.map (some ash)) (.agg #[.string pt,.string pr]) false).run Tryz.prog W = .ok (.bool false) W:=fun W h=>by
    have h1:=(HST.out.sh.below (Ext.trans HX1.out h)).look refK r2V_inj Tryz.underlying141 (Tryz.zeroValue4 W) false (ref_key ⟨pt,pr⟩ ⟨HPO.out.1,HPO.out.2.2⟩);rw[look_shut,if_neg hL.out.2]at h1;exact h1
   unfold BdC at hs;(refine WalkN.tk [0,1,2,3,4,5,6,7,8,9,10,11,12,13,14,15] ?_;(iterate 16 ((refine TkN.c _ ?_ (by simp only[gA,gS,gZ];rfl) (by kernel_rfl) (by kernel_rfl) (by rfl) (fun W hW=>?_) ?_;rotate_left;· (go_simp;try with_reducible rfl));simp only[Act.put,pA,pZ,pS]));refine TkN.n ?_)
   refine WalkN.done (by kernel_rfl) ?_;clear hs hp hlk;have HRE:zr=r:=HZ1.out r hL.out.1;subst HRE;have HTT:=h! (show te ⟨pt,pi,pr⟩=ruleE T (treeE ts T shut d') ⟨pt,pi,pr⟩ zr from by rw[HT1.out,treeE,ruleOf_look hL.out.1 hL.out.2]);have HRU:=h! (erule_any w0 bp b ash ts tv T shut HST.out d' (by have:=HD.out;omega) HPL.out ⟨pt,pi,pr⟩ HPO.out zr (.slice zo zr.ps.length zc) L wd (HRS.out _ (look_mem hL.out.1)) (HZA.out.same fun y hy=>(HX1.out.block y hy).symm) HX1.out (EB.out.below EX1.out) HL0.out HL1.out);unfold pV rV at HRU;dsimp only at HRU;have p1:=(EP.out.below EX1.out).cells;have r1:=HBO.out.cells;go_wp2_with fail
   clear p1 r1;refine HRU.out.mono ?_;rintro e w2 ⟨nt,v2,L2,e2,rfl,hnt,hbd2,hk2,hE2⟩;have P2:=h! (show Blk w2 (w.heap.size+1) _ _ from(hk2.block _ ⟨(EO.out.below EX1.out).lt,by have:=HBP.out;omega⟩).trans (EO.out.below EX1.out));have o2:=P2.out.cells;have f2:=P2.out.free;obtain⟨v1,v2⟩:=v2;obtain⟨s1,-⟩:=(NtAt.iff _ _).1 hnt;obtain⟨so,sm,sc,rfl,-,-,-⟩:=s1.len;obtain⟨po,pc,rfl,-⟩:=hnt.rows;have N2:=h! hnt;have B2:=h! hbd2;have K2:=h! hk2;have E2:=h! hE2;unfold nV2;dsimp only;clear hnt hbd2 hk2 hE2 HRU s1;go_wp2_with fail
   clear o2 f2;refine bodyPost_ret (results_cell_row rfl _ _ (w.heap.size+1) 45 _ (0,0) _ rfl (P2.out.setN6 _ _ _ _ _ _) Tryz.underlying45 rfl (by kernel_rfl)) rfl ?_;rw[HTT.out];exact box_said N2.out B2.out K2.out E2.out (Below.kept (Ext.trans EXX.out EX1.out) fun b hb=>hb.1) (by omega) (EO.out.below EX1.out).lt HBP.out _ _ _ _ _ _
theorem point_any {w0:World} {bp b ash:Nat} {ts:List TyS} {tv:Value} {T:List Tup} {shut:List R2} (HS:BdSt w0 bp b ash ts tv T shut)(hrs:∀ x∈refsOf ts,x.2.Ok):∀ d,d<=1000->PointLaw w0 bp b ash ts tv T shut d
 | 0,_=>fun p L w hp hx hbd h0 h1=>by
  have:=point_step w0 bp b ash ts tv T shut HS hrs 0 (by omega) (treeE ts T shut 0) (.inl ⟨rfl,fun p=>by rw[treeE]⟩) p L w hp hx hbd h0 h1;exact this
 | d+1,hd=>fun p L w hp hx hbd h0 h1=>point_step w0 bp b ash ts tv T shut HS hrs (d+1) hd (treeE ts T shut (d+1)) (.inr ⟨d,rfl,point_any HS hrs d (by omega),fun _=>rfl⟩) p L w hp hx hbd h0 h1
theorem p3_neq (a b:P3)(W:World):(binOp BinOp.neq 32 (pV a) (pV b)).run Tryz.prog W = .ok (.bool (decide (a≠b))) W:=by
 obtain⟨a1,a2,a3⟩:=a;obtain⟨b1,b2,b3⟩:=b;unfold pV;dsimp only;go_simp;simp only[ba_toList];by_cases h1:a1=b1 <;> by_cases h2:a2=b2 <;> by_cases h3:a3=b3 <;> simp[h1,h2,h3]
theorem sub_eql (a b:P3)(W:World):(binOp BinOp.eql 33 (pV a) (pV b)).run Tryz.prog W = .ok (.bool (decide (a=b))) W:=by
 obtain⟨a1,a2,a3⟩:=a;obtain⟨b1,b2,b3⟩:=b;unfold pV;dsimp only;go_simp;simp only[ba_toList];by_cases h1:a1=b1 <;> by_cases h2:a2=b2 <;> by_cases h3:a3=b3 <;> simp[h1,h2,h3]
def insP (q:List P3)(k:Nat)(p:P3):List P3:=q.take k++[p]++q.drop k
theorem insP_mem (q:List P3)(k:Nat)(p x:P3):x∈insP q k p↔x∈q\/x=p:=by
 unfold insP;conv=>rhs;rw[<- List.take_append_drop k q]
 simp only[List.mem_append,List.mem_singleton];constructor
 ·rintro((h | h) | h)
  ·exact .inl (.inl h)
  ·exact .inr h
  ·exact .inl (.inr h)
 ·rintro((h | h) | h)
  ·exact .inl (.inl h)
  ·exact .inr h
  ·exact .inl (.inr h)
theorem insP_up {q:List P3} {k:Nat} {p:P3} (hq:UpP q)(h1:∀ j (hj:j<q.length),j<k->ltP q[j] p=true)(h2:∀ hk:k<q.length,ltP p q[k]=true):UpP (insP q k p):=by
 have hq':(q.take k++q.drop k).Pairwise fun a b=>ltP a b=true:=by rw[List.take_append_drop];exact hq
 obtain⟨ha,hb,hab⟩:=List.pairwise_append.1 hq'
 have hlt:∀ x∈q.take k,ltP x p=true:=fun x hx=>by
  obtain⟨j,hj,rfl⟩:=List.getElem_of_mem hx;rw[List.length_take]at hj;rw[List.getElem_take];exact h1 j (by omega) (by omega)
 have hgt:∀ x∈q.drop k,ltP p x=true:=fun x hx=>by
  obtain⟨j,hj,rfl⟩:=List.getElem_of_mem hx;rw[List.length_drop]at hj;rw[List.getElem_drop];have hk:k<q.length:=by omega
  rcases Nat.eq_zero_or_pos j with rfl | hj0
  ·exact h2 hk
  ·exact ltP_trans (h2 hk) ((List.pairwise_iff_getElem.1 hq) k (k+j) hk (by omega) (by omega))
 unfold insP UpP;rw[List.append_assoc,List.pairwise_append];refine⟨ha,?_,fun x hx y hy=>?_⟩
 ·rw[List.singleton_append,List.pairwise_cons];exact⟨hgt,hb⟩
 ·rcases List.mem_append.1 hy with hy | hy
  ·obtain rfl:y=p:=by simpa using hy
   exact hlt x hx
  ·exact hab x hx y hy
theorem insP_length (q:List P3)(k:Nat)(p:P3):(insP q k p).length=q.length+1:=by
 unfold insP;have:=congrArg List.length (List.take_append_drop k q);simp only[List.length_append,List.length_singleton]at this ⊢;omega
set_option maxRecDepth 100000 in
set_option maxHeartbeats 1600000 in
theorem less_any (a b:P3)(w:World):Calls Tryz.prog 148 #[pV a,pV b] w fun e w'=>e = .returned (.bool (ltP a b))/\Below w.heap.size w w':=by
 obtain⟨at_,ai,ar⟩:=a;obtain⟨bt,bi,br⟩:=b;have hb:Below w.heap.size w ((w.alloc (.cells #[.string at_,.string ai,.string ar] 32)).alloc (.cells #[.string bt,.string bi,.string br] 32)):=((Below.refl _ _).alloc (Nat.le_refl _) _).alloc (by simp) _;have hA:=((Blk.made w #[.string at_,.string ai,.string ar] 32).alloc (.cells #[.string bt,.string bi,.string br] 32)).cells;unfold pV;dsimp only;by_cases h1:at_=bt
 ·subst h1;by_cases h2:ai=bi
  ·subst h2;have HV:=h! (show Op.bytesLess ar.toList br.toList=ltP ⟨at_,ai,ar⟩ ⟨at_,ai,br⟩from by simp[ltP,ltS]);go_enter Tryz.func148,Tryz.ntmps148
   go_wp2_with fail
   go_ret
   exact⟨congrArg (fun b=>Ending.returned (.bool b)) HV.out,hb⟩
  ·have HV:=h! (show Op.bytesLess ai.toList bi.toList=ltP ⟨at_,ai,ar⟩ ⟨at_,bi,br⟩from by simp[ltP,ltS,h2]);have hn:=ba_beq' h2;rw[<- ByteArray.toList_eq,<- ByteArray.toList_eq]at hn;clear h2;go_enter Tryz.func148,Tryz.ntmps148
   go_wp2_with fail
   go_ret
   exact⟨congrArg (fun b=>Ending.returned (.bool b)) HV.out,hb⟩
 ·have HV:=h! (show Op.bytesLess at_.toList bt.toList=ltP ⟨at_,ai,ar⟩ ⟨bt,bi,br⟩from by simp[ltP,ltS,h1]);have hn:=ba_beq' h1;rw[<- ByteArray.toList_eq,<- ByteArray.toList_eq]at hn;clear h1;go_enter Tryz.func148,Tryz.ntmps148
  go_wp2_with fail
  go_ret
  exact⟨congrArg (fun b=>Ending.returned (.bool b)) HV.out,hb⟩
theorem ltP_asym {a b:P3} (h:ltP a b=true):ltP b a=false:=by
 cases k:ltP b a with
 | false=>rfl
 | true=>have:=ltP_trans h k;rw[ltP_irr]at this;cases this
theorem upP_unique:∀ {a b:List P3},UpP a->UpP b->(∀ x,x∈a↔x∈b)->a=b
 | [],[],_,_,_=>rfl
 | [],y::b,_,_,h=>absurd ((h y).2 (by simp)) (by simp)
 | x::a,[],_,_,h=>absurd ((h x).1 (by simp)) (by simp)
 | x::a,y::b,ha,hb,h=>by
  obtain⟨ha1,ha2⟩:=List.pairwise_cons.1 ha;obtain⟨hb1,hb2⟩:=List.pairwise_cons.1 hb
  have hxy:x=y:=by
   rcases List.mem_cons.1 ((h x).1 (by simp))with e | hx
   ·exact e
   ·rcases List.mem_cons.1 ((h y).2 (by simp))with e | hy
    ·exact e.symm
    ·have h1:=ha1 y hy;rw[ltP_asym (hb1 x hx)]at h1;cases h1
  subst hxy;congr 1
  refine upP_unique ha2 hb2 fun z=>?_;constructor
  ·intro hz;rcases List.mem_cons.1 ((h z).1 (by simp[hz]))with rfl | k
   ·have:=ha1 z hz;rw[ltP_irr]at this;cases this
   ·exact k
  ·intro hz;rcases List.mem_cons.1 ((h z).2 (by simp[hz]))with rfl | k
   ·have:=hb1 z hz;rw[ltP_irr]at this;cases this
   ·exact k
set_option maxRecDepth 100000 in
set_option maxHeartbeats 2000000 in
theorem sameS_any (v1 v2:Value)(l:List P3)(w:World)(h1:Sl (· < w.heap.size) w 3 v1 (pcs l))(h2:Sl (· < w.heap.size) w 3 v2 (pcs l)):Calls Tryz.prog 26 #[v1,v2] w fun e w'=>e = .returned (.bool true)/\Below w.heap.size w w':=by
 obtain⟨ao,c,rfl,hlc,hcm,hc⟩:=Sl.rows pC_length (by decide) (show Sl _ w 3 v1 (List.flatMap pC l)from h1);obtain⟨ao2,c2,rfl,hlc2,hcm2,hc2⟩:=Sl.rows pC_length (by decide) (show Sl _ w 3 v2 (List.flatMap pC l)from h2);have HC:=h! hc;have HC2:=h! hc2;clear hc hc2 h1 h2;go_enter Tryz.func26,Tryz.ntmps26
 go_wp2_with fail
 go_loopw [13] (fun ii wr=>∃ i:Nat,i<=l.length/\ii = .int .i64 i/\Below w.heap.size w wr) (fun ii _=>l.length-(intOf ii).toNat)
 case atStart=>exact⟨0,by omega,rfl,Below.refl _ _⟩
 case round =>
  obtain⟨i,hi,rfl,hbel⟩:=hrel;by_cases hlt:i<l.length
  ·obtain⟨b,off,rfl,hb,hc⟩:=HC.out (by omega);obtain⟨b2,off2,rfl,hb2,hc2⟩:=HC2.out (by omega);have c0:=hc i hlt 0 _ rfl;have c1:=hc i hlt 1 _ rfl;have c2:=hc i hlt 2 _ rfl;have e0:=hc2 i hlt 0 _ rfl;have e1:=hc2 i hlt 1 _ rfl;have e2:=hc2 i hlt 2 _ rfl;clear hc hc2;generalize l[i]=x at *;obtain⟨xt,xi,xr⟩:=x;rw[Nat.add_zero]at c0 e0;dsimp only at c0 c1 c2 e0 e1 e2;go_wp2_with fail
   obtain⟨wd,hwd⟩:∃ wd,wd=wr.drew:=⟨_,rfl⟩;have hbd:=hbel.drew;rw[<- hwd]at hbd;refine region_walkN (Ext wd) (by rw[<- hwd];exact Ext.refl _) (by kernel_rfl) (by kernel_rfl) (fun _ _ d _ _ h=>by cases d <;> exact h) ?_;rw[<- hwd];clear hwd hbel;have g0:∀ W,Ext wd W->W.cell? ⟨b,off+i*3,none⟩=some (.string xt):=fun W h=>((Below.cell (hbd.trans (h.mono hbd.size)) (p:=⟨b,off+i*3,none⟩) hb)).trans c0;have g1:∀ W,Ext wd W->W.cell? ⟨b,off+i*3+1,none⟩=some (.string xi):=fun W h=>((Below.cell (hbd.trans (h.mono hbd.size)) (p:=⟨b,off+i*3+1,none⟩) hb)).trans c1;have g2:∀ W,Ext wd W->W.cell? ⟨b,off+i*3+2,none⟩=some (.string xr):=fun W h=>((Below.cell (hbd.trans (h.mono hbd.size)) (p:=⟨b,off+i*3+2,none⟩) hb)).trans c2;have k0:∀ W,Ext wd W->W.cell? ⟨b2,off2+i*3,none⟩=some (.string xt):=fun W h=>((Below.cell (hbd.trans (h.mono hbd.size)) (p:=⟨b2,off2+i*3,none⟩) hb2)).trans e0;have k1:∀ W,Ext wd W->W.cell? ⟨b2,off2+i*3+1,none⟩=some (.string xi):=fun W h=>((Below.cell (hbd.trans (h.mono hbd.size)) (p:=⟨b2,off2+i*3+1,none⟩) hb2)).trans e1;have k2:∀ W,Ext wd W->W.cell? ⟨b2,off2+i*3+2,none⟩=some (.string xr):=fun W h=>((Below.cell (hbd.trans (h.mono hbd.size)) (p:=⟨b2,off2+i*3+2,none⟩) hb2)).trans e2;(refine WalkN.tk [0,1,2,3,4,5,6,7,8] ?_;(iterate 9 ((refine TkN.c _ ?_ (by simp only[gA,gS,gZ];rfl) (by kernel_rfl) (by kernel_rfl) (by rfl) (fun W hW=>?_) ?_;rotate_left;· (go_simp;try with_reducible rfl));simp only[Act.put,pA,pZ,pS]));refine TkN.n ?_)
   refine WalkN.done (by kernel_rfl) ?_;clear c0 c1 c2 e0 e1 e2 g0 g1 g2 k0 k1 k2;go_wp2_with fail
   go_roundw
   case rel=>exact⟨i+1,by omega,by go_num,hbd⟩
   case measure=>simp[intOf];omega
  ·obtain rfl:i=l.length:=by omega
   go_wp2_with fail
   go_ret
   exact⟨rfl,hbel⟩
set_option maxRecDepth 100000 in
set_option maxHeartbeats 2000000 in
theorem sameP_any (v1 v2:Value)(l:List P3)(w:World)(h1:Sl (· < w.heap.size) w 3 v1 (pcs l))(h2:Sl (· < w.heap.size) w 3 v2 (pcs l)):Calls Tryz.prog 29 #[v1,v2] w fun e w'=>e = .returned (.bool true)/\Below w.heap.size w w':=by
 obtain⟨ao,c,rfl,hlc,hcm,hc⟩:=Sl.rows pC_length (by decide) (show Sl _ w 3 v1 (List.flatMap pC l)from h1);obtain⟨ao2,c2,rfl,hlc2,hcm2,hc2⟩:=Sl.rows pC_length (by decide) (show Sl _ w 3 v2 (List.flatMap pC l)from h2);have HC:=h! hc;have HC2:=h! hc2;clear hc hc2 h1 h2;go_enter Tryz.func29,Tryz.ntmps29
 go_wp2_with fail
 go_loopw [13] (fun ii wr=>∃ i:Nat,i<=l.length/\ii = .int .i64 i/\Below w.heap.size w wr) (fun ii _=>l.length-(intOf ii).toNat)
 case atStart=>exact⟨0,by omega,rfl,Below.refl _ _⟩
 case round =>
  obtain⟨i,hi,rfl,hbel⟩:=hrel;by_cases hlt:i<l.length
  ·obtain⟨b,off,rfl,hb,hc⟩:=HC.out (by omega);obtain⟨b2,off2,rfl,hb2,hc2⟩:=HC2.out (by omega);have c0:=hc i hlt 0 _ rfl;have c1:=hc i hlt 1 _ rfl;have c2:=hc i hlt 2 _ rfl;have e0:=hc2 i hlt 0 _ rfl;have e1:=hc2 i hlt 1 _ rfl;have e2:=hc2 i hlt 2 _ rfl;clear hc hc2;generalize l[i]=x at *;obtain⟨xt,xi,xr⟩:=x;rw[Nat.add_zero]at c0 e0;dsimp only at c0 c1 c2 e0 e1 e2;go_wp2_with fail
   obtain⟨wd,hwd⟩:∃ wd,wd=wr.drew:=⟨_,rfl⟩;have hbd:=hbel.drew;rw[<- hwd]at hbd;refine region_walkN (Ext wd) (by rw[<- hwd];exact Ext.refl _) (by kernel_rfl) (by kernel_rfl) (fun _ _ d _ _ h=>by cases d <;> exact h) ?_;rw[<- hwd];clear hwd hbel;have g0:∀ W,Ext wd W->W.cell? ⟨b,off+i*3,none⟩=some (.string xt):=fun W h=>((Below.cell (hbd.trans (h.mono hbd.size)) (p:=⟨b,off+i*3,none⟩) hb)).trans c0;have g1:∀ W,Ext wd W->W.cell? ⟨b,off+i*3+1,none⟩=some (.string xi):=fun W h=>((Below.cell (hbd.trans (h.mono hbd.size)) (p:=⟨b,off+i*3+1,none⟩) hb)).trans c1;have g2:∀ W,Ext wd W->W.cell? ⟨b,off+i*3+2,none⟩=some (.string xr):=fun W h=>((Below.cell (hbd.trans (h.mono hbd.size)) (p:=⟨b,off+i*3+2,none⟩) hb)).trans c2;have k0:∀ W,Ext wd W->W.cell? ⟨b2,off2+i*3,none⟩=some (.string xt):=fun W h=>((Below.cell (hbd.trans (h.mono hbd.size)) (p:=⟨b2,off2+i*3,none⟩) hb2)).trans e0;have k1:∀ W,Ext wd W->W.cell? ⟨b2,off2+i*3+1,none⟩=some (.string xi):=fun W h=>((Below.cell (hbd.trans (h.mono hbd.size)) (p:=⟨b2,off2+i*3+1,none⟩) hb2)).trans e1;have k2:∀ W,Ext wd W->W.cell? ⟨b2,off2+i*3+2,none⟩=some (.string xr):=fun W h=>((Below.cell (hbd.trans (h.mono hbd.size)) (p:=⟨b2,off2+i*3+2,none⟩) hb2)).trans e2;(refine WalkN.tk [0,1,2,3,4,5,6,7,8] ?_;(iterate 9 ((refine TkN.c _ ?_ (by simp only[gA,gS,gZ];rfl) (by kernel_rfl) (by kernel_rfl) (by rfl) (fun W hW=>?_) ?_;rotate_left;· (go_simp;try with_reducible rfl));simp only[Act.put,pA,pZ,pS]));refine TkN.n ?_)
   refine WalkN.done (by kernel_rfl) ?_;clear c0 c1 c2 e0 e1 e2 g0 g1 g2 k0 k1 k2;go_wp2_with fail
   go_roundw
   case rel=>exact⟨i+1,by omega,by go_num,hbd⟩
   case measure=>simp[intOf];omega
  ·obtain rfl:i=l.length:=by omega
   go_wp2_with fail
   go_ret
   exact⟨rfl,hbel⟩
structure GkAt (w:World)(gp B:Nat)(ps:List P3)(pv fv:Value):Prop where
 box:Blk w gp #[pv,fv] 96
 pts:Own w B 32 3 pv (pcs ps)
section
variable {w w' w0 : World} {gp B B' lo x : Nat} {pv fv pv' v sv rv qv : Value} {ps : List P3} {e : TypeId} {sz : Nat} {xs : List Value} {k : Int} {subs : List P3} {refs : List Int} {q : List (FT × FV3)}
theorem GkAt.same (h:GkAt w gp B ps pv fv)(h1:w'.heap[gp]?=w.heap[gp]?)(h3:∀ g,pv.ownBlock=some g->w'.heap[g]?=w.heap[g]?):GkAt w' gp B ps pv fv:=⟨h1.trans h.box,h.pts.keepOwn h3⟩
theorem GkAt.ptNe (h:GkAt w gp B ps pv fv):∀ g,pv.ownBlock=some g->g≠gp:=fun g hg e=>by
 obtain⟨cur,h2⟩:=h.pts.typed hg;subst e;rw[show w.heap[g]?=_ from h.box]at h2;injection h2 with h2
 injection h2 with _ h2 _
 exact absurd h2 (by decide)
theorem GkAt.un (h:GkAt w gp B ps pv fv) {x:Nat} {cs:Array Value} {fr:Nat × Nat} (hx:w.heap[x]?=some (.cells cs e fr))(he:e≠32)(he2:e≠96):KX gp gp w pv x:=by
 have hne:x≠gp:=fun e=>by
  subst e;rw[show w.heap[x]?=_ from h.box]at hx;injection hx with hx
  injection hx with _ hx _
  exact he2 hx.symm
 refine⟨(Array.getElem?_eq_some_iff.1 hx).1,hne,hne,fun e=>?_⟩;obtain⟨c,hc⟩:=h.pts.typed e;rw[hc]at hx;injection hx with hx
 injection hx with _ hx _
 exact he hx.symm
theorem Fine.gpk (h:Fine gp gp w w' pv pv')(hw:GkAt w gp B ps pv fv)(hB:B<=gp):PKept (· = gp) B w w':=h.kept.mono fun x hx=>by
 rcases hx with hx | ⟨h1,h2,h3⟩
 ·exact⟨by have:=hw.box.lt;omega,by omega,by omega,fun e=>by have:=(hw.pts.block x e).1;omega⟩
 ·refine⟨h2,h1,h1,fun e=>?_⟩;obtain⟨c,hc⟩:=hw.pts.typed e;exact h3 c hc
theorem Fine.gblk (h:Fine gp gp w w' pv pv')(hw:GkAt w gp B ps pv fv) {x:Nat} {cs:Array Value} (hx:Blk w x cs e)(he:e≠32)(he2:e≠96):Blk w' x cs e:=(h.kept.block x (hw.un hx he he2)).trans hx
theorem Fine.grow (h:Fine gp gp w w' pv pv')(hw:GkAt w gp B ps pv fv)(ho:Own w B' e sz v xs)(he:e≠32)(he2:e≠96):Own w' B' e sz v xs:=ho.keepOwn fun g hg=>by
 obtain⟨c,hc⟩:=ho.typed hg;exact h.kept.block g (hw.un hc he he2)
theorem GkAt.setBox (h:GkAt w gp B ps pv fv) {x i:Nat} {cs:Array Value} (hx:Blk w x cs e)(he:e≠32)(he2:e≠96)(u:Value):GkAt (w.setCell ⟨x,i,none⟩ u) gp B ps pv fv:=by
 have hu:=h.un hx he he2;exact h.same (Below.heap_setCell _ _ _ _ fun e=>hu.2.1 e.symm) fun g hg=>Below.heap_setCell _ _ _ _ fun e=>hu.2.2.2 (by rw[hg,show g=x from e])
theorem FmAt.gfine (h:FmAt w lo x k subs refs q sv rv qv)(hw:GkAt w gp B ps pv fv)(hf:Fine gp gp w w' pv pv')(hB:B<=gp)(hM:gp<lo):FmAt w' lo x k subs refs q sv rv qv :=
 ⟨hf.gblk hw h.box (by decide) (by decide),hf.grow hw h.subs (by decide) (by decide),hf.grow hw h.refs (by decide) (by decide),h.parts.keep (hf.gpk hw hB) fun x hx=>by
  rw[show x=gp from hx];exact hM⟩
end
def EndQ (A:List NT)(L:Int)(l:List NT)(L':Int):Prop:=((nszL A:Int)<=L->l=A/\L'=L-nszL A)/\(L<nszL A->L' = -1)
section
variable {A l : List NT} {L L1 L2 : Int} {t nt : NT}
theorem EndQ.nil (h:0<=L):EndQ [] L [] L:=⟨fun _=>by simp[nszL],fun h2=>by simp[nszL]at h2;omega⟩
end
section
variable {w0 w wr w2 w3 : World} {bp lo lo' : Nat} {tv sev shv sv qv qv' : Value} {k : Int} {p : P3} {rc : Array Value} {A : List NT} {L L1 L2 : Int} {sb : List P3} {q : List (NT × NV2)} {t nt : NT} {v2 : NV2}
end
abbrev zF4:Array Value:=#[.int .i64 0,.slice none 0 0,.slice none 0 0,.slice none 0 0]
structure FrmI (wb w w':World)(gp B:Nat)(pv fv:Value)(pb:Array Value)(k:Int)(rb:Array Value)(ps:List P3)(subs:List P3)(refs:List Int)(q:List (FT × FV3))(sv rv qv pv':Value):Prop where
 fm:FmAt w' (w.heap.size+4) (w.heap.size+3) k subs refs q sv rv qv
 gk:GkAt w' gp B ps pv' fv
 pb:Blk w' w.heap.size pb 32
 rb:Blk w' (w.heap.size+1) rb 106
 ob:Blk w' (w.heap.size+2) zF4 128
 fn:Fine gp gp w w' pv pv'
 be:Below B wb w'
 wh:∀ g,pv'.ownBlock=some g->pv.ownBlock=some g\/w.heap.size+4<=g
 sz:w.heap.size+4<=w'.heap.size
 p0:∀ g,pv.ownBlock=some g->g<w.heap.size
 g0:B<=gp/\gp<w.heap.size
section
variable {wb w w' w2 w3 w4 : World} {gp B : Nat} {pv fv sv rv qv pv' pv2 : Value} {pb rb : Array Value} {k : Int} {ps ps2 subs : List P3} {refs : List Int} {q : List (FT × FV3)}
theorem FrmI.num (h:FrmI wb w w' gp B pv fv pb k rb ps subs refs q sv rv qv pv')(hf:Fine gp gp w' w2 pv' pv2)(hg:GkAt w2 gp B ps2 pv2 fv):FrmI wb w w2 gp B pv fv pb k rb ps2 subs refs q sv rv qv pv2 :=
 have hne:∀ x,w.heap.size<=x->x<w.heap.size+4->pv'.ownBlock≠some x:=fun x h1 h2 e=>by
  rcases h.wh x e with e2 | e2
  ·have:=h.p0 x e2;omega
  ·omega
 have hgp:=h.g0.2
 ⟨h.fm.gfine h.gk hf h.g0.1 (by omega),hg,(hf.kept.block _ ⟨h.pb.lt,by omega,by omega,hne _ (by omega) (by omega)⟩).trans h.pb,hf.gblk h.gk h.rb (by decide) (by decide),hf.gblk h.gk h.ob (by decide) (by decide),h.fn.trans hf,h.be.trans (hf.gpk h.gk h.g0.1).below,fun g hg=>by
  rcases hf.wher g hg with e | e
  ·exact h.wh g e
  ·exact .inr (Nat.le_trans h.sz e),Nat.le_trans h.sz hf.size,h.p0,h.g0⟩
theorem FrmI.cell {i:Nat} {u:Value} {q2:List (FT × FV3)} {subs2:List P3} {refs2:List Int} {sv2 rv2 qv2:Value} (h:FrmI wb w w' gp B pv fv pb k rb ps subs refs q sv rv qv pv')(hfm:FmAt (w'.setCell ⟨w.heap.size+3,i,none⟩ u) (w.heap.size+4) (w.heap.size+3) k subs2 refs2 q2 sv2 rv2 qv2):FrmI wb w (w'.setCell ⟨w.heap.size+3,i,none⟩ u) gp B pv fv pb k rb ps subs2 refs2 q2 sv2 rv2 qv2 pv' :=
 ⟨hfm,h.gk.setBox h.fm.box (by decide) (by decide) u,h.pb.other (a:=⟨w.heap.size+3,i,none⟩) (by show w.heap.size≠w.heap.size+3;omega) u,h.rb.other (a:=⟨w.heap.size+3,i,none⟩) (by show w.heap.size+1≠w.heap.size+3;omega) u,h.ob.other (a:=⟨w.heap.size+3,i,none⟩) (by show w.heap.size+2≠w.heap.size+3;omega) u,h.fn.set (by omega) u,h.be.setCell (by have:=h.g0;show B<=w.heap.size+3;omega) u,h.wh,by simpa using h.sz,h.p0,h.g0⟩
theorem FrmI.keep (h:FrmI wb w w' gp B pv fv pb k rb ps subs refs [] sv rv (.slice none 0 0) pv')(hk:Kept (fun b=>b<w'.heap.size/\rv.ownBlock≠some b) w' w2) {rv2:Value} {refs2:List Int} (ho:Own w2 (w.heap.size+4) 3 1 rv2 (ic refs2)):FrmI wb w (w2.setCell ⟨w.heap.size+3,2,none⟩ rv2) gp B pv fv pb k rb ps subs refs2 [] sv rv2 (.slice none 0 0) pv':=by
 have nt:∀ {x:Nat} {cs:Array Value} {t:TypeId} {fr:Nat × Nat},w'.heap[x]?=some (.cells cs t fr)->t≠3->w2.heap[x]?=w'.heap[x]?:=fun {x cs t fr} hx ht=>hk.block x ⟨(Array.getElem?_eq_some_iff.1 hx).1,fun e=>by
  obtain⟨c2,h2⟩:=h.fm.refs.typed e;rw[hx]at h2;exact ht (by injection Option.some.inj h2)⟩
 have bk:∀ {x:Nat} {cs:Array Value} {t:TypeId},Blk w' x cs t->t≠3->Blk w2 x cs t:=fun {x cs t} hx ht=>(nt hx ht).trans hx
 have ow:∀ {B:Nat} {t:TypeId} {sz:Nat} {v:Value} {xs:List Value},Own w' B t sz v xs->t≠3->Own w2 B t sz v xs:=fun {B t sz v xs} hx ht=>hx.keepOwn fun g hg=>by
  obtain⟨c2,h2⟩:=hx.typed hg;exact nt h2 ht
 have hlow:∀ x,x<w.heap.size+4->w2.heap[x]?=w'.heap[x]?:=fun x hx=>hk.block x ⟨by have:=h.sz;omega,fun e=>by have:=(h.fm.refs.block x e).1;omega⟩;have hb:Blk w2 (w.heap.size+3) #[.int .i64 k,sv,rv,.slice none 0 0] 128:=bk h.fm.box (by decide);have hg2:GkAt w2 gp B ps pv' fv:=⟨bk h.gk.box (by decide),ow h.gk.pts (by decide)⟩
 refine⟨⟨hb.set_to 2 rv2 rfl,(ow h.fm.subs (by decide)).setBox (x:=w.heap.size+3) hb (by decide) _,ho.setBox (x:=w.heap.size+3) hb (by decide) _,FRow.nil _ _⟩,hg2.setBox hb (by decide) (by decide) _,(bk h.pb (by decide)).other (a:=⟨w.heap.size+3,2,none⟩) (by show w.heap.size≠w.heap.size+3;omega) _,(bk h.rb (by decide)).other (a:=⟨w.heap.size+3,2,none⟩) (by show w.heap.size+1≠w.heap.size+3;omega) _,(bk h.ob (by decide)).other (a:=⟨w.heap.size+3,2,none⟩) (by show w.heap.size+2≠w.heap.size+3;omega) _,
  Fine.set ⟨h.fn.kept.trans (hk.mono fun x (hx:KX gp gp w pv x)=>⟨by have:=h.sz;have:=hx.1;omega,fun e=>by have:=(h.fm.refs.block x e).1;have:=hx.1;omega⟩),h.fn.wher⟩ (by omega) _,Below.setCell (h.be.trans ⟨hk.os,hk.tape,hk.output,hk.size,fun x hx=>hlow x (by have:=h.g0;omega)⟩) (by have:=h.g0;show B<=w.heap.size+3;omega) _,h.wh,by simpa using Nat.le_trans h.sz hk.size,h.p0,h.g0⟩
end
theorem WalkAt.le {ts:List TyS} {T:List Tup} {shut:List R2} {p:P3} {most:Int} {n:Nat} (h:WalkAt ts T shut p most n):n<=(walkN ts T shut p n).1.length:=by
 cases n with
 | zero=>exact Nat.zero_le _
 | succ n =>
  have h1:=(h n (Nat.lt_succ_self n)).1;have h2:=walk_mono ts T shut p (show n<=n+1 by omega);omega
structure WlkI (w0 w:World)(gp lo:Nat)(tv:Value)(ps:List P3)(q:List (FT × FV3))(pv fv:Value):Prop where
 gk:GkAt w gp w0.heap.size ps pv fv
 row:FRow lo w q fv
 sb:Blk w w0.heap.size #[tv] 26
 ob:Blk w (w0.heap.size+2) #[.slice none 0 0,.slice none 0 0] 96
 be:Below w0.heap.size w0 w
 lo:w0.heap.size+4=gp/\gp<lo/\lo<=w.heap.size
section
variable {w0 w w' w2 w3 w6 w8 : World} {gp lo n0 : Nat} {tv pv fv pv' : Value} {ps ps' : List P3} {q : List (FT × FV3)} {x : FT} {v : FV3}
theorem WlkI.num (h:WlkI w0 w gp lo tv ps q pv fv)(hf:Fine gp gp w w' pv pv')(hg:GkAt w' gp w0.heap.size ps' pv' fv):WlkI w0 w' gp lo tv ps' q pv' fv :=
 have hl:=h.lo
 ⟨hg,h.row.keep (hf.gpk h.gk (by omega)) fun x hx=>by rw[show x=gp from hx];exact hl.2.1,hf.gblk h.gk h.sb (by decide) (by decide),(hf.kept.block _ ⟨h.ob.lt,by omega,by omega,fun e=>by
  obtain⟨c,hc⟩:=h.gk.pts.typed e;rw[show w.heap[w0.heap.size+2]?=_ from h.ob]at hc;injection hc with hc
  injection hc with _ hc _
  exact absurd hc (by decide)⟩).trans h.ob,h.be.trans (hf.gpk h.gk (by omega)).below,hl.1,hl.2.1,Nat.le_trans hl.2.2 hf.size⟩
theorem WlkI.step {g n c:Nat} (h:WlkI w0 w gp lo tv ps q pv fv)(hx:FTAt (FS n0 w) w x v)(hn0:lo<=n0)(hfv:∀ g,fv.ownBlock=some g->g<n0)
  (h3:Ext w w3) (hg:w3.grownBy w6 fv.ownBlock) (hb:∀ g',(Value.slice (some ⟨g,0,none⟩) n c).ownBlock=some g'->fv.ownBlock=some g'\/w3.heap.size<=g')
  (ho:Own w8 lo 128 4 (.slice (some ⟨g,0,none⟩) n c) (q.flatMap fC++fC (x,v))) (hbx:Blk w8 gp #[pv,.slice (some ⟨g,0,none⟩) n c] 96)
  (h8:∀ y,y≠g->y≠gp->w8.heap[y]?=w6.heap[y]?) (hsz:w8.heap.size=w6.heap.size) (hos:w8.os=w6.os/\w8.tape=w6.tape/\w8.output=w6.output):WlkI w0 w8 gp lo tv ps (q++[(x,v)]) pv (.slice (some ⟨g,0,none⟩) n c):=by
 have hl:=h.lo;have hgb:fv.ownBlock=some g\/w3.heap.size<=g:=hb g rfl;have hz3:=h3.size;have hz6:=hg.size
 have hglo:lo<=g:=by
  rcases hgb with h1 | h1
  ·exact(h.row.row.block g h1).1
  ·omega
 have h6:∀ y,y<w.heap.size->fv.ownBlock≠some y->w6.heap[y]?=w.heap[y]?:=fun y hy hn=>(hg.block y (Nat.lt_of_lt_of_le hy h3.size) fun e=>hn e.symm).trans (h3.block y hy)
 have hgx:∀ y,y<w.heap.size->fv.ownBlock≠some y->y≠g:=fun y hy hn e=>by
  subst e;rcases hgb with h1 | h1
  ·exact hn h1
  ·omega
 have h86:∀ y,y<w.heap.size->fv.ownBlock≠some y->y≠gp->w8.heap[y]?=w.heap[y]?:=fun y hy hn hp=>(h8 y (hgx y hy hn) hp).trans (h6 y hy hn);have hlfv:∀ y,y<lo->fv.ownBlock≠some y:=fun y hy e=>by have:=(h.row.row.block y e).1;omega
 refine⟨⟨hbx,h.gk.pts.keepOwn fun y hy=>?_⟩,?_,(h86 _ h.sb.lt (hlfv _ (by omega)) (by omega)).trans h.sb,(h86 _ h.ob.lt (hlfv _ (by omega)) (by omega)).trans h.ob,?_,hl.1,hl.2.1,by omega⟩
 ·exact h86 y (h.gk.pts.block y hy).2 (fun e=>h.row.row.apart h.gk.pts (by decide) e hy) (h.gk.ptNe y hy)
 ·refine⟨by rw[List.flatMap_append];simpa using ho,fun y hy=>?_⟩
  have hm:∀ b,(FS lo w b/\fv.ownBlock≠some b)->(FS lo w8 b/\(Value.slice (some ⟨g,0,none⟩) n c).ownBlock≠some b):=fun b hb'=>⟨⟨hb'.1.1,Nat.lt_of_lt_of_le hb'.1.2.1 (by omega),fun cs=>by rw[h86 b hb'.1.2.1 hb'.2 (by have:=hb'.1.1;omega)];exact hb'.1.2.2 cs⟩,fun e=>by
   injection e with e
   exact hgx b hb'.1.2.1 hb'.2 e.symm⟩
  have hsame:∀ b,(FS lo w b/\fv.ownBlock≠some b)->w8.heap[b]?=w.heap[b]?:=fun b hb'=>h86 b hb'.1.2.1 hb'.2 (by have:=hb'.1.1;omega);rcases List.mem_append.1 hy with hy | hy
  ·exact((h.row.parts y hy).same hsame).mono hm
  ·obtain rfl:=List.mem_singleton.1 hy;exact((hx.mono fun b hb'=>(⟨hb'.mono hn0,fun e=>by have:=hfv b e;have:=hb'.1;omega⟩:FS lo w b/\fv.ownBlock≠some b)).same hsame).mono hm
 ·exact h.be.trans ⟨hos.1.trans (hg.os.trans h3.os),hos.2.1.trans (hg.tape.trans h3.tape),hos.2.2.trans (hg.output.trans h3.output),by omega,fun y hy=>h86 y (by omega) (hlfv _ (by omega)) (by omega)⟩
end
theorem NtAt.shape {S:Nat->Prop} {w:World} {r:NT} {v:NV2} (h:NtAt S w r v):∃ a1 c1 a4 c4,v=(.slice a1 r.subs.length c1,.slice a4 r.ps.length c4):=by
 obtain⟨v1,v4⟩:=v;obtain⟨h1,-⟩:=(NtAt.iff _ _).1 h;obtain⟨a1,c1,e1,-⟩:=Sl.rows pC_length (by decide) (show Sl S w 3 v1 (r.subs.flatMap pC)from h1);obtain⟨a4,c4,e4,-⟩:=h.rows;dsimp only at e1 e4;subst e1 e4;exact⟨_,_,_,_,rfl⟩
end Go.Proofs.YtlhaghoajpglaaaGreat
namespace Go.Proofs.YtlhaghoajpglaaaGreat
open Go Go.RowKit
def boC (l:List Bool):List Value:=l.map .bool
structure InvR (fs:List FT)(s:P3)(n r:Nat)(F:List Int)(j:Nat)(L:List Bool)(R:List Int):Prop where
 lenL:L.length=n
 lenR:R.length=n
 inn:∀ i,i<n->L.getD i false=((inN fs s n r).getD i false||decide ((i:Int)∈F.take j))
 out:∀ i,i<n->R.getD i 0=if (i:Int)∈F.take j then((r+1:Nat):Int)else(outN fs s n r).getD i 0
section
variable {fs : List FT} {s : P3} {n r j : Nat} {F : List Int} {L : List Bool} {R : List Int}
theorem InvR.start (fs:List FT)(s:P3)(n r:Nat)(F:List Int):InvR fs s n r F 0 (inN fs s n r) (outN fs s n r) where
 lenL:=inN_length r
 lenR:=outN_length r
 inn i _:=by simp
 out i _:=by simp
theorem getD_set {α:Type} (l:List α)(i j:Nat)(x d:α):(l.set j x).getD i d=if i=j/\j<l.length then x else l.getD i d:=by
 rw[List.getD_eq_getElem?_getD,List.getElem?_set,List.getD_eq_getElem?_getD];by_cases h:j=i
 ·subst h;rw[if_pos rfl];split
  ·next h=>rw[if_pos ⟨rfl,h⟩];rfl
  ·next h=>rw[if_neg fun e=>h e.2,List.getElem?_eq_none (by omega)]
 ·rw[if_neg h,if_neg fun e=>h e.1.symm]
theorem InvR.step (h:InvR fs s n r F j L R)(hj:j<F.length)(h0:0<=F[j])(hn:F[j]<(n:Int)):InvR fs s n r F (j+1) (L.set F[j].toNat true) (R.set F[j].toNat ((r+1:Nat):Int)):=by
 have ht:∀ x,x∈F.take (j+1)↔x∈F.take j\/x=F[j]:=fun x=>by rw[List.take_succ_eq_append_getElem hj,List.mem_append,List.mem_singleton]
 have hlt:F[j].toNat<n:=by omega
 refine⟨by rw[List.length_set,h.lenL],by rw[List.length_set,h.lenR],fun i hi=>?_,fun i hi=>?_⟩
 ·rw[getD_set,h.lenL];by_cases e:i=F[j].toNat
  ·have:(i:Int)∈F.take (j+1):=(ht _).2 (.inr (by omega));rw[if_pos ⟨e,hlt⟩,decide_eq_true this,Bool.or_true]
  ·rw[if_neg fun h=>e h.1,h.inn i hi];congr 1
   have:¬ (i:Int)=F[j]:=by omega
   rw[decide_eq_decide,ht];simp only[this,or_false]
 ·rw[getD_set,h.lenR];by_cases e:i=F[j].toNat
  ·rw[if_pos ⟨e,hlt⟩,if_pos ((ht _).2 (.inr (by omega)))]
  ·rw[if_neg fun h=>e h.1,h.out i hi];have:¬ (i:Int)=F[j]:=by omega
   have e2:(i:Int)∈F.take (j+1)↔(i:Int)∈F.take j:=by rw[ht];simp only[this,or_false]
   simp only[e2]
theorem InvR.done (h:InvR fs s n r F F.length L R)(hF:∀ i:Nat,i<n->((i:Int)∈F↔newS fs s (inN fs s n r) i=true)):L=inN fs s n (r+1)/\R=outN fs s n (r+1):=by
 constructor
 ·refine ext_bool (by rw[h.lenL,inN_length]) fun i hi=>?_;rw[h.lenL]at hi;rw[h.inn i hi,inN_succ hi,List.take_length];congr 1
  rw[Bool.eq_iff_iff,decide_eq_true_eq];exact hF i hi
 ·refine ext_int (by rw[h.lenR,outN_length]) fun i hi=>?_;rw[h.lenR]at hi;rw[h.out i hi,outN_succ hi,List.take_length];by_cases e:newS fs s (inN fs s n r) i=true
  ·rw[if_pos ((hF i hi).2 e),if_pos e]
  ·rw[if_neg fun hm=>e ((hF i hi).1 hm),if_neg e]
def UsOf (fs:List FT)(n:Nat)(U:List (List Int)):Prop:=∀ k:Nat,k<n->∀ x:Int,x∈U.getD k []↔∃ i:Nat,∃ hf:i<fs.length,x=(i:Int)/\i<n/\(k:Int)∈fs[i].named
end
end Go.Proofs.YtlhaghoajpglaaaGreat
namespace Go.Proofs.YtlhaghoajpglaaaGreat
open Go Go.RowKit Go.Maps
structure SolI (lo gi go n:Nat)(w0 w:World)(L:List Bool)(R:List Int):Prop where
 below:Below lo w0 w
 inn:Own w lo 4 1 (.slice (some ⟨gi,0,none⟩) n n) (boC L)
 out:Own w lo 3 1 (.slice (some ⟨go,0,none⟩) n n) (ic R)
section
variable {lo gi go n : Nat} {w0 w w' : World} {L : List Bool} {R : List Int}
theorem SolI.keep (h:SolI lo gi go n w0 w L R)(hb:Below w.heap.size w w')(hl:lo<=w.heap.size):SolI lo gi go n w0 w' L R :=
 ⟨h.below.trans (hb.mono hl),h.inn.below hb,h.out.below hb⟩
end
theorem GrAt.rows {S:Nat->Prop} {w:World} {ps:List P3} {fs:List FT} {pv fv:Value} (h:GrAt S w ps fs pv fv):∃ ap cp af cf,pv = .slice ap ps.length cp/\fv = .slice af fs.length cf/\ps.length<=cp/\fs.length<=cf/\cp<=9223372036854775807/\cf<=9223372036854775807 /\
  ∀ i (hi:i<fs.length),∃ b off,∃ u:FV3,af=some ⟨b,off,none⟩/\S b/\w.cell? ⟨b,off+i*4,none⟩=some (.int .i64 fs[i].k)/\w.cell? ⟨b,off+i*4+1,none⟩=some u.1/\w.cell? ⟨b,off+i*4+2,none⟩=some u.2.1/\w.cell? ⟨b,off+i*4+3,none⟩=some u.2.2/\FTAt S w fs[i] u:=by
 obtain⟨h1,q,h2,h3,h4⟩:=h;obtain⟨ap,cp,e1,hn1,hn2,-⟩:=Sl.rows pC_length (by decide) (show Sl S w 3 pv (ps.flatMap pC)from h1);obtain⟨af,cf,e2,hn3,hn4,hc⟩:=Sl.rows fC_length (by decide) h4;have hl:q.length=fs.length:=by rw[<- h2,List.length_map]
 refine⟨ap,cp,af,cf,e1,by rw[e2,hl],hn1,by omega,hn2,hn4,fun i hi=>?_⟩;have hiq:i<q.length:=by omega
 obtain⟨b,off,rfl,hb,hc⟩:=hc (by omega);have hget:fs[i]=q[i].1:=by simp only[<- h2,List.getElem_map]
 rw[hget];exact⟨b,off,q[i].2,rfl,hb,hc i hiq 0 _ rfl,hc i hiq 1 _ rfl,hc i hiq 2 _ rfl,hc i hiq 3 _ rfl,h3 _ (List.getElem_mem hiq)⟩
def NoInt (w:World)(b:Nat):Prop:=∀ cs fr,w.heap[b]?≠some (.cells cs 3 fr)/\w.heap[b]?≠some (.cells cs 107 fr)
abbrev UK (lo:Nat) (A:Nat->Prop) (w w':World):Prop:=Kept (fun b=>b<w.heap.size/\(b<lo\/A b\/NoInt w b)) w w'
section
variable {lo : Nat} {A : Nat -> Prop} {w w' w'' : World}
theorem UK.refl (lo:Nat)(A:Nat->Prop)(w:World):UK lo A w w:=Kept.refl _ _
theorem UK.blk (h:UK lo A w w') {b:Nat} {cs:Array Value} {t:TypeId} (hb:Blk w b cs t)(h1:t≠3)(h2:t≠107):Blk w' b cs t :=
 (h.block b ⟨hb.lt,.inr (.inr fun cs' fr=>⟨fun e=>by
  rw[show w.heap[b]?=_ from hb]at e;injection e with e
  injection e with _ e _
  exact h1 e,fun e=>by
  rw[show w.heap[b]?=_ from hb]at e;injection e with e
  injection e with _ e _
  exact h2 e⟩)⟩).trans hb
end
structure UsAt (w:World)(lo ub n:Nat)(A:Nat->Prop)(U:List (List Int))(vs:List Value):Prop where
 arr:Own w lo 107 1 (.slice (some ⟨ub,0,none⟩) n n) vs
 vlen:vs.length=n
 ulen:U.length=n
 row:∀ k v,vs[k]?=some v->Own w lo 3 1 v (ic (U.getD k []))
 apart:∀ (j k:Nat) (v u:Value) (g:Nat),j≠k->vs[j]?=some v->vs[k]?=some u->v.ownBlock=some g->u.ownBlock≠some g
 off:∀ (k:Nat) (v:Value) (g:Nat),vs[k]?=some v->v.ownBlock=some g->¬ A g
section
variable {w w' w2 : World} {lo ub n k : Nat} {A : Nat -> Prop} {U : List (List Int)} {vs : List Value} {v v2 : Value} {x : Int}
end
theorem UK.below {lo:Nat} {A:Nat->Prop} {w w':World} (h:UK lo A w w')(hl:lo<=w.heap.size):Below lo w w':=Kept.below (B:=lo) h fun _b hb=>⟨Nat.lt_of_lt_of_le hb hl,.inl hb⟩
theorem UsAt.start {w:World} {lo ub n:Nat} (A:Nat->Prop)(h:Own w lo 107 1 (.slice (some ⟨ub,0,none⟩) n n) (List.replicate n (.slice none 0 0))):UsAt w lo ub n A (List.replicate n []) (List.replicate n (.slice none 0 0)) where
 arr:=h
 vlen:=List.length_replicate
 ulen:=List.length_replicate
 row k v hv:=by
  rw[List.getElem?_replicate]at hv;split at hv
  ·obtain rfl:=Option.some.inj hv;rw[show(List.replicate n ([]:List Int)).getD k []=[]from by rw[List.getD_eq_getElem?_getD,List.getElem?_replicate];split <;> rfl];exact Own.nil _ _ _ _
  ·cases hv
 apart j k v u g _ hv _ hg:=by
  rw[List.getElem?_replicate]at hv;split at hv
  ·obtain rfl:=Option.some.inj hv;cases hg
  ·cases hv
 off k v g hv hg:=by
  rw[List.getElem?_replicate]at hv;split at hv
  ·obtain rfl:=Option.some.inj hv;cases hg
  ·cases hv
structure UsTo (fs:List FT)(n i:Nat)(ks:List Int)(U:List (List Int)):Prop where
 len:U.length=n
 mem:∀ k:Nat,k<n->∀ x:Int,x∈U.getD k []↔(∃ j:Nat,∃ hf:j<fs.length,j<i/\x=(j:Int)/\j<n/\(k:Int)∈fs[j].named)\/(x=(i:Int)/\i<n/\(k:Int)∈ks)
 sum:(U.map List.length).sum<=(nmdL (fs.take i)).length+ks.length
theorem UsTo.start (fs:List FT)(n:Nat):UsTo fs n 0 [] (List.replicate n []):=by
 have h:∀ k:Nat,(List.replicate n ([]:List Int)).getD k []=[]:=fun k=>by rw[List.getD_eq_getElem?_getD,List.getElem?_replicate];split <;> rfl
 exact⟨List.length_replicate,fun k hk x=>by rw[h];simp,by rw[List.map_replicate];simp⟩
theorem UsTo.done {fs:List FT} {n:Nat} {U:List (List Int)} (h:UsTo fs n fs.length [] U):UsOf fs n U:=fun k hk x=>by
 rw[h.mem k hk x];constructor
 ·rintro(⟨j,hf,_,h1,h2,h3⟩ | ⟨_,_,h⟩)
  ·exact⟨j,hf,h1,h2,h3⟩
  ·cases h
 ·rintro⟨j,hf,h1,h2,h3⟩;exact .inl ⟨j,hf,hf,h1,h2,h3⟩
structure StAt (w:World)(lo sp gi gr ub n:Nat)(pv fv:Value)(s:P3)(L:List Bool)(R:List Int)(U:List (List Int))(vs:List Value):Prop where
 box:Blk w sp #[pv,fv,.string s.t,.string s.i,.string s.r,.slice (some ⟨gi,0,none⟩) n n,.slice (some ⟨gr,0,none⟩) n n,.slice (some ⟨ub,0,none⟩) n n] 259
 inn:Own w lo 4 1 (.slice (some ⟨gi,0,none⟩) n n) (boC L)
 rnd:Own w lo 3 1 (.slice (some ⟨gr,0,none⟩) n n) (ic R)
 use:UsAt w lo ub n (fun b=>b=gr) U vs
end Go.Proofs.YtlhaghoajpglaaaGreat
namespace Go.Proofs.YtlhaghoajpglaaaGreat
open Go Go.RowKit
theorem Own.setI {w:World} {B:Nat} {g n c:Nat} {l:List Int} (h:Own w B 3 1 (.slice (some ⟨g,0,none⟩) n c) (ic l))(k:Nat)(x:Int):Own (w.setCell ⟨g,k,none⟩ (.int .i64 x)) B 3 1 (.slice (some ⟨g,0,none⟩) n c) (ic (l.set k x)):=by
 have:=h.set1 k (.int .i64 x);rwa[show(ic l).set k (.int .i64 x)=ic (l.set k x)from by unfold ic;rw[List.map_set]]at this
end Go.Proofs.YtlhaghoajpglaaaGreat
namespace Go.Proofs.YtlhaghoajpglaaaGreat
open Go Go.RowKit Go.Maps
structure StB (lo2 sp gi gr ub:Nat)(vs:List Value):Prop where
 sp:sp<lo2
 gi:gi<lo2
 gr:gr<lo2
 ub:ub<lo2
 row:∀ (k:Nat) (v:Value) (g:Nat),vs[k]?=some v->v.ownBlock=some g->g<lo2
section
variable {w w' : World} {lo lo2 sp gi gr ub n : Nat} {pv fv : Value} {s : P3} {L : List Bool} {R : List Int} {U : List (List Int)} {vs : List Value}
theorem StAt.keep (h:StAt w lo sp gi gr ub n pv fv s L R U vs)(hb:StB lo2 sp gi gr ub vs)(hk:∀ b,b<lo2->w'.heap[b]?=w.heap[b]?):StAt w' lo sp gi gr ub n pv fv s L R U vs where
 box:=(hk _ hb.sp).trans h.box
 inn:=h.inn.keepOwn fun g hg=>hk g (by obtain rfl:gi=g:=Option.some.inj hg;exact hb.gi)
 rnd:=h.rnd.keepOwn fun g hg=>hk g (by obtain rfl:gr=g:=Option.some.inj hg;exact hb.gr)
 use:=⟨h.use.arr.keepOwn fun g hg=>hk g (by obtain rfl:ub=g:=Option.some.inj hg;exact hb.ub),h.use.vlen,h.use.ulen,fun k v hv=>(h.use.row k v hv).keepOwn fun g hg=>hk g (hb.row k v g hv hg),h.use.apart,h.use.off⟩
theorem StAt.set (h:StAt w lo sp gi gr ub n pv fv s L R U vs)(k:Nat)(x:Int):StAt ((w.setCell ⟨gi,k,none⟩ (.bool true)).setCell ⟨gr,k,none⟩ (.int .i64 x)) lo sp gi gr ub n pv fv s (L.set k true) (R.set k x) U vs:=by
 have hgg:gi≠gr:=fun e=>by
  subst e;exact h.inn.apart h.rnd (by decide) rfl rfl
 have hty:∀ {g:Nat} {cur:Array Value} {t:TypeId},w.heap[g]?=some (.cells cur t (0,0))->(t≠4->g≠gi)/\(t≠3->g≠gr):=fun {g cur t} hg=>⟨fun ht e=>by
   subst e;obtain⟨c2,h2⟩:=h.inn.typed (g:=g) rfl;rw[hg]at h2;injection h2 with h2
   injection h2 with _ h2 _
   exact ht h2,fun ht e=>by
   subst e;obtain⟨c2,h2⟩:=h.rnd.typed (g:=g) rfl;rw[hg]at h2;injection h2 with h2
   injection h2 with _ h2 _
   exact ht h2⟩
 have hst:∀ b,b≠gi->b≠gr->((w.setCell ⟨gi,k,none⟩ (.bool true)).setCell ⟨gr,k,none⟩ (.int .i64 x)).heap[b]?=w.heap[b]?:=fun b h1 h2=>by
  rw[Below.heap_setCell _ _ _ _ h2,Below.heap_setCell _ _ _ _ h1]
 refine⟨(hst sp ((hty h.box).1 (by decide)) ((hty h.box).2 (by decide))).trans h.box,?_,?_,?_⟩
 ·have h1:=h.inn.set1 k (.bool true);rw[show(boC L).set k (.bool true)=boC (L.set k true)from by unfold boC;rw[List.map_set]]at h1;exact h1.keepOwn fun g hg=>Below.heap_setCell _ _ _ _ (by obtain rfl:gi=g:=Option.some.inj hg;exact hgg)
 ·have h1:Own (w.setCell ⟨gi,k,none⟩ (.bool true)) lo 3 1 (.slice (some ⟨gr,0,none⟩) n n) (ic R):=h.rnd.keepOwn fun g hg=>Below.heap_setCell _ _ _ _ (by obtain rfl:gr=g:=Option.some.inj hg;exact fun e=>hgg e.symm);exact h1.setI k x
 ·refine⟨h.use.arr.keepOwn fun g hg=>?_,h.use.vlen,h.use.ulen,fun k v hv=>(h.use.row k v hv).keepOwn fun g hg=>?_,h.use.apart,h.use.off⟩
  ·obtain⟨cur,h2⟩:=h.use.arr.typed hg;exact hst g ((hty h2).1 (by decide)) ((hty h2).2 (by decide))
  ·obtain⟨cur,h2⟩:=(h.use.row k v hv).typed hg;exact hst g ((hty h2).1 (by decide)) (h.use.off k v g hv hg)
end
theorem Below.put6 {B:Nat} {w W:World} {x:Nat} (h:Below B w W)(hx:B<=x)(x0 x1 x2 x3 x4 x5:Value):Below B w ((((((W.setCell ⟨x,0,none⟩ x0).setCell ⟨x,1,none⟩ x1).setCell ⟨x,2,none⟩ x2).setCell ⟨x,3,none⟩ x3).setCell ⟨x,4,none⟩ x4).setCell ⟨x,5,none⟩ x5) :=
 Below.setCell (Below.setCell (Below.setCell (Below.setCell (Below.setCell (Below.setCell h (p:=⟨x,0,none⟩) hx _) (p:=⟨x,1,none⟩) hx _) (p:=⟨x,2,none⟩) hx _) (p:=⟨x,3,none⟩) hx _) (p:=⟨x,4,none⟩) hx _) (p:=⟨x,5,none⟩) hx _
theorem Ext.put6 {w W:World} {x:Nat} (h:Ext w W)(hx:w.heap.size<=x)(x0 x1 x2 x3 x4 x5:Value):Ext w ((((((W.setCell ⟨x,0,none⟩ x0).setCell ⟨x,1,none⟩ x1).setCell ⟨x,2,none⟩ x2).setCell ⟨x,3,none⟩ x3).setCell ⟨x,4,none⟩ x4).setCell ⟨x,5,none⟩ x5):=Below.put6 h hx _ _ _ _ _ _
def cutW (w:World)(n:Nat):World := {w with heap:=w.heap.extract 0 n}
theorem cutW_size {w:World} {n:Nat} (h:n<=w.heap.size):(cutW w n).heap.size=n:=by simp[cutW];omega
theorem cutW_at {w:World} {n b:Nat} (h:n<=w.heap.size)(hb:b<n):w.heap[b]?=(cutW w n).heap[b]?:=by
 simp only[cutW,Array.getElem?_extract,Nat.sub_zero,Nat.zero_add];rw[if_pos (by omega)]
theorem cutW_ext {w:World} {n:Nat} (h:n<=w.heap.size):Ext (cutW w n) w:=⟨rfl,rfl,rfl,by rw[cutW_size h];exact h,fun b hb=>cutW_at h (by rwa[cutW_size h]at hb)⟩
set_option maxRecDepth 100000 in
set_option maxHeartbeats 1000000 in
theorem treeB_any (ts:List TyS)(tv fv sv:Value)(p:P3)(dv:Value)(most:Int)(w:World)(h:TysAt (· < w.heap.size) w ts tv)(hok:∀ t∈ts,t.Ok)(hc:chk06 ts≠0)(hsB:schB ts<=549755813888)(hsz:∀ t∈ts,∀ r∈t.rels,r.2.sz<=1000000)(hln:(namesOf ts).length<=1099511627776)(hlr:(refsOf ts).length<=1099511627776) :
  Calls Tryz.prog 19 #[.agg #[tv],fv,sv,pV p,dv,.int .i64 most] w fun e w'=>Ext w w'/\e = .returned (.tuple #[.agg #[.int .i64 0,.string ⟨#[]⟩,.string ⟨#[]⟩,.string ⟨#[]⟩,.slice none 0 0,.slice none 0 0],.int .i64 (chk06 ts)]):=by
 obtain⟨ao,c,rfl,-⟩:=h.rows;obtain⟨pt,pi,pr⟩:=p;obtain⟨wa,hwa⟩:∃ x,x=w.alloc (.cells #[.slice ao ts.length c] 26):=⟨_,rfl⟩;obtain⟨wb,hwb⟩:∃ x,x=wa.alloc (.cells #[.string pt,.string pi,.string pr] 32):=⟨_,rfl⟩;obtain⟨wc,hwc⟩:∃ x,x=wb.alloc (.cells #[.int .i64 0,.string ⟨#[]⟩,.string ⟨#[]⟩,.string ⟨#[]⟩,.slice none 0 0,.slice none 0 0] 45):=⟨_,rfl⟩;have ea:wa.heap.size=w.heap.size+1:=by rw[hwa];simp
 have eb:wb.heap.size=w.heap.size+2:=by rw[hwb];simp[ea]
 have ec:wc.heap.size=w.heap.size+3:=by rw[hwc];simp[eb]
 have xa:Ext w wa:=by rw[hwa];exact Ext.alloc _ _
 have xb:Ext wa wb:=by rw[hwb];exact Ext.alloc _ _
 have xc:Ext wb wc:=by rw[hwc];exact Ext.alloc _ _
 have XC:=h! (show Ext w wc from xa.trans (xb.trans xc));have CZ:=h! ec;have CS:=h! (show Blk wc w.heap.size #[.slice ao ts.length c] 26 from Blk.below (by rw[hwa];exact Blk.made _ _ _) (xb.trans xc));have CP:=h! (show Blk wc (w.heap.size+1) #[.string pt,.string pi,.string pr] 32 from Blk.below (by rw[hwb,<- ea];exact Blk.made _ _ _) xc);have CG:=h! (show Blk wc (w.heap.size+2) #[.int .i64 0,.string ⟨#[]⟩,.string ⟨#[]⟩,.string ⟨#[]⟩,.slice none 0 0,.slice none 0 0] 45 from by rw[hwc,<- eb];exact Blk.made _ _ _);have CT:=h! (h.up XC.out);obtain⟨q,hq,hq0⟩:∃ q,chk06 ts=q/\(q == 0)=false:=⟨_,rfl,by simpa using hc⟩;have hq1:(q != 0)=true:=by simpa using hq0
 have HCK:=h! (show Calls Tryz.prog 74 #[.agg #[.slice ao ts.length c]] wc fun e w'=>e = .returned (.int .i64 q)/\Below wc.heap.size wc w' from by
  have h1:=checkP_any ts (.slice ao ts.length c) wc CT.out hok hsB hsz hln hlr;rw[hq]at h1;exact h1)
 rw[hq];clear h hok hc hsB hsz hln hlr ea eb ec xa xb xc;subst hwc hwb hwa;have cs0:=CS.out.cells;unfold pV;go_enter Tryz.func19,Tryz.ntmps19
 go_wp2_with fail
 refine HCK.out.mono ?_;rintro e w2 ⟨rfl,hx2⟩;have X2:=h! (show Ext w w2 from XC.out.trans hx2);have G2:=h! (CG.out.below hx2);have cg:=G2.out.cells;have cf:=G2.out.free;clear cs0 HCK hx2 XC CZ CS CG CT;go_wp2_with fail
 clear cg cf;refine bodyPost_ret (v := .tuple #[.agg #[.int .i64 0,.string ⟨#[]⟩,.string ⟨#[]⟩,.string ⟨#[]⟩,.slice none 0 0,.slice none 0 0],.int .i64 q]) ?_ rfl ⟨X2.out.put6 (by omega) _ _ _ _ _ _,rfl⟩;rw[results_cell_tmp rfl];have hl:=run_loadVar_row (P:=Tryz.prog) _ (w.heap.size+2) _ 45 _ _ _ (G2.out.setN6 (.int .i64 0) (.string ⟨#[]⟩) (.string ⟨#[]⟩) (.string ⟨#[]⟩) (.slice none 0 0) (.slice none 0 0)) Tryz.underlying45 rfl (by kernel_rfl);simp[asAddr,hl,Result.andThen]
set_option maxRecDepth 100000 in
set_option maxHeartbeats 1000000 in
theorem treeNil_any (ts:List TyS)(tv sv:Value)(p:P3)(dv:Value)(most:Int)(w:World)(h:TysAt (· < w.heap.size) w ts tv)(hok:∀ t∈ts,t.Ok)(hc:chk06 ts=0)(hsB:schB ts<=549755813888)(hsz:∀ t∈ts,∀ r∈t.rels,r.2.sz<=1000000)(hln:(namesOf ts).length<=1099511627776)(hlr:(refsOf ts).length<=1099511627776) :
  Calls Tryz.prog 19 #[.agg #[tv],.nilIface,sv,pV p,dv,.int .i64 most] w fun e w'=>Ext w w'/\e = .returned (.tuple #[.agg #[.int .i64 0,.string ⟨#[]⟩,.string ⟨#[]⟩,.string ⟨#[]⟩,.slice none 0 0,.slice none 0 0],.int .i64 1]):=by
 obtain⟨ao,c,rfl,-⟩:=h.rows;obtain⟨pt,pi,pr⟩:=p;obtain⟨wa,hwa⟩:∃ x,x=w.alloc (.cells #[.slice ao ts.length c] 26):=⟨_,rfl⟩;obtain⟨wb,hwb⟩:∃ x,x=wa.alloc (.cells #[.string pt,.string pi,.string pr] 32):=⟨_,rfl⟩;obtain⟨wc,hwc⟩:∃ x,x=wb.alloc (.cells #[.int .i64 0,.string ⟨#[]⟩,.string ⟨#[]⟩,.string ⟨#[]⟩,.slice none 0 0,.slice none 0 0] 45):=⟨_,rfl⟩;have ea:wa.heap.size=w.heap.size+1:=by rw[hwa];simp
 have eb:wb.heap.size=w.heap.size+2:=by rw[hwb];simp[ea]
 have ec:wc.heap.size=w.heap.size+3:=by rw[hwc];simp[eb]
 have xa:Ext w wa:=by rw[hwa];exact Ext.alloc _ _
 have xb:Ext wa wb:=by rw[hwb];exact Ext.alloc _ _
 have xc:Ext wb wc:=by rw[hwc];exact Ext.alloc _ _
 have XC:=h! (show Ext w wc from xa.trans (xb.trans xc));have CZ:=h! ec;have CS:=h! (show Blk wc w.heap.size #[.slice ao ts.length c] 26 from Blk.below (by rw[hwa];exact Blk.made _ _ _) (xb.trans xc));have CP:=h! (show Blk wc (w.heap.size+1) #[.string pt,.string pi,.string pr] 32 from Blk.below (by rw[hwb,<- ea];exact Blk.made _ _ _) xc);have CG:=h! (show Blk wc (w.heap.size+2) #[.int .i64 0,.string ⟨#[]⟩,.string ⟨#[]⟩,.string ⟨#[]⟩,.slice none 0 0,.slice none 0 0] 45 from by rw[hwc,<- eb];exact Blk.made _ _ _);have CT:=h! (h.up XC.out)
 have HCK:=h! (show Calls Tryz.prog 74 #[.agg #[.slice ao ts.length c]] wc fun e w'=>e = .returned (.int .i64 0)/\Below wc.heap.size wc w' from by
  have h1:=checkP_any ts (.slice ao ts.length c) wc CT.out hok hsB hsz hln hlr;rw[hc]at h1;exact h1)
 clear h hok hc hsB hsz hln hlr ea eb ec xa xb xc;subst hwc hwb hwa;have cs0:=CS.out.cells;unfold pV;go_enter Tryz.func19,Tryz.ntmps19
 go_wp2_with fail
 refine HCK.out.mono ?_;rintro e w2 ⟨rfl,hx2⟩;have X2:=h! (show Ext w w2 from XC.out.trans hx2);have G2:=h! (CG.out.below hx2);have cg:=G2.out.cells;have cf:=G2.out.free;clear cs0 HCK hx2 XC CZ CS CG CT;go_wp2_with fail
 clear cg cf;refine bodyPost_ret (v := .tuple #[.agg #[.int .i64 0,.string ⟨#[]⟩,.string ⟨#[]⟩,.string ⟨#[]⟩,.slice none 0 0,.slice none 0 0],.int .i64 1]) ?_ rfl ⟨X2.out.put6 (by omega) _ _ _ _ _ _,rfl⟩;rw[results_cell_tmp rfl];have hl:=run_loadVar_row (P:=Tryz.prog) _ (w.heap.size+2) _ 45 _ _ _ (G2.out.setN6 (.int .i64 0) (.string ⟨#[]⟩) (.string ⟨#[]⟩) (.string ⟨#[]⟩) (.slice none 0 0) (.slice none 0 0)) Tryz.underlying45 rfl (by kernel_rfl);simp[asAddr,hl,Result.andThen]
set_option maxRecDepth 100000 in
set_option maxHeartbeats 2000000 in
theorem tree_any (ts:List TyS)(tv:Value)(b:Nat)(T:List Tup)(shut:List R2)(sv:Value)(p:P3)(d:Nat)(most:Int)(w:World)(h:TysAt (· < w.heap.size) w ts tv)(hok:∀ t∈ts,t.Ok)(hc:chk06 ts=0)(hsB:schB ts<=549755813888)(hsz:∀ t∈ts,∀ r∈t.rels,r.2.sz<=1000000)(hln:(namesOf ts).length<=1099511627776)(hlr:(refsOf ts).length<=1099511627776)
  (hbk:BookAt w b T) (hsv:Sl (· < w.heap.size) w 2 sv (shut.flatMap r2C)) (hso:∀ r∈shut,r.Ok) (hp:p.Ok) (hsub:∀ t∈T,t.s.Ok) (hnd:T.Nodup) (hT:T.length<=1000000) (hrs:∀ x∈refsOf ts,x.2.Ok) (hd:d<=8) (hm:most<=1000000) :
  Calls Tryz.prog 19 #[.agg #[tv],bkV b,sv,pV p,.int .i64 d,.int .i64 most] w fun e w'=>Ext w w'/\((((treeE ts T shut d p).sz:Int)<=most/\∃ a b:Value,e = .returned (.tuple #[nV2 (treeE ts T shut d p) (a,b),.int .i64 0])/\NtAt (NS w.heap.size w') w' (treeE ts T shut d p) (a,b)) \/
   (most<((treeE ts T shut d p).sz:Int)/\e = .returned (.tuple #[.agg #[.int .i64 0,.string ⟨#[]⟩,.string ⟨#[]⟩,.string ⟨#[]⟩,.slice none 0 0,.slice none 0 0],.int .i64 10]))):=by
 obtain⟨ao,c,rfl,-⟩:=h.rows;obtain⟨so,sc,rfl,hs1,hs2,-⟩:=Sl.rows r2C_length (by decide) hsv;have HSH:=h! (show shut.length<=9223372036854775807 from by omega);have HOKT:=h! hok;have HLR:=h! hlr;have HU:=h! (chk_uniq hc);have HSO:=h! hso;have HPO:=h! hp;have HRS:=h! hrs;have HTS:=h! (And.intro hsub (And.intro hnd hT));have HD:=h! hd;have HM:=h! hm;generalize hte:treeE ts T shut d p=te;have HTE:=h! hte;clear hte;obtain⟨pt,pi,pr⟩:=p;obtain⟨wa,hwa⟩:∃ x,x=w.alloc (.cells #[.slice ao ts.length c] 26):=⟨_,rfl⟩;obtain⟨wb,hwb⟩:∃ x,x=wa.alloc (.cells #[.string pt,.string pi,.string pr] 32):=⟨_,rfl⟩;obtain⟨wc,hwc⟩:∃ x,x=wb.alloc (.cells #[.int .i64 0,.string ⟨#[]⟩,.string ⟨#[]⟩,.string ⟨#[]⟩,.slice none 0 0,.slice none 0 0] 45):=⟨_,rfl⟩;have ea:wa.heap.size=w.heap.size+1:=by rw[hwa];simp
 have eb:wb.heap.size=w.heap.size+2:=by rw[hwb];simp[ea]
 have ec:wc.heap.size=w.heap.size+3:=by rw[hwc];simp[eb]
 have xa:Ext w wa:=by rw[hwa];exact Ext.alloc _ _
 have xb:Ext wa wb:=by rw[hwb];exact Ext.alloc _ _
 have xc:Ext wb wc:=by rw[hwc];exact Ext.alloc _ _
 have XC:=h! (show Ext w wc from xa.trans (xb.trans xc));have CZ:=h! ec;have CS:=h! (show Blk wc w.heap.size #[.slice ao ts.length c] 26 from Blk.below (by rw[hwa];exact Blk.made _ _ _) (xb.trans xc));have CP:=h! (show Blk wc (w.heap.size+1) #[.string pt,.string pi,.string pr] 32 from Blk.below (by rw[hwb,<- ea];exact Blk.made _ _ _) xc);have CG:=h! (show Blk wc (w.heap.size+2) #[.int .i64 0,.string ⟨#[]⟩,.string ⟨#[]⟩,.string ⟨#[]⟩,.slice none 0 0,.slice none 0 0] 45 from by rw[hwc,<- eb];exact Blk.made _ _ _);have CT:=h! (h.up XC.out)
 have HCK:=h! (show Calls Tryz.prog 74 #[.agg #[.slice ao ts.length c]] wc fun e w'=>e = .returned (.int .i64 0)/\Below wc.heap.size wc w' from by
  have h1:=checkP_any ts (.slice ao ts.length c) wc CT.out hok hsB hsz hln hlr;rw[hc]at h1;exact h1)
 have CK:=h! (hbk.ext XC.out);have CV:=h! ((hsv.same (Same.below XC.out)).mono (T:=fun x=>x<wc.heap.size) fun x hx=>Nat.lt_of_lt_of_le hx XC.out.size);have hd1:¬ ((d:Int)<0):=by omega
 have hd2:¬ ((d:Int) > 8):=by omega
 clear h hok hc hsB hsz hln hlr hbk hsv hso hp hsub hnd hT hrs hd hm ea eb ec xa xb xc hs1 hs2;subst hwc hwb hwa;have cs0:=CS.out.cells;unfold pV;have hq:∀ W,(binOp BinOp.eql 139 (bkV b) .nilIface).run Tryz.prog W = .ok (.bool false) W:=fun _=>by kernel_rfl
 go_enter Tryz.func19,Tryz.ntmps19
 go_wp2_with fail
 refine HCK.out.mono ?_;rintro e w2 ⟨rfl,hx2⟩;have X2:=h! (show Ext w w2 from XC.out.trans hx2);have Z2:=h! (show w.heap.size+3<=w2.heap.size from by have:=CZ.out;have:=hx2.size;omega);have S2:=h! (CS.out.below hx2);have P2:=h! (CP.out.below hx2);have G2:=h! (CG.out.below hx2);have T2:=h! (CT.out.up hx2);have K2:=h! (CK.out.ext hx2);have V2:=h! ((CV.out.same (Same.below hx2)).mono (T:=fun x=>x<w2.heap.size) fun x hx=>Nat.lt_of_lt_of_le hx hx2.size);clear cs0 HCK hx2 XC CZ CS CP CG CT CK CV;obtain⟨w3,hw3⟩:∃ x,x=w2.alloc (.map #[] 0):=⟨_,rfl⟩;obtain⟨w5,hw5⟩:∃ x,x=w3.alloc (.cells #[.slice ao ts.length c,bkV b,.map (some w2.heap.size),.int .i64 (max most 0),.int .i64 0] 143):=⟨_,rfl⟩;have e3:w3.heap.size=w2.heap.size+1:=by rw[hw3];simp
 have e5:w5.heap.size=w2.heap.size+2:=by rw[hw5];simp[e3]
 have x3:Ext w2 w3:=by rw[hw3];exact Ext.alloc _ _
 have x5:Ext w3 w5:=by rw[hw5];exact Ext.alloc _ _
 have X5:=h! (show Below w2.heap.size w2 w5 from x3.trans x5);have Z5:=h! e5;have M5:=h! (show Mp Tryz.prog 121 r2V bV w5 w2.heap.size (shutM [])from Mp.below (by rw[hw3];exact Mp.made _) x5);have W5:=h! (show Blk w5 (w2.heap.size+1) (BdC (.slice ao ts.length c) (bkV b) (.map (some w2.heap.size)) (max most 0) 0) 143 from by rw[hw5,<- e3];exact Blk.made _ _ _);clear e3 e5 x3 x5;have hmm:=@run_makeMap Tryz.prog;have cs2:=S2.out.cells;subst hw5 hw3;go_wp2_with fail
 clear cs2 hmm hq hd1 hd2;obtain⟨w5,hw5⟩:∃ x,x=(w2.alloc (.map #[] 0)).alloc (.cells #[.slice ao ts.length c,bkV b,.map (some w2.heap.size),.int .i64 (max most 0),.int .i64 0] 143):=⟨_,rfl⟩;rw[<- hw5]at X5 Z5 M5 W5 ⊢;clear hw5;go_loopw [45] (fun iv wr=>∃ i:Nat,i<=shut.length/\iv = .int .i64 i/\Blk wr (w2.heap.size+1) (BdC (.slice ao ts.length c) (bkV b) (.map (some w2.heap.size)) (max most 0) 0) 143/\Mp Tryz.prog 121 r2V bV wr w2.heap.size (shutM (shut.take i))/\Below w2.heap.size w2 wr/\w2.heap.size+2<=wr.heap.size) (fun iv _=>shut.length-(intOf iv).toNat)
 case atStart=>exact⟨0,Nat.zero_le _,rfl,W5.out,M5.out,X5.out,Nat.le_of_eq Z5.out.symm⟩
 case round =>
  obtain⟨i,hi,rfl,hwk,hmp,hbl,hzz⟩:=hrel;have RW:=h! hwk;have RM:=h! hmp;have RB:=h! hbl;have RZ:=h! hzz;clear W5 M5 X5 Z5 hwk hmp hbl hzz;by_cases hlt:i<shut.length
  ·obtain⟨ao',c',he',-,-,hcell⟩:=Sl.rows r2C_length (by decide) (V2.out.same (w':=wr) fun x hx=>RB.out.block x hx);cases he';obtain⟨bq,oq,rfl,-,hcell⟩:=hcell (by omega);have d0:wr.cell? ⟨bq,oq+i*2,none⟩=some (.string shut[i].t):=hcell i hlt 0 _ rfl;have d1:wr.cell? ⟨bq,oq+i*2+1,none⟩=some (.string shut[i].r):=hcell i hlt 1 _ rfl;have HTK:=h! (shut_take hlt);have HOR:=h! (HSO.out shut[i] (List.getElem_mem hlt));generalize shut[i]=r at *;have HLT:=h! hlt;obtain⟨rt,rr⟩:=r;dsimp only at d0 d1;clear hcell hi hlt;have hlt2:(i:Int)<(shut.length:Int):=by have:=HLT.out;omega
   go_wp2_with fail
   clear d0 d1 hlt2;obtain⟨wd,hwd⟩:∃ wd,wd=(wr.alloc (.cells #[.string rt,.string rr] 121)).drew:=⟨_,rfl⟩;have DX:=h! (show Ext wr wd from by rw[hwd];exact(Ext.alloc _ _).trans (Ext.drew _));have DR:=h! (show Blk wd wr.heap.size #[.string rt,.string rr] 121 from by rw[hwd];exact(Blk.made _ _ _).drew);have DW:=h! (RW.out.below DX.out);have DM:=h! (RM.out.below DX.out);have DB:=h! (show Below w2.heap.size w2 wd from RB.out.trans (DX.out.mono (by have:=RZ.out;omega)));have DZ:=h! (show w2.heap.size+2<=wd.heap.size from Nat.le_trans RZ.out DX.out.size);refine region_walkN (Kept (· ≠ w2.heap.size) wd) (by rw[<- hwd];exact Kept.refl _ _) (by kernel_rfl) (by kernel_rfl) (fun _ _ d _ _ h=>by cases d <;> exact h) ?_;rw[<- hwd];clear hwd RW RM DX;have h1:=fun W (h:Kept (· ≠ w2.heap.size) wd W)=>(h.blk DW.out (by show w2.heap.size+1≠w2.heap.size;omega)).cells;have h2:=fun W (h:Kept (· ≠ w2.heap.size) wd W)=>(h.blk DR.out (by show wr.heap.size≠w2.heap.size;have:=RZ.out;omega)).cells;unfold BdC at h1;(refine WalkN.tk [0,1,2,3,4] ?_;(iterate 5 ((refine TkN.c _ ?_ (by simp only[gA,gS,gZ];rfl) (by kernel_rfl) (by kernel_rfl) (by rfl) (fun W hW=>?_) ?_;rotate_left;· (go_simp;try with_reducible rfl));simp only[Act.put,pA,pZ,pS]));refine TkN.n ?_)
   clear h1 h2;obtain⟨wf,hrun,hMf,hTf⟩:=DM.out.store refK r2V_inj Tryz.underlying141 (ref_key ⟨rt,rr⟩ HOR.out) true;have FM:=h! hMf;unfold r2V bV at hrun;dsimp only at hrun;refine WalkN.one 5 (by kernel_rfl) ?_;refine⟨_,(by simp only[gA,gS,gZ];rfl),by rfl,fun K hK=>?_⟩;go_simp;refine hK.out _ _ hTf.kept ?_;clear hK hrun hMf;refine WalkN.done (by kernel_rfl) ?_;have FW:=h! (show Blk wf (w2.heap.size+1) _ _ from hTf.kept.blk DW.out (by show w2.heap.size+1≠w2.heap.size;omega));have FB:=h! (show Below w2.heap.size w2 wf from DB.out.trans (hTf.below (Nat.le_refl _)));have FZ:=h! (show w2.heap.size+2<=wf.heap.size from by rw[hTf.size];exact DZ.out);clear hTf DW DM DB DR;have hsh:=HSH.out;have hil:=HLT.out;go_wp2_with fail
   go_roundw
   case rel=>exact⟨i+1,HLT.out,by go_num,FW.out,by rw[HTK.out];exact FM.out,FB.out,FZ.out⟩
   case measure=>have:=HLT.out;simp[intOf];omega
  ·obtain rfl:i=shut.length:=by omega
   have HTA:=h! (show shut.take shut.length=shut from List.take_length);rw[HTA.out]at RM;have hz:w2.heap.size+1<=wr.heap.size:=by have:=RZ.out;omega
   have HCS:=h! (cutW_size hz);have HCX:=h! (cutW_ext hz);have HCE:=h! (fun x (hx:x<w2.heap.size)=>show(cutW wr (w2.heap.size+1)).heap[x]?=w2.heap[x]? from(cutW_at hz (by omega)).symm.trans (RB.out.block x hx))
   have HST:=h! (show BdSt (cutW wr (w2.heap.size+1)) (w2.heap.size+1) b w2.heap.size ts (.slice ao ts.length c) T shut from
    ⟨HCS.out,(T2.out.same fun x hx=>HCE.out x hx).mono fun x hx=>by rw[HCS.out];omega,K2.out.ext ⟨RB.out.os,RB.out.tape,RB.out.output,by rw[HCS.out];omega,HCE.out⟩,RM.out.same (cutW_at hz (by omega)).symm,HOKT.out,HU.out,HLR.out,HTS.out.1,HTS.out.2.1,HTS.out.2.2⟩)
   have HPT:=h! (point_any HST.out HRS.out d (by have:=HD.out;omega) ⟨pt,pi,pr⟩ (max most 0) wr HPO.out HCX.out RW.out (by omega) (by have:=HM.out;omega));have HSZ:=h! te.sz_pos;rw[HTE.out]at HPT;have RX:=h! (show Ext w wr from X2.out.trans (RB.out:Ext w2 wr));have pp:=(show Blk wr (w.heap.size+1) _ _ from P2.out.below (RB.out:Ext w2 wr)).cells;have RG:=h! (show Blk wr (w.heap.size+2) _ _ from G2.out.below (RB.out:Ext w2 wr));unfold pV at HPT;dsimp only at HPT;clear hi hlt HTA HST HCE HCX HCS RM S2 G2 P2 T2 K2 V2;go_wp2_with fail
   clear pp;refine HPT.out.mono ?_;rintro e w5 ⟨nt,v2,L2,e2,rfl,hnt,hbd2,hk2,hE2⟩;obtain⟨a1,d1,a4,d4,rfl⟩:=hnt.shape;unfold nV2;dsimp only;obtain⟨w6,hw6⟩:∃ x,x=w5.alloc (.cells #[.int .i64 nt.k,.string nt.p.t,.string nt.p.i,.string nt.p.r,.slice a1 nt.subs.length d1,.slice a4 nt.ps.length d4] 45):=⟨_,rfl⟩;have x6:Ext w5 w6:=by rw[hw6];exact Ext.alloc _ _
   have N6:=h! (show Blk w6 w5.heap.size _ _ from by rw[hw6];exact Blk.made _ _ _);have O6:=h! (show Blk w6 (w.heap.size+2) _ _ from Blk.below ((hk2.block _ ⟨RG.out.lt,by have:=Z2.out;omega⟩).trans RG.out) x6);have D6:=h! (hbd2.below x6);have HE:=h! hE2;have XE:=h! (show Ext w w6 from Ext.trans ⟨hk2.os.trans RX.out.os,hk2.tape.trans RX.out.tape,hk2.output.trans RX.out.output,Nat.le_trans RX.out.size hk2.size,fun b hb=>(hk2.block b ⟨Nat.lt_of_lt_of_le hb RX.out.size,by have:=Z2.out;omega⟩).trans (RX.out.block b hb)⟩ x6);have HNT:=h! (show NtAt (NS wr.heap.size w6) w6 nt (.slice a1 nt.subs.length d1,.slice a4 nt.ps.length d4)from(hnt.same fun b hb=>x6.block b hb.2.1).mono fun b hb=>hb.keep (x6.block b hb.2.1) (Nat.le_refl _) x6.size);have n6:=N6.out.cells;have o6:=O6.out.cells;have f6:=O6.out.free;have b6:=D6.out.cells;have HZ:=h! (show w.heap.size+3<=wr.heap.size from by have:=Z2.out;have:=RZ.out;omega);unfold BdC at b6;clear hnt hbd2 hk2 hE2 HPT x6 RG RX RW RB;subst hw6;by_cases hL:(te.sz:Int)<=most
   ·obtain⟨rfl,-,rfl⟩:=HE.out.1 (by omega);have HSH:=h! hL;clear hL;go_wp2_with fail
    clear n6 o6 f6 b6;refine bodyPost_ret (v := .tuple #[.agg #[.int .i64 nt.k,.string nt.p.t,.string nt.p.i,.string nt.p.r,.slice a1 nt.subs.length d1,.slice a4 nt.ps.length d4],.int .i64 0]) ?_ rfl ⟨XE.out.put6 (by omega) _ _ _ _ _ _,.inl ⟨HSH.out,_,_,rfl,?_⟩⟩
    ·rw[results_cell_tmp rfl];have hl:=run_loadVar_row (P:=Tryz.prog) _ (w.heap.size+2) _ 45 _ _ _ (O6.out.setN6 (.int .i64 nt.k) (.string nt.p.t) (.string nt.p.i) (.string nt.p.r) (.slice a1 nt.subs.length d1) (.slice a4 nt.ps.length d4)) Tryz.underlying45 rfl (by kernel_rfl);simp[asAddr,hl,Result.andThen]
    ·exact(HNT.out.same fun b hb=>put6_other _ _ _ _ _ _ (by have:=hb.1;have:=HZ.out;omega)).mono fun b hb=>hb.keep (put6_other _ _ _ _ _ _ (by have:=hb.1;have:=HZ.out;omega)) (by have:=HZ.out;omega) (by simp)
   ·obtain rfl:=HE.out.2 (by have:=HSZ.out;omega);have HLG:=h! (show most<(te.sz:Int)from by omega);clear hL;go_wp2_with fail
    obtain⟨w6,hw6⟩:∃ x,x=w5.alloc (.cells #[.int .i64 nt.k,.string nt.p.t,.string nt.p.i,.string nt.p.r,.slice a1 nt.subs.length d1,.slice a4 nt.ps.length d4] 45):=⟨_,rfl⟩;rw[<- hw6]at O6 D6 XE ⊢;clear hw6 n6 o6 f6 b6;obtain⟨wd,hwd⟩:∃ wd,Hid (wd=w6.drew):=⟨_,h! rfl⟩;have hxd:=h! (show Ext w6 wd from by rw[hwd.out];exact Ext.drew _);have DO:=h! (O6.out.below hxd.out);have DD:=h! (D6.out.below hxd.out);refine region_walkN (fun W=>Blk W (w2.heap.size+1) _ 143) (by rw[<- hwd.out];exact DD.out) (by kernel_rfl) (by kernel_rfl) (fun _ _ d _ _ h=>by cases d <;> exact h) ?_;rw[<- hwd.out];have h1:=fun W (h:Blk W (w2.heap.size+1) (BdC (.slice ao ts.length c) (bkV b) (.map (some w2.heap.size)) L2 10) 143)=>h.cells;unfold BdC at h1;(refine WalkN.tk [0,1,2,3,4] ?_;(iterate 5 ((refine TkN.c _ ?_ (by simp only[gA,gS,gZ];rfl) (by kernel_rfl) (by kernel_rfl) (by rfl) (fun W hW=>?_) ?_;rotate_left;· (go_simp;try with_reducible rfl));simp only[Act.put,pA,pZ,pS]));refine TkN.n ?_)
    clear h1;have o6:=DO.out.cells;have f6:=DO.out.free;refine WalkN.one 5 (by kernel_rfl) ?_;refine⟨_,(by simp only[gA,gS,gZ];rfl),by rfl,fun K hK=>?_⟩;go_simp;refine hK.out _ _ ((put6_other _ _ _ _ _ _ (by have:=Z2.out;omega)).trans DD.out) ?_;clear hK o6 f6;((refine WalkN.take 6 _ ?_ (by simp only[gA,gS,gZ];rfl) (by kernel_rfl) (by kernel_rfl) (by rfl) (fun W hW=>?_) ?_;rotate_left;· (go_simp;try with_reducible rfl));simp only[Act.put,pA,pZ,pS])
    refine WalkN.done (by kernel_rfl) ?_;go_wp2_with fail
    refine bodyPost_ret (v := .tuple #[.agg #[.int .i64 0,.string ⟨#[]⟩,.string ⟨#[]⟩,.string ⟨#[]⟩,.slice none 0 0,.slice none 0 0],.int .i64 10]) ?_ rfl ⟨(XE.out.trans hxd.out).put6 (by omega) _ _ _ _ _ _,.inr ⟨HLG.out,rfl⟩⟩;rw[results_cell_tmp rfl];have hl:=run_loadVar_row (P:=Tryz.prog) _ (w.heap.size+2) _ 45 _ _ _ (DO.out.setN6 (.int .i64 0) (.string ⟨#[]⟩) (.string ⟨#[]⟩) (.string ⟨#[]⟩) (.slice none 0 0) (.slice none 0 0)) Tryz.underlying45 rfl (by kernel_rfl);simp[asAddr,hl,Result.andThen]
end Go.Proofs.YtlhaghoajpglaaaGreat
