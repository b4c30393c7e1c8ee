/- Lemmas for the claim, no condition. -/
import Derived.Test.YtjdigpfipmckhaaGreatYXTrees6
import Derived.Test.YtjdigpfipmckhaaGreatYXTrees4
import Derived.Test.YtjdigpfipmckhaaGreatYXTrees1
import Derived.Test.YtjdigpfipmckhaaGreatYXTrees0
import Derived.Test.YtjdigpfipmckhaaGreatYXTrees3
import Derived.Test.YtjdigpfipmckhaaGreatYXTrees5
import Derived.Test.YtjdigpfipmckhaaGreatYXTrees11
import Derived.Test.YtjdigpfipmckhaaGreatYXTrees9
namespace Go.Proofs.YtjdigpfipmckhaaGreat
open Go Go.RowKit Go.Maps
theorem p3_neq (a b:P3)(W:World):(binOp BinOp.neq 30 (pV a) (pV b)).run Tryz.prog W = .ok (.bool (decide (a≠b))) W:=by
 obtain⟨a1,a2,a3⟩:=a;obtain⟨b1,b2,b3⟩:=b;unfold pV;dsimp only;go_simp;simp only[ba_toList];by_cases h1:a1=b1 <;> by_cases h2:a2=b2 <;> by_cases h3:a3=b3 <;> simp[h1,h2,h3]
theorem sub_eql (a b:P3)(W:World):(binOp BinOp.eql 63 (pV a) (pV b)).run Tryz.prog W = .ok (.bool (decide (a=b))) W:=by
 obtain⟨a1,a2,a3⟩:=a;obtain⟨b1,b2,b3⟩:=b;unfold pV;dsimp only;go_simp;simp only[ba_toList];by_cases h1:a1=b1 <;> by_cases h2:a2=b2 <;> by_cases h3:a3=b3 <;> simp[h1,h2,h3]
theorem ltP_asym {a b:P3} (h:ltP a b=true):ltP b a=false:=by
 cases k:ltP b a with
 | false=>rfl
 | true=>have:=ltP_trans h k;rw[ltP_irr]at this;cases this
theorem upP_unique:∀ {a b:List P3},UpP a->UpP b->(∀ x,x∈a↔x∈b)->a=b
 | [],[],_,_,_=>rfl
 | [],y::b,_,_,h=>absurd ((h y).2 (by simp)) (by simp)
 | x::a,[],_,_,h=>absurd ((h x).1 (by simp)) (by simp)
 | x::a,y::b,ha,hb,h=>by
  obtain⟨ha1,ha2⟩:=List.pairwise_cons.1 ha;obtain⟨hb1,hb2⟩:=List.pairwise_cons.1 hb
  have hxy:x=y:=by
   rcases List.mem_cons.1 ((h x).1 (by simp))with e | hx
   ·exact e
   ·rcases List.mem_cons.1 ((h y).2 (by simp))with e | hy
    ·exact e.symm
    ·have h1:=ha1 y hy;rw[ltP_asym (hb1 x hx)]at h1;cases h1
  subst hxy;congr 1
  refine upP_unique ha2 hb2 fun z=>?_;constructor
  ·intro hz;rcases List.mem_cons.1 ((h z).1 (by simp[hz]))with rfl | k
   ·have:=ha1 z hz;rw[ltP_irr]at this;cases this
   ·exact k
  ·intro hz;rcases List.mem_cons.1 ((h z).2 (by simp[hz]))with rfl | k
   ·have:=hb1 z hz;rw[ltP_irr]at this;cases this
   ·exact k
set_option maxRecDepth 100000 in
set_option maxHeartbeats 2000000 in
theorem sameS_any (v1 v2:Value)(l:List P3)(w:World)(h1:Sl (· < w.heap.size) w 3 v1 (pcs l))(h2:Sl (· < w.heap.size) w 3 v2 (pcs l)):Calls Tryz.prog 35 #[v1,v2] w fun e w'=>e = .returned (.bool true)/\Below w.heap.size w w':=by
 obtain⟨ao,c,rfl,hlc,hcm,hc⟩:=Sl.rows pC_length (by decide) (show Sl _ w 3 v1 (List.flatMap pC l)from h1);obtain⟨ao2,c2,rfl,hlc2,hcm2,hc2⟩:=Sl.rows pC_length (by decide) (show Sl _ w 3 v2 (List.flatMap pC l)from h2);have HC:=h! hc;have HC2:=h! hc2;clear hc hc2 h1 h2;go_enter Tryz.func35,Tryz.ntmps35
 go_wp2_with fail
 go_loopw [13] (fun ii wr=>∃ i:Nat,i<=l.length/\ii = .int .i64 i/\Below w.heap.size w wr) (fun ii _=>l.length-(intOf ii).toNat)
 case atStart=>exact⟨0,by omega,rfl,Below.refl _ _⟩
 case round =>
  obtain⟨i,hi,rfl,hbel⟩:=hrel;by_cases hlt:i<l.length
  ·obtain⟨b,off,rfl,hb,hc⟩:=HC.out (by omega);obtain⟨b2,off2,rfl,hb2,hc2⟩:=HC2.out (by omega);have c0:=hc i hlt 0 _ rfl;have c1:=hc i hlt 1 _ rfl;have c2:=hc i hlt 2 _ rfl;have e0:=hc2 i hlt 0 _ rfl;have e1:=hc2 i hlt 1 _ rfl;have e2:=hc2 i hlt 2 _ rfl;clear hc hc2;generalize l[i]=x at *;obtain⟨xt,xi,xr⟩:=x;rw[Nat.add_zero]at c0 e0;dsimp only at c0 c1 c2 e0 e1 e2;go_wp2_with fail
   obtain⟨wd,hwd⟩:∃ wd,wd=wr.drew:=⟨_,rfl⟩;have hbd:=hbel.drew;rw[<- hwd]at hbd;refine region_walkN (Ext wd) (by rw[<- hwd];exact Ext.refl _) (by kernel_rfl) (by kernel_rfl) (fun _ _ d _ _ h=>by cases d <;> exact h) ?_;rw[<- hwd];clear hwd hbel;have g0:∀ W,Ext wd W->W.cell? ⟨b,off+i*3,none⟩=some (.string xt):=fun W h=>((Below.cell (hbd.trans (h.mono hbd.size)) (p:=⟨b,off+i*3,none⟩) hb)).trans c0;have g1:∀ W,Ext wd W->W.cell? ⟨b,off+i*3+1,none⟩=some (.string xi):=fun W h=>((Below.cell (hbd.trans (h.mono hbd.size)) (p:=⟨b,off+i*3+1,none⟩) hb)).trans c1;have g2:∀ W,Ext wd W->W.cell? ⟨b,off+i*3+2,none⟩=some (.string xr):=fun W h=>((Below.cell (hbd.trans (h.mono hbd.size)) (p:=⟨b,off+i*3+2,none⟩) hb)).trans c2;have k0:∀ W,Ext wd W->W.cell? ⟨b2,off2+i*3,none⟩=some (.string xt):=fun W h=>((Below.cell (hbd.trans (h.mono hbd.size)) (p:=⟨b2,off2+i*3,none⟩) hb2)).trans e0;have k1:∀ W,Ext wd W->W.cell? ⟨b2,off2+i*3+1,none⟩=some (.string xi):=fun W h=>((Below.cell (hbd.trans (h.mono hbd.size)) (p:=⟨b2,off2+i*3+1,none⟩) hb2)).trans e1;have k2:∀ W,Ext wd W->W.cell? ⟨b2,off2+i*3+2,none⟩=some (.string xr):=fun W h=>((Below.cell (hbd.trans (h.mono hbd.size)) (p:=⟨b2,off2+i*3+2,none⟩) hb2)).trans e2;(refine WalkN.tk [0,1,2,3,4,5,6,7,8] ?_;(iterate 9 ((refine TkN.c _ ?_ (by simp only[gA,gS,gZ];rfl) (by kernel_rfl) (by kernel_rfl) (by rfl) (fun W hW=>?_) ?_;rotate_left;· (go_simp;try with_reducible rfl));simp only[Act.put,pA,pZ,pS]));refine TkN.n ?_)
   refine WalkN.done (by kernel_rfl) ?_;clear c0 c1 c2 e0 e1 e2 g0 g1 g2 k0 k1 k2;go_wp2_with fail
   go_roundw
   case rel=>exact⟨i+1,by omega,by go_num,hbd⟩
   case measure=>simp[intOf];omega
  ·obtain rfl:i=l.length:=by omega
   go_wp2_with fail
   go_ret
   exact⟨rfl,hbel⟩
structure GkAt (w:World)(gp B:Nat)(ps:List P3)(pv fv:Value):Prop where
 box:Blk w gp #[pv,fv] 37
 pts:Own w B 30 3 pv (pcs ps)
section
variable {w w' w0 : World} {gp B B' lo x : Nat} {pv fv pv' v sv rv qv : Value} {ps : List P3} {e : TypeId} {sz : Nat} {xs : List Value} {k : Int} {subs : List P3} {refs : List Int} {q : List (FT × FV3)}
theorem GkAt.same (h:GkAt w gp B ps pv fv)(h1:w'.heap[gp]?=w.heap[gp]?)(h3:∀ g,pv.ownBlock=some g->w'.heap[g]?=w.heap[g]?):GkAt w' gp B ps pv fv:=⟨h1.trans h.box,h.pts.keepOwn h3⟩
theorem GkAt.ptNe (h:GkAt w gp B ps pv fv):∀ g,pv.ownBlock=some g->g≠gp:=fun g hg e=>by
 obtain⟨cur,h2⟩:=h.pts.typed hg;subst e;rw[show w.heap[g]?=_ from h.box]at h2;injection h2 with h2
 injection h2 with _ h2 _
 exact absurd h2 (by decide)
theorem GkAt.un (h:GkAt w gp B ps pv fv) {x:Nat} {cs:Array Value} {fr:Nat × Nat} (hx:w.heap[x]?=some (.cells cs e fr))(he:e≠30)(he2:e≠37):KX gp gp w pv x:=by
 have hne:x≠gp:=fun e=>by
  subst e;rw[show w.heap[x]?=_ from h.box]at hx;injection hx with hx
  injection hx with _ hx _
  exact he2 hx.symm
 refine⟨(Array.getElem?_eq_some_iff.1 hx).1,hne,hne,fun e=>?_⟩;obtain⟨c,hc⟩:=h.pts.typed e;rw[hc]at hx;injection hx with hx
 injection hx with _ hx _
 exact he hx.symm
theorem Fine.gpk (h:Fine gp gp w w' pv pv')(hw:GkAt w gp B ps pv fv)(hB:B<=gp):PKept (· = gp) B w w':=h.kept.mono fun x hx=>by
 rcases hx with hx | ⟨h1,h2,h3⟩
 ·exact⟨by have:=hw.box.lt;omega,by omega,by omega,fun e=>by have:=(hw.pts.block x e).1;omega⟩
 ·refine⟨h2,h1,h1,fun e=>?_⟩;obtain⟨c,hc⟩:=hw.pts.typed e;exact h3 c hc
theorem Fine.gblk (h:Fine gp gp w w' pv pv')(hw:GkAt w gp B ps pv fv) {x:Nat} {cs:Array Value} (hx:Blk w x cs e)(he:e≠30)(he2:e≠37):Blk w' x cs e:=(h.kept.block x (hw.un hx he he2)).trans hx
theorem Fine.grow (h:Fine gp gp w w' pv pv')(hw:GkAt w gp B ps pv fv)(ho:Own w B' e sz v xs)(he:e≠30)(he2:e≠37):Own w' B' e sz v xs:=ho.keepOwn fun g hg=>by
 obtain⟨c,hc⟩:=ho.typed hg;exact h.kept.block g (hw.un hc he he2)
theorem GkAt.setBox (h:GkAt w gp B ps pv fv) {x i:Nat} {cs:Array Value} (hx:Blk w x cs e)(he:e≠30)(he2:e≠37)(u:Value):GkAt (w.setCell ⟨x,i,none⟩ u) gp B ps pv fv:=by
 have hu:=h.un hx he he2;exact h.same (Below.heap_setCell _ _ _ _ fun e=>hu.2.1 e.symm) fun g hg=>Below.heap_setCell _ _ _ _ fun e=>hu.2.2.2 (by rw[hg,show g=x from e])
theorem FmAt.gfine (h:FmAt w lo x k subs refs q sv rv qv)(hw:GkAt w gp B ps pv fv)(hf:Fine gp gp w w' pv pv')(hB:B<=gp)(hM:gp<lo):FmAt w' lo x k subs refs q sv rv qv :=
 ⟨hf.gblk hw h.box (by decide) (by decide),hf.grow hw h.subs (by decide) (by decide),hf.grow hw h.refs (by decide) (by decide),h.parts.keep (hf.gpk hw hB) fun x hx=>by
  rw[show x=gp from hx];exact hM⟩
end
theorem grown_blk {w w':World} {B sz x:Nat} {e t:TypeId} {v:Value} {xs:List Value} {cs:Array Value} (ho:Own w B e sz v xs)(hg:w.grownBy w' v.ownBlock)(hx:Blk w x cs t)(hne:t≠e):Blk w' x cs t :=
 (hg.block x hx.lt fun hv=>by
  obtain⟨c2,h2⟩:=ho.typed hv.symm;rw[show w.heap[x]?=_ from hx]at h2;exact hne (by injection Option.some.inj h2)).trans hx
theorem grown_below {w0 w w':World} {B sz:Nat} {e:TypeId} {v:Value} {xs:List Value} (h:Below B w0 w)(ho:Own w B e sz v xs)(hg:w.grownBy w' v.ownBlock)(hB:B<=w.heap.size):Below B w0 w' :=
 h.trans ⟨hg.os,hg.tape,hg.output,hg.size,fun x hx=>hg.block x (by omega) fun e=>by have:=(ho.block x e.symm).1;omega⟩
theorem obj_eqlG (a1 a2 b1 b2:ByteArray)(W:World):(binOp BinOp.eql 28 (.agg #[.string a1,.string a2]) (.agg #[.string b1,.string b2])).run Tryz.prog W = .ok (.bool (decide (a1=b1/\a2=b2))) W:=by
 go_simp;simp only[ba_toList];by_cases h1:a1=b1 <;> by_cases h2:a2=b2 <;> simp[h1,h2]
theorem str_beq (a b:ByteArray):(a.toList == b.toList)=decide (a=b):=by
 by_cases h:a=b
 ·subst h;simp
 ·rw[decide_eq_false h,ByteArray.toList_eq,ByteArray.toList_eq,ba_beq' h]
theorem subsOf_take {T:List Tup} {p:P3} {i:Nat} (h:i<T.length):subsOf (T.take (i+1)) p=if T[i].o=p then subsOf (T.take i) p++[T[i].s]else subsOf (T.take i) p:=by
 rw[List.take_succ_eq_append_getElem h,subsOf_snoc]
set_option maxRecDepth 100000 in
set_option maxHeartbeats 1600000 in
theorem subs25_any {S:Nat->Prop} (v:Value)(T:List Tup)(p:P3)(w:World)(hS:∀ x,S x->x<w.heap.size)(h:Sl S w 6 v (tuCs T))(hl:T.length<=1000000000) :
  Calls Tryz.prog 121 #[v,pV p] w fun e w'=>∃ v',e = .returned v'/\Own w' w.heap.size 63 3 v' (pcs (subsOf T p))/\Ext w w':=by
 obtain⟨ao,c,rfl,hlc,hcm,hrow⟩:=tups_rows h;have HR:=h! hrow;have HL:=h! hl;have HSS:=h! hS;obtain⟨pt,pi,pr⟩:=p;have hx1:=Ext.alloc w (.cells #[.string pt,.string pi,.string pr] 30);have HP1:=h! (Blk.made w #[.string pt,.string pi,.string pr] 30);have HX1:=h! hx1;clear hrow hl h hx1 hS;unfold pV;dsimp only;go_enter Tryz.func121,Tryz.ntmps121
 go_wp2_with fail
 obtain⟨w1,hw1⟩:∃ x,x=w.alloc (.cells #[.string pt,.string pi,.string pr] 30):=⟨_,rfl⟩;rw[<- hw1]at HP1 HX1 ⊢;clear hw1;go_loopw [5,10] (fun ov ii wr=>∃ i:Nat,i<=T.length/\ii = .int .i64 i/\Own wr w.heap.size 63 3 ov (pcs (subsOf (T.take i) ⟨pt,pi,pr⟩))/\Blk wr w.heap.size #[.string pt,.string pi,.string pr] 30/\Below w.heap.size w wr) (fun _ ii _=>T.length-(intOf ii).toNat)
 case atStart=>exact⟨0,Nat.zero_le _,rfl,Own.nil _ _ _ _,HP1.out,HX1.out⟩
 case round =>
  obtain⟨i,hi,rfl,hown,hb1,hbw⟩:=hrel;have HOWN:=h! hown;have HB1:=h! hb1;have HBW:=h! hbw;clear hown hb1 hbw;by_cases hlt:i<T.length
  ·obtain⟨b,off,rfl,hSb,c0,c1,c2,c3,c4,c5⟩:=HR.out i hlt;have hlw:=HSS.out b hSb;have d0:=(HBW.out.cell (p:=⟨b,off+i*6,none⟩) hlw).trans c0;have d1:=(HBW.out.cell (p:=⟨b,off+i*6+1,none⟩) hlw).trans c1;have d2:=(HBW.out.cell (p:=⟨b,off+i*6+2,none⟩) hlw).trans c2;have d3:=(HBW.out.cell (p:=⟨b,off+i*6+3,none⟩) hlw).trans c3;have d4:=(HBW.out.cell (p:=⟨b,off+i*6+4,none⟩) hlw).trans c4;have d5:=(HBW.out.cell (p:=⟨b,off+i*6+5,none⟩) hlw).trans c5;have HTK:=h! (subsOf_take (p:=⟨pt,pi,pr⟩) hlt)
   have HSL:=h! (show(subsOf (T.take i) ⟨pt,pi,pr⟩).length<=1000000000 from by
    unfold subsOf;rw[List.length_map];refine Nat.le_trans (List.length_filter_le _ _) ?_;rw[List.length_take];have:=HL.out;omega)
   have HLT:=h! hlt;have HWI:=h! (show wrap64 ((i:Int)+1)=((i+1:Nat):Int)from by have:=HL.out;unfold wrap64;omega);have hli:(i:Int)<(T.length:Int):=by omega
   clear c0 c1 c2 c3 c4 c5 hlw hSb;generalize T[i]=x at *;clear hlt;generalize subsOf (T.take i) ⟨pt,pi,pr⟩=sl at *;generalize hs2:subsOf (T.take (i+1)) ⟨pt,pi,pr⟩=sl2 at *;have HS2:=h! hs2;clear hs2;obtain⟨⟨ot,oi,or_⟩,⟨st,si,sr⟩⟩:=x;dsimp only at d0 d1 d2 d3 d4 d5 HTK;have HX2:=h! (Ext.alloc wr (.cells #[.string ot,.string oi,.string or_,.string st,.string si,.string sr] 104));have hxc:=(Blk.made wr #[.string ot,.string oi,.string or_,.string st,.string si,.string sr] 104).cells;have hpc:=(HB1.out.below HX2.out).cells;have hob:=fun W=>obj_eqlG ot oi pt pi W;have hrb:=str_beq or_ pr;by_cases h1:ot=pt/\oi=pi
   ·rw[decide_eq_true h1]at hob;by_cases h2:or_=pr
    ·have HY:=h! (show sl2=sl++[⟨st,si,sr⟩]from by rw[HTK.out,if_pos (by rw[h1.1,h1.2,h2])]);rw[decide_eq_true h2]at hrb;clear h1 h2;have HX3:=h! (Ext.alloc (wr.alloc (.cells #[.string ot,.string oi,.string or_,.string st,.string si,.string sr] 104)) (.cells #[.string st,.string si,.string sr] 63));have HLB:=h! (Blk.made' (w:=wr.alloc (.cells #[.string ot,.string oi,.string or_,.string st,.string si,.string sr] 104)) (B:=wr.heap.size+1) (by simp) #[.string st,.string si,.string sr] 63);go_wp2_with (at_builtin;go_must (refine wpList_ownw subsT rfl (.tmp 26) (.tmp 29) rfl rfl ((HOWN.out.below HX2.out).below HX3.out) rfl (m:=1) (news:=pC ⟨st,si,sr⟩) rfl (by intro j u hu;rw[Addr.add_lit,Nat.zero_add];exact(HLB.out.cells j).trans (by simpa [pC] using hu)) (pC_one _) (by have:=HSL.out;rw[pcs_length,pC_length];omega) (by have:=HSL.out;rw[pcs_length,pC_length];omega) (by have:=HBW.out.size;have:=HX2.out.size;have:=HX3.out.size;omega) ?_;intro v6 w6 hown6 hb6 hg6;have HO6:=h! (show Own w6 w.heap.size 63 3 v6 (pcs (sl++[⟨st,si,sr⟩]))from by rw[pcs_append,pcs_single];exact hown6);have HP6:=h! (grown_blk ((HOWN.out.below HX2.out).below HX3.out) hg6 ((HB1.out.below HX2.out).below HX3.out) (by decide));have HW6:=h! (grown_below (HBW.out.trans ((HX2.out.trans HX3.out).mono HBW.out.size)) ((HOWN.out.below HX2.out).below HX3.out) hg6 (by have:=HBW.out.size;have:=HX2.out.size;have:=HX3.out.size;omega));clear hown6 hb6 hg6))
     go_roundw
     case rel=>exact⟨i+1,HLT.out,by first | rw[HWI.out] | go_num,by rw[HS2.out,HY.out];exact HO6.out,HP6.out,HW6.out⟩
     case measure=>have:=HLT.out;(try rw[HWI.out]);simp[intOf];omega
    ·have HY:=h! (show sl2=sl from by rw[HTK.out,if_neg (by simp[h2])]);rw[decide_eq_false h2]at hrb;clear h1 h2;go_wp2_with fail
     go_roundw
     case rel=>exact⟨i+1,HLT.out,by first | rw[HWI.out] | go_num,by rw[HS2.out,HY.out];exact HOWN.out.below HX2.out,HB1.out.below HX2.out,HBW.out.trans (HX2.out.mono HBW.out.size)⟩
     case measure=>have:=HLT.out;(try rw[HWI.out]);simp[intOf];omega
   ·have HY:=h! (show sl2=sl from by rw[HTK.out,if_neg (fun e=>h1 ⟨by injection e,by injection e⟩)]);rw[decide_eq_false h1]at hob;clear h1 hrb;go_wp2_with fail
    go_roundw
    case rel=>exact⟨i+1,HLT.out,by first | rw[HWI.out] | go_num,by rw[HS2.out,HY.out];exact HOWN.out.below HX2.out,HB1.out.below HX2.out,HBW.out.trans (HX2.out.mono HBW.out.size)⟩
    case measure=>have:=HLT.out;(try rw[HWI.out]);simp[intOf];omega
  ·obtain rfl:i=T.length:=by omega
   rw[List.take_length]at HOWN;go_wp2_with fail
   go_ret
   exact⟨_,rfl,HOWN.out,HBW.out⟩
abbrev RdC (tv sev shv:Value) (L:Int):Array Value:=#[tv,sev,shv,.int .i64 L]
def EndR (t:NT)(L:Int)(nt:NT)(L':Int):Prop:=((t.sz:Int)<=L->nt=t/\L'=L-t.sz)/\(L<t.sz->L' = -1)
def EndQ (A:List NT)(L:Int)(l:List NT)(L':Int):Prop:=((nszL A:Int)<=L->l=A/\L'=L-nszL A)/\(L<nszL A->L' = -1)
section
variable {A l : List NT} {L L1 L2 : Int} {t nt : NT}
theorem EndQ.nil (h:0<=L):EndQ [] L [] L:=⟨fun _=>by simp[nszL],fun h2=>by simp[nszL]at h2;omega⟩
theorem EndQ.snoc (h:EndQ A L l L1)(k:EndR t L1 nt L2):EndQ (A++[t]) L (l++[nt]) L2:=by
 have hp:=t.sz_pos;unfold EndQ;rw[nszL_append,nszL_one];by_cases hl:(nszL A:Int)<=L
 ·obtain⟨rfl,rfl⟩:=h.1 hl;refine⟨fun h4=>?_,fun h4=>k.2 (by omega)⟩;obtain⟨rfl,h5⟩:=k.1 (by omega);exact⟨rfl,by omega⟩
 ·obtain rfl:=h.2 (by omega);exact⟨fun h4=>by omega,fun h4=>k.2 (by omega)⟩
theorem EndQ.node {k:Int} {p:P3} {s:List P3} (h:EndQ A (L-1) l L1):EndR (.mk k p s A) L (.mk k p s l) L1:=by
 unfold EndR;rw[NT.sz];refine⟨fun h4=>?_,fun h4=>h.2 (by omega)⟩;obtain⟨rfl,h5⟩:=h.1 (by omega);exact⟨rfl,by omega⟩
theorem EndR.long (h:L<=0):EndR t L nt (-1):=⟨fun h2=>by have:=t.sz_pos;omega,fun _=>rfl⟩
theorem EndQ.most (h:EndQ A L l L1)(h0:0<=L) : -1<=L1/\L1<=L:=by
 by_cases hl:(nszL A:Int)<=L
 ·obtain⟨-,rfl⟩:=h.1 hl;omega
 ·obtain rfl:=h.2 (by omega);omega
end
structure RdAt (w0 w wr:World)(bp lo:Nat)(tv sev shv:Value)(k:Int)(p:P3)(rc:Array Value)(A:List NT)(L:Int)(sb:List P3)(q:List (NT × NV2))(sv qv:Value)(L1:Int):Prop where
 nd:NdAt wr lo (w.heap.size+3) k p sb q sv qv
 bx:Blk wr w.heap.size #[.string p.t,.string p.i,.string p.r] 30
 br:Blk wr (w.heap.size+1) rc 98
 bo:Blk wr (w.heap.size+2) #[.int .i64 0,.string ⟨#[]⟩,.string ⟨#[]⟩,.string ⟨#[]⟩,.slice none 0 0,.slice none 0 0] 55
 bd:Blk wr bp (RdC tv sev shv L1) 155
 ext:Ext w0 wr
 kept:Kept (fun b=>b<w.heap.size/\b≠bp) w wr
 low:w.heap.size+4<=lo
 size:lo<=wr.heap.size
 fin:EndQ A L (q.map (·.1)) L1
section
variable {w0 w wr w2 w3 : World} {bp lo lo' : Nat} {tv sev shv sv qv qv' : Value} {k : Int} {p : P3} {rc : Array Value} {A : List NT} {L L1 L2 : Int} {sb : List P3} {q : List (NT × NV2)} {t nt : NT} {v2 : NV2}
theorem RdAt.up (h:RdAt w0 w wr bp lo tv sev shv k p rc A L sb q sv qv L1)(hx:Ext wr w2):RdAt w0 w w2 bp lo tv sev shv k p rc A L sb q sv qv L1 :=
 ⟨h.nd.ext hx,h.bx.below hx,h.br.below hx,h.bo.below hx,h.bd.below hx,Ext.trans h.ext hx,h.kept.trans (Below.kept hx fun b hb=>by have:=h.size;have:=h.low;omega),h.low,Nat.le_trans h.size hx.size,h.fin⟩
theorem RdAt.subs (h:RdAt w0 w wr bp lo tv sev shv k p rc A L sb q sv qv L1)(hbp:bp<w.heap.size)(hw0:w0.heap.size=bp) {s2:List P3} {sv':Value} (hs:Own wr lo 63 3 sv' (pcs s2)):RdAt w0 w (wr.setCell ⟨w.heap.size+3,4,none⟩ sv') bp lo tv sev shv k p rc A L s2 q sv' qv L1:=by
 have hl:=h.low;have hb:∀ b,b≠w.heap.size+3->(wr.setCell ⟨w.heap.size+3,4,none⟩ sv').heap[b]?=wr.heap[b]?:=fun b hb=>Below.heap_setCell _ _ _ b hb
 exact⟨h.nd.setSubs hs (by omega),(hb _ (by omega)).trans h.bx,(hb _ (by omega)).trans h.br,(hb _ (by omega)).trans h.bo,(hb _ (by omega)).trans h.bd,
  ⟨h.ext.os,h.ext.tape,h.ext.output,by simpa using h.ext.size,fun b hb'=>(hb b (by omega)).trans (h.ext.block b hb')⟩,h.kept.set (a:=⟨w.heap.size+3,4,none⟩) (fun h=>by have:=h.1;simp at this;omega) _,hl,by simpa using h.size,h.fin⟩
theorem RdAt.mid (h:RdAt w0 w wr bp lo tv sev shv k p rc A L sb q sv qv L1)(hbp:bp<w.heap.size)(hk:Kept (fun b=>b<wr.heap.size/\b≠bp) wr w2):NdAt w2 lo (w.heap.size+3) k p sb q sv qv :=
 h.nd.above (fun b h1=>hk.block b ⟨h1.2.1,by have:=h1.1;have:=h.low;omega⟩) (hk.block _ ⟨h.nd.box.lt,by omega⟩) hk.size
theorem RdAt.step (h:RdAt w0 w wr bp lo tv sev shv k p rc A L sb q sv qv L1)(hbp:bp<w.heap.size)(hw0:w0.heap.size=bp)(hk:Kept (fun b=>b<wr.heap.size/\b≠bp) wr w2)(hd:Blk w2 bp (RdC tv sev shv L2) 155)(hE:EndR t L1 nt L2)
  (hn:NdAt w3 lo (w.heap.size+3) k p sb (q++[(nt,v2)]) sv qv') (hk3:Kept (fun b=>b<w2.heap.size/\b≠w.heap.size+3/\qv.ownBlock≠some b) w2 w3):RdAt w0 w w3 bp lo tv sev shv k p rc (A++[t]) L sb (q++[(nt,v2)]) sv qv' L2:=by
 have hl:=h.low;have hb:∀ b,b<wr.heap.size->b≠bp->b<w.heap.size+3->w3.heap[b]?=wr.heap[b]?:=fun b h1 h2 h3=>(hk3.block b ⟨Nat.lt_of_lt_of_le h1 hk.size,by omega,fun e=>by have:=(h.nd.parts.row.block b e).1;omega⟩).trans (hk.block b ⟨h1,h2⟩);refine⟨hn,(hb _ h.bx.lt (by omega) (by omega)).trans h.bx,(hb _ h.br.lt (by omega) (by omega)).trans h.br,(hb _ h.bo.lt (by omega) (by omega)).trans h.bo,?_,?_,?_,hl,Nat.le_trans h.size (Nat.le_trans hk.size hk3.size),?_⟩
 ·exact(hk3.block bp ⟨hd.lt,by omega,fun e=>by have:=(h.nd.parts.row.block bp e).1;omega⟩).trans hd
 ·exact⟨(hk3.os.trans hk.os).trans h.ext.os,(hk3.tape.trans hk.tape).trans h.ext.tape,(hk3.output.trans hk.output).trans h.ext.output,Nat.le_trans h.ext.size (Nat.le_trans hk.size hk3.size),fun b hb'=>(hb b (by have:=h.size;omega) (by omega) (by omega)).trans (h.ext.block b hb')⟩
 ·exact⟨(hk3.os.trans hk.os).trans h.kept.os,(hk3.tape.trans hk.tape).trans h.kept.tape,(hk3.output.trans hk.output).trans h.kept.output,Nat.le_trans h.kept.size (Nat.le_trans hk.size hk3.size),fun b hb'=>(hb b (by have:=h.size;omega) hb'.2 (by omega)).trans (h.kept.block b hb')⟩
 ·rw[List.map_append];exact h.fin.snoc hE
theorem RdAt.stays (_h:RdAt w0 w wr bp lo tv sev shv k p rc A L sb q sv qv L1)(hbp:bp<w.heap.size)(hk:Kept (fun b=>b<wr.heap.size/\b≠bp) wr w2)(hk3:Kept (fun b=>b<w2.heap.size/\b≠w.heap.size+3/\qv.ownBlock≠some b) w2 w3) {b:Nat} (hb:w.heap.size+4<=b)(hbl:b<wr.heap.size)(hq:qv.ownBlock≠some b):w3.heap[b]?=wr.heap[b]? :=
 (hk3.block b ⟨Nat.lt_of_lt_of_le hbl hk.size,by omega,hq⟩).trans (hk.block b ⟨hbl,by omega⟩)
end
theorem RdAt.grown {w0 w wr w2:World} {bp lo:Nat} {tv sev shv sv qv dv:Value} {k:Int} {p:P3} {rc:Array Value} {A:List NT} {L L1:Int} {sb:List P3} {q:List (NT × NV2)} {xs:List Value} (h:RdAt w0 w wr bp lo tv sev shv k p rc A L sb q sv qv L1)(hbp:bp<w.heap.size)(hw0:w0.heap.size=bp)(ho:Own wr lo 28 2 dv xs)(hg:wr.grownBy w2 dv.ownBlock):RdAt w0 w w2 bp lo tv sev shv k p rc A L sb q sv qv L1:=by
 have hl:=h.low
 have hbk:∀ {b:Nat} {cs:Array Value} {t:TypeId},Blk wr b cs t->t≠28->w2.heap[b]?=wr.heap[b]?:=fun {b cs t} hb ht=>hg.block b hb.lt fun e=>by
  obtain⟨cur,h2⟩:=ho.typed e.symm;rw[show wr.heap[b]?=_ from hb]at h2;injection h2 with h2
  injection h2 with _ h2 _
  exact ht h2
 have hlo:∀ b,b<lo->b<wr.heap.size->w2.heap[b]?=wr.heap[b]?:=fun b h1 h2=>hg.block b h2 fun e=>by have:=(ho.block b e.symm).1;omega
 refine⟨h.nd.above (fun b hb=>hg.block b hb.2.1 fun e=>?_) (hbk h.nd.box (by decide)) hg.size,(hbk h.bx (by decide)).trans h.bx,(hbk h.br (by decide)).trans h.br,(hbk h.bo (by decide)).trans h.bo,(hbk h.bd (by decide)).trans h.bd,?_,?_,hl,Nat.le_trans h.size hg.size,h.fin⟩
 ·obtain⟨cur,h2⟩:=ho.typed e.symm;exact hb.2.2 _ h2
 ·exact⟨hg.os.trans h.ext.os,hg.tape.trans h.ext.tape,hg.output.trans h.ext.output,Nat.le_trans h.ext.size hg.size,fun b hb=>(hlo b (by omega) (Nat.lt_of_lt_of_le hb h.ext.size)).trans (h.ext.block b hb)⟩
 ·exact⟨hg.os.trans h.kept.os,hg.tape.trans h.kept.tape,hg.output.trans h.kept.output,Nat.le_trans h.kept.size hg.size,fun b hb=>(hlo b (by omega) (by have:=h.size;omega)).trans (h.kept.block b hb)⟩
structure StD (w0:World)(bp:Nat)(ts:List TyS)(tv:Value)(T:List Tup)(sev:Value)(shut:List R2)(shv:Value):Prop where
 bp:w0.heap.size=bp
 ty:TysAt (· < w0.heap.size) w0 ts tv
 se:Sl (· < w0.heap.size) w0 6 sev (tuCs T)
 sh:Sl (· < w0.heap.size) w0 2 shv (shut.flatMap r2C)
 un:uniqOk ts=true
 nd:T.Nodup
 few:T.length<=1000000
 shl:shut.length<=1000000
def TreeRef (bp:Nat)(tv sev shv:Value)(t:NT)(L:Int)(w:World)(e:Ending)(w':World):Prop :=
 ∃ nt v2 L',e = .returned (nV2 nt v2)/\NtAt (NS w.heap.size w') w' nt v2/\Blk w' bp (RdC tv sev shv L') 155/\Kept (fun b=>b<w.heap.size/\b≠bp) w w'/\EndR t L nt L'
def PointRef (w0:World)(bp:Nat)(ts:List TyS)(tv:Value)(T:List Tup)(sev:Value)(shut:List R2)(shv:Value)(d:Nat):Prop :=
 ∀ (p:P3) (L:Int) (w:World),Ext w0 w->Blk w bp (RdC tv sev shv L) 155->L<=1000000 ->
  Calls Tryz.prog 75 #[.pointer (some ⟨bp,0,none⟩),pV p,.int .i64 d] w (TreeRef bp tv sev shv (treeE ts T shut d p) L w)
theorem NdAt.lit {w:World} {lo x n0:Nat} {k:Int} {p:P3} {subs:List P3} {sv:Value} {y:NT} {yv:NV2} (h:NdAt w lo x k p subs [] sv (.slice none 0 0))(hlo:lo<=w.heap.size)(hy:NtAt (NS n0 w) w y yv)(hn0:lo<=n0)(hxl:x<lo) :
  NdAt ((w.alloc (.cells (nC (y,yv)).toArray 55)).setCell ⟨x,5,none⟩ (.slice (some ⟨w.heap.size,0,none⟩) 1 1)) lo x k p subs [(y,yv)] sv (.slice (some ⟨w.heap.size,0,none⟩) 1 1):=by
 have hx:=Ext.alloc w (.cells (nC (y,yv)).toArray 55);refine NdAt.add (q:=[]) (n0:=n0) h (Ext.refl w) ⟨hx.os,hx.tape,hx.output,hx.size,fun b hb _=>hx.block b hb⟩ ?_ (fun g hg => .inr ?_) hy hn0 (fun g hg=>by cases hg) hxl
 ·rw[List.flatMap_nil,List.nil_append];exact Own.lit w hlo 55 6 1 (nC (y,yv)).toArray rfl (by decide) (by decide)
 ·obtain rfl:w.heap.size=g:=Option.some.inj hg;exact Nat.le_refl _
theorem blk_grown {w w':World} {b:Nat} {cs:Array Value} {e:TypeId} {row:Option Nat} (h:Blk w b cs e)(hg:w.grownBy w' row)(hn:row≠some b):Blk w' b cs e:=(hg.block b h.lt (fun e=>hn e.symm)).trans h
theorem put_kept {w w2 w3:World} {x i:Nat} {v:Value} {r:Option Nat} (hx:Ext w w2)(hg:w2.grownBy w3 r):Kept (fun b=>b<w.heap.size/\b≠x/\r≠some b) w (w3.setCell ⟨x,i,none⟩ v) :=
 Kept.set (a:=⟨x,i,none⟩) ⟨hg.os.trans hx.os,hg.tape.trans hx.tape,hg.output.trans hx.output,Nat.le_trans hx.size hg.size,fun b hb=>(hg.block b (Nat.lt_of_lt_of_le hb.1 hx.size) fun e=>hb.2.2 e.symm).trans (hx.block b hb.1)⟩ (fun h=>h.2.1 rfl) v
theorem RdAt.done {w0 w wr:World} {bp lo:Nat} {tv sev shv sv qv:Value} {k:Int} {p:P3} {rc:Array Value} {A:List NT} {L L1:Int} {sb:List P3} {q:List (NT × NV2)} {t:NT} {L0:Int} (h:RdAt w0 w wr bp lo tv sev shv k p rc A L sb q sv qv L1)(hbp:bp<w.heap.size)(hE:EndR t L0 (.mk k p sb (q.map (·.1))) L1)(x0 x1 x2 x3 x4 x5:Value) :
  TreeRef bp tv sev shv t L0 w (.returned (nV2 (.mk k p sb (q.map (·.1))) (sv,qv))) ((((((wr.setCell ⟨w.heap.size+2,0,none⟩ x0).setCell ⟨w.heap.size+2,1,none⟩ x1).setCell ⟨w.heap.size+2,2,none⟩ x2).setCell ⟨w.heap.size+2,3,none⟩ x3).setCell ⟨w.heap.size+2,4,none⟩ x4).setCell ⟨w.heap.size+2,5,none⟩ x5):=by
 have hlow:=h.low;refine⟨_,_,L1,rfl,?_,(put6_other _ _ _ _ _ _ (by omega)).trans h.bd,?_,hE⟩
 ·exact h.nd.done rfl (fun b h1=>put6_other _ _ _ _ _ _ (by have:=h1.1;omega)) (by simp) (by omega)
 ·have hn:¬ ((fun b=>b<w.heap.size/\b≠bp) (w.heap.size+2)):=fun h=>by have:=h.1;omega
  exact(((((h.kept.set (a:=⟨w.heap.size+2,0,none⟩) hn x0).set (a:=⟨w.heap.size+2,1,none⟩) hn x1).set (a:=⟨w.heap.size+2,2,none⟩) hn x2).set (a:=⟨w.heap.size+2,3,none⟩) hn x3).set (a:=⟨w.heap.size+2,4,none⟩) hn x4).set (a:=⟨w.heap.size+2,5,none⟩) hn x5
theorem leaf_ref {bp x:Nat} {tv sev shv:Value} {t:NT} {L L':Int} {w w2:World} {k:Int} {p:P3} (hb:Blk w2 bp (RdC tv sev shv L') 155)(hk:Kept (fun b=>b<w.heap.size/\b≠bp) w w2)(hx:w.heap.size<=x)(hbp:bp<w.heap.size)(hE:EndR t L (.mk k p [] []) L')(x0 x1 x2 x3 x4 x5:Value) :
  TreeRef bp tv sev shv t L w (.returned (.agg #[.int .i64 k,.string p.t,.string p.i,.string p.r,.slice none 0 0,.slice none 0 0])) ((((((w2.setCell ⟨x,0,none⟩ x0).setCell ⟨x,1,none⟩ x1).setCell ⟨x,2,none⟩ x2).setCell ⟨x,3,none⟩ x3).setCell ⟨x,4,none⟩ x4).setCell ⟨x,5,none⟩ x5):=by
 have hn:¬ ((fun b=>b<w.heap.size/\b≠bp) x):=fun h=>by have:=h.1;omega
 exact⟨_,_,L',rfl,(NtAt.iff _ (.slice none 0 0,.slice none 0 0)).2 ⟨Sl.nil _ _ _,[],rfl,(fun x hx=>by cases hx),Sl.nil _ _ _⟩,(put6_other _ _ _ _ _ _ (by omega)).trans hb,(((((hk.set (a:=⟨x,0,none⟩) hn x0).set (a:=⟨x,1,none⟩) hn x1).set (a:=⟨x,2,none⟩) hn x2).set (a:=⟨x,3,none⟩) hn x3).set (a:=⟨x,4,none⟩) hn x4).set (a:=⟨x,5,none⟩) hn x5,hE⟩
theorem objsT:ElemT Tryz.prog 255 28 2 32:=ElemT.mk' Tryz.underlying255 (show _=some (some (.agg #[.string ByteArray.empty,.string ByteArray.empty]),2,32)by kernel_rfl) rfl (by decide)
def doneO (l:List P3):List O2:=(l.filter fun s=>decide (s.r=⟨#[]⟩)).map P3.obj
theorem doneO_snoc (l:List P3)(s:P3):doneO (l++[s])=if s.r=⟨#[]⟩then doneO l++[s.obj]else doneO l:=by
 unfold doneO;rw[List.filter_append,List.map_append];by_cases h:s.r=⟨#[]⟩
 ·rw[if_pos h];simp[h]
 ·rw[if_neg h];simp[h]
theorem doneO_new {l:List P3} {s:P3} (h:s∉l)(hr:s.r=⟨#[]⟩):∀ x∈doneO l,¬ (x.t=s.t/\x.i=s.i):=fun x hx e=>by
 unfold doneO at hx;obtain⟨y,hy,rfl⟩:=List.mem_map.1 hx;rw[List.mem_filter]at hy;have h1:y.r=⟨#[]⟩:=by simpa using hy.2
 refine h ?_;obtain⟨a,b,c⟩:=s;obtain⟨a',b',c'⟩:=y;simp only[P3.obj]at e;simp only at h1 hr;rw[hr,<- e.1,<- e.2,<- h1];exact hy.1
theorem doneO_len (l:List P3):(doneO l).length<=l.length:=by
 unfold doneO;rw[List.length_map];exact List.length_filter_le _ _
set_option maxRecDepth 100000 in
set_option maxHeartbeats 1000000 in
theorem rrule_any (w0:World)(bp:Nat)(ts:List TyS)(tv:Value)(T:List Tup)(sev:Value)(shut:List R2)(shv:Value)(HS:StD w0 bp ts tv T sev shut shv)(d:Nat)(hd:d<=1000)(hP:PointRef w0 bp ts tv T sev shut shv d)(p:P3)(r:RT):∀ (rpv:Value)(L:Int)(w:World),r.sz<=1000000->RTAt (· < w0.heap.size) w0 r rpv->Ext w0 w->Blk w bp (RdC tv sev shv L) 155->L<=1000000 ->
  Calls Tryz.prog 135 #[.pointer (some ⟨bp,0,none⟩),pV p,rV r rpv,.int .i64 ((d:Int)+1)] w (TreeRef bp tv sev shv (ruleE T (treeE ts T shut d) p r) L w):=by
 have HST:=h! HS;have HPL:=h! hP;have HDW:=h! (show wrap64 ((d:Int)+1-1)=(d:Int)from by unfold wrap64;omega);have HDW2:=h! (show wrap64 (d:Int)=(d:Int)from by unfold wrap64;omega);clear HS hP hd;obtain⟨pt,pi,pr⟩:=p;induction r using RT.ind with
 | h r ih =>
 intro rpv L w hsz hat hx hbd h1;have HSZ:=h! (show 1+szL r.ps<=1000000 from by rw[<- r.sz_eq];exact hsz);obtain⟨k,ra,rb,parts⟩:=r;dsimp only[RT.k,RT.a,RT.b,RT.ps]at ih HSZ;have HTE:=h! (ruleE_mk T (treeE ts T shut d) ⟨pt,pi,pr⟩ k ra rb parts);have HIH:=h! ih;have HRT:=h! hat;have HBP:=h! (show bp<w.heap.size from hbd.lt);have HL1:=h! h1;have HPN:=h! (show parts.length<=1000000 from by have:=szL_many parts;have:=HSZ.out;omega);generalize ruleE T (treeE ts T shut d) ⟨pt,pi,pr⟩ (RT.mk k ra rb parts)=te at *;obtain⟨ao,c,rfl,hlc,hcm,-⟩:=hat.rows;dsimp only[RT.ps]at hlc hcm ⊢;obtain⟨wa,hwa⟩:∃ x,x=w.alloc (.cells #[.string pt,.string pi,.string pr] 30):=⟨_,rfl⟩;obtain⟨wc,hwc⟩:∃ x,x=wa.alloc (.cells #[.int .i64 k,.string ra,.string rb,.slice ao parts.length c] 98):=⟨_,rfl⟩;obtain⟨wd,hwd⟩:∃ x,x=wc.alloc (.cells #[.int .i64 0,.string ⟨#[]⟩,.string ⟨#[]⟩,.string ⟨#[]⟩,.slice none 0 0,.slice none 0 0] 55):=⟨_,rfl⟩;have ea:wa.heap.size=w.heap.size+1:=by rw[hwa];simp
 have ec:wc.heap.size=w.heap.size+2:=by rw[hwc];simp[ea]
 have ed:wd.heap.size=w.heap.size+3:=by rw[hwd];simp[ec]
 have xa:Ext w wa:=by rw[hwa];exact Ext.alloc _ _
 have xc:Ext wa wc:=by rw[hwc];exact Ext.alloc _ _
 have xd:Ext wc wd:=by rw[hwd];exact Ext.alloc _ _
 have EX:Ext w wd:=xa.trans (xc.trans xd);have EP:=h! (show Blk wd w.heap.size #[.string pt,.string pi,.string pr] 30 from Blk.below (by rw[hwa];exact Blk.made _ _ _) (xc.trans xd));have ER:=h! (show Blk wd (w.heap.size+1) #[.int .i64 k,.string ra,.string rb,.slice ao parts.length c] 98 from Blk.below (by rw[hwc,<- ea];exact Blk.made _ _ _) xd);have EO:=h! (show Blk wd (w.heap.size+2) #[.int .i64 0,.string ⟨#[]⟩,.string ⟨#[]⟩,.string ⟨#[]⟩,.slice none 0 0,.slice none 0 0] 55 from by rw[hwd,<- ec];exact Blk.made _ _ _);have EB:=h! (hbd.below EX);have EXX:=h! EX;have EZ:=h! ed;have HX:=h! hx;clear ea ec ed xa xc xd EX ih hat hx hbd h1 hsz;have hbc:=EB.out.cells;have hbf:=EB.out.free;have hpc:=EP.out.cells;have hrc:=ER.out.cells;have hoc:=EO.out.cells;have hof:=EO.out.free;unfold RdC at hbc;subst hwd hwc hwa;unfold pV rV;dsimp only[RT.k,RT.a,RT.b,RT.ps];by_cases hl:L<=0
 ·have K3:=h! (EB.out.set_to (cs':=RdC tv sev shv (-1)) 3 (.int .i64 (-1)) rfl);have O3:=h! (show Blk ((((w.alloc (.cells #[.string pt,.string pi,.string pr] 30)).alloc (.cells #[.int .i64 k,.string ra,.string rb,.slice ao parts.length c] 98)).alloc (.cells #[.int .i64 0,.string ⟨#[]⟩,.string ⟨#[]⟩,.string ⟨#[]⟩,.slice none 0 0,.slice none 0 0] 55)).setCell ⟨bp,3,none⟩ (.int .i64 (-1))) (w.heap.size+2) _ _ from EO.out.other (a:=⟨bp,3,none⟩) (by show w.heap.size+2≠bp;have:=HBP.out;omega) (.int .i64 (-1)));have KK:=h! (show Kept (fun b=>b<w.heap.size/\b≠bp) w ((((w.alloc (.cells #[.string pt,.string pi,.string pr] 30)).alloc (.cells #[.int .i64 k,.string ra,.string rb,.slice ao parts.length c] 98)).alloc (.cells #[.int .i64 0,.string ⟨#[]⟩,.string ⟨#[]⟩,.string ⟨#[]⟩,.slice none 0 0,.slice none 0 0] 55)).setCell ⟨bp,3,none⟩ (.int .i64 (-1)))from(Below.kept EXX.out fun b hb=>hb.1).set (a:=⟨bp,3,none⟩) (fun h=>h.2 rfl) _);have hob:=O3.out.cells;have hog:=O3.out.free;go_enter Tryz.func135,Tryz.ntmps135
  go_wp2_with fail
  clear hbc hbf hpc hrc hoc hof hob hog;refine bodyPost_ret (results_cell_row rfl _ _ (w.heap.size+2) 55 _ (0,0) _ rfl (O3.out.setN6 _ _ _ _ _ _) Tryz.underlying55 rfl (by kernel_rfl)) rfl ?_;exact leaf_ref (k:=0) (p:=⟨⟨#[]⟩,⟨#[]⟩,⟨#[]⟩⟩) K3.out KK.out (by omega) HBP.out (EndR.long hl) _ _ _ _ _ _
 have HLP:=h! (show 0<L from by omega);have hll:¬ (L<=0):=hl;have hwl:wrap64 (L-1)=L-1:=by have:=HL1.out;unfold wrap64;omega
 have FF:=h! (show RdAt w0 w (((((w.alloc (.cells #[.string pt,.string pi,.string pr] 30)).alloc (.cells #[.int .i64 k,.string ra,.string rb,.slice ao parts.length c] 98)).alloc (.cells #[.int .i64 0,.string ⟨#[]⟩,.string ⟨#[]⟩,.string ⟨#[]⟩,.slice none 0 0,.slice none 0 0] 55)).setCell ⟨bp,3,none⟩ (.int .i64 (L-1))).alloc (.cells #[.int .i64 k,.string pt,.string pi,.string pr,.slice none 0 0,.slice none 0 0] 55)) bp (w.heap.size+4) tv sev shv k ⟨pt,pi,pr⟩ #[.int .i64 k,.string ra,.string rb,.slice ao parts.length c] [] (L-1) [] [] (.slice none 0 0) (.slice none 0 0) (L-1)from by
  have hb:=HBP.out;have hz:=EZ.out;have hb0:=HST.out.bp;have hs:((((w.alloc (.cells #[.string pt,.string pi,.string pr] 30)).alloc (.cells #[.int .i64 k,.string ra,.string rb,.slice ao parts.length c] 98)).alloc (.cells #[.int .i64 0,.string ⟨#[]⟩,.string ⟨#[]⟩,.string ⟨#[]⟩,.slice none 0 0,.slice none 0 0] 55)).setCell ⟨bp,3,none⟩ (.int .i64 (L-1))).heap.size=w.heap.size+3:=by rw[<- hz];simp
  have hx:=Ext.alloc ((((w.alloc (.cells #[.string pt,.string pi,.string pr] 30)).alloc (.cells #[.int .i64 k,.string ra,.string rb,.slice ao parts.length c] 98)).alloc (.cells #[.int .i64 0,.string ⟨#[]⟩,.string ⟨#[]⟩,.string ⟨#[]⟩,.slice none 0 0,.slice none 0 0] 55)).setCell ⟨bp,3,none⟩ (.int .i64 (L-1))) (.cells #[.int .i64 k,.string pt,.string pi,.string pr,.slice none 0 0,.slice none 0 0] 55);have ho:∀ b,b<w.heap.size+3->b≠bp->(((((w.alloc (.cells #[.string pt,.string pi,.string pr] 30)).alloc (.cells #[.int .i64 k,.string ra,.string rb,.slice ao parts.length c] 98)).alloc (.cells #[.int .i64 0,.string ⟨#[]⟩,.string ⟨#[]⟩,.string ⟨#[]⟩,.slice none 0 0,.slice none 0 0] 55)).setCell ⟨bp,3,none⟩ (.int .i64 (L-1))).alloc (.cells #[.int .i64 k,.string pt,.string pi,.string pr,.slice none 0 0,.slice none 0 0] 55)).heap[b]?=(((w.alloc (.cells #[.string pt,.string pi,.string pr] 30)).alloc (.cells #[.int .i64 k,.string ra,.string rb,.slice ao parts.length c] 98)).alloc (.cells #[.int .i64 0,.string ⟨#[]⟩,.string ⟨#[]⟩,.string ⟨#[]⟩,.slice none 0 0,.slice none 0 0] 55)).heap[b]?:=fun b h1 h2=>(hx.block b (by rw[hs];exact h1)).trans (Below.heap_setCell _ _ _ b h2);refine⟨⟨?_,Own.nil _ _ _ _,NRow.nil _ _⟩,(ho _ (by omega) (by omega)).trans EP.out,(ho _ (by omega) (by omega)).trans ER.out,(ho _ (by omega) (by omega)).trans EO.out,?_,?_,?_,Nat.le_refl _,by simp[hs],EndQ.nil (by omega)⟩
  ·rw[<- hs];exact Blk.made _ _ _
  ·exact(EB.out.set_to (cs':=RdC tv sev shv (L-1)) 3 (.int .i64 (L-1)) rfl).below hx
  ·exact⟨(Ext.trans HX.out EXX.out).os,(Ext.trans HX.out EXX.out).tape,(Ext.trans HX.out EXX.out).output,Nat.le_trans (Ext.trans HX.out EXX.out).size (by simp),fun b hb'=>(ho b (by have:=HX.out.size;omega) (by omega)).trans ((Ext.trans HX.out EXX.out).block b hb')⟩
  ·exact⟨EXX.out.os,EXX.out.tape,EXX.out.output,Nat.le_trans EXX.out.size (by simp),fun b hb'=>(ho b (by omega) hb'.2).trans (EXX.out.block b hb'.1)⟩)
 have hpq:=(EP.out.other (a:=⟨bp,3,none⟩) (by show w.heap.size≠bp;have:=HBP.out;omega) (.int .i64 (L-1))).cells;have hrq:=(ER.out.other (a:=⟨bp,3,none⟩) (by show w.heap.size+1≠bp;have:=HBP.out;omega) (.int .i64 (L-1))).cells;have hrf:=FF.out.br.cells;have hpf:=FF.out.bx.cells
 have four:Hid (k=1)\/Hid (k=2)\/Hid (k=3)\/Hid (k≠1/\k≠2/\k≠3):=by
  by_cases h1:k=1
  ·exact .inl h1
  ·by_cases h2:k=2
   ·exact .inr (.inl h2)
   ·by_cases h3:k=3
    ·exact .inr (.inr (.inl h3))
    ·exact .inr (.inr (.inr ⟨h1,h2,h3⟩))
 rcases four with HK | HK | HK | HK
 case' inl =>
  have q1:(k == 1)=true:=by rw[HK.out];rfl
  go_enter Tryz.func135,Tryz.ntmps135
  go_wp2_with fail
  clear hbc hbf hpc hrc hoc hof hpq hrq hrf hpf hwl hll;obtain⟨wf,hwf⟩:∃ x,x=((((w.alloc (.cells #[.string pt,.string pi,.string pr] 30)).alloc (.cells #[.int .i64 k,.string ra,.string rb,.slice ao parts.length c] 98)).alloc (.cells #[.int .i64 0,.string ⟨#[]⟩,.string ⟨#[]⟩,.string ⟨#[]⟩,.slice none 0 0,.slice none 0 0] 55)).setCell ⟨bp,3,none⟩ (.int .i64 (L-1))).alloc (.cells #[.int .i64 k,.string pt,.string pi,.string pr,.slice none 0 0,.slice none 0 0] 55):=⟨_,rfl⟩;rw[<- hwf]at FF ⊢;clear hwf;obtain⟨wd,hwd⟩:∃ wd,Hid (wd=wf.drew):=⟨_,h! rfl⟩;have hxd:=h! (show Ext wf wd from by rw[hwd.out];exact Ext.drew _);have FD:=h! (FF.out.up hxd.out);refine region_walkL 7 (Ext wd) (by rw[<- hwd.out];exact Ext.refl _) (by kernel_rfl) (by kernel_rfl) (fun _ _ d _ _ h=>by cases d <;> exact h) ?_;rw[<- hwd.out];have h1:=fun W (h:Ext wd W)=>(FD.out.bd.below h).cells;have h2:=fun W (h:Ext wd W)=>(FD.out.bx.below h).cells;unfold RdC at h1;(refine WalkL.tk [0,1,2,3,4] ?_;(iterate 5 ((refine TkL.c _ ?_ (by simp only[gA,gS,gZ];rfl) (by kernel_rfl) (by kernel_rfl) (by kernel_rfl) (by rfl) (fun W hW=>?_) ?_;rotate_left;· (go_simp;try with_reducible rfl));simp only[Act.put,pA,pZ,pS]));refine TkL.n ?_)
  clear h1 h2;refine WalkL.one 5 (by kernel_rfl) ?_;refine⟨_,(by simp only[gA,gS,gZ];rfl),by rfl,fun K hK=>?_⟩;go_simp;refine(subs25_any (S:=(· < w0.heap.size)) sev T ⟨pt,pi,pr⟩ wd (fun x hx=>Nat.lt_of_lt_of_le hx FD.out.ext.size) (HST.out.se.same fun x hx=>FD.out.ext.block x hx) (by have:=HST.out.few;omega)).mono ?_;rintro e w2 ⟨v2,rfl,ho2,hx2⟩;have HSU0:=h! (show(if k=1 then subsOf T ⟨pt,pi,pr⟩else [])=subsOf T ⟨pt,pi,pr⟩from by rw[if_pos HK.out]);generalize subsOf T ⟨pt,pi,pr⟩=sb at *;obtain⟨so,sn,sc,rfl,-,-,-⟩:=ho2.sl.len;have F2:=h! (FD.out.up hx2);have F3:=h! (F2.out.subs HBP.out HST.out.bp (ho2.low (B':=w.heap.size+4) FD.out.size));have HSU:=h! HSU0.out;refine hK.out _ _ hx2 ?_;clear hK;((refine WalkL.take 6 _ ?_ (by simp only[gA,gS,gZ];rfl) (by kernel_rfl) (by kernel_rfl) (by kernel_rfl) (by rfl) (fun W hW=>?_) ?_;rotate_left;· (go_simp;try with_reducible rfl));simp only[Act.put,pA,pZ,pS])
  have hbf:=F2.out.nd.box.cells;have hbz:=F2.out.nd.box.free;refine WalkL.last (by kernel_rfl) (by kernel_rfl) ?_;refine⟨_,(by simp only[gA,gS,gZ];rfl),by rfl,fun K hK=>?_⟩;go_simp;refine hK.out _ _ ?_;clear hK hbf hbz ho2 hx2 FF FD F2 hwd hxd HSU0;have hrr:=F3.out.br.cells;go_wp2_with fail
  clear hrr q1;obtain⟨wl,hwl⟩:∃ x,x=w2.setCell ⟨w.heap.size+3,4,none⟩ (.slice so sn sc):=⟨_,rfl⟩;obtain⟨H,hH⟩:∃ H,H=headE T (treeE ts T shut d) ⟨pt,pi,pr⟩ k ra rb:=⟨_,rfl⟩
  have GU:=h! (show ∃ (lo:Nat) (q0:List (NT × NV2)) (qv0:Value) (L1:Int),RdAt w0 w (wl) bp lo tv sev shv k ⟨pt,pi,pr⟩ #[.int .i64 k,.string ra,.string rb,.slice ao parts.length c] H (L-1) sb q0 (.slice so sn sc) qv0 L1/\q0.length<=1000001 from by
   have h1:H=[]:=by rw[hH];unfold headE;rw[if_neg (by rw[HK.out];decide),if_neg (by rw[HK.out];decide)]
   rw[hwl,h1];exact⟨_,_,_,_,F3.out,by simp⟩)
  rw[<- hwl];have HH:=h! hH;clear F3 hwl hH
 case' inr.inl =>
  have q1:(k == 1)=false:=by rw[HK.out];rfl
  have q2:(k == 2)=true:=by rw[HK.out];rfl
  have hdw:=HDW.out;have hdw2:=HDW2.out;go_enter Tryz.func135,Tryz.ntmps135
  go_wp2_with fail
  clear hbc hbf hpc hrc hoc hof hpq hrq hrf hpf hwl hll;obtain⟨wf,hwf⟩:∃ x,x=((((w.alloc (.cells #[.string pt,.string pi,.string pr] 30)).alloc (.cells #[.int .i64 k,.string ra,.string rb,.slice ao parts.length c] 98)).alloc (.cells #[.int .i64 0,.string ⟨#[]⟩,.string ⟨#[]⟩,.string ⟨#[]⟩,.slice none 0 0,.slice none 0 0] 55)).setCell ⟨bp,3,none⟩ (.int .i64 (L-1))).alloc (.cells #[.int .i64 k,.string pt,.string pi,.string pr,.slice none 0 0,.slice none 0 0] 55):=⟨_,rfl⟩;rw[<- hwf]at FF ⊢;clear hwf;clear hdw hdw2;have HPT:=h! (HPL.out ⟨pt,pi,ra⟩ (L-1) wf FF.out.ext FF.out.bd (by have:=HL1.out;omega));generalize hte:treeE ts T shut d ⟨pt,pi,ra⟩=te2 at HPT;have HTE2:=h! hte;unfold pV at HPT;dsimp only at HPT;clear hte;refine HPT.out.mono ?_;rintro e w2 ⟨nt,v2,L2,rfl,hnt,hbd2,hk2,hE2⟩;obtain⟨v21,v22⟩:=v2;obtain⟨s1,-⟩:=(NtAt.iff _ _).1 hnt;obtain⟨so2,sm2,sc2,rfl,-,-,-⟩:=s1.len;obtain⟨po2,pc2,rfl,-⟩:=hnt.rows;unfold nV2;dsimp only;clear s1;have ND:=h! (FF.out.mid HBP.out hk2);have NL:=h! (ND.out.lit (n0:=wf.heap.size) (Nat.le_trans FF.out.size hk2.size) hnt FF.out.size (by omega));have XA:=h! (Ext.alloc w2 (.cells #[.int .i64 nt.k,.string nt.p.t,.string nt.p.i,.string nt.p.r,.slice so2 sm2 sc2,.slice po2 nt.ps.length pc2] 55));have SU:=h! (FF.out.step HBP.out HST.out.bp hk2 hbd2 hE2 NL.out (put_kept (w2:=w2) (r:=none) (Ext.refl w2) ⟨XA.out.os,XA.out.tape,XA.out.output,XA.out.size,fun b hb _=>XA.out.block b hb⟩));unfold nC at SU;have hbx:=(ND.out.ext XA.out).box.cells;have hbz:=(ND.out.ext XA.out).box.free;have hrr:=SU.out.br.cells;clear hnt hbd2 hk2 hE2 HPT FF ND NL XA;go_wp2_with fail
  clear hrr hbx hbz q1 q2;obtain⟨so,sn,sc,hs⟩:∃ (so:Option Addr) (sn sc:Nat),Value.slice so sn sc = .slice none 0 0:=⟨_,_,_,rfl⟩;obtain⟨sb,hsb⟩:∃ sb:List P3,sb=[]:=⟨_,rfl⟩;have HSU:=h! (show(if k=1 then subsOf T ⟨pt,pi,pr⟩else [])=sb from by rw[if_neg (by rw[HK.out];decide),hsb]);rw[<- hs,<- hsb]at SU;clear hs hsb;obtain⟨wl,hwl⟩:∃ x,x=(w2.alloc (.cells #[.int .i64 nt.k,.string nt.p.t,.string nt.p.i,.string nt.p.r,.slice so2 sm2 sc2,.slice po2 nt.ps.length pc2] 55)).setCell ⟨w.heap.size+3,5,none⟩ (.slice (some ⟨w2.heap.size,0,none⟩) 1 1):=⟨_,rfl⟩;obtain⟨H,hH⟩:∃ H,H=headE T (treeE ts T shut d) ⟨pt,pi,pr⟩ k ra rb:=⟨_,rfl⟩
  have GU:=h! (show ∃ (lo:Nat) (q0:List (NT × NV2)) (qv0:Value) (L1:Int),RdAt w0 w (wl) bp lo tv sev shv k ⟨pt,pi,pr⟩ #[.int .i64 k,.string ra,.string rb,.slice ao parts.length c] H (L-1) sb q0 (.slice so sn sc) qv0 L1/\q0.length<=1000001 from by
   have h1:H=[]++[te2]:=by rw[hH];unfold headE;rw[if_pos HK.out,HTE2.out];rfl
   rw[hwl,h1];exact⟨_,_,_,_,SU.out,by simp⟩)
  rw[<- hwl];have HH:=h! hH;clear SU hwl hH
 case' inr.inr.inl =>
  have q1:(k == 1)=false:=by rw[HK.out];rfl
  have q2:(k == 2)=false:=by rw[HK.out];rfl
  have q3:(k == 3)=true:=by rw[HK.out];rfl
  go_enter Tryz.func135,Tryz.ntmps135
  go_wp2_with fail
  clear hbc hbf hpc hrc hoc hof hpq hrq hrf hpf hwl hll;obtain⟨wf,hwf⟩:∃ x,x=((((w.alloc (.cells #[.string pt,.string pi,.string pr] 30)).alloc (.cells #[.int .i64 k,.string ra,.string rb,.slice ao parts.length c] 98)).alloc (.cells #[.int .i64 0,.string ⟨#[]⟩,.string ⟨#[]⟩,.string ⟨#[]⟩,.slice none 0 0,.slice none 0 0] 55)).setCell ⟨bp,3,none⟩ (.int .i64 (L-1))).alloc (.cells #[.int .i64 k,.string pt,.string pi,.string pr,.slice none 0 0,.slice none 0 0] 55):=⟨_,rfl⟩;rw[<- hwf]at FF ⊢;clear hwf;obtain⟨wd,hwd⟩:∃ wd,Hid (wd=wf.drew):=⟨_,h! rfl⟩;have hxd:=h! (show Ext wf wd from by rw[hwd.out];exact Ext.drew _);have FD:=h! (FF.out.up hxd.out);refine region_walkN (Ext wd) (by rw[<- hwd.out];exact Ext.refl _) (by kernel_rfl) (by kernel_rfl) (fun _ _ d _ _ h=>by cases d <;> exact h) ?_;rw[<- hwd.out];have h1:=fun W (h:Ext wd W)=>(FD.out.bd.below h).cells;have h2:=fun W (h:Ext wd W)=>(FD.out.bx.below h).cells;have h3:=fun W (h:Ext wd W)=>(FD.out.br.below h).cells;unfold RdC at h1;(refine WalkN.tk [0,1,2,3,4,5,6,7,8,11] ?_;(iterate 10 ((refine TkN.c _ ?_ (by simp only[gA,gS,gZ];rfl) (by kernel_rfl) (by kernel_rfl) (by rfl) (fun W hW=>?_) ?_;rotate_left;· (go_simp;try with_reducible rfl));simp only[Act.put,pA,pZ,pS]));refine TkN.n ?_)
  clear h1 h2 h3;refine WalkN.one 9 (by kernel_rfl) ?_;refine⟨_,(by simp only[gA,gS,gZ];rfl),by rfl,fun K hK=>?_⟩;go_simp;refine(subs25_any (S:=(· < w0.heap.size)) sev T ⟨pt,pi,ra⟩ wd (fun x hx=>Nat.lt_of_lt_of_le hx FD.out.ext.size) (HST.out.se.same fun x hx=>FD.out.ext.block x hx) (by have:=HST.out.few;omega)).mono ?_;rintro e w2 ⟨v2,rfl,ho2,hx2⟩;have HSND:=h! (subsOf_nd HST.out.nd ⟨pt,pi,ra⟩);have HSLN:=h! (show(subsOf T ⟨pt,pi,ra⟩).length<=1000000 from by have:=HST.out.few;have:=subsOf_few T ⟨pt,pi,ra⟩;omega);generalize hsv:subsOf T ⟨pt,pi,ra⟩=sv at *;have HSV:=h! hsv;obtain⟨vo,vn,vc,rfl,hvn,-,-⟩:=ho2.sl.len;rw[pcs_length]at hvn;obtain rfl:vn=sv.length:=by omega
  have F2:=h! (FD.out.up hx2);have OW2:=h! (show Own w2 (w.heap.size+4) 63 3 (.slice vo sv.length vc) (pcs sv)from ho2.low FD.out.size);refine hK.out _ _ hx2 ?_;clear hK ho2 hx2 hvn hsv FF FD hwd hxd;((refine WalkN.take 10 _ ?_ (by simp only[gA,gS,gZ];rfl) (by kernel_rfl) (by kernel_rfl) (by rfl) (fun W hW=>?_) ?_;rotate_left;· (go_simp;try with_reducible rfl));simp only[Act.put,pA,pZ,pS])
  refine WalkN.done (by kernel_rfl) ?_;go_wp2_with fail
  go_loopw [10,81] (fun dv iv wr=>∃ (i:Nat) (q:List (NT × NV2)) (qv:Value) (L1:Int),i<=sv.length/\iv = .int .i64 i/\RdAt w0 w (wr) bp (w.heap.size+4) tv sev shv k ⟨pt,pi,pr⟩ #[.int .i64 k,.string ra,.string rb,.slice ao parts.length c] ((viaOf rb (sv.take i)).map (treeE ts T shut d)) (L-1) [] q (.slice none 0 0) qv L1/\Own wr (w.heap.size+4) 63 3 (.slice vo sv.length vc) (pcs sv)/\Own wr (w.heap.size+4) 28 2 dv ((doneO (sv.take i)).flatMap oC)/\q.length<=i) (fun _ iv _=>sv.length-(intOf iv).toNat)
  case atStart=>exact⟨0,[],.slice none 0 0,L-1,Nat.zero_le _,rfl,F2.out,OW2.out,Own.nil _ _ _ _,Nat.zero_le _⟩
  case' round =>
   obtain⟨i,q,qv,L1,hi,rfl,hru,hov,hod,hqi⟩:=hrel;have RU:=h! hru;have RO:=h! hov;have RD:=h! hod;have RQ:=h! hqi;clear F2 OW2 hru hov hod hqi;by_cases hlt:i<sv.length
   ·obtain⟨ao',c',he',-,-,hcell⟩:=Sl.rows pC_length (by decide) (show Sl _ wr 3 (.slice vo sv.length vc) (sv.flatMap pC)from RO.out.sl);cases he';obtain⟨bq,oq,rfl,-,hcell⟩:=hcell (by omega);have hck:=hcell i hlt
    have HTV:=h! (show(viaOf rb (sv.take (i+1))).map (treeE ts T shut d)=if sv[i].r=⟨#[]⟩then(viaOf rb (sv.take i)).map (treeE ts T shut d)++[treeE ts T shut d ⟨sv[i].t,sv[i].i,rb⟩]else(viaOf rb (sv.take i)).map (treeE ts T shut d)from by
     rw[List.take_succ_eq_append_getElem hlt,viaOf_snoc];by_cases h:sv[i].r=⟨#[]⟩
     ·rw[if_pos h,if_pos h,List.map_append];rfl
     ·rw[if_neg h,if_neg h])
    have HTD:=h! (show doneO (sv.take (i+1))=if sv[i].r=⟨#[]⟩then doneO (sv.take i)++[sv[i].obj]else doneO (sv.take i)from by rw[List.take_succ_eq_append_getElem hlt,doneO_snoc]);have HNW:=h! (nodup_take HSND.out hlt);have HDN0:=h! (fun(h:sv[i].r=⟨#[]⟩)=>doneO_new (l:=sv.take i) (s:=sv[i]) HNW.out h);have HDL:=h! (show(doneO (sv.take i)).length<=1000000 from by have:=doneO_len (sv.take i);have:=List.length_take_le i sv;have:=HSLN.out;omega);generalize sv[i]=s at *;generalize doneO (sv.take i)=D at *;have HLTI:=h! hlt;have HWI:=h! (show wrap64 ((i:Int)+1)=((i+1:Nat):Int)from by have:=HSLN.out;unfold wrap64;omega);generalize (viaOf rb (sv.take i)).map (treeE ts T shut d)=A at *;obtain⟨st,si,sr⟩:=s;dsimp only at HTV HTD HDN0;obtain⟨eo,en,ec,rfl,hen,-,-⟩:=RD.out.sl.len;rw[flat_length oC_length]at hen;obtain rfl:en=D.length:=by omega
    have d0:wr.cell? ⟨bq,oq+i*3,none⟩=some (.string st):=hck 0 _ rfl;have d1:wr.cell? ⟨bq,oq+i*3+1,none⟩=some (.string si):=hck 1 _ rfl;have d2:wr.cell? ⟨bq,oq+i*3+2,none⟩=some (.string sr):=hck 2 _ rfl;have hli:(i:Int)<(sv.length:Int):=by omega
    have hx1:=Ext.alloc wr (.cells #[.string st,.string si,.string sr] 63);have XU:=h! (RU.out.up hx1);have XO:=h! (RO.out.below hx1);have XD:=h! (RD.out.below hx1);have XB:=h! (show Blk (wr.alloc (.cells #[.string st,.string si,.string sr] 63)) wr.heap.size #[.string st,.string si,.string sr] 63 from Blk.made _ _ _);have hs:=XB.out.cells;have hse:=isEmpty_ba sr;clear hlt hi hck hcell hx1 RU RO RD hen;by_cases he:sr=⟨#[]⟩
    rotate_left
    ·rw[decide_eq_false he]at hse;rw[if_neg he]at HTV HTD;clear he HDN0;have HDN:=h! (fun(o:O2) (_:o∈D)=>trivial);go_wp2_with fail
     clear hs d0 d1 d2 hse;obtain⟨wx,hwx⟩:∃ x,x=wr.alloc (.cells #[.string st,.string si,.string sr] 63):=⟨_,rfl⟩;rw[<- hwx]at XU XO XD XB ⊢;clear hwx;go_loopw [13,90] (fun gv jv wr2=>∃ j:Nat,j<=D.length/\jv = .int .i64 j/\gv = .bool true/\Ext wx wr2) (fun _ jv _=>D.length-(intOf jv).toNat)
     case atStart=>exact⟨0,Nat.zero_le _,rfl,rfl,Ext.refl _⟩
     case' round =>
      rename World=>wo
      obtain⟨j,hj,rfl,rfl,hxo⟩:=hrel;have ZX:=h! hxo;clear hxo;by_cases hjl:j<D.length
      ·obtain⟨ao',c',he',-,-,hcell⟩:=Sl.rows oC_length (by decide) (show Sl _ wo 2 (.slice eo D.length ec) (D.flatMap oC)from(XD.out.below ZX.out).sl);cases he';obtain⟨be,oe,rfl,-,hcell⟩:=hcell (by omega);have hck:=hcell j hjl;have HNE:=h! (HDN.out D[j] (List.getElem_mem hjl));generalize D[j]=o at *;have HJL:=h! hjl;obtain⟨ot,oi⟩:=o;have e0:wo.cell? ⟨be,oe+j*2,none⟩=some (.string ot):=hck 0 _ rfl;have e1:wo.cell? ⟨be,oe+j*2+1,none⟩=some (.string oi):=hck 1 _ rfl;have hji:(j:Int)<(D.length:Int):=by omega
       have HWJ:=h! (show wrap64 ((j:Int)+1)=((j+1:Nat):Int)from by have:=HDL.out;unfold wrap64;omega);have XE:=h! (Ext.alloc wo (.cells #[.string ot,.string oi] 28));have hsb:=(XB.out.below (Ext.trans ZX.out XE.out)).cells;have hob:=(Blk.made wo #[.string ot,.string oi] 28).cells;clear hjl hj hck hcell;go_wp2_with fail
       clear e0 e1 hsb hob;go_roundw
       case rel=>exact⟨j+1,HJL.out,by first | rw[HWJ.out] | go_num,rfl,Ext.trans ZX.out XE.out⟩
       case measure=>have:=HJL.out;(try rw[HWJ.out]);simp[intOf];omega
      obtain rfl:j=D.length:=by omega
      clear hjl hj;have ZU:=h! (XU.out.up ZX.out);have ZO:=h! (XO.out.below ZX.out);have ZD:=h! (XD.out.below ZX.out);clear XU XO XD XB ZX;go_wp2_with fail
      go_roundw
      case rel=>exact⟨i+1,q,qv,L1,HLTI.out,by first | rw[HWI.out] | go_num,by rw[HTV.out];exact ZU.out,ZO.out,by rw[HTD.out];exact ZD.out,by have:=RQ.out;omega⟩
      case measure=>have:=HLTI.out;(try rw[HWI.out]);simp[intOf];omega
    subst he;rw[if_pos rfl]at HTV HTD;rw[decide_eq_true rfl]at hse;have HDN:=h! (HDN0.out rfl);go_wp2_with fail
    clear hs d0 d1 d2 hse HDN0;obtain⟨wx,hwx⟩:∃ x,x=wr.alloc (.cells #[.string st,.string si,.string ⟨#[]⟩] 63):=⟨_,rfl⟩;rw[<- hwx]at XU XO XD XB ⊢;clear hwx;go_loopw [13,90] (fun gv jv wr2=>∃ j:Nat,j<=D.length/\jv = .int .i64 j/\gv = .bool false/\Ext wx wr2) (fun _ jv _=>D.length-(intOf jv).toNat)
    case atStart=>exact⟨0,Nat.zero_le _,rfl,rfl,Ext.refl _⟩
    case' round =>
     rename World=>wo
     obtain⟨j,hj,rfl,rfl,hxo⟩:=hrel;have ZX:=h! hxo;clear hxo;by_cases hjl:j<D.length
     ·obtain⟨ao',c',he',-,-,hcell⟩:=Sl.rows oC_length (by decide) (show Sl _ wo 2 (.slice eo D.length ec) (D.flatMap oC)from(XD.out.below ZX.out).sl);cases he';obtain⟨be,oe,rfl,-,hcell⟩:=hcell (by omega);have hck:=hcell j hjl;have HNE:=h! (HDN.out D[j] (List.getElem_mem hjl));generalize D[j]=o at *;have HJL:=h! hjl;obtain⟨ot,oi⟩:=o;have e0:wo.cell? ⟨be,oe+j*2,none⟩=some (.string ot):=hck 0 _ rfl;have e1:wo.cell? ⟨be,oe+j*2+1,none⟩=some (.string oi):=hck 1 _ rfl;have hji:(j:Int)<(D.length:Int):=by omega
      have HWJ:=h! (show wrap64 ((j:Int)+1)=((j+1:Nat):Int)from by have:=HDL.out;unfold wrap64;omega);have XE:=h! (Ext.alloc wo (.cells #[.string ot,.string oi] 28));have hsb:=(XB.out.below (Ext.trans ZX.out XE.out)).cells;have hob:=(Blk.made wo #[.string ot,.string oi] 28).cells
      have hq:∀ W,(binOp BinOp.eql 28 (.agg #[.string ot,.string oi]) (.agg #[.string st,.string si])).run Tryz.prog W = .ok (.bool false) W:=fun W=>by
       have h1:=obj_eqlG ot oi st si W;rw[decide_eq_false (show ¬ (ot=st/\oi=si)from HNE.out)]at h1;exact h1
      clear hjl hj hck hcell;go_wp2_with fail
      clear e0 e1 hsb hob hq;go_roundw
      case rel=>exact⟨j+1,HJL.out,by first | rw[HWJ.out] | go_num,rfl,Ext.trans ZX.out XE.out⟩
      case measure=>have:=HJL.out;(try rw[HWJ.out]);simp[intOf];omega
     obtain rfl:j=D.length:=by omega
     clear hjl hj;have XE:=h! (Ext.alloc wo (.cells #[.string st,.string si] 28));have ZXE:=h! (Ext.trans ZX.out XE.out);have ZD:=h! (XD.out.below ZXE.out);have ZU:=h! (XU.out.up ZXE.out);have ZO:=h! (XO.out.below ZXE.out);have ZB:=h! (XB.out.below ZXE.out);have ZS:=h! (show w.heap.size+4<=(wo.alloc (.cells #[.string st,.string si] 28)).heap.size from ZU.out.size);have hsb:=(XB.out.below ZX.out).cells;have B4:=h! (Blk.made wo #[.string st,.string si] 28);have OL:=h! (flat_length oC_length D);have hdw:=HDW.out;have hdw2:=HDW2.out;clear XU XO XD XB ZX;go_wp2_with (at_builtin;go_must (refine wpList_ownw objsT rfl (.tmp 104) (.tmp 107) rfl rfl ZD.out rfl (m:=1) (news:=oC ⟨st,si⟩) rfl (by intro j u hu;rw[Addr.add_lit,Nat.zero_add];exact(B4.out.cells j).trans (by simpa [oC] using hu)) (by simp[oC,Value.oneCell']) (by have:=HDL.out;have:=OL.out;rw[oC_length];omega) (by have:=HDL.out;have:=OL.out;rw[oC_length];omega) ZS.out ?_;intro v5 w5 hown5 hb5 hg5;have YU:=h! (ZU.out.grown HBP.out HST.out.bp ZD.out hg5);have YO:=h! (ZO.out.keepOwn (w':=w5) fun g hg=>hg5.block g (ZO.out.block g hg).2 fun e=>ZO.out.apart ZD.out (by decide) hg e.symm);have YB:=h! (show Blk w5 wr.heap.size #[.string st,.string si,.string ⟨#[]⟩] 63 from blk_grown ZB.out hg5 fun e=>by obtain⟨cur,h2⟩:=ZD.out.typed e;rw[show _=_ from ZB.out]at h2;injection h2 with h2;injection h2 with _ h2 _;exact absurd h2 (by decide));have YD:=h! (show Own w5 (w.heap.size+4) 28 2 v5 ((D++[(⟨st,si⟩:O2)]).flatMap oC)from by rw[List.flatMap_append];simpa using hown5);obtain⟨do5,dn5,dc5,rfl,-,-,-⟩:=hown5.sl.len;have ys:=YB.out.cells;have yr:=YU.out.br.cells;clear hsb hown5 hb5 hg5 ZD ZU ZO ZB ZS B4 XE ZXE OL))
     clear ys yr hdw hdw2;have HPT:=h! (HPL.out ⟨st,si,rb⟩ L1 w5 YU.out.ext YU.out.bd (by have:=(YU.out.fin.most (by have:=HLP.out;omega)).2;have:=HL1.out;omega));generalize treeE ts T shut d ⟨st,si,rb⟩=te2 at *;unfold pV at HPT;dsimp only at HPT;refine HPT.out.mono ?_;rintro e w2 ⟨nt,v2,L2,rfl,hnt,hbd2,hk2,hE2⟩;obtain⟨v21,v22⟩:=v2;obtain⟨s1,-⟩:=(NtAt.iff _ _).1 hnt;obtain⟨so2,sm2,sc2,rfl,-,-,-⟩:=s1.len;obtain⟨po2,pc2,rfl,-⟩:=hnt.rows;unfold nV2;dsimp only;clear s1;clear HPT;have ND:=h! (YU.out.mid HBP.out hk2);have X3:=h! (Ext.alloc w2 (.cells #[.int .i64 nt.k,.string nt.p.t,.string nt.p.i,.string nt.p.r,.slice so2 sm2 sc2,.slice po2 nt.ps.length pc2] 55));have X4:=h! (Ext.alloc (w2.alloc (.cells #[.int .i64 nt.k,.string nt.p.t,.string nt.p.i,.string nt.p.r,.slice so2 sm2 sc2,.slice po2 nt.ps.length pc2] 55)) (.cells #[.int .i64 nt.k,.string nt.p.t,.string nt.p.i,.string nt.p.r,.slice so2 sm2 sc2,.slice po2 nt.ps.length pc2] 55));have XX:=h! (X3.out.trans X4.out);have B4:=h! (Blk.made' (w:=w2.alloc (.cells #[.int .i64 nt.k,.string nt.p.t,.string nt.p.i,.string nt.p.r,.slice so2 sm2 sc2,.slice po2 nt.ps.length pc2] 55)) (B:=w2.heap.size+1) (by simp) #[.int .i64 nt.k,.string nt.p.t,.string nt.p.i,.string nt.p.r,.slice so2 sm2 sc2,.slice po2 nt.ps.length pc2] 55);have F4:=h! (ND.out.ext XX.out);obtain⟨qo,qn,qc,rfl,-,-,-⟩:=ND.out.parts.row.sl.len;have QL:=h! (show(q.flatMap nC).length<=20000000 from by rw[nCs_length];have:=RQ.out;have:=HLTI.out;have:=HSLN.out;omega);have QS:=h! (show(w.heap.size+4)<=((w2.alloc (.cells #[.int .i64 nt.k,.string nt.p.t,.string nt.p.i,.string nt.p.r,.slice so2 sm2 sc2,.slice po2 nt.ps.length pc2] 55)).alloc (.cells #[.int .i64 nt.k,.string nt.p.t,.string nt.p.i,.string nt.p.r,.slice so2 sm2 sc2,.slice po2 nt.ps.length pc2] 55)).heap.size from Nat.le_trans (Nat.le_trans YU.out.size hk2.size) XX.out.size);have hby:=(Blk.made w2 #[.int .i64 nt.k,.string nt.p.t,.string nt.p.i,.string nt.p.r,.slice so2 sm2 sc2,.slice po2 nt.ps.length pc2] 55).cells;have hbF:=(ND.out.ext X3.out).box.cells;have HNT:=h! hnt;have HB2:=h! hbd2;have HK2:=h! hk2;have HE2:=h! hE2;clear hnt hbd2 hk2 hE2;go_wp2_with (at_builtin;go_must (refine wpList_ownw nodesT rfl (.tmp 119) (.tmp 121) rfl rfl F4.out.parts.row rfl (m:=1) (news:=nC (nt,(.slice so2 sm2 sc2,.slice po2 nt.ps.length pc2))) rfl (by intro j u hu;rw[Addr.add_lit,Nat.zero_add];exact(B4.out.cells j).trans (by simpa [nC] using hu)) (by simp[nC,Value.oneCell']) (by have:=QL.out;rw[nC_length];omega) (by have:=QL.out;rw[nC_length];omega) QS.out ?_;intro v6 w6 hown6 hb6 hg6;have SU:=h! (YU.out.step HBP.out HST.out.bp HK2.out HB2.out HE2.out (ND.out.add XX.out hg6 hown6 hb6 HNT.out YU.out.size (fun g hg=>(YU.out.nd.parts.row.block g hg).2) (by have:=YU.out.low;omega)) (put_kept XX.out hg6));have SO:=h! (YO.out.keepOwn (w':=w6.setCell ⟨w.heap.size+3,5,none⟩ v6) fun g hg=>YU.out.stays HBP.out HK2.out (put_kept XX.out hg6) (YO.out.block g hg).1 (YO.out.block g hg).2 (YO.out.apart YU.out.nd.parts.row (by decide) hg));have SD:=h! (YD.out.keepOwn (w':=w6.setCell ⟨w.heap.size+3,5,none⟩ v6) fun g hg=>YU.out.stays HBP.out HK2.out (put_kept XX.out hg6) (YD.out.block g hg).1 (YD.out.block g hg).2 (YD.out.apart YU.out.nd.parts.row (by decide) hg));have BX:=h! ((blk_grown F4.out.box hg6 fun e=>by have:=(F4.out.parts.row.block _ e).1;have:=YU.out.low;omega));obtain⟨o6,m6,c6,rfl,-,-,-⟩:=hown6.sl.len;have hbx:=BX.out.cells;have hbz:=BX.out.free;clear hby hbF hown6 hb6 hg6 ND F4 B4 HNT HB2 HK2 HE2 X3 X4 XX QL QS))
     go_roundw
     case rel=>exact⟨i+1,_,_,L2,HLTI.out,by first | rw[HWI.out] | go_num,by rw[HTV.out];exact SU.out,SO.out,by rw[HTD.out];exact SD.out,by have:=RQ.out;rw[List.length_append];simp;omega⟩
     case measure=>have:=HLTI.out;(try rw[HWI.out]);simp[intOf];omega
   obtain rfl:i=sv.length:=by omega
   have HTA:=h! (show sv.take sv.length=sv from List.take_length);rw[HTA.out]at RU;have hrr:=RU.out.br.cells;have RQ2:=h! (show q.length<=1000001 from by have:=RQ.out;have:=HSLN.out;omega);clear hlt hi RO RD RQ;go_wp2_with fail
   clear hrr q1 q2 q3;obtain⟨so,sn,sc,hs⟩:∃ (so:Option Addr) (sn sc:Nat),Value.slice so sn sc = .slice none 0 0:=⟨_,_,_,rfl⟩;obtain⟨sb,hsb⟩:∃ sb:List P3,sb=[]:=⟨_,rfl⟩;have HSU:=h! (show(if k=1 then subsOf T ⟨pt,pi,pr⟩else [])=sb from by rw[if_neg (by rw[HK.out];decide),hsb]);rw[<- hs,<- hsb]at RU;clear hs hsb;obtain⟨wl,hwl⟩:∃ x,x=wr:=⟨_,rfl⟩;obtain⟨H,hH⟩:∃ H,H=headE T (treeE ts T shut d) ⟨pt,pi,pr⟩ k ra rb:=⟨_,rfl⟩
   have GU:=h! (show ∃ (lo:Nat) (q0:List (NT × NV2)) (qv0:Value) (L1:Int),RdAt w0 w (wl) bp lo tv sev shv k ⟨pt,pi,pr⟩ #[.int .i64 k,.string ra,.string rb,.slice ao parts.length c] H (L-1) sb q0 (.slice so sn sc) qv0 L1/\q0.length<=1000001 from by
    have h1:H=(viaOf rb sv).map (treeE ts T shut d):=by rw[hH];unfold headE;rw[if_neg (by rw[HK.out];decide),if_pos HK.out,HSV.out]
    rw[hwl,h1];exact⟨_,_,_,_,RU.out,RQ2.out⟩)
   rw[<- hwl];have HH:=h! hH;clear RU hwl hH;clear HSND HSLN HTA HSV RQ2
 case' inr.inr.inr =>
  have q1:(k == 1)=false:=by rw[beq_eq_false_iff_ne];exact HK.out.1
  have q2:(k == 2)=false:=by rw[beq_eq_false_iff_ne];exact HK.out.2.1
  have q3:(k == 3)=false:=by rw[beq_eq_false_iff_ne];exact HK.out.2.2
  go_enter Tryz.func135,Tryz.ntmps135
  go_wp2_with fail
  clear hbc hbf hpc hrc hoc hof hpq hrq hrf hpf hwl hll;obtain⟨wf,hwf⟩:∃ x,x=((((w.alloc (.cells #[.string pt,.string pi,.string pr] 30)).alloc (.cells #[.int .i64 k,.string ra,.string rb,.slice ao parts.length c] 98)).alloc (.cells #[.int .i64 0,.string ⟨#[]⟩,.string ⟨#[]⟩,.string ⟨#[]⟩,.slice none 0 0,.slice none 0 0] 55)).setCell ⟨bp,3,none⟩ (.int .i64 (L-1))).alloc (.cells #[.int .i64 k,.string pt,.string pi,.string pr,.slice none 0 0,.slice none 0 0] 55):=⟨_,rfl⟩;rw[<- hwf]at FF ⊢;clear hwf;obtain⟨so,sn,sc,hs⟩:∃ (so:Option Addr) (sn sc:Nat),Value.slice so sn sc = .slice none 0 0:=⟨_,_,_,rfl⟩;obtain⟨sb,hsb⟩:∃ sb:List P3,sb=[]:=⟨_,rfl⟩;have HSU:=h! (show(if k=1 then subsOf T ⟨pt,pi,pr⟩else [])=sb from by rw[if_neg HK.out.1,hsb]);have FF:=h! (show RdAt w0 w (wf) bp (w.heap.size+4) tv sev shv k ⟨pt,pi,pr⟩ #[.int .i64 k,.string ra,.string rb,.slice ao parts.length c] [] (L-1) sb [] (.slice so sn sc) (.slice none 0 0) (L-1)from by rw[hs,hsb];exact FF.out);clear hs hsb q1 q2 q3;obtain⟨wl,hwl⟩:∃ x,x=wf:=⟨_,rfl⟩;obtain⟨H,hH⟩:∃ H,H=headE T (treeE ts T shut d) ⟨pt,pi,pr⟩ k ra rb:=⟨_,rfl⟩
  have GU:=h! (show ∃ (lo:Nat) (q0:List (NT × NV2)) (qv0:Value) (L1:Int),RdAt w0 w (wl) bp lo tv sev shv k ⟨pt,pi,pr⟩ #[.int .i64 k,.string ra,.string rb,.slice ao parts.length c] H (L-1) sb q0 (.slice so sn sc) qv0 L1/\q0.length<=1000001 from by
   have h1:H=[]:=by rw[hH];unfold headE;rw[if_neg HK.out.2.1,if_neg HK.out.2.2]
   rw[hwl,h1];exact⟨_,_,_,_,FF.out,by simp⟩)
  rw[<- hwl];have HH:=h! hH;clear FF hwl hH
 all_goals
  obtain⟨lo,q0,qv0,L10,hgu,hql⟩:=GU.out;have GV:=h! hgu;have HQ0:=h! hql;clear hgu GU hlc hcm hql hl;go_loopw [128] (fun iv wr=>∃ (i:Nat) (q:List (NT × NV2)) (qv:Value) (L1:Int),i<=parts.length/\iv = .int .i64 i/\RdAt w0 w (wr) bp lo tv sev shv k ⟨pt,pi,pr⟩ #[.int .i64 k,.string ra,.string rb,.slice ao parts.length c] (H++(parts.take i).map (ruleE T (treeE ts T shut d) ⟨pt,pi,pr⟩)) (L-1) sb q (.slice so sn sc) qv L1/\q.length<=1000001+i) (fun iv _=>parts.length-(intOf iv).toNat)
  case atStart=>exact⟨0,q0,qv0,L10,Nat.zero_le _,rfl,by rw[List.take_zero,List.map_nil,List.append_nil];exact GV.out,HQ0.out⟩
  case round =>
   obtain⟨i,q,qv,L1,hi,rfl,hru,hqi⟩:=hrel;have RU:=h! hru;have RQ:=h! hqi;clear GV hru hqi;by_cases hlt:i<parts.length
   ·obtain⟨ao',c',he',-,-,hcell⟩:=(HRT.out.same (w':=wr) fun x hx=>RU.out.ext.block x hx).rows;cases he';obtain⟨bq,oq,pq,rfl,hbq,d0,d1,d2,d3,hpat⟩:=hcell i hlt;dsimp only[RT.ps]at d0 d1 d2 d3 hpat;have HTK:=h! (show(parts.take (i+1)).map (ruleE T (treeE ts T shut d) ⟨pt,pi,pr⟩)=(parts.take i).map (ruleE T (treeE ts T shut d) ⟨pt,pi,pr⟩)++[ruleE T (treeE ts T shut d) ⟨pt,pi,pr⟩ parts[i]]from by rw[List.take_succ_eq_append_getElem hlt,List.map_append];rfl);have HII:=h! (HIH.out parts[i] (List.getElem_mem hlt));have HOI:=h! (show parts[i].sz<=1000000 from by have:=szL_mem (List.getElem_mem hlt);have:=HSZ.out;omega);have HPA:=h! (show RTAt (· < w0.heap.size) w0 parts[i] pq from hpat.same fun x hx=>(RU.out.ext.block x hx).symm);generalize parts[i]=x at *;have HLTI:=h! hlt;have HWI:=h! (show wrap64 ((i:Int)+1)=((i+1:Nat):Int)from by have:=HPN.out;unfold wrap64;omega);obtain⟨xo,xc,rfl,-⟩:=hpat.rows;generalize (parts.take i).map (ruleE T (treeE ts T shut d) ⟨pt,pi,pr⟩)=A at *;have hli:(i:Int)<(parts.length:Int):=by omega
    have XU:=h! (RU.out.up (Ext.alloc wr (.cells #[.int .i64 x.k,.string x.a,.string x.b,.slice xo x.ps.length xc] 98)));have hxb:=(Blk.made wr #[.int .i64 x.k,.string x.a,.string x.b,.slice xo x.ps.length xc] 98).cells;have hp:=XU.out.bx.cells;have HRC:=h! (HII.out (.slice xo x.ps.length xc) L1 _ HOI.out HPA.out XU.out.ext XU.out.bd (by have:=(XU.out.fin.most (by have:=HLP.out;omega)).2;have:=HL1.out;omega));unfold pV rV at HRC;dsimp only at HRC;clear hlt hi hbq hpat hcell RU HII HOI HPA;go_wp2_with fail
    clear hp d0 d1 d2 d3 hxb;refine HRC.out.mono ?_;rintro e w2 ⟨nt,v2,L2,rfl,hnt,hbd2,hk2,hE2⟩;obtain⟨v21,v22⟩:=v2;obtain⟨s1,-⟩:=(NtAt.iff _ _).1 hnt;obtain⟨so2,sm2,sc2,rfl,-,-,-⟩:=s1.len;obtain⟨po2,pc2,rfl,-⟩:=hnt.rows;unfold nV2;dsimp only;clear s1;clear HRC;have ND:=h! (XU.out.mid HBP.out hk2);have X3:=h! (Ext.alloc w2 (.cells #[.int .i64 nt.k,.string nt.p.t,.string nt.p.i,.string nt.p.r,.slice so2 sm2 sc2,.slice po2 nt.ps.length pc2] 55));have X4:=h! (Ext.alloc (w2.alloc (.cells #[.int .i64 nt.k,.string nt.p.t,.string nt.p.i,.string nt.p.r,.slice so2 sm2 sc2,.slice po2 nt.ps.length pc2] 55)) (.cells #[.int .i64 nt.k,.string nt.p.t,.string nt.p.i,.string nt.p.r,.slice so2 sm2 sc2,.slice po2 nt.ps.length pc2] 55));have XX:=h! (X3.out.trans X4.out);have B4:=h! (Blk.made' (w:=w2.alloc (.cells #[.int .i64 nt.k,.string nt.p.t,.string nt.p.i,.string nt.p.r,.slice so2 sm2 sc2,.slice po2 nt.ps.length pc2] 55)) (B:=w2.heap.size+1) (by simp) #[.int .i64 nt.k,.string nt.p.t,.string nt.p.i,.string nt.p.r,.slice so2 sm2 sc2,.slice po2 nt.ps.length pc2] 55);have F4:=h! (ND.out.ext XX.out);obtain⟨qo,qn,qc,rfl,-,-,-⟩:=ND.out.parts.row.sl.len;have QL:=h! (show(q.flatMap nC).length<=20000000 from by rw[nCs_length];have:=RQ.out;have:=HLTI.out;have:=HPN.out;omega);have QS:=h! (show lo<=((w2.alloc (.cells #[.int .i64 nt.k,.string nt.p.t,.string nt.p.i,.string nt.p.r,.slice so2 sm2 sc2,.slice po2 nt.ps.length pc2] 55)).alloc (.cells #[.int .i64 nt.k,.string nt.p.t,.string nt.p.i,.string nt.p.r,.slice so2 sm2 sc2,.slice po2 nt.ps.length pc2] 55)).heap.size from Nat.le_trans (Nat.le_trans XU.out.size hk2.size) XX.out.size);have hby:=(Blk.made w2 #[.int .i64 nt.k,.string nt.p.t,.string nt.p.i,.string nt.p.r,.slice so2 sm2 sc2,.slice po2 nt.ps.length pc2] 55).cells;have hbF:=(ND.out.ext X3.out).box.cells;have HNT:=h! hnt;have HB2:=h! hbd2;have HK2:=h! hk2;have HE2:=h! hE2;clear hnt hbd2 hk2 hE2;go_wp2_with (at_builtin;go_must (refine wpList_ownw nodesT rfl (.tmp 138) (.tmp 140) rfl rfl F4.out.parts.row rfl (m:=1) (news:=nC (nt,(.slice so2 sm2 sc2,.slice po2 nt.ps.length pc2))) rfl (by intro j u hu;rw[Addr.add_lit,Nat.zero_add];exact(B4.out.cells j).trans (by simpa [nC] using hu)) (by simp[nC,Value.oneCell']) (by have:=QL.out;rw[nC_length];omega) (by have:=QL.out;rw[nC_length];omega) QS.out ?_;intro v6 w6 hown6 hb6 hg6;have SU:=h! (XU.out.step HBP.out HST.out.bp HK2.out HB2.out HE2.out (ND.out.add XX.out hg6 hown6 hb6 HNT.out XU.out.size (fun g hg=>(XU.out.nd.parts.row.block g hg).2) (by have:=XU.out.low;omega)) (put_kept XX.out hg6));have BX:=h! ((blk_grown F4.out.box hg6 fun e=>by have:=(F4.out.parts.row.block _ e).1;have:=XU.out.low;omega));obtain⟨o6,m6,c6,rfl,-,-,-⟩:=hown6.sl.len;have hbx:=BX.out.cells;have hbz:=BX.out.free;clear hby hbF hown6 hb6 hg6 ND F4 B4 HNT HB2 HK2 HE2 X3 X4 XX QL QS))
    go_roundw
    case rel=>exact⟨i+1,_,_,L2,HLTI.out,by first | rw[HWI.out] | go_num,by rw[HTK.out,<- List.append_assoc];exact SU.out,by have:=RQ.out;rw[List.length_append];simp;omega⟩
    case measure=>have:=HLTI.out;(try rw[HWI.out]);simp[intOf];omega
   ·obtain rfl:i=parts.length:=by omega
    have HTA:=h! (show parts.take parts.length=parts from List.take_length);rw[HTA.out]at RU
    have HE:=h! (show EndR te L (.mk k ⟨pt,pi,pr⟩ sb (q.map (·.1))) L1 from by
     rw[HTE.out,HSU.out,<- HH.out];exact RU.out.fin.node)
    obtain⟨qo,qn,qc,rfl,-,-,-⟩:=RU.out.nd.parts.row.sl.len;have hc3:=RU.out.nd.box.cells;have hc2:=RU.out.bo.cells;have hz2:=RU.out.bo.free;clear hlt hi;go_wp2_with fail
    clear hc3 hc2 hz2;refine bodyPost_ret (results_cell_row rfl _ _ (w.heap.size+2) 55 _ (0,0) _ rfl (RU.out.bo.setN6 _ _ _ _ _ _) Tryz.underlying55 rfl (by kernel_rfl)) rfl ?_;exact RU.out.done HBP.out HE.out _ _ _ _ _ _
end Go.Proofs.YtjdigpfipmckhaaGreat
namespace Go.Proofs.YtjdigpfipmckhaaGreat
open Go Go.RowKit Go.Maps Go.Shelf
set_option maxRecDepth 100000 in
set_option maxHeartbeats 4000000 in
theorem find06_at (ts:List TyS)(tv:Value)(ty rel:ByteArray)(w:World) {S:Nat->Prop} (hSw:∀ b,S b->b<w.heap.size)(h:TysAt S w ts tv)(hu:uniqOk ts=true) :
  Calls Tryz.prog 48 #[.agg #[tv],.string ty,.string rel] w fun e w'=>∃ z:RV,e = .returned (.tuple #[rvV z,.bool (lookA (refsOf ts) ⟨ty,rel⟩).isSome])/\RTAt S w' z.1 z.2/\(∀ r,lookA (refsOf ts) ⟨ty,rel⟩=some r->z.1=r)/\(lookA (refsOf ts) ⟨ty,rel⟩=none->z=(.mk 0 ByteArray.empty ByteArray.empty [],.slice none 0 0))/\Below w.heap.size w w':=by
 obtain⟨ao,c,rfl,hlc,hcm,hcell⟩:=h.rows;have HC:=h! hcell;have HSW:=h! hSw;have HU:=h! hu;obtain⟨w1,hw1⟩:∃ x,x=w.alloc (.cells #[.slice ao ts.length c] 24):=⟨_,rfl⟩;obtain⟨w2,hw2⟩:∃ x,x=w1.alloc (.cells #[.int .i64 0,.string ⟨#[]⟩,.string ⟨#[]⟩,.slice none 0 0] 98):=⟨_,rfl⟩;have e1:w1.heap.size=w.heap.size+1:=by rw[hw1];simp
 have x01:Ext w w1:=by rw[hw1];exact Ext.alloc _ _
 have x12:Ext w1 w2:=by rw[hw2];exact Ext.alloc _ _
 have hs2:=(show Blk w2 w.heap.size #[.slice ao ts.length c] 24 from Blk.below (by rw[hw1];exact Blk.made _ _ _) x12).cells;have HR:=h! (show Blk w2 (w.heap.size+1) #[.int .i64 0,.string ⟨#[]⟩,.string ⟨#[]⟩,.slice none 0 0] 98 from by rw[hw2,<- e1];exact Blk.made _ _ _);have HB2:=h! (show Below w.heap.size w w2 from x01.trans x12);subst hw2 hw1;clear h hcell hu e1 x01 x12;go_enter Tryz.func48,Tryz.ntmps48
 go_wp2_with fail
 obtain⟨w2,hw2⟩:∃ x,x=(w.alloc (.cells #[.slice ao ts.length c] 24)).alloc (.cells #[.int .i64 0,.string ⟨#[]⟩,.string ⟨#[]⟩,.slice none 0 0] 98):=⟨_,rfl⟩;rw[<- hw2]at HR HB2 ⊢;clear hw2 hs2;obtain⟨br,hbr⟩:∃ x,x=w.heap.size+1:=⟨_,rfl⟩;rw[<- hbr]at HR ⊢;have HBR:=h! (show w.heap.size<=br from by omega);clear hbr;go_loopw [15] (fun ii wr=>∃ i:Nat,i<=ts.length/\ii = .int .i64 i/\(∀ j (hj:j<ts.length),j<i->ts[j].name≠ty)/\Blk wr br #[.int .i64 0,.string ⟨#[]⟩,.string ⟨#[]⟩,.slice none 0 0] 98/\Below w.heap.size w wr) (fun ii _=>ts.length-(intOf ii).toNat)
 case atStart=>exact⟨0,by omega,rfl,fun _ _ h=>absurd h (by omega),HR.out,HB2.out⟩
 case round =>
  rename World=>wo
  obtain⟨i,hi,rfl,hall,hblk,hbel⟩:=hrel;have HALL:=h! hall;have HRO:=h! hblk;have HBO:=h! hbel;clear HR HB2 hall hblk;by_cases hlt:i<ts.length
  ·have HUP:=fun h=>h! (upto_succ (p:=fun j hj=>ts[j].name≠ty) HALL.out hlt h);have HMISS:=fun(h:ts[i].name=ty)=>h! (fun(hb2:∀ j (hj:j<ts[i].rels.length),ts[i].rels[j].1≠rel)=>refs_miss HU.out hlt h hb2);have HHIT:=fun(h:ts[i].name=ty)=>h! (fun k hk hr hb2=>refs_hit (k:=k) (rel:=rel) hlt h HALL.out hk hr hb2);obtain⟨b,off,pv2,hbo,hb,c0,c1,hat2⟩:=HC.out i hlt;cases hbo;have d0:=(hbel.cell (p:=⟨b,off+i*2,none⟩) (HSW.out _ hb)).trans c0;have d1:=(hbel.cell (p:=⟨b,off+i*2+1,none⟩) (HSW.out _ hb)).trans c1;obtain⟨ao2,c2',rfl,hlc2,hcm2,hcell2⟩:=hat2.rows;have HC2:=h! hcell2;have hb1:=hbel.alloc hbel.size (.cells #[.string ts[i].name,.slice ao2 ts[i].rels.length c2'] 95);have HB1:=h! hb1;have HRT:=h! (HRO.out.below (Ext.alloc wo (.cells #[.string ts[i].name,.slice ao2 ts[i].rels.length c2'] 95)));have hbx:=(Blk.made wo #[.string ts[i].name,.slice ao2 ts[i].rels.length c2'] 95).cells;clear c0 c1 hat2 hcell2 hb1 hbel;generalize ts[i]=x at *;obtain⟨xn,l⟩:=x;dsimp only at *;by_cases he:xn=ty
   ·have HM:=HMISS he;have HH:=HHIT he;subst he;clear HUP HMISS HHIT;go_wp2_with fail
    obtain⟨wq,hwq⟩:∃ x,x=wo.alloc (.cells #[.string xn,.slice ao2 l.length c2'] 95):=⟨_,rfl⟩;rw[<- hwq]at HB1 HRT ⊢;clear hwq hbx d0 d1;go_loopw [26] (fun kk wr=>∃ k:Nat,k<=l.length/\kk = .int .i64 k/\(∀ j (hj:j<l.length),j<k->l[j].1≠rel)/\Blk wr br #[.int .i64 0,.string ⟨#[]⟩,.string ⟨#[]⟩,.slice none 0 0] 98/\Below w.heap.size w wr) (fun kk _=>l.length-(intOf kk).toNat)
    case atStart=>exact⟨0,by omega,rfl,fun _ _ h=>absurd h (by omega),HRT.out,HB1.out⟩
    case round =>
     obtain⟨k,hk,rfl,hall2,hblk,hbel⟩:=hrel;have HALL2:=h! hall2;have HRR:=h! hblk;have HBQ:=h! hbel;clear HRT HB1 hall2 hblk;by_cases hlt2:k<l.length
     ·have HUP2:=fun h=>h! (upto_succ (p:=fun j hj=>l[j].1≠rel) HALL2.out hlt2 h);have HFND:=fun(h:l[k].1=rel)=>h! (HH.out k hlt2 h HALL2.out);obtain⟨b2,off2,pv3,hbo,hb2,c0,c1,c2,c3,c4,hat3⟩:=HC2.out k hlt2;cases hbo;have d0:=(hbel.cell (p:=⟨b2,off2+k*5,none⟩) (HSW.out _ hb2)).trans c0;have d1:=(hbel.cell (p:=⟨b2,off2+k*5+1,none⟩) (HSW.out _ hb2)).trans c1;have d2:=(hbel.cell (p:=⟨b2,off2+k*5+2,none⟩) (HSW.out _ hb2)).trans c2;have d3:=(hbel.cell (p:=⟨b2,off2+k*5+3,none⟩) (HSW.out _ hb2)).trans c3;have d4:=(hbel.cell (p:=⟨b2,off2+k*5+4,none⟩) (HSW.out _ hb2)).trans c4;obtain⟨ao3,c3',rfl,-⟩:=hat3.rows;obtain⟨wx,hwx⟩:∃ x,x=wr.alloc (.cells #[.string l[k].1,.int .i64 l[k].2.k,.string l[k].2.a,.string l[k].2.b,.slice ao3 l[k].2.ps.length c3'] 100):=⟨_,rfl⟩;have xrx:Ext wr wx:=by rw[hwx];exact Ext.alloc _ _
      have hbx:=(show Blk wx wr.heap.size #[.string l[k].1,.int .i64 l[k].2.k,.string l[k].2.a,.string l[k].2.b,.slice ao3 l[k].2.ps.length c3'] 100 from by rw[hwx];exact Blk.made _ _ _).cells;have HRX:=h! (HRR.out.below xrx);have HBX:=h! (show Below w.heap.size w wx from HBQ.out.trans (xrx.mono HBQ.out.size));have HAT:=h! hat3;have hne:br≠wr.heap.size:=by have:=HRR.out.lt;omega
      clear c0 c1 c2 c3 c4 hat3 xrx hbel;generalize l[k]=y at *;obtain⟨yn,p⟩:=y;dsimp only at *;by_cases he2:yn=rel
      ·have HF:=HFND he2;subst he2;have r3:=HRX.out.cells;have f3:=HRX.out.free;have hs1:=HRX.out.set_to 0 (.int .i64 p.k) rfl;have hs2:=hs1.set_to 1 (.string p.a) rfl;have hs3:=hs2.set_to 2 (.string p.b) rfl;have hs4:=hs3.set_to 3 (.slice ao3 p.ps.length c3') rfl;have HS4:=h! hs4;have HBE:=h! (show Below w.heap.size w ((((wx.setCell ⟨br,0,none⟩ (.int .i64 p.k)).setCell ⟨br,1,none⟩ (.string p.a)).setCell ⟨br,2,none⟩ (.string p.b)).setCell ⟨br,3,none⟩ (.slice ao3 p.ps.length c3'))from(((HBX.out.setCell HBR.out _).setCell HBR.out _).setCell HBR.out _).setCell HBR.out _);clear hs1 hs2 hs3 hs4 HUP2 HFND;subst hwx;go_wp2_with fail
       refine bodyPost_ret (v := .tuple #[.agg #[.int .i64 p.k,.string p.a,.string p.b,.slice ao3 p.ps.length c3'],.bool true]) ?_ rfl ⟨(p,.slice ao3 p.ps.length c3'),?_,?_,fun r hr=>?_,fun hr=>?_,HBE.out⟩
       ·rw[results_cell_tmp rfl];have hl:=run_loadVar_row (P:=Tryz.prog) _ br _ 98 _ _ _ HS4.out Tryz.underlying98 rfl (by kernel_rfl);simp[asAddr,hl,Result.andThen]
       ·unfold rvV rV;rw[HF.out];rfl
       ·exact HAT.out.same ((Same.below HBE.out).mono HSW.out)
       ·rw[HF.out]at hr;cases hr;rfl
       ·rw[HF.out]at hr;cases hr
      ·have HN:=HUP2 he2;have hne2:=ba_beq' he2;rw[<- ByteArray.toList_eq,<- ByteArray.toList_eq]at hne2;clear HUP2 HFND he2;subst hwx;go_wp2_with fail
       go_roundw
       case rel=>exact⟨k+1,by omega,by go_num,HN.out,HRX.out,HBX.out⟩
       case measure=>simp[intOf];omega
     ·obtain rfl:k=l.length:=by omega
      have HF:=h! (HM.out fun j hj=>HALL2.out j hj hj);have r3:=HRR.out.cells;have f3:=HRR.out.free;have hs1:=HRR.out.set_to 0 (.int .i64 0) rfl;have hs2:=hs1.set_to 1 (.string ⟨#[]⟩) rfl;have hs3:=hs2.set_to 2 (.string ⟨#[]⟩) rfl;have hs4:=hs3.set_to 3 (.slice none 0 0) rfl;have HS4:=h! hs4;have HBE:=h! (show Below w.heap.size w ((((wr.setCell ⟨br,0,none⟩ (.int .i64 0)).setCell ⟨br,1,none⟩ (.string ⟨#[]⟩)).setCell ⟨br,2,none⟩ (.string ⟨#[]⟩)).setCell ⟨br,3,none⟩ (.slice none 0 0))from(((HBQ.out.setCell HBR.out _).setCell HBR.out _).setCell HBR.out _).setCell HBR.out _);clear hs1 hs2 hs3 hs4 hbel;go_wp2_with fail
      refine bodyPost_ret (v := .tuple #[.agg #[.int .i64 0,.string ⟨#[]⟩,.string ⟨#[]⟩,.slice none 0 0],.bool false]) ?_ rfl ⟨(.mk 0 ByteArray.empty ByteArray.empty [],.slice none 0 0),?_,?_,fun r hr=>?_,fun hr=>rfl,HBE.out⟩
      ·rw[results_cell_tmp rfl];have hl:=run_loadVar_row (P:=Tryz.prog) _ br _ 98 _ _ _ HS4.out Tryz.underlying98 rfl (by kernel_rfl);simp[asAddr,hl,Result.andThen]
      ·rw[HF.out];rfl
      ·exact RTAt.nil _ _ _ _ _
      ·rw[HF.out]at hr;cases hr
   ·have HN:=HUP he;have hne:=ba_beq' he;rw[<- ByteArray.toList_eq,<- ByteArray.toList_eq]at hne;clear HUP HMISS HHIT he;go_wp2_with fail
    go_roundw
    case rel=>exact⟨i+1,by omega,by go_num,HN.out,HRT.out,HB1.out⟩
    case measure=>simp[intOf];omega
  ·obtain rfl:i=ts.length:=by omega
   have HF:=h! (refs_out (rel:=rel) fun j hj=>HALL.out j hj hj);have r3:=HRO.out.cells;have f3:=HRO.out.free;have hs1:=HRO.out.set_to 0 (.int .i64 0) rfl;have hs2:=hs1.set_to 1 (.string ⟨#[]⟩) rfl;have hs3:=hs2.set_to 2 (.string ⟨#[]⟩) rfl;have hs4:=hs3.set_to 3 (.slice none 0 0) rfl;have HS4:=h! hs4;have HBE:=h! (show Below w.heap.size w ((((wo.setCell ⟨br,0,none⟩ (.int .i64 0)).setCell ⟨br,1,none⟩ (.string ⟨#[]⟩)).setCell ⟨br,2,none⟩ (.string ⟨#[]⟩)).setCell ⟨br,3,none⟩ (.slice none 0 0))from(((HBO.out.setCell HBR.out _).setCell HBR.out _).setCell HBR.out _).setCell HBR.out _);clear hs1 hs2 hs3 hs4 hbel;go_wp2_with fail
   refine bodyPost_ret (v := .tuple #[.agg #[.int .i64 0,.string ⟨#[]⟩,.string ⟨#[]⟩,.slice none 0 0],.bool false]) ?_ rfl ⟨(.mk 0 ByteArray.empty ByteArray.empty [],.slice none 0 0),?_,?_,fun r hr=>?_,fun hr=>rfl,HBE.out⟩
   ·rw[results_cell_tmp rfl];have hl:=run_loadVar_row (P:=Tryz.prog) _ br _ 98 _ _ _ HS4.out Tryz.underlying98 rfl (by kernel_rfl);simp[asAddr,hl,Result.andThen]
   ·rw[HF.out];rfl
   ·exact RTAt.nil _ _ _ _ _
   ·rw[HF.out]at hr;cases hr
end Go.Proofs.YtjdigpfipmckhaaGreat
