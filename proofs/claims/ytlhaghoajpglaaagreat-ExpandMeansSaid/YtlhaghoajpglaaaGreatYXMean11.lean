/- Lemmas for the claim, no condition. -/
import Derived.Test.YtlhaghoajpglaaaGreatYXMean5
import Derived.Test.YtlhaghoajpglaaaGreatYXMean3
import Derived.Test.YtlhaghoajpglaaaGreatYXMean1
import Derived.Test.YtlhaghoajpglaaaGreatYXMean0
import Derived.Test.YtlhaghoajpglaaaGreatYXMean2
import Derived.Test.YtlhaghoajpglaaaGreatYXMean4
import Derived.Test.YtlhaghoajpglaaaGreatYXMean9
set_option maxRecDepth 100000
set_option maxHeartbeats 4000000
namespace Go.Proofs.YtlhaghoajpglaaaGreat
open Go Go.RowKit Go.Maps
theorem p3_eql (a b:P3)(W:World):(binOp BinOp.eql 32 (pV a) (pV b)).run Tryz.prog W = .ok (.bool (decide (a=b))) W:=by
 obtain⟨a1,a2,a3⟩:=a;obtain⟨b1,b2,b3⟩:=b;unfold pV;dsimp only;go_simp;simp only[ba_toList];by_cases h1:a1=b1 <;> by_cases h2:a2=b2 <;> by_cases h3:a3=b3 <;> simp[h1,h2,h3]
theorem sub_eql (a b:P3)(W:World):(binOp BinOp.eql 33 (pV a) (pV b)).run Tryz.prog W = .ok (.bool (decide (a=b))) W:=by
 obtain⟨a1,a2,a3⟩:=a;obtain⟨b1,b2,b3⟩:=b;unfold pV;dsimp only;go_simp;simp only[ba_toList];by_cases h1:a1=b1 <;> by_cases h2:a2=b2 <;> by_cases h3:a3=b3 <;> simp[h1,h2,h3]
theorem ltP_asym {a b:P3} (h:ltP a b=true):ltP b a=false:=by
 cases k:ltP b a with
 | false=>rfl
 | true=>have:=ltP_trans h k;rw[ltP_irr]at this;cases this
theorem upP_unique:∀ {a b:List P3},UpP a->UpP b->(∀ x,x∈a↔x∈b)->a=b
 | [],[],_,_,_=>rfl
 | [],y::b,_,_,h=>absurd ((h y).2 (by simp)) (by simp)
 | x::a,[],_,_,h=>absurd ((h x).1 (by simp)) (by simp)
 | x::a,y::b,ha,hb,h=>by
  obtain⟨ha1,ha2⟩:=List.pairwise_cons.1 ha;obtain⟨hb1,hb2⟩:=List.pairwise_cons.1 hb
  have hxy:x=y:=by
   rcases List.mem_cons.1 ((h x).1 (by simp))with e | hx
   ·exact e
   ·rcases List.mem_cons.1 ((h y).2 (by simp))with e | hy
    ·exact e.symm
    ·have h1:=ha1 y hy;rw[ltP_asym (hb1 x hx)]at h1;cases h1
  subst hxy;congr 1
  refine upP_unique ha2 hb2 fun z=>?_;constructor
  ·intro hz;rcases List.mem_cons.1 ((h z).1 (by simp[hz]))with rfl | k
   ·have:=ha1 z hz;rw[ltP_irr]at this;cases this
   ·exact k
  ·intro hz;rcases List.mem_cons.1 ((h z).2 (by simp[hz]))with rfl | k
   ·have:=hb1 z hz;rw[ltP_irr]at this;cases this
   ·exact k
structure GkAt (w:World)(gp B:Nat)(ps:List P3)(pv fv:Value):Prop where
 box:Blk w gp #[pv,fv] 96
 pts:Own w B 32 3 pv (pcs ps)
section
variable {w w' w0 : World} {gp B B' lo x : Nat} {pv fv pv' v sv rv qv : Value} {ps : List P3} {e : TypeId} {sz : Nat} {xs : List Value} {k : Int} {subs : List P3} {refs : List Int} {q : List (FT × FV3)}
theorem GkAt.ext (h:GkAt w gp B ps pv fv)(hx:Ext w w'):GkAt w' gp B ps pv fv:=⟨h.box.below hx,h.pts.below hx⟩
theorem GkAt.same (h:GkAt w gp B ps pv fv)(h1:w'.heap[gp]?=w.heap[gp]?)(h3:∀ g,pv.ownBlock=some g->w'.heap[g]?=w.heap[g]?):GkAt w' gp B ps pv fv:=⟨h1.trans h.box,h.pts.keepOwn h3⟩
theorem GkAt.ptNe (h:GkAt w gp B ps pv fv):∀ g,pv.ownBlock=some g->g≠gp:=fun g hg e=>by
 obtain⟨cur,h2⟩:=h.pts.typed hg;subst e;rw[show w.heap[g]?=_ from h.box]at h2;injection h2 with h2
 injection h2 with _ h2 _
 exact absurd h2 (by decide)
theorem GkAt.un (h:GkAt w gp B ps pv fv) {x:Nat} {cs:Array Value} {fr:Nat × Nat} (hx:w.heap[x]?=some (.cells cs e fr))(he:e≠32)(he2:e≠96):KX gp gp w pv x:=by
 have hne:x≠gp:=fun e=>by
  subst e;rw[show w.heap[x]?=_ from h.box]at hx;injection hx with hx
  injection hx with _ hx _
  exact he2 hx.symm
 refine⟨(Array.getElem?_eq_some_iff.1 hx).1,hne,hne,fun e=>?_⟩;obtain⟨c,hc⟩:=h.pts.typed e;rw[hc]at hx;injection hx with hx
 injection hx with _ hx _
 exact he hx.symm
theorem Fine.gpk (h:Fine gp gp w w' pv pv')(hw:GkAt w gp B ps pv fv)(hB:B<=gp):PKept (· = gp) B w w':=h.kept.mono fun x hx=>by
 rcases hx with hx | ⟨h1,h2,h3⟩
 ·exact⟨by have:=hw.box.lt;omega,by omega,by omega,fun e=>by have:=(hw.pts.block x e).1;omega⟩
 ·refine⟨h2,h1,h1,fun e=>?_⟩;obtain⟨c,hc⟩:=hw.pts.typed e;exact h3 c hc
theorem Fine.gblk (h:Fine gp gp w w' pv pv')(hw:GkAt w gp B ps pv fv) {x:Nat} {cs:Array Value} (hx:Blk w x cs e)(he:e≠32)(he2:e≠96):Blk w' x cs e:=(h.kept.block x (hw.un hx he he2)).trans hx
theorem Fine.grow (h:Fine gp gp w w' pv pv')(hw:GkAt w gp B ps pv fv)(ho:Own w B' e sz v xs)(he:e≠32)(he2:e≠96):Own w' B' e sz v xs:=ho.keepOwn fun g hg=>by
 obtain⟨c,hc⟩:=ho.typed hg;exact h.kept.block g (hw.un hc he he2)
theorem GkAt.grown (h:GkAt w gp B ps pv fv)(ho:Own w B' e sz v xs)(he:e≠32)(he2:e≠96)(hg:w.grownBy w' v.ownBlock):GkAt w' gp B ps pv fv:=by
 refine h.same (hg.block gp h.box.lt fun e=>?_) fun g hgp=>hg.block g (h.pts.block g hgp).2 fun e=>?_
 ·obtain⟨c,hc⟩:=ho.typed e.symm;exact(h.un hc he he2).2.1 rfl
 ·obtain⟨c,hc⟩:=ho.typed e.symm;exact(h.un hc he he2).2.2.2 hgp
theorem GkAt.setBox (h:GkAt w gp B ps pv fv) {x i:Nat} {cs:Array Value} (hx:Blk w x cs e)(he:e≠32)(he2:e≠96)(u:Value):GkAt (w.setCell ⟨x,i,none⟩ u) gp B ps pv fv:=by
 have hu:=h.un hx he he2;exact h.same (Below.heap_setCell _ _ _ _ fun e=>hu.2.1 e.symm) fun g hg=>Below.heap_setCell _ _ _ _ fun e=>hu.2.2.2 (by rw[hg,show g=x from e])
theorem FmAt.gfine (h:FmAt w lo x k subs refs q sv rv qv)(hw:GkAt w gp B ps pv fv)(hf:Fine gp gp w w' pv pv')(hB:B<=gp)(hM:gp<lo):FmAt w' lo x k subs refs q sv rv qv :=
 ⟨hf.gblk hw h.box (by decide) (by decide),hf.grow hw h.subs (by decide) (by decide),hf.grow hw h.refs (by decide) (by decide),h.parts.keep (hf.gpk hw hB) fun x hx=>by
  rw[show x=gp from hx];exact hM⟩
end
theorem grown_blk {w w':World} {B sz x:Nat} {e t:TypeId} {v:Value} {xs:List Value} {cs:Array Value} (ho:Own w B e sz v xs)(hg:w.grownBy w' v.ownBlock)(hx:Blk w x cs t)(hne:t≠e):Blk w' x cs t :=
 (hg.block x hx.lt fun hv=>by
  obtain⟨c2,h2⟩:=ho.typed hv.symm;rw[show w.heap[x]?=_ from hx]at h2;exact hne (by injection Option.some.inj h2)).trans hx
theorem grown_below {w0 w w':World} {B sz:Nat} {e:TypeId} {v:Value} {xs:List Value} (h:Below B w0 w)(ho:Own w B e sz v xs)(hg:w.grownBy w' v.ownBlock)(hB:B<=w.heap.size):Below B w0 w' :=
 h.trans ⟨hg.os,hg.tape,hg.output,hg.size,fun x hx=>hg.block x (by omega) fun e=>by have:=(ho.block x e.symm).1;omega⟩
theorem numD_at {ps:List P3} {p:P3} {i:Nat} (hi:i<ps.length)(h:ps[i]=p)(hn:∀ j (hj:j<ps.length),j<i->ps[j]≠p):numD ps p=i:=by
 unfold numD;rw[List.findIdx_eq hi];exact⟨by simpa using h,fun j hj=>by simpa using hn j (by omega) hj⟩
theorem number26_any (gp B:Nat)(pv fv:Value)(ps:List P3)(p:P3)(w:World)(h:GkAt w gp B ps pv fv)(hB:B<=gp)(hl:ps.length<=1073741824) :
  Calls Tryz.prog 165 #[.pointer (some ⟨gp,0,none⟩),pV p] w fun e w'=>∃ pv',e = .returned (.int .i64 (numD ps p:Nat))/\GkAt w' gp B (putP ps p) pv' fv/\Fine gp gp w w' pv pv':=by
 have HBB:=h! hB;have HB0:=h! (show B<=w.heap.size from by have:=h.box.lt;omega);have HPT:=h! h.ptNe;have HPL:=h! h.pts.block;obtain⟨po,pc,rfl,hlc,hcm,-⟩:=Sl.rows pC_length (by decide) (show Sl _ w 3 pv (ps.flatMap pC)from h.pts.sl);have HNW:=h! (numD_new ps p);have HAT:=h! (fun i hi=>numD_at (ps:=ps) (p:=p) (i:=i) hi);have HPP:=h! (show putP ps p=if p∈ps then ps else ps++[p]from rfl);obtain⟨pt,pi,pr⟩:=p;have hx1:=Ext.alloc w (.cells #[.string pt,.string pi,.string pr] 32);have HW1:=h! (h.ext hx1);have HP1:=h! (Blk.made w #[.string pt,.string pi,.string pr] 32);have HX1:=h! hx1;have hgc:=HW1.out.box.cells;clear hx1 h hB;unfold pV;dsimp only;go_enter Tryz.func165,Tryz.ntmps165
 go_wp2_with fail
 clear hgc;obtain⟨w1,hw1⟩:∃ x,x=w.alloc (.cells #[.string pt,.string pi,.string pr] 32):=⟨_,rfl⟩;rw[<- hw1]at HW1 HP1 HX1 ⊢;clear hw1;go_loopw [12] (fun ii wr=>∃ i:Nat,i<=ps.length/\ii = .int .i64 i/\(∀ j (hj:j<ps.length),j<i->ps[j]≠⟨pt,pi,pr⟩)/\Ext w1 wr) (fun ii _=>ps.length-(intOf ii).toNat)
 case atStart=>exact⟨0,Nat.zero_le _,rfl,fun _ _ h=>absurd h (Nat.not_lt_zero _),Ext.refl _⟩
 case round =>
  obtain⟨i,hi,rfl,hall,hxr⟩:=hrel;have HALL:=h! hall;have HXR:=h! hxr;clear hall hxr;by_cases hlt:i<ps.length
  ·obtain⟨ao',c',he',-,-,hcell⟩:=Sl.rows pC_length (by decide) (show Sl _ wr 3 (.slice po ps.length pc) (ps.flatMap pC)from(HW1.out.pts.below HXR.out).sl);cases he';obtain⟨b,off,rfl,-,hcell⟩:=hcell (by omega);have hck:=hcell i hlt;clear hcell;have HEQ:=h! (fun(h:ps[i]=⟨pt,pi,pr⟩)=>HAT.out i hlt h HALL.out);have HMEM:=h! (fun(h:ps[i]=(⟨pt,pi,pr⟩:P3))=>h▸List.getElem_mem hlt);have HNX:=h! (fun(h:ps[i]≠⟨pt,pi,pr⟩)=>upto_succ (p:=fun j hj=>ps[j]≠⟨pt,pi,pr⟩) HALL.out hlt h);have HLT:=h! hlt;have hli:(i:Int)<(ps.length:Int):=by omega
   have HII:=h! (show ps.length<=1073741824 from hl);generalize ps[i]=x at *;have hqe:=fun W=>p3_eql x ⟨pt,pi,pr⟩ W;by_cases he:x=⟨pt,pi,pr⟩
   ·rw[decide_eq_true he]at hqe;have HE:=h! (HEQ.out he);have HM:=h! (show putP ps ⟨pt,pi,pr⟩=ps from by rw[HPP.out,if_pos (HMEM.out he)]);clear HEQ HMEM HNX;obtain⟨xt,xi,xr⟩:=x;unfold pV at hqe;dsimp only at hqe;have c0:wr.cell? ⟨b,off+i*3,none⟩=some (.string xt):=hck 0 _ rfl;have c1:=hck 1 _ rfl;have c2:=hck 2 _ rfl;clear hck he;have HX2:=h! (Ext.alloc wr (.cells #[.string xt,.string xi,.string xr] 32));have hxc:=(Blk.made wr #[.string xt,.string xi,.string xr] 32).cells;have hpc:=((HP1.out.below HXR.out).below HX2.out).cells;clear hl hlt;go_wp2_with fail
    go_ret
    exact⟨by rw[HE.out];rfl,.slice (some ⟨b,off,none⟩) ps.length pc,by rw[HM.out];exact(HW1.out.ext HXR.out).ext HX2.out,Fine.of _ _ _ (HX1.out.trans (HXR.out.trans HX2.out))⟩
   ·rw[decide_eq_false he]at hqe;have HN:=h! (HNX.out he);clear HEQ HMEM HNX;obtain⟨xt,xi,xr⟩:=x;unfold pV at hqe;dsimp only at hqe;have c0:wr.cell? ⟨b,off+i*3,none⟩=some (.string xt):=hck 0 _ rfl;have c1:=hck 1 _ rfl;have c2:=hck 2 _ rfl;clear hck he;have HX2:=h! (Ext.alloc wr (.cells #[.string xt,.string xi,.string xr] 32));have hxc:=(Blk.made wr #[.string xt,.string xi,.string xr] 32).cells;have hpc:=((HP1.out.below HXR.out).below HX2.out).cells;clear hlt;go_wp2_with fail
    go_roundw
    case rel=>exact⟨i+1,HLT.out,by go_num,HN.out,HXR.out.trans HX2.out⟩
    case measure=>have:=HLT.out;simp[intOf];omega
  ·obtain rfl:i=ps.length:=by omega
   have hm:(⟨pt,pi,pr⟩:P3)∉ps:=fun h=>by
    obtain⟨j,hj,e⟩:=List.getElem_of_mem h;exact HALL.out j hj hj e
   have HR:=h! (show putP ps ⟨pt,pi,pr⟩=ps++[⟨pt,pi,pr⟩]from by rw[HPP.out,if_neg hm]);have HNN:=h! (HNW.out hm);have HLL:=h! hl;clear hm hl hlt;go_wp2_with fail
   obtain⟨wg,hwg⟩:∃ wg,wg=wr.drew:=⟨_,rfl⟩;have HXg:=h! (show Ext w wg from by rw[hwg];exact HX1.out.trans (HXR.out.trans (Ext.drew _)));have HGg:=h! (show GkAt wg gp B ps (.slice po ps.length pc) fv from by rw[hwg];exact(HW1.out.ext HXR.out).ext (Ext.drew _));have HPg:=h! (show Blk wg w.heap.size _ _ from by rw[hwg];exact(HP1.out.below HXR.out).drew);refine region_walkL 10 (Kept (fun x=>x<wg.heap.size/\Value.ownBlock (.slice po ps.length pc)≠some x) wg) (by rw[<- hwg];exact Kept.refl _ _) (by kernel_rfl) (by kernel_rfl) (fun _ _ d _ _ h=>by cases d <;> exact h) ?_;rw[<- hwg];clear hwg;have h1:=fun W (h:Kept (fun x=>x<wg.heap.size/\Value.ownBlock (.slice po ps.length pc)≠some x) wg W)=>(h.blk HGg.out.box ⟨HGg.out.box.lt,fun e=>HPT.out _ e rfl⟩).cells;have h2:=fun W (h:Kept (fun x=>x<wg.heap.size/\Value.ownBlock (.slice po ps.length pc)≠some x) wg W)=>(h.blk HPg.out ⟨HPg.out.lt,fun e=>by have:=(HPL.out _ e).2;omega⟩).cells;(refine WalkL.tk [0,1,2,3,4,5] ?_;(iterate 6 (refine l! ?_));refine TkL.n ?_)
   clear h1 h2;have hE1:Ext wg (wg.alloc (.cells #[.string pt,.string pi,.string pr] 32)):=Ext.alloc _ _;refine oL! 6 ?_;refine b! ?_;intro K hK;go_simp;refine hK.out _ _ ((Kept.refl _ _).alloc (fun x hx=>hx.1) _) ?_;clear hK;refine oL! 7 ?_;refine b! ?_;intro K hK;refine wp_ownw pointsT (.tmp 26) (.tmp 28) rfl rfl (HGg.out.pts.below hE1) (m:=1) (news:=pC ⟨pt,pi,pr⟩) rfl rfl (fun j u hu=>?_) (pC_one _) (by rw[pcs_length,pC_length];have:=HLL.out;omega) (by rw[pcs_length,pC_length];have:=HLL.out;omega) (by have:=HXg.out.size;have:=HB0.out;simp;omega) (fun v2 w2 hown2 hw2 hg2=>?_)
   ·rw[Addr.add_lit,cell_of_row _ wg.heap.size (0+j) #[.string pt,.string pi,.string pr] 32 (0,0) (heap_alloc_new wg _),Nat.zero_add];simpa [pC] using hu
   have hkg:Kept (fun x=>x<wg.heap.size/\Value.ownBlock (.slice po ps.length pc)≠some x) wg w2:=⟨hg2.os.trans rfl,hg2.tape.trans rfl,hg2.output.trans rfl,Nat.le_trans (by simp) hg2.size,fun x hx=>(hg2.block x (by have:=hx.1;simp;omega) (fun e=>hx.2 e.symm)).trans (Below.heap_alloc wg _ x hx.1)⟩;have HQ2:=h! (show Kept (KX gp gp w (.slice po ps.length pc)) w w2 from(show Kept (KX gp gp w (.slice po ps.length pc)) w wg from Below.kept HXg.out fun x hx=>hx.1).trans (hkg.mono fun x hx=>⟨Nat.lt_of_lt_of_le hx.1 HXg.out.size,hx.2.2.2⟩));have HWH:=h! (show ∀ g,v2.ownBlock=some g->(Value.slice po ps.length pc).ownBlock=some g\/w.heap.size<=g from fun g hg=>(hw2 g hg).imp id fun e=>by have:=HXg.out.size;simp at e;omega);have HB2:=h! (hkg.blk HGg.out.box ⟨HGg.out.box.lt,fun e=>HPT.out _ e rfl⟩);refine hK.out _ _ hkg ?_;clear hK;simp only[Act.put,pA,pZ,pS];have HO2:=h! (show Own w2 B 32 3 v2 (pcs (ps++[⟨pt,pi,pr⟩]))from by rw[pcs_append,pcs_single];exact hown2);have HW2:=h! (show ∀ g,v2.ownBlock=some g->g≠gp from fun g hg=>(hw2 g hg).elim (fun e=>HPT.out g e) (fun e=>by have h2:=HGg.out.box.lt;simp at e;omega));obtain⟨o2,c2,hv2,-,-,-⟩:=Sl.rows pC_length (by decide) (show Sl _ w2 3 v2 (List.flatMap pC (ps++[⟨pt,pi,pr⟩]))from HO2.out.sl);rw[List.length_append,List.length_singleton]at hv2;subst hv2;clear hkg hown2 hw2 hg2 hE1 HGg HPg;(refine WalkL.tk [8,9] ?_;(iterate 2 (refine l! ?_));refine TkL.n ?_)
   have hbf:=HB2.out.cells;have hbz:=HB2.out.free;refine WalkL.last (by kernel_rfl) (by kernel_rfl) ?_;refine b! ?_;intro K hK;go_simp;refine hK.out _ _ ?_;clear hK hbf hbz;have HB3:=h! (HB2.out.set_to 0 (.slice o2 (ps.length+1) c2) rfl);have hb3:=HB3.out.cells;have HWI:=h! (show wrap64 ((ps.length+1:Nat)-1:Int)=(ps.length:Int)from by have:=HLL.out;unfold wrap64;omega);clear hi;go_wp2_with fail
   go_ret
   refine⟨.slice o2 (ps.length+1) c2,?_,?_,?_⟩
   ·rw[HNN.out];refine congrArg Ending.returned ?_;rfl
   ·rw[HR.out];exact⟨HB3.out,HO2.out.keepOwn fun g hg=>Below.heap_setCell _ _ _ _ (HW2.out g hg)⟩
   ·exact⟨HQ2.out.set (fun h=>h.2.1 rfl) _,HWH.out⟩
theorem put26_any {B:Nat} (v:Value)(l:List Int)(n:Int)(w:World)(h:Own w B 3 1 v (ic l))(hl:l.length<=1099511627776)(hB:B<=w.heap.size) :
  Calls Tryz.prog 164 #[v,.int .i64 n] w fun e w'=>∃ v',e = .returned v'/\Own w' B 3 1 v' (ic (if n∈l then l else l++[n]))/\Kept (fun b=>b<w.heap.size/\v.ownBlock≠some b) w w'/\(∀ g,v'.ownBlock=some g->v.ownBlock=some g\/w.heap.size<=g):=by
 obtain⟨ao,m,c,rfl,hm,-,-⟩:=h.sl.len;rw[ic_length]at hm;obtain rfl:m=l.length:=by omega
 obtain⟨r,hr⟩:∃ r,r=if n∈l then l else l++[n]:=⟨_,rfl⟩;rw[<- hr];have HRR:=h! hr;have HO:=h! h;have HL:=h! hl;have HB:=h! hB;clear h hm hl hB hr;go_enter Tryz.func164,Tryz.ntmps164
 go_wp2_with fail
 go_loopw [9] (fun ii wr=>∃ i:Nat,i<=l.length/\ii = .int .i64 i/\(∀ j (hj:j<l.length),j<i->l[j]≠n)/\wr=w) (fun ii _=>l.length-(intOf ii).toNat)
 case atStart=>exact⟨0,Nat.zero_le _,rfl,fun _ _ h=>absurd h (Nat.not_lt_zero _),rfl⟩
 case round =>
  obtain⟨i,hi,rfl,hall,rfl⟩:=hrel;have HALL:=h! hall;clear hall;by_cases hlt:i<l.length
  ·obtain⟨a1,n1,c1,hv,-,-,-,-,hcell⟩:=HO.out.sl;cases hv;obtain⟨b,off,rfl,-,hcell⟩:=hcell (by intro h;have:=congrArg List.length h;rw[ic_length]at this;rw[List.length_nil]at this;omega);have c0:=hcell i (.int .i64 l[i]) (by simp[ic,List.getElem?_eq_getElem hlt]);clear hcell;have HMEM:=h! (fun(h:l[i]=n)=>show r=l from by rw[HRR.out,if_pos (h▸List.getElem_mem hlt)]);have HNX:=h! (fun(h:l[i]≠n)=>upto_succ (p:=fun j hj=>l[j]≠n) HALL.out hlt h);have HLT:=h! hlt;have hli:(i:Int)<(l.length:Int):=by omega
   have HII:=h! HL.out;generalize l[i]=x at *;clear hlt;by_cases he:x=n
   ·have HR:=h! (HMEM.out he);have hb:(x == n)=true:=by simpa using he
    clear HMEM HNX he;go_wp2_with fail
    go_ret
    exact⟨_,rfl,by rw[HR.out];exact HO.out,Kept.refl _ _,fun g hg => .inl hg⟩
   ·have HN:=h! (HNX.out he);have hb:(x == n)=false:=by simpa using he
    have HWI:=h! (show wrap64 ((i:Int)+1)=((i+1:Nat):Int)from by have:=HL.out;have:=HLT.out;unfold wrap64;omega);clear HMEM HNX he;go_wp2_with fail
    go_roundw
    case rel=>exact⟨i+1,HLT.out,by rw[HWI.out],HN.out,trivial⟩
    case measure=>have:=HLT.out;rw[HWI.out];simp[intOf];omega
  ·obtain rfl:i=l.length:=by omega
   have hm:n∉l:=fun h=>by
    obtain⟨j,hj,e⟩:=List.getElem_of_mem h;exact HALL.out j hj hj e
   have HR:=h! (show r=l++[n]from by rw[HRR.out,if_neg hm]);clear hm hlt hi;have HX:=h! (Ext.alloc wr (.cells #[.int .i64 n] 3));go_wp2_with (at_builtin;go_must (refine wpList_ownw intsT rfl (.tmp 18) (.tmp 20) rfl rfl (HO.out.below HX.out) rfl (m:=1) (news:=[.int .i64 n]) rfl (by intro j u hu;rw[Addr.add_lit,cell_of_row _ wr.heap.size (0+j) #[.int .i64 n] 3 (0,0) (heap_alloc_new wr _)];simpa using hu) (by simp[Value.oneCell']) (by have:=HL.out;rw[ic_length];simp;omega) (by have:=HL.out;rw[ic_length];simp;omega) (by have:=HB.out;simp;omega) ?_;intro v6 w6 hown6 hb6 hg6;have HO6:=h! (show Own w6 B 3 1 v6 (ic (l++[n]))from by rw[ic_append];exact hown6);have HB6:=h! (show ∀ g,v6.ownBlock=some g->(Value.slice ao l.length c).ownBlock=some g\/(wr.alloc (.cells #[.int .i64 n] 3)).heap.size<=g from hb6);have HG6:=h! (show(wr.alloc (.cells #[.int .i64 n] 3)).grownBy w6 (Value.slice ao l.length c).ownBlock from hg6);clear hown6 hb6 hg6))
   go_ret
   exact⟨_,rfl,by rw[HR.out];exact HO6.out,⟨HG6.out.os.trans rfl,HG6.out.tape.trans rfl,HG6.out.output.trans rfl,Nat.le_trans HX.out.size HG6.out.size,fun b hb=>(HG6.out.block b (Nat.lt_of_lt_of_le hb.1 HX.out.size) fun e=>hb.2 e.symm).trans (HX.out.block b hb.1)⟩,fun g hg=>(HB6.out g hg).imp id fun h=>Nat.le_trans HX.out.size h⟩
theorem obj_eqlG (a1 a2 b1 b2:ByteArray)(W:World):(binOp BinOp.eql 30 (.agg #[.string a1,.string a2]) (.agg #[.string b1,.string b2])).run Tryz.prog W = .ok (.bool (decide (a1=b1/\a2=b2))) W:=by
 go_simp;simp only[ba_toList];by_cases h1:a1=b1 <;> by_cases h2:a2=b2 <;> simp[h1,h2]
theorem str_beq (a b:ByteArray):(a.toList == b.toList)=decide (a=b):=by
 by_cases h:a=b
 ·subst h;simp
 ·rw[decide_eq_false h,ByteArray.toList_eq,ByteArray.toList_eq,ba_beq' h]
theorem subsOf_take {T:List Tup} {p:P3} {i:Nat} (h:i<T.length):subsOf (T.take (i+1)) p=if T[i].o=p then subsOf (T.take i) p++[T[i].s]else subsOf (T.take i) p:=by
 rw[List.take_succ_eq_append_getElem h,subsOf_snoc]
theorem subs25_any {S:Nat->Prop} (v:Value)(T:List Tup)(p:P3)(w:World)(hS:∀ x,S x->x<w.heap.size)(h:Sl S w 6 v (tuCs T))(hl:T.length<=1000000000) :
  Calls Tryz.prog 163 #[v,pV p] w fun e w'=>∃ v',e = .returned v'/\Own w' w.heap.size 33 3 v' (pcs (subsOf T p))/\Ext w w':=by
 obtain⟨ao,c,rfl,hlc,hcm,hrow⟩:=tups_rows h;have HR:=h! hrow;have HL:=h! hl;have HSS:=h! hS;obtain⟨pt,pi,pr⟩:=p;have hx1:=Ext.alloc w (.cells #[.string pt,.string pi,.string pr] 32);have HP1:=h! (Blk.made w #[.string pt,.string pi,.string pr] 32);have HX1:=h! hx1;clear hrow hl h hx1 hS;unfold pV;dsimp only;go_enter Tryz.func163,Tryz.ntmps163
 go_wp2_with fail
 obtain⟨w1,hw1⟩:∃ x,x=w.alloc (.cells #[.string pt,.string pi,.string pr] 32):=⟨_,rfl⟩;rw[<- hw1]at HP1 HX1 ⊢;clear hw1;go_loopw [5,10] (fun ov ii wr=>∃ i:Nat,i<=T.length/\ii = .int .i64 i/\Own wr w.heap.size 33 3 ov (pcs (subsOf (T.take i) ⟨pt,pi,pr⟩))/\Blk wr w.heap.size #[.string pt,.string pi,.string pr] 32/\Below w.heap.size w wr) (fun _ ii _=>T.length-(intOf ii).toNat)
 case atStart=>exact⟨0,Nat.zero_le _,rfl,Own.nil _ _ _ _,HP1.out,HX1.out⟩
 case round =>
  obtain⟨i,hi,rfl,hown,hb1,hbw⟩:=hrel;have HOWN:=h! hown;have HB1:=h! hb1;have HBW:=h! hbw;clear hown hb1 hbw;by_cases hlt:i<T.length
  ·obtain⟨b,off,rfl,hSb,c0,c1,c2,c3,c4,c5⟩:=HR.out i hlt;have hlw:=HSS.out b hSb;have d0:=(HBW.out.cell (p:=⟨b,off+i*6,none⟩) hlw).trans c0;have d1:=(HBW.out.cell (p:=⟨b,off+i*6+1,none⟩) hlw).trans c1;have d2:=(HBW.out.cell (p:=⟨b,off+i*6+2,none⟩) hlw).trans c2;have d3:=(HBW.out.cell (p:=⟨b,off+i*6+3,none⟩) hlw).trans c3;have d4:=(HBW.out.cell (p:=⟨b,off+i*6+4,none⟩) hlw).trans c4;have d5:=(HBW.out.cell (p:=⟨b,off+i*6+5,none⟩) hlw).trans c5;have HTK:=h! (subsOf_take (p:=⟨pt,pi,pr⟩) hlt)
   have HSL:=h! (show(subsOf (T.take i) ⟨pt,pi,pr⟩).length<=1000000000 from by
    unfold subsOf;rw[List.length_map];refine Nat.le_trans (List.length_filter_le _ _) ?_;rw[List.length_take];have:=HL.out;omega)
   have HLT:=h! hlt;have HWI:=h! (show wrap64 ((i:Int)+1)=((i+1:Nat):Int)from by have:=HL.out;unfold wrap64;omega);have hli:(i:Int)<(T.length:Int):=by omega
   clear c0 c1 c2 c3 c4 c5 hlw hSb;generalize T[i]=x at *;clear hlt;generalize subsOf (T.take i) ⟨pt,pi,pr⟩=sl at *;generalize hs2:subsOf (T.take (i+1)) ⟨pt,pi,pr⟩=sl2 at *;have HS2:=h! hs2;clear hs2;obtain⟨⟨ot,oi,or_⟩,⟨st,si,sr⟩⟩:=x;dsimp only at d0 d1 d2 d3 d4 d5 HTK;have HX2:=h! (Ext.alloc wr (.cells #[.string ot,.string oi,.string or_,.string st,.string si,.string sr] 67));have hxc:=(Blk.made wr #[.string ot,.string oi,.string or_,.string st,.string si,.string sr] 67).cells;have hpc:=(HB1.out.below HX2.out).cells;have hob:=fun W=>obj_eqlG ot oi pt pi W;have hrb:=str_beq or_ pr;by_cases h1:ot=pt/\oi=pi
   ·rw[decide_eq_true h1]at hob;by_cases h2:or_=pr
    ·have HY:=h! (show sl2=sl++[⟨st,si,sr⟩]from by rw[HTK.out,if_pos (by rw[h1.1,h1.2,h2])]);rw[decide_eq_true h2]at hrb;clear h1 h2;have HX3:=h! (Ext.alloc (wr.alloc (.cells #[.string ot,.string oi,.string or_,.string st,.string si,.string sr] 67)) (.cells #[.string st,.string si,.string sr] 33));have HLB:=h! (Blk.made' (w:=wr.alloc (.cells #[.string ot,.string oi,.string or_,.string st,.string si,.string sr] 67)) (B:=wr.heap.size+1) (by simp) #[.string st,.string si,.string sr] 33);go_wp2_with (at_builtin;go_must (refine wpList_ownw subsT rfl (.tmp 26) (.tmp 29) rfl rfl ((HOWN.out.below HX2.out).below HX3.out) rfl (m:=1) (news:=pC ⟨st,si,sr⟩) rfl (by intro j u hu;rw[Addr.add_lit,Nat.zero_add];exact(HLB.out.cells j).trans (by simpa [pC] using hu)) (pC_one _) (by have:=HSL.out;rw[pcs_length,pC_length];omega) (by have:=HSL.out;rw[pcs_length,pC_length];omega) (by have:=HBW.out.size;have:=HX2.out.size;have:=HX3.out.size;omega) ?_;intro v6 w6 hown6 hb6 hg6;have HO6:=h! (show Own w6 w.heap.size 33 3 v6 (pcs (sl++[⟨st,si,sr⟩]))from by rw[pcs_append,pcs_single];exact hown6);have HP6:=h! (grown_blk ((HOWN.out.below HX2.out).below HX3.out) hg6 ((HB1.out.below HX2.out).below HX3.out) (by decide));have HW6:=h! (grown_below (HBW.out.trans ((HX2.out.trans HX3.out).mono HBW.out.size)) ((HOWN.out.below HX2.out).below HX3.out) hg6 (by have:=HBW.out.size;have:=HX2.out.size;have:=HX3.out.size;omega));clear hown6 hb6 hg6))
     go_roundw
     case rel=>exact⟨i+1,HLT.out,by first | rw[HWI.out] | go_num,by rw[HS2.out,HY.out];exact HO6.out,HP6.out,HW6.out⟩
     case measure=>have:=HLT.out;(try rw[HWI.out]);simp[intOf];omega
    ·have HY:=h! (show sl2=sl from by rw[HTK.out,if_neg (by simp[h2])]);rw[decide_eq_false h2]at hrb;clear h1 h2;go_wp2_with fail
     go_roundw
     case rel=>exact⟨i+1,HLT.out,by first | rw[HWI.out] | go_num,by rw[HS2.out,HY.out];exact HOWN.out.below HX2.out,HB1.out.below HX2.out,HBW.out.trans (HX2.out.mono HBW.out.size)⟩
     case measure=>have:=HLT.out;(try rw[HWI.out]);simp[intOf];omega
   ·have HY:=h! (show sl2=sl from by rw[HTK.out,if_neg (fun e=>h1 ⟨by injection e,by injection e⟩)]);rw[decide_eq_false h1]at hob;clear h1 hrb;go_wp2_with fail
    go_roundw
    case rel=>exact⟨i+1,HLT.out,by first | rw[HWI.out] | go_num,by rw[HS2.out,HY.out];exact HOWN.out.below HX2.out,HB1.out.below HX2.out,HBW.out.trans (HX2.out.mono HBW.out.size)⟩
    case measure=>have:=HLT.out;(try rw[HWI.out]);simp[intOf];omega
  ·obtain rfl:i=T.length:=by omega
   rw[List.take_length]at HOWN;go_wp2_with fail
   go_ret
   exact⟨_,rfl,HOWN.out,HBW.out⟩
end Go.Proofs.YtlhaghoajpglaaaGreat
namespace Go.Proofs.YtlhaghoajpglaaaGreat
open Go Go.RowKit Go.Maps Go.Shelf
theorem find06_at (ts:List TyS)(tv:Value)(ty rel:ByteArray)(w:World) {S:Nat->Prop} (hSw:∀ b,S b->b<w.heap.size)(h:TysAt S w ts tv)(hu:uniqOk ts=true) :
  Calls Tryz.prog 110 #[.agg #[tv],.string ty,.string rel] w fun e w'=>∃ z:RV,e = .returned (.tuple #[rvV z,.bool (lookA (refsOf ts) ⟨ty,rel⟩).isSome])/\RTAt S w' z.1 z.2/\(∀ r,lookA (refsOf ts) ⟨ty,rel⟩=some r->z.1=r)/\(lookA (refsOf ts) ⟨ty,rel⟩=none->z=(.mk 0 ByteArray.empty ByteArray.empty [],.slice none 0 0))/\Below w.heap.size w w':=by
 obtain⟨ao,c,rfl,hlc,hcm,hcell⟩:=h.rows;have HC:=h! hcell;have HSW:=h! hSw;have HU:=h! hu;obtain⟨w1,hw1⟩:∃ x,x=w.alloc (.cells #[.slice ao ts.length c] 26):=⟨_,rfl⟩;obtain⟨w2,hw2⟩:∃ x,x=w1.alloc (.cells #[.int .i64 0,.string ⟨#[]⟩,.string ⟨#[]⟩,.slice none 0 0] 106):=⟨_,rfl⟩;have e1:w1.heap.size=w.heap.size+1:=by rw[hw1];simp
 have x01:Ext w w1:=by rw[hw1];exact Ext.alloc _ _
 have x12:Ext w1 w2:=by rw[hw2];exact Ext.alloc _ _
 have hs2:=(show Blk w2 w.heap.size #[.slice ao ts.length c] 26 from Blk.below (by rw[hw1];exact Blk.made _ _ _) x12).cells;have HR:=h! (show Blk w2 (w.heap.size+1) #[.int .i64 0,.string ⟨#[]⟩,.string ⟨#[]⟩,.slice none 0 0] 106 from by rw[hw2,<- e1];exact Blk.made _ _ _);have HB2:=h! (show Below w.heap.size w w2 from x01.trans x12);subst hw2 hw1;clear h hcell hu e1 x01 x12;go_enter Tryz.func110,Tryz.ntmps110
 go_wp2_with fail
 obtain⟨w2,hw2⟩:∃ x,x=(w.alloc (.cells #[.slice ao ts.length c] 26)).alloc (.cells #[.int .i64 0,.string ⟨#[]⟩,.string ⟨#[]⟩,.slice none 0 0] 106):=⟨_,rfl⟩;rw[<- hw2]at HR HB2 ⊢;clear hw2 hs2;obtain⟨br,hbr⟩:∃ x,x=w.heap.size+1:=⟨_,rfl⟩;rw[<- hbr]at HR ⊢;have HBR:=h! (show w.heap.size<=br from by omega);clear hbr;go_loopw [15] (fun ii wr=>∃ i:Nat,i<=ts.length/\ii = .int .i64 i/\(∀ j (hj:j<ts.length),j<i->ts[j].name≠ty)/\Blk wr br #[.int .i64 0,.string ⟨#[]⟩,.string ⟨#[]⟩,.slice none 0 0] 106/\Below w.heap.size w wr) (fun ii _=>ts.length-(intOf ii).toNat)
 case atStart=>exact⟨0,by omega,rfl,fun _ _ h=>absurd h (by omega),HR.out,HB2.out⟩
 case round =>
  rename World=>wo
  obtain⟨i,hi,rfl,hall,hblk,hbel⟩:=hrel;have HALL:=h! hall;have HRO:=h! hblk;have HBO:=h! hbel;clear HR HB2 hall hblk;by_cases hlt:i<ts.length
  ·have HUP:=fun h=>h! (upto_succ (p:=fun j hj=>ts[j].name≠ty) HALL.out hlt h);have HMISS:=fun(h:ts[i].name=ty)=>h! (fun(hb2:∀ j (hj:j<ts[i].rels.length),ts[i].rels[j].1≠rel)=>refs_miss HU.out hlt h hb2);have HHIT:=fun(h:ts[i].name=ty)=>h! (fun k hk hr hb2=>refs_hit (k:=k) (rel:=rel) hlt h HALL.out hk hr hb2);obtain⟨b,off,pv2,hbo,hb,c0,c1,hat2⟩:=HC.out i hlt;cases hbo;have d0:=(hbel.cell (p:=⟨b,off+i*2,none⟩) (HSW.out _ hb)).trans c0;have d1:=(hbel.cell (p:=⟨b,off+i*2+1,none⟩) (HSW.out _ hb)).trans c1;obtain⟨ao2,c2',rfl,hlc2,hcm2,hcell2⟩:=hat2.rows;have HC2:=h! hcell2;have hb1:=hbel.alloc hbel.size (.cells #[.string ts[i].name,.slice ao2 ts[i].rels.length c2'] 176);have HB1:=h! hb1;have HRT:=h! (HRO.out.below (Ext.alloc wo (.cells #[.string ts[i].name,.slice ao2 ts[i].rels.length c2'] 176)));have hbx:=(Blk.made wo #[.string ts[i].name,.slice ao2 ts[i].rels.length c2'] 176).cells;clear c0 c1 hat2 hcell2 hb1 hbel;generalize ts[i]=x at *;obtain⟨xn,l⟩:=x;dsimp only at *;by_cases he:xn=ty
   ·have HM:=HMISS he;have HH:=HHIT he;subst he;clear HUP HMISS HHIT;go_wp2_with fail
    obtain⟨wq,hwq⟩:∃ x,x=wo.alloc (.cells #[.string xn,.slice ao2 l.length c2'] 176):=⟨_,rfl⟩;rw[<- hwq]at HB1 HRT ⊢;clear hwq hbx d0 d1;go_loopw [26] (fun kk wr=>∃ k:Nat,k<=l.length/\kk = .int .i64 k/\(∀ j (hj:j<l.length),j<k->l[j].1≠rel)/\Blk wr br #[.int .i64 0,.string ⟨#[]⟩,.string ⟨#[]⟩,.slice none 0 0] 106/\Below w.heap.size w wr) (fun kk _=>l.length-(intOf kk).toNat)
    case atStart=>exact⟨0,by omega,rfl,fun _ _ h=>absurd h (by omega),HRT.out,HB1.out⟩
    case round =>
     obtain⟨k,hk,rfl,hall2,hblk,hbel⟩:=hrel;have HALL2:=h! hall2;have HRR:=h! hblk;have HBQ:=h! hbel;clear HRT HB1 hall2 hblk;by_cases hlt2:k<l.length
     ·have HUP2:=fun h=>h! (upto_succ (p:=fun j hj=>l[j].1≠rel) HALL2.out hlt2 h);have HFND:=fun(h:l[k].1=rel)=>h! (HH.out k hlt2 h HALL2.out);obtain⟨b2,off2,pv3,hbo,hb2,c0,c1,c2,c3,c4,hat3⟩:=HC2.out k hlt2;cases hbo;have d0:=(hbel.cell (p:=⟨b2,off2+k*5,none⟩) (HSW.out _ hb2)).trans c0;have d1:=(hbel.cell (p:=⟨b2,off2+k*5+1,none⟩) (HSW.out _ hb2)).trans c1;have d2:=(hbel.cell (p:=⟨b2,off2+k*5+2,none⟩) (HSW.out _ hb2)).trans c2;have d3:=(hbel.cell (p:=⟨b2,off2+k*5+3,none⟩) (HSW.out _ hb2)).trans c3;have d4:=(hbel.cell (p:=⟨b2,off2+k*5+4,none⟩) (HSW.out _ hb2)).trans c4;obtain⟨ao3,c3',rfl,-⟩:=hat3.rows;obtain⟨wx,hwx⟩:∃ x,x=wr.alloc (.cells #[.string l[k].1,.int .i64 l[k].2.k,.string l[k].2.a,.string l[k].2.b,.slice ao3 l[k].2.ps.length c3'] 181):=⟨_,rfl⟩;have xrx:Ext wr wx:=by rw[hwx];exact Ext.alloc _ _
      have hbx:=(show Blk wx wr.heap.size #[.string l[k].1,.int .i64 l[k].2.k,.string l[k].2.a,.string l[k].2.b,.slice ao3 l[k].2.ps.length c3'] 181 from by rw[hwx];exact Blk.made _ _ _).cells;have HRX:=h! (HRR.out.below xrx);have HBX:=h! (show Below w.heap.size w wx from HBQ.out.trans (xrx.mono HBQ.out.size));have HAT:=h! hat3;have hne:br≠wr.heap.size:=by have:=HRR.out.lt;omega
      clear c0 c1 c2 c3 c4 hat3 xrx hbel;generalize l[k]=y at *;obtain⟨yn,p⟩:=y;dsimp only at *;by_cases he2:yn=rel
      ·have HF:=HFND he2;subst he2;have r3:=HRX.out.cells;have f3:=HRX.out.free;have hs1:=HRX.out.set_to 0 (.int .i64 p.k) rfl;have hs2:=hs1.set_to 1 (.string p.a) rfl;have hs3:=hs2.set_to 2 (.string p.b) rfl;have hs4:=hs3.set_to 3 (.slice ao3 p.ps.length c3') rfl;have HS4:=h! hs4;have HBE:=h! (show Below w.heap.size w ((((wx.setCell ⟨br,0,none⟩ (.int .i64 p.k)).setCell ⟨br,1,none⟩ (.string p.a)).setCell ⟨br,2,none⟩ (.string p.b)).setCell ⟨br,3,none⟩ (.slice ao3 p.ps.length c3'))from(((HBX.out.setCell HBR.out _).setCell HBR.out _).setCell HBR.out _).setCell HBR.out _);clear hs1 hs2 hs3 hs4 HUP2 HFND;subst hwx;go_wp2_with fail
       refine bodyPost_ret (v := .tuple #[.agg #[.int .i64 p.k,.string p.a,.string p.b,.slice ao3 p.ps.length c3'],.bool true]) ?_ rfl ⟨(p,.slice ao3 p.ps.length c3'),?_,?_,fun r hr=>?_,fun hr=>?_,HBE.out⟩
       ·rw[results_cell_tmp rfl];have hl:=run_loadVar_row (P:=Tryz.prog) _ br _ 106 _ _ _ HS4.out Tryz.underlying106 rfl (by kernel_rfl);simp[asAddr,hl,Result.andThen]
       ·unfold rvV rV;rw[HF.out];rfl
       ·exact HAT.out.same ((Same.below HBE.out).mono HSW.out)
       ·rw[HF.out]at hr;cases hr;rfl
       ·rw[HF.out]at hr;cases hr
      ·have HN:=HUP2 he2;have hne2:=ba_beq' he2;rw[<- ByteArray.toList_eq,<- ByteArray.toList_eq]at hne2;clear HUP2 HFND he2;subst hwx;go_wp2_with fail
       go_roundw
       case rel=>exact⟨k+1,by omega,by go_num,HN.out,HRX.out,HBX.out⟩
       case measure=>simp[intOf];omega
     ·obtain rfl:k=l.length:=by omega
      have HF:=h! (HM.out fun j hj=>HALL2.out j hj hj);have r3:=HRR.out.cells;have f3:=HRR.out.free;have hs1:=HRR.out.set_to 0 (.int .i64 0) rfl;have hs2:=hs1.set_to 1 (.string ⟨#[]⟩) rfl;have hs3:=hs2.set_to 2 (.string ⟨#[]⟩) rfl;have hs4:=hs3.set_to 3 (.slice none 0 0) rfl;have HS4:=h! hs4;have HBE:=h! (show Below w.heap.size w ((((wr.setCell ⟨br,0,none⟩ (.int .i64 0)).setCell ⟨br,1,none⟩ (.string ⟨#[]⟩)).setCell ⟨br,2,none⟩ (.string ⟨#[]⟩)).setCell ⟨br,3,none⟩ (.slice none 0 0))from(((HBQ.out.setCell HBR.out _).setCell HBR.out _).setCell HBR.out _).setCell HBR.out _);clear hs1 hs2 hs3 hs4 hbel;go_wp2_with fail
      refine bodyPost_ret (v := .tuple #[.agg #[.int .i64 0,.string ⟨#[]⟩,.string ⟨#[]⟩,.slice none 0 0],.bool false]) ?_ rfl ⟨(.mk 0 ByteArray.empty ByteArray.empty [],.slice none 0 0),?_,?_,fun r hr=>?_,fun hr=>rfl,HBE.out⟩
      ·rw[results_cell_tmp rfl];have hl:=run_loadVar_row (P:=Tryz.prog) _ br _ 106 _ _ _ HS4.out Tryz.underlying106 rfl (by kernel_rfl);simp[asAddr,hl,Result.andThen]
      ·rw[HF.out];rfl
      ·exact RTAt.nil _ _ _ _ _
      ·rw[HF.out]at hr;cases hr
   ·have HN:=HUP he;have hne:=ba_beq' he;rw[<- ByteArray.toList_eq,<- ByteArray.toList_eq]at hne;clear HUP HMISS HHIT he;go_wp2_with fail
    go_roundw
    case rel=>exact⟨i+1,by omega,by go_num,HN.out,HRT.out,HB1.out⟩
    case measure=>simp[intOf];omega
  ·obtain rfl:i=ts.length:=by omega
   have HF:=h! (refs_out (rel:=rel) fun j hj=>HALL.out j hj hj);have r3:=HRO.out.cells;have f3:=HRO.out.free;have hs1:=HRO.out.set_to 0 (.int .i64 0) rfl;have hs2:=hs1.set_to 1 (.string ⟨#[]⟩) rfl;have hs3:=hs2.set_to 2 (.string ⟨#[]⟩) rfl;have hs4:=hs3.set_to 3 (.slice none 0 0) rfl;have HS4:=h! hs4;have HBE:=h! (show Below w.heap.size w ((((wo.setCell ⟨br,0,none⟩ (.int .i64 0)).setCell ⟨br,1,none⟩ (.string ⟨#[]⟩)).setCell ⟨br,2,none⟩ (.string ⟨#[]⟩)).setCell ⟨br,3,none⟩ (.slice none 0 0))from(((HBO.out.setCell HBR.out _).setCell HBR.out _).setCell HBR.out _).setCell HBR.out _);clear hs1 hs2 hs3 hs4 hbel;go_wp2_with fail
   refine bodyPost_ret (v := .tuple #[.agg #[.int .i64 0,.string ⟨#[]⟩,.string ⟨#[]⟩,.slice none 0 0],.bool false]) ?_ rfl ⟨(.mk 0 ByteArray.empty ByteArray.empty [],.slice none 0 0),?_,?_,fun r hr=>?_,fun hr=>rfl,HBE.out⟩
   ·rw[results_cell_tmp rfl];have hl:=run_loadVar_row (P:=Tryz.prog) _ br _ 106 _ _ _ HS4.out Tryz.underlying106 rfl (by kernel_rfl);simp[asAddr,hl,Result.andThen]
   ·rw[HF.out];rfl
   ·exact RTAt.nil _ _ _ _ _
   ·rw[HF.out]at hr;cases hr
end Go.Proofs.YtlhaghoajpglaaaGreat
namespace Go.Proofs.YtlhaghoajpglaaaGreat
open Go Go.RowKit Go.Maps
abbrev zF4:Array Value:=#[.int .i64 0,.slice none 0 0,.slice none 0 0,.slice none 0 0]
structure FrmI (wb w w':World)(gp B:Nat)(pv fv:Value)(pb:Array Value)(k:Int)(rb:Array Value)(ps:List P3)(subs:List P3)(refs:List Int)(q:List (FT × FV3))(sv rv qv pv':Value):Prop where
 fm:FmAt w' (w.heap.size+4) (w.heap.size+3) k subs refs q sv rv qv
 gk:GkAt w' gp B ps pv' fv
 pb:Blk w' w.heap.size pb 32
 rb:Blk w' (w.heap.size+1) rb 106
 ob:Blk w' (w.heap.size+2) zF4 128
 fn:Fine gp gp w w' pv pv'
 be:Below B wb w'
 wh:∀ g,pv'.ownBlock=some g->pv.ownBlock=some g\/w.heap.size+4<=g
 sz:w.heap.size+4<=w'.heap.size
 p0:∀ g,pv.ownBlock=some g->g<w.heap.size
 g0:B<=gp/\gp<w.heap.size
section
variable {wb w w' w2 w3 w4 : World} {gp B : Nat} {pv fv sv rv qv pv' pv2 : Value} {pb rb : Array Value} {k : Int} {ps ps2 subs : List P3} {refs : List Int} {q : List (FT × FV3)}
theorem FrmI.ext (h:FrmI wb w w' gp B pv fv pb k rb ps subs refs q sv rv qv pv')(hx:Ext w' w2):FrmI wb w w2 gp B pv fv pb k rb ps subs refs q sv rv qv pv' :=
 ⟨h.fm.ext hx,h.gk.ext hx,h.pb.below hx,h.rb.below hx,h.ob.below hx,h.fn.trans (Fine.of _ _ _ hx),h.be.trans (hx.mono (by have:=h.sz;have:=h.g0;omega)),h.wh,Nat.le_trans h.sz hx.size,h.p0,h.g0⟩
theorem FrmI.num (h:FrmI wb w w' gp B pv fv pb k rb ps subs refs q sv rv qv pv')(hf:Fine gp gp w' w2 pv' pv2)(hg:GkAt w2 gp B ps2 pv2 fv):FrmI wb w w2 gp B pv fv pb k rb ps2 subs refs q sv rv qv pv2 :=
 have hne:∀ x,w.heap.size<=x->x<w.heap.size+4->pv'.ownBlock≠some x:=fun x h1 h2 e=>by
  rcases h.wh x e with e2 | e2
  ·have:=h.p0 x e2;omega
  ·omega
 have hgp:=h.g0.2
 ⟨h.fm.gfine h.gk hf h.g0.1 (by omega),hg,(hf.kept.block _ ⟨h.pb.lt,by omega,by omega,hne _ (by omega) (by omega)⟩).trans h.pb,hf.gblk h.gk h.rb (by decide) (by decide),hf.gblk h.gk h.ob (by decide) (by decide),h.fn.trans hf,h.be.trans (hf.gpk h.gk h.g0.1).below,fun g hg=>by
  rcases hf.wher g hg with e | e
  ·exact h.wh g e
  ·exact .inr (Nat.le_trans h.sz e),Nat.le_trans h.sz hf.size,h.p0,h.g0⟩
theorem FrmI.cell {i:Nat} {u:Value} {q2:List (FT × FV3)} {subs2:List P3} {refs2:List Int} {sv2 rv2 qv2:Value} (h:FrmI wb w w' gp B pv fv pb k rb ps subs refs q sv rv qv pv')(hfm:FmAt (w'.setCell ⟨w.heap.size+3,i,none⟩ u) (w.heap.size+4) (w.heap.size+3) k subs2 refs2 q2 sv2 rv2 qv2):FrmI wb w (w'.setCell ⟨w.heap.size+3,i,none⟩ u) gp B pv fv pb k rb ps subs2 refs2 q2 sv2 rv2 qv2 pv' :=
 ⟨hfm,h.gk.setBox h.fm.box (by decide) (by decide) u,h.pb.other (a:=⟨w.heap.size+3,i,none⟩) (by show w.heap.size≠w.heap.size+3;omega) u,h.rb.other (a:=⟨w.heap.size+3,i,none⟩) (by show w.heap.size+1≠w.heap.size+3;omega) u,h.ob.other (a:=⟨w.heap.size+3,i,none⟩) (by show w.heap.size+2≠w.heap.size+3;omega) u,h.fn.set (by omega) u,h.be.setCell (by have:=h.g0;show B<=w.heap.size+3;omega) u,h.wh,by simpa using h.sz,h.p0,h.g0⟩
theorem FrmI.setSubs {s2:List P3} {sv':Value} (h:FrmI wb w w' gp B pv fv pb k rb ps subs refs q sv rv qv pv')(hs:Own w' (w.heap.size+4) 33 3 sv' (pcs s2)):FrmI wb w (w'.setCell ⟨w.heap.size+3,1,none⟩ sv') gp B pv fv pb k rb ps s2 refs q sv' rv qv pv':=h.cell (h.fm.setSubs hs (by omega))
theorem FrmI.setRefs {r2:List Int} {rv':Value} (h:FrmI wb w w' gp B pv fv pb k rb ps subs refs q sv rv qv pv')(hs:Own w' (w.heap.size+4) 3 1 rv' (ic r2)):FrmI wb w (w'.setCell ⟨w.heap.size+3,2,none⟩ rv') gp B pv fv pb k rb ps subs r2 q sv rv' qv pv':=h.cell (h.fm.setRefs hs (by omega))
theorem FrmI.keep (h:FrmI wb w w' gp B pv fv pb k rb ps subs refs [] sv rv (.slice none 0 0) pv')(hk:Kept (fun b=>b<w'.heap.size/\rv.ownBlock≠some b) w' w2) {rv2:Value} {refs2:List Int} (ho:Own w2 (w.heap.size+4) 3 1 rv2 (ic refs2)):FrmI wb w (w2.setCell ⟨w.heap.size+3,2,none⟩ rv2) gp B pv fv pb k rb ps subs refs2 [] sv rv2 (.slice none 0 0) pv':=by
 have nt:∀ {x:Nat} {cs:Array Value} {t:TypeId} {fr:Nat × Nat},w'.heap[x]?=some (.cells cs t fr)->t≠3->w2.heap[x]?=w'.heap[x]?:=fun {x cs t fr} hx ht=>hk.block x ⟨(Array.getElem?_eq_some_iff.1 hx).1,fun e=>by
  obtain⟨c2,h2⟩:=h.fm.refs.typed e;rw[hx]at h2;exact ht (by injection Option.some.inj h2)⟩
 have bk:∀ {x:Nat} {cs:Array Value} {t:TypeId},Blk w' x cs t->t≠3->Blk w2 x cs t:=fun {x cs t} hx ht=>(nt hx ht).trans hx
 have ow:∀ {B:Nat} {t:TypeId} {sz:Nat} {v:Value} {xs:List Value},Own w' B t sz v xs->t≠3->Own w2 B t sz v xs:=fun {B t sz v xs} hx ht=>hx.keepOwn fun g hg=>by
  obtain⟨c2,h2⟩:=hx.typed hg;exact nt h2 ht
 have hlow:∀ x,x<w.heap.size+4->w2.heap[x]?=w'.heap[x]?:=fun x hx=>hk.block x ⟨by have:=h.sz;omega,fun e=>by have:=(h.fm.refs.block x e).1;omega⟩;have hb:Blk w2 (w.heap.size+3) #[.int .i64 k,sv,rv,.slice none 0 0] 128:=bk h.fm.box (by decide);have hg2:GkAt w2 gp B ps pv' fv:=⟨bk h.gk.box (by decide),ow h.gk.pts (by decide)⟩
 refine⟨⟨hb.set_to 2 rv2 rfl,(ow h.fm.subs (by decide)).setBox (x:=w.heap.size+3) hb (by decide) _,ho.setBox (x:=w.heap.size+3) hb (by decide) _,FRow.nil _ _⟩,hg2.setBox hb (by decide) (by decide) _,(bk h.pb (by decide)).other (a:=⟨w.heap.size+3,2,none⟩) (by show w.heap.size≠w.heap.size+3;omega) _,(bk h.rb (by decide)).other (a:=⟨w.heap.size+3,2,none⟩) (by show w.heap.size+1≠w.heap.size+3;omega) _,(bk h.ob (by decide)).other (a:=⟨w.heap.size+3,2,none⟩) (by show w.heap.size+2≠w.heap.size+3;omega) _,
  Fine.set ⟨h.fn.kept.trans (hk.mono fun x (hx:KX gp gp w pv x)=>⟨by have:=h.sz;have:=hx.1;omega,fun e=>by have:=(h.fm.refs.block x e).1;have:=hx.1;omega⟩),h.fn.wher⟩ (by omega) _,Below.setCell (h.be.trans ⟨hk.os,hk.tape,hk.output,hk.size,fun x hx=>hlow x (by have:=h.g0;omega)⟩) (by have:=h.g0;show B<=w.heap.size+3;omega) _,h.wh,by simpa using Nat.le_trans h.sz hk.size,h.p0,h.g0⟩
theorem FrmI.bx (h:FrmI wb w w' gp B pv fv pb k rb ps subs refs q sv rv qv pv')(hk:Kept (fun b=>b<w'.heap.size/\rv.ownBlock≠some b) w' w2):Blk w2 (w.heap.size+3) #[.int .i64 k,sv,rv,qv] 128:=hk.blk h.fm.box ⟨h.fm.box.lt,fun e=>by have:=(h.fm.refs.block _ e).1;omega⟩
theorem FrmI.bg (h:FrmI wb w w' gp B pv fv pb k rb ps subs refs q sv rv qv pv')(hg:w'.grownBy w2 qv.ownBlock):Blk w2 (w.heap.size+3) #[.int .i64 k,sv,rv,qv] 128:=(hg.block _ h.fm.box.lt fun e=>by have:=(h.fm.parts.row.block _ e.symm).1;omega).trans h.fm.box
theorem FrmI.part {y:FT × FV3} {v':Value} {n0:Nat} (h:FrmI wb w w2 gp B pv fv pb k rb ps subs refs q sv rv qv pv')(hx3:Ext w2 w3)(hg:w3.grownBy w4 qv.ownBlock)(ho:Own w4 (w.heap.size+4) 128 4 v' (q.flatMap fC++fC y))
  (hb:∀ g,v'.ownBlock=some g->qv.ownBlock=some g\/w3.heap.size<=g) (hy:FTAt (FS n0 w2) w2 y.1 y.2) (hn0:w.heap.size+4<=n0) (hpv:∀ g,qv.ownBlock=some g->g<n0):FrmI wb w (w4.setCell ⟨w.heap.size+3,3,none⟩ v') gp B pv fv pb k rb ps subs refs (q++[y]) sv rv v' pv':=by
 have h3:=h.ext hx3;have hq:=h3.fm.parts.row;have hlow:∀ x,x<w.heap.size+4->w4.heap[x]?=w3.heap[x]?:=fun x hx=>hg.block x (by have:=h3.sz;omega) fun e=>by have:=(hq.block x e.symm).1;omega
 have hbox:Blk w4 (w.heap.size+3) _ _:=(hlow _ (by omega)).trans h3.fm.box
 refine⟨h.fm.add hx3 hg ho hb hy hn0 hpv (by omega),(h3.gk.grown hq (by decide) (by decide) hg).setBox hbox (by decide) (by decide) _,Blk.other (show Blk w4 _ _ _ from(hlow _ (by omega)).trans h3.pb) (a:=⟨w.heap.size+3,3,none⟩) (by show w.heap.size≠w.heap.size+3;omega) _,Blk.other (show Blk w4 _ _ _ from(hlow _ (by omega)).trans h3.rb) (a:=⟨w.heap.size+3,3,none⟩) (by show w.heap.size+1≠w.heap.size+3;omega) _,Blk.other (show Blk w4 _ _ _ from(hlow _ (by omega)).trans h3.ob) (a:=⟨w.heap.size+3,3,none⟩) (by show w.heap.size+2≠w.heap.size+3;omega) _,
  Fine.set ⟨h3.fn.kept.trans ⟨hg.os,hg.tape,hg.output,hg.size,fun x (hx:KX gp gp w pv x)=>hlow x (by have:=hx.1;omega)⟩,h3.fn.wher⟩ (by omega) _,Below.setCell (h3.be.trans ⟨hg.os,hg.tape,hg.output,hg.size,fun x hx=>hlow x (by have:=h.g0;omega)⟩) (by have:=h.g0;show B<=w.heap.size+3;omega) _,h.wh,by simpa using Nat.le_trans h3.sz hg.size,h.p0,h.g0⟩
end
theorem selF_at {ok:P3->Bool} {f:P3->P3} {l:List P3} {i:Nat} (hi:i<l.length)(ps:List P3)(out:List Int):refsD ps out (selF ok f (l.take (i+1)))=if ok l[i]=true then(if (numD (refsD ps out (selF ok f (l.take i))).2 (f l[i]):Int)∈(refsD ps out (selF ok f (l.take i))).1 then(refsD ps out (selF ok f (l.take i))).1 else(refsD ps out (selF ok f (l.take i))).1++[(numD (refsD ps out (selF ok f (l.take i))).2 (f l[i]):Int)],putP (refsD ps out (selF ok f (l.take i))).2 (f l[i]))else refsD ps out (selF ok f (l.take i)):=by
 cases h:ok l[i] with
 | true=>rw[selF_yes hi h,refsD_snoc,if_pos rfl]
 | false=>rw[selF_no hi h];rfl
theorem form26_any (gp B:Nat)(tv fv:Value)(T:List Tup)(p:P3)(wb:World)(hT:∀ W,Below B wb W->Sl (· < B) W 6 tv (tuCs T))(hTl:T.length<=1000000)(hB:B<=gp)(r:RT):∀ (pv rpv:Value)(ps:List P3)(w:World),RTAt (· < B) w r rpv->Below B wb w->GkAt w gp B ps pv fv->ps.length+r.sz*(T.length+1)<=1073741824 ->
  Calls Tryz.prog 111 #[.pointer (some ⟨gp,0,none⟩),tv,pV p,rV r rpv] w fun e w'=>∃ v3 pv',e = .returned (fV (formD T p r ps).1 v3)/\FTAt (FS w.heap.size w') w' (formD T p r ps).1 v3/\GkAt w' gp B (formD T p r ps).2 pv' fv/\Fine gp gp w w' pv pv':=by
 have HT:=h! hT;have HTL:=h! hTl;have HB:=h! hB;clear hT hTl hB;obtain⟨pt,pi,pr⟩:=p;induction r using RT.ind with
 | h r ih =>
 intro pv rpv ps w hat hbw hgk hlen;have HFD:=h! (formD_eq T ⟨pt,pi,pr⟩ r ps);obtain⟨k,ra,rb,parts⟩:=r;dsimp only[RT.k,RT.a,RT.b,RT.ps]at HFD ih;have HIH:=h! ih;have HRT:=h! hat;have HBW:=h! hbw;have HROOM:=h! (form_room (p:=⟨pt,pi,pr⟩) hlen);have HLEN:=h! hlen
 have HSUBL:=h! (show ∀ q,(subsOf T q).length<=T.length from fun q=>by
  unfold subsOf;rw[List.length_map];exact List.length_filter_le _ _)
 have HPSL:=h! (show ps.length+(T.length+1)<=1073741824 from by
  have h1:=(RT.mk k ra rb parts).sz_eq;rw[h1,Nat.add_mul]at hlen;omega)
 obtain⟨ao,c,rfl,hlc,hcm,-⟩:=hat.rows;obtain⟨to,tc,htv,-⟩:=Sl.rows tuC_length (by decide) (show Sl _ w 6 tv (T.flatMap tuC)from HT.out w hbw);subst htv;dsimp only[RT.ps]at hlc hcm ⊢;obtain⟨wa,hwa⟩:∃ x,x=w.alloc (.cells #[.string pt,.string pi,.string pr] 32):=⟨_,rfl⟩;obtain⟨wc,hwc⟩:∃ x,x=wa.alloc (.cells #[.int .i64 k,.string ra,.string rb,.slice ao parts.length c] 106):=⟨_,rfl⟩;obtain⟨wd,hwd⟩:∃ x,x=wc.alloc (.cells #[.int .i64 0,.slice none 0 0,.slice none 0 0,.slice none 0 0] 128):=⟨_,rfl⟩;obtain⟨we,hwe⟩:∃ x,x=wd.alloc (.cells #[.int .i64 k,.slice none 0 0,.slice none 0 0,.slice none 0 0] 128):=⟨_,rfl⟩;have ea:wa.heap.size=w.heap.size+1:=by rw[hwa];simp
 have ec:wc.heap.size=w.heap.size+2:=by rw[hwc];simp[ea]
 have ed:wd.heap.size=w.heap.size+3:=by rw[hwd];simp[ec]
 have ee:we.heap.size=w.heap.size+4:=by rw[hwe];simp[ed]
 have xa:Ext w wa:=by rw[hwa];exact Ext.alloc _ _
 have xc:Ext wa wc:=by rw[hwc];exact Ext.alloc _ _
 have xd:Ext wc wd:=by rw[hwd];exact Ext.alloc _ _
 have xe:Ext wd we:=by rw[hwe];exact Ext.alloc _ _
 have hgz:=hgk.box.lt;have hBg:=HB.out;have hra:=(Blk.below (show Blk wc (w.heap.size+1) #[.int .i64 k,.string ra,.string rb,.slice ao parts.length c] 106 from by rw[hwc,<- ea];exact Blk.made _ _ _) xd).cells
 have FI:=h! (show FrmI wb w we gp B pv fv #[.string pt,.string pi,.string pr] k #[.int .i64 k,.string ra,.string rb,.slice ao parts.length c] ps [] [] [] (.slice none 0 0) (.slice none 0 0) (.slice none 0 0) pv from
  ⟨⟨by rw[hwe,<- ed];exact Blk.made _ _ _,Own.nil _ _ _ _,Own.nil _ _ _ _,FRow.nil _ _⟩,hgk.ext (xa.trans (xc.trans (xd.trans xe))),Blk.below (by rw[hwa];exact Blk.made _ _ _) (xc.trans (xd.trans xe)),Blk.below (by rw[hwc,<- ea];exact Blk.made _ _ _) (xd.trans xe),Blk.below (by rw[hwd,<- ec];exact Blk.made _ _ _) xe,Fine.of _ _ _ (xa.trans (xc.trans (xd.trans xe))),hbw.trans ((xa.trans (xc.trans (xd.trans xe))).mono (by omega)),fun g hg => .inl hg,Nat.le_of_eq ee.symm,fun g hg=>(hgk.pts.block g hg).2,HB.out,hgz⟩)
 have EZ:=h! ee;have HGZ:=h! hgz;clear ea ec ed ee xa xc xd xe ih hat hbw hgk hlen hgz hBg;subst hwd hwc hwa;unfold pV rV;dsimp only[RT.k,RT.a,RT.b,RT.ps];by_cases h1:k=1
 case' pos =>
  have b1:(k == 1)=true:=by rw[beq_iff_eq];exact h1
  have b2:(k == 2)=false:=by rw[beq_eq_false_iff_ne];omega
  have b3:(k == 3)=false:=by rw[beq_eq_false_iff_ne];omega
  have H1:=h! h1;clear h1;go_enter Tryz.func111,Tryz.ntmps111
  go_wp2_with fail
  try rw[<- hwe]
  clear hwe hra;refine(subs25_any (S:=(· < B)) (.slice to T.length tc) T ⟨pt,pi,pr⟩ we (fun x hx=>by have:=FI.out.sz;have:=FI.out.g0;omega) (HT.out we FI.out.be) (by have:=HTL.out;omega)).mono ?_;rintro e w2 ⟨sv,rfl,ho2,hx2⟩;have HSL:=h! (HSUBL.out ⟨pt,pi,pr⟩);generalize hsb:subsOf T ⟨pt,pi,pr⟩=sb at *;have HSB:=h! hsb;clear hsb;obtain⟨so,sc,rfl,-⟩:=Sl.rows pC_length (by decide) (show Sl _ w2 3 sv (sb.flatMap pC)from ho2.sl);have F2:=h! (FI.out.ext hx2);have S2:=h! (ho2.low (B':=w.heap.size+4) (Nat.le_of_eq EZ.out.symm));clear ho2 hx2 FI;have hbf:=F2.out.fm.box.cells;have hbz:=F2.out.fm.box.free;have F3:=h! (F2.out.setSubs S2.out);have SR:=h! (show Own _ (w.heap.size+4) 33 3 (.slice so sb.length sc) (pcs sb)from F3.out.fm.subs);have hbc:=F3.out.fm.box.cells;clear F2 S2;go_wp2_with fail
  clear hbf hbz hbc;obtain⟨w3,hw3⟩:∃ x,x=w2.setCell ⟨w.heap.size+3,1,none⟩ (.slice so sb.length sc):=⟨_,rfl⟩;rw[<- hw3]at F3 SR ⊢;clear hw3;go_loopw [31] (fun iv wr=>∃ (i:Nat) (rf:List Int) (p0:List P3) (rv pv4:Value),i<=sb.length/\iv = .int .i64 i/\refsD ps [] (selF (fun s=>decide (s.r≠⟨#[]⟩)) usetF (sb.take i))=(rf,p0)/\FrmI wb w wr gp B pv fv #[.string pt,.string pi,.string pr] k #[.int .i64 k,.string ra,.string rb,.slice ao parts.length c] p0 sb rf [] (.slice so sb.length sc) rv (.slice none 0 0) pv4/\Own wr (w.heap.size+4) 33 3 (.slice so sb.length sc) (pcs sb)) (fun iv _=>sb.length-(intOf iv).toNat)
  case atStart=>exact⟨0,[],ps,.slice none 0 0,pv,Nat.zero_le _,rfl,rfl,F3.out,SR.out⟩
  case' round =>
   obtain⟨i,rf,p0,rv,pv4,hi,rfl,hrd,hfr,hsr⟩:=hrel;have HRD:=h! hrd;have FR:=h! hfr;have SR2:=h! hsr;clear hrd hfr hsr F3 SR;by_cases hlt:i<sb.length
   case' pos =>
    obtain⟨so',sc',he',-,-,hcell⟩:=Sl.rows pC_length (by decide) (show Sl _ wr 3 (.slice so sb.length sc) (sb.flatMap pC)from SR2.out.sl);cases he';obtain⟨b,off,rfl,-,hcell⟩:=hcell (by omega);have hck:=hcell i hlt;clear hcell;have HAT:=h! (selF_at (ok:=(fun s=>decide (s.r≠⟨#[]⟩))) (f:=usetF) hlt ps []);have HLT:=h! hlt;have HWI:=h! (show wrap64 ((i:Int)+1)=((i+1:Nat):Int)from by have h1:=HSL.out;have h2:=HTL.out;unfold wrap64;omega)
    have HPL:=h! (show p0.length<=ps.length+i/\rf.length<=i from by
     have h1:=refsD_len2 (selF (fun s=>decide (s.r≠⟨#[]⟩)) usetF (sb.take i)) ps [];have h2:=refsD_len1 (selF (fun s=>decide (s.r≠⟨#[]⟩)) usetF (sb.take i)) ps [];have h3:=selF_len (fun s=>decide (s.r≠⟨#[]⟩)) usetF (sb.take i);rw[List.length_take]at h3;rw[HRD.out]at h1 h2;simp only[List.length_nil]at h1 h2;omega)
    rw[HRD.out]at HAT;dsimp only at HAT;have hli:(i:Int)<(sb.length:Int):=by omega
    generalize sb[i]=s at *;clear hlt;obtain⟨st,si,sr⟩:=s;have c0:wr.cell? ⟨b,off+i*3,none⟩=some (.string st):=hck 0 _ rfl;have c1:wr.cell? ⟨b,off+i*3+1,none⟩=some (.string si):=hck 1 _ rfl;have c2:wr.cell? ⟨b,off+i*3+2,none⟩=some (.string sr):=hck 2 _ rfl;clear hck;have X1:=h! (Ext.alloc wr (.cells #[.string st,.string si,.string sr] 33));have BS:=h! (Blk.made wr #[.string st,.string si,.string sr] 33);have hbs:=BS.out.cells;have hse:=isEmpty_ba sr;by_cases he:sr=⟨#[]⟩
    ·have HNO:=h! (show refsD ps [] (selF (fun s=>decide (s.r≠⟨#[]⟩)) usetF (sb.take (i+1)))=(rf,p0)from by rw[HAT.out,if_neg (by simp[he])]);rw[decide_eq_true he]at hse;clear he;go_wp2_with fail
     go_roundw
     case rel=>exact⟨i+1,rf,p0,rv,pv4,HLT.out,by first | rw[HWI.out] | go_num,HNO.out,FR.out.ext X1.out,SR2.out.below X1.out⟩
     case measure=>have:=HLT.out;(try rw[HWI.out]);simp[intOf];omega
    ·have HYE:=h! (show refsD ps [] (selF (fun s=>decide (s.r≠⟨#[]⟩)) usetF (sb.take (i+1)))=(if (numD p0 ⟨st,si,sr⟩:Int)∈rf then rf else rf++[(numD p0 ⟨st,si,sr⟩:Int)],putP p0 ⟨st,si,sr⟩)from by rw[HAT.out,if_pos (by simp[he])];rfl);rw[decide_eq_false he]at hse;clear he;go_wp2_with fail
     obtain⟨wd,hwd⟩:∃ x:World,x=World.drew (wr.alloc (.cells #[.string st,.string si,.string sr] 33)):=⟨_,rfl⟩;have DX:=h! (show Ext wr wd from by rw[hwd];exact X1.out.trans (Ext.drew _));have DF:=h! (FR.out.ext DX.out);have DR:=h! (SR2.out.below DX.out);have DS:=h! (show Blk wd wr.heap.size #[.string st,.string si,.string sr] 33 from by rw[hwd];exact BS.out.drew);refine region_walkL 11 (fun W=>Kept (fun x=>KX gp gp wd pv4 x/\rv.ownBlock≠some x) wd W) (by rw[<- hwd];exact Kept.refl _ _) (by kernel_rfl) (by kernel_rfl) (fun _ _ d _ _ h=>by cases d <;> exact h) ?_;rw[<- hwd];clear hwd X1 BS FR SR2 DX hbs hse c0 c1 c2 hli;generalize wr.heap.size=sbx at *
     have nr:∀ {x:Nat} {cs:Array Value} {t:TypeId},Blk wd x cs t->t≠3->rv.ownBlock≠some x:=fun {x cs t} hx ht e=>by
      obtain⟨c2,h2⟩:=DF.out.fm.refs.typed e;rw[show wd.heap[x]?=_ from hx]at h2;exact ht (by injection Option.some.inj h2)
     have h1:=fun W (h:Kept (fun x=>KX gp gp wd pv4 x/\rv.ownBlock≠some x) wd W)=>(h.blk DF.out.fm.box ⟨DF.out.gk.un DF.out.fm.box (by decide) (by decide),nr DF.out.fm.box (by decide)⟩).cells;have h2:=fun W (h:Kept (fun x=>KX gp gp wd pv4 x/\rv.ownBlock≠some x) wd W)=>(h.blk DS.out ⟨DF.out.gk.un DS.out (by decide) (by decide),nr DS.out (by decide)⟩).cells;have h3:=fun W (h:Kept (fun x=>KX gp gp wd pv4 x/\rv.ownBlock≠some x) wd W)=>(h.blk DF.out.rb ⟨DF.out.gk.un DF.out.rb (by decide) (by decide),nr DF.out.rb (by decide)⟩).cells;clear nr;(refine WalkL.tk [0,1,2,3,4,5,6,7] ?_;(iterate 8 (refine l! ?_));refine TkL.n ?_)
     clear h2 h3;refine oL! 8 ?_;refine b! ?_;intro K hK;go_simp;refine(number26_any gp B pv4 fv p0 ⟨st,si,sr⟩ wd DF.out.gk HB.out (by have:=HPL.out.1;have:=HLT.out;have:=HSL.out;have:=HPSL.out;omega)).mono ?_;rintro e w5 ⟨pv5,rfl,hg5,hf5⟩;have E5:=h! (DF.out.num hf5 hg5);have R5:=h! (hf5.grow DF.out.gk DR.out (by decide) (by decide));have K5:=h! hf5.kept;refine hK.out _ _ (hf5.kept.mono fun x hx=>hx.1) ?_;clear hK hg5 hf5 DR DS;generalize numD p0 ⟨st,si,sr⟩=nu at *;generalize putP p0 ⟨st,si,sr⟩=p5 at *;refine oL! 9 ?_;refine b! ?_;intro K hK;go_simp;refine(put26_any rv rf (nu:Int) w5 E5.out.fm.refs (by have:=HPL.out.2;have:=HLT.out;have:=HSL.out;have:=HTL.out;omega) E5.out.sz).mono ?_;rintro e w6 ⟨rv6,rfl,ho6,hk6,hw6⟩;generalize (if (nu:Int)∈rf then rf else rf++[(nu:Int)])=rf6 at *;obtain⟨r1,r2,r3,rfl,-,-,-⟩:=ho6.sl.len;have E6:=h! (E5.out.keep hk6 ho6);have B6:=h! (E5.out.bx hk6);have R6:=h! (Own.setBox (x:=w.heap.size+3) (R5.out.keepOwn fun g hg=>hk6.block g ⟨(R5.out.block g hg).2,fun e=>R5.out.apart E5.out.fm.refs (by decide) hg e⟩) B6.out (by decide) (.slice r1 r2 r3) (i:=2));refine hK.out _ _ (Kept.trans (K5.out.mono fun x hx=>hx.1) (hk6.mono fun x hx=>⟨Nat.lt_of_lt_of_le hx.1.1 K5.out.size,hx.2⟩)) ?_;clear hK hk6 ho6 hw6 DF E5 R5 K5;((refine WalkL.take 10 _ ?_ (by simp only[gA,gS,gZ];rfl) (by kernel_rfl) (by kernel_rfl) (by kernel_rfl) (by rfl) (fun W hW=>?_) ?_;rotate_left;· (go_simp;try with_reducible rfl));simp only[Act.put,pA,pZ,pS])
     have hbf:=B6.out.cells;have hbz:=B6.out.free;clear h1;refine WalkL.last (by kernel_rfl) (by kernel_rfl) ?_;refine b! ?_;intro K hK;go_simp;refine hK.out _ _ ?_;clear hK hbf hbz;go_wp2_with fail
     go_roundw
     case rel=>exact⟨i+1,rf6,p5,.slice r1 r2 r3,pv5,HLT.out,by first | rw[HWI.out] | go_num,HYE.out,E6.out,R6.out⟩
     case measure=>have:=HLT.out;(try rw[HWI.out]);simp[intOf];omega
   case' neg =>
    obtain rfl:i=sb.length:=by omega
    rw[List.take_length]at HRD
    have HH:headF T ⟨pt,pi,pr⟩ k ra rb ps=(sb,rf,p0):=by
     unfold headF;rw[if_pos H1.out,HSB.out,setsOf_sel,HRD.out]
    obtain⟨r1,r2,r3,rfl,-,-,-⟩:=FR.out.fm.refs.sl.len;have FX:=h! (show ∃ s1 s2 s3 r1 r2 r3 su rf p0 pv4,headF T ⟨pt,pi,pr⟩ k ra rb ps=(su,rf,p0)/\FrmI wb w wr gp B pv fv #[.string pt,.string pi,.string pr] k #[.int .i64 k,.string ra,.string rb,.slice ao parts.length c] p0 su rf [] (.slice s1 s2 s3) (.slice r1 r2 r3) (.slice none 0 0) pv4 from⟨_,_,_,_,_,_,_,_,_,_,HH,FR.out⟩);have hrl:=FR.out.rb.cells;clear HH FR SR2 HRD hlt hi;go_wp2_with fail
    clear hrl b1 b2 b3;generalize wr=wh at *
 case' neg =>
  by_cases h2:k=2
  case' pos =>
   have hpb:=FI.out.pb.cells;have hrb:=FI.out.rb.cells;have b1:(k == 1)=false:=by rw[beq_eq_false_iff_ne];exact h1
   have b2:(k == 2)=true:=by rw[beq_iff_eq];exact h2
   have b3:(k == 3)=false:=by rw[beq_eq_false_iff_ne];omega
   have H1:=h! h1;clear h1;have H2:=h! h2;clear h2;go_enter Tryz.func111,Tryz.ntmps111
   rw[hwe]at hpb hrb;go_wp2_with fail
   try rw[<- hwe]
   clear hwe hra hpb hrb;refine(number26_any gp B pv fv ps ⟨pt,pi,ra⟩ we FI.out.gk HB.out (by have:=HPSL.out;omega)).mono ?_;rintro e w5 ⟨pv5,rfl,hg5,hf5⟩;have HH:=h! (show headF T ⟨pt,pi,pr⟩ k ra rb ps=([],[(numD ps ⟨pt,pi,ra⟩:Int)],putP ps ⟨pt,pi,ra⟩)from by unfold headF;rw[if_neg H1.out,if_pos H2.out]);generalize numD ps ⟨pt,pi,ra⟩=nu at *;generalize putP ps ⟨pt,pi,ra⟩=p5 at *;have X5:=h! (Ext.alloc w5 (.cells #[.int .i64 nu] 3));have E5:=h! ((FI.out.num hf5 hg5).ext X5.out);have O5:=h! (show Own _ (w.heap.size+4) 3 1 _ (ic [(nu:Int)])from Own.lit1 w5 (FI.out.num hf5 hg5).sz 3 (.int .i64 nu));have E6:=h! (E5.out.setRefs O5.out);have hbf:=E5.out.fm.box.cells;have hbz:=E5.out.fm.box.free;have hrl:=E6.out.rb.cells;have FX:=h! (show ∃ s1 s2 s3 r1 r2 r3 su rf p0 pv4,headF T ⟨pt,pi,pr⟩ k ra rb ps=(su,rf,p0)/\FrmI wb w _ gp B pv fv #[.string pt,.string pi,.string pr] k #[.int .i64 k,.string ra,.string rb,.slice ao parts.length c] p0 su rf [] (.slice s1 s2 s3) (.slice r1 r2 r3) (.slice none 0 0) pv4 from⟨_,_,_,_,_,_,_,_,_,_,HH.out,E6.out⟩);clear hg5 hf5 FI X5 E5 O5 E6 HH;go_wp2_with fail
   clear hrl hbf hbz b1 b2 b3;generalize (w5.alloc (.cells #[.int .i64 nu] 3)).setCell ⟨w.heap.size+3,2,none⟩ (.slice (some ⟨w5.heap.size,0,none⟩) 1 1)=wh at *
  case' neg =>
   by_cases h3:k=3
   case' pos =>
    have hpb:=FI.out.pb.cells;have hrb:=FI.out.rb.cells;have b1:(k == 1)=false:=by rw[beq_eq_false_iff_ne];exact h1
    have b2:(k == 2)=false:=by rw[beq_eq_false_iff_ne];exact h2
    have b3:(k == 3)=true:=by rw[beq_iff_eq];exact h3
    have H1:=h! h1;clear h1;have H2:=h! h2;clear h2;have H3:=h! h3;clear h3;go_enter Tryz.func111,Tryz.ntmps111
    rw[hwe]at hpb hrb;go_wp2_with fail
    try rw[<- hwe]
    clear hwe hra hpb hrb;refine(subs25_any (S:=(· < B)) (.slice to T.length tc) T ⟨pt,pi,ra⟩ we (fun x hx=>by have:=FI.out.sz;have:=FI.out.g0;omega) (HT.out we FI.out.be) (by have:=HTL.out;omega)).mono ?_;rintro e w2 ⟨sv,rfl,ho2,hx2⟩;have HSL:=h! (HSUBL.out ⟨pt,pi,ra⟩);generalize hsb:subsOf T ⟨pt,pi,ra⟩=sb at *;have HSB:=h! hsb;clear hsb;obtain⟨so,sc,rfl,-⟩:=Sl.rows pC_length (by decide) (show Sl _ w2 3 sv (sb.flatMap pC)from ho2.sl);have F2:=h! (FI.out.ext hx2);have S2:=h! (ho2.low (B':=w.heap.size+4) (Nat.le_of_eq EZ.out.symm));clear ho2 hx2 FI;have F3:=F2;have SR:=S2;go_wp2_with fail
    obtain⟨w3,hw3⟩:∃ x,x=w2:=⟨_,rfl⟩;rw[<- hw3]at F3 SR ⊢;clear hw3 F2 S2;go_loopw [71] (fun iv wr=>∃ (i:Nat) (rf:List Int) (p0:List P3) (rv pv4:Value),i<=sb.length/\iv = .int .i64 i/\refsD ps [] (selF (fun s=>decide (s.r=⟨#[]⟩)) (viaF rb) (sb.take i))=(rf,p0)/\FrmI wb w wr gp B pv fv #[.string pt,.string pi,.string pr] k #[.int .i64 k,.string ra,.string rb,.slice ao parts.length c] p0 [] rf [] (.slice none 0 0) rv (.slice none 0 0) pv4/\Own wr (w.heap.size+4) 33 3 (.slice so sb.length sc) (pcs sb)) (fun iv _=>sb.length-(intOf iv).toNat)
    case atStart=>exact⟨0,[],ps,.slice none 0 0,pv,Nat.zero_le _,rfl,rfl,F3.out,SR.out⟩
    case' round =>
     obtain⟨i,rf,p0,rv,pv4,hi,rfl,hrd,hfr,hsr⟩:=hrel;have HRD:=h! hrd;have FR:=h! hfr;have SR2:=h! hsr;clear hrd hfr hsr F3 SR;by_cases hlt:i<sb.length
     case' pos =>
      obtain⟨so',sc',he',-,-,hcell⟩:=Sl.rows pC_length (by decide) (show Sl _ wr 3 (.slice so sb.length sc) (sb.flatMap pC)from SR2.out.sl);cases he';obtain⟨b,off,rfl,-,hcell⟩:=hcell (by omega);have hck:=hcell i hlt;clear hcell;have HAT:=h! (selF_at (ok:=(fun s=>decide (s.r=⟨#[]⟩))) (f:=(viaF rb)) hlt ps []);have HLT:=h! hlt;have HWI:=h! (show wrap64 ((i:Int)+1)=((i+1:Nat):Int)from by have h1:=HSL.out;have h2:=HTL.out;unfold wrap64;omega)
      have HPL:=h! (show p0.length<=ps.length+i/\rf.length<=i from by
       have h1:=refsD_len2 (selF (fun s=>decide (s.r=⟨#[]⟩)) (viaF rb) (sb.take i)) ps [];have h2:=refsD_len1 (selF (fun s=>decide (s.r=⟨#[]⟩)) (viaF rb) (sb.take i)) ps [];have h3:=selF_len (fun s=>decide (s.r=⟨#[]⟩)) (viaF rb) (sb.take i);rw[List.length_take]at h3;rw[HRD.out]at h1 h2;simp only[List.length_nil]at h1 h2;omega)
      rw[HRD.out]at HAT;dsimp only at HAT;have hli:(i:Int)<(sb.length:Int):=by omega
      generalize sb[i]=s at *;clear hlt;obtain⟨st,si,sr⟩:=s;have c0:wr.cell? ⟨b,off+i*3,none⟩=some (.string st):=hck 0 _ rfl;have c1:wr.cell? ⟨b,off+i*3+1,none⟩=some (.string si):=hck 1 _ rfl;have c2:wr.cell? ⟨b,off+i*3+2,none⟩=some (.string sr):=hck 2 _ rfl;clear hck;have X1:=h! (Ext.alloc wr (.cells #[.string st,.string si,.string sr] 33));have BS:=h! (Blk.made wr #[.string st,.string si,.string sr] 33);have hbs:=BS.out.cells;have hse:=isEmpty_ba sr;by_cases he:sr=⟨#[]⟩
      ·have HYE:=h! (show refsD ps [] (selF (fun s=>decide (s.r=⟨#[]⟩)) (viaF rb) (sb.take (i+1)))=(if (numD p0 ⟨st,si,rb⟩:Int)∈rf then rf else rf++[(numD p0 ⟨st,si,rb⟩:Int)],putP p0 ⟨st,si,rb⟩)from by rw[HAT.out,if_pos (by simp[he])];rfl);rw[decide_eq_true he]at hse;clear he;go_wp2_with fail
       obtain⟨wd,hwd⟩:∃ x:World,x=World.drew (wr.alloc (.cells #[.string st,.string si,.string sr] 33)):=⟨_,rfl⟩;have DX:=h! (show Ext wr wd from by rw[hwd];exact X1.out.trans (Ext.drew _));have DF:=h! (FR.out.ext DX.out);have DR:=h! (SR2.out.below DX.out);have DS:=h! (show Blk wd wr.heap.size #[.string st,.string si,.string sr] 33 from by rw[hwd];exact BS.out.drew);refine region_walkL 11 (fun W=>Kept (fun x=>KX gp gp wd pv4 x/\rv.ownBlock≠some x) wd W) (by rw[<- hwd];exact Kept.refl _ _) (by kernel_rfl) (by kernel_rfl) (fun _ _ d _ _ h=>by cases d <;> exact h) ?_;rw[<- hwd];clear hwd X1 BS FR SR2 DX hbs hse c0 c1 c2 hli;generalize wr.heap.size=sbx at *
       have nr:∀ {x:Nat} {cs:Array Value} {t:TypeId},Blk wd x cs t->t≠3->rv.ownBlock≠some x:=fun {x cs t} hx ht e=>by
        obtain⟨c2,h2⟩:=DF.out.fm.refs.typed e;rw[show wd.heap[x]?=_ from hx]at h2;exact ht (by injection Option.some.inj h2)
       have h1:=fun W (h:Kept (fun x=>KX gp gp wd pv4 x/\rv.ownBlock≠some x) wd W)=>(h.blk DF.out.fm.box ⟨DF.out.gk.un DF.out.fm.box (by decide) (by decide),nr DF.out.fm.box (by decide)⟩).cells;have h2:=fun W (h:Kept (fun x=>KX gp gp wd pv4 x/\rv.ownBlock≠some x) wd W)=>(h.blk DS.out ⟨DF.out.gk.un DS.out (by decide) (by decide),nr DS.out (by decide)⟩).cells;have h3:=fun W (h:Kept (fun x=>KX gp gp wd pv4 x/\rv.ownBlock≠some x) wd W)=>(h.blk DF.out.rb ⟨DF.out.gk.un DF.out.rb (by decide) (by decide),nr DF.out.rb (by decide)⟩).cells;clear nr;(refine WalkL.tk [0,1,2,3,4,5,6,7] ?_;(iterate 8 (refine l! ?_));refine TkL.n ?_)
       clear h2 h3;refine oL! 8 ?_;refine b! ?_;intro K hK;go_simp;refine(number26_any gp B pv4 fv p0 ⟨st,si,rb⟩ wd DF.out.gk HB.out (by have:=HPL.out.1;have:=HLT.out;have:=HSL.out;have:=HPSL.out;omega)).mono ?_;rintro e w5 ⟨pv5,rfl,hg5,hf5⟩;have E5:=h! (DF.out.num hf5 hg5);have R5:=h! (hf5.grow DF.out.gk DR.out (by decide) (by decide));have K5:=h! hf5.kept;refine hK.out _ _ (hf5.kept.mono fun x hx=>hx.1) ?_;clear hK hg5 hf5 DR DS;generalize numD p0 ⟨st,si,rb⟩=nu at *;generalize putP p0 ⟨st,si,rb⟩=p5 at *;refine oL! 9 ?_;refine b! ?_;intro K hK;go_simp;refine(put26_any rv rf (nu:Int) w5 E5.out.fm.refs (by have:=HPL.out.2;have:=HLT.out;have:=HSL.out;have:=HTL.out;omega) E5.out.sz).mono ?_;rintro e w6 ⟨rv6,rfl,ho6,hk6,hw6⟩;generalize (if (nu:Int)∈rf then rf else rf++[(nu:Int)])=rf6 at *;obtain⟨r1,r2,r3,rfl,-,-,-⟩:=ho6.sl.len;have E6:=h! (E5.out.keep hk6 ho6);have B6:=h! (E5.out.bx hk6);have R6:=h! (Own.setBox (x:=w.heap.size+3) (R5.out.keepOwn fun g hg=>hk6.block g ⟨(R5.out.block g hg).2,fun e=>R5.out.apart E5.out.fm.refs (by decide) hg e⟩) B6.out (by decide) (.slice r1 r2 r3) (i:=2));refine hK.out _ _ (Kept.trans (K5.out.mono fun x hx=>hx.1) (hk6.mono fun x hx=>⟨Nat.lt_of_lt_of_le hx.1.1 K5.out.size,hx.2⟩)) ?_;clear hK hk6 ho6 hw6 DF E5 R5 K5;((refine WalkL.take 10 _ ?_ (by simp only[gA,gS,gZ];rfl) (by kernel_rfl) (by kernel_rfl) (by kernel_rfl) (by rfl) (fun W hW=>?_) ?_;rotate_left;· (go_simp;try with_reducible rfl));simp only[Act.put,pA,pZ,pS])
       have hbf:=B6.out.cells;have hbz:=B6.out.free;clear h1;refine WalkL.last (by kernel_rfl) (by kernel_rfl) ?_;refine b! ?_;intro K hK;go_simp;refine hK.out _ _ ?_;clear hK hbf hbz;go_wp2_with fail
       go_roundw
       case rel=>exact⟨i+1,rf6,p5,.slice r1 r2 r3,pv5,HLT.out,by first | rw[HWI.out] | go_num,HYE.out,E6.out,R6.out⟩
       case measure=>have:=HLT.out;(try rw[HWI.out]);simp[intOf];omega
      ·have HNO:=h! (show refsD ps [] (selF (fun s=>decide (s.r=⟨#[]⟩)) (viaF rb) (sb.take (i+1)))=(rf,p0)from by rw[HAT.out,if_neg (by simp[he])]);rw[decide_eq_false he]at hse;clear he;go_wp2_with fail
       go_roundw
       case rel=>exact⟨i+1,rf,p0,rv,pv4,HLT.out,by first | rw[HWI.out] | go_num,HNO.out,FR.out.ext X1.out,SR2.out.below X1.out⟩
       case measure=>have:=HLT.out;(try rw[HWI.out]);simp[intOf];omega
     case' neg =>
      obtain rfl:i=sb.length:=by omega
      rw[List.take_length]at HRD
      have HH:headF T ⟨pt,pi,pr⟩ k ra rb ps=([],rf,p0):=by
       unfold headF;rw[if_neg H1.out,if_neg H2.out,if_pos H3.out,HSB.out,viaOf_sel,HRD.out]
      obtain⟨r1,r2,r3,rfl,-,-,-⟩:=FR.out.fm.refs.sl.len;have FX:=h! (show ∃ s1 s2 s3 r1 r2 r3 su rf p0 pv4,headF T ⟨pt,pi,pr⟩ k ra rb ps=(su,rf,p0)/\FrmI wb w wr gp B pv fv #[.string pt,.string pi,.string pr] k #[.int .i64 k,.string ra,.string rb,.slice ao parts.length c] p0 su rf [] (.slice s1 s2 s3) (.slice r1 r2 r3) (.slice none 0 0) pv4 from⟨_,_,_,_,_,_,_,_,_,_,HH,FR.out⟩);have hrl:=FR.out.rb.cells;clear HH FR SR2 HRD hlt hi;go_wp2_with fail
      clear hrl b1 b2 b3;generalize wr=wh at *
   case' neg =>
    have b1:(k == 1)=false:=by rw[beq_eq_false_iff_ne];exact h1
    have b2:(k == 2)=false:=by rw[beq_eq_false_iff_ne];exact h2
    have b3:(k == 3)=false:=by rw[beq_eq_false_iff_ne];exact h3
    have H1:=h! h1;clear h1;have H2:=h! h2;clear h2;have H3:=h! h3;clear h3;have HH:=h! (show headF T ⟨pt,pi,pr⟩ k ra rb ps=([],[],ps)from by unfold headF;rw[if_neg H1.out,if_neg H2.out,if_neg H3.out]);have FX:=h! (show ∃ s1 s2 s3 r1 r2 r3 su rf p0 pv4,headF T ⟨pt,pi,pr⟩ k ra rb ps=(su,rf,p0)/\FrmI wb w we gp B pv fv #[.string pt,.string pi,.string pr] k #[.int .i64 k,.string ra,.string rb,.slice ao parts.length c] p0 su rf [] (.slice s1 s2 s3) (.slice r1 r2 r3) (.slice none 0 0) pv4 from⟨_,_,_,_,_,_,_,_,_,_,HH.out,FI.out⟩);have hrl:=FI.out.rb.cells;clear FI HH;go_enter Tryz.func111,Tryz.ntmps111
    rw[hwe]at hrl;go_wp2_with fail
    try rw[<- hwe]
    clear hwe hra hrl b1 b2 b3;generalize we=wh at *
 all_goals
  obtain⟨s1,s2,s3,r1,r2,r3,su,rf,p0,pv4,hh,hf⟩:=FX.out;have HH:=h! hh;have FH:=h! hf;have HSP:=h! (fun i=>formsD_take T ⟨pt,pi,pr⟩ parts p0 i)
  have HRM:=h! (show ∀ i (hi:i<parts.length),(formsD T ⟨pt,pi,pr⟩ (parts.take i) p0).2.length+parts[i].sz*(T.length+1)<=1073741824 from fun i hi=>by
   have:=HROOM.out i hi;rw[HH.out]at this;exact this)
  clear hh hf FX;go_loopw [93] (fun iv wr=>∃ (i:Nat) (q:List (FT × FV3)) (qv pv':Value),i<=parts.length/\iv = .int .i64 i/\q.map (·.1)=(formsD T ⟨pt,pi,pr⟩ (parts.take i) p0).1/\FrmI wb w wr gp B pv fv #[.string pt,.string pi,.string pr] k #[.int .i64 k,.string ra,.string rb,.slice ao parts.length c] (formsD T ⟨pt,pi,pr⟩ (parts.take i) p0).2 su rf q (.slice s1 s2 s3) (.slice r1 r2 r3) qv pv') (fun iv _=>parts.length-(intOf iv).toNat)
  case atStart=>exact⟨0,[],.slice none 0 0,pv4,Nat.zero_le _,rfl,rfl,FH.out⟩
  case round =>
   obtain⟨i,q,qv,pv',hi,rfl,hq,hfr⟩:=hrel;have RQ:=h! hq;have FR:=h! hfr;clear FH hq hfr;by_cases hlt:i<parts.length
   ·obtain⟨ao',c',he',-,-,hcell⟩:=(HRT.out.same (w':=wr) fun x hx=>(FR.out.be.block x hx).trans (HBW.out.block x hx).symm).rows;cases he';obtain⟨bq,oq,pq,rfl,hbq,d0,d1,d2,d3,hpat⟩:=hcell i hlt;dsimp only[RT.ps]at d0 d1 d2 d3 hpat;have HLTI:=h! hlt;have HST:=h! (HSP.out i hlt);have HRI:=h! (HRM.out i hlt);have HII:=h! (HIH.out parts[i] (List.getElem_mem hlt))
    have HQL:=h! (show q.length=i from by
     have:=congrArg List.length RQ.out;rw[List.length_map]at this;rw[this];rw[formsD_len1,List.length_take];omega)
    have HPL:=h! (show parts.length<=1073741824 from by
     have h1:=szL_many parts;have h2:=(RT.mk k ra rb parts).sz_eq;have h3:=HLEN.out;rw[h2,Nat.add_mul]at h3;have h4:szL parts*1<=szL parts*(T.length+1):=Nat.mul_le_mul_left _ (by omega);simp only[RT.ps]at h3;omega)
    have HWI:=h! (show wrap64 ((i:Int)+1)=((i+1:Nat):Int)from by have h1:=HPL.out;unfold wrap64;omega);have hli:(i:Int)<(parts.length:Int):=by omega
    generalize parts[i]=x at *;obtain⟨xo,xc,rfl,-⟩:=hpat.rows;generalize hfd:formsD T ⟨pt,pi,pr⟩ (parts.take i) p0=fd at *;obtain⟨ff,fp⟩:=fd;dsimp only at RQ FR HST HRI;clear hlt hi hfd hbq;have X1:=h! (Ext.alloc wr (.cells #[.int .i64 x.k,.string x.a,.string x.b,.slice xo x.ps.length xc] 106));have BX:=h! (Blk.made wr #[.int .i64 x.k,.string x.a,.string x.b,.slice xo x.ps.length xc] 106);have F1:=h! (FR.out.ext X1.out);have A1:=h! (hpat.same fun y (hy:y<B)=>X1.out.block y (by have:=FR.out.sz;have:=FR.out.g0;omega));have hbx:=BX.out.cells;have hbp:=F1.out.pb.cells;go_wp2_with fail
    clear hbx hbp d0 d1 d2 d3 hpat hli;refine(HII.out pv' (.slice xo x.ps.length xc) fp _ A1.out F1.out.be F1.out.gk HRI.out).mono ?_;rintro e w2 ⟨v3,pv2,rfl,hat2,hgk2,hfn2⟩;have F2:=h! (F1.out.num hfn2 hgk2);have TA:=h! hat2;have QB:=h! (fun g hg=>(F1.out.fm.parts.row.block g hg).2);have ZB:=h! F1.out.sz;clear hat2 hgk2 hfn2 F1 FR BX A1 X1;generalize (wr.alloc (.cells #[.int .i64 x.k,.string x.a,.string x.b,.slice xo x.ps.length xc] 106)).heap.size=n0 at *;generalize hfx:formD T ⟨pt,pi,pr⟩ x fp=fx at *;obtain⟨fx,fxp⟩:=fx;obtain⟨v1,v2,v4⟩:=v3;unfold fV at *;dsimp only at TA F2 HST ⊢;obtain⟨t1,t2,-⟩:=(FTAt.iff _ _).1 TA.out;obtain⟨x1,y1,z1,rfl,-,-,-⟩:=t1.len;obtain⟨x2,y2,z2,rfl,-,-,-⟩:=t2.len;obtain⟨x4,z4,rfl,-⟩:=TA.out.rows;clear t1 t2 hfx;obtain⟨qo,qn,qc,rfl,hqn,-,-⟩:=F2.out.fm.parts.row.sl.len;have X3:=h! (Ext.alloc w2 (.cells #[.int .i64 fx.k,.slice x1 y1 z1,.slice x2 y2 z2,.slice x4 fx.ps.length z4] 128));have X4:=h! (Ext.alloc (w2.alloc (.cells #[.int .i64 fx.k,.slice x1 y1 z1,.slice x2 y2 z2,.slice x4 fx.ps.length z4] 128)) (.cells #[.int .i64 fx.k,.slice x1 y1 z1,.slice x2 y2 z2,.slice x4 fx.ps.length z4] 128));have B4:=h! (Blk.made' (w:=w2.alloc (.cells #[.int .i64 fx.k,.slice x1 y1 z1,.slice x2 y2 z2,.slice x4 fx.ps.length z4] 128)) (B:=w2.heap.size+1) (by simp) #[.int .i64 fx.k,.slice x1 y1 z1,.slice x2 y2 z2,.slice x4 fx.ps.length z4] 128);have hby:=(Blk.made w2 #[.int .i64 fx.k,.slice x1 y1 z1,.slice x2 y2 z2,.slice x4 fx.ps.length z4] 128).cells;have hbF:=(F2.out.ext X3.out).fm.box.cells;have F4:=h! ((F2.out.ext X3.out).ext X4.out);have QL3:=h! (show(q.flatMap fC).length+4<=4294967300 from by have:=HQL.out;have:=HPL.out;have:=HLTI.out;rw[fCs_length];omega);clear hqn;go_wp2_with (at_builtin;go_must (refine wpList_ownw formsT rfl (.tmp 103) (.tmp 105) rfl rfl F4.out.fm.parts.row rfl (m:=1) (news:=fC (fx,(.slice x1 y1 z1,.slice x2 y2 z2,.slice x4 fx.ps.length z4))) rfl (by intro j u hu;rw[Addr.add_lit,Nat.zero_add];exact(B4.out.cells j).trans (by simpa [fC] using hu)) (by simp[fC,Value.oneCell']) (by have:=QL3.out;rw[fC_length];omega) (by have:=QL3.out;rw[fC_length];omega) F4.out.sz ?_;intro v6 w6 hown6 hb6 hg6;have HP6:=h! (F2.out.part (X3.out.trans X4.out) hg6 hown6 hb6 TA.out ZB.out QB.out);obtain⟨o6,m6,c6,rfl,-,-,-⟩:=hown6.sl.len;have hbf:=(F4.out.bg hg6).cells;have hbz:=(F4.out.bg hg6).free;clear hown6 hb6 hg6))
    go_roundw
    case rel=>exact⟨i+1,q++[(fx,(.slice x1 y1 z1,.slice x2 y2 z2,.slice x4 fx.ps.length z4))],.slice o6 m6 c6,pv2,HLTI.out,by first | rw[HWI.out] | go_num,by rw[HST.out,List.map_append,RQ.out];rfl,by rw[HST.out];exact HP6.out⟩
    case measure=>have:=HLTI.out;(try rw[HWI.out]);simp[intOf];omega
   ·obtain rfl:i=parts.length:=by omega
    have HTA:=h! (show parts.take parts.length=parts from List.take_length);rw[HTA.out]at RQ FR;obtain⟨qo,qn,qc,rfl,-,-,-⟩:=FR.out.fm.parts.row.sl.len;have hc3:=FR.out.fm.box.cells;have hc2:=FR.out.ob.cells;have hz2:=FR.out.ob.free;clear hi hlt;go_wp2_with fail
    clear hc3 hc2 hz2;have ZS:∀ y,y≠w.heap.size+2->((((wr.setCell ⟨w.heap.size+2,0,none⟩ (.int .i64 k)).setCell ⟨w.heap.size+2,1,none⟩ (.slice s1 s2 s3)).setCell ⟨w.heap.size+2,2,none⟩ (.slice r1 r2 r3)).setCell ⟨w.heap.size+2,3,none⟩ (.slice qo qn qc)).heap[y]?=wr.heap[y]?:=fun y hy=>by rw[Below.heap_setCell _ _ _ y hy,Below.heap_setCell _ _ _ y hy,Below.heap_setCell _ _ _ y hy,Below.heap_setCell _ _ _ y hy]
    have ZW:=FR.out.gk.un FR.out.ob (by decide) (by decide);refine bodyPost_ret (results_cell_row rfl _ _ (w.heap.size+2) 128 #[.int .i64 k,.slice s1 s2 s3,.slice r1 r2 r3,.slice qo qn qc] (0,0) _ rfl (FR.out.ob.put4 _ _ _ _) Tryz.underlying128 rfl (by kernel_rfl)) rfl ?_;refine⟨(.slice s1 s2 s3,.slice r1 r2 r3,.slice qo qn qc),pv',by rw[HFD.out,HH.out];rfl,?_,?_,(((FR.out.fn.set (by omega) _).set (by omega) _).set (by omega) _).set (by omega) _⟩
    ·refine(FR.out.fm.done (by rw[HFD.out,HH.out,RQ.out]) (fun y hy _=>ZS y (by omega)) (by simp)).mono fun y hy=>hy.mono (by omega)
    ·rw[HFD.out,HH.out];exact FR.out.gk.same (ZS _ fun e=>ZW.2.1 e.symm) fun g hg=>ZS _ fun e=>ZW.2.2.2 (by rw[hg,e])
end Go.Proofs.YtlhaghoajpglaaaGreat
