/- Lemmas for the claim, no condition. -/
import Derived.Test.YtlhaghoajpglaaaGreatYBuMany0
import Derived.Laws.EntriesVeiled
import Derived.Deep.RegionHeld
import Derived.Test.YtlhaghoajpglaaaGreatYBuMany5
import Derived.Test.YtlhaghoajpglaaaGreatYBuMany4
import Derived.Test.YtlhaghoajpglaaaGreatYBuMany1
set_option maxRecDepth 100000
set_option maxHeartbeats 8000000
namespace Go.Proofs.YtlhaghoajpglaaaGreat
open Go Go.RowKit Go.Maps
structure GkAt (w:World)(gp B:Nat)(ps:List P3)(pv fv:Value):Prop where
 box:Blk w gp #[pv,fv] 96
 pts:Own w B 32 3 pv (pcs ps)
section
variable {w w' w0 : World} {gp B B' lo x : Nat} {pv fv pv' v sv rv qv : Value} {ps : List P3} {e : TypeId} {sz : Nat} {xs : List Value} {k : Int} {subs : List P3} {refs : List Int} {q : List (FT × FV3)}
theorem GkAt.ext (h:GkAt w gp B ps pv fv)(hx:Ext w w'):GkAt w' gp B ps pv fv:=⟨h.box.below hx,h.pts.below hx⟩
theorem GkAt.same (h:GkAt w gp B ps pv fv)(h1:w'.heap[gp]?=w.heap[gp]?)(h3:∀ g,pv.ownBlock=some g->w'.heap[g]?=w.heap[g]?):GkAt w' gp B ps pv fv:=⟨h1.trans h.box,h.pts.keepOwn h3⟩
theorem GkAt.ptNe (h:GkAt w gp B ps pv fv):∀ g,pv.ownBlock=some g->g≠gp:=fun g hg e=>by
 obtain⟨cur,h2⟩:=h.pts.typed hg;subst e;rw[show w.heap[g]?=_ from h.box]at h2;injection h2 with h2
 injection h2 with _ h2 _
 exact absurd h2 (by decide)
theorem GkAt.un (h:GkAt w gp B ps pv fv) {x:Nat} {cs:Array Value} {fr:Nat × Nat} (hx:w.heap[x]?=some (.cells cs e fr))(he:e≠32)(he2:e≠96):KX gp gp w pv x:=by
 have hne:x≠gp:=fun e=>by
  subst e;rw[show w.heap[x]?=_ from h.box]at hx;injection hx with hx
  injection hx with _ hx _
  exact he2 hx.symm
 refine⟨(Array.getElem?_eq_some_iff.1 hx).1,hne,hne,fun e=>?_⟩;obtain⟨c,hc⟩:=h.pts.typed e;rw[hc]at hx;injection hx with hx
 injection hx with _ hx _
 exact he hx.symm
theorem Fine.gpk (h:Fine gp gp w w' pv pv')(hw:GkAt w gp B ps pv fv)(hB:B<=gp):PKept (· = gp) B w w':=h.kept.mono fun x hx=>by
 rcases hx with hx | ⟨h1,h2,h3⟩
 ·exact⟨by have:=hw.box.lt;omega,by omega,by omega,fun e=>by have:=(hw.pts.block x e).1;omega⟩
 ·refine⟨h2,h1,h1,fun e=>?_⟩;obtain⟨c,hc⟩:=hw.pts.typed e;exact h3 c hc
theorem Fine.gblk (h:Fine gp gp w w' pv pv')(hw:GkAt w gp B ps pv fv) {x:Nat} {cs:Array Value} (hx:Blk w x cs e)(he:e≠32)(he2:e≠96):Blk w' x cs e:=(h.kept.block x (hw.un hx he he2)).trans hx
theorem Fine.grow (h:Fine gp gp w w' pv pv')(hw:GkAt w gp B ps pv fv)(ho:Own w B' e sz v xs)(he:e≠32)(he2:e≠96):Own w' B' e sz v xs:=ho.keepOwn fun g hg=>by
 obtain⟨c,hc⟩:=ho.typed hg;exact h.kept.block g (hw.un hc he he2)
theorem GkAt.grown (h:GkAt w gp B ps pv fv)(ho:Own w B' e sz v xs)(he:e≠32)(he2:e≠96)(hg:w.grownBy w' v.ownBlock):GkAt w' gp B ps pv fv:=by
 refine h.same (hg.block gp h.box.lt fun e=>?_) fun g hgp=>hg.block g (h.pts.block g hgp).2 fun e=>?_
 ·obtain⟨c,hc⟩:=ho.typed e.symm;exact(h.un hc he he2).2.1 rfl
 ·obtain⟨c,hc⟩:=ho.typed e.symm;exact(h.un hc he he2).2.2.2 hgp
theorem GkAt.setBox (h:GkAt w gp B ps pv fv) {x i:Nat} {cs:Array Value} (hx:Blk w x cs e)(he:e≠32)(he2:e≠96)(u:Value):GkAt (w.setCell ⟨x,i,none⟩ u) gp B ps pv fv:=by
 have hu:=h.un hx he he2;exact h.same (Below.heap_setCell _ _ _ _ fun e=>hu.2.1 e.symm) fun g hg=>Below.heap_setCell _ _ _ _ fun e=>hu.2.2.2 (by rw[hg,show g=x from e])
theorem FmAt.gfine (h:FmAt w lo x k subs refs q sv rv qv)(hw:GkAt w gp B ps pv fv)(hf:Fine gp gp w w' pv pv')(hB:B<=gp)(hM:gp<lo):FmAt w' lo x k subs refs q sv rv qv :=
 ⟨hf.gblk hw h.box (by decide) (by decide),hf.grow hw h.subs (by decide) (by decide),hf.grow hw h.refs (by decide) (by decide),h.parts.keep (hf.gpk hw hB) fun x hx=>by
  rw[show x=gp from hx];exact hM⟩
end
theorem grown_blk {w w':World} {B sz x:Nat} {e t:TypeId} {v:Value} {xs:List Value} {cs:Array Value} (ho:Own w B e sz v xs)(hg:w.grownBy w' v.ownBlock)(hx:Blk w x cs t)(hne:t≠e):Blk w' x cs t :=
 (hg.block x hx.lt fun hv=>by
  obtain⟨c2,h2⟩:=ho.typed hv.symm;rw[show w.heap[x]?=_ from hx]at h2;exact hne (by injection Option.some.inj h2)).trans hx
theorem grown_below {w0 w w':World} {B sz:Nat} {e:TypeId} {v:Value} {xs:List Value} (h:Below B w0 w)(ho:Own w B e sz v xs)(hg:w.grownBy w' v.ownBlock)(hB:B<=w.heap.size):Below B w0 w' :=
 h.trans ⟨hg.os,hg.tape,hg.output,hg.size,fun x hx=>hg.block x (by omega) fun e=>by have:=(ho.block x e.symm).1;omega⟩
theorem numD_at {ps:List P3} {p:P3} {i:Nat} (hi:i<ps.length)(h:ps[i]=p)(hn:∀ j (hj:j<ps.length),j<i->ps[j]≠p):numD ps p=i:=by
 unfold numD;rw[List.findIdx_eq hi];exact⟨by simpa using h,fun j hj=>by simpa using hn j (by omega) hj⟩
theorem number26_any (gp B:Nat)(pv fv:Value)(ps:List P3)(p:P3)(w:World)(h:GkAt w gp B ps pv fv)(hB:B<=gp)(hl:ps.length<=1073741824) :
  Calls Tryz.prog 165 #[.pointer (some ⟨gp,0,none⟩),pV p] w fun e w'=>∃ pv',e = .returned (.int .i64 (numD ps p:Nat))/\GkAt w' gp B (putP ps p) pv' fv/\Fine gp gp w w' pv pv':=by
 have HBB:=h! hB;have HB0:=h! (show B<=w.heap.size from by have:=h.box.lt;omega);have HPT:=h! h.ptNe;have HPL:=h! h.pts.block;obtain⟨po,pc,rfl,hlc,hcm,-⟩:=Sl.rows pC_length (by decide) (show Sl _ w 3 pv (ps.flatMap pC)from h.pts.sl);have HNW:=h! (numD_new ps p);have HAT:=h! (fun i hi=>numD_at (ps:=ps) (p:=p) (i:=i) hi);have HPP:=h! (show putP ps p=if p∈ps then ps else ps++[p]from rfl);obtain⟨pt,pi,pr⟩:=p;have hx1:=Ext.alloc w (.cells #[.string pt,.string pi,.string pr] 32);have HW1:=h! (h.ext hx1);have HP1:=h! (Blk.made w #[.string pt,.string pi,.string pr] 32);have HX1:=h! hx1;have hgc:=HW1.out.box.cells;clear hx1 h hB;unfold pV;dsimp only;go_enter Tryz.func165,Tryz.ntmps165
 go_wp2_with fail
 clear hgc;obtain⟨w1,hw1⟩:∃ x,x=w.alloc (.cells #[.string pt,.string pi,.string pr] 32):=⟨_,rfl⟩;rw[<- hw1]at HW1 HP1 HX1 ⊢;clear hw1;go_loopw [12] (fun ii wr=>∃ i:Nat,i<=ps.length/\ii = .int .i64 i/\(∀ j (hj:j<ps.length),j<i->ps[j]≠⟨pt,pi,pr⟩)/\Ext w1 wr) (fun ii _=>ps.length-(intOf ii).toNat)
 case atStart=>exact⟨0,Nat.zero_le _,rfl,fun _ _ h=>absurd h (Nat.not_lt_zero _),Ext.refl _⟩
 case round =>
  obtain⟨i,hi,rfl,hall,hxr⟩:=hrel;have HALL:=h! hall;have HXR:=h! hxr;clear hall hxr;by_cases hlt:i<ps.length
  ·obtain⟨ao',c',he',-,-,hcell⟩:=Sl.rows pC_length (by decide) (show Sl _ wr 3 (.slice po ps.length pc) (ps.flatMap pC)from(HW1.out.pts.below HXR.out).sl);cases he';obtain⟨b,off,rfl,-,hcell⟩:=hcell (by omega);have hck:=hcell i hlt;clear hcell;have HEQ:=h! (fun(h:ps[i]=⟨pt,pi,pr⟩)=>HAT.out i hlt h HALL.out);have HMEM:=h! (fun(h:ps[i]=(⟨pt,pi,pr⟩:P3))=>h▸List.getElem_mem hlt);have HNX:=h! (fun(h:ps[i]≠⟨pt,pi,pr⟩)=>upto_succ (p:=fun j hj=>ps[j]≠⟨pt,pi,pr⟩) HALL.out hlt h);have HLT:=h! hlt;have hli:(i:Int)<(ps.length:Int):=by omega
   have HII:=h! (show ps.length<=1073741824 from hl);generalize ps[i]=x at *;have hqe:=fun W=>p3_eql x ⟨pt,pi,pr⟩ W;by_cases he:x=⟨pt,pi,pr⟩
   ·rw[decide_eq_true he]at hqe;have HE:=h! (HEQ.out he);have HM:=h! (show putP ps ⟨pt,pi,pr⟩=ps from by rw[HPP.out,if_pos (HMEM.out he)]);clear HEQ HMEM HNX;obtain⟨xt,xi,xr⟩:=x;unfold pV at hqe;dsimp only at hqe;have c0:wr.cell? ⟨b,off+i*3,none⟩=some (.string xt):=hck 0 _ rfl;have c1:=hck 1 _ rfl;have c2:=hck 2 _ rfl;clear hck he;have HX2:=h! (Ext.alloc wr (.cells #[.string xt,.string xi,.string xr] 32));have hxc:=(Blk.made wr #[.string xt,.string xi,.string xr] 32).cells;have hpc:=((HP1.out.below HXR.out).below HX2.out).cells;clear hl hlt;go_wp2_with fail
    go_ret
    exact⟨by rw[HE.out];rfl,.slice (some ⟨b,off,none⟩) ps.length pc,by rw[HM.out];exact(HW1.out.ext HXR.out).ext HX2.out,Fine.of _ _ _ (HX1.out.trans (HXR.out.trans HX2.out))⟩
   ·rw[decide_eq_false he]at hqe;have HN:=h! (HNX.out he);clear HEQ HMEM HNX;obtain⟨xt,xi,xr⟩:=x;unfold pV at hqe;dsimp only at hqe;have c0:wr.cell? ⟨b,off+i*3,none⟩=some (.string xt):=hck 0 _ rfl;have c1:=hck 1 _ rfl;have c2:=hck 2 _ rfl;clear hck he;have HX2:=h! (Ext.alloc wr (.cells #[.string xt,.string xi,.string xr] 32));have hxc:=(Blk.made wr #[.string xt,.string xi,.string xr] 32).cells;have hpc:=((HP1.out.below HXR.out).below HX2.out).cells;clear hlt;go_wp2_with fail
    go_roundw
    case rel=>exact⟨i+1,HLT.out,by go_num,HN.out,HXR.out.trans HX2.out⟩
    case measure=>have:=HLT.out;simp[intOf];omega
  ·obtain rfl:i=ps.length:=by omega
   have hm:(⟨pt,pi,pr⟩:P3)∉ps:=fun h=>by
    obtain⟨j,hj,e⟩:=List.getElem_of_mem h;exact HALL.out j hj hj e
   have HR:=h! (show putP ps ⟨pt,pi,pr⟩=ps++[⟨pt,pi,pr⟩]from by rw[HPP.out,if_neg hm]);have HNN:=h! (HNW.out hm);have HLL:=h! hl;clear hm hl hlt;go_wp2_with fail
   obtain⟨wg,hwg⟩:∃ wg,wg=wr.drew:=⟨_,rfl⟩;have HXg:=h! (show Ext w wg from by rw[hwg];exact HX1.out.trans (HXR.out.trans (Ext.drew _)));have HGg:=h! (show GkAt wg gp B ps (.slice po ps.length pc) fv from by rw[hwg];exact(HW1.out.ext HXR.out).ext (Ext.drew _));have HPg:=h! (show Blk wg w.heap.size _ _ from by rw[hwg];exact(HP1.out.below HXR.out).drew);refine region_walkL 10 (Kept (fun x=>x<wg.heap.size/\Value.ownBlock (.slice po ps.length pc)≠some x) wg) (by rw[<- hwg];exact Kept.refl _ _) (by kernel_rfl) (by kernel_rfl) (fun _ _ d _ _ h=>by cases d <;> exact h) ?_;rw[<- hwg];clear hwg;have h1:=fun W (h:Kept (fun x=>x<wg.heap.size/\Value.ownBlock (.slice po ps.length pc)≠some x) wg W)=>(h.blk HGg.out.box ⟨HGg.out.box.lt,fun e=>HPT.out _ e rfl⟩).cells;have h2:=fun W (h:Kept (fun x=>x<wg.heap.size/\Value.ownBlock (.slice po ps.length pc)≠some x) wg W)=>(h.blk HPg.out ⟨HPg.out.lt,fun e=>by have:=(HPL.out _ e).2;omega⟩).cells;(refine WalkL.tk [0,1,2,3,4,5] ?_;(iterate 6 (refine l! ?_));refine TkL.n ?_)
   clear h1 h2;have hE1:Ext wg (wg.alloc (.cells #[.string pt,.string pi,.string pr] 32)):=Ext.alloc _ _;refine oL! 6 ?_;refine b! ?_;intro K hK;go_simp;refine hK.out _ _ ((Kept.refl _ _).alloc (fun x hx=>hx.1) _) ?_;clear hK;refine oL! 7 ?_;refine b! ?_;intro K hK;refine wp_ownw pointsT (.tmp 26) (.tmp 28) rfl rfl (HGg.out.pts.below hE1) (m:=1) (news:=pC ⟨pt,pi,pr⟩) rfl rfl (fun j u hu=>?_) (pC_one _) (by rw[pcs_length,pC_length];have:=HLL.out;omega) (by rw[pcs_length,pC_length];have:=HLL.out;omega) (by have:=HXg.out.size;have:=HB0.out;simp;omega) (fun v2 w2 hown2 hw2 hg2=>?_)
   ·rw[Addr.add_lit,cell_of_row _ wg.heap.size (0+j) #[.string pt,.string pi,.string pr] 32 (0,0) (heap_alloc_new wg _),Nat.zero_add];simpa [pC] using hu
   have hkg:Kept (fun x=>x<wg.heap.size/\Value.ownBlock (.slice po ps.length pc)≠some x) wg w2:=⟨hg2.os.trans rfl,hg2.tape.trans rfl,hg2.output.trans rfl,Nat.le_trans (by simp) hg2.size,fun x hx=>(hg2.block x (by have:=hx.1;simp;omega) (fun e=>hx.2 e.symm)).trans (Below.heap_alloc wg _ x hx.1)⟩;have HQ2:=h! (show Kept (KX gp gp w (.slice po ps.length pc)) w w2 from(show Kept (KX gp gp w (.slice po ps.length pc)) w wg from Below.kept HXg.out fun x hx=>hx.1).trans (hkg.mono fun x hx=>⟨Nat.lt_of_lt_of_le hx.1 HXg.out.size,hx.2.2.2⟩));have HWH:=h! (show ∀ g,v2.ownBlock=some g->(Value.slice po ps.length pc).ownBlock=some g\/w.heap.size<=g from fun g hg=>(hw2 g hg).imp id fun e=>by have:=HXg.out.size;simp at e;omega);have HB2:=h! (hkg.blk HGg.out.box ⟨HGg.out.box.lt,fun e=>HPT.out _ e rfl⟩);refine hK.out _ _ hkg ?_;clear hK;simp only[Act.put,pA,pZ,pS];have HO2:=h! (show Own w2 B 32 3 v2 (pcs (ps++[⟨pt,pi,pr⟩]))from by rw[pcs_append,pcs_single];exact hown2);have HW2:=h! (show ∀ g,v2.ownBlock=some g->g≠gp from fun g hg=>(hw2 g hg).elim (fun e=>HPT.out g e) (fun e=>by have h2:=HGg.out.box.lt;simp at e;omega));obtain⟨o2,c2,hv2,-,-,-⟩:=Sl.rows pC_length (by decide) (show Sl _ w2 3 v2 (List.flatMap pC (ps++[⟨pt,pi,pr⟩]))from HO2.out.sl);rw[List.length_append,List.length_singleton]at hv2;subst hv2;clear hkg hown2 hw2 hg2 hE1 HGg HPg;(refine WalkL.tk [8,9] ?_;(iterate 2 (refine l! ?_));refine TkL.n ?_)
   have hbf:=HB2.out.cells;have hbz:=HB2.out.free;refine WalkL.last (by kernel_rfl) (by kernel_rfl) ?_;refine b! ?_;intro K hK;go_simp;refine hK.out _ _ ?_;clear hK hbf hbz;have HB3:=h! (HB2.out.set_to 0 (.slice o2 (ps.length+1) c2) rfl);have hb3:=HB3.out.cells;have HWI:=h! (show wrap64 ((ps.length+1:Nat)-1:Int)=(ps.length:Int)from by have:=HLL.out;unfold wrap64;omega);clear hi;go_wp2_with fail
   go_ret
   refine⟨.slice o2 (ps.length+1) c2,?_,?_,?_⟩
   ·rw[HNN.out];refine congrArg Ending.returned ?_;rfl
   ·rw[HR.out];exact⟨HB3.out,HO2.out.keepOwn fun g hg=>Below.heap_setCell _ _ _ _ (HW2.out g hg)⟩
   ·exact⟨HQ2.out.set (fun h=>h.2.1 rfl) _,HWH.out⟩
theorem put26_any {B:Nat} (v:Value)(l:List Int)(n:Int)(w:World)(h:Own w B 3 1 v (ic l))(hl:l.length<=1099511627776)(hB:B<=w.heap.size) :
  Calls Tryz.prog 164 #[v,.int .i64 n] w fun e w'=>∃ v',e = .returned v'/\Own w' B 3 1 v' (ic (if n∈l then l else l++[n]))/\Kept (fun b=>b<w.heap.size/\v.ownBlock≠some b) w w'/\(∀ g,v'.ownBlock=some g->v.ownBlock=some g\/w.heap.size<=g):=by
 obtain⟨ao,m,c,rfl,hm,-,-⟩:=h.sl.len;rw[ic_length]at hm;obtain rfl:m=l.length:=by omega
 obtain⟨r,hr⟩:∃ r,r=if n∈l then l else l++[n]:=⟨_,rfl⟩;rw[<- hr];have HRR:=h! hr;have HO:=h! h;have HL:=h! hl;have HB:=h! hB;clear h hm hl hB hr;go_enter Tryz.func164,Tryz.ntmps164
 go_wp2_with fail
 go_loopw [9] (fun ii wr=>∃ i:Nat,i<=l.length/\ii = .int .i64 i/\(∀ j (hj:j<l.length),j<i->l[j]≠n)/\wr=w) (fun ii _=>l.length-(intOf ii).toNat)
 case atStart=>exact⟨0,Nat.zero_le _,rfl,fun _ _ h=>absurd h (Nat.not_lt_zero _),rfl⟩
 case round =>
  obtain⟨i,hi,rfl,hall,rfl⟩:=hrel;have HALL:=h! hall;clear hall;by_cases hlt:i<l.length
  ·obtain⟨a1,n1,c1,hv,-,-,-,-,hcell⟩:=HO.out.sl;cases hv;obtain⟨b,off,rfl,-,hcell⟩:=hcell (by intro h;have:=congrArg List.length h;rw[ic_length]at this;rw[List.length_nil]at this;omega);have c0:=hcell i (.int .i64 l[i]) (by simp[ic,List.getElem?_eq_getElem hlt]);clear hcell;have HMEM:=h! (fun(h:l[i]=n)=>show r=l from by rw[HRR.out,if_pos (h▸List.getElem_mem hlt)]);have HNX:=h! (fun(h:l[i]≠n)=>upto_succ (p:=fun j hj=>l[j]≠n) HALL.out hlt h);have HLT:=h! hlt;have hli:(i:Int)<(l.length:Int):=by omega
   have HII:=h! HL.out;generalize l[i]=x at *;clear hlt;by_cases he:x=n
   ·have HR:=h! (HMEM.out he);have hb:(x == n)=true:=by simpa using he
    clear HMEM HNX he;go_wp2_with fail
    go_ret
    exact⟨_,rfl,by rw[HR.out];exact HO.out,Kept.refl _ _,fun g hg => .inl hg⟩
   ·have HN:=h! (HNX.out he);have hb:(x == n)=false:=by simpa using he
    have HWI:=h! (show wrap64 ((i:Int)+1)=((i+1:Nat):Int)from by have:=HL.out;have:=HLT.out;unfold wrap64;omega);clear HMEM HNX he;go_wp2_with fail
    go_roundw
    case rel=>exact⟨i+1,HLT.out,by rw[HWI.out],HN.out,trivial⟩
    case measure=>have:=HLT.out;rw[HWI.out];simp[intOf];omega
  ·obtain rfl:i=l.length:=by omega
   have hm:n∉l:=fun h=>by
    obtain⟨j,hj,e⟩:=List.getElem_of_mem h;exact HALL.out j hj hj e
   have HR:=h! (show r=l++[n]from by rw[HRR.out,if_neg hm]);clear hm hlt hi;have HX:=h! (Ext.alloc wr (.cells #[.int .i64 n] 3));go_wp2_with (at_builtin;go_must (refine wpList_ownw intsT rfl (.tmp 18) (.tmp 20) rfl rfl (HO.out.below HX.out) rfl (m:=1) (news:=[.int .i64 n]) rfl (by intro j u hu;rw[Addr.add_lit,cell_of_row _ wr.heap.size (0+j) #[.int .i64 n] 3 (0,0) (heap_alloc_new wr _)];simpa using hu) (by simp[Value.oneCell']) (by have:=HL.out;rw[ic_length];simp;omega) (by have:=HL.out;rw[ic_length];simp;omega) (by have:=HB.out;simp;omega) ?_;intro v6 w6 hown6 hb6 hg6;have HO6:=h! (show Own w6 B 3 1 v6 (ic (l++[n]))from by rw[ic_append];exact hown6);have HB6:=h! (show ∀ g,v6.ownBlock=some g->(Value.slice ao l.length c).ownBlock=some g\/(wr.alloc (.cells #[.int .i64 n] 3)).heap.size<=g from hb6);have HG6:=h! (show(wr.alloc (.cells #[.int .i64 n] 3)).grownBy w6 (Value.slice ao l.length c).ownBlock from hg6);clear hown6 hb6 hg6))
   go_ret
   exact⟨_,rfl,by rw[HR.out];exact HO6.out,⟨HG6.out.os.trans rfl,HG6.out.tape.trans rfl,HG6.out.output.trans rfl,Nat.le_trans HX.out.size HG6.out.size,fun b hb=>(HG6.out.block b (Nat.lt_of_lt_of_le hb.1 HX.out.size) fun e=>hb.2 e.symm).trans (HX.out.block b hb.1)⟩,fun g hg=>(HB6.out g hg).imp id fun h=>Nat.le_trans HX.out.size h⟩
theorem obj_eqlG (a1 a2 b1 b2:ByteArray)(W:World):(binOp BinOp.eql 30 (.agg #[.string a1,.string a2]) (.agg #[.string b1,.string b2])).run Tryz.prog W = .ok (.bool (decide (a1=b1/\a2=b2))) W:=by
 go_simp;simp only[ba_toList];by_cases h1:a1=b1 <;> by_cases h2:a2=b2 <;> simp[h1,h2]
theorem str_beq (a b:ByteArray):(a.toList == b.toList)=decide (a=b):=by
 by_cases h:a=b
 ·subst h;simp
 ·rw[decide_eq_false h,ByteArray.toList_eq,ByteArray.toList_eq,ba_beq' h]
theorem subsOf_take {T:List Tup} {p:P3} {i:Nat} (h:i<T.length):subsOf (T.take (i+1)) p=if T[i].o=p then subsOf (T.take i) p++[T[i].s]else subsOf (T.take i) p:=by
 rw[List.take_succ_eq_append_getElem h,subsOf_snoc]
theorem subs25_any {S:Nat->Prop} (v:Value)(T:List Tup)(p:P3)(w:World)(hS:∀ x,S x->x<w.heap.size)(h:Sl S w 6 v (tuCs T))(hl:T.length<=1000000000) :
  Calls Tryz.prog 163 #[v,pV p] w fun e w'=>∃ v',e = .returned v'/\Own w' w.heap.size 33 3 v' (pcs (subsOf T p))/\Ext w w':=by
 obtain⟨ao,c,rfl,hlc,hcm,hrow⟩:=tups_rows h;have HR:=h! hrow;have HL:=h! hl;have HSS:=h! hS;obtain⟨pt,pi,pr⟩:=p;have hx1:=Ext.alloc w (.cells #[.string pt,.string pi,.string pr] 32);have HP1:=h! (Blk.made w #[.string pt,.string pi,.string pr] 32);have HX1:=h! hx1;clear hrow hl h hx1 hS;unfold pV;dsimp only;go_enter Tryz.func163,Tryz.ntmps163
 go_wp2_with fail
 obtain⟨w1,hw1⟩:∃ x,x=w.alloc (.cells #[.string pt,.string pi,.string pr] 32):=⟨_,rfl⟩;rw[<- hw1]at HP1 HX1 ⊢;clear hw1;go_loopw [5,10] (fun ov ii wr=>∃ i:Nat,i<=T.length/\ii = .int .i64 i/\Own wr w.heap.size 33 3 ov (pcs (subsOf (T.take i) ⟨pt,pi,pr⟩))/\Blk wr w.heap.size #[.string pt,.string pi,.string pr] 32/\Below w.heap.size w wr) (fun _ ii _=>T.length-(intOf ii).toNat)
 case atStart=>exact⟨0,Nat.zero_le _,rfl,Own.nil _ _ _ _,HP1.out,HX1.out⟩
 case round =>
  obtain⟨i,hi,rfl,hown,hb1,hbw⟩:=hrel;have HOWN:=h! hown;have HB1:=h! hb1;have HBW:=h! hbw;clear hown hb1 hbw;by_cases hlt:i<T.length
  ·obtain⟨b,off,rfl,hSb,c0,c1,c2,c3,c4,c5⟩:=HR.out i hlt;have hlw:=HSS.out b hSb;have d0:=(HBW.out.cell (p:=⟨b,off+i*6,none⟩) hlw).trans c0;have d1:=(HBW.out.cell (p:=⟨b,off+i*6+1,none⟩) hlw).trans c1;have d2:=(HBW.out.cell (p:=⟨b,off+i*6+2,none⟩) hlw).trans c2;have d3:=(HBW.out.cell (p:=⟨b,off+i*6+3,none⟩) hlw).trans c3;have d4:=(HBW.out.cell (p:=⟨b,off+i*6+4,none⟩) hlw).trans c4;have d5:=(HBW.out.cell (p:=⟨b,off+i*6+5,none⟩) hlw).trans c5;have HTK:=h! (subsOf_take (p:=⟨pt,pi,pr⟩) hlt)
   have HSL:=h! (show(subsOf (T.take i) ⟨pt,pi,pr⟩).length<=1000000000 from by
    unfold subsOf;rw[List.length_map];refine Nat.le_trans (List.length_filter_le _ _) ?_;rw[List.length_take];have:=HL.out;omega)
   have HLT:=h! hlt;have HWI:=h! (show wrap64 ((i:Int)+1)=((i+1:Nat):Int)from by have:=HL.out;unfold wrap64;omega);have hli:(i:Int)<(T.length:Int):=by omega
   clear c0 c1 c2 c3 c4 c5 hlw hSb;generalize T[i]=x at *;clear hlt;generalize subsOf (T.take i) ⟨pt,pi,pr⟩=sl at *;generalize hs2:subsOf (T.take (i+1)) ⟨pt,pi,pr⟩=sl2 at *;have HS2:=h! hs2;clear hs2;obtain⟨⟨ot,oi,or_⟩,⟨st,si,sr⟩⟩:=x;dsimp only at d0 d1 d2 d3 d4 d5 HTK;have HX2:=h! (Ext.alloc wr (.cells #[.string ot,.string oi,.string or_,.string st,.string si,.string sr] 67));have hxc:=(Blk.made wr #[.string ot,.string oi,.string or_,.string st,.string si,.string sr] 67).cells;have hpc:=(HB1.out.below HX2.out).cells;have hob:=fun W=>obj_eqlG ot oi pt pi W;have hrb:=str_beq or_ pr;by_cases h1:ot=pt/\oi=pi
   ·rw[decide_eq_true h1]at hob;by_cases h2:or_=pr
    ·have HY:=h! (show sl2=sl++[⟨st,si,sr⟩]from by rw[HTK.out,if_pos (by rw[h1.1,h1.2,h2])]);rw[decide_eq_true h2]at hrb;clear h1 h2;have HX3:=h! (Ext.alloc (wr.alloc (.cells #[.string ot,.string oi,.string or_,.string st,.string si,.string sr] 67)) (.cells #[.string st,.string si,.string sr] 33));have HLB:=h! (Blk.made' (w:=wr.alloc (.cells #[.string ot,.string oi,.string or_,.string st,.string si,.string sr] 67)) (B:=wr.heap.size+1) (by simp) #[.string st,.string si,.string sr] 33);go_wp2_with (at_builtin;go_must (refine wpList_ownw subsT rfl (.tmp 26) (.tmp 29) rfl rfl ((HOWN.out.below HX2.out).below HX3.out) rfl (m:=1) (news:=pC ⟨st,si,sr⟩) rfl (by intro j u hu;rw[Addr.add_lit,Nat.zero_add];exact(HLB.out.cells j).trans (by simpa [pC] using hu)) (pC_one _) (by have:=HSL.out;rw[pcs_length,pC_length];omega) (by have:=HSL.out;rw[pcs_length,pC_length];omega) (by have:=HBW.out.size;have:=HX2.out.size;have:=HX3.out.size;omega) ?_;intro v6 w6 hown6 hb6 hg6;have HO6:=h! (show Own w6 w.heap.size 33 3 v6 (pcs (sl++[⟨st,si,sr⟩]))from by rw[pcs_append,pcs_single];exact hown6);have HP6:=h! (grown_blk ((HOWN.out.below HX2.out).below HX3.out) hg6 ((HB1.out.below HX2.out).below HX3.out) (by decide));have HW6:=h! (grown_below (HBW.out.trans ((HX2.out.trans HX3.out).mono HBW.out.size)) ((HOWN.out.below HX2.out).below HX3.out) hg6 (by have:=HBW.out.size;have:=HX2.out.size;have:=HX3.out.size;omega));clear hown6 hb6 hg6))
     go_roundw
     case rel=>exact⟨i+1,HLT.out,by first | rw[HWI.out] | go_num,by rw[HS2.out,HY.out];exact HO6.out,HP6.out,HW6.out⟩
     case measure=>have:=HLT.out;(try rw[HWI.out]);simp[intOf];omega
    ·have HY:=h! (show sl2=sl from by rw[HTK.out,if_neg (by simp[h2])]);rw[decide_eq_false h2]at hrb;clear h1 h2;go_wp2_with fail
     go_roundw
     case rel=>exact⟨i+1,HLT.out,by first | rw[HWI.out] | go_num,by rw[HS2.out,HY.out];exact HOWN.out.below HX2.out,HB1.out.below HX2.out,HBW.out.trans (HX2.out.mono HBW.out.size)⟩
     case measure=>have:=HLT.out;(try rw[HWI.out]);simp[intOf];omega
   ·have HY:=h! (show sl2=sl from by rw[HTK.out,if_neg (fun e=>h1 ⟨by injection e,by injection e⟩)]);rw[decide_eq_false h1]at hob;clear h1 hrb;go_wp2_with fail
    go_roundw
    case rel=>exact⟨i+1,HLT.out,by first | rw[HWI.out] | go_num,by rw[HS2.out,HY.out];exact HOWN.out.below HX2.out,HB1.out.below HX2.out,HBW.out.trans (HX2.out.mono HBW.out.size)⟩
    case measure=>have:=HLT.out;(try rw[HWI.out]);simp[intOf];omega
  ·obtain rfl:i=T.length:=by omega
   rw[List.take_length]at HOWN;go_wp2_with fail
   go_ret
   exact⟨_,rfl,HOWN.out,HBW.out⟩
theorem FTAt.shape {S:Nat->Prop} {w:World} {r:FT} {v:FV3} (h:FTAt S w r v):∃ a1 c1 a2 c2 a4 c4,v=(.slice a1 r.subs.length c1,.slice a2 r.refs.length c2,.slice a4 r.ps.length c4):=by
 obtain⟨v1,v2,v4⟩:=v;obtain⟨h1,h2,-⟩:=(FTAt.iff _ _).1 h;obtain⟨a1,c1,e1,-⟩:=Sl.rows pC_length (by decide) (show Sl S w 3 v1 (r.subs.flatMap pC)from h1);obtain⟨a2,n2,c2,e2,hn,-,-⟩:=h2.len;obtain⟨a4,c4,e4,-⟩:=h.rows;rw[ic_length,Nat.mul_one]at hn;dsimp only at e1 e2 e4;subst e1 e2 e4;rw[<- hn];exact⟨_,_,_,_,_,_,rfl⟩
theorem Sl.int_at {S:Nat->Prop} {w:World} {a:Option Addr} {n c:Nat} {l:List Int} (h:Sl S w 1 (.slice a n c) (ic l)) {i:Nat} (hi:i<l.length):∃ b off,a=some ⟨b,off,none⟩/\S b/\w.cell? ⟨b,off+i,none⟩=some (.int .i64 l[i]):=by
 obtain⟨a1,n1,c1,hv,-,-,-,-,hcell⟩:=h;cases hv;obtain⟨b,off,rfl,hb,hcell⟩:=hcell (by intro h;have:=congrArg List.length h;rw[ic_length,List.length_nil]at this;omega);exact⟨b,off,rfl,hb,hcell i _ (by simp[ic,List.getElem?_eq_getElem hi])⟩
theorem bools_at {S:Nat->Prop} {w:World} {v:Value} {l:List Bool} (h:Sl S w 1 v (boC l)):∃ ao c,v = .slice ao l.length c/\l.length<=c/\c<=9223372036854775807/\∀ i (hi:i<l.length),∃ b off,ao=some ⟨b,off,none⟩/\S b/\w.cell? ⟨b,off+i,none⟩=some (.bool l[i]):=by
 obtain⟨ao,n,c,rfl,h1,h2,h3,h4,h5⟩:=h;rw[boC_length,Nat.mul_one]at h1;subst h1;refine⟨ao,c,rfl,h2,by have e:maxLen=9223372036854775807:=rfl;omega,fun i hi=>?_⟩;obtain⟨b,off,rfl,hb,hc⟩:=h5 (fun e=>by have:=congrArg List.length e;rw[boC_length]at this;simp only[List.length_nil]at this;omega);exact⟨b,off,rfl,hb,hc i _ (by simp[boC,hi])⟩
theorem any_take {α:Type} (f:α->Bool) {l:List α} {i:Nat} (h:i<l.length):(l.take (i+1)).any f=((l.take i).any f||f l[i]):=by
 rw[List.take_succ_eq_append_getElem h,List.any_append];simp
def cntH (f:FT->Bool)(l:List FT):Nat:=(l.filter f).length
theorem cntH_take (f:FT->Bool) {l:List FT} {i:Nat} (h:i<l.length):cntH f (l.take (i+1))=cntH f (l.take i)+if f l[i]=true then 1 else 0:=by
 unfold cntH;rw[List.take_succ_eq_append_getElem h,List.filter_append,List.length_append];by_cases e:f l[i]=true <;> simp[e]
theorem cntH_le (f:FT->Bool)(l:List FT):cntH f l<=l.length:=List.length_filter_le _ _
theorem cntH_any (f:FT->Bool)(l:List FT):l.any f=decide (0<cntH f l):=by
 rw[Bool.eq_iff_iff,List.any_eq_true,decide_eq_true_eq];unfold cntH;rw[List.length_pos_iff_exists_mem];simp only[List.mem_filter]
theorem cntH_all (f:FT->Bool)(l:List FT):l.all f=decide (cntH f l=l.length):=by
 rw[Bool.eq_iff_iff,List.all_eq_true,decide_eq_true_eq];unfold cntH;rw[List.length_filter_eq_length_iff]
theorem hold27_any (s:P3)(bs:List Bool)(r:FT):∀ (iv:Value)(v:FV3)(w:World),FTAt (· < w.heap.size) w r v->Sl (· < w.heap.size) w 1 iv (boC bs) ->
  Calls Tryz.prog 142 #[fV r v,pV s,iv] w fun e w'=>e = .returned (.bool (holdF s bs r))/\Ext w w':=by
 induction r using FT.ind with
 | h r ih =>
 intro iv v w h hi;obtain⟨a1,c1,a2,c2,a4,c4,rfl⟩:=h.shape;obtain⟨ai,ci,rfl,hbl,hbm,-⟩:=bools_at hi;obtain⟨k,subs,refs,parts⟩:=r;have HIH:=h! ih;have H1:=h! h;have H2:=h! hi;have HBL:=h! (And.intro hbl hbm);clear ih h hi hbl hbm;unfold fV pV;dsimp only[FT.k,FT.subs,FT.refs,FT.ps]at HIH H1 ⊢;obtain⟨wa,hwa⟩:∃ x,x=w.alloc (.cells #[.int .i64 k,.slice a1 subs.length c1,.slice a2 refs.length c2,.slice a4 parts.length c4] 128):=⟨_,rfl⟩;obtain⟨wb,hwb⟩:∃ x,x=wa.alloc (.cells #[.string s.t,.string s.i,.string s.r] 33):=⟨_,rfl⟩;have ea:wa.heap.size=w.heap.size+1:=by rw[hwa];simp
 have xa:Ext w wa:=by rw[hwa];exact Ext.alloc _ _
 have xb:Ext wa wb:=by rw[hwb];exact Ext.alloc _ _
 have XB:=h! (xa.trans xb);have BA:=h! (show Blk wb w.heap.size #[.int .i64 k,.slice a1 subs.length c1,.slice a2 refs.length c2,.slice a4 parts.length c4] 128 from Blk.below (by rw[hwa];exact Blk.made _ _ _) xb);have BB:=h! (show Blk wb (w.heap.size+1) #[.string s.t,.string s.i,.string s.r] 33 from by rw[hwb,<- ea];exact Blk.made _ _ _);have F1:=h! (fun W (hW:Ext w W)=>(FTAt.iff _ _).1 (H1.out.up hW));have FI:=h! (fun W (hW:Ext w W)=>show Sl (· < W.heap.size) W 1 (.slice ai bs.length ci) (boC bs)from(H2.out.same (Same.below hW)).mono fun _ h=>Nat.lt_of_lt_of_le h hW.size);clear ea xa xb H2;subst hwb hwa;have hA:=BA.out.cells;go_enter Tryz.func142,Tryz.ntmps142
 go_wp2_with fail
 clear hA;obtain⟨w2,hw2⟩:∃ x,x=(w.alloc (.cells #[.int .i64 k,.slice a1 subs.length c1,.slice a2 refs.length c2,.slice a4 parts.length c4] 128)).alloc (.cells #[.string s.t,.string s.i,.string s.r] 33):=⟨_,rfl⟩;rw[<- hw2]at BA BB XB ⊢;clear hw2;go_loopw [7,18] (fun bv iv wr=>∃ i:Nat,i<=refs.length/\iv = .int .i64 i/\bv = .bool ((refs.take i).any (inAt bs))/\Ext w2 wr) (fun _ iv _=>refs.length-(intOf iv).toNat)
 case atStart=>exact⟨0,Nat.zero_le _,rfl,rfl,Ext.refl _⟩
 case round =>
  obtain⟨i,hi,rfl,rfl,hx⟩:=hrel;have RX:=h! hx;clear hx;by_cases hlt:i<refs.length
  ·have HLT:=h! hlt;have HNX:=h! (any_take (inAt bs) hlt);obtain⟨p1,q1,rfl,hp1,hc0⟩:=Sl.int_at (F1.out wr (XB.out.trans RX.out)).2.1 hlt;dsimp only[FT.refs]at hc0;have hli:(i:Int)<(refs.length:Int):=by omega
   have HWI:=h! (show wrap64 ((i:Int)+1)=((i+1:Nat):Int)from by
    obtain⟨_,n,c,he,h1,h2,h3⟩:=(F1.out wr (XB.out.trans RX.out)).2.1.len;cases he;unfold wrap64;omega)
   have HBA:=h! (show ∀ j (hj:j<bs.length),∃ b off,ai=some ⟨b,off,none⟩/\wr.cell? ⟨b,off+j,none⟩=some (.bool bs[j])from fun j hj=>by
    obtain⟨ao,c,he,-,-,hc⟩:=bools_at (FI.out wr (XB.out.trans RX.out));obtain⟨b,off,rfl,-,hc⟩:=hc j hj;cases he;exact⟨b,off,rfl,hc⟩)
   generalize refs[i]=x at *;cases hb:(refs.take i).any (inAt bs) with
   | true =>
    have HB:=h! hb;clear hlt hp1 hb;go_wp2_with fail
    go_roundw
    case rel=>exact⟨i+1,HLT.out,by first | rw[HWI.out] | go_num,by rw[HNX.out,HB.out];rfl,RX.out⟩
    case measure=>have:=HLT.out;(try rw[HWI.out]);simp[intOf];omega
   | false =>
    have HB:=h! hb;clear hlt hp1 hb;by_cases h0:0<=x
    ·obtain⟨m,rfl⟩:=Int.eq_ofNat_of_zero_le h0;by_cases hm:m<bs.length
     ·obtain⟨bb,bo,rfl,hc1⟩:=HBA.out m hm
      have HV:=h! (show inAt bs (m:Int)=bs[m]from by
       unfold inAt;rw[Int.toNat_natCast,List.getD_eq_getElem?_getD,List.getElem?_eq_getElem hm];simp)
      have hmi:(m:Int)<(bs.length:Int):=by omega
      generalize bs[m]=y at *;clear hm HBA;cases y
      all_goals
       go_wp2_with fail
       go_roundw
       case rel=>exact⟨i+1,HLT.out,by first | rw[HWI.out] | go_num,by rw[HNX.out,HB.out,HV.out];rfl,RX.out⟩
       case measure=>have:=HLT.out;(try rw[HWI.out]);simp[intOf];omega
     ·have hmi:¬ (m:Int)<(bs.length:Int):=by omega
      have HV:=h! (show inAt bs (m:Int)=false from by
       unfold inAt;rw[Int.toNat_natCast,List.getD_eq_getElem?_getD,List.getElem?_eq_none (by omega)];simp)
      clear hm HBA;go_wp2_with fail
      go_roundw
      case rel=>exact⟨i+1,HLT.out,by first | rw[HWI.out] | go_num,by rw[HNX.out,HB.out,HV.out];rfl,RX.out⟩
      case measure=>have:=HLT.out;(try rw[HWI.out]);simp[intOf];omega
    ·have HV:=h! (show inAt bs x=false from by unfold inAt;simp[h0]);clear HBA;go_wp2_with fail
     go_roundw
     case rel=>exact⟨i+1,HLT.out,by first | rw[HWI.out] | go_num,by rw[HNX.out,HB.out,HV.out];rfl,RX.out⟩
     case measure=>have:=HLT.out;(try rw[HWI.out]);simp[intOf];omega
  ·obtain rfl:i=refs.length:=by omega
   rw[List.take_length];have HEQ:=h! (holdF_mk s bs k subs refs parts);have RA:=h! (BA.out.below RX.out);have RB:=h! (BB.out.below RX.out);have XR:=h! (XB.out.trans RX.out);generalize refs.any (inAt bs)=bv at *;clear hlt hi BA BB XB RX;have hA:=RA.out.cells;by_cases k1:k=1
   ·subst k1;rw[if_pos rfl]at HEQ;go_wp2_with fail
    clear hA;obtain⟨w4,hw4⟩:∃ y,y=wr:=⟨_,rfl⟩;rw[<- hw4]at RA RB XR ⊢;clear hw4;go_loopw [7,47] (fun cv iv wr=>∃ i:Nat,i<=subs.length/\iv = .int .i64 i/\cv = .bool (bv||(subs.take i).any (fun x=>decide (x=s)))/\Ext w4 wr) (fun _ iv _=>subs.length-(intOf iv).toNat)
    case atStart=>exact⟨0,Nat.zero_le _,rfl,by simp,Ext.refl _⟩
    case round =>
     obtain⟨i,hi,rfl,rfl,hx⟩:=hrel;have RX:=h! hx;clear hx;by_cases hlt:i<subs.length
     ·have HLT:=h! hlt;have HNX:=h! (any_take (fun x=>decide (x=s)) hlt);obtain⟨so',sc',he',hn1,hn2,hcell⟩:=Sl.rows pC_length (by decide) (show Sl _ wr 3 (.slice a1 subs.length c1) (subs.flatMap pC)from(F1.out wr (XR.out.trans RX.out)).1);cases he';obtain⟨b,off,rfl,-,hcell⟩:=hcell (by omega);have hck:=hcell i hlt;clear hcell;have HWI:=h! (show wrap64 ((i:Int)+1)=((i+1:Nat):Int)from by unfold wrap64;omega);have hli:(i:Int)<(subs.length:Int):=by omega
      generalize subs[i]=x at *;clear hlt hn1 hn2;have c0:wr.cell? ⟨b,off+i*3,none⟩=some (.string x.t):=hck 0 _ rfl;have c1:wr.cell? ⟨b,off+i*3+1,none⟩=some (.string x.i):=hck 1 _ rfl;have c2:wr.cell? ⟨b,off+i*3+2,none⟩=some (.string x.r):=hck 2 _ rfl;clear hck;have X1:=h! (Ext.alloc wr (.cells #[.string x.t,.string x.i,.string x.r] 33));have hbs:=(Blk.made wr #[.string x.t,.string x.i,.string x.r] 33).cells;have hB:=(RB.out.below (RX.out.trans X1.out)).cells;have h4:=fun W=>sub_eql x s W;unfold pV at h4;cases hb:(bv||(subs.take i).any fun x=>decide (x=s)) with
      | true =>
       have HB:=h! hb;clear hb;go_wp2_with fail
       go_roundw
       case rel=>exact⟨i+1,HLT.out,by first | rw[HWI.out] | go_num,by rw[HNX.out,<- Bool.or_assoc,HB.out];rfl,RX.out.trans X1.out⟩
       case measure=>have:=HLT.out;(try rw[HWI.out]);simp[intOf];omega
      | false =>
       have HB:=h! hb;clear hb;go_wp2_with fail
       go_roundw
       case rel=>exact⟨i+1,HLT.out,by first | rw[HWI.out] | go_num,by rw[HNX.out,<- Bool.or_assoc,HB.out];simp,RX.out.trans X1.out⟩
       case measure=>have:=HLT.out;(try rw[HWI.out]);simp[intOf];omega
     ·obtain rfl:i=subs.length:=by omega
      rw[List.take_length]
      have HV:=h! (show holdF s bs (.mk 1 subs refs parts)=(bv||subs.any fun x=>decide (x=s))from by
       rw[HEQ.out,Bool.or_comm];congr 1
       rw[Bool.eq_iff_iff,List.any_eq_true,decide_eq_true_eq];simp)
      have XE:=h! (show Ext w wr from XR.out.trans RX.out);go_wp2_with fail
      go_ret
      exact⟨by rw[HV.out];try rfl,XE.out⟩
   ·rw[if_neg k1]at HEQ;have b1:(k == 1)=false:=by rw[beq_eq_false_iff_ne];exact k1
    by_cases k2:k=2
    ·subst k2;rw[if_pos (.inl rfl)]at HEQ;go_wp2_with fail
     go_ret
     exact⟨by rw[HEQ.out];try rfl,XR.out⟩
    ·have b2:(k == 2)=false:=by rw[beq_eq_false_iff_ne];exact k2
     by_cases k3:k=3
     ·subst k3;rw[if_pos (.inr rfl)]at HEQ;go_wp2_with fail
      go_ret
      exact⟨by rw[HEQ.out];try rfl,XR.out⟩
     ·have b3:(k == 3)=false:=by rw[beq_eq_false_iff_ne];exact k3
      rw[if_neg (by simp[k2,k3])]at HEQ;have HK:=h! (And.intro k1 (And.intro k2 k3));clear k1 k2 k3;by_cases k45:k=4\/k=5
      ·have HV:=h! (show holdF s bs (.mk k subs refs parts)=((k == 4)&&decide (0<cntH (holdF s bs) parts)||(k == 5)&&decide (cntH (holdF s bs) parts=parts.length))from by
        rw[HEQ.out,<- cntH_any,<- cntH_all];rcases k45 with rfl | rfl <;> simp)
       clear HEQ
       have hor:(k == 4)=true\/(k == 4)=false/\(k == 5)=true:=by
        rcases k45 with rfl | rfl <;> simp
       have HOR:=h! hor;rcases hor with hk4 | ⟨hk4,hk5⟩
       case' inl=>go_wp2_with fail
       case' inr=>go_wp2_with fail;clear hk5
       all_goals
        clear hA hk4 k45 b1 b2 b3;obtain⟨w4,hw4⟩:∃ y,y=wr:=⟨_,rfl⟩;rw[<- hw4]at RA RB XR ⊢;clear hw4;go_loopw [12,69] (fun cv iv wr=>∃ i:Nat,i<=parts.length/\iv = .int .i64 i/\cv = .int .i64 (cntH (holdF s bs) (parts.take i))/\Ext w4 wr) (fun _ iv _=>parts.length-(intOf iv).toNat)
        case atStart=>exact⟨0,Nat.zero_le _,rfl,rfl,Ext.refl _⟩
        case round =>
         obtain⟨i,hi,rfl,rfl,hx⟩:=hrel;have RX:=h! hx;clear hx;by_cases hlt:i<parts.length
         ·have HLT:=h! hlt;have HNX:=h! (cntH_take (holdF s bs) hlt);obtain⟨ao1,g1,he1,hg1,hg2,hc1⟩:=(H1.out.up (XR.out.trans RX.out)).rows;dsimp only[FT.ps]at he1 hg1 hg2 hc1;cases he1;obtain⟨p1,q1,u,rfl,hp1,e0,e1,e2,e3,hu⟩:=hc1 i hlt;have HII:=h! (HIH.out parts[i] (List.getElem_mem hlt));have HCN:=h! (show cntH (holdF s bs) (parts.take i)<=i from by have:=cntH_le (holdF s bs) (parts.take i);rw[List.length_take]at this;omega);have HWI:=h! (show wrap64 ((i:Int)+1)=((i+1:Nat):Int)/\wrap64 ((cntH (holdF s bs) (parts.take i):Int)+1)=((cntH (holdF s bs) (parts.take i)+1:Nat):Int)from by have:=HCN.out;unfold wrap64;omega);have hli:(i:Int)<(parts.length:Int):=by omega
          generalize parts[i]=x at *;generalize cntH (holdF s bs) (parts.take i)=cn at *;obtain⟨l1,m1,l2,m2,l4,m4,rfl⟩:=hu.shape;have X1:=h! (Ext.alloc wr (.cells #[.int .i64 x.k,.slice l1 x.subs.length m1,.slice l2 x.refs.length m2,.slice l4 x.ps.length m4] 128));have HCL:=h! (HII.out (.slice ai bs.length ci) _ _ (hu.up X1.out) (FI.out _ (XR.out.trans (RX.out.trans X1.out))));unfold fV pV at HCL;dsimp only at e0 e1 e2 e3 HCL;have hbf:=(Blk.made wr #[.int .i64 x.k,.slice l1 x.subs.length m1,.slice l2 x.refs.length m2,.slice l4 x.ps.length m4] 128).cells;have hB:=(RB.out.below (RX.out.trans X1.out)).cells;clear hlt hc1 hu hp1 hg1 hg2;go_wp2_with fail
          refine HCL.out.mono ?_;rintro e w5 ⟨rfl,hx5⟩;have X5:=h! (show Ext w4 w5 from RX.out.trans (X1.out.trans hx5));clear hx5 hbf hB HCL e0 e1 e2 e3;cases hq:holdF s bs x with
          | true =>
           rw[hq,if_pos rfl]at HNX;clear hq;go_wp2_with fail
           go_roundw
           case rel=>exact⟨i+1,HLT.out,by first | rw[HWI.out.1] | go_num,by first | rw[HNX.out,HWI.out.2] | (rw[HNX.out];go_num),X5.out⟩
           case measure=>have:=HLT.out;(try rw[HWI.out.1]);simp[intOf];omega
          | false =>
           rw[hq,if_neg (by decide)]at HNX;clear hq;go_wp2_with fail
           go_roundw
           case rel=>exact⟨i+1,HLT.out,by first | rw[HWI.out.1] | go_num,by rw[HNX.out];rfl,X5.out⟩
           case measure=>have:=HLT.out;(try rw[HWI.out.1]);simp[intOf];omega
         ·obtain rfl:i=parts.length:=by omega
          rw[List.take_length];have XE:=h! (show Ext w wr from XR.out.trans RX.out);have hA:=(RA.out.below RX.out).cells;generalize cntH (holdF s bs) parts=cn at *;have ho:=HOR.out;clear hlt hi;rcases ho with hk4 | ⟨hk4,hk5⟩
          ·rw[hk4]at HV;by_cases hcn:0<cn
           ·rw[decide_eq_true hcn]at HV;have hcz:(0:Int)<(cn:Int):=by omega
            go_wp2_with fail
            go_ret
            exact⟨by rw[HV.out];rfl,XE.out⟩
           ·have hcz:¬ (0:Int)<(cn:Int):=by omega
            have hk5:(k == 5)=false:=by rw[beq_iff_eq]at hk4;subst hk4;rfl
            rw[decide_eq_false hcn,hk5]at HV;go_wp2_with fail
            go_ret
            exact⟨by rw[HV.out];rfl,XE.out⟩
          ·rw[hk4,hk5]at HV;by_cases hcn:cn=parts.length
           ·rw[decide_eq_true hcn]at HV;subst hcn;go_wp2_with fail
            go_ret
            exact⟨by rw[HV.out];simp,XE.out⟩
           ·rw[decide_eq_false hcn]at HV;have hcz:((cn:Int) == (parts.length:Int))=false:=by rw[beq_eq_false_iff_ne];omega
            go_wp2_with fail
            go_ret
            exact⟨by rw[HV.out];rfl,XE.out⟩
      ·have b4:(k == 4)=false:=by rw[beq_eq_false_iff_ne];exact fun e=>k45 (.inl e)
       have b5:(k == 5)=false:=by rw[beq_eq_false_iff_ne];exact fun e=>k45 (.inr e)
       rw[if_neg fun e=>k45 (.inl e),if_neg fun e=>k45 (.inr e)]at HEQ;clear k45;go_wp2_with fail
       go_ret
       exact⟨by rw[HEQ.out];try rfl,XR.out⟩
theorem inI_any (bs:List Bool)(iv:Value)(b:Nat)(x:Int)(w:World)(hb:Blk w b #[iv] 74)(hi:Sl (· < w.heap.size) w 1 iv (boC bs)) :
  Calls Tryz.prog 255 (#[.int .i64 x]++#[.pointer (some ⟨b,0,none⟩)]) w fun e w'=>e = .returned (.bool (inAt bs x))/\Below w.heap.size w w':=by
 obtain⟨ai,ci,rfl,hbl,hbm,hc⟩:=bools_at hi;have hB:=hb.cells;clear hi;rw[show(#[.int .i64 x]++#[.pointer (some ⟨b,0,none⟩)]:Array Value)=#[.int .i64 x,.pointer (some ⟨b,0,none⟩)]from rfl];go_enter Tryz.func255,Tryz.ntmps255
 by_cases h0:0<=x
 ·obtain⟨m,rfl⟩:=Int.eq_ofNat_of_zero_le h0;by_cases hm:m<bs.length
  ·obtain⟨bb,bo,rfl,-,hc1⟩:=hc m hm
   have HV:=h! (show inAt bs (m:Int)=bs[m]from by
    unfold inAt;rw[Int.toNat_natCast,List.getD_eq_getElem?_getD,List.getElem?_eq_getElem hm];simp)
   have hmi:(m:Int)<(bs.length:Int):=by omega
   generalize bs[m]=y at *;clear hm hc hbl hbm;go_wp2_with fail
   go_ret
   exact⟨by rw[HV.out];try rfl,Below.refl _ _⟩
  ·have hmi:¬ (m:Int)<(bs.length:Int):=by omega
   have HV:=h! (show inAt bs (m:Int)=false from by
    unfold inAt;rw[Int.toNat_natCast,List.getD_eq_getElem?_getD,List.getElem?_eq_none (by omega)];simp)
   clear hm hc hbl hbm;go_wp2_with fail
   go_ret
   exact⟨by rw[HV.out];try rfl,Below.refl _ _⟩
 ·have HV:=h! (show inAt bs x=false from by unfold inAt;simp[h0]);clear hc hbl hbm;go_wp2_with fail
  go_ret
  exact⟨by rw[HV.out];try rfl,Below.refl _ _⟩
theorem some_any (bs:List Bool)(r:FT)(iv:Value)(v:FV3)(b c:Nat)(w:World)(hf:Blk w b #[.int .i64 r.k,v.1,v.2.1,v.2.2] 128)(hb:Blk w c #[iv] 74)(hat:FTAt (· < w.heap.size) w r v)(hi:Sl (· < w.heap.size) w 1 iv (boC bs)) :
  Calls Tryz.prog 253 #[.pointer (some ⟨b,0,none⟩),.pointer (some ⟨c,0,none⟩)] w fun e w'=>e = .returned (.bool (r.refs.any (inAt bs)))/\Below w.heap.size w w':=by
 have HC:=h! (containsIF_any w r.refs v.2.1 255 #[.pointer (some ⟨c,0,none⟩)] (enters_of Tryz.func255 (by kernel_rfl) rfl) (inAt bs) ((FTAt.iff _ _).1 hat).2.1 fun i hi' W hW=>inI_any bs iv c _ W (hb.below hW) ((hi.same (Same.below hW)).mono fun _ h=>Nat.lt_of_lt_of_le h hW.size));obtain⟨a1,c1,a2,c2,a4,c4,rfl⟩:=hat.shape;have hmf:∀ (fn:Fn) (first cap:Array Value) (W:World),(Instr.makeFunc fn first cap).run Tryz.prog W = .ok (.func fn first cap) W:=fun _ _ _ _=>rfl;have hA:=hf.cells;dsimp only at hA HC;clear hat hi hf hb;go_enter Tryz.func253,Tryz.ntmps253
 go_wp2_with fail
 refine HC.out.mono ?_;rintro e w2 ⟨rfl,hb⟩;have HB:=h! hb;clear hA HC hb;go_wp2_with fail
 go_ret
 exact⟨rfl,HB.out⟩
theorem part_any (s:P3)(bs:List Bool)(p:FT)(iv:Value)(v:FV3)(b c:Nat)(w:World)(hs:Blk w b #[.string s.t,.string s.i,.string s.r] 33)(hb:Blk w c #[iv] 74)(hat:FTAt (· < w.heap.size) w p v)(hi:Sl (· < w.heap.size) w 1 iv (boC bs))
  (ih:∀ W,Below w.heap.size w W->Calls Tryz.prog 212 #[fV p v,pV s,iv] W fun e w'=>e = .returned (.bool (holdF s bs p))/\Below W.heap.size W w') :
  Calls Tryz.prog 256 #[fV p v,.pointer (some ⟨b,0,none⟩),.pointer (some ⟨c,0,none⟩)] w fun e w'=>e = .returned (.bool (holdF s bs p))/\Below w.heap.size w w':=by
 obtain⟨a1,c1,a2,c2,a4,c4,rfl⟩:=hat.shape;obtain⟨ai,ci,rfl,-⟩:=bools_at hi;unfold fV pV at ih;unfold fV;dsimp only at ih ⊢;have X1:=h! (Ext.alloc w (.cells #[.int .i64 p.k,.slice a1 p.subs.length c1,.slice a2 p.refs.length c2,.slice a4 p.ps.length c4] 128));have HC:=h! (ih _ X1.out);have hbf:=(Blk.made w #[.int .i64 p.k,.slice a1 p.subs.length c1,.slice a2 p.refs.length c2,.slice a4 p.ps.length c4] 128).cells;have hS:=(hs.below X1.out).cells;have hB:=(hb.below X1.out).cells;clear hat hi hs hb ih;go_enter Tryz.func256,Tryz.ntmps256
 go_wp2_with fail
 refine HC.out.mono ?_;rintro e w2 ⟨rfl,hb⟩;have HB:=h! (show Below w.heap.size w w2 from Ext.trans X1.out hb);clear hbf hS hB HC hb;go_wp2_with fail
 go_ret
 exact⟨rfl,HB.out⟩
abbrev hvF (b c:Nat):Value := .func (.func 256) #[] #[.pointer (some ⟨b,0,none⟩),.pointer (some ⟨c,0,none⟩)]
theorem nopart_any (s:P3)(bs:List Bool)(p:FT)(iv:Value)(v:FV3)(b c d:Nat)(w:World)(hs:Blk w b #[.string s.t,.string s.i,.string s.r] 33)(hb:Blk w c #[iv] 74)(hd:Blk w d #[hvF b c] 330)(hat:FTAt (· < w.heap.size) w p v)(hi:Sl (· < w.heap.size) w 1 iv (boC bs))
  (ih:∀ W,Below w.heap.size w W->Calls Tryz.prog 212 #[fV p v,pV s,iv] W fun e w'=>e = .returned (.bool (holdF s bs p))/\Below W.heap.size W w') :
  Calls Tryz.prog 258 #[fV p v,.pointer (some ⟨d,0,none⟩)] w fun e w'=>e = .returned (.bool (!holdF s bs p))/\Below w.heap.size w w':=by
 have X1:=h! (Ext.alloc w (.cells #[.int .i64 p.k,v.1,v.2.1,v.2.2] 128));have HC:=h! (part_any s bs p iv v b c _ (hs.below X1.out) (hb.below X1.out) (hat.up X1.out) ((hi.same (Same.below X1.out)).mono fun _ h=>Nat.lt_of_lt_of_le h X1.out.size) fun W hW=>ih W (Ext.trans X1.out hW));obtain⟨a1,c1,a2,c2,a4,c4,rfl⟩:=hat.shape;have hbf:=(Blk.made w #[.int .i64 p.k,.slice a1 p.subs.length c1,.slice a2 p.refs.length c2,.slice a4 p.ps.length c4] 128).cells;have hD:=(hd.below X1.out).cells;have eg:=enters_of Tryz.func256 (by kernel_rfl) rfl;unfold fV at HC ⊢;dsimp only at HC hD ⊢;clear hat hi hs hb hd ih;go_enter Tryz.func258,Tryz.ntmps258
 go_wp2_with fail
 refine HC.out.mono ?_;rintro e w2 ⟨rfl,hb⟩;have HB:=h! (show Below w.heap.size w w2 from Ext.trans X1.out hb);clear hbf hD HC hb;go_wp2_with fail
 go_ret
 exact⟨rfl,HB.out⟩
theorem holdsP_any (s:P3)(bs:List Bool)(r:FT):∀ (iv:Value)(v:FV3)(w:World),FTAt (· < w.heap.size) w r v->Sl (· < w.heap.size) w 1 iv (boC bs) ->
  Calls Tryz.prog 212 #[fV r v,pV s,iv] w fun e w'=>e = .returned (.bool (holdF s bs r))/\Below w.heap.size w w':=by
 induction r using FT.ind with
 | h r ih =>
 intro iv v w h hi;have H0:=h! h;have I0:=h! hi;have HIH:=h! ih;obtain⟨a1,c1,a2,c2,a4,c4,rfl⟩:=h.shape;obtain⟨ai,ci,rfl,-⟩:=bools_at hi;obtain⟨k,subs,refs,parts⟩:=r;clear ih h hi;unfold fV pV;dsimp only[FT.k,FT.subs,FT.refs,FT.ps]at HIH H0 ⊢;obtain⟨wa,hwa⟩:∃ x,x=w.alloc (.cells #[.int .i64 k,.slice a1 subs.length c1,.slice a2 refs.length c2,.slice a4 parts.length c4] 128):=⟨_,rfl⟩;obtain⟨wb,hwb⟩:∃ x,x=wa.alloc (.cells #[.string s.t,.string s.i,.string s.r] 33):=⟨_,rfl⟩;obtain⟨wc,hwc⟩:∃ x,x=wb.alloc (.cells #[.slice ai bs.length ci] 74):=⟨_,rfl⟩;obtain⟨we,hwe⟩:∃ x,x=wc.alloc (.cells #[hvF (w.heap.size+1) (w.heap.size+1+1)] 330):=⟨_,rfl⟩;have ea:wa.heap.size=w.heap.size+1:=by rw[hwa];simp
 have eb:wb.heap.size=w.heap.size+1+1:=by rw[hwb];simp[ea]
 have ec:wc.heap.size=w.heap.size+1+1+1:=by rw[hwc];simp[eb]
 have xa:Ext w wa:=by rw[hwa];exact Ext.alloc _ _
 have xb:Ext wa wb:=by rw[hwb];exact Ext.alloc _ _
 have xc:Ext wb wc:=by rw[hwc];exact Ext.alloc _ _
 have xe:Ext wc we:=by rw[hwe];exact Ext.alloc _ _
 have XE:=h! (show Ext w we from xa.trans (xb.trans (xc.trans xe)));have BA:=h! (show Blk we w.heap.size #[.int .i64 k,.slice a1 subs.length c1,.slice a2 refs.length c2,.slice a4 parts.length c4] 128 from Blk.below (by rw[hwa];exact Blk.made _ _ _) (xb.trans (xc.trans xe)));have BS:=h! (show Blk we (w.heap.size+1) #[.string s.t,.string s.i,.string s.r] 33 from Blk.below (by rw[hwb,<- ea];exact Blk.made _ _ _) (xc.trans xe));have BI:=h! (show Blk we (w.heap.size+1+1) #[.slice ai bs.length ci] 74 from Blk.below (by rw[hwc,<- eb];exact Blk.made _ _ _) xe);have BF:=h! (show Blk we (w.heap.size+1+1+1) #[hvF (w.heap.size+1) (w.heap.size+1+1)] 330 from by rw[hwe,<- ec];exact Blk.made _ _ _);have FA:=h! (H0.out.up XE.out);have FI:=h! (show Sl (· < we.heap.size) we 1 (.slice ai bs.length ci) (boC bs)from(I0.out.same (Same.below XE.out)).mono fun _ h=>Nat.lt_of_lt_of_le h XE.out.size);have HEQ:=h! (holdF_mk s bs k subs refs parts);have hmf:∀ (fn:Fn) (first cap:Array Value) (W:World),(Instr.makeFunc fn first cap).run Tryz.prog W = .ok (.func fn first cap) W:=fun _ _ _ _=>rfl;have cA:=BA.out.cells;have cS:=BS.out.cells;have cI:=BI.out.cells;have cF:=BF.out.cells;have eg:=enters_of Tryz.func253 (by kernel_rfl) rfl;clear ea eb ec xa xb xc xe;subst hwe hwc hwb hwa;by_cases k1:k=1
 case' pos =>
  subst k1;rw[if_pos rfl]at HEQ;have HC:=h! (containsS_any _ subs s _ ((FTAt.iff _ _).1 FA.out).1);unfold pV at HC;dsimp only at HC;go_enter Tryz.func212,Tryz.ntmps212
  go_wp2_with fail
  refine HC.out.mono ?_;rintro e w5 ⟨rfl,hb5⟩;have HB:=h! hb5;have X5:=h! (show Below w.heap.size w w5 from Ext.trans XE.out hb5);have HS:=h! (some_any bs (.mk 1 subs refs parts) (.slice ai bs.length ci) (.slice a1 subs.length c1,.slice a2 refs.length c2,.slice a4 parts.length c4) w.heap.size (w.heap.size+1+1) w5 (BA.out.below hb5) (BI.out.below hb5) (FA.out.up hb5) ((FI.out.same (Same.below hb5)).mono fun _ h=>Nat.lt_of_lt_of_le h hb5.size));dsimp only[FT.refs]at HS;clear cA cS cI cF HC hb5;by_cases hm:s∈subs
  ·rw[decide_eq_true hm]at HEQ ⊢;clear HS;go_wp2_with fail
   go_ret
   exact⟨by rw[HEQ.out];rfl,X5.out⟩
  ·rw[decide_eq_false hm]at HEQ ⊢;go_wp2_with fail
   refine HS.out.mono ?_;rintro e w6 ⟨rfl,hb6⟩;have X6:=h! (show Below w.heap.size w w6 from Ext.trans X5.out hb6);clear HS hb6;go_wp2_with fail
   go_ret
   exact⟨by rw[HEQ.out];rfl,X6.out⟩
 case' neg =>
  rw[if_neg k1]at HEQ;have b1:(k == 1)=false:=by rw[beq_eq_false_iff_ne];exact k1
  clear k1;have HS:=h! (some_any bs (.mk k subs refs parts) (.slice ai bs.length ci) (.slice a1 subs.length c1,.slice a2 refs.length c2,.slice a4 parts.length c4) w.heap.size (w.heap.size+1+1) _ BA.out BI.out FA.out FI.out);dsimp only[FT.refs]at HS;by_cases k23:k=2\/k=3
  ·rw[if_pos k23]at HEQ
   have hor:(k == 2)=true\/(k == 2)=false/\(k == 3)=true:=by
    rcases k23 with rfl | rfl <;> simp
   clear k23;rcases hor with hk | ⟨hk,hk3⟩
   all_goals
    go_enter Tryz.func212,Tryz.ntmps212
    go_wp2_with fail
    refine HS.out.mono ?_;rintro e w6 ⟨rfl,hb6⟩;have X6:=h! (show Below w.heap.size w w6 from Ext.trans XE.out hb6);clear HS hb6 cA cS cI cF;go_wp2_with fail
    go_ret
    exact⟨by rw[HEQ.out];try rfl,X6.out⟩
  ·rw[if_neg k23]at HEQ;have b2:(k == 2)=false:=by rw[beq_eq_false_iff_ne];exact fun e=>k23 (.inl e)
   have b3:(k == 3)=false:=by rw[beq_eq_false_iff_ne];exact fun e=>k23 (.inr e)
   clear k23 HS eg;have HP:=h! (fun i (hi:i<parts.length) W (pvi:FV3) (hW:Below _ _ W) (hat:FTAt (· < W.heap.size) W parts[i] pvi)=>part_any s bs parts[i] (.slice ai bs.length ci) pvi (w.heap.size+1) (w.heap.size+1+1) W (BS.out.below hW) (BI.out.below hW) hat ((FI.out.same (Same.below hW)).mono fun _ h=>Nat.lt_of_lt_of_le h hW.size) fun W2 hW2=>HIH.out parts[i] (List.getElem_mem hi) (.slice ai bs.length ci) pvi W2 (hat.up hW2) ((FI.out.same (Same.below (Ext.trans hW hW2))).mono fun _ h=>Nat.lt_of_lt_of_le h (Nat.le_trans hW.size hW2.size)));have HN:=h! (fun i (hi:i<parts.length) W (pvi:FV3) (hW:Below _ _ W) (hat:FTAt (· < W.heap.size) W parts[i] pvi)=>nopart_any s bs parts[i] (.slice ai bs.length ci) pvi (w.heap.size+1) (w.heap.size+1+1) (w.heap.size+1+1+1) W (BS.out.below hW) (BI.out.below hW) (BF.out.below hW) hat ((FI.out.same (Same.below hW)).mono fun _ h=>Nat.lt_of_lt_of_le h hW.size) fun W2 hW2=>HIH.out parts[i] (List.getElem_mem hi) (.slice ai bs.length ci) pvi W2 (hat.up hW2) ((FI.out.same (Same.below (Ext.trans hW hW2))).mono fun _ h=>Nat.lt_of_lt_of_le h (Nat.le_trans hW.size hW2.size)));by_cases k4:k=4
   ·subst k4;rw[if_pos rfl]at HEQ;clear b1 b2 b3 HN;have HC:=h! (containsFF_any _ parts 4 subs refs (.slice a1 subs.length c1,.slice a2 refs.length c2,.slice a4 parts.length c4) 256 #[.pointer (some ⟨w.heap.size+1,0,none⟩),.pointer (some ⟨w.heap.size+1+1,0,none⟩)] (enters_of Tryz.func256 (by kernel_rfl) rfl) (holdF s bs) FA.out HP.out);dsimp only at HC;clear HP;go_enter Tryz.func212,Tryz.ntmps212
    go_wp2_with fail
    refine HC.out.mono ?_;rintro e w6 ⟨rfl,hb6⟩;have X6:=h! (show Below w.heap.size w w6 from Ext.trans XE.out hb6);clear HC hb6 cA cS cI cF;go_wp2_with fail
    go_ret
    exact⟨by rw[HEQ.out];try rfl,X6.out⟩
   ·rw[if_neg k4]at HEQ;have b4:(k == 4)=false:=by rw[beq_eq_false_iff_ne];exact k4
    clear k4 HP;by_cases k5:k=5
    ·subst k5;rw[if_pos rfl]at HEQ;clear b1 b2 b3 b4;have HC:=h! (containsFF_any _ parts 5 subs refs (.slice a1 subs.length c1,.slice a2 refs.length c2,.slice a4 parts.length c4) 258 #[.pointer (some ⟨w.heap.size+1+1+1,0,none⟩)] (enters_of Tryz.func258 (by kernel_rfl) rfl) (fun p=>!holdF s bs p) FA.out HN.out);dsimp only at HC;clear HN;go_enter Tryz.func212,Tryz.ntmps212
     go_wp2_with fail
     refine HC.out.mono ?_;rintro e w6 ⟨rfl,hb6⟩;have X6:=h! (show Below w.heap.size w w6 from Ext.trans XE.out hb6);clear HC hb6 cA cS cI cF;go_wp2_with fail
     go_ret
     exact⟨by rw[HEQ.out,List.all_eq_not_any_not];try rfl,X6.out⟩
    ·rw[if_neg k5]at HEQ;have b5:(k == 5)=false:=by rw[beq_eq_false_iff_ne];exact k5
     clear k5 HN;go_enter Tryz.func212,Tryz.ntmps212
     go_wp2_with fail
     go_ret
     exact⟨by rw[HEQ.out];try rfl,XE.out⟩
theorem int_info:(Tryz.prog.info? 3).map (fun i=>(i.zero,i.size,i.bytes))=some (some (.int .i64 0),1,8):=by kernel_rfl
theorem bool_info:(Tryz.prog.info? 4).map (fun i=>(i.zero,i.size,i.bytes))=some (some (.bool false),1,1):=by kernel_rfl
theorem makeI (n:Nat)(h:n<=100000000):∀ W,(Instr.makeSlice 107 (.int .i64 (n:Int)) (.int .i64 (n:Int))).run Tryz.prog W = .ok (.slice (some ⟨W.heap.size,0,none⟩) n n) (W.alloc (.cells (madeCells #[.int .i64 0] n) 3)):=by
 intro W;obtain⟨i,hi,hzz⟩:=Option.map_eq_some_iff.1 int_info;simp only[Prod.mk.injEq]at hzz;obtain⟨hz,hs,hb⟩:=hzz;have:=run_make (P:=Tryz.prog) W 107 3 i (.int .i64 0) Tryz.underlying107 hi hz .i64 .i64 n n (by omega) (by omega) (by rw[hb];omega) (by omega);rw[this,hs,Nat.mul_one];rfl
theorem makeB (n:Nat)(h:n<=100000000):∀ W,(Instr.makeSlice 74 (.int .i64 (n:Int)) (.int .i64 (n:Int))).run Tryz.prog W = .ok (.slice (some ⟨W.heap.size,0,none⟩) n n) (W.alloc (.cells (madeCells #[.bool false] n) 4)):=by
 intro W;obtain⟨i,hi,hzz⟩:=Option.map_eq_some_iff.1 bool_info;simp only[Prod.mk.injEq]at hzz;obtain⟨hz,hs,hb⟩:=hzz;have:=run_make (P:=Tryz.prog) W 74 4 i (.bool false) Tryz.underlying74 hi hz .i64 .i64 n n (by omega) (by omega) (by rw[hb];omega) (by omega);rw[this,hs,Nat.mul_one];rfl
theorem Own.made1 (w:World)(n:Nat)(h:n<=100000000)(e:TypeId)(z:Value):Own (w.alloc (.cells (madeCells #[z] n) e)) w.heap.size e 1 (.slice (some ⟨w.heap.size,0,none⟩) n n) (List.replicate n z):=by
 refine⟨n,by rw[List.length_replicate];omega,.inr ⟨w.heap.size,n,_,rfl,Nat.le_refl _,heap_alloc_new w _,Nat.le_refl _,by unfold maxLen;omega,by rw[size_madeCells];omega,?_⟩⟩;apply List.ext_getElem?;intro j;rw[List.getElem?_take];by_cases hj:j<n
 ·rw[if_pos (by omega)];simp[madeCells,hj,Nat.mod_one]
 ·rw[if_neg (by omega)];simp[show n<=j by omega]
theorem Own.cellAt {w:World} {B:Nat} {e:TypeId} {g n c:Nat} {xs:List Value} (h:Own w B e 1 (.slice (some ⟨g,0,none⟩) n c) xs):xs.length=n/\B<=g/\∃ cs,Blk w g cs e/\∀ i (hi:i<xs.length),w.cell? ⟨g,i,none⟩=some xs[i]:=by
 obtain⟨m,h⟩:=h;rcases h.2 with⟨hv,rfl⟩ | ⟨g',cap,cur,hv,hbg,hg,hnc,hcm,hcs,htake⟩
 ·cases hv
 ·cases hv;have hl:=h.1;rw[Nat.mul_one]at hl htake;refine⟨hl,hbg,cur,hg,fun i hi=>?_⟩;have h1:=congrArg (fun l:List Value=>l[i]?) htake;rw[List.getElem?_take_of_lt (by omega),List.getElem?_eq_getElem hi]at h1;rw[(show Blk w g cur e from hg).cells i];simpa using h1
structure SolI (lo gi go n:Nat)(w0 w:World)(L:List Bool)(R:List Int):Prop where
 below:Below lo w0 w
 inn:Own w lo 4 1 (.slice (some ⟨gi,0,none⟩) n n) (boC L)
 out:Own w lo 3 1 (.slice (some ⟨go,0,none⟩) n n) (ic R)
section
variable {lo gi go n : Nat} {w0 w w' : World} {L : List Bool} {R : List Int}
theorem SolI.ne (h:SolI lo gi go n w0 w L R):gi≠go:=fun e=>by
 subst e;exact h.inn.apart h.out (by decide) rfl rfl
theorem SolI.keep (h:SolI lo gi go n w0 w L R)(hb:Below w.heap.size w w')(hl:lo<=w.heap.size):SolI lo gi go n w0 w' L R :=
 ⟨h.below.trans (hb.mono hl),h.inn.below hb,h.out.below hb⟩
theorem SolI.setIn (h:SolI lo gi go n w0 w L R)(k:Nat):SolI lo gi go n w0 (w.setCell ⟨gi,k,none⟩ (.bool true)) (L.set k true) R :=
 ⟨Below.setCell h.below (h.inn.block gi rfl).1 _,by have:=h.inn.set1 k (.bool true);rw[show(boC L).set k (.bool true)=boC (L.set k true)from by unfold boC;rw[List.map_set]]at this;exact this,
  h.out.keepOwn fun g hg=>Below.heap_setCell _ _ _ _ fun e=>h.ne (by have:go=g:=Option.some.inj hg;rw[this];exact e.symm)⟩
theorem SolI.setOut (h:SolI lo gi go n w0 w L R)(k:Nat)(x:Int):SolI lo gi go n w0 (w.setCell ⟨go,k,none⟩ (.int .i64 x)) L (R.set k x) :=
 ⟨Below.setCell h.below (h.out.block go rfl).1 _,h.inn.keepOwn fun g hg=>Below.heap_setCell _ _ _ _ fun e=>h.ne (by have:gi=g:=Option.some.inj hg;rw[this];exact e),
  by have:=h.out.set1 k (.int .i64 x);rw[show(ic R).set k (.int .i64 x)=ic (R.set k x)from by unfold ic;rw[List.map_set]]at this;exact this⟩
end
def frN (fs:List FT)(s:P3)(n r i:Nat):List Int:=((List.range i).filter fun j=>newS fs s (inN fs s n r) j).map fun(j:Nat)=>(j:Int)
theorem frN_succ (fs:List FT)(s:P3)(n r i:Nat):frN fs s n r (i+1)=if newS fs s (inN fs s n r) i=true then frN fs s n r i++[(i:Int)]else frN fs s n r i:=by
 unfold frN;rw[List.range_succ,List.filter_append,List.map_append];by_cases h:newS fs s (inN fs s n r) i=true <;> simp[h]
theorem frN_len (fs:List FT)(s:P3)(n r i:Nat):(frN fs s n r i).length<=i:=by
 unfold frN;rw[List.length_map];have:=List.length_filter_le (fun j=>newS fs s (inN fs s n r) j) (List.range i);rwa[List.length_range]at this
theorem frN_mem (fs:List FT)(s:P3)(n r:Nat):∀ x∈frN fs s n r n,∃ i:Nat,x=(i:Int)/\i<n/\newS fs s (inN fs s n r) i=true:=fun x hx=>by
 unfold frN at hx;obtain⟨j,hj,rfl⟩:=List.mem_map.1 hx;rw[List.mem_filter,List.mem_range]at hj;exact⟨j,rfl,hj.1,hj.2⟩
theorem frN_iff (fs:List FT)(s:P3)(n r:Nat):∀ i:Nat,i<n->((i:Int)∈frN fs s n r n↔newS fs s (inN fs s n r) i=true):=fun i hi=>by
 refine⟨fun h=>?_,fun h=>List.mem_map.2 ⟨i,List.mem_filter.2 ⟨List.mem_range.2 hi,h⟩,rfl⟩⟩;obtain⟨j,e,-,hj⟩:=frN_mem fs s n r _ h;rw[show i=j by omega];exact hj
theorem newS_false {fs:List FT} {s:P3} {l:List Bool} {i:Nat} (h:i<l.length)(hi:l[i]=true):newS fs s l i=false:=by
 unfold newS;rw[List.getD_eq_getElem?_getD,List.getElem?_eq_getElem h,Option.getD_some,hi];rfl
theorem newS_out {fs:List FT} {s:P3} {l:List Bool} {i:Nat} (h:fs.length<=i):newS fs s l i=false:=by
 unfold newS;rw[List.getElem?_eq_none h];simp
theorem newS_form {fs:List FT} {s:P3} {l:List Bool} {i:Nat} (h:i<l.length)(hi:l[i]=false)(hf:i<fs.length):newS fs s l i=holdF s l fs[i]:=by
 unfold newS;rw[List.getD_eq_getElem?_getD,List.getElem?_eq_getElem h,Option.getD_some,hi,List.getElem?_eq_getElem hf];rfl
theorem GrAt.rows {S:Nat->Prop} {w:World} {ps:List P3} {fs:List FT} {pv fv:Value} (h:GrAt S w ps fs pv fv):∃ ap cp af cf,pv = .slice ap ps.length cp/\fv = .slice af fs.length cf/\ps.length<=cp/\fs.length<=cf/\cp<=9223372036854775807/\cf<=9223372036854775807 /\
  ∀ i (hi:i<fs.length),∃ b off,∃ u:FV3,af=some ⟨b,off,none⟩/\S b/\w.cell? ⟨b,off+i*4,none⟩=some (.int .i64 fs[i].k)/\w.cell? ⟨b,off+i*4+1,none⟩=some u.1/\w.cell? ⟨b,off+i*4+2,none⟩=some u.2.1/\w.cell? ⟨b,off+i*4+3,none⟩=some u.2.2/\FTAt S w fs[i] u:=by
 obtain⟨h1,q,h2,h3,h4⟩:=h;obtain⟨ap,cp,e1,hn1,hn2,-⟩:=Sl.rows pC_length (by decide) (show Sl S w 3 pv (ps.flatMap pC)from h1);obtain⟨af,cf,e2,hn3,hn4,hc⟩:=Sl.rows fC_length (by decide) h4;have hl:q.length=fs.length:=by rw[<- h2,List.length_map]
 refine⟨ap,cp,af,cf,e1,by rw[e2,hl],hn1,by omega,hn2,hn4,fun i hi=>?_⟩;have hiq:i<q.length:=by omega
 obtain⟨b,off,rfl,hb,hc⟩:=hc (by omega);have hget:fs[i]=q[i].1:=by simp only[<- h2,List.getElem_map]
 rw[hget];exact⟨b,off,q[i].2,rfl,hb,hc i hiq 0 _ rfl,hc i hiq 1 _ rfl,hc i hiq 2 _ rfl,hc i hiq 3 _ rfl,h3 _ (List.getElem_mem hiq)⟩
theorem solve27_any (s:P3)(ps:List P3)(fs:List FT)(pv fv:Value)(w:World)(h:GrAt (· < w.heap.size) w ps fs pv fv)(hnm:ps.length<=1000000) :
  Calls Tryz.prog 81 #[.agg #[pv,fv],pV s] w fun e w'=>(∃ v,e = .returned v/\Own w' w.heap.size 3 1 v (ic (solveR fs s ps.length)))/\Below w.heap.size w w':=by
 have H0:=h! h;obtain⟨ap,cp,af,cf,rfl,rfl,hp1,hf1,hp2,hf2,-⟩:=h.rows;have HNM:=h! hnm;have HFM:=h! (show fs.length<=9223372036854775807 from by omega);have HMI:=h! (makeI ps.length (by omega));have HMB:=h! (makeB ps.length (by omega));have HOI:=h! (fun W=>Own.made1 W ps.length (by omega) 3 (.int .i64 0));have HOB:=h! (fun W=>Own.made1 W ps.length (by omega) 4 (.bool false));clear h hp1 hf1 hp2 hf2 hnm;generalize hnn:ps.length=n at *;unfold pV;obtain⟨wa,hwa⟩:∃ x,x=w.alloc (.cells #[.slice ap n cp,.slice af fs.length cf] 96):=⟨_,rfl⟩;obtain⟨wb,hwb⟩:∃ x,x=wa.alloc (.cells #[.string s.t,.string s.i,.string s.r] 33):=⟨_,rfl⟩;have ea:wa.heap.size=w.heap.size+1:=by rw[hwa];simp
 have eb:wb.heap.size=w.heap.size+2:=by rw[hwb];simp[ea]
 have xa:Ext w wa:=by rw[hwa];exact Ext.alloc _ _
 have xb:Ext wa wb:=by rw[hwb];exact Ext.alloc _ _
 have XB:=h! (xa.trans xb);have BG:=h! (show Blk wb w.heap.size #[.slice ap n cp,.slice af fs.length cf] 96 from Blk.below (by rw[hwa];exact Blk.made _ _ _) xb);have BS:=h! (show Blk wb (w.heap.size+1) #[.string s.t,.string s.i,.string s.r] 33 from by rw[hwb,<- ea];exact Blk.made _ _ _);obtain⟨wc,hwc⟩:∃ x,x=wb.alloc (.cells (madeCells #[.int .i64 0] n) 3):=⟨_,rfl⟩;obtain⟨we,hwe⟩:∃ x,x=wc.alloc (.cells (madeCells #[.bool false] n) 4):=⟨_,rfl⟩;have ec:wc.heap.size=wb.heap.size+1:=by rw[hwc];simp
 have xc:Ext wb wc:=by rw[hwc];exact Ext.alloc _ _
 have xe:Ext wc we:=by rw[hwe];exact Ext.alloc _ _
 have ST:=h! (show SolI wb.heap.size wc.heap.size wb.heap.size n wb we (inN fs s n 0) (outN fs s n 0)from⟨xc.trans xe,by
   have:=HOB.out wc;rw[<- hwe]at this;obtain⟨m,h1,h2⟩:=this;rcases h2 with⟨h2,_⟩ | ⟨g',cap,cur,hv,hbg,hg,hr⟩
   ·cases h2
   ·refine⟨m,?_,.inr ⟨g',cap,cur,hv,by omega,hg,?_⟩⟩
    ·rw[boC_length,inN,List.length_replicate];rw[List.length_replicate]at h1;exact h1
    ·rw[show boC (inN fs s n 0)=List.replicate n (.bool false)from by simp[boC,inN]];exact hr,by
   have:=(HOI.out wb);rw[<- hwc]at this;rw[show ic (outN fs s n 0)=List.replicate n (.int .i64 0)from by simp[ic,outN]];exact this.below xe⟩)
 have EX:=h! (xc.trans xe);have EB:=h! eb;have EC:=h! ec;have hA:=BG.out.cells;have hA2:=(BG.out.below xc).cells;have hmk:=HMI.out;have hmb:=HMB.out;clear ea eb xa xb xc xe ec HMI HMB HOI HOB;rw[hwb,hwa]at hA;rw[hwc,hwb,hwa]at hA2;go_enter Tryz.func81,Tryz.ntmps81
 go_wp2_with fail
 rw[<- hwa,<- hwb,<- hwc,<- hwe];clear hA hA2 hmk hmb hwa hwb hwc hwe;obtain⟨gi,hgi⟩:∃ y,y=w.heap.size+1+1+1:=⟨_,rfl⟩;obtain⟨lo,hlo⟩:∃ y,y=w.heap.size+1+1:=⟨_,rfl⟩;have HLO:=h! (show w.heap.size+2=lo from by omega);rw[show wb.heap.size=lo by rw[EB.out];omega,show wc.heap.size=gi by rw[EC.out,EB.out];omega]at ST;rw[<- hgi,<- hlo];have HWL:=h! (show wb.heap.size=lo by rw[EB.out];omega);have RI:=h! (fun W (hW:Below lo wb W)=>show Blk W w.heap.size #[.slice ap n cp,.slice af fs.length cf] 96 from(hW.block _ (by have:=HLO.out;omega)).trans BG.out);have RJ:=h! (fun W (hW:Below lo wb W)=>show Blk W (w.heap.size+1) #[.string s.t,.string s.i,.string s.r] 33 from(hW.block _ (by have:=HLO.out;omega)).trans BS.out);have RK:=h! (fun W (hW:Below lo wb W)=>show Below w.heap.size w W from Below.trans XB.out (hW.mono (by have:=HLO.out;omega)));have RR:=h! (fun W (hW:Below lo wb W)=>show GrAt (· < W.heap.size) W ps fs (.slice ap n cp) (.slice af fs.length cf)from H0.out.up (RK.out W hW));clear hlo hgi EB EC BG BS H0 EX;go_loopw [7] (fun rv wr=>∃ r:Nat,rv = .int .i64 ((r+1:Nat):Int)/\r<=cntT (inN fs s n r)/\lo<=wr.heap.size/\SolI lo gi lo n wb wr (inN fs s n r) (outN fs s n r)) (fun rv _=>n+1-(intOf rv).toNat)
 case atStart=>exact⟨0,rfl,Nat.zero_le _,by have:=ST.out.below.size;have:=HWL.out;omega,ST.out⟩
 case round =>
  obtain⟨r,rfl,hrc,hls,hst⟩:=hrel;have RS:=h! hst;have HRC:=h! hrc;have HRN:=h! (show r<=n from Nat.le_trans hrc (cnt_max _ _ _ _));have HLS:=h! hls;obtain⟨w4,hw4⟩:∃ y,y=wr:=⟨_,rfl⟩;obtain⟨lo2,hlo2⟩:∃ y,y=w4.heap.size:=⟨_,rfl⟩;obtain⟨rz,hrz⟩:∃ z:Int,z=((r+1:Nat):Int):=⟨_,rfl⟩;rw[<- hw4]at RS HLS ⊢;rw[<- hrz];have HRZ:=h! hrz;have HL2:=h! hlo2;have hG:=(RI.out w4 RS.out.below).cells;clear hrc hls hst ST hw4 hlo2 hrz;go_wp2_with fail
  clear hG;go_loopw [8,25] (fun qv iv wr=>∃ i:Nat,i<=n/\iv = .int .i64 i/\Own wr lo2 3 1 qv (ic (frN fs s n r i))/\Below lo2 w4 wr) (fun _ iv _=>n-(intOf iv).toNat)
  case atStart=>exact⟨0,Nat.zero_le _,rfl,Own.nil _ _ _ _,Below.refl _ _⟩
  case round =>
   obtain⟨i,hi,rfl,hfr,hbl⟩:=hrel;have RF:=h! hfr;have RB2:=h! hbl;obtain⟨fao,fm,fc,rfl,-⟩:=hfr.sl.len;have RS2:=h! (show SolI lo gi lo n wb wr (inN fs s n r) (outN fs s n r)from RS.out.keep (by rw[HL2.out]at hbl;exact hbl) HLS.out);clear hfr hbl;by_cases hlt:i<n
   ·have HLT:=h! hlt;have HWI:=h! (show wrap64 ((i:Int)+1)=((i+1:Nat):Int)from by have:=HNM.out;unfold wrap64;omega);have HFN:=h! (frN_succ fs s n r i);have hIL:(inN fs s n r).length=n:=inN_length r;obtain⟨-,-,cs,-,hcl⟩:=RS2.out.inn.cellAt
    have c1:wr.cell? ⟨gi,i,none⟩=some (.bool ((inN fs s n r)[i]'(by omega))):=by
     have:=hcl i (by rw[boC_length];omega);rw[this];simp[boC]
    have RG:=h! (RI.out wr RS2.out.below);have RSB:=h! (RJ.out wr RS2.out.below);have hli:(i:Int)<(n:Int):=by omega
    cases hin:((inN fs s n r)[i]'(by omega)) with
    | true =>
     have HNW:=newS_false (fs:=fs) (s:=s) (l:=inN fs s n r) (i:=i) (by omega) hin;rw[HNW,if_neg (by decide)]at HFN;rw[hin]at c1;clear HNW hin hcl hIL hlt;go_wp2_with fail
     obtain⟨wd,hwd⟩:∃ z:World,z=World.drew wr:=⟨_,rfl⟩;have DX:=h! (show Ext wr wd from by rw[hwd];exact Ext.drew _);refine r! (Ext wd) (by rw[<- hwd];exact Ext.refl _) ?_;rw[<- hwd];clear hwd;have g1:=fun W (h:Ext wd W)=>Ext.cell (DX.out.trans h) c1;have hG:=fun W (h:Ext wd W)=>(RG.out.below (DX.out.trans h)).cells;(refine WalkN.tk [0,1,2,3,4,5] ?_;(iterate 6 (refine c! ?_));refine TkN.n ?_)
     refine k! 6 ?_;refine k! 7 ?_;refine k! 8 ?_;refine k! 9 ?_;refine k! 10 ?_
     (refine WalkN.tk [11,12] ?_;(iterate 2 (refine c! ?_));refine TkN.n ?_)
     refine k! 13 ?_;refine k! 14 ?_;refine k! 15 ?_;refine k! 16 ?_;refine k! 17 ?_;refine k! 18 ?_;refine k! 19 ?_;refine k! 20 ?_
     refine t! 21 ?_
     refine d! ?_;clear g1 hG c1 hli;go_wp2_with fail
     go_roundw
     case rel=>exact⟨i+1,HLT.out,by first | rw[HWI.out] | go_num,by rw[HFN.out];exact RF.out.below DX.out,RB2.out.trans (DX.out.mono (by have:=RB2.out.size;have:=HL2.out;omega))⟩
     case measure=>have:=HLT.out;(try rw[HWI.out]);simp[intOf];omega
    | false =>
     rw[hin]at c1;by_cases hf:i<fs.length
     ·have HNW:=newS_form (fs:=fs) (s:=s) (l:=inN fs s n r) (i:=i) (by omega) hin hf;obtain⟨ap',cp',af',cf',e1,e2,-,-,-,-,hrow⟩:=(RR.out wr RS2.out.below).rows;cases e2;obtain⟨p1,q1,u,rfl,hp1,k0,k1,k2,k3,hu⟩:=hrow i hf;have hfi:(i:Int)<(fs.length:Int):=by omega
      have HU:=h! hu;have HI:=h! (show Sl (· < wr.heap.size) wr 1 (.slice (some ⟨gi,0,none⟩) n n) (boC (inN fs s n r))from RS2.out.inn.sl.mono fun _ h=>h.2);rw[HNW]at HFN;generalize fs[i]=x at *;obtain⟨l1,m1,l2,m2,l4,m4,rfl⟩:=hu.shape;dsimp only at k0 k1 k2 k3;clear hu hp1 hrow hcl HNW hin hIL hlt hf e1;go_wp2_with fail
      obtain⟨wd,hwd⟩:∃ z:World,z=World.drew wr:=⟨_,rfl⟩;have DX:=h! (show Ext wr wd from by rw[hwd];exact Ext.drew _);refine r! (Ext wd) (by rw[<- hwd];exact Ext.refl _) ?_;rw[<- hwd];clear hwd;have g1:=fun W (h:Ext wd W)=>Ext.cell (DX.out.trans h) c1;have hG:=fun W (h:Ext wd W)=>(RG.out.below (DX.out.trans h)).cells;have hS:=fun W (h:Ext wd W)=>(RSB.out.below (DX.out.trans h)).cells;have j0:=fun W (h:Ext wd W)=>Ext.cell (DX.out.trans h) k0;have j1:=fun W (h:Ext wd W)=>Ext.cell (DX.out.trans h) k1;have j2:=fun W (h:Ext wd W)=>Ext.cell (DX.out.trans h) k2;have j3:=fun W (h:Ext wd W)=>Ext.cell (DX.out.trans h) k3;(refine WalkN.tk [0,1,2,3,4,5,6,7,8,9,10,11,12,13,14,15,16,17,18,19] ?_;(iterate 20 (refine c! ?_));refine TkN.n ?_)
      clear g1 hG hS j0 j1 j2 j3 k0 k1 k2 k3 c1;have HCL:=h! (hold27_any s (inN fs s n r) x (.slice (some ⟨gi,0,none⟩) n n) _ wd (HU.out.up DX.out) ((HI.out.same (Same.below DX.out)).mono fun _ h=>Nat.lt_of_lt_of_le h DX.out.size));unfold fV pV at HCL;dsimp only at HCL;refine o! 20 ?_;refine b! ?_;intro K hK;go_simp;refine HCL.out.mono ?_;rintro e w5 ⟨rfl,hx5⟩;refine hK.out _ _ hx5 ?_;clear hK HCL;have X5:=h! (show Ext wr w5 from DX.out.trans hx5);clear hx5;refine t! 21 ?_
      refine d! ?_;clear hli hfi;cases hq:holdF s (inN fs s n r) x with
      | true =>
       rw[hq,if_pos rfl]at HFN;have RF5:=h! (RF.out.below X5.out);have RB5:=h! (show Below lo2 w4 w5 from RB2.out.trans (X5.out.mono (by have:=RB2.out.size;have:=HL2.out;omega)));clear hq;have HX5:=h! (Ext.alloc w5 (.cells #[.int .i64 (i:Int)] 3));go_wp2_with (at_builtin;go_must (refine wpList_ownw intsT rfl (.tmp 50) (.tmp 52) rfl rfl (RF5.out.below HX5.out) rfl (m:=1) (news:=[.int .i64 (i:Int)]) rfl (by intro j u hu;rw[Addr.add_lit,cell_of_row _ w5.heap.size (0+j) #[.int .i64 (i:Int)] 3 (0,0) (heap_alloc_new w5 _)];simpa using hu) (by simp[Value.oneCell']) (by have:=HNM.out;have:=HLT.out;have:=frN_len fs s n r i;have:=HL2.out;have:=RB5.out.size;rw[ic_length];simp at *;omega) (by have:=HNM.out;have:=HLT.out;have:=frN_len fs s n r i;have:=HL2.out;have:=RB5.out.size;rw[ic_length];simp at *;omega) (by have:=HNM.out;have:=HLT.out;have:=frN_len fs s n r i;have:=HL2.out;have:=RB5.out.size;have:=HX5.out.size;omega) ?_;intro v6 w6 hown6 hb6 hg6;have HO6:=h! (show Own w6 lo2 3 1 v6 (ic (frN fs s n r (i+1)))from by rw[HFN.out,ic_append];exact hown6);have HB6:=h! (show Below lo2 w4 w6 from grown_below (RB5.out.trans (HX5.out.mono (by have:=RB5.out.size;have:=HL2.out;omega))) (RF5.out.below HX5.out) hg6 (by have:=RB5.out.size;have:=HX5.out.size;have:=HL2.out;omega));clear hown6 hb6 hg6))
       go_roundw
       case rel=>exact⟨i+1,HLT.out,by first | rw[HWI.out] | go_num,HO6.out,HB6.out⟩
       case measure=>have:=HLT.out;(try rw[HWI.out]);simp[intOf];omega
      | false =>
       rw[hq,if_neg (by decide)]at HFN;clear hq;go_wp2_with fail
       go_roundw
       case rel=>exact⟨i+1,HLT.out,by first | rw[HWI.out] | go_num,by rw[HFN.out];exact RF.out.below X5.out,RB2.out.trans (X5.out.mono (by have:=RB2.out.size;have:=HL2.out;omega))⟩
       case measure=>have:=HLT.out;(try rw[HWI.out]);simp[intOf];omega
     ·rw[newS_out (by omega),if_neg (by decide)]at HFN;have hfi:¬ (i:Int)<(fs.length:Int):=by omega
      clear hcl hin hIL hlt hf;go_wp2_with fail
      obtain⟨wd,hwd⟩:∃ z:World,z=World.drew wr:=⟨_,rfl⟩;have DX:=h! (show Ext wr wd from by rw[hwd];exact Ext.drew _);refine r! (Ext wd) (by rw[<- hwd];exact Ext.refl _) ?_;rw[<- hwd];clear hwd;have g1:=fun W (h:Ext wd W)=>Ext.cell (DX.out.trans h) c1;have hG:=fun W (h:Ext wd W)=>(RG.out.below (DX.out.trans h)).cells;have hfn:decide (i<fs.length)=false:=decide_eq_false (by omega);(refine WalkN.tk [0,1,2,3,4,5,6,7,8,9,10,11,12] ?_;(iterate 13 (refine c! ?_));refine TkN.n ?_)
      refine k! 13 ?_;refine k! 14 ?_;refine k! 15 ?_;refine k! 16 ?_;refine k! 17 ?_;refine k! 18 ?_;refine k! 19 ?_;refine k! 20 ?_
      refine t! 21 ?_
      refine d! ?_;clear g1 hG c1 hli hfi hfn;go_wp2_with fail
      go_roundw
      case rel=>exact⟨i+1,HLT.out,by first | rw[HWI.out] | go_num,by rw[HFN.out];exact RF.out.below DX.out,RB2.out.trans (DX.out.mono (by have:=RB2.out.size;have:=HL2.out;omega))⟩
      case measure=>have:=HLT.out;(try rw[HWI.out]);simp[intOf];omega
   ·obtain rfl:i=n:=by omega
    have HFI:=h! (frN_iff fs s i r);have HFM2:=h! (frN_mem fs s i r);have HFL:=h! (frN_len fs s i r i);generalize frN fs s i r i=F at *;obtain⟨fao',fm',fc',he',hfn,-,-⟩:=RF.out.sl.len;cases he';rw[ic_length,Nat.mul_one]at hfn;subst hfn;clear hlt hi;by_cases h0:F=[]
    ·subst h0
     have HEN:=h! (show outN fs s i r=solveR fs s i from endS_of fun j hj=>by
      have:=HFI.out j hj;simpa using this)
     have HOU:=RS2.out.out;rw[HEN.out]at HOU;have HOU2:=h! HOU;have HBE:=h! (RK.out wr RS2.out.below);clear HOU;go_wp2_with fail
     go_ret
     exact⟨⟨_,rfl,by
      obtain⟨m,h1,h2⟩:=HOU2.out;rcases h2 with⟨h2,_⟩ | ⟨g',cap,cur,hv,hbg,hg,hr⟩
      ·cases h2
      ·exact⟨m,h1,.inr ⟨g',cap,cur,hv,by have:=HLO.out;omega,hg,hr⟩⟩⟩,HBE.out⟩
    ·have HNE:=h! (show 0<F.length from List.length_pos_iff.2 h0);have hne:((F.length:Int) == 0)=false:=by rw[beq_eq_false_iff_ne];have:=HNE.out;omega
     have HCS:=h! (show cntT (inN fs s i r)<cntT (inN fs s i (r+1))from by
      obtain⟨j,-,hj,hn⟩:=HFM2.out F[0] (List.getElem_mem HNE.out);exact cnt_step hj hn)
     clear h0;go_wp2_with fail
     clear hne;have HSI:=h! (RS2.out.inn.cellAt).2.1;obtain⟨w7,hw7⟩:∃ y,y=wr:=⟨_,rfl⟩;rw[<- hw7]at RF RS2 RB2 ⊢;clear hw7;have RFC:=h! (RF.out.sl.ints);go_loopw [61] (fun jv wr=>∃ (j:Nat) (L:List Bool) (R:List Int),j<=F.length/\jv = .int .i64 j/\InvR fs s i r F j L R/\SolI lo gi lo i wb wr L R/\Own wr lo2 3 1 (.slice fao F.length fc) (ic F)/\lo2<=wr.heap.size) (fun jv _=>F.length-(intOf jv).toNat)
     case atStart=>exact⟨0,_,_,Nat.zero_le _,rfl,InvR.start fs s i r F,RS2.out,RF.out,Nat.le_trans (Nat.le_of_eq HL2.out) (by rw[HL2.out]at RB2;exact RB2.out.size)⟩
     case round =>
      obtain⟨j,L,R,hj,rfl,hinv,hst,hof,hsz⟩:=hrel;have HI:=h! hinv;have HS:=h! hst;have HO:=h! hof;have HZ:=h! hsz;clear hinv hst hof hsz RFC;by_cases hlt:j<F.length
      ·have HLT:=h! hlt;obtain⟨fao2,fc2,he2,-,-,hcel⟩:=HO.out.sl.ints;cases he2;obtain⟨b,off,rfl,hbb,c0⟩:=hcel j hlt;obtain⟨k,hk,hkn,hknew⟩:=HFM2.out F[j] (List.getElem_mem hlt);have HI2:=h! (HI.out.step hlt (by omega) (by omega));have HWI:=h! (show wrap64 ((j:Int)+1)=((j+1:Nat):Int)from by have:=HFL.out;have:=HNM.out;unfold wrap64;omega);replace c0:=c0.trans (congrArg (fun z=>some (Value.int .i64 z)) hk);rw[show F[j].toNat=k by omega,<- HRZ.out]at HI2;have hji:(j:Int)<(F.length:Int):=by omega
       have hki:(k:Int)<(i:Int):=by omega
       obtain⟨hl1,hlo1,cs1,hB1,hc1⟩:=HS.out.inn.cellAt;obtain⟨hl2,hlo2',cs2,hB2,hc2⟩:=HS.out.out.cellAt;obtain⟨y1,d1⟩:∃ y,wr.cell? ⟨gi,k,none⟩=some y:=⟨_,hc1 k (by omega)⟩;obtain⟨y2,d2⟩:∃ y,wr.cell? ⟨lo,k,none⟩=some y:=⟨_,hc2 k (by omega)⟩;have f1:=hB1.free;have f2:=hB2.free;have S2:=h! ((HS.out.setOut k rz).setIn k);obtain⟨-,-,cs3,hB3,hc3⟩:=(HS.out.setOut k rz).inn.cellAt;obtain⟨y3,d3⟩:∃ y,(wr.setCell ⟨lo,k,none⟩ (.int .i64 rz)).cell? ⟨gi,k,none⟩=some y:=⟨_,hc3 k (by rw[boC_length];rw[boC_length]at hl1;omega)⟩;have f3:=hB3.free
       have HNG:=h! (show b≠lo/\b≠gi from by
        have:=HL2.out;have h1:=(HS.out.inn.block gi rfl).2;have h2:=(RS.out.inn.block gi rfl).2;have h3:=(RS.out.out.block lo rfl).2;have h4:=hbb.1;omega)
       have HO2:=h! (show Own ((wr.setCell ⟨lo,k,none⟩ (.int .i64 rz)).setCell ⟨gi,k,none⟩ (.bool true)) lo2 3 1 (.slice (some ⟨b,off,none⟩) F.length fc) (ic F)from HO.out.keepOwn fun g hg=>by
        obtain rfl:b=g:=Option.some.inj hg;rw[Below.heap_setCell _ _ _ _ fun e=>HNG.out.2 e,Below.heap_setCell _ _ _ _ fun e=>HNG.out.1 e])
       have HZ2:=h! (show lo2<=((wr.setCell ⟨lo,k,none⟩ (.int .i64 rz)).setCell ⟨gi,k,none⟩ (.bool true)).heap.size from by simpa using HZ.out);clear hcel hbb hk hkn hknew hc1 hc2 hc3 hB1 hB2 hB3 hl1 hl2 hlt hlo1 hlo2';go_wp2_with fail
       go_roundw
       case rel=>exact⟨j+1,_,_,HLT.out,by first | rw[HWI.out] | go_num,HI2.out,S2.out,HO2.out,HZ2.out⟩
       case measure=>have:=HLT.out;(try rw[HWI.out]);simp[intOf];omega
      ·obtain rfl:j=F.length:=by omega
       obtain⟨rfl,rfl⟩:=HI.out.done HFI.out;have HWR:=h! (show wrap64 (rz+1)=((r+1+1:Nat):Int)from by have:=HRZ.out;have:=HRN.out;have:=HNM.out;unfold wrap64;omega);have HRM:=h! (show r+1<=i from by have:=HCS.out;have:=HRC.out;have:=cnt_max fs s i (r+1);omega);clear hlt hj;go_wp2_with fail
       go_roundw
       case rel=>exact⟨r+1,by first | rw[HWR.out] | go_num,by have:=HCS.out;have:=HRC.out;omega,by have:=HZ.out;have:=HLS.out;have:=HL2.out;omega,HS.out⟩
       case measure=>have:=HRM.out;have:=HRZ.out;(try rw[HWR.out]);simp[intOf];omega
end Go.Proofs.YtlhaghoajpglaaaGreat
