/- Lemmas for the claim, no condition. -/
import Derived.Test.YtlhaghoajpglaaaGreatYLkSub9
import Derived.Test.YtlhaghoajpglaaaGreatYLkSub8
set_option maxRecDepth 100000
set_option maxHeartbeats 6000000
namespace Go.Proofs.YtlhaghoajpglaaaGreat
open Go Go.Maps Go.RowKit Go.Proofs.Tryz
structure GkAt (w:World)(gp B:Nat)(ps:List P3)(pv fv:Value):Prop where
 box:Blk w gp #[pv,fv] 96
 pts:Own w B 32 3 pv (pcs ps)
section
variable {w w' w0 : World} {gp B B' lo x : Nat} {pv fv pv' v sv rv qv : Value} {ps : List P3} {e : TypeId} {sz : Nat} {xs : List Value} {k : Int} {subs : List P3} {refs : List Int} {q : List (FT × FV3)}
theorem GkAt.ext (h:GkAt w gp B ps pv fv)(hx:Ext w w'):GkAt w' gp B ps pv fv:=⟨h.box.below hx,h.pts.below hx⟩
theorem GkAt.same (h:GkAt w gp B ps pv fv)(h1:w'.heap[gp]?=w.heap[gp]?)(h3:∀g,pv.ownBlock=some g->w'.heap[g]?=w.heap[g]?):GkAt w' gp B ps pv fv:=⟨h1.trans h.box,h.pts.keepOwn h3⟩
theorem GkAt.ptNe (h:GkAt w gp B ps pv fv):∀g,pv.ownBlock=some g->g≠gp:=fun g hg e=>by
 obtain⟨cur,h2⟩:=h.pts.typed hg;subst e;rw[show w.heap[g]?=_ from h.box]at h2;injection h2 with h2
 injection h2 with _ h2 _
 exact absurd h2 (by decide)
theorem GkAt.un (h:GkAt w gp B ps pv fv) {x:Nat}{cs:Array Value}{fr:Nat × Nat}(hx:w.heap[x]?=some (.cells cs e fr))(he:e≠32)(he2:e≠96):KX gp gp w pv x:=by
 have a:x≠gp:=fun e=>by
  subst e;rw[show w.heap[x]?=_ from h.box]at hx;injection hx with hx
  injection hx with _ hx _
  exact he2 hx.symm
 refine⟨(x7!.1 hx).1,a,a,fun e=>?_⟩;obtain⟨c,hc⟩:=h.pts.typed e;rw[hc]at hx;injection hx with hx
 injection hx with _ hx _
 exact he hx.symm
theorem Fine.gpk (h:Fine gp gp w w' pv pv')(hw:GkAt w gp B ps pv fv)(hB:B<=gp):PKept (· = gp) B w w':=h.kept.mono fun x hx=>by
 rcases hx with hx | ⟨h1,h2,h3⟩
 ·exact⟨by have:=hw.box.lt;omega,by omega,by omega,fun e=>by have:=(hw.pts.block x e).1;omega⟩
 ·refine⟨h2,h1,h1,fun e=>?_⟩;obtain⟨c,hc⟩:=hw.pts.typed e;exact h3 c hc
theorem Fine.gblk (h:Fine gp gp w w' pv pv')(hw:GkAt w gp B ps pv fv) {x:Nat}{cs:Array Value}(hx:Blk w x cs e)(he:e≠32)(he2:e≠96):Blk w' x cs e:=(h.kept.block x (hw.un hx he he2)).trans hx
theorem Fine.grow (h:Fine gp gp w w' pv pv')(hw:GkAt w gp B ps pv fv)(ho:Own w B' e sz v xs)(he:e≠32)(he2:e≠96):Own w' B' e sz v xs:=ho.keepOwn fun g hg=>by
 obtain⟨c,hc⟩:=ho.typed hg;exact h.kept.block g (hw.un hc he he2)
theorem GkAt.grown (h:GkAt w gp B ps pv fv)(ho:Own w B' e sz v xs)(he:e≠32)(he2:e≠96)(hg:w.grownBy w' v.ownBlock):GkAt w' gp B ps pv fv:=by
 refine h.same (hg.block gp h.box.lt fun e=>?_) fun g hgp=>hg.block g (h.pts.block g hgp).2 fun e=>?_
 ·obtain⟨c,hc⟩:=ho.typed e.symm;exact(h.un hc he he2).2.1 rfl
 ·obtain⟨c,hc⟩:=ho.typed e.symm;exact(h.un hc he he2).2.2.2 hgp
theorem GkAt.setBox (h:GkAt w gp B ps pv fv) {x i:Nat}{cs:Array Value}(hx:Blk w x cs e)(he:e≠32)(he2:e≠96)(u:Value):GkAt (w.setCell ⟨x,i,none⟩ u) gp B ps pv fv:=by
 have hu:=h.un hx he he2;exact h.same (Below.heap_setCell _ _ _ _ fun e=>hu.2.1 e.symm) fun g hg=>Below.heap_setCell _ _ _ _ fun e=>hu.2.2.2 (by rw[hg,show g=x from e])
theorem FmAt.gfine (h:FmAt w lo x k subs refs q sv rv qv)(hw:GkAt w gp B ps pv fv)(hf:Fine gp gp w w' pv pv')(hB:B<=gp)(hM:gp<lo):FmAt w' lo x k subs refs q sv rv qv :=
 ⟨hf.gblk hw h.box (by decide) (by decide),hf.grow hw h.subs (by decide) (by decide),hf.grow hw h.refs (by decide) (by decide),h.parts.keep (hf.gpk hw hB) fun x hx=>by
  rw[show x=gp from hx];exact hM⟩
end
theorem lP! {w w':World}{B sz x:Nat}{e t:TypeId}{v:Value}{xs:List Value}{cs:Array Value}(ho:Own w B e sz v xs)(hg:w.grownBy w' v.ownBlock)(hx:Blk w x cs t)(hne:t≠e):Blk w' x cs t :=
 (hg.block x hx.lt fun hv=>by
  obtain⟨c2,h2⟩:=ho.typed hv.symm;rw[show w.heap[x]?=_ from hx]at h2;exact hne (by injection v5! h2)).trans hx
theorem be! {w0 w w':World}{B sz:Nat}{e:TypeId}{v:Value}{xs:List Value}(h:Below B w0 w)(ho:Own w B e sz v xs)(hg:w.grownBy w' v.ownBlock)(hB:B<=w.heap.size):Below B w0 w' :=
 h.trans ⟨hg.os,hg.tape,hg.output,hg.size,fun x hx=>hg.block x (by omega) fun e=>by have:=(ho.block x e.symm).1;omega⟩
theorem pa! {ps:List P3}{p:P3}{i:Nat}(hi:i<ps.length)(h:ps[i]=p)(hn:∀j (hj:j<ps.length),j<i->ps[j]≠p):numD ps p=i:=by
 unfold numD;rw[List.findIdx_eq hi];exact⟨by simpa using h,fun j hj=>by simpa using hn j (by omega) hj⟩
theorem cd! (gp B:Nat)(pv fv:Value)(ps:List P3)(p:P3)(w:World)(h:GkAt w gp B ps pv fv)(hB:B<=gp)(hl:ps.length<=1073741824) :
  Calls prog 165 #[.pointer (some ⟨gp,0,none⟩),pV p] w fun e w'=>∃pv',e= .returned (.int .i64 (numD ps p:Nat))/\GkAt w' gp B (putP ps p) pv' fv/\Fine gp gp w w' pv pv':=by
 have ai:=h! hB;have a1:=h! (show B<=w.heap.size from by have:=h.box.lt;omega);have I:=h! h.ptNe;have a6:=h! h.pts.block;obtain⟨po,pc,rfl,ag,ae,-⟩:=Sl.rows aj! (by decide) (show Sl _ w 3 pv (ps.flatMap pC)from h.pts.sl);have a3:=h! (jk! ps p);have ab:=h! (fun i hi=>pa! (ps:=ps) (p:=p) (i:=i) hi);have V:Hid (putP ps p=if p∈ps then ps else ps++[p]):=h! rfl;obtain⟨pt,pi,pr⟩:=p;have E:=Ext.alloc w (.cells #[.string pt,.string pi,.string pr] 32);have z:=h! (h.ext E);have C:=h! (Blk.made w #[.string pt,.string pi,.string pr] 32);have G:=h! E;have a0:=z.out.box.cells;clear E h hB;unfold pV;dsimp only;go_enter func165,ntmps165
 go_wp2_with fail
 clear a0;obtain⟨w1,O⟩:=e! (w.alloc (.cells #[.string pt,.string pi,.string pr] 32));rw[<-O]at z C G ⊢;clear O;go_loopw [12] (fun ii wr=>∃i:Nat,i<=ps.length/\ii= .int .i64 i/\(∀j (hj:j<ps.length),j<i->ps[j]≠⟨pt,pi,pr⟩)/\Ext w1 wr) (fun ii _=>ps.length-(intOf ii).toNat)
 case atStart=>exact⟨0,v1! _,rfl,fun _ _ h=>absurd h (Nat.not_lt_zero _),Ext.refl _⟩
 case round =>
  obtain⟨i,hi,rfl,y,X⟩:=hrel;have r:=h! y;have f:=h! X;clear y X;by_cases hlt:i<ps.length
  ·obtain⟨af,c',a5,-,-,a⟩:=Sl.rows aj! (by decide) (show Sl _ wr 3 (.slice po ps.length pc) (ps.flatMap pC)from(z.out.pts.below f.out).sl);cases a5;obtain⟨b,M,rfl,-,a⟩:=a (by omega);have k:=a i hlt;clear a;have H:=h! (fun(h:ps[i]=⟨pt,pi,pr⟩)=>ab.out i hlt h r.out);have o:=h! (fun(h:ps[i]=(⟨pt,pi,pr⟩:P3))=>h▸n5! hlt);have L:=h! (fun(h:ps[i]≠⟨pt,pi,pr⟩)=>ah! (p:=fun j hj=>ps[j]≠⟨pt,pi,pr⟩) r.out hlt h);have Y:=h! hlt;have ak:(i:Int)<(ps.length:Int):=by omega
   have ah:Hid (ps.length<=1073741824):=h! hl;generalize ps[i]=x at *;have t:=fun W=>pE! x ⟨pt,pi,pr⟩ W;by_cases he:x=⟨pt,pi,pr⟩
   ·rw[v2! he]at t;have HE:=h! (H.out he);have HM:Hid (putP ps ⟨pt,pi,pr⟩=ps):=h! (by rw[V.out,if_pos (o.out he)]);clear H o L;obtain⟨Z,xi,xr⟩:=x;unfold pV at t;dsimp only at t;have c0:wr.cell? ⟨b,M+i*3,none⟩=some (.string Z):=k 0 _ rfl;have c1:=k 1 _ rfl;have c2:=k 2 _ rfl;clear k he;have v:=h! (Ext.alloc wr (.cells #[.string Z,.string xi,.string xr] 32));have a8:=(Blk.made wr #[.string Z,.string xi,.string xr] 32).cells;have a2:=((C.out.below f.out).below v.out).cells;clear hl hlt;go_wp2_with fail
    go_ret
    exact⟨by rw[HE.out];rfl,.slice (some ⟨b,M,none⟩) ps.length pc,by rw[HM.out];exact(z.out.ext f.out).ext v.out,Fine.of _ _ _ (G.out.trans (f.out.trans v.out))⟩
   ·rw[v3! he]at t;have HN:=h! (L.out he);clear H o L;obtain⟨Z,xi,xr⟩:=x;unfold pV at t;dsimp only at t;have c0:wr.cell? ⟨b,M+i*3,none⟩=some (.string Z):=k 0 _ rfl;have c1:=k 1 _ rfl;have c2:=k 2 _ rfl;clear k he;have v:=h! (Ext.alloc wr (.cells #[.string Z,.string xi,.string xr] 32));have a8:=(Blk.made wr #[.string Z,.string xi,.string xr] 32).cells;have a2:=((C.out.below f.out).below v.out).cells;clear hlt;go_wp2_with fail
    go_roundw
    case rel=>exact⟨i+1,Y.out,by go_num,HN.out,f.out.trans v.out⟩
    case measure=>have:=Y.out;simp[intOf];omega
  ·obtain rfl:i=ps.length:=by omega
   have hm:(⟨pt,pi,pr⟩:P3)∉ps:=fun h=>by
    obtain⟨j,hj,e⟩:=u0! h;exact r.out j hj hj e
   have HR:Hid (putP ps ⟨pt,pi,pr⟩=ps++[⟨pt,pi,pr⟩]):=h! (by rw[V.out,if_neg hm]);have ac:=h! (a3.out hm);have Q:=h! hl;clear hm hl hlt;go_wp2_with fail
   obtain⟨wg,s⟩:=e! wr.drew;have A:=h! (show Ext w wg from by rw[s];exact G.out.trans (f.out.trans (Ext.drew _)));have q:=h! (show GkAt wg gp B ps (.slice po ps.length pc) fv from by rw[s];exact(z.out.ext f.out).ext (Ext.drew _));have F:=h! (show Blk wg w.heap.size _ _ from by rw[s];exact(C.out.below f.out).drew);refine as! 10 (Kept (fun x=>x<wg.heap.size/\Value.ownBlock (.slice po ps.length pc)≠some x) wg) (by rw[<-s];exact Kept.refl _ _) (by kernel_rfl) (by kernel_rfl) (fun _ _ d _ _ h=>by cases d <;> exact h) ?_;rw[<-s];clear s;have h1:=fun W (h:Kept (fun x=>x<wg.heap.size/\Value.ownBlock (.slice po ps.length pc)≠some x) wg W)=>(h.blk q.out.box ⟨q.out.box.lt,fun e=>I.out _ e rfl⟩).cells;have h2:=fun W (h:Kept (fun x=>x<wg.heap.size/\Value.ownBlock (.slice po ps.length pc)≠some x) wg W)=>(h.blk F.out ⟨F.out.lt,fun e=>by have:=(a6.out _ e).2;omega⟩).cells;(refine WalkL.tk [0,1,2,3,4,5] ?_;(iterate 6 (refine l! ?_));refine TkL.n ?_)
   clear h1 h2;have R:Ext wg (wg.alloc (.cells #[.string pt,.string pi,.string pr] 32)):=Ext.alloc _ _;refine oL! 6 ?_;refine b! ?_;intro K hK;go_simp;refine hK.out _ _ ((Kept.refl _ _).alloc (fun x hx=>hx.1) _) ?_;clear hK;refine oL! 7 ?_;refine b! ?_;intro K hK;refine bE! iY! (.tmp 26) (.tmp 28) rfl rfl (q.out.pts.below R) (m:=1) (news:=pC ⟨pt,pi,pr⟩) rfl rfl (fun j u hu=>?_) (hQ! _) (by rw[az!,aj!];have:=Q.out;omega) (by rw[az!,aj!];have:=Q.out;omega) (by have:=A.out.size;have:=a1.out;simp;omega) (fun v2 w2 hown2 hw2 hg2=>?_)
   ·rw[Addr.add_lit,cell_of_row _ wg.heap.size (0+j) #[.string pt,.string pi,.string pr] 32 (0,0) (heap_alloc_new wg _),Nat.zero_add];simpa [pC] using hu
   have D:Kept (fun x=>x<wg.heap.size/\Value.ownBlock (.slice po ps.length pc)≠some x) wg w2:=⟨hg2.os.trans rfl,hg2.tape.trans rfl,hg2.output.trans rfl,n6! (by simp) hg2.size,fun x hx=>(hg2.block x (by have:=hx.1;simp;omega) (fun e=>hx.2 e.symm)).trans (Below.heap_alloc wg _ x hx.1)⟩;have a7:Hid (Kept (KX gp gp w (.slice po ps.length pc)) w w2):=h! ((show Kept (KX gp gp w (.slice po ps.length pc)) w wg from Below.kept A.out fun x hx=>hx.1).trans (D.mono fun x hx=>⟨n1! hx.1 A.out.size,hx.2.2.2⟩));have a4:=h! (show ∀g,v2.ownBlock=some g->(Value.slice po ps.length pc).ownBlock=some g\/w.heap.size<=g from fun g hg=>(hw2 g hg).imp id fun e=>by have:=A.out.size;simp at e;omega);have J:=h! (D.blk q.out.box ⟨q.out.box.lt,fun e=>I.out _ e rfl⟩);refine hK.out _ _ D ?_;clear hK;simp only[Act.put,pA,pZ,pS];have U:=h! (show Own w2 B 32 3 v2 (pcs (ps++[⟨pt,pi,pr⟩]))from by rw[dG!,cw!];exact hown2);have a9:=h! (show ∀g,v2.ownBlock=some g->g≠gp from fun g hg=>(hw2 g hg).elim (fun e=>I.out g e) (fun e=>by have h2:=q.out.box.lt;simp at e;omega));obtain⟨o2,c2,T,-,-,-⟩:=Sl.rows aj! (by decide) (show Sl _ w2 3 v2 (List.flatMap pC (ps++[⟨pt,pi,pr⟩]))from U.out.sl);rw[u4!,List.length_singleton]at T;subst T;clear D hown2 hw2 hg2 R q F;(refine WalkL.tk [8,9] ?_;(iterate 2 (refine l! ?_));refine TkL.n ?_)
   have aa:=J.out.cells;have ad:=J.out.free;refine WalkL.last (by kernel_rfl) (by kernel_rfl) ?_;refine b! ?_;intro K hK;go_simp;refine hK.out _ _ ?_;clear hK aa ad;have N:=h! (J.out.set_to 0 (.slice o2 (ps.length+1) c2) rfl);have aj:=N.out.cells;clear hi;go_wp2_with fail
   go_ret
   refine⟨.slice o2 (ps.length+1) c2,?_,?_,?_⟩
   ·rw[ac.out];refine congrArg Ending.returned ?_;rfl
   ·rw[HR.out];exact⟨N.out,U.out.keepOwn fun g hg=>Below.heap_setCell _ _ _ _ (a9.out g hg)⟩
   ·exact⟨a7.out.set (fun h=>h.2.1 rfl) _,a4.out⟩
theorem gO! {B:Nat}(v:Value)(l:List Int)(n:Int)(w:World)(h:Own w B 3 1 v (ic l))(hl:l.length<=1099511627776)(hB:B<=w.heap.size) :
  Calls prog 164 #[v,.int .i64 n] w fun e w'=>∃v',e= .returned v'/\Own w' B 3 1 v' (ic (if n∈l then l else l++[n]))/\Kept (fun b=>b<w.heap.size/\v.ownBlock≠some b) w w'/\(∀g,v'.ownBlock=some g->v.ownBlock=some g\/w.heap.size<=g):=by
 obtain⟨ao,m,c,rfl,C,-,-⟩:=h.sl.len;rw[ad!]at C;obtain rfl:m=l.length:=by omega
 obtain⟨r,hr⟩:=e! (if n∈l then l else l++[n]);rw[<-hr];have t:=h! hr;have HO:=h! h;have z:=h! hl;have HB:=h! hB;clear h C hl hB hr;go_enter func164,ntmps164
 go_wp2_with fail
 go_loopw [9] (fun ii wr=>∃i:Nat,i<=l.length/\ii= .int .i64 i/\(∀j (hj:j<l.length),j<i->l[j]≠n)/\wr=w) (fun ii _=>l.length-(intOf ii).toNat)
 case atStart=>exact⟨0,v1! _,rfl,fun _ _ h=>absurd h (Nat.not_lt_zero _),rfl⟩
 case round =>
  obtain⟨i,hi,rfl,f,rfl⟩:=hrel;have o:=h! f;clear f;by_cases hlt:i<l.length
  ·obtain⟨a1,n1,c1,hv,-,-,-,-,a⟩:=HO.out.sl;cases hv;obtain⟨b,a5,rfl,-,a⟩:=a (by intro h;have:=congrArg List.length h;rw[ad!]at this;rw[v6!]at this;omega);have c0:=a i (.int .i64 l[i]) (by simp[ic,n4! hlt]);clear a;have d:=h! (fun(h:l[i]=n)=>show r=l from by rw[t.out,if_pos (h▸n5! hlt)]);have s:=h! (fun(h:l[i]≠n)=>ah! (p:=fun j hj=>l[j]≠n) o.out hlt h);have q:=h! hlt;have a4:(i:Int)<(l.length:Int):=by omega
   have a3:=h! z.out;generalize l[i]=x at *;clear hlt;by_cases he:x=n
   ·have HR:=h! (d.out he);have A:(x == n)=true:=by simpa using he
    clear d s he;go_wp2_with fail
    go_ret
    exact⟨_,rfl,by rw[HR.out];exact HO.out,Kept.refl _ _,fun g hg => .inl hg⟩
   ·have HN:=h! (s.out he);have A:(x == n)=false:=by simpa using he
    have y:=h! (show wrap64 ((i:Int)+1)=((i+1:Nat):Int)from by have:=z.out;have:=q.out;unfold wrap64;omega);clear d s he;go_wp2_with fail
    go_roundw
    case rel=>exact⟨i+1,q.out,by rw[y.out],HN.out,trivial⟩
    case measure=>have:=q.out;rw[y.out];simp[intOf];omega
  ·obtain rfl:i=l.length:=by omega
   have C:n∉l:=fun h=>by
    obtain⟨j,hj,e⟩:=u0! h;exact o.out j hj hj e
   have HR:Hid (r=l++[n]):=h! (by rw[t.out,if_neg C]);clear C hlt hi;have D:=h! (Ext.alloc wr (.cells #[.int .i64 n] 3));go_wp2_with (at_builtin;go_must (refine aE! intsT rfl (.tmp 18) (.tmp 20) rfl rfl (HO.out.below D.out) rfl (m:=1) (news:=[.int .i64 n]) rfl (by intro j u hu;rw[Addr.add_lit,cell_of_row _ wr.heap.size (0+j) #[.int .i64 n] 3 (0,0) (heap_alloc_new wr _)];simpa using hu) (by simp[Value.oneCell']) (by have:=z.out;rw[ad!];simp;omega) (by have:=z.out;rw[ad!];simp;omega) (by have:=HB.out;simp;omega) ?_;intro v6 w6 hown6 hb6 hg6;have a2:=h! (show Own w6 B 3 1 v6 (ic (l++[n]))from by rw[bO!];exact hown6);have a0:Hid (∀g,v6.ownBlock=some g->(Value.slice ao l.length c).ownBlock=some g\/(wr.alloc (.cells #[.int .i64 n] 3)).heap.size<=g):=h! hb6;have k:=h! (show(wr.alloc (.cells #[.int .i64 n] 3)).grownBy w6 (Value.slice ao l.length c).ownBlock from hg6);clear hown6 hb6 hg6))
   go_ret
   exact⟨_,rfl,by rw[HR.out];exact a2.out,⟨k.out.os.trans rfl,k.out.tape.trans rfl,k.out.output.trans rfl,n6! D.out.size k.out.size,fun b A=>(k.out.block b (n1! A.1 D.out.size) fun e=>A.2 e.symm).trans (D.out.block b A.1)⟩,fun g hg=>(a0.out g hg).imp id fun h=>n6! D.out.size h⟩
theorem nu! (a1 a2 b1 b2:ByteArray)(W:World):(binOp BinOp.eql 30 (.agg #[.string a1,.string a2]) (.agg #[.string b1,.string b2])).run prog W= .ok (.bool (decide (a1=b1/\a2=b2))) W:=by
 go_simp;simp only[bc!];by_cases h1:a1=b1 <;> by_cases h2:a2=b2 <;> simp[h1,h2]
theorem oD! (a b:ByteArray):(a.toList == b.toList)=decide (a=b):=by
 by_cases h:a=b
 ·subst h;simp
 ·rw[v3! h,u5!,u5!,aH! h]
theorem hD! {T:List Tup}{p:P3}{i:Nat}(h:i<T.length):ak! (T.take (i+1)) p=if T[i].o=p then ak! (T.take i) p++[T[i].s]else ak! (T.take i) p:=by
 rw[n2! h,ei!]
theorem fn! {S:Nat->Prop}(v:Value)(T:List Tup)(p:P3)(w:World)(hS:∀x,S x->x<w.heap.size)(h:Sl S w 6 v (tuCs T))(hl:T.length<=1000000000) :
  Calls prog 163 #[v,pV p] w fun e w'=>∃v',e= .returned v'/\Own w' w.heap.size 33 3 v' (pcs (ak! T p))/\Ext w w':=by
 obtain⟨ao,c,rfl,a6,a5,q⟩:=kQ! h;have HR:=h! q;have HL:=h! hl;have a2:=h! hS;obtain⟨M,N,L⟩:=p;have D:=Ext.alloc w (.cells #[.string M,.string N,.string L] 32);have G:=h! (Blk.made w #[.string M,.string N,.string L] 32);have H:=h! D;clear q hl h D hS;unfold pV;dsimp only;go_enter func163,ntmps163
 go_wp2_with fail
 obtain⟨w1,C⟩:=e! (w.alloc (.cells #[.string M,.string N,.string L] 32));rw[<-C]at G H ⊢;clear C;go_loopw [5,10] (fun ov ii wr=>∃i:Nat,i<=T.length/\ii= .int .i64 i/\Own wr w.heap.size 33 3 ov (pcs (ak! (T.take i) ⟨M,N,L⟩))/\Blk wr w.heap.size #[.string M,.string N,.string L] 32/\Below w.heap.size w wr) (fun _ ii _=>T.length-(intOf ii).toNat)
 case atStart=>exact⟨0,v1! _,rfl,Own.nil _ _ _ _,G.out,H.out⟩
 case round =>
  obtain⟨i,hi,rfl,r,A,E⟩:=hrel;have a:=h! r;have t:=h! A;have d:=h! E;clear r A E;by_cases hlt:i<T.length
  ·obtain⟨b,o,rfl,J,c0,c1,c2,c3,c4,c5⟩:=HR.out i hlt;have g:=a2.out b J;have d0:=(d.out.cell (p:=⟨b,o+i*6,none⟩) g).trans c0;have d1:=(d.out.cell (p:=⟨b,o+i*6+1,none⟩) g).trans c1;have d2:=(d.out.cell (p:=⟨b,o+i*6+2,none⟩) g).trans c2;have d3:=(d.out.cell (p:=⟨b,o+i*6+3,none⟩) g).trans c3;have d4:=(d.out.cell (p:=⟨b,o+i*6+4,none⟩) g).trans c4;have d5:=(d.out.cell (p:=⟨b,o+i*6+5,none⟩) g).trans c5;have s:=h! (hD! (p:=⟨M,N,L⟩) hlt)
   have F:=h! (show(ak! (T.take i) ⟨M,N,L⟩).length<=1000000000 from by
    unfold ak!;rw[x1!];refine n6! (x8! _ _) ?_;rw[x4!];have:=HL.out;omega)
   have l:=h! hlt;have n:=h! (show wrap64 ((i:Int)+1)=((i+1:Nat):Int)from by have:=HL.out;unfold wrap64;omega);have a8:(i:Int)<(T.length:Int):=by omega
   clear c0 c1 c2 c3 c4 c5 g J;generalize T[i]=x at *;clear hlt;generalize ak! (T.take i) ⟨M,N,L⟩=sl at *;generalize hs2:ak! (T.take (i+1)) ⟨M,N,L⟩=sl2 at *;have y:=h! hs2;clear hs2;obtain⟨⟨ot,oi,or_⟩,⟨st,si,K⟩⟩:=x;dsimp only at d0 d1 d2 d3 d4 d5 s;have f:=h! (Ext.alloc wr (.cells #[.string ot,.string oi,.string or_,.string st,.string si,.string K] 67));have a9:=(Blk.made wr #[.string ot,.string oi,.string or_,.string st,.string si,.string K] 67).cells;have a7:=(t.out.below f.out).cells;have I:=fun W=>nu! ot oi M N W;have z:=oD! or_ L;by_cases h1:ot=M/\oi=N
   ·rw[v2! h1]at I;by_cases h2:or_=L
    ·have O:Hid (sl2=sl++[⟨st,si,K⟩]):=h! (by rw[s.out,if_pos (by rw[h1.1,h1.2,h2])]);rw[v2! h2]at z;clear h1 h2;have k:=h! (Ext.alloc (wr.alloc (.cells #[.string ot,.string oi,.string or_,.string st,.string si,.string K] 67)) (.cells #[.string st,.string si,.string K] 33));have a3:=h! (Blk.made' (w:=wr.alloc (.cells #[.string ot,.string oi,.string or_,.string st,.string si,.string K] 67)) (B:=wr.heap.size+1) (by simp) #[.string st,.string si,.string K] 33);go_wp2_with (at_builtin;go_must (refine aE! subsT rfl (.tmp 26) (.tmp 29) rfl rfl ((a.out.below f.out).below k.out) rfl (m:=1) (news:=pC ⟨st,si,K⟩) rfl (by intro j u hu;rw[Addr.add_lit,Nat.zero_add];exact(a3.out.cells j).trans (by simpa [pC] using hu)) (hQ! _) (by have:=F.out;rw[az!,aj!];omega) (by have:=F.out;rw[az!,aj!];omega) (by have:=d.out.size;have:=f.out.size;have:=k.out.size;omega) ?_;intro v6 w6 hown6 hb6 hg6;have a4:=h! (show Own w6 w.heap.size 33 3 v6 (pcs (sl++[⟨st,si,K⟩]))from by rw[dG!,cw!];exact hown6);have a1:=h! (lP! ((a.out.below f.out).below k.out) hg6 ((t.out.below f.out).below k.out) (by decide));have a0:=h! (be! (d.out.trans ((f.out.trans k.out).mono d.out.size)) ((a.out.below f.out).below k.out) hg6 (by have:=d.out.size;have:=f.out.size;have:=k.out.size;omega));clear hown6 hb6 hg6))
     go_roundw
     case rel=>exact⟨i+1,l.out,by first | rw[n.out] | go_num,by rw[y.out,O.out];exact a4.out,a1.out,a0.out⟩
     case measure=>have:=l.out;(try rw[n.out]);simp[intOf];omega
    ·have O:Hid (sl2=sl):=h! (by rw[s.out,if_neg (by simp[h2])]);rw[v3! h2]at z;clear h1 h2;go_wp2_with fail
     go_roundw
     case rel=>exact⟨i+1,l.out,by first | rw[n.out] | go_num,by rw[y.out,O.out];exact a.out.below f.out,t.out.below f.out,d.out.trans (f.out.mono d.out.size)⟩
     case measure=>have:=l.out;(try rw[n.out]);simp[intOf];omega
   ·have O:Hid (sl2=sl):=h! (by rw[s.out,if_neg (fun e=>h1 ⟨by injection e,by injection e⟩)]);rw[v3! h1]at I;clear h1 z;go_wp2_with fail
    go_roundw
    case rel=>exact⟨i+1,l.out,by first | rw[n.out] | go_num,by rw[y.out,O.out];exact a.out.below f.out,t.out.below f.out,d.out.trans (f.out.mono d.out.size)⟩
    case measure=>have:=l.out;(try rw[n.out]);simp[intOf];omega
  ·obtain rfl:i=T.length:=by omega
   rw[u2!]at a;go_wp2_with fail
   go_ret
   exact⟨_,rfl,a.out,d.out⟩
theorem FTAt.shape {S:Nat->Prop}{w:World}{r:FT}{v:FV3}(h:FTAt S w r v):∃a1 c1 a2 c2 a4 c4,v=(.slice a1 r.subs.length c1,.slice a2 r.refs.length c2,.slice a4 r.ps.length c4):=by
 obtain⟨v1,v2,v4⟩:=v;obtain⟨h1,h2,-⟩:=(FTAt.iff _ _).1 h;obtain⟨a1,c1,e1,-⟩:=Sl.rows aj! (by decide) (show Sl S w 3 v1 (r.subs.flatMap pC)from h1);obtain⟨a2,n2,c2,e2,hn,-,-⟩:=h2.len;obtain⟨a4,c4,e4,-⟩:=h.rows;rw[ad!,Nat.mul_one]at hn;dsimp only at e1 e2 e4;subst e1 e2 e4;rw[<-hn];exact⟨_,_,_,_,_,_,rfl⟩
theorem Sl.int_at {S:Nat->Prop}{w:World}{a:Option Addr}{n c:Nat}{l:List Int}(h:Sl S w 1 (.slice a n c) (ic l)) {i:Nat}(hi:i<l.length):∃b off,a=some ⟨b,off,none⟩/\S b/\w.cell? ⟨b,off+i,none⟩=some (.int .i64 l[i]):=by
 obtain⟨a1,n1,c1,hv,-,-,-,-,d⟩:=h;cases hv;obtain⟨b,off,rfl,hb,d⟩:=d (by intro h;have:=congrArg List.length h;rw[ad!,v6!]at this;omega);exact⟨b,off,rfl,hb,d i _ (by simp[ic,n4! hi])⟩
section
variable {all : List O2} {L : List (List O2)} {typ : ByteArray} {o : O2} {subs : List P3} {refs : List Int} {ps : List FT}
theorem InF.this2 (ht:∀o∈all,o.t=typ)(hL:∀l∈L,∀o∈l,o∈all)(hs:oS o∈subs->o.t=typ->o∈all):InF all L (.mk 1 subs refs ps) o↔RfI L refs o\/(oS o∈subs/\o.t=typ):=by
 unfold InF RfI;rw[bK!,if_pos rfl,Bool.or_eq_true,u1!,iR!];constructor
 ·rintro⟨h0,h | h⟩
  ·exact .inr ⟨h,ht _ h0⟩
  ·exact .inl h
 ·rintro(⟨k,hk,h0,h⟩|⟨h,h2⟩)
  ·exact⟨jW! hL h,.inr ⟨k,hk,h0,h⟩⟩
  ·exact⟨hs h h2,.inl h⟩
def SbI (typ:ByteArray)(l:List P3)(o:O2):Prop:=oS o∈l/\o.t=typ
theorem SbI.snoc {l:List P3}{s:P3}{o:O2}:SbI typ (l++[s]) o↔SbI typ l o\/(oS o=s/\o.t=typ):=by
 unfold SbI;rw[u3!,n9!];constructor
 ·rintro⟨h | h,a⟩
  ·exact .inl ⟨h,a⟩
  ·exact .inr ⟨h,a⟩
 ·rintro(⟨h,a⟩|⟨h,a⟩)
  ·exact⟨.inl h,a⟩
  ·exact⟨.inr h,a⟩
theorem oY! {s:P3}{o:O2}(hr:s.r=⟨#[]⟩):oS o=s↔o=s.obj:=by
 obtain⟨a,b,c⟩:=s;obtain⟨x,y⟩:=o;dsimp only at hr;subst hr;simp[oS,P3.obj]
theorem oS_nr {s:P3}{o:O2}(hr:s.r≠⟨#[]⟩):oS o≠s:=fun e=>hr (by rw[<-e];rfl)
def Kno (typ:ByteArray)(all:List O2)(f:FT):Prop:=∀s∈f.ths,s.r=⟨#[]⟩->s.t=typ->s.obj∈all
theorem Kno.part {f g:FT}(h:Kno typ all f)(hg:g∈f.ps):Kno typ all g:=fun s hs=>h s (by rw[FT.ths_eq];exact List.mem_append_right _ (bv!.2 ⟨g,hg,hs⟩))
theorem ix! {s:P3}{subs:List P3}{refs:List Int}{ps:List FT}(h:s∈subs):s∈(FT.mk 1 subs refs ps).ths:=by
 rw[FT.ths_eq];exact List.mem_append_left _ (show s∈(if (1:Int)=1 then subs else [])from by simpa using h)
theorem iD! (a b:ByteArray):(a.toList == b.toList)=decide (a=b):=by
 by_cases h:a=b
 ·subst h;simp
 ·rw[v3! h,n7!];exact fun e=>h ((bc! a b).1 e)
end
section
variable {sp ma : Nat} {pv fv iv : Value} {typ : ByteArray} {ms : List Nat} {L : List (List O2)} {all : List O2}
theorem lS! (hL:∀l∈L,∀o∈l,o∈all)(ht:∀o∈all,o.t=typ)(f:FT):∀(v:FV3)(w:World),LkS w sp pv fv typ iv ms ma L all->FTAt (· < w.heap.size) w f v->Kno typ all f ->
  Calls prog 180 #[.pointer (some ⟨sp,0,none⟩),fV f v] w fun e w'=>∃b A,e= .returned (.map (some b))/\w.heap.size<=b/\OS w' b A/\(∀o,o∈A↔InF all L f o)/\Ext w w':=by
 induction f using FT.ind with
 | h f ih =>
 intro v w hS h hkn;obtain⟨a1,c1,a2,c2,a4,c4,rfl⟩:=h.shape;obtain⟨k,subs,refs,a⟩:=f;have aq:=h! ih;have af:=h! hS;have H0:=h! h;have HK:=h! hkn;have aE:=h! hL;have HT:=h! ht;clear ih hS hkn hL ht;unfold fV;dsimp only[FT.k,FT.subs,FT.refs,FT.ps]at aq h H0 ⊢;obtain⟨wa,m⟩:=e! (w.alloc (.cells #[.int .i64 k,.slice a1 subs.length c1,.slice a2 refs.length c2,.slice a4 a.length c4] 128));have XA:=h! (show Ext w wa from xa! m);have BA:=h! (show Blk wa w.heap.size #[.int .i64 k,.slice a1 subs.length c1,.slice a2 refs.length c2,.slice a4 a.length c4] 128 from bm! m);have H1:=h! (h.up XA.out);have HS:=h! (af.out.ext XA.out);clear h;obtain⟨wb,p⟩:=e! (wa.alloc (.map #[] 0));have XB:=h! (show Ext wa wb from xa! p);have a6:=h! (show OS wb (w.heap.size+1) []from by rw[p,show w.heap.size+1=wa.heap.size from by rw[m];simp];exact Mp.made wa);have BB:=h! (BA.out.below XB.out);have a0:=h! (HS.out.ext XB.out);have an:=h! (H1.out.up XB.out);have ai:=BB.out.cells;have ao:=@run_makeMap prog;go_enter func180,ntmps180
 rw[p,m]at ai;by_cases e1:k=1
 ·subst e1;have I:=h! (gM! a0.out refs (.slice a2 refs.length c2) ((FTAt.iff _ _).1 an.out).2.1);have q:Hid (Ext w wb):=h! (XA.out.trans XB.out);rw[p,m]at I;go_wp2_with fail
  rw[<-m,<-p];rw[<-m,<-p]at I;clear ai ao;refine I.out.mono ?_;rintro e w3 ⟨mb,A,rfl,hb,hA,hm,hx⟩;have ak:=h! hA;have ap:=h! hm;have HB:Hid (w.heap.size<=mb):=h! (n6! q.out.size hb);have a7:=h! (q.out.trans hx);have R:=(BB.out.below hx).cells;obtain⟨_,_,_,aO,aM,aP,aF,-⟩:=((FTAt.iff _ _).1 H0.out).1;cases aO;have aL:=h! (show subs.length<=9223372036854775807 from by unfold maxLen at aF;omega);clear aM aP aF hA hm hb hx I m p XA XB BA H1 HS BB a0 an a6 q;go_wp2_with fail
  clear R;go_loopw [24] (fun iv wr=>∃(i:Nat) (A':List O2),i<=subs.length/\iv= .int .i64 i/\OS wr mb A'/\(∀o,o∈A'↔o∈A\/SbI typ (subs.take i) o)/\Ext w wr) (fun iv _=>subs.length-(intOf iv).toNat)
  case atStart=>exact⟨0,A,v1! _,rfl,ak.out,(fun o=>by simp[SbI]),a7.out⟩
  case round =>
   obtain⟨i,A',hi,rfl,M,N,K⟩:=hrel;have HA:=h! M;have HM:=h! N;have HX:=h! K;clear M N K ak;by_cases hlt:i<subs.length
   ·have C:=h! hlt;have Q:=h! (n2! hlt);have aH:=n5! hlt;have aK:=h! (fun(h1:subs[i].r=⟨#[]⟩) (h2:subs[i].t=typ)=>HK.out subs[i] (ix! aH) h1 h2);obtain⟨aT,aR,aN,-,aS,z⟩:=Sl.rows aj! (by decide) (show Sl _ w 3 (.slice a1 subs.length c1) (subs.flatMap pC)from((FTAt.iff _ _).1 H0.out).1);cases aN;obtain⟨b,aA,rfl,hb,z⟩:=z (by omega);have aj:=fun j u hj=>Ext.cell HX.out (z i hlt j u hj);have D:=h! (show wrap64 ((i:Int)+1)=((i+1:Nat):Int)from by have:=aL.out;unfold wrap64;omega);have aJ:(i:Int)<(subs.length:Int):=by omega
    clear z hb aH;generalize subs[i]=s at *;clear hlt;obtain⟨st,si,sr⟩:=s;dsimp only at aK;have d0:wr.cell? ⟨b,aA+i*3,none⟩=some (.string st):=aj 0 _ rfl;have d1:wr.cell? ⟨b,aA+i*3+1,none⟩=some (.string si):=aj 1 _ rfl;have d2:wr.cell? ⟨b,aA+i*3+2,none⟩=some (.string sr):=aj 2 _ rfl;clear aj;have X4:=h! (Ext.alloc wr (.cells #[.string st,.string si,.string sr] 33));have BS:=h! (Blk.made wr #[.string st,.string si,.string sr] 33);have ay:=h! ((af.out.ext HX.out).ext X4.out);have aI:=h! (HA.out.below X4.out);go_wp2_with fail
    obtain⟨w4,aD⟩:=e! (wr.alloc (.cells #[.string st,.string si,.string sr] 33));rw[<-aD]at X4 BS ay aI ⊢;clear aD d0 d1 d2;obtain⟨wd,aC⟩:∃wd,Hid (wd=w4.drew):=⟨_,h! rfl⟩;have Y:=h! (show Ext w4 wd from xd! aC.out);have XD:Hid (Ext wr wd):=h! (X4.out.trans Y.out);have hs:=fun W (h:Ext wd W)=>(BS.out.below (Ext.trans Y.out h)).cells;have hq:=fun W (h:Ext wd W)=>(ay.out.box.below (Ext.trans Y.out h)).cells;have Z:OS wd mb A':=aI.out.below Y.out;have ar:=(BS.out.below Y.out).cells;refine re! aC.out ?_;clear aC Y;have am:=bt! sr;by_cases hr:sr=⟨#[]⟩
    rotate_left
    ·have HN:=h! (show ∀o,o∈A'↔o∈A\/SbI typ (subs.take (i+1)) o from fun o=>by
      rw[Q.out,SbI.snoc,HM.out o];exact⟨fun h=>h.imp id .inl,fun h=>h.imp id fun h=>h.elim id fun h=>absurd h.1 (oS_nr hr)⟩)
     rw[v3! hr]at am;clear hr;(refine WalkN.tk [0,1,2,3] ?_;(iterate 4 (refine c! ?_));refine TkN.n ?_)
     refine k! 4 ?_;refine k! 5 ?_;refine k! 6 ?_;refine k! 7 ?_;refine k! 8 ?_;refine k! 9 ?_;refine k! 10 ?_;refine k! 11 ?_
     refine t! 12 ?_
     refine d! ?_;have G:=h! Z;clear hs hq am ar Z;go_wp2_with fail
     go_roundw
     case rel=>exact⟨i+1,A',C.out,by first | rw[D.out] | go_num,G.out,HN.out,Ext.trans HX.out XD.out⟩
     case measure=>have:=C.out;(try rw[D.out]);simp[intOf];omega
    subst hr;have J:=iD! st typ;by_cases ht:st=typ
    rotate_left
    ·have HN:=h! (show ∀o,o∈A'↔o∈A\/SbI typ (subs.take (i+1)) o from fun o=>by
      rw[Q.out,SbI.snoc,HM.out o];exact⟨fun h=>h.imp id .inl,fun h=>h.imp id fun h=>h.elim id fun h=>absurd ((congrArg P3.t h.1).symm.trans h.2) ht⟩)
     rw[v3! ht]at J;clear ht;(refine WalkN.tk [0,1,2,3,4,5,6,7,8,9,10,11,12] ?_;(iterate 13 (refine c! ?_));refine TkN.n ?_)
     refine d! ?_;have G:=h! Z;clear hs hq am ar J Z;go_wp2_with fail
     go_roundw
     case rel=>exact⟨i+1,A',C.out,by first | rw[D.out] | go_num,G.out,HN.out,Ext.trans HX.out XD.out⟩
     case measure=>have:=C.out;(try rw[D.out]);simp[intOf];omega
    subst ht;rw[v2! rfl]at J;have H:=ay.out.alls.key (aK.out rfl rfl)
    have HN:=h! (show ∀o,o∈(if (⟨st,si⟩:O2)∈A' then A' else A'++[⟨st,si⟩])↔o∈A\/SbI st (subs.take (i+1)) o from fun o=>by
     rw[gb!,Q.out,SbI.snoc,HM.out o,oY! rfl,or_assoc];exact⟨fun h=>h.imp id fun h=>h.imp id fun h=>⟨h,by rw[h];rfl⟩,fun h=>h.imp id fun h=>h.imp id fun h=>h.1⟩)
    (refine WalkN.tk [0,1,2,3,4,5,6,7,8,9,10,11,12] ?_;(iterate 13 (refine c! ?_));refine TkN.n ?_)
    refine d! ?_;clear hs hq am J;unfold P3.obj at H;dsimp only at H;go_wp2_with (at_mapUpdate;go_must (refine bT! (kv:=oV) (ev:=bV) _ rfl _ _ _ 210 rfl objK hS! Tryz.underlying210 rfl Z (y:=⟨st,si⟩) rfl H (u:=true) rfl ?_);intro w5 hM5 hT5)
    rw[gc!]at hM5;have U:=h! hM5;have V:Hid (Ext w w5):=h! (Below.trans (show Below w.heap.size w wd from Ext.trans HX.out XD.out) (hT5.below HB.out));clear hM5 hT5 Z H ar;go_roundw
    case rel=>exact⟨i+1,_,C.out,by first | rw[D.out] | go_num,U.out,HN.out,V.out⟩
    case measure=>have:=C.out;(try rw[D.out]);simp[intOf];omega
   ·obtain rfl:i=subs.length:=by omega
    rw[u2!]at HM
    have HF:=h! (show ∀o,o∈A'↔InF all L (.mk 1 subs refs a) o from fun o=>by
     rw[HM.out o,ap.out o,InF.this2 (o:=o) HT.out aE.out (fun h1 h2=>show o∈all from HK.out (oS o) (ix! h1) rfl h2)];rfl)
    go_wp2_with fail
    go_ret
    exact⟨mb,A',rfl,HB.out,HA.out,HF.out,HX.out⟩
 by_cases e2:k=2\/k=3
 ·have I:=h! (gM! a0.out refs (.slice a2 refs.length c2) ((FTAt.iff _ _).1 an.out).2.1);have q:Hid (Ext w wb):=h! (XA.out.trans XB.out);rw[p,m]at I;rcases e2 with rfl | rfl
  all_goals
   go_wp2_with fail
   rw[<-m,<-p];rw[<-m,<-p]at I;clear ai ao m p;refine I.out.mono ?_;rintro e w3 ⟨b,A,rfl,hb,hA,hm,hx⟩;have HA:=h! hA;have HM:=h! (show ∀o,o∈A↔InF all L (.mk _ subs refs a) o from fun o=>by rw[hm o,InF.named aE.out (by first | exact .inl rfl | exact .inr rfl)];rfl);have HB:Hid (w.heap.size<=b):=h! (n6! q.out.size hb);have a7:=h! (q.out.trans hx);clear hA hm hb hx I;go_wp2_with fail
   go_ret
   exact⟨b,A,rfl,HB.out,HA.out,HM.out,a7.out⟩
 have al:=h! e2;have g2:(k == 2)=false:=by simpa using fun e=>e2 (.inl e)
 have g3:(k == 3)=false:=by simpa using fun e=>e2 (.inr e)
 by_cases e4:k=4
 ·subst e4;have q:Hid (Ext w wb):=h! (XA.out.trans XB.out);clear g2 g3 e1 e2;go_wp2_with fail
  rw[<-m,<-p];clear ai ao m p al;go_loopw [57] (fun iv wr=>∃(i:Nat) (A':List O2),i<=a.length/\iv= .int .i64 i/\OS wr (w.heap.size+1) A'/\(∀o,o∈A'↔∃g∈a.take i,InF all L g o)/\Ext w wr) (fun iv _=>a.length-(intOf iv).toNat)
  case atStart=>exact⟨0,[],v1! _,rfl,a6.out,(fun o=>by simp),q.out⟩
  case round =>
   obtain⟨i,A',hi,rfl,M,N,K⟩:=hrel;have HA:=h! M;have HM:=h! N;have HX:=h! K;clear M N K;by_cases hlt:i<a.length
   ·have C:=h! hlt;have Q:=h! (n2! hlt);obtain⟨aQ,g1,a3,a8,ac,O⟩:=H0.out.rows;dsimp only[FT.ps]at a3 a8 ac O;cases a3;obtain⟨p1,q1,u,rfl,aw,e0,e1,e2,e3,hu⟩:=O i hlt;have ag:=h! (aq.out a[i] (n5! hlt));have ae:Hid (Kno typ all a[i]):=h! (Kno.part HK.out (n5! hlt));have D:=h! (show wrap64 ((i:Int)+1)=((i+1:Nat):Int)from by unfold wrap64;omega);have aJ:(i:Int)<(a.length:Int):=by omega
    generalize a[i]=x at *;obtain⟨l1,m1,l2,m2,l4,m4,rfl⟩:=hu.shape;have d0:=Ext.cell HX.out e0;have d1:=Ext.cell HX.out e1;have d2:=Ext.cell HX.out e2;have d3:=Ext.cell HX.out e3;dsimp only at d1 d2 d3;have X1:=h! (Ext.alloc wr (.cells #[.int .i64 x.k,.slice l1 x.subs.length m1,.slice l2 x.refs.length m2,.slice l4 x.ps.length m4] 128));have XX:Hid (Ext w (wr.alloc (.cells #[.int .i64 x.k,.slice l1 x.subs.length m1,.slice l2 x.refs.length m2,.slice l4 x.ps.length m4] 128))):=h! (Ext.trans HX.out X1.out);have F:=h! (ag.out _ _ (af.out.ext XX.out) (hu.up XX.out) ae.out);have T:=h! (HA.out.below X1.out);unfold fV at F;dsimp only at F;have au:=(Blk.made wr #[.int .i64 x.k,.slice l1 x.subs.length m1,.slice l2 x.refs.length m2,.slice l4 x.ps.length m4] 128).cells;clear hlt O hu aw a8 ac e0 e1 e2 e3;go_wp2_with fail
    refine F.out.mono ?_;rintro e w5 ⟨b2,A2,rfl,aB,a9,ab,X⟩;have U:=h! (T.out.below X);have V:Hid (Ext w w5):=h! (Ext.trans XX.out X);have G:=h! (eZ! (w.heap.size+1) b2 A' A2 w5 U.out a9 (fun e=>by have h1:=T.out.lt;omega))
    have aa:=h! (show ∀o,(o∈A'\/o∈A2)↔∃g∈a.take (i+1),InF all L g o from fun o=>by
     rw[HM.out o,Q.out,ab o];simp only[u3!,n9!];constructor
     ·rintro(⟨g,hg,h⟩ | h)
      ·exact⟨g,.inl hg,h⟩
      ·exact⟨_,.inr rfl,h⟩
     ·rintro⟨g,hg | rfl,h⟩
      ·exact .inl ⟨g,hg,h⟩
      ·exact .inr h)
    clear aB a9 ab X F d0 d1 d2 d3 au T U ag ae;go_wp2_with fail
    refine G.out.mono ?_;rintro e w6 ⟨rfl,⟨A3,ad,ah⟩,a5⟩;have av:=h! ad;have az:=h! (fun o=>(ah o).trans (aa.out o));have ax:Hid (Ext w w6):=h! (Below.trans (show Below w.heap.size w w5 from V.out) (Kept.below (B:=w.heap.size) a5 fun b hb=>⟨n1! hb V.out.size,fun e=>by omega⟩));clear ad ah a5 G aa;go_wp2_with fail
    go_roundw
    case rel=>exact⟨i+1,A3,C.out,by first | rw[D.out] | go_num,av.out,az.out,ax.out⟩
    case measure=>have:=C.out;(try rw[D.out]);simp[intOf];omega
   ·obtain rfl:i=a.length:=by omega
    rw[u2!]at HM;go_wp2_with fail
    go_ret
    exact⟨w.heap.size+1,A',rfl,by omega,HA.out,fun o=>by rw[HM.out o];exact InF.some.symm,HX.out⟩
 by_cases e5:k=5
 ·subst e5;have g1:(5 == (1:Int))=false:=rfl;have q:Hid (Ext w wb):=h! (XA.out.trans XB.out);have E:=h! (eZ! (w.heap.size+1) ma [] all wb a6.out a0.out.alls (fun e=>by have:=af.out.alls.lt;omega));have aG:=a0.out.box.cells;rw[p,m]at aG E;clear g2 g3 e1 e2 e4;go_wp2_with fail
  rw[<-m,<-p];rw[<-m,<-p]at E;clear aG ai ao;refine E.out.mono ?_;rintro e w3 ⟨rfl,⟨A,hA,hm⟩,hk⟩;have ak:=h! hA;have ap:=h! (show ∀o,o∈A↔o∈all from fun o=>by rw[hm o];simp);have a7:Hid (Ext w w3):=h! (Below.trans (show Below w.heap.size w wb from q.out) (Kept.below (B:=w.heap.size) hk fun b hb=>⟨n1! hb q.out.size,fun e=>by omega⟩));have R:=(show Blk w3 w.heap.size _ _ from(hk.block _ ⟨BB.out.lt,by omega⟩).trans BB.out).cells;clear hA hm hk E m p al a6 BB a0 an q XA XB BA H1 HS;go_wp2_with fail
  clear R;go_loopw [78] (fun iv wr=>∃(i:Nat) (A':List O2),i<=a.length/\iv= .int .i64 i/\OS wr (w.heap.size+1) A'/\(∀o,o∈A'↔o∈all/\∀g∈a.take i,InF all L g o)/\Ext w wr) (fun iv _=>a.length-(intOf iv).toNat)
  case atStart=>exact⟨0,A,v1! _,rfl,ak.out,(fun o=>by rw[ap.out o];simp),a7.out⟩
  case round =>
   obtain⟨i,A',hi,rfl,M,N,K⟩:=hrel;have HA:=h! M;have HM:=h! N;have HX:=h! K;clear M N K;by_cases hlt:i<a.length
   ·have C:=h! hlt;have Q:=h! (n2! hlt);obtain⟨aQ,g1,a3,a8,ac,O⟩:=H0.out.rows;dsimp only[FT.ps]at a3 a8 ac O;cases a3;obtain⟨p1,q1,u,rfl,aw,e0,e1,e2,e3,hu⟩:=O i hlt;have ag:=h! (aq.out a[i] (n5! hlt));have ae:Hid (Kno typ all a[i]):=h! (Kno.part HK.out (n5! hlt));have D:=h! (show wrap64 ((i:Int)+1)=((i+1:Nat):Int)from by unfold wrap64;omega);have aJ:(i:Int)<(a.length:Int):=by omega
    generalize a[i]=x at *;obtain⟨l1,m1,l2,m2,l4,m4,rfl⟩:=hu.shape;have d0:=Ext.cell HX.out e0;have d1:=Ext.cell HX.out e1;have d2:=Ext.cell HX.out e2;have d3:=Ext.cell HX.out e3;dsimp only at d1 d2 d3;have X1:=h! (Ext.alloc wr (.cells #[.int .i64 x.k,.slice l1 x.subs.length m1,.slice l2 x.refs.length m2,.slice l4 x.ps.length m4] 128));have XX:Hid (Ext w (wr.alloc (.cells #[.int .i64 x.k,.slice l1 x.subs.length m1,.slice l2 x.refs.length m2,.slice l4 x.ps.length m4] 128))):=h! (Ext.trans HX.out X1.out);have F:=h! (ag.out _ _ (af.out.ext XX.out) (hu.up XX.out) ae.out);have T:=h! (HA.out.below X1.out);unfold fV at F;dsimp only at F;have au:=(Blk.made wr #[.int .i64 x.k,.slice l1 x.subs.length m1,.slice l2 x.refs.length m2,.slice l4 x.ps.length m4] 128).cells;clear hlt O hu aw a8 ac e0 e1 e2 e3;go_wp2_with fail
    refine F.out.mono ?_;rintro e w5 ⟨b2,A2,rfl,aB,a9,ab,X⟩;have U:=h! (T.out.below X);have V:Hid (Ext w w5):=h! (Ext.trans XX.out X);have G:=h! (lG! (w.heap.size+1) b2 A' A2 w5 U.out a9 (fun e=>by have h1:=T.out.lt;omega))
    have aa:=h! (show ∀o,(o∈A'/\o∈A2)↔o∈all/\∀g∈a.take (i+1),InF all L g o from fun o=>by
     rw[HM.out o,Q.out,ab o];simp only[u3!,n9!];constructor
     ·rintro⟨⟨h0,h1⟩,h2⟩;exact⟨h0,fun g hg=>hg.elim (h1 g) fun e=>e▸h2⟩
     ·rintro⟨h0,h1⟩;exact⟨⟨h0,fun g hg=>h1 g (.inl hg)⟩,h1 _ (.inr rfl)⟩)
    clear aB a9 ab X F d0 d1 d2 d3 au T U ag ae;go_wp2_with fail
    refine G.out.mono ?_;rintro e w6 ⟨rfl,⟨A3,ad,ah⟩,a5⟩;have av:=h! ad;have az:=h! (fun o=>(ah o).trans (aa.out o));have ax:Hid (Ext w w6):=h! (Below.trans (show Below w.heap.size w w5 from V.out) (Kept.below (B:=w.heap.size) a5 fun b hb=>⟨n1! hb V.out.size,fun e=>by omega⟩));clear ad ah a5 G aa;go_wp2_with fail
    go_roundw
    case rel=>exact⟨i+1,A3,C.out,by first | rw[D.out] | go_num,av.out,az.out,ax.out⟩
    case measure=>have:=C.out;(try rw[D.out]);simp[intOf];omega
   ·obtain rfl:i=a.length:=by omega
    rw[u2!]at HM;go_wp2_with fail
    go_ret
    exact⟨w.heap.size+1,A',rfl,by omega,HA.out,fun o=>by rw[HM.out o];exact InF.every.symm,HX.out⟩
 ·have g1:(k == 1)=false:=by simpa using e1
  have g4:(k == 4)=false:=by simpa using e4
  have g5:(k == 5)=false:=by simpa using e5
  have HN:Hid (∀o,¬ InF all L (.mk k subs refs a) o):=h! (fun o=>InF.none e1 (fun e=>al.out (.inl e)) (fun e=>al.out (.inr e)) e4 e5);have q:Hid (Ext w wb):=h! (XA.out.trans XB.out);clear e1 e2 e4 e5;go_wp2_with fail
  rw[<-m,<-p];go_ret
  exact⟨_,[],rfl,by omega,a6.out,fun o=>⟨fun h=>(by cases h),fun h=>absurd h (HN.out o)⟩,q.out⟩
end
theorem cK!:∀(a b:List FT),thsL (a++b)=thsL a++thsL b
 | [],_=>rfl
 | x::a,b=>by rw[x2!,thsL,thsL,cK! a b,y6!]
theorem nC! {typ:ByteArray}{k:Int}{all all':List O2}{l:List P3}{s:P3}(hm:∀o,o∈all'↔o∈all\/(k=1/\SbI typ l o))(hs:¬ (k=1/\s.r=⟨#[]⟩/\s.t=typ)):∀o,o∈all'↔o∈all\/(k=1/\SbI typ (l++[s]) o):=fun o=>by
 rw[hm o,SbI.snoc];refine or_congr Iff.rfl (and_congr_right fun h1=>⟨.inl,fun h=>h.elim id fun h=>absurd ⟨h1,?_,(congrArg P3.t h.1).symm.trans h.2⟩ hs⟩);rw[<-h.1];rfl
section
variable {sp ma lo : Nat} {pv fv iv : Value} {typ : ByteArray} {ms : List Nat} {L : List (List O2)}
theorem jt! (hlo:lo<=ma)(f:FT):∀(v:FV3)(all:List O2)(w:World),LkS w sp pv fv typ iv ms ma L all->FTAt (· < lo) w f v->lo<=w.heap.size->(∀s∈f.ths,s.Ok) ->
  Calls prog 178 #[.pointer (some ⟨sp,0,none⟩),fV f v] w fun e w'=>e= .returned (.tuple #[])/\(∃all',LkS w' sp pv fv typ iv ms ma L all'/\∀o,o∈all'↔o∈all\/SbI typ f.ths o)/\Tk ma w w':=by
 induction f using FT.ind with
 | h f ih =>
 intro v all w hS h hlw hok;obtain⟨a1,c1,a2,c2,a4,c4,rfl⟩:=h.shape;obtain⟨k,subs,refs,a⟩:=f;have ag:=h! ih;have av:=h! hS;have H0:=h! h;have ar:=h! hok;have C:=h! hlo;have q:=h! hlw;clear ih hS hok hlo hlw;unfold fV;dsimp only[FT.k,FT.subs,FT.refs,FT.ps]at ag h H0 ⊢;obtain⟨wa,M⟩:=e! (w.alloc (.cells #[.int .i64 k,.slice a1 subs.length c1,.slice a2 refs.length c2,.slice a4 a.length c4] 128));have XA:=h! (show Ext w wa from xa! M);have BA:=h! (show Blk wa w.heap.size #[.int .i64 k,.slice a1 subs.length c1,.slice a2 refs.length c2,.slice a4 a.length c4] 128 from bm! M);have HS:=h! (av.out.ext XA.out);obtain⟨_,_,_,aL,aI,aO,am,-⟩:=((FTAt.iff _ _).1 H0.out).1;cases aL;have aH:=h! (show subs.length<=9223372036854775807 from by unfold maxLen at am;omega);have aw:=h! (show w.heap.size≠ma from fun e=>by have:=av.out.alls.lt;omega);have a5:=BA.out.cells;clear h aI aO am;go_enter func178,ntmps178
 rw[M]at a5;go_wp2_with fail
 rw[<-M];clear a5 M;go_loopw [11] (fun jv wr=>∃(i:Nat) (all':List O2),i<=subs.length/\jv= .int .i64 i/\LkS wr sp pv fv typ iv ms ma L all'/\(∀o,o∈all'↔o∈all\/(k=1/\SbI typ (subs.take i) o))/\Tk ma wa wr) (fun iv _=>subs.length-(intOf iv).toNat)
 case atStart=>exact⟨0,all,v1! _,rfl,HS.out,(fun o=>by simp[SbI]),Tk.refl _ _⟩
 case round =>
  obtain⟨i,all',hi,rfl,al,aA,af⟩:=hrel;have a3:=h! al;have HM:=h! aA;have HK:=h! af;have aa:Hid (Tk ma w wr):=h! ((Tk.of XA.out).next HK.out);clear al aA af HS;by_cases hlt:i<subs.length
  ·have l:=h! hlt;have B:=h! (n2! hlt);have an:=n5! hlt;have ac:=h! (fun(h1:k=1)=>ar.out subs[i] (by subst h1;exact ix! an));have X:=h! (fun(hs:¬ (k=1/\subs[i].r=⟨#[]⟩/\subs[i].t=typ))=>nC! HM.out hs);obtain⟨aV,aT,aK,-,aU,g⟩:=Sl.rows aj! (by decide) (show Sl _ w 3 (.slice a1 subs.length c1) (subs.flatMap pC)from((FTAt.iff _ _).1 H0.out).1);cases aK;obtain⟨b,Z,rfl,hb,g⟩:=g (by omega)
   have R:∀j u,(pC subs[i])[j]?=some u->wr.cell? ⟨b,Z+i*3+j,none⟩=some u:=fun j u hj=>by
    have h1:=g i hlt j u hj;have h2:=aa.out.block b ⟨n1! hb q.out,fun e=>by have:=C.out;omega⟩;rw[<-h1];exact World.cell?_of_block h2
   have m:=h! (show wrap64 ((i:Int)+1)=((i+1:Nat):Int)from by have:=aH.out;unfold wrap64;omega);have aP:(i:Int)<(subs.length:Int):=by omega
   clear g hb an;generalize subs[i]=s at *;clear hlt;obtain⟨st,si,sr⟩:=s;dsimp only at ac X;have d0:wr.cell? ⟨b,Z+i*3,none⟩=some (.string st):=R 0 _ rfl;have d1:wr.cell? ⟨b,Z+i*3+1,none⟩=some (.string si):=R 1 _ rfl;have d2:wr.cell? ⟨b,Z+i*3+2,none⟩=some (.string sr):=R 2 _ rfl;clear R;have X4:=h! (Ext.alloc wr (.cells #[.string st,.string si,.string sr] 33));have BS:=h! (Blk.made wr #[.string st,.string si,.string sr] 33);have a9:=h! (a3.out.ext X4.out);have BF:=h! ((HK.out.box BA.out aw.out).below X4.out);go_wp2_with fail
   obtain⟨w4,D⟩:=e! (wr.alloc (.cells #[.string st,.string si,.string sr] 33));rw[<-D]at X4 BS a9 BF ⊢;clear D d0 d1 d2;obtain⟨wd,ab⟩:∃wd,Hid (wd=w4.drew):=⟨_,h! rfl⟩;have z:=h! (show Ext w4 wd from xd! ab.out);have XD:Hid (Ext wr wd):=h! (X4.out.trans z.out);have hs:=fun W (h:Ext wd W)=>(BS.out.below (Ext.trans z.out h)).cells;have hq:=fun W (h:Ext wd W)=>(a9.out.box.below (Ext.trans z.out h)).cells;have hf:=fun W (h:Ext wd W)=>(BF.out.below (Ext.trans z.out h)).cells;have Y:=h! (a9.out.ext z.out);have aS:=h! (BS.out.below z.out);have Q:Hid (Tk ma wa wd):=h! (HK.out.next (Tk.of XD.out));refine re! ab.out ?_;clear ab z;by_cases hk1:k=1
   rotate_left
   ·have HN:=h! (X.out fun h=>hk1 h.1);have E:(k == 1)=false:=by simpa using hk1
    clear hk1;(refine WalkN.tk [0,1,2,3] ?_;(iterate 4 (refine c! ?_));refine TkN.n ?_)
    refine k! 4 ?_;refine k! 5 ?_;refine k! 6 ?_
    (refine WalkN.tk [7,8] ?_;(iterate 2 (refine c! ?_));refine TkN.n ?_)
    refine k! 9 ?_;refine k! 10 ?_;refine k! 11 ?_;refine k! 12 ?_;refine k! 13 ?_;refine k! 14 ?_;refine k! 15 ?_;refine k! 16 ?_
    refine t! 17 ?_
    refine d! ?_;clear hs hq hf E;go_wp2_with fail
    go_roundw
    case rel=>exact⟨i+1,all',l.out,by first | rw[m.out] | go_num,Y.out,by rw[B.out];exact HN.out,Q.out⟩
    case measure=>have:=l.out;(try rw[m.out]);simp[intOf];omega
   have a7:=h! hk1;have E:(k == 1)=true:=by simpa using hk1
   clear hk1;have U:=bt! sr;by_cases hr:sr=⟨#[]⟩
   rotate_left
   ·have HN:=h! (X.out fun h=>hr h.2.1);rw[v3! hr]at U;clear hr;(refine WalkN.tk [0,1,2,3,4,5,6,7,8] ?_;(iterate 9 (refine c! ?_));refine TkN.n ?_)
    refine k! 9 ?_;refine k! 10 ?_;refine k! 11 ?_;refine k! 12 ?_;refine k! 13 ?_;refine k! 14 ?_;refine k! 15 ?_;refine k! 16 ?_
    refine t! 17 ?_
    refine d! ?_;clear hs hq hf E U;go_wp2_with fail
    go_roundw
    case rel=>exact⟨i+1,all',l.out,by first | rw[m.out] | go_num,Y.out,by rw[B.out];exact HN.out,Q.out⟩
    case measure=>have:=l.out;(try rw[m.out]);simp[intOf];omega
   subst hr;have p:=iD! st typ;by_cases ht:st=typ
   rotate_left
   ·have HN:=h! (X.out fun h=>ht h.2.2);rw[v3! ht]at p;clear ht;(refine WalkN.tk [0,1,2,3,4,5,6,7,8,9,10,11,12,13,14,15,16,17] ?_;(iterate 18 (refine c! ?_));refine TkN.n ?_)
    refine d! ?_;clear hs hq hf E U p;go_wp2_with fail
    go_roundw
    case rel=>exact⟨i+1,all',l.out,by first | rw[m.out] | go_num,Y.out,by rw[B.out];exact HN.out,Q.out⟩
    case measure=>have:=l.out;(try rw[m.out]);simp[intOf];omega
   subst ht;rw[v2! rfl]at p;have G:=mC! ⟨st,si⟩ ⟨(ac.out a7.out).1,(ac.out a7.out).2.1⟩
   have HN:=h! (show ∀o,o∈(if (⟨st,si⟩:O2)∈all' then all' else all'++[⟨st,si⟩])↔o∈all\/(k=1/\SbI st (subs.take (i+1)) o)from fun o=>by
    rw[gb!,B.out,SbI.snoc,HM.out o,oY! rfl,or_assoc];refine or_congr Iff.rfl ⟨fun h=>⟨a7.out,h.elim (fun h => .inl h.2) fun h => .inr ⟨h,by rw[h]⟩⟩,fun h=>h.2.elim (fun h2 => .inl ⟨h.1,h2⟩) fun h2 => .inr h2.1⟩)
   (refine WalkN.tk [0,1,2,3,4,5,6,7,8,9,10,11,12,13,14,15,16,17] ?_;(iterate 18 (refine c! ?_));refine TkN.n ?_)
   refine d! ?_;clear hs hq hf E U p;go_wp2_with fail
   obtain⟨we,a0⟩:∃we,Hid (we=wd.drew):=⟨_,h! rfl⟩;have V:=h! (show Ext wd we from xd! a0.out);have O:=h! (Y.out.ext V.out);have aE:=h! (aS.out.below V.out);have aJ:=h! (show wr.heap.size≠ma from fun e=>by have:=a3.out.alls.lt;omega);have aD:Hid (Tk ma wa we):=h! (Q.out.next (Tk.of V.out));refine r! (fun W=>Tk ma we W) (by rw[<-a0.out];exact Tk.refl _ _) ?_;rw[<-a0.out];clear a0 V;have hs:=fun W (h:Tk ma we W)=>(h.box aE.out aJ.out).cells;have hq:=fun W (h:Tk ma we W)=>(h.box O.out.box O.out.spNe).cells;(refine WalkN.tk [0,1,2,3,4,5] ?_;(iterate 6 (refine c! ?_));refine TkN.n ?_)
   clear hs hq;refine ob! 6 ?_;intro K hK;refine hq! (kv:=oV) (ev:=bV) _ _ _ 210 rfl objK hS! Tryz.underlying210 rfl O.out.alls (y:=⟨st,si⟩) rfl G (u:=true) rfl ?_;intro w6 hm6 ht6;refine hK.out _ _ (Tk.turned ht6) ?_;clear hK;simp only[Act.put];refine d! ?_;rw[gc!]at hm6;have aN:=h! (O.out.setAll (Tk.turned ht6) hm6);have aQ:=h! (aD.out.next (Tk.turned ht6));clear hm6 ht6 G;go_wp2_with fail
   go_roundw
   case rel=>exact⟨i+1,_,l.out,by first | rw[m.out] | go_num,aN.out,HN.out,aQ.out⟩
   case measure=>have:=l.out;(try rw[m.out]);simp[intOf];omega
  ·obtain rfl:i=subs.length:=by omega
   rw[u2!]at HM;have a5:=(HK.out.box BA.out aw.out).cells;clear hlt hi;go_wp2_with fail
   clear a5;obtain⟨w4,D⟩:=e! wr;rw[<-D]at a3 HK aa ⊢;clear D;go_loopw [43] (fun jv wr=>∃(i:Nat) (all2:List O2),i<=a.length/\jv= .int .i64 i/\LkS wr sp pv fv typ iv ms ma L all2/\(∀o,o∈all2↔o∈all\/(k=1/\SbI typ subs o)\/SbI typ (thsL (a.take i)) o)/\Tk ma w wr) (fun jv _=>a.length-(intOf jv).toNat)
   case atStart=>exact⟨0,all',v1! _,rfl,a3.out,(fun o=>(HM.out o).trans ⟨fun h=>h.imp id .inl,fun h=>h.imp id fun h=>h.elim id fun h=>absurd h.1 (by simp[thsL])⟩),aa.out⟩
   case round =>
    obtain⟨i,all2,hi,rfl,ap,ao,au⟩:=hrel;have aj:=h! ap;have ad:=h! ao;have A:=h! au;clear ap ao au;by_cases hlt:i<a.length
    ·have B:=h! (show thsL (a.take (i+1))=thsL (a.take i)++a[i].ths from by rw[n2! hlt,cK!];simp[thsL]);have l:=h! hlt;obtain⟨aW,g1,ae,ai,aq,a6⟩:=H0.out.rows;dsimp only[FT.ps]at ae ai aq a6;cases ae;obtain⟨p1,q1,u,rfl,I,e0,e1,e2,e3,hu⟩:=a6 i hlt;have ax:=h! (ag.out a[i] (n5! hlt));have aB:=h! (show ∀s∈a[i].ths,s.Ok from fun s hs=>ar.out s (by rw[FT.ths_eq];exact List.mem_append_right _ (bv!.2 ⟨_,n5! hlt,hs⟩)));have m:=h! (show wrap64 ((i:Int)+1)=((i+1:Nat):Int)from by unfold wrap64;omega);have aP:(i:Int)<(a.length:Int):=by omega
     have ak:wr.cell? ⟨p1,q1+i*4,none⟩=w.cell? ⟨p1,q1+i*4,none⟩:=World.cell?_of_block (A.out.block p1 ⟨n1! I q.out,fun e=>by have:=C.out;omega⟩);have F:wr.cell? ⟨p1,q1+i*4+1,none⟩=w.cell? ⟨p1,q1+i*4+1,none⟩:=World.cell?_of_block (A.out.block p1 ⟨n1! I q.out,fun e=>by have:=C.out;omega⟩);have N:wr.cell? ⟨p1,q1+i*4+2,none⟩=w.cell? ⟨p1,q1+i*4+2,none⟩:=World.cell?_of_block (A.out.block p1 ⟨n1! I q.out,fun e=>by have:=C.out;omega⟩);have H:wr.cell? ⟨p1,q1+i*4+3,none⟩=w.cell? ⟨p1,q1+i*4+3,none⟩:=World.cell?_of_block (A.out.block p1 ⟨n1! I q.out,fun e=>by have:=C.out;omega⟩);generalize a[i]=x at *;obtain⟨l1,m1,l2,m2,l4,m4,rfl⟩:=hu.shape;have d0:=ak.trans e0;have d1:=F.trans e1;have d2:=N.trans e2;have d3:=H.trans e3;dsimp only at d1 d2 d3;have X1:=h! (Ext.alloc wr (.cells #[.int .i64 x.k,.slice l1 x.subs.length m1,.slice l2 x.refs.length m2,.slice l4 x.ps.length m4] 128));have aG:=h! (aj.out.ext X1.out);have a8:Hid (Tk ma w _):=h! (A.out.next (Tk.of X1.out));have T:=h! (ax.out _ _ _ aG.out (hu.same (w':=wr.alloc (.cells #[.int .i64 x.k,.slice l1 x.subs.length m1,.slice l2 x.refs.length m2,.slice l4 x.ps.length m4] 128)) fun b hb=>a8.out.block b ⟨n1! hb q.out,fun e=>by have:=C.out;omega⟩) (n6! q.out a8.out.size) aB.out);unfold fV at T;dsimp only at T;have aF:=(Blk.made wr #[.int .i64 x.k,.slice l1 x.subs.length m1,.slice l2 x.refs.length m2,.slice l4 x.ps.length m4] 128).cells;clear hlt a6 hu I ai aq e0 e1 e2 e3 ak F N H;go_wp2_with fail
     refine T.out.mono ?_;rintro e w5 ⟨rfl,⟨J,az,ay⟩,ah⟩;have aC:=h! az
     have aM:=h! (show ∀o,o∈J↔o∈all\/(k=1/\SbI typ subs o)\/SbI typ (thsL (a.take (i+1))) o from fun o=>by
      rw[ay o,ad.out o,B.out,or_assoc,or_assoc];refine or_congr Iff.rfl (or_congr Iff.rfl ?_);unfold SbI;rw[u3!,or_and_right])
     have aR:=h! (a8.out.next ah);clear az ay ah T d0 d1 d2 d3 aF ax aB;go_wp2_with fail
     go_roundw
     case rel=>exact⟨i+1,J,l.out,by first | rw[m.out] | go_num,aC.out,aM.out,aR.out⟩
     case measure=>have:=l.out;(try rw[m.out]);simp[intOf];omega
    ·obtain rfl:i=a.length:=by omega
     rw[u2!]at ad;go_wp2_with fail
     go_end0
     refine⟨rfl,⟨all2,aj.out,fun o=>?_⟩,A.out⟩;rw[ad.out o,FT.ths_eq];refine or_congr Iff.rfl ?_;unfold SbI;dsimp only[FT.k,FT.subs,FT.ps];rw[u3!,or_and_right];refine or_congr ?_ Iff.rfl;by_cases h:k=1
     ·simp[h]
     ·simp[h]
end
def boC (l:List Bool):List Value:=l.map .bool
theorem aX! (l:List Bool):(boC l).length=l.length:=by simp[boC]
structure InvR (fs:List FT)(s:P3)(n r:Nat)(F:List Int)(j:Nat)(L:List Bool)(R:List Int):Prop where
 lenL:L.length=n
 lenR:R.length=n
 inn:∀i,i<n->L.getD i false=((inN fs s n r).getD i false||decide ((i:Int)∈F.take j))
 out:∀i,i<n->R.getD i 0=if (i:Int)∈F.take j then((r+1:Nat):Int)else(outN fs s n r).getD i 0
section
variable {fs : List FT} {s : P3} {n r j : Nat} {F : List Int} {L : List Bool} {R : List Int}
theorem InvR.start (fs:List FT)(s:P3)(n r:Nat)(F:List Int):InvR fs s n r F 0 (inN fs s n r) (outN fs s n r) where
 lenL:=ai! r
 lenR:=aK! r
 inn i _:=by simp
 out i _:=by simp
theorem dO! {α:Type}(l:List α)(i j:Nat)(x d:α):(l.set j x).getD i d=if i=j/\j<l.length then x else l.getD i d:=by
 rw[n8!,List.getElem?_set,n8!];by_cases h:j=i
 ·subst h;rw[if_pos rfl];split
  ·next h=>rw[if_pos ⟨rfl,h⟩];rfl
  ·next h=>rw[if_neg fun e=>h e.2,y0! (by omega)]
 ·rw[if_neg h,if_neg fun e=>h e.1.symm]
theorem InvR.step (h:InvR fs s n r F j L R)(hj:j<F.length)(h0:0<=F[j])(hn:F[j]<(n:Int)):InvR fs s n r F (j+1) (L.set F[j].toNat true) (R.set F[j].toNat ((r+1:Nat):Int)):=by
 have b:∀x,x∈F.take (j+1)↔x∈F.take j\/x=F[j]:=fun x=>by rw[n2! hj,u3!,n9!]
 have a:F[j].toNat<n:=by omega
 refine⟨by rw[List.length_set,h.lenL],by rw[List.length_set,h.lenR],fun i hi=>?_,fun i hi=>?_⟩
 ·rw[dO!,h.lenL];by_cases e:i=F[j].toNat
  ·have:(i:Int)∈F.take (j+1):=(b _).2 (.inr (by omega));rw[if_pos ⟨e,a⟩,v2! this,Bool.or_true]
  ·rw[if_neg fun h=>e h.1,h.inn i hi];congr 1
   have:¬ (i:Int)=F[j]:=by omega
   rw[decide_eq_decide,b];simp only[this,or_false]
 ·rw[dO!,h.lenR];by_cases e:i=F[j].toNat
  ·rw[if_pos ⟨e,a⟩,if_pos ((b _).2 (.inr (by omega)))]
  ·rw[if_neg fun h=>e h.1,h.out i hi];have:¬ (i:Int)=F[j]:=by omega
   have e2:(i:Int)∈F.take (j+1)↔(i:Int)∈F.take j:=by rw[b];simp only[this,or_false]
   simp only[e2]
theorem InvR.done (h:InvR fs s n r F F.length L R)(hF:∀i:Nat,i<n->((i:Int)∈F↔newS fs s (inN fs s n r) i=true)):L=inN fs s n (r+1)/\R=outN fs s n (r+1):=by
 constructor
 ·refine dS! (by rw[h.lenL,ai!]) fun i hi=>?_;rw[h.lenL]at hi;rw[h.inn i hi,bh! hi,u2!];congr 1
  rw[Bool.eq_iff_iff,u1!];exact hF i hi
 ·refine mK! (by rw[h.lenR,aK!]) fun i hi=>?_;rw[h.lenR]at hi;rw[h.out i hi,eD! hi,u2!];by_cases e:newS fs s (inN fs s n r) i=true
  ·rw[if_pos ((hF i hi).2 e),if_pos e]
  ·rw[if_neg fun hm=>e ((hF i hi).1 hm),if_neg e]
theorem mL! (hF:∀i:Nat,i<n->newS fs s (inN fs s n r) i=false):outN fs s n r=aR! fs s n:=EndS.solve hF
theorem km! {i:Nat}(hi:i<n)(h:newS fs s (inN fs s n r) i=true):cntT (inN fs s n r)<cntT (inN fs s n (r+1)) :=
 hl! (by rw[ai!,ai!]) (fun j hj e=>hd! r (by rwa[ai!]at hj) e)
  ⟨i,by rw[ai!];exact hi,by rw[<-dP! (by rw[ai!];exact hi)];exact gj! h,by rw[bh! hi,h,Bool.or_true]⟩
theorem ko! (fs:List FT)(s:P3)(n r:Nat):cntT (inN fs s n r)<=n:=by
 have:=mO! (inN fs s n r);rwa[ai!]at this
theorem nB! {i:Nat}(hi:i<n)(h:newS fs s (inN fs s n (r+1)) i=true):∃hf:i<fs.length,∃k:Nat,k<n/\newS fs s (inN fs s n r) k=true/\(k:Int)∈fs[i].named:=by
 have a:=gj! h;rw[dP! (by rw[ai!];exact hi),bh! hi,Bool.or_eq_false_iff]at a;obtain⟨h1,b⟩:=a;unfold newS at h b;rw[v0!]at h;replace h:=h.2;rw[dP! (by rw[ai!];exact hi),h1,Bool.not_false,Bool.true_and]at b;cases hf:fs[i]? with
 | none=>rw[hf]at h;cases h
 | some f =>
  rw[hf]at h b;dsimp only at h b;obtain⟨a0,a1⟩:=y3!.1 hf;refine⟨a0,?_⟩;rw[a1];refine Classical.byContradiction fun hno=>?_;rw[id! s _ (inN fs s n r) f fun k hk=>?_,b]at h
  ·cases h
  ·refine Classical.byContradiction fun hd=>hno ?_;unfold inAt at hd;by_cases h0:0<=k
   ·simp only[h0,decide_true,Bool.true_and]at hd;by_cases hkn:k.toNat<n
    ·rw[bh! hkn]at hd;refine⟨k.toNat,hkn,?_,by rwa[Int.toNat_of_nonneg h0]⟩;cases hn:newS fs s (inN fs s n r) k.toNat with
     | true=>rfl
     | false=>rw[hn,Bool.or_false]at hd;exact absurd rfl hd
    ·have e:∀q,(inN fs s n q).getD k.toNat false=false:=fun q=>by
      rw[n8!,y0! (by rw[ai!];omega)];rfl
     rw[e,e]at hd;exact absurd rfl hd
   ·simp[h0]at hd
def Wide (fs:List FT)(s:P3)(n r:Nat)(W:List Int):Prop:=∀i:Nat,i<n->newS fs s (inN fs s n r) i=true->(i:Int)∈W
def UsOf (fs:List FT)(n:Nat)(U:List (List Int)):Prop:=∀k:Nat,k<n->∀x:Int,x∈U.getD k []↔∃i:Nat,∃hf:i<fs.length,x=(i:Int)/\i<n/\(k:Int)∈fs[i].named
theorem Wide.next {U:List (List Int)}(hU:UsOf fs n U) {N:List Int}(hF:∀i:Nat,i<n->((i:Int)∈F↔newS fs s (inN fs s n r) i=true))(hN:∀x,x∈N↔∃k∈F,x∈U.getD k.toNat []):Wide fs s n (r+1) N:=fun i hi h=>by
 obtain⟨hf,k,hk,hn,hm⟩:=nB! hi h;exact(hN _).2 ⟨(k:Int),(hF k hk).2 hn,by rw[Int.toNat_natCast];exact(hU k hk _).2 ⟨i,hf,rfl,hi,hm⟩⟩
theorem Wide.fresh {W:List Int}(h:Wide fs s n r W) {i:Nat}(hi:i<n):((i:Int)∈W.filter fun x=>newS fs s (inN fs s n r) x.toNat)↔newS fs s (inN fs s n r) i=true:=by
 rw[List.mem_filter,Int.toNat_natCast];exact⟨fun h=>h.2,fun e=>⟨h i hi e,e⟩⟩
end
end Go.Proofs.YtlhaghoajpglaaaGreat
