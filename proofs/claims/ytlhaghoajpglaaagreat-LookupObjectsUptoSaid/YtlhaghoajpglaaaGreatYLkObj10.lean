/- Lemmas for the claim, no condition. -/
import Derived.Test.YtlhaghoajpglaaaGreatYLkObj9
import Derived.Test.YtlhaghoajpglaaaGreatYLkObj8
set_option maxRecDepth 100000
set_option maxHeartbeats 6000000
namespace Go.Proofs.YtlhaghoajpglaaaGreat
open Go Go.Maps Go.RowKit Go.Proofs.Tryz
structure GkAt (w:World)(gp B:Nat)(ps:List P3)(pv fv:Value):Prop where
 box:Blk w gp #[pv,fv] 96
 pts:Own w B 32 3 pv (pcs ps)
section
variable {w w' w0 : World} {gp B B' lo x : Nat} {pv fv pv' v sv rv qv : Value} {ps : List P3} {e : TypeId} {sz : Nat} {xs : List Value} {k : Int} {subs : List P3} {refs : List Int} {q : List (FT × FV3)}
theorem GkAt.ext (h:GkAt w gp B ps pv fv)(hx:Ext w w'):GkAt w' gp B ps pv fv:=⟨h.box.below hx,h.pts.below hx⟩
theorem GkAt.same (h:GkAt w gp B ps pv fv)(h1:w'.heap[gp]?=w.heap[gp]?)(h3:∀g,pv.ownBlock=some g->w'.heap[g]?=w.heap[g]?):GkAt w' gp B ps pv fv:=⟨h1.trans h.box,h.pts.keepOwn h3⟩
theorem GkAt.ptNe (h:GkAt w gp B ps pv fv):∀g,pv.ownBlock=some g->g≠gp:=fun g hg e=>by
 obtain⟨cur,h2⟩:=h.pts.typed hg;subst e;rw[show w.heap[g]?=_ from h.box]at h2;injection h2 with h2
 injection h2 with _ h2 _
 exact absurd h2 (by decide)
theorem GkAt.un (h:GkAt w gp B ps pv fv) {x:Nat}{cs:Array Value}{fr:Nat × Nat}(hx:w.heap[x]?=some (.cells cs e fr))(he:e≠32)(he2:e≠96):KX gp gp w pv x:=by
 have a:x≠gp:=fun e=>by
  subst e;rw[show w.heap[x]?=_ from h.box]at hx;injection hx with hx
  injection hx with _ hx _
  exact he2 hx.symm
 refine⟨(x7!.1 hx).1,a,a,fun e=>?_⟩;obtain⟨c,hc⟩:=h.pts.typed e;rw[hc]at hx;injection hx with hx
 injection hx with _ hx _
 exact he hx.symm
theorem Fine.gpk (h:Fine gp gp w w' pv pv')(hw:GkAt w gp B ps pv fv)(hB:B<=gp):PKept (· = gp) B w w':=h.kept.mono fun x hx=>by
 rcases hx with hx | ⟨h1,h2,h3⟩
 ·exact⟨by have:=hw.box.lt;omega,by omega,by omega,fun e=>by have:=(hw.pts.block x e).1;omega⟩
 ·refine⟨h2,h1,h1,fun e=>?_⟩;obtain⟨c,hc⟩:=hw.pts.typed e;exact h3 c hc
theorem Fine.gblk (h:Fine gp gp w w' pv pv')(hw:GkAt w gp B ps pv fv) {x:Nat}{cs:Array Value}(hx:Blk w x cs e)(he:e≠32)(he2:e≠96):Blk w' x cs e:=(h.kept.block x (hw.un hx he he2)).trans hx
theorem Fine.grow (h:Fine gp gp w w' pv pv')(hw:GkAt w gp B ps pv fv)(ho:Own w B' e sz v xs)(he:e≠32)(he2:e≠96):Own w' B' e sz v xs:=ho.keepOwn fun g hg=>by
 obtain⟨c,hc⟩:=ho.typed hg;exact h.kept.block g (hw.un hc he he2)
theorem GkAt.grown (h:GkAt w gp B ps pv fv)(ho:Own w B' e sz v xs)(he:e≠32)(he2:e≠96)(hg:w.grownBy w' v.ownBlock):GkAt w' gp B ps pv fv:=by
 refine h.same (hg.block gp h.box.lt fun e=>?_) fun g hgp=>hg.block g (h.pts.block g hgp).2 fun e=>?_
 ·obtain⟨c,hc⟩:=ho.typed e.symm;exact(h.un hc he he2).2.1 rfl
 ·obtain⟨c,hc⟩:=ho.typed e.symm;exact(h.un hc he he2).2.2.2 hgp
theorem GkAt.setBox (h:GkAt w gp B ps pv fv) {x i:Nat}{cs:Array Value}(hx:Blk w x cs e)(he:e≠32)(he2:e≠96)(u:Value):GkAt (w.setCell ⟨x,i,none⟩ u) gp B ps pv fv:=by
 have hu:=h.un hx he he2;exact h.same (Below.heap_setCell _ _ _ _ fun e=>hu.2.1 e.symm) fun g hg=>Below.heap_setCell _ _ _ _ fun e=>hu.2.2.2 (by rw[hg,show g=x from e])
theorem FmAt.gfine (h:FmAt w lo x k subs refs q sv rv qv)(hw:GkAt w gp B ps pv fv)(hf:Fine gp gp w w' pv pv')(hB:B<=gp)(hM:gp<lo):FmAt w' lo x k subs refs q sv rv qv :=
 ⟨hf.gblk hw h.box (by decide) (by decide),hf.grow hw h.subs (by decide) (by decide),hf.grow hw h.refs (by decide) (by decide),h.parts.keep (hf.gpk hw hB) fun x hx=>by
  rw[show x=gp from hx];exact hM⟩
end
theorem lM! {w w':World}{B sz x:Nat}{e t:TypeId}{v:Value}{xs:List Value}{cs:Array Value}(ho:Own w B e sz v xs)(hg:w.grownBy w' v.ownBlock)(hx:Blk w x cs t)(hne:t≠e):Blk w' x cs t :=
 (hg.block x hx.lt fun hv=>by
  obtain⟨c2,h2⟩:=ho.typed hv.symm;rw[show w.heap[x]?=_ from hx]at h2;exact hne (by injection v5! h2)).trans hx
theorem be! {w0 w w':World}{B sz:Nat}{e:TypeId}{v:Value}{xs:List Value}(h:Below B w0 w)(ho:Own w B e sz v xs)(hg:w.grownBy w' v.ownBlock)(hB:B<=w.heap.size):Below B w0 w' :=
 h.trans ⟨hg.os,hg.tape,hg.output,hg.size,fun x hx=>hg.block x (by omega) fun e=>by have:=(ho.block x e.symm).1;omega⟩
theorem oW! {ps:List P3}{p:P3}{i:Nat}(hi:i<ps.length)(h:ps[i]=p)(hn:∀j (hj:j<ps.length),j<i->ps[j]≠p):numD ps p=i:=by
 unfold numD;rw[List.findIdx_eq hi];exact⟨by simpa using h,fun j hj=>by simpa using hn j (by omega) hj⟩
theorem cc! (gp B:Nat)(pv fv:Value)(ps:List P3)(p:P3)(w:World)(h:GkAt w gp B ps pv fv)(hB:B<=gp)(hl:ps.length<=1073741824) :
  Calls prog 165 #[.pointer (some ⟨gp,0,none⟩),pV p] w fun e w'=>∃pv',e= .returned (.int .i64 (numD ps p:Nat))/\GkAt w' gp B (putP ps p) pv' fv/\Fine gp gp w w' pv pv':=by
 have ah:=h! hB;have a5:=h! (show B<=w.heap.size from by have:=h.box.lt;omega);have E:=h! h.ptNe;have a9:=h! h.pts.block;obtain⟨Z,pc,rfl,ak,ag,-⟩:=Sl.rows aj! (by decide) (show Sl _ w 3 pv (ps.flatMap pC)from h.pts.sl);have a4:=h! (jm! ps p);have ab:=h! (fun i hi=>oW! (ps:=ps) (p:=p) (i:=i) hi);have T:Hid (putP ps p=if p∈ps then ps else ps++[p]):=h! rfl;obtain⟨pt,pi,pr⟩:=p;have L:=Ext.alloc w (.cells #[.string pt,.string pi,.string pr] 32);have y:=h! (h.ext L);have A:=h! (Blk.made w #[.string pt,.string pi,.string pr] 32);have I:=h! L;have a3:=y.out.box.cells;clear L h hB;unfold pV;dsimp only;go_enter func165,ntmps165
 go_wp2_with fail
 clear a3;obtain⟨w1,V⟩:=e! (w.alloc (.cells #[.string pt,.string pi,.string pr] 32));rw[<-V]at y A I ⊢;clear V;go_loopw [12] (fun ii wr=>∃i:Nat,i<=ps.length/\ii= .int .i64 i/\(∀j (hj:j<ps.length),j<i->ps[j]≠⟨pt,pi,pr⟩)/\Ext w1 wr) (fun ii _=>ps.length-(intOf ii).toNat)
 case atStart=>exact⟨0,v1! _,rfl,fun _ _ h=>absurd h (Nat.not_lt_zero _),Ext.refl _⟩
 case round =>
  obtain⟨i,hi,rfl,z,R⟩:=hrel;have r:=h! z;have f:=h! R;clear z R;by_cases hlt:i<ps.length
  ·obtain⟨af,c',a2,-,-,a⟩:=Sl.rows aj! (by decide) (show Sl _ wr 3 (.slice Z ps.length pc) (ps.flatMap pC)from(y.out.pts.below f.out).sl);cases a2;obtain⟨b,G,rfl,-,a⟩:=a (by omega);have k:=a i hlt;clear a;have F:=h! (fun(h:ps[i]=⟨pt,pi,pr⟩)=>ab.out i hlt h r.out);have q:=h! (fun(h:ps[i]=(⟨pt,pi,pr⟩:P3))=>h▸n5! hlt);have J:=h! (fun(h:ps[i]≠⟨pt,pi,pr⟩)=>ah! (p:=fun j hj=>ps[j]≠⟨pt,pi,pr⟩) r.out hlt h);have O:=h! hlt;have ai:(i:Int)<(ps.length:Int):=by omega
   have aj:Hid (ps.length<=1073741824):=h! hl;generalize ps[i]=x at *;have v:=fun W=>pA! x ⟨pt,pi,pr⟩ W;by_cases he:x=⟨pt,pi,pr⟩
   ·rw[v2! he]at v;have HE:=h! (F.out he);have HM:Hid (putP ps ⟨pt,pi,pr⟩=ps):=h! (by rw[T.out,if_pos (q.out he)]);clear F q J;obtain⟨xt,xi,xr⟩:=x;unfold pV at v;dsimp only at v;have c0:wr.cell? ⟨b,G+i*3,none⟩=some (.string xt):=k 0 _ rfl;have c1:=k 1 _ rfl;have c2:=k 2 _ rfl;clear k he;have t:=h! (Ext.alloc wr (.cells #[.string xt,.string xi,.string xr] 32));have a8:=(Blk.made wr #[.string xt,.string xi,.string xr] 32).cells;have ac:=((A.out.below f.out).below t.out).cells;clear hl hlt;go_wp2_with fail
    go_ret
    exact⟨by rw[HE.out];rfl,.slice (some ⟨b,G,none⟩) ps.length pc,by rw[HM.out];exact(y.out.ext f.out).ext t.out,Fine.of _ _ _ (I.out.trans (f.out.trans t.out))⟩
   ·rw[v3! he]at v;have HN:=h! (J.out he);clear F q J;obtain⟨xt,xi,xr⟩:=x;unfold pV at v;dsimp only at v;have c0:wr.cell? ⟨b,G+i*3,none⟩=some (.string xt):=k 0 _ rfl;have c1:=k 1 _ rfl;have c2:=k 2 _ rfl;clear k he;have t:=h! (Ext.alloc wr (.cells #[.string xt,.string xi,.string xr] 32));have a8:=(Blk.made wr #[.string xt,.string xi,.string xr] 32).cells;have ac:=((A.out.below f.out).below t.out).cells;clear hlt;go_wp2_with fail
    go_roundw
    case rel=>exact⟨i+1,O.out,by go_num,HN.out,f.out.trans t.out⟩
    case measure=>have:=O.out;simp[intOf];omega
  ·obtain rfl:i=ps.length:=by omega
   have hm:(⟨pt,pi,pr⟩:P3)∉ps:=fun h=>by
    obtain⟨j,hj,e⟩:=u0! h;exact r.out j hj hj e
   have HR:Hid (putP ps ⟨pt,pi,pr⟩=ps++[⟨pt,pi,pr⟩]):=h! (by rw[T.out,if_neg hm]);have ad:=h! (a4.out hm);have X:=h! hl;clear hm hl hlt;go_wp2_with fail
   obtain⟨wg,s⟩:=e! wr.drew;have C:=h! (show Ext w wg from by rw[s];exact I.out.trans (f.out.trans (Ext.drew _)));have o:=h! (show GkAt wg gp B ps (.slice Z ps.length pc) fv from by rw[s];exact(y.out.ext f.out).ext (Ext.drew _));have H:=h! (show Blk wg w.heap.size _ _ from by rw[s];exact(A.out.below f.out).drew);refine as! 10 (Kept (fun x=>x<wg.heap.size/\Value.ownBlock (.slice Z ps.length pc)≠some x) wg) (by rw[<-s];exact Kept.refl _ _) (by kernel_rfl) (by kernel_rfl) (fun _ _ d _ _ h=>by cases d <;> exact h) ?_;rw[<-s];clear s;have h1:=fun W (h:Kept (fun x=>x<wg.heap.size/\Value.ownBlock (.slice Z ps.length pc)≠some x) wg W)=>(h.blk o.out.box ⟨o.out.box.lt,fun e=>E.out _ e rfl⟩).cells;have h2:=fun W (h:Kept (fun x=>x<wg.heap.size/\Value.ownBlock (.slice Z ps.length pc)≠some x) wg W)=>(h.blk H.out ⟨H.out.lt,fun e=>by have:=(a9.out _ e).2;omega⟩).cells;(refine WalkL.tk [0,1,2,3,4,5] ?_;(iterate 6 (refine l! ?_));refine TkL.n ?_)
   clear h1 h2;have N:Ext wg (wg.alloc (.cells #[.string pt,.string pi,.string pr] 32)):=Ext.alloc _ _;refine oL! 6 ?_;refine b! ?_;intro K hK;go_simp;refine hK.out _ _ ((Kept.refl _ _).alloc (fun x hx=>hx.1) _) ?_;clear hK;refine oL! 7 ?_;refine b! ?_;intro K hK;refine bD! ja! (.tmp 26) (.tmp 28) rfl rfl (o.out.pts.below N) (m:=1) (news:=pC ⟨pt,pi,pr⟩) rfl rfl (fun j u hu=>?_) (hR! _) (by rw[az!,aj!];have:=X.out;omega) (by rw[az!,aj!];have:=X.out;omega) (by have:=C.out.size;have:=a5.out;simp;omega) (fun v2 w2 hown2 hw2 hg2=>?_)
   ·rw[Addr.add_lit,cell_of_row _ wg.heap.size (0+j) #[.string pt,.string pi,.string pr] 32 (0,0) (heap_alloc_new wg _),Nat.zero_add];simpa [pC] using hu
   have D:Kept (fun x=>x<wg.heap.size/\Value.ownBlock (.slice Z ps.length pc)≠some x) wg w2:=⟨hg2.os.trans rfl,hg2.tape.trans rfl,hg2.output.trans rfl,n6! (by simp) hg2.size,fun x hx=>(hg2.block x (by have:=hx.1;simp;omega) (fun e=>hx.2 e.symm)).trans (Below.heap_alloc wg _ x hx.1)⟩;have a6:Hid (Kept (KX gp gp w (.slice Z ps.length pc)) w w2):=h! ((show Kept (KX gp gp w (.slice Z ps.length pc)) w wg from Below.kept C.out fun x hx=>hx.1).trans (D.mono fun x hx=>⟨n1! hx.1 C.out.size,hx.2.2.2⟩));have a7:=h! (show ∀g,v2.ownBlock=some g->(Value.slice Z ps.length pc).ownBlock=some g\/w.heap.size<=g from fun g hg=>(hw2 g hg).imp id fun e=>by have:=C.out.size;simp at e;omega);have M:=h! (D.blk o.out.box ⟨o.out.box.lt,fun e=>E.out _ e rfl⟩);refine hK.out _ _ D ?_;clear hK;simp only[Act.put,pA,pZ,pS];have U:=h! (show Own w2 B 32 3 v2 (pcs (ps++[⟨pt,pi,pr⟩]))from by rw[dI!,cu!];exact hown2);have a1:=h! (show ∀g,v2.ownBlock=some g->g≠gp from fun g hg=>(hw2 g hg).elim (fun e=>E.out g e) (fun e=>by have h2:=o.out.box.lt;simp at e;omega));obtain⟨o2,c2,Q,-,-,-⟩:=Sl.rows aj! (by decide) (show Sl _ w2 3 v2 (List.flatMap pC (ps++[⟨pt,pi,pr⟩]))from U.out.sl);rw[u4!,List.length_singleton]at Q;subst Q;clear D hown2 hw2 hg2 N o H;(refine WalkL.tk [8,9] ?_;(iterate 2 (refine l! ?_));refine TkL.n ?_)
   have a0:=M.out.cells;have aa:=M.out.free;refine WalkL.last (by kernel_rfl) (by kernel_rfl) ?_;refine b! ?_;intro K hK;go_simp;refine hK.out _ _ ?_;clear hK a0 aa;have Y:=h! (M.out.set_to 0 (.slice o2 (ps.length+1) c2) rfl);have ae:=Y.out.cells;clear hi;go_wp2_with fail
   go_ret
   refine⟨.slice o2 (ps.length+1) c2,?_,?_,?_⟩
   ·rw[ad.out];refine congrArg Ending.returned ?_;rfl
   ·rw[HR.out];exact⟨Y.out,U.out.keepOwn fun g hg=>Below.heap_setCell _ _ _ _ (a1.out g hg)⟩
   ·exact⟨a6.out.set (fun h=>h.2.1 rfl) _,a7.out⟩
theorem gO! {B:Nat}(v:Value)(l:List Int)(n:Int)(w:World)(h:Own w B 3 1 v (ic l))(hl:l.length<=1099511627776)(hB:B<=w.heap.size) :
  Calls prog 164 #[v,.int .i64 n] w fun e w'=>∃v',e= .returned v'/\Own w' B 3 1 v' (ic (if n∈l then l else l++[n]))/\Kept (fun b=>b<w.heap.size/\v.ownBlock≠some b) w w'/\(∀g,v'.ownBlock=some g->v.ownBlock=some g\/w.heap.size<=g):=by
 obtain⟨ao,m,c,rfl,C,-,-⟩:=h.sl.len;rw[ad!]at C;obtain rfl:m=l.length:=by omega
 obtain⟨r,hr⟩:=e! (if n∈l then l else l++[n]);rw[<-hr];have t:=h! hr;have HO:=h! h;have z:=h! hl;have HB:=h! hB;clear h C hl hB hr;go_enter func164,ntmps164
 go_wp2_with fail
 go_loopw [9] (fun ii wr=>∃i:Nat,i<=l.length/\ii= .int .i64 i/\(∀j (hj:j<l.length),j<i->l[j]≠n)/\wr=w) (fun ii _=>l.length-(intOf ii).toNat)
 case atStart=>exact⟨0,v1! _,rfl,fun _ _ h=>absurd h (Nat.not_lt_zero _),rfl⟩
 case round =>
  obtain⟨i,hi,rfl,k,rfl⟩:=hrel;have o:=h! k;clear k;by_cases hlt:i<l.length
  ·obtain⟨a1,n1,c1,hv,-,-,-,-,a⟩:=HO.out.sl;cases hv;obtain⟨b,a3,rfl,-,a⟩:=a (by intro h;have:=congrArg List.length h;rw[ad!]at this;rw[v6!]at this;omega);have c0:=a i (.int .i64 l[i]) (by simp[ic,n4! hlt]);clear a;have d:=h! (fun(h:l[i]=n)=>show r=l from by rw[t.out,if_pos (h▸n5! hlt)]);have s:=h! (fun(h:l[i]≠n)=>ah! (p:=fun j hj=>l[j]≠n) o.out hlt h);have q:=h! hlt;have a4:(i:Int)<(l.length:Int):=by omega
   have a5:=h! z.out;generalize l[i]=x at *;clear hlt;by_cases he:x=n
   ·have HR:=h! (d.out he);have A:(x == n)=true:=by simpa using he
    clear d s he;go_wp2_with fail
    go_ret
    exact⟨_,rfl,by rw[HR.out];exact HO.out,Kept.refl _ _,fun g hg => .inl hg⟩
   ·have HN:=h! (s.out he);have A:(x == n)=false:=by simpa using he
    have y:=h! (show wrap64 ((i:Int)+1)=((i+1:Nat):Int)from by have:=z.out;have:=q.out;unfold wrap64;omega);clear d s he;go_wp2_with fail
    go_roundw
    case rel=>exact⟨i+1,q.out,by rw[y.out],HN.out,trivial⟩
    case measure=>have:=q.out;rw[y.out];simp[intOf];omega
  ·obtain rfl:i=l.length:=by omega
   have C:n∉l:=fun h=>by
    obtain⟨j,hj,e⟩:=u0! h;exact o.out j hj hj e
   have HR:Hid (r=l++[n]):=h! (by rw[t.out,if_neg C]);clear C hlt hi;have D:=h! (Ext.alloc wr (.cells #[.int .i64 n] 3));go_wp2_with (at_builtin;go_must (refine aE! intsT rfl (.tmp 18) (.tmp 20) rfl rfl (HO.out.below D.out) rfl (m:=1) (news:=[.int .i64 n]) rfl (by intro j u hu;rw[Addr.add_lit,cell_of_row _ wr.heap.size (0+j) #[.int .i64 n] 3 (0,0) (heap_alloc_new wr _)];simpa using hu) (by simp[Value.oneCell']) (by have:=z.out;rw[ad!];simp;omega) (by have:=z.out;rw[ad!];simp;omega) (by have:=HB.out;simp;omega) ?_;intro v6 w6 hown6 hb6 hg6;have a2:=h! (show Own w6 B 3 1 v6 (ic (l++[n]))from by rw[bN!];exact hown6);have a0:Hid (∀g,v6.ownBlock=some g->(Value.slice ao l.length c).ownBlock=some g\/(wr.alloc (.cells #[.int .i64 n] 3)).heap.size<=g):=h! hb6;have f:=h! (show(wr.alloc (.cells #[.int .i64 n] 3)).grownBy w6 (Value.slice ao l.length c).ownBlock from hg6);clear hown6 hb6 hg6))
   go_ret
   exact⟨_,rfl,by rw[HR.out];exact a2.out,⟨f.out.os.trans rfl,f.out.tape.trans rfl,f.out.output.trans rfl,n6! D.out.size f.out.size,fun b A=>(f.out.block b (n1! A.1 D.out.size) fun e=>A.2 e.symm).trans (D.out.block b A.1)⟩,fun g hg=>(a0.out g hg).imp id fun h=>n6! D.out.size h⟩
theorem np! (a1 a2 b1 b2:ByteArray)(W:World):(binOp BinOp.eql 30 (.agg #[.string a1,.string a2]) (.agg #[.string b1,.string b2])).run prog W= .ok (.bool (decide (a1=b1/\a2=b2))) W:=by
 go_simp;simp only[bc!];by_cases h1:a1=b1 <;> by_cases h2:a2=b2 <;> simp[h1,h2]
theorem oz! (a b:ByteArray):(a.toList == b.toList)=decide (a=b):=by
 by_cases h:a=b
 ·subst h;simp
 ·rw[v3! h,u5!,u5!,aH! h]
theorem hE! {T:List Tup}{p:P3}{i:Nat}(h:i<T.length):ak! (T.take (i+1)) p=if T[i].o=p then ak! (T.take i) p++[T[i].s]else ak! (T.take i) p:=by
 rw[n2! h,ej!]
theorem fl! {S:Nat->Prop}(v:Value)(T:List Tup)(p:P3)(w:World)(hS:∀x,S x->x<w.heap.size)(h:Sl S w 6 v (tuCs T))(hl:T.length<=1000000000) :
  Calls prog 163 #[v,pV p] w fun e w'=>∃v',e= .returned v'/\Own w' w.heap.size 33 3 v' (pcs (ak! T p))/\Ext w w':=by
 obtain⟨ao,c,rfl,a8,a5,r⟩:=kM! h;have HR:=h! r;have HL:=h! hl;have a2:=h! hS;obtain⟨K,N,O⟩:=p;have J:=Ext.alloc w (.cells #[.string K,.string N,.string O] 32);have C:=h! (Blk.made w #[.string K,.string N,.string O] 32);have G:=h! J;clear r hl h J hS;unfold pV;dsimp only;go_enter func163,ntmps163
 go_wp2_with fail
 obtain⟨w1,I⟩:=e! (w.alloc (.cells #[.string K,.string N,.string O] 32));rw[<-I]at C G ⊢;clear I;go_loopw [5,10] (fun ov ii wr=>∃i:Nat,i<=T.length/\ii= .int .i64 i/\Own wr w.heap.size 33 3 ov (pcs (ak! (T.take i) ⟨K,N,O⟩))/\Blk wr w.heap.size #[.string K,.string N,.string O] 32/\Below w.heap.size w wr) (fun _ ii _=>T.length-(intOf ii).toNat)
 case atStart=>exact⟨0,v1! _,rfl,Own.nil _ _ _ _,C.out,G.out⟩
 case round =>
  obtain⟨i,hi,rfl,q,H,F⟩:=hrel;have d:=h! q;have t:=h! H;have a:=h! F;clear q H F;by_cases hlt:i<T.length
  ·obtain⟨b,n,rfl,A,c0,c1,c2,c3,c4,c5⟩:=HR.out i hlt;have g:=a2.out b A;have d0:=(a.out.cell (p:=⟨b,n+i*6,none⟩) g).trans c0;have d1:=(a.out.cell (p:=⟨b,n+i*6+1,none⟩) g).trans c1;have d2:=(a.out.cell (p:=⟨b,n+i*6+2,none⟩) g).trans c2;have d3:=(a.out.cell (p:=⟨b,n+i*6+3,none⟩) g).trans c3;have d4:=(a.out.cell (p:=⟨b,n+i*6+4,none⟩) g).trans c4;have d5:=(a.out.cell (p:=⟨b,n+i*6+5,none⟩) g).trans c5;have s:=h! (hE! (p:=⟨K,N,O⟩) hlt)
   have D:=h! (show(ak! (T.take i) ⟨K,N,O⟩).length<=1000000000 from by
    unfold ak!;rw[x1!];refine n6! (x8! _ _) ?_;rw[x4!];have:=HL.out;omega)
   have l:=h! hlt;have o:=h! (show wrap64 ((i:Int)+1)=((i+1:Nat):Int)from by have:=HL.out;unfold wrap64;omega);have a7:(i:Int)<(T.length:Int):=by omega
   clear c0 c1 c2 c3 c4 c5 g A;generalize T[i]=x at *;clear hlt;generalize ak! (T.take i) ⟨K,N,O⟩=sl at *;generalize hs2:ak! (T.take (i+1)) ⟨K,N,O⟩=sl2 at *;have y:=h! hs2;clear hs2;obtain⟨⟨ot,oi,or_⟩,⟨st,si,L⟩⟩:=x;dsimp only at d0 d1 d2 d3 d4 d5 s;have f:=h! (Ext.alloc wr (.cells #[.string ot,.string oi,.string or_,.string st,.string si,.string L] 67));have a6:=(Blk.made wr #[.string ot,.string oi,.string or_,.string st,.string si,.string L] 67).cells;have a9:=(t.out.below f.out).cells;have E:=fun W=>np! ot oi K N W;have z:=oz! or_ O;by_cases h1:ot=K/\oi=N
   ·rw[v2! h1]at E;by_cases h2:or_=O
    ·have M:Hid (sl2=sl++[⟨st,si,L⟩]):=h! (by rw[s.out,if_pos (by rw[h1.1,h1.2,h2])]);rw[v2! h2]at z;clear h1 h2;have k:=h! (Ext.alloc (wr.alloc (.cells #[.string ot,.string oi,.string or_,.string st,.string si,.string L] 67)) (.cells #[.string st,.string si,.string L] 33));have a0:=h! (Blk.made' (w:=wr.alloc (.cells #[.string ot,.string oi,.string or_,.string st,.string si,.string L] 67)) (B:=wr.heap.size+1) (by simp) #[.string st,.string si,.string L] 33);go_wp2_with (at_builtin;go_must (refine aE! subsT rfl (.tmp 26) (.tmp 29) rfl rfl ((d.out.below f.out).below k.out) rfl (m:=1) (news:=pC ⟨st,si,L⟩) rfl (by intro j u hu;rw[Addr.add_lit,Nat.zero_add];exact(a0.out.cells j).trans (by simpa [pC] using hu)) (hR! _) (by have:=D.out;rw[az!,aj!];omega) (by have:=D.out;rw[az!,aj!];omega) (by have:=a.out.size;have:=f.out.size;have:=k.out.size;omega) ?_;intro v6 w6 hown6 hb6 hg6;have a1:=h! (show Own w6 w.heap.size 33 3 v6 (pcs (sl++[⟨st,si,L⟩]))from by rw[dI!,cu!];exact hown6);have a3:=h! (lM! ((d.out.below f.out).below k.out) hg6 ((t.out.below f.out).below k.out) (by decide));have a4:=h! (be! (a.out.trans ((f.out.trans k.out).mono a.out.size)) ((d.out.below f.out).below k.out) hg6 (by have:=a.out.size;have:=f.out.size;have:=k.out.size;omega));clear hown6 hb6 hg6))
     go_roundw
     case rel=>exact⟨i+1,l.out,by first | rw[o.out] | go_num,by rw[y.out,M.out];exact a1.out,a3.out,a4.out⟩
     case measure=>have:=l.out;(try rw[o.out]);simp[intOf];omega
    ·have M:Hid (sl2=sl):=h! (by rw[s.out,if_neg (by simp[h2])]);rw[v3! h2]at z;clear h1 h2;go_wp2_with fail
     go_roundw
     case rel=>exact⟨i+1,l.out,by first | rw[o.out] | go_num,by rw[y.out,M.out];exact d.out.below f.out,t.out.below f.out,a.out.trans (f.out.mono a.out.size)⟩
     case measure=>have:=l.out;(try rw[o.out]);simp[intOf];omega
   ·have M:Hid (sl2=sl):=h! (by rw[s.out,if_neg (fun e=>h1 ⟨by injection e,by injection e⟩)]);rw[v3! h1]at E;clear h1 z;go_wp2_with fail
    go_roundw
    case rel=>exact⟨i+1,l.out,by first | rw[o.out] | go_num,by rw[y.out,M.out];exact d.out.below f.out,t.out.below f.out,a.out.trans (f.out.mono a.out.size)⟩
    case measure=>have:=l.out;(try rw[o.out]);simp[intOf];omega
  ·obtain rfl:i=T.length:=by omega
   rw[u2!]at d;go_wp2_with fail
   go_ret
   exact⟨_,rfl,d.out,a.out⟩
theorem FTAt.shape {S:Nat->Prop}{w:World}{r:FT}{v:FV3}(h:FTAt S w r v):∃a1 c1 a2 c2 a4 c4,v=(.slice a1 r.subs.length c1,.slice a2 r.refs.length c2,.slice a4 r.ps.length c4):=by
 obtain⟨v1,v2,v4⟩:=v;obtain⟨h1,h2,-⟩:=(FTAt.iff _ _).1 h;obtain⟨a1,c1,e1,-⟩:=Sl.rows aj! (by decide) (show Sl S w 3 v1 (r.subs.flatMap pC)from h1);obtain⟨a2,n2,c2,e2,hn,-,-⟩:=h2.len;obtain⟨a4,c4,e4,-⟩:=h.rows;rw[ad!,Nat.mul_one]at hn;dsimp only at e1 e2 e4;subst e1 e2 e4;rw[<-hn];exact⟨_,_,_,_,_,_,rfl⟩
theorem Sl.int_at {S:Nat->Prop}{w:World}{a:Option Addr}{n c:Nat}{l:List Int}(h:Sl S w 1 (.slice a n c) (ic l)) {i:Nat}(hi:i<l.length):∃b off,a=some ⟨b,off,none⟩/\S b/\w.cell? ⟨b,off+i,none⟩=some (.int .i64 l[i]):=by
 obtain⟨a1,n1,c1,hv,-,-,-,-,d⟩:=h;cases hv;obtain⟨b,off,rfl,hb,d⟩:=d (by intro h;have:=congrArg List.length h;rw[ad!,v6!]at this;omega);exact⟨b,off,rfl,hb,d i _ (by simp[ic,n4! hi])⟩
section
variable {all : List O2} {L : List (List O2)} {typ : ByteArray} {o : O2} {subs : List P3} {refs : List Int} {ps : List FT}
theorem InF.this2 (ht:∀o∈all,o.t=typ)(hL:∀l∈L,∀o∈l,o∈all)(hs:oS o∈subs->o.t=typ->o∈all):InF all L (.mk 1 subs refs ps) o↔RfI L refs o\/(oS o∈subs/\o.t=typ):=by
 unfold InF RfI;rw[bJ!,if_pos rfl,Bool.or_eq_true,u1!,iT!];constructor
 ·rintro⟨h0,h | h⟩
  ·exact .inr ⟨h,ht _ h0⟩
  ·exact .inl h
 ·rintro(⟨k,hk,h0,h⟩|⟨h,h2⟩)
  ·exact⟨jX! hL h,.inr ⟨k,hk,h0,h⟩⟩
  ·exact⟨hs h h2,.inl h⟩
def SbI (typ:ByteArray)(l:List P3)(o:O2):Prop:=oS o∈l/\o.t=typ
theorem SbI.snoc {l:List P3}{s:P3}{o:O2}:SbI typ (l++[s]) o↔SbI typ l o\/(oS o=s/\o.t=typ):=by
 unfold SbI;rw[u3!,n9!];constructor
 ·rintro⟨h | h,a⟩
  ·exact .inl ⟨h,a⟩
  ·exact .inr ⟨h,a⟩
 ·rintro(⟨h,a⟩|⟨h,a⟩)
  ·exact⟨.inl h,a⟩
  ·exact⟨.inr h,a⟩
theorem oU! {s:P3}{o:O2}(hr:s.r=⟨#[]⟩):oS o=s↔o=s.obj:=by
 obtain⟨a,b,c⟩:=s;obtain⟨x,y⟩:=o;dsimp only at hr;subst hr;simp[oS,P3.obj]
theorem oS_nr {s:P3}{o:O2}(hr:s.r≠⟨#[]⟩):oS o≠s:=fun e=>hr (by rw[<-e];rfl)
def Kno (typ:ByteArray)(all:List O2)(f:FT):Prop:=∀s∈f.ths,s.r=⟨#[]⟩->s.t=typ->s.obj∈all
theorem Kno.part {f g:FT}(h:Kno typ all f)(hg:g∈f.ps):Kno typ all g:=fun s hs=>h s (by rw[FT.ths_eq];exact List.mem_append_right _ (bv!.2 ⟨g,hg,hs⟩))
theorem iy! {s:P3}{subs:List P3}{refs:List Int}{ps:List FT}(h:s∈subs):s∈(FT.mk 1 subs refs ps).ths:=by
 rw[FT.ths_eq];exact List.mem_append_left _ (show s∈(if (1:Int)=1 then subs else [])from by simpa using h)
theorem iE! (a b:ByteArray):(a.toList == b.toList)=decide (a=b):=by
 by_cases h:a=b
 ·subst h;simp
 ·rw[v3! h,n7!];exact fun e=>h ((bc! a b).1 e)
end
section
variable {sp ma : Nat} {pv fv iv : Value} {typ : ByteArray} {ms : List Nat} {L : List (List O2)} {all : List O2}
theorem lP! (hL:∀l∈L,∀o∈l,o∈all)(ht:∀o∈all,o.t=typ)(f:FT):∀(v:FV3)(w:World),LkS w sp pv fv typ iv ms ma L all->FTAt (· < w.heap.size) w f v->Kno typ all f ->
  Calls prog 180 #[.pointer (some ⟨sp,0,none⟩),fV f v] w fun e w'=>∃b A,e= .returned (.map (some b))/\w.heap.size<=b/\OS w' b A/\(∀o,o∈A↔InF all L f o)/\Ext w w':=by
 induction f using FT.ind with
 | h f ih =>
 intro v w hS h hkn;obtain⟨a1,c1,a2,c2,a4,c4,rfl⟩:=h.shape;obtain⟨k,subs,refs,a⟩:=f;have ax:=h! ih;have a3:=h! hS;have H0:=h! h;have HK:=h! hkn;have aK:=h! hL;have HT:=h! ht;clear ih hS hkn hL ht;unfold fV;dsimp only[FT.k,FT.subs,FT.refs,FT.ps]at ax h H0 ⊢;obtain⟨wa,m⟩:=e! (w.alloc (.cells #[.int .i64 k,.slice a1 subs.length c1,.slice a2 refs.length c2,.slice a4 a.length c4] 128));have XA:=h! (show Ext w wa from xa! m);have BA:=h! (show Blk wa w.heap.size #[.int .i64 k,.slice a1 subs.length c1,.slice a2 refs.length c2,.slice a4 a.length c4] 128 from bm! m);have H1:=h! (h.up XA.out);have HS:=h! (a3.out.ext XA.out);clear h;obtain⟨wb,p⟩:=e! (wa.alloc (.map #[] 0));have XB:=h! (show Ext wa wb from xa! p);have ab:=h! (show OS wb (w.heap.size+1) []from by rw[p,show w.heap.size+1=wa.heap.size from by rw[m];simp];exact Mp.made wa);have BB:=h! (BA.out.below XB.out);have a0:=h! (HS.out.ext XB.out);have am:=h! (H1.out.up XB.out);have a8:=BB.out.cells;have al:=@run_makeMap prog;go_enter func180,ntmps180
 rw[p,m]at a8;by_cases e1:k=1
 ·subst e1;have F:=h! (gM! a0.out refs (.slice a2 refs.length c2) ((FTAt.iff _ _).1 am.out).2.1);have z:Hid (Ext w wb):=h! (XA.out.trans XB.out);rw[p,m]at F;go_wp2_with fail
  rw[<-m,<-p];rw[<-m,<-p]at F;clear a8 al;refine F.out.mono ?_;rintro e w3 ⟨mb,A,rfl,hb,hA,hm,hx⟩;have ak:=h! hA;have aC:=h! hm;have HB:Hid (w.heap.size<=mb):=h! (n6! z.out.size hb);have af:=h! (z.out.trans hx);have Q:=(BB.out.below hx).cells;obtain⟨_,_,_,aO,aP,aN,aF,-⟩:=((FTAt.iff _ _).1 H0.out).1;cases aO;have aL:=h! (show subs.length<=9223372036854775807 from by unfold maxLen at aF;omega);clear aP aN aF hA hm hb hx F m p XA XB BA H1 HS BB a0 am ab z;go_wp2_with fail
  clear Q;go_loopw [24] (fun iv wr=>∃(i:Nat) (A':List O2),i<=subs.length/\iv= .int .i64 i/\OS wr mb A'/\(∀o,o∈A'↔o∈A\/SbI typ (subs.take i) o)/\Ext w wr) (fun iv _=>subs.length-(intOf iv).toNat)
  case atStart=>exact⟨0,A,v1! _,rfl,ak.out,(fun o=>by simp[SbI]),af.out⟩
  case round =>
   obtain⟨i,A',hi,rfl,M,K,N⟩:=hrel;have HA:=h! M;have HM:=h! K;have HX:=h! N;clear M K N ak;by_cases hlt:i<subs.length
   ·have C:=h! hlt;have V:=h! (n2! hlt);have aI:=n5! hlt;have aG:=h! (fun(h1:subs[i].r=⟨#[]⟩) (h2:subs[i].t=typ)=>HK.out subs[i] (iy! aI) h1 h2);obtain⟨aT,aS,aQ,-,aR,q⟩:=Sl.rows aj! (by decide) (show Sl _ w 3 (.slice a1 subs.length c1) (subs.flatMap pC)from((FTAt.iff _ _).1 H0.out).1);cases aQ;obtain⟨b,aA,rfl,hb,q⟩:=q (by omega);have aj:=fun j u hj=>Ext.cell HX.out (q i hlt j u hj);have D:=h! (show wrap64 ((i:Int)+1)=((i+1:Nat):Int)from by have:=aL.out;unfold wrap64;omega);have aJ:(i:Int)<(subs.length:Int):=by omega
    clear q hb aI;generalize subs[i]=s at *;clear hlt;obtain⟨st,si,sr⟩:=s;dsimp only at aG;have d0:wr.cell? ⟨b,aA+i*3,none⟩=some (.string st):=aj 0 _ rfl;have d1:wr.cell? ⟨b,aA+i*3+1,none⟩=some (.string si):=aj 1 _ rfl;have d2:wr.cell? ⟨b,aA+i*3+2,none⟩=some (.string sr):=aj 2 _ rfl;clear aj;have X4:=h! (Ext.alloc wr (.cells #[.string st,.string si,.string sr] 33));have BS:=h! (Blk.made wr #[.string st,.string si,.string sr] 33);have ar:=h! ((a3.out.ext HX.out).ext X4.out);have aH:=h! (HA.out.below X4.out);go_wp2_with fail
    obtain⟨w4,aD⟩:=e! (wr.alloc (.cells #[.string st,.string si,.string sr] 33));rw[<-aD]at X4 BS ar aH ⊢;clear aD d0 d1 d2;obtain⟨wd,aw⟩:∃wd,Hid (wd=w4.drew):=⟨_,h! rfl⟩;have Y:=h! (show Ext w4 wd from xd! aw.out);have XD:Hid (Ext wr wd):=h! (X4.out.trans Y.out);have hs:=fun W (h:Ext wd W)=>(BS.out.below (Ext.trans Y.out h)).cells;have hq:=fun W (h:Ext wd W)=>(ar.out.box.below (Ext.trans Y.out h)).cells;have Z:OS wd mb A':=aH.out.below Y.out;have ap:=(BS.out.below Y.out).cells;refine re! aw.out ?_;clear aw Y;have an:=bt! sr;by_cases hr:sr=⟨#[]⟩
    rotate_left
    ·have HN:=h! (show ∀o,o∈A'↔o∈A\/SbI typ (subs.take (i+1)) o from fun o=>by
      rw[V.out,SbI.snoc,HM.out o];exact⟨fun h=>h.imp id .inl,fun h=>h.imp id fun h=>h.elim id fun h=>absurd h.1 (oS_nr hr)⟩)
     rw[v3! hr]at an;clear hr;(refine WalkN.tk [0,1,2,3] ?_;(iterate 4 (refine c! ?_));refine TkN.n ?_)
     refine k! 4 ?_;refine k! 5 ?_;refine k! 6 ?_;refine k! 7 ?_;refine k! 8 ?_;refine k! 9 ?_;refine k! 10 ?_;refine k! 11 ?_
     refine t! 12 ?_
     refine d! ?_;have J:=h! Z;clear hs hq an ap Z;go_wp2_with fail
     go_roundw
     case rel=>exact⟨i+1,A',C.out,by first | rw[D.out] | go_num,J.out,HN.out,Ext.trans HX.out XD.out⟩
     case measure=>have:=C.out;(try rw[D.out]);simp[intOf];omega
    subst hr;have G:=iE! st typ;by_cases ht:st=typ
    rotate_left
    ·have HN:=h! (show ∀o,o∈A'↔o∈A\/SbI typ (subs.take (i+1)) o from fun o=>by
      rw[V.out,SbI.snoc,HM.out o];exact⟨fun h=>h.imp id .inl,fun h=>h.imp id fun h=>h.elim id fun h=>absurd ((congrArg P3.t h.1).symm.trans h.2) ht⟩)
     rw[v3! ht]at G;clear ht;(refine WalkN.tk [0,1,2,3,4,5,6,7,8,9,10,11,12] ?_;(iterate 13 (refine c! ?_));refine TkN.n ?_)
     refine d! ?_;have J:=h! Z;clear hs hq an ap G Z;go_wp2_with fail
     go_roundw
     case rel=>exact⟨i+1,A',C.out,by first | rw[D.out] | go_num,J.out,HN.out,Ext.trans HX.out XD.out⟩
     case measure=>have:=C.out;(try rw[D.out]);simp[intOf];omega
    subst ht;rw[v2! rfl]at G;have E:=ar.out.alls.key (aG.out rfl rfl)
    have HN:=h! (show ∀o,o∈(if (⟨st,si⟩:O2)∈A' then A' else A'++[⟨st,si⟩])↔o∈A\/SbI st (subs.take (i+1)) o from fun o=>by
     rw[fY!,V.out,SbI.snoc,HM.out o,oU! rfl,or_assoc];exact⟨fun h=>h.imp id fun h=>h.imp id fun h=>⟨h,by rw[h];rfl⟩,fun h=>h.imp id fun h=>h.imp id fun h=>h.1⟩)
    (refine WalkN.tk [0,1,2,3,4,5,6,7,8,9,10,11,12] ?_;(iterate 13 (refine c! ?_));refine TkN.n ?_)
    refine d! ?_;clear hs hq an G;unfold P3.obj at E;dsimp only at E;go_wp2_with (at_mapUpdate;go_must (refine bS! (kv:=oV) (ev:=bV) _ rfl _ _ _ 210 rfl objK hS! Tryz.underlying210 rfl Z (y:=⟨st,si⟩) rfl E (u:=true) rfl ?_);intro w5 hM5 hT5)
    rw[fZ!]at hM5;have O:=h! hM5;have R:Hid (Ext w w5):=h! (Below.trans (show Below w.heap.size w wd from Ext.trans HX.out XD.out) (hT5.below HB.out));clear hM5 hT5 Z E ap;go_roundw
    case rel=>exact⟨i+1,_,C.out,by first | rw[D.out] | go_num,O.out,HN.out,R.out⟩
    case measure=>have:=C.out;(try rw[D.out]);simp[intOf];omega
   ·obtain rfl:i=subs.length:=by omega
    rw[u2!]at HM
    have HF:=h! (show ∀o,o∈A'↔InF all L (.mk 1 subs refs a) o from fun o=>by
     rw[HM.out o,aC.out o,InF.this2 (o:=o) HT.out aK.out (fun h1 h2=>show o∈all from HK.out (oS o) (iy! h1) rfl h2)];rfl)
    go_wp2_with fail
    go_ret
    exact⟨mb,A',rfl,HB.out,HA.out,HF.out,HX.out⟩
 by_cases e2:k=2\/k=3
 ·have F:=h! (gM! a0.out refs (.slice a2 refs.length c2) ((FTAt.iff _ _).1 am.out).2.1);have z:Hid (Ext w wb):=h! (XA.out.trans XB.out);rw[p,m]at F;rcases e2 with rfl | rfl
  all_goals
   go_wp2_with fail
   rw[<-m,<-p];rw[<-m,<-p]at F;clear a8 al m p;refine F.out.mono ?_;rintro e w3 ⟨b,A,rfl,hb,hA,hm,hx⟩;have HA:=h! hA;have HM:=h! (show ∀o,o∈A↔InF all L (.mk _ subs refs a) o from fun o=>by rw[hm o,InF.named aK.out (by first | exact .inl rfl | exact .inr rfl)];rfl);have HB:Hid (w.heap.size<=b):=h! (n6! z.out.size hb);have af:=h! (z.out.trans hx);clear hA hm hb hx F;go_wp2_with fail
   go_ret
   exact⟨b,A,rfl,HB.out,HA.out,HM.out,af.out⟩
 have ao:=h! e2;have g2:(k == 2)=false:=by simpa using fun e=>e2 (.inl e)
 have g3:(k == 3)=false:=by simpa using fun e=>e2 (.inr e)
 by_cases e4:k=4
 ·subst e4;have z:Hid (Ext w wb):=h! (XA.out.trans XB.out);clear g2 g3 e1 e2;go_wp2_with fail
  rw[<-m,<-p];clear a8 al m p ao;go_loopw [57] (fun iv wr=>∃(i:Nat) (A':List O2),i<=a.length/\iv= .int .i64 i/\OS wr (w.heap.size+1) A'/\(∀o,o∈A'↔∃g∈a.take i,InF all L g o)/\Ext w wr) (fun iv _=>a.length-(intOf iv).toNat)
  case atStart=>exact⟨0,[],v1! _,rfl,ab.out,(fun o=>by simp),z.out⟩
  case round =>
   obtain⟨i,A',hi,rfl,M,K,N⟩:=hrel;have HA:=h! M;have HM:=h! K;have HX:=h! N;clear M K N;by_cases hlt:i<a.length
   ·have C:=h! hlt;have V:=h! (n2! hlt);obtain⟨aM,g1,aa,ac,ah,X⟩:=H0.out.rows;dsimp only[FT.ps]at aa ac ah X;cases aa;obtain⟨p1,q1,u,rfl,aB,e0,e1,e2,e3,hu⟩:=X i hlt;have a7:=h! (ax.out a[i] (n5! hlt));have ad:Hid (Kno typ all a[i]):=h! (Kno.part HK.out (n5! hlt));have D:=h! (show wrap64 ((i:Int)+1)=((i+1:Nat):Int)from by unfold wrap64;omega);have aJ:(i:Int)<(a.length:Int):=by omega
    generalize a[i]=x at *;obtain⟨l1,m1,l2,m2,l4,m4,rfl⟩:=hu.shape;have d0:=Ext.cell HX.out e0;have d1:=Ext.cell HX.out e1;have d2:=Ext.cell HX.out e2;have d3:=Ext.cell HX.out e3;dsimp only at d1 d2 d3;have X1:=h! (Ext.alloc wr (.cells #[.int .i64 x.k,.slice l1 x.subs.length m1,.slice l2 x.refs.length m2,.slice l4 x.ps.length m4] 128));have XX:Hid (Ext w (wr.alloc (.cells #[.int .i64 x.k,.slice l1 x.subs.length m1,.slice l2 x.refs.length m2,.slice l4 x.ps.length m4] 128))):=h! (Ext.trans HX.out X1.out);have H:=h! (a7.out _ _ (a3.out.ext XX.out) (hu.up XX.out) ad.out);have U:=h! (HA.out.below X1.out);unfold fV at H;dsimp only at H;have aq:=(Blk.made wr #[.int .i64 x.k,.slice l1 x.subs.length m1,.slice l2 x.refs.length m2,.slice l4 x.ps.length m4] 128).cells;clear hlt X hu aB ac ah e0 e1 e2 e3;go_wp2_with fail
    refine H.out.mono ?_;rintro e w5 ⟨b2,A2,rfl,az,a6,ae,T⟩;have O:=h! (U.out.below T);have R:Hid (Ext w w5):=h! (Ext.trans XX.out T);have J:=h! (eX! (w.heap.size+1) b2 A' A2 w5 O.out a6 (fun e=>by have h1:=U.out.lt;omega))
    have a5:=h! (show ∀o,(o∈A'\/o∈A2)↔∃g∈a.take (i+1),InF all L g o from fun o=>by
     rw[HM.out o,V.out,ae o];simp only[u3!,n9!];constructor
     ·rintro(⟨g,hg,h⟩ | h)
      ·exact⟨g,.inl hg,h⟩
      ·exact⟨_,.inr rfl,h⟩
     ·rintro⟨g,hg | rfl,h⟩
      ·exact .inl ⟨g,hg,h⟩
      ·exact .inr h)
    clear az a6 ae T H d0 d1 d2 d3 aq U O a7 ad;go_wp2_with fail
    refine J.out.mono ?_;rintro e w6 ⟨rfl,⟨A3,ai,a9⟩,ag⟩;have ay:=h! ai;have av:=h! (fun o=>(a9 o).trans (a5.out o));have au:Hid (Ext w w6):=h! (Below.trans (show Below w.heap.size w w5 from R.out) (Kept.below (B:=w.heap.size) ag fun b hb=>⟨n1! hb R.out.size,fun e=>by omega⟩));clear ai a9 ag J a5;go_wp2_with fail
    go_roundw
    case rel=>exact⟨i+1,A3,C.out,by first | rw[D.out] | go_num,ay.out,av.out,au.out⟩
    case measure=>have:=C.out;(try rw[D.out]);simp[intOf];omega
   ·obtain rfl:i=a.length:=by omega
    rw[u2!]at HM;go_wp2_with fail
    go_ret
    exact⟨w.heap.size+1,A',rfl,by omega,HA.out,fun o=>by rw[HM.out o];exact InF.some.symm,HX.out⟩
 by_cases e5:k=5
 ·subst e5;have g1:(5 == (1:Int))=false:=rfl;have z:Hid (Ext w wb):=h! (XA.out.trans XB.out);have I:=h! (eX! (w.heap.size+1) ma [] all wb ab.out a0.out.alls (fun e=>by have:=a3.out.alls.lt;omega));have aE:=a0.out.box.cells;rw[p,m]at aE I;clear g2 g3 e1 e2 e4;go_wp2_with fail
  rw[<-m,<-p];rw[<-m,<-p]at I;clear aE a8 al;refine I.out.mono ?_;rintro e w3 ⟨rfl,⟨A,hA,hm⟩,hk⟩;have ak:=h! hA;have aC:=h! (show ∀o,o∈A↔o∈all from fun o=>by rw[hm o];simp);have af:Hid (Ext w w3):=h! (Below.trans (show Below w.heap.size w wb from z.out) (Kept.below (B:=w.heap.size) hk fun b hb=>⟨n1! hb z.out.size,fun e=>by omega⟩));have Q:=(show Blk w3 w.heap.size _ _ from(hk.block _ ⟨BB.out.lt,by omega⟩).trans BB.out).cells;clear hA hm hk I m p ao ab BB a0 am z XA XB BA H1 HS;go_wp2_with fail
  clear Q;go_loopw [78] (fun iv wr=>∃(i:Nat) (A':List O2),i<=a.length/\iv= .int .i64 i/\OS wr (w.heap.size+1) A'/\(∀o,o∈A'↔o∈all/\∀g∈a.take i,InF all L g o)/\Ext w wr) (fun iv _=>a.length-(intOf iv).toNat)
  case atStart=>exact⟨0,A,v1! _,rfl,ak.out,(fun o=>by rw[aC.out o];simp),af.out⟩
  case round =>
   obtain⟨i,A',hi,rfl,M,K,N⟩:=hrel;have HA:=h! M;have HM:=h! K;have HX:=h! N;clear M K N;by_cases hlt:i<a.length
   ·have C:=h! hlt;have V:=h! (n2! hlt);obtain⟨aM,g1,aa,ac,ah,X⟩:=H0.out.rows;dsimp only[FT.ps]at aa ac ah X;cases aa;obtain⟨p1,q1,u,rfl,aB,e0,e1,e2,e3,hu⟩:=X i hlt;have a7:=h! (ax.out a[i] (n5! hlt));have ad:Hid (Kno typ all a[i]):=h! (Kno.part HK.out (n5! hlt));have D:=h! (show wrap64 ((i:Int)+1)=((i+1:Nat):Int)from by unfold wrap64;omega);have aJ:(i:Int)<(a.length:Int):=by omega
    generalize a[i]=x at *;obtain⟨l1,m1,l2,m2,l4,m4,rfl⟩:=hu.shape;have d0:=Ext.cell HX.out e0;have d1:=Ext.cell HX.out e1;have d2:=Ext.cell HX.out e2;have d3:=Ext.cell HX.out e3;dsimp only at d1 d2 d3;have X1:=h! (Ext.alloc wr (.cells #[.int .i64 x.k,.slice l1 x.subs.length m1,.slice l2 x.refs.length m2,.slice l4 x.ps.length m4] 128));have XX:Hid (Ext w (wr.alloc (.cells #[.int .i64 x.k,.slice l1 x.subs.length m1,.slice l2 x.refs.length m2,.slice l4 x.ps.length m4] 128))):=h! (Ext.trans HX.out X1.out);have H:=h! (a7.out _ _ (a3.out.ext XX.out) (hu.up XX.out) ad.out);have U:=h! (HA.out.below X1.out);unfold fV at H;dsimp only at H;have aq:=(Blk.made wr #[.int .i64 x.k,.slice l1 x.subs.length m1,.slice l2 x.refs.length m2,.slice l4 x.ps.length m4] 128).cells;clear hlt X hu aB ac ah e0 e1 e2 e3;go_wp2_with fail
    refine H.out.mono ?_;rintro e w5 ⟨b2,A2,rfl,az,a6,ae,T⟩;have O:=h! (U.out.below T);have R:Hid (Ext w w5):=h! (Ext.trans XX.out T);have J:=h! (lD! (w.heap.size+1) b2 A' A2 w5 O.out a6 (fun e=>by have h1:=U.out.lt;omega))
    have a5:=h! (show ∀o,(o∈A'/\o∈A2)↔o∈all/\∀g∈a.take (i+1),InF all L g o from fun o=>by
     rw[HM.out o,V.out,ae o];simp only[u3!,n9!];constructor
     ·rintro⟨⟨h0,h1⟩,h2⟩;exact⟨h0,fun g hg=>hg.elim (h1 g) fun e=>e▸h2⟩
     ·rintro⟨h0,h1⟩;exact⟨⟨h0,fun g hg=>h1 g (.inl hg)⟩,h1 _ (.inr rfl)⟩)
    clear az a6 ae T H d0 d1 d2 d3 aq U O a7 ad;go_wp2_with fail
    refine J.out.mono ?_;rintro e w6 ⟨rfl,⟨A3,ai,a9⟩,ag⟩;have ay:=h! ai;have av:=h! (fun o=>(a9 o).trans (a5.out o));have au:Hid (Ext w w6):=h! (Below.trans (show Below w.heap.size w w5 from R.out) (Kept.below (B:=w.heap.size) ag fun b hb=>⟨n1! hb R.out.size,fun e=>by omega⟩));clear ai a9 ag J a5;go_wp2_with fail
    go_roundw
    case rel=>exact⟨i+1,A3,C.out,by first | rw[D.out] | go_num,ay.out,av.out,au.out⟩
    case measure=>have:=C.out;(try rw[D.out]);simp[intOf];omega
   ·obtain rfl:i=a.length:=by omega
    rw[u2!]at HM;go_wp2_with fail
    go_ret
    exact⟨w.heap.size+1,A',rfl,by omega,HA.out,fun o=>by rw[HM.out o];exact InF.every.symm,HX.out⟩
 ·have g1:(k == 1)=false:=by simpa using e1
  have g4:(k == 4)=false:=by simpa using e4
  have g5:(k == 5)=false:=by simpa using e5
  have HN:Hid (∀o,¬ InF all L (.mk k subs refs a) o):=h! (fun o=>InF.none e1 (fun e=>ao.out (.inl e)) (fun e=>ao.out (.inr e)) e4 e5);have z:Hid (Ext w wb):=h! (XA.out.trans XB.out);clear e1 e2 e4 e5;go_wp2_with fail
  rw[<-m,<-p];go_ret
  exact⟨_,[],rfl,by omega,ab.out,fun o=>⟨fun h=>(by cases h),fun h=>absurd h (HN.out o)⟩,z.out⟩
end
theorem cL!:∀(a b:List FT),thsL (a++b)=thsL a++thsL b
 | [],_=>rfl
 | x::a,b=>by rw[x2!,thsL,thsL,cL! a b,y6!]
theorem ny! {typ:ByteArray}{k:Int}{all all':List O2}{l:List P3}{s:P3}(hm:∀o,o∈all'↔o∈all\/(k=1/\SbI typ l o))(hs:¬ (k=1/\s.r=⟨#[]⟩/\s.t=typ)):∀o,o∈all'↔o∈all\/(k=1/\SbI typ (l++[s]) o):=fun o=>by
 rw[hm o,SbI.snoc];refine or_congr Iff.rfl (and_congr_right fun h1=>⟨.inl,fun h=>h.elim id fun h=>absurd ⟨h1,?_,(congrArg P3.t h.1).symm.trans h.2⟩ hs⟩);rw[<-h.1];rfl
section
variable {sp ma lo : Nat} {pv fv iv : Value} {typ : ByteArray} {ms : List Nat} {L : List (List O2)}
theorem jv! (hlo:lo<=ma)(f:FT):∀(v:FV3)(all:List O2)(w:World),LkS w sp pv fv typ iv ms ma L all->FTAt (· < lo) w f v->lo<=w.heap.size->(∀s∈f.ths,s.Ok) ->
  Calls prog 178 #[.pointer (some ⟨sp,0,none⟩),fV f v] w fun e w'=>e= .returned (.tuple #[])/\(∃all',LkS w' sp pv fv typ iv ms ma L all'/\∀o,o∈all'↔o∈all\/SbI typ f.ths o)/\Tk ma w w':=by
 induction f using FT.ind with
 | h f ih =>
 intro v all w hS h hlw hok;obtain⟨a1,c1,a2,c2,a4,c4,rfl⟩:=h.shape;obtain⟨k,subs,refs,a⟩:=f;have aq:=h! ih;have ae:=h! hS;have H0:=h! h;have ai:=h! hok;have B:=h! hlo;have z:=h! hlw;clear ih hS hok hlo hlw;unfold fV;dsimp only[FT.k,FT.subs,FT.refs,FT.ps]at aq h H0 ⊢;obtain⟨wa,M⟩:=e! (w.alloc (.cells #[.int .i64 k,.slice a1 subs.length c1,.slice a2 refs.length c2,.slice a4 a.length c4] 128));have XA:=h! (show Ext w wa from xa! M);have BA:=h! (show Blk wa w.heap.size #[.int .i64 k,.slice a1 subs.length c1,.slice a2 refs.length c2,.slice a4 a.length c4] 128 from bm! M);have HS:=h! (ae.out.ext XA.out);obtain⟨_,_,_,aK,aL,aJ,ak,-⟩:=((FTAt.iff _ _).1 H0.out).1;cases aK;have aD:=h! (show subs.length<=9223372036854775807 from by unfold maxLen at ak;omega);have ah:=h! (show w.heap.size≠ma from fun e=>by have:=ae.out.alls.lt;omega);have R:=BA.out.cells;clear h aL aJ ak;go_enter func178,ntmps178
 rw[M]at R;go_wp2_with fail
 rw[<-M];clear R M;go_loopw [11] (fun jv wr=>∃(i:Nat) (all':List O2),i<=subs.length/\jv= .int .i64 i/\LkS wr sp pv fv typ iv ms ma L all'/\(∀o,o∈all'↔o∈all\/(k=1/\SbI typ (subs.take i) o))/\Tk ma wa wr) (fun iv _=>subs.length-(intOf iv).toNat)
 case atStart=>exact⟨0,all,v1! _,rfl,HS.out,(fun o=>by simp[SbI]),Tk.refl _ _⟩
 case round =>
  obtain⟨i,all',hi,rfl,ao,aj,aB⟩:=hrel;have T:=h! ao;have HM:=h! aj;have HK:=h! aB;have ad:Hid (Tk ma w wr):=h! ((Tk.of XA.out).next HK.out);clear ao aj aB HS;by_cases hlt:i<subs.length
  ·have l:=h! hlt;have C:=h! (n2! hlt);have av:=n5! hlt;have a9:=h! (fun(h1:k=1)=>ai.out subs[i] (by subst h1;exact iy! av));have X:=h! (fun(hs:¬ (k=1/\subs[i].r=⟨#[]⟩/\subs[i].t=typ))=>ny! HM.out hs);obtain⟨aW,aV,aO,-,aT,g⟩:=Sl.rows aj! (by decide) (show Sl _ w 3 (.slice a1 subs.length c1) (subs.flatMap pC)from((FTAt.iff _ _).1 H0.out).1);cases aO;obtain⟨b,a5,rfl,hb,g⟩:=g (by omega)
   have O:∀j u,(pC subs[i])[j]?=some u->wr.cell? ⟨b,a5+i*3+j,none⟩=some u:=fun j u hj=>by
    have h1:=g i hlt j u hj;have h2:=ad.out.block b ⟨n1! hb z.out,fun e=>by have:=B.out;omega⟩;rw[<-h1];exact World.cell?_of_block h2
   have m:=h! (show wrap64 ((i:Int)+1)=((i+1:Nat):Int)from by have:=aD.out;unfold wrap64;omega);have aS:(i:Int)<(subs.length:Int):=by omega
   clear g hb av;generalize subs[i]=s at *;clear hlt;obtain⟨st,si,sr⟩:=s;dsimp only at a9 X;have d0:wr.cell? ⟨b,a5+i*3,none⟩=some (.string st):=O 0 _ rfl;have d1:wr.cell? ⟨b,a5+i*3+1,none⟩=some (.string si):=O 1 _ rfl;have d2:wr.cell? ⟨b,a5+i*3+2,none⟩=some (.string sr):=O 2 _ rfl;clear O;have X4:=h! (Ext.alloc wr (.cells #[.string st,.string si,.string sr] 33));have BS:=h! (Blk.made wr #[.string st,.string si,.string sr] 33);have a8:=h! (T.out.ext X4.out);have BF:=h! ((HK.out.box BA.out ah.out).below X4.out);go_wp2_with fail
   obtain⟨w4,E⟩:=e! (wr.alloc (.cells #[.string st,.string si,.string sr] 33));rw[<-E]at X4 BS a8 BF ⊢;clear E d0 d1 d2;obtain⟨wd,ab⟩:∃wd,Hid (wd=w4.drew):=⟨_,h! rfl⟩;have q:=h! (show Ext w4 wd from xd! ab.out);have XD:Hid (Ext wr wd):=h! (X4.out.trans q.out);have hs:=fun W (h:Ext wd W)=>(BS.out.below (Ext.trans q.out h)).cells;have hq:=fun W (h:Ext wd W)=>(a8.out.box.below (Ext.trans q.out h)).cells;have hf:=fun W (h:Ext wd W)=>(BF.out.below (Ext.trans q.out h)).cells;have a3:=h! (a8.out.ext q.out);have aI:=h! (BS.out.below q.out);have Y:Hid (Tk ma wa wd):=h! (HK.out.next (Tk.of XD.out));refine re! ab.out ?_;clear ab q;by_cases hk1:k=1
   rotate_left
   ·have HN:=h! (X.out fun h=>hk1 h.1);have H:(k == 1)=false:=by simpa using hk1
    clear hk1;(refine WalkN.tk [0,1,2,3] ?_;(iterate 4 (refine c! ?_));refine TkN.n ?_)
    refine k! 4 ?_;refine k! 5 ?_;refine k! 6 ?_
    (refine WalkN.tk [7,8] ?_;(iterate 2 (refine c! ?_));refine TkN.n ?_)
    refine k! 9 ?_;refine k! 10 ?_;refine k! 11 ?_;refine k! 12 ?_;refine k! 13 ?_;refine k! 14 ?_;refine k! 15 ?_;refine k! 16 ?_
    refine t! 17 ?_
    refine d! ?_;clear hs hq hf H;go_wp2_with fail
    go_roundw
    case rel=>exact⟨i+1,all',l.out,by first | rw[m.out] | go_num,a3.out,by rw[C.out];exact HN.out,Y.out⟩
    case measure=>have:=l.out;(try rw[m.out]);simp[intOf];omega
   have a7:=h! hk1;have H:(k == 1)=true:=by simpa using hk1
   clear hk1;have a0:=bt! sr;by_cases hr:sr=⟨#[]⟩
   rotate_left
   ·have HN:=h! (X.out fun h=>hr h.2.1);rw[v3! hr]at a0;clear hr;(refine WalkN.tk [0,1,2,3,4,5,6,7,8] ?_;(iterate 9 (refine c! ?_));refine TkN.n ?_)
    refine k! 9 ?_;refine k! 10 ?_;refine k! 11 ?_;refine k! 12 ?_;refine k! 13 ?_;refine k! 14 ?_;refine k! 15 ?_;refine k! 16 ?_
    refine t! 17 ?_
    refine d! ?_;clear hs hq hf H a0;go_wp2_with fail
    go_roundw
    case rel=>exact⟨i+1,all',l.out,by first | rw[m.out] | go_num,a3.out,by rw[C.out];exact HN.out,Y.out⟩
    case measure=>have:=l.out;(try rw[m.out]);simp[intOf];omega
   subst hr;have p:=iE! st typ;by_cases ht:st=typ
   rotate_left
   ·have HN:=h! (X.out fun h=>ht h.2.2);rw[v3! ht]at p;clear ht;(refine WalkN.tk [0,1,2,3,4,5,6,7,8,9,10,11,12,13,14,15,16,17] ?_;(iterate 18 (refine c! ?_));refine TkN.n ?_)
    refine d! ?_;clear hs hq hf H a0 p;go_wp2_with fail
    go_roundw
    case rel=>exact⟨i+1,all',l.out,by first | rw[m.out] | go_num,a3.out,by rw[C.out];exact HN.out,Y.out⟩
    case measure=>have:=l.out;(try rw[m.out]);simp[intOf];omega
   subst ht;rw[v2! rfl]at p;have D:=mx! ⟨st,si⟩ ⟨(a9.out a7.out).1,(a9.out a7.out).2.1⟩
   have HN:=h! (show ∀o,o∈(if (⟨st,si⟩:O2)∈all' then all' else all'++[⟨st,si⟩])↔o∈all\/(k=1/\SbI st (subs.take (i+1)) o)from fun o=>by
    rw[fY!,C.out,SbI.snoc,HM.out o,oU! rfl,or_assoc];refine or_congr Iff.rfl ⟨fun h=>⟨a7.out,h.elim (fun h => .inl h.2) fun h => .inr ⟨h,by rw[h]⟩⟩,fun h=>h.2.elim (fun h2 => .inl ⟨h.1,h2⟩) fun h2 => .inr h2.1⟩)
   (refine WalkN.tk [0,1,2,3,4,5,6,7,8,9,10,11,12,13,14,15,16,17] ?_;(iterate 18 (refine c! ?_));refine TkN.n ?_)
   refine d! ?_;clear hs hq hf H a0 p;go_wp2_with fail
   obtain⟨we,U⟩:∃we,Hid (we=wd.drew):=⟨_,h! rfl⟩;have Q:=h! (show Ext wd we from xd! U.out);have V:=h! (a3.out.ext Q.out);have aQ:=h! (aI.out.below Q.out);have aP:=h! (show wr.heap.size≠ma from fun e=>by have:=T.out.alls.lt;omega);have aR:Hid (Tk ma wa we):=h! (Y.out.next (Tk.of Q.out));refine r! (fun W=>Tk ma we W) (by rw[<-U.out];exact Tk.refl _ _) ?_;rw[<-U.out];clear U Q;have hs:=fun W (h:Tk ma we W)=>(h.box aQ.out aP.out).cells;have hq:=fun W (h:Tk ma we W)=>(h.box V.out.box V.out.spNe).cells;(refine WalkN.tk [0,1,2,3,4,5] ?_;(iterate 6 (refine c! ?_));refine TkN.n ?_)
   clear hs hq;refine ob! 6 ?_;intro K hK;refine hr! (kv:=oV) (ev:=bV) _ _ _ 210 rfl objK hS! Tryz.underlying210 rfl V.out.alls (y:=⟨st,si⟩) rfl D (u:=true) rfl ?_;intro w6 hm6 ht6;refine hK.out _ _ (Tk.turned ht6) ?_;clear hK;simp only[Act.put];refine d! ?_;rw[fZ!]at hm6;have aE:=h! (V.out.setAll (Tk.turned ht6) hm6);have aN:=h! (aR.out.next (Tk.turned ht6));clear hm6 ht6 D;go_wp2_with fail
   go_roundw
   case rel=>exact⟨i+1,_,l.out,by first | rw[m.out] | go_num,aE.out,HN.out,aN.out⟩
   case measure=>have:=l.out;(try rw[m.out]);simp[intOf];omega
  ·obtain rfl:i=subs.length:=by omega
   rw[u2!]at HM;have R:=(HK.out.box BA.out ah.out).cells;clear hlt hi;go_wp2_with fail
   clear R;obtain⟨w4,E⟩:=e! wr;rw[<-E]at T HK ad ⊢;clear E;go_loopw [43] (fun jv wr=>∃(i:Nat) (all2:List O2),i<=a.length/\jv= .int .i64 i/\LkS wr sp pv fv typ iv ms ma L all2/\(∀o,o∈all2↔o∈all\/(k=1/\SbI typ subs o)\/SbI typ (thsL (a.take i)) o)/\Tk ma w wr) (fun jv _=>a.length-(intOf jv).toNat)
   case atStart=>exact⟨0,all',v1! _,rfl,T.out,(fun o=>(HM.out o).trans ⟨fun h=>h.imp id .inl,fun h=>h.imp id fun h=>h.elim id fun h=>absurd h.1 (by simp[thsL])⟩),ad.out⟩
   case round =>
    obtain⟨i,all2,hi,rfl,ar,aw,aA⟩:=hrel;have al:=h! ar;have a6:=h! aw;have A:=h! aA;clear ar aw aA;by_cases hlt:i<a.length
    ·have C:=h! (show thsL (a.take (i+1))=thsL (a.take i)++a[i].ths from by rw[n2! hlt,cL!];simp[thsL]);have l:=h! hlt;obtain⟨aU,g1,an,ap,az,ac⟩:=H0.out.rows;dsimp only[FT.ps]at an ap az ac;cases an;obtain⟨p1,q1,u,rfl,N,e0,e1,e2,e3,hu⟩:=ac i hlt;have ag:=h! (aq.out a[i] (n5! hlt));have ax:=h! (show ∀s∈a[i].ths,s.Ok from fun s hs=>ai.out s (by rw[FT.ths_eq];exact List.mem_append_right _ (bv!.2 ⟨_,n5! hlt,hs⟩)));have m:=h! (show wrap64 ((i:Int)+1)=((i+1:Nat):Int)from by unfold wrap64;omega);have aS:(i:Int)<(a.length:Int):=by omega
     have af:wr.cell? ⟨p1,q1+i*4,none⟩=w.cell? ⟨p1,q1+i*4,none⟩:=World.cell?_of_block (A.out.block p1 ⟨n1! N z.out,fun e=>by have:=B.out;omega⟩);have I:wr.cell? ⟨p1,q1+i*4+1,none⟩=w.cell? ⟨p1,q1+i*4+1,none⟩:=World.cell?_of_block (A.out.block p1 ⟨n1! N z.out,fun e=>by have:=B.out;omega⟩);have J:wr.cell? ⟨p1,q1+i*4+2,none⟩=w.cell? ⟨p1,q1+i*4+2,none⟩:=World.cell?_of_block (A.out.block p1 ⟨n1! N z.out,fun e=>by have:=B.out;omega⟩);have F:wr.cell? ⟨p1,q1+i*4+3,none⟩=w.cell? ⟨p1,q1+i*4+3,none⟩:=World.cell?_of_block (A.out.block p1 ⟨n1! N z.out,fun e=>by have:=B.out;omega⟩);generalize a[i]=x at *;obtain⟨l1,m1,l2,m2,l4,m4,rfl⟩:=hu.shape;have d0:=af.trans e0;have d1:=I.trans e1;have d2:=J.trans e2;have d3:=F.trans e3;dsimp only at d1 d2 d3;have X1:=h! (Ext.alloc wr (.cells #[.int .i64 x.k,.slice l1 x.subs.length m1,.slice l2 x.refs.length m2,.slice l4 x.ps.length m4] 128));have aF:=h! (al.out.ext X1.out);have aa:Hid (Tk ma w _):=h! (A.out.next (Tk.of X1.out));have Z:=h! (ag.out _ _ _ aF.out (hu.same (w':=wr.alloc (.cells #[.int .i64 x.k,.slice l1 x.subs.length m1,.slice l2 x.refs.length m2,.slice l4 x.ps.length m4] 128)) fun b hb=>aa.out.block b ⟨n1! hb z.out,fun e=>by have:=B.out;omega⟩) (n6! z.out aa.out.size) ax.out);unfold fV at Z;dsimp only at Z;have aH:=(Blk.made wr #[.int .i64 x.k,.slice l1 x.subs.length m1,.slice l2 x.refs.length m2,.slice l4 x.ps.length m4] 128).cells;clear hlt ac hu N ap az e0 e1 e2 e3 af I J F;go_wp2_with fail
     refine Z.out.mono ?_;rintro e w5 ⟨rfl,⟨G,au,am⟩,ay⟩;have aG:=h! au
     have aC:=h! (show ∀o,o∈G↔o∈all\/(k=1/\SbI typ subs o)\/SbI typ (thsL (a.take (i+1))) o from fun o=>by
      rw[am o,a6.out o,C.out,or_assoc,or_assoc];refine or_congr Iff.rfl (or_congr Iff.rfl ?_);unfold SbI;rw[u3!,or_and_right])
     have aM:=h! (aa.out.next ay);clear au am ay Z d0 d1 d2 d3 aH ag ax;go_wp2_with fail
     go_roundw
     case rel=>exact⟨i+1,G,l.out,by first | rw[m.out] | go_num,aG.out,aC.out,aM.out⟩
     case measure=>have:=l.out;(try rw[m.out]);simp[intOf];omega
    ·obtain rfl:i=a.length:=by omega
     rw[u2!]at a6;go_wp2_with fail
     go_end0
     refine⟨rfl,⟨all2,al.out,fun o=>?_⟩,A.out⟩;rw[a6.out o,FT.ths_eq];refine or_congr Iff.rfl ?_;unfold SbI;dsimp only[FT.k,FT.subs,FT.ps];rw[u3!,or_and_right];refine or_congr ?_ Iff.rfl;by_cases h:k=1
     ·simp[h]
     ·simp[h]
end
def boC (l:List Bool):List Value:=l.map .bool
theorem aW! (l:List Bool):(boC l).length=l.length:=by simp[boC]
structure InvR (fs:List FT)(s:P3)(n r:Nat)(F:List Int)(j:Nat)(L:List Bool)(R:List Int):Prop where
 lenL:L.length=n
 lenR:R.length=n
 inn:∀i,i<n->L.getD i false=((inN fs s n r).getD i false||decide ((i:Int)∈F.take j))
 out:∀i,i<n->R.getD i 0=if (i:Int)∈F.take j then((r+1:Nat):Int)else(outN fs s n r).getD i 0
section
variable {fs : List FT} {s : P3} {n r j : Nat} {F : List Int} {L : List Bool} {R : List Int}
theorem InvR.start (fs:List FT)(s:P3)(n r:Nat)(F:List Int):InvR fs s n r F 0 (inN fs s n r) (outN fs s n r) where
 lenL:=ai! r
 lenR:=aK! r
 inn i _:=by simp
 out i _:=by simp
theorem dP! {α:Type}(l:List α)(i j:Nat)(x d:α):(l.set j x).getD i d=if i=j/\j<l.length then x else l.getD i d:=by
 rw[n8!,List.getElem?_set,n8!];by_cases h:j=i
 ·subst h;rw[if_pos rfl];split
  ·next h=>rw[if_pos ⟨rfl,h⟩];rfl
  ·next h=>rw[if_neg fun e=>h e.2,y0! (by omega)]
 ·rw[if_neg h,if_neg fun e=>h e.1.symm]
theorem InvR.step (h:InvR fs s n r F j L R)(hj:j<F.length)(h0:0<=F[j])(hn:F[j]<(n:Int)):InvR fs s n r F (j+1) (L.set F[j].toNat true) (R.set F[j].toNat ((r+1:Nat):Int)):=by
 have b:∀x,x∈F.take (j+1)↔x∈F.take j\/x=F[j]:=fun x=>by rw[n2! hj,u3!,n9!]
 have a:F[j].toNat<n:=by omega
 refine⟨by rw[List.length_set,h.lenL],by rw[List.length_set,h.lenR],fun i hi=>?_,fun i hi=>?_⟩
 ·rw[dP!,h.lenL];by_cases e:i=F[j].toNat
  ·have:(i:Int)∈F.take (j+1):=(b _).2 (.inr (by omega));rw[if_pos ⟨e,a⟩,v2! this,Bool.or_true]
  ·rw[if_neg fun h=>e h.1,h.inn i hi];congr 1
   have:¬ (i:Int)=F[j]:=by omega
   rw[decide_eq_decide,b];simp only[this,or_false]
 ·rw[dP!,h.lenR];by_cases e:i=F[j].toNat
  ·rw[if_pos ⟨e,a⟩,if_pos ((b _).2 (.inr (by omega)))]
  ·rw[if_neg fun h=>e h.1,h.out i hi];have:¬ (i:Int)=F[j]:=by omega
   have e2:(i:Int)∈F.take (j+1)↔(i:Int)∈F.take j:=by rw[b];simp only[this,or_false]
   simp only[e2]
theorem InvR.done (h:InvR fs s n r F F.length L R)(hF:∀i:Nat,i<n->((i:Int)∈F↔newS fs s (inN fs s n r) i=true)):L=inN fs s n (r+1)/\R=outN fs s n (r+1):=by
 constructor
 ·refine dT! (by rw[h.lenL,ai!]) fun i hi=>?_;rw[h.lenL]at hi;rw[h.inn i hi,bh! hi,u2!];congr 1
  rw[Bool.eq_iff_iff,u1!];exact hF i hi
 ·refine mF! (by rw[h.lenR,aK!]) fun i hi=>?_;rw[h.lenR]at hi;rw[h.out i hi,eF! hi,u2!];by_cases e:newS fs s (inN fs s n r) i=true
  ·rw[if_pos ((hF i hi).2 e),if_pos e]
  ·rw[if_neg fun hm=>e ((hF i hi).1 hm),if_neg e]
theorem mG! (hF:∀i:Nat,i<n->newS fs s (inN fs s n r) i=false):outN fs s n r=aX! fs s n:=EndS.solve hF
theorem km! {i:Nat}(hi:i<n)(h:newS fs s (inN fs s n r) i=true):cntT (inN fs s n r)<cntT (inN fs s n (r+1)) :=
 hl! (by rw[ai!,ai!]) (fun j hj e=>hd! r (by rwa[ai!]at hj) e)
  ⟨i,by rw[ai!];exact hi,by rw[<-dQ! (by rw[ai!];exact hi)];exact gh! h,by rw[bh! hi,h,Bool.or_true]⟩
theorem ko! (fs:List FT)(s:P3)(n r:Nat):cntT (inN fs s n r)<=n:=by
 have:=mJ! (inN fs s n r);rwa[ai!]at this
theorem nx! {i:Nat}(hi:i<n)(h:newS fs s (inN fs s n (r+1)) i=true):∃hf:i<fs.length,∃k:Nat,k<n/\newS fs s (inN fs s n r) k=true/\(k:Int)∈fs[i].named:=by
 have a:=gh! h;rw[dQ! (by rw[ai!];exact hi),bh! hi,Bool.or_eq_false_iff]at a;obtain⟨h1,b⟩:=a;unfold newS at h b;rw[v0!]at h;replace h:=h.2;rw[dQ! (by rw[ai!];exact hi),h1,Bool.not_false,Bool.true_and]at b;cases hf:fs[i]? with
 | none=>rw[hf]at h;cases h
 | some f =>
  rw[hf]at h b;dsimp only at h b;obtain⟨a0,a1⟩:=y3!.1 hf;refine⟨a0,?_⟩;rw[a1];refine Classical.byContradiction fun hno=>?_;rw[id! s _ (inN fs s n r) f fun k hk=>?_,b]at h
  ·cases h
  ·refine Classical.byContradiction fun hd=>hno ?_;unfold inAt at hd;by_cases h0:0<=k
   ·simp only[h0,decide_true,Bool.true_and]at hd;by_cases hkn:k.toNat<n
    ·rw[bh! hkn]at hd;refine⟨k.toNat,hkn,?_,by rwa[Int.toNat_of_nonneg h0]⟩;cases hn:newS fs s (inN fs s n r) k.toNat with
     | true=>rfl
     | false=>rw[hn,Bool.or_false]at hd;exact absurd rfl hd
    ·have e:∀q,(inN fs s n q).getD k.toNat false=false:=fun q=>by
      rw[n8!,y0! (by rw[ai!];omega)];rfl
     rw[e,e]at hd;exact absurd rfl hd
   ·simp[h0]at hd
def Wide (fs:List FT)(s:P3)(n r:Nat)(W:List Int):Prop:=∀i:Nat,i<n->newS fs s (inN fs s n r) i=true->(i:Int)∈W
def UsOf (fs:List FT)(n:Nat)(U:List (List Int)):Prop:=∀k:Nat,k<n->∀x:Int,x∈U.getD k []↔∃i:Nat,∃hf:i<fs.length,x=(i:Int)/\i<n/\(k:Int)∈fs[i].named
theorem Wide.next {U:List (List Int)}(hU:UsOf fs n U) {N:List Int}(hF:∀i:Nat,i<n->((i:Int)∈F↔newS fs s (inN fs s n r) i=true))(hN:∀x,x∈N↔∃k∈F,x∈U.getD k.toNat []):Wide fs s n (r+1) N:=fun i hi h=>by
 obtain⟨hf,k,hk,hn,hm⟩:=nx! hi h;exact(hN _).2 ⟨(k:Int),(hF k hk).2 hn,by rw[Int.toNat_natCast];exact(hU k hk _).2 ⟨i,hf,rfl,hi,hm⟩⟩
theorem Wide.fresh {W:List Int}(h:Wide fs s n r W) {i:Nat}(hi:i<n):((i:Int)∈W.filter fun x=>newS fs s (inN fs s n r) x.toNat)↔newS fs s (inN fs s n r) i=true:=by
 rw[List.mem_filter,Int.toNat_natCast];exact⟨fun h=>h.2,fun e=>⟨h i hi e,e⟩⟩
end
end Go.Proofs.YtlhaghoajpglaaaGreat
