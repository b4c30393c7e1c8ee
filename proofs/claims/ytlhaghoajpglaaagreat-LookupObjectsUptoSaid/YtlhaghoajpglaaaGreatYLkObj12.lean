/- Lemmas for the claim, no condition. -/
import Derived.ProofKit
import Derived.OpenShut
import Derived.Test.YtlhaghoajpglaaaGreatRows
import Derived.Test.YtlhaghoajpglaaaGreatYLkObj11
import Derived.OpenShut
set_option maxRecDepth 100000
set_option maxHeartbeats 1500000
namespace Go.Proofs.YtlhaghoajpglaaaGreat
open Go Go.RowKit Go.Maps Go.Proofs.Tryz
inductive PIt where
 | ty (n:ByteArray)
 | rel (n x:ByteArray) (ys:List ByteArray)
def stepD (ts:List TyS):PIt->List TyS
 | .ty n=>ts++[⟨n,[]⟩]
 | .rel n x ys=>ts.dropLast++(ts.drop (ts.length-1)).map fun t=>⟨t.name,t.rels++[(n,altR x ys)]⟩
theorem kT! (a:List TyS)(t:TyS)(n x:ByteArray)(ys:List ByteArray):stepD (a++[t]) (.rel n x ys)=a++[⟨t.name,t.rels++[(n,altR x ys)]⟩]:=by
 unfold stepD;dsimp only;rw[List.dropLast_concat,u4!,List.length_singleton,Nat.add_sub_cancel,List.drop_left];rfl
theorem tysT:pN! prog 24 176 2 40:=pN!.mk' Tryz.underlying24 (show _=some (some (.agg #[.string ByteArray.empty,.slice none 0 0]),2,40)by kernel_rfl) rfl (by decide)
theorem oD!:pN! prog 174 181 5 80:=pN!.mk' Tryz.underlying174 (show _=some (some (.agg #[.string ByteArray.empty,.int .i64 0,.string ByteArray.empty,.string ByteArray.empty,.slice none 0 0]),5,80)by kernel_rfl) (by kernel_rfl) (by decide)
theorem Own.setAt {w:World}{B sz:Nat}{e:TypeId}{g n c:Nat}{xs:List Value}(h:Own w B e sz (.slice (some ⟨g,0,none⟩) n c) xs)(i:Nat)(u:Value):Own (w.setCell ⟨g,i,none⟩ u) B e sz (.slice (some ⟨g,0,none⟩) n c) (xs.set i u):=by
 obtain⟨m,h⟩:=h;rcases h.2 with⟨hv,rfl⟩|⟨g',cap,cur,hv,hbg,hg,hnc,hcm,hcs,htake⟩
 ·cases hv
 ·cases hv;have hl:=h.1;refine⟨n,by rw[List.length_set];exact hl,.inr ⟨g,c,cur.setIfInBounds i u,rfl,hbg,heap_setCell_same w g i cur e u hg,hnc,hcm,by simpa using hcs,?_⟩⟩;rw[Array.toList_setIfInBounds,<-htake,List.take_set]
def Fo (w:World)(L:Nat)(tv rv:Value)(b:Nat):Prop:=(L<=b/\b<w.heap.size)/\tv.ownBlock≠some b/\rv.ownBlock≠some b
structure PAt (L:Nat)(w:World)(tv:Value)(pre:List (TyS × Value))(n:ByteArray)(rv:Value)(qr:List ((ByteArray × RT) × Value)):Prop where
 tys:Own w L 176 2 tv ((pre++[((⟨n,qr.map (·.1)⟩:TyS),rv)]).flatMap tyC)
 rels:Own w L 181 5 rv (qr.flatMap relC)
 pr:∀x∈pre,pS! (Fo w L tv rv) w x.1.rels x.2
 rr:∀x∈qr,RTAt (Fo w L tv rv) w x.1.2 x.2
section
variable {L : Nat} {w w' : World} {tv tv' rv rv' : Value} {pre : List (TyS × Value)} {n : ByteArray} {qr : List ((ByteArray × RT) × Value)}
theorem PAt.keep (h:PAt L w tv pre n rv qr)(hk:∀b,L<=b->b<w.heap.size->w'.heap[b]?=w.heap[b]?)(hz:w.heap.size<=w'.heap.size):PAt L w' tv pre n rv qr:=by
 have hs:Same (Fo w L tv rv) w w':=fun b hb=>hk b hb.1.1 hb.1.2;have hm:∀b,Fo w L tv rv b->Fo w' L tv rv b:=fun b hb=>⟨⟨hb.1.1,n1! hb.1.2 hz⟩,hb.2⟩;exact⟨h.tys.keepOwn fun g hg=>hk g (h.tys.block g hg).1 (h.tys.block g hg).2,h.rels.keepOwn fun g hg=>hk g (h.rels.block g hg).1 (h.rels.block g hg).2,fun x hx=>((h.pr x hx).same hs).mono hm,fun x hx=>((h.rr x hx).same hs).mono hm⟩
theorem PAt.ty {m:ByteArray}(h:PAt L w tv pre n rv qr)(hk:∀b,L<=b->b<w.heap.size->tv.ownBlock≠some b->w'.heap[b]?=w.heap[b]?)(hz:w.heap.size<=w'.heap.size)
  (ho:Own w' L 176 2 tv' ((pre++[((⟨n,qr.map (·.1)⟩:TyS),rv)]).flatMap tyC++[.string m,.slice none 0 0])) (hb:∀g,tv'.ownBlock=some g->tv.ownBlock=some g\/w.heap.size<=g):PAt L w' tv' (pre++[((⟨n,qr.map (·.1)⟩:TyS),rv)]) m (.slice none 0 0) []:=by
 have hs:Same (Fo w L tv rv) w w':=fun b hb=>hk b hb.1.1 hb.1.2 hb.2.1
 have hm:∀b,Fo w L tv rv b->Fo w' L tv' (.slice none 0 0) b:=fun b hb'=>⟨⟨hb'.1.1,n1! hb'.1.2 hz⟩,fun e=>by
  rcases hb b e with e | e
  ·exact hb'.2.1 e
  ·have:=hb'.1.2;omega,fun e=>(by cases e)⟩
 have c:∀g,rv.ownBlock=some g->tv.ownBlock≠some g:=fun g hg=>h.rels.apart h.tys (by decide) hg;have a:Own w' L 181 5 rv (qr.flatMap relC):=h.rels.keepOwn fun g hg=>hk g (h.rels.block g hg).1 (h.rels.block g hg).2 (c g hg);refine⟨by rw[x9!];exact ho,Own.nil _ _ _ _,fun x hx=>?_,fun x hx=>(by cases hx)⟩;rcases u3!.1 hx with hx | hx
 ·exact((h.pr x hx).same hs).mono hm
 ·obtain rfl:=n9!.1 hx;refine⟨qr,rfl,fun x hx=>((h.rr x hx).same hs).mono hm,a.slFo fun g hg=>⟨⟨(a.block g hg).1,(a.block g hg).2⟩,fun e=>?_,fun e=>(by cases e)⟩⟩;rcases hb g e with e | e
  ·exact c g hg e
  ·have:=(h.rels.block g hg).2;omega
theorem PAt.first {m:ByteArray}(ho:Own w' L 176 2 tv' [.string m,.slice none 0 0]):PAt L w' tv' [] m (.slice none 0 0) [] :=
 ⟨ho,Own.nil _ _ _ _,fun x hx=>(by cases hx),fun x hx=>(by cases hx)⟩
theorem PAt.rel {m:ByteArray}{r:RT}{pv:Value}{g k c:Nat}(h:PAt L w (.slice (some ⟨g,0,none⟩) k c) pre n rv qr)(hk:∀b,L<=b->b<w.heap.size->rv.ownBlock≠some b->w'.heap[b]?=w.heap[b]?)(hz:w.heap.size<=w'.heap.size)
  (ho:Own w' L 181 5 rv' (qr.flatMap relC++relC ((m,r),pv))) (hb:∀g,rv'.ownBlock=some g->rv.ownBlock=some g\/w.heap.size<=g) (hr:RTAt (Fo w L (.slice (some ⟨g,0,none⟩) k c) rv) w r pv):PAt L (w'.setCell ⟨g,pre.length*2+1,none⟩ rv') (.slice (some ⟨g,0,none⟩) k c) pre n rv' (qr++[((m,r),pv)]):=by
 have a0:rv.ownBlock≠some g:=fun e=>h.rels.apart h.tys (by decide) e rfl
 have a:Own w' L 176 2 (.slice (some ⟨g,0,none⟩) k c) ((pre++[((⟨n,qr.map (·.1)⟩:TyS),rv)]).flatMap tyC):=h.tys.keepOwn fun x hx=>by
  cases hx;exact hk g (h.tys.block g rfl).1 (h.tys.block g rfl).2 a0
 have hrg':rv'.ownBlock≠some g:=fun e=>ho.apart a (by decide) e rfl
 have hs:Same (Fo w L (.slice (some ⟨g,0,none⟩) k c) rv) w (w'.setCell ⟨g,pre.length*2+1,none⟩ rv'):=fun b hb =>
  (Below.heap_setCell w' _ _ b (fun e=>hb.2.1 (by rw[e];rfl))).trans (hk b hb.1.1 hb.1.2 hb.2.2)
 have hm:∀b,Fo w L (.slice (some ⟨g,0,none⟩) k c) rv b->Fo (w'.setCell ⟨g,pre.length*2+1,none⟩ rv') L (.slice (some ⟨g,0,none⟩) k c) rv' b:=fun b hb'=>⟨⟨hb'.1.1,by simp;exact n1! hb'.1.2 hz⟩,hb'.2.1,fun e=>by
  rcases hb b e with e | e
  ·exact hb'.2.2 e
  ·have:=hb'.1.2;omega⟩
 refine⟨?_,?_,fun x hx=>((h.pr x hx).same hs).mono hm,fun x hx=>?_⟩
 ·have:=a.setAt (pre.length*2+1) rv'
  rwa[show((pre++[((⟨n,qr.map (·.1)⟩:TyS),rv)]).flatMap tyC).set (pre.length*2+1) rv'=(pre++[((⟨n,(qr++[((m,r),pv)]).map (·.1)⟩:TyS),rv')]).flatMap tyC from by
   rw[x9!,x9!,List.set_append_right (h:=by rw[ao! aU!];omega),ao! aU!];rw[Nat.add_sub_cancel_left];rfl]at this
 ·rw[x9!];exact(show Own w' L 181 5 rv' (qr.flatMap relC++[((m,r),pv)].flatMap relC)from by simpa using ho).keepOwn fun x hx=>Below.heap_setCell _ _ _ _ fun e=>hrg' (by rw[hx,e])
 ·rcases u3!.1 hx with hx | hx
  ·exact((h.rr x hx).same hs).mono hm
  ·obtain rfl:=n9!.1 hx;exact(hr.same hs).mono hm
theorem PAt.tysAt (h:PAt L w tv pre n rv qr):pU! (fun b=>L<=b/\b<w.heap.size) w (pre.map (·.1)++[⟨n,qr.map (·.1)⟩]) tv:=by
 refine⟨pre++[((⟨n,qr.map (·.1)⟩:TyS),rv)],by simp,fun x hx=>?_,h.tys.sl⟩;rcases u3!.1 hx with hx | hx
 ·exact(h.pr x hx).mono fun b hb=>hb.1
 ·obtain rfl:=n9!.1 hx;exact⟨qr,rfl,fun x hx=>(h.rr x hx).mono fun b hb=>hb.1,h.rels.sl⟩
end
def PIt.toks:PIt->List ByteArray
 | .ty n => [⟨#[116,121,112,101]⟩,n]
 | .rel n x ys=>n::⟨#[61]⟩::altT x ys
def PIt.Fit:PIt->Prop
 | .ty n=>isNm n=true/\n≠⟨#[116,104,105,115]⟩
 | .rel n x ys=>isNm n=true/\n≠⟨#[116,104,105,115]⟩/\n≠⟨#[116,121,112,101]⟩/\(∀z∈x::ys,isNm z=true)/\ys.length<=100000
structure LnOk (s:ByteArray)(it:PIt):Prop where
 size:s.size<=65536
 two:2<=s.size
 first:∀h:0<s.size,s[0]≠32/\s[0]≠9
 slash:s.extract 0 2≠⟨#[47,47]⟩
 plain:∀j (hj:j<s.size),hQ! s[j]=true
 toks:toksD s=it.toks
def PSt (L:Nat)(w:World)(tv:Value)(ts:List TyS)(N:Nat):Prop :=
 (N=0/\ts=[]/\tv= .slice none 0 0)\/∃pre n rv qr,PAt L w tv pre n rv qr/\ts=pre.map (·.1)++[⟨n,qr.map (·.1)⟩]/\pre.length+1<=N/\qr.length<=N
theorem PSt.own {L N:Nat}{w:World}{tv:Value}{ts:List TyS}(h:PSt L w tv ts N):∃cs,Own w L 176 2 tv cs/\cs.length<=2*N/\(∀w' tv' m,(∀b,L<=b->b<w.heap.size->tv.ownBlock≠some b->w'.heap[b]?=w.heap[b]?)->w.heap.size<=w'.heap.size ->
  Own w' L 176 2 tv' (cs++[.string m,.slice none 0 0])->(∀g,tv'.ownBlock=some g->tv.ownBlock=some g\/w.heap.size<=g)->PSt L w' tv' (stepD ts (.ty m)) (N+1)):=by
 rcases h with⟨rfl,rfl,rfl⟩|⟨pre,n,rv,qr,h,rfl,h1,h2⟩
 ·exact⟨[],Own.nil _ _ _ _,by simp,fun w' tv' m _ _ ho _ => .inr ⟨[],m,_,[],PAt.first ho,rfl,by simp,by simp⟩⟩
 ·refine⟨_,h.tys,?_,fun w' tv' m hk hz ho hb => .inr ⟨_,m,_,[],h.ty hk hz ho hb,?_,?_,by simp⟩⟩
  ·rw[ao! aU!];simp;omega
  ·simp[stepD]
  ·simp;omega
theorem PSt.keep {L N:Nat}{w w':World}{tv:Value}{ts:List TyS}(h:PSt L w tv ts N)(hk:∀b,L<=b->b<w.heap.size->w'.heap[b]?=w.heap[b]?)(hz:w.heap.size<=w'.heap.size):PSt L w' tv ts N:=by
 rcases h with h | ⟨pre,n,rv,qr,h,r⟩
 ·exact .inl h
 ·exact .inr ⟨pre,n,rv,qr,h.keep hk hz,r⟩
theorem PSt.tysAt {L N:Nat}{w:World}{tv:Value}{ts:List TyS}(h:PSt L w tv ts N):pU! (fun b=>L<=b/\b<w.heap.size) w ts tv:=by
 rcases h with⟨_,rfl,rfl⟩|⟨pre,n,rv,qr,h,rfl,_,_⟩
 ·exact⟨[],rfl,(fun x hx=>(by cases hx)),Sl.nil _ _ _⟩
 ·exact h.tysAt
theorem Own.layN {w:World}{B sz:Nat}{e:TypeId}{v:Value}{xs:List Value}(h:Own w B e sz v xs)(hx:xs≠[]):∃g n c cs,v= .slice (some ⟨g,0,none⟩) n c/\xs.length=n*sz/\B<=g/\Blk w g cs e/\n<=c/\c<=9223372036854775807/\(∀i (hi:i<xs.length),cs[i]?=some xs[i]):=by
 obtain⟨m,h⟩:=h;rcases h.2 with⟨hv,he⟩|⟨g',cap,cur,hv,hbg,hg,hnc,hcm,hcs,htake⟩
 ·exact absurd (List.length_eq_zero_iff.1 (by have:=h.1;rw[he]at this;simpa using this)) hx
 ·refine⟨g',m,cap,cur,hv,h.1,hbg,hg,hnc,by unfold maxLen at hcm;omega,fun i hi=>?_⟩;have h1:=congrArg (fun l:List Value=>l[i]?) htake;rw[List.getElem?_take_of_lt (by rw[<-h.1];exact hi),n4! hi]at h1;simpa using h1
theorem fG! (its:List PIt) {i:Nat}(hi:i<its.length):(its.take (i+1)).foldl stepD []=stepD ((its.take i).foldl stepD []) its[i]:=by
 rw[n2! hi,List.foldl_append];rfl
theorem lk! (s:ByteArray)(its:List PIt)(w:World)(hs:s.size<=65536)(hl:(ea! s).length=its.length)(hln:∀i (hi:i<its.length)(hj:i<(ea! s).length),LnOk (ea! s)[i] its[i])(hok:∀it∈its,it.Fit)(h0:∀h:0<its.length,∃n,its[0]= .ty n)(hN:its.length<=70000) :
  Calls prog 33 #[.string s] w fun e w'=>∃tv,e= .returned (.tuple #[.agg #[tv],.int .i64 0,.int .i64 0])/\pU! (fun b=>w.heap.size<=b/\b<w'.heap.size) w' (its.foldl stepD []) tv/\Below w.heap.size w w':=by
 obtain⟨w1,av⟩:=e! (w.alloc (.cells #[.slice none 0 0] 26));obtain⟨w2,aD⟩:=e! (w1.alloc (.cells #[.slice none 0 0] 26));have e1:w1.heap.size=w.heap.size+1:=by rw[av];simp
 have e2:w2.heap.size=w.heap.size+2:=by rw[aD];simp[e1]
 have bC:Ext w w1:=xa! av
 have aL:Ext w1 w2:=xa! aD
 have T:=h! (show Blk w2 w.heap.size #[.slice none 0 0] 26 from Blk.below (bm! av) aL);have a7:=h! (show Blk w2 (w.heap.size+1) #[.slice none 0 0] 26 from by rw[aD,<-e1];exact Blk.made _ _ _);have bW:Hid (Below w.heap.size w w2):=h! (bC.trans aL);have aU:=h! (lv! s hs w2);rw[e2]at aU;have HL:=h! hl;have cd:=h! hln;have cf:=h! hok;have HZ:=h! h0;have HN:=h! hN;have cW:(s.size:Int)<=65536:=by omega
 subst aD av;clear hs hl hln hok h0 hN bC aL e1 e2;go_enter func33,ntmps33
 go_wp2_with fail
 refine aU.out.mono ?_;rintro e wL ⟨lv,rfl,H,U⟩;have bx:=h! (T.out.below (U.mono (by simp)));have af:=h! (a7.out.below (U.mono (by simp)));have bE:=h! (bW.out.trans (U.mono (by simp)));have O:=h! (show w.heap.size+2<=wL.heap.size from by have:=U.size;simpa using this);obtain⟨c8,nL,cL,rfl,bH,cG,cz⟩:=H.sl.len;rw[af!,Nat.mul_one,HL.out]at bH;subst bH
 have cA:=h! (show ∀i (hi:i<its.length) (hj:i<(ea! s).length),∃b off,c8=some ⟨b,off,none⟩/\(w.heap.size+2<=b/\b<wL.heap.size)/\wL.cell? ⟨b,off+i,none⟩=some (.string (ea! s)[i])from fun i hi hj=>by
  have h:=H.sl;rw[<-HL.out]at h;exact dx! h i hj)
 clear T a7 bW aU U H;generalize ea! s=ls at *;go_wp2_with fail
 go_loopw [20] (fun ii wr=>∃(i:Nat) (tv:Value),ii= .int .i64 i/\i<=its.length/\Below w.heap.size w wr/\(∀b,w.heap.size+2<=b->b<wL.heap.size->wr.heap[b]?=wL.heap[b]?)/\Blk wr w.heap.size #[.slice none 0 0] 26/\Blk wr (w.heap.size+1) #[tv] 26/\wL.heap.size<=wr.heap.size/\PSt wL.heap.size wr tv ((its.take i).foldl stepD []) i) (fun ii _=>its.length-(intOf ii).toNat)
 case atStart=>exact⟨0,_,rfl,by omega,bE.out,fun _ _ _=>rfl,bx.out,af.out,n0! _,.inl ⟨rfl,rfl,rfl⟩⟩
 case round =>
  obtain⟨i,tv,rfl,hi,ad,bs,be,aV,a9,bw⟩:=hrel;clear bx af bE;have az:=h! ad;have aW:=h! bs;have T:=h! be;have a7:=h! aV;have bF:=h! a9;have a8:=h! bw;have HI:=h! hi;clear ad bs a9 bw;by_cases hlt:i<its.length
  ·have hj:i<ls.length:=by rw[HL.out];exact hlt
   obtain⟨bL,aj,rfl,U,bQ⟩:=cA.out i hlt hj;have cc:wr.cell? ⟨bL,aj+i,none⟩=some (.string ls[i]):=(World.cell?_of_block (a:=⟨bL,aj+i,none⟩) (aW.out bL U.1 U.2)).trans bQ;have F:=h! (cd.out i hlt hj);have bR:=h! (cf.out its[i] (n5! hlt));have bq:=h! (fG! its hlt);have cb:=h! (show i=0->∃n,its[i]= .ty n from fun h=>by subst h;exact HZ.out hlt);clear bQ;generalize ls[i]=ln at *;generalize its[i]=it at *;have bV:=h! (kx! ln (by have:=F.out.size;unfold maxLen;omega) F.out.two (ln[0]'(by have:=F.out.two;omega)) rfl (F.out.first (by have:=F.out.two;omega)).1 (F.out.first (by have:=F.out.two;omega)).2 F.out.slash wr);have b8:=h! (iw! ln F.out.size F.out.plain wr);rw[F.out.toks]at b8;go_wp2_with fail
   refine bV.out.mono ?_;rintro e wx ⟨rfl,rfl⟩;go_wp2_with fail
   refine b8.out.mono ?_;rintro e w2 ⟨v2,rfl,q,N⟩;have Q:=h! (T.out.below N);have D:=h! (a7.out.below N);have E:=h! (az.out.trans (N.mono az.out.size));have Y:Hid (∀b,w.heap.size+2<=b->b<wL.heap.size->w2.heap[b]?=wL.heap[b]?):=h! (fun b h1 h2=>(N.block b (n1! h2 bF.out)).trans (aW.out b h1 h2));have B:=h! (n6! bF.out N.size);have cD:Hid (wx.heap.size<=w2.heap.size):=h! N.size;have ac:=h! (a8.out.keep (fun b _ h=>N.block b h) N.size);have aG:=h! (show ∀g,tv.ownBlock=some g->wL.heap.size<=g/\g<wx.heap.size from fun g hg=>by obtain⟨cs,hc,-⟩:=a8.out.own;exact hc.block g hg);have co:=D.out.cells;have cI:=D.out.free;clear be aV T a7 az aW bV b8 a8 cc;cases it with
   | ty n =>
    obtain⟨a1,an⟩:=bR.out;have a4:Hid (Sl (fun b=>wx.heap.size<=b/\b<w2.heap.size) w2 1 v2 (txs [⟨#[116,121,112,101]⟩,n])):=h! q.sl;obtain⟨c7,nT,cT,rfl,A,aN,b6⟩:=a4.out.len;obtain rfl:nT=2:=by rw[af!]at A;simpa using A.symm
    have a3:=dx! (l:=[⟨#[116,121,112,101]⟩,n]) a4.out;obtain⟨bT,f,rfl,ag,t0⟩:=a3 0 (by simp);obtain⟨cw,ar,ba,-,t1⟩:=a3 1 (by simp);cases ba;rw[Nat.add_zero]at t0;have t0':w2.cell? ⟨bT,f,none⟩=some (.string ⟨#[116,121,112,101]⟩):=t0;have t1':w2.cell? ⟨bT,f+1,none⟩=some (.string n):=t1;have y:=a1
    have a6:=h! (aA! n (by
     unfold isNm at y;simp only[v0!,u1!]at y;unfold maxLen;omega) w2)
    rw[a1]at a6;have X:=aH! an;rw[<-u5!,show(⟨#[116,104,105,115]⟩:ByteArray).data.toList=[116,104,105,115]from rfl]at X;clear a3 t0 t1 A a1 an y q N;go_wp2_with fail
    refine a6.out.mono ?_;rintro e wy ⟨rfl,rfl⟩;clear a6;go_wp2_with fail
    obtain⟨cN,aZ,ah,I⟩:=ac.out.own;obtain⟨t,kt,ct,rfl,-,-,-⟩:=aZ.sl.len;have bG:=h! ah;have al:=h! I;have cn:=h! aZ;clear ah I aZ;obtain⟨wd,G⟩:=e! wy.drew;have hE:Ext wy wd:=by rw[G];exact Ext.drew wy
    have aB:Blk wd (w.heap.size+1) #[.slice t kt ct] 26:=D.out.below hE;have aa:wd.cell? ⟨bT,f+1,none⟩=some (.string n):=Ext.cell hE t1';have bu:Value.ownBlock (.slice t kt ct)≠some bT:=fun e=>by have:=(aG.out bT e).2;have:=ag.1;omega
    have bd:Value.ownBlock (.slice t kt ct)≠some (w.heap.size+1):=fun e=>by have:=(aG.out _ e).1;have:=O.out;omega
    have bg:=h! bd;have b1:=h! (cn.out.below hE);have aH:=h! (show wd.heap.size=wy.heap.size from by rw[G];rfl)
    have bh:∀W,Kept (fun b=>b<wd.heap.size/\Value.ownBlock (.slice t kt ct)≠some b) wd W->W.cell? ⟨w.heap.size+1,0,none⟩=some (.slice t kt ct):=fun W hW=>by
     rw[(hW.blk aB ⟨aB.lt,bd⟩).cells];rfl
    have aA:∀W,Kept (fun b=>b<wd.heap.size/\Value.ownBlock (.slice t kt ct)≠some b) wd W->W.cell? ⟨bT,f+1,none⟩=some (.string n):=fun W hW =>
     (World.cell?_of_block (a:=⟨bT,f+1,none⟩) (hW.block bT ⟨World.block_lt_of_cell? wd _ aa,bu⟩)).trans aa
    refine as! 9 (Kept (fun b=>b<wd.heap.size/\Value.ownBlock (.slice t kt ct)≠some b) wd) (by rw[<-G];exact Kept.refl _ _) (by kernel_rfl) (by kernel_rfl) (fun _ _ d _ _ h=>by cases d <;> exact h) ?_;rw[<-G];clear G bu bd;(refine WalkL.tk [0,1,2,3,4,5] ?_;(iterate 6 (refine l! ?_));refine TkL.n ?_)
    refine oL! 6 ?_;refine b! ?_;intro K hK;go_simp;refine hK.out _ _ ((Kept.refl _ wd).alloc (fun b hb=>hb.1) _) ?_;clear hK;refine oL! 7 ?_;refine b! ?_;intro K hK;refine bD! tysT (.tmp 57) (.tmp 62) rfl rfl (b1.out.below (Ext.alloc wd _)) rfl (m:=1) (news:=[.string n,.slice none 0 0]) rfl (fun j u hu=>?_) (by simp[Value.oneCell']) (by have:=bG.out;have:=HI.out;have:=HN.out;simp;omega) (by have:=bG.out;have:=HI.out;have:=HN.out;simp;omega) (by have:=aH.out;have:=B.out;simp;omega) (fun v5 w5 hown5 hb5 hgr5=>?_)
    ·rw[Addr.add_lit,cell_of_row _ wd.heap.size (0+j) #[.string n,.slice none 0 0] 176 (0,0) (heap_alloc_new wd _)];simpa using hu
    have M:Kept (fun b=>b<wd.heap.size/\Value.ownBlock (.slice t kt ct)≠some b) wd w5:=((Kept.refl _ wd).alloc (fun b hb=>hb.1) (.cells #[.string n,.slice none 0 0] 176)).trans ⟨hgr5.os,hgr5.tape,hgr5.output,hgr5.size,fun b hb=>hgr5.block b (by have:=hb.1;simp;omega) (fun e=>hb.2 e.symm)⟩;refine hK.out _ _ M ?_;clear hK;simp only[Act.put,pA,pZ,pS];have hb5':∀g,v5.ownBlock=some g->(Value.slice t kt ct).ownBlock=some g\/wd.heap.size<=g:=fun g hg=>(hb5 g hg).imp id (fun h=>by simp at h;omega);obtain⟨o,k5,c5,rfl,-,-,-⟩:=hown5.sl.len;have aE:=M.blk aB ⟨aB.lt,bg.out⟩;have cg:=h! aE;have r5:=aE.cells;have f5:=aE.free;have C:Hid (Kept (fun b=>b<wd.heap.size/\Value.ownBlock (.slice t kt ct)≠some b) wd w5):=h! M;have aJ:=h! hown5;have b5:=h! hb5';have HE:=h! hE;clear bh aA hb5 hgr5 M aE hown5 hb5' hE;((refine WalkL.take 8 _ ?_ (by simp only[gA,gS,gZ];rfl) (by kernel_rfl) (by kernel_rfl) (by kernel_rfl) (by rfl) (fun W hW=>?_) ?_;rotate_left;· (go_simp;try with_reducible rfl));simp only[Act.put,pA,pZ,pS])
    refine WalkL.last (by kernel_rfl) (by kernel_rfl) ?_;refine b! ?_;intro K hK;go_simp;refine hK.out _ _ ?_;clear hK r5 f5;have aC:wy.heap.size<=w5.heap.size:=by have:=C.out.size;have:=aH.out;omega
    have aI:=h! (show ∀b,b<wy.heap.size->Value.ownBlock (.slice t kt ct)≠some b->w5.heap[b]?=wy.heap[b]? from fun b h1 h2=>(C.out.block b ⟨by rw[aH.out];exact h1,h2⟩).trans (HE.out.block b h1));have bP:=h! (show ∀b,wL.heap.size<=b->(w5.setCell ⟨w.heap.size+1,0,none⟩ (.slice o k5 c5)).heap[b]?=w5.heap[b]? from fun b hb=>Below.heap_setCell _ _ _ _ (by have:=O.out;show b≠w.heap.size+1;omega));have aS:=h! (al.out (w5.setCell ⟨w.heap.size+1,0,none⟩ (.slice o k5 c5)) (.slice o k5 c5) n (fun b h1 h2 h3=>(bP.out b h1).trans (aI.out b h2 h3)) (by simpa using aC) (aJ.out.keepOwn fun g hg=>bP.out g (aJ.out.block g hg).1) (fun g hg=>by have:=b5.out g hg;rwa[aH.out]at this));have Z:=h! (show ∀g,g<wL.heap.size->Value.ownBlock (.slice t kt ct)≠some g from fun g hg e=>by have:=(aG.out g e).1;omega)
    have au:∀b,w.heap.size+2<=b->b<wL.heap.size->(w5.setCell ⟨w.heap.size+1,0,none⟩ (.slice o k5 c5)).heap[b]?=wL.heap[b]?:=fun b h1 h2 =>
     ((Below.heap_setCell _ _ _ _ (show b≠w.heap.size+1 by omega)).trans (aI.out b (n1! h2 B.out) (Z.out b h2))).trans (Y.out b h1 h2)
    have ax:Blk (w5.setCell ⟨w.heap.size+1,0,none⟩ (.slice o k5 c5)) w.heap.size #[.slice none 0 0] 26 :=
     ((Below.heap_setCell _ _ _ _ (show w.heap.size≠w.heap.size+1 by omega)).trans (aI.out _ Q.out.lt (Z.out _ (by have:=O.out;omega)))).trans Q.out
    have aq:Blk (w5.setCell ⟨w.heap.size+1,0,none⟩ (.slice o k5 c5)) (w.heap.size+1) #[.slice o k5 c5] 26:=cg.out.set_to 0 _ rfl
    have J:Below w.heap.size w (w5.setCell ⟨w.heap.size+1,0,none⟩ (.slice o k5 c5)):=by
     refine Below.setCell (Below.trans E.out ?_) (Nat.le_succ _) _;have h1:=C.out;exact⟨h1.os.trans HE.out.os,h1.tape.trans HE.out.tape,h1.output.trans HE.out.output,aC,fun b hb=>aI.out b (n1! hb E.out.size) (Z.out b (by have:=O.out;omega))⟩
    have c:Hid (_/\_/\_/\_):=h! ⟨au,ax,aq,J⟩;have cq:=h! aC;clear au ax aq J aC;go_wp2_with fail
    go_roundw
    case rel=>exact⟨i+1,_,by go_num,by omega,c.out.2.2.2,c.out.1,c.out.2.1,c.out.2.2.1,by have:=cq.out;have:=B.out;simp;omega,by rw[bq.out];exact aS.out⟩
    case measure=>simp[intOf];omega
   | rel n x ys =>
    obtain⟨a1,an,bk,bA,bJ⟩:=bR.out;have a4:Hid (Sl (fun b=>wx.heap.size<=b/\b<w2.heap.size) w2 1 v2 (txs (n::⟨#[61]⟩::altT x ys))):=h! q.sl;obtain⟨c7,nT,cT,rfl,A,aN,b6⟩:=a4.out.len;have a3:=dx! (l:=n::⟨#[61]⟩::altT x ys) (by rw[af!,Nat.mul_one]at A;rw[A];exact a4.out);obtain⟨bT,f,rfl,ag,t0⟩:=a3 0 (by simp);obtain⟨cw,ar,ba,-,t1⟩:=a3 1 (by simp);cases ba;rw[Nat.add_zero]at t0;have t0':w2.cell? ⟨bT,f,none⟩=some (.string n):=t0;have t1':w2.cell? ⟨bT,f+1,none⟩=some (.string ⟨#[61]⟩):=t1;have ce:=h! (q.typed (g:=bT) rfl)
    have aM:=h! (show nT=2*ys.length+3 from by
     rw[af!,Nat.mul_one,u7!,u7!]at A;unfold altT at A;rw[u7!,dd!]at A;omega)
    have bM:=h! (nh! (S:=fun b=>wx.heap.size<=b/\b<w2.heap.size) x ys (.slice (some ⟨bT,f+2,none⟩) (nT-2) (cT-2)) w2 (fun b hb=>hb.2) bA bJ (by
     have:=a4.out.drop 2 (by have:=aM.out;omega);rwa[show(txs (n::⟨#[61]⟩::altT x ys)).drop 2=txs (altT x ys)from rfl]at this))
    have y:=a1
    have a6:=h! (aA! n (by
     unfold isNm at y;simp only[v0!,u1!]at y;unfold maxLen;omega) w2)
    rw[a1]at a6;have X:=aH! an;rw[<-u5!,show(⟨#[116,104,105,115]⟩:ByteArray).data.toList=[116,104,105,115]from rfl]at X;have bj:=aH! bk;rw[<-u5!,show(⟨#[116,121,112,101]⟩:ByteArray).data.toList=[116,121,112,101]from rfl]at bj;have bl:i≠0:=fun h=>by obtain⟨m,hm⟩:=cb.out h;cases hm
    obtain⟨V,nn,rv,qr,hP,bX,bt,bY⟩:∃V n rv qr,PAt wL.heap.size w2 tv V n rv qr/\(its.take i).foldl stepD []=V.map (·.1)++[⟨n,qr.map (·.1)⟩]/\V.length+1<=i/\qr.length<=i:=by
     rcases ac.out with h | h
     ·exact absurd h.1 bl
     ·exact h
    obtain⟨g,kt,ct,cQ,rfl,aO,bN,bi,cF,cy,bm⟩:=hP.tys.layN (by simp[tyC]);obtain⟨pl,a2⟩:=e! V.length
    have ay:w2.cell? ⟨g,pl*2+1,none⟩=some rv:=by
     rw[bi.cells];have hl:pl*2+1<((V++[((⟨nn,qr.map (·.1)⟩:TyS),rv)]).flatMap tyC).length:=by rw[ao! aU!];simp;omega
     rw[bm _ hl,<-n4! hl,x9!,List.getElem?_append_right (by rw[ao! aU!];omega),ao! aU!,a2,Nat.add_sub_cancel_left];rfl
    obtain rfl:kt=pl+1:=by rw[ao! aU!]at aO;simp at aO;omega
    have cH:=h! bt;have aK:=h! a2;have aP:=h! bY;have aX:=h! bX;have HP:=h! hP;have bO:=h! bi;have ch:=h! bN;have aw:=h! ay;obtain⟨p,kr,cr,rfl,-,-,-⟩:=hP.rels.sl.len;have b3:=h! (fun b (e:Value.ownBlock (.slice p kr cr)=some b)=>(HP.out.rels.block b e).2);have d2:((nT:Int) == 2)=false:=by have:=aM.out;rw[n7!];omega
    have cK:¬ (nT:Int)<3:=by have:=aM.out;omega
    have d1:(0:Int)<(nT:Int):=by omega
    have cV:(1:Int)<(nT:Int):=by omega
    have cS:(2:Int)<=(nT:Int):=by omega
    have cM:(nT:Int)<=(cT:Int):=by omega
    have cU:¬ cT=2:=by omega
    have cR:(2:Int)<=(cT:Int):=by omega
    have d0:((pl:Int)+1 == 0)=false:=by rw[n7!];omega
    have cE:¬ ((pl:Int)+1=0):=by omega
    have av:wrap64 ((pl:Int)+1-1)=(pl:Int):=by rw[Int.add_sub_cancel];exact bn! _ (by omega) (by omega)
    have cO:IntKind.i64.wrap (pl:Int)=(pl:Int):=IntWalk.i64_in _ (by omega);have cB:(pl:Int)<(pl:Int)+1:=by omega
    have cX:(0:Int)<=(pl:Int):=by omega
    clear a3 t0 t1 A a1 an bk bA bJ y q N bl bt a2 bY bX hP bi bm aO bN ay;go_wp2_with fail
    refine a6.out.mono ?_;rintro e wy ⟨rfl,rfl⟩;clear a6;go_wp2_with fail
    refine bM.out.mono ?_;rintro e w3 ⟨v3,pv,rfl,ab,a0,z⟩;have ak:=h! (Q.out.below z);have a5:=h! (D.out.below z);have ae:=h! (E.out.trans (z.mono E.out.size));have b7:Hid (∀b,w.heap.size+2<=b->b<wL.heap.size->w3.heap[b]?=wL.heap[b]?):=h! (fun b h1 h2=>(z.block b (n1! h2 B.out)).trans (Y.out b h1 h2));have bS:=h! (n6! B.out z.size);have aR:=h! (HP.out.keep (fun b _ h=>z.block b h) z.size);have aQ:=h! (bO.out.below z);have aT:=h! (Ext.cell z aw.out);have cj:=h! (Ext.cell z t0');have cJ:Hid (wx.heap.size<=bT/\bT<w3.heap.size):=h! ⟨ag.1,n1! ag.2 z.size⟩;have cp:=h! a0;have b0:=h! (show ∃bb,w3.heap[bT]?=some (.cells bb 9 (0,0))from by obtain⟨bb,h⟩:=ce.out;exact⟨bb,(z.block bT ag.2).trans h⟩);obtain⟨cP,n3,c3,rfl,bK,-,-⟩:=ab.len;obtain rfl:n3=0:=by simpa using bK.symm
    obtain⟨o,c5,rfl,-,-,-⟩:=a0.rows;generalize hr:altR x ys=r at *;have bZ:=h! hr;clear hr;clear bK ab a0 bM Q D E Y HP bO aw co cI z t0' t1' a4;have bB:=h! (Blk.made w3 #[.int .i64 r.k,.string r.a,.string r.b,.slice o r.ps.length c5] 106);have aY:=h! (Ext.alloc w3 (.cells #[.int .i64 r.k,.string r.a,.string r.b,.slice o r.ps.length c5] 106));have bU:(w3.alloc (.cells #[.int .i64 r.k,.string r.a,.string r.b,.slice o r.ps.length c5] 106)).cell? ⟨w.heap.size+1,0,none⟩=some (.slice (some ⟨g,0,none⟩) (pl+1) ct):=by rw[(a5.out.below aY.out).cells];rfl
    unfold rV;go_wp2_with fail
    obtain⟨w4,bo⟩:=e! (w3.alloc (.cells #[.int .i64 r.k,.string r.a,.string r.b,.slice o r.ps.length c5] 106));rw[<-bo]at bB aY ⊢;clear bo bU;obtain⟨wd,G⟩:=e! w4.drew;have hE:Ext w3 wd:=by rw[G];exact aY.out.trans (Ext.drew w4)
    have b9:Blk wd w3.heap.size #[.int .i64 r.k,.string r.a,.string r.b,.slice o r.ps.length c5] 106:=by rw[G];exact bB.out
    have am:=aR.out.keep (fun b _ h=>hE.block b h) hE.size;have b4:=Ext.cell hE cj.out;have b2:=Ext.cell hE aT.out;have bI:=aQ.out.below hE;have X:Value.ownBlock (.slice p kr cr)≠some g:=fun e=>am.rels.apart am.tys (by decide) e rfl;have bc:∀b,Value.ownBlock (.slice p kr cr)=some b->wL.heap.size<=b/\b<w3.heap.size:=fun b e=>aR.out.rels.block b e
    have A:Value.ownBlock (.slice p kr cr)≠some bT:=fun e=>by
     obtain⟨c1,h1⟩:=aR.out.rels.typed e;obtain⟨c2,h2⟩:=b0.out;rw[h1]at h2;exact absurd (show(181:TypeId)=9 by injection v5! h2) (by decide)
    have bv:Value.ownBlock (.slice p kr cr)≠some w3.heap.size:=fun e=>by have:=(bc _ e).2;omega
    have ck:=h! bc;have R:=h! hE;have ci:=h! am;have bz:=h! bI;have aF:∀b,b<wd.heap.size->Value.ownBlock (.slice p kr cr)≠some b->∀W,Kept (fun b=>b<wd.heap.size/\Value.ownBlock (.slice p kr cr)≠some b) wd W->W.heap[b]?=wd.heap[b]?:=fun b h1 h2 W hW=>hW.block b ⟨h1,h2⟩
    have bh:∀W,Kept (fun b=>b<wd.heap.size/\Value.ownBlock (.slice p kr cr)≠some b) wd W->W.cell? ⟨bT,f,none⟩=some (.string n):=fun W hW =>
     (World.cell?_of_block (a:=⟨bT,f,none⟩) (aF bT (World.block_lt_of_cell? wd _ b4) A W hW)).trans b4
    have aA:∀W,Kept (fun b=>b<wd.heap.size/\Value.ownBlock (.slice p kr cr)≠some b) wd W->W.cell? ⟨g,pl*2+1,none⟩=some (.slice p kr cr):=fun W hW =>
     (World.cell?_of_block (a:=⟨g,pl*2+1,none⟩) (aF g (World.block_lt_of_cell? wd _ b2) X W hW)).trans b2
    have ai:∀W,Kept (fun b=>b<wd.heap.size/\Value.ownBlock (.slice p kr cr)≠some b) wd W->Blk W w3.heap.size #[.int .i64 r.k,.string r.a,.string r.b,.slice o r.ps.length c5] 106:=fun W hW=>(aF _ b9.lt bv W hW).trans b9;have cu:∀W,Kept (fun b=>b<wd.heap.size/\Value.ownBlock (.slice p kr cr)≠some b) wd W->W.cell? ⟨w3.heap.size,0,none⟩=some (.int .i64 r.k):=fun W hW=>(ai W hW).cells 0;have cC:∀W,Kept (fun b=>b<wd.heap.size/\Value.ownBlock (.slice p kr cr)≠some b) wd W->W.cell? ⟨w3.heap.size,1,none⟩=some (.string r.a):=fun W hW=>(ai W hW).cells 1;have cx:∀W,Kept (fun b=>b<wd.heap.size/\Value.ownBlock (.slice p kr cr)≠some b) wd W->W.cell? ⟨w3.heap.size,2,none⟩=some (.string r.b):=fun W hW=>(ai W hW).cells 2;have c4:∀W,Kept (fun b=>b<wd.heap.size/\Value.ownBlock (.slice p kr cr)≠some b) wd W->W.cell? ⟨w3.heap.size,3,none⟩=some (.slice o r.ps.length c5):=fun W hW=>(ai W hW).cells 3;have ca:=h! X;have c9:=h! aA;have b1:=h! am.rels;have ap:Hid (wL.heap.size<=wd.heap.size):=h! (n6! bS.out hE.size);refine as! 14 (Kept (fun b=>b<wd.heap.size/\Value.ownBlock (.slice p kr cr)≠some b) wd) (by rw[<-G];exact Kept.refl _ _) (by kernel_rfl) (by kernel_rfl) (fun _ _ d _ _ h=>by cases d <;> exact h) ?_;rw[<-G];clear G X bc A bv aF ai b2 b4 b9 am bI hE;(refine WalkL.tk [0,1,2,3,4,5,6,7,8,9] ?_;(iterate 10 (refine l! ?_));refine TkL.n ?_)
    refine oL! 10 ?_;refine b! ?_;intro K hK;go_simp;refine hK.out _ _ ((Kept.refl _ wd).alloc (fun b hb=>hb.1) _) ?_;clear hK bh aA cu cC cx c4;refine oL! 11 ?_;refine b! ?_;intro K hK;refine bD! oD! (.tmp 134) (.tmp 140) rfl rfl (b1.out.below (Ext.alloc wd _)) rfl (m:=1) (news:=[.string n,.int .i64 r.k,.string r.a,.string r.b,.slice o r.ps.length c5]) rfl (fun j u hu=>?_) (by simp[Value.oneCell']) (by have:=aP.out;have:=HI.out;have:=HN.out;rw[ao! cP!];simp;omega) (by have:=aP.out;have:=HI.out;have:=HN.out;rw[ao! cP!];simp;omega) (by have:=ap.out;simp;omega) (fun v5 w5 hown5 hb5 hgr5=>?_)
    ·rw[Addr.add_lit,cell_of_row _ wd.heap.size (0+j) #[.string n,.int .i64 r.k,.string r.a,.string r.b,.slice o r.ps.length c5] 181 (0,0) (heap_alloc_new wd _)];simpa using hu
    have M:Kept (fun b=>b<wd.heap.size/\Value.ownBlock (.slice p kr cr)≠some b) wd w5:=((Kept.refl _ wd).alloc (fun b hb=>hb.1) (.cells #[.string n,.int .i64 r.k,.string r.a,.string r.b,.slice o r.ps.length c5] 181)).trans ⟨hgr5.os,hgr5.tape,hgr5.output,hgr5.size,fun b hb=>hgr5.block b (by have:=hb.1;simp;omega) (fun e=>hb.2 e.symm)⟩;refine hK.out _ _ M ?_;clear hK;simp only[Act.put,pA,pZ,pS];have b5:=h! (show ∀b,v5.ownBlock=some b->(Value.slice p kr cr).ownBlock=some b\/wd.heap.size<=b from fun b hg=>(hb5 b hg).imp id (fun h=>by simp at h;omega));obtain⟨bn,k6,c6,rfl,-,-,-⟩:=hown5.sl.len;have bp:=M.blk bz.out ⟨bz.out.lt,ca.out⟩;have c0:=c9.out w5 M;have f5:=bp.free;have C:Hid (Kept (fun b=>b<wd.heap.size/\Value.ownBlock (.slice p kr cr)≠some b) wd w5):=h! M;have aJ:=h! hown5;clear hb5 hgr5 M bp hown5;(refine WalkL.tk [12,13] ?_;(iterate 2 (refine l! ?_));refine TkL.n ?_)
    refine WalkL.last (by kernel_rfl) (by kernel_rfl) ?_;refine b! ?_;intro K hK;go_simp;refine hK.out _ _ ?_;clear hK f5 c0;obtain⟨W,hW⟩:=e! (w5.setCell ⟨g,pl*2+1,none⟩ (.slice bn k6 c6));have ao:∀b,b≠g->W.heap[b]?=w5.heap[b]?:=fun b hb=>by rw[hW];exact Below.heap_setCell _ _ _ _ hb
    have bf:W.heap.size=w5.heap.size:=by rw[hW];simp
    have L:∀b,b<w3.heap.size->b<wL.heap.size->W.heap[b]?=w3.heap[b]?:=fun b h1 h2=>by
     have h3:=ch.out;rw[ao b (by omega)];exact(C.out.block b ⟨n1! h1 R.out.size,fun e=>by have:=(ck.out b e).1;omega⟩).trans (R.out.block b h1)
    have hrel:=ci.out.rel (m:=n) (r:=r) (pv := .slice o r.ps.length c5) (w':=w5) (rv' := .slice bn k6 c6) (fun b _ h1 h2=>C.out.block b ⟨h1,h2⟩) C.out.size aJ.out b5.out
     ((cp.out.same ((Same.below R.out).mono fun b hb=>hb.2)).mono fun b hb=>⟨⟨n6! B.out hb.1,n1! hb.2 R.out.size⟩,fun e=>by have:=(aG.out b e).2;have:=hb.1;have:=cD.out;omega,fun e=>by have:=b3.out b e;have:=hb.1;omega⟩)
    rw[<-aK.out,<-hW]at hrel
    have J:Below w.heap.size w W:=by
     refine Below.trans ae.out ⟨?_,?_,?_,?_,fun b hb=>L b (n1! hb ae.out.size) (by have:=O.out;omega)⟩
     ·rw[hW];exact C.out.os.trans R.out.os
     ·rw[hW];exact C.out.tape.trans R.out.tape
     ·rw[hW];exact C.out.output.trans R.out.output
     ·rw[bf];exact n6! R.out.size C.out.size
    have c:=h! (show _/\_/\_/\_/\_/\_ from⟨(fun b (h1:w.heap.size+2<=b) (h2:b<wL.heap.size)=>(L b (n1! h2 bS.out) h2).trans (b7.out b h1 h2)),
     (show Blk W w.heap.size #[.slice none 0 0] 26 from(L _ ak.out.lt (by have:=O.out;omega)).trans ak.out),
     (show Blk W (w.heap.size+1) #[.slice (some ⟨g,0,none⟩) (pl+1) ct] 26 from(L _ a5.out.lt (by have:=O.out;omega)).trans a5.out),J,hrel,(show wL.heap.size<=W.heap.size from by rw[bf];exact n6! ap.out C.out.size)⟩)
    have cv:=h! (show(its.take (i+1)).foldl stepD []=V.map (·.1)++[⟨nn,(qr++[((n,r),Value.slice o r.ps.length c5)]).map (·.1)⟩]from by
     rw[bq.out,aX.out,kT!,bZ.out];simp)
    rw[<-hW];clear hW ao bf L hrel J;go_wp2_with fail
    go_roundw
    case rel=>exact⟨i+1,_,by go_num,by omega,c.out.2.2.2.1,c.out.1,c.out.2.1,c.out.2.2.1,c.out.2.2.2.2.2,.inr ⟨V,nn,_,_,c.out.2.2.2.2.1,cv.out,by have:=cH.out;omega,by have:=aP.out;simp;omega⟩⟩
    case measure=>simp[intOf];omega
  ·obtain rfl:i=its.length:=by omega
   have bU:=a7.out.cells;have cZ:=T.out.cells;have cY:=T.out.free;obtain⟨cs,br,-⟩:=a8.out.own;obtain⟨t,kt,ct,rfl,-,-,-⟩:=br.sl.len;rw[u2!]at a8;have bD:=T.out.set_to 0 (.slice t kt ct) rfl;have cm:=h! bD;have cl:Hid (Below w.heap.size w (wr.setCell ⟨w.heap.size,0,none⟩ (.slice t kt ct))):=h! (setAt az.out);clear bD be aV br;go_wp2_with fail
   refine bodyPost_ret (v := .tuple #[.agg #[.slice t kt ct],.int .i64 0,.int .i64 0]) ?_ rfl ⟨_,rfl,?_,cl.out⟩
   ·rw[am! rfl];have hl:=run_loadVar_row (P:=prog) _ w.heap.size _ 26 _ _ _ cm.out Tryz.underlying26 rfl (by kernel_rfl);simp[asAddr,hl,Result.andThen]
   ·refine(a8.out.tysAt.same (fun b hb=>Below.heap_setCell _ _ _ _ (by have:=O.out;have:=hb.1;show b≠w.heap.size;omega))).mono fun b hb=>⟨by have:=O.out;have:=hb.1;omega,by simpa using hb.2⟩
end Go.Proofs.YtlhaghoajpglaaaGreat
namespace Go.Proofs.YtlhaghoajpglaaaGreat
open Go Go.RowKit Go.Maps Go.Shelf Go.Proofs.Tryz
mutual
def RT.pcan (P:List (R2 × RT))(S:List R2)(typ:ByteArray):RT->Bool
 | .mk k a b ps=>if k=1 then true else if k=2 then decide ((⟨typ,a⟩:R2)∈S)else if k=3 then decide ((⟨typ,a⟩:R2)∈S)&&(aN! P b).any fun n=>decide ((⟨n,b⟩:R2)∈S)else if k=4 then pcanN P S typ ps||decide (ps.length=0)else pcanL P S typ ps
def pcanN (P:List (R2 × RT))(S:List R2)(typ:ByteArray):List RT->Bool | []=>false | r::rs=>r.pcan P S typ||pcanN P S typ rs
def pcanL (P:List (R2 × RT))(S:List R2)(typ:ByteArray):List RT->Bool | []=>true | r::rs=>r.pcan P S typ&&pcanL P S typ rs
end
def pu! (ts:List TyS)(S:List R2):Prop:=∀x r,(x,r)∈ac! ts->r.pcan (ac! ts) S x.t=true->x∈S
structure pK! (ts:List TyS)(S:List R2):Prop where
 sub:∀x∈S,x∈(ac! ts).map (·.1)
 least:∀T,pu! ts T->∀x∈S,x∈T
end Go.Proofs.YtlhaghoajpglaaaGreat
namespace Go.Proofs.YtlhaghoajpglaaaGreat
open Go Go.RowKit Go.Maps Go.Proofs.Tryz
def docB:ByteArray:=⟨#[100,111,99]⟩
def lnOkB (s:ByteArray)(it:PIt):Bool:=decide (s.size<=65536)&&(decide (2<=s.size)&&(!(s.data.toList.head? == some 32)&&(!(s.data.toList.head? == some 9)&&(!(decide (s.extract 0 2=⟨#[47,47]⟩))&&(s.data.toList.all hQ!&&decide (toksD s=it.toks))))))
theorem oY! {s:ByteArray}{it:PIt}(h:lnOkB s it=true):LnOk s it:=by
 unfold lnOkB at h;simp only[v0!,u1!,Bool.not_eq_true',decide_eq_false_iff_not]at h;obtain⟨h1,h2,h3,h4,h5,h6,h7⟩:=h
 have a:∀hp:0<s.size,s.data.toList.head?=some s[0]:=fun hp=>by
  rw[List.head?_eq_getElem?,n4! (by simpa using hp)];rfl
 refine⟨h1,h2,fun hp=>⟨fun e=>?_,fun e=>?_⟩,h5,fun j hj=>?_,h7⟩
 ·rw[a hp,e]at h3;exact absurd h3 (by decide)
 ·rw[a hp,e]at h4;exact absurd h4 (by decide)
 ·rw[u8!]at h6
  exact h6 _ (by
   have:s[j]=s.data.toList[j]'(by simpa using hj):=rfl;rw[this];exact n5! _)
theorem nC! {ls:List ByteArray}{its:List PIt}(h:(ls.zip its).all (fun p=>lnOkB p.1 p.2)=true):∀i (hi:i<its.length)(hj:i<ls.length),LnOk ls[i] its[i]:=fun i hi hj=>by
 rw[u8!]at h;have hz:i<(ls.zip its).length:=by rw[List.length_zip];omega
 have:=h _ (n5! hz);rw[List.getElem_zip]at this;exact oY! this
def PIt.fitB:PIt->Bool
 | .ty n=>isNm n&&decide (n≠⟨#[116,104,105,115]⟩)
 | .rel n x ys=>isNm n&&(decide (n≠⟨#[116,104,105,115]⟩)&&(decide (n≠⟨#[116,121,112,101]⟩)&&((x::ys).all isNm&&decide (ys.length<=100000))))
theorem ph! {its:List PIt}(h:its.all PIt.fitB=true):∀it∈its,it.Fit:=fun it hit=>by
 rw[u8!]at h;have:=h it hit;cases it with
 | ty n =>
  simp only[PIt.fitB,v0!,u1!]at this;exact this
 | rel n x ys =>
  simp only[PIt.fitB,v0!,u1!]at this;obtain⟨h1,h2,h3,h4,h5⟩:=this;exact⟨h1,h2,h3,fun z hz=>(u8!.1 h4) z hz,h5⟩
end Go.Proofs.YtlhaghoajpglaaaGreat
namespace Go.Proofs.YtlhaghoajpglaaaGreat
open Go Go.RowKit Go.ChangeShapes Go.WideShapes Go.ChangeAt Go.Proofs.Tryz
section
variable {H : Type} {enc : TypeId × Value -> H} {P : Program} {w : World}
theorem lp! {α β:Type}{f:α->Option β}:∀ {l:List α}{r:List β},l.mapM f=some r->r.length=l.length/\∀(i:Nat)(x:α),l[i]?=some x->f x=r[i]?:=by
 intro l;induction l with
 | nil=>intro r h;simp at h;subst h;exact⟨rfl,by simp⟩
 | cons a l ih =>
  intro r h;simp only[List.mapM_cons,Option.bind_eq_bind,Option.bind_eq_some_iff,Option.pure_def,Option.some.injEq]at h;obtain⟨b,hb,bs,a0,rfl⟩:=h;obtain⟨h1,h2⟩:=ih a0;refine⟨by simp[h1],fun i x hx=>?_⟩;cases i with
  | zero=>simp at hx;subst hx;simpa using hb
  | succ i=>simp at hx ⊢;exact h2 i x hx
theorem bC! (a:Addr)(x y:Nat):(a.add x).add y=a.add (x+y):=by
 by_cases hx:x=0
 ·subst hx;simp[Addr.add]
 ·by_cases hy:y=0
  ·subst hy;simp[Addr.add]
  ·simp[Addr.add,hx,hy,Nat.add_assoc]
theorem dr! {base:Nat}{a:Addr}{n:Nat}{cs:List Value}(h:w.cells? base a n=some cs):cs.length=n/\∀j,j<n->w.cell? (a.add j)=cs[j]?:=by
 unfold World.cells? at h;split at h
 ·obtain⟨h1,h2⟩:=lp! h;refine⟨by simpa using h1,fun j hj=>h2 j j (by simp[hj])⟩
 ·cases h
theorem oO! {t e:TypeId}{v:Value}{d:DataW H}{ps:List MemPlace}(ht:P.underlying t=some (.slice e))(hv:∃a len cap,v= .slice a len cap)(h:DataW.Trod enc P w 0 (fun _=>true) true t v d ps) :
  ∃(xs:List Value) (elems:List (DataW H × List MemPlace)) (fuel:Nat),Sl (· < w.heap.size) w (P.cellsOf e) v xs/\xs.length=elems.length*P.cellsOf e /\
   (∀i y,elems[i]?=some y->DataW.trod enc P w 0 (fun _=>true) true fuel e ((xs.drop (i*P.cellsOf e)).take (P.cellsOf e))=some y) /\
   (d= .nil/\elems=[]\/∃rest,d= .slice (elems.map (·.1)) rest):=by
 obtain⟨a0,f,c,rfl⟩:=hv;obtain⟨fuel,hf⟩:=h;rcases DataW.trod_slice ht hf with⟨hcs,hx⟩|⟨a,len,cap,elems,rest,n,hfu,hcs,hx,_,hlc,hcm,hlen,hel,_⟩
 ·have hv:Value.slice a0 f c= .slice none 0 0:=by simpa [Value.cells] using hcs
  rw[hv];simp only[Prod.mk.injEq]at hx;exact⟨[],[],0,Sl.nil _ w _,by simp,by simp,.inl ⟨hx.1,rfl⟩⟩
 ·have hv:Value.slice a0 f c= .slice (some a) len cap:=by simpa [Value.cells] using hcs
  rw[hv];generalize hk:P.cellsOf e=k at *
  have l:∀i,i<len->∃I y,w.cells? 0 (a.add (i*k)) k=some I/\elems[i]?=some y/\DataW.trod enc P w 0 (fun _=>true) true n e I=some y:=by
   intro i D;have h1:=hel i D;obtain⟨y,E⟩:∃y,elems[i]?=some y:=⟨_,n4! (by omega)⟩;rw[E]at h1;obtain⟨I,g,o⟩:=Option.bind_eq_some_iff.1 h1;exact⟨I,y,g,E,o⟩
  -- the cells, one by one
  obtain⟨xs,p,r⟩:∃xs:List Value,xs.length=len*k/\∀i j,i<len->j<k->w.cell? (a.add (i*k+j))=xs[i*k+j]?:=by
   refine⟨(List.range (len*k)).map fun m=>(w.cell? (a.add m)).getD undef,by simp,fun i j D hj=>?_⟩
   have hm:i*k+j<len*k:=by
    have:=y7! k (show i+1<=len from D);rw[Nat.add_mul]at this;omega
   obtain⟨I,y,g,_,_⟩:=l i D;obtain⟨a3,q⟩:=dr! g;have h2:=q j hj;rw[bC!]at h2;rw[h2,n4! (by omega)];simp[hm,h2,n4! (show j<I.length by omega)]
  have B:∀m u,xs[m]?=some u->w.cell? (a.add m)=some u:=by
   intro m u G;have A:m<len*k:=by rw[<-p];exact(y3!.1 G).1
   have z:0<k:=by
    apply Nat.pos_of_ne_zero;intro F;rw[F]at A;omega
   have a1:=Nat.div_add_mod m k;have D:m / k<len:=(Nat.div_lt_iff_lt_mul z).2 A;have:=r (m / k) (m % k) D (Nat.mod_lt _ z);rw[Nat.mul_comm,a1]at this;rw[this,G]
  refine⟨xs,elems,n,⟨some a,len,cap,rfl,p,hlc,hcm,fun h=>(by cases h),fun hne=>?_⟩,by rw[p,hlen],fun i y E=>?_,.inr ⟨rest.map (·.1),?_⟩⟩
  ·obtain⟨u,G⟩:∃u,xs[0]?=some u:=by
    cases xs with
    | nil=>exact absurd rfl hne
    | cons x _=>exact⟨x,rfl⟩
   have F:=B 0 u G;obtain⟨b,a2,s⟩:=a
   have hs:s=none:=by
    cases s with
    | none=>rfl
    | some s =>
     exfalso
     simp only[Addr.add,World.cell?]at F;split at F <;> simp at F
   subst hs;have hb:=World.block_lt_of_cell? w _ F;rw[Addr.add_lit]at hb;exact⟨b,a2,rfl,hb,fun j u G=>by have:=B j u G;rwa[Addr.add_lit]at this⟩
  ·have D:i<len:=by rw[<-hlen];exact(y3!.1 E).1
   obtain⟨I,y',g,C,o⟩:=l i D;obtain rfl:y=y':=by rw[E]at C;exact v5! C
   obtain⟨a3,q⟩:=dr! g
   have:(xs.drop (i*k)).take k=I:=by
    apply List.ext_getElem?;intro j;rw[List.getElem?_take];split
    ·rename_i hj
     rw[List.getElem?_drop,<-r i j D hj,<-q j hj,bC!]
    ·rename_i hj
     rw[y0! (by omega)]
   rw[this];exact o
  ·simp only[Prod.mk.injEq]at hx;exact hx.1
theorem fg! {ts:List TypeId}(hl:laidOutB P=true) {W W':World}(hb:Below W.heap.size W W') :
  ∀ {vs:List Value} {ds:List (DataW H)} {ps:List MemPlace},(∀t∈ts,P.readableRec t=true/\t<P.types.size)->(∀x∈ps,x.block<W.heap.size) ->
   DataW.TrodAll enc P W 0 (fun _=>true) true ts vs ds ps->DataW.TrodAll enc P W' 0 (fun b=>decide (b<W.heap.size)) true ts vs ds ps:=by
 induction ts with
 | nil =>
  intro vs ds ps _ _ h;cases vs <;> cases ds <;> simp_all [DataW.TrodAll]
 | cons t ts ih =>
  intro vs ds ps hr hlt h;obtain⟨v,a1,d,a0,p,q,rfl,rfl,rfl,h1,h2⟩:=trodAll_cons h;exact trodAll_cons_mk (Below.trod hl (hr t (by simp)).1 (hr t (by simp)).2 h1 hb (fun x hx=>hlt x (by simp[hx]))) (ih (fun t ht=>hr t (by simp[ht])) (fun x hx=>hlt x (by simp[hx])) h2)
theorem law_post {f:Func}{s:ChangeSpec}{W W':World}{args:Array Value}{ds gs:List (DataW H)}{before:List MemPlace}{tb:TypeId}
  (hW:DataW.Whole enc P f.params.toList s.vars false W args.toList ds gs before) (hvars:s.vars=[]) (hres:f.resultTypes=#[tb]) (htb:P.underlying tb=some .bool)
  (hfn:(s.fn H (ds++gs)).results=[.lit (.bool true)]) (hfa:(s.fn H (ds++gs)).args=ds) (hfv:(s.fn H (ds++gs)).vars=[])
  (hl:laidOutB P=true) (hr:(f.params.toList.all fun t=>P.readableRec t&&decide (t<P.types.size))=true) (hb:Below W.heap.size W W') :
  s.post enc P f false true false false W args (.bool true) W':=by
 have a1:=hW.lt;have a0:=hW;obtain⟨p,q,hA,hV,rfl,_,_⟩:=hW;rw[hvars]at hV;refine⟨ds,gs,p++q,[],p,[],a0,?_,?_,?_,hb.frame _,fun h=>by cases h⟩
 ·rw[hfn,hres];exact trodAll_mk1 (shut_bool htb true)
 ·rw[hfa];refine fg! hl hb (fun t ht=>?_) (fun x hx=>a1 x (by simp[hx])) hA;have:=u8!.1 hr t ht;simpa using this
 ·rw[hfv,hvars];rfl
end
section
variable {H : Type} {enc : TypeId × Value -> H} {P : Program} {w : World}
theorem no! {fuel0:Nat}{t e:TypeId}{v:Value}{d:DataW H}{ps:List MemPlace}(ht:P.underlying t=some (.slice e))(hf:DataW.trod enc P w 0 (fun _=>true) true fuel0 t [v]=some (d,ps)) :
  ∃(xs:List Value) (elems:List (DataW H × List MemPlace)) (fuel:Nat),(elems=[]\/fuel<fuel0)/\Sl (· < w.heap.size) w (P.cellsOf e) v xs/\xs.length=elems.length*P.cellsOf e /\
   (∀i y,elems[i]?=some y->DataW.trod enc P w 0 (fun _=>true) true fuel e ((xs.drop (i*P.cellsOf e)).take (P.cellsOf e))=some y) /\
   (d= .nil/\elems=[]\/∃rest,d= .slice (elems.map (·.1)) rest):=by
 rcases DataW.trod_slice ht hf with⟨hcs,hx⟩|⟨a,len,cap,elems,rest,n,hfu,hcs,hx,_,hlc,hcm,hlen,hel,_⟩
 ·obtain rfl:v= .slice none 0 0:=by simpa using hcs
  simp only[Prod.mk.injEq]at hx;exact⟨[],[],0,.inl rfl,Sl.nil _ w _,by simp,by simp,.inl ⟨hx.1,rfl⟩⟩
 ·obtain rfl:v= .slice (some a) len cap:=by simpa using hcs
  generalize hk:P.cellsOf e=k at *
  have f:∀i,i<len->∃F y,w.cells? 0 (a.add (i*k)) k=some F/\elems[i]?=some y/\DataW.trod enc P w 0 (fun _=>true) true n e F=some y:=by
   intro i B;have h1:=hel i B;obtain⟨y,C⟩:∃y,elems[i]?=some y:=⟨_,n4! (by omega)⟩;rw[C]at h1;obtain⟨F,c,g⟩:=Option.bind_eq_some_iff.1 h1;exact⟨F,y,c,C,g⟩
  -- the cells, one by one
  obtain⟨xs,l,p⟩:∃xs:List Value,xs.length=len*k/\∀i j,i<len->j<k->w.cell? (a.add (i*k+j))=xs[i*k+j]?:=by
   refine⟨(List.range (len*k)).map fun m=>(w.cell? (a.add m)).getD undef,by simp,fun i j B hj=>?_⟩
   have hm:i*k+j<len*k:=by
    have:=y7! k (show i+1<=len from B);rw[Nat.add_mul]at this;omega
   obtain⟨F,y,c,_,_⟩:=f i B;obtain⟨a2,o⟩:=dr! c;have h2:=o j hj;rw[bC!]at h2;rw[h2,n4! (by omega)];simp[hm,h2,n4! (show j<F.length by omega)]
  have z:∀m u,xs[m]?=some u->w.cell? (a.add m)=some u:=by
   intro m u E;have r:m<len*k:=by rw[<-l];exact(y3!.1 E).1
   have q:0<k:=by
    apply Nat.pos_of_ne_zero;intro D;rw[D]at r;omega
   have a0:=Nat.div_add_mod m k;have B:m / k<len:=(Nat.div_lt_iff_lt_mul q).2 r;have:=p (m / k) (m % k) B (Nat.mod_lt _ q);rw[Nat.mul_comm,a0]at this;rw[this,E]
  refine⟨xs,elems,n,.inr (by omega),⟨some a,len,cap,rfl,l,hlc,hcm,fun h=>(by cases h),fun hne=>?_⟩,by rw[l,hlen],fun i y C=>?_,.inr ⟨rest.map (·.1),?_⟩⟩
  ·obtain⟨u,E⟩:∃u,xs[0]?=some u:=by
    cases xs with
    | nil=>exact absurd rfl hne
    | cons x _=>exact⟨x,rfl⟩
   have D:=z 0 u E;obtain⟨b,a1,s⟩:=a
   have hs:s=none:=by
    cases s with
    | none=>rfl
    | some s =>
     exfalso
     simp only[Addr.add,World.cell?]at D;split at D <;> simp at D
   subst hs;have hb:=World.block_lt_of_cell? w _ D;rw[Addr.add_lit]at hb;exact⟨b,a1,rfl,hb,fun j u E=>by have:=z j u E;rwa[Addr.add_lit]at this⟩
  ·have B:i<len:=by rw[<-hlen];exact(y3!.1 C).1
   obtain⟨F,y',c,A,g⟩:=f i B;obtain rfl:y=y':=by rw[C]at A;exact v5! A
   obtain⟨a2,o⟩:=dr! c
   have:(xs.drop (i*k)).take k=F:=by
    apply List.ext_getElem?;intro j;rw[List.getElem?_take];split
    ·rename_i hj
     rw[List.getElem?_drop,<-p i j B hj,<-o j hj,bC!]
    ·rename_i hj
     rw[y0! (by omega)]
   rw[this];exact g
  ·simp only[Prod.mk.injEq]at hx;exact hx.1
theorem dM! {α:Type}(ec:α->List Value)(Q:α->DataW H->Prop) {t e:TypeId}{v:Value}{fuel0:Nat}{y0:DataW H × List MemPlace}{sz:Nat}
  (ht:P.underlying t=some (.slice e)) (hsz:P.cellsOf e=sz) (h:DataW.trod enc P w 0 (fun _=>true) true fuel0 t [v]=some y0)
  (hel:∀fuel,fuel<fuel0->∀cs y,DataW.trod enc P w 0 (fun _=>true) true fuel e cs=some y->∃a,cs=ec a/\Q a y.1) :
  ∃l:List (α × DataW H),Sl (· < w.heap.size) w sz v ((l.map (·.1)).flatMap ec)/\(∀p∈l,Q p.1 p.2)/\(l=[]\/∃rest,y0.1= .slice (l.map (·.2)) rest):=by
 obtain⟨xs,c,fuel,a0,hs,hl,he,hd⟩:=no! ht (d:=y0.1) (ps:=y0.2) h;rw[hsz]at hs hl he
 have i:∀n,n<=c.length->∃l:List (α × DataW H),l.length=n/\xs.take (n*sz)=(l.map (·.1)).flatMap ec/\l.map (·.2)=(c.take n).map (·.1)/\∀p∈l,Q p.1 p.2:=by
  intro n;induction n with
  | zero=>intro _;exact⟨[],rfl,by simp,by simp,by simp⟩
  | succ n ih =>
   intro hn;obtain⟨l,k,f,g,j⟩:=ih (by omega)
   have hf:fuel<fuel0:=by
    rcases a0 with h | h
    ·rw[h]at hn;simp at hn
    ·exact h
   obtain⟨a,ha,hq⟩:=hel _ hf _ _ (he n c[n] (n4! (by omega)));refine⟨l++[(a,c[n].1)],by simp[k],?_,?_,fun b hb=>?_⟩
   ·rw[Nat.add_mul,Nat.one_mul,List.take_add,f,ha,v9!,x9!];simp
   ·rw[v9!,g,n2! (by omega),v9!];rfl
   ·rcases u3!.1 hb with hb | hb
    ·exact j b hb
    ·obtain rfl:b=(a,c[n].1):=by simpa using hb
     exact hq
 obtain⟨l,k,f,g,j⟩:=i c.length (n0! _);rw[<-hl,u2!]at f;rw[u2!]at g;refine⟨l,f▸hs,j,?_⟩;rcases hd with⟨_,rfl⟩|⟨rest,hd⟩
 ·exact .inl (x0! (by simpa using k))
 ·exact .inr ⟨rest,by rw[g];exact hd⟩
end
mutual
def RT.bk:RT->Nat | .mk _ a b ps=>5+a.size+b.size+bkL ps
def bkL:List RT->Nat | []=>0 | r::rs=>r.bk+bkL rs
end
def relBk (x:ByteArray × RT):Nat:=2+x.1.size+x.2.bk
def sumN {α:Type}(f:α->Nat):List α->Nat | []=>0 | x::l=>f x+sumN f l
theorem dD! (x:ByteArray × RT):relBk x=2+x.1.size+x.2.bk:=rfl
def tyBk (t:TyS):Nat:=2+t.name.size+sumN relBk t.rels
theorem fe! (t:TyS):tyBk t=2+t.name.size+sumN relBk t.rels:=rfl
theorem mL! (l:List RT):bkL l=sumN RT.bk l:=by
 induction l with
 | nil=>rfl
 | cons x l ih=>rw[bkL,sumN,ih]
theorem kw! {H α:Type}{f:α->Nat}:∀ {l:List (α × DataW H)},(∀p∈l,f p.1<=Rows.uptoBulk p.2)->sumN f (l.map (·.1))<=Rows.uptoBulkAll (l.map (·.2))
 | [],_=>v1! _
 | p::l,h=>by
  rw[v8!,v8!,sumN,Rows.uptoBulkAll];have h1:=h p y4!;have h2:=kw! (l:=l) fun q hq=>h q (u9! _ hq);omega
theorem of! {H:Type}(d:DataW H):1<=Rows.uptoBulk d:=by
 cases d with
 | lit l=>cases l <;> simp[Rows.uptoBulk]
 | nil=>simp[Rows.uptoBulk]
 | ptr d=>simp[Rows.uptoBulk]
 | slice elems spare=>simp[Rows.uptoBulk]
 | agg parts=>simp[Rows.uptoBulk]
 | iface t d=>simp[Rows.uptoBulk]
 | map entries=>simp[Rows.uptoBulk]
 | held h=>simp[Rows.uptoBulk]
theorem gx! {H α:Type}{f:α->Nat}{l:List (α × DataW H)}{d:DataW H}(hd:l=[]\/∃rest,d= .slice (l.map (·.2)) rest)(h:∀p∈l,f p.1<=Rows.uptoBulk p.2):sumN f (l.map (·.1))+1<=Rows.uptoBulk d:=by
 rcases hd with rfl | ⟨rest,rfl⟩
 ·have:=of! d;simpa [sumN] using this
 ·rw[Rows.uptoBulk];have:=kw! (f:=f) h;omega
theorem fQ! {α β:Type}(g:β->Nat)(f:α->β)(l:List α):sumN (fun x=>g (f x)) l=sumN g (l.map f):=by
 induction l with
 | nil=>rfl
 | cons x l ih=>rw[v8!,sumN,sumN,ih]
theorem cM! {α:Type}(f:α->Nat) {a:α}:∀ {l:List α},a∈l->f a<=sumN f l
 | x::l,h=>by
  rw[sumN];rcases v7!.1 h with rfl | h
  ·omega
  ·have:=cM! f h;omega
section
variable {H : Type} {enc : TypeId × Value -> H} {W : World} {base : Nat} {v : Value} {d : DataW H} {ps : List MemPlace}
def RuleQ (W:World)(x:RT × Value)(d:DataW H):Prop:=RTAt (· < W.heap.size) W x.1 x.2/\(x.1.bk<=1048576->x.1.Ok)/\x.1.bk<=Rows.uptoBulk d
theorem dZ! (fuel:Nat):∀ {cs:List Value}{y:DataW H × List MemPlace},DataW.trod enc prog W 0 (fun _=>true) true fuel 106 cs=some y->∃x:RT × Value,cs=rC x/\RuleQ W x y.1:=by
 induction fuel using Nat.strongRecOn with
 | ind fuel ih =>
 intro cs y hy;obtain⟨xs,n,a2,a0,hl,c,g⟩:=DataW.trod_struct Tryz.underlying106 hy;rw[show prog.cellsOf 106=4 from by kernel_rfl]at hl
 obtain⟨o,h,q,t,rfl⟩:∃o h q t,cs=[o,h,q,t]:=by
  match cs,hl with
  | [o,h,q,t],_=>exact⟨o,h,q,t,rfl⟩
 have h0:=g 0 _ rfl;have h1:=g 1 _ rfl;have h2:=g 2 _ rfl;have h3:=g 3 _ rfl
 obtain⟨d,j,s,i,rfl⟩:∃d j s i,xs=[d,j,s,i]:=by
  match xs,c with
  | [d,j,s,i],_=>exact⟨d,j,s,i,rfl⟩
 have k0:prog.cellsOf 3=1:=by kernel_rfl
 have k1:prog.cellsOf 9=1:=by kernel_rfl
 have k2:prog.cellsOf 104=1:=by kernel_rfl
 obtain⟨k,e0,d0,w0⟩:=DataW.trod_int Tryz.underlying3 h0;obtain⟨a,e1,d1,wa⟩:=DataW.trod_string Tryz.underlying9 h1;obtain⟨b,e2,d2,wb⟩:=DataW.trod_string Tryz.underlying9 h2;simp[k0]at e0;simp[k1]at e1 e2;subst e0 e1 e2;have h3':DataW.trod enc prog W 0 (fun _=>true) true n 104 [t]=some i:=by simpa [k2] using h3
 obtain⟨l,hs,hq,hd⟩:=dM! rC (RuleQ W) Tryz.underlying104 (show _=4 by kernel_rfl) h3' (fun fuel' hlt cs y hy=>ih fuel' (by omega) hy)
 have a1:(RT.mk k a b (l.map (·.1.1))).bk<=Rows.uptoBulk y.1:=by
  have h4:=gx! (f:=fun x:RT × Value=>x.1.bk) hd fun p m=>(hq p m).2.2;rw[fQ! RT.bk (fun x:RT × Value=>x.1),List.map_map]at h4;rw[a0,d0,d1,d2,RT.bk,mL!];simp only[v8!,List.map_nil,Rows.uptoBulkAll,Rows.uptoBulk,Array.length_toList];have e:(l.map (·.1.1))=l.map ((fun x:RT × Value=>x.1) ∘ fun x=>x.1):=rfl;rw[e];show 5+a.data.size+b.data.size+_<=_
  omega
 refine⟨(.mk k a b (l.map (·.1.1)),t),rfl,(RTAt.iff _ _).2 ⟨l.map (·.1),by simp[RT.ps,List.map_map],fun x hx=>?_,hs⟩,fun hle=>?_,a1⟩
 ·obtain⟨p,m,rfl⟩:=u6!.1 hx;exact(hq p m).1
 ·rw[RT.bk]at hle;refine(RT.ok_iff _).2 ⟨?_,?_,?_,fun r hr=>?_⟩
  ·have:=w0;simp[Lit.wf]at this;exact this
  ·show a.size<=_;omega
  ·show b.size<=_;omega
  ·obtain⟨p,m,rfl⟩:=u6!.1 hr
   exact(hq p m).2.1 (by
    have:p.1.1.bk<=bkL (l.map (·.1.1)):=by
     rw[mL!];exact cM! _ (u6!.2 ⟨p,m,rfl⟩)
    omega)
def RelQ (W:World)(x:(ByteArray × RT) × Value)(d:DataW H):Prop:=RTAt (· < W.heap.size) W x.1.2 x.2/\(relBk x.1<=1048576->x.1.2.Ok)/\relBk x.1<=Rows.uptoBulk d
theorem eI! {fuel:Nat}{cs:List Value}{y:DataW H × List MemPlace}(hy:DataW.trod enc prog W 0 (fun _=>true) true fuel 181 cs=some y):∃x:(ByteArray × RT) × Value,cs=relC x/\RelQ W x y.1:=by
 obtain⟨xs,n,a4,a0,hl,b,hf⟩:=DataW.trod_struct Tryz.underlying181 hy;rw[show prog.cellsOf 181=5 from by kernel_rfl]at hl
 obtain⟨f,d,g,i,h,rfl⟩:∃f d g i h,cs=[f,d,g,i,h]:=by
  match cs,hl with
  | [f,d,g,i,h],_=>exact⟨f,d,g,i,h,rfl⟩
 have h0:=hf 0 _ rfl;have h1:=hf 1 _ rfl
 obtain⟨c,e,rfl⟩:∃c e,xs=[c,e]:=by
  match xs,b with
  | [c,e],_=>exact⟨c,e,rfl⟩
 have k0:prog.cellsOf 9=1:=by kernel_rfl
 have k1:prog.cellsOf 106=4:=by kernel_rfl
 obtain⟨a,e0,d0,wa⟩:=DataW.trod_string Tryz.underlying9 h0;simp[k0]at e0;subst e0;have h1':DataW.trod enc prog W 0 (fun _=>true) true n 106 [d,g,i,h]=some e:=by simpa [k1] using h1
 obtain⟨⟨r,pv⟩,hc,a2,a3,a1⟩:=dZ! n h1';simp only[rC,List.cons.injEq,and_true]at hc;obtain⟨rfl,rfl,rfl,rfl⟩:=hc;refine⟨((a,r),_),rfl,a2,fun hle=>a3 ?_,?_⟩
 ·unfold relBk at hle;dsimp only at hle ⊢;omega
 ·rw[a0,d0];simp only[v8!,List.map_nil,Rows.uptoBulkAll,Rows.uptoBulk,Array.length_toList];show 2+a.data.size+r.bk<=_
  dsimp only at a1;omega
def TyQ (W:World)(x:TyS × Value)(d:DataW H):Prop:=pS! (· < W.heap.size) W x.1.rels x.2/\(tyBk x.1<=1048576->x.1.Ok)/\tyBk x.1<=Rows.uptoBulk d
theorem dY! {fuel:Nat}{cs:List Value}{y:DataW H × List MemPlace}(hy:DataW.trod enc prog W 0 (fun _=>true) true fuel 176 cs=some y):∃x:TyS × Value,cs=tyC x/\TyQ W x y.1:=by
 obtain⟨xs,n,a1,a0,hl,b,hf⟩:=DataW.trod_struct Tryz.underlying176 hy;rw[show prog.cellsOf 176=2 from by kernel_rfl]at hl
 obtain⟨h,d,rfl⟩:∃h d,cs=[h,d]:=by
  match cs,hl with
  | [h,d],_=>exact⟨h,d,rfl⟩
 have h0:=hf 0 _ rfl;have h1:=hf 1 _ rfl
 obtain⟨c,e,rfl⟩:∃c e,xs=[c,e]:=by
  match xs,b with
  | [c,e],_=>exact⟨c,e,rfl⟩
 have k0:prog.cellsOf 9=1:=by kernel_rfl
 have k1:prog.cellsOf 174=1:=by kernel_rfl
 obtain⟨a,e0,d0,wa⟩:=DataW.trod_string Tryz.underlying9 h0;simp[k0]at e0;subst e0;have h1':DataW.trod enc prog W 0 (fun _=>true) true n 174 [d]=some e:=by simpa [k1] using h1
 obtain⟨l,hs,hq,hd⟩:=dM! relC (RelQ W) Tryz.underlying174 (show _=5 by kernel_rfl) h1' (fun fuel' _ cs y hy=>eI! hy);have h4:=gx! (f:=fun x:(ByteArray × RT) × Value=>relBk x.1) hd fun p g=>(hq p g).2.2;rw[fQ! relBk (fun x:(ByteArray × RT) × Value=>x.1),List.map_map]at h4;refine⟨(⟨a,l.map ((fun x:(ByteArray × RT) × Value=>x.1) ∘ fun x=>x.1)⟩,d),rfl,⟨l.map (·.1),by simp[List.map_map],fun x hx=>?_,hs⟩,fun hle=>?_,?_⟩
 ·obtain⟨p,g,rfl⟩:=u6!.1 hx;exact(hq p g).1
 ·unfold tyBk at hle;dsimp only at hle;refine⟨by show a.size<=_;omega,fun r hr=>?_⟩;have h5:=cM! relBk hr;obtain⟨p,g,rfl⟩:=u6!.1 hr;dsimp only[Function.comp_apply]at h5;refine⟨?_,(hq p g).2.1 (by omega)⟩;have h6:=dD! p.1.1;show p.1.1.1.size<=_
  omega
 ·rw[a0,d0,fe!];simp only[v8!,List.map_nil,Rows.uptoBulkAll,Rows.uptoBulk,Array.length_toList];show 2+a.data.size+sumN relBk (l.map ((fun x:(ByteArray × RT) × Value=>x.1) ∘ fun x=>x.1))+0<=_
  omega
def schBk (ts:List TyS):Nat:=sumN tyBk ts
theorem open_schemaV (hok:Value.okWide prog W .any base 26 v)(h:DataW.Trod enc prog W 0 (fun _=>true) true 26 v d ps):∃(ts:List TyS)(tv:Value),v= .agg #[tv]/\pU! (· < W.heap.size) W ts tv/\schBk ts+2<=Rows.uptoBulk d/\(schBk ts<=1048576->∀t∈ts,t.Ok):=by
 obtain⟨ca,rfl,_⟩:=okWide_struct Tryz.underlying26 hok;obtain⟨a1,hy⟩:=h;obtain⟨xs,n,a2,a0,hl,a,hf⟩:=DataW.trod_struct Tryz.underlying26 hy;rw[show prog.cellsOf 26=1 from by kernel_rfl]at hl
 obtain⟨g,hc⟩:∃g,(Value.agg ca).cells.toList=[g]:=by
  match (Value.agg ca).cells.toList,hl with
  | [g],_=>exact⟨g,rfl⟩
 have h0:=hf 0 _ rfl
 obtain⟨c,rfl⟩:∃c,xs=[c]:=by
  match xs,a with
  | [c],_=>exact⟨c,rfl⟩
 have k0:prog.cellsOf 24=1:=by kernel_rfl
 rw[hc]at h0;have h0':DataW.trod enc prog W 0 (fun _=>true) true n 24 [g]=some c:=by simpa [k0] using h0
 obtain⟨l,hs,hq,hd⟩:=dM! tyC (TyQ W) Tryz.underlying24 (show _=2 by kernel_rfl) h0' (fun fuel' _ cs y hy=>dY! hy);have h4:=gx! (f:=fun x:TyS × Value=>tyBk x.1) hd fun p e=>(hq p e).2.2;rw[fQ! tyBk (fun x:TyS × Value=>x.1),List.map_map]at h4;refine⟨l.map ((fun x:TyS × Value=>x.1) ∘ fun x=>x.1),g,congrArg Value.agg (Array.toList_inj.1 hc),⟨l.map (·.1),by simp[List.map_map],fun x hx=>?_,hs⟩,?_,fun hle t ht=>?_⟩
 ·obtain⟨p,e,rfl⟩:=u6!.1 hx;exact(hq p e).1
 ·have b:=congrArg Prod.fst a0;dsimp only at b;rw[b];simp only[v8!,List.map_nil,Rows.uptoBulkAll,Rows.uptoBulk];unfold schBk;omega
 ·have h5:=cM! tyBk ht;obtain⟨p,e,rfl⟩:=u6!.1 ht;unfold schBk at hle;exact(hq p e).2.1 (by dsimp only[Function.comp_apply]at h5;omega)
end
theorem sz_bk (r:RT):5*r.sz<=r.bk/\5+r.a.size+r.b.size<=r.bk:=by
 induction r using RT.ind with
 | h r ih =>
  obtain⟨k,a,b,c⟩:=r
  have:5*szL c<=bkL c:=by
   have hh:∀p∈c,5*p.sz<=p.bk:=fun p hp=>(ih p hp).1;clear ih;induction c with
   | nil=>simp[szL,bkL]
   | cons x c ih =>
    rw[szL,bkL];have h1:=hh x y4!;have h2:=ih fun p hp=>hh p (u9! _ hp);omega
  rw[RT.sz,RT.bk];refine⟨by omega,?_⟩;show 5+a.size+b.size<=_
  omega
theorem oE! (l:List (ByteArray × RT)):relW l<=20*sumN relBk l:=by
 induction l with
 | nil=>simp[relW]
 | cons x l ih =>
  rw[relW,sumN];have:=(sz_bk x.2).1;have:=dD! x;omega
theorem iO! (ts:List TyS):schW ts<=20*schBk ts:=by
 induction ts with
 | nil=>simp[schW]
 | cons t ts ih =>
  rw[schW];have:=oE! t.rels;unfold schBk at ih ⊢;rw[sumN];have:=fe! t;omega
theorem oC! (l:List (ByteArray × RT)):l.length<=sumN relBk l:=by
 induction l with
 | nil=>simp
 | cons x l ih=>rw[sumN,u7!];have:=dD! x;omega
theorem cV! (ts:List TyS):(an! ts).length<=schBk ts/\(ac! ts).length<=schBk ts:=by
 induction ts with
 | nil=>exact⟨v1! _,v1! _⟩
 | cons t ts ih =>
  have h1:=oC! t.rels;unfold schBk an! ac! at ih ⊢;rw[y5!,y5!,u4!,u4!,sumN];have h2:(aV! t.name t.rels).length=t.rels.length:=by unfold aV!;rw[x1!]
  have h3:(jt! t).length<=t.rels.length+1:=by unfold jt!;simp
  have:=fe! t;omega
theorem kQ! {ts:List TyS}(h:schBk ts<=1048576):∀t∈ts,∀r∈t.rels,r.2.sz<=1000000:=fun t ht r hr=>by
 have h1:=cM! tyBk ht;have h2:=cM! relBk hr;have h3:=(sz_bk r.2).1;unfold schBk at h;have h4:=fe! t;have h5:=dD! r;omega
theorem wt_bk (r:RT):r.wt+8<=4*r.bk:=by
 induction r using RT.ind with
 | h r ih =>
  obtain⟨k,a,b,c⟩:=r
  have:wtL c<=4*bkL c:=by
   have hh:∀p∈c,p.wt+8<=4*p.bk:=fun p hp=>ih p hp;clear ih;induction c with
   | nil=>simp[wtL,bkL]
   | cons x c ih =>
    rw[wtL,bkL];have h1:=hh x y4!;have h2:=ih fun p hp=>hh p (u9! _ hp);omega
  rw[RT.wt,RT.bk];omega
theorem oG! (l:List (ByteArray × RT)):relB l<=5*sumN relBk l:=by
 induction l with
 | nil=>simp[relB]
 | cons x l ih =>
  rw[relB,sumN];have:=wt_bk x.2;have:=dD! x;omega
theorem iP! (ts:List TyS):schB ts<=5*schBk ts:=by
 induction ts with
 | nil=>simp[schB]
 | cons t ts ih =>
  rw[schB];have:=oG! t.rels;unfold schBk at ih ⊢;rw[sumN];have:=fe! t;omega
end Go.Proofs.YtlhaghoajpglaaaGreat
namespace Go.Proofs.YtlhaghoajpglaaaGreat
open Go Go.RowKit Go.Maps Go.Shelf Go.Proofs.Tryz
theorem le! {l:List (ByteArray × RT)}(n:ByteArray) {rel:ByteArray}{i:Nat}(hi:i<l.length)(hr:l[i].1=rel)(hb:∀j (hj:j<l.length),j<i->l[j].1≠rel):lookA (aV! n l) ⟨n,rel⟩=some l[i].2:=by
 induction l generalizing i with
 | nil=>simp at hi
 | cons x l ih =>
  unfold aV!;rw[v8!,lookA];cases i with
  | zero=>rw[if_pos (by simpa using congrArg (R2.mk n) hr)];rfl
  | succ i =>
   have h0:=hb 0 (by simp) (by omega);rw[if_neg (by intro e;injection e with _ e;exact h0 e)]
   exact ih (by simpa using hi) (by simpa using hr) fun j hj hji=>by
    have:=hb (j+1) (by simpa using hj) (by omega);simpa using this
theorem RTAt.nil (S:Nat->Prop)(w:World)(k:Int)(a b:ByteArray):RTAt S w (.mk k a b []) (.slice none 0 0):=(RTAt.iff _ _).2 ⟨[],rfl,by simp,Sl.nil _ _ _⟩
theorem nB! {a b:List (R2 × RT)}{k:R2}(h:lookA a k=none):lookA (a++b) k=lookA b k:=by
 induction a with
 | nil=>rfl
 | cons x a ih =>
  rw[x2!,lookA];rw[lookA]at h;split at h
  ·cases h
  ·rename_i hn
   rw[if_neg hn];exact ih h
theorem fA! {a b:List (R2 × RT)}{k:R2}{r:RT}(h:lookA a k=some r):lookA (a++b) k=some r:=by
 induction a with
 | nil=>cases h
 | cons x a ih =>
  rw[x2!,lookA];rw[lookA]at h;split at h
  ·rename_i hp
   rw[if_pos hp];exact h
  ·rename_i hn
   rw[if_neg hn];exact ih h
theorem iV! {ts:List TyS}{i:Nat}{ty rel:ByteArray}(hb:∀j (hj:j<ts.length),j<i->ts[j].name≠ty):lookA (ac! (ts.take i)) ⟨ty,rel⟩=none:=by
 refine au!.2 fun p hp e=>?_;obtain⟨t,ht,hp⟩:=List.mem_flatMap.1 hp;obtain⟨r,hr,rfl⟩:=u6!.1 hp;obtain⟨m,hm,rfl⟩:=u0! ht;rw[x4!]at hm;rw[List.getElem_take]at e;injection e with e1 _
 exact hb m (by omega) (by omega) e1
theorem iU! {ts:List TyS}{i:Nat}(hi:i<ts.length):ac! ts=ac! (ts.take i)++(aV! ts[i].name ts[i].rels++ac! (ts.drop (i+1))):=by
 conv=>lhs;rw[<-x6! i ts,bH!,List.drop_eq_getElem_cons hi]
 rfl
theorem nk! {ts:List TyS}{i k:Nat}{ty rel:ByteArray}(hi:i<ts.length)(hn:ts[i].name=ty)(hb:∀j (hj:j<ts.length),j<i->ts[j].name≠ty)(hk:k<ts[i].rels.length)(hr:ts[i].rels[k].1=rel)(hb2:∀j (hj:j<ts[i].rels.length),j<k->ts[i].rels[j].1≠rel):lookA (ac! ts) ⟨ty,rel⟩=some ts[i].rels[k].2:=by
 rw[iU! hi,nB! (iV! hb)];refine fA! ?_;rw[<-hn];exact le! _ hk hr hb2
theorem lg! {ts:List TyS}(hu:aT! ts=true) {i:Nat}{ty rel:ByteArray}(hi:i<ts.length)(hn:ts[i].name=ty)(hb2:∀j (hj:j<ts[i].rels.length),ts[i].rels[j].1≠rel):lookA (ac! ts) ⟨ty,rel⟩=none:=by
 refine au!.2 fun p hp e=>?_;obtain⟨t,ht,r,hr,rfl⟩:=aY!.1 hp;injection e with e1 e2
 obtain rfl:=mk! hu ht (n5! hi) (e1.trans hn.symm);obtain⟨m,hm,rfl⟩:=u0! hr;exact hb2 m hm e2
theorem nj! {ts:List TyS}{ty rel:ByteArray}(hb:∀j (hj:j<ts.length),ts[j].name≠ty):lookA (ac! ts) ⟨ty,rel⟩=none:=by
 have:=iV! (ts:=ts) (i:=ts.length) (rel:=rel) fun j hj _=>hb j hj;rwa[u2!]at this
end Go.Proofs.YtlhaghoajpglaaaGreat
