/- Lemmas for the claim, no condition. -/
import Derived.Sort.MapsRangeIn
import Derived.Sort.KeysCollected
import Derived.Laws.EntriesVeiled
import Derived.Test.YtlhaghoajpglaaaGreatYPrMore4
import Derived.RangeFuncNested
set_option maxRecDepth 100000
set_option maxHeartbeats 8000000
namespace Go.Proofs.YtlhaghoajpglaaaGreat
open Go Go.Maps Go.RowKit Go.Proofs.Tryz
inductive PIt where
 | ty (n:ByteArray)
 | rel (n x:ByteArray) (ys:List ByteArray)
def stepD (ts:List TyS):PIt->List TyS
 | .ty n=>ts++[⟨n,[]⟩]
 | .rel n x ys=>ts.dropLast++(ts.drop (ts.length-1)).map fun t=>⟨t.name,t.rels++[(n,altR x ys)]⟩
theorem jz! (a:List TyS)(t:TyS)(n x:ByteArray)(ys:List ByteArray):stepD (a++[t]) (.rel n x ys)=a++[⟨t.name,t.rels++[(n,altR x ys)]⟩]:=by
 unfold stepD;dsimp only;rw[List.dropLast_concat,u4!,List.length_singleton,Nat.add_sub_cancel,List.drop_left];rfl
theorem tysT:oi! prog 24 176 2 40:=oi!.mk' Tryz.underlying24 (show _=some (some (.agg #[.string ByteArray.empty,.slice none 0 0]),2,40)by kernel_rfl) rfl (by decide)
theorem fV!:oi! prog 174 181 5 80:=oi!.mk' Tryz.underlying174 (show _=some (some (.agg #[.string ByteArray.empty,.int .i64 0,.string ByteArray.empty,.string ByteArray.empty,.slice none 0 0]),5,80)by kernel_rfl) (by kernel_rfl) (by decide)
theorem Own.setAt {w:World}{B sz:Nat}{e:TypeId}{g n c:Nat}{xs:List Value}(h:Own w B e sz (.slice (some ⟨g,0,none⟩) n c) xs)(i:Nat)(u:Value):Own (w.setCell ⟨g,i,none⟩ u) B e sz (.slice (some ⟨g,0,none⟩) n c) (xs.set i u):=by
 obtain⟨m,h⟩:=h;rcases h.2 with⟨hv,rfl⟩|⟨g',cap,cur,hv,hbg,hg,hnc,hcm,hcs,htake⟩
 ·cases hv
 ·cases hv;have hl:=h.1;refine⟨n,by rw[List.length_set];exact hl,.inr ⟨g,c,cur.setIfInBounds i u,rfl,hbg,heap_setCell_same w g i cur e u hg,hnc,hcm,by simpa using hcs,?_⟩⟩;rw[Array.toList_setIfInBounds,<-htake,List.take_set]
def Fo (w:World)(L:Nat)(tv rv:Value)(b:Nat):Prop:=(L<=b/\b<w.heap.size)/\tv.ownBlock≠some b/\rv.ownBlock≠some b
structure PAt (L:Nat)(w:World)(tv:Value)(pre:List (TyS × Value))(n:ByteArray)(rv:Value)(qr:List ((ByteArray × RT) × Value)):Prop where
 tys:Own w L 176 2 tv ((pre++[((⟨n,qr.map (·.1)⟩:TyS),rv)]).flatMap tyC)
 rels:Own w L 181 5 rv (qr.flatMap relC)
 pr:∀x∈pre,oq! (Fo w L tv rv) w x.1.rels x.2
 rr:∀x∈qr,RTAt (Fo w L tv rv) w x.1.2 x.2
section
variable {L : Nat} {w w' : World} {tv tv' rv rv' : Value} {pre : List (TyS × Value)} {n : ByteArray} {qr : List ((ByteArray × RT) × Value)}
theorem PAt.keep (h:PAt L w tv pre n rv qr)(hk:∀b,L<=b->b<w.heap.size->w'.heap[b]?=w.heap[b]?)(hz:w.heap.size<=w'.heap.size):PAt L w' tv pre n rv qr:=by
 have hs:Same (Fo w L tv rv) w w':=fun b hb=>hk b hb.1.1 hb.1.2;have hm:∀b,Fo w L tv rv b->Fo w' L tv rv b:=fun b hb=>⟨⟨hb.1.1,n1! hb.1.2 hz⟩,hb.2⟩;exact⟨h.tys.keepOwn fun g hg=>hk g (h.tys.block g hg).1 (h.tys.block g hg).2,h.rels.keepOwn fun g hg=>hk g (h.rels.block g hg).1 (h.rels.block g hg).2,fun x hx=>((h.pr x hx).same hs).mono hm,fun x hx=>((h.rr x hx).same hs).mono hm⟩
theorem PAt.ty {m:ByteArray}(h:PAt L w tv pre n rv qr)(hk:∀b,L<=b->b<w.heap.size->tv.ownBlock≠some b->w'.heap[b]?=w.heap[b]?)(hz:w.heap.size<=w'.heap.size)
  (ho:Own w' L 176 2 tv' ((pre++[((⟨n,qr.map (·.1)⟩:TyS),rv)]).flatMap tyC++[.string m,.slice none 0 0])) (hb:∀g,tv'.ownBlock=some g->tv.ownBlock=some g\/w.heap.size<=g):PAt L w' tv' (pre++[((⟨n,qr.map (·.1)⟩:TyS),rv)]) m (.slice none 0 0) []:=by
 have hs:Same (Fo w L tv rv) w w':=fun b hb=>hk b hb.1.1 hb.1.2 hb.2.1
 have hm:∀b,Fo w L tv rv b->Fo w' L tv' (.slice none 0 0) b:=fun b hb'=>⟨⟨hb'.1.1,n1! hb'.1.2 hz⟩,fun e=>by
  rcases hb b e with e | e
  ·exact hb'.2.1 e
  ·have:=hb'.1.2;omega,fun e=>(by cases e)⟩
 have c:∀g,rv.ownBlock=some g->tv.ownBlock≠some g:=fun g hg=>h.rels.apart h.tys (by decide) hg;have a:Own w' L 181 5 rv (qr.flatMap relC):=h.rels.keepOwn fun g hg=>hk g (h.rels.block g hg).1 (h.rels.block g hg).2 (c g hg);refine⟨by rw[x9!];exact ho,Own.nil _ _ _ _,fun x hx=>?_,fun x hx=>(by cases hx)⟩;rcases u3!.1 hx with hx | hx
 ·exact((h.pr x hx).same hs).mono hm
 ·obtain rfl:=n9!.1 hx;refine⟨qr,rfl,fun x hx=>((h.rr x hx).same hs).mono hm,a.slFo fun g hg=>⟨⟨(a.block g hg).1,(a.block g hg).2⟩,fun e=>?_,fun e=>(by cases e)⟩⟩;rcases hb g e with e | e
  ·exact c g hg e
  ·have:=(h.rels.block g hg).2;omega
theorem PAt.first {m:ByteArray}(ho:Own w' L 176 2 tv' [.string m,.slice none 0 0]):PAt L w' tv' [] m (.slice none 0 0) [] :=
 ⟨ho,Own.nil _ _ _ _,fun x hx=>(by cases hx),fun x hx=>(by cases hx)⟩
theorem PAt.rel {m:ByteArray}{r:RT}{pv:Value}{g k c:Nat}(h:PAt L w (.slice (some ⟨g,0,none⟩) k c) pre n rv qr)(hk:∀b,L<=b->b<w.heap.size->rv.ownBlock≠some b->w'.heap[b]?=w.heap[b]?)(hz:w.heap.size<=w'.heap.size)
  (ho:Own w' L 181 5 rv' (qr.flatMap relC++relC ((m,r),pv))) (hb:∀g,rv'.ownBlock=some g->rv.ownBlock=some g\/w.heap.size<=g) (hr:RTAt (Fo w L (.slice (some ⟨g,0,none⟩) k c) rv) w r pv):PAt L (w'.setCell ⟨g,pre.length*2+1,none⟩ rv') (.slice (some ⟨g,0,none⟩) k c) pre n rv' (qr++[((m,r),pv)]):=by
 have a0:rv.ownBlock≠some g:=fun e=>h.rels.apart h.tys (by decide) e rfl
 have a:Own w' L 176 2 (.slice (some ⟨g,0,none⟩) k c) ((pre++[((⟨n,qr.map (·.1)⟩:TyS),rv)]).flatMap tyC):=h.tys.keepOwn fun x hx=>by
  cases hx;exact hk g (h.tys.block g rfl).1 (h.tys.block g rfl).2 a0
 have hrg':rv'.ownBlock≠some g:=fun e=>ho.apart a (by decide) e rfl
 have hs:Same (Fo w L (.slice (some ⟨g,0,none⟩) k c) rv) w (w'.setCell ⟨g,pre.length*2+1,none⟩ rv'):=fun b hb =>
  (Below.heap_setCell w' _ _ b (fun e=>hb.2.1 (by rw[e];rfl))).trans (hk b hb.1.1 hb.1.2 hb.2.2)
 have hm:∀b,Fo w L (.slice (some ⟨g,0,none⟩) k c) rv b->Fo (w'.setCell ⟨g,pre.length*2+1,none⟩ rv') L (.slice (some ⟨g,0,none⟩) k c) rv' b:=fun b hb'=>⟨⟨hb'.1.1,by simp;exact n1! hb'.1.2 hz⟩,hb'.2.1,fun e=>by
  rcases hb b e with e | e
  ·exact hb'.2.2 e
  ·have:=hb'.1.2;omega⟩
 refine⟨?_,?_,fun x hx=>((h.pr x hx).same hs).mono hm,fun x hx=>?_⟩
 ·have:=a.setAt (pre.length*2+1) rv'
  rwa[show((pre++[((⟨n,qr.map (·.1)⟩:TyS),rv)]).flatMap tyC).set (pre.length*2+1) rv'=(pre++[((⟨n,(qr++[((m,r),pv)]).map (·.1)⟩:TyS),rv')]).flatMap tyC from by
   rw[x9!,x9!,List.set_append_right (h:=by rw[ac! aC!];omega),ac! aC!];rw[Nat.add_sub_cancel_left];rfl]at this
 ·rw[x9!];exact(show Own w' L 181 5 rv' (qr.flatMap relC++[((m,r),pv)].flatMap relC)from by simpa using ho).keepOwn fun x hx=>Below.heap_setCell _ _ _ _ fun e=>hrg' (by rw[hx,e])
 ·rcases u3!.1 hx with hx | hx
  ·exact((h.rr x hx).same hs).mono hm
  ·obtain rfl:=n9!.1 hx;exact(hr.same hs).mono hm
theorem PAt.tysAt (h:PAt L w tv pre n rv qr):ou! (fun b=>L<=b/\b<w.heap.size) w (pre.map (·.1)++[⟨n,qr.map (·.1)⟩]) tv:=by
 refine⟨pre++[((⟨n,qr.map (·.1)⟩:TyS),rv)],by simp,fun x hx=>?_,h.tys.sl⟩;rcases u3!.1 hx with hx | hx
 ·exact(h.pr x hx).mono fun b hb=>hb.1
 ·obtain rfl:=n9!.1 hx;exact⟨qr,rfl,fun x hx=>(h.rr x hx).mono fun b hb=>hb.1,h.rels.sl⟩
end
def PIt.toks:PIt->List ByteArray
 | .ty n => [⟨#[116,121,112,101]⟩,n]
 | .rel n x ys=>n::⟨#[61]⟩::altT x ys
def PIt.Fit:PIt->Prop
 | .ty n=>isNm n=true/\n≠⟨#[116,104,105,115]⟩
 | .rel n x ys=>isNm n=true/\n≠⟨#[116,104,105,115]⟩/\n≠⟨#[116,121,112,101]⟩/\(∀z∈x::ys,isNm z=true)/\ys.length<=100000
structure LnOk (s:ByteArray)(it:PIt):Prop where
 size:s.size<=65536
 two:2<=s.size
 first:∀h:0<s.size,s[0]≠32/\s[0]≠9
 slash:s.extract 0 2≠⟨#[47,47]⟩
 plain:∀j (hj:j<s.size),gT! s[j]=true
 toks:toksD s=it.toks
def PSt (L:Nat)(w:World)(tv:Value)(ts:List TyS)(N:Nat):Prop :=
 (N=0/\ts=[]/\tv= .slice none 0 0)\/∃pre n rv qr,PAt L w tv pre n rv qr/\ts=pre.map (·.1)++[⟨n,qr.map (·.1)⟩]/\pre.length+1<=N/\qr.length<=N
theorem PSt.own {L N:Nat}{w:World}{tv:Value}{ts:List TyS}(h:PSt L w tv ts N):∃cs,Own w L 176 2 tv cs/\cs.length<=2*N/\(∀w' tv' m,(∀b,L<=b->b<w.heap.size->tv.ownBlock≠some b->w'.heap[b]?=w.heap[b]?)->w.heap.size<=w'.heap.size ->
  Own w' L 176 2 tv' (cs++[.string m,.slice none 0 0])->(∀g,tv'.ownBlock=some g->tv.ownBlock=some g\/w.heap.size<=g)->PSt L w' tv' (stepD ts (.ty m)) (N+1)):=by
 rcases h with⟨rfl,rfl,rfl⟩|⟨pre,n,rv,qr,h,rfl,h1,h2⟩
 ·exact⟨[],Own.nil _ _ _ _,by simp,fun w' tv' m _ _ ho _ => .inr ⟨[],m,_,[],PAt.first ho,rfl,by simp,by simp⟩⟩
 ·refine⟨_,h.tys,?_,fun w' tv' m hk hz ho hb => .inr ⟨_,m,_,[],h.ty hk hz ho hb,?_,?_,by simp⟩⟩
  ·rw[ac! aC!];simp;omega
  ·simp[stepD]
  ·simp;omega
theorem PSt.keep {L N:Nat}{w w':World}{tv:Value}{ts:List TyS}(h:PSt L w tv ts N)(hk:∀b,L<=b->b<w.heap.size->w'.heap[b]?=w.heap[b]?)(hz:w.heap.size<=w'.heap.size):PSt L w' tv ts N:=by
 rcases h with h | ⟨pre,n,rv,qr,h,r⟩
 ·exact .inl h
 ·exact .inr ⟨pre,n,rv,qr,h.keep hk hz,r⟩
theorem PSt.tysAt {L N:Nat}{w:World}{tv:Value}{ts:List TyS}(h:PSt L w tv ts N):ou! (fun b=>L<=b/\b<w.heap.size) w ts tv:=by
 rcases h with⟨_,rfl,rfl⟩|⟨pre,n,rv,qr,h,rfl,_,_⟩
 ·exact⟨[],rfl,(fun x hx=>(by cases hx)),Sl.nil _ _ _⟩
 ·exact h.tysAt
theorem Own.layN {w:World}{B sz:Nat}{e:TypeId}{v:Value}{xs:List Value}(h:Own w B e sz v xs)(hx:xs≠[]):∃g n c cs,v= .slice (some ⟨g,0,none⟩) n c/\xs.length=n*sz/\B<=g/\Blk w g cs e/\n<=c/\c<=9223372036854775807/\(∀i (hi:i<xs.length),cs[i]?=some xs[i]):=by
 obtain⟨m,h⟩:=h;rcases h.2 with⟨hv,he⟩|⟨g',cap,cur,hv,hbg,hg,hnc,hcm,hcs,htake⟩
 ·exact absurd (List.length_eq_zero_iff.1 (by have:=h.1;rw[he]at this;simpa using this)) hx
 ·refine⟨g',m,cap,cur,hv,h.1,hbg,hg,hnc,by unfold maxLen at hcm;omega,fun i hi=>?_⟩;have h1:=congrArg (fun l:List Value=>l[i]?) htake;rw[List.getElem?_take_of_lt (by rw[<-h.1];exact hi),n4! hi]at h1;simpa using h1
theorem eZ! (its:List PIt) {i:Nat}(hi:i<its.length):(its.take (i+1)).foldl stepD []=stepD ((its.take i).foldl stepD []) its[i]:=by
 rw[n2! hi,List.foldl_append];rfl
theorem jP! (s:ByteArray)(its:List PIt)(w:World)(hs:s.size<=65536)(hl:(dm! s).length=its.length)(hln:∀i (hi:i<its.length)(hj:i<(dm! s).length),LnOk (dm! s)[i] its[i])(hok:∀it∈its,it.Fit)(h0:∀h:0<its.length,∃n,its[0]= .ty n)(hN:its.length<=70000) :
  Calls prog 33 #[.string s] w fun e w'=>∃tv,e= .returned (.tuple #[.agg #[tv],.int .i64 0,.int .i64 0])/\ou! (fun b=>w.heap.size<=b/\b<w'.heap.size) w' (its.foldl stepD []) tv/\Below w.heap.size w w':=by
 obtain⟨w1,ar⟩:=e! (w.alloc (.cells #[.slice none 0 0] 26));obtain⟨w2,aB⟩:=e! (w1.alloc (.cells #[.slice none 0 0] 26));have e1:w1.heap.size=w.heap.size+1:=by rw[ar];simp
 have e2:w2.heap.size=w.heap.size+2:=by rw[aB];simp[e1]
 have bz:Ext w w1:=xa! ar
 have be:Ext w1 w2:=xa! aB
 have R:=h! (show Blk w2 w.heap.size #[.slice none 0 0] 26 from Blk.below (bm! ar) be);have a8:=h! (show Blk w2 (w.heap.size+1) #[.slice none 0 0] 26 from by rw[aB,<-e1];exact Blk.made _ _ _);have bA:Hid (Below w.heap.size w w2):=h! (bz.trans be);have aQ:=h! (jX! s hs w2);rw[e2]at aQ;have HL:=h! hl;have cA:=h! hln;have ca:=h! hok;have HZ:=h! h0;have HN:=h! hN;have d2:(s.size:Int)<=65536:=by omega
 subst aB ar;clear hs hl hln hok h0 hN bz be e1 e2;go_enter func33,ntmps33
 go_wp2_with fail
 refine aQ.out.mono ?_;rintro e wL ⟨lv,rfl,G,V⟩;have bR:=h! (R.out.below (V.mono (by simp)));have ac:=h! (a8.out.below (V.mono (by simp)));have bQ:=h! (bA.out.trans (V.mono (by simp)));have Q:=h! (show w.heap.size+2<=wL.heap.size from by have:=V.size;simpa using this);obtain⟨cG,nL,cL,rfl,bk,cf,cp⟩:=G.sl.len;rw[ae!,Nat.mul_one,HL.out]at bk;subst bk
 have cq:=h! (show ∀i (hi:i<its.length) (hj:i<(dm! s).length),∃b off,cG=some ⟨b,off,none⟩/\(w.heap.size+2<=b/\b<wL.heap.size)/\wL.cell? ⟨b,off+i,none⟩=some (.string (dm! s)[i])from fun i hi hj=>by
  have h:=G.sl;rw[<-HL.out]at h;exact bo! h i hj)
 clear R a8 bA aQ V G;generalize dm! s=ls at *;go_wp2_with fail
 go_loopw [20] (fun ii wr=>∃(i:Nat) (tv:Value),ii= .int .i64 i/\i<=its.length/\Below w.heap.size w wr/\(∀b,w.heap.size+2<=b->b<wL.heap.size->wr.heap[b]?=wL.heap[b]?)/\Blk wr w.heap.size #[.slice none 0 0] 26/\Blk wr (w.heap.size+1) #[tv] 26/\wL.heap.size<=wr.heap.size/\PSt wL.heap.size wr tv ((its.take i).foldl stepD []) i) (fun ii _=>its.length-(intOf ii).toNat)
 case atStart=>exact⟨0,_,rfl,by omega,bQ.out,fun _ _ _=>rfl,bR.out,ac.out,n0! _,.inl ⟨rfl,rfl,rfl⟩⟩
 case round =>
  obtain⟨i,tv,rfl,hi,ao,bK,b3,ba,ag,bD⟩:=hrel;clear bR ac bQ;have aF:=h! ao;have bc:=h! bK;have R:=h! b3;have a8:=h! ba;have bl:=h! ag;have a7:=h! bD;have HI:=h! hi;clear ao bK ag bD;by_cases hlt:i<its.length
  ·have hj:i<ls.length:=by rw[HL.out];exact hlt
   obtain⟨bL,ah,rfl,V,bn⟩:=cq.out i hlt hj;have c4:wr.cell? ⟨bL,ah+i,none⟩=some (.string ls[i]):=(World.cell?_of_block (a:=⟨bL,ah+i,none⟩) (bc.out bL V.1 V.2)).trans bn;have J:=h! (cA.out i hlt hj);have bH:=h! (ca.out its[i] (n5! hlt));have bE:=h! (eZ! its hlt);have ck:=h! (show i=0->∃n,its[i]= .ty n from fun h=>by subst h;exact HZ.out hlt);clear bn;generalize ls[i]=ln at *;generalize its[i]=it at *;have br:=h! (jd! ln (by have:=J.out.size;unfold maxLen;omega) J.out.two (ln[0]'(by have:=J.out.two;omega)) rfl (J.out.first (by have:=J.out.two;omega)).1 (J.out.first (by have:=J.out.two;omega)).2 J.out.slash wr);have aW:=h! (hy! ln J.out.size J.out.plain wr);rw[J.out.toks]at aW;go_wp2_with fail
   refine br.out.mono ?_;rintro e wx ⟨rfl,rfl⟩;go_wp2_with fail
   refine aW.out.mono ?_;rintro e w2 ⟨v2,rfl,q,M⟩;have O:=h! (R.out.below M);have I:=h! (a8.out.below M);have E:=h! (aF.out.trans (M.mono aF.out.size));have a1:Hid (∀b,w.heap.size+2<=b->b<wL.heap.size->w2.heap[b]?=wL.heap[b]?):=h! (fun b h1 h2=>(M.block b (n1! h2 bl.out)).trans (bc.out b h1 h2));have A:=h! (n6! bl.out M.size);have cF:Hid (wx.heap.size<=w2.heap.size):=h! M.size;have am:=h! (a7.out.keep (fun b _ h=>M.block b h) M.size);have aJ:=h! (show ∀g,tv.ownBlock=some g->wL.heap.size<=g/\g<wx.heap.size from fun g hg=>by obtain⟨cs,hc,-⟩:=a7.out.own;exact hc.block g hg);have cv:=I.out.cells;have ci:=I.out.free;clear b3 ba R a8 aF bc br aW a7 c4;cases it with
   | ty n =>
    obtain⟨X,a9⟩:=bH.out;have a5:Hid (Sl (fun b=>wx.heap.size<=b/\b<w2.heap.size) w2 1 v2 (txs [⟨#[116,121,112,101]⟩,n])):=h! q.sl;obtain⟨ch,nT,cT,rfl,B,aU,bd⟩:=a5.out.len;obtain rfl:nT=2:=by rw[ae!]at B;simpa using B.symm
    have Y:=bo! (l:=[⟨#[116,121,112,101]⟩,n]) a5.out;obtain⟨bT,f,rfl,ae,t0⟩:=Y 0 (by simp);obtain⟨cC,an,aZ,-,t1⟩:=Y 1 (by simp);cases aZ;rw[Nat.add_zero]at t0;have t0':w2.cell? ⟨bT,f,none⟩=some (.string ⟨#[116,121,112,101]⟩):=t0;have t1':w2.cell? ⟨bT,f+1,none⟩=some (.string n):=t1;have y:=X
    have Z:=h! (az! n (by
     unfold isNm at y;simp only[v0!,u1!]at y;unfold maxLen;omega) w2)
    rw[X]at Z;have a2:=aV! a9;rw[<-u5!,show(⟨#[116,104,105,115]⟩:ByteArray).data.toList=[116,104,105,115]from rfl]at a2;clear Y t0 t1 B X a9 y q M;go_wp2_with fail
    refine Z.out.mono ?_;rintro e wy ⟨rfl,rfl⟩;clear Z;go_wp2_with fail
    obtain⟨cX,aM,ab,F⟩:=am.out.own;obtain⟨t,kt,ct,rfl,-,-,-⟩:=aM.sl.len;have bp:=h! ab;have ax:=h! F;have cJ:=h! aM;clear ab F aM;obtain⟨wd,H⟩:=e! wy.drew;have hE:Ext wy wd:=by rw[H];exact Ext.drew wy
    have az:Blk wd (w.heap.size+1) #[.slice t kt ct] 26:=I.out.below hE;have ap:wd.cell? ⟨bT,f+1,none⟩=some (.string n):=Ext.cell hE t1';have bF:Value.ownBlock (.slice t kt ct)≠some bT:=fun e=>by have:=(aJ.out bT e).2;have:=ae.1;omega
    have bg:Value.ownBlock (.slice t kt ct)≠some (w.heap.size+1):=fun e=>by have:=(aJ.out _ e).1;have:=Q.out;omega
    have aR:=h! bg;have aN:=h! (cJ.out.below hE);have aH:=h! (show wd.heap.size=wy.heap.size from by rw[H];rfl)
    have b1:∀W,Kept (fun b=>b<wd.heap.size/\Value.ownBlock (.slice t kt ct)≠some b) wd W->W.cell? ⟨w.heap.size+1,0,none⟩=some (.slice t kt ct):=fun W hW=>by
     rw[(hW.blk az ⟨az.lt,bg⟩).cells];rfl
    have aI:∀W,Kept (fun b=>b<wd.heap.size/\Value.ownBlock (.slice t kt ct)≠some b) wd W->W.cell? ⟨bT,f+1,none⟩=some (.string n):=fun W hW =>
     (World.cell?_of_block (a:=⟨bT,f+1,none⟩) (hW.block bT ⟨World.block_lt_of_cell? wd _ ap,bF⟩)).trans ap
    refine ah! 9 (Kept (fun b=>b<wd.heap.size/\Value.ownBlock (.slice t kt ct)≠some b) wd) (by rw[<-H];exact Kept.refl _ _) (by kernel_rfl) (by kernel_rfl) (fun _ _ d _ _ h=>by cases d <;> exact h) ?_;rw[<-H];clear H bF bg;(refine WalkL.tk [0,1,2,3,4,5] ?_;(iterate 6 (refine l! ?_));refine TkL.n ?_)
    refine oL! 6 ?_;refine b! ?_;intro K hK;go_simp;refine hK.out _ _ ((Kept.refl _ wd).alloc (fun b hb=>hb.1) _) ?_;clear hK;refine oL! 7 ?_;refine b! ?_;intro K hK;refine aP! tysT (.tmp 57) (.tmp 62) rfl rfl (aN.out.below (Ext.alloc wd _)) rfl (m:=1) (news:=[.string n,.slice none 0 0]) rfl (fun j u hu=>?_) (by simp[Value.oneCell']) (by have:=bp.out;have:=HI.out;have:=HN.out;simp;omega) (by have:=bp.out;have:=HI.out;have:=HN.out;simp;omega) (by have:=aH.out;have:=A.out;simp;omega) (fun v5 w5 hown5 hb5 hgr5=>?_)
    ·rw[Addr.add_lit,cell_of_row _ wd.heap.size (0+j) #[.string n,.slice none 0 0] 176 (0,0) (heap_alloc_new wd _)];simpa using hu
    have N:Kept (fun b=>b<wd.heap.size/\Value.ownBlock (.slice t kt ct)≠some b) wd w5:=((Kept.refl _ wd).alloc (fun b hb=>hb.1) (.cells #[.string n,.slice none 0 0] 176)).trans ⟨hgr5.os,hgr5.tape,hgr5.output,hgr5.size,fun b hb=>hgr5.block b (by have:=hb.1;simp;omega) (fun e=>hb.2 e.symm)⟩;refine hK.out _ _ N ?_;clear hK;simp only[Act.put,pA,pZ,pS];have hb5':∀g,v5.ownBlock=some g->(Value.slice t kt ct).ownBlock=some g\/wd.heap.size<=g:=fun g hg=>(hb5 g hg).imp id (fun h=>by simp at h;omega);obtain⟨o,k5,c5,rfl,-,-,-⟩:=hown5.sl.len;have aD:=N.blk az ⟨az.lt,aR.out⟩;have cd:=h! aD;have r5:=aD.cells;have f5:=aD.free;have C:Hid (Kept (fun b=>b<wd.heap.size/\Value.ownBlock (.slice t kt ct)≠some b) wd w5):=h! N;have aE:=h! hown5;have bi:=h! hb5';have HE:=h! hE;clear b1 aI hb5 hgr5 N aD hown5 hb5' hE;((refine WalkL.take 8 _ ?_ (by simp only[gA,gS,gZ];rfl) (by kernel_rfl) (by kernel_rfl) (by kernel_rfl) (by rfl) (fun W hW=>?_) ?_;rotate_left;· (go_simp;try with_reducible rfl));simp only[Act.put,pA,pZ,pS])
    refine WalkL.last (by kernel_rfl) (by kernel_rfl) ?_;refine b! ?_;intro K hK;go_simp;refine hK.out _ _ ?_;clear hK r5 f5;have aC:wy.heap.size<=w5.heap.size:=by have:=C.out.size;have:=aH.out;omega
    have aA:=h! (show ∀b,b<wy.heap.size->Value.ownBlock (.slice t kt ct)≠some b->w5.heap[b]?=wy.heap[b]? from fun b h1 h2=>(C.out.block b ⟨by rw[aH.out];exact h1,h2⟩).trans (HE.out.block b h1));have bY:=h! (show ∀b,wL.heap.size<=b->(w5.setCell ⟨w.heap.size+1,0,none⟩ (.slice o k5 c5)).heap[b]?=w5.heap[b]? from fun b hb=>Below.heap_setCell _ _ _ _ (by have:=Q.out;show b≠w.heap.size+1;omega));have bf:=h! (ax.out (w5.setCell ⟨w.heap.size+1,0,none⟩ (.slice o k5 c5)) (.slice o k5 c5) n (fun b h1 h2 h3=>(bY.out b h1).trans (aA.out b h2 h3)) (by simpa using aC) (aE.out.keepOwn fun g hg=>bY.out g (aE.out.block g hg).1) (fun g hg=>by have:=bi.out g hg;rwa[aH.out]at this));have a0:=h! (show ∀g,g<wL.heap.size->Value.ownBlock (.slice t kt ct)≠some g from fun g hg e=>by have:=(aJ.out g e).1;omega)
    have aa:∀b,w.heap.size+2<=b->b<wL.heap.size->(w5.setCell ⟨w.heap.size+1,0,none⟩ (.slice o k5 c5)).heap[b]?=wL.heap[b]?:=fun b h1 h2 =>
     ((Below.heap_setCell _ _ _ _ (show b≠w.heap.size+1 by omega)).trans (aA.out b (n1! h2 A.out) (a0.out b h2))).trans (a1.out b h1 h2)
    have aw:Blk (w5.setCell ⟨w.heap.size+1,0,none⟩ (.slice o k5 c5)) w.heap.size #[.slice none 0 0] 26 :=
     ((Below.heap_setCell _ _ _ _ (show w.heap.size≠w.heap.size+1 by omega)).trans (aA.out _ O.out.lt (a0.out _ (by have:=Q.out;omega)))).trans O.out
    have ad:Blk (w5.setCell ⟨w.heap.size+1,0,none⟩ (.slice o k5 c5)) (w.heap.size+1) #[.slice o k5 c5] 26:=cd.out.set_to 0 _ rfl
    have L:Below w.heap.size w (w5.setCell ⟨w.heap.size+1,0,none⟩ (.slice o k5 c5)):=by
     refine Below.setCell (Below.trans E.out ?_) (Nat.le_succ _) _;have h1:=C.out;exact⟨h1.os.trans HE.out.os,h1.tape.trans HE.out.tape,h1.output.trans HE.out.output,aC,fun b hb=>aA.out b (n1! hb E.out.size) (a0.out b (by have:=Q.out;omega))⟩
    have c:Hid (_/\_/\_/\_):=h! ⟨aa,aw,ad,L⟩;have cz:=h! aC;clear aa aw ad L aC;go_wp2_with fail
    go_roundw
    case rel=>exact⟨i+1,_,by go_num,by omega,c.out.2.2.2,c.out.1,c.out.2.1,c.out.2.2.1,by have:=cz.out;have:=A.out;simp;omega,by rw[bE.out];exact bf.out⟩
    case measure=>simp[intOf];omega
   | rel n x ys =>
    obtain⟨X,a9,bW,bv,bS⟩:=bH.out;have a5:Hid (Sl (fun b=>wx.heap.size<=b/\b<w2.heap.size) w2 1 v2 (txs (n::⟨#[61]⟩::altT x ys))):=h! q.sl;obtain⟨ch,nT,cT,rfl,B,aU,bd⟩:=a5.out.len;have Y:=bo! (l:=n::⟨#[61]⟩::altT x ys) (by rw[ae!,Nat.mul_one]at B;rw[B];exact a5.out);obtain⟨bT,f,rfl,ae,t0⟩:=Y 0 (by simp);obtain⟨cC,an,aZ,-,t1⟩:=Y 1 (by simp);cases aZ;rw[Nat.add_zero]at t0;have t0':w2.cell? ⟨bT,f,none⟩=some (.string n):=t0;have t1':w2.cell? ⟨bT,f+1,none⟩=some (.string ⟨#[61]⟩):=t1;have cy:=h! (q.typed (g:=bT) rfl)
    have bj:=h! (show nT=2*ys.length+3 from by
     rw[ae!,Nat.mul_one,u7!,u7!]at B;unfold altT at B;rw[u7!,cv!]at B;omega)
    have bN:=h! (lt! (S:=fun b=>wx.heap.size<=b/\b<w2.heap.size) x ys (.slice (some ⟨bT,f+2,none⟩) (nT-2) (cT-2)) w2 (fun b hb=>hb.2) bv bS (by
     have:=a5.out.drop 2 (by have:=bj.out;omega);rwa[show(txs (n::⟨#[61]⟩::altT x ys)).drop 2=txs (altT x ys)from rfl]at this))
    have y:=X
    have Z:=h! (az! n (by
     unfold isNm at y;simp only[v0!,u1!]at y;unfold maxLen;omega) w2)
    rw[X]at Z;have a2:=aV! a9;rw[<-u5!,show(⟨#[116,104,105,115]⟩:ByteArray).data.toList=[116,104,105,115]from rfl]at a2;have aP:=aV! bW;rw[<-u5!,show(⟨#[116,121,112,101]⟩:ByteArray).data.toList=[116,121,112,101]from rfl]at aP;have bJ:i≠0:=fun h=>by obtain⟨m,hm⟩:=ck.out h;cases hm
    obtain⟨U,nn,rv,qr,hP,bu,bX,bt⟩:∃U n rv qr,PAt wL.heap.size w2 tv U n rv qr/\(its.take i).foldl stepD []=U.map (·.1)++[⟨n,qr.map (·.1)⟩]/\U.length+1<=i/\qr.length<=i:=by
     rcases am.out with h | h
     ·exact absurd h.1 bJ
     ·exact h
    obtain⟨g,kt,ct,cQ,rfl,b4,bP,b0,cm,cw,bC⟩:=hP.tys.layN (by simp[tyC]);obtain⟨pl,a3⟩:=e! U.length
    have aj:w2.cell? ⟨g,pl*2+1,none⟩=some rv:=by
     rw[b0.cells];have hl:pl*2+1<((U++[((⟨nn,qr.map (·.1)⟩:TyS),rv)]).flatMap tyC).length:=by rw[ac! aC!];simp;omega
     rw[bC _ hl,<-n4! hl,x9!,List.getElem?_append_right (by rw[ac! aC!];omega),ac! aC!,a3,Nat.add_sub_cancel_left];rfl
    obtain rfl:kt=pl+1:=by rw[ac! aC!]at b4;simp at b4;omega
    have c0:=h! bX;have aL:=h! a3;have bh:=h! bt;have bb:=h! bu;have HP:=h! hP;have bI:=h! b0;have cB:=h! bP;have ak:=h! aj;obtain⟨p,kr,cr,rfl,-,-,-⟩:=hP.rels.sl.len;have b6:=h! (fun b (e:Value.ownBlock (.slice p kr cr)=some b)=>(HP.out.rels.block b e).2);have cK:((nT:Int) == 2)=false:=by have:=bj.out;rw[n7!];omega
    have cV:¬ (nT:Int)<3:=by have:=bj.out;omega
    have cN:(0:Int)<(nT:Int):=by omega
    have d1:(1:Int)<(nT:Int):=by omega
    have d0:(2:Int)<=(nT:Int):=by omega
    have cR:(nT:Int)<=(cT:Int):=by omega
    have cO:¬ cT=2:=by omega
    have cP:(2:Int)<=(cT:Int):=by omega
    have cZ:((pl:Int)+1 == 0)=false:=by rw[n7!];omega
    have cn:¬ ((pl:Int)+1=0):=by omega
    have ar:wrap64 ((pl:Int)+1-1)=(pl:Int):=by rw[Int.add_sub_cancel];exact aL! _ (by omega) (by omega)
    have cW:IntKind.i64.wrap (pl:Int)=(pl:Int):=IntWalk.i64_in _ (by omega);have cH:(pl:Int)<(pl:Int)+1:=by omega
    have cU:(0:Int)<=(pl:Int):=by omega
    clear Y t0 t1 B X a9 bW bv bS y q M bJ bX a3 bt bu hP b0 bC b4 bP aj;go_wp2_with fail
    refine Z.out.mono ?_;rintro e wy ⟨rfl,rfl⟩;clear Z;go_wp2_with fail
    refine bN.out.mono ?_;rintro e w3 ⟨v3,pv,rfl,ai,a6,z⟩;have au:=h! (O.out.below z);have a4:=h! (I.out.below z);have aq:=h! (E.out.trans (z.mono E.out.size));have aT:Hid (∀b,w.heap.size+2<=b->b<wL.heap.size->w3.heap[b]?=wL.heap[b]?):=h! (fun b h1 h2=>(z.block b (n1! h2 A.out)).trans (a1.out b h1 h2));have bs:=h! (n6! A.out z.size);have aY:=h! (HP.out.keep (fun b _ h=>z.block b h) z.size);have b8:=h! (bI.out.below z);have aO:=h! (Ext.cell z ak.out);have cl:=h! (Ext.cell z t0');have cb:Hid (wx.heap.size<=bT/\bT<w3.heap.size):=h! ⟨ae.1,n1! ae.2 z.size⟩;have cj:=h! a6;have b9:=h! (show ∃b5,w3.heap[bT]?=some (.cells b5 9 (0,0))from by obtain⟨b5,h⟩:=cy.out;exact⟨b5,(z.block bT ae.2).trans h⟩);obtain⟨cM,n3,c3,rfl,bU,-,-⟩:=ai.len;obtain rfl:n3=0:=by simpa using bU.symm
    obtain⟨o,c5,rfl,-,-,-⟩:=a6.rows;generalize hr:altR x ys=r at *;have cE:=h! hr;clear hr;clear bU ai a6 bN O I E a1 HP bI ak cv ci z t0' t1' a5;have bw:=h! (Blk.made w3 #[.int .i64 r.k,.string r.a,.string r.b,.slice o r.ps.length c5] 106);have aX:=h! (Ext.alloc w3 (.cells #[.int .i64 r.k,.string r.a,.string r.b,.slice o r.ps.length c5] 106));have bm:(w3.alloc (.cells #[.int .i64 r.k,.string r.a,.string r.b,.slice o r.ps.length c5] 106)).cell? ⟨w.heap.size+1,0,none⟩=some (.slice (some ⟨g,0,none⟩) (pl+1) ct):=by rw[(a4.out.below aX.out).cells];rfl
    unfold rV;go_wp2_with fail
    obtain⟨w4,bo⟩:=e! (w3.alloc (.cells #[.int .i64 r.k,.string r.a,.string r.b,.slice o r.ps.length c5] 106));rw[<-bo]at bw aX ⊢;clear bo bm;obtain⟨wd,H⟩:=e! w4.drew;have hE:Ext w3 wd:=by rw[H];exact aX.out.trans (Ext.drew w4)
    have aS:Blk wd w3.heap.size #[.int .i64 r.k,.string r.a,.string r.b,.slice o r.ps.length c5] 106:=by rw[H];exact bw.out
    have ay:=aY.out.keep (fun b _ h=>hE.block b h) hE.size;have aK:=Ext.cell hE cl.out;have b7:=Ext.cell hE aO.out;have bx:=b8.out.below hE;have a2:Value.ownBlock (.slice p kr cr)≠some g:=fun e=>ay.rels.apart ay.tys (by decide) e rfl;have b2:∀b,Value.ownBlock (.slice p kr cr)=some b->wL.heap.size<=b/\b<w3.heap.size:=fun b e=>aY.out.rels.block b e
    have B:Value.ownBlock (.slice p kr cr)≠some bT:=fun e=>by
     obtain⟨c1,h1⟩:=aY.out.rels.typed e;obtain⟨c2,h2⟩:=b9.out;rw[h1]at h2;exact absurd (show(181:TypeId)=9 by injection v5! h2) (by decide)
    have bB:Value.ownBlock (.slice p kr cr)≠some w3.heap.size:=fun e=>by have:=(b2 _ e).2;omega
    have c9:=h! b2;have T:=h! hE;have ce:=h! ay;have bO:=h! bx;have aG:∀b,b<wd.heap.size->Value.ownBlock (.slice p kr cr)≠some b->∀W,Kept (fun b=>b<wd.heap.size/\Value.ownBlock (.slice p kr cr)≠some b) wd W->W.heap[b]?=wd.heap[b]?:=fun b h1 h2 W hW=>hW.block b ⟨h1,h2⟩
    have b1:∀W,Kept (fun b=>b<wd.heap.size/\Value.ownBlock (.slice p kr cr)≠some b) wd W->W.cell? ⟨bT,f,none⟩=some (.string n):=fun W hW =>
     (World.cell?_of_block (a:=⟨bT,f,none⟩) (aG bT (World.block_lt_of_cell? wd _ aK) B W hW)).trans aK
    have aI:∀W,Kept (fun b=>b<wd.heap.size/\Value.ownBlock (.slice p kr cr)≠some b) wd W->W.cell? ⟨g,pl*2+1,none⟩=some (.slice p kr cr):=fun W hW =>
     (World.cell?_of_block (a:=⟨g,pl*2+1,none⟩) (aG g (World.block_lt_of_cell? wd _ b7) a2 W hW)).trans b7
    have al:∀W,Kept (fun b=>b<wd.heap.size/\Value.ownBlock (.slice p kr cr)≠some b) wd W->Blk W w3.heap.size #[.int .i64 r.k,.string r.a,.string r.b,.slice o r.ps.length c5] 106:=fun W hW=>(aG _ aS.lt bB W hW).trans aS;have c8:∀W,Kept (fun b=>b<wd.heap.size/\Value.ownBlock (.slice p kr cr)≠some b) wd W->W.cell? ⟨w3.heap.size,0,none⟩=some (.int .i64 r.k):=fun W hW=>(al W hW).cells 0;have cI:∀W,Kept (fun b=>b<wd.heap.size/\Value.ownBlock (.slice p kr cr)≠some b) wd W->W.cell? ⟨w3.heap.size,1,none⟩=some (.string r.a):=fun W hW=>(al W hW).cells 1;have cu:∀W,Kept (fun b=>b<wd.heap.size/\Value.ownBlock (.slice p kr cr)≠some b) wd W->W.cell? ⟨w3.heap.size,2,none⟩=some (.string r.b):=fun W hW=>(al W hW).cells 2;have cx:∀W,Kept (fun b=>b<wd.heap.size/\Value.ownBlock (.slice p kr cr)≠some b) wd W->W.cell? ⟨w3.heap.size,3,none⟩=some (.slice o r.ps.length c5):=fun W hW=>(al W hW).cells 3;have cg:=h! a2;have co:=h! aI;have aN:=h! ay.rels;have af:Hid (wL.heap.size<=wd.heap.size):=h! (n6! bs.out hE.size);refine ah! 14 (Kept (fun b=>b<wd.heap.size/\Value.ownBlock (.slice p kr cr)≠some b) wd) (by rw[<-H];exact Kept.refl _ _) (by kernel_rfl) (by kernel_rfl) (fun _ _ d _ _ h=>by cases d <;> exact h) ?_;rw[<-H];clear H a2 b2 B bB aG al b7 aK aS ay bx hE;(refine WalkL.tk [0,1,2,3,4,5,6,7,8,9] ?_;(iterate 10 (refine l! ?_));refine TkL.n ?_)
    refine oL! 10 ?_;refine b! ?_;intro K hK;go_simp;refine hK.out _ _ ((Kept.refl _ wd).alloc (fun b hb=>hb.1) _) ?_;clear hK b1 aI c8 cI cu cx;refine oL! 11 ?_;refine b! ?_;intro K hK;refine aP! fV! (.tmp 134) (.tmp 140) rfl rfl (aN.out.below (Ext.alloc wd _)) rfl (m:=1) (news:=[.string n,.int .i64 r.k,.string r.a,.string r.b,.slice o r.ps.length c5]) rfl (fun j u hu=>?_) (by simp[Value.oneCell']) (by have:=bh.out;have:=HI.out;have:=HN.out;rw[ac! ay!];simp;omega) (by have:=bh.out;have:=HI.out;have:=HN.out;rw[ac! ay!];simp;omega) (by have:=af.out;simp;omega) (fun v5 w5 hown5 hb5 hgr5=>?_)
    ·rw[Addr.add_lit,cell_of_row _ wd.heap.size (0+j) #[.string n,.int .i64 r.k,.string r.a,.string r.b,.slice o r.ps.length c5] 181 (0,0) (heap_alloc_new wd _)];simpa using hu
    have N:Kept (fun b=>b<wd.heap.size/\Value.ownBlock (.slice p kr cr)≠some b) wd w5:=((Kept.refl _ wd).alloc (fun b hb=>hb.1) (.cells #[.string n,.int .i64 r.k,.string r.a,.string r.b,.slice o r.ps.length c5] 181)).trans ⟨hgr5.os,hgr5.tape,hgr5.output,hgr5.size,fun b hb=>hgr5.block b (by have:=hb.1;simp;omega) (fun e=>hb.2 e.symm)⟩;refine hK.out _ _ N ?_;clear hK;simp only[Act.put,pA,pZ,pS];have bi:=h! (show ∀b,v5.ownBlock=some b->(Value.slice p kr cr).ownBlock=some b\/wd.heap.size<=b from fun b hg=>(hb5 b hg).imp id (fun h=>by simp at h;omega));obtain⟨bG,k6,c6,rfl,-,-,-⟩:=hown5.sl.len;have bM:=N.blk bO.out ⟨bO.out.lt,cg.out⟩;have bZ:=co.out w5 N;have f5:=bM.free;have C:Hid (Kept (fun b=>b<wd.heap.size/\Value.ownBlock (.slice p kr cr)≠some b) wd w5):=h! N;have aE:=h! hown5;clear hb5 hgr5 N bM hown5;(refine WalkL.tk [12,13] ?_;(iterate 2 (refine l! ?_));refine TkL.n ?_)
    refine WalkL.last (by kernel_rfl) (by kernel_rfl) ?_;refine b! ?_;intro K hK;go_simp;refine hK.out _ _ ?_;clear hK f5 bZ;obtain⟨W,hW⟩:=e! (w5.setCell ⟨g,pl*2+1,none⟩ (.slice bG k6 c6));have av:∀b,b≠g->W.heap[b]?=w5.heap[b]?:=fun b hb=>by rw[hW];exact Below.heap_setCell _ _ _ _ hb
    have aV:W.heap.size=w5.heap.size:=by rw[hW];simp
    have D:∀b,b<w3.heap.size->b<wL.heap.size->W.heap[b]?=w3.heap[b]?:=fun b h1 h2=>by
     have h3:=cB.out;rw[av b (by omega)];exact(C.out.block b ⟨n1! h1 T.out.size,fun e=>by have:=(c9.out b e).1;omega⟩).trans (T.out.block b h1)
    have hrel:=ce.out.rel (m:=n) (r:=r) (pv := .slice o r.ps.length c5) (w':=w5) (rv' := .slice bG k6 c6) (fun b _ h1 h2=>C.out.block b ⟨h1,h2⟩) C.out.size aE.out bi.out
     ((cj.out.same ((Same.below T.out).mono fun b hb=>hb.2)).mono fun b hb=>⟨⟨n6! A.out hb.1,n1! hb.2 T.out.size⟩,fun e=>by have:=(aJ.out b e).2;have:=hb.1;have:=cF.out;omega,fun e=>by have:=b6.out b e;have:=hb.1;omega⟩)
    rw[<-aL.out,<-hW]at hrel
    have L:Below w.heap.size w W:=by
     refine Below.trans aq.out ⟨?_,?_,?_,?_,fun b hb=>D b (n1! hb aq.out.size) (by have:=Q.out;omega)⟩
     ·rw[hW];exact C.out.os.trans T.out.os
     ·rw[hW];exact C.out.tape.trans T.out.tape
     ·rw[hW];exact C.out.output.trans T.out.output
     ·rw[aV];exact n6! T.out.size C.out.size
    have c:=h! (show _/\_/\_/\_/\_/\_ from⟨(fun b (h1:w.heap.size+2<=b) (h2:b<wL.heap.size)=>(D b (n1! h2 bs.out) h2).trans (aT.out b h1 h2)),
     (show Blk W w.heap.size #[.slice none 0 0] 26 from(D _ au.out.lt (by have:=Q.out;omega)).trans au.out),
     (show Blk W (w.heap.size+1) #[.slice (some ⟨g,0,none⟩) (pl+1) ct] 26 from(D _ a4.out.lt (by have:=Q.out;omega)).trans a4.out),L,hrel,(show wL.heap.size<=W.heap.size from by rw[aV];exact n6! af.out C.out.size)⟩)
    have c7:=h! (show(its.take (i+1)).foldl stepD []=U.map (·.1)++[⟨nn,(qr++[((n,r),Value.slice o r.ps.length c5)]).map (·.1)⟩]from by
     rw[bE.out,bb.out,jz!,cE.out];simp)
    rw[<-hW];clear hW av aV D hrel L;go_wp2_with fail
    go_roundw
    case rel=>exact⟨i+1,_,by go_num,by omega,c.out.2.2.2.1,c.out.1,c.out.2.1,c.out.2.2.1,c.out.2.2.2.2.2,.inr ⟨U,nn,_,_,c.out.2.2.2.2.1,c7.out,by have:=c0.out;omega,by have:=bh.out;simp;omega⟩⟩
    case measure=>simp[intOf];omega
  ·obtain rfl:i=its.length:=by omega
   have bm:=a8.out.cells;have cS:=R.out.cells;have cY:=R.out.free;obtain⟨cs,bV,-⟩:=a7.out.own;obtain⟨t,kt,ct,rfl,-,-,-⟩:=bV.sl.len;rw[u2!]at a7;have bq:=R.out.set_to 0 (.slice t kt ct) rfl;have cc:=h! bq;have cD:Hid (Below w.heap.size w (wr.setCell ⟨w.heap.size,0,none⟩ (.slice t kt ct))):=h! (setAt aF.out);clear bq b3 ba bV;go_wp2_with fail
   refine bodyPost_ret (v := .tuple #[.agg #[.slice t kt ct],.int .i64 0,.int .i64 0]) ?_ rfl ⟨_,rfl,?_,cD.out⟩
   ·rw[ak! rfl];have hl:=run_loadVar_row (P:=prog) _ w.heap.size _ 26 _ _ _ cc.out Tryz.underlying26 rfl (by kernel_rfl);simp[asAddr,hl,Result.andThen]
   ·refine(a7.out.tysAt.same (fun b hb=>Below.heap_setCell _ _ _ _ (by have:=Q.out;have:=hb.1;show b≠w.heap.size;omega))).mono fun b hb=>⟨by have:=Q.out;have:=hb.1;omega,by simpa using hb.2⟩
def UpR (l:List R2):Prop:=l.Pairwise fun a b=>ltR a b=true
attribute [local go_sem] Oper.semAt_some
theorem refsT:oi! prog 28 121 2 32:=oi!.mk' Tryz.underlying28 (show _=some (some (.agg #[.string ByteArray.empty,.string ByteArray.empty]),2,32)by kernel_rfl) rfl (by decide)
theorem gS! (a:R2):r2cs [a]=r2C a:=by simp[r2cs]
abbrev blR (l:List R2):List (R2 × Bool):=l.map fun p=>(p,true)
theorem mZ! (l:List R2)(a:R2)(h:a∉l):putA (blR l) a true=blR (l++[a]):=by
 rw[bb! (fun p hp e=>h (by obtain⟨x,hx,rfl⟩:=u6!.1 hp;exact e▸hx))];simp[blR]
theorem hT! (l:List R2)(a:R2)(h:a∈l):putA (blR l) a true=blR l:=by
 induction l with
 | nil=>simp at h
 | cons x r ih =>
  simp only[blR,v8!,putA]at *;by_cases e:x=a
  ·subst e;simp
  ·rw[if_neg e];rw[ih (by simpa [Ne.symm e] using h)]
end Go.Proofs.YtlhaghoajpglaaaGreat
namespace Go.Proofs.YtlhaghoajpglaaaGreat
open Go Go.RowKit Go.Maps Go.Shelf Go.Proofs.Tryz
mutual
def RT.pnamed (P:List (R2 × RT))(typ:ByteArray):RT->Bool
 | .mk k a b ps=>if k=2 then(lookA P ⟨typ,a⟩).isSome else if k=3 then(lookA P ⟨typ,a⟩).isSome&&decide (0<(aG! P b).length)else fY! P typ ps
def fY! (P:List (R2 × RT))(typ:ByteArray):List RT->Bool | []=>true | r::rs=>r.pnamed P typ&&fY! P typ rs
end
theorem cV! (P:List (R2 × RT))(typ:ByteArray):∀l:List RT,fY! P typ l=l.all fun r=>r.pnamed P typ
 | []=>rfl
 | r::rs=>by rw[fY!,List.all_cons,cV! P typ rs]
theorem is! {b1 b2 b3:Nat}{typ:ByteArray}(p:RT)(pv:Value)(X Y:Nat)(w:World)(g:Bool)(hX:Blk w X #[.map (some b1),.map (some b2),.map (some b3)] 229)(hY:Blk w Y #[.string typ] 9)(hat:RTAt (· < w.heap.size) w p pv)
  (h:Calls prog 132 #[.agg #[.map (some b1),.map (some b2),.map (some b3)],.string typ,rV p pv] (w.alloc (.cells #[.int .i64 p.k,.string p.a,.string p.b,pv] 106)) fun e w'=>e= .returned (.bool g)/\Below w.heap.size w w') :
  Calls prog 192 #[rV p pv,.pointer (some ⟨X,0,none⟩),.pointer (some ⟨Y,0,none⟩)] w fun e w'=>e= .returned (.bool (!g))/\Below w.heap.size w w':=by
 have HC:=h! h;obtain⟨ao,c,rfl,-⟩:=hat.rows;have hb:=(Blk.made w #[.int .i64 p.k,.string p.a,.string p.b,.slice ao p.ps.length c] 106).cells;have hx:=(hX.alloc (.cells #[.int .i64 p.k,.string p.a,.string p.b,.slice ao p.ps.length c] 106)).cells;have hy:=(hY.alloc (.cells #[.int .i64 p.k,.string p.a,.string p.b,.slice ao p.ps.length c] 106)).cells;clear h hX hY hat;unfold rV at HC ⊢;go_enter func192,ntmps192
 go_wp2_with fail
 refine HC.out.mono ?_;rintro e w2 ⟨rfl,d⟩;have HB:=h! d;clear HC hb hx hy d;go_wp2_with fail
 go_ret
 exact⟨rfl,HB.out⟩
theorem hZ! {b1 b2 b3:Nat}{ts:List TyS}(typ:ByteArray)(htyp:typ.size<=maxLen)(r:RT):∀(pv:Value)(w:World),Bk w b1 b2 b3 ts->RTAt (· < w.heap.size) w r pv->r.Ok ->
  Calls prog 132 #[.agg #[.map (some b1),.map (some b2),.map (some b3)],.string typ,rV r pv] w fun e w'=>e= .returned (.bool (r.pnamed (ab! ts) typ))/\Below w.heap.size w w':=by
 induction r using RT.ind with
 | h r ih =>
 intro pv w hbk hat hok;obtain⟨-,D,G,y⟩:=r.ok_iff.1 hok;obtain⟨k,N,X,ps⟩:=r;obtain⟨I,c,rfl,-⟩:=hat.rows;dsimp only[RT.k,RT.a,RT.b,RT.ps]at D G y ih;have IH:=h! ih;have a0:=h! y;have A:=h! (show N.size<=maxLen from by unfold maxLen;omega);have a2:=h! (show X.size<=maxLen from by unfold maxLen;omega);unfold rV;dsimp only[RT.k,RT.a,RT.b,RT.ps];clear ih y D G hok;by_cases k2:k=2
 ·subst k2;have T:=h! (show(RT.mk 2 N X ps).pnamed (ab! ts) typ=(lookA (ab! ts) ⟨typ,N⟩).isSome from by rw[RT.pnamed];rfl);obtain⟨Z,f⟩:=e! (w.alloc (.cells #[.map (some b1),.map (some b2),.map (some b3)] 229));obtain⟨L,j⟩:=e! (Z.alloc (.cells #[.string typ] 9));obtain⟨O,n⟩:=e! (L.alloc (.cells #[.int .i64 2,.string N,.string X,.slice I ps.length c] 106));have H:Z.heap.size=w.heap.size+1:=by rw[f];simp
  have V:L.heap.size=w.heap.size+1+1:=by rw[j];simp[H]
  have x:Ext w Z:=xa! f
  have m:Ext Z L:=xa! j
  have g:Ext L O:=xa! n
  have K:=h! (show Blk O w.heap.size #[.map (some b1),.map (some b2),.map (some b3)] 229 from Blk.below (bm! f) (m.trans g));have M:=h! (show Blk O (w.heap.size+1) #[.string typ] 9 from Blk.below (by rw[j,<-H];exact Blk.made _ _ _) g);have J:=h! (show Blk O (w.heap.size+1+1) #[.int .i64 2,.string N,.string X,.slice I ps.length c] 106 from by rw[n,<-V];exact Blk.made _ _ _);have t:Hid (Below w.heap.size w O):=h! (x.trans (m.trans g));have u:=h! (hbk.up t.out);obtain⟨z,l,d,-,-⟩:=u.out.R.look ⟨typ,N⟩ ⟨htyp,A.out⟩;obtain⟨Y,Q,s,-⟩:=d.rows;generalize hok:(lookA (ab! ts) ⟨typ,N⟩).isSome=ok at *;unfold rvV rV r2V at l;dsimp only at l;rw[s]at l;have U:Ext O (O.alloc (.cells #[.int .i64 z.1.k,.string z.1.a,.string z.1.b,.slice Y z.1.ps.length Q] 106)):=Ext.alloc _ _;have x3:=K.out.cells;have y3:=M.out.cells;have z3:=J.out.cells;have x4:=(K.out.below U).cells;have z4:=(J.out.below U).cells;have q:Hid (Below w.heap.size w (O.alloc (.cells #[.int .i64 z.1.k,.string z.1.a,.string z.1.b,.slice Y z.1.ps.length Q] 106))):=h! (Ext.trans t.out U);have o:=h! (u.out.up U);clear hbk d s hat H V x m g U;subst n j f;go_enter func132,ntmps132
  go_wp2_with fail
  go_ret
  exact⟨by rw[T.out];simp,q.out⟩
 by_cases k3:k=3
 ·subst k3;have T:=h! (show(RT.mk 3 N X ps).pnamed (ab! ts) typ=((lookA (ab! ts) ⟨typ,N⟩).isSome&&decide (0<(aG! (ab! ts) X).length))from by rw[RT.pnamed];rfl);clear k2;obtain⟨Z,f⟩:=e! (w.alloc (.cells #[.map (some b1),.map (some b2),.map (some b3)] 229));obtain⟨L,j⟩:=e! (Z.alloc (.cells #[.string typ] 9));obtain⟨O,n⟩:=e! (L.alloc (.cells #[.int .i64 3,.string N,.string X,.slice I ps.length c] 106));have H:Z.heap.size=w.heap.size+1:=by rw[f];simp
  have V:L.heap.size=w.heap.size+1+1:=by rw[j];simp[H]
  have x:Ext w Z:=xa! f
  have m:Ext Z L:=xa! j
  have g:Ext L O:=xa! n
  have K:=h! (show Blk O w.heap.size #[.map (some b1),.map (some b2),.map (some b3)] 229 from Blk.below (bm! f) (m.trans g));have M:=h! (show Blk O (w.heap.size+1) #[.string typ] 9 from Blk.below (by rw[j,<-H];exact Blk.made _ _ _) g);have J:=h! (show Blk O (w.heap.size+1+1) #[.int .i64 3,.string N,.string X,.slice I ps.length c] 106 from by rw[n,<-V];exact Blk.made _ _ _);have t:Hid (Below w.heap.size w O):=h! (x.trans (m.trans g));have u:=h! (hbk.up t.out);obtain⟨z,l,d,-,-⟩:=u.out.R.look ⟨typ,N⟩ ⟨htyp,A.out⟩;obtain⟨Y,Q,s,-⟩:=d.rows;generalize hok:(lookA (ab! ts) ⟨typ,N⟩).isSome=ok at *;unfold rvV rV r2V at l;dsimp only at l;rw[s]at l;have U:Ext O (O.alloc (.cells #[.int .i64 z.1.k,.string z.1.a,.string z.1.b,.slice Y z.1.ps.length Q] 106)):=Ext.alloc _ _;have x3:=K.out.cells;have y3:=M.out.cells;have z3:=J.out.cells;have x4:=(K.out.below U).cells;have z4:=(J.out.below U).cells;have q:Hid (Below w.heap.size w (O.alloc (.cells #[.int .i64 z.1.k,.string z.1.a,.string z.1.b,.slice Y z.1.ps.length Q] 106))):=h! (Ext.trans t.out U);have o:=h! (u.out.up U);obtain⟨v,a4,B,-⟩:=o.out.W.look X a2.out;obtain⟨vo,vn,vc,rfl,F,-,-⟩:=B.sl.len;rw[ae!,Nat.mul_one]at F;subst F;clear B;clear hbk d s hat H V x m g U;subst n j f;cases ok with
  | false =>
   go_enter func132,ntmps132
   go_wp2_with fail
   go_ret
   exact⟨by rw[T.out];simp,q.out⟩
  | true =>
   by_cases hp:0<(aG! (ab! ts) X).length
   ·have a1:(0:Int)<((aG! (ab! ts) X).length:Int):=by omega
    have HP:=h! hp;clear hp;go_enter func132,ntmps132
    go_wp2_with fail
    go_ret
    exact⟨by rw[T.out,v2! HP.out];simp,q.out⟩
   ·have a1:¬ ((0:Int)<((aG! (ab! ts) X).length:Int)):=by omega
    have HP:=h! hp;clear hp;go_enter func132,ntmps132
    go_wp2_with fail
    go_ret
    exact⟨by rw[T.out,v3! HP.out];simp,q.out⟩
 have q2:(k == 2)=false:=by rw[n7!];exact k2
 have q3:(k == 3)=false:=by rw[n7!];exact k3
 have T:=h! (show(RT.mk k N X ps).pnamed (ab! ts) typ=ps.all fun r=>r.pnamed (ab! ts) typ from by rw[RT.pnamed,if_neg k2,if_neg k3,cV!]);clear k2 k3;obtain⟨Z,f⟩:=e! (w.alloc (.cells #[.map (some b1),.map (some b2),.map (some b3)] 229));obtain⟨L,j⟩:=e! (Z.alloc (.cells #[.string typ] 9));obtain⟨O,n⟩:=e! (L.alloc (.cells #[.int .i64 k,.string N,.string X,.slice I ps.length c] 106));have H:Z.heap.size=w.heap.size+1:=by rw[f];simp
 have V:L.heap.size=w.heap.size+1+1:=by rw[j];simp[H]
 have x:Ext w Z:=xa! f
 have m:Ext Z L:=xa! j
 have g:Ext L O:=xa! n
 have K:=h! (show Blk O w.heap.size #[.map (some b1),.map (some b2),.map (some b3)] 229 from Blk.below (bm! f) (m.trans g));have M:=h! (show Blk O (w.heap.size+1) #[.string typ] 9 from Blk.below (by rw[j,<-H];exact Blk.made _ _ _) g);have J:=h! (show Blk O (w.heap.size+1+1) #[.int .i64 k,.string N,.string X,.slice I ps.length c] 106 from by rw[n,<-V];exact Blk.made _ _ _);have t:Hid (Below w.heap.size w O):=h! (x.trans (m.trans g));have u:=h! (hbk.up t.out);obtain⟨z,l,d,-,-⟩:=u.out.R.look ⟨typ,N⟩ ⟨htyp,A.out⟩;obtain⟨Y,Q,s,-⟩:=d.rows;generalize hok:(lookA (ab! ts) ⟨typ,N⟩).isSome=ok at *;unfold rvV rV r2V at l;dsimp only at l;rw[s]at l;have U:Ext O (O.alloc (.cells #[.int .i64 z.1.k,.string z.1.a,.string z.1.b,.slice Y z.1.ps.length Q] 106)):=Ext.alloc _ _;have x3:=K.out.cells;have y3:=M.out.cells;have z3:=J.out.cells;have x4:=(K.out.below U).cells;have z4:=(J.out.below U).cells;have q:Hid (Below w.heap.size w (O.alloc (.cells #[.int .i64 z.1.k,.string z.1.a,.string z.1.b,.slice Y z.1.ps.length Q] 106))):=h! (Ext.trans t.out U);have o:=h! (u.out.up U);have a5:∀(fn:Fn) (first cap:Array Value) (W:World),(Instr.makeFunc fn first cap).run prog W= .ok (.func fn first cap) W:=fun _ _ _ _=>rfl
 have C:=h! (bs! _ ps k N X _ 192 #[.pointer (some ⟨w.heap.size,0,none⟩),.pointer (some ⟨w.heap.size+1,0,none⟩)] (enters_of func192 (by kernel_rfl) rfl) (fun p=>!p.pnamed (ab! ts) typ) (hat.up q.out) (fun i hi W pvi hW hati=>is! ps[i] pvi _ _ W _ ((K.out.below U).below hW) ((M.out.below U).below hW) hati
  ((IH.out ps[i] (n5! hi) pvi _ ((o.out.up hW).up (Ext.alloc _ _)) (hati.up (Ext.alloc _ _)) (a0.out _ (n5! hi))).mono fun e w' hr=>⟨hr.1,Ext.trans (Ext.alloc _ _) hr.2⟩)))
 clear hbk d s hat H V x m g U;subst n j f;go_enter func132,ntmps132
 go_wp2_with fail
 refine C.out.mono ?_;rintro e w5 ⟨rfl,E⟩;have a3:=h! (q.out.trans (E.mono q.out.size));clear C E x3 y3 z3 x4 z4 l;go_wp2_with fail
 go_ret
 exact⟨by rw[T.out,List.not_any_eq_all_not];simp,a3.out⟩
end Go.Proofs.YtlhaghoajpglaaaGreat
namespace Go.Proofs.YtlhaghoajpglaaaGreat
open Go Go.RowKit Go.Maps Go.Proofs.Tryz
def iq! (t:TyS):List R2:=⟨t.name,ByteArray.empty⟩::t.rels.map fun r=>⟨t.name,r.1⟩
def am! (ts:List TyS):List R2:=ts.flatMap iq!
theorem fy! {l:List TyS}{i:Nat}(hi:i<l.length):am! (l.take (i+1))=am! (l.take i)++iq! l[i]:=by
 rw[n2! hi];simp only[am!,x9!,y5!,List.flatMap_nil,List.append_nil]
theorem nR! {s:ByteArray}(h:ownB s=true):s≠ByteArray.empty:=by
 rintro rfl;revert h
 decide
theorem dw! {ts:List TyS}(hp:bj! ts=true):(am! ts).Nodup↔aK! ts=true:=by
 have c:∀t∈ts,∀r∈t.rels,r.1≠ByteArray.empty:=fun t ht r hr=>by
  have g:=u8!.1 hp t ht;unfold tyOk at g;rw[v0!]at g;have d:=u8!.1 g.2 r hr;unfold relOk at d;simp only[v0!]at d;exact nR! d.1.2
 constructor
 ·intro h;refine mz! fun j i=>⟨fun m hm _ hmj f=>?_,?_⟩
  ·have g:=x3!.1 (List.pairwise_flatMap.1 h).2 m j hm i hmj;exact g ⟨ts[m].name,ByteArray.empty⟩ y4! ⟨ts[j].name,ByteArray.empty⟩ y4! (by rw[f])
  ·have g:=(List.pairwise_flatMap.1 h).1 ts[j] (n5! i);have d:=(List.nodup_cons.1 (show(iq! ts[j]).Nodup from g)).2;refine List.Pairwise.map _ ?_ (List.Pairwise.of_map _ (R:=fun a b:ByteArray × RT=>a.1≠b.1) ?_ d)
   ·exact fun a b h=>h
   ·exact fun a b hne e=>hne (by rw[e])
 ·intro h;refine List.pairwise_flatMap.2 ⟨fun t ht=>?_,x3!.2 fun m j hm i hmj=>?_⟩
  ·obtain⟨j,i,rfl⟩:=u0! ht;refine List.nodup_cons.2 ⟨fun hm=>?_,?_⟩
   ·obtain⟨r,hr,f⟩:=u6!.1 hm;injection f with _ f
    exact c _ ht r hr f
   ·have g:=(cw! h i).2;refine List.Pairwise.map _ ?_ (List.Pairwise.of_map _ (R:=fun a b:ByteArray × RT=>a.1≠b.1) (fun a b h=>h) g);exact fun a b hne e=>hne (by injection e)
  ·intro x hx y hy e;subst e;have g:=(cw! h i).1 m hm i hmj
   have n1:x.t=ts[m].name:=by
    rcases v7!.1 hx with rfl | hx
    ·rfl
    ·obtain⟨r,_,rfl⟩:=u6!.1 hx;rfl
   have n2:x.t=ts[j].name:=by
    rcases v7!.1 hy with rfl | hy
    ·rfl
    ·obtain⟨r,_,rfl⟩:=u6!.1 hy;rfl
   exact g (n1.symm.trans n2)
structure om! (L N:List R2):Prop where
 mem:∀x,x∈N↔x∈L
 le:N.length<=L.length
 eq:N.length=L.length↔L.Nodup
theorem om!.nil:om! [] []:=⟨fun _=>Iff.rfl,n0! _,by simp⟩
def addR (N:List R2)(x:R2):List R2:=if x∈N then N else N++[x]
theorem mn! (N:List R2)(x:R2):(addR N x).length<=N.length+1:=by
 unfold addR;split <;> simp
theorem mm! (N:List R2)(x y:R2):y∈addR N x↔y∈N\/y=x:=by
 unfold addR;split
 ·rename_i h
  exact⟨.inl,fun hy=>hy.elim id fun e=>e▸h⟩
 ·simp
theorem cT! (N:List R2)(x:R2):putA (blR N) x true=blR (addR N x):=by
 unfold addR;split
 ·rename_i h;exact hT! N x h
 ·rename_i h;exact mZ! N x h
theorem om!.step {L N:List R2}(h:om! L N)(x:R2):om! (L++[x]) (addR N x):=by
 refine⟨fun y=>by rw[mm!,h.mem,u3!,n9!],?_,?_⟩
 ·have:=mn! N x;have:=h.le;simp;omega
 ·unfold addR;split
  ·rename_i hx
   have h1:=h.le;have h2:=(h.mem x).1 hx;rw[u4!,List.nodup_append];simp only[u7!,v6!];constructor
   ·omega
   ·rintro⟨_,_,c⟩;exact absurd rfl (c x h2 x (by simp))
  ·rename_i hx
   have h2:¬ x∈L:=fun c=>hx ((h.mem x).2 c);rw[u4!,u4!,List.nodup_append];simp only[u7!,v6!];constructor
   ·intro c;refine⟨h.eq.1 (by omega),by simp,fun a ha b hb=>?_⟩;obtain rfl:=n9!.1 hb;exact fun e=>h2 (e▸ha)
   ·rintro⟨c,_,_⟩;have:=h.eq.2 c;omega
theorem om!.lt {L N:List R2}(h:om! L N):N.length<L.length↔¬ L.Nodup:=by
 rw[<-h.eq];have:=h.le;omega
theorem aM! {ts:List TyS}{p:R2 × RT}:p∈ab! ts↔∃t∈ts,∃r∈t.rels,p=(⟨t.name,r.1⟩,r.2):=by
 unfold ab! aR!;rw[List.mem_flatMap];constructor
 ·rintro⟨t,ht,hp⟩;obtain⟨r,hr,rfl⟩:=u6!.1 hp;exact⟨t,ht,r,hr,rfl⟩
 ·rintro⟨t,ht,r,hr,rfl⟩;exact⟨t,ht,u6!.2 ⟨r,hr,rfl⟩⟩
theorem kz! {ts:List TyS}(h:aK! ts=true) {t u:TyS}(ht:t∈ts)(hu:u∈ts)(he:t.name=u.name):t=u:=by
 obtain⟨i,hi,rfl⟩:=u0! ht;obtain⟨j,hj,rfl⟩:=u0! hu;rcases Nat.lt_trichotomy i j with h1 | h1 | h1
 ·exact absurd he ((cw! h hj).1 i hi hj h1)
 ·subst h1;rfl
 ·exact absurd he.symm ((cw! h hi).1 j hj hi h1)
theorem ix! {ts:List TyS}(h:aK! ts=true) {t:TyS}(ht:t∈ts)(a:ByteArray):(lookA (ab! ts) ⟨t.name,a⟩).isSome=hasT t a:=by
 cases hl:lookA (ab! ts) ⟨t.name,a⟩ with
 | none =>
  have h1:=aq!.1 hl;symm
  show hasT t a=false
  unfold hasT;rw[List.any_eq_false];intro r hr he;have he:r.1=a:=of_decide_eq_true he;exact h1 _ (aM!.2 ⟨t,ht,r,hr,rfl⟩) (by rw[he])
 | some x =>
  obtain⟨u,hu,r,hr,e⟩:=aM!.1 (aB! hl);injection e with e1 e2
  injection e1 with e3 e4
  obtain rfl:=kz! h ht hu e3;symm
  show hasT t a=true
  unfold hasT;exact x5!.2 ⟨r,hr,v2! e4.symm⟩
theorem jn! (ts:List TyS)(b:ByteArray):decide (0<(aG! (ab! ts) b).length)=anyT ts b:=by
 rw[Bool.eq_iff_iff,u1!];unfold aG! anyT;rw[x1!,x5!];constructor
 ·intro h;obtain⟨x,hx⟩:=List.exists_mem_of_length_pos h;rw[List.mem_filter,u1!]at hx;obtain⟨u,hu,r,hr,rfl⟩:=aM!.1 hx.1;exact⟨u,hu,x5!.2 ⟨r,hr,v2! hx.2⟩⟩
 ·rintro⟨u,hu,h⟩;obtain⟨r,hr,he⟩:=x5!.1 h;exact List.length_pos_of_mem (List.mem_filter.2 ⟨aM!.2 ⟨u,hu,r,hr,rfl⟩,he⟩)
theorem ds! {k:Int}{a b:ByteArray}{ps:List RT}{d:Nat}(h:(RT.mk k a b ps).textOk d=true)(hk:k=2\/k=3):ps=[]:=by
 rw[RT.textOk]at h;rcases hk with rfl | rfl
 ·simp only[Int.reduceEq,if_false,if_true,v0!,u1!]at h;exact x0! h.2
 ·simp only[Int.reduceEq,if_false,if_true,v0!,u1!]at h;exact x0! h.2
theorem cR! {k:Int}{a b:ByteArray}{ps:List RT}{d:Nat}(h:(RT.mk k a b ps).textOk d=true):∀p∈ps,∃d',p.textOk d'=true:=by
 intro p hp;by_cases h4:k=4\/k=5
 ·have hn:k≠1/\k≠2/\k≠3:=by omega
  rw[RT.textOk,if_neg hn.1,if_neg hn.2.1,if_neg hn.2.2,if_pos h4,be!,v0!]at h;have h1:=u8!.1 h.2 p hp;unfold goodP at h1;rw[v0!]at h1;exact⟨_,h1.2⟩
 ·exfalso
  have c:ps=[]:=by
   rw[RT.textOk]at h;by_cases k1:k=1
   ·subst k1;simp only[if_true,v0!,u1!]at h;exact x0! h.2
   ·by_cases k2:k=2
    ·subst k2;simp only[Int.reduceEq,if_false,if_true,v0!,u1!]at h;exact x0! h.2
    ·by_cases k3:k=3
     ·subst k3;simp only[Int.reduceEq,if_false,if_true,v0!,u1!]at h;exact x0! h.2
     ·rw[if_neg k1,if_neg k2,if_neg k3,if_neg h4]at h;cases h
  rw[c]at hp;cases hp
theorem gg! {ts:List TyS}(h:aK! ts=true) {t:TyS}(ht:t∈ts)(r:RT):∀d,r.textOk d=true->r.pnamed (ab! ts) t.name=r.named ts t:=by
 induction r using RT.ind with
 | h r ih =>
  intro d hd;obtain⟨k,a,b,ps⟩:=r;dsimp only[RT.ps]at ih;rw[RT.pnamed,RT.named,cV!,dV!];unfold fC!;by_cases k2:k=2
  ·subst k2;obtain rfl:=ds! hd (.inl rfl);rw[if_pos rfl,ix! h ht];simp
  ·by_cases k3:k=3
   ·subst k3;obtain rfl:=ds! hd (.inr rfl);rw[if_neg k2,if_pos rfl,ix! h ht,jn!];simp
   ·rw[if_neg k2,if_neg k3];have e2:(k == 2)=false:=by rw[n7!];exact k2
    have e3:(k == 3)=false:=by rw[n7!];exact k3
    rw[e2,e3];simp only[Bool.false_and,Bool.or_false,Bool.not_false,Bool.true_and];rw[Bool.eq_iff_iff,u8!,u8!];constructor <;> intro hall p hp
    ·obtain⟨d',c⟩:=cR! hd p hp;rw[<-ih p hp d' c];exact hall p hp
    ·obtain⟨d',c⟩:=cR! hd p hp;rw[ih p hp d' c];exact hall p hp
theorem hP! {ts:List TyS}(hp:bj! ts=true) {t:TyS}(ht:t∈ts) {r:ByteArray × RT}(hr:r∈t.rels):r.2.textOk 0=true:=by
 have h1:=u8!.1 hp t ht;unfold tyOk at h1;rw[v0!]at h1;have h2:=u8!.1 h1.2 r hr;unfold relOk at h2;simp only[v0!]at h2;exact h2.1.1
theorem gf! {ts:List TyS}(hp:bj! ts=true)(hu:aK! ts=true):(∀x∈ab! ts,x.2.pnamed (ab! ts) x.1.t=true)↔bZ! ts=true:=by
 unfold bZ!;rw[u8!];constructor
 ·intro h t a;rw[u8!];intro r b;rw[<-gg! hu a r.2 0 (hP! hp a b)];exact h _ (aM!.2 ⟨t,a,r,b,rfl⟩)
 ·intro h x hx;obtain⟨t,a,r,b,rfl⟩:=aM!.1 hx;dsimp only;rw[gg! hu a r.2 0 (hP! hp a b)];exact u8!.1 (h t a) r b
def nmsP (n:ByteArray)(l:List (ByteArray × RT)):List R2:=⟨n,ByteArray.empty⟩::l.map fun r=>⟨n,r.1⟩
theorem gd! {n:ByteArray}{l:List (ByteArray × RT)}{i:Nat}(hi:i<l.length):nmsP n (l.take (i+1))=nmsP n (l.take i)++[⟨n,l[i].1⟩]:=by
 rw[n2! hi];simp only[nmsP,v9!,v8!,List.map_nil,x2!]
theorem cs! (n:ByteArray)(l:List (ByteArray × RT)):(nmsP n l).length=1+l.length:=by simp[nmsP];omega
theorem ir! (ts:List TyS)(i:Nat):(am! (ts.take i)).length<=(am! ts).length:=by
 conv=>rhs;rw[<-x6! i ts]
 simp only[am!,x9!,u4!];omega
theorem fg! (ts:List TyS)(tv:Value)(w:World)(h:ou! (· < w.heap.size) w ts tv)(hok:∀t∈ts,t.Ok)(hsB:schB ts<=549755813888)(hsz:∀t∈ts,∀r∈t.rels,r.2.sz<=1000000)(hln:(am! ts).length<=1099511627776)(hlr:(ab! ts).length<=1099511627776) :
  Calls prog 74 #[.agg #[tv]] w fun e w'=>e= .returned (.int .i64 (chk06 ts))/\Below w.heap.size w w':=by
 have bk:Below w.heap.size w (w.alloc (.cells #[tv] 26)):=(Below.refl _ _).alloc (n0! _) _;have bH:=h! (eu! ts tv _ (h.up bk) hsB);have cm:=h! h;have aU:=h! hok;have ce:=h! hsz;have c8:=h! hln;have cc:=h! hlr;obtain⟨ao,c,rfl,cn,cq,X⟩:=h.rows;have HC:=h! X;have aY:=Blk.made w #[.slice ao ts.length c] 26;have cd:=aY.cells;have cb:=h! aY;have bE:=h! bk;have cp:=@run_makeMap prog;have HG:Hid (chk06 ts=if bj! ts then(if cc! ts then(if aK! ts then(if bZ! ts then 0 else 2)else 3)else 10)else 9):=h! rfl;generalize chk06 ts=g at *;clear h X hok hsB hsz aY bk hln hlr;go_enter func74,ntmps74
 go_wp2_with fail
 refine bH.out.mono ?_;rintro e w2 ⟨rfl,bf⟩;have aL:=h! (bE.out.trans (bf.mono bE.out.size));have b7:=h! (cb.out.below bf);clear bH bf cd;cases hp:bj! ts with
 | false =>
  have HF:=h! (show g=9 from by rw[HG.out,hp];rfl);rw[show prN false=9 from rfl];clear hp;go_wp2_with fail
  go_ret
  exact⟨by rw[HF.out];rfl,aL.out⟩
 | true =>
  rw[show prN true=0 from rfl];have HP:=h! hp;clear hp;have s3:=(b7.out.alloc (.map #[] 0)).cells;go_wp2_with fail
  obtain⟨w3,aM⟩:=e! (w2.alloc (.map #[] 0));rw[<-aM]at s3 ⊢;obtain⟨bn,aR⟩:=e! w2.heap.size;rw[<-aR];have aX:Ext w2 w3:=xa! aM
  have bw:=h! (show Mp prog 121 r2V bV w3 bn (blR [])from by rw[aM,aR];exact Mp.made _);have au:=h! (show w.heap.size<=bn from by rw[aR];exact aL.out.size);have ah:Hid (Below w.heap.size w w3):=h! (aL.out.trans (Below.mono aX aL.out.size));have bY:=h! (b7.out.below aX);have ci:=h! (show w.heap.size≠bn from by have:=b7.out.lt;omega);clear aM aX aR s3;obtain⟨G,aa⟩:=e! (decide (ts.length<=16));rw[show(decide ((16:Int)<(ts.length:Int)))=!G from by rw[aa];by_cases h:ts.length<=16 <;> simp[h] <;> omega];have bq:=h! aa;clear aa;go_loopw [6,7,30] (fun av lv ii wr=>∃(i:Nat) (N:List R2) (o:Bool),i<=ts.length/\ii= .int .i64 i/\av= .int .i64 (((am! (ts.take i)).length:Nat):Int)/\lv= .bool o/\o=!(G&&(ts.take i).all bx!)/\Mp prog 121 r2V bV wr bn (blR N)/\om! (am! (ts.take i)) N/\Tk bn w3 wr) (fun _ _ ii _=>ts.length-(intOf ii).toNat)
  case atStart=>exact⟨0,[],!G,by omega,rfl,rfl,rfl,by simp,bw.out,om!.nil,Tk.refl _ _⟩
  case round =>
   obtain⟨i,N,o,hi,rfl,rfl,rfl,ho,hm,hn,u⟩:=hrel;have HO:=h! ho;have HM:=h! hm;have HN:=h! hn;clear bw ho hm hn;by_cases hlt:i<ts.length
   ·have f:Below w.heap.size w wr:=ah.out.trans (u.below ah.out.size au.out);obtain⟨bb,C,co,aq,hb,c0,c1,l⟩:=HC.out i hlt;cases aq;have d0:=(f.cell (p:=⟨bb,C+i*2,none⟩) hb).trans c0;have d1:=(f.cell (p:=⟨bb,C+i*2+1,none⟩) hb).trans c1;have b0:=aU.out _ (n5! hlt);have aw:=h! (ce.out _ (n5! hlt));have ac:=h! (fy! hlt);have cf:=h! (ir! ts (i+1));have ae:=h! hlt;generalize hti:ts[i]=t at *;have bM:=h! hti;obtain⟨tn,d⟩:=t;dsimp only at *;obtain⟨bx,ba⟩:=b0;dsimp only at bx ba;have ac:Hid (am! (ts.take (i+1))=am! (ts.take i)++nmsP tn d):=h! ac.out;have am:=h! (show tn.size<=maxLen from by unfold maxLen;omega);have al:=h! ba;obtain⟨bO,bA,rfl,ck,c7,D⟩:=l.rows;have bt:=h! D;have hea:Ext wr (wr.alloc (.cells #[.string tn,.slice bO d.length bA] 176)):=Ext.alloc _ _;have an:=h! (Blk.made wr #[.string tn,.slice bO d.length bA] 176);have bU:=an.out.cells;have ax:=h! (show wr.heap.size≠bn from by have:=HM.out.lt;omega);obtain⟨w4,m,bo,aT⟩:=(HM.out.below hea).store refK bB! Tryz.underlying141 (bA! ⟨tn,ByteArray.empty⟩ ⟨am.out,by show ByteArray.empty.size<=maxLen;exact v1! _⟩) true;rw[cT!]at bo;unfold r2V bV at m;dsimp only at m;rw[show(ByteArray.empty:ByteArray)=⟨#[]⟩from rfl]at m;have aS:=h! bo;have a7:=h! (Tk.next u (Tk.next (Tk.of hea) (Tk.turned aT)));have aB:=h! ((Tk.turned aT).box an.out ax.out);have bT:=aB.out.cells;have L:=h! (ah.out.trans (a7.out.below ah.out.size au.out));have aQ:=h! (show om! (am! (ts.take i)++nmsP tn (d.take 0)) (addR N ⟨tn,ByteArray.empty⟩)from by rw[List.take_zero];exact HN.out.step _)
    have bZ:(am! (ts.take i)).length+(1+d.length)<=1099511627776:=by
     have h1:=cf.out;have h2:=c8.out;rw[ac.out,u4!,cs!]at h1;omega
    have bK:wrap64 (1+(d.length:Int))=1+(d.length:Int):=aL! _ (by omega) (by omega);have bd:wrap64 (((am! (ts.take i)).length:Int)+(1+(d.length:Int)))=((am! (ts.take i)).length:Int)+(1+(d.length:Int)):=aL! _ (by omega) (by omega);have br:=h! bd;clear c0 c1 l D f u ba bx bo aT hea hti bZ;have O:=h! ax.out;cases o with
    | true =>
     obtain⟨g1,a0⟩:=e! ((G&&(ts.take i).all bx!&&decide (d.length<=16)));have b6:=h! a0
     have aH:=h! (show true=!g1 from by
      rw[a0];have:=HO.out;revert this
      cases G <;> cases (ts.take i).all bx! <;> simp)
     clear a0;go_wp2_with fail
     clear bU bT m d0 d1 bK bd hlt;generalize wr.heap.size=tb at *;go_loopw [7,54] (fun lv jj wr=>∃(j:Nat) (N:List R2) (o:Bool),j<=d.length/\jj= .int .i64 j/\lv= .bool o/\o=!(g1&&(d.take j).all fun r=>decide (r.2.sz<=32))/\Mp prog 121 r2V bV wr bn (blR N)/\om! (am! (ts.take i)++nmsP tn (d.take j)) N/\Tk bn w4 wr) (fun _ jj _=>d.length-(intOf jj).toNat)
     case atStart=>exact⟨0,addR N ⟨tn,ByteArray.empty⟩,true,by omega,rfl,rfl,by rw[List.take_zero];first | (simp;done) | (simpa using aH.out),aS.out,aQ.out,Tk.refl _ _⟩
     case round =>
      obtain⟨j,N,o,hj,rfl,rfl,ho,hm,hn,u⟩:=hrel;have M:=h! ho;have a6:=h! hm;have Q:=h! hn;have s:=h! u;clear aS aQ ho hm hn;by_cases hlt:j<d.length
      ·have f:Below w.heap.size w wr:=L.out.trans (u.below L.out.size au.out);have K:=al.out _ (n5! hlt);have J:=aw.out _ (n5! hlt);have aC:=h! hlt;have ap:=h! (gd! (n:=tn) hlt);have ak:=h! (show((d.take (j+1)).all fun r=>decide (r.2.sz<=32))=((d.take j).all (fun r=>decide (r.2.sz<=32))&&decide (d[j].2.sz<=32))from by rw[n2! hlt,List.all_append];simp only[List.all_cons,List.all_nil,Bool.and_true];rfl);obtain⟨bb,C,pv,aq,hb,c0,c1,c2,c3,c4,l⟩:=bt.out j hlt;cases aq;have d0:=(f.cell (p:=⟨bb,C+j*5,none⟩) hb).trans c0;have d1:=(f.cell (p:=⟨bb,C+j*5+1,none⟩) hb).trans c1;have d2:=(f.cell (p:=⟨bb,C+j*5+2,none⟩) hb).trans c2;have d3:=(f.cell (p:=⟨bb,C+j*5+3,none⟩) hb).trans c3;have d4:=(f.cell (p:=⟨bb,C+j*5+4,none⟩) hb).trans c4;obtain⟨E,H,rfl,-⟩:=l.rows;generalize d[j]=x at *;obtain⟨xn,p⟩:=x;dsimp only at *;have aj:=h! (show xn.size<=maxLen from by have:=K.1;unfold maxLen;omega);have hea:Ext wr (wr.alloc (.cells #[.string xn,.int .i64 p.k,.string p.a,.string p.b,.slice E p.ps.length H] 181)):=Ext.alloc _ _;have a5:=h! (Blk.made wr #[.string xn,.int .i64 p.k,.string p.a,.string p.b,.slice E p.ps.length H] 181);have ca:=a5.out.cells;have z:=h! (fS! p _ _ (RTAt.mono (l.same (Same.below (f.trans (hea.mono f.size)))) (fun x hx=>n1! hx (n6! f.size hea.size))) J);unfold rV at z;clear c0 c1 c2 c3 c4 l hb u f K J hlt;cases o with
       | true =>
        have q:Hid (Ext wr (wr.alloc (.cells #[.string xn,.int .i64 p.k,.string p.a,.string p.b,.slice E p.ps.length H] 181))):=h! hea;obtain⟨w6,m,v,F⟩:=(a6.out.below q.out).store refK bB! Tryz.underlying141 (bA! ⟨tn,xn⟩ ⟨am.out,aj.out⟩) true;rw[cT!]at v;unfold r2V bV at m;dsimp only at m;have a4:=h! v;have A:=h! (Tk.next s.out (Tk.next (Tk.of q.out) (Tk.turned F)));have r5:=a5.out.cells;have t5:=((s.out.box aB.out O.out).below q.out).cells;clear v F
        have a9:=h! (show true=!(g1&&(d.take (j+1)).all fun r=>decide (r.2.sz<=32))from by
         rw[ak.out];have:=M.out;revert this
         cases g1 <;> cases (d.take j).all fun r=>decide (r.2.sz<=32) <;> simp)
        have ad:=h! (show om! (am! (ts.take i)++nmsP tn (d.take (j+1))) (addR N ⟨tn,xn⟩)from by
         rw[ap.out,<-y6!];exact Q.out.step _)
        have I:=aC.out;clear q;go_wp2_with fail
        clear r5 t5 m d0 d1 d2 d3 d4;go_roundw
        case rel=>exact⟨j+1,addR N ⟨tn,xn⟩,true,by omega,by go_num,rfl,a9.out,a4.out,ad.out,A.out⟩
        case measure=>simp[intOf];omega
       | false =>
        go_wp2_with fail
        refine z.out.mono ?_;rintro e w5 ⟨rfl,V⟩;have Z:=h! V;clear z V;have q:Hid (Ext wr w5):=h! (Ext.trans hea Z.out);obtain⟨w6,m,v,F⟩:=(a6.out.below q.out).store refK bB! Tryz.underlying141 (bA! ⟨tn,xn⟩ ⟨am.out,aj.out⟩) true;rw[cT!]at v;unfold r2V bV at m;dsimp only at m;have a4:=h! v;have A:=h! (Tk.next s.out (Tk.next (Tk.of q.out) (Tk.turned F)));have r5:=(a5.out.below Z.out).cells;have t5:=((s.out.box aB.out O.out).below q.out).cells;clear v F
        have a9:=h! (show(decide ((32:Int)<(p.sz:Int)))=!(g1&&(d.take (j+1)).all fun r=>decide (r.2.sz<=32))from by
         rw[ak.out];have:=M.out;rw[show(decide ((32:Int)<(p.sz:Int)))=!decide (p.sz<=32)from by by_cases h:p.sz<=32 <;> simp[h] <;> omega];revert this
         cases g1 <;> cases (d.take j).all fun r=>decide (r.2.sz<=32) <;> simp)
        have ad:=h! (show om! (am! (ts.take i)++nmsP tn (d.take (j+1))) (addR N ⟨tn,xn⟩)from by
         rw[ap.out,<-y6!];exact Q.out.step _)
        have I:=aC.out;clear q;go_wp2_with fail
        clear r5 t5 m d0 d1 d2 d3 d4;go_roundw
        case rel=>exact⟨j+1,addR N ⟨tn,xn⟩,(decide ((32:Int)<(p.sz:Int))),by omega,by go_num,rfl,a9.out,a4.out,ad.out,A.out⟩
        case measure=>simp[intOf];omega
      ·obtain rfl:j=d.length:=by omega
       rw[u2!]at M Q
       have bh:=h! (show o=!(G&&(ts.take (i+1)).all bx!)from by
        have he:ts[i]'ae.out=⟨tn,d⟩:=bM.out;rw[M.out,b6.out,n2! ae.out,List.all_append,he];show _=!(G&&((ts.take i).all bx!&&(bx! ⟨tn,d⟩&&true)))
        unfold bx!;dsimp only;simp only[Bool.and_assoc,Bool.and_true])
       have bm:=h! (show om! (am! (ts.take (i+1))) N from by rw[ac.out];exact Q.out)
       have aV:=h! (show Value.int .i64 (wrap64 (((am! (ts.take i)).length:Int)+(1+(d.length:Int))))= .int .i64 (((am! (ts.take (i+1))).length:Nat):Int)from by
        have e:(((am! (ts.take i)).length:Int)+(1+(d.length:Int)))=(((am! (ts.take (i+1))).length:Nat):Int):=by
         rw[ac.out,u4!,cs!];omega
        rw[br.out,e])
       have bi:=h! (Tk.next a7.out u);have I:=ae.out;clear u;go_wp2_with fail
       go_roundw
       case rel=>exact⟨i+1,N,o,by omega,by go_num,aV.out,rfl,bh.out,a6.out,bm.out,bi.out⟩
       case measure=>simp[intOf];omega
    | false =>
     obtain⟨g1,a0⟩:=e! ((G&&(ts.take i).all bx!&&decide (d.length<=16)));have b6:=h! a0
     have aH:=h! (show(decide ((16:Int)<(d.length:Int)))=!g1 from by
      rw[a0];have:=HO.out;revert this
      rw[show(decide ((16:Int)<(d.length:Int)))=!decide (d.length<=16)from by by_cases h:d.length<=16 <;> simp[h] <;> omega];cases G <;> cases (ts.take i).all bx! <;> simp)
     clear a0;go_wp2_with fail
     clear bU bT m d0 d1 bK bd hlt;rw[aH.out];have aH:=h! (show(!g1)=!g1 from rfl);generalize wr.heap.size=tb at *;go_loopw [7,54] (fun lv jj wr=>∃(j:Nat) (N:List R2) (o:Bool),j<=d.length/\jj= .int .i64 j/\lv= .bool o/\o=!(g1&&(d.take j).all fun r=>decide (r.2.sz<=32))/\Mp prog 121 r2V bV wr bn (blR N)/\om! (am! (ts.take i)++nmsP tn (d.take j)) N/\Tk bn w4 wr) (fun _ jj _=>d.length-(intOf jj).toNat)
     case atStart=>exact⟨0,addR N ⟨tn,ByteArray.empty⟩,!g1,by omega,rfl,rfl,by rw[List.take_zero];first | (simp;done) | (simpa using aH.out),aS.out,aQ.out,Tk.refl _ _⟩
     case round =>
      obtain⟨j,N,o,hj,rfl,rfl,ho,hm,hn,u⟩:=hrel;have M:=h! ho;have a6:=h! hm;have Q:=h! hn;have s:=h! u;clear aS aQ ho hm hn;by_cases hlt:j<d.length
      ·have f:Below w.heap.size w wr:=L.out.trans (u.below L.out.size au.out);have K:=al.out _ (n5! hlt);have J:=aw.out _ (n5! hlt);have aC:=h! hlt;have ap:=h! (gd! (n:=tn) hlt);have ak:=h! (show((d.take (j+1)).all fun r=>decide (r.2.sz<=32))=((d.take j).all (fun r=>decide (r.2.sz<=32))&&decide (d[j].2.sz<=32))from by rw[n2! hlt,List.all_append];simp only[List.all_cons,List.all_nil,Bool.and_true];rfl);obtain⟨bb,C,pv,aq,hb,c0,c1,c2,c3,c4,l⟩:=bt.out j hlt;cases aq;have d0:=(f.cell (p:=⟨bb,C+j*5,none⟩) hb).trans c0;have d1:=(f.cell (p:=⟨bb,C+j*5+1,none⟩) hb).trans c1;have d2:=(f.cell (p:=⟨bb,C+j*5+2,none⟩) hb).trans c2;have d3:=(f.cell (p:=⟨bb,C+j*5+3,none⟩) hb).trans c3;have d4:=(f.cell (p:=⟨bb,C+j*5+4,none⟩) hb).trans c4;obtain⟨E,H,rfl,-⟩:=l.rows;generalize d[j]=x at *;obtain⟨xn,p⟩:=x;dsimp only at *;have aj:=h! (show xn.size<=maxLen from by have:=K.1;unfold maxLen;omega);have hea:Ext wr (wr.alloc (.cells #[.string xn,.int .i64 p.k,.string p.a,.string p.b,.slice E p.ps.length H] 181)):=Ext.alloc _ _;have a5:=h! (Blk.made wr #[.string xn,.int .i64 p.k,.string p.a,.string p.b,.slice E p.ps.length H] 181);have ca:=a5.out.cells;have z:=h! (fS! p _ _ (RTAt.mono (l.same (Same.below (f.trans (hea.mono f.size)))) (fun x hx=>n1! hx (n6! f.size hea.size))) J);unfold rV at z;clear c0 c1 c2 c3 c4 l hb u f K J hlt;cases o with
       | true =>
        have q:Hid (Ext wr (wr.alloc (.cells #[.string xn,.int .i64 p.k,.string p.a,.string p.b,.slice E p.ps.length H] 181))):=h! hea;obtain⟨w6,m,v,F⟩:=(a6.out.below q.out).store refK bB! Tryz.underlying141 (bA! ⟨tn,xn⟩ ⟨am.out,aj.out⟩) true;rw[cT!]at v;unfold r2V bV at m;dsimp only at m;have a4:=h! v;have A:=h! (Tk.next s.out (Tk.next (Tk.of q.out) (Tk.turned F)));have r5:=a5.out.cells;have t5:=((s.out.box aB.out O.out).below q.out).cells;clear v F
        have a9:=h! (show true=!(g1&&(d.take (j+1)).all fun r=>decide (r.2.sz<=32))from by
         rw[ak.out];have:=M.out;revert this
         cases g1 <;> cases (d.take j).all fun r=>decide (r.2.sz<=32) <;> simp)
        have ad:=h! (show om! (am! (ts.take i)++nmsP tn (d.take (j+1))) (addR N ⟨tn,xn⟩)from by
         rw[ap.out,<-y6!];exact Q.out.step _)
        have I:=aC.out;clear q;go_wp2_with fail
        clear r5 t5 m d0 d1 d2 d3 d4;go_roundw
        case rel=>exact⟨j+1,addR N ⟨tn,xn⟩,true,by omega,by go_num,rfl,a9.out,a4.out,ad.out,A.out⟩
        case measure=>simp[intOf];omega
       | false =>
        go_wp2_with fail
        refine z.out.mono ?_;rintro e w5 ⟨rfl,V⟩;have Z:=h! V;clear z V;have q:Hid (Ext wr w5):=h! (Ext.trans hea Z.out);obtain⟨w6,m,v,F⟩:=(a6.out.below q.out).store refK bB! Tryz.underlying141 (bA! ⟨tn,xn⟩ ⟨am.out,aj.out⟩) true;rw[cT!]at v;unfold r2V bV at m;dsimp only at m;have a4:=h! v;have A:=h! (Tk.next s.out (Tk.next (Tk.of q.out) (Tk.turned F)));have r5:=(a5.out.below Z.out).cells;have t5:=((s.out.box aB.out O.out).below q.out).cells;clear v F
        have a9:=h! (show(decide ((32:Int)<(p.sz:Int)))=!(g1&&(d.take (j+1)).all fun r=>decide (r.2.sz<=32))from by
         rw[ak.out];have:=M.out;rw[show(decide ((32:Int)<(p.sz:Int)))=!decide (p.sz<=32)from by by_cases h:p.sz<=32 <;> simp[h] <;> omega];revert this
         cases g1 <;> cases (d.take j).all fun r=>decide (r.2.sz<=32) <;> simp)
        have ad:=h! (show om! (am! (ts.take i)++nmsP tn (d.take (j+1))) (addR N ⟨tn,xn⟩)from by
         rw[ap.out,<-y6!];exact Q.out.step _)
        have I:=aC.out;clear q;go_wp2_with fail
        clear r5 t5 m d0 d1 d2 d3 d4;go_roundw
        case rel=>exact⟨j+1,addR N ⟨tn,xn⟩,(decide ((32:Int)<(p.sz:Int))),by omega,by go_num,rfl,a9.out,a4.out,ad.out,A.out⟩
        case measure=>simp[intOf];omega
      ·obtain rfl:j=d.length:=by omega
       rw[u2!]at M Q
       have bh:=h! (show o=!(G&&(ts.take (i+1)).all bx!)from by
        have he:ts[i]'ae.out=⟨tn,d⟩:=bM.out;rw[M.out,b6.out,n2! ae.out,List.all_append,he];show _=!(G&&((ts.take i).all bx!&&(bx! ⟨tn,d⟩&&true)))
        unfold bx!;dsimp only;simp only[Bool.and_assoc,Bool.and_true])
       have bm:=h! (show om! (am! (ts.take (i+1))) N from by rw[ac.out];exact Q.out)
       have aV:=h! (show Value.int .i64 (wrap64 (((am! (ts.take i)).length:Int)+(1+(d.length:Int))))= .int .i64 (((am! (ts.take (i+1))).length:Nat):Int)from by
        have e:(((am! (ts.take i)).length:Int)+(1+(d.length:Int)))=(((am! (ts.take (i+1))).length:Nat):Int):=by
         rw[ac.out,u4!,cs!];omega
        rw[br.out,e])
       have bi:=h! (Tk.next a7.out u);have I:=ae.out;clear u;go_wp2_with fail
       go_roundw
       case rel=>exact⟨i+1,N,o,by omega,by go_num,aV.out,rfl,bh.out,a6.out,bm.out,bi.out⟩
       case measure=>simp[intOf];omega
   ·obtain rfl:i=ts.length:=by omega
    rw[u2!]at HO HN;have aJ:cc! ts=!o:=by rw[HO.out,bq.out];unfold cc!;simp
    have L:=h! (ah.out.trans (u.below ah.out.size au.out));have bJ:Hid (g=if cc! ts then(if aK! ts then(if bZ! ts then 0 else 2)else 3)else 10):=h! (by rw[HG.out,if_pos HP.out]);have cj:=h! (u.box bY.out ci.out);have Y:=HM.out.len Tryz.underlying141;have bF:(blR N).length=N.length:=by simp[blR]
    rw[bF]at Y;have bQ:=h! HN.out.lt;have bN:=h! (fun(hu:aK! ts=true)=>ng! ts _ wr (cm.out.up L.out) aU.out hu cc.out);have s4:=cj.out.cells;clear u bF;cases o with
    | true =>
     have HF:=h! (show g=10 from by rw[bJ.out,aJ];rfl);clear aJ;go_wp2_with fail
     go_ret
     exact⟨by rw[HF.out];rfl,L.out⟩
    | false =>
     have bC:=h! (show g=if aK! ts then(if bZ! ts then 0 else 2)else 3 from by rw[bJ.out,aJ];rfl);clear aJ;by_cases hnd:(am! ts).Nodup
     rotate_left
     ·have HF:Hid (g=3):=h! (by rw[bC.out,if_neg (fun h=>hnd ((dw! HP.out).2 h))]);have hlt:(N.length:Int)<((am! ts).length:Int):=by have:=bQ.out.2 hnd;omega
      clear hnd;go_wp2_with fail
      go_ret
      exact⟨by rw[HF.out];rfl,L.out⟩
     have hu:=(dw! HP.out).1 hnd;have HU:=h! hu;have bD:Hid (g=if bZ! ts then 0 else 2):=h! (by rw[bC.out,if_pos hu])
     have c5:¬ ((N.length:Int)<((am! ts).length:Int)):=by
      have:¬ N.length<(am! ts).length:=fun h=>bQ.out.1 h hnd;omega
     have aG:=h! (bN.out hu);clear hnd hu bN;go_wp2_with fail
     refine aG.out.mono ?_;rintro e w5 ⟨b1,b2,b3,rfl,bR,V⟩;have Z:=h! (L.out.trans (V.mono L.out.size));obtain⟨w6,ai⟩:=e! (w5.alloc (.cells #[.map (some b1),.map (some b2),.map (some b3)] 229));have bg:Ext w5 w6:=xa! ai
     have bl:=h! (show Blk w6 w5.heap.size #[.map (some b1),.map (some b2),.map (some b3)] 229 from bm! ai);have aW:=h! (bR.up bg);have ar:Hid (Below w.heap.size w w6):=h! (Z.out.trans (bg.mono Z.out.size));obtain⟨lr,hM,bu,bP⟩:=aW.out.R;have b8:=h! bu;have bW:=h! bP;have c6:=bl.out.cells;subst ai;clear aG bR V bg bu bP s4 Y c5;go_wp2_with (at_range;go_must (refine dl! _ rfl _ 225 rfl Tryz.underlying225 rfl hM ?_);intro wR a2 hbR hszR)
     try go_frame
     have U:=h! a2;have b4:=h! hbR;clear c6 hM a2 hbR hszR;obtain⟨w6,ai⟩:=e! (w5.alloc (.cells #[.map (some b1),.map (some b2),.map (some b3)] 229));rw[<-ai]at bl aW ar bW U b4 ⊢;clear ai;obtain⟨nR,bX⟩:=e! w6.heap.size;rw[<-bX]at U ⊢;have bj:Hid (w6.heap.size<=nR):=h! (by omega);clear bX;generalize w5.heap.size=bc at *;go_loopw [85] (fun _ wr=>∃rem:List (R2 × RV),Rng prog 121 r2V rvV wr b1 nR lr rem/\(∀x∈lr,x∈rem\/x.2.1.pnamed (ab! ts) x.1.t=true)/\(∀x∈rem,x∈lr)/\Below w6.heap.size w6 wr) (fun _ wr=>wr.rangeLeft b1 nR)
     case atStart=>exact⟨lr,U.out,fun x hx => .inl hx,fun x hx=>hx,b4.out⟩
     case round =>
      obtain⟨rem,a2,aI,aF,f⟩:=hrel;have az:=h! aI;have a8:=h! aF;have bL:=h! f;clear U b4 aI aF f;go_wp2_with (at_next;go_must (refine dE! _ rfl _ rfl rfl a2 ?_ ?_))
      ·intro B;subst B
       have HF:=h! (show g=0 from by
        rw[bD.out,if_pos];refine(gf! HP.out HU.out).1 fun x hx=>?_;rw[<-b8.out]at hx;obtain⟨y,hy,rfl⟩:=u6!.1 hx;rcases az.out y hy with h | h
        ·cases h
        ·exact h)
       have aD:=h! (ar.out.trans (bL.out.mono ar.out.size));clear a2;go_wp2_with fail
       go_ret
       exact⟨by rw[HF.out];rfl,aD.out⟩
      ·rintro ch ⟨kt,kr⟩ p pv be w7 B ay bG cg aP;have bp:((⟨kt,kr⟩,(p,pv)):R2 × RV)∈lr:=a8.out _ (by rw[B];simp);have bS:(⟨⟨kt,kr⟩,p⟩:R2 × RT)∈ab! ts:=by rw[<-b8.out];exact u6!.2 ⟨_,bp,rfl⟩
       obtain⟨t,ht,r,hr,he⟩:=aM!.1 bS;have ab:=aU.out t ht;have aA:=ab.2 r hr;have bB:kt.size<=maxLen:=by injection he with e1 e2;injection e1 with e3 e4;rw[e3];have:=ab.1;unfold maxLen;omega
       have bI:p.Ok:=by injection he with e1 e2;rw[e2];exact aA.2
       have aO:Below w6.heap.size w6 w7:=bL.out.trans (Kept.below bG fun x hx=>by have:=bj.out;show x≠nR;omega);have T:=(bW.out _ bp).up aO;dsimp only at T;obtain⟨E,H,rfl,-⟩:=T.rows;obtain⟨w8,aK⟩:=e! (w7.alloc (.cells #[.string kt,.string kr] 121));obtain⟨w9,b5⟩:=e! (w8.alloc (.cells #[.int .i64 p.k,.string p.a,.string p.b,.slice E p.ps.length H] 106));have e8:w8.heap.size=w7.heap.size+1:=by rw[aK];simp
       have aN:Ext w7 w8:=xa! aK
       have aE:Ext w8 w9:=xa! b5
       have k9:=(show Blk w9 w7.heap.size #[.string kt,.string kr] 121 from Blk.below (bm! aK) aE).cells;have r9:=(show Blk w9 (w7.heap.size+1) #[.int .i64 p.k,.string p.a,.string p.b,.slice E p.ps.length H] 106 from by rw[b5,<-e8];exact Blk.made _ _ _).cells;have ag:Hid (Below w6.heap.size w6 w9):=h! (aO.trans ((aN.trans aE).mono aO.size));have b9:=(bl.out.below ag.out).cells;have a1:=h! (hZ! kt bB p _ w9 (aW.out.up ag.out) (T.up (aN.trans aE)) bI);have aZ:=h! (ay.below (aN.trans aE));have a3:=h! B;have bz:wr.rangeLeft b1 nR=rem.length:=a2.left_eq;have cl:=h! bz;unfold r2V rvV rV at aP;unfold rV at a1;dsimp only at aP;subst b5 aK;clear bp bS ht hr he ab aA bB bI aO T e8 aN aE ay a2 bG cg bz;cases hpn:p.pnamed (ab! ts) kt with
       | false =>
        rw[hpn]at a1
        have HF:=h! (show g=2 from by
         rw[bD.out,if_neg];intro h;have h1:=(gf! HP.out HU.out).2 h (⟨kt,kr⟩,p) (by rw[<-b8.out];exact u6!.2 ⟨((⟨kt,kr⟩,(p,.slice E p.ps.length H)):R2 × RV),a8.out _ (by rw[B];simp),rfl⟩);dsimp only at h1;rw[hpn]at h1;cases h1)
        clear B hpn;go_wp2_with fail
        refine a1.out.mono ?_;rintro e wa ⟨rfl,af⟩;have aD:=h! (ar.out.trans ((ag.out.trans (af.mono ag.out.size)).mono ar.out.size));clear a1 af k9 r9 b9 aP;go_wp2_with fail
        go_ret
        exact⟨by rw[HF.out];rfl,aD.out⟩
       | true =>
        rw[hpn]at a1;have c9:=h! hpn;clear B hpn;go_wp2_with fail
        refine a1.out.mono ?_;rintro e wa ⟨rfl,af⟩;have bv:=aZ.out.below af;have bs:=h! bv;have aD:=h! (ag.out.trans (af.mono ag.out.size));clear a1 af k9 r9 b9 aP bv;go_wp2_with fail
        go_roundw
        case rel =>
         refine⟨ch++be,bs.out,fun x hx=>?_,fun x hx=>a8.out x (by rw[a3.out];rcases u3!.1 hx with h | h <;> simp[h]),aD.out⟩;rcases az.out x hx with h | h
         ·rw[a3.out]at h;rcases u3!.1 h with h | h
          ·exact .inl (List.mem_append_left _ h)
          ·rcases v7!.1 h with rfl | h
           ·exact .inr c9.out
           ·exact .inl (List.mem_append_right _ h)
         ·exact .inr h
        case measure=>rw[bs.out.left_eq,cl.out,a3.out];simp
end Go.Proofs.YtlhaghoajpglaaaGreat
