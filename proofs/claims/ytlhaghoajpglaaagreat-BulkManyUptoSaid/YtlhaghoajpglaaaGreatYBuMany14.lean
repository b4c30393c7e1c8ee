/- Lemmas for the claim, no condition. -/
import Derived.ProofKit
import Derived.OpenShut
import Derived.Test.YtlhaghoajpglaaaGreatRows
import Derived.SizedLaws
import Derived.Test.YtlhaghoajpglaaaGreatYBuMany1
import Derived.Test.YtlhaghoajpglaaaGreatYBuMany13
import Derived.Test.YtlhaghoajpglaaaGreatYBuMany10
import Derived.Test.YtlhaghoajpglaaaGreatYBuMany0
import Derived.Test.YtlhaghoajpglaaaGreatYBuMany4
import Derived.Test.YtlhaghoajpglaaaGreatYBuMany12
import Derived.Test.YtlhaghoajpglaaaGreatYBuMany3
set_option maxRecDepth 100000
set_option maxHeartbeats 1500000
namespace Go.Proofs.YtlhaghoajpglaaaGreat
open Go Go.RowKit Go.Maps
inductive PIt where
 | ty (n:ByteArray)
 | rel (n x:ByteArray) (ys:List ByteArray)
def stepD (ts:List TyS):PIt->List TyS
 | .ty n=>ts++[⟨n,[]⟩]
 | .rel n x ys=>ts.dropLast++(ts.drop (ts.length-1)).map fun t=>⟨t.name,t.rels++[(n,altR x ys)]⟩
theorem stepD_rel (a:List TyS)(t:TyS)(n x:ByteArray)(ys:List ByteArray):stepD (a++[t]) (.rel n x ys)=a++[⟨t.name,t.rels++[(n,altR x ys)]⟩]:=by
 unfold stepD;dsimp only;rw[List.dropLast_concat,List.length_append,List.length_singleton,Nat.add_sub_cancel,List.drop_left];rfl
theorem tysT:ElemT Tryz.prog 24 176 2 40:=ElemT.mk' Tryz.underlying24 (show _=some (some (.agg #[.string ByteArray.empty,.slice none 0 0]),2,40)by kernel_rfl) rfl (by decide)
theorem relsElT:ElemT Tryz.prog 174 181 5 80:=ElemT.mk' Tryz.underlying174 (show _=some (some (.agg #[.string ByteArray.empty,.int .i64 0,.string ByteArray.empty,.string ByteArray.empty,.slice none 0 0]),5,80)by kernel_rfl) (by kernel_rfl) (by decide)
theorem Own.setAt {w:World} {B sz:Nat} {e:TypeId} {g n c:Nat} {xs:List Value} (h:Own w B e sz (.slice (some ⟨g,0,none⟩) n c) xs)(i:Nat)(u:Value):Own (w.setCell ⟨g,i,none⟩ u) B e sz (.slice (some ⟨g,0,none⟩) n c) (xs.set i u):=by
 obtain⟨m,h⟩:=h;rcases h.2 with⟨hv,rfl⟩ | ⟨g',cap,cur,hv,hbg,hg,hnc,hcm,hcs,htake⟩
 ·cases hv
 ·cases hv;have hl:=h.1;refine⟨n,by rw[List.length_set];exact hl,.inr ⟨g,c,cur.setIfInBounds i u,rfl,hbg,heap_setCell_same w g i cur e u hg,hnc,hcm,by simpa using hcs,?_⟩⟩;rw[Array.toList_setIfInBounds,<- htake,List.take_set]
def Fo (w:World)(L:Nat)(tv rv:Value)(b:Nat):Prop:=(L<=b/\b<w.heap.size)/\tv.ownBlock≠some b/\rv.ownBlock≠some b
structure PAt (L:Nat)(w:World)(tv:Value)(pre:List (TyS × Value))(n:ByteArray)(rv:Value)(qr:List ((ByteArray × RT) × Value)):Prop where
 tys:Own w L 176 2 tv ((pre++[((⟨n,qr.map (·.1)⟩:TyS),rv)]).flatMap tyC)
 rels:Own w L 181 5 rv (qr.flatMap relC)
 pr:∀ x∈pre,RelsAt (Fo w L tv rv) w x.1.rels x.2
 rr:∀ x∈qr,RTAt (Fo w L tv rv) w x.1.2 x.2
section
variable {L : Nat} {w w' : World} {tv tv' rv rv' : Value} {pre : List (TyS × Value)} {n : ByteArray} {qr : List ((ByteArray × RT) × Value)}
theorem PAt.keep (h:PAt L w tv pre n rv qr)(hk:∀ b,L<=b->b<w.heap.size->w'.heap[b]?=w.heap[b]?)(hz:w.heap.size<=w'.heap.size):PAt L w' tv pre n rv qr:=by
 have hs:Same (Fo w L tv rv) w w':=fun b hb=>hk b hb.1.1 hb.1.2;have hm:∀ b,Fo w L tv rv b->Fo w' L tv rv b:=fun b hb=>⟨⟨hb.1.1,Nat.lt_of_lt_of_le hb.1.2 hz⟩,hb.2⟩;exact⟨h.tys.keepOwn fun g hg=>hk g (h.tys.block g hg).1 (h.tys.block g hg).2,h.rels.keepOwn fun g hg=>hk g (h.rels.block g hg).1 (h.rels.block g hg).2,fun x hx=>((h.pr x hx).same hs).mono hm,fun x hx=>((h.rr x hx).same hs).mono hm⟩
theorem PAt.ty {m:ByteArray} (h:PAt L w tv pre n rv qr)(hk:∀ b,L<=b->b<w.heap.size->tv.ownBlock≠some b->w'.heap[b]?=w.heap[b]?)(hz:w.heap.size<=w'.heap.size)
  (ho:Own w' L 176 2 tv' ((pre++[((⟨n,qr.map (·.1)⟩:TyS),rv)]).flatMap tyC++[.string m,.slice none 0 0])) (hb:∀ g,tv'.ownBlock=some g->tv.ownBlock=some g\/w.heap.size<=g):PAt L w' tv' (pre++[((⟨n,qr.map (·.1)⟩:TyS),rv)]) m (.slice none 0 0) []:=by
 have hs:Same (Fo w L tv rv) w w':=fun b hb=>hk b hb.1.1 hb.1.2 hb.2.1
 have hm:∀ b,Fo w L tv rv b->Fo w' L tv' (.slice none 0 0) b:=fun b hb'=>⟨⟨hb'.1.1,Nat.lt_of_lt_of_le hb'.1.2 hz⟩,fun e=>by
  rcases hb b e with e | e
  ·exact hb'.2.1 e
  ·have:=hb'.1.2;omega,fun e=>(by cases e)⟩
 have hrg:∀ g,rv.ownBlock=some g->tv.ownBlock≠some g:=fun g hg=>h.rels.apart h.tys (by decide) hg;have hrk:Own w' L 181 5 rv (qr.flatMap relC):=h.rels.keepOwn fun g hg=>hk g (h.rels.block g hg).1 (h.rels.block g hg).2 (hrg g hg);refine⟨by rw[List.flatMap_append];exact ho,Own.nil _ _ _ _,fun x hx=>?_,fun x hx=>(by cases hx)⟩;rcases List.mem_append.1 hx with hx | hx
 ·exact((h.pr x hx).same hs).mono hm
 ·obtain rfl:=List.mem_singleton.1 hx;refine⟨qr,rfl,fun x hx=>((h.rr x hx).same hs).mono hm,hrk.slFo fun g hg=>⟨⟨(hrk.block g hg).1,(hrk.block g hg).2⟩,fun e=>?_,fun e=>(by cases e)⟩⟩;rcases hb g e with e | e
  ·exact hrg g hg e
  ·have:=(h.rels.block g hg).2;omega
theorem PAt.first {m:ByteArray} (ho:Own w' L 176 2 tv' [.string m,.slice none 0 0]):PAt L w' tv' [] m (.slice none 0 0) [] :=
 ⟨ho,Own.nil _ _ _ _,fun x hx=>(by cases hx),fun x hx=>(by cases hx)⟩
theorem PAt.rel {m:ByteArray} {r:RT} {pv:Value} {g k c:Nat} (h:PAt L w (.slice (some ⟨g,0,none⟩) k c) pre n rv qr)(hk:∀ b,L<=b->b<w.heap.size->rv.ownBlock≠some b->w'.heap[b]?=w.heap[b]?)(hz:w.heap.size<=w'.heap.size)
  (ho:Own w' L 181 5 rv' (qr.flatMap relC++relC ((m,r),pv))) (hb:∀ g,rv'.ownBlock=some g->rv.ownBlock=some g\/w.heap.size<=g) (hr:RTAt (Fo w L (.slice (some ⟨g,0,none⟩) k c) rv) w r pv):PAt L (w'.setCell ⟨g,pre.length*2+1,none⟩ rv') (.slice (some ⟨g,0,none⟩) k c) pre n rv' (qr++[((m,r),pv)]):=by
 have hrg:rv.ownBlock≠some g:=fun e=>h.rels.apart h.tys (by decide) e rfl
 have htk:Own w' L 176 2 (.slice (some ⟨g,0,none⟩) k c) ((pre++[((⟨n,qr.map (·.1)⟩:TyS),rv)]).flatMap tyC):=h.tys.keepOwn fun x hx=>by
  cases hx;exact hk g (h.tys.block g rfl).1 (h.tys.block g rfl).2 hrg
 have hrg':rv'.ownBlock≠some g:=fun e=>ho.apart htk (by decide) e rfl
 have hs:Same (Fo w L (.slice (some ⟨g,0,none⟩) k c) rv) w (w'.setCell ⟨g,pre.length*2+1,none⟩ rv'):=fun b hb =>
  (Below.heap_setCell w' _ _ b (fun e=>hb.2.1 (by rw[e];rfl))).trans (hk b hb.1.1 hb.1.2 hb.2.2)
 have hm:∀ b,Fo w L (.slice (some ⟨g,0,none⟩) k c) rv b->Fo (w'.setCell ⟨g,pre.length*2+1,none⟩ rv') L (.slice (some ⟨g,0,none⟩) k c) rv' b:=fun b hb'=>⟨⟨hb'.1.1,by simp;exact Nat.lt_of_lt_of_le hb'.1.2 hz⟩,hb'.2.1,fun e=>by
  rcases hb b e with e | e
  ·exact hb'.2.2 e
  ·have:=hb'.1.2;omega⟩
 refine⟨?_,?_,fun x hx=>((h.pr x hx).same hs).mono hm,fun x hx=>?_⟩
 ·have:=htk.setAt (pre.length*2+1) rv'
  rwa[show((pre++[((⟨n,qr.map (·.1)⟩:TyS),rv)]).flatMap tyC).set (pre.length*2+1) rv'=(pre++[((⟨n,(qr++[((m,r),pv)]).map (·.1)⟩:TyS),rv')]).flatMap tyC from by
   rw[List.flatMap_append,List.flatMap_append,List.set_append_right (h:=by rw[flat_length tyC_length];omega),flat_length tyC_length];rw[Nat.add_sub_cancel_left];rfl]at this
 ·rw[List.flatMap_append];exact(show Own w' L 181 5 rv' (qr.flatMap relC++[((m,r),pv)].flatMap relC)from by simpa using ho).keepOwn fun x hx=>Below.heap_setCell _ _ _ _ fun e=>hrg' (by rw[hx,e])
 ·rcases List.mem_append.1 hx with hx | hx
  ·exact((h.rr x hx).same hs).mono hm
  ·obtain rfl:=List.mem_singleton.1 hx;exact(hr.same hs).mono hm
theorem PAt.tysAt (h:PAt L w tv pre n rv qr):TysAt (fun b=>L<=b/\b<w.heap.size) w (pre.map (·.1)++[⟨n,qr.map (·.1)⟩]) tv:=by
 refine⟨pre++[((⟨n,qr.map (·.1)⟩:TyS),rv)],by simp,fun x hx=>?_,h.tys.sl⟩;rcases List.mem_append.1 hx with hx | hx
 ·exact(h.pr x hx).mono fun b hb=>hb.1
 ·obtain rfl:=List.mem_singleton.1 hx;exact⟨qr,rfl,fun x hx=>(h.rr x hx).mono fun b hb=>hb.1,h.rels.sl⟩
end
def PIt.toks:PIt->List ByteArray
 | .ty n => [⟨#[116,121,112,101]⟩,n]
 | .rel n x ys=>n::⟨#[61]⟩::altT x ys
def PIt.Fit:PIt->Prop
 | .ty n=>isNm n=true/\n≠⟨#[116,104,105,115]⟩
 | .rel n x ys=>isNm n=true/\n≠⟨#[116,104,105,115]⟩/\n≠⟨#[116,121,112,101]⟩/\(∀ z∈x::ys,isNm z=true)/\ys.length<=100000
structure LnOk (s:ByteArray)(it:PIt):Prop where
 size:s.size<=65536
 two:2<=s.size
 first:∀ h:0<s.size,s[0]≠32/\s[0]≠9
 slash:s.extract 0 2≠⟨#[47,47]⟩
 plain:∀ j (hj:j<s.size),plainC s[j]=true
 toks:toksD s=it.toks
def PSt (L:Nat)(w:World)(tv:Value)(ts:List TyS)(N:Nat):Prop :=
 (N=0/\ts=[]/\tv = .slice none 0 0)\/∃ pre n rv qr,PAt L w tv pre n rv qr/\ts=pre.map (·.1)++[⟨n,qr.map (·.1)⟩]/\pre.length+1<=N/\qr.length<=N
theorem PSt.own {L N:Nat} {w:World} {tv:Value} {ts:List TyS} (h:PSt L w tv ts N):∃ cs,Own w L 176 2 tv cs/\cs.length<=2*N/\(∀ w' tv' m,(∀ b,L<=b->b<w.heap.size->tv.ownBlock≠some b->w'.heap[b]?=w.heap[b]?)->w.heap.size<=w'.heap.size ->
  Own w' L 176 2 tv' (cs++[.string m,.slice none 0 0])->(∀ g,tv'.ownBlock=some g->tv.ownBlock=some g\/w.heap.size<=g)->PSt L w' tv' (stepD ts (.ty m)) (N+1)):=by
 rcases h with⟨rfl,rfl,rfl⟩ | ⟨pre,n,rv,qr,h,rfl,h1,h2⟩
 ·exact⟨[],Own.nil _ _ _ _,by simp,fun w' tv' m _ _ ho _ => .inr ⟨[],m,_,[],PAt.first ho,rfl,by simp,by simp⟩⟩
 ·refine⟨_,h.tys,?_,fun w' tv' m hk hz ho hb => .inr ⟨_,m,_,[],h.ty hk hz ho hb,?_,?_,by simp⟩⟩
  ·rw[flat_length tyC_length];simp;omega
  ·simp[stepD]
  ·simp;omega
theorem PSt.keep {L N:Nat} {w w':World} {tv:Value} {ts:List TyS} (h:PSt L w tv ts N)(hk:∀ b,L<=b->b<w.heap.size->w'.heap[b]?=w.heap[b]?)(hz:w.heap.size<=w'.heap.size):PSt L w' tv ts N:=by
 rcases h with h | ⟨pre,n,rv,qr,h,r⟩
 ·exact .inl h
 ·exact .inr ⟨pre,n,rv,qr,h.keep hk hz,r⟩
theorem PSt.tysAt {L N:Nat} {w:World} {tv:Value} {ts:List TyS} (h:PSt L w tv ts N):TysAt (fun b=>L<=b/\b<w.heap.size) w ts tv:=by
 rcases h with⟨_,rfl,rfl⟩ | ⟨pre,n,rv,qr,h,rfl,_,_⟩
 ·exact⟨[],rfl,(fun x hx=>(by cases hx)),Sl.nil _ _ _⟩
 ·exact h.tysAt
theorem Own.layN {w:World} {B sz:Nat} {e:TypeId} {v:Value} {xs:List Value} (h:Own w B e sz v xs)(hx:xs≠[]):∃ g n c cs,v = .slice (some ⟨g,0,none⟩) n c/\xs.length=n*sz/\B<=g/\Blk w g cs e/\n<=c/\c<=9223372036854775807/\(∀ i (hi:i<xs.length),cs[i]?=some xs[i]):=by
 obtain⟨m,h⟩:=h;rcases h.2 with⟨hv,he⟩ | ⟨g',cap,cur,hv,hbg,hg,hnc,hcm,hcs,htake⟩
 ·exact absurd (List.length_eq_zero_iff.1 (by have:=h.1;rw[he]at this;simpa using this)) hx
 ·refine⟨g',m,cap,cur,hv,h.1,hbg,hg,hnc,by unfold maxLen at hcm;omega,fun i hi=>?_⟩;have h1:=congrArg (fun l:List Value=>l[i]?) htake;rw[List.getElem?_take_of_lt (by rw[<- h.1];exact hi),List.getElem?_eq_getElem hi]at h1;simpa using h1
theorem foldl_take_st (its:List PIt) {i:Nat} (hi:i<its.length):(its.take (i+1)).foldl stepD []=stepD ((its.take i).foldl stepD []) its[i]:=by
 rw[List.take_succ_eq_append_getElem hi,List.foldl_append];rfl
theorem parse_any (s:ByteArray)(its:List PIt)(w:World)(hs:s.size<=65536)(hl:(linesD s).length=its.length)(hln:∀ i (hi:i<its.length)(hj:i<(linesD s).length),LnOk (linesD s)[i] its[i])(hok:∀ it∈its,it.Fit)(h0:∀ h:0<its.length,∃ n,its[0] = .ty n)(hN:its.length<=70000) :
  Calls Tryz.prog 33 #[.string s] w fun e w'=>∃ tv,e = .returned (.tuple #[.agg #[tv],.int .i64 0,.int .i64 0])/\TysAt (fun b=>w.heap.size<=b/\b<w'.heap.size) w' (its.foldl stepD []) tv/\Below w.heap.size w w':=by
 obtain⟨w1,hw1⟩:∃ z,z=w.alloc (.cells #[.slice none 0 0] 26):=⟨_,rfl⟩;obtain⟨w2,hw2⟩:∃ z,z=w1.alloc (.cells #[.slice none 0 0] 26):=⟨_,rfl⟩;have e1:w1.heap.size=w.heap.size+1:=by rw[hw1];simp
 have e2:w2.heap.size=w.heap.size+2:=by rw[hw2];simp[e1]
 have x01:Ext w w1:=by rw[hw1];exact Ext.alloc _ _
 have x12:Ext w1 w2:=by rw[hw2];exact Ext.alloc _ _
 have HRB:=h! (show Blk w2 w.heap.size #[.slice none 0 0] 26 from Blk.below (by rw[hw1];exact Blk.made _ _ _) x12);have HSB:=h! (show Blk w2 (w.heap.size+1) #[.slice none 0 0] 26 from by rw[hw2,<- e1];exact Blk.made _ _ _);have HB2:=h! (show Below w.heap.size w w2 from x01.trans x12);have HLN:=h! (lines_any s hs w2);rw[e2]at HLN;have HL:=h! hl;have HLK:=h! hln;have HOK:=h! hok;have HZ:=h! h0;have HN:=h! hN;have hsz:(s.size:Int)<=65536:=by omega
 subst hw2 hw1;clear hs hl hln hok h0 hN x01 x12 e1 e2;go_enter Tryz.func33,Tryz.ntmps33
 go_wp2_with fail
 refine HLN.out.mono ?_;rintro e wL ⟨lv,rfl,hownL,hbL⟩;have HRL:=h! (HRB.out.below (hbL.mono (by simp)));have HSLb:=h! (HSB.out.below (hbL.mono (by simp)));have HBL:=h! (HB2.out.trans (hbL.mono (by simp)));have HLL:=h! (show w.heap.size+2<=wL.heap.size from by have:=hbL.size;simpa using this);obtain⟨aoL,nL,cL,rfl,hnL,hncL,hcmL⟩:=hownL.sl.len;rw[txs_length,Nat.mul_one,HL.out]at hnL;subst hnL
 have HCL:=h! (show ∀ i (hi:i<its.length) (hj:i<(linesD s).length),∃ b off,aoL=some ⟨b,off,none⟩/\(w.heap.size+2<=b/\b<wL.heap.size)/\wL.cell? ⟨b,off+i,none⟩=some (.string (linesD s)[i])from fun i hi hj=>by
  have h:=hownL.sl;rw[<- HL.out]at h;exact texts_at h i hj)
 clear HRB HSB HB2 HLN hbL hownL;generalize linesD s=ls at *;go_wp2_with fail
 go_loopw [20] (fun ii wr=>∃ (i:Nat) (tv:Value),ii = .int .i64 i/\i<=its.length/\Below w.heap.size w wr/\(∀ b,w.heap.size+2<=b->b<wL.heap.size->wr.heap[b]?=wL.heap[b]?)/\Blk wr w.heap.size #[.slice none 0 0] 26/\Blk wr (w.heap.size+1) #[tv] 26/\wL.heap.size<=wr.heap.size/\PSt wL.heap.size wr tv ((its.take i).foldl stepD []) i) (fun ii _=>its.length-(intOf ii).toNat)
 case atStart=>exact⟨0,_,rfl,by omega,HBL.out,fun _ _ _=>rfl,HRL.out,HSLb.out,Nat.le_refl _,.inl ⟨rfl,rfl,rfl⟩⟩
 case round =>
  obtain⟨i,tv,rfl,hi,hbel,hkl,hrb,hsb,hsz2,hst⟩:=hrel;clear HRL HSLb HBL;have HBE:=h! hbel;have HKL:=h! hkl;have HRB:=h! hrb;have HSB:=h! hsb;have HZ2:=h! hsz2;have HST:=h! hst;have HI:=h! hi;clear hbel hkl hsz2 hst;by_cases hlt:i<its.length
  ·have hj:i<ls.length:=by rw[HL.out];exact hlt
   obtain⟨bL,offL,rfl,hbL,hcL⟩:=HCL.out i hlt hj;have hcr:wr.cell? ⟨bL,offL+i,none⟩=some (.string ls[i]):=(World.cell?_of_block (a:=⟨bL,offL+i,none⟩) (HKL.out bL hbL.1 hbL.2)).trans hcL;have HLO:=h! (HLK.out i hlt hj);have HIT:=h! (HOK.out its[i] (List.getElem_mem hlt));have HFT:=h! (foldl_take_st its hlt);have HII:=h! (show i=0->∃ n,its[i] = .ty n from fun h=>by subst h;exact HZ.out hlt);clear hcL;generalize ls[i]=ln at *;generalize its[i]=it at *;have HBK:=h! (blank1_any ln (by have:=HLO.out.size;unfold maxLen;omega) HLO.out.two (ln[0]'(by have:=HLO.out.two;omega)) rfl (HLO.out.first (by have:=HLO.out.two;omega)).1 (HLO.out.first (by have:=HLO.out.two;omega)).2 HLO.out.slash wr);have HTK:=h! (tokens_any ln HLO.out.size HLO.out.plain wr);rw[HLO.out.toks]at HTK;go_wp2_with fail
   refine HBK.out.mono ?_;rintro e wx ⟨rfl,rfl⟩;go_wp2_with fail
   refine HTK.out.mono ?_;rintro e w2 ⟨v2,rfl,hown2,hb2⟩;have HRB2:=h! (HRB.out.below hb2);have HSB2:=h! (HSB.out.below hb2);have HBE2:=h! (HBE.out.trans (hb2.mono HBE.out.size));have HKL2:=h! (show ∀ b,w.heap.size+2<=b->b<wL.heap.size->w2.heap[b]?=wL.heap[b]? from fun b h1 h2=>(hb2.block b (Nat.lt_of_lt_of_le h2 HZ2.out)).trans (HKL.out b h1 h2));have HZ22:=h! (Nat.le_trans HZ2.out hb2.size);have HXY:=h! (show wx.heap.size<=w2.heap.size from hb2.size);have HST2:=h! (HST.out.keep (fun b _ h=>hb2.block b h) hb2.size);have HTB:=h! (show ∀ g,tv.ownBlock=some g->wL.heap.size<=g/\g<wx.heap.size from fun g hg=>by obtain⟨cs,hc,-⟩:=HST.out.own;exact hc.block g hg);have hs2:=HSB2.out.cells;have fs2:=HSB2.out.free;clear hrb hsb HRB HSB HBE HKL HBK HTK HST hcr;cases it with
   | ty n =>
    obtain⟨hnm,hnt⟩:=HIT.out;have HT2:=h! (show Sl (fun b=>wx.heap.size<=b/\b<w2.heap.size) w2 1 v2 (txs [⟨#[116,121,112,101]⟩,n])from hown2.sl);obtain⟨aoT,nT,cT,rfl,hnT,hncT,hcmT⟩:=HT2.out.len;obtain rfl:nT=2:=by rw[txs_length]at hnT;simpa using hnT.symm
    have htx:=texts_at (l:=[⟨#[116,121,112,101]⟩,n]) HT2.out;obtain⟨bT,offT,rfl,hbT,t0⟩:=htx 0 (by simp);obtain⟨bT',offT',hbo,-,t1⟩:=htx 1 (by simp);cases hbo;rw[Nat.add_zero]at t0;have t0':w2.cell? ⟨bT,offT,none⟩=some (.string ⟨#[116,121,112,101]⟩):=t0;have t1':w2.cell? ⟨bT,offT+1,none⟩=some (.string n):=t1;have hnmx:=hnm
    have HNM:=h! (refName_any n (by
     unfold isNm at hnmx;simp only[Bool.and_eq_true,decide_eq_true_eq]at hnmx;unfold maxLen;omega) w2)
    rw[hnm]at HNM;have hne:=ba_beq' hnt;rw[<- ByteArray.toList_eq,show(⟨#[116,104,105,115]⟩:ByteArray).data.toList=[116,104,105,115]from rfl]at hne;clear htx t0 t1 hnT hnm hnt hnmx hown2 hb2;go_wp2_with fail
    refine HNM.out.mono ?_;rintro e wy ⟨rfl,rfl⟩;clear HNM;go_wp2_with fail
    obtain⟨csT,hoT,hcsT,hstepT⟩:=HST2.out.own;obtain⟨aot,kt,ct,rfl,-,-,-⟩:=hoT.sl.len;have HCS:=h! hcsT;have HSTEP:=h! hstepT;have HOT:=h! hoT;clear hcsT hstepT hoT;obtain⟨wd,hwd⟩:∃ z,z=wy.drew:=⟨_,rfl⟩;have hE:Ext wy wd:=by rw[hwd];exact Ext.drew wy
    have hsd:Blk wd (w.heap.size+1) #[.slice aot kt ct] 26:=HSB2.out.below hE;have htd1:wd.cell? ⟨bT,offT+1,none⟩=some (.string n):=Ext.cell hE t1';have hBT:Value.ownBlock (.slice aot kt ct)≠some bT:=fun e=>by have:=(HTB.out bT e).2;have:=hbT.1;omega
    have hBS:Value.ownBlock (.slice aot kt ct)≠some (w.heap.size+1):=fun e=>by have:=(HTB.out _ e).1;have:=HLL.out;omega
    have HBSZ:=h! hBS;have HOD:=h! (HOT.out.below hE);have HWD:=h! (show wd.heap.size=wy.heap.size from by rw[hwd];rfl)
    have hA1:∀ W,Kept (fun b=>b<wd.heap.size/\Value.ownBlock (.slice aot kt ct)≠some b) wd W->W.cell? ⟨w.heap.size+1,0,none⟩=some (.slice aot kt ct):=fun W hW=>by
     rw[(hW.blk hsd ⟨hsd.lt,hBS⟩).cells];rfl
    have hA2:∀ W,Kept (fun b=>b<wd.heap.size/\Value.ownBlock (.slice aot kt ct)≠some b) wd W->W.cell? ⟨bT,offT+1,none⟩=some (.string n):=fun W hW =>
     (World.cell?_of_block (a:=⟨bT,offT+1,none⟩) (hW.block bT ⟨World.block_lt_of_cell? wd _ htd1,hBT⟩)).trans htd1
    refine region_walkL 9 (Kept (fun b=>b<wd.heap.size/\Value.ownBlock (.slice aot kt ct)≠some b) wd) (by rw[<- hwd];exact Kept.refl _ _) (by kernel_rfl) (by kernel_rfl) (fun _ _ d _ _ h=>by cases d <;> exact h) ?_;rw[<- hwd];clear hwd hBT hBS;(refine WalkL.tk [0,1,2,3,4,5] ?_;(iterate 6 (refine l! ?_));refine TkL.n ?_)
    refine oL! 6 ?_;refine b! ?_;intro K hK;go_simp;refine hK.out _ _ ((Kept.refl _ wd).alloc (fun b hb=>hb.1) _) ?_;clear hK;refine oL! 7 ?_;refine b! ?_;intro K hK;refine wp_ownw tysT (.tmp 57) (.tmp 62) rfl rfl (HOD.out.below (Ext.alloc wd _)) rfl (m:=1) (news:=[.string n,.slice none 0 0]) rfl (fun j u hu=>?_) (by simp[Value.oneCell']) (by have:=HCS.out;have:=HI.out;have:=HN.out;simp;omega) (by have:=HCS.out;have:=HI.out;have:=HN.out;simp;omega) (by have:=HWD.out;have:=HZ22.out;simp;omega) (fun v5 w5 hown5 hb5 hgr5=>?_)
    ·rw[Addr.add_lit,cell_of_row _ wd.heap.size (0+j) #[.string n,.slice none 0 0] 176 (0,0) (heap_alloc_new wd _)];simpa using hu
    have hkk:Kept (fun b=>b<wd.heap.size/\Value.ownBlock (.slice aot kt ct)≠some b) wd w5:=((Kept.refl _ wd).alloc (fun b hb=>hb.1) (.cells #[.string n,.slice none 0 0] 176)).trans ⟨hgr5.os,hgr5.tape,hgr5.output,hgr5.size,fun b hb=>hgr5.block b (by have:=hb.1;simp;omega) (fun e=>hb.2 e.symm)⟩;refine hK.out _ _ hkk ?_;clear hK;simp only[Act.put,pA,pZ,pS];have hb5':∀ g,v5.ownBlock=some g->(Value.slice aot kt ct).ownBlock=some g\/wd.heap.size<=g:=fun g hg=>(hb5 g hg).imp id (fun h=>by simp at h;omega);obtain⟨ao5,k5,c5,rfl,-,-,-⟩:=hown5.sl.len;have hs5:=hkk.blk hsd ⟨hsd.lt,HBSZ.out⟩;have HS5:=h! hs5;have r5:=hs5.cells;have f5:=hs5.free;have HK5:=h! (show Kept (fun b=>b<wd.heap.size/\Value.ownBlock (.slice aot kt ct)≠some b) wd w5 from hkk);have HO5:=h! hown5;have HB5:=h! hb5';have HE:=h! hE;clear hA1 hA2 hb5 hgr5 hkk hs5 hown5 hb5' hE;((refine WalkL.take 8 _ ?_ (by simp only[gA,gS,gZ];rfl) (by kernel_rfl) (by kernel_rfl) (by kernel_rfl) (by rfl) (fun W hW=>?_) ?_;rotate_left;· (go_simp;try with_reducible rfl));simp only[Act.put,pA,pZ,pS])
    refine WalkL.last (by kernel_rfl) (by kernel_rfl) ?_;refine b! ?_;intro K hK;go_simp;refine hK.out _ _ ?_;clear hK r5 f5;have hw5:wy.heap.size<=w5.heap.size:=by have:=HK5.out.size;have:=HWD.out;omega
    have HKW:=h! (show ∀ b,b<wy.heap.size->Value.ownBlock (.slice aot kt ct)≠some b->w5.heap[b]?=wy.heap[b]? from fun b h1 h2=>(HK5.out.block b ⟨by rw[HWD.out];exact h1,h2⟩).trans (HE.out.block b h1));have HTS:=h! (show ∀ b,wL.heap.size<=b->(w5.setCell ⟨w.heap.size+1,0,none⟩ (.slice ao5 k5 c5)).heap[b]?=w5.heap[b]? from fun b hb=>Below.heap_setCell _ _ _ _ (by have:=HLL.out;show b≠w.heap.size+1;omega));have HNEW:=h! (HSTEP.out (w5.setCell ⟨w.heap.size+1,0,none⟩ (.slice ao5 k5 c5)) (.slice ao5 k5 c5) n (fun b h1 h2 h3=>(HTS.out b h1).trans (HKW.out b h2 h3)) (by simpa using hw5) (HO5.out.keepOwn fun g hg=>HTS.out g (HO5.out.block g hg).1) (fun g hg=>by have:=HB5.out g hg;rwa[HWD.out]at this));have HTB5:=h! (show ∀ g,g<wL.heap.size->Value.ownBlock (.slice aot kt ct)≠some g from fun g hg e=>by have:=(HTB.out g e).1;omega)
    have hkl5:∀ b,w.heap.size+2<=b->b<wL.heap.size->(w5.setCell ⟨w.heap.size+1,0,none⟩ (.slice ao5 k5 c5)).heap[b]?=wL.heap[b]?:=fun b h1 h2 =>
     ((Below.heap_setCell _ _ _ _ (show b≠w.heap.size+1 by omega)).trans (HKW.out b (Nat.lt_of_lt_of_le h2 HZ22.out) (HTB5.out b h2))).trans (HKL2.out b h1 h2)
    have hrb5:Blk (w5.setCell ⟨w.heap.size+1,0,none⟩ (.slice ao5 k5 c5)) w.heap.size #[.slice none 0 0] 26 :=
     ((Below.heap_setCell _ _ _ _ (show w.heap.size≠w.heap.size+1 by omega)).trans (HKW.out _ HRB2.out.lt (HTB5.out _ (by have:=HLL.out;omega)))).trans HRB2.out
    have hsb5:Blk (w5.setCell ⟨w.heap.size+1,0,none⟩ (.slice ao5 k5 c5)) (w.heap.size+1) #[.slice ao5 k5 c5] 26:=HS5.out.set_to 0 _ rfl
    have hbe5:Below w.heap.size w (w5.setCell ⟨w.heap.size+1,0,none⟩ (.slice ao5 k5 c5)):=by
     refine Below.setCell (Below.trans HBE2.out ?_) (Nat.le_succ _) _;have h1:=HK5.out;exact⟨h1.os.trans HE.out.os,h1.tape.trans HE.out.tape,h1.output.trans HE.out.output,hw5,fun b hb=>HKW.out b (Nat.lt_of_lt_of_le hb HBE2.out.size) (HTB5.out b (by have:=HLL.out;omega))⟩
    have HALL:=h! (show _/\_/\_/\_ from⟨hkl5,hrb5,hsb5,hbe5⟩);have HW5:=h! hw5;clear hkl5 hrb5 hsb5 hbe5 hw5;go_wp2_with fail
    go_roundw
    case rel=>exact⟨i+1,_,by go_num,by omega,HALL.out.2.2.2,HALL.out.1,HALL.out.2.1,HALL.out.2.2.1,by have:=HW5.out;have:=HZ22.out;simp;omega,by rw[HFT.out];exact HNEW.out⟩
    case measure=>simp[intOf];omega
   | rel n x ys =>
    obtain⟨hnm,hnt,hny,hxs,hyl⟩:=HIT.out;have HT2:=h! (show Sl (fun b=>wx.heap.size<=b/\b<w2.heap.size) w2 1 v2 (txs (n::⟨#[61]⟩::altT x ys))from hown2.sl);obtain⟨aoT,nT,cT,rfl,hnT,hncT,hcmT⟩:=HT2.out.len;have htx:=texts_at (l:=n::⟨#[61]⟩::altT x ys) (by rw[txs_length,Nat.mul_one]at hnT;rw[hnT];exact HT2.out);obtain⟨bT,offT,rfl,hbT,t0⟩:=htx 0 (by simp);obtain⟨bT',offT',hbo,-,t1⟩:=htx 1 (by simp);cases hbo;rw[Nat.add_zero]at t0;have t0':w2.cell? ⟨bT,offT,none⟩=some (.string n):=t0;have t1':w2.cell? ⟨bT,offT+1,none⟩=some (.string ⟨#[61]⟩):=t1;have HTY:=h! (hown2.typed (g:=bT) rfl)
    have HNT:=h! (show nT=2*ys.length+3 from by
     rw[txs_length,Nat.mul_one,List.length_cons,List.length_cons]at hnT;unfold altT at hnT;rw[List.length_cons,barT_length]at hnT;omega)
    have HRU:=h! (rule_any (S:=fun b=>wx.heap.size<=b/\b<w2.heap.size) x ys (.slice (some ⟨bT,offT+2,none⟩) (nT-2) (cT-2)) w2 (fun b hb=>hb.2) hxs hyl (by
     have:=HT2.out.drop 2 (by have:=HNT.out;omega);rwa[show(txs (n::⟨#[61]⟩::altT x ys)).drop 2=txs (altT x ys)from rfl]at this))
    have hnmx:=hnm
    have HNM:=h! (refName_any n (by
     unfold isNm at hnmx;simp only[Bool.and_eq_true,decide_eq_true_eq]at hnmx;unfold maxLen;omega) w2)
    rw[hnm]at HNM;have hne:=ba_beq' hnt;rw[<- ByteArray.toList_eq,show(⟨#[116,104,105,115]⟩:ByteArray).data.toList=[116,104,105,115]from rfl]at hne;have hne2:=ba_beq' hny;rw[<- ByteArray.toList_eq,show(⟨#[116,121,112,101]⟩:ByteArray).data.toList=[116,121,112,101]from rfl]at hne2;have hi0:i≠0:=fun h=>by obtain⟨m,hm⟩:=HII.out h;cases hm
    obtain⟨pre,nn,rv,qr,hP,hts,hpl,hql⟩:∃ pre n rv qr,PAt wL.heap.size w2 tv pre n rv qr/\(its.take i).foldl stepD []=pre.map (·.1)++[⟨n,qr.map (·.1)⟩]/\pre.length+1<=i/\qr.length<=i:=by
     rcases HST2.out with h | h
     ·exact absurd h.1 hi0
     ·exact h
    obtain⟨g,kt,ct,cst,rfl,hkt,hLg,hgb,hktc,hctm,hgc⟩:=hP.tys.layN (by simp[tyC]);obtain⟨pl,hpl0⟩:∃ z,z=pre.length:=⟨_,rfl⟩
    have hrvc:w2.cell? ⟨g,pl*2+1,none⟩=some rv:=by
     rw[hgb.cells];have hl:pl*2+1<((pre++[((⟨nn,qr.map (·.1)⟩:TyS),rv)]).flatMap tyC).length:=by rw[flat_length tyC_length];simp;omega
     rw[hgc _ hl,<- List.getElem?_eq_getElem hl,List.flatMap_append,List.getElem?_append_right (by rw[flat_length tyC_length];omega),flat_length tyC_length,hpl0,Nat.add_sub_cancel_left];rfl
    obtain rfl:kt=pl+1:=by rw[flat_length tyC_length]at hkt;simp at hkt;omega
    have HPL:=h! hpl;have HPL0:=h! hpl0;have HQL:=h! hql;have HTSS:=h! hts;have HP:=h! hP;have HGB:=h! hgb;have HLG:=h! hLg;have HRVC:=h! hrvc;have HSZT:=h! hcmT;obtain⟨aor,kr,cr,rfl,-,-,-⟩:=hP.rels.sl.len;have HNR2:=h! (fun b (e:Value.ownBlock (.slice aor kr cr)=some b)=>(HP.out.rels.block b e).2);have hc1:((nT:Int) == 2)=false:=by have:=HNT.out;rw[beq_eq_false_iff_ne];omega
    have hc2:¬ (nT:Int)<3:=by have:=HNT.out;omega
    have hc3:(0:Int)<(nT:Int):=by omega
    have hc4:(1:Int)<(nT:Int):=by omega
    have hc5:(2:Int)<=(nT:Int):=by omega
    have hc6:(nT:Int)<=(cT:Int):=by omega
    have hc7:¬ cT=2:=by omega
    have hc8:(2:Int)<=(cT:Int):=by omega
    have hc9:((pl:Int)+1 == 0)=false:=by rw[beq_eq_false_iff_ne];omega
    have hc10:¬ ((pl:Int)+1=0):=by omega
    have hw1:wrap64 ((pl:Int)+1-1)=(pl:Int):=by rw[Int.add_sub_cancel];exact wrap_in _ (by omega) (by omega)
    have hw3:IntKind.i64.wrap (pl:Int)=(pl:Int):=IntWalk.i64_in _ (by omega);have hlt1:(pl:Int)<(pl:Int)+1:=by omega
    have h0n:(0:Int)<=(pl:Int):=by omega
    clear htx t0 t1 hnT hnm hnt hny hxs hyl hnmx hown2 hb2 hi0 hpl hpl0 hql hts hP hgb hgc hkt hLg hrvc;go_wp2_with fail
    refine HNM.out.mono ?_;rintro e wy ⟨rfl,rfl⟩;clear HNM;go_wp2_with fail
    refine HRU.out.mono ?_;rintro e w3 ⟨v3,pv,rfl,hsl3,hat3,hb3⟩;have HRB3:=h! (HRB2.out.below hb3);have HSB3:=h! (HSB2.out.below hb3);have HBE3:=h! (HBE2.out.trans (hb3.mono HBE2.out.size));have HKL3:=h! (show ∀ b,w.heap.size+2<=b->b<wL.heap.size->w3.heap[b]?=wL.heap[b]? from fun b h1 h2=>(hb3.block b (Nat.lt_of_lt_of_le h2 HZ22.out)).trans (HKL2.out b h1 h2));have HZ3:=h! (Nat.le_trans HZ22.out hb3.size);have HP3:=h! (HP.out.keep (fun b _ h=>hb3.block b h) hb3.size);have HGB3:=h! (HGB.out.below hb3);have HRV3:=h! (Ext.cell hb3 HRVC.out);have HT3:=h! (Ext.cell hb3 t0');have HBTZ:=h! (show wx.heap.size<=bT/\bT<w3.heap.size from⟨hbT.1,Nat.lt_of_lt_of_le hbT.2 hb3.size⟩);have HAT:=h! hat3;have HTY3:=h! (show ∃ cur,w3.heap[bT]?=some (.cells cur 9 (0,0))from by obtain⟨cur,h⟩:=HTY.out;exact⟨cur,(hb3.block bT hbT.2).trans h⟩);have HY3:=h! hb3.size;obtain⟨ao3,n3,c3,rfl,hn3,-,-⟩:=hsl3.len;obtain rfl:n3=0:=by simpa using hn3.symm
    obtain⟨ao5,c5,rfl,-,-,-⟩:=hat3.rows;generalize hr:altR x ys=r at *;have HRR:=h! hr;clear hr;clear hn3 hsl3 hat3 HRU HRB2 HSB2 HBE2 HKL2 HP HGB HRVC hs2 fs2 hb3 t0' t1' HT2;have HS4:=h! (Blk.made w3 #[.int .i64 r.k,.string r.a,.string r.b,.slice ao5 r.ps.length c5] 106);have HE4:=h! (Ext.alloc w3 (.cells #[.int .i64 r.k,.string r.a,.string r.b,.slice ao5 r.ps.length c5] 106));have hsc:(w3.alloc (.cells #[.int .i64 r.k,.string r.a,.string r.b,.slice ao5 r.ps.length c5] 106)).cell? ⟨w.heap.size+1,0,none⟩=some (.slice (some ⟨g,0,none⟩) (pl+1) ct):=by rw[(HSB3.out.below HE4.out).cells];rfl
    unfold rV;go_wp2_with fail
    obtain⟨w4,hw4⟩:∃ z,z=w3.alloc (.cells #[.int .i64 r.k,.string r.a,.string r.b,.slice ao5 r.ps.length c5] 106):=⟨_,rfl⟩;rw[<- hw4]at HS4 HE4 ⊢;clear hw4 hsc;obtain⟨wd,hwd⟩:∃ z,z=w4.drew:=⟨_,rfl⟩;have hE:Ext w3 wd:=by rw[hwd];exact HE4.out.trans (Ext.drew w4)
    have hrd:Blk wd w3.heap.size #[.int .i64 r.k,.string r.a,.string r.b,.slice ao5 r.ps.length c5] 106:=by rw[hwd];exact HS4.out
    have hPd:=HP3.out.keep (fun b _ h=>hE.block b h) hE.size;have htd:=Ext.cell hE HT3.out;have hvd:=Ext.cell hE HRV3.out;have hgd:=HGB3.out.below hE;have hne:Value.ownBlock (.slice aor kr cr)≠some g:=fun e=>hPd.rels.apart hPd.tys (by decide) e rfl;have hnr:∀ b,Value.ownBlock (.slice aor kr cr)=some b->wL.heap.size<=b/\b<w3.heap.size:=fun b e=>HP3.out.rels.block b e
    have hnT:Value.ownBlock (.slice aor kr cr)≠some bT:=fun e=>by
     obtain⟨c1,h1⟩:=HP3.out.rels.typed e;obtain⟨c2,h2⟩:=HTY3.out;rw[h1]at h2;exact absurd (show(181:TypeId)=9 by injection Option.some.inj h2) (by decide)
    have hnB:Value.ownBlock (.slice aor kr cr)≠some w3.heap.size:=fun e=>by have:=(hnr _ e).2;omega
    have HNR:=h! hnr;have HEX:=h! hE;have HPD:=h! hPd;have HGD:=h! hgd;have hKb:∀ b,b<wd.heap.size->Value.ownBlock (.slice aor kr cr)≠some b->∀ W,Kept (fun b=>b<wd.heap.size/\Value.ownBlock (.slice aor kr cr)≠some b) wd W->W.heap[b]?=wd.heap[b]?:=fun b h1 h2 W hW=>hW.block b ⟨h1,h2⟩
    have hA1:∀ W,Kept (fun b=>b<wd.heap.size/\Value.ownBlock (.slice aor kr cr)≠some b) wd W->W.cell? ⟨bT,offT,none⟩=some (.string n):=fun W hW =>
     (World.cell?_of_block (a:=⟨bT,offT,none⟩) (hKb bT (World.block_lt_of_cell? wd _ htd) hnT W hW)).trans htd
    have hA2:∀ W,Kept (fun b=>b<wd.heap.size/\Value.ownBlock (.slice aor kr cr)≠some b) wd W->W.cell? ⟨g,pl*2+1,none⟩=some (.slice aor kr cr):=fun W hW =>
     (World.cell?_of_block (a:=⟨g,pl*2+1,none⟩) (hKb g (World.block_lt_of_cell? wd _ hvd) hne W hW)).trans hvd
    have hAR:∀ W,Kept (fun b=>b<wd.heap.size/\Value.ownBlock (.slice aor kr cr)≠some b) wd W->Blk W w3.heap.size #[.int .i64 r.k,.string r.a,.string r.b,.slice ao5 r.ps.length c5] 106:=fun W hW=>(hKb _ hrd.lt hnB W hW).trans hrd;have hB0:∀ W,Kept (fun b=>b<wd.heap.size/\Value.ownBlock (.slice aor kr cr)≠some b) wd W->W.cell? ⟨w3.heap.size,0,none⟩=some (.int .i64 r.k):=fun W hW=>(hAR W hW).cells 0;have hB1:∀ W,Kept (fun b=>b<wd.heap.size/\Value.ownBlock (.slice aor kr cr)≠some b) wd W->W.cell? ⟨w3.heap.size,1,none⟩=some (.string r.a):=fun W hW=>(hAR W hW).cells 1;have hB2:∀ W,Kept (fun b=>b<wd.heap.size/\Value.ownBlock (.slice aor kr cr)≠some b) wd W->W.cell? ⟨w3.heap.size,2,none⟩=some (.string r.b):=fun W hW=>(hAR W hW).cells 2;have hB3:∀ W,Kept (fun b=>b<wd.heap.size/\Value.ownBlock (.slice aor kr cr)≠some b) wd W->W.cell? ⟨w3.heap.size,3,none⟩=some (.slice ao5 r.ps.length c5):=fun W hW=>(hAR W hW).cells 3;have HNG:=h! hne;have HVD:=h! hA2;have HOD:=h! hPd.rels;have HSZD:=h! (show wL.heap.size<=wd.heap.size from Nat.le_trans HZ3.out hE.size);refine region_walkL 14 (Kept (fun b=>b<wd.heap.size/\Value.ownBlock (.slice aor kr cr)≠some b) wd) (by rw[<- hwd];exact Kept.refl _ _) (by kernel_rfl) (by kernel_rfl) (fun _ _ d _ _ h=>by cases d <;> exact h) ?_;rw[<- hwd];clear hwd hne hnr hnT hnB hKb hAR hvd htd hrd hPd hgd hE;(refine WalkL.tk [0,1,2,3,4,5,6,7,8,9] ?_;(iterate 10 (refine l! ?_));refine TkL.n ?_)
    refine oL! 10 ?_;refine b! ?_;intro K hK;go_simp;refine hK.out _ _ ((Kept.refl _ wd).alloc (fun b hb=>hb.1) _) ?_;clear hK hA1 hA2 hB0 hB1 hB2 hB3;refine oL! 11 ?_;refine b! ?_;intro K hK;refine wp_ownw relsElT (.tmp 134) (.tmp 140) rfl rfl (HOD.out.below (Ext.alloc wd _)) rfl (m:=1) (news:=[.string n,.int .i64 r.k,.string r.a,.string r.b,.slice ao5 r.ps.length c5]) rfl (fun j u hu=>?_) (by simp[Value.oneCell']) (by have:=HQL.out;have:=HI.out;have:=HN.out;rw[flat_length relC_length];simp;omega) (by have:=HQL.out;have:=HI.out;have:=HN.out;rw[flat_length relC_length];simp;omega) (by have:=HSZD.out;simp;omega) (fun v5 w5 hown5 hb5 hgr5=>?_)
    ·rw[Addr.add_lit,cell_of_row _ wd.heap.size (0+j) #[.string n,.int .i64 r.k,.string r.a,.string r.b,.slice ao5 r.ps.length c5] 181 (0,0) (heap_alloc_new wd _)];simpa using hu
    have hkk:Kept (fun b=>b<wd.heap.size/\Value.ownBlock (.slice aor kr cr)≠some b) wd w5:=((Kept.refl _ wd).alloc (fun b hb=>hb.1) (.cells #[.string n,.int .i64 r.k,.string r.a,.string r.b,.slice ao5 r.ps.length c5] 181)).trans ⟨hgr5.os,hgr5.tape,hgr5.output,hgr5.size,fun b hb=>hgr5.block b (by have:=hb.1;simp;omega) (fun e=>hb.2 e.symm)⟩;refine hK.out _ _ hkk ?_;clear hK;simp only[Act.put,pA,pZ,pS];have HB5:=h! (show ∀ b,v5.ownBlock=some b->(Value.slice aor kr cr).ownBlock=some b\/wd.heap.size<=b from fun b hg=>(hb5 b hg).imp id (fun h=>by simp at h;omega));obtain⟨ao6,k6,c6,rfl,-,-,-⟩:=hown5.sl.len;have hg5:=hkk.blk HGD.out ⟨HGD.out.lt,HNG.out⟩;have v5c:=HVD.out w5 hkk;have f5:=hg5.free;have HK5:=h! (show Kept (fun b=>b<wd.heap.size/\Value.ownBlock (.slice aor kr cr)≠some b) wd w5 from hkk);have HO5:=h! hown5;clear hb5 hgr5 hkk hg5 hown5;(refine WalkL.tk [12,13] ?_;(iterate 2 (refine l! ?_));refine TkL.n ?_)
    refine WalkL.last (by kernel_rfl) (by kernel_rfl) ?_;refine b! ?_;intro K hK;go_simp;refine hK.out _ _ ?_;clear hK f5 v5c;obtain⟨W,hW⟩:∃ z,z=w5.setCell ⟨g,pl*2+1,none⟩ (.slice ao6 k6 c6):=⟨_,rfl⟩;have hoth:∀ b,b≠g->W.heap[b]?=w5.heap[b]?:=fun b hb=>by rw[hW];exact Below.heap_setCell _ _ _ _ hb
    have hWs:W.heap.size=w5.heap.size:=by rw[hW];simp
    have hold:∀ b,b<w3.heap.size->b<wL.heap.size->W.heap[b]?=w3.heap[b]?:=fun b h1 h2=>by
     have h3:=HLG.out;rw[hoth b (by omega)];exact(HK5.out.block b ⟨Nat.lt_of_lt_of_le h1 HEX.out.size,fun e=>by have:=(HNR.out b e).1;omega⟩).trans (HEX.out.block b h1)
    have hrel:=HPD.out.rel (m:=n) (r:=r) (pv := .slice ao5 r.ps.length c5) (w':=w5) (rv' := .slice ao6 k6 c6) (fun b _ h1 h2=>HK5.out.block b ⟨h1,h2⟩) HK5.out.size HO5.out HB5.out
     ((HAT.out.same ((Same.below HEX.out).mono fun b hb=>hb.2)).mono fun b hb=>⟨⟨Nat.le_trans HZ22.out hb.1,Nat.lt_of_lt_of_le hb.2 HEX.out.size⟩,fun e=>by have:=(HTB.out b e).2;have:=hb.1;have:=HXY.out;omega,fun e=>by have:=HNR2.out b e;have:=hb.1;omega⟩)
    rw[<- HPL0.out,<- hW]at hrel
    have hbe5:Below w.heap.size w W:=by
     refine Below.trans HBE3.out ⟨?_,?_,?_,?_,fun b hb=>hold b (Nat.lt_of_lt_of_le hb HBE3.out.size) (by have:=HLL.out;omega)⟩
     ·rw[hW];exact HK5.out.os.trans HEX.out.os
     ·rw[hW];exact HK5.out.tape.trans HEX.out.tape
     ·rw[hW];exact HK5.out.output.trans HEX.out.output
     ·rw[hWs];exact Nat.le_trans HEX.out.size HK5.out.size
    have HALL:=h! (show _/\_/\_/\_/\_/\_ from⟨(fun b (h1:w.heap.size+2<=b) (h2:b<wL.heap.size)=>(hold b (Nat.lt_of_lt_of_le h2 HZ3.out) h2).trans (HKL3.out b h1 h2)),
     (show Blk W w.heap.size #[.slice none 0 0] 26 from(hold _ HRB3.out.lt (by have:=HLL.out;omega)).trans HRB3.out),
     (show Blk W (w.heap.size+1) #[.slice (some ⟨g,0,none⟩) (pl+1) ct] 26 from(hold _ HSB3.out.lt (by have:=HLL.out;omega)).trans HSB3.out),hbe5,hrel,(show wL.heap.size<=W.heap.size from by rw[hWs];exact Nat.le_trans HSZD.out HK5.out.size)⟩)
    have HEQ:=h! (show(its.take (i+1)).foldl stepD []=pre.map (·.1)++[⟨nn,(qr++[((n,r),Value.slice ao5 r.ps.length c5)]).map (·.1)⟩]from by
     rw[HFT.out,HTSS.out,stepD_rel,HRR.out];simp)
    rw[<- hW];clear hW hoth hWs hold hrel hbe5;go_wp2_with fail
    go_roundw
    case rel=>exact⟨i+1,_,by go_num,by omega,HALL.out.2.2.2.1,HALL.out.1,HALL.out.2.1,HALL.out.2.2.1,HALL.out.2.2.2.2.2,.inr ⟨pre,nn,_,_,HALL.out.2.2.2.2.1,HEQ.out,by have:=HPL.out;omega,by have:=HQL.out;simp;omega⟩⟩
    case measure=>simp[intOf];omega
  ·obtain rfl:i=its.length:=by omega
   have hsc:=HSB.out.cells;have hrc:=HRB.out.cells;have hrf:=HRB.out.free;obtain⟨cs,hcs,-⟩:=HST.out.own;obtain⟨aot,kt,ct,rfl,-,-,-⟩:=hcs.sl.len;rw[List.take_length]at HST;have hb1:=HRB.out.set_to 0 (.slice aot kt ct) rfl;have HFB:=h! hb1;have HFE:=h! (show Below w.heap.size w (wr.setCell ⟨w.heap.size,0,none⟩ (.slice aot kt ct))from setAt HBE.out);clear hb1 hrb hsb hcs;go_wp2_with fail
   refine bodyPost_ret (v := .tuple #[.agg #[.slice aot kt ct],.int .i64 0,.int .i64 0]) ?_ rfl ⟨_,rfl,?_,HFE.out⟩
   ·rw[results_cell_tmp2 rfl];have hl:=run_loadVar_row (P:=Tryz.prog) _ w.heap.size _ 26 _ _ _ HFB.out Tryz.underlying26 rfl (by kernel_rfl);simp[asAddr,hl,Result.andThen]
   ·refine(HST.out.tysAt.same (fun b hb=>Below.heap_setCell _ _ _ _ (by have:=HLL.out;have:=hb.1;show b≠w.heap.size;omega))).mono fun b hb=>⟨by have:=HLL.out;have:=hb.1;omega,by simpa using hb.2⟩
end Go.Proofs.YtlhaghoajpglaaaGreat
namespace Go.Proofs.YtlhaghoajpglaaaGreat
open Go Go.RowKit Go.Maps Go.Shelf
theorem flat_le {α β:Type} (f:α->List β)(D:Nat):∀ l:List α,(∀ x∈l,(f x).length<=D)->(l.flatMap f).length<=l.length*D
 | [],_=>by simp
 | a::l,h=>by
  rw[List.flatMap_cons,List.length_append,List.length_cons,Nat.add_mul];have h1:=h a List.mem_cons_self;have h2:=flat_le f D l fun x hx=>h x (List.mem_cons_of_mem _ hx);omega
mutual
def RT.pcan (P:List (R2 × RT))(S:List R2)(typ:ByteArray):RT->Bool
 | .mk k a b ps=>if k=1 then true else if k=2 then decide ((⟨typ,a⟩:R2)∈S)else if k=3 then decide ((⟨typ,a⟩:R2)∈S)&&(whereP P b).any fun n=>decide ((⟨n,b⟩:R2)∈S)else if k=4 then pcanN P S typ ps||decide (ps.length=0)else pcanL P S typ ps
def pcanN (P:List (R2 × RT))(S:List R2)(typ:ByteArray):List RT->Bool | []=>false | r::rs=>r.pcan P S typ||pcanN P S typ rs
def pcanL (P:List (R2 × RT))(S:List R2)(typ:ByteArray):List RT->Bool | []=>true | r::rs=>r.pcan P S typ&&pcanL P S typ rs
end
def ClosedP (ts:List TyS)(S:List R2):Prop:=∀ x r,(x,r)∈refsOf ts->r.pcan (refsOf ts) S x.t=true->x∈S
structure LeastP (ts:List TyS)(S:List R2):Prop where
 sub:∀ x∈S,x∈(refsOf ts).map (·.1)
 least:∀ T,ClosedP ts T->∀ x∈S,x∈T
end Go.Proofs.YtlhaghoajpglaaaGreat
namespace Go.Proofs.YtlhaghoajpglaaaGreat
open Go Go.RowKit Go.Maps
def docB:ByteArray:=⟨#[100,111,99]⟩
def lnOkB (s:ByteArray)(it:PIt):Bool:=decide (s.size<=65536)&&(decide (2<=s.size)&&(!(s.data.toList.head? == some 32)&&(!(s.data.toList.head? == some 9)&&(!(decide (s.extract 0 2=⟨#[47,47]⟩))&&(s.data.toList.all plainC&&decide (toksD s=it.toks))))))
theorem lnOk_of {s:ByteArray} {it:PIt} (h:lnOkB s it=true):LnOk s it:=by
 unfold lnOkB at h;simp only[Bool.and_eq_true,decide_eq_true_eq,Bool.not_eq_true',decide_eq_false_iff_not]at h;obtain⟨h1,h2,h3,h4,h5,h6,h7⟩:=h
 have hhd:∀ hp:0<s.size,s.data.toList.head?=some s[0]:=fun hp=>by
  rw[List.head?_eq_getElem?,List.getElem?_eq_getElem (by simpa using hp)];rfl
 refine⟨h1,h2,fun hp=>⟨fun e=>?_,fun e=>?_⟩,h5,fun j hj=>?_,h7⟩
 ·rw[hhd hp,e]at h3;exact absurd h3 (by decide)
 ·rw[hhd hp,e]at h4;exact absurd h4 (by decide)
 ·rw[List.all_eq_true]at h6
  exact h6 _ (by
   have:s[j]=s.data.toList[j]'(by simpa using hj):=rfl;rw[this];exact List.getElem_mem _)
theorem lnsOk_of {ls:List ByteArray} {its:List PIt} (h:(ls.zip its).all (fun p=>lnOkB p.1 p.2)=true):∀ i (hi:i<its.length)(hj:i<ls.length),LnOk ls[i] its[i]:=fun i hi hj=>by
 rw[List.all_eq_true]at h;have hz:i<(ls.zip its).length:=by rw[List.length_zip];omega
 have:=h _ (List.getElem_mem hz);rw[List.getElem_zip]at this;exact lnOk_of this
def PIt.fitB:PIt->Bool
 | .ty n=>isNm n&&decide (n≠⟨#[116,104,105,115]⟩)
 | .rel n x ys=>isNm n&&(decide (n≠⟨#[116,104,105,115]⟩)&&(decide (n≠⟨#[116,121,112,101]⟩)&&((x::ys).all isNm&&decide (ys.length<=100000))))
theorem fits_of {its:List PIt} (h:its.all PIt.fitB=true):∀ it∈its,it.Fit:=fun it hit=>by
 rw[List.all_eq_true]at h;have:=h it hit;cases it with
 | ty n =>
  simp only[PIt.fitB,Bool.and_eq_true,decide_eq_true_eq]at this;exact this
 | rel n x ys =>
  simp only[PIt.fitB,Bool.and_eq_true,decide_eq_true_eq]at this;obtain⟨h1,h2,h3,h4,h5⟩:=this;exact⟨h1,h2,h3,fun z hz=>(List.all_eq_true.1 h4) z hz,h5⟩
end Go.Proofs.YtlhaghoajpglaaaGreat
namespace Go.Proofs.YtlhaghoajpglaaaGreat
open Go Go.RowKit Go.ChangeShapes Go.WideShapes Go.ChangeAt
section
variable {H : Type} {enc : TypeId × Value -> H} {P : Program} {w : World}
theorem mapM_some {α β:Type} {f:α->Option β}:∀ {l:List α} {r:List β},l.mapM f=some r->r.length=l.length/\∀ (i:Nat)(x:α),l[i]?=some x->f x=r[i]?:=by
 intro l;induction l with
 | nil=>intro r h;simp at h;subst h;exact⟨rfl,by simp⟩
 | cons a l ih =>
  intro r h;simp only[List.mapM_cons,Option.bind_eq_bind,Option.bind_eq_some_iff,Option.pure_def,Option.some.injEq]at h;obtain⟨b,hb,bs,hbs,rfl⟩:=h;obtain⟨h1,h2⟩:=ih hbs;refine⟨by simp[h1],fun i x hx=>?_⟩;cases i with
  | zero=>simp at hx;subst hx;simpa using hb
  | succ i=>simp at hx ⊢;exact h2 i x hx
theorem addr_add_add (a:Addr)(x y:Nat):(a.add x).add y=a.add (x+y):=by
 by_cases hx:x=0
 ·subst hx;simp[Addr.add]
 ·by_cases hy:y=0
  ·subst hy;simp[Addr.add]
  ·simp[Addr.add,hx,hy,Nat.add_assoc]
theorem cells_get {base:Nat} {a:Addr} {n:Nat} {cs:List Value} (h:w.cells? base a n=some cs):cs.length=n/\∀ j,j<n->w.cell? (a.add j)=cs[j]?:=by
 unfold World.cells? at h;split at h
 ·obtain⟨h1,h2⟩:=mapM_some h;refine⟨by simpa using h1,fun j hj=>h2 j j (by simp[hj])⟩
 ·cases h
theorem open_sl {t e:TypeId} {v:Value} {d:DataW H} {ps:List MemPlace} (ht:P.underlying t=some (.slice e))(hv:∃ a len cap,v = .slice a len cap)(h:DataW.Trod enc P w 0 (fun _=>true) true t v d ps) :
  ∃ (xs:List Value) (elems:List (DataW H × List MemPlace)) (fuel:Nat),Sl (· < w.heap.size) w (P.cellsOf e) v xs/\xs.length=elems.length*P.cellsOf e /\
   (∀ i y,elems[i]?=some y->DataW.trod enc P w 0 (fun _=>true) true fuel e ((xs.drop (i*P.cellsOf e)).take (P.cellsOf e))=some y) /\
   (d = .nil/\elems=[]\/∃ rest,d = .slice (elems.map (·.1)) rest):=by
 obtain⟨a0,len0,cap0,rfl⟩:=hv;obtain⟨fuel,hf⟩:=h;rcases DataW.trod_slice ht hf with⟨hcs,hx⟩ | ⟨a,len,cap,elems,rest,n,hfu,hcs,hx,_,hlc,hcm,hlen,hel,_⟩
 ·have hv:Value.slice a0 len0 cap0 = .slice none 0 0:=by simpa [Value.cells] using hcs
  rw[hv];simp only[Prod.mk.injEq]at hx;exact⟨[],[],0,Sl.nil _ w _,by simp,by simp,.inl ⟨hx.1,rfl⟩⟩
 ·have hv:Value.slice a0 len0 cap0 = .slice (some a) len cap:=by simpa [Value.cells] using hcs
  rw[hv];generalize hk:P.cellsOf e=k at *
  have hget:∀ i,i<len->∃ cs y,w.cells? 0 (a.add (i*k)) k=some cs/\elems[i]?=some y/\DataW.trod enc P w 0 (fun _=>true) true n e cs=some y:=by
   intro i hi;have h1:=hel i hi;obtain⟨y,hy⟩:∃ y,elems[i]?=some y:=⟨_,List.getElem?_eq_getElem (by omega)⟩;rw[hy]at h1;obtain⟨cs,hc1,hc2⟩:=Option.bind_eq_some_iff.1 h1;exact⟨cs,y,hc1,hy,hc2⟩
  -- the cells, one by one
  obtain⟨xs,hxl,hxs⟩:∃ xs:List Value,xs.length=len*k/\∀ i j,i<len->j<k->w.cell? (a.add (i*k+j))=xs[i*k+j]?:=by
   refine⟨(List.range (len*k)).map fun m=>(w.cell? (a.add m)).getD undef,by simp,fun i j hi hj=>?_⟩
   have hm:i*k+j<len*k:=by
    have:=Nat.mul_le_mul_right k (show i+1<=len from hi);rw[Nat.add_mul]at this;omega
   obtain⟨cs,y,hc1,_,_⟩:=hget i hi;obtain⟨hcl,hcc⟩:=cells_get hc1;have h2:=hcc j hj;rw[addr_add_add]at h2;rw[h2,List.getElem?_eq_getElem (by omega)];simp[hm,h2,List.getElem?_eq_getElem (show j<cs.length by omega)]
  have hxm:∀ m u,xs[m]?=some u->w.cell? (a.add m)=some u:=by
   intro m u hu;have hml:m<len*k:=by rw[<- hxl];exact(List.getElem?_eq_some_iff.1 hu).1
   have hk0:0<k:=by
    apply Nat.pos_of_ne_zero;intro h0;rw[h0]at hml;omega
   have hdm:=Nat.div_add_mod m k;have hi:m / k<len:=(Nat.div_lt_iff_lt_mul hk0).2 hml;have:=hxs (m / k) (m % k) hi (Nat.mod_lt _ hk0);rw[Nat.mul_comm,hdm]at this;rw[this,hu]
  refine⟨xs,elems,n,⟨some a,len,cap,rfl,hxl,hlc,hcm,fun h=>(by cases h),fun hne=>?_⟩,by rw[hxl,hlen],fun i y hy=>?_,.inr ⟨rest.map (·.1),?_⟩⟩
  ·obtain⟨u,hu⟩:∃ u,xs[0]?=some u:=by
    cases xs with
    | nil=>exact absurd rfl hne
    | cons x _=>exact⟨x,rfl⟩
   have h0:=hxm 0 u hu;obtain⟨b,off,s⟩:=a
   have hs:s=none:=by
    cases s with
    | none=>rfl
    | some s =>
     exfalso
     simp only[Addr.add,World.cell?]at h0;split at h0 <;> simp at h0
   subst hs;have hb:=World.block_lt_of_cell? w _ h0;rw[Addr.add_lit]at hb;exact⟨b,off,rfl,hb,fun j u hu=>by have:=hxm j u hu;rwa[Addr.add_lit]at this⟩
  ·have hi:i<len:=by rw[<- hlen];exact(List.getElem?_eq_some_iff.1 hy).1
   obtain⟨cs,y',hc1,hy',hc2⟩:=hget i hi;obtain rfl:y=y':=by rw[hy]at hy';exact Option.some.inj hy'
   obtain⟨hcl,hcc⟩:=cells_get hc1
   have:(xs.drop (i*k)).take k=cs:=by
    apply List.ext_getElem?;intro j;rw[List.getElem?_take];split
    ·rename_i hj
     rw[List.getElem?_drop,<- hxs i j hi hj,<- hcc j hj,addr_add_add]
    ·rename_i hj
     rw[List.getElem?_eq_none (by omega)]
   rw[this];exact hc2
  ·simp only[Prod.mk.injEq]at hx;exact hx.1
theorem trodAll_stays {ts:List TypeId} (hl:laidOutB P=true) {W W':World} (hb:Below W.heap.size W W') :
  ∀ {vs:List Value} {ds:List (DataW H)} {ps:List MemPlace},(∀ t∈ts,P.readableRec t=true/\t<P.types.size)->(∀ x∈ps,x.block<W.heap.size) ->
   DataW.TrodAll enc P W 0 (fun _=>true) true ts vs ds ps->DataW.TrodAll enc P W' 0 (fun b=>decide (b<W.heap.size)) true ts vs ds ps:=by
 induction ts with
 | nil =>
  intro vs ds ps _ _ h;cases vs <;> cases ds <;> simp_all [DataW.TrodAll]
 | cons t ts ih =>
  intro vs ds ps hr hlt h;obtain⟨v,vs',d,ds',p,q,rfl,rfl,rfl,h1,h2⟩:=trodAll_cons h;exact trodAll_cons_mk (Below.trod hl (hr t (by simp)).1 (hr t (by simp)).2 h1 hb (fun x hx=>hlt x (by simp[hx]))) (ih (fun t ht=>hr t (by simp[ht])) (fun x hx=>hlt x (by simp[hx])) h2)
theorem law_post {f:Func} {s:ChangeSpec} {W W':World} {args:Array Value} {ds gs:List (DataW H)} {before:List MemPlace} {tb:TypeId}
  (hW:DataW.Whole enc P f.params.toList s.vars false W args.toList ds gs before) (hvars:s.vars=[]) (hres:f.resultTypes=#[tb]) (htb:P.underlying tb=some .bool)
  (hfn:(s.fn H (ds++gs)).results=[.lit (.bool true)]) (hfa:(s.fn H (ds++gs)).args=ds) (hfv:(s.fn H (ds++gs)).vars=[])
  (hl:laidOutB P=true) (hr:(f.params.toList.all fun t=>P.readableRec t&&decide (t<P.types.size))=true) (hb:Below W.heap.size W W') :
  s.post enc P f false true false false W args (.bool true) W':=by
 have hlt:=hW.lt;have hW0:=hW;obtain⟨p,q,hA,hV,rfl,_,_⟩:=hW;rw[hvars]at hV;refine⟨ds,gs,p++q,[],p,[],hW0,?_,?_,?_,hb.frame _,fun h=>by cases h⟩
 ·rw[hfn,hres];exact trodAll_mk1 (shut_bool htb true)
 ·rw[hfa];refine trodAll_stays hl hb (fun t ht=>?_) (fun x hx=>hlt x (by simp[hx])) hA;have:=List.all_eq_true.1 hr t ht;simpa using this
 ·rw[hfv,hvars];rfl
end
section
variable {H : Type} {enc : TypeId × Value -> H} {P : Program} {w : World}
theorem open_slF {fuel0:Nat} {t e:TypeId} {v:Value} {d:DataW H} {ps:List MemPlace} (ht:P.underlying t=some (.slice e))(hf:DataW.trod enc P w 0 (fun _=>true) true fuel0 t [v]=some (d,ps)) :
  ∃ (xs:List Value) (elems:List (DataW H × List MemPlace)) (fuel:Nat),(elems=[]\/fuel<fuel0)/\Sl (· < w.heap.size) w (P.cellsOf e) v xs/\xs.length=elems.length*P.cellsOf e /\
   (∀ i y,elems[i]?=some y->DataW.trod enc P w 0 (fun _=>true) true fuel e ((xs.drop (i*P.cellsOf e)).take (P.cellsOf e))=some y) /\
   (d = .nil/\elems=[]\/∃ rest,d = .slice (elems.map (·.1)) rest):=by
 rcases DataW.trod_slice ht hf with⟨hcs,hx⟩ | ⟨a,len,cap,elems,rest,n,hfu,hcs,hx,_,hlc,hcm,hlen,hel,_⟩
 ·obtain rfl:v = .slice none 0 0:=by simpa using hcs
  simp only[Prod.mk.injEq]at hx;exact⟨[],[],0,.inl rfl,Sl.nil _ w _,by simp,by simp,.inl ⟨hx.1,rfl⟩⟩
 ·obtain rfl:v = .slice (some a) len cap:=by simpa using hcs
  generalize hk:P.cellsOf e=k at *
  have hget:∀ i,i<len->∃ cs y,w.cells? 0 (a.add (i*k)) k=some cs/\elems[i]?=some y/\DataW.trod enc P w 0 (fun _=>true) true n e cs=some y:=by
   intro i hi;have h1:=hel i hi;obtain⟨y,hy⟩:∃ y,elems[i]?=some y:=⟨_,List.getElem?_eq_getElem (by omega)⟩;rw[hy]at h1;obtain⟨cs,hc1,hc2⟩:=Option.bind_eq_some_iff.1 h1;exact⟨cs,y,hc1,hy,hc2⟩
  -- the cells, one by one
  obtain⟨xs,hxl,hxs⟩:∃ xs:List Value,xs.length=len*k/\∀ i j,i<len->j<k->w.cell? (a.add (i*k+j))=xs[i*k+j]?:=by
   refine⟨(List.range (len*k)).map fun m=>(w.cell? (a.add m)).getD undef,by simp,fun i j hi hj=>?_⟩
   have hm:i*k+j<len*k:=by
    have:=Nat.mul_le_mul_right k (show i+1<=len from hi);rw[Nat.add_mul]at this;omega
   obtain⟨cs,y,hc1,_,_⟩:=hget i hi;obtain⟨hcl,hcc⟩:=cells_get hc1;have h2:=hcc j hj;rw[addr_add_add]at h2;rw[h2,List.getElem?_eq_getElem (by omega)];simp[hm,h2,List.getElem?_eq_getElem (show j<cs.length by omega)]
  have hxm:∀ m u,xs[m]?=some u->w.cell? (a.add m)=some u:=by
   intro m u hu;have hml:m<len*k:=by rw[<- hxl];exact(List.getElem?_eq_some_iff.1 hu).1
   have hk0:0<k:=by
    apply Nat.pos_of_ne_zero;intro h0;rw[h0]at hml;omega
   have hdm:=Nat.div_add_mod m k;have hi:m / k<len:=(Nat.div_lt_iff_lt_mul hk0).2 hml;have:=hxs (m / k) (m % k) hi (Nat.mod_lt _ hk0);rw[Nat.mul_comm,hdm]at this;rw[this,hu]
  refine⟨xs,elems,n,.inr (by omega),⟨some a,len,cap,rfl,hxl,hlc,hcm,fun h=>(by cases h),fun hne=>?_⟩,by rw[hxl,hlen],fun i y hy=>?_,.inr ⟨rest.map (·.1),?_⟩⟩
  ·obtain⟨u,hu⟩:∃ u,xs[0]?=some u:=by
    cases xs with
    | nil=>exact absurd rfl hne
    | cons x _=>exact⟨x,rfl⟩
   have h0:=hxm 0 u hu;obtain⟨b,off,s⟩:=a
   have hs:s=none:=by
    cases s with
    | none=>rfl
    | some s =>
     exfalso
     simp only[Addr.add,World.cell?]at h0;split at h0 <;> simp at h0
   subst hs;have hb:=World.block_lt_of_cell? w _ h0;rw[Addr.add_lit]at hb;exact⟨b,off,rfl,hb,fun j u hu=>by have:=hxm j u hu;rwa[Addr.add_lit]at this⟩
  ·have hi:i<len:=by rw[<- hlen];exact(List.getElem?_eq_some_iff.1 hy).1
   obtain⟨cs,y',hc1,hy',hc2⟩:=hget i hi;obtain rfl:y=y':=by rw[hy]at hy';exact Option.some.inj hy'
   obtain⟨hcl,hcc⟩:=cells_get hc1
   have:(xs.drop (i*k)).take k=cs:=by
    apply List.ext_getElem?;intro j;rw[List.getElem?_take];split
    ·rename_i hj
     rw[List.getElem?_drop,<- hxs i j hi hj,<- hcc j hj,addr_add_add]
    ·rename_i hj
     rw[List.getElem?_eq_none (by omega)]
   rw[this];exact hc2
  ·simp only[Prod.mk.injEq]at hx;exact hx.1
theorem open_rowsB {α:Type} (ec:α->List Value)(Q:α->DataW H->Prop) {t e:TypeId} {v:Value} {fuel0:Nat} {y0:DataW H × List MemPlace} {sz:Nat}
  (ht:P.underlying t=some (.slice e)) (hsz:P.cellsOf e=sz) (h:DataW.trod enc P w 0 (fun _=>true) true fuel0 t [v]=some y0)
  (hel:∀ fuel,fuel<fuel0->∀ cs y,DataW.trod enc P w 0 (fun _=>true) true fuel e cs=some y->∃ a,cs=ec a/\Q a y.1) :
  ∃ l:List (α × DataW H),Sl (· < w.heap.size) w sz v ((l.map (·.1)).flatMap ec)/\(∀ p∈l,Q p.1 p.2)/\(l=[]\/∃ rest,y0.1 = .slice (l.map (·.2)) rest):=by
 obtain⟨xs,elems,fuel,hfu,hs,hl,he,hd⟩:=open_slF ht (d:=y0.1) (ps:=y0.2) h;rw[hsz]at hs hl he
 have main:∀ n,n<=elems.length->∃ l:List (α × DataW H),l.length=n/\xs.take (n*sz)=(l.map (·.1)).flatMap ec/\l.map (·.2)=(elems.take n).map (·.1)/\∀ p∈l,Q p.1 p.2:=by
  intro n;induction n with
  | zero=>intro _;exact⟨[],rfl,by simp,by simp,by simp⟩
  | succ n ih =>
   intro hn;obtain⟨l,hl0,hl1,hl3,hl2⟩:=ih (by omega)
   have hf:fuel<fuel0:=by
    rcases hfu with h | h
    ·rw[h]at hn;simp at hn
    ·exact h
   obtain⟨a,ha,hq⟩:=hel _ hf _ _ (he n elems[n] (List.getElem?_eq_getElem (by omega)));refine⟨l++[(a,elems[n].1)],by simp[hl0],?_,?_,fun b hb=>?_⟩
   ·rw[Nat.add_mul,Nat.one_mul,List.take_add,hl1,ha,List.map_append,List.flatMap_append];simp
   ·rw[List.map_append,hl3,List.take_succ_eq_append_getElem (by omega),List.map_append];rfl
   ·rcases List.mem_append.1 hb with hb | hb
    ·exact hl2 b hb
    ·obtain rfl:b=(a,elems[n].1):=by simpa using hb
     exact hq
 obtain⟨l,hl0,hl1,hl3,hl2⟩:=main elems.length (Nat.le_refl _);rw[<- hl,List.take_length]at hl1;rw[List.take_length]at hl3;refine⟨l,hl1▸hs,hl2,?_⟩;rcases hd with⟨_,rfl⟩ | ⟨rest,hd⟩
 ·exact .inl (List.eq_nil_of_length_eq_zero (by simpa using hl0))
 ·exact .inr ⟨rest,by rw[hl3];exact hd⟩
end
mutual
def RT.bk:RT->Nat | .mk _ a b ps=>5+a.size+b.size+bkL ps
def bkL:List RT->Nat | []=>0 | r::rs=>r.bk+bkL rs
end
def relBk (x:ByteArray × RT):Nat:=2+x.1.size+x.2.bk
def sumN {α:Type} (f:α->Nat):List α->Nat | []=>0 | x::l=>f x+sumN f l
theorem relBk_eq (x:ByteArray × RT):relBk x=2+x.1.size+x.2.bk:=rfl
def tyBk (t:TyS):Nat:=2+t.name.size+sumN relBk t.rels
theorem tyBk_eq (t:TyS):tyBk t=2+t.name.size+sumN relBk t.rels:=rfl
theorem bkL_sum (l:List RT):bkL l=sumN RT.bk l:=by
 induction l with
 | nil=>rfl
 | cons x l ih=>rw[bkL,sumN,ih]
theorem bulk_sum {H α:Type} {f:α->Nat}:∀ {l:List (α × DataW H)},(∀ p∈l,f p.1<=Rows.uptoBulk p.2)->sumN f (l.map (·.1))<=Rows.uptoBulkAll (l.map (·.2))
 | [],_=>Nat.zero_le _
 | p::l,h=>by
  rw[List.map_cons,List.map_cons,sumN,Rows.uptoBulkAll];have h1:=h p List.mem_cons_self;have h2:=bulk_sum (l:=l) fun q hq=>h q (List.mem_cons_of_mem _ hq);omega
theorem bulk_pos {H:Type} (d:DataW H):1<=Rows.uptoBulk d:=by
 cases d with
 | lit l=>cases l <;> simp[Rows.uptoBulk]
 | nil=>simp[Rows.uptoBulk]
 | ptr d=>simp[Rows.uptoBulk]
 | slice elems spare=>simp[Rows.uptoBulk]
 | agg parts=>simp[Rows.uptoBulk]
 | iface t d=>simp[Rows.uptoBulk]
 | map entries=>simp[Rows.uptoBulk]
 | held h=>simp[Rows.uptoBulk]
theorem bulk_row {H α:Type} {f:α->Nat} {l:List (α × DataW H)} {d:DataW H} (hd:l=[]\/∃ rest,d = .slice (l.map (·.2)) rest)(h:∀ p∈l,f p.1<=Rows.uptoBulk p.2):sumN f (l.map (·.1))+1<=Rows.uptoBulk d:=by
 rcases hd with rfl | ⟨rest,rfl⟩
 ·have:=bulk_pos d;simpa [sumN] using this
 ·rw[Rows.uptoBulk];have:=bulk_sum (f:=f) h;omega
theorem sumN_map {α β:Type} (g:β->Nat)(f:α->β)(l:List α):sumN (fun x=>g (f x)) l=sumN g (l.map f):=by
 induction l with
 | nil=>rfl
 | cons x l ih=>rw[List.map_cons,sumN,sumN,ih]
theorem sumN_mem {α:Type} (f:α->Nat) {a:α}:∀ {l:List α},a∈l->f a<=sumN f l
 | x::l,h=>by
  rw[sumN];rcases List.mem_cons.1 h with rfl | h
  ·omega
  ·have:=sumN_mem f h;omega
section
variable {H : Type} {enc : TypeId × Value -> H} {W : World} {base : Nat} {v : Value} {d : DataW H} {ps : List MemPlace}
def RuleQ (W:World)(x:RT × Value)(d:DataW H):Prop:=RTAt (· < W.heap.size) W x.1 x.2/\(x.1.bk<=1048576->x.1.Ok)/\x.1.bk<=Rows.uptoBulk d
theorem open_rule_cells (fuel:Nat):∀ {cs:List Value} {y:DataW H × List MemPlace},DataW.trod enc Tryz.prog W 0 (fun _=>true) true fuel 106 cs=some y->∃ x:RT × Value,cs=rC x/\RuleQ W x y.1:=by
 induction fuel using Nat.strongRecOn with
 | ind fuel ih =>
 intro cs y hy;obtain⟨xs,n,hfn,hyx,hl,hlen,hf⟩:=DataW.trod_struct Tryz.underlying106 hy;rw[show Tryz.prog.cellsOf 106=4 from by kernel_rfl]at hl
 obtain⟨c0,c1,c2,c3,rfl⟩:∃ c0 c1 c2 c3,cs=[c0,c1,c2,c3]:=by
  match cs,hl with
  | [c0,c1,c2,c3],_=>exact⟨c0,c1,c2,c3,rfl⟩
 have h0:=hf 0 _ rfl;have h1:=hf 1 _ rfl;have h2:=hf 2 _ rfl;have h3:=hf 3 _ rfl
 obtain⟨y0,y1,y2,y3,rfl⟩:∃ y0 y1 y2 y3,xs=[y0,y1,y2,y3]:=by
  match xs,hlen with
  | [y0,y1,y2,y3],_=>exact⟨y0,y1,y2,y3,rfl⟩
 have k0:Tryz.prog.cellsOf 3=1:=by kernel_rfl
 have k1:Tryz.prog.cellsOf 9=1:=by kernel_rfl
 have k2:Tryz.prog.cellsOf 104=1:=by kernel_rfl
 obtain⟨k,e0,d0,w0⟩:=DataW.trod_int Tryz.underlying3 h0;obtain⟨a,e1,d1,wa⟩:=DataW.trod_string Tryz.underlying9 h1;obtain⟨b,e2,d2,wb⟩:=DataW.trod_string Tryz.underlying9 h2;simp[k0]at e0;simp[k1]at e1 e2;subst e0 e1 e2;have h3':DataW.trod enc Tryz.prog W 0 (fun _=>true) true n 104 [c3]=some y3:=by simpa [k2] using h3
 obtain⟨l,hs,hq,hd⟩:=open_rowsB rC (RuleQ W) Tryz.underlying104 (show _=4 by kernel_rfl) h3' (fun fuel' hlt cs y hy=>ih fuel' (by omega) hy)
 have hbk:(RT.mk k a b (l.map (·.1.1))).bk<=Rows.uptoBulk y.1:=by
  have h4:=bulk_row (f:=fun x:RT × Value=>x.1.bk) hd fun p hp=>(hq p hp).2.2;rw[sumN_map RT.bk (fun x:RT × Value=>x.1),List.map_map]at h4;rw[hyx,d0,d1,d2,RT.bk,bkL_sum];simp only[List.map_cons,List.map_nil,Rows.uptoBulkAll,Rows.uptoBulk,Array.length_toList];have e:(l.map (·.1.1))=l.map ((fun x:RT × Value=>x.1) ∘ fun x=>x.1):=rfl;rw[e];show 5+a.data.size+b.data.size+_<=_
  omega
 refine⟨(.mk k a b (l.map (·.1.1)),c3),rfl,(RTAt.iff _ _).2 ⟨l.map (·.1),by simp[RT.ps,List.map_map],fun x hx=>?_,hs⟩,fun hle=>?_,hbk⟩
 ·obtain⟨p,hp,rfl⟩:=List.mem_map.1 hx;exact(hq p hp).1
 ·rw[RT.bk]at hle;refine(RT.ok_iff _).2 ⟨?_,?_,?_,fun r hr=>?_⟩
  ·have:=w0;simp[Lit.wf]at this;exact this
  ·show a.size<=_;omega
  ·show b.size<=_;omega
  ·obtain⟨p,hp,rfl⟩:=List.mem_map.1 hr
   exact(hq p hp).2.1 (by
    have:p.1.1.bk<=bkL (l.map (·.1.1)):=by
     rw[bkL_sum];exact sumN_mem _ (List.mem_map.2 ⟨p,hp,rfl⟩)
    omega)
def RelQ (W:World)(x:(ByteArray × RT) × Value)(d:DataW H):Prop:=RTAt (· < W.heap.size) W x.1.2 x.2/\(relBk x.1<=1048576->x.1.2.Ok)/\relBk x.1<=Rows.uptoBulk d
theorem open_rel_cells {fuel:Nat} {cs:List Value} {y:DataW H × List MemPlace} (hy:DataW.trod enc Tryz.prog W 0 (fun _=>true) true fuel 181 cs=some y):∃ x:(ByteArray × RT) × Value,cs=relC x/\RelQ W x y.1:=by
 obtain⟨xs,n,hfn,hyx,hl,hlen,hf⟩:=DataW.trod_struct Tryz.underlying181 hy;rw[show Tryz.prog.cellsOf 181=5 from by kernel_rfl]at hl
 obtain⟨c0,c1,c2,c3,c4,rfl⟩:∃ c0 c1 c2 c3 c4,cs=[c0,c1,c2,c3,c4]:=by
  match cs,hl with
  | [c0,c1,c2,c3,c4],_=>exact⟨c0,c1,c2,c3,c4,rfl⟩
 have h0:=hf 0 _ rfl;have h1:=hf 1 _ rfl
 obtain⟨y0,y1,rfl⟩:∃ y0 y1,xs=[y0,y1]:=by
  match xs,hlen with
  | [y0,y1],_=>exact⟨y0,y1,rfl⟩
 have k0:Tryz.prog.cellsOf 9=1:=by kernel_rfl
 have k1:Tryz.prog.cellsOf 106=4:=by kernel_rfl
 obtain⟨a,e0,d0,wa⟩:=DataW.trod_string Tryz.underlying9 h0;simp[k0]at e0;subst e0;have h1':DataW.trod enc Tryz.prog W 0 (fun _=>true) true n 106 [c1,c2,c3,c4]=some y1:=by simpa [k1] using h1
 obtain⟨⟨r,pv⟩,hc,hat,hok,hbk⟩:=open_rule_cells n h1';simp only[rC,List.cons.injEq,and_true]at hc;obtain⟨rfl,rfl,rfl,rfl⟩:=hc;refine⟨((a,r),_),rfl,hat,fun hle=>hok ?_,?_⟩
 ·unfold relBk at hle;dsimp only at hle ⊢;omega
 ·rw[hyx,d0];simp only[List.map_cons,List.map_nil,Rows.uptoBulkAll,Rows.uptoBulk,Array.length_toList];show 2+a.data.size+r.bk<=_
  dsimp only at hbk;omega
def TyQ (W:World)(x:TyS × Value)(d:DataW H):Prop:=RelsAt (· < W.heap.size) W x.1.rels x.2/\(tyBk x.1<=1048576->x.1.Ok)/\tyBk x.1<=Rows.uptoBulk d
theorem open_type_cells {fuel:Nat} {cs:List Value} {y:DataW H × List MemPlace} (hy:DataW.trod enc Tryz.prog W 0 (fun _=>true) true fuel 176 cs=some y):∃ x:TyS × Value,cs=tyC x/\TyQ W x y.1:=by
 obtain⟨xs,n,hfn,hyx,hl,hlen,hf⟩:=DataW.trod_struct Tryz.underlying176 hy;rw[show Tryz.prog.cellsOf 176=2 from by kernel_rfl]at hl
 obtain⟨c0,c1,rfl⟩:∃ c0 c1,cs=[c0,c1]:=by
  match cs,hl with
  | [c0,c1],_=>exact⟨c0,c1,rfl⟩
 have h0:=hf 0 _ rfl;have h1:=hf 1 _ rfl
 obtain⟨y0,y1,rfl⟩:∃ y0 y1,xs=[y0,y1]:=by
  match xs,hlen with
  | [y0,y1],_=>exact⟨y0,y1,rfl⟩
 have k0:Tryz.prog.cellsOf 9=1:=by kernel_rfl
 have k1:Tryz.prog.cellsOf 174=1:=by kernel_rfl
 obtain⟨a,e0,d0,wa⟩:=DataW.trod_string Tryz.underlying9 h0;simp[k0]at e0;subst e0;have h1':DataW.trod enc Tryz.prog W 0 (fun _=>true) true n 174 [c1]=some y1:=by simpa [k1] using h1
 obtain⟨l,hs,hq,hd⟩:=open_rowsB relC (RelQ W) Tryz.underlying174 (show _=5 by kernel_rfl) h1' (fun fuel' _ cs y hy=>open_rel_cells hy);have h4:=bulk_row (f:=fun x:(ByteArray × RT) × Value=>relBk x.1) hd fun p hp=>(hq p hp).2.2;rw[sumN_map relBk (fun x:(ByteArray × RT) × Value=>x.1),List.map_map]at h4;refine⟨(⟨a,l.map ((fun x:(ByteArray × RT) × Value=>x.1) ∘ fun x=>x.1)⟩,c1),rfl,⟨l.map (·.1),by simp[List.map_map],fun x hx=>?_,hs⟩,fun hle=>?_,?_⟩
 ·obtain⟨p,hp,rfl⟩:=List.mem_map.1 hx;exact(hq p hp).1
 ·unfold tyBk at hle;dsimp only at hle;refine⟨by show a.size<=_;omega,fun r hr=>?_⟩;have h5:=sumN_mem relBk hr;obtain⟨p,hp,rfl⟩:=List.mem_map.1 hr;dsimp only[Function.comp_apply]at h5;refine⟨?_,(hq p hp).2.1 (by omega)⟩;have h6:=relBk_eq p.1.1;show p.1.1.1.size<=_
  omega
 ·rw[hyx,d0,tyBk_eq];simp only[List.map_cons,List.map_nil,Rows.uptoBulkAll,Rows.uptoBulk,Array.length_toList];show 2+a.data.size+sumN relBk (l.map ((fun x:(ByteArray × RT) × Value=>x.1) ∘ fun x=>x.1))+0<=_
  omega
def schBk (ts:List TyS):Nat:=sumN tyBk ts
theorem open_schemaV (hok:Value.okWide Tryz.prog W .any base 26 v)(h:DataW.Trod enc Tryz.prog W 0 (fun _=>true) true 26 v d ps):∃ (ts:List TyS)(tv:Value),v = .agg #[tv]/\TysAt (· < W.heap.size) W ts tv/\schBk ts+2<=Rows.uptoBulk d/\(schBk ts<=1048576->∀ t∈ts,t.Ok):=by
 obtain⟨ca,rfl,_⟩:=okWide_struct Tryz.underlying26 hok;obtain⟨fuel,hy⟩:=h;obtain⟨xs,n,hfn,hyx,hl,hlen,hf⟩:=DataW.trod_struct Tryz.underlying26 hy;rw[show Tryz.prog.cellsOf 26=1 from by kernel_rfl]at hl
 obtain⟨c0,hc⟩:∃ c0,(Value.agg ca).cells.toList=[c0]:=by
  match (Value.agg ca).cells.toList,hl with
  | [c0],_=>exact⟨c0,rfl⟩
 have h0:=hf 0 _ rfl
 obtain⟨y0,rfl⟩:∃ y0,xs=[y0]:=by
  match xs,hlen with
  | [y0],_=>exact⟨y0,rfl⟩
 have k0:Tryz.prog.cellsOf 24=1:=by kernel_rfl
 rw[hc]at h0;have h0':DataW.trod enc Tryz.prog W 0 (fun _=>true) true n 24 [c0]=some y0:=by simpa [k0] using h0
 obtain⟨l,hs,hq,hd⟩:=open_rowsB tyC (TyQ W) Tryz.underlying24 (show _=2 by kernel_rfl) h0' (fun fuel' _ cs y hy=>open_type_cells hy);have h4:=bulk_row (f:=fun x:TyS × Value=>tyBk x.1) hd fun p hp=>(hq p hp).2.2;rw[sumN_map tyBk (fun x:TyS × Value=>x.1),List.map_map]at h4;refine⟨l.map ((fun x:TyS × Value=>x.1) ∘ fun x=>x.1),c0,congrArg Value.agg (Array.toList_inj.1 hc),⟨l.map (·.1),by simp[List.map_map],fun x hx=>?_,hs⟩,?_,fun hle t ht=>?_⟩
 ·obtain⟨p,hp,rfl⟩:=List.mem_map.1 hx;exact(hq p hp).1
 ·have hdd:=congrArg Prod.fst hyx;dsimp only at hdd;rw[hdd];simp only[List.map_cons,List.map_nil,Rows.uptoBulkAll,Rows.uptoBulk];unfold schBk;omega
 ·have h5:=sumN_mem tyBk ht;obtain⟨p,hp,rfl⟩:=List.mem_map.1 ht;unfold schBk at hle;exact(hq p hp).2.1 (by dsimp only[Function.comp_apply]at h5;omega)
end
theorem sz_bk (r:RT):5*r.sz<=r.bk/\5+r.a.size+r.b.size<=r.bk:=by
 induction r using RT.ind with
 | h r ih =>
  obtain⟨k,a,b,ps⟩:=r
  have:5*szL ps<=bkL ps:=by
   have hh:∀ p∈ps,5*p.sz<=p.bk:=fun p hp=>(ih p hp).1;clear ih;induction ps with
   | nil=>simp[szL,bkL]
   | cons x ps ih =>
    rw[szL,bkL];have h1:=hh x List.mem_cons_self;have h2:=ih fun p hp=>hh p (List.mem_cons_of_mem _ hp);omega
  rw[RT.sz,RT.bk];refine⟨by omega,?_⟩;show 5+a.size+b.size<=_
  omega
theorem relW_bk (l:List (ByteArray × RT)):relW l<=20*sumN relBk l:=by
 induction l with
 | nil=>simp[relW]
 | cons x l ih =>
  rw[relW,sumN];have:=(sz_bk x.2).1;have:=relBk_eq x;omega
theorem schW_bk (ts:List TyS):schW ts<=20*schBk ts:=by
 induction ts with
 | nil=>simp[schW]
 | cons t ts ih =>
  rw[schW];have:=relW_bk t.rels;unfold schBk at ih ⊢;rw[sumN];have:=tyBk_eq t;omega
theorem rels_bk (l:List (ByteArray × RT)):l.length<=sumN relBk l:=by
 induction l with
 | nil=>simp
 | cons x l ih=>rw[sumN,List.length_cons];have:=relBk_eq x;omega
theorem names_bk (ts:List TyS):(namesOf ts).length<=schBk ts/\(refsOf ts).length<=schBk ts:=by
 induction ts with
 | nil=>exact⟨Nat.zero_le _,Nat.zero_le _⟩
 | cons t ts ih =>
  have h1:=rels_bk t.rels;unfold schBk namesOf refsOf at ih ⊢;rw[List.flatMap_cons,List.flatMap_cons,List.length_append,List.length_append,sumN];have h2:(relsOf t.name t.rels).length=t.rels.length:=by unfold relsOf;rw[List.length_map]
  have h3:(namesT t).length<=t.rels.length+1:=by unfold namesT;simp
  have:=tyBk_eq t;omega
theorem sz_sch {ts:List TyS} (h:schBk ts<=1048576):∀ t∈ts,∀ r∈t.rels,r.2.sz<=1000000:=fun t ht r hr=>by
 have h1:=sumN_mem tyBk ht;have h2:=sumN_mem relBk hr;have h3:=(sz_bk r.2).1;unfold schBk at h;have h4:=tyBk_eq t;have h5:=relBk_eq r;omega
theorem wt_bk (r:RT):r.wt+8<=4*r.bk:=by
 induction r using RT.ind with
 | h r ih =>
  obtain⟨k,a,b,ps⟩:=r
  have:wtL ps<=4*bkL ps:=by
   have hh:∀ p∈ps,p.wt+8<=4*p.bk:=fun p hp=>ih p hp;clear ih;induction ps with
   | nil=>simp[wtL,bkL]
   | cons x ps ih =>
    rw[wtL,bkL];have h1:=hh x List.mem_cons_self;have h2:=ih fun p hp=>hh p (List.mem_cons_of_mem _ hp);omega
  rw[RT.wt,RT.bk];omega
theorem relB_bk (l:List (ByteArray × RT)):relB l<=5*sumN relBk l:=by
 induction l with
 | nil=>simp[relB]
 | cons x l ih =>
  rw[relB,sumN];have:=wt_bk x.2;have:=relBk_eq x;omega
theorem schB_bk (ts:List TyS):schB ts<=5*schBk ts:=by
 induction ts with
 | nil=>simp[schB]
 | cons t ts ih =>
  rw[schB];have:=relB_bk t.rels;unfold schBk at ih ⊢;rw[sumN];have:=tyBk_eq t;omega
end Go.Proofs.YtlhaghoajpglaaaGreat
namespace Go.Proofs.YtlhaghoajpglaaaGreat
open Go Go.RowKit Go.Maps Go.Shelf
theorem rels_look {l:List (ByteArray × RT)} (n:ByteArray) {rel:ByteArray} {i:Nat} (hi:i<l.length)(hr:l[i].1=rel)(hb:∀ j (hj:j<l.length),j<i->l[j].1≠rel):lookA (relsOf n l) ⟨n,rel⟩=some l[i].2:=by
 induction l generalizing i with
 | nil=>simp at hi
 | cons x l ih =>
  unfold relsOf;rw[List.map_cons,lookA];cases i with
  | zero=>rw[if_pos (by simpa using congrArg (R2.mk n) hr)];rfl
  | succ i =>
   have h0:=hb 0 (by simp) (by omega);rw[if_neg (by intro e;injection e with _ e;exact h0 e)]
   exact ih (by simpa using hi) (by simpa using hr) fun j hj hji=>by
    have:=hb (j+1) (by simpa using hj) (by omega);simpa using this
theorem RTAt.nil (S:Nat->Prop)(w:World)(k:Int)(a b:ByteArray):RTAt S w (.mk k a b []) (.slice none 0 0):=(RTAt.iff _ _).2 ⟨[],rfl,by simp,Sl.nil _ _ _⟩
theorem look_app {a b:List (R2 × RT)} {k:R2} (h:lookA a k=none):lookA (a++b) k=lookA b k:=by
 induction a with
 | nil=>rfl
 | cons x a ih =>
  rw[List.cons_append,lookA];rw[lookA]at h;split at h
  ·cases h
  ·rename_i hn
   rw[if_neg hn];exact ih h
theorem look_app_some {a b:List (R2 × RT)} {k:R2} {r:RT} (h:lookA a k=some r):lookA (a++b) k=some r:=by
 induction a with
 | nil=>cases h
 | cons x a ih =>
  rw[List.cons_append,lookA];rw[lookA]at h;split at h
  ·rename_i hp
   rw[if_pos hp];exact h
  ·rename_i hn
   rw[if_neg hn];exact ih h
theorem refs_pre {ts:List TyS} {i:Nat} {ty rel:ByteArray} (hb:∀ j (hj:j<ts.length),j<i->ts[j].name≠ty):lookA (refsOf (ts.take i)) ⟨ty,rel⟩=none:=by
 refine look_none_iff.2 fun p hp e=>?_;obtain⟨t,ht,hp⟩:=List.mem_flatMap.1 hp;obtain⟨r,hr,rfl⟩:=List.mem_map.1 hp;obtain⟨m,hm,rfl⟩:=List.getElem_of_mem ht;rw[List.length_take]at hm;rw[List.getElem_take]at e;injection e with e1 _
 exact hb m (by omega) (by omega) e1
theorem refs_split {ts:List TyS} {i:Nat} (hi:i<ts.length):refsOf ts=refsOf (ts.take i)++(relsOf ts[i].name ts[i].rels++refsOf (ts.drop (i+1))):=by
 conv=>lhs;rw[<- List.take_append_drop i ts,refsOf_append,List.drop_eq_getElem_cons hi]
 rfl
theorem refs_hit {ts:List TyS} {i k:Nat} {ty rel:ByteArray} (hi:i<ts.length)(hn:ts[i].name=ty)(hb:∀ j (hj:j<ts.length),j<i->ts[j].name≠ty)(hk:k<ts[i].rels.length)(hr:ts[i].rels[k].1=rel)(hb2:∀ j (hj:j<ts[i].rels.length),j<k->ts[i].rels[j].1≠rel):lookA (refsOf ts) ⟨ty,rel⟩=some ts[i].rels[k].2:=by
 rw[refs_split hi,look_app (refs_pre hb)];refine look_app_some ?_;rw[<- hn];exact rels_look _ hk hr hb2
theorem refs_miss {ts:List TyS} (hu:uniqOk ts=true) {i:Nat} {ty rel:ByteArray} (hi:i<ts.length)(hn:ts[i].name=ty)(hb2:∀ j (hj:j<ts[i].rels.length),ts[i].rels[j].1≠rel):lookA (refsOf ts) ⟨ty,rel⟩=none:=by
 refine look_none_iff.2 fun p hp e=>?_;obtain⟨t,ht,r,hr,rfl⟩:=refs_mem.1 hp;injection e with e1 e2
 obtain rfl:=uniq_eq hu ht (List.getElem_mem hi) (e1.trans hn.symm);obtain⟨m,hm,rfl⟩:=List.getElem_of_mem hr;exact hb2 m hm e2
theorem refs_out {ts:List TyS} {ty rel:ByteArray} (hb:∀ j (hj:j<ts.length),ts[j].name≠ty):lookA (refsOf ts) ⟨ty,rel⟩=none:=by
 have:=refs_pre (ts:=ts) (i:=ts.length) (rel:=rel) fun j hj _=>hb j hj;rwa[List.take_length]at this
end Go.Proofs.YtlhaghoajpglaaaGreat
