/- Lemmas for the claim, no condition. -/
import Derived.ProofKit
import Derived.OpenShut
import Derived.Test.YtlhaghoajpglaaaGreatRows
import Derived.SizedLaws
import Derived.Laws.EntriesVeiled
import Derived.Test.YtlhaghoajpglaaaGreatYXTells1
import Derived.Test.YtlhaghoajpglaaaGreatYXTells7
import Derived.Test.YtlhaghoajpglaaaGreatYXTells2
import Derived.Test.YtlhaghoajpglaaaGreatYXTells4
import Derived.Test.YtlhaghoajpglaaaGreatYXTells6
import Derived.Test.YtlhaghoajpglaaaGreatYXTells0
namespace Go.Proofs.YtlhaghoajpglaaaGreat
open Go Go.RowKit Go.Maps
inductive PIt where
 | ty (n:ByteArray)
 | rel (n x:ByteArray) (ys:List ByteArray)
def stepD (ts:List TyS):PIt->List TyS
 | .ty n=>ts++[⟨n,[]⟩]
 | .rel n x ys=>ts.dropLast++(ts.drop (ts.length-1)).map fun t=>⟨t.name,t.rels++[(n,altR x ys)]⟩
theorem stepD_rel (a:List TyS)(t:TyS)(n x:ByteArray)(ys:List ByteArray):stepD (a++[t]) (.rel n x ys)=a++[⟨t.name,t.rels++[(n,altR x ys)]⟩]:=by
 unfold stepD;dsimp only;rw[List.dropLast_concat,List.length_append,List.length_singleton,Nat.add_sub_cancel,List.drop_left];rfl
theorem tysT:ElemT Tryz.prog 24 176 2 40:=ElemT.mk' Tryz.underlying24 (show _=some (some (.agg #[.string ByteArray.empty,.slice none 0 0]),2,40)by kernel_rfl) rfl (by decide)
theorem relsElT:ElemT Tryz.prog 174 181 5 80:=ElemT.mk' Tryz.underlying174 (show _=some (some (.agg #[.string ByteArray.empty,.int .i64 0,.string ByteArray.empty,.string ByteArray.empty,.slice none 0 0]),5,80)by kernel_rfl) (by kernel_rfl) (by decide)
theorem Own.setAt {w:World} {B sz:Nat} {e:TypeId} {g n c:Nat} {xs:List Value} (h:Own w B e sz (.slice (some ⟨g,0,none⟩) n c) xs)(i:Nat)(u:Value):Own (w.setCell ⟨g,i,none⟩ u) B e sz (.slice (some ⟨g,0,none⟩) n c) (xs.set i u):=by
 obtain⟨m,h⟩:=h;rcases h.2 with⟨hv,rfl⟩ | ⟨g',cap,cur,hv,hbg,hg,hnc,hcm,hcs,htake⟩
 ·cases hv
 ·cases hv;have hl:=h.1;refine⟨n,by rw[List.length_set];exact hl,.inr ⟨g,c,cur.setIfInBounds i u,rfl,hbg,heap_setCell_same w g i cur e u hg,hnc,hcm,by simpa using hcs,?_⟩⟩;rw[Array.toList_setIfInBounds,<- htake,List.take_set]
def Fo (w:World)(L:Nat)(tv rv:Value)(b:Nat):Prop:=(L<=b/\b<w.heap.size)/\tv.ownBlock≠some b/\rv.ownBlock≠some b
structure PAt (L:Nat)(w:World)(tv:Value)(pre:List (TyS × Value))(n:ByteArray)(rv:Value)(qr:List ((ByteArray × RT) × Value)):Prop where
 tys:Own w L 176 2 tv ((pre++[((⟨n,qr.map (·.1)⟩:TyS),rv)]).flatMap tyC)
 rels:Own w L 181 5 rv (qr.flatMap relC)
 pr:∀ x∈pre,RelsAt (Fo w L tv rv) w x.1.rels x.2
 rr:∀ x∈qr,RTAt (Fo w L tv rv) w x.1.2 x.2
section
variable {L : Nat} {w w' : World} {tv tv' rv rv' : Value} {pre : List (TyS × Value)} {n : ByteArray} {qr : List ((ByteArray × RT) × Value)}
theorem PAt.keep (h:PAt L w tv pre n rv qr)(hk:∀ b,L<=b->b<w.heap.size->w'.heap[b]?=w.heap[b]?)(hz:w.heap.size<=w'.heap.size):PAt L w' tv pre n rv qr:=by
 have hs:Same (Fo w L tv rv) w w':=fun b hb=>hk b hb.1.1 hb.1.2;have hm:∀ b,Fo w L tv rv b->Fo w' L tv rv b:=fun b hb=>⟨⟨hb.1.1,Nat.lt_of_lt_of_le hb.1.2 hz⟩,hb.2⟩;exact⟨h.tys.keepOwn fun g hg=>hk g (h.tys.block g hg).1 (h.tys.block g hg).2,h.rels.keepOwn fun g hg=>hk g (h.rels.block g hg).1 (h.rels.block g hg).2,fun x hx=>((h.pr x hx).same hs).mono hm,fun x hx=>((h.rr x hx).same hs).mono hm⟩
theorem PAt.ty {m:ByteArray} (h:PAt L w tv pre n rv qr)(hk:∀ b,L<=b->b<w.heap.size->tv.ownBlock≠some b->w'.heap[b]?=w.heap[b]?)(hz:w.heap.size<=w'.heap.size)
  (ho:Own w' L 176 2 tv' ((pre++[((⟨n,qr.map (·.1)⟩:TyS),rv)]).flatMap tyC++[.string m,.slice none 0 0])) (hb:∀ g,tv'.ownBlock=some g->tv.ownBlock=some g\/w.heap.size<=g):PAt L w' tv' (pre++[((⟨n,qr.map (·.1)⟩:TyS),rv)]) m (.slice none 0 0) []:=by
 have hs:Same (Fo w L tv rv) w w':=fun b hb=>hk b hb.1.1 hb.1.2 hb.2.1
 have hm:∀ b,Fo w L tv rv b->Fo w' L tv' (.slice none 0 0) b:=fun b hb'=>⟨⟨hb'.1.1,Nat.lt_of_lt_of_le hb'.1.2 hz⟩,fun e=>by
  rcases hb b e with e | e
  ·exact hb'.2.1 e
  ·have:=hb'.1.2;omega,fun e=>(by cases e)⟩
 have hrg:∀ g,rv.ownBlock=some g->tv.ownBlock≠some g:=fun g hg=>h.rels.apart h.tys (by decide) hg;have hrk:Own w' L 181 5 rv (qr.flatMap relC):=h.rels.keepOwn fun g hg=>hk g (h.rels.block g hg).1 (h.rels.block g hg).2 (hrg g hg);refine⟨by rw[List.flatMap_append];exact ho,Own.nil _ _ _ _,fun x hx=>?_,fun x hx=>(by cases hx)⟩;rcases List.mem_append.1 hx with hx | hx
 ·exact((h.pr x hx).same hs).mono hm
 ·obtain rfl:=List.mem_singleton.1 hx;refine⟨qr,rfl,fun x hx=>((h.rr x hx).same hs).mono hm,hrk.slFo fun g hg=>⟨⟨(hrk.block g hg).1,(hrk.block g hg).2⟩,fun e=>?_,fun e=>(by cases e)⟩⟩;rcases hb g e with e | e
  ·exact hrg g hg e
  ·have:=(h.rels.block g hg).2;omega
theorem PAt.first {m:ByteArray} (ho:Own w' L 176 2 tv' [.string m,.slice none 0 0]):PAt L w' tv' [] m (.slice none 0 0) [] :=
 ⟨ho,Own.nil _ _ _ _,fun x hx=>(by cases hx),fun x hx=>(by cases hx)⟩
theorem PAt.rel {m:ByteArray} {r:RT} {pv:Value} {g k c:Nat} (h:PAt L w (.slice (some ⟨g,0,none⟩) k c) pre n rv qr)(hk:∀ b,L<=b->b<w.heap.size->rv.ownBlock≠some b->w'.heap[b]?=w.heap[b]?)(hz:w.heap.size<=w'.heap.size)
  (ho:Own w' L 181 5 rv' (qr.flatMap relC++relC ((m,r),pv))) (hb:∀ g,rv'.ownBlock=some g->rv.ownBlock=some g\/w.heap.size<=g) (hr:RTAt (Fo w L (.slice (some ⟨g,0,none⟩) k c) rv) w r pv):PAt L (w'.setCell ⟨g,pre.length*2+1,none⟩ rv') (.slice (some ⟨g,0,none⟩) k c) pre n rv' (qr++[((m,r),pv)]):=by
 have hrg:rv.ownBlock≠some g:=fun e=>h.rels.apart h.tys (by decide) e rfl
 have htk:Own w' L 176 2 (.slice (some ⟨g,0,none⟩) k c) ((pre++[((⟨n,qr.map (·.1)⟩:TyS),rv)]).flatMap tyC):=h.tys.keepOwn fun x hx=>by
  cases hx;exact hk g (h.tys.block g rfl).1 (h.tys.block g rfl).2 hrg
 have hrg':rv'.ownBlock≠some g:=fun e=>ho.apart htk (by decide) e rfl
 have hs:Same (Fo w L (.slice (some ⟨g,0,none⟩) k c) rv) w (w'.setCell ⟨g,pre.length*2+1,none⟩ rv'):=fun b hb =>
  (Below.heap_setCell w' _ _ b (fun e=>hb.2.1 (by rw[e];rfl))).trans (hk b hb.1.1 hb.1.2 hb.2.2)
 have hm:∀ b,Fo w L (.slice (some ⟨g,0,none⟩) k c) rv b->Fo (w'.setCell ⟨g,pre.length*2+1,none⟩ rv') L (.slice (some ⟨g,0,none⟩) k c) rv' b:=fun b hb'=>⟨⟨hb'.1.1,by simp;exact Nat.lt_of_lt_of_le hb'.1.2 hz⟩,hb'.2.1,fun e=>by
  rcases hb b e with e | e
  ·exact hb'.2.2 e
  ·have:=hb'.1.2;omega⟩
 refine⟨?_,?_,fun x hx=>((h.pr x hx).same hs).mono hm,fun x hx=>?_⟩
 ·have:=htk.setAt (pre.length*2+1) rv'
  rwa[show((pre++[((⟨n,qr.map (·.1)⟩:TyS),rv)]).flatMap tyC).set (pre.length*2+1) rv'=(pre++[((⟨n,(qr++[((m,r),pv)]).map (·.1)⟩:TyS),rv')]).flatMap tyC from by
   rw[List.flatMap_append,List.flatMap_append,List.set_append_right (h:=by rw[flat_length tyC_length];omega),flat_length tyC_length];rw[Nat.add_sub_cancel_left];rfl]at this
 ·rw[List.flatMap_append];exact(show Own w' L 181 5 rv' (qr.flatMap relC++[((m,r),pv)].flatMap relC)from by simpa using ho).keepOwn fun x hx=>Below.heap_setCell _ _ _ _ fun e=>hrg' (by rw[hx,e])
 ·rcases List.mem_append.1 hx with hx | hx
  ·exact((h.rr x hx).same hs).mono hm
  ·obtain rfl:=List.mem_singleton.1 hx;exact(hr.same hs).mono hm
theorem PAt.tysAt (h:PAt L w tv pre n rv qr):TysAt (fun b=>L<=b/\b<w.heap.size) w (pre.map (·.1)++[⟨n,qr.map (·.1)⟩]) tv:=by
 refine⟨pre++[((⟨n,qr.map (·.1)⟩:TyS),rv)],by simp,fun x hx=>?_,h.tys.sl⟩;rcases List.mem_append.1 hx with hx | hx
 ·exact(h.pr x hx).mono fun b hb=>hb.1
 ·obtain rfl:=List.mem_singleton.1 hx;exact⟨qr,rfl,fun x hx=>(h.rr x hx).mono fun b hb=>hb.1,h.rels.sl⟩
end
def PIt.toks:PIt->List ByteArray
 | .ty n => [⟨#[116,121,112,101]⟩,n]
 | .rel n x ys=>n::⟨#[61]⟩::altT x ys
def PIt.Fit:PIt->Prop
 | .ty n=>isNm n=true/\n≠⟨#[116,104,105,115]⟩
 | .rel n x ys=>isNm n=true/\n≠⟨#[116,104,105,115]⟩/\n≠⟨#[116,121,112,101]⟩/\(∀ z∈x::ys,isNm z=true)/\ys.length<=100000
structure LnOk (s:ByteArray)(it:PIt):Prop where
 size:s.size<=65536
 two:2<=s.size
 first:∀ h:0<s.size,s[0]≠32/\s[0]≠9
 slash:s.extract 0 2≠⟨#[47,47]⟩
 plain:∀ j (hj:j<s.size),plainC s[j]=true
 toks:toksD s=it.toks
def PSt (L:Nat)(w:World)(tv:Value)(ts:List TyS)(N:Nat):Prop :=
 (N=0/\ts=[]/\tv = .slice none 0 0)\/∃ pre n rv qr,PAt L w tv pre n rv qr/\ts=pre.map (·.1)++[⟨n,qr.map (·.1)⟩]/\pre.length+1<=N/\qr.length<=N
theorem PSt.own {L N:Nat} {w:World} {tv:Value} {ts:List TyS} (h:PSt L w tv ts N):∃ cs,Own w L 176 2 tv cs/\cs.length<=2*N/\(∀ w' tv' m,(∀ b,L<=b->b<w.heap.size->tv.ownBlock≠some b->w'.heap[b]?=w.heap[b]?)->w.heap.size<=w'.heap.size ->
  Own w' L 176 2 tv' (cs++[.string m,.slice none 0 0])->(∀ g,tv'.ownBlock=some g->tv.ownBlock=some g\/w.heap.size<=g)->PSt L w' tv' (stepD ts (.ty m)) (N+1)):=by
 rcases h with⟨rfl,rfl,rfl⟩ | ⟨pre,n,rv,qr,h,rfl,h1,h2⟩
 ·exact⟨[],Own.nil _ _ _ _,by simp,fun w' tv' m _ _ ho _ => .inr ⟨[],m,_,[],PAt.first ho,rfl,by simp,by simp⟩⟩
 ·refine⟨_,h.tys,?_,fun w' tv' m hk hz ho hb => .inr ⟨_,m,_,[],h.ty hk hz ho hb,?_,?_,by simp⟩⟩
  ·rw[flat_length tyC_length];simp;omega
  ·simp[stepD]
  ·simp;omega
theorem PSt.keep {L N:Nat} {w w':World} {tv:Value} {ts:List TyS} (h:PSt L w tv ts N)(hk:∀ b,L<=b->b<w.heap.size->w'.heap[b]?=w.heap[b]?)(hz:w.heap.size<=w'.heap.size):PSt L w' tv ts N:=by
 rcases h with h | ⟨pre,n,rv,qr,h,r⟩
 ·exact .inl h
 ·exact .inr ⟨pre,n,rv,qr,h.keep hk hz,r⟩
theorem PSt.tysAt {L N:Nat} {w:World} {tv:Value} {ts:List TyS} (h:PSt L w tv ts N):TysAt (fun b=>L<=b/\b<w.heap.size) w ts tv:=by
 rcases h with⟨_,rfl,rfl⟩ | ⟨pre,n,rv,qr,h,rfl,_,_⟩
 ·exact⟨[],rfl,(fun x hx=>(by cases hx)),Sl.nil _ _ _⟩
 ·exact h.tysAt
theorem Own.layN {w:World} {B sz:Nat} {e:TypeId} {v:Value} {xs:List Value} (h:Own w B e sz v xs)(hx:xs≠[]):∃ g n c cs,v = .slice (some ⟨g,0,none⟩) n c/\xs.length=n*sz/\B<=g/\Blk w g cs e/\n<=c/\c<=9223372036854775807/\(∀ i (hi:i<xs.length),cs[i]?=some xs[i]):=by
 obtain⟨m,h⟩:=h;rcases h.2 with⟨hv,he⟩ | ⟨g',cap,cur,hv,hbg,hg,hnc,hcm,hcs,htake⟩
 ·exact absurd (List.length_eq_zero_iff.1 (by have:=h.1;rw[he]at this;simpa using this)) hx
 ·refine⟨g',m,cap,cur,hv,h.1,hbg,hg,hnc,by unfold maxLen at hcm;omega,fun i hi=>?_⟩;have h1:=congrArg (fun l:List Value=>l[i]?) htake;rw[List.getElem?_take_of_lt (by rw[<- h.1];exact hi),List.getElem?_eq_getElem hi]at h1;simpa using h1
theorem foldl_take_st (its:List PIt) {i:Nat} (hi:i<its.length):(its.take (i+1)).foldl stepD []=stepD ((its.take i).foldl stepD []) its[i]:=by
 rw[List.take_succ_eq_append_getElem hi,List.foldl_append];rfl
set_option maxRecDepth 100000 in
set_option maxHeartbeats 1500000 in
theorem parse_any (s:ByteArray)(its:List PIt)(w:World)(hs:s.size<=65536)(hl:(linesD s).length=its.length)(hln:∀ i (hi:i<its.length)(hj:i<(linesD s).length),LnOk (linesD s)[i] its[i])(hok:∀ it∈its,it.Fit)(h0:∀ h:0<its.length,∃ n,its[0] = .ty n)(hN:its.length<=70000) :
  Calls Tryz.prog 33 #[.string s] w fun e w'=>∃ tv,e = .returned (.tuple #[.agg #[tv],.int .i64 0,.int .i64 0])/\TysAt (fun b=>w.heap.size<=b/\b<w'.heap.size) w' (its.foldl stepD []) tv/\Below w.heap.size w w':=by
 obtain⟨w1,hw1⟩:∃ z,z=w.alloc (.cells #[.slice none 0 0] 26):=⟨_,rfl⟩;obtain⟨w2,hw2⟩:∃ z,z=w1.alloc (.cells #[.slice none 0 0] 26):=⟨_,rfl⟩;have e1:w1.heap.size=w.heap.size+1:=by rw[hw1];simp
 have e2:w2.heap.size=w.heap.size+2:=by rw[hw2];simp[e1]
 have x01:Ext w w1:=by rw[hw1];exact Ext.alloc _ _
 have x12:Ext w1 w2:=by rw[hw2];exact Ext.alloc _ _
 have HRB:=h! (show Blk w2 w.heap.size #[.slice none 0 0] 26 from Blk.below (by rw[hw1];exact Blk.made _ _ _) x12);have HSB:=h! (show Blk w2 (w.heap.size+1) #[.slice none 0 0] 26 from by rw[hw2,<- e1];exact Blk.made _ _ _);have HB2:=h! (show Below w.heap.size w w2 from x01.trans x12);have HLN:=h! (lines_any s hs w2);rw[e2]at HLN;have HL:=h! hl;have HLK:=h! hln;have HOK:=h! hok;have HZ:=h! h0;have HN:=h! hN;have hsz:(s.size:Int)<=65536:=by omega
 subst hw2 hw1;clear hs hl hln hok h0 hN x01 x12 e1 e2;go_enter Tryz.func33,Tryz.ntmps33
 go_wp2_with fail
 refine HLN.out.mono ?_;rintro e wL ⟨lv,rfl,hownL,hbL⟩;have HRL:=h! (HRB.out.below (hbL.mono (by simp)));have HSLb:=h! (HSB.out.below (hbL.mono (by simp)));have HBL:=h! (HB2.out.trans (hbL.mono (by simp)));have HLL:=h! (show w.heap.size+2<=wL.heap.size from by have:=hbL.size;simpa using this);obtain⟨aoL,nL,cL,rfl,hnL,hncL,hcmL⟩:=hownL.sl.len;rw[txs_length,Nat.mul_one,HL.out]at hnL;subst hnL
 have HCL:=h! (show ∀ i (hi:i<its.length) (hj:i<(linesD s).length),∃ b off,aoL=some ⟨b,off,none⟩/\(w.heap.size+2<=b/\b<wL.heap.size)/\wL.cell? ⟨b,off+i,none⟩=some (.string (linesD s)[i])from fun i hi hj=>by
  have h:=hownL.sl;rw[<- HL.out]at h;exact texts_at h i hj)
 clear HRB HSB HB2 HLN hbL hownL;generalize linesD s=ls at *;go_wp2_with fail
 go_loopw [20] (fun ii wr=>∃ (i:Nat) (tv:Value),ii = .int .i64 i/\i<=its.length/\Below w.heap.size w wr/\(∀ b,w.heap.size+2<=b->b<wL.heap.size->wr.heap[b]?=wL.heap[b]?)/\Blk wr w.heap.size #[.slice none 0 0] 26/\Blk wr (w.heap.size+1) #[tv] 26/\wL.heap.size<=wr.heap.size/\PSt wL.heap.size wr tv ((its.take i).foldl stepD []) i) (fun ii _=>its.length-(intOf ii).toNat)
 case atStart=>exact⟨0,_,rfl,by omega,HBL.out,fun _ _ _=>rfl,HRL.out,HSLb.out,Nat.le_refl _,.inl ⟨rfl,rfl,rfl⟩⟩
 case round =>
  obtain⟨i,tv,rfl,hi,hbel,hkl,hrb,hsb,hsz2,hst⟩:=hrel;clear HRL HSLb HBL;have HBE:=h! hbel;have HKL:=h! hkl;have HRB:=h! hrb;have HSB:=h! hsb;have HZ2:=h! hsz2;have HST:=h! hst;have HI:=h! hi;clear hbel hkl hsz2 hst;by_cases hlt:i<its.length
  ·have hj:i<ls.length:=by rw[HL.out];exact hlt
   obtain⟨bL,offL,rfl,hbL,hcL⟩:=HCL.out i hlt hj;have hcr:wr.cell? ⟨bL,offL+i,none⟩=some (.string ls[i]):=(World.cell?_of_block (a:=⟨bL,offL+i,none⟩) (HKL.out bL hbL.1 hbL.2)).trans hcL;have HLO:=h! (HLK.out i hlt hj);have HIT:=h! (HOK.out its[i] (List.getElem_mem hlt));have HFT:=h! (foldl_take_st its hlt);have HII:=h! (show i=0->∃ n,its[i] = .ty n from fun h=>by subst h;exact HZ.out hlt);clear hcL;generalize ls[i]=ln at *;generalize its[i]=it at *;have HBK:=h! (blank1_any ln (by have:=HLO.out.size;unfold maxLen;omega) HLO.out.two (ln[0]'(by have:=HLO.out.two;omega)) rfl (HLO.out.first (by have:=HLO.out.two;omega)).1 (HLO.out.first (by have:=HLO.out.two;omega)).2 HLO.out.slash wr);have HTK:=h! (tokens_any ln HLO.out.size HLO.out.plain wr);rw[HLO.out.toks]at HTK;go_wp2_with fail
   refine HBK.out.mono ?_;rintro e wx ⟨rfl,rfl⟩;go_wp2_with fail
   refine HTK.out.mono ?_;rintro e w2 ⟨v2,rfl,hown2,hb2⟩;have HRB2:=h! (HRB.out.below hb2);have HSB2:=h! (HSB.out.below hb2);have HBE2:=h! (HBE.out.trans (hb2.mono HBE.out.size));have HKL2:=h! (show ∀ b,w.heap.size+2<=b->b<wL.heap.size->w2.heap[b]?=wL.heap[b]? from fun b h1 h2=>(hb2.block b (Nat.lt_of_lt_of_le h2 HZ2.out)).trans (HKL.out b h1 h2));have HZ22:=h! (Nat.le_trans HZ2.out hb2.size);have HXY:=h! (show wx.heap.size<=w2.heap.size from hb2.size);have HST2:=h! (HST.out.keep (fun b _ h=>hb2.block b h) hb2.size);have HTB:=h! (show ∀ g,tv.ownBlock=some g->wL.heap.size<=g/\g<wx.heap.size from fun g hg=>by obtain⟨cs,hc,-⟩:=HST.out.own;exact hc.block g hg);have hs2:=HSB2.out.cells;have fs2:=HSB2.out.free;clear hrb hsb HRB HSB HBE HKL HBK HTK HST hcr;cases it with
   | ty n =>
    obtain⟨hnm,hnt⟩:=HIT.out;have HT2:=h! (show Sl (fun b=>wx.heap.size<=b/\b<w2.heap.size) w2 1 v2 (txs [⟨#[116,121,112,101]⟩,n])from hown2.sl);obtain⟨aoT,nT,cT,rfl,hnT,hncT,hcmT⟩:=HT2.out.len;obtain rfl:nT=2:=by rw[txs_length]at hnT;simpa using hnT.symm
    have htx:=texts_at (l:=[⟨#[116,121,112,101]⟩,n]) HT2.out;obtain⟨bT,offT,rfl,hbT,t0⟩:=htx 0 (by simp);obtain⟨bT',offT',hbo,-,t1⟩:=htx 1 (by simp);cases hbo;rw[Nat.add_zero]at t0;have t0':w2.cell? ⟨bT,offT,none⟩=some (.string ⟨#[116,121,112,101]⟩):=t0;have t1':w2.cell? ⟨bT,offT+1,none⟩=some (.string n):=t1;have hnmx:=hnm
    have HNM:=h! (refName_any n (by
     unfold isNm at hnmx;simp only[Bool.and_eq_true,decide_eq_true_eq]at hnmx;unfold maxLen;omega) w2)
    rw[hnm]at HNM;have hne:=ba_beq' hnt;rw[<- ByteArray.toList_eq,show(⟨#[116,104,105,115]⟩:ByteArray).data.toList=[116,104,105,115]from rfl]at hne;clear htx t0 t1 hnT hnm hnt hnmx hown2 hb2;go_wp2_with fail
    refine HNM.out.mono ?_;rintro e wy ⟨rfl,rfl⟩;clear HNM;go_wp2_with fail
    obtain⟨csT,hoT,hcsT,hstepT⟩:=HST2.out.own;obtain⟨aot,kt,ct,rfl,-,-,-⟩:=hoT.sl.len;have HCS:=h! hcsT;have HSTEP:=h! hstepT;have HOT:=h! hoT;clear hcsT hstepT hoT;obtain⟨wd,hwd⟩:∃ z,z=wy.drew:=⟨_,rfl⟩;have hE:Ext wy wd:=by rw[hwd];exact Ext.drew wy
    have hsd:Blk wd (w.heap.size+1) #[.slice aot kt ct] 26:=HSB2.out.below hE;have htd1:wd.cell? ⟨bT,offT+1,none⟩=some (.string n):=Ext.cell hE t1';have hBT:Value.ownBlock (.slice aot kt ct)≠some bT:=fun e=>by have:=(HTB.out bT e).2;have:=hbT.1;omega
    have hBS:Value.ownBlock (.slice aot kt ct)≠some (w.heap.size+1):=fun e=>by have:=(HTB.out _ e).1;have:=HLL.out;omega
    have HBSZ:=h! hBS;have HOD:=h! (HOT.out.below hE);have HWD:=h! (show wd.heap.size=wy.heap.size from by rw[hwd];rfl)
    have hA1:∀ W,Kept (fun b=>b<wd.heap.size/\Value.ownBlock (.slice aot kt ct)≠some b) wd W->W.cell? ⟨w.heap.size+1,0,none⟩=some (.slice aot kt ct):=fun W hW=>by
     rw[(hW.blk hsd ⟨hsd.lt,hBS⟩).cells];rfl
    have hA2:∀ W,Kept (fun b=>b<wd.heap.size/\Value.ownBlock (.slice aot kt ct)≠some b) wd W->W.cell? ⟨bT,offT+1,none⟩=some (.string n):=fun W hW =>
     (World.cell?_of_block (a:=⟨bT,offT+1,none⟩) (hW.block bT ⟨World.block_lt_of_cell? wd _ htd1,hBT⟩)).trans htd1
    refine region_walkL 9 (Kept (fun b=>b<wd.heap.size/\Value.ownBlock (.slice aot kt ct)≠some b) wd) (by rw[<- hwd];exact Kept.refl _ _) (by kernel_rfl) (by kernel_rfl) (fun _ _ d _ _ h=>by cases d <;> exact h) ?_;rw[<- hwd];clear hwd hBT hBS;(refine WalkL.tk [0,1,2,3,4,5] ?_;(iterate 6 ((refine TkL.c _ ?_ (by simp only[gA,gS,gZ];rfl) (by kernel_rfl) (by kernel_rfl) (by kernel_rfl) (by rfl) (fun W hW=>?_) ?_;rotate_left;· (go_simp;try with_reducible rfl));simp only[Act.put,pA,pZ,pS]));refine TkL.n ?_)
    refine WalkL.one 6 (by kernel_rfl) ?_;refine⟨_,(by simp only[gA,gS,gZ];rfl),by rfl,fun K hK=>?_⟩;go_simp;refine hK.out _ _ ((Kept.refl _ wd).alloc (fun b hb=>hb.1) _) ?_;clear hK;refine WalkL.one 7 (by kernel_rfl) ?_;refine⟨_,(by simp only[gA,gS,gZ];rfl),by rfl,fun K hK=>?_⟩;refine wp_ownw tysT (.tmp 57) (.tmp 62) rfl rfl (HOD.out.below (Ext.alloc wd _)) rfl (m:=1) (news:=[.string n,.slice none 0 0]) rfl (fun j u hu=>?_) (by simp[Value.oneCell']) (by have:=HCS.out;have:=HI.out;have:=HN.out;simp;omega) (by have:=HCS.out;have:=HI.out;have:=HN.out;simp;omega) (by have:=HWD.out;have:=HZ22.out;simp;omega) (fun v5 w5 hown5 hb5 hgr5=>?_)
    ·rw[Addr.add_lit,cell_of_row _ wd.heap.size (0+j) #[.string n,.slice none 0 0] 176 (0,0) (heap_alloc_new wd _)];simpa using hu
    have hkk:Kept (fun b=>b<wd.heap.size/\Value.ownBlock (.slice aot kt ct)≠some b) wd w5:=((Kept.refl _ wd).alloc (fun b hb=>hb.1) (.cells #[.string n,.slice none 0 0] 176)).trans ⟨hgr5.os,hgr5.tape,hgr5.output,hgr5.size,fun b hb=>hgr5.block b (by have:=hb.1;simp;omega) (fun e=>hb.2 e.symm)⟩;refine hK.out _ _ hkk ?_;clear hK;simp only[Act.put,pA,pZ,pS];have hb5':∀ g,v5.ownBlock=some g->(Value.slice aot kt ct).ownBlock=some g\/wd.heap.size<=g:=fun g hg=>(hb5 g hg).imp id (fun h=>by simp at h;omega);obtain⟨ao5,k5,c5,rfl,-,-,-⟩:=hown5.sl.len;have hs5:=hkk.blk hsd ⟨hsd.lt,HBSZ.out⟩;have HS5:=h! hs5;have r5:=hs5.cells;have f5:=hs5.free;have HK5:=h! (show Kept (fun b=>b<wd.heap.size/\Value.ownBlock (.slice aot kt ct)≠some b) wd w5 from hkk);have HO5:=h! hown5;have HB5:=h! hb5';have HE:=h! hE;clear hA1 hA2 hb5 hgr5 hkk hs5 hown5 hb5' hE;((refine WalkL.take 8 _ ?_ (by simp only[gA,gS,gZ];rfl) (by kernel_rfl) (by kernel_rfl) (by kernel_rfl) (by rfl) (fun W hW=>?_) ?_;rotate_left;· (go_simp;try with_reducible rfl));simp only[Act.put,pA,pZ,pS])
    refine WalkL.last (by kernel_rfl) (by kernel_rfl) ?_;refine⟨_,(by simp only[gA,gS,gZ];rfl),by rfl,fun K hK=>?_⟩;go_simp;refine hK.out _ _ ?_;clear hK r5 f5;have hw5:wy.heap.size<=w5.heap.size:=by have:=HK5.out.size;have:=HWD.out;omega
    have HKW:=h! (show ∀ b,b<wy.heap.size->Value.ownBlock (.slice aot kt ct)≠some b->w5.heap[b]?=wy.heap[b]? from fun b h1 h2=>(HK5.out.block b ⟨by rw[HWD.out];exact h1,h2⟩).trans (HE.out.block b h1));have HTS:=h! (show ∀ b,wL.heap.size<=b->(w5.setCell ⟨w.heap.size+1,0,none⟩ (.slice ao5 k5 c5)).heap[b]?=w5.heap[b]? from fun b hb=>Below.heap_setCell _ _ _ _ (by have:=HLL.out;show b≠w.heap.size+1;omega));have HNEW:=h! (HSTEP.out (w5.setCell ⟨w.heap.size+1,0,none⟩ (.slice ao5 k5 c5)) (.slice ao5 k5 c5) n (fun b h1 h2 h3=>(HTS.out b h1).trans (HKW.out b h2 h3)) (by simpa using hw5) (HO5.out.keepOwn fun g hg=>HTS.out g (HO5.out.block g hg).1) (fun g hg=>by have:=HB5.out g hg;rwa[HWD.out]at this));have HTB5:=h! (show ∀ g,g<wL.heap.size->Value.ownBlock (.slice aot kt ct)≠some g from fun g hg e=>by have:=(HTB.out g e).1;omega)
    have hkl5:∀ b,w.heap.size+2<=b->b<wL.heap.size->(w5.setCell ⟨w.heap.size+1,0,none⟩ (.slice ao5 k5 c5)).heap[b]?=wL.heap[b]?:=fun b h1 h2 =>
     ((Below.heap_setCell _ _ _ _ (show b≠w.heap.size+1 by omega)).trans (HKW.out b (Nat.lt_of_lt_of_le h2 HZ22.out) (HTB5.out b h2))).trans (HKL2.out b h1 h2)
    have hrb5:Blk (w5.setCell ⟨w.heap.size+1,0,none⟩ (.slice ao5 k5 c5)) w.heap.size #[.slice none 0 0] 26 :=
     ((Below.heap_setCell _ _ _ _ (show w.heap.size≠w.heap.size+1 by omega)).trans (HKW.out _ HRB2.out.lt (HTB5.out _ (by have:=HLL.out;omega)))).trans HRB2.out
    have hsb5:Blk (w5.setCell ⟨w.heap.size+1,0,none⟩ (.slice ao5 k5 c5)) (w.heap.size+1) #[.slice ao5 k5 c5] 26:=HS5.out.set_to 0 _ rfl
    have hbe5:Below w.heap.size w (w5.setCell ⟨w.heap.size+1,0,none⟩ (.slice ao5 k5 c5)):=by
     refine Below.setCell (Below.trans HBE2.out ?_) (Nat.le_succ _) _;have h1:=HK5.out;exact⟨h1.os.trans HE.out.os,h1.tape.trans HE.out.tape,h1.output.trans HE.out.output,hw5,fun b hb=>HKW.out b (Nat.lt_of_lt_of_le hb HBE2.out.size) (HTB5.out b (by have:=HLL.out;omega))⟩
    have HALL:=h! (show _/\_/\_/\_ from⟨hkl5,hrb5,hsb5,hbe5⟩);have HW5:=h! hw5;clear hkl5 hrb5 hsb5 hbe5 hw5;go_wp2_with fail
    go_roundw
    case rel=>exact⟨i+1,_,by go_num,by omega,HALL.out.2.2.2,HALL.out.1,HALL.out.2.1,HALL.out.2.2.1,by have:=HW5.out;have:=HZ22.out;simp;omega,by rw[HFT.out];exact HNEW.out⟩
    case measure=>simp[intOf];omega
   | rel n x ys =>
    obtain⟨hnm,hnt,hny,hxs,hyl⟩:=HIT.out;have HT2:=h! (show Sl (fun b=>wx.heap.size<=b/\b<w2.heap.size) w2 1 v2 (txs (n::⟨#[61]⟩::altT x ys))from hown2.sl);obtain⟨aoT,nT,cT,rfl,hnT,hncT,hcmT⟩:=HT2.out.len;have htx:=texts_at (l:=n::⟨#[61]⟩::altT x ys) (by rw[txs_length,Nat.mul_one]at hnT;rw[hnT];exact HT2.out);obtain⟨bT,offT,rfl,hbT,t0⟩:=htx 0 (by simp);obtain⟨bT',offT',hbo,-,t1⟩:=htx 1 (by simp);cases hbo;rw[Nat.add_zero]at t0;have t0':w2.cell? ⟨bT,offT,none⟩=some (.string n):=t0;have t1':w2.cell? ⟨bT,offT+1,none⟩=some (.string ⟨#[61]⟩):=t1;have HTY:=h! (hown2.typed (g:=bT) rfl)
    have HNT:=h! (show nT=2*ys.length+3 from by
     rw[txs_length,Nat.mul_one,List.length_cons,List.length_cons]at hnT;unfold altT at hnT;rw[List.length_cons,barT_length]at hnT;omega)
    have HRU:=h! (rule_any (S:=fun b=>wx.heap.size<=b/\b<w2.heap.size) x ys (.slice (some ⟨bT,offT+2,none⟩) (nT-2) (cT-2)) w2 (fun b hb=>hb.2) hxs hyl (by
     have:=HT2.out.drop 2 (by have:=HNT.out;omega);rwa[show(txs (n::⟨#[61]⟩::altT x ys)).drop 2=txs (altT x ys)from rfl]at this))
    have hnmx:=hnm
    have HNM:=h! (refName_any n (by
     unfold isNm at hnmx;simp only[Bool.and_eq_true,decide_eq_true_eq]at hnmx;unfold maxLen;omega) w2)
    rw[hnm]at HNM;have hne:=ba_beq' hnt;rw[<- ByteArray.toList_eq,show(⟨#[116,104,105,115]⟩:ByteArray).data.toList=[116,104,105,115]from rfl]at hne;have hne2:=ba_beq' hny;rw[<- ByteArray.toList_eq,show(⟨#[116,121,112,101]⟩:ByteArray).data.toList=[116,121,112,101]from rfl]at hne2;have hi0:i≠0:=fun h=>by obtain⟨m,hm⟩:=HII.out h;cases hm
    obtain⟨pre,nn,rv,qr,hP,hts,hpl,hql⟩:∃ pre n rv qr,PAt wL.heap.size w2 tv pre n rv qr/\(its.take i).foldl stepD []=pre.map (·.1)++[⟨n,qr.map (·.1)⟩]/\pre.length+1<=i/\qr.length<=i:=by
     rcases HST2.out with h | h
     ·exact absurd h.1 hi0
     ·exact h
    obtain⟨g,kt,ct,cst,rfl,hkt,hLg,hgb,hktc,hctm,hgc⟩:=hP.tys.layN (by simp[tyC]);obtain⟨pl,hpl0⟩:∃ z,z=pre.length:=⟨_,rfl⟩
    have hrvc:w2.cell? ⟨g,pl*2+1,none⟩=some rv:=by
     rw[hgb.cells];have hl:pl*2+1<((pre++[((⟨nn,qr.map (·.1)⟩:TyS),rv)]).flatMap tyC).length:=by rw[flat_length tyC_length];simp;omega
     rw[hgc _ hl,<- List.getElem?_eq_getElem hl,List.flatMap_append,List.getElem?_append_right (by rw[flat_length tyC_length];omega),flat_length tyC_length,hpl0,Nat.add_sub_cancel_left];rfl
    obtain rfl:kt=pl+1:=by rw[flat_length tyC_length]at hkt;simp at hkt;omega
    have HPL:=h! hpl;have HPL0:=h! hpl0;have HQL:=h! hql;have HTSS:=h! hts;have HP:=h! hP;have HGB:=h! hgb;have HLG:=h! hLg;have HRVC:=h! hrvc;have HSZT:=h! hcmT;obtain⟨aor,kr,cr,rfl,-,-,-⟩:=hP.rels.sl.len;have HNR2:=h! (fun b (e:Value.ownBlock (.slice aor kr cr)=some b)=>(HP.out.rels.block b e).2);have hc1:((nT:Int) == 2)=false:=by have:=HNT.out;rw[beq_eq_false_iff_ne];omega
    have hc2:¬ (nT:Int)<3:=by have:=HNT.out;omega
    have hc3:(0:Int)<(nT:Int):=by omega
    have hc4:(1:Int)<(nT:Int):=by omega
    have hc5:(2:Int)<=(nT:Int):=by omega
    have hc6:(nT:Int)<=(cT:Int):=by omega
    have hc7:¬ cT=2:=by omega
    have hc8:(2:Int)<=(cT:Int):=by omega
    have hc9:((pl:Int)+1 == 0)=false:=by rw[beq_eq_false_iff_ne];omega
    have hc10:¬ ((pl:Int)+1=0):=by omega
    have hw1:wrap64 ((pl:Int)+1-1)=(pl:Int):=by rw[Int.add_sub_cancel];exact wrap_in _ (by omega) (by omega)
    have hw3:IntKind.i64.wrap (pl:Int)=(pl:Int):=IntWalk.i64_in _ (by omega);have hlt1:(pl:Int)<(pl:Int)+1:=by omega
    have h0n:(0:Int)<=(pl:Int):=by omega
    clear htx t0 t1 hnT hnm hnt hny hxs hyl hnmx hown2 hb2 hi0 hpl hpl0 hql hts hP hgb hgc hkt hLg hrvc;go_wp2_with fail
    refine HNM.out.mono ?_;rintro e wy ⟨rfl,rfl⟩;clear HNM;go_wp2_with fail
    refine HRU.out.mono ?_;rintro e w3 ⟨v3,pv,rfl,hsl3,hat3,hb3⟩;have HRB3:=h! (HRB2.out.below hb3);have HSB3:=h! (HSB2.out.below hb3);have HBE3:=h! (HBE2.out.trans (hb3.mono HBE2.out.size));have HKL3:=h! (show ∀ b,w.heap.size+2<=b->b<wL.heap.size->w3.heap[b]?=wL.heap[b]? from fun b h1 h2=>(hb3.block b (Nat.lt_of_lt_of_le h2 HZ22.out)).trans (HKL2.out b h1 h2));have HZ3:=h! (Nat.le_trans HZ22.out hb3.size);have HP3:=h! (HP.out.keep (fun b _ h=>hb3.block b h) hb3.size);have HGB3:=h! (HGB.out.below hb3);have HRV3:=h! (Ext.cell hb3 HRVC.out);have HT3:=h! (Ext.cell hb3 t0');have HBTZ:=h! (show wx.heap.size<=bT/\bT<w3.heap.size from⟨hbT.1,Nat.lt_of_lt_of_le hbT.2 hb3.size⟩);have HAT:=h! hat3;have HTY3:=h! (show ∃ cur,w3.heap[bT]?=some (.cells cur 9 (0,0))from by obtain⟨cur,h⟩:=HTY.out;exact⟨cur,(hb3.block bT hbT.2).trans h⟩);have HY3:=h! hb3.size;obtain⟨ao3,n3,c3,rfl,hn3,-,-⟩:=hsl3.len;obtain rfl:n3=0:=by simpa using hn3.symm
    obtain⟨ao5,c5,rfl,-,-,-⟩:=hat3.rows;generalize hr:altR x ys=r at *;have HRR:=h! hr;clear hr;clear hn3 hsl3 hat3 HRU HRB2 HSB2 HBE2 HKL2 HP HGB HRVC hs2 fs2 hb3 t0' t1' HT2;have HS4:=h! (Blk.made w3 #[.int .i64 r.k,.string r.a,.string r.b,.slice ao5 r.ps.length c5] 106);have HE4:=h! (Ext.alloc w3 (.cells #[.int .i64 r.k,.string r.a,.string r.b,.slice ao5 r.ps.length c5] 106));have hsc:(w3.alloc (.cells #[.int .i64 r.k,.string r.a,.string r.b,.slice ao5 r.ps.length c5] 106)).cell? ⟨w.heap.size+1,0,none⟩=some (.slice (some ⟨g,0,none⟩) (pl+1) ct):=by rw[(HSB3.out.below HE4.out).cells];rfl
    unfold rV;go_wp2_with fail
    obtain⟨w4,hw4⟩:∃ z,z=w3.alloc (.cells #[.int .i64 r.k,.string r.a,.string r.b,.slice ao5 r.ps.length c5] 106):=⟨_,rfl⟩;rw[<- hw4]at HS4 HE4 ⊢;clear hw4 hsc;obtain⟨wd,hwd⟩:∃ z,z=w4.drew:=⟨_,rfl⟩;have hE:Ext w3 wd:=by rw[hwd];exact HE4.out.trans (Ext.drew w4)
    have hrd:Blk wd w3.heap.size #[.int .i64 r.k,.string r.a,.string r.b,.slice ao5 r.ps.length c5] 106:=by rw[hwd];exact HS4.out
    have hPd:=HP3.out.keep (fun b _ h=>hE.block b h) hE.size;have htd:=Ext.cell hE HT3.out;have hvd:=Ext.cell hE HRV3.out;have hgd:=HGB3.out.below hE;have hne:Value.ownBlock (.slice aor kr cr)≠some g:=fun e=>hPd.rels.apart hPd.tys (by decide) e rfl;have hnr:∀ b,Value.ownBlock (.slice aor kr cr)=some b->wL.heap.size<=b/\b<w3.heap.size:=fun b e=>HP3.out.rels.block b e
    have hnT:Value.ownBlock (.slice aor kr cr)≠some bT:=fun e=>by
     obtain⟨c1,h1⟩:=HP3.out.rels.typed e;obtain⟨c2,h2⟩:=HTY3.out;rw[h1]at h2;exact absurd (show(181:TypeId)=9 by injection Option.some.inj h2) (by decide)
    have hnB:Value.ownBlock (.slice aor kr cr)≠some w3.heap.size:=fun e=>by have:=(hnr _ e).2;omega
    have HNR:=h! hnr;have HEX:=h! hE;have HPD:=h! hPd;have HGD:=h! hgd;have hKb:∀ b,b<wd.heap.size->Value.ownBlock (.slice aor kr cr)≠some b->∀ W,Kept (fun b=>b<wd.heap.size/\Value.ownBlock (.slice aor kr cr)≠some b) wd W->W.heap[b]?=wd.heap[b]?:=fun b h1 h2 W hW=>hW.block b ⟨h1,h2⟩
    have hA1:∀ W,Kept (fun b=>b<wd.heap.size/\Value.ownBlock (.slice aor kr cr)≠some b) wd W->W.cell? ⟨bT,offT,none⟩=some (.string n):=fun W hW =>
     (World.cell?_of_block (a:=⟨bT,offT,none⟩) (hKb bT (World.block_lt_of_cell? wd _ htd) hnT W hW)).trans htd
    have hA2:∀ W,Kept (fun b=>b<wd.heap.size/\Value.ownBlock (.slice aor kr cr)≠some b) wd W->W.cell? ⟨g,pl*2+1,none⟩=some (.slice aor kr cr):=fun W hW =>
     (World.cell?_of_block (a:=⟨g,pl*2+1,none⟩) (hKb g (World.block_lt_of_cell? wd _ hvd) hne W hW)).trans hvd
    have hAR:∀ W,Kept (fun b=>b<wd.heap.size/\Value.ownBlock (.slice aor kr cr)≠some b) wd W->Blk W w3.heap.size #[.int .i64 r.k,.string r.a,.string r.b,.slice ao5 r.ps.length c5] 106:=fun W hW=>(hKb _ hrd.lt hnB W hW).trans hrd;have hB0:∀ W,Kept (fun b=>b<wd.heap.size/\Value.ownBlock (.slice aor kr cr)≠some b) wd W->W.cell? ⟨w3.heap.size,0,none⟩=some (.int .i64 r.k):=fun W hW=>(hAR W hW).cells 0;have hB1:∀ W,Kept (fun b=>b<wd.heap.size/\Value.ownBlock (.slice aor kr cr)≠some b) wd W->W.cell? ⟨w3.heap.size,1,none⟩=some (.string r.a):=fun W hW=>(hAR W hW).cells 1;have hB2:∀ W,Kept (fun b=>b<wd.heap.size/\Value.ownBlock (.slice aor kr cr)≠some b) wd W->W.cell? ⟨w3.heap.size,2,none⟩=some (.string r.b):=fun W hW=>(hAR W hW).cells 2;have hB3:∀ W,Kept (fun b=>b<wd.heap.size/\Value.ownBlock (.slice aor kr cr)≠some b) wd W->W.cell? ⟨w3.heap.size,3,none⟩=some (.slice ao5 r.ps.length c5):=fun W hW=>(hAR W hW).cells 3;have HNG:=h! hne;have HVD:=h! hA2;have HOD:=h! hPd.rels;have HSZD:=h! (show wL.heap.size<=wd.heap.size from Nat.le_trans HZ3.out hE.size);refine region_walkL 14 (Kept (fun b=>b<wd.heap.size/\Value.ownBlock (.slice aor kr cr)≠some b) wd) (by rw[<- hwd];exact Kept.refl _ _) (by kernel_rfl) (by kernel_rfl) (fun _ _ d _ _ h=>by cases d <;> exact h) ?_;rw[<- hwd];clear hwd hne hnr hnT hnB hKb hAR hvd htd hrd hPd hgd hE;(refine WalkL.tk [0,1,2,3,4,5,6,7,8,9] ?_;(iterate 10 ((refine TkL.c _ ?_ (by simp only[gA,gS,gZ];rfl) (by kernel_rfl) (by kernel_rfl) (by kernel_rfl) (by rfl) (fun W hW=>?_) ?_;rotate_left;· (go_simp;try with_reducible rfl));simp only[Act.put,pA,pZ,pS]));refine TkL.n ?_)
    refine WalkL.one 10 (by kernel_rfl) ?_;refine⟨_,(by simp only[gA,gS,gZ];rfl),by rfl,fun K hK=>?_⟩;go_simp;refine hK.out _ _ ((Kept.refl _ wd).alloc (fun b hb=>hb.1) _) ?_;clear hK hA1 hA2 hB0 hB1 hB2 hB3;refine WalkL.one 11 (by kernel_rfl) ?_;refine⟨_,(by simp only[gA,gS,gZ];rfl),by rfl,fun K hK=>?_⟩;refine wp_ownw relsElT (.tmp 134) (.tmp 140) rfl rfl (HOD.out.below (Ext.alloc wd _)) rfl (m:=1) (news:=[.string n,.int .i64 r.k,.string r.a,.string r.b,.slice ao5 r.ps.length c5]) rfl (fun j u hu=>?_) (by simp[Value.oneCell']) (by have:=HQL.out;have:=HI.out;have:=HN.out;rw[flat_length relC_length];simp;omega) (by have:=HQL.out;have:=HI.out;have:=HN.out;rw[flat_length relC_length];simp;omega) (by have:=HSZD.out;simp;omega) (fun v5 w5 hown5 hb5 hgr5=>?_)
    ·rw[Addr.add_lit,cell_of_row _ wd.heap.size (0+j) #[.string n,.int .i64 r.k,.string r.a,.string r.b,.slice ao5 r.ps.length c5] 181 (0,0) (heap_alloc_new wd _)];simpa using hu
    have hkk:Kept (fun b=>b<wd.heap.size/\Value.ownBlock (.slice aor kr cr)≠some b) wd w5:=((Kept.refl _ wd).alloc (fun b hb=>hb.1) (.cells #[.string n,.int .i64 r.k,.string r.a,.string r.b,.slice ao5 r.ps.length c5] 181)).trans ⟨hgr5.os,hgr5.tape,hgr5.output,hgr5.size,fun b hb=>hgr5.block b (by have:=hb.1;simp;omega) (fun e=>hb.2 e.symm)⟩;refine hK.out _ _ hkk ?_;clear hK;simp only[Act.put,pA,pZ,pS];have HB5:=h! (show ∀ b,v5.ownBlock=some b->(Value.slice aor kr cr).ownBlock=some b\/wd.heap.size<=b from fun b hg=>(hb5 b hg).imp id (fun h=>by simp at h;omega));obtain⟨ao6,k6,c6,rfl,-,-,-⟩:=hown5.sl.len;have hg5:=hkk.blk HGD.out ⟨HGD.out.lt,HNG.out⟩;have v5c:=HVD.out w5 hkk;have f5:=hg5.free;have HK5:=h! (show Kept (fun b=>b<wd.heap.size/\Value.ownBlock (.slice aor kr cr)≠some b) wd w5 from hkk);have HO5:=h! hown5;clear hb5 hgr5 hkk hg5 hown5;(refine WalkL.tk [12,13] ?_;(iterate 2 ((refine TkL.c _ ?_ (by simp only[gA,gS,gZ];rfl) (by kernel_rfl) (by kernel_rfl) (by kernel_rfl) (by rfl) (fun W hW=>?_) ?_;rotate_left;· (go_simp;try with_reducible rfl));simp only[Act.put,pA,pZ,pS]));refine TkL.n ?_)
    refine WalkL.last (by kernel_rfl) (by kernel_rfl) ?_;refine⟨_,(by simp only[gA,gS,gZ];rfl),by rfl,fun K hK=>?_⟩;go_simp;refine hK.out _ _ ?_;clear hK f5 v5c;obtain⟨W,hW⟩:∃ z,z=w5.setCell ⟨g,pl*2+1,none⟩ (.slice ao6 k6 c6):=⟨_,rfl⟩;have hoth:∀ b,b≠g->W.heap[b]?=w5.heap[b]?:=fun b hb=>by rw[hW];exact Below.heap_setCell _ _ _ _ hb
    have hWs:W.heap.size=w5.heap.size:=by rw[hW];simp
    have hold:∀ b,b<w3.heap.size->b<wL.heap.size->W.heap[b]?=w3.heap[b]?:=fun b h1 h2=>by
     have h3:=HLG.out;rw[hoth b (by omega)];exact(HK5.out.block b ⟨Nat.lt_of_lt_of_le h1 HEX.out.size,fun e=>by have:=(HNR.out b e).1;omega⟩).trans (HEX.out.block b h1)
    have hrel:=HPD.out.rel (m:=n) (r:=r) (pv := .slice ao5 r.ps.length c5) (w':=w5) (rv' := .slice ao6 k6 c6) (fun b _ h1 h2=>HK5.out.block b ⟨h1,h2⟩) HK5.out.size HO5.out HB5.out
     ((HAT.out.same ((Same.below HEX.out).mono fun b hb=>hb.2)).mono fun b hb=>⟨⟨Nat.le_trans HZ22.out hb.1,Nat.lt_of_lt_of_le hb.2 HEX.out.size⟩,fun e=>by have:=(HTB.out b e).2;have:=hb.1;have:=HXY.out;omega,fun e=>by have:=HNR2.out b e;have:=hb.1;omega⟩)
    rw[<- HPL0.out,<- hW]at hrel
    have hbe5:Below w.heap.size w W:=by
     refine Below.trans HBE3.out ⟨?_,?_,?_,?_,fun b hb=>hold b (Nat.lt_of_lt_of_le hb HBE3.out.size) (by have:=HLL.out;omega)⟩
     ·rw[hW];exact HK5.out.os.trans HEX.out.os
     ·rw[hW];exact HK5.out.tape.trans HEX.out.tape
     ·rw[hW];exact HK5.out.output.trans HEX.out.output
     ·rw[hWs];exact Nat.le_trans HEX.out.size HK5.out.size
    have HALL:=h! (show _/\_/\_/\_/\_/\_ from⟨(fun b (h1:w.heap.size+2<=b) (h2:b<wL.heap.size)=>(hold b (Nat.lt_of_lt_of_le h2 HZ3.out) h2).trans (HKL3.out b h1 h2)),
     (show Blk W w.heap.size #[.slice none 0 0] 26 from(hold _ HRB3.out.lt (by have:=HLL.out;omega)).trans HRB3.out),
     (show Blk W (w.heap.size+1) #[.slice (some ⟨g,0,none⟩) (pl+1) ct] 26 from(hold _ HSB3.out.lt (by have:=HLL.out;omega)).trans HSB3.out),hbe5,hrel,(show wL.heap.size<=W.heap.size from by rw[hWs];exact Nat.le_trans HSZD.out HK5.out.size)⟩)
    have HEQ:=h! (show(its.take (i+1)).foldl stepD []=pre.map (·.1)++[⟨nn,(qr++[((n,r),Value.slice ao5 r.ps.length c5)]).map (·.1)⟩]from by
     rw[HFT.out,HTSS.out,stepD_rel,HRR.out];simp)
    rw[<- hW];clear hW hoth hWs hold hrel hbe5;go_wp2_with fail
    go_roundw
    case rel=>exact⟨i+1,_,by go_num,by omega,HALL.out.2.2.2.1,HALL.out.1,HALL.out.2.1,HALL.out.2.2.1,HALL.out.2.2.2.2.2,.inr ⟨pre,nn,_,_,HALL.out.2.2.2.2.1,HEQ.out,by have:=HPL.out;omega,by have:=HQL.out;simp;omega⟩⟩
    case measure=>simp[intOf];omega
  ·obtain rfl:i=its.length:=by omega
   have hsc:=HSB.out.cells;have hrc:=HRB.out.cells;have hrf:=HRB.out.free;obtain⟨cs,hcs,-⟩:=HST.out.own;obtain⟨aot,kt,ct,rfl,-,-,-⟩:=hcs.sl.len;rw[List.take_length]at HST;have hb1:=HRB.out.set_to 0 (.slice aot kt ct) rfl;have HFB:=h! hb1;have HFE:=h! (show Below w.heap.size w (wr.setCell ⟨w.heap.size,0,none⟩ (.slice aot kt ct))from setAt HBE.out);clear hb1 hrb hsb hcs;go_wp2_with fail
   refine bodyPost_ret (v := .tuple #[.agg #[.slice aot kt ct],.int .i64 0,.int .i64 0]) ?_ rfl ⟨_,rfl,?_,HFE.out⟩
   ·rw[results_cell_tmp2 rfl];have hl:=run_loadVar_row (P:=Tryz.prog) _ w.heap.size _ 26 _ _ _ HFB.out Tryz.underlying26 rfl (by kernel_rfl);simp[asAddr,hl,Result.andThen]
   ·refine(HST.out.tysAt.same (fun b hb=>Below.heap_setCell _ _ _ _ (by have:=HLL.out;have:=hb.1;show b≠w.heap.size;omega))).mono fun b hb=>⟨by have:=HLL.out;have:=hb.1;omega,by simpa using hb.2⟩
end Go.Proofs.YtlhaghoajpglaaaGreat
namespace Go.Proofs.YtlhaghoajpglaaaGreat
open Go Go.RowKit Go.Maps Go.Shelf
mutual
def RT.pneeds (P:List (R2 × RT))(typ:ByteArray):RT->List R2
 | .mk k a b ps=>(if k=2 then [⟨typ,a⟩]else if k=3 then⟨typ,a⟩::(whereP P b).map fun n=>⟨n,b⟩else [])++pneedsL P typ ps
def pneedsL (P:List (R2 × RT))(typ:ByteArray):List RT->List R2 | [] => [] | r::rs=>r.pneeds P typ++pneedsL P typ rs
end
def needsP (ts:List TyS)(r:R2):List R2:=match lookA (refsOf ts) r with | none => [] | some rule=>rule.pneeds (refsOf ts) r.t
inductive ReachP (ts:List TyS) (r:R2):R2->Prop where
 | self:ReachP ts r r
 | step {x y:R2}:ReachP ts r x->y∈needsP ts x->ReachP ts r y
def univP (ts:List TyS)(r:R2):List R2:=r::(refsOf ts).flatMap fun x=>x.2.pneeds (refsOf ts) x.1.t
theorem needs_univ {ts:List TyS} {x y:R2} (h:y∈needsP ts x):∃ rule,lookA (refsOf ts) x=some rule/\y∈rule.pneeds (refsOf ts) x.t:=by
 unfold needsP at h;split at h
 ·cases h
 ·rename_i rule hl
  exact⟨rule,hl,h⟩
theorem reach_univ {ts:List TyS} {r x:R2} (h:ReachP ts r x):x∈univP ts r:=by
 cases h with
 | self=>exact List.mem_cons_self
 | step h1 h2 =>
  obtain⟨rule,hl,hy⟩:=needs_univ h2;exact List.mem_cons_of_mem _ (List.mem_flatMap.2 ⟨_,look_mem hl,hy⟩)
theorem nodup_le {α:Type}:∀ {l u:List α},l.Nodup->(∀ x∈l,x∈u)->l.length<=u.length
 | [],_,_,_=>Nat.zero_le _
 | a::l,u,hn,hs=>by
  obtain⟨p,q,rfl⟩:=List.append_of_mem (hs a List.mem_cons_self);rw[List.nodup_cons]at hn
  have h1:=nodup_le (l:=l) (u:=p++q) hn.2 fun x hx=>by
   have h2:=hs x (List.mem_cons_of_mem _ hx);rcases List.mem_append.1 h2 with h3 | h3
   ·exact List.mem_append_left _ h3
   ·rcases List.mem_cons.1 h3 with h3 | h3
    ·subst h3;exact absurd hx hn.1
    ·exact List.mem_append_right _ h3
  simp only[List.length_cons,List.length_append]at h1 ⊢;omega
structure ClI (ts:List TyS)(r:R2)(S l:List R2):Prop where
 inS:∀ x∈S,ReachP ts r x
 inL:∀ x∈l,ReachP ts r x
 step:∀ x∈S,∀ y∈needsP ts x,y∈S\/y∈l
 start:r∈S\/r∈l
 len:l.length<=1+S.length*4096
theorem ClI.done {ts:List TyS} {r:R2} {S:List R2} (h:ClI ts r S [])(x:R2):x∈S↔ReachP ts r x:=by
 refine⟨h.inS x,fun hr=>?_⟩;induction hr with
 | self=>exact h.start.elim id (fun h=>by cases h)
 | step _ h2 ih=>exact(h.step _ ih _ h2).elim id (fun h=>by cases h)
mutual
def RT.pcan (P:List (R2 × RT))(S:List R2)(typ:ByteArray):RT->Bool
 | .mk k a b ps=>if k=1 then true else if k=2 then decide ((⟨typ,a⟩:R2)∈S)else if k=3 then decide ((⟨typ,a⟩:R2)∈S)&&(whereP P b).any fun n=>decide ((⟨n,b⟩:R2)∈S)else if k=4 then pcanN P S typ ps||decide (ps.length=0)else pcanL P S typ ps
def pcanN (P:List (R2 × RT))(S:List R2)(typ:ByteArray):List RT->Bool | []=>false | r::rs=>r.pcan P S typ||pcanN P S typ rs
def pcanL (P:List (R2 × RT))(S:List R2)(typ:ByteArray):List RT->Bool | []=>true | r::rs=>r.pcan P S typ&&pcanL P S typ rs
end
def ClosedP (ts:List TyS)(S:List R2):Prop:=∀ x r,(x,r)∈refsOf ts->r.pcan (refsOf ts) S x.t=true->x∈S
structure LeastP (ts:List TyS)(S:List R2):Prop where
 sub:∀ x∈S,x∈(refsOf ts).map (·.1)
 least:∀ T,ClosedP ts T->∀ x∈S,x∈T
theorem LeastP.nil (ts:List TyS):LeastP ts []:=⟨by simp,by simp⟩
theorem LeastP.len {ts:List TyS} {S:List R2} (h:LeastP ts S)(hn:S.Nodup):S.length<=(refsOf ts).length:=by
 have:=nodup_le hn h.sub;rwa[List.length_map]at this
end Go.Proofs.YtlhaghoajpglaaaGreat
namespace Go.Proofs.YtlhaghoajpglaaaGreat
open Go Go.RowKit Go.Maps
def docB:ByteArray:=⟨#[100,111,99]⟩
def lnOkB (s:ByteArray)(it:PIt):Bool:=decide (s.size<=65536)&&(decide (2<=s.size)&&(!(s.data.toList.head? == some 32)&&(!(s.data.toList.head? == some 9)&&(!(decide (s.extract 0 2=⟨#[47,47]⟩))&&(s.data.toList.all plainC&&decide (toksD s=it.toks))))))
theorem lnOk_of {s:ByteArray} {it:PIt} (h:lnOkB s it=true):LnOk s it:=by
 unfold lnOkB at h;simp only[Bool.and_eq_true,decide_eq_true_eq,Bool.not_eq_true',decide_eq_false_iff_not]at h;obtain⟨h1,h2,h3,h4,h5,h6,h7⟩:=h
 have hhd:∀ hp:0<s.size,s.data.toList.head?=some s[0]:=fun hp=>by
  rw[List.head?_eq_getElem?,List.getElem?_eq_getElem (by simpa using hp)];rfl
 refine⟨h1,h2,fun hp=>⟨fun e=>?_,fun e=>?_⟩,h5,fun j hj=>?_,h7⟩
 ·rw[hhd hp,e]at h3;exact absurd h3 (by decide)
 ·rw[hhd hp,e]at h4;exact absurd h4 (by decide)
 ·rw[List.all_eq_true]at h6
  exact h6 _ (by
   have:s[j]=s.data.toList[j]'(by simpa using hj):=rfl;rw[this];exact List.getElem_mem _)
theorem lnsOk_of {ls:List ByteArray} {its:List PIt} (h:(ls.zip its).all (fun p=>lnOkB p.1 p.2)=true):∀ i (hi:i<its.length)(hj:i<ls.length),LnOk ls[i] its[i]:=fun i hi hj=>by
 rw[List.all_eq_true]at h;have hz:i<(ls.zip its).length:=by rw[List.length_zip];omega
 have:=h _ (List.getElem_mem hz);rw[List.getElem_zip]at this;exact lnOk_of this
def PIt.fitB:PIt->Bool
 | .ty n=>isNm n&&decide (n≠⟨#[116,104,105,115]⟩)
 | .rel n x ys=>isNm n&&(decide (n≠⟨#[116,104,105,115]⟩)&&(decide (n≠⟨#[116,121,112,101]⟩)&&((x::ys).all isNm&&decide (ys.length<=100000))))
theorem fits_of {its:List PIt} (h:its.all PIt.fitB=true):∀ it∈its,it.Fit:=fun it hit=>by
 rw[List.all_eq_true]at h;have:=h it hit;cases it with
 | ty n =>
  simp only[PIt.fitB,Bool.and_eq_true,decide_eq_true_eq]at this;exact this
 | rel n x ys =>
  simp only[PIt.fitB,Bool.and_eq_true,decide_eq_true_eq]at this;obtain⟨h1,h2,h3,h4,h5⟩:=this;exact⟨h1,h2,h3,fun z hz=>(List.all_eq_true.1 h4) z hz,h5⟩
end Go.Proofs.YtlhaghoajpglaaaGreat
namespace Go.Proofs.YtlhaghoajpglaaaGreat
open Go Go.RowKit Go.ChangeShapes Go.WideShapes Go.ChangeAt
section
variable {H : Type} {enc : TypeId × Value -> H} {P : Program} {w : World}
theorem mapM_some {α β:Type} {f:α->Option β}:∀ {l:List α} {r:List β},l.mapM f=some r->r.length=l.length/\∀ (i:Nat)(x:α),l[i]?=some x->f x=r[i]?:=by
 intro l;induction l with
 | nil=>intro r h;simp at h;subst h;exact⟨rfl,by simp⟩
 | cons a l ih =>
  intro r h;simp only[List.mapM_cons,Option.bind_eq_bind,Option.bind_eq_some_iff,Option.pure_def,Option.some.injEq]at h;obtain⟨b,hb,bs,hbs,rfl⟩:=h;obtain⟨h1,h2⟩:=ih hbs;refine⟨by simp[h1],fun i x hx=>?_⟩;cases i with
  | zero=>simp at hx;subst hx;simpa using hb
  | succ i=>simp at hx ⊢;exact h2 i x hx
theorem addr_add_add (a:Addr)(x y:Nat):(a.add x).add y=a.add (x+y):=by
 by_cases hx:x=0
 ·subst hx;simp[Addr.add]
 ·by_cases hy:y=0
  ·subst hy;simp[Addr.add]
  ·simp[Addr.add,hx,hy,Nat.add_assoc]
theorem cells_get {base:Nat} {a:Addr} {n:Nat} {cs:List Value} (h:w.cells? base a n=some cs):cs.length=n/\∀ j,j<n->w.cell? (a.add j)=cs[j]?:=by
 unfold World.cells? at h;split at h
 ·obtain⟨h1,h2⟩:=mapM_some h;refine⟨by simpa using h1,fun j hj=>h2 j j (by simp[hj])⟩
 ·cases h
theorem trodAll_stays {ts:List TypeId} (hl:laidOutB P=true) {W W':World} (hb:Below W.heap.size W W') :
  ∀ {vs:List Value} {ds:List (DataW H)} {ps:List MemPlace},(∀ t∈ts,P.readableRec t=true/\t<P.types.size)->(∀ x∈ps,x.block<W.heap.size) ->
   DataW.TrodAll enc P W 0 (fun _=>true) true ts vs ds ps->DataW.TrodAll enc P W' 0 (fun b=>decide (b<W.heap.size)) true ts vs ds ps:=by
 induction ts with
 | nil =>
  intro vs ds ps _ _ h;cases vs <;> cases ds <;> simp_all [DataW.TrodAll]
 | cons t ts ih =>
  intro vs ds ps hr hlt h;obtain⟨v,vs',d,ds',p,q,rfl,rfl,rfl,h1,h2⟩:=trodAll_cons h;exact trodAll_cons_mk (Below.trod hl (hr t (by simp)).1 (hr t (by simp)).2 h1 hb (fun x hx=>hlt x (by simp[hx]))) (ih (fun t ht=>hr t (by simp[ht])) (fun x hx=>hlt x (by simp[hx])) h2)
theorem law_post {f:Func} {s:ChangeSpec} {W W':World} {args:Array Value} {ds gs:List (DataW H)} {before:List MemPlace} {tb:TypeId}
  (hW:DataW.Whole enc P f.params.toList s.vars false W args.toList ds gs before) (hvars:s.vars=[]) (hres:f.resultTypes=#[tb]) (htb:P.underlying tb=some .bool)
  (hfn:(s.fn H (ds++gs)).results=[.lit (.bool true)]) (hfa:(s.fn H (ds++gs)).args=ds) (hfv:(s.fn H (ds++gs)).vars=[])
  (hl:laidOutB P=true) (hr:(f.params.toList.all fun t=>P.readableRec t&&decide (t<P.types.size))=true) (hb:Below W.heap.size W W') :
  s.post enc P f false true false false W args (.bool true) W':=by
 have hlt:=hW.lt;have hW0:=hW;obtain⟨p,q,hA,hV,rfl,_,_⟩:=hW;rw[hvars]at hV;refine⟨ds,gs,p++q,[],p,[],hW0,?_,?_,?_,hb.frame _,fun h=>by cases h⟩
 ·rw[hfn,hres];exact trodAll_mk1 (shut_bool htb true)
 ·rw[hfa];refine trodAll_stays hl hb (fun t ht=>?_) (fun x hx=>hlt x (by simp[hx])) hA;have:=List.all_eq_true.1 hr t ht;simpa using this
 ·rw[hfv,hvars];rfl
end
section
variable {H : Type} {enc : TypeId × Value -> H} {P : Program} {w : World}
theorem open_slF {fuel0:Nat} {t e:TypeId} {v:Value} {d:DataW H} {ps:List MemPlace} (ht:P.underlying t=some (.slice e))(hf:DataW.trod enc P w 0 (fun _=>true) true fuel0 t [v]=some (d,ps)) :
  ∃ (xs:List Value) (elems:List (DataW H × List MemPlace)) (fuel:Nat),(elems=[]\/fuel<fuel0)/\Sl (· < w.heap.size) w (P.cellsOf e) v xs/\xs.length=elems.length*P.cellsOf e /\
   (∀ i y,elems[i]?=some y->DataW.trod enc P w 0 (fun _=>true) true fuel e ((xs.drop (i*P.cellsOf e)).take (P.cellsOf e))=some y) /\
   (d = .nil/\elems=[]\/∃ rest,d = .slice (elems.map (·.1)) rest):=by
 rcases DataW.trod_slice ht hf with⟨hcs,hx⟩ | ⟨a,len,cap,elems,rest,n,hfu,hcs,hx,_,hlc,hcm,hlen,hel,_⟩
 ·obtain rfl:v = .slice none 0 0:=by simpa using hcs
  simp only[Prod.mk.injEq]at hx;exact⟨[],[],0,.inl rfl,Sl.nil _ w _,by simp,by simp,.inl ⟨hx.1,rfl⟩⟩
 ·obtain rfl:v = .slice (some a) len cap:=by simpa using hcs
  generalize hk:P.cellsOf e=k at *
  have hget:∀ i,i<len->∃ cs y,w.cells? 0 (a.add (i*k)) k=some cs/\elems[i]?=some y/\DataW.trod enc P w 0 (fun _=>true) true n e cs=some y:=by
   intro i hi;have h1:=hel i hi;obtain⟨y,hy⟩:∃ y,elems[i]?=some y:=⟨_,List.getElem?_eq_getElem (by omega)⟩;rw[hy]at h1;obtain⟨cs,hc1,hc2⟩:=Option.bind_eq_some_iff.1 h1;exact⟨cs,y,hc1,hy,hc2⟩
  -- the cells, one by one
  obtain⟨xs,hxl,hxs⟩:∃ xs:List Value,xs.length=len*k/\∀ i j,i<len->j<k->w.cell? (a.add (i*k+j))=xs[i*k+j]?:=by
   refine⟨(List.range (len*k)).map fun m=>(w.cell? (a.add m)).getD undef,by simp,fun i j hi hj=>?_⟩
   have hm:i*k+j<len*k:=by
    have:=Nat.mul_le_mul_right k (show i+1<=len from hi);rw[Nat.add_mul]at this;omega
   obtain⟨cs,y,hc1,_,_⟩:=hget i hi;obtain⟨hcl,hcc⟩:=cells_get hc1;have h2:=hcc j hj;rw[addr_add_add]at h2;rw[h2,List.getElem?_eq_getElem (by omega)];simp[hm,h2,List.getElem?_eq_getElem (show j<cs.length by omega)]
  have hxm:∀ m u,xs[m]?=some u->w.cell? (a.add m)=some u:=by
   intro m u hu;have hml:m<len*k:=by rw[<- hxl];exact(List.getElem?_eq_some_iff.1 hu).1
   have hk0:0<k:=by
    apply Nat.pos_of_ne_zero;intro h0;rw[h0]at hml;omega
   have hdm:=Nat.div_add_mod m k;have hi:m / k<len:=(Nat.div_lt_iff_lt_mul hk0).2 hml;have:=hxs (m / k) (m % k) hi (Nat.mod_lt _ hk0);rw[Nat.mul_comm,hdm]at this;rw[this,hu]
  refine⟨xs,elems,n,.inr (by omega),⟨some a,len,cap,rfl,hxl,hlc,hcm,fun h=>(by cases h),fun hne=>?_⟩,by rw[hxl,hlen],fun i y hy=>?_,.inr ⟨rest.map (·.1),?_⟩⟩
  ·obtain⟨u,hu⟩:∃ u,xs[0]?=some u:=by
    cases xs with
    | nil=>exact absurd rfl hne
    | cons x _=>exact⟨x,rfl⟩
   have h0:=hxm 0 u hu;obtain⟨b,off,s⟩:=a
   have hs:s=none:=by
    cases s with
    | none=>rfl
    | some s =>
     exfalso
     simp only[Addr.add,World.cell?]at h0;split at h0 <;> simp at h0
   subst hs;have hb:=World.block_lt_of_cell? w _ h0;rw[Addr.add_lit]at hb;exact⟨b,off,rfl,hb,fun j u hu=>by have:=hxm j u hu;rwa[Addr.add_lit]at this⟩
  ·have hi:i<len:=by rw[<- hlen];exact(List.getElem?_eq_some_iff.1 hy).1
   obtain⟨cs,y',hc1,hy',hc2⟩:=hget i hi;obtain rfl:y=y':=by rw[hy]at hy';exact Option.some.inj hy'
   obtain⟨hcl,hcc⟩:=cells_get hc1
   have:(xs.drop (i*k)).take k=cs:=by
    apply List.ext_getElem?;intro j;rw[List.getElem?_take];split
    ·rename_i hj
     rw[List.getElem?_drop,<- hxs i j hi hj,<- hcc j hj,addr_add_add]
    ·rename_i hj
     rw[List.getElem?_eq_none (by omega)]
   rw[this];exact hc2
  ·simp only[Prod.mk.injEq]at hx;exact hx.1
theorem open_rowsB {α:Type} (ec:α->List Value)(Q:α->DataW H->Prop) {t e:TypeId} {v:Value} {fuel0:Nat} {y0:DataW H × List MemPlace} {sz:Nat}
  (ht:P.underlying t=some (.slice e)) (hsz:P.cellsOf e=sz) (h:DataW.trod enc P w 0 (fun _=>true) true fuel0 t [v]=some y0)
  (hel:∀ fuel,fuel<fuel0->∀ cs y,DataW.trod enc P w 0 (fun _=>true) true fuel e cs=some y->∃ a,cs=ec a/\Q a y.1) :
  ∃ l:List (α × DataW H),Sl (· < w.heap.size) w sz v ((l.map (·.1)).flatMap ec)/\(∀ p∈l,Q p.1 p.2)/\(l=[]\/∃ rest,y0.1 = .slice (l.map (·.2)) rest):=by
 obtain⟨xs,elems,fuel,hfu,hs,hl,he,hd⟩:=open_slF ht (d:=y0.1) (ps:=y0.2) h;rw[hsz]at hs hl he
 have main:∀ n,n<=elems.length->∃ l:List (α × DataW H),l.length=n/\xs.take (n*sz)=(l.map (·.1)).flatMap ec/\l.map (·.2)=(elems.take n).map (·.1)/\∀ p∈l,Q p.1 p.2:=by
  intro n;induction n with
  | zero=>intro _;exact⟨[],rfl,by simp,by simp,by simp⟩
  | succ n ih =>
   intro hn;obtain⟨l,hl0,hl1,hl3,hl2⟩:=ih (by omega)
   have hf:fuel<fuel0:=by
    rcases hfu with h | h
    ·rw[h]at hn;simp at hn
    ·exact h
   obtain⟨a,ha,hq⟩:=hel _ hf _ _ (he n elems[n] (List.getElem?_eq_getElem (by omega)));refine⟨l++[(a,elems[n].1)],by simp[hl0],?_,?_,fun b hb=>?_⟩
   ·rw[Nat.add_mul,Nat.one_mul,List.take_add,hl1,ha,List.map_append,List.flatMap_append];simp
   ·rw[List.map_append,hl3,List.take_succ_eq_append_getElem (by omega),List.map_append];rfl
   ·rcases List.mem_append.1 hb with hb | hb
    ·exact hl2 b hb
    ·obtain rfl:b=(a,elems[n].1):=by simpa using hb
     exact hq
 obtain⟨l,hl0,hl1,hl3,hl2⟩:=main elems.length (Nat.le_refl _);rw[<- hl,List.take_length]at hl1;rw[List.take_length]at hl3;refine⟨l,hl1▸hs,hl2,?_⟩;rcases hd with⟨_,rfl⟩ | ⟨rest,hd⟩
 ·exact .inl (List.eq_nil_of_length_eq_zero (by simpa using hl0))
 ·exact .inr ⟨rest,by rw[hl3];exact hd⟩
end
mutual
def RT.bk:RT->Nat | .mk _ a b ps=>5+a.size+b.size+bkL ps
def bkL:List RT->Nat | []=>0 | r::rs=>r.bk+bkL rs
end
section
variable {H : Type} {enc : TypeId × Value -> H} {W : World} {base : Nat} {v : Value} {d : DataW H} {ps : List MemPlace}
end
end Go.Proofs.YtlhaghoajpglaaaGreat
namespace Go.Proofs.YtlhaghoajpglaaaGreat
open Go Go.RowKit Go.Maps Go.Shelf
theorem RTAt.nil (S:Nat->Prop)(w:World)(k:Int)(a b:ByteArray):RTAt S w (.mk k a b []) (.slice none 0 0):=(RTAt.iff _ _).2 ⟨[],rfl,by simp,Sl.nil _ _ _⟩
end Go.Proofs.YtlhaghoajpglaaaGreat
namespace Go.Proofs.YtlhaghoajpglaaaGreat
open Go Go.RowKit Go.Maps
theorem chk_uniq {ts:List TyS} (h:chk06 ts=0):uniqOk ts=true:=by
 unfold chk06 at h;split at h
 ·split at h
  ·split at h
   ·assumption
   ·cases h
  ·cases h
 ·cases h
def shutM (l:List R2):List (R2 × Bool):=l.foldl (fun m r=>putA m r true) []
theorem shutM_snoc (l:List R2)(r:R2):shutM (l++[r])=putA (shutM l) r true:=by simp[shutM,List.foldl_append]
theorem look_shut (r:R2)(l:List R2):lookA (shutM l) r=if r∈l then some true else none:=by
 suffices h:∀ n,∀ l:List R2,l.length=n->lookA (shutM l) r=if r∈l then some true else none from h _ l rfl
 intro n;induction n with
 | zero=>intro l h;rw[List.eq_nil_of_length_eq_zero h];rfl
 | succ n ih =>
  intro l h;rcases List.eq_nil_or_concat l with rfl | ⟨l',x,rfl⟩
  ·simp at h
  ·rw[List.concat_eq_append]at h ⊢;rw[shutM_snoc,look_put,ih l' (by simpa using h)];by_cases e:x=r
   ·subst e;simp
   ·have e2:¬ r=x:=fun h=>e h.symm;simp[e,e2]
theorem shut_take {l:List R2} {i:Nat} (hi:i<l.length):shutM (l.take (i+1))=putA (shutM (l.take i)) l[i] true:=by
 rw[List.take_succ_eq_append_getElem hi,shutM_snoc]
def EndE (t:NT)(L:Int)(nt:NT)(L' e':Int):Prop:=((t.sz:Int)<=L->nt=t/\L'=L-t.sz/\e'=0)/\(L<t.sz->e'=10)
def EndL (A:List NT)(L:Int)(l:List NT)(L' e':Int):Prop:=((nszL A:Int)<=L->l=A/\L'=L-nszL A/\e'=0)/\(L<nszL A->e'=10)
section
variable {A M l : List NT} {L L1 L2 e1 e2 : Int} {t nt : NT}
theorem EndL.nil (h:0<=L):EndL [] L [] L 0:=⟨fun _=>by simp[nszL],fun h2=>by simp[nszL]at h2;omega⟩
theorem EndL.zero (h:EndL A L l L1 0):l=A/\L1=L-nszL A/\(nszL A:Int)<=L:=by
 by_cases hl:(nszL A:Int)<=L
 ·exact⟨(h.1 hl).1,(h.1 hl).2.1,hl⟩
 ·have:=h.2 (by omega);omega
theorem EndL.one (h:EndL A L l L1 e1):e1=0\/e1=10:=by
 by_cases hl:(nszL A:Int)<=L
 ·exact .inl (h.1 hl).2.2
 ·exact .inr (h.2 (by omega))
theorem EndL.more (h:EndL A L l L1 10)(M:List NT):EndL (A++M) L l L1 10:=by
 have hl:L<nszL A:=by
  refine Decidable.byContradiction fun hn=>?_;have:=(h.1 (by omega)).2.2;omega
 refine⟨fun h2=>?_,fun _=>rfl⟩;rw[nszL_append]at h2;omega
theorem EndL.snoc (h:EndL A L l L1 0)(k:EndE t L1 nt L2 e2):EndL (A++[t]) L (l++[nt]) L2 e2:=by
 obtain⟨rfl,rfl,h3⟩:=h.zero;unfold EndL;rw[nszL_append,nszL_one];refine⟨fun h4=>?_,fun h4=>k.2 (by omega)⟩;obtain⟨rfl,h5,h6⟩:=k.1 (by omega);exact⟨rfl,by omega,h6⟩
theorem EndL.node {k:Int} {p:P3} {s:List P3} (h:EndL A (L-1) l L1 e1):EndE (.mk k p s A) L (.mk k p s l) L1 e1:=by
 unfold EndE;rw[NT.sz];refine⟨fun h4=>?_,fun h4=>h.2 (by omega)⟩;obtain⟨rfl,h5,h6⟩:=h.1 (by omega);exact⟨rfl,by omega,h6⟩
theorem EndE.long (h:L<t.sz):EndE t L nt L1 10:=⟨fun h2=>by omega,fun _=>rfl⟩
end
structure RuAt (w0 w wr:World)(bp lo:Nat)(tv fi sm:Value)(k:Int)(p:P3)(rc:Array Value)(A:List NT)(L:Int)(sb:List P3)(q:List (NT × NV2))(sv qv:Value)(L1 e1:Int):Prop where
 nd:NdAt wr lo (w.heap.size+3) k p sb q sv qv
 bx:Blk wr w.heap.size #[.string p.t,.string p.i,.string p.r] 32
 br:Blk wr (w.heap.size+1) rc 106
 bo:Blk wr (w.heap.size+2) #[.int .i64 0,.string ⟨#[]⟩,.string ⟨#[]⟩,.string ⟨#[]⟩,.slice none 0 0,.slice none 0 0] 45
 bd:Blk wr bp (BdC tv fi sm L1 e1) 143
 ext:Ext w0 wr
 kept:Kept (fun b=>b<w.heap.size/\b≠bp) w wr
 low:w.heap.size+4<=lo
 size:lo<=wr.heap.size
 fin:EndL A L (q.map (·.1)) L1 e1
section
variable {w0 w wr w2 w3 : World} {bp lo lo' : Nat} {tv fi sm sv qv qv' : Value} {k : Int} {p : P3} {rc : Array Value} {A : List NT} {L L1 e1 L2 e2 : Int} {sb : List P3} {q : List (NT × NV2)} {t nt : NT} {v2 : NV2}
theorem RuAt.up (h:RuAt w0 w wr bp lo tv fi sm k p rc A L sb q sv qv L1 e1)(hx:Ext wr w2):RuAt w0 w w2 bp lo tv fi sm k p rc A L sb q sv qv L1 e1 :=
 ⟨h.nd.ext hx,h.bx.below hx,h.br.below hx,h.bo.below hx,h.bd.below hx,Ext.trans h.ext hx,h.kept.trans (Below.kept hx fun b hb=>by have:=h.size;have:=h.low;omega),h.low,Nat.le_trans h.size hx.size,h.fin⟩
theorem RuAt.turned (h:RuAt w0 w wr bp lo tv fi sm k p rc A L sb q sv qv L1 e1)(hbp:bp<w.heap.size)(hw0:w0.heap.size=bp) {dm:Nat} (hk:Kept (· ≠ dm) wr w2)(h1:w.heap.size+4<=dm)(h2:dm<lo):RuAt w0 w w2 bp lo tv fi sm k p rc A L sb q sv qv L1 e1 :=
 ⟨h.nd.above (fun b h3=>hk.block b (by have:=h3.1;omega)) (hk.block _ (by omega)) hk.size,(hk.block _ (by omega)).trans h.bx,(hk.block _ (by omega)).trans h.br,(hk.block _ (by omega)).trans h.bo,(hk.block _ (by omega)).trans h.bd,
  ⟨hk.os.trans h.ext.os,hk.tape.trans h.ext.tape,hk.output.trans h.ext.output,Nat.le_trans h.ext.size hk.size,fun b hb=>(hk.block b (by omega)).trans (h.ext.block b hb)⟩,h.kept.trans (hk.mono fun b hb=>by omega),h.low,Nat.le_trans h.size hk.size,h.fin⟩
theorem RuAt.raise (h:RuAt w0 w wr bp lo tv fi sm k p rc A L [] [] (.slice none 0 0) (.slice none 0 0) L1 e1)(h1:lo<=lo')(h2:lo'<=wr.heap.size):RuAt w0 w wr bp lo' tv fi sm k p rc A L [] [] (.slice none 0 0) (.slice none 0 0) L1 e1 :=
 ⟨⟨h.nd.box,Own.nil _ _ _ _,NRow.nil _ _⟩,h.bx,h.br,h.bo,h.bd,h.ext,h.kept,Nat.le_trans h.low h1,h2,h.fin⟩
theorem RuAt.subs (h:RuAt w0 w wr bp lo tv fi sm k p rc A L sb q sv qv L1 e1)(hbp:bp<w.heap.size)(hw0:w0.heap.size=bp) {s2:List P3} {sv':Value} (hs:Own wr lo 33 3 sv' (pcs s2)):RuAt w0 w (wr.setCell ⟨w.heap.size+3,4,none⟩ sv') bp lo tv fi sm k p rc A L s2 q sv' qv L1 e1:=by
 have hl:=h.low;have hb:∀ b,b≠w.heap.size+3->(wr.setCell ⟨w.heap.size+3,4,none⟩ sv').heap[b]?=wr.heap[b]?:=fun b hb=>Below.heap_setCell _ _ _ b hb
 exact⟨h.nd.setSubs hs (by omega),(hb _ (by omega)).trans h.bx,(hb _ (by omega)).trans h.br,(hb _ (by omega)).trans h.bo,(hb _ (by omega)).trans h.bd,
  ⟨h.ext.os,h.ext.tape,h.ext.output,by simpa using h.ext.size,fun b hb'=>(hb b (by omega)).trans (h.ext.block b hb')⟩,h.kept.set (a:=⟨w.heap.size+3,4,none⟩) (fun h=>by have:=h.1;simp at this;omega) _,hl,by simpa using h.size,h.fin⟩
theorem RuAt.mid (h:RuAt w0 w wr bp lo tv fi sm k p rc A L sb q sv qv L1 e1)(hbp:bp<w.heap.size)(hk:Kept (fun b=>b<wr.heap.size/\b≠bp) wr w2):NdAt w2 lo (w.heap.size+3) k p sb q sv qv :=
 h.nd.above (fun b h1=>hk.block b ⟨h1.2.1,by have:=h1.1;have:=h.low;omega⟩) (hk.block _ ⟨h.nd.box.lt,by omega⟩) hk.size
theorem RuAt.step (h:RuAt w0 w wr bp lo tv fi sm k p rc A L sb q sv qv L1 0)(hbp:bp<w.heap.size)(hw0:w0.heap.size=bp)(hk:Kept (fun b=>b<wr.heap.size/\b≠bp) wr w2)(hd:Blk w2 bp (BdC tv fi sm L2 e2) 143)(hE:EndE t L1 nt L2 e2)
  (hn:NdAt w3 lo (w.heap.size+3) k p sb (q++[(nt,v2)]) sv qv') (hk3:Kept (fun b=>b<w2.heap.size/\b≠w.heap.size+3/\qv.ownBlock≠some b) w2 w3):RuAt w0 w w3 bp lo tv fi sm k p rc (A++[t]) L sb (q++[(nt,v2)]) sv qv' L2 e2:=by
 have hl:=h.low;have hb:∀ b,b<wr.heap.size->b≠bp->b<w.heap.size+3->w3.heap[b]?=wr.heap[b]?:=fun b h1 h2 h3=>(hk3.block b ⟨Nat.lt_of_lt_of_le h1 hk.size,by omega,fun e=>by have:=(h.nd.parts.row.block b e).1;omega⟩).trans (hk.block b ⟨h1,h2⟩);refine⟨hn,(hb _ h.bx.lt (by omega) (by omega)).trans h.bx,(hb _ h.br.lt (by omega) (by omega)).trans h.br,(hb _ h.bo.lt (by omega) (by omega)).trans h.bo,?_,?_,?_,hl,Nat.le_trans h.size (Nat.le_trans hk.size hk3.size),?_⟩
 ·exact(hk3.block bp ⟨hd.lt,by omega,fun e=>by have:=(h.nd.parts.row.block bp e).1;omega⟩).trans hd
 ·exact⟨(hk3.os.trans hk.os).trans h.ext.os,(hk3.tape.trans hk.tape).trans h.ext.tape,(hk3.output.trans hk.output).trans h.ext.output,Nat.le_trans h.ext.size (Nat.le_trans hk.size hk3.size),fun b hb'=>(hb b (by have:=h.size;omega) (by omega) (by omega)).trans (h.ext.block b hb')⟩
 ·exact⟨(hk3.os.trans hk.os).trans h.kept.os,(hk3.tape.trans hk.tape).trans h.kept.tape,(hk3.output.trans hk.output).trans h.kept.output,Nat.le_trans h.kept.size (Nat.le_trans hk.size hk3.size),fun b hb'=>(hb b (by have:=h.size;omega) hb'.2 (by omega)).trans (h.kept.block b hb')⟩
 ·rw[List.map_append];exact h.fin.snoc hE
theorem RuAt.stays (_h:RuAt w0 w wr bp lo tv fi sm k p rc A L sb q sv qv L1 e1)(hbp:bp<w.heap.size)(hk:Kept (fun b=>b<wr.heap.size/\b≠bp) wr w2)(hk3:Kept (fun b=>b<w2.heap.size/\b≠w.heap.size+3/\qv.ownBlock≠some b) w2 w3) {b:Nat} (hb:w.heap.size+4<=b)(hbl:b<wr.heap.size)(hq:qv.ownBlock≠some b):w3.heap[b]?=wr.heap[b]? :=
 (hk3.block b ⟨Nat.lt_of_lt_of_le hbl hk.size,by omega,hq⟩).trans (hk.block b ⟨hbl,by omega⟩)
end
structure BdSt (w0:World)(bp b ash:Nat)(ts:List TyS)(tv:Value)(T:List Tup)(shut:List R2):Prop where
 bp:w0.heap.size=bp
 ty:TysAt (· < w0.heap.size) w0 ts tv
 bk:BookAt w0 b T
 sh:Mp Tryz.prog 121 r2V bV w0 ash (shutM shut)
 ok:∀ t∈ts,t.Ok
 un:uniqOk ts=true
 ln:(refsOf ts).length<=1099511627776
 sub:∀ t∈T,t.s.Ok
 nd:T.Nodup
 few:T.length<=1000000
theorem subsOf_few (T:List Tup)(p:P3):(subsOf T p).length<=T.length:=by
 unfold subsOf;rw[List.length_map];exact List.length_filter_le _ _
theorem subsOf_nd {T:List Tup} (h:T.Nodup)(p:P3):(subsOf T p).Nodup:=by
 unfold subsOf;refine List.pairwise_map.2 ((h.filter _).imp_of_mem ?_);intro a b ha hb hne e;rw[List.mem_filter]at ha hb;refine hne ?_;obtain⟨o1,s1⟩:=a;obtain⟨o2,s2⟩:=b;have h1:o1=p:=by simpa using ha.2
 have h2:o2=p:=by simpa using hb.2
 have h3:s1=s2:=e;rw[h1,h2,h3]
def doneL (l:List P3):List (O2 × Bool):=(l.filter fun s=>decide (s.r=⟨#[]⟩)).map fun s=>(s.obj,true)
theorem doneL_snoc (l:List P3)(s:P3):doneL (l++[s])=if s.r=⟨#[]⟩then doneL l++[(s.obj,true)]else doneL l:=by
 unfold doneL;rw[List.filter_append,List.map_append];by_cases h:s.r=⟨#[]⟩
 ·rw[if_pos h];simp[h]
 ·rw[if_neg h];simp[h]
theorem done_new {l:List P3} {s:P3} (h:s∉l)(hr:s.r=⟨#[]⟩):∀ x∈doneL l,x.1≠s.obj:=fun x hx e=>by
 unfold doneL at hx;obtain⟨y,hy,rfl⟩:=List.mem_map.1 hx;rw[List.mem_filter]at hy;have h1:y.r=⟨#[]⟩:=by simpa using hy.2
 refine h ?_;obtain⟨a,b,c⟩:=s;obtain⟨a',b',c'⟩:=y;simp only[P3.obj,O2.mk.injEq]at e;simp only at h1 hr;rw[hr,<- e.1,<- e.2,<- h1];exact hy.1
theorem viaOf_snoc (b:ByteArray)(l:List P3)(s:P3):viaOf b (l++[s])=if s.r=⟨#[]⟩then viaOf b l++[⟨s.t,s.i,b⟩]else viaOf b l:=by
 unfold viaOf;rw[List.filter_append,List.map_append];by_cases h:s.r=⟨#[]⟩
 ·rw[if_pos h];simp[h]
 ·rw[if_neg h];simp[h]
theorem look_done {w:World} {dm:Nat} {dl:List (O2 × Bool)} (h:Mp Tryz.prog 30 oV bV w dm dl)(t i:ByteArray)(ht:t.size<=maxLen)(hi:i.size<=maxLen) :
  ∃ x:Bool,(Instr.lookup 157 (.map (some dm)) (.agg #[.string t,.string i]) false).run Tryz.prog w = .ok (.bool x) w/\((∀ y∈dl,y.1≠(⟨t,i⟩:O2))->x=false):=by
 have hl:=h.look objK (fun _ _=>oV_inj _ _) Tryz.underlying157 (Tryz.zeroValue4 w) false (obj_key ⟨t,i⟩ ⟨ht,hi⟩);cases hx:lookA dl (⟨t,i⟩:O2) with
 | none =>
  rw[hx]at hl;exact⟨false,hl,fun _=>rfl⟩
 | some x =>
  rw[hx]at hl;refine⟨x,hl,fun hy=>?_⟩;rw[look_miss hy]at hx;cases hx
def TreeSaid (bp:Nat)(tv fi sm:Value)(t:NT)(L:Int)(w:World)(e:Ending)(w':World):Prop :=
 ∃ nt v2 L' e',e = .returned (nV2 nt v2)/\NtAt (NS w.heap.size w') w' nt v2/\Blk w' bp (BdC tv fi sm L' e') 143/\Kept (fun b=>b<w.heap.size/\b≠bp) w w'/\EndE t L nt L' e'
def PointLaw (w0:World)(bp b ash:Nat)(ts:List TyS)(tv:Value)(T:List Tup)(shut:List R2)(d:Nat):Prop :=
 ∀ (p:P3) (L:Int) (w:World),p.Ok->Ext w0 w->Blk w bp (BdC tv (bkV b) (.map (some ash)) L 0) 143->0<=L->L<=1000000 ->
  Calls Tryz.prog 75 #[.pointer (some ⟨bp,0,none⟩),pV p,.int .i64 d] w (TreeSaid bp tv (bkV b) (.map (some ash)) (treeE ts T shut d p) L w)
theorem Blk.setN6 {w:World} {B:Nat} {a b c d e f:Value} {t:TypeId} (h:Blk w B #[a,b,c,d,e,f] t)(x0 x1 x2 x3 x4 x5:Value):Blk ((((((w.setCell ⟨B,0,none⟩ x0).setCell ⟨B,1,none⟩ x1).setCell ⟨B,2,none⟩ x2).setCell ⟨B,3,none⟩ x3).setCell ⟨B,4,none⟩ x4).setCell ⟨B,5,none⟩ x5) B #[x0,x1,x2,x3,x4,x5] t:=(((((h.set_to (cs':=#[x0,b,c,d,e,f]) 0 x0 rfl).set_to (cs':=#[x0,x1,c,d,e,f]) 1 x1 rfl).set_to (cs':=#[x0,x1,x2,d,e,f]) 2 x2 rfl).set_to (cs':=#[x0,x1,x2,x3,e,f]) 3 x3 rfl).set_to (cs':=#[x0,x1,x2,x3,x4,f]) 4 x4 rfl).set_to 5 x5 rfl
theorem put6_other {w:World} {B:Nat} (x0 x1 x2 x3 x4 x5:Value) {y:Nat} (h:y≠B):((((((w.setCell ⟨B,0,none⟩ x0).setCell ⟨B,1,none⟩ x1).setCell ⟨B,2,none⟩ x2).setCell ⟨B,3,none⟩ x3).setCell ⟨B,4,none⟩ x4).setCell ⟨B,5,none⟩ x5).heap[y]?=w.heap[y]?:=by
 rw[Below.heap_setCell _ _ _ y h,Below.heap_setCell _ _ _ y h,Below.heap_setCell _ _ _ y h,Below.heap_setCell _ _ _ y h,Below.heap_setCell _ _ _ y h,Below.heap_setCell _ _ _ y h]
theorem nodup_take {α:Type} {l:List α} (h:l.Nodup) {i:Nat} (hi:i<l.length):l[i]∉l.take i:=fun hm=>by
 obtain⟨j,hj,e⟩:=List.mem_take_iff_getElem.1 hm;exact List.pairwise_iff_getElem.1 h j i (by omega) hi (by omega) e
theorem RuAt.done {w0 w wr:World} {bp lo:Nat} {tv fi sm sv qv:Value} {k:Int} {p:P3} {rc:Array Value} {A:List NT} {L L1 e1:Int} {sb:List P3} {q:List (NT × NV2)} {t:NT} {L0:Int} (h:RuAt w0 w wr bp lo tv fi sm k p rc A L sb q sv qv L1 e1)(hbp:bp<w.heap.size)(hE:EndE t L0 (.mk k p sb (q.map (·.1))) L1 e1)(x0 x1 x2 x3 x4 x5:Value) :
  TreeSaid bp tv fi sm t L0 w (.returned (nV2 (.mk k p sb (q.map (·.1))) (sv,qv))) ((((((wr.setCell ⟨w.heap.size+2,0,none⟩ x0).setCell ⟨w.heap.size+2,1,none⟩ x1).setCell ⟨w.heap.size+2,2,none⟩ x2).setCell ⟨w.heap.size+2,3,none⟩ x3).setCell ⟨w.heap.size+2,4,none⟩ x4).setCell ⟨w.heap.size+2,5,none⟩ x5):=by
 have hlow:=h.low;refine⟨_,_,L1,e1,rfl,?_,(put6_other _ _ _ _ _ _ (by omega)).trans h.bd,?_,hE⟩
 ·exact h.nd.done rfl (fun b h1=>put6_other _ _ _ _ _ _ (by have:=h1.1;omega)) (by simp) (by omega)
 ·have hn:¬ ((fun b=>b<w.heap.size/\b≠bp) (w.heap.size+2)):=fun h=>by have:=h.1;omega
  exact(((((h.kept.set (a:=⟨w.heap.size+2,0,none⟩) hn x0).set (a:=⟨w.heap.size+2,1,none⟩) hn x1).set (a:=⟨w.heap.size+2,2,none⟩) hn x2).set (a:=⟨w.heap.size+2,3,none⟩) hn x3).set (a:=⟨w.heap.size+2,4,none⟩) hn x4).set (a:=⟨w.heap.size+2,5,none⟩) hn x5
set_option maxRecDepth 100000 in
set_option maxHeartbeats 600000 in
theorem erule_any (w0:World)(bp b ash:Nat)(ts:List TyS)(tv:Value)(T:List Tup)(shut:List R2)(HS:BdSt w0 bp b ash ts tv T shut)(d:Nat)(hd:d<=1000)(hP:PointLaw w0 bp b ash ts tv T shut d)(p:P3)(hp:p.Ok)(r:RT):∀ (rpv:Value)(L:Int)(w:World),r.Ok->RTAt (· < w0.heap.size) w0 r rpv->Ext w0 w->Blk w bp (BdC tv (bkV b) (.map (some ash)) L 0) 143->0<=L->L<=1000000 ->
  Calls Tryz.prog 135 #[.pointer (some ⟨bp,0,none⟩),pV p,rV r rpv,.int .i64 ((d:Int)+1)] w (TreeSaid bp tv (bkV b) (.map (some ash)) (ruleE T (treeE ts T shut d) p r) L w):=by
 have HST:=h! HS;have HPL:=h! hP;have HPO:=h! hp;have HDW:=h! (show wrap64 ((d:Int)+1-1)=(d:Int)from by unfold wrap64;omega);have HDW2:=h! (show wrap64 (d:Int)=(d:Int)from by unfold wrap64;omega);clear HS hP hp hd;obtain⟨pt,pi,pr⟩:=p;induction r using RT.ind with
 | h r ih =>
 intro rpv L w hro hat hx hbd h0 h1;have HROK:=h! ((RT.ok_iff r).1 hro);obtain⟨k,ra,rb,parts⟩:=r;dsimp only[RT.k,RT.a,RT.b,RT.ps]at ih HROK;have HTE:=h! (ruleE_mk T (treeE ts T shut d) ⟨pt,pi,pr⟩ k ra rb parts);have HIH:=h! ih;have HRT:=h! hat;have HBP:=h! (show bp<w.heap.size from hbd.lt);have HL0:=h! h0;have HL1:=h! h1;generalize ruleE T (treeE ts T shut d) ⟨pt,pi,pr⟩ (RT.mk k ra rb parts)=te at *;obtain⟨ao,c,rfl,hlc,hcm,-⟩:=hat.rows;dsimp only[RT.ps]at hlc hcm ⊢;obtain⟨wa,hwa⟩:∃ x,x=w.alloc (.cells #[.string pt,.string pi,.string pr] 32):=⟨_,rfl⟩;obtain⟨wc,hwc⟩:∃ x,x=wa.alloc (.cells #[.int .i64 k,.string ra,.string rb,.slice ao parts.length c] 106):=⟨_,rfl⟩;obtain⟨wd,hwd⟩:∃ x,x=wc.alloc (.cells #[.int .i64 0,.string ⟨#[]⟩,.string ⟨#[]⟩,.string ⟨#[]⟩,.slice none 0 0,.slice none 0 0] 45):=⟨_,rfl⟩;obtain⟨we,hwe⟩:∃ x,x=wd.alloc (.cells #[.int .i64 k,.string pt,.string pi,.string pr,.slice none 0 0,.slice none 0 0] 45):=⟨_,rfl⟩;have ea:wa.heap.size=w.heap.size+1:=by rw[hwa];simp
 have ec:wc.heap.size=w.heap.size+2:=by rw[hwc];simp[ea]
 have ed:wd.heap.size=w.heap.size+3:=by rw[hwd];simp[ec]
 have ee:we.heap.size=w.heap.size+4:=by rw[hwe];simp[ed]
 have xa:Ext w wa:=by rw[hwa];exact Ext.alloc _ _
 have xc:Ext wa wc:=by rw[hwc];exact Ext.alloc _ _
 have xd:Ext wc wd:=by rw[hwd];exact Ext.alloc _ _
 have xe:Ext wd we:=by rw[hwe];exact Ext.alloc _ _
 have EX:Ext w we:=xa.trans (xc.trans (xd.trans xe));have EN:=h! (show NdAt we (w.heap.size+4) (w.heap.size+3) k ⟨pt,pi,pr⟩ [] [] (.slice none 0 0) (.slice none 0 0)from⟨by rw[hwe,<- ed];exact Blk.made _ _ _,Own.nil _ _ _ _,NRow.nil _ _⟩);have EP:=h! (show Blk we w.heap.size #[.string pt,.string pi,.string pr] 32 from Blk.below (by rw[hwa];exact Blk.made _ _ _) (xc.trans (xd.trans xe)));have ER:=h! (show Blk we (w.heap.size+1) #[.int .i64 k,.string ra,.string rb,.slice ao parts.length c] 106 from Blk.below (by rw[hwc,<- ea];exact Blk.made _ _ _) (xd.trans xe));have EO:=h! (show Blk we (w.heap.size+2) #[.int .i64 0,.string ⟨#[]⟩,.string ⟨#[]⟩,.string ⟨#[]⟩,.slice none 0 0,.slice none 0 0] 45 from Blk.below (by rw[hwd,<- ec];exact Blk.made _ _ _) xe);have HCT:=h! (count_any bp tv (bkV b) (.map (some ash)) L we (hbd.below EX) h0 h1);have EXX:=h! EX;have EZ:=h! ee;have HX:=h! hx;clear ea ec ed ee xa xc xd xe EX ih hro hat hx hbd h0 h1;subst hwe hwd hwc hwa;unfold pV rV;dsimp only[RT.k,RT.a,RT.b,RT.ps];have hmf:∀ (fn:Fn) (first cap:Array Value) (W:World),(Instr.makeFunc fn first cap).run Tryz.prog W = .ok (.func fn first cap) W:=fun _ _ _ _=>rfl;have hep:=EP.out.cells;have her:=ER.out.cells;go_enter Tryz.func135,Tryz.ntmps135
 go_wp2_with fail
 obtain⟨we,hwe⟩:∃ x,x=(((w.alloc (.cells #[.string pt,.string pi,.string pr] 32)).alloc (.cells #[.int .i64 k,.string ra,.string rb,.slice ao parts.length c] 106)).alloc (.cells #[.int .i64 0,.string ⟨#[]⟩,.string ⟨#[]⟩,.string ⟨#[]⟩,.slice none 0 0,.slice none 0 0] 45)).alloc (.cells #[.int .i64 k,.string pt,.string pi,.string pr,.slice none 0 0,.slice none 0 0] 45):=⟨_,rfl⟩;rw[<- hwe]at EN EP ER EO EXX EZ HCT ⊢;clear hwe hep her;refine HCT.out.mono ?_;rintro e wf ⟨rfl,hbf,hkf⟩
 have FU:=h! (fun(L1 e1:Int) (hL:Blk wf bp (BdC tv (bkV b) (.map (some ash)) L1 e1) 143) (hE:EndL [] (L-1) [] L1 e1)=>show RuAt w0 w wf bp (w.heap.size+4) tv (bkV b) (.map (some ash)) k ⟨pt,pi,pr⟩ #[.int .i64 k,.string ra,.string rb,.slice ao parts.length c] [] (L-1) [] [] (.slice none 0 0) (.slice none 0 0) L1 e1 from by
  have hb:=HBP.out;have hz:=EZ.out;have hkb:∀ b,b≠bp->wf.heap[b]?=we.heap[b]?:=hkf.block;have hb0:=HST.out.bp;exact⟨EN.out.above (fun b h1=>hkb b (by have:=h1.1;omega)) (hkb _ (by omega)) hkf.size,(hkb _ (by omega)).trans EP.out,(hkb _ (by omega)).trans ER.out,(hkb _ (by omega)).trans EO.out,hL,⟨hkf.os.trans (Ext.trans HX.out EXX.out).os,hkf.tape.trans (Ext.trans HX.out EXX.out).tape,hkf.output.trans (Ext.trans HX.out EXX.out).output,Nat.le_trans (Ext.trans HX.out EXX.out).size hkf.size,fun b hb=>(hkb b (by omega)).trans ((Ext.trans HX.out EXX.out).block b hb)⟩,(Below.kept EXX.out fun b hb=>hb.1).trans (hkf.mono fun b hb=>hb.2),Nat.le_refl _,by have:=hkf.size;omega,hE⟩)
 by_cases hl:0<L
 rotate_left
 ·rw[if_neg hl]at hbf;rw[decide_eq_false hl];have HFF:=h! (FU.out _ _ hbf ⟨fun h=>by simp[nszL]at h;omega,fun _=>rfl⟩);have HE:=h! (EndE.long (t:=te) (L:=L) (nt := .mk k ⟨pt,pi,pr⟩ [] []) (L1:=L-1) (by have:=te.sz_pos;omega));clear FU hbf hkf HCT hl;have hc3:=HFF.out.nd.box.cells;have hc2:=HFF.out.bo.cells;have hz2:=HFF.out.bo.free;go_wp2_with fail
  clear hc3 hc2 hz2;refine bodyPost_ret (results_cell_row rfl _ _ (w.heap.size+2) 45 _ (0,0) _ rfl (HFF.out.bo.setN6 _ _ _ _ _ _) Tryz.underlying45 rfl (by kernel_rfl)) rfl ?_;exact HFF.out.done HBP.out HE.out _ _ _ _ _ _
 rw[if_pos hl]at hbf;rw[decide_eq_true hl];have FF:=h! (FU.out _ _ hbf (EndL.nil (by omega)));have HLP:=h! hl;clear FU hbf hkf HCT hl
 have four:Hid (k=1)\/Hid (k=2)\/Hid (k=3)\/Hid (k≠1/\k≠2/\k≠3):=by
  by_cases h1:k=1
  ·exact .inl h1
  ·by_cases h2:k=2
   ·exact .inr (.inl h2)
   ·by_cases h3:k=3
    ·exact .inr (.inr (.inl h3))
    ·exact .inr (.inr (.inr ⟨h1,h2,h3⟩))
 rcases four with HK | HK | HK | HK
 case' inl =>
  have q1:(k == 1)=true:=by rw[HK.out];rfl
  have HSB:=h! (esubs_any bp b tv (.map (some ash)) (L-1) T ⟨pt,pi,pr⟩ wf HPO.out FF.out.bd (HST.out.bk.ext FF.out.ext) (by have:=HST.out.few;have:=subsOf_few T ⟨pt,pi,pr⟩;omega));have HSU0:=h! (show(if k=1 then subsOf T ⟨pt,pi,pr⟩else [])=subsOf T ⟨pt,pi,pr⟩from by rw[if_pos HK.out]);have hpp:=FF.out.bx.cells;have hrc:=FF.out.br.cells;unfold pV at HSB;dsimp only at HSB;go_wp2_with fail
  clear hpp hrc;refine HSB.out.mono ?_;rintro e w2 ⟨v2,rfl,ho2,hx2⟩;generalize subsOf T ⟨pt,pi,pr⟩=sb at *;obtain⟨so,sn,sc,rfl,-,-,-⟩:=ho2.sl.len;have F2:=h! (FF.out.up hx2);have F3:=h! (F2.out.subs HBP.out HST.out.bp (ho2.low (B':=w.heap.size+4) FF.out.size));have HSU:=h! HSU0.out;have hbf:=F2.out.nd.box.cells;have hbz:=F2.out.nd.box.free;have hrr:=F3.out.br.cells;clear HSB ho2 hx2 FF F2 HSU0;go_wp2_with fail
  clear hbf hbz hrr q1;obtain⟨wl,hwl⟩:∃ x,x=w2.setCell ⟨w.heap.size+3,4,none⟩ (.slice so sn sc):=⟨_,rfl⟩;obtain⟨H,hH⟩:∃ H,H=headE T (treeE ts T shut d) ⟨pt,pi,pr⟩ k ra rb:=⟨_,rfl⟩
  have GU:=h! (show ∃ (lo:Nat) (q0:List (NT × NV2)) (qv0:Value) (L1 e1:Int),RuAt w0 w wl bp lo tv (bkV b) (.map (some ash)) k ⟨pt,pi,pr⟩ #[.int .i64 k,.string ra,.string rb,.slice ao parts.length c] H (L-1) sb q0 (.slice so sn sc) qv0 L1 e1 from by
   have h1:H=[]:=by rw[hH];unfold headE;rw[if_neg (by rw[HK.out];decide),if_neg (by rw[HK.out];decide)]
   rw[hwl,h1];exact⟨_,_,_,_,_,F3.out⟩)
  rw[<- hwl];have HH:=h! hH;clear F3 hwl hH
 case' inr.inl =>
  have q1:(k == 1)=false:=by rw[HK.out];rfl
  have q2:(k == 2)=true:=by rw[HK.out];rfl
  have HPT:=h! (HPL.out ⟨pt,pi,ra⟩ (L-1) wf ⟨HPO.out.1,HPO.out.2.1,by have:=HROK.out.2.1;show ra.size<=maxLen;unfold maxLen;omega⟩ FF.out.ext FF.out.bd (by have:=HLP.out;omega) (by have:=HL1.out;omega));generalize hte:treeE ts T shut d ⟨pt,pi,ra⟩=te2 at HPT;have HTE2:=h! hte;have hpp:=FF.out.bx.cells;have hrr:=FF.out.br.cells;have hdw:=HDW.out;have hdw2:=HDW2.out;unfold pV at HPT;dsimp only at HPT;clear hte;go_wp2_with fail
  clear hpp hrr hdw hdw2;refine HPT.out.mono ?_;rintro e w2 ⟨nt,v2,L2,e2,rfl,hnt,hbd2,hk2,hE2⟩;have HAD:=h! (addN_any (w.heap.size+3) (w.heap.size+4) wf.heap.size k ⟨pt,pi,pr⟩ [] [] (.slice none 0 0) (.slice none 0 0) nt v2 w2 (FF.out.mid HBP.out hk2) hnt (by have:=FF.out.size;omega) (fun g hg=>by have:=(FF.out.nd.parts.row.block g hg).2;omega) (by have:=FF.out.low;omega) (Nat.le_trans FF.out.size hk2.size) (by simp));unfold nV2 at *;have HK2:=h! hk2;have HB2:=h! hbd2;have HE2:=h! hE2;clear hnt hbd2 hk2 hE2 HPT;go_wp2_with fail
  refine HAD.out.mono ?_;rintro e w3 ⟨rfl,qv3,hnd3,-,hk3⟩;have SU:=h! (FF.out.step HBP.out HST.out.bp HK2.out HB2.out HE2.out hnd3 hk3);have hrr:=SU.out.br.cells;clear hnd3 hk3 HAD FF HK2 HB2 HE2;go_wp2_with fail
  clear hrr q1 q2;obtain⟨so,sn,sc,hs⟩:∃ (so:Option Addr) (sn sc:Nat),Value.slice so sn sc = .slice none 0 0:=⟨_,_,_,rfl⟩;obtain⟨sb,hsb⟩:∃ sb:List P3,sb=[]:=⟨_,rfl⟩;have HSU:=h! (show(if k=1 then subsOf T ⟨pt,pi,pr⟩else [])=sb from by rw[if_neg (by rw[HK.out];decide),hsb]);rw[<- hs,<- hsb]at SU;clear hs hsb;obtain⟨wl,hwl⟩:∃ x,x=w3:=⟨_,rfl⟩;obtain⟨H,hH⟩:∃ H,H=headE T (treeE ts T shut d) ⟨pt,pi,pr⟩ k ra rb:=⟨_,rfl⟩
  have GU:=h! (show ∃ (lo:Nat) (q0:List (NT × NV2)) (qv0:Value) (L1 e1:Int),RuAt w0 w wl bp lo tv (bkV b) (.map (some ash)) k ⟨pt,pi,pr⟩ #[.int .i64 k,.string ra,.string rb,.slice ao parts.length c] H (L-1) sb q0 (.slice so sn sc) qv0 L1 e1 from by
   have h1:H=[]++[te2]:=by rw[hH];unfold headE;rw[if_pos HK.out,HTE2.out];rfl
   rw[hwl,h1];exact⟨_,_,_,_,_,SU.out⟩)
  rw[<- hwl];have HH:=h! hH;clear SU hwl hH
 case' inr.inr.inl =>
  have q1:(k == 1)=false:=by rw[HK.out];rfl
  have q2:(k == 2)=false:=by rw[HK.out];rfl
  have q3:(k == 3)=true:=by rw[HK.out];rfl
  have HZF:=h! (show w.heap.size+4<=wf.heap.size from FF.out.size);have FM:=h! ((FF.out.up (Ext.alloc wf (.map #[] 0))).raise (lo':=wf.heap.size+1) (by have:=FF.out.size;omega) (by simp));have MM:=h! (show Mp Tryz.prog 30 oV bV (wf.alloc (.map #[] 0)) wf.heap.size ([]:List (O2 × Bool))from Mp.made wf);have HSB:=h! (esubs_any bp b tv (.map (some ash)) (L-1) T ⟨pt,pi,ra⟩ (wf.alloc (.map #[] 0)) ⟨HPO.out.1,HPO.out.2.1,by have:=HROK.out.2.1;show ra.size<=maxLen;unfold maxLen;omega⟩ FM.out.bd (HST.out.bk.ext FM.out.ext) (by have:=HST.out.few;have:=subsOf_few T ⟨pt,pi,ra⟩;omega));have HSND:=h! (subsOf_nd HST.out.nd ⟨pt,pi,ra⟩);have HSLN:=h! (subsOf_few T ⟨pt,pi,ra⟩)
  have HSOK:=h! (show ∀ s∈subsOf T ⟨pt,pi,ra⟩,s.Ok from fun s hs=>by
   obtain⟨t,ht,-,rfl⟩:=subsOf_mem hs;exact HST.out.sub t ht)
  have HFEW:=h! HST.out.few;have hpp:=FM.out.bx.cells;have hrr:=FM.out.br.cells;have hmm:=@run_makeMap Tryz.prog;have hrc:=FF.out.br.cells;unfold pV at HSB;dsimp only at HSB;clear FF;go_wp2_with fail
  clear hpp hrr hmm hrc;refine HSB.out.mono ?_;rintro e w2 ⟨v2,rfl,ho2,hx2⟩;generalize hsv:subsOf T ⟨pt,pi,ra⟩=sv at *;have HSV:=h! hsv;obtain⟨vo,vn,vc,rfl,hvn,-,-⟩:=ho2.sl.len;rw[pcs_length]at hvn;obtain rfl:vn=sv.length:=by omega
  have F2:=h! (FM.out.up hx2);have M2:=h! (MM.out.below hx2);have OW2:=h! (show Own w2 (wf.heap.size+1) 33 3 (.slice vo sv.length vc) (pcs sv)from ho2.low (by simp));clear HSB ho2 hx2 FM MM hvn hsv;go_wp2_with fail
  go_loopw [60] (fun iv wr=>∃ (i:Nat) (q:List (NT × NV2)) (qv:Value) (L1 e1:Int) (dl:List (O2 × Bool)),i<=sv.length/\iv = .int .i64 i/\RuAt w0 w wr bp (wf.heap.size+1) tv (bkV b) (.map (some ash)) k ⟨pt,pi,pr⟩ #[.int .i64 k,.string ra,.string rb,.slice ao parts.length c] ((viaOf rb (sv.take i)).map (treeE ts T shut d)) (L-1) [] q (.slice none 0 0) qv L1 e1/\Own wr (wf.heap.size+1) 33 3 (.slice vo sv.length vc) (pcs sv)/\Mp Tryz.prog 30 oV bV wr wf.heap.size dl/\(e1=0->dl=doneL (sv.take i))) (fun iv _=>sv.length-(intOf iv).toNat)
  case atStart=>exact⟨0,[],.slice none 0 0,L-1,0,[],Nat.zero_le _,rfl,F2.out,OW2.out,M2.out,fun _=>rfl⟩
  case' round =>
   obtain⟨i,q,qv,L1,e1,dl,hi,rfl,hru,hov,hmp,hdl⟩:=hrel;have RU:=h! hru;have RO:=h! hov;have RM:=h! hmp;have RD:=h! hdl;clear F2 M2 OW2 hru hov hmp hdl;by_cases hlt:i<sv.length
   ·obtain⟨ao',c',he',-,-,hcell⟩:=Sl.rows pC_length (by decide) (show Sl _ wr 3 (.slice vo sv.length vc) (sv.flatMap pC)from RO.out.sl);cases he';obtain⟨bq,oq,rfl,-,hcell⟩:=hcell (by omega);have hck:=hcell i hlt
    have HTV:=h! (show(viaOf rb (sv.take (i+1))).map (treeE ts T shut d)=if sv[i].r=⟨#[]⟩then(viaOf rb (sv.take i)).map (treeE ts T shut d)++[treeE ts T shut d ⟨sv[i].t,sv[i].i,rb⟩]else(viaOf rb (sv.take i)).map (treeE ts T shut d)from by
     rw[List.take_succ_eq_append_getElem hlt,viaOf_snoc];by_cases h:sv[i].r=⟨#[]⟩
     ·rw[if_pos h,if_pos h,List.map_append];rfl
     ·rw[if_neg h,if_neg h])
    have HTD:=h! (show doneL (sv.take (i+1))=if sv[i].r=⟨#[]⟩then doneL (sv.take i)++[(sv[i].obj,true)]else doneL (sv.take i)from by rw[List.take_succ_eq_append_getElem hlt,doneL_snoc]);have HNW:=h! (nodup_take HSND.out hlt);have HOI:=h! (HSOK.out sv[i] (List.getElem_mem hlt));generalize sv[i]=s at *;have HLTI:=h! hlt;have HWI:=h! (show wrap64 ((i:Int)+1)=((i+1:Nat):Int)from by have:=HSLN.out;have:=HFEW.out;unfold wrap64;omega);generalize (viaOf rb (sv.take i)).map (treeE ts T shut d)=A at *;obtain⟨st,si,sr⟩:=s;dsimp only at HTV HTD;have d0:wr.cell? ⟨bq,oq+i*3,none⟩=some (.string st):=hck 0 _ rfl;have d1:wr.cell? ⟨bq,oq+i*3+1,none⟩=some (.string si):=hck 1 _ rfl;have d2:wr.cell? ⟨bq,oq+i*3+2,none⟩=some (.string sr):=hck 2 _ rfl;have hli:(i:Int)<(sv.length:Int):=by omega
    have hx1:=Ext.alloc wr (.cells #[.string st,.string si,.string sr] 33);have XU:=h! (RU.out.up hx1);have XO:=h! (RO.out.below hx1);have XM:=h! (RM.out.below hx1);have XB:=h! (show Blk (wr.alloc (.cells #[.string st,.string si,.string sr] 33)) wr.heap.size #[.string st,.string si,.string sr] 33 from Blk.made _ _ _);have XS:=h! (show(wr.alloc (.cells #[.string st,.string si,.string sr] 33)).heap.size=wr.heap.size+1 from by simp);have hb:=XU.out.bd.cells;have hs:=XB.out.cells;unfold BdC at hb;have hse:=isEmpty_ba sr;clear hlt hi hck hcell hx1 RU RO RM;by_cases he:sr=⟨#[]⟩
    rotate_left
    ·rw[decide_eq_false he]at hse;rw[if_neg he]at HTV HTD;clear he;go_wp2_with fail
     clear hb hs d0 d1 d2 hse;go_roundw
     case rel=>exact⟨i+1,q,qv,L1,e1,dl,HLTI.out,by first | rw[HWI.out] | go_num,by rw[HTV.out];exact XU.out,XO.out,XM.out,fun h=>by rw[HTD.out];exact RD.out h⟩
     case measure=>have:=HLTI.out;(try rw[HWI.out]);simp[intOf];omega
    subst he;rw[if_pos rfl]at HTV HTD;rw[decide_eq_true rfl]at hse;obtain⟨x,hlk,hx⟩:=look_done XM.out st si HOI.out.1 HOI.out.2.1;rcases XU.out.fin.one with he | he
    rotate_left
    ·subst he;have HX:=h! hx;clear hx;cases x with
     | false =>
      go_wp2_with fail
      clear hb hs d0 d1 d2 hse hlk;go_roundw
      case rel=>exact⟨i+1,q,qv,L1,10,dl,HLTI.out,by first | rw[HWI.out] | go_num,by rw[HTV.out];exact⟨XU.out.nd,XU.out.bx,XU.out.br,XU.out.bo,XU.out.bd,XU.out.ext,XU.out.kept,XU.out.low,XU.out.size,XU.out.fin.more _⟩,XO.out,XM.out,fun h=>by omega⟩
      case measure=>have:=HLTI.out;(try rw[HWI.out]);simp[intOf];omega
     | true =>
      go_wp2_with fail
      clear hb hs d0 d1 d2 hse hlk;go_roundw
      case rel=>exact⟨i+1,q,qv,L1,10,dl,HLTI.out,by first | rw[HWI.out] | go_num,by rw[HTV.out];exact⟨XU.out.nd,XU.out.bx,XU.out.br,XU.out.bo,XU.out.bd,XU.out.ext,XU.out.kept,XU.out.low,XU.out.size,XU.out.fin.more _⟩,XO.out,XM.out,fun h=>by omega⟩
      case measure=>have:=HLTI.out;(try rw[HWI.out]);simp[intOf];omega
    subst he;obtain rfl:=hx (by rw[RD.out rfl];exact done_new HNW.out rfl);obtain⟨w5,hrun,hM5,hT5⟩:=XM.out.store objK (fun _ _=>oV_inj _ _) Tryz.underlying157 (obj_key ⟨st,si⟩ ⟨HOI.out.1,HOI.out.2.1⟩) true;have YU:=h! (XU.out.turned HBP.out HST.out.bp hT5.kept HZF.out (Nat.lt_succ_self _));have YO:=h! (XO.out.keepOwn (w':=w5) fun g hg=>hT5.kept.block g (by have:=(XO.out.block g hg).1;omega))
    have YM:=h! (show Mp Tryz.prog 30 oV bV w5 wf.heap.size (doneL (sv.take (i+1)))from by
     rw[HTD.out,<- RD.out rfl];rw[put_miss (by rw[RD.out rfl];exact done_new HNW.out rfl)]at hM5;exact hM5)
    have YB:=h! (show Blk w5 wr.heap.size #[.string st,.string si,.string ⟨#[]⟩] 33 from(hT5.kept.block _ (by have:=XU.out.size;have:=XS.out;omega)).trans XB.out);have YS:=h! (show w5.heap.size=wr.heap.size+1 from hT5.size.trans XS.out);have HZ:=h! YU.out.fin.zero;have HPT:=h! (HPL.out ⟨st,si,rb⟩ L1 w5 ⟨HOI.out.1,HOI.out.2.1,by have:=HROK.out.2.2.1;show rb.size<=maxLen;unfold maxLen;omega⟩ YU.out.ext YU.out.bd (by have:=HZ.out.2.1;have:=HZ.out.2.2;omega) (by have:=HZ.out.2.1;have:=HL1.out;omega));generalize treeE ts T shut d ⟨st,si,rb⟩=te2 at *;have ys:=YB.out.cells;have yr:=YU.out.br.cells;have hdw:=HDW.out;have hdw2:=HDW2.out;unfold pV at HPT;unfold oV bV at hrun;dsimp only at HPT hrun;clear hM5 hT5 XO XM XB XU;go_wp2_with fail
    clear ys yr hdw hdw2 hrun hb hs d0 d1 d2 hse hlk;refine HPT.out.mono ?_;rintro e w2 ⟨nt,v2,L2,e2,rfl,hnt,hbd2,hk2,hE2⟩
    have HAD:=h! (addN_any (w.heap.size+3) (wf.heap.size+1) w5.heap.size k ⟨pt,pi,pr⟩ [] q (.slice none 0 0) qv nt v2 w2 (YU.out.mid HBP.out hk2) hnt (by have:=YU.out.size;omega) (fun g hg=>by have:=(YU.out.nd.parts.row.block g hg).2;omega) (by have:=YU.out.low;omega) (Nat.le_trans YU.out.size hk2.size) (by
     have h1:=HZ.out.2.2;have h2:=nszL_many A;rw[<- HZ.out.1,List.length_map]at h2;have h3:=HL1.out;rw[HZ.out.1]at h2;omega))
    unfold nV2 at *;have HK2:=h! hk2;have HB2:=h! hbd2;have HE2:=h! hE2;clear hnt hbd2 hk2 hE2 HPT;go_wp2_with fail
    refine HAD.out.mono ?_;rintro e w3 ⟨rfl,qv3,hnd3,-,hk3⟩;have SU:=h! (YU.out.step HBP.out HST.out.bp HK2.out HB2.out HE2.out hnd3 hk3);have SO:=h! (YO.out.keepOwn (w':=w3) fun g hg=>YU.out.stays HBP.out HK2.out hk3 (by have:=(YO.out.block g hg).1;have:=HZF.out;omega) (YO.out.block g hg).2 (YO.out.apart YU.out.nd.parts.row (by decide) hg));have SM:=h! (YM.out.same (w':=w3) (YU.out.stays HBP.out HK2.out hk3 HZF.out YM.out.lt (YU.out.nd.parts.row.notMap YM.out.notCells _ · rfl)));clear hnd3 hk3 HAD YU YO YM YB HK2 HB2 HE2;go_wp2_with fail
    go_roundw
    case rel=>exact⟨i+1,_,qv3,L2,e2,_,HLTI.out,by first | rw[HWI.out] | go_num,by rw[HTV.out];exact SU.out,SO.out,SM.out,fun _=>rfl⟩
    case measure=>have:=HLTI.out;(try rw[HWI.out]);simp[intOf];omega
   obtain rfl:i=sv.length:=by omega
   have HTA:=h! (show sv.take sv.length=sv from List.take_length);rw[HTA.out]at RU;have hrr:=RU.out.br.cells;clear hlt hi RO RM RD;go_wp2_with fail
   clear hrr q1 q2 q3;obtain⟨so,sn,sc,hs⟩:∃ (so:Option Addr) (sn sc:Nat),Value.slice so sn sc = .slice none 0 0:=⟨_,_,_,rfl⟩;obtain⟨sb,hsb⟩:∃ sb:List P3,sb=[]:=⟨_,rfl⟩;have HSU:=h! (show(if k=1 then subsOf T ⟨pt,pi,pr⟩else [])=sb from by rw[if_neg (by rw[HK.out];decide),hsb]);rw[<- hs,<- hsb]at RU;clear hs hsb;obtain⟨wl,hwl⟩:∃ x,x=wr:=⟨_,rfl⟩;obtain⟨H,hH⟩:∃ H,H=headE T (treeE ts T shut d) ⟨pt,pi,pr⟩ k ra rb:=⟨_,rfl⟩
   have GU:=h! (show ∃ (lo:Nat) (q0:List (NT × NV2)) (qv0:Value) (L1 e1:Int),RuAt w0 w wl bp lo tv (bkV b) (.map (some ash)) k ⟨pt,pi,pr⟩ #[.int .i64 k,.string ra,.string rb,.slice ao parts.length c] H (L-1) sb q0 (.slice so sn sc) qv0 L1 e1 from by
    have h1:H=(viaOf rb sv).map (treeE ts T shut d):=by rw[hH];unfold headE;rw[if_neg (by rw[HK.out];decide),if_pos HK.out,HSV.out]
    rw[hwl,h1];exact⟨_,_,_,_,_,RU.out⟩)
   rw[<- hwl];have HH:=h! hH;clear RU hwl hH;clear HSND HSLN HSOK HFEW HZF HTA HSV
 case' inr.inr.inr =>
  have q1:(k == 1)=false:=by rw[beq_eq_false_iff_ne];exact HK.out.1
  have q2:(k == 2)=false:=by rw[beq_eq_false_iff_ne];exact HK.out.2.1
  have q3:(k == 3)=false:=by rw[beq_eq_false_iff_ne];exact HK.out.2.2
  have hrc:=FF.out.br.cells;go_wp2_with fail
  clear hrc q1 q2 q3;obtain⟨wl,hwl⟩:∃ x,x=wf:=⟨_,rfl⟩;obtain⟨so,sn,sc,hs⟩:∃ (so:Option Addr) (sn sc:Nat),Value.slice so sn sc = .slice none 0 0:=⟨_,_,_,rfl⟩;obtain⟨sb,hsb⟩:∃ sb:List P3,sb=[]:=⟨_,rfl⟩;obtain⟨q0,qv0,L1,e1,rfl,rfl,rfl,rfl⟩:∃ (q0:List (NT × NV2)) (qv0:Value) (L1 e1:Int),q0=[]/\qv0 = .slice none 0 0/\L1=L-1/\e1=0:=⟨_,_,_,_,rfl,rfl,rfl,rfl⟩;have HSU:=h! (show(if k=1 then subsOf T ⟨pt,pi,pr⟩else [])=sb from by rw[if_neg HK.out.1,hsb]);obtain⟨H,hH⟩:∃ H,H=headE T (treeE ts T shut d) ⟨pt,pi,pr⟩ k ra rb:=⟨_,rfl⟩
  have GU:=h! (show ∃ (lo:Nat) (q0:List (NT × NV2)) (qv0:Value) (L1 e1:Int),RuAt w0 w wl bp lo tv (bkV b) (.map (some ash)) k ⟨pt,pi,pr⟩ #[.int .i64 k,.string ra,.string rb,.slice ao parts.length c] H (L-1) sb q0 (.slice so sn sc) qv0 L1 e1 from by
   have h1:H=[]:=by rw[hH];unfold headE;rw[if_neg HK.out.2.1,if_neg HK.out.2.2]
   rw[hwl,hs,hsb,h1];exact⟨_,_,_,_,_,FF.out⟩)
  rw[<- hwl];have HH:=h! hH;clear FF hwl hs hsb hH
 all_goals
  obtain⟨lo,q0,qv0,L10,e10,hgu⟩:=GU.out;have GV:=h! hgu;have HPC:=h! (show parts.length<=9223372036854775807 from Nat.le_trans hlc hcm);clear hgu GU hlc hcm hmf;go_loopw [99] (fun iv wr=>∃ (i:Nat) (q:List (NT × NV2)) (qv:Value) (L1 e1:Int),i<=parts.length/\iv = .int .i64 i/\RuAt w0 w wr bp lo tv (bkV b) (.map (some ash)) k ⟨pt,pi,pr⟩ #[.int .i64 k,.string ra,.string rb,.slice ao parts.length c] (H++(parts.take i).map (ruleE T (treeE ts T shut d) ⟨pt,pi,pr⟩)) (L-1) sb q (.slice so sn sc) qv L1 e1) (fun iv _=>parts.length-(intOf iv).toNat)
  case atStart=>exact⟨0,q0,qv0,L10,e10,Nat.zero_le _,rfl,by rw[List.take_zero,List.map_nil,List.append_nil];exact GV.out⟩
  case round =>
   obtain⟨i,q,qv,L1,e1,hi,rfl,hru⟩:=hrel;have RU:=h! hru;clear GV hru;by_cases hlt:i<parts.length
   ·obtain⟨ao',c',he',-,-,hcell⟩:=(HRT.out.same (w':=wr) fun x hx=>RU.out.ext.block x hx).rows;cases he';obtain⟨bq,oq,pq,rfl,hbq,d0,d1,d2,d3,hpat⟩:=hcell i hlt;dsimp only[RT.ps]at d0 d1 d2 d3 hpat;have HLTI:=h! hlt;have HWI:=h! (show wrap64 ((i:Int)+1)=((i+1:Nat):Int)from by have:=HPC.out;unfold wrap64;omega);have HTK:=h! (show(parts.take (i+1)).map (ruleE T (treeE ts T shut d) ⟨pt,pi,pr⟩)=(parts.take i).map (ruleE T (treeE ts T shut d) ⟨pt,pi,pr⟩)++[ruleE T (treeE ts T shut d) ⟨pt,pi,pr⟩ parts[i]]from by rw[List.take_succ_eq_append_getElem hlt,List.map_append];rfl);have HII:=h! (HIH.out parts[i] (List.getElem_mem hlt));have HOI:=h! (HROK.out.2.2.2 parts[i] (List.getElem_mem hlt));have HPA:=h! (show RTAt (· < w0.heap.size) w0 parts[i] pq from hpat.same fun x hx=>(RU.out.ext.block x hx).symm);generalize parts[i]=x at *;obtain⟨xo,xc,rfl,-⟩:=hpat.rows;generalize (parts.take i).map (ruleE T (treeE ts T shut d) ⟨pt,pi,pr⟩)=A at *;have hli:(i:Int)<(parts.length:Int):=by omega
    have XU:=h! (RU.out.up (Ext.alloc wr (.cells #[.int .i64 x.k,.string x.a,.string x.b,.slice xo x.ps.length xc] 106)));have XB:=h! (show Blk (wr.alloc (.cells #[.int .i64 x.k,.string x.a,.string x.b,.slice xo x.ps.length xc] 106)) wr.heap.size #[.int .i64 x.k,.string x.a,.string x.b,.slice xo x.ps.length xc] 106 from Blk.made _ _ _);have XS:=h! (show(wr.alloc (.cells #[.int .i64 x.k,.string x.a,.string x.b,.slice xo x.ps.length xc] 106)).heap.size=wr.heap.size+1 from by simp);have hb:=XU.out.bd.cells;have hp:=XU.out.bx.cells;unfold BdC at hb;clear hlt hi hbq hpat hcell RU;rcases XU.out.fin.one with he | he
    ·subst he;have HZ:=h! XU.out.fin.zero;have HRC:=h! (HII.out (.slice xo x.ps.length xc) L1 _ HOI.out HPA.out XU.out.ext XU.out.bd (by have:=HZ.out.2.1;have:=HZ.out.2.2;omega) (by have:=HZ.out.2.1;have:=HL1.out;omega));unfold pV rV at HRC;dsimp only at HRC;clear HII HOI HPA;go_wp2_with fail
     clear hb hp d0 d1 d2 d3;refine HRC.out.mono ?_;rintro e w2 ⟨nt,v2,L2,e2,rfl,hnt,hbd2,hk2,hE2⟩
     have HAD:=h! (addN_any (w.heap.size+3) lo (wr.heap.size+1) k ⟨pt,pi,pr⟩ sb q (.slice so sn sc) qv nt v2 w2 (XU.out.mid HBP.out hk2) (by rw[<- XS.out];exact hnt) (by have:=XU.out.size;have:=XS.out;omega) (fun g hg=>by have:=(XU.out.nd.parts.row.block g hg).2;have:=XS.out;omega) (by have:=XU.out.low;omega) (Nat.le_trans XU.out.size hk2.size) (by
      have h1:=HZ.out.2.2;have h2:=nszL_many (H++A);rw[<- HZ.out.1,List.length_map]at h2;have h3:=HL1.out;rw[HZ.out.1]at h2;omega))
     unfold nV2 at *;have HK2:=h! hk2;have HB2:=h! hbd2;have HE2:=h! hE2;clear hnt hbd2 hk2 hE2 HRC XB;go_wp2_with fail
     refine HAD.out.mono ?_;rintro e w3 ⟨rfl,qv3,hnd3,-,hk3⟩;have SU:=h! (XU.out.step HBP.out HST.out.bp HK2.out HB2.out HE2.out hnd3 hk3);clear hnd3 hk3 HAD XU HK2 HB2 HE2;go_wp2_with fail
     go_roundw
     case rel=>exact⟨i+1,_,qv3,L2,e2,HLTI.out,by first | rw[HWI.out] | go_num,by rw[HTK.out,<- List.append_assoc];exact SU.out⟩
     case measure=>have:=HLTI.out;(try rw[HWI.out]);simp[intOf];omega
    ·subst he;have SU:=h! (XU.out);clear HII HOI HPA XU XB;go_wp2_with fail
     clear hb hp d0 d1 d2 d3;go_roundw
     case rel=>exact⟨i+1,q,qv,L1,10,HLTI.out,by first | rw[HWI.out] | go_num,by
      rw[HTK.out,<- List.append_assoc];exact⟨SU.out.nd,SU.out.bx,SU.out.br,SU.out.bo,SU.out.bd,SU.out.ext,SU.out.kept,SU.out.low,SU.out.size,SU.out.fin.more _⟩⟩
     case measure=>have:=HLTI.out;(try rw[HWI.out]);simp[intOf];omega
   ·obtain rfl:i=parts.length:=by omega
    have HTA:=h! (show parts.take parts.length=parts from List.take_length);rw[HTA.out]at RU
    have HE:=h! (show EndE te L (.mk k ⟨pt,pi,pr⟩ sb (q.map (·.1))) L1 e1 from by
     rw[HTE.out,HSU.out,<- HH.out];exact RU.out.fin.node)
    clear hlt hi;obtain⟨qo,qn,qc,rfl,-,-,-⟩:=RU.out.nd.parts.row.sl.len;have hc3:=RU.out.nd.box.cells;have hc2:=RU.out.bo.cells;have hz2:=RU.out.bo.free;go_wp2_with fail
    clear hc3 hc2 hz2;refine bodyPost_ret (results_cell_row rfl _ _ (w.heap.size+2) 45 _ (0,0) _ rfl (RU.out.bo.setN6 _ _ _ _ _ _) Tryz.underlying45 rfl (by kernel_rfl)) rfl ?_;exact RU.out.done HBP.out HE.out _ _ _ _ _ _
end Go.Proofs.YtlhaghoajpglaaaGreat
