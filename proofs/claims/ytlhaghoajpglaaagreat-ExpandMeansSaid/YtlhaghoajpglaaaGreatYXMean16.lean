/- Lemmas for the claim, no condition. -/
import Derived.Test.YtlhaghoajpglaaaGreatYXMean0
import Derived.Test.YtlhaghoajpglaaaGreatYXMean15
import Derived.Test.YtlhaghoajpglaaaGreatYXMean9
import Derived.Test.YtlhaghoajpglaaaGreatYXMean2
import Derived.Test.YtlhaghoajpglaaaGreatYXMean13
import Derived.Test.YtlhaghoajpglaaaGreatYXMean7
import Derived.Test.YtlhaghoajpglaaaGreatYXMean1
import Derived.Test.YtlhaghoajpglaaaGreatYXMean11
set_option maxRecDepth 100000
set_option maxHeartbeats 3000000
namespace Go.Proofs.YtlhaghoajpglaaaGreat
open Go Go.RowKit Go.Maps
structure Box {α:Type} (e ee:TypeId)(sz:Nat)(El:(Nat->Prop)->World->α->Prop)(enc:α->List Value)(rp lo:Nat)(pre:List Value)(w:World)(q:List α)(pv:Value):Prop where
 box:Blk w rp (pre++[pv]).toArray e
 row:Own w lo ee sz pv (q.flatMap enc)
 parts:∀ x∈q,El (fun b=>(lo<=b/\b<w.heap.size)/\pv.ownBlock≠some b) w x
section
variable {α : Type} {e ee : TypeId} {sz : Nat} {El : (Nat -> Prop) -> World -> α -> Prop} {enc : α -> List Value} {rp lo tp n0 : Nat} {pre : List Value} {w w' w7 : World} {q : List α} {pv v7 : Value} {x : α}
theorem Box.keep (hE:∀ {S:Nat->Prop} {w w':World} {x:α},El S w x->Same S w w'->El S w' x)(hM:∀ {S S':Nat->Prop} {w:World} {x:α},El S w x->(∀ b,S b->S' b)->El S' w x)
  (h:Box e ee sz El enc rp lo pre w q pv) (hk:Kept (fun b=>b<w.heap.size/\lo<=b) w w') (hr:w'.heap[rp]?=w.heap[rp]?):Box e ee sz El enc rp lo pre w' q pv :=
 ⟨hr.trans h.box,h.row.keepOwn fun g hg=>hk.block g ⟨(h.row.block g hg).2,(h.row.block g hg).1⟩,
  fun x hx=>hM (hE (h.parts x hx) fun b hb=>hk.block b ⟨hb.1.2,hb.1.1⟩) fun _b hb=>⟨⟨hb.1.1,Nat.lt_of_lt_of_le hb.1.2 hk.size⟩,hb.2⟩⟩
theorem Box.add (hE:∀ {S:Nat->Prop} {w w':World} {x:α},El S w x->Same S w w'->El S w' x)(hM:∀ {S S':Nat->Prop} {w:World} {x:α},El S w x->(∀ b,S b->S' b)->El S' w x)
  (h:Box e ee sz El enc rp lo pre w q pv) (hrl:rp<lo) (hk:∀ b,b<w.heap.size->pv.ownBlock≠some b->w7.heap[b]?=w.heap[b]?) (hz:w.heap.size<=w7.heap.size)
  (ho:Own w7 lo ee sz v7 (q.flatMap enc++enc x)) (hb:∀ g,v7.ownBlock=some g->pv.ownBlock=some g\/w.heap.size<=g) (hr:El (fun b=>n0<=b/\b<w.heap.size) w x) (hn0:lo<=n0) (hpv:∀ g,pv.ownBlock=some g->g<n0) :
  Box e ee sz El enc rp lo pre (w7.setCell ⟨rp,pre.length,none⟩ v7) (q++[x]) v7:=by
 have hne:pv.ownBlock≠some rp:=fun e=>by have:=(h.row.block rp e).1;omega
 have hs:Same (fun b=>(lo<=b/\b<w.heap.size)/\pv.ownBlock≠some b) w (w7.setCell ⟨rp,pre.length,none⟩ v7):=fun b hb'=>(Below.heap_setCell w7 _ _ b (by have:=hb'.1.1;show b≠rp;omega)).trans (hk b hb'.1.2 hb'.2)
 have hm:∀ b,((lo<=b/\b<w.heap.size)/\pv.ownBlock≠some b)->((lo<=b/\b<(w7.setCell ⟨rp,pre.length,none⟩ v7).heap.size)/\v7.ownBlock≠some b):=fun b hb'=>⟨⟨hb'.1.1,by simp;exact Nat.lt_of_lt_of_le hb'.1.2 hz⟩,fun e=>by
  rcases hb b e with e | e
  ·exact hb'.2 e
  ·have:=hb'.1.2;omega⟩
 refine⟨?_,?_,fun y hy=>?_⟩
 ·have hb7:Blk w7 rp (pre++[pv]).toArray e:=(hk rp h.box.lt hne).trans h.box;exact hb7.set_to pre.length _ (by simp)
 ·rw[List.flatMap_append];exact(show Own w7 lo ee sz v7 (q.flatMap enc++[x].flatMap enc)from by simpa using ho).keepOwn fun g hg=>Below.heap_setCell _ _ _ _ (by have:=(ho.block g hg).1;show g≠rp;omega)
 ·rcases List.mem_append.1 hy with hy | hy
  ·exact hM (hE (h.parts y hy) hs) hm
  ·obtain rfl:=List.mem_singleton.1 hy;have h2:∀ b,(n0<=b/\b<w.heap.size)->((lo<=b/\b<w.heap.size)/\pv.ownBlock≠some b):=fun b hb'=>⟨⟨Nat.le_trans hn0 hb'.1,hb'.2⟩,fun e=>by have:=hpv b e;omega⟩;exact hM (hE (hM hr h2) hs) hm
end
def ElR (S:Nat->Prop)(w:World)(x:(ByteArray × RT) × Value):Prop:=RTAt S w x.1.2 x.2
def ElT (S:Nat->Prop)(w:World)(x:TyS × Value):Prop:=RelsAt S w x.1.rels x.2
theorem ElR.same {S:Nat->Prop} {w w':World} {x:(ByteArray × RT) × Value} (h:ElR S w x)(hs:Same S w w'):ElR S w' x:=RTAt.same h hs
theorem ElR.mono {S S':Nat->Prop} {w:World} {x:(ByteArray × RT) × Value} (h:ElR S w x)(hs:∀ b,S b->S' b):ElR S' w x:=RTAt.mono h hs
theorem ElT.same {S:Nat->Prop} {w w':World} {x:TyS × Value} (h:ElT S w x)(hs:Same S w w'):ElT S w' x:=RelsAt.same h hs
theorem ElT.mono {S S':Nat->Prop} {w:World} {x:TyS × Value} (h:ElT S w x)(hs:∀ b,S b->S' b):ElT S' w x:=RelsAt.mono h hs
abbrev TyBox:=Box (α:=(ByteArray × RT) × Value) 176 181 5 ElR relC
abbrev ScBox:=Box (α:=TyS × Value) 26 176 2 ElT tyC
theorem TyBox.keep {rp lo:Nat} {pre:List Value} {w w':World} {q:List ((ByteArray × RT) × Value)} {pv:Value} (h:TyBox rp lo pre w q pv)(hk:Kept (fun b=>b<w.heap.size/\lo<=b) w w')(hr:w'.heap[rp]?=w.heap[rp]?):TyBox rp lo pre w' q pv :=
 Box.keep (El:=ElR) (fun h hs=>h.same hs) (fun h hs=>h.mono hs) h hk hr
theorem TyBox.add {rp lo n0:Nat} {pre:List Value} {w w7:World} {q:List ((ByteArray × RT) × Value)} {pv v7:Value} {x:(ByteArray × RT) × Value} (h:TyBox rp lo pre w q pv)(hrl:rp<lo)(hk:∀ b,b<w.heap.size->pv.ownBlock≠some b->w7.heap[b]?=w.heap[b]?)(hz:w.heap.size<=w7.heap.size)
  (ho:Own w7 lo 181 5 v7 (q.flatMap relC++relC x)) (hb:∀ g,v7.ownBlock=some g->pv.ownBlock=some g\/w.heap.size<=g) (hr:ElR (fun b=>n0<=b/\b<w.heap.size) w x) (hn0:lo<=n0) (hpv:∀ g,pv.ownBlock=some g->g<n0) :
  TyBox rp lo pre (w7.setCell ⟨rp,pre.length,none⟩ v7) (q++[x]) v7 :=
 Box.add (El:=ElR) (fun h hs=>h.same hs) (fun h hs=>h.mono hs) h hrl hk hz ho hb hr hn0 hpv
theorem ScBox.keep {rp lo:Nat} {pre:List Value} {w w':World} {q:List (TyS × Value)} {pv:Value} (h:ScBox rp lo pre w q pv)(hk:Kept (fun b=>b<w.heap.size/\lo<=b) w w')(hr:w'.heap[rp]?=w.heap[rp]?):ScBox rp lo pre w' q pv :=
 Box.keep (El:=ElT) (fun h hs=>h.same hs) (fun h hs=>h.mono hs) h hk hr
theorem ScBox.add {rp lo n0:Nat} {pre:List Value} {w w7:World} {q:List (TyS × Value)} {pv v7:Value} {x:TyS × Value} (h:ScBox rp lo pre w q pv)(hrl:rp<lo)(hk:∀ b,b<w.heap.size->pv.ownBlock≠some b->w7.heap[b]?=w.heap[b]?)(hz:w.heap.size<=w7.heap.size)
  (ho:Own w7 lo 176 2 v7 (q.flatMap tyC++tyC x)) (hb:∀ g,v7.ownBlock=some g->pv.ownBlock=some g\/w.heap.size<=g) (hr:ElT (fun b=>n0<=b/\b<w.heap.size) w x) (hn0:lo<=n0) (hpv:∀ g,pv.ownBlock=some g->g<n0) :
  ScBox rp lo pre (w7.setCell ⟨rp,pre.length,none⟩ v7) (q++[x]) v7 :=
 Box.add (El:=ElT) (fun h hs=>h.same hs) (fun h hs=>h.mono hs) h hrl hk hz ho hb hr hn0 hpv
def nmD:ByteArray:=⟨#[100,111,99]⟩
def nmG:ByteArray:=⟨#[103,114,111,117,112]⟩
def nmU:ByteArray:=⟨#[117,115,101,114]⟩
def tyNs:List ByteArray:=[nmD,nmG,nmU]
def TopR (own:List ByteArray)(r:RT):Prop:=GoodR own 2 r\/∃ r0,GoodR own 2 r0/\r0.k≠4/\r = .mk 4 ⟨#[]⟩ ⟨#[]⟩ [.mk 1 ⟨#[]⟩ ⟨#[]⟩ [],r0]
def GoodT (t:TyS):Prop:=∃ m,2<=m/\m<=4/\t.rels.map (·.1)=relNs.take m/\∀ r∈t.rels,TopR (relNs.take m) r.2
def GoodS (ts:List TyS):Prop:=(ts.length=2\/ts.length=3)/\ts.map (·.name)=tyNs.take ts.length/\∀ t∈ts,GoodT t
theorem take_sl {w:World} {B:Nat} {S:Nat->Prop} {m:Nat} (h:Blk w B #[.string nmV,.string nmO,.string nmP,.string nmM] 9)(hm:m<=4)(hS:S B):Sl S w 1 (.slice (some ⟨B,0,none⟩) m 4) (txs (relNs.take m)):=by
 refine⟨some ⟨B,0,none⟩,m,4,rfl,?_,hm,by decide,fun e=>(by cases e),fun _=>⟨B,0,rfl,hS,fun j u hu=>?_⟩⟩
 ·rw[txs_length,List.length_take];show min m 4=_;omega
 ·rw[Nat.zero_add,h.cells];have hj:j<((txs (relNs.take m)).length):=(List.getElem?_eq_some_iff.1 hu).1;rw[txs_length,List.length_take]at hj;have hjm:j<m:=by omega
  have hj4:j<4:=Nat.lt_of_lt_of_le hjm hm;unfold txs at hu;rw[List.getElem?_map,List.getElem?_take_of_lt hjm]at hu;match j,hj4 with
  | 0,_=>exact hu
  | 1,_=>exact hu
  | 2,_=>exact hu
  | 3,_=>exact hu
theorem rel_names (i:Nat)(hi:i<3):∃ nm,tyNs[i]?=some nm:=⟨tyNs[i]'hi,List.getElem?_eq_getElem _⟩
theorem mkSchema_any (tp:Nat)(w:World)(h:Tp w tp):Calls Tryz.prog 69 #[.pointer (some ⟨tp,0,none⟩)] w fun e w'=>∃ (ts:List TyS)(tv:Value),e = .returned (.agg #[tv])/\GoodS ts/\TysAt (fun b=>w.heap.size<=b/\b<w'.heap.size) w' ts tv/\Tp w' tp/\KT tp w w':=by
 have HLT:=h! h.lt;obtain⟨wa,hwa⟩:∃ x,x=w.alloc (.cells #[.slice none 0 0] 26):=⟨_,rfl⟩;obtain⟨wb,hwb⟩:∃ x,x=wa.alloc (.cells #[.slice none 0 0] 26):=⟨_,rfl⟩;obtain⟨wc,hwc⟩:∃ x,x=wb.alloc (.cells #[.string nmD,.string nmG,.string nmU] 9):=⟨_,rfl⟩;have ea:wa.heap.size=w.heap.size+1:=by rw[hwa];simp
 have eb:wb.heap.size=w.heap.size+2:=by rw[hwb];simp[ea]
 have xa:Ext w wa:=by rw[hwa];exact Ext.alloc _ _
 have xb:Ext wa wb:=by rw[hwb];exact Ext.alloc _ _
 have xc:Ext wb wc:=by rw[hwc];exact Ext.alloc _ _
 have wcR:=h! (show Blk wc w.heap.size #[.slice none 0 0] 26 from Blk.below (by rw[hwa];exact Blk.made _ _ _) (xb.trans xc));have wcS:=h! (show Blk wc (w.heap.size+1) #[.slice none 0 0] 26 from Blk.below (by rw[hwb,<- ea];exact Blk.made _ _ _) xc);have wcN:=h! (show Blk wc (w.heap.size+2) #[.string nmD,.string nmG,.string nmU] 9 from by rw[hwc,<- eb];exact Blk.made _ _ _);have wcT:=h! (h.ext (xa.trans (xb.trans xc)));have wcK:=h! (KT.of (tp:=tp) (xa.trans (xb.trans xc)));have wcB:=h! (show ScBox (w.heap.size+1) (w.heap.size+3) [] wc [] (.slice none 0 0)from⟨wcS.out,Own.nil _ _ _ _,by simp⟩);clear xa xb xc ea eb h wcS;subst hwc hwb hwa;unfold nmD nmG nmU at *;go_enter Tryz.func69,Tryz.ntmps69
 go_wp2_with fail
 obtain⟨wc,hwc⟩:∃ x,x=((w.alloc (.cells #[.slice none 0 0] 26)).alloc (.cells #[.slice none 0 0] 26)).alloc (.cells #[.string ⟨#[100,111,99]⟩,.string ⟨#[103,114,111,117,112]⟩,.string ⟨#[117,115,101,114]⟩] 9):=⟨_,rfl⟩;rw[<- hwc]at wcR wcN wcT wcK wcB ⊢;clear hwc;go_loopw [5] (fun iv wr=>∃ (q:List (TyS × Value)) (tv:Value),iv = .int .i64 q.length/\q.length<=3/\ScBox (w.heap.size+1) (w.heap.size+3) [] wr q tv/\(q.map (·.1)).map (·.name)=tyNs.take q.length/\(∀ x∈q,GoodT x.1)/\Blk wr w.heap.size #[.slice none 0 0] 26/\Blk wr (w.heap.size+2) #[.string nmD,.string nmG,.string nmU] 9/\Tp wr tp/\KT tp w wr) (fun iv _=>3-(intOf iv).toNat)
 case atStart=>exact⟨[],_,rfl,by simp,wcB.out,rfl,by simp,wcR.out,wcN.out,wcT.out,wcK.out⟩
 case round =>
  obtain⟨q,tv,rfl,hq3,hbx,hnm,hgt,hbr,hbn,htp,hkt⟩:=hrel;have HNX:=h! (next_any tp 2 wr htp (by decide) (by decide));have HQ3:=h! hq3;have HNM:=h! hnm;have HGT:=h! hgt;have wrB:=h! hbx;have wrR:=h! hbr;have wrN:=h! hbn;have wrK:=h! hkt;clear wcR wcN wcT wcK wcB hbx hnm hgt hbr hbn htp hkt;generalize hql:q.length=i at *;have HQL:=h! hql;clear hql;go_wp2_with fail
  refine HNX.out.mono ?_;rintro e w1 ⟨k1,rfl,hk1,htp1,hkt1⟩;have w1B:=h! (ScBox.keep wrB.out (Kept.mono hkt1 fun b (hb:b<wr.heap.size/\w.heap.size+3<=b)=>⟨hb.1,by have:=HLT.out;omega⟩) (hkt1.block _ ⟨wrB.out.box.lt,by have:=HLT.out;omega⟩));have w1R:=h! (hkt1.blk wrR.out (by have:=HLT.out;omega));have w1N:=h! (hkt1.blk wrN.out (by have:=HLT.out;omega));have w1K:=h! (KT.trans wrK.out hkt1);have w1T:=h! htp1;clear htp1 hkt1 HNX wrB wrR wrN wrK;have hwk:wrap64 (2+(k1:Int))=2+(k1:Int):=wrap_in _ (by omega) (by omega);have hwk':IntKind.i64.wrap (2+(k1:Int))=2+(k1:Int):=IntWalk.i64_in _ (by omega);by_cases hlt:(i:Int)<2+(k1:Int)
  ·have HI3:=h! (show i<3 from by omega);have hi3:=HI3.out;obtain⟨nm,hnmi⟩:=rel_names i hi3
   have hnc:w1.cell? ⟨w.heap.size+2,i,none⟩=some (.string nm):=by
    rw[w1N.out.cells];match i,hi3,hnmi with
    | 0,_,h=>injection h with h;subst h;rfl
    | 1,_,h=>injection h with h;subst h;rfl
    | 2,_,h=>injection h with h;subst h;rfl
   have HNI:=h! hnmi;have hi0:(0:Int)<=(i:Int):=by omega
   have hi33:(i:Int)<3:=by omega
   have HK1:=h! hk1;clear hnmi;obtain⟨w2,hw2⟩:∃ x,x=w1.alloc (.cells #[.string nm,.slice none 0 0] 176):=⟨_,rfl⟩;have x12:Ext w1 w2:=by rw[hw2];exact Ext.alloc _ _
   have HRL:=h! (mkRels_any w2);have w2X:=h! (show Blk w2 w1.heap.size #[.string nm,.slice none 0 0] 176 from by rw[hw2];exact Blk.made _ _ _);have X12:=h! x12;subst hw2;clear x12;go_wp2_with fail
   refine HRL.out.mono ?_;rintro e w3 ⟨rfl,hb3,hx3⟩;have w3T:=h! (w1T.out.ext (Ext.trans X12.out hx3));have HNX:=h! (next_any tp 3 w3 w3T.out (by decide) (by decide));have X13:=h! (Ext.trans X12.out hx3);have w3X:=h! (w2X.out.below hx3);have w3L:=h! hb3;clear hb3 hx3 HRL w2X X12 hnc;go_wp2_with fail
   refine HNX.out.mono ?_;rintro e w4 ⟨k4,rfl,hk4,htp4,hkt4⟩;have w4T:=h! htp4;have HX1:=h! (show w.heap.size+3<=w1.heap.size from w1N.out.lt);have w4K':=h! (KT.trans (KT.of X13.out) hkt4);have w4X:=h! (hkt4.blk w3X.out (by have:=HLT.out;have:=HX1.out;omega));have w4L:=h! (hkt4.blk w3L.out (by have:=HLT.out;have:=HX1.out;simp;omega));clear htp4 hkt4 HNX w3X w3L w3T;have hm1:wrap64 (2+(k4:Int))=2+(k4:Int):=wrap_in _ (by omega) (by omega);have hm2:IntKind.i64.wrap (2+(k4:Int))=2+(k4:Int):=IntWalk.i64_in _ (by omega);have hm3:(0:Int)<=2+(k4:Int):=by omega
   have hm4:2+(k4:Int)<=4:=by omega
   go_wp2_with fail
   obtain⟨m,hm⟩:∃ m:Nat,m=2+k4:=⟨_,rfl⟩;have HM4:=h! (show 2<=m/\m<=4 from by omega);have em:(2:Int)+(k4:Int)=(m:Int):=by omega
   have eL:(w1.alloc (.cells #[.string nm,.slice none 0 0] 176)).heap.size=w1.heap.size+1:=by simp
   rw[em,<- hm];rw[eL]at w4L;clear em hm hm1 hm2 hm3 hm4 hk4 hwk hwk' hlt hi0 hi33 hi3 eL;have w4O:=h! (show Sl (fun b=>b<w4.heap.size/\b≠tp/\b≠w1.heap.size) w4 1 (.slice (some ⟨w1.heap.size+1,0,none⟩) m 4) (txs (relNs.take m))from take_sl w4L.out (by have:=HM4.out;omega) ⟨w4L.out.lt,by have:=HLT.out;have:=HX1.out;omega,by omega⟩);have w4B:=h! (show TyBox w1.heap.size w4.heap.size [.string nm] w4 [] (.slice none 0 0)from⟨w4X.out,Own.nil _ _ _ _,by simp⟩);have HZ4:=h! (show w1.heap.size<w4.heap.size from w4X.out.lt);clear w4X w4L X13 HK1;go_loopw [31] (fun iv wr=>∃ (j:Nat) (qr:List ((ByteArray × RT) × Value)) (rv:Value),j<=m/\iv = .int .i64 j/\qr.length=j/\TyBox w1.heap.size w4.heap.size [.string nm] wr qr rv/\(qr.map (·.1)).map (·.1)=(relNs.take m).take j/\(∀ x∈qr,TopR (relNs.take m) x.1.2)/\Tp wr tp/\Kept (fun b=>b<w4.heap.size/\b≠tp/\b≠w1.heap.size) w4 wr) (fun iv _=>m-(intOf iv).toNat)
   case atStart=>exact⟨0,[],_,by omega,rfl,rfl,w4B.out,rfl,by simp,w4T.out,Kept.refl _ _⟩
   case round =>
    obtain⟨j,qr,rv,hjm,rfl,hqr,htb,hqn,htop,htp,hkt⟩:=hrel;have HJM:=h! hjm;have HQR:=h! (show qr.length<=m from by omega);have HQJ:=h! hqr;have wrB:=h! htb;have HQN:=h! hqn;have HTP:=h! htop;have wrT:=h! htp;have wrK:=h! hkt;have wrZ:=h! (show w4.heap.size<=wr.heap.size from hkt.size);have HPO:=h! (fun g (e:rv.ownBlock=some g)=>htb.row.block g e);have wrO:=h! ((w4O.out.same fun b hb=>hkt.block b hb).mono (T:=fun b=>b<wr.heap.size/\b≠tp) fun b hb=>⟨Nat.lt_of_lt_of_le hb.1 hkt.size,hb.2.1⟩);obtain⟨aov,kv,cv,rfl,-,-,-⟩:=htb.row.sl.len;clear w4B w4T htb hqn htop htp hkt hqr;have hm44:=HM4.out;by_cases hjt:j<m
    ·have hjl:j<(relNs.take m).length:=by rw[List.length_take];show j<min m 4;omega
     have HLN:=h! (show(relNs.take m).length=m from by rw[List.length_take];show min m 4=m;omega);obtain⟨bo,oo,hbo,hbo2,hco⟩:=texts_at (l:=relNs.take m) (by rw[HLN.out];exact wrO.out) j hjl;cases hbo;rw[Nat.zero_add]at hco;have HJN:=h! (show(relNs.take m).take (j+1)=(relNs.take m).take j++[(relNs.take m)[j]]from List.take_succ_eq_append_getElem hjl);generalize (relNs.take m)[j]=n at *;have HRU:=h! (mkRule_any (relNs.take m) (by have:=HLN.out;omega) 2 0 tp _ wr wrT.out wrO.out (by decide) (.inl rfl));have HJT:=h! hjt;clear hjl hbo2 hjm;go_wp2_with fail
     refine HRU.out.mono ?_;rintro e w6 ⟨r,pv,rfl,hgr,hrk,hat,htp6,hkt6⟩;obtain⟨aop,cp,rfl,-,-,-⟩:=hat.rows;have HG6:=h! hgr;have x67:=Ext.alloc w6 (.cells #[.int .i64 r.k,.string r.a,.string r.b,.slice aop r.ps.length cp] 106);have HNX:=h! (next_any tp 3 _ (htp6.ext x67) (by decide) (by decide));have w7K0:=h! (KT.trans hkt6 (KT.of x67));have w7R0:=h! (Blk.made w6 #[.int .i64 r.k,.string r.a,.string r.b,.slice aop r.ps.length cp] 106);have HAT6:=h! (hat.same fun b hb=>x67.block b hb.2);have HZ6:=h! (show wr.heap.size<=w6.heap.size from hkt6.size);unfold rV;clear hgr hrk hat htp6 hkt6 x67 HRU hco;go_wp2_with fail
     refine HNX.out.mono ?_;rintro e w7 ⟨k7,rfl,hk7,htp7,hkt7⟩;have w7T:=h! htp7;have w7K1:=h! (KT.trans w7K0.out hkt7);have w710:=h! (hkt7.blk w7R0.out (by have:=HLT.out;have:=HX1.out;have:=HZ4.out;have:=wrZ.out;have:=HZ6.out;omega));have HAT7N:=h! (HAT6.out.same fun b (hb:wr.heap.size<=b/\b<w6.heap.size)=>hkt7.block b ⟨by simp;omega,by have:=HLT.out;have:=HX1.out;have:=HZ4.out;have:=wrZ.out;omega⟩);have HAT7:=h! ((HAT6.out.same fun b (hb:wr.heap.size<=b/\b<w6.heap.size)=>hkt7.block b ⟨by simp;omega,by have:=HLT.out;have:=HX1.out;have:=HZ4.out;have:=wrZ.out;omega⟩).mono (S':=fun b=>wr.heap.size<=b/\b<w7.heap.size) fun b hb=>⟨hb.1,by have:=hb.2;have:=hkt7.size;simp at this;omega⟩);have HZ7:=h! (show w6.heap.size<w7.heap.size from w710.out.lt);have w7B:=h! (wrB.out.keep (Kept.mono w7K1.out fun b (hb:b<wr.heap.size/\w4.heap.size<=b)=>⟨hb.1,by have:=HLT.out;have:=HX1.out;have:=HZ4.out;omega⟩) (w7K1.out.block _ ⟨wrB.out.box.lt,by have:=HLT.out;have:=HX1.out;omega⟩));have w7K:=h! (wrK.out.trans (w7K1.out.mono fun b (hb:b<w4.heap.size/\b≠tp/\b≠w1.heap.size)=>⟨by have:=wrZ.out;have:=hb.1;omega,hb.2.1⟩));have w7Z:=h! (show w4.heap.size<=w7.heap.size from by have:=wrZ.out;have:=HZ6.out;have:=HZ7.out;omega);have w7c:=w710.out.cells;have w7f:=w710.out.free;clear htp7 hkt7 HNX w7K0 w7R0 HAT6 wrK wrT wrO;by_cases hk1:k7=1
     ·subst hk1;by_cases hk4:r.k=4
      ·have hq1:(r.k == 4)=true:=by rw[hk4];rfl
       have hq2:(r.k != 4)=false:=by rw[hk4];rfl
       have HAT:=HAT7;clear hk7 hk4 HAT7 HAT7N w7K1 wrB w7f;have w7b:=w7B.out.box.cells 1;have w7f:=w7B.out.box.free;have w7c:=w710.out.cells;have X9:=h! (Ext.alloc w7 (.cells #[.string n,.int .i64 r.k,.string r.a,.string r.b,.slice aop r.ps.length cp] 181));have HTOP:=h! (show TopR (relNs.take m) (r)from .inl HG6.out);go_wp2_with (at_builtin;go_must (refine wpList_ownw relsElT rfl (.tmp 51) (.tmp 55) rfl rfl (w7B.out.row.below X9.out) rfl (m:=1) (news:=[.string n,.int .i64 r.k,.string r.a,.string r.b,.slice aop r.ps.length cp]) rfl (by intro j u hu;rw[Addr.add_lit,cell_of_row _ (w7.heap.size) (0+j) #[.string n,.int .i64 r.k,.string r.a,.string r.b,.slice aop r.ps.length cp] 181 (0,0) (heap_alloc_new w7 _)];simpa using hu) (by simp[Value.oneCell']) (by have:=HQR.out;have:=HM4.out;rw[flat_length relC_length];simp;omega) (by have:=HQR.out;have:=HM4.out;rw[flat_length relC_length];simp;omega) (by have:=w7Z.out;have:=X9.out.size;omega) ?_;intro v11 w11 hown11 hb11 hgr11;have HADD:=h! (w7B.out.add (n0:=wr.heap.size) (x:=((n,r),.slice aop r.ps.length cp)) (by have:=HZ4.out;omega) (fun b h1 h2=>(hgr11.block b (Nat.lt_of_lt_of_le h1 X9.out.size) (fun e=>h2 e.symm)).trans (X9.out.block b h1)) (Nat.le_trans X9.out.size hgr11.size) hown11 (fun g hg=>(hb11 g hg).imp id (fun h=>Nat.le_trans X9.out.size h)) HAT.out (by have:=wrZ.out;omega) (fun g hg=>(HPO.out g hg).2));have HK11:=h! (show Kept (fun b=>b<w7.heap.size/\Value.ownBlock (.slice aov kv cv)≠some b) w7 w11 from⟨hgr11.os.trans X9.out.os,hgr11.tape.trans X9.out.tape,hgr11.output.trans X9.out.output,Nat.le_trans X9.out.size hgr11.size,fun b hb=>(hgr11.block b (Nat.lt_of_lt_of_le hb.1 X9.out.size) (fun e=>hb.2 e.symm)).trans (X9.out.block b hb.1)⟩);have h11:=HK11.out.blk w7B.out.box ⟨w7B.out.box.lt,fun e=>by have:=(HPO.out _ e).1;have:=HZ4.out;omega⟩;have h11f:=Blk.free h11;have h11c:=Blk.cells h11 1;obtain⟨ao11,k11,c11,rfl,-,-,-⟩:=hown11.sl.len;clear hown11 hb11 hgr11 h11 w7b w7f w7c))
       go_roundw
       case rel=>exact⟨j+1,_,_,HJT.out,by go_num,by rw[List.length_append,HQJ.out];rfl,HADD.out,by rw[List.map_append,List.map_append,HQN.out,HJN.out];rfl,fun x hx=>by
        rcases List.mem_append.1 hx with hx | hx
        ·exact HTP.out x hx
        ·rw[List.mem_singleton.1 hx];exact HTOP.out,w7T.out.kept (K:=fun b=>b<w1.heap.size) ((HK11.out.mono fun b (hb:b<w1.heap.size)=>⟨by have:=HZ4.out;have:=w7Z.out;omega,fun e=>by have:=(HPO.out b e).1;have:=HZ4.out;omega⟩).set (fun h=>Nat.lt_irrefl _ h) _) (fun b hb=>by have:=HLT.out;have:=HX1.out;show b<w1.heap.size;omega),w7K.out.trans ((HK11.out.mono fun b (hb:b<w4.heap.size/\b≠tp/\b≠w1.heap.size)=>⟨by have:=w7Z.out;have:=hb.1;omega,fun e=>by have:=(HPO.out b e).1;have:=hb.1;omega⟩).set (fun h=>h.2.2 rfl) _)⟩
       case measure=>have:=HJT.out;simp[intOf];omega
      ·have hq1:(r.k == 4)=false:=by rw[beq_eq_false_iff_ne];exact hk4
       have hq2:(r.k != 4)=true:=by rw[bne_iff_ne];exact hk4
       have HK4:=h! hk4;obtain⟨w8,hw8⟩:∃ x,x=w7.alloc (.cells #[.int .i64 1,.string ⟨#[]⟩,.string ⟨#[]⟩,.slice none 0 0,.int .i64 r.k,.string r.a,.string r.b,.slice aop r.ps.length cp] 106):=⟨_,rfl⟩;have x78:Ext w7 w8:=by rw[hw8];exact Ext.alloc _ _
       have h810:=w710.out.below x78;obtain⟨w9,hw9⟩:∃ x,x=(((w8.setCell ⟨w6.heap.size,0,none⟩ (.int .i64 4)).setCell ⟨w6.heap.size,1,none⟩ (.string ⟨#[]⟩)).setCell ⟨w6.heap.size,2,none⟩ (.string ⟨#[]⟩)).setCell ⟨w6.heap.size,3,none⟩ (.slice (some ⟨w7.heap.size,0,none⟩) 2 2):=⟨_,rfl⟩;have hk89:Kept (fun b=>b≠w6.heap.size) w8 w9:=by rw[hw9];exact(Kept.refl _ w8).set4 (fun h=>h rfl) _ _ _ _
       have u10:=h! (show Blk w9 w6.heap.size #[.int .i64 4,.string ⟨#[]⟩,.string ⟨#[]⟩,.slice (some ⟨w7.heap.size,0,none⟩) 2 2] 106 from by rw[hw9];exact h810.set4 _ _ _ _);have hk79:Kept (fun b=>b<w7.heap.size/\b≠w6.heap.size) w7 w9:=(Below.kept x78 fun b hb=>hb.1).trans (hk89.mono fun b (hb:b<w7.heap.size/\b≠w6.heap.size)=>hb.2);have hsl:=(Own.lit w7 (Nat.le_refl w7.heap.size) 106 4 2 #[.int .i64 1,.string ⟨#[]⟩,.string ⟨#[]⟩,.slice none 0 0,.int .i64 r.k,.string r.a,.string r.b,.slice aop r.ps.length cp] rfl (by decide) (by decide)).sl;rw[<- hw8]at hsl
       have HAT:=h! (show RTAt (fun b=>wr.heap.size<=b/\b<w9.heap.size) w9 (.mk 4 ⟨#[]⟩ ⟨#[]⟩ [.mk 1 ⟨#[]⟩ ⟨#[]⟩ [],r]) (.slice (some ⟨w7.heap.size,0,none⟩) 2 2)from(RTAt.iff _ _).2 ⟨[(.mk 1 ⟨#[]⟩ ⟨#[]⟩ [],.slice none 0 0),(r,.slice aop r.ps.length cp)],rfl,fun x hx=>by
        simp only[List.mem_cons,List.not_mem_nil,or_false]at hx;rcases hx with rfl | rfl
        ·exact RTAt.leaf' _ _ rfl
        ·exact(HAT7N.out.same fun b (hb:wr.heap.size<=b/\b<w6.heap.size)=>hk79.block b ⟨by have:=HZ7.out;omega,by omega⟩).mono fun b hb=>⟨hb.1,by have:=hb.2;have:=HZ7.out;have:=hk79.size;omega⟩,(hsl.same fun b hb=>hk89.block b (by have:=hb.1;have:=HZ7.out;show b≠w6.heap.size;omega)).mono fun b hb=>⟨by have:=hb.1;have:=HZ7.out;have:=HZ6.out;omega,Nat.lt_of_lt_of_le hb.2 hk89.size⟩⟩)
       have uB:=h! (wrB.out.keep ((Kept.mono w7K1.out fun b (hb:b<wr.heap.size/\w4.heap.size<=b)=>⟨hb.1,by have:=HLT.out;have:=HX1.out;have:=HZ4.out;omega⟩).trans (hk79.mono fun b (hb:b<wr.heap.size/\w4.heap.size<=b)=>⟨by have:=HZ6.out;have:=HZ7.out;omega,by have:=HZ6.out;omega⟩)) ((hk79.block _ ⟨by have:=HZ4.out;have:=w7Z.out;omega,by have:=HZ4.out;have:=wrZ.out;have:=HZ6.out;omega⟩).trans (w7K1.out.block _ ⟨wrB.out.box.lt,by have:=HLT.out;have:=HX1.out;omega⟩)));have uT:=h! (w7T.out.kept hk79 fun b hb=>⟨by have:=w7T.out.lt;omega,by have:=HLT.out;have:=HX1.out;have:=HZ4.out;have:=wrZ.out;have:=HZ6.out;omega⟩);have uK:=h! (w7K.out.trans (hk79.mono fun b (hb:b<w4.heap.size/\b≠tp/\b≠w1.heap.size)=>⟨by have:=w7Z.out;have:=hb.1;omega,by have:=wrZ.out;have:=HZ6.out;have:=hb.1;omega⟩));have uZ:=h! (show w4.heap.size<=w9.heap.size from Nat.le_trans w7Z.out hk79.size);have w8c:=h810.cells;have w8f:=h810.free;clear hk7 hk4 hk79 hsl hk89 h810 x78 HAT7 HAT7N w7K1 wrB w7B w7T w7K w7Z w710;subst hw9 hw8;have ub:=uB.out.box.cells 1;have uf:=uB.out.box.free;have uc:=u10.out.cells;have X9:=h! (Ext.alloc (((((w7.alloc (.cells #[.int .i64 1,.string ⟨#[]⟩,.string ⟨#[]⟩,.slice none 0 0,.int .i64 r.k,.string r.a,.string r.b,.slice aop r.ps.length cp] 106)).setCell ⟨w6.heap.size,0,none⟩ (.int .i64 4)).setCell ⟨w6.heap.size,1,none⟩ (.string ⟨#[]⟩)).setCell ⟨w6.heap.size,2,none⟩ (.string ⟨#[]⟩)).setCell ⟨w6.heap.size,3,none⟩ (.slice (some ⟨w7.heap.size,0,none⟩) 2 2)) (.cells #[.string n,.int .i64 4,.string ⟨#[]⟩,.string ⟨#[]⟩,.slice (some ⟨w7.heap.size,0,none⟩) 2 2] 181));have HTOP:=h! (show TopR (relNs.take m) (.mk 4 ⟨#[]⟩ ⟨#[]⟩ [.mk 1 ⟨#[]⟩ ⟨#[]⟩ [],r])from .inr ⟨r,HG6.out,HK4.out,rfl⟩);go_wp2_with (at_builtin;go_must (refine wpList_ownw relsElT rfl (.tmp 51) (.tmp 55) rfl rfl (uB.out.row.below X9.out) rfl (m:=1) (news:=[.string n,.int .i64 4,.string ⟨#[]⟩,.string ⟨#[]⟩,.slice (some ⟨w7.heap.size,0,none⟩) 2 2]) rfl (by intro j u hu;rw[Addr.add_lit,cell_of_row _ (w7.heap.size+1) (0+j) #[.string n,.int .i64 4,.string ⟨#[]⟩,.string ⟨#[]⟩,.slice (some ⟨w7.heap.size,0,none⟩) 2 2] 181 (0,0) (by have h0:=heap_alloc_new (((((w7.alloc (.cells #[.int .i64 1,.string ⟨#[]⟩,.string ⟨#[]⟩,.slice none 0 0,.int .i64 r.k,.string r.a,.string r.b,.slice aop r.ps.length cp] 106)).setCell ⟨w6.heap.size,0,none⟩ (.int .i64 4)).setCell ⟨w6.heap.size,1,none⟩ (.string ⟨#[]⟩)).setCell ⟨w6.heap.size,2,none⟩ (.string ⟨#[]⟩)).setCell ⟨w6.heap.size,3,none⟩ (.slice (some ⟨w7.heap.size,0,none⟩) 2 2)) (.cells #[.string n,.int .i64 4,.string ⟨#[]⟩,.string ⟨#[]⟩,.slice (some ⟨w7.heap.size,0,none⟩) 2 2] 181);simpa using h0)];simpa using hu) (by simp[Value.oneCell']) (by have:=HQR.out;have:=HM4.out;rw[flat_length relC_length];simp;omega) (by have:=HQR.out;have:=HM4.out;rw[flat_length relC_length];simp;omega) (by have:=uZ.out;have:=X9.out.size;omega) ?_;intro v11 w11 hown11 hb11 hgr11;have HADD:=h! (uB.out.add (n0:=wr.heap.size) (x:=((n,.mk 4 ⟨#[]⟩ ⟨#[]⟩ [.mk 1 ⟨#[]⟩ ⟨#[]⟩ [],r]),.slice (some ⟨w7.heap.size,0,none⟩) 2 2)) (by have:=HZ4.out;omega) (fun b h1 h2=>(hgr11.block b (Nat.lt_of_lt_of_le h1 X9.out.size) (fun e=>h2 e.symm)).trans (X9.out.block b h1)) (Nat.le_trans X9.out.size hgr11.size) hown11 (fun g hg=>(hb11 g hg).imp id (fun h=>Nat.le_trans X9.out.size h)) HAT.out (by have:=wrZ.out;omega) (fun g hg=>(HPO.out g hg).2));have HK11:=h! (show Kept (fun b=>b<(((((w7.alloc (.cells #[.int .i64 1,.string ⟨#[]⟩,.string ⟨#[]⟩,.slice none 0 0,.int .i64 r.k,.string r.a,.string r.b,.slice aop r.ps.length cp] 106)).setCell ⟨w6.heap.size,0,none⟩ (.int .i64 4)).setCell ⟨w6.heap.size,1,none⟩ (.string ⟨#[]⟩)).setCell ⟨w6.heap.size,2,none⟩ (.string ⟨#[]⟩)).setCell ⟨w6.heap.size,3,none⟩ (.slice (some ⟨w7.heap.size,0,none⟩) 2 2)).heap.size/\Value.ownBlock (.slice aov kv cv)≠some b) (((((w7.alloc (.cells #[.int .i64 1,.string ⟨#[]⟩,.string ⟨#[]⟩,.slice none 0 0,.int .i64 r.k,.string r.a,.string r.b,.slice aop r.ps.length cp] 106)).setCell ⟨w6.heap.size,0,none⟩ (.int .i64 4)).setCell ⟨w6.heap.size,1,none⟩ (.string ⟨#[]⟩)).setCell ⟨w6.heap.size,2,none⟩ (.string ⟨#[]⟩)).setCell ⟨w6.heap.size,3,none⟩ (.slice (some ⟨w7.heap.size,0,none⟩) 2 2)) w11 from⟨hgr11.os.trans X9.out.os,hgr11.tape.trans X9.out.tape,hgr11.output.trans X9.out.output,Nat.le_trans X9.out.size hgr11.size,fun b hb=>(hgr11.block b (Nat.lt_of_lt_of_le hb.1 X9.out.size) (fun e=>hb.2 e.symm)).trans (X9.out.block b hb.1)⟩);have h11:=HK11.out.blk uB.out.box ⟨uB.out.box.lt,fun e=>by have:=(HPO.out _ e).1;have:=HZ4.out;omega⟩;have h11f:=Blk.free h11;have h11c:=Blk.cells h11 1;obtain⟨ao11,k11,c11,rfl,-,-,-⟩:=hown11.sl.len;clear hown11 hb11 hgr11 h11 ub uf uc))
       go_roundw
       case rel=>exact⟨j+1,_,_,HJT.out,by go_num,by rw[List.length_append,HQJ.out];rfl,HADD.out,by rw[List.map_append,List.map_append,HQN.out,HJN.out];rfl,fun x hx=>by
        rcases List.mem_append.1 hx with hx | hx
        ·exact HTP.out x hx
        ·rw[List.mem_singleton.1 hx];exact HTOP.out,uT.out.kept (K:=fun b=>b<w1.heap.size) ((HK11.out.mono fun b (hb:b<w1.heap.size)=>⟨by have:=HZ4.out;have:=uZ.out;omega,fun e=>by have:=(HPO.out b e).1;have:=HZ4.out;omega⟩).set (fun h=>Nat.lt_irrefl _ h) _) (fun b hb=>by have:=HLT.out;have:=HX1.out;show b<w1.heap.size;omega),uK.out.trans ((HK11.out.mono fun b (hb:b<w4.heap.size/\b≠tp/\b≠w1.heap.size)=>⟨by have:=uZ.out;have:=hb.1;omega,fun e=>by have:=(HPO.out b e).1;have:=hb.1;omega⟩).set (fun h=>h.2.2 rfl) _)⟩
       case measure=>have:=HJT.out;simp[intOf];omega
     ·have hk1':((k7:Int) == 1)=false:=by rw[beq_eq_false_iff_ne];omega
      have HAT:=HAT7;clear hk7 hk1 HAT7 HAT7N w7K1 wrB w7f;have w7b:=w7B.out.box.cells 1;have w7f:=w7B.out.box.free;have w7c:=w710.out.cells;have X9:=h! (Ext.alloc w7 (.cells #[.string n,.int .i64 r.k,.string r.a,.string r.b,.slice aop r.ps.length cp] 181));have HTOP:=h! (show TopR (relNs.take m) (r)from .inl HG6.out);go_wp2_with (at_builtin;go_must (refine wpList_ownw relsElT rfl (.tmp 51) (.tmp 55) rfl rfl (w7B.out.row.below X9.out) rfl (m:=1) (news:=[.string n,.int .i64 r.k,.string r.a,.string r.b,.slice aop r.ps.length cp]) rfl (by intro j u hu;rw[Addr.add_lit,cell_of_row _ (w7.heap.size) (0+j) #[.string n,.int .i64 r.k,.string r.a,.string r.b,.slice aop r.ps.length cp] 181 (0,0) (heap_alloc_new w7 _)];simpa using hu) (by simp[Value.oneCell']) (by have:=HQR.out;have:=HM4.out;rw[flat_length relC_length];simp;omega) (by have:=HQR.out;have:=HM4.out;rw[flat_length relC_length];simp;omega) (by have:=w7Z.out;have:=X9.out.size;omega) ?_;intro v11 w11 hown11 hb11 hgr11;have HADD:=h! (w7B.out.add (n0:=wr.heap.size) (x:=((n,r),.slice aop r.ps.length cp)) (by have:=HZ4.out;omega) (fun b h1 h2=>(hgr11.block b (Nat.lt_of_lt_of_le h1 X9.out.size) (fun e=>h2 e.symm)).trans (X9.out.block b h1)) (Nat.le_trans X9.out.size hgr11.size) hown11 (fun g hg=>(hb11 g hg).imp id (fun h=>Nat.le_trans X9.out.size h)) HAT.out (by have:=wrZ.out;omega) (fun g hg=>(HPO.out g hg).2));have HK11:=h! (show Kept (fun b=>b<w7.heap.size/\Value.ownBlock (.slice aov kv cv)≠some b) w7 w11 from⟨hgr11.os.trans X9.out.os,hgr11.tape.trans X9.out.tape,hgr11.output.trans X9.out.output,Nat.le_trans X9.out.size hgr11.size,fun b hb=>(hgr11.block b (Nat.lt_of_lt_of_le hb.1 X9.out.size) (fun e=>hb.2 e.symm)).trans (X9.out.block b hb.1)⟩);have h11:=HK11.out.blk w7B.out.box ⟨w7B.out.box.lt,fun e=>by have:=(HPO.out _ e).1;have:=HZ4.out;omega⟩;have h11f:=Blk.free h11;have h11c:=Blk.cells h11 1;obtain⟨ao11,k11,c11,rfl,-,-,-⟩:=hown11.sl.len;clear hown11 hb11 hgr11 h11 w7b w7f w7c))
      go_roundw
      case rel=>exact⟨j+1,_,_,HJT.out,by go_num,by rw[List.length_append,HQJ.out];rfl,HADD.out,by rw[List.map_append,List.map_append,HQN.out,HJN.out];rfl,fun x hx=>by
       rcases List.mem_append.1 hx with hx | hx
       ·exact HTP.out x hx
       ·rw[List.mem_singleton.1 hx];exact HTOP.out,w7T.out.kept (K:=fun b=>b<w1.heap.size) ((HK11.out.mono fun b (hb:b<w1.heap.size)=>⟨by have:=HZ4.out;have:=w7Z.out;omega,fun e=>by have:=(HPO.out b e).1;have:=HZ4.out;omega⟩).set (fun h=>Nat.lt_irrefl _ h) _) (fun b hb=>by have:=HLT.out;have:=HX1.out;show b<w1.heap.size;omega),w7K.out.trans ((HK11.out.mono fun b (hb:b<w4.heap.size/\b≠tp/\b≠w1.heap.size)=>⟨by have:=w7Z.out;have:=hb.1;omega,fun e=>by have:=(HPO.out b e).1;have:=hb.1;omega⟩).set (fun h=>h.2.2 rfl) _)⟩
      case measure=>have:=HJT.out;simp[intOf];omega
    ·obtain rfl:j=m:=by omega
     have h1r:Kept (fun b=>b<w1.heap.size/\b≠tp) w1 wr:=Kept.trans w4K'.out (wrK.out.mono fun b (hb:b<w1.heap.size/\b≠tp)=>⟨by have:=HZ4.out;have:=hb.1;omega,hb.2,by have:=hb.1;omega⟩);have wrS:=h! (w1B.out.keep (h1r.mono fun b (hb:b<w1.heap.size/\w.heap.size+3<=b)=>⟨hb.1,by have:=HLT.out;omega⟩) (h1r.block _ ⟨w1B.out.box.lt,by have:=HLT.out;omega⟩));have wrN:=h! (h1r.blk w1N.out ⟨w1N.out.lt,by have:=HLT.out;omega⟩);have wrR:=h! (h1r.blk w1R.out ⟨w1R.out.lt,by have:=HLT.out;omega⟩);have wrKT:=h! (Kept.trans w1K.out (h1r.mono fun b (hb:b<w.heap.size/\b≠tp)=>⟨by have:=HX1.out;have:=hb.1;omega,hb.2⟩))
     have HGT2:=h! (show GoodT (⟨nm,qr.map (·.1)⟩:TyS)from⟨j,HM4.out.1,HM4.out.2,by have:=HQN.out;rw[List.take_take,Nat.min_self]at this;exact this,fun r hr=>by
      obtain⟨x,hx,rfl⟩:=List.mem_map.1 hr;exact HTP.out x hx⟩)
     have HEL:=h! (show ElT (fun b=>w4.heap.size<=b/\b<wr.heap.size) wr ((⟨nm,qr.map (·.1)⟩:TyS),.slice aov kv cv)from⟨qr,rfl,fun x hx=>(wrB.out.parts x hx).mono fun b hb=>hb.1,wrB.out.row.sl⟩);have HPT:=h! (fun g (e:tv.ownBlock=some g)=>w1B.out.row.block g e);obtain⟨aot,kt,ct,rfl,-,-,-⟩:=w1B.out.row.sl.len;have wrc:=wrB.out.box.cells;have wrs:=wrS.out.box.cells 0;have wrf:=wrS.out.box.free;have X9:=h! (Ext.alloc wr (.cells #[.string nm,.slice aov kv cv] 176));clear h1r w1B w1N w1R w1K w4K' wrB hjt hjm wrO w4O;go_wp2_with (at_builtin;go_must (refine wpList_ownw tysT rfl (.tmp 60) (.tmp 62) rfl rfl (wrS.out.row.below X9.out) rfl (m:=1) (news:=[.string nm,.slice aov kv cv]) rfl (by intro j u hu;rw[Addr.add_lit,cell_of_row _ wr.heap.size (0+j) #[.string nm,.slice aov kv cv] 176 (0,0) (heap_alloc_new wr _)];simpa using hu) (by simp[Value.oneCell']) (by have:=HQL.out;have:=HQ3.out;rw[flat_length tyC_length];simp;omega) (by have:=HQL.out;have:=HQ3.out;rw[flat_length tyC_length];simp;omega) (by have:=HX1.out;have:=HZ4.out;have:=wrZ.out;have:=X9.out.size;omega) ?_;intro v11 w11 hown11 hb11 hgr11;have HADD:=h! (wrS.out.add (n0:=w4.heap.size) (x:=((⟨nm,qr.map (·.1)⟩:TyS),.slice aov kv cv)) (Nat.lt_succ_of_lt (Nat.lt_succ_self _)) (fun b h1 h2=>(hgr11.block b (Nat.lt_of_lt_of_le h1 X9.out.size) (fun e=>h2 e.symm)).trans (X9.out.block b h1)) (Nat.le_trans X9.out.size hgr11.size) hown11 (fun g hg=>(hb11 g hg).imp id (fun h=>Nat.le_trans X9.out.size h)) HEL.out (by have:=HX1.out;have:=HZ4.out;omega) (fun g hg=>by have:=(HPT.out g hg).2;have:=HZ4.out;omega));have HK11:=h! (show Kept (fun b=>b<wr.heap.size/\Value.ownBlock (.slice aot kt ct)≠some b) wr w11 from⟨hgr11.os.trans X9.out.os,hgr11.tape.trans X9.out.tape,hgr11.output.trans X9.out.output,Nat.le_trans X9.out.size hgr11.size,fun b hb=>(hgr11.block b (Nat.lt_of_lt_of_le hb.1 X9.out.size) (fun e=>hb.2 e.symm)).trans (X9.out.block b hb.1)⟩);have h11:=HK11.out.blk wrS.out.box ⟨wrS.out.box.lt,fun e=>by have:=(HPT.out _ e).1;omega⟩;have h11f:=Blk.free h11;have h11c:=Blk.cells h11 0;obtain⟨ao11,k11,c11,rfl,-,-,-⟩:=hown11.sl.len;clear hown11 hb11 hgr11 h11 wrc wrs wrf))
     have HL11:=h! (show Kept (fun b=>b<w.heap.size+3/\b≠w.heap.size+1) wr (w11.setCell ⟨w.heap.size+1,0,none⟩ (.slice ao11 k11 c11))from(HK11.out.mono fun b (hb:b<w.heap.size+3/\b≠w.heap.size+1)=>⟨by have:=HX1.out;have:=HZ4.out;have:=wrZ.out;have:=hb.1;omega,fun e=>by have:=(HPT.out b e).1;have:=hb.1;omega⟩).set (fun h=>h.2 rfl) _);go_roundw
     case rel=>exact⟨q++[((⟨nm,qr.map (·.1)⟩:TyS),.slice aov kv cv)],_,by rw[List.length_append,HQL.out];go_num,by rw[List.length_append,HQL.out];exact HI3.out,HADD.out,by
      rw[List.map_append,List.map_append,HNM.out,List.length_append,HQL.out];show _=tyNs.take (i+1)
      rw[List.take_add_one,HNI.out];rfl,fun x hx=>by
      rcases List.mem_append.1 hx with hx | hx
      ·exact HGT.out x hx
      ·rw[List.mem_singleton.1 hx];exact HGT2.out,HL11.out.blk wrR.out ⟨by omega,by omega⟩,HL11.out.blk wrN.out ⟨by omega,by omega⟩,wrT.out.kept HL11.out (fun b hb=>⟨by have:=HLT.out;omega,by have:=HLT.out;omega⟩),Kept.trans wrKT.out (HL11.out.mono fun b (hb:b<w.heap.size/\b≠tp)=>⟨by have:=hb.1;omega,by have:=hb.1;omega⟩)⟩
     case measure=>have:=HI3.out;simp[intOf];omega
  ·have HI2:=h! (show i=2\/i=3 from by have:=HQ3.out;omega);obtain⟨aot,kt,ct,rfl,-,-,-⟩:=w1B.out.row.sl.len;have c1:=w1B.out.box.cells 0;have r1:=w1R.out.cells 0;have f1:=w1R.out.free;go_wp2_with fail
   clear c1 r1 f1;have hks:Kept (fun b=>b≠w.heap.size) w1 (w1.setCell ⟨w.heap.size,0,none⟩ (.slice aot kt ct)):=(Kept.refl _ w1).set (fun h=>h rfl) _;refine bodyPost_ret (results_cell_row rfl _ _ w.heap.size 26 #[.slice aot kt ct] (0,0) _ rfl (w1R.out.set_to 0 _ rfl) Tryz.underlying26 rfl (by kernel_rfl)) rfl ?_;refine⟨q.map (·.1),.slice aot kt ct,rfl,⟨by have:=HI2.out;rw[List.length_map,HQL.out];exact this,by rw[HNM.out,List.length_map,HQL.out],fun t ht=>?_⟩,⟨q,rfl,fun x hx=>?_,?_⟩,w1T.out.kept hks (fun b hb=>by have:=HLT.out;show b≠w.heap.size;omega),w1K.out.set (fun h=>Nat.lt_irrefl _ h.1) _⟩
   ·obtain⟨x,hx,rfl⟩:=List.mem_map.1 ht;exact HGT.out x hx
   ·exact((w1B.out.parts x hx).same fun b hb=>hks.block b (by have:=hb.1.1;show b≠w.heap.size;omega)).mono fun b hb=>⟨by have:=hb.1.1;omega,Nat.lt_of_lt_of_le hb.1.2 hks.size⟩
   ·exact(w1B.out.row.sl.same fun b hb=>hks.block b (by have:=hb.1;show b≠w.heap.size;omega)).mono fun b hb=>⟨by have:=hb.1;omega,Nat.lt_of_lt_of_le hb.2 hks.size⟩
theorem rel_own:∀ n∈relNs,ownB n=true/\n≠(⟨#[116,121,112,101]⟩:ByteArray)/\n.size<=6:=by
 intro n hn;have h:(relNs.all fun n=>ownB n&&decide (n≠(⟨#[116,121,112,101]⟩:ByteArray))&&decide (n.size<=6))=true:=by kernel_rfl
 have:=List.all_eq_true.1 h n hn;simp only[Bool.and_eq_true,decide_eq_true_eq]at this;exact⟨this.1.1,this.1.2,this.2⟩
theorem ty_own:∀ n∈tyNs,ownB n=true/\n.size<=6:=by
 intro n hn;have h:(tyNs.all fun n=>ownB n&&decide (n.size<=6))=true:=by kernel_rfl
 have:=List.all_eq_true.1 h n hn;simp only[Bool.and_eq_true,decide_eq_true_eq]at this;exact this
theorem rel_nodup:relNs.Nodup:=of_decide_eq_true (by kernel_rfl)
theorem ty_nodup:tyNs.Nodup:=of_decide_eq_true (by kernel_rfl)
structure FineR (ts:List TyS)(t:TyS)(d n m:Nat)(r:RT):Prop where
 text:∀ k,k+d<=8->r.textOk k=true
 sz:r.sz<=n
 bk:r.bk<=m
 ok:r.Ok
 named:r.named ts t=true
theorem sumN_le {α:Type} (f:α->Nat)(D:Nat):∀ l:List α,(∀ x∈l,f x<=D)->sumN f l<=l.length*D
 | [],_=>by simp[sumN]
 | a::l,h=>by
  rw[sumN,List.length_cons,Nat.add_mul,Nat.one_mul];have:=sumN_le f D l fun x hx=>h x (List.mem_cons_of_mem _ hx);have:=h a List.mem_cons_self;omega
theorem szL_sum (l:List RT):szL l=sumN RT.sz l:=by
 induction l with
 | nil=>rfl
 | cons x l ih=>rw[szL,sumN,ih]
theorem FineR.leaf {ts:List TyS} {t:TyS} {own:List ByteArray} (hs:∀ n∈own,n∈relNs)(hh:∀ n∈own,hasT t n=true)(ha:∀ n∈relNs.take 2,anyT ts n=true)(d:Nat) {r:RT} (h:LeafR own r):FineR ts t d 1 17 r:=by
 have h0:(⟨#[]⟩:ByteArray).size=0:=rfl;rcases h with rfl | ⟨a,h1,rfl⟩ | ⟨a,h1,b,h2,rfl⟩
 ·refine⟨fun k _=>?_,?_,?_,?_,?_⟩
  ·rw[RT.textOk];rfl
  ·rw[RT.sz];simp[szL]
  ·rw[RT.bk,bkL,h0];omega
  ·rw[RT.Ok,okL,h0];exact⟨by omega,by omega,by omega,trivial⟩
  ·rw[RT.named];simp[namedL,headOk]
 ·obtain⟨o1,o2,o3⟩:=rel_own a (hs a h1);refine⟨fun k _=>?_,?_,?_,?_,?_⟩
  ·rw[RT.textOk,if_neg (by decide),if_pos rfl,o1];rfl
  ·rw[RT.sz];simp[szL]
  ·rw[RT.bk,bkL,h0];omega
  ·rw[RT.Ok,okL,h0];exact⟨by omega,by omega,by omega,trivial⟩
  ·rw[RT.named];simp[namedL,headOk,hh a h1]
 ·obtain⟨o1,o2,o3⟩:=rel_own a (hs a h1);obtain⟨p1,p2,p3⟩:=rel_own b (List.take_subset 2 relNs h2);refine⟨fun k _=>?_,?_,?_,?_,?_⟩
  ·rw[RT.textOk,if_neg (by decide),if_neg (by decide),if_pos rfl,o1,p1];rfl
  ·rw[RT.sz];simp[szL]
  ·rw[RT.bk,bkL];omega
  ·rw[RT.Ok,okL];exact⟨by omega,by omega,by omega,trivial⟩
  ·rw[RT.named];simp[namedL,headOk,hh a h1,ha b h2]
theorem FineR.group {ts:List TyS} {t:TyS} {d n m:Nat} {k:Int} (hk:k=4\/k=5) {ps:List RT} (hl:2<=ps.length/\ps.length<=3)(h:∀ p∈ps,FineR ts t d n m p/\p.k≠k):FineR ts t (d+1) (1+3*n) (5+3*m) (.mk k ⟨#[]⟩ ⟨#[]⟩ ps):=by
 refine⟨fun j hj=>?_,?_,?_,?_,?_⟩
 ·rw[RT.textOk,if_neg (by omega),if_neg (by omega),if_neg (by omega),if_pos hk,decide_eq_true hl.1,textL_eq]
  have:ps.all (goodP k j)=true:=List.all_eq_true.2 fun p hp=>by
   have hi:innerD k p.k j<=j+1:=by unfold innerD;split <;> omega
   unfold goodP;rw[decide_eq_true (h p hp).2,decide_eq_true (show innerD k p.k j<=8 by omega),(h p hp).1.text _ (by omega)];rfl
  rw[this];rfl
 ·rw[RT.sz,szL_sum];have:=sumN_le RT.sz n ps fun p hp=>(h p hp).1.sz;have:=Nat.mul_le_mul_right n hl.2;omega
 ·rw[RT.bk,bkL_sum];have:=sumN_le RT.bk m ps fun p hp=>(h p hp).1.bk;have:=Nat.mul_le_mul_right m hl.2;have h0:(⟨#[]⟩:ByteArray).size=0:=rfl;omega
 ·rw[RT.Ok];have h0:(⟨#[]⟩:ByteArray).size=0:=rfl;exact⟨by omega,by omega,by omega,okL_mem.2 fun p hp=>(h p hp).1.ok⟩
 ·rw[RT.named,namedL_eq]
  have h1:headOk ts t k ⟨#[]⟩ ⟨#[]⟩=true:=by
   unfold headOk;rcases hk with rfl | rfl <;> rfl
  rw[h1,Bool.true_and];exact List.all_eq_true.2 fun p hp=>(h p hp).1.named
theorem FineR.mono {ts:List TyS} {t:TyS} {d n m d' n' m':Nat} {r:RT} (h:FineR ts t d n m r)(hd:d<=d')(hn:n<=n')(hm:m<=m'):FineR ts t d' n' m' r:=⟨fun k hk=>h.text k (by omega),Nat.le_trans h.sz hn,Nat.le_trans h.bk hm,h.ok,h.named⟩
section
variable {ts : List TyS} {t : TyS} {own : List ByteArray} (hs : ∀ n ∈ own, n ∈ relNs) (hh : ∀ n ∈ own, hasT t n = true) (ha : ∀ n ∈ relNs.take 2, anyT ts n = true)
include hs hh ha
theorem GoodR.fine0 {r:RT} (h:GoodR own 0 r):FineR ts t 0 1 17 r:=FineR.leaf hs hh ha 0 h
theorem GoodR.fine1 {r:RT} (h:GoodR own 1 r):FineR ts t 1 4 56 r:=by
 rcases h with h | ⟨k,ps,rfl,hk,hl,hp⟩
 ·exact(FineR.leaf hs hh ha 1 h).mono (by omega) (by omega) (by omega)
 ·exact(FineR.group hk (by omega) fun p hx=>⟨GoodR.fine0 hs hh ha (hp p hx).1,(hp p hx).2⟩).mono (by omega) (by omega) (by omega)
theorem GoodR.fine2 {r:RT} (h:GoodR own 2 r):FineR ts t 2 13 173 r:=by
 rcases h with h | ⟨k,ps,rfl,hk,hl,hp⟩
 ·exact(FineR.leaf hs hh ha 2 h).mono (by omega) (by omega) (by omega)
 ·exact(FineR.group hk (by omega) fun p hx=>⟨GoodR.fine1 hs hh ha (hp p hx).1,(hp p hx).2⟩).mono (by omega) (by omega) (by omega)
theorem TopR.fine {r:RT} (h:TopR own r):FineR ts t 3 32 524 r/\r.sz<=15:=by
 rcases h with h | ⟨r0,h0,hk,rfl⟩
 ·have:=GoodR.fine2 hs hh ha h;exact⟨this.mono (by omega) (by omega) (by omega),Nat.le_trans this.sz (by omega)⟩
 ·have h2:=GoodR.fine2 hs hh ha h0;have h1:=(FineR.leaf hs hh ha 2 (r := .mk 1 ⟨#[]⟩ ⟨#[]⟩ []) (.inl rfl))
  have hsz:(RT.mk 4 ⟨#[]⟩ ⟨#[]⟩ [.mk 1 ⟨#[]⟩ ⟨#[]⟩ [],r0]).sz<=15:=by
   rw[RT.sz,szL,szL,szL];have:=h1.sz;have:=h2.sz;omega
  have:=FineR.group (ts:=ts) (t:=t) (k:=4) (.inl rfl) (ps:=[.mk 1 ⟨#[]⟩ ⟨#[]⟩ [],r0]) (by simp) (d:=2) (n:=13) (m:=173) fun p hp=>by
   simp only[List.mem_cons,List.not_mem_nil,or_false]at hp;rcases hp with rfl | rfl
   ·exact⟨h1.mono (by omega) (by omega) (by omega),by simp[RT.k]⟩
   ·exact⟨h2,hk⟩
  exact⟨⟨this.text,Nat.le_trans hsz (by omega),Nat.le_trans this.bk (by omega),this.ok,this.named⟩,hsz⟩
end
structure FineS (ts:List TyS):Prop where
 chk:chk06 ts=0
 ok:∀ t∈ts,t.Ok
 bk:schBk ts<=10000
 two:2<=ts.length/\ts.length<=3
 rels:∀ t∈ts,2<=t.rels.length/\t.rels.length<=4
theorem GoodS.fine {ts:List TyS} (h:GoodS ts):FineS ts:=by
 obtain⟨hl,hn,hg⟩:=h
 have hany:∀ n∈relNs.take 2,anyT ts n=true:=fun n hn2=>by
  have h0:0<ts.length:=by omega
  obtain⟨m,hm2,hm4,hr,_⟩:=hg ts[0] (List.getElem_mem h0);refine List.any_eq_true.2 ⟨ts[0],List.getElem_mem h0,?_⟩
  have:n∈ts[0].rels.map (·.1):=by
   rw[hr];exact List.take_subset_take_left relNs hm2 hn2
  obtain⟨x,hx,rfl⟩:=List.mem_map.1 this;exact List.any_eq_true.2 ⟨x,hx,decide_eq_true rfl⟩
 have hfine:∀ t∈ts,(∀ n∈t.rels.map (·.1),n∈relNs)/\(t.rels.map (·.1)).Nodup/\(2<=t.rels.length/\t.rels.length<=4)/\∀ r∈t.rels,FineR ts t 3 32 524 r.2/\r.2.sz<=15:=fun t ht=>by
  obtain⟨m,hm2,hm4,hr,hp⟩:=hg t ht
  have hlen:t.rels.length=m:=by
   have:=congrArg List.length hr;rw[List.length_map,List.length_take]at this;have h4:relNs.length=4:=rfl;omega
  refine⟨fun n hn=>by rw[hr]at hn;exact List.take_subset m relNs hn,by rw[hr];exact rel_nodup.sublist (List.take_sublist m relNs),by omega,fun r hr'=>?_⟩;refine TopR.fine (own:=relNs.take m) (fun n hn=>List.take_subset m relNs hn) (fun n hn=>?_) hany (hp r hr');rw[<- hr]at hn;obtain⟨x,hx,rfl⟩:=List.mem_map.1 hn;exact List.any_eq_true.2 ⟨x,hx,decide_eq_true rfl⟩
 have hnm:∀ t∈ts,ownB t.name=true/\t.name.size<=6:=fun t ht=>ty_own _ (by
  have:t.name∈ts.map (·.name):=List.mem_map_of_mem ht;rw[hn]at this;exact List.take_subset _ _ this)
 have hrn:∀ t∈ts,∀ r∈t.rels,ownB r.1=true/\r.1≠(⟨#[116,121,112,101]⟩:ByteArray)/\r.1.size<=6:=fun t ht r hr=>rel_own _ ((hfine t ht).1 _ (List.mem_map_of_mem hr))
 have hprint:printOk ts=true:=List.all_eq_true.2 fun t ht=>by
  unfold tyOk;rw[(hnm t ht).1,Bool.true_and];refine List.all_eq_true.2 fun r hr=>?_;unfold relOk;rw[((hfine t ht).2.2.2 r hr).1.text 0 (by omega),(hrn t ht r hr).1,decide_eq_true (hrn t ht r hr).2.1];rfl
 have hlong:longOk ts=true:=by
  unfold longOk;rw[decide_eq_true (show ts.length<=16 by omega),Bool.true_and];refine List.all_eq_true.2 fun t ht=>?_;unfold tyLong;rw[decide_eq_true (show t.rels.length<=16 by have:=(hfine t ht).2.2.1.2;omega),Bool.true_and];exact List.all_eq_true.2 fun r hr=>decide_eq_true ((hfine t ht).2.2.2 r hr).1.sz
 have huniq:uniqOk ts=true:=by
  unfold uniqOk;rw[hn,decide_eq_true (ty_nodup.sublist (List.take_sublist _ _)),Bool.true_and];exact List.all_eq_true.2 fun t ht=>decide_eq_true (hfine t ht).2.1
 have hnames:namesOk ts=true:=by
  unfold namesOk;exact List.all_eq_true.2 fun t ht=>List.all_eq_true.2 fun r hr=>((hfine t ht).2.2.2 r hr).1.named
 refine⟨by unfold chk06;rw[hprint,hlong,huniq,hnames];rfl,fun t ht=>⟨by have:=(hnm t ht).2;omega,fun r hr=>⟨by have:=(hrn t ht r hr).2.2;omega,((hfine t ht).2.2.2 r hr).1.ok⟩⟩,?_,by omega,fun t ht=>(hfine t ht).2.2.1⟩;unfold schBk
 have h1:=sumN_le tyBk 2136 ts fun t ht=>by
  rw[tyBk_eq]
  have:=sumN_le relBk 532 t.rels fun r hr=>by
   rw[relBk_eq];have:=(hrn t ht r hr).2.2;have:=((hfine t ht).2.2.2 r hr).1.bk;omega
  have:=(hfine t ht).2.2.1.2;have:=(hnm t ht).2;have:=Nat.mul_le_mul_right 532 (hfine t ht).2.2.1.2;omega
 have:=Nat.mul_le_mul_right 2136 (show ts.length<=3 by omega);omega
theorem nms_len (r:RT):r.nms.length<=2*r.sz:=by
 induction r using RT.ind with
 | h r ih =>
  have:∀ l:List RT,(∀ x∈l,x∈r.ps)->(nmsL l).length<=2*szL l:=by
   intro l;induction l with
   | nil=>intro _;simp[nmsL]
   | cons x l ihl =>
    intro hx;rw[nmsL,szL,List.length_append];have h1:=ih x (hx x (by simp));have h2:=ihl fun y hy=>hx y (List.mem_cons_of_mem _ hy);omega
  have h:=this r.ps fun _ h=>h;rw[RT.nms_eq,List.length_cons,List.length_cons];obtain⟨k,a,b,ps⟩:=r;rw[RT.sz];simp only[RT.ps]at h ⊢;omega
theorem nms_ok (r:RT)(h:r.Ok):∀ n∈r.nms,n.size<=maxLen:=by
 induction r using RT.ind with
 | h r ih =>
  obtain⟨k,a,b,ps⟩:=r;rw[RT.Ok]at h;intro n hn;rw[RT.nms_eq]at hn;simp only[RT.a,RT.b,RT.ps,List.mem_cons]at hn;rcases hn with rfl | rfl | hn
  ·exact Nat.le_trans h.2.1 (by decide)
  ·exact Nat.le_trans h.2.2.1 (by decide)
  ·have hp:=okL_mem.1 h.2.2.2
   have:∀ l:List RT,(∀ x∈l,x∈ps)->∀ n∈nmsL l,n.size<=maxLen:=by
    intro l;induction l with
    | nil=>intro _ n hn;simp[nmsL]at hn
    | cons x l ihl =>
     intro hx n hn;rw[nmsL,List.mem_append]at hn;rcases hn with hn | hn
     ·exact ih x (hx x (by simp)) (hp x (hx x (by simp))) n hn
     ·exact ihl (fun y hy=>hx y (List.mem_cons_of_mem _ hy)) n hn
   exact this ps (fun _ h=>h) n hn
def allN (ts:List TyS):List ByteArray:=(refsOf ts).flatMap fun x=>x.2.nms
theorem allN_mem (ts:List TyS):NmU ts (allN ts):=fun x hx _n hn=>List.mem_flatMap.2 ⟨x,hx,hn⟩
theorem flatN_len {α β:Type} (f:α->List β)(m:Nat):∀ (l:List α),(∀ x∈l,(f x).length<=m)->(l.flatMap f).length<=l.length*m
 | [],_=>by simp
 | a::l,h=>by
  rw[List.flatMap_cons,List.length_append,List.length_cons,Nat.add_mul];have h1:=h a (by simp);have h2:=flatN_len f m l fun x hx=>h x (List.mem_cons_of_mem _ hx);omega
theorem refs_sz {ts:List TyS} (h:longOk ts=true):∀ x∈refsOf ts,x.2.sz<=32:=fun x hx=>by
 obtain⟨t,ht,r,hr,rfl⟩:=refs_mem.1 hx;unfold longOk at h;rw[Bool.and_eq_true,List.all_eq_true]at h;have h2:=h.2 t ht;unfold tyLong at h2;rw[Bool.and_eq_true,List.all_eq_true]at h2;simpa using h2.2 r hr
theorem refs_ok {ts:List TyS} (h:∀ t∈ts,t.Ok):∀ x∈refsOf ts,x.2.Ok:=fun x hx=>by
 obtain⟨t,ht,r,hr,rfl⟩:=refs_mem.1 hx;exact((h t ht).2 r hr).2
def objU (T:List Tup)(p:P3):List (ByteArray × ByteArray):=(p.t,p.i)::T.map fun t=>(t.s.t,t.s.i)
def namU (N:List ByteArray)(T:List Tup)(p:P3):List ByteArray:=p.r::(T.map fun t=>t.s.r)++N
theorem okU (T:List Tup)(p:P3)(N:List ByteArray):OkU T (objU T p) (namU N T p) where
 objs t ht:=List.mem_cons_of_mem _ (List.mem_map.2 ⟨t,ht,rfl⟩)
 rels t ht:=by unfold namU;rw[List.cons_append];exact List.mem_cons_of_mem _ (List.mem_append_left _ (List.mem_map.2 ⟨t,ht,rfl⟩))
theorem inU_walk {ts:List TyS} (T:List Tup)(shut:List R2)(p:P3) {N:List ByteArray} (hN:NmU ts N)(n:Nat):∀ x∈(walkN ts T shut p n).1,InU (objU T p) (namU N T p) x :=
 walkN_in (okU T p N) (fun x hx m hm=>by unfold namU;rw[List.cons_append];exact List.mem_cons_of_mem _ (List.mem_append_right _ (hN x hx m hm))) shut ⟨by simp[objU],by simp[namU]⟩ n
theorem walk_few {ts:List TyS} (T:List Tup)(shut:List R2)(p:P3) {N:List ByteArray} (hN:NmU ts N)(n:Nat):(walkN ts T shut p n).1.length<=(T.length+1)*(T.length+N.length+1):=by
 have h:=inU_few (walkN_nodup ts T shut p n) (inU_walk T shut p hN n);simp only[objU,namU,List.length_cons,List.length_append,List.length_map]at h;rwa[show T.length+1+N.length=T.length+N.length+1 by omega]at h
theorem walkIn_chk {ts:List TyS} {T:List Tup} (shut:List R2) {p:P3} (hc:longOk ts=true)(hok:∀ t∈ts,t.Ok)(hT:T.length<=100)(hTo:∀ t∈T,t.Ok)(hp:p.Ok):WalkIn ts T shut p 2000000 where
 okp n x hx:=by
  have h:=inU_walk T shut p (allN_mem ts) n x hx
  have hN:∀ m∈allN ts,m.size<=maxLen:=fun m hm=>by
   obtain⟨y,hy,hm⟩:=List.mem_flatMap.1 hm;exact nms_ok _ (refs_ok hok y hy) m hm
  obtain⟨h1,h2⟩:=h
  have hO:x.t.size<=maxLen/\x.i.size<=maxLen:=by
   rcases List.mem_cons.1 h1 with h1 | h1
   ·have e1:=congrArg Prod.fst h1;have e2:=congrArg Prod.snd h1;dsimp only at e1 e2;rw[e1,e2];exact⟨hp.1,hp.2.1⟩
   ·obtain⟨t,ht,e⟩:=List.mem_map.1 h1;have h3:=(hTo t ht).2;have e1:=congrArg Prod.fst e;have e2:=congrArg Prod.snd e;dsimp only at e1 e2;rw[<- e1,<- e2];exact⟨h3.1,h3.2.1⟩
  refine⟨hO.1,hO.2,?_⟩;unfold namU at h2;rw[List.cons_append,List.mem_cons,List.mem_append]at h2;rcases h2 with h2 | h2 | h2
  ·rw[h2];exact hp.2.2
  ·obtain⟨t,ht,e⟩:=List.mem_map.1 h2;rw[<- e];exact(hTo t ht).2.2.2
  ·exact hN _ h2
 few n:=by
  have h:=walk_few T shut p (allN_mem ts) n
  have h2:(allN ts).length<=256*64:=by
   have h3:=flatN_len (fun x:R2 × RT=>x.2.nms) 64 (refsOf ts) fun x hx=>by have:=nms_len x.2;have:=refs_sz hc x hx;omega
   have h4:=long_refs hc;unfold allN;exact Nat.le_trans h3 (Nat.mul_le_mul_right _ h4)
  have h5:(T.length+1)*(T.length+(allN ts).length+1)<=101*(100+256*64+1):=Nat.mul_le_mul (by omega) (by omega);omega
 room x hx:=by
  have h1:=refs_sz hc x hx;have h2:x.2.sz*(T.length+1)<=32*101:=Nat.mul_le_mul h1 (by omega);omega
 nmax:=by omega
 rok:=refs_ok hok
 tok t ht:=(hTo t ht).2
 tlen:=by omega
theorem GoodR.nms {own:List ByteArray} (ho:∀ n∈own,n∈relNs):∀ (d:Nat)(r:RT),GoodR own d r->∀ n∈r.nms,n=⟨#[]⟩\/n∈relNs:=by
 have leaf:∀ r:RT,LeafR own r->∀ n∈r.nms,n=⟨#[]⟩\/n∈relNs:=fun r h n hn=>by
  rcases h with rfl | ⟨a,ha,rfl⟩ | ⟨a,ha,b,hb,rfl⟩ <;> rw[RT.nms_eq]at hn <;> simp only[RT.a,RT.b,RT.ps,nmsL,List.mem_cons,List.not_mem_nil,or_false]at hn
  ·rcases hn with rfl | rfl <;> exact .inl rfl
  ·rcases hn with rfl | rfl
   ·exact .inr (ho _ ha)
   ·exact .inl rfl
  ·rcases hn with rfl | rfl
   ·exact .inr (ho _ ha)
   ·exact .inr (List.mem_of_mem_take hb)
 intro d;induction d with
 | zero=>exact fun r h=>leaf r h
 | succ d ih =>
  intro r h n hn;rcases h with h | ⟨k,ps,rfl,-,-,hp⟩
  ·exact leaf r h n hn
  ·rw[RT.nms_eq]at hn;simp only[RT.a,RT.b,RT.ps,List.mem_cons]at hn;rcases hn with rfl | rfl | hn
   ·exact .inl rfl
   ·exact .inl rfl
   ·have:∀ l:List RT,(∀ x∈l,x∈ps)->∀ n∈nmsL l,n=⟨#[]⟩\/n∈relNs:=by
     intro l;induction l with
     | nil=>intro _ n hn;simp[nmsL]at hn
     | cons x l ihl =>
      intro hx n hn;rw[nmsL,List.mem_append]at hn;rcases hn with hn | hn
      ·exact ih x (hp x (hx x (by simp))).1 n hn
      ·exact ihl (fun y hy=>hx y (List.mem_cons_of_mem _ hy)) n hn
    exact this ps (fun _ h=>h) n hn
def fewN:List ByteArray:=⟨#[]⟩::relNs
theorem GoodS.nms {ts:List TyS} (h:GoodS ts):NmU ts fewN:=fun x hx n hn=>by
 obtain⟨t,ht,r,hr,rfl⟩:=refs_mem.1 hx;obtain⟨m,-,-,-,hp⟩:=h.2.2 t ht;have ho:∀ n∈relNs.take m,n∈relNs:=fun n hn=>List.mem_of_mem_take hn
 have key:n=⟨#[]⟩\/n∈relNs:=by
  rcases hp r hr with h | ⟨r0,h0,-,he⟩
  ·exact GoodR.nms ho 2 _ h n hn
  ·dsimp only at hn;rw[he,RT.nms_eq]at hn;simp only[RT.a,RT.b,RT.ps,nmsL,List.mem_cons,List.mem_append,List.not_mem_nil,or_false]at hn;rcases hn with rfl | rfl | hn | hn
   ·exact .inl rfl
   ·exact .inl rfl
   ·rw[RT.nms_eq]at hn;simp only[RT.a,RT.b,RT.ps,nmsL,List.mem_cons,List.not_mem_nil,or_false]at hn;rcases hn with rfl | rfl <;> exact .inl rfl
   ·exact GoodR.nms ho 2 _ h0 n hn
 rcases key with rfl | h
 ·exact List.mem_cons_self
 ·exact List.mem_cons_of_mem _ h
theorem good_few {ts:List TyS} (h:GoodS ts) {T:List Tup} (hT:T.length<=24)(shut:List R2)(p:P3)(n:Nat):(walkN ts T shut p n).1.length<=750:=by
 have h1:=walk_few T shut p h.nms n;have h2:(T.length+1)*(T.length+fewN.length+1)<=25*30:=Nat.mul_le_mul (by omega) (by have:fewN.length=5:=rfl;omega);omega
theorem HasArg.of {ts:List TyS} {T:List Tup} {shut:List R2} {p:P3} (hc:chk06 ts=0)(hok:∀ t∈ts,t.Ok)(hb:schB ts<=549755813888)(hn:(namesOf ts).length<=1099511627776)(hr:(refsOf ts).length<=1099511627776)(hT:T.length<=41)(hTo:∀ t∈T,t.Ok)(hp:p.Ok)(hso:∀ r∈shut,r.Ok):HasArg ts T shut p:=by
 have hl:=chk_long hc;have hw:=walkIn_chk (T:=T) shut hl hok (by omega) hTo hp;have hsz:∀ t∈ts,∀ r∈t.rels,r.2.sz<=32:=fun t ht r hr'=>refs_sz hl ⟨⟨t.name,r.1⟩,r.2⟩ (refs_mem.2 ⟨t,ht,r,hr',rfl⟩)
 have hN:∀ n,(walkN ts T shut p n).1.length<=1000000:=fun n=>by
  have h:=walk_few T shut p (allN_mem ts) n
  have h2:(allN ts).length<=256*64:=by
   have h3:=flatN_len (fun x:R2 × RT=>x.2.nms) 64 (refsOf ts) fun x hx=>by have:=nms_len x.2;have:=refs_sz hl x hx;omega
   have h4:=long_refs hl;unfold allN;exact Nat.le_trans h3 (Nat.mul_le_mul_right _ h4)
  have h5:(T.length+1)*(T.length+(allN ts).length+1)<=42*(41+256*64+1):=Nat.mul_le_mul (by omega) (by omega);omega
 have hrm:∀ x∈refsOf ts,x.2.sz*(T.length+1)<=32*42:=fun x hx=>Nat.mul_le_mul (refs_sz hl x hx) (by omega)
 exact⟨hok,hc,hb,fun t ht r hr'=>Nat.le_trans (hsz t ht r hr') (by decide),hn,hr,hso,
  ⟨hw.okp,hN,fun x hx=>by have:=hrm x hx;omega,by decide,hw.rok,hw.tok,hw.tlen⟩,fun x hx=>by have:=hrm x hx;omega⟩
def viB:ByteArray:=⟨#[118,105,101,119,101,114]⟩
def usB:ByteArray:=⟨#[117,115,101,114]⟩
def thB:ByteArray:=⟨#[116,104,105,115]⟩
def p0:P3:=⟨⟨#[100,111,99]⟩,⟨#[49]⟩,⟨#[118,105,101,119,101,114]⟩⟩
theorem TreeArg.of {ts:List TyS} {l T:List Tup} {shut:List R2} {p:P3} (hc:chk06 ts=0)(hok:∀ t∈ts,t.Ok)(hb:schB ts<=549755813888)(hn:(namesOf ts).length<=1099511627776)(hr:(refsOf ts).length<=1099511627776)(hT:SetT l T)(hl:T.length<=1000000)(hTo:∀ t∈T,t.Ok)(hp:p.Ok)(hso:∀ r∈shut,r.Ok):TreeArg ts T shut p :=
 have hlg:=chk_long hc;have hsz:∀ x∈refsOf ts,x.2.sz<=32:=fun x hx=>refs_sz hlg x hx
 ⟨hok,hc,hb,fun t ht r hr'=>Nat.le_trans (hsz ⟨⟨t.name,r.1⟩,r.2⟩ (refs_mem.2 ⟨t,ht,r,hr',rfl⟩)) (by decide),hn,hr,hso,hp,fun t ht=>(hTo t ht).2,hT.1.imp (fun {a b} h e=>by
  have h4:=swoC.irrefl a;rw[lt_cmpC]at h4;rw[<- e,h4]at h;cases h),hl,fun x hx=>by
  obtain⟨t,ht,r,hr',rfl⟩:=refs_mem.1 hx;exact((hok t ht).2 r hr').2⟩
def txt28:ByteArray:=⟨#[116,121,112,101,32,100,111,99,10,118,105,101,119,101,114,32,61,32,116,104,105,115,10,116,121,112,101,32,117,115,101,114]⟩
def its28:List PIt:=[.ty docB,.rel viB thB [],.ty usB]
def lns28:List ByteArray:=[⟨#[116,121,112,101,32,100,111,99]⟩,⟨#[118,105,101,119,101,114,32,61,32,116,104,105,115]⟩,⟨#[116,121,112,101,32,117,115,101,114]⟩]
def ts28:List TyS:=[⟨docB,[(viB,.mk 1 ⟨#[]⟩ ⟨#[]⟩ [])]⟩,⟨usB,[]⟩]
theorem lines28:linesD txt28=lns28:=by kernel_rfl
theorem step28:its28.foldl stepD []=ts28:=by kernel_rfl
theorem lnsOk28:(lns28.zip its28).all (fun p=>lnOkB p.1 p.2)=true:=by kernel_rfl
theorem fits28:its28.all PIt.fitB=true:=by kernel_rfl
theorem chk28:chk06 ts28=0:=by kernel_rfl
theorem ok28:∀ t∈ts28,t.Ok:=by
 intro t ht;unfold ts28 at ht;simp only[List.mem_cons,List.not_mem_nil,or_false]at ht;rcases ht with rfl | rfl
 ·refine⟨by decide,fun r hr=>?_⟩;obtain rfl:=List.mem_singleton.1 hr;exact⟨by decide,by simp[RT.Ok,okL];decide⟩
 ·exact⟨by decide,fun r hr=>by cases hr⟩
def p28:P3:=⟨docB,⟨#[49]⟩,viB⟩
def u28:P3:=⟨usB,⟨#[50]⟩,⟨#[]⟩⟩
def l28:List Tup:=[⟨p28,u28⟩]
theorem set28:SetT l28 l28:=⟨List.pairwise_singleton _ _,fun t=>⟨fun h=>⟨h,by
 unfold l28 at h;obtain rfl:=List.mem_singleton.1 h;kernel_rfl⟩,fun h=>h.1⟩⟩
theorem ok28l:∀ t∈l28,t.Ok:=by
 intro t ht;unfold l28 at ht;obtain rfl:=List.mem_singleton.1 ht;exact⟨⟨by decide,by decide,by decide⟩,⟨by decide,by decide,by decide⟩⟩
theorem arg28:TreeArg ts28 l28 [] p28:=TreeArg.of chk28 ok28 (by decide) (by decide) (by decide) set28 (by decide) ok28l ⟨by decide,by decide,by decide⟩ (by simp)
theorem one28:treeE ts28 l28 [] 1 p28 = .mk 1 p28 [u28] []:=by kernel_rfl
theorem cut28:treeE ts28 l28 [] 0 p28 = .mk 0 p28 [] []:=by kernel_rfl
theorem fixed28_any (w:World):Calls Tryz.prog 17 #[] w fun e w'=>e = .returned (.bool true)/\Below w.heap.size w w':=by
 have HPA:=h! (parse_any txt28 its28 w (by decide) (by rw[lines28];rfl) (by rw[lines28];exact lnsOk_of lnsOk28) (fits_of fits28) (fun _=>⟨docB,rfl⟩) (by decide));rw[step28]at HPA;unfold txt28 at HPA;go_enter Tryz.func17,Tryz.ntmps17
 go_wp2_with fail
 refine HPA.out.mono ?_;rintro e w1 ⟨tv,rfl,hty,hb1⟩;obtain⟨aot,ct,rfl,-,-,-⟩:=hty.rows;rw[show ts28.length=2 from rfl]at *;obtain⟨w2,hw2⟩:∃ y,y=w1.alloc (.cells #[.slice aot 2 ct] 26):=⟨_,rfl⟩;obtain⟨w3,hw3⟩:∃ y,y=w2.alloc (.cells #[.string ⟨#[100,111,99]⟩,.string ⟨#[49]⟩,.string ⟨#[118,105,101,119,101,114]⟩,.string ⟨#[117,115,101,114]⟩,.string ⟨#[50]⟩,.string ⟨#[]⟩] 67):=⟨_,rfl⟩;obtain⟨w4,hw4⟩:∃ y,y=w3.alloc (.cells #[.string ⟨#[100,111,99]⟩,.string ⟨#[49]⟩,.string ⟨#[118,105,101,119,101,114]⟩] 32):=⟨_,rfl⟩;have e2:w2.heap.size=w1.heap.size+1:=by rw[hw2];simp
 have e3:w3.heap.size=w1.heap.size+1+1:=by rw[hw3];simp[e2]
 have x2:Ext w1 w2:=by rw[hw2];exact Ext.alloc _ _
 have x3:Ext w2 w3:=by rw[hw3];exact Ext.alloc _ _
 have x4:Ext w3 w4:=by rw[hw4];exact Ext.alloc _ _
 have X4:=h! (show Ext w1 w4 from x2.trans (x3.trans x4));have HBT:=h! (show Below w.heap.size w w4 from Below.trans hb1 (Below.mono X4.out hb1.size));have HT4:=h! (fun W (hW:Ext w4 W)=>(hty.mono (S':=(· < w1.heap.size)) fun b hb=>hb.2).up (Ext.trans X4.out hW));have HS4:=h! (fun W (hW:Ext w4 W)=>show Blk W w1.heap.size #[.slice aot 2 ct] 26 from Blk.below (by rw[hw2];exact Blk.made _ _ _) (x3.trans (x4.trans hW)));have HU4:=h! (fun W (hW:Ext w4 W)=>show Blk W (w1.heap.size+1) #[.string ⟨#[100,111,99]⟩,.string ⟨#[49]⟩,.string ⟨#[118,105,101,119,101,114]⟩,.string ⟨#[117,115,101,114]⟩,.string ⟨#[50]⟩,.string ⟨#[]⟩] 67 from Blk.below (by rw[hw3,<- e2];exact Blk.made _ _ _) (x4.trans hW));have HP4:=h! (fun W (hW:Ext w4 W)=>show Blk W (w1.heap.size+1+1) #[.string ⟨#[100,111,99]⟩,.string ⟨#[49]⟩,.string ⟨#[118,105,101,119,101,114]⟩] 32 from Blk.below (by rw[hw4,<- e3];exact Blk.made _ _ _) hW);clear hty hb1 HPA e2 e3 x2 x3 x4;subst hw3 hw2;go_wp2_with fail
 rw[<- hw4];clear hw4;generalize w1.heap.size=s1 at *;obtain⟨wd,hwd⟩:∃ wd,Hid (wd=w4.drew):=⟨_,h! rfl⟩;have hxd:=h! (show Ext w4 wd from by rw[hwd.out];exact Ext.drew _);apply Code.wp_mono (Q:=JoinN (β:=Nat) wd (TreeP ts28 l28 [] p28 1 9 (.int .i64 0) (.int .i64 10)) _) ?rest5 ?reg5
 case reg5 =>
  have hE:=h! (Ext.refl wd);refine region_walkN (Ext wd) (by rw[<- hwd.out];exact Ext.refl _) (by kernel_rfl) (by kernel_rfl) (fun _ _ d _ _ h=>by cases h.1) ?_;rw[<- hwd.out];have HNB:=h! (fun W gk (hW:Ext wd W) (hL:Sl (· < W.heap.size) W 6 (.slice (some ⟨gk,0,none⟩) 1 1) (tuCs l28))=>bookT_any set28 (.slice (some ⟨gk,0,none⟩) 1 1) W hL (by decide) ok28l);have HWK:=h! (fun W b (hW:Ext wd W) (hB:BookAt W b l28)=>treeG_any ts28 (.slice aot 2 ct) b l28 [] (.slice none 0 0) p28 1 9 W (HT4.out W (Ext.trans hxd.out hW)) arg28 hB (Sl.nil _ _ _) (by decide) (by decide));have hs:=fun W (h:Ext wd W)=>(HS4.out W (Ext.trans hxd.out h)).cells;have hp:=fun W (h:Ext wd W)=>(HP4.out W (Ext.trans hxd.out h)).cells;have ht:=fun W (h:Ext wd W)=>(HU4.out W (Ext.trans hxd.out h)).cells;unfold pV at HWK;dsimp only[p28,docB,viB]at HWK;(refine WalkN.tk [0,1,5] ?_;(iterate 3 (refine c! ?_));refine TkN.n ?_)
  clear hs hp ht;refine p! 2 10 ?_ ?_;refine b! ?_;intro K hK;go_simp;have hA0:=Ext.alloc wd (.cells #[.string ⟨#[100,111,99]⟩,.string ⟨#[49]⟩,.string ⟨#[118,105,101,119,101,114]⟩,.string ⟨#[117,115,101,114]⟩,.string ⟨#[50]⟩,.string ⟨#[]⟩] 67);have hL0:Sl (fun b=>b<(wd.alloc (.cells #[.string ⟨#[100,111,99]⟩,.string ⟨#[49]⟩,.string ⟨#[118,105,101,119,101,114]⟩,.string ⟨#[117,115,101,114]⟩,.string ⟨#[50]⟩,.string ⟨#[]⟩] 67)).heap.size) (wd.alloc (.cells #[.string ⟨#[100,111,99]⟩,.string ⟨#[49]⟩,.string ⟨#[118,105,101,119,101,114]⟩,.string ⟨#[117,115,101,114]⟩,.string ⟨#[50]⟩,.string ⟨#[]⟩] 67)) 6 (.slice (some ⟨wd.heap.size,0,none⟩) 1 1) (tuCs l28):=Sl.made wd _ 6 1 67 _ rfl (by decide) (by simp);have hX0:=Ext.trans hE.out hA0;obtain⟨gk,hgk⟩:∃ x,x=wd.heap.size:=⟨_,rfl⟩;rw[<- hgk]at hL0 ⊢;refine hK.out _ _ hX0 ?_;clear hK hgk;have HL:=h! hL0;have hE:=h! hX0;clear hA0 hL0 hX0;generalize wd.alloc (.cells #[.string ⟨#[100,111,99]⟩,.string ⟨#[49]⟩,.string ⟨#[118,105,101,119,101,114]⟩,.string ⟨#[117,115,101,114]⟩,.string ⟨#[50]⟩,.string ⟨#[]⟩] 67)=u1 at *;refine p! 3 10 ?_ ?_;refine b! ?_;intro K hK;go_simp;refine(HNB.out u1 gk hE.out HL.out).mono ?_;rintro e u2 ⟨bk,rfl,hB1,hx1⟩;have hX1:=Ext.trans hE.out hx1;refine hK.out _ _ hX1 ?_;clear hK;have HBK:=h! hB1;have hE:=h! hX1;clear hx1 hX1 hB1 HL;refine t! 4 ?_
  refine p! 6 10 ?_ ?_;refine b! ?_;intro K hK;go_simp;refine(HWK.out u2 bk hE.out HBK.out).mono ?_;rintro e u3 ⟨hx2,n,so,sc,qo,qc,ev,hP2,rfl,hG2⟩;have hX2:=Ext.trans hE.out hx2;refine hK.out _ _ hX2 ?_;clear hK;have HR:=h! (show NtAt (fun x=>wd.heap.size<=x/\x<u3.heap.size) u3 n (.slice so n.subs.length sc,.slice qo n.ps.length qc)from hG2.mono fun x hx=>⟨Nat.le_trans hE.out.size hx.1,hx.2⟩);have HP:=h! hP2;have HBK:=h! (HBK.out.ext hx2);have hE:=h! hX2;clear hx2 hX2 hP2 hG2;refine t! 7 ?_
  refine t! 8 ?_
  refine t! 9 ?_
  refine o! 10 ?_;refine b! ?_;intro K hK;go_simp;obtain⟨bg,hbg⟩:∃ x,x=u3.heap.size:=⟨_,rfl⟩;rw[<- hbg];have hA3:=Ext.alloc u3 (.cells #[.int .i64 0,.string ⟨#[]⟩,.string ⟨#[]⟩,.string ⟨#[]⟩,.slice none 0 0,.slice none 0 0] 45);have hO3:Blk (u3.alloc (.cells #[.int .i64 0,.string ⟨#[]⟩,.string ⟨#[]⟩,.string ⟨#[]⟩,.slice none 0 0,.slice none 0 0] 45)) bg #[.int .i64 0,.string ⟨#[]⟩,.string ⟨#[]⟩,.string ⟨#[]⟩,.slice none 0 0,.slice none 0 0] 45:=by rw[hbg];exact Blk.made _ _ _
  have hX3:=Ext.trans hE.out hA3;have HBG:=h! (show wd.heap.size<=bg from by have:=hE.out.size;omega);have HBK:=h! (HBK.out.ext hA3);have HR:=h! (show NtAt (fun x=>x≠bg/\wd.heap.size<=x/\x<(u3.alloc (.cells #[.int .i64 0,.string ⟨#[]⟩,.string ⟨#[]⟩,.string ⟨#[]⟩,.slice none 0 0,.slice none 0 0] 45)).heap.size) (u3.alloc (.cells #[.int .i64 0,.string ⟨#[]⟩,.string ⟨#[]⟩,.string ⟨#[]⟩,.slice none 0 0,.slice none 0 0] 45)) n (.slice so n.subs.length sc,.slice qo n.ps.length qc)from(HR.out.same fun x hx=>hA3.block x hx.2).mono fun x hx=>⟨fun e=>by have:=hx.2;omega,hx.1,Nat.lt_of_lt_of_le hx.2 hA3.size⟩);refine hK.out _ _ hX3 ?_;clear hK hbg hA3;generalize u3.alloc (.cells #[.int .i64 0,.string ⟨#[]⟩,.string ⟨#[]⟩,.string ⟨#[]⟩,.slice none 0 0,.slice none 0 0] 45)=u4 at *;have hE:=h! hX3;have HG:=h! hO3;clear hO3 hX3;rotate_left
  refine b! ?_;intro K hK;go_simp;obtain⟨bg,hbg⟩:∃ x,x=u2.heap.size:=⟨_,rfl⟩;rw[<- hbg];have hA2:=Ext.alloc u2 (.cells #[.int .i64 0,.string ⟨#[]⟩,.string ⟨#[]⟩,.string ⟨#[]⟩,.slice none 0 0,.slice none 0 0] 45);have hO2:Blk (u2.alloc (.cells #[.int .i64 0,.string ⟨#[]⟩,.string ⟨#[]⟩,.string ⟨#[]⟩,.slice none 0 0,.slice none 0 0] 45)) bg #[.int .i64 0,.string ⟨#[]⟩,.string ⟨#[]⟩,.string ⟨#[]⟩,.slice none 0 0,.slice none 0 0] 45:=by rw[hbg];exact Blk.made _ _ _
  have hX2:=Ext.trans hE.out hA2;have HBG:=h! (show wd.heap.size<=bg from by have:=hE.out.size;omega);have HBK:=h! (HBK.out.ext hA2);refine hK.out _ _ hX2 ?_;clear hK hbg hA2;generalize u2.alloc (.cells #[.int .i64 0,.string ⟨#[]⟩,.string ⟨#[]⟩,.string ⟨#[]⟩,.slice none 0 0,.slice none 0 0] 45)=u3 at *;have hE:=h! hX2;have HG:=h! hO2;clear hO2 hX2;refine o! 6 ?_;refine b! ?_;intro K hK;go_simp;refine(HWK.out u3 bk hE.out HBK.out).mono ?_;rintro e u4 ⟨hx3,n,so,sc,qo,qc,ev,hP3,rfl,hG3⟩;have hX3:=Ext.trans hE.out hx3;refine hK.out _ _ hX3 ?_;clear hK;have HR:=h! (show NtAt (fun x=>x≠bg/\wd.heap.size<=x/\x<u4.heap.size) u4 n (.slice so n.subs.length sc,.slice qo n.ps.length qc)from hG3.mono fun x hx=>⟨fun e=>by have:=HG.out.lt;have:=hx.1;omega,Nat.le_trans hE.out.size hx.1,hx.2⟩);have HG:=h! (HG.out.below hx3);have HP:=h! hP3;have HBK:=h! (HBK.out.ext hx3);have hE:=h! hX3;clear hx3 hX3 hP3 hG3;refine t! 7 ?_
  refine t! 8 ?_
  refine t! 9 ?_
  rotate_left
  refine b! ?_;intro K hK;go_simp;obtain⟨bg,hbg⟩:∃ x,x=u1.heap.size:=⟨_,rfl⟩;rw[<- hbg];have hA1:=Ext.alloc u1 (.cells #[.int .i64 0,.string ⟨#[]⟩,.string ⟨#[]⟩,.string ⟨#[]⟩,.slice none 0 0,.slice none 0 0] 45);have hO1:Blk (u1.alloc (.cells #[.int .i64 0,.string ⟨#[]⟩,.string ⟨#[]⟩,.string ⟨#[]⟩,.slice none 0 0,.slice none 0 0] 45)) bg #[.int .i64 0,.string ⟨#[]⟩,.string ⟨#[]⟩,.string ⟨#[]⟩,.slice none 0 0,.slice none 0 0] 45:=by rw[hbg];exact Blk.made _ _ _
  have hX1:=Ext.trans hE.out hA1;have HBG:=h! (show wd.heap.size<=bg from by have:=hE.out.size;omega);have HL:=h! (HL.out.up hA1);refine hK.out _ _ hX1 ?_;clear hK hbg hA1;generalize u1.alloc (.cells #[.int .i64 0,.string ⟨#[]⟩,.string ⟨#[]⟩,.string ⟨#[]⟩,.slice none 0 0,.slice none 0 0] 45)=u2 at *;have hE:=h! hX1;have HG:=h! hO1;clear hO1 hX1;refine o! 3 ?_;refine b! ?_;intro K hK;go_simp;refine(HNB.out u2 gk hE.out HL.out).mono ?_;rintro e u3 ⟨bk,rfl,hB2,hx2⟩;have hX2:=Ext.trans hE.out hx2;refine hK.out _ _ hX2 ?_;clear hK;have HBK:=h! hB2;have HG:=h! (HG.out.below hx2);have hE:=h! hX2;clear hx2 hX2 hB2 HL;refine t! 4 ?_
  refine o! 6 ?_;refine b! ?_;intro K hK;go_simp;refine(HWK.out u3 bk hE.out HBK.out).mono ?_;rintro e u4 ⟨hx3,n,so,sc,qo,qc,ev,hP3,rfl,hG3⟩;have hX3:=Ext.trans hE.out hx3;refine hK.out _ _ hX3 ?_;clear hK;have HR:=h! (show NtAt (fun x=>x≠bg/\wd.heap.size<=x/\x<u4.heap.size) u4 n (.slice so n.subs.length sc,.slice qo n.ps.length qc)from hG3.mono fun x hx=>⟨fun e=>by have:=HG.out.lt;have:=hx.1;omega,Nat.le_trans hE.out.size hx.1,hx.2⟩);have HG:=h! (HG.out.below hx3);have HP:=h! hP3;have HBK:=h! (HBK.out.ext hx3);have hE:=h! hX3;clear hx3 hX3 hP3 hG3;refine t! 7 ?_
  refine t! 8 ?_
  refine t! 9 ?_
  rotate_left
  refine b! ?_;intro K hK;go_simp;obtain⟨bg,hbg⟩:∃ x,x=wd.heap.size:=⟨_,rfl⟩;rw[<- hbg];have hA0:=Ext.alloc wd (.cells #[.int .i64 0,.string ⟨#[]⟩,.string ⟨#[]⟩,.string ⟨#[]⟩,.slice none 0 0,.slice none 0 0] 45);have hO0:Blk (wd.alloc (.cells #[.int .i64 0,.string ⟨#[]⟩,.string ⟨#[]⟩,.string ⟨#[]⟩,.slice none 0 0,.slice none 0 0] 45)) bg #[.int .i64 0,.string ⟨#[]⟩,.string ⟨#[]⟩,.string ⟨#[]⟩,.slice none 0 0,.slice none 0 0] 45:=by rw[hbg];exact Blk.made _ _ _
  have hX0:=Ext.trans hE.out hA0;have HBG:=h! (show wd.heap.size<=bg from by have:=hE.out.size;omega);refine hK.out _ _ hX0 ?_;clear hK hbg hA0;generalize wd.alloc (.cells #[.int .i64 0,.string ⟨#[]⟩,.string ⟨#[]⟩,.string ⟨#[]⟩,.slice none 0 0,.slice none 0 0] 45)=u1 at *;have hE:=h! hX0;have HG:=h! hO0;clear hO0 hX0;refine o! 2 ?_;refine b! ?_;intro K hK;go_simp;have hA1:=Ext.alloc u1 (.cells #[.string ⟨#[100,111,99]⟩,.string ⟨#[49]⟩,.string ⟨#[118,105,101,119,101,114]⟩,.string ⟨#[117,115,101,114]⟩,.string ⟨#[50]⟩,.string ⟨#[]⟩] 67);have hL1:Sl (fun b=>b<(u1.alloc (.cells #[.string ⟨#[100,111,99]⟩,.string ⟨#[49]⟩,.string ⟨#[118,105,101,119,101,114]⟩,.string ⟨#[117,115,101,114]⟩,.string ⟨#[50]⟩,.string ⟨#[]⟩] 67)).heap.size) (u1.alloc (.cells #[.string ⟨#[100,111,99]⟩,.string ⟨#[49]⟩,.string ⟨#[118,105,101,119,101,114]⟩,.string ⟨#[117,115,101,114]⟩,.string ⟨#[50]⟩,.string ⟨#[]⟩] 67)) 6 (.slice (some ⟨u1.heap.size,0,none⟩) 1 1) (tuCs l28):=Sl.made u1 _ 6 1 67 _ rfl (by decide) (by simp);have hX1:=Ext.trans hE.out hA1;obtain⟨gk,hgk⟩:∃ x,x=u1.heap.size:=⟨_,rfl⟩;rw[<- hgk]at hL1 ⊢;refine hK.out _ _ hX1 ?_;clear hK hgk;have HG:=h! (HG.out.below hA1);have HL:=h! hL1;have hE:=h! hX1;clear hA1 hL1 hX1;generalize u1.alloc (.cells #[.string ⟨#[100,111,99]⟩,.string ⟨#[49]⟩,.string ⟨#[118,105,101,119,101,114]⟩,.string ⟨#[117,115,101,114]⟩,.string ⟨#[50]⟩,.string ⟨#[]⟩] 67)=u2 at *;refine o! 3 ?_;refine b! ?_;intro K hK;go_simp;refine(HNB.out u2 gk hE.out HL.out).mono ?_;rintro e u3 ⟨bk,rfl,hB2,hx2⟩;have hX2:=Ext.trans hE.out hx2;refine hK.out _ _ hX2 ?_;clear hK;have HBK:=h! hB2;have HG:=h! (HG.out.below hx2);have hE:=h! hX2;clear hx2 hX2 hB2 HL;refine t! 4 ?_
  refine o! 6 ?_;refine b! ?_;intro K hK;go_simp;refine(HWK.out u3 bk hE.out HBK.out).mono ?_;rintro e u4 ⟨hx3,n,so,sc,qo,qc,ev,hP3,rfl,hG3⟩;have hX3:=Ext.trans hE.out hx3;refine hK.out _ _ hX3 ?_;clear hK;have HR:=h! (show NtAt (fun x=>x≠bg/\wd.heap.size<=x/\x<u4.heap.size) u4 n (.slice so n.subs.length sc,.slice qo n.ps.length qc)from hG3.mono fun x hx=>⟨fun e=>by have:=HG.out.lt;have:=hx.1;omega,Nat.le_trans hE.out.size hx.1,hx.2⟩);have HG:=h! (HG.out.below hx3);have HP:=h! hP3;have HBK:=h! (HBK.out.ext hx3);have hE:=h! hX3;clear hx3 hX3 hP3 hG3;refine t! 7 ?_
  refine t! 8 ?_
  refine t! 9 ?_
  rotate_left
  all_goals
   refine o! 11 ?_;refine b! ?_;intro K hK;have hg:=HG.out.cells;have hf:=HG.out.free;go_simp;have hS4:=((((((HG.out.set_to (cs':=#[.int .i64 n.k,.string ⟨#[]⟩,.string ⟨#[]⟩,.string ⟨#[]⟩,.slice none 0 0,.slice none 0 0]) 0 (.int .i64 n.k) rfl).set_to (cs':=#[.int .i64 n.k,.string n.p.t,.string ⟨#[]⟩,.string ⟨#[]⟩,.slice none 0 0,.slice none 0 0]) 1 (.string n.p.t) rfl).set_to (cs':=#[.int .i64 n.k,.string n.p.t,.string n.p.i,.string ⟨#[]⟩,.slice none 0 0,.slice none 0 0]) 2 (.string n.p.i) rfl).set_to (cs':=#[.int .i64 n.k,.string n.p.t,.string n.p.i,.string n.p.r,.slice none 0 0,.slice none 0 0]) 3 (.string n.p.r) rfl).set_to (cs':=#[.int .i64 n.k,.string n.p.t,.string n.p.i,.string n.p.r,.slice so n.subs.length sc,.slice none 0 0]) 4 (.slice so n.subs.length sc) rfl).set_to (cs':=#[.int .i64 n.k,.string n.p.t,.string n.p.i,.string n.p.r,.slice so n.subs.length sc,.slice qo n.ps.length qc]) 5 (.slice qo n.ps.length qc) rfl);have hX4:Ext wd ((((((u4.setCell ⟨bg,0,none⟩ (.int .i64 n.k)).setCell ⟨bg,1,none⟩ (.string n.p.t)).setCell ⟨bg,2,none⟩ (.string n.p.i)).setCell ⟨bg,3,none⟩ (.string n.p.r)).setCell ⟨bg,4,none⟩ (.slice so n.subs.length sc)).setCell ⟨bg,5,none⟩ (.slice qo n.ps.length qc)):=Ext.put6 hE.out HBG.out _ _ _ _ _ _;have hR4:=(HR.out.same (w':=((((((u4.setCell ⟨bg,0,none⟩ (.int .i64 n.k)).setCell ⟨bg,1,none⟩ (.string n.p.t)).setCell ⟨bg,2,none⟩ (.string n.p.i)).setCell ⟨bg,3,none⟩ (.string n.p.r)).setCell ⟨bg,4,none⟩ (.slice so n.subs.length sc)).setCell ⟨bg,5,none⟩ (.slice qo n.ps.length qc))) fun x hx=>put6_other _ _ _ _ _ _ hx.1).mono (S':=fun x=>x≠bg/\wd.heap.size<=x/\x<((((((u4.setCell ⟨bg,0,none⟩ (.int .i64 n.k)).setCell ⟨bg,1,none⟩ (.string n.p.t)).setCell ⟨bg,2,none⟩ (.string n.p.i)).setCell ⟨bg,3,none⟩ (.string n.p.r)).setCell ⟨bg,4,none⟩ (.slice so n.subs.length sc)).setCell ⟨bg,5,none⟩ (.slice qo n.ps.length qc)).heap.size) fun x hx=>⟨hx.1,hx.2.1,by simpa using hx.2.2⟩;refine hK.out _ _ hX4 ?_;clear hK hg hf;generalize (((((u4.setCell ⟨bg,0,none⟩ (.int .i64 n.k)).setCell ⟨bg,1,none⟩ (.string n.p.t)).setCell ⟨bg,2,none⟩ (.string n.p.i)).setCell ⟨bg,3,none⟩ (.string n.p.r)).setCell ⟨bg,4,none⟩ (.slice so n.subs.length sc)).setCell ⟨bg,5,none⟩ (.slice qo n.ps.length qc)=u5 at *;refine t! 12 ?_
   refine d! ?_;exact⟨rfl,gk,bk,bg,so,sc,qo,qc,n,ev,rfl,HP.out,hX4,HBG.out,hS4,hR4⟩
 rintro e _ W5 ⟨rfl,gk5,bk5,bg5,so5,sc5,qo5,qc5,n5,ev5,rfl,hP,hX,hbg,hblk,hgr⟩;try dsimp only
 have X5:=h! (show Ext w4 W5 from Ext.trans hxd.out hX);rcases hP with⟨-,rfl,rfl⟩ | ⟨hl,-⟩
 case inr=>rw[one28]at hl;exact absurd hl (by decide)
 rw[one28]at hblk hgr;rw[one28];have B5:=h! (show Blk W5 bg5 #[.int .i64 1,.string ⟨#[100,111,99]⟩,.string ⟨#[49]⟩,.string ⟨#[118,105,101,119,101,114]⟩,.slice so5 1 sc5,.slice qo5 0 qc5] 45 from hblk)
 obtain⟨b0,o0,rfl,d0,d1,d2⟩:∃ b o,so5=some ⟨b,o,none⟩/\W5.cell? ⟨b,o,none⟩=some (.string ⟨#[117,115,101,114]⟩)/\W5.cell? ⟨b,o+1,none⟩=some (.string ⟨#[50]⟩)/\W5.cell? ⟨b,o+2,none⟩=some (.string ⟨#[]⟩):=by
  obtain⟨_,_,e,-,-,hc⟩:=Sl.rows pC_length (by decide) (show Sl _ W5 3 (.slice so5 1 sc5) ([u28].flatMap pC)from((NtAt.iff _ _).1 hgr).1);obtain⟨b,o,rfl,-,hc⟩:=hc (by simp);cases e;exact⟨b,o,rfl,by simpa [u28,usB] using hc 0 (by simp) 0 _ rfl,by simpa [u28,usB] using hc 0 (by simp) 1 _ rfl,by simpa [u28,usB] using hc 0 (by simp) 2 _ rfl⟩
 have D5:=h! (And.intro d0 (And.intro d1 d2));clear hX hxd hwd hblk hgr hbg d0 d1 d2;go_wp2_with fail
 obtain⟨wd,hwd⟩:∃ wd,Hid (wd=W5.drew):=⟨_,h! rfl⟩;have hxd:=h! (show Ext W5 wd from by rw[hwd.out];exact Ext.drew _);apply Code.wp_mono (Q:=JoinN (β:=Nat) wd (TreeP ts28 l28 [] p28 0 9 (.int .i64 0) (.int .i64 10)) _) ?rest6 ?reg6
 case reg6 =>
  have hE:=h! (Ext.refl wd);refine region_walkN (Ext wd) (by rw[<- hwd.out];exact Ext.refl _) (by kernel_rfl) (by kernel_rfl) (fun _ _ d _ _ h=>by cases h.1) ?_;rw[<- hwd.out];have HNB:=h! (fun W gk (hW:Ext wd W) (hL:Sl (· < W.heap.size) W 6 (.slice (some ⟨gk,0,none⟩) 1 1) (tuCs l28))=>bookT_any set28 (.slice (some ⟨gk,0,none⟩) 1 1) W hL (by decide) ok28l);have HWK:=h! (fun W b (hW:Ext wd W) (hB:BookAt W b l28)=>treeG_any ts28 (.slice aot 2 ct) b l28 [] (.slice none 0 0) p28 0 9 W (HT4.out W (Ext.trans X5.out (Ext.trans hxd.out hW))) arg28 hB (Sl.nil _ _ _) (by decide) (by decide));have hs:=fun W (h:Ext wd W)=>(HS4.out W (Ext.trans X5.out (Ext.trans hxd.out h))).cells;have hp:=fun W (h:Ext wd W)=>(HP4.out W (Ext.trans X5.out (Ext.trans hxd.out h))).cells;have ht:=fun W (h:Ext wd W)=>(HU4.out W (Ext.trans X5.out (Ext.trans hxd.out h))).cells;unfold pV at HWK;dsimp only[p28,docB,viB]at HWK;(refine WalkN.tk [0,1,5] ?_;(iterate 3 (refine c! ?_));refine TkN.n ?_)
  clear hs hp ht;refine p! 2 10 ?_ ?_;refine b! ?_;intro K hK;go_simp;have hA0:=Ext.alloc wd (.cells #[.string ⟨#[100,111,99]⟩,.string ⟨#[49]⟩,.string ⟨#[118,105,101,119,101,114]⟩,.string ⟨#[117,115,101,114]⟩,.string ⟨#[50]⟩,.string ⟨#[]⟩] 67);have hL0:Sl (fun b=>b<(wd.alloc (.cells #[.string ⟨#[100,111,99]⟩,.string ⟨#[49]⟩,.string ⟨#[118,105,101,119,101,114]⟩,.string ⟨#[117,115,101,114]⟩,.string ⟨#[50]⟩,.string ⟨#[]⟩] 67)).heap.size) (wd.alloc (.cells #[.string ⟨#[100,111,99]⟩,.string ⟨#[49]⟩,.string ⟨#[118,105,101,119,101,114]⟩,.string ⟨#[117,115,101,114]⟩,.string ⟨#[50]⟩,.string ⟨#[]⟩] 67)) 6 (.slice (some ⟨wd.heap.size,0,none⟩) 1 1) (tuCs l28):=Sl.made wd _ 6 1 67 _ rfl (by decide) (by simp);have hX0:=Ext.trans hE.out hA0;obtain⟨gk,hgk⟩:∃ x,x=wd.heap.size:=⟨_,rfl⟩;rw[<- hgk]at hL0 ⊢;refine hK.out _ _ hX0 ?_;clear hK hgk;have HL:=h! hL0;have hE:=h! hX0;clear hA0 hL0 hX0;generalize wd.alloc (.cells #[.string ⟨#[100,111,99]⟩,.string ⟨#[49]⟩,.string ⟨#[118,105,101,119,101,114]⟩,.string ⟨#[117,115,101,114]⟩,.string ⟨#[50]⟩,.string ⟨#[]⟩] 67)=u1 at *;refine p! 3 10 ?_ ?_;refine b! ?_;intro K hK;go_simp;refine(HNB.out u1 gk hE.out HL.out).mono ?_;rintro e u2 ⟨bk,rfl,hB1,hx1⟩;have hX1:=Ext.trans hE.out hx1;refine hK.out _ _ hX1 ?_;clear hK;have HBK:=h! hB1;have hE:=h! hX1;clear hx1 hX1 hB1 HL;refine t! 4 ?_
  refine p! 6 10 ?_ ?_;refine b! ?_;intro K hK;go_simp;refine(HWK.out u2 bk hE.out HBK.out).mono ?_;rintro e u3 ⟨hx2,n,so,sc,qo,qc,ev,hP2,rfl,hG2⟩;have hX2:=Ext.trans hE.out hx2;refine hK.out _ _ hX2 ?_;clear hK;have HR:=h! (show NtAt (fun x=>wd.heap.size<=x/\x<u3.heap.size) u3 n (.slice so n.subs.length sc,.slice qo n.ps.length qc)from hG2.mono fun x hx=>⟨Nat.le_trans hE.out.size hx.1,hx.2⟩);have HP:=h! hP2;have HBK:=h! (HBK.out.ext hx2);have hE:=h! hX2;clear hx2 hX2 hP2 hG2;refine t! 7 ?_
  refine t! 8 ?_
  refine t! 9 ?_
  refine o! 10 ?_;refine b! ?_;intro K hK;go_simp;obtain⟨bg,hbg⟩:∃ x,x=u3.heap.size:=⟨_,rfl⟩;rw[<- hbg];have hA3:=Ext.alloc u3 (.cells #[.int .i64 0,.string ⟨#[]⟩,.string ⟨#[]⟩,.string ⟨#[]⟩,.slice none 0 0,.slice none 0 0] 45);have hO3:Blk (u3.alloc (.cells #[.int .i64 0,.string ⟨#[]⟩,.string ⟨#[]⟩,.string ⟨#[]⟩,.slice none 0 0,.slice none 0 0] 45)) bg #[.int .i64 0,.string ⟨#[]⟩,.string ⟨#[]⟩,.string ⟨#[]⟩,.slice none 0 0,.slice none 0 0] 45:=by rw[hbg];exact Blk.made _ _ _
  have hX3:=Ext.trans hE.out hA3;have HBG:=h! (show wd.heap.size<=bg from by have:=hE.out.size;omega);have HBK:=h! (HBK.out.ext hA3);have HR:=h! (show NtAt (fun x=>x≠bg/\wd.heap.size<=x/\x<(u3.alloc (.cells #[.int .i64 0,.string ⟨#[]⟩,.string ⟨#[]⟩,.string ⟨#[]⟩,.slice none 0 0,.slice none 0 0] 45)).heap.size) (u3.alloc (.cells #[.int .i64 0,.string ⟨#[]⟩,.string ⟨#[]⟩,.string ⟨#[]⟩,.slice none 0 0,.slice none 0 0] 45)) n (.slice so n.subs.length sc,.slice qo n.ps.length qc)from(HR.out.same fun x hx=>hA3.block x hx.2).mono fun x hx=>⟨fun e=>by have:=hx.2;omega,hx.1,Nat.lt_of_lt_of_le hx.2 hA3.size⟩);refine hK.out _ _ hX3 ?_;clear hK hbg hA3;generalize u3.alloc (.cells #[.int .i64 0,.string ⟨#[]⟩,.string ⟨#[]⟩,.string ⟨#[]⟩,.slice none 0 0,.slice none 0 0] 45)=u4 at *;have hE:=h! hX3;have HG:=h! hO3;clear hO3 hX3;rotate_left
  refine b! ?_;intro K hK;go_simp;obtain⟨bg,hbg⟩:∃ x,x=u2.heap.size:=⟨_,rfl⟩;rw[<- hbg];have hA2:=Ext.alloc u2 (.cells #[.int .i64 0,.string ⟨#[]⟩,.string ⟨#[]⟩,.string ⟨#[]⟩,.slice none 0 0,.slice none 0 0] 45);have hO2:Blk (u2.alloc (.cells #[.int .i64 0,.string ⟨#[]⟩,.string ⟨#[]⟩,.string ⟨#[]⟩,.slice none 0 0,.slice none 0 0] 45)) bg #[.int .i64 0,.string ⟨#[]⟩,.string ⟨#[]⟩,.string ⟨#[]⟩,.slice none 0 0,.slice none 0 0] 45:=by rw[hbg];exact Blk.made _ _ _
  have hX2:=Ext.trans hE.out hA2;have HBG:=h! (show wd.heap.size<=bg from by have:=hE.out.size;omega);have HBK:=h! (HBK.out.ext hA2);refine hK.out _ _ hX2 ?_;clear hK hbg hA2;generalize u2.alloc (.cells #[.int .i64 0,.string ⟨#[]⟩,.string ⟨#[]⟩,.string ⟨#[]⟩,.slice none 0 0,.slice none 0 0] 45)=u3 at *;have hE:=h! hX2;have HG:=h! hO2;clear hO2 hX2;refine o! 6 ?_;refine b! ?_;intro K hK;go_simp;refine(HWK.out u3 bk hE.out HBK.out).mono ?_;rintro e u4 ⟨hx3,n,so,sc,qo,qc,ev,hP3,rfl,hG3⟩;have hX3:=Ext.trans hE.out hx3;refine hK.out _ _ hX3 ?_;clear hK;have HR:=h! (show NtAt (fun x=>x≠bg/\wd.heap.size<=x/\x<u4.heap.size) u4 n (.slice so n.subs.length sc,.slice qo n.ps.length qc)from hG3.mono fun x hx=>⟨fun e=>by have:=HG.out.lt;have:=hx.1;omega,Nat.le_trans hE.out.size hx.1,hx.2⟩);have HG:=h! (HG.out.below hx3);have HP:=h! hP3;have HBK:=h! (HBK.out.ext hx3);have hE:=h! hX3;clear hx3 hX3 hP3 hG3;refine t! 7 ?_
  refine t! 8 ?_
  refine t! 9 ?_
  rotate_left
  refine b! ?_;intro K hK;go_simp;obtain⟨bg,hbg⟩:∃ x,x=u1.heap.size:=⟨_,rfl⟩;rw[<- hbg];have hA1:=Ext.alloc u1 (.cells #[.int .i64 0,.string ⟨#[]⟩,.string ⟨#[]⟩,.string ⟨#[]⟩,.slice none 0 0,.slice none 0 0] 45);have hO1:Blk (u1.alloc (.cells #[.int .i64 0,.string ⟨#[]⟩,.string ⟨#[]⟩,.string ⟨#[]⟩,.slice none 0 0,.slice none 0 0] 45)) bg #[.int .i64 0,.string ⟨#[]⟩,.string ⟨#[]⟩,.string ⟨#[]⟩,.slice none 0 0,.slice none 0 0] 45:=by rw[hbg];exact Blk.made _ _ _
  have hX1:=Ext.trans hE.out hA1;have HBG:=h! (show wd.heap.size<=bg from by have:=hE.out.size;omega);have HL:=h! (HL.out.up hA1);refine hK.out _ _ hX1 ?_;clear hK hbg hA1;generalize u1.alloc (.cells #[.int .i64 0,.string ⟨#[]⟩,.string ⟨#[]⟩,.string ⟨#[]⟩,.slice none 0 0,.slice none 0 0] 45)=u2 at *;have hE:=h! hX1;have HG:=h! hO1;clear hO1 hX1;refine o! 3 ?_;refine b! ?_;intro K hK;go_simp;refine(HNB.out u2 gk hE.out HL.out).mono ?_;rintro e u3 ⟨bk,rfl,hB2,hx2⟩;have hX2:=Ext.trans hE.out hx2;refine hK.out _ _ hX2 ?_;clear hK;have HBK:=h! hB2;have HG:=h! (HG.out.below hx2);have hE:=h! hX2;clear hx2 hX2 hB2 HL;refine t! 4 ?_
  refine o! 6 ?_;refine b! ?_;intro K hK;go_simp;refine(HWK.out u3 bk hE.out HBK.out).mono ?_;rintro e u4 ⟨hx3,n,so,sc,qo,qc,ev,hP3,rfl,hG3⟩;have hX3:=Ext.trans hE.out hx3;refine hK.out _ _ hX3 ?_;clear hK;have HR:=h! (show NtAt (fun x=>x≠bg/\wd.heap.size<=x/\x<u4.heap.size) u4 n (.slice so n.subs.length sc,.slice qo n.ps.length qc)from hG3.mono fun x hx=>⟨fun e=>by have:=HG.out.lt;have:=hx.1;omega,Nat.le_trans hE.out.size hx.1,hx.2⟩);have HG:=h! (HG.out.below hx3);have HP:=h! hP3;have HBK:=h! (HBK.out.ext hx3);have hE:=h! hX3;clear hx3 hX3 hP3 hG3;refine t! 7 ?_
  refine t! 8 ?_
  refine t! 9 ?_
  rotate_left
  refine b! ?_;intro K hK;go_simp;obtain⟨bg,hbg⟩:∃ x,x=wd.heap.size:=⟨_,rfl⟩;rw[<- hbg];have hA0:=Ext.alloc wd (.cells #[.int .i64 0,.string ⟨#[]⟩,.string ⟨#[]⟩,.string ⟨#[]⟩,.slice none 0 0,.slice none 0 0] 45);have hO0:Blk (wd.alloc (.cells #[.int .i64 0,.string ⟨#[]⟩,.string ⟨#[]⟩,.string ⟨#[]⟩,.slice none 0 0,.slice none 0 0] 45)) bg #[.int .i64 0,.string ⟨#[]⟩,.string ⟨#[]⟩,.string ⟨#[]⟩,.slice none 0 0,.slice none 0 0] 45:=by rw[hbg];exact Blk.made _ _ _
  have hX0:=Ext.trans hE.out hA0;have HBG:=h! (show wd.heap.size<=bg from by have:=hE.out.size;omega);refine hK.out _ _ hX0 ?_;clear hK hbg hA0;generalize wd.alloc (.cells #[.int .i64 0,.string ⟨#[]⟩,.string ⟨#[]⟩,.string ⟨#[]⟩,.slice none 0 0,.slice none 0 0] 45)=u1 at *;have hE:=h! hX0;have HG:=h! hO0;clear hO0 hX0;refine o! 2 ?_;refine b! ?_;intro K hK;go_simp;have hA1:=Ext.alloc u1 (.cells #[.string ⟨#[100,111,99]⟩,.string ⟨#[49]⟩,.string ⟨#[118,105,101,119,101,114]⟩,.string ⟨#[117,115,101,114]⟩,.string ⟨#[50]⟩,.string ⟨#[]⟩] 67);have hL1:Sl (fun b=>b<(u1.alloc (.cells #[.string ⟨#[100,111,99]⟩,.string ⟨#[49]⟩,.string ⟨#[118,105,101,119,101,114]⟩,.string ⟨#[117,115,101,114]⟩,.string ⟨#[50]⟩,.string ⟨#[]⟩] 67)).heap.size) (u1.alloc (.cells #[.string ⟨#[100,111,99]⟩,.string ⟨#[49]⟩,.string ⟨#[118,105,101,119,101,114]⟩,.string ⟨#[117,115,101,114]⟩,.string ⟨#[50]⟩,.string ⟨#[]⟩] 67)) 6 (.slice (some ⟨u1.heap.size,0,none⟩) 1 1) (tuCs l28):=Sl.made u1 _ 6 1 67 _ rfl (by decide) (by simp);have hX1:=Ext.trans hE.out hA1;obtain⟨gk,hgk⟩:∃ x,x=u1.heap.size:=⟨_,rfl⟩;rw[<- hgk]at hL1 ⊢;refine hK.out _ _ hX1 ?_;clear hK hgk;have HG:=h! (HG.out.below hA1);have HL:=h! hL1;have hE:=h! hX1;clear hA1 hL1 hX1;generalize u1.alloc (.cells #[.string ⟨#[100,111,99]⟩,.string ⟨#[49]⟩,.string ⟨#[118,105,101,119,101,114]⟩,.string ⟨#[117,115,101,114]⟩,.string ⟨#[50]⟩,.string ⟨#[]⟩] 67)=u2 at *;refine o! 3 ?_;refine b! ?_;intro K hK;go_simp;refine(HNB.out u2 gk hE.out HL.out).mono ?_;rintro e u3 ⟨bk,rfl,hB2,hx2⟩;have hX2:=Ext.trans hE.out hx2;refine hK.out _ _ hX2 ?_;clear hK;have HBK:=h! hB2;have HG:=h! (HG.out.below hx2);have hE:=h! hX2;clear hx2 hX2 hB2 HL;refine t! 4 ?_
  refine o! 6 ?_;refine b! ?_;intro K hK;go_simp;refine(HWK.out u3 bk hE.out HBK.out).mono ?_;rintro e u4 ⟨hx3,n,so,sc,qo,qc,ev,hP3,rfl,hG3⟩;have hX3:=Ext.trans hE.out hx3;refine hK.out _ _ hX3 ?_;clear hK;have HR:=h! (show NtAt (fun x=>x≠bg/\wd.heap.size<=x/\x<u4.heap.size) u4 n (.slice so n.subs.length sc,.slice qo n.ps.length qc)from hG3.mono fun x hx=>⟨fun e=>by have:=HG.out.lt;have:=hx.1;omega,Nat.le_trans hE.out.size hx.1,hx.2⟩);have HG:=h! (HG.out.below hx3);have HP:=h! hP3;have HBK:=h! (HBK.out.ext hx3);have hE:=h! hX3;clear hx3 hX3 hP3 hG3;refine t! 7 ?_
  refine t! 8 ?_
  refine t! 9 ?_
  rotate_left
  all_goals
   refine o! 11 ?_;refine b! ?_;intro K hK;have hg:=HG.out.cells;have hf:=HG.out.free;go_simp;have hS4:=((((((HG.out.set_to (cs':=#[.int .i64 n.k,.string ⟨#[]⟩,.string ⟨#[]⟩,.string ⟨#[]⟩,.slice none 0 0,.slice none 0 0]) 0 (.int .i64 n.k) rfl).set_to (cs':=#[.int .i64 n.k,.string n.p.t,.string ⟨#[]⟩,.string ⟨#[]⟩,.slice none 0 0,.slice none 0 0]) 1 (.string n.p.t) rfl).set_to (cs':=#[.int .i64 n.k,.string n.p.t,.string n.p.i,.string ⟨#[]⟩,.slice none 0 0,.slice none 0 0]) 2 (.string n.p.i) rfl).set_to (cs':=#[.int .i64 n.k,.string n.p.t,.string n.p.i,.string n.p.r,.slice none 0 0,.slice none 0 0]) 3 (.string n.p.r) rfl).set_to (cs':=#[.int .i64 n.k,.string n.p.t,.string n.p.i,.string n.p.r,.slice so n.subs.length sc,.slice none 0 0]) 4 (.slice so n.subs.length sc) rfl).set_to (cs':=#[.int .i64 n.k,.string n.p.t,.string n.p.i,.string n.p.r,.slice so n.subs.length sc,.slice qo n.ps.length qc]) 5 (.slice qo n.ps.length qc) rfl);have hX4:Ext wd ((((((u4.setCell ⟨bg,0,none⟩ (.int .i64 n.k)).setCell ⟨bg,1,none⟩ (.string n.p.t)).setCell ⟨bg,2,none⟩ (.string n.p.i)).setCell ⟨bg,3,none⟩ (.string n.p.r)).setCell ⟨bg,4,none⟩ (.slice so n.subs.length sc)).setCell ⟨bg,5,none⟩ (.slice qo n.ps.length qc)):=Ext.put6 hE.out HBG.out _ _ _ _ _ _;have hR4:=(HR.out.same (w':=((((((u4.setCell ⟨bg,0,none⟩ (.int .i64 n.k)).setCell ⟨bg,1,none⟩ (.string n.p.t)).setCell ⟨bg,2,none⟩ (.string n.p.i)).setCell ⟨bg,3,none⟩ (.string n.p.r)).setCell ⟨bg,4,none⟩ (.slice so n.subs.length sc)).setCell ⟨bg,5,none⟩ (.slice qo n.ps.length qc))) fun x hx=>put6_other _ _ _ _ _ _ hx.1).mono (S':=fun x=>x≠bg/\wd.heap.size<=x/\x<((((((u4.setCell ⟨bg,0,none⟩ (.int .i64 n.k)).setCell ⟨bg,1,none⟩ (.string n.p.t)).setCell ⟨bg,2,none⟩ (.string n.p.i)).setCell ⟨bg,3,none⟩ (.string n.p.r)).setCell ⟨bg,4,none⟩ (.slice so n.subs.length sc)).setCell ⟨bg,5,none⟩ (.slice qo n.ps.length qc)).heap.size) fun x hx=>⟨hx.1,hx.2.1,by simpa using hx.2.2⟩;refine hK.out _ _ hX4 ?_;clear hK hg hf;generalize (((((u4.setCell ⟨bg,0,none⟩ (.int .i64 n.k)).setCell ⟨bg,1,none⟩ (.string n.p.t)).setCell ⟨bg,2,none⟩ (.string n.p.i)).setCell ⟨bg,3,none⟩ (.string n.p.r)).setCell ⟨bg,4,none⟩ (.slice so n.subs.length sc)).setCell ⟨bg,5,none⟩ (.slice qo n.ps.length qc)=u5 at *;refine t! 12 ?_
   refine d! ?_;exact⟨rfl,gk,bk,bg,so,sc,qo,qc,n,ev,rfl,HP.out,hX4,HBG.out,hS4,hR4⟩
 rintro e _ W6 ⟨rfl,gk6,bk6,bg6,so6,sc6,qo6,qc6,n6,ev6,rfl,hP,hX,hbg,hblk,hgr⟩;try dsimp only
 have X56:=h! (show Ext W5 W6 from Ext.trans hxd.out hX);rcases hP with⟨-,rfl,rfl⟩ | ⟨hl,-⟩
 case inr=>rw[cut28]at hl;exact absurd hl (by decide)
 rw[cut28]at hblk hgr;rw[cut28];have B6:=h! (show Blk W6 bg6 #[.int .i64 0,.string ⟨#[100,111,99]⟩,.string ⟨#[49]⟩,.string ⟨#[118,105,101,119,101,114]⟩,.slice so6 0 sc6,.slice qo6 0 qc6] 45 from hblk);have N6:=h! (show NtAt (· < W6.heap.size) W6 (.mk 0 p28 [] []) (.slice so6 0 sc6,.slice qo6 0 qc6)from hgr.mono fun x hx=>hx.2.2);have B5:=h! (B5.out.below X56.out);have D5:=h! (And.intro (X56.out.cell D5.out.1) (And.intro (X56.out.cell D5.out.2.1) (X56.out.cell D5.out.2.2)));have X6:=h! (show Ext w4 W6 from Ext.trans X5.out X56.out);clear hX hxd hwd hblk hgr hbg X56 X5;have HNI:=h! (treeNil_any ts28 (.slice aot 2 ct) (.slice none 0 0) p28 (.int .i64 0) 9 W6 (HT4.out W6 X6.out) arg28.ok arg28.chk arg28.sb arg28.sz arg28.names arg28.refs);unfold pV at HNI;dsimp only[p28,docB,viB]at HNI;have hs:=(HS4.out W6 X6.out).cells;have hp:=(HP4.out W6 X6.out).cells;go_wp2_with fail
 refine HNI.out.mono ?_;rintro e W7 ⟨hx7,rfl⟩;obtain⟨W8,hW8⟩:∃ y,y=W7.alloc (.cells #[.int .i64 0,.string ⟨#[]⟩,.string ⟨#[]⟩,.string ⟨#[]⟩,.slice none 0 0,.slice none 0 0] 45):=⟨_,rfl⟩;have x8:Ext W6 W8:=hx7.trans (by rw[hW8];exact Ext.alloc _ _);have x7:Ext W6 W8:=x8;have hu0:=(HU4.out W8 (Ext.trans X6.out x8)).cells;have X8:=h! (show Below w.heap.size w W8 from Below.trans HBT.out (Below.mono (Ext.trans X6.out x8) HBT.out.size));have h5:=fun W (h:Ext W8 W)=>(B5.out.below (Ext.trans x8 h)).cells;have h6:=fun W (h:Ext W8 W)=>(B6.out.below (Ext.trans x8 h)).cells;have hu:=fun W (h:Ext W8 W)=>(HU4.out W (Ext.trans X6.out (Ext.trans x8 h))).cells;have d0:=fun W (h:Ext W8 W)=>(Ext.trans x8 h).cell D5.out.1;have d1:=fun W (h:Ext W8 W)=>(Ext.trans x8 h).cell D5.out.2.1;have d2:=fun W (h:Ext W8 W)=>(Ext.trans x8 h).cell D5.out.2.2
 have HCU:=h! (fun W (h:Ext W8 W)=>show Calls Tryz.prog 30 #[.agg #[.int .i64 0,.string ⟨#[100,111,99]⟩,.string ⟨#[49]⟩,.string ⟨#[118,105,101,119,101,114]⟩,.slice so6 0 sc6,.slice qo6 0 qc6]] W fun e w'=>∃ (v':Value) (l:List P3),e = .returned v'/\UpP l/\(∀ q,q∈l↔q∈(NT.mk 0 p28 [] []).cuts)/\Own w' W.heap.size 32 3 v' (pcs l)/\Ext W w' from
  ecuts_any (.mk 0 p28 [] []) (.slice so6 0 sc6,.slice qo6 0 qc6) W (N6.out.up (Ext.trans x8 h)) (by rw[show(NT.mk 0 p28 [] []).sz=1 from by kernel_rfl];decide) (fun m hm=>by
   rw[show(NT.mk 0 p28 [] []).pre=[.mk 0 p28 [] []]from by kernel_rfl]at hm;obtain rfl:=List.mem_singleton.1 hm;exact⟨⟨by decide,by decide,by decide⟩,fun s hs=>by cases hs⟩))
 have heq:=fun W=>sub_eql u28 u28 W;simp only[decide_true]at heq;unfold pV at heq;dsimp only[u28,usB]at heq;clear hs hp HNI X6 x8 hx7 x7 hu0 B5 D5 B6 N6 HBT HT4 HS4 HU4 HP4;go_wp2_with fail
 try rw[<- hW8]
 refine region_walkN (Ext W8) (Ext.drew _) (by kernel_rfl) (by kernel_rfl) (fun _ _ d _ _ h=>by cases d <;> exact h) ?_;clear hW8;(refine WalkN.tk [0,1,2,3,4,5,6,7,8,9,10,11,12,13,14,15,16,17,18,19,20,21,22,23,24,25,26,27,28,29,30,31,32,33,34,35,36] ?_;(iterate 37 (refine c! ?_));refine TkN.n ?_)
 clear h5 h6 hu d0 d1 d2 heq;refine o! 37 ?_;refine b! ?_;intro K hK;go_simp;refine(HCU.out _ (Ext.drew _)).mono ?_;rintro e W9 ⟨v',l,rfl,hup,hm,ho,hx9⟩;obtain rfl:l=[p28]:=upP_unique hup (List.pairwise_singleton _ _) fun q=>by rw[hm q,show(NT.mk 0 p28 [] []).cuts=[p28]from by kernel_rfl]
 obtain⟨ao,n,c,rfl,hn,-,-⟩:=ho.slU.len
 obtain rfl:n=1:=by
  have:(pcs [p28]).length=3:=by kernel_rfl
  omega
 refine hK.out _ _ (Ext.trans (Ext.drew _) hx9) ?_;have XE:=h! (Below.trans X8.out (Below.mono (Ext.trans (Ext.drew _) hx9) X8.out.size));clear hK HCU hup hm ho hn hx9;(refine WalkN.tk [38,39,40,41] ?_;(iterate 4 (refine c! ?_));refine TkN.n ?_)
 refine d! ?_;go_wp2
 go_ret
 exact⟨rfl,XE.out⟩
end Go.Proofs.YtlhaghoajpglaaaGreat
