/- Lemmas for the claim, no condition. -/
import GoSem.PinnedTables
import Derived.Deep.DeepHandedRow
import Derived.Lib.SmallJoins
import Derived.Test.YtlhaghoajpglaaaGreatYXTells10
import Derived.Test.YtlhaghoajpglaaaGreatYXTells11
import Derived.Test.YtlhaghoajpglaaaGreatYXTells9
import Derived.Test.YtlhaghoajpglaaaGreatYXTells4
import Derived.Test.YtlhaghoajpglaaaGreatYXTells2
import Derived.Test.YtlhaghoajpglaaaGreatYXTells0
import Derived.Test.YtlhaghoajpglaaaGreatYXTells1
import Derived.Test.YtlhaghoajpglaaaGreatYXTells8
import Derived.Test.YtlhaghoajpglaaaGreatYXTells7
import Derived.Test.YtlhaghoajpglaaaGreatYXTells6
namespace Go.Proofs.YtlhaghoajpglaaaGreat
open Go Go.RowKit Go.Maps
mutual
def NT.tot:NT->Nat | .mk _ _ s ps=>1+s.length+totL ps
def totL:List NT->Nat | []=>0 | r::rs=>r.tot+totL rs
end
theorem NT.tot_eq (r:NT):r.tot=1+r.subs.length+totL r.ps:=by
 obtain⟨k,p,s,ps⟩:=r;rw[NT.tot];rfl
theorem totL_append (a b:List NT):totL (a++b)=totL a+totL b:=by
 induction a with
 | nil=>simp[totL]
 | cons x a ih=>rw[List.cons_append,totL,totL,ih];omega
theorem totL_take {l:List NT} {i:Nat} (hi:i<l.length):totL (l.take (i+1))=totL (l.take i)+l[i].tot:=by
 rw[List.take_succ_eq_append_getElem hi,totL_append,totL,totL];rfl
theorem tot_bound (n:NT):n.sz<=n.tot/\n.lvs.length<=n.tot/\n.cuts.length<=n.sz:=by
 induction n using NT.ind with
 | h r ih =>
  rw[r.tot_eq,r.sz_eq,r.lvs_eq,r.cuts_eq,List.length_append,List.length_append]
  have:∀ l:List NT,(∀ x∈l,x∈r.ps)->nszL l<=totL l/\(lvsL l).length<=totL l/\(cutsL l).length<=nszL l:=by
   intro l;induction l with
   | nil=>intro _;simp[nszL,totL,lvsL,cutsL]
   | cons x l ihl =>
    intro h;have h1:=ih x (h x (by simp));have h2:=ihl fun y hy=>h y (List.mem_cons_of_mem _ hy);rw[nszL,totL,lvsL,cutsL,List.length_append,List.length_append];omega
  have h:=this r.ps fun _ h=>h;have h3:(if r.k=1 then r.subs else []).length<=r.subs.length:=by split <;> simp
  have h4:(if r.k=0 then [r.p]else []).length<=1:=by split <;> simp
  omega
set_option maxRecDepth 100000 in
set_option maxHeartbeats 1000000 in
theorem fewN_any (r:NT):∀ (v:NV2)(left:Int)(w:World),NtAt (· < w.heap.size) w r v->0<=left->left<=1000000 ->
  Calls Tryz.prog 23 #[nV2 r v,.int .i64 left] w fun e w'=>∃ q:Int,e = .returned (.int .i64 q) /\ -9223372036854775808<=q/\q<=left/\(0<=q->q+r.tot=left)/\Ext w w':=by
 induction r using NT.ind with
 | h r ih =>
 intro v left w h h0 hm;obtain⟨a1,c1,a4,c4,rfl⟩:=h.shape;obtain⟨k,⟨pt,pi,pr⟩,subs,parts⟩:=r;have HIH:=h! ih;have H1:=h! h;have HL:=h! (And.intro h0 hm)
 have HSB:=h! (show subs.length<=9223372036854775807 from by
  obtain⟨_,n,c,e,h1,h2,h3⟩:=((NtAt.iff _ _).1 h).1.len;have:=pcs_length subs;dsimp only[NT.subs]at h1;omega)
 clear ih h h0 hm;unfold nV2;dsimp only[NT.k,NT.p,NT.subs,NT.ps]at HIH H1 ⊢;obtain⟨wa,hwa⟩:∃ x,x=w.alloc (.cells #[.int .i64 k,.string pt,.string pi,.string pr,.slice a1 subs.length c1,.slice a4 parts.length c4] 45):=⟨_,rfl⟩;have ea:wa.heap.size=w.heap.size+1:=by rw[hwa];simp
 have XA:=h! (show Ext w wa from by rw[hwa];exact Ext.alloc _ _);have BA:=h! (show Blk wa w.heap.size #[.int .i64 k,.string pt,.string pi,.string pr,.slice a1 subs.length c1,.slice a4 parts.length c4] 45 from by rw[hwa];exact Blk.made _ _ _);have EA:=h! ea;clear ea;subst hwa;have hA:=BA.out.cells;go_enter Tryz.func23,Tryz.ntmps23
 go_wp2_with fail
 clear hA;obtain⟨l0,hl0⟩:∃ y:Int,y=left-1-subs.length:=⟨_,rfl⟩;have L0:=h! hl0;have L1:=h! (show wrap64 (wrap64 (left-1)-subs.length)=l0 from by rw[hl0];have:=HL.out.1;have:=HL.out.2;have:=HSB.out;unfold wrap64;omega);try rw[L1.out]
 clear hl0;obtain⟨w4,hw4⟩:∃ y,y=w.alloc (.cells #[.int .i64 k,.string pt,.string pi,.string pr,.slice a1 subs.length c1,.slice a4 parts.length c4] 45):=⟨_,rfl⟩;rw[<- hw4]at BA XA ⊢;clear hw4;go_loopw [1,16] (fun lv iv wr=>∃ (i:Nat) (q:Int),i<=parts.length/\iv = .int .i64 i/\lv = .int .i64 q /\ -9223372036854775808<=q/\q<=l0/\(0<=q->q+totL (parts.take i)=l0)/\Ext w wr) (fun _ iv _=>parts.length-(intOf iv).toNat)
 case atStart=>exact⟨0,l0,Nat.zero_le _,rfl,rfl,by have:=L0.out;have:=HL.out.1;have:=HSB.out;omega,Int.le_refl _,fun _=>by simp[totL],XA.out⟩
 case round =>
  obtain⟨i,q,hi,rfl,rfl,hq1,hq2,hq3,hx⟩:=hrel;have RX:=h! hx;have RQ:=h! (And.intro hq1 (And.intro hq2 hq3));clear hx hq1 hq2 hq3;by_cases hlt:i<parts.length
  ·obtain⟨ao1,g1,he1,hg1,hg2,hc1⟩:=(H1.out.same (w':=wr) fun y hy=>RX.out.block y hy).rows;dsimp only[NT.ps]at he1 hg1 hg2 hc1;cases he1;obtain⟨p1,q1,u,rfl,hp1,e0,e1,e2,e3,e4,e5,hu⟩:=hc1 i hlt;have HII:=h! (HIH.out parts[i] (List.getElem_mem hlt));have HTK:=h! (totL_take hlt);generalize parts[i]=x at *;have HLT:=h! hlt;have HWI:=h! (show wrap64 ((i:Int)+1)=((i+1:Nat):Int)from by unfold wrap64;omega);have hli:(i:Int)<(parts.length:Int):=by omega
   obtain⟨l1,m1,l4,m4,rfl⟩:=hu.shape;dsimp only at e0 e1 e2 e3 e4 e5;obtain⟨wp,hwp⟩:∃ y,y=wr.alloc (.cells #[.int .i64 x.k,.string x.p.t,.string x.p.i,.string x.p.r,.slice l1 x.subs.length m1,.slice l4 x.ps.length m4] 45):=⟨_,rfl⟩;have PX:=h! (show Ext wr wp from by rw[hwp];exact Ext.alloc _ _);have PB:=h! (show Blk wp wr.heap.size #[.int .i64 x.k,.string x.p.t,.string x.p.i,.string x.p.r,.slice l1 x.subs.length m1,.slice l4 x.ps.length m4] 45 from by rw[hwp];exact Blk.made _ _ _);have HU:=h! (show NtAt (· < wp.heap.size) wp x (.slice l1 x.subs.length m1,.slice l4 x.ps.length m4)from(hu.same fun y hy=>PX.out.block y (Nat.lt_of_lt_of_le hy RX.out.size)).mono fun y hy=>Nat.lt_of_lt_of_le hy (RX.out.trans PX.out).size);have pb:=PB.out.cells;clear hlt hc1 hu hp1 hg1 hg2;subst hwp;by_cases hq:q<0
   ·have HQ:=h! hq;go_wp2_with fail
    go_ret
    exact⟨q,rfl,RQ.out.1,by have:=L0.out;have:=RQ.out.2.1;omega,fun h=>by have:=HQ.out;omega,RX.out.trans PX.out⟩
   ·have HFW:=h! (HII.out (.slice l1 x.subs.length m1,.slice l4 x.ps.length m4) q _ HU.out (by omega) (by have:=RQ.out.2.1;have:=L0.out;have:=HL.out.2;omega));unfold nV2 at HFW;have HQ:=h! (show 0<=q from by omega);go_wp2_with fail
    refine HFW.out.mono ?_;rintro e w5 ⟨q2,rfl,hq1,hq2,hq3,hx5⟩;have X5:=h! (show Ext w w5 from RX.out.trans (PX.out.trans hx5));have Q5:=h! (And.intro hq1 (And.intro hq2 hq3));clear hq1 hq2 hq3 hx5 hq pb HFW;go_wp2_with fail
    go_roundw
    case rel=>exact⟨i+1,q2,HLT.out,by first | rw[HWI.out] | go_num,rfl,Q5.out.1,by have:=Q5.out.2.1;have:=RQ.out.2.1;omega,fun h=>by rw[HTK.out];have:=Q5.out.2.2 h;have:=RQ.out.2.2 HQ.out;omega,X5.out⟩
    case measure=>have:=HLT.out;(try rw[HWI.out]);simp[intOf];omega
  ·obtain rfl:i=parts.length:=by omega
   clear hlt hi;go_wp2_with fail
   go_ret
   refine⟨q,rfl,RQ.out.1,by have:=L0.out;have:=RQ.out.2.1;omega,fun h=>?_,RX.out⟩;have h2:=RQ.out.2.2 h;rw[List.take_length]at h2;rw[NT.tot];have:=L0.out;omega
set_option maxRecDepth 100000 in
set_option maxHeartbeats 1000000 in
theorem sizeN_any (r:NT):∀ (v:NV2)(w:World),NtAt (· < w.heap.size) w r v->r.sz<=1000000 ->
  Calls Tryz.prog 25 #[nV2 r v] w fun e w'=>e = .returned (.int .i64 r.sz)/\Ext w w':=by
 induction r using NT.ind with
 | h r ih =>
 intro v w h hz;obtain⟨a1,c1,a4,c4,rfl⟩:=h.shape;obtain⟨k,⟨pt,pi,pr⟩,subs,parts⟩:=r;have HIH:=h! ih;have H1:=h! h;have HZ:=h! hz;clear ih h hz;unfold nV2;dsimp only[NT.k,NT.p,NT.subs,NT.ps]at HIH H1 ⊢;rw[NT.sz]at HZ ⊢;obtain⟨wa,hwa⟩:∃ x,x=w.alloc (.cells #[.int .i64 k,.string pt,.string pi,.string pr,.slice a1 subs.length c1,.slice a4 parts.length c4] 45):=⟨_,rfl⟩;have ea:wa.heap.size=w.heap.size+1:=by rw[hwa];simp
 have XA:=h! (show Ext w wa from by rw[hwa];exact Ext.alloc _ _);have BA:=h! (show Blk wa w.heap.size #[.int .i64 k,.string pt,.string pi,.string pr,.slice a1 subs.length c1,.slice a4 parts.length c4] 45 from by rw[hwa];exact Blk.made _ _ _);have EA:=h! ea;clear ea;subst hwa;have hA:=BA.out.cells;go_enter Tryz.func25,Tryz.ntmps25
 go_wp2_with fail
 clear hA;obtain⟨w4,hw4⟩:∃ y,y=w.alloc (.cells #[.int .i64 k,.string pt,.string pi,.string pr,.slice a1 subs.length c1,.slice a4 parts.length c4] 45):=⟨_,rfl⟩;rw[<- hw4]at BA XA ⊢;clear hw4;go_loopw [3,9] (fun kv iv wr=>∃ i:Nat,i<=parts.length/\iv = .int .i64 i/\kv = .int .i64 ((1+nszL (parts.take i):Nat):Int)/\Ext w wr) (fun _ iv _=>parts.length-(intOf iv).toNat)
 case atStart=>exact⟨0,Nat.zero_le _,rfl,rfl,XA.out⟩
 case round =>
  obtain⟨i,hi,rfl,rfl,hx⟩:=hrel;have RX:=h! hx;clear hx;by_cases hlt:i<parts.length
  ·obtain⟨ao1,g1,he1,hg1,hg2,hc1⟩:=(H1.out.same (w':=wr) fun y hy=>RX.out.block y hy).rows;dsimp only[NT.ps]at he1 hg1 hg2 hc1;cases he1;obtain⟨p1,q1,u,rfl,hp1,e0,e1,e2,e3,e4,e5,hu⟩:=hc1 i hlt;have HII:=h! (HIH.out parts[i] (List.getElem_mem hlt));have HTK:=h! (nszL_take hlt);have HLE:=h! (nszL_le parts (i+1));generalize parts[i]=x at *;have HLT:=h! hlt;have HWI:=h! (show wrap64 ((i:Int)+1)=((i+1:Nat):Int)from by unfold wrap64;omega);have hli:(i:Int)<(parts.length:Int):=by omega
   obtain⟨l1,m1,l4,m4,rfl⟩:=hu.shape;dsimp only at e0 e1 e2 e3 e4 e5;obtain⟨wp,hwp⟩:∃ y,y=wr.alloc (.cells #[.int .i64 x.k,.string x.p.t,.string x.p.i,.string x.p.r,.slice l1 x.subs.length m1,.slice l4 x.ps.length m4] 45):=⟨_,rfl⟩;have PX:=h! (show Ext wr wp from by rw[hwp];exact Ext.alloc _ _);have PB:=h! (show Blk wp wr.heap.size #[.int .i64 x.k,.string x.p.t,.string x.p.i,.string x.p.r,.slice l1 x.subs.length m1,.slice l4 x.ps.length m4] 45 from by rw[hwp];exact Blk.made _ _ _);have HU:=h! (show NtAt (· < wp.heap.size) wp x (.slice l1 x.subs.length m1,.slice l4 x.ps.length m4)from(hu.same fun y hy=>PX.out.block y (Nat.lt_of_lt_of_le hy RX.out.size)).mono fun y hy=>Nat.lt_of_lt_of_le hy (RX.out.trans PX.out).size);have pb:=PB.out.cells;clear hlt hc1 hu hp1 hg1 hg2;subst hwp;have HFW:=h! (HII.out (.slice l1 x.subs.length m1,.slice l4 x.ps.length m4) _ HU.out (by have:=HTK.out;have:=HLE.out;have:=HZ.out;omega));unfold nV2 at HFW;have HSU:=h! (show wrap64 (((1+nszL (parts.take i):Nat):Int)+(x.sz:Int))=((1+nszL (parts.take (i+1)):Nat):Int)from by rw[HTK.out];have:=HTK.out;have:=HLE.out;have:=HZ.out;unfold wrap64;omega);go_wp2_with fail
   refine HFW.out.mono ?_;rintro e w5 ⟨rfl,hx5⟩;have X5:=h! (show Ext w w5 from RX.out.trans (PX.out.trans hx5));clear hx5 pb HFW;go_wp2_with fail
   go_roundw
   case rel=>exact⟨i+1,HLT.out,by first | rw[HWI.out] | go_num,congrArg (Value.int .i64) (by rw[<- HSU.out];simp),X5.out⟩
   case measure=>have:=HLT.out;(try rw[HWI.out]);simp[intOf];omega
  ·obtain rfl:i=parts.length:=by omega
   have HTA:=h! (show parts.take parts.length=parts from List.take_length);clear hlt hi;rw[HTA.out];go_wp2_with fail
   go_ret
   exact⟨rfl,RX.out⟩
theorem cutsL_le (l:List NT)(i:Nat):(cutsL (l.take i)).length<=(cutsL l).length:=by
 have:=cutsL_append (l.take i) (l.drop i);rw[List.take_append_drop]at this;rw[this,List.length_append];omega
set_option maxRecDepth 100000 in
set_option maxHeartbeats 1000000 in
theorem cutsN_any (r:NT):∀ (v:NV2)(w:World),NtAt (· < w.heap.size) w r v->r.cuts.length<=1000000 ->
  Calls Tryz.prog 92 #[nV2 r v] w fun e w'=>∃ v':Value,e = .returned v'/\Sl (· < w'.heap.size) w' 3 v' (pcs r.cuts)/\Ext w w':=by
 induction r using NT.ind with
 | h r ih =>
 intro v w h hz;obtain⟨a1,c1,a4,c4,rfl⟩:=h.shape;obtain⟨k,⟨pt,pi,pr⟩,subs,parts⟩:=r;have HIH:=h! ih;have H1:=h! h;have HZ:=h! hz;clear ih h hz;unfold nV2;dsimp only[NT.k,NT.p,NT.subs,NT.ps]at HIH H1 ⊢;rw[NT.cuts]at HZ ⊢;obtain⟨hd,hhd⟩:∃ y:List P3,y=if k=0 then [⟨pt,pi,pr⟩]else []:=⟨_,rfl⟩;rw[<- hhd]at HZ ⊢;obtain⟨wa,hwa⟩:∃ x,x=w.alloc (.cells #[.int .i64 k,.string pt,.string pi,.string pr,.slice a1 subs.length c1,.slice a4 parts.length c4] 45):=⟨_,rfl⟩;have ea:wa.heap.size=w.heap.size+1:=by rw[hwa];simp
 have XA:=h! (show Ext w wa from by rw[hwa];exact Ext.alloc _ _);have BA:=h! (show Blk wa w.heap.size #[.int .i64 k,.string pt,.string pi,.string pr,.slice a1 subs.length c1,.slice a4 parts.length c4] 45 from by rw[hwa];exact Blk.made _ _ _);have EA:=h! ea;clear ea;subst hwa;have hA:=BA.out.cells;go_enter Tryz.func92,Tryz.ntmps92
 by_cases hk:k=0
 case' pos =>
  rw[if_pos hk]at hhd;subst hk;obtain⟨w3,hw3⟩:∃ y,y=w.alloc (.cells #[.int .i64 0,.string pt,.string pi,.string pr,.slice a1 subs.length c1,.slice a4 parts.length c4] 45):=⟨_,rfl⟩;rw[<- hw3]at BA XA EA hA;have HSL:=h! (show Sl (fun _=>True) (w3.alloc (.cells #[.string pt,.string pi,.string pr] 32)) 3 (.slice (some ⟨w.heap.size+1,0,none⟩) 1 1) (pcs [⟨pt,pi,pr⟩])from by rw[<- EA.out];exact Sl.made w3 (fun _=>True) 3 1 32 #[.string pt,.string pi,.string pr] rfl (by decide) trivial);have X3:=h! (Ext.alloc w3 (.cells #[.string pt,.string pi,.string pr] 32));have HON:=h! (show Own (w3.alloc (.cells #[.string pt,.string pi,.string pr] 32)) (w.heap.size+1) 32 3 (.slice none 0 0) (pcs [])from Own.nil _ _ _ _);have HBB:=h! (show w.heap.size+1<=(w3.alloc (.cells #[.string pt,.string pi,.string pr] 32)).heap.size from by have:=EA.out;have:=X3.out.size;omega);subst hw3;go_wp2_with (at_builtin;go_must (refine wpList_own pointsT rfl (.tmp 9) (.tmp 15) rfl rfl HON.out rfl HSL.out (pcs_one [⟨pt,pi,pr⟩]) (by show 0+3<=_;omega) (by show(0+3)*48<=_;omega) HBB.out ?_);intro ov w4 hown4 hb4 hg4;have hA4:=(show Blk w4 w.heap.size _ _ from(hb4.block _ (by omega)).trans (BA.out.below X3.out)).cells)
  have HO:=h! (show Own w4 (w.heap.size+1) 32 3 ov (pcs hd)from by rw[hhd];exact hown4);have HS:=h! (show w.heap.size+1<=w4.heap.size from Nat.le_trans HBB.out hb4.size);have XA:=h! (show Ext w w4 from Below.trans XA.out (Below.trans (X3.out.mono XA.out.size) (hb4.mono (by omega))));clear hhd hA BA EA HSL X3 HON HBB hown4 hb4 hg4;clear hA4
 case' neg =>
  rw[if_neg hk]at hhd;go_wp2_with fail
  try simp only[show(k == 0)=false from by simpa using hk]
  clear hA hk;obtain⟨w4,hw4⟩:∃ y,y=w.alloc (.cells #[.int .i64 k,.string pt,.string pi,.string pr,.slice a1 subs.length c1,.slice a4 parts.length c4] 45):=⟨_,rfl⟩;rw[<- hw4]at BA XA EA ⊢;clear hw4;have HO:=h! (show Own w4 (w.heap.size+1) 32 3 (.slice none 0 0) (pcs hd)from by rw[hhd];exact Own.nil _ _ _ _);have HS:=h! (show w.heap.size+1<=w4.heap.size from by have:=EA.out;omega);clear hhd BA EA
 all_goals
  have HLN:=h! (show hd.length+(cutsL parts).length<=1000000 from by have:=HZ.out;rw[List.length_append]at this;exact this);clear HZ;go_loopw [3,20] (fun ov iv wr=>∃ i:Nat,i<=parts.length/\iv = .int .i64 i/\Own wr (w.heap.size+1) 32 3 ov (pcs (hd++cutsL (parts.take i)))/\Ext w wr/\w.heap.size+1<=wr.heap.size) (fun _ iv _=>parts.length-(intOf iv).toNat)
  case atStart=>exact⟨0,Nat.zero_le _,rfl,by simpa [cutsL] using HO.out,XA.out,HS.out⟩
  case round =>
   obtain⟨i,hi,rfl,ho,hx,hsz⟩:=hrel;have RX:=h! hx;have RO:=h! ho;have RS:=h! hsz;clear hx ho hsz HO HS;by_cases hlt:i<parts.length
   ·obtain⟨ao1,g1,he1,hg1,hg2,hc1⟩:=(H1.out.same (w':=wr) fun y hy=>RX.out.block y hy).rows;dsimp only[NT.ps]at he1 hg1 hg2 hc1;cases he1;obtain⟨p1,q1,u,rfl,hp1,e0,e1,e2,e3,e4,e5,hu⟩:=hc1 i hlt;have HII:=h! (HIH.out parts[i] (List.getElem_mem hlt));have HTK:=h! (cutsL_take hlt);have HLE:=h! (cutsL_le parts (i+1));generalize parts[i]=x at *;have HLT:=h! hlt;have HWI:=h! (show wrap64 ((i:Int)+1)=((i+1:Nat):Int)from by unfold wrap64;omega);have hli:(i:Int)<(parts.length:Int):=by omega
    obtain⟨l1,m1,l4,m4,rfl⟩:=hu.shape;dsimp only at e0 e1 e2 e3 e4 e5;obtain⟨wp,hwp⟩:∃ y,y=wr.alloc (.cells #[.int .i64 x.k,.string x.p.t,.string x.p.i,.string x.p.r,.slice l1 x.subs.length m1,.slice l4 x.ps.length m4] 45):=⟨_,rfl⟩;have PX:=h! (show Ext wr wp from by rw[hwp];exact Ext.alloc _ _);have PB:=h! (show Blk wp wr.heap.size #[.int .i64 x.k,.string x.p.t,.string x.p.i,.string x.p.r,.slice l1 x.subs.length m1,.slice l4 x.ps.length m4] 45 from by rw[hwp];exact Blk.made _ _ _);have HU:=h! (show NtAt (· < wp.heap.size) wp x (.slice l1 x.subs.length m1,.slice l4 x.ps.length m4)from(hu.same fun y hy=>PX.out.block y (Nat.lt_of_lt_of_le hy RX.out.size)).mono fun y hy=>Nat.lt_of_lt_of_le hy (RX.out.trans PX.out).size);have pb:=PB.out.cells;clear hlt hc1 hu hp1 hg1 hg2;subst hwp;have HXL:=h! (show(hd++cutsL (parts.take i)).length+x.cuts.length<=1000000 from by have:=HLE.out;rw[HTK.out,List.length_append]at this;rw[List.length_append];have:=HLN.out;omega);have HFW:=h! (HII.out (.slice l1 x.subs.length m1,.slice l4 x.ps.length m4) _ HU.out (by have:=HXL.out;omega));unfold nV2 at HFW;go_wp2_with fail
    refine HFW.out.mono ?_;rintro e w5 ⟨v5,rfl,hs5,hx5⟩;have X5:=h! (show Ext wr w5 from PX.out.trans hx5);have S5:=h! hs5;have O5:=h! (RO.out.below X5.out);clear hs5 hx5 pb HFW PX PB HU RO;go_wp2_with (at_builtin;go_must (refine wpList_own pointsT rfl (.tmp 24) (.tmp 26) rfl rfl O5.out rfl S5.out (pcs_one _) (by have:=HXL.out;rw[pcs_length,pcs_length];omega) (by have:=HXL.out;rw[pcs_length,pcs_length];omega) (by have:=RS.out;have:=X5.out.size;omega) ?_);intro v6 w6 hown6 hb6 hg6;have O6:=h! (show Own w6 (w.heap.size+1) 32 3 v6 (pcs (hd++cutsL (parts.take (i+1))))from by rw[HTK.out,<- List.append_assoc,pcs_append];exact hown6);have X6:=h! (show Ext w w6 from Below.trans RX.out (Below.trans (X5.out.mono RX.out.size) (hb6.mono (by omega))));have S6:=h! (show w.heap.size+1<=w6.heap.size from by have:=RS.out;have:=X5.out.size;have:=hb6.size;omega);clear hown6 hb6 hg6)
    go_wp2_with fail
    go_roundw
    case rel=>exact⟨i+1,HLT.out,by first | rw[HWI.out] | go_num,O6.out,X6.out,S6.out⟩
    case measure=>have:=HLT.out;(try rw[HWI.out]);simp[intOf];omega
   ·obtain rfl:i=parts.length:=by omega
    have HTA:=h! (show parts.take parts.length=parts from List.take_length);rw[HTA.out]at RO;clear hlt hi;go_wp2_with fail
    go_ret
    exact⟨_,rfl,RO.out.slU,RX.out⟩
theorem lvsL_le (l:List NT)(i:Nat):(lvsL (l.take i)).length<=(lvsL l).length:=by
 have:=lvsL_append (l.take i) (l.drop i);rw[List.take_append_drop]at this;rw[this,List.length_append];omega
set_option maxRecDepth 100000 in
set_option maxHeartbeats 1000000 in
theorem lvsN_any (r:NT):∀ (v:NV2)(w:World),NtAt (· < w.heap.size) w r v->r.lvs.length<=1000000 ->
  Calls Tryz.prog 88 #[nV2 r v] w fun e w'=>∃ v':Value,e = .returned v'/\Sl (· < w'.heap.size) w' 3 v' (pcs r.lvs)/\Ext w w':=by
 induction r using NT.ind with
 | h r ih =>
 intro v w h hz;obtain⟨a1,c1,a4,c4,rfl⟩:=h.shape;obtain⟨k,⟨pt,pi,pr⟩,subs,parts⟩:=r;have HIH:=h! ih;have H1:=h! h;have HZ:=h! hz;clear ih h hz;unfold nV2;dsimp only[NT.k,NT.p,NT.subs,NT.ps]at HIH H1 ⊢;rw[NT.lvs]at HZ ⊢;obtain⟨hd,hhd⟩:∃ y:List P3,y=if k=1 then subs else []:=⟨_,rfl⟩;rw[<- hhd]at HZ ⊢;obtain⟨wa,hwa⟩:∃ x,x=w.alloc (.cells #[.int .i64 k,.string pt,.string pi,.string pr,.slice a1 subs.length c1,.slice a4 parts.length c4] 45):=⟨_,rfl⟩;have ea:wa.heap.size=w.heap.size+1:=by rw[hwa];simp
 have XA:=h! (show Ext w wa from by rw[hwa];exact Ext.alloc _ _);have BA:=h! (show Blk wa w.heap.size #[.int .i64 k,.string pt,.string pi,.string pr,.slice a1 subs.length c1,.slice a4 parts.length c4] 45 from by rw[hwa];exact Blk.made _ _ _);have EA:=h! ea;clear ea;subst hwa;have hA:=BA.out.cells;go_enter Tryz.func88,Tryz.ntmps88
 by_cases hk:k=1
 case' pos =>
  rw[if_pos hk]at hhd;subst hk;obtain⟨w3,hw3⟩:∃ y,y=w.alloc (.cells #[.int .i64 1,.string pt,.string pi,.string pr,.slice a1 subs.length c1,.slice a4 parts.length c4] 45):=⟨_,rfl⟩;rw[<- hw3]at BA XA EA hA;have HSL:=h! (show Sl (· < w3.heap.size) w3 3 (.slice a1 subs.length c1) (pcs subs)from((NtAt.iff _ _).1 (H1.out.up XA.out)).1);have HON:=h! (show Own w3 (w.heap.size+1) 33 3 (.slice none 0 0) (pcs [])from Own.nil _ _ _ _);have HBB:=h! (show w.heap.size+1<=w3.heap.size from by have:=EA.out;omega);subst hw3;go_wp2_with (at_builtin;go_must (refine wpList_own subsT rfl (.tmp 9) (.tmp 11) rfl rfl HON.out rfl HSL.out (pcs_one subs) (by have:=HZ.out;rw[hhd,List.length_append]at this;rw[pcs_length,pcs_length];show 3*0+_<=_;omega) (by have:=HZ.out;rw[hhd,List.length_append]at this;rw[pcs_length,pcs_length];show(3*0+_)*48<=_;omega) HBB.out ?_);intro ov w4 hown4 hb4 hg4;have hA4:=(show Blk w4 w.heap.size _ _ from(hb4.block _ (by omega)).trans BA.out).cells)
  have HO:=h! (show Own w4 (w.heap.size+1) 33 3 ov (pcs hd)from by rw[hhd];exact hown4);have HS:=h! (show w.heap.size+1<=w4.heap.size from Nat.le_trans HBB.out hb4.size);have XA:=h! (show Ext w w4 from Below.trans XA.out (hb4.mono (by omega)));clear hhd hA BA EA HSL HON HBB hown4 hb4 hg4;clear hA4
 case' neg =>
  rw[if_neg hk]at hhd;go_wp2_with fail
  try simp only[show(k == 1)=false from by simpa using hk]
  clear hA hk;obtain⟨w4,hw4⟩:∃ y,y=w.alloc (.cells #[.int .i64 k,.string pt,.string pi,.string pr,.slice a1 subs.length c1,.slice a4 parts.length c4] 45):=⟨_,rfl⟩;rw[<- hw4]at BA XA EA ⊢;clear hw4;have HO:=h! (show Own w4 (w.heap.size+1) 33 3 (.slice none 0 0) (pcs hd)from by rw[hhd];exact Own.nil _ _ _ _);have HS:=h! (show w.heap.size+1<=w4.heap.size from by have:=EA.out;omega);clear hhd BA EA
 all_goals
  have HLN:=h! (show hd.length+(lvsL parts).length<=1000000 from by have:=HZ.out;rw[List.length_append]at this;exact this);clear HZ;go_loopw [3,16] (fun ov iv wr=>∃ i:Nat,i<=parts.length/\iv = .int .i64 i/\Own wr (w.heap.size+1) 33 3 ov (pcs (hd++lvsL (parts.take i)))/\Ext w wr/\w.heap.size+1<=wr.heap.size) (fun _ iv _=>parts.length-(intOf iv).toNat)
  case atStart=>exact⟨0,Nat.zero_le _,rfl,by simpa [lvsL] using HO.out,XA.out,HS.out⟩
  case round =>
   obtain⟨i,hi,rfl,ho,hx,hsz⟩:=hrel;have RX:=h! hx;have RO:=h! ho;have RS:=h! hsz;clear hx ho hsz HO HS;by_cases hlt:i<parts.length
   ·obtain⟨ao1,g1,he1,hg1,hg2,hc1⟩:=(H1.out.same (w':=wr) fun y hy=>RX.out.block y hy).rows;dsimp only[NT.ps]at he1 hg1 hg2 hc1;cases he1;obtain⟨p1,q1,u,rfl,hp1,e0,e1,e2,e3,e4,e5,hu⟩:=hc1 i hlt;have HII:=h! (HIH.out parts[i] (List.getElem_mem hlt));have HTK:=h! (lvsL_take hlt);have HLE:=h! (lvsL_le parts (i+1));generalize parts[i]=x at *;have HLT:=h! hlt;have HWI:=h! (show wrap64 ((i:Int)+1)=((i+1:Nat):Int)from by unfold wrap64;omega);have hli:(i:Int)<(parts.length:Int):=by omega
    obtain⟨l1,m1,l4,m4,rfl⟩:=hu.shape;dsimp only at e0 e1 e2 e3 e4 e5;obtain⟨wp,hwp⟩:∃ y,y=wr.alloc (.cells #[.int .i64 x.k,.string x.p.t,.string x.p.i,.string x.p.r,.slice l1 x.subs.length m1,.slice l4 x.ps.length m4] 45):=⟨_,rfl⟩;have PX:=h! (show Ext wr wp from by rw[hwp];exact Ext.alloc _ _);have PB:=h! (show Blk wp wr.heap.size #[.int .i64 x.k,.string x.p.t,.string x.p.i,.string x.p.r,.slice l1 x.subs.length m1,.slice l4 x.ps.length m4] 45 from by rw[hwp];exact Blk.made _ _ _);have HU:=h! (show NtAt (· < wp.heap.size) wp x (.slice l1 x.subs.length m1,.slice l4 x.ps.length m4)from(hu.same fun y hy=>PX.out.block y (Nat.lt_of_lt_of_le hy RX.out.size)).mono fun y hy=>Nat.lt_of_lt_of_le hy (RX.out.trans PX.out).size);have pb:=PB.out.cells;clear hlt hc1 hu hp1 hg1 hg2;subst hwp;have HXL:=h! (show(hd++lvsL (parts.take i)).length+x.lvs.length<=1000000 from by have:=HLE.out;rw[HTK.out,List.length_append]at this;rw[List.length_append];have:=HLN.out;omega);have HFW:=h! (HII.out (.slice l1 x.subs.length m1,.slice l4 x.ps.length m4) _ HU.out (by have:=HXL.out;omega));unfold nV2 at HFW;go_wp2_with fail
    refine HFW.out.mono ?_;rintro e w5 ⟨v5,rfl,hs5,hx5⟩;have X5:=h! (show Ext wr w5 from PX.out.trans hx5);have S5:=h! hs5;have O5:=h! (RO.out.below X5.out);clear hs5 hx5 pb HFW PX PB HU RO;go_wp2_with (at_builtin;go_must (refine wpList_own subsT rfl (.tmp 20) (.tmp 22) rfl rfl O5.out rfl S5.out (pcs_one _) (by have:=HXL.out;rw[pcs_length,pcs_length];omega) (by have:=HXL.out;rw[pcs_length,pcs_length];omega) (by have:=RS.out;have:=X5.out.size;omega) ?_);intro v6 w6 hown6 hb6 hg6;have O6:=h! (show Own w6 (w.heap.size+1) 33 3 v6 (pcs (hd++lvsL (parts.take (i+1))))from by rw[HTK.out,<- List.append_assoc,pcs_append];exact hown6);have X6:=h! (show Ext w w6 from Below.trans RX.out (Below.trans (X5.out.mono RX.out.size) (hb6.mono (by omega))));have S6:=h! (show w.heap.size+1<=w6.heap.size from by have:=RS.out;have:=X5.out.size;have:=hb6.size;omega);clear hown6 hb6 hg6)
    go_wp2_with fail
    go_roundw
    case rel=>exact⟨i+1,HLT.out,by first | rw[HWI.out] | go_num,O6.out,X6.out,S6.out⟩
    case measure=>have:=HLT.out;(try rw[HWI.out]);simp[intOf];omega
   ·obtain rfl:i=parts.length:=by omega
    have HTA:=h! (show parts.take parts.length=parts from List.take_length);rw[HTA.out]at RO;clear hlt hi;go_wp2_with fail
    go_ret
    exact⟨_,rfl,RO.out.slU,RX.out⟩
set_option maxHeartbeats 1000000 in
theorem point28_any (s:P3)(w:World):Calls Tryz.prog 89 #[pV s] w fun e w'=>e = .returned (pV s)/\Ext w w':=by
 obtain⟨st,si,sr⟩:=s;unfold pV;dsimp only;obtain⟨wa,hwa⟩:∃ y,y=w.alloc (.cells #[.string st,.string si,.string sr] 33):=⟨_,rfl⟩;obtain⟨wb,hwb⟩:∃ y,y=wa.alloc (.cells #[.string ⟨#[]⟩,.string ⟨#[]⟩,.string ⟨#[]⟩] 32):=⟨_,rfl⟩;have ea:wa.heap.size=w.heap.size+1:=by rw[hwa];simp
 have xa:Ext w wa:=by rw[hwa];exact Ext.alloc _ _
 have xb:Ext wa wb:=by rw[hwb];exact Ext.alloc _ _
 have XB:=h! (xa.trans xb);have hA:=(show Blk wb w.heap.size #[.string st,.string si,.string sr] 33 from Blk.below (by rw[hwa];exact Blk.made _ _ _) xb).cells;have BB:=h! (show Blk wb (w.heap.size+1) #[.string ⟨#[]⟩,.string ⟨#[]⟩,.string ⟨#[]⟩] 32 from by rw[hwb,<- ea];exact Blk.made _ _ _);have hB:=BB.out.cells;have hF:=BB.out.free;clear ea xa xb;subst hwb hwa;go_enter Tryz.func89,Tryz.ntmps89
 go_wp2_with fail
 clear hA hB hF;have h3:=Blk.made' (w:=w.alloc (.cells #[.string st,.string si,.string sr] 33)) (B:=w.heap.size+1) (by simp) #[.string st,.string si,.string sr] 32;refine bodyPost_ret (v := .agg #[.string st,.string si,.string sr]) ?_ rfl ⟨rfl,(Ext.alloc _ _).trans (Ext.alloc _ _)⟩;exact results_cell_row rfl _ _ (w.heap.size+1) 32 #[.string st,.string si,.string sr] (0,0) _ rfl h3 Tryz.underlying32 rfl (by kernel_rfl)
set_option maxRecDepth 100000 in
set_option maxHeartbeats 1000000 in
theorem dcuts_any (n:NT)(v:NV2)(w:World)(h:NtAt (· < w.heap.size) w n v)(hc:n.cuts.length<=1000000) :
  Calls Tryz.prog 31 #[nV2 n v] w fun e w'=>∃ (v':Value) (l:List P3),e = .returned v'/\UpP l/\(∀ q,q∈l↔q∈n.cuts)/\Sl (· < w'.heap.size) w' 3 v' (pcs l)/\Ext w w':=by
 obtain⟨a1,c1,a4,c4,rfl⟩:=h.shape;obtain⟨wa,hwa⟩:∃ y,y=w.alloc (.cells #[.int .i64 n.k,.string n.p.t,.string n.p.i,.string n.p.r,.slice a1 n.subs.length c1,.slice a4 n.ps.length c4] 45):=⟨_,rfl⟩;have XA:=h! (show Ext w wa from by rw[hwa];exact Ext.alloc _ _);have BA:=h! (show Blk wa w.heap.size #[.int .i64 n.k,.string n.p.t,.string n.p.i,.string n.p.r,.slice a1 n.subs.length c1,.slice a4 n.ps.length c4] 45 from by rw[hwa];exact Blk.made _ _ _);have HCU:=h! (cutsN_any n (.slice a1 n.subs.length c1,.slice a4 n.ps.length c4) wa (h.up XA.out) hc);have HC:=h! hc;unfold nV2 at *;have hA:=BA.out.cells;clear h hc;subst hwa;go_enter Tryz.func31,Tryz.ntmps31
 go_wp2_with fail
 clear hA;refine HCU.out.mono ?_;rintro e w2 ⟨v2,rfl,hs2,hx2⟩;have X2:=h! (show Ext w w2 from XA.out.trans hx2);have HSO:=h! (sorted_any v2 n.cuts w2 hs2 (by have:=HC.out;omega));clear hs2 hx2 HCU BA XA;go_wp2_with fail
 refine HSO.out.mono ?_;rintro e w3 ⟨v3,l,rfl,hup,hm,ho,hx3⟩;go_wp2_with fail
 go_ret
 exact⟨_,l,rfl,hup,hm,ho.slU,X2.out.trans hx3⟩
theorem UpP.nodup' {l:List P3} (h:UpP l):l.Nodup:=List.Pairwise.imp (fun {a b} h e=>by subst e;have:=ltP_asym h;rw[h]at this;cases this) h
set_option maxRecDepth 100000 in
set_option maxHeartbeats 2000000 in
theorem dleaves_any (n:NT)(v:NV2)(w:World)(h:NtAt (· < w.heap.size) w n v)(hc:n.lvs.length<=1000000) :
  Calls Tryz.prog 28 #[nV2 n v] w fun e w'=>∃ (v':Value) (l:List P3),e = .returned v'/\UpP l/\(∀ q,q∈l↔q∈n.lvs)/\Sl (· < w'.heap.size) w' 3 v' (pcs l)/\Ext w w':=by
 obtain⟨a1,c1,a4,c4,rfl⟩:=h.shape;obtain⟨wa,hwa⟩:∃ y,y=w.alloc (.cells #[.int .i64 n.k,.string n.p.t,.string n.p.i,.string n.p.r,.slice a1 n.subs.length c1,.slice a4 n.ps.length c4] 45):=⟨_,rfl⟩;have XA:=h! (show Ext w wa from by rw[hwa];exact Ext.alloc _ _);have BA:=h! (show Blk wa w.heap.size #[.int .i64 n.k,.string n.p.t,.string n.p.i,.string n.p.r,.slice a1 n.subs.length c1,.slice a4 n.ps.length c4] 45 from by rw[hwa];exact Blk.made _ _ _);have HCU:=h! (lvsN_any n (.slice a1 n.subs.length c1,.slice a4 n.ps.length c4) wa (h.up XA.out) hc);have HLw5:=h! hc;unfold nV2 at *;have hA:=BA.out.cells;clear h hc;subst hwa;go_enter Tryz.func28,Tryz.ntmps28
 go_wp2_with fail
 clear hA;refine HCU.out.mono ?_;rintro e w5 ⟨v2,rfl,hs2,hx2⟩;have X5:=h! (show Ext w w5 from XA.out.trans hx2);obtain⟨ao,c,rfl,-,-,hcc⟩:=Sl.rows pC_length (by decide) (show Sl _ w5 3 v2 (n.lvs.flatMap pC)from hs2);have HCw5:=h! hcc;clear hs2 hx2 HCU BA XA hcc;go_wp2_with fail
 go_loopw [3,12] (fun av iv wr=>∃ i:Nat,i<=n.lvs.length/\iv = .int .i64 i/\Own wr w5.heap.size 32 3 av (pcs (n.lvs.take i))/\Ext w5 wr) (fun _ iv _=>n.lvs.length-(intOf iv).toNat)
 case atStart=>exact⟨0,Nat.zero_le _,rfl,by simpa [pcs] using Own.nil _ _ _ _,Ext.refl _⟩
 case round =>
  obtain⟨i,hi,rfl,ho,hx⟩:=hrel;have RX:=h! hx;have RO:=h! ho;clear hx ho;by_cases hlt:i<n.lvs.length
  ·obtain⟨bq,oq,rfl,hbq,hcell⟩:=HCw5.out (by omega);have c0:=RX.out.cell (hcell i hlt 0 _ rfl);have c1:=RX.out.cell (hcell i hlt 1 _ rfl);have c2:=RX.out.cell (hcell i hlt 2 _ rfl);rw[Nat.add_zero]at c0;have HTK:=h! (List.take_succ_eq_append_getElem hlt);have HLT:=h! hlt;have HWI:=h! (show wrap64 ((i:Int)+1)=((i+1:Nat):Int)from by have:=HLw5.out;unfold wrap64;omega);generalize n.lvs[i]=x at *;obtain⟨xt,xi,xr⟩:=x;dsimp only at c0 c1 c2;clear hcell hbq;have hli:(i:Int)<(n.lvs.length:Int):=by omega
   have hby:=(Blk.made wr #[.string xt,.string xi,.string xr] 33).cells;obtain⟨wp,hwp⟩:∃ y,y=wr.alloc (.cells #[.string xt,.string xi,.string xr] 33):=⟨_,rfl⟩;have PX:=h! (show Ext wr wp from by rw[hwp];exact Ext.alloc _ _);have HPT:=h! (point28_any ⟨xt,xi,xr⟩ wp);unfold pV at HPT;dsimp only at HPT;clear hlt;subst hwp;go_wp2_with fail
   clear hby c0 c1 c2;refine HPT.out.mono ?_;rintro e w6 ⟨rfl,hx6⟩;have X6:=h! (show Ext wr w6 from PX.out.trans hx6);have XX:=h! (Ext.alloc w6 (.cells #[.string xt,.string xi,.string xr] 32));have HSL:=h! (Sl.made w6 (fun _=>True) 3 1 32 #[.string xt,.string xi,.string xr] rfl (by decide) trivial);have O6:=h! (RO.out.below (X6.out.trans XX.out));have R6:=h! (show w5.heap.size<=(w6.alloc (.cells #[.string xt,.string xi,.string xr] 32)).heap.size from(RX.out.trans (X6.out.trans XX.out)).size);clear hx6 PX HPT RO;go_wp2_with (at_builtin;go_must (refine wpList_own pointsT rfl (.tmp 16) (.tmp 19) rfl rfl O6.out rfl HSL.out (pC_one ⟨xt,xi,xr⟩) (by have:=HLT.out;have:=HLw5.out;rw[pcs_length,List.length_take];show _+3<=_;omega) (by have:=HLT.out;have:=HLw5.out;rw[pcs_length,List.length_take];show(_+3)*48<=_;omega) R6.out ?_);intro v7 w7 hown7 hb7 hg7;have O7:=h! (show Own w7 w5.heap.size 32 3 v7 (pcs (n.lvs.take (i+1)))from by rw[HTK.out,pcs_append,pcs_single];exact hown7);have X7:=h! (show Ext w5 w7 from Below.trans RX.out (Below.trans ((X6.out.trans XX.out).mono RX.out.size) hb7));clear hown7 hb7 hg7 O6)
   go_wp2_with fail
   go_roundw
   case rel=>exact⟨i+1,HLT.out,by first | rw[HWI.out] | go_num,O7.out,X7.out⟩
   case measure=>have:=HLT.out;(try rw[HWI.out]);simp[intOf];omega
  ·obtain rfl:i=n.lvs.length:=by omega
   have HTA:=h! (show n.lvs.take n.lvs.length=n.lvs from List.take_length);rw[HTA.out]at RO;clear hlt hi;have HSO:=h! (sorted_any _ n.lvs wr RO.out.slU (by have:=HLw5.out;omega));have X8:=h! (show Ext w wr from X5.out.trans RX.out);clear RO RX HTA HCw5;go_wp2_with fail
   refine HSO.out.mono ?_;rintro e w8 ⟨v3,l,rfl,hup,hm,ho,hx3⟩;have X8:=h! (show Ext w w8 from X8.out.trans hx3);have HUP:=h! (And.intro hup hm)
   have HLw8:=h! (show l.length<=1000000 from by
    have h1:=nodup_le (UpP.nodup' hup) fun q hq=>(hm q).1 hq;have:=HLw5.out;omega)
   obtain⟨ao8,c8,rfl,-,-,hcc⟩:=Sl.rows pC_length (by decide) (show Sl _ w8 3 v3 (l.flatMap pC)from ho.slU);have HCw8:=h! hcc;clear hup hm ho hx3 HSO hcc;go_wp2_with fail
   go_loopw [6,25] (fun av iv wr=>∃ i:Nat,i<=l.length/\iv = .int .i64 i/\Own wr w8.heap.size 33 3 av (pcs (l.take i))/\Ext w8 wr) (fun _ iv _=>l.length-(intOf iv).toNat)
   case atStart=>exact⟨0,Nat.zero_le _,rfl,by simpa [pcs] using Own.nil _ _ _ _,Ext.refl _⟩
   case round =>
    obtain⟨i,hi,rfl,ho,hx⟩:=hrel;have RX:=h! hx;have RO:=h! ho;clear hx ho;by_cases hlt:i<l.length
    ·obtain⟨bq,oq,rfl,hbq,hcell⟩:=HCw8.out (by omega);have c0:=RX.out.cell (hcell i hlt 0 _ rfl);have c1:=RX.out.cell (hcell i hlt 1 _ rfl);have c2:=RX.out.cell (hcell i hlt 2 _ rfl);rw[Nat.add_zero]at c0;have HTK:=h! (List.take_succ_eq_append_getElem hlt);have HLT:=h! hlt;have HWI:=h! (show wrap64 ((i:Int)+1)=((i+1:Nat):Int)from by have:=HLw8.out;unfold wrap64;omega);generalize l[i]=x at *;obtain⟨xt,xi,xr⟩:=x;dsimp only at c0 c1 c2;clear hcell hbq;have hli:(i:Int)<(l.length:Int):=by omega
     have hby:=(Blk.made wr #[.string xt,.string xi,.string xr] 32).cells;obtain⟨wp,hwp⟩:∃ y,y=wr.alloc (.cells #[.string xt,.string xi,.string xr] 32):=⟨_,rfl⟩;have PX:=h! (show Ext wr wp from by rw[hwp];exact Ext.alloc _ _);have XX:=h! (Ext.alloc wp (.cells #[.string xt,.string xi,.string xr] 33));have PZ:=h! (show wp.heap.size=wr.heap.size+1 from by rw[hwp];simp);have HSL:=h! (show Sl (fun _=>True) (wp.alloc (.cells #[.string xt,.string xi,.string xr] 33)) 3 (.slice (some ⟨wr.heap.size+1,0,none⟩) 1 1) (pC ⟨xt,xi,xr⟩)from by rw[<- PZ.out];exact Sl.made wp (fun _=>True) 3 1 33 #[.string xt,.string xi,.string xr] rfl (by decide) trivial);have O6:=h! (RO.out.below (PX.out.trans XX.out));have R6:=h! (show w8.heap.size<=(wp.alloc (.cells #[.string xt,.string xi,.string xr] 33)).heap.size from(RX.out.trans (PX.out.trans XX.out)).size);clear hlt RO;subst hwp;go_wp2_with (at_builtin;go_must (refine wpList_own subsT rfl (.tmp 29) (.tmp 35) rfl rfl O6.out rfl HSL.out (pC_one ⟨xt,xi,xr⟩) (by have:=HLT.out;have:=HLw8.out;rw[pcs_length,List.length_take];show _+3<=_;omega) (by have:=HLT.out;have:=HLw8.out;rw[pcs_length,List.length_take];show(_+3)*48<=_;omega) R6.out ?_);intro v7 w7 hown7 hb7 hg7;have O7:=h! (show Own w7 w8.heap.size 33 3 v7 (pcs (l.take (i+1)))from by rw[HTK.out,pcs_append,pcs_single];exact hown7);have X7:=h! (show Ext w8 w7 from Below.trans RX.out (Below.trans ((PX.out.trans XX.out).mono RX.out.size) hb7));clear hown7 hb7 hg7 O6)
     clear hby c0 c1 c2;go_wp2_with fail
     go_roundw
     case rel=>exact⟨i+1,HLT.out,by first | rw[HWI.out] | go_num,O7.out,X7.out⟩
     case measure=>have:=HLT.out;(try rw[HWI.out]);simp[intOf];omega
    ·obtain rfl:i=l.length:=by omega
     have HTA:=h! (show l.take l.length=l from List.take_length);rw[HTA.out]at RO;clear hlt hi;go_wp2_with fail
     go_ret
     exact⟨_,l,rfl,HUP.out.1,HUP.out.2,RO.out.slU,X8.out.trans RX.out⟩
structure Ins (l:List R2)(r:R2)(l':List R2):Prop where
 up:UpR l'
 mem:∀ x,x∈l'↔x=r\/x∈l
structure PutI (l:List R2)(r:R2)(i:Nat)(d:Bool)(o:List R2):Prop where
 len:o.length<=i+1
 up:UpR o
 mem:∀ x,x∈o↔(d=true/\x=r)\/x∈l.take i
 lt:∀ x∈o,∀ y∈l.drop i,ltR x y=true
 nd:d=false->∀ x∈o,ltR x r=true
theorem PutI.start {l:List R2} (r:R2):PutI l r 0 false []:=⟨Nat.zero_le _,List.Pairwise.nil,fun x=>by simp,fun x hx=>(by cases hx),fun _ x hx=>(by cases hx)⟩
theorem UpR.nodup {l:List R2} (h:UpR l):l.Nodup:=List.Pairwise.imp (fun h e=>by subst e;rw[ltR_irr]at h;cases h) h
structure BI (ts:List TyS)(N0:Nat)(L A:List R2)(ch:Bool)(pr:List (R2 × RT)):Prop where
 upL:UpR L
 upA:UpR A
 least:LeastP ts L
 subA:∀ x∈A,x∈(refsOf ts).map (·.1)
 len0:N0<=L.length
 more:ch=true->N0<L.length
 done:∀ p∈pr,p.1∈A/\(ch=false->p.2.pcan (refsOf ts) L p.1.t=true->p.1∈L)
theorem BI.lenL {ts:List TyS} {N0:Nat} {L A:List R2} {ch:Bool} {pr:List (R2 × RT)} (h:BI ts N0 L A ch pr):L.length<=(refsOf ts).length:=h.least.len h.upL.nodup
theorem BI.start {ts:List TyS} {L A:List R2} (hL:UpR L)(hA:UpR A)(hl:LeastP ts L)(hs:∀ x∈A,x∈(refsOf ts).map (·.1)):BI ts L.length L A false [] :=
 ⟨hL,hA,hl,hs,Nat.le_refl _,fun h=>(by cases h),fun p hp=>(by cases hp)⟩
structure UpOf (o X:List R2):Prop where
 up:UpR o
 mem:∀ x,x∈o↔x∈X
theorem UpOf.nil:UpOf [] []:=⟨List.Pairwise.nil,fun _=>Iff.rfl⟩
theorem UpOf.put {o X o':List R2} {r:R2} (h:UpOf o X)(hi:Ins o r o'):UpOf o' (X++[r]):=⟨hi.up,fun x=>by rw[hi.mem,h.mem,List.mem_append,List.mem_singleton,or_comm]⟩
theorem UpOf.len {o X:List R2} (h:UpOf o X):o.length<=X.length:=nodup_le h.up.nodup fun x hx=>(h.mem x).1 hx
structure CD (ts:List TyS)(r:R2)(o pr o2:List R2):Prop where
 up:UpR o2
 sub:∀ x∈o,x∈o2
 re:∀ x∈o2,ReachP ts r x
 done:∀ x∈pr,∀ y∈needsP ts x,y∈o2
theorem CD.start {ts:List TyS} {r:R2} {o:List R2} (hu:UpR o)(hr:∀ x∈o,ReachP ts r x):CD ts r o [] o:=⟨hu,fun _ h=>h,hr,fun x hx=>(by cases hx)⟩
theorem CD.put {ts:List TyS} {r y:R2} {o pr o2 o3:List R2} (h:CD ts r o pr o2)(hi:Ins o2 y o3)(hy:ReachP ts r y):CD ts r o pr o3 :=
 ⟨hi.up,fun x hx=>(hi.mem x).2 (.inr (h.sub x hx)),fun x hx=>by
  rcases (hi.mem x).1 hx with rfl | hx
  ·exact hy
  ·exact h.re x hx,fun x hx z hz=>(hi.mem z).2 (.inr (h.done x hx z hz))⟩
theorem CD.len {ts:List TyS} {r:R2} {o pr o2:List R2} (h:CD ts r o pr o2):o2.length<=(univP ts r).length:=nodup_le h.up.nodup fun x hx=>reach_univ (h.re x hx)
theorem chk_long {ts:List TyS} (h:chk06 ts=0):longOk ts=true:=by
 unfold chk06 at h;split at h
 ·split at h
  ·assumption
  ·cases h
 ·cases h
end Go.Proofs.YtlhaghoajpglaaaGreat
namespace Go.Proofs.YtlhaghoajpglaaaGreat
open Go Go.RowKit Go.ChangeShapes Go.WideShapes Go.ChangeAt
def bc (l:List UInt8):List Value:=l.map fun c => .int .u8 c.toNat
section
variable {H : Type} {enc : TypeId × Value -> H} {W : World} {base : Nat} {v : Value} {d : DataW H} {ps : List MemPlace}
end
end Go.Proofs.YtlhaghoajpglaaaGreat
namespace Go.Proofs.YtlhaghoajpglaaaGreat
open Go Go.RowKit Go.Maps
def Tp (w:World)(tp:Nat):Prop:=∃ (bv:Value)(l:List UInt8)(n:Nat),n<=l.length/\Sl (· < tp) w 1 bv (bc l)/\Blk w tp #[bv,.int .i64 n] 41
abbrev KT (tp:Nat) (w w':World):Prop:=Kept (fun b=>b<w.heap.size/\b≠tp) w w'
theorem KT.trans {tp:Nat} {w w' w'':World} (h:KT tp w w')(k:KT tp w' w''):KT tp w w'':=Kept.trans h (Kept.mono k fun _b hb=>⟨Nat.lt_of_lt_of_le hb.1 h.size,hb.2⟩)
theorem Tp.lt {w:World} {tp:Nat} (h:Tp w tp):tp<w.heap.size:=by
 obtain⟨bv,l,n,hn,hs,hB⟩:=h;exact hB.lt
theorem KT.same {tp:Nat} {w w':World} {S:Nat->Prop} (h:KT tp w w')(hS:∀ b,S b->b<w.heap.size/\b≠tp):Same S w w':=fun b hb=>h.block b (hS b hb)
theorem KT.blk {tp:Nat} {w w':World} (h:KT tp w w') {B:Nat} {cs:Array Value} {e:TypeId} (hB:Blk w B cs e)(hn:B≠tp):Blk w' B cs e:=Kept.blk h hB ⟨hB.lt,hn⟩
def nmV:ByteArray:=⟨#[118,105,101,119,101,114]⟩
def nmO:ByteArray:=⟨#[111,119,110,101,114]⟩
def nmP:ByteArray:=⟨#[112,97,114,101,110,116]⟩
def nmM:ByteArray:=⟨#[109,101,109,98,101,114]⟩
def relNs:List ByteArray:=[nmV,nmO,nmP,nmM]
def LeafR (own:List ByteArray)(r:RT):Prop:=r = .mk 1 ⟨#[]⟩ ⟨#[]⟩ []\/(∃ a∈own,r = .mk 2 a ⟨#[]⟩ [])\/∃ a∈own,∃ b∈relNs.take 2,r = .mk 3 a b []
def GoodR (own:List ByteArray):Nat->RT->Prop
 | 0,r=>LeafR own r
 | d+1,r=>LeafR own r\/∃ k ps,r = .mk k ⟨#[]⟩ ⟨#[]⟩ ps/\(k=4\/k=5)/\(ps.length=2\/ps.length=3)/\∀ p∈ps,GoodR own d p/\p.k≠k
theorem LeafR.k {own:List ByteArray} {r:RT} (h:LeafR own r):r.k≠0/\r.k≠4/\r.k≠5:=by
 rcases h with rfl | ⟨a,_,rfl⟩ | ⟨a,_,b,_,rfl⟩ <;> simp[RT.k]
theorem LeafR.ps {own:List ByteArray} {r:RT} (h:LeafR own r):r.ps=[]:=by
 rcases h with rfl | ⟨a,_,rfl⟩ | ⟨a,_,b,_,rfl⟩ <;> rfl
structure MkI (own:List ByteArray)(d:Nat)(kk:Int)(rp:Nat)(w:World)(q:List (RT × Value))(pv:Value):Prop where
 box:Blk w rp #[.int .i64 kk,.string ⟨#[]⟩,.string ⟨#[]⟩,pv] 106
 row:Own w (rp+1) 106 4 pv (q.flatMap rC)
 parts:∀ x∈q,RTAt (fun b=>(rp+1<=b/\b<w.heap.size)/\pv.ownBlock≠some b) w x.1 x.2
 good:∀ x∈q,GoodR own d x.1/\x.1.k≠kk
theorem MkI.keep {own:List ByteArray} {d:Nat} {kk:Int} {rp tp:Nat} {w w':World} {q:List (RT × Value)} {pv:Value} (h:MkI own d kk rp w q pv)(hk:KT tp w w')(ht:tp<rp):MkI own d kk rp w' q pv :=
 ⟨hk.blk h.box (by omega),h.row.keepOwn fun g hg=>hk.block g ⟨(h.row.block g hg).2,by have:=(h.row.block g hg).1;omega⟩,
  fun x hx=>((h.parts x hx).same fun b hb=>hk.block b ⟨hb.1.2,by have:=hb.1.1;omega⟩).mono fun b hb=>⟨⟨hb.1.1,Nat.lt_of_lt_of_le hb.1.2 hk.size⟩,hb.2⟩,h.good⟩
theorem Tp.kept {w w':World} {tp:Nat} {K:Nat->Prop} (h:Tp w tp)(hk:Kept K w w')(hK:∀ b,b<=tp->K b):Tp w' tp:=by
 obtain⟨bv,l,n,hn,hs,hB⟩:=h;exact⟨bv,l,n,hn,hs.same fun b hb=>hk.block b (hK b (Nat.le_of_lt hb)),hk.blk hB (hK tp (Nat.le_refl _))⟩
structure Box {α:Type} (e ee:TypeId)(sz:Nat)(El:(Nat->Prop)->World->α->Prop)(enc:α->List Value)(rp lo:Nat)(pre:List Value)(w:World)(q:List α)(pv:Value):Prop where
 box:Blk w rp (pre++[pv]).toArray e
 row:Own w lo ee sz pv (q.flatMap enc)
 parts:∀ x∈q,El (fun b=>(lo<=b/\b<w.heap.size)/\pv.ownBlock≠some b) w x
section
variable {α : Type} {e ee : TypeId} {sz : Nat} {El : (Nat -> Prop) -> World -> α -> Prop} {enc : α -> List Value} {rp lo tp n0 : Nat} {pre : List Value} {w w' w7 : World} {q : List α} {pv v7 : Value} {x : α}
theorem Box.keep (hE:∀ {S:Nat->Prop} {w w':World} {x:α},El S w x->Same S w w'->El S w' x)(hM:∀ {S S':Nat->Prop} {w:World} {x:α},El S w x->(∀ b,S b->S' b)->El S' w x)
  (h:Box e ee sz El enc rp lo pre w q pv) (hk:Kept (fun b=>b<w.heap.size/\lo<=b) w w') (hr:w'.heap[rp]?=w.heap[rp]?):Box e ee sz El enc rp lo pre w' q pv :=
 ⟨hr.trans h.box,h.row.keepOwn fun g hg=>hk.block g ⟨(h.row.block g hg).2,(h.row.block g hg).1⟩,
  fun x hx=>hM (hE (h.parts x hx) fun b hb=>hk.block b ⟨hb.1.2,hb.1.1⟩) fun _b hb=>⟨⟨hb.1.1,Nat.lt_of_lt_of_le hb.1.2 hk.size⟩,hb.2⟩⟩
end
def ElR (S:Nat->Prop)(w:World)(x:(ByteArray × RT) × Value):Prop:=RTAt S w x.1.2 x.2
def ElT (S:Nat->Prop)(w:World)(x:TyS × Value):Prop:=RelsAt S w x.1.rels x.2
theorem ElR.same {S:Nat->Prop} {w w':World} {x:(ByteArray × RT) × Value} (h:ElR S w x)(hs:Same S w w'):ElR S w' x:=RTAt.same h hs
theorem ElR.mono {S S':Nat->Prop} {w:World} {x:(ByteArray × RT) × Value} (h:ElR S w x)(hs:∀ b,S b->S' b):ElR S' w x:=RTAt.mono h hs
theorem ElT.same {S:Nat->Prop} {w w':World} {x:TyS × Value} (h:ElT S w x)(hs:Same S w w'):ElT S w' x:=RelsAt.same h hs
theorem ElT.mono {S S':Nat->Prop} {w:World} {x:TyS × Value} (h:ElT S w x)(hs:∀ b,S b->S' b):ElT S' w x:=RelsAt.mono h hs
abbrev TyBox:=Box (α:=(ByteArray × RT) × Value) 176 181 5 ElR relC
abbrev ScBox:=Box (α:=TyS × Value) 26 176 2 ElT tyC
theorem TyBox.keep {rp lo:Nat} {pre:List Value} {w w':World} {q:List ((ByteArray × RT) × Value)} {pv:Value} (h:TyBox rp lo pre w q pv)(hk:Kept (fun b=>b<w.heap.size/\lo<=b) w w')(hr:w'.heap[rp]?=w.heap[rp]?):TyBox rp lo pre w' q pv :=
 Box.keep (El:=ElR) (fun h hs=>h.same hs) (fun h hs=>h.mono hs) h hk hr
theorem ScBox.keep {rp lo:Nat} {pre:List Value} {w w':World} {q:List (TyS × Value)} {pv:Value} (h:ScBox rp lo pre w q pv)(hk:Kept (fun b=>b<w.heap.size/\lo<=b) w w')(hr:w'.heap[rp]?=w.heap[rp]?):ScBox rp lo pre w' q pv :=
 Box.keep (El:=ElT) (fun h hs=>h.same hs) (fun h hs=>h.mono hs) h hk hr
structure FineR (ts:List TyS)(t:TyS)(d n m:Nat)(r:RT):Prop where
 text:∀ k,k+d<=8->r.textOk k=true
 sz:r.sz<=n
 bk:r.bk<=m
 ok:r.Ok
 named:r.named ts t=true
theorem FineR.mono {ts:List TyS} {t:TyS} {d n m d' n' m':Nat} {r:RT} (h:FineR ts t d n m r)(hd:d<=d')(hn:n<=n')(hm:m<=m'):FineR ts t d' n' m' r:=⟨fun k hk=>h.text k (by omega),Nat.le_trans h.sz hn,Nat.le_trans h.bk hm,h.ok,h.named⟩
theorem GoodR.zero {own:List ByteArray} {r:RT}:GoodR own 0 r↔LeafR own r:=Iff.rfl
section
variable {ts : List TyS} {t : TyS} {own : List ByteArray} (hs : ∀ n ∈ own, n ∈ relNs) (hh : ∀ n ∈ own, hasT t n = true) (ha : ∀ n ∈ relNs.take 2, anyT ts n = true)
include hs hh ha
end
theorem refs_sz {ts:List TyS} (h:longOk ts=true):∀ x∈refsOf ts,x.2.sz<=32:=fun x hx=>by
 obtain⟨t,ht,r,hr,rfl⟩:=refs_mem.1 hx;unfold longOk at h;rw[Bool.and_eq_true,List.all_eq_true]at h;have h2:=h.2 t ht;unfold tyLong at h2;rw[Bool.and_eq_true,List.all_eq_true]at h2;simpa using h2.2 r hr
theorem WalkP.done {ts:List TyS} {T:List Tup} {shut:List R2} {p:P3} {most:Int} {ok long:Value} {ps:List P3} {fs:List FT} {ev:Value} (h:WalkP ts T shut p most ok long ps fs ev)(hm:∀ n,((walkN ts T shut p n).1.length:Int)<=most) :
  ∃ n,WalkEnd ts T shut p most n/\ps=(walkN ts T shut p n).1/\fs=(walkN ts T shut p n).2/\ev=ok:=by
 rcases h with h | ⟨⟨n,h1,h2,h3⟩,-⟩
 ·exact h
 ·have:=hm n;omega
def viB:ByteArray:=⟨#[118,105,101,119,101,114]⟩
def usB:ByteArray:=⟨#[117,115,101,114]⟩
def thB:ByteArray:=⟨#[116,104,105,115]⟩
def p0:P3:=⟨⟨#[100,111,99]⟩,⟨#[49]⟩,⟨#[118,105,101,119,101,114]⟩⟩
theorem TreeArg.of {ts:List TyS} {l T:List Tup} {shut:List R2} {p:P3} (hc:chk06 ts=0)(hok:∀ t∈ts,t.Ok)(hb:schB ts<=549755813888)(hn:(namesOf ts).length<=1099511627776)(hr:(refsOf ts).length<=1099511627776)(hT:SetT l T)(hl:T.length<=1000000)(hTo:∀ t∈T,t.Ok)(hp:p.Ok)(hso:∀ r∈shut,r.Ok):TreeArg ts T shut p :=
 have hlg:=chk_long hc;have hsz:∀ x∈refsOf ts,x.2.sz<=32:=fun x hx=>refs_sz hlg x hx
 ⟨hok,hc,hb,fun t ht r hr'=>Nat.le_trans (hsz ⟨⟨t.name,r.1⟩,r.2⟩ (refs_mem.2 ⟨t,ht,r,hr',rfl⟩)) (by decide),hn,hr,hso,hp,fun t ht=>(hTo t ht).2,hT.1.imp (fun {a b} h e=>by
  have h4:=swoC.irrefl a;rw[lt_cmpC]at h4;rw[<- e,h4]at h;cases h),hl,fun x hx=>by
  obtain⟨t,ht,r,hr',rfl⟩:=refs_mem.1 hx;exact((hok t ht).2 r hr').2⟩
def txt28:ByteArray:=⟨#[116,121,112,101,32,100,111,99,10,118,105,101,119,101,114,32,61,32,116,104,105,115,10,116,121,112,101,32,117,115,101,114]⟩
def its28:List PIt:=[.ty docB,.rel viB thB [],.ty usB]
def lns28:List ByteArray:=[⟨#[116,121,112,101,32,100,111,99]⟩,⟨#[118,105,101,119,101,114,32,61,32,116,104,105,115]⟩,⟨#[116,121,112,101,32,117,115,101,114]⟩]
def ts28:List TyS:=[⟨docB,[(viB,.mk 1 ⟨#[]⟩ ⟨#[]⟩ [])]⟩,⟨usB,[]⟩]
theorem lines28:linesD txt28=lns28:=by kernel_rfl
theorem step28:its28.foldl stepD []=ts28:=by kernel_rfl
theorem lnsOk28:(lns28.zip its28).all (fun p=>lnOkB p.1 p.2)=true:=by kernel_rfl
theorem fits28:its28.all PIt.fitB=true:=by kernel_rfl
theorem chk28:chk06 ts28=0:=by kernel_rfl
theorem ok28:∀ t∈ts28,t.Ok:=by
 intro t ht;unfold ts28 at ht;simp only[List.mem_cons,List.not_mem_nil,or_false]at ht;rcases ht with rfl | rfl
 ·refine⟨by decide,fun r hr=>?_⟩;obtain rfl:=List.mem_singleton.1 hr;exact⟨by decide,by simp[RT.Ok,okL];decide⟩
 ·exact⟨by decide,fun r hr=>by cases hr⟩
def p28:P3:=⟨docB,⟨#[49]⟩,viB⟩
def u28:P3:=⟨usB,⟨#[50]⟩,⟨#[]⟩⟩
def l28:List Tup:=[⟨p28,u28⟩]
theorem set28:SetT l28 l28:=⟨List.pairwise_singleton _ _,fun t=>⟨fun h=>⟨h,by
 unfold l28 at h;obtain rfl:=List.mem_singleton.1 h;kernel_rfl⟩,fun h=>h.1⟩⟩
theorem ok28l:∀ t∈l28,t.Ok:=by
 intro t ht;unfold l28 at ht;obtain rfl:=List.mem_singleton.1 ht;exact⟨⟨by decide,by decide,by decide⟩,⟨by decide,by decide,by decide⟩⟩
theorem arg28:TreeArg ts28 l28 [] p28:=TreeArg.of chk28 ok28 (by decide) (by decide) (by decide) set28 (by decide) ok28l ⟨by decide,by decide,by decide⟩ (by simp)
theorem one28:treeE ts28 l28 [] 1 p28 = .mk 1 p28 [u28] []:=by kernel_rfl
theorem cut28:treeE ts28 l28 [] 0 p28 = .mk 0 p28 [] []:=by kernel_rfl
set_option maxRecDepth 100000 in
set_option maxHeartbeats 2000000 in
theorem fixed28_any (w:World):Calls Tryz.prog 17 #[] w fun e w'=>e = .returned (.bool true)/\Below w.heap.size w w':=by
 have HPA:=h! (parse_any txt28 its28 w (by decide) (by rw[lines28];rfl) (by rw[lines28];exact lnsOk_of lnsOk28) (fits_of fits28) (fun _=>⟨docB,rfl⟩) (by decide));rw[step28]at HPA;unfold txt28 at HPA;go_enter Tryz.func17,Tryz.ntmps17
 go_wp2_with fail
 refine HPA.out.mono ?_;rintro e w1 ⟨tv,rfl,hty,hb1⟩;obtain⟨aot,ct,rfl,-,-,-⟩:=hty.rows;rw[show ts28.length=2 from rfl]at *;obtain⟨w2,hw2⟩:∃ y,y=w1.alloc (.cells #[.slice aot 2 ct] 26):=⟨_,rfl⟩;obtain⟨w3,hw3⟩:∃ y,y=w2.alloc (.cells #[.string ⟨#[100,111,99]⟩,.string ⟨#[49]⟩,.string ⟨#[118,105,101,119,101,114]⟩,.string ⟨#[117,115,101,114]⟩,.string ⟨#[50]⟩,.string ⟨#[]⟩] 67):=⟨_,rfl⟩;obtain⟨w4,hw4⟩:∃ y,y=w3.alloc (.cells #[.string ⟨#[100,111,99]⟩,.string ⟨#[49]⟩,.string ⟨#[118,105,101,119,101,114]⟩] 32):=⟨_,rfl⟩;have e2:w2.heap.size=w1.heap.size+1:=by rw[hw2];simp
 have e3:w3.heap.size=w1.heap.size+1+1:=by rw[hw3];simp[e2]
 have x2:Ext w1 w2:=by rw[hw2];exact Ext.alloc _ _
 have x3:Ext w2 w3:=by rw[hw3];exact Ext.alloc _ _
 have x4:Ext w3 w4:=by rw[hw4];exact Ext.alloc _ _
 have X4:=h! (show Ext w1 w4 from x2.trans (x3.trans x4));have HBT:=h! (show Below w.heap.size w w4 from Below.trans hb1 (Below.mono X4.out hb1.size));have HT4:=h! (fun W (hW:Ext w4 W)=>(hty.mono (S':=(· < w1.heap.size)) fun b hb=>hb.2).up (Ext.trans X4.out hW));have HS4:=h! (fun W (hW:Ext w4 W)=>show Blk W w1.heap.size #[.slice aot 2 ct] 26 from Blk.below (by rw[hw2];exact Blk.made _ _ _) (x3.trans (x4.trans hW)));have HU4:=h! (fun W (hW:Ext w4 W)=>show Blk W (w1.heap.size+1) #[.string ⟨#[100,111,99]⟩,.string ⟨#[49]⟩,.string ⟨#[118,105,101,119,101,114]⟩,.string ⟨#[117,115,101,114]⟩,.string ⟨#[50]⟩,.string ⟨#[]⟩] 67 from Blk.below (by rw[hw3,<- e2];exact Blk.made _ _ _) (x4.trans hW));have HP4:=h! (fun W (hW:Ext w4 W)=>show Blk W (w1.heap.size+1+1) #[.string ⟨#[100,111,99]⟩,.string ⟨#[49]⟩,.string ⟨#[118,105,101,119,101,114]⟩] 32 from Blk.below (by rw[hw4,<- e3];exact Blk.made _ _ _) hW);clear hty hb1 HPA e2 e3 x2 x3 x4;subst hw3 hw2;go_wp2_with fail
 rw[<- hw4];clear hw4;generalize w1.heap.size=s1 at *;obtain⟨wd,hwd⟩:∃ wd,Hid (wd=w4.drew):=⟨_,h! rfl⟩;have hxd:=h! (show Ext w4 wd from by rw[hwd.out];exact Ext.drew _);apply Code.wp_mono (Q:=JoinN (β:=Nat) wd (TreeP ts28 l28 [] p28 1 9 (.int .i64 0) (.int .i64 10)) _) ?rest5 ?reg5
 case reg5 =>
  have hE:=h! (Ext.refl wd);refine region_walkN (Ext wd) (by rw[<- hwd.out];exact Ext.refl _) (by kernel_rfl) (by kernel_rfl) (fun _ _ d _ _ h=>by cases h.1) ?_;rw[<- hwd.out];have HNB:=h! (fun W gk (hW:Ext wd W) (hL:Sl (· < W.heap.size) W 6 (.slice (some ⟨gk,0,none⟩) 1 1) (tuCs l28))=>bookT_any set28 (.slice (some ⟨gk,0,none⟩) 1 1) W hL (by decide) ok28l);have HWK:=h! (fun W b (hW:Ext wd W) (hB:BookAt W b l28)=>treeG_any ts28 (.slice aot 2 ct) b l28 [] (.slice none 0 0) p28 1 9 W (HT4.out W (Ext.trans hxd.out hW)) arg28 hB (Sl.nil _ _ _) (by decide) (by decide));have hs:=fun W (h:Ext wd W)=>(HS4.out W (Ext.trans hxd.out h)).cells;have hp:=fun W (h:Ext wd W)=>(HP4.out W (Ext.trans hxd.out h)).cells;have ht:=fun W (h:Ext wd W)=>(HU4.out W (Ext.trans hxd.out h)).cells;unfold pV at HWK;dsimp only[p28,docB,viB]at HWK;(refine WalkN.tk [0,1,5] ?_;(iterate 3 ((refine TkN.c _ ?_ (by simp only[gA,gS,gZ];rfl) (by kernel_rfl) (by kernel_rfl) (by rfl) (fun W hW=>?_) ?_;rotate_left;· (go_simp;try with_reducible rfl));simp only[Act.put,pA,pZ,pS]));refine TkN.n ?_)
  clear hs hp ht;refine WalkN.two 2 10 (by kernel_rfl) ?_ ?_;refine⟨_,(by simp only[gA,gS,gZ];rfl),by rfl,fun K hK=>?_⟩;go_simp;have hA0:=Ext.alloc wd (.cells #[.string ⟨#[100,111,99]⟩,.string ⟨#[49]⟩,.string ⟨#[118,105,101,119,101,114]⟩,.string ⟨#[117,115,101,114]⟩,.string ⟨#[50]⟩,.string ⟨#[]⟩] 67);have hL0:Sl (fun b=>b<(wd.alloc (.cells #[.string ⟨#[100,111,99]⟩,.string ⟨#[49]⟩,.string ⟨#[118,105,101,119,101,114]⟩,.string ⟨#[117,115,101,114]⟩,.string ⟨#[50]⟩,.string ⟨#[]⟩] 67)).heap.size) (wd.alloc (.cells #[.string ⟨#[100,111,99]⟩,.string ⟨#[49]⟩,.string ⟨#[118,105,101,119,101,114]⟩,.string ⟨#[117,115,101,114]⟩,.string ⟨#[50]⟩,.string ⟨#[]⟩] 67)) 6 (.slice (some ⟨wd.heap.size,0,none⟩) 1 1) (tuCs l28):=Sl.made wd _ 6 1 67 _ rfl (by decide) (by simp);have hX0:=Ext.trans hE.out hA0;obtain⟨gk,hgk⟩:∃ x,x=wd.heap.size:=⟨_,rfl⟩;rw[<- hgk]at hL0 ⊢;refine hK.out _ _ hX0 ?_;clear hK hgk;have HL:=h! hL0;have hE:=h! hX0;clear hA0 hL0 hX0;generalize wd.alloc (.cells #[.string ⟨#[100,111,99]⟩,.string ⟨#[49]⟩,.string ⟨#[118,105,101,119,101,114]⟩,.string ⟨#[117,115,101,114]⟩,.string ⟨#[50]⟩,.string ⟨#[]⟩] 67)=u1 at *;refine WalkN.two 3 10 (by kernel_rfl) ?_ ?_;refine⟨_,(by simp only[gA,gS,gZ];rfl),by rfl,fun K hK=>?_⟩;go_simp;refine(HNB.out u1 gk hE.out HL.out).mono ?_;rintro e u2 ⟨bk,rfl,hB1,hx1⟩;have hX1:=Ext.trans hE.out hx1;refine hK.out _ _ hX1 ?_;clear hK;have HBK:=h! hB1;have hE:=h! hX1;clear hx1 hX1 hB1 HL;((refine WalkN.take 4 _ ?_ (by simp only[gA,gS,gZ];rfl) (by kernel_rfl) (by kernel_rfl) (by rfl) (fun W hW=>?_) ?_;rotate_left;· (go_simp;try with_reducible rfl));simp only[Act.put,pA,pZ,pS])
  refine WalkN.two 6 10 (by kernel_rfl) ?_ ?_;refine⟨_,(by simp only[gA,gS,gZ];rfl),by rfl,fun K hK=>?_⟩;go_simp;refine(HWK.out u2 bk hE.out HBK.out).mono ?_;rintro e u3 ⟨hx2,n,so,sc,qo,qc,ev,hP2,rfl,hG2⟩;have hX2:=Ext.trans hE.out hx2;refine hK.out _ _ hX2 ?_;clear hK;have HR:=h! (show NtAt (fun x=>wd.heap.size<=x/\x<u3.heap.size) u3 n (.slice so n.subs.length sc,.slice qo n.ps.length qc)from hG2.mono fun x hx=>⟨Nat.le_trans hE.out.size hx.1,hx.2⟩);have HP:=h! hP2;have HBK:=h! (HBK.out.ext hx2);have hE:=h! hX2;clear hx2 hX2 hP2 hG2;((refine WalkN.take 7 _ ?_ (by simp only[gA,gS,gZ];rfl) (by kernel_rfl) (by kernel_rfl) (by rfl) (fun W hW=>?_) ?_;rotate_left;· (go_simp;try with_reducible rfl));simp only[Act.put,pA,pZ,pS])
  ((refine WalkN.take 8 _ ?_ (by simp only[gA,gS,gZ];rfl) (by kernel_rfl) (by kernel_rfl) (by rfl) (fun W hW=>?_) ?_;rotate_left;· (go_simp;try with_reducible rfl));simp only[Act.put,pA,pZ,pS])
  ((refine WalkN.take 9 _ ?_ (by simp only[gA,gS,gZ];rfl) (by kernel_rfl) (by kernel_rfl) (by rfl) (fun W hW=>?_) ?_;rotate_left;· (go_simp;try with_reducible rfl));simp only[Act.put,pA,pZ,pS])
  refine WalkN.one 10 (by kernel_rfl) ?_;refine⟨_,(by simp only[gA,gS,gZ];rfl),by rfl,fun K hK=>?_⟩;go_simp;obtain⟨bg,hbg⟩:∃ x,x=u3.heap.size:=⟨_,rfl⟩;rw[<- hbg];have hA3:=Ext.alloc u3 (.cells #[.int .i64 0,.string ⟨#[]⟩,.string ⟨#[]⟩,.string ⟨#[]⟩,.slice none 0 0,.slice none 0 0] 45);have hO3:Blk (u3.alloc (.cells #[.int .i64 0,.string ⟨#[]⟩,.string ⟨#[]⟩,.string ⟨#[]⟩,.slice none 0 0,.slice none 0 0] 45)) bg #[.int .i64 0,.string ⟨#[]⟩,.string ⟨#[]⟩,.string ⟨#[]⟩,.slice none 0 0,.slice none 0 0] 45:=by rw[hbg];exact Blk.made _ _ _
  have hX3:=Ext.trans hE.out hA3;have HBG:=h! (show wd.heap.size<=bg from by have:=hE.out.size;omega);have HBK:=h! (HBK.out.ext hA3);have HR:=h! (show NtAt (fun x=>x≠bg/\wd.heap.size<=x/\x<(u3.alloc (.cells #[.int .i64 0,.string ⟨#[]⟩,.string ⟨#[]⟩,.string ⟨#[]⟩,.slice none 0 0,.slice none 0 0] 45)).heap.size) (u3.alloc (.cells #[.int .i64 0,.string ⟨#[]⟩,.string ⟨#[]⟩,.string ⟨#[]⟩,.slice none 0 0,.slice none 0 0] 45)) n (.slice so n.subs.length sc,.slice qo n.ps.length qc)from(HR.out.same fun x hx=>hA3.block x hx.2).mono fun x hx=>⟨fun e=>by have:=hx.2;omega,hx.1,Nat.lt_of_lt_of_le hx.2 hA3.size⟩);refine hK.out _ _ hX3 ?_;clear hK hbg hA3;generalize u3.alloc (.cells #[.int .i64 0,.string ⟨#[]⟩,.string ⟨#[]⟩,.string ⟨#[]⟩,.slice none 0 0,.slice none 0 0] 45)=u4 at *;have hE:=h! hX3;have HG:=h! hO3;clear hO3 hX3;rotate_left
  refine⟨_,(by simp only[gA,gS,gZ];rfl),by rfl,fun K hK=>?_⟩;go_simp;obtain⟨bg,hbg⟩:∃ x,x=u2.heap.size:=⟨_,rfl⟩;rw[<- hbg];have hA2:=Ext.alloc u2 (.cells #[.int .i64 0,.string ⟨#[]⟩,.string ⟨#[]⟩,.string ⟨#[]⟩,.slice none 0 0,.slice none 0 0] 45);have hO2:Blk (u2.alloc (.cells #[.int .i64 0,.string ⟨#[]⟩,.string ⟨#[]⟩,.string ⟨#[]⟩,.slice none 0 0,.slice none 0 0] 45)) bg #[.int .i64 0,.string ⟨#[]⟩,.string ⟨#[]⟩,.string ⟨#[]⟩,.slice none 0 0,.slice none 0 0] 45:=by rw[hbg];exact Blk.made _ _ _
  have hX2:=Ext.trans hE.out hA2;have HBG:=h! (show wd.heap.size<=bg from by have:=hE.out.size;omega);have HBK:=h! (HBK.out.ext hA2);refine hK.out _ _ hX2 ?_;clear hK hbg hA2;generalize u2.alloc (.cells #[.int .i64 0,.string ⟨#[]⟩,.string ⟨#[]⟩,.string ⟨#[]⟩,.slice none 0 0,.slice none 0 0] 45)=u3 at *;have hE:=h! hX2;have HG:=h! hO2;clear hO2 hX2;refine WalkN.one 6 (by kernel_rfl) ?_;refine⟨_,(by simp only[gA,gS,gZ];rfl),by rfl,fun K hK=>?_⟩;go_simp;refine(HWK.out u3 bk hE.out HBK.out).mono ?_;rintro e u4 ⟨hx3,n,so,sc,qo,qc,ev,hP3,rfl,hG3⟩;have hX3:=Ext.trans hE.out hx3;refine hK.out _ _ hX3 ?_;clear hK;have HR:=h! (show NtAt (fun x=>x≠bg/\wd.heap.size<=x/\x<u4.heap.size) u4 n (.slice so n.subs.length sc,.slice qo n.ps.length qc)from hG3.mono fun x hx=>⟨fun e=>by have:=HG.out.lt;have:=hx.1;omega,Nat.le_trans hE.out.size hx.1,hx.2⟩);have HG:=h! (HG.out.below hx3);have HP:=h! hP3;have HBK:=h! (HBK.out.ext hx3);have hE:=h! hX3;clear hx3 hX3 hP3 hG3;((refine WalkN.take 7 _ ?_ (by simp only[gA,gS,gZ];rfl) (by kernel_rfl) (by kernel_rfl) (by rfl) (fun W hW=>?_) ?_;rotate_left;· (go_simp;try with_reducible rfl));simp only[Act.put,pA,pZ,pS])
  ((refine WalkN.take 8 _ ?_ (by simp only[gA,gS,gZ];rfl) (by kernel_rfl) (by kernel_rfl) (by rfl) (fun W hW=>?_) ?_;rotate_left;· (go_simp;try with_reducible rfl));simp only[Act.put,pA,pZ,pS])
  ((refine WalkN.take 9 _ ?_ (by simp only[gA,gS,gZ];rfl) (by kernel_rfl) (by kernel_rfl) (by rfl) (fun W hW=>?_) ?_;rotate_left;· (go_simp;try with_reducible rfl));simp only[Act.put,pA,pZ,pS])
  rotate_left
  refine⟨_,(by simp only[gA,gS,gZ];rfl),by rfl,fun K hK=>?_⟩;go_simp;obtain⟨bg,hbg⟩:∃ x,x=u1.heap.size:=⟨_,rfl⟩;rw[<- hbg];have hA1:=Ext.alloc u1 (.cells #[.int .i64 0,.string ⟨#[]⟩,.string ⟨#[]⟩,.string ⟨#[]⟩,.slice none 0 0,.slice none 0 0] 45);have hO1:Blk (u1.alloc (.cells #[.int .i64 0,.string ⟨#[]⟩,.string ⟨#[]⟩,.string ⟨#[]⟩,.slice none 0 0,.slice none 0 0] 45)) bg #[.int .i64 0,.string ⟨#[]⟩,.string ⟨#[]⟩,.string ⟨#[]⟩,.slice none 0 0,.slice none 0 0] 45:=by rw[hbg];exact Blk.made _ _ _
  have hX1:=Ext.trans hE.out hA1;have HBG:=h! (show wd.heap.size<=bg from by have:=hE.out.size;omega);have HL:=h! (HL.out.up hA1);refine hK.out _ _ hX1 ?_;clear hK hbg hA1;generalize u1.alloc (.cells #[.int .i64 0,.string ⟨#[]⟩,.string ⟨#[]⟩,.string ⟨#[]⟩,.slice none 0 0,.slice none 0 0] 45)=u2 at *;have hE:=h! hX1;have HG:=h! hO1;clear hO1 hX1;refine WalkN.one 3 (by kernel_rfl) ?_;refine⟨_,(by simp only[gA,gS,gZ];rfl),by rfl,fun K hK=>?_⟩;go_simp;refine(HNB.out u2 gk hE.out HL.out).mono ?_;rintro e u3 ⟨bk,rfl,hB2,hx2⟩;have hX2:=Ext.trans hE.out hx2;refine hK.out _ _ hX2 ?_;clear hK;have HBK:=h! hB2;have HG:=h! (HG.out.below hx2);have hE:=h! hX2;clear hx2 hX2 hB2 HL;((refine WalkN.take 4 _ ?_ (by simp only[gA,gS,gZ];rfl) (by kernel_rfl) (by kernel_rfl) (by rfl) (fun W hW=>?_) ?_;rotate_left;· (go_simp;try with_reducible rfl));simp only[Act.put,pA,pZ,pS])
  refine WalkN.one 6 (by kernel_rfl) ?_;refine⟨_,(by simp only[gA,gS,gZ];rfl),by rfl,fun K hK=>?_⟩;go_simp;refine(HWK.out u3 bk hE.out HBK.out).mono ?_;rintro e u4 ⟨hx3,n,so,sc,qo,qc,ev,hP3,rfl,hG3⟩;have hX3:=Ext.trans hE.out hx3;refine hK.out _ _ hX3 ?_;clear hK;have HR:=h! (show NtAt (fun x=>x≠bg/\wd.heap.size<=x/\x<u4.heap.size) u4 n (.slice so n.subs.length sc,.slice qo n.ps.length qc)from hG3.mono fun x hx=>⟨fun e=>by have:=HG.out.lt;have:=hx.1;omega,Nat.le_trans hE.out.size hx.1,hx.2⟩);have HG:=h! (HG.out.below hx3);have HP:=h! hP3;have HBK:=h! (HBK.out.ext hx3);have hE:=h! hX3;clear hx3 hX3 hP3 hG3;((refine WalkN.take 7 _ ?_ (by simp only[gA,gS,gZ];rfl) (by kernel_rfl) (by kernel_rfl) (by rfl) (fun W hW=>?_) ?_;rotate_left;· (go_simp;try with_reducible rfl));simp only[Act.put,pA,pZ,pS])
  ((refine WalkN.take 8 _ ?_ (by simp only[gA,gS,gZ];rfl) (by kernel_rfl) (by kernel_rfl) (by rfl) (fun W hW=>?_) ?_;rotate_left;· (go_simp;try with_reducible rfl));simp only[Act.put,pA,pZ,pS])
  ((refine WalkN.take 9 _ ?_ (by simp only[gA,gS,gZ];rfl) (by kernel_rfl) (by kernel_rfl) (by rfl) (fun W hW=>?_) ?_;rotate_left;· (go_simp;try with_reducible rfl));simp only[Act.put,pA,pZ,pS])
  rotate_left
  refine⟨_,(by simp only[gA,gS,gZ];rfl),by rfl,fun K hK=>?_⟩;go_simp;obtain⟨bg,hbg⟩:∃ x,x=wd.heap.size:=⟨_,rfl⟩;rw[<- hbg];have hA0:=Ext.alloc wd (.cells #[.int .i64 0,.string ⟨#[]⟩,.string ⟨#[]⟩,.string ⟨#[]⟩,.slice none 0 0,.slice none 0 0] 45);have hO0:Blk (wd.alloc (.cells #[.int .i64 0,.string ⟨#[]⟩,.string ⟨#[]⟩,.string ⟨#[]⟩,.slice none 0 0,.slice none 0 0] 45)) bg #[.int .i64 0,.string ⟨#[]⟩,.string ⟨#[]⟩,.string ⟨#[]⟩,.slice none 0 0,.slice none 0 0] 45:=by rw[hbg];exact Blk.made _ _ _
  have hX0:=Ext.trans hE.out hA0;have HBG:=h! (show wd.heap.size<=bg from by have:=hE.out.size;omega);refine hK.out _ _ hX0 ?_;clear hK hbg hA0;generalize wd.alloc (.cells #[.int .i64 0,.string ⟨#[]⟩,.string ⟨#[]⟩,.string ⟨#[]⟩,.slice none 0 0,.slice none 0 0] 45)=u1 at *;have hE:=h! hX0;have HG:=h! hO0;clear hO0 hX0;refine WalkN.one 2 (by kernel_rfl) ?_;refine⟨_,(by simp only[gA,gS,gZ];rfl),by rfl,fun K hK=>?_⟩;go_simp;have hA1:=Ext.alloc u1 (.cells #[.string ⟨#[100,111,99]⟩,.string ⟨#[49]⟩,.string ⟨#[118,105,101,119,101,114]⟩,.string ⟨#[117,115,101,114]⟩,.string ⟨#[50]⟩,.string ⟨#[]⟩] 67);have hL1:Sl (fun b=>b<(u1.alloc (.cells #[.string ⟨#[100,111,99]⟩,.string ⟨#[49]⟩,.string ⟨#[118,105,101,119,101,114]⟩,.string ⟨#[117,115,101,114]⟩,.string ⟨#[50]⟩,.string ⟨#[]⟩] 67)).heap.size) (u1.alloc (.cells #[.string ⟨#[100,111,99]⟩,.string ⟨#[49]⟩,.string ⟨#[118,105,101,119,101,114]⟩,.string ⟨#[117,115,101,114]⟩,.string ⟨#[50]⟩,.string ⟨#[]⟩] 67)) 6 (.slice (some ⟨u1.heap.size,0,none⟩) 1 1) (tuCs l28):=Sl.made u1 _ 6 1 67 _ rfl (by decide) (by simp);have hX1:=Ext.trans hE.out hA1;obtain⟨gk,hgk⟩:∃ x,x=u1.heap.size:=⟨_,rfl⟩;rw[<- hgk]at hL1 ⊢;refine hK.out _ _ hX1 ?_;clear hK hgk;have HG:=h! (HG.out.below hA1);have HL:=h! hL1;have hE:=h! hX1;clear hA1 hL1 hX1;generalize u1.alloc (.cells #[.string ⟨#[100,111,99]⟩,.string ⟨#[49]⟩,.string ⟨#[118,105,101,119,101,114]⟩,.string ⟨#[117,115,101,114]⟩,.string ⟨#[50]⟩,.string ⟨#[]⟩] 67)=u2 at *;refine WalkN.one 3 (by kernel_rfl) ?_;refine⟨_,(by simp only[gA,gS,gZ];rfl),by rfl,fun K hK=>?_⟩;go_simp;refine(HNB.out u2 gk hE.out HL.out).mono ?_;rintro e u3 ⟨bk,rfl,hB2,hx2⟩;have hX2:=Ext.trans hE.out hx2;refine hK.out _ _ hX2 ?_;clear hK;have HBK:=h! hB2;have HG:=h! (HG.out.below hx2);have hE:=h! hX2;clear hx2 hX2 hB2 HL;((refine WalkN.take 4 _ ?_ (by simp only[gA,gS,gZ];rfl) (by kernel_rfl) (by kernel_rfl) (by rfl) (fun W hW=>?_) ?_;rotate_left;· (go_simp;try with_reducible rfl));simp only[Act.put,pA,pZ,pS])
  refine WalkN.one 6 (by kernel_rfl) ?_;refine⟨_,(by simp only[gA,gS,gZ];rfl),by rfl,fun K hK=>?_⟩;go_simp;refine(HWK.out u3 bk hE.out HBK.out).mono ?_;rintro e u4 ⟨hx3,n,so,sc,qo,qc,ev,hP3,rfl,hG3⟩;have hX3:=Ext.trans hE.out hx3;refine hK.out _ _ hX3 ?_;clear hK;have HR:=h! (show NtAt (fun x=>x≠bg/\wd.heap.size<=x/\x<u4.heap.size) u4 n (.slice so n.subs.length sc,.slice qo n.ps.length qc)from hG3.mono fun x hx=>⟨fun e=>by have:=HG.out.lt;have:=hx.1;omega,Nat.le_trans hE.out.size hx.1,hx.2⟩);have HG:=h! (HG.out.below hx3);have HP:=h! hP3;have HBK:=h! (HBK.out.ext hx3);have hE:=h! hX3;clear hx3 hX3 hP3 hG3;((refine WalkN.take 7 _ ?_ (by simp only[gA,gS,gZ];rfl) (by kernel_rfl) (by kernel_rfl) (by rfl) (fun W hW=>?_) ?_;rotate_left;· (go_simp;try with_reducible rfl));simp only[Act.put,pA,pZ,pS])
  ((refine WalkN.take 8 _ ?_ (by simp only[gA,gS,gZ];rfl) (by kernel_rfl) (by kernel_rfl) (by rfl) (fun W hW=>?_) ?_;rotate_left;· (go_simp;try with_reducible rfl));simp only[Act.put,pA,pZ,pS])
  ((refine WalkN.take 9 _ ?_ (by simp only[gA,gS,gZ];rfl) (by kernel_rfl) (by kernel_rfl) (by rfl) (fun W hW=>?_) ?_;rotate_left;· (go_simp;try with_reducible rfl));simp only[Act.put,pA,pZ,pS])
  rotate_left
  all_goals
   refine WalkN.one 11 (by kernel_rfl) ?_;refine⟨_,(by simp only[gA,gS,gZ];rfl),by rfl,fun K hK=>?_⟩;have hg:=HG.out.cells;have hf:=HG.out.free;go_simp;have hS4:=((((((HG.out.set_to (cs':=#[.int .i64 n.k,.string ⟨#[]⟩,.string ⟨#[]⟩,.string ⟨#[]⟩,.slice none 0 0,.slice none 0 0]) 0 (.int .i64 n.k) rfl).set_to (cs':=#[.int .i64 n.k,.string n.p.t,.string ⟨#[]⟩,.string ⟨#[]⟩,.slice none 0 0,.slice none 0 0]) 1 (.string n.p.t) rfl).set_to (cs':=#[.int .i64 n.k,.string n.p.t,.string n.p.i,.string ⟨#[]⟩,.slice none 0 0,.slice none 0 0]) 2 (.string n.p.i) rfl).set_to (cs':=#[.int .i64 n.k,.string n.p.t,.string n.p.i,.string n.p.r,.slice none 0 0,.slice none 0 0]) 3 (.string n.p.r) rfl).set_to (cs':=#[.int .i64 n.k,.string n.p.t,.string n.p.i,.string n.p.r,.slice so n.subs.length sc,.slice none 0 0]) 4 (.slice so n.subs.length sc) rfl).set_to (cs':=#[.int .i64 n.k,.string n.p.t,.string n.p.i,.string n.p.r,.slice so n.subs.length sc,.slice qo n.ps.length qc]) 5 (.slice qo n.ps.length qc) rfl);have hX4:Ext wd ((((((u4.setCell ⟨bg,0,none⟩ (.int .i64 n.k)).setCell ⟨bg,1,none⟩ (.string n.p.t)).setCell ⟨bg,2,none⟩ (.string n.p.i)).setCell ⟨bg,3,none⟩ (.string n.p.r)).setCell ⟨bg,4,none⟩ (.slice so n.subs.length sc)).setCell ⟨bg,5,none⟩ (.slice qo n.ps.length qc)):=Ext.put6 hE.out HBG.out _ _ _ _ _ _;have hR4:=(HR.out.same (w':=((((((u4.setCell ⟨bg,0,none⟩ (.int .i64 n.k)).setCell ⟨bg,1,none⟩ (.string n.p.t)).setCell ⟨bg,2,none⟩ (.string n.p.i)).setCell ⟨bg,3,none⟩ (.string n.p.r)).setCell ⟨bg,4,none⟩ (.slice so n.subs.length sc)).setCell ⟨bg,5,none⟩ (.slice qo n.ps.length qc))) fun x hx=>put6_other _ _ _ _ _ _ hx.1).mono (S':=fun x=>x≠bg/\wd.heap.size<=x/\x<((((((u4.setCell ⟨bg,0,none⟩ (.int .i64 n.k)).setCell ⟨bg,1,none⟩ (.string n.p.t)).setCell ⟨bg,2,none⟩ (.string n.p.i)).setCell ⟨bg,3,none⟩ (.string n.p.r)).setCell ⟨bg,4,none⟩ (.slice so n.subs.length sc)).setCell ⟨bg,5,none⟩ (.slice qo n.ps.length qc)).heap.size) fun x hx=>⟨hx.1,hx.2.1,by simpa using hx.2.2⟩;refine hK.out _ _ hX4 ?_;clear hK hg hf;generalize (((((u4.setCell ⟨bg,0,none⟩ (.int .i64 n.k)).setCell ⟨bg,1,none⟩ (.string n.p.t)).setCell ⟨bg,2,none⟩ (.string n.p.i)).setCell ⟨bg,3,none⟩ (.string n.p.r)).setCell ⟨bg,4,none⟩ (.slice so n.subs.length sc)).setCell ⟨bg,5,none⟩ (.slice qo n.ps.length qc)=u5 at *;((refine WalkN.take 12 _ ?_ (by simp only[gA,gS,gZ];rfl) (by kernel_rfl) (by kernel_rfl) (by rfl) (fun W hW=>?_) ?_;rotate_left;· (go_simp;try with_reducible rfl));simp only[Act.put,pA,pZ,pS])
   refine WalkN.done (by kernel_rfl) ?_;exact⟨rfl,gk,bk,bg,so,sc,qo,qc,n,ev,rfl,HP.out,hX4,HBG.out,hS4,hR4⟩
 rintro e _ W5 ⟨rfl,gk5,bk5,bg5,so5,sc5,qo5,qc5,n5,ev5,rfl,hP,hX,hbg,hblk,hgr⟩;try dsimp only
 have X5:=h! (show Ext w4 W5 from Ext.trans hxd.out hX);rcases hP with⟨-,rfl,rfl⟩ | ⟨hl,-⟩
 case inr=>rw[one28]at hl;exact absurd hl (by decide)
 rw[one28]at hblk hgr;rw[one28];have B5:=h! (show Blk W5 bg5 #[.int .i64 1,.string ⟨#[100,111,99]⟩,.string ⟨#[49]⟩,.string ⟨#[118,105,101,119,101,114]⟩,.slice so5 1 sc5,.slice qo5 0 qc5] 45 from hblk)
 obtain⟨b0,o0,rfl,d0,d1,d2⟩:∃ b o,so5=some ⟨b,o,none⟩/\W5.cell? ⟨b,o,none⟩=some (.string ⟨#[117,115,101,114]⟩)/\W5.cell? ⟨b,o+1,none⟩=some (.string ⟨#[50]⟩)/\W5.cell? ⟨b,o+2,none⟩=some (.string ⟨#[]⟩):=by
  obtain⟨_,_,e,-,-,hc⟩:=Sl.rows pC_length (by decide) (show Sl _ W5 3 (.slice so5 1 sc5) ([u28].flatMap pC)from((NtAt.iff _ _).1 hgr).1);obtain⟨b,o,rfl,-,hc⟩:=hc (by simp);cases e;exact⟨b,o,rfl,by simpa [u28,usB] using hc 0 (by simp) 0 _ rfl,by simpa [u28,usB] using hc 0 (by simp) 1 _ rfl,by simpa [u28,usB] using hc 0 (by simp) 2 _ rfl⟩
 have D5:=h! (And.intro d0 (And.intro d1 d2));clear hX hxd hwd hblk hgr hbg d0 d1 d2;go_wp2_with fail
 obtain⟨wd,hwd⟩:∃ wd,Hid (wd=W5.drew):=⟨_,h! rfl⟩;have hxd:=h! (show Ext W5 wd from by rw[hwd.out];exact Ext.drew _);apply Code.wp_mono (Q:=JoinN (β:=Nat) wd (TreeP ts28 l28 [] p28 0 9 (.int .i64 0) (.int .i64 10)) _) ?rest6 ?reg6
 case reg6 =>
  have hE:=h! (Ext.refl wd);refine region_walkN (Ext wd) (by rw[<- hwd.out];exact Ext.refl _) (by kernel_rfl) (by kernel_rfl) (fun _ _ d _ _ h=>by cases h.1) ?_;rw[<- hwd.out];have HNB:=h! (fun W gk (hW:Ext wd W) (hL:Sl (· < W.heap.size) W 6 (.slice (some ⟨gk,0,none⟩) 1 1) (tuCs l28))=>bookT_any set28 (.slice (some ⟨gk,0,none⟩) 1 1) W hL (by decide) ok28l);have HWK:=h! (fun W b (hW:Ext wd W) (hB:BookAt W b l28)=>treeG_any ts28 (.slice aot 2 ct) b l28 [] (.slice none 0 0) p28 0 9 W (HT4.out W (Ext.trans X5.out (Ext.trans hxd.out hW))) arg28 hB (Sl.nil _ _ _) (by decide) (by decide));have hs:=fun W (h:Ext wd W)=>(HS4.out W (Ext.trans X5.out (Ext.trans hxd.out h))).cells;have hp:=fun W (h:Ext wd W)=>(HP4.out W (Ext.trans X5.out (Ext.trans hxd.out h))).cells;have ht:=fun W (h:Ext wd W)=>(HU4.out W (Ext.trans X5.out (Ext.trans hxd.out h))).cells;unfold pV at HWK;dsimp only[p28,docB,viB]at HWK;(refine WalkN.tk [0,1,5] ?_;(iterate 3 ((refine TkN.c _ ?_ (by simp only[gA,gS,gZ];rfl) (by kernel_rfl) (by kernel_rfl) (by rfl) (fun W hW=>?_) ?_;rotate_left;· (go_simp;try with_reducible rfl));simp only[Act.put,pA,pZ,pS]));refine TkN.n ?_)
  clear hs hp ht;refine WalkN.two 2 10 (by kernel_rfl) ?_ ?_;refine⟨_,(by simp only[gA,gS,gZ];rfl),by rfl,fun K hK=>?_⟩;go_simp;have hA0:=Ext.alloc wd (.cells #[.string ⟨#[100,111,99]⟩,.string ⟨#[49]⟩,.string ⟨#[118,105,101,119,101,114]⟩,.string ⟨#[117,115,101,114]⟩,.string ⟨#[50]⟩,.string ⟨#[]⟩] 67);have hL0:Sl (fun b=>b<(wd.alloc (.cells #[.string ⟨#[100,111,99]⟩,.string ⟨#[49]⟩,.string ⟨#[118,105,101,119,101,114]⟩,.string ⟨#[117,115,101,114]⟩,.string ⟨#[50]⟩,.string ⟨#[]⟩] 67)).heap.size) (wd.alloc (.cells #[.string ⟨#[100,111,99]⟩,.string ⟨#[49]⟩,.string ⟨#[118,105,101,119,101,114]⟩,.string ⟨#[117,115,101,114]⟩,.string ⟨#[50]⟩,.string ⟨#[]⟩] 67)) 6 (.slice (some ⟨wd.heap.size,0,none⟩) 1 1) (tuCs l28):=Sl.made wd _ 6 1 67 _ rfl (by decide) (by simp);have hX0:=Ext.trans hE.out hA0;obtain⟨gk,hgk⟩:∃ x,x=wd.heap.size:=⟨_,rfl⟩;rw[<- hgk]at hL0 ⊢;refine hK.out _ _ hX0 ?_;clear hK hgk;have HL:=h! hL0;have hE:=h! hX0;clear hA0 hL0 hX0;generalize wd.alloc (.cells #[.string ⟨#[100,111,99]⟩,.string ⟨#[49]⟩,.string ⟨#[118,105,101,119,101,114]⟩,.string ⟨#[117,115,101,114]⟩,.string ⟨#[50]⟩,.string ⟨#[]⟩] 67)=u1 at *;refine WalkN.two 3 10 (by kernel_rfl) ?_ ?_;refine⟨_,(by simp only[gA,gS,gZ];rfl),by rfl,fun K hK=>?_⟩;go_simp;refine(HNB.out u1 gk hE.out HL.out).mono ?_;rintro e u2 ⟨bk,rfl,hB1,hx1⟩;have hX1:=Ext.trans hE.out hx1;refine hK.out _ _ hX1 ?_;clear hK;have HBK:=h! hB1;have hE:=h! hX1;clear hx1 hX1 hB1 HL;((refine WalkN.take 4 _ ?_ (by simp only[gA,gS,gZ];rfl) (by kernel_rfl) (by kernel_rfl) (by rfl) (fun W hW=>?_) ?_;rotate_left;· (go_simp;try with_reducible rfl));simp only[Act.put,pA,pZ,pS])
  refine WalkN.two 6 10 (by kernel_rfl) ?_ ?_;refine⟨_,(by simp only[gA,gS,gZ];rfl),by rfl,fun K hK=>?_⟩;go_simp;refine(HWK.out u2 bk hE.out HBK.out).mono ?_;rintro e u3 ⟨hx2,n,so,sc,qo,qc,ev,hP2,rfl,hG2⟩;have hX2:=Ext.trans hE.out hx2;refine hK.out _ _ hX2 ?_;clear hK;have HR:=h! (show NtAt (fun x=>wd.heap.size<=x/\x<u3.heap.size) u3 n (.slice so n.subs.length sc,.slice qo n.ps.length qc)from hG2.mono fun x hx=>⟨Nat.le_trans hE.out.size hx.1,hx.2⟩);have HP:=h! hP2;have HBK:=h! (HBK.out.ext hx2);have hE:=h! hX2;clear hx2 hX2 hP2 hG2;((refine WalkN.take 7 _ ?_ (by simp only[gA,gS,gZ];rfl) (by kernel_rfl) (by kernel_rfl) (by rfl) (fun W hW=>?_) ?_;rotate_left;· (go_simp;try with_reducible rfl));simp only[Act.put,pA,pZ,pS])
  ((refine WalkN.take 8 _ ?_ (by simp only[gA,gS,gZ];rfl) (by kernel_rfl) (by kernel_rfl) (by rfl) (fun W hW=>?_) ?_;rotate_left;· (go_simp;try with_reducible rfl));simp only[Act.put,pA,pZ,pS])
  ((refine WalkN.take 9 _ ?_ (by simp only[gA,gS,gZ];rfl) (by kernel_rfl) (by kernel_rfl) (by rfl) (fun W hW=>?_) ?_;rotate_left;· (go_simp;try with_reducible rfl));simp only[Act.put,pA,pZ,pS])
  refine WalkN.one 10 (by kernel_rfl) ?_;refine⟨_,(by simp only[gA,gS,gZ];rfl),by rfl,fun K hK=>?_⟩;go_simp;obtain⟨bg,hbg⟩:∃ x,x=u3.heap.size:=⟨_,rfl⟩;rw[<- hbg];have hA3:=Ext.alloc u3 (.cells #[.int .i64 0,.string ⟨#[]⟩,.string ⟨#[]⟩,.string ⟨#[]⟩,.slice none 0 0,.slice none 0 0] 45);have hO3:Blk (u3.alloc (.cells #[.int .i64 0,.string ⟨#[]⟩,.string ⟨#[]⟩,.string ⟨#[]⟩,.slice none 0 0,.slice none 0 0] 45)) bg #[.int .i64 0,.string ⟨#[]⟩,.string ⟨#[]⟩,.string ⟨#[]⟩,.slice none 0 0,.slice none 0 0] 45:=by rw[hbg];exact Blk.made _ _ _
  have hX3:=Ext.trans hE.out hA3;have HBG:=h! (show wd.heap.size<=bg from by have:=hE.out.size;omega);have HBK:=h! (HBK.out.ext hA3);have HR:=h! (show NtAt (fun x=>x≠bg/\wd.heap.size<=x/\x<(u3.alloc (.cells #[.int .i64 0,.string ⟨#[]⟩,.string ⟨#[]⟩,.string ⟨#[]⟩,.slice none 0 0,.slice none 0 0] 45)).heap.size) (u3.alloc (.cells #[.int .i64 0,.string ⟨#[]⟩,.string ⟨#[]⟩,.string ⟨#[]⟩,.slice none 0 0,.slice none 0 0] 45)) n (.slice so n.subs.length sc,.slice qo n.ps.length qc)from(HR.out.same fun x hx=>hA3.block x hx.2).mono fun x hx=>⟨fun e=>by have:=hx.2;omega,hx.1,Nat.lt_of_lt_of_le hx.2 hA3.size⟩);refine hK.out _ _ hX3 ?_;clear hK hbg hA3;generalize u3.alloc (.cells #[.int .i64 0,.string ⟨#[]⟩,.string ⟨#[]⟩,.string ⟨#[]⟩,.slice none 0 0,.slice none 0 0] 45)=u4 at *;have hE:=h! hX3;have HG:=h! hO3;clear hO3 hX3;rotate_left
  refine⟨_,(by simp only[gA,gS,gZ];rfl),by rfl,fun K hK=>?_⟩;go_simp;obtain⟨bg,hbg⟩:∃ x,x=u2.heap.size:=⟨_,rfl⟩;rw[<- hbg];have hA2:=Ext.alloc u2 (.cells #[.int .i64 0,.string ⟨#[]⟩,.string ⟨#[]⟩,.string ⟨#[]⟩,.slice none 0 0,.slice none 0 0] 45);have hO2:Blk (u2.alloc (.cells #[.int .i64 0,.string ⟨#[]⟩,.string ⟨#[]⟩,.string ⟨#[]⟩,.slice none 0 0,.slice none 0 0] 45)) bg #[.int .i64 0,.string ⟨#[]⟩,.string ⟨#[]⟩,.string ⟨#[]⟩,.slice none 0 0,.slice none 0 0] 45:=by rw[hbg];exact Blk.made _ _ _
  have hX2:=Ext.trans hE.out hA2;have HBG:=h! (show wd.heap.size<=bg from by have:=hE.out.size;omega);have HBK:=h! (HBK.out.ext hA2);refine hK.out _ _ hX2 ?_;clear hK hbg hA2;generalize u2.alloc (.cells #[.int .i64 0,.string ⟨#[]⟩,.string ⟨#[]⟩,.string ⟨#[]⟩,.slice none 0 0,.slice none 0 0] 45)=u3 at *;have hE:=h! hX2;have HG:=h! hO2;clear hO2 hX2;refine WalkN.one 6 (by kernel_rfl) ?_;refine⟨_,(by simp only[gA,gS,gZ];rfl),by rfl,fun K hK=>?_⟩;go_simp;refine(HWK.out u3 bk hE.out HBK.out).mono ?_;rintro e u4 ⟨hx3,n,so,sc,qo,qc,ev,hP3,rfl,hG3⟩;have hX3:=Ext.trans hE.out hx3;refine hK.out _ _ hX3 ?_;clear hK;have HR:=h! (show NtAt (fun x=>x≠bg/\wd.heap.size<=x/\x<u4.heap.size) u4 n (.slice so n.subs.length sc,.slice qo n.ps.length qc)from hG3.mono fun x hx=>⟨fun e=>by have:=HG.out.lt;have:=hx.1;omega,Nat.le_trans hE.out.size hx.1,hx.2⟩);have HG:=h! (HG.out.below hx3);have HP:=h! hP3;have HBK:=h! (HBK.out.ext hx3);have hE:=h! hX3;clear hx3 hX3 hP3 hG3;((refine WalkN.take 7 _ ?_ (by simp only[gA,gS,gZ];rfl) (by kernel_rfl) (by kernel_rfl) (by rfl) (fun W hW=>?_) ?_;rotate_left;· (go_simp;try with_reducible rfl));simp only[Act.put,pA,pZ,pS])
  ((refine WalkN.take 8 _ ?_ (by simp only[gA,gS,gZ];rfl) (by kernel_rfl) (by kernel_rfl) (by rfl) (fun W hW=>?_) ?_;rotate_left;· (go_simp;try with_reducible rfl));simp only[Act.put,pA,pZ,pS])
  ((refine WalkN.take 9 _ ?_ (by simp only[gA,gS,gZ];rfl) (by kernel_rfl) (by kernel_rfl) (by rfl) (fun W hW=>?_) ?_;rotate_left;· (go_simp;try with_reducible rfl));simp only[Act.put,pA,pZ,pS])
  rotate_left
  refine⟨_,(by simp only[gA,gS,gZ];rfl),by rfl,fun K hK=>?_⟩;go_simp;obtain⟨bg,hbg⟩:∃ x,x=u1.heap.size:=⟨_,rfl⟩;rw[<- hbg];have hA1:=Ext.alloc u1 (.cells #[.int .i64 0,.string ⟨#[]⟩,.string ⟨#[]⟩,.string ⟨#[]⟩,.slice none 0 0,.slice none 0 0] 45);have hO1:Blk (u1.alloc (.cells #[.int .i64 0,.string ⟨#[]⟩,.string ⟨#[]⟩,.string ⟨#[]⟩,.slice none 0 0,.slice none 0 0] 45)) bg #[.int .i64 0,.string ⟨#[]⟩,.string ⟨#[]⟩,.string ⟨#[]⟩,.slice none 0 0,.slice none 0 0] 45:=by rw[hbg];exact Blk.made _ _ _
  have hX1:=Ext.trans hE.out hA1;have HBG:=h! (show wd.heap.size<=bg from by have:=hE.out.size;omega);have HL:=h! (HL.out.up hA1);refine hK.out _ _ hX1 ?_;clear hK hbg hA1;generalize u1.alloc (.cells #[.int .i64 0,.string ⟨#[]⟩,.string ⟨#[]⟩,.string ⟨#[]⟩,.slice none 0 0,.slice none 0 0] 45)=u2 at *;have hE:=h! hX1;have HG:=h! hO1;clear hO1 hX1;refine WalkN.one 3 (by kernel_rfl) ?_;refine⟨_,(by simp only[gA,gS,gZ];rfl),by rfl,fun K hK=>?_⟩;go_simp;refine(HNB.out u2 gk hE.out HL.out).mono ?_;rintro e u3 ⟨bk,rfl,hB2,hx2⟩;have hX2:=Ext.trans hE.out hx2;refine hK.out _ _ hX2 ?_;clear hK;have HBK:=h! hB2;have HG:=h! (HG.out.below hx2);have hE:=h! hX2;clear hx2 hX2 hB2 HL;((refine WalkN.take 4 _ ?_ (by simp only[gA,gS,gZ];rfl) (by kernel_rfl) (by kernel_rfl) (by rfl) (fun W hW=>?_) ?_;rotate_left;· (go_simp;try with_reducible rfl));simp only[Act.put,pA,pZ,pS])
  refine WalkN.one 6 (by kernel_rfl) ?_;refine⟨_,(by simp only[gA,gS,gZ];rfl),by rfl,fun K hK=>?_⟩;go_simp;refine(HWK.out u3 bk hE.out HBK.out).mono ?_;rintro e u4 ⟨hx3,n,so,sc,qo,qc,ev,hP3,rfl,hG3⟩;have hX3:=Ext.trans hE.out hx3;refine hK.out _ _ hX3 ?_;clear hK;have HR:=h! (show NtAt (fun x=>x≠bg/\wd.heap.size<=x/\x<u4.heap.size) u4 n (.slice so n.subs.length sc,.slice qo n.ps.length qc)from hG3.mono fun x hx=>⟨fun e=>by have:=HG.out.lt;have:=hx.1;omega,Nat.le_trans hE.out.size hx.1,hx.2⟩);have HG:=h! (HG.out.below hx3);have HP:=h! hP3;have HBK:=h! (HBK.out.ext hx3);have hE:=h! hX3;clear hx3 hX3 hP3 hG3;((refine WalkN.take 7 _ ?_ (by simp only[gA,gS,gZ];rfl) (by kernel_rfl) (by kernel_rfl) (by rfl) (fun W hW=>?_) ?_;rotate_left;· (go_simp;try with_reducible rfl));simp only[Act.put,pA,pZ,pS])
  ((refine WalkN.take 8 _ ?_ (by simp only[gA,gS,gZ];rfl) (by kernel_rfl) (by kernel_rfl) (by rfl) (fun W hW=>?_) ?_;rotate_left;· (go_simp;try with_reducible rfl));simp only[Act.put,pA,pZ,pS])
  ((refine WalkN.take 9 _ ?_ (by simp only[gA,gS,gZ];rfl) (by kernel_rfl) (by kernel_rfl) (by rfl) (fun W hW=>?_) ?_;rotate_left;· (go_simp;try with_reducible rfl));simp only[Act.put,pA,pZ,pS])
  rotate_left
  refine⟨_,(by simp only[gA,gS,gZ];rfl),by rfl,fun K hK=>?_⟩;go_simp;obtain⟨bg,hbg⟩:∃ x,x=wd.heap.size:=⟨_,rfl⟩;rw[<- hbg];have hA0:=Ext.alloc wd (.cells #[.int .i64 0,.string ⟨#[]⟩,.string ⟨#[]⟩,.string ⟨#[]⟩,.slice none 0 0,.slice none 0 0] 45);have hO0:Blk (wd.alloc (.cells #[.int .i64 0,.string ⟨#[]⟩,.string ⟨#[]⟩,.string ⟨#[]⟩,.slice none 0 0,.slice none 0 0] 45)) bg #[.int .i64 0,.string ⟨#[]⟩,.string ⟨#[]⟩,.string ⟨#[]⟩,.slice none 0 0,.slice none 0 0] 45:=by rw[hbg];exact Blk.made _ _ _
  have hX0:=Ext.trans hE.out hA0;have HBG:=h! (show wd.heap.size<=bg from by have:=hE.out.size;omega);refine hK.out _ _ hX0 ?_;clear hK hbg hA0;generalize wd.alloc (.cells #[.int .i64 0,.string ⟨#[]⟩,.string ⟨#[]⟩,.string ⟨#[]⟩,.slice none 0 0,.slice none 0 0] 45)=u1 at *;have hE:=h! hX0;have HG:=h! hO0;clear hO0 hX0;refine WalkN.one 2 (by kernel_rfl) ?_;refine⟨_,(by simp only[gA,gS,gZ];rfl),by rfl,fun K hK=>?_⟩;go_simp;have hA1:=Ext.alloc u1 (.cells #[.string ⟨#[100,111,99]⟩,.string ⟨#[49]⟩,.string ⟨#[118,105,101,119,101,114]⟩,.string ⟨#[117,115,101,114]⟩,.string ⟨#[50]⟩,.string ⟨#[]⟩] 67);have hL1:Sl (fun b=>b<(u1.alloc (.cells #[.string ⟨#[100,111,99]⟩,.string ⟨#[49]⟩,.string ⟨#[118,105,101,119,101,114]⟩,.string ⟨#[117,115,101,114]⟩,.string ⟨#[50]⟩,.string ⟨#[]⟩] 67)).heap.size) (u1.alloc (.cells #[.string ⟨#[100,111,99]⟩,.string ⟨#[49]⟩,.string ⟨#[118,105,101,119,101,114]⟩,.string ⟨#[117,115,101,114]⟩,.string ⟨#[50]⟩,.string ⟨#[]⟩] 67)) 6 (.slice (some ⟨u1.heap.size,0,none⟩) 1 1) (tuCs l28):=Sl.made u1 _ 6 1 67 _ rfl (by decide) (by simp);have hX1:=Ext.trans hE.out hA1;obtain⟨gk,hgk⟩:∃ x,x=u1.heap.size:=⟨_,rfl⟩;rw[<- hgk]at hL1 ⊢;refine hK.out _ _ hX1 ?_;clear hK hgk;have HG:=h! (HG.out.below hA1);have HL:=h! hL1;have hE:=h! hX1;clear hA1 hL1 hX1;generalize u1.alloc (.cells #[.string ⟨#[100,111,99]⟩,.string ⟨#[49]⟩,.string ⟨#[118,105,101,119,101,114]⟩,.string ⟨#[117,115,101,114]⟩,.string ⟨#[50]⟩,.string ⟨#[]⟩] 67)=u2 at *;refine WalkN.one 3 (by kernel_rfl) ?_;refine⟨_,(by simp only[gA,gS,gZ];rfl),by rfl,fun K hK=>?_⟩;go_simp;refine(HNB.out u2 gk hE.out HL.out).mono ?_;rintro e u3 ⟨bk,rfl,hB2,hx2⟩;have hX2:=Ext.trans hE.out hx2;refine hK.out _ _ hX2 ?_;clear hK;have HBK:=h! hB2;have HG:=h! (HG.out.below hx2);have hE:=h! hX2;clear hx2 hX2 hB2 HL;((refine WalkN.take 4 _ ?_ (by simp only[gA,gS,gZ];rfl) (by kernel_rfl) (by kernel_rfl) (by rfl) (fun W hW=>?_) ?_;rotate_left;· (go_simp;try with_reducible rfl));simp only[Act.put,pA,pZ,pS])
  refine WalkN.one 6 (by kernel_rfl) ?_;refine⟨_,(by simp only[gA,gS,gZ];rfl),by rfl,fun K hK=>?_⟩;go_simp;refine(HWK.out u3 bk hE.out HBK.out).mono ?_;rintro e u4 ⟨hx3,n,so,sc,qo,qc,ev,hP3,rfl,hG3⟩;have hX3:=Ext.trans hE.out hx3;refine hK.out _ _ hX3 ?_;clear hK;have HR:=h! (show NtAt (fun x=>x≠bg/\wd.heap.size<=x/\x<u4.heap.size) u4 n (.slice so n.subs.length sc,.slice qo n.ps.length qc)from hG3.mono fun x hx=>⟨fun e=>by have:=HG.out.lt;have:=hx.1;omega,Nat.le_trans hE.out.size hx.1,hx.2⟩);have HG:=h! (HG.out.below hx3);have HP:=h! hP3;have HBK:=h! (HBK.out.ext hx3);have hE:=h! hX3;clear hx3 hX3 hP3 hG3;((refine WalkN.take 7 _ ?_ (by simp only[gA,gS,gZ];rfl) (by kernel_rfl) (by kernel_rfl) (by rfl) (fun W hW=>?_) ?_;rotate_left;· (go_simp;try with_reducible rfl));simp only[Act.put,pA,pZ,pS])
  ((refine WalkN.take 8 _ ?_ (by simp only[gA,gS,gZ];rfl) (by kernel_rfl) (by kernel_rfl) (by rfl) (fun W hW=>?_) ?_;rotate_left;· (go_simp;try with_reducible rfl));simp only[Act.put,pA,pZ,pS])
  ((refine WalkN.take 9 _ ?_ (by simp only[gA,gS,gZ];rfl) (by kernel_rfl) (by kernel_rfl) (by rfl) (fun W hW=>?_) ?_;rotate_left;· (go_simp;try with_reducible rfl));simp only[Act.put,pA,pZ,pS])
  rotate_left
  all_goals
   refine WalkN.one 11 (by kernel_rfl) ?_;refine⟨_,(by simp only[gA,gS,gZ];rfl),by rfl,fun K hK=>?_⟩;have hg:=HG.out.cells;have hf:=HG.out.free;go_simp;have hS4:=((((((HG.out.set_to (cs':=#[.int .i64 n.k,.string ⟨#[]⟩,.string ⟨#[]⟩,.string ⟨#[]⟩,.slice none 0 0,.slice none 0 0]) 0 (.int .i64 n.k) rfl).set_to (cs':=#[.int .i64 n.k,.string n.p.t,.string ⟨#[]⟩,.string ⟨#[]⟩,.slice none 0 0,.slice none 0 0]) 1 (.string n.p.t) rfl).set_to (cs':=#[.int .i64 n.k,.string n.p.t,.string n.p.i,.string ⟨#[]⟩,.slice none 0 0,.slice none 0 0]) 2 (.string n.p.i) rfl).set_to (cs':=#[.int .i64 n.k,.string n.p.t,.string n.p.i,.string n.p.r,.slice none 0 0,.slice none 0 0]) 3 (.string n.p.r) rfl).set_to (cs':=#[.int .i64 n.k,.string n.p.t,.string n.p.i,.string n.p.r,.slice so n.subs.length sc,.slice none 0 0]) 4 (.slice so n.subs.length sc) rfl).set_to (cs':=#[.int .i64 n.k,.string n.p.t,.string n.p.i,.string n.p.r,.slice so n.subs.length sc,.slice qo n.ps.length qc]) 5 (.slice qo n.ps.length qc) rfl);have hX4:Ext wd ((((((u4.setCell ⟨bg,0,none⟩ (.int .i64 n.k)).setCell ⟨bg,1,none⟩ (.string n.p.t)).setCell ⟨bg,2,none⟩ (.string n.p.i)).setCell ⟨bg,3,none⟩ (.string n.p.r)).setCell ⟨bg,4,none⟩ (.slice so n.subs.length sc)).setCell ⟨bg,5,none⟩ (.slice qo n.ps.length qc)):=Ext.put6 hE.out HBG.out _ _ _ _ _ _;have hR4:=(HR.out.same (w':=((((((u4.setCell ⟨bg,0,none⟩ (.int .i64 n.k)).setCell ⟨bg,1,none⟩ (.string n.p.t)).setCell ⟨bg,2,none⟩ (.string n.p.i)).setCell ⟨bg,3,none⟩ (.string n.p.r)).setCell ⟨bg,4,none⟩ (.slice so n.subs.length sc)).setCell ⟨bg,5,none⟩ (.slice qo n.ps.length qc))) fun x hx=>put6_other _ _ _ _ _ _ hx.1).mono (S':=fun x=>x≠bg/\wd.heap.size<=x/\x<((((((u4.setCell ⟨bg,0,none⟩ (.int .i64 n.k)).setCell ⟨bg,1,none⟩ (.string n.p.t)).setCell ⟨bg,2,none⟩ (.string n.p.i)).setCell ⟨bg,3,none⟩ (.string n.p.r)).setCell ⟨bg,4,none⟩ (.slice so n.subs.length sc)).setCell ⟨bg,5,none⟩ (.slice qo n.ps.length qc)).heap.size) fun x hx=>⟨hx.1,hx.2.1,by simpa using hx.2.2⟩;refine hK.out _ _ hX4 ?_;clear hK hg hf;generalize (((((u4.setCell ⟨bg,0,none⟩ (.int .i64 n.k)).setCell ⟨bg,1,none⟩ (.string n.p.t)).setCell ⟨bg,2,none⟩ (.string n.p.i)).setCell ⟨bg,3,none⟩ (.string n.p.r)).setCell ⟨bg,4,none⟩ (.slice so n.subs.length sc)).setCell ⟨bg,5,none⟩ (.slice qo n.ps.length qc)=u5 at *;((refine WalkN.take 12 _ ?_ (by simp only[gA,gS,gZ];rfl) (by kernel_rfl) (by kernel_rfl) (by rfl) (fun W hW=>?_) ?_;rotate_left;· (go_simp;try with_reducible rfl));simp only[Act.put,pA,pZ,pS])
   refine WalkN.done (by kernel_rfl) ?_;exact⟨rfl,gk,bk,bg,so,sc,qo,qc,n,ev,rfl,HP.out,hX4,HBG.out,hS4,hR4⟩
 rintro e _ W6 ⟨rfl,gk6,bk6,bg6,so6,sc6,qo6,qc6,n6,ev6,rfl,hP,hX,hbg,hblk,hgr⟩;try dsimp only
 have X56:=h! (show Ext W5 W6 from Ext.trans hxd.out hX);rcases hP with⟨-,rfl,rfl⟩ | ⟨hl,-⟩
 case inr=>rw[cut28]at hl;exact absurd hl (by decide)
 rw[cut28]at hblk hgr;rw[cut28];have B6:=h! (show Blk W6 bg6 #[.int .i64 0,.string ⟨#[100,111,99]⟩,.string ⟨#[49]⟩,.string ⟨#[118,105,101,119,101,114]⟩,.slice so6 0 sc6,.slice qo6 0 qc6] 45 from hblk);have N6:=h! (show NtAt (· < W6.heap.size) W6 (.mk 0 p28 [] []) (.slice so6 0 sc6,.slice qo6 0 qc6)from hgr.mono fun x hx=>hx.2.2);have B5:=h! (B5.out.below X56.out);have D5:=h! (And.intro (X56.out.cell D5.out.1) (And.intro (X56.out.cell D5.out.2.1) (X56.out.cell D5.out.2.2)));have X6:=h! (show Ext w4 W6 from Ext.trans X5.out X56.out);clear hX hxd hwd hblk hgr hbg X56 X5;have HNI:=h! (treeNil_any ts28 (.slice aot 2 ct) (.slice none 0 0) p28 (.int .i64 0) 9 W6 (HT4.out W6 X6.out) arg28.ok arg28.chk arg28.sb arg28.sz arg28.names arg28.refs);unfold pV at HNI;dsimp only[p28,docB,viB]at HNI;have hs:=(HS4.out W6 X6.out).cells;have hp:=(HP4.out W6 X6.out).cells;go_wp2_with fail
 refine HNI.out.mono ?_;rintro e W7 ⟨hx7,rfl⟩;obtain⟨W8,hW8⟩:∃ y,y=W7.alloc (.cells #[.int .i64 0,.string ⟨#[]⟩,.string ⟨#[]⟩,.string ⟨#[]⟩,.slice none 0 0,.slice none 0 0] 45):=⟨_,rfl⟩;have x8:Ext W6 W8:=hx7.trans (by rw[hW8];exact Ext.alloc _ _);have x7:Ext W6 W8:=x8;have hu0:=(HU4.out W8 (Ext.trans X6.out x8)).cells;have X8:=h! (show Below w.heap.size w W8 from Below.trans HBT.out (Below.mono (Ext.trans X6.out x8) HBT.out.size));have h5:=fun W (h:Ext W8 W)=>(B5.out.below (Ext.trans x8 h)).cells;have h6:=fun W (h:Ext W8 W)=>(B6.out.below (Ext.trans x8 h)).cells;have hu:=fun W (h:Ext W8 W)=>(HU4.out W (Ext.trans X6.out (Ext.trans x8 h))).cells;have d0:=fun W (h:Ext W8 W)=>(Ext.trans x8 h).cell D5.out.1;have d1:=fun W (h:Ext W8 W)=>(Ext.trans x8 h).cell D5.out.2.1;have d2:=fun W (h:Ext W8 W)=>(Ext.trans x8 h).cell D5.out.2.2
 have HCU:=h! (fun W (h:Ext W8 W)=>show Calls Tryz.prog 30 #[.agg #[.int .i64 0,.string ⟨#[100,111,99]⟩,.string ⟨#[49]⟩,.string ⟨#[118,105,101,119,101,114]⟩,.slice so6 0 sc6,.slice qo6 0 qc6]] W fun e w'=>∃ (v':Value) (l:List P3),e = .returned v'/\UpP l/\(∀ q,q∈l↔q∈(NT.mk 0 p28 [] []).cuts)/\Own w' W.heap.size 32 3 v' (pcs l)/\Ext W w' from
  ecuts_any (.mk 0 p28 [] []) (.slice so6 0 sc6,.slice qo6 0 qc6) W (N6.out.up (Ext.trans x8 h)) (by rw[show(NT.mk 0 p28 [] []).sz=1 from by kernel_rfl];decide) (fun m hm=>by
   rw[show(NT.mk 0 p28 [] []).pre=[.mk 0 p28 [] []]from by kernel_rfl]at hm;obtain rfl:=List.mem_singleton.1 hm;exact⟨⟨by decide,by decide,by decide⟩,fun s hs=>by cases hs⟩))
 have heq:=fun W=>sub_eql u28 u28 W;simp only[decide_true]at heq;unfold pV at heq;dsimp only[u28,usB]at heq;clear hs hp HNI X6 x8 hx7 x7 hu0 B5 D5 B6 N6 HBT HT4 HS4 HU4 HP4;go_wp2_with fail
 try rw[<- hW8]
 refine region_walkN (Ext W8) (Ext.drew _) (by kernel_rfl) (by kernel_rfl) (fun _ _ d _ _ h=>by cases d <;> exact h) ?_;clear hW8;(refine WalkN.tk [0,1,2,3,4,5,6,7,8,9,10,11,12,13,14,15,16,17,18,19,20,21,22,23,24,25,26,27,28,29,30,31,32,33,34,35,36] ?_;(iterate 37 ((refine TkN.c _ ?_ (by simp only[gA,gS,gZ];rfl) (by kernel_rfl) (by kernel_rfl) (by rfl) (fun W hW=>?_) ?_;rotate_left;· (go_simp;try with_reducible rfl));simp only[Act.put,pA,pZ,pS]));refine TkN.n ?_)
 clear h5 h6 hu d0 d1 d2 heq;refine WalkN.one 37 (by kernel_rfl) ?_;refine⟨_,(by simp only[gA,gS,gZ];rfl),by rfl,fun K hK=>?_⟩;go_simp;refine(HCU.out _ (Ext.drew _)).mono ?_;rintro e W9 ⟨v',l,rfl,hup,hm,ho,hx9⟩;obtain rfl:l=[p28]:=upP_unique hup (List.pairwise_singleton _ _) fun q=>by rw[hm q,show(NT.mk 0 p28 [] []).cuts=[p28]from by kernel_rfl]
 obtain⟨ao,n,c,rfl,hn,-,-⟩:=ho.slU.len
 obtain rfl:n=1:=by
  have:(pcs [p28]).length=3:=by kernel_rfl
  omega
 refine hK.out _ _ (Ext.trans (Ext.drew _) hx9) ?_;have XE:=h! (Below.trans X8.out (Below.mono (Ext.trans (Ext.drew _) hx9) X8.out.size));clear hK HCU hup hm ho hn hx9;(refine WalkN.tk [38,39,40,41] ?_;(iterate 4 ((refine TkN.c _ ?_ (by simp only[gA,gS,gZ];rfl) (by kernel_rfl) (by kernel_rfl) (by rfl) (fun W hW=>?_) ?_;rotate_left;· (go_simp;try with_reducible rfl));simp only[Act.put,pA,pZ,pS]));refine TkN.n ?_)
 refine WalkN.done (by kernel_rfl) ?_;go_wp2
 go_ret
 exact⟨rfl,XE.out⟩
end Go.Proofs.YtlhaghoajpglaaaGreat
