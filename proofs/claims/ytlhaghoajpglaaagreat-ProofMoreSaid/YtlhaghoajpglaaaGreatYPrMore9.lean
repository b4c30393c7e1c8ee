/- Lemmas for the claim, no condition. -/
import Derived.Test.YtlhaghoajpglaaaGreatYPrMore8
import Derived.Test.YtlhaghoajpglaaaGreatYPrMore8
set_option maxRecDepth 100000
set_option maxHeartbeats 4000000
namespace Go.Proofs.YtlhaghoajpglaaaGreat
open Go Go.Maps Go.RowKit Go.Proofs.Tryz
theorem it! (n b off c tp:Nat)(w:World)(htp:Tp w tp)(hrow:TyRow (fun b=>b<w.heap.size/\b≠tp) w n b off)(hn:1<=n/\n<=1000) :
  Calls prog 70 #[.pointer (some ⟨tp,0,none⟩),.agg #[.slice (some ⟨b,off,none⟩) n c]] w fun e w'=>∃v,∃l:List R2,e= .returned v/\Sl (fun b=>w.heap.size<=b/\b<w'.heap.size) w' 2 v (l.flatMap r2C)/\(∀r∈l,r.Ok)/\l.length<=1/\Tp w' tp/\KT tp w w':=by
 obtain⟨wb,a3⟩:=e! (w.alloc (.cells #[.slice (some ⟨b,off,none⟩) n c] 26));have xa:Ext w wb:=xa! a3
 have N:=h! (show Blk wb w.heap.size #[.slice (some ⟨b,off,none⟩) n c] 26 from bm! a3);have L:Hid (KT tp w wb):=h! (KT.of xa);have o:=h! (hrow.ext (n0! _) L.out);have HT:=h! (htp.ext xa);have HN:=h! hn;have aa:=h! (show w.heap.size≠tp from by have:=htp.lt;omega);have aG:=h! htp.lt;have av:=h! (af! tp 4 wb HT.out (by decide) (by decide));have aJ:(0:Int)<=(n:Int):=by omega
 clear hrow hn htp xa;go_enter func70,ntmps70
 go_wp2_with fail
 rw[<-a3];clear a3;refine av.out.mono ?_;rintro e W0 ⟨k,rfl,hk,z,H⟩;have a6:=h! L.out;have L:=h! (KT.trans L.out H);have N:=h! (H.blk N.out aa.out);have o:=h! (o.out.ext a6.out.size H);have HT:=h! z;obtain⟨i0,aA,a4⟩:∃i:Nat,i<=1/\(k:Int).tdiv 2=(i:Int):=⟨k / 2,by omega,by rw[Int.tdiv_eq_ediv_of_nonneg (by omega)];omega⟩;have ap:wrap64 ((k:Int).tdiv 2)=(i0:Int):=by rw[a4];unfold wrap64;omega
 clear z H av hk;go_wp2_with fail
 try rw[ap]
 try rw[a4]
 clear ap a4;go_loopw [5,6] (fun ov iv wr=>∃(i:Nat) (l:List R2),i<=1/\iv= .int .i64 i/\(i=1->ov= .slice none 0 0)/\Own wr w.heap.size 121 2 ov (r2cs l)/\(∀r∈l,r.Ok)/\l.length<=1/\Tp wr tp/\KT tp W0 wr) (fun _ iv _=>(intOf iv).toNat)
 case atStart=>exact⟨i0,[],aA,rfl,fun _=>rfl,Own.nil _ _ _ _,by simp,by simp,HT.out,Kept.refl _ _⟩
 case round =>
  obtain⟨i,l,hi,rfl,a8,ho,a5,ae,htp,M⟩:=hrel;have I:Hid (KT tp w wr):=h! (KT.trans L.out M);have HT:=h! htp;by_cases h0:i=1
  ·obtain rfl:=a8 h0;subst h0;have o:=h! (o.out.ext L.out.size M);have N:=h! (M.blk N.out aa.out);have C:Hid (w.heap.size<=wr.heap.size):=h! I.out.size;have a2:Hid (tp<wr.heap.size):=h! htp.lt;have ah:=h! M;clear a8 ho a5 ae htp M hi;go_wp2_with fail
   obtain⟨wd,A⟩:∃wd,Hid (wd=wr.drew):=⟨_,h! rfl⟩;have g:=h! (show Ext wr wd from xd! A.out);have a2:=h! (n1! a2.out g.out.size);have HT:=h! (HT.out.ext g.out);apply Code.wp_mono (Q:=J7 (fun(k b7:Nat) (nm:ByteArray) (b2 f m c2:Nat) W=>TyP (w.heap.size) wd W tp b7 nm b2 f m c2) _) ?rest1 ?reg1
   case reg1 =>
    have hE:Hid (KT tp wd wd):=h! (Kept.refl _ _);refine al! (KT tp wd) (by rw[<-A.out];exact Kept.refl _ _) (by kernel_rfl) (by kernel_rfl) (fun _ _ d _ _ h=>by cases h.1) ?_;rw[<-A.out];have h3:∀W,KT tp wd W->∀i,W.cell? ⟨w.heap.size,i,none⟩=(#[.slice (some ⟨b,off,none⟩) n c]:Array Value)[i]?:=fun W h=>(Kept.blk h (N.out.below g.out) ⟨(N.out.below g.out).lt,aa.out⟩).cells;have o:=h! (o.out.ext C.out (KT.of g.out));have C:=h! (n6! C.out g.out.size);(refine WalkN.tk [0,1,2,3,4,5] ?_;(iterate 6 (refine c! ?_));refine TkN.n ?_)
    clear h3;refine p! 6 9 ?_ ?_;refine b! ?_;intro K hK;go_simp;refine(af! tp n wd HT.out (by have:=HN.out;omega) (by have:=HN.out;omega)).mono ?_;rintro e u1 ⟨k,rfl,J,z,H⟩;have F:=KT.trans hE.out H;refine hK.out _ _ F ?_;clear hK;have U:k<n:=by omega
    have J:(0:Int)<=(k:Int):=by omega
    obtain⟨nm,b2,f,m,c2,e0,e1,Y,Z,a1,hR⟩:=o.out.2 k U;have g0:∀W,KT tp wd W->W.cell? ⟨b,off+k*2,none⟩=some (.string nm):=fun W h=>Kept.cell h ⟨n1! o.out.1.1 C.out,o.out.1.2⟩ e0;have g1:∀W,KT tp wd W->W.cell? ⟨b,off+k*2+1,none⟩=some (.slice (some ⟨b2,f,none⟩) m c2):=fun W h=>Kept.cell h ⟨n1! o.out.1.1 C.out,o.out.1.2⟩ e1;have G:Hid (nm.size<=maxLen/\1<=m/\m<=1000/\op! (fun b=>b<w.heap.size/\b≠tp) wd m b2 f):=h! ⟨Y,Z,a1,hR⟩;clear e0 e1 Y Z a1 hR J;have HT:=h! z;have hE:=h! F;clear H F z;(refine WalkN.tk [7,8] ?_;(iterate 2 (refine c! ?_));refine TkN.n ?_)
    clear g0 g1 J U;refine ob! 9 ?_;intro K hK;go_simp;obtain⟨b7,q⟩:=e! u1.heap.size;rw[<-q];have ab:=Ext.alloc u1 (.cells #[.string ⟨#[]⟩,.slice none 0 0] 176);have am:Blk (u1.alloc (.cells #[.string ⟨#[]⟩,.slice none 0 0] 176)) b7 #[.string ⟨#[]⟩,.slice none 0 0] 176:=by rw[q];exact Blk.made _ _ _
    have E:=KT.trans hE.out (KT.of ab);have y:=h! (show wd.heap.size<=b7 from by have:=hE.out.size;omega);have O:=HT.out.ext ab;refine hK.out _ _ E ?_;clear hK q ab;generalize u1.alloc (.cells #[.string ⟨#[]⟩,.slice none 0 0] 176)=u2 at *;have hE:=h! E;have HT:=h! O;have D:=h! am;clear am E O;rotate_left
    refine b! ?_;intro K hK;go_simp;obtain⟨b7,q⟩:=e! wd.heap.size;rw[<-q];have ac:=Ext.alloc wd (.cells #[.string ⟨#[]⟩,.slice none 0 0] 176);have ak:Blk (wd.alloc (.cells #[.string ⟨#[]⟩,.slice none 0 0] 176)) b7 #[.string ⟨#[]⟩,.slice none 0 0] 176:=by rw[q];exact Blk.made _ _ _
    have F:=KT.trans hE.out (KT.of ac);have y:=h! (show wd.heap.size<=b7 from by have:=hE.out.size;omega);have z:=HT.out.ext ac;refine hK.out _ _ F ?_;clear hK q ac;generalize wd.alloc (.cells #[.string ⟨#[]⟩,.slice none 0 0] 176)=u1 at *;have hE:=h! F;have HT:=h! z;have D:=h! ak;clear ak F z;refine ob! 6 ?_;intro K hK;go_simp;refine(af! tp n u1 HT.out (by have:=HN.out;omega) (by have:=HN.out;omega)).mono ?_;rintro e u2 ⟨k,rfl,aD,O,ai⟩;have E:=KT.trans hE.out ai;refine hK.out _ _ E ?_;clear hK;have V:k<n:=by omega
    have J:(0:Int)<=(k:Int):=by omega
    obtain⟨nm,b2,f,m,c2,e0,e1,Y,Z,a1,hR⟩:=o.out.2 k V;have g0:∀W,KT tp wd W->W.cell? ⟨b,off+k*2,none⟩=some (.string nm):=fun W h=>Kept.cell h ⟨n1! o.out.1.1 C.out,o.out.1.2⟩ e0;have g1:∀W,KT tp wd W->W.cell? ⟨b,off+k*2+1,none⟩=some (.slice (some ⟨b2,f,none⟩) m c2):=fun W h=>Kept.cell h ⟨n1! o.out.1.1 C.out,o.out.1.2⟩ e1;have G:Hid (nm.size<=maxLen/\1<=m/\m<=1000/\op! (fun b=>b<w.heap.size/\b≠tp) wd m b2 f):=h! ⟨Y,Z,a1,hR⟩;have D:=h! (ai.blk D.out (by have:=y.out;have:=a2.out;omega));clear e0 e1 Y Z a1 hR aD;have HT:=h! O;have hE:=h! E;clear ai E O;(refine WalkN.tk [7,8] ?_;(iterate 2 (refine c! ?_));refine TkN.n ?_)
    clear g0 g1 J V;rotate_left
    all_goals
     refine ob! 10 ?_;intro K hK;have c7:=D.out.cells;have f7:=D.out.free;go_simp;have aB:=D.out.set2D (.string nm) (.slice (some ⟨b2,f,none⟩) m c2);have ao:KT tp wd ((u2.setCell ⟨b7,0,none⟩ (.string nm)).setCell ⟨b7,1,none⟩ (.slice (some ⟨b2,f,none⟩) m c2)):=(Kept.set hE.out (a:=⟨b7,0,none⟩) (fun e=>by have:=y.out;have:=e.1;dsimp only at this;omega) (.string nm)).set (a:=⟨b7,1,none⟩) (fun e=>by have:=y.out;have:=e.1;dsimp only at this;omega) (.slice (some ⟨b2,f,none⟩) m c2);have aC:Tp ((u2.setCell ⟨b7,0,none⟩ (.string nm)).setCell ⟨b7,1,none⟩ (.slice (some ⟨b2,f,none⟩) m c2)) tp:=HT.out.kept (K:=fun b=>b≠b7) (((Kept.refl _ u2).set (a:=⟨b7,0,none⟩) (fun e=>e rfl) (.string nm)).set (a:=⟨b7,1,none⟩) (fun e=>e rfl) (.slice (some ⟨b2,f,none⟩) m c2)) (fun b hb=>by have:=y.out;have:=a2.out;omega);refine hK.out _ _ ao ?_;clear hK c7 f7;refine d! ?_;exact⟨rfl,k,b7,nm,b2,f,m,c2,rfl,ao,aC,aB,y.out,G.out.1,⟨G.out.2.1,G.out.2.2.1⟩,G.out.2.2.2⟩
   rintro e _ W1 ⟨rfl,k,b7,nm,b2,f,m,c2,rfl,s⟩;have a0:=h! C.out;have aF:=h! (show b7≠tp from by have:=s.up;have:=aG.out;have:=g.out.size;have:=a0.out;omega);have I:Hid (KT tp w W1):=h! (KT.trans (KT.trans I.out (KT.of g.out)) s.X);have ag:Hid (KT tp W0 W1):=h! (KT.trans (KT.trans ah.out (KT.of g.out)) s.X);have HT:=h! s.T;have D:=h! s.B;have aH:=h! (s.R.ext (n6! a0.out g.out.size) s.X);have HM:=h! s.mm;have G:=h! s.nz;clear s g A;dsimp only;go_wp2_with fail
   obtain⟨wd,A⟩:∃wd,Hid (wd=W1.drew):=⟨_,h! rfl⟩;have g:=h! (show Ext W1 wd from xd! A.out);have HT:=h! (HT.out.ext g.out);refine r! (KT tp wd) (by rw[<-A.out];exact Kept.refl _ _) ?_;rw[<-A.out];have q:=D.out.below g.out;have a9:=h! (aH.out.ext I.out.size (KT.of g.out));have h7:∀W,KT tp wd W->∀i,W.cell? ⟨b7,i,none⟩=(#[.string nm,.slice (some ⟨b2,f,none⟩) m c2]:Array Value)[i]?:=fun W h=>(Kept.blk h q ⟨q.lt,aF.out⟩).cells;have az:(0:Int)<=(m:Int):=by omega
   (refine WalkN.tk [0,1,2,3,4,5,6,7,8] ?_;(iterate 9 (refine c! ?_));refine TkN.n ?_)
   clear h7 q;refine ob! 9 ?_;intro K hK;go_simp;refine(af! tp m wd HT.out (by have:=HM.out;omega) (by have:=HM.out;omega)).mono ?_;rintro e W4 ⟨k6,rfl,aI,au,a7⟩;refine hK.out _ _ a7 ?_;clear hK;have ar:k6<m:=by have:=HM.out;omega
   have J:(0:Int)<=(k6:Int):=by omega
   obtain⟨rn,aq,aj⟩:=a9.out.2 k6 ar;have aw:=h! aj;have g0:∀W,KT tp wd W->W.cell? ⟨b2,f+k6*5,none⟩=some (.string rn):=fun W h=>Kept.cell h ⟨by have h1:=a9.out.1.1;have h2:=I.out.size;have h3:=g.out.size;show b2<_;omega,a9.out.1.2⟩ aq;(refine WalkN.tk [10,11,12,13] ?_;(iterate 4 (refine c! ?_));refine TkN.n ?_)
   clear g0 ar J aq aj az;have ad:=h! a7;have an:Ext W4 (W4.alloc (.cells #[.string nm,.string rn] 121)):=Ext.alloc _ _;refine ob! 14 ?_;intro K hK;go_simp;refine hK.out _ _ (KT.trans ad.out (KT.of an)) ?_;clear hK;refine ob! 15 ?_;intro K hK;refine aP! refsT (.tmp 24) (.tmp 38) rfl rfl (Own.nil _ w.heap.size _ _) (m:=1) (news:=r2C ⟨nm,rn⟩) rfl rfl (fun j u hu=>?_) (by simp[r2C,Value.oneCell']) (by simp[r2C]) (by simp[r2C]) (by have h1:=I.out.size;have h2:=g.out.size;have h3:=ad.out.size;simp;omega) (fun v2 w2 hown2 hw2 hg2=>?_)
   ·rw[Addr.add_lit,cell_of_row _ W4.heap.size (0+j) #[.string nm,.string rn] 121 (0,0) (heap_alloc_new W4 _),Nat.zero_add];simpa [r2C] using hu
   have af:Ext W4 w2:=⟨hg2.os.trans rfl,hg2.tape.trans rfl,hg2.output.trans rfl,n6! (by simp) hg2.size,fun x hx=>(hg2.block x (by have h4:x<W4.heap.size:=hx;simp;omega) (fun e=>by cases e)).trans (Below.heap_alloc W4 _ x hx)⟩;have al:=h! (KT.trans ad.out (KT.of af));refine hK.out _ _ al.out ?_;clear hK;simp only[Act.put,pA,pZ,pS];have ay:=h! (show Own w2 w.heap.size 121 2 v2 (r2cs [⟨nm,rn⟩])from by rw[gS!];exact hown2);have aE:=h! (au.ext af);obtain⟨o2,n2,ax,rfl,-,-,-⟩:=hown2.sl.len;clear hown2 hw2 hg2 af an au a7;refine t! 16 ?_
   refine d! ?_;go_wp2_with fail
   go_roundw
   case rel=>exact⟨0,[⟨nm,rn⟩],by omega,by first | rfl | go_num,fun h=>absurd h (by omega),ay.out,by intro r hr;obtain rfl:=n9!.1 hr;exact⟨G.out,aw.out⟩,by simp,aE.out,KT.trans (KT.trans ag.out (KT.of g.out)) al.out⟩
   case measure=>simp[intOf]
  ·obtain rfl:i=0:=by omega
   have HO:=h! ho;have y:=h! (And.intro a5 ae);obtain⟨o2,n2,ax,rfl,-,-,-⟩:=ho.sl.len;clear a8 ho a5 ae htp M;go_wp2_with fail
   go_ret
   exact⟨_,l,rfl,HO.out.sl,y.out.1,y.out.2,HT.out,I.out⟩
def ai! (T:List Tup)(p:P3):List P3:=(T.filter fun t=>decide (t.o=p)).map (·.s)
inductive FT where
 | mk (k:Int) (subs:List P3) (refs:List Int) (ps:List FT)
def FT.k:FT->Int | .mk k _ _ _=>k
def FT.subs:FT->List P3 | .mk _ s _ _=>s
def FT.refs:FT->List Int | .mk _ _ r _=>r
def FT.ps:FT->List FT | .mk _ _ _ ps=>ps
def FT.zero:FT := .mk 0 [] [] []
instance:Inhabited FT:=⟨FT.zero⟩
mutual
def FT.sz:FT->Nat | .mk _ _ _ ps=>1+fszL ps
def fszL:List FT->Nat | []=>0 | r::rs=>r.sz+fszL rs
end
theorem iP! {p:FT}:∀ {ps:List FT},p∈ps->p.sz<=fszL ps
 | r::rs,h=>by
  rw[fszL];rcases v7!.1 h with rfl | h
  ·omega
  ·have:=iP! h;omega
theorem FT.sz_lt {r p:FT}(h:p∈r.ps):p.sz<r.sz:=by
 obtain⟨k,a,b,ps⟩:=r;have:=iP! (show p∈ps from h);rw[FT.sz];omega
theorem FT.ind {Q:FT->Prop}(h:∀r,(∀p∈r.ps,Q p)->Q r)(r:FT):Q r:=by
 generalize hn:r.sz=n;induction n using Nat.strongRecOn generalizing r with
 | ind n ih=>exact h r fun p hp=>ih p.sz (by have:=FT.sz_lt hp;omega) p rfl
def numD (ps:List P3)(p:P3):Nat:=ps.findIdx fun x=>decide (x=p)
def putP (ps:List P3)(p:P3):List P3:=if p∈ps then ps else ps++[p]
def refsD:List P3->List Int->List P3->List Int × List P3
 | ps,out,[]=>(out,ps)
 | ps,out,p::l=>refsD (putP ps p) (if (numD ps p:Int)∈out then out else out++[(numD ps p:Int)]) l
theorem eK!:∀(l:List P3)(ps:List P3)(out:List Int)(p:P3),refsD ps out (l++[p])=(if (numD (refsD ps out l).2 p:Int)∈(refsD ps out l).1 then(refsD ps out l).1 else(refsD ps out l).1++[(numD (refsD ps out l).2 p:Int)],putP (refsD ps out l).2 p)
 | [],ps,out,p=>rfl
 | x::l,ps,out,p=>by rw[x2!,refsD,refsD,eK! l]
def bM! (l:List P3):List P3:=l.filter fun s=>decide (s.r≠⟨#[]⟩)
def viaOf (b:ByteArray)(l:List P3):List P3:=(l.filter fun s=>decide (s.r=⟨#[]⟩)).map fun s=>⟨s.t,s.i,b⟩
def headF (T:List Tup)(p:P3)(k:Int)(a b:ByteArray)(ps:List P3):List P3 × List Int × List P3 :=
 if k=1 then(ai! T p,refsD ps [] (bM! (ai! T p)))
 else if k=2 then([],[(numD ps ⟨p.t,p.i,a⟩:Int)],putP ps ⟨p.t,p.i,a⟩)
 else if k=3 then([],refsD ps [] (viaOf b (ai! T ⟨p.t,p.i,a⟩)))
 else([],[],ps)
mutual
def formD (T:List Tup)(p:P3):RT->List P3->FT × List P3
 | .mk k a b parts,ps=>(.mk k (headF T p k a b ps).1 (headF T p k a b ps).2.1 (ap! T p parts (headF T p k a b ps).2.2).1,(ap! T p parts (headF T p k a b ps).2.2).2)
def ap! (T:List Tup)(p:P3):List RT->List P3->List FT × List P3
 | [],ps=>([],ps)
 | r::rs,ps=>((formD T p r ps).1::(ap! T p rs (formD T p r ps).2).1,(ap! T p rs (formD T p r ps).2).2)
end
theorem bF! (T:List Tup)(p:P3)(r:RT)(ps:List P3):formD T p r ps=(.mk r.k (headF T p r.k r.a r.b ps).1 (headF T p r.k r.a r.b ps).2.1 (ap! T p r.ps (headF T p r.k r.a r.b ps).2.2).1,(ap! T p r.ps (headF T p r.k r.a r.b ps).2.2).2):=by
 obtain⟨k,a,b,a0⟩:=r;rw[formD];rfl
theorem dz! (T:List Tup)(p:P3):∀(rs:List RT)(r:RT)(ps:List P3),ap! T p (rs++[r]) ps=((ap! T p rs ps).1++[(formD T p r (ap! T p rs ps).2).1],(formD T p r (ap! T p rs ps).2).2)
 | [],r,ps=>by simp[ap!]
 | x::rs,r,ps=>by rw[x2!,ap!,dz! T p rs r,ap!];rfl
theorem hj! (T:List Tup)(p:P3)(rs:List RT)(ps:List P3)(i:Nat)(h:i<rs.length):ap! T p (rs.take (i+1)) ps=((ap! T p (rs.take i) ps).1++[(formD T p rs[i] (ap! T p (rs.take i) ps).2).1],(formD T p rs[i] (ap! T p (rs.take i) ps).2).2):=by
 rw[n2! h,dz!]
def ar! (ts:List TyS)(shut:List R2)(p:P3):Option RT:=if (⟨p.t,p.r⟩:R2)∈shut then none else lookA (ab! ts) ⟨p.t,p.r⟩
def stepG (ts:List TyS)(T:List Tup)(shut:List R2)(p:P3)(ps:List P3):FT × List P3 :=
 match ar! ts shut p with
 | some r=>formD T p r ps
 | none=>(FT.zero,ps)
def walkN (ts:List TyS)(T:List Tup)(shut:List R2)(p:P3):Nat->List P3 × List FT
 | 0=>([p],[])
 | n+1=>((stepG ts T shut ((walkN ts T shut p n).1.getD n p) (walkN ts T shut p n).1).2,(walkN ts T shut p n).2++[(stepG ts T shut ((walkN ts T shut p n).1.getD n p) (walkN ts T shut p n).1).1])
/-! What stays true of the points. -/
theorem hU! (ps:List P3)(p:P3):ps <+: putP ps p:=by
 unfold putP;split
 ·exact List.prefix_refl _
 ·exact List.prefix_append _ _
theorem bP! (ps:List P3)(p x:P3):x∈putP ps p↔x∈ps\/x=p:=by
 unfold putP;split
 ·next h=>exact⟨.inl,fun h2=>h2.elim id fun e=>e▸h⟩
 ·simp
theorem eM! {ps:List P3}(h:ps.Nodup)(p:P3):(putP ps p).Nodup:=by
 unfold putP;split
 ·exact h
 ·next hn =>
  rw[List.nodup_append];refine⟨h,by simp,fun a ha b hb=>?_⟩;rw[n9!.1 hb];exact fun e=>hn (e▸ha)
theorem bV!:∀(l:List P3)(ps:List P3)(out:List Int),ps <+: (refsD ps out l).2
 | [],ps,_=>List.prefix_refl _
 | p::l,ps,out=>by rw[refsD];exact(hU! ps p).trans (bV! l _ _)
theorem dL!:∀(l:List P3)(ps:List P3)(out:List Int)(x:P3),x∈(refsD ps out l).2↔x∈ps\/x∈l
 | [],ps,_,x=>by simp[refsD]
 | p::l,ps,out,x=>by
  rw[refsD,dL! l,bP!,v7!];constructor
  ·rintro((h | h) | h)
   ·exact .inl h
   ·exact .inr (.inl h)
   ·exact .inr (.inr h)
  ·rintro(h | h | h)
   ·exact .inl (.inl h)
   ·exact .inl (.inr h)
   ·exact .inr h
theorem co!:∀(l:List P3)(ps:List P3)(out:List Int),ps.Nodup->(refsD ps out l).2.Nodup
 | [],_,_,h=>h
 | p::l,ps,out,h=>by rw[refsD];exact co! l _ _ (eM! h p)
theorem kf! (T:List Tup)(p:P3)(k:Int)(a b:ByteArray)(ps:List P3):ps <+: (headF T p k a b ps).2.2:=by
 unfold headF;split
 ·exact bV! _ _ _
 ·split
  ·exact hU! _ _
  ·split
   ·exact bV! _ _ _
   ·exact List.prefix_refl _
theorem hg! (T:List Tup)(p:P3)(k:Int)(a b:ByteArray) {ps:List P3}(h:ps.Nodup):(headF T p k a b ps).2.2.Nodup:=by
 unfold headF;split
 ·exact co! _ _ _ h
 ·split
  ·exact eM! h _
  ·split
   ·exact co! _ _ _ h
   ·exact h
theorem gu! (T:List Tup)(p:P3)(r:RT):∀ps:List P3,ps <+: (formD T p r ps).2:=by
 induction r using RT.ind with
 | h r ih =>
  intro ps;rw[bF!]
  have:∀(l:List RT) (qs:List P3),(∀x∈l,x∈r.ps)->qs <+: (ap! T p l qs).2:=by
   intro l;induction l with
   | nil=>intro qs _;exact List.prefix_refl _
   | cons x l ihl=>intro qs hx;rw[ap!];exact(ih x (hx x (by simp)) qs).trans (ihl _ fun y hy=>hx y (u9! _ hy))
  exact(kf! T p r.k r.a r.b ps).trans (this r.ps _ fun _ h=>h)
theorem hk! (T:List Tup)(p:P3)(r:RT):∀ {ps:List P3},ps.Nodup->(formD T p r ps).2.Nodup:=by
 induction r using RT.ind with
 | h r ih =>
  intro ps h;rw[bF!]
  have:∀(l:List RT) (qs:List P3),(∀x∈l,x∈r.ps)->qs.Nodup->(ap! T p l qs).2.Nodup:=by
   intro l;induction l with
   | nil=>intro qs _ h;exact h
   | cons x l ihl=>intro qs hx h;rw[ap!];exact ihl _ (fun y hy=>hx y (u9! _ hy)) (ih x (hx x (by simp)) h)
  exact this r.ps _ (fun _ h=>h) (hg! T p r.k r.a r.b h)
theorem jy! (ts:List TyS)(T:List Tup)(shut:List R2)(p:P3)(ps:List P3):ps <+: (stepG ts T shut p ps).2:=by
 unfold stepG;split
 ·exact gu! _ _ _ _
 ·exact List.prefix_refl _
theorem gN! (ts:List TyS)(T:List Tup)(shut:List R2)(p:P3) {ps:List P3}(h:ps.Nodup):(stepG ts T shut p ps).2.Nodup:=by
 unfold stepG;split
 ·exact hk! _ _ _ h
 ·exact h
theorem cl! (ts:List TyS)(T:List Tup)(shut:List R2)(p:P3):∀n,(walkN ts T shut p n).1.Nodup
 | 0=>by simp[walkN]
 | n+1=>by rw[walkN];exact gN! _ _ _ _ (cl! ts T shut p n)
theorem bn! (ts:List TyS)(T:List Tup)(shut:List R2)(p:P3):∀n m,n<=m->(walkN ts T shut p n).1 <+: (walkN ts T shut p m).1
 | n,0,h=>by
  obtain rfl:n=0:=by omega
  exact List.prefix_refl _
 | n,m+1,h=>by
  by_cases e:n=m+1
  ·subst e;exact List.prefix_refl _
  ·refine(bn! ts T shut p n m (by omega)).trans ?_;rw[walkN];exact jy! _ _ _ _ _
theorem aX! (ts:List TyS)(T:List Tup)(shut:List R2)(p:P3):∀n,(walkN ts T shut p n).2.length=n
 | 0=>rfl
 | n+1=>by rw[walkN];simp[aX! ts T shut p n]
/-! All points lie in one finite list. -/
mutual
def RT.nms:RT->List ByteArray | .mk _ a b ps=>a::b::nmsL ps
def nmsL:List RT->List ByteArray | [] => [] | r::rs=>r.nms++nmsL rs
end
theorem RT.nms_eq (r:RT):r.nms=r.a::r.b::nmsL r.ps:=by
 obtain⟨k,a,b,ps⟩:=r;rw[RT.nms];rfl
theorem il! {r:RT}:∀ {l:List RT},r∈l->∀n∈r.nms,n∈nmsL l
 | x::l,h,n,hn=>by
  rw[nmsL,u3!];rcases v7!.1 h with rfl | h
  ·exact .inl hn
  ·exact .inr (il! h n hn)
def InU (O:List (ByteArray × ByteArray))(N:List ByteArray)(x:P3):Prop:=(x.t,x.i)∈O/\x.r∈N
structure OkU (T:List Tup)(O:List (ByteArray × ByteArray))(N:List ByteArray):Prop where
 objs:∀t∈T,(t.s.t,t.s.i)∈O
 rels:∀t∈T,t.s.r∈N
theorem bT! {T:List Tup}{p x:P3}(h:x∈ai! T p):∃t∈T,t.o=p/\t.s=x:=by
 unfold ai! at h;obtain⟨t,ht,rfl⟩:=u6!.1 h;rw[List.mem_filter]at ht;exact⟨t,ht.1,by simpa using ht.2,rfl⟩
theorem lY! {T:List Tup}{O:List (ByteArray × ByteArray)}{N:List ByteArray}(h:OkU T O N) {p:P3}(hp:(p.t,p.i)∈O) {k:Int}{a b:ByteArray}(ha:a∈N)(hb:b∈N) {ps:List P3}(hs:∀x∈ps,InU O N x):∀x∈(headF T p k a b ps).2.2,InU O N x:=by
 unfold headF;split
 ·intro x hx;rcases (dL! _ _ _ x).1 hx with hx | hx
  ·exact hs x hx
  ·unfold bM! at hx;rw[List.mem_filter]at hx;obtain⟨t,c,_,rfl⟩:=bT! hx.1;exact⟨h.objs t c,h.rels t c⟩
 ·split
  ·intro x hx;rcases (bP! _ _ x).1 hx with hx | rfl
   ·exact hs x hx
   ·exact⟨hp,ha⟩
  ·split
   ·intro x hx;rcases (dL! _ _ _ x).1 hx with hx | hx
    ·exact hs x hx
    ·unfold viaOf at hx;obtain⟨y,hy,rfl⟩:=u6!.1 hx;rw[List.mem_filter]at hy;obtain⟨t,c,_,rfl⟩:=bT! hy.1;exact⟨h.objs t c,hb⟩
   ·exact hs
theorem mf! {T:List Tup}{O:List (ByteArray × ByteArray)}{N:List ByteArray}(h:OkU T O N) {p:P3}(hp:(p.t,p.i)∈O)(r:RT):(∀n∈r.nms,n∈N)->∀ {ps:List P3},(∀x∈ps,InU O N x)->∀x∈(formD T p r ps).2,InU O N x:=by
 induction r using RT.ind with
 | h r ih =>
  intro hn ps hs;rw[bF!];rw[RT.nms_eq]at hn
  have:∀(l:List RT) (qs:List P3),(∀x∈l,x∈r.ps)->(∀x∈qs,InU O N x)->∀x∈(ap! T p l qs).2,InU O N x:=by
   intro l;induction l with
   | nil=>intro qs _ h;exact h
   | cons y l ihl =>
    intro qs hx hq;rw[ap!];exact ihl _ (fun z hz=>hx z (u9! _ hz)) (ih y (hx y (by simp)) (fun n hn'=>hn n (u9! _ (u9! _ (il! (hx y (by simp)) n hn')))) hq)
  exact this r.ps _ (fun _ h=>h) (lY! h hp (hn _ (by simp)) (hn _ (by simp)) hs)
def NmU (ts:List TyS)(N:List ByteArray):Prop:=∀x∈ab! ts,∀n∈x.2.nms,n∈N
theorem lp! {ts:List TyS}{T:List Tup}{O:List (ByteArray × ByteArray)}{N:List ByteArray}(h:OkU T O N)(hN:NmU ts N)(shut:List R2) {p:P3}(hp:InU O N p) {ps:List P3}(hs:∀x∈ps,InU O N x):∀x∈(stepG ts T shut p ps).2,InU O N x:=by
 unfold stepG;split
 ·next r hr =>
  refine mf! h hp.1 r ?_ hs;unfold ar! at hr;split at hr
  ·cases hr
  ·exact hN _ (aB! hr)
 ·exact hs
theorem hv! {ts:List TyS}{T:List Tup}{O:List (ByteArray × ByteArray)}{N:List ByteArray}(h:OkU T O N)(hN:NmU ts N)(shut:List R2) {p:P3}(hp:InU O N p):∀n,∀x∈(walkN ts T shut p n).1,InU O N x
 | 0=>by
  intro x hx;rw[walkN]at hx;rw[n9!.1 hx];exact hp
 | n+1=>by
  have ih:=hv! h hN shut hp n;rw[walkN];refine lp! h hN shut ?_ ih;rw[n8!];cases e:(walkN ts T shut p n).1[n]? with
  | none=>exact hp
  | some y=>exact ih y (List.mem_of_getElem? e)
theorem cI! {α:Type}:∀ {l u:List α},l.Nodup->(∀x∈l,x∈u)->l.length<=u.length
 | [],_,_,_=>v1! _
 | a::l,u,hn,hs=>by
  obtain⟨p,q,rfl⟩:=List.append_of_mem (hs a y4!);rw[List.nodup_cons]at hn
  have h1:=cI! (l:=l) (u:=p++q) hn.2 fun x hx=>by
   have h2:=hs x (u9! _ hx);rcases u3!.1 h2 with h3 | h3
   ·exact List.mem_append_left _ h3
   ·rcases v7!.1 h3 with h3 | h3
    ·subst h3;exact absurd hx hn.1
    ·exact List.mem_append_right _ h3
  simp only[u7!,u4!]at h1 ⊢;omega
theorem nr! {O:List (ByteArray × ByteArray)}{N:List ByteArray}{l:List P3}(hn:l.Nodup)(h:∀x∈l,InU O N x):l.length<=O.length*N.length:=by
 have h1:∀x∈l,x∈O.flatMap fun o=>N.map fun r=>(⟨o.1,o.2,r⟩:P3):=fun x hx=>by
  obtain⟨h2,h3⟩:=h x hx;exact List.mem_flatMap.2 ⟨_,h2,u6!.2 ⟨_,h3,rfl⟩⟩
 refine n6! (cI! hn h1) (v4! ?_);clear h h1 hn;induction O with
 | nil=>simp
 | cons o O ih=>rw[y5!,u4!,ih,x1!,u7!,Nat.add_mul];omega
/-! How the walk ends. -/
def WalkAt (ts:List TyS)(T:List Tup)(shut:List R2)(p:P3)(most:Int)(n:Nat):Prop:=∀m,m<n->m<(walkN ts T shut p m).1.length/\((walkN ts T shut p m).1.length:Int)<=most
def ow! (ts:List TyS)(T:List Tup)(shut:List R2)(p:P3)(most:Int)(n:Nat):Prop:=WalkAt ts T shut p most n/\n=(walkN ts T shut p n).1.length
def er! (ts:List TyS)(T:List Tup)(shut:List R2)(p:P3)(most:Int):Prop:=∃n,WalkAt ts T shut p most n/\n<(walkN ts T shut p n).1.length/\most<((walkN ts T shut p n).1.length:Int)
theorem ow!.uniq {ts:List TyS}{T:List Tup}{shut:List R2}{p:P3}{most most':Int}{n m:Nat}(h:ow! ts T shut p most n)(k:ow! ts T shut p most' m):n=m:=by
 rcases Nat.lt_trichotomy n m with hlt | h2 | hlt
 ·have:=(k.1 n hlt).1;have:=h.2;omega
 ·exact h2
 ·have:=(h.1 m hlt).1;have:=k.2;omega
theorem dF! (ts:List TyS)(T:List Tup)(shut:List R2)(p:P3) {n m:Nat}(h:n<=m):(walkN ts T shut p n).1.length<=(walkN ts T shut p m).1.length:=(bn! ts T shut p n m h).length_le
theorem ow!.notLong {ts:List TyS}{T:List Tup}{shut:List R2}{p:P3}{most:Int}{n:Nat}(h:ow! ts T shut p most n):¬ er! ts T shut p most:=by
 rintro⟨m,h1,h2,h3⟩;rcases Nat.lt_trichotomy n m with hlt | rfl | hlt
 ·have:=(h1 n hlt).1;have:=h.2;omega
 ·have:=h.2;omega
 ·have:=(h.1 m hlt).2;omega
def ic (l:List Int):List Value:=l.map fun n => .int .i64 n
theorem cJ! (a b:List Int):ic (a++b)=ic a++ic b:=by simp[ic]
theorem ad! (a:List Int):(ic a).length=a.length:=by simp[ic]
theorem nZ! (l:List Int):∀u∈ic l,u.oneCell'=true:=by
 intro u hu;obtain⟨s,_,rfl⟩:=u6!.1 hu;rfl
theorem intsT:oi! prog 107 3 1 8:=oi!.mk' Tryz.underlying107 (show _=some (some (.int .i64 0),1,8)by kernel_rfl) rfl (by decide)
theorem Sl.ints {S:Nat->Prop}{w:World}{v:Value}{l:List Int}(h:Sl S w 1 v (ic l)):∃ao c,v= .slice ao l.length c/\l.length<=c/\c<=9223372036854775807/\∀j,(hj:j<l.length)->∃b off,ao=some ⟨b,off,none⟩/\S b/\w.cell? ⟨b,off+j,none⟩=some (.int .i64 l[j]):=by
 obtain⟨ao,n,c,rfl,h1,h2,h3,h4,h5⟩:=h;rw[ad!,Nat.mul_one]at h1;subst h1;refine⟨ao,c,rfl,h2,by have e:maxLen=9223372036854775807:=rfl;omega,fun j hj=>?_⟩;obtain⟨b,off,rfl,hb,hc⟩:=h5 (by intro e;have:=congrArg List.length e;rw[ad!,v6!]at this;omega);exact⟨b,off,rfl,hb,hc j _ (by simp[ic,hj])⟩
abbrev FV3:=Value × Value × Value
def fC (x:FT × FV3):List Value:=[.int .i64 x.1.k,x.2.1,x.2.2.1,x.2.2.2]
theorem cf! (x:FT × FV3):(fC x).length=4:=rfl
mutual
def FTAt (S:Nat->Prop)(w:World):FT->FV3->Prop
 | .mk _ subs refs ps,v=>Sl S w 3 v.1 (pcs subs)/\Sl S w 1 v.2.1 (ic refs)/\∃l:List FV3,FTsAt S w ps l/\Sl S w 4 v.2.2 ((ps.zip l).flatMap fC)
def FTsAt (S:Nat->Prop)(w:World):List FT->List FV3->Prop
 | [],l=>l=[]
 | r::rs,l=>∃pv l',l=pv::l'/\FTAt S w r pv/\FTsAt S w rs l'
end
theorem ee! {S:Nat->Prop}{w:World}:∀ {ps:List FT}{l:List FV3},FTsAt S w ps l->(ps.zip l).map (·.1)=ps/\∀x∈ps.zip l,FTAt S w x.1 x.2
 | [],l,h=>by rw[FTsAt]at h;subst h;simp
 | r::rs,l,h=>by
  rw[FTsAt]at h;obtain⟨pv,l',rfl,h1,h2⟩:=h;obtain⟨h3,h4⟩:=ee! h2;refine⟨by rw[List.zip_cons_cons,v8!,h3],fun x hx=>?_⟩;rw[List.zip_cons_cons]at hx;rcases v7!.1 hx with rfl | hx
  ·exact h1
  ·exact h4 x hx
theorem iO! {S:Nat->Prop}{w:World}:∀ {q:List (FT × FV3)},(∀x∈q,FTAt S w x.1 x.2)->FTsAt S w (q.map (·.1)) (q.map (·.2))
 | [],_=>by rw[List.map_nil,List.map_nil,FTsAt]
 | x::q,h=>by
  rw[v8!,v8!,FTsAt];exact⟨x.2,_,rfl,h x y4!,iO! fun y hy=>h y (u9! _ hy)⟩
theorem FTAt.iff {S:Nat->Prop}{w:World}(r:FT)(v:FV3):FTAt S w r v↔Sl S w 3 v.1 (pcs r.subs)/\Sl S w 1 v.2.1 (ic r.refs)/\∃q:List (FT × FV3),q.map (·.1)=r.ps/\(∀x∈q,FTAt S w x.1 x.2)/\Sl S w 4 v.2.2 (q.flatMap fC):=by
 obtain⟨k,a0,a1,ps⟩:=r;rw[FTAt];constructor
 ·rintro⟨h1,h2,l,a,h4⟩;exact⟨h1,h2,_,(ee! a).1,(ee! a).2,h4⟩
 ·rintro⟨h1,h2,q,a,h4,h5⟩;refine⟨h1,h2,q.map (·.2),?_,?_⟩
  ·have:=iO! h4;rwa[a]at this
  ·rw[show ps=q.map (·.1)from a.symm,fh!];exact h5
theorem FTAt.same {S:Nat->Prop}{w w':World}{r:FT}{v:FV3}(h:FTAt S w r v)(hs:Same S w w'):FTAt S w' r v:=by
 induction r using FT.ind generalizing v with
 | h r ih =>
  obtain⟨h1,h2,q,h3,h4,h5⟩:=(FTAt.iff r v).1 h;exact(FTAt.iff r v).2 ⟨h1.same hs,h2.same hs,q,h3,fun x hx=>ih x.1 (by rw[<-h3];exact List.mem_map_of_mem hx) (h4 x hx),h5.same hs⟩
theorem FTAt.mono {S S':Nat->Prop}{w:World}{r:FT}{v:FV3}(h:FTAt S w r v)(hs:∀b,S b->S' b):FTAt S' w r v:=by
 induction r using FT.ind generalizing v with
 | h r ih =>
  obtain⟨h1,h2,q,h3,h4,h5⟩:=(FTAt.iff r v).1 h;exact(FTAt.iff r v).2 ⟨h1.mono hs,h2.mono hs,q,h3,fun x hx=>ih x.1 (by rw[<-h3];exact List.mem_map_of_mem hx) (h4 x hx),h5.mono hs⟩
theorem FTAt.up {w w':World}{r:FT}{v:FV3}(h:FTAt (· < w.heap.size) w r v)(hb:Below w.heap.size w w'):FTAt (· < w'.heap.size) w' r v :=
 (h.same (Same.below hb)).mono fun _ h=>n1! h hb.size
theorem FTAt.rows {S:Nat->Prop}{w:World}{r:FT}{v:FV3}(h:FTAt S w r v) :
  ∃ao c,v.2.2= .slice ao r.ps.length c/\r.ps.length<=c/\c<=9223372036854775807/\∀i (hi:i<r.ps.length),∃b off pv,ao=some ⟨b,off,none⟩/\S b /\
   w.cell? ⟨b,off+i*4,none⟩=some (.int .i64 r.ps[i].k)/\w.cell? ⟨b,off+i*4+1,none⟩=some pv.1/\w.cell? ⟨b,off+i*4+2,none⟩=some pv.2.1/\w.cell? ⟨b,off+i*4+3,none⟩=some pv.2.2/\FTAt S w r.ps[i] pv:=by
 obtain⟨-,-,q,h1,h2,h3⟩:=(FTAt.iff r v).1 h;have f:q.length=r.ps.length:=by rw[<-h1,x1!]
 obtain⟨ao,c,e,h4,h5,g⟩:=Sl.rows cf! (by decide) h3;refine⟨ao,c,by rw[e,f],by omega,h5,fun i hi=>?_⟩;have a:i<q.length:=by omega
 obtain⟨b,off,rfl,hb,g⟩:=g (by omega);have d:r.ps[i]=q[i].1:=by simp only[<-h1,List.getElem_map]
 rw[d];exact⟨b,off,q[i].2,rfl,hb,g i a 0 _ rfl,g i a 1 _ rfl,g i a 2 _ rfl,g i a 3 _ rfl,h2 _ (n5! a)⟩
def fV (r:FT)(v:FV3):Value := .agg #[.int .i64 r.k,v.1,v.2.1,v.2.2]
abbrev RwV (ι:Type):=List ι × Value
def rwV {ι:Type}(x:RwV ι):Value:=x.2
def optR {ι:Type}(l:List ι):Option (List ι):=if l.isEmpty then none else some l
structure Elm (ι:Type) where
 e:TypeId
 sz:Nat
 enc:ι->List Value
 len:∀x,(enc x).length=sz
 pos:0<sz
section
variable {κ ι : Type}
structure MRows (E:Elm ι)(w:World)(B:Nat)(lw:List (κ × RwV ι)):Prop where
 rows:∀x∈lw,x.2.1≠[]/\Own w B E.e E.sz x.2.2 (x.2.1.flatMap E.enc)
 apart:∀x∈lw,∀y∈lw,x.1≠y.1->x.2.2.ownBlock≠y.2.2.ownBlock
theorem ef! (E:Elm ι):∀l:List ι,(l.flatMap E.enc).length=l.length*E.sz
 | []=>by simp
 | x::l=>by rw[y5!,u4!,E.len,ef! E l,u7!,Nat.add_mul];omega
theorem ga! {w:World}{B:Nat}{E:Elm ι}{v:Value}{l:List ι}(h:Own w B E.e E.sz v (l.flatMap E.enc))(hl:l≠[]):∃g,v.ownBlock=some g:=by
 obtain⟨n,h⟩:=h;rcases h.2 with⟨rfl,rfl⟩|⟨g',cap,cur,rfl,hbg,hg',r⟩
 ·have:=h.1;rw[ef!,Nat.zero_mul]at this;rcases Nat.mul_eq_zero.1 this with h0 | h0
  ·exact absurd (x0! h0) hl
  ·have:=E.pos;omega
 ·exact⟨g',rfl⟩
theorem MRows.keep {E:Elm ι}{w w':World}{B:Nat}{lw:List (κ × RwV ι)}(h:MRows E w B lw)(hs:∀x,B<=x->x<w.heap.size->(∃cs,w.heap[x]?=some (.cells cs E.e (0,0)))->w'.heap[x]?=w.heap[x]?):MRows E w' B lw :=
 ⟨fun x hx=>⟨(h.rows x hx).1,(h.rows x hx).2.keepB fun g hg=>by
  have ho:=(h.rows x hx).2;have hb:=ho.block g hg
  exact hs g hb.1 hb.2 (by
   obtain⟨n,ho⟩:=ho;rcases ho.2 with⟨h0,_⟩|⟨g',cap,cur,h0,hbg,hg',r⟩
   ·rw[h0]at hg;cases hg
   ·rw[h0]at hg;injection hg with hg
    subst hg;exact⟨_,hg'⟩)⟩,h.apart⟩
variable [DecidableEq κ]
def MR (P:Program)(k:TypeId)(kv:κ->Value)(E:Elm ι)(w:World)(B b:Nat)(f:κ->List ι):Prop :=
 ∃lw:List (κ × RwV ι),Mp P k kv rwV w b lw/\MRows E w B lw/\∀n,(lookA lw n).map (·.1)=optR (f n)
variable {P : Program} {k : TypeId} {kv : κ -> Value} {E : Elm ι} {w w' : World} {B b : Nat} {f : κ -> List ι}
theorem MR.made (w:World)(B:Nat):MR P k kv E (w.alloc (.map #[] 0)) B w.heap.size (fun _:κ=>([]:List ι)) :=
 ⟨[],Mp.made w,⟨(fun x hx=>by cases hx),fun x hx=>by cases hx⟩,fun n=>rfl⟩
theorem MR.lt (h:MR P k kv E w B b f):b<w.heap.size:=by
 obtain⟨lw,h1,_⟩:=h;exact h1.lt
theorem MR.notCells (h:MR P k kv E w B b f):∀cs t fr,w.heap[b]?≠some (.cells cs t fr):=by
 obtain⟨lw,h1,_⟩:=h;exact h1.notCells
theorem MR.keep (h:MR P k kv E w B b f)(hb:w'.heap[b]?=w.heap[b]?)(hs:∀x,B<=x->x<w.heap.size->(∃cs,w.heap[x]?=some (.cells cs E.e (0,0)))->w'.heap[x]?=w.heap[x]?):MR P k kv E w' B b f:=by
 obtain⟨lw,h1,h2,h3⟩:=h;exact⟨lw,h1.same hb,h2.keep hs,h3⟩
theorem MR.up (h:MR P k kv E w B b f)(hb:Below w.heap.size w w'):MR P k kv E w' B b f:=h.keep (hb.block _ h.lt) fun x _ hx _=>hb.block x hx
theorem MR.turned (h:MR P k kv E w B b f) {c:Nat}(ht:ot! w w' c)(hb:b≠c)(hc:∀cs t fr,w.heap[c]?≠some (.cells cs t fr)):MR P k kv E w' B b f :=
 h.keep (ht.kept.block _ hb) fun x _ _ hx=>ht.kept.block x fun e=>by
  obtain⟨cs,hx⟩:=hx;exact hc _ _ _ (e▸hx)
theorem MR.congr (h:MR P k kv E w B b f) {g:κ->List ι}(e:∀n,f n=g n):MR P k kv E w B b g:=by
 have:f=g:=funext e;rw[<-this];exact h
theorem MR.look (h:MR P k kv E w B b f)(K:Keyed P k)(inj:∀a b,kv a=kv b->a=b) {t e:TypeId}(ht:P.underlying t=some (.map k e))(hz:(zeroValue e).run P w= .ok (.slice none 0 0) w) {n:κ}(hn:∃q,keyOf P k (kv n)=some q) :
  ∃v,(Instr.lookup t (.map (some b)) (kv n) false).run P w= .ok v w/\Own w B E.e E.sz v ((f n).flatMap E.enc)/\∃lw:List (κ × RwV ι),Mp P k kv rwV w b lw/\MRows E w B lw/\(∀n,(lookA lw n).map (·.1)=optR (f n))/\(lookA lw n=some (f n,v)\/(lookA lw n=none/\f n=[]/\v= .slice none 0 0)):=by
 obtain⟨lw,h1,h2,h3⟩:=h;have g:=h3 n;have c:=h1.look K inj ht hz false hn;cases hlk:lookA lw n with
 | none =>
  rw[hlk]at g c
  have d:f n=[]:=by
   unfold optR at g;split at g
   ·next h=>exact List.isEmpty_iff.1 h
   ·cases g
  exact⟨.slice none 0 0,c,by rw[d];exact Own.nil _ _ _ _,lw,h1,h2,h3,.inr ⟨hlk,d,rfl⟩⟩
 | some x =>
  rw[hlk]at g c
  have d:x.1=f n:=by
   unfold optR at g;split at g
   ·cases g
   ·injection g
  have hm:=h2.rows _ (aB! hlk);refine⟨x.2,c,by rw[<-d];exact hm.2,lw,h1,h2,h3,.inl ?_⟩;rw[hlk,<-d]
end
theorem jN!:Keyed prog 32:=Keyed.of_law (deep_law_laid eS! (m:=3) (by decide) (of_decide_eq_true (by kernel_rfl)) (by kernel_rfl) (by kernel_rfl))
theorem subK:Keyed prog 33:=Keyed.of_law (deep_law_laid eS! (m:=3) (by decide) (of_decide_eq_true (by kernel_rfl)) (by kernel_rfl) (by kernel_rfl))
theorem if! (a b:P3)(h:pV a=pV b):a=b:=by
 obtain⟨a1,a2,a3⟩:=a;obtain⟨b1,b2,b3⟩:=b;simpa [pV] using h
theorem hX! (d:Nat)(p:P3)(h:p.Ok):prog.keyLits (d+1+1+1) 32 [.string p.t,.string p.i,.string p.r]=some [.string p.t.data.toList,.string p.i.data.toList,.string p.r.data.toList]:=by
 unfold Program.keyLits;rw[Tryz.underlying32];have e1:=fx! d p.t p.i h.1 h.2.1;have e2:=bL! (d+1) p.r h.2.2;have e3:prog.cellsOf 32=3:=by kernel_rfl
 have e4:prog.cellsOf 9=1:=by kernel_rfl
 have e5:prog.cellsOf 30=2:=by kernel_rfl
 simp[e1,e2,e3,e4,e5]
theorem dO! (p:P3)(h:p.Ok):∃q,keyOf prog 32 (pV p)=some q:=by
 obtain⟨d,hd⟩:=bw!;have e:=hX! (d+1) p h;have e2:(prog.keyType 32&&(pV p).formed prog 32)=true:=by kernel_rfl
 have hs:prog.types.size+1=d+1+1+1+1:=by omega
 unfold keyOf;rw[Tryz.underlying32];dsimp only;rw[if_pos e2,hs];rw[show(pV p).cells.toList=[.string p.t,.string p.i,.string p.r]from rfl,e];exact⟨_,rfl⟩
theorem ln! (d:Nat)(p:P3)(h:p.Ok):prog.keyLits (d+1+1+1) 33 [.string p.t,.string p.i,.string p.r]=some [.string p.t.data.toList,.string p.i.data.toList,.string p.r.data.toList]:=by
 unfold Program.keyLits;rw[Tryz.underlying33];have e1:=fx! d p.t p.i h.1 h.2.1;have e2:=bL! (d+1) p.r h.2.2;have e3:prog.cellsOf 33=3:=by kernel_rfl
 have e4:prog.cellsOf 9=1:=by kernel_rfl
 have e5:prog.cellsOf 30=2:=by kernel_rfl
 simp[e1,e2,e3,e4,e5]
theorem mO! (p:P3)(h:p.Ok):∃q,keyOf prog 33 (pV p)=some q:=by
 obtain⟨d,hd⟩:=bw!;have e:=ln! (d+1) p h;have e2:(prog.keyType 33&&(pV p).formed prog 33)=true:=by kernel_rfl
 have hs:prog.types.size+1=d+1+1+1+1:=by omega
 unfold keyOf;rw[Tryz.underlying33];dsimp only;rw[if_pos e2,hs];rw[show(pV p).cells.toList=[.string p.t,.string p.i,.string p.r]from rfl,e];exact⟨_,rfl⟩
def NoPt (w:World)(b:Nat):Prop:=∀cs,w.heap[b]?≠some (.cells cs 32 (0,0))
def FS (lo:Nat)(w:World)(b:Nat):Prop:=lo<=b/\b<w.heap.size/\NoPt w b
abbrev PKept (M:Nat->Prop) (B:Nat) (w w':World):Prop:=oo! 32 M B w w'
section
variable {w w' w'' : World} {M : Nat -> Prop} {B lo : Nat}
theorem FS.same (h:PKept M B w w')(hM:∀x,M x->x<lo):Same (FS lo w) w w':=fun b hb=>h.block b (.inr ⟨fun hm=>by have:=hM b hm;have:=hb.1;omega,hb.2.1,hb.2.2⟩)
theorem FS.keep (h:PKept M B w w')(hM:∀x,M x->x<lo) {b:Nat}(hb:FS lo w b):FS lo w' b :=
 ⟨hb.1,n1! hb.2.1 h.size,fun cs=>by rw[FS.same h hM b hb];exact hb.2.2 cs⟩
theorem FS.mono {lo':Nat}(h:lo<=lo') {b:Nat}(hb:FS lo' w b):FS lo w b:=⟨n6! h hb.1,hb.2⟩
theorem FS.ext (h:Ext w w') {b:Nat}(hb:FS lo w b):FS lo w' b:=⟨hb.1,n1! hb.2.1 h.size,fun cs=>by rw[h.block b hb.2.1];exact hb.2.2 cs⟩
theorem Own.fs {e:TypeId}{sz:Nat}{v:Value}{xs:List Value}(h:Own w lo e sz v xs)(he:e≠32):Sl (FS lo w) w sz v xs:=by
 obtain⟨n,b⟩:=h;refine bk! b _ fun g hg=>⟨(b.lt g hg).1,(b.lt g hg).2,fun cs hc=>?_⟩;obtain⟨a0,a⟩:=(show Own w lo e sz v xs from⟨n,b⟩).typed hg;rw[hc]at a;injection a with a
 injection a with _ a _
 exact he a.symm
end
structure FRow (lo:Nat)(w:World)(q:List (FT × FV3))(pv:Value):Prop where
 row:Own w lo 128 4 pv (q.flatMap fC)
 parts:∀x∈q,FTAt (fun b=>FS lo w b/\pv.ownBlock≠some b) w x.1 x.2
section
variable {w w' w1 w3 : World} {M : Nat -> Prop} {B lo n0 : Nat} {q : List (FT × FV3)} {pv v' : Value} {x : FT × FV3}
theorem FRow.nil (lo:Nat)(w:World):FRow lo w [] (.slice none 0 0):=⟨Own.nil _ _ _ _,fun x hx=>by cases hx⟩
theorem FRow.keep (h:FRow lo w q pv)(hk:PKept M B w w')(hM:∀x,M x->x<lo):FRow lo w' q pv :=
 ⟨h.row.keepOwn fun g hg=>FS.same hk hM g ⟨(h.row.block g hg).1,(h.row.block g hg).2,fun cs hc=>by
   obtain⟨cur,h2⟩:=h.row.typed hg;rw[hc]at h2;injection h2 with h2
   injection h2 with _ h2 _
   exact absurd h2 (by decide)⟩,
  fun x hx=>((h.parts x hx).same fun b hb=>FS.same hk hM b hb.1).mono fun b hb=>⟨FS.keep hk hM hb.1,hb.2⟩⟩
theorem FRow.ext (h:FRow lo w q pv)(hx:Ext w w'):FRow lo w' q pv :=
 ⟨h.row.below hx,fun x hm=>((h.parts x hm).same fun b hb=>hx.block b hb.1.2.1).mono fun _b hb=>⟨hb.1.ext hx,hb.2⟩⟩
theorem FRow.above (h:FRow lo w q pv)(hs:∀b,lo<=b->b<w.heap.size->w'.heap[b]?=w.heap[b]?)(hz:w.heap.size<=w'.heap.size):FRow lo w' q pv :=
 ⟨h.row.keepOwn fun g hg=>hs g (h.row.block g hg).1 (h.row.block g hg).2,fun x hx=>((h.parts x hx).same fun b hb=>hs b hb.1.1 hb.1.2.1).mono fun b hb=>⟨⟨hb.1.1,n1! hb.1.2.1 hz,fun cs=>by rw[hs b hb.1.1 hb.1.2.1];exact hb.1.2.2 cs⟩,hb.2⟩⟩
theorem FRow.add (h:FRow lo w1 q pv)(hk:∀b,b<w1.heap.size->pv.ownBlock≠some b->w3.heap[b]?=w1.heap[b]?)(hz:w1.heap.size<=w3.heap.size)(ho:Own w3 lo 128 4 v' (q.flatMap fC++fC x))
  (hb:∀g,v'.ownBlock=some g->pv.ownBlock=some g\/w1.heap.size<=g) (hx:FTAt (FS n0 w1) w1 x.1 x.2) (hn0:lo<=n0) (hpv:∀g,pv.ownBlock=some g->g<n0):FRow lo w3 (q++[x]) v':=by
 have hm:∀b,(FS lo w1 b/\pv.ownBlock≠some b)->(FS lo w3 b/\v'.ownBlock≠some b):=fun b hb'=>⟨⟨hb'.1.1,n1! hb'.1.2.1 hz,fun cs=>by rw[hk b hb'.1.2.1 hb'.2];exact hb'.1.2.2 cs⟩,fun e=>by
  rcases hb b e with e2 | e2
  ·exact hb'.2 e2
  ·have:=hb'.1.2.1;omega⟩
 refine⟨by rw[x9!];simpa using ho,fun y hy=>?_⟩;rcases u3!.1 hy with hy | hy
 ·exact((h.parts y hy).same fun b hb'=>hk b hb'.1.2.1 hb'.2).mono hm
 ·obtain rfl:=n9!.1 hy;have h2:∀b,FS n0 w1 b->(FS lo w1 b/\pv.ownBlock≠some b):=fun b hb'=>⟨hb'.mono hn0,fun e=>by have:=hpv b e;have:=hb'.1;omega⟩;exact((hx.mono h2).same fun b hb'=>hk b hb'.1.2.1 hb'.2).mono hm
theorem FRow.forms (h:FRow lo w q pv):∃p:List (FT × FV3),p.map (·.1)=q.map (·.1)/\(∀x∈p,FTAt (FS lo w) w x.1 x.2)/\Sl (FS lo w) w 4 pv (p.flatMap fC) :=
 ⟨q,rfl,fun x hx=>(h.parts x hx).mono fun b hb=>hb.1,h.row.fs (by decide)⟩
end
def GrAt (S:Nat->Prop)(w:World)(ps:List P3)(fs:List FT)(pv fv:Value):Prop :=
 Sl S w 3 pv (pcs ps)/\∃q:List (FT × FV3),q.map (·.1)=fs/\(∀x∈q,FTAt S w x.1 x.2)/\Sl S w 4 fv (q.flatMap fC)
theorem GrAt.same {S:Nat->Prop}{w w':World}{ps:List P3}{fs:List FT}{pv fv:Value}(h:GrAt S w ps fs pv fv)(hs:Same S w w'):GrAt S w' ps fs pv fv:=by
 obtain⟨h1,q,h2,h3,h4⟩:=h;exact⟨h1.same hs,q,h2,fun x hx=>(h3 x hx).same hs,h4.same hs⟩
theorem GrAt.mono {S T:Nat->Prop}{w:World}{ps:List P3}{fs:List FT}{pv fv:Value}(h:GrAt S w ps fs pv fv)(hs:∀b,S b->T b):GrAt T w ps fs pv fv:=by
 obtain⟨h1,q,h2,h3,h4⟩:=h;exact⟨h1.mono hs,q,h2,fun x hx=>(h3 x hx).mono hs,h4.mono hs⟩
theorem GrAt.up {w w':World}{ps:List P3}{fs:List FT}{pv fv:Value}(h:GrAt (· < w.heap.size) w ps fs pv fv)(hb:Below w.heap.size w w'):GrAt (· < w'.heap.size) w' ps fs pv fv :=
 (h.same (Same.below hb)).mono fun _ h=>n1! h hb.size
abbrev nuV:Nat->Value:=fun n => .int .i64 n
theorem iw! (p:P3):∀(ps:List P3)(k:Nat),lookA (ps.zipIdx k) p=if p∈ps then some (k+numD ps p)else none
 | [],_=>rfl
 | x::ps,k=>by
  rw[List.zipIdx_cons];unfold lookA;by_cases h:x=p
  ·subst h;simp[numD,List.findIdx_cons]
  ·rw[if_neg h,iw! p ps (k+1)];have hp:¬ p=x:=fun e=>h e.symm;simp only[v7!,hp,false_or,numD,List.findIdx_cons,h,decide_false,cond_false];split
   ·congr 1;omega
   ·rfl
theorem mY! (p:P3)(ps:List P3)(h:p∉ps):putA (ps.zipIdx 0) p ps.length=(ps++[p]).zipIdx 0:=by
 rw[bb! (fun x hx e=>h (by
  have:=List.mem_map_of_mem (f:=Prod.fst) hx;rw[List.zipIdx_map_fst]at this;rw[<-e];exact this)),List.zipIdx_append]
 simp
theorem lE! (ps:List P3)(p:P3)(h:p∉ps):numD ps p=ps.length:=by
 unfold numD;rw[List.findIdx_eq_length];intro x hx;simp only[decide_eq_false_iff_not];exact fun e=>h (e▸hx)
structure WkAt (w:World)(wp am B:Nat)(tv fi sm:Value)(ps:List P3)(pv fv:Value):Prop where
 box:Blk w wp #[tv,fi,sm,.map (some am),pv,fv,.int .i64 0] 251
 num:Mp prog 32 pV nuV w am (ps.zipIdx 0)
 pts:Own w B 32 3 pv (pcs ps)
abbrev WM (wp am:Nat):Nat->Prop:=fun x=>x=wp\/x=am
section
variable {w w' : World} {wp am B : Nat} {tv fi sm pv fv pv' fv' : Value} {ps : List P3} {p : P3}
theorem WkAt.ext (h:WkAt w wp am B tv fi sm ps pv fv)(hx:Ext w w'):WkAt w' wp am B tv fi sm ps pv fv:=⟨h.box.below hx,h.num.below hx,h.pts.below hx⟩
theorem WkAt.same (h:WkAt w wp am B tv fi sm ps pv fv)(h1:w'.heap[wp]?=w.heap[wp]?)(h2:w'.heap[am]?=w.heap[am]?)(h3:∀g,pv.ownBlock=some g->w'.heap[g]?=w.heap[g]?):WkAt w' wp am B tv fi sm ps pv fv:=⟨h1.trans h.box,h.num.same h2,h.pts.keepOwn h3⟩
theorem WkAt.ne (h:WkAt w wp am B tv fi sm ps pv fv):wp≠am:=fun e=>h.num.notCells _ _ _ (e▸h.box)
theorem WkAt.ptNe (h:WkAt w wp am B tv fi sm ps pv fv):∀g,pv.ownBlock=some g->g≠wp/\g≠am:=fun g hg=>by
 obtain⟨cur,h2⟩:=h.pts.typed hg;refine⟨fun e=>?_,fun e=>?_⟩
 ·subst e;rw[show w.heap[g]?=_ from h.box]at h2;injection h2 with h2
  injection h2 with _ h2 _
  exact absurd h2 (by decide)
 ·subst e;exact h.num.notCells _ _ _ h2
end
abbrev KX (wp am:Nat) (w:World) (pv:Value) (x:Nat):Prop:=x<w.heap.size/\x≠wp/\x≠am/\pv.ownBlock≠some x
structure Fine (wp am:Nat)(w w':World)(pv pv':Value):Prop where
 kept:Kept (KX wp am w pv) w w'
 wher:∀g,pv'.ownBlock=some g->pv.ownBlock=some g\/w.heap.size<=g
section
variable {w w' w'' w0 : World} {wp am B B' : Nat} {tv fi sm pv fv pv' pv'' v : Value} {ps : List P3} {e : TypeId} {sz : Nat} {xs : List Value}
theorem Fine.of (wp am:Nat)(pv:Value)(h:Ext w w'):Fine wp am w w' pv pv:=⟨Below.kept h fun _ hx=>hx.1,fun _ hg => .inl hg⟩
theorem Fine.trans (h:Fine wp am w w' pv pv')(k:Fine wp am w' w'' pv' pv''):Fine wp am w w'' pv pv'' :=
 ⟨h.kept.trans (k.kept.mono fun x (hx:KX wp am w pv x)=>⟨n1! hx.1 h.kept.size,hx.2.1,hx.2.2.1,fun e=>by
   rcases h.wher x e with e2 | e2
   ·exact hx.2.2.2 e2
   ·have:=hx.1;omega⟩),
  fun g hg=>by
   rcases k.wher g hg with e | e
   ·exact h.wher g e
   ·exact .inr (n6! h.kept.size e)⟩
theorem Fine.size (h:Fine wp am w w' pv pv'):w.heap.size<=w'.heap.size:=h.kept.size
theorem Fine.own (h:Fine wp am w0 w pv pv')(ho:Own w w0.heap.size e sz v xs)(hg:w.grownBy w' v.ownBlock):Fine wp am w0 w' pv pv' :=
 ⟨⟨hg.os.trans h.kept.os,hg.tape.trans h.kept.tape,hg.output.trans h.kept.output,n6! h.kept.size hg.size,fun x hx=>(hg.block x (n1! hx.1 h.kept.size) fun e=>by have:=(ho.block x e.symm).1;have:=hx.1;omega).trans (h.kept.block x hx)⟩,h.wher⟩
theorem Fine.set (h:Fine wp am w0 w pv pv') {x i:Nat}(hx:w0.heap.size<=x)(u:Value):Fine wp am w0 (w.setCell ⟨x,i,none⟩ u) pv pv' :=
 ⟨h.kept.set (fun hk=>by have h1:x<w0.heap.size:=hk.1;omega) _,h.wher⟩
theorem Fine.pk (h:Fine wp am w w' pv pv')(hw:WkAt w wp am B tv fi sm ps pv fv)(hB:B<=wp/\B<=am):PKept (WM wp am) B w w':=h.kept.mono fun x hx=>by
 rcases hx with hx | ⟨h1,h2,h3⟩
 ·exact⟨by have:=hw.box.lt;omega,by omega,by omega,fun e=>by have:=(hw.pts.block x e).1;omega⟩
 ·refine⟨h2,fun e=>h1 (.inl e),fun e=>h1 (.inr e),fun e=>?_⟩;obtain⟨c,hc⟩:=hw.pts.typed e;exact h3 c hc
theorem WkAt.un (h:WkAt w wp am B tv fi sm ps pv fv) {x:Nat}{cs:Array Value}{fr:Nat × Nat}(hx:w.heap[x]?=some (.cells cs e fr))(he:e≠32)(he2:e≠251):KX wp am w pv x:=by
 refine⟨(x7!.1 hx).1,fun e=>?_,fun e=>?_,fun e=>?_⟩
 ·subst e;rw[show w.heap[x]?=_ from h.box]at hx;injection hx with hx
  injection hx with _ hx _
  exact he2 hx.symm
 ·subst e;exact h.num.notCells _ _ _ hx
 ·obtain⟨c,hc⟩:=h.pts.typed e;rw[hc]at hx;injection hx with hx
  injection hx with _ hx _
  exact he hx.symm
theorem Fine.blk (h:Fine wp am w w' pv pv')(hw:WkAt w wp am B tv fi sm ps pv fv) {x:Nat}{cs:Array Value}(hx:Blk w x cs e)(he:e≠32)(he2:e≠251):Blk w' x cs e:=(h.kept.block x (hw.un hx he he2)).trans hx
theorem Fine.row (h:Fine wp am w w' pv pv')(hw:WkAt w wp am B tv fi sm ps pv fv)(ho:Own w B' e sz v xs)(he:e≠32)(he2:e≠251):Own w' B' e sz v xs:=ho.keepOwn fun g hg=>by
 obtain⟨c,hc⟩:=ho.typed hg;exact h.kept.block g (hw.un hc he he2)
theorem WkAt.sl (hw:WkAt w wp am B tv fi sm ps pv fv)(ho:Own w B' e sz v xs)(he:e≠32)(he2:e≠251):Sl (KX wp am w pv) w sz v xs:=by
 obtain⟨n,h⟩:=ho;refine bk! h _ fun g hg=>?_;obtain⟨c,hc⟩:=(show Own w B' e sz v xs from⟨n,h⟩).typed hg;exact hw.un hc he he2
theorem WkAt.grown (h:WkAt w wp am B tv fi sm ps pv fv)(ho:Own w B' e sz v xs)(he:e≠32)(he2:e≠251)(hg:w.grownBy w' v.ownBlock):WkAt w' wp am B tv fi sm ps pv fv:=by
 refine h.same (hg.block wp h.box.lt fun e=>?_) (hg.block am h.num.lt fun e=>?_) fun g hgp=>hg.block g (h.pts.block g hgp).2 fun e=>?_
 ·obtain⟨c,hc⟩:=ho.typed e.symm;exact(h.un hc he he2).2.1 rfl
 ·exact ho.notMap h.num.notCells am e.symm rfl
 ·obtain⟨c,hc⟩:=ho.typed e.symm;exact(h.un hc he he2).2.2.2 hgp
theorem WkAt.setBox (h:WkAt w wp am B tv fi sm ps pv fv) {x i:Nat}{cs:Array Value}(hx:Blk w x cs e)(he:e≠32)(he2:e≠251)(u:Value):WkAt (w.setCell ⟨x,i,none⟩ u) wp am B tv fi sm ps pv fv:=by
 have hu:=h.un hx he he2;exact h.same (Below.heap_setCell _ _ _ _ fun e=>hu.2.1 e.symm) (Below.heap_setCell _ _ _ _ fun e=>hu.2.2.1 e.symm) fun g hg=>Below.heap_setCell _ _ _ _ fun e=>hu.2.2.2 (by rw[hg,show g=x from e])
theorem Own.setBox (ho:Own w B' e sz v xs) {x i:Nat}{cs:Array Value}{e2:TypeId}(hx:Blk w x cs e2)(he:e≠e2)(u:Value):Own (w.setCell ⟨x,i,none⟩ u) B' e sz v xs:=ho.keepOwn fun g hg=>Below.heap_setCell _ _ _ _ fun e3=>by
 obtain⟨c,hc⟩:=ho.typed hg;rw[show g=x from e3,show w.heap[x]?=_ from hx]at hc;injection hc with hc
 injection hc with _ hc _
 exact he hc.symm
end
theorem iI! {S:Nat->Prop}(v:Value)(l:List Int)(k:Int)(w:World)(h:Sl S w 1 v (ic l)) :
  Calls prog 289 #[v,.int .i64 k] w fun e w'=>(∃i:Int,e= .returned (.int .i64 i)/\(0<=i↔k∈l))/\w'=w:=by
 obtain⟨ao,c,rfl,a4,a2,hc⟩:=h.ints;have HC:=h! hc;clear hc h;go_enter func289,ntmps289
 go_wp2_with fail
 go_loopw [5,8] (fun _ iv wr=>∃i:Nat,i<=l.length/\iv= .int .i64 i/\(∀j (hj:j<l.length),j<i->l[j]≠k)/\wr=w) (fun _ iv _=>l.length-(intOf iv).toNat)
 case atStart=>exact⟨0,v1! _,rfl,(fun _ _ h=>absurd h (Nat.not_lt_zero _)),rfl⟩
 case round =>
  obtain⟨i,hi,rfl,a,rfl⟩:=hrel;have d:=h! a;clear a;by_cases hlt:i<l.length
  ·obtain⟨b,a3,rfl,-,a1⟩:=HC.out i hlt;by_cases he:l[i]=k
   ·have HM:Hid (k∈l):=h! (he▸n5! hlt);rw[he]at a1;clear he;go_wp2_with fail
    go_ret
    exact⟨⟨_,rfl,⟨fun _=>HM.out,fun _=>by omega⟩⟩,rfl⟩
   ·have HN:=h! (show ∀j (hj:j<l.length),j<i+1->l[j]≠k from fun j hj h=>(Nat.lt_succ_iff_lt_or_eq.1 h).elim (fun e=>d.out j hj e) (fun e=>by subst e;exact he));generalize l[i]=x at *;have a0:¬ (k=x):=fun e=>he e.symm;have a5:(k == x)=false:=by simpa using a0
    have f:=h! hlt;clear he;go_wp2_with fail
    go_roundw
    case rel=>exact⟨i+1,f.out,by go_num,HN.out,trivial⟩
    case measure=>have:=f.out;simp[intOf];omega
  ·obtain rfl:i=l.length:=by omega
   have HN:=h! (show k∉l from fun hk=>by obtain⟨j,hj,e⟩:=u0! hk;exact d.out j hj hj e);go_wp2_with fail
   go_ret
   exact⟨⟨_,rfl,⟨fun h=>absurd h (by decide),fun h=>absurd h HN.out⟩⟩,rfl⟩
theorem ff! {S:Nat->Prop}(v:Value)(l:List Int)(k:Int)(w:World)(h:Sl S w 1 v (ic l)) :
  Calls prog 251 #[v,.int .i64 k] w fun e w'=>e= .returned (.bool (decide (k∈l)))/\w'=w:=by
 have HI:=h! (iI! v l k w h);obtain⟨ao,c,rfl,-,-,-⟩:=h.ints;clear h;go_enter func251,ntmps251
 go_wp2_with fail
 refine HI.out.mono ?_;rintro e w1 ⟨⟨i,rfl,a⟩,rfl⟩;by_cases hk:k∈l
 ·have h0:=a.2 hk;clear a;go_wp2_with fail
  go_ret
  exact⟨by rw[v2! hk];rfl,rfl⟩
 ·have h0:¬ (0<=i):=fun h=>hk (a.1 h);have hd:decide (0<=i)=false:=v3! h0;clear a h0;go_wp2_with fail
  go_ret
  exact⟨by rw[v3! hk];rfl,rfl⟩
theorem kG!:oi! prog 59 32 3 48:=oi!.mk' Tryz.underlying59 (show _=some (some (.agg #[.string ByteArray.empty,.string ByteArray.empty,.string ByteArray.empty]),3,48)by kernel_rfl) rfl (by decide)
theorem subsT:oi! prog 42 33 3 48:=oi!.mk' Tryz.underlying42 (show _=some (some (.agg #[.string ByteArray.empty,.string ByteArray.empty,.string ByteArray.empty]),3,48)by kernel_rfl) rfl (by decide)
theorem aS! (l:List P3):(pcs l).length=3*l.length:=by
 unfold pcs;induction l with
 | nil=>rfl
 | cons a r ih=>rw[y5!,u4!,ih,au!,u7!];omega
theorem nd! (l:List P3):∀u∈pcs l,u.oneCell'=true:=by
 intro u hu;obtain⟨a,_,ha⟩:=List.mem_flatMap.1 hu;exact jQ! a u ha
theorem ib! (a b:List P3):pcs (a++b)=pcs a++pcs b:=x9!
theorem ia! (a:P3):pcs [a]=pC a:=by simp[pcs]
theorem db! (wp am B:Nat)(tv fi sm pv fv:Value)(ps:List P3)(p:P3)(w:World)(hp:p.Ok)(h:WkAt w wp am B tv fi sm ps pv fv)(hB:B<=wp/\B<=am)(hl:ps.length<=1073741824) :
  Calls prog 151 #[.pointer (some ⟨wp,0,none⟩),pV p] w fun e w'=>∃pv',e= .returned (.int .i64 (numD ps p:Nat))/\WkAt w' wp am B tv fi sm (putP ps p) pv' fv/\Fine wp am w w' pv pv':=by
 have ai:=h! hB;have ac:=h! (show B<=w.heap.size from by have:=h.box.lt;omega);have aj:Hid (wp<w.heap.size/\am<w.heap.size):=h! ⟨h.box.lt,h.num.lt⟩;have y:=h! h.ptNe;have a7:=h! h.pts.block;obtain⟨po,n,pc,rfl,hn,-,-⟩:=h.pts.sl.len;rw[aS!]at hn;obtain rfl:n=ps.length:=by omega
 have HK:=h! (dO! p hp);have a5:=h! (iw! p ps 0);have aa:=h! (mY! p ps);have af:=h! (lE! ps p);have N:Hid (putP ps p=if p∈ps then ps else ps++[p]):=h! rfl;obtain⟨pt,pi,pr⟩:=p;have H:=Ext.alloc w (.cells #[.string pt,.string pi,.string pr] 32);have V:=h! (h.ext H);have U:=h! (Blk.made w #[.string pt,.string pi,.string pr] 32);have a0:=h! H;clear H h hB hp hn;unfold pV;dsimp only;go_enter func151,ntmps151
 go_wp2_with fail
 obtain⟨wd,C⟩:=e! ((w.alloc (.cells #[.string pt,.string pi,.string pr] 32)).drew);have v:=h! (show WkAt wd wp am B tv fi sm ps (.slice po ps.length pc) fv from by rw[C];exact V.out.ext (Ext.drew _));have G:=h! (show Blk wd w.heap.size #[.string pt,.string pi,.string pr] 32 from by rw[C];exact U.out.drew);have J:=h! (show Ext w wd from by rw[C];exact a0.out.trans (Ext.drew _));refine re! C ?_;clear C V U a0;have h1:=fun W (h:Ext wd W)=>(v.out.box.below h).cells;have h2:=fun W (h:Ext wd W)=>(G.out.below h).cells;have a:=fun W (h:Ext wd W)=>(v.out.num.below h).look jN! if! Tryz.underlying249 (Tryz.zeroValue3 W) true HK.out;rw[a5.out]at a;by_cases hm:(⟨pt,pi,pr⟩:P3)∈ps
 ·rw[if_pos hm,Nat.zero_add]at a;have HR:Hid (putP ps ⟨pt,pi,pr⟩=ps):=h! (by rw[N.out,if_pos hm]);clear hm;unfold lookV pV at a;dsimp only at a;(refine WalkN.tk [0,1,2,3,4,5,6,7,8,9,10] ?_;(iterate 11 (refine c! ?_));refine TkN.n ?_)
  refine d! ?_;clear h1 h2 a;go_wp2_with fail
  go_ret
  exact⟨_,rfl,by rw[HR.out];exact v.out,Fine.of _ _ _ J.out⟩
 ·rw[if_neg hm]at a;have HR:Hid (putP ps ⟨pt,pi,pr⟩=ps++[⟨pt,pi,pr⟩]):=h! (by rw[N.out,if_neg hm]);have ah:=h! (af.out hm);have a4:=h! (aa.out hm);clear hm;unfold lookV pV at a;dsimp only at a;(refine WalkN.tk [0,1,2,3,4,5,6,7,8,9,10] ?_;(iterate 11 (refine c! ?_));refine TkN.n ?_)
  refine d! ?_;clear h1 h2 a;have ad:=v.out.box.cells;go_wp2_with fail
  clear ad;obtain⟨we,s⟩:=e! wd.drew;have i:=h! (show WkAt we wp am B tv fi sm ps (.slice po ps.length pc) fv from by rw[s];exact v.out.ext (Ext.drew _));have D:=h! (show Blk we w.heap.size #[.string pt,.string pi,.string pr] 32 from by rw[s];exact G.out.drew);have L:=h! (show Ext w we from by rw[s];exact J.out.trans (Ext.drew _));refine r! (Kept (· ≠ am) we) (by rw[<-s];exact Kept.refl _ _) ?_;rw[<-s];clear s v G J;have q:Hid (w.heap.size≠am):=h! (fun e=>i.out.num.notCells _ _ _ (e▸D.out));have h1:=fun W (h:Kept (· ≠ am) we W)=>(h.blk i.out.box i.out.ne).cells;have h2:=fun W (h:Kept (· ≠ am) we W)=>(h.blk D.out q.out).cells;(refine WalkN.tk [0,1,2,3,4,5] ?_;(iterate 6 (refine c! ?_));refine TkN.n ?_)
  clear h1 h2;obtain⟨wf,k,I,o⟩:=i.out.num.store jN! if! Tryz.underlying249 HK.out (ps.length:Nat);rw[a4.out]at I;unfold pV at k;dsimp only at k;refine ob! 6 ?_;intro K hK;go_simp;refine hK.out _ _ o.kept ?_;clear hK k;refine d! ?_;have Y:=h! (o.kept.blk i.out.box i.out.ne);have Z:=h! (o.kept.blk D.out q.out);have R:=h! I;have a1:=h! (i.out.pts.keepOwn fun g hg=>o.kept.block g (y.out g hg).2);have a3:Hid (Kept (KX wp am w (.slice po ps.length pc)) w wf):=h! ((Below.kept L.out fun x hx=>hx.1).trans (o.kept.mono fun x hx=>hx.2.2.1));have T:=h! (show w.heap.size<=wf.heap.size from by rw[o.size];exact L.out.size);clear I o i D q L;go_wp2_with fail
  obtain⟨wg,f⟩:=e! wf.drew;have t:=h! (show Blk wg wp _ _ from by rw[f];exact Y.out.drew);have F:=h! (show Blk wg w.heap.size _ _ from by rw[f];exact Z.out.drew);have E:=h! (R.out.below (show Below wf.heap.size wf wg from by rw[f];exact(Below.refl _ _).drew));have a2:=h! (a1.out.below (show Below wf.heap.size wf wg from by rw[f];exact(Below.refl _ _).drew));have O:=h! (show Kept (KX wp am w (.slice po ps.length pc)) w wg from by rw[f];exact a3.out.drew);have M:=h! (show w.heap.size<=wg.heap.size from by rw[f];exact T.out);refine ah! 12 (Kept (fun x=>x<wg.heap.size/\Value.ownBlock (.slice po ps.length pc)≠some x) wg) (by rw[<-f];exact Kept.refl _ _) (by kernel_rfl) (by kernel_rfl) (fun _ _ d _ _ h=>by cases d <;> exact h) ?_;rw[<-f];clear f Y Z R a1 a3 T;have h1:=fun W (h:Kept (fun x=>x<wg.heap.size/\Value.ownBlock (.slice po ps.length pc)≠some x) wg W)=>(h.blk t.out ⟨t.out.lt,fun e=>(y.out _ e).1 rfl⟩).cells;have h2:=fun W (h:Kept (fun x=>x<wg.heap.size/\Value.ownBlock (.slice po ps.length pc)≠some x) wg W)=>(h.blk F.out ⟨F.out.lt,fun e=>by have:=(a7.out _ e).2;omega⟩).cells;(refine WalkL.tk [0,1,2,3,4,5,6] ?_;(iterate 7 (refine l! ?_));refine TkL.n ?_)
  clear h1 h2;have Q:Ext wg (wg.alloc (.cells #[.string pt,.string pi,.string pr] 32)):=Ext.alloc _ _;refine oL! 7 ?_;refine b! ?_;intro K hK;go_simp;refine hK.out _ _ ((Kept.refl _ _).alloc (fun x hx=>hx.1) _) ?_;clear hK;refine oL! 8 ?_;refine b! ?_;intro K hK;refine aP! kG! (.tmp 35) (.tmp 37) rfl rfl (a2.out.below Q) (m:=1) (news:=pC ⟨pt,pi,pr⟩) rfl rfl (fun j u hu=>?_) (jQ! _) (by rw[aS!,au!];omega) (by rw[aS!,au!];omega) (by have:=M.out;have:=ac.out;simp;omega) (fun v2 w2 hown2 hw2 hg2=>?_)
  ·rw[Addr.add_lit,cell_of_row _ wg.heap.size (0+j) #[.string pt,.string pi,.string pr] 32 (0,0) (heap_alloc_new wg _),Nat.zero_add];simpa [pC] using hu
  have A:Kept (fun x=>x<wg.heap.size/\Value.ownBlock (.slice po ps.length pc)≠some x) wg w2:=⟨hg2.os.trans rfl,hg2.tape.trans rfl,hg2.output.trans rfl,n6! (by simp) hg2.size,fun x hx=>(hg2.block x (by have:=hx.1;simp;omega) (fun e=>hx.2 e.symm)).trans (Below.heap_alloc wg _ x hx.1)⟩;have ae:Hid (Kept (KX wp am w (.slice po ps.length pc)) w w2):=h! (O.out.trans (A.mono fun x hx=>⟨n1! hx.1 M.out,hx.2.2.2⟩));have ag:=h! (show ∀g,v2.ownBlock=some g->(Value.slice po ps.length pc).ownBlock=some g\/w.heap.size<=g from fun g hg=>(hw2 g hg).imp id fun e=>by have:=M.out;simp at e;omega);have z:=h! (A.blk t.out ⟨t.out.lt,fun e=>(y.out _ e).1 rfl⟩);have X:=h! (E.out.kept A ⟨E.out.lt,fun e=>(y.out _ e).2 rfl⟩);refine hK.out _ _ A ?_;clear hK;simp only[Act.put,pA,pZ,pS];have a8:=h! (show Own w2 B 32 3 v2 (pcs (ps++[⟨pt,pi,pr⟩]))from by rw[ib!,ia!];exact hown2);have a6:=h! (show ∀g,v2.ownBlock=some g->g≠wp/\g≠am from fun g hg=>(hw2 g hg).elim (fun e=>y.out g e) (fun e=>by have h1:=z.out.lt;have h2:=t.out.lt;have h3:=E.out.lt;simp at e;omega));obtain⟨o2,n2,c2,rfl,-,-,-⟩:=hown2.sl.len;clear A hown2 hw2 hg2 Q t E a2 O F;(refine WalkL.tk [9,10,11] ?_;(iterate 3 (refine l! ?_));refine TkL.n ?_)
  have ab:=z.out.cells;have a9:=z.out.free;refine WalkL.last (by kernel_rfl) (by kernel_rfl) ?_;refine b! ?_;intro K hK;go_simp;refine hK.out _ _ ?_;clear hK ab a9;go_wp2_with fail
  go_ret
  refine⟨.slice o2 n2 c2,by rw[ah.out];rfl,?_,?_⟩
  ·rw[HR.out];exact⟨z.out.set_to 4 _ rfl,X.out.same (Below.heap_setCell _ _ _ _ (fun e=>X.out.notCells _ _ _ (show w2.heap[am]?=_ from by rw[show am=wp from e];exact z.out))),a8.out.keepOwn fun g hg=>Below.heap_setCell _ _ _ _ (a6.out g hg).1⟩
  ·exact⟨ae.out.set (fun h=>h.2.1 rfl) _,ag.out⟩
abbrev NLG (κ ι:Type):=List (κ × Nat × List ι)
abbrev nVG {ι:Type}:Nat × List ι->Value:=fun x => .map (some x.1)
abbrev blG {ι:Type}(l:List ι):List (ι × Bool):=l.map fun p=>(p,true)
def innG {κ ι:Type} [DecidableEq κ] (l:NLG κ ι)(p:κ):List ι:=match lookA l p with | some x=>x.2 | none => []
structure on! (P:Program)(ko k:TypeId) {κ ι:Type}(kvo:κ->Value)(kv:ι->Value)(w:World)(b:Nat)(l:NLG κ ι):Prop where
 top:Mp P ko kvo nVG w b l
 inner:∀x∈l,Mp P k kv bV w x.2.1 (blG x.2.2)
 apart:(b::l.map (·.2.1)).Nodup
def nBG {κ ι:Type}(b:Nat)(l:NLG κ ι):List Nat:=b::l.map (·.2.1)
def mOG {κ ι:Type} [DecidableEq κ] (l:NLG κ ι)(q:κ):Option Nat:=(lookA l q).map (·.1)
theorem Mp.isMap {P:Program}{k:TypeId}{κ α:Type}{kv:κ->Value}{ev:α->Value}{w:World}{b:Nat}{l:List (κ × α)}(h:Mp P k kv ev w b l):∃es c,w.heap[b]?=some (.map es c):=by
 obtain⟨es,c,h,_⟩:=h;exact⟨es,c,h⟩
theorem Mp.keyed {P:Program}{k:TypeId}{κ α:Type}{kv:κ->Value}{ev:α->Value}{w:World}{b:Nat}{l:List (κ × α)}(h:Mp P k kv ev w b l):∀p∈l,∃q,keyOf P k (kv p.1)=some q:=by
 obtain⟨_,_,_,_,_,h⟩:=h;exact h
theorem Mp.pairs {P:Program}{k:TypeId}{κ α:Type}{kv:κ->Value}{ev:α->Value}{w:World}{b:Nat}{l l':List (κ × α)}(h:Mp P k kv ev w b l)(he:l'.map (fun p=>(kv p.1,ev p.2))=l.map fun p=>(kv p.1,ev p.2))(hk:∀p∈l',∃q,keyOf P k (kv p.1)=some q):Mp P k kv ev w b l':=by
 obtain⟨es,c,h1,h2,h3,_⟩:=h;exact⟨es,c,h1,h2,h3.trans he.symm,hk⟩
theorem cF! {κ α β:Type} [DecidableEq κ] (f:κ × α->β) {a:κ}{x:α}(y:α)(hf:f (a,y)=f (a,x)):∀ {l:List (κ × α)},lookA l a=some x->(putA l a y).map f=l.map f
 | p::r,h=>by
  unfold lookA at h;unfold putA;by_cases hp:p.1=a
  ·rw[if_pos hp]at h ⊢;obtain rfl:p.2=x:=by simpa using h
   subst hp;simp[hf]
  ·rw[if_neg hp]at h ⊢;simp[cF! f y hf h]
section
variable {κ ι : Type} {P : Program} {ko k : TypeId} {kvo : κ -> Value} {kv : ι -> Value} {w w' : World} {b : Nat} {l : NLG κ ι}
theorem on!.isMap (h:on! P ko k kvo kv w b l):∀x∈nBG b l,∃es c,w.heap[x]?=some (.map es c):=by
 intro x hx;rcases v7!.1 hx with rfl | hx
 ·exact h.top.isMap
 ·obtain⟨e,he,rfl⟩:=u6!.1 hx;exact(h.inner e he).isMap
theorem on!.lt (h:on! P ko k kvo kv w b l):∀x∈nBG b l,x<w.heap.size:=fun x hx=>by
 obtain⟨es,c,hm⟩:=h.isMap x hx;exact(x7!.1 hm).1
theorem on!.same (h:on! P ko k kvo kv w b l)(hs:∀x∈nBG b l,w'.heap[x]?=w.heap[x]?):on! P ko k kvo kv w' b l :=
 ⟨h.top.same (hs b (by simp[nBG])),fun x hx=>(h.inner x hx).same (hs _ (by simp only[nBG];exact u9! _ (u6!.2 ⟨x,hx,rfl⟩))),h.apart⟩
theorem on!.below (h:on! P ko k kvo kv w b l)(hb:Below w.heap.size w w'):on! P ko k kvo kv w' b l:=h.same fun x hx=>hb.block x (h.lt x hx)
theorem on!.notBlk (h:on! P ko k kvo kv w b l) {B:Nat}{cs:Array Value}{t:TypeId}(hB:Blk w B cs t):B∉nBG b l:=fun hx=>by
 obtain⟨es,c,hm⟩:=h.isMap B hx;rw[show w.heap[B]?=_ from hB]at hm;cases hm
variable [DecidableEq κ]
theorem on!.look (h:on! P ko k kvo kv w b l)(K:Keyed P ko)(inj:∀a b,kvo a=kvo b->a=b) {t e:TypeId}(ht:P.underlying t=some (.map ko e))(hz:(zeroValue e).run P w= .ok (.map none) w) {q:κ}(hk:∃z,keyOf P ko (kvo q)=some z) :
  (Instr.lookup t (.map (some b)) (kvo q) false).run P w= .ok (.map (mOG l q)) w:=by
 rw[h.top.look K inj ht hz false hk];unfold mOG lookV;cases lookA l q <;> rfl
theorem on!.fresh (h:on! P ko k kvo kv w b l) {q:κ}{bn:Nat}(hl:lookA l q=none)(hn:Mp P k kv bV w bn (blG []))(hb:bn∉nBG b l)(ht:ot! w w' b)(hm:Mp P ko kvo nVG w' b (putA l q (bn,[]))):on! P ko k kvo kv w' b (putA l q (bn,[])):=by
 have a:=h.apart;rw[bb! (aq!.1 hl)]at hm ⊢;refine⟨hm,fun x hx=>?_,?_⟩
 ·rcases u3!.1 hx with hx | hx
  ·refine(h.inner x hx).same (ht.kept.block _ fun e=>?_);rw[List.nodup_cons]at a;exact a.1 (e▸u6!.2 ⟨x,hx,rfl⟩)
  ·obtain rfl:x=(q,bn,[]):=by simpa using hx
   exact hn.same (ht.kept.block _ fun e=>hb (by simp[nBG,e]))
 ·rw[v9!,<-x2!,List.nodup_append];refine⟨a,by simp,fun x hx y hy=>?_⟩;obtain rfl:y=bn:=by simpa using hy
  rintro rfl;exact hb hx
theorem eW! {q:κ}{bn:Nat}(hl:lookA l q=none):∀x∈nBG b (putA l q (bn,[])),x∈nBG b l\/x=bn:=by
 rw[bb! (aq!.1 hl)];intro x hx;simp only[nBG,v9!,v7!,u3!,v8!,List.map_nil,List.not_mem_nil,or_false]at hx ⊢;rcases hx with h | h | h
 ·exact .inl (.inl h)
 ·exact .inl (.inr h)
 ·exact .inr h
theorem on!.mark (h:on! P ko k kvo kv w b l) {q:κ}{bi:Nat}{ss ss':List ι}(hl:lookA l q=some (bi,ss))(ht:ot! w w' bi)(hm:Mp P k kv bV w' bi (blG ss')):on! P ko k kvo kv w' b (putA l q (bi,ss')):=by
 have a:=aB! hl;have c:=h.apart
 have g:b≠bi:=fun e=>by
  rw[List.nodup_cons]at c;exact c.1 (e▸u6!.2 ⟨_,a,rfl⟩)
 refine⟨?_,fun x hx=>?_,?_⟩
 ·refine Mp.pairs (h.top.same (ht.kept.block _ g)) (cF! (x:=(bi,ss)) _ (bi,ss') rfl hl) fun x hx=>?_;rcases bO! _ _ _ hx with rfl | hx
  ·have:=h.top.keyed _ a;exact this
  ·exact h.top.keyed _ hx
 ·by_cases hxb:x.2.1=bi
  ·have o:(l.map (·.2.1)).Nodup:=(List.nodup_cons.1 c).2
   have a0:x=(q,bi,ss'):=by
    have d:=h.top.nodup;rw[show putA l q (bi,ss')=l.map (fun e=>if e.1=q then(q,bi,ss')else e)from ?_]at hx
    ·obtain⟨e,he,rfl⟩:=u6!.1 hx;by_cases heq:e.1=q
     ·simp[heq]
     ·simp only[heq,if_false]at hxb ⊢;exfalso
      obtain⟨i,hi,m⟩:=u0! he;obtain⟨j,hj,f⟩:=u0! a
      have a1:i=j:=by
       have h1:(l.map (·.2.1))[i]'(by simpa using hi)=(l.map (·.2.1))[j]'(by simpa using hj):=by simp[m,f,hxb]
       have n:=x3!.1 o;rcases Nat.lt_trichotomy i j with hlt | heq' | hlt
       ·exact absurd h1 (n i j _ _ hlt)
       ·exact heq'
       ·exact absurd h1.symm (n j i _ _ hlt)
      subst a1;rw[m]at f;exact heq (by rw[f])
    ·clear hx hxb o c a g ht hm h;induction l with
     | nil=>simp[lookA]at hl
     | cons e r ih =>
      simp only[v8!,List.nodup_cons]at d;unfold lookA at hl;unfold putA;by_cases he:e.1=q
      ·rw[if_pos he,v8!,if_pos he];congr 1
       rw[eq_comm];conv=>rhs;rw[<-List.map_id r]
       refine List.map_congr_left fun y hy=>?_;rw[if_neg (fun hyq=>d.1 (by rw[he,<-hyq];exact u6!.2 ⟨y,hy,rfl⟩))];rfl
      ·rw[if_neg he]at hl ⊢;rw[v8!,if_neg he,ih hl d.2]
   subst a0;exact hm
  ·rcases bO! _ _ _ hx with rfl | hx
   ·exact absurd rfl hxb
   ·exact(h.inner x hx).same (ht.kept.block _ hxb)
 ·rw[cF! (x:=(bi,ss)) (fun e:κ × Nat × List ι=>e.2.1) (bi,ss') rfl hl];exact c
theorem fB! {q:κ}{bi:Nat}{ss ss':List ι}(hl:lookA l q=some (bi,ss)):nBG b (putA l q (bi,ss'))=nBG b l:=by
 unfold nBG;rw[cF! (x:=(bi,ss)) (fun e:κ × Nat × List ι=>e.2.1) (bi,ss') rfl hl]
end
end Go.Proofs.YtlhaghoajpglaaaGreat
