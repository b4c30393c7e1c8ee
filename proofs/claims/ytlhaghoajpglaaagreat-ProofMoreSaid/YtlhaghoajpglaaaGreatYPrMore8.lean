/- Lemmas for the claim, no condition. -/
import Derived.Test.YtlhaghoajpglaaaGreatYPrMore7
import Derived.Test.YtlhaghoajpglaaaGreatYPrMore6
set_option maxRecDepth 100000
set_option maxHeartbeats 4000000
namespace Go.Proofs.YtlhaghoajpglaaaGreat
open Go Go.Maps Go.RowKit Go.Proofs.Tryz
def J4 {α0 α1 α2 α3:Type}(F:α0->α1->α2->α3->World->Prop)(A:α0->α1->α2->α3->Act)(e:Exit)(a:Act)(W:World):Prop:=e= .normal/\∃(x0:α0)(x1:α1)(x2:α2)(x3:α3),a=A x0 x1 x2 x3/\F x0 x1 x2 x3 W
def J5 {α0 α1 α2 α3 α4:Type}(F:α0->α1->α2->α3->α4->World->Prop)(A:α0->α1->α2->α3->α4->Act)(e:Exit)(a:Act)(W:World):Prop:=e= .normal/\∃(x0:α0)(x1:α1)(x2:α2)(x3:α3)(x4:α4),a=A x0 x1 x2 x3 x4/\F x0 x1 x2 x3 x4 W
def J7 {α0 α1 α2 α3 α4 α5 α6:Type}(F:α0->α1->α2->α3->α4->α5->α6->World->Prop)(A:α0->α1->α2->α3->α4->α5->α6->Act)(e:Exit)(a:Act)(W:World):Prop:=e= .normal/\∃(x0:α0)(x1:α1)(x2:α2)(x3:α3)(x4:α4)(x5:α5)(x6:α6),a=A x0 x1 x2 x3 x4 x5 x6/\F x0 x1 x2 x3 x4 x5 x6 W
def pC (p:P3):List Value:=[.string p.t,.string p.i,.string p.r]
def pV (p:P3):Value := .agg #[.string p.t,.string p.i,.string p.r]
theorem au! (p:P3):(pC p).length=3:=rfl
theorem jQ! (p:P3):∀u∈pC p,u.oneCell'=true:=by
 intro u hu;simp only[pC,v7!,List.not_mem_nil,or_false]at hu;rcases hu with rfl | rfl | rfl <;> rfl
def pcs (l:List P3):List Value:=l.flatMap pC
def ordP (a b:P3):Int:=orL [cmpS a.t b.t,cmpS a.i b.i,cmpS a.r b.r]
def ltP (a b:P3):Bool:=if a.t=b.t then(if a.i=b.i then ltS a.r b.r else ltS a.i b.i)else ltS a.t b.t
theorem kO! (a b:P3):Go.Proofs.ltOf ordP a b=ltP a b:=by
 unfold Go.Proofs.ltOf ordP ltP;rw[Bool.eq_iff_iff,u1!];simp only[orL,el!];by_cases h1:a.t=b.t
 ·simp only[h1,if_true];by_cases h2:a.i=b.i
  ·simp only[h2,if_true];by_cases h3:a.r=b.r
   ·simp[h3,gj!]
   ·simp only[h3,if_false];exact fK! _ _
  ·simp only[h2,if_false];exact fK! _ _
 ·simp only[h1,if_false];exact fK! _ _
theorem kQ! (a:P3):ltP a a=false:=by simp[ltP,gj!]
theorem gl! {a b:P3}(h:ltP a b=false)(hne:a≠b):ltP b a=true:=by
 unfold ltP at *;by_cases h1:a.t=b.t
 ·rw[if_pos h1]at h;rw[if_pos h1.symm];by_cases h2:a.i=b.i
  ·rw[if_pos h2]at h;rw[if_pos h2.symm];refine dZ! h fun h3=>hne ?_;cases a;cases b;simp_all
  ·rw[if_neg h2]at h;rw[if_neg (Ne.symm h2)];exact dZ! h h2
 ·rw[if_neg h1]at h;rw[if_neg (Ne.symm h1)];exact dZ! h h1
theorem gk! {a b c:P3}(h:ltP a b=true)(k:ltP b c=true):ltP a c=true:=by
 unfold ltP at *;by_cases h1:a.t=b.t <;> by_cases k1:b.t=c.t
 ·rw[if_pos h1]at h;rw[if_pos k1]at k;rw[if_pos (h1.trans k1)];by_cases h2:a.i=b.i <;> by_cases k2:b.i=c.i
  ·rw[if_pos h2]at h;rw[if_pos k2]at k;rw[if_pos (h2.trans k2)];exact dY! h k
  ·rw[if_neg k2]at k;rw[if_neg (h2▸k2),h2];exact k
  ·rw[if_neg h2]at h;rw[if_neg (k2▸h2),<-k2];exact h
  ·rw[if_neg h2]at h;rw[if_neg k2]at k;have:=dY! h k;rw[if_neg (nn! this)];exact this
 ·rw[if_neg k1]at k;rw[if_neg (h1▸k1),h1];exact k
 ·rw[if_neg h1]at h;rw[if_neg (k1▸h1),<-k1];exact h
 ·rw[if_neg h1]at h;rw[if_neg k1]at k;have:=dY! h k;rw[if_neg (nn! this)];exact this
abbrev KR (tp rb:Nat) (w w':World):Prop:=Kept (fun b=>b<w.heap.size/\b≠tp/\b≠rb) w w'
theorem KR.step {tp rb:Nat}{w w' w'':World}(h:KR tp rb w w')(k:KT tp w' w''):KR tp rb w w'':=Kept.trans h (Kept.mono k fun _b hb=>⟨n1! hb.1 h.size,hb.2.1⟩)
theorem TyRow.ext {lo:Nat}{w W:World}{tp n b off:Nat}(h:TyRow (fun b=>b<lo/\b≠tp) w n b off)(hl:lo<=w.heap.size)(hx:KT tp w W):TyRow (fun b=>b<lo/\b≠tp) W n b off:=by
 refine⟨h.1,fun i hi=>?_⟩;obtain⟨nm,b2,a,m,c2,e0,e1,a2,a0,a1,c⟩:=h.2 i hi;refine⟨nm,b2,a,m,c2,Kept.cell hx ⟨n1! h.1.1 hl,h.1.2⟩ e0,Kept.cell hx ⟨n1! h.1.1 hl,h.1.2⟩ e1,a2,a0,a1,c.1,fun j hj=>?_⟩;obtain⟨rn,hr,hz⟩:=c.2 j hj;exact⟨rn,Kept.cell hx ⟨n1! c.1.1 hl,c.1.2⟩ hr,hz⟩
theorem op!.ext {lo:Nat}{w W:World}{tp m b off:Nat}(h:op! (fun b=>b<lo/\b≠tp) w m b off)(hl:lo<=w.heap.size)(hx:KT tp w W):op! (fun b=>b<lo/\b≠tp) W m b off :=
 ⟨h.1,fun j hj=>by
  obtain⟨rn,hr,hz⟩:=h.2 j hj;exact⟨rn,Kept.cell hx ⟨n1! h.1.1 hl,h.1.2⟩ hr,hz⟩⟩
structure TyP (lo:Nat)(wd W:World)(tp b7:Nat)(nm:ByteArray)(b2 off2 m c2:Nat):Prop where
 X:KT tp wd W
 T:Tp W tp
 B:Blk W b7 #[.string nm,.slice (some ⟨b2,off2,none⟩) m c2] 176
 up:wd.heap.size<=b7
 nz:nm.size<=maxLen
 mm:1<=m/\m<=1000
 R:op! (fun b=>b<lo/\b≠tp) wd m b2 off2
theorem gY! (n b off c tp:Nat)(w:World)(htp:Tp w tp)(hrow:TyRow (fun b=>b<w.heap.size/\b≠tp) w n b off)(hn:1<=n/\n<=1000) :
  Calls prog 71 #[.pointer (some ⟨tp,0,none⟩),.agg #[.slice (some ⟨b,off,none⟩) n c]] w fun e w'=>∃p:P3,e= .returned (pV p)/\p.Ok/\Tp w' tp/\KT tp w w':=by
 obtain⟨wa,ao⟩:=e! (w.alloc (.cells #[.slice (some ⟨b,off,none⟩) n c] 26));obtain⟨wb,ai⟩:=e! (wa.alloc (.cells #[.string ⟨#[]⟩,.string ⟨#[]⟩,.string ⟨#[]⟩] 32));have ea:wa.heap.size=w.heap.size+1:=by rw[ao];simp
 have eb:wb.heap.size=w.heap.size+2:=by rw[ai];simp[ea]
 have xa:Ext w wa:=xa! ao
 have xb:Ext wa wb:=xa! ai
 have ax:=h! (show Blk wb w.heap.size #[.slice (some ⟨b,off,none⟩) n c] 26 from Blk.below (bm! ao) xb);have j:=h! (show Blk wb (w.heap.size+1) #[.string ⟨#[]⟩,.string ⟨#[]⟩,.string ⟨#[]⟩] 32 from by rw[ai,<-ea];exact Blk.made _ _ _);have a5:Hid (KT tp w wb):=h! (KT.of (xa.trans xb));have D:=h! (hrow.ext (n0! _) a5.out);have u:Hid (w.heap.size<=wb.heap.size):=h! a5.out.size;have HT:=h! (htp.ext (xa.trans xb));have HN:=h! hn;have az:=h! (show w.heap.size≠tp from by have:=htp.lt;omega);have Z:=h! (show w.heap.size+1≠tp from by have:=htp.lt;omega);have F:=h! (show tp<wb.heap.size from by have:=htp.lt;omega);have aC:=h! htp.lt;have aI:(0:Int)<=(n:Int):=by omega
 clear hrow hn htp xa xb ea eb;subst ao;go_enter func71,ntmps71
 go_wp2_with fail
 rw[<-ai];clear ai;obtain⟨wd,a3⟩:∃wd,Hid (wd=wb.drew):=⟨_,h! rfl⟩;have r:=h! (show Ext wb wd from xd! a3.out);have F:=h! (n1! F.out r.out.size);have HT:=h! (HT.out.ext r.out);apply Code.wp_mono (Q:=J7 (fun(k b7:Nat) (nm:ByteArray) (b2 f m c2:Nat) W=>TyP (w.heap.size) wd W tp b7 nm b2 f m c2) _) ?rest1 ?reg1
 case reg1 =>
  have hE:Hid (KT tp wd wd):=h! (Kept.refl _ _);refine al! (KT tp wd) (by rw[<-a3.out];exact Kept.refl _ _) (by kernel_rfl) (by kernel_rfl) (fun _ _ d _ _ h=>by cases h.1) ?_;rw[<-a3.out];have h3:∀W,KT tp wd W->∀i,W.cell? ⟨w.heap.size,i,none⟩=(#[.slice (some ⟨b,off,none⟩) n c]:Array Value)[i]?:=fun W h=>(Kept.blk h (ax.out.below r.out) ⟨(ax.out.below r.out).lt,az.out⟩).cells;have D:=h! (D.out.ext u.out (KT.of r.out));have u:=h! (n6! u.out r.out.size);(refine WalkN.tk [0,1,2,3,4,5] ?_;(iterate 6 (refine c! ?_));refine TkN.n ?_)
  clear h3;refine p! 6 9 ?_ ?_;refine b! ?_;intro K hK;go_simp;refine(af! tp n wd HT.out (by have:=HN.out;omega) (by have:=HN.out;omega)).mono ?_;rintro e u1 ⟨k,rfl,l,N,a9⟩;have y:=KT.trans hE.out a9;refine hK.out _ _ y ?_;clear hK;have ab:k<n:=by omega
  have l:(0:Int)<=(k:Int):=by omega
  obtain⟨nm,b2,f,m,c2,e0,e1,ah,al,an,hR⟩:=D.out.2 k ab;have g0:∀W,KT tp wd W->W.cell? ⟨b,off+k*2,none⟩=some (.string nm):=fun W h=>Kept.cell h ⟨n1! D.out.1.1 u.out,D.out.1.2⟩ e0;have g1:∀W,KT tp wd W->W.cell? ⟨b,off+k*2+1,none⟩=some (.slice (some ⟨b2,f,none⟩) m c2):=fun W h=>Kept.cell h ⟨n1! D.out.1.1 u.out,D.out.1.2⟩ e1;have a6:Hid (nm.size<=maxLen/\1<=m/\m<=1000/\op! (fun b=>b<w.heap.size/\b≠tp) wd m b2 f):=h! ⟨ah,al,an,hR⟩;clear e0 e1 ah al an hR l;have HT:=h! N;have hE:=h! y;clear a9 y N;(refine WalkN.tk [7,8] ?_;(iterate 2 (refine c! ?_));refine TkN.n ?_)
  clear g0 g1 l ab;refine ob! 9 ?_;intro K hK;go_simp;obtain⟨b7,M⟩:=e! u1.heap.size;rw[<-M];have a0:=Ext.alloc u1 (.cells #[.string ⟨#[]⟩,.slice none 0 0] 176);have ae:Blk (u1.alloc (.cells #[.string ⟨#[]⟩,.slice none 0 0] 176)) b7 #[.string ⟨#[]⟩,.slice none 0 0] 176:=by rw[M];exact Blk.made _ _ _
  have s:=KT.trans hE.out (KT.of a0);have aa:=h! (show wd.heap.size<=b7 from by have:=hE.out.size;omega);have A:=HT.out.ext a0;refine hK.out _ _ s ?_;clear hK M a0;generalize u1.alloc (.cells #[.string ⟨#[]⟩,.slice none 0 0] 176)=u2 at *;have hE:=h! s;have HT:=h! A;have a4:=h! ae;clear ae s A;rotate_left
  refine b! ?_;intro K hK;go_simp;obtain⟨b7,M⟩:=e! wd.heap.size;rw[<-M];have a2:=Ext.alloc wd (.cells #[.string ⟨#[]⟩,.slice none 0 0] 176);have ac:Blk (wd.alloc (.cells #[.string ⟨#[]⟩,.slice none 0 0] 176)) b7 #[.string ⟨#[]⟩,.slice none 0 0] 176:=by rw[M];exact Blk.made _ _ _
  have y:=KT.trans hE.out (KT.of a2);have aa:=h! (show wd.heap.size<=b7 from by have:=hE.out.size;omega);have N:=HT.out.ext a2;refine hK.out _ _ y ?_;clear hK M a2;generalize wd.alloc (.cells #[.string ⟨#[]⟩,.slice none 0 0] 176)=u1 at *;have hE:=h! y;have HT:=h! N;have a4:=h! ac;clear ac y N;refine ob! 6 ?_;intro K hK;go_simp;refine(af! tp n u1 HT.out (by have:=HN.out;omega) (by have:=HN.out;omega)).mono ?_;rintro e u2 ⟨k,rfl,E,A,G⟩;have s:=KT.trans hE.out G;refine hK.out _ _ s ?_;clear hK;have ad:k<n:=by omega
  have l:(0:Int)<=(k:Int):=by omega
  obtain⟨nm,b2,f,m,c2,e0,e1,ah,al,an,hR⟩:=D.out.2 k ad;have g0:∀W,KT tp wd W->W.cell? ⟨b,off+k*2,none⟩=some (.string nm):=fun W h=>Kept.cell h ⟨n1! D.out.1.1 u.out,D.out.1.2⟩ e0;have g1:∀W,KT tp wd W->W.cell? ⟨b,off+k*2+1,none⟩=some (.slice (some ⟨b2,f,none⟩) m c2):=fun W h=>Kept.cell h ⟨n1! D.out.1.1 u.out,D.out.1.2⟩ e1;have a6:Hid (nm.size<=maxLen/\1<=m/\m<=1000/\op! (fun b=>b<w.heap.size/\b≠tp) wd m b2 f):=h! ⟨ah,al,an,hR⟩;have a4:=h! (G.blk a4.out (by have:=aa.out;have:=F.out;omega));clear e0 e1 ah al an hR E;have HT:=h! A;have hE:=h! s;clear G s A;(refine WalkN.tk [7,8] ?_;(iterate 2 (refine c! ?_));refine TkN.n ?_)
  clear g0 g1 l ad;rotate_left
  all_goals
   refine ob! 10 ?_;intro K hK;have c7:=a4.out.cells;have f7:=a4.out.free;go_simp;have aE:=a4.out.set2D (.string nm) (.slice (some ⟨b2,f,none⟩) m c2);have v:KT tp wd ((u2.setCell ⟨b7,0,none⟩ (.string nm)).setCell ⟨b7,1,none⟩ (.slice (some ⟨b2,f,none⟩) m c2)):=(Kept.set hE.out (a:=⟨b7,0,none⟩) (fun e=>by have:=aa.out;have:=e.1;dsimp only at this;omega) (.string nm)).set (a:=⟨b7,1,none⟩) (fun e=>by have:=aa.out;have:=e.1;dsimp only at this;omega) (.slice (some ⟨b2,f,none⟩) m c2);have O:Tp ((u2.setCell ⟨b7,0,none⟩ (.string nm)).setCell ⟨b7,1,none⟩ (.slice (some ⟨b2,f,none⟩) m c2)) tp:=HT.out.kept (K:=fun b=>b≠b7) (((Kept.refl _ u2).set (a:=⟨b7,0,none⟩) (fun e=>e rfl) (.string nm)).set (a:=⟨b7,1,none⟩) (fun e=>e rfl) (.slice (some ⟨b2,f,none⟩) m c2)) (fun b hb=>by have:=aa.out;have:=F.out;omega);refine hK.out _ _ v ?_;clear hK c7 f7;refine d! ?_;exact⟨rfl,k,b7,nm,b2,f,m,c2,rfl,v,O,aE,aa.out,a6.out.1,⟨a6.out.2.1,a6.out.2.2.1⟩,a6.out.2.2.2⟩
 rintro e _ W1 ⟨rfl,k,b7,nm,b2,f,m,c2,rfl,I⟩;have aw:=h! u.out;have a5:Hid (KT tp w W1):=h! (KT.trans (KT.trans a5.out (KT.of r.out)) I.X);have aB:=h! (show b7≠tp/\w.heap.size+1<b7 from by have:=I.up;have:=aC.out;have:=j.out.lt;have:=r.out.size;omega);have j:=h! (I.X.blk (j.out.below r.out) Z.out);have HT:=h! I.T;have F:Hid (tp<W1.heap.size):=h! I.T.lt;have a4:=h! I.B;have u:Hid (w.heap.size<=W1.heap.size):=h! a5.out.size;have aG:=h! (I.R.ext (n6! aw.out r.out.size) I.X);have HM:=h! I.mm;have a6:=h! I.nz;clear I r a3 D ax HN az;dsimp only;go_wp2_with fail
 obtain⟨wd,a3⟩:∃wd,Hid (wd=W1.drew):=⟨_,h! rfl⟩;have r:=h! (show Ext W1 wd from xd! a3.out);have F:=h! (n1! F.out r.out.size);have HT:=h! (HT.out.ext r.out);apply Code.wp_mono (Q:=J5 (fun(b3 k3 k4:Nat) (g rn:ByteArray) W=>KR tp (w.heap.size+1) wd W/\Tp W tp/\g.size<=maxLen/\rn.size<=maxLen/\Blk W (w.heap.size+1) #[.string nm,.string g,.string rn] 32) _) ?rest2 ?reg2
 case reg2 =>
  have hE:Hid (KR tp (w.heap.size+1) wd wd):=h! (Kept.refl _ _);refine al! (KR tp (w.heap.size+1) wd) (by rw[<-a3.out];exact Kept.refl _ _) (by kernel_rfl) (by kernel_rfl) (fun _ _ d _ _ h=>by cases h.1) ?_;rw[<-a3.out];have M:=a4.out.below r.out;have h7:∀W,KR tp (w.heap.size+1) wd W->∀i,W.cell? ⟨b7,i,none⟩=(#[.string nm,.slice (some ⟨b2,f,none⟩) m c2]:Array Value)[i]?:=fun W h=>(Kept.blk h M ⟨M.lt,aB.out.1,by have:=aB.out.2;omega⟩).cells;have HR:=h! (aG.out.ext u.out (KT.of r.out));have u:=h! (n6! u.out r.out.size);have j:=h! (j.out.below r.out);(refine WalkN.tk [0,1,3,8,9,10,11,12,13] ?_;(iterate 9 (refine c! ?_));refine TkN.n ?_)
  clear h7 M;refine p! 2 4 ?_ ?_;refine b! ?_;intro K hK;go_simp;obtain⟨b3,H⟩:=e! wd.heap.size;rw[<-H];have a2:=Ext.alloc wd (.cells #[.string ⟨#[49]⟩,.string ⟨#[50]⟩,.string ⟨#[51]⟩] 9);have ac:Blk (wd.alloc (.cells #[.string ⟨#[49]⟩,.string ⟨#[50]⟩,.string ⟨#[51]⟩] 9)) b3 #[.string ⟨#[49]⟩,.string ⟨#[50]⟩,.string ⟨#[51]⟩] 9:=by rw[H];exact Blk.made _ _ _
  have y:=KR.step hE.out (KT.of a2);have a8:=h! (show wd.heap.size<=b3 from by have:=hE.out.size;omega);have j:=h! (j.out.below a2);have N:=HT.out.ext a2;refine hK.out _ _ y ?_;clear hK H a2;generalize wd.alloc (.cells #[.string ⟨#[49]⟩,.string ⟨#[50]⟩,.string ⟨#[51]⟩] 9)=u1 at *;have hE:=h! y;have HT:=h! N;have q:=h! ac;clear ac y N;refine ob! 4 ?_;intro K hK;go_simp;refine(af! tp 3 u1 HT.out (by decide) (by decide)).mono ?_;rintro e u2 ⟨k3,rfl,E,A,G⟩;have s:=KR.step hE.out G;refine hK.out _ _ s ?_;clear hK;have Y:=h! E;have j:=h! (G.blk j.out Z.out);have q:=h! (G.blk q.out (by have:=a8.out;have:=F.out;omega));have l:(0:Int)<=(k3:Int):=by omega
  have E:(k3:Int)<3:=E;clear E;have HT:=h! A;have hE:=h! s;clear G s A;refine t! 5 ?_
  clear l E;refine p! 6 14 ?_ ?_
  obtain⟨g,C,h6⟩:∃g:ByteArray,g.size<=maxLen/\u2.cell? ⟨b3,k3,none⟩=some (.string g):=by
   have h6:=q.out.cells;have hk:=Y.out;obtain rfl | rfl | rfl:k3=0\/k3=1\/k3=2:=by omega
   ·exact⟨⟨#[49]⟩,by decide,h6 0⟩
   ·exact⟨⟨#[50]⟩,by decide,h6 1⟩
   ·exact⟨⟨#[51]⟩,by decide,h6 2⟩
  have am:=h! C;refine b! ?_;intro K hK;go_simp;refine hK.out _ _ hE.out ?_;clear hK h6 C;obtain⟨u3,ak⟩:=e! u2;rw[<-ak]at hE HT q j ⊢;clear ak;refine t! 7 ?_
  refine ob! 14 ?_;intro K hK;go_simp;refine(af! tp m u3 HT.out (by have:=HM.out;omega) (by have:=HM.out;omega)).mono ?_;rintro e u4 ⟨k4,rfl,aq,ag,V⟩;have a7:=KR.step hE.out V;refine hK.out _ _ a7 ?_;clear hK;have j:=h! (V.blk j.out Z.out);have L:k4<m:=by omega
  have l:(0:Int)<=(k4:Int):=by omega
  obtain⟨rn,x,z⟩:=HR.out.2 k4 L;have g0:∀W,KR tp (w.heap.size+1) wd W->W.cell? ⟨b2,f+k4*5,none⟩=some (.string rn):=fun W h=>Kept.cell h ⟨n1! HR.out.1.1 u.out,HR.out.1.2,by have:=HR.out.1.1;show b2≠w.heap.size+1;omega⟩ x;have af:=h! z;have q:=h! (V.blk q.out (by have:=a8.out;have:=F.out;omega));clear x z aq;have HT:=h! ag;have hE:=h! a7;clear V a7 ag;(refine WalkN.tk [15,16,17] ?_;(iterate 3 (refine c! ?_));refine TkN.n ?_)
  clear g0 L l;refine t! 18 ?_
  rotate_left
  refine b! ?_;intro K hK;go_simp;refine(af! tp m u2 HT.out (by have:=HM.out;omega) (by have:=HM.out;omega)).mono ?_;rintro e u3 ⟨k4,rfl,ar,O,U⟩;have v:=KR.step hE.out U;refine hK.out _ _ v ?_;clear hK;have j:=h! (U.blk j.out Z.out);have J:k4<m:=by omega
  have l:(0:Int)<=(k4:Int):=by omega
  obtain⟨rn,x,z⟩:=HR.out.2 k4 J;have g0:∀W,KR tp (w.heap.size+1) wd W->W.cell? ⟨b2,f+k4*5,none⟩=some (.string rn):=fun W h=>Kept.cell h ⟨n1! HR.out.1.1 u.out,HR.out.1.2,by have:=HR.out.1.1;show b2≠w.heap.size+1;omega⟩ x;have af:=h! z;have q:=h! (U.blk q.out (by have:=a8.out;have:=F.out;omega));clear x z ar;have HT:=h! O;have hE:=h! v;clear U v O;(refine WalkN.tk [15,16,17] ?_;(iterate 3 (refine c! ?_));refine TkN.n ?_)
  clear g0 J l;refine o! 6 ?_
  obtain⟨g,C,h6⟩:∃g:ByteArray,g.size<=maxLen/\u3.cell? ⟨b3,k3,none⟩=some (.string g):=by
   have h6:=q.out.cells;have hk:=Y.out;obtain rfl | rfl | rfl:k3=0\/k3=1\/k3=2:=by omega
   ·exact⟨⟨#[49]⟩,by decide,h6 0⟩
   ·exact⟨⟨#[50]⟩,by decide,h6 1⟩
   ·exact⟨⟨#[51]⟩,by decide,h6 2⟩
  have am:=h! C;refine b! ?_;intro K hK;go_simp;refine hK.out _ _ hE.out ?_;clear hK h6 C;obtain⟨u4,a1⟩:=e! u3;rw[<-a1]at hE HT q j ⊢;clear a1;refine t! 7 ?_
  refine t! 18 ?_
  rotate_left
  refine b! ?_;intro K hK;go_simp;refine(af! tp 3 wd HT.out (by decide) (by decide)).mono ?_;rintro e u1 ⟨k3,rfl,l,N,a9⟩;have y:=KR.step hE.out a9;refine hK.out _ _ y ?_;clear hK;have Y:=h! l;have j:=h! (a9.blk j.out Z.out);clear l;have HT:=h! N;have hE:=h! y;clear a9 y N;refine p! 2 14 ?_ ?_;refine b! ?_;intro K hK;go_simp;obtain⟨b3,H⟩:=e! u1.heap.size;rw[<-H];have a0:=Ext.alloc u1 (.cells #[.string ⟨#[49]⟩,.string ⟨#[50]⟩,.string ⟨#[51]⟩] 9);have ae:Blk (u1.alloc (.cells #[.string ⟨#[49]⟩,.string ⟨#[50]⟩,.string ⟨#[51]⟩] 9)) b3 #[.string ⟨#[49]⟩,.string ⟨#[50]⟩,.string ⟨#[51]⟩] 9:=by rw[H];exact Blk.made _ _ _
  have s:=KR.step hE.out (KT.of a0);have a8:=h! (show wd.heap.size<=b3 from by have:=hE.out.size;omega);have j:=h! (j.out.below a0);have A:=HT.out.ext a0;refine hK.out _ _ s ?_;clear hK H a0;generalize u1.alloc (.cells #[.string ⟨#[49]⟩,.string ⟨#[50]⟩,.string ⟨#[51]⟩] 9)=u2 at *;have hE:=h! s;have HT:=h! A;have q:=h! ae;clear ae s A;have l:(0:Int)<=(k3:Int):=by omega
  have E:(k3:Int)<3:=Y.out;refine t! 5 ?_
  clear l E;refine p! 6 14 ?_ ?_
  obtain⟨g,C,h6⟩:∃g:ByteArray,g.size<=maxLen/\u2.cell? ⟨b3,k3,none⟩=some (.string g):=by
   have h6:=q.out.cells;have hk:=Y.out;obtain rfl | rfl | rfl:k3=0\/k3=1\/k3=2:=by omega
   ·exact⟨⟨#[49]⟩,by decide,h6 0⟩
   ·exact⟨⟨#[50]⟩,by decide,h6 1⟩
   ·exact⟨⟨#[51]⟩,by decide,h6 2⟩
  have am:=h! C;refine b! ?_;intro K hK;go_simp;refine hK.out _ _ hE.out ?_;clear hK h6 C;obtain⟨u3,ak⟩:=e! u2;rw[<-ak]at hE HT q j ⊢;clear ak;refine t! 7 ?_
  refine ob! 14 ?_;intro K hK;go_simp;refine(af! tp m u3 HT.out (by have:=HM.out;omega) (by have:=HM.out;omega)).mono ?_;rintro e u4 ⟨k4,rfl,aq,ag,V⟩;have a7:=KR.step hE.out V;refine hK.out _ _ a7 ?_;clear hK;have j:=h! (V.blk j.out Z.out);have L:k4<m:=by omega
  have l:(0:Int)<=(k4:Int):=by omega
  obtain⟨rn,x,z⟩:=HR.out.2 k4 L;have g0:∀W,KR tp (w.heap.size+1) wd W->W.cell? ⟨b2,f+k4*5,none⟩=some (.string rn):=fun W h=>Kept.cell h ⟨n1! HR.out.1.1 u.out,HR.out.1.2,by have:=HR.out.1.1;show b2≠w.heap.size+1;omega⟩ x;have af:=h! z;have q:=h! (V.blk q.out (by have:=a8.out;have:=F.out;omega));clear x z aq;have HT:=h! ag;have hE:=h! a7;clear V a7 ag;(refine WalkN.tk [15,16,17] ?_;(iterate 3 (refine c! ?_));refine TkN.n ?_)
  clear g0 L l;refine t! 18 ?_
  rotate_left
  refine b! ?_;intro K hK;go_simp;refine(af! tp m u2 HT.out (by have:=HM.out;omega) (by have:=HM.out;omega)).mono ?_;rintro e u3 ⟨k4,rfl,ar,O,U⟩;have v:=KR.step hE.out U;refine hK.out _ _ v ?_;clear hK;have j:=h! (U.blk j.out Z.out);have J:k4<m:=by omega
  have l:(0:Int)<=(k4:Int):=by omega
  obtain⟨rn,x,z⟩:=HR.out.2 k4 J;have g0:∀W,KR tp (w.heap.size+1) wd W->W.cell? ⟨b2,f+k4*5,none⟩=some (.string rn):=fun W h=>Kept.cell h ⟨n1! HR.out.1.1 u.out,HR.out.1.2,by have:=HR.out.1.1;show b2≠w.heap.size+1;omega⟩ x;have af:=h! z;have q:=h! (U.blk q.out (by have:=a8.out;have:=F.out;omega));clear x z ar;have HT:=h! O;have hE:=h! v;clear U v O;(refine WalkN.tk [15,16,17] ?_;(iterate 3 (refine c! ?_));refine TkN.n ?_)
  clear g0 J l;refine o! 6 ?_
  obtain⟨g,C,h6⟩:∃g:ByteArray,g.size<=maxLen/\u3.cell? ⟨b3,k3,none⟩=some (.string g):=by
   have h6:=q.out.cells;have hk:=Y.out;obtain rfl | rfl | rfl:k3=0\/k3=1\/k3=2:=by omega
   ·exact⟨⟨#[49]⟩,by decide,h6 0⟩
   ·exact⟨⟨#[50]⟩,by decide,h6 1⟩
   ·exact⟨⟨#[51]⟩,by decide,h6 2⟩
  have am:=h! C;refine b! ?_;intro K hK;go_simp;refine hK.out _ _ hE.out ?_;clear hK h6 C;obtain⟨u4,a1⟩:=e! u3;rw[<-a1]at hE HT q j ⊢;clear a1;refine t! 7 ?_
  refine t! 18 ?_
  rotate_left
  refine b! ?_;intro K hK;go_simp;refine(af! tp m u1 HT.out (by have:=HM.out;omega) (by have:=HM.out;omega)).mono ?_;rintro e u2 ⟨k4,rfl,E,A,G⟩;have s:=KR.step hE.out G;refine hK.out _ _ s ?_;clear hK;have j:=h! (G.blk j.out Z.out);have aj:k4<m:=by omega
  have l:(0:Int)<=(k4:Int):=by omega
  obtain⟨rn,x,z⟩:=HR.out.2 k4 aj;have g0:∀W,KR tp (w.heap.size+1) wd W->W.cell? ⟨b2,f+k4*5,none⟩=some (.string rn):=fun W h=>Kept.cell h ⟨n1! HR.out.1.1 u.out,HR.out.1.2,by have:=HR.out.1.1;show b2≠w.heap.size+1;omega⟩ x;have af:=h! z;clear x z E;have HT:=h! A;have hE:=h! s;clear G s A;(refine WalkN.tk [15,16,17] ?_;(iterate 3 (refine c! ?_));refine TkN.n ?_)
  clear g0 aj l;refine ob! 2 ?_;intro K hK;go_simp;obtain⟨b3,H⟩:=e! u2.heap.size;rw[<-H];have ap:=Ext.alloc u2 (.cells #[.string ⟨#[49]⟩,.string ⟨#[50]⟩,.string ⟨#[51]⟩] 9);have aA:Blk (u2.alloc (.cells #[.string ⟨#[49]⟩,.string ⟨#[50]⟩,.string ⟨#[51]⟩] 9)) b3 #[.string ⟨#[49]⟩,.string ⟨#[50]⟩,.string ⟨#[51]⟩] 9:=by rw[H];exact Blk.made _ _ _
  have v:=KR.step hE.out (KT.of ap);have j:=h! (j.out.below ap);have O:=HT.out.ext ap;refine hK.out _ _ v ?_;clear hK H ap;generalize u2.alloc (.cells #[.string ⟨#[49]⟩,.string ⟨#[50]⟩,.string ⟨#[51]⟩] 9)=u3 at *;have hE:=h! v;have HT:=h! O;have q:=h! aA;clear aA v O;have l:(0:Int)<=(k3:Int):=by omega
  have E:(k3:Int)<3:=Y.out;refine t! 5 ?_
  clear l E;refine o! 6 ?_
  obtain⟨g,C,h6⟩:∃g:ByteArray,g.size<=maxLen/\u3.cell? ⟨b3,k3,none⟩=some (.string g):=by
   have h6:=q.out.cells;have hk:=Y.out;obtain rfl | rfl | rfl:k3=0\/k3=1\/k3=2:=by omega
   ·exact⟨⟨#[49]⟩,by decide,h6 0⟩
   ·exact⟨⟨#[50]⟩,by decide,h6 1⟩
   ·exact⟨⟨#[51]⟩,by decide,h6 2⟩
  have am:=h! C;refine b! ?_;intro K hK;go_simp;refine hK.out _ _ hE.out ?_;clear hK h6 C;obtain⟨u4,a1⟩:=e! u3;rw[<-a1]at hE HT q j ⊢;clear a1;refine t! 7 ?_
  refine t! 18 ?_
  rotate_left
  all_goals
   refine ob! 19 ?_;intro K hK;have cp:=j.out.cells;have fp:=j.out.free;go_simp;have aD:=((j.out.set_to (cs':=#[.string nm,.string ⟨#[]⟩,.string ⟨#[]⟩]) 0 (.string nm) rfl).set_to (cs':=#[.string nm,.string g,.string ⟨#[]⟩]) 1 (.string g) rfl).set_to (cs':=#[.string nm,.string g,.string rn]) 2 (.string rn) rfl;have ay:KR tp (w.heap.size+1) wd (((u4.setCell ⟨w.heap.size+1,0,none⟩ (.string nm)).setCell ⟨w.heap.size+1,1,none⟩ (.string g)).setCell ⟨w.heap.size+1,2,none⟩ (.string rn)):=((Kept.set hE.out (a:=⟨w.heap.size+1,0,none⟩) (fun e=>e.2.2 rfl) (.string nm)).set (a:=⟨w.heap.size+1,1,none⟩) (fun e=>e.2.2 rfl) (.string g)).set (a:=⟨w.heap.size+1,2,none⟩) (fun e=>e.2.2 rfl) (.string rn);have aH:Tp (((u4.setCell ⟨w.heap.size+1,0,none⟩ (.string nm)).setCell ⟨w.heap.size+1,1,none⟩ (.string g)).setCell ⟨w.heap.size+1,2,none⟩ (.string rn)) tp:=HT.out.kept (K:=fun b=>b≠w.heap.size+1) ((((Kept.refl _ u4).set (a:=⟨w.heap.size+1,0,none⟩) (fun e=>e rfl) (.string nm)).set (a:=⟨w.heap.size+1,1,none⟩) (fun e=>e rfl) (.string g)).set (a:=⟨w.heap.size+1,2,none⟩) (fun e=>e rfl) (.string rn)) (fun b hb=>by have:=aC.out;omega);refine hK.out _ _ ay ?_;clear hK cp fp;refine d! ?_;exact⟨rfl,b3,k3,k4,g,rn,rfl,ay,aH,am.out,af.out,aD⟩
 rintro e _ W2 ⟨rfl,b3,k3,k4,g,rn,rfl,v,aF,av,x,au⟩;dsimp only;go_wp2_with fail
 refine bodyPost_ret (results_cell_row rfl _ _ (w.heap.size+1) 32 #[.string nm,.string g,.string rn] (0,0) _ rfl au Tryz.underlying32 rfl (by kernel_rfl)) rfl ?_;exact⟨⟨nm,g,rn⟩,rfl,⟨a6.out,av,x⟩,aF,Kept.trans a5.out (Kept.mono (KR.step (Kept.refl _ _:KR tp (w.heap.size+1) W1 W1) (KT.of r.out) |> fun h=>Kept.trans h (Kept.mono v fun b hb=>⟨n1! hb.1 r.out.size,hb.2⟩)) fun b hb=>⟨n1! hb.1 a5.out.size,hb.2,by have:=hb.1;omega⟩)⟩
theorem jU! (n b off c tp:Nat)(w:World)(htp:Tp w tp)(hrow:TyRow (fun b=>b<w.heap.size/\b≠tp) w n b off)(hn:1<=n/\n<=1000) :
  Calls prog 72 #[.pointer (some ⟨tp,0,none⟩),.agg #[.slice (some ⟨b,off,none⟩) n c]] w fun e w'=>∃p:P3,e= .returned (pV p)/\p.Ok/\Tp w' tp/\KT tp w w':=by
 obtain⟨wa,aA⟩:=e! (w.alloc (.cells #[.slice (some ⟨b,off,none⟩) n c] 26));obtain⟨wb,aq⟩:=e! (wa.alloc (.cells #[.string ⟨#[]⟩,.string ⟨#[]⟩,.string ⟨#[]⟩] 33));have ea:wa.heap.size=w.heap.size+1:=by rw[aA];simp
 have eb:wb.heap.size=w.heap.size+2:=by rw[aq];simp[ea]
 have xa:Ext w wa:=xa! aA
 have xb:Ext wa wb:=xa! aq
 have aK:=h! (show Blk wb w.heap.size #[.slice (some ⟨b,off,none⟩) n c] 26 from Blk.below (bm! aA) xb);have ah:=h! (show Blk wb (w.heap.size+1) #[.string ⟨#[]⟩,.string ⟨#[]⟩,.string ⟨#[]⟩] 33 from by rw[aq,<-ea];exact Blk.made _ _ _);have ac:Hid (KT tp w wb):=h! (KT.of (xa.trans xb));have Y:=h! (hrow.ext (n0! _) ac.out);have a5:Hid (w.heap.size<=wb.heap.size):=h! ac.out.size;have HT:=h! (htp.ext (xa.trans xb));have HN:=h! hn;have aN:=h! (show w.heap.size≠tp from by have:=htp.lt;omega);have az:=h! (show w.heap.size+1≠tp from by have:=htp.lt;omega);have J:=h! (show tp<wb.heap.size from by have:=htp.lt;omega);have aD:=h! htp.lt;have b4:(0:Int)<=(n:Int):=by omega
 clear hrow hn htp xa xb ea eb;subst aA;go_enter func72,ntmps72
 go_wp2_with fail
 rw[<-aq];clear aq;obtain⟨wd,V⟩:∃wd,Hid (wd=wb.drew):=⟨_,h! rfl⟩;have u:=h! (show Ext wb wd from xd! V.out);have J:=h! (n1! J.out u.out.size);have HT:=h! (HT.out.ext u.out);apply Code.wp_mono (Q:=J7 (fun(k b7:Nat) (nm:ByteArray) (b2 l m c2:Nat) W=>TyP (w.heap.size) wd W tp b7 nm b2 l m c2) _) ?rest1 ?reg1
 case reg1 =>
  have hE:Hid (KT tp wd wd):=h! (Kept.refl _ _);refine al! (KT tp wd) (by rw[<-V.out];exact Kept.refl _ _) (by kernel_rfl) (by kernel_rfl) (fun _ _ d _ _ h=>by cases h.1) ?_;rw[<-V.out];have h3:∀W,KT tp wd W->∀i,W.cell? ⟨w.heap.size,i,none⟩=(#[.slice (some ⟨b,off,none⟩) n c]:Array Value)[i]?:=fun W h=>(Kept.blk h (aK.out.below u.out) ⟨(aK.out.below u.out).lt,aN.out⟩).cells;have Y:=h! (Y.out.ext a5.out (KT.of u.out));have a5:=h! (n6! a5.out u.out.size);(refine WalkN.tk [0,1,2,3,4,5] ?_;(iterate 6 (refine c! ?_));refine TkN.n ?_)
  clear h3;refine p! 6 9 ?_ ?_;refine b! ?_;intro K hK;go_simp;refine(af! tp n wd HT.out (by have:=HN.out;omega) (by have:=HN.out;omega)).mono ?_;rintro e u1 ⟨k,rfl,A,U,aw⟩;have G:=KT.trans hE.out aw;refine hK.out _ _ G ?_;clear hK;have al:k<n:=by omega
  have A:(0:Int)<=(k:Int):=by omega
  obtain⟨nm,b2,l,m,c2,e0,e1,ao,au,ay,hR⟩:=Y.out.2 k al;have g0:∀W,KT tp wd W->W.cell? ⟨b,off+k*2,none⟩=some (.string nm):=fun W h=>Kept.cell h ⟨n1! Y.out.1.1 a5.out,Y.out.1.2⟩ e0;have g1:∀W,KT tp wd W->W.cell? ⟨b,off+k*2+1,none⟩=some (.slice (some ⟨b2,l,none⟩) m c2):=fun W h=>Kept.cell h ⟨n1! Y.out.1.1 a5.out,Y.out.1.2⟩ e1;have ab:Hid (nm.size<=maxLen/\1<=m/\m<=1000/\op! (fun b=>b<w.heap.size/\b≠tp) wd m b2 l):=h! ⟨ao,au,ay,hR⟩;clear e0 e1 ao au ay hR A;have HT:=h! U;have hE:=h! G;clear aw G U;(refine WalkN.tk [7,8] ?_;(iterate 2 (refine c! ?_));refine TkN.n ?_)
  clear g0 g1 A al;refine ob! 9 ?_;intro K hK;go_simp;obtain⟨b7,L⟩:=e! u1.heap.size;rw[<-L];have D:=Ext.alloc u1 (.cells #[.string ⟨#[]⟩,.slice none 0 0] 176);have O:Blk (u1.alloc (.cells #[.string ⟨#[]⟩,.slice none 0 0] 176)) b7 #[.string ⟨#[]⟩,.slice none 0 0] 176:=by rw[L];exact Blk.made _ _ _
  have s:=KT.trans hE.out (KT.of D);have ak:=h! (show wd.heap.size<=b7 from by have:=hE.out.size;omega);have y:=HT.out.ext D;refine hK.out _ _ s ?_;clear hK L D;generalize u1.alloc (.cells #[.string ⟨#[]⟩,.slice none 0 0] 176)=u2 at *;have hE:=h! s;have HT:=h! y;have a0:=h! O;clear O s y;rotate_left
  refine b! ?_;intro K hK;go_simp;obtain⟨b7,L⟩:=e! wd.heap.size;rw[<-L];have a2:=Ext.alloc wd (.cells #[.string ⟨#[]⟩,.slice none 0 0] 176);have aa:Blk (wd.alloc (.cells #[.string ⟨#[]⟩,.slice none 0 0] 176)) b7 #[.string ⟨#[]⟩,.slice none 0 0] 176:=by rw[L];exact Blk.made _ _ _
  have G:=KT.trans hE.out (KT.of a2);have ak:=h! (show wd.heap.size<=b7 from by have:=hE.out.size;omega);have U:=HT.out.ext a2;refine hK.out _ _ G ?_;clear hK L a2;generalize wd.alloc (.cells #[.string ⟨#[]⟩,.slice none 0 0] 176)=u1 at *;have hE:=h! G;have HT:=h! U;have a0:=h! aa;clear aa G U;refine ob! 6 ?_;intro K hK;go_simp;refine(af! tp n u1 HT.out (by have:=HN.out;omega) (by have:=HN.out;omega)).mono ?_;rintro e u2 ⟨k,rfl,E,y,a6⟩;have s:=KT.trans hE.out a6;refine hK.out _ _ s ?_;clear hK;have am:k<n:=by omega
  have A:(0:Int)<=(k:Int):=by omega
  obtain⟨nm,b2,l,m,c2,e0,e1,ao,au,ay,hR⟩:=Y.out.2 k am;have g0:∀W,KT tp wd W->W.cell? ⟨b,off+k*2,none⟩=some (.string nm):=fun W h=>Kept.cell h ⟨n1! Y.out.1.1 a5.out,Y.out.1.2⟩ e0;have g1:∀W,KT tp wd W->W.cell? ⟨b,off+k*2+1,none⟩=some (.slice (some ⟨b2,l,none⟩) m c2):=fun W h=>Kept.cell h ⟨n1! Y.out.1.1 a5.out,Y.out.1.2⟩ e1;have ab:Hid (nm.size<=maxLen/\1<=m/\m<=1000/\op! (fun b=>b<w.heap.size/\b≠tp) wd m b2 l):=h! ⟨ao,au,ay,hR⟩;have a0:=h! (a6.blk a0.out (by have:=ak.out;have:=J.out;omega));clear e0 e1 ao au ay hR E;have HT:=h! y;have hE:=h! s;clear a6 s y;(refine WalkN.tk [7,8] ?_;(iterate 2 (refine c! ?_));refine TkN.n ?_)
  clear g0 g1 A am;rotate_left
  all_goals
   refine ob! 10 ?_;intro K hK;have c7:=a0.out.cells;have f7:=a0.out.free;go_simp;have aB:=a0.out.set2D (.string nm) (.slice (some ⟨b2,l,none⟩) m c2);have q:KT tp wd ((u2.setCell ⟨b7,0,none⟩ (.string nm)).setCell ⟨b7,1,none⟩ (.slice (some ⟨b2,l,none⟩) m c2)):=(Kept.set hE.out (a:=⟨b7,0,none⟩) (fun e=>by have:=ak.out;have:=e.1;dsimp only at this;omega) (.string nm)).set (a:=⟨b7,1,none⟩) (fun e=>by have:=ak.out;have:=e.1;dsimp only at this;omega) (.slice (some ⟨b2,l,none⟩) m c2);have H:Tp ((u2.setCell ⟨b7,0,none⟩ (.string nm)).setCell ⟨b7,1,none⟩ (.slice (some ⟨b2,l,none⟩) m c2)) tp:=HT.out.kept (K:=fun b=>b≠b7) (((Kept.refl _ u2).set (a:=⟨b7,0,none⟩) (fun e=>e rfl) (.string nm)).set (a:=⟨b7,1,none⟩) (fun e=>e rfl) (.slice (some ⟨b2,l,none⟩) m c2)) (fun b hb=>by have:=ak.out;have:=J.out;omega);refine hK.out _ _ q ?_;clear hK c7 f7;refine d! ?_;exact⟨rfl,k,b7,nm,b2,l,m,c2,rfl,q,H,aB,ak.out,ab.out.1,⟨ab.out.2.1,ab.out.2.2.1⟩,ab.out.2.2.2⟩
 rintro e _ W1 ⟨rfl,k,b7,nm,b2,l,m,c2,rfl,a1⟩;have ax:=h! a5.out;have ac:Hid (KT tp w W1):=h! (KT.trans (KT.trans ac.out (KT.of u.out)) a1.X);have aC:=h! (show b7≠tp/\w.heap.size+1<b7 from by have:=a1.up;have:=aD.out;have:=ah.out.lt;have:=u.out.size;omega);have ah:=h! (a1.X.blk (ah.out.below u.out) az.out);have HT:=h! a1.T;have J:Hid (tp<W1.heap.size):=h! a1.T.lt;have a0:=h! a1.B;have a5:Hid (w.heap.size<=W1.heap.size):=h! ac.out.size;have aS:=h! (a1.R.ext (n6! ax.out u.out.size) a1.X);have HM:=h! a1.mm;have ab:=h! a1.nz;clear a1 u V Y aK HN aN;dsimp only;go_wp2_with fail
 obtain⟨wd,V⟩:∃wd,Hid (wd=W1.drew):=⟨_,h! rfl⟩;have u:=h! (show Ext W1 wd from xd! V.out);have J:=h! (n1! J.out u.out.size);have HT:=h! (HT.out.ext u.out);apply Code.wp_mono (Q:=J4 (fun(b3 k3 b9:Nat) (f:ByteArray) W=>KT tp wd W/\Tp W tp/\Blk W b9 #[.string nm,.string f,.string ⟨#[]⟩] 33/\wd.heap.size<=b9/\f.size<=maxLen) _) ?rest2 ?reg2
 case reg2 =>
  have hE:Hid (KT tp wd wd):=h! (Kept.refl _ _);refine al! (KT tp wd) (by rw[<-V.out];exact Kept.refl _ _) (by kernel_rfl) (by kernel_rfl) (fun _ _ d _ _ h=>by cases h.1) ?_;rw[<-V.out];have L:=a0.out.below u.out;have h7:∀W,KT tp wd W->∀i,W.cell? ⟨b7,i,none⟩=(#[.string nm,.slice (some ⟨b2,l,none⟩) m c2]:Array Value)[i]?:=fun W h=>(Kept.blk h L ⟨L.lt,aC.out.1⟩).cells;(refine WalkN.tk [0,1,3] ?_;(iterate 3 (refine c! ?_));refine TkN.n ?_)
  clear h7 L;refine WalkN.three 2 4 9 (by kernel_rfl) ?_ ?_ ?_;refine b! ?_;intro K hK;go_simp;obtain⟨b3,F⟩:=e! wd.heap.size;rw[<-F];have a2:=Ext.alloc wd (.cells #[.string ⟨#[49]⟩,.string ⟨#[50]⟩,.string ⟨#[51]⟩] 9);have aa:Blk (wd.alloc (.cells #[.string ⟨#[49]⟩,.string ⟨#[50]⟩,.string ⟨#[51]⟩] 9)) b3 #[.string ⟨#[49]⟩,.string ⟨#[50]⟩,.string ⟨#[51]⟩] 9:=by rw[F];exact Blk.made _ _ _
  have G:=KT.trans hE.out (KT.of a2);have af:=h! (show wd.heap.size<=b3 from by have:=hE.out.size;omega);have U:=HT.out.ext a2;refine hK.out _ _ G ?_;clear hK F a2;generalize wd.alloc (.cells #[.string ⟨#[49]⟩,.string ⟨#[50]⟩,.string ⟨#[51]⟩] 9)=u1 at *;have hE:=h! G;have HT:=h! U;have j:=h! aa;clear aa G U;refine p! 4 9 ?_ ?_;refine b! ?_;intro K hK;go_simp;refine(af! tp 3 u1 HT.out (by decide) (by decide)).mono ?_;rintro e u2 ⟨k3,rfl,E,y,a6⟩;have s:=KT.trans hE.out a6;refine hK.out _ _ s ?_;clear hK;have M:=h! E;have j:=h! (a6.blk j.out (by have:=af.out;have:=J.out;omega));have A:(0:Int)<=(k3:Int):=by omega
  have E:(k3:Int)<3:=E;clear E;have HT:=h! y;have hE:=h! s;clear a6 s y;refine t! 5 ?_
  clear A E;refine p! 6 9 ?_ ?_
  obtain⟨f,x,h6⟩:∃f:ByteArray,f.size<=maxLen/\u2.cell? ⟨b3,k3,none⟩=some (.string f):=by
   have h6:=j.out.cells;have hk:=M.out;obtain rfl | rfl | rfl:k3=0\/k3=1\/k3=2:=by omega
   ·exact⟨⟨#[49]⟩,by decide,h6 0⟩
   ·exact⟨⟨#[50]⟩,by decide,h6 1⟩
   ·exact⟨⟨#[51]⟩,by decide,h6 2⟩
  have a3:=h! x;refine b! ?_;intro K hK;go_simp;refine hK.out _ _ hE.out ?_;clear hK h6 x;obtain⟨u3,ar⟩:=e! u2;rw[<-ar]at hE HT j ⊢;clear ar;(refine WalkN.tk [7,8] ?_;(iterate 2 (refine c! ?_));refine TkN.n ?_)
  refine ob! 9 ?_;intro K hK;go_simp;obtain⟨b9,v⟩:=e! u3.heap.size;rw[<-v];have a9:=Ext.alloc u3 (.cells #[.string ⟨#[]⟩,.string ⟨#[]⟩,.string ⟨#[]⟩] 33);have ap:Blk (u3.alloc (.cells #[.string ⟨#[]⟩,.string ⟨#[]⟩,.string ⟨#[]⟩] 33)) b9 #[.string ⟨#[]⟩,.string ⟨#[]⟩,.string ⟨#[]⟩] 33:=by rw[v];exact Blk.made _ _ _
  have ae:=KT.trans hE.out (KT.of a9);have C:=h! (show wd.heap.size<=b9 from by have:=hE.out.size;omega);have j:=h! (j.out.below a9);have an:=HT.out.ext a9;refine hK.out _ _ ae ?_;clear hK v a9;generalize u3.alloc (.cells #[.string ⟨#[]⟩,.string ⟨#[]⟩,.string ⟨#[]⟩] 33)=u4 at *;have hE:=h! ae;have HT:=h! an;have g:=h! ap;clear ap ae an;rotate_left
  refine b! ?_;intro K hK;go_simp;obtain⟨b9,v⟩:=e! u2.heap.size;rw[<-v];have I:=Ext.alloc u2 (.cells #[.string ⟨#[]⟩,.string ⟨#[]⟩,.string ⟨#[]⟩] 33);have a4:Blk (u2.alloc (.cells #[.string ⟨#[]⟩,.string ⟨#[]⟩,.string ⟨#[]⟩] 33)) b9 #[.string ⟨#[]⟩,.string ⟨#[]⟩,.string ⟨#[]⟩] 33:=by rw[v];exact Blk.made _ _ _
  have q:=KT.trans hE.out (KT.of I);have C:=h! (show wd.heap.size<=b9 from by have:=hE.out.size;omega);have j:=h! (j.out.below I);have H:=HT.out.ext I;refine hK.out _ _ q ?_;clear hK v I;generalize u2.alloc (.cells #[.string ⟨#[]⟩,.string ⟨#[]⟩,.string ⟨#[]⟩] 33)=u3 at *;have hE:=h! q;have HT:=h! H;have g:=h! a4;clear a4 q H;refine o! 6 ?_
  obtain⟨f,x,h6⟩:∃f:ByteArray,f.size<=maxLen/\u3.cell? ⟨b3,k3,none⟩=some (.string f):=by
   have h6:=j.out.cells;have hk:=M.out;obtain rfl | rfl | rfl:k3=0\/k3=1\/k3=2:=by omega
   ·exact⟨⟨#[49]⟩,by decide,h6 0⟩
   ·exact⟨⟨#[50]⟩,by decide,h6 1⟩
   ·exact⟨⟨#[51]⟩,by decide,h6 2⟩
  have a3:=h! x;refine b! ?_;intro K hK;go_simp;refine hK.out _ _ hE.out ?_;clear hK h6 x;obtain⟨u4,z⟩:=e! u3;rw[<-z]at hE HT j ⊢;rw[<-z]at g;clear z;(refine WalkN.tk [7,8] ?_;(iterate 2 (refine c! ?_));refine TkN.n ?_)
  rotate_left
  refine b! ?_;intro K hK;go_simp;obtain⟨b9,v⟩:=e! u1.heap.size;rw[<-v];have D:=Ext.alloc u1 (.cells #[.string ⟨#[]⟩,.string ⟨#[]⟩,.string ⟨#[]⟩] 33);have O:Blk (u1.alloc (.cells #[.string ⟨#[]⟩,.string ⟨#[]⟩,.string ⟨#[]⟩] 33)) b9 #[.string ⟨#[]⟩,.string ⟨#[]⟩,.string ⟨#[]⟩] 33:=by rw[v];exact Blk.made _ _ _
  have s:=KT.trans hE.out (KT.of D);have C:=h! (show wd.heap.size<=b9 from by have:=hE.out.size;omega);have j:=h! (j.out.below D);have y:=HT.out.ext D;refine hK.out _ _ s ?_;clear hK v D;generalize u1.alloc (.cells #[.string ⟨#[]⟩,.string ⟨#[]⟩,.string ⟨#[]⟩] 33)=u2 at *;have hE:=h! s;have HT:=h! y;have g:=h! O;clear O s y;refine ob! 4 ?_;intro K hK;go_simp;refine(af! tp 3 u2 HT.out (by decide) (by decide)).mono ?_;rintro e u3 ⟨k3,rfl,ad,H,a8⟩;have q:=KT.trans hE.out a8;refine hK.out _ _ q ?_;clear hK;have M:=h! ad;have j:=h! (a8.blk j.out (by have:=af.out;have:=J.out;omega));have g:=h! (a8.blk g.out (by have:=C.out;have:=J.out;omega));have A:(0:Int)<=(k3:Int):=by omega
  have E:(k3:Int)<3:=ad;clear ad;have HT:=h! H;have hE:=h! q;clear a8 q H;refine t! 5 ?_
  clear A E;refine o! 6 ?_
  obtain⟨f,x,h6⟩:∃f:ByteArray,f.size<=maxLen/\u3.cell? ⟨b3,k3,none⟩=some (.string f):=by
   have h6:=j.out.cells;have hk:=M.out;obtain rfl | rfl | rfl:k3=0\/k3=1\/k3=2:=by omega
   ·exact⟨⟨#[49]⟩,by decide,h6 0⟩
   ·exact⟨⟨#[50]⟩,by decide,h6 1⟩
   ·exact⟨⟨#[51]⟩,by decide,h6 2⟩
  have a3:=h! x;refine b! ?_;intro K hK;go_simp;refine hK.out _ _ hE.out ?_;clear hK h6 x;obtain⟨u4,z⟩:=e! u3;rw[<-z]at hE HT j ⊢;rw[<-z]at g;clear z;(refine WalkN.tk [7,8] ?_;(iterate 2 (refine c! ?_));refine TkN.n ?_)
  rotate_left
  refine b! ?_;intro K hK;go_simp;refine(af! tp 3 wd HT.out (by decide) (by decide)).mono ?_;rintro e u1 ⟨k3,rfl,A,U,aw⟩;have G:=KT.trans hE.out aw;refine hK.out _ _ G ?_;clear hK;have M:=h! A;clear A;have HT:=h! U;have hE:=h! G;clear aw G U;refine p! 2 9 ?_ ?_;refine b! ?_;intro K hK;go_simp;obtain⟨b3,F⟩:=e! u1.heap.size;rw[<-F];have D:=Ext.alloc u1 (.cells #[.string ⟨#[49]⟩,.string ⟨#[50]⟩,.string ⟨#[51]⟩] 9);have O:Blk (u1.alloc (.cells #[.string ⟨#[49]⟩,.string ⟨#[50]⟩,.string ⟨#[51]⟩] 9)) b3 #[.string ⟨#[49]⟩,.string ⟨#[50]⟩,.string ⟨#[51]⟩] 9:=by rw[F];exact Blk.made _ _ _
  have s:=KT.trans hE.out (KT.of D);have af:=h! (show wd.heap.size<=b3 from by have:=hE.out.size;omega);have y:=HT.out.ext D;refine hK.out _ _ s ?_;clear hK F D;generalize u1.alloc (.cells #[.string ⟨#[49]⟩,.string ⟨#[50]⟩,.string ⟨#[51]⟩] 9)=u2 at *;have hE:=h! s;have HT:=h! y;have j:=h! O;clear O s y;have A:(0:Int)<=(k3:Int):=by omega
  have E:(k3:Int)<3:=M.out;refine t! 5 ?_
  clear A E;refine p! 6 9 ?_ ?_
  obtain⟨f,x,h6⟩:∃f:ByteArray,f.size<=maxLen/\u2.cell? ⟨b3,k3,none⟩=some (.string f):=by
   have h6:=j.out.cells;have hk:=M.out;obtain rfl | rfl | rfl:k3=0\/k3=1\/k3=2:=by omega
   ·exact⟨⟨#[49]⟩,by decide,h6 0⟩
   ·exact⟨⟨#[50]⟩,by decide,h6 1⟩
   ·exact⟨⟨#[51]⟩,by decide,h6 2⟩
  have a3:=h! x;refine b! ?_;intro K hK;go_simp;refine hK.out _ _ hE.out ?_;clear hK h6 x;obtain⟨u3,ar⟩:=e! u2;rw[<-ar]at hE HT j ⊢;clear ar;(refine WalkN.tk [7,8] ?_;(iterate 2 (refine c! ?_));refine TkN.n ?_)
  refine ob! 9 ?_;intro K hK;go_simp;obtain⟨b9,v⟩:=e! u3.heap.size;rw[<-v];have a9:=Ext.alloc u3 (.cells #[.string ⟨#[]⟩,.string ⟨#[]⟩,.string ⟨#[]⟩] 33);have ap:Blk (u3.alloc (.cells #[.string ⟨#[]⟩,.string ⟨#[]⟩,.string ⟨#[]⟩] 33)) b9 #[.string ⟨#[]⟩,.string ⟨#[]⟩,.string ⟨#[]⟩] 33:=by rw[v];exact Blk.made _ _ _
  have ae:=KT.trans hE.out (KT.of a9);have C:=h! (show wd.heap.size<=b9 from by have:=hE.out.size;omega);have j:=h! (j.out.below a9);have an:=HT.out.ext a9;refine hK.out _ _ ae ?_;clear hK v a9;generalize u3.alloc (.cells #[.string ⟨#[]⟩,.string ⟨#[]⟩,.string ⟨#[]⟩] 33)=u4 at *;have hE:=h! ae;have HT:=h! an;have g:=h! ap;clear ap ae an;rotate_left
  refine b! ?_;intro K hK;go_simp;obtain⟨b9,v⟩:=e! u2.heap.size;rw[<-v];have I:=Ext.alloc u2 (.cells #[.string ⟨#[]⟩,.string ⟨#[]⟩,.string ⟨#[]⟩] 33);have a4:Blk (u2.alloc (.cells #[.string ⟨#[]⟩,.string ⟨#[]⟩,.string ⟨#[]⟩] 33)) b9 #[.string ⟨#[]⟩,.string ⟨#[]⟩,.string ⟨#[]⟩] 33:=by rw[v];exact Blk.made _ _ _
  have q:=KT.trans hE.out (KT.of I);have C:=h! (show wd.heap.size<=b9 from by have:=hE.out.size;omega);have j:=h! (j.out.below I);have H:=HT.out.ext I;refine hK.out _ _ q ?_;clear hK v I;generalize u2.alloc (.cells #[.string ⟨#[]⟩,.string ⟨#[]⟩,.string ⟨#[]⟩] 33)=u3 at *;have hE:=h! q;have HT:=h! H;have g:=h! a4;clear a4 q H;refine o! 6 ?_
  obtain⟨f,x,h6⟩:∃f:ByteArray,f.size<=maxLen/\u3.cell? ⟨b3,k3,none⟩=some (.string f):=by
   have h6:=j.out.cells;have hk:=M.out;obtain rfl | rfl | rfl:k3=0\/k3=1\/k3=2:=by omega
   ·exact⟨⟨#[49]⟩,by decide,h6 0⟩
   ·exact⟨⟨#[50]⟩,by decide,h6 1⟩
   ·exact⟨⟨#[51]⟩,by decide,h6 2⟩
  have a3:=h! x;refine b! ?_;intro K hK;go_simp;refine hK.out _ _ hE.out ?_;clear hK h6 x;obtain⟨u4,z⟩:=e! u3;rw[<-z]at hE HT j ⊢;rw[<-z]at g;clear z;(refine WalkN.tk [7,8] ?_;(iterate 2 (refine c! ?_));refine TkN.n ?_)
  rotate_left
  refine b! ?_;intro K hK;go_simp;obtain⟨b9,v⟩:=e! u1.heap.size;rw[<-v];have D:=Ext.alloc u1 (.cells #[.string ⟨#[]⟩,.string ⟨#[]⟩,.string ⟨#[]⟩] 33);have O:Blk (u1.alloc (.cells #[.string ⟨#[]⟩,.string ⟨#[]⟩,.string ⟨#[]⟩] 33)) b9 #[.string ⟨#[]⟩,.string ⟨#[]⟩,.string ⟨#[]⟩] 33:=by rw[v];exact Blk.made _ _ _
  have s:=KT.trans hE.out (KT.of D);have C:=h! (show wd.heap.size<=b9 from by have:=hE.out.size;omega);have y:=HT.out.ext D;refine hK.out _ _ s ?_;clear hK v D;generalize u1.alloc (.cells #[.string ⟨#[]⟩,.string ⟨#[]⟩,.string ⟨#[]⟩] 33)=u2 at *;have hE:=h! s;have HT:=h! y;have g:=h! O;clear O s y;refine ob! 2 ?_;intro K hK;go_simp;obtain⟨b3,F⟩:=e! u2.heap.size;rw[<-F];have I:=Ext.alloc u2 (.cells #[.string ⟨#[49]⟩,.string ⟨#[50]⟩,.string ⟨#[51]⟩] 9);have a4:Blk (u2.alloc (.cells #[.string ⟨#[49]⟩,.string ⟨#[50]⟩,.string ⟨#[51]⟩] 9)) b3 #[.string ⟨#[49]⟩,.string ⟨#[50]⟩,.string ⟨#[51]⟩] 9:=by rw[F];exact Blk.made _ _ _
  have q:=KT.trans hE.out (KT.of I);have af:=h! (show wd.heap.size<=b3 from by have:=hE.out.size;omega);have g:=h! (g.out.below I);have H:=HT.out.ext I;refine hK.out _ _ q ?_;clear hK F I;generalize u2.alloc (.cells #[.string ⟨#[49]⟩,.string ⟨#[50]⟩,.string ⟨#[51]⟩] 9)=u3 at *;have hE:=h! q;have HT:=h! H;have j:=h! a4;clear a4 q H;have A:(0:Int)<=(k3:Int):=by omega
  have E:(k3:Int)<3:=M.out;refine t! 5 ?_
  clear A E;refine o! 6 ?_
  obtain⟨f,x,h6⟩:∃f:ByteArray,f.size<=maxLen/\u3.cell? ⟨b3,k3,none⟩=some (.string f):=by
   have h6:=j.out.cells;have hk:=M.out;obtain rfl | rfl | rfl:k3=0\/k3=1\/k3=2:=by omega
   ·exact⟨⟨#[49]⟩,by decide,h6 0⟩
   ·exact⟨⟨#[50]⟩,by decide,h6 1⟩
   ·exact⟨⟨#[51]⟩,by decide,h6 2⟩
  have a3:=h! x;refine b! ?_;intro K hK;go_simp;refine hK.out _ _ hE.out ?_;clear hK h6 x;obtain⟨u4,z⟩:=e! u3;rw[<-z]at hE HT j ⊢;rw[<-z]at g;clear z;(refine WalkN.tk [7,8] ?_;(iterate 2 (refine c! ?_));refine TkN.n ?_)
  rotate_left
  refine b! ?_;intro K hK;go_simp;obtain⟨b9,v⟩:=e! wd.heap.size;rw[<-v];have a2:=Ext.alloc wd (.cells #[.string ⟨#[]⟩,.string ⟨#[]⟩,.string ⟨#[]⟩] 33);have aa:Blk (wd.alloc (.cells #[.string ⟨#[]⟩,.string ⟨#[]⟩,.string ⟨#[]⟩] 33)) b9 #[.string ⟨#[]⟩,.string ⟨#[]⟩,.string ⟨#[]⟩] 33:=by rw[v];exact Blk.made _ _ _
  have G:=KT.trans hE.out (KT.of a2);have C:=h! (show wd.heap.size<=b9 from by have:=hE.out.size;omega);have U:=HT.out.ext a2;refine hK.out _ _ G ?_;clear hK v a2;generalize wd.alloc (.cells #[.string ⟨#[]⟩,.string ⟨#[]⟩,.string ⟨#[]⟩] 33)=u1 at *;have hE:=h! G;have HT:=h! U;have g:=h! aa;clear aa G U;refine p! 2 4 ?_ ?_;refine b! ?_;intro K hK;go_simp;obtain⟨b3,F⟩:=e! u1.heap.size;rw[<-F];have D:=Ext.alloc u1 (.cells #[.string ⟨#[49]⟩,.string ⟨#[50]⟩,.string ⟨#[51]⟩] 9);have O:Blk (u1.alloc (.cells #[.string ⟨#[49]⟩,.string ⟨#[50]⟩,.string ⟨#[51]⟩] 9)) b3 #[.string ⟨#[49]⟩,.string ⟨#[50]⟩,.string ⟨#[51]⟩] 9:=by rw[F];exact Blk.made _ _ _
  have s:=KT.trans hE.out (KT.of D);have af:=h! (show wd.heap.size<=b3 from by have:=hE.out.size;omega);have g:=h! (g.out.below D);have y:=HT.out.ext D;refine hK.out _ _ s ?_;clear hK F D;generalize u1.alloc (.cells #[.string ⟨#[49]⟩,.string ⟨#[50]⟩,.string ⟨#[51]⟩] 9)=u2 at *;have hE:=h! s;have HT:=h! y;have j:=h! O;clear O s y;refine ob! 4 ?_;intro K hK;go_simp;refine(af! tp 3 u2 HT.out (by decide) (by decide)).mono ?_;rintro e u3 ⟨k3,rfl,ad,H,a8⟩;have q:=KT.trans hE.out a8;refine hK.out _ _ q ?_;clear hK;have M:=h! ad;have j:=h! (a8.blk j.out (by have:=af.out;have:=J.out;omega));have g:=h! (a8.blk g.out (by have:=C.out;have:=J.out;omega));have A:(0:Int)<=(k3:Int):=by omega
  have E:(k3:Int)<3:=ad;clear ad;have HT:=h! H;have hE:=h! q;clear a8 q H;refine t! 5 ?_
  clear A E;refine o! 6 ?_
  obtain⟨f,x,h6⟩:∃f:ByteArray,f.size<=maxLen/\u3.cell? ⟨b3,k3,none⟩=some (.string f):=by
   have h6:=j.out.cells;have hk:=M.out;obtain rfl | rfl | rfl:k3=0\/k3=1\/k3=2:=by omega
   ·exact⟨⟨#[49]⟩,by decide,h6 0⟩
   ·exact⟨⟨#[50]⟩,by decide,h6 1⟩
   ·exact⟨⟨#[51]⟩,by decide,h6 2⟩
  have a3:=h! x;refine b! ?_;intro K hK;go_simp;refine hK.out _ _ hE.out ?_;clear hK h6 x;obtain⟨u4,z⟩:=e! u3;rw[<-z]at hE HT j ⊢;rw[<-z]at g;clear z;(refine WalkN.tk [7,8] ?_;(iterate 2 (refine c! ?_));refine TkN.n ?_)
  rotate_left
  refine b! ?_;intro K hK;go_simp;refine(af! tp 3 u1 HT.out (by decide) (by decide)).mono ?_;rintro e u2 ⟨k3,rfl,E,y,a6⟩;have s:=KT.trans hE.out a6;refine hK.out _ _ s ?_;clear hK;have M:=h! E;have g:=h! (a6.blk g.out (by have:=C.out;have:=J.out;omega));clear E;have HT:=h! y;have hE:=h! s;clear a6 s y;refine ob! 2 ?_;intro K hK;go_simp;obtain⟨b3,F⟩:=e! u2.heap.size;rw[<-F];have I:=Ext.alloc u2 (.cells #[.string ⟨#[49]⟩,.string ⟨#[50]⟩,.string ⟨#[51]⟩] 9);have a4:Blk (u2.alloc (.cells #[.string ⟨#[49]⟩,.string ⟨#[50]⟩,.string ⟨#[51]⟩] 9)) b3 #[.string ⟨#[49]⟩,.string ⟨#[50]⟩,.string ⟨#[51]⟩] 9:=by rw[F];exact Blk.made _ _ _
  have q:=KT.trans hE.out (KT.of I);have g:=h! (g.out.below I);have H:=HT.out.ext I;refine hK.out _ _ q ?_;clear hK F I;generalize u2.alloc (.cells #[.string ⟨#[49]⟩,.string ⟨#[50]⟩,.string ⟨#[51]⟩] 9)=u3 at *;have hE:=h! q;have HT:=h! H;have j:=h! a4;clear a4 q H;have A:(0:Int)<=(k3:Int):=by omega
  have E:(k3:Int)<3:=M.out;refine t! 5 ?_
  clear A E;refine o! 6 ?_
  obtain⟨f,x,h6⟩:∃f:ByteArray,f.size<=maxLen/\u3.cell? ⟨b3,k3,none⟩=some (.string f):=by
   have h6:=j.out.cells;have hk:=M.out;obtain rfl | rfl | rfl:k3=0\/k3=1\/k3=2:=by omega
   ·exact⟨⟨#[49]⟩,by decide,h6 0⟩
   ·exact⟨⟨#[50]⟩,by decide,h6 1⟩
   ·exact⟨⟨#[51]⟩,by decide,h6 2⟩
  have a3:=h! x;refine b! ?_;intro K hK;go_simp;refine hK.out _ _ hE.out ?_;clear hK h6 x;obtain⟨u4,z⟩:=e! u3;rw[<-z]at hE HT j ⊢;rw[<-z]at g;clear z;(refine WalkN.tk [7,8] ?_;(iterate 2 (refine c! ?_));refine TkN.n ?_)
  rotate_left
  all_goals
   refine ob! 10 ?_;intro K hK;have cp:=g.out.cells;have fp:=g.out.free;go_simp;have aI:=(g.out.set_to (cs':=#[.string nm,.string ⟨#[]⟩,.string ⟨#[]⟩]) 0 (.string nm) rfl).set_to (cs':=#[.string nm,.string f,.string ⟨#[]⟩]) 1 (.string f) rfl |>.set_to (cs':=#[.string nm,.string f,.string ⟨#[]⟩]) 2 (.string ⟨#[]⟩) rfl;have av:KT tp wd (((u4.setCell ⟨b9,0,none⟩ (.string nm)).setCell ⟨b9,1,none⟩ (.string f)).setCell ⟨b9,2,none⟩ (.string ⟨#[]⟩)):=((Kept.set hE.out (a:=⟨b9,0,none⟩) (fun e=>by have:=C.out;have:=e.1;dsimp only at this;omega) (.string nm)).set (a:=⟨b9,1,none⟩) (fun e=>by have:=C.out;have:=e.1;dsimp only at this;omega) (.string f)).set (a:=⟨b9,2,none⟩) (fun e=>by have:=C.out;have:=e.1;dsimp only at this;omega) (.string ⟨#[]⟩);have aG:Tp (((u4.setCell ⟨b9,0,none⟩ (.string nm)).setCell ⟨b9,1,none⟩ (.string f)).setCell ⟨b9,2,none⟩ (.string ⟨#[]⟩)) tp:=HT.out.kept (K:=fun b=>b≠b9) ((((Kept.refl _ u4).set (a:=⟨b9,0,none⟩) (fun e=>e rfl) (.string nm)).set (a:=⟨b9,1,none⟩) (fun e=>e rfl) (.string f)).set (a:=⟨b9,2,none⟩) (fun e=>e rfl) (.string ⟨#[]⟩)) (fun b hb=>by have:=C.out;have:=J.out;omega);refine hK.out _ _ av ?_;clear hK cp fp;refine d! ?_;exact⟨rfl,b3,k3,b9,f,rfl,av,aG,aI,C.out,a3.out⟩
 rintro e _ W2 ⟨rfl,b3,k3,b9,f,rfl,q,aR,aB,aU,x⟩;have Z:Hid (KT tp w W2):=h! (KT.trans ac.out (KT.trans (KT.of u.out) q));have N:=h! (q.blk (ah.out.below u.out) az.out);have a0:=h! (q.blk (a0.out.below u.out) aC.out.1);have HT:=h! aR;have g:=h! aB;have C:=h! (show w.heap.size+1<b9/\b9≠tp from by have:=ah.out.lt;have:=u.out.size;have:=J.out;omega);have a3:=h! x;have a7:=h! (aS.out.ext a5.out (KT.trans (KT.of u.out) q));clear q aR aB aU x u V aS ah ac J a5 ax;dsimp only;have aT:=h! (af! tp 5 W2 HT.out (by decide) (by decide));go_wp2_with fail
 refine aT.out.mono ?_;rintro e W3 ⟨k5,rfl,aZ,aM,aj⟩;have a7:=h! (a7.out.ext Z.out.size aj);have Z:=h! (KT.trans Z.out aj);have N:=h! (aj.blk N.out az.out);have a0:=h! (aj.blk a0.out aC.out.1);have g:=h! (aj.blk g.out C.out.2);have HT:=h! aM;clear aM aj aT;by_cases h1:k5=1
 ·subst h1;go_wp2_with fail
  obtain⟨wd,V⟩:∃wd,Hid (wd=W3.drew):=⟨_,h! rfl⟩;have u:=h! (show Ext W3 wd from xd! V.out);have HT:=h! (HT.out.ext u.out);have Z:=h! (KT.trans Z.out (KT.of u.out));have a7:=h! (a7.out.ext (by have:=Z.out.size;have:=a7.out.1.1;have:=u.out.size;have:=C.out.1;have:=N.out.lt;omega) (KT.of u.out));have N:=h! (N.out.below u.out);have g:=h! (g.out.below u.out);have L:=a0.out.below u.out;have hE:Hid (Kept (fun b=>b<wd.heap.size/\b≠tp/\b≠b9) wd wd):=h! (Kept.refl _ _);refine r! (Kept (fun b=>b<wd.heap.size/\b≠tp/\b≠b9) wd) (by rw[<-V.out];exact Kept.refl _ _) ?_;rw[<-V.out]
  have aF:b7≠b9:=fun e=>by
   subst e;exact absurd (v5! ((show wd.heap[b7]?=_ from L).symm.trans g.out)) (by simp)
  have h7:∀W,Kept (fun b=>b<wd.heap.size/\b≠tp/\b≠b9) wd W->∀i,W.cell? ⟨b7,i,none⟩=(#[.string nm,.slice (some ⟨b2,l,none⟩) m c2]:Array Value)[i]?:=fun W h=>(Kept.blk h L ⟨L.lt,aC.out.1,aF⟩).cells;have aX:(0:Int)<=(m:Int):=by omega
  (refine WalkN.tk [0,1,2,3,4,5] ?_;(iterate 6 (refine c! ?_));refine TkN.n ?_)
  clear h7 L;refine ob! 6 ?_;intro K hK;go_simp;refine(af! tp m wd HT.out (by have:=HM.out;omega) (by have:=HM.out;omega)).mono ?_;rintro e W4 ⟨k6,rfl,b1,aQ,ag⟩;refine hK.out _ _ (ag.mono fun b hb=>⟨hb.1,hb.2.1⟩) ?_;clear hK;have aP:k6<m:=by have:=HM.out;omega
  have A:(0:Int)<=(k6:Int):=by omega
  obtain⟨rn,aO,aL⟩:=a7.out.2 k6 aP;have aV:=h! aL;have g0:∀W,Kept (fun b=>b<wd.heap.size/\b≠tp/\b≠b9) wd W->W.cell? ⟨b2,l+k6*5,none⟩=some (.string rn):=fun W h=>Kept.cell h ⟨by have h1:=a7.out.1.1;have h2:=Z.out.size;show b2<_;omega,a7.out.1.2,by have h1:=a7.out.1.1;have h2:=C.out.1;show b2≠b9;omega⟩ aO;(refine WalkN.tk [7,8,9,10] ?_;(iterate 4 (refine c! ?_));refine TkN.n ?_)
  clear g0 aP A aO aL aX;have g:=h! (ag.blk g.out C.out.2);have N:=h! (ag.blk N.out az.out);have Z:=h! (KT.trans Z.out ag);have cp:=g.out.cells;have fp:=g.out.free;refine ob! 11 ?_;intro K hK;go_simp;refine hK.out _ _ ((ag.mono fun b hb=>⟨hb.1,hb.2.1⟩).set (a:=⟨b9,2,none⟩) (fun h=>h.2.2 rfl) _) ?_;clear hK cp fp;refine d! ?_;obtain⟨W5,ai⟩:=e! (W4.setCell ⟨b9,2,none⟩ (.string rn));have HT:=h! (show Tp W5 tp from by rw[ai];exact aQ.kept (K:=fun b=>b≠b9) ((Kept.refl _ W4).set (a:=⟨b9,2,none⟩) (fun e=>e rfl) _) (fun b hb=>by have:=C.out;have:=aD.out;omega));have Z:=h! (show KT tp w W5 from by rw[ai];exact Kept.set Z.out (a:=⟨b9,2,none⟩) (fun e=>by have:=e.1;have:=C.out.1;dsimp only at *;omega) _);have N:=h! (show Blk W5 (w.heap.size+1) #[.string ⟨#[]⟩,.string ⟨#[]⟩,.string ⟨#[]⟩] 33 from by rw[ai];exact(Below.heap_setCell _ _ _ _ (by have:=C.out.1;show w.heap.size+1≠b9;omega)).trans N.out);have g:=h! (show Blk W5 b9 #[.string nm,.string f,.string rn] 33 from by rw[ai];exact g.out.set_to 2 _ rfl);rw[<-ai];clear ai ag aQ a7 V u hE;have aY:=g.out.cells;have hr:=N.out.cells;have aW:=N.out.free;have aH:=h! ((N.out.set_to (cs':=#[.string nm,.string ⟨#[]⟩,.string ⟨#[]⟩]) 0 (.string nm) rfl).set_to (cs':=#[.string nm,.string f,.string ⟨#[]⟩]) 1 (.string f) rfl |>.set_to (cs':=#[.string nm,.string f,.string rn]) 2 (.string rn) rfl);have aJ:=h! (((Kept.set Z.out (a:=⟨w.heap.size+1,0,none⟩) (fun e=>by have:=e.1;dsimp only at this;omega) (.string nm)).set (a:=⟨w.heap.size+1,1,none⟩) (fun e=>by have:=e.1;dsimp only at this;omega) (.string f)).set (a:=⟨w.heap.size+1,2,none⟩) (fun e=>by have:=e.1;dsimp only at this;omega) (.string rn));have aE:=h! (HT.out.kept (K:=fun b=>b≠w.heap.size+1) ((((Kept.refl _ W5).set (a:=⟨w.heap.size+1,0,none⟩) (fun e=>e rfl) (.string nm)).set (a:=⟨w.heap.size+1,1,none⟩) (fun e=>e rfl) (.string f)).set (a:=⟨w.heap.size+1,2,none⟩) (fun e=>e rfl) (.string rn)) (fun b hb=>by have:=aD.out;omega));go_wp2_with fail
  refine bodyPost_ret (results_cell_row rfl _ _ (w.heap.size+1) 33 #[.string nm,.string f,.string rn] (0,0) _ rfl aH.out Tryz.underlying33 rfl (by kernel_rfl)) rfl ?_;exact⟨⟨nm,f,rn⟩,rfl,⟨ab.out,a3.out,aV.out⟩,aE.out,aJ.out⟩
 ·have b0:((k5:Int) == 1)=false:=by rw[n7!];omega
  clear h1 aZ;have aY:=g.out.cells;have hr:=N.out.cells;have aW:=N.out.free;have aH:=h! ((N.out.set_to (cs':=#[.string nm,.string ⟨#[]⟩,.string ⟨#[]⟩]) 0 (.string nm) rfl).set_to (cs':=#[.string nm,.string f,.string ⟨#[]⟩]) 1 (.string f) rfl |>.set_to (cs':=#[.string nm,.string f,.string ⟨#[]⟩]) 2 (.string ⟨#[]⟩) rfl);have aJ:=h! (((Kept.set Z.out (a:=⟨w.heap.size+1,0,none⟩) (fun e=>by have:=e.1;dsimp only at this;omega) (.string nm)).set (a:=⟨w.heap.size+1,1,none⟩) (fun e=>by have:=e.1;dsimp only at this;omega) (.string f)).set (a:=⟨w.heap.size+1,2,none⟩) (fun e=>by have:=e.1;dsimp only at this;omega) (.string ⟨#[]⟩));have aE:=h! (HT.out.kept (K:=fun b=>b≠w.heap.size+1) ((((Kept.refl _ W3).set (a:=⟨w.heap.size+1,0,none⟩) (fun e=>e rfl) (.string nm)).set (a:=⟨w.heap.size+1,1,none⟩) (fun e=>e rfl) (.string f)).set (a:=⟨w.heap.size+1,2,none⟩) (fun e=>e rfl) (.string ⟨#[]⟩)) (fun b hb=>by have:=aD.out;omega));go_wp2_with fail
  refine bodyPost_ret (results_cell_row rfl _ _ (w.heap.size+1) 33 #[.string nm,.string f,.string ⟨#[]⟩] (0,0) _ rfl aH.out Tryz.underlying33 rfl (by kernel_rfl)) rfl ?_;exact⟨⟨nm,f,⟨#[]⟩⟩,rfl,⟨ab.out,a3.out,v1! _⟩,aE.out,aJ.out⟩
end Go.Proofs.YtlhaghoajpglaaaGreat
