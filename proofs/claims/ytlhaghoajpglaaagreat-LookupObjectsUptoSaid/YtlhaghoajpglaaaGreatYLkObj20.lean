/- Lemmas for the claim, no condition. -/
import Derived.Test.YtlhaghoajpglaaaGreatYLkObj19
import Derived.Test.YtlhaghoajpglaaaGreatYLkObj4
set_option maxRecDepth 100000
set_option maxHeartbeats 10000000
namespace Go.Proofs.YtlhaghoajpglaaaGreat
open Go Go.RowKit Go.Maps Go.Proofs.Tryz
theorem fj! (T:List Tup)(p:P3):(ak! T p).length<=T.length:=by
 unfold ak!;rw[x1!];exact x8! _ _
theorem jW! (T:List Tup)(p:P3)(k:Int)(a b:ByteArray)(ps:List P3):(headF T p k a b ps).2.1.length<=T.length+1:=by
 unfold headF;split
 ·have h1:=bq! (co! (ak! T p)) ps [];have h2:=fj! T p;have h3:(co! (ak! T p)).length<=(ak! T p).length:=x8! _ _;simp only[v6!]at h1;dsimp only;omega
 ·split
  ·simp
  ·split
   ·have h1:=bq! (viaOf b (ak! T ⟨p.t,p.i,a⟩)) ps [];have h2:=fj! T ⟨p.t,p.i,a⟩;have h3:(viaOf b (ak! T ⟨p.t,p.i,a⟩)).length<=(ak! T ⟨p.t,p.i,a⟩).length:=by unfold viaOf;rw[x1!];exact x8! _ _
    simp only[v6!]at h1;dsimp only;omega
   ·simp
theorem ii! (T:List Tup)(p:P3)(r:RT):∀ps,(formD T p r ps).1.named.length<=r.sz*(T.length+1):=by
 induction r using RT.ind with
 | h r ih =>
  intro ps
  have:∀(l:List RT) (qs:List P3),(∀x∈l,x∈r.ps)->(nmdL (ar! T p l qs).1).length<=szL l*(T.length+1):=by
   intro l;induction l with
   | nil=>intro qs _;simp[ar!,nmdL]
   | cons x l ihl =>
    intro qs hx;rw[ar!,nmdL,szL,u4!,Nat.add_mul];have h1:=ih x (hx x (by simp)) qs;have h2:=ihl (formD T p x qs).2 fun y hy=>hx y (u9! _ hy);omega
  have h1:=this r.ps (headF T p r.k r.a r.b ps).2.2 fun _ h=>h;have h2:=jW! T p r.k r.a r.b ps;rw[bA!];simp only;rw[FT.named_eq,u4!];obtain⟨k,a,b,a0⟩:=r;rw[RT.sz,Nat.add_mul];simp only[FT.refs,FT.ps,RT.k,RT.a,RT.b,RT.ps]at h1 h2 ⊢;omega
theorem ef! {ts:List TyS}{T:List Tup}{M:Nat}(h:∀x∈ac! ts,x.2.sz*(T.length+1)<=M)(shut:List R2)(p:P3):∀n,(nmdL (walkN ts T shut p n).2).length<=n*M
 | 0=>by simp[walkN,nmdL]
 | n+1=>by
  have ih:=ef! h shut p n;rw[walkN];simp only;rw[bs!,u4!,Nat.add_mul]
  have h2:(nmdL [(stepG ts T shut ((walkN ts T shut p n).1.getD n p) (walkN ts T shut p n).1).1]).length<=M:=by
   rw[nmdL,nmdL,List.append_nil];unfold stepG;split
   ·next r hr =>
    unfold bb! at hr;split at hr
    ·cases hr
    ·exact n6! (ii! T _ r _) (h _ (aD! hr))
   ·simp[FT.zero,FT.named,nmdL]
  omega
def aC (p s:P3):Array Value:=#[.string p.t,.string p.i,.string p.r,.string s.t,.string s.i,.string s.r]
def pt! (ts:List TyS)(T:List Tup)(shut:List R2)(p s:P3)(most:Int)(e:Ending):Prop :=
 (∃n b,pW! ts T shut p most n/\e= .returned (.tuple #[.bool b,.int .i64 0])/\(b=true↔0<(aX! (walkN ts T shut p n).2 s n).getD 0 0))\/(bi! ts T shut p most/\e= .returned (.tuple #[.bool false,.int .i64 10]))
structure HasArg (ts:List TyS)(T:List Tup)(shut:List R2)(p:P3):Prop where
 ok:∀t∈ts,t.Ok
 chk:chk06 ts=0
 bk:schB ts<=549755813888
 sz:∀t∈ts,∀r∈t.rels,r.2.sz<=1000000
 nms:(an! ts).length<=1099511627776
 rfs:(ac! ts).length<=1099511627776
 sho:∀r∈shut,r.Ok
 wk:gC! ts T shut p 1000000
 rm:∀x∈ac! ts,x.2.sz*(T.length+1)<=1000000
theorem nN! (ts:List TyS)(tv:Value)(b:Nat)(T:List Tup)(shut:List R2)(sv:Value)(p s:P3)(most:Int)(w:World)(h:pU! (· < w.heap.size) w ts tv)(hA:HasArg ts T shut p)(hbk:pL! w b T)(hsv:Sl (· < w.heap.size) w 2 sv (shut.flatMap r2C)) :
  Calls prog 36 #[.agg #[tv],bkV b,sv,.agg (aC p s),.int .i64 most] w fun e w'=>pt! ts T shut p s most e/\Ext w w':=by
 have HA:=h! hA;obtain⟨ao,c,rfl,-⟩:=h.rows;obtain⟨so,sc,rfl,-⟩:=Sl.rows aO! (by decide) hsv;obtain⟨A,i⟩:=e! (w.alloc (.cells #[.slice ao ts.length c] 26));obtain⟨E,o⟩:=e! (A.alloc (.cells (aC p s) 35));have ea:A.heap.size=w.heap.size+1:=by rw[i];simp
 have xa:Ext w A:=xa! i
 have xb:Ext A E:=xa! o
 have B:Hid (Ext w E):=h! (xa.trans xb);have BS:=h! (show Blk E w.heap.size #[.slice ao ts.length c] 26 from Blk.below (bm! i) xb);have BA:=h! (show Blk E (w.heap.size+1) (aC p s) 35 from by rw[o,<-ea];exact Blk.made _ _ _);have a:=h! (gF! ts (.slice ao ts.length c) b T shut (.slice so shut.length sc) p most 1000000 E (h.up B.out) hA.ok hA.chk hA.bk hA.sz hA.nms hA.rfs (hbk.ext B.out) ((hsv.same (Same.below B.out)).mono fun _ hb=>n1! hb B.out.size) hA.sho hA.wk);have hS:=BS.out.cells;have t:=BA.out.cells;clear h hbk hsv hA ea xa xb;unfold pV at a;unfold aC at *;subst o i;go_enter func36,ntmps36
 go_wp2_with fail
 refine a.out.mono ?_;rintro e J ⟨F,⟨n,pv,fv,j,rfl,d⟩|⟨x,rfl⟩⟩
 case' inr =>
  have G:=h! x;have H:Hid (Ext w (J.alloc (.cells #[.slice none 0 0,.slice none 0 0] 96))):=h! (Ext.trans B.out (Ext.trans F (Ext.alloc _ _)));clear F x a hS t;go_wp2_with fail
  go_ret2
  exact⟨.inr ⟨G.out,rfl⟩,H.out⟩
 case' inl =>
  obtain⟨y,I,D,C,rfl,rfl,-⟩:=d.rows;have HE:=h! j;have G:=h! (show(walkN ts T shut p n).1.length=n from j.2.symm);have r:=h! (show(walkN ts T shut p n).2.length=n from aF! ts T shut p n);have HN:=h! (show n<=1000000 from by have:=HA.out.wk.few n;rw[G.out]at this;exact this)
  have a2:=h! (show(nmdL (walkN ts T shut p n).2).length<=1000000000000 from by
   have h1:=ef! HA.out.rm shut p n;have h2:n*1000000<=1000000*1000000:=y7! _ HN.out;omega)
  have k:=h! (show 0<n from by
   have h2:=j.2;have:=dh! ts T shut p (v1! n);rw[<-h2,walkN]at this;simp at this;omega)
  rw[G.out,r.out]at d ⊢;generalize (walkN ts T shut p n).1=ps at *;generalize hfs:(walkN ts T shut p n).2=fs at *;have a0:=h! hfs;clear hfs;have H:=h! (Ext.alloc J (.cells #[.slice y n I,.slice D n C] 96));have l:=h! (iI! s ps fs (.slice y n I) (.slice D n C) _ ((d.same (w':=J.alloc (.cells #[.slice y n I,.slice D n C] 96)) fun b hb=>H.out.block b hb.2).mono fun b hb=>n1! hb.2 H.out.size) (by rw[G.out];exact HN.out) (by rw[r.out];exact HN.out) a2.out);have XW:Hid (Ext w (J.alloc (.cells #[.slice y n I,.slice D n C] 96))):=h! (Ext.trans B.out (Ext.trans F H.out));have a1:=(BA.out.below (Ext.trans F H.out)).cells;have hG:=(Blk.made J #[.slice y n I,.slice D n C] 96).cells;clear F d j a hS t;unfold pV at l;go_wp2_with fail
  clear hG a1;refine l.out.mono ?_;rintro e w3 ⟨⟨v,rfl,ho⟩,q⟩;have X3:Hid (Ext w w3):=h! (Ext.trans XW.out q);have f:=h! (show(aX! fs s n).length=n from aK! n);rw[G.out]at ho
  obtain⟨g,c3,cs,rfl,-,hB,-,-,u⟩:=ho.lay (by
   intro e;have:=congrArg List.length e;rw[ad!,f.out,v6!]at this;have:=k.out;omega)
  have c0:w3.cell? ⟨g,0,none⟩=some (.int .i64 ((aX! fs s n).getD 0 0)):=by
   have h1:0<(ic (aX! fs s n)).length:=by rw[ad!,f.out];exact k.out
   rw[hB.cells 0,u 0 h1];simp only[ic,List.getElem_map];rw[n8!,n4! (by rw[f.out];exact k.out)];rfl
  have a4:(0:Int)<(((ic (aX! fs s n)).length:Nat):Int):=by rw[ad!,f.out];have:=k.out;omega
  have a3:0<(ic (aX! fs s n)).length:=by omega
  clear q ho hB u l;generalize (ic (aX! fs s n)).length=m at *;obtain⟨z,hz⟩:∃z,Hid ((aX! fs s n).getD 0 0=z):=⟨_,h! rfl⟩;rw[hz.out]at c0;go_wp2_with fail
  go_ret2
  refine⟨.inl ⟨n,_,HE.out,rfl,?_⟩,X3.out⟩;rw[a0.out,hz.out];simp
theorem hm! {ts:List TyS}(h:chk06 ts=0) {p:R2 × RT}(hp:p∈ac! ts):p.2.textOk 0=true:=by
 have h0:br! ts=true:=by
  unfold chk06 at h;split at h
  ·assumption
  ·cases h
 obtain⟨t,ht,r,hr,rfl⟩:=aY!.1 hp;have h1:=u8!.1 h0 t ht;unfold tyOk at h1;rw[v0!]at h1;have h2:=u8!.1 h1.2 r hr;unfold relOk at h2;simp only[v0!]at h2;exact h2.1.1
def SubL (ts:List TyS)(T:List Tup)(shut:List R2)(p:P3)(typ:ByteArray)(l:List O2):Prop:=UpO l/\∀o,o∈l↔o.t=typ/\Den ts T shut (oS o) p
def mN! (ts:List TyS)(T:List Tup)(shut:List R2)(p:P3)(typ:ByteArray)(most:Int)(ok long:Value)(e:Ending)(w':World):Prop :=
 (∃n v l,pW! ts T shut p most n/\e= .returned (.tuple #[v,ok])/\Sl (· < w'.heap.size) w' 2 v (ocs l)/\SubL ts T shut p typ l)\/(bi! ts T shut p most/\e= .returned (.tuple #[.slice none 0 0,long]))
theorem pW!.pos {ts:List TyS}{T:List Tup}{shut:List R2}{p:P3}{most:Int}{n:Nat}(h:pW! ts T shut p most n):0<n:=by
 have h2:=h.2;have:=dh! ts T shut p (v1! n);rw[<-h2,walkN]at this;simp at this;omega
theorem ix! {ts:List TyS}{T:List Tup}{shut:List R2}{p:P3}{most:Int}{n:Nat}(h:pW! ts T shut p most n)(hc:chk06 ts=0):∀f∈(walkN ts T shut p n).2,∀s∈f.ths,∃t∈T,t.s=s :=
 fun f hf=>(h.forms (fun _x hx=>hm! hc hx) f hf).2
theorem nc! {ts:List TyS}{T:List Tup}{shut:List R2}{p:P3}{typ:ByteArray}{most:Int}{n:Nat}(h:pW! ts T shut p most n)(hc:chk06 ts=0) {A ss:List O2}(hp:ss.Perm A)(hs:SrtI ss)(hn:A.Nodup)(hA:∀o∈A,SbI typ (thsL (walkN ts T shut p n).2) o)
  (hd:∀o,SbI typ (thsL (walkN ts T shut p n).2) o->(o∈A↔0<(aX! (walkN ts T shut p n).2 (oS o) n).getD 0 0)):SubL ts T shut p typ ss:=by
 refine⟨iu! (fun o ho=>(hA o (hp.mem_iff.1 ho)).2) hs (hp.nodup_iff.2 hn),fun o=>?_⟩;rw[hp.mem_iff,h.den_iff (oS o)];constructor
 ·exact fun ho=>⟨(hA o ho).2,(hd o (hA o ho)).1 ho⟩
 ·rintro⟨ht,h0⟩;obtain⟨f,hf,hs⟩:=nI! h (fun x hx=>hm! hc hx) h.pos h0;exact(hd o ⟨bv!.2 ⟨f,hf,hs⟩,ht⟩).2 h0
theorem fR! (ts:List TyS)(tv:Value)(b:Nat)(T:List Tup)(shut:List R2)(sv:Value)(p:P3)(typ:ByteArray)(most:Int)(w:World)(h:pU! (· < w.heap.size) w ts tv)(hA:HasArg ts T shut p)(hbk:pL! w b T)(hsv:Sl (· < w.heap.size) w 2 sv (shut.flatMap r2C)) :
  Calls prog 60 #[.agg #[tv],bkV b,sv,pV p,.string typ,.int .i64 most] w fun e w'=>mN! ts T shut p typ most (.int .i64 0) (.int .i64 10) e w'/\Ext w w':=by
 have U:=h! hA;obtain⟨ao,c,rfl,-⟩:=h.rows;obtain⟨so,sc,rfl,-⟩:=Sl.rows aO! (by decide) hsv;obtain⟨O,q⟩:=e! (w.alloc (.cells #[.slice ao ts.length c] 26));obtain⟨V,z⟩:=e! (O.alloc (.cells #[.string p.t,.string p.i,.string p.r] 32));have ea:O.heap.size=w.heap.size+1:=by rw[q];simp
 have xa:Ext w O:=xa! q
 have xb:Ext O V:=xa! z
 have I:Hid (Ext w V):=h! (xa.trans xb);have BS:=h! (show Blk V w.heap.size #[.slice ao ts.length c] 26 from Blk.below (bm! q) xb);have BA:=h! (show Blk V (w.heap.size+1) #[.string p.t,.string p.i,.string p.r] 32 from by rw[z,<-ea];exact Blk.made _ _ _);have x:=h! (kH! ts (.slice ao ts.length c) b T shut (.slice so shut.length sc) p most 1000000 V (h.up I.out) hA.ok hA.chk hA.bk hA.sz hA.nms hA.rfs (hbk.ext I.out) ((hsv.same (Same.below I.out)).mono fun _ hb=>n1! hb I.out.size) hA.sho hA.wk);have hS:=BS.out.cells;have C:=BA.out.cells;clear h hbk hsv hA ea xa xb;unfold pV at *;subst z q;go_enter func60,ntmps60
 go_wp2_with fail
 refine x.out.mono ?_;rintro e K ⟨hx,ps,fs,po,X,R,Q,ev,⟨n,m,rfl,rfl,rfl⟩|⟨H,rfl,rfl,rfl⟩,rfl,y⟩
 case' inr =>
  have HL:=h! H;have X2:Hid (Ext w (K.alloc (.cells #[.slice po 0 X,.slice R 0 Q] 96))):=h! (Ext.trans I.out (Ext.trans hx (Ext.alloc _ _)));clear hx H x hS C y;go_wp2_with fail
  go_ret2
  exact⟨.inr ⟨HL.out,rfl⟩,X2.out⟩
 case' inl =>
  have Z:=h! m;have HL:=h! (show(walkN ts T shut p n).1.length=n from m.2.symm);have HN:=h! (show n<=1000000 from by have:=U.out.wk.few n;rw[HL.out]at this;exact this);have X2:=h! (Ext.alloc K (.cells #[.slice po (walkN ts T shut p n).1.length X,.slice R (walkN ts T shut p n).2.length Q] 96));have F:=h! (iH! _ _ _ _ typ _ ((y.same (w':=K.alloc (.cells #[.slice po (walkN ts T shut p n).1.length X,.slice R (walkN ts T shut p n).2.length Q] 96)) fun b hb=>X2.out.block b hb.2).mono fun b hb=>n1! hb.2 X2.out.size) (fun f hf s N=>by obtain⟨t,ht,rfl⟩:=ix! m U.out.chk f hf s N;exact U.out.wk.tok t ht) (by rw[HL.out];have:=HN.out;omega));have XW:Hid (Ext w (K.alloc (.cells #[.slice po (walkN ts T shut p n).1.length X,.slice R (walkN ts T shut p n).2.length Q] 96))):=h! (Ext.trans I.out (Ext.trans hx X2.out));have hG:=(Blk.made K #[.slice po (walkN ts T shut p n).1.length X,.slice R (walkN ts T shut p n).2.length Q] 96).cells;clear hx y m x hS C;go_wp2_with fail
  clear hG;refine F.out.mono ?_;rintro e w3 ⟨iv,rfl,Y,L,g,d,k,j,a,A⟩;have X3:Hid (Ext w w3):=h! (Ext.trans XW.out A);rw[HL.out]at k a;have l:0<L.length:=by rw[k];exact Z.out.pos
  have B:0<Y.length:=by rw[d.len];exact l
  obtain⟨io,nn,c3,rfl,-⟩:=g.len;obtain⟨rfl,E⟩:=ms_at g;obtain⟨b0,a4,rfl,a2,c0⟩:=E 0 B;have u:=d.sets 0 B l
  have a0:=h! (show L[0].length<=549755813888 from by
   have h1:=gR! (T:=T) (OS.nodup u) fun o J=>by
    obtain⟨h2,-⟩:=j _ (n5! l) o J;obtain⟨f,hf,N⟩:=bv!.1 h2;obtain⟨t,ht,e⟩:=ix! Z.out U.out.chk f hf _ N;exact⟨t,ht,.inr (by rw[e];rfl)⟩
   have:=U.out.wk.tlen;omega)
  have D:=h! (hI! Y[0] L[0] w3 u a0.out)
  have a3:=h! (fun(M:List O2) (hp:M.Perm L[0]) (N:SrtI M)=>nc! (typ:=typ) Z.out U.out.chk hp N (OS.nodup u) (j _ (n5! l)) fun o J=>by
   have h1:=a o J 0 Z.out.pos;rwa[hg! l]at h1)
  have a5:(0:Int)<(Y.length:Int):=by omega
  rw[Nat.add_zero]at c0;generalize Y[0]=m0 at *;generalize L[0]=A0 at *;clear A g d k j a E a2 u F;go_wp2_with fail
  refine D.out.mono ?_;rintro e w4 ⟨v,M,rfl,hp,N,J,G⟩;have a1:=h! (a3.out M hp N);have HO:=h! J.slU;have X4:Hid (Ext w w4):=h! (Ext.trans X3.out G);obtain⟨vo,vn,vc,rfl,-⟩:=J.sl.len;clear hp N J G D c0;go_wp2_with fail
  go_ret2
  exact⟨.inl ⟨n,_,M,Z.out,rfl,HO.out,a1.out⟩,X4.out⟩
end Go.Proofs.YtlhaghoajpglaaaGreat
namespace Go.Proofs.YtlhaghoajpglaaaGreat
open Go Go.RowKit Go.Maps Go.Proofs.Tryz
open Classical in
noncomputable def denB (ts:List TyS) (T:List Tup) (shut:List R2) (s:P3) (rr:ByteArray) (o:O2):Bool:=decide (Den ts T shut s ⟨o.t,o.i,rr⟩)
theorem gn! {ts:List TyS}{T:List Tup}{shut:List R2}{s:P3}{rr:ByteArray}{o:O2}:denB ts T shut s rr o=true↔Den ts T shut s ⟨o.t,o.i,rr⟩:=by unfold denB;simp
def ObjsOf (T:List Tup)(typ:ByteArray)(l:List O2):Prop:=UpO l/\∀o,o∈l↔o.t=typ/\ObjIn T o
theorem ObjsOf.uniq {T:List Tup}{typ:ByteArray}{l m:List O2}(h:ObjsOf T typ l)(k:ObjsOf T typ m):l=m:=dv! h.1 k.1 fun x=>by rw[h.2 x,k.2 x]
theorem UpO.nodup {l:List O2}(h:UpO l):l.Nodup:=List.Pairwise.imp (fun {a b} h e=>by
 rw[e]at h;have:=cD! (oS b);unfold ltO at h;rw[this]at h;cases h) h
def gD! (ts:List TyS)(T:List Tup)(shut:List R2)(rt rr:ByteArray)(s:P3)(most:Int)(ok long:Value)(e:Ending)(w':World):Prop :=
 ∃l,ObjsOf T rt l/\((∃v,(∀o∈l,∃n,pW! ts T shut ⟨o.t,o.i,rr⟩ most n)/\e= .returned (.tuple #[v,ok])/\Sl (· < w'.heap.size) w' 2 v (ocs (l.filter (denB ts T shut s rr)))) \/
  ((∃o∈l,bi! ts T shut ⟨o.t,o.i,rr⟩ most)/\e= .returned (.tuple #[.slice none 0 0,long])))
theorem gf! (ts:List TyS)(tv fv sv mv:Value)(rt rr:ByteArray)(s:P3)(w:World)(h:pU! (· < w.heap.size) w ts tv)(hok:∀t∈ts,t.Ok)(hc:chk06 ts≠0)(hsB:schB ts<=549755813888)(hsz:∀t∈ts,∀r∈t.rels,r.2.sz<=1000000)(hln:(an! ts).length<=1099511627776)(hlr:(ac! ts).length<=1099511627776) :
  Calls prog 63 #[.agg #[tv],fv,sv,r2V ⟨rt,rr⟩,pV s,mv] w fun e w'=>e= .returned (.tuple #[.slice none 0 0,.int .i64 (chk06 ts)])/\Ext w w':=by
 obtain⟨j,c,rfl,-⟩:=h.rows;obtain⟨wa,a⟩:=e! (w.alloc (.cells #[.slice j ts.length c] 26));obtain⟨wb,f⟩:=e! (wa.alloc (.cells #[.string rt,.string rr] 121));obtain⟨k,b⟩:=e! (wb.alloc (.cells #[.string s.t,.string s.i,.string s.r] 33));have xa:Ext w wa:=xa! a
 have xb:Ext wa wb:=xa! f
 have xc:Ext wb k:=xa! b
 have XC:Hid (Ext w k):=h! (xa.trans (xb.trans xc));have CS:=h! (show Blk k w.heap.size #[.slice j ts.length c] 26 from Blk.below (bm! a) (xb.trans xc));have CT:=h! (h.up XC.out);obtain⟨q,hq,a0⟩:∃q,chk06 ts=q/\(q == 0)=false:=⟨_,rfl,by simpa using hc⟩;have a2:(q != 0)=true:=by simpa using a0
 have g:=h! (show Calls prog 74 #[.agg #[.slice j ts.length c]] k fun e w'=>e= .returned (.int .i64 q)/\Below k.heap.size k w' from by
  have h1:=cG! ts (.slice j ts.length c) k CT.out hok hsB hsz hln hlr;rw[hq]at h1;exact h1)
 rw[hq];clear h hok hc hsB hsz hln hlr xa xb xc hq;subst b f a;have a1:=CS.out.cells;unfold pV r2V;go_enter func63,ntmps63
 go_wp2_with fail
 refine g.out.mono ?_;rintro e w2 ⟨rfl,d⟩;have X2:Hid (Ext w w2):=h! (XC.out.trans d);clear a1 g d XC CS CT;go_wp2_with fail
 go_ret2
 exact⟨rfl,X2.out⟩
theorem ge! (ts:List TyS)(tv sv mv:Value)(rt rr:ByteArray)(s:P3)(w:World)(h:pU! (· < w.heap.size) w ts tv)(hok:∀t∈ts,t.Ok)(hc:chk06 ts=0)(hsB:schB ts<=549755813888)(hsz:∀t∈ts,∀r∈t.rels,r.2.sz<=1000000)(hln:(an! ts).length<=1099511627776)(hlr:(ac! ts).length<=1099511627776) :
  Calls prog 63 #[.agg #[tv],.nilIface,sv,r2V ⟨rt,rr⟩,pV s,mv] w fun e w'=>e= .returned (.tuple #[.slice none 0 0,.int .i64 1])/\Ext w w':=by
 obtain⟨j,c,rfl,-⟩:=h.rows;obtain⟨wa,a⟩:=e! (w.alloc (.cells #[.slice j ts.length c] 26));obtain⟨wb,f⟩:=e! (wa.alloc (.cells #[.string rt,.string rr] 121));obtain⟨k,b⟩:=e! (wb.alloc (.cells #[.string s.t,.string s.i,.string s.r] 33));have xa:Ext w wa:=xa! a
 have xb:Ext wa wb:=xa! f
 have xc:Ext wb k:=xa! b
 have XC:Hid (Ext w k):=h! (xa.trans (xb.trans xc));have CS:=h! (show Blk k w.heap.size #[.slice j ts.length c] 26 from Blk.below (bm! a) (xb.trans xc));have CT:=h! (h.up XC.out)
 have g:=h! (show Calls prog 74 #[.agg #[.slice j ts.length c]] k fun e w'=>e= .returned (.int .i64 0)/\Below k.heap.size k w' from by
  have h1:=cG! ts (.slice j ts.length c) k CT.out hok hsB hsz hln hlr;rw[hc]at h1;exact h1)
 clear h hok hc hsB hsz hln hlr xa xb xc;subst b f a;have a0:=CS.out.cells;unfold pV r2V;go_enter func63,ntmps63
 go_wp2_with fail
 refine g.out.mono ?_;rintro e w2 ⟨rfl,d⟩;have X2:Hid (Ext w w2):=h! (XC.out.trans d);clear a0 g d XC CS CT;go_wp2_with fail
 go_ret2
 exact⟨rfl,X2.out⟩
theorem ep! (ts:List TyS)(tv:Value)(b:Nat)(T:List Tup)(shut:List R2)(sv:Value)(rt rr:ByteArray)(s:P3)(most:Int)(w:World)(h:pU! (· < w.heap.size) w ts tv)(hA:∀o,o.t=rt->ObjIn T o->HasArg ts T shut ⟨o.t,o.i,rr⟩)
  (hok:∀t∈ts,t.Ok) (hc:chk06 ts=0) (hsB:schB ts<=549755813888) (hsz:∀t∈ts,∀r∈t.rels,r.2.sz<=1000000) (hln:(an! ts).length<=1099511627776) (hlr:(ac! ts).length<=1099511627776) (hrt:rt.size<=maxLen) (hT:T.length<=1000000) (hbk:pL! w b T) (hsv:Sl (· < w.heap.size) w 2 sv (shut.flatMap r2C)) :
  Calls prog 63 #[.agg #[tv],bkV b,sv,r2V ⟨rt,rr⟩,pV s,.int .i64 most] w fun e w'=>gD! ts T shut rt rr s most (.int .i64 0) (.int .i64 10) e w'/\Ext w w':=by
 have HA:=h! hA;have Y:=h! hT;obtain⟨ao,c,rfl,-⟩:=h.rows;obtain⟨so,sc,rfl,-⟩:=Sl.rows aO! (by decide) hsv;obtain⟨wa,B⟩:=e! (w.alloc (.cells #[.slice ao ts.length c] 26));obtain⟨wb,A⟩:=e! (wa.alloc (.cells #[.string rt,.string rr] 121));obtain⟨wc,H⟩:=e! (wb.alloc (.cells #[.string s.t,.string s.i,.string s.r] 33));have ea:wa.heap.size=w.heap.size+1:=by rw[B];simp
 have eb:wb.heap.size=w.heap.size+2:=by rw[A];simp[ea]
 have xa:Ext w wa:=xa! B
 have xb:Ext wa wb:=xa! A
 have xc:Ext wb wc:=xa! H
 have XC:Hid (Ext w wc):=h! (xa.trans (xb.trans xc));have CS:=h! (show Blk wc w.heap.size #[.slice ao ts.length c] 26 from Blk.below (bm! B) (xb.trans xc));have CR:=h! (show Blk wc (w.heap.size+1) #[.string rt,.string rr] 121 from Blk.below (by rw[A,<-ea];exact Blk.made _ _ _) xc);have CU:=h! (show Blk wc (w.heap.size+2) #[.string s.t,.string s.i,.string s.r] 33 from by rw[H,<-eb];exact Blk.made _ _ _);have CT:=h! (h.up XC.out);have CB:=h! (hbk.ext XC.out);have CV:=h! ((hsv.same (Same.below XC.out)).mono fun _ hb=>n1! hb XC.out.size)
 have V:=h! (show Calls prog 74 #[.agg #[.slice ao ts.length c]] wc fun e w'=>e= .returned (.int .i64 0)/\Below wc.heap.size wc w' from by
  have h1:=cG! ts (.slice ao ts.length c) wc CT.out hok hsB hsz hln hlr;rw[hc]at h1;exact h1)
 have a5:=h! hrt;clear h hok hc hsB hsz hln hlr xa xb xc hA hT hbk hsv hrt ea eb;subst H A B;have ae:=CS.out.cells;unfold pV r2V;go_enter func63,ntmps63
 go_wp2_with fail
 refine V.out.mono ?_;rintro e w2 ⟨rfl,z⟩;have F:=h! (CR.out.below z);have a6:=F.out.cells;have X2:Hid (Ext _ w2):=h! z;have a2:=h! (gz! b T rt w2 a5.out (CB.out.ext z) Y.out);clear ae V z;go_wp2_with fail
 refine a2.out.mono ?_;rintro e w3 ⟨v,l,rfl,ho,I,hm,d⟩;have HL:Hid (ObjsOf T rt l):=h! ⟨I,hm⟩
 have Q:=h! (show l.length<=2000000 from by
  have h1:=gR! (T:=T) I.nodup fun o ho=>((hm o).1 ho).2;have:=Y.out;omega)
 have a0:Hid (Ext w w3):=h! (XC.out.trans (X2.out.trans d));have KS:=h! (CS.out.below (X2.out.trans d));have KR:=h! (F.out.below d);have KU:=h! (CU.out.below (X2.out.trans d));have KT:=h! (CT.out.up (X2.out.trans d));have KB:=h! (CB.out.ext (X2.out.trans d));have KV:=h! ((CV.out.same (Same.below (X2.out.trans d))).mono fun _ hb=>n1! hb (X2.out.trans d).size);obtain⟨vo,vc,rfl,-,-,f⟩:=Sl.rows aC! (by decide) (show Sl _ w3 2 v (l.flatMap oC)from ho.slU);have ac:=h! f;clear ho I hm d f a2 a6 X2 F CS CR CU CT CB CV XC;go_wp2_with fail
 obtain⟨sb,R⟩:∃x,Hid (x=w.heap.size):=⟨_,h! rfl⟩;obtain⟨rb,a1⟩:∃x,Hid (x=w.heap.size+1):=⟨_,h! rfl⟩;obtain⟨ub,N⟩:∃x,Hid (x=w.heap.size+1+1):=⟨_,h! rfl⟩;have KS:=h! (show Blk w3 sb _ _ from by rw[R.out];exact KS.out);have KR:=h! (show Blk w3 rb _ _ from by rw[a1.out];exact KR.out);have KU:=h! (show Blk w3 ub _ _ from by rw[N.out];exact KU.out);rw[<-N.out,<-a1.out];try rw[<-R.out]
 go_loopw [17,41] (fun ov jv wr=>∃i:Nat,i<=l.length/\jv= .int .i64 i/\Own wr w3.heap.size 30 2 ov (ocs ((l.take i).filter (denB ts T shut s rr)))/\(∀o∈l.take i,∃n,pW! ts T shut ⟨o.t,o.i,rr⟩ most n)/\Ext w3 wr) (fun _ jv _=>l.length-(intOf jv).toNat)
 case atStart=>exact⟨0,v1! _,rfl,by simpa [ocs] using Own.nil w3 w3.heap.size 30 2,(by simp),Ext.refl _⟩
 case round =>
  obtain⟨i,hi,rfl,p,k,hx⟩:=hrel;have HO:=h! p;have g:=h! k;have HX:=h! hx;clear p k hx;by_cases hlt:i<l.length
  ·have L:=h! (n2! hlt)
   have O:=h! (show((l.take i).filter (denB ts T shut s rr)).length<=2000000 from by
    have h1:=x8! (denB ts T shut s rr) (l.take i);rw[x4!]at h1;have:=Q.out;omega)
   have q:=h! ((HL.out.2 l[i]).1 (n5! hlt));have a7:=h! (n5! hlt);obtain⟨b2,j,rfl,af,J⟩:=ac.out (by omega);have d0:=Ext.cell HX.out (J i hlt 0 _ rfl);have d1:=Ext.cell HX.out (J i hlt 1 _ rfl);have C:=h! hlt;have D:=h! (show wrap64 ((i:Int)+1)=((i+1:Nat):Int)from by have:=Q.out;unfold wrap64;omega);have ag:(i:Int)<(l.length:Int):=by omega
   clear J af;generalize l[i]=o at *;clear hlt;obtain⟨ot,oi⟩:=o;dsimp only at d0 d1;have d0:wr.cell? ⟨b2,j+i*2,none⟩=some (.string ot):=d0;have d1:wr.cell? ⟨b2,j+i*2+1,none⟩=some (.string oi):=d1;have X4:=Ext.alloc wr (.cells #[.string ot,.string oi] 30);have BO:=h! (Blk.made wr #[.string ot,.string oi] 30);have a:Hid (Ext w3 _):=h! (HX.out.trans X4);have U:=h! (HO.out.below X4);have y:=h! (nN! ts (.slice ao ts.length c) b T shut (.slice so shut.length sc) ⟨ot,oi,rr⟩ s most _ (KT.out.up a.out) (HA.out ⟨ot,oi⟩ q.out.1 q.out.2) (KB.out.ext a.out) ((KV.out.same (Same.below a.out)).mono fun _ hb=>n1! hb a.out.size));unfold aC at y;have c1:=(KS.out.below a.out).cells;have c2:=(KR.out.below a.out).cells;have c3:=(KU.out.below a.out).cells;have c4:=BO.out.cells;clear X4;go_wp2_with fail
   clear c1 c2 c3 c4 d0 d1;obtain⟨w4,G⟩:=e! (wr.alloc (.cells #[.string ot,.string oi] 30));rw[<-G]at BO a U y;try rw[<-G]
   clear G;refine y.out.mono ?_;rintro e w5 ⟨hs,u⟩;have K:Hid (Ext w3 w5):=h! (a.out.trans u);have M:=h! (U.out.below u);have ad:=h! (BO.out.below u);have c5:=ad.out.cells;clear u y;rcases hs with⟨n,bb,hwe,rfl,hbb⟩|⟨hlong,rfl⟩
   case' inr =>
    have ab:Hid (∃o∈l,bi! ts T shut ⟨o.t,o.i,rr⟩ most):=h! ⟨_,a7.out,hlong⟩;have XE:Hid (Ext w w5):=h! (a0.out.trans K.out);clear hlong;go_wp2_with fail
    go_ret2
    exact⟨⟨l,HL.out,.inr ⟨ab.out,rfl⟩⟩,XE.out⟩
   case' inl =>
    have X:=h! (show denB ts T shut s rr ⟨ot,oi⟩=bb from by rw[Bool.eq_iff_iff,gn!,hbb];exact hwe.den_iff s)
    have Z:=h! (show ∀o∈l.take (i+1),∃n,pW! ts T shut ⟨o.t,o.i,rr⟩ most n from fun o ho=>by
     rw[L.out]at ho;rcases u3!.1 ho with ho | ho
     ·exact g.out o ho
     ·rw[n9!.1 ho];exact⟨n,hwe⟩)
    clear hwe hbb;cases bb with
    | false =>
     have a8:=h! (show Own w5 w3.heap.size 30 2 u17 (ocs ((l.take (i+1)).filter (denB ts T shut s rr)))from by
      rw[L.out,List.filter_append,List.filter_cons_of_neg (by rw[X.out];decide)];simpa using M.out)
     go_wp2_with fail
     go_roundw
     case rel=>exact⟨i+1,C.out,by first | rw[D.out] | go_num,a8.out,Z.out,K.out⟩
     case measure=>have:=C.out;(try rw[D.out]);simp[intOf];omega
    | true =>
     have X6:=Ext.alloc w5 (.cells #[.string ot,.string oi] 30);have a3:=h! (M.out.below X6);have E:Hid (Ext w3 _):=h! (K.out.trans X6);obtain⟨uo,un,uc,rfl,-⟩:=M.out.sl.len;clear X6;go_wp2_with (at_builtin;go_must (refine aE! aM! rfl (.tmp 63) (.tmp 65) rfl rfl a3.out rfl (m:=1) (news:=[.string ot,.string oi]) rfl (dU! _ _ _ _) (by simp[Value.oneCell']) (by have:=O.out;rw[aa!];simp at *;omega) (by have:=O.out;rw[aa!];simp at *;omega) (by have:=E.out.size;omega) ?_;intro v6 w6 hown6 hb6 hg6;have aa:=h! (show Own w6 w3.heap.size 30 2 v6 (ocs ((l.take (i+1)).filter (denB ts T shut s rr)))from by(rw[L.out,List.filter_append,List.filter_cons_of_pos X.out,aP!];simpa [ocs,oC] using hown6));have a4:Hid (Ext w3 w6):=h! (be! E.out a3.out hg6 E.out.size);clear hown6 hb6 hg6))
     go_roundw
     case rel=>exact⟨i+1,C.out,by first | rw[D.out] | go_num,aa.out,Z.out,a4.out⟩
     case measure=>have:=C.out;(try rw[D.out]);simp[intOf];omega
  ·obtain rfl:i=l.length:=by omega
   rw[u2!]at g HO;have XE:Hid (Ext w wr):=h! (a0.out.trans HX.out);have a9:=h! HO.out.slU;obtain⟨uo,un,uc,rfl,-⟩:=HO.out.sl.len;clear hlt hi;go_wp2_with fail
   go_ret2
   exact⟨⟨l,HL.out,.inl ⟨_,g.out,rfl,a9.out⟩⟩,XE.out⟩
end Go.Proofs.YtlhaghoajpglaaaGreat
namespace Go.Proofs.YtlhaghoajpglaaaGreat
open Go Go.RowKit Go.Maps Go.Proofs.Tryz
theorem ff! {S:Nat->Prop}{w:World}{v:Value}{l:List Tup}(h:Sl S w 6 v (tuCs l)) :
  ∃ao c,v= .slice ao l.length c/\l.length<=c/\c<=9223372036854775807/\∀i (hi:i<l.length),∃b off,ao=some ⟨b,off,none⟩/\S b /\
   w.cell? ⟨b,off+i*6,none⟩=some (.string l[i].o.t)/\w.cell? ⟨b,off+i*6+1,none⟩=some (.string l[i].o.i)/\w.cell? ⟨b,off+i*6+2,none⟩=some (.string l[i].o.r) /\
   w.cell? ⟨b,off+i*6+3,none⟩=some (.string l[i].s.t)/\w.cell? ⟨b,off+i*6+4,none⟩=some (.string l[i].s.i)/\w.cell? ⟨b,off+i*6+5,none⟩=some (.string l[i].s.r):=by
 obtain⟨ao,c,rfl,h1,h2,a⟩:=Sl.rows at! (by decide) (show Sl S w 6 v (l.flatMap tuC)from h);refine⟨ao,c,rfl,h1,h2,fun i hi=>?_⟩;obtain⟨b,off,rfl,hb,a⟩:=a (by omega);exact⟨b,off,rfl,hb,a i hi 0 _ rfl,a i hi 1 _ rfl,a i hi 2 _ rfl,a i hi 3 _ rfl,a i hi 4 _ rfl,a i hi 5 _ rfl⟩
def cO! (t:Tup):Bool:=decide (t.o.t.size<=100)&&decide (t.o.i.size<=100)&&decide (t.o.r.size<=100)&&decide (t.s.t.size<=100)&&decide (t.s.i.size<=100)&&decide (t.s.r.size<=100)
def fewL (l:List Tup):Bool:=l.all (fun a=>cO! a)&&decide (l.length<=40)
theorem nW! {l:List Tup}{i:Nat}(hi:i<l.length)(h:cO! l[i]=false):fewL l=false:=by
 unfold fewL;rw[Bool.and_eq_false_iff];left
 rw[List.all_eq_false];exact⟨l[i],n5! hi,by simp[h]⟩
theorem nV! {l:List Tup}(h:∀j (hj:j<l.length),j<l.length->cO! l[j]=true):fewL l=decide ((l.length:Int)<=40):=by
 unfold fewL;rw[show l.all (fun a=>cO! a)=true from ?_,Bool.true_and]
 ·by_cases h:l.length<=40
  ·rw[v2! h,v2! (by omega)]
  ·rw[v3! h,v3! (by omega)]
 ·rw[u8!];intro x hx;obtain⟨j,hj,rfl⟩:=u0! hx;exact h j hj hj
theorem nU! {l:List Tup}(h:fewL l=true):l.length<=40:=by
 unfold fewL at h;simp only[v0!,u1!]at h;exact h.2
theorem fC! (a b:O2)(w:World):Calls prog 183 #[oV a,oV b] w fun e w'=>e= .returned (.bool (ltO a b))/\Below w.heap.size w w':=by
 obtain⟨at_,d⟩:=a;obtain⟨c,f⟩:=b;have hb:Below w.heap.size w ((w.alloc (.cells #[.string at_,.string d] 30)).alloc (.cells #[.string c,.string f] 30)):=((Below.refl _ _).alloc (n0! _) _).alloc (by simp) _;have hA:=((Blk.made w #[.string at_,.string d] 30).alloc (.cells #[.string c,.string f] 30)).cells;unfold oV;dsimp only;by_cases h1:at_=c
 ·subst h1;have HV:=h! (show Op.bytesLess d.toList f.toList=ltO ⟨at_,d⟩ ⟨at_,f⟩from by rw[ls!];simp[ltS]);go_enter func183,ntmps183
  go_wp2_with fail
  go_ret
  exact⟨congrArg (fun b=>Ending.returned (.bool b)) HV.out,hb⟩
 ·have HV:=h! (show Op.bytesLess at_.toList c.toList=ltO ⟨at_,d⟩ ⟨c,f⟩from by rw[ls!];simp[ltS,h1]);have hn:=aH! h1;rw[<-u5!,<-u5!]at hn;clear h1;go_enter func183,ntmps183
  go_wp2_with fail
  go_ret
  exact⟨congrArg (fun b=>Ending.returned (.bool b)) HV.out,hb⟩
theorem pD! (a b:O2)(W:World):(binOp BinOp.neq 30 (oV a) (oV b)).run prog W= .ok (.bool (decide (a≠b))) W:=by
 obtain⟨a1,a2⟩:=a;obtain⟨b1,b2⟩:=b;unfold oV;dsimp only;go_simp;simp only[bc!];by_cases h1:a1=b1 <;> by_cases h2:a2=b2 <;> simp[h1,h2]
theorem lr! {a b:O2}(h:ltO a b=false)(hne:a≠b):ltO b a=true:=cC! h fun e=>hne (lm! e)
theorem lq! {a b c:O2}(h:ltO a b=true)(k:ltO b c=true):ltO a c=true:=bz! h k
def insO (q:List O2)(k:Nat)(p:O2):List O2:=q.take k++[p]++q.drop k
theorem jN! (q:List O2)(k:Nat)(p x:O2):x∈insO q k p↔x∈q\/x=p:=by
 unfold insO;conv=>rhs;rw[<-x6! k q]
 simp only[u3!,n9!];constructor
 ·rintro((h | h) | h)
  ·exact .inl (.inl h)
  ·exact .inr h
  ·exact .inl (.inr h)
 ·rintro((h | h) | h)
  ·exact .inl (.inl h)
  ·exact .inr h
  ·exact .inl (.inr h)
theorem mB! {q:List O2}{k:Nat}{p:O2}(hq:UpO q)(h1:∀j (hj:j<q.length),j<k->ltO q[j] p=true)(h2:∀hk:k<q.length,ltO p q[k]=true):UpO (insO q k p):=by
 have hq':(q.take k++q.drop k).Pairwise fun a b=>ltO a b=true:=by rw[x6!];exact hq
 obtain⟨ha,hb,a2⟩:=List.pairwise_append.1 hq'
 have a1:∀x∈q.take k,ltO x p=true:=fun x hx=>by
  obtain⟨j,hj,rfl⟩:=u0! hx;rw[x4!]at hj;rw[List.getElem_take];exact h1 j (by omega) (by omega)
 have a0:∀x∈q.drop k,ltO p x=true:=fun x hx=>by
  obtain⟨j,hj,rfl⟩:=u0! hx;rw[List.length_drop]at hj;rw[List.getElem_drop];have hk:k<q.length:=by omega
  rcases Nat.eq_zero_or_pos j with rfl | hj0
  ·exact h2 hk
  ·exact lq! (h2 hk) ((x3!.1 hq) k (k+j) hk (by omega) (by omega))
 unfold insO UpO;rw[y6!,List.pairwise_append];refine⟨ha,?_,fun x hx y hy=>?_⟩
 ·rw[List.singleton_append,List.pairwise_cons];exact⟨a0,hb⟩
 ·rcases u3!.1 hy with hy | hy
  ·obtain rfl:y=p:=by simpa using hy
   exact a1 x hx
  ·exact a2 x hx y hy
theorem aG! (q:List O2)(k:Nat)(p:O2):(insO q k p).length=q.length+1:=by
 unfold insO;have:=congrArg List.length (x6! k q);simp only[u4!,List.length_singleton]at this ⊢;omega
theorem kE! {l:List Tup}{i:Nat}(hi:i<l.length)(o:O2):ObjIn (l.take (i+1)) o↔ObjIn (l.take i) o\/l[i].o.obj=o\/l[i].s.obj=o:=by
 unfold ObjIn;rw[n2! hi];constructor
 ·rintro⟨t,a,h⟩;rcases u3!.1 a with a | a
  ·exact .inl ⟨t,a,h⟩
  ·rw[n9!.1 a]at h;exact .inr h
 ·rintro(⟨t,a,h⟩ | h)
  ·exact⟨t,List.mem_append_left _ a,h⟩
  ·exact⟨_,List.mem_append_right _ (by simp),h⟩
theorem fv! (v:Value)(l:List Tup)(typ:ByteArray)(w:World)(h:Sl (· < w.heap.size) w 6 v (tuCs l))(hl:l.length<=40000) :
  Calls prog 120 #[v,.string typ] w fun e w'=>∃(v':Value) (l':List O2),e= .returned v'/\UpO l'/\(∀x,x∈l'↔x.t=typ/\ObjIn l x)/\Own w' w.heap.size 30 2 v' (ocs l')/\Below w.heap.size w w':=by
 obtain⟨ao,c,rfl,br,bl,ae⟩:=ff! h;have HC:=h! ae;have HL:=h! hl;clear ae h hl;go_enter func120,ntmps120
 go_wp2_with fail
 go_loopw [5,13] (fun vv ii wr=>∃(i:Nat) (q:List O2),i<=l.length/\ii= .int .i64 i/\Own wr w.heap.size 30 2 vv (ocs q)/\UpO q/\(∀x,x∈q↔x.t=typ/\ObjIn (l.take i) x)/\q.length<=2*i/\Below w.heap.size w wr) (fun _ ii _=>l.length-(intOf ii).toNat)
 case atStart=>exact⟨0,[],by omega,rfl,Own.nil _ _ _ _,List.Pairwise.nil,by simp[ObjIn],by simp,Below.refl _ _⟩
 case round =>
  obtain⟨i,qA,hi,rfl,I,hup,a3,bp,T⟩:=hrel;have aY:=h! hup;have aR:=h! a3;have aG:=h! I;have ab:=h! T;clear hup a3 I T;by_cases hlt:i<l.length
  ·obtain⟨b,a0,bk,hb,k0,k1,k2,k3,k4,k5⟩:=HC.out i hlt;subst bk;have d0:=(ab.out.cell (p:=⟨b,a0+i*6,none⟩) hb).trans k0;have d1:=(ab.out.cell (p:=⟨b,a0+i*6+1,none⟩) hb).trans k1;have d2:=(ab.out.cell (p:=⟨b,a0+i*6+2,none⟩) hb).trans k2;have d3:=(ab.out.cell (p:=⟨b,a0+i*6+3,none⟩) hb).trans k3;have d4:=(ab.out.cell (p:=⟨b,a0+i*6+4,none⟩) hb).trans k4;have d5:=(ab.out.cell (p:=⟨b,a0+i*6+5,none⟩) hb).trans k5;have bb:=h! (kE! hlt);have ac:=h! hlt;clear k0 k1 k2 k3 k4 k5 hb;generalize l[i]=t at *;clear hlt;obtain⟨⟨ot,oi,aJ⟩,⟨st,si,sr⟩⟩:=t;dsimp only at d0 d1 d2 d3 d4 d5;obtain⟨wt,aE⟩:=e! (wr.alloc (.cells #[.string ot,.string oi,.string aJ,.string st,.string si,.string sr] 67));obtain⟨wo,am⟩:=e! (wt.alloc (.cells #[.string ot,.string oi,.string st,.string si] 30));have b5:wt.heap.size=wr.heap.size+1:=by rw[aE];simp
   have xt:Ext wr wt:=xa! aE
   have xo:Ext wt wo:=xa! am
   have BT:=(show Blk wt wr.heap.size #[.string ot,.string oi,.string aJ,.string st,.string si,.string sr] 67 from bm! aE).cells;have BO:=h! (show Blk wo (wr.heap.size+1) #[.string ot,.string oi,.string st,.string si] 30 from by rw[am,<-b5];exact Blk.made _ _ _);have aN:=h! (aG.out.below (xt.trans xo));have aM:Hid (Below w.heap.size w wo):=h! (ab.out.trans (Below.mono (xt.trans xo) ab.out.size));subst am aE;clear xt xo;go_wp2_with fail
   clear d0 d1 d2 d3 d4 d5 BT;obtain⟨wo,am⟩:=e! ((wr.alloc (.cells #[.string ot,.string oi,.string aJ,.string st,.string si,.string sr] 67)).alloc (.cells #[.string ot,.string oi,.string st,.string si] 30));rw[<-am]at BO aN aM ⊢;clear am b5;obtain⟨ob,b6⟩:=e! (wr.heap.size+1);rw[<-b6]at BO ⊢;clear b6;obtain⟨QB,aD⟩:∃Q:Nat->O2->Prop,Hid (∀j x,Q j x↔x.t=typ/\(ObjIn (l.take i) x\/x∈([⟨ot,oi⟩,⟨st,si⟩]:List O2).take j)):=⟨fun j x=>x.t=typ/\(ObjIn (l.take i) x\/x∈([⟨ot,oi⟩,⟨st,si⟩]:List O2).take j),h! fun _ _=>Iff.rfl⟩;have b4:=h! (show ∀x,x∈qA↔QB 0 x from fun x=>by rw[aD.out,aR.out x];simp);go_loopw [5,24] (fun vv jj wr=>∃(j:Nat) (q:List O2),j<=2/\jj= .int .i64 j/\Own wr w.heap.size 30 2 vv (ocs q)/\UpO q/\(∀x,x∈q↔QB j x)/\q.length<=2*i+j/\Below w.heap.size w wr/\Ext wo wr) (fun _ jj _=>2-(intOf jj).toNat)
   case atStart=>exact⟨0,qA,by omega,rfl,aN.out,aY.out,b4.out,by omega,aM.out,Ext.refl _⟩
   case round =>
    obtain⟨j,q,hj,rfl,I,hup,a3,bs,T,aU⟩:=hrel;have Y:=h! hup;have av:=h! a3;have U:=h! aU;clear hup a3 aU aG aN aM b4;by_cases hlt:j<2
    ·obtain⟨pt,pi,b7,d0,d1⟩:∃pt pi,([⟨ot,oi⟩,⟨st,si⟩]:List O2)[j]?=some ⟨pt,pi⟩/\wr.cell? ⟨ob,j*2,none⟩=some (.string pt)/\wr.cell? ⟨ob,j*2+1,none⟩=some (.string pi):=by
      have hc:=(BO.out.below U.out).cells;obtain rfl | rfl:j=0\/j=1:=by omega
      ·exact⟨ot,oi,rfl,hc 0,hc 1⟩
      ·exact⟨st,si,rfl,hc 2,hc 3⟩
     have an:=h! (show ∀x,QB (j+1) x↔QB j x\/(x=⟨pt,pi⟩/\pt=typ)from fun x=>by
      rw[aD.out,aD.out,List.take_add_one,b7];simp only[Option.toList_some,u3!,n9!];constructor
      ·rintro⟨h1,h2 | h2 | rfl⟩
       ·exact .inl ⟨h1,.inl h2⟩
       ·exact .inl ⟨h1,.inr h2⟩
       ·exact .inr ⟨rfl,h1⟩
      ·rintro(⟨h1,h2 | h2⟩|⟨rfl,h2⟩)
       ·exact⟨h1,.inl h2⟩
       ·exact⟨h1,.inr (.inl h2)⟩
       ·exact⟨h2,.inr (.inr rfl)⟩)
     have bq:(j:Int)<2:=by omega
     clear b7;have bm:q.length<=100000:=by have:=HL.out;have:=ac.out;omega
     obtain⟨mo,mc,rfl,bo,bn,b0⟩:=Sl.rows aC! (by decide) (show Sl _ wr 2 u5 (List.flatMap oC q)from I.sl);have aS:=h! I.shape;obtain⟨wP,aH⟩:=e! (wr.alloc (.cells #[.string pt,.string pi] 30));have ax:Blk wP wr.heap.size #[.string pt,.string pi] 30:=by rw[aH];exact Blk.made wr _ _
     have a7:Ext wr wP:=xa! aH
     have aF:=h! (show 0<q.length->∃b a0,mo=some ⟨b,a0,none⟩/\b<wr.heap.size/\∀(k:Nat) (hk:k<q.length),wr.cell? ⟨b,a0+k*2,none⟩=some (.string q[k].t)/\wr.cell? ⟨b,a0+k*2+1,none⟩=some (.string q[k].i)from fun h0=>by
      obtain⟨b,a0,h1,h2,h3⟩:=b0 h0;exact⟨b,a0,h1,h2.2,fun k hk=>⟨h3 k hk 0 _ rfl,h3 k hk 1 _ rfl⟩⟩)
     have ad:=h! I;have a2:=h! ax;have aw:=h! a7;clear I b0 ax a7;go_wp2_with fail
     try rw[<-aH]
     clear aH;have D:=h! T;clear T d0 d1;obtain⟨F,ar⟩:=e! wr;rw[<-ar]at ad a2 aw aF D U ⊢;clear ar;by_cases htp:pt=typ
     rotate_left
     ·have al:=h! (show ∀x,x∈q↔QB (j+1) x from fun x=>by
       rw[an.out x,av.out x];exact⟨.inl,fun h=>h.elim id fun h=>absurd h.2 htp⟩)
      have ai:=iE! pt typ;rw[v3! htp]at ai;have aV:=h! ai;clear htp ai;go_loopw [10] (fun ii wr=>∃k:Nat,k<=q.length/\ii= .int .i64 k/\Below wP.heap.size wP wr) (fun ii _=>q.length-(intOf ii).toNat)
      case atStart=>exact⟨0,by omega,rfl,Below.refl _ _⟩
      case round =>
       obtain⟨k,hk,rfl,aa⟩:=hrel;have ak:=h! (aw.out.trans aa);have be:=h! (a2.out.below aa);have b3:Hid (Ext wP wr):=h! aa;clear aa;by_cases hkl:k<q.length
       ·obtain⟨b2,f,rfl,J,ap⟩:=aF.out (by omega);obtain⟨e0,e1⟩:=ap k hkl;have bj:decide ((k:Int)<(q.length:Int))=true:=by simp;omega
        clear ap;generalize q[k]=u at *;obtain⟨ut,ui⟩:=u;dsimp only at e0 e1;have ag:=h! (fun W=>fC! ⟨ut,ui⟩ ⟨pt,pi⟩ W);unfold oV at ag;dsimp only at ag;go_wp2_with fail
        obtain⟨wd,A⟩:∃wd,Hid (wd=wr.drew):=⟨_,h! rfl⟩;have aA:=h! (show Ext wr wd from xd! A.out);refine re! A.out ?_;clear A;have h1:=fun W (h:Ext wd W)=>((be.out.below aA.out).below h).cells;have g0:∀W,Ext wd W->W.cell? ⟨b2,f+k*2,none⟩=some (.string ut):=fun W h=>Ext.cell ((ak.out.trans aA.out).trans h) e0;have g1:∀W,Ext wd W->W.cell? ⟨b2,f+k*2+1,none⟩=some (.string ui):=fun W h=>Ext.cell ((ak.out.trans aA.out).trans h) e1;(refine WalkN.tk [0,1,2,3,4,5,6,7,8,9] ?_;(iterate 10 (refine c! ?_));refine TkN.n ?_)
        clear h1 g0 g1;refine ob! 10 ?_;intro K hK;go_simp;refine(ag.out _).mono ?_;rintro e w4 ⟨rfl,E⟩;refine hK.out _ _ E ?_;clear hK;refine t! 11 ?_
        refine d! ?_;have aX:Hid (Ext wP w4):=h! (b3.out.trans (aA.out.trans E));clear E ag;rcases hlb:ltO ⟨ut,ui⟩ ⟨pt,pi⟩with _ | _
        rotate_left
        ·clear hlb;go_wp2_with fail
         go_roundw
         case rel=>exact⟨k+1,by omega,by go_num,aX.out⟩
         case measure=>simp[intOf];omega
        clear hlb;go_wp2_with fail
        obtain⟨w6,L⟩:∃w6,Hid (w6=w4.drew):=⟨_,h! rfl⟩;have au:=h! (show Ext wP w6 from aX.out.trans (xd! L.out));refine re! L.out ?_;clear L;have h1:=fun W (h:Ext w6 W)=>((a2.out.below au.out).below h).cells;have ai:=aV.out;(refine WalkN.tk [0,1,2,3,4] ?_;(iterate 5 (refine c! ?_));refine TkN.n ?_)
        refine k! 5 ?_;refine k! 6 ?_;refine k! 7 ?_;refine k! 8 ?_;refine k! 9 ?_;refine k! 10 ?_;refine k! 11 ?_;refine k! 12 ?_;refine k! 13 ?_;refine k! 14 ?_;refine k! 15 ?_;refine k! 16 ?_
        refine t! 17 ?_
        refine d! ?_;have XE:Hid (Ext F w6):=h! (aw.out.trans au.out);clear h1 ai;go_wp2_with fail
        go_roundw
        case rel=>exact⟨j+1,q,by omega,by go_num,ad.out.below XE.out,Y.out,al.out,by omega,D.out.trans (Below.mono XE.out D.out.size),U.out.trans XE.out⟩
        case measure=>simp[intOf];omega
       ·obtain rfl:k=q.length:=by omega
        clear hkl;go_wp2_with fail
        obtain⟨wc,X⟩:∃wc,Hid (wc=wr.drew):=⟨_,h! rfl⟩;have bd:=h! (show Ext wP wc from b3.out.trans (xd! X.out));refine re! X.out ?_;clear X;(refine WalkN.tk [0,1,2,3,4] ?_;(iterate 5 (refine c! ?_));refine TkN.n ?_)
        refine k! 5 ?_;refine k! 6 ?_;refine k! 7 ?_;refine k! 8 ?_;refine k! 9 ?_;refine k! 10 ?_
        refine t! 11 ?_
        refine d! ?_;go_wp2_with fail
        obtain⟨w6,L⟩:∃w6,Hid (w6=wc.drew):=⟨_,h! rfl⟩;have au:=h! (show Ext wP w6 from bd.out.trans (xd! L.out));refine re! L.out ?_;clear L;have h1:=fun W (h:Ext w6 W)=>((a2.out.below au.out).below h).cells;have ai:=aV.out;(refine WalkN.tk [0,1,2,3,4] ?_;(iterate 5 (refine c! ?_));refine TkN.n ?_)
        refine k! 5 ?_;refine k! 6 ?_;refine k! 7 ?_;refine k! 8 ?_;refine k! 9 ?_;refine k! 10 ?_;refine k! 11 ?_;refine k! 12 ?_;refine k! 13 ?_;refine k! 14 ?_;refine k! 15 ?_;refine k! 16 ?_
        refine t! 17 ?_
        refine d! ?_;have XE:Hid (Ext F w6):=h! (aw.out.trans au.out);clear h1 ai;go_wp2_with fail
        go_roundw
        case rel=>exact⟨j+1,q,by omega,by go_num,ad.out.below XE.out,Y.out,al.out,by omega,D.out.trans (Below.mono XE.out D.out.size),U.out.trans XE.out⟩
        case measure=>simp[intOf];omega
     have aP:=h! (show ∀x,QB (j+1) x↔QB j x\/x=⟨pt,pi⟩from fun x=>by
      rw[an.out x];exact or_congr Iff.rfl ⟨fun h=>h.1,fun h=>⟨h,htp⟩⟩)
     subst htp;go_loopw [10] (fun ii wr=>∃k:Nat,k<=q.length/\ii= .int .i64 k/\(∀j (hj:j<q.length),j<k->ltO q[j] ⟨pt,pi⟩=true)/\Below wP.heap.size wP wr) (fun ii _=>q.length-(intOf ii).toNat)
     case atStart=>exact⟨0,by omega,rfl,fun _ _ h=>absurd h (by omega),Below.refl _ _⟩
     case round =>
      obtain⟨k,hk,rfl,aq,aa⟩:=hrel;have R:=h! aq;have ak:=h! (aw.out.trans aa);have aB:=a2.out.below aa;clear aq;by_cases hkl:k<q.length
      ·obtain⟨b2,f,rfl,J,ap⟩:=aF.out (by omega);obtain⟨e0,e1⟩:=ap k hkl;have bj:decide ((k:Int)<(q.length:Int))=true:=by simp;omega
       have aC:=fun(h:ltO q[k] ⟨pt,pi⟩=true)=>h! (ah! (p:=fun j hj=>ltO q[j] ⟨pt,pi⟩=true) R.out hkl h);have az:=fun(h:ltO ⟨pt,pi⟩ q[k]=true)=>h! (mB! (p:=⟨pt,pi⟩) Y.out R.out (fun _=>h));have aQ:=n5! hkl;clear ap;generalize q[k]=u at *;obtain⟨ut,ui⟩:=u;dsimp only at e0 e1;have ag:=h! (fun W=>fC! ⟨ut,ui⟩ ⟨pt,pi⟩ W);unfold oV at ag;dsimp only at ag;go_wp2_with fail
       obtain⟨wd,A⟩:=e! wr.drew;have C:Ext F wd:=by rw[A];exact ak.out.trans (Ext.drew _)
       have bi:Ext wr wd:=xd! A
       have Z:Blk wd F.heap.size #[.string pt,.string pi] 30:=by rw[A];exact aB.drew
       refine re! A ?_;clear A aB;have h1:=fun W (h:Ext wd W)=>(Z.below h).cells;have g0:∀W,Ext wd W->W.cell? ⟨b2,f+k*2,none⟩=some (.string ut):=fun W h=>Ext.cell (C.trans h) e0;have g1:∀W,Ext wd W->W.cell? ⟨b2,f+k*2+1,none⟩=some (.string ui):=fun W h=>Ext.cell (C.trans h) e1;(refine WalkN.tk [0,1,2,3,4,5,6,7,8,9] ?_;(iterate 10 (refine c! ?_));refine TkN.n ?_)
       clear h1 g0 g1;refine ob! 10 ?_;intro K hK;go_simp;refine(ag.out _).mono ?_;rintro e w4 ⟨rfl,E⟩;refine hK.out _ _ E ?_;clear hK;refine t! 11 ?_
       refine d! ?_;have aZ:=h! (C.trans E);have aI:Hid (Ext wr w4):=h! (bi.trans E);have b9:=h! (Z.below E);clear C Z E;rcases hlb:ltO ⟨ut,ui⟩ ⟨pt,pi⟩with _ | _
       rotate_left
       ·have HH:=aC hlb;clear hlb aC az R;go_wp2_with fail
        go_roundw
        case rel=>exact⟨k+1,by omega,by go_num,HH.out,by exact aa.trans (Below.mono (aI.out) aa.size)⟩
        case measure=>simp[intOf];omega
       have aT:((k:Int) == (q.length:Int))=false:=by rw[n7!];omega
       have V:=fun W=>pD! ⟨ut,ui⟩ ⟨pt,pi⟩ W;unfold oV at V;dsimp only at V;by_cases hup:(⟨ut,ui⟩:O2)=⟨pt,pi⟩
       ·rw[v3! (fun h=>h hup)]at V
        have al:=h! (show ∀x,x∈q↔QB (j+1) x from fun x=>by
         rw[aP.out x,<-av.out x];constructor
         ·exact .inl
         ·rintro(h | rfl)
          ·exact h
          ·exact hup▸aQ)
        injection hup with hu1 hu2
        subst hu1 hu2;clear hlb aC az R aQ;go_wp2_with fail
        obtain⟨wd,A⟩:=e! w4.drew;have C:Ext F wd:=by rw[A];exact aZ.out.trans (Ext.drew _)
        have Z:Blk wd F.heap.size #[.string ut,.string ui] 30:=by rw[A];exact b9.out.drew
        refine re! A ?_;clear A;have h1:=fun W (h:Ext wd W)=>(Z.below h).cells;have g0:∀W,Ext wd W->W.cell? ⟨b2,f+k*2,none⟩=some (.string ut):=fun W h=>Ext.cell (C.trans h) e0;have g1:∀W,Ext wd W->W.cell? ⟨b2,f+k*2+1,none⟩=some (.string ui):=fun W h=>Ext.cell (C.trans h) e1;(refine WalkN.tk [0,1,2,3,4,5,6,7,8,9,10,11,12,13,14,15,16,17] ?_;(iterate 18 (refine c! ?_));refine TkN.n ?_)
        refine d! ?_;have bf:=h! (ad.out.below C);have aK:=h! (D.out.trans (Below.mono C D.out.size));have bc:Hid (Ext F wd):=h! C;clear h1 g0 g1 C Z V aT;go_wp2_with fail
        go_roundw
        case rel=>exact⟨j+1,q,by omega,by go_num,bf.out,Y.out,al.out,by omega,aK.out,U.out.trans bc.out⟩
        case measure=>simp[intOf];omega
       rw[v2! (show(⟨ut,ui⟩:O2)≠⟨pt,pi⟩from hup)]at V;have a8:=az (lr! hlb hup);have a9:Hid (∀x,x∈insO q k ⟨pt,pi⟩↔QB (j+1) x):=h! (fun x=>by rw[jN!,av.out x,aP.out x]);clear hlb aC az R aQ hup;go_wp2_with fail
       obtain⟨wd,A⟩:=e! w4.drew;have aj:Ext F wd:=by rw[A];exact aZ.out.trans (Ext.drew _)
       have af:Blk wd F.heap.size #[.string pt,.string pi] 30:=by rw[A];exact b9.out.drew
       refine re! A ?_;clear A;have h1:=fun W (h:Ext wd W)=>(af.below h).cells;have g0:∀W,Ext wd W->W.cell? ⟨b2,f+k*2,none⟩=some (.string ut):=fun W h=>Ext.cell (aj.trans h) e0;have g1:∀W,Ext wd W->W.cell? ⟨b2,f+k*2+1,none⟩=some (.string ui):=fun W h=>Ext.cell (aj.trans h) e1;(refine WalkN.tk [0,1,2,3,4,5,6,7,8,9,10,11,12,13,14,15,16,17] ?_;(iterate 18 (refine c! ?_));refine TkN.n ?_)
       refine d! ?_;clear h1 g0 g1 V aT e0 e1;obtain⟨w6,rfl⟩:=e! wd;have bh:(k:Int)<=mc:=by omega
       have ba:(k:Int)<=q.length:=by omega
       go_wp2_with fail
       obtain⟨wd,A⟩:=e! w6.drew;have C:Ext F wd:=by rw[A];exact aj.trans (Ext.drew _)
       have Z:Blk wd F.heap.size #[.string pt,.string pi] 30:=by rw[A];exact af.drew
       have B:Below w.heap.size w wd:=D.out.trans (Below.mono C D.out.size);have a1:Sl (· < wd.heap.size) wd 2 (.slice (some ⟨b2,f,none⟩) q.length mc) (ocs q):=ad.out.slU.up C;refine re! A ?_;clear A;have ay:=fun W (h:Ext wd W)=>(Z.below h).cells;(refine WalkN.tk [1,2,3,5,8,9,10] ?_;(iterate 7 (refine c! ?_));refine TkN.n ?_)
       clear ay;have a7:Ext wd wd:=Ext.refl _
       have a6:Sl (· < wd.heap.size) wd 2 (.slice (some ⟨b2,f,none⟩) k mc) (ocs (q.take k)):=by
        have:=a1.take k (by omega);rwa[gc!]at this
       have a5:Sl (· < wd.heap.size) wd 2 (.slice (if mc=k then(some ⟨b2,f,none⟩)else(some ⟨b2,f+k*2,none⟩)) (q.length-k) (mc-k)) (ocs (q.drop k)):=by
        have:=a1.tailK (ao':=(if mc=k then(some ⟨b2,f,none⟩)else(some ⟨b2,f+k*2,none⟩))) k (by omega) (fun h=>by rw[if_neg h];simp[Addr.add_lit]);rwa[gd!]at this
       have a4:=h! (show []++ocs (q.take k)++ocs [⟨pt,pi⟩]++ocs (q.drop k)=ocs (insO q k ⟨pt,pi⟩)from by rw[y2!,<-aP!,<-aP!];rfl);have b1:(q.take k).length<=100000:=by rw[x4!];omega
       have aW:(q.drop k).length<=100000:=by rw[List.length_drop];omega
       clear a1;refine p! 0 6 ?_ ?_
       ·refine⟨_,(by simp only[gA,gZ];rfl),by rfl,fun K hK=>?_⟩;go_simp;have a:Own (wd.alloc (.cells #[] 30)) wd.heap.size 30 2 (.slice (some ⟨wd.heap.size,0,none⟩) 0 0) []:=Own.made wd (n0! _) _ _;have r:=Below.alloc a7 (n0! _) (.cells #[] 30);refine hK.out _ _ r ?_;clear hK;refine p! 4 6 ?_ ?_
        ·refine b! ?_;intro K hK;refine ay! aM! (.tmp 60) (.tmp 63) rfl rfl a rfl (a6.same (Same.below r)) (av! _) (by simp[aa!] <;> omega) (by simp[aa!] <;> omega) r.size (fun v2 w2 hown2 J hg2'=>?_);have z:Ext wd w2:=Below.trans r J;refine hK.out _ _ z ?_;clear hK;simp only[Act.put,pA,pZ,pS];refine ob! 6 ?_;intro K hK;go_simp;have s:=Below.alloc z z.size (.cells #[.string pt,.string pi] 30);have g:=hown2.below ((Below.refl _ _).alloc (n0! _) (.cells #[.string pt,.string pi] 30));have H:Sl (fun _=>True) (w2.alloc (.cells #[.string pt,.string pi] 30)) 2 (.slice (some ⟨w2.heap.size,0,none⟩) 1 1) (ocs [⟨pt,pi⟩]):=Sl.made w2 (fun _=>True) 2 1 30 #[.string pt,.string pi] rfl (by decide) trivial;refine hK.out _ _ s ?_;clear hK;refine ob! 7 ?_;intro K hK;refine ay! aM! (.tmp 64) (.tmp 66) rfl rfl g rfl H (av! _) (by simp[aa!] <;> omega) (by simp[aa!] <;> omega) s.size (fun v4 w4 hown4 E _=>?_);have m:Ext wd w4:=Below.trans s E;refine hK.out _ _ m ?_;clear hK;simp only[Act.put,pA,pZ,pS];refine ob! 11 ?_;intro K hK;refine ay! aM! (.tmp 67) (.tmp 70) rfl rfl hown4 rfl (a5.same (Same.below m)) (av! _) (by simp[aa!] <;> omega) (by simp[aa!] <;> omega) m.size (fun v5 w5 hown5 hb5 _=>?_);have y:Ext wd w5:=Below.trans m hb5;have O:=h! hown5;refine hK.out _ _ y ?_;clear hK;simp only[Act.put,pA,pZ,pS];clear g hown4 hown5 H;refine t! 12 ?_
         refine d! ?_;go_wp2
         go_roundw
         case rel=>exact⟨j+1,insO q k ⟨pt,pi⟩,by omega,by go_num,(a4.out▸O.out:Own w5 wd.heap.size 30 2 v5 (ocs (insO q k ⟨pt,pi⟩))).base B.size,a8.out,a9.out,by rw[aG!];omega,B.trans (Below.mono y B.size),U.out.trans (C.trans y)⟩
         case measure=>simp[intOf];omega
        ·obtain⟨w1,G⟩:=e! (wd.alloc (.cells #[] 30));rw[<-G]at a r ⊢;have hs1':w1.heap.size=wd.heap.size+1:=by rw[G];simp
         have N:=h! hs1';clear G hs1';refine b! ?_;intro K hK;go_simp;have s:=Below.alloc r r.size (.cells #[.string pt,.string pi] 30);have g:=a.below ((Below.refl _ _).alloc (n0! _) (.cells #[.string pt,.string pi] 30));have H:Sl (fun b=>b=w1.heap.size) (w1.alloc (.cells #[.string pt,.string pi] 30)) 2 (.slice (some ⟨w1.heap.size,0,none⟩) 1 1) (ocs [⟨pt,pi⟩]):=Sl.made w1 (fun b=>b=w1.heap.size) 2 1 30 #[.string pt,.string pi] rfl (by decide) rfl;refine hK.out _ _ s ?_;clear hK;refine ob! 4 ?_;intro K hK;refine ay! aM! (.tmp 60) (.tmp 63) rfl rfl g rfl (a6.same (Same.below s)) (av! _) (by simp[aa!] <;> omega) (by simp[aa!] <;> omega) s.size (fun v2 w2 hown2 J hg2'=>?_);have z:Ext wd w2:=Below.trans s J;have M:=H.same (w':=w2) (fun x hx=>hg2'.block x (by subst hx;simp) (fun h=>by subst hx;have h2:=v5! (show some w1.heap.size=some wd.heap.size from h);have:=N.out;omega));refine hK.out _ _ z ?_;clear hK;simp only[Act.put,pA,pZ,pS];refine ob! 7 ?_;intro K hK;refine ay! aM! (.tmp 64) (.tmp 66) rfl rfl hown2 rfl M (av! _) (by simp[aa!] <;> omega) (by simp[aa!] <;> omega) z.size (fun v4 w4 hown4 E _=>?_);have m:Ext wd w4:=Below.trans z E;refine hK.out _ _ m ?_;clear hK;simp only[Act.put,pA,pZ,pS];refine ob! 11 ?_;intro K hK;refine ay! aM! (.tmp 67) (.tmp 70) rfl rfl hown4 rfl (a5.same (Same.below m)) (av! _) (by simp[aa!] <;> omega) (by simp[aa!] <;> omega) m.size (fun v5 w5 hown5 hb5 _=>?_);have y:Ext wd w5:=Below.trans m hb5;have O:=h! hown5;refine hK.out _ _ y ?_;clear hK;simp only[Act.put,pA,pZ,pS];clear hown2 hown4 hown5 M;refine t! 12 ?_
         refine d! ?_;go_wp2
         go_roundw
         case rel=>exact⟨j+1,insO q k ⟨pt,pi⟩,by omega,by go_num,(a4.out▸O.out:Own w5 wd.heap.size 30 2 v5 (ocs (insO q k ⟨pt,pi⟩))).base B.size,a8.out,a9.out,by rw[aG!];omega,B.trans (Below.mono y B.size),U.out.trans (C.trans y)⟩
         case measure=>simp[intOf];omega
       ·refine b! ?_;intro K hK;go_simp;have r:=Below.alloc a7 (n0! _) (.cells #[.string pt,.string pi] 30);have ah:Sl (fun b=>b=wd.heap.size) (wd.alloc (.cells #[.string pt,.string pi] 30)) 2 (.slice (some ⟨wd.heap.size,0,none⟩) 1 1) (ocs [⟨pt,pi⟩]):=Sl.made wd (fun b=>b=wd.heap.size) 2 1 30 #[.string pt,.string pi] rfl (by decide) rfl;refine hK.out _ _ r ?_;clear hK;obtain⟨w1,G⟩:=e! (wd.alloc (.cells #[.string pt,.string pi] 30));rw[<-G]at ah r ⊢;have hs1':w1.heap.size=wd.heap.size+1:=by rw[G];simp
        have N:=h! hs1';clear G hs1';refine o! 0 ?_;refine⟨_,(by simp only[gA,gZ];rfl),by rfl,fun K hK=>?_⟩;go_simp;have a:Own (w1.alloc (.cells #[] 30)) wd.heap.size 30 2 (.slice (some ⟨w1.heap.size,0,none⟩) 0 0) []:=Own.made w1 r.size _ _;have s:=Below.alloc r r.size (.cells #[] 30);have H:=ah.same (w':=w1.alloc (.cells #[] 30)) (fun x hx=>Below.heap_alloc w1 _ x (by subst hx;have:=N.out;omega));refine hK.out _ _ s ?_;clear hK;refine ob! 4 ?_;intro K hK;refine ay! aM! (.tmp 60) (.tmp 63) rfl rfl a rfl (a6.same (Same.below s)) (av! _) (by simp[aa!] <;> omega) (by simp[aa!] <;> omega) s.size (fun v2 w2 hown2 J hg2'=>?_);have z:Ext wd w2:=Below.trans s J;have M:=H.same (w':=w2) (fun x hx=>hg2'.block x (by subst hx;have:=N.out;simp;omega) (fun h=>by subst hx;have h2:=v5! (show some wd.heap.size=some w1.heap.size from h);have:=N.out;omega));refine hK.out _ _ z ?_;clear hK;simp only[Act.put,pA,pZ,pS];refine ob! 7 ?_;intro K hK;refine ay! aM! (.tmp 64) (.tmp 66) rfl rfl hown2 rfl M (av! _) (by simp[aa!] <;> omega) (by simp[aa!] <;> omega) z.size (fun v4 w4 hown4 E _=>?_);have m:Ext wd w4:=Below.trans z E;refine hK.out _ _ m ?_;clear hK;simp only[Act.put,pA,pZ,pS];refine ob! 11 ?_;intro K hK;refine ay! aM! (.tmp 67) (.tmp 70) rfl rfl hown4 rfl (a5.same (Same.below m)) (av! _) (by simp[aa!] <;> omega) (by simp[aa!] <;> omega) m.size (fun v5 w5 hown5 hb5 _=>?_);have y:Ext wd w5:=Below.trans m hb5;have O:=h! hown5;refine hK.out _ _ y ?_;clear hK;simp only[Act.put,pA,pZ,pS];clear hown2 hown4 hown5 M;refine t! 12 ?_
        refine d! ?_;go_wp2
        go_roundw
        case rel=>exact⟨j+1,insO q k ⟨pt,pi⟩,by omega,by go_num,(a4.out▸O.out:Own w5 wd.heap.size 30 2 v5 (ocs (insO q k ⟨pt,pi⟩))).base B.size,a8.out,a9.out,by rw[aG!];omega,B.trans (Below.mono y B.size),U.out.trans (C.trans y)⟩
        case measure=>simp[intOf];omega
      ·obtain rfl:k=q.length:=by omega
       have a8:=h! (mB! (p:=⟨pt,pi⟩) Y.out R.out (fun h=>absurd h hkl));have a9:Hid (∀x,x∈insO q q.length ⟨pt,pi⟩↔QB (j+1) x):=h! (fun x=>by rw[jN!,av.out x,aP.out x]);have bh:(q.length:Int)<=mc:=by omega
       have ba:(q.length:Int)<=q.length:=by omega
       clear hkl R aF aa;rcases aS.out with⟨hmn,-⟩|⟨b2,n',c',hmn⟩
       ·obtain rfl:mo=none:=by injection hmn
        clear hmn aS;go_wp2_with fail
        obtain⟨wc,X⟩:=e! wr.drew;have aO:Ext F wc:=by rw[X];exact ak.out.trans (Ext.drew _)
        have aL:Blk wc F.heap.size #[.string pt,.string pi] 30:=by rw[X];exact aB.drew
        refine re! X ?_;clear X;(refine WalkN.tk [0,1,2,3,4] ?_;(iterate 5 (refine c! ?_));refine TkN.n ?_)
        refine k! 5 ?_;refine k! 6 ?_;refine k! 7 ?_;refine k! 8 ?_;refine k! 9 ?_;refine k! 10 ?_
        refine t! 11 ?_
        refine d! ?_;go_wp2_with fail
        obtain⟨w6,L⟩:=e! wc.drew;have aj:Ext F w6:=by rw[L];exact aO.trans (Ext.drew _)
        have af:Blk w6 F.heap.size #[.string pt,.string pi] 30:=by rw[L];exact aL.drew
        refine re! L ?_;clear L;have h1:=fun W (h:Ext w6 W)=>(af.below h).cells;(refine WalkN.tk [0,1,2,3,4,5,6,7,8,9] ?_;(iterate 10 (refine c! ?_));refine TkN.n ?_)
        refine k! 10 ?_;refine k! 11 ?_;refine k! 12 ?_;refine k! 13 ?_;refine k! 14 ?_;refine k! 15 ?_
        (refine WalkN.tk [16,17] ?_;(iterate 2 (refine c! ?_));refine TkN.n ?_)
        clear h1;refine d! ?_;go_wp2_with fail
        obtain⟨wd,A⟩:=e! w6.drew;have C:Ext F wd:=by rw[A];exact aj.trans (Ext.drew _)
        have Z:Blk wd F.heap.size #[.string pt,.string pi] 30:=by rw[A];exact af.drew
        have B:Below w.heap.size w wd:=D.out.trans (Below.mono C D.out.size);have a1:Sl (· < wd.heap.size) wd 2 (.slice none q.length mc) (ocs q):=ad.out.slU.up C;refine re! A ?_;clear A;have ay:=fun W (h:Ext wd W)=>(Z.below h).cells;(refine WalkN.tk [1,2,3,5,8,9,10] ?_;(iterate 7 (refine c! ?_));refine TkN.n ?_)
        clear ay;have a7:Ext wd wd:=Ext.refl _
        have a6:Sl (· < wd.heap.size) wd 2 (.slice none q.length mc) (ocs (q.take q.length)):=by
         have:=a1.take q.length (by omega);rwa[gc!]at this
        have a5:Sl (· < wd.heap.size) wd 2 (.slice none 0 (mc-q.length)) (ocs (q.drop q.length)):=by
         have:=a1.tailK (ao':=none) q.length (by omega) (fun _=>rfl);rwa[gd!,Nat.sub_self]at this
        have a4:=h! (show []++ocs (q.take q.length)++ocs [⟨pt,pi⟩]++ocs (q.drop q.length)=ocs (insO q q.length ⟨pt,pi⟩)from by rw[y2!,<-aP!,<-aP!];rfl);have b1:(q.take q.length).length<=100000:=by rw[x4!];omega
        have aW:(q.drop q.length).length<=100000:=by rw[List.length_drop];omega
        clear a1;refine p! 0 6 ?_ ?_
        ·refine⟨_,(by simp only[gA,gZ];rfl),by rfl,fun K hK=>?_⟩;go_simp;have a:Own (wd.alloc (.cells #[] 30)) wd.heap.size 30 2 (.slice (some ⟨wd.heap.size,0,none⟩) 0 0) []:=Own.made wd (n0! _) _ _;have r:=Below.alloc a7 (n0! _) (.cells #[] 30);refine hK.out _ _ r ?_;clear hK;refine p! 4 6 ?_ ?_
         ·refine b! ?_;intro K hK;refine ay! aM! (.tmp 60) (.tmp 63) rfl rfl a rfl (a6.same (Same.below r)) (av! _) (by simp[aa!] <;> omega) (by simp[aa!] <;> omega) r.size (fun v2 w2 hown2 J hg2'=>?_);have z:Ext wd w2:=Below.trans r J;refine hK.out _ _ z ?_;clear hK;simp only[Act.put,pA,pZ,pS];refine ob! 6 ?_;intro K hK;go_simp;have s:=Below.alloc z z.size (.cells #[.string pt,.string pi] 30);have g:=hown2.below ((Below.refl _ _).alloc (n0! _) (.cells #[.string pt,.string pi] 30));have H:Sl (fun _=>True) (w2.alloc (.cells #[.string pt,.string pi] 30)) 2 (.slice (some ⟨w2.heap.size,0,none⟩) 1 1) (ocs [⟨pt,pi⟩]):=Sl.made w2 (fun _=>True) 2 1 30 #[.string pt,.string pi] rfl (by decide) trivial;refine hK.out _ _ s ?_;clear hK;refine ob! 7 ?_;intro K hK;refine ay! aM! (.tmp 64) (.tmp 66) rfl rfl g rfl H (av! _) (by simp[aa!] <;> omega) (by simp[aa!] <;> omega) s.size (fun v4 w4 hown4 E _=>?_);have m:Ext wd w4:=Below.trans s E;refine hK.out _ _ m ?_;clear hK;simp only[Act.put,pA,pZ,pS];refine ob! 11 ?_;intro K hK;refine ay! aM! (.tmp 67) (.tmp 70) rfl rfl hown4 rfl (a5.same (Same.below m)) (av! _) (by simp[aa!] <;> omega) (by simp[aa!] <;> omega) m.size (fun v5 w5 hown5 hb5 _=>?_);have y:Ext wd w5:=Below.trans m hb5;have O:=h! hown5;refine hK.out _ _ y ?_;clear hK;simp only[Act.put,pA,pZ,pS];clear g hown4 hown5 H;refine t! 12 ?_
          refine d! ?_;go_wp2
          go_roundw
          case rel=>exact⟨j+1,insO q q.length ⟨pt,pi⟩,by omega,by go_num,(a4.out▸O.out:Own w5 wd.heap.size 30 2 v5 (ocs (insO q q.length ⟨pt,pi⟩))).base B.size,a8.out,a9.out,by rw[aG!];omega,B.trans (Below.mono y B.size),U.out.trans (C.trans y)⟩
          case measure=>simp[intOf];omega
         ·obtain⟨w1,G⟩:=e! (wd.alloc (.cells #[] 30));rw[<-G]at a r ⊢;have hs1':w1.heap.size=wd.heap.size+1:=by rw[G];simp
          have N:=h! hs1';clear G hs1';refine b! ?_;intro K hK;go_simp;have s:=Below.alloc r r.size (.cells #[.string pt,.string pi] 30);have g:=a.below ((Below.refl _ _).alloc (n0! _) (.cells #[.string pt,.string pi] 30));have H:Sl (fun b=>b=w1.heap.size) (w1.alloc (.cells #[.string pt,.string pi] 30)) 2 (.slice (some ⟨w1.heap.size,0,none⟩) 1 1) (ocs [⟨pt,pi⟩]):=Sl.made w1 (fun b=>b=w1.heap.size) 2 1 30 #[.string pt,.string pi] rfl (by decide) rfl;refine hK.out _ _ s ?_;clear hK;refine ob! 4 ?_;intro K hK;refine ay! aM! (.tmp 60) (.tmp 63) rfl rfl g rfl (a6.same (Same.below s)) (av! _) (by simp[aa!] <;> omega) (by simp[aa!] <;> omega) s.size (fun v2 w2 hown2 J hg2'=>?_);have z:Ext wd w2:=Below.trans s J;have M:=H.same (w':=w2) (fun x hx=>hg2'.block x (by subst hx;simp) (fun h=>by subst hx;have h2:=v5! (show some w1.heap.size=some wd.heap.size from h);have:=N.out;omega));refine hK.out _ _ z ?_;clear hK;simp only[Act.put,pA,pZ,pS];refine ob! 7 ?_;intro K hK;refine ay! aM! (.tmp 64) (.tmp 66) rfl rfl hown2 rfl M (av! _) (by simp[aa!] <;> omega) (by simp[aa!] <;> omega) z.size (fun v4 w4 hown4 E _=>?_);have m:Ext wd w4:=Below.trans z E;refine hK.out _ _ m ?_;clear hK;simp only[Act.put,pA,pZ,pS];refine ob! 11 ?_;intro K hK;refine ay! aM! (.tmp 67) (.tmp 70) rfl rfl hown4 rfl (a5.same (Same.below m)) (av! _) (by simp[aa!] <;> omega) (by simp[aa!] <;> omega) m.size (fun v5 w5 hown5 hb5 _=>?_);have y:Ext wd w5:=Below.trans m hb5;have O:=h! hown5;refine hK.out _ _ y ?_;clear hK;simp only[Act.put,pA,pZ,pS];clear hown2 hown4 hown5 M;refine t! 12 ?_
          refine d! ?_;go_wp2
          go_roundw
          case rel=>exact⟨j+1,insO q q.length ⟨pt,pi⟩,by omega,by go_num,(a4.out▸O.out:Own w5 wd.heap.size 30 2 v5 (ocs (insO q q.length ⟨pt,pi⟩))).base B.size,a8.out,a9.out,by rw[aG!];omega,B.trans (Below.mono y B.size),U.out.trans (C.trans y)⟩
          case measure=>simp[intOf];omega
        ·refine b! ?_;intro K hK;go_simp;have r:=Below.alloc a7 (n0! _) (.cells #[.string pt,.string pi] 30);have ah:Sl (fun b=>b=wd.heap.size) (wd.alloc (.cells #[.string pt,.string pi] 30)) 2 (.slice (some ⟨wd.heap.size,0,none⟩) 1 1) (ocs [⟨pt,pi⟩]):=Sl.made wd (fun b=>b=wd.heap.size) 2 1 30 #[.string pt,.string pi] rfl (by decide) rfl;refine hK.out _ _ r ?_;clear hK;obtain⟨w1,G⟩:=e! (wd.alloc (.cells #[.string pt,.string pi] 30));rw[<-G]at ah r ⊢;have hs1':w1.heap.size=wd.heap.size+1:=by rw[G];simp
         have N:=h! hs1';clear G hs1';refine o! 0 ?_;refine⟨_,(by simp only[gA,gZ];rfl),by rfl,fun K hK=>?_⟩;go_simp;have a:Own (w1.alloc (.cells #[] 30)) wd.heap.size 30 2 (.slice (some ⟨w1.heap.size,0,none⟩) 0 0) []:=Own.made w1 r.size _ _;have s:=Below.alloc r r.size (.cells #[] 30);have H:=ah.same (w':=w1.alloc (.cells #[] 30)) (fun x hx=>Below.heap_alloc w1 _ x (by subst hx;have:=N.out;omega));refine hK.out _ _ s ?_;clear hK;refine ob! 4 ?_;intro K hK;refine ay! aM! (.tmp 60) (.tmp 63) rfl rfl a rfl (a6.same (Same.below s)) (av! _) (by simp[aa!] <;> omega) (by simp[aa!] <;> omega) s.size (fun v2 w2 hown2 J hg2'=>?_);have z:Ext wd w2:=Below.trans s J;have M:=H.same (w':=w2) (fun x hx=>hg2'.block x (by subst hx;have:=N.out;simp;omega) (fun h=>by subst hx;have h2:=v5! (show some wd.heap.size=some w1.heap.size from h);have:=N.out;omega));refine hK.out _ _ z ?_;clear hK;simp only[Act.put,pA,pZ,pS];refine ob! 7 ?_;intro K hK;refine ay! aM! (.tmp 64) (.tmp 66) rfl rfl hown2 rfl M (av! _) (by simp[aa!] <;> omega) (by simp[aa!] <;> omega) z.size (fun v4 w4 hown4 E _=>?_);have m:Ext wd w4:=Below.trans z E;refine hK.out _ _ m ?_;clear hK;simp only[Act.put,pA,pZ,pS];refine ob! 11 ?_;intro K hK;refine ay! aM! (.tmp 67) (.tmp 70) rfl rfl hown4 rfl (a5.same (Same.below m)) (av! _) (by simp[aa!] <;> omega) (by simp[aa!] <;> omega) m.size (fun v5 w5 hown5 hb5 _=>?_);have y:Ext wd w5:=Below.trans m hb5;have O:=h! hown5;refine hK.out _ _ y ?_;clear hK;simp only[Act.put,pA,pZ,pS];clear hown2 hown4 hown5 M;refine t! 12 ?_
         refine d! ?_;go_wp2
         go_roundw
         case rel=>exact⟨j+1,insO q q.length ⟨pt,pi⟩,by omega,by go_num,(a4.out▸O.out:Own w5 wd.heap.size 30 2 v5 (ocs (insO q q.length ⟨pt,pi⟩))).base B.size,a8.out,a9.out,by rw[aG!];omega,B.trans (Below.mono y B.size),U.out.trans (C.trans y)⟩
         case measure=>simp[intOf];omega
       ·obtain⟨f,rfl⟩:∃f,mo=some ⟨b2,f,none⟩:=⟨0,by injection hmn⟩;clear hmn aS;go_wp2_with fail
        obtain⟨wc,X⟩:=e! wr.drew;have aO:Ext F wc:=by rw[X];exact ak.out.trans (Ext.drew _)
        have aL:Blk wc F.heap.size #[.string pt,.string pi] 30:=by rw[X];exact aB.drew
        refine re! X ?_;clear X;(refine WalkN.tk [0,1,2,3,4] ?_;(iterate 5 (refine c! ?_));refine TkN.n ?_)
        refine k! 5 ?_;refine k! 6 ?_;refine k! 7 ?_;refine k! 8 ?_;refine k! 9 ?_;refine k! 10 ?_
        refine t! 11 ?_
        refine d! ?_;go_wp2_with fail
        obtain⟨w6,L⟩:=e! wc.drew;have aj:Ext F w6:=by rw[L];exact aO.trans (Ext.drew _)
        have af:Blk w6 F.heap.size #[.string pt,.string pi] 30:=by rw[L];exact aL.drew
        refine re! L ?_;clear L;have h1:=fun W (h:Ext w6 W)=>(af.below h).cells;(refine WalkN.tk [0,1,2,3,4,5,6,7,8,9] ?_;(iterate 10 (refine c! ?_));refine TkN.n ?_)
        refine k! 10 ?_;refine k! 11 ?_;refine k! 12 ?_;refine k! 13 ?_;refine k! 14 ?_;refine k! 15 ?_
        (refine WalkN.tk [16,17] ?_;(iterate 2 (refine c! ?_));refine TkN.n ?_)
        clear h1;refine d! ?_;go_wp2_with fail
        obtain⟨wd,A⟩:=e! w6.drew;have C:Ext F wd:=by rw[A];exact aj.trans (Ext.drew _)
        have Z:Blk wd F.heap.size #[.string pt,.string pi] 30:=by rw[A];exact af.drew
        have B:Below w.heap.size w wd:=D.out.trans (Below.mono C D.out.size);have a1:Sl (· < wd.heap.size) wd 2 (.slice (some ⟨b2,f,none⟩) q.length mc) (ocs q):=ad.out.slU.up C;refine re! A ?_;clear A;have ay:=fun W (h:Ext wd W)=>(Z.below h).cells;(refine WalkN.tk [1,2,3,5,8,9,10] ?_;(iterate 7 (refine c! ?_));refine TkN.n ?_)
        clear ay;have a7:Ext wd wd:=Ext.refl _
        have a6:Sl (· < wd.heap.size) wd 2 (.slice (some ⟨b2,f,none⟩) q.length mc) (ocs (q.take q.length)):=by
         have:=a1.take q.length (by omega);rwa[gc!]at this
        have a5:Sl (· < wd.heap.size) wd 2 (.slice (if mc=q.length then(some ⟨b2,f,none⟩)else(some ⟨b2,f+q.length*2,none⟩)) 0 (mc-q.length)) (ocs (q.drop q.length)):=by
         have:=a1.tailK (ao':=(if mc=q.length then(some ⟨b2,f,none⟩)else(some ⟨b2,f+q.length*2,none⟩))) q.length (by omega) (fun h=>by rw[if_neg h];simp[Addr.add_lit]);rwa[gd!,Nat.sub_self]at this
        have a4:=h! (show []++ocs (q.take q.length)++ocs [⟨pt,pi⟩]++ocs (q.drop q.length)=ocs (insO q q.length ⟨pt,pi⟩)from by rw[y2!,<-aP!,<-aP!];rfl);have b1:(q.take q.length).length<=100000:=by rw[x4!];omega
        have aW:(q.drop q.length).length<=100000:=by rw[List.length_drop];omega
        clear a1;refine p! 0 6 ?_ ?_
        ·refine⟨_,(by simp only[gA,gZ];rfl),by rfl,fun K hK=>?_⟩;go_simp;have a:Own (wd.alloc (.cells #[] 30)) wd.heap.size 30 2 (.slice (some ⟨wd.heap.size,0,none⟩) 0 0) []:=Own.made wd (n0! _) _ _;have r:=Below.alloc a7 (n0! _) (.cells #[] 30);refine hK.out _ _ r ?_;clear hK;refine p! 4 6 ?_ ?_
         ·refine b! ?_;intro K hK;refine ay! aM! (.tmp 60) (.tmp 63) rfl rfl a rfl (a6.same (Same.below r)) (av! _) (by simp[aa!] <;> omega) (by simp[aa!] <;> omega) r.size (fun v2 w2 hown2 J hg2'=>?_);have z:Ext wd w2:=Below.trans r J;refine hK.out _ _ z ?_;clear hK;simp only[Act.put,pA,pZ,pS];refine ob! 6 ?_;intro K hK;go_simp;have s:=Below.alloc z z.size (.cells #[.string pt,.string pi] 30);have g:=hown2.below ((Below.refl _ _).alloc (n0! _) (.cells #[.string pt,.string pi] 30));have H:Sl (fun _=>True) (w2.alloc (.cells #[.string pt,.string pi] 30)) 2 (.slice (some ⟨w2.heap.size,0,none⟩) 1 1) (ocs [⟨pt,pi⟩]):=Sl.made w2 (fun _=>True) 2 1 30 #[.string pt,.string pi] rfl (by decide) trivial;refine hK.out _ _ s ?_;clear hK;refine ob! 7 ?_;intro K hK;refine ay! aM! (.tmp 64) (.tmp 66) rfl rfl g rfl H (av! _) (by simp[aa!] <;> omega) (by simp[aa!] <;> omega) s.size (fun v4 w4 hown4 E _=>?_);have m:Ext wd w4:=Below.trans s E;refine hK.out _ _ m ?_;clear hK;simp only[Act.put,pA,pZ,pS];refine ob! 11 ?_;intro K hK;refine ay! aM! (.tmp 67) (.tmp 70) rfl rfl hown4 rfl (a5.same (Same.below m)) (av! _) (by simp[aa!] <;> omega) (by simp[aa!] <;> omega) m.size (fun v5 w5 hown5 hb5 _=>?_);have y:Ext wd w5:=Below.trans m hb5;have O:=h! hown5;refine hK.out _ _ y ?_;clear hK;simp only[Act.put,pA,pZ,pS];clear g hown4 hown5 H;refine t! 12 ?_
          refine d! ?_;go_wp2
          go_roundw
          case rel=>exact⟨j+1,insO q q.length ⟨pt,pi⟩,by omega,by go_num,(a4.out▸O.out:Own w5 wd.heap.size 30 2 v5 (ocs (insO q q.length ⟨pt,pi⟩))).base B.size,a8.out,a9.out,by rw[aG!];omega,B.trans (Below.mono y B.size),U.out.trans (C.trans y)⟩
          case measure=>simp[intOf];omega
         ·obtain⟨w1,G⟩:=e! (wd.alloc (.cells #[] 30));rw[<-G]at a r ⊢;have hs1':w1.heap.size=wd.heap.size+1:=by rw[G];simp
          have N:=h! hs1';clear G hs1';refine b! ?_;intro K hK;go_simp;have s:=Below.alloc r r.size (.cells #[.string pt,.string pi] 30);have g:=a.below ((Below.refl _ _).alloc (n0! _) (.cells #[.string pt,.string pi] 30));have H:Sl (fun b=>b=w1.heap.size) (w1.alloc (.cells #[.string pt,.string pi] 30)) 2 (.slice (some ⟨w1.heap.size,0,none⟩) 1 1) (ocs [⟨pt,pi⟩]):=Sl.made w1 (fun b=>b=w1.heap.size) 2 1 30 #[.string pt,.string pi] rfl (by decide) rfl;refine hK.out _ _ s ?_;clear hK;refine ob! 4 ?_;intro K hK;refine ay! aM! (.tmp 60) (.tmp 63) rfl rfl g rfl (a6.same (Same.below s)) (av! _) (by simp[aa!] <;> omega) (by simp[aa!] <;> omega) s.size (fun v2 w2 hown2 J hg2'=>?_);have z:Ext wd w2:=Below.trans s J;have M:=H.same (w':=w2) (fun x hx=>hg2'.block x (by subst hx;simp) (fun h=>by subst hx;have h2:=v5! (show some w1.heap.size=some wd.heap.size from h);have:=N.out;omega));refine hK.out _ _ z ?_;clear hK;simp only[Act.put,pA,pZ,pS];refine ob! 7 ?_;intro K hK;refine ay! aM! (.tmp 64) (.tmp 66) rfl rfl hown2 rfl M (av! _) (by simp[aa!] <;> omega) (by simp[aa!] <;> omega) z.size (fun v4 w4 hown4 E _=>?_);have m:Ext wd w4:=Below.trans z E;refine hK.out _ _ m ?_;clear hK;simp only[Act.put,pA,pZ,pS];refine ob! 11 ?_;intro K hK;refine ay! aM! (.tmp 67) (.tmp 70) rfl rfl hown4 rfl (a5.same (Same.below m)) (av! _) (by simp[aa!] <;> omega) (by simp[aa!] <;> omega) m.size (fun v5 w5 hown5 hb5 _=>?_);have y:Ext wd w5:=Below.trans m hb5;have O:=h! hown5;refine hK.out _ _ y ?_;clear hK;simp only[Act.put,pA,pZ,pS];clear hown2 hown4 hown5 M;refine t! 12 ?_
          refine d! ?_;go_wp2
          go_roundw
          case rel=>exact⟨j+1,insO q q.length ⟨pt,pi⟩,by omega,by go_num,(a4.out▸O.out:Own w5 wd.heap.size 30 2 v5 (ocs (insO q q.length ⟨pt,pi⟩))).base B.size,a8.out,a9.out,by rw[aG!];omega,B.trans (Below.mono y B.size),U.out.trans (C.trans y)⟩
          case measure=>simp[intOf];omega
        ·refine b! ?_;intro K hK;go_simp;have r:=Below.alloc a7 (n0! _) (.cells #[.string pt,.string pi] 30);have ah:Sl (fun b=>b=wd.heap.size) (wd.alloc (.cells #[.string pt,.string pi] 30)) 2 (.slice (some ⟨wd.heap.size,0,none⟩) 1 1) (ocs [⟨pt,pi⟩]):=Sl.made wd (fun b=>b=wd.heap.size) 2 1 30 #[.string pt,.string pi] rfl (by decide) rfl;refine hK.out _ _ r ?_;clear hK;obtain⟨w1,G⟩:=e! (wd.alloc (.cells #[.string pt,.string pi] 30));rw[<-G]at ah r ⊢;have hs1':w1.heap.size=wd.heap.size+1:=by rw[G];simp
         have N:=h! hs1';clear G hs1';refine o! 0 ?_;refine⟨_,(by simp only[gA,gZ];rfl),by rfl,fun K hK=>?_⟩;go_simp;have a:Own (w1.alloc (.cells #[] 30)) wd.heap.size 30 2 (.slice (some ⟨w1.heap.size,0,none⟩) 0 0) []:=Own.made w1 r.size _ _;have s:=Below.alloc r r.size (.cells #[] 30);have H:=ah.same (w':=w1.alloc (.cells #[] 30)) (fun x hx=>Below.heap_alloc w1 _ x (by subst hx;have:=N.out;omega));refine hK.out _ _ s ?_;clear hK;refine ob! 4 ?_;intro K hK;refine ay! aM! (.tmp 60) (.tmp 63) rfl rfl a rfl (a6.same (Same.below s)) (av! _) (by simp[aa!] <;> omega) (by simp[aa!] <;> omega) s.size (fun v2 w2 hown2 J hg2'=>?_);have z:Ext wd w2:=Below.trans s J;have M:=H.same (w':=w2) (fun x hx=>hg2'.block x (by subst hx;have:=N.out;simp;omega) (fun h=>by subst hx;have h2:=v5! (show some wd.heap.size=some w1.heap.size from h);have:=N.out;omega));refine hK.out _ _ z ?_;clear hK;simp only[Act.put,pA,pZ,pS];refine ob! 7 ?_;intro K hK;refine ay! aM! (.tmp 64) (.tmp 66) rfl rfl hown2 rfl M (av! _) (by simp[aa!] <;> omega) (by simp[aa!] <;> omega) z.size (fun v4 w4 hown4 E _=>?_);have m:Ext wd w4:=Below.trans z E;refine hK.out _ _ m ?_;clear hK;simp only[Act.put,pA,pZ,pS];refine ob! 11 ?_;intro K hK;refine ay! aM! (.tmp 67) (.tmp 70) rfl rfl hown4 rfl (a5.same (Same.below m)) (av! _) (by simp[aa!] <;> omega) (by simp[aa!] <;> omega) m.size (fun v5 w5 hown5 hb5 _=>?_);have y:Ext wd w5:=Below.trans m hb5;have O:=h! hown5;refine hK.out _ _ y ?_;clear hK;simp only[Act.put,pA,pZ,pS];clear hown2 hown4 hown5 M;refine t! 12 ?_
         refine d! ?_;go_wp2
         go_roundw
         case rel=>exact⟨j+1,insO q q.length ⟨pt,pi⟩,by omega,by go_num,(a4.out▸O.out:Own w5 wd.heap.size 30 2 v5 (ocs (insO q q.length ⟨pt,pi⟩))).base B.size,a8.out,a9.out,by rw[aG!];omega,B.trans (Below.mono y B.size),U.out.trans (C.trans y)⟩
         case measure=>simp[intOf];omega
    ·obtain rfl:j=2:=by omega
     have al:=h! (show ∀x,x∈q↔x.t=typ/\ObjIn (l.take (i+1)) x from fun x=>by
      rw[av.out x,aD.out,bb.out x];refine and_congr_right fun _=>or_congr Iff.rfl ?_;simp only[List.take_succ_cons,List.take_zero,v7!,List.not_mem_nil,or_false,P3.obj];exact or_congr eq_comm eq_comm)
     have ad:=h! I;have aK:=h! T;have bg:wrap64 ((i:Int)+1)=((i+1:Nat):Int):=by have:=HL.out;have:=ac.out;unfold wrap64;omega
     have b8:=h! bg;clear I T hlt hj;go_wp2_with fail
     go_roundw
     case rel=>exact⟨i+1,q,ac.out,by first | rw[b8.out] | go_num,ad.out,Y.out,al.out,by omega,aK.out⟩
     case measure=>have:=ac.out;(try rw[b8.out]);simp[intOf];omega
  ·obtain rfl:i=l.length:=by omega
   rw[u2!]at aR;obtain⟨mo,mc,rfl,-,-,-⟩:=Sl.rows aC! (by decide) (show Sl _ wr 2 u5 (List.flatMap oC qA)from aG.out.sl);go_wp2_with fail
   go_ret
   exact⟨_,qA,rfl,aY.out,aR.out,aG.out,ab.out⟩
end Go.Proofs.YtlhaghoajpglaaaGreat
