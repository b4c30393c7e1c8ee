/- Lemmas for the claim, no condition. -/
import Derived.Test.YtlhaghoajpglaaaGreatYLkSub19
import Derived.Test.YtlhaghoajpglaaaGreatYLkSub4
set_option maxRecDepth 100000
set_option maxHeartbeats 10000000
namespace Go.Proofs.YtlhaghoajpglaaaGreat
open Go Go.RowKit Go.Maps Go.Proofs.Tryz
theorem fl! (T:List Tup)(p:P3):(ak! T p).length<=T.length:=by
 unfold ak!;rw[x1!];exact x8! _ _
theorem jV! (T:List Tup)(p:P3)(k:Int)(a b:ByteArray)(ps:List P3):(headF T p k a b ps).2.1.length<=T.length+1:=by
 unfold headF;split
 ·have h1:=bq! (cq! (ak! T p)) ps [];have h2:=fl! T p;have h3:(cq! (ak! T p)).length<=(ak! T p).length:=x8! _ _;simp only[v6!]at h1;dsimp only;omega
 ·split
  ·simp
  ·split
   ·have h1:=bq! (viaOf b (ak! T ⟨p.t,p.i,a⟩)) ps [];have h2:=fl! T ⟨p.t,p.i,a⟩;have h3:(viaOf b (ak! T ⟨p.t,p.i,a⟩)).length<=(ak! T ⟨p.t,p.i,a⟩).length:=by unfold viaOf;rw[x1!];exact x8! _ _
    simp only[v6!]at h1;dsimp only;omega
   ·simp
theorem ii! (T:List Tup)(p:P3)(r:RT):∀ps,(formD T p r ps).1.named.length<=r.sz*(T.length+1):=by
 induction r using RT.ind with
 | h r ih =>
  intro ps
  have:∀(l:List RT) (qs:List P3),(∀x∈l,x∈r.ps)->(nmdL (ar! T p l qs).1).length<=szL l*(T.length+1):=by
   intro l;induction l with
   | nil=>intro qs _;simp[ar!,nmdL]
   | cons x l ihl =>
    intro qs hx;rw[ar!,nmdL,szL,u4!,Nat.add_mul];have h1:=ih x (hx x (by simp)) qs;have h2:=ihl (formD T p x qs).2 fun y hy=>hx y (u9! _ hy);omega
  have h1:=this r.ps (headF T p r.k r.a r.b ps).2.2 fun _ h=>h;have h2:=jV! T p r.k r.a r.b ps;rw[bB!];simp only;rw[FT.named_eq,u4!];obtain⟨k,a,b,a0⟩:=r;rw[RT.sz,Nat.add_mul];simp only[FT.refs,FT.ps,RT.k,RT.a,RT.b,RT.ps]at h1 h2 ⊢;omega
theorem ee! {ts:List TyS}{T:List Tup}{M:Nat}(h:∀x∈ac! ts,x.2.sz*(T.length+1)<=M)(shut:List R2)(p:P3):∀n,(nmdL (walkN ts T shut p n).2).length<=n*M
 | 0=>by simp[walkN,nmdL]
 | n+1=>by
  have ih:=ee! h shut p n;rw[walkN];simp only;rw[bs!,u4!,Nat.add_mul]
  have h2:(nmdL [(stepG ts T shut ((walkN ts T shut p n).1.getD n p) (walkN ts T shut p n).1).1]).length<=M:=by
   rw[nmdL,nmdL,List.append_nil];unfold stepG;split
   ·next r hr =>
    unfold bb! at hr;split at hr
    ·cases hr
    ·exact n6! (ii! T _ r _) (h _ (aD! hr))
   ·simp[FT.zero,FT.named,nmdL]
  omega
def aC (p s:P3):Array Value:=#[.string p.t,.string p.i,.string p.r,.string s.t,.string s.i,.string s.r]
def px! (ts:List TyS)(T:List Tup)(shut:List R2)(p s:P3)(most:Int)(e:Ending):Prop :=
 (∃n b,qa! ts T shut p most n/\e= .returned (.tuple #[.bool b,.int .i64 0])/\(b=true↔0<(aR! (walkN ts T shut p n).2 s n).getD 0 0))\/(bl! ts T shut p most/\e= .returned (.tuple #[.bool false,.int .i64 10]))
structure HasArg (ts:List TyS)(T:List Tup)(shut:List R2)(p:P3):Prop where
 ok:∀t∈ts,t.Ok
 chk:chk06 ts=0
 bk:schB ts<=549755813888
 sz:∀t∈ts,∀r∈t.rels,r.2.sz<=1000000
 nms:(al! ts).length<=1099511627776
 rfs:(ac! ts).length<=1099511627776
 sho:∀r∈shut,r.Ok
 wk:gD! ts T shut p 1000000
 rm:∀x∈ac! ts,x.2.sz*(T.length+1)<=1000000
theorem nQ! (ts:List TyS)(tv:Value)(b:Nat)(T:List Tup)(shut:List R2)(sv:Value)(p s:P3)(most:Int)(w:World)(h:pY! (· < w.heap.size) w ts tv)(hA:HasArg ts T shut p)(hbk:pP! w b T)(hsv:Sl (· < w.heap.size) w 2 sv (shut.flatMap r2C)) :
  Calls prog 36 #[.agg #[tv],bkV b,sv,.agg (aC p s),.int .i64 most] w fun e w'=>px! ts T shut p s most e/\Ext w w':=by
 have HA:=h! hA;obtain⟨ao,c,rfl,-⟩:=h.rows;obtain⟨so,sc,rfl,-⟩:=Sl.rows aO! (by decide) hsv;obtain⟨I,i⟩:=e! (w.alloc (.cells #[.slice ao ts.length c] 26));obtain⟨y,l⟩:=e! (I.alloc (.cells (aC p s) 35));have ea:I.heap.size=w.heap.size+1:=by rw[i];simp
 have xa:Ext w I:=xa! i
 have xb:Ext I y:=xa! l
 have B:Hid (Ext w y):=h! (xa.trans xb);have BS:=h! (show Blk y w.heap.size #[.slice ao ts.length c] 26 from Blk.below (bm! i) xb);have BA:=h! (show Blk y (w.heap.size+1) (aC p s) 35 from by rw[l,<-ea];exact Blk.made _ _ _);have j:=h! (gF! ts (.slice ao ts.length c) b T shut (.slice so shut.length sc) p most 1000000 y (h.up B.out) hA.ok hA.chk hA.bk hA.sz hA.nms hA.rfs (hbk.ext B.out) ((hsv.same (Same.below B.out)).mono fun _ hb=>n1! hb B.out.size) hA.sho hA.wk);have hS:=BS.out.cells;have u:=BA.out.cells;clear h hbk hsv hA ea xa xb;unfold pV at j;unfold aC at *;subst l i;go_enter func36,ntmps36
 go_wp2_with fail
 refine j.out.mono ?_;rintro e D ⟨A,⟨n,pv,fv,d,rfl,f⟩|⟨r,rfl⟩⟩
 case' inr =>
  have C:=h! r;have J:Hid (Ext w (D.alloc (.cells #[.slice none 0 0,.slice none 0 0] 96))):=h! (Ext.trans B.out (Ext.trans A (Ext.alloc _ _)));clear A r j hS u;go_wp2_with fail
  go_ret2
  exact⟨.inr ⟨C.out,rfl⟩,J.out⟩
 case' inl =>
  obtain⟨G,F,E,H,rfl,rfl,-⟩:=f.rows;have HE:=h! d;have C:=h! (show(walkN ts T shut p n).1.length=n from d.2.symm);have x:=h! (show(walkN ts T shut p n).2.length=n from aF! ts T shut p n);have HN:=h! (show n<=1000000 from by have:=HA.out.wk.few n;rw[C.out]at this;exact this)
  have a2:=h! (show(nmdL (walkN ts T shut p n).2).length<=1000000000000 from by
   have h1:=ee! HA.out.rm shut p n;have h2:n*1000000<=1000000*1000000:=y7! _ HN.out;omega)
  have a:=h! (show 0<n from by
   have h2:=d.2;have:=de! ts T shut p (v1! n);rw[<-h2,walkN]at this;simp at this;omega)
  rw[C.out,x.out]at f ⊢;generalize (walkN ts T shut p n).1=ps at *;generalize hfs:(walkN ts T shut p n).2=fs at *;have a0:=h! hfs;clear hfs;have J:=h! (Ext.alloc D (.cells #[.slice G n F,.slice E n H] 96));have o:=h! (iH! s ps fs (.slice G n F) (.slice E n H) _ ((f.same (w':=D.alloc (.cells #[.slice G n F,.slice E n H] 96)) fun b hb=>J.out.block b hb.2).mono fun b hb=>n1! hb.2 J.out.size) (by rw[C.out];exact HN.out) (by rw[x.out];exact HN.out) a2.out);have XW:Hid (Ext w (D.alloc (.cells #[.slice G n F,.slice E n H] 96))):=h! (Ext.trans B.out (Ext.trans A J.out));have a3:=(BA.out.below (Ext.trans A J.out)).cells;have hG:=(Blk.made D #[.slice G n F,.slice E n H] 96).cells;clear A f d j hS u;unfold pV at o;go_wp2_with fail
  clear hG a3;refine o.out.mono ?_;rintro e w3 ⟨⟨v,rfl,ho⟩,t⟩;have X3:Hid (Ext w w3):=h! (Ext.trans XW.out t);have k:=h! (show(aR! fs s n).length=n from aK! n);rw[C.out]at ho
  obtain⟨g,c3,cs,rfl,-,hB,-,-,q⟩:=ho.lay (by
   intro e;have:=congrArg List.length e;rw[ad!,k.out,v6!]at this;have:=a.out;omega)
  have c0:w3.cell? ⟨g,0,none⟩=some (.int .i64 ((aR! fs s n).getD 0 0)):=by
   have h1:0<(ic (aR! fs s n)).length:=by rw[ad!,k.out];exact a.out
   rw[hB.cells 0,q 0 h1];simp only[ic,List.getElem_map];rw[n8!,n4! (by rw[k.out];exact a.out)];rfl
  have a4:(0:Int)<(((ic (aR! fs s n)).length:Nat):Int):=by rw[ad!,k.out];have:=a.out;omega
  have a1:0<(ic (aR! fs s n)).length:=by omega
  clear t ho hB q o;generalize (ic (aR! fs s n)).length=m at *;obtain⟨z,hz⟩:∃z,Hid ((aR! fs s n).getD 0 0=z):=⟨_,h! rfl⟩;rw[hz.out]at c0;go_wp2_with fail
  go_ret2
  refine⟨.inl ⟨n,_,HE.out,rfl,?_⟩,X3.out⟩;rw[a0.out,hz.out];simp
theorem eX! {ts:List TyS}(h:chk06 ts=0) {p:R2 × RT}(hp:p∈ac! ts):p.2.textOk 0=true:=by
 have h0:br! ts=true:=by
  unfold chk06 at h;split at h
  ·assumption
  ·cases h
 obtain⟨t,ht,r,hr,rfl⟩:=aY!.1 hp;have h1:=u8!.1 h0 t ht;unfold tyOk at h1;rw[v0!]at h1;have h2:=u8!.1 h1.2 r hr;unfold relOk at h2;simp only[v0!]at h2;exact h2.1.1
def SubL (ts:List TyS)(T:List Tup)(shut:List R2)(p:P3)(typ:ByteArray)(l:List O2):Prop:=UpO l/\∀o,o∈l↔o.t=typ/\Den ts T shut (oS o) p
def kE! (ts:List TyS)(T:List Tup)(shut:List R2)(p:P3)(typ:ByteArray)(most:Int)(ok long:Value)(e:Ending)(w':World):Prop :=
 (∃n v l,qa! ts T shut p most n/\e= .returned (.tuple #[v,ok])/\Sl (· < w'.heap.size) w' 2 v (ocs l)/\SubL ts T shut p typ l)\/(bl! ts T shut p most/\e= .returned (.tuple #[.slice none 0 0,long]))
theorem qa!.pos {ts:List TyS}{T:List Tup}{shut:List R2}{p:P3}{most:Int}{n:Nat}(h:qa! ts T shut p most n):0<n:=by
 have h2:=h.2;have:=de! ts T shut p (v1! n);rw[<-h2,walkN]at this;simp at this;omega
theorem fS! {ts:List TyS}{T:List Tup}{shut:List R2}{p:P3}{most:Int}{n:Nat}(h:qa! ts T shut p most n)(hc:chk06 ts=0):∀f∈(walkN ts T shut p n).2,∀s∈f.ths,∃t∈T,t.s=s :=
 fun f hf=>(h.forms (fun _x hx=>eX! hc hx) f hf).2
theorem nh! {ts:List TyS}{T:List Tup}{shut:List R2}{p:P3}{typ:ByteArray}{most:Int}{n:Nat}(h:qa! ts T shut p most n)(hc:chk06 ts=0) {A ss:List O2}(hp:ss.Perm A)(hs:SrtI ss)(hn:A.Nodup)(hA:∀o∈A,SbI typ (thsL (walkN ts T shut p n).2) o)
  (hd:∀o,SbI typ (thsL (walkN ts T shut p n).2) o->(o∈A↔0<(aR! (walkN ts T shut p n).2 (oS o) n).getD 0 0)):SubL ts T shut p typ ss:=by
 refine⟨iu! (fun o ho=>(hA o (hp.mem_iff.1 ho)).2) hs (hp.nodup_iff.2 hn),fun o=>?_⟩;rw[hp.mem_iff,h.den_iff (oS o)];constructor
 ·exact fun ho=>⟨(hA o ho).2,(hd o (hA o ho)).1 ho⟩
 ·rintro⟨ht,h0⟩;obtain⟨f,hf,hs⟩:=jP! h (fun x hx=>eX! hc hx) h.pos h0;exact(hd o ⟨bv!.2 ⟨f,hf,hs⟩,ht⟩).2 h0
theorem dx! (ts:List TyS)(tv:Value)(b:Nat)(T:List Tup)(shut:List R2)(sv:Value)(p:P3)(typ:ByteArray)(most:Int)(w:World)(h:pY! (· < w.heap.size) w ts tv)(hA:HasArg ts T shut p)(hbk:pP! w b T)(hsv:Sl (· < w.heap.size) w 2 sv (shut.flatMap r2C)) :
  Calls prog 60 #[.agg #[tv],bkV b,sv,pV p,.string typ,.int .i64 most] w fun e w'=>kE! ts T shut p typ most (.int .i64 0) (.int .i64 10) e w'/\Ext w w':=by
 have HA:=h! hA;obtain⟨ao,c,rfl,-⟩:=h.rows;obtain⟨so,sc,rfl,-⟩:=Sl.rows aO! (by decide) hsv;obtain⟨M,u⟩:=e! (w.alloc (.cells #[.slice ao ts.length c] 26));obtain⟨R,y⟩:=e! (M.alloc (.cells #[.string p.t,.string p.i,.string p.r] 32));have ea:M.heap.size=w.heap.size+1:=by rw[u];simp
 have xa:Ext w M:=xa! u
 have xb:Ext M R:=xa! y
 have U:Hid (Ext w R):=h! (xa.trans xb);have BS:=h! (show Blk R w.heap.size #[.slice ao ts.length c] 26 from Blk.below (bm! u) xb);have BA:=h! (show Blk R (w.heap.size+1) #[.string p.t,.string p.i,.string p.r] 32 from by rw[y,<-ea];exact Blk.made _ _ _);have z:=h! (kJ! ts (.slice ao ts.length c) b T shut (.slice so shut.length sc) p most 1000000 R (h.up U.out) hA.ok hA.chk hA.bk hA.sz hA.nms hA.rfs (hbk.ext U.out) ((hsv.same (Same.below U.out)).mono fun _ hb=>n1! hb U.out.size) hA.sho hA.wk);have hS:=BS.out.cells;have D:=BA.out.cells;clear h hbk hsv hA ea xa xb;unfold pV at *;subst y u;go_enter func60,ntmps60
 go_wp2_with fail
 refine z.out.mono ?_;rintro e J ⟨I,ps,fs,po,pc,K,fc,ev,⟨n,m,rfl,rfl,rfl⟩|⟨E,rfl,rfl,rfl⟩,rfl,x⟩
 case' inr =>
  have V:=h! E;have Z:Hid (Ext w (J.alloc (.cells #[.slice po 0 pc,.slice K 0 fc] 96))):=h! (Ext.trans U.out (Ext.trans I (Ext.alloc _ _)));clear I E z hS D x;go_wp2_with fail
  go_ret2
  exact⟨.inr ⟨V.out,rfl⟩,Z.out⟩
 case' inl =>
  have HE:=h! m;have V:=h! (show(walkN ts T shut p n).1.length=n from m.2.symm);have HN:=h! (show n<=1000000 from by have:=HA.out.wk.few n;rw[V.out]at this;exact this);have Z:=h! (Ext.alloc J (.cells #[.slice po (walkN ts T shut p n).1.length pc,.slice K (walkN ts T shut p n).2.length fc] 96));have G:=h! (iG! _ _ _ _ typ _ ((x.same (w':=J.alloc (.cells #[.slice po (walkN ts T shut p n).1.length pc,.slice K (walkN ts T shut p n).2.length fc] 96)) fun b hb=>Z.out.block b hb.2).mono fun b hb=>n1! hb.2 Z.out.size) (fun f hf s Q=>by obtain⟨t,ht,rfl⟩:=fS! m HA.out.chk f hf s Q;exact HA.out.wk.tok t ht) (by rw[V.out];have:=HN.out;omega));have XW:Hid (Ext w (J.alloc (.cells #[.slice po (walkN ts T shut p n).1.length pc,.slice K (walkN ts T shut p n).2.length fc] 96))):=h! (Ext.trans U.out (Ext.trans I Z.out));have hG:=(Blk.made J #[.slice po (walkN ts T shut p n).1.length pc,.slice K (walkN ts T shut p n).2.length fc] 96).cells;clear I x m z hS D;go_wp2_with fail
  clear hG;refine G.out.mono ?_;rintro e w3 ⟨iv,rfl,N,L,d,g,j,k,a,F⟩;have X3:Hid (Ext w w3):=h! (Ext.trans XW.out F);rw[V.out]at j a;have l:0<L.length:=by rw[j];exact HE.out.pos
  have B:0<N.length:=by rw[g.len];exact l
  obtain⟨io,nn,c3,rfl,-⟩:=d.len;obtain⟨rfl,C⟩:=ms_at d;obtain⟨b0,a0,rfl,a1,c0⟩:=C 0 B;have q:=g.sets 0 B l
  have a3:=h! (show L[0].length<=549755813888 from by
   have h1:=gR! (T:=T) (OS.nodup q) fun o Y=>by
    obtain⟨h2,-⟩:=k _ (n5! l) o Y;obtain⟨f,hf,Q⟩:=bv!.1 h2;obtain⟨t,ht,e⟩:=fS! HE.out HA.out.chk f hf _ Q;exact⟨t,ht,.inr (by rw[e];rfl)⟩
   have:=HA.out.wk.tlen;omega)
  have H:=h! (hH! N[0] L[0] w3 q a3.out)
  have a2:=h! (fun(O:List O2) (X:O.Perm L[0]) (Q:SrtI O)=>nh! (typ:=typ) HE.out HA.out.chk X Q (OS.nodup q) (k _ (n5! l)) fun o Y=>by
   have h1:=a o Y 0 HE.out.pos;rwa[hg! l]at h1)
  have a5:(0:Int)<(N.length:Int):=by omega
  rw[Nat.add_zero]at c0;generalize N[0]=m0 at *;generalize L[0]=A0 at *;clear F d g j k a C a1 q G;go_wp2_with fail
  refine H.out.mono ?_;rintro e w4 ⟨v,O,rfl,X,Q,Y,A⟩;have a4:=h! (a2.out O X Q);have HO:=h! Y.slU;have X4:Hid (Ext w w4):=h! (Ext.trans X3.out A);obtain⟨vo,vn,vc,rfl,-⟩:=Y.sl.len;clear X Q Y A H c0;go_wp2_with fail
  go_ret2
  exact⟨.inl ⟨n,_,O,HE.out,rfl,HO.out,a4.out⟩,X4.out⟩
end Go.Proofs.YtlhaghoajpglaaaGreat
namespace Go.Proofs.YtlhaghoajpglaaaGreat
open Go Go.RowKit Go.Maps Go.Proofs.Tryz
open Classical in
noncomputable def denB (ts:List TyS) (T:List Tup) (shut:List R2) (s:P3) (rr:ByteArray) (o:O2):Bool:=decide (Den ts T shut s ⟨o.t,o.i,rr⟩)
theorem kk! {ts:List TyS}{T:List Tup}{shut:List R2}{s:P3}{rr:ByteArray}{o:O2}:denB ts T shut s rr o=true↔Den ts T shut s ⟨o.t,o.i,rr⟩:=by unfold denB;simp
def or! (T:List Tup)(typ:ByteArray)(l:List O2):Prop:=UpO l/\∀o,o∈l↔o.t=typ/\ObjIn T o
theorem UpO.nodup {l:List O2}(h:UpO l):l.Nodup:=List.Pairwise.imp (fun {a b} h e=>by
 rw[e]at h;have:=cC! (oS b);unfold ltO at h;rw[this]at h;cases h) h
def kF! (ts:List TyS)(T:List Tup)(shut:List R2)(rt rr:ByteArray)(s:P3)(most:Int)(ok long:Value)(e:Ending)(w':World):Prop :=
 ∃l,or! T rt l/\((∃v,(∀o∈l,∃n,qa! ts T shut ⟨o.t,o.i,rr⟩ most n)/\e= .returned (.tuple #[v,ok])/\Sl (· < w'.heap.size) w' 2 v (ocs (l.filter (denB ts T shut s rr)))) \/
  ((∃o∈l,bl! ts T shut ⟨o.t,o.i,rr⟩ most)/\e= .returned (.tuple #[.slice none 0 0,long])))
theorem gh! (ts:List TyS)(tv sv mv:Value)(rt rr:ByteArray)(s:P3)(w:World)(h:pY! (· < w.heap.size) w ts tv)(hok:∀t∈ts,t.Ok)(hc:chk06 ts=0)(hsB:schB ts<=549755813888)(hsz:∀t∈ts,∀r∈t.rels,r.2.sz<=1000000)(hln:(al! ts).length<=1099511627776)(hlr:(ac! ts).length<=1099511627776) :
  Calls prog 63 #[.agg #[tv],.nilIface,sv,r2V ⟨rt,rr⟩,pV s,mv] w fun e w'=>e= .returned (.tuple #[.slice none 0 0,.int .i64 1])/\Ext w w':=by
 obtain⟨k,c,rfl,-⟩:=h.rows;obtain⟨wa,a⟩:=e! (w.alloc (.cells #[.slice k ts.length c] 26));obtain⟨wb,d⟩:=e! (wa.alloc (.cells #[.string rt,.string rr] 121));obtain⟨j,f⟩:=e! (wb.alloc (.cells #[.string s.t,.string s.i,.string s.r] 33));have xa:Ext w wa:=xa! a
 have xb:Ext wa wb:=xa! d
 have xc:Ext wb j:=xa! f
 have XC:Hid (Ext w j):=h! (xa.trans (xb.trans xc));have CS:=h! (show Blk j w.heap.size #[.slice k ts.length c] 26 from Blk.below (bm! a) (xb.trans xc));have CT:=h! (h.up XC.out)
 have g:=h! (show Calls prog 74 #[.agg #[.slice k ts.length c]] j fun e w'=>e= .returned (.int .i64 0)/\Below j.heap.size j w' from by
  have h1:=cF! ts (.slice k ts.length c) j CT.out hok hsB hsz hln hlr;rw[hc]at h1;exact h1)
 clear h hok hc hsB hsz hln hlr xa xb xc;subst f d a;have a0:=CS.out.cells;unfold pV r2V;go_enter func63,ntmps63
 go_wp2_with fail
 refine g.out.mono ?_;rintro e w2 ⟨rfl,b⟩;have X2:Hid (Ext w w2):=h! (XC.out.trans b);clear a0 g b XC CS CT;go_wp2_with fail
 go_ret2
 exact⟨rfl,X2.out⟩
theorem hR! (ts:List TyS)(tv:Value)(b:Nat)(T:List Tup)(shut:List R2)(sv:Value)(rt rr:ByteArray)(s:P3)(most:Int)(w:World)(h:pY! (· < w.heap.size) w ts tv)(hA:∀o,o.t=rt->ObjIn T o->HasArg ts T shut ⟨o.t,o.i,rr⟩)
  (hok:∀t∈ts,t.Ok) (hc:chk06 ts=0) (hsB:schB ts<=549755813888) (hsz:∀t∈ts,∀r∈t.rels,r.2.sz<=1000000) (hln:(al! ts).length<=1099511627776) (hlr:(ac! ts).length<=1099511627776) (hrt:rt.size<=maxLen) (hT:T.length<=1000000) (hbk:pP! w b T) (hsv:Sl (· < w.heap.size) w 2 sv (shut.flatMap r2C)) :
  Calls prog 63 #[.agg #[tv],bkV b,sv,r2V ⟨rt,rr⟩,pV s,.int .i64 most] w fun e w'=>kF! ts T shut rt rr s most (.int .i64 0) (.int .i64 10) e w'/\Ext w w':=by
 have HA:=h! hA;have X:=h! hT;obtain⟨ao,c,rfl,-⟩:=h.rows;obtain⟨so,sc,rfl,-⟩:=Sl.rows aO! (by decide) hsv;obtain⟨wa,B⟩:=e! (w.alloc (.cells #[.slice ao ts.length c] 26));obtain⟨wb,z⟩:=e! (wa.alloc (.cells #[.string rt,.string rr] 121));obtain⟨wc,K⟩:=e! (wb.alloc (.cells #[.string s.t,.string s.i,.string s.r] 33));have ea:wa.heap.size=w.heap.size+1:=by rw[B];simp
 have eb:wb.heap.size=w.heap.size+2:=by rw[z];simp[ea]
 have xa:Ext w wa:=xa! B
 have xb:Ext wa wb:=xa! z
 have xc:Ext wb wc:=xa! K
 have XC:Hid (Ext w wc):=h! (xa.trans (xb.trans xc));have CS:=h! (show Blk wc w.heap.size #[.slice ao ts.length c] 26 from Blk.below (bm! B) (xb.trans xc));have CR:=h! (show Blk wc (w.heap.size+1) #[.string rt,.string rr] 121 from Blk.below (by rw[z,<-ea];exact Blk.made _ _ _) xc);have CU:=h! (show Blk wc (w.heap.size+2) #[.string s.t,.string s.i,.string s.r] 33 from by rw[K,<-eb];exact Blk.made _ _ _);have CT:=h! (h.up XC.out);have CB:=h! (hbk.ext XC.out);have CV:=h! ((hsv.same (Same.below XC.out)).mono fun _ hb=>n1! hb XC.out.size)
 have a1:=h! (show Calls prog 74 #[.agg #[.slice ao ts.length c]] wc fun e w'=>e= .returned (.int .i64 0)/\Below wc.heap.size wc w' from by
  have h1:=cF! ts (.slice ao ts.length c) wc CT.out hok hsB hsz hln hlr;rw[hc]at h1;exact h1)
 have a8:=h! hrt;clear h hok hc hsB hsz hln hlr xa xb xc hA hT hbk hsv hrt ea eb;subst K z B;have a4:=CS.out.cells;unfold pV r2V;go_enter func63,ntmps63
 go_wp2_with fail
 refine a1.out.mono ?_;rintro e w2 ⟨rfl,A⟩;have M:=h! (CR.out.below A);have a7:=M.out.cells;have X2:Hid (Ext _ w2):=h! A;have N:=h! (gA! b T rt w2 a8.out (CB.out.ext A) X.out);clear a4 a1 A;go_wp2_with fail
 refine N.out.mono ?_;rintro e w3 ⟨v,l,rfl,ho,I,hm,a⟩;have HL:Hid (or! T rt l):=h! ⟨I,hm⟩
 have R:=h! (show l.length<=2000000 from by
  have h1:=gR! (T:=T) I.nodup fun o ho=>((hm o).1 ho).2;have:=X.out;omega)
 have a2:Hid (Ext w w3):=h! (XC.out.trans (X2.out.trans a));have KS:=h! (CS.out.below (X2.out.trans a));have KR:=h! (M.out.below a);have KU:=h! (CU.out.below (X2.out.trans a));have KT:=h! (CT.out.up (X2.out.trans a));have KB:=h! (CB.out.ext (X2.out.trans a));have KV:=h! ((CV.out.same (Same.below (X2.out.trans a))).mono fun _ hb=>n1! hb (X2.out.trans a).size);obtain⟨vo,vc,rfl,-,-,f⟩:=Sl.rows aC! (by decide) (show Sl _ w3 2 v (l.flatMap oC)from ho.slU);have a6:=h! f;clear ho I hm a f N a7 X2 M CS CR CU CT CB CV XC;go_wp2_with fail
 obtain⟨sb,Y⟩:∃x,Hid (x=w.heap.size):=⟨_,h! rfl⟩;obtain⟨rb,Z⟩:∃x,Hid (x=w.heap.size+1):=⟨_,h! rfl⟩;obtain⟨ub,O⟩:∃x,Hid (x=w.heap.size+1+1):=⟨_,h! rfl⟩;have KS:=h! (show Blk w3 sb _ _ from by rw[Y.out];exact KS.out);have KR:=h! (show Blk w3 rb _ _ from by rw[Z.out];exact KR.out);have KU:=h! (show Blk w3 ub _ _ from by rw[O.out];exact KU.out);rw[<-O.out,<-Z.out];try rw[<-Y.out]
 go_loopw [17,41] (fun ov jv wr=>∃i:Nat,i<=l.length/\jv= .int .i64 i/\Own wr w3.heap.size 30 2 ov (ocs ((l.take i).filter (denB ts T shut s rr)))/\(∀o∈l.take i,∃n,qa! ts T shut ⟨o.t,o.i,rr⟩ most n)/\Ext w3 wr) (fun _ jv _=>l.length-(intOf jv).toNat)
 case atStart=>exact⟨0,v1! _,rfl,by simpa [ocs] using Own.nil w3 w3.heap.size 30 2,(by simp),Ext.refl _⟩
 case round =>
  obtain⟨i,hi,rfl,p,q,hx⟩:=hrel;have HO:=h! p;have g:=h! q;have HX:=h! hx;clear p q hx;by_cases hlt:i<l.length
  ·have G:=h! (n2! hlt)
   have a0:=h! (show((l.take i).filter (denB ts T shut s rr)).length<=2000000 from by
    have h1:=x8! (denB ts T shut s rr) (l.take i);rw[x4!]at h1;have:=R.out;omega)
   have k:=h! ((HL.out.2 l[i]).1 (n5! hlt));have ab:=h! (n5! hlt);obtain⟨b2,j,rfl,af,J⟩:=a6.out (by omega);have d0:=Ext.cell HX.out (J i hlt 0 _ rfl);have d1:=Ext.cell HX.out (J i hlt 1 _ rfl);have u:=h! hlt;have C:=h! (show wrap64 ((i:Int)+1)=((i+1:Nat):Int)from by have:=R.out;unfold wrap64;omega);have ag:(i:Int)<(l.length:Int):=by omega
   clear J af;generalize l[i]=o at *;clear hlt;obtain⟨ot,oi⟩:=o;dsimp only at d0 d1;have d0:wr.cell? ⟨b2,j+i*2,none⟩=some (.string ot):=d0;have d1:wr.cell? ⟨b2,j+i*2+1,none⟩=some (.string oi):=d1;have X4:=Ext.alloc wr (.cells #[.string ot,.string oi] 30);have BO:=h! (Blk.made wr #[.string ot,.string oi] 30);have d:Hid (Ext w3 _):=h! (HX.out.trans X4);have V:=h! (HO.out.below X4);have y:=h! (nQ! ts (.slice ao ts.length c) b T shut (.slice so shut.length sc) ⟨ot,oi,rr⟩ s most _ (KT.out.up d.out) (HA.out ⟨ot,oi⟩ k.out.1 k.out.2) (KB.out.ext d.out) ((KV.out.same (Same.below d.out)).mono fun _ hb=>n1! hb d.out.size));unfold aC at y;have c1:=(KS.out.below d.out).cells;have c2:=(KR.out.below d.out).cells;have c3:=(KU.out.below d.out).cells;have c4:=BO.out.cells;clear X4;go_wp2_with fail
   clear c1 c2 c3 c4 d0 d1;obtain⟨w4,F⟩:=e! (wr.alloc (.cells #[.string ot,.string oi] 30));rw[<-F]at BO d V y;try rw[<-F]
   clear F;refine y.out.mono ?_;rintro e w5 ⟨hs,D⟩;have E:Hid (Ext w3 w5):=h! (d.out.trans D);have H:=h! (V.out.below D);have ad:=h! (BO.out.below D);have c5:=ad.out.cells;clear D y;rcases hs with⟨n,bb,hwe,rfl,hbb⟩|⟨hlong,rfl⟩
   case' inr =>
    have ae:Hid (∃o∈l,bl! ts T shut ⟨o.t,o.i,rr⟩ most):=h! ⟨_,ab.out,hlong⟩;have XE:Hid (Ext w w5):=h! (a2.out.trans E.out);clear hlong;go_wp2_with fail
    go_ret2
    exact⟨⟨l,HL.out,.inr ⟨ae.out,rfl⟩⟩,XE.out⟩
   case' inl =>
    have U:=h! (show denB ts T shut s rr ⟨ot,oi⟩=bb from by rw[Bool.eq_iff_iff,kk!,hbb];exact hwe.den_iff s)
    have Q:=h! (show ∀o∈l.take (i+1),∃n,qa! ts T shut ⟨o.t,o.i,rr⟩ most n from fun o ho=>by
     rw[G.out]at ho;rcases u3!.1 ho with ho | ho
     ·exact g.out o ho
     ·rw[n9!.1 ho];exact⟨n,hwe⟩)
    clear hwe hbb;cases bb with
    | false =>
     have a5:=h! (show Own w5 w3.heap.size 30 2 u17 (ocs ((l.take (i+1)).filter (denB ts T shut s rr)))from by
      rw[G.out,List.filter_append,List.filter_cons_of_neg (by rw[U.out];decide)];simpa using H.out)
     go_wp2_with fail
     go_roundw
     case rel=>exact⟨i+1,u.out,by first | rw[C.out] | go_num,a5.out,Q.out,E.out⟩
     case measure=>have:=u.out;(try rw[C.out]);simp[intOf];omega
    | true =>
     have X6:=Ext.alloc w5 (.cells #[.string ot,.string oi] 30);have a3:=h! (H.out.below X6);have L:Hid (Ext w3 _):=h! (E.out.trans X6);obtain⟨uo,un,uc,rfl,-⟩:=H.out.sl.len;clear X6;go_wp2_with (at_builtin;go_must (refine aE! aM! rfl (.tmp 63) (.tmp 65) rfl rfl a3.out rfl (m:=1) (news:=[.string ot,.string oi]) rfl (dT! _ _ _ _) (by simp[Value.oneCell']) (by have:=a0.out;rw[aa!];simp at *;omega) (by have:=a0.out;rw[aa!];simp at *;omega) (by have:=L.out.size;omega) ?_;intro v6 w6 hown6 hb6 hg6;have aa:=h! (show Own w6 w3.heap.size 30 2 v6 (ocs ((l.take (i+1)).filter (denB ts T shut s rr)))from by(rw[G.out,List.filter_append,List.filter_cons_of_pos U.out,aP!];simpa [ocs,oC] using hown6));have ac:Hid (Ext w3 w6):=h! (be! L.out a3.out hg6 L.out.size);clear hown6 hb6 hg6))
     go_roundw
     case rel=>exact⟨i+1,u.out,by first | rw[C.out] | go_num,aa.out,Q.out,ac.out⟩
     case measure=>have:=u.out;(try rw[C.out]);simp[intOf];omega
  ·obtain rfl:i=l.length:=by omega
   rw[u2!]at g HO;have XE:Hid (Ext w wr):=h! (a2.out.trans HX.out);have a9:=h! HO.out.slU;obtain⟨uo,un,uc,rfl,-⟩:=HO.out.sl.len;clear hlt hi;go_wp2_with fail
   go_ret2
   exact⟨⟨l,HL.out,.inl ⟨_,g.out,rfl,a9.out⟩⟩,XE.out⟩
end Go.Proofs.YtlhaghoajpglaaaGreat
namespace Go.Proofs.YtlhaghoajpglaaaGreat
open Go Go.RowKit Go.Maps Go.Proofs.Tryz
theorem fh! {S:Nat->Prop}{w:World}{v:Value}{l:List Tup}(h:Sl S w 6 v (tuCs l)) :
  ∃ao c,v= .slice ao l.length c/\l.length<=c/\c<=9223372036854775807/\∀i (hi:i<l.length),∃b off,ao=some ⟨b,off,none⟩/\S b /\
   w.cell? ⟨b,off+i*6,none⟩=some (.string l[i].o.t)/\w.cell? ⟨b,off+i*6+1,none⟩=some (.string l[i].o.i)/\w.cell? ⟨b,off+i*6+2,none⟩=some (.string l[i].o.r) /\
   w.cell? ⟨b,off+i*6+3,none⟩=some (.string l[i].s.t)/\w.cell? ⟨b,off+i*6+4,none⟩=some (.string l[i].s.i)/\w.cell? ⟨b,off+i*6+5,none⟩=some (.string l[i].s.r):=by
 obtain⟨ao,c,rfl,h1,h2,a⟩:=Sl.rows at! (by decide) (show Sl S w 6 v (l.flatMap tuC)from h);refine⟨ao,c,rfl,h1,h2,fun i hi=>?_⟩;obtain⟨b,off,rfl,hb,a⟩:=a (by omega);exact⟨b,off,rfl,hb,a i hi 0 _ rfl,a i hi 1 _ rfl,a i hi 2 _ rfl,a i hi 3 _ rfl,a i hi 4 _ rfl,a i hi 5 _ rfl⟩
def cN! (t:Tup):Bool:=decide (t.o.t.size<=100)&&decide (t.o.i.size<=100)&&decide (t.o.r.size<=100)&&decide (t.s.t.size<=100)&&decide (t.s.i.size<=100)&&decide (t.s.r.size<=100)
def fewL (l:List Tup):Bool:=l.all (fun a=>cN! a)&&decide (l.length<=40)
theorem nZ! {l:List Tup}{i:Nat}(hi:i<l.length)(h:cN! l[i]=false):fewL l=false:=by
 unfold fewL;rw[Bool.and_eq_false_iff];left
 rw[List.all_eq_false];exact⟨l[i],n5! hi,by simp[h]⟩
theorem nY! {l:List Tup}(h:∀j (hj:j<l.length),j<l.length->cN! l[j]=true):fewL l=decide ((l.length:Int)<=40):=by
 unfold fewL;rw[show l.all (fun a=>cN! a)=true from ?_,Bool.true_and]
 ·by_cases h:l.length<=40
  ·rw[v2! h,v2! (by omega)]
  ·rw[v3! h,v3! (by omega)]
 ·rw[u8!];intro x hx;obtain⟨j,hj,rfl⟩:=u0! hx;exact h j hj hj
theorem nX! {l:List Tup}(h:fewL l=true):l.length<=40:=by
 unfold fewL at h;simp only[v0!,u1!]at h;exact h.2
theorem fF! (a b:O2)(w:World):Calls prog 183 #[oV a,oV b] w fun e w'=>e= .returned (.bool (ltO a b))/\Below w.heap.size w w':=by
 obtain⟨at_,d⟩:=a;obtain⟨f,c⟩:=b;have hb:Below w.heap.size w ((w.alloc (.cells #[.string at_,.string d] 30)).alloc (.cells #[.string f,.string c] 30)):=((Below.refl _ _).alloc (n0! _) _).alloc (by simp) _;have hA:=((Blk.made w #[.string at_,.string d] 30).alloc (.cells #[.string f,.string c] 30)).cells;unfold oV;dsimp only;by_cases h1:at_=f
 ·subst h1;have HV:=h! (show Op.bytesLess d.toList c.toList=ltO ⟨at_,d⟩ ⟨at_,c⟩from by rw[lv!];simp[ltS]);go_enter func183,ntmps183
  go_wp2_with fail
  go_ret
  exact⟨congrArg (fun b=>Ending.returned (.bool b)) HV.out,hb⟩
 ·have HV:=h! (show Op.bytesLess at_.toList f.toList=ltO ⟨at_,d⟩ ⟨f,c⟩from by rw[lv!];simp[ltS,h1]);have hn:=aH! h1;rw[<-u5!,<-u5!]at hn;clear h1;go_enter func183,ntmps183
  go_wp2_with fail
  go_ret
  exact⟨congrArg (fun b=>Ending.returned (.bool b)) HV.out,hb⟩
theorem pH! (a b:O2)(W:World):(binOp BinOp.neq 30 (oV a) (oV b)).run prog W= .ok (.bool (decide (a≠b))) W:=by
 obtain⟨a1,a2⟩:=a;obtain⟨b1,b2⟩:=b;unfold oV;dsimp only;go_simp;simp only[bc!];by_cases h1:a1=b1 <;> by_cases h2:a2=b2 <;> simp[h1,h2]
theorem lu! {a b:O2}(h:ltO a b=false)(hne:a≠b):ltO b a=true:=cB! h fun e=>hne (lp! e)
theorem lt! {a b c:O2}(h:ltO a b=true)(k:ltO b c=true):ltO a c=true:=bA! h k
def insO (q:List O2)(k:Nat)(p:O2):List O2:=q.take k++[p]++q.drop k
theorem jL! (q:List O2)(k:Nat)(p x:O2):x∈insO q k p↔x∈q\/x=p:=by
 unfold insO;conv=>rhs;rw[<-x6! k q]
 simp only[u3!,n9!];constructor
 ·rintro((h | h) | h)
  ·exact .inl (.inl h)
  ·exact .inr h
  ·exact .inl (.inr h)
 ·rintro((h | h) | h)
  ·exact .inl (.inl h)
  ·exact .inr h
  ·exact .inl (.inr h)
theorem mG! {q:List O2}{k:Nat}{p:O2}(hq:UpO q)(h1:∀j (hj:j<q.length),j<k->ltO q[j] p=true)(h2:∀hk:k<q.length,ltO p q[k]=true):UpO (insO q k p):=by
 have hq':(q.take k++q.drop k).Pairwise fun a b=>ltO a b=true:=by rw[x6!];exact hq
 obtain⟨ha,hb,a0⟩:=List.pairwise_append.1 hq'
 have a2:∀x∈q.take k,ltO x p=true:=fun x hx=>by
  obtain⟨j,hj,rfl⟩:=u0! hx;rw[x4!]at hj;rw[List.getElem_take];exact h1 j (by omega) (by omega)
 have a1:∀x∈q.drop k,ltO p x=true:=fun x hx=>by
  obtain⟨j,hj,rfl⟩:=u0! hx;rw[List.length_drop]at hj;rw[List.getElem_drop];have hk:k<q.length:=by omega
  rcases Nat.eq_zero_or_pos j with rfl | hj0
  ·exact h2 hk
  ·exact lt! (h2 hk) ((x3!.1 hq) k (k+j) hk (by omega) (by omega))
 unfold insO UpO;rw[y6!,List.pairwise_append];refine⟨ha,?_,fun x hx y hy=>?_⟩
 ·rw[List.singleton_append,List.pairwise_cons];exact⟨a1,hb⟩
 ·rcases u3!.1 hy with hy | hy
  ·obtain rfl:y=p:=by simpa using hy
   exact a2 x hx
  ·exact a0 x hx y hy
theorem aG! (q:List O2)(k:Nat)(p:O2):(insO q k p).length=q.length+1:=by
 unfold insO;have:=congrArg List.length (x6! k q);simp only[u4!,List.length_singleton]at this ⊢;omega
theorem kG! {l:List Tup}{i:Nat}(hi:i<l.length)(o:O2):ObjIn (l.take (i+1)) o↔ObjIn (l.take i) o\/l[i].o.obj=o\/l[i].s.obj=o:=by
 unfold ObjIn;rw[n2! hi];constructor
 ·rintro⟨t,a,h⟩;rcases u3!.1 a with a | a
  ·exact .inl ⟨t,a,h⟩
  ·rw[n9!.1 a]at h;exact .inr h
 ·rintro(⟨t,a,h⟩ | h)
  ·exact⟨t,List.mem_append_left _ a,h⟩
  ·exact⟨_,List.mem_append_right _ (by simp),h⟩
theorem fy! (v:Value)(l:List Tup)(typ:ByteArray)(w:World)(h:Sl (· < w.heap.size) w 6 v (tuCs l))(hl:l.length<=40000) :
  Calls prog 120 #[v,.string typ] w fun e w'=>∃(v':Value) (l':List O2),e= .returned v'/\UpO l'/\(∀x,x∈l'↔x.t=typ/\ObjIn l x)/\Own w' w.heap.size 30 2 v' (ocs l')/\Below w.heap.size w w':=by
 obtain⟨ao,c,rfl,bl,bm,ag⟩:=fh! h;have HC:=h! ag;have HL:=h! hl;clear ag h hl;go_enter func120,ntmps120
 go_wp2_with fail
 go_loopw [5,13] (fun vv ii wr=>∃(i:Nat) (q:List O2),i<=l.length/\ii= .int .i64 i/\Own wr w.heap.size 30 2 vv (ocs q)/\UpO q/\(∀x,x∈q↔x.t=typ/\ObjIn (l.take i) x)/\q.length<=2*i/\Below w.heap.size w wr) (fun _ ii _=>l.length-(intOf ii).toNat)
 case atStart=>exact⟨0,[],by omega,rfl,Own.nil _ _ _ _,List.Pairwise.nil,by simp[ObjIn],by simp,Below.refl _ _⟩
 case round =>
  obtain⟨i,qA,hi,rfl,I,hup,a6,br,T⟩:=hrel;have b9:=h! hup;have aP:=h! a6;have aD:=h! I;have ab:=h! T;clear hup a6 I T;by_cases hlt:i<l.length
  ·obtain⟨b,Z,bh,hb,k0,k1,k2,k3,k4,k5⟩:=HC.out i hlt;subst bh;have d0:=(ab.out.cell (p:=⟨b,Z+i*6,none⟩) hb).trans k0;have d1:=(ab.out.cell (p:=⟨b,Z+i*6+1,none⟩) hb).trans k1;have d2:=(ab.out.cell (p:=⟨b,Z+i*6+2,none⟩) hb).trans k2;have d3:=(ab.out.cell (p:=⟨b,Z+i*6+3,none⟩) hb).trans k3;have d4:=(ab.out.cell (p:=⟨b,Z+i*6+4,none⟩) hb).trans k4;have d5:=(ab.out.cell (p:=⟨b,Z+i*6+5,none⟩) hb).trans k5;have bc:=h! (kG! hlt);have ad:=h! hlt;clear k0 k1 k2 k3 k4 k5 hb;generalize l[i]=t at *;clear hlt;obtain⟨⟨ot,oi,aK⟩,⟨st,si,sr⟩⟩:=t;dsimp only at d0 d1 d2 d3 d4 d5;obtain⟨wt,aE⟩:=e! (wr.alloc (.cells #[.string ot,.string oi,.string aK,.string st,.string si,.string sr] 67));obtain⟨wo,al⟩:=e! (wt.alloc (.cells #[.string ot,.string oi,.string st,.string si] 30));have aX:wt.heap.size=wr.heap.size+1:=by rw[aE];simp
   have xt:Ext wr wt:=xa! aE
   have xo:Ext wt wo:=xa! al
   have BT:=(show Blk wt wr.heap.size #[.string ot,.string oi,.string aK,.string st,.string si,.string sr] 67 from bm! aE).cells;have BO:=h! (show Blk wo (wr.heap.size+1) #[.string ot,.string oi,.string st,.string si] 30 from by rw[al,<-aX];exact Blk.made _ _ _);have aQ:=h! (aD.out.below (xt.trans xo));have aI:Hid (Below w.heap.size w wo):=h! (ab.out.trans (Below.mono (xt.trans xo) ab.out.size));subst al aE;clear xt xo;go_wp2_with fail
   clear d0 d1 d2 d3 d4 d5 BT;obtain⟨wo,al⟩:=e! ((wr.alloc (.cells #[.string ot,.string oi,.string aK,.string st,.string si,.string sr] 67)).alloc (.cells #[.string ot,.string oi,.string st,.string si] 30));rw[<-al]at BO aQ aI ⊢;clear al aX;obtain⟨ob,b1⟩:=e! (wr.heap.size+1);rw[<-b1]at BO ⊢;clear b1;obtain⟨QB,aC⟩:∃Q:Nat->O2->Prop,Hid (∀j x,Q j x↔x.t=typ/\(ObjIn (l.take i) x\/x∈([⟨ot,oi⟩,⟨st,si⟩]:List O2).take j)):=⟨fun j x=>x.t=typ/\(ObjIn (l.take i) x\/x∈([⟨ot,oi⟩,⟨st,si⟩]:List O2).take j),h! fun _ _=>Iff.rfl⟩;have b6:=h! (show ∀x,x∈qA↔QB 0 x from fun x=>by rw[aC.out,aP.out x];simp);go_loopw [5,24] (fun vv jj wr=>∃(j:Nat) (q:List O2),j<=2/\jj= .int .i64 j/\Own wr w.heap.size 30 2 vv (ocs q)/\UpO q/\(∀x,x∈q↔QB j x)/\q.length<=2*i+j/\Below w.heap.size w wr/\Ext wo wr) (fun _ jj _=>2-(intOf jj).toNat)
   case atStart=>exact⟨0,qA,by omega,rfl,aQ.out,b9.out,b6.out,by omega,aI.out,Ext.refl _⟩
   case round =>
    obtain⟨j,q,hj,rfl,I,hup,a6,bp,T,b3⟩:=hrel;have V:=h! hup;have ar:=h! a6;have U:=h! b3;clear hup a6 b3 aD aQ aI b6;by_cases hlt:j<2
    ·obtain⟨pt,pi,b7,d0,d1⟩:∃pt pi,([⟨ot,oi⟩,⟨st,si⟩]:List O2)[j]?=some ⟨pt,pi⟩/\wr.cell? ⟨ob,j*2,none⟩=some (.string pt)/\wr.cell? ⟨ob,j*2+1,none⟩=some (.string pi):=by
      have hc:=(BO.out.below U.out).cells;obtain rfl | rfl:j=0\/j=1:=by omega
      ·exact⟨ot,oi,rfl,hc 0,hc 1⟩
      ·exact⟨st,si,rfl,hc 2,hc 3⟩
     have an:=h! (show ∀x,QB (j+1) x↔QB j x\/(x=⟨pt,pi⟩/\pt=typ)from fun x=>by
      rw[aC.out,aC.out,List.take_add_one,b7];simp only[Option.toList_some,u3!,n9!];constructor
      ·rintro⟨h1,h2 | h2 | rfl⟩
       ·exact .inl ⟨h1,.inl h2⟩
       ·exact .inl ⟨h1,.inr h2⟩
       ·exact .inr ⟨rfl,h1⟩
      ·rintro(⟨h1,h2 | h2⟩|⟨rfl,h2⟩)
       ·exact⟨h1,.inl h2⟩
       ·exact⟨h1,.inr (.inl h2)⟩
       ·exact⟨h2,.inr (.inr rfl)⟩)
     have bo:(j:Int)<2:=by omega
     clear b7;have bq:q.length<=100000:=by have:=HL.out;have:=ad.out;omega
     obtain⟨mo,mc,rfl,bn,bs,aY⟩:=Sl.rows aC! (by decide) (show Sl _ wr 2 u5 (List.flatMap oC q)from I.sl);have aL:=h! I.shape;obtain⟨wP,aB⟩:=e! (wr.alloc (.cells #[.string pt,.string pi] 30));have ap:Blk wP wr.heap.size #[.string pt,.string pi] 30:=by rw[aB];exact Blk.made wr _ _
     have a7:Ext wr wP:=xa! aB
     have aG:=h! (show 0<q.length->∃b Z,mo=some ⟨b,Z,none⟩/\b<wr.heap.size/\∀(k:Nat) (hk:k<q.length),wr.cell? ⟨b,Z+k*2,none⟩=some (.string q[k].t)/\wr.cell? ⟨b,Z+k*2+1,none⟩=some (.string q[k].i)from fun h0=>by
      obtain⟨b,Z,h1,h2,h3⟩:=aY h0;exact⟨b,Z,h1,h2.2,fun k hk=>⟨h3 k hk 0 _ rfl,h3 k hk 1 _ rfl⟩⟩)
     have ac:=h! I;have a4:=h! ap;have aw:=h! a7;clear I aY ap a7;go_wp2_with fail
     try rw[<-aB]
     clear aB;have E:=h! T;clear T d0 d1;obtain⟨G,au⟩:=e! wr;rw[<-au]at ac a4 aw aG E U ⊢;clear au;by_cases htp:pt=typ
     rotate_left
     ·have am:=h! (show ∀x,x∈q↔QB (j+1) x from fun x=>by
       rw[an.out x,ar.out x];exact⟨.inl,fun h=>h.elim id fun h=>absurd h.2 htp⟩)
      have ai:=iD! pt typ;rw[v3! htp]at ai;have b5:=h! ai;clear htp ai;go_loopw [10] (fun ii wr=>∃k:Nat,k<=q.length/\ii= .int .i64 k/\Below wP.heap.size wP wr) (fun ii _=>q.length-(intOf ii).toNat)
      case atStart=>exact⟨0,by omega,rfl,Below.refl _ _⟩
      case round =>
       obtain⟨k,hk,rfl,a9⟩:=hrel;have ak:=h! (aw.out.trans a9);have bj:=h! (a4.out.below a9);have aT:Hid (Ext wP wr):=h! a9;clear a9;by_cases hkl:k<q.length
       ·obtain⟨b2,f,rfl,J,av⟩:=aG.out (by omega);obtain⟨e0,e1⟩:=av k hkl;have bf:decide ((k:Int)<(q.length:Int))=true:=by simp;omega
        clear av;generalize q[k]=u at *;obtain⟨ut,ui⟩:=u;dsimp only at e0 e1;have ah:=h! (fun W=>fF! ⟨ut,ui⟩ ⟨pt,pi⟩ W);unfold oV at ah;dsimp only at ah;go_wp2_with fail
        obtain⟨wd,A⟩:∃wd,Hid (wd=wr.drew):=⟨_,h! rfl⟩;have aF:=h! (show Ext wr wd from xd! A.out);refine re! A.out ?_;clear A;have h1:=fun W (h:Ext wd W)=>((bj.out.below aF.out).below h).cells;have g0:∀W,Ext wd W->W.cell? ⟨b2,f+k*2,none⟩=some (.string ut):=fun W h=>Ext.cell ((ak.out.trans aF.out).trans h) e0;have g1:∀W,Ext wd W->W.cell? ⟨b2,f+k*2+1,none⟩=some (.string ui):=fun W h=>Ext.cell ((ak.out.trans aF.out).trans h) e1;(refine WalkN.tk [0,1,2,3,4,5,6,7,8,9] ?_;(iterate 10 (refine c! ?_));refine TkN.n ?_)
        clear h1 g0 g1;refine ob! 10 ?_;intro K hK;go_simp;refine(ah.out _).mono ?_;rintro e w4 ⟨rfl,D⟩;refine hK.out _ _ D ?_;clear hK;refine t! 11 ?_
        refine d! ?_;have aW:Hid (Ext wP w4):=h! (aT.out.trans (aF.out.trans D));clear D ah;rcases hlb:ltO ⟨ut,ui⟩ ⟨pt,pi⟩with _ | _
        rotate_left
        ·clear hlb;go_wp2_with fail
         go_roundw
         case rel=>exact⟨k+1,by omega,by go_num,aW.out⟩
         case measure=>simp[intOf];omega
        clear hlb;go_wp2_with fail
        obtain⟨w6,O⟩:∃w6,Hid (w6=w4.drew):=⟨_,h! rfl⟩;have aq:=h! (show Ext wP w6 from aW.out.trans (xd! O.out));refine re! O.out ?_;clear O;have h1:=fun W (h:Ext w6 W)=>((a4.out.below aq.out).below h).cells;have ai:=b5.out;(refine WalkN.tk [0,1,2,3,4] ?_;(iterate 5 (refine c! ?_));refine TkN.n ?_)
        refine k! 5 ?_;refine k! 6 ?_;refine k! 7 ?_;refine k! 8 ?_;refine k! 9 ?_;refine k! 10 ?_;refine k! 11 ?_;refine k! 12 ?_;refine k! 13 ?_;refine k! 14 ?_;refine k! 15 ?_;refine k! 16 ?_
        refine t! 17 ?_
        refine d! ?_;have XE:Hid (Ext G w6):=h! (aw.out.trans aq.out);clear h1 ai;go_wp2_with fail
        go_roundw
        case rel=>exact⟨j+1,q,by omega,by go_num,ac.out.below XE.out,V.out,am.out,by omega,E.out.trans (Below.mono XE.out E.out.size),U.out.trans XE.out⟩
        case measure=>simp[intOf];omega
       ·obtain rfl:k=q.length:=by omega
        clear hkl;go_wp2_with fail
        obtain⟨wc,Y⟩:∃wc,Hid (wc=wr.drew):=⟨_,h! rfl⟩;have bd:=h! (show Ext wP wc from aT.out.trans (xd! Y.out));refine re! Y.out ?_;clear Y;(refine WalkN.tk [0,1,2,3,4] ?_;(iterate 5 (refine c! ?_));refine TkN.n ?_)
        refine k! 5 ?_;refine k! 6 ?_;refine k! 7 ?_;refine k! 8 ?_;refine k! 9 ?_;refine k! 10 ?_
        refine t! 11 ?_
        refine d! ?_;go_wp2_with fail
        obtain⟨w6,O⟩:∃w6,Hid (w6=wc.drew):=⟨_,h! rfl⟩;have aq:=h! (show Ext wP w6 from bd.out.trans (xd! O.out));refine re! O.out ?_;clear O;have h1:=fun W (h:Ext w6 W)=>((a4.out.below aq.out).below h).cells;have ai:=b5.out;(refine WalkN.tk [0,1,2,3,4] ?_;(iterate 5 (refine c! ?_));refine TkN.n ?_)
        refine k! 5 ?_;refine k! 6 ?_;refine k! 7 ?_;refine k! 8 ?_;refine k! 9 ?_;refine k! 10 ?_;refine k! 11 ?_;refine k! 12 ?_;refine k! 13 ?_;refine k! 14 ?_;refine k! 15 ?_;refine k! 16 ?_
        refine t! 17 ?_
        refine d! ?_;have XE:Hid (Ext G w6):=h! (aw.out.trans aq.out);clear h1 ai;go_wp2_with fail
        go_roundw
        case rel=>exact⟨j+1,q,by omega,by go_num,ac.out.below XE.out,V.out,am.out,by omega,E.out.trans (Below.mono XE.out E.out.size),U.out.trans XE.out⟩
        case measure=>simp[intOf];omega
     have aJ:=h! (show ∀x,QB (j+1) x↔QB j x\/x=⟨pt,pi⟩from fun x=>by
      rw[an.out x];exact or_congr Iff.rfl ⟨fun h=>h.1,fun h=>⟨h,htp⟩⟩)
     subst htp;go_loopw [10] (fun ii wr=>∃k:Nat,k<=q.length/\ii= .int .i64 k/\(∀j (hj:j<q.length),j<k->ltO q[j] ⟨pt,pi⟩=true)/\Below wP.heap.size wP wr) (fun ii _=>q.length-(intOf ii).toNat)
     case atStart=>exact⟨0,by omega,rfl,fun _ _ h=>absurd h (by omega),Below.refl _ _⟩
     case round =>
      obtain⟨k,hk,rfl,ay,a9⟩:=hrel;have R:=h! ay;have ak:=h! (aw.out.trans a9);have aA:=a4.out.below a9;clear ay;by_cases hkl:k<q.length
      ·obtain⟨b2,f,rfl,J,av⟩:=aG.out (by omega);obtain⟨e0,e1⟩:=av k hkl;have bf:decide ((k:Int)<(q.length:Int))=true:=by simp;omega
       have az:=fun(h:ltO q[k] ⟨pt,pi⟩=true)=>h! (ah! (p:=fun j hj=>ltO q[j] ⟨pt,pi⟩=true) R.out hkl h);have aH:=fun(h:ltO ⟨pt,pi⟩ q[k]=true)=>h! (mG! (p:=⟨pt,pi⟩) V.out R.out (fun _=>h));have aS:=n5! hkl;clear av;generalize q[k]=u at *;obtain⟨ut,ui⟩:=u;dsimp only at e0 e1;have ah:=h! (fun W=>fF! ⟨ut,ui⟩ ⟨pt,pi⟩ W);unfold oV at ah;dsimp only at ah;go_wp2_with fail
       obtain⟨wd,A⟩:=e! wr.drew;have C:Ext G wd:=by rw[A];exact ak.out.trans (Ext.drew _)
       have bi:Ext wr wd:=xd! A
       have a0:Blk wd G.heap.size #[.string pt,.string pi] 30:=by rw[A];exact aA.drew
       refine re! A ?_;clear A aA;have h1:=fun W (h:Ext wd W)=>(a0.below h).cells;have g0:∀W,Ext wd W->W.cell? ⟨b2,f+k*2,none⟩=some (.string ut):=fun W h=>Ext.cell (C.trans h) e0;have g1:∀W,Ext wd W->W.cell? ⟨b2,f+k*2+1,none⟩=some (.string ui):=fun W h=>Ext.cell (C.trans h) e1;(refine WalkN.tk [0,1,2,3,4,5,6,7,8,9] ?_;(iterate 10 (refine c! ?_));refine TkN.n ?_)
       clear h1 g0 g1;refine ob! 10 ?_;intro K hK;go_simp;refine(ah.out _).mono ?_;rintro e w4 ⟨rfl,D⟩;refine hK.out _ _ D ?_;clear hK;refine t! 11 ?_
       refine d! ?_;have b4:=h! (C.trans D);have aN:Hid (Ext wr w4):=h! (bi.trans D);have aV:=h! (a0.below D);clear C a0 D;rcases hlb:ltO ⟨ut,ui⟩ ⟨pt,pi⟩with _ | _
       rotate_left
       ·have HH:=az hlb;clear hlb az aH R;go_wp2_with fail
        go_roundw
        case rel=>exact⟨k+1,by omega,by go_num,HH.out,by exact a9.trans (Below.mono (aN.out) a9.size)⟩
        case measure=>simp[intOf];omega
       have aZ:((k:Int) == (q.length:Int))=false:=by rw[n7!];omega
       have X:=fun W=>pH! ⟨ut,ui⟩ ⟨pt,pi⟩ W;unfold oV at X;dsimp only at X;by_cases hup:(⟨ut,ui⟩:O2)=⟨pt,pi⟩
       ·rw[v3! (fun h=>h hup)]at X
        have am:=h! (show ∀x,x∈q↔QB (j+1) x from fun x=>by
         rw[aJ.out x,<-ar.out x];constructor
         ·exact .inl
         ·rintro(h | rfl)
          ·exact h
          ·exact hup▸aS)
        injection hup with hu1 hu2
        subst hu1 hu2;clear hlb az aH R aS;go_wp2_with fail
        obtain⟨wd,A⟩:=e! w4.drew;have C:Ext G wd:=by rw[A];exact b4.out.trans (Ext.drew _)
        have a0:Blk wd G.heap.size #[.string ut,.string ui] 30:=by rw[A];exact aV.out.drew
        refine re! A ?_;clear A;have h1:=fun W (h:Ext wd W)=>(a0.below h).cells;have g0:∀W,Ext wd W->W.cell? ⟨b2,f+k*2,none⟩=some (.string ut):=fun W h=>Ext.cell (C.trans h) e0;have g1:∀W,Ext wd W->W.cell? ⟨b2,f+k*2+1,none⟩=some (.string ui):=fun W h=>Ext.cell (C.trans h) e1;(refine WalkN.tk [0,1,2,3,4,5,6,7,8,9,10,11,12,13,14,15,16,17] ?_;(iterate 18 (refine c! ?_));refine TkN.n ?_)
        refine d! ?_;have ba:=h! (ac.out.below C);have aM:=h! (E.out.trans (Below.mono C E.out.size));have bk:Hid (Ext G wd):=h! C;clear h1 g0 g1 C a0 X aZ;go_wp2_with fail
        go_roundw
        case rel=>exact⟨j+1,q,by omega,by go_num,ba.out,V.out,am.out,by omega,aM.out,U.out.trans bk.out⟩
        case measure=>simp[intOf];omega
       rw[v2! (show(⟨ut,ui⟩:O2)≠⟨pt,pi⟩from hup)]at X;have aa:=aH (lu! hlb hup);have a8:Hid (∀x,x∈insO q k ⟨pt,pi⟩↔QB (j+1) x):=h! (fun x=>by rw[jL!,ar.out x,aJ.out x]);clear hlb az aH R aS hup;go_wp2_with fail
       obtain⟨wd,A⟩:=e! w4.drew;have aj:Ext G wd:=by rw[A];exact b4.out.trans (Ext.drew _)
       have af:Blk wd G.heap.size #[.string pt,.string pi] 30:=by rw[A];exact aV.out.drew
       refine re! A ?_;clear A;have h1:=fun W (h:Ext wd W)=>(af.below h).cells;have g0:∀W,Ext wd W->W.cell? ⟨b2,f+k*2,none⟩=some (.string ut):=fun W h=>Ext.cell (aj.trans h) e0;have g1:∀W,Ext wd W->W.cell? ⟨b2,f+k*2+1,none⟩=some (.string ui):=fun W h=>Ext.cell (aj.trans h) e1;(refine WalkN.tk [0,1,2,3,4,5,6,7,8,9,10,11,12,13,14,15,16,17] ?_;(iterate 18 (refine c! ?_));refine TkN.n ?_)
       refine d! ?_;clear h1 g0 g1 X aZ e0 e1;obtain⟨w6,rfl⟩:=e! wd;have bb:(k:Int)<=mc:=by omega
       have bg:(k:Int)<=q.length:=by omega
       go_wp2_with fail
       obtain⟨wd,A⟩:=e! w6.drew;have C:Ext G wd:=by rw[A];exact aj.trans (Ext.drew _)
       have a0:Blk wd G.heap.size #[.string pt,.string pi] 30:=by rw[A];exact af.drew
       have B:Below w.heap.size w wd:=E.out.trans (Below.mono C E.out.size);have a2:Sl (· < wd.heap.size) wd 2 (.slice (some ⟨b2,f,none⟩) q.length mc) (ocs q):=ac.out.slU.up C;refine re! A ?_;clear A;have ax:=fun W (h:Ext wd W)=>(a0.below h).cells;(refine WalkN.tk [1,2,3,5,8,9,10] ?_;(iterate 7 (refine c! ?_));refine TkN.n ?_)
       clear ax;have a7:Ext wd wd:=Ext.refl _
       have a3:Sl (· < wd.heap.size) wd 2 (.slice (some ⟨b2,f,none⟩) k mc) (ocs (q.take k)):=by
        have:=a2.take k (by omega);rwa[gf!]at this
       have a1:Sl (· < wd.heap.size) wd 2 (.slice (if mc=k then(some ⟨b2,f,none⟩)else(some ⟨b2,f+k*2,none⟩)) (q.length-k) (mc-k)) (ocs (q.drop k)):=by
        have:=a2.tailK (ao':=(if mc=k then(some ⟨b2,f,none⟩)else(some ⟨b2,f+k*2,none⟩))) k (by omega) (fun h=>by rw[if_neg h];simp[Addr.add_lit]);rwa[gg!]at this
       have a5:=h! (show []++ocs (q.take k)++ocs [⟨pt,pi⟩]++ocs (q.drop k)=ocs (insO q k ⟨pt,pi⟩)from by rw[y2!,<-aP!,<-aP!];rfl);have b0:(q.take k).length<=100000:=by rw[x4!];omega
       have aU:(q.drop k).length<=100000:=by rw[List.length_drop];omega
       clear a2;refine p! 0 6 ?_ ?_
       ·refine⟨_,(by simp only[gA,gZ];rfl),by rfl,fun K hK=>?_⟩;go_simp;have a:Own (wd.alloc (.cells #[] 30)) wd.heap.size 30 2 (.slice (some ⟨wd.heap.size,0,none⟩) 0 0) []:=Own.made wd (n0! _) _ _;have r:=Below.alloc a7 (n0! _) (.cells #[] 30);refine hK.out _ _ r ?_;clear hK;refine p! 4 6 ?_ ?_
        ·refine b! ?_;intro K hK;refine ay! aM! (.tmp 60) (.tmp 63) rfl rfl a rfl (a3.same (Same.below r)) (av! _) (by simp[aa!] <;> omega) (by simp[aa!] <;> omega) r.size (fun v2 w2 hown2 J hg2'=>?_);have z:Ext wd w2:=Below.trans r J;refine hK.out _ _ z ?_;clear hK;simp only[Act.put,pA,pZ,pS];refine ob! 6 ?_;intro K hK;go_simp;have s:=Below.alloc z z.size (.cells #[.string pt,.string pi] 30);have g:=hown2.below ((Below.refl _ _).alloc (n0! _) (.cells #[.string pt,.string pi] 30));have H:Sl (fun _=>True) (w2.alloc (.cells #[.string pt,.string pi] 30)) 2 (.slice (some ⟨w2.heap.size,0,none⟩) 1 1) (ocs [⟨pt,pi⟩]):=Sl.made w2 (fun _=>True) 2 1 30 #[.string pt,.string pi] rfl (by decide) trivial;refine hK.out _ _ s ?_;clear hK;refine ob! 7 ?_;intro K hK;refine ay! aM! (.tmp 64) (.tmp 66) rfl rfl g rfl H (av! _) (by simp[aa!] <;> omega) (by simp[aa!] <;> omega) s.size (fun v4 w4 hown4 D _=>?_);have m:Ext wd w4:=Below.trans s D;refine hK.out _ _ m ?_;clear hK;simp only[Act.put,pA,pZ,pS];refine ob! 11 ?_;intro K hK;refine ay! aM! (.tmp 67) (.tmp 70) rfl rfl hown4 rfl (a1.same (Same.below m)) (av! _) (by simp[aa!] <;> omega) (by simp[aa!] <;> omega) m.size (fun v5 w5 hown5 hb5 _=>?_);have y:Ext wd w5:=Below.trans m hb5;have L:=h! hown5;refine hK.out _ _ y ?_;clear hK;simp only[Act.put,pA,pZ,pS];clear g hown4 hown5 H;refine t! 12 ?_
         refine d! ?_;go_wp2
         go_roundw
         case rel=>exact⟨j+1,insO q k ⟨pt,pi⟩,by omega,by go_num,(a5.out▸L.out:Own w5 wd.heap.size 30 2 v5 (ocs (insO q k ⟨pt,pi⟩))).base B.size,aa.out,a8.out,by rw[aG!];omega,B.trans (Below.mono y B.size),U.out.trans (C.trans y)⟩
         case measure=>simp[intOf];omega
        ·obtain⟨w1,F⟩:=e! (wd.alloc (.cells #[] 30));rw[<-F]at a r ⊢;have hs1':w1.heap.size=wd.heap.size+1:=by rw[F];simp
         have M:=h! hs1';clear F hs1';refine b! ?_;intro K hK;go_simp;have s:=Below.alloc r r.size (.cells #[.string pt,.string pi] 30);have g:=a.below ((Below.refl _ _).alloc (n0! _) (.cells #[.string pt,.string pi] 30));have H:Sl (fun b=>b=w1.heap.size) (w1.alloc (.cells #[.string pt,.string pi] 30)) 2 (.slice (some ⟨w1.heap.size,0,none⟩) 1 1) (ocs [⟨pt,pi⟩]):=Sl.made w1 (fun b=>b=w1.heap.size) 2 1 30 #[.string pt,.string pi] rfl (by decide) rfl;refine hK.out _ _ s ?_;clear hK;refine ob! 4 ?_;intro K hK;refine ay! aM! (.tmp 60) (.tmp 63) rfl rfl g rfl (a3.same (Same.below s)) (av! _) (by simp[aa!] <;> omega) (by simp[aa!] <;> omega) s.size (fun v2 w2 hown2 J hg2'=>?_);have z:Ext wd w2:=Below.trans s J;have N:=H.same (w':=w2) (fun x hx=>hg2'.block x (by subst hx;simp) (fun h=>by subst hx;have h2:=v5! (show some w1.heap.size=some wd.heap.size from h);have:=M.out;omega));refine hK.out _ _ z ?_;clear hK;simp only[Act.put,pA,pZ,pS];refine ob! 7 ?_;intro K hK;refine ay! aM! (.tmp 64) (.tmp 66) rfl rfl hown2 rfl N (av! _) (by simp[aa!] <;> omega) (by simp[aa!] <;> omega) z.size (fun v4 w4 hown4 D _=>?_);have m:Ext wd w4:=Below.trans z D;refine hK.out _ _ m ?_;clear hK;simp only[Act.put,pA,pZ,pS];refine ob! 11 ?_;intro K hK;refine ay! aM! (.tmp 67) (.tmp 70) rfl rfl hown4 rfl (a1.same (Same.below m)) (av! _) (by simp[aa!] <;> omega) (by simp[aa!] <;> omega) m.size (fun v5 w5 hown5 hb5 _=>?_);have y:Ext wd w5:=Below.trans m hb5;have L:=h! hown5;refine hK.out _ _ y ?_;clear hK;simp only[Act.put,pA,pZ,pS];clear hown2 hown4 hown5 N;refine t! 12 ?_
         refine d! ?_;go_wp2
         go_roundw
         case rel=>exact⟨j+1,insO q k ⟨pt,pi⟩,by omega,by go_num,(a5.out▸L.out:Own w5 wd.heap.size 30 2 v5 (ocs (insO q k ⟨pt,pi⟩))).base B.size,aa.out,a8.out,by rw[aG!];omega,B.trans (Below.mono y B.size),U.out.trans (C.trans y)⟩
         case measure=>simp[intOf];omega
       ·refine b! ?_;intro K hK;go_simp;have r:=Below.alloc a7 (n0! _) (.cells #[.string pt,.string pi] 30);have ae:Sl (fun b=>b=wd.heap.size) (wd.alloc (.cells #[.string pt,.string pi] 30)) 2 (.slice (some ⟨wd.heap.size,0,none⟩) 1 1) (ocs [⟨pt,pi⟩]):=Sl.made wd (fun b=>b=wd.heap.size) 2 1 30 #[.string pt,.string pi] rfl (by decide) rfl;refine hK.out _ _ r ?_;clear hK;obtain⟨w1,F⟩:=e! (wd.alloc (.cells #[.string pt,.string pi] 30));rw[<-F]at ae r ⊢;have hs1':w1.heap.size=wd.heap.size+1:=by rw[F];simp
        have M:=h! hs1';clear F hs1';refine o! 0 ?_;refine⟨_,(by simp only[gA,gZ];rfl),by rfl,fun K hK=>?_⟩;go_simp;have a:Own (w1.alloc (.cells #[] 30)) wd.heap.size 30 2 (.slice (some ⟨w1.heap.size,0,none⟩) 0 0) []:=Own.made w1 r.size _ _;have s:=Below.alloc r r.size (.cells #[] 30);have H:=ae.same (w':=w1.alloc (.cells #[] 30)) (fun x hx=>Below.heap_alloc w1 _ x (by subst hx;have:=M.out;omega));refine hK.out _ _ s ?_;clear hK;refine ob! 4 ?_;intro K hK;refine ay! aM! (.tmp 60) (.tmp 63) rfl rfl a rfl (a3.same (Same.below s)) (av! _) (by simp[aa!] <;> omega) (by simp[aa!] <;> omega) s.size (fun v2 w2 hown2 J hg2'=>?_);have z:Ext wd w2:=Below.trans s J;have N:=H.same (w':=w2) (fun x hx=>hg2'.block x (by subst hx;have:=M.out;simp;omega) (fun h=>by subst hx;have h2:=v5! (show some wd.heap.size=some w1.heap.size from h);have:=M.out;omega));refine hK.out _ _ z ?_;clear hK;simp only[Act.put,pA,pZ,pS];refine ob! 7 ?_;intro K hK;refine ay! aM! (.tmp 64) (.tmp 66) rfl rfl hown2 rfl N (av! _) (by simp[aa!] <;> omega) (by simp[aa!] <;> omega) z.size (fun v4 w4 hown4 D _=>?_);have m:Ext wd w4:=Below.trans z D;refine hK.out _ _ m ?_;clear hK;simp only[Act.put,pA,pZ,pS];refine ob! 11 ?_;intro K hK;refine ay! aM! (.tmp 67) (.tmp 70) rfl rfl hown4 rfl (a1.same (Same.below m)) (av! _) (by simp[aa!] <;> omega) (by simp[aa!] <;> omega) m.size (fun v5 w5 hown5 hb5 _=>?_);have y:Ext wd w5:=Below.trans m hb5;have L:=h! hown5;refine hK.out _ _ y ?_;clear hK;simp only[Act.put,pA,pZ,pS];clear hown2 hown4 hown5 N;refine t! 12 ?_
        refine d! ?_;go_wp2
        go_roundw
        case rel=>exact⟨j+1,insO q k ⟨pt,pi⟩,by omega,by go_num,(a5.out▸L.out:Own w5 wd.heap.size 30 2 v5 (ocs (insO q k ⟨pt,pi⟩))).base B.size,aa.out,a8.out,by rw[aG!];omega,B.trans (Below.mono y B.size),U.out.trans (C.trans y)⟩
        case measure=>simp[intOf];omega
      ·obtain rfl:k=q.length:=by omega
       have aa:=h! (mG! (p:=⟨pt,pi⟩) V.out R.out (fun h=>absurd h hkl));have a8:Hid (∀x,x∈insO q q.length ⟨pt,pi⟩↔QB (j+1) x):=h! (fun x=>by rw[jL!,ar.out x,aJ.out x]);have bb:(q.length:Int)<=mc:=by omega
       have bg:(q.length:Int)<=q.length:=by omega
       clear hkl R aG a9;rcases aL.out with⟨hmn,-⟩|⟨b2,n',c',hmn⟩
       ·obtain rfl:mo=none:=by injection hmn
        clear hmn aL;go_wp2_with fail
        obtain⟨wc,Y⟩:=e! wr.drew;have aR:Ext G wc:=by rw[Y];exact ak.out.trans (Ext.drew _)
        have aO:Blk wc G.heap.size #[.string pt,.string pi] 30:=by rw[Y];exact aA.drew
        refine re! Y ?_;clear Y;(refine WalkN.tk [0,1,2,3,4] ?_;(iterate 5 (refine c! ?_));refine TkN.n ?_)
        refine k! 5 ?_;refine k! 6 ?_;refine k! 7 ?_;refine k! 8 ?_;refine k! 9 ?_;refine k! 10 ?_
        refine t! 11 ?_
        refine d! ?_;go_wp2_with fail
        obtain⟨w6,O⟩:=e! wc.drew;have aj:Ext G w6:=by rw[O];exact aR.trans (Ext.drew _)
        have af:Blk w6 G.heap.size #[.string pt,.string pi] 30:=by rw[O];exact aO.drew
        refine re! O ?_;clear O;have h1:=fun W (h:Ext w6 W)=>(af.below h).cells;(refine WalkN.tk [0,1,2,3,4,5,6,7,8,9] ?_;(iterate 10 (refine c! ?_));refine TkN.n ?_)
        refine k! 10 ?_;refine k! 11 ?_;refine k! 12 ?_;refine k! 13 ?_;refine k! 14 ?_;refine k! 15 ?_
        (refine WalkN.tk [16,17] ?_;(iterate 2 (refine c! ?_));refine TkN.n ?_)
        clear h1;refine d! ?_;go_wp2_with fail
        obtain⟨wd,A⟩:=e! w6.drew;have C:Ext G wd:=by rw[A];exact aj.trans (Ext.drew _)
        have a0:Blk wd G.heap.size #[.string pt,.string pi] 30:=by rw[A];exact af.drew
        have B:Below w.heap.size w wd:=E.out.trans (Below.mono C E.out.size);have a2:Sl (· < wd.heap.size) wd 2 (.slice none q.length mc) (ocs q):=ac.out.slU.up C;refine re! A ?_;clear A;have ax:=fun W (h:Ext wd W)=>(a0.below h).cells;(refine WalkN.tk [1,2,3,5,8,9,10] ?_;(iterate 7 (refine c! ?_));refine TkN.n ?_)
        clear ax;have a7:Ext wd wd:=Ext.refl _
        have a3:Sl (· < wd.heap.size) wd 2 (.slice none q.length mc) (ocs (q.take q.length)):=by
         have:=a2.take q.length (by omega);rwa[gf!]at this
        have a1:Sl (· < wd.heap.size) wd 2 (.slice none 0 (mc-q.length)) (ocs (q.drop q.length)):=by
         have:=a2.tailK (ao':=none) q.length (by omega) (fun _=>rfl);rwa[gg!,Nat.sub_self]at this
        have a5:=h! (show []++ocs (q.take q.length)++ocs [⟨pt,pi⟩]++ocs (q.drop q.length)=ocs (insO q q.length ⟨pt,pi⟩)from by rw[y2!,<-aP!,<-aP!];rfl);have b0:(q.take q.length).length<=100000:=by rw[x4!];omega
        have aU:(q.drop q.length).length<=100000:=by rw[List.length_drop];omega
        clear a2;refine p! 0 6 ?_ ?_
        ·refine⟨_,(by simp only[gA,gZ];rfl),by rfl,fun K hK=>?_⟩;go_simp;have a:Own (wd.alloc (.cells #[] 30)) wd.heap.size 30 2 (.slice (some ⟨wd.heap.size,0,none⟩) 0 0) []:=Own.made wd (n0! _) _ _;have r:=Below.alloc a7 (n0! _) (.cells #[] 30);refine hK.out _ _ r ?_;clear hK;refine p! 4 6 ?_ ?_
         ·refine b! ?_;intro K hK;refine ay! aM! (.tmp 60) (.tmp 63) rfl rfl a rfl (a3.same (Same.below r)) (av! _) (by simp[aa!] <;> omega) (by simp[aa!] <;> omega) r.size (fun v2 w2 hown2 J hg2'=>?_);have z:Ext wd w2:=Below.trans r J;refine hK.out _ _ z ?_;clear hK;simp only[Act.put,pA,pZ,pS];refine ob! 6 ?_;intro K hK;go_simp;have s:=Below.alloc z z.size (.cells #[.string pt,.string pi] 30);have g:=hown2.below ((Below.refl _ _).alloc (n0! _) (.cells #[.string pt,.string pi] 30));have H:Sl (fun _=>True) (w2.alloc (.cells #[.string pt,.string pi] 30)) 2 (.slice (some ⟨w2.heap.size,0,none⟩) 1 1) (ocs [⟨pt,pi⟩]):=Sl.made w2 (fun _=>True) 2 1 30 #[.string pt,.string pi] rfl (by decide) trivial;refine hK.out _ _ s ?_;clear hK;refine ob! 7 ?_;intro K hK;refine ay! aM! (.tmp 64) (.tmp 66) rfl rfl g rfl H (av! _) (by simp[aa!] <;> omega) (by simp[aa!] <;> omega) s.size (fun v4 w4 hown4 D _=>?_);have m:Ext wd w4:=Below.trans s D;refine hK.out _ _ m ?_;clear hK;simp only[Act.put,pA,pZ,pS];refine ob! 11 ?_;intro K hK;refine ay! aM! (.tmp 67) (.tmp 70) rfl rfl hown4 rfl (a1.same (Same.below m)) (av! _) (by simp[aa!] <;> omega) (by simp[aa!] <;> omega) m.size (fun v5 w5 hown5 hb5 _=>?_);have y:Ext wd w5:=Below.trans m hb5;have L:=h! hown5;refine hK.out _ _ y ?_;clear hK;simp only[Act.put,pA,pZ,pS];clear g hown4 hown5 H;refine t! 12 ?_
          refine d! ?_;go_wp2
          go_roundw
          case rel=>exact⟨j+1,insO q q.length ⟨pt,pi⟩,by omega,by go_num,(a5.out▸L.out:Own w5 wd.heap.size 30 2 v5 (ocs (insO q q.length ⟨pt,pi⟩))).base B.size,aa.out,a8.out,by rw[aG!];omega,B.trans (Below.mono y B.size),U.out.trans (C.trans y)⟩
          case measure=>simp[intOf];omega
         ·obtain⟨w1,F⟩:=e! (wd.alloc (.cells #[] 30));rw[<-F]at a r ⊢;have hs1':w1.heap.size=wd.heap.size+1:=by rw[F];simp
          have M:=h! hs1';clear F hs1';refine b! ?_;intro K hK;go_simp;have s:=Below.alloc r r.size (.cells #[.string pt,.string pi] 30);have g:=a.below ((Below.refl _ _).alloc (n0! _) (.cells #[.string pt,.string pi] 30));have H:Sl (fun b=>b=w1.heap.size) (w1.alloc (.cells #[.string pt,.string pi] 30)) 2 (.slice (some ⟨w1.heap.size,0,none⟩) 1 1) (ocs [⟨pt,pi⟩]):=Sl.made w1 (fun b=>b=w1.heap.size) 2 1 30 #[.string pt,.string pi] rfl (by decide) rfl;refine hK.out _ _ s ?_;clear hK;refine ob! 4 ?_;intro K hK;refine ay! aM! (.tmp 60) (.tmp 63) rfl rfl g rfl (a3.same (Same.below s)) (av! _) (by simp[aa!] <;> omega) (by simp[aa!] <;> omega) s.size (fun v2 w2 hown2 J hg2'=>?_);have z:Ext wd w2:=Below.trans s J;have N:=H.same (w':=w2) (fun x hx=>hg2'.block x (by subst hx;simp) (fun h=>by subst hx;have h2:=v5! (show some w1.heap.size=some wd.heap.size from h);have:=M.out;omega));refine hK.out _ _ z ?_;clear hK;simp only[Act.put,pA,pZ,pS];refine ob! 7 ?_;intro K hK;refine ay! aM! (.tmp 64) (.tmp 66) rfl rfl hown2 rfl N (av! _) (by simp[aa!] <;> omega) (by simp[aa!] <;> omega) z.size (fun v4 w4 hown4 D _=>?_);have m:Ext wd w4:=Below.trans z D;refine hK.out _ _ m ?_;clear hK;simp only[Act.put,pA,pZ,pS];refine ob! 11 ?_;intro K hK;refine ay! aM! (.tmp 67) (.tmp 70) rfl rfl hown4 rfl (a1.same (Same.below m)) (av! _) (by simp[aa!] <;> omega) (by simp[aa!] <;> omega) m.size (fun v5 w5 hown5 hb5 _=>?_);have y:Ext wd w5:=Below.trans m hb5;have L:=h! hown5;refine hK.out _ _ y ?_;clear hK;simp only[Act.put,pA,pZ,pS];clear hown2 hown4 hown5 N;refine t! 12 ?_
          refine d! ?_;go_wp2
          go_roundw
          case rel=>exact⟨j+1,insO q q.length ⟨pt,pi⟩,by omega,by go_num,(a5.out▸L.out:Own w5 wd.heap.size 30 2 v5 (ocs (insO q q.length ⟨pt,pi⟩))).base B.size,aa.out,a8.out,by rw[aG!];omega,B.trans (Below.mono y B.size),U.out.trans (C.trans y)⟩
          case measure=>simp[intOf];omega
        ·refine b! ?_;intro K hK;go_simp;have r:=Below.alloc a7 (n0! _) (.cells #[.string pt,.string pi] 30);have ae:Sl (fun b=>b=wd.heap.size) (wd.alloc (.cells #[.string pt,.string pi] 30)) 2 (.slice (some ⟨wd.heap.size,0,none⟩) 1 1) (ocs [⟨pt,pi⟩]):=Sl.made wd (fun b=>b=wd.heap.size) 2 1 30 #[.string pt,.string pi] rfl (by decide) rfl;refine hK.out _ _ r ?_;clear hK;obtain⟨w1,F⟩:=e! (wd.alloc (.cells #[.string pt,.string pi] 30));rw[<-F]at ae r ⊢;have hs1':w1.heap.size=wd.heap.size+1:=by rw[F];simp
         have M:=h! hs1';clear F hs1';refine o! 0 ?_;refine⟨_,(by simp only[gA,gZ];rfl),by rfl,fun K hK=>?_⟩;go_simp;have a:Own (w1.alloc (.cells #[] 30)) wd.heap.size 30 2 (.slice (some ⟨w1.heap.size,0,none⟩) 0 0) []:=Own.made w1 r.size _ _;have s:=Below.alloc r r.size (.cells #[] 30);have H:=ae.same (w':=w1.alloc (.cells #[] 30)) (fun x hx=>Below.heap_alloc w1 _ x (by subst hx;have:=M.out;omega));refine hK.out _ _ s ?_;clear hK;refine ob! 4 ?_;intro K hK;refine ay! aM! (.tmp 60) (.tmp 63) rfl rfl a rfl (a3.same (Same.below s)) (av! _) (by simp[aa!] <;> omega) (by simp[aa!] <;> omega) s.size (fun v2 w2 hown2 J hg2'=>?_);have z:Ext wd w2:=Below.trans s J;have N:=H.same (w':=w2) (fun x hx=>hg2'.block x (by subst hx;have:=M.out;simp;omega) (fun h=>by subst hx;have h2:=v5! (show some wd.heap.size=some w1.heap.size from h);have:=M.out;omega));refine hK.out _ _ z ?_;clear hK;simp only[Act.put,pA,pZ,pS];refine ob! 7 ?_;intro K hK;refine ay! aM! (.tmp 64) (.tmp 66) rfl rfl hown2 rfl N (av! _) (by simp[aa!] <;> omega) (by simp[aa!] <;> omega) z.size (fun v4 w4 hown4 D _=>?_);have m:Ext wd w4:=Below.trans z D;refine hK.out _ _ m ?_;clear hK;simp only[Act.put,pA,pZ,pS];refine ob! 11 ?_;intro K hK;refine ay! aM! (.tmp 67) (.tmp 70) rfl rfl hown4 rfl (a1.same (Same.below m)) (av! _) (by simp[aa!] <;> omega) (by simp[aa!] <;> omega) m.size (fun v5 w5 hown5 hb5 _=>?_);have y:Ext wd w5:=Below.trans m hb5;have L:=h! hown5;refine hK.out _ _ y ?_;clear hK;simp only[Act.put,pA,pZ,pS];clear hown2 hown4 hown5 N;refine t! 12 ?_
         refine d! ?_;go_wp2
         go_roundw
         case rel=>exact⟨j+1,insO q q.length ⟨pt,pi⟩,by omega,by go_num,(a5.out▸L.out:Own w5 wd.heap.size 30 2 v5 (ocs (insO q q.length ⟨pt,pi⟩))).base B.size,aa.out,a8.out,by rw[aG!];omega,B.trans (Below.mono y B.size),U.out.trans (C.trans y)⟩
         case measure=>simp[intOf];omega
       ·obtain⟨f,rfl⟩:∃f,mo=some ⟨b2,f,none⟩:=⟨0,by injection hmn⟩;clear hmn aL;go_wp2_with fail
        obtain⟨wc,Y⟩:=e! wr.drew;have aR:Ext G wc:=by rw[Y];exact ak.out.trans (Ext.drew _)
        have aO:Blk wc G.heap.size #[.string pt,.string pi] 30:=by rw[Y];exact aA.drew
        refine re! Y ?_;clear Y;(refine WalkN.tk [0,1,2,3,4] ?_;(iterate 5 (refine c! ?_));refine TkN.n ?_)
        refine k! 5 ?_;refine k! 6 ?_;refine k! 7 ?_;refine k! 8 ?_;refine k! 9 ?_;refine k! 10 ?_
        refine t! 11 ?_
        refine d! ?_;go_wp2_with fail
        obtain⟨w6,O⟩:=e! wc.drew;have aj:Ext G w6:=by rw[O];exact aR.trans (Ext.drew _)
        have af:Blk w6 G.heap.size #[.string pt,.string pi] 30:=by rw[O];exact aO.drew
        refine re! O ?_;clear O;have h1:=fun W (h:Ext w6 W)=>(af.below h).cells;(refine WalkN.tk [0,1,2,3,4,5,6,7,8,9] ?_;(iterate 10 (refine c! ?_));refine TkN.n ?_)
        refine k! 10 ?_;refine k! 11 ?_;refine k! 12 ?_;refine k! 13 ?_;refine k! 14 ?_;refine k! 15 ?_
        (refine WalkN.tk [16,17] ?_;(iterate 2 (refine c! ?_));refine TkN.n ?_)
        clear h1;refine d! ?_;go_wp2_with fail
        obtain⟨wd,A⟩:=e! w6.drew;have C:Ext G wd:=by rw[A];exact aj.trans (Ext.drew _)
        have a0:Blk wd G.heap.size #[.string pt,.string pi] 30:=by rw[A];exact af.drew
        have B:Below w.heap.size w wd:=E.out.trans (Below.mono C E.out.size);have a2:Sl (· < wd.heap.size) wd 2 (.slice (some ⟨b2,f,none⟩) q.length mc) (ocs q):=ac.out.slU.up C;refine re! A ?_;clear A;have ax:=fun W (h:Ext wd W)=>(a0.below h).cells;(refine WalkN.tk [1,2,3,5,8,9,10] ?_;(iterate 7 (refine c! ?_));refine TkN.n ?_)
        clear ax;have a7:Ext wd wd:=Ext.refl _
        have a3:Sl (· < wd.heap.size) wd 2 (.slice (some ⟨b2,f,none⟩) q.length mc) (ocs (q.take q.length)):=by
         have:=a2.take q.length (by omega);rwa[gf!]at this
        have a1:Sl (· < wd.heap.size) wd 2 (.slice (if mc=q.length then(some ⟨b2,f,none⟩)else(some ⟨b2,f+q.length*2,none⟩)) 0 (mc-q.length)) (ocs (q.drop q.length)):=by
         have:=a2.tailK (ao':=(if mc=q.length then(some ⟨b2,f,none⟩)else(some ⟨b2,f+q.length*2,none⟩))) q.length (by omega) (fun h=>by rw[if_neg h];simp[Addr.add_lit]);rwa[gg!,Nat.sub_self]at this
        have a5:=h! (show []++ocs (q.take q.length)++ocs [⟨pt,pi⟩]++ocs (q.drop q.length)=ocs (insO q q.length ⟨pt,pi⟩)from by rw[y2!,<-aP!,<-aP!];rfl);have b0:(q.take q.length).length<=100000:=by rw[x4!];omega
        have aU:(q.drop q.length).length<=100000:=by rw[List.length_drop];omega
        clear a2;refine p! 0 6 ?_ ?_
        ·refine⟨_,(by simp only[gA,gZ];rfl),by rfl,fun K hK=>?_⟩;go_simp;have a:Own (wd.alloc (.cells #[] 30)) wd.heap.size 30 2 (.slice (some ⟨wd.heap.size,0,none⟩) 0 0) []:=Own.made wd (n0! _) _ _;have r:=Below.alloc a7 (n0! _) (.cells #[] 30);refine hK.out _ _ r ?_;clear hK;refine p! 4 6 ?_ ?_
         ·refine b! ?_;intro K hK;refine ay! aM! (.tmp 60) (.tmp 63) rfl rfl a rfl (a3.same (Same.below r)) (av! _) (by simp[aa!] <;> omega) (by simp[aa!] <;> omega) r.size (fun v2 w2 hown2 J hg2'=>?_);have z:Ext wd w2:=Below.trans r J;refine hK.out _ _ z ?_;clear hK;simp only[Act.put,pA,pZ,pS];refine ob! 6 ?_;intro K hK;go_simp;have s:=Below.alloc z z.size (.cells #[.string pt,.string pi] 30);have g:=hown2.below ((Below.refl _ _).alloc (n0! _) (.cells #[.string pt,.string pi] 30));have H:Sl (fun _=>True) (w2.alloc (.cells #[.string pt,.string pi] 30)) 2 (.slice (some ⟨w2.heap.size,0,none⟩) 1 1) (ocs [⟨pt,pi⟩]):=Sl.made w2 (fun _=>True) 2 1 30 #[.string pt,.string pi] rfl (by decide) trivial;refine hK.out _ _ s ?_;clear hK;refine ob! 7 ?_;intro K hK;refine ay! aM! (.tmp 64) (.tmp 66) rfl rfl g rfl H (av! _) (by simp[aa!] <;> omega) (by simp[aa!] <;> omega) s.size (fun v4 w4 hown4 D _=>?_);have m:Ext wd w4:=Below.trans s D;refine hK.out _ _ m ?_;clear hK;simp only[Act.put,pA,pZ,pS];refine ob! 11 ?_;intro K hK;refine ay! aM! (.tmp 67) (.tmp 70) rfl rfl hown4 rfl (a1.same (Same.below m)) (av! _) (by simp[aa!] <;> omega) (by simp[aa!] <;> omega) m.size (fun v5 w5 hown5 hb5 _=>?_);have y:Ext wd w5:=Below.trans m hb5;have L:=h! hown5;refine hK.out _ _ y ?_;clear hK;simp only[Act.put,pA,pZ,pS];clear g hown4 hown5 H;refine t! 12 ?_
          refine d! ?_;go_wp2
          go_roundw
          case rel=>exact⟨j+1,insO q q.length ⟨pt,pi⟩,by omega,by go_num,(a5.out▸L.out:Own w5 wd.heap.size 30 2 v5 (ocs (insO q q.length ⟨pt,pi⟩))).base B.size,aa.out,a8.out,by rw[aG!];omega,B.trans (Below.mono y B.size),U.out.trans (C.trans y)⟩
          case measure=>simp[intOf];omega
         ·obtain⟨w1,F⟩:=e! (wd.alloc (.cells #[] 30));rw[<-F]at a r ⊢;have hs1':w1.heap.size=wd.heap.size+1:=by rw[F];simp
          have M:=h! hs1';clear F hs1';refine b! ?_;intro K hK;go_simp;have s:=Below.alloc r r.size (.cells #[.string pt,.string pi] 30);have g:=a.below ((Below.refl _ _).alloc (n0! _) (.cells #[.string pt,.string pi] 30));have H:Sl (fun b=>b=w1.heap.size) (w1.alloc (.cells #[.string pt,.string pi] 30)) 2 (.slice (some ⟨w1.heap.size,0,none⟩) 1 1) (ocs [⟨pt,pi⟩]):=Sl.made w1 (fun b=>b=w1.heap.size) 2 1 30 #[.string pt,.string pi] rfl (by decide) rfl;refine hK.out _ _ s ?_;clear hK;refine ob! 4 ?_;intro K hK;refine ay! aM! (.tmp 60) (.tmp 63) rfl rfl g rfl (a3.same (Same.below s)) (av! _) (by simp[aa!] <;> omega) (by simp[aa!] <;> omega) s.size (fun v2 w2 hown2 J hg2'=>?_);have z:Ext wd w2:=Below.trans s J;have N:=H.same (w':=w2) (fun x hx=>hg2'.block x (by subst hx;simp) (fun h=>by subst hx;have h2:=v5! (show some w1.heap.size=some wd.heap.size from h);have:=M.out;omega));refine hK.out _ _ z ?_;clear hK;simp only[Act.put,pA,pZ,pS];refine ob! 7 ?_;intro K hK;refine ay! aM! (.tmp 64) (.tmp 66) rfl rfl hown2 rfl N (av! _) (by simp[aa!] <;> omega) (by simp[aa!] <;> omega) z.size (fun v4 w4 hown4 D _=>?_);have m:Ext wd w4:=Below.trans z D;refine hK.out _ _ m ?_;clear hK;simp only[Act.put,pA,pZ,pS];refine ob! 11 ?_;intro K hK;refine ay! aM! (.tmp 67) (.tmp 70) rfl rfl hown4 rfl (a1.same (Same.below m)) (av! _) (by simp[aa!] <;> omega) (by simp[aa!] <;> omega) m.size (fun v5 w5 hown5 hb5 _=>?_);have y:Ext wd w5:=Below.trans m hb5;have L:=h! hown5;refine hK.out _ _ y ?_;clear hK;simp only[Act.put,pA,pZ,pS];clear hown2 hown4 hown5 N;refine t! 12 ?_
          refine d! ?_;go_wp2
          go_roundw
          case rel=>exact⟨j+1,insO q q.length ⟨pt,pi⟩,by omega,by go_num,(a5.out▸L.out:Own w5 wd.heap.size 30 2 v5 (ocs (insO q q.length ⟨pt,pi⟩))).base B.size,aa.out,a8.out,by rw[aG!];omega,B.trans (Below.mono y B.size),U.out.trans (C.trans y)⟩
          case measure=>simp[intOf];omega
        ·refine b! ?_;intro K hK;go_simp;have r:=Below.alloc a7 (n0! _) (.cells #[.string pt,.string pi] 30);have ae:Sl (fun b=>b=wd.heap.size) (wd.alloc (.cells #[.string pt,.string pi] 30)) 2 (.slice (some ⟨wd.heap.size,0,none⟩) 1 1) (ocs [⟨pt,pi⟩]):=Sl.made wd (fun b=>b=wd.heap.size) 2 1 30 #[.string pt,.string pi] rfl (by decide) rfl;refine hK.out _ _ r ?_;clear hK;obtain⟨w1,F⟩:=e! (wd.alloc (.cells #[.string pt,.string pi] 30));rw[<-F]at ae r ⊢;have hs1':w1.heap.size=wd.heap.size+1:=by rw[F];simp
         have M:=h! hs1';clear F hs1';refine o! 0 ?_;refine⟨_,(by simp only[gA,gZ];rfl),by rfl,fun K hK=>?_⟩;go_simp;have a:Own (w1.alloc (.cells #[] 30)) wd.heap.size 30 2 (.slice (some ⟨w1.heap.size,0,none⟩) 0 0) []:=Own.made w1 r.size _ _;have s:=Below.alloc r r.size (.cells #[] 30);have H:=ae.same (w':=w1.alloc (.cells #[] 30)) (fun x hx=>Below.heap_alloc w1 _ x (by subst hx;have:=M.out;omega));refine hK.out _ _ s ?_;clear hK;refine ob! 4 ?_;intro K hK;refine ay! aM! (.tmp 60) (.tmp 63) rfl rfl a rfl (a3.same (Same.below s)) (av! _) (by simp[aa!] <;> omega) (by simp[aa!] <;> omega) s.size (fun v2 w2 hown2 J hg2'=>?_);have z:Ext wd w2:=Below.trans s J;have N:=H.same (w':=w2) (fun x hx=>hg2'.block x (by subst hx;have:=M.out;simp;omega) (fun h=>by subst hx;have h2:=v5! (show some wd.heap.size=some w1.heap.size from h);have:=M.out;omega));refine hK.out _ _ z ?_;clear hK;simp only[Act.put,pA,pZ,pS];refine ob! 7 ?_;intro K hK;refine ay! aM! (.tmp 64) (.tmp 66) rfl rfl hown2 rfl N (av! _) (by simp[aa!] <;> omega) (by simp[aa!] <;> omega) z.size (fun v4 w4 hown4 D _=>?_);have m:Ext wd w4:=Below.trans z D;refine hK.out _ _ m ?_;clear hK;simp only[Act.put,pA,pZ,pS];refine ob! 11 ?_;intro K hK;refine ay! aM! (.tmp 67) (.tmp 70) rfl rfl hown4 rfl (a1.same (Same.below m)) (av! _) (by simp[aa!] <;> omega) (by simp[aa!] <;> omega) m.size (fun v5 w5 hown5 hb5 _=>?_);have y:Ext wd w5:=Below.trans m hb5;have L:=h! hown5;refine hK.out _ _ y ?_;clear hK;simp only[Act.put,pA,pZ,pS];clear hown2 hown4 hown5 N;refine t! 12 ?_
         refine d! ?_;go_wp2
         go_roundw
         case rel=>exact⟨j+1,insO q q.length ⟨pt,pi⟩,by omega,by go_num,(a5.out▸L.out:Own w5 wd.heap.size 30 2 v5 (ocs (insO q q.length ⟨pt,pi⟩))).base B.size,aa.out,a8.out,by rw[aG!];omega,B.trans (Below.mono y B.size),U.out.trans (C.trans y)⟩
         case measure=>simp[intOf];omega
    ·obtain rfl:j=2:=by omega
     have am:=h! (show ∀x,x∈q↔x.t=typ/\ObjIn (l.take (i+1)) x from fun x=>by
      rw[ar.out x,aC.out,bc.out x];refine and_congr_right fun _=>or_congr Iff.rfl ?_;simp only[List.take_succ_cons,List.take_zero,v7!,List.not_mem_nil,or_false,P3.obj];exact or_congr eq_comm eq_comm)
     have ac:=h! I;have aM:=h! T;have be:wrap64 ((i:Int)+1)=((i+1:Nat):Int):=by have:=HL.out;have:=ad.out;unfold wrap64;omega
     have b8:=h! be;clear I T hlt hj;go_wp2_with fail
     go_roundw
     case rel=>exact⟨i+1,q,ad.out,by first | rw[b8.out] | go_num,ac.out,V.out,am.out,by omega,aM.out⟩
     case measure=>have:=ad.out;(try rw[b8.out]);simp[intOf];omega
  ·obtain rfl:i=l.length:=by omega
   rw[u2!]at aP;obtain⟨mo,mc,rfl,-,-,-⟩:=Sl.rows aC! (by decide) (show Sl _ wr 2 u5 (List.flatMap oC qA)from aD.out.sl);go_wp2_with fail
   go_ret
   exact⟨_,qA,rfl,b9.out,aP.out,aD.out,ab.out⟩
end Go.Proofs.YtlhaghoajpglaaaGreat
