/- Lemmas for the claim, no condition. -/
import Derived.Test.YtlhaghoajpglaaaGreatYPrMore19
import Derived.OwnWalk
set_option maxRecDepth 100000
set_option maxHeartbeats 4000000
namespace Go.Proofs.YtlhaghoajpglaaaGreat
open Go Go.RowKit Go.Maps Go.Proofs.Tryz
theorem mI! (r:RT):∀d,r.textOk d=true->r.wt+8<=110*r.sz:=by
 induction r using RT.ind with
 | h r ih =>
  intro d h;obtain⟨k,a,b,ps⟩:=r;rw[RT.textOk]at h;rw[RT.wt,RT.sz];split at h
  ·simp only[v0!,u1!]at h;rw[List.length_eq_zero_iff.1 h.2,wtL];omega
  ·split at h
   ·simp only[v0!,u1!]at h;have:=dQ! h.1.1;rw[List.length_eq_zero_iff.1 h.2,wtL];omega
   ·split at h
    ·simp only[v0!,u1!]at h;have c:=dQ! h.1.1;have h2:=dQ! h.1.2;rw[List.length_eq_zero_iff.1 h.2,wtL];omega
    ·split at h
     ·simp only[v0!,u1!]at h;rw[be!]at h
      have a0:∀l:List RT,(∀x∈l,x∈ps)->wtL l<=110*szL l:=by
       intro l;induction l with
       | nil=>intro _;simp[wtL]
       | cons x l ihl =>
        intro hx;have c:=u8!.1 h.2 x (hx x y4!);unfold goodP at c;rw[v0!]at c;have h2:=ih x (hx x y4!) _ c.2;have h3:=ihl fun y hy=>hx y (u9! _ hy);rw[wtL,szL];omega
      have:=a0 ps fun _ hx=>hx;omega
     ·cases h
theorem em! {ts:List TyS}(h:chk06 ts=0) {x:R2 × RT}(hp:x∈ab! ts):x.2.textOk 0=true:=by
 have h0:bj! ts=true:=by
  unfold chk06 at h;split at h
  ·assumption
  ·cases h
 obtain⟨t,ht,r,hr,rfl⟩:=aM!.1 hp;have h1:=u8!.1 h0 t ht;unfold tyOk at h1;rw[v0!]at h1;have h2:=u8!.1 h1.2 r hr;unfold relOk at h2;simp only[v0!]at h2;exact h2.1.1
theorem ku! {ts:List TyS}(h:chk06 ts=0):nI! ts:=fun _ hx q hq=>(hA! _ 0 (em! h hx) q hq).1
theorem cX! {ts:List TyS}{M:Nat}(h:∀x∈ab! ts,x.2.sz<=M):∀l:List P3,cB! ts l<=l.length*M
 | []=>by simp[cB!]
 | p::l=>by
  have ih:=cX! h l;rw[cB!,u7!,Nat.add_mul];split
  ·next r e =>
   have:=h _ (aB! e);dsimp only at this;omega
  ·omega
section
variable {ts : List TyS} {T : List Tup} {shut : List R2} {p : P3} {most : Int} {n : Nat}
theorem ow!.pos9 (h:ow! ts T shut p most n):0<n:=by
 have h2:=h.2;have:=dF! ts T shut p (v1! n);rw[<-h2,walkN]at this;simp at this;omega
theorem mX! (hA:HasArg ts T shut p)(h:ow! ts T shut p most n)(sub:P3):PwIn ts T shut sub (walkN ts T shut p n).1 (walkN ts T shut p n).2 (aI! (walkN ts T shut p n).2 sub n) where
 ok:=hA.ok
 u:=dg! hA.chk
 n:=hA.rfs
 txt _ hx:=em! hA.chk hx
 wt x hx:=by
  have h1:=mI! x.2 0 (em! hA.chk hx);have b:=cy! (en! hA.chk) x hx;omega
 sz x hx:=n6! (cy! (en! hA.chk) x hx) (by decide)
 kd:=ku! hA.chk
 okp:=hA.wk.okp n
 len:=hA.wk.few n
 rl:=by
  unfold aI!;rw[aA!];exact h.2
 form k hk:=by
  have a:k<n:=by
   by_cases e:k<n
   ·exact e
   ·rw[n8!,y0! (by unfold aI!;rw[aA!];omega)]at hk;exact absurd hk (by decide)
  obtain⟨q,f,h1,b,h3,h4,h5⟩:=hN! a hk;obtain⟨p',f',g1,g2,g3⟩:=h.formOf a;rw[g2]at b;injection b with b
  subst b
  have a0:inB9 (aI! (walkN ts T shut p n).2 sub n) ((aI! (walkN ts T shut p n).2 sub n).getD k 0)=inN (walkN ts T shut p n).2 sub n q:=by
   have hl:(aI! (walkN ts T shut p n).2 sub n).length=n:=by unfold aI!;exact aA! n
   refine List.ext_getElem (by unfold inB9;rw[x1!,hl,aj!]) fun j hj1 hj2=>?_;have a1:j<n:=by rw[aj!]at hj2;exact hj2
   have:=h5 j a1;rw[n8!,n4! hj2]at this;simp only[inB9,List.getElem_map];rw[Bool.eq_iff_iff,u1!];rw[show(aI! (walkN ts T shut p n).2 sub n).getD j 0=(aI! (walkN ts T shut p n).2 sub n)[j]'(by omega)from by rw[n8!,n4! (by omega)];rfl]at this;exact this.symm
  rcases g3 with⟨-,rfl⟩|⟨r,g3,g4⟩
  ·exfalso
   rw[bD!]at h3;simp[FT.zero,FT.k]at h3
  ·exact⟨p',f',r,g1,g2,g3,g4,by rw[a0];exact h3⟩
 pn:=by
  have h1:=cX! (ts:=ts) (M:=32) (cy! (en! hA.chk)) (walkN ts T shut p n).1;have b:=hA.wk.few n;omega
 nd:=cl! ts T shut p n
theorem hu! (_h:ow! ts T shut p most n):(walkN ts T shut p n).1[0]?=some p:=by
 have:=bn! ts T shut p 0 n (v1! n);rw[walkN]at this;obtain⟨l,hl⟩:=this;dsimp only at hl;rw[<-hl];rfl
end
def St9Ok (x:Stp):Prop:=x.p.Ok/\x.s.Ok/\x.r.a.size<=maxLen/\x.r.b.size<=maxLen
theorem jE! (r:RT):r.Ok->∀q∈r.pre,q.Ok:=by
 induction r using RT.ind with
 | h r ih =>
  intro hr q a;rw[r.pre_eq]at a;rcases v7!.1 a with rfl | a
  ·exact hr
  ·obtain⟨x,hx,a⟩:=aJ!.1 a;exact ih x hx (((RT.ok_iff r).1 hr).2.2.2 x hx) q a
theorem WrI.st9 {ts:List TyS}{T:List Tup}{shut:List R2}{sub:P3}{P:List P3}{out:List Stp}{names:NL9}{wait:List Nat}(h:WrI ts T shut sub P out names wait)(hP:∀p∈P,p.Ok)(hr:∀x∈ab! ts,x.2.Ok)(hT:∀t∈T,t.s.Ok):∀x∈out,St9Ok x:=by
 intro x hx;obtain⟨i,c,he⟩:=u0! hx;have c:out[i]?=some x:=by rw[n4! c,he]
 obtain⟨k,hk⟩:=h.all i x c;obtain⟨y,h1,h2,-⟩:=h.key _ hk;dsimp only at h1 h2;rw[c]at h1;obtain rfl:=v5! h1;obtain⟨r,a0,a1,a⟩:=h.ok i x c;have b:=(RT.ok_iff _).1 (jE! r (hr _ (eI! a0)) _ a1);refine⟨hP _ (List.mem_of_getElem? h2),?_,by have:=b.2.1;unfold maxLen;exact n6! this (by decide),by have:=b.2.2.1;unfold maxLen;exact n6! this (by decide)⟩
 have hs:∀q,x.s∈ai! T q->x.s.Ok:=fun q hq=>by
  obtain⟨t,ht,-,h3⟩:=bU!.1 hq;rw[<-h3];exact hT t ht
 unfold kindP at a;split at a
 ·exact hs _ a.1
 ·split at a
  ·exact hs _ a.2.1
  ·rw[a.1];exact⟨by decide,by decide,by decide⟩
def cM! (ts:List TyS)(T:List Tup)(shut:List R2)(p s:P3)(most:Int)(w':World)(e:Ending):Prop :=
 (∃(n:Nat) (lv:Value) (ok:Bool) (l:List Stp),ow! ts T shut p most n/\e= .returned (.tuple #[lv,.bool ok,.int .i64 0])/\os! (· < w'.heap.size) w' l lv/\(ok=true↔Den ts T shut s p)/\(ok=false->l=[])/\(ok=true->or! ts T shut s p l/\TidyP l/\l.length<=cB! ts (walkN ts T shut p n).1/\∀x∈l,St9Ok x)) \/
  (er! ts T shut p most/\e= .returned (.tuple #[.slice none 0 0,.bool false,.int .i64 10]))
theorem os!.nil9 (S:Nat->Prop)(w:World):os! S w [] (.slice none 0 0):=⟨[],rfl,fun x hx=>(by cases hx),Sl.nil _ _ _⟩
theorem jM! {ts:List TyS}{T:List Tup}{shut:List R2}{s p:P3}{P:List P3}{out:List Stp}{names:NL9}{i:Nat}{r:RT}(hw:WrI ts T shut s P out names [i])(hm:((0,r),i)∈names)(hP:P.Nodup)(h0:P[0]?=some p)(hr:ar! ts shut p=some r):or! ts T shut s p out/\TidyP out/\out.length<=cB! ts P:=by
 obtain⟨x,h1,a,h3⟩:=hw.key _ hm;dsimp only at h1 a h3;have hi:=(y3!.1 h1).1
 have he:i=out.length-1:=by
  rcases hw.named (out.length-1) (by omega)with h | ⟨j,y,hj,hlt,-⟩
  ·exact(n9!.1 h).symm
  ·have:=(y3!.1 hj).1;omega
 subst he;rw[h0]at a;injection a with a
 refine⟨hw.right (ba! hr) h1 a.symm h3,hw.tidy hP,?_⟩;have:=hw.few hP;rwa[cW!]at this
theorem hW! (ts:List TyS)(tv:Value)(b:Nat)(T:List Tup)(shut:List R2)(sv:Value)(p s:P3)(most:Int)(w:World)(h:ou! (· < w.heap.size) w ts tv)(hA:HasArg ts T shut p)(hbk:of! w b T)(hsv:Sl (· < w.heap.size) w 2 sv (shut.flatMap r2C)) :
  Calls prog 49 #[.agg #[tv],bkV b,sv,.agg (aC p s),.int .i64 most] w fun e w'=>cM! ts T shut p s most w' e/\Ext w w':=by
 have HA:=h! hA;have ae:=h! h;obtain⟨ao,c,rfl,-⟩:=h.rows;obtain⟨so,sc,rfl,-⟩:=Sl.rows bi! (by decide) hsv;obtain⟨wa,j⟩:=e! (w.alloc (.cells #[.slice ao ts.length c] 26));obtain⟨wb,o⟩:=e! (wa.alloc (.cells (aC p s) 35));have ea:wa.heap.size=w.heap.size+1:=by rw[j];simp
 have xa:Ext w wa:=xa! j
 have xb:Ext wa wb:=xa! o
 have XB:Hid (Ext w wb):=h! (xa.trans xb);have BS:=h! (show Blk wb w.heap.size #[.slice ao ts.length c] 26 from Blk.below (bm! j) xb);have BA:=h! (show Blk wb (w.heap.size+1) (aC p s) 35 from by rw[o,<-ea];exact Blk.made _ _ _);have E:=h! (jo! ts (.slice ao ts.length c) b T shut (.slice so shut.length sc) p most 1000000 wb (h.up XB.out) hA.ok hA.chk hA.bk hA.sz hA.nms hA.rfs (hbk.ext XB.out) ((hsv.same (Same.below XB.out)).mono fun _ hb=>n1! hb XB.out.size) hA.sho hA.wk);have hS:=BS.out.cells;have U:=BA.out.cells;clear h hbk hsv hA ea xa xb;unfold pV at E;unfold aC at *;rw[o,j]at hS U;go_enter func49,ntmps49
 go_wp2_with fail
 rw[<-j,<-o];clear hS U j o;generalize w.heap.size+1=ab at *;generalize hsb:w.heap.size=sb at BS ⊢;refine E.out.mono ?_;rintro e w1 ⟨hx,⟨n,pv,fv,a,rfl,G⟩|⟨Q,rfl⟩⟩
 case' inr =>
  have HL:=h! Q;have X2:Hid (Ext w (w1.alloc (.cells #[.slice none 0 0,.slice none 0 0] 96))):=h! (Ext.trans XB.out (Ext.trans hx (Ext.alloc _ _)));clear hx Q E;go_wp2_with fail
  go_ret3
  exact⟨.inr ⟨HL.out,rfl⟩,X2.out⟩
 obtain⟨ap,cp,af,cf,rfl,rfl,-⟩:=G.rows;have HE:=h! a;have B:=h! (mX! HA.out a s);have H0:=h! (hu! a);have M:=h! (a.den_iff s);have HL:=h! (show(walkN ts T shut p n).1.length=n from a.2.symm);have a3:=h! (show(walkN ts T shut p n).2.length=n from aX! ts T shut p n);have HN:=h! (show n<=1000000 from by have:=HA.out.wk.few n;rw[HL.out]at this;exact this)
 have aj:=h! (show(nmdL (walkN ts T shut p n).2).length<=1000000000000 from by
  have h1:=dq! HA.out.rm shut p n;have h2:n*1000000<=1000000*1000000:=y7! _ HN.out;omega)
 have k:=h! a.pos9;rw[HL.out,a3.out]at G ⊢;generalize hps:(walkN ts T shut p n).1=ps at *;generalize hfs:(walkN ts T shut p n).2=fs at *;have ah:=h! hps;clear hps hfs;obtain⟨w2,t⟩:=e! (w1.alloc (.cells #[.slice ap n cp,.slice af n cf] 96));have X2:=h! (show Ext w1 w2 from xa! t);have N:=h! ((G.same (w':=w2) fun b hb=>X2.out.block b hb.2).mono (T:=(· < w2.heap.size)) fun b hb=>n1! hb.2 X2.out.size);have K:=h! (hJ! s ps fs (.slice ap n cp) (.slice af n cf) w2 N.out (by rw[HL.out];exact HN.out) (by rw[a3.out];exact HN.out) aj.out);have XW:Hid (Ext w w2):=h! (Ext.trans XB.out (Ext.trans hx X2.out));have BS:=h! (BS.out.below (Ext.trans hx X2.out));have BA:=h! (BA.out.below (Ext.trans hx X2.out));have BG:=h! (show Blk w2 w1.heap.size #[.slice ap n cp,.slice af n cf] 96 from bm! t);have F:=BA.out.cells;have hG:=BG.out.cells;rw[t]at F hG;clear hx G a E hsb;unfold pV at K;go_wp2_with fail
 rw[<-t];clear hG F t X2;generalize w1.heap.size=gb at *;refine K.out.mono ?_;rintro e w3 ⟨⟨v,rfl,ho⟩,d⟩;have X3:Hid (Ext w w3):=h! (Ext.trans XW.out d);have BS:=h! (BS.out.below d);have BA:=h! (BA.out.below d);have BG:=h! (BG.out.below d);have a1:=h! (N.out.up d);have D:=h! (show(aI! fs s n).length=n from aA! n);rw[HL.out]at ho;have Y:=h! ho.slU
 obtain⟨g,c3,cs,rfl,-,hB,-,-,a4⟩:=ho.lay (by
  intro e;have:=congrArg List.length e;rw[ad!,D.out,v6!]at this;have:=k.out;omega)
 have c0:w3.cell? ⟨g,0,none⟩=some (.int .i64 ((aI! fs s n).getD 0 0)):=by
  have h1:0<(ic (aI! fs s n)).length:=by rw[ad!,D.out];exact k.out
  rw[hB.cells 0,a4 0 h1];simp only[ic,List.getElem_map];rw[n8!,n4! (by rw[D.out];exact k.out)];rfl
 have ai:(0:Int)<(((ic (aI! fs s n)).length:Nat):Int):=by rw[ad!,D.out];have:=k.out;omega
 have J:0<(ic (aI! fs s n)).length:=by omega
 clear d ho hB a4 K N XW;generalize (ic (aI! fs s n)).length=m at *;obtain⟨z,hz⟩:∃z,(aI! fs s n).getD 0 0=z:=⟨_,rfl⟩;have HZ:=h! hz;rw[hz]at c0;clear hz;by_cases hz0:0<z
 case neg =>
  have L:=h! (show cM! ts T shut p s most w3 (.returned (.tuple #[.slice none 0 0,.bool false,.int .i64 0]))from .inl ⟨n,_,false,[],HE.out,rfl,os!.nil9 _ _,⟨fun h=>(by cases h),fun h=>absurd (M.out.1 h) (by rw[HZ.out];exact hz0)⟩,fun _=>rfl,fun h=>(by cases h)⟩)
  have a7:z=0:=by
   have:=(da! (fs:=fs) (s:=s) (n:=n) n k.out).1;have h2:=HZ.out;unfold aI! at h2;omega
  subst a7;clear hz0;go_wp2_with fail
  go_ret3
  exact⟨L.out,X3.out⟩
 have a8:(z == 0)=false:=by rw[n7!];omega
 have l:=hz0;rw[<-HZ.out]at l;obtain⟨q,f0,r,hq,O,C,a6,Z⟩:=B.out.form 0 l;rw[H0.out]at hq;injection hq with hq
 subst hq;obtain⟨w4,f⟩:=e! (w3.alloc (.map #[] 0));obtain⟨w5,u⟩:=e! (w4.alloc (.cells (pwC (.slice ao ts.length c) (bkV b) (.slice ap n cp) (.slice af n cf) (.slice (some ⟨g,0,none⟩) m c3) s w3.heap.size (.slice none 0 0)) 197));have e4:w4.heap.size=w3.heap.size+1:=by rw[f];simp
 have x4:Ext w3 w4:=xa! f
 have x5:Ext w4 w5:=xa! u
 have X5:Hid (Ext w3 w5):=h! (x4.trans x5);have V:Hid (PwMem w3 w3.heap.size ts ps fs (aI! fs s n) (.slice ao ts.length c) (.slice ap n cp) (.slice af n cf) (.slice (some ⟨g,0,none⟩) m c3)):=h! ⟨n0! _,ae.out.up X3.out,a1.out,Y.out⟩
 have a5:=h! (show PwAt w5 (w3.heap.size+1) w3.heap.size w3.heap.size (.slice ao ts.length c) (bkV b) (.slice ap n cp) (.slice af n cf) (.slice (some ⟨g,0,none⟩) m c3) s (· < w3.heap.size) [] [] (.slice none 0 0) from
  ⟨by rw[u,<-e4];exact Blk.made _ _ _,Mp.below (by rw[f];exact Mp.made _) x5,⟨[],rfl,Own.nil _ _ _ _,fun x hx=>(by cases hx)⟩,fun y hy=>⟨n1! hy X5.out.size,by omega,by omega,fun e=>(by cases e)⟩,fun y hy=>hy⟩)
 have a0:=h! (hY! (w3.heap.size+1) w3.heap.size w3.heap.size (.slice ao ts.length c) (bkV b) (.slice ap n cp) (.slice af n cf) (.slice (some ⟨g,0,none⟩) m c3) s w3 B.out V.out ⟨by omega,n0! _⟩ 0 r f0 p H0.out C O (mS! _ _ _ _ _ _ _ _ _ w3 B.out V.out ⟨by omega,n0! _⟩ _ 0 r f0 (n0! _) ⟨p,r,H0.out,C,r.pre_self,a6,l,Z⟩) w5 _ [] [] _ [] (Below.mono X5.out (n0! _)) a5.out (WrI.nil _ _ _ _ _ _));have ag:=h! C;have ad:=h! (M.out.2 l);have hS:=(BS.out).cells;have hG:=BG.out.cells;have F:=BA.out.cells;have R:=(BG.out.below x4).cells;have X:=(BA.out.below x4).cells;have aa:=@run_makeMap prog;rw[f]at R X;clear a6 Z l C O e4 x4 x5 a1 Y M HZ hz0;unfold pwC at u;go_wp2_with fail
 rw[<-f];(try rw[<-u])
 clear hS hG F R X aa f u c0 ai J a8;refine a0.out.mono ?_;rintro e w6 ⟨D1,A,I,ak,i,rfl,hp,hf,hd,hw,hm,hn,-⟩;have HX:Hid (Ext w w6):=h! (Ext.trans X3.out (Below.trans X5.out (a5.out.old hf)));have a2:=h! hp.steps;have ac:=h! (hw.st9 B.out.okp HA.out.wk.rok HA.out.wk.tok);have H:=h! (jM! hw hm B.out.nd H0.out ag.out);obtain⟨oo,oc,rfl,-⟩:=a2.out.rows;have L:=h! (show cM! ts T shut p s most w6 (.returned (.tuple #[.slice oo A.length oc,.bool true,.int .i64 0]))from .inl ⟨n,_,true,A,HE.out,rfl,a2.out,⟨fun _=>ad.out,fun _=>rfl⟩,fun h=>(by cases h),fun _=>by rw[ah.out];exact⟨H.out.1,H.out.2.1,H.out.2.2,ac.out⟩⟩);have a9:=hp.box.cells;unfold pwC at a9;clear hp hf hd hw hm hn a0;go_wp2_with fail
 go_ret3
 exact⟨L.out,HX.out⟩
theorem hs! (rb am b:Nat)(ts:List TyS)(tv:Value)(T:List Tup)(shut:List R2)(sub:P3)(l:List Stp)(lv:Value)(hin:Rd9In ts T shut l)(z:Stp)(v:Value × Value)(p:P3)(hp:p.Ok)(w:World)(h:Rd9At w rb am b ts tv T shut sub l lv)(hz:RTAt (· < w.heap.size) w z.r v.1)(t:Bool)(ht:t=true↔z.p=p/\lookA (ab! ts) ⟨p.t,p.r⟩=some z.r) :
  Calls prog 116 #[.pointer (some ⟨rb,0,none⟩),stV z v,pV p] w fun e w'=>e= .returned (.bool t)/\Ext w w':=by
 obtain⟨v1,v2⟩:=v;have HT:=h! ht;have Y:=h! hin;have HP:=h! hp;have a8:=h! h.ty;have E:=h! hz;obtain⟨to,tc,rfl,-,-,-⟩:=h.ty.rows;obtain⟨qo,qc,he,-⟩:=hz.rows;dsimp only at he E;subst he;obtain⟨wa,D⟩:=e! (w.alloc (.cells #[.string z.p.t,.string z.p.i,.string z.p.r,.int .i64 z.r.k,.string z.r.a,.string z.r.b,.slice qo z.r.ps.length qc,.string z.s.t,.string z.s.i,.string z.s.r,v2] 109));obtain⟨wb,F⟩:=e! (wa.alloc (.cells #[.string p.t,.string p.i,.string p.r] 32));have ea:wa.heap.size=w.heap.size+1:=by rw[D];simp
 have xa:Ext w wa:=xa! D
 have xb:Ext wa wb:=xa! F
 have XB:=h! (xa.trans xb);have BX:=h! (show Blk wb w.heap.size #[.string z.p.t,.string z.p.i,.string z.p.r,.int .i64 z.r.k,.string z.r.a,.string z.r.b,.slice qo z.r.ps.length qc,.string z.s.t,.string z.s.i,.string z.s.r,v2] 109 from Blk.below (bm! D) xb);have BP:=h! (show Blk wb (w.heap.size+1) #[.string p.t,.string p.i,.string p.r] 32 from by rw[F,<-ea];exact Blk.made _ _ _);have HB:=h! (h.box.below XB.out);clear h hin hp hz ht ea xa xb;unfold stV pV;dsimp only;go_enter func116,ntmps116
 go_wp2_with fail
 rw[<-D,<-F];clear D F;generalize w.heap.size+1=pb at *;obtain⟨wd,G⟩:∃wd,Hid (wd=World.drew wb):=⟨_,h! rfl⟩;have B:=h! (show Ext wb wd from xd! G.out);have A:=h! (Ext.trans XB.out B.out);have M:=h! (fun U (hU:Ext wd U)=>cK! (S:=(· < w.heap.size)) ts _ p.t p.r U (fun y hy=>n1! hy (n6! (n0! w.heap.size) (Ext.trans A.out hU).size)) (a8.out.same fun y hy=>(Ext.trans A.out hU).block y (n1! hy (n0! w.heap.size))) Y.out.ok Y.out.u Y.out.n HP.out.1 HP.out.2.2);apply Code.wp_mono (Q:=J4 (fun(zr:RT) (zo:Option Addr) (zc:Nat) (bo:Nat) U=>wd.heap.size<=bo/\Ext wd U/\Blk U bo #[.int .i64 zr.k,.string zr.a,.string zr.b,.slice zo zr.ps.length zc] 106/\RTAt (· < w.heap.size) U zr (.slice zo zr.ps.length zc)/\(∀r,lookA (ab! ts) ⟨p.t,p.r⟩=some r->zr=r)) _) ?rest1 ?reg1
 case reg1 =>
  refine al! (Ext wd) (by rw[<-G.out];exact Ext.refl _) (by kernel_rfl) (by kernel_rfl) (fun _ _ d _ _ h=>by cases h.1) ?_;rw[<-G.out];have hs:=fun U (h:Ext wd U)=>((HB.out.below B.out).below h).cells;have hq:=fun U (h:Ext wd U)=>((BP.out.below B.out).below h).cells;(refine WalkN.tk [0,1,2,3,4,5,6,7,8] ?_;(iterate 9 (refine c! ?_));refine TkN.n ?_)
  clear hs hq;refine p! 9 13 ?_ ?_
  ·refine b! ?_;intro K hK;go_simp;refine(M.out wd (Ext.refl wd)).mono ?_;rintro e w5 ⟨⟨zr,zv⟩,rfl,j,m,-,q⟩;have j:RTAt (· < w.heap.size) w5 zr zv:=j;obtain⟨zo,zc,rfl,-⟩:=j.rows;dsimp only at m;unfold rvV rV;dsimp only;have o:Ext wd w5:=Ext.trans (Ext.refl wd) q;refine hK.out _ _ o ?_;clear hK;(refine WalkN.tk [10,11,12] ?_;(iterate 3 (refine c! ?_));refine TkN.n ?_)
   refine ob! 13 ?_;intro K hK;go_simp;obtain⟨bo,g⟩:=e! w5.heap.size;rw[<-g];have a2:=Ext.alloc w5 (.cells #[.int .i64 0,.string ⟨#[]⟩,.string ⟨#[]⟩,.slice none 0 0] 106);have x:Blk (w5.alloc (.cells #[.int .i64 0,.string ⟨#[]⟩,.string ⟨#[]⟩,.slice none 0 0] 106)) bo #[.int .i64 0,.string ⟨#[]⟩,.string ⟨#[]⟩,.slice none 0 0] 106:=by rw[g];exact Blk.made _ _ _
   have f:wd.heap.size<=bo:=by rw[g];exact o.size
   have a1:=Ext.trans o a2;have a5:=j.same fun y hy=>a2.block y (n1! hy (n6! (n0! w.heap.size) (Ext.trans A.out o).size));refine hK.out _ _ a1 ?_;clear hK g j;generalize w5.alloc (.cells #[.int .i64 0,.string ⟨#[]⟩,.string ⟨#[]⟩,.slice none 0 0] 106)=w7 at *;refine ob! 14 ?_;intro K hK;have I:=x.cells;have L:=x.free;go_simp;clear I L;have N:=x.put4 (.int .i64 zr.k) (.string zr.a) (.string zr.b) (.slice zo zr.ps.length zc);have C:Ext wd ((((w7.setCell ⟨bo,0,none⟩ (.int .i64 zr.k)).setCell ⟨bo,1,none⟩ (.string zr.a)).setCell ⟨bo,2,none⟩ (.string zr.b)).setCell ⟨bo,3,none⟩ (.slice zo zr.ps.length zc)):=Below.setCell (Below.setCell (Below.setCell (Below.setCell a1 (p:=⟨bo,0,none⟩) f _) (p:=⟨bo,1,none⟩) f _) (p:=⟨bo,2,none⟩) f _) (p:=⟨bo,3,none⟩) f _
   have R:=a5.same (w':=(((w7.setCell ⟨bo,0,none⟩ (.int .i64 zr.k)).setCell ⟨bo,1,none⟩ (.string zr.a)).setCell ⟨bo,2,none⟩ (.string zr.b)).setCell ⟨bo,3,none⟩ (.slice zo zr.ps.length zc)) fun y hy=>by
    have:=f;have:=A.out.size;have:=n0! w.heap.size;rw[Below.heap_setCell _ _ _ y (by show y≠bo;omega),Below.heap_setCell _ _ _ y (by show y≠bo;omega),Below.heap_setCell _ _ _ y (by show y≠bo;omega),Below.heap_setCell _ _ _ y (by show y≠bo;omega)]
   refine hK.out _ _ C ?_;clear hK;refine t! 15 ?_
   refine d! ?_;exact⟨rfl,zr,zo,zc,bo,rfl,f,C,N,R,m⟩
  ·refine b! ?_;intro K hK;go_simp;obtain⟨bo,g⟩:=e! wd.heap.size;rw[<-g];have Z:=Ext.alloc wd (.cells #[.int .i64 0,.string ⟨#[]⟩,.string ⟨#[]⟩,.slice none 0 0] 106);have a4:Blk (wd.alloc (.cells #[.int .i64 0,.string ⟨#[]⟩,.string ⟨#[]⟩,.slice none 0 0] 106)) bo #[.int .i64 0,.string ⟨#[]⟩,.string ⟨#[]⟩,.slice none 0 0] 106:=by rw[g];exact Blk.made _ _ _
   have f:wd.heap.size<=bo:=by rw[g];exact n0! _
   refine hK.out _ _ Z ?_;clear hK g;generalize wd.alloc (.cells #[.int .i64 0,.string ⟨#[]⟩,.string ⟨#[]⟩,.slice none 0 0] 106)=w4 at *;refine ob! 9 ?_;intro K hK;go_simp;refine(M.out w4 Z).mono ?_;rintro e w5 ⟨⟨zr,zv⟩,rfl,j,m,-,q⟩;have j:RTAt (· < w.heap.size) w5 zr zv:=j;obtain⟨zo,zc,rfl,-⟩:=j.rows;dsimp only at m;unfold rvV rV;dsimp only;have o:Ext wd w5:=Ext.trans Z q;refine hK.out _ _ o ?_;clear hK;(refine WalkN.tk [10,11,12] ?_;(iterate 3 (refine c! ?_));refine TkN.n ?_)
   have x:=a4.below q;refine ob! 14 ?_;intro K hK;have I:=x.cells;have L:=x.free;go_simp;clear I L;have N:=x.put4 (.int .i64 zr.k) (.string zr.a) (.string zr.b) (.slice zo zr.ps.length zc);have C:Ext wd ((((w5.setCell ⟨bo,0,none⟩ (.int .i64 zr.k)).setCell ⟨bo,1,none⟩ (.string zr.a)).setCell ⟨bo,2,none⟩ (.string zr.b)).setCell ⟨bo,3,none⟩ (.slice zo zr.ps.length zc)):=Below.setCell (Below.setCell (Below.setCell (Below.setCell o (p:=⟨bo,0,none⟩) f _) (p:=⟨bo,1,none⟩) f _) (p:=⟨bo,2,none⟩) f _) (p:=⟨bo,3,none⟩) f _
   have R:=j.same (w':=(((w5.setCell ⟨bo,0,none⟩ (.int .i64 zr.k)).setCell ⟨bo,1,none⟩ (.string zr.a)).setCell ⟨bo,2,none⟩ (.string zr.b)).setCell ⟨bo,3,none⟩ (.slice zo zr.ps.length zc)) fun y hy=>by
    have:=f;have:=A.out.size;have:=n0! w.heap.size;rw[Below.heap_setCell _ _ _ y (by show y≠bo;omega),Below.heap_setCell _ _ _ y (by show y≠bo;omega),Below.heap_setCell _ _ _ y (by show y≠bo;omega),Below.heap_setCell _ _ _ y (by show y≠bo;omega)]
   refine hK.out _ _ C ?_;clear hK;refine t! 15 ?_
   refine d! ?_;exact⟨rfl,zr,zo,zc,bo,rfl,f,C,N,R,m⟩
 rintro e _ W1 ⟨rfl,zr,zo,zc,bo,rfl,g,hX,hB,hA,m⟩;dsimp only at hB hA m ⊢;have H:Hid (Ext wb W1):=h! (Ext.trans B.out hX);have J:=h! hA;have a6:=h! m;have a7:=h! hB;have a9:Hid (wb.heap.size<=bo):=h! (n6! B.out.size g);clear g hX hB hA m B G M A;have BX:=h! (BX.out.below H.out);have BP:=h! (BP.out.below H.out);have HX:=h! (Ext.trans XB.out H.out);replace E:=h! (E.out.up HX.out);replace J:=h! (show RTAt (· < W1.heap.size) W1 zr (.slice zo zr.ps.length zc)from J.out.mono fun _ h=>n1! h HX.out.size);have b1:=BX.out.cells;have b2:=BP.out.cells;have b3:=a7.out.cells;clear HB XB H a9;generalize w.heap.size=xb at *;cases hlk:lookA (ab! ts) (⟨p.t,p.r⟩:R2) with
 | none =>
  have V:=h! (show t=false from by cases t with | false=>rfl | true=>have h:=(HT.out.1 rfl).2;rw[hlk]at h;cases h);clear hlk;dsimp only[Option.isSome];go_wp2_with fail
  go_ret
  exact⟨by rw[V.out];rfl,HX.out⟩
 | some y =>
  have a0:=h! (show t=true↔z.p=p/\z.r=zr from by rw[HT.out,hlk,a6.out y hlk];exact⟨fun h=>⟨h.1,by have:=h.2;injection this with this;exact this.symm⟩,fun h=>⟨h.1,by rw[h.2]⟩⟩);clear hlk;dsimp only[Option.isSome];have X:=fun W=>kH! z.p p W;by_cases he:z.p=p
  case neg =>
   have V:Hid (t=false):=h! (by cases t with | false=>rfl | true=>exact absurd (a0.out.1 rfl).1 he);rw[v3! he]at X;clear he;go_wp2_with fail
   go_ret
   exact⟨by rw[V.out];rfl,HX.out⟩
  rw[v2! he]at X;have O:=h! (fU! z.r zr _ _ W1 t E.out J.out (by rw[a0.out];exact⟨fun h=>h.2,fun h=>⟨he,h⟩⟩));unfold rV at O;clear he;go_wp2_with fail
  clear b1 b2 b3 X;refine O.out.mono ?_;rintro e w5 ⟨rfl,q⟩;have a3:=h! (Ext.trans HX.out q);clear q O;go_wp2_with fail
  go_ret
  exact⟨rfl,a3.out⟩
theorem dN! (rb am b:Nat)(ts:List TyS)(tv:Value)(T:List Tup)(shut:List R2)(sub:P3)(l:List Stp)(lv:Value)(hin:Rd9In ts T shut l)(i:Nat)(hi:i<l.length)(p:P3)(hp:p.Ok)(w:World)(h:Rd9At w rb am b ts tv T shut sub l lv)(t:Bool)(ht:t=true↔∃b,(l[i]'hi).b=[b]/\aE! ts l i b p) :
  Calls prog 173 #[.pointer (some ⟨rb,0,none⟩),.int .i64 i,pV p] w fun e w'=>e= .returned (.bool t)/\Ext w w':=by
 obtain⟨wa,f⟩:=e! (w.alloc (.cells #[.string p.t,.string p.i,.string p.r] 32));have XA:=h! (show Ext w wa from xa! f);have BP:=h! (show Blk wa w.heap.size #[.string p.t,.string p.i,.string p.r] 32 from bm! f);have o:=h! (byR29 rb am b ts tv T shut sub l lv i hi wa (h.ext XA.out));have HT:=h! ht;have y:=h! (h.ext XA.out);have a4:=h! hin;have HP:=h! hp;clear h hin hp ht;unfold pV;go_enter func173,ntmps173
 go_wp2_with fail
 rw[<-f];clear f;refine o.out.mono ?_;rintro e w2 ⟨ok,z,⟨v1,v2⟩,rfl,u,m,j,⟨so,sn,sc,hs⟩,g⟩;dsimp only at j hs;subst hs;obtain⟨qo,qc,rfl,-⟩:=j.rows;have HX:=h! (Ext.trans XA.out g);have BP:=h! (BP.out.below g);have a2:=h! u;have a0:=h! m;have y:=h! (y.out.ext g);obtain⟨w3,d⟩:=e! (w2.alloc (.cells #[.string z.p.t,.string z.p.i,.string z.p.r,.int .i64 z.r.k,.string z.r.a,.string z.r.b,.slice qo z.r.ps.length qc,.string z.s.t,.string z.s.i,.string z.s.r,.slice so sn sc] 109));have x:=h! (show Ext w2 w3 from xa! d);have c:=h! (fun t ht=>hs! rb am b ts tv T shut sub l lv a4.out z (.slice qo z.r.ps.length qc,.slice so sn sc) p HP.out w3 (y.out.ext x.out) (j.up x.out) t ht);have b1:=(BP.out.below x.out).cells;clear u m j g o y;unfold stV pV at c;unfold stV;rw[d]at b1;generalize w.heap.size=pb at *;cases ok with
 | false =>
  have a3:=h! (show t=false from by
   cases t with
   | false=>rfl
   | true =>
    obtain⟨b,A,B⟩:=HT.out.1 rfl;have h3:b=((b.toNat:Nat):Int):=by have:=B.1;omega
    exact absurd (show b.toNat<i by have:=B.2.1;omega) (a0.out rfl _ (by rw[A,<-h3])))
  have v:=h! (Ext.trans HX.out x.out);rw[d]at v;go_wp2_with fail
  go_ret
  exact⟨by rw[a3.out];rfl,v.out⟩
 | true =>
  have c:=h! (c.out t (by
   obtain⟨n,A,B,h3⟩:=a2.out rfl;obtain⟨h4,h5⟩:=y3!.1 h3;rw[HT.out];constructor
   ·rintro⟨b,C,e2⟩;rw[A]at C;injection C with C
    have:=(cU! C.symm h4).1 e2;rw[h5]at this;exact this.2
   ·intro h;exact⟨n,A,(cU! rfl h4).2 (by rw[h5];exact⟨B,h⟩)⟩))
  go_wp2_with fail
  rw[<-d];clear b1 d;refine c.out.mono ?_;rintro e w5 ⟨rfl,q⟩;have a1:=h! (Ext.trans HX.out (Ext.trans x.out q));clear q c;go_wp2_with fail
  go_ret
  exact⟨rfl,a1.out⟩
theorem mH! (rb am b:Nat)(ts:List TyS)(tv:Value)(T:List Tup)(shut:List R2)(sub:P3)(l:List Stp)(lv:Value)(hin:Rd9In ts T shut l)(i:Nat)(hi:i<l.length)(w:World)(h:Rd9At w rb am b ts tv T shut sub l lv)(t:Bool)(ht:t=true↔(l[i]'hi).s∈ai! T (l[i]'hi).p/\(if (l[i]'hi).b=[]then(l[i]'hi).s=sub else(l[i]'hi).s.r≠⟨#[]⟩/\∃b,(l[i]'hi).b=[b]/\aE! ts l i b (l[i]'hi).s)) :
  Calls prog 171 #[.pointer (some ⟨rb,0,none⟩),.int .i64 i] w fun e w'=>e= .returned (.bool t)/\Ext w w':=by
 have Q:=h! ht;clear ht;have G:=h! hin;have N:=h! h;obtain⟨ao,c,rfl,-,-,g⟩:=h.st.rows;obtain⟨O,f,rv,bv,rfl,-,F,B,K⟩:=g i hi;have z:=h! (And.intro F B);have a5:(i:Int)<(l.length:Int):=by omega
 obtain⟨x,I⟩:=e! (l[i]'hi);have a1:=h! I;have D:=h! (hin.l x (by rw[I];exact n5! hi));rw[<-I]at z K Q;obtain⟨qo,qc,rfl,-⟩:=z.out.1.rows;obtain⟨yo,yn,yc,rfl,H,-,-⟩:=z.out.2.len;rw[ad!,Nat.mul_one]at H;subst H;have k0:w.cell? ⟨O,f+i*11,none⟩=some (.string x.p.t):=K 0 _ rfl;have k1:w.cell? ⟨O,f+i*11+1,none⟩=some (.string x.p.i):=K 1 _ rfl;have k2:w.cell? ⟨O,f+i*11+2,none⟩=some (.string x.p.r):=K 2 _ rfl;have k3:w.cell? ⟨O,f+i*11+3,none⟩=some (.int .i64 x.r.k):=K 3 _ rfl;have k4:w.cell? ⟨O,f+i*11+4,none⟩=some (.string x.r.a):=K 4 _ rfl;have k5:w.cell? ⟨O,f+i*11+5,none⟩=some (.string x.r.b):=K 5 _ rfl;have k6:w.cell? ⟨O,f+i*11+6,none⟩=some (.slice qo x.r.ps.length qc):=K 6 _ rfl;have k7:w.cell? ⟨O,f+i*11+7,none⟩=some (.string x.s.t):=K 7 _ rfl;have k8:w.cell? ⟨O,f+i*11+8,none⟩=some (.string x.s.i):=K 8 _ rfl;have k9:w.cell? ⟨O,f+i*11+9,none⟩=some (.string x.s.r):=K 9 _ rfl;have ka:w.cell? ⟨O,f+i*11+10,none⟩=some (.slice yo x.b.length yc):=K 10 _ rfl;have A:=N.out.box.cells;unfold rdC at A;obtain⟨wa,j⟩:=e! (w.alloc (.cells #[.string x.p.t,.string x.p.i,.string x.p.r,.int .i64 x.r.k,.string x.r.a,.string x.r.b,.slice qo x.r.ps.length qc,.string x.s.t,.string x.s.i,.string x.s.r,.slice yo x.b.length yc] 109));have L:=h! (show Ext w wa from xa! j);have J:=h! (show Blk wa w.heap.size #[.string x.p.t,.string x.p.i,.string x.p.r,.int .i64 x.r.k,.string x.r.a,.string x.r.b,.slice qo x.r.ps.length qc,.string x.s.t,.string x.s.i,.string x.s.r,.slice yo x.b.length yc] 109 from bm! j);clear h g F B K hin I;have q:=h! (kE! rb am b ts tv T shut sub l _ x.p x.s D.out.1 G.out.tl wa (N.out.ext L.out));have R:=J.out.cells;unfold pV at q;rw[j]at R;go_enter func171,ntmps171
 go_wp2_with fail
 rw[<-j];clear k0 k1 k2 k3 k4 k5 k6 k7 k8 k9 ka A R j;generalize w.heap.size=xb at *;refine q.out.mono ?_;rintro e w2 ⟨rfl,v⟩;have L:=h! (Ext.trans L.out v);have J:=h! (J.out.below v);clear v q;by_cases hin:x.s∈ai! T x.p
 case neg =>
  have u:Hid (t=false):=h! (by cases t with | false=>rfl | true=>exact absurd (Q.out.1 rfl).1 hin);rw[v3! hin];clear hin;go_wp2_with fail
  go_ret
  exact⟨by rw[u.out];rfl,L.out⟩
 rw[v2! hin];replace Q:=h! (show t=true↔(if x.b=[]then x.s=sub else x.s.r≠⟨#[]⟩/\∃b,x.b=[b]/\aE! ts l i b x.s)from by rw[Q.out];exact⟨fun h=>h.2,fun h=>⟨hin,h⟩⟩);have R:=J.out.cells;clear hin;by_cases hb0:x.b=[]
 case pos =>
  have a0:Hid (decide (x.s=sub)=t):=h! (by rw[Bool.eq_iff_iff,u1!,Q.out,if_pos hb0]);rw[hb0,v6!]at R;clear hb0;go_wp2_with fail
  clear R;obtain⟨M,y⟩:∃M,Hid (M=World.drew w2):=⟨_,h! rfl⟩;have m:=h! (show Ext w2 M from xd! y.out);refine re! y.out ?_;have L:=h! (Ext.trans L.out m.out);have J:=h! (J.out.below m.out);have HB:=h! (N.out.box.below L.out);have h1:=fun W (h:Ext M W)=>(J.out.below h).cells;have h2:=fun W (h:Ext M W)=>(HB.out.below h).cells;have E:=fun W=>dH! x.s sub W;rw[a0.out]at E;clear y m;(refine WalkN.tk [0,1,2,3,4,5,6,7] ?_;(iterate 8 (refine c! ?_));refine TkN.n ?_)
  refine d! ?_;clear h1 h2 E;go_wp2_with fail
  go_ret
  exact⟨rfl,L.out⟩
 have a4:¬ x.b.length=0:=fun h=>hb0 (x0! h);have a2:((x.b.length:Int) == 0)=false:=by rw[n7!];omega
 replace Q:=h! (show t=true↔x.s.r≠⟨#[]⟩/\∃b,x.b=[b]/\aE! ts l i b x.s from by rw[Q.out,if_neg hb0]);clear hb0 a4;by_cases hsr:x.s.r=⟨#[]⟩
 case pos =>
  have u:Hid (t=false):=h! (by cases t with | false=>rfl | true=>exact absurd hsr (Q.out.1 rfl).1);rw[hsr]at R;clear hsr;go_wp2_with fail
  go_ret
  exact⟨by rw[u.out];rfl,L.out⟩
 have a3:x.s.r.toList.isEmpty=false:=by rw[ce!];exact v3! hsr
 have o:=h! (dN! rb am b ts tv T shut sub l _ G.out i hi x.s D.out.2.1 w2 (N.out.ext L.out) t (by rw[Q.out,<-a1.out];exact⟨fun h=>h.2,fun h=>⟨hsr,h⟩⟩));unfold pV at o;clear hsr;go_wp2_with fail
 clear R a3 a2;refine o.out.mono ?_;rintro e w5 ⟨rfl,C⟩;have L:=h! (Ext.trans L.out C);clear C o;go_wp2_with fail
 go_ret
 exact⟨rfl,L.out⟩
theorem nE! (rb am b:Nat)(ts:List TyS)(tv:Value)(T:List Tup)(shut:List R2)(sub:P3)(l:List Stp)(lv:Value)(_hin:Rd9In ts T shut l)(i:Nat)(hi:i<l.length)(w:World)(h:Rd9At w rb am b ts tv T shut sub l lv)(t:Bool)(ht:t=true↔(l[i]'hi).b.length=(l[i]'hi).r.ps.length/\∀(j:Nat)(q:RT),(l[i]'hi).r.ps[j]?=some q->∃b:Int,(l[i]'hi).b[j]?=some b/\partP l i b (l[i]'hi).p q) :
  Calls prog 177 #[.pointer (some ⟨rb,0,none⟩),.int .i64 i] w fun e w'=>e= .returned (.bool t)/\Ext w w':=by
 have HT:=h! ht;clear ht;have HR:=h! h;obtain⟨ao,c,rfl,-,-,A⟩:=h.st.rows;have a4:=h! A;obtain⟨bb,o,rv,bv,rfl,-,O,M,gi⟩:=A i hi;have B:=h! (And.intro O M);have ar:(i:Int)<(l.length:Int):=by omega
 obtain⟨x,hx⟩:=e! (l[i]'hi);rw[<-hx]at B gi HT;obtain⟨qo,qc,rfl,-⟩:=B.out.1.rows;obtain⟨yo,yn,yc,rfl,a1,-,-⟩:=B.out.2.len;rw[ad!,Nat.mul_one]at a1;subst a1;have k0:w.cell? ⟨bb,o+i*11,none⟩=some (.string x.p.t):=gi 0 _ rfl;have k1:w.cell? ⟨bb,o+i*11+1,none⟩=some (.string x.p.i):=gi 1 _ rfl;have k2:w.cell? ⟨bb,o+i*11+2,none⟩=some (.string x.p.r):=gi 2 _ rfl;have k3:w.cell? ⟨bb,o+i*11+3,none⟩=some (.int .i64 x.r.k):=gi 3 _ rfl;have k4:w.cell? ⟨bb,o+i*11+4,none⟩=some (.string x.r.a):=gi 4 _ rfl;have k5:w.cell? ⟨bb,o+i*11+5,none⟩=some (.string x.r.b):=gi 5 _ rfl;have k6:w.cell? ⟨bb,o+i*11+6,none⟩=some (.slice qo x.r.ps.length qc):=gi 6 _ rfl;have k7:w.cell? ⟨bb,o+i*11+7,none⟩=some (.string x.s.t):=gi 7 _ rfl;have k8:w.cell? ⟨bb,o+i*11+8,none⟩=some (.string x.s.i):=gi 8 _ rfl;have k9:w.cell? ⟨bb,o+i*11+9,none⟩=some (.string x.s.r):=gi 9 _ rfl;have ka:w.cell? ⟨bb,o+i*11+10,none⟩=some (.slice yo x.b.length yc):=gi 10 _ rfl;have U:=HR.out.box.cells;unfold rdC at U;obtain⟨wa,z⟩:=e! (w.alloc (.cells #[.string x.p.t,.string x.p.i,.string x.p.r,.int .i64 x.r.k,.string x.r.a,.string x.r.b,.slice qo x.r.ps.length qc,.string x.s.t,.string x.s.i,.string x.s.r,.slice yo x.b.length yc] 109));have HX:=h! (show Ext w wa from xa! z);have BX:=h! (show Blk wa w.heap.size #[.string x.p.t,.string x.p.i,.string x.p.r,.int .i64 x.r.k,.string x.r.a,.string x.r.b,.slice qo x.r.ps.length qc,.string x.s.t,.string x.s.i,.string x.s.r,.slice yo x.b.length yc] 109 from bm! z);clear h A O M gi _hin hx;obtain⟨al,an,aa,a9,a5,a0⟩:=B.out.1.rows;cases aa;have af:Hid (x.r.ps.length<=9223372036854775807):=h! (by omega);have a2:=h! a0;clear a9 a5 a0;have b1:=BX.out.cells;rw[z]at b1;by_cases hll:x.b.length=x.r.ps.length
 case neg =>
  have v:Hid (t=false):=h! (by cases t with | false=>rfl | true=>exact absurd (HT.out.1 rfl).1 hll);have ak:((x.b.length:Int) != (x.r.ps.length:Int))=true:=by rw[bne_iff_ne];omega
  clear hll;rw[z]at HX;go_enter func177,ntmps177
  go_wp2_with fail
  go_ret
  exact⟨by rw[v.out];rfl,HX.out⟩
 have Z:=h! hll;rw[hll]at b1 ka BX;rw[hll]at z;clear hll;go_enter func177,ntmps177
 go_wp2_with fail
 rw[<-z];clear k0 k1 k2 k3 k4 k5 k6 k7 k8 k9 ka U b1 z;generalize w.heap.size=xb at BX ⊢;go_loopw [6,7,26] (fun _ _ jv wr=>∃j:Nat,j<=x.r.ps.length/\jv= .int .i64 j/\(∀(m:Nat) (q:RT),m<j->x.r.ps[m]?=some q->∃b:Int,x.b[m]?=some b/\partP l i b x.p q)/\Ext wa wr) (fun _ _ jv _=>x.r.ps.length-(intOf jv).toNat)
 case atStart=>exact⟨0,v1! _,rfl,fun m q h=>absurd h (Nat.not_lt_zero _),Ext.refl _⟩
 case round =>
  obtain⟨j,hj,rfl,hg,hx⟩:=hrel;have RX:=h! (Ext.trans HX.out hx);have RA:=h! hx;have HG:=h! hg;clear hx hg;by_cases hlt:j<x.r.ps.length
  ·have D:j<x.b.length:=by rw[Z.out];exact hlt
   obtain⟨jb,a6,rfl,-,cj⟩:=bC! B.out.2 j D;obtain⟨pb,po,ai,e,ac,f0,f1,f2,f3,J⟩:=a2.out j hlt;subst e;obtain⟨uo,uc,rfl,-⟩:=J.rows;have R:=h! hlt;have Q:=h! (n4! hlt);have N:=h! (n4! D);have V:=h! (show wrap64 ((j:Int)+1)=((j+1:Nat):Int)from by have:=af.out;unfold wrap64;omega);have aj:(j:Int)<(x.r.ps.length:Int):=by omega
   have a8:=h! J;have ag:=Ext.cell RX.out cj;generalize (x.b[j]'D)=n at *;generalize x.r.ps[j]=q at *;clear hlt ac J cj D;go_wp2_with fail
   clear ag;obtain⟨wd,L⟩:∃wd,Hid (wd=World.drew wr):=⟨_,h! rfl⟩;have F:=h! (show Ext wr wd from xd! L.out);refine re! L.out ?_;have g:=h! (Ext.trans RX.out F.out);have Y:=h! (Ext.trans RA.out F.out);have HB:=h! (HR.out.box.below g.out);have a3:=h! (BX.out.below Y.out);clear L F
   have f:∀(ok:Bool),(ok=true↔partP l i n x.p q)->Hid ((ok=true->∀(m:Nat) (q:RT),m<j+1->x.r.ps[m]?=some q->∃b:Int,x.b[m]?=some b/\partP l i b x.p q)/\(ok=false->t=false)):=fun ok hok=>h! ⟨fun h m q2 hm hq=>by
     by_cases e:m=j
     ·subst e;rw[Q.out]at hq;cases hq;exact⟨n,N.out,hok.1 h⟩
     ·exact HG.out m q2 (by omega) hq,fun h=>by
     cases t with
     | false=>rfl
     | true =>
      obtain⟨b,h1,h2⟩:=(HT.out.1 rfl).2 j q Q.out;rw[N.out]at h1;cases h1;rw[hok.2 h2]at h;cases h⟩
   have h0:=fun W (h:Ext wd W)=>(a3.out.below h).cells;have h1:=fun W (h:Ext wd W)=>(HB.out.below h).cells;by_cases hn0:0<=n
   case neg =>
    have v:=h! ((f false ⟨fun h=>(by cases h),fun h=>absurd h.1 hn0⟩).out.2 rfl);have X:n<0:=by omega
    clear f hn0;(refine WalkN.tk [0,1,2] ?_;(iterate 3 (refine c! ?_));refine TkN.n ?_)
    refine k! 3 ?_;refine k! 4 ?_;refine k! 5 ?_
    (refine WalkN.tk [6,7] ?_;(iterate 2 (refine c! ?_));refine TkN.n ?_)
    refine k! 8 ?_;refine k! 9 ?_;refine k! 10 ?_;refine k! 11 ?_;refine k! 12 ?_;refine k! 13 ?_;refine k! 14 ?_;refine k! 15 ?_;refine k! 16 ?_;refine k! 17 ?_;refine k! 18 ?_
    (refine WalkN.tk [19,20] ?_;(iterate 2 (refine c! ?_));refine TkN.n ?_)
    refine k! 21 ?_;refine k! 22 ?_;refine k! 23 ?_;refine k! 24 ?_;refine k! 25 ?_;refine k! 26 ?_;refine k! 27 ?_;refine k! 28 ?_;refine k! 29 ?_;refine k! 30 ?_;refine k! 31 ?_;refine k! 32 ?_;refine k! 33 ?_;refine k! 34 ?_;refine k! 35 ?_;refine k! 36 ?_
    refine t! 37 ?_
    refine d! ?_;clear h0 h1;go_wp2_with fail
    go_ret
    exact⟨by rw[v.out];rfl,g.out⟩
   obtain⟨n,rfl⟩:=Int.eq_ofNat_of_zero_le hn0;by_cases hni:n<i
   case neg =>
    have v:=h! ((f false ⟨fun h=>(by cases h),fun h=>absurd h.2.1 (by omega)⟩).out.2 rfl);have X:¬ ((n:Int)<0):=by omega
    have ad:(i:Int)<=(n:Int):=by omega
    clear f hn0 hni;(refine WalkN.tk [0,1,2,3,4,5,6,7] ?_;(iterate 8 (refine c! ?_));refine TkN.n ?_)
    refine k! 8 ?_;refine k! 9 ?_;refine k! 10 ?_;refine k! 11 ?_;refine k! 12 ?_;refine k! 13 ?_;refine k! 14 ?_;refine k! 15 ?_;refine k! 16 ?_;refine k! 17 ?_;refine k! 18 ?_
    (refine WalkN.tk [19,20] ?_;(iterate 2 (refine c! ?_));refine TkN.n ?_)
    refine k! 21 ?_;refine k! 22 ?_;refine k! 23 ?_;refine k! 24 ?_;refine k! 25 ?_;refine k! 26 ?_;refine k! 27 ?_;refine k! 28 ?_;refine k! 29 ?_;refine k! 30 ?_;refine k! 31 ?_;refine k! 32 ?_;refine k! 33 ?_;refine k! 34 ?_;refine k! 35 ?_;refine k! 36 ?_
    refine t! 37 ?_
    refine d! ?_;clear h0 h1;go_wp2_with fail
    go_ret
    exact⟨by rw[v.out];rfl,g.out⟩
   have u:n<l.length:=Nat.lt_trans hni hi;have X:¬ ((n:Int)<0):=by omega
   have ad:¬ ((i:Int)<=(n:Int)):=by omega
   have aq:(n:Int)<(l.length:Int):=by omega
   have f:=fun ok (hok:ok=true↔(l[n]'u).p=x.p/\(l[n]'u).r=q)=>f ok (by rw[hok,ft! rfl u];exact⟨fun h=>⟨hni,h⟩,fun h=>h.2⟩);obtain⟨ob,oo,ov,ap,e,-,G,-,go⟩:=a4.out n u;cases e;have ah:=h! G;obtain⟨zo,zc,rfl,-⟩:=G.rows;have m0:=fun W (h:Ext wd W)=>Ext.cell (Ext.trans g.out h) (show w.cell? ⟨bb,o+n*11,none⟩=some (.string (l[n]'u).p.t)from go 0 _ rfl);have m1:=fun W (h:Ext wd W)=>Ext.cell (Ext.trans g.out h) (show w.cell? ⟨bb,o+n*11+1,none⟩=some (.string (l[n]'u).p.i)from go 1 _ rfl);have m2:=fun W (h:Ext wd W)=>Ext.cell (Ext.trans g.out h) (show w.cell? ⟨bb,o+n*11+2,none⟩=some (.string (l[n]'u).p.r)from go 2 _ rfl);have m3:=fun W (h:Ext wd W)=>Ext.cell (Ext.trans g.out h) (show w.cell? ⟨bb,o+n*11+3,none⟩=some (.int .i64 (l[n]'u).r.k)from go 3 _ rfl);have m4:=fun W (h:Ext wd W)=>Ext.cell (Ext.trans g.out h) (show w.cell? ⟨bb,o+n*11+4,none⟩=some (.string (l[n]'u).r.a)from go 4 _ rfl);have m5:=fun W (h:Ext wd W)=>Ext.cell (Ext.trans g.out h) (show w.cell? ⟨bb,o+n*11+5,none⟩=some (.string (l[n]'u).r.b)from go 5 _ rfl);have m6:=fun W (h:Ext wd W)=>Ext.cell (Ext.trans g.out h) (show w.cell? ⟨bb,o+n*11+6,none⟩=some (.slice zo (l[n]'u).r.ps.length zc)from go 6 _ rfl);have g0:=fun W (h:Ext wd W)=>Ext.cell (Ext.trans g.out h) f0;have g1:=fun W (h:Ext wd W)=>Ext.cell (Ext.trans g.out h) f1;have g2:=fun W (h:Ext wd W)=>Ext.cell (Ext.trans g.out h) f2;have g3:=fun W (h:Ext wd W)=>Ext.cell (Ext.trans g.out h) f3;clear G go hn0 hni f0 f1 f2 f3;generalize (l[n]'u)=y at *;clear u;have E:=fun W=>nc! y.p x.p W;by_cases he:y.p=x.p
   case neg =>
    have v:=h! ((f false ⟨fun h=>(by cases h),fun h=>absurd h.1 he⟩).out.2 rfl);rw[v2! he]at E;clear f he;(refine WalkN.tk [0,1,2,3,4,5,6,7,8,9,10,11,12,13,14,15,16,17,18,19,20] ?_;(iterate 21 (refine c! ?_));refine TkN.n ?_)
    refine k! 21 ?_;refine k! 22 ?_;refine k! 23 ?_;refine k! 24 ?_;refine k! 25 ?_;refine k! 26 ?_;refine k! 27 ?_;refine k! 28 ?_;refine k! 29 ?_;refine k! 30 ?_;refine k! 31 ?_;refine k! 32 ?_;refine k! 33 ?_;refine k! 34 ?_;refine k! 35 ?_;refine k! 36 ?_
    refine t! 37 ?_
    refine d! ?_;clear h0 h1 m0 m1 m2 m3 m4 m5 m6 g0 g1 g2 g3 E;go_wp2_with fail
    go_ret
    exact⟨by rw[v.out];rfl,g.out⟩
   rw[v3! (fun h=>h he)]at E;(refine WalkN.tk [0,1,2,3,4,5,6,7,8,9,10,11,12,13,14,15,16,17,18,19,20,21,22,23,24,25,26,27,28,29,30,31,32,33,34] ?_;(iterate 35 (refine c! ?_));refine TkN.n ?_)
   clear h0 h1 m0 m1 m2 m3 m4 m5 m6 g0 g1 g2 g3 E;have H:=h! (fU! y.r q _ _ wd (decP (y.r=q)) (ah.out.up g.out) (a8.out.up g.out) aN!);have f:=h! (f (decP (y.r=q)) (by rw[aN!];exact⟨fun h=>⟨he,h⟩,fun h=>h.2⟩));unfold rV at H;clear he;refine ob! 35 ?_;intro K hK;go_simp;refine H.out.mono ?_;rintro e w7 ⟨rfl,C⟩;refine hK.out _ _ C ?_;clear hK H;have ab:=h! (Ext.trans g.out C);have a7:=h! (Ext.trans Y.out C);clear C;(refine WalkN.tk [36,37] ?_;(iterate 2 (refine c! ?_));refine TkN.n ?_)
   refine d! ?_;generalize decP (y.r=q)=ok at *;cases ok with
   | true =>
    have ae:=h! (f.out.out.1 rfl);clear f;go_wp2_with fail
    go_roundw
    case rel=>exact⟨j+1,R.out,by first | rw[V.out] | go_num,ae.out,a7.out⟩
    case measure=>have:=R.out;(try rw[V.out]);simp[intOf];omega
   | false =>
    have v:=h! (f.out.out.2 rfl);clear f;go_wp2_with fail
    go_ret
    exact⟨by rw[v.out];rfl,ab.out⟩
  ·obtain rfl:j=x.r.ps.length:=by omega
   have I:Hid (t=true):=h! (HT.out.2 ⟨Z.out,fun m q hq=>HG.out m q (y3!.1 hq).1 hq⟩);clear hlt;go_wp2_with fail
   go_ret
   exact⟨by rw[I.out];rfl,RX.out⟩
theorem lw! (rb am b:Nat)(ts:List TyS)(tv:Value)(T:List Tup)(shut:List R2)(sub:P3)(l:List Stp)(lv:Value)(hin:Rd9In ts T shut l)(i:Nat)(hi:i<l.length)(w:World)(h:Rd9At w rb am b ts tv T shut sub l lv)(t:Bool)(ht:t=true↔stepP ts T shut sub l i (l[i]'hi)) :
  Calls prog 117 #[.pointer (some ⟨rb,0,none⟩),.int .i64 i] w fun e w'=>e= .returned (.bool t)/\Ext w w':=by
 have HT:=h! ht;have aB:=h! h.ty;clear ht;have J:=h! hin;have HR:=h! h;obtain⟨ao,c,rfl,-,-,a1⟩:=h.st.rows;obtain⟨bb,F,rv,bv,rfl,-,ax,aw,gi⟩:=a1 i hi;have a2:=h! (And.intro ax aw);have aV:(i:Int)<(l.length:Int):=by omega
 obtain⟨x,hx⟩:=e! (l[i]'hi);have Y:=h! hx;have B:=h! (hin.l x (by rw[hx];exact n5! hi));rw[<-hx]at a2 gi HT;obtain⟨qo,qc,rfl,-⟩:=a2.out.1.rows;obtain⟨yo,yn,yc,rfl,aG,-,-⟩:=a2.out.2.len;rw[ad!,Nat.mul_one]at aG;subst aG;have k0:w.cell? ⟨bb,F+i*11,none⟩=some (.string x.p.t):=gi 0 _ rfl;have k1:w.cell? ⟨bb,F+i*11+1,none⟩=some (.string x.p.i):=gi 1 _ rfl;have k2:w.cell? ⟨bb,F+i*11+2,none⟩=some (.string x.p.r):=gi 2 _ rfl;have k3:w.cell? ⟨bb,F+i*11+3,none⟩=some (.int .i64 x.r.k):=gi 3 _ rfl;have k4:w.cell? ⟨bb,F+i*11+4,none⟩=some (.string x.r.a):=gi 4 _ rfl;have k5:w.cell? ⟨bb,F+i*11+5,none⟩=some (.string x.r.b):=gi 5 _ rfl;have k6:w.cell? ⟨bb,F+i*11+6,none⟩=some (.slice qo x.r.ps.length qc):=gi 6 _ rfl;have k7:w.cell? ⟨bb,F+i*11+7,none⟩=some (.string x.s.t):=gi 7 _ rfl;have k8:w.cell? ⟨bb,F+i*11+8,none⟩=some (.string x.s.i):=gi 8 _ rfl;have k9:w.cell? ⟨bb,F+i*11+9,none⟩=some (.string x.s.r):=gi 9 _ rfl;have ka:w.cell? ⟨bb,F+i*11+10,none⟩=some (.slice yo x.b.length yc):=gi 10 _ rfl;have o:=HR.out.box.cells;unfold rdC at o;obtain⟨wa,V⟩:=e! (w.alloc (.cells #[.string x.p.t,.string x.p.i,.string x.p.r,.int .i64 x.r.k,.string x.r.a,.string x.r.b,.slice qo x.r.ps.length qc,.string x.s.t,.string x.s.i,.string x.s.r,.slice yo x.b.length yc] 109));have HX:=h! (show Ext w wa from xa! V);have BX:=h! (show Blk wa w.heap.size #[.string x.p.t,.string x.p.i,.string x.p.r,.int .i64 x.r.k,.string x.r.a,.string x.r.b,.slice qo x.r.ps.length qc,.string x.s.t,.string x.s.i,.string x.s.r,.slice yo x.b.length yc] 109 from bm! V);clear h a1 ax aw gi hin hx;obtain⟨to,tc,rfl,-,-,-⟩:=aB.out.rows;obtain⟨wb,a0⟩:=e! (wa.alloc (.cells #[.string x.p.t,.string x.p.r] 121));have ea:wa.heap.size=w.heap.size+1:=by rw[V];simp
 have ab:=h! (show Ext wa wb from xa! a0);have XB:=h! (Ext.trans HX.out ab.out);have BX:=h! (BX.out.below ab.out);have BF:=h! (show Blk wb (w.heap.size+1) #[.string x.p.t,.string x.p.r] 121 from by rw[a0,<-ea];exact Blk.made _ _ _);have HB:=h! (HR.out.box.below XB.out);have b1:=BX.out.cells;rw[a0,V]at b1;clear HX ea ab;go_enter func117,ntmps117
 go_wp2_with fail
 rw[<-V,<-a0];clear k0 k1 k2 k3 k4 k5 k6 k7 k8 k9 ka o b1 V a0;generalize w.heap.size+1=fb at *;obtain⟨wd,I⟩:∃wd,Hid (wd=World.drew wb):=⟨_,h! rfl⟩;have v:=h! (show Ext wb wd from xd! I.out);have X:=h! (Ext.trans XB.out v.out);have aj:=h! (fun U (hU:Ext wd U)=>cK! (S:=(· < w.heap.size)) ts _ x.p.t x.p.r U (fun y hy=>n1! hy (n6! (n0! w.heap.size) (Ext.trans X.out hU).size)) (aB.out.same fun y hy=>(Ext.trans X.out hU).block y (n1! hy (n0! w.heap.size))) J.out.ok J.out.u J.out.n B.out.1.1 B.out.1.2.2);apply Code.wp_mono (Q:=J4 (fun(zr:RT) (zo:Option Addr) (zc:Nat) (bo:Nat) U=>wd.heap.size<=bo/\Ext wd U/\Blk U bo #[.int .i64 zr.k,.string zr.a,.string zr.b,.slice zo zr.ps.length zc] 106/\RTAt (· < w.heap.size) U zr (.slice zo zr.ps.length zc)/\(∀r,lookA (ab! ts) ⟨x.p.t,x.p.r⟩=some r->zr=r)) _) ?rest1 ?reg1
 case reg1 =>
  refine al! (Ext wd) (by rw[<-I.out];exact Ext.refl _) (by kernel_rfl) (by kernel_rfl) (fun _ _ d _ _ h=>by cases h.1) ?_;rw[<-I.out];have hs:=fun U (h:Ext wd U)=>((HB.out.below v.out).below h).cells;have hq:=fun U (h:Ext wd U)=>((BF.out.below v.out).below h).cells;unfold rdC at hs;(refine WalkN.tk [0,1,2,3,4,5,6,7] ?_;(iterate 8 (refine c! ?_));refine TkN.n ?_)
  clear hs hq;refine p! 8 12 ?_ ?_
  ·refine b! ?_;intro K hK;go_simp;refine(aj.out wd (Ext.refl wd)).mono ?_;rintro e w5 ⟨⟨zr,zv⟩,rfl,G,C,-,g⟩;have G:RTAt (· < w.heap.size) w5 zr zv:=G;obtain⟨zo,zc,rfl,-⟩:=G.rows;dsimp only at C;unfold rvV rV;dsimp only;have M:Ext wd w5:=Ext.trans (Ext.refl wd) g;refine hK.out _ _ M ?_;clear hK;(refine WalkN.tk [9,10,11] ?_;(iterate 3 (refine c! ?_));refine TkN.n ?_)
   refine ob! 12 ?_;intro K hK;go_simp;obtain⟨bo,o⟩:=e! w5.heap.size;rw[<-o];have aF:=Ext.alloc w5 (.cells #[.int .i64 0,.string ⟨#[]⟩,.string ⟨#[]⟩,.slice none 0 0] 106);have L:Blk (w5.alloc (.cells #[.int .i64 0,.string ⟨#[]⟩,.string ⟨#[]⟩,.slice none 0 0] 106)) bo #[.int .i64 0,.string ⟨#[]⟩,.string ⟨#[]⟩,.slice none 0 0] 106:=by rw[o];exact Blk.made _ _ _
   have A:wd.heap.size<=bo:=by rw[o];exact M.size
   have az:=Ext.trans M aF;have aK:=G.same fun y hy=>aF.block y (n1! hy (n6! (n0! w.heap.size) (Ext.trans X.out M).size));refine hK.out _ _ az ?_;clear hK o G;generalize w5.alloc (.cells #[.int .i64 0,.string ⟨#[]⟩,.string ⟨#[]⟩,.slice none 0 0] 106)=w7 at *;refine ob! 13 ?_;intro K hK;have af:=L.cells;have ad:=L.free;go_simp;clear af ad;have ar:=L.put4 (.int .i64 zr.k) (.string zr.a) (.string zr.b) (.slice zo zr.ps.length zc);have a3:Ext wd ((((w7.setCell ⟨bo,0,none⟩ (.int .i64 zr.k)).setCell ⟨bo,1,none⟩ (.string zr.a)).setCell ⟨bo,2,none⟩ (.string zr.b)).setCell ⟨bo,3,none⟩ (.slice zo zr.ps.length zc)):=Below.setCell (Below.setCell (Below.setCell (Below.setCell az (p:=⟨bo,0,none⟩) A _) (p:=⟨bo,1,none⟩) A _) (p:=⟨bo,2,none⟩) A _) (p:=⟨bo,3,none⟩) A _
   have al:=aK.same (w':=(((w7.setCell ⟨bo,0,none⟩ (.int .i64 zr.k)).setCell ⟨bo,1,none⟩ (.string zr.a)).setCell ⟨bo,2,none⟩ (.string zr.b)).setCell ⟨bo,3,none⟩ (.slice zo zr.ps.length zc)) fun y hy=>by
    have:=A;have:=X.out.size;have:=n0! w.heap.size;rw[Below.heap_setCell _ _ _ y (by show y≠bo;omega),Below.heap_setCell _ _ _ y (by show y≠bo;omega),Below.heap_setCell _ _ _ y (by show y≠bo;omega),Below.heap_setCell _ _ _ y (by show y≠bo;omega)]
   refine hK.out _ _ a3 ?_;clear hK;refine t! 14 ?_
   refine d! ?_;exact⟨rfl,zr,zo,zc,bo,rfl,A,a3,ar,al,C⟩
  ·refine b! ?_;intro K hK;go_simp;obtain⟨bo,o⟩:=e! wd.heap.size;rw[<-o];have an:=Ext.alloc wd (.cells #[.int .i64 0,.string ⟨#[]⟩,.string ⟨#[]⟩,.slice none 0 0] 106);have aP:Blk (wd.alloc (.cells #[.int .i64 0,.string ⟨#[]⟩,.string ⟨#[]⟩,.slice none 0 0] 106)) bo #[.int .i64 0,.string ⟨#[]⟩,.string ⟨#[]⟩,.slice none 0 0] 106:=by rw[o];exact Blk.made _ _ _
   have A:wd.heap.size<=bo:=by rw[o];exact n0! _
   refine hK.out _ _ an ?_;clear hK o;generalize wd.alloc (.cells #[.int .i64 0,.string ⟨#[]⟩,.string ⟨#[]⟩,.slice none 0 0] 106)=w4 at *;refine ob! 8 ?_;intro K hK;go_simp;refine(aj.out w4 an).mono ?_;rintro e w5 ⟨⟨zr,zv⟩,rfl,G,C,-,g⟩;have G:RTAt (· < w.heap.size) w5 zr zv:=G;obtain⟨zo,zc,rfl,-⟩:=G.rows;dsimp only at C;unfold rvV rV;dsimp only;have M:Ext wd w5:=Ext.trans an g;refine hK.out _ _ M ?_;clear hK;(refine WalkN.tk [9,10,11] ?_;(iterate 3 (refine c! ?_));refine TkN.n ?_)
   have L:=aP.below g;refine ob! 13 ?_;intro K hK;have af:=L.cells;have ad:=L.free;go_simp;clear af ad;have ar:=L.put4 (.int .i64 zr.k) (.string zr.a) (.string zr.b) (.slice zo zr.ps.length zc);have a3:Ext wd ((((w5.setCell ⟨bo,0,none⟩ (.int .i64 zr.k)).setCell ⟨bo,1,none⟩ (.string zr.a)).setCell ⟨bo,2,none⟩ (.string zr.b)).setCell ⟨bo,3,none⟩ (.slice zo zr.ps.length zc)):=Below.setCell (Below.setCell (Below.setCell (Below.setCell M (p:=⟨bo,0,none⟩) A _) (p:=⟨bo,1,none⟩) A _) (p:=⟨bo,2,none⟩) A _) (p:=⟨bo,3,none⟩) A _
   have al:=G.same (w':=(((w5.setCell ⟨bo,0,none⟩ (.int .i64 zr.k)).setCell ⟨bo,1,none⟩ (.string zr.a)).setCell ⟨bo,2,none⟩ (.string zr.b)).setCell ⟨bo,3,none⟩ (.slice zo zr.ps.length zc)) fun y hy=>by
    have:=A;have:=X.out.size;have:=n0! w.heap.size;rw[Below.heap_setCell _ _ _ y (by show y≠bo;omega),Below.heap_setCell _ _ _ y (by show y≠bo;omega),Below.heap_setCell _ _ _ y (by show y≠bo;omega),Below.heap_setCell _ _ _ y (by show y≠bo;omega)]
   refine hK.out _ _ a3 ?_;clear hK;refine t! 14 ?_
   refine d! ?_;exact⟨rfl,zr,zo,zc,bo,rfl,A,a3,ar,al,C⟩
 rintro e _ W1 ⟨rfl,zr,zo,zc,bo,rfl,o,hX,hB,hA,C⟩;dsimp only at hB hA C ⊢;have Z:Hid (Ext wb W1):=h! (Ext.trans v.out hX);have a5:=h! hA;have a8:=h! C;have a7:=h! hB;have aL:Hid (wb.heap.size<=bo):=h! (n6! v.out.size o);clear o hX hB hA C v I aj X;have BX:=h! (BX.out.below Z.out);have BF:=h! (BF.out.below Z.out);have HB:=h! (HB.out.below Z.out);have HX:=h! (Ext.trans XB.out Z.out);clear XB Z aL;generalize w.heap.size=xb at BX ⊢;generalize hlk:lookA (ab! ts) (⟨x.p.t,x.p.r⟩:R2)=lk at *;have ap:=h! hlk;clear hlk;generalize hok:lk.isSome=ok at *;have a6:=h! hok;clear hok;go_wp2_with fail
 obtain⟨wd,I⟩:∃wd,Hid (wd=World.drew W1):=⟨_,h! rfl⟩;have v:=h! (show Ext W1 wd from xd! I.out);refine re! I.out ?_;have aE:=h! (Ext.trans HX.out v.out);have BX:=h! (BX.out.below v.out);have BF:=h! (BF.out.below v.out);have HB:=h! (HB.out.below v.out);have a7:=h! (a7.out.below v.out);have a5:=h! (a5.out.same fun y hy=>v.out.block y (n1! hy HX.out.size));have HX:=h! aE.out;clear I v aE;have h1:=fun W (h:Ext wd W)=>(BX.out.below h).cells;have h2:=fun W (h:Ext wd W)=>(BF.out.below h).cells;have h3:=fun W (h:Ext wd W)=>(HB.out.below h).cells;have h4:=fun W (h:Ext wd W)=>(a7.out.below h).cells;have f:=fun W (h:Ext wd W)=>(HR.out.sh.below (Ext.trans HX.out h)).look refK bB! Tryz.underlying141 (Tryz.zeroValue4 W) false (bA! ⟨x.p.t,x.p.r⟩ ⟨B.out.1.1,B.out.1.2.2⟩);simp only[gm!]at f;unfold r2V bV at f;dsimp only at f;unfold rdC at h3;cases ok with
 | false =>
  have m:=h! (show t=false from by cases t with | false=>rfl | true=>obtain⟨r,hr,-⟩:=HT.out.1 rfl;have h5:=ba! hr;rw[ap.out]at h5;rw[h5]at a6;exact absurd a6.out (by simp));(refine WalkN.tk [0,1,2] ?_;(iterate 3 (refine c! ?_));refine TkN.n ?_)
  refine k! 3 ?_;refine k! 4 ?_;refine k! 5 ?_;refine k! 6 ?_;refine k! 7 ?_;refine k! 8 ?_
  (refine WalkN.tk [9,10] ?_;(iterate 2 (refine c! ?_));refine TkN.n ?_)
  refine k! 11 ?_;refine k! 12 ?_;refine k! 13 ?_;refine k! 14 ?_;refine k! 15 ?_
  refine t! 16 ?_
  refine d! ?_;clear h1 h2 h3 h4 f;go_wp2_with fail
  go_ret
  exact⟨by rw[m.out];rfl,HX.out⟩
 | true =>
 by_cases hsh:(⟨x.p.t,x.p.r⟩:R2)∈shut
 case pos =>
  have m:=h! (show t=false from by cases t with | false=>rfl | true=>obtain⟨r,hr,-⟩:=HT.out.1 rfl;unfold ar! at hr;rw[if_pos hsh]at hr;cases hr);simp only[if_pos hsh]at f;unfold lookV at f;dsimp only at f;clear hsh;(refine WalkN.tk [0,1,2,3,4,5,6,7,8,9,10] ?_;(iterate 11 (refine c! ?_));refine TkN.n ?_)
  refine k! 11 ?_;refine k! 12 ?_;refine k! 13 ?_;refine k! 14 ?_;refine k! 15 ?_
  refine t! 16 ?_
  refine d! ?_;clear h1 h2 h3 h4 f;go_wp2_with fail
  go_ret
  exact⟨by rw[m.out];rfl,HX.out⟩
 simp only[if_neg hsh]at f;unfold lookV at f;dsimp only at f
 have aq:=h! (show t=true↔x.r∈zr.pre/\kindP ts T sub l i x from by
  have h5:ar! ts shut x.p=some zr:=by
   unfold ar!;rw[if_neg hsh,ap.out];obtain⟨r,hr⟩:=Option.isSome_iff_exists.1 a6.out;rw[hr,a8.out r hr]
  rw[HT.out];constructor
  ·rintro⟨r,hr,h1,h2⟩;rw[h5]at hr;injection hr with hr
   subst hr;exact⟨h1,h2⟩
  ·rintro⟨h1,h2⟩;exact⟨zr,h5,h1,h2⟩)
 obtain⟨tn,ah⟩:∃tn:Bool,tn=true↔x.r∈zr.pre:=⟨decP _,aN!⟩;have ag:=h! ah;have ac:=h! (kb! zr x.r _ _ wd (a5.out.mono fun _ h=>n1! h HX.out.size) (a2.out.1.up HX.out) tn ah);unfold rV at ac;clear HT a8 a6 ap hsh ah a5;(refine WalkN.tk [0,1,2,3,4,5,6,7,8,9,10,11,12,13] ?_;(iterate 14 (refine c! ?_));refine TkN.n ?_)
 clear h1 h2 h3 h4 f;refine ob! 14 ?_;intro K hK;go_simp;refine ac.out.mono ?_;rintro e w2 ⟨rfl,a9⟩;refine hK.out _ _ a9 ?_;clear hK ac;have HX:=h! (Ext.trans HX.out a9);have BX:=h! (BX.out.below a9);clear a9 BF HB a7;(refine WalkN.tk [15,16] ?_;(iterate 2 (refine c! ?_));refine TkN.n ?_)
 refine d! ?_;cases tn with
 | false =>
  have m:Hid (t=false):=h! (by cases t with | false=>rfl | true=>exact absurd (ag.out.2 (aq.out.1 rfl).1) (by decide));go_wp2_with fail
  go_ret
  exact⟨by rw[m.out];rfl,HX.out⟩
 | true =>
 have HT:=h! (show t=true↔kindP ts T sub l i x from by rw[aq.out];exact⟨fun h=>h.2,fun h=>⟨ag.out.1 rfl,h⟩⟩);have b1:=BX.out.cells;have E:=fun W=>dH! x.s s3z W;unfold s3z at E;generalize hkk:x.r.k=kk at *;have R:=h! hkk;obtain⟨pl,au⟩:∃pl,decide (x.s=(⟨⟨#[]⟩,⟨#[]⟩,⟨#[]⟩⟩:P3))=pl:=⟨_,rfl⟩;rw[au]at E;have aH:=h! (show pl=true↔x.s=s3z from by rw[<-au,u1!];rfl);clear hkk au aq ag;by_cases hk:kk=1
 case pos =>
  subst hk;have aD:=h! (mH! rb am b ts _ T shut sub l _ J.out i hi w2 (HR.out.ext HX.out) t (by rw[HT.out,<-Y.out];unfold kindP;rw[if_pos R.out]));go_wp2_with fail
  clear b1 E;refine aD.out.mono ?_;clear aD;rintro e w5 ⟨rfl,g⟩;have HX:=h! (Ext.trans HX.out g);clear g;go_wp2_with fail
  go_ret
  exact⟨rfl,HX.out⟩
 have aU:(kk == 1)=false:=by rw[n7!];exact hk
 have aI:=h! hk;clear hk;by_cases hk:kk=3
 case pos =>
  subst hk;have HT:=h! (show t=true↔x.s.r=⟨#[]⟩/\x.s∈ai! T ⟨x.p.t,x.p.i,x.r.a⟩/\∃b,x.b=[b]/\aE! ts l i b ⟨x.s.t,x.s.i,x.r.b⟩from by rw[HT.out];unfold kindP;rw[if_neg (by rw[R.out];decide),if_pos R.out]);by_cases hsr:x.s.r=⟨#[]⟩
  case neg =>
   have m:Hid (t=false):=h! (by cases t with | false=>rfl | true=>exact absurd (HT.out.1 rfl).1 hsr);have aS:x.s.r.toList.isEmpty=false:=by rw[ce!];exact v3! hsr
   clear hsr;go_wp2_with fail
   go_ret
   exact⟨by rw[m.out];rfl,HX.out⟩
  have aN:=h! hsr;have a4:=h! (kE! rb am b ts _ T shut sub l _ ⟨x.p.t,x.p.i,x.r.a⟩ x.s ⟨B.out.1.1,B.out.1.2.1,B.out.2.2.1⟩ J.out.tl w2 (HR.out.ext HX.out));unfold pV at a4;dsimp only at a4;rw[hsr]at b1 a4;rw[hsr]at E;clear hsr;go_wp2_with fail
  clear b1;refine a4.out.mono ?_;rintro e w3 ⟨rfl,N⟩;have HX:=h! (Ext.trans HX.out N);have BX:=h! (BX.out.below N);have b1:=BX.out.cells;clear N a4;by_cases hin:x.s∈ai! T ⟨x.p.t,x.p.i,x.r.a⟩
  case neg =>
   have m:Hid (t=false):=h! (by cases t with | false=>rfl | true=>exact absurd (HT.out.1 rfl).2.1 hin);rw[v3! hin];clear hin;go_wp2_with fail
   go_ret
   exact⟨by rw[m.out];rfl,HX.out⟩
  rw[v2! hin];have D:=h! (dN! rb am b ts _ T shut sub l _ J.out i hi ⟨x.s.t,x.s.i,x.r.b⟩ ⟨B.out.2.1.1,B.out.2.1.2.1,B.out.2.2.2⟩ w3 (HR.out.ext HX.out) t (by rw[HT.out,<-Y.out];exact⟨fun h=>h.2.2,fun h=>⟨aN.out,hin,h⟩⟩));unfold pV at D;dsimp only at D;clear hin;go_wp2_with fail
  clear b1;refine D.out.mono ?_;clear D;rintro e w5 ⟨rfl,g⟩;have HX:=h! (Ext.trans HX.out g);clear g;go_wp2_with fail
  go_ret
  exact⟨rfl,HX.out⟩
 have aR:(kk == 3)=false:=by rw[n7!];exact hk
 have HT:=h! (show t=true↔x.s=s3z/\(if x.r.k=2 then ∃b,x.b=[b]/\aE! ts l i b ⟨x.p.t,x.p.i,x.r.a⟩
  else if x.r.k=4 then ∃b,x.b=[b]/\∃q∈x.r.ps,partP l i b x.p q
  else x.b.length=x.r.ps.length/\∀(j:Nat) (q:RT),x.r.ps[j]?=some q->∃b:Int,x.b[j]?=some b/\partP l i b x.p q)from by rw[HT.out];unfold kindP;rw[if_neg (by rw[R.out];exact aI.out),if_neg (by rw[R.out];exact hk)])
 rw[R.out,<-aH.out]at HT;clear hk;by_cases hk:kk=2
 case pos =>
  subst hk;have HT:Hid (t=true↔pl=true/\∃b,x.b=[b]/\aE! ts l i b ⟨x.p.t,x.p.i,x.r.a⟩):=h! (by rw[HT.out,if_pos rfl]);cases pl with
  | false =>
   have m:Hid (t=false):=h! (by cases t with | false=>rfl | true=>exact absurd (HT.out.1 rfl).1 (by decide));go_wp2_with fail
   go_ret
   exact⟨by rw[m.out];rfl,HX.out⟩
  | true =>
   have D:=h! (dN! rb am b ts _ T shut sub l _ J.out i hi ⟨x.p.t,x.p.i,x.r.a⟩ ⟨B.out.1.1,B.out.1.2.1,B.out.2.2.1⟩ w2 (HR.out.ext HX.out) t (by rw[HT.out,<-Y.out];exact⟨fun h=>h.2,fun h=>⟨rfl,h⟩⟩));unfold pV at D;dsimp only at D;go_wp2_with fail
   clear b1 E;refine D.out.mono ?_;clear D;rintro e w5 ⟨rfl,g⟩;have HX:=h! (Ext.trans HX.out g);clear g;go_wp2_with fail
   go_ret
   exact⟨rfl,HX.out⟩
 have aT:(kk == 2)=false:=by rw[n7!];exact hk
 have HT:Hid (t=true↔pl=true/\(if kk=4 then ∃b,x.b=[b]/\∃q∈x.r.ps,partP l i b x.p q
  else x.b.length=x.r.ps.length/\∀(j:Nat) (q:RT),x.r.ps[j]?=some q->∃b:Int,x.b[j]?=some b/\partP l i b x.p q)):=h! (by rw[HT.out,if_neg hk])
 clear hk;by_cases hk:kk=4
 case neg =>
  have aQ:(kk == 4)=false:=by rw[n7!];exact hk
  have HT:Hid (t=true↔pl=true/\(x.b.length=x.r.ps.length/\∀(j:Nat) (q:RT),x.r.ps[j]?=some q->∃b:Int,x.b[j]?=some b/\partP l i b x.p q)):=h! (by rw[HT.out,if_neg hk]);clear hk;cases pl with
  | false =>
   have m:Hid (t=false):=h! (by cases t with | false=>rfl | true=>exact absurd (HT.out.1 rfl).1 (by decide));go_wp2_with fail
   go_ret
   exact⟨by rw[m.out];rfl,HX.out⟩
  | true =>
   have D:=h! (nE! rb am b ts _ T shut sub l _ J.out i hi w2 (HR.out.ext HX.out) t (by rw[HT.out,<-Y.out];exact⟨fun h=>h.2,fun h=>⟨rfl,h⟩⟩));go_wp2_with fail
   clear b1 E;refine D.out.mono ?_;clear D;rintro e w5 ⟨rfl,g⟩;have HX:=h! (Ext.trans HX.out g);clear g;go_wp2_with fail
   go_ret
   exact⟨rfl,HX.out⟩
 subst hk;have HT:Hid (t=true↔pl=true/\∃b,x.b=[b]/\∃q∈x.r.ps,partP l i b x.p q):=h! (by rw[HT.out,if_pos rfl]);have aC:=h! (byR29 rb am b ts _ T shut sub l _ i hi w2 (HR.out.ext HX.out));go_wp2_with fail
 clear b1 E;refine aC.out.mono ?_;rintro e w3 ⟨ok,z,⟨v1,v2⟩,rfl,C,av,aa,⟨so,sn,sc,hs⟩,N⟩;dsimp only at aa hs;subst hs;obtain⟨uo,uc,rfl,-⟩:=aa.rows;have HX:=h! (Ext.trans HX.out N);have BX:=h! (BX.out.below N);have a8:=h! C;have aJ:=h! av;have O:=h! aa;clear C av aa N aC;obtain⟨w4,H⟩:=e! (w3.alloc (.cells #[.string z.p.t,.string z.p.i,.string z.p.r,.int .i64 z.r.k,.string z.r.a,.string z.r.b,.slice uo z.r.ps.length uc,.string z.s.t,.string z.s.i,.string z.s.r,.slice so sn sc] 109));have X4:=h! (show Ext w3 w4 from xa! H);have HX:=h! (Ext.trans HX.out X4.out);have BX:=h! (BX.out.below X4.out);have BY:=h! (show Blk w4 w3.heap.size #[.string z.p.t,.string z.p.i,.string z.p.r,.int .i64 z.r.k,.string z.r.a,.string z.r.b,.slice uo z.r.ps.length uc,.string z.s.t,.string z.s.i,.string z.s.r,.slice so sn sc] 109 from bm! H);have O:=h! (O.out.up X4.out);have b1:=BX.out.cells;have b2:=BY.out.cells;have aO:∀(fn:Fn) (first cap:Array Value) (W:World),(Instr.makeFunc fn first cap).run prog W= .ok (.func fn first cap) W:=fun _ _ _ _=>rfl;unfold stV;rw[H]at b1 b2;clear X4;cases pl with
 | false =>
  have m:Hid (t=false):=h! (by cases t with | false=>rfl | true=>exact absurd (HT.out.1 rfl).1 (by decide));rw[H]at HX;go_wp2_with fail
  go_ret
  exact⟨by rw[m.out];rfl,HX.out⟩
 | true =>
 cases ok with
 | false =>
  have m:=h! (show t=false from by
   cases t with
   | false=>rfl
   | true =>
    obtain⟨-,b,h1,q,-,h2⟩:=HT.out.1 rfl;have h3:b=((b.toNat:Nat):Int):=by have:=h2.1;omega
    exact absurd (show b.toNat<i by have:=h2.2.1;omega) (aJ.out rfl _ (by rw[<-Y.out,h1,<-h3])))
  rw[H]at HX;go_wp2_with fail
  go_ret
  exact⟨by rw[m.out];rfl,HX.out⟩
 | true =>
 have ai:=h! (show t=true↔z.p=x.p/\z.r∈x.r.ps from by
  obtain⟨n,h1,h2,h3⟩:=a8.out rfl;obtain⟨h4,h5⟩:=y3!.1 h3;rw[<-Y.out]at h1;rw[HT.out];constructor
  ·rintro⟨-,b,e1,q,hq,e2⟩;rw[h1]at e1;injection e1 with e1
   have:=(ft! e1.symm h4).1 e2;rw[h5]at this;exact⟨this.2.1,by rw[this.2.2];exact hq⟩
  ·intro h;exact⟨rfl,n,h1,z.r,h.2,(ft! rfl h4).2 (by rw[h5];exact⟨h2,h.1,rfl⟩)⟩)
 have E:=fun W=>kH! z.p x.p W;by_cases he:z.p=x.p
 case neg =>
  have m:Hid (t=false):=h! (by cases t with | false=>rfl | true=>exact absurd (ai.out.1 rfl).1 he);rw[v3! he]at E;rw[H]at HX;clear he;go_wp2_with fail
  go_ret
  exact⟨by rw[m.out];rfl,HX.out⟩
 rw[v2! he]at E
 have aA:=h! (show x.r.ps.any (fun p=>decP (p=z.r))=t from by
  rw[Bool.eq_iff_iff,ai.out,x5!];exact⟨fun⟨q,h1,h2⟩=>⟨he,by rw[<-aN!.1 h2];exact h1⟩,fun h=>⟨z.r,h.2,eh! rfl⟩⟩)
 have ae:=h! (bs! w4 x.r.ps x.r.k x.r.a x.r.b _ 176 #[.pointer (some ⟨w3.heap.size,0,none⟩)] (enters_of func176 (by kernel_rfl) rfl) (fun p=>decP (p=z.r)) (by rw[mT!];exact a2.out.1.up HX.out) fun i hi W pvi hW hat=>by
  have BY:=h! (BY.out.below hW);have ay:=h! hat;have O:=h! (O.out.up hW);clear hW hat;generalize x.r.ps[i]=p at *;obtain⟨po,pc,rfl,-,-,-⟩:=ay.out.rows;have X1:=h! (Ext.alloc W (.cells #[.int .i64 p.k,.string p.a,.string p.b,.slice po p.ps.length pc] 106));have ak:=h! (fU! p z.r _ _ _ (decP (p=z.r)) (ay.out.up X1.out) (O.out.up X1.out) aN!);have bq:=(BY.out.below X1.out).cells;clear b1 b2 E;unfold rV at ak;unfold rV;go_enter func176,ntmps176
  go_wp2_with fail
  refine ak.out.mono ?_;rintro e w5 ⟨rfl,g⟩;have aM:=h! (Ext.trans X1.out g);clear g ak bq;go_wp2_with fail
  go_ret
  exact⟨rfl,aM.out⟩)
 rw[aA.out]at ae;clear he aA HT ai O;go_wp2_with fail
 rw[<-H];clear b1 b2 E aO H;refine ae.out.mono ?_;clear ae;rintro e w5 ⟨rfl,g⟩;have HX:=h! (Ext.trans HX.out g);clear g;go_wp2_with fail
 go_ret
 exact⟨rfl,HX.out⟩
end Go.Proofs.YtlhaghoajpglaaaGreat
