/- Lemmas for the claim, no condition. -/
import Derived.Shelf.Small.Strs
import Derived.Test.YtlhaghoajpglaaaGreatYLkSub13
import Derived.RangeFuncNested
set_option maxRecDepth 100000
set_option maxHeartbeats 8000000
namespace Go.Proofs.YtlhaghoajpglaaaGreat
open Go Go.RowKit Go.Maps Go.Shelf Go.Proofs.Tryz
theorem lW! (ts:List TyS)(tv:Value)(ty rel:ByteArray)(w:World) {S:Nat->Prop}(hSw:∀b,S b->b<w.heap.size)(h:pY! S w ts tv)(hu:aU! ts=true) :
  Calls prog 110 #[.agg #[tv],.string ty,.string rel] w fun e w'=>∃z:RV,e= .returned (.tuple #[rvV z,.bool (lookA (ac! ts) ⟨ty,rel⟩).isSome])/\RTAt S w' z.1 z.2/\(∀r,lookA (ac! ts) ⟨ty,rel⟩=some r->z.1=r)/\(lookA (ac! ts) ⟨ty,rel⟩=none->z=(.mk 0 ByteArray.empty ByteArray.empty [],.slice none 0 0))/\Below w.heap.size w w':=by
 obtain⟨ao,c,rfl,an,ap,C⟩:=h.rows;have HC:=h! C;have A:=h! hSw;have HU:=h! hu;obtain⟨w1,U⟩:=e! (w.alloc (.cells #[.slice ao ts.length c] 26));obtain⟨w2,L⟩:=e! (w1.alloc (.cells #[.int .i64 0,.string ⟨#[]⟩,.string ⟨#[]⟩,.slice none 0 0] 106));have e1:w1.heap.size=w.heap.size+1:=by rw[U];simp
 have ag:Ext w w1:=xa! U
 have a5:Ext w1 w2:=xa! L
 have s:=(show Blk w2 w.heap.size #[.slice ao ts.length c] 26 from Blk.below (bm! U) a5).cells;have HR:=h! (show Blk w2 (w.heap.size+1) #[.int .i64 0,.string ⟨#[]⟩,.string ⟨#[]⟩,.slice none 0 0] 106 from by rw[L,<-e1];exact Blk.made _ _ _);have a4:Hid (Below w.heap.size w w2):=h! (ag.trans a5);subst L U;clear h C hu e1 ag a5;go_enter func110,ntmps110
 go_wp2_with fail
 obtain⟨w2,L⟩:=e! ((w.alloc (.cells #[.slice ao ts.length c] 26)).alloc (.cells #[.int .i64 0,.string ⟨#[]⟩,.string ⟨#[]⟩,.slice none 0 0] 106));rw[<-L]at HR a4 ⊢;clear L s;obtain⟨br,ab⟩:=e! (w.heap.size+1);rw[<-ab]at HR ⊢;have f:Hid (w.heap.size<=br):=h! (by omega);clear ab;go_loopw [15] (fun ii wr=>∃i:Nat,i<=ts.length/\ii= .int .i64 i/\(∀j (hj:j<ts.length),j<i->ts[j].name≠ty)/\Blk wr br #[.int .i64 0,.string ⟨#[]⟩,.string ⟨#[]⟩,.slice none 0 0] 106/\Below w.heap.size w wr) (fun ii _=>ts.length-(intOf ii).toNat)
 case atStart=>exact⟨0,by omega,rfl,fun _ _ h=>absurd h (by omega),HR.out,a4.out⟩
 case round =>
  rename World=>wo
  obtain⟨i,hi,rfl,T,n,d⟩:=hrel;have F:=h! T;have Z:=h! n;have ai:=h! d;clear HR a4 T n;by_cases hlt:i<ts.length
  ·have a7:=fun h=>h! (ah! (p:=fun j hj=>ts[j].name≠ty) F.out hlt h);have o:=fun(h:ts[i].name=ty)=>h! (fun(t:∀j (hj:j<ts[i].rels.length),ts[i].rels[j].1≠rel)=>lj! HU.out hlt h t);have I:=fun(h:ts[i].name=ty)=>h! (fun k hk hr t=>np! (k:=k) (rel:=rel) hlt h F.out hk hr t);obtain⟨b,ac,ar,a9,hb,c0,c1,O⟩:=HC.out i hlt;cases a9;have d0:=(d.cell (p:=⟨b,ac+i*2,none⟩) (A.out _ hb)).trans c0;have d1:=(d.cell (p:=⟨b,ac+i*2+1,none⟩) (A.out _ hb)).trans c1;obtain⟨V,Y,rfl,al,ak,q⟩:=O.rows;have aj:=h! q;have ad:=d.alloc d.size (.cells #[.string ts[i].name,.slice V ts[i].rels.length Y] 176);have X:=h! ad;have a1:=h! (Z.out.below (Ext.alloc wo (.cells #[.string ts[i].name,.slice V ts[i].rels.length Y] 176)));have ah:=(Blk.made wo #[.string ts[i].name,.slice V ts[i].rels.length Y] 176).cells;clear c0 c1 O q ad d;generalize ts[i]=x at *;obtain⟨xn,l⟩:=x;dsimp only at *;by_cases he:xn=ty
   ·have HM:=o he;have HH:=I he;subst he;clear a7 o I;go_wp2_with fail
    obtain⟨wq,ae⟩:=e! (wo.alloc (.cells #[.string xn,.slice V l.length Y] 176));rw[<-ae]at X a1 ⊢;clear ae ah d0 d1;go_loopw [26] (fun kk wr=>∃k:Nat,k<=l.length/\kk= .int .i64 k/\(∀j (hj:j<l.length),j<k->l[j].1≠rel)/\Blk wr br #[.int .i64 0,.string ⟨#[]⟩,.string ⟨#[]⟩,.slice none 0 0] 106/\Below w.heap.size w wr) (fun kk _=>l.length-(intOf kk).toNat)
    case atStart=>exact⟨0,by omega,rfl,fun _ _ h=>absurd h (by omega),a1.out,X.out⟩
    case round =>
     obtain⟨k,hk,rfl,B,n,d⟩:=hrel;have m:=h! B;have R:=h! n;have a6:=h! d;clear a1 X B n;by_cases hlt2:k<l.length
     ·have H:=fun h=>h! (ah! (p:=fun j hj=>l[j].1≠rel) m.out hlt2 h);have J:=fun(h:l[k].1=rel)=>h! (HH.out k hlt2 h m.out);obtain⟨b2,g,aq,a9,t,c0,c1,c2,c3,c4,G⟩:=aj.out k hlt2;cases a9;have d0:=(d.cell (p:=⟨b2,g+k*5,none⟩) (A.out _ t)).trans c0;have d1:=(d.cell (p:=⟨b2,g+k*5+1,none⟩) (A.out _ t)).trans c1;have d2:=(d.cell (p:=⟨b2,g+k*5+2,none⟩) (A.out _ t)).trans c2;have d3:=(d.cell (p:=⟨b2,g+k*5+3,none⟩) (A.out _ t)).trans c3;have d4:=(d.cell (p:=⟨b2,g+k*5+4,none⟩) (A.out _ t)).trans c4;obtain⟨M,K,rfl,-⟩:=G.rows;obtain⟨wx,a2⟩:=e! (wr.alloc (.cells #[.string l[k].1,.int .i64 l[k].2.k,.string l[k].2.a,.string l[k].2.b,.slice M l[k].2.ps.length K] 181));have a8:Ext wr wx:=xa! a2
      have ah:=(show Blk wx wr.heap.size #[.string l[k].1,.int .i64 l[k].2.k,.string l[k].2.a,.string l[k].2.b,.slice M l[k].2.ps.length K] 181 from bm! a2).cells;have a0:=h! (R.out.below a8);have af:Hid (Below w.heap.size w wx):=h! (a6.out.trans (a8.mono a6.out.size));have am:=h! G;have aa:br≠wr.heap.size:=by have:=R.out.lt;omega
      clear c0 c1 c2 c3 c4 G a8 d;generalize l[k]=y at *;obtain⟨yn,p⟩:=y;dsimp only at *;by_cases he2:yn=rel
      ·have HF:=J he2;subst he2;have r3:=a0.out.cells;have f3:=a0.out.free;have u:=a0.out.set_to 0 (.int .i64 p.k) rfl;have s:=u.set_to 1 (.string p.a) rfl;have D:=s.set_to 2 (.string p.b) rfl;have E:=D.set_to 3 (.slice M p.ps.length K) rfl;have Q:=h! E;have N:Hid (Below w.heap.size w ((((wx.setCell ⟨br,0,none⟩ (.int .i64 p.k)).setCell ⟨br,1,none⟩ (.string p.a)).setCell ⟨br,2,none⟩ (.string p.b)).setCell ⟨br,3,none⟩ (.slice M p.ps.length K))):=h! ((((af.out.setCell f.out _).setCell f.out _).setCell f.out _).setCell f.out _);clear u s D E H J;subst a2;go_wp2_with fail
       refine bodyPost_ret (v := .tuple #[.agg #[.int .i64 p.k,.string p.a,.string p.b,.slice M p.ps.length K],.bool true]) ?_ rfl ⟨(p,.slice M p.ps.length K),?_,?_,fun r hr=>?_,fun hr=>?_,N.out⟩
       ·rw[results_cell_tmp rfl];have hl:=run_loadVar_row (P:=prog) _ br _ 106 _ _ _ Q.out Tryz.underlying106 rfl (by kernel_rfl);simp[asAddr,hl,Result.andThen]
       ·unfold rvV rV;rw[HF.out];rfl
       ·exact am.out.same ((Same.below N.out).mono A.out)
       ·rw[HF.out]at hr;cases hr;rfl
       ·rw[HF.out]at hr;cases hr
      ·have HN:=H he2;have a3:=aH! he2;rw[<-u5!,<-u5!]at a3;clear H J he2;subst a2;go_wp2_with fail
       go_roundw
       case rel=>exact⟨k+1,by omega,by go_num,HN.out,a0.out,af.out⟩
       case measure=>simp[intOf];omega
     ·obtain rfl:k=l.length:=by omega
      have HF:=h! (HM.out fun j hj=>m.out j hj hj);have r3:=R.out.cells;have f3:=R.out.free;have u:=R.out.set_to 0 (.int .i64 0) rfl;have s:=u.set_to 1 (.string ⟨#[]⟩) rfl;have D:=s.set_to 2 (.string ⟨#[]⟩) rfl;have E:=D.set_to 3 (.slice none 0 0) rfl;have Q:=h! E;have N:Hid (Below w.heap.size w ((((wr.setCell ⟨br,0,none⟩ (.int .i64 0)).setCell ⟨br,1,none⟩ (.string ⟨#[]⟩)).setCell ⟨br,2,none⟩ (.string ⟨#[]⟩)).setCell ⟨br,3,none⟩ (.slice none 0 0))):=h! ((((a6.out.setCell f.out _).setCell f.out _).setCell f.out _).setCell f.out _);clear u s D E d;go_wp2_with fail
      refine bodyPost_ret (v := .tuple #[.agg #[.int .i64 0,.string ⟨#[]⟩,.string ⟨#[]⟩,.slice none 0 0],.bool false]) ?_ rfl ⟨(.mk 0 ByteArray.empty ByteArray.empty [],.slice none 0 0),?_,?_,fun r hr=>?_,fun hr=>rfl,N.out⟩
      ·rw[results_cell_tmp rfl];have hl:=run_loadVar_row (P:=prog) _ br _ 106 _ _ _ Q.out Tryz.underlying106 rfl (by kernel_rfl);simp[asAddr,hl,Result.andThen]
      ·rw[HF.out];rfl
      ·exact RTAt.nil _ _ _ _ _
      ·rw[HF.out]at hr;cases hr
   ·have HN:=a7 he;have aa:=aH! he;rw[<-u5!,<-u5!]at aa;clear a7 o I he;go_wp2_with fail
    go_roundw
    case rel=>exact⟨i+1,by omega,by go_num,HN.out,a1.out,X.out⟩
    case measure=>simp[intOf];omega
  ·obtain rfl:i=ts.length:=by omega
   have HF:=h! (no! (rel:=rel) fun j hj=>F.out j hj hj);have r3:=Z.out.cells;have f3:=Z.out.free;have u:=Z.out.set_to 0 (.int .i64 0) rfl;have s:=u.set_to 1 (.string ⟨#[]⟩) rfl;have D:=s.set_to 2 (.string ⟨#[]⟩) rfl;have E:=D.set_to 3 (.slice none 0 0) rfl;have Q:=h! E;have N:Hid (Below w.heap.size w ((((wo.setCell ⟨br,0,none⟩ (.int .i64 0)).setCell ⟨br,1,none⟩ (.string ⟨#[]⟩)).setCell ⟨br,2,none⟩ (.string ⟨#[]⟩)).setCell ⟨br,3,none⟩ (.slice none 0 0))):=h! ((((ai.out.setCell f.out _).setCell f.out _).setCell f.out _).setCell f.out _);clear u s D E d;go_wp2_with fail
   refine bodyPost_ret (v := .tuple #[.agg #[.int .i64 0,.string ⟨#[]⟩,.string ⟨#[]⟩,.slice none 0 0],.bool false]) ?_ rfl ⟨(.mk 0 ByteArray.empty ByteArray.empty [],.slice none 0 0),?_,?_,fun r hr=>?_,fun hr=>rfl,N.out⟩
   ·rw[results_cell_tmp rfl];have hl:=run_loadVar_row (P:=prog) _ br _ 106 _ _ _ Q.out Tryz.underlying106 rfl (by kernel_rfl);simp[asAddr,hl,Result.andThen]
   ·rw[HF.out];rfl
   ·exact RTAt.nil _ _ _ _ _
   ·rw[HF.out]at hr;cases hr
end Go.Proofs.YtlhaghoajpglaaaGreat
namespace Go.Proofs.YtlhaghoajpglaaaGreat
open Go Go.Maps Go.RowKit Go.Proofs.Tryz
theorem Blk.set2 {w:World}{B:Nat}{a b:Value}{e:TypeId}(h:Blk w B #[a,b] e)(x0 x1:Value):Blk ((w.setCell ⟨B,0,none⟩ x0).setCell ⟨B,1,none⟩ x1) B #[x0,x1] e:=(h.set_to (cs':=#[x0,b]) 0 x0 rfl).set_to (cs':=#[x0,x1]) 1 x1 rfl
structure WlkI (w0 w:World)(gp lo:Nat)(tv:Value)(ps:List P3)(q:List (FT × FV3))(pv fv:Value):Prop where
 gk:GkAt w gp w0.heap.size ps pv fv
 row:FRow lo w q fv
 sb:Blk w w0.heap.size #[tv] 26
 ob:Blk w (w0.heap.size+2) #[.slice none 0 0,.slice none 0 0] 96
 be:Below w0.heap.size w0 w
 lo:w0.heap.size+4=gp/\gp<lo/\lo<=w.heap.size
section
variable {w0 w w' w2 w3 w6 w8 : World} {gp lo n0 : Nat} {tv pv fv pv' : Value} {ps ps' : List P3} {q : List (FT × FV3)} {x : FT} {v : FV3}
theorem WlkI.ext (h:WlkI w0 w gp lo tv ps q pv fv)(hx:Ext w w'):WlkI w0 w' gp lo tv ps q pv fv :=
 ⟨h.gk.ext hx,h.row.ext hx,h.sb.below hx,h.ob.below hx,h.be.trans (hx.mono (by have:=h.lo;omega)),h.lo.1,h.lo.2.1,n6! h.lo.2.2 hx.size⟩
theorem WlkI.num (h:WlkI w0 w gp lo tv ps q pv fv)(hf:Fine gp gp w w' pv pv')(hg:GkAt w' gp w0.heap.size ps' pv' fv):WlkI w0 w' gp lo tv ps' q pv' fv :=
 have hl:=h.lo
 ⟨hg,h.row.keep (hf.gpk h.gk (by omega)) fun x hx=>by rw[show x=gp from hx];exact hl.2.1,hf.gblk h.gk h.sb (by decide) (by decide),(hf.kept.block _ ⟨h.ob.lt,by omega,by omega,fun e=>by
  obtain⟨c,hc⟩:=h.gk.pts.typed e;rw[show w.heap[w0.heap.size+2]?=_ from h.ob]at hc;injection hc with hc
  injection hc with _ hc _
  exact absurd hc (by decide)⟩).trans h.ob,h.be.trans (hf.gpk h.gk (by omega)).below,hl.1,hl.2.1,n6! hl.2.2 hf.size⟩
theorem WlkI.step {g n c:Nat}(h:WlkI w0 w gp lo tv ps q pv fv)(hx:FTAt (FS n0 w) w x v)(hn0:lo<=n0)(hfv:∀g,fv.ownBlock=some g->g<n0)
  (h3:Ext w w3) (hg:w3.grownBy w6 fv.ownBlock) (hb:∀g',(Value.slice (some ⟨g,0,none⟩) n c).ownBlock=some g'->fv.ownBlock=some g'\/w3.heap.size<=g')
  (ho:Own w8 lo 128 4 (.slice (some ⟨g,0,none⟩) n c) (q.flatMap fC++fC (x,v))) (hbx:Blk w8 gp #[pv,.slice (some ⟨g,0,none⟩) n c] 96)
  (h8:∀y,y≠g->y≠gp->w8.heap[y]?=w6.heap[y]?) (hsz:w8.heap.size=w6.heap.size) (hos:w8.os=w6.os/\w8.tape=w6.tape/\w8.output=w6.output):WlkI w0 w8 gp lo tv ps (q++[(x,v)]) pv (.slice (some ⟨g,0,none⟩) n c):=by
 have hl:=h.lo;have i:fv.ownBlock=some g\/w3.heap.size<=g:=hb g rfl;have a1:=h3.size;have a2:=hg.size
 have a0:lo<=g:=by
  rcases i with h1 | h1
  ·exact(h.row.row.block g h1).1
  ·omega
 have h6:∀y,y<w.heap.size->fv.ownBlock≠some y->w6.heap[y]?=w.heap[y]?:=fun y hy hn=>(hg.block y (n1! hy h3.size) fun e=>hn e.symm).trans (h3.block y hy)
 have j:∀y,y<w.heap.size->fv.ownBlock≠some y->y≠g:=fun y hy hn e=>by
  subst e;rcases i with h1 | h1
  ·exact hn h1
  ·omega
 have f:∀y,y<w.heap.size->fv.ownBlock≠some y->y≠gp->w8.heap[y]?=w.heap[y]?:=fun y hy hn hp=>(h8 y (j y hy hn) hp).trans (h6 y hy hn);have d:∀y,y<lo->fv.ownBlock≠some y:=fun y hy e=>by have:=(h.row.row.block y e).1;omega
 refine⟨⟨hbx,h.gk.pts.keepOwn fun y hy=>?_⟩,?_,(f _ h.sb.lt (d _ (by omega)) (by omega)).trans h.sb,(f _ h.ob.lt (d _ (by omega)) (by omega)).trans h.ob,?_,hl.1,hl.2.1,by omega⟩
 ·exact f y (h.gk.pts.block y hy).2 (fun e=>h.row.row.apart h.gk.pts (by decide) e hy) (h.gk.ptNe y hy)
 ·refine⟨by rw[x9!];simpa using ho,fun y hy=>?_⟩
  have hm:∀b,(FS lo w b/\fv.ownBlock≠some b)->(FS lo w8 b/\(Value.slice (some ⟨g,0,none⟩) n c).ownBlock≠some b):=fun b hb'=>⟨⟨hb'.1.1,n1! hb'.1.2.1 (by omega),fun cs=>by rw[f b hb'.1.2.1 hb'.2 (by have:=hb'.1.1;omega)];exact hb'.1.2.2 cs⟩,fun e=>by
   injection e with e
   exact j b hb'.1.2.1 hb'.2 e.symm⟩
  have a:∀b,(FS lo w b/\fv.ownBlock≠some b)->w8.heap[b]?=w.heap[b]?:=fun b hb'=>f b hb'.1.2.1 hb'.2 (by have:=hb'.1.1;omega);rcases u3!.1 hy with hy | hy
  ·exact((h.row.parts y hy).same a).mono hm
  ·obtain rfl:=n9!.1 hy;exact((hx.mono fun b hb'=>(⟨hb'.mono hn0,fun e=>by have:=hfv b e;have:=hb'.1;omega⟩:FS lo w b/\fv.ownBlock≠some b)).same a).mono hm
 ·exact h.be.trans ⟨hos.1.trans (hg.os.trans h3.os),hos.2.1.trans (hg.tape.trans h3.tape),hos.2.2.trans (hg.output.trans h3.output),by omega,fun y hy=>f y (by omega) (d _ (by omega)) (by omega)⟩
end
def kD! (ts:List TyS)(T:List Tup)(shut:List R2)(p:P3)(most:Int)(w:World)(e:Ending)(w':World):Prop:=Ext w w'/\((∃n pv fv,qa! ts T shut p most n/\e= .returned (.tuple #[.agg #[pv,fv],.bool true])/\GrAt (fun x=>w.heap.size<=x/\x<w'.heap.size) w' (walkN ts T shut p n).1 (walkN ts T shut p n).2 pv fv)\/(bl! ts T shut p most/\e= .returned (.tuple #[.agg #[.slice none 0 0,.slice none 0 0],.bool false])))
theorem fA! {α:Type} [DecidableEq α] {l:List α}{j:Nat}(h:j<l.length)(x:α):(decide (x∈l.take (j+1))=(decide (x∈l.take j)||decide (l[j]=x))):=by
 rw[n2! h,Bool.eq_iff_iff,u1!,Bool.or_eq_true,u1!,u1!,u3!,n9!];exact or_congr Iff.rfl eq_comm
theorem is! (ts:List TyS)(tv:Value)(T:List Tup)(setv:Value)(shut:List R2)(sv:Value)(p:P3)(most:Int)(N:Nat)(w:World)(h:pY! (· < w.heap.size) w ts tv)(hu:aU! ts=true)(hset:Sl (· < w.heap.size) w 6 setv (tuCs T))(hsv:Sl (· < w.heap.size) w 2 sv (shut.flatMap r2C))(hsl:shut.length<=1099511627776)(hin:gD! ts T shut p N) :
  Calls prog 51 #[.agg #[tv],setv,sv,pV p,.int .i64 most] w fun e w'=>kD! ts T shut p most w e w':=by
 have J:=h! hin;have HU:=h! hu;have b6:=h! hsl;obtain⟨ao,c,rfl,-⟩:=h.rows;obtain⟨so,sc,rfl,-⟩:=Sl.rows aO! (by decide) hsv;obtain⟨to,tc,rfl,-⟩:=Sl.rows at! (by decide) (show Sl _ w 6 setv (T.flatMap tuC)from hset);have b8:=h! (fun W (hW:Below w.heap.size w W)=>(h.same (Same.below hW):pY! (· < w.heap.size) W ts (.slice ao ts.length c)));have bc:=h! (fun W (hW:Below w.heap.size w W)=>(hsv.same (Same.below hW):Sl (· < w.heap.size) W 2 (.slice so shut.length sc) (shut.flatMap r2C)));have bd:=h! (fun W (hW:Below w.heap.size w W)=>(hset.same (Same.below hW):Sl (· < w.heap.size) W 6 (.slice to T.length tc) (tuCs T)));obtain⟨wa,ag⟩:=e! (w.alloc (.cells #[.slice ao ts.length c] 26));obtain⟨wb,a4⟩:=e! (wa.alloc (.cells #[.string p.t,.string p.i,.string p.r] 32));obtain⟨wc,ae⟩:=e! (wb.alloc (.cells #[.slice none 0 0,.slice none 0 0] 96));obtain⟨wd,af⟩:=e! (wc.alloc (.cells #[.string p.t,.string p.i,.string p.r] 32));have ea:wa.heap.size=w.heap.size+1:=by rw[ag];simp
 have eb:wb.heap.size=w.heap.size+2:=by rw[a4];simp[ea]
 have ec:wc.heap.size=w.heap.size+3:=by rw[ae];simp[eb]
 have ed:wd.heap.size=w.heap.size+4:=by rw[af];simp[ec]
 obtain⟨we,U⟩:=e! (wd.alloc (.cells #[.slice (some ⟨w.heap.size+3,0,none⟩) 1 1,.slice none 0 0] 96));have ee:we.heap.size=w.heap.size+5:=by rw[U];simp[ed]
 have xa:Ext w wa:=xa! ag
 have xb:Ext wa wb:=xa! a4
 have xc:Ext wb wc:=xa! ae
 have xd:Ext wc wd:=xa! af
 have xe:Ext wd we:=xa! U
 have EI:=h! (show WlkI w we (w.heap.size+4) (w.heap.size+5) (.slice ao ts.length c) [p] [] (.slice (some ⟨w.heap.size+3,0,none⟩) 1 1) (.slice none 0 0) from
  ⟨⟨by rw[U,<-ed];exact Blk.made _ _ _,Own.below (w:=wd) (by rw[af,<-ec,cw!];exact Own.lit wc (by omega) _ 3 1 #[.string p.t,.string p.i,.string p.r] rfl (by unfold maxLen;omega) (by omega)) xe⟩,FRow.nil _ _,Blk.below (bm! ag) (xb.trans (xc.trans (xd.trans xe))),Blk.below (w:=wc) (by rw[ae,<-eb];exact Blk.made _ _ _) (xd.trans xe),xa.trans (xb.trans (xc.trans (xd.trans xe))),rfl,by omega,by omega⟩)
 have b0:=(Blk.below (show Blk wb (w.heap.size+1) #[.string p.t,.string p.i,.string p.r] 32 from by rw[a4,<-ea];exact Blk.made _ _ _) xc).cells;clear h hu hset hsv hsl hin ea eb ec ed ee xa xb xc xd xe;subst af ae a4 ag;unfold pV;go_enter func51,ntmps51
 go_wp2_with fail
 rw[<-U];clear b0 U;go_loopw [13] (fun iv wr=>∃(n:Nat) (q:List (FT × FV3)) (pv fv:Value),iv= .int .i64 n/\WalkAt ts T shut p most n/\q.map (·.1)=(walkN ts T shut p n).2/\WlkI w wr (w.heap.size+4) (w.heap.size+5) (.slice ao ts.length c) (walkN ts T shut p n).1 q pv fv) (fun iv _=>N+1-(intOf iv).toNat)
 case atStart=>exact⟨0,[],_,_,rfl,fun m hm=>absurd hm (Nat.not_lt_zero _),rfl,EI.out⟩
 case round =>
  obtain⟨n,q,pv,fv,rfl,hwn,hq,aX⟩:=hrel;have an:=h! hwn;have HQ:=h! hq;have RW:=h! aX;have bm:=h! hwn.le;have M:=h! (J.out.few n)
  have F:=h! (show q.length=n from by
   have:=congrArg List.length hq;rw[x1!,aF!]at this;exact this)
  clear hwn hq aX EI;obtain⟨po,pc,rfl,br,bo,-⟩:=Sl.rows aj! (by decide) (show Sl _ wr 3 pv ((walkN ts T shut p n).1.flatMap pC)from RW.out.gk.pts.sl);have Y:=RW.out.gk.box.cells;by_cases hlt:n<(walkN ts T shut p n).1.length
  ·by_cases hmo:((walkN ts T shut p n).1.length:Int)<=most
   ·have aC:=h! (show WalkAt ts T shut p most (n+1)from fun m hm=>by
     by_cases e:m=n
     ·subst e;exact⟨hlt,hmo⟩
     ·exact an.out m (by omega))
    obtain⟨bs,c',ba,-,-,f⟩:=Sl.rows aj! (by decide) (show Sl _ wr 3 (.slice po (walkN ts T shut p n).1.length pc) ((walkN ts T shut p n).1.flatMap pC)from RW.out.gk.pts.sl);cases ba;obtain⟨b,aa,rfl,-,f⟩:=f (by omega);have C:=f n hlt;clear f
    have ac:=h! (show walkN ts T shut p (n+1)=((stepG ts T shut (walkN ts T shut p n).1[n] (walkN ts T shut p n).1).2,(walkN ts T shut p n).2++[(stepG ts T shut (walkN ts T shut p n).1[n] (walkN ts T shut p n).1).1])from by
     rw[walkN,show(walkN ts T shut p n).1.getD n p=(walkN ts T shut p n).1[n]from by rw[n8!,n4! hlt];rfl])
    have bi:=h! (J.out.okp n _ (n5! hlt));have a0:=h! (show n<N from by have:=M.out;omega);have B:(n:Int)<((walkN ts T shut p n).1.length:Int):=by omega
    generalize (walkN ts T shut p n).1[n]=x at *;generalize hwn:walkN ts T shut p n=wn at *;obtain⟨ps,fs⟩:=wn;dsimp only at *;have I:¬ (most<(ps.length:Int)):=by omega
    clear hlt hmo hwn;obtain⟨xt,xi,xr⟩:=x;have c0:wr.cell? ⟨b,aa+n*3,none⟩=some (.string xt):=C 0 _ rfl;have c1:wr.cell? ⟨b,aa+n*3+1,none⟩=some (.string xi):=C 1 _ rfl;have c2:wr.cell? ⟨b,aa+n*3+2,none⟩=some (.string xr):=C 2 _ rfl;clear C;have X1:=h! (Ext.alloc wr (.cells #[.string xt,.string xi,.string xr] 32));have BX:=h! (Blk.made wr #[.string xt,.string xi,.string xr] 32);have W1:=h! (RW.out.ext X1.out);have Q:=BX.out.cells;have bb:=W1.out.sb.cells;have aj:=h! (show wrap64 ((n:Int)+1)=((n+1:Nat):Int)from by have:=a0.out;have:=J.out.nmax;unfold wrap64;omega);have aD:=h! (fun g hg=>(RW.out.row.row.block g hg).2);go_wp2_with fail
    clear Q bb c0 c1 c2 B I Y;refine(lW! (S:=(· < w.heap.size)) ts (.slice ao ts.length c) xt xr _ (fun y hy=>by have:=W1.out.lo;omega) (b8.out _ W1.out.be) HU.out).mono ?_;rintro e w2 ⟨z,rfl,hz,ax,aG,aW⟩;obtain⟨⟨zk,za,zb,s⟩,zv⟩:=z;dsimp only at hz;obtain⟨zo,zc,rfl,-⟩:=hz.rows;unfold rvV rV;dsimp only[RT.k,RT.a,RT.b,RT.ps]at hz ax aG ⊢;have X2:Hid (Ext _ w2):=h! aW;have W2:=h! (W1.out.ext X2.out);have ar:=h! (BX.out.below X2.out);have aZ:=h! ax;have HZ:=h! hz;have aM:Hid (bb! ts shut ⟨xt,xi,xr⟩=if (⟨xt,xr⟩:R2)∈shut then none else lookA (ac! ts) ⟨xt,xr⟩):=h! rfl;have Z1:Hid (wr.heap.size<w2.heap.size):=h! ar.out.lt;clear hz ax aG aW W1 X1 BX RW;generalize hlk:lookA (ac! ts) ⟨xt,xr⟩=lk at *;have b9:=h! hlk;clear hlk;generalize ho0:lk.isSome=o0 at *;have aK:=h! ho0;clear ho0;have aJ:=h! (fun g hg=>n1! (aD.out g hg) (Nat.le_of_lt Z1.out));generalize wr.heap.size=xb at *;have X3:=h! (Ext.alloc w2 (.cells #[.int .i64 zk,.string za,.string zb,.slice zo s.length zc] 106));have BZ:=h! (Blk.made w2 #[.int .i64 zk,.string za,.string zb,.slice zo s.length zc] 106);have W3:=h! (W2.out.ext X3.out);have ad:=h! (ar.out.below X3.out);have aP:=h! (HZ.out.same fun y (hy:y<w.heap.size)=>X3.out.block y (by have:=W2.out.lo;omega));clear HZ ar;go_wp2_with fail
    obtain⟨w3,az⟩:=e! (w2.alloc (.cells #[.int .i64 zk,.string za,.string zb,.slice zo s.length zc] 106));rw[<-az]at X3 BZ W3 ad aP ⊢;have aU:=h! (fun g hg=>n1! (aJ.out g hg) X3.out.size);clear az aJ aD f;generalize w2.heap.size=zb0 at *;go_loopw [16,53] (fun okv jv wr=>∃j:Nat,j<=shut.length/\jv= .int .i64 j/\okv= .bool (o0&&!decide ((⟨xt,xr⟩:R2)∈shut.take j))/\Ext w3 wr) (fun _ jv _=>shut.length-(intOf jv).toNat)
    case atStart=>exact⟨0,v1! _,rfl,by simp,Ext.refl _⟩
    case' round =>
     obtain⟨j,hj,rfl,rfl,hx⟩:=hrel;have RX:=h! hx;have RB:=h! (ad.out.below hx);clear hx;by_cases hjl:j<shut.length
     case' pos =>
      obtain⟨bq,c2,b1,-,-,f⟩:=Sl.rows aO! (by decide) (bc.out wr (W3.out.ext RX.out).be);cases b1;obtain⟨b2,O,rfl,-,f⟩:=f (by omega);have C:=f j hjl;clear f;have aB:=h! (fA! hjl (⟨xt,xr⟩:R2));have a5:=h! hjl;have a8:=h! (show wrap64 ((j:Int)+1)=((j+1:Nat):Int)from by have:=b6.out;unfold wrap64;omega);have b5:(j:Int)<(shut.length:Int):=by omega
      generalize shut[j]=y at *;generalize hdm:decide ((⟨xt,xr⟩:R2)∈shut.take j)=dm at *;clear hdm hjl;have al:=fun W=>pD! y ⟨xt,xr⟩ W;have bg:Hid (decide (y≠(⟨xt,xr⟩:R2))=!decide (y=(⟨xt,xr⟩:R2))):=h! (by simp);generalize decide (y≠(⟨xt,xr⟩:R2))=dn at *;obtain⟨yt,yr⟩:=y;unfold r2V at al;dsimp only at al;have k0:wr.cell? ⟨b2,O+j*2,none⟩=some (.string yt):=C 0 _ rfl;have k1:wr.cell? ⟨b2,O+j*2+1,none⟩=some (.string yr):=C 1 _ rfl;clear C;have X4:=h! (Ext.alloc wr (.cells #[.string yt,.string yr] 121));have bp:=(Blk.made wr #[.string yt,.string yr] 121).cells;have Q:=(RB.out.below X4.out).cells;cases hok:(o0&&!dm) with
      | true =>
       have H:=h! (show(o0&&!decide ((⟨xt,xr⟩:R2)∈shut.take (j+1)))=dn from by
        rw[aB.out,bg.out,Bool.not_or,<-Bool.and_assoc,hok,Bool.true_and])
       clear hok;go_wp2_with fail
       go_roundw
       case rel=>exact⟨j+1,a5.out,by first | rw[a8.out] | go_num,by rw[H.out],RX.out.trans X4.out⟩
       case measure=>have:=a5.out;(try rw[a8.out]);simp[intOf];omega
      | false =>
       have H:=h! (show(o0&&!decide ((⟨xt,xr⟩:R2)∈shut.take (j+1)))=false from by
        rw[aB.out,Bool.not_or,<-Bool.and_assoc,hok,Bool.false_and])
       clear hok al;go_wp2_with fail
       go_roundw
       case rel=>exact⟨j+1,a5.out,by first | rw[a8.out] | go_num,by rw[H.out],RX.out.trans X4.out⟩
       case measure=>have:=a5.out;(try rw[a8.out]);simp[intOf];omega
     case' neg =>
      obtain rfl:j=shut.length:=by omega
      clear hj hjl;rw[u2!];have W5:=h! ((W3.out.ext RX.out).ext (Ext.alloc wr (.cells #[.int .i64 0,.slice none 0 0,.slice none 0 0,.slice none 0 0] 128)));have X5:Hid (Ext w3 (wr.alloc (.cells #[.int .i64 0,.slice none 0 0,.slice none 0 0,.slice none 0 0] 128))):=h! (RX.out.trans (Ext.alloc _ _));have B5:=h! (Blk.made wr #[.int .i64 0,.slice none 0 0,.slice none 0 0,.slice none 0 0] 128);have Z:=h! (fun g hg=>n1! (aU.out g hg) X5.out.size);have Q:=(RB.out.below (Ext.alloc wr (.cells #[.int .i64 0,.slice none 0 0,.slice none 0 0,.slice none 0 0] 128))).cells;have aE:=(BZ.out.below X5.out).cells;have a2:Hid (w3.heap.size<=wr.heap.size/\wr.heap.size<(wr.alloc (.cells #[.int .i64 0,.slice none 0 0,.slice none 0 0,.slice none 0 0] 128)).heap.size):=h! ⟨RX.out.size,B5.out.lt⟩;cases hok:(o0&&!decide ((⟨xt,xr⟩:R2)∈shut))
      case' false =>
       have aN:=h! (show bb! ts shut ⟨xt,xi,xr⟩=none from by
        rw[aM.out];split
        ·rfl
        ·next hns =>
         rw[v3! hns]at hok;have h1:=aK.out;simp only[Bool.not_false,Bool.and_true]at hok;rw[hok]at h1;simpa using h1)
       have FX:Hid (∃(fx:FT) (s1:Option Addr) (s2 s3:Nat) (r1:Option Addr) (r2 r3:Nat) (t1:Option Addr) (t2 t3:Nat) (E:List P3) (l:Value) (n0:Nat),stepG ts T shut ⟨xt,xi,xr⟩ ps=(fx,E)/\WlkI w (wr.alloc (.cells #[.int .i64 0,.slice none 0 0,.slice none 0 0,.slice none 0 0] 128)) (w.heap.size+4) (w.heap.size+5) (.slice ao ts.length c) E q l fv/\Blk (wr.alloc (.cells #[.int .i64 0,.slice none 0 0,.slice none 0 0,.slice none 0 0] 128)) wr.heap.size #[.int .i64 fx.k,.slice s1 s2 s3,.slice r1 r2 r3,.slice t1 t2 t3] 128/\FTAt (FS n0 (wr.alloc (.cells #[.int .i64 0,.slice none 0 0,.slice none 0 0,.slice none 0 0] 128))) (wr.alloc (.cells #[.int .i64 0,.slice none 0 0,.slice none 0 0,.slice none 0 0] 128)) fx (.slice s1 s2 s3,.slice r1 r2 r3,.slice t1 t2 t3)/\w.heap.size+5<=n0/\∀g,fv.ownBlock=some g->g<n0):=h! ⟨FT.zero,none,0,0,none,0,0,none,0,0,ps,_,_,dy! aN.out,W5.out,B5.out,jY! _ _,W5.out.lo.2.2,Z.out⟩;clear aN hok W5 B5 Z W3 RX RB X5 BZ ad;go_wp2_with fail
       clear Q aE;generalize wr.alloc (.cells #[.int .i64 0,.slice none 0 0,.slice none 0 0,.slice none 0 0] 128)=wx at *
      case' true =>
       obtain⟨aA,aQ⟩:=Bool.and_eq_true_iff.1 hok
       have ak:=h! (show bb! ts shut ⟨xt,xi,xr⟩=some (.mk zk za zb s)/\(⟨⟨xt,xr⟩,.mk zk za zb s⟩:R2 × RT)∈ac! ts from by
        have hns:¬ ((⟨xt,xr⟩:R2)∈shut):=by simpa using aQ
        have h1:=aK.out;rw[aA]at h1;obtain⟨r,hr⟩:=Option.isSome_iff_exists.1 h1;have h2:=aZ.out r hr;rw[aM.out,if_neg hns,hr,<-h2];exact⟨rfl,aD! (by rw[b9.out,hr,<-h2])⟩)
       have aT:=h! (J.out.room _ ak.out.2);have ai:=h! (ke! (w.heap.size+4) w.heap.size (.slice to T.length tc) fv T ⟨xt,xi,xr⟩ w (fun W hW=>bd.out W hW) J.out.tlen (by omega) (.mk zk za zb s) (.slice (some ⟨b,aa,none⟩) ps.length pc) (.slice zo s.length zc) ps _ (aP.out.same fun y (hy:y<w.heap.size)=>X5.out.block y (by have:=W3.out.lo;omega)) W5.out.be W5.out.gk (by have h1:=aT.out;have h2:=M.out;dsimp only at h1;omega));unfold pV rV at ai;dsimp only[RT.k,RT.a,RT.b,RT.ps]at ai;clear hok aA aQ;go_wp2_with fail
       clear Q aE;refine ai.out.mono ?_;rintro e w6 ⟨⟨v1,v2,v3⟩,l,rfl,D,aw,am⟩;have aL:Hid (stepG ts T shut ⟨xt,xi,xr⟩ ps=formD T ⟨xt,xi,xr⟩ (.mk zk za zb s) ps):=h! (fp! ak.out.1);generalize formD T ⟨xt,xi,xr⟩ (.mk zk za zb s) ps=fd at *;obtain⟨fx,E⟩:=fd;unfold fV;dsimp only at D aw ⊢;obtain⟨u1,u2,-⟩:=(FTAt.iff _ _).1 D;obtain⟨s1,s2,s3,rfl,-,-,-⟩:=u1.len;obtain⟨r1,r2,r3,rfl,-,-,-⟩:=u2.len;obtain⟨t1,t3,rfl,-⟩:=D.rows;have B6:=h! (am.gblk W5.out.gk B5.out (by decide) (by decide));have FN:=h! (((((Fine.trans (Fine.of _ _ _ (Ext.alloc wr (.cells #[.int .i64 0,.slice none 0 0,.slice none 0 0,.slice none 0 0] 128))) am).set (x:=wr.heap.size) (i:=0) (n0! _) (.int .i64 fx.k)).set (x:=wr.heap.size) (i:=1) (n0! _) (.slice s1 s2 s3)).set (x:=wr.heap.size) (i:=2) (n0! _) (.slice r1 r2 r3)).set (x:=wr.heap.size) (i:=3) (n0! _) (.slice t1 fx.ps.length t3));have BP:=h! (B6.out.put4 (.int .i64 fx.k) (.slice s1 s2 s3) (.slice r1 r2 r3) (.slice t1 fx.ps.length t3));have GP:=h! ((((aw.setBox (i:=0) B6.out (by decide) (by decide) (.int .i64 fx.k)).setBox (i:=1) (show Blk _ wr.heap.size _ _ from B6.out.set 0 (.int .i64 fx.k)) (by decide) (by decide) (.slice s1 s2 s3)).setBox (i:=2) (show Blk _ wr.heap.size _ _ from(B6.out.set 0 (.int .i64 fx.k)).set 1 (.slice s1 s2 s3)) (by decide) (by decide) (.slice r1 r2 r3)).setBox (i:=3) (show Blk _ wr.heap.size _ _ from((B6.out.set 0 (.int .i64 fx.k)).set 1 (.slice s1 s2 s3)).set 2 (.slice r1 r2 r3)) (by decide) (by decide) (.slice t1 fx.ps.length t3));obtain⟨wx,V⟩:=e! ((((w6.setCell ⟨wr.heap.size,0,none⟩ (.int .i64 fx.k)).setCell ⟨wr.heap.size,1,none⟩ (.slice s1 s2 s3)).setCell ⟨wr.heap.size,2,none⟩ (.slice r1 r2 r3)).setCell ⟨wr.heap.size,3,none⟩ (.slice t1 fx.ps.length t3));have aq:Hid (∀y,y≠wr.heap.size->wx.heap[y]?=w6.heap[y]?):=h! (fun y hy=>by rw[V,Below.heap_setCell _ _ _ y hy,Below.heap_setCell _ _ _ y hy,Below.heap_setCell _ _ _ y hy,Below.heap_setCell _ _ _ y hy]);have aY:=h! (show wx.heap.size=w6.heap.size from by rw[V];simp);rw[<-V]at FN BP GP;have FX:=h! (show ∃(fx:FT) (s1:Option Addr) (s2 s3:Nat) (r1:Option Addr) (r2 r3:Nat) (t1:Option Addr) (t2 t3:Nat) (E:List P3) (l:Value) (n0:Nat),stepG ts T shut ⟨xt,xi,xr⟩ ps=(fx,E)/\WlkI w wx (w.heap.size+4) (w.heap.size+5) (.slice ao ts.length c) E q l fv/\Blk wx wr.heap.size #[.int .i64 fx.k,.slice s1 s2 s3,.slice r1 r2 r3,.slice t1 t2 t3] 128/\FTAt (FS n0 wx) wx fx (.slice s1 s2 s3,.slice r1 r2 r3,.slice t1 t2 t3)/\w.heap.size+5<=n0/\∀g,fv.ownBlock=some g->g<n0 from⟨fx,s1,s2,s3,r1,r2,r3,t1,fx.ps.length,t3,E,l,_,aL.out,(W3.out.ext RX.out).num FN.out GP.out,BP.out,(D.same fun y hy=>aq.out y (by have:=hy.1;have:=a2.out;omega)).mono fun y hy=>⟨hy.1,by rw[aY.out];exact hy.2.1,fun cs=>by rw[aq.out y (by have:=hy.1;have:=a2.out;omega)];exact hy.2.2 cs⟩,W5.out.lo.2.2,Z.out⟩);have o:=B6.out.cells;have b4:=B6.out.free;clear ai D aw am u1 u2 aL aT ak B6 FN BP GP aq aY W5 B5 Z W3 RX RB X5 BZ ad;go_wp2_with fail
       rw[<-V];clear o b4 V
      all_goals
       obtain⟨fx,s1,s2,s3,r1,r2,r3,t1,t2,t3,E,l,n0,ay,hw,o,D,aF,aV⟩:=FX.out;have a7:=h! ay;have QN:=h! aF;have QV:=h! aV;obtain⟨wq,ab⟩:=e! (World.drew wx);have QX:Ext wx wq:=xd! ab
       have QW:=h! (hw.ext QX);have QB:=h! (o.below QX);have QA:=h! ((D.same fun y hy=>QX.block y hy.2.1).mono (S':=FS n0 wq) fun y hy=>hy.ext QX);obtain⟨qo,qn,qc,rfl,aR,-,-⟩:=QW.out.row.row.sl.len;obtain rfl:qn=n:=by rw[ap!]at aR;have:=F.out;omega
       have bk:=h! a2.out;refine bx! (fun j=>decide (6<=j)) (fun W=>Blk W (w.heap.size+4) #[l,.slice qo qn qc] 96/\Blk W wr.heap.size #[.int .i64 fx.k,.slice s1 s2 s3,.slice r1 r2 r3,.slice t1 t2 t3] 128) (by rw[<-ab];exact⟨QW.out.gk.box,QB.out⟩) (by kernel_rfl) (by kernel_rfl) (fun _ _ d _ _ h=>by cases d <;> exact h) ?_;rw[<-ab];clear ab ay hw o D aF aV FX QX aR a2;generalize wr.heap.size=f0 at *;have h1:=fun W (h:Blk W (w.heap.size+4) #[l,.slice qo qn qc] 96/\Blk W f0 #[.int .i64 fx.k,.slice s1 s2 s3,.slice r1 r2 r3,.slice t1 t2 t3] 128)=>h.1.cells;have h2:=fun W (h:Blk W (w.heap.size+4) #[l,.slice qo qn qc] 96/\Blk W f0 #[.int .i64 fx.k,.slice s1 s2 s3,.slice r1 r2 r3,.slice t1 t2 t3] 128)=>h.2.cells;(refine WalkS.tk [0,1,2,3] ?_;(iterate 4 (refine z! ?_));refine TkS.n ?_)
       clear h1 h2;have A:=Ext.alloc wq (.cells #[.int .i64 0,.slice none 0 0,.slice none 0 0,.slice none 0 0] 128);refine oS! 4 ?_;refine b! ?_;intro K hK;go_simp;refine hK.out _ _ ⟨QW.out.gk.box.below A,QB.out.below A⟩ ?_;clear hK;have aS:=h! (show qn<=1073741823 from by have h1:=a0.out;have h2:=J.out.nmax;omega);refine oS! 5 ?_;refine b! ?_;intro K hK;refine bE! lR! (.tmp 76) (.tmp 79) rfl rfl (QW.out.row.row.below A) (m:=1) (news:=[.int .i64 0,.slice none 0 0,.slice none 0 0,.slice none 0 0]) rfl rfl (fun j u hu=>?_) (by simp[Value.oneCell']) (by have:=F.out;have:=aS.out;rw[ap!];simp;omega) (by have:=F.out;have:=aS.out;rw[ap!];simp;omega) (by have:=QW.out.lo;simp;omega) (fun v6 w6 hown6 hb6 hg6=>?_)
       ·rw[Addr.add_lit,cell_of_row _ wq.heap.size (0+j) #[.int .i64 0,.slice none 0 0,.slice none 0 0,.slice none 0 0] 128 (0,0) (heap_alloc_new wq _),Nat.zero_add];simpa using hu
       obtain⟨g,n6,c6,rfl⟩:∃g n c,v6= .slice (some ⟨g,0,none⟩) n c:=by
        rcases hown6.shape with⟨_,h⟩ | h
        ·simp at h
        ·exact h
       obtain rfl:n6=qn+1:=by
        obtain⟨a,b,c,h1,h2,-,-⟩:=hown6.sl.len;cases h1;rw[u4!,ap!,F.out]at h2;simp at h2;omega
       have aH:∀y,y<w.heap.size+5->(Value.slice qo qn qc).ownBlock≠some y:=fun y hy e=>by have:=(QW.out.row.row.block y e).1;omega
       have B6:Hid (Blk w6 (w.heap.size+4) _ _):=h! ((hg6.block _ (QW.out.gk.box.below A).lt fun e=>aH _ (by omega) e.symm).trans (QW.out.gk.box.below A));obtain⟨bl,G⟩:=hown6.typed (g:=g) rfl;have a9:Hid (Blk w6 g bl 128):=h! G
       have R:=h! (show g≠w.heap.size+4 from fun e=>by
        have h1:w6.heap[w.heap.size+4]?=_:=B6.out;rw[<-e,G]at h1;injection h1 with h1
        injection h1 with _ h1 _
        exact absurd h1 (by decide))
       have X:=h! hown6;have ah:=h! hb6;have a6:=h! hg6;have a1:=h! A;have F6:=h! (show Blk w6 f0 _ _ from(hg6.block _ (QB.out.below A).lt fun e=>by have h1:=(QW.out.row.row.block _ e.symm).2;have h2:=aU.out _ e.symm;have h3:=bk.out.1;omega).trans (QB.out.below A));refine hK.out _ _ ⟨B6.out,F6.out⟩ ?_;clear hK A hown6 hb6 hg6 G aH;simp only[Act.put,pA,pZ,pS];have bn:(qn:Int)<(qn:Int)+1:=by omega
       refine WalkS.rest (by kernel_rfl) ?_;(refine WalkN.tk [6,8] ?_;(iterate 2 (refine c! ?_));refine TkN.n ?_)
       refine p! 7 9 ?_ ?_
       ·refine b! ?_;intro K hK;have ap:=a9.out.free;obtain⟨k0,k1,k2,k3⟩:=cD! X.out (k:=qn*4) (by rw[ap!,F.out]);go_simp;clear ap k0 k1 k2 k3;refine hK.out _ _ trivial ?_;clear hK;have L:=h! (Own.setForm (p := .int .i64 0) X.out (k:=qn*4) (by rw[ap!,F.out]) (.int .i64 fx.k) (.slice s1 s2 s3) (.slice r1 r2 r3) (.slice t1 t2 t3));have B7:Hid (Blk (World.setForm w6 g (qn*4) (.int .i64 fx.k) (.slice s1 s2 s3) (.slice r1 r2 r3) (.slice t1 t2 t3)) (w.heap.size+4) _ _):=h! ((aw! _ _ _ _ _ _ _ (Ne.symm R.out)).trans B6.out);have o:∀j,(World.setForm w6 g (qn*4) (.int .i64 fx.k) (.slice s1 s2 s3) (.slice r1 r2 r3) (.slice t1 t2 t3)).frozen? ⟨w.heap.size+4,j,none⟩=false:=B7.out.free;have a3:=B7.out.cells;unfold World.setForm at o a3;refine ob! 9 ?_;intro K hK;go_simp;refine hK.out _ _ trivial ?_;clear hK o a3;refine d! ?_;have ES:=h! (QW.out.step (w8:=(World.setForm w6 g (qn*4) (.int .i64 fx.k) (.slice s1 s2 s3) (.slice r1 r2 r3) (.slice t1 t2 t3)).setCell ⟨w.heap.size+4,1,none⟩ (.slice (some ⟨g,0,none⟩) (qn+1) c6)) (v:=(.slice s1 s2 s3,.slice r1 r2 r3,.slice t1 t2 t3)) QA.out QN.out QV.out a1.out a6.out ah.out (Own.setBox L.out B7.out (by decide) _) (B7.out.set_to 1 _ rfl) (fun y h1 h2=>(Below.heap_setCell _ _ _ y h2).trans (aw! _ _ _ _ _ _ _ h1)) (by rw[show ∀(x:World) a v,(x.setCell a v).heap.size=x.heap.size from fun x a v=>by simp,aS!]) ⟨rfl,rfl,rfl⟩);unfold World.setForm at ES;clear L B7 B6 F6 a9 R X ah a6 a1 QW QB QA QN QV;go_wp2_with fail
        go_roundw
        case rel=>exact⟨qn+1,q++[(fx,(.slice s1 s2 s3,.slice r1 r2 r3,.slice t1 t2 t3))],l,.slice (some ⟨g,0,none⟩) (qn+1) c6,by first | rw[aj.out] | go_num,aC.out,by rw[ac.out,a7.out,v9!,HQ.out];rfl,by rw[ac.out,a7.out];exact ES.out⟩
        case measure=>have h1:=a0.out;(try rw[aj.out]);simp[intOf];omega
       ·refine b! ?_;intro K hK;have o:=B6.out.free;have a3:=B6.out.cells;go_simp;clear o a3;refine hK.out _ _ trivial ?_;clear hK;have B7:=h! (B6.out.set_to (cs':=#[l,.slice (some ⟨g,0,none⟩) (qn+1) c6]) 1 (.slice (some ⟨g,0,none⟩) (qn+1) c6) rfl);have L:=h! (Own.setBox (i:=1) X.out B6.out (by decide) (.slice (some ⟨g,0,none⟩) (qn+1) c6));have aO:=h! (a9.out.other (a:=⟨w.heap.size+4,1,none⟩) R.out (.slice (some ⟨g,0,none⟩) (qn+1) c6));have ap:=aO.out.free;obtain⟨k0,k1,k2,k3⟩:=cD! L.out (k:=qn*4) (by rw[ap!,F.out]);refine ob! 7 ?_;intro K hK;go_simp;refine hK.out _ _ trivial ?_;clear hK ap k0 k1 k2 k3;refine d! ?_;have ES:=h! (QW.out.step (w8:=World.setForm (w6.setCell ⟨w.heap.size+4,1,none⟩ (.slice (some ⟨g,0,none⟩) (qn+1) c6)) g (qn*4) (.int .i64 fx.k) (.slice s1 s2 s3) (.slice r1 r2 r3) (.slice t1 t2 t3)) (v:=(.slice s1 s2 s3,.slice r1 r2 r3,.slice t1 t2 t3)) QA.out QN.out QV.out a1.out a6.out ah.out (Own.setForm L.out (k:=qn*4) (by rw[ap!,F.out]) _ _ _ _) ((aw! _ _ _ _ _ _ _ (Ne.symm R.out)).trans B7.out) (fun y h1 h2=>(aw! _ _ _ _ _ _ _ h1).trans (Below.heap_setCell _ _ _ y h2)) (by rw[aS!];simp) ⟨rfl,rfl,rfl⟩);unfold World.setForm at ES;clear L B7 aO B6 F6 a9 R X ah a6 a1 QW QB QA QN QV;go_wp2_with fail
        go_roundw
        case rel=>exact⟨qn+1,q++[(fx,(.slice s1 s2 s3,.slice r1 r2 r3,.slice t1 t2 t3))],l,.slice (some ⟨g,0,none⟩) (qn+1) c6,by first | rw[aj.out] | go_num,aC.out,by rw[ac.out,a7.out,v9!,HQ.out];rfl,by rw[ac.out,a7.out];exact ES.out⟩
        case measure=>have h1:=a0.out;(try rw[aj.out]);simp[intOf];omega
   ·have I:most<((walkN ts T shut p n).1.length:Int):=by omega
    have b3:Hid (bl! ts T shut p most):=h! ⟨n,an.out,hlt,I⟩;have B:(n:Int)<((walkN ts T shut p n).1.length:Int):=by omega
    clear hlt hmo;have au:=RW.out.ob.cells;have av:=RW.out.ob.free;go_wp2_with fail
    clear au av Y;have HZ:=RW.out.ob.set2 (.slice none 0 0) (.slice none 0 0);refine bodyPost_ret (v := .tuple #[.agg #[.slice none 0 0,.slice none 0 0],.bool false]) ?_ rfl ⟨Below.setCell (Below.setCell RW.out.be (by show w.heap.size<=w.heap.size+2;omega) _) (by show w.heap.size<=w.heap.size+2;omega) _,.inr ⟨b3.out,rfl⟩⟩;rw[results_cell_tmp rfl];have hl:=run_loadVar_row (P:=prog) _ (w.heap.size+2) _ 96 _ _ _ HZ Tryz.underlying96 rfl (by kernel_rfl);simp[asAddr,hl,Result.andThen]
  ·have be:=h! (show qa! ts T shut p most n from⟨an.out,by have:=bm.out;omega⟩);have B:¬ ((n:Int)<((walkN ts T shut p n).1.length:Int)):=by omega
   obtain⟨fo,fn,fc,rfl,-,-,-⟩:=RW.out.row.row.sl.len;have Y:=RW.out.gk.box.cells;have au:=RW.out.ob.cells;have av:=RW.out.ob.free;clear hlt;go_wp2_with fail
   clear au av Y B;have HZ:=RW.out.ob.set2 (.slice po (walkN ts T shut p n).1.length pc) (.slice fo fn fc);have aI:∀y,y≠w.heap.size+2->((wr.setCell ⟨w.heap.size+2,0,none⟩ (.slice po (walkN ts T shut p n).1.length pc)).setCell ⟨w.heap.size+2,1,none⟩ (.slice fo fn fc)).heap[y]?=wr.heap[y]?:=fun y hy=>by rw[Below.heap_setCell _ _ _ y hy,Below.heap_setCell _ _ _ y hy]
   have bh:((wr.setCell ⟨w.heap.size+2,0,none⟩ (.slice po (walkN ts T shut p n).1.length pc)).setCell ⟨w.heap.size+2,1,none⟩ (.slice fo fn fc)).heap.size=wr.heap.size:=by simp
   obtain⟨q2,bj,b7,bf⟩:=RW.out.row.forms;have hS:Same (FS (w.heap.size+5) wr) wr ((wr.setCell ⟨w.heap.size+2,0,none⟩ (.slice po (walkN ts T shut p n).1.length pc)).setCell ⟨w.heap.size+2,1,none⟩ (.slice fo fn fc)):=fun y hy=>aI y (by have:=hy.1;omega);have hM:∀y,FS (w.heap.size+5) wr y->w.heap.size<=y/\y<((wr.setCell ⟨w.heap.size+2,0,none⟩ (.slice po (walkN ts T shut p n).1.length pc)).setCell ⟨w.heap.size+2,1,none⟩ (.slice fo fn fc)).heap.size:=fun y hy=>⟨by have:=hy.1;omega,by rw[bh];exact hy.2.1⟩;refine bodyPost_ret (v := .tuple #[.agg #[.slice po (walkN ts T shut p n).1.length pc,.slice fo fn fc],.bool true]) ?_ rfl ⟨Below.setCell (Below.setCell RW.out.be (by show w.heap.size<=w.heap.size+2;omega) _) (by show w.heap.size<=w.heap.size+2;omega) _,.inl ⟨n,_,_,be.out,rfl,?_,q2,bj.trans HQ.out,fun x hx=>((b7 x hx).same hS).mono hM,(bf.same hS).mono hM⟩⟩
   ·rw[results_cell_tmp rfl];have hl:=run_loadVar_row (P:=prog) _ (w.heap.size+2) _ 96 _ _ _ HZ Tryz.underlying96 rfl (by kernel_rfl);simp[asAddr,hl,Result.andThen]
   ·exact(RW.out.gk.pts.keepOwn fun g hg=>aI g fun e=>by
     obtain⟨c2,h2⟩:=RW.out.gk.pts.typed hg;rw[e,show wr.heap[w.heap.size+2]?=_ from RW.out.ob]at h2;injection h2 with h2
     injection h2 with _ h2 _
     exact absurd h2 (by decide)).sl
attribute [local go_sem] Oper.semAt_some
theorem pz! (l:List Tup):(tuCs l).length=l.length*6:=ag! l
theorem pA! (a:List Tup)(b:List Tup):tuCs (a++b)=tuCs a++tuCs b:=aQ! a b
theorem oA! (x:Tup):tuCs [x]=tuC x:=by simp[tuCs]
theorem ku! (w:World)(a b c d e f:Value)(t:TypeId):∀j u,[a,b,c,d,e,f][j]?=some u->(w.alloc (.cells #[a,b,c,d,e,f] t)).cell? ((⟨w.heap.size,0,none⟩:Addr).add j)=some u:=fun j u hu=>by
 rw[Addr.add_lit,cell_of_row _ w.heap.size (0+j) #[a,b,c,d,e,f] t (0,0) (heap_alloc_new w _),Nat.zero_add];simpa using hu
theorem pv! (F:Fence)(n:Nat)(h45:F.fn 196)(hro:F.round=none)(hn:2<=n)(g:Nat)(lb:Array Value)(hFg:F.fn g)(eg:∀args w,(callFunc g args).run prog w= .ok (.enter g args) w)
  (S Sp:List Tup->Prop) (N:Nat) (w:World) (hN:N<=137438953472) (hseq:SeqStopsK F (n-1) prog g lb (fun x=>#[tV x]) (Below w.heap.size) S Sp N w) :
  CallsIn F n prog 196 #[.slice none 0 0,.func (.func g) #[] lb] w fun e w'=>∃(v':Value) (ss:List Tup),e= .returned v'/\S ss/\Own w' w.heap.size 67 6 v' (tuCs ss)/\Ext w w':=by
 have h1:1<=n:=by omega
 refine callsIn_of_wp_marks func196 rfl h45 ?_ hro;simp only[ntmps196,List.size_toArray,u7!,v6!,Nat.reduceAdd,Nat.reduceSub,Array.replicate_succ,Array.replicate_zero,List.push_toArray,List.append_toArray,y2!,x2!];gi_wp2
 have bS:=Boxed.new w 27 (.slice none 0 0);have A:Below w.heap.size w (w.alloc (.cells #[.slice none 0 0] 27)):=(Below.refl _ w).alloc (n0! _) _;have a2:(w.alloc (.cells #[.slice none 0 0] 27)).heap.size=w.heap.size+1:=by simp
 have C:KeepsFrom 0 w (w.alloc (.cells #[.slice none 0 0] 27)):=(KeepsOthers.alloc _ _).from _;obtain⟨W0,B⟩:∃W0,w.alloc (.cells #[.slice none 0 0] 27)=W0:=⟨_,rfl⟩;rw[B]at bS A a2 C ⊢;clear B
 refine wpIn_rangeFunc_ownH hro h1 (gf:=g) (lb:=lb) rfl hFg eg hseq belowK_t (belowK_b (n₀:=w.heap.size) (by omega)) A (fun _=>rfl)
  (fun f W=>(∃v',Boxed W w.heap.size 27 v'/\Own W w.heap.size 67 6 v' (tuCs f)/\(∀g,v'.ownBlock=some g->(Value.slice none 0 0).ownBlock=some g\/w.heap.size<=g))/\(Kept (fun b=>b<w.heap.size/\(Value.slice none 0 0).ownBlock≠some b) w W/\KeepsFrom 0 w W))
  (fun _ _ _=>False)
  (OwnFrom.and (en! w.heap.size w.heap.size 27 67 6 (fun f=>tuCs f) (fun v'=>∀g,v'.ownBlock=some g->(Value.slice none 0 0).ownBlock=some g\/w.heap.size<=g) _) (OwnFrom.and (dJ! (fun b hb=>hb.1) (by omega)) (ownFrom_keepsFrom (by omega))))
  (fun _ _ _ _ _ hs _ _=>hs)
  ⟨⟨_,bS,Own.nil _ _ _ _,fun g hg => .inl hg⟩,Below.kept A (fun b hb=>hb.1),C⟩
  (fun x a' W=>∃J,w.heap.size<J/\Blk W J #[.string x.o.t,.string x.o.i,.string x.o.r,.string x.s.t,.string x.s.i,.string x.s.r] 67/\a' = {tmps:=#[.slice none 0 0,.func (.func g) #[] lb,.pointer (some ⟨w.heap.size,0,none⟩),undef,.slice none 0 0,.pointer (some ⟨J,0,none⟩),.func (.func g) #[] lb,tV x,undef,undef,undef,undef,undef],defers:=[]})
  (fun x a' _ X Y row hs hg hr=>by obtain⟨J,h1,h2,h3⟩:=hs;exact⟨J,h1,er! h2 hg (fun r e=>(hr r e).2),h3⟩)
  ?assign ?body ?done ?stop
 case assign =>
  rintro l2 f ⟨⟨H,G,L⟩,⟨O,I,U⟩⟩ W K ⟨⟨v',l,j,p⟩,d,q⟩ M;dsimp only[tV];gi_wp2
  refine M _ _ ((KeepsOthers.alloc _ _).from _) ((Below.refl _ _).alloc d.size _) ⟨⟨v',l.alloc _,j.below ((Below.refl _ _).alloc (n0! _) _),p⟩,d.alloc (fun b hb=>n1! hb.1 d.size) _,q.trans ((KeepsOthers.alloc _ _).from _)⟩ ⟨W.heap.size,l.lt,Blk.made W _ _,rfl⟩
 case body =>
  rintro l2 f ⟨⟨H,G,L⟩,⟨O,I,U⟩⟩ a' W hl ⟨r,hr⟩ ⟨⟨v',l,j,p⟩,d,q⟩ ⟨J,aa,bX,rfl⟩ ab;have cS:=l.cell;have cX:=bX.cells;have a5:=d.size;have a4:(tuCs f).length=f.length*6:=pz! f;have a1:(f.length*6+6)*96<=140737488355328:=by omega
  gi_wp2_with (first
   | (gi_at_builtin;go_loud (
      refine dq! tupT rfl _ _ rfl rfl (j.below ((Below.refl _ _).alloc (n0! _) _)) (ad:=⟨W.heap.size,0,none⟩) (m:=1) (c:=1) (news:=[.string H,.string G,.string L,.string O,.string I,.string U]) rfl rfl (ku! _ _ _ _ _ _ _ _) (by intro u hu;simp only[v7!,List.not_mem_nil,or_false]at hu;rcases hu with rfl | rfl | rfl | rfl | rfl | rfl <;> rfl) (by simp only[u7!,v6!];omega) (by simp only[u7!,v6!];rw[a4];exact a1) (by simp;omega) ?_;intro v2 w2 hO2 hG2 hg2
      obtain⟨T,R,Q,rfl⟩:∃T R Q,v2= .slice (some ⟨T,0,none⟩) R Q:=by
        rcases hO2.shape with⟨_,h⟩ | h
        · exact absurd h (by simp)
        · exact h
      have y:=(l.alloc (.cells #[.string H,.string G,.string L,.string O,.string I,.string U] 67)).kept hg2 (bC! (l.alloc _) (by decide) (j.below ((Below.refl _ _).alloc (n0! _) (.cells #[.string H,.string G,.string L,.string O,.string I,.string U] 67))));have a7:=y.cell;have a8:=y.frozen))
   | gi_in)
  have a0:KeepsFrom 0 W (W.alloc (.cells #[.string H,.string G,.string L,.string O,.string I,.string U] 67)):=(KeepsOthers.alloc _ _).from _;have a3:=a0.trans (hc! (j.below ((Below.refl _ _).alloc (n0! _) (.cells #[.string H,.string G,.string L,.string O,.string I,.string U] 67))) hg2 0);have E:KeepsFrom 0 W (w2.setCell ⟨w.heap.size,0,none⟩ (.slice (some ⟨T,0,none⟩) R Q)):=a3.trans ((KeepsOthers.setCell _ _ _).from _)
  have z:Below w.heap.size W (w2.setCell ⟨w.heap.size,0,none⟩ (.slice (some ⟨T,0,none⟩) R Q)):=(((Below.refl _ W).alloc a5 _).grown hg2 (by simp;omega) (fun g hg=>by
   rcases p g hg with h | h
   ·cases h
   ·exact h)).setCell (n0! _) _
  refine⟨jE! E _,z,⟨⟨_,y.set _,?_,fun g hg=>?_⟩,?_,q.trans E⟩⟩
  ·have:=hO2.keepOwn (w':=w2.setCell ⟨w.heap.size,0,none⟩ (.slice (some ⟨T,0,none⟩) R Q)) (fun g hg=>Below.heap_setCell _ _ _ g (fun e=>bC! y (by decide) hO2 (by rw[hg,e])));rw[pA! f,oA!];exact this
  ·rcases hG2 g hg with h | h
   ·exact p g h
   ·exact .inr (by have:=d.size;simp at h;omega)
  ·have a6:Kept (fun b=>b<w.heap.size/\(Value.slice none 0 0).ownBlock≠some b) (W.alloc (.cells #[.string H,.string G,.string L,.string O,.string I,.string U] 67)) w2:=⟨hg2.os,hg2.tape,hg2.output,hg2.size,fun b hb=>hg2.block b (by have:=d.size;have:=hb.1;simp;omega) (fun e=>by
    rcases p b e.symm with h | h
    ·exact hb.2 h
    ·have:=hb.1;omega)⟩
   exact((d.alloc (fun b hb=>n1! hb.1 d.size) _).trans a6).set (a:=⟨w.heap.size,0,none⟩) (fun h=>Nat.lt_irrefl _ h.1) _
 case done =>
  rintro D ys W hD hS ⟨⟨v',l,j,_⟩,d,q⟩ M;have cS:=l.cell
  obtain⟨a9,k',c',rfl⟩:∃ao k c,v' = .slice ao k c:=by
   rcases j.shape with⟨rfl,_⟩|⟨g,n,c,rfl⟩
   ·exact⟨_,_,_,rfl⟩
   ·exact⟨_,_,_,rfl⟩
  gi_wp2
  refine⟨by simp,.inl ⟨_,_,rfl,run_takeDeferred M,?_⟩⟩;refine⟨_,results_tmp rfl _ _ _,_,ys,rfl,hS,j.put _ M rfl,⟨d.os,d.tape,d.output,by have:=d.size;simpa using this,fun b hb=>(World.putObj_heap_other (fun e=>by omega)).trans (d.block b ⟨hb,fun e=>by cases e⟩)⟩⟩
 case stop =>
  rintro D c f W _ _ h _;exact h.elim
attribute [local go_sem] Oper.semAt_some
theorem if! (w:World)(o:Obj):w.grownBy (w.alloc o) none:=⟨rfl,rfl,rfl,by simp,fun b hb _=>Below.heap_alloc w o b hb⟩
theorem mX! (F:Fence)(n:Nat)(hf:F.fn 138)(hro:F.round=none)(hn:1<=n)(l Bs n₀ B0:Nat)(ao:Option Addr)(cap:Nat)(zs:List Tup)(hl:zs.length<=1099511627776)(J Jx:List Tup->World->Prop)(hA:AbidesFrom B0 J)
  (hY:∀pre x W,J pre W->pre.length<zs.length->YieldAt F (n-1) prog l #[tV x] W fun e W' =>
   (e= .returned (.bool true)/\J (pre++[x]) W'/\Below n₀ W W')\/(e= .returned (.bool false)/\Jx (pre++[x]) W'))
  (W:World) (hn0:n₀<=W.heap.size) (hBs:W.cell? ⟨Bs,0,none⟩=some (.slice ao zs.length cap)) (hc:Sl (· < n₀) W 6 (.slice ao zs.length cap) (zs.flatMap tuC)) (h0:J [] W) :
  CallsIn F n prog 138 #[.func (.yield l) #[] #[],.pointer (some ⟨Bs,0,none⟩)] W fun e W'=>(∃v,e= .returned v) /\
   ((∃ys,ys=zs/\J ys W')\/(∃pre,pre <+: zs/\Jx pre W')):=by
 refine callsIn_of_wp func138 rfl hf ?_ hro;simp only[ntmps138,List.size_toArray,u7!,v6!,Nat.reduceAdd,Nat.reduceSub,Array.replicate_succ,Array.replicate_zero,List.push_toArray,List.append_toArray,y2!,x2!];gi_wp2
 gi_loopw [7] (fun i wr=>∃k:Nat,k<=zs.length/\i= .int .i64 k/\J (zs.take k) wr/\Below n₀ W wr)
  (fun i _=>zs.length-(intOf i).toNat)
 case atStart=>exact⟨0,v1! _,rfl,h0,Below.refl _ _⟩
 case round =>
  obtain⟨k,hk,rfl,h,f⟩:=hrel;by_cases hlt:k<zs.length
  ·obtain⟨a6,c',a2,-,-,a⟩:=Sl.rows at! (by decide) (hc.same (w':=wr) fun x hx=>f.block x hx);cases a2;obtain⟨m,p,rfl,-,a⟩:=a (by omega);have b:=a k hlt;have j:=n2! hlt;have a4:(zs.take k).length<zs.length:=by rw[x4!];omega
   have g:zs.take (k+1) <+: zs:=List.take_prefix _ _;generalize zs[k]=x at *;obtain⟨⟨q,o,t⟩,⟨u,s,y⟩⟩:=x;have c0:wr.cell? ⟨m,p+k*6,none⟩=some (.string q):=b 0 _ rfl;have c1:wr.cell? ⟨m,p+k*6+1,none⟩=some (.string o):=b 1 _ rfl;have c2:wr.cell? ⟨m,p+k*6+2,none⟩=some (.string t):=b 2 _ rfl;have c3:wr.cell? ⟨m,p+k*6+3,none⟩=some (.string u):=b 3 _ rfl;have c4:wr.cell? ⟨m,p+k*6+4,none⟩=some (.string s):=b 4 _ rfl;have c5:wr.cell? ⟨m,p+k*6+5,none⟩=some (.string y):=b 5 _ rfl;have a3:=hA _ _ _ none h (if! wr (.cells #[.string q,.string o,.string t,.string u,.string s,.string y] 67)) (fun r e=>by cases e);have a0:Below n₀ wr (wr.alloc (.cells #[.string q,.string o,.string t,.string u,.string s,.string y] 67)):=(Below.refl _ _).alloc (n6! hn0 f.size) _;obtain⟨fn,a5,d,a1,hy,hR⟩:=hY _ ⟨⟨q,o,t⟩,⟨u,s,y⟩⟩ _ a3 a4;try unfold tV at hy
   try dsimp only at hy
   clear b a;gi_wp2
   refine hR.mono ?_;rintro e W3 (⟨rfl,hJ3,hk3⟩|⟨rfl,hJx3⟩)
   ·gi_wp2
    go_roundw
    case rel=>exact⟨k+1,by omega,by go_num,by rw[j];exact hJ3,f.trans (a0.trans hk3)⟩
    case measure=>simp[intOf];omega
   ·gi_wp2
    refine bodyPost_ret (results_none rfl _ _ _) rfl ?_;exact⟨⟨_,rfl⟩,.inr ⟨_,g,by rw[j];exact hJx3⟩⟩
  ·obtain rfl:k=zs.length:=by omega
   gi_wp2
   go_end0
   exact⟨⟨_,rfl⟩,.inl ⟨_,u2!,h⟩⟩
theorem kN! (F:Fence)(n:Nat)(hf:F.fn 138)(hro:F.round=none)(hn:1<=n)(Bs:Nat)(ao:Option Addr)(cap:Nat)(zs:List Tup)(hl:zs.length<=1099511627776)(w:World)(hBs:Bs<w.heap.size)
  (hc:w.cell? ⟨Bs,0,none⟩=some (.slice ao zs.length cap)) (hS:Sl (· < w.heap.size) w 6 (.slice ao zs.length cap) (zs.flatMap tuC)) :
  SeqStopsK F n prog 138 #[.pointer (some ⟨Bs,0,none⟩)] (fun x:Tup=>#[tV x]) (Below w.heap.size) (fun ys=>ys=zs) (fun pre=>pre <+: zs) zs.length w:=fun l J Jx W hW hA _ hY h0 =>
 (mX! F n hf hro hn l Bs w.heap.size W.heap.size ao cap zs hl J Jx hA hY W hW.size ((hW.cell (p:=⟨Bs,0,none⟩) hBs).trans hc) (hS.same fun x hx=>hW.block x hx) h0).mono fun _ _ h=>h
theorem hy! (ao:Option Addr)(k cap:Nat)(w:World):Calls prog 77 #[.slice ao k cap] w fun e w'=>e= .returned (.func (.func 138) #[] #[.pointer (some ⟨w.heap.size,0,none⟩)])/\w'=w.alloc (.cells #[.slice ao k cap] 27):=by
 go_enter func77,ntmps77
 go_wp2
 go_ret
 exact⟨rfl,rfl⟩
theorem gv! (w:World)(Bs:Nat)(ao:Option Addr)(cap:Nat)(zs:List Tup)(hl:zs.length<=137438953472)(hBs:Bs<w.heap.size)(hc:w.cell? ⟨Bs,0,none⟩=some (.slice ao zs.length cap))(hS:Sl (· < w.heap.size) w 6 (.slice ao zs.length cap) (zs.flatMap tuC)) :
  Calls prog 136 #[.func (.func 138) #[] #[.pointer (some ⟨Bs,0,none⟩)]] w fun e w'=>∃v',e= .returned v'/\Own w' w.heap.size 67 6 v' (tuCs zs)/\Ext w w':=by
 have HP:=h! (callsIn_wide.1 (pv! Fence.wide 3 trivial rfl (by omega) 138 _ trivial (enters_of func138 (by kernel_rfl) rfl) _ _ zs.length w hl (kN! Fence.wide 2 trivial rfl (by omega) Bs ao cap zs (by omega) w hBs hc hS)));clear hS hc;go_enter func136,ntmps136
 go_wp2_with fail
 refine HP.out.mono ?_;rintro e w1 ⟨v,ss,rfl,rfl,ho,hx⟩;go_wp2
 go_ret
 exact⟨v,rfl,ho,hx⟩
def ltT (a b:Tup):Bool:=if a.o=b.o then ltP a.s b.s else ltP a.o b.o
def cmpT (a b:Tup):Int:=if ltT a b then -1 else if a=b then 0 else 1
theorem pJ! {a b:P3}(h:ltP a b=true):a≠b:=fun e=>by subst e;rw[cC!]at h;cases h
theorem fC! (a:Tup):ltT a a=false:=by simp[ltT,cC!]
theorem dk! {a b:Tup}(h:ltT a b=false)(hne:a≠b):ltT b a=true:=by
 unfold ltT at *;by_cases h1:a.o=b.o
 ·rw[if_pos h1]at h;rw[if_pos h1.symm];refine cB! h fun h2=>hne ?_;cases a;cases b;simp_all
 ·rw[if_neg h1]at h;rw[if_neg (Ne.symm h1)];exact cB! h h1
theorem dj! {a b c:Tup}(h:ltT a b=true)(k:ltT b c=true):ltT a c=true:=by
 unfold ltT at *;by_cases h1:a.o=b.o <;> by_cases k1:b.o=c.o
 ·rw[if_pos h1]at h;rw[if_pos k1]at k;rw[if_pos (h1.trans k1)];exact bA! h k
 ·rw[if_neg k1]at k;rw[if_neg (h1▸k1),h1];exact k
 ·rw[if_neg h1]at h;rw[if_neg (k1▸h1),<-k1];exact h
 ·rw[if_neg h1]at h;rw[if_neg k1]at k;have:=bA! h k;rw[if_neg (pJ! this)];exact this
theorem gX! (a b:Tup):Go.Proofs.ltOf cmpT a b=ltT a b:=by
 unfold Go.Proofs.ltOf cmpT;cases h:ltT a b with
 | true=>simp
 | false =>
  simp only[Bool.false_eq_true,if_false];split <;> simp
theorem swoT:Go.Sort.SWO (Go.Proofs.ltOf cmpT) where
 irrefl x:=by rw[gX!];exact fC! x
 trans x y z h k:=by rw[gX!]at *;exact dj! h k
 ntrans x y z h k:=by
  rw[gX!]at *;cases hxz:ltT x z with
  | false=>rfl
  | true =>
   by_cases e1:x=y
   ·subst e1;rw[hxz]at k;cases k
   ·have h1:=dk! h e1;have h2:=dj! h1 hxz;rw[h2]at k;cases k
def UpT (l:List Tup):Prop:=l.Pairwise fun a b=>ltT a b=true
theorem UpT.nodup {l:List Tup}(h:UpT l):l.Nodup:=h.imp fun {a b} hab e=>by subst e;rw[fC!]at hab;cases hab
theorem UpT.uniq:∀ {l m:List Tup},UpT l->UpT m->(∀t,t∈l↔t∈m)->l=m
 | [],[],_,_,_=>rfl
 | [],b::m,_,_,h=>by have:=(h b).2 (by simp);cases this
 | a::l,[],_,_,h=>by have:=(h a).1 (by simp);cases this
 | a::l,b::m,hl,hm,h=>by
  have hl1:=List.pairwise_cons.1 hl;have hm1:=List.pairwise_cons.1 hm
  have hab:a=b:=by
   rcases v7!.1 ((h a).1 (by simp))with e | e
   ·exact e
   ·rcases v7!.1 ((h b).2 (by simp))with e2 | e2
    ·exact e2.symm
    ·have h1:=hm1.1 a e;have h2:=hl1.1 b e2;have:=dj! h1 h2;rw[fC!]at this;cases this
  subst hab;congr 1
  refine UpT.uniq hl1.2 hm1.2 fun t=>⟨fun ht=>?_,fun ht=>?_⟩
  ·rcases v7!.1 ((h t).1 (u9! _ ht))with e | e
   ·subst e;have:=hl1.1 t ht;rw[fC!]at this;cases this
   ·exact e
  ·rcases v7!.1 ((h t).2 (u9! _ ht))with e | e
   ·subst e;have:=hm1.1 t ht;rw[fC!]at this;cases this
   ·exact e
theorem UpT.filter {l:List Tup}(h:UpT l)(p:Tup->Bool):UpT (l.filter p):=List.Pairwise.filter _ h
structure SetT (l T:List Tup):Prop where
 up:UpT T
 mem:∀t,t∈T↔t∈l/\chkT t=true
theorem SetT.uniq {l T U:List Tup}(h:SetT l T)(k:SetT l U):T=U:=h.up.uniq k.up fun t=>(h.mem t).trans (k.mem t).symm
theorem SetT.len {l T:List Tup}(h:SetT l T):T.length<=l.length:=by
 have:∀ {l u:List Tup},l.Nodup->(∀x∈l,x∈u)->l.length<=u.length:=by
  intro l;induction l with
  | nil=>intro u _ _;exact v1! _
  | cons a l ih =>
   intro u hn hs;obtain⟨p,q,rfl⟩:=List.append_of_mem (hs a y4!);rw[List.nodup_cons]at hn
   have h1:=ih (u:=p++q) hn.2 fun x hx=>by
    have h2:=hs x (u9! _ hx);rcases u3!.1 h2 with h3 | h3
    ·exact List.mem_append_left _ h3
    ·rcases v7!.1 h3 with h3 | h3
     ·subst h3;exact absurd hx hn.1
     ·exact List.mem_append_right _ h3
   simp only[u7!,u4!]at h1 ⊢;omega
 exact this h.up.nodup fun x hx=>((h.mem x).1 hx).1
end Go.Proofs.YtlhaghoajpglaaaGreat
namespace Go.Proofs.YtlhaghoajpglaaaGreat
open Go Go.RowKit Go.Shelf Go.Proofs.Tryz
theorem Gr.fields {w w':World}(h:Gr w w'):w'.tape=w.tape/\w'.os=w.os/\w'.output=w.output/\w.drawn<=w'.drawn:=by
 obtain⟨q,os,rfl⟩:=h;exact⟨rfl,rfl,rfl,by simp[Sort.grow,World.drewN]⟩
theorem Gr.of {w w':World}(ht:w'.tape=w.tape)(ho:w'.os=w.os)(hp:w'.output=w.output)(hd:w.drawn<=w'.drawn)(hz:w.heap.size<=w'.heap.size)(hk:∀k,k<w.heap.size->w'.heap[k]?=w.heap[k]?):Gr w w':=by
 refine⟨w'.drawn-w.drawn,w'.heap.extract w.heap.size w'.heap.size,?_⟩
 have hh:w'.heap=w.heap++w'.heap.extract w.heap.size w'.heap.size:=by
  apply Array.ext_getElem?;intro i;by_cases hi:i<w.heap.size
  ·rw[hk i hi,Array.getElem?_append_left hi]
  ·rw[Array.getElem?_append_right (by omega),Array.getElem?_extract];by_cases h2:i<w'.heap.size
   ·rw[if_pos (by omega)];congr 1
    omega
   ·rw[if_neg (by omega)];exact Array.getElem?_eq_none (by omega)
 obtain⟨h1,t1,d1,o1,p1⟩:=w';simp only at ht ho hp hd hh;subst ht ho hp;simp only[Sort.grow,World.drewN];congr 1
 omega
theorem Gr.next {a b c:World}(h:Gr a b)(k:Gr b c):Gr a c:=by
 have d:=h.fields;have e:=k.fields;have h2:=h.below;have k2:=k.below;refine Gr.of (e.1.trans d.1) (e.2.1.trans d.2.1) (e.2.2.1.trans d.2.2.1) (n6! d.2.2.2 e.2.2.2) (n6! h2.size k2.size) fun j hj=>(k2.block j (n1! hj h2.size)).trans (h2.block j hj)
theorem Gr.set {w w':World}(h:Gr w w') {x i:Nat}(hx:w.heap.size<=x)(v:Value):Gr w (w'.setCell ⟨x,i,none⟩ v):=by
 have a:=h.fields;have h2:=h.below;exact Gr.of a.1 a.2.1 a.2.2.1 a.2.2.2 (by have:=h2.size;simpa using this) fun j hj=>(Below.heap_setCell _ _ _ j (by show j≠x;omega)).trans (h2.block j hj)
def Tryz.lays106_ren:Go.Shelf.Ren:=⟨fun | 106=>140 | 213=>199 | 265=>242 | n=>n,fun | 9=>9 | 3=>3 | n=>n,fun | n=>n⟩
theorem Tryz.lays106:Go.Proofs.Lays.n106 prog Tryz.lays106_ren := {
 mixed:=by kernel_rfl
 f106:=func140.trans (congrArg some (by kernel_rfl))
 f213:=func199.trans (congrArg some (by kernel_rfl))
 f265:=func242.trans (congrArg some (by kernel_rfl))
 t3:=Tryz.underlying3
 a3:=Tryz.isAgg3
 z3:=Tryz.sizeOf3
 v3:=Tryz.zeroValue3
 t9:=Tryz.underlying9
 a9:=Tryz.isAgg9
 z9:=Tryz.sizeOf9
 v9:=Tryz.zeroValue9}
theorem gr! (a b:ByteArray)(w:World):Calls prog 140 #[.string a,.string b] w fun e w'=>e= .returned (.int .i64 (Lib.compareBytes a.data.toList b.data.toList))/\w'=w:=Any.strings_Compare Tryz.lays106 a b w
theorem li! {P:Program}{c:Code}{Q:Exit->Act->World->Prop}{a:Act}{w:World}(R:Act->World->Prop)(h1:c.wp P (fun e a' w'=>e= .normal/\R a' w') a w)(h2:∀a' w',R a' w'->Q .normal a' w'):c.wp P Q a w :=
 Code.wp_mono (fun e a' w' h=>by
  obtain⟨rfl,h⟩:=h;exact h2 a' w' h) h1
end Go.Proofs.YtlhaghoajpglaaaGreat
namespace Go.Proofs.YtlhaghoajpglaaaGreat
open Go Go.RowKit Go.Proofs.Tryz
theorem mP!:∀l m:List UInt8,Lib.compareBytes l m=if l<m then -1 else if l=m then 0 else 1
 | [],[]=>by simp[Lib.compareBytes]
 | [],_::_=>by simp[Lib.compareBytes]
 | _::_,[]=>by simp[Lib.compareBytes]
 | a::l,b::m=>by
  rw[Lib.compareBytes,mP! l m];by_cases h:a<b
  ·rw[if_pos h,if_pos (List.cons_lt_cons_iff.2 (.inl h))]
  ·rw[if_neg h];by_cases h2:b<a
   ·have hne:¬ a=b:=fun e=>by rw[e]at h2;exact UInt8.lt_irrefl _ h2
    have h3:¬ (a::l)<(b::m):=fun h4=>by
     rcases List.cons_lt_cons_iff.1 h4 with h5 | ⟨h5,_⟩
     ·exact h h5
     ·exact hne h5
    rw[if_pos h2,if_neg h3,if_neg (by simp[hne])]
   ·have e:a=b:=UInt8.le_antisymm (UInt8.not_lt.1 h2) (UInt8.not_lt.1 h);subst e;rw[if_neg h2];have h3:(a::l)<(a::m)↔l<m:=by rw[List.cons_lt_cons_iff];simp[UInt8.lt_irrefl]
    by_cases h4:l<m
    ·rw[if_pos h4,if_pos (h3.2 h4)]
    ·rw[if_neg h4,if_neg (fun h5=>h4 (h3.1 h5))];simp
theorem pu! (a b:ByteArray):Lib.compareBytes a.data.toList b.data.toList=cmpS a b:=by
 rw[mP!];unfold cmpS
 have h1:(ltS a b=true)↔a.data.toList<b.data.toList:=by
  unfold ltS;rw[u5!,u5!,bytesLess_eq];simp
 have h2:a.data.toList=b.data.toList↔a=b:=⟨fun h=>by
  obtain⟨⟨x⟩⟩:=a;obtain⟨⟨y⟩⟩:=b;simp only at h;rw[h],fun h=>by rw[h]⟩
 simp only[h1,h2]
def tp (a:Tup):Nat->ByteArray
 | 0=>a.o.t
 | 1=>a.o.i
 | 2=>a.o.r
 | 3=>a.s.t
 | 4=>a.s.i
 | _=>a.s.r
def cL (a b:Tup):List Int:=[cmpS a.o.t b.o.t,cmpS a.o.i b.o.i,cmpS a.o.r b.o.r,cmpS a.s.t b.s.t,cmpS a.s.i b.s.i,cmpS a.s.r b.s.r]
def cmpC (a b:Tup):Int:=orL (cL a b)
theorem cL_at (a b:Tup):∀i (h:i<(cL a b).length),(cL a b)[i]=cmpS (tp a i) (tp b i)
 | 0,_=>rfl
 | 1,_=>rfl
 | 2,_=>rfl
 | 3,_=>rfl
 | 4,_=>rfl
 | 5,_=>rfl
 | _+6,h=>absurd h (by simp[cL])
theorem ps! (a b:Tup):cmpC a b=if a.o=b.o then ordP a.s b.s else ordP a.o b.o:=by
 obtain⟨⟨a1,a2,a3⟩,⟨a4,a5,a6⟩⟩:=a;obtain⟨⟨b1,b2,b3⟩,⟨b4,b5,b6⟩⟩:=b;simp only[cmpC,cL,ordP,orL,P3.mk.injEq,dn!];by_cases h1:a1=b1 <;> by_cases h2:a2=b2 <;> by_cases h3:a3=b3 <;> simp[h1,h2,h3]
theorem fB! (a b:Tup):Go.Proofs.ltOf cmpC a b=ltT a b:=by
 unfold ltT
 have e:Go.Proofs.ltOf cmpC a b=if a.o=b.o then Go.Proofs.ltOf ordP a.s b.s else Go.Proofs.ltOf ordP a.o b.o:=by
  unfold Go.Proofs.ltOf;rw[ps!];split <;> rfl
 rw[e,dc!,dc!]
theorem swoC:Go.Sort.SWO (Go.Proofs.ltOf cmpC):=by
 have:Go.Proofs.ltOf cmpC=Go.Proofs.ltOf cmpT:=funext fun a=>funext fun b=>by rw[fB!,gX!]
 rw[this];exact swoT
theorem mf! (a:Tup):cmpC a a=0:=by
 have h:∀x:ByteArray,cmpS x x=0:=fun x=>(dn! x x).2 rfl;simp[cmpC,cL,orL,h]
theorem kq! {a b:Tup}{i:Nat}(hi:i<6)(h0:∀j,j<i->cmpS (tp a j) (tp b j)=0)(h1:cmpS (tp a i) (tp b i)≠0):cmpC a b=cmpS (tp a i) (tp b i):=by
 have hl:i<(cL a b).length:=hi;unfold cmpC;rw[eE! (i:=i) fun j hj hji=>by rw[cL_at];exact h0 j hji];rw[List.drop_eq_getElem_cons hl,orL,cL_at,if_neg h1]
theorem mg! {a b:Tup}(h0:∀j,j<6->cmpS (tp a j) (tp b j)=0):cmpC a b=0:=by
 unfold cmpC;rw[eE! (i:=6) fun j hj hji=>by rw[cL_at];exact h0 j hji];rfl
def tpC (a:Tup):Array Value:=#[.string a.o.t,.string a.o.i,.string a.o.r,.string a.s.t,.string a.s.i,.string a.s.r]
theorem oB! (a:Tup):∀i,i<6->(tpC a)[i]?=some (.string (tp a i))
 | 0,_=>rfl
 | 1,_=>rfl
 | 2,_=>rfl
 | 3,_=>rfl
 | 4,_=>rfl
 | 5,_=>rfl
 | _+6,h=>absurd h (by omega)
theorem nb! (a b:Tup)(W:World):(binOp BinOp.eql 67 (tV a) (tV b)).run prog W= .ok (.bool (decide (a=b))) W:=by
 obtain⟨⟨a1,a2,a3⟩,⟨a4,a5,a6⟩⟩:=a;obtain⟨⟨b1,b2,b3⟩,⟨b4,b5,b6⟩⟩:=b;unfold tV;dsimp only;go_simp;simp only[bc!];by_cases h1:a1=b1
 ·by_cases h2:a2=b2
  ·by_cases h3:a3=b3
   ·by_cases h4:a4=b4
    ·by_cases h5:a5=b5
     ·by_cases h6:a6=b6 <;> simp[h1,h2,h3,h4,h5,h6]
     ·simp[h1,h2,h3,h4,h5]
    ·simp[h1,h2,h3,h4]
   ·simp[h1,h2,h3]
  ·simp[h1,h2]
 ·simp[h1]
def zr6:Array Value:=#[.string ⟨#[]⟩,.string ⟨#[]⟩,.string ⟨#[]⟩,.string ⟨#[]⟩,.string ⟨#[]⟩,.string ⟨#[]⟩]
section
variable {w w' : World} {B B' : Nat} {e : TypeId} {cs : Array Value}
theorem Blk.put6 (h:Blk w B zr6 e)(x0 x1 x2 x3 x4 x5:Value):Blk ((((((w.setCell ⟨B,0,none⟩ x0).setCell ⟨B,1,none⟩ x1).setCell ⟨B,2,none⟩ x2).setCell ⟨B,3,none⟩ x3).setCell ⟨B,4,none⟩ x4).setCell ⟨B,5,none⟩ x5) B #[x0,x1,x2,x3,x4,x5] e :=
 (((((h.set_to 0 x0 rfl).set_to 1 x1 rfl).set_to 2 x2 rfl).set_to 3 x3 rfl).set_to 4 x4 rfl).set_to 5 x5 rfl
theorem Blk.away6 (h:Blk w B cs e)(hne:B≠B')(x0 x1 x2 x3 x4 x5:Value):Blk ((((((w.setCell ⟨B',0,none⟩ x0).setCell ⟨B',1,none⟩ x1).setCell ⟨B',2,none⟩ x2).setCell ⟨B',3,none⟩ x3).setCell ⟨B',4,none⟩ x4).setCell ⟨B',5,none⟩ x5) B cs e :=
 (((((h.other (a:=⟨B',0,none⟩) hne x0).other (a:=⟨B',1,none⟩) hne x1).other (a:=⟨B',2,none⟩) hne x2).other (a:=⟨B',3,none⟩) hne x3).other (a:=⟨B',4,none⟩) hne x4).other (a:=⟨B',5,none⟩) hne x5
theorem hf! (h:Gr w w')(hB:w.heap.size<=B)(x0 x1 x2 x3 x4 x5:Value):Gr w ((((((w'.setCell ⟨B,0,none⟩ x0).setCell ⟨B,1,none⟩ x1).setCell ⟨B,2,none⟩ x2).setCell ⟨B,3,none⟩ x3).setCell ⟨B,4,none⟩ x4).setCell ⟨B,5,none⟩ x5) :=
 (((((h.set hB x0).set hB x1).set hB x2).set hB x3).set hB x4).set hB x5
end
theorem ba! (t:Tup)(w:World):Calls prog 139 #[tV t] w fun e w'=>e= .returned (tV t)/\Gr w w':=by
 obtain⟨⟨b,d,a⟩,⟨st,si,c⟩⟩:=t;have hb:=(Blk.made w #[.string b,.string d,.string a,.string st,.string si,.string c] 67);have h1:Gr w (w.alloc (.cells #[.string b,.string d,.string a,.string st,.string si,.string c] 67)):=(Gr.refl _).alloc _;unfold tV;dsimp only;go_enter func139,ntmps139
 go_wp2_with fail
 refine bodyPost_ret (results_cell_row rfl _ _ (w.heap.size+1) 237 #[.string b,.string d,.string a,.string st,.string si,.string c] (0,0) _ rfl ?_ Tryz.underlying237 rfl (by kernel_rfl)) rfl ⟨rfl,h1.alloc _⟩;have:=heap_alloc_new (w.alloc (.cells #[.string b,.string d,.string a,.string st,.string si,.string c] 67)) (.cells #[.string b,.string d,.string a,.string st,.string si,.string c] 237);rwa[World.size_alloc]at this
theorem kp! (a b:Tup)(w:World):Calls prog 78 #[tV a,tV b] w fun e w'=>e= .returned (.int .i64 (cmpC a b))/\Gr w w':=by
 have s:Gr w ((w.alloc (.cells (tpC a) 67)).alloc (.cells (tpC b) 67)):=((Gr.refl _).alloc _).alloc _;have I:=h! s;have G:=h! ((Blk.made w (tpC a) 67).alloc (.cells (tpC b) 67));have F:=h! (Blk.made' (w:=w.alloc (.cells (tpC a) 67)) (B:=w.heap.size+1) (by simp) (tpC b) 67);clear s;by_cases hab:a=b
 ·subst hab;have HZ:=h! (mf! a);obtain⟨⟨Z,a2,a3⟩,⟨a4,a5,a6⟩⟩:=a;unfold tpC at I G F;dsimp only at I G F;have ha:=G.out.cells;have hb:=F.out.cells;unfold tV;dsimp only
  have hq:∀W,(binOp BinOp.eql 67 (.agg #[.string Z,.string a2,.string a3,.string a4,.string a5,.string a6]) (.agg #[.string Z,.string a2,.string a3,.string a4,.string a5,.string a6])).run prog W= .ok (.bool true) W:=fun W=>by
   have h:=nb! ⟨⟨Z,a2,a3⟩,⟨a4,a5,a6⟩⟩ ⟨⟨Z,a2,a3⟩,⟨a4,a5,a6⟩⟩ W;rw[v2! rfl]at h;exact h
  go_enter func78,ntmps78
  go_wp2_with fail
  go_ret
  exact⟨by rw[HZ.out];rfl,I.out⟩
 ·have HF:=h! (fun i (h6:i<6) (h0:∀j,j<i->cmpS (tp a j) (tp b j)=0) (h1:cmpS (tp a i) (tp b i)≠0)=>kq! h6 h0 h1);have HN:=h! (fun(h0:∀j,j<6->cmpS (tp a j) (tp b j)=0)=>mg! h0);have V:=h! (oB! a);have X:=h! (oB! b);generalize cmpC a b=cab at *;generalize hta:tp a=ta at *;generalize htb:tp b=tb at *;clear hta htb
  have O:∀W,(binOp BinOp.eql 67 (tV a) (tV b)).run prog W= .ok (.bool false) W:=fun W=>by
   have h:=nb! a b W;rwa[v3! hab]at h
  clear hab;obtain⟨⟨Z,a2,a3⟩,⟨a4,a5,a6⟩⟩:=a;obtain⟨⟨b1,b2,b3⟩,⟨Y,b5,b6⟩⟩:=b;unfold tpC at *;dsimp only at I G F V X;have ha:=G.out.cells;have hb:=F.out.cells;unfold tV at O ⊢;dsimp only at O ⊢;go_enter func78,ntmps78
  go_wp2_with fail
  clear ha hb O;refine li! (fun a' W=>∃x y,a' = {tmps:=#[.agg #[.string Z,.string a2,.string a3,.string a4,.string a5,.string a6],.agg #[.string b1,.string b2,.string b3,.string Y,.string b5,.string b6],.pointer (some ⟨w.heap.size,0,none⟩),.pointer (some ⟨w.heap.size+1,0,none⟩),.int .i64 0,.pointer (some ⟨x,0,none⟩),.pointer (some ⟨y,0,none⟩),undef,undef,.agg #[.string Z,.string a2,.string a3,.string a4,.string a5,.string a6],.agg #[.string b1,.string b2,.string b3,.string Y,.string b5,.string b6],.bool false,.agg #[.string Z,.string a2,.string a3,.string a4,.string a5,.string a6],.agg #[.string Z,.string a2,.string a3,.string a4,.string a5,.string a6],.agg #[.string b1,.string b2,.string b3,.string Y,.string b5,.string b6],.agg #[.string b1,.string b2,.string b3,.string Y,.string b5,.string b6],undef,undef,undef,undef,undef,undef,undef,undef,undef,undef,undef,undef,undef,undef],defers:=[]}/\Blk W x #[.string Z,.string a2,.string a3,.string a4,.string a5,.string a6] 237/\Blk W y #[.string b1,.string b2,.string b3,.string Y,.string b5,.string b6] 237/\Gr w W) ?_ ?_
  ·obtain⟨wd,z⟩:=e! (((w.alloc (.cells #[.string Z,.string a2,.string a3,.string a4,.string a5,.string a6] 67)).alloc (.cells #[.string b1,.string b2,.string b3,.string Y,.string b5,.string b6] 67)).drew);have hE:=h! (show Gr w wd from by rw[z];exact I.out.drew);have a8:=h! (show Blk wd w.heap.size _ _ from by rw[z];exact G.out.drew);have a9:=h! (show Blk wd (w.heap.size+1) _ _ from by rw[z];exact F.out.drew);refine ca! (Gr wd) (by rw[<-z];exact Gr.refl _) (by kernel_rfl) (by kernel_rfl) (fun _ _ d _ _ h=>absurd h.1 (fun e=>by cases e)) ?_;rw[<-z];clear z I G F;have h1:=fun W (h:Gr wd W)=>(a8.out.below h.below).cells;have h2:=fun W (h:Gr wd W)=>(a9.out.below h.below).cells;(refine WalkN.tk [0,2] ?_;(iterate 2 (refine c! ?_));refine TkN.n ?_)
   clear h1 h2;have aa:=hE;have hE:=h! (Gr.refl wd);refine WalkN.three 1 4 5 (by kernel_rfl) ?_ ?_ ?_;refine b! ?_;intro K hK;go_simp;refine(ba! ⟨⟨Z,a2,a3⟩,⟨a4,a5,a6⟩⟩ wd).mono ?_;rintro e u1 ⟨rfl,Q⟩;refine hK.out _ _ (hE.out.next Q) ?_;clear hK;unfold tV;dsimp only;have hE:=h! (hE.out.next Q);clear Q;refine WalkN.three 3 4 5 (by kernel_rfl) ?_ ?_ ?_;refine b! ?_;intro K hK;go_simp;refine(ba! ⟨⟨b1,b2,b3⟩,⟨Y,b5,b6⟩⟩ u1).mono ?_;rintro e u2 ⟨rfl,s⟩;refine hK.out _ _ (hE.out.next s) ?_;clear hK;unfold tV;dsimp only;have hE:=h! (hE.out.next s);clear s;refine p! 4 5 ?_ ?_;refine b! ?_;intro K hK;go_simp;refine hK.out _ _ (hE.out.alloc (.cells zr6 237)) ?_;clear hK;have u:=Ext.alloc u2 (.cells zr6 237);have l:=Blk.made u2 zr6 237;have f:=hE.out.below.size;have hE:=h! (hE.out.alloc (.cells zr6 237));clear u;unfold zr6 at *;generalize u2.alloc (.cells #[.string ⟨#[]⟩,.string ⟨#[]⟩,.string ⟨#[]⟩,.string ⟨#[]⟩,.string ⟨#[]⟩,.string ⟨#[]⟩] 237)=u3 at *;generalize hpe2:u2.heap.size=pa at *;have C:Hid (wd.heap.size<=pa):=h! (by first | exact v4! hpe2 | exact f);clear hpe2 f;have hA:=h! l;clear l;refine ob! 5 ?_;intro K hK;go_simp;refine hK.out _ _ (hE.out.alloc (.cells zr6 237)) ?_;clear hK;have r:=Ext.alloc u3 (.cells zr6 237);have v:Hid (pa≠u3.heap.size):=h! (Nat.ne_of_lt hA.out.lt);have hA:=h! (hA.out.below r);have m:=Blk.made u3 zr6 237;have k:=hE.out.below.size;have hE:=h! (hE.out.alloc (.cells zr6 237));clear r;unfold zr6 at *;generalize u3.alloc (.cells #[.string ⟨#[]⟩,.string ⟨#[]⟩,.string ⟨#[]⟩,.string ⟨#[]⟩,.string ⟨#[]⟩,.string ⟨#[]⟩] 237)=u4 at *;generalize hpe3:u3.heap.size=pb at *;have D:Hid (wd.heap.size<=pb):=h! (by first | exact v4! hpe3 | exact k);clear hpe3 k;have hB:=h! m;clear m;rotate_left
   refine b! ?_;intro K hK;go_simp;refine hK.out _ _ (hE.out.alloc (.cells zr6 237)) ?_;clear hK;have u:=Ext.alloc u2 (.cells zr6 237);have m:=Blk.made u2 zr6 237;have f:=hE.out.below.size;have hE:=h! (hE.out.alloc (.cells zr6 237));clear u;unfold zr6 at *;generalize u2.alloc (.cells #[.string ⟨#[]⟩,.string ⟨#[]⟩,.string ⟨#[]⟩,.string ⟨#[]⟩,.string ⟨#[]⟩,.string ⟨#[]⟩] 237)=u3 at *;generalize hpe2:u2.heap.size=pb at *;have D:Hid (wd.heap.size<=pb):=h! (by first | exact v4! hpe2 | exact f);clear hpe2 f;have hB:=h! m;clear m;refine ob! 4 ?_;intro K hK;go_simp;refine hK.out _ _ (hE.out.alloc (.cells zr6 237)) ?_;clear hK;have r:=Ext.alloc u3 (.cells zr6 237);have v:Hid (u3.heap.size≠pb):=h! (fun e=>Nat.lt_irrefl _ (e▸hB.out.lt));have hB:=h! (hB.out.below r);have l:=Blk.made u3 zr6 237;have k:=hE.out.below.size;have hE:=h! (hE.out.alloc (.cells zr6 237));clear r;unfold zr6 at *;generalize u3.alloc (.cells #[.string ⟨#[]⟩,.string ⟨#[]⟩,.string ⟨#[]⟩,.string ⟨#[]⟩,.string ⟨#[]⟩,.string ⟨#[]⟩] 237)=u4 at *;generalize hpe3:u3.heap.size=pa at *;have C:Hid (wd.heap.size<=pa):=h! (by first | exact v4! hpe3 | exact k);clear hpe3 k;have hA:=h! l;clear l;rotate_left
   refine b! ?_;intro K hK;go_simp;refine hK.out _ _ (hE.out.alloc (.cells zr6 237)) ?_;clear hK;have E:=Ext.alloc u1 (.cells zr6 237);have l:=Blk.made u1 zr6 237;have q:=hE.out.below.size;have hE:=h! (hE.out.alloc (.cells zr6 237));clear E;unfold zr6 at *;generalize u1.alloc (.cells #[.string ⟨#[]⟩,.string ⟨#[]⟩,.string ⟨#[]⟩,.string ⟨#[]⟩,.string ⟨#[]⟩,.string ⟨#[]⟩] 237)=u2 at *;generalize hpe1:u1.heap.size=pa at *;have C:Hid (wd.heap.size<=pa):=h! (by first | exact v4! hpe1 | exact q);clear hpe1 q;have hA:=h! l;clear l;refine p! 3 5 ?_ ?_;refine b! ?_;intro K hK;go_simp;refine(ba! ⟨⟨b1,b2,b3⟩,⟨Y,b5,b6⟩⟩ u2).mono ?_;rintro e u3 ⟨rfl,o⟩;refine hK.out _ _ (hE.out.next o) ?_;clear hK;unfold tV;dsimp only;have hA:=h! (hA.out.below o.below);have hE:=h! (hE.out.next o);clear o;refine ob! 5 ?_;intro K hK;go_simp;refine hK.out _ _ (hE.out.alloc (.cells zr6 237)) ?_;clear hK;have r:=Ext.alloc u3 (.cells zr6 237);have v:Hid (pa≠u3.heap.size):=h! (Nat.ne_of_lt hA.out.lt);have hA:=h! (hA.out.below r);have m:=Blk.made u3 zr6 237;have k:=hE.out.below.size;have hE:=h! (hE.out.alloc (.cells zr6 237));clear r;unfold zr6 at *;generalize u3.alloc (.cells #[.string ⟨#[]⟩,.string ⟨#[]⟩,.string ⟨#[]⟩,.string ⟨#[]⟩,.string ⟨#[]⟩,.string ⟨#[]⟩] 237)=u4 at *;generalize hpe3:u3.heap.size=pb at *;have D:Hid (wd.heap.size<=pb):=h! (by first | exact v4! hpe3 | exact k);clear hpe3 k;have hB:=h! m;clear m;rotate_left
   refine b! ?_;intro K hK;go_simp;refine hK.out _ _ (hE.out.alloc (.cells zr6 237)) ?_;clear hK;have u:=Ext.alloc u2 (.cells zr6 237);have v:Hid (pa≠u2.heap.size):=h! (Nat.ne_of_lt hA.out.lt);have hA:=h! (hA.out.below u);have m:=Blk.made u2 zr6 237;have f:=hE.out.below.size;have hE:=h! (hE.out.alloc (.cells zr6 237));clear u;unfold zr6 at *;generalize u2.alloc (.cells #[.string ⟨#[]⟩,.string ⟨#[]⟩,.string ⟨#[]⟩,.string ⟨#[]⟩,.string ⟨#[]⟩,.string ⟨#[]⟩] 237)=u3 at *;generalize hpe2:u2.heap.size=pb at *;have D:Hid (wd.heap.size<=pb):=h! (by first | exact v4! hpe2 | exact f);clear hpe2 f;have hB:=h! m;clear m;refine ob! 3 ?_;intro K hK;go_simp;refine(ba! ⟨⟨b1,b2,b3⟩,⟨Y,b5,b6⟩⟩ u3).mono ?_;rintro e u4 ⟨rfl,g⟩;refine hK.out _ _ (hE.out.next g) ?_;clear hK;unfold tV;dsimp only;have hA:=h! (hA.out.below g.below);have hB:=h! (hB.out.below g.below);have hE:=h! (hE.out.next g);clear g;rotate_left
   refine b! ?_;intro K hK;go_simp;refine hK.out _ _ (hE.out.alloc (.cells zr6 237)) ?_;clear hK;have E:=Ext.alloc u1 (.cells zr6 237);have m:=Blk.made u1 zr6 237;have q:=hE.out.below.size;have hE:=h! (hE.out.alloc (.cells zr6 237));clear E;unfold zr6 at *;generalize u1.alloc (.cells #[.string ⟨#[]⟩,.string ⟨#[]⟩,.string ⟨#[]⟩,.string ⟨#[]⟩,.string ⟨#[]⟩,.string ⟨#[]⟩] 237)=u2 at *;generalize hpe1:u1.heap.size=pb at *;have D:Hid (wd.heap.size<=pb):=h! (by first | exact v4! hpe1 | exact q);clear hpe1 q;have hB:=h! m;clear m;refine p! 3 4 ?_ ?_;refine b! ?_;intro K hK;go_simp;refine(ba! ⟨⟨b1,b2,b3⟩,⟨Y,b5,b6⟩⟩ u2).mono ?_;rintro e u3 ⟨rfl,o⟩;refine hK.out _ _ (hE.out.next o) ?_;clear hK;unfold tV;dsimp only;have hB:=h! (hB.out.below o.below);have hE:=h! (hE.out.next o);clear o;refine ob! 4 ?_;intro K hK;go_simp;refine hK.out _ _ (hE.out.alloc (.cells zr6 237)) ?_;clear hK;have r:=Ext.alloc u3 (.cells zr6 237);have v:Hid (u3.heap.size≠pb):=h! (fun e=>Nat.lt_irrefl _ (e▸hB.out.lt));have hB:=h! (hB.out.below r);have l:=Blk.made u3 zr6 237;have k:=hE.out.below.size;have hE:=h! (hE.out.alloc (.cells zr6 237));clear r;unfold zr6 at *;generalize u3.alloc (.cells #[.string ⟨#[]⟩,.string ⟨#[]⟩,.string ⟨#[]⟩,.string ⟨#[]⟩,.string ⟨#[]⟩,.string ⟨#[]⟩] 237)=u4 at *;generalize hpe3:u3.heap.size=pa at *;have C:Hid (wd.heap.size<=pa):=h! (by first | exact v4! hpe3 | exact k);clear hpe3 k;have hA:=h! l;clear l;rotate_left
   refine b! ?_;intro K hK;go_simp;refine hK.out _ _ (hE.out.alloc (.cells zr6 237)) ?_;clear hK;have u:=Ext.alloc u2 (.cells zr6 237);have v:Hid (u2.heap.size≠pb):=h! (fun e=>Nat.lt_irrefl _ (e▸hB.out.lt));have hB:=h! (hB.out.below u);have l:=Blk.made u2 zr6 237;have f:=hE.out.below.size;have hE:=h! (hE.out.alloc (.cells zr6 237));clear u;unfold zr6 at *;generalize u2.alloc (.cells #[.string ⟨#[]⟩,.string ⟨#[]⟩,.string ⟨#[]⟩,.string ⟨#[]⟩,.string ⟨#[]⟩,.string ⟨#[]⟩] 237)=u3 at *;generalize hpe2:u2.heap.size=pa at *;have C:Hid (wd.heap.size<=pa):=h! (by first | exact v4! hpe2 | exact f);clear hpe2 f;have hA:=h! l;clear l;refine ob! 3 ?_;intro K hK;go_simp;refine(ba! ⟨⟨b1,b2,b3⟩,⟨Y,b5,b6⟩⟩ u3).mono ?_;rintro e u4 ⟨rfl,g⟩;refine hK.out _ _ (hE.out.next g) ?_;clear hK;unfold tV;dsimp only;have hA:=h! (hA.out.below g.below);have hB:=h! (hB.out.below g.below);have hE:=h! (hE.out.next g);clear g;rotate_left
   refine b! ?_;intro K hK;go_simp;refine hK.out _ _ (hE.out.alloc (.cells zr6 237)) ?_;clear hK;have N:=Ext.alloc wd (.cells zr6 237);have l:=Blk.made wd zr6 237;have A:=hE.out.below.size;have hE:=h! (hE.out.alloc (.cells zr6 237));clear N;unfold zr6 at *;generalize wd.alloc (.cells #[.string ⟨#[]⟩,.string ⟨#[]⟩,.string ⟨#[]⟩,.string ⟨#[]⟩,.string ⟨#[]⟩,.string ⟨#[]⟩] 237)=u1 at *;generalize hpe0:wd.heap.size=pa at *;have C:Hid (wd.heap.size<=pa):=h! (by first | exact v4! hpe0 | exact A);clear hpe0 A;have hA:=h! l;clear l;refine p! 1 5 ?_ ?_;refine b! ?_;intro K hK;go_simp;refine(ba! ⟨⟨Z,a2,a3⟩,⟨a4,a5,a6⟩⟩ u1).mono ?_;rintro e u2 ⟨rfl,s⟩;refine hK.out _ _ (hE.out.next s) ?_;clear hK;unfold tV;dsimp only;have hA:=h! (hA.out.below s.below);have hE:=h! (hE.out.next s);clear s;refine p! 3 5 ?_ ?_;refine b! ?_;intro K hK;go_simp;refine(ba! ⟨⟨b1,b2,b3⟩,⟨Y,b5,b6⟩⟩ u2).mono ?_;rintro e u3 ⟨rfl,o⟩;refine hK.out _ _ (hE.out.next o) ?_;clear hK;unfold tV;dsimp only;have hA:=h! (hA.out.below o.below);have hE:=h! (hE.out.next o);clear o;refine ob! 5 ?_;intro K hK;go_simp;refine hK.out _ _ (hE.out.alloc (.cells zr6 237)) ?_;clear hK;have r:=Ext.alloc u3 (.cells zr6 237);have v:Hid (pa≠u3.heap.size):=h! (Nat.ne_of_lt hA.out.lt);have hA:=h! (hA.out.below r);have m:=Blk.made u3 zr6 237;have k:=hE.out.below.size;have hE:=h! (hE.out.alloc (.cells zr6 237));clear r;unfold zr6 at *;generalize u3.alloc (.cells #[.string ⟨#[]⟩,.string ⟨#[]⟩,.string ⟨#[]⟩,.string ⟨#[]⟩,.string ⟨#[]⟩,.string ⟨#[]⟩] 237)=u4 at *;generalize hpe3:u3.heap.size=pb at *;have D:Hid (wd.heap.size<=pb):=h! (by first | exact v4! hpe3 | exact k);clear hpe3 k;have hB:=h! m;clear m;rotate_left
   refine b! ?_;intro K hK;go_simp;refine hK.out _ _ (hE.out.alloc (.cells zr6 237)) ?_;clear hK;have u:=Ext.alloc u2 (.cells zr6 237);have v:Hid (pa≠u2.heap.size):=h! (Nat.ne_of_lt hA.out.lt);have hA:=h! (hA.out.below u);have m:=Blk.made u2 zr6 237;have f:=hE.out.below.size;have hE:=h! (hE.out.alloc (.cells zr6 237));clear u;unfold zr6 at *;generalize u2.alloc (.cells #[.string ⟨#[]⟩,.string ⟨#[]⟩,.string ⟨#[]⟩,.string ⟨#[]⟩,.string ⟨#[]⟩,.string ⟨#[]⟩] 237)=u3 at *;generalize hpe2:u2.heap.size=pb at *;have D:Hid (wd.heap.size<=pb):=h! (by first | exact v4! hpe2 | exact f);clear hpe2 f;have hB:=h! m;clear m;refine ob! 3 ?_;intro K hK;go_simp;refine(ba! ⟨⟨b1,b2,b3⟩,⟨Y,b5,b6⟩⟩ u3).mono ?_;rintro e u4 ⟨rfl,g⟩;refine hK.out _ _ (hE.out.next g) ?_;clear hK;unfold tV;dsimp only;have hA:=h! (hA.out.below g.below);have hB:=h! (hB.out.below g.below);have hE:=h! (hE.out.next g);clear g;rotate_left
   refine b! ?_;intro K hK;go_simp;refine hK.out _ _ (hE.out.alloc (.cells zr6 237)) ?_;clear hK;have E:=Ext.alloc u1 (.cells zr6 237);have v:Hid (pa≠u1.heap.size):=h! (Nat.ne_of_lt hA.out.lt);have hA:=h! (hA.out.below E);have m:=Blk.made u1 zr6 237;have q:=hE.out.below.size;have hE:=h! (hE.out.alloc (.cells zr6 237));clear E;unfold zr6 at *;generalize u1.alloc (.cells #[.string ⟨#[]⟩,.string ⟨#[]⟩,.string ⟨#[]⟩,.string ⟨#[]⟩,.string ⟨#[]⟩,.string ⟨#[]⟩] 237)=u2 at *;generalize hpe1:u1.heap.size=pb at *;have D:Hid (wd.heap.size<=pb):=h! (by first | exact v4! hpe1 | exact q);clear hpe1 q;have hB:=h! m;clear m;refine ob! 1 ?_;intro K hK;go_simp;refine(ba! ⟨⟨Z,a2,a3⟩,⟨a4,a5,a6⟩⟩ u2).mono ?_;rintro e u3 ⟨rfl,o⟩;refine hK.out _ _ (hE.out.next o) ?_;clear hK;unfold tV;dsimp only;have hA:=h! (hA.out.below o.below);have hB:=h! (hB.out.below o.below);have hE:=h! (hE.out.next o);clear o;refine ob! 3 ?_;intro K hK;go_simp;refine(ba! ⟨⟨b1,b2,b3⟩,⟨Y,b5,b6⟩⟩ u3).mono ?_;rintro e u4 ⟨rfl,g⟩;refine hK.out _ _ (hE.out.next g) ?_;clear hK;unfold tV;dsimp only;have hA:=h! (hA.out.below g.below);have hB:=h! (hB.out.below g.below);have hE:=h! (hE.out.next g);clear g;rotate_left
   refine b! ?_;intro K hK;go_simp;refine hK.out _ _ (hE.out.alloc (.cells zr6 237)) ?_;clear hK;have N:=Ext.alloc wd (.cells zr6 237);have m:=Blk.made wd zr6 237;have A:=hE.out.below.size;have hE:=h! (hE.out.alloc (.cells zr6 237));clear N;unfold zr6 at *;generalize wd.alloc (.cells #[.string ⟨#[]⟩,.string ⟨#[]⟩,.string ⟨#[]⟩,.string ⟨#[]⟩,.string ⟨#[]⟩,.string ⟨#[]⟩] 237)=u1 at *;generalize hpe0:wd.heap.size=pb at *;have D:Hid (wd.heap.size<=pb):=h! (by first | exact v4! hpe0 | exact A);clear hpe0 A;have hB:=h! m;clear m;refine p! 1 4 ?_ ?_;refine b! ?_;intro K hK;go_simp;refine(ba! ⟨⟨Z,a2,a3⟩,⟨a4,a5,a6⟩⟩ u1).mono ?_;rintro e u2 ⟨rfl,s⟩;refine hK.out _ _ (hE.out.next s) ?_;clear hK;unfold tV;dsimp only;have hB:=h! (hB.out.below s.below);have hE:=h! (hE.out.next s);clear s;refine p! 3 4 ?_ ?_;refine b! ?_;intro K hK;go_simp;refine(ba! ⟨⟨b1,b2,b3⟩,⟨Y,b5,b6⟩⟩ u2).mono ?_;rintro e u3 ⟨rfl,o⟩;refine hK.out _ _ (hE.out.next o) ?_;clear hK;unfold tV;dsimp only;have hB:=h! (hB.out.below o.below);have hE:=h! (hE.out.next o);clear o;refine ob! 4 ?_;intro K hK;go_simp;refine hK.out _ _ (hE.out.alloc (.cells zr6 237)) ?_;clear hK;have r:=Ext.alloc u3 (.cells zr6 237);have v:Hid (u3.heap.size≠pb):=h! (fun e=>Nat.lt_irrefl _ (e▸hB.out.lt));have hB:=h! (hB.out.below r);have l:=Blk.made u3 zr6 237;have k:=hE.out.below.size;have hE:=h! (hE.out.alloc (.cells zr6 237));clear r;unfold zr6 at *;generalize u3.alloc (.cells #[.string ⟨#[]⟩,.string ⟨#[]⟩,.string ⟨#[]⟩,.string ⟨#[]⟩,.string ⟨#[]⟩,.string ⟨#[]⟩] 237)=u4 at *;generalize hpe3:u3.heap.size=pa at *;have C:Hid (wd.heap.size<=pa):=h! (by first | exact v4! hpe3 | exact k);clear hpe3 k;have hA:=h! l;clear l;rotate_left
   refine b! ?_;intro K hK;go_simp;refine hK.out _ _ (hE.out.alloc (.cells zr6 237)) ?_;clear hK;have u:=Ext.alloc u2 (.cells zr6 237);have v:Hid (u2.heap.size≠pb):=h! (fun e=>Nat.lt_irrefl _ (e▸hB.out.lt));have hB:=h! (hB.out.below u);have l:=Blk.made u2 zr6 237;have f:=hE.out.below.size;have hE:=h! (hE.out.alloc (.cells zr6 237));clear u;unfold zr6 at *;generalize u2.alloc (.cells #[.string ⟨#[]⟩,.string ⟨#[]⟩,.string ⟨#[]⟩,.string ⟨#[]⟩,.string ⟨#[]⟩,.string ⟨#[]⟩] 237)=u3 at *;generalize hpe2:u2.heap.size=pa at *;have C:Hid (wd.heap.size<=pa):=h! (by first | exact v4! hpe2 | exact f);clear hpe2 f;have hA:=h! l;clear l;refine ob! 3 ?_;intro K hK;go_simp;refine(ba! ⟨⟨b1,b2,b3⟩,⟨Y,b5,b6⟩⟩ u3).mono ?_;rintro e u4 ⟨rfl,g⟩;refine hK.out _ _ (hE.out.next g) ?_;clear hK;unfold tV;dsimp only;have hA:=h! (hA.out.below g.below);have hB:=h! (hB.out.below g.below);have hE:=h! (hE.out.next g);clear g;rotate_left
   refine b! ?_;intro K hK;go_simp;refine hK.out _ _ (hE.out.alloc (.cells zr6 237)) ?_;clear hK;have E:=Ext.alloc u1 (.cells zr6 237);have v:Hid (u1.heap.size≠pb):=h! (fun e=>Nat.lt_irrefl _ (e▸hB.out.lt));have hB:=h! (hB.out.below E);have l:=Blk.made u1 zr6 237;have q:=hE.out.below.size;have hE:=h! (hE.out.alloc (.cells zr6 237));clear E;unfold zr6 at *;generalize u1.alloc (.cells #[.string ⟨#[]⟩,.string ⟨#[]⟩,.string ⟨#[]⟩,.string ⟨#[]⟩,.string ⟨#[]⟩,.string ⟨#[]⟩] 237)=u2 at *;generalize hpe1:u1.heap.size=pa at *;have C:Hid (wd.heap.size<=pa):=h! (by first | exact v4! hpe1 | exact q);clear hpe1 q;have hA:=h! l;clear l;refine ob! 1 ?_;intro K hK;go_simp;refine(ba! ⟨⟨Z,a2,a3⟩,⟨a4,a5,a6⟩⟩ u2).mono ?_;rintro e u3 ⟨rfl,o⟩;refine hK.out _ _ (hE.out.next o) ?_;clear hK;unfold tV;dsimp only;have hA:=h! (hA.out.below o.below);have hB:=h! (hB.out.below o.below);have hE:=h! (hE.out.next o);clear o;refine ob! 3 ?_;intro K hK;go_simp;refine(ba! ⟨⟨b1,b2,b3⟩,⟨Y,b5,b6⟩⟩ u3).mono ?_;rintro e u4 ⟨rfl,g⟩;refine hK.out _ _ (hE.out.next g) ?_;clear hK;unfold tV;dsimp only;have hA:=h! (hA.out.below g.below);have hB:=h! (hB.out.below g.below);have hE:=h! (hE.out.next g);clear g;rotate_left
   all_goals
    refine ob! 6 ?_;intro K hK;have L:=hA.out.cells;have M:=hA.out.free;go_simp;clear L M;refine hK.out _ _ (hf! hE.out C.out _ _ _ _ _ _) ?_;clear hK;have hE:=h! (hf! hE.out C.out (.string Z) (.string a2) (.string a3) (.string a4) (.string a5) (.string a6));have l:=hA.out.put6 (.string Z) (.string a2) (.string a3) (.string a4) (.string a5) (.string a6);have m:=hB.out.away6 (B':=pa) (Ne.symm v.out) (.string Z) (.string a2) (.string a3) (.string a4) (.string a5) (.string a6);generalize ((((((u4.setCell ⟨pa,0,none⟩ (.string Z)).setCell ⟨pa,1,none⟩ (.string a2)).setCell ⟨pa,2,none⟩ (.string a3)).setCell ⟨pa,3,none⟩ (.string a4)).setCell ⟨pa,4,none⟩ (.string a5)).setCell ⟨pa,5,none⟩ (.string a6))=u5 at *;have hA:=h! l;have hB:=h! m;clear l m;refine ob! 7 ?_;intro K hK;have L:=hB.out.cells;have M:=hB.out.free;go_simp;clear L M;refine hK.out _ _ (hf! hE.out D.out _ _ _ _ _ _) ?_;clear hK;have hE:=h! (hf! hE.out D.out (.string b1) (.string b2) (.string b3) (.string Y) (.string b5) (.string b6));have m:=hB.out.put6 (.string b1) (.string b2) (.string b3) (.string Y) (.string b5) (.string b6);have l:=hA.out.away6 (B':=pb) v.out (.string b1) (.string b2) (.string b3) (.string Y) (.string b5) (.string b6);generalize ((((((u5.setCell ⟨pb,0,none⟩ (.string b1)).setCell ⟨pb,1,none⟩ (.string b2)).setCell ⟨pb,2,none⟩ (.string b3)).setCell ⟨pb,3,none⟩ (.string Y)).setCell ⟨pb,4,none⟩ (.string b5)).setCell ⟨pb,5,none⟩ (.string b6))=u6 at *;have hA:=h! l;have hB:=h! m;clear l m;refine d! ?_;exact⟨rfl,pa,pb,rfl,hA.out,hB.out,aa.out.next hE.out⟩
  ·rintro a' W ⟨x,y,rfl,hA,hB,hG⟩;have HA:=h! hA;have HB:=h! hB;have HG:=h! hG;clear hA hB hG I G F;go_wp2_with fail
   go_loopw [7,8,16] (fun _ _ iv wr=>∃i:Nat,i<=6/\iv= .int .i64 i/\(∀j,j<i->cmpS (ta j) (tb j)=0)/\Blk wr x #[.string Z,.string a2,.string a3,.string a4,.string a5,.string a6] 237/\Blk wr y #[.string b1,.string b2,.string b3,.string Y,.string b5,.string b6] 237/\Gr w wr) (fun _ _ iv _=>6-(intOf iv).toNat)
   case atStart=>exact⟨0,v1! _,rfl,(fun j h=>absurd h (Nat.not_lt_zero j)),HA.out,HB.out,HG.out⟩
   case round =>
    obtain⟨i,hi,rfl,J,hA,hB,hG⟩:=hrel;have H:=h! J;have RA:=h! hA;have RB:=h! hB;have RG:=h! hG;clear HA HB HG J hA hB hG;by_cases hlt:i<6
    ·have T:=h! hlt;have R:=V.out i hlt;have U:=X.out i hlt;have ab:(i:Int)<6:=by omega
     have ad:(0:Int)<=(i:Int):=by omega
     have a0:=h! (HF.out i hlt H.out)
     have a7:Hid (cmpS (ta i) (tb i)=0->∀j,j<i+1->cmpS (ta j) (tb j)=0):=h! (fun h0 j hj=>by
      rcases Nat.lt_succ_iff_lt_or_eq.1 hj with h | rfl
      ·exact H.out j h
      ·exact h0)
     generalize ta i=sa at *;generalize tb i=sb at *;clear hlt hi;go_wp2_with fail
     obtain⟨wd,z⟩:=e! wr.drew;have DG:=h! (show Gr w wd from by rw[z];exact RG.out.drew);have DA:=h! (show Blk wd x _ _ from by rw[z];exact RA.out.drew);have DB:=h! (show Blk wd y _ _ from by rw[z];exact RB.out.drew);refine re! z ?_;clear z RA RB RG;have h1:∀W,Ext wd W->W.cell? ⟨x,i,none⟩=some (.string sa):=fun W h=>((DA.out.below h).cells i).trans R;have h2:∀W,Ext wd W->W.cell? ⟨y,i,none⟩=some (.string sb):=fun W h=>((DB.out.below h).cells i).trans U;(refine WalkN.tk [0,1,2,3,4,5] ?_;(iterate 6 (refine c! ?_));refine TkN.n ?_)
     clear h1 h2 R U;refine ob! 6 ?_;intro K hK;go_simp;refine(gr! sa sb wd).mono ?_;rintro e w2 ⟨rfl,rfl⟩;rw[pu!];refine hK.out _ _ (Ext.refl _) ?_;clear hK;refine t! 7 ?_
     refine d! ?_;by_cases hz:cmpS sa sb=0
     ·have HZ:=h! (a7.out hz);rw[hz];clear hz;go_wp2_with fail
      go_roundw
      case rel=>exact⟨i+1,T.out,by go_num,HZ.out,DA.out,DB.out,DG.out⟩
      case measure=>have:=T.out;simp[intOf];omega
     ·have HZ:=h! (a0.out hz);generalize cmpS sa sb=cz at *;have ac:(cz != 0)=true:=by simpa using hz
      go_wp2_with fail
      go_ret
      exact⟨by rw[HZ.out];rfl,DG.out⟩
    ·obtain rfl:i=6:=by omega
     have HZ:=h! (HN.out H.out);go_wp2_with fail
     go_ret
     exact⟨by rw[HZ.out];rfl,RG.out⟩
end Go.Proofs.YtlhaghoajpglaaaGreat
