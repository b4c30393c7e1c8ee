/- Lemmas for the claim, no condition. -/
import Derived.Shelf.Small.Strs
import Derived.Test.YtlhaghoajpglaaaGreatYLkObj13
import Derived.RangeFuncNested
set_option maxRecDepth 100000
set_option maxHeartbeats 8000000
namespace Go.Proofs.YtlhaghoajpglaaaGreat
open Go Go.RowKit Go.Maps Go.Shelf Go.Proofs.Tryz
theorem lT! (ts:List TyS)(tv:Value)(ty rel:ByteArray)(w:World) {S:Nat->Prop}(hSw:∀b,S b->b<w.heap.size)(h:pU! S w ts tv)(hu:aT! ts=true) :
  Calls prog 110 #[.agg #[tv],.string ty,.string rel] w fun e w'=>∃z:RV,e= .returned (.tuple #[rvV z,.bool (lookA (ac! ts) ⟨ty,rel⟩).isSome])/\RTAt S w' z.1 z.2/\(∀r,lookA (ac! ts) ⟨ty,rel⟩=some r->z.1=r)/\(lookA (ac! ts) ⟨ty,rel⟩=none->z=(.mk 0 ByteArray.empty ByteArray.empty [],.slice none 0 0))/\Below w.heap.size w w':=by
 obtain⟨ao,c,rfl,ar,an,A⟩:=h.rows;have HC:=h! A;have C:=h! hSw;have HU:=h! hu;obtain⟨w1,a2⟩:=e! (w.alloc (.cells #[.slice ao ts.length c] 26));obtain⟨w2,L⟩:=e! (w1.alloc (.cells #[.int .i64 0,.string ⟨#[]⟩,.string ⟨#[]⟩,.slice none 0 0] 106));have e1:w1.heap.size=w.heap.size+1:=by rw[a2];simp
 have ad:Ext w w1:=xa! a2
 have a3:Ext w1 w2:=xa! L
 have s:=(show Blk w2 w.heap.size #[.slice ao ts.length c] 26 from Blk.below (bm! a2) a3).cells;have HR:=h! (show Blk w2 (w.heap.size+1) #[.int .i64 0,.string ⟨#[]⟩,.string ⟨#[]⟩,.slice none 0 0] 106 from by rw[L,<-e1];exact Blk.made _ _ _);have a9:Hid (Below w.heap.size w w2):=h! (ad.trans a3);subst L a2;clear h A hu e1 ad a3;go_enter func110,ntmps110
 go_wp2_with fail
 obtain⟨w2,L⟩:=e! ((w.alloc (.cells #[.slice ao ts.length c] 26)).alloc (.cells #[.int .i64 0,.string ⟨#[]⟩,.string ⟨#[]⟩,.slice none 0 0] 106));rw[<-L]at HR a9 ⊢;clear L s;obtain⟨br,ah⟩:=e! (w.heap.size+1);rw[<-ah]at HR ⊢;have f:Hid (w.heap.size<=br):=h! (by omega);clear ah;go_loopw [15] (fun ii wr=>∃i:Nat,i<=ts.length/\ii= .int .i64 i/\(∀j (hj:j<ts.length),j<i->ts[j].name≠ty)/\Blk wr br #[.int .i64 0,.string ⟨#[]⟩,.string ⟨#[]⟩,.slice none 0 0] 106/\Below w.heap.size w wr) (fun ii _=>ts.length-(intOf ii).toNat)
 case atStart=>exact⟨0,by omega,rfl,fun _ _ h=>absurd h (by omega),HR.out,a9.out⟩
 case round =>
  rename World=>wo
  obtain⟨i,hi,rfl,T,o,d⟩:=hrel;have F:=h! T;have Y:=h! o;have am:=h! d;clear HR a9 T o;by_cases hlt:i<ts.length
  ·have a5:=fun h=>h! (ah! (p:=fun j hj=>ts[j].name≠ty) F.out hlt h);have q:=fun(h:ts[i].name=ty)=>h! (fun(t:∀j (hj:j<ts[i].rels.length),ts[i].rels[j].1≠rel)=>lg! HU.out hlt h t);have I:=fun(h:ts[i].name=ty)=>h! (fun k hk hr t=>nk! (k:=k) (rel:=rel) hlt h F.out hk hr t);obtain⟨b,ag,ap,a6,hb,c0,c1,Q⟩:=HC.out i hlt;cases a6;have d0:=(d.cell (p:=⟨b,ag+i*2,none⟩) (C.out _ hb)).trans c0;have d1:=(d.cell (p:=⟨b,ag+i*2+1,none⟩) (C.out _ hb)).trans c1;obtain⟨X,a1,rfl,al,ai,g⟩:=Q.rows;have ak:=h! g;have ae:=d.alloc d.size (.cells #[.string ts[i].name,.slice X ts[i].rels.length a1] 176);have Z:=h! ae;have V:=h! (Y.out.below (Ext.alloc wo (.cells #[.string ts[i].name,.slice X ts[i].rels.length a1] 176)));have ac:=(Blk.made wo #[.string ts[i].name,.slice X ts[i].rels.length a1] 176).cells;clear c0 c1 Q g ae d;generalize ts[i]=x at *;obtain⟨xn,l⟩:=x;dsimp only at *;by_cases he:xn=ty
   ·have HM:=q he;have HH:=I he;subst he;clear a5 q I;go_wp2_with fail
    obtain⟨wq,ab⟩:=e! (wo.alloc (.cells #[.string xn,.slice X l.length a1] 176));rw[<-ab]at Z V ⊢;clear ab ac d0 d1;go_loopw [26] (fun kk wr=>∃k:Nat,k<=l.length/\kk= .int .i64 k/\(∀j (hj:j<l.length),j<k->l[j].1≠rel)/\Blk wr br #[.int .i64 0,.string ⟨#[]⟩,.string ⟨#[]⟩,.slice none 0 0] 106/\Below w.heap.size w wr) (fun kk _=>l.length-(intOf kk).toNat)
    case atStart=>exact⟨0,by omega,rfl,fun _ _ h=>absurd h (by omega),V.out,Z.out⟩
    case round =>
     obtain⟨k,hk,rfl,B,o,d⟩:=hrel;have n:=h! B;have O:=h! o;have a4:=h! d;clear V Z B o;by_cases hlt2:k<l.length
     ·have J:=fun h=>h! (ah! (p:=fun j hj=>l[j].1≠rel) n.out hlt2 h);have G:=fun(h:l[k].1=rel)=>h! (HH.out k hlt2 h n.out);obtain⟨b2,m,aq,a6,t,c0,c1,c2,c3,c4,H⟩:=ak.out k hlt2;cases a6;have d0:=(d.cell (p:=⟨b2,m+k*5,none⟩) (C.out _ t)).trans c0;have d1:=(d.cell (p:=⟨b2,m+k*5+1,none⟩) (C.out _ t)).trans c1;have d2:=(d.cell (p:=⟨b2,m+k*5+2,none⟩) (C.out _ t)).trans c2;have d3:=(d.cell (p:=⟨b2,m+k*5+3,none⟩) (C.out _ t)).trans c3;have d4:=(d.cell (p:=⟨b2,m+k*5+4,none⟩) (C.out _ t)).trans c4;obtain⟨N,M,rfl,-⟩:=H.rows;obtain⟨wx,a0⟩:=e! (wr.alloc (.cells #[.string l[k].1,.int .i64 l[k].2.k,.string l[k].2.a,.string l[k].2.b,.slice N l[k].2.ps.length M] 181));have a7:Ext wr wx:=xa! a0
      have ac:=(show Blk wx wr.heap.size #[.string l[k].1,.int .i64 l[k].2.k,.string l[k].2.a,.string l[k].2.b,.slice N l[k].2.ps.length M] 181 from bm! a0).cells;have U:=h! (O.out.below a7);have af:Hid (Below w.heap.size w wx):=h! (a4.out.trans (a7.mono a4.out.size));have aj:=h! H;have aa:br≠wr.heap.size:=by have:=O.out.lt;omega
      clear c0 c1 c2 c3 c4 H a7 d;generalize l[k]=y at *;obtain⟨yn,p⟩:=y;dsimp only at *;by_cases he2:yn=rel
      ·have HF:=G he2;subst he2;have r3:=U.out.cells;have f3:=U.out.free;have D:=U.out.set_to 0 (.int .i64 p.k) rfl;have s:=D.set_to 1 (.string p.a) rfl;have E:=s.set_to 2 (.string p.b) rfl;have u:=E.set_to 3 (.slice N p.ps.length M) rfl;have R:=h! u;have K:Hid (Below w.heap.size w ((((wx.setCell ⟨br,0,none⟩ (.int .i64 p.k)).setCell ⟨br,1,none⟩ (.string p.a)).setCell ⟨br,2,none⟩ (.string p.b)).setCell ⟨br,3,none⟩ (.slice N p.ps.length M))):=h! ((((af.out.setCell f.out _).setCell f.out _).setCell f.out _).setCell f.out _);clear D s E u J G;subst a0;go_wp2_with fail
       refine bodyPost_ret (v := .tuple #[.agg #[.int .i64 p.k,.string p.a,.string p.b,.slice N p.ps.length M],.bool true]) ?_ rfl ⟨(p,.slice N p.ps.length M),?_,?_,fun r hr=>?_,fun hr=>?_,K.out⟩
       ·rw[results_cell_tmp rfl];have hl:=run_loadVar_row (P:=prog) _ br _ 106 _ _ _ R.out Tryz.underlying106 rfl (by kernel_rfl);simp[asAddr,hl,Result.andThen]
       ·unfold rvV rV;rw[HF.out];rfl
       ·exact aj.out.same ((Same.below K.out).mono C.out)
       ·rw[HF.out]at hr;cases hr;rfl
       ·rw[HF.out]at hr;cases hr
      ·have HN:=J he2;have a8:=aH! he2;rw[<-u5!,<-u5!]at a8;clear J G he2;subst a0;go_wp2_with fail
       go_roundw
       case rel=>exact⟨k+1,by omega,by go_num,HN.out,U.out,af.out⟩
       case measure=>simp[intOf];omega
     ·obtain rfl:k=l.length:=by omega
      have HF:=h! (HM.out fun j hj=>n.out j hj hj);have r3:=O.out.cells;have f3:=O.out.free;have D:=O.out.set_to 0 (.int .i64 0) rfl;have s:=D.set_to 1 (.string ⟨#[]⟩) rfl;have E:=s.set_to 2 (.string ⟨#[]⟩) rfl;have u:=E.set_to 3 (.slice none 0 0) rfl;have R:=h! u;have K:Hid (Below w.heap.size w ((((wr.setCell ⟨br,0,none⟩ (.int .i64 0)).setCell ⟨br,1,none⟩ (.string ⟨#[]⟩)).setCell ⟨br,2,none⟩ (.string ⟨#[]⟩)).setCell ⟨br,3,none⟩ (.slice none 0 0))):=h! ((((a4.out.setCell f.out _).setCell f.out _).setCell f.out _).setCell f.out _);clear D s E u d;go_wp2_with fail
      refine bodyPost_ret (v := .tuple #[.agg #[.int .i64 0,.string ⟨#[]⟩,.string ⟨#[]⟩,.slice none 0 0],.bool false]) ?_ rfl ⟨(.mk 0 ByteArray.empty ByteArray.empty [],.slice none 0 0),?_,?_,fun r hr=>?_,fun hr=>rfl,K.out⟩
      ·rw[results_cell_tmp rfl];have hl:=run_loadVar_row (P:=prog) _ br _ 106 _ _ _ R.out Tryz.underlying106 rfl (by kernel_rfl);simp[asAddr,hl,Result.andThen]
      ·rw[HF.out];rfl
      ·exact RTAt.nil _ _ _ _ _
      ·rw[HF.out]at hr;cases hr
   ·have HN:=a5 he;have aa:=aH! he;rw[<-u5!,<-u5!]at aa;clear a5 q I he;go_wp2_with fail
    go_roundw
    case rel=>exact⟨i+1,by omega,by go_num,HN.out,V.out,Z.out⟩
    case measure=>simp[intOf];omega
  ·obtain rfl:i=ts.length:=by omega
   have HF:=h! (nj! (rel:=rel) fun j hj=>F.out j hj hj);have r3:=Y.out.cells;have f3:=Y.out.free;have D:=Y.out.set_to 0 (.int .i64 0) rfl;have s:=D.set_to 1 (.string ⟨#[]⟩) rfl;have E:=s.set_to 2 (.string ⟨#[]⟩) rfl;have u:=E.set_to 3 (.slice none 0 0) rfl;have R:=h! u;have K:Hid (Below w.heap.size w ((((wo.setCell ⟨br,0,none⟩ (.int .i64 0)).setCell ⟨br,1,none⟩ (.string ⟨#[]⟩)).setCell ⟨br,2,none⟩ (.string ⟨#[]⟩)).setCell ⟨br,3,none⟩ (.slice none 0 0))):=h! ((((am.out.setCell f.out _).setCell f.out _).setCell f.out _).setCell f.out _);clear D s E u d;go_wp2_with fail
   refine bodyPost_ret (v := .tuple #[.agg #[.int .i64 0,.string ⟨#[]⟩,.string ⟨#[]⟩,.slice none 0 0],.bool false]) ?_ rfl ⟨(.mk 0 ByteArray.empty ByteArray.empty [],.slice none 0 0),?_,?_,fun r hr=>?_,fun hr=>rfl,K.out⟩
   ·rw[results_cell_tmp rfl];have hl:=run_loadVar_row (P:=prog) _ br _ 106 _ _ _ R.out Tryz.underlying106 rfl (by kernel_rfl);simp[asAddr,hl,Result.andThen]
   ·rw[HF.out];rfl
   ·exact RTAt.nil _ _ _ _ _
   ·rw[HF.out]at hr;cases hr
end Go.Proofs.YtlhaghoajpglaaaGreat
namespace Go.Proofs.YtlhaghoajpglaaaGreat
open Go Go.Maps Go.RowKit Go.Proofs.Tryz
theorem Blk.set2 {w:World}{B:Nat}{a b:Value}{e:TypeId}(h:Blk w B #[a,b] e)(x0 x1:Value):Blk ((w.setCell ⟨B,0,none⟩ x0).setCell ⟨B,1,none⟩ x1) B #[x0,x1] e:=(h.set_to (cs':=#[x0,b]) 0 x0 rfl).set_to (cs':=#[x0,x1]) 1 x1 rfl
structure WlkI (w0 w:World)(gp lo:Nat)(tv:Value)(ps:List P3)(q:List (FT × FV3))(pv fv:Value):Prop where
 gk:GkAt w gp w0.heap.size ps pv fv
 row:FRow lo w q fv
 sb:Blk w w0.heap.size #[tv] 26
 ob:Blk w (w0.heap.size+2) #[.slice none 0 0,.slice none 0 0] 96
 be:Below w0.heap.size w0 w
 lo:w0.heap.size+4=gp/\gp<lo/\lo<=w.heap.size
section
variable {w0 w w' w2 w3 w6 w8 : World} {gp lo n0 : Nat} {tv pv fv pv' : Value} {ps ps' : List P3} {q : List (FT × FV3)} {x : FT} {v : FV3}
theorem WlkI.ext (h:WlkI w0 w gp lo tv ps q pv fv)(hx:Ext w w'):WlkI w0 w' gp lo tv ps q pv fv :=
 ⟨h.gk.ext hx,h.row.ext hx,h.sb.below hx,h.ob.below hx,h.be.trans (hx.mono (by have:=h.lo;omega)),h.lo.1,h.lo.2.1,n6! h.lo.2.2 hx.size⟩
theorem WlkI.num (h:WlkI w0 w gp lo tv ps q pv fv)(hf:Fine gp gp w w' pv pv')(hg:GkAt w' gp w0.heap.size ps' pv' fv):WlkI w0 w' gp lo tv ps' q pv' fv :=
 have hl:=h.lo
 ⟨hg,h.row.keep (hf.gpk h.gk (by omega)) fun x hx=>by rw[show x=gp from hx];exact hl.2.1,hf.gblk h.gk h.sb (by decide) (by decide),(hf.kept.block _ ⟨h.ob.lt,by omega,by omega,fun e=>by
  obtain⟨c,hc⟩:=h.gk.pts.typed e;rw[show w.heap[w0.heap.size+2]?=_ from h.ob]at hc;injection hc with hc
  injection hc with _ hc _
  exact absurd hc (by decide)⟩).trans h.ob,h.be.trans (hf.gpk h.gk (by omega)).below,hl.1,hl.2.1,n6! hl.2.2 hf.size⟩
theorem WlkI.step {g n c:Nat}(h:WlkI w0 w gp lo tv ps q pv fv)(hx:FTAt (FS n0 w) w x v)(hn0:lo<=n0)(hfv:∀g,fv.ownBlock=some g->g<n0)
  (h3:Ext w w3) (hg:w3.grownBy w6 fv.ownBlock) (hb:∀g',(Value.slice (some ⟨g,0,none⟩) n c).ownBlock=some g'->fv.ownBlock=some g'\/w3.heap.size<=g')
  (ho:Own w8 lo 128 4 (.slice (some ⟨g,0,none⟩) n c) (q.flatMap fC++fC (x,v))) (hbx:Blk w8 gp #[pv,.slice (some ⟨g,0,none⟩) n c] 96)
  (h8:∀y,y≠g->y≠gp->w8.heap[y]?=w6.heap[y]?) (hsz:w8.heap.size=w6.heap.size) (hos:w8.os=w6.os/\w8.tape=w6.tape/\w8.output=w6.output):WlkI w0 w8 gp lo tv ps (q++[(x,v)]) pv (.slice (some ⟨g,0,none⟩) n c):=by
 have hl:=h.lo;have i:fv.ownBlock=some g\/w3.heap.size<=g:=hb g rfl;have a2:=h3.size;have a1:=hg.size
 have a0:lo<=g:=by
  rcases i with h1 | h1
  ·exact(h.row.row.block g h1).1
  ·omega
 have h6:∀y,y<w.heap.size->fv.ownBlock≠some y->w6.heap[y]?=w.heap[y]?:=fun y hy hn=>(hg.block y (n1! hy h3.size) fun e=>hn e.symm).trans (h3.block y hy)
 have j:∀y,y<w.heap.size->fv.ownBlock≠some y->y≠g:=fun y hy hn e=>by
  subst e;rcases i with h1 | h1
  ·exact hn h1
  ·omega
 have f:∀y,y<w.heap.size->fv.ownBlock≠some y->y≠gp->w8.heap[y]?=w.heap[y]?:=fun y hy hn hp=>(h8 y (j y hy hn) hp).trans (h6 y hy hn);have d:∀y,y<lo->fv.ownBlock≠some y:=fun y hy e=>by have:=(h.row.row.block y e).1;omega
 refine⟨⟨hbx,h.gk.pts.keepOwn fun y hy=>?_⟩,?_,(f _ h.sb.lt (d _ (by omega)) (by omega)).trans h.sb,(f _ h.ob.lt (d _ (by omega)) (by omega)).trans h.ob,?_,hl.1,hl.2.1,by omega⟩
 ·exact f y (h.gk.pts.block y hy).2 (fun e=>h.row.row.apart h.gk.pts (by decide) e hy) (h.gk.ptNe y hy)
 ·refine⟨by rw[x9!];simpa using ho,fun y hy=>?_⟩
  have hm:∀b,(FS lo w b/\fv.ownBlock≠some b)->(FS lo w8 b/\(Value.slice (some ⟨g,0,none⟩) n c).ownBlock≠some b):=fun b hb'=>⟨⟨hb'.1.1,n1! hb'.1.2.1 (by omega),fun cs=>by rw[f b hb'.1.2.1 hb'.2 (by have:=hb'.1.1;omega)];exact hb'.1.2.2 cs⟩,fun e=>by
   injection e with e
   exact j b hb'.1.2.1 hb'.2 e.symm⟩
  have a:∀b,(FS lo w b/\fv.ownBlock≠some b)->w8.heap[b]?=w.heap[b]?:=fun b hb'=>f b hb'.1.2.1 hb'.2 (by have:=hb'.1.1;omega);rcases u3!.1 hy with hy | hy
  ·exact((h.row.parts y hy).same a).mono hm
  ·obtain rfl:=n9!.1 hy;exact((hx.mono fun b hb'=>(⟨hb'.mono hn0,fun e=>by have:=hfv b e;have:=hb'.1;omega⟩:FS lo w b/\fv.ownBlock≠some b)).same a).mono hm
 ·exact h.be.trans ⟨hos.1.trans (hg.os.trans h3.os),hos.2.1.trans (hg.tape.trans h3.tape),hos.2.2.trans (hg.output.trans h3.output),by omega,fun y hy=>f y (by omega) (d _ (by omega)) (by omega)⟩
end
def kD! (ts:List TyS)(T:List Tup)(shut:List R2)(p:P3)(most:Int)(w:World)(e:Ending)(w':World):Prop:=Ext w w'/\((∃n pv fv,pW! ts T shut p most n/\e= .returned (.tuple #[.agg #[pv,fv],.bool true])/\GrAt (fun x=>w.heap.size<=x/\x<w'.heap.size) w' (walkN ts T shut p n).1 (walkN ts T shut p n).2 pv fv)\/(bi! ts T shut p most/\e= .returned (.tuple #[.agg #[.slice none 0 0,.slice none 0 0],.bool false])))
theorem fx! {α:Type} [DecidableEq α] {l:List α}{j:Nat}(h:j<l.length)(x:α):(decide (x∈l.take (j+1))=(decide (x∈l.take j)||decide (l[j]=x))):=by
 rw[n2! h,Bool.eq_iff_iff,u1!,Bool.or_eq_true,u1!,u1!,u3!,n9!];exact or_congr Iff.rfl eq_comm
theorem is! (ts:List TyS)(tv:Value)(T:List Tup)(setv:Value)(shut:List R2)(sv:Value)(p:P3)(most:Int)(N:Nat)(w:World)(h:pU! (· < w.heap.size) w ts tv)(hu:aT! ts=true)(hset:Sl (· < w.heap.size) w 6 setv (tuCs T))(hsv:Sl (· < w.heap.size) w 2 sv (shut.flatMap r2C))(hsl:shut.length<=1099511627776)(hin:gC! ts T shut p N) :
  Calls prog 51 #[.agg #[tv],setv,sv,pV p,.int .i64 most] w fun e w'=>kD! ts T shut p most w e w':=by
 have J:=h! hin;have HU:=h! hu;have aZ:=h! hsl;obtain⟨ao,c,rfl,-⟩:=h.rows;obtain⟨so,sc,rfl,-⟩:=Sl.rows aO! (by decide) hsv;obtain⟨to,tc,rfl,-⟩:=Sl.rows at! (by decide) (show Sl _ w 6 setv (T.flatMap tuC)from hset);have b4:=h! (fun W (hW:Below w.heap.size w W)=>(h.same (Same.below hW):pU! (· < w.heap.size) W ts (.slice ao ts.length c)));have bm:=h! (fun W (hW:Below w.heap.size w W)=>(hsv.same (Same.below hW):Sl (· < w.heap.size) W 2 (.slice so shut.length sc) (shut.flatMap r2C)));have bk:=h! (fun W (hW:Below w.heap.size w W)=>(hset.same (Same.below hW):Sl (· < w.heap.size) W 6 (.slice to T.length tc) (tuCs T)));obtain⟨wa,aa⟩:=e! (w.alloc (.cells #[.slice ao ts.length c] 26));obtain⟨wb,a6⟩:=e! (wa.alloc (.cells #[.string p.t,.string p.i,.string p.r] 32));obtain⟨wc,a4⟩:=e! (wb.alloc (.cells #[.slice none 0 0,.slice none 0 0] 96));obtain⟨wd,a8⟩:=e! (wc.alloc (.cells #[.string p.t,.string p.i,.string p.r] 32));have ea:wa.heap.size=w.heap.size+1:=by rw[aa];simp
 have eb:wb.heap.size=w.heap.size+2:=by rw[a6];simp[ea]
 have ec:wc.heap.size=w.heap.size+3:=by rw[a4];simp[eb]
 have ed:wd.heap.size=w.heap.size+4:=by rw[a8];simp[ec]
 obtain⟨we,R⟩:=e! (wd.alloc (.cells #[.slice (some ⟨w.heap.size+3,0,none⟩) 1 1,.slice none 0 0] 96));have ee:we.heap.size=w.heap.size+5:=by rw[R];simp[ed]
 have xa:Ext w wa:=xa! aa
 have xb:Ext wa wb:=xa! a6
 have xc:Ext wb wc:=xa! a4
 have xd:Ext wc wd:=xa! a8
 have xe:Ext wd we:=xa! R
 have EI:=h! (show WlkI w we (w.heap.size+4) (w.heap.size+5) (.slice ao ts.length c) [p] [] (.slice (some ⟨w.heap.size+3,0,none⟩) 1 1) (.slice none 0 0) from
  ⟨⟨by rw[R,<-ed];exact Blk.made _ _ _,Own.below (w:=wd) (by rw[a8,<-ec,cu!];exact Own.lit wc (by omega) _ 3 1 #[.string p.t,.string p.i,.string p.r] rfl (by unfold maxLen;omega) (by omega)) xe⟩,FRow.nil _ _,Blk.below (bm! aa) (xb.trans (xc.trans (xd.trans xe))),Blk.below (w:=wc) (by rw[a4,<-eb];exact Blk.made _ _ _) (xd.trans xe),xa.trans (xb.trans (xc.trans (xd.trans xe))),rfl,by omega,by omega⟩)
 have b9:=(Blk.below (show Blk wb (w.heap.size+1) #[.string p.t,.string p.i,.string p.r] 32 from by rw[a6,<-ea];exact Blk.made _ _ _) xc).cells;clear h hu hset hsv hsl hin ea eb ec ed ee xa xb xc xd xe;subst a8 a4 a6 aa;unfold pV;go_enter func51,ntmps51
 go_wp2_with fail
 rw[<-R];clear b9 R;go_loopw [13] (fun iv wr=>∃(n:Nat) (q:List (FT × FV3)) (pv fv:Value),iv= .int .i64 n/\WalkAt ts T shut p most n/\q.map (·.1)=(walkN ts T shut p n).2/\WlkI w wr (w.heap.size+4) (w.heap.size+5) (.slice ao ts.length c) (walkN ts T shut p n).1 q pv fv) (fun iv _=>N+1-(intOf iv).toNat)
 case atStart=>exact⟨0,[],_,_,rfl,fun m hm=>absurd hm (Nat.not_lt_zero _),rfl,EI.out⟩
 case round =>
  obtain⟨n,q,pv,fv,rfl,hwn,hq,aN⟩:=hrel;have ak:=h! hwn;have HQ:=h! hq;have RW:=h! aN;have bi:=h! hwn.le;have O:=h! (J.out.few n)
  have C:=h! (show q.length=n from by
   have:=congrArg List.length hq;rw[x1!,aF!]at this;exact this)
  clear hwn hq aN EI;obtain⟨po,pc,rfl,bn,bq,-⟩:=Sl.rows aj! (by decide) (show Sl _ wr 3 pv ((walkN ts T shut p n).1.flatMap pC)from RW.out.gk.pts.sl);have a0:=RW.out.gk.box.cells;by_cases hlt:n<(walkN ts T shut p n).1.length
  ·by_cases hmo:((walkN ts T shut p n).1.length:Int)<=most
   ·have aT:=h! (show WalkAt ts T shut p most (n+1)from fun m hm=>by
     by_cases e:m=n
     ·subst e;exact⟨hlt,hmo⟩
     ·exact ak.out m (by omega))
    obtain⟨bs,c',bd,-,-,f⟩:=Sl.rows aj! (by decide) (show Sl _ wr 3 (.slice po (walkN ts T shut p n).1.length pc) ((walkN ts T shut p n).1.flatMap pC)from RW.out.gk.pts.sl);cases bd;obtain⟨b,af,rfl,-,f⟩:=f (by omega);have D:=f n hlt;clear f
    have ad:=h! (show walkN ts T shut p (n+1)=((stepG ts T shut (walkN ts T shut p n).1[n] (walkN ts T shut p n).1).2,(walkN ts T shut p n).2++[(stepG ts T shut (walkN ts T shut p n).1[n] (walkN ts T shut p n).1).1])from by
     rw[walkN,show(walkN ts T shut p n).1.getD n p=(walkN ts T shut p n).1[n]from by rw[n8!,n4! hlt];rfl])
    have b1:=h! (J.out.okp n _ (n5! hlt));have ab:=h! (show n<N from by have:=O.out;omega);have s:(n:Int)<((walkN ts T shut p n).1.length:Int):=by omega
    generalize (walkN ts T shut p n).1[n]=x at *;generalize hwn:walkN ts T shut p n=wn at *;obtain⟨ps,fs⟩:=wn;dsimp only at *;have H:¬ (most<(ps.length:Int)):=by omega
    clear hlt hmo hwn;obtain⟨xt,xi,xr⟩:=x;have c0:wr.cell? ⟨b,af+n*3,none⟩=some (.string xt):=D 0 _ rfl;have c1:wr.cell? ⟨b,af+n*3+1,none⟩=some (.string xi):=D 1 _ rfl;have c2:wr.cell? ⟨b,af+n*3+2,none⟩=some (.string xr):=D 2 _ rfl;clear D;have X1:=h! (Ext.alloc wr (.cells #[.string xt,.string xi,.string xr] 32));have BX:=h! (Blk.made wr #[.string xt,.string xi,.string xr] 32);have W1:=h! (RW.out.ext X1.out);have M:=BX.out.cells;have b5:=W1.out.sb.cells;have aj:=h! (show wrap64 ((n:Int)+1)=((n+1:Nat):Int)from by have:=ab.out;have:=J.out.nmax;unfold wrap64;omega);have aK:=h! (fun g hg=>(RW.out.row.row.block g hg).2);go_wp2_with fail
    clear M b5 c0 c1 c2 s H a0;refine(lT! (S:=(· < w.heap.size)) ts (.slice ao ts.length c) xt xr _ (fun y hy=>by have:=W1.out.lo;omega) (b4.out _ W1.out.be) HU.out).mono ?_;rintro e w2 ⟨z,rfl,hz,aq,az,aQ⟩;obtain⟨⟨zk,za,zb,A⟩,zv⟩:=z;dsimp only at hz;obtain⟨zo,zc,rfl,-⟩:=hz.rows;unfold rvV rV;dsimp only[RT.k,RT.a,RT.b,RT.ps]at hz aq az ⊢;have X2:Hid (Ext _ w2):=h! aQ;have W2:=h! (W1.out.ext X2.out);have am:=h! (BX.out.below X2.out);have bc:=h! aq;have HZ:=h! hz;have aJ:Hid (bb! ts shut ⟨xt,xi,xr⟩=if (⟨xt,xr⟩:R2)∈shut then none else lookA (ac! ts) ⟨xt,xr⟩):=h! rfl;have Z1:Hid (wr.heap.size<w2.heap.size):=h! am.out.lt;clear hz aq az aQ W1 X1 BX RW;generalize hlk:lookA (ac! ts) ⟨xt,xr⟩=lk at *;have b3:=h! hlk;clear hlk;generalize ho0:lk.isSome=o0 at *;have aM:=h! ho0;clear ho0;have aG:=h! (fun g hg=>n1! (aK.out g hg) (Nat.le_of_lt Z1.out));generalize wr.heap.size=xb at *;have X3:=h! (Ext.alloc w2 (.cells #[.int .i64 zk,.string za,.string zb,.slice zo A.length zc] 106));have BZ:=h! (Blk.made w2 #[.int .i64 zk,.string za,.string zb,.slice zo A.length zc] 106);have W3:=h! (W2.out.ext X3.out);have ai:=h! (am.out.below X3.out);have aR:=h! (HZ.out.same fun y (hy:y<w.heap.size)=>X3.out.block y (by have:=W2.out.lo;omega));clear HZ am;go_wp2_with fail
    obtain⟨w3,aB⟩:=e! (w2.alloc (.cells #[.int .i64 zk,.string za,.string zb,.slice zo A.length zc] 106));rw[<-aB]at X3 BZ W3 ai aR ⊢;have aL:=h! (fun g hg=>n1! (aG.out g hg) X3.out.size);clear aB aG aK f;generalize w2.heap.size=zb0 at *;go_loopw [16,53] (fun okv jv wr=>∃j:Nat,j<=shut.length/\jv= .int .i64 j/\okv= .bool (o0&&!decide ((⟨xt,xr⟩:R2)∈shut.take j))/\Ext w3 wr) (fun _ jv _=>shut.length-(intOf jv).toNat)
    case atStart=>exact⟨0,v1! _,rfl,by simp,Ext.refl _⟩
    case' round =>
     obtain⟨j,hj,rfl,rfl,hx⟩:=hrel;have RX:=h! hx;have RB:=h! (ai.out.below hx);clear hx;by_cases hjl:j<shut.length
     case' pos =>
      obtain⟨bo,c2,b8,-,-,f⟩:=Sl.rows aO! (by decide) (bm.out wr (W3.out.ext RX.out).be);cases b8;obtain⟨b2,Q,rfl,-,f⟩:=f (by omega);have D:=f j hjl;clear f;have aH:=h! (fx! hjl (⟨xt,xr⟩:R2));have a2:=h! hjl;have a5:=h! (show wrap64 ((j:Int)+1)=((j+1:Nat):Int)from by have:=aZ.out;unfold wrap64;omega);have bf:(j:Int)<(shut.length:Int):=by omega
      generalize shut[j]=y at *;generalize hdm:decide ((⟨xt,xr⟩:R2)∈shut.take j)=dm at *;clear hdm hjl;have al:=fun W=>pz! y ⟨xt,xr⟩ W;have ba:Hid (decide (y≠(⟨xt,xr⟩:R2))=!decide (y=(⟨xt,xr⟩:R2))):=h! (by simp);generalize decide (y≠(⟨xt,xr⟩:R2))=dn at *;obtain⟨yt,yr⟩:=y;unfold r2V at al;dsimp only at al;have k0:wr.cell? ⟨b2,Q+j*2,none⟩=some (.string yt):=D 0 _ rfl;have k1:wr.cell? ⟨b2,Q+j*2+1,none⟩=some (.string yr):=D 1 _ rfl;clear D;have X4:=h! (Ext.alloc wr (.cells #[.string yt,.string yr] 121));have bp:=(Blk.made wr #[.string yt,.string yr] 121).cells;have M:=(RB.out.below X4.out).cells;cases hok:(o0&&!dm) with
      | true =>
       have G:=h! (show(o0&&!decide ((⟨xt,xr⟩:R2)∈shut.take (j+1)))=dn from by
        rw[aH.out,ba.out,Bool.not_or,<-Bool.and_assoc,hok,Bool.true_and])
       clear hok;go_wp2_with fail
       go_roundw
       case rel=>exact⟨j+1,a2.out,by first | rw[a5.out] | go_num,by rw[G.out],RX.out.trans X4.out⟩
       case measure=>have:=a2.out;(try rw[a5.out]);simp[intOf];omega
      | false =>
       have G:=h! (show(o0&&!decide ((⟨xt,xr⟩:R2)∈shut.take (j+1)))=false from by
        rw[aH.out,Bool.not_or,<-Bool.and_assoc,hok,Bool.false_and])
       clear hok al;go_wp2_with fail
       go_roundw
       case rel=>exact⟨j+1,a2.out,by first | rw[a5.out] | go_num,by rw[G.out],RX.out.trans X4.out⟩
       case measure=>have:=a2.out;(try rw[a5.out]);simp[intOf];omega
     case' neg =>
      obtain rfl:j=shut.length:=by omega
      clear hj hjl;rw[u2!];have W5:=h! ((W3.out.ext RX.out).ext (Ext.alloc wr (.cells #[.int .i64 0,.slice none 0 0,.slice none 0 0,.slice none 0 0] 128)));have X5:Hid (Ext w3 (wr.alloc (.cells #[.int .i64 0,.slice none 0 0,.slice none 0 0,.slice none 0 0] 128))):=h! (RX.out.trans (Ext.alloc _ _));have B5:=h! (Blk.made wr #[.int .i64 0,.slice none 0 0,.slice none 0 0,.slice none 0 0] 128);have ah:=h! (fun g hg=>n1! (aL.out g hg) X5.out.size);have M:=(RB.out.below (Ext.alloc wr (.cells #[.int .i64 0,.slice none 0 0,.slice none 0 0,.slice none 0 0] 128))).cells;have aW:=(BZ.out.below X5.out).cells;have a9:Hid (w3.heap.size<=wr.heap.size/\wr.heap.size<(wr.alloc (.cells #[.int .i64 0,.slice none 0 0,.slice none 0 0,.slice none 0 0] 128)).heap.size):=h! ⟨RX.out.size,B5.out.lt⟩;cases hok:(o0&&!decide ((⟨xt,xr⟩:R2)∈shut))
      case' false =>
       have aE:=h! (show bb! ts shut ⟨xt,xi,xr⟩=none from by
        rw[aJ.out];split
        ·rfl
        ·next hns =>
         rw[v3! hns]at hok;have h1:=aM.out;simp only[Bool.not_false,Bool.and_true]at hok;rw[hok]at h1;simpa using h1)
       have FX:Hid (∃(fx:FT) (s1:Option Addr) (s2 s3:Nat) (r1:Option Addr) (r2 r3:Nat) (t1:Option Addr) (t2 t3:Nat) (F:List P3) (l:Value) (n0:Nat),stepG ts T shut ⟨xt,xi,xr⟩ ps=(fx,F)/\WlkI w (wr.alloc (.cells #[.int .i64 0,.slice none 0 0,.slice none 0 0,.slice none 0 0] 128)) (w.heap.size+4) (w.heap.size+5) (.slice ao ts.length c) F q l fv/\Blk (wr.alloc (.cells #[.int .i64 0,.slice none 0 0,.slice none 0 0,.slice none 0 0] 128)) wr.heap.size #[.int .i64 fx.k,.slice s1 s2 s3,.slice r1 r2 r3,.slice t1 t2 t3] 128/\FTAt (FS n0 (wr.alloc (.cells #[.int .i64 0,.slice none 0 0,.slice none 0 0,.slice none 0 0] 128))) (wr.alloc (.cells #[.int .i64 0,.slice none 0 0,.slice none 0 0,.slice none 0 0] 128)) fx (.slice s1 s2 s3,.slice r1 r2 r3,.slice t1 t2 t3)/\w.heap.size+5<=n0/\∀g,fv.ownBlock=some g->g<n0):=h! ⟨FT.zero,none,0,0,none,0,0,none,0,0,ps,_,_,dA! aE.out,W5.out,B5.out,jZ! _ _,W5.out.lo.2.2,ah.out⟩;clear aE hok W5 B5 ah W3 RX RB X5 BZ ai;go_wp2_with fail
       clear M aW;generalize wr.alloc (.cells #[.int .i64 0,.slice none 0 0,.slice none 0 0,.slice none 0 0] 128)=wx at *
      case' true =>
       obtain⟨aS,aY⟩:=Bool.and_eq_true_iff.1 hok
       have ar:=h! (show bb! ts shut ⟨xt,xi,xr⟩=some (.mk zk za zb A)/\(⟨⟨xt,xr⟩,.mk zk za zb A⟩:R2 × RT)∈ac! ts from by
        have hns:¬ ((⟨xt,xr⟩:R2)∈shut):=by simpa using aY
        have h1:=aM.out;rw[aS]at h1;obtain⟨r,hr⟩:=Option.isSome_iff_exists.1 h1;have h2:=bc.out r hr;rw[aJ.out,if_neg hns,hr,<-h2];exact⟨rfl,aD! (by rw[b3.out,hr,<-h2])⟩)
       have aX:=h! (J.out.room _ ar.out.2);have Y:=h! (kf! (w.heap.size+4) w.heap.size (.slice to T.length tc) fv T ⟨xt,xi,xr⟩ w (fun W hW=>bk.out W hW) J.out.tlen (by omega) (.mk zk za zb A) (.slice (some ⟨b,af,none⟩) ps.length pc) (.slice zo A.length zc) ps _ (aR.out.same fun y (hy:y<w.heap.size)=>X5.out.block y (by have:=W3.out.lo;omega)) W5.out.be W5.out.gk (by have h1:=aX.out;have h2:=O.out;dsimp only at h1;omega));unfold pV rV at Y;dsimp only[RT.k,RT.a,RT.b,RT.ps]at Y;clear hok aS aY;go_wp2_with fail
       clear M aW;refine Y.out.mono ?_;rintro e w6 ⟨⟨v1,v2,v3⟩,l,rfl,E,aw,ap⟩;have aV:Hid (stepG ts T shut ⟨xt,xi,xr⟩ ps=formD T ⟨xt,xi,xr⟩ (.mk zk za zb A) ps):=h! (fm! ar.out.1);generalize formD T ⟨xt,xi,xr⟩ (.mk zk za zb A) ps=fd at *;obtain⟨fx,F⟩:=fd;unfold fV;dsimp only at E aw ⊢;obtain⟨u1,u2,-⟩:=(FTAt.iff _ _).1 E;obtain⟨s1,s2,s3,rfl,-,-,-⟩:=u1.len;obtain⟨r1,r2,r3,rfl,-,-,-⟩:=u2.len;obtain⟨t1,t3,rfl,-⟩:=E.rows;have B6:=h! (ap.gblk W5.out.gk B5.out (by decide) (by decide));have FN:=h! (((((Fine.trans (Fine.of _ _ _ (Ext.alloc wr (.cells #[.int .i64 0,.slice none 0 0,.slice none 0 0,.slice none 0 0] 128))) ap).set (x:=wr.heap.size) (i:=0) (n0! _) (.int .i64 fx.k)).set (x:=wr.heap.size) (i:=1) (n0! _) (.slice s1 s2 s3)).set (x:=wr.heap.size) (i:=2) (n0! _) (.slice r1 r2 r3)).set (x:=wr.heap.size) (i:=3) (n0! _) (.slice t1 fx.ps.length t3));have BP:=h! (B6.out.put4 (.int .i64 fx.k) (.slice s1 s2 s3) (.slice r1 r2 r3) (.slice t1 fx.ps.length t3));have GP:=h! ((((aw.setBox (i:=0) B6.out (by decide) (by decide) (.int .i64 fx.k)).setBox (i:=1) (show Blk _ wr.heap.size _ _ from B6.out.set 0 (.int .i64 fx.k)) (by decide) (by decide) (.slice s1 s2 s3)).setBox (i:=2) (show Blk _ wr.heap.size _ _ from(B6.out.set 0 (.int .i64 fx.k)).set 1 (.slice s1 s2 s3)) (by decide) (by decide) (.slice r1 r2 r3)).setBox (i:=3) (show Blk _ wr.heap.size _ _ from((B6.out.set 0 (.int .i64 fx.k)).set 1 (.slice s1 s2 s3)).set 2 (.slice r1 r2 r3)) (by decide) (by decide) (.slice t1 fx.ps.length t3));obtain⟨wx,U⟩:=e! ((((w6.setCell ⟨wr.heap.size,0,none⟩ (.int .i64 fx.k)).setCell ⟨wr.heap.size,1,none⟩ (.slice s1 s2 s3)).setCell ⟨wr.heap.size,2,none⟩ (.slice r1 r2 r3)).setCell ⟨wr.heap.size,3,none⟩ (.slice t1 fx.ps.length t3));have au:Hid (∀y,y≠wr.heap.size->wx.heap[y]?=w6.heap[y]?):=h! (fun y hy=>by rw[U,Below.heap_setCell _ _ _ y hy,Below.heap_setCell _ _ _ y hy,Below.heap_setCell _ _ _ y hy,Below.heap_setCell _ _ _ y hy]);have aF:=h! (show wx.heap.size=w6.heap.size from by rw[U];simp);rw[<-U]at FN BP GP;have FX:=h! (show ∃(fx:FT) (s1:Option Addr) (s2 s3:Nat) (r1:Option Addr) (r2 r3:Nat) (t1:Option Addr) (t2 t3:Nat) (F:List P3) (l:Value) (n0:Nat),stepG ts T shut ⟨xt,xi,xr⟩ ps=(fx,F)/\WlkI w wx (w.heap.size+4) (w.heap.size+5) (.slice ao ts.length c) F q l fv/\Blk wx wr.heap.size #[.int .i64 fx.k,.slice s1 s2 s3,.slice r1 r2 r3,.slice t1 t2 t3] 128/\FTAt (FS n0 wx) wx fx (.slice s1 s2 s3,.slice r1 r2 r3,.slice t1 t2 t3)/\w.heap.size+5<=n0/\∀g,fv.ownBlock=some g->g<n0 from⟨fx,s1,s2,s3,r1,r2,r3,t1,fx.ps.length,t3,F,l,_,aV.out,(W3.out.ext RX.out).num FN.out GP.out,BP.out,(E.same fun y hy=>au.out y (by have:=hy.1;have:=a9.out;omega)).mono fun y hy=>⟨hy.1,by rw[aF.out];exact hy.2.1,fun cs=>by rw[au.out y (by have:=hy.1;have:=a9.out;omega)];exact hy.2.2 cs⟩,W5.out.lo.2.2,ah.out⟩);have o:=B6.out.cells;have bl:=B6.out.free;clear Y E aw ap u1 u2 aV aX ar B6 FN BP GP au aF W5 B5 ah W3 RX RB X5 BZ ai;go_wp2_with fail
       rw[<-U];clear o bl U
      all_goals
       obtain⟨fx,s1,s2,s3,r1,r2,r3,t1,t2,t3,F,l,n0,aI,hw,o,E,aC,aU⟩:=FX.out;have a7:=h! aI;have QN:=h! aC;have QV:=h! aU;obtain⟨wq,Z⟩:=e! (World.drew wx);have QX:Ext wx wq:=xd! Z
       have QW:=h! (hw.ext QX);have QB:=h! (o.below QX);have QA:=h! ((E.same fun y hy=>QX.block y hy.2.1).mono (S':=FS n0 wq) fun y hy=>hy.ext QX);obtain⟨qo,qn,qc,rfl,aD,-,-⟩:=QW.out.row.row.sl.len;obtain rfl:qn=n:=by rw[ap!]at aD;have:=C.out;omega
       have b0:=h! a9.out;refine bx! (fun j=>decide (6<=j)) (fun W=>Blk W (w.heap.size+4) #[l,.slice qo qn qc] 96/\Blk W wr.heap.size #[.int .i64 fx.k,.slice s1 s2 s3,.slice r1 r2 r3,.slice t1 t2 t3] 128) (by rw[<-Z];exact⟨QW.out.gk.box,QB.out⟩) (by kernel_rfl) (by kernel_rfl) (fun _ _ d _ _ h=>by cases d <;> exact h) ?_;rw[<-Z];clear Z aI hw o E aC aU FX QX aD a9;generalize wr.heap.size=f0 at *;have h1:=fun W (h:Blk W (w.heap.size+4) #[l,.slice qo qn qc] 96/\Blk W f0 #[.int .i64 fx.k,.slice s1 s2 s3,.slice r1 r2 r3,.slice t1 t2 t3] 128)=>h.1.cells;have h2:=fun W (h:Blk W (w.heap.size+4) #[l,.slice qo qn qc] 96/\Blk W f0 #[.int .i64 fx.k,.slice s1 s2 s3,.slice r1 r2 r3,.slice t1 t2 t3] 128)=>h.2.cells;(refine WalkS.tk [0,1,2,3] ?_;(iterate 4 (refine z! ?_));refine TkS.n ?_)
       clear h1 h2;have B:=Ext.alloc wq (.cells #[.int .i64 0,.slice none 0 0,.slice none 0 0,.slice none 0 0] 128);refine oS! 4 ?_;refine b! ?_;intro K hK;go_simp;refine hK.out _ _ ⟨QW.out.gk.box.below B,QB.out.below B⟩ ?_;clear hK;have aA:=h! (show qn<=1073741823 from by have h1:=ab.out;have h2:=J.out.nmax;omega);refine oS! 5 ?_;refine b! ?_;intro K hK;refine bD! lO! (.tmp 76) (.tmp 79) rfl rfl (QW.out.row.row.below B) (m:=1) (news:=[.int .i64 0,.slice none 0 0,.slice none 0 0,.slice none 0 0]) rfl rfl (fun j u hu=>?_) (by simp[Value.oneCell']) (by have:=C.out;have:=aA.out;rw[ap!];simp;omega) (by have:=C.out;have:=aA.out;rw[ap!];simp;omega) (by have:=QW.out.lo;simp;omega) (fun v6 w6 hown6 hb6 hg6=>?_)
       ·rw[Addr.add_lit,cell_of_row _ wq.heap.size (0+j) #[.int .i64 0,.slice none 0 0,.slice none 0 0,.slice none 0 0] 128 (0,0) (heap_alloc_new wq _),Nat.zero_add];simpa using hu
       obtain⟨g,n6,c6,rfl⟩:∃g n c,v6= .slice (some ⟨g,0,none⟩) n c:=by
        rcases hown6.shape with⟨_,h⟩ | h
        ·simp at h
        ·exact h
       obtain rfl:n6=qn+1:=by
        obtain⟨a,b,c,h1,h2,-,-⟩:=hown6.sl.len;cases h1;rw[u4!,ap!,C.out]at h2;simp at h2;omega
       have ay:∀y,y<w.heap.size+5->(Value.slice qo qn qc).ownBlock≠some y:=fun y hy e=>by have:=(QW.out.row.row.block y e).1;omega
       have B6:Hid (Blk w6 (w.heap.size+4) _ _):=h! ((hg6.block _ (QW.out.gk.box.below B).lt fun e=>ay _ (by omega) e.symm).trans (QW.out.gk.box.below B));obtain⟨bj,I⟩:=hown6.typed (g:=g) rfl;have ag:Hid (Blk w6 g bj 128):=h! I
       have V:=h! (show g≠w.heap.size+4 from fun e=>by
        have h1:w6.heap[w.heap.size+4]?=_:=B6.out;rw[<-e,I]at h1;injection h1 with h1
        injection h1 with _ h1 _
        exact absurd h1 (by decide))
       have X:=h! hown6;have ae:=h! hb6;have a1:=h! hg6;have ac:=h! B;have F6:=h! (show Blk w6 f0 _ _ from(hg6.block _ (QB.out.below B).lt fun e=>by have h1:=(QW.out.row.row.block _ e.symm).2;have h2:=aL.out _ e.symm;have h3:=b0.out.1;omega).trans (QB.out.below B));refine hK.out _ _ ⟨B6.out,F6.out⟩ ?_;clear hK B hown6 hb6 hg6 I ay;simp only[Act.put,pA,pZ,pS];have br:(qn:Int)<(qn:Int)+1:=by omega
       refine WalkS.rest (by kernel_rfl) ?_;(refine WalkN.tk [6,8] ?_;(iterate 2 (refine c! ?_));refine TkN.n ?_)
       refine p! 7 9 ?_ ?_
       ·refine b! ?_;intro K hK;have ax:=ag.out.free;obtain⟨k0,k1,k2,k3⟩:=cE! X.out (k:=qn*4) (by rw[ap!,C.out]);go_simp;clear ax k0 k1 k2 k3;refine hK.out _ _ trivial ?_;clear hK;have L:=h! (Own.setForm (p := .int .i64 0) X.out (k:=qn*4) (by rw[ap!,C.out]) (.int .i64 fx.k) (.slice s1 s2 s3) (.slice r1 r2 r3) (.slice t1 t2 t3));have B7:Hid (Blk (World.setForm w6 g (qn*4) (.int .i64 fx.k) (.slice s1 s2 s3) (.slice r1 r2 r3) (.slice t1 t2 t3)) (w.heap.size+4) _ _):=h! ((aw! _ _ _ _ _ _ _ (Ne.symm V.out)).trans B6.out);have o:∀j,(World.setForm w6 g (qn*4) (.int .i64 fx.k) (.slice s1 s2 s3) (.slice r1 r2 r3) (.slice t1 t2 t3)).frozen? ⟨w.heap.size+4,j,none⟩=false:=B7.out.free;have a3:=B7.out.cells;unfold World.setForm at o a3;refine ob! 9 ?_;intro K hK;go_simp;refine hK.out _ _ trivial ?_;clear hK o a3;refine d! ?_;have ES:=h! (QW.out.step (w8:=(World.setForm w6 g (qn*4) (.int .i64 fx.k) (.slice s1 s2 s3) (.slice r1 r2 r3) (.slice t1 t2 t3)).setCell ⟨w.heap.size+4,1,none⟩ (.slice (some ⟨g,0,none⟩) (qn+1) c6)) (v:=(.slice s1 s2 s3,.slice r1 r2 r3,.slice t1 t2 t3)) QA.out QN.out QV.out ac.out a1.out ae.out (Own.setBox L.out B7.out (by decide) _) (B7.out.set_to 1 _ rfl) (fun y h1 h2=>(Below.heap_setCell _ _ _ y h2).trans (aw! _ _ _ _ _ _ _ h1)) (by rw[show ∀(x:World) a v,(x.setCell a v).heap.size=x.heap.size from fun x a v=>by simp,aR!]) ⟨rfl,rfl,rfl⟩);unfold World.setForm at ES;clear L B7 B6 F6 ag V X ae a1 ac QW QB QA QN QV;go_wp2_with fail
        go_roundw
        case rel=>exact⟨qn+1,q++[(fx,(.slice s1 s2 s3,.slice r1 r2 r3,.slice t1 t2 t3))],l,.slice (some ⟨g,0,none⟩) (qn+1) c6,by first | rw[aj.out] | go_num,aT.out,by rw[ad.out,a7.out,v9!,HQ.out];rfl,by rw[ad.out,a7.out];exact ES.out⟩
        case measure=>have h1:=ab.out;(try rw[aj.out]);simp[intOf];omega
       ·refine b! ?_;intro K hK;have o:=B6.out.free;have a3:=B6.out.cells;go_simp;clear o a3;refine hK.out _ _ trivial ?_;clear hK;have B7:=h! (B6.out.set_to (cs':=#[l,.slice (some ⟨g,0,none⟩) (qn+1) c6]) 1 (.slice (some ⟨g,0,none⟩) (qn+1) c6) rfl);have L:=h! (Own.setBox (i:=1) X.out B6.out (by decide) (.slice (some ⟨g,0,none⟩) (qn+1) c6));have aP:=h! (ag.out.other (a:=⟨w.heap.size+4,1,none⟩) V.out (.slice (some ⟨g,0,none⟩) (qn+1) c6));have ax:=aP.out.free;obtain⟨k0,k1,k2,k3⟩:=cE! L.out (k:=qn*4) (by rw[ap!,C.out]);refine ob! 7 ?_;intro K hK;go_simp;refine hK.out _ _ trivial ?_;clear hK ax k0 k1 k2 k3;refine d! ?_;have ES:=h! (QW.out.step (w8:=World.setForm (w6.setCell ⟨w.heap.size+4,1,none⟩ (.slice (some ⟨g,0,none⟩) (qn+1) c6)) g (qn*4) (.int .i64 fx.k) (.slice s1 s2 s3) (.slice r1 r2 r3) (.slice t1 t2 t3)) (v:=(.slice s1 s2 s3,.slice r1 r2 r3,.slice t1 t2 t3)) QA.out QN.out QV.out ac.out a1.out ae.out (Own.setForm L.out (k:=qn*4) (by rw[ap!,C.out]) _ _ _ _) ((aw! _ _ _ _ _ _ _ (Ne.symm V.out)).trans B7.out) (fun y h1 h2=>(aw! _ _ _ _ _ _ _ h1).trans (Below.heap_setCell _ _ _ y h2)) (by rw[aR!];simp) ⟨rfl,rfl,rfl⟩);unfold World.setForm at ES;clear L B7 aP B6 F6 ag V X ae a1 ac QW QB QA QN QV;go_wp2_with fail
        go_roundw
        case rel=>exact⟨qn+1,q++[(fx,(.slice s1 s2 s3,.slice r1 r2 r3,.slice t1 t2 t3))],l,.slice (some ⟨g,0,none⟩) (qn+1) c6,by first | rw[aj.out] | go_num,aT.out,by rw[ad.out,a7.out,v9!,HQ.out];rfl,by rw[ad.out,a7.out];exact ES.out⟩
        case measure=>have h1:=ab.out;(try rw[aj.out]);simp[intOf];omega
   ·have H:most<((walkN ts T shut p n).1.length:Int):=by omega
    have b7:Hid (bi! ts T shut p most):=h! ⟨n,ak.out,hlt,H⟩;have s:(n:Int)<((walkN ts T shut p n).1.length:Int):=by omega
    clear hlt hmo;have av:=RW.out.ob.cells;have an:=RW.out.ob.free;go_wp2_with fail
    clear av an a0;have HZ:=RW.out.ob.set2 (.slice none 0 0) (.slice none 0 0);refine bodyPost_ret (v := .tuple #[.agg #[.slice none 0 0,.slice none 0 0],.bool false]) ?_ rfl ⟨Below.setCell (Below.setCell RW.out.be (by show w.heap.size<=w.heap.size+2;omega) _) (by show w.heap.size<=w.heap.size+2;omega) _,.inr ⟨b7.out,rfl⟩⟩;rw[results_cell_tmp rfl];have hl:=run_loadVar_row (P:=prog) _ (w.heap.size+2) _ 96 _ _ _ HZ Tryz.underlying96 rfl (by kernel_rfl);simp[asAddr,hl,Result.andThen]
  ·have bb:=h! (show pW! ts T shut p most n from⟨ak.out,by have:=bi.out;omega⟩);have s:¬ ((n:Int)<((walkN ts T shut p n).1.length:Int)):=by omega
   obtain⟨fo,fn,fc,rfl,-,-,-⟩:=RW.out.row.row.sl.len;have a0:=RW.out.gk.box.cells;have av:=RW.out.ob.cells;have an:=RW.out.ob.free;clear hlt;go_wp2_with fail
   clear av an a0 s;have HZ:=RW.out.ob.set2 (.slice po (walkN ts T shut p n).1.length pc) (.slice fo fn fc);have aO:∀y,y≠w.heap.size+2->((wr.setCell ⟨w.heap.size+2,0,none⟩ (.slice po (walkN ts T shut p n).1.length pc)).setCell ⟨w.heap.size+2,1,none⟩ (.slice fo fn fc)).heap[y]?=wr.heap[y]?:=fun y hy=>by rw[Below.heap_setCell _ _ _ y hy,Below.heap_setCell _ _ _ y hy]
   have bh:((wr.setCell ⟨w.heap.size+2,0,none⟩ (.slice po (walkN ts T shut p n).1.length pc)).setCell ⟨w.heap.size+2,1,none⟩ (.slice fo fn fc)).heap.size=wr.heap.size:=by simp
   obtain⟨q2,b6,bg,be⟩:=RW.out.row.forms;have hS:Same (FS (w.heap.size+5) wr) wr ((wr.setCell ⟨w.heap.size+2,0,none⟩ (.slice po (walkN ts T shut p n).1.length pc)).setCell ⟨w.heap.size+2,1,none⟩ (.slice fo fn fc)):=fun y hy=>aO y (by have:=hy.1;omega);have hM:∀y,FS (w.heap.size+5) wr y->w.heap.size<=y/\y<((wr.setCell ⟨w.heap.size+2,0,none⟩ (.slice po (walkN ts T shut p n).1.length pc)).setCell ⟨w.heap.size+2,1,none⟩ (.slice fo fn fc)).heap.size:=fun y hy=>⟨by have:=hy.1;omega,by rw[bh];exact hy.2.1⟩;refine bodyPost_ret (v := .tuple #[.agg #[.slice po (walkN ts T shut p n).1.length pc,.slice fo fn fc],.bool true]) ?_ rfl ⟨Below.setCell (Below.setCell RW.out.be (by show w.heap.size<=w.heap.size+2;omega) _) (by show w.heap.size<=w.heap.size+2;omega) _,.inl ⟨n,_,_,bb.out,rfl,?_,q2,b6.trans HQ.out,fun x hx=>((bg x hx).same hS).mono hM,(be.same hS).mono hM⟩⟩
   ·rw[results_cell_tmp rfl];have hl:=run_loadVar_row (P:=prog) _ (w.heap.size+2) _ 96 _ _ _ HZ Tryz.underlying96 rfl (by kernel_rfl);simp[asAddr,hl,Result.andThen]
   ·exact(RW.out.gk.pts.keepOwn fun g hg=>aO g fun e=>by
     obtain⟨c2,h2⟩:=RW.out.gk.pts.typed hg;rw[e,show wr.heap[w.heap.size+2]?=_ from RW.out.ob]at h2;injection h2 with h2
     injection h2 with _ h2 _
     exact absurd h2 (by decide)).sl
attribute [local go_sem] Oper.semAt_some
theorem pv! (l:List Tup):(tuCs l).length=l.length*6:=ag! l
theorem pw! (a:List Tup)(b:List Tup):tuCs (a++b)=tuCs a++tuCs b:=aQ! a b
theorem ow! (x:Tup):tuCs [x]=tuC x:=by simp[tuCs]
theorem ku! (w:World)(a b c d e f:Value)(t:TypeId):∀j u,[a,b,c,d,e,f][j]?=some u->(w.alloc (.cells #[a,b,c,d,e,f] t)).cell? ((⟨w.heap.size,0,none⟩:Addr).add j)=some u:=fun j u hu=>by
 rw[Addr.add_lit,cell_of_row _ w.heap.size (0+j) #[a,b,c,d,e,f] t (0,0) (heap_alloc_new w _),Nat.zero_add];simpa using hu
theorem pr! (F:Fence)(n:Nat)(h45:F.fn 196)(hro:F.round=none)(hn:2<=n)(g:Nat)(lb:Array Value)(hFg:F.fn g)(eg:∀args w,(callFunc g args).run prog w= .ok (.enter g args) w)
  (S Sp:List Tup->Prop) (N:Nat) (w:World) (hN:N<=137438953472) (hseq:SeqStopsK F (n-1) prog g lb (fun x=>#[tV x]) (Below w.heap.size) S Sp N w) :
  CallsIn F n prog 196 #[.slice none 0 0,.func (.func g) #[] lb] w fun e w'=>∃(v':Value) (ss:List Tup),e= .returned v'/\S ss/\Own w' w.heap.size 67 6 v' (tuCs ss)/\Ext w w':=by
 have h1:1<=n:=by omega
 refine callsIn_of_wp_marks func196 rfl h45 ?_ hro;simp only[ntmps196,List.size_toArray,u7!,v6!,Nat.reduceAdd,Nat.reduceSub,Array.replicate_succ,Array.replicate_zero,List.push_toArray,List.append_toArray,y2!,x2!];gi_wp2
 have bS:=Boxed.new w 27 (.slice none 0 0);have z:Below w.heap.size w (w.alloc (.cells #[.slice none 0 0] 27)):=(Below.refl _ w).alloc (n0! _) _;have a6:(w.alloc (.cells #[.slice none 0 0] 27)).heap.size=w.heap.size+1:=by simp
 have B:KeepsFrom 0 w (w.alloc (.cells #[.slice none 0 0] 27)):=(KeepsOthers.alloc _ _).from _;obtain⟨W0,E⟩:∃W0,w.alloc (.cells #[.slice none 0 0] 27)=W0:=⟨_,rfl⟩;rw[E]at bS z a6 B ⊢;clear E
 refine wpIn_rangeFunc_ownH hro h1 (gf:=g) (lb:=lb) rfl hFg eg hseq belowK_t (belowK_b (n₀:=w.heap.size) (by omega)) z (fun _=>rfl)
  (fun f W=>(∃v',Boxed W w.heap.size 27 v'/\Own W w.heap.size 67 6 v' (tuCs f)/\(∀g,v'.ownBlock=some g->(Value.slice none 0 0).ownBlock=some g\/w.heap.size<=g))/\(Kept (fun b=>b<w.heap.size/\(Value.slice none 0 0).ownBlock≠some b) w W/\KeepsFrom 0 w W))
  (fun _ _ _=>False)
  (OwnFrom.and (eo! w.heap.size w.heap.size 27 67 6 (fun f=>tuCs f) (fun v'=>∀g,v'.ownBlock=some g->(Value.slice none 0 0).ownBlock=some g\/w.heap.size<=g) _) (OwnFrom.and (dL! (fun b hb=>hb.1) (by omega)) (ownFrom_keepsFrom (by omega))))
  (fun _ _ _ _ _ hs _ _=>hs)
  ⟨⟨_,bS,Own.nil _ _ _ _,fun g hg => .inl hg⟩,Below.kept z (fun b hb=>hb.1),B⟩
  (fun x a' W=>∃O,w.heap.size<O/\Blk W O #[.string x.o.t,.string x.o.i,.string x.o.r,.string x.s.t,.string x.s.i,.string x.s.r] 67/\a' = {tmps:=#[.slice none 0 0,.func (.func g) #[] lb,.pointer (some ⟨w.heap.size,0,none⟩),undef,.slice none 0 0,.pointer (some ⟨O,0,none⟩),.func (.func g) #[] lb,tV x,undef,undef,undef,undef,undef],defers:=[]})
  (fun x a' _ X Y row hs hg hr=>by obtain⟨O,h1,h2,h3⟩:=hs;exact⟨O,h1,et! h2 hg (fun r e=>(hr r e).2),h3⟩)
  ?assign ?body ?done ?stop
 case assign =>
  rintro l2 f ⟨⟨G,L,U⟩,⟨R,I,T⟩⟩ W K ⟨⟨v',l,j,p⟩,d,y⟩ H;dsimp only[tV];gi_wp2
  refine H _ _ ((KeepsOthers.alloc _ _).from _) ((Below.refl _ _).alloc d.size _) ⟨⟨v',l.alloc _,j.below ((Below.refl _ _).alloc (n0! _) _),p⟩,d.alloc (fun b hb=>n1! hb.1 d.size) _,y.trans ((KeepsOthers.alloc _ _).from _)⟩ ⟨W.heap.size,l.lt,Blk.made W _ _,rfl⟩
 case body =>
  rintro l2 f ⟨⟨G,L,U⟩,⟨R,I,T⟩⟩ a' W hl ⟨r,hr⟩ ⟨⟨v',l,j,p⟩,d,y⟩ ⟨O,a8,bX,rfl⟩ a9;have cS:=l.cell;have cX:=bX.cells;have a0:=d.size;have a2:(tuCs f).length=f.length*6:=pv! f;have a3:(f.length*6+6)*96<=140737488355328:=by omega
  gi_wp2_with (first
   | (gi_at_builtin;go_loud (
      refine dt! tupT rfl _ _ rfl rfl (j.below ((Below.refl _ _).alloc (n0! _) _)) (ad:=⟨W.heap.size,0,none⟩) (m:=1) (c:=1) (news:=[.string G,.string L,.string U,.string R,.string I,.string T]) rfl rfl (ku! _ _ _ _ _ _ _ _) (by intro u hu;simp only[v7!,List.not_mem_nil,or_false]at hu;rcases hu with rfl | rfl | rfl | rfl | rfl | rfl <;> rfl) (by simp only[u7!,v6!];omega) (by simp only[u7!,v6!];rw[a2];exact a3) (by simp;omega) ?_;intro v2 w2 hO2 hG2 hg2
      obtain⟨Q,J,M,rfl⟩:∃Q J M,v2= .slice (some ⟨Q,0,none⟩) J M:=by
        rcases hO2.shape with⟨_,h⟩ | h
        · exact absurd h (by simp)
        · exact h
      have q:=(l.alloc (.cells #[.string G,.string L,.string U,.string R,.string I,.string T] 67)).kept hg2 (bB! (l.alloc _) (by decide) (j.below ((Below.refl _ _).alloc (n0! _) (.cells #[.string G,.string L,.string U,.string R,.string I,.string T] 67))));have ab:=q.cell;have aa:=q.frozen))
   | gi_in)
  have a1:KeepsFrom 0 W (W.alloc (.cells #[.string G,.string L,.string U,.string R,.string I,.string T] 67)):=(KeepsOthers.alloc _ _).from _;have a4:=a1.trans (hc! (j.below ((Below.refl _ _).alloc (n0! _) (.cells #[.string G,.string L,.string U,.string R,.string I,.string T] 67))) hg2 0);have C:KeepsFrom 0 W (w2.setCell ⟨w.heap.size,0,none⟩ (.slice (some ⟨Q,0,none⟩) J M)):=a4.trans ((KeepsOthers.setCell _ _ _).from _)
  have A:Below w.heap.size W (w2.setCell ⟨w.heap.size,0,none⟩ (.slice (some ⟨Q,0,none⟩) J M)):=(((Below.refl _ W).alloc a0 _).grown hg2 (by simp;omega) (fun g hg=>by
   rcases p g hg with h | h
   ·cases h
   ·exact h)).setCell (n0! _) _
  refine⟨jG! C _,A,⟨⟨_,q.set _,?_,fun g hg=>?_⟩,?_,y.trans C⟩⟩
  ·have:=hO2.keepOwn (w':=w2.setCell ⟨w.heap.size,0,none⟩ (.slice (some ⟨Q,0,none⟩) J M)) (fun g hg=>Below.heap_setCell _ _ _ g (fun e=>bB! q (by decide) hO2 (by rw[hg,e])));rw[pw! f,ow!];exact this
  ·rcases hG2 g hg with h | h
   ·exact p g h
   ·exact .inr (by have:=d.size;simp at h;omega)
  ·have a5:Kept (fun b=>b<w.heap.size/\(Value.slice none 0 0).ownBlock≠some b) (W.alloc (.cells #[.string G,.string L,.string U,.string R,.string I,.string T] 67)) w2:=⟨hg2.os,hg2.tape,hg2.output,hg2.size,fun b hb=>hg2.block b (by have:=d.size;have:=hb.1;simp;omega) (fun e=>by
    rcases p b e.symm with h | h
    ·exact hb.2 h
    ·have:=hb.1;omega)⟩
   exact((d.alloc (fun b hb=>n1! hb.1 d.size) _).trans a5).set (a:=⟨w.heap.size,0,none⟩) (fun h=>Nat.lt_irrefl _ h.1) _
 case done =>
  rintro D ys W hD hS ⟨⟨v',l,j,_⟩,d,y⟩ H;have cS:=l.cell
  obtain⟨a7,k',c',rfl⟩:∃ao k c,v' = .slice ao k c:=by
   rcases j.shape with⟨rfl,_⟩|⟨g,n,c,rfl⟩
   ·exact⟨_,_,_,rfl⟩
   ·exact⟨_,_,_,rfl⟩
  gi_wp2
  refine⟨by simp,.inl ⟨_,_,rfl,run_takeDeferred H,?_⟩⟩;refine⟨_,results_tmp rfl _ _ _,_,ys,rfl,hS,j.put _ H rfl,⟨d.os,d.tape,d.output,by have:=d.size;simpa using this,fun b hb=>(World.putObj_heap_other (fun e=>by omega)).trans (d.block b ⟨hb,fun e=>by cases e⟩)⟩⟩
 case stop =>
  rintro D c f W _ _ h _;exact h.elim
attribute [local go_sem] Oper.semAt_some
theorem if! (w:World)(o:Obj):w.grownBy (w.alloc o) none:=⟨rfl,rfl,rfl,by simp,fun b hb _=>Below.heap_alloc w o b hb⟩
theorem mT! (F:Fence)(n:Nat)(hf:F.fn 138)(hro:F.round=none)(hn:1<=n)(l Bs n₀ B0:Nat)(ao:Option Addr)(cap:Nat)(zs:List Tup)(hl:zs.length<=1099511627776)(J Jx:List Tup->World->Prop)(hA:AbidesFrom B0 J)
  (hY:∀pre x W,J pre W->pre.length<zs.length->YieldAt F (n-1) prog l #[tV x] W fun e W' =>
   (e= .returned (.bool true)/\J (pre++[x]) W'/\Below n₀ W W')\/(e= .returned (.bool false)/\Jx (pre++[x]) W'))
  (W:World) (hn0:n₀<=W.heap.size) (hBs:W.cell? ⟨Bs,0,none⟩=some (.slice ao zs.length cap)) (hc:Sl (· < n₀) W 6 (.slice ao zs.length cap) (zs.flatMap tuC)) (h0:J [] W) :
  CallsIn F n prog 138 #[.func (.yield l) #[] #[],.pointer (some ⟨Bs,0,none⟩)] W fun e W'=>(∃v,e= .returned v) /\
   ((∃ys,ys=zs/\J ys W')\/(∃pre,pre <+: zs/\Jx pre W')):=by
 refine callsIn_of_wp func138 rfl hf ?_ hro;simp only[ntmps138,List.size_toArray,u7!,v6!,Nat.reduceAdd,Nat.reduceSub,Array.replicate_succ,Array.replicate_zero,List.push_toArray,List.append_toArray,y2!,x2!];gi_wp2
 gi_loopw [7] (fun i wr=>∃k:Nat,k<=zs.length/\i= .int .i64 k/\J (zs.take k) wr/\Below n₀ W wr)
  (fun i _=>zs.length-(intOf i).toNat)
 case atStart=>exact⟨0,v1! _,rfl,h0,Below.refl _ _⟩
 case round =>
  obtain⟨k,hk,rfl,h,g⟩:=hrel;by_cases hlt:k<zs.length
  ·obtain⟨a6,c',a0,-,-,a⟩:=Sl.rows at! (by decide) (hc.same (w':=wr) fun x hx=>g.block x hx);cases a0;obtain⟨o,q,rfl,-,a⟩:=a (by omega);have b:=a k hlt;have j:=n2! hlt;have a5:(zs.take k).length<zs.length:=by rw[x4!];omega
   have d:zs.take (k+1) <+: zs:=List.take_prefix _ _;generalize zs[k]=x at *;obtain⟨⟨m,s,y⟩,⟨t,p,u⟩⟩:=x;have c0:wr.cell? ⟨o,q+k*6,none⟩=some (.string m):=b 0 _ rfl;have c1:wr.cell? ⟨o,q+k*6+1,none⟩=some (.string s):=b 1 _ rfl;have c2:wr.cell? ⟨o,q+k*6+2,none⟩=some (.string y):=b 2 _ rfl;have c3:wr.cell? ⟨o,q+k*6+3,none⟩=some (.string t):=b 3 _ rfl;have c4:wr.cell? ⟨o,q+k*6+4,none⟩=some (.string p):=b 4 _ rfl;have c5:wr.cell? ⟨o,q+k*6+5,none⟩=some (.string u):=b 5 _ rfl;have a4:=hA _ _ _ none h (if! wr (.cells #[.string m,.string s,.string y,.string t,.string p,.string u] 67)) (fun r e=>by cases e);have a2:Below n₀ wr (wr.alloc (.cells #[.string m,.string s,.string y,.string t,.string p,.string u] 67)):=(Below.refl _ _).alloc (n6! hn0 g.size) _;obtain⟨fn,a3,f,a1,hy,hR⟩:=hY _ ⟨⟨m,s,y⟩,⟨t,p,u⟩⟩ _ a4 a5;try unfold tV at hy
   try dsimp only at hy
   clear b a;gi_wp2
   refine hR.mono ?_;rintro e W3 (⟨rfl,hJ3,hk3⟩|⟨rfl,hJx3⟩)
   ·gi_wp2
    go_roundw
    case rel=>exact⟨k+1,by omega,by go_num,by rw[j];exact hJ3,g.trans (a2.trans hk3)⟩
    case measure=>simp[intOf];omega
   ·gi_wp2
    refine bodyPost_ret (results_none rfl _ _ _) rfl ?_;exact⟨⟨_,rfl⟩,.inr ⟨_,d,by rw[j];exact hJx3⟩⟩
  ·obtain rfl:k=zs.length:=by omega
   gi_wp2
   go_end0
   exact⟨⟨_,rfl⟩,.inl ⟨_,u2!,h⟩⟩
theorem kJ! (F:Fence)(n:Nat)(hf:F.fn 138)(hro:F.round=none)(hn:1<=n)(Bs:Nat)(ao:Option Addr)(cap:Nat)(zs:List Tup)(hl:zs.length<=1099511627776)(w:World)(hBs:Bs<w.heap.size)
  (hc:w.cell? ⟨Bs,0,none⟩=some (.slice ao zs.length cap)) (hS:Sl (· < w.heap.size) w 6 (.slice ao zs.length cap) (zs.flatMap tuC)) :
  SeqStopsK F n prog 138 #[.pointer (some ⟨Bs,0,none⟩)] (fun x:Tup=>#[tV x]) (Below w.heap.size) (fun ys=>ys=zs) (fun pre=>pre <+: zs) zs.length w:=fun l J Jx W hW hA _ hY h0 =>
 (mT! F n hf hro hn l Bs w.heap.size W.heap.size ao cap zs hl J Jx hA hY W hW.size ((hW.cell (p:=⟨Bs,0,none⟩) hBs).trans hc) (hS.same fun x hx=>hW.block x hx) h0).mono fun _ _ h=>h
theorem hz! (ao:Option Addr)(k cap:Nat)(w:World):Calls prog 77 #[.slice ao k cap] w fun e w'=>e= .returned (.func (.func 138) #[] #[.pointer (some ⟨w.heap.size,0,none⟩)])/\w'=w.alloc (.cells #[.slice ao k cap] 27):=by
 go_enter func77,ntmps77
 go_wp2
 go_ret
 exact⟨rfl,rfl⟩
theorem gu! (w:World)(Bs:Nat)(ao:Option Addr)(cap:Nat)(zs:List Tup)(hl:zs.length<=137438953472)(hBs:Bs<w.heap.size)(hc:w.cell? ⟨Bs,0,none⟩=some (.slice ao zs.length cap))(hS:Sl (· < w.heap.size) w 6 (.slice ao zs.length cap) (zs.flatMap tuC)) :
  Calls prog 136 #[.func (.func 138) #[] #[.pointer (some ⟨Bs,0,none⟩)]] w fun e w'=>∃v',e= .returned v'/\Own w' w.heap.size 67 6 v' (tuCs zs)/\Ext w w':=by
 have HP:=h! (callsIn_wide.1 (pr! Fence.wide 3 trivial rfl (by omega) 138 _ trivial (enters_of func138 (by kernel_rfl) rfl) _ _ zs.length w hl (kJ! Fence.wide 2 trivial rfl (by omega) Bs ao cap zs (by omega) w hBs hc hS)));clear hS hc;go_enter func136,ntmps136
 go_wp2_with fail
 refine HP.out.mono ?_;rintro e w1 ⟨v,ss,rfl,rfl,ho,hx⟩;go_wp2
 go_ret
 exact⟨v,rfl,ho,hx⟩
def ltT (a b:Tup):Bool:=if a.o=b.o then ltP a.s b.s else ltP a.o b.o
def cmpT (a b:Tup):Int:=if ltT a b then -1 else if a=b then 0 else 1
theorem pF! {a b:P3}(h:ltP a b=true):a≠b:=fun e=>by subst e;rw[cD!]at h;cases h
theorem fz! (a:Tup):ltT a a=false:=by simp[ltT,cD!]
theorem dn! {a b:Tup}(h:ltT a b=false)(hne:a≠b):ltT b a=true:=by
 unfold ltT at *;by_cases h1:a.o=b.o
 ·rw[if_pos h1]at h;rw[if_pos h1.symm];refine cC! h fun h2=>hne ?_;cases a;cases b;simp_all
 ·rw[if_neg h1]at h;rw[if_neg (Ne.symm h1)];exact cC! h h1
theorem dm! {a b c:Tup}(h:ltT a b=true)(k:ltT b c=true):ltT a c=true:=by
 unfold ltT at *;by_cases h1:a.o=b.o <;> by_cases k1:b.o=c.o
 ·rw[if_pos h1]at h;rw[if_pos k1]at k;rw[if_pos (h1.trans k1)];exact bz! h k
 ·rw[if_neg k1]at k;rw[if_neg (h1▸k1),h1];exact k
 ·rw[if_neg h1]at h;rw[if_neg (k1▸h1),<-k1];exact h
 ·rw[if_neg h1]at h;rw[if_neg k1]at k;have:=bz! h k;rw[if_neg (pF! this)];exact this
theorem gX! (a b:Tup):Go.Proofs.ltOf cmpT a b=ltT a b:=by
 unfold Go.Proofs.ltOf cmpT;cases h:ltT a b with
 | true=>simp
 | false =>
  simp only[Bool.false_eq_true,if_false];split <;> simp
theorem swoT:Go.Sort.SWO (Go.Proofs.ltOf cmpT) where
 irrefl x:=by rw[gX!];exact fz! x
 trans x y z h k:=by rw[gX!]at *;exact dm! h k
 ntrans x y z h k:=by
  rw[gX!]at *;cases hxz:ltT x z with
  | false=>rfl
  | true =>
   by_cases e1:x=y
   ·subst e1;rw[hxz]at k;cases k
   ·have h1:=dn! h e1;have h2:=dm! h1 hxz;rw[h2]at k;cases k
def UpT (l:List Tup):Prop:=l.Pairwise fun a b=>ltT a b=true
theorem UpT.nodup {l:List Tup}(h:UpT l):l.Nodup:=h.imp fun {a b} hab e=>by subst e;rw[fz!]at hab;cases hab
theorem UpT.uniq:∀ {l m:List Tup},UpT l->UpT m->(∀t,t∈l↔t∈m)->l=m
 | [],[],_,_,_=>rfl
 | [],b::m,_,_,h=>by have:=(h b).2 (by simp);cases this
 | a::l,[],_,_,h=>by have:=(h a).1 (by simp);cases this
 | a::l,b::m,hl,hm,h=>by
  have hl1:=List.pairwise_cons.1 hl;have hm1:=List.pairwise_cons.1 hm
  have hab:a=b:=by
   rcases v7!.1 ((h a).1 (by simp))with e | e
   ·exact e
   ·rcases v7!.1 ((h b).2 (by simp))with e2 | e2
    ·exact e2.symm
    ·have h1:=hm1.1 a e;have h2:=hl1.1 b e2;have:=dm! h1 h2;rw[fz!]at this;cases this
  subst hab;congr 1
  refine UpT.uniq hl1.2 hm1.2 fun t=>⟨fun ht=>?_,fun ht=>?_⟩
  ·rcases v7!.1 ((h t).1 (u9! _ ht))with e | e
   ·subst e;have:=hl1.1 t ht;rw[fz!]at this;cases this
   ·exact e
  ·rcases v7!.1 ((h t).2 (u9! _ ht))with e | e
   ·subst e;have:=hm1.1 t ht;rw[fz!]at this;cases this
   ·exact e
theorem UpT.filter {l:List Tup}(h:UpT l)(p:Tup->Bool):UpT (l.filter p):=List.Pairwise.filter _ h
structure SetT (l T:List Tup):Prop where
 up:UpT T
 mem:∀t,t∈T↔t∈l/\chkT t=true
theorem SetT.uniq {l T U:List Tup}(h:SetT l T)(k:SetT l U):T=U:=h.up.uniq k.up fun t=>(h.mem t).trans (k.mem t).symm
theorem SetT.len {l T:List Tup}(h:SetT l T):T.length<=l.length:=by
 have:∀ {l u:List Tup},l.Nodup->(∀x∈l,x∈u)->l.length<=u.length:=by
  intro l;induction l with
  | nil=>intro u _ _;exact v1! _
  | cons a l ih =>
   intro u hn hs;obtain⟨p,q,rfl⟩:=List.append_of_mem (hs a y4!);rw[List.nodup_cons]at hn
   have h1:=ih (u:=p++q) hn.2 fun x hx=>by
    have h2:=hs x (u9! _ hx);rcases u3!.1 h2 with h3 | h3
    ·exact List.mem_append_left _ h3
    ·rcases v7!.1 h3 with h3 | h3
     ·subst h3;exact absurd hx hn.1
     ·exact List.mem_append_right _ h3
   simp only[u7!,u4!]at h1 ⊢;omega
 exact this h.up.nodup fun x hx=>((h.mem x).1 hx).1
end Go.Proofs.YtlhaghoajpglaaaGreat
namespace Go.Proofs.YtlhaghoajpglaaaGreat
open Go Go.RowKit Go.Shelf Go.Proofs.Tryz
theorem Gr.fields {w w':World}(h:Gr w w'):w'.tape=w.tape/\w'.os=w.os/\w'.output=w.output/\w.drawn<=w'.drawn:=by
 obtain⟨q,os,rfl⟩:=h;exact⟨rfl,rfl,rfl,by simp[Sort.grow,World.drewN]⟩
theorem Gr.of {w w':World}(ht:w'.tape=w.tape)(ho:w'.os=w.os)(hp:w'.output=w.output)(hd:w.drawn<=w'.drawn)(hz:w.heap.size<=w'.heap.size)(hk:∀k,k<w.heap.size->w'.heap[k]?=w.heap[k]?):Gr w w':=by
 refine⟨w'.drawn-w.drawn,w'.heap.extract w.heap.size w'.heap.size,?_⟩
 have hh:w'.heap=w.heap++w'.heap.extract w.heap.size w'.heap.size:=by
  apply Array.ext_getElem?;intro i;by_cases hi:i<w.heap.size
  ·rw[hk i hi,Array.getElem?_append_left hi]
  ·rw[Array.getElem?_append_right (by omega),Array.getElem?_extract];by_cases h2:i<w'.heap.size
   ·rw[if_pos (by omega)];congr 1
    omega
   ·rw[if_neg (by omega)];exact Array.getElem?_eq_none (by omega)
 obtain⟨h1,t1,d1,o1,p1⟩:=w';simp only at ht ho hp hd hh;subst ht ho hp;simp only[Sort.grow,World.drewN];congr 1
 omega
theorem Gr.next {a b c:World}(h:Gr a b)(k:Gr b c):Gr a c:=by
 have d:=h.fields;have e:=k.fields;have h2:=h.below;have k2:=k.below;refine Gr.of (e.1.trans d.1) (e.2.1.trans d.2.1) (e.2.2.1.trans d.2.2.1) (n6! d.2.2.2 e.2.2.2) (n6! h2.size k2.size) fun j hj=>(k2.block j (n1! hj h2.size)).trans (h2.block j hj)
theorem Gr.set {w w':World}(h:Gr w w') {x i:Nat}(hx:w.heap.size<=x)(v:Value):Gr w (w'.setCell ⟨x,i,none⟩ v):=by
 have a:=h.fields;have h2:=h.below;exact Gr.of a.1 a.2.1 a.2.2.1 a.2.2.2 (by have:=h2.size;simpa using this) fun j hj=>(Below.heap_setCell _ _ _ j (by show j≠x;omega)).trans (h2.block j hj)
def Tryz.lays106_ren:Go.Shelf.Ren:=⟨fun | 106=>140 | 213=>199 | 265=>242 | n=>n,fun | 9=>9 | 3=>3 | n=>n,fun | n=>n⟩
theorem Tryz.lays106:Go.Proofs.Lays.n106 prog Tryz.lays106_ren := {
 mixed:=by kernel_rfl
 f106:=func140.trans (congrArg some (by kernel_rfl))
 f213:=func199.trans (congrArg some (by kernel_rfl))
 f265:=func242.trans (congrArg some (by kernel_rfl))
 t3:=Tryz.underlying3
 a3:=Tryz.isAgg3
 z3:=Tryz.sizeOf3
 v3:=Tryz.zeroValue3
 t9:=Tryz.underlying9
 a9:=Tryz.isAgg9
 z9:=Tryz.sizeOf9
 v9:=Tryz.zeroValue9}
theorem gq! (a b:ByteArray)(w:World):Calls prog 140 #[.string a,.string b] w fun e w'=>e= .returned (.int .i64 (Lib.compareBytes a.data.toList b.data.toList))/\w'=w:=Any.strings_Compare Tryz.lays106 a b w
theorem lf! {P:Program}{c:Code}{Q:Exit->Act->World->Prop}{a:Act}{w:World}(R:Act->World->Prop)(h1:c.wp P (fun e a' w'=>e= .normal/\R a' w') a w)(h2:∀a' w',R a' w'->Q .normal a' w'):c.wp P Q a w :=
 Code.wp_mono (fun e a' w' h=>by
  obtain⟨rfl,h⟩:=h;exact h2 a' w' h) h1
end Go.Proofs.YtlhaghoajpglaaaGreat
namespace Go.Proofs.YtlhaghoajpglaaaGreat
open Go Go.RowKit Go.Proofs.Tryz
theorem mK!:∀l m:List UInt8,Lib.compareBytes l m=if l<m then -1 else if l=m then 0 else 1
 | [],[]=>by simp[Lib.compareBytes]
 | [],_::_=>by simp[Lib.compareBytes]
 | _::_,[]=>by simp[Lib.compareBytes]
 | a::l,b::m=>by
  rw[Lib.compareBytes,mK! l m];by_cases h:a<b
  ·rw[if_pos h,if_pos (List.cons_lt_cons_iff.2 (.inl h))]
  ·rw[if_neg h];by_cases h2:b<a
   ·have hne:¬ a=b:=fun e=>by rw[e]at h2;exact UInt8.lt_irrefl _ h2
    have h3:¬ (a::l)<(b::m):=fun h4=>by
     rcases List.cons_lt_cons_iff.1 h4 with h5 | ⟨h5,_⟩
     ·exact h h5
     ·exact hne h5
    rw[if_pos h2,if_neg h3,if_neg (by simp[hne])]
   ·have e:a=b:=UInt8.le_antisymm (UInt8.not_lt.1 h2) (UInt8.not_lt.1 h);subst e;rw[if_neg h2];have h3:(a::l)<(a::m)↔l<m:=by rw[List.cons_lt_cons_iff];simp[UInt8.lt_irrefl]
    by_cases h4:l<m
    ·rw[if_pos h4,if_pos (h3.2 h4)]
    ·rw[if_neg h4,if_neg (fun h5=>h4 (h3.1 h5))];simp
theorem pq! (a b:ByteArray):Lib.compareBytes a.data.toList b.data.toList=cmpS a b:=by
 rw[mK!];unfold cmpS
 have h1:(ltS a b=true)↔a.data.toList<b.data.toList:=by
  unfold ltS;rw[u5!,u5!,bytesLess_eq];simp
 have h2:a.data.toList=b.data.toList↔a=b:=⟨fun h=>by
  obtain⟨⟨x⟩⟩:=a;obtain⟨⟨y⟩⟩:=b;simp only at h;rw[h],fun h=>by rw[h]⟩
 simp only[h1,h2]
def tp (a:Tup):Nat->ByteArray
 | 0=>a.o.t
 | 1=>a.o.i
 | 2=>a.o.r
 | 3=>a.s.t
 | 4=>a.s.i
 | _=>a.s.r
def cL (a b:Tup):List Int:=[cmpS a.o.t b.o.t,cmpS a.o.i b.o.i,cmpS a.o.r b.o.r,cmpS a.s.t b.s.t,cmpS a.s.i b.s.i,cmpS a.s.r b.s.r]
def cmpC (a b:Tup):Int:=orL (cL a b)
theorem cL_at (a b:Tup):∀i (h:i<(cL a b).length),(cL a b)[i]=cmpS (tp a i) (tp b i)
 | 0,_=>rfl
 | 1,_=>rfl
 | 2,_=>rfl
 | 3,_=>rfl
 | 4,_=>rfl
 | 5,_=>rfl
 | _+6,h=>absurd h (by simp[cL])
theorem po! (a b:Tup):cmpC a b=if a.o=b.o then ordP a.s b.s else ordP a.o b.o:=by
 obtain⟨⟨a1,a2,a3⟩,⟨a4,a5,a6⟩⟩:=a;obtain⟨⟨b1,b2,b3⟩,⟨b4,b5,b6⟩⟩:=b;simp only[cmpC,cL,ordP,orL,P3.mk.injEq,dq!];by_cases h1:a1=b1 <;> by_cases h2:a2=b2 <;> by_cases h3:a3=b3 <;> simp[h1,h2,h3]
theorem fy! (a b:Tup):Go.Proofs.ltOf cmpC a b=ltT a b:=by
 unfold ltT
 have e:Go.Proofs.ltOf cmpC a b=if a.o=b.o then Go.Proofs.ltOf ordP a.s b.s else Go.Proofs.ltOf ordP a.o b.o:=by
  unfold Go.Proofs.ltOf;rw[po!];split <;> rfl
 rw[e,df!,df!]
theorem swoC:Go.Sort.SWO (Go.Proofs.ltOf cmpC):=by
 have:Go.Proofs.ltOf cmpC=Go.Proofs.ltOf cmpT:=funext fun a=>funext fun b=>by rw[fy!,gX!]
 rw[this];exact swoT
theorem mb! (a:Tup):cmpC a a=0:=by
 have h:∀x:ByteArray,cmpS x x=0:=fun x=>(dq! x x).2 rfl;simp[cmpC,cL,orL,h]
theorem kq! {a b:Tup}{i:Nat}(hi:i<6)(h0:∀j,j<i->cmpS (tp a j) (tp b j)=0)(h1:cmpS (tp a i) (tp b i)≠0):cmpC a b=cmpS (tp a i) (tp b i):=by
 have hl:i<(cL a b).length:=hi;unfold cmpC;rw[eG! (i:=i) fun j hj hji=>by rw[cL_at];exact h0 j hji];rw[List.drop_eq_getElem_cons hl,orL,cL_at,if_neg h1]
theorem mc! {a b:Tup}(h0:∀j,j<6->cmpS (tp a j) (tp b j)=0):cmpC a b=0:=by
 unfold cmpC;rw[eG! (i:=6) fun j hj hji=>by rw[cL_at];exact h0 j hji];rfl
def tpC (a:Tup):Array Value:=#[.string a.o.t,.string a.o.i,.string a.o.r,.string a.s.t,.string a.s.i,.string a.s.r]
theorem ox! (a:Tup):∀i,i<6->(tpC a)[i]?=some (.string (tp a i))
 | 0,_=>rfl
 | 1,_=>rfl
 | 2,_=>rfl
 | 3,_=>rfl
 | 4,_=>rfl
 | 5,_=>rfl
 | _+6,h=>absurd h (by omega)
theorem mX! (a b:Tup)(W:World):(binOp BinOp.eql 67 (tV a) (tV b)).run prog W= .ok (.bool (decide (a=b))) W:=by
 obtain⟨⟨a1,a2,a3⟩,⟨a4,a5,a6⟩⟩:=a;obtain⟨⟨b1,b2,b3⟩,⟨b4,b5,b6⟩⟩:=b;unfold tV;dsimp only;go_simp;simp only[bc!];by_cases h1:a1=b1
 ·by_cases h2:a2=b2
  ·by_cases h3:a3=b3
   ·by_cases h4:a4=b4
    ·by_cases h5:a5=b5
     ·by_cases h6:a6=b6 <;> simp[h1,h2,h3,h4,h5,h6]
     ·simp[h1,h2,h3,h4,h5]
    ·simp[h1,h2,h3,h4]
   ·simp[h1,h2,h3]
  ·simp[h1,h2]
 ·simp[h1]
def zr6:Array Value:=#[.string ⟨#[]⟩,.string ⟨#[]⟩,.string ⟨#[]⟩,.string ⟨#[]⟩,.string ⟨#[]⟩,.string ⟨#[]⟩]
section
variable {w w' : World} {B B' : Nat} {e : TypeId} {cs : Array Value}
theorem Blk.put6 (h:Blk w B zr6 e)(x0 x1 x2 x3 x4 x5:Value):Blk ((((((w.setCell ⟨B,0,none⟩ x0).setCell ⟨B,1,none⟩ x1).setCell ⟨B,2,none⟩ x2).setCell ⟨B,3,none⟩ x3).setCell ⟨B,4,none⟩ x4).setCell ⟨B,5,none⟩ x5) B #[x0,x1,x2,x3,x4,x5] e :=
 (((((h.set_to 0 x0 rfl).set_to 1 x1 rfl).set_to 2 x2 rfl).set_to 3 x3 rfl).set_to 4 x4 rfl).set_to 5 x5 rfl
theorem Blk.away6 (h:Blk w B cs e)(hne:B≠B')(x0 x1 x2 x3 x4 x5:Value):Blk ((((((w.setCell ⟨B',0,none⟩ x0).setCell ⟨B',1,none⟩ x1).setCell ⟨B',2,none⟩ x2).setCell ⟨B',3,none⟩ x3).setCell ⟨B',4,none⟩ x4).setCell ⟨B',5,none⟩ x5) B cs e :=
 (((((h.other (a:=⟨B',0,none⟩) hne x0).other (a:=⟨B',1,none⟩) hne x1).other (a:=⟨B',2,none⟩) hne x2).other (a:=⟨B',3,none⟩) hne x3).other (a:=⟨B',4,none⟩) hne x4).other (a:=⟨B',5,none⟩) hne x5
theorem hf! (h:Gr w w')(hB:w.heap.size<=B)(x0 x1 x2 x3 x4 x5:Value):Gr w ((((((w'.setCell ⟨B,0,none⟩ x0).setCell ⟨B,1,none⟩ x1).setCell ⟨B,2,none⟩ x2).setCell ⟨B,3,none⟩ x3).setCell ⟨B,4,none⟩ x4).setCell ⟨B,5,none⟩ x5) :=
 (((((h.set hB x0).set hB x1).set hB x2).set hB x3).set hB x4).set hB x5
end
theorem ba! (t:Tup)(w:World):Calls prog 139 #[tV t] w fun e w'=>e= .returned (tV t)/\Gr w w':=by
 obtain⟨⟨d,b,a⟩,⟨st,si,c⟩⟩:=t;have hb:=(Blk.made w #[.string d,.string b,.string a,.string st,.string si,.string c] 67);have h1:Gr w (w.alloc (.cells #[.string d,.string b,.string a,.string st,.string si,.string c] 67)):=(Gr.refl _).alloc _;unfold tV;dsimp only;go_enter func139,ntmps139
 go_wp2_with fail
 refine bodyPost_ret (results_cell_row rfl _ _ (w.heap.size+1) 237 #[.string d,.string b,.string a,.string st,.string si,.string c] (0,0) _ rfl ?_ Tryz.underlying237 rfl (by kernel_rfl)) rfl ⟨rfl,h1.alloc _⟩;have:=heap_alloc_new (w.alloc (.cells #[.string d,.string b,.string a,.string st,.string si,.string c] 67)) (.cells #[.string d,.string b,.string a,.string st,.string si,.string c] 237);rwa[World.size_alloc]at this
theorem kp! (a b:Tup)(w:World):Calls prog 78 #[tV a,tV b] w fun e w'=>e= .returned (.int .i64 (cmpC a b))/\Gr w w':=by
 have s:Gr w ((w.alloc (.cells (tpC a) 67)).alloc (.cells (tpC b) 67)):=((Gr.refl _).alloc _).alloc _;have I:=h! s;have F:=h! ((Blk.made w (tpC a) 67).alloc (.cells (tpC b) 67));have G:=h! (Blk.made' (w:=w.alloc (.cells (tpC a) 67)) (B:=w.heap.size+1) (by simp) (tpC b) 67);clear s;by_cases hab:a=b
 ·subst hab;have HZ:=h! (mb! a);obtain⟨⟨a1,a2,a3⟩,⟨a4,a5,Z⟩⟩:=a;unfold tpC at I F G;dsimp only at I F G;have ha:=F.out.cells;have hb:=G.out.cells;unfold tV;dsimp only
  have hq:∀W,(binOp BinOp.eql 67 (.agg #[.string a1,.string a2,.string a3,.string a4,.string a5,.string Z]) (.agg #[.string a1,.string a2,.string a3,.string a4,.string a5,.string Z])).run prog W= .ok (.bool true) W:=fun W=>by
   have h:=mX! ⟨⟨a1,a2,a3⟩,⟨a4,a5,Z⟩⟩ ⟨⟨a1,a2,a3⟩,⟨a4,a5,Z⟩⟩ W;rw[v2! rfl]at h;exact h
  go_enter func78,ntmps78
  go_wp2_with fail
  go_ret
  exact⟨by rw[HZ.out];rfl,I.out⟩
 ·have HF:=h! (fun i (h6:i<6) (h0:∀j,j<i->cmpS (tp a j) (tp b j)=0) (h1:cmpS (tp a i) (tp b i)≠0)=>kq! h6 h0 h1);have HN:=h! (fun(h0:∀j,j<6->cmpS (tp a j) (tp b j)=0)=>mc! h0);have R:=h! (ox! a);have U:=h! (ox! b);generalize cmpC a b=cab at *;generalize hta:tp a=ta at *;generalize htb:tp b=tb at *;clear hta htb
  have M:∀W,(binOp BinOp.eql 67 (tV a) (tV b)).run prog W= .ok (.bool false) W:=fun W=>by
   have h:=mX! a b W;rwa[v3! hab]at h
  clear hab;obtain⟨⟨a1,a2,a3⟩,⟨a4,a5,Z⟩⟩:=a;obtain⟨⟨b1,b2,b3⟩,⟨Y,b5,b6⟩⟩:=b;unfold tpC at *;dsimp only at I F G R U;have ha:=F.out.cells;have hb:=G.out.cells;unfold tV at M ⊢;dsimp only at M ⊢;go_enter func78,ntmps78
  go_wp2_with fail
  clear ha hb M;refine lf! (fun a' W=>∃x y,a' = {tmps:=#[.agg #[.string a1,.string a2,.string a3,.string a4,.string a5,.string Z],.agg #[.string b1,.string b2,.string b3,.string Y,.string b5,.string b6],.pointer (some ⟨w.heap.size,0,none⟩),.pointer (some ⟨w.heap.size+1,0,none⟩),.int .i64 0,.pointer (some ⟨x,0,none⟩),.pointer (some ⟨y,0,none⟩),undef,undef,.agg #[.string a1,.string a2,.string a3,.string a4,.string a5,.string Z],.agg #[.string b1,.string b2,.string b3,.string Y,.string b5,.string b6],.bool false,.agg #[.string a1,.string a2,.string a3,.string a4,.string a5,.string Z],.agg #[.string a1,.string a2,.string a3,.string a4,.string a5,.string Z],.agg #[.string b1,.string b2,.string b3,.string Y,.string b5,.string b6],.agg #[.string b1,.string b2,.string b3,.string Y,.string b5,.string b6],undef,undef,undef,undef,undef,undef,undef,undef,undef,undef,undef,undef,undef,undef],defers:=[]}/\Blk W x #[.string a1,.string a2,.string a3,.string a4,.string a5,.string Z] 237/\Blk W y #[.string b1,.string b2,.string b3,.string Y,.string b5,.string b6] 237/\Gr w W) ?_ ?_
  ·obtain⟨wd,z⟩:=e! (((w.alloc (.cells #[.string a1,.string a2,.string a3,.string a4,.string a5,.string Z] 67)).alloc (.cells #[.string b1,.string b2,.string b3,.string Y,.string b5,.string b6] 67)).drew);have hE:=h! (show Gr w wd from by rw[z];exact I.out.drew);have a0:=h! (show Blk wd w.heap.size _ _ from by rw[z];exact F.out.drew);have a8:=h! (show Blk wd (w.heap.size+1) _ _ from by rw[z];exact G.out.drew);refine bZ! (Gr wd) (by rw[<-z];exact Gr.refl _) (by kernel_rfl) (by kernel_rfl) (fun _ _ d _ _ h=>absurd h.1 (fun e=>by cases e)) ?_;rw[<-z];clear z I F G;have h1:=fun W (h:Gr wd W)=>(a0.out.below h.below).cells;have h2:=fun W (h:Gr wd W)=>(a8.out.below h.below).cells;(refine WalkN.tk [0,2] ?_;(iterate 2 (refine c! ?_));refine TkN.n ?_)
   clear h1 h2;have a9:=hE;have hE:=h! (Gr.refl wd);refine WalkN.three 1 4 5 (by kernel_rfl) ?_ ?_ ?_;refine b! ?_;intro K hK;go_simp;refine(ba! ⟨⟨a1,a2,a3⟩,⟨a4,a5,Z⟩⟩ wd).mono ?_;rintro e u1 ⟨rfl,N⟩;refine hK.out _ _ (hE.out.next N) ?_;clear hK;unfold tV;dsimp only;have hE:=h! (hE.out.next N);clear N;refine WalkN.three 3 4 5 (by kernel_rfl) ?_ ?_ ?_;refine b! ?_;intro K hK;go_simp;refine(ba! ⟨⟨b1,b2,b3⟩,⟨Y,b5,b6⟩⟩ u1).mono ?_;rintro e u2 ⟨rfl,s⟩;refine hK.out _ _ (hE.out.next s) ?_;clear hK;unfold tV;dsimp only;have hE:=h! (hE.out.next s);clear s;refine p! 4 5 ?_ ?_;refine b! ?_;intro K hK;go_simp;refine hK.out _ _ (hE.out.alloc (.cells zr6 237)) ?_;clear hK;have u:=Ext.alloc u2 (.cells zr6 237);have l:=Blk.made u2 zr6 237;have k:=hE.out.below.size;have hE:=h! (hE.out.alloc (.cells zr6 237));clear u;unfold zr6 at *;generalize u2.alloc (.cells #[.string ⟨#[]⟩,.string ⟨#[]⟩,.string ⟨#[]⟩,.string ⟨#[]⟩,.string ⟨#[]⟩,.string ⟨#[]⟩] 237)=u3 at *;generalize hpe2:u2.heap.size=pa at *;have C:Hid (wd.heap.size<=pa):=h! (by first | exact v4! hpe2 | exact k);clear hpe2 k;have hA:=h! l;clear l;refine ob! 5 ?_;intro K hK;go_simp;refine hK.out _ _ (hE.out.alloc (.cells zr6 237)) ?_;clear hK;have r:=Ext.alloc u3 (.cells zr6 237);have v:Hid (pa≠u3.heap.size):=h! (Nat.ne_of_lt hA.out.lt);have hA:=h! (hA.out.below r);have m:=Blk.made u3 zr6 237;have f:=hE.out.below.size;have hE:=h! (hE.out.alloc (.cells zr6 237));clear r;unfold zr6 at *;generalize u3.alloc (.cells #[.string ⟨#[]⟩,.string ⟨#[]⟩,.string ⟨#[]⟩,.string ⟨#[]⟩,.string ⟨#[]⟩,.string ⟨#[]⟩] 237)=u4 at *;generalize hpe3:u3.heap.size=pb at *;have D:Hid (wd.heap.size<=pb):=h! (by first | exact v4! hpe3 | exact f);clear hpe3 f;have hB:=h! m;clear m;rotate_left
   refine b! ?_;intro K hK;go_simp;refine hK.out _ _ (hE.out.alloc (.cells zr6 237)) ?_;clear hK;have u:=Ext.alloc u2 (.cells zr6 237);have m:=Blk.made u2 zr6 237;have k:=hE.out.below.size;have hE:=h! (hE.out.alloc (.cells zr6 237));clear u;unfold zr6 at *;generalize u2.alloc (.cells #[.string ⟨#[]⟩,.string ⟨#[]⟩,.string ⟨#[]⟩,.string ⟨#[]⟩,.string ⟨#[]⟩,.string ⟨#[]⟩] 237)=u3 at *;generalize hpe2:u2.heap.size=pb at *;have D:Hid (wd.heap.size<=pb):=h! (by first | exact v4! hpe2 | exact k);clear hpe2 k;have hB:=h! m;clear m;refine ob! 4 ?_;intro K hK;go_simp;refine hK.out _ _ (hE.out.alloc (.cells zr6 237)) ?_;clear hK;have r:=Ext.alloc u3 (.cells zr6 237);have v:Hid (u3.heap.size≠pb):=h! (fun e=>Nat.lt_irrefl _ (e▸hB.out.lt));have hB:=h! (hB.out.below r);have l:=Blk.made u3 zr6 237;have f:=hE.out.below.size;have hE:=h! (hE.out.alloc (.cells zr6 237));clear r;unfold zr6 at *;generalize u3.alloc (.cells #[.string ⟨#[]⟩,.string ⟨#[]⟩,.string ⟨#[]⟩,.string ⟨#[]⟩,.string ⟨#[]⟩,.string ⟨#[]⟩] 237)=u4 at *;generalize hpe3:u3.heap.size=pa at *;have C:Hid (wd.heap.size<=pa):=h! (by first | exact v4! hpe3 | exact f);clear hpe3 f;have hA:=h! l;clear l;rotate_left
   refine b! ?_;intro K hK;go_simp;refine hK.out _ _ (hE.out.alloc (.cells zr6 237)) ?_;clear hK;have E:=Ext.alloc u1 (.cells zr6 237);have l:=Blk.made u1 zr6 237;have q:=hE.out.below.size;have hE:=h! (hE.out.alloc (.cells zr6 237));clear E;unfold zr6 at *;generalize u1.alloc (.cells #[.string ⟨#[]⟩,.string ⟨#[]⟩,.string ⟨#[]⟩,.string ⟨#[]⟩,.string ⟨#[]⟩,.string ⟨#[]⟩] 237)=u2 at *;generalize hpe1:u1.heap.size=pa at *;have C:Hid (wd.heap.size<=pa):=h! (by first | exact v4! hpe1 | exact q);clear hpe1 q;have hA:=h! l;clear l;refine p! 3 5 ?_ ?_;refine b! ?_;intro K hK;go_simp;refine(ba! ⟨⟨b1,b2,b3⟩,⟨Y,b5,b6⟩⟩ u2).mono ?_;rintro e u3 ⟨rfl,o⟩;refine hK.out _ _ (hE.out.next o) ?_;clear hK;unfold tV;dsimp only;have hA:=h! (hA.out.below o.below);have hE:=h! (hE.out.next o);clear o;refine ob! 5 ?_;intro K hK;go_simp;refine hK.out _ _ (hE.out.alloc (.cells zr6 237)) ?_;clear hK;have r:=Ext.alloc u3 (.cells zr6 237);have v:Hid (pa≠u3.heap.size):=h! (Nat.ne_of_lt hA.out.lt);have hA:=h! (hA.out.below r);have m:=Blk.made u3 zr6 237;have f:=hE.out.below.size;have hE:=h! (hE.out.alloc (.cells zr6 237));clear r;unfold zr6 at *;generalize u3.alloc (.cells #[.string ⟨#[]⟩,.string ⟨#[]⟩,.string ⟨#[]⟩,.string ⟨#[]⟩,.string ⟨#[]⟩,.string ⟨#[]⟩] 237)=u4 at *;generalize hpe3:u3.heap.size=pb at *;have D:Hid (wd.heap.size<=pb):=h! (by first | exact v4! hpe3 | exact f);clear hpe3 f;have hB:=h! m;clear m;rotate_left
   refine b! ?_;intro K hK;go_simp;refine hK.out _ _ (hE.out.alloc (.cells zr6 237)) ?_;clear hK;have u:=Ext.alloc u2 (.cells zr6 237);have v:Hid (pa≠u2.heap.size):=h! (Nat.ne_of_lt hA.out.lt);have hA:=h! (hA.out.below u);have m:=Blk.made u2 zr6 237;have k:=hE.out.below.size;have hE:=h! (hE.out.alloc (.cells zr6 237));clear u;unfold zr6 at *;generalize u2.alloc (.cells #[.string ⟨#[]⟩,.string ⟨#[]⟩,.string ⟨#[]⟩,.string ⟨#[]⟩,.string ⟨#[]⟩,.string ⟨#[]⟩] 237)=u3 at *;generalize hpe2:u2.heap.size=pb at *;have D:Hid (wd.heap.size<=pb):=h! (by first | exact v4! hpe2 | exact k);clear hpe2 k;have hB:=h! m;clear m;refine ob! 3 ?_;intro K hK;go_simp;refine(ba! ⟨⟨b1,b2,b3⟩,⟨Y,b5,b6⟩⟩ u3).mono ?_;rintro e u4 ⟨rfl,g⟩;refine hK.out _ _ (hE.out.next g) ?_;clear hK;unfold tV;dsimp only;have hA:=h! (hA.out.below g.below);have hB:=h! (hB.out.below g.below);have hE:=h! (hE.out.next g);clear g;rotate_left
   refine b! ?_;intro K hK;go_simp;refine hK.out _ _ (hE.out.alloc (.cells zr6 237)) ?_;clear hK;have E:=Ext.alloc u1 (.cells zr6 237);have m:=Blk.made u1 zr6 237;have q:=hE.out.below.size;have hE:=h! (hE.out.alloc (.cells zr6 237));clear E;unfold zr6 at *;generalize u1.alloc (.cells #[.string ⟨#[]⟩,.string ⟨#[]⟩,.string ⟨#[]⟩,.string ⟨#[]⟩,.string ⟨#[]⟩,.string ⟨#[]⟩] 237)=u2 at *;generalize hpe1:u1.heap.size=pb at *;have D:Hid (wd.heap.size<=pb):=h! (by first | exact v4! hpe1 | exact q);clear hpe1 q;have hB:=h! m;clear m;refine p! 3 4 ?_ ?_;refine b! ?_;intro K hK;go_simp;refine(ba! ⟨⟨b1,b2,b3⟩,⟨Y,b5,b6⟩⟩ u2).mono ?_;rintro e u3 ⟨rfl,o⟩;refine hK.out _ _ (hE.out.next o) ?_;clear hK;unfold tV;dsimp only;have hB:=h! (hB.out.below o.below);have hE:=h! (hE.out.next o);clear o;refine ob! 4 ?_;intro K hK;go_simp;refine hK.out _ _ (hE.out.alloc (.cells zr6 237)) ?_;clear hK;have r:=Ext.alloc u3 (.cells zr6 237);have v:Hid (u3.heap.size≠pb):=h! (fun e=>Nat.lt_irrefl _ (e▸hB.out.lt));have hB:=h! (hB.out.below r);have l:=Blk.made u3 zr6 237;have f:=hE.out.below.size;have hE:=h! (hE.out.alloc (.cells zr6 237));clear r;unfold zr6 at *;generalize u3.alloc (.cells #[.string ⟨#[]⟩,.string ⟨#[]⟩,.string ⟨#[]⟩,.string ⟨#[]⟩,.string ⟨#[]⟩,.string ⟨#[]⟩] 237)=u4 at *;generalize hpe3:u3.heap.size=pa at *;have C:Hid (wd.heap.size<=pa):=h! (by first | exact v4! hpe3 | exact f);clear hpe3 f;have hA:=h! l;clear l;rotate_left
   refine b! ?_;intro K hK;go_simp;refine hK.out _ _ (hE.out.alloc (.cells zr6 237)) ?_;clear hK;have u:=Ext.alloc u2 (.cells zr6 237);have v:Hid (u2.heap.size≠pb):=h! (fun e=>Nat.lt_irrefl _ (e▸hB.out.lt));have hB:=h! (hB.out.below u);have l:=Blk.made u2 zr6 237;have k:=hE.out.below.size;have hE:=h! (hE.out.alloc (.cells zr6 237));clear u;unfold zr6 at *;generalize u2.alloc (.cells #[.string ⟨#[]⟩,.string ⟨#[]⟩,.string ⟨#[]⟩,.string ⟨#[]⟩,.string ⟨#[]⟩,.string ⟨#[]⟩] 237)=u3 at *;generalize hpe2:u2.heap.size=pa at *;have C:Hid (wd.heap.size<=pa):=h! (by first | exact v4! hpe2 | exact k);clear hpe2 k;have hA:=h! l;clear l;refine ob! 3 ?_;intro K hK;go_simp;refine(ba! ⟨⟨b1,b2,b3⟩,⟨Y,b5,b6⟩⟩ u3).mono ?_;rintro e u4 ⟨rfl,g⟩;refine hK.out _ _ (hE.out.next g) ?_;clear hK;unfold tV;dsimp only;have hA:=h! (hA.out.below g.below);have hB:=h! (hB.out.below g.below);have hE:=h! (hE.out.next g);clear g;rotate_left
   refine b! ?_;intro K hK;go_simp;refine hK.out _ _ (hE.out.alloc (.cells zr6 237)) ?_;clear hK;have O:=Ext.alloc wd (.cells zr6 237);have l:=Blk.made wd zr6 237;have A:=hE.out.below.size;have hE:=h! (hE.out.alloc (.cells zr6 237));clear O;unfold zr6 at *;generalize wd.alloc (.cells #[.string ⟨#[]⟩,.string ⟨#[]⟩,.string ⟨#[]⟩,.string ⟨#[]⟩,.string ⟨#[]⟩,.string ⟨#[]⟩] 237)=u1 at *;generalize hpe0:wd.heap.size=pa at *;have C:Hid (wd.heap.size<=pa):=h! (by first | exact v4! hpe0 | exact A);clear hpe0 A;have hA:=h! l;clear l;refine p! 1 5 ?_ ?_;refine b! ?_;intro K hK;go_simp;refine(ba! ⟨⟨a1,a2,a3⟩,⟨a4,a5,Z⟩⟩ u1).mono ?_;rintro e u2 ⟨rfl,s⟩;refine hK.out _ _ (hE.out.next s) ?_;clear hK;unfold tV;dsimp only;have hA:=h! (hA.out.below s.below);have hE:=h! (hE.out.next s);clear s;refine p! 3 5 ?_ ?_;refine b! ?_;intro K hK;go_simp;refine(ba! ⟨⟨b1,b2,b3⟩,⟨Y,b5,b6⟩⟩ u2).mono ?_;rintro e u3 ⟨rfl,o⟩;refine hK.out _ _ (hE.out.next o) ?_;clear hK;unfold tV;dsimp only;have hA:=h! (hA.out.below o.below);have hE:=h! (hE.out.next o);clear o;refine ob! 5 ?_;intro K hK;go_simp;refine hK.out _ _ (hE.out.alloc (.cells zr6 237)) ?_;clear hK;have r:=Ext.alloc u3 (.cells zr6 237);have v:Hid (pa≠u3.heap.size):=h! (Nat.ne_of_lt hA.out.lt);have hA:=h! (hA.out.below r);have m:=Blk.made u3 zr6 237;have f:=hE.out.below.size;have hE:=h! (hE.out.alloc (.cells zr6 237));clear r;unfold zr6 at *;generalize u3.alloc (.cells #[.string ⟨#[]⟩,.string ⟨#[]⟩,.string ⟨#[]⟩,.string ⟨#[]⟩,.string ⟨#[]⟩,.string ⟨#[]⟩] 237)=u4 at *;generalize hpe3:u3.heap.size=pb at *;have D:Hid (wd.heap.size<=pb):=h! (by first | exact v4! hpe3 | exact f);clear hpe3 f;have hB:=h! m;clear m;rotate_left
   refine b! ?_;intro K hK;go_simp;refine hK.out _ _ (hE.out.alloc (.cells zr6 237)) ?_;clear hK;have u:=Ext.alloc u2 (.cells zr6 237);have v:Hid (pa≠u2.heap.size):=h! (Nat.ne_of_lt hA.out.lt);have hA:=h! (hA.out.below u);have m:=Blk.made u2 zr6 237;have k:=hE.out.below.size;have hE:=h! (hE.out.alloc (.cells zr6 237));clear u;unfold zr6 at *;generalize u2.alloc (.cells #[.string ⟨#[]⟩,.string ⟨#[]⟩,.string ⟨#[]⟩,.string ⟨#[]⟩,.string ⟨#[]⟩,.string ⟨#[]⟩] 237)=u3 at *;generalize hpe2:u2.heap.size=pb at *;have D:Hid (wd.heap.size<=pb):=h! (by first | exact v4! hpe2 | exact k);clear hpe2 k;have hB:=h! m;clear m;refine ob! 3 ?_;intro K hK;go_simp;refine(ba! ⟨⟨b1,b2,b3⟩,⟨Y,b5,b6⟩⟩ u3).mono ?_;rintro e u4 ⟨rfl,g⟩;refine hK.out _ _ (hE.out.next g) ?_;clear hK;unfold tV;dsimp only;have hA:=h! (hA.out.below g.below);have hB:=h! (hB.out.below g.below);have hE:=h! (hE.out.next g);clear g;rotate_left
   refine b! ?_;intro K hK;go_simp;refine hK.out _ _ (hE.out.alloc (.cells zr6 237)) ?_;clear hK;have E:=Ext.alloc u1 (.cells zr6 237);have v:Hid (pa≠u1.heap.size):=h! (Nat.ne_of_lt hA.out.lt);have hA:=h! (hA.out.below E);have m:=Blk.made u1 zr6 237;have q:=hE.out.below.size;have hE:=h! (hE.out.alloc (.cells zr6 237));clear E;unfold zr6 at *;generalize u1.alloc (.cells #[.string ⟨#[]⟩,.string ⟨#[]⟩,.string ⟨#[]⟩,.string ⟨#[]⟩,.string ⟨#[]⟩,.string ⟨#[]⟩] 237)=u2 at *;generalize hpe1:u1.heap.size=pb at *;have D:Hid (wd.heap.size<=pb):=h! (by first | exact v4! hpe1 | exact q);clear hpe1 q;have hB:=h! m;clear m;refine ob! 1 ?_;intro K hK;go_simp;refine(ba! ⟨⟨a1,a2,a3⟩,⟨a4,a5,Z⟩⟩ u2).mono ?_;rintro e u3 ⟨rfl,o⟩;refine hK.out _ _ (hE.out.next o) ?_;clear hK;unfold tV;dsimp only;have hA:=h! (hA.out.below o.below);have hB:=h! (hB.out.below o.below);have hE:=h! (hE.out.next o);clear o;refine ob! 3 ?_;intro K hK;go_simp;refine(ba! ⟨⟨b1,b2,b3⟩,⟨Y,b5,b6⟩⟩ u3).mono ?_;rintro e u4 ⟨rfl,g⟩;refine hK.out _ _ (hE.out.next g) ?_;clear hK;unfold tV;dsimp only;have hA:=h! (hA.out.below g.below);have hB:=h! (hB.out.below g.below);have hE:=h! (hE.out.next g);clear g;rotate_left
   refine b! ?_;intro K hK;go_simp;refine hK.out _ _ (hE.out.alloc (.cells zr6 237)) ?_;clear hK;have O:=Ext.alloc wd (.cells zr6 237);have m:=Blk.made wd zr6 237;have A:=hE.out.below.size;have hE:=h! (hE.out.alloc (.cells zr6 237));clear O;unfold zr6 at *;generalize wd.alloc (.cells #[.string ⟨#[]⟩,.string ⟨#[]⟩,.string ⟨#[]⟩,.string ⟨#[]⟩,.string ⟨#[]⟩,.string ⟨#[]⟩] 237)=u1 at *;generalize hpe0:wd.heap.size=pb at *;have D:Hid (wd.heap.size<=pb):=h! (by first | exact v4! hpe0 | exact A);clear hpe0 A;have hB:=h! m;clear m;refine p! 1 4 ?_ ?_;refine b! ?_;intro K hK;go_simp;refine(ba! ⟨⟨a1,a2,a3⟩,⟨a4,a5,Z⟩⟩ u1).mono ?_;rintro e u2 ⟨rfl,s⟩;refine hK.out _ _ (hE.out.next s) ?_;clear hK;unfold tV;dsimp only;have hB:=h! (hB.out.below s.below);have hE:=h! (hE.out.next s);clear s;refine p! 3 4 ?_ ?_;refine b! ?_;intro K hK;go_simp;refine(ba! ⟨⟨b1,b2,b3⟩,⟨Y,b5,b6⟩⟩ u2).mono ?_;rintro e u3 ⟨rfl,o⟩;refine hK.out _ _ (hE.out.next o) ?_;clear hK;unfold tV;dsimp only;have hB:=h! (hB.out.below o.below);have hE:=h! (hE.out.next o);clear o;refine ob! 4 ?_;intro K hK;go_simp;refine hK.out _ _ (hE.out.alloc (.cells zr6 237)) ?_;clear hK;have r:=Ext.alloc u3 (.cells zr6 237);have v:Hid (u3.heap.size≠pb):=h! (fun e=>Nat.lt_irrefl _ (e▸hB.out.lt));have hB:=h! (hB.out.below r);have l:=Blk.made u3 zr6 237;have f:=hE.out.below.size;have hE:=h! (hE.out.alloc (.cells zr6 237));clear r;unfold zr6 at *;generalize u3.alloc (.cells #[.string ⟨#[]⟩,.string ⟨#[]⟩,.string ⟨#[]⟩,.string ⟨#[]⟩,.string ⟨#[]⟩,.string ⟨#[]⟩] 237)=u4 at *;generalize hpe3:u3.heap.size=pa at *;have C:Hid (wd.heap.size<=pa):=h! (by first | exact v4! hpe3 | exact f);clear hpe3 f;have hA:=h! l;clear l;rotate_left
   refine b! ?_;intro K hK;go_simp;refine hK.out _ _ (hE.out.alloc (.cells zr6 237)) ?_;clear hK;have u:=Ext.alloc u2 (.cells zr6 237);have v:Hid (u2.heap.size≠pb):=h! (fun e=>Nat.lt_irrefl _ (e▸hB.out.lt));have hB:=h! (hB.out.below u);have l:=Blk.made u2 zr6 237;have k:=hE.out.below.size;have hE:=h! (hE.out.alloc (.cells zr6 237));clear u;unfold zr6 at *;generalize u2.alloc (.cells #[.string ⟨#[]⟩,.string ⟨#[]⟩,.string ⟨#[]⟩,.string ⟨#[]⟩,.string ⟨#[]⟩,.string ⟨#[]⟩] 237)=u3 at *;generalize hpe2:u2.heap.size=pa at *;have C:Hid (wd.heap.size<=pa):=h! (by first | exact v4! hpe2 | exact k);clear hpe2 k;have hA:=h! l;clear l;refine ob! 3 ?_;intro K hK;go_simp;refine(ba! ⟨⟨b1,b2,b3⟩,⟨Y,b5,b6⟩⟩ u3).mono ?_;rintro e u4 ⟨rfl,g⟩;refine hK.out _ _ (hE.out.next g) ?_;clear hK;unfold tV;dsimp only;have hA:=h! (hA.out.below g.below);have hB:=h! (hB.out.below g.below);have hE:=h! (hE.out.next g);clear g;rotate_left
   refine b! ?_;intro K hK;go_simp;refine hK.out _ _ (hE.out.alloc (.cells zr6 237)) ?_;clear hK;have E:=Ext.alloc u1 (.cells zr6 237);have v:Hid (u1.heap.size≠pb):=h! (fun e=>Nat.lt_irrefl _ (e▸hB.out.lt));have hB:=h! (hB.out.below E);have l:=Blk.made u1 zr6 237;have q:=hE.out.below.size;have hE:=h! (hE.out.alloc (.cells zr6 237));clear E;unfold zr6 at *;generalize u1.alloc (.cells #[.string ⟨#[]⟩,.string ⟨#[]⟩,.string ⟨#[]⟩,.string ⟨#[]⟩,.string ⟨#[]⟩,.string ⟨#[]⟩] 237)=u2 at *;generalize hpe1:u1.heap.size=pa at *;have C:Hid (wd.heap.size<=pa):=h! (by first | exact v4! hpe1 | exact q);clear hpe1 q;have hA:=h! l;clear l;refine ob! 1 ?_;intro K hK;go_simp;refine(ba! ⟨⟨a1,a2,a3⟩,⟨a4,a5,Z⟩⟩ u2).mono ?_;rintro e u3 ⟨rfl,o⟩;refine hK.out _ _ (hE.out.next o) ?_;clear hK;unfold tV;dsimp only;have hA:=h! (hA.out.below o.below);have hB:=h! (hB.out.below o.below);have hE:=h! (hE.out.next o);clear o;refine ob! 3 ?_;intro K hK;go_simp;refine(ba! ⟨⟨b1,b2,b3⟩,⟨Y,b5,b6⟩⟩ u3).mono ?_;rintro e u4 ⟨rfl,g⟩;refine hK.out _ _ (hE.out.next g) ?_;clear hK;unfold tV;dsimp only;have hA:=h! (hA.out.below g.below);have hB:=h! (hB.out.below g.below);have hE:=h! (hE.out.next g);clear g;rotate_left
   all_goals
    refine ob! 6 ?_;intro K hK;have L:=hA.out.cells;have Q:=hA.out.free;go_simp;clear L Q;refine hK.out _ _ (hf! hE.out C.out _ _ _ _ _ _) ?_;clear hK;have hE:=h! (hf! hE.out C.out (.string a1) (.string a2) (.string a3) (.string a4) (.string a5) (.string Z));have l:=hA.out.put6 (.string a1) (.string a2) (.string a3) (.string a4) (.string a5) (.string Z);have m:=hB.out.away6 (B':=pa) (Ne.symm v.out) (.string a1) (.string a2) (.string a3) (.string a4) (.string a5) (.string Z);generalize ((((((u4.setCell ⟨pa,0,none⟩ (.string a1)).setCell ⟨pa,1,none⟩ (.string a2)).setCell ⟨pa,2,none⟩ (.string a3)).setCell ⟨pa,3,none⟩ (.string a4)).setCell ⟨pa,4,none⟩ (.string a5)).setCell ⟨pa,5,none⟩ (.string Z))=u5 at *;have hA:=h! l;have hB:=h! m;clear l m;refine ob! 7 ?_;intro K hK;have L:=hB.out.cells;have Q:=hB.out.free;go_simp;clear L Q;refine hK.out _ _ (hf! hE.out D.out _ _ _ _ _ _) ?_;clear hK;have hE:=h! (hf! hE.out D.out (.string b1) (.string b2) (.string b3) (.string Y) (.string b5) (.string b6));have m:=hB.out.put6 (.string b1) (.string b2) (.string b3) (.string Y) (.string b5) (.string b6);have l:=hA.out.away6 (B':=pb) v.out (.string b1) (.string b2) (.string b3) (.string Y) (.string b5) (.string b6);generalize ((((((u5.setCell ⟨pb,0,none⟩ (.string b1)).setCell ⟨pb,1,none⟩ (.string b2)).setCell ⟨pb,2,none⟩ (.string b3)).setCell ⟨pb,3,none⟩ (.string Y)).setCell ⟨pb,4,none⟩ (.string b5)).setCell ⟨pb,5,none⟩ (.string b6))=u6 at *;have hA:=h! l;have hB:=h! m;clear l m;refine d! ?_;exact⟨rfl,pa,pb,rfl,hA.out,hB.out,a9.out.next hE.out⟩
  ·rintro a' W ⟨x,y,rfl,hA,hB,hG⟩;have HA:=h! hA;have HB:=h! hB;have HG:=h! hG;clear hA hB hG I F G;go_wp2_with fail
   go_loopw [7,8,16] (fun _ _ iv wr=>∃i:Nat,i<=6/\iv= .int .i64 i/\(∀j,j<i->cmpS (ta j) (tb j)=0)/\Blk wr x #[.string a1,.string a2,.string a3,.string a4,.string a5,.string Z] 237/\Blk wr y #[.string b1,.string b2,.string b3,.string Y,.string b5,.string b6] 237/\Gr w wr) (fun _ _ iv _=>6-(intOf iv).toNat)
   case atStart=>exact⟨0,v1! _,rfl,(fun j h=>absurd h (Nat.not_lt_zero j)),HA.out,HB.out,HG.out⟩
   case round =>
    obtain⟨i,hi,rfl,J,hA,hB,hG⟩:=hrel;have H:=h! J;have RA:=h! hA;have RB:=h! hB;have RG:=h! hG;clear HA HB HG J hA hB hG;by_cases hlt:i<6
    ·have X:=h! hlt;have T:=R.out i hlt;have V:=U.out i hlt;have ac:(i:Int)<6:=by omega
     have ab:(0:Int)<=(i:Int):=by omega
     have a7:=h! (HF.out i hlt H.out)
     have aa:Hid (cmpS (ta i) (tb i)=0->∀j,j<i+1->cmpS (ta j) (tb j)=0):=h! (fun h0 j hj=>by
      rcases Nat.lt_succ_iff_lt_or_eq.1 hj with h | rfl
      ·exact H.out j h
      ·exact h0)
     generalize ta i=sa at *;generalize tb i=sb at *;clear hlt hi;go_wp2_with fail
     obtain⟨wd,z⟩:=e! wr.drew;have DG:=h! (show Gr w wd from by rw[z];exact RG.out.drew);have DA:=h! (show Blk wd x _ _ from by rw[z];exact RA.out.drew);have DB:=h! (show Blk wd y _ _ from by rw[z];exact RB.out.drew);refine re! z ?_;clear z RA RB RG;have h1:∀W,Ext wd W->W.cell? ⟨x,i,none⟩=some (.string sa):=fun W h=>((DA.out.below h).cells i).trans T;have h2:∀W,Ext wd W->W.cell? ⟨y,i,none⟩=some (.string sb):=fun W h=>((DB.out.below h).cells i).trans V;(refine WalkN.tk [0,1,2,3,4,5] ?_;(iterate 6 (refine c! ?_));refine TkN.n ?_)
     clear h1 h2 T V;refine ob! 6 ?_;intro K hK;go_simp;refine(gq! sa sb wd).mono ?_;rintro e w2 ⟨rfl,rfl⟩;rw[pq!];refine hK.out _ _ (Ext.refl _) ?_;clear hK;refine t! 7 ?_
     refine d! ?_;by_cases hz:cmpS sa sb=0
     ·have HZ:=h! (aa.out hz);rw[hz];clear hz;go_wp2_with fail
      go_roundw
      case rel=>exact⟨i+1,X.out,by go_num,HZ.out,DA.out,DB.out,DG.out⟩
      case measure=>have:=X.out;simp[intOf];omega
     ·have HZ:=h! (a7.out hz);generalize cmpS sa sb=cz at *;have ad:(cz != 0)=true:=by simpa using hz
      go_wp2_with fail
      go_ret
      exact⟨by rw[HZ.out];rfl,DG.out⟩
    ·obtain rfl:i=6:=by omega
     have HZ:=h! (HN.out H.out);go_wp2_with fail
     go_ret
     exact⟨by rw[HZ.out];rfl,RG.out⟩
end Go.Proofs.YtlhaghoajpglaaaGreat
