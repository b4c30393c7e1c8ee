/- Lemmas for the claim, no condition. -/
import Derived.Test.YtlhaghoajpglaaaGreatYXMean0
import Derived.Deep.RegionHeld
import Derived.Test.YtlhaghoajpglaaaGreatYXMean10
import Derived.Test.YtlhaghoajpglaaaGreatYXMean11
import Derived.Test.YtlhaghoajpglaaaGreatYXMean8
import Derived.Test.YtlhaghoajpglaaaGreatYXMean2
import Derived.Test.YtlhaghoajpglaaaGreatYXMean3
import Derived.Test.YtlhaghoajpglaaaGreatYXMean1
set_option maxRecDepth 100000
set_option maxHeartbeats 8000000
namespace Go.Proofs.YtlhaghoajpglaaaGreat
open Go Go.RowKit Go.Maps
theorem ft_zero (S:Nat->Prop)(w:World):FTAt S w FT.zero (.slice none 0 0,.slice none 0 0,.slice none 0 0):=(FTAt.iff _ _).2 ⟨Sl.nil _ _ _,Sl.nil _ _ _,[],rfl,(fun x hx=>by cases hx),Sl.nil _ _ _⟩
theorem stepG_none {ts:List TyS} {T:List Tup} {shut:List R2} {p:P3} {ps:List P3} (h:ruleOf ts shut p=none):stepG ts T shut p ps=(FT.zero,ps):=by unfold stepG;rw[h]
theorem stepG_some {ts:List TyS} {T:List Tup} {shut:List R2} {p:P3} {ps:List P3} {r:RT} (h:ruleOf ts shut p=some r):stepG ts T shut p ps=formD T p r ps:=by unfold stepG;rw[h]
theorem WalkAt.le {ts:List TyS} {T:List Tup} {shut:List R2} {p:P3} {most:Int} {n:Nat} (h:WalkAt ts T shut p most n):n<=(walkN ts T shut p n).1.length:=by
 cases n with
 | zero=>exact Nat.zero_le _
 | succ n =>
  have h1:=(h n (Nat.lt_succ_self n)).1;have h2:=walk_mono ts T shut p (show n<=n+1 by omega);omega
theorem Blk.set2 {w:World} {B:Nat} {a b:Value} {e:TypeId} (h:Blk w B #[a,b] e)(x0 x1:Value):Blk ((w.setCell ⟨B,0,none⟩ x0).setCell ⟨B,1,none⟩ x1) B #[x0,x1] e:=(h.set_to (cs':=#[x0,b]) 0 x0 rfl).set_to (cs':=#[x0,x1]) 1 x1 rfl
structure WlkI (w0 w:World)(gp lo:Nat)(tv:Value)(ps:List P3)(q:List (FT × FV3))(pv fv:Value):Prop where
 gk:GkAt w gp w0.heap.size ps pv fv
 row:FRow lo w q fv
 sb:Blk w w0.heap.size #[tv] 26
 ob:Blk w (w0.heap.size+2) #[.slice none 0 0,.slice none 0 0] 96
 be:Below w0.heap.size w0 w
 lo:w0.heap.size+4=gp/\gp<lo/\lo<=w.heap.size
section
variable {w0 w w' w2 w3 w6 w8 : World} {gp lo n0 : Nat} {tv pv fv pv' : Value} {ps ps' : List P3} {q : List (FT × FV3)} {x : FT} {v : FV3}
theorem WlkI.ext (h:WlkI w0 w gp lo tv ps q pv fv)(hx:Ext w w'):WlkI w0 w' gp lo tv ps q pv fv :=
 ⟨h.gk.ext hx,h.row.ext hx,h.sb.below hx,h.ob.below hx,h.be.trans (hx.mono (by have:=h.lo;omega)),h.lo.1,h.lo.2.1,Nat.le_trans h.lo.2.2 hx.size⟩
theorem WlkI.num (h:WlkI w0 w gp lo tv ps q pv fv)(hf:Fine gp gp w w' pv pv')(hg:GkAt w' gp w0.heap.size ps' pv' fv):WlkI w0 w' gp lo tv ps' q pv' fv :=
 have hl:=h.lo
 ⟨hg,h.row.keep (hf.gpk h.gk (by omega)) fun x hx=>by rw[show x=gp from hx];exact hl.2.1,hf.gblk h.gk h.sb (by decide) (by decide),(hf.kept.block _ ⟨h.ob.lt,by omega,by omega,fun e=>by
  obtain⟨c,hc⟩:=h.gk.pts.typed e;rw[show w.heap[w0.heap.size+2]?=_ from h.ob]at hc;injection hc with hc
  injection hc with _ hc _
  exact absurd hc (by decide)⟩).trans h.ob,h.be.trans (hf.gpk h.gk (by omega)).below,hl.1,hl.2.1,Nat.le_trans hl.2.2 hf.size⟩
theorem WlkI.step {g n c:Nat} (h:WlkI w0 w gp lo tv ps q pv fv)(hx:FTAt (FS n0 w) w x v)(hn0:lo<=n0)(hfv:∀ g,fv.ownBlock=some g->g<n0)
  (h3:Ext w w3) (hg:w3.grownBy w6 fv.ownBlock) (hb:∀ g',(Value.slice (some ⟨g,0,none⟩) n c).ownBlock=some g'->fv.ownBlock=some g'\/w3.heap.size<=g')
  (ho:Own w8 lo 128 4 (.slice (some ⟨g,0,none⟩) n c) (q.flatMap fC++fC (x,v))) (hbx:Blk w8 gp #[pv,.slice (some ⟨g,0,none⟩) n c] 96)
  (h8:∀ y,y≠g->y≠gp->w8.heap[y]?=w6.heap[y]?) (hsz:w8.heap.size=w6.heap.size) (hos:w8.os=w6.os/\w8.tape=w6.tape/\w8.output=w6.output):WlkI w0 w8 gp lo tv ps (q++[(x,v)]) pv (.slice (some ⟨g,0,none⟩) n c):=by
 have hl:=h.lo;have hgb:fv.ownBlock=some g\/w3.heap.size<=g:=hb g rfl;have hz3:=h3.size;have hz6:=hg.size
 have hglo:lo<=g:=by
  rcases hgb with h1 | h1
  ·exact(h.row.row.block g h1).1
  ·omega
 have h6:∀ y,y<w.heap.size->fv.ownBlock≠some y->w6.heap[y]?=w.heap[y]?:=fun y hy hn=>(hg.block y (Nat.lt_of_lt_of_le hy h3.size) fun e=>hn e.symm).trans (h3.block y hy)
 have hgx:∀ y,y<w.heap.size->fv.ownBlock≠some y->y≠g:=fun y hy hn e=>by
  subst e;rcases hgb with h1 | h1
  ·exact hn h1
  ·omega
 have h86:∀ y,y<w.heap.size->fv.ownBlock≠some y->y≠gp->w8.heap[y]?=w.heap[y]?:=fun y hy hn hp=>(h8 y (hgx y hy hn) hp).trans (h6 y hy hn);have hlfv:∀ y,y<lo->fv.ownBlock≠some y:=fun y hy e=>by have:=(h.row.row.block y e).1;omega
 refine⟨⟨hbx,h.gk.pts.keepOwn fun y hy=>?_⟩,?_,(h86 _ h.sb.lt (hlfv _ (by omega)) (by omega)).trans h.sb,(h86 _ h.ob.lt (hlfv _ (by omega)) (by omega)).trans h.ob,?_,hl.1,hl.2.1,by omega⟩
 ·exact h86 y (h.gk.pts.block y hy).2 (fun e=>h.row.row.apart h.gk.pts (by decide) e hy) (h.gk.ptNe y hy)
 ·refine⟨by rw[List.flatMap_append];simpa using ho,fun y hy=>?_⟩
  have hm:∀ b,(FS lo w b/\fv.ownBlock≠some b)->(FS lo w8 b/\(Value.slice (some ⟨g,0,none⟩) n c).ownBlock≠some b):=fun b hb'=>⟨⟨hb'.1.1,Nat.lt_of_lt_of_le hb'.1.2.1 (by omega),fun cs=>by rw[h86 b hb'.1.2.1 hb'.2 (by have:=hb'.1.1;omega)];exact hb'.1.2.2 cs⟩,fun e=>by
   injection e with e
   exact hgx b hb'.1.2.1 hb'.2 e.symm⟩
  have hsame:∀ b,(FS lo w b/\fv.ownBlock≠some b)->w8.heap[b]?=w.heap[b]?:=fun b hb'=>h86 b hb'.1.2.1 hb'.2 (by have:=hb'.1.1;omega);rcases List.mem_append.1 hy with hy | hy
  ·exact((h.row.parts y hy).same hsame).mono hm
  ·obtain rfl:=List.mem_singleton.1 hy;exact((hx.mono fun b hb'=>(⟨hb'.mono hn0,fun e=>by have:=hfv b e;have:=hb'.1;omega⟩:FS lo w b/\fv.ownBlock≠some b)).same hsame).mono hm
 ·exact h.be.trans ⟨hos.1.trans (hg.os.trans h3.os),hos.2.1.trans (hg.tape.trans h3.tape),hos.2.2.trans (hg.output.trans h3.output),by omega,fun y hy=>h86 y (by omega) (hlfv _ (by omega)) (by omega)⟩
end
def WalkSaid26 (ts:List TyS)(T:List Tup)(shut:List R2)(p:P3)(most:Int)(w:World)(e:Ending)(w':World):Prop:=Ext w w'/\((∃ n pv fv,WalkEnd ts T shut p most n/\e = .returned (.tuple #[.agg #[pv,fv],.bool true])/\GrAt (fun x=>w.heap.size<=x/\x<w'.heap.size) w' (walkN ts T shut p n).1 (walkN ts T shut p n).2 pv fv)\/(WalkLong ts T shut p most/\e = .returned (.tuple #[.agg #[.slice none 0 0,.slice none 0 0],.bool false])))
theorem mem_take_succ {α:Type} [DecidableEq α] {l:List α} {j:Nat} (h:j<l.length)(x:α):(decide (x∈l.take (j+1))=(decide (x∈l.take j)||decide (l[j]=x))):=by
 rw[List.take_succ_eq_append_getElem h,Bool.eq_iff_iff,decide_eq_true_eq,Bool.or_eq_true,decide_eq_true_eq,decide_eq_true_eq,List.mem_append,List.mem_singleton];exact or_congr Iff.rfl eq_comm
theorem walk26_any (ts:List TyS)(tv:Value)(T:List Tup)(setv:Value)(shut:List R2)(sv:Value)(p:P3)(most:Int)(N:Nat)(w:World)(h:TysAt (· < w.heap.size) w ts tv)(hu:uniqOk ts=true)(hset:Sl (· < w.heap.size) w 6 setv (tuCs T))(hsv:Sl (· < w.heap.size) w 2 sv (shut.flatMap r2C))(hsl:shut.length<=1099511627776)(hin:WalkIn ts T shut p N) :
  Calls Tryz.prog 51 #[.agg #[tv],setv,sv,pV p,.int .i64 most] w fun e w'=>WalkSaid26 ts T shut p most w e w':=by
 have HIN:=h! hin;have HU:=h! hu;have HSL:=h! hsl;obtain⟨ao,c,rfl,-⟩:=h.rows;obtain⟨so,sc,rfl,-⟩:=Sl.rows r2C_length (by decide) hsv;obtain⟨to,tc,rfl,-⟩:=Sl.rows tuC_length (by decide) (show Sl _ w 6 setv (T.flatMap tuC)from hset);have HTY:=h! (fun W (hW:Below w.heap.size w W)=>(h.same (Same.below hW):TysAt (· < w.heap.size) W ts (.slice ao ts.length c)));have HSH:=h! (fun W (hW:Below w.heap.size w W)=>(hsv.same (Same.below hW):Sl (· < w.heap.size) W 2 (.slice so shut.length sc) (shut.flatMap r2C)));have HST:=h! (fun W (hW:Below w.heap.size w W)=>(hset.same (Same.below hW):Sl (· < w.heap.size) W 6 (.slice to T.length tc) (tuCs T)));obtain⟨wa,hwa⟩:∃ x,x=w.alloc (.cells #[.slice ao ts.length c] 26):=⟨_,rfl⟩;obtain⟨wb,hwb⟩:∃ x,x=wa.alloc (.cells #[.string p.t,.string p.i,.string p.r] 32):=⟨_,rfl⟩;obtain⟨wc,hwc⟩:∃ x,x=wb.alloc (.cells #[.slice none 0 0,.slice none 0 0] 96):=⟨_,rfl⟩;obtain⟨wd,hwd⟩:∃ x,x=wc.alloc (.cells #[.string p.t,.string p.i,.string p.r] 32):=⟨_,rfl⟩;have ea:wa.heap.size=w.heap.size+1:=by rw[hwa];simp
 have eb:wb.heap.size=w.heap.size+2:=by rw[hwb];simp[ea]
 have ec:wc.heap.size=w.heap.size+3:=by rw[hwc];simp[eb]
 have ed:wd.heap.size=w.heap.size+4:=by rw[hwd];simp[ec]
 obtain⟨we,hwe⟩:∃ x,x=wd.alloc (.cells #[.slice (some ⟨w.heap.size+3,0,none⟩) 1 1,.slice none 0 0] 96):=⟨_,rfl⟩;have ee:we.heap.size=w.heap.size+5:=by rw[hwe];simp[ed]
 have xa:Ext w wa:=by rw[hwa];exact Ext.alloc _ _
 have xb:Ext wa wb:=by rw[hwb];exact Ext.alloc _ _
 have xc:Ext wb wc:=by rw[hwc];exact Ext.alloc _ _
 have xd:Ext wc wd:=by rw[hwd];exact Ext.alloc _ _
 have xe:Ext wd we:=by rw[hwe];exact Ext.alloc _ _
 have EI:=h! (show WlkI w we (w.heap.size+4) (w.heap.size+5) (.slice ao ts.length c) [p] [] (.slice (some ⟨w.heap.size+3,0,none⟩) 1 1) (.slice none 0 0) from
  ⟨⟨by rw[hwe,<- ed];exact Blk.made _ _ _,Own.below (w:=wd) (by rw[hwd,<- ec,pcs_single];exact Own.lit wc (by omega) _ 3 1 #[.string p.t,.string p.i,.string p.r] rfl (by unfold maxLen;omega) (by omega)) xe⟩,FRow.nil _ _,Blk.below (by rw[hwa];exact Blk.made _ _ _) (xb.trans (xc.trans (xd.trans xe))),Blk.below (w:=wc) (by rw[hwc,<- eb];exact Blk.made _ _ _) (xd.trans xe),xa.trans (xb.trans (xc.trans (xd.trans xe))),rfl,by omega,by omega⟩)
 have hpc:=(Blk.below (show Blk wb (w.heap.size+1) #[.string p.t,.string p.i,.string p.r] 32 from by rw[hwb,<- ea];exact Blk.made _ _ _) xc).cells;clear h hu hset hsv hsl hin ea eb ec ed ee xa xb xc xd xe;subst hwd hwc hwb hwa;unfold pV;go_enter Tryz.func51,Tryz.ntmps51
 go_wp2_with fail
 rw[<- hwe];clear hpc hwe;go_loopw [13] (fun iv wr=>∃ (n:Nat) (q:List (FT × FV3)) (pv fv:Value),iv = .int .i64 n/\WalkAt ts T shut p most n/\q.map (·.1)=(walkN ts T shut p n).2/\WlkI w wr (w.heap.size+4) (w.heap.size+5) (.slice ao ts.length c) (walkN ts T shut p n).1 q pv fv) (fun iv _=>N+1-(intOf iv).toNat)
 case atStart=>exact⟨0,[],_,_,rfl,fun m hm=>absurd hm (Nat.not_lt_zero _),rfl,EI.out⟩
 case round =>
  obtain⟨n,q,pv,fv,rfl,hwn,hq,hwk⟩:=hrel;have HWN:=h! hwn;have HQ:=h! hq;have RW:=h! hwk;have HLE:=h! hwn.le;have HFEW:=h! (HIN.out.few n)
  have HQL:=h! (show q.length=n from by
   have:=congrArg List.length hq;rw[List.length_map,walkN_forms]at this;exact this)
  clear hwn hq hwk EI;obtain⟨po,pc,rfl,hpl,hpm,-⟩:=Sl.rows pC_length (by decide) (show Sl _ wr 3 pv ((walkN ts T shut p n).1.flatMap pC)from RW.out.gk.pts.sl);have hgc:=RW.out.gk.box.cells;by_cases hlt:n<(walkN ts T shut p n).1.length
  ·by_cases hmo:((walkN ts T shut p n).1.length:Int)<=most
   ·have HNX:=h! (show WalkAt ts T shut p most (n+1)from fun m hm=>by
     by_cases e:m=n
     ·subst e;exact⟨hlt,hmo⟩
     ·exact HWN.out m (by omega))
    obtain⟨ao',c',he',-,-,hcell⟩:=Sl.rows pC_length (by decide) (show Sl _ wr 3 (.slice po (walkN ts T shut p n).1.length pc) ((walkN ts T shut p n).1.flatMap pC)from RW.out.gk.pts.sl);cases he';obtain⟨b,off,rfl,-,hcell⟩:=hcell (by omega);have hck:=hcell n hlt;clear hcell
    have HN1:=h! (show walkN ts T shut p (n+1)=((stepG ts T shut (walkN ts T shut p n).1[n] (walkN ts T shut p n).1).2,(walkN ts T shut p n).2++[(stepG ts T shut (walkN ts T shut p n).1[n] (walkN ts T shut p n).1).1])from by
     rw[walkN,show(walkN ts T shut p n).1.getD n p=(walkN ts T shut p n).1[n]from by rw[List.getD_eq_getElem?_getD,List.getElem?_eq_getElem hlt];rfl])
    have HXOK:=h! (HIN.out.okp n _ (List.getElem_mem hlt));have HLT:=h! (show n<N from by have:=HFEW.out;omega);have hlt2:(n:Int)<((walkN ts T shut p n).1.length:Int):=by omega
    generalize (walkN ts T shut p n).1[n]=x at *;generalize hwn:walkN ts T shut p n=wn at *;obtain⟨ps,fs⟩:=wn;dsimp only at *;have hmo2:¬ (most<(ps.length:Int)):=by omega
    clear hlt hmo hwn;obtain⟨xt,xi,xr⟩:=x;have c0:wr.cell? ⟨b,off+n*3,none⟩=some (.string xt):=hck 0 _ rfl;have c1:wr.cell? ⟨b,off+n*3+1,none⟩=some (.string xi):=hck 1 _ rfl;have c2:wr.cell? ⟨b,off+n*3+2,none⟩=some (.string xr):=hck 2 _ rfl;clear hck;have X1:=h! (Ext.alloc wr (.cells #[.string xt,.string xi,.string xr] 32));have BX:=h! (Blk.made wr #[.string xt,.string xi,.string xr] 32);have W1:=h! (RW.out.ext X1.out);have hxb:=BX.out.cells;have hsb:=W1.out.sb.cells;have HWI:=h! (show wrap64 ((n:Int)+1)=((n+1:Nat):Int)from by have:=HLT.out;have:=HIN.out.nmax;unfold wrap64;omega);have HZR:=h! (fun g hg=>(RW.out.row.row.block g hg).2);go_wp2_with fail
    clear hxb hsb c0 c1 c2 hlt2 hmo2 hgc;refine(find06_at (S:=(· < w.heap.size)) ts (.slice ao ts.length c) xt xr _ (fun y hy=>by have:=W1.out.lo;omega) (HTY.out _ W1.out.be) HU.out).mono ?_;rintro e w2 ⟨z,rfl,hz,hz1,hz2,hb2⟩;obtain⟨⟨zk,za,zb,zps⟩,zv⟩:=z;dsimp only at hz;obtain⟨zo,zc,rfl,-⟩:=hz.rows;unfold rvV rV;dsimp only[RT.k,RT.a,RT.b,RT.ps]at hz hz1 hz2 ⊢;have X2:=h! (show Ext _ w2 from hb2);have W2:=h! (W1.out.ext X2.out);have BX2:=h! (BX.out.below X2.out);have HZ1:=h! hz1;have HZ2:=h! hz2;have HZ:=h! hz;have HRO:=h! (show ruleOf ts shut ⟨xt,xi,xr⟩=if (⟨xt,xr⟩:R2)∈shut then none else lookA (refsOf ts) ⟨xt,xr⟩from rfl);have Z1:=h! (show wr.heap.size<w2.heap.size from BX2.out.lt);clear hz hz1 hz2 hb2 W1 X1 BX RW;generalize hlk:lookA (refsOf ts) ⟨xt,xr⟩=lk at *;have HLK:=h! hlk;clear hlk;generalize ho0:lk.isSome=o0 at *;have HO0:=h! ho0;clear ho0;have HQM:=h! (fun g hg=>Nat.lt_of_lt_of_le (HZR.out g hg) (Nat.le_of_lt Z1.out));generalize wr.heap.size=xb at *;have X3:=h! (Ext.alloc w2 (.cells #[.int .i64 zk,.string za,.string zb,.slice zo zps.length zc] 106));have BZ:=h! (Blk.made w2 #[.int .i64 zk,.string za,.string zb,.slice zo zps.length zc] 106);have W3:=h! (W2.out.ext X3.out);have BX3:=h! (BX2.out.below X3.out);have HZ3:=h! (HZ.out.same fun y (hy:y<w.heap.size)=>X3.out.block y (by have:=W2.out.lo;omega));clear HZ BX2;go_wp2_with fail
    obtain⟨w3,hw3⟩:∃ y,y=w2.alloc (.cells #[.int .i64 zk,.string za,.string zb,.slice zo zps.length zc] 106):=⟨_,rfl⟩;rw[<- hw3]at X3 BZ W3 BX3 HZ3 ⊢;have HQ3:=h! (fun g hg=>Nat.lt_of_lt_of_le (HQM.out g hg) X3.out.size);clear hw3 HQM HZR hcell;generalize w2.heap.size=zb0 at *;go_loopw [16,53] (fun okv jv wr=>∃ j:Nat,j<=shut.length/\jv = .int .i64 j/\okv = .bool (o0&&!decide ((⟨xt,xr⟩:R2)∈shut.take j))/\Ext w3 wr) (fun _ jv _=>shut.length-(intOf jv).toNat)
    case atStart=>exact⟨0,Nat.zero_le _,rfl,by simp,Ext.refl _⟩
    case' round =>
     obtain⟨j,hj,rfl,rfl,hx⟩:=hrel;have RX:=h! hx;have RB:=h! (BX3.out.below hx);clear hx;by_cases hjl:j<shut.length
     case' pos =>
      obtain⟨ao2,c2,he2,-,-,hcell⟩:=Sl.rows r2C_length (by decide) (HSH.out wr (W3.out.ext RX.out).be);cases he2;obtain⟨b2,off2,rfl,-,hcell⟩:=hcell (by omega);have hck:=hcell j hjl;clear hcell;have HMT:=h! (mem_take_succ hjl (⟨xt,xr⟩:R2));have HJL:=h! hjl;have HWJ:=h! (show wrap64 ((j:Int)+1)=((j+1:Nat):Int)from by have:=HSL.out;unfold wrap64;omega);have hjli:(j:Int)<(shut.length:Int):=by omega
      generalize shut[j]=y at *;generalize hdm:decide ((⟨xt,xr⟩:R2)∈shut.take j)=dm at *;clear hdm hjl;have hne:=fun W=>r2_neq y ⟨xt,xr⟩ W;have HDE:=h! (show decide (y≠(⟨xt,xr⟩:R2))=!decide (y=(⟨xt,xr⟩:R2))from by simp);generalize decide (y≠(⟨xt,xr⟩:R2))=dn at *;obtain⟨yt,yr⟩:=y;unfold r2V at hne;dsimp only at hne;have k0:wr.cell? ⟨b2,off2+j*2,none⟩=some (.string yt):=hck 0 _ rfl;have k1:wr.cell? ⟨b2,off2+j*2+1,none⟩=some (.string yr):=hck 1 _ rfl;clear hck;have X4:=h! (Ext.alloc wr (.cells #[.string yt,.string yr] 121));have hyb:=(Blk.made wr #[.string yt,.string yr] 121).cells;have hxb:=(RB.out.below X4.out).cells;cases hok:(o0&&!dm) with
      | true =>
       have HNEW:=h! (show(o0&&!decide ((⟨xt,xr⟩:R2)∈shut.take (j+1)))=dn from by
        rw[HMT.out,HDE.out,Bool.not_or,<- Bool.and_assoc,hok,Bool.true_and])
       clear hok;go_wp2_with fail
       go_roundw
       case rel=>exact⟨j+1,HJL.out,by first | rw[HWJ.out] | go_num,by rw[HNEW.out],RX.out.trans X4.out⟩
       case measure=>have:=HJL.out;(try rw[HWJ.out]);simp[intOf];omega
      | false =>
       have HNEW:=h! (show(o0&&!decide ((⟨xt,xr⟩:R2)∈shut.take (j+1)))=false from by
        rw[HMT.out,Bool.not_or,<- Bool.and_assoc,hok,Bool.false_and])
       clear hok hne;go_wp2_with fail
       go_roundw
       case rel=>exact⟨j+1,HJL.out,by first | rw[HWJ.out] | go_num,by rw[HNEW.out],RX.out.trans X4.out⟩
       case measure=>have:=HJL.out;(try rw[HWJ.out]);simp[intOf];omega
     case' neg =>
      obtain rfl:j=shut.length:=by omega
      clear hj hjl;rw[List.take_length];have W5:=h! ((W3.out.ext RX.out).ext (Ext.alloc wr (.cells #[.int .i64 0,.slice none 0 0,.slice none 0 0,.slice none 0 0] 128)));have X5:=h! (show Ext w3 (wr.alloc (.cells #[.int .i64 0,.slice none 0 0,.slice none 0 0,.slice none 0 0] 128))from RX.out.trans (Ext.alloc _ _));have B5:=h! (Blk.made wr #[.int .i64 0,.slice none 0 0,.slice none 0 0,.slice none 0 0] 128);have HQ5:=h! (fun g hg=>Nat.lt_of_lt_of_le (HQ3.out g hg) X5.out.size);have hxb:=(RB.out.below (Ext.alloc wr (.cells #[.int .i64 0,.slice none 0 0,.slice none 0 0,.slice none 0 0] 128))).cells;have hzb:=(BZ.out.below X5.out).cells;have HF0:=h! (show w3.heap.size<=wr.heap.size/\wr.heap.size<(wr.alloc (.cells #[.int .i64 0,.slice none 0 0,.slice none 0 0,.slice none 0 0] 128)).heap.size from⟨RX.out.size,B5.out.lt⟩);cases hok:(o0&&!decide ((⟨xt,xr⟩:R2)∈shut))
      case' false =>
       have HRN:=h! (show ruleOf ts shut ⟨xt,xi,xr⟩=none from by
        rw[HRO.out];split
        ·rfl
        ·next hns =>
         rw[decide_eq_false hns]at hok;have h1:=HO0.out;simp only[Bool.not_false,Bool.and_true]at hok;rw[hok]at h1;simpa using h1)
       have FX:=h! (show ∃ (fx:FT) (s1:Option Addr) (s2 s3:Nat) (r1:Option Addr) (r2 r3:Nat) (t1:Option Addr) (t2 t3:Nat) (ps2:List P3) (pv2:Value) (n0:Nat),stepG ts T shut ⟨xt,xi,xr⟩ ps=(fx,ps2)/\WlkI w (wr.alloc (.cells #[.int .i64 0,.slice none 0 0,.slice none 0 0,.slice none 0 0] 128)) (w.heap.size+4) (w.heap.size+5) (.slice ao ts.length c) ps2 q pv2 fv/\Blk (wr.alloc (.cells #[.int .i64 0,.slice none 0 0,.slice none 0 0,.slice none 0 0] 128)) wr.heap.size #[.int .i64 fx.k,.slice s1 s2 s3,.slice r1 r2 r3,.slice t1 t2 t3] 128/\FTAt (FS n0 (wr.alloc (.cells #[.int .i64 0,.slice none 0 0,.slice none 0 0,.slice none 0 0] 128))) (wr.alloc (.cells #[.int .i64 0,.slice none 0 0,.slice none 0 0,.slice none 0 0] 128)) fx (.slice s1 s2 s3,.slice r1 r2 r3,.slice t1 t2 t3)/\w.heap.size+5<=n0/\∀ g,fv.ownBlock=some g->g<n0 from⟨FT.zero,none,0,0,none,0,0,none,0,0,ps,_,_,stepG_none HRN.out,W5.out,B5.out,ft_zero _ _,W5.out.lo.2.2,HQ5.out⟩);clear HRN hok W5 B5 HQ5 W3 RX RB X5 BZ BX3;go_wp2_with fail
       clear hxb hzb;generalize wr.alloc (.cells #[.int .i64 0,.slice none 0 0,.slice none 0 0,.slice none 0 0] 128)=wx at *
      case' true =>
       obtain⟨hk1,hk2⟩:=Bool.and_eq_true_iff.1 hok
       have HRS:=h! (show ruleOf ts shut ⟨xt,xi,xr⟩=some (.mk zk za zb zps)/\(⟨⟨xt,xr⟩,.mk zk za zb zps⟩:R2 × RT)∈refsOf ts from by
        have hns:¬ ((⟨xt,xr⟩:R2)∈shut):=by simpa using hk2
        have h1:=HO0.out;rw[hk1]at h1;obtain⟨r,hr⟩:=Option.isSome_iff_exists.1 h1;have h2:=HZ1.out r hr;rw[HRO.out,if_neg hns,hr,<- h2];exact⟨rfl,look_mem (by rw[HLK.out,hr,<- h2])⟩)
       have HRM:=h! (HIN.out.room _ HRS.out.2);have HFC:=h! (form26_any (w.heap.size+4) w.heap.size (.slice to T.length tc) fv T ⟨xt,xi,xr⟩ w (fun W hW=>HST.out W hW) HIN.out.tlen (by omega) (.mk zk za zb zps) (.slice (some ⟨b,off,none⟩) ps.length pc) (.slice zo zps.length zc) ps _ (HZ3.out.same fun y (hy:y<w.heap.size)=>X5.out.block y (by have:=W3.out.lo;omega)) W5.out.be W5.out.gk (by have h1:=HRM.out;have h2:=HFEW.out;dsimp only at h1;omega));unfold pV rV at HFC;dsimp only[RT.k,RT.a,RT.b,RT.ps]at HFC;clear hok hk1 hk2;go_wp2_with fail
       clear hxb hzb;refine HFC.out.mono ?_;rintro e w6 ⟨⟨v1,v2,v3⟩,pv2,rfl,hat,hgk,hfn⟩;have HSG:=h! (show stepG ts T shut ⟨xt,xi,xr⟩ ps=formD T ⟨xt,xi,xr⟩ (.mk zk za zb zps) ps from stepG_some HRS.out.1);generalize formD T ⟨xt,xi,xr⟩ (.mk zk za zb zps) ps=fd at *;obtain⟨fx,ps2⟩:=fd;unfold fV;dsimp only at hat hgk ⊢;obtain⟨u1,u2,-⟩:=(FTAt.iff _ _).1 hat;obtain⟨s1,s2,s3,rfl,-,-,-⟩:=u1.len;obtain⟨r1,r2,r3,rfl,-,-,-⟩:=u2.len;obtain⟨t1,t3,rfl,-⟩:=hat.rows;have B6:=h! (hfn.gblk W5.out.gk B5.out (by decide) (by decide));have FN:=h! (((((Fine.trans (Fine.of _ _ _ (Ext.alloc wr (.cells #[.int .i64 0,.slice none 0 0,.slice none 0 0,.slice none 0 0] 128))) hfn).set (x:=wr.heap.size) (i:=0) (Nat.le_refl _) (.int .i64 fx.k)).set (x:=wr.heap.size) (i:=1) (Nat.le_refl _) (.slice s1 s2 s3)).set (x:=wr.heap.size) (i:=2) (Nat.le_refl _) (.slice r1 r2 r3)).set (x:=wr.heap.size) (i:=3) (Nat.le_refl _) (.slice t1 fx.ps.length t3));have BP:=h! (B6.out.put4 (.int .i64 fx.k) (.slice s1 s2 s3) (.slice r1 r2 r3) (.slice t1 fx.ps.length t3));have GP:=h! ((((hgk.setBox (i:=0) B6.out (by decide) (by decide) (.int .i64 fx.k)).setBox (i:=1) (show Blk _ wr.heap.size _ _ from B6.out.set 0 (.int .i64 fx.k)) (by decide) (by decide) (.slice s1 s2 s3)).setBox (i:=2) (show Blk _ wr.heap.size _ _ from(B6.out.set 0 (.int .i64 fx.k)).set 1 (.slice s1 s2 s3)) (by decide) (by decide) (.slice r1 r2 r3)).setBox (i:=3) (show Blk _ wr.heap.size _ _ from((B6.out.set 0 (.int .i64 fx.k)).set 1 (.slice s1 s2 s3)).set 2 (.slice r1 r2 r3)) (by decide) (by decide) (.slice t1 fx.ps.length t3));obtain⟨wx,hwx⟩:∃ y,y=(((w6.setCell ⟨wr.heap.size,0,none⟩ (.int .i64 fx.k)).setCell ⟨wr.heap.size,1,none⟩ (.slice s1 s2 s3)).setCell ⟨wr.heap.size,2,none⟩ (.slice r1 r2 r3)).setCell ⟨wr.heap.size,3,none⟩ (.slice t1 fx.ps.length t3):=⟨_,rfl⟩;have HX6:=h! (show ∀ y,y≠wr.heap.size->wx.heap[y]?=w6.heap[y]? from fun y hy=>by rw[hwx,Below.heap_setCell _ _ _ y hy,Below.heap_setCell _ _ _ y hy,Below.heap_setCell _ _ _ y hy,Below.heap_setCell _ _ _ y hy]);have HX7:=h! (show wx.heap.size=w6.heap.size from by rw[hwx];simp);rw[<- hwx]at FN BP GP;have FX:=h! (show ∃ (fx:FT) (s1:Option Addr) (s2 s3:Nat) (r1:Option Addr) (r2 r3:Nat) (t1:Option Addr) (t2 t3:Nat) (ps2:List P3) (pv2:Value) (n0:Nat),stepG ts T shut ⟨xt,xi,xr⟩ ps=(fx,ps2)/\WlkI w wx (w.heap.size+4) (w.heap.size+5) (.slice ao ts.length c) ps2 q pv2 fv/\Blk wx wr.heap.size #[.int .i64 fx.k,.slice s1 s2 s3,.slice r1 r2 r3,.slice t1 t2 t3] 128/\FTAt (FS n0 wx) wx fx (.slice s1 s2 s3,.slice r1 r2 r3,.slice t1 t2 t3)/\w.heap.size+5<=n0/\∀ g,fv.ownBlock=some g->g<n0 from⟨fx,s1,s2,s3,r1,r2,r3,t1,fx.ps.length,t3,ps2,pv2,_,HSG.out,(W3.out.ext RX.out).num FN.out GP.out,BP.out,(hat.same fun y hy=>HX6.out y (by have:=hy.1;have:=HF0.out;omega)).mono fun y hy=>⟨hy.1,by rw[HX7.out];exact hy.2.1,fun cs=>by rw[HX6.out y (by have:=hy.1;have:=HF0.out;omega)];exact hy.2.2 cs⟩,W5.out.lo.2.2,HQ5.out⟩);have hbf:=B6.out.cells;have hbz:=B6.out.free;clear HFC hat hgk hfn u1 u2 HSG HRM HRS B6 FN BP GP HX6 HX7 W5 B5 HQ5 W3 RX RB X5 BZ BX3;go_wp2_with fail
       rw[<- hwx];clear hbf hbz hwx
      all_goals
       obtain⟨fx,s1,s2,s3,r1,r2,r3,t1,t2,t3,ps2,pv2,n0,hsg,hw,hbf,hat,hn0,hfv⟩:=FX.out;have TST:=h! hsg;have QN:=h! hn0;have QV:=h! hfv;obtain⟨wq,hwq⟩:∃ y:World,y=World.drew wx:=⟨_,rfl⟩;have QX:Ext wx wq:=by rw[hwq];exact Ext.drew _
       have QW:=h! (hw.ext QX);have QB:=h! (hbf.below QX);have QA:=h! ((hat.same fun y hy=>QX.block y hy.2.1).mono (S':=FS n0 wq) fun y hy=>hy.ext QX);obtain⟨qo,qn,qc,rfl,hqn,-,-⟩:=QW.out.row.row.sl.len;obtain rfl:qn=n:=by rw[fCs_length]at hqn;have:=HQL.out;omega
       have HF9:=h! HF0.out;refine region_walkS (fun j=>decide (6<=j)) (fun W=>Blk W (w.heap.size+4) #[pv2,.slice qo qn qc] 96/\Blk W wr.heap.size #[.int .i64 fx.k,.slice s1 s2 s3,.slice r1 r2 r3,.slice t1 t2 t3] 128) (by rw[<- hwq];exact⟨QW.out.gk.box,QB.out⟩) (by kernel_rfl) (by kernel_rfl) (fun _ _ d _ _ h=>by cases d <;> exact h) ?_;rw[<- hwq];clear hwq hsg hw hbf hat hn0 hfv FX QX hqn HF0;generalize wr.heap.size=f0 at *;have h1:=fun W (h:Blk W (w.heap.size+4) #[pv2,.slice qo qn qc] 96/\Blk W f0 #[.int .i64 fx.k,.slice s1 s2 s3,.slice r1 r2 r3,.slice t1 t2 t3] 128)=>h.1.cells;have h2:=fun W (h:Blk W (w.heap.size+4) #[pv2,.slice qo qn qc] 96/\Blk W f0 #[.int .i64 fx.k,.slice s1 s2 s3,.slice r1 r2 r3,.slice t1 t2 t3] 128)=>h.2.cells;(refine WalkS.tk [0,1,2,3] ?_;(iterate 4 (refine z! ?_));refine TkS.n ?_)
       clear h1 h2;have hx3:=Ext.alloc wq (.cells #[.int .i64 0,.slice none 0 0,.slice none 0 0,.slice none 0 0] 128);refine oS! 4 ?_;refine b! ?_;intro K hK;go_simp;refine hK.out _ _ ⟨QW.out.gk.box.below hx3,QB.out.below hx3⟩ ?_;clear hK;have HII:=h! (show qn<=1073741823 from by have h1:=HLT.out;have h2:=HIN.out.nmax;omega);refine oS! 5 ?_;refine b! ?_;intro K hK;refine wp_ownw formsT (.tmp 76) (.tmp 79) rfl rfl (QW.out.row.row.below hx3) (m:=1) (news:=[.int .i64 0,.slice none 0 0,.slice none 0 0,.slice none 0 0]) rfl rfl (fun j u hu=>?_) (by simp[Value.oneCell']) (by have:=HQL.out;have:=HII.out;rw[fCs_length];simp;omega) (by have:=HQL.out;have:=HII.out;rw[fCs_length];simp;omega) (by have:=QW.out.lo;simp;omega) (fun v6 w6 hown6 hb6 hg6=>?_)
       ·rw[Addr.add_lit,cell_of_row _ wq.heap.size (0+j) #[.int .i64 0,.slice none 0 0,.slice none 0 0,.slice none 0 0] 128 (0,0) (heap_alloc_new wq _),Nat.zero_add];simpa using hu
       obtain⟨g,n6,c6,rfl⟩:∃ g n c,v6 = .slice (some ⟨g,0,none⟩) n c:=by
        rcases hown6.shape with⟨_,h⟩ | h
        ·simp at h
        ·exact h
       obtain rfl:n6=qn+1:=by
        obtain⟨a,b,c,h1,h2,-,-⟩:=hown6.sl.len;cases h1;rw[List.length_append,fCs_length,HQL.out]at h2;simp at h2;omega
       have nfv:∀ y,y<w.heap.size+5->(Value.slice qo qn qc).ownBlock≠some y:=fun y hy e=>by have:=(QW.out.row.row.block y e).1;omega
       have B6:=h! (show Blk w6 (w.heap.size+4) _ _ from(hg6.block _ (QW.out.gk.box.below hx3).lt fun e=>nfv _ (by omega) e.symm).trans (QW.out.gk.box.below hx3));obtain⟨cur,hcur⟩:=hown6.typed (g:=g) rfl;have HG6:=h! (show Blk w6 g cur 128 from hcur)
       have HGW:=h! (show g≠w.heap.size+4 from fun e=>by
        have h1:w6.heap[w.heap.size+4]?=_:=B6.out;rw[<- e,hcur]at h1;injection h1 with h1
        injection h1 with _ h1 _
        exact absurd h1 (by decide))
       have HO6:=h! hown6;have HB6:=h! hb6;have HS6:=h! hg6;have HX3:=h! hx3;have F6:=h! (show Blk w6 f0 _ _ from(hg6.block _ (QB.out.below hx3).lt fun e=>by have h1:=(QW.out.row.row.block _ e.symm).2;have h2:=HQ3.out _ e.symm;have h3:=HF9.out.1;omega).trans (QB.out.below hx3));refine hK.out _ _ ⟨B6.out,F6.out⟩ ?_;clear hK hx3 hown6 hb6 hg6 hcur nfv;simp only[Act.put,pA,pZ,pS];have hi6:(qn:Int)<(qn:Int)+1:=by omega
       refine WalkS.rest (by kernel_rfl) ?_;(refine WalkN.tk [6,8] ?_;(iterate 2 (refine c! ?_));refine TkN.n ?_)
       refine p! 7 9 ?_ ?_
       ·refine b! ?_;intro K hK;have hgf:=HG6.out.free;obtain⟨k0,k1,k2,k3⟩:=four_cells HO6.out (k:=qn*4) (by rw[fCs_length,HQL.out]);go_simp;clear hgf k0 k1 k2 k3;refine hK.out _ _ trivial ?_;clear hK;have HO7:=h! (Own.setForm (p := .int .i64 0) HO6.out (k:=qn*4) (by rw[fCs_length,HQL.out]) (.int .i64 fx.k) (.slice s1 s2 s3) (.slice r1 r2 r3) (.slice t1 t2 t3));have B7:=h! (show Blk (World.setForm w6 g (qn*4) (.int .i64 fx.k) (.slice s1 s2 s3) (.slice r1 r2 r3) (.slice t1 t2 t3)) (w.heap.size+4) _ _ from(setForm_other _ _ _ _ _ _ _ (Ne.symm HGW.out)).trans B6.out);have hbf:∀ j,(World.setForm w6 g (qn*4) (.int .i64 fx.k) (.slice s1 s2 s3) (.slice r1 r2 r3) (.slice t1 t2 t3)).frozen? ⟨w.heap.size+4,j,none⟩=false:=B7.out.free;have hbc:=B7.out.cells;unfold World.setForm at hbf hbc;refine o! 9 ?_;refine b! ?_;intro K hK;go_simp;refine hK.out _ _ trivial ?_;clear hK hbf hbc;refine d! ?_;have ES:=h! (QW.out.step (w8:=(World.setForm w6 g (qn*4) (.int .i64 fx.k) (.slice s1 s2 s3) (.slice r1 r2 r3) (.slice t1 t2 t3)).setCell ⟨w.heap.size+4,1,none⟩ (.slice (some ⟨g,0,none⟩) (qn+1) c6)) (v:=(.slice s1 s2 s3,.slice r1 r2 r3,.slice t1 t2 t3)) QA.out QN.out QV.out HX3.out HS6.out HB6.out (Own.setBox HO7.out B7.out (by decide) _) (B7.out.set_to 1 _ rfl) (fun y h1 h2=>(Below.heap_setCell _ _ _ y h2).trans (setForm_other _ _ _ _ _ _ _ h1)) (by rw[show ∀ (x:World) a v,(x.setCell a v).heap.size=x.heap.size from fun x a v=>by simp,setForm_size]) ⟨rfl,rfl,rfl⟩);unfold World.setForm at ES;clear HO7 B7 B6 F6 HG6 HGW HO6 HB6 HS6 HX3 QW QB QA QN QV;go_wp2_with fail
        go_roundw
        case rel=>exact⟨qn+1,q++[(fx,(.slice s1 s2 s3,.slice r1 r2 r3,.slice t1 t2 t3))],pv2,.slice (some ⟨g,0,none⟩) (qn+1) c6,by first | rw[HWI.out] | go_num,HNX.out,by rw[HN1.out,TST.out,List.map_append,HQ.out];rfl,by rw[HN1.out,TST.out];exact ES.out⟩
        case measure=>have h1:=HLT.out;(try rw[HWI.out]);simp[intOf];omega
       ·refine b! ?_;intro K hK;have hbf:=B6.out.free;have hbc:=B6.out.cells;go_simp;clear hbf hbc;refine hK.out _ _ trivial ?_;clear hK;have B7:=h! (B6.out.set_to (cs':=#[pv2,.slice (some ⟨g,0,none⟩) (qn+1) c6]) 1 (.slice (some ⟨g,0,none⟩) (qn+1) c6) rfl);have HO7:=h! (Own.setBox (i:=1) HO6.out B6.out (by decide) (.slice (some ⟨g,0,none⟩) (qn+1) c6));have HG7:=h! (HG6.out.other (a:=⟨w.heap.size+4,1,none⟩) HGW.out (.slice (some ⟨g,0,none⟩) (qn+1) c6));have hgf:=HG7.out.free;obtain⟨k0,k1,k2,k3⟩:=four_cells HO7.out (k:=qn*4) (by rw[fCs_length,HQL.out]);refine o! 7 ?_;refine b! ?_;intro K hK;go_simp;refine hK.out _ _ trivial ?_;clear hK hgf k0 k1 k2 k3;refine d! ?_;have ES:=h! (QW.out.step (w8:=World.setForm (w6.setCell ⟨w.heap.size+4,1,none⟩ (.slice (some ⟨g,0,none⟩) (qn+1) c6)) g (qn*4) (.int .i64 fx.k) (.slice s1 s2 s3) (.slice r1 r2 r3) (.slice t1 t2 t3)) (v:=(.slice s1 s2 s3,.slice r1 r2 r3,.slice t1 t2 t3)) QA.out QN.out QV.out HX3.out HS6.out HB6.out (Own.setForm HO7.out (k:=qn*4) (by rw[fCs_length,HQL.out]) _ _ _ _) ((setForm_other _ _ _ _ _ _ _ (Ne.symm HGW.out)).trans B7.out) (fun y h1 h2=>(setForm_other _ _ _ _ _ _ _ h1).trans (Below.heap_setCell _ _ _ y h2)) (by rw[setForm_size];simp) ⟨rfl,rfl,rfl⟩);unfold World.setForm at ES;clear HO7 B7 HG7 B6 F6 HG6 HGW HO6 HB6 HS6 HX3 QW QB QA QN QV;go_wp2_with fail
        go_roundw
        case rel=>exact⟨qn+1,q++[(fx,(.slice s1 s2 s3,.slice r1 r2 r3,.slice t1 t2 t3))],pv2,.slice (some ⟨g,0,none⟩) (qn+1) c6,by first | rw[HWI.out] | go_num,HNX.out,by rw[HN1.out,TST.out,List.map_append,HQ.out];rfl,by rw[HN1.out,TST.out];exact ES.out⟩
        case measure=>have h1:=HLT.out;(try rw[HWI.out]);simp[intOf];omega
   ·have hmo2:most<((walkN ts T shut p n).1.length:Int):=by omega
    have HLG:=h! (show WalkLong ts T shut p most from⟨n,HWN.out,hlt,hmo2⟩);have hlt2:(n:Int)<((walkN ts T shut p n).1.length:Int):=by omega
    clear hlt hmo;have hob:=RW.out.ob.cells;have hoz:=RW.out.ob.free;go_wp2_with fail
    clear hob hoz hgc;have HZ:=RW.out.ob.set2 (.slice none 0 0) (.slice none 0 0);refine bodyPost_ret (v := .tuple #[.agg #[.slice none 0 0,.slice none 0 0],.bool false]) ?_ rfl ⟨Below.setCell (Below.setCell RW.out.be (by show w.heap.size<=w.heap.size+2;omega) _) (by show w.heap.size<=w.heap.size+2;omega) _,.inr ⟨HLG.out,rfl⟩⟩;rw[results_cell_tmp rfl];have hl:=run_loadVar_row (P:=Tryz.prog) _ (w.heap.size+2) _ 96 _ _ _ HZ Tryz.underlying96 rfl (by kernel_rfl);simp[asAddr,hl,Result.andThen]
  ·have HEN:=h! (show WalkEnd ts T shut p most n from⟨HWN.out,by have:=HLE.out;omega⟩);have hlt2:¬ ((n:Int)<((walkN ts T shut p n).1.length:Int)):=by omega
   obtain⟨fo,fn,fc,rfl,-,-,-⟩:=RW.out.row.row.sl.len;have hgc:=RW.out.gk.box.cells;have hob:=RW.out.ob.cells;have hoz:=RW.out.ob.free;clear hlt;go_wp2_with fail
   clear hob hoz hgc hlt2;have HZ:=RW.out.ob.set2 (.slice po (walkN ts T shut p n).1.length pc) (.slice fo fn fc);have hsm:∀ y,y≠w.heap.size+2->((wr.setCell ⟨w.heap.size+2,0,none⟩ (.slice po (walkN ts T shut p n).1.length pc)).setCell ⟨w.heap.size+2,1,none⟩ (.slice fo fn fc)).heap[y]?=wr.heap[y]?:=fun y hy=>by rw[Below.heap_setCell _ _ _ y hy,Below.heap_setCell _ _ _ y hy]
   have hsz:((wr.setCell ⟨w.heap.size+2,0,none⟩ (.slice po (walkN ts T shut p n).1.length pc)).setCell ⟨w.heap.size+2,1,none⟩ (.slice fo fn fc)).heap.size=wr.heap.size:=by simp
   obtain⟨q2,hq2,hq3,hq4⟩:=RW.out.row.forms;have hS:Same (FS (w.heap.size+5) wr) wr ((wr.setCell ⟨w.heap.size+2,0,none⟩ (.slice po (walkN ts T shut p n).1.length pc)).setCell ⟨w.heap.size+2,1,none⟩ (.slice fo fn fc)):=fun y hy=>hsm y (by have:=hy.1;omega);have hM:∀ y,FS (w.heap.size+5) wr y->w.heap.size<=y/\y<((wr.setCell ⟨w.heap.size+2,0,none⟩ (.slice po (walkN ts T shut p n).1.length pc)).setCell ⟨w.heap.size+2,1,none⟩ (.slice fo fn fc)).heap.size:=fun y hy=>⟨by have:=hy.1;omega,by rw[hsz];exact hy.2.1⟩;refine bodyPost_ret (v := .tuple #[.agg #[.slice po (walkN ts T shut p n).1.length pc,.slice fo fn fc],.bool true]) ?_ rfl ⟨Below.setCell (Below.setCell RW.out.be (by show w.heap.size<=w.heap.size+2;omega) _) (by show w.heap.size<=w.heap.size+2;omega) _,.inl ⟨n,_,_,HEN.out,rfl,?_,q2,hq2.trans HQ.out,fun x hx=>((hq3 x hx).same hS).mono hM,(hq4.same hS).mono hM⟩⟩
   ·rw[results_cell_tmp rfl];have hl:=run_loadVar_row (P:=Tryz.prog) _ (w.heap.size+2) _ 96 _ _ _ HZ Tryz.underlying96 rfl (by kernel_rfl);simp[asAddr,hl,Result.andThen]
   ·exact(RW.out.gk.pts.keepOwn fun g hg=>hsm g fun e=>by
     obtain⟨c2,h2⟩:=RW.out.gk.pts.typed hg;rw[e,show wr.heap[w.heap.size+2]?=_ from RW.out.ob]at h2;injection h2 with h2
     injection h2 with _ h2 _
     exact absurd h2 (by decide)).sl
theorem FTAt.shape {S:Nat->Prop} {w:World} {r:FT} {v:FV3} (h:FTAt S w r v):∃ a1 c1 a2 c2 a4 c4,v=(.slice a1 r.subs.length c1,.slice a2 r.refs.length c2,.slice a4 r.ps.length c4):=by
 obtain⟨v1,v2,v4⟩:=v;obtain⟨h1,h2,-⟩:=(FTAt.iff _ _).1 h;obtain⟨a1,c1,e1,-⟩:=Sl.rows pC_length (by decide) (show Sl S w 3 v1 (r.subs.flatMap pC)from h1);obtain⟨a2,n2,c2,e2,hn,-,-⟩:=h2.len;obtain⟨a4,c4,e4,-⟩:=h.rows;rw[ic_length,Nat.mul_one]at hn;dsimp only at e1 e2 e4;subst e1 e2 e4;rw[<- hn];exact⟨_,_,_,_,_,_,rfl⟩
theorem Sl.int_at {S:Nat->Prop} {w:World} {a:Option Addr} {n c:Nat} {l:List Int} (h:Sl S w 1 (.slice a n c) (ic l)) {i:Nat} (hi:i<l.length):∃ b off,a=some ⟨b,off,none⟩/\S b/\w.cell? ⟨b,off+i,none⟩=some (.int .i64 l[i]):=by
 obtain⟨a1,n1,c1,hv,-,-,-,-,hcell⟩:=h;cases hv;obtain⟨b,off,rfl,hb,hcell⟩:=hcell (by intro h;have:=congrArg List.length h;rw[ic_length,List.length_nil]at this;omega);exact⟨b,off,rfl,hb,hcell i _ (by simp[ic,List.getElem?_eq_getElem hi])⟩
theorem NtAt.shape {S:Nat->Prop} {w:World} {r:NT} {v:NV2} (h:NtAt S w r v):∃ a1 c1 a4 c4,v=(.slice a1 r.subs.length c1,.slice a4 r.ps.length c4):=by
 obtain⟨v1,v4⟩:=v;obtain⟨h1,-⟩:=(NtAt.iff _ _).1 h;obtain⟨a1,c1,e1,-⟩:=Sl.rows pC_length (by decide) (show Sl S w 3 v1 (r.subs.flatMap pC)from h1);obtain⟨a4,c4,e4,-⟩:=h.rows;dsimp only at e1 e4;subst e1 e4;exact⟨_,_,_,_,rfl⟩
end Go.Proofs.YtlhaghoajpglaaaGreat
namespace Go.Proofs.YtlhaghoajpglaaaGreat
open Go Go.RowKit
def boC (l:List Bool):List Value:=l.map .bool
theorem boC_length (l:List Bool):(boC l).length=l.length:=by simp[boC]
structure InvR (fs:List FT)(s:P3)(n r:Nat)(F:List Int)(j:Nat)(L:List Bool)(R:List Int):Prop where
 lenL:L.length=n
 lenR:R.length=n
 inn:∀ i,i<n->L.getD i false=((inN fs s n r).getD i false||decide ((i:Int)∈F.take j))
 out:∀ i,i<n->R.getD i 0=if (i:Int)∈F.take j then((r+1:Nat):Int)else(outN fs s n r).getD i 0
section
variable {fs : List FT} {s : P3} {n r j : Nat} {F : List Int} {L : List Bool} {R : List Int}
theorem InvR.start (fs:List FT)(s:P3)(n r:Nat)(F:List Int):InvR fs s n r F 0 (inN fs s n r) (outN fs s n r) where
 lenL:=inN_length r
 lenR:=outN_length r
 inn i _:=by simp
 out i _:=by simp
theorem getD_set {α:Type} (l:List α)(i j:Nat)(x d:α):(l.set j x).getD i d=if i=j/\j<l.length then x else l.getD i d:=by
 rw[List.getD_eq_getElem?_getD,List.getElem?_set,List.getD_eq_getElem?_getD];by_cases h:j=i
 ·subst h;rw[if_pos rfl];split
  ·next h=>rw[if_pos ⟨rfl,h⟩];rfl
  ·next h=>rw[if_neg fun e=>h e.2,List.getElem?_eq_none (by omega)]
 ·rw[if_neg h,if_neg fun e=>h e.1.symm]
theorem InvR.step (h:InvR fs s n r F j L R)(hj:j<F.length)(h0:0<=F[j])(hn:F[j]<(n:Int)):InvR fs s n r F (j+1) (L.set F[j].toNat true) (R.set F[j].toNat ((r+1:Nat):Int)):=by
 have ht:∀ x,x∈F.take (j+1)↔x∈F.take j\/x=F[j]:=fun x=>by rw[List.take_succ_eq_append_getElem hj,List.mem_append,List.mem_singleton]
 have hlt:F[j].toNat<n:=by omega
 refine⟨by rw[List.length_set,h.lenL],by rw[List.length_set,h.lenR],fun i hi=>?_,fun i hi=>?_⟩
 ·rw[getD_set,h.lenL];by_cases e:i=F[j].toNat
  ·have:(i:Int)∈F.take (j+1):=(ht _).2 (.inr (by omega));rw[if_pos ⟨e,hlt⟩,decide_eq_true this,Bool.or_true]
  ·rw[if_neg fun h=>e h.1,h.inn i hi];congr 1
   have:¬ (i:Int)=F[j]:=by omega
   rw[decide_eq_decide,ht];simp only[this,or_false]
 ·rw[getD_set,h.lenR];by_cases e:i=F[j].toNat
  ·rw[if_pos ⟨e,hlt⟩,if_pos ((ht _).2 (.inr (by omega)))]
  ·rw[if_neg fun h=>e h.1,h.out i hi];have:¬ (i:Int)=F[j]:=by omega
   have e2:(i:Int)∈F.take (j+1)↔(i:Int)∈F.take j:=by rw[ht];simp only[this,or_false]
   simp only[e2]
theorem InvR.done (h:InvR fs s n r F F.length L R)(hF:∀ i:Nat,i<n->((i:Int)∈F↔newS fs s (inN fs s n r) i=true)):L=inN fs s n (r+1)/\R=outN fs s n (r+1):=by
 constructor
 ·refine ext_bool (by rw[h.lenL,inN_length]) fun i hi=>?_;rw[h.lenL]at hi;rw[h.inn i hi,inN_succ hi,List.take_length];congr 1
  rw[Bool.eq_iff_iff,decide_eq_true_eq];exact hF i hi
 ·refine ext_int (by rw[h.lenR,outN_length]) fun i hi=>?_;rw[h.lenR]at hi;rw[h.out i hi,outN_succ hi,List.take_length];by_cases e:newS fs s (inN fs s n r) i=true
  ·rw[if_pos ((hF i hi).2 e),if_pos e]
  ·rw[if_neg fun hm=>e ((hF i hi).1 hm),if_neg e]
theorem endS_of (hF:∀ i:Nat,i<n->newS fs s (inN fs s n r) i=false):outN fs s n r=solveR fs s n:=EndS.solve hF
theorem cnt_step {i:Nat} (hi:i<n)(h:newS fs s (inN fs s n r) i=true):cntT (inN fs s n r)<cntT (inN fs s n (r+1)) :=
 cntT_lt (by rw[inN_length,inN_length]) (fun j hj e=>inN_mono1 r (by rwa[inN_length]at hj) e)
  ⟨i,by rw[inN_length];exact hi,by rw[<- getD_ft (by rw[inN_length];exact hi)];exact newS_not h,by rw[inN_succ hi,h,Bool.or_true]⟩
theorem cnt_max (fs:List FT)(s:P3)(n r:Nat):cntT (inN fs s n r)<=n:=by
 have:=cntT_le (inN fs s n r);rwa[inN_length]at this
end
end Go.Proofs.YtlhaghoajpglaaaGreat
namespace Go.Proofs.YtlhaghoajpglaaaGreat
open Go Go.RowKit Go.Maps
theorem bools_at {S:Nat->Prop} {w:World} {v:Value} {l:List Bool} (h:Sl S w 1 v (boC l)):∃ ao c,v = .slice ao l.length c/\l.length<=c/\c<=9223372036854775807/\∀ i (hi:i<l.length),∃ b off,ao=some ⟨b,off,none⟩/\S b/\w.cell? ⟨b,off+i,none⟩=some (.bool l[i]):=by
 obtain⟨ao,n,c,rfl,h1,h2,h3,h4,h5⟩:=h;rw[boC_length,Nat.mul_one]at h1;subst h1;refine⟨ao,c,rfl,h2,by have e:maxLen=9223372036854775807:=rfl;omega,fun i hi=>?_⟩;obtain⟨b,off,rfl,hb,hc⟩:=h5 (fun e=>by have:=congrArg List.length e;rw[boC_length]at this;simp only[List.length_nil]at this;omega);exact⟨b,off,rfl,hb,hc i _ (by simp[boC,hi])⟩
theorem any_take {α:Type} (f:α->Bool) {l:List α} {i:Nat} (h:i<l.length):(l.take (i+1)).any f=((l.take i).any f||f l[i]):=by
 rw[List.take_succ_eq_append_getElem h,List.any_append];simp
def cntH (f:FT->Bool)(l:List FT):Nat:=(l.filter f).length
theorem cntH_take (f:FT->Bool) {l:List FT} {i:Nat} (h:i<l.length):cntH f (l.take (i+1))=cntH f (l.take i)+if f l[i]=true then 1 else 0:=by
 unfold cntH;rw[List.take_succ_eq_append_getElem h,List.filter_append,List.length_append];by_cases e:f l[i]=true <;> simp[e]
theorem cntH_le (f:FT->Bool)(l:List FT):cntH f l<=l.length:=List.length_filter_le _ _
theorem cntH_any (f:FT->Bool)(l:List FT):l.any f=decide (0<cntH f l):=by
 rw[Bool.eq_iff_iff,List.any_eq_true,decide_eq_true_eq];unfold cntH;rw[List.length_pos_iff_exists_mem];simp only[List.mem_filter]
theorem cntH_all (f:FT->Bool)(l:List FT):l.all f=decide (cntH f l=l.length):=by
 rw[Bool.eq_iff_iff,List.all_eq_true,decide_eq_true_eq];unfold cntH;rw[List.length_filter_eq_length_iff]
theorem hold27_any (s:P3)(bs:List Bool)(r:FT):∀ (iv:Value)(v:FV3)(w:World),FTAt (· < w.heap.size) w r v->Sl (· < w.heap.size) w 1 iv (boC bs) ->
  Calls Tryz.prog 142 #[fV r v,pV s,iv] w fun e w'=>e = .returned (.bool (holdF s bs r))/\Ext w w':=by
 induction r using FT.ind with
 | h r ih =>
 intro iv v w h hi;obtain⟨a1,c1,a2,c2,a4,c4,rfl⟩:=h.shape;obtain⟨ai,ci,rfl,hbl,hbm,-⟩:=bools_at hi;obtain⟨k,subs,refs,parts⟩:=r;have HIH:=h! ih;have H1:=h! h;have H2:=h! hi;have HBL:=h! (And.intro hbl hbm);clear ih h hi hbl hbm;unfold fV pV;dsimp only[FT.k,FT.subs,FT.refs,FT.ps]at HIH H1 ⊢;obtain⟨wa,hwa⟩:∃ x,x=w.alloc (.cells #[.int .i64 k,.slice a1 subs.length c1,.slice a2 refs.length c2,.slice a4 parts.length c4] 128):=⟨_,rfl⟩;obtain⟨wb,hwb⟩:∃ x,x=wa.alloc (.cells #[.string s.t,.string s.i,.string s.r] 33):=⟨_,rfl⟩;have ea:wa.heap.size=w.heap.size+1:=by rw[hwa];simp
 have xa:Ext w wa:=by rw[hwa];exact Ext.alloc _ _
 have xb:Ext wa wb:=by rw[hwb];exact Ext.alloc _ _
 have XB:=h! (xa.trans xb);have BA:=h! (show Blk wb w.heap.size #[.int .i64 k,.slice a1 subs.length c1,.slice a2 refs.length c2,.slice a4 parts.length c4] 128 from Blk.below (by rw[hwa];exact Blk.made _ _ _) xb);have BB:=h! (show Blk wb (w.heap.size+1) #[.string s.t,.string s.i,.string s.r] 33 from by rw[hwb,<- ea];exact Blk.made _ _ _);have F1:=h! (fun W (hW:Ext w W)=>(FTAt.iff _ _).1 (H1.out.up hW));have FI:=h! (fun W (hW:Ext w W)=>show Sl (· < W.heap.size) W 1 (.slice ai bs.length ci) (boC bs)from(H2.out.same (Same.below hW)).mono fun _ h=>Nat.lt_of_lt_of_le h hW.size);clear ea xa xb H2;subst hwb hwa;have hA:=BA.out.cells;go_enter Tryz.func142,Tryz.ntmps142
 go_wp2_with fail
 clear hA;obtain⟨w2,hw2⟩:∃ x,x=(w.alloc (.cells #[.int .i64 k,.slice a1 subs.length c1,.slice a2 refs.length c2,.slice a4 parts.length c4] 128)).alloc (.cells #[.string s.t,.string s.i,.string s.r] 33):=⟨_,rfl⟩;rw[<- hw2]at BA BB XB ⊢;clear hw2;go_loopw [7,18] (fun bv iv wr=>∃ i:Nat,i<=refs.length/\iv = .int .i64 i/\bv = .bool ((refs.take i).any (inAt bs))/\Ext w2 wr) (fun _ iv _=>refs.length-(intOf iv).toNat)
 case atStart=>exact⟨0,Nat.zero_le _,rfl,rfl,Ext.refl _⟩
 case round =>
  obtain⟨i,hi,rfl,rfl,hx⟩:=hrel;have RX:=h! hx;clear hx;by_cases hlt:i<refs.length
  ·have HLT:=h! hlt;have HNX:=h! (any_take (inAt bs) hlt);obtain⟨p1,q1,rfl,hp1,hc0⟩:=Sl.int_at (F1.out wr (XB.out.trans RX.out)).2.1 hlt;dsimp only[FT.refs]at hc0;have hli:(i:Int)<(refs.length:Int):=by omega
   have HWI:=h! (show wrap64 ((i:Int)+1)=((i+1:Nat):Int)from by
    obtain⟨_,n,c,he,h1,h2,h3⟩:=(F1.out wr (XB.out.trans RX.out)).2.1.len;cases he;unfold wrap64;omega)
   have HBA:=h! (show ∀ j (hj:j<bs.length),∃ b off,ai=some ⟨b,off,none⟩/\wr.cell? ⟨b,off+j,none⟩=some (.bool bs[j])from fun j hj=>by
    obtain⟨ao,c,he,-,-,hc⟩:=bools_at (FI.out wr (XB.out.trans RX.out));obtain⟨b,off,rfl,-,hc⟩:=hc j hj;cases he;exact⟨b,off,rfl,hc⟩)
   generalize refs[i]=x at *;cases hb:(refs.take i).any (inAt bs) with
   | true =>
    have HB:=h! hb;clear hlt hp1 hb;go_wp2_with fail
    go_roundw
    case rel=>exact⟨i+1,HLT.out,by first | rw[HWI.out] | go_num,by rw[HNX.out,HB.out];rfl,RX.out⟩
    case measure=>have:=HLT.out;(try rw[HWI.out]);simp[intOf];omega
   | false =>
    have HB:=h! hb;clear hlt hp1 hb;by_cases h0:0<=x
    ·obtain⟨m,rfl⟩:=Int.eq_ofNat_of_zero_le h0;by_cases hm:m<bs.length
     ·obtain⟨bb,bo,rfl,hc1⟩:=HBA.out m hm
      have HV:=h! (show inAt bs (m:Int)=bs[m]from by
       unfold inAt;rw[Int.toNat_natCast,List.getD_eq_getElem?_getD,List.getElem?_eq_getElem hm];simp)
      have hmi:(m:Int)<(bs.length:Int):=by omega
      generalize bs[m]=y at *;clear hm HBA;cases y
      all_goals
       go_wp2_with fail
       go_roundw
       case rel=>exact⟨i+1,HLT.out,by first | rw[HWI.out] | go_num,by rw[HNX.out,HB.out,HV.out];rfl,RX.out⟩
       case measure=>have:=HLT.out;(try rw[HWI.out]);simp[intOf];omega
     ·have hmi:¬ (m:Int)<(bs.length:Int):=by omega
      have HV:=h! (show inAt bs (m:Int)=false from by
       unfold inAt;rw[Int.toNat_natCast,List.getD_eq_getElem?_getD,List.getElem?_eq_none (by omega)];simp)
      clear hm HBA;go_wp2_with fail
      go_roundw
      case rel=>exact⟨i+1,HLT.out,by first | rw[HWI.out] | go_num,by rw[HNX.out,HB.out,HV.out];rfl,RX.out⟩
      case measure=>have:=HLT.out;(try rw[HWI.out]);simp[intOf];omega
    ·have HV:=h! (show inAt bs x=false from by unfold inAt;simp[h0]);clear HBA;go_wp2_with fail
     go_roundw
     case rel=>exact⟨i+1,HLT.out,by first | rw[HWI.out] | go_num,by rw[HNX.out,HB.out,HV.out];rfl,RX.out⟩
     case measure=>have:=HLT.out;(try rw[HWI.out]);simp[intOf];omega
  ·obtain rfl:i=refs.length:=by omega
   rw[List.take_length];have HEQ:=h! (holdF_mk s bs k subs refs parts);have RA:=h! (BA.out.below RX.out);have RB:=h! (BB.out.below RX.out);have XR:=h! (XB.out.trans RX.out);generalize refs.any (inAt bs)=bv at *;clear hlt hi BA BB XB RX;have hA:=RA.out.cells;by_cases k1:k=1
   ·subst k1;rw[if_pos rfl]at HEQ;go_wp2_with fail
    clear hA;obtain⟨w4,hw4⟩:∃ y,y=wr:=⟨_,rfl⟩;rw[<- hw4]at RA RB XR ⊢;clear hw4;go_loopw [7,47] (fun cv iv wr=>∃ i:Nat,i<=subs.length/\iv = .int .i64 i/\cv = .bool (bv||(subs.take i).any (fun x=>decide (x=s)))/\Ext w4 wr) (fun _ iv _=>subs.length-(intOf iv).toNat)
    case atStart=>exact⟨0,Nat.zero_le _,rfl,by simp,Ext.refl _⟩
    case round =>
     obtain⟨i,hi,rfl,rfl,hx⟩:=hrel;have RX:=h! hx;clear hx;by_cases hlt:i<subs.length
     ·have HLT:=h! hlt;have HNX:=h! (any_take (fun x=>decide (x=s)) hlt);obtain⟨so',sc',he',hn1,hn2,hcell⟩:=Sl.rows pC_length (by decide) (show Sl _ wr 3 (.slice a1 subs.length c1) (subs.flatMap pC)from(F1.out wr (XR.out.trans RX.out)).1);cases he';obtain⟨b,off,rfl,-,hcell⟩:=hcell (by omega);have hck:=hcell i hlt;clear hcell;have HWI:=h! (show wrap64 ((i:Int)+1)=((i+1:Nat):Int)from by unfold wrap64;omega);have hli:(i:Int)<(subs.length:Int):=by omega
      generalize subs[i]=x at *;clear hlt hn1 hn2;have c0:wr.cell? ⟨b,off+i*3,none⟩=some (.string x.t):=hck 0 _ rfl;have c1:wr.cell? ⟨b,off+i*3+1,none⟩=some (.string x.i):=hck 1 _ rfl;have c2:wr.cell? ⟨b,off+i*3+2,none⟩=some (.string x.r):=hck 2 _ rfl;clear hck;have X1:=h! (Ext.alloc wr (.cells #[.string x.t,.string x.i,.string x.r] 33));have hbs:=(Blk.made wr #[.string x.t,.string x.i,.string x.r] 33).cells;have hB:=(RB.out.below (RX.out.trans X1.out)).cells;have h4:=fun W=>sub_eql x s W;unfold pV at h4;cases hb:(bv||(subs.take i).any fun x=>decide (x=s)) with
      | true =>
       have HB:=h! hb;clear hb;go_wp2_with fail
       go_roundw
       case rel=>exact⟨i+1,HLT.out,by first | rw[HWI.out] | go_num,by rw[HNX.out,<- Bool.or_assoc,HB.out];rfl,RX.out.trans X1.out⟩
       case measure=>have:=HLT.out;(try rw[HWI.out]);simp[intOf];omega
      | false =>
       have HB:=h! hb;clear hb;go_wp2_with fail
       go_roundw
       case rel=>exact⟨i+1,HLT.out,by first | rw[HWI.out] | go_num,by rw[HNX.out,<- Bool.or_assoc,HB.out];simp,RX.out.trans X1.out⟩
       case measure=>have:=HLT.out;(try rw[HWI.out]);simp[intOf];omega
     ·obtain rfl:i=subs.length:=by omega
      rw[List.take_length]
      have HV:=h! (show holdF s bs (.mk 1 subs refs parts)=(bv||subs.any fun x=>decide (x=s))from by
       rw[HEQ.out,Bool.or_comm];congr 1
       rw[Bool.eq_iff_iff,List.any_eq_true,decide_eq_true_eq];simp)
      have XE:=h! (show Ext w wr from XR.out.trans RX.out);go_wp2_with fail
      go_ret
      exact⟨by rw[HV.out];try rfl,XE.out⟩
   ·rw[if_neg k1]at HEQ;have b1:(k == 1)=false:=by rw[beq_eq_false_iff_ne];exact k1
    by_cases k2:k=2
    ·subst k2;rw[if_pos (.inl rfl)]at HEQ;go_wp2_with fail
     go_ret
     exact⟨by rw[HEQ.out];try rfl,XR.out⟩
    ·have b2:(k == 2)=false:=by rw[beq_eq_false_iff_ne];exact k2
     by_cases k3:k=3
     ·subst k3;rw[if_pos (.inr rfl)]at HEQ;go_wp2_with fail
      go_ret
      exact⟨by rw[HEQ.out];try rfl,XR.out⟩
     ·have b3:(k == 3)=false:=by rw[beq_eq_false_iff_ne];exact k3
      rw[if_neg (by simp[k2,k3])]at HEQ;have HK:=h! (And.intro k1 (And.intro k2 k3));clear k1 k2 k3;by_cases k45:k=4\/k=5
      ·have HV:=h! (show holdF s bs (.mk k subs refs parts)=((k == 4)&&decide (0<cntH (holdF s bs) parts)||(k == 5)&&decide (cntH (holdF s bs) parts=parts.length))from by
        rw[HEQ.out,<- cntH_any,<- cntH_all];rcases k45 with rfl | rfl <;> simp)
       clear HEQ
       have hor:(k == 4)=true\/(k == 4)=false/\(k == 5)=true:=by
        rcases k45 with rfl | rfl <;> simp
       have HOR:=h! hor;rcases hor with hk4 | ⟨hk4,hk5⟩
       case' inl=>go_wp2_with fail
       case' inr=>go_wp2_with fail;clear hk5
       all_goals
        clear hA hk4 k45 b1 b2 b3;obtain⟨w4,hw4⟩:∃ y,y=wr:=⟨_,rfl⟩;rw[<- hw4]at RA RB XR ⊢;clear hw4;go_loopw [12,69] (fun cv iv wr=>∃ i:Nat,i<=parts.length/\iv = .int .i64 i/\cv = .int .i64 (cntH (holdF s bs) (parts.take i))/\Ext w4 wr) (fun _ iv _=>parts.length-(intOf iv).toNat)
        case atStart=>exact⟨0,Nat.zero_le _,rfl,rfl,Ext.refl _⟩
        case round =>
         obtain⟨i,hi,rfl,rfl,hx⟩:=hrel;have RX:=h! hx;clear hx;by_cases hlt:i<parts.length
         ·have HLT:=h! hlt;have HNX:=h! (cntH_take (holdF s bs) hlt);obtain⟨ao1,g1,he1,hg1,hg2,hc1⟩:=(H1.out.up (XR.out.trans RX.out)).rows;dsimp only[FT.ps]at he1 hg1 hg2 hc1;cases he1;obtain⟨p1,q1,u,rfl,hp1,e0,e1,e2,e3,hu⟩:=hc1 i hlt;have HII:=h! (HIH.out parts[i] (List.getElem_mem hlt));have HCN:=h! (show cntH (holdF s bs) (parts.take i)<=i from by have:=cntH_le (holdF s bs) (parts.take i);rw[List.length_take]at this;omega);have HWI:=h! (show wrap64 ((i:Int)+1)=((i+1:Nat):Int)/\wrap64 ((cntH (holdF s bs) (parts.take i):Int)+1)=((cntH (holdF s bs) (parts.take i)+1:Nat):Int)from by have:=HCN.out;unfold wrap64;omega);have hli:(i:Int)<(parts.length:Int):=by omega
          generalize parts[i]=x at *;generalize cntH (holdF s bs) (parts.take i)=cn at *;obtain⟨l1,m1,l2,m2,l4,m4,rfl⟩:=hu.shape;have X1:=h! (Ext.alloc wr (.cells #[.int .i64 x.k,.slice l1 x.subs.length m1,.slice l2 x.refs.length m2,.slice l4 x.ps.length m4] 128));have HCL:=h! (HII.out (.slice ai bs.length ci) _ _ (hu.up X1.out) (FI.out _ (XR.out.trans (RX.out.trans X1.out))));unfold fV pV at HCL;dsimp only at e0 e1 e2 e3 HCL;have hbf:=(Blk.made wr #[.int .i64 x.k,.slice l1 x.subs.length m1,.slice l2 x.refs.length m2,.slice l4 x.ps.length m4] 128).cells;have hB:=(RB.out.below (RX.out.trans X1.out)).cells;clear hlt hc1 hu hp1 hg1 hg2;go_wp2_with fail
          refine HCL.out.mono ?_;rintro e w5 ⟨rfl,hx5⟩;have X5:=h! (show Ext w4 w5 from RX.out.trans (X1.out.trans hx5));clear hx5 hbf hB HCL e0 e1 e2 e3;cases hq:holdF s bs x with
          | true =>
           rw[hq,if_pos rfl]at HNX;clear hq;go_wp2_with fail
           go_roundw
           case rel=>exact⟨i+1,HLT.out,by first | rw[HWI.out.1] | go_num,by first | rw[HNX.out,HWI.out.2] | (rw[HNX.out];go_num),X5.out⟩
           case measure=>have:=HLT.out;(try rw[HWI.out.1]);simp[intOf];omega
          | false =>
           rw[hq,if_neg (by decide)]at HNX;clear hq;go_wp2_with fail
           go_roundw
           case rel=>exact⟨i+1,HLT.out,by first | rw[HWI.out.1] | go_num,by rw[HNX.out];rfl,X5.out⟩
           case measure=>have:=HLT.out;(try rw[HWI.out.1]);simp[intOf];omega
         ·obtain rfl:i=parts.length:=by omega
          rw[List.take_length];have XE:=h! (show Ext w wr from XR.out.trans RX.out);have hA:=(RA.out.below RX.out).cells;generalize cntH (holdF s bs) parts=cn at *;have ho:=HOR.out;clear hlt hi;rcases ho with hk4 | ⟨hk4,hk5⟩
          ·rw[hk4]at HV;by_cases hcn:0<cn
           ·rw[decide_eq_true hcn]at HV;have hcz:(0:Int)<(cn:Int):=by omega
            go_wp2_with fail
            go_ret
            exact⟨by rw[HV.out];rfl,XE.out⟩
           ·have hcz:¬ (0:Int)<(cn:Int):=by omega
            have hk5:(k == 5)=false:=by rw[beq_iff_eq]at hk4;subst hk4;rfl
            rw[decide_eq_false hcn,hk5]at HV;go_wp2_with fail
            go_ret
            exact⟨by rw[HV.out];rfl,XE.out⟩
          ·rw[hk4,hk5]at HV;by_cases hcn:cn=parts.length
           ·rw[decide_eq_true hcn]at HV;subst hcn;go_wp2_with fail
            go_ret
            exact⟨by rw[HV.out];simp,XE.out⟩
           ·rw[decide_eq_false hcn]at HV;have hcz:((cn:Int) == (parts.length:Int))=false:=by rw[beq_eq_false_iff_ne];omega
            go_wp2_with fail
            go_ret
            exact⟨by rw[HV.out];rfl,XE.out⟩
      ·have b4:(k == 4)=false:=by rw[beq_eq_false_iff_ne];exact fun e=>k45 (.inl e)
       have b5:(k == 5)=false:=by rw[beq_eq_false_iff_ne];exact fun e=>k45 (.inr e)
       rw[if_neg fun e=>k45 (.inl e),if_neg fun e=>k45 (.inr e)]at HEQ;clear k45;go_wp2_with fail
       go_ret
       exact⟨by rw[HEQ.out];try rfl,XR.out⟩
theorem int_info:(Tryz.prog.info? 3).map (fun i=>(i.zero,i.size,i.bytes))=some (some (.int .i64 0),1,8):=by kernel_rfl
theorem bool_info:(Tryz.prog.info? 4).map (fun i=>(i.zero,i.size,i.bytes))=some (some (.bool false),1,1):=by kernel_rfl
theorem makeI (n:Nat)(h:n<=100000000):∀ W,(Instr.makeSlice 107 (.int .i64 (n:Int)) (.int .i64 (n:Int))).run Tryz.prog W = .ok (.slice (some ⟨W.heap.size,0,none⟩) n n) (W.alloc (.cells (madeCells #[.int .i64 0] n) 3)):=by
 intro W;obtain⟨i,hi,hzz⟩:=Option.map_eq_some_iff.1 int_info;simp only[Prod.mk.injEq]at hzz;obtain⟨hz,hs,hb⟩:=hzz;have:=run_make (P:=Tryz.prog) W 107 3 i (.int .i64 0) Tryz.underlying107 hi hz .i64 .i64 n n (by omega) (by omega) (by rw[hb];omega) (by omega);rw[this,hs,Nat.mul_one];rfl
theorem makeB (n:Nat)(h:n<=100000000):∀ W,(Instr.makeSlice 74 (.int .i64 (n:Int)) (.int .i64 (n:Int))).run Tryz.prog W = .ok (.slice (some ⟨W.heap.size,0,none⟩) n n) (W.alloc (.cells (madeCells #[.bool false] n) 4)):=by
 intro W;obtain⟨i,hi,hzz⟩:=Option.map_eq_some_iff.1 bool_info;simp only[Prod.mk.injEq]at hzz;obtain⟨hz,hs,hb⟩:=hzz;have:=run_make (P:=Tryz.prog) W 74 4 i (.bool false) Tryz.underlying74 hi hz .i64 .i64 n n (by omega) (by omega) (by rw[hb];omega) (by omega);rw[this,hs,Nat.mul_one];rfl
theorem Own.made1 (w:World)(n:Nat)(h:n<=100000000)(e:TypeId)(z:Value):Own (w.alloc (.cells (madeCells #[z] n) e)) w.heap.size e 1 (.slice (some ⟨w.heap.size,0,none⟩) n n) (List.replicate n z):=by
 refine⟨n,by rw[List.length_replicate];omega,.inr ⟨w.heap.size,n,_,rfl,Nat.le_refl _,heap_alloc_new w _,Nat.le_refl _,by unfold maxLen;omega,by rw[size_madeCells];omega,?_⟩⟩;apply List.ext_getElem?;intro j;rw[List.getElem?_take];by_cases hj:j<n
 ·rw[if_pos (by omega)];simp[madeCells,hj,Nat.mod_one]
 ·rw[if_neg (by omega)];simp[show n<=j by omega]
theorem Own.cellAt {w:World} {B:Nat} {e:TypeId} {g n c:Nat} {xs:List Value} (h:Own w B e 1 (.slice (some ⟨g,0,none⟩) n c) xs):xs.length=n/\B<=g/\∃ cs,Blk w g cs e/\∀ i (hi:i<xs.length),w.cell? ⟨g,i,none⟩=some xs[i]:=by
 obtain⟨m,h⟩:=h;rcases h.2 with⟨hv,rfl⟩ | ⟨g',cap,cur,hv,hbg,hg,hnc,hcm,hcs,htake⟩
 ·cases hv
 ·cases hv;have hl:=h.1;rw[Nat.mul_one]at hl htake;refine⟨hl,hbg,cur,hg,fun i hi=>?_⟩;have h1:=congrArg (fun l:List Value=>l[i]?) htake;rw[List.getElem?_take_of_lt (by omega),List.getElem?_eq_getElem hi]at h1;rw[(show Blk w g cur e from hg).cells i];simpa using h1
structure SolI (lo gi go n:Nat)(w0 w:World)(L:List Bool)(R:List Int):Prop where
 below:Below lo w0 w
 inn:Own w lo 4 1 (.slice (some ⟨gi,0,none⟩) n n) (boC L)
 out:Own w lo 3 1 (.slice (some ⟨go,0,none⟩) n n) (ic R)
section
variable {lo gi go n : Nat} {w0 w w' : World} {L : List Bool} {R : List Int}
theorem SolI.ne (h:SolI lo gi go n w0 w L R):gi≠go:=fun e=>by
 subst e;exact h.inn.apart h.out (by decide) rfl rfl
theorem SolI.keep (h:SolI lo gi go n w0 w L R)(hb:Below w.heap.size w w')(hl:lo<=w.heap.size):SolI lo gi go n w0 w' L R :=
 ⟨h.below.trans (hb.mono hl),h.inn.below hb,h.out.below hb⟩
theorem SolI.setIn (h:SolI lo gi go n w0 w L R)(k:Nat):SolI lo gi go n w0 (w.setCell ⟨gi,k,none⟩ (.bool true)) (L.set k true) R :=
 ⟨Below.setCell h.below (h.inn.block gi rfl).1 _,by have:=h.inn.set1 k (.bool true);rw[show(boC L).set k (.bool true)=boC (L.set k true)from by unfold boC;rw[List.map_set]]at this;exact this,
  h.out.keepOwn fun g hg=>Below.heap_setCell _ _ _ _ fun e=>h.ne (by have:go=g:=Option.some.inj hg;rw[this];exact e.symm)⟩
theorem SolI.setOut (h:SolI lo gi go n w0 w L R)(k:Nat)(x:Int):SolI lo gi go n w0 (w.setCell ⟨go,k,none⟩ (.int .i64 x)) L (R.set k x) :=
 ⟨Below.setCell h.below (h.out.block go rfl).1 _,h.inn.keepOwn fun g hg=>Below.heap_setCell _ _ _ _ fun e=>h.ne (by have:gi=g:=Option.some.inj hg;rw[this];exact e),
  by have:=h.out.set1 k (.int .i64 x);rw[show(ic R).set k (.int .i64 x)=ic (R.set k x)from by unfold ic;rw[List.map_set]]at this;exact this⟩
end
def frN (fs:List FT)(s:P3)(n r i:Nat):List Int:=((List.range i).filter fun j=>newS fs s (inN fs s n r) j).map fun(j:Nat)=>(j:Int)
theorem frN_succ (fs:List FT)(s:P3)(n r i:Nat):frN fs s n r (i+1)=if newS fs s (inN fs s n r) i=true then frN fs s n r i++[(i:Int)]else frN fs s n r i:=by
 unfold frN;rw[List.range_succ,List.filter_append,List.map_append];by_cases h:newS fs s (inN fs s n r) i=true <;> simp[h]
theorem frN_len (fs:List FT)(s:P3)(n r i:Nat):(frN fs s n r i).length<=i:=by
 unfold frN;rw[List.length_map];have:=List.length_filter_le (fun j=>newS fs s (inN fs s n r) j) (List.range i);rwa[List.length_range]at this
theorem frN_mem (fs:List FT)(s:P3)(n r:Nat):∀ x∈frN fs s n r n,∃ i:Nat,x=(i:Int)/\i<n/\newS fs s (inN fs s n r) i=true:=fun x hx=>by
 unfold frN at hx;obtain⟨j,hj,rfl⟩:=List.mem_map.1 hx;rw[List.mem_filter,List.mem_range]at hj;exact⟨j,rfl,hj.1,hj.2⟩
theorem frN_iff (fs:List FT)(s:P3)(n r:Nat):∀ i:Nat,i<n->((i:Int)∈frN fs s n r n↔newS fs s (inN fs s n r) i=true):=fun i hi=>by
 refine⟨fun h=>?_,fun h=>List.mem_map.2 ⟨i,List.mem_filter.2 ⟨List.mem_range.2 hi,h⟩,rfl⟩⟩;obtain⟨j,e,-,hj⟩:=frN_mem fs s n r _ h;rw[show i=j by omega];exact hj
theorem newS_false {fs:List FT} {s:P3} {l:List Bool} {i:Nat} (h:i<l.length)(hi:l[i]=true):newS fs s l i=false:=by
 unfold newS;rw[List.getD_eq_getElem?_getD,List.getElem?_eq_getElem h,Option.getD_some,hi];rfl
theorem newS_out {fs:List FT} {s:P3} {l:List Bool} {i:Nat} (h:fs.length<=i):newS fs s l i=false:=by
 unfold newS;rw[List.getElem?_eq_none h];simp
theorem newS_form {fs:List FT} {s:P3} {l:List Bool} {i:Nat} (h:i<l.length)(hi:l[i]=false)(hf:i<fs.length):newS fs s l i=holdF s l fs[i]:=by
 unfold newS;rw[List.getD_eq_getElem?_getD,List.getElem?_eq_getElem h,Option.getD_some,hi,List.getElem?_eq_getElem hf];rfl
theorem GrAt.rows {S:Nat->Prop} {w:World} {ps:List P3} {fs:List FT} {pv fv:Value} (h:GrAt S w ps fs pv fv):∃ ap cp af cf,pv = .slice ap ps.length cp/\fv = .slice af fs.length cf/\ps.length<=cp/\fs.length<=cf/\cp<=9223372036854775807/\cf<=9223372036854775807 /\
  ∀ i (hi:i<fs.length),∃ b off,∃ u:FV3,af=some ⟨b,off,none⟩/\S b/\w.cell? ⟨b,off+i*4,none⟩=some (.int .i64 fs[i].k)/\w.cell? ⟨b,off+i*4+1,none⟩=some u.1/\w.cell? ⟨b,off+i*4+2,none⟩=some u.2.1/\w.cell? ⟨b,off+i*4+3,none⟩=some u.2.2/\FTAt S w fs[i] u:=by
 obtain⟨h1,q,h2,h3,h4⟩:=h;obtain⟨ap,cp,e1,hn1,hn2,-⟩:=Sl.rows pC_length (by decide) (show Sl S w 3 pv (ps.flatMap pC)from h1);obtain⟨af,cf,e2,hn3,hn4,hc⟩:=Sl.rows fC_length (by decide) h4;have hl:q.length=fs.length:=by rw[<- h2,List.length_map]
 refine⟨ap,cp,af,cf,e1,by rw[e2,hl],hn1,by omega,hn2,hn4,fun i hi=>?_⟩;have hiq:i<q.length:=by omega
 obtain⟨b,off,rfl,hb,hc⟩:=hc (by omega);have hget:fs[i]=q[i].1:=by simp only[<- h2,List.getElem_map]
 rw[hget];exact⟨b,off,q[i].2,rfl,hb,hc i hiq 0 _ rfl,hc i hiq 1 _ rfl,hc i hiq 2 _ rfl,hc i hiq 3 _ rfl,h3 _ (List.getElem_mem hiq)⟩
theorem solve27_any (s:P3)(ps:List P3)(fs:List FT)(pv fv:Value)(w:World)(h:GrAt (· < w.heap.size) w ps fs pv fv)(hnm:ps.length<=1000000) :
  Calls Tryz.prog 81 #[.agg #[pv,fv],pV s] w fun e w'=>(∃ v,e = .returned v/\Own w' w.heap.size 3 1 v (ic (solveR fs s ps.length)))/\Below w.heap.size w w':=by
 have H0:=h! h;obtain⟨ap,cp,af,cf,rfl,rfl,hp1,hf1,hp2,hf2,-⟩:=h.rows;have HNM:=h! hnm;have HFM:=h! (show fs.length<=9223372036854775807 from by omega);have HMI:=h! (makeI ps.length (by omega));have HMB:=h! (makeB ps.length (by omega));have HOI:=h! (fun W=>Own.made1 W ps.length (by omega) 3 (.int .i64 0));have HOB:=h! (fun W=>Own.made1 W ps.length (by omega) 4 (.bool false));clear h hp1 hf1 hp2 hf2 hnm;generalize hnn:ps.length=n at *;unfold pV;obtain⟨wa,hwa⟩:∃ x,x=w.alloc (.cells #[.slice ap n cp,.slice af fs.length cf] 96):=⟨_,rfl⟩;obtain⟨wb,hwb⟩:∃ x,x=wa.alloc (.cells #[.string s.t,.string s.i,.string s.r] 33):=⟨_,rfl⟩;have ea:wa.heap.size=w.heap.size+1:=by rw[hwa];simp
 have eb:wb.heap.size=w.heap.size+2:=by rw[hwb];simp[ea]
 have xa:Ext w wa:=by rw[hwa];exact Ext.alloc _ _
 have xb:Ext wa wb:=by rw[hwb];exact Ext.alloc _ _
 have XB:=h! (xa.trans xb);have BG:=h! (show Blk wb w.heap.size #[.slice ap n cp,.slice af fs.length cf] 96 from Blk.below (by rw[hwa];exact Blk.made _ _ _) xb);have BS:=h! (show Blk wb (w.heap.size+1) #[.string s.t,.string s.i,.string s.r] 33 from by rw[hwb,<- ea];exact Blk.made _ _ _);obtain⟨wc,hwc⟩:∃ x,x=wb.alloc (.cells (madeCells #[.int .i64 0] n) 3):=⟨_,rfl⟩;obtain⟨we,hwe⟩:∃ x,x=wc.alloc (.cells (madeCells #[.bool false] n) 4):=⟨_,rfl⟩;have ec:wc.heap.size=wb.heap.size+1:=by rw[hwc];simp
 have xc:Ext wb wc:=by rw[hwc];exact Ext.alloc _ _
 have xe:Ext wc we:=by rw[hwe];exact Ext.alloc _ _
 have ST:=h! (show SolI wb.heap.size wc.heap.size wb.heap.size n wb we (inN fs s n 0) (outN fs s n 0)from⟨xc.trans xe,by
   have:=HOB.out wc;rw[<- hwe]at this;obtain⟨m,h1,h2⟩:=this;rcases h2 with⟨h2,_⟩ | ⟨g',cap,cur,hv,hbg,hg,hr⟩
   ·cases h2
   ·refine⟨m,?_,.inr ⟨g',cap,cur,hv,by omega,hg,?_⟩⟩
    ·rw[boC_length,inN,List.length_replicate];rw[List.length_replicate]at h1;exact h1
    ·rw[show boC (inN fs s n 0)=List.replicate n (.bool false)from by simp[boC,inN]];exact hr,by
   have:=(HOI.out wb);rw[<- hwc]at this;rw[show ic (outN fs s n 0)=List.replicate n (.int .i64 0)from by simp[ic,outN]];exact this.below xe⟩)
 have EX:=h! (xc.trans xe);have EB:=h! eb;have EC:=h! ec;have hA:=BG.out.cells;have hA2:=(BG.out.below xc).cells;have hmk:=HMI.out;have hmb:=HMB.out;clear ea eb xa xb xc xe ec HMI HMB HOI HOB;rw[hwb,hwa]at hA;rw[hwc,hwb,hwa]at hA2;go_enter Tryz.func81,Tryz.ntmps81
 go_wp2_with fail
 rw[<- hwa,<- hwb,<- hwc,<- hwe];clear hA hA2 hmk hmb hwa hwb hwc hwe;obtain⟨gi,hgi⟩:∃ y,y=w.heap.size+1+1+1:=⟨_,rfl⟩;obtain⟨lo,hlo⟩:∃ y,y=w.heap.size+1+1:=⟨_,rfl⟩;have HLO:=h! (show w.heap.size+2=lo from by omega);rw[show wb.heap.size=lo by rw[EB.out];omega,show wc.heap.size=gi by rw[EC.out,EB.out];omega]at ST;rw[<- hgi,<- hlo];have HWL:=h! (show wb.heap.size=lo by rw[EB.out];omega);have RI:=h! (fun W (hW:Below lo wb W)=>show Blk W w.heap.size #[.slice ap n cp,.slice af fs.length cf] 96 from(hW.block _ (by have:=HLO.out;omega)).trans BG.out);have RJ:=h! (fun W (hW:Below lo wb W)=>show Blk W (w.heap.size+1) #[.string s.t,.string s.i,.string s.r] 33 from(hW.block _ (by have:=HLO.out;omega)).trans BS.out);have RK:=h! (fun W (hW:Below lo wb W)=>show Below w.heap.size w W from Below.trans XB.out (hW.mono (by have:=HLO.out;omega)));have RR:=h! (fun W (hW:Below lo wb W)=>show GrAt (· < W.heap.size) W ps fs (.slice ap n cp) (.slice af fs.length cf)from H0.out.up (RK.out W hW));clear hlo hgi EB EC BG BS H0 EX;go_loopw [7] (fun rv wr=>∃ r:Nat,rv = .int .i64 ((r+1:Nat):Int)/\r<=cntT (inN fs s n r)/\lo<=wr.heap.size/\SolI lo gi lo n wb wr (inN fs s n r) (outN fs s n r)) (fun rv _=>n+1-(intOf rv).toNat)
 case atStart=>exact⟨0,rfl,Nat.zero_le _,by have:=ST.out.below.size;have:=HWL.out;omega,ST.out⟩
 case round =>
  obtain⟨r,rfl,hrc,hls,hst⟩:=hrel;have RS:=h! hst;have HRC:=h! hrc;have HRN:=h! (show r<=n from Nat.le_trans hrc (cnt_max _ _ _ _));have HLS:=h! hls;obtain⟨w4,hw4⟩:∃ y,y=wr:=⟨_,rfl⟩;obtain⟨lo2,hlo2⟩:∃ y,y=w4.heap.size:=⟨_,rfl⟩;obtain⟨rz,hrz⟩:∃ z:Int,z=((r+1:Nat):Int):=⟨_,rfl⟩;rw[<- hw4]at RS HLS ⊢;rw[<- hrz];have HRZ:=h! hrz;have HL2:=h! hlo2;have hG:=(RI.out w4 RS.out.below).cells;clear hrc hls hst ST hw4 hlo2 hrz;go_wp2_with fail
  clear hG;go_loopw [8,25] (fun qv iv wr=>∃ i:Nat,i<=n/\iv = .int .i64 i/\Own wr lo2 3 1 qv (ic (frN fs s n r i))/\Below lo2 w4 wr) (fun _ iv _=>n-(intOf iv).toNat)
  case atStart=>exact⟨0,Nat.zero_le _,rfl,Own.nil _ _ _ _,Below.refl _ _⟩
  case round =>
   obtain⟨i,hi,rfl,hfr,hbl⟩:=hrel;have RF:=h! hfr;have RB2:=h! hbl;obtain⟨fao,fm,fc,rfl,-⟩:=hfr.sl.len;have RS2:=h! (show SolI lo gi lo n wb wr (inN fs s n r) (outN fs s n r)from RS.out.keep (by rw[HL2.out]at hbl;exact hbl) HLS.out);clear hfr hbl;by_cases hlt:i<n
   ·have HLT:=h! hlt;have HWI:=h! (show wrap64 ((i:Int)+1)=((i+1:Nat):Int)from by have:=HNM.out;unfold wrap64;omega);have HFN:=h! (frN_succ fs s n r i);have hIL:(inN fs s n r).length=n:=inN_length r;obtain⟨-,-,cs,-,hcl⟩:=RS2.out.inn.cellAt
    have c1:wr.cell? ⟨gi,i,none⟩=some (.bool ((inN fs s n r)[i]'(by omega))):=by
     have:=hcl i (by rw[boC_length];omega);rw[this];simp[boC]
    have RG:=h! (RI.out wr RS2.out.below);have RSB:=h! (RJ.out wr RS2.out.below);have hli:(i:Int)<(n:Int):=by omega
    cases hin:((inN fs s n r)[i]'(by omega)) with
    | true =>
     have HNW:=newS_false (fs:=fs) (s:=s) (l:=inN fs s n r) (i:=i) (by omega) hin;rw[HNW,if_neg (by decide)]at HFN;rw[hin]at c1;clear HNW hin hcl hIL hlt;go_wp2_with fail
     obtain⟨wd,hwd⟩:∃ z:World,z=World.drew wr:=⟨_,rfl⟩;have DX:=h! (show Ext wr wd from by rw[hwd];exact Ext.drew _);refine r! (Ext wd) (by rw[<- hwd];exact Ext.refl _) ?_;rw[<- hwd];clear hwd;have g1:=fun W (h:Ext wd W)=>Ext.cell (DX.out.trans h) c1;have hG:=fun W (h:Ext wd W)=>(RG.out.below (DX.out.trans h)).cells;(refine WalkN.tk [0,1,2,3,4,5] ?_;(iterate 6 (refine c! ?_));refine TkN.n ?_)
     refine k! 6 ?_;refine k! 7 ?_;refine k! 8 ?_;refine k! 9 ?_;refine k! 10 ?_
     (refine WalkN.tk [11,12] ?_;(iterate 2 (refine c! ?_));refine TkN.n ?_)
     refine k! 13 ?_;refine k! 14 ?_;refine k! 15 ?_;refine k! 16 ?_;refine k! 17 ?_;refine k! 18 ?_;refine k! 19 ?_;refine k! 20 ?_
     refine t! 21 ?_
     refine d! ?_;clear g1 hG c1 hli;go_wp2_with fail
     go_roundw
     case rel=>exact⟨i+1,HLT.out,by first | rw[HWI.out] | go_num,by rw[HFN.out];exact RF.out.below DX.out,RB2.out.trans (DX.out.mono (by have:=RB2.out.size;have:=HL2.out;omega))⟩
     case measure=>have:=HLT.out;(try rw[HWI.out]);simp[intOf];omega
    | false =>
     rw[hin]at c1;by_cases hf:i<fs.length
     ·have HNW:=newS_form (fs:=fs) (s:=s) (l:=inN fs s n r) (i:=i) (by omega) hin hf;obtain⟨ap',cp',af',cf',e1,e2,-,-,-,-,hrow⟩:=(RR.out wr RS2.out.below).rows;cases e2;obtain⟨p1,q1,u,rfl,hp1,k0,k1,k2,k3,hu⟩:=hrow i hf;have hfi:(i:Int)<(fs.length:Int):=by omega
      have HU:=h! hu;have HI:=h! (show Sl (· < wr.heap.size) wr 1 (.slice (some ⟨gi,0,none⟩) n n) (boC (inN fs s n r))from RS2.out.inn.sl.mono fun _ h=>h.2);rw[HNW]at HFN;generalize fs[i]=x at *;obtain⟨l1,m1,l2,m2,l4,m4,rfl⟩:=hu.shape;dsimp only at k0 k1 k2 k3;clear hu hp1 hrow hcl HNW hin hIL hlt hf e1;go_wp2_with fail
      obtain⟨wd,hwd⟩:∃ z:World,z=World.drew wr:=⟨_,rfl⟩;have DX:=h! (show Ext wr wd from by rw[hwd];exact Ext.drew _);refine r! (Ext wd) (by rw[<- hwd];exact Ext.refl _) ?_;rw[<- hwd];clear hwd;have g1:=fun W (h:Ext wd W)=>Ext.cell (DX.out.trans h) c1;have hG:=fun W (h:Ext wd W)=>(RG.out.below (DX.out.trans h)).cells;have hS:=fun W (h:Ext wd W)=>(RSB.out.below (DX.out.trans h)).cells;have j0:=fun W (h:Ext wd W)=>Ext.cell (DX.out.trans h) k0;have j1:=fun W (h:Ext wd W)=>Ext.cell (DX.out.trans h) k1;have j2:=fun W (h:Ext wd W)=>Ext.cell (DX.out.trans h) k2;have j3:=fun W (h:Ext wd W)=>Ext.cell (DX.out.trans h) k3;(refine WalkN.tk [0,1,2,3,4,5,6,7,8,9,10,11,12,13,14,15,16,17,18,19] ?_;(iterate 20 (refine c! ?_));refine TkN.n ?_)
      clear g1 hG hS j0 j1 j2 j3 k0 k1 k2 k3 c1;have HCL:=h! (hold27_any s (inN fs s n r) x (.slice (some ⟨gi,0,none⟩) n n) _ wd (HU.out.up DX.out) ((HI.out.same (Same.below DX.out)).mono fun _ h=>Nat.lt_of_lt_of_le h DX.out.size));unfold fV pV at HCL;dsimp only at HCL;refine o! 20 ?_;refine b! ?_;intro K hK;go_simp;refine HCL.out.mono ?_;rintro e w5 ⟨rfl,hx5⟩;refine hK.out _ _ hx5 ?_;clear hK HCL;have X5:=h! (show Ext wr w5 from DX.out.trans hx5);clear hx5;refine t! 21 ?_
      refine d! ?_;clear hli hfi;cases hq:holdF s (inN fs s n r) x with
      | true =>
       rw[hq,if_pos rfl]at HFN;have RF5:=h! (RF.out.below X5.out);have RB5:=h! (show Below lo2 w4 w5 from RB2.out.trans (X5.out.mono (by have:=RB2.out.size;have:=HL2.out;omega)));clear hq;have HX5:=h! (Ext.alloc w5 (.cells #[.int .i64 (i:Int)] 3));go_wp2_with (at_builtin;go_must (refine wpList_ownw intsT rfl (.tmp 50) (.tmp 52) rfl rfl (RF5.out.below HX5.out) rfl (m:=1) (news:=[.int .i64 (i:Int)]) rfl (by intro j u hu;rw[Addr.add_lit,cell_of_row _ w5.heap.size (0+j) #[.int .i64 (i:Int)] 3 (0,0) (heap_alloc_new w5 _)];simpa using hu) (by simp[Value.oneCell']) (by have:=HNM.out;have:=HLT.out;have:=frN_len fs s n r i;have:=HL2.out;have:=RB5.out.size;rw[ic_length];simp at *;omega) (by have:=HNM.out;have:=HLT.out;have:=frN_len fs s n r i;have:=HL2.out;have:=RB5.out.size;rw[ic_length];simp at *;omega) (by have:=HNM.out;have:=HLT.out;have:=frN_len fs s n r i;have:=HL2.out;have:=RB5.out.size;have:=HX5.out.size;omega) ?_;intro v6 w6 hown6 hb6 hg6;have HO6:=h! (show Own w6 lo2 3 1 v6 (ic (frN fs s n r (i+1)))from by rw[HFN.out,ic_append];exact hown6);have HB6:=h! (show Below lo2 w4 w6 from grown_below (RB5.out.trans (HX5.out.mono (by have:=RB5.out.size;have:=HL2.out;omega))) (RF5.out.below HX5.out) hg6 (by have:=RB5.out.size;have:=HX5.out.size;have:=HL2.out;omega));clear hown6 hb6 hg6))
       go_roundw
       case rel=>exact⟨i+1,HLT.out,by first | rw[HWI.out] | go_num,HO6.out,HB6.out⟩
       case measure=>have:=HLT.out;(try rw[HWI.out]);simp[intOf];omega
      | false =>
       rw[hq,if_neg (by decide)]at HFN;clear hq;go_wp2_with fail
       go_roundw
       case rel=>exact⟨i+1,HLT.out,by first | rw[HWI.out] | go_num,by rw[HFN.out];exact RF.out.below X5.out,RB2.out.trans (X5.out.mono (by have:=RB2.out.size;have:=HL2.out;omega))⟩
       case measure=>have:=HLT.out;(try rw[HWI.out]);simp[intOf];omega
     ·rw[newS_out (by omega),if_neg (by decide)]at HFN;have hfi:¬ (i:Int)<(fs.length:Int):=by omega
      clear hcl hin hIL hlt hf;go_wp2_with fail
      obtain⟨wd,hwd⟩:∃ z:World,z=World.drew wr:=⟨_,rfl⟩;have DX:=h! (show Ext wr wd from by rw[hwd];exact Ext.drew _);refine r! (Ext wd) (by rw[<- hwd];exact Ext.refl _) ?_;rw[<- hwd];clear hwd;have g1:=fun W (h:Ext wd W)=>Ext.cell (DX.out.trans h) c1;have hG:=fun W (h:Ext wd W)=>(RG.out.below (DX.out.trans h)).cells;have hfn:decide (i<fs.length)=false:=decide_eq_false (by omega);(refine WalkN.tk [0,1,2,3,4,5,6,7,8,9,10,11,12] ?_;(iterate 13 (refine c! ?_));refine TkN.n ?_)
      refine k! 13 ?_;refine k! 14 ?_;refine k! 15 ?_;refine k! 16 ?_;refine k! 17 ?_;refine k! 18 ?_;refine k! 19 ?_;refine k! 20 ?_
      refine t! 21 ?_
      refine d! ?_;clear g1 hG c1 hli hfi hfn;go_wp2_with fail
      go_roundw
      case rel=>exact⟨i+1,HLT.out,by first | rw[HWI.out] | go_num,by rw[HFN.out];exact RF.out.below DX.out,RB2.out.trans (DX.out.mono (by have:=RB2.out.size;have:=HL2.out;omega))⟩
      case measure=>have:=HLT.out;(try rw[HWI.out]);simp[intOf];omega
   ·obtain rfl:i=n:=by omega
    have HFI:=h! (frN_iff fs s i r);have HFM2:=h! (frN_mem fs s i r);have HFL:=h! (frN_len fs s i r i);generalize frN fs s i r i=F at *;obtain⟨fao',fm',fc',he',hfn,-,-⟩:=RF.out.sl.len;cases he';rw[ic_length,Nat.mul_one]at hfn;subst hfn;clear hlt hi;by_cases h0:F=[]
    ·subst h0
     have HEN:=h! (show outN fs s i r=solveR fs s i from endS_of fun j hj=>by
      have:=HFI.out j hj;simpa using this)
     have HOU:=RS2.out.out;rw[HEN.out]at HOU;have HOU2:=h! HOU;have HBE:=h! (RK.out wr RS2.out.below);clear HOU;go_wp2_with fail
     go_ret
     exact⟨⟨_,rfl,by
      obtain⟨m,h1,h2⟩:=HOU2.out;rcases h2 with⟨h2,_⟩ | ⟨g',cap,cur,hv,hbg,hg,hr⟩
      ·cases h2
      ·exact⟨m,h1,.inr ⟨g',cap,cur,hv,by have:=HLO.out;omega,hg,hr⟩⟩⟩,HBE.out⟩
    ·have HNE:=h! (show 0<F.length from List.length_pos_iff.2 h0);have hne:((F.length:Int) == 0)=false:=by rw[beq_eq_false_iff_ne];have:=HNE.out;omega
     have HCS:=h! (show cntT (inN fs s i r)<cntT (inN fs s i (r+1))from by
      obtain⟨j,-,hj,hn⟩:=HFM2.out F[0] (List.getElem_mem HNE.out);exact cnt_step hj hn)
     clear h0;go_wp2_with fail
     clear hne;have HSI:=h! (RS2.out.inn.cellAt).2.1;obtain⟨w7,hw7⟩:∃ y,y=wr:=⟨_,rfl⟩;rw[<- hw7]at RF RS2 RB2 ⊢;clear hw7;have RFC:=h! (RF.out.sl.ints);go_loopw [61] (fun jv wr=>∃ (j:Nat) (L:List Bool) (R:List Int),j<=F.length/\jv = .int .i64 j/\InvR fs s i r F j L R/\SolI lo gi lo i wb wr L R/\Own wr lo2 3 1 (.slice fao F.length fc) (ic F)/\lo2<=wr.heap.size) (fun jv _=>F.length-(intOf jv).toNat)
     case atStart=>exact⟨0,_,_,Nat.zero_le _,rfl,InvR.start fs s i r F,RS2.out,RF.out,Nat.le_trans (Nat.le_of_eq HL2.out) (by rw[HL2.out]at RB2;exact RB2.out.size)⟩
     case round =>
      obtain⟨j,L,R,hj,rfl,hinv,hst,hof,hsz⟩:=hrel;have HI:=h! hinv;have HS:=h! hst;have HO:=h! hof;have HZ:=h! hsz;clear hinv hst hof hsz RFC;by_cases hlt:j<F.length
      ·have HLT:=h! hlt;obtain⟨fao2,fc2,he2,-,-,hcel⟩:=HO.out.sl.ints;cases he2;obtain⟨b,off,rfl,hbb,c0⟩:=hcel j hlt;obtain⟨k,hk,hkn,hknew⟩:=HFM2.out F[j] (List.getElem_mem hlt);have HI2:=h! (HI.out.step hlt (by omega) (by omega));have HWI:=h! (show wrap64 ((j:Int)+1)=((j+1:Nat):Int)from by have:=HFL.out;have:=HNM.out;unfold wrap64;omega);replace c0:=c0.trans (congrArg (fun z=>some (Value.int .i64 z)) hk);rw[show F[j].toNat=k by omega,<- HRZ.out]at HI2;have hji:(j:Int)<(F.length:Int):=by omega
       have hki:(k:Int)<(i:Int):=by omega
       obtain⟨hl1,hlo1,cs1,hB1,hc1⟩:=HS.out.inn.cellAt;obtain⟨hl2,hlo2',cs2,hB2,hc2⟩:=HS.out.out.cellAt;obtain⟨y1,d1⟩:∃ y,wr.cell? ⟨gi,k,none⟩=some y:=⟨_,hc1 k (by omega)⟩;obtain⟨y2,d2⟩:∃ y,wr.cell? ⟨lo,k,none⟩=some y:=⟨_,hc2 k (by omega)⟩;have f1:=hB1.free;have f2:=hB2.free;have S2:=h! ((HS.out.setOut k rz).setIn k);obtain⟨-,-,cs3,hB3,hc3⟩:=(HS.out.setOut k rz).inn.cellAt;obtain⟨y3,d3⟩:∃ y,(wr.setCell ⟨lo,k,none⟩ (.int .i64 rz)).cell? ⟨gi,k,none⟩=some y:=⟨_,hc3 k (by rw[boC_length];rw[boC_length]at hl1;omega)⟩;have f3:=hB3.free
       have HNG:=h! (show b≠lo/\b≠gi from by
        have:=HL2.out;have h1:=(HS.out.inn.block gi rfl).2;have h2:=(RS.out.inn.block gi rfl).2;have h3:=(RS.out.out.block lo rfl).2;have h4:=hbb.1;omega)
       have HO2:=h! (show Own ((wr.setCell ⟨lo,k,none⟩ (.int .i64 rz)).setCell ⟨gi,k,none⟩ (.bool true)) lo2 3 1 (.slice (some ⟨b,off,none⟩) F.length fc) (ic F)from HO.out.keepOwn fun g hg=>by
        obtain rfl:b=g:=Option.some.inj hg;rw[Below.heap_setCell _ _ _ _ fun e=>HNG.out.2 e,Below.heap_setCell _ _ _ _ fun e=>HNG.out.1 e])
       have HZ2:=h! (show lo2<=((wr.setCell ⟨lo,k,none⟩ (.int .i64 rz)).setCell ⟨gi,k,none⟩ (.bool true)).heap.size from by simpa using HZ.out);clear hcel hbb hk hkn hknew hc1 hc2 hc3 hB1 hB2 hB3 hl1 hl2 hlt hlo1 hlo2';go_wp2_with fail
       go_roundw
       case rel=>exact⟨j+1,_,_,HLT.out,by first | rw[HWI.out] | go_num,HI2.out,S2.out,HO2.out,HZ2.out⟩
       case measure=>have:=HLT.out;(try rw[HWI.out]);simp[intOf];omega
      ·obtain rfl:j=F.length:=by omega
       obtain⟨rfl,rfl⟩:=HI.out.done HFI.out;have HWR:=h! (show wrap64 (rz+1)=((r+1+1:Nat):Int)from by have:=HRZ.out;have:=HRN.out;have:=HNM.out;unfold wrap64;omega);have HRM:=h! (show r+1<=i from by have:=HCS.out;have:=HRC.out;have:=cnt_max fs s i (r+1);omega);clear hlt hj;go_wp2_with fail
       go_roundw
       case rel=>exact⟨r+1,by first | rw[HWR.out] | go_num,by have:=HCS.out;have:=HRC.out;omega,by have:=HZ.out;have:=HLS.out;have:=HL2.out;omega,HS.out⟩
       case measure=>have:=HRM.out;have:=HRZ.out;(try rw[HWR.out]);simp[intOf];omega
end Go.Proofs.YtlhaghoajpglaaaGreat
