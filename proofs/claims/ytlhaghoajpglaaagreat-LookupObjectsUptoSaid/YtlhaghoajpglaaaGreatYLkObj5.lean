/- Lemmas for the claim, no condition. -/
import Derived.Laws.EntriesVeiled
import Derived.Sort.MapsRangeIn
import Derived.Sort.KeysCollected
import Derived.Test.YtlhaghoajpglaaaGreatYLkObj4
import Derived.Shelf.Abstract
set_option maxRecDepth 100000
set_option maxHeartbeats 8000000
namespace Go.Proofs.YtlhaghoajpglaaaGreat
open Go Go.RowKit Go.Maps Go.Proofs.Tryz
def M3 (b1 b2 b3 x:Nat):Prop:=x=b1\/x=b2\/x=b3
def tyL (ts:List TyS):List (ByteArray × Bool):=ts.map fun t=>(t.name,true)
theorem mW! {l:List TyS}{i:Nat}(hi:i<l.length):tyL (l.take (i+1))=tyL (l.take i)++[(l[i].name,true)]:=by
 rw[n2! hi];simp only[tyL,v9!,v8!,List.map_nil]
theorem lh! (ts:List TyS)(i:Nat):(ac! (ts.take i)).length<=(ac! ts).length:=by
 conv=>rhs;rw[<-x6! i ts,bH!,u4!]
 omega
theorem kL! {ts:List TyS}(h:aT! ts=true) {i:Nat}(hi:i<ts.length):∀p∈tyL (ts.take i),p.1≠ts[i].name:=by
 intro p hp e;obtain⟨t,ht,rfl⟩:=u6!.1 hp;obtain⟨m,hm,rfl⟩:=u0! ht;rw[x4!]at hm;rw[List.getElem_take]at e;exact(cj! h hi).1 m (by omega) hi (by omega) e
theorem li! {ts:List TyS}(h:aT! ts=true) {i:Nat}(hi:i<ts.length):∀j (hj:j<ts[i].rels.length),lookA (ac! (ts.take i)++aV! ts[i].name (ts[i].rels.take j)) ⟨ts[i].name,ts[i].rels[j].1⟩=none:=by
 intro j hj;refine au!.2 fun p a e=>?_;rcases u3!.1 a with a | a
 ·obtain⟨t,ht,a⟩:=List.mem_flatMap.1 a;obtain⟨r,hr,rfl⟩:=u6!.1 a;obtain⟨m,hm,rfl⟩:=u0! ht;rw[x4!]at hm;injection e with e1 e2
  rw[List.getElem_take]at e1;exact(cj! h hi).1 m (by omega) hi (by omega) e1
 ·obtain⟨r,hr,rfl⟩:=u6!.1 a;injection e with e1 e2
  obtain⟨m,hm,rfl⟩:=u0! hr;rw[x4!]at hm;rw[List.getElem_take]at e2;exact kb! (cj! h hi).2 j m (by omega) hj (by omega) e2
theorem Same.sub {S:Nat->Prop}{B:Nat}(hS:∀x,S x->x<B) {a b:World}(h:Below B a b):Same S a b:=fun x hx=>h.block x (hS x hx)
structure BkO (S:Nat->Prop)(B:Nat)(w:World)(b1 b2 b3:Nat)(ts:List TyS):Prop where
 R:BkR S w b1 (ac! ts)
 T:Mp prog 9 Value.string bV w b2 (tyL ts)
 W:BkW w B b3 (ac! ts)
 lo:B<=b1/\B<=b2/\B<=b3/\b1≠b2/\b1≠b3/\b2≠b3
theorem ji! {S:Nat->Prop}(ts:List TyS)(tv:Value)(w:World)(hS:∀x,S x->x<w.heap.size)(h:pU! S w ts tv)(hok:∀t∈ts,t.Ok)(hu:aT! ts=true)(hsz:(ac! ts).length<=1099511627776) :
  Calls prog 131 #[.agg #[tv]] w fun e w'=>∃b1 b2 b3,e= .returned (.agg #[.map (some b1),.map (some b2),.map (some b3)])/\BkO S w.heap.size w' b1 b2 b3 ts/\Below w.heap.size w w':=by
 obtain⟨ao,c,rfl,cl,ci,L⟩:=h.rows;have HC:=h! L;have bS:=h! hok;have HU:=h! hu;have bP:=h! hsz;have cg:=(Blk.made w #[.slice ao ts.length c] 26).cells;have ck:=@run_makeMap prog;clear h L hok hu hsz;go_enter func131,ntmps131
 go_wp2_with fail
 obtain⟨w1,aF⟩:=e! (w.alloc (.cells #[.slice ao ts.length c] 26));rw[<-aF];obtain⟨w2,N⟩:=e! (w1.alloc (.cells #[.map none,.map none,.map none] 229));rw[<-N];obtain⟨w3,a6⟩:=e! (w2.alloc (.map #[] 0));rw[<-a6];obtain⟨w4,a1⟩:=e! (w3.alloc (.map #[] 0));rw[<-a1];obtain⟨w5,a4⟩:=e! (w4.alloc (.map #[] 0));rw[<-a4];obtain⟨bc,aR⟩:=e! (w.heap.size+1+1+1+1+1);obtain⟨b3,aK⟩:=e! (w.heap.size+1+1+1+1);obtain⟨b2,ba⟩:=e! (w.heap.size+1+1+1);obtain⟨b1,aU⟩:=e! (w.heap.size+1+1);obtain⟨rc,b7⟩:=e! (w.heap.size+1);rw[<-aR,<-aK,<-ba,<-aU,<-b7];obtain⟨w6,az⟩:=e! (w5.alloc (.cells #[.map (some b1),.map (some b2),.map (some b3)] 229));rw[<-az];have e1:w1.heap.size=w.heap.size+1:=by rw[aF];simp
 have e2:w2.heap.size=w.heap.size+1+1:=by rw[N];simp[e1]
 have e3:w3.heap.size=w.heap.size+1+1+1:=by rw[a6];simp[e2]
 have e4:w4.heap.size=w.heap.size+1+1+1+1:=by rw[a1];simp[e3]
 have e5:w5.heap.size=w.heap.size+1+1+1+1+1:=by rw[a4];simp[e4]
 have br:Ext w w1:=xa! aF
 have bh:Ext w1 w2:=xa! N
 have b0:Ext w2 w3:=xa! a6
 have aD:Ext w3 w4:=xa! a1
 have ai:Ext w4 w5:=xa! a4
 have Y:Ext w5 w6:=xa! az
 have bz:Blk w2 rc #[.map none,.map none,.map none] 229:=by rw[b7,N,<-e1];exact Blk.made _ _ _
 have bF:Mp prog 121 r2V rvV w3 b1 []:=by rw[aU,a6,<-e2];exact Mp.made _
 have bK:Mp prog 9 Value.string bV w4 b2 []:=by rw[ba,a1,<-e3];exact Mp.made _
 have bl:Mp prog 9 Value.string wvV w5 b3 []:=by rw[aK,a4,<-e4];exact Mp.made _
 have bn:Blk w6 bc #[.map (some b1),.map (some b2),.map (some b3)] 229:=by rw[aR,az,<-e5];exact Blk.made _ _ _
 have c6:Hid (w.heap.size<=rc):=h! (by omega);have HD:=h! (show w.heap.size<=b1/\w.heap.size<=b2/\w.heap.size<=b3/\b1≠b2/\b1≠b3/\b2≠b3/\¬ M3 b1 b2 b3 rc/\¬ M3 b1 b2 b3 bc/\rc≠bc from by unfold M3;omega);have bX:=h! (bz.below (b0.trans (aD.trans (ai.trans Y))));have bB:=h! bn;have HR:Hid (BkR S w6 b1 []):=h! ⟨[],bF.below (aD.trans (ai.trans Y)),rfl,by simp⟩;have HM:=h! (bK.below (ai.trans Y));have HW:Hid (BkW w6 w.heap.size b3 []):=h! ⟨[],bl.below Y,⟨by simp,by simp⟩,fun n=>rfl⟩;have HX:Hid (Below w.heap.size w w6):=h! (br.trans (bh.trans (b0.trans (aD.trans (ai.trans Y)))));clear bz bF bK bl bn br bh b0 aD ai Y e1 e2 e3 e4 e5 aF N a6 a1 a4 az aR aU ba aK b7 cg;go_loopw [18] (fun ii wr=>∃i:Nat,i<=ts.length/\ii= .int .i64 i/\BkR S wr b1 (ac! (ts.take i))/\Mp prog 9 Value.string bV wr b2 (tyL (ts.take i))/\BkW wr w.heap.size b3 (ac! (ts.take i))/\pR! 9 (M3 b1 b2 b3) w.heap.size w6 wr) (fun ii _=>ts.length-(intOf ii).toNat)
 case atStart=>exact⟨0,by omega,rfl,HR.out,HM.out,HW.out,Kept.refl _ _⟩
 case round =>
  obtain⟨i,hi,rfl,hr,hm,hw,hq⟩:=hrel;have a8:=h! hr;have aE:=h! hm;have aA:=h! hw;have aw:=h! hq;clear HR HM HW hr hm hw;by_cases hlt:i<ts.length
  ·have f:Below w.heap.size w wr:=HX.out.trans hq.below;obtain⟨bb,Q,c8,b4,hb,c0,c1,y⟩:=HC.out i hlt;cases b4;have d0:=(f.cell (p:=⟨bb,Q+i*2,none⟩) (hS _ hb)).trans c0;have d1:=(f.cell (p:=⟨bb,Q+i*2+1,none⟩) (hS _ hb)).trans c1;have aM:=bS.out _ (n5! hlt);have aJ:=h! (hO! hlt);have bZ:=h! (mW! hlt);have ce:=h! (li! HU.out hlt);have c9:=h! (lh! ts (i+1));have c7:=h! hlt;have bv:=h! (kL! HU.out hlt);generalize ts[i]=t at *;obtain⟨tn,o⟩:=t;dsimp only at *;obtain⟨bo,aW⟩:=aM;dsimp only at bo aW;have ax:=h! (show tn.size<=maxLen from by unfold maxLen;omega);have bR:=h! aW;obtain⟨ar,aC,rfl,ch,cc,B⟩:=y.rows;have cf:=h! B;obtain⟨c8,cd⟩:=e! (Value.slice ar o.length aC);have hea:Ext wr (wr.alloc (.cells #[.string tn,.slice ar o.length aC] 176)):=Ext.alloc _ _;have bx:=h! (Blk.made wr #[.string tn,.slice ar o.length aC] 176);have ca:=bx.out.cells;have am:=h! ((aw.out.box bB.out (by decide) HD.out.2.2.2.2.2.2.2.1).below hea);have be:=am.out.cells;have cj:Hid (w.heap.size<=(wr.alloc (.cells #[.string tn,.slice ar o.length aC] 176)).heap.size):=h! (n6! f.size hea.size);have bT:=h! (pR!.next hq (pR!.of (e:=9) (M:=M3 b1 b2 b3) hea f.size))
   have aL:=h! (show ¬ M3 b1 b2 b3 wr.heap.size from fun h=>by
    have h1:=a8.out.lt;have h2:=aE.out.lt;have h3:=aA.out.lt;rcases h with h | h | h <;> omega)
   have bL:=h! (a8.out.same (hea.block _ a8.out.lt) (Same.sub hS (hea.mono f.size)));have cb:=h! (aA.out.up hea);have aq:=aE.out.below hea;have E:=aq.look strK bw! Tryz.underlying226 (Tryz.zeroValue4 _) false (cm! tn ax.out);rw[au!.2 bv.out]at E;obtain⟨wT,X,aQ,R⟩:=aq.store strK bw! Tryz.underlying226 (cm! tn ax.out) true;rw[bf! bv.out]at aQ;unfold lookV at E;unfold bV at E X;have bk:=h! (pR!.next bT.out (pR!.turned R (.inr (.inl rfl)) HD.out.2.1));have U:=h! (R.kept.blk bx.out (fun e=>aL.out (.inr (.inl e))));have bY:=U.out.cells;have a7:=h! (R.kept.blk am.out (fun e=>HD.out.2.2.2.2.2.2.2.1 (.inr (.inl e))));have bj:=h! (bL.out.same (R.kept.block _ HD.out.2.2.2.1) (Same.sub hS (R.below HD.out.2.1)));have bw:=h! (cb.out.turned R (fun e=>HD.out.2.2.2.2.2.1 e.symm) aq.notCells);have bA:=h! aQ;clear aQ R aq c0 c1 y B f hq aW bo;go_wp2_with fail
   clear E X ca be d0 d1 bY hlt hea;generalize wr.heap.size=tb at *;go_loopw [34] (fun jj wr=>∃j:Nat,j<=o.length/\jj= .int .i64 j/\BkR S wr b1 (ac! (ts.take i)++aV! tn (o.take j))/\Mp prog 9 Value.string bV wr b2 (tyL (ts.take i)++[(tn,true)])/\BkW wr w.heap.size b3 (ac! (ts.take i)++aV! tn (o.take j))/\pR! 9 (M3 b1 b2 b3) w.heap.size wT wr) (fun jj _=>o.length-(intOf jj).toNat)
   case atStart=>exact⟨0,by omega,rfl,by rw[List.take_zero];simpa [aV!] using bj.out,bA.out,by rw[List.take_zero];simpa [aV!] using bw.out,Kept.refl _ _⟩
   case round =>
    obtain⟨j,hj,rfl,hr,hm,hw,aG⟩:=hrel;have V:=h! hr;have aN:=h! hm;have aX:=h! hw;have ay:=h! aG;clear bj bA bw hr hm hw;by_cases hlt:j<o.length
    ·have f:Below w.heap.size w wr:=HX.out.trans (bk.out.below.trans aG.below);obtain⟨bb,Q,pv,b4,hb,c0,c1,c2,c3,c4,y⟩:=cf.out j hlt;cases b4;have d0:=(f.cell (p:=⟨bb,Q+j*5,none⟩) (hS _ hb)).trans c0;have d1:=(f.cell (p:=⟨bb,Q+j*5+1,none⟩) (hS _ hb)).trans c1;have d2:=(f.cell (p:=⟨bb,Q+j*5+2,none⟩) (hS _ hb)).trans c2;have d3:=(f.cell (p:=⟨bb,Q+j*5+3,none⟩) (hS _ hb)).trans c3;have d4:=(f.cell (p:=⟨bb,Q+j*5+4,none⟩) (hS _ hb)).trans c4;obtain⟨av,au,rfl,-⟩:=y.rows;have aa:=bR.out _ (n5! hlt);have bt:=h! (hN! (n:=tn) hlt);have aH:=h! (ce.out j hlt);have bQ:=h! hlt
     have b5:=h! (show(ac! (ts.take i)++aV! tn (o.take j)).length<=1099511627776 from by
      have h1:=c9.out;have h2:=bP.out;rw[aJ.out,u4!]at h1;have h3:(aV! tn (o.take j)).length<=(aV! tn o).length:=by simp only[aV!,x1!,x4!];omega
      rw[u4!];omega)
     generalize o[j]=x at *;obtain⟨xn,p⟩:=x;dsimp only at *;have ae:=h! (show xn.size<=maxLen from by have:=aa.1;unfold maxLen;omega)
     have bO:=h! (show(aN! (ac! (ts.take i)++aV! tn (o.take j)) xn).length<=1099511627776 from by
      have:=b5.out;unfold aN!;rw[x1!];exact n6! (x8! _ _) this)
     have bu:=h! (y.same (Same.sub hS f));clear c0 c1 c2 c3 c4 y aa hb;obtain⟨wa,aB⟩:=e! (wr.alloc (.cells #[.string xn,.int .i64 p.k,.string p.a,.string p.b,.slice av p.ps.length au] 181));obtain⟨wb,aY⟩:=e! (wa.alloc (.cells #[.string tn,.string xn] 121));obtain⟨wc,bp⟩:=e! (wb.alloc (.cells #[.int .i64 0,.string ByteArray.empty,.string ByteArray.empty,.slice none 0 0] 106));have s:Ext wr wa:=xa! aB
     have q:Ext wa wb:=xa! aY
     have A:Ext wb wc:=xa! bp
     have ea:wa.heap.size=wr.heap.size+1:=by rw[aB];simp
     have H:=h! (show Blk wa wr.heap.size #[.string xn,.int .i64 p.k,.string p.a,.string p.b,.slice av p.ps.length au] 181 from bm! aB);have ad:=h! (show Blk wb (wr.heap.size+1) #[.string tn,.string xn] 121 from by rw[aY,<-ea];exact Blk.made _ _ _);have ac:=h! (ay.out.box U.out (by decide) aL.out);have ah:=h! (ay.out.box a7.out (by decide) HD.out.2.2.2.2.2.2.2.1);have t1:=(ac.out.below s).cells;have t2:=(ac.out.below (s.trans q)).cells;have k2:=(ah.out.below (s.trans q)).cells;have k3:=(ah.out.below (s.trans (q.trans A))).cells;have r1:=H.out.cells;have r2:=(H.out.below q).cells;have r3:=(H.out.below (q.trans A)).cells;have f2:=ad.out.cells;have f3:=(ad.out.below A).cells;have bG:=V.out.same ((s.trans q).block _ V.out.lt) (Same.sub hS ((s.trans q).mono f.size));obtain⟨z,E,-,-,hz⟩:=bG.look ⟨tn,xn⟩ ⟨ax.out,ae.out⟩;rw[aH.out]at E;rw[hz aH.out]at E;unfold rvV rV r2V at E;dsimp only[RT.k,RT.a,RT.b,Option.isSome]at E;have bd:=V.out.same ((s.trans (q.trans A)).block _ V.out.lt) (Same.sub hS ((s.trans (q.trans A)).mono f.size));obtain⟨w4,X,bJ,Z⟩:=bd.store (k:=⟨tn,xn⟩) ⟨ax.out,ae.out⟩ (bu.out.same (Same.sub hS ((s.trans (q.trans A)).mono f.size))) (fun x hx e=>by have:=HD.out.1;have:=hS x hx;omega) aH.out;unfold rV r2V at X;dsimp only at X;have bH:w.heap.size<=wc.heap.size:=n6! f.size (s.trans (q.trans A)).size;have bW:=h! (show w.heap.size<=w4.heap.size from by rw[Z.size];exact bH);have aI:=h! (pR!.next ay.out (pR!.next (pR!.of (e:=9) (M:=M3 b1 b2 b3) (s.trans (q.trans A)) f.size) (pR!.turned Z (.inl rfl) HD.out.1)))
     have bU:=h! (show ¬ M3 b1 b2 b3 wr.heap.size from fun h=>by
      have h1:=V.out.lt;have h2:=aN.out.lt;have h3:=aX.out.lt;rcases h with h | h | h <;> omega)
     have a3:=h! (aI.out.box a7.out (by decide) HD.out.2.2.2.2.2.2.2.1);have aj:=h! (aI.out.box U.out (by decide) aL.out);have al:=h! (Z.kept.blk (H.out.below (q.trans A)) (fun e=>bU.out (.inl e)));have aO:=h! ((aX.out.up (s.trans (q.trans A))).turned Z (fun e=>HD.out.2.2.2.2.1 e.symm) bd.notCells);have aS:=h! bJ;have b9:=h! ((aN.out.below (s.trans (q.trans A))).kept Z.kept (fun e=>HD.out.2.2.2.1 e.symm));have t4:=aj.out.cells;have r4:=al.out.cells;have k4:=a3.out.cells;clear bG bd bJ Z bH hz aG bu ea s q A;subst bp aY aB;go_wp2_with fail
     clear t1 t2 k2 k3 r1 r2 r3 f2 f3 E X d0 d1 d2 d3 d4;generalize wr.heap.size=rb at *;obtain⟨wd,I⟩:=e! w4.drew;have F:Blk wd bc #[.map (some b1),.map (some b2),.map (some b3)] 229:=by rw[I];exact a3.out.drew
     have D:=(show Blk w4.drew tb _ _ from aj.out.drew);rw[<-I]at D;have G:Blk wd rb #[.string xn,.int .i64 p.k,.string p.a,.string p.b,.slice av p.ps.length au] 181:=by rw[I];exact al.out.drew
     have a9:=aO.out.up (show Below w4.heap.size w4 wd from by rw[I];exact(Below.refl _ _).drew);have ap:pR! 9 (· = b3) w.heap.size w4 wd:=by rw[I];exact(Kept.refl _ _).drew
     have an:w.heap.size<=wd.heap.size:=by rw[I];exact bW.out
     obtain⟨v,-,O,lw,hM,hR,hL,hl⟩:=a9.look xn ae.out;have a2:∀g,v.ownBlock=some g->g≠b3:=O.notMap hM.notCells;have af:∀g,v.ownBlock=some g->g≠bc:=O.notBlk F (by decide);have ab:∀g,v.ownBlock=some g->g≠tb:=O.notBlk D (by decide);have ag:∀g,v.ownBlock=some g->g≠rb:=O.notBlk G (by decide);refine as! 13 (Kept (fun x=>x<wd.heap.size/\v.ownBlock≠some x) wd) (by rw[<-I];exact Kept.refl _ _) (by kernel_rfl) (by kernel_rfl) (fun _ _ d _ _ h=>by cases d <;> exact h) ?_;rw[<-I];clear I;have h1:∀W,Kept (fun x=>x<wd.heap.size/\v.ownBlock≠some x) wd W->∀i,W.cell? ⟨bc,i,none⟩=(#[.map (some b1),.map (some b2),.map (some b3)]:Array Value)[i]?:=fun W h=>(h.blk F ⟨F.lt,fun e=>af _ e rfl⟩).cells;have h2:∀W,Kept (fun x=>x<wd.heap.size/\v.ownBlock≠some x) wd W->W.cell? ⟨tb,0,none⟩=some (.string tn):=fun W h=>(h.blk D ⟨D.lt,fun e=>ab _ e rfl⟩).cells 0;have h3:∀W,Kept (fun x=>x<wd.heap.size/\v.ownBlock≠some x) wd W->∀i,W.cell? ⟨rb,i,none⟩=(#[.string xn,.int .i64 p.k,.string p.a,.string p.b,.slice av p.ps.length au]:Array Value)[i]?:=fun W h=>(h.blk G ⟨G.lt,fun e=>ag _ e rfl⟩).cells
     have h4:∀W,Kept (fun x=>x<wd.heap.size/\v.ownBlock≠some x) wd W->(Instr.lookup 227 (.map (some b3)) (.string xn) false).run prog W= .ok v W:=fun W h=>by
      have:=(hM.same (h.block b3 ⟨hM.lt,fun e=>a2 _ e rfl⟩)).look strK bw! Tryz.underlying227 (Tryz.zeroValue169 W) false (cm! xn ae.out);rw[this];rcases hl with hl | ⟨hl,_,rfl⟩ <;> rw[hl] <;> rfl
     (refine WalkL.tk [0,1,2,3,4,5,6,7,8,9,10] ?_;(iterate 11 (refine l! ?_));refine TkL.n ?_)
     clear h1 h2 h3 h4;refine oL! 11 ?_;refine b! ?_;intro K hK;go_simp;have a0:Below wd.heap.size wd (wd.alloc (.cells #[.string tn] 9)):=(Below.refl _ _).alloc (n0! _) _;refine hK.out _ _ ((Kept.refl _ _).alloc (fun x hx=>hx.1) _) ?_;clear hK;refine oL! 12 ?_;refine b! ?_;intro K hK;have bf:(aN! (ac! (ts.take i)++aV! tn (o.take j)) xn).length<=1099511627776:=by have:=bO.out;exact this
     refine bD! hB! (.tmp 65) (.tmp 68) rfl rfl (O.below a0) (m:=1) (news:=txs [tn]) rfl rfl (fun j u hu=>?_) (ov! _) (by rw[af!,af!];simp only[u7!,v6!];omega) (by rw[af!,af!];simp only[u7!,v6!];omega) (by simp;omega) (fun v2 w2 hown2 N hg2=>?_)
     ·rw[Addr.add_lit,cell_of_row _ wd.heap.size (0+j) #[.string tn] 9 (0,0) (heap_alloc_new wd _),Nat.zero_add];simpa [txs] using hu
     have bm:Kept (fun x=>x<wd.heap.size/\v.ownBlock≠some x) wd w2:=⟨hg2.os.trans rfl,hg2.tape.trans rfl,hg2.output.trans rfl,n6! (by simp) hg2.size,fun x hx=>(hg2.block x (by have:=hx.1;simp;omega) (fun e=>hx.2 e.symm)).trans (Below.heap_alloc wd _ x hx.1)⟩;have bE:pR! 9 (· = b3) w.heap.size w4 w2:=pR!.next ap (pR!.next (pR!.of a0 an) (pR!.grown (O.below a0) hg2 (by simp;omega)));refine hK.out _ _ bm ?_;clear hK;simp only[Act.put,pA,pZ,pS];rw[<-bo!]at hown2;obtain⟨w7,b8,a5,bI⟩:=BkW.put (k:=⟨tn,xn⟩) (r:=p) hM hR hL hl a0 hg2 O hown2 N ae.out;refine WalkL.last (by kernel_rfl) (by kernel_rfl) ?_;refine b! ?_;intro K hK;go_simp;refine hK.out _ _ ?_;clear hK;have bM:=h! a5;have J:=h! (pR!.next bE (pR!.turned bI rfl HD.out.2.2.1));clear b8 a5 bI bE bm hown2 N hg2 a0 bf hM hR hL hl O a2 af ab ag F D G a9 ap an
     have bg:=h! (show BkR S w7 b1 (ac! (ts.take i)++aV! tn (o.take (j+1)))from by
      rw[bt.out,<-y6!];exact aS.out.same (J.out.block b1 (.inr ⟨HD.out.2.2.2.2.1,aS.out.lt,fun cs=>aS.out.notCells cs _ _⟩)) (Same.sub hS J.out.below))
     have aZ:=h! (b9.out.same (J.out.block b2 (.inr ⟨HD.out.2.2.2.2.2.1,b9.out.lt,fun cs=>b9.out.notCells cs _ _⟩)))
     have aV:=h! (show BkW w7 w.heap.size b3 (ac! (ts.take i)++aV! tn (o.take (j+1)))from by
      rw[bt.out,<-y6!];exact bM.out)
     have aP:=h! (pR!.next aI.out (J.out.mono fun x hx=>by
      rcases hx with hx | ⟨h1,h2⟩
      ·exact .inl hx
      ·exact .inr ⟨fun e=>h1 (.inr (.inr e)),h2⟩))
     have aT:=bQ.out;clear t4 r4 k4;go_wp2_with fail
     go_roundw
     case rel=>exact⟨j+1,by omega,by go_num,bg.out,aZ.out,aV.out,aP.out⟩
     case measure=>simp[intOf];omega
    ·obtain rfl:j=o.length:=by omega
     have bg:=h! (show BkR S wr b1 (ac! (ts.take (i+1)))from by have:=V.out;rw[u2!]at this;rw[aJ.out];exact this);have aZ:=h! (show Mp prog 9 Value.string bV wr b2 (tyL (ts.take (i+1)))from by rw[bZ.out];exact aN.out);have aV:=h! (show BkW wr w.heap.size b3 (ac! (ts.take (i+1)))from by have:=aX.out;rw[u2!]at this;rw[aJ.out];exact this);have aP:=h! (pR!.next bk.out ay.out);have aT:=c7.out;clear aG;go_wp2_with fail
     go_roundw
     case rel=>exact⟨i+1,by omega,by go_num,bg.out,aZ.out,aV.out,aP.out⟩
     case measure=>simp[intOf];omega
  ·obtain rfl:i=ts.length:=by omega
   rw[u2!]at a8 aE aA;have C:=h! (aw.out.box bX.out (by decide) HD.out.2.2.2.2.2.2.1);have b6:=h! (aw.out.box bB.out (by decide) HD.out.2.2.2.2.2.2.2.1);have bq:=HX.out.trans aw.out.below;have T:w.heap.size<=rc:=c6.out;have bC:=C.out.set_to 0 (.map (some b1)) rfl;have bs:=bC.set_to 1 (.map (some b2)) rfl;have bD:=bs.set_to 2 (.map (some b3)) rfl;have c1:=b6.out.cells;have c2:=C.out.cells;have f2:=C.out.free;have c5:=h! bD
   have bi:∀x,x≠rc->(((wr.setCell ⟨rc,0,none⟩ (.map (some b1))).setCell ⟨rc,1,none⟩ (.map (some b2))).setCell ⟨rc,2,none⟩ (.map (some b3))).heap[x]?=wr.heap[x]?:=fun x hx=>by
    rw[Below.heap_setCell _ _ _ x hx,Below.heap_setCell _ _ _ x hx,Below.heap_setCell _ _ _ x hx]
   have ak:=h! bi;have bN:Hid (Below w.heap.size w (((wr.setCell ⟨rc,0,none⟩ (.map (some b1))).setCell ⟨rc,1,none⟩ (.map (some b2))).setCell ⟨rc,2,none⟩ (.map (some b3)))):=h! (((bq.setCell T _).setCell T _).setCell T _);clear bC bs bD bq bi hq;go_wp2_with fail
   refine bodyPost_ret (results_cell_row rfl _ _ rc 229 #[.map (some b1),.map (some b2),.map (some b3)] (0,0) _ rfl c5.out Tryz.underlying229 rfl (by kernel_rfl)) rfl ⟨b1,b2,b3,rfl,⟨a8.out.same (ak.out _ fun e=>HD.out.2.2.2.2.2.2.1 (.inl e.symm)) (fun x hx=>ak.out x (by have:=hS x hx;omega)),aE.out.same (ak.out _ fun e=>HD.out.2.2.2.2.2.2.1 (.inr (.inl e.symm))),aA.out.keep (ak.out _ fun e=>HD.out.2.2.2.2.2.2.1 (.inr (.inr e.symm))) (fun x _ _ hx=>ak.out x fun e=>by
    obtain⟨cs,hx⟩:=hx;have:=C.out;rw[e,show wr.heap[rc]?=_ from C.out]at hx;injection hx with hx
    injection hx with _ h2 _
    revert h2
    decide),HD.out.1,HD.out.2.1,HD.out.2.2.1,HD.out.2.2.2.1,HD.out.2.2.2.2.1,HD.out.2.2.2.2.2.1⟩,bN.out⟩
theorem Own.mono {w:World}{B B':Nat}{e:TypeId}{sz:Nat}{v:Value}{xs:List Value}(h:Own w B e sz v xs)(hb:B'<=B):Own w B' e sz v xs:=by
 obtain⟨n,h⟩:=h;refine⟨n,h.1,?_⟩;rcases h.2 with hn | ⟨g,cap,cur,rfl,hbg,r⟩
 ·exact .inl hn
 ·exact .inr ⟨g,cap,cur,rfl,by omega,r⟩
theorem BkW.mono {w:World}{B B' b3:Nat}{P:List (R2 × RT)}(h:BkW w B b3 P)(hb:B'<=B):BkW w B' b3 P:=by
 obtain⟨lw,h1,h2,h3⟩:=h;exact⟨lw,h1,⟨fun x hx=>⟨(h2.rows x hx).1,(h2.rows x hx).2.mono hb⟩,h2.apart⟩,h3⟩
structure Bk (w:World)(b1 b2 b3:Nat)(ts:List TyS):Prop where
 R:BkR (· < w.heap.size) w b1 (ac! ts)
 T:Mp prog 9 Value.string bV w b2 (tyL ts)
 W:BkW w 0 b3 (ac! ts)
theorem Bk.up {w w':World}{b1 b2 b3:Nat}{ts:List TyS}(h:Bk w b1 b2 b3 ts)(hb:Below w.heap.size w w'):Bk w' b1 b2 b3 ts:=⟨h.R.up hb,h.T.below hb,h.W.up hb⟩
theorem BkR.mono {S S':Nat->Prop}{w:World}{b1:Nat}{P:List (R2 × RT)}(h:BkR S w b1 P)(hs:∀x,S x->S' x):BkR S' w b1 P:=by
 obtain⟨lr,h1,h2,h3⟩:=h;exact⟨lr,h1,h2,fun x hx=>(h3 x hx).mono hs⟩
theorem oP! (ts:List TyS)(tv:Value)(w:World)(h:pU! (· < w.heap.size) w ts tv)(hok:∀t∈ts,t.Ok)(hu:aT! ts=true)(hsz:(ac! ts).length<=1099511627776) :
  Calls prog 131 #[.agg #[tv]] w fun e w'=>∃b1 b2 b3,e= .returned (.agg #[.map (some b1),.map (some b2),.map (some b3)])/\Bk w' b1 b2 b3 ts/\Below w.heap.size w w':=by
 refine(ji! ts tv w (fun _ hx=>hx) h hok hu hsz).mono ?_;rintro e w' ⟨b1,b2,b3,rfl,hb,hw⟩;exact⟨b1,b2,b3,rfl,⟨hb.R.mono fun x hx=>n1! hx hw.size,hb.T,hb.W.mono (v1! _)⟩,hw⟩
theorem dx! {S:Nat->Prop}{w:World}{ao:Option Addr}{l:List ByteArray}{c:Nat}(h:Sl S w 1 (.slice ao l.length c) (txs l)):∀i (hi:i<l.length),∃b off,ao=some ⟨b,off,none⟩/\S b/\w.cell? ⟨b,off+i,none⟩=some (.string l[i]):=by
 obtain⟨a0,n',c',hv,h1,h2,h3,h4,h5⟩:=h;cases hv;intro i hi;obtain⟨b,off,rfl,hb,hc⟩:=h5 (fun e=>by have:=congrArg List.length e;rw[af!]at this;simp only[v6!]at this;omega);exact⟨b,off,rfl,hb,hc i _ (by simp[txs,hi])⟩
theorem hZ! (w:World)(ps:List RT)(k:Int)(a b:ByteArray)(pv:Value)(g:Nat)(cap:Array Value)(eg:∀args W,(callFunc g args).run prog W= .ok (.enter g args) W)(q:RT->Bool)(hat:RTAt (· < w.heap.size) w (.mk k a b ps) pv)(hf:∀i (hi:i<ps.length) W pvi,Below w.heap.size w W->RTAt (· < W.heap.size) W ps[i] pvi->Calls prog g (#[rV ps[i] pvi]++cap) W fun e W'=>e= .returned (.bool (q ps[i]))/\Below W.heap.size W W') :
  Calls prog 223 #[pv,.func (.func g) #[] cap] w fun e w'=>∃k:Int,e= .returned (.int .i64 k)/\(0<=k↔ps.any q=true)/\Below w.heap.size w w':=by
 obtain⟨ao,c,rfl,a2,a3,f⟩:=hat.rows;dsimp only[RT.ps]at a2 f;have HC:=h! f;have HF:=h! hf;clear hat f hf;go_enter func223,ntmps223
 go_wp2_with fail
 go_loopw [5,8] (fun _ ii wr=>∃i:Nat,i<=ps.length/\ii= .int .i64 i/\(∀j (hj:j<ps.length),j<i->q ps[j]=false)/\Below w.heap.size w wr) (fun _ ii _=>ps.length-(intOf ii).toNat)
 case atStart=>exact⟨0,by omega,rfl,fun _ _ h=>absurd h (by omega),Below.refl _ _⟩
 case round =>
  obtain⟨i,hi,rfl,l,d⟩:=hrel;have n:=h! l;clear l;by_cases hlt:i<ps.length
  ·have u:=h! (fun h=>ah! (p:=fun j hj=>q ps[j]=false) n.out hlt h);have s:=h! (fun(h:q ps[i]=true)=>(show ps.any q=true from x5!.2 ⟨_,n5! hlt,h⟩));obtain⟨A,r,a1,a0,B,c0,c1,c2,c3,m⟩:=HC.out i hlt;cases a0;have d0:=(d.cell (p:=⟨A,r+i*4,none⟩) B).trans c0;have d1:=(d.cell (p:=⟨A,r+i*4+1,none⟩) B).trans c1;have d2:=(d.cell (p:=⟨A,r+i*4+2,none⟩) B).trans c2;have d3:=(d.cell (p:=⟨A,r+i*4+3,none⟩) B).trans c3;have y:=h! (HF.out i hlt wr a1 d (m.up d));clear c0 c1 c2 c3 m B;unfold rV at y;generalize ps[i]=p at *;have z:=h! d;clear d;cases v:q p with
   | true =>
    rw[v]at y;have HT:=h! (s.out v);clear u s v;go_wp2_with fail
    refine y.out.mono ?_;rintro e w5 ⟨rfl,o⟩;have t:=h! (z.out.trans (o.mono z.out.size));clear y o d0 d1 d2 d3;go_wp2_with fail
    go_ret
    exact⟨_,rfl,⟨fun _=>HT.out,fun _=>by omega⟩,t.out⟩
   | false =>
    rw[v]at y;have HN:=h! (u.out v);clear u s v;go_wp2_with fail
    refine y.out.mono ?_;rintro e w5 ⟨rfl,o⟩;have t:=h! (z.out.trans (o.mono z.out.size));clear y o d0 d1 d2 d3;go_wp2_with fail
    go_roundw
    case rel=>exact⟨i+1,by omega,by go_num,HN.out,t.out⟩
    case measure=>simp[intOf];omega
  ·obtain rfl:i=ps.length:=by omega
   have HN:=h! (show ¬ ps.any q=true from fun h=>by
    obtain⟨x,hx,v⟩:=x5!.1 h;obtain⟨j,hj,rfl⟩:=u0! hx;rw[n.out j hj hj]at v;cases v)
   have z:=h! d;clear d;go_wp2_with fail
   go_ret
   exact⟨_,rfl,⟨fun h=>absurd h (by omega),fun h=>absurd h HN.out⟩,z.out⟩
theorem eU! (w:World)(ps:List RT)(k:Int)(a b:ByteArray)(pv:Value)(g:Nat)(cap:Array Value)(eg:∀args W,(callFunc g args).run prog W= .ok (.enter g args) W)(q:RT->Bool)(hat:RTAt (· < w.heap.size) w (.mk k a b ps) pv)(hf:∀i (hi:i<ps.length) W pvi,Below w.heap.size w W->RTAt (· < W.heap.size) W ps[i] pvi->Calls prog g (#[rV ps[i] pvi]++cap) W fun e W'=>e= .returned (.bool (q ps[i]))/\Below W.heap.size W W') :
  Calls prog 175 #[pv,.func (.func g) #[] cap] w fun e w'=>e= .returned (.bool (ps.any q))/\Below w.heap.size w w':=by
 have HI:=h! (hZ! w ps k a b pv g cap eg q hat hf);clear hat hf;go_enter func175,ntmps175
 go_wp2_with fail
 refine HI.out.mono ?_;rintro e w2 ⟨k,rfl,hk,hb⟩;have HK:=h! hk;have HB:=h! hb;clear HI hk hb;by_cases h0:0<=k
 ·have HM:=h! (HK.out.1 h0);go_wp2_with fail
  go_ret
  exact⟨by rw[HM.out];simp[],HB.out⟩
 ·have HM:Hid (ps.any q=false):=h! (by cases h:ps.any q with | false=>rfl | true=>exact absurd (HK.out.2 h) h0);go_wp2_with fail
  go_ret
  exact⟨by rw[HM.out];simp[h0],HB.out⟩
end Go.Proofs.YtlhaghoajpglaaaGreat
namespace Go.Proofs.YtlhaghoajpglaaaGreat
open Go Go.RowKit Go.Maps Go.Shelf Go.Proofs.Tryz
mutual
def RT.pnamed (P:List (R2 × RT))(typ:ByteArray):RT->Bool
 | .mk k a b ps=>if k=2 then(lookA P ⟨typ,a⟩).isSome else if k=3 then(lookA P ⟨typ,a⟩).isSome&&decide (0<(aN! P b).length)else gP! P typ ps
def gP! (P:List (R2 × RT))(typ:ByteArray):List RT->Bool | []=>true | r::rs=>r.pnamed P typ&&gP! P typ rs
end
theorem dH! (P:List (R2 × RT))(typ:ByteArray):∀l:List RT,gP! P typ l=l.all fun r=>r.pnamed P typ
 | []=>rfl
 | r::rs=>by rw[gP!,List.all_cons,dH! P typ rs]
theorem jw! {b1 b2 b3:Nat}{typ:ByteArray}(p:RT)(pv:Value)(X Y:Nat)(w:World)(g:Bool)(hX:Blk w X #[.map (some b1),.map (some b2),.map (some b3)] 229)(hY:Blk w Y #[.string typ] 9)(hat:RTAt (· < w.heap.size) w p pv)
  (h:Calls prog 132 #[.agg #[.map (some b1),.map (some b2),.map (some b3)],.string typ,rV p pv] (w.alloc (.cells #[.int .i64 p.k,.string p.a,.string p.b,pv] 106)) fun e w'=>e= .returned (.bool g)/\Below w.heap.size w w') :
  Calls prog 192 #[rV p pv,.pointer (some ⟨X,0,none⟩),.pointer (some ⟨Y,0,none⟩)] w fun e w'=>e= .returned (.bool (!g))/\Below w.heap.size w w':=by
 have HC:=h! h;obtain⟨ao,c,rfl,-⟩:=hat.rows;have hb:=(Blk.made w #[.int .i64 p.k,.string p.a,.string p.b,.slice ao p.ps.length c] 106).cells;have hx:=(hX.alloc (.cells #[.int .i64 p.k,.string p.a,.string p.b,.slice ao p.ps.length c] 106)).cells;have hy:=(hY.alloc (.cells #[.int .i64 p.k,.string p.a,.string p.b,.slice ao p.ps.length c] 106)).cells;clear h hX hY hat;unfold rV at HC ⊢;go_enter func192,ntmps192
 go_wp2_with fail
 refine HC.out.mono ?_;rintro e w2 ⟨rfl,d⟩;have HB:=h! d;clear HC hb hx hy d;go_wp2_with fail
 go_ret
 exact⟨rfl,HB.out⟩
theorem jc! {b1 b2 b3:Nat}{ts:List TyS}(typ:ByteArray)(htyp:typ.size<=maxLen)(r:RT):∀(pv:Value)(w:World),Bk w b1 b2 b3 ts->RTAt (· < w.heap.size) w r pv->r.Ok ->
  Calls prog 132 #[.agg #[.map (some b1),.map (some b2),.map (some b3)],.string typ,rV r pv] w fun e w'=>e= .returned (.bool (r.pnamed (ac! ts) typ))/\Below w.heap.size w w':=by
 induction r using RT.ind with
 | h r ih =>
 intro pv w hbk hat hok;obtain⟨-,B,C,y⟩:=r.ok_iff.1 hok;obtain⟨k,Q,U,ps⟩:=r;obtain⟨I,c,rfl,-⟩:=hat.rows;dsimp only[RT.k,RT.a,RT.b,RT.ps]at B C y ih;have IH:=h! ih;have a2:=h! y;have A:=h! (show Q.size<=maxLen from by unfold maxLen;omega);have a3:=h! (show U.size<=maxLen from by unfold maxLen;omega);unfold rV;dsimp only[RT.k,RT.a,RT.b,RT.ps];clear ih y B C hok;by_cases k2:k=2
 ·subst k2;have J:=h! (show(RT.mk 2 Q U ps).pnamed (ac! ts) typ=(lookA (ac! ts) ⟨typ,Q⟩).isSome from by rw[RT.pnamed];rfl);obtain⟨T,f⟩:=e! (w.alloc (.cells #[.map (some b1),.map (some b2),.map (some b3)] 229));obtain⟨X,j⟩:=e! (T.alloc (.cells #[.string typ] 9));obtain⟨Z,n⟩:=e! (X.alloc (.cells #[.int .i64 2,.string Q,.string U,.slice I ps.length c] 106));have V:T.heap.size=w.heap.size+1:=by rw[f];simp
  have H:X.heap.size=w.heap.size+1+1:=by rw[j];simp[V]
  have t:Ext w T:=xa! f
  have m:Ext T X:=xa! j
  have g:Ext X Z:=xa! n
  have Y:=h! (show Blk Z w.heap.size #[.map (some b1),.map (some b2),.map (some b3)] 229 from Blk.below (bm! f) (m.trans g));have M:=h! (show Blk Z (w.heap.size+1) #[.string typ] 9 from Blk.below (by rw[j,<-V];exact Blk.made _ _ _) g);have N:=h! (show Blk Z (w.heap.size+1+1) #[.int .i64 2,.string Q,.string U,.slice I ps.length c] 106 from by rw[n,<-H];exact Blk.made _ _ _);have u:Hid (Below w.heap.size w Z):=h! (t.trans (m.trans g));have x:=h! (hbk.up u.out);obtain⟨z,l,d,-,-⟩:=x.out.R.look ⟨typ,Q⟩ ⟨htyp,A.out⟩;obtain⟨K,O,s,-⟩:=d.rows;generalize hok:(lookA (ac! ts) ⟨typ,Q⟩).isSome=ok at *;unfold rvV rV r2V at l;dsimp only at l;rw[s]at l;have L:Ext Z (Z.alloc (.cells #[.int .i64 z.1.k,.string z.1.a,.string z.1.b,.slice K z.1.ps.length O] 106)):=Ext.alloc _ _;have x3:=Y.out.cells;have y3:=M.out.cells;have z3:=N.out.cells;have x4:=(Y.out.below L).cells;have z4:=(N.out.below L).cells;have q:Hid (Below w.heap.size w (Z.alloc (.cells #[.int .i64 z.1.k,.string z.1.a,.string z.1.b,.slice K z.1.ps.length O] 106))):=h! (Ext.trans u.out L);have o:=h! (x.out.up L);clear hbk d s hat V H t m g L;subst n j f;go_enter func132,ntmps132
  go_wp2_with fail
  go_ret
  exact⟨by rw[J.out];simp,q.out⟩
 by_cases k3:k=3
 ·subst k3;have J:=h! (show(RT.mk 3 Q U ps).pnamed (ac! ts) typ=((lookA (ac! ts) ⟨typ,Q⟩).isSome&&decide (0<(aN! (ac! ts) U).length))from by rw[RT.pnamed];rfl);clear k2;obtain⟨T,f⟩:=e! (w.alloc (.cells #[.map (some b1),.map (some b2),.map (some b3)] 229));obtain⟨X,j⟩:=e! (T.alloc (.cells #[.string typ] 9));obtain⟨Z,n⟩:=e! (X.alloc (.cells #[.int .i64 3,.string Q,.string U,.slice I ps.length c] 106));have V:T.heap.size=w.heap.size+1:=by rw[f];simp
  have H:X.heap.size=w.heap.size+1+1:=by rw[j];simp[V]
  have t:Ext w T:=xa! f
  have m:Ext T X:=xa! j
  have g:Ext X Z:=xa! n
  have Y:=h! (show Blk Z w.heap.size #[.map (some b1),.map (some b2),.map (some b3)] 229 from Blk.below (bm! f) (m.trans g));have M:=h! (show Blk Z (w.heap.size+1) #[.string typ] 9 from Blk.below (by rw[j,<-V];exact Blk.made _ _ _) g);have N:=h! (show Blk Z (w.heap.size+1+1) #[.int .i64 3,.string Q,.string U,.slice I ps.length c] 106 from by rw[n,<-H];exact Blk.made _ _ _);have u:Hid (Below w.heap.size w Z):=h! (t.trans (m.trans g));have x:=h! (hbk.up u.out);obtain⟨z,l,d,-,-⟩:=x.out.R.look ⟨typ,Q⟩ ⟨htyp,A.out⟩;obtain⟨K,O,s,-⟩:=d.rows;generalize hok:(lookA (ac! ts) ⟨typ,Q⟩).isSome=ok at *;unfold rvV rV r2V at l;dsimp only at l;rw[s]at l;have L:Ext Z (Z.alloc (.cells #[.int .i64 z.1.k,.string z.1.a,.string z.1.b,.slice K z.1.ps.length O] 106)):=Ext.alloc _ _;have x3:=Y.out.cells;have y3:=M.out.cells;have z3:=N.out.cells;have x4:=(Y.out.below L).cells;have z4:=(N.out.below L).cells;have q:Hid (Below w.heap.size w (Z.alloc (.cells #[.int .i64 z.1.k,.string z.1.a,.string z.1.b,.slice K z.1.ps.length O] 106))):=h! (Ext.trans u.out L);have o:=h! (x.out.up L);obtain⟨v,a4,F,-⟩:=o.out.W.look U a3.out;obtain⟨vo,vn,vc,rfl,D,-,-⟩:=F.sl.len;rw[af!,Nat.mul_one]at D;subst D;clear F;clear hbk d s hat V H t m g L;subst n j f;cases ok with
  | false =>
   go_enter func132,ntmps132
   go_wp2_with fail
   go_ret
   exact⟨by rw[J.out];simp,q.out⟩
  | true =>
   by_cases hp:0<(aN! (ac! ts) U).length
   ·have a1:(0:Int)<((aN! (ac! ts) U).length:Int):=by omega
    have HP:=h! hp;clear hp;go_enter func132,ntmps132
    go_wp2_with fail
    go_ret
    exact⟨by rw[J.out,v2! HP.out];simp,q.out⟩
   ·have a1:¬ ((0:Int)<((aN! (ac! ts) U).length:Int)):=by omega
    have HP:=h! hp;clear hp;go_enter func132,ntmps132
    go_wp2_with fail
    go_ret
    exact⟨by rw[J.out,v3! HP.out];simp,q.out⟩
 have q2:(k == 2)=false:=by rw[n7!];exact k2
 have q3:(k == 3)=false:=by rw[n7!];exact k3
 have J:=h! (show(RT.mk k Q U ps).pnamed (ac! ts) typ=ps.all fun r=>r.pnamed (ac! ts) typ from by rw[RT.pnamed,if_neg k2,if_neg k3,dH!]);clear k2 k3;obtain⟨T,f⟩:=e! (w.alloc (.cells #[.map (some b1),.map (some b2),.map (some b3)] 229));obtain⟨X,j⟩:=e! (T.alloc (.cells #[.string typ] 9));obtain⟨Z,n⟩:=e! (X.alloc (.cells #[.int .i64 k,.string Q,.string U,.slice I ps.length c] 106));have V:T.heap.size=w.heap.size+1:=by rw[f];simp
 have H:X.heap.size=w.heap.size+1+1:=by rw[j];simp[V]
 have t:Ext w T:=xa! f
 have m:Ext T X:=xa! j
 have g:Ext X Z:=xa! n
 have Y:=h! (show Blk Z w.heap.size #[.map (some b1),.map (some b2),.map (some b3)] 229 from Blk.below (bm! f) (m.trans g));have M:=h! (show Blk Z (w.heap.size+1) #[.string typ] 9 from Blk.below (by rw[j,<-V];exact Blk.made _ _ _) g);have N:=h! (show Blk Z (w.heap.size+1+1) #[.int .i64 k,.string Q,.string U,.slice I ps.length c] 106 from by rw[n,<-H];exact Blk.made _ _ _);have u:Hid (Below w.heap.size w Z):=h! (t.trans (m.trans g));have x:=h! (hbk.up u.out);obtain⟨z,l,d,-,-⟩:=x.out.R.look ⟨typ,Q⟩ ⟨htyp,A.out⟩;obtain⟨K,O,s,-⟩:=d.rows;generalize hok:(lookA (ac! ts) ⟨typ,Q⟩).isSome=ok at *;unfold rvV rV r2V at l;dsimp only at l;rw[s]at l;have L:Ext Z (Z.alloc (.cells #[.int .i64 z.1.k,.string z.1.a,.string z.1.b,.slice K z.1.ps.length O] 106)):=Ext.alloc _ _;have x3:=Y.out.cells;have y3:=M.out.cells;have z3:=N.out.cells;have x4:=(Y.out.below L).cells;have z4:=(N.out.below L).cells;have q:Hid (Below w.heap.size w (Z.alloc (.cells #[.int .i64 z.1.k,.string z.1.a,.string z.1.b,.slice K z.1.ps.length O] 106))):=h! (Ext.trans u.out L);have o:=h! (x.out.up L);have a5:∀(fn:Fn) (first cap:Array Value) (W:World),(Instr.makeFunc fn first cap).run prog W= .ok (.func fn first cap) W:=fun _ _ _ _=>rfl
 have E:=h! (eU! _ ps k Q U _ 192 #[.pointer (some ⟨w.heap.size,0,none⟩),.pointer (some ⟨w.heap.size+1,0,none⟩)] (enters_of func192 (by kernel_rfl) rfl) (fun p=>!p.pnamed (ac! ts) typ) (hat.up q.out) (fun i hi W pvi hW hati=>jw! ps[i] pvi _ _ W _ ((Y.out.below L).below hW) ((M.out.below L).below hW) hati
  ((IH.out ps[i] (n5! hi) pvi _ ((o.out.up hW).up (Ext.alloc _ _)) (hati.up (Ext.alloc _ _)) (a2.out _ (n5! hi))).mono fun e w' hr=>⟨hr.1,Ext.trans (Ext.alloc _ _) hr.2⟩)))
 clear hbk d s hat V H t m g L;subst n j f;go_enter func132,ntmps132
 go_wp2_with fail
 refine E.out.mono ?_;rintro e w5 ⟨rfl,G⟩;have a0:=h! (q.out.trans (G.mono q.out.size));clear E G x3 y3 z3 x4 z4 l;go_wp2_with fail
 go_ret
 exact⟨by rw[J.out,List.not_any_eq_all_not];simp,a0.out⟩
end Go.Proofs.YtlhaghoajpglaaaGreat
namespace Go.Proofs.YtlhaghoajpglaaaGreat
open Go Go.Maps Go.RowKit Go.Proofs.Tryz
def UpR (l:List R2):Prop:=l.Pairwise fun a b=>ltR a b=true
section
variable {F : Fence} {n : Nat} {P : Program} (w : World) {ops : Array Oper} {rest : List Oper} {o : Oper} {a : Act} {Q : Exit -> Act -> World -> Prop} {κ α : Type} {kv : κ -> Value} {ev : α -> Value} {b : Nat} {l : List (κ × α)}
theorem bE! (hg:o.guard=none)(m:Operand)(t:TypeId)(hop:o.op=Op.range t m) {k e:TypeId}(ht:P.underlying t=some (.map k e))(hm:a.eval m= .map (some b))(h:Mp P k kv ev w b l)
  (hK:∀w',Rng P k kv ev w' b w.heap.size l l->Below w.heap.size w w'->w'.heap.size=w.heap.size+1->wpListIn F n P ops Q rest (a.put o.dst (.pointer (some ⟨w.heap.size,0,none⟩))) w'):wpListIn F n P ops Q (o::rest) a w:=by
 refine wpListIn_plain hg fun K' hK'=>?_;obtain⟨w',d,h1,h2,h3⟩:=h.range ht;unfold Oper.wpIn;refine⟨by simp[Oper.about,hop],?_⟩;rw[Oper.semAt_plain F _ _ (by rw[hop];intro c hc';cases hc')];simp[execOp,hop,hm,d,Result.andThen];exact hK' _ _ (hK w' h1 h2 h3)
theorem bG! (hg:o.guard=none)(it:Operand)(hop:o.op=Op.next it false) {k:TypeId}{r:Nat}{rem:List (κ × α)}(hit:a.eval it= .pointer (some ⟨r,0,none⟩))(h:Rng P k kv ev w b r l rem)
  (hDone:rem=[]->wpListIn F n P ops Q rest (a.put o.dst (.tuple #[.bool false])) w)
  (hMore:∀pre p post w',rem=pre++p::post->Rng P k kv ev w' b r l (pre++post)->Kept (· ≠ r) w w'->w'.heap.size=w.heap.size->(Instr.entry (.pointer (some ⟨r,0,none⟩))).run P w' = .ok (.tuple #[kv p.1,ev p.2]) w' ->
   wpListIn F n P ops Q rest (a.put o.dst (.tuple #[.bool true,kv p.1,ev p.2])) w'):wpListIn F n P ops Q (o::rest) a w:=by
 refine wpListIn_plain hg fun K' hK'=>?_;unfold Oper.wpIn;refine⟨by simp[Oper.about,hop],?_⟩;rw[Oper.semAt_plain F _ _ (by rw[hop];intro c hc';cases hc')];rcases h.next o.type with⟨h0,hrun⟩|⟨pre,p,post,w',h0,hrun,h1,h2,h3,h4⟩
 ·simp[execOp,hop,hit,hrun,Result.andThen];exact hK' _ _ (hDone h0)
 ·simp[execOp,hop,hit,hrun,Result.andThen];exact hK' _ _ (hMore pre p post w' h0 h1 h2 h3 h4)
end
theorem Kept.grown {w w':World}{r:Nat}(h:Kept (· ≠ r) w w'):w.grownBy w' (some r):=⟨h.os,h.tape,h.output,h.size,fun k _ hk=>h.block k fun e=>hk (by rw[e])⟩
theorem do! {w w':World}(h:Below w.heap.size w w'):w.grownBy w' none:=⟨h.os,h.tape,h.output,h.size,fun k hk _=>h.block k hk⟩
theorem Rng.walk {P:Program}{k:TypeId}{κ α:Type}{kv:κ->Value}{ev:α->Value}{w:World}{b r:Nat}{l rem:List (κ × α)}(h:Rng P k kv ev w b r l rem):∃o:Obj,w.heap[r]?=some o/\o.isWalk=true:=by
 obtain⟨es,a1,a0,a2,c0,_,_,_,_,hr,_⟩:=h;exact⟨_,hr,rfl⟩
theorem Rng.walks {P:Program}{k:TypeId}{κ α:Type}{kv:κ->Value}{ev:α->Value}{w w':World}{b r:Nat}{l rem:List (κ × α)}(h:Rng P k kv ev w b r l rem)(hk:KeepsWalks w w'):Rng P k kv ev w' b r l rem:=by
 obtain⟨es,c,a,e,c0,hb,hs,hm,a0,hr,d⟩:=h;exact⟨es,c,a,e,c0,hk.same b _ hb rfl,hs,hm,a0,hk.same r _ hr rfl,d⟩
abbrev blR (l:List R2):List (R2 × Bool):=l.map fun p=>(p,true)
theorem oI! (l:List R2)(a:R2)(h:a∉l):putA (blR l) a true=blR (l++[a]):=by
 rw[bf! (fun p hp e=>h (by obtain⟨x,hx,rfl⟩:=u6!.1 hp;exact e▸hx))];simp[blR]
theorem iX! (l:List R2)(a:R2)(h:a∈l):putA (blR l) a true=blR l:=by
 induction l with
 | nil=>simp at h
 | cons x r ih =>
  simp only[blR,v8!,putA]at *;by_cases e:x=a
  ·subst e;simp
  ·rw[if_neg e];rw[ih (by simpa [Ne.symm e] using h)]
def jt! (t:TyS):List R2:=⟨t.name,ByteArray.empty⟩::t.rels.map fun r=>⟨t.name,r.1⟩
def an! (ts:List TyS):List R2:=ts.flatMap jt!
theorem gi! {l:List TyS}{i:Nat}(hi:i<l.length):an! (l.take (i+1))=an! (l.take i)++jt! l[i]:=by
 rw[n2! hi];simp only[an!,x9!,y5!,List.flatMap_nil,List.append_nil]
theorem pB! {s:ByteArray}(h:ownB s=true):s≠ByteArray.empty:=by
 rintro rfl;revert h
 decide
theorem eq! {ts:List TyS}(hp:br! ts=true):(an! ts).Nodup↔aT! ts=true:=by
 have c:∀t∈ts,∀r∈t.rels,r.1≠ByteArray.empty:=fun t ht r hr=>by
  have g:=u8!.1 hp t ht;unfold tyOk at g;rw[v0!]at g;have f:=u8!.1 g.2 r hr;unfold relOk at f;simp only[v0!]at f;exact pB! f.1.2
 constructor
 ·intro h;refine mj! fun j d=>⟨fun m hm _ hmj i=>?_,?_⟩
  ·have g:=x3!.1 (List.pairwise_flatMap.1 h).2 m j hm d hmj;exact g ⟨ts[m].name,ByteArray.empty⟩ y4! ⟨ts[j].name,ByteArray.empty⟩ y4! (by rw[i])
  ·have g:=(List.pairwise_flatMap.1 h).1 ts[j] (n5! d);have f:=(List.nodup_cons.1 (show(jt! ts[j]).Nodup from g)).2;refine List.Pairwise.map _ ?_ (List.Pairwise.of_map _ (R:=fun a b:ByteArray × RT=>a.1≠b.1) ?_ f)
   ·exact fun a b h=>h
   ·exact fun a b hne e=>hne (by rw[e])
 ·intro h;refine List.pairwise_flatMap.2 ⟨fun t ht=>?_,x3!.2 fun m j hm d hmj=>?_⟩
  ·obtain⟨j,d,rfl⟩:=u0! ht;refine List.nodup_cons.2 ⟨fun hm=>?_,?_⟩
   ·obtain⟨r,hr,i⟩:=u6!.1 hm;injection i with _ i
    exact c _ ht r hr i
   ·have g:=(cj! h d).2;refine List.Pairwise.map _ ?_ (List.Pairwise.of_map _ (R:=fun a b:ByteArray × RT=>a.1≠b.1) (fun a b h=>h) g);exact fun a b hne e=>hne (by injection e)
  ·intro x hx y hy e;subst e;have g:=(cj! h d).1 m hm d hmj
   have n1:x.t=ts[m].name:=by
    rcases v7!.1 hx with rfl | hx
    ·rfl
    ·obtain⟨r,_,rfl⟩:=u6!.1 hx;rfl
   have n2:x.t=ts[j].name:=by
    rcases v7!.1 hy with rfl | hy
    ·rfl
    ·obtain⟨r,_,rfl⟩:=u6!.1 hy;rfl
   exact g (n1.symm.trans n2)
structure pP! (L N:List R2):Prop where
 mem:∀x,x∈N↔x∈L
 le:N.length<=L.length
 eq:N.length=L.length↔L.Nodup
theorem pP!.nil:pP! [] []:=⟨fun _=>Iff.rfl,n0! _,by simp⟩
def addR (N:List R2)(x:R2):List R2:=if x∈N then N else N++[x]
theorem ok! (N:List R2)(x:R2):(addR N x).length<=N.length+1:=by
 unfold addR;split <;> simp
theorem oj! (N:List R2)(x y:R2):y∈addR N x↔y∈N\/y=x:=by
 unfold addR;split
 ·rename_i h
  exact⟨.inl,fun hy=>hy.elim id fun e=>e▸h⟩
 ·simp
theorem dG! (N:List R2)(x:R2):putA (blR N) x true=blR (addR N x):=by
 unfold addR;split
 ·rename_i h;exact iX! N x h
 ·rename_i h;exact oI! N x h
theorem pP!.step {L N:List R2}(h:pP! L N)(x:R2):pP! (L++[x]) (addR N x):=by
 refine⟨fun y=>by rw[oj!,h.mem,u3!,n9!],?_,?_⟩
 ·have:=ok! N x;have:=h.le;simp;omega
 ·unfold addR;split
  ·rename_i hx
   have h1:=h.le;have h2:=(h.mem x).1 hx;rw[u4!,List.nodup_append];simp only[u7!,v6!];constructor
   ·omega
   ·rintro⟨_,_,c⟩;exact absurd rfl (c x h2 x (by simp))
  ·rename_i hx
   have h2:¬ x∈L:=fun c=>hx ((h.mem x).2 c);rw[u4!,u4!,List.nodup_append];simp only[u7!,v6!];constructor
   ·intro c;refine⟨h.eq.1 (by omega),by simp,fun a ha b hb=>?_⟩;obtain rfl:=n9!.1 hb;exact fun e=>h2 (e▸ha)
   ·rintro⟨c,_,_⟩;have:=h.eq.2 c;omega
theorem pP!.lt {L N:List R2}(h:pP! L N):N.length<L.length↔¬ L.Nodup:=by
 rw[<-h.eq];have:=h.le;omega
theorem aY! {ts:List TyS}{p:R2 × RT}:p∈ac! ts↔∃t∈ts,∃r∈t.rels,p=(⟨t.name,r.1⟩,r.2):=by
 unfold ac! aV!;rw[List.mem_flatMap];constructor
 ·rintro⟨t,ht,hp⟩;obtain⟨r,hr,rfl⟩:=u6!.1 hp;exact⟨t,ht,r,hr,rfl⟩
 ·rintro⟨t,ht,r,hr,rfl⟩;exact⟨t,ht,u6!.2 ⟨r,hr,rfl⟩⟩
theorem mk! {ts:List TyS}(h:aT! ts=true) {t u:TyS}(ht:t∈ts)(hu:u∈ts)(he:t.name=u.name):t=u:=by
 obtain⟨i,hi,rfl⟩:=u0! ht;obtain⟨j,hj,rfl⟩:=u0! hu;rcases Nat.lt_trichotomy i j with h1 | h1 | h1
 ·exact absurd he ((cj! h hj).1 i hi hj h1)
 ·subst h1;rfl
 ·exact absurd he.symm ((cj! h hi).1 j hj hi h1)
theorem jz! {ts:List TyS}(h:aT! ts=true) {t:TyS}(ht:t∈ts)(a:ByteArray):(lookA (ac! ts) ⟨t.name,a⟩).isSome=hasT t a:=by
 cases hl:lookA (ac! ts) ⟨t.name,a⟩ with
 | none =>
  have h1:=au!.1 hl;symm
  show hasT t a=false
  unfold hasT;rw[List.any_eq_false];intro r hr he;have he:r.1=a:=of_decide_eq_true he;exact h1 _ (aY!.2 ⟨t,ht,r,hr,rfl⟩) (by rw[he])
 | some x =>
  obtain⟨u,hu,r,hr,e⟩:=aY!.1 (aD! hl);injection e with e1 e2
  injection e1 with e3 e4
  obtain rfl:=mk! h ht hu e3;symm
  show hasT t a=true
  unfold hasT;exact x5!.2 ⟨r,hr,v2! e4.symm⟩
theorem kG! (ts:List TyS)(b:ByteArray):decide (0<(aN! (ac! ts) b).length)=anyT ts b:=by
 rw[Bool.eq_iff_iff,u1!];unfold aN! anyT;rw[x1!,x5!];constructor
 ·intro h;obtain⟨x,hx⟩:=List.exists_mem_of_length_pos h;rw[List.mem_filter,u1!]at hx;obtain⟨u,hu,r,hr,rfl⟩:=aY!.1 hx.1;exact⟨u,hu,x5!.2 ⟨r,hr,v2! hx.2⟩⟩
 ·rintro⟨u,hu,h⟩;obtain⟨r,hr,he⟩:=x5!.1 h;exact List.length_pos_of_mem (List.mem_filter.2 ⟨aY!.2 ⟨u,hu,r,hr,rfl⟩,he⟩)
theorem eg! {k:Int}{a b:ByteArray}{ps:List RT}{d:Nat}(h:(RT.mk k a b ps).textOk d=true)(hk:k=2\/k=3):ps=[]:=by
 rw[RT.textOk]at h;rcases hk with rfl | rfl
 ·simp only[Int.reduceEq,if_false,if_true,v0!,u1!]at h;exact x0! h.2
 ·simp only[Int.reduceEq,if_false,if_true,v0!,u1!]at h;exact x0! h.2
theorem dy! {k:Int}{a b:ByteArray}{ps:List RT}{d:Nat}(h:(RT.mk k a b ps).textOk d=true):∀p∈ps,∃d',p.textOk d'=true:=by
 intro p hp;by_cases h4:k=4\/k=5
 ·have hn:k≠1/\k≠2/\k≠3:=by omega
  rw[RT.textOk,if_neg hn.1,if_neg hn.2.1,if_neg hn.2.2,if_pos h4,bW!,v0!]at h;have h1:=u8!.1 h.2 p hp;unfold goodP at h1;rw[v0!]at h1;exact⟨_,h1.2⟩
 ·exfalso
  have c:ps=[]:=by
   rw[RT.textOk]at h;by_cases k1:k=1
   ·subst k1;simp only[if_true,v0!,u1!]at h;exact x0! h.2
   ·by_cases k2:k=2
    ·subst k2;simp only[Int.reduceEq,if_false,if_true,v0!,u1!]at h;exact x0! h.2
    ·by_cases k3:k=3
     ·subst k3;simp only[Int.reduceEq,if_false,if_true,v0!,u1!]at h;exact x0! h.2
     ·rw[if_neg k1,if_neg k2,if_neg k3,if_neg h4]at h;cases h
  rw[c]at hp;cases hp
theorem gW! {ts:List TyS}(h:aT! ts=true) {t:TyS}(ht:t∈ts)(r:RT):∀d,r.textOk d=true->r.pnamed (ac! ts) t.name=r.named ts t:=by
 induction r using RT.ind with
 | h r ih =>
  intro d hd;obtain⟨k,a,b,ps⟩:=r;dsimp only[RT.ps]at ih;rw[RT.pnamed,RT.named,dH!,eL!];unfold pd!;by_cases k2:k=2
  ·subst k2;obtain rfl:=eg! hd (.inl rfl);rw[if_pos rfl,jz! h ht];simp
  ·by_cases k3:k=3
   ·subst k3;obtain rfl:=eg! hd (.inr rfl);rw[if_neg k2,if_pos rfl,jz! h ht,kG!];simp
   ·rw[if_neg k2,if_neg k3];have e2:(k == 2)=false:=by rw[n7!];exact k2
    have e3:(k == 3)=false:=by rw[n7!];exact k3
    rw[e2,e3];simp only[Bool.false_and,Bool.or_false,Bool.not_false,Bool.true_and];rw[Bool.eq_iff_iff,u8!,u8!];constructor <;> intro hall p hp
    ·obtain⟨d',c⟩:=dy! hd p hp;rw[<-ih p hp d' c];exact hall p hp
    ·obtain⟨d',c⟩:=dy! hd p hp;rw[ih p hp d' c];exact hall p hp
theorem iS! {ts:List TyS}(hp:br! ts=true) {t:TyS}(ht:t∈ts) {r:ByteArray × RT}(hr:r∈t.rels):r.2.textOk 0=true:=by
 have h1:=u8!.1 hp t ht;unfold tyOk at h1;rw[v0!]at h1;have h2:=u8!.1 h1.2 r hr;unfold relOk at h2;simp only[v0!]at h2;exact h2.1.1
theorem gV! {ts:List TyS}(hp:br! ts=true)(hu:aT! ts=true):(∀x∈ac! ts,x.2.pnamed (ac! ts) x.1.t=true)↔bF! ts=true:=by
 unfold bF!;rw[u8!];constructor
 ·intro h t a;rw[u8!];intro r b;rw[<-gW! hu a r.2 0 (iS! hp a b)];exact h _ (aY!.2 ⟨t,a,r,b,rfl⟩)
 ·intro h x hx;obtain⟨t,a,r,b,rfl⟩:=aY!.1 hx;dsimp only;rw[gW! hu a r.2 0 (iS! hp a b)];exact u8!.1 (h t a) r b
theorem iQ! {ts:List TyS}{shut:List R2}{p:P3}{r:RT}(h:bb! ts shut p=some r):((⟨p.t,p.r⟩:R2),r)∈ac! ts:=by
 unfold bb! at h;split at h
 ·cases h
 ·exact aD! h
mutual
def RT.pre:RT->List RT | .mk k a b ps => .mk k a b ps::rpreL ps
def rpreL:List RT->List RT | [] => [] | r::rs=>r.pre++rpreL rs
end
theorem RT.pre_eq (r:RT):r.pre=r::rpreL r.ps:=by
 obtain⟨k,a,b,ps⟩:=r;rw[RT.pre];rfl
theorem cq! {x:RT}:∀ {l:List RT},x∈rpreL l↔∃r∈l,x∈r.pre
 | []=>by simp[rpreL]
 | r::l=>by rw[rpreL,u3!,cq!];simp
theorem RT.pre_self (r:RT):r∈r.pre:=by rw[r.pre_eq];exact y4!
theorem RT.pre_part {r q:RT}(h:q∈r.ps):q∈r.pre:=by
 rw[r.pre_eq];exact u9! _ (cq!.2 ⟨q,h,q.pre_self⟩)
theorem RT.pre_trans (r:RT):∀ {q x:RT},q∈r.pre->x∈q.pre->x∈r.pre:=by
 induction r using RT.ind with
 | h r ih =>
  intro q x a hx;have hq':=a;rw[r.pre_eq]at a;rcases v7!.1 a with rfl | a
  ·exact hx
  ·obtain⟨y,hy,a⟩:=cq!.1 a;rw[r.pre_eq];exact u9! _ (cq!.2 ⟨y,hy,ih y hy a hx⟩)
theorem Own.lit (w:World) {B:Nat}(hB:B<=w.heap.size)(e:TypeId)(sz n:Nat)(cs:Array Value)(hn:cs.size=n*sz)(hm:n<=maxLen)(_h0:n≠0):Own (w.alloc (.cells cs e)) B e sz (.slice (some ⟨w.heap.size,0,none⟩) n n) cs.toList:=by
 refine⟨n,by simpa using hn,.inr ⟨w.heap.size,n,cs,rfl,hB,heap_alloc_new w _,n0! _,hm,hn,?_⟩⟩;rw[<-hn];exact List.take_of_length_le (by simp)
end Go.Proofs.YtlhaghoajpglaaaGreat
namespace Go.Proofs
open Go.Shelf Go.Proofs.Tryz
def Tryz.sortT_ren:Go.Shelf.Ren:=⟨fun | 6=>137 | 15=>198 | 14=>197 | 28=>240 | 29=>241 | 20=>232 | 21=>233 | 22=>234 | 23=>235 | 24=>236 | 25=>237 | 26=>238 | 27=>239 | 46=>281 | 47=>282 | 48=>283 | 49=>284 | 50=>285 | 57=>297 | n=>n,fun | 22=>27 | 24=>67 | 25=>154 | 3=>3 | 39=>311 | 0=>0 | 53=>349 | 55=>351 | 4=>4 | 46=>343 | 45=>342 | 50=>314 | 5=>5 | 9=>9 | 66=>378 | 70=>382 | 76=>390 | 77=>391 | n=>n,fun | n=>n⟩
theorem Tryz.sortT:Go.Proofs.SlLaysF0.n6 prog Tryz.sortT_ren := {
 mixed:=by kernel_rfl
 f6:=⟨Tryz.f137.name,by decide,func137.trans (congrArg some (by kernel_rfl))⟩
 f14:=⟨Tryz.f197.name,by decide,func197.trans (congrArg some (by kernel_rfl))⟩
 f15:=func198.trans (congrArg some (by kernel_rfl))
 f20:=⟨Tryz.f232.name,by decide,func232.trans (congrArg some (by kernel_rfl))⟩
 f21:=⟨Tryz.f233.name,by decide,func233.trans (congrArg some (by kernel_rfl))⟩
 f22:=⟨Tryz.f234.name,by decide,func234.trans (congrArg some (by kernel_rfl))⟩
 f23:=⟨Tryz.f235.name,by decide,func235.trans (congrArg some (by kernel_rfl))⟩
 f24:=⟨Tryz.f236.name,by decide,func236.trans (congrArg some (by kernel_rfl))⟩
 f25:=⟨Tryz.f237.name,by decide,func237.trans (congrArg some (by kernel_rfl))⟩
 f26:=⟨Tryz.f238.name,by decide,func238.trans (congrArg some (by kernel_rfl))⟩
 f27:=⟨Tryz.f239.name,by decide,func239.trans (congrArg some (by kernel_rfl))⟩
 f28:=func240.trans (congrArg some (by kernel_rfl))
 f29:=func241.trans (congrArg some (by kernel_rfl))
 f46:=⟨Tryz.f281.name,by decide,func281.trans (congrArg some (by kernel_rfl))⟩
 f47:=func282.trans (congrArg some (by kernel_rfl))
 f48:=func283.trans (congrArg some (by kernel_rfl))
 f49:=⟨Tryz.f284.name,by decide,func284.trans (congrArg some (by kernel_rfl))⟩
 f50:=⟨Tryz.f285.name,by decide,func285.trans (congrArg some (by kernel_rfl))⟩
 f57:=⟨Tryz.f297.name,by decide,func297.trans (congrArg some (by kernel_rfl))⟩
 t0:=Tryz.underlying0
 a0:=Tryz.isAgg0
 z0:=Tryz.sizeOf0
 v0:=Tryz.zeroValue0
 t3:=Tryz.underlying3
 a3:=Tryz.isAgg3
 z3:=Tryz.sizeOf3
 v3:=Tryz.zeroValue3
 t4:=Tryz.underlying4
 a4:=Tryz.isAgg4
 z4:=Tryz.sizeOf4
 v4:=Tryz.zeroValue4
 t5:=Tryz.underlying5
 a5:=Tryz.isAgg5
 z5:=Tryz.sizeOf5
 v5:=Tryz.zeroValue5
 t9:=Tryz.underlying9
 a9:=Tryz.isAgg9
 z9:=Tryz.sizeOf9
 v9:=Tryz.zeroValue9
 t22:=Tryz.underlying27
 a22:=Tryz.isAgg27
 z22:=Tryz.sizeOf27
 v22:=Tryz.zeroValue27
 t25:=Tryz.underlying154
 a25:=Tryz.isAgg154
 z25:=Tryz.sizeOf154
 v25:=Tryz.zeroValue154
 t39:=Tryz.underlying311
 a39:=Tryz.isAgg311
 z39:=Tryz.sizeOf311
 v39:=Tryz.zeroValue311
 t45:=Tryz.underlying342
 a45:=Tryz.isAgg342
 z45:=Tryz.sizeOf342
 v45:=Tryz.zeroValue342
 t46:=Tryz.underlying343
 a46:=Tryz.isAgg343
 z46:=Tryz.sizeOf343
 v46:=Tryz.zeroValue343
 t50:=Tryz.underlying314
 a50:=Tryz.isAgg314
 z50:=Tryz.sizeOf314
 v50:=Tryz.zeroValue314
 t53:=Tryz.underlying349
 a53:=Tryz.isAgg349
 z53:=Tryz.sizeOf349
 v53:=Tryz.zeroValue349
 t55:=Tryz.underlying351
 a55:=Tryz.isAgg351
 z55:=Tryz.sizeOf351
 v55:=Tryz.zeroValue351
 t66:=Tryz.underlying378
 a66:=Tryz.isAgg378
 z66:=Tryz.sizeOf378
 v66:=Tryz.zeroValue378
 t70:=Tryz.underlying382
 a70:=Tryz.isAgg382
 z70:=Tryz.sizeOf382
 v70:=Tryz.zeroValue382
 t76:=Tryz.underlying390
 a76:=Tryz.isAgg390
 z76:=Tryz.sizeOf390
 v76:=Tryz.zeroValue390
 t77:=Tryz.underlying391
 a77:=Tryz.isAgg391
 z77:=Tryz.sizeOf391
 v77:=Tryz.zeroValue391}
def Tryz.sortO_ren:Go.Shelf.Ren:=⟨fun | 6=>185 | 15=>198 | 14=>229 | 28=>240 | 29=>241 | 20=>272 | 21=>273 | 22=>274 | 23=>275 | 24=>276 | 25=>277 | 26=>278 | 27=>279 | 46=>294 | 47=>282 | 48=>283 | 49=>295 | 50=>296 | 57=>300 | n=>n,fun | 22=>113 | 24=>30 | 25=>219 | 3=>3 | 39=>311 | 0=>0 | 53=>349 | 55=>351 | 4=>4 | 46=>343 | 45=>342 | 50=>314 | 5=>5 | 9=>9 | 66=>378 | 70=>382 | 76=>390 | 77=>391 | n=>n,fun | n=>n⟩
theorem Tryz.sortO:Go.Proofs.SlLaysF0.n6 prog Tryz.sortO_ren := {
 mixed:=by kernel_rfl
 f6:=⟨Tryz.f185.name,by decide,func185.trans (congrArg some (by kernel_rfl))⟩
 f14:=⟨Tryz.f229.name,by decide,func229.trans (congrArg some (by kernel_rfl))⟩
 f15:=func198.trans (congrArg some (by kernel_rfl))
 f20:=⟨Tryz.f272.name,by decide,func272.trans (congrArg some (by kernel_rfl))⟩
 f21:=⟨Tryz.f273.name,by decide,func273.trans (congrArg some (by kernel_rfl))⟩
 f22:=⟨Tryz.f274.name,by decide,func274.trans (congrArg some (by kernel_rfl))⟩
 f23:=⟨Tryz.f275.name,by decide,func275.trans (congrArg some (by kernel_rfl))⟩
 f24:=⟨Tryz.f276.name,by decide,func276.trans (congrArg some (by kernel_rfl))⟩
 f25:=⟨Tryz.f277.name,by decide,func277.trans (congrArg some (by kernel_rfl))⟩
 f26:=⟨Tryz.f278.name,by decide,func278.trans (congrArg some (by kernel_rfl))⟩
 f27:=⟨Tryz.f279.name,by decide,func279.trans (congrArg some (by kernel_rfl))⟩
 f28:=func240.trans (congrArg some (by kernel_rfl))
 f29:=func241.trans (congrArg some (by kernel_rfl))
 f46:=⟨Tryz.f294.name,by decide,func294.trans (congrArg some (by kernel_rfl))⟩
 f47:=func282.trans (congrArg some (by kernel_rfl))
 f48:=func283.trans (congrArg some (by kernel_rfl))
 f49:=⟨Tryz.f295.name,by decide,func295.trans (congrArg some (by kernel_rfl))⟩
 f50:=⟨Tryz.f296.name,by decide,func296.trans (congrArg some (by kernel_rfl))⟩
 f57:=⟨Tryz.f300.name,by decide,func300.trans (congrArg some (by kernel_rfl))⟩
 t0:=Tryz.underlying0
 a0:=Tryz.isAgg0
 z0:=Tryz.sizeOf0
 v0:=Tryz.zeroValue0
 t3:=Tryz.underlying3
 a3:=Tryz.isAgg3
 z3:=Tryz.sizeOf3
 v3:=Tryz.zeroValue3
 t4:=Tryz.underlying4
 a4:=Tryz.isAgg4
 z4:=Tryz.sizeOf4
 v4:=Tryz.zeroValue4
 t5:=Tryz.underlying5
 a5:=Tryz.isAgg5
 z5:=Tryz.sizeOf5
 v5:=Tryz.zeroValue5
 t9:=Tryz.underlying9
 a9:=Tryz.isAgg9
 z9:=Tryz.sizeOf9
 v9:=Tryz.zeroValue9
 t22:=Tryz.underlying113
 a22:=Tryz.isAgg113
 z22:=Tryz.sizeOf113
 v22:=Tryz.zeroValue113
 t25:=Tryz.underlying219
 a25:=Tryz.isAgg219
 z25:=Tryz.sizeOf219
 v25:=Tryz.zeroValue219
 t39:=Tryz.underlying311
 a39:=Tryz.isAgg311
 z39:=Tryz.sizeOf311
 v39:=Tryz.zeroValue311
 t45:=Tryz.underlying342
 a45:=Tryz.isAgg342
 z45:=Tryz.sizeOf342
 v45:=Tryz.zeroValue342
 t46:=Tryz.underlying343
 a46:=Tryz.isAgg343
 z46:=Tryz.sizeOf343
 v46:=Tryz.zeroValue343
 t50:=Tryz.underlying314
 a50:=Tryz.isAgg314
 z50:=Tryz.sizeOf314
 v50:=Tryz.zeroValue314
 t53:=Tryz.underlying349
 a53:=Tryz.isAgg349
 z53:=Tryz.sizeOf349
 v53:=Tryz.zeroValue349
 t55:=Tryz.underlying351
 a55:=Tryz.isAgg351
 z55:=Tryz.sizeOf351
 v55:=Tryz.zeroValue351
 t66:=Tryz.underlying378
 a66:=Tryz.isAgg378
 z66:=Tryz.sizeOf378
 v66:=Tryz.zeroValue378
 t70:=Tryz.underlying382
 a70:=Tryz.isAgg382
 z70:=Tryz.sizeOf382
 v70:=Tryz.zeroValue382
 t76:=Tryz.underlying390
 a76:=Tryz.isAgg390
 z76:=Tryz.sizeOf390
 v76:=Tryz.zeroValue390
 t77:=Tryz.underlying391
 a77:=Tryz.isAgg391
 z77:=Tryz.sizeOf391
 v77:=Tryz.zeroValue391}
end Go.Proofs
namespace Go.Proofs.YtlhaghoajpglaaaGreat
open Go Go.RowKit Go.Proofs.Tryz
theorem hX! {K:Nat->Prop}{w w':World}(h:Kept K w w') {p:Addr}(hp:¬ K p.block)(n:Nat):Kept K w (w'.freeze p n):=by
 have a:=Lib.below_freeze (B:=0) (Below.refl 0 w') (p:=p) (v1! _) n;refine h.trans ⟨a.os,a.tape,a.output,a.size,fun x hx=>?_⟩;have a0:x≠p.block:=fun e=>hp (e▸hx);unfold World.freeze;split
 ·rfl
 ·simp only[Array.getElem?_modify];rw[if_neg (Ne.symm a0)]
theorem aB! {B b:Nat}{text:ByteArray}{odd:Bool}{w:World}(s:ByteArray)(h:WrB w B b text odd)(hlen:text.size+s.size<=140737488355328)(hpos:0<text.size)(hs:s.size<=maxLen)(hBw:B<=w.heap.size) :
  Calls prog 189 #[.pointer (some ⟨b,0,none⟩),.string s] w fun e w'=>e= .returned (.tuple #[])/\WrB w' B b (text++s) (odd||!ownB s)/\pV! B b w w':=by
 have n:=h! (bg! s hs w);obtain⟨i,a⟩:=h.odd2;have hB:=h.1;have c:=h! (fun o=>ab! s (h.flag o) hlen (by omega) (by simpa using hBw));have j:=h! (fun v=>pV!.flag (w:=w) hB v);clear h hlen hpos hs hBw;cases odd with
 | true =>
  go_enter func189,ntmps189
  go_wp2_with fail
  refine(c.out true).mono ?_;rintro e w2 ⟨rfl,m,k⟩;have l:=h! m;have f:=h! (pV!.next (j.out _) k);clear c m k i a n;go_wp2_with fail
  go_end0
  exact⟨rfl,by rw[Bool.true_or];exact l.out,f.out⟩
 | false =>
  cases hn:isNm s with
  | false =>
   rw[hn]at n;have d:=h! (show(false||!ownB s)=true from by rw[ownB,hn];rfl);clear hn;go_enter func189,ntmps189
   go_wp2_with fail
   refine n.out.mono ?_;rintro e w1 ⟨rfl,p⟩;have g:=p.symm;subst g;clear p n;go_wp2_with fail
   refine(c.out true).mono ?_;rintro e w2 ⟨rfl,m,k⟩;have l:=h! m;have f:=h! (pV!.next (j.out _) k);clear c m k i a;go_wp2_with fail
   go_end0
   exact⟨rfl,by rw[d.out];exact l.out,f.out⟩
  | true =>
   rw[hn]at n;by_cases he:s=⟨#[116,104,105,115]⟩
   ·have d:=h! (show(false||!ownB s)=true from by rw[ownB,he];simp);subst he;clear hn;go_enter func189,ntmps189
    go_wp2_with fail
    refine n.out.mono ?_;rintro e w1 ⟨rfl,p⟩;have g:=p.symm;subst g;clear p n;go_wp2_with fail
    refine(c.out true).mono ?_;rintro e w2 ⟨rfl,m,k⟩;have l:=h! m;have f:=h! (pV!.next (j.out _) k);clear c m k i a;go_wp2_with fail
    go_end0
    exact⟨rfl,by rw[d.out];exact l.out,f.out⟩
   ·have d:=h! (show(false||!ownB s)=false from by rw[ownB,hn];simp[he]);have a0:=aH! he;rw[<-u5!,show(⟨#[116,104,105,115]⟩:ByteArray).data.toList=[116,104,105,115]from rfl]at a0;clear hn he;go_enter func189,ntmps189
    go_wp2_with fail
    refine n.out.mono ?_;rintro e w1 ⟨rfl,p⟩;have g:=p.symm;subst g;clear p n;go_wp2_with fail
    refine(c.out false).mono ?_;rintro e w2 ⟨rfl,m,k⟩;have l:=h! m;have f:=h! (pV!.next (j.out _) k);clear c m k i a;go_wp2_with fail
    go_end0
    exact⟨rfl,by rw[d.out];exact l.out,f.out⟩
theorem ho! {B b:Nat}{text:ByteArray}{odd:Bool}{w:World}(h:WrB w B b text odd) :
  Calls prog 191 #[.pointer (some ⟨b,0,none⟩)] w fun e w'=>e= .returned (.string text)/\Below B w w':=by
 obtain⟨hB,p,v,hp,y,a,o⟩:=h;have C:∀(W:World) (q:Option Addr),(Builtin.unsafeString_ #[340,3] 9 #[.pointer q,.int .i64 0]).run prog W= .ok (.string .empty) W:=fun W q=>Lib.run_unsafeString_none W 340 3 9 q;by_cases hs:text.size=0
 ·obtain rfl:=o hs;obtain rfl:=ae! hs;have E:w.drew.cell? ⟨b,1,none⟩=some (.slice none 0 0):=y.drew.cells 1;have A:(Builtin.unsafeSliceData_ #[22] 340 #[.slice none 0 0]).run prog w.drew= .ok (.pointer none) w.drew:=rfl;clear y a o hs hp;go_enter func191,ntmps191
  go_wp2_with fail
  obtain⟨F,i⟩:=e! w.drew;rw[<-i]at E A;have s:Below B w F:=by rw[i];exact(Below.refl _ _).drew
  refine r! (fun W=>Kept (fun x=>x=b) F W/\Below B w W) (by rw[<-i];exact⟨Kept.refl _ _,s⟩) ?_;rw[<-i];have u:=h! s;have h1:∀W,(Kept (fun x=>x=b) F W/\Below B w W)->W.cell? ⟨b,1,none⟩=some (.slice none 0 0):=fun W h=>(World.cell?_of_block (h.1.block b rfl)).trans E;clear i E s;(refine WalkN.tk [0,1,2,3,5,6,7,8,9] ?_;(iterate 9 (refine c! ?_));refine TkN.n ?_)
  refine ob! 4 ?_;intro K hK;go_simp;refine hK.out _ _ ⟨Kept.refl _ _,u.out⟩ ?_;clear hK;try simp only[Act.put,pA,pZ,pS]
  refine ob! 10 ?_;intro K hK;go_simp;have f:=u.out;refine hK.out _ _ ⟨Kept.refl _ _,u.out⟩ ?_;clear hK;try simp only[Act.put,pA,pZ,pS]
  refine t! 11 ?_
  refine d! ?_;have HF:=h! f;clear h1 f;go_wp2_with fail
  go_ret
  exact⟨rfl,HF.out⟩
 ·obtain⟨n,a⟩:=a;have hl:(Lib.strCells text).length=text.size:=Lib.strCells_length text;have hn:n=text.size:=by have:=a.1;omega
  subst hn
  obtain⟨g,k,m,rfl,a4,hg,a5,a1,a2,z⟩:∃g k m,v= .slice (some ⟨g,0,none⟩) text.size k/\B<=g/\w.heap[g]?=some (.cells m 5 (0,0))/\text.size<=k/\k<=maxLen/\m.size=k*1/\m.toList.take (text.size*1)=Lib.strCells text:=by
   rcases a.2 with⟨_,hz⟩|⟨g,k,m,hv,r⟩
   ·exact absurd hz hs
   ·exact⟨g,k,m,hv,r⟩
  have E:w.drew.cell? ⟨b,1,none⟩=some (.slice (some ⟨g,0,none⟩) text.size k):=y.drew.cells 1
  have A:(Builtin.unsafeSliceData_ #[22] 340 #[.slice (some ⟨g,0,none⟩) text.size k]).run prog w.drew= .ok (.pointer (some ⟨g,0,none⟩)) w.drew :=
   Lib.run_unsafeSliceData_row _ _ _ _ _ _ (by omega)
  have a0:text=⟨text.data.toList.toArray⟩:=rfl;have l:text.data.toList.length=text.size:=rfl
  have D:∀F,F=w.drew->(Builtin.unsafeString_ #[340,3] 9 #[.pointer (some ⟨g,0,none⟩),.int .i64 text.size]).run prog F= .ok (.string text) (F.freeze ⟨g,0,none⟩ text.size):=by
   rintro F rfl
   have:=Lib.run_unsafeString_row (P:=prog) w.drew 340 3 9 5 Tryz.underlying340 (by kernel_rfl) g m.size (by have hg':w.drew.heap[g]?=some (.cells m 5 (0,0)):=hg;simp[World.shape?,hg']) text.data.toList (by intro e;rw[e]at l;simp at l;omega) (by omega) (by unfold maxLen at a1;omega) (fun j x hx=>by
    have:=a.cells (g:=g) rfl j (.int .u8 x.toNat) (by simp only[Lib.strCells,List.getElem?_map,hx,Option.map_some]);exact this)
   rw[l]at this;exact this
  have a3:Hid (g≠b):=h! ((show Own w B 5 1 (.slice (some ⟨g,0,none⟩) text.size k) (Lib.strCells text)from⟨_,a⟩).notBlk y (by decide) g rfl);clear y a o hp a2 z hg l a0 hl hs C;go_enter func191,ntmps191
  go_wp2_with fail
  obtain⟨F,i⟩:=e! w.drew;rw[<-i]at E A;have D:=D F i;have s:Below B w F:=by rw[i];exact(Below.refl _ _).drew
  refine r! (fun W=>Kept (fun x=>x=b) F W/\Below B w W) (by rw[<-i];exact⟨Kept.refl _ _,s⟩) ?_;rw[<-i];have u:=h! s;have h1:∀W,(Kept (fun x=>x=b) F W/\Below B w W)->W.cell? ⟨b,1,none⟩=some (.slice (some ⟨g,0,none⟩) text.size k):=fun W h=>(World.cell?_of_block (h.1.block b rfl)).trans E;clear i E s;(refine WalkN.tk [0,1,2,3,5,6,7,8,9] ?_;(iterate 9 (refine c! ?_));refine TkN.n ?_)
  refine ob! 4 ?_;intro K hK;go_simp;refine hK.out _ _ ⟨Kept.refl _ _,u.out⟩ ?_;clear hK;try simp only[Act.put,pA,pZ,pS]
  refine ob! 10 ?_;intro K hK;go_simp;have f:Below B w (F.freeze ⟨g,0,none⟩ text.size):=Lib.below_freeze u.out (p:=⟨g,0,none⟩) a4 _;refine hK.out _ _ ⟨hX! (Kept.refl _ _) (fun e=>a3.out e) _,f⟩ ?_;clear hK;try simp only[Act.put,pA,pZ,pS]
  refine t! 11 ?_
  refine d! ?_;have HF:=h! f;clear h1 f;go_wp2_with fail
  go_ret
  exact⟨rfl,HF.out⟩
end Go.Proofs.YtlhaghoajpglaaaGreat
