/- Lemmas for the claim, no condition. -/
import Derived.Test.YtlhaghoajpglaaaGreatYLkObj12
import Derived.Test.YtlhaghoajpglaaaGreatYLkObj12
set_option maxRecDepth 100000
set_option maxHeartbeats 8000000
namespace Go.Proofs.YtlhaghoajpglaaaGreat
open Go Go.RowKit Go.Maps Go.Proofs.Tryz
theorem kt! {ts:List TyS}(h:chk06 ts=0):aT! ts=true:=by
 unfold chk06 at h;split at h
 ·split at h
  ·split at h
   ·assumption
   ·cases h
  ·cases h
 ·cases h
def shutM (l:List R2):List (R2 × Bool):=l.foldl (fun m r=>putA m r true) []
theorem fn! (l:List R2)(r:R2):shutM (l++[r])=putA (shutM l) r true:=by simp[shutM,List.foldl_append]
theorem lt! (r:R2)(l:List R2):lookA (shutM l) r=if r∈l then some true else none:=by
 suffices h:∀n,∀l:List R2,l.length=n->lookA (shutM l) r=if r∈l then some true else none from h _ l rfl
 intro n;induction n with
 | zero=>intro l h;rw[x0! h];rfl
 | succ n ih =>
  intro l h;rcases List.eq_nil_or_concat l with rfl | ⟨l',x,rfl⟩
  ·simp at h
  ·rw[List.concat_eq_append]at h ⊢;rw[fn!,cW!,ih l' (by simpa using h)];by_cases e:x=r
   ·subst e;simp
   ·have e2:¬ r=x:=fun h=>e h.symm;simp[e,e2]
theorem la! {l:List R2}{i:Nat}(hi:i<l.length):shutM (l.take (i+1))=putA (shutM (l.take i)) l[i] true:=by
 rw[n2! hi,fn!]
structure gC! (ts:List TyS)(T:List Tup)(shut:List R2)(p:P3)(N:Nat):Prop where
 okp:∀n,∀x∈(walkN ts T shut p n).1,x.Ok
 few:∀n,(walkN ts T shut p n).1.length<=N
 room:∀x∈ac! ts,x.2.sz*(T.length+1)+N<=1073741824
 nmax:N<=1073741823
 rok:∀x∈ac! ts,x.2.Ok
 tok:∀t∈T,t.s.Ok
 tlen:T.length<=1000000
theorem Own.setAtR {w:World}{B:Nat}{e:TypeId}{sz:Nat}{g n c:Nat}{xs:List Value}(h:Own w B e sz (.slice (some ⟨g,0,none⟩) n c) xs)(i:Nat)(u:Value):Own (w.setCell ⟨g,i,none⟩ u) B e sz (.slice (some ⟨g,0,none⟩) n c) (xs.set i u):=by
 obtain⟨m,h⟩:=h;rcases h.2 with⟨hv,rfl⟩|⟨g',cap,cur,hv,hbg,hg,hnc,hcm,hcs,htake⟩
 ·cases hv
 ·cases hv;refine⟨n,by rw[List.length_set];exact h.1,.inr ⟨g,c,cur.setIfInBounds i u,rfl,hbg,heap_setCell_same w g i cur e u hg,hnc,hcm,by simpa using hcs,?_⟩⟩;rw[Array.toList_setIfInBounds,<-htake,List.take_set]
theorem ng! (xs:List Value)(a b c d p q r s:Value) {k:Nat}(hk:k=xs.length):((((xs++[p,q,r,s]).set k a).set (k+1) b).set (k+2) c).set (k+3) d=xs++[a,b,c,d]:=by
 subst hk;rw[List.set_append_right _ _ (n0! _)];rw[List.set_append_right _ _ (by omega)];rw[List.set_append_right _ _ (by omega)];rw[List.set_append_right _ _ (by omega)];simp
theorem cE! {w:World}{B:Nat}{e:TypeId}{sz:Nat}{g n c:Nat}{xs:List Value}{p q r s:Value}(h:Own w B e sz (.slice (some ⟨g,0,none⟩) n c) (xs++[p,q,r,s])) {k:Nat}(hk:k=xs.length):w.cell? ⟨g,k,none⟩=some p/\w.cell? ⟨g,k+1,none⟩=some q/\w.cell? ⟨g,k+2,none⟩=some r/\w.cell? ⟨g,k+3,none⟩=some s:=by
 obtain⟨m,h⟩:=h;have hc:=h.cells (g:=g) rfl;subst hk
 have a:∀j u,[p,q,r,s][j]?=some u->w.cell? ⟨g,xs.length+j,none⟩=some u:=fun j u hu=>by
  have:=hc (xs.length+j) u (by rw[List.getElem?_append_right (by omega)];simpa using hu);rwa[Addr.add_lit,Nat.zero_add]at this
 exact⟨a 0 p rfl,a 1 q rfl,a 2 r rfl,a 3 s rfl⟩
def World.setForm (w:World)(g k:Nat)(a b c d:Value):World:=(((w.setCell ⟨g,k,none⟩ a).setCell ⟨g,k+1,none⟩ b).setCell ⟨g,k+2,none⟩ c).setCell ⟨g,k+3,none⟩ d
theorem aw! (w:World)(g k:Nat)(a b c d:Value) {x:Nat}(hx:x≠g):(World.setForm w g k a b c d).heap[x]?=w.heap[x]?:=by
 unfold World.setForm;rw[Below.heap_setCell _ _ _ x hx,Below.heap_setCell _ _ _ x hx,Below.heap_setCell _ _ _ x hx,Below.heap_setCell _ _ _ x hx]
theorem aR! (w:World)(g k:Nat)(a b c d:Value):(World.setForm w g k a b c d).heap.size=w.heap.size:=by
 unfold World.setForm;simp
theorem Own.setForm {w:World}{B:Nat}{e:TypeId}{sz:Nat}{g n c:Nat}{xs:List Value}{p q r s:Value}(h:Own w B e sz (.slice (some ⟨g,0,none⟩) n c) (xs++[p,q,r,s])) {k:Nat}(hk:k=xs.length)(x0 x1 x2 x3:Value):Own (World.setForm w g k x0 x1 x2 x3) B e sz (.slice (some ⟨g,0,none⟩) n c) (xs++[x0,x1,x2,x3]):=by
 have:=(((h.setAtR k x0).setAtR (k+1) x1).setAtR (k+2) x2).setAtR (k+3) x3;rwa[ng! _ _ _ _ _ _ _ _ _ hk]at this
structure om! (wz w8:World)(wp am ash lo B:Nat)(tv fi sm pv fv6:Value)(ps:List P3)(shut:List R2)(q:List (FT × FV3)):Prop where
 walk:WkAt w8 wp am B tv fi sm ps pv fv6
 row:FRow lo w8 q fv6
 shut:Mp prog 121 r2V bV w8 ash (shutM shut)
 below:Below B wz w8
theorem mq! {wz we w3 w6 w8:World}{wp am ash lo B n0:Nat}{tv fi sm pv fv:Value}{ps:List P3}{shut:List R2}{q:List (FT × FV3)}{x:FT}{v:FV3}{g n c:Nat}
  (hw:WkAt we wp am B tv fi sm ps pv fv) (hr:FRow lo we q fv) (hs:Mp prog 121 r2V bV we ash (shutM shut)) (hz:Below B wz we) (_hBz:B<=lo) (hlo:wp<lo/\am<lo/\ash<lo) (hash:ash≠wp/\ash≠am) (hlw:lo<=we.heap.size)
  (hx:FTAt (FS n0 we) we x v) (hn0:lo<=n0) (hfv:∀g,fv.ownBlock=some g->g<n0) (hBw:B<=wp)
  (h3:Ext we w3) (hg:w3.grownBy w6 fv.ownBlock) (hb:∀g',(Value.slice (some ⟨g,0,none⟩) n c).ownBlock=some g'->fv.ownBlock=some g'\/w3.heap.size<=g')
  (ho:Own w8 lo 128 4 (.slice (some ⟨g,0,none⟩) n c) (q.flatMap fC++fC (x,v))) (hbx:Blk w8 wp #[tv,fi,sm,.map (some am),pv,.slice (some ⟨g,0,none⟩) n c,.int .i64 0] 251)
  (h8:∀y,y≠g->y≠wp->w8.heap[y]?=w6.heap[y]?) (hsz:w8.heap.size=w6.heap.size) (hos:w8.os=w6.os/\w8.tape=w6.tape/\w8.output=w6.output):om! wz w8 wp am ash lo B tv fi sm pv (.slice (some ⟨g,0,none⟩) n c) ps shut (q++[(x,v)]):=by
 have i:fv.ownBlock=some g\/w3.heap.size<=g:=hb g rfl
 have a1:lo<=g:=by
  rcases i with h | h
  ·exact(hr.row.block g h).1
  ·exact n6! (n6! hlw h3.size) h
 have h6:∀y,y<we.heap.size->fv.ownBlock≠some y->w6.heap[y]?=we.heap[y]?:=fun y hy hn=>(hg.block y (n1! hy h3.size) fun e=>hn e.symm).trans (h3.block y hy)
 have j:∀y,y<we.heap.size->fv.ownBlock≠some y->y≠g:=fun y hy hn e=>by
  subst e;rcases i with h | h
  ·exact hn h
  ·have:=h3.size;omega
 have f:∀y,y<we.heap.size->fv.ownBlock≠some y->y≠wp->w8.heap[y]?=we.heap[y]?:=fun y hy hn hp=>(h8 y (j y hy hn) hp).trans (h6 y hy hn);have d:∀y,y<lo->fv.ownBlock≠some y:=fun y hy e=>by have:=(hr.row.block y e).1;omega
 have a3:=h3.size;have a2:=hg.size;refine⟨⟨hbx,hw.num.same (f _ hw.num.lt (d _ hlo.2.1) hw.ne.symm),hw.pts.keepOwn fun y hy=>?_⟩,?_,hs.same (f _ hs.lt (d _ hlo.2.2) hash.1),?_⟩
 ·have a0:=hw.ptNe y hy;exact f y (hw.pts.block y hy).2 (fun e=>hr.row.apart hw.pts (by decide) e hy) a0.1
 ·refine⟨by rw[x9!];simpa using ho,fun y hy=>?_⟩
  have hm:∀b,(FS lo we b/\fv.ownBlock≠some b)->(FS lo w8 b/\(Value.slice (some ⟨g,0,none⟩) n c).ownBlock≠some b):=fun b hb'=>⟨⟨hb'.1.1,n1! hb'.1.2.1 (by omega),fun cs=>by rw[f b hb'.1.2.1 hb'.2 (by have:=hb'.1.1;omega)];exact hb'.1.2.2 cs⟩,fun e=>by
   injection e with e
   exact j b hb'.1.2.1 hb'.2 e.symm⟩
  have a:∀b,(FS lo we b/\fv.ownBlock≠some b)->w8.heap[b]?=we.heap[b]?:=fun b hb'=>f b hb'.1.2.1 hb'.2 (by have:=hb'.1.1;omega);rcases u3!.1 hy with hy | hy
  ·exact((hr.parts y hy).same a).mono hm
  ·obtain rfl:=n9!.1 hy;exact((hx.mono fun b hb'=>(⟨hb'.mono hn0,fun e=>by have:=hfv b e;have:=hb'.1;omega⟩:FS lo we b/\fv.ownBlock≠some b)).same a).mono hm
 ·have a4:=hz.size;refine hz.trans ⟨hos.1.trans (hg.os.trans h3.os),hos.2.1.trans (hg.tape.trans h3.tape),hos.2.2.trans (hg.output.trans h3.output),by omega,fun y hy=>f y (by omega) (d _ (by omega)) (by omega)⟩
theorem jZ! (S:Nat->Prop)(w:World):FTAt S w FT.zero (.slice none 0 0,.slice none 0 0,.slice none 0 0):=(FTAt.iff _ _).2 ⟨Sl.nil _ _ _,Sl.nil _ _ _,[],rfl,(fun x hx=>by cases hx),Sl.nil _ _ _⟩
theorem dA! {ts:List TyS}{T:List Tup}{shut:List R2}{p:P3}{ps:List P3}(h:bb! ts shut p=none):stepG ts T shut p ps=(FT.zero,ps):=by unfold stepG;rw[h]
theorem fm! {ts:List TyS}{T:List Tup}{shut:List R2}{p:P3}{ps:List P3}{r:RT}(h:bb! ts shut p=some r):stepG ts T shut p ps=formD T p r ps:=by unfold stepG;rw[h]
def ol! (ts:List TyS)(T:List Tup)(shut:List R2)(p:P3)(most:Int)(w:World)(e:Ending)(w':World):Prop:=Ext w w'/\((∃n pv fv,pW! ts T shut p most n/\e= .returned (.tuple #[.agg #[pv,fv],.int .i64 0])/\GrAt (fun x=>w.heap.size<=x/\x<w'.heap.size) w' (walkN ts T shut p n).1 (walkN ts T shut p n).2 pv fv)\/(bi! ts T shut p most/\e= .returned (.tuple #[.agg #[.slice none 0 0,.slice none 0 0],.int .i64 10])))
theorem WalkAt.le {ts:List TyS}{T:List Tup}{shut:List R2}{p:P3}{most:Int}{n:Nat}(h:WalkAt ts T shut p most n):n<=(walkN ts T shut p n).1.length:=by
 cases n with
 | zero=>exact v1! _
 | succ n =>
  have h1:=(h n (Nat.lt_succ_self n)).1;have h2:=dh! ts T shut p (show n<=n+1 by omega);omega
theorem gF! (ts:List TyS)(tv:Value)(b:Nat)(T:List Tup)(shut:List R2)(sv:Value)(p:P3)(most:Int)(N:Nat)(w:World)(h:pU! (· < w.heap.size) w ts tv)(hok:∀t∈ts,t.Ok)(hc:chk06 ts=0)(hsB:schB ts<=549755813888)(hsz:∀t∈ts,∀r∈t.rels,r.2.sz<=1000000)(hln:(an! ts).length<=1099511627776)(hlr:(ac! ts).length<=1099511627776)
  (hbk:pL! w b T) (hsv:Sl (· < w.heap.size) w 2 sv (shut.flatMap r2C)) (hso:∀r∈shut,r.Ok) (hin:gC! ts T shut p N) :
  Calls prog 98 #[.agg #[tv],bkV b,sv,pV p,.int .i64 most] w fun e w'=>ol! ts T shut p most w e w':=by
 have Z:=h! hin;have aS:=h! hok;have br:=h! hlr;have HU:=h! (kt! hc);have bm:=h! hso;obtain⟨ao,c,rfl,-⟩:=h.rows;obtain⟨so,sc,rfl,bx,bn,-⟩:=Sl.rows aO! (by decide) hsv;have bF:Hid (shut.length<=9223372036854775807):=h! (by omega);clear bx bn;obtain⟨wa,aM⟩:=e! (w.alloc (.cells #[.slice ao ts.length c] 26));obtain⟨wb,aK⟩:=e! (wa.alloc (.cells #[.string p.t,.string p.i,.string p.r] 32));obtain⟨wc,aF⟩:=e! (wb.alloc (.cells #[.slice none 0 0,.slice none 0 0] 96));have ea:wa.heap.size=w.heap.size+1:=by rw[aM];simp
 have eb:wb.heap.size=w.heap.size+2:=by rw[aK];simp[ea]
 have ec:wc.heap.size=w.heap.size+3:=by rw[aF];simp[eb]
 have xa:Ext w wa:=xa! aM
 have xb:Ext wa wb:=xa! aK
 have xc:Ext wb wc:=xa! aF
 have XC:Hid (Ext w wc):=h! (xa.trans (xb.trans xc));have CZ:=h! ec;have CS:=h! (show Blk wc w.heap.size #[.slice ao ts.length c] 26 from Blk.below (bm! aM) (xb.trans xc));have CP:=h! (show Blk wc (w.heap.size+1) #[.string p.t,.string p.i,.string p.r] 32 from Blk.below (by rw[aK,<-ea];exact Blk.made _ _ _) xc);have CG:=h! (show Blk wc (w.heap.size+2) #[.slice none 0 0,.slice none 0 0] 96 from by rw[aF,<-eb];exact Blk.made _ _ _);have CT:=h! (h.up XC.out);have CK:=h! (hbk.ext XC.out);have CV:=h! ((hsv.same (Same.below XC.out)).mono (T:=fun x=>x<wc.heap.size) fun x hx=>n1! hx XC.out.size)
 have ba:=h! (show Calls prog 74 #[.agg #[.slice ao ts.length c]] wc fun e w'=>e= .returned (.int .i64 0)/\Below wc.heap.size wc w' from by
  have h1:=cG! ts (.slice ao ts.length c) wc CT.out hok hsB hsz hln hlr;rw[hc]at h1;exact h1)
 clear h hok hc hsB hsz hln hlr hbk hsv hso hin ea eb ec xa xb xc;subst aF aK aM;have bC:=CS.out.cells;unfold pV;have hq:∀W,(binOp BinOp.eql 139 (bkV b) .nilIface).run prog W= .ok (.bool false) W:=fun _=>by kernel_rfl
 go_enter func98,ntmps98
 go_wp2_with fail
 refine ba.out.mono ?_;rintro e w2 ⟨rfl,I⟩;have X2:Hid (Ext w w2):=h! (XC.out.trans I);have Z2:=h! (show w.heap.size+3<=w2.heap.size from by have:=CZ.out;have:=I.size;omega);have S2:=h! (CS.out.below I);have P2:=h! (CP.out.below I);have G2:=h! (CG.out.below I);have T2:=h! (CT.out.up I);have K2:=h! (CK.out.ext I);have V2:=h! ((CV.out.same (Same.below I)).mono (T:=fun x=>x<w2.heap.size) fun x hx=>n1! hx I.size);clear bC ba I XC CZ CS CP CG CT CK CV;obtain⟨tv,al⟩:=e! (Value.slice ao ts.length c);obtain⟨w3,aD⟩:=e! (w2.alloc (.map #[] 0));obtain⟨w4,a0⟩:=e! (w3.alloc (.map #[] 0));obtain⟨w5,a7⟩:=e! (w4.alloc (.cells #[tv,bkV b,.map (some w2.heap.size),.map (some (w2.heap.size+1)),.slice none 0 0,.slice none 0 0,.int .i64 0] 251));have e3:w3.heap.size=w2.heap.size+1:=by rw[aD];simp
 have e4:w4.heap.size=w2.heap.size+2:=by rw[a0];simp[e3]
 have e5:w5.heap.size=w2.heap.size+3:=by rw[a7];simp[e4]
 have x3:Ext w2 w3:=xa! aD
 have x4:Ext w3 w4:=xa! a0
 have x5:Ext w4 w5:=xa! a7
 have X5:Hid (Below w2.heap.size w2 w5):=h! (x3.trans (x4.trans x5));have Z5:=h! e5;have M5:=h! (show Mp prog 121 r2V bV w5 w2.heap.size (shutM [])from Mp.below (by rw[aD];exact Mp.made _) (x4.trans x5));have W5:=h! (show WkAt w5 (w2.heap.size+2) (w2.heap.size+1) w2.heap.size tv (bkV b) (.map (some w2.heap.size)) [] (.slice none 0 0) (.slice none 0 0)from⟨by rw[a7,<-e4];exact Blk.made _ _ _,Mp.below (by rw[a0,<-e3];exact Mp.made _) x5,Own.nil _ _ _ _⟩);clear e3 e4 e5 x3 x4 x5;have bl:=@run_makeMap prog;have bw:=S2.out.cells;subst a7 a0 aD al;go_wp2_with fail
 clear bw bl hq;obtain⟨tv,al⟩:=e! (Value.slice ao ts.length c);obtain⟨w5,a7⟩:=e! (((w2.alloc (.map #[] 0)).alloc (.map #[] 0)).alloc (.cells #[.slice ao ts.length c,bkV b,.map (some w2.heap.size),.map (some (w2.heap.size+1)),.slice none 0 0,.slice none 0 0,.int .i64 0] 251));rw[<-a7]at X5 Z5 M5 W5 ⊢;clear a7;rw[<-al]at W5 T2;have bs:=h! al;clear al;go_loopw [38] (fun iv wr=>∃i:Nat,i<=shut.length/\iv= .int .i64 i/\WkAt wr (w2.heap.size+2) (w2.heap.size+1) w2.heap.size tv (bkV b) (.map (some w2.heap.size)) [] (.slice none 0 0) (.slice none 0 0)/\Mp prog 121 r2V bV wr w2.heap.size (shutM (shut.take i))/\Below w2.heap.size w2 wr/\w2.heap.size+3<=wr.heap.size) (fun iv _=>shut.length-(intOf iv).toNat)
 case atStart=>exact⟨0,v1! _,rfl,W5.out,M5.out,X5.out,v4! Z5.out.symm⟩
 case round =>
  obtain⟨i,hi,rfl,ai,bd,aZ,ap⟩:=hrel;have RW:=h! ai;have RM:=h! bd;have RB:=h! aZ;have RZ:=h! ap;clear W5 M5 X5 Z5 ai bd aZ ap;by_cases hlt:i<shut.length
  ·obtain⟨bK,c',bv,-,-,f⟩:=Sl.rows aO! (by decide) (V2.out.same (w':=wr) fun x hx=>RB.out.block x hx);cases bv;obtain⟨bq,oq,rfl,-,f⟩:=f (by omega);have d0:wr.cell? ⟨bq,oq+i*2,none⟩=some (.string shut[i].t):=f i hlt 0 _ rfl;have d1:wr.cell? ⟨bq,oq+i*2+1,none⟩=some (.string shut[i].r):=f i hlt 1 _ rfl;have bA:=h! (la! hlt);have aW:=h! hlt;have bg:=h! (bm.out shut[i] (n5! hlt));generalize shut[i]=r at *;obtain⟨rt,rr⟩:=r;dsimp only at d0 d1;clear f hi hlt;go_wp2_with fail
   clear d0 d1;obtain⟨wd,l⟩:=e! ((wr.alloc (.cells #[.string rt,.string rr] 121)).drew);have DX:=h! (show Ext wr wd from by rw[l];exact(Ext.alloc _ _).trans (Ext.drew _));have DR:=h! (show Blk wd wr.heap.size #[.string rt,.string rr] 121 from by rw[l];exact(Blk.made _ _ _).drew);have DW:=h! (RW.out.ext DX.out);have DM:=h! (RM.out.below DX.out);have DB:=h! (show Below w2.heap.size w2 wd from RB.out.trans (DX.out.mono (by have:=RZ.out;omega)));have DZ:Hid (w2.heap.size+3<=wd.heap.size):=h! (n6! RZ.out DX.out.size);refine r! (Kept (· ≠ w2.heap.size) wd) (by rw[<-l];exact Kept.refl _ _) ?_;rw[<-l];clear l RW RM DX;have h1:=fun W (h:Kept (· ≠ w2.heap.size) wd W)=>(h.blk DW.out.box (by show w2.heap.size+2≠w2.heap.size;omega)).cells;have h2:=fun W (h:Kept (· ≠ w2.heap.size) wd W)=>(h.blk DR.out (by show wr.heap.size≠w2.heap.size;have:=RZ.out;omega)).cells;(refine WalkN.tk [0,1,2,3,4] ?_;(iterate 5 (refine c! ?_));refine TkN.n ?_)
   clear h1 h2;obtain⟨wf,ac,bb,ah⟩:=DM.out.store refK ct! Tryz.underlying141 (cs! ⟨rt,rr⟩ bg.out) true;have FM:=h! bb;unfold r2V bV at ac;dsimp only at ac;refine ob! 5 ?_;intro K hK;go_simp;refine hK.out _ _ ah.kept ?_;clear hK ac bb;refine d! ?_;have FW:=h! (DW.out.same (ah.kept.block _ (by show w2.heap.size+2≠w2.heap.size;omega)) (ah.kept.block _ (by show w2.heap.size+1≠w2.heap.size;omega)) (fun g hg=>by cases hg));have FB:Hid (Below w2.heap.size w2 wf):=h! (DB.out.trans (ah.below (n0! _)));have FZ:=h! (show w2.heap.size+3<=wf.heap.size from by rw[ah.size];exact DZ.out);clear ah DW DM DB DR;have hsh:=bF.out;have bI:=aW.out;go_wp2_with fail
   go_roundw
   case rel=>exact⟨i+1,aW.out,by go_num,FW.out,by rw[bA.out];exact FM.out,FB.out,FZ.out⟩
   case measure=>have:=aW.out;simp[intOf];omega
  ·obtain rfl:i=shut.length:=by omega
   have bf:Hid (shut.take shut.length=shut):=h! (u2!);rw[bf.out]at RM;have aT:=h! (dN! (w2.heap.size+2) (w2.heap.size+1) w2.heap.size tv (bkV b) (.map (some w2.heap.size)) (.slice none 0 0) (.slice none 0 0) [] p wr (Z.out.okp 0 p (by simp[walkN])) RW.out ⟨by omega,by omega⟩ (by decide));have bE:=(P2.out.same (S:=(· < w2.heap.size)) (W:=wr) (fun x hx=>RB.out.block x hx) P2.out.lt).cells;have bG:Hid (p=⟨p.t,p.i,p.r⟩):=h! rfl;unfold pV at aT;go_wp2_with fail
   refine aT.out.mono ?_;rintro e w6 ⟨b9,rfl,am,V⟩
   have Q6:=h! (show om! w2 w6 (w2.heap.size+2) (w2.heap.size+1) w2.heap.size (w2.heap.size+3) w2.heap.size tv (bkV b) (.map (some w2.heap.size)) b9 (.slice none 0 0) (walkN ts T shut p 0).1 shut []from⟨by
    have h1:putP [] p=(walkN ts T shut p 0).1:=by simp[putP,walkN]
    rw[<-h1];exact am,FRow.nil _ _,RM.out.same (V.kept.block _ ⟨RM.out.lt,by omega,by omega,fun e=>by cases e⟩),RB.out.trans (V.pk RW.out ⟨by omega,by omega⟩).below⟩)
   have Y6:Hid (w2.heap.size+3<=w6.heap.size):=h! (n6! RZ.out V.size);clear bE aT am V RW RM RB RZ hi hlt;go_wp2_with fail
   go_loopw [16] (fun iv wr=>∃(i:Nat) (q:List (FT × FV3)) (pv fv:Value),iv= .int .i64 i/\WalkAt ts T shut p most i/\om! w2 wr (w2.heap.size+2) (w2.heap.size+1) w2.heap.size (w2.heap.size+3) w2.heap.size tv (bkV b) (.map (some w2.heap.size)) pv fv (walkN ts T shut p i).1 shut q/\q.map (·.1)=(walkN ts T shut p i).2/\w2.heap.size+3<=wr.heap.size) (fun iv _=>N+1-(intOf iv).toNat)
   case atStart=>exact⟨0,[],b9,.slice none 0 0,rfl,(fun m hm=>absurd hm (Nat.not_lt_zero m)),Q6.out,rfl,Y6.out⟩
   case round =>
    obtain⟨i,q,pv,fv,rfl,an,a8,hq,ap⟩:=hrel;have aV:=h! an.le;have L:=h! (Z.out.few i);have aQ:=h! (Z.out.okp i)
    have H:=h! (show q.length=i from by
     have:=congrArg List.length hq;rwa[x1!,aF!]at this)
    have ax:Hid (walkN ts T shut p (i+1)=_):=h! (by rw[walkN]);have b3:=h! (show i<(walkN ts T shut p i).1.length->most<((walkN ts T shut p i).1.length:Int)->bi! ts T shut p most from fun h1 h2=>⟨i,an,h1,h2⟩)
    have bB:=h! (show i<(walkN ts T shut p i).1.length->((walkN ts T shut p i).1.length:Int)<=most->WalkAt ts T shut p most (i+1)from fun h1 h2 m hm=>by
     rcases Nat.lt_succ_iff_lt_or_eq.1 hm with h3 | rfl
     ·exact an m h3
     ·exact⟨h1,h2⟩)
    have au:=h! (show i=(walkN ts T shut p i).1.length->pW! ts T shut p most i from fun h=>⟨an,h⟩);have RW:=h! a8.walk;have RR:=h! a8.row;have RM:=h! a8.shut;have RB:=h! a8.below;have RZ:=h! ap;have RQ:=h! hq;have RG:Hid (Blk wr (w.heap.size+2) #[.slice none 0 0,.slice none 0 0] 96):=h! (G2.out.same (S:=(· < w2.heap.size)) (fun x hx=>a8.below.block x hx) G2.out.lt)
    have RS:=h! (show Blk wr w.heap.size #[tv] 26 from by
     rw[bs.out];exact S2.out.same (S:=(· < w2.heap.size)) (fun x hx=>a8.below.block x hx) S2.out.lt)
    clear Q6 Y6 an a8 hq ap;by_cases hend:i<(walkN ts T shut p i).1.length
    ·by_cases hmost:most<((walkN ts T shut p i).1.length:Int)
     ·have HL:=h! (b3.out hend hmost);obtain⟨po,pn,pc,rfl,bu,-,-⟩:=RW.out.pts.sl.len;obtain rfl:pn=(walkN ts T shut p i).1.length:=by rw[az!]at bu;omega
      generalize (walkN ts T shut p i).1.length=len at *;have c1:=RW.out.box.cells;have c2:=RG.out.cells;have c3:=RG.out.free;have g1:(len:Int) > most:=hmost;have g2:(i:Int)<(len:Int):=by omega
      have XE:=h! (show Ext w ((wr.setCell ⟨w.heap.size+2,0,none⟩ (.slice none 0 0)).setCell ⟨w.heap.size+2,1,none⟩ (.slice none 0 0))from((X2.out.trans RB.out:Below w.heap.size w wr).setCell (p:=⟨w.heap.size+2,0,none⟩) (by show w.heap.size<=w.heap.size+2;omega) _).setCell (p:=⟨w.heap.size+2,1,none⟩) (by show w.heap.size<=w.heap.size+2;omega) _);have GE:=h! ((RG.out.set_to (cs':=#[.slice none 0 0,.slice none 0 0]) 0 (.slice none 0 0) rfl).set_to (cs':=#[.slice none 0 0,.slice none 0 0]) 1 (.slice none 0 0) rfl);go_wp2_with fail
      clear c1 c2 c3;refine bodyPost_ret (v := .tuple #[.agg #[.slice none 0 0,.slice none 0 0],.int .i64 10]) ?_ rfl ⟨XE.out,.inr ⟨HL.out,rfl⟩⟩;rw[results_cell_tmp rfl];have hl:=run_loadVar_row (P:=prog) _ (w.heap.size+2) _ 96 _ _ _ GE.out Tryz.underlying96 rfl (by kernel_rfl);simp[asAddr,hl,Result.andThen]
     ·have HA:=h! (bB.out hend (by omega));obtain⟨po,pc,rfl,bt,bo,f⟩:=Sl.rows aj! (by decide) (show Sl _ wr 3 pv ((walkN ts T shut p i).1.flatMap pC)from RW.out.pts.sl);obtain⟨bq,oq,rfl,-,f⟩:=f (by omega);have aA:=f i hend;clear f;have E:=h! (aQ.out _ (n5! hend));have b7:=(show(walkN ts T shut p i).1.getD i p=(walkN ts T shut p i).1[i]from by rw[n8!,n4! hend];rfl);rw[b7]at ax;clear b7;generalize (walkN ts T shut p i).1[i]=x at *;have X:=h! hend;have hmost':¬ (((walkN ts T shut p i).1.length:Int) > most):=hmost;have aP:Hid (∀g,fv.ownBlock=some g->g<wr.heap.size):=h! (fun g hg=>(RR.out.row.block g hg).2);have g2:(i:Int)<((walkN ts T shut p i).1.length:Int):=by omega
      obtain⟨xt,xi,xr⟩:=x;have c0:wr.cell? ⟨bq,oq+i*3,none⟩=some (.string xt):=aA 0 _ rfl;have c1:wr.cell? ⟨bq,oq+i*3+1,none⟩=some (.string xi):=aA 1 _ rfl;have c2:wr.cell? ⟨bq,oq+i*3+2,none⟩=some (.string xr):=aA 2 _ rfl;have cb:=RW.out.box.cells;obtain⟨wj,aI⟩:=e! (wr.alloc (.cells #[.string xt,.string xi,.string xr] 32));obtain⟨wk,ai⟩:=e! (wj.alloc (.cells #[.int .i64 0,.slice none 0 0,.slice none 0 0,.slice none 0 0] 128));have ej:wj.heap.size=wr.heap.size+1:=by rw[aI];simp
      have xj:Ext wr wj:=xa! aI
      have xk:Ext wj wk:=xa! ai
      have aL:Hid (Ext wr wk):=h! (xj.trans xk);have KP:=h! (show Blk wk wr.heap.size #[.string xt,.string xi,.string xr] 32 from Blk.below (bm! aI) xk);have KF:=h! (show Blk wk (wr.heap.size+1) #[.int .i64 0,.slice none 0 0,.slice none 0 0,.slice none 0 0] 128 from by rw[ai,<-ej];exact Blk.made _ _ _);have KS:=h! (RS.out.below aL.out);have KB:=h! (show Below w2.heap.size w2 wk from RB.out.trans (aL.out.mono (by have:=RZ.out;omega)));have b8:=h! (lS! (S:=(· < w2.heap.size)) ts tv xt xr wk (fun y hy=>n1! hy KB.out.size) (T2.out.same fun y hy=>KB.out.block y hy) aS.out HU.out br.out E.out.1 E.out.2.2);have kp:=KP.out.cells;have ks:=KS.out.cells;clear ej xj xk aA hend hmost b3 au;subst ai aI;go_wp2_with fail
      clear c0 c1 c2 cb kp ks;refine b8.out.mono ?_;rintro e w3 ⟨⟨zr,zv⟩,rfl,F,aR,b0,s⟩;have F:RTAt (· < w2.heap.size) w3 zr zv:=F;obtain⟨zo,zc,rfl,-⟩:=F.rows;unfold rvV rV;dsimp only at aR b0 ⊢;have X3:=h! (aL.out.trans s);have P3:=h! (KP.out.below s);have F3:=h! (KF.out.below s);have B3:Hid (Below w2.heap.size w2 w3):=h! (KB.out.trans (s.mono KB.out.size));have b6:=h! F;have ar:=h! aR;have kp:=P3.out.cells;clear b8 aL KP KF KS KB F aR b0 s g2 hmost';obtain⟨w4,a0⟩:=e! (w3.alloc (.cells #[.int .i64 zr.k,.string zr.a,.string zr.b,.slice zo zr.ps.length zc] 106));obtain⟨wd,l⟩:=e! w4.drew;have ag:=h! (show Ext w3 wd from by rw[l,a0];exact(Ext.alloc _ _).trans (Ext.drew _));have DX:=h! (X3.out.trans ag.out);have DR:=h! (show Blk wd w3.heap.size #[.int .i64 zr.k,.string zr.a,.string zr.b,.slice zo zr.ps.length zc] 106 from by rw[l,a0];exact(Blk.made _ _ _).drew);have DP:=h! (P3.out.below ag.out);have DF:=h! (F3.out.below ag.out);have DW:=h! (RW.out.ext DX.out);have DM:=h! (RM.out.below DX.out);have DB:Hid (Below w2.heap.size w2 wd):=h! (B3.out.trans (ag.out.mono B3.out.size));have a6:=h! (RR.out.ext DX.out);have DZ:Hid (w2.heap.size+3<=wd.heap.size):=h! (n6! RZ.out DX.out.size);have aj:Hid (wr.heap.size+1<wd.heap.size):=h! DF.out.lt;have DA:=h! (b6.out.same fun y hy=>ag.out.block y (n1! hy B3.out.size));clear X3 P3 F3 B3 b6 ag;have D:=fun W (h:Ext wd W)=>(DM.out.below h).look refK ct! Tryz.underlying141 (Tryz.zeroValue4 W) false (cs! ⟨xt,xr⟩ ⟨E.out.1,E.out.2.2⟩);simp only[lt!]at D;unfold r2V bV at D;dsimp only at D;have h1:=fun W (h:Ext wd W)=>(DW.out.box.below h).cells;have h2:=fun W (h:Ext wd W)=>(DP.out.below h).cells;have o:=h! D;have U:=h! h1;have Q:=h! h2;clear D h1 h2;subst l a0
      have bp:Hid (lookA (ac! ts) ⟨xt,xr⟩=none)\/(∃r,Hid (lookA (ac! ts) ⟨xt,xr⟩=some r/\(⟨xt,xr⟩:R2)∈shut))\/(∃r,Hid (lookA (ac! ts) ⟨xt,xr⟩=some r/\¬ (⟨xt,xr⟩:R2)∈shut)):=by
       cases hL:lookA (ac! ts) ⟨xt,xr⟩ with
       | none=>exact .inl rfl
       | some r =>
        by_cases hsh:(⟨xt,xr⟩:R2)∈shut
        ·exact .inr (.inl ⟨r,rfl,hsh⟩)
        ·exact .inr (.inr ⟨r,rfl,hsh⟩)
      rcases bp with hL | ⟨r,hL⟩|⟨r,hL⟩
      case' inl =>
       have hL:lookA (ac! ts) ⟨xt,xr⟩=none:=hL.out;have av:=h! (show bb! ts shut ⟨xt,xi,xr⟩=none from by unfold bb!;split <;> first | rfl | exact hL);rw[hL]at ar;rw[hL];clear ar hL;dsimp only[Option.isSome];go_wp2_with fail
       clear kp;obtain⟨wd,l⟩:=e! ((w3.alloc (.cells #[.int .i64 zr.k,.string zr.a,.string zr.b,.slice zo zr.ps.length zc] 106)).drew);rw[<-l]at DX DR DP DF DW DM DB a6 DZ aj DA o U Q;refine re! l ?_;clear l;have D:=o.out;have h1:=U.out;have h2:=Q.out;clear o U Q;(refine WalkN.tk [0,1] ?_;(iterate 2 (refine c! ?_));refine TkN.n ?_)
       refine k! 2 ?_;refine k! 3 ?_;refine k! 4 ?_;refine k! 5 ?_;refine k! 6 ?_;refine k! 7 ?_;refine k! 8 ?_;refine k! 9 ?_;refine k! 10 ?_;refine k! 11 ?_;refine k! 12 ?_;refine k! 13 ?_
       refine t! 14 ?_
       refine d! ?_;clear D h1 h2;obtain⟨fx,O⟩:=e! FT.zero;obtain⟨ae,aa⟩:=e! ((walkN ts T shut p i).1);obtain⟨G,aq⟩:=e! ((Value.slice (some ⟨bq,oq,none⟩) (walkN ts T shut p i).1.length pc));obtain⟨a1,b1,c1,e1⟩:∃a b c,Value.slice a b c= .slice none 0 0:=⟨_,_,_,rfl⟩;obtain⟨a2,b2,c2,e2⟩:∃a b c,Value.slice a b c= .slice none 0 0:=⟨_,_,_,rfl⟩;obtain⟨a4,b4,c4,e4⟩:∃a b c,Value.slice a b c= .slice none 0 0:=⟨_,_,_,rfl⟩;have ab:=h! (show stepG ts T shut ⟨xt,xi,xr⟩ (walkN ts T shut p i).1=(fx,ae)from by rw[O,aa];exact dA! (T:=T) (ps:=(walkN ts T shut p i).1) av.out);have TW:=h! (show WkAt wd (w2.heap.size+2) (w2.heap.size+1) w2.heap.size tv (bkV b) (.map (some w2.heap.size)) ae G fv from by rw[aa,aq];exact DW.out);have TR:=a6;have TM:=DM;have TB:=DB;have TZ:=DZ;have TF:=h! (show Blk wd (wr.heap.size+1) #[.int .i64 fx.k,.slice a1 b1 c1,.slice a2 b2 c2,.slice a4 b4 c4] 128 from by rw[O,e1,e2,e4];exact DF.out);obtain⟨n0,Y⟩:=e! wd.heap.size
       have TX:=h! (show w2.heap.size+3<=n0/\(∀g,fv.ownBlock=some g->g<n0)/\FTAt (FS n0 wd) wd fx (.slice a1 b1 c1,.slice a2 b2 c2,.slice a4 b4 c4)from by
        rw[O,e1,e2,e4,Y];exact⟨DZ.out,fun g hg=>n1! (aP.out g hg) DX.out.size,jZ! _ _⟩)
       clear DW a6 DM DB DZ DF DX DR DP DA O aa aq e1 e2 e4 Y;have tb:=TW.out.box.cells;obtain⟨fo,fn,fc,rfl,a5,-,-⟩:=TR.out.row.sl.len;rw[ap!]at a5;obtain rfl:i=fn:=by have:=H.out;omega
       clear a5;go_wp2_with fail
       clear tb;obtain⟨w7,A⟩:=e! wd;rw[<-A]at TW TR TM TB TF TX TZ ⊢;clear A
      case' inr.inl =>
       have hsh:=hL.out.2;have hL:=hL.out.1;have av:=h! (show bb! ts shut ⟨xt,xi,xr⟩=none from by unfold bb!;rw[if_pos hsh]);rw[if_pos hsh]at o;rw[hL];clear ar hL hsh;unfold lookV at o;dsimp only[Option.isSome]at o ⊢;go_wp2_with fail
       clear kp;obtain⟨wd,l⟩:=e! ((w3.alloc (.cells #[.int .i64 zr.k,.string zr.a,.string zr.b,.slice zo zr.ps.length zc] 106)).drew);rw[<-l]at DX DR DP DF DW DM DB a6 DZ aj DA o U Q;refine re! l ?_;clear l;have D:=o.out;have h1:=U.out;have h2:=Q.out;clear o U Q;simp only[Bool.false_eq_true,if_false]at D;(refine WalkN.tk [0,1,2,3,4,5,6,7,8,9,10,11,12,13,14] ?_;(iterate 15 (refine c! ?_));refine TkN.n ?_)
       refine d! ?_;clear D h1 h2;obtain⟨fx,O⟩:=e! FT.zero;obtain⟨ae,aa⟩:=e! ((walkN ts T shut p i).1);obtain⟨G,aq⟩:=e! ((Value.slice (some ⟨bq,oq,none⟩) (walkN ts T shut p i).1.length pc));obtain⟨a1,b1,c1,e1⟩:∃a b c,Value.slice a b c= .slice none 0 0:=⟨_,_,_,rfl⟩;obtain⟨a2,b2,c2,e2⟩:∃a b c,Value.slice a b c= .slice none 0 0:=⟨_,_,_,rfl⟩;obtain⟨a4,b4,c4,e4⟩:∃a b c,Value.slice a b c= .slice none 0 0:=⟨_,_,_,rfl⟩;have ab:=h! (show stepG ts T shut ⟨xt,xi,xr⟩ (walkN ts T shut p i).1=(fx,ae)from by rw[O,aa];exact dA! (T:=T) (ps:=(walkN ts T shut p i).1) av.out);have TW:=h! (show WkAt wd (w2.heap.size+2) (w2.heap.size+1) w2.heap.size tv (bkV b) (.map (some w2.heap.size)) ae G fv from by rw[aa,aq];exact DW.out);have TR:=a6;have TM:=DM;have TB:=DB;have TZ:=DZ;have TF:=h! (show Blk wd (wr.heap.size+1) #[.int .i64 fx.k,.slice a1 b1 c1,.slice a2 b2 c2,.slice a4 b4 c4] 128 from by rw[O,e1,e2,e4];exact DF.out);obtain⟨n0,Y⟩:=e! wd.heap.size
       have TX:=h! (show w2.heap.size+3<=n0/\(∀g,fv.ownBlock=some g->g<n0)/\FTAt (FS n0 wd) wd fx (.slice a1 b1 c1,.slice a2 b2 c2,.slice a4 b4 c4)from by
        rw[O,e1,e2,e4,Y];exact⟨DZ.out,fun g hg=>n1! (aP.out g hg) DX.out.size,jZ! _ _⟩)
       clear DW a6 DM DB DZ DF DX DR DP DA O aa aq e1 e2 e4 Y;have tb:=TW.out.box.cells;obtain⟨fo,fn,fc,rfl,a5,-,-⟩:=TR.out.row.sl.len;rw[ap!]at a5;obtain rfl:i=fn:=by have:=H.out;omega
       clear a5;go_wp2_with fail
       clear tb;obtain⟨w7,A⟩:=e! wd;rw[<-A]at TW TR TM TB TF TX TZ ⊢;clear A
      case' inr.inr =>
       have hsh:=hL.out.2;have hL:=hL.out.1;have av:=h! (show bb! ts shut ⟨xt,xi,xr⟩=some r from by unfold bb!;rw[if_neg hsh];exact hL);have aX:=h! hL;rw[if_neg hsh]at o;rw[hL]at ar;rw[hL];clear hL hsh;unfold lookV at o;dsimp only[Option.isSome]at o ⊢;go_wp2_with fail
       clear kp;obtain⟨wd,l⟩:=e! ((w3.alloc (.cells #[.int .i64 zr.k,.string zr.a,.string zr.b,.slice zo zr.ps.length zc] 106)).drew);rw[<-l]at DX DR DP DF DW DM DB a6 DZ aj DA o U Q;refine re! l ?_;clear l;have D:=o.out;have h1:=U.out;have h2:=Q.out;clear o U Q;simp only[Bool.false_eq_true,if_false]at D;(refine WalkN.tk [0,1,2,3,4,5,6,7,8,9,10,11,12,13,14] ?_;(iterate 15 (refine c! ?_));refine TkN.n ?_)
       refine d! ?_;clear D h1 h2;have bk:=ar.out _ rfl;subst bk;have be:=h! (aD! aX.out);have b5:=h! (nQ! (w2.heap.size+2) (w2.heap.size+1) w2.heap.size b tv (.map (some w2.heap.size)) fv T ⟨xt,xi,xr⟩ w2 E.out Z.out.tok Z.out.tlen ⟨by omega,by omega⟩ K2.out (n0! _) zr _ (.slice zo zr.ps.length zc) (walkN ts T shut p i).1 wd (Z.out.rok _ be.out) DA.out DB.out DW.out (by have h1:zr.sz*(T.length+1)+N<=1073741824:=Z.out.room _ be.out;have h2:=L.out;omega));have dp:=DP.out.cells;have dr:=DR.out.cells;go_wp2_with fail
       clear dp dr;refine b5.out.mono ?_;rintro e w5 ⟨v3,G,rfl,C,R,J⟩;have ab:=h! (fm! (T:=T) (ps:=(walkN ts T shut p i).1) av.out);generalize formD T ⟨xt,xi,xr⟩ zr (walkN ts T shut p i).1=fd at *;obtain⟨fx,ae⟩:=fd;obtain⟨u1,u2,u4⟩:=v3;dsimp only at C R ab;obtain⟨s1,s2,-⟩:=(FTAt.iff _ _).1 C;obtain⟨a1,b1,c1,rfl,-,-,-⟩:=s1.len;obtain⟨a2,b2,c2,rfl,-,-,-⟩:=s2.len;obtain⟨a4,c4,rfl,-⟩:=C.rows;obtain⟨b4,aU⟩:=e! fx.ps.length;rw[<-aU]at C;unfold fV;dsimp only;rw[<-aU];clear s1 s2 aU;have F5:=h! (J.blk DW.out DF.out (by decide) (by decide));have bD:=F5.out.cells;have bi:=F5.out.free;have ZS:∀y,y≠wr.heap.size+1->((((w5.setCell ⟨wr.heap.size+1,0,none⟩ (.int .i64 fx.k)).setCell ⟨wr.heap.size+1,1,none⟩ (.slice a1 b1 c1)).setCell ⟨wr.heap.size+1,2,none⟩ (.slice a2 b2 c2)).setCell ⟨wr.heap.size+1,3,none⟩ (.slice a4 b4 c4)).heap[y]?=w5.heap[y]?:=fun y hy=>by rw[Below.heap_setCell _ _ _ y hy,Below.heap_setCell _ _ _ y hy,Below.heap_setCell _ _ _ y hy,Below.heap_setCell _ _ _ y hy]
       obtain⟨w7,A⟩:=e! ((((w5.setCell ⟨wr.heap.size+1,0,none⟩ (.int .i64 fx.k)).setCell ⟨wr.heap.size+1,1,none⟩ (.slice a1 b1 c1)).setCell ⟨wr.heap.size+1,2,none⟩ (.slice a2 b2 c2)).setCell ⟨wr.heap.size+1,3,none⟩ (.slice a4 b4 c4));have e7:w7.heap.size=w5.heap.size:=by rw[A];simp
       rw[<-A]at ZS;have F7:=h! (show Blk w7 (wr.heap.size+1) #[.int .i64 fx.k,.slice a1 b1 c1,.slice a2 b2 c2,.slice a4 b4 c4] 128 from by rw[A];exact F5.out.put4 _ _ _ _);have aH:=R.un F5.out (by decide) (by decide);have TW:=h! (R.same (w':=w7) (ZS _ fun e=>aH.2.1 e.symm) (ZS _ fun e=>aH.2.2.1 e.symm) fun g hg=>ZS _ fun e=>aH.2.2.2 (by rw[hg,e]))
       have aJ:=h! (show PKept (WM (w2.heap.size+2) (w2.heap.size+1)) w2.heap.size wr w7 from by
        rw[A];have hk:=pR!.next (pR!.of (e:=32) (M:=WM (w2.heap.size+2) (w2.heap.size+1)) DX.out (by have:=RZ.out;omega)) (J.pk DW.out ⟨by omega,by omega⟩)
        have aG:¬ QK 32 (WM (w2.heap.size+2) (w2.heap.size+1)) w2.heap.size wr (wr.heap.size+1):=fun h=>by
         rcases h with h | h
         ·have:=RZ.out;omega
         ·have:=h.2.1;omega
        exact(((hk.set aG _).set aG _).set aG _).set aG _)
       have TR:=h! (RR.out.keep aJ.out fun y hy=>by rcases hy with rfl | rfl <;> omega);have TM:=h! ((DM.out.same (J.kept.block _ ⟨DM.out.lt,by omega,by omega,fun e=>DW.out.pts.notMap DM.out.notCells _ e rfl⟩)).same (ZS _ (by have:=RZ.out;omega)));have TB:Hid (Below w2.heap.size w2 w7):=h! (RB.out.trans aJ.out.below);have TZ:Hid (w2.heap.size+3<=w7.heap.size):=h! (n6! RZ.out aJ.out.size);have TX:=h! (show w2.heap.size+3<=wd.heap.size/\(∀g,fv.ownBlock=some g->g<wd.heap.size)/\FTAt (FS wd.heap.size w7) w7 fx (.slice a1 b1 c1,.slice a2 b2 c2,.slice a4 b4 c4)from⟨DZ.out,fun g hg=>n1! (aP.out g hg) DX.out.size,(C.same fun y hy=>ZS y (by have:=hy.1;have:=aj.out;omega)).mono fun y hy=>⟨hy.1,by rw[e7];exact hy.2.1,fun cs=>by rw[ZS y (by have:=hy.1;have:=aj.out;omega)];exact hy.2.2 cs⟩⟩);have TF:=F7;clear b5 C R J aH ZS e7 F7 aJ DW a6 DM DB DZ aj DF DX DR DP DA F5;obtain⟨n0,Y⟩:=e! wd.heap.size;rw[<-Y]at TX;clear Y;subst A;have tb:=TW.out.box.cells;obtain⟨fo,fn,fc,rfl,a5,-,-⟩:=TR.out.row.sl.len;rw[ap!]at a5;obtain rfl:i=fn:=by have:=H.out;omega
       clear a5;go_wp2_with fail
       clear tb bD bi;obtain⟨w7,A⟩:=e! (((((w5.setCell ⟨wr.heap.size+1,0,none⟩ (.int .i64 fx.k)).setCell ⟨wr.heap.size+1,1,none⟩ (.slice a1 b1 c1)).setCell ⟨wr.heap.size+1,2,none⟩ (.slice a2 b2 c2)).setCell ⟨wr.heap.size+1,3,none⟩ (.slice a4 b4 c4)));rw[<-A]at TW TR TM TB TF TX TZ ⊢;clear A
      all_goals
       obtain⟨wq,az⟩:=e! (World.drew w7);have QX:=h! (show Ext w7 wq from xd! az);have QW:=h! (TW.out.ext QX.out);have QF:=h! (TF.out.below QX.out);have QR:=h! (TR.out.ext QX.out);have QM:=h! (TM.out.below QX.out);have QB:=h! (show Below w2.heap.size w2 wq from TB.out.trans (QX.out.mono (by have:=TZ.out;omega)));have QZ:Hid (w2.heap.size+3<=wq.heap.size):=h! (n6! TZ.out QX.out.size);have QN:=h! (TX.out.1);have QV:=h! (TX.out.2.1);have QA:=h! ((TX.out.2.2.same fun y hy=>QX.out.block y hy.2.1).mono (S':=FS n0 wq) fun y hy=>hy.ext QX.out);refine bx! (fun j=>decide (9<=j)) (fun W=>Blk W (w2.heap.size+2) #[tv,bkV b,.map (some w2.heap.size),.map (some (w2.heap.size+1)),G,.slice fo i fc,.int .i64 0] 251/\Blk W (wr.heap.size+1) #[.int .i64 fx.k,.slice a1 b1 c1,.slice a2 b2 c2,.slice a4 b4 c4] 128) (by rw[<-az];exact⟨QW.out.box,QF.out⟩) (by kernel_rfl) (by kernel_rfl) (fun _ _ d _ _ h=>by cases d <;> exact h) ?_;rw[<-az];clear az TW TR TM TB TF TX QX;have h1:=fun W (h:Blk W (w2.heap.size+2) #[tv,bkV b,.map (some w2.heap.size),.map (some (w2.heap.size+1)),G,.slice fo i fc,.int .i64 0] 251/\Blk W (wr.heap.size+1) #[.int .i64 fx.k,.slice a1 b1 c1,.slice a2 b2 c2,.slice a4 b4 c4] 128)=>h.1.cells;have h2:=fun W (h:Blk W (w2.heap.size+2) #[tv,bkV b,.map (some w2.heap.size),.map (some (w2.heap.size+1)),G,.slice fo i fc,.int .i64 0] 251/\Blk W (wr.heap.size+1) #[.int .i64 fx.k,.slice a1 b1 c1,.slice a2 b2 c2,.slice a4 b4 c4] 128)=>h.2.cells;(refine WalkS.tk [0,1,2,3,4,5,6] ?_;(iterate 7 (refine z! ?_));refine TkS.n ?_)
       clear h1 h2;have s:=Ext.alloc wq (.cells #[.int .i64 0,.slice none 0 0,.slice none 0 0,.slice none 0 0] 128);refine oS! 7 ?_;refine b! ?_;intro K hK;go_simp;refine hK.out _ _ ⟨QW.out.box.below s,QF.out.below s⟩ ?_;clear hK;have aB:=h! (show i<=1073741823 from by have h1:=L.out;have h2:=Z.out.nmax;have h3:=aV.out;omega);refine oS! 8 ?_;refine b! ?_;intro K hK;refine bD! lO! (.tmp 122) (.tmp 125) rfl rfl (QR.out.row.below s) (m:=1) (news:=[.int .i64 0,.slice none 0 0,.slice none 0 0,.slice none 0 0]) rfl rfl (fun j u hu=>?_) (by simp[Value.oneCell']) (by have:=H.out;have:=aB.out;rw[ap!];simp;omega) (by have:=H.out;have:=aB.out;rw[ap!];simp;omega) (by have:=QZ.out;simp;omega) (fun v6 w6 hown6 hb6 hg6=>?_)
       ·rw[Addr.add_lit,cell_of_row _ wq.heap.size (0+j) #[.int .i64 0,.slice none 0 0,.slice none 0 0,.slice none 0 0] 128 (0,0) (heap_alloc_new wq _),Nat.zero_add];simpa using hu
       obtain⟨g,n6,c6,rfl⟩:∃g n c,v6= .slice (some ⟨g,0,none⟩) n c:=by
        rcases hown6.shape with⟨_,h⟩ | h
        ·simp at h
        ·exact h
       obtain rfl:n6=i+1:=by
        obtain⟨a,b,c,h1,h2,-,-⟩:=hown6.sl.len;cases h1;rw[u4!,ap!,H.out]at h2;simp at h2;omega
       have B6:=h! (show Blk w6 (w2.heap.size+2) _ _ from(hg6.block _ (QW.out.box.below s).lt fun e=>by have:=(QR.out.row.block _ e.symm).1;omega).trans (QW.out.box.below s));have F6:=h! (show Blk w6 (wr.heap.size+1) _ _ from(hg6.block _ (QF.out.below s).lt fun e=>by have:=aP.out _ e.symm;omega).trans (QF.out.below s));obtain⟨bz,a9⟩:=hown6.typed (g:=g) rfl;have aO:Hid (Blk w6 g bz 128):=h! a9
       have aw:=h! (show g≠w2.heap.size+2 from fun e=>by
        have h1:w6.heap[w2.heap.size+2]?=_:=B6.out;rw[<-e,a9]at h1;injection h1 with h1
        injection h1 with _ h1 _
        exact absurd h1 (by decide))
       have ay:=h! hown6;have aN:=h! hb6;have ad:=h! hg6;have ak:=h! s;refine hK.out _ _ ⟨B6.out,F6.out⟩ ?_;clear hK s hown6 hb6 hg6 a9;simp only[Act.put,pA,pZ,pS];have bJ:(i:Int)<(i:Int)+1:=by omega
       refine WalkS.rest (by kernel_rfl) ?_;(refine WalkN.tk [9,11,12,13] ?_;(iterate 4 (refine c! ?_));refine TkN.n ?_)
       refine p! 10 14 ?_ ?_
       ·refine b! ?_;intro K hK;have aY:=aO.out.free;obtain⟨k0,k1,k2,k3⟩:=cE! ay.out (k:=i*4) (by rw[ap!,H.out]);go_simp;clear aY k0 k1 k2 k3;refine hK.out _ _ trivial ?_;clear hK;have af:=h! (Own.setForm (p := .int .i64 0) ay.out (k:=i*4) (by rw[ap!,H.out]) (.int .i64 fx.k) (.slice a1 b1 c1) (.slice a2 b2 c2) (.slice a4 b4 c4));have B7:Hid (Blk (World.setForm w6 g (i*4) (.int .i64 fx.k) (.slice a1 b1 c1) (.slice a2 b2 c2) (.slice a4 b4 c4)) (w2.heap.size+2) _ _):=h! ((aw! _ _ _ _ _ _ _ (Ne.symm aw.out)).trans B6.out);have aE:∀j,(World.setForm w6 g (i*4) (.int .i64 fx.k) (.slice a1 b1 c1) (.slice a2 b2 c2) (.slice a4 b4 c4)).frozen? ⟨w2.heap.size+2,j,none⟩=false:=B7.out.free;have aC:=B7.out.cells;unfold World.setForm at aE aC;refine ob! 14 ?_;intro K hK;go_simp;refine hK.out _ _ trivial ?_;clear hK aE aC;refine d! ?_;have ES:=h! (mq! (ash:=w2.heap.size) (wz:=w2) (B:=w2.heap.size) (lo:=w2.heap.size+3) (w8:=(World.setForm w6 g (i*4) (.int .i64 fx.k) (.slice a1 b1 c1) (.slice a2 b2 c2) (.slice a4 b4 c4)).setCell ⟨w2.heap.size+2,5,none⟩ (.slice (some ⟨g,0,none⟩) (i+1) c6)) (v:=(.slice a1 b1 c1,.slice a2 b2 c2,.slice a4 b4 c4)) QW.out QR.out QM.out QB.out (by omega) ⟨by omega,by omega,by omega⟩ ⟨by omega,by omega⟩ QZ.out QA.out QN.out QV.out (by omega) ak.out ad.out aN.out (Own.setBox af.out B7.out (by decide) _) (B7.out.set_to 5 _ rfl) (fun y h1 h2=>(Below.heap_setCell _ _ _ y h2).trans (aw! _ _ _ _ _ _ _ h1)) (by rw[show ∀(x:World) a v,(x.setCell a v).heap.size=x.heap.size from fun x a v=>by simp,aR!]) ⟨rfl,rfl,rfl⟩);have EZ:=h! (show w2.heap.size+3<=((World.setForm w6 g (i*4) (.int .i64 fx.k) (.slice a1 b1 c1) (.slice a2 b2 c2) (.slice a4 b4 c4)).setCell ⟨w2.heap.size+2,5,none⟩ (.slice (some ⟨g,0,none⟩) (i+1) c6)).heap.size from by have h1:=ak.out.size;have h2:=ad.out.size;have h3:=QZ.out;rw[show ∀(x:World) a v,(x.setCell a v).heap.size=x.heap.size from fun x a v=>by simp,aR!];omega);unfold World.setForm at ES EZ;clear af B7 B6 F6 aO aw ay aN ad ak QW QF QR QM QB QZ QN QV QA;have bj:=aB.out;go_wp2_with fail
        go_roundw
        case rel=>exact⟨i+1,_,G,_,by go_num,HA.out,by rw[ax.out,ab.out];exact ES.out,by rw[ax.out,ab.out,v9!,RQ.out];rfl,EZ.out⟩
        case measure=>have h1:=L.out;have h2:=X.out;simp[intOf];omega
       ·refine b! ?_;intro K hK;have aE:=B6.out.free;have aC:=B6.out.cells;go_simp;clear aE aC;refine hK.out _ _ trivial ?_;clear hK;have B7:=h! (B6.out.set_to (cs':=#[tv,bkV b,.map (some w2.heap.size),.map (some (w2.heap.size+1)),G,.slice (some ⟨g,0,none⟩) (i+1) c6,.int .i64 0]) 5 (.slice (some ⟨g,0,none⟩) (i+1) c6) rfl);have af:=h! (Own.setBox (i:=5) ay.out B6.out (by decide) (.slice (some ⟨g,0,none⟩) (i+1) c6));have bc:=h! (aO.out.other (a:=⟨w2.heap.size+2,5,none⟩) aw.out (.slice (some ⟨g,0,none⟩) (i+1) c6));have aY:=bc.out.free;obtain⟨k0,k1,k2,k3⟩:=cE! af.out (k:=i*4) (by rw[ap!,H.out]);refine ob! 10 ?_;intro K hK;go_simp;refine hK.out _ _ trivial ?_;clear hK aY k0 k1 k2 k3;refine d! ?_;have ES:=h! (mq! (ash:=w2.heap.size) (wz:=w2) (B:=w2.heap.size) (lo:=w2.heap.size+3) (w8:=World.setForm (w6.setCell ⟨w2.heap.size+2,5,none⟩ (.slice (some ⟨g,0,none⟩) (i+1) c6)) g (i*4) (.int .i64 fx.k) (.slice a1 b1 c1) (.slice a2 b2 c2) (.slice a4 b4 c4)) (v:=(.slice a1 b1 c1,.slice a2 b2 c2,.slice a4 b4 c4)) QW.out QR.out QM.out QB.out (by omega) ⟨by omega,by omega,by omega⟩ ⟨by omega,by omega⟩ QZ.out QA.out QN.out QV.out (by omega) ak.out ad.out aN.out (Own.setForm af.out (k:=i*4) (by rw[ap!,H.out]) _ _ _ _) ((aw! _ _ _ _ _ _ _ (Ne.symm aw.out)).trans B7.out) (fun y h1 h2=>(aw! _ _ _ _ _ _ _ h1).trans (Below.heap_setCell _ _ _ y h2)) (by rw[aR!];simp) ⟨rfl,rfl,rfl⟩);have EZ:=h! (show w2.heap.size+3<=(World.setForm (w6.setCell ⟨w2.heap.size+2,5,none⟩ (.slice (some ⟨g,0,none⟩) (i+1) c6)) g (i*4) (.int .i64 fx.k) (.slice a1 b1 c1) (.slice a2 b2 c2) (.slice a4 b4 c4)).heap.size from by have h1:=ak.out.size;have h2:=ad.out.size;have h3:=QZ.out;rw[aR!];simp;omega);unfold World.setForm at ES EZ;clear af B7 bc B6 F6 aO aw ay aN ad ak QW QF QR QM QB QZ QN QV QA;have bj:=aB.out;go_wp2_with fail
        go_roundw
        case rel=>exact⟨i+1,_,G,_,by go_num,HA.out,by rw[ax.out,ab.out];exact ES.out,by rw[ax.out,ab.out,v9!,RQ.out];rfl,EZ.out⟩
        case measure=>have h1:=L.out;have h2:=X.out;simp[intOf];omega
    ·have HE:=h! (au.out (by have:=aV.out;omega));obtain⟨po,pn,pc,rfl,-,-,-⟩:=RW.out.pts.sl.len;obtain⟨fo,fn,fc,rfl,-,-,-⟩:=RR.out.row.sl.len
     have bh:pn=(walkN ts T shut p i).1.length:=by
      have h:=RW.out.pts.sl.len;obtain⟨a1,a2,a3,h1,h2,-,-⟩:=h;cases h1;rw[az!]at h2;omega
     subst bh;have bH:=aV.out;generalize hlen:(walkN ts T shut p i).1.length=len at *;have g2:¬ ((i:Int)<(len:Int)):=by omega
     have c1:=RW.out.box.cells;have c2:=RG.out.cells;have c3:=RG.out.free;go_wp2_with fail
     clear c1 c2 c3;have ZS:∀y,y≠w.heap.size+2->((wr.setCell ⟨w.heap.size+2,0,none⟩ (.slice po len pc)).setCell ⟨w.heap.size+2,1,none⟩ (.slice fo fn fc)).heap[y]?=wr.heap[y]?:=fun y hy=>by rw[Below.heap_setCell _ _ _ y hy,Below.heap_setCell _ _ _ y hy]
     have XE:Ext w ((wr.setCell ⟨w.heap.size+2,0,none⟩ (.slice po len pc)).setCell ⟨w.heap.size+2,1,none⟩ (.slice fo fn fc)):=((X2.out.trans RB.out:Below w.heap.size w wr).setCell (p:=⟨w.heap.size+2,0,none⟩) (by show w.heap.size<=w.heap.size+2;omega) _).setCell (p:=⟨w.heap.size+2,1,none⟩) (by show w.heap.size<=w.heap.size+2;omega) _;have GE:=(RG.out.set_to (cs':=#[.slice po len pc,.slice none 0 0]) 0 (.slice po len pc) rfl).set_to (cs':=#[.slice po len pc,.slice fo fn fc]) 1 (.slice fo fn fc) rfl;refine bodyPost_ret (v := .tuple #[.agg #[.slice po len pc,.slice fo fn fc],.int .i64 0]) ?_ rfl ⟨XE,.inl ⟨i,.slice po len pc,.slice fo fn fc,HE.out,rfl,?_,?_⟩⟩
     ·rw[results_cell_tmp rfl];have hl:=run_loadVar_row (P:=prog) _ (w.heap.size+2) _ 96 _ _ _ GE Tryz.underlying96 rfl (by kernel_rfl);simp[asAddr,hl,Result.andThen]
     ·exact(RW.out.pts.sl.same fun y hy=>ZS y (by have:=hy.1;have:=Z2.out;omega)).mono fun y hy=>⟨by have:=hy.1;have:=Z2.out;omega,by simpa using hy.2⟩
     ·obtain⟨q',h1,h2,h3⟩:=RR.out.forms;refine⟨q',h1.trans RQ.out,fun y hy=>((h2 y hy).same fun z hz=>ZS z (by have:=hz.1;have:=Z2.out;omega)).mono fun z hz=>⟨by have:=hz.1;have:=Z2.out;omega,by simpa using hz.2.1⟩,(h3.same fun z hz=>ZS z (by have:=hz.1;have:=Z2.out;omega)).mono fun z hz=>⟨by have:=hz.1;have:=Z2.out;omega,by simpa using hz.2.1⟩⟩
abbrev zF4:Array Value:=#[.int .i64 0,.slice none 0 0,.slice none 0 0,.slice none 0 0]
structure FrmI (wb w w':World)(gp B:Nat)(pv fv:Value)(pb:Array Value)(k:Int)(rb:Array Value)(ps:List P3)(subs:List P3)(refs:List Int)(q:List (FT × FV3))(sv rv qv pv':Value):Prop where
 fm:FmAt w' (w.heap.size+4) (w.heap.size+3) k subs refs q sv rv qv
 gk:GkAt w' gp B ps pv' fv
 pb:Blk w' w.heap.size pb 32
 rb:Blk w' (w.heap.size+1) rb 106
 ob:Blk w' (w.heap.size+2) zF4 128
 fn:Fine gp gp w w' pv pv'
 be:Below B wb w'
 wh:∀g,pv'.ownBlock=some g->pv.ownBlock=some g\/w.heap.size+4<=g
 sz:w.heap.size+4<=w'.heap.size
 p0:∀g,pv.ownBlock=some g->g<w.heap.size
 g0:B<=gp/\gp<w.heap.size
section
variable {wb w w' w2 w3 w4 : World} {gp B : Nat} {pv fv sv rv qv pv' pv2 : Value} {pb rb : Array Value} {k : Int} {ps ps2 subs : List P3} {refs : List Int} {q : List (FT × FV3)}
theorem FrmI.ext (h:FrmI wb w w' gp B pv fv pb k rb ps subs refs q sv rv qv pv')(hx:Ext w' w2):FrmI wb w w2 gp B pv fv pb k rb ps subs refs q sv rv qv pv' :=
 ⟨h.fm.ext hx,h.gk.ext hx,h.pb.below hx,h.rb.below hx,h.ob.below hx,h.fn.trans (Fine.of _ _ _ hx),h.be.trans (hx.mono (by have:=h.sz;have:=h.g0;omega)),h.wh,n6! h.sz hx.size,h.p0,h.g0⟩
theorem FrmI.num (h:FrmI wb w w' gp B pv fv pb k rb ps subs refs q sv rv qv pv')(hf:Fine gp gp w' w2 pv' pv2)(hg:GkAt w2 gp B ps2 pv2 fv):FrmI wb w w2 gp B pv fv pb k rb ps2 subs refs q sv rv qv pv2 :=
 have hne:∀x,w.heap.size<=x->x<w.heap.size+4->pv'.ownBlock≠some x:=fun x h1 h2 e=>by
  rcases h.wh x e with e2 | e2
  ·have:=h.p0 x e2;omega
  ·omega
 have hgp:=h.g0.2
 ⟨h.fm.gfine h.gk hf h.g0.1 (by omega),hg,(hf.kept.block _ ⟨h.pb.lt,by omega,by omega,hne _ (by omega) (by omega)⟩).trans h.pb,hf.gblk h.gk h.rb (by decide) (by decide),hf.gblk h.gk h.ob (by decide) (by decide),h.fn.trans hf,h.be.trans (hf.gpk h.gk h.g0.1).below,fun g hg=>by
  rcases hf.wher g hg with e | e
  ·exact h.wh g e
  ·exact .inr (n6! h.sz e),n6! h.sz hf.size,h.p0,h.g0⟩
theorem FrmI.cell {i:Nat}{u:Value}{q2:List (FT × FV3)}{subs2:List P3}{refs2:List Int}{sv2 rv2 qv2:Value}(h:FrmI wb w w' gp B pv fv pb k rb ps subs refs q sv rv qv pv')(hfm:FmAt (w'.setCell ⟨w.heap.size+3,i,none⟩ u) (w.heap.size+4) (w.heap.size+3) k subs2 refs2 q2 sv2 rv2 qv2):FrmI wb w (w'.setCell ⟨w.heap.size+3,i,none⟩ u) gp B pv fv pb k rb ps subs2 refs2 q2 sv2 rv2 qv2 pv' :=
 ⟨hfm,h.gk.setBox h.fm.box (by decide) (by decide) u,h.pb.other (a:=⟨w.heap.size+3,i,none⟩) (by show w.heap.size≠w.heap.size+3;omega) u,h.rb.other (a:=⟨w.heap.size+3,i,none⟩) (by show w.heap.size+1≠w.heap.size+3;omega) u,h.ob.other (a:=⟨w.heap.size+3,i,none⟩) (by show w.heap.size+2≠w.heap.size+3;omega) u,h.fn.set (by omega) u,h.be.setCell (by have:=h.g0;show B<=w.heap.size+3;omega) u,h.wh,by simpa using h.sz,h.p0,h.g0⟩
theorem FrmI.setSubs {s2:List P3}{sv':Value}(h:FrmI wb w w' gp B pv fv pb k rb ps subs refs q sv rv qv pv')(hs:Own w' (w.heap.size+4) 33 3 sv' (pcs s2)):FrmI wb w (w'.setCell ⟨w.heap.size+3,1,none⟩ sv') gp B pv fv pb k rb ps s2 refs q sv' rv qv pv':=h.cell (h.fm.setSubs hs (by omega))
theorem FrmI.setRefs {r2:List Int}{rv':Value}(h:FrmI wb w w' gp B pv fv pb k rb ps subs refs q sv rv qv pv')(hs:Own w' (w.heap.size+4) 3 1 rv' (ic r2)):FrmI wb w (w'.setCell ⟨w.heap.size+3,2,none⟩ rv') gp B pv fv pb k rb ps subs r2 q sv rv' qv pv':=h.cell (h.fm.setRefs hs (by omega))
theorem FrmI.keep (h:FrmI wb w w' gp B pv fv pb k rb ps subs refs [] sv rv (.slice none 0 0) pv')(hk:Kept (fun b=>b<w'.heap.size/\rv.ownBlock≠some b) w' w2) {rv2:Value}{refs2:List Int}(ho:Own w2 (w.heap.size+4) 3 1 rv2 (ic refs2)):FrmI wb w (w2.setCell ⟨w.heap.size+3,2,none⟩ rv2) gp B pv fv pb k rb ps subs refs2 [] sv rv2 (.slice none 0 0) pv':=by
 have nt:∀ {x:Nat} {cs:Array Value} {t:TypeId} {fr:Nat × Nat},w'.heap[x]?=some (.cells cs t fr)->t≠3->w2.heap[x]?=w'.heap[x]?:=fun {x cs t fr} hx ht=>hk.block x ⟨(x7!.1 hx).1,fun e=>by
  obtain⟨c2,f⟩:=h.fm.refs.typed e;rw[hx]at f;exact ht (by injection v5! f)⟩
 have i:∀ {x:Nat} {cs:Array Value} {t:TypeId},Blk w' x cs t->t≠3->Blk w2 x cs t:=fun {x cs t} hx ht=>(nt hx ht).trans hx
 have ow:∀ {B:Nat} {t:TypeId} {sz:Nat} {v:Value} {xs:List Value},Own w' B t sz v xs->t≠3->Own w2 B t sz v xs:=fun {B t sz v xs} hx ht=>hx.keepOwn fun g hg=>by
  obtain⟨c2,f⟩:=hx.typed hg;exact nt f ht
 have c:∀x,x<w.heap.size+4->w2.heap[x]?=w'.heap[x]?:=fun x hx=>hk.block x ⟨by have:=h.sz;omega,fun e=>by have:=(h.fm.refs.block x e).1;omega⟩;have d:Blk w2 (w.heap.size+3) #[.int .i64 k,sv,rv,.slice none 0 0] 128:=i h.fm.box (by decide);have a0:GkAt w2 gp B ps pv' fv:=⟨i h.gk.box (by decide),ow h.gk.pts (by decide)⟩
 refine⟨⟨d.set_to 2 rv2 rfl,(ow h.fm.subs (by decide)).setBox (x:=w.heap.size+3) d (by decide) _,ho.setBox (x:=w.heap.size+3) d (by decide) _,FRow.nil _ _⟩,a0.setBox d (by decide) (by decide) _,(i h.pb (by decide)).other (a:=⟨w.heap.size+3,2,none⟩) (by show w.heap.size≠w.heap.size+3;omega) _,(i h.rb (by decide)).other (a:=⟨w.heap.size+3,2,none⟩) (by show w.heap.size+1≠w.heap.size+3;omega) _,(i h.ob (by decide)).other (a:=⟨w.heap.size+3,2,none⟩) (by show w.heap.size+2≠w.heap.size+3;omega) _,
  Fine.set ⟨h.fn.kept.trans (hk.mono fun x (hx:KX gp gp w pv x)=>⟨by have:=h.sz;have:=hx.1;omega,fun e=>by have:=(h.fm.refs.block x e).1;have:=hx.1;omega⟩),h.fn.wher⟩ (by omega) _,Below.setCell (h.be.trans ⟨hk.os,hk.tape,hk.output,hk.size,fun x hx=>c x (by have:=h.g0;omega)⟩) (by have:=h.g0;show B<=w.heap.size+3;omega) _,h.wh,by simpa using n6! h.sz hk.size,h.p0,h.g0⟩
theorem FrmI.bx (h:FrmI wb w w' gp B pv fv pb k rb ps subs refs q sv rv qv pv')(hk:Kept (fun b=>b<w'.heap.size/\rv.ownBlock≠some b) w' w2):Blk w2 (w.heap.size+3) #[.int .i64 k,sv,rv,qv] 128:=hk.blk h.fm.box ⟨h.fm.box.lt,fun e=>by have:=(h.fm.refs.block _ e).1;omega⟩
theorem FrmI.bg (h:FrmI wb w w' gp B pv fv pb k rb ps subs refs q sv rv qv pv')(hg:w'.grownBy w2 qv.ownBlock):Blk w2 (w.heap.size+3) #[.int .i64 k,sv,rv,qv] 128:=(hg.block _ h.fm.box.lt fun e=>by have:=(h.fm.parts.row.block _ e.symm).1;omega).trans h.fm.box
theorem FrmI.part {y:FT × FV3}{v':Value}{n0:Nat}(h:FrmI wb w w2 gp B pv fv pb k rb ps subs refs q sv rv qv pv')(hx3:Ext w2 w3)(hg:w3.grownBy w4 qv.ownBlock)(ho:Own w4 (w.heap.size+4) 128 4 v' (q.flatMap fC++fC y))
  (hb:∀g,v'.ownBlock=some g->qv.ownBlock=some g\/w3.heap.size<=g) (hy:FTAt (FS n0 w2) w2 y.1 y.2) (hn0:w.heap.size+4<=n0) (hpv:∀g,qv.ownBlock=some g->g<n0):FrmI wb w (w4.setCell ⟨w.heap.size+3,3,none⟩ v') gp B pv fv pb k rb ps subs refs (q++[y]) sv rv v' pv':=by
 have d:=h.ext hx3;have hq:=d.fm.parts.row;have b:∀x,x<w.heap.size+4->w4.heap[x]?=w3.heap[x]?:=fun x hx=>hg.block x (by have:=d.sz;omega) fun e=>by have:=(hq.block x e.symm).1;omega
 have c:Blk w4 (w.heap.size+3) _ _:=(b _ (by omega)).trans d.fm.box
 refine⟨h.fm.add hx3 hg ho hb hy hn0 hpv (by omega),(d.gk.grown hq (by decide) (by decide) hg).setBox c (by decide) (by decide) _,Blk.other (show Blk w4 _ _ _ from(b _ (by omega)).trans d.pb) (a:=⟨w.heap.size+3,3,none⟩) (by show w.heap.size≠w.heap.size+3;omega) _,Blk.other (show Blk w4 _ _ _ from(b _ (by omega)).trans d.rb) (a:=⟨w.heap.size+3,3,none⟩) (by show w.heap.size+1≠w.heap.size+3;omega) _,Blk.other (show Blk w4 _ _ _ from(b _ (by omega)).trans d.ob) (a:=⟨w.heap.size+3,3,none⟩) (by show w.heap.size+2≠w.heap.size+3;omega) _,
  Fine.set ⟨d.fn.kept.trans ⟨hg.os,hg.tape,hg.output,hg.size,fun x (hx:KX gp gp w pv x)=>b x (by have:=hx.1;omega)⟩,d.fn.wher⟩ (by omega) _,Below.setCell (d.be.trans ⟨hg.os,hg.tape,hg.output,hg.size,fun x hx=>b x (by have:=h.g0;omega)⟩) (by have:=h.g0;show B<=w.heap.size+3;omega) _,h.wh,by simpa using n6! d.sz hg.size,h.p0,h.g0⟩
end
theorem ms! {ok:P3->Bool}{f:P3->P3}{l:List P3}{i:Nat}(hi:i<l.length)(ps:List P3)(out:List Int):refsD ps out (selF ok f (l.take (i+1)))=if ok l[i]=true then(if (numD (refsD ps out (selF ok f (l.take i))).2 (f l[i]):Int)∈(refsD ps out (selF ok f (l.take i))).1 then(refsD ps out (selF ok f (l.take i))).1 else(refsD ps out (selF ok f (l.take i))).1++[(numD (refsD ps out (selF ok f (l.take i))).2 (f l[i]):Int)],putP (refsD ps out (selF ok f (l.take i))).2 (f l[i]))else refsD ps out (selF ok f (l.take i)):=by
 cases h:ok l[i] with
 | true=>rw[iN! hi h,dE!,if_pos rfl]
 | false=>rw[mr! hi h];rfl
theorem kf! (gp B:Nat)(tv fv:Value)(T:List Tup)(p:P3)(wb:World)(hT:∀W,Below B wb W->Sl (· < B) W 6 tv (tuCs T))(hTl:T.length<=1000000)(hB:B<=gp)(r:RT):∀(pv rpv:Value)(ps:List P3)(w:World),RTAt (· < B) w r rpv->Below B wb w->GkAt w gp B ps pv fv->ps.length+r.sz*(T.length+1)<=1073741824 ->
  Calls prog 111 #[.pointer (some ⟨gp,0,none⟩),tv,pV p,rV r rpv] w fun e w'=>∃v3 pv',e= .returned (fV (formD T p r ps).1 v3)/\FTAt (FS w.heap.size w') w' (formD T p r ps).1 v3/\GkAt w' gp B (formD T p r ps).2 pv' fv/\Fine gp gp w w' pv pv':=by
 have HT:=h! hT;have a3:=h! hTl;have HB:=h! hB;clear hT hTl hB;obtain⟨pt,pi,pr⟩:=p;induction r using RT.ind with
 | h r ih =>
 intro pv rpv ps w hat hbw hgk hlen;have ai:=h! (bA! T ⟨pt,pi,pr⟩ r ps);obtain⟨k,ra,rb,parts⟩:=r;dsimp only[RT.k,RT.a,RT.b,RT.ps]at ai ih;have aQ:=h! ih;have aD:=h! hat;have aM:=h! hbw;have ab:=h! (hj! (p:=⟨pt,pi,pr⟩) hlen);have am:=h! hlen
 have Q:=h! (show ∀q,(ak! T q).length<=T.length from fun q=>by
  unfold ak!;rw[x1!];exact x8! _ _)
 have a2:=h! (show ps.length+(T.length+1)<=1073741824 from by
  have h1:=(RT.mk k ra rb parts).sz_eq;rw[h1,Nat.add_mul]at hlen;omega)
 obtain⟨ao,c,rfl,aU,aC,-⟩:=hat.rows;obtain⟨to,tc,aG,-⟩:=Sl.rows at! (by decide) (show Sl _ w 6 tv (T.flatMap tuC)from HT.out w hbw);subst aG;dsimp only[RT.ps]at aU aC ⊢;obtain⟨wa,aj⟩:=e! (w.alloc (.cells #[.string pt,.string pi,.string pr] 32));obtain⟨wc,a6⟩:=e! (wa.alloc (.cells #[.int .i64 k,.string ra,.string rb,.slice ao parts.length c] 106));obtain⟨wd,v⟩:=e! (wc.alloc (.cells #[.int .i64 0,.slice none 0 0,.slice none 0 0,.slice none 0 0] 128));obtain⟨we,A⟩:=e! (wd.alloc (.cells #[.int .i64 k,.slice none 0 0,.slice none 0 0,.slice none 0 0] 128));have ea:wa.heap.size=w.heap.size+1:=by rw[aj];simp
 have ec:wc.heap.size=w.heap.size+2:=by rw[a6];simp[ea]
 have ed:wd.heap.size=w.heap.size+3:=by rw[v];simp[ec]
 have ee:we.heap.size=w.heap.size+4:=by rw[A];simp[ed]
 have xa:Ext w wa:=xa! aj
 have xc:Ext wa wc:=xa! a6
 have xd:Ext wc wd:=xa! v
 have xe:Ext wd we:=xa! A
 have av:=hgk.box.lt;have aS:=HB.out;have ah:=(Blk.below (show Blk wc (w.heap.size+1) #[.int .i64 k,.string ra,.string rb,.slice ao parts.length c] 106 from by rw[a6,<-ea];exact Blk.made _ _ _) xd).cells
 have FI:=h! (show FrmI wb w we gp B pv fv #[.string pt,.string pi,.string pr] k #[.int .i64 k,.string ra,.string rb,.slice ao parts.length c] ps [] [] [] (.slice none 0 0) (.slice none 0 0) (.slice none 0 0) pv from
  ⟨⟨by rw[A,<-ed];exact Blk.made _ _ _,Own.nil _ _ _ _,Own.nil _ _ _ _,FRow.nil _ _⟩,hgk.ext (xa.trans (xc.trans (xd.trans xe))),Blk.below (bm! aj) (xc.trans (xd.trans xe)),Blk.below (by rw[a6,<-ea];exact Blk.made _ _ _) (xd.trans xe),Blk.below (by rw[v,<-ec];exact Blk.made _ _ _) xe,Fine.of _ _ _ (xa.trans (xc.trans (xd.trans xe))),hbw.trans ((xa.trans (xc.trans (xd.trans xe))).mono (by omega)),fun g hg => .inl hg,v4! ee.symm,fun g hg=>(hgk.pts.block g hg).2,HB.out,av⟩)
 have EZ:=h! ee;clear ea ec ed ee xa xc xd xe ih hat hbw hgk hlen av aS;subst v a6 aj;unfold pV rV;dsimp only[RT.k,RT.a,RT.b,RT.ps];by_cases h1:k=1
 case' pos =>
  have b1:(k == 1)=true:=by rw[beq_iff_eq];exact h1
  have b2:(k == 2)=false:=by rw[n7!];omega
  have b3:(k == 3)=false:=by rw[n7!];omega
  have H1:=h! h1;clear h1;go_enter func111,ntmps111
  go_wp2_with fail
  try rw[<-A]
  clear A ah;refine(fl! (S:=(· < B)) (.slice to T.length tc) T ⟨pt,pi,pr⟩ we (fun x hx=>by have:=FI.out.sz;have:=FI.out.g0;omega) (HT.out we FI.out.be) (by have:=a3.out;omega)).mono ?_;rintro e w2 ⟨sv,rfl,Y,aa⟩;have V:=h! (Q.out ⟨pt,pi,pr⟩);generalize hsb:ak! T ⟨pt,pi,pr⟩=sb at *;have ap:=h! hsb;clear hsb;obtain⟨so,sc,rfl,-⟩:=Sl.rows aj! (by decide) (show Sl _ w2 3 sv (sb.flatMap pC)from Y.sl);have F2:=h! (FI.out.ext aa);have S2:=h! (Y.low (B':=w.heap.size+4) (v4! EZ.out.symm));clear Y aa FI;have M:=F2.out.fm.box.cells;have U:=F2.out.fm.box.free;have F3:=h! (F2.out.setSubs S2.out);have SR:Hid (Own _ (w.heap.size+4) 33 3 (.slice so sb.length sc) (pcs sb)):=h! F3.out.fm.subs;have aH:=F3.out.fm.box.cells;clear F2 S2;go_wp2_with fail
  clear M U aH;obtain⟨w3,a5⟩:=e! (w2.setCell ⟨w.heap.size+3,1,none⟩ (.slice so sb.length sc));rw[<-a5]at F3 SR ⊢;clear a5;go_loopw [31] (fun iv wr=>∃(i:Nat) (rf:List Int) (p0:List P3) (rv pv4:Value),i<=sb.length/\iv= .int .i64 i/\refsD ps [] (selF (fun s=>decide (s.r≠⟨#[]⟩)) usetF (sb.take i))=(rf,p0)/\FrmI wb w wr gp B pv fv #[.string pt,.string pi,.string pr] k #[.int .i64 k,.string ra,.string rb,.slice ao parts.length c] p0 sb rf [] (.slice so sb.length sc) rv (.slice none 0 0) pv4/\Own wr (w.heap.size+4) 33 3 (.slice so sb.length sc) (pcs sb)) (fun iv _=>sb.length-(intOf iv).toNat)
  case atStart=>exact⟨0,[],ps,.slice none 0 0,pv,v1! _,rfl,rfl,F3.out,SR.out⟩
  case' round =>
   obtain⟨i,rf,p0,rv,pv4,hi,rfl,ac,O,ae⟩:=hrel;have E:=h! ac;have FR:=h! O;have G:=h! ae;clear ac O ae F3 SR;by_cases hlt:i<sb.length
   case' pos =>
    obtain⟨aV,aR,a8,-,-,o⟩:=Sl.rows aj! (by decide) (show Sl _ wr 3 (.slice so sb.length sc) (sb.flatMap pC)from G.out.sl);cases a8;obtain⟨b,a0,rfl,-,o⟩:=o (by omega);have I:=o i hlt;clear o;have L:=h! (ms! (ok:=(fun s=>decide (s.r≠⟨#[]⟩))) (f:=usetF) hlt ps []);have C:=h! hlt;have D:=h! (show wrap64 ((i:Int)+1)=((i+1:Nat):Int)from by have h1:=V.out;have h2:=a3.out;unfold wrap64;omega)
    have R:=h! (show p0.length<=ps.length+i/\rf.length<=i from by
     have h1:=bp! (selF (fun s=>decide (s.r≠⟨#[]⟩)) usetF (sb.take i)) ps [];have h2:=bq! (selF (fun s=>decide (s.r≠⟨#[]⟩)) usetF (sb.take i)) ps [];have h3:=dC! (fun s=>decide (s.r≠⟨#[]⟩)) usetF (sb.take i);rw[x4!]at h3;rw[E.out]at h1 h2;simp only[v6!]at h1 h2;omega)
    rw[E.out]at L;dsimp only at L;have af:(i:Int)<(sb.length:Int):=by omega
    generalize sb[i]=s at *;clear hlt;obtain⟨st,si,sr⟩:=s;have c0:wr.cell? ⟨b,a0+i*3,none⟩=some (.string st):=I 0 _ rfl;have c1:wr.cell? ⟨b,a0+i*3+1,none⟩=some (.string si):=I 1 _ rfl;have c2:wr.cell? ⟨b,a0+i*3+2,none⟩=some (.string sr):=I 2 _ rfl;clear I;have X1:=h! (Ext.alloc wr (.cells #[.string st,.string si,.string sr] 33));have BS:=h! (Blk.made wr #[.string st,.string si,.string sr] 33);have au:=BS.out.cells;have Z:=bt! sr;by_cases he:sr=⟨#[]⟩
    ·have ar:Hid (refsD ps [] (selF (fun s=>decide (s.r≠⟨#[]⟩)) usetF (sb.take (i+1)))=(rf,p0)):=h! (by rw[L.out,if_neg (by simp[he])]);rw[v2! he]at Z;clear he;go_wp2_with fail
     go_roundw
     case rel=>exact⟨i+1,rf,p0,rv,pv4,C.out,by first | rw[D.out] | go_num,ar.out,FR.out.ext X1.out,G.out.below X1.out⟩
     case measure=>have:=C.out;(try rw[D.out]);simp[intOf];omega
    ·have an:=h! (show refsD ps [] (selF (fun s=>decide (s.r≠⟨#[]⟩)) usetF (sb.take (i+1)))=(if (numD p0 ⟨st,si,sr⟩:Int)∈rf then rf else rf++[(numD p0 ⟨st,si,sr⟩:Int)],putP p0 ⟨st,si,sr⟩)from by rw[L.out,if_pos (by simp[he])];rfl);rw[v3! he]at Z;clear he;go_wp2_with fail
     obtain⟨wd,v⟩:=e! (World.drew (wr.alloc (.cells #[.string st,.string si,.string sr] 33)));have DX:=h! (show Ext wr wd from by rw[v];exact X1.out.trans (Ext.drew _));have DF:=h! (FR.out.ext DX.out);have DR:=h! (G.out.below DX.out);have DS:=h! (show Blk wd wr.heap.size #[.string st,.string si,.string sr] 33 from by rw[v];exact BS.out.drew);refine as! 11 (fun W=>Kept (fun x=>KX gp gp wd pv4 x/\rv.ownBlock≠some x) wd W) (by rw[<-v];exact Kept.refl _ _) (by kernel_rfl) (by kernel_rfl) (fun _ _ d _ _ h=>by cases d <;> exact h) ?_;rw[<-v];clear v X1 BS FR G DX au Z c0 c1 c2 af;generalize wr.heap.size=sbx at *
     have nr:∀ {x:Nat} {cs:Array Value} {t:TypeId},Blk wd x cs t->t≠3->rv.ownBlock≠some x:=fun {x cs t} hx ht e=>by
      obtain⟨c2,h2⟩:=DF.out.fm.refs.typed e;rw[show wd.heap[x]?=_ from hx]at h2;exact ht (by injection v5! h2)
     have h1:=fun W (h:Kept (fun x=>KX gp gp wd pv4 x/\rv.ownBlock≠some x) wd W)=>(h.blk DF.out.fm.box ⟨DF.out.gk.un DF.out.fm.box (by decide) (by decide),nr DF.out.fm.box (by decide)⟩).cells;have h2:=fun W (h:Kept (fun x=>KX gp gp wd pv4 x/\rv.ownBlock≠some x) wd W)=>(h.blk DS.out ⟨DF.out.gk.un DS.out (by decide) (by decide),nr DS.out (by decide)⟩).cells;have h3:=fun W (h:Kept (fun x=>KX gp gp wd pv4 x/\rv.ownBlock≠some x) wd W)=>(h.blk DF.out.rb ⟨DF.out.gk.un DF.out.rb (by decide) (by decide),nr DF.out.rb (by decide)⟩).cells;clear nr;(refine WalkL.tk [0,1,2,3,4,5,6,7] ?_;(iterate 8 (refine l! ?_));refine TkL.n ?_)
     clear h2 h3;refine oL! 8 ?_;refine b! ?_;intro K hK;go_simp;refine(cc! gp B pv4 fv p0 ⟨st,si,sr⟩ wd DF.out.gk HB.out (by have:=R.out.1;have:=C.out;have:=V.out;have:=a2.out;omega)).mono ?_;rintro e w5 ⟨ak,rfl,J,z⟩;have E5:=h! (DF.out.num z J);have R5:=h! (z.grow DF.out.gk DR.out (by decide) (by decide));have K5:=h! z.kept;refine hK.out _ _ (z.kept.mono fun x hx=>hx.1) ?_;clear hK J z DR DS;generalize numD p0 ⟨st,si,sr⟩=nu at *;generalize putP p0 ⟨st,si,sr⟩=p5 at *;refine oL! 9 ?_;refine b! ?_;intro K hK;go_simp;refine(gO! rv rf (nu:Int) w5 E5.out.fm.refs (by have:=R.out.2;have:=C.out;have:=V.out;have:=a3.out;omega) E5.out.sz).mono ?_;rintro e w6 ⟨aO,rfl,a1,F,aq⟩;generalize (if (nu:Int)∈rf then rf else rf++[(nu:Int)])=rf6 at *;obtain⟨r1,r2,r3,rfl,-,-,-⟩:=a1.sl.len;have E6:=h! (E5.out.keep F a1);have B6:=h! (E5.out.bx F);have R6:=h! (Own.setBox (x:=w.heap.size+3) (R5.out.keepOwn fun g hg=>F.block g ⟨(R5.out.block g hg).2,fun e=>R5.out.apart E5.out.fm.refs (by decide) hg e⟩) B6.out (by decide) (.slice r1 r2 r3) (i:=2));refine hK.out _ _ (Kept.trans (K5.out.mono fun x hx=>hx.1) (F.mono fun x hx=>⟨n1! hx.1.1 K5.out.size,hx.2⟩)) ?_;clear hK F a1 aq DF E5 R5 K5;((refine WalkL.take 10 _ ?_ (by simp only[gA,gS,gZ];rfl) (by kernel_rfl) (by kernel_rfl) (by kernel_rfl) (by rfl) (fun W hW=>?_) ?_;rotate_left;· (go_simp;try with_reducible rfl));simp only[Act.put,pA,pZ,pS])
     have M:=B6.out.cells;have U:=B6.out.free;clear h1;refine WalkL.last (by kernel_rfl) (by kernel_rfl) ?_;refine b! ?_;intro K hK;go_simp;refine hK.out _ _ ?_;clear hK M U;go_wp2_with fail
     go_roundw
     case rel=>exact⟨i+1,rf6,p5,.slice r1 r2 r3,ak,C.out,by first | rw[D.out] | go_num,an.out,E6.out,R6.out⟩
     case measure=>have:=C.out;(try rw[D.out]);simp[intOf];omega
   case' neg =>
    obtain rfl:i=sb.length:=by omega
    rw[u2!]at E
    have HH:headF T ⟨pt,pi,pr⟩ k ra rb ps=(sb,rf,p0):=by
     unfold headF;rw[if_pos H1.out,ap.out,dB!,E.out]
    obtain⟨r1,r2,r3,rfl,-,-,-⟩:=FR.out.fm.refs.sl.len;have FX:Hid (∃s1 s2 s3 r1 r2 r3 su rf p0 pv4,headF T ⟨pt,pi,pr⟩ k ra rb ps=(su,rf,p0)/\FrmI wb w wr gp B pv fv #[.string pt,.string pi,.string pr] k #[.int .i64 k,.string ra,.string rb,.slice ao parts.length c] p0 su rf [] (.slice s1 s2 s3) (.slice r1 r2 r3) (.slice none 0 0) pv4):=h! ⟨_,_,_,_,_,_,_,_,_,_,HH,FR.out⟩;have N:=FR.out.rb.cells;clear HH FR G E hlt hi;go_wp2_with fail
    clear N b1 b2 b3;generalize wr=wh at *
 case' neg =>
  by_cases h2:k=2
  case' pos =>
   have a9:=FI.out.pb.cells;have ad:=FI.out.rb.cells;have b1:(k == 1)=false:=by rw[n7!];exact h1
   have b2:(k == 2)=true:=by rw[beq_iff_eq];exact h2
   have b3:(k == 3)=false:=by rw[n7!];omega
   have H1:=h! h1;clear h1;have H2:=h! h2;clear h2;go_enter func111,ntmps111
   rw[A]at a9 ad;go_wp2_with fail
   try rw[<-A]
   clear A ah a9 ad;refine(cc! gp B pv fv ps ⟨pt,pi,ra⟩ we FI.out.gk HB.out (by have:=a2.out;omega)).mono ?_;rintro e w5 ⟨ak,rfl,J,z⟩;have HH:=h! (show headF T ⟨pt,pi,pr⟩ k ra rb ps=([],[(numD ps ⟨pt,pi,ra⟩:Int)],putP ps ⟨pt,pi,ra⟩)from by unfold headF;rw[if_neg H1.out,if_pos H2.out]);generalize numD ps ⟨pt,pi,ra⟩=nu at *;generalize putP ps ⟨pt,pi,ra⟩=p5 at *;have X5:=h! (Ext.alloc w5 (.cells #[.int .i64 nu] 3));have E5:=h! ((FI.out.num z J).ext X5.out);have O5:Hid (Own _ (w.heap.size+4) 3 1 _ (ic [(nu:Int)])):=h! (Own.lit1 w5 (FI.out.num z J).sz 3 (.int .i64 nu));have E6:=h! (E5.out.setRefs O5.out);have M:=E5.out.fm.box.cells;have U:=E5.out.fm.box.free;have N:=E6.out.rb.cells;have FX:Hid (∃s1 s2 s3 r1 r2 r3 su rf p0 pv4,headF T ⟨pt,pi,pr⟩ k ra rb ps=(su,rf,p0)/\FrmI wb w _ gp B pv fv #[.string pt,.string pi,.string pr] k #[.int .i64 k,.string ra,.string rb,.slice ao parts.length c] p0 su rf [] (.slice s1 s2 s3) (.slice r1 r2 r3) (.slice none 0 0) pv4):=h! ⟨_,_,_,_,_,_,_,_,_,_,HH.out,E6.out⟩;clear J z FI X5 E5 O5 E6 HH;go_wp2_with fail
   clear N M U b1 b2 b3;generalize (w5.alloc (.cells #[.int .i64 nu] 3)).setCell ⟨w.heap.size+3,2,none⟩ (.slice (some ⟨w5.heap.size,0,none⟩) 1 1)=wh at *
  case' neg =>
   by_cases h3:k=3
   case' pos =>
    have a9:=FI.out.pb.cells;have ad:=FI.out.rb.cells;have b1:(k == 1)=false:=by rw[n7!];exact h1
    have b2:(k == 2)=false:=by rw[n7!];exact h2
    have b3:(k == 3)=true:=by rw[beq_iff_eq];exact h3
    have H1:=h! h1;clear h1;have H2:=h! h2;clear h2;have H3:=h! h3;clear h3;go_enter func111,ntmps111
    rw[A]at a9 ad;go_wp2_with fail
    try rw[<-A]
    clear A ah a9 ad;refine(fl! (S:=(· < B)) (.slice to T.length tc) T ⟨pt,pi,ra⟩ we (fun x hx=>by have:=FI.out.sz;have:=FI.out.g0;omega) (HT.out we FI.out.be) (by have:=a3.out;omega)).mono ?_;rintro e w2 ⟨sv,rfl,Y,aa⟩;have V:=h! (Q.out ⟨pt,pi,ra⟩);generalize hsb:ak! T ⟨pt,pi,ra⟩=sb at *;have ap:=h! hsb;clear hsb;obtain⟨so,sc,rfl,-⟩:=Sl.rows aj! (by decide) (show Sl _ w2 3 sv (sb.flatMap pC)from Y.sl);have F2:=h! (FI.out.ext aa);have S2:=h! (Y.low (B':=w.heap.size+4) (v4! EZ.out.symm));clear Y aa FI;have F3:=F2;have SR:=S2;go_wp2_with fail
    obtain⟨w3,a5⟩:=e! w2;rw[<-a5]at F3 SR ⊢;clear a5 F2 S2;go_loopw [71] (fun iv wr=>∃(i:Nat) (rf:List Int) (p0:List P3) (rv pv4:Value),i<=sb.length/\iv= .int .i64 i/\refsD ps [] (selF (fun s=>decide (s.r=⟨#[]⟩)) (viaF rb) (sb.take i))=(rf,p0)/\FrmI wb w wr gp B pv fv #[.string pt,.string pi,.string pr] k #[.int .i64 k,.string ra,.string rb,.slice ao parts.length c] p0 [] rf [] (.slice none 0 0) rv (.slice none 0 0) pv4/\Own wr (w.heap.size+4) 33 3 (.slice so sb.length sc) (pcs sb)) (fun iv _=>sb.length-(intOf iv).toNat)
    case atStart=>exact⟨0,[],ps,.slice none 0 0,pv,v1! _,rfl,rfl,F3.out,SR.out⟩
    case' round =>
     obtain⟨i,rf,p0,rv,pv4,hi,rfl,ac,O,ae⟩:=hrel;have E:=h! ac;have FR:=h! O;have G:=h! ae;clear ac O ae F3 SR;by_cases hlt:i<sb.length
     case' pos =>
      obtain⟨aV,aR,a8,-,-,o⟩:=Sl.rows aj! (by decide) (show Sl _ wr 3 (.slice so sb.length sc) (sb.flatMap pC)from G.out.sl);cases a8;obtain⟨b,a0,rfl,-,o⟩:=o (by omega);have I:=o i hlt;clear o;have L:=h! (ms! (ok:=(fun s=>decide (s.r=⟨#[]⟩))) (f:=(viaF rb)) hlt ps []);have C:=h! hlt;have D:=h! (show wrap64 ((i:Int)+1)=((i+1:Nat):Int)from by have h1:=V.out;have h2:=a3.out;unfold wrap64;omega)
      have R:=h! (show p0.length<=ps.length+i/\rf.length<=i from by
       have h1:=bp! (selF (fun s=>decide (s.r=⟨#[]⟩)) (viaF rb) (sb.take i)) ps [];have h2:=bq! (selF (fun s=>decide (s.r=⟨#[]⟩)) (viaF rb) (sb.take i)) ps [];have h3:=dC! (fun s=>decide (s.r=⟨#[]⟩)) (viaF rb) (sb.take i);rw[x4!]at h3;rw[E.out]at h1 h2;simp only[v6!]at h1 h2;omega)
      rw[E.out]at L;dsimp only at L;have af:(i:Int)<(sb.length:Int):=by omega
      generalize sb[i]=s at *;clear hlt;obtain⟨st,si,sr⟩:=s;have c0:wr.cell? ⟨b,a0+i*3,none⟩=some (.string st):=I 0 _ rfl;have c1:wr.cell? ⟨b,a0+i*3+1,none⟩=some (.string si):=I 1 _ rfl;have c2:wr.cell? ⟨b,a0+i*3+2,none⟩=some (.string sr):=I 2 _ rfl;clear I;have X1:=h! (Ext.alloc wr (.cells #[.string st,.string si,.string sr] 33));have BS:=h! (Blk.made wr #[.string st,.string si,.string sr] 33);have au:=BS.out.cells;have Z:=bt! sr;by_cases he:sr=⟨#[]⟩
      ·have an:=h! (show refsD ps [] (selF (fun s=>decide (s.r=⟨#[]⟩)) (viaF rb) (sb.take (i+1)))=(if (numD p0 ⟨st,si,rb⟩:Int)∈rf then rf else rf++[(numD p0 ⟨st,si,rb⟩:Int)],putP p0 ⟨st,si,rb⟩)from by rw[L.out,if_pos (by simp[he])];rfl);rw[v2! he]at Z;clear he;go_wp2_with fail
       obtain⟨wd,v⟩:=e! (World.drew (wr.alloc (.cells #[.string st,.string si,.string sr] 33)));have DX:=h! (show Ext wr wd from by rw[v];exact X1.out.trans (Ext.drew _));have DF:=h! (FR.out.ext DX.out);have DR:=h! (G.out.below DX.out);have DS:=h! (show Blk wd wr.heap.size #[.string st,.string si,.string sr] 33 from by rw[v];exact BS.out.drew);refine as! 11 (fun W=>Kept (fun x=>KX gp gp wd pv4 x/\rv.ownBlock≠some x) wd W) (by rw[<-v];exact Kept.refl _ _) (by kernel_rfl) (by kernel_rfl) (fun _ _ d _ _ h=>by cases d <;> exact h) ?_;rw[<-v];clear v X1 BS FR G DX au Z c0 c1 c2 af;generalize wr.heap.size=sbx at *
       have nr:∀ {x:Nat} {cs:Array Value} {t:TypeId},Blk wd x cs t->t≠3->rv.ownBlock≠some x:=fun {x cs t} hx ht e=>by
        obtain⟨c2,h2⟩:=DF.out.fm.refs.typed e;rw[show wd.heap[x]?=_ from hx]at h2;exact ht (by injection v5! h2)
       have h1:=fun W (h:Kept (fun x=>KX gp gp wd pv4 x/\rv.ownBlock≠some x) wd W)=>(h.blk DF.out.fm.box ⟨DF.out.gk.un DF.out.fm.box (by decide) (by decide),nr DF.out.fm.box (by decide)⟩).cells;have h2:=fun W (h:Kept (fun x=>KX gp gp wd pv4 x/\rv.ownBlock≠some x) wd W)=>(h.blk DS.out ⟨DF.out.gk.un DS.out (by decide) (by decide),nr DS.out (by decide)⟩).cells;have h3:=fun W (h:Kept (fun x=>KX gp gp wd pv4 x/\rv.ownBlock≠some x) wd W)=>(h.blk DF.out.rb ⟨DF.out.gk.un DF.out.rb (by decide) (by decide),nr DF.out.rb (by decide)⟩).cells;clear nr;(refine WalkL.tk [0,1,2,3,4,5,6,7] ?_;(iterate 8 (refine l! ?_));refine TkL.n ?_)
       clear h2 h3;refine oL! 8 ?_;refine b! ?_;intro K hK;go_simp;refine(cc! gp B pv4 fv p0 ⟨st,si,rb⟩ wd DF.out.gk HB.out (by have:=R.out.1;have:=C.out;have:=V.out;have:=a2.out;omega)).mono ?_;rintro e w5 ⟨ak,rfl,J,z⟩;have E5:=h! (DF.out.num z J);have R5:=h! (z.grow DF.out.gk DR.out (by decide) (by decide));have K5:=h! z.kept;refine hK.out _ _ (z.kept.mono fun x hx=>hx.1) ?_;clear hK J z DR DS;generalize numD p0 ⟨st,si,rb⟩=nu at *;generalize putP p0 ⟨st,si,rb⟩=p5 at *;refine oL! 9 ?_;refine b! ?_;intro K hK;go_simp;refine(gO! rv rf (nu:Int) w5 E5.out.fm.refs (by have:=R.out.2;have:=C.out;have:=V.out;have:=a3.out;omega) E5.out.sz).mono ?_;rintro e w6 ⟨aO,rfl,a1,F,aq⟩;generalize (if (nu:Int)∈rf then rf else rf++[(nu:Int)])=rf6 at *;obtain⟨r1,r2,r3,rfl,-,-,-⟩:=a1.sl.len;have E6:=h! (E5.out.keep F a1);have B6:=h! (E5.out.bx F);have R6:=h! (Own.setBox (x:=w.heap.size+3) (R5.out.keepOwn fun g hg=>F.block g ⟨(R5.out.block g hg).2,fun e=>R5.out.apart E5.out.fm.refs (by decide) hg e⟩) B6.out (by decide) (.slice r1 r2 r3) (i:=2));refine hK.out _ _ (Kept.trans (K5.out.mono fun x hx=>hx.1) (F.mono fun x hx=>⟨n1! hx.1.1 K5.out.size,hx.2⟩)) ?_;clear hK F a1 aq DF E5 R5 K5;((refine WalkL.take 10 _ ?_ (by simp only[gA,gS,gZ];rfl) (by kernel_rfl) (by kernel_rfl) (by kernel_rfl) (by rfl) (fun W hW=>?_) ?_;rotate_left;· (go_simp;try with_reducible rfl));simp only[Act.put,pA,pZ,pS])
       have M:=B6.out.cells;have U:=B6.out.free;clear h1;refine WalkL.last (by kernel_rfl) (by kernel_rfl) ?_;refine b! ?_;intro K hK;go_simp;refine hK.out _ _ ?_;clear hK M U;go_wp2_with fail
       go_roundw
       case rel=>exact⟨i+1,rf6,p5,.slice r1 r2 r3,ak,C.out,by first | rw[D.out] | go_num,an.out,E6.out,R6.out⟩
       case measure=>have:=C.out;(try rw[D.out]);simp[intOf];omega
      ·have ar:Hid (refsD ps [] (selF (fun s=>decide (s.r=⟨#[]⟩)) (viaF rb) (sb.take (i+1)))=(rf,p0)):=h! (by rw[L.out,if_neg (by simp[he])]);rw[v3! he]at Z;clear he;go_wp2_with fail
       go_roundw
       case rel=>exact⟨i+1,rf,p0,rv,pv4,C.out,by first | rw[D.out] | go_num,ar.out,FR.out.ext X1.out,G.out.below X1.out⟩
       case measure=>have:=C.out;(try rw[D.out]);simp[intOf];omega
     case' neg =>
      obtain rfl:i=sb.length:=by omega
      rw[u2!]at E
      have HH:headF T ⟨pt,pi,pr⟩ k ra rb ps=([],rf,p0):=by
       unfold headF;rw[if_neg H1.out,if_neg H2.out,if_pos H3.out,ap.out,ex!,E.out]
      obtain⟨r1,r2,r3,rfl,-,-,-⟩:=FR.out.fm.refs.sl.len;have FX:Hid (∃s1 s2 s3 r1 r2 r3 su rf p0 pv4,headF T ⟨pt,pi,pr⟩ k ra rb ps=(su,rf,p0)/\FrmI wb w wr gp B pv fv #[.string pt,.string pi,.string pr] k #[.int .i64 k,.string ra,.string rb,.slice ao parts.length c] p0 su rf [] (.slice s1 s2 s3) (.slice r1 r2 r3) (.slice none 0 0) pv4):=h! ⟨_,_,_,_,_,_,_,_,_,_,HH,FR.out⟩;have N:=FR.out.rb.cells;clear HH FR G E hlt hi;go_wp2_with fail
      clear N b1 b2 b3;generalize wr=wh at *
   case' neg =>
    have b1:(k == 1)=false:=by rw[n7!];exact h1
    have b2:(k == 2)=false:=by rw[n7!];exact h2
    have b3:(k == 3)=false:=by rw[n7!];exact h3
    have H1:=h! h1;clear h1;have H2:=h! h2;clear h2;have H3:=h! h3;clear h3;have HH:=h! (show headF T ⟨pt,pi,pr⟩ k ra rb ps=([],[],ps)from by unfold headF;rw[if_neg H1.out,if_neg H2.out,if_neg H3.out]);have FX:Hid (∃s1 s2 s3 r1 r2 r3 su rf p0 pv4,headF T ⟨pt,pi,pr⟩ k ra rb ps=(su,rf,p0)/\FrmI wb w we gp B pv fv #[.string pt,.string pi,.string pr] k #[.int .i64 k,.string ra,.string rb,.slice ao parts.length c] p0 su rf [] (.slice s1 s2 s3) (.slice r1 r2 r3) (.slice none 0 0) pv4):=h! ⟨_,_,_,_,_,_,_,_,_,_,HH.out,FI.out⟩;have N:=FI.out.rb.cells;clear FI HH;go_enter func111,ntmps111
    rw[A]at N;go_wp2_with fail
    try rw[<-A]
    clear A ah N b1 b2 b3;generalize we=wh at *
 all_goals
  obtain⟨s1,s2,s3,r1,r2,r3,su,rf,p0,pv4,hh,hf⟩:=FX.out;have HH:=h! hh;have FH:=h! hf;have aJ:=h! (fun i=>er! T ⟨pt,pi,pr⟩ parts p0 i)
  have aW:=h! (show ∀i (hi:i<parts.length),(ar! T ⟨pt,pi,pr⟩ (parts.take i) p0).2.length+parts[i].sz*(T.length+1)<=1073741824 from fun i hi=>by
   have:=ab.out i hi;rw[HH.out]at this;exact this)
  clear hh hf FX;go_loopw [93] (fun iv wr=>∃(i:Nat) (q:List (FT × FV3)) (qv pv':Value),i<=parts.length/\iv= .int .i64 i/\q.map (·.1)=(ar! T ⟨pt,pi,pr⟩ (parts.take i) p0).1/\FrmI wb w wr gp B pv fv #[.string pt,.string pi,.string pr] k #[.int .i64 k,.string ra,.string rb,.slice ao parts.length c] (ar! T ⟨pt,pi,pr⟩ (parts.take i) p0).2 su rf q (.slice s1 s2 s3) (.slice r1 r2 r3) qv pv') (fun iv _=>parts.length-(intOf iv).toNat)
  case atStart=>exact⟨0,[],.slice none 0 0,pv4,v1! _,rfl,rfl,FH.out⟩
  case round =>
   obtain⟨i,q,qv,pv',hi,rfl,hq,O⟩:=hrel;have RQ:=h! hq;have FR:=h! O;clear FH hq O;by_cases hlt:i<parts.length
   ·obtain⟨aY,c',a8,-,-,o⟩:=(aD.out.same (w':=wr) fun x hx=>(FR.out.be.block x hx).trans (aM.out.block x hx).symm).rows;cases a8;obtain⟨bq,oq,pq,rfl,aN,d0,d1,d2,d3,H⟩:=o i hlt;dsimp only[RT.ps]at d0 d1 d2 d3 H;have X:=h! hlt;have al:=h! (aJ.out i hlt);have aw:=h! (aW.out i hlt);have aE:=h! (aQ.out parts[i] (n5! hlt))
    have aF:=h! (show q.length=i from by
     have:=congrArg List.length RQ.out;rw[x1!]at this;rw[this];rw[cZ!,x4!];omega)
    have R:=h! (show parts.length<=1073741824 from by
     have h1:=fP! parts;have h2:=(RT.mk k ra rb parts).sz_eq;have h3:=am.out;rw[h2,Nat.add_mul]at h3;have h4:szL parts*1<=szL parts*(T.length+1):=Nat.mul_le_mul_left _ (by omega);simp only[RT.ps]at h3;omega)
    have D:=h! (show wrap64 ((i:Int)+1)=((i+1:Nat):Int)from by have h1:=R.out;unfold wrap64;omega);have af:(i:Int)<(parts.length:Int):=by omega
    generalize parts[i]=x at *;obtain⟨xo,xc,rfl,-⟩:=H.rows;generalize hfd:ar! T ⟨pt,pi,pr⟩ (parts.take i) p0=fd at *;obtain⟨ff,fp⟩:=fd;dsimp only at RQ FR al aw;clear hlt hi hfd aN;have X1:=h! (Ext.alloc wr (.cells #[.int .i64 x.k,.string x.a,.string x.b,.slice xo x.ps.length xc] 106));have BX:=h! (Blk.made wr #[.int .i64 x.k,.string x.a,.string x.b,.slice xo x.ps.length xc] 106);have F1:=h! (FR.out.ext X1.out);have A1:=h! (H.same fun y (hy:y<B)=>X1.out.block y (by have:=FR.out.sz;have:=FR.out.g0;omega));have aI:=BX.out.cells;have az:=F1.out.pb.cells;go_wp2_with fail
    clear aI az d0 d1 d2 d3 H af;refine(aE.out pv' (.slice xo x.ps.length xc) fp _ A1.out F1.out.be F1.out.gk aw.out).mono ?_;rintro e w2 ⟨v3,aK,rfl,a4,a7,ag⟩;have F2:=h! (F1.out.num ag a7);have TA:=h! a4;have QB:=h! (fun g hg=>(F1.out.fm.parts.row.block g hg).2);have ZB:=h! F1.out.sz;clear a4 a7 ag F1 FR BX A1 X1;generalize (wr.alloc (.cells #[.int .i64 x.k,.string x.a,.string x.b,.slice xo x.ps.length xc] 106)).heap.size=n0 at *;generalize hfx:formD T ⟨pt,pi,pr⟩ x fp=fx at *;obtain⟨fx,aZ⟩:=fx;obtain⟨v1,v2,v4⟩:=v3;unfold fV at *;dsimp only at TA F2 al ⊢;obtain⟨t1,t2,-⟩:=(FTAt.iff _ _).1 TA.out;obtain⟨x1,y1,z1,rfl,-,-,-⟩:=t1.len;obtain⟨x2,y2,z2,rfl,-,-,-⟩:=t2.len;obtain⟨x4,z4,rfl,-⟩:=TA.out.rows;clear t1 t2 hfx;obtain⟨qo,qn,qc,rfl,aL,-,-⟩:=F2.out.fm.parts.row.sl.len;have X3:=h! (Ext.alloc w2 (.cells #[.int .i64 fx.k,.slice x1 y1 z1,.slice x2 y2 z2,.slice x4 fx.ps.length z4] 128));have X4:=h! (Ext.alloc (w2.alloc (.cells #[.int .i64 fx.k,.slice x1 y1 z1,.slice x2 y2 z2,.slice x4 fx.ps.length z4] 128)) (.cells #[.int .i64 fx.k,.slice x1 y1 z1,.slice x2 y2 z2,.slice x4 fx.ps.length z4] 128));have B4:=h! (Blk.made' (w:=w2.alloc (.cells #[.int .i64 fx.k,.slice x1 y1 z1,.slice x2 y2 z2,.slice x4 fx.ps.length z4] 128)) (B:=w2.heap.size+1) (by simp) #[.int .i64 fx.k,.slice x1 y1 z1,.slice x2 y2 z2,.slice x4 fx.ps.length z4] 128);have b0:=(Blk.made w2 #[.int .i64 fx.k,.slice x1 y1 z1,.slice x2 y2 z2,.slice x4 fx.ps.length z4] 128).cells;have aX:=(F2.out.ext X3.out).fm.box.cells;have F4:=h! ((F2.out.ext X3.out).ext X4.out);have ax:=h! (show(q.flatMap fC).length+4<=4294967300 from by have:=aF.out;have:=R.out;have:=X.out;rw[ap!];omega);clear aL;go_wp2_with (at_builtin;go_must (refine aE! lO! rfl (.tmp 103) (.tmp 105) rfl rfl F4.out.fm.parts.row rfl (m:=1) (news:=fC (fx,(.slice x1 y1 z1,.slice x2 y2 z2,.slice x4 fx.ps.length z4))) rfl (by intro j u hu;rw[Addr.add_lit,Nat.zero_add];exact(B4.out.cells j).trans (by simpa [fC] using hu)) (by simp[fC,Value.oneCell']) (by have:=ax.out;rw[aS!];omega) (by have:=ax.out;rw[aS!];omega) F4.out.sz ?_;intro v6 w6 hown6 hb6 hg6;have aP:=h! (F2.out.part (X3.out.trans X4.out) hg6 hown6 hb6 TA.out ZB.out QB.out);obtain⟨o6,m6,c6,rfl,-,-,-⟩:=hown6.sl.len;have M:=(F4.out.bg hg6).cells;have U:=(F4.out.bg hg6).free;clear hown6 hb6 hg6))
    go_roundw
    case rel=>exact⟨i+1,q++[(fx,(.slice x1 y1 z1,.slice x2 y2 z2,.slice x4 fx.ps.length z4))],.slice o6 m6 c6,aK,X.out,by first | rw[D.out] | go_num,by rw[al.out,v9!,RQ.out];rfl,by rw[al.out];exact aP.out⟩
    case measure=>have:=X.out;(try rw[D.out]);simp[intOf];omega
   ·obtain rfl:i=parts.length:=by omega
    have aA:Hid (parts.take parts.length=parts):=h! (u2!);rw[aA.out]at RQ FR;obtain⟨qo,qn,qc,rfl,-,-,-⟩:=FR.out.fm.parts.row.sl.len;have aT:=FR.out.fm.box.cells;have ay:=FR.out.ob.cells;have aB:=FR.out.ob.free;clear hi hlt;go_wp2_with fail
    clear aT ay aB;have ZS:∀y,y≠w.heap.size+2->((((wr.setCell ⟨w.heap.size+2,0,none⟩ (.int .i64 k)).setCell ⟨w.heap.size+2,1,none⟩ (.slice s1 s2 s3)).setCell ⟨w.heap.size+2,2,none⟩ (.slice r1 r2 r3)).setCell ⟨w.heap.size+2,3,none⟩ (.slice qo qn qc)).heap[y]?=wr.heap[y]?:=fun y hy=>by rw[Below.heap_setCell _ _ _ y hy,Below.heap_setCell _ _ _ y hy,Below.heap_setCell _ _ _ y hy,Below.heap_setCell _ _ _ y hy]
    have ZW:=FR.out.gk.un FR.out.ob (by decide) (by decide);refine bodyPost_ret (results_cell_row rfl _ _ (w.heap.size+2) 128 #[.int .i64 k,.slice s1 s2 s3,.slice r1 r2 r3,.slice qo qn qc] (0,0) _ rfl (FR.out.ob.put4 _ _ _ _) Tryz.underlying128 rfl (by kernel_rfl)) rfl ?_;refine⟨(.slice s1 s2 s3,.slice r1 r2 r3,.slice qo qn qc),pv',by rw[ai.out,HH.out];rfl,?_,?_,(((FR.out.fn.set (by omega) _).set (by omega) _).set (by omega) _).set (by omega) _⟩
    ·refine(FR.out.fm.done (by rw[ai.out,HH.out,RQ.out]) (fun y hy _=>ZS y (by omega)) (by simp)).mono fun y hy=>hy.mono (by omega)
    ·rw[ai.out,HH.out];exact FR.out.gk.same (ZS _ fun e=>ZW.2.1 e.symm) fun g hg=>ZS _ fun e=>ZW.2.2.2 (by rw[hg,e])
end Go.Proofs.YtlhaghoajpglaaaGreat
