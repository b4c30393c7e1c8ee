/- Lemmas for the claim, no condition. -/
import Derived.Test.YtlhaghoajpglaaaGreatYBuMany14
import Derived.Test.YtlhaghoajpglaaaGreatYBuMany12
import Derived.Test.YtlhaghoajpglaaaGreatYBuMany3
import Derived.Test.YtlhaghoajpglaaaGreatYBuMany1
import Derived.Test.YtlhaghoajpglaaaGreatYBuMany5
import Derived.Test.YtlhaghoajpglaaaGreatYBuMany13
import Derived.Test.YtlhaghoajpglaaaGreatYBuMany9
import Derived.Test.YtlhaghoajpglaaaGreatYBuMany10
import Derived.Test.YtlhaghoajpglaaaGreatYBuMany0
import Derived.Test.YtlhaghoajpglaaaGreatYBuMany4
import Derived.Test.YtlhaghoajpglaaaGreatYBuMany6
set_option maxRecDepth 100000
set_option maxHeartbeats 8000000
namespace Go.Proofs.YtlhaghoajpglaaaGreat
open Go Go.RowKit Go.Maps
theorem chk_uniq {ts:List TyS} (h:chk06 ts=0):uniqOk ts=true:=by
 unfold chk06 at h;split at h
 ·split at h
  ·split at h
   ·assumption
   ·cases h
  ·cases h
 ·cases h
def shutM (l:List R2):List (R2 × Bool):=l.foldl (fun m r=>putA m r true) []
theorem shutM_snoc (l:List R2)(r:R2):shutM (l++[r])=putA (shutM l) r true:=by simp[shutM,List.foldl_append]
theorem look_shut (r:R2)(l:List R2):lookA (shutM l) r=if r∈l then some true else none:=by
 suffices h:∀ n,∀ l:List R2,l.length=n->lookA (shutM l) r=if r∈l then some true else none from h _ l rfl
 intro n;induction n with
 | zero=>intro l h;rw[List.eq_nil_of_length_eq_zero h];rfl
 | succ n ih =>
  intro l h;rcases List.eq_nil_or_concat l with rfl | ⟨l',x,rfl⟩
  ·simp at h
  ·rw[List.concat_eq_append]at h ⊢;rw[shutM_snoc,look_put,ih l' (by simpa using h)];by_cases e:x=r
   ·subst e;simp
   ·have e2:¬ r=x:=fun h=>e h.symm;simp[e,e2]
theorem shut_take {l:List R2} {i:Nat} (hi:i<l.length):shutM (l.take (i+1))=putA (shutM (l.take i)) l[i] true:=by
 rw[List.take_succ_eq_append_getElem hi,shutM_snoc]
structure WalkIn (ts:List TyS)(T:List Tup)(shut:List R2)(p:P3)(N:Nat):Prop where
 okp:∀ n,∀ x∈(walkN ts T shut p n).1,x.Ok
 few:∀ n,(walkN ts T shut p n).1.length<=N
 room:∀ x∈refsOf ts,x.2.sz*(T.length+1)+N<=1073741824
 nmax:N<=1073741823
 rok:∀ x∈refsOf ts,x.2.Ok
 tok:∀ t∈T,t.s.Ok
 tlen:T.length<=1000000
theorem Own.setAtR {w:World} {B:Nat} {e:TypeId} {sz:Nat} {g n c:Nat} {xs:List Value} (h:Own w B e sz (.slice (some ⟨g,0,none⟩) n c) xs)(i:Nat)(u:Value):Own (w.setCell ⟨g,i,none⟩ u) B e sz (.slice (some ⟨g,0,none⟩) n c) (xs.set i u):=by
 obtain⟨m,h⟩:=h;rcases h.2 with⟨hv,rfl⟩ | ⟨g',cap,cur,hv,hbg,hg,hnc,hcm,hcs,htake⟩
 ·cases hv
 ·cases hv;refine⟨n,by rw[List.length_set];exact h.1,.inr ⟨g,c,cur.setIfInBounds i u,rfl,hbg,heap_setCell_same w g i cur e u hg,hnc,hcm,by simpa using hcs,?_⟩⟩;rw[Array.toList_setIfInBounds,<- htake,List.take_set]
theorem set_four (xs:List Value)(a b c d p q r s:Value) {k:Nat} (hk:k=xs.length):((((xs++[p,q,r,s]).set k a).set (k+1) b).set (k+2) c).set (k+3) d=xs++[a,b,c,d]:=by
 subst hk;rw[List.set_append_right _ _ (Nat.le_refl _)];rw[List.set_append_right _ _ (by omega)];rw[List.set_append_right _ _ (by omega)];rw[List.set_append_right _ _ (by omega)];simp
theorem four_cells {w:World} {B:Nat} {e:TypeId} {sz:Nat} {g n c:Nat} {xs:List Value} {p q r s:Value} (h:Own w B e sz (.slice (some ⟨g,0,none⟩) n c) (xs++[p,q,r,s])) {k:Nat} (hk:k=xs.length):w.cell? ⟨g,k,none⟩=some p/\w.cell? ⟨g,k+1,none⟩=some q/\w.cell? ⟨g,k+2,none⟩=some r/\w.cell? ⟨g,k+3,none⟩=some s:=by
 obtain⟨m,h⟩:=h;have hc:=h.cells (g:=g) rfl;subst hk
 have hh:∀ j u,[p,q,r,s][j]?=some u->w.cell? ⟨g,xs.length+j,none⟩=some u:=fun j u hu=>by
  have:=hc (xs.length+j) u (by rw[List.getElem?_append_right (by omega)];simpa using hu);rwa[Addr.add_lit,Nat.zero_add]at this
 exact⟨hh 0 p rfl,hh 1 q rfl,hh 2 r rfl,hh 3 s rfl⟩
def World.setForm (w:World)(g k:Nat)(a b c d:Value):World:=(((w.setCell ⟨g,k,none⟩ a).setCell ⟨g,k+1,none⟩ b).setCell ⟨g,k+2,none⟩ c).setCell ⟨g,k+3,none⟩ d
theorem setForm_other (w:World)(g k:Nat)(a b c d:Value) {x:Nat} (hx:x≠g):(World.setForm w g k a b c d).heap[x]?=w.heap[x]?:=by
 unfold World.setForm;rw[Below.heap_setCell _ _ _ x hx,Below.heap_setCell _ _ _ x hx,Below.heap_setCell _ _ _ x hx,Below.heap_setCell _ _ _ x hx]
theorem setForm_size (w:World)(g k:Nat)(a b c d:Value):(World.setForm w g k a b c d).heap.size=w.heap.size:=by
 unfold World.setForm;simp
theorem Own.setForm {w:World} {B:Nat} {e:TypeId} {sz:Nat} {g n c:Nat} {xs:List Value} {p q r s:Value} (h:Own w B e sz (.slice (some ⟨g,0,none⟩) n c) (xs++[p,q,r,s])) {k:Nat} (hk:k=xs.length)(x0 x1 x2 x3:Value):Own (World.setForm w g k x0 x1 x2 x3) B e sz (.slice (some ⟨g,0,none⟩) n c) (xs++[x0,x1,x2,x3]):=by
 have:=(((h.setAtR k x0).setAtR (k+1) x1).setAtR (k+2) x2).setAtR (k+3) x3;rwa[set_four _ _ _ _ _ _ _ _ _ hk]at this
structure StepOk (wz w8:World)(wp am ash lo B:Nat)(tv fi sm pv fv6:Value)(ps:List P3)(shut:List R2)(q:List (FT × FV3)):Prop where
 walk:WkAt w8 wp am B tv fi sm ps pv fv6
 row:FRow lo w8 q fv6
 shut:Mp Tryz.prog 121 r2V bV w8 ash (shutM shut)
 below:Below B wz w8
theorem step_ok {wz we w3 w6 w8:World} {wp am ash lo B n0:Nat} {tv fi sm pv fv:Value} {ps:List P3} {shut:List R2} {q:List (FT × FV3)} {x:FT} {v:FV3} {g n c:Nat}
  (hw:WkAt we wp am B tv fi sm ps pv fv) (hr:FRow lo we q fv) (hs:Mp Tryz.prog 121 r2V bV we ash (shutM shut)) (hz:Below B wz we) (_hBz:B<=lo) (hlo:wp<lo/\am<lo/\ash<lo) (hash:ash≠wp/\ash≠am) (hlw:lo<=we.heap.size)
  (hx:FTAt (FS n0 we) we x v) (hn0:lo<=n0) (hfv:∀ g,fv.ownBlock=some g->g<n0) (hBw:B<=wp)
  (h3:Ext we w3) (hg:w3.grownBy w6 fv.ownBlock) (hb:∀ g',(Value.slice (some ⟨g,0,none⟩) n c).ownBlock=some g'->fv.ownBlock=some g'\/w3.heap.size<=g')
  (ho:Own w8 lo 128 4 (.slice (some ⟨g,0,none⟩) n c) (q.flatMap fC++fC (x,v))) (hbx:Blk w8 wp #[tv,fi,sm,.map (some am),pv,.slice (some ⟨g,0,none⟩) n c,.int .i64 0] 251)
  (h8:∀ y,y≠g->y≠wp->w8.heap[y]?=w6.heap[y]?) (hsz:w8.heap.size=w6.heap.size) (hos:w8.os=w6.os/\w8.tape=w6.tape/\w8.output=w6.output):StepOk wz w8 wp am ash lo B tv fi sm pv (.slice (some ⟨g,0,none⟩) n c) ps shut (q++[(x,v)]):=by
 have hgb:fv.ownBlock=some g\/w3.heap.size<=g:=hb g rfl
 have hglo:lo<=g:=by
  rcases hgb with h | h
  ·exact(hr.row.block g h).1
  ·exact Nat.le_trans (Nat.le_trans hlw h3.size) h
 have h6:∀ y,y<we.heap.size->fv.ownBlock≠some y->w6.heap[y]?=we.heap[y]?:=fun y hy hn=>(hg.block y (Nat.lt_of_lt_of_le hy h3.size) fun e=>hn e.symm).trans (h3.block y hy)
 have hgx:∀ y,y<we.heap.size->fv.ownBlock≠some y->y≠g:=fun y hy hn e=>by
  subst e;rcases hgb with h | h
  ·exact hn h
  ·have:=h3.size;omega
 have h86:∀ y,y<we.heap.size->fv.ownBlock≠some y->y≠wp->w8.heap[y]?=we.heap[y]?:=fun y hy hn hp=>(h8 y (hgx y hy hn) hp).trans (h6 y hy hn);have hlfv:∀ y,y<lo->fv.ownBlock≠some y:=fun y hy e=>by have:=(hr.row.block y e).1;omega
 have hz3:=h3.size;have hz6:=hg.size;refine⟨⟨hbx,hw.num.same (h86 _ hw.num.lt (hlfv _ hlo.2.1) hw.ne.symm),hw.pts.keepOwn fun y hy=>?_⟩,?_,hs.same (h86 _ hs.lt (hlfv _ hlo.2.2) hash.1),?_⟩
 ·have hyn:=hw.ptNe y hy;exact h86 y (hw.pts.block y hy).2 (fun e=>hr.row.apart hw.pts (by decide) e hy) hyn.1
 ·refine⟨by rw[List.flatMap_append];simpa using ho,fun y hy=>?_⟩
  have hm:∀ b,(FS lo we b/\fv.ownBlock≠some b)->(FS lo w8 b/\(Value.slice (some ⟨g,0,none⟩) n c).ownBlock≠some b):=fun b hb'=>⟨⟨hb'.1.1,Nat.lt_of_lt_of_le hb'.1.2.1 (by omega),fun cs=>by rw[h86 b hb'.1.2.1 hb'.2 (by have:=hb'.1.1;omega)];exact hb'.1.2.2 cs⟩,fun e=>by
   injection e with e
   exact hgx b hb'.1.2.1 hb'.2 e.symm⟩
  have hsame:∀ b,(FS lo we b/\fv.ownBlock≠some b)->w8.heap[b]?=we.heap[b]?:=fun b hb'=>h86 b hb'.1.2.1 hb'.2 (by have:=hb'.1.1;omega);rcases List.mem_append.1 hy with hy | hy
  ·exact((hr.parts y hy).same hsame).mono hm
  ·obtain rfl:=List.mem_singleton.1 hy;exact((hx.mono fun b hb'=>(⟨hb'.mono hn0,fun e=>by have:=hfv b e;have:=hb'.1;omega⟩:FS lo we b/\fv.ownBlock≠some b)).same hsame).mono hm
 ·have hz1:=hz.size;refine hz.trans ⟨hos.1.trans (hg.os.trans h3.os),hos.2.1.trans (hg.tape.trans h3.tape),hos.2.2.trans (hg.output.trans h3.output),by omega,fun y hy=>h86 y (by omega) (hlfv _ (by omega)) (by omega)⟩
theorem ft_zero (S:Nat->Prop)(w:World):FTAt S w FT.zero (.slice none 0 0,.slice none 0 0,.slice none 0 0):=(FTAt.iff _ _).2 ⟨Sl.nil _ _ _,Sl.nil _ _ _,[],rfl,(fun x hx=>by cases hx),Sl.nil _ _ _⟩
theorem stepG_none {ts:List TyS} {T:List Tup} {shut:List R2} {p:P3} {ps:List P3} (h:ruleOf ts shut p=none):stepG ts T shut p ps=(FT.zero,ps):=by unfold stepG;rw[h]
theorem stepG_some {ts:List TyS} {T:List Tup} {shut:List R2} {p:P3} {ps:List P3} {r:RT} (h:ruleOf ts shut p=some r):stepG ts T shut p ps=formD T p r ps:=by unfold stepG;rw[h]
def WalkSaid (ts:List TyS)(T:List Tup)(shut:List R2)(p:P3)(most:Int)(w:World)(e:Ending)(w':World):Prop:=Ext w w'/\((∃ n pv fv,WalkEnd ts T shut p most n/\e = .returned (.tuple #[.agg #[pv,fv],.int .i64 0])/\GrAt (fun x=>w.heap.size<=x/\x<w'.heap.size) w' (walkN ts T shut p n).1 (walkN ts T shut p n).2 pv fv)\/(WalkLong ts T shut p most/\e = .returned (.tuple #[.agg #[.slice none 0 0,.slice none 0 0],.int .i64 10])))
theorem WalkAt.le {ts:List TyS} {T:List Tup} {shut:List R2} {p:P3} {most:Int} {n:Nat} (h:WalkAt ts T shut p most n):n<=(walkN ts T shut p n).1.length:=by
 cases n with
 | zero=>exact Nat.zero_le _
 | succ n =>
  have h1:=(h n (Nat.lt_succ_self n)).1;have h2:=walk_mono ts T shut p (show n<=n+1 by omega);omega
theorem walkW_any (ts:List TyS)(tv:Value)(b:Nat)(T:List Tup)(shut:List R2)(sv:Value)(p:P3)(most:Int)(N:Nat)(w:World)(h:TysAt (· < w.heap.size) w ts tv)(hok:∀ t∈ts,t.Ok)(hc:chk06 ts=0)(hsB:schB ts<=549755813888)(hsz:∀ t∈ts,∀ r∈t.rels,r.2.sz<=1000000)(hln:(namesOf ts).length<=1099511627776)(hlr:(refsOf ts).length<=1099511627776)
  (hbk:BookAt w b T) (hsv:Sl (· < w.heap.size) w 2 sv (shut.flatMap r2C)) (hso:∀ r∈shut,r.Ok) (hin:WalkIn ts T shut p N) :
  Calls Tryz.prog 98 #[.agg #[tv],bkV b,sv,pV p,.int .i64 most] w fun e w'=>WalkSaid ts T shut p most w e w':=by
 have HIN:=h! hin;have HOKT:=h! hok;have HLR:=h! hlr;have HU:=h! (chk_uniq hc);have HSO:=h! hso;obtain⟨ao,c,rfl,-⟩:=h.rows;obtain⟨so,sc,rfl,hs1,hs2,-⟩:=Sl.rows r2C_length (by decide) hsv;have HSH:=h! (show shut.length<=9223372036854775807 from by omega);clear hs1 hs2;obtain⟨wa,hwa⟩:∃ x,x=w.alloc (.cells #[.slice ao ts.length c] 26):=⟨_,rfl⟩;obtain⟨wb,hwb⟩:∃ x,x=wa.alloc (.cells #[.string p.t,.string p.i,.string p.r] 32):=⟨_,rfl⟩;obtain⟨wc,hwc⟩:∃ x,x=wb.alloc (.cells #[.slice none 0 0,.slice none 0 0] 96):=⟨_,rfl⟩;have ea:wa.heap.size=w.heap.size+1:=by rw[hwa];simp
 have eb:wb.heap.size=w.heap.size+2:=by rw[hwb];simp[ea]
 have ec:wc.heap.size=w.heap.size+3:=by rw[hwc];simp[eb]
 have xa:Ext w wa:=by rw[hwa];exact Ext.alloc _ _
 have xb:Ext wa wb:=by rw[hwb];exact Ext.alloc _ _
 have xc:Ext wb wc:=by rw[hwc];exact Ext.alloc _ _
 have XC:=h! (show Ext w wc from xa.trans (xb.trans xc));have CZ:=h! ec;have CS:=h! (show Blk wc w.heap.size #[.slice ao ts.length c] 26 from Blk.below (by rw[hwa];exact Blk.made _ _ _) (xb.trans xc));have CP:=h! (show Blk wc (w.heap.size+1) #[.string p.t,.string p.i,.string p.r] 32 from Blk.below (by rw[hwb,<- ea];exact Blk.made _ _ _) xc);have CG:=h! (show Blk wc (w.heap.size+2) #[.slice none 0 0,.slice none 0 0] 96 from by rw[hwc,<- eb];exact Blk.made _ _ _);have CT:=h! (h.up XC.out);have CK:=h! (hbk.ext XC.out);have CV:=h! ((hsv.same (Same.below XC.out)).mono (T:=fun x=>x<wc.heap.size) fun x hx=>Nat.lt_of_lt_of_le hx XC.out.size)
 have HCK:=h! (show Calls Tryz.prog 74 #[.agg #[.slice ao ts.length c]] wc fun e w'=>e = .returned (.int .i64 0)/\Below wc.heap.size wc w' from by
  have h1:=checkP_any ts (.slice ao ts.length c) wc CT.out hok hsB hsz hln hlr;rw[hc]at h1;exact h1)
 clear h hok hc hsB hsz hln hlr hbk hsv hso hin ea eb ec xa xb xc;subst hwc hwb hwa;have cs0:=CS.out.cells;unfold pV;have hq:∀ W,(binOp BinOp.eql 139 (bkV b) .nilIface).run Tryz.prog W = .ok (.bool false) W:=fun _=>by kernel_rfl
 go_enter Tryz.func98,Tryz.ntmps98
 go_wp2_with fail
 refine HCK.out.mono ?_;rintro e w2 ⟨rfl,hx2⟩;have X2:=h! (show Ext w w2 from XC.out.trans hx2);have Z2:=h! (show w.heap.size+3<=w2.heap.size from by have:=CZ.out;have:=hx2.size;omega);have S2:=h! (CS.out.below hx2);have P2:=h! (CP.out.below hx2);have G2:=h! (CG.out.below hx2);have T2:=h! (CT.out.up hx2);have K2:=h! (CK.out.ext hx2);have V2:=h! ((CV.out.same (Same.below hx2)).mono (T:=fun x=>x<w2.heap.size) fun x hx=>Nat.lt_of_lt_of_le hx hx2.size);clear cs0 HCK hx2 XC CZ CS CP CG CT CK CV;obtain⟨tv,htv⟩:∃ tv,tv=Value.slice ao ts.length c:=⟨_,rfl⟩;obtain⟨w3,hw3⟩:∃ x,x=w2.alloc (.map #[] 0):=⟨_,rfl⟩;obtain⟨w4,hw4⟩:∃ x,x=w3.alloc (.map #[] 0):=⟨_,rfl⟩;obtain⟨w5,hw5⟩:∃ x,x=w4.alloc (.cells #[tv,bkV b,.map (some w2.heap.size),.map (some (w2.heap.size+1)),.slice none 0 0,.slice none 0 0,.int .i64 0] 251):=⟨_,rfl⟩;have e3:w3.heap.size=w2.heap.size+1:=by rw[hw3];simp
 have e4:w4.heap.size=w2.heap.size+2:=by rw[hw4];simp[e3]
 have e5:w5.heap.size=w2.heap.size+3:=by rw[hw5];simp[e4]
 have x3:Ext w2 w3:=by rw[hw3];exact Ext.alloc _ _
 have x4:Ext w3 w4:=by rw[hw4];exact Ext.alloc _ _
 have x5:Ext w4 w5:=by rw[hw5];exact Ext.alloc _ _
 have X5:=h! (show Below w2.heap.size w2 w5 from x3.trans (x4.trans x5));have Z5:=h! e5;have M5:=h! (show Mp Tryz.prog 121 r2V bV w5 w2.heap.size (shutM [])from Mp.below (by rw[hw3];exact Mp.made _) (x4.trans x5));have W5:=h! (show WkAt w5 (w2.heap.size+2) (w2.heap.size+1) w2.heap.size tv (bkV b) (.map (some w2.heap.size)) [] (.slice none 0 0) (.slice none 0 0)from⟨by rw[hw5,<- e4];exact Blk.made _ _ _,Mp.below (by rw[hw4,<- e3];exact Mp.made _) x5,Own.nil _ _ _ _⟩);clear e3 e4 e5 x3 x4 x5;have hmm:=@run_makeMap Tryz.prog;have cs2:=S2.out.cells;subst hw5 hw4 hw3 htv;go_wp2_with fail
 clear cs2 hmm hq;obtain⟨tv,htv⟩:∃ tv,tv=Value.slice ao ts.length c:=⟨_,rfl⟩;obtain⟨w5,hw5⟩:∃ x,x=((w2.alloc (.map #[] 0)).alloc (.map #[] 0)).alloc (.cells #[.slice ao ts.length c,bkV b,.map (some w2.heap.size),.map (some (w2.heap.size+1)),.slice none 0 0,.slice none 0 0,.int .i64 0] 251):=⟨_,rfl⟩;rw[<- hw5]at X5 Z5 M5 W5 ⊢;clear hw5;rw[<- htv]at W5 T2;have HTV:=h! htv;clear htv;go_loopw [38] (fun iv wr=>∃ i:Nat,i<=shut.length/\iv = .int .i64 i/\WkAt wr (w2.heap.size+2) (w2.heap.size+1) w2.heap.size tv (bkV b) (.map (some w2.heap.size)) [] (.slice none 0 0) (.slice none 0 0)/\Mp Tryz.prog 121 r2V bV wr w2.heap.size (shutM (shut.take i))/\Below w2.heap.size w2 wr/\w2.heap.size+3<=wr.heap.size) (fun iv _=>shut.length-(intOf iv).toNat)
 case atStart=>exact⟨0,Nat.zero_le _,rfl,W5.out,M5.out,X5.out,Nat.le_of_eq Z5.out.symm⟩
 case round =>
  obtain⟨i,hi,rfl,hwk,hmp,hbl,hzz⟩:=hrel;have RW:=h! hwk;have RM:=h! hmp;have RB:=h! hbl;have RZ:=h! hzz;clear W5 M5 X5 Z5 hwk hmp hbl hzz;by_cases hlt:i<shut.length
  ·obtain⟨ao',c',he',-,-,hcell⟩:=Sl.rows r2C_length (by decide) (V2.out.same (w':=wr) fun x hx=>RB.out.block x hx);cases he';obtain⟨bq,oq,rfl,-,hcell⟩:=hcell (by omega);have d0:wr.cell? ⟨bq,oq+i*2,none⟩=some (.string shut[i].t):=hcell i hlt 0 _ rfl;have d1:wr.cell? ⟨bq,oq+i*2+1,none⟩=some (.string shut[i].r):=hcell i hlt 1 _ rfl;have HTK:=h! (shut_take hlt);have HLT:=h! hlt;have HOR:=h! (HSO.out shut[i] (List.getElem_mem hlt));generalize shut[i]=r at *;obtain⟨rt,rr⟩:=r;dsimp only at d0 d1;clear hcell hi hlt;go_wp2_with fail
   clear d0 d1;obtain⟨wd,hwd⟩:∃ wd,wd=(wr.alloc (.cells #[.string rt,.string rr] 121)).drew:=⟨_,rfl⟩;have DX:=h! (show Ext wr wd from by rw[hwd];exact(Ext.alloc _ _).trans (Ext.drew _));have DR:=h! (show Blk wd wr.heap.size #[.string rt,.string rr] 121 from by rw[hwd];exact(Blk.made _ _ _).drew);have DW:=h! (RW.out.ext DX.out);have DM:=h! (RM.out.below DX.out);have DB:=h! (show Below w2.heap.size w2 wd from RB.out.trans (DX.out.mono (by have:=RZ.out;omega)));have DZ:=h! (show w2.heap.size+3<=wd.heap.size from Nat.le_trans RZ.out DX.out.size);refine r! (Kept (· ≠ w2.heap.size) wd) (by rw[<- hwd];exact Kept.refl _ _) ?_;rw[<- hwd];clear hwd RW RM DX;have h1:=fun W (h:Kept (· ≠ w2.heap.size) wd W)=>(h.blk DW.out.box (by show w2.heap.size+2≠w2.heap.size;omega)).cells;have h2:=fun W (h:Kept (· ≠ w2.heap.size) wd W)=>(h.blk DR.out (by show wr.heap.size≠w2.heap.size;have:=RZ.out;omega)).cells;(refine WalkN.tk [0,1,2,3,4] ?_;(iterate 5 (refine c! ?_));refine TkN.n ?_)
   clear h1 h2;obtain⟨wf,hrun,hMf,hTf⟩:=DM.out.store refK r2V_inj Tryz.underlying141 (ref_key ⟨rt,rr⟩ HOR.out) true;have FM:=h! hMf;unfold r2V bV at hrun;dsimp only at hrun;refine o! 5 ?_;refine b! ?_;intro K hK;go_simp;refine hK.out _ _ hTf.kept ?_;clear hK hrun hMf;refine d! ?_;have FW:=h! (DW.out.same (hTf.kept.block _ (by show w2.heap.size+2≠w2.heap.size;omega)) (hTf.kept.block _ (by show w2.heap.size+1≠w2.heap.size;omega)) (fun g hg=>by cases hg));have FB:=h! (show Below w2.heap.size w2 wf from DB.out.trans (hTf.below (Nat.le_refl _)));have FZ:=h! (show w2.heap.size+3<=wf.heap.size from by rw[hTf.size];exact DZ.out);clear hTf DW DM DB DR;have hsh:=HSH.out;have hil:=HLT.out;go_wp2_with fail
   go_roundw
   case rel=>exact⟨i+1,HLT.out,by go_num,FW.out,by rw[HTK.out];exact FM.out,FB.out,FZ.out⟩
   case measure=>have:=HLT.out;simp[intOf];omega
  ·obtain rfl:i=shut.length:=by omega
   have HTA:=h! (show shut.take shut.length=shut from List.take_length);rw[HTA.out]at RM;have HNB:=h! (number_any (w2.heap.size+2) (w2.heap.size+1) w2.heap.size tv (bkV b) (.map (some w2.heap.size)) (.slice none 0 0) (.slice none 0 0) [] p wr (HIN.out.okp 0 p (by simp[walkN])) RW.out ⟨by omega,by omega⟩ (by decide));have pp2:=(P2.out.same (S:=(· < w2.heap.size)) (W:=wr) (fun x hx=>RB.out.block x hx) P2.out.lt).cells;have HPP:=h! (show p=⟨p.t,p.i,p.r⟩from rfl);unfold pV at HNB;go_wp2_with fail
   refine HNB.out.mono ?_;rintro e w6 ⟨pv6,rfl,hwk6,hfn6⟩
   have Q6:=h! (show StepOk w2 w6 (w2.heap.size+2) (w2.heap.size+1) w2.heap.size (w2.heap.size+3) w2.heap.size tv (bkV b) (.map (some w2.heap.size)) pv6 (.slice none 0 0) (walkN ts T shut p 0).1 shut []from⟨by
    have h1:putP [] p=(walkN ts T shut p 0).1:=by simp[putP,walkN]
    rw[<- h1];exact hwk6,FRow.nil _ _,RM.out.same (hfn6.kept.block _ ⟨RM.out.lt,by omega,by omega,fun e=>by cases e⟩),RB.out.trans (hfn6.pk RW.out ⟨by omega,by omega⟩).below⟩)
   have Y6:=h! (show w2.heap.size+3<=w6.heap.size from Nat.le_trans RZ.out hfn6.size);clear pp2 HNB hwk6 hfn6 RW RM RB RZ hi hlt;go_wp2_with fail
   go_loopw [16] (fun iv wr=>∃ (i:Nat) (q:List (FT × FV3)) (pv fv:Value),iv = .int .i64 i/\WalkAt ts T shut p most i/\StepOk w2 wr (w2.heap.size+2) (w2.heap.size+1) w2.heap.size (w2.heap.size+3) w2.heap.size tv (bkV b) (.map (some w2.heap.size)) pv fv (walkN ts T shut p i).1 shut q/\q.map (·.1)=(walkN ts T shut p i).2/\w2.heap.size+3<=wr.heap.size) (fun iv _=>N+1-(intOf iv).toNat)
   case atStart=>exact⟨0,[],pv6,.slice none 0 0,rfl,(fun m hm=>absurd hm (Nat.not_lt_zero m)),Q6.out,rfl,Y6.out⟩
   case round =>
    obtain⟨i,q,pv,fv,rfl,hat,hst,hq,hzz⟩:=hrel;have HLE:=h! hat.le;have HFEW:=h! (HIN.out.few i);have HOKP:=h! (HIN.out.okp i)
    have HQL:=h! (show q.length=i from by
     have:=congrArg List.length hq;rwa[List.length_map,walkN_forms]at this)
    have HNX:=h! (show walkN ts T shut p (i+1)=_ from by rw[walkN]);have HLG:=h! (show i<(walkN ts T shut p i).1.length->most<((walkN ts T shut p i).1.length:Int)->WalkLong ts T shut p most from fun h1 h2=>⟨i,hat,h1,h2⟩)
    have HA1:=h! (show i<(walkN ts T shut p i).1.length->((walkN ts T shut p i).1.length:Int)<=most->WalkAt ts T shut p most (i+1)from fun h1 h2 m hm=>by
     rcases Nat.lt_succ_iff_lt_or_eq.1 hm with h3 | rfl
     ·exact hat m h3
     ·exact⟨h1,h2⟩)
    have HEND:=h! (show i=(walkN ts T shut p i).1.length->WalkEnd ts T shut p most i from fun h=>⟨hat,h⟩);have RW:=h! hst.walk;have RR:=h! hst.row;have RM:=h! hst.shut;have RB:=h! hst.below;have RZ:=h! hzz;have RQ:=h! hq;have RG:=h! (show Blk wr (w.heap.size+2) #[.slice none 0 0,.slice none 0 0] 96 from G2.out.same (S:=(· < w2.heap.size)) (fun x hx=>hst.below.block x hx) G2.out.lt)
    have RS:=h! (show Blk wr w.heap.size #[tv] 26 from by
     rw[HTV.out];exact S2.out.same (S:=(· < w2.heap.size)) (fun x hx=>hst.below.block x hx) S2.out.lt)
    clear Q6 Y6 hat hst hq hzz;by_cases hend:i<(walkN ts T shut p i).1.length
    ·by_cases hmost:most<((walkN ts T shut p i).1.length:Int)
     ·have HL:=h! (HLG.out hend hmost);obtain⟨po,pn,pc,rfl,hpn,-,-⟩:=RW.out.pts.sl.len;obtain rfl:pn=(walkN ts T shut p i).1.length:=by rw[pcs_length]at hpn;omega
      generalize (walkN ts T shut p i).1.length=len at *;have c1:=RW.out.box.cells;have c2:=RG.out.cells;have c3:=RG.out.free;have g1:(len:Int) > most:=hmost;have g2:(i:Int)<(len:Int):=by omega
      have XE:=h! (show Ext w ((wr.setCell ⟨w.heap.size+2,0,none⟩ (.slice none 0 0)).setCell ⟨w.heap.size+2,1,none⟩ (.slice none 0 0))from((X2.out.trans RB.out:Below w.heap.size w wr).setCell (p:=⟨w.heap.size+2,0,none⟩) (by show w.heap.size<=w.heap.size+2;omega) _).setCell (p:=⟨w.heap.size+2,1,none⟩) (by show w.heap.size<=w.heap.size+2;omega) _);have GE:=h! ((RG.out.set_to (cs':=#[.slice none 0 0,.slice none 0 0]) 0 (.slice none 0 0) rfl).set_to (cs':=#[.slice none 0 0,.slice none 0 0]) 1 (.slice none 0 0) rfl);go_wp2_with fail
      clear c1 c2 c3;refine bodyPost_ret (v := .tuple #[.agg #[.slice none 0 0,.slice none 0 0],.int .i64 10]) ?_ rfl ⟨XE.out,.inr ⟨HL.out,rfl⟩⟩;rw[results_cell_tmp rfl];have hl:=run_loadVar_row (P:=Tryz.prog) _ (w.heap.size+2) _ 96 _ _ _ GE.out Tryz.underlying96 rfl (by kernel_rfl);simp[asAddr,hl,Result.andThen]
     ·have HA:=h! (HA1.out hend (by omega));obtain⟨po,pc,rfl,hpc1,hpc2,hcell⟩:=Sl.rows pC_length (by decide) (show Sl _ wr 3 pv ((walkN ts T shut p i).1.flatMap pC)from RW.out.pts.sl);obtain⟨bq,oq,rfl,-,hcell⟩:=hcell (by omega);have hck:=hcell i hend;clear hcell;have HXOK:=h! (HOKP.out _ (List.getElem_mem hend));have HGD:=(show(walkN ts T shut p i).1.getD i p=(walkN ts T shut p i).1[i]from by rw[List.getD_eq_getElem?_getD,List.getElem?_eq_getElem hend];rfl);rw[HGD]at HNX;clear HGD;generalize (walkN ts T shut p i).1[i]=x at *;have HENDL:=h! hend;have hmost':¬ (((walkN ts T shut p i).1.length:Int) > most):=hmost;have RFV:=h! (show ∀ g,fv.ownBlock=some g->g<wr.heap.size from fun g hg=>(RR.out.row.block g hg).2);have g2:(i:Int)<((walkN ts T shut p i).1.length:Int):=by omega
      obtain⟨xt,xi,xr⟩:=x;have c0:wr.cell? ⟨bq,oq+i*3,none⟩=some (.string xt):=hck 0 _ rfl;have c1:wr.cell? ⟨bq,oq+i*3+1,none⟩=some (.string xi):=hck 1 _ rfl;have c2:wr.cell? ⟨bq,oq+i*3+2,none⟩=some (.string xr):=hck 2 _ rfl;have cb:=RW.out.box.cells;obtain⟨wj,hwj⟩:∃ y,y=wr.alloc (.cells #[.string xt,.string xi,.string xr] 32):=⟨_,rfl⟩;obtain⟨wk,hwk⟩:∃ y,y=wj.alloc (.cells #[.int .i64 0,.slice none 0 0,.slice none 0 0,.slice none 0 0] 128):=⟨_,rfl⟩;have ej:wj.heap.size=wr.heap.size+1:=by rw[hwj];simp
      have xj:Ext wr wj:=by rw[hwj];exact Ext.alloc _ _
      have xk:Ext wj wk:=by rw[hwk];exact Ext.alloc _ _
      have KX1:=h! (show Ext wr wk from xj.trans xk);have KP:=h! (show Blk wk wr.heap.size #[.string xt,.string xi,.string xr] 32 from Blk.below (by rw[hwj];exact Blk.made _ _ _) xk);have KF:=h! (show Blk wk (wr.heap.size+1) #[.int .i64 0,.slice none 0 0,.slice none 0 0,.slice none 0 0] 128 from by rw[hwk,<- ej];exact Blk.made _ _ _);have KS:=h! (RS.out.below KX1.out);have KB:=h! (show Below w2.heap.size w2 wk from RB.out.trans (KX1.out.mono (by have:=RZ.out;omega)));have HFD:=h! (findS_any (S:=(· < w2.heap.size)) ts tv xt xr wk (fun y hy=>Nat.lt_of_lt_of_le hy KB.out.size) (T2.out.same fun y hy=>KB.out.block y hy) HOKT.out HU.out HLR.out HXOK.out.1 HXOK.out.2.2);have kp:=KP.out.cells;have ks:=KS.out.cells;clear ej xj xk hck hend hmost HLG HEND;subst hwk hwj;go_wp2_with fail
      clear c0 c1 c2 cb kp ks;refine HFD.out.mono ?_;rintro e w3 ⟨⟨zr,zv⟩,rfl,hzat,hz1,hz2,hx3⟩;have hzat:RTAt (· < w2.heap.size) w3 zr zv:=hzat;obtain⟨zo,zc,rfl,-⟩:=hzat.rows;unfold rvV rV;dsimp only at hz1 hz2 ⊢;have X3:=h! (KX1.out.trans hx3);have P3:=h! (KP.out.below hx3);have F3:=h! (KF.out.below hx3);have B3:=h! (show Below w2.heap.size w2 w3 from KB.out.trans (hx3.mono KB.out.size));have HZA:=h! hzat;have HZ1:=h! hz1;have kp:=P3.out.cells;clear HFD KX1 KP KF KS KB hzat hz1 hz2 hx3 g2 hmost';obtain⟨w4,hw4⟩:∃ y,y=w3.alloc (.cells #[.int .i64 zr.k,.string zr.a,.string zr.b,.slice zo zr.ps.length zc] 106):=⟨_,rfl⟩;obtain⟨wd,hwd⟩:∃ y,y=w4.drew:=⟨_,rfl⟩;have X3D:=h! (show Ext w3 wd from by rw[hwd,hw4];exact(Ext.alloc _ _).trans (Ext.drew _));have DX:=h! (X3.out.trans X3D.out);have DR:=h! (show Blk wd w3.heap.size #[.int .i64 zr.k,.string zr.a,.string zr.b,.slice zo zr.ps.length zc] 106 from by rw[hwd,hw4];exact(Blk.made _ _ _).drew);have DP:=h! (P3.out.below X3D.out);have DF:=h! (F3.out.below X3D.out);have DW:=h! (RW.out.ext DX.out);have DM:=h! (RM.out.below DX.out);have DB:=h! (show Below w2.heap.size w2 wd from B3.out.trans (X3D.out.mono B3.out.size));have DRR:=h! (RR.out.ext DX.out);have DZ:=h! (show w2.heap.size+3<=wd.heap.size from Nat.le_trans RZ.out DX.out.size);have DZ2:=h! (show wr.heap.size+1<wd.heap.size from DF.out.lt);have DA:=h! (HZA.out.same fun y hy=>X3D.out.block y (Nat.lt_of_lt_of_le hy B3.out.size));clear X3 P3 F3 B3 HZA X3D;have hlk:=fun W (h:Ext wd W)=>(DM.out.below h).look refK r2V_inj Tryz.underlying141 (Tryz.zeroValue4 W) false (ref_key ⟨xt,xr⟩ ⟨HXOK.out.1,HXOK.out.2.2⟩);simp only[look_shut]at hlk;unfold r2V bV at hlk;dsimp only at hlk;have h1:=fun W (h:Ext wd W)=>(DW.out.box.below h).cells;have h2:=fun W (h:Ext wd W)=>(DP.out.below h).cells;have HLK:=h! hlk;have HH1:=h! h1;have HH2:=h! h2;clear hlk h1 h2;subst hwd hw4
      have tri:Hid (lookA (refsOf ts) ⟨xt,xr⟩=none)\/(∃ r,Hid (lookA (refsOf ts) ⟨xt,xr⟩=some r/\(⟨xt,xr⟩:R2)∈shut))\/(∃ r,Hid (lookA (refsOf ts) ⟨xt,xr⟩=some r/\¬ (⟨xt,xr⟩:R2)∈shut)):=by
       cases hL:lookA (refsOf ts) ⟨xt,xr⟩ with
       | none=>exact .inl rfl
       | some r =>
        by_cases hsh:(⟨xt,xr⟩:R2)∈shut
        ·exact .inr (.inl ⟨r,rfl,hsh⟩)
        ·exact .inr (.inr ⟨r,rfl,hsh⟩)
      rcases tri with hL | ⟨r,hL⟩ | ⟨r,hL⟩
      case' inl =>
       have hL:lookA (refsOf ts) ⟨xt,xr⟩=none:=hL.out;have HRU:=h! (show ruleOf ts shut ⟨xt,xi,xr⟩=none from by unfold ruleOf;split <;> first | rfl | exact hL);rw[hL]at HZ1;rw[hL];clear HZ1 hL;dsimp only[Option.isSome];go_wp2_with fail
       clear kp;obtain⟨wd,hwd⟩:∃ y,y=(w3.alloc (.cells #[.int .i64 zr.k,.string zr.a,.string zr.b,.slice zo zr.ps.length zc] 106)).drew:=⟨_,rfl⟩;rw[<- hwd]at DX DR DP DF DW DM DB DRR DZ DZ2 DA HLK HH1 HH2;refine r! (Ext wd) (by rw[<- hwd];exact Ext.refl _) ?_;rw[<- hwd];clear hwd;have hlk:=HLK.out;have h1:=HH1.out;have h2:=HH2.out;clear HLK HH1 HH2;(refine WalkN.tk [0,1] ?_;(iterate 2 (refine c! ?_));refine TkN.n ?_)
       refine k! 2 ?_;refine k! 3 ?_;refine k! 4 ?_;refine k! 5 ?_;refine k! 6 ?_;refine k! 7 ?_;refine k! 8 ?_;refine k! 9 ?_;refine k! 10 ?_;refine k! 11 ?_;refine k! 12 ?_;refine k! 13 ?_
       refine t! 14 ?_
       refine d! ?_;clear hlk h1 h2;obtain⟨fx,hfx⟩:∃ y,y=FT.zero:=⟨_,rfl⟩;obtain⟨ps1,hps⟩:∃ y,y=(walkN ts T shut p i).1:=⟨_,rfl⟩;obtain⟨pv1,hpv⟩:∃ y,y=(Value.slice (some ⟨bq,oq,none⟩) (walkN ts T shut p i).1.length pc):=⟨_,rfl⟩;obtain⟨a1,b1,c1,e1⟩:∃ a b c,Value.slice a b c = .slice none 0 0:=⟨_,_,_,rfl⟩;obtain⟨a2,b2,c2,e2⟩:∃ a b c,Value.slice a b c = .slice none 0 0:=⟨_,_,_,rfl⟩;obtain⟨a4,b4,c4,e4⟩:∃ a b c,Value.slice a b c = .slice none 0 0:=⟨_,_,_,rfl⟩;have TST:=h! (show stepG ts T shut ⟨xt,xi,xr⟩ (walkN ts T shut p i).1=(fx,ps1)from by rw[hfx,hps];exact stepG_none (T:=T) (ps:=(walkN ts T shut p i).1) HRU.out);have TW:=h! (show WkAt wd (w2.heap.size+2) (w2.heap.size+1) w2.heap.size tv (bkV b) (.map (some w2.heap.size)) ps1 pv1 fv from by rw[hps,hpv];exact DW.out);have TR:=DRR;have TM:=DM;have TB:=DB;have TZ:=DZ;have TF:=h! (show Blk wd (wr.heap.size+1) #[.int .i64 fx.k,.slice a1 b1 c1,.slice a2 b2 c2,.slice a4 b4 c4] 128 from by rw[hfx,e1,e2,e4];exact DF.out);obtain⟨n0,hn0⟩:∃ y,y=wd.heap.size:=⟨_,rfl⟩
       have TX:=h! (show w2.heap.size+3<=n0/\(∀ g,fv.ownBlock=some g->g<n0)/\FTAt (FS n0 wd) wd fx (.slice a1 b1 c1,.slice a2 b2 c2,.slice a4 b4 c4)from by
        rw[hfx,e1,e2,e4,hn0];exact⟨DZ.out,fun g hg=>Nat.lt_of_lt_of_le (RFV.out g hg) DX.out.size,ft_zero _ _⟩)
       clear DW DRR DM DB DZ DF DX DR DP DA hfx hps hpv e1 e2 e4 hn0;have tb:=TW.out.box.cells;obtain⟨fo,fn,fc,rfl,hfn,-,-⟩:=TR.out.row.sl.len;rw[fCs_length]at hfn;obtain rfl:i=fn:=by have:=HQL.out;omega
       clear hfn;go_wp2_with fail
       clear tb;obtain⟨w7,hw7⟩:∃ y,y=wd:=⟨_,rfl⟩;rw[<- hw7]at TW TR TM TB TF TX TZ ⊢;clear hw7
      case' inr.inl =>
       have hsh:=hL.out.2;have hL:=hL.out.1;have HRU:=h! (show ruleOf ts shut ⟨xt,xi,xr⟩=none from by unfold ruleOf;rw[if_pos hsh]);rw[if_pos hsh]at HLK;rw[hL];clear HZ1 hL hsh;unfold lookV at HLK;dsimp only[Option.isSome]at HLK ⊢;go_wp2_with fail
       clear kp;obtain⟨wd,hwd⟩:∃ y,y=(w3.alloc (.cells #[.int .i64 zr.k,.string zr.a,.string zr.b,.slice zo zr.ps.length zc] 106)).drew:=⟨_,rfl⟩;rw[<- hwd]at DX DR DP DF DW DM DB DRR DZ DZ2 DA HLK HH1 HH2;refine r! (Ext wd) (by rw[<- hwd];exact Ext.refl _) ?_;rw[<- hwd];clear hwd;have hlk:=HLK.out;have h1:=HH1.out;have h2:=HH2.out;clear HLK HH1 HH2;simp only[Bool.false_eq_true,if_false]at hlk;(refine WalkN.tk [0,1,2,3,4,5,6,7,8,9,10,11,12,13,14] ?_;(iterate 15 (refine c! ?_));refine TkN.n ?_)
       refine d! ?_;clear hlk h1 h2;obtain⟨fx,hfx⟩:∃ y,y=FT.zero:=⟨_,rfl⟩;obtain⟨ps1,hps⟩:∃ y,y=(walkN ts T shut p i).1:=⟨_,rfl⟩;obtain⟨pv1,hpv⟩:∃ y,y=(Value.slice (some ⟨bq,oq,none⟩) (walkN ts T shut p i).1.length pc):=⟨_,rfl⟩;obtain⟨a1,b1,c1,e1⟩:∃ a b c,Value.slice a b c = .slice none 0 0:=⟨_,_,_,rfl⟩;obtain⟨a2,b2,c2,e2⟩:∃ a b c,Value.slice a b c = .slice none 0 0:=⟨_,_,_,rfl⟩;obtain⟨a4,b4,c4,e4⟩:∃ a b c,Value.slice a b c = .slice none 0 0:=⟨_,_,_,rfl⟩;have TST:=h! (show stepG ts T shut ⟨xt,xi,xr⟩ (walkN ts T shut p i).1=(fx,ps1)from by rw[hfx,hps];exact stepG_none (T:=T) (ps:=(walkN ts T shut p i).1) HRU.out);have TW:=h! (show WkAt wd (w2.heap.size+2) (w2.heap.size+1) w2.heap.size tv (bkV b) (.map (some w2.heap.size)) ps1 pv1 fv from by rw[hps,hpv];exact DW.out);have TR:=DRR;have TM:=DM;have TB:=DB;have TZ:=DZ;have TF:=h! (show Blk wd (wr.heap.size+1) #[.int .i64 fx.k,.slice a1 b1 c1,.slice a2 b2 c2,.slice a4 b4 c4] 128 from by rw[hfx,e1,e2,e4];exact DF.out);obtain⟨n0,hn0⟩:∃ y,y=wd.heap.size:=⟨_,rfl⟩
       have TX:=h! (show w2.heap.size+3<=n0/\(∀ g,fv.ownBlock=some g->g<n0)/\FTAt (FS n0 wd) wd fx (.slice a1 b1 c1,.slice a2 b2 c2,.slice a4 b4 c4)from by
        rw[hfx,e1,e2,e4,hn0];exact⟨DZ.out,fun g hg=>Nat.lt_of_lt_of_le (RFV.out g hg) DX.out.size,ft_zero _ _⟩)
       clear DW DRR DM DB DZ DF DX DR DP DA hfx hps hpv e1 e2 e4 hn0;have tb:=TW.out.box.cells;obtain⟨fo,fn,fc,rfl,hfn,-,-⟩:=TR.out.row.sl.len;rw[fCs_length]at hfn;obtain rfl:i=fn:=by have:=HQL.out;omega
       clear hfn;go_wp2_with fail
       clear tb;obtain⟨w7,hw7⟩:∃ y,y=wd:=⟨_,rfl⟩;rw[<- hw7]at TW TR TM TB TF TX TZ ⊢;clear hw7
      case' inr.inr =>
       have hsh:=hL.out.2;have hL:=hL.out.1;have HRU:=h! (show ruleOf ts shut ⟨xt,xi,xr⟩=some r from by unfold ruleOf;rw[if_neg hsh];exact hL);have HLR2:=h! hL;rw[if_neg hsh]at HLK;rw[hL]at HZ1;rw[hL];clear hL hsh;unfold lookV at HLK;dsimp only[Option.isSome]at HLK ⊢;go_wp2_with fail
       clear kp;obtain⟨wd,hwd⟩:∃ y,y=(w3.alloc (.cells #[.int .i64 zr.k,.string zr.a,.string zr.b,.slice zo zr.ps.length zc] 106)).drew:=⟨_,rfl⟩;rw[<- hwd]at DX DR DP DF DW DM DB DRR DZ DZ2 DA HLK HH1 HH2;refine r! (Ext wd) (by rw[<- hwd];exact Ext.refl _) ?_;rw[<- hwd];clear hwd;have hlk:=HLK.out;have h1:=HH1.out;have h2:=HH2.out;clear HLK HH1 HH2;simp only[Bool.false_eq_true,if_false]at hlk;(refine WalkN.tk [0,1,2,3,4,5,6,7,8,9,10,11,12,13,14] ?_;(iterate 15 (refine c! ?_));refine TkN.n ?_)
       refine d! ?_;clear hlk h1 h2;have HRE:=HZ1.out _ rfl;subst HRE;have HRM:=h! (look_mem HLR2.out);have HFM:=h! (form_any (w2.heap.size+2) (w2.heap.size+1) w2.heap.size b tv (.map (some w2.heap.size)) fv T ⟨xt,xi,xr⟩ w2 HXOK.out HIN.out.tok HIN.out.tlen ⟨by omega,by omega⟩ K2.out (Nat.le_refl _) zr _ (.slice zo zr.ps.length zc) (walkN ts T shut p i).1 wd (HIN.out.rok _ HRM.out) DA.out DB.out DW.out (by have h1:zr.sz*(T.length+1)+N<=1073741824:=HIN.out.room _ HRM.out;have h2:=HFEW.out;omega));have dp:=DP.out.cells;have dr:=DR.out.cells;go_wp2_with fail
       clear dp dr;refine HFM.out.mono ?_;rintro e w5 ⟨v3,pv1,rfl,hat5,hwk5,hfn5⟩;have TST:=h! (stepG_some (T:=T) (ps:=(walkN ts T shut p i).1) HRU.out);generalize formD T ⟨xt,xi,xr⟩ zr (walkN ts T shut p i).1=fd at *;obtain⟨fx,ps1⟩:=fd;obtain⟨u1,u2,u4⟩:=v3;dsimp only at hat5 hwk5 TST;obtain⟨s1,s2,-⟩:=(FTAt.iff _ _).1 hat5;obtain⟨a1,b1,c1,rfl,-,-,-⟩:=s1.len;obtain⟨a2,b2,c2,rfl,-,-,-⟩:=s2.len;obtain⟨a4,c4,rfl,-⟩:=hat5.rows;obtain⟨b4,hb4⟩:∃ y,y=fx.ps.length:=⟨_,rfl⟩;rw[<- hb4]at hat5;unfold fV;dsimp only;rw[<- hb4];clear s1 s2 hb4;have F5:=h! (hfn5.blk DW.out DF.out (by decide) (by decide));have f5c:=F5.out.cells;have f5f:=F5.out.free;have ZS:∀ y,y≠wr.heap.size+1->((((w5.setCell ⟨wr.heap.size+1,0,none⟩ (.int .i64 fx.k)).setCell ⟨wr.heap.size+1,1,none⟩ (.slice a1 b1 c1)).setCell ⟨wr.heap.size+1,2,none⟩ (.slice a2 b2 c2)).setCell ⟨wr.heap.size+1,3,none⟩ (.slice a4 b4 c4)).heap[y]?=w5.heap[y]?:=fun y hy=>by rw[Below.heap_setCell _ _ _ y hy,Below.heap_setCell _ _ _ y hy,Below.heap_setCell _ _ _ y hy,Below.heap_setCell _ _ _ y hy]
       obtain⟨w7,hw7⟩:∃ y,y=(((w5.setCell ⟨wr.heap.size+1,0,none⟩ (.int .i64 fx.k)).setCell ⟨wr.heap.size+1,1,none⟩ (.slice a1 b1 c1)).setCell ⟨wr.heap.size+1,2,none⟩ (.slice a2 b2 c2)).setCell ⟨wr.heap.size+1,3,none⟩ (.slice a4 b4 c4):=⟨_,rfl⟩;have e7:w7.heap.size=w5.heap.size:=by rw[hw7];simp
       rw[<- hw7]at ZS;have F7:=h! (show Blk w7 (wr.heap.size+1) #[.int .i64 fx.k,.slice a1 b1 c1,.slice a2 b2 c2,.slice a4 b4 c4] 128 from by rw[hw7];exact F5.out.put4 _ _ _ _);have hun:=hwk5.un F5.out (by decide) (by decide);have TW:=h! (hwk5.same (w':=w7) (ZS _ fun e=>hun.2.1 e.symm) (ZS _ fun e=>hun.2.2.1 e.symm) fun g hg=>ZS _ fun e=>hun.2.2.2 (by rw[hg,e]))
       have PK7:=h! (show PKept (WM (w2.heap.size+2) (w2.heap.size+1)) w2.heap.size wr w7 from by
        rw[hw7];have hk:=QKept.next (QKept.of (e:=32) (M:=WM (w2.heap.size+2) (w2.heap.size+1)) DX.out (by have:=RZ.out;omega)) (hfn5.pk DW.out ⟨by omega,by omega⟩)
        have hno:¬ QK 32 (WM (w2.heap.size+2) (w2.heap.size+1)) w2.heap.size wr (wr.heap.size+1):=fun h=>by
         rcases h with h | h
         ·have:=RZ.out;omega
         ·have:=h.2.1;omega
        exact(((hk.set hno _).set hno _).set hno _).set hno _)
       have TR:=h! (RR.out.keep PK7.out fun y hy=>by rcases hy with rfl | rfl <;> omega);have TM:=h! ((DM.out.same (hfn5.kept.block _ ⟨DM.out.lt,by omega,by omega,fun e=>DW.out.pts.notMap DM.out.notCells _ e rfl⟩)).same (ZS _ (by have:=RZ.out;omega)));have TB:=h! (show Below w2.heap.size w2 w7 from RB.out.trans PK7.out.below);have TZ:=h! (show w2.heap.size+3<=w7.heap.size from Nat.le_trans RZ.out PK7.out.size);have TX:=h! (show w2.heap.size+3<=wd.heap.size/\(∀ g,fv.ownBlock=some g->g<wd.heap.size)/\FTAt (FS wd.heap.size w7) w7 fx (.slice a1 b1 c1,.slice a2 b2 c2,.slice a4 b4 c4)from⟨DZ.out,fun g hg=>Nat.lt_of_lt_of_le (RFV.out g hg) DX.out.size,(hat5.same fun y hy=>ZS y (by have:=hy.1;have:=DZ2.out;omega)).mono fun y hy=>⟨hy.1,by rw[e7];exact hy.2.1,fun cs=>by rw[ZS y (by have:=hy.1;have:=DZ2.out;omega)];exact hy.2.2 cs⟩⟩);have TF:=F7;clear HFM hat5 hwk5 hfn5 hun ZS e7 F7 PK7 DW DRR DM DB DZ DZ2 DF DX DR DP DA F5;obtain⟨n0,hn0⟩:∃ y,y=wd.heap.size:=⟨_,rfl⟩;rw[<- hn0]at TX;clear hn0;subst hw7;have tb:=TW.out.box.cells;obtain⟨fo,fn,fc,rfl,hfn,-,-⟩:=TR.out.row.sl.len;rw[fCs_length]at hfn;obtain rfl:i=fn:=by have:=HQL.out;omega
       clear hfn;go_wp2_with fail
       clear tb f5c f5f;obtain⟨w7,hw7⟩:∃ y,y=((((w5.setCell ⟨wr.heap.size+1,0,none⟩ (.int .i64 fx.k)).setCell ⟨wr.heap.size+1,1,none⟩ (.slice a1 b1 c1)).setCell ⟨wr.heap.size+1,2,none⟩ (.slice a2 b2 c2)).setCell ⟨wr.heap.size+1,3,none⟩ (.slice a4 b4 c4)):=⟨_,rfl⟩;rw[<- hw7]at TW TR TM TB TF TX TZ ⊢;clear hw7
      all_goals
       obtain⟨wq,hwq⟩:∃ x:World,x=World.drew w7:=⟨_,rfl⟩;have QX:=h! (show Ext w7 wq from by rw[hwq];exact Ext.drew _);have QW:=h! (TW.out.ext QX.out);have QF:=h! (TF.out.below QX.out);have QR:=h! (TR.out.ext QX.out);have QM:=h! (TM.out.below QX.out);have QB:=h! (show Below w2.heap.size w2 wq from TB.out.trans (QX.out.mono (by have:=TZ.out;omega)));have QZ:=h! (show w2.heap.size+3<=wq.heap.size from Nat.le_trans TZ.out QX.out.size);have QN:=h! (TX.out.1);have QV:=h! (TX.out.2.1);have QA:=h! ((TX.out.2.2.same fun y hy=>QX.out.block y hy.2.1).mono (S':=FS n0 wq) fun y hy=>hy.ext QX.out);refine region_walkS (fun j=>decide (9<=j)) (fun W=>Blk W (w2.heap.size+2) #[tv,bkV b,.map (some w2.heap.size),.map (some (w2.heap.size+1)),pv1,.slice fo i fc,.int .i64 0] 251/\Blk W (wr.heap.size+1) #[.int .i64 fx.k,.slice a1 b1 c1,.slice a2 b2 c2,.slice a4 b4 c4] 128) (by rw[<- hwq];exact⟨QW.out.box,QF.out⟩) (by kernel_rfl) (by kernel_rfl) (fun _ _ d _ _ h=>by cases d <;> exact h) ?_;rw[<- hwq];clear hwq TW TR TM TB TF TX QX;have h1:=fun W (h:Blk W (w2.heap.size+2) #[tv,bkV b,.map (some w2.heap.size),.map (some (w2.heap.size+1)),pv1,.slice fo i fc,.int .i64 0] 251/\Blk W (wr.heap.size+1) #[.int .i64 fx.k,.slice a1 b1 c1,.slice a2 b2 c2,.slice a4 b4 c4] 128)=>h.1.cells;have h2:=fun W (h:Blk W (w2.heap.size+2) #[tv,bkV b,.map (some w2.heap.size),.map (some (w2.heap.size+1)),pv1,.slice fo i fc,.int .i64 0] 251/\Blk W (wr.heap.size+1) #[.int .i64 fx.k,.slice a1 b1 c1,.slice a2 b2 c2,.slice a4 b4 c4] 128)=>h.2.cells;(refine WalkS.tk [0,1,2,3,4,5,6] ?_;(iterate 7 (refine z! ?_));refine TkS.n ?_)
       clear h1 h2;have hx3:=Ext.alloc wq (.cells #[.int .i64 0,.slice none 0 0,.slice none 0 0,.slice none 0 0] 128);refine oS! 7 ?_;refine b! ?_;intro K hK;go_simp;refine hK.out _ _ ⟨QW.out.box.below hx3,QF.out.below hx3⟩ ?_;clear hK;have HII:=h! (show i<=1073741823 from by have h1:=HFEW.out;have h2:=HIN.out.nmax;have h3:=HLE.out;omega);refine oS! 8 ?_;refine b! ?_;intro K hK;refine wp_ownw formsT (.tmp 122) (.tmp 125) rfl rfl (QR.out.row.below hx3) (m:=1) (news:=[.int .i64 0,.slice none 0 0,.slice none 0 0,.slice none 0 0]) rfl rfl (fun j u hu=>?_) (by simp[Value.oneCell']) (by have:=HQL.out;have:=HII.out;rw[fCs_length];simp;omega) (by have:=HQL.out;have:=HII.out;rw[fCs_length];simp;omega) (by have:=QZ.out;simp;omega) (fun v6 w6 hown6 hb6 hg6=>?_)
       ·rw[Addr.add_lit,cell_of_row _ wq.heap.size (0+j) #[.int .i64 0,.slice none 0 0,.slice none 0 0,.slice none 0 0] 128 (0,0) (heap_alloc_new wq _),Nat.zero_add];simpa using hu
       obtain⟨g,n6,c6,rfl⟩:∃ g n c,v6 = .slice (some ⟨g,0,none⟩) n c:=by
        rcases hown6.shape with⟨_,h⟩ | h
        ·simp at h
        ·exact h
       obtain rfl:n6=i+1:=by
        obtain⟨a,b,c,h1,h2,-,-⟩:=hown6.sl.len;cases h1;rw[List.length_append,fCs_length,HQL.out]at h2;simp at h2;omega
       have B6:=h! (show Blk w6 (w2.heap.size+2) _ _ from(hg6.block _ (QW.out.box.below hx3).lt fun e=>by have:=(QR.out.row.block _ e.symm).1;omega).trans (QW.out.box.below hx3));have F6:=h! (show Blk w6 (wr.heap.size+1) _ _ from(hg6.block _ (QF.out.below hx3).lt fun e=>by have:=RFV.out _ e.symm;omega).trans (QF.out.below hx3));obtain⟨cur,hcur⟩:=hown6.typed (g:=g) rfl;have HG6:=h! (show Blk w6 g cur 128 from hcur)
       have HGW:=h! (show g≠w2.heap.size+2 from fun e=>by
        have h1:w6.heap[w2.heap.size+2]?=_:=B6.out;rw[<- e,hcur]at h1;injection h1 with h1
        injection h1 with _ h1 _
        exact absurd h1 (by decide))
       have HO6:=h! hown6;have HB6:=h! hb6;have HS6:=h! hg6;have HX3:=h! hx3;refine hK.out _ _ ⟨B6.out,F6.out⟩ ?_;clear hK hx3 hown6 hb6 hg6 hcur;simp only[Act.put,pA,pZ,pS];have hi6:(i:Int)<(i:Int)+1:=by omega
       refine WalkS.rest (by kernel_rfl) ?_;(refine WalkN.tk [9,11,12,13] ?_;(iterate 4 (refine c! ?_));refine TkN.n ?_)
       refine p! 10 14 ?_ ?_
       ·refine b! ?_;intro K hK;have hgf:=HG6.out.free;obtain⟨k0,k1,k2,k3⟩:=four_cells HO6.out (k:=i*4) (by rw[fCs_length,HQL.out]);go_simp;clear hgf k0 k1 k2 k3;refine hK.out _ _ trivial ?_;clear hK;have HO7:=h! (Own.setForm (p := .int .i64 0) HO6.out (k:=i*4) (by rw[fCs_length,HQL.out]) (.int .i64 fx.k) (.slice a1 b1 c1) (.slice a2 b2 c2) (.slice a4 b4 c4));have B7:=h! (show Blk (World.setForm w6 g (i*4) (.int .i64 fx.k) (.slice a1 b1 c1) (.slice a2 b2 c2) (.slice a4 b4 c4)) (w2.heap.size+2) _ _ from(setForm_other _ _ _ _ _ _ _ (Ne.symm HGW.out)).trans B6.out);have hbf:∀ j,(World.setForm w6 g (i*4) (.int .i64 fx.k) (.slice a1 b1 c1) (.slice a2 b2 c2) (.slice a4 b4 c4)).frozen? ⟨w2.heap.size+2,j,none⟩=false:=B7.out.free;have hbc:=B7.out.cells;unfold World.setForm at hbf hbc;refine o! 14 ?_;refine b! ?_;intro K hK;go_simp;refine hK.out _ _ trivial ?_;clear hK hbf hbc;refine d! ?_;have ES:=h! (step_ok (ash:=w2.heap.size) (wz:=w2) (B:=w2.heap.size) (lo:=w2.heap.size+3) (w8:=(World.setForm w6 g (i*4) (.int .i64 fx.k) (.slice a1 b1 c1) (.slice a2 b2 c2) (.slice a4 b4 c4)).setCell ⟨w2.heap.size+2,5,none⟩ (.slice (some ⟨g,0,none⟩) (i+1) c6)) (v:=(.slice a1 b1 c1,.slice a2 b2 c2,.slice a4 b4 c4)) QW.out QR.out QM.out QB.out (by omega) ⟨by omega,by omega,by omega⟩ ⟨by omega,by omega⟩ QZ.out QA.out QN.out QV.out (by omega) HX3.out HS6.out HB6.out (Own.setBox HO7.out B7.out (by decide) _) (B7.out.set_to 5 _ rfl) (fun y h1 h2=>(Below.heap_setCell _ _ _ y h2).trans (setForm_other _ _ _ _ _ _ _ h1)) (by rw[show ∀ (x:World) a v,(x.setCell a v).heap.size=x.heap.size from fun x a v=>by simp,setForm_size]) ⟨rfl,rfl,rfl⟩);have EZ:=h! (show w2.heap.size+3<=((World.setForm w6 g (i*4) (.int .i64 fx.k) (.slice a1 b1 c1) (.slice a2 b2 c2) (.slice a4 b4 c4)).setCell ⟨w2.heap.size+2,5,none⟩ (.slice (some ⟨g,0,none⟩) (i+1) c6)).heap.size from by have h1:=HX3.out.size;have h2:=HS6.out.size;have h3:=QZ.out;rw[show ∀ (x:World) a v,(x.setCell a v).heap.size=x.heap.size from fun x a v=>by simp,setForm_size];omega);unfold World.setForm at ES EZ;clear HO7 B7 B6 F6 HG6 HGW HO6 HB6 HS6 HX3 QW QF QR QM QB QZ QN QV QA;have hii:=HII.out;go_wp2_with fail
        go_roundw
        case rel=>exact⟨i+1,_,pv1,_,by go_num,HA.out,by rw[HNX.out,TST.out];exact ES.out,by rw[HNX.out,TST.out,List.map_append,RQ.out];rfl,EZ.out⟩
        case measure=>have h1:=HFEW.out;have h2:=HENDL.out;simp[intOf];omega
       ·refine b! ?_;intro K hK;have hbf:=B6.out.free;have hbc:=B6.out.cells;go_simp;clear hbf hbc;refine hK.out _ _ trivial ?_;clear hK;have B7:=h! (B6.out.set_to (cs':=#[tv,bkV b,.map (some w2.heap.size),.map (some (w2.heap.size+1)),pv1,.slice (some ⟨g,0,none⟩) (i+1) c6,.int .i64 0]) 5 (.slice (some ⟨g,0,none⟩) (i+1) c6) rfl);have HO7:=h! (Own.setBox (i:=5) HO6.out B6.out (by decide) (.slice (some ⟨g,0,none⟩) (i+1) c6));have HG7:=h! (HG6.out.other (a:=⟨w2.heap.size+2,5,none⟩) HGW.out (.slice (some ⟨g,0,none⟩) (i+1) c6));have hgf:=HG7.out.free;obtain⟨k0,k1,k2,k3⟩:=four_cells HO7.out (k:=i*4) (by rw[fCs_length,HQL.out]);refine o! 10 ?_;refine b! ?_;intro K hK;go_simp;refine hK.out _ _ trivial ?_;clear hK hgf k0 k1 k2 k3;refine d! ?_;have ES:=h! (step_ok (ash:=w2.heap.size) (wz:=w2) (B:=w2.heap.size) (lo:=w2.heap.size+3) (w8:=World.setForm (w6.setCell ⟨w2.heap.size+2,5,none⟩ (.slice (some ⟨g,0,none⟩) (i+1) c6)) g (i*4) (.int .i64 fx.k) (.slice a1 b1 c1) (.slice a2 b2 c2) (.slice a4 b4 c4)) (v:=(.slice a1 b1 c1,.slice a2 b2 c2,.slice a4 b4 c4)) QW.out QR.out QM.out QB.out (by omega) ⟨by omega,by omega,by omega⟩ ⟨by omega,by omega⟩ QZ.out QA.out QN.out QV.out (by omega) HX3.out HS6.out HB6.out (Own.setForm HO7.out (k:=i*4) (by rw[fCs_length,HQL.out]) _ _ _ _) ((setForm_other _ _ _ _ _ _ _ (Ne.symm HGW.out)).trans B7.out) (fun y h1 h2=>(setForm_other _ _ _ _ _ _ _ h1).trans (Below.heap_setCell _ _ _ y h2)) (by rw[setForm_size];simp) ⟨rfl,rfl,rfl⟩);have EZ:=h! (show w2.heap.size+3<=(World.setForm (w6.setCell ⟨w2.heap.size+2,5,none⟩ (.slice (some ⟨g,0,none⟩) (i+1) c6)) g (i*4) (.int .i64 fx.k) (.slice a1 b1 c1) (.slice a2 b2 c2) (.slice a4 b4 c4)).heap.size from by have h1:=HX3.out.size;have h2:=HS6.out.size;have h3:=QZ.out;rw[setForm_size];simp;omega);unfold World.setForm at ES EZ;clear HO7 B7 HG7 B6 F6 HG6 HGW HO6 HB6 HS6 HX3 QW QF QR QM QB QZ QN QV QA;have hii:=HII.out;go_wp2_with fail
        go_roundw
        case rel=>exact⟨i+1,_,pv1,_,by go_num,HA.out,by rw[HNX.out,TST.out];exact ES.out,by rw[HNX.out,TST.out,List.map_append,RQ.out];rfl,EZ.out⟩
        case measure=>have h1:=HFEW.out;have h2:=HENDL.out;simp[intOf];omega
    ·have HE:=h! (HEND.out (by have:=HLE.out;omega));obtain⟨po,pn,pc,rfl,-,-,-⟩:=RW.out.pts.sl.len;obtain⟨fo,fn,fc,rfl,-,-,-⟩:=RR.out.row.sl.len
     have hpl:pn=(walkN ts T shut p i).1.length:=by
      have h:=RW.out.pts.sl.len;obtain⟨a1,a2,a3,h1,h2,-,-⟩:=h;cases h1;rw[pcs_length]at h2;omega
     subst hpl;have hle:=HLE.out;generalize hlen:(walkN ts T shut p i).1.length=len at *;have g2:¬ ((i:Int)<(len:Int)):=by omega
     have c1:=RW.out.box.cells;have c2:=RG.out.cells;have c3:=RG.out.free;go_wp2_with fail
     clear c1 c2 c3;have ZS:∀ y,y≠w.heap.size+2->((wr.setCell ⟨w.heap.size+2,0,none⟩ (.slice po len pc)).setCell ⟨w.heap.size+2,1,none⟩ (.slice fo fn fc)).heap[y]?=wr.heap[y]?:=fun y hy=>by rw[Below.heap_setCell _ _ _ y hy,Below.heap_setCell _ _ _ y hy]
     have XE:Ext w ((wr.setCell ⟨w.heap.size+2,0,none⟩ (.slice po len pc)).setCell ⟨w.heap.size+2,1,none⟩ (.slice fo fn fc)):=((X2.out.trans RB.out:Below w.heap.size w wr).setCell (p:=⟨w.heap.size+2,0,none⟩) (by show w.heap.size<=w.heap.size+2;omega) _).setCell (p:=⟨w.heap.size+2,1,none⟩) (by show w.heap.size<=w.heap.size+2;omega) _;have GE:=(RG.out.set_to (cs':=#[.slice po len pc,.slice none 0 0]) 0 (.slice po len pc) rfl).set_to (cs':=#[.slice po len pc,.slice fo fn fc]) 1 (.slice fo fn fc) rfl;refine bodyPost_ret (v := .tuple #[.agg #[.slice po len pc,.slice fo fn fc],.int .i64 0]) ?_ rfl ⟨XE,.inl ⟨i,.slice po len pc,.slice fo fn fc,HE.out,rfl,?_,?_⟩⟩
     ·rw[results_cell_tmp rfl];have hl:=run_loadVar_row (P:=Tryz.prog) _ (w.heap.size+2) _ 96 _ _ _ GE Tryz.underlying96 rfl (by kernel_rfl);simp[asAddr,hl,Result.andThen]
     ·exact(RW.out.pts.sl.same fun y hy=>ZS y (by have:=hy.1;have:=Z2.out;omega)).mono fun y hy=>⟨by have:=hy.1;have:=Z2.out;omega,by simpa using hy.2⟩
     ·obtain⟨q',h1,h2,h3⟩:=RR.out.forms;refine⟨q',h1.trans RQ.out,fun y hy=>((h2 y hy).same fun z hz=>ZS z (by have:=hz.1;have:=Z2.out;omega)).mono fun z hz=>⟨by have:=hz.1;have:=Z2.out;omega,by simpa using hz.2.1⟩,(h3.same fun z hz=>ZS z (by have:=hz.1;have:=Z2.out;omega)).mono fun z hz=>⟨by have:=hz.1;have:=Z2.out;omega,by simpa using hz.2.1⟩⟩
theorem subsOf_len (T:List Tup)(p:P3):(subsOf T p).length<=T.length:=by
 unfold subsOf;rw[List.length_map];exact List.length_filter_le _ _
theorem headF_refs (T:List Tup)(p:P3)(k:Int)(a b:ByteArray)(ps:List P3):(headF T p k a b ps).2.1.length<=T.length+1:=by
 unfold headF;split
 ·have h1:=refsD_len1 (setsOf (subsOf T p)) ps [];have h2:=subsOf_len T p;have h3:(setsOf (subsOf T p)).length<=(subsOf T p).length:=List.length_filter_le _ _;simp only[List.length_nil]at h1;dsimp only;omega
 ·split
  ·simp
  ·split
   ·have h1:=refsD_len1 (viaOf b (subsOf T ⟨p.t,p.i,a⟩)) ps [];have h2:=subsOf_len T ⟨p.t,p.i,a⟩;have h3:(viaOf b (subsOf T ⟨p.t,p.i,a⟩)).length<=(subsOf T ⟨p.t,p.i,a⟩).length:=by unfold viaOf;rw[List.length_map];exact List.length_filter_le _ _
    simp only[List.length_nil]at h1;dsimp only;omega
   ·simp
theorem formD_named (T:List Tup)(p:P3)(r:RT):∀ ps,(formD T p r ps).1.named.length<=r.sz*(T.length+1):=by
 induction r using RT.ind with
 | h r ih =>
  intro ps
  have:∀ (l:List RT) (qs:List P3),(∀ x∈l,x∈r.ps)->(nmdL (formsD T p l qs).1).length<=szL l*(T.length+1):=by
   intro l;induction l with
   | nil=>intro qs _;simp[formsD,nmdL]
   | cons x l ihl =>
    intro qs hx;rw[formsD,nmdL,szL,List.length_append,Nat.add_mul];have h1:=ih x (hx x (by simp)) qs;have h2:=ihl (formD T p x qs).2 fun y hy=>hx y (List.mem_cons_of_mem _ hy);omega
  have h1:=this r.ps (headF T p r.k r.a r.b ps).2.2 fun _ h=>h;have h2:=headF_refs T p r.k r.a r.b ps;rw[formD_eq];simp only;rw[FT.named_eq,List.length_append];obtain⟨k,a,b,parts⟩:=r;rw[RT.sz,Nat.add_mul];simp only[FT.refs,FT.ps,RT.k,RT.a,RT.b,RT.ps]at h1 h2 ⊢;omega
theorem walkN_named {ts:List TyS} {T:List Tup} {M:Nat} (h:∀ x∈refsOf ts,x.2.sz*(T.length+1)<=M)(shut:List R2)(p:P3):∀ n,(nmdL (walkN ts T shut p n).2).length<=n*M
 | 0=>by simp[walkN,nmdL]
 | n+1=>by
  have ih:=walkN_named h shut p n;rw[walkN];simp only;rw[nmdL_append,List.length_append,Nat.add_mul]
  have h2:(nmdL [(stepG ts T shut ((walkN ts T shut p n).1.getD n p) (walkN ts T shut p n).1).1]).length<=M:=by
   rw[nmdL,nmdL,List.append_nil];unfold stepG;split
   ·next r hr =>
    unfold ruleOf at hr;split at hr
    ·cases hr
    ·exact Nat.le_trans (formD_named T _ r _) (h _ (look_mem hr))
   ·simp[FT.zero,FT.named,nmdL]
  omega
def aC (p s:P3):Array Value:=#[.string p.t,.string p.i,.string p.r,.string s.t,.string s.i,.string s.r]
structure HasArg (ts:List TyS)(T:List Tup)(shut:List R2)(p:P3):Prop where
 ok:∀ t∈ts,t.Ok
 chk:chk06 ts=0
 bk:schB ts<=549755813888
 sz:∀ t∈ts,∀ r∈t.rels,r.2.sz<=1000000
 nms:(namesOf ts).length<=1099511627776
 rfs:(refsOf ts).length<=1099511627776
 sho:∀ r∈shut,r.Ok
 wk:WalkIn ts T shut p 1000000
 rm:∀ x∈refsOf ts,x.2.sz*(T.length+1)<=1000000
abbrev AQ:=P3 × P3
def aV (a:AQ):Value := .agg (aC a.1 a.2)
theorem aV_inj (a b:AQ)(h:aV a=aV b):a=b:=by
 obtain⟨⟨a1,a2,a3⟩,a4,a5,a6⟩:=a;obtain⟨⟨b1,b2,b3⟩,b4,b5,b6⟩:=b;simp only[aV,aC,Value.agg.injEq,Array.mk.injEq,List.cons.injEq,Value.string.injEq,and_true]at h;obtain⟨rfl,rfl,rfl,rfl,rfl,rfl⟩:=h;rfl
theorem askK:Keyed Tryz.prog 35:=Keyed.of_law (deep_law_laid laidOut (m:=4) (by decide) (of_decide_eq_true (by kernel_rfl)) (by kernel_rfl) (by kernel_rfl))
theorem ask_lits (d:Nat)(p s:P3)(h:p.Ok)(k:s.Ok):Tryz.prog.keyLits (d+1+1+1+1) 35 [.string p.t,.string p.i,.string p.r,.string s.t,.string s.i,.string s.r]=some [.string p.t.data.toList,.string p.i.data.toList,.string p.r.data.toList,.string s.t.data.toList,.string s.i.data.toList,.string s.r.data.toList]:=by
 unfold Program.keyLits;rw[Tryz.underlying35];have e1:=point_lits d p h;have e2:=sub_lits d s k;have e3:Tryz.prog.cellsOf 35=6:=by kernel_rfl
 have e4:Tryz.prog.cellsOf 32=3:=by kernel_rfl
 have e5:Tryz.prog.cellsOf 33=3:=by kernel_rfl
 simp[e1,e2,e3,e4,e5]
theorem ask_key (a:AQ)(h:a.1.Ok)(k:a.2.Ok):∃ q,keyOf Tryz.prog 35 (aV a)=some q:=by
 obtain⟨d,hd⟩:=types_many4;have e:=ask_lits (d+1) a.1 a.2 h k;have e2:(Tryz.prog.keyType 35&&(aV a).formed Tryz.prog 35)=true:=by kernel_rfl
 have hs:Tryz.prog.types.size+1=d+1+1+1+1+1:=by omega
 unfold keyOf;rw[Tryz.underlying35];dsimp only;rw[if_pos e2,hs];rw[show(aV a).cells.toList=[.string a.1.t,.string a.1.i,.string a.1.r,.string a.2.t,.string a.2.i,.string a.2.r]from rfl,e];exact⟨_,rfl⟩
end Go.Proofs.YtlhaghoajpglaaaGreat
namespace Go.Proofs.YtlhaghoajpglaaaGreat
open Go Go.RowKit
section
variable {fs : List FT} {s : P3} {n : Nat}
theorem inAt_mono {l m:List Bool} (h:∀ i,l.getD i false=true->m.getD i false=true)(k:Int)(hk:inAt l k=true):inAt m k=true:=by
 unfold inAt at *;rw[Bool.and_eq_true]at *;exact⟨hk.1,h _ hk.2⟩
theorem below_fix {l m:List Bool} (h:∀ i,l.getD i false=true->m.getD i false=true) {i:Nat} (hm:newS fs s m i=false)(hi:i<m.length) {f:FT} (hf:fs[i]?=some f)(hh:holdF s l f=true):m.getD i false=true:=by
 have h1:=holdF_mono s (fun k hk=>inAt_mono h k hk) f hh;unfold newS at hm;rw[hf]at hm;dsimp only at hm;rw[h1,Bool.and_true,Bool.not_eq_false']at hm;rw[<- getD_ft hi];exact hm
theorem rounds_below {l:List Bool} (hl:l.length=n)(hc:∀ i,i<n->newS fs s l i=false):∀ (r i:Nat),(inN fs s n r).getD i false=true->l.getD i false=true
 | 0,i,h=>by rw[inN_zero]at h;cases h
 | r+1,i,h=>by
  by_cases hi:i<n
  ·rw[inN_succ hi,Bool.or_eq_true]at h;rcases h with h | h
   ·exact rounds_below hl hc r i h
   ·unfold newS at h;rw[Bool.and_eq_true]at h;obtain⟨-,h⟩:=h;split at h
    ·next f hf=>exact below_fix (fun j hj=>rounds_below hl hc r j hj) (hc i hi) (by omega) hf h
    ·cases h
  ·rw[List.getD_eq_getElem?_getD,List.getElem?_eq_none (by rw[inN_length];omega)]at h;cases h
end
structure Stp where
 p:P3
 r:RT
 s:P3
 b:List Int
theorem nodup_at {α:Type} {l:List α} (h:l.Nodup) {i j:Nat} {a:α} (hi:l[i]?=some a)(hj:l[j]?=some a):i=j:=by
 obtain⟨h1,h2⟩:=List.getElem?_eq_some_iff.1 hi;obtain⟨h3,h4⟩:=List.getElem?_eq_some_iff.1 hj;rcases Nat.lt_trichotomy i j with hlt | e | hlt
 ·exact absurd (h2.trans h4.symm) (List.pairwise_iff_getElem.1 h i j h1 h3 hlt)
 ·exact e
 ·exact absurd (h4.trans h2.symm) (List.pairwise_iff_getElem.1 h j i h3 h1 hlt)
section
variable {ts : List TyS} {T : List Tup} {shut : List R2} {sub : P3} {P : List P3} {out : List Stp} {names : List ((Nat × RT) × Nat)} {wait more : List Nat}
end
theorem numD_pl {P:List P3} (hP:P.Nodup) {i:Nat} {q:P3} (h:P[i]?=some q):numD P q=i:=by
 obtain⟨h1,h2⟩:=numD_of_mem (List.mem_of_getElem? h);exact nodup_at hP (by rw[List.getElem?_eq_getElem h1,h2]) h
theorem WalkEnd.den_at {ts:List TyS} {T:List Tup} {shut:List R2} {p:P3} {most:Int} {n:Nat} (h:WalkEnd ts T shut p most n)(hP:(walkN ts T shut p n).1.Nodup)(s:P3) {i:Nat} {q:P3} (hq:(walkN ts T shut p n).1[i]?=some q) :
  Den ts T shut s q↔0<(solveR (walkN ts T shut p n).2 s n).getD i 0:=by
 have hi:i<n:=by
  have:=(List.getElem?_eq_some_iff.1 hq).1;rw[<- h.2]at this;exact this
 have hn:=numD_pl hP hq
 have key:∀ r,DenN ts T shut s r q↔(inN (walkN ts T shut p n).2 s n r).getD i false=true:=fun r=>by
  have:=h.den s r q (List.mem_of_getElem? hq);rw[this,hn];unfold inAt;rw[Int.toNat_natCast];simp
 rw[<- (endS_n (walkN ts T shut p n).2 s n).solve,<- (outN_pos n hi).2.2];constructor
 ·rintro⟨r,hr⟩;exact rounds_below (inN_length n) (endS_n (walkN ts T shut p n).2 s n) r i ((key r).1 hr)
 ·exact fun hr=>⟨n,(key n).2 hr⟩
end Go.Proofs.YtlhaghoajpglaaaGreat
namespace Go.Proofs.YtlhaghoajpglaaaGreat
open Go Go.RowKit Go.Maps
abbrev zF4:Array Value:=#[.int .i64 0,.slice none 0 0,.slice none 0 0,.slice none 0 0]
structure FrmI (wb w w':World)(gp B:Nat)(pv fv:Value)(pb:Array Value)(k:Int)(rb:Array Value)(ps:List P3)(subs:List P3)(refs:List Int)(q:List (FT × FV3))(sv rv qv pv':Value):Prop where
 fm:FmAt w' (w.heap.size+4) (w.heap.size+3) k subs refs q sv rv qv
 gk:GkAt w' gp B ps pv' fv
 pb:Blk w' w.heap.size pb 32
 rb:Blk w' (w.heap.size+1) rb 106
 ob:Blk w' (w.heap.size+2) zF4 128
 fn:Fine gp gp w w' pv pv'
 be:Below B wb w'
 wh:∀ g,pv'.ownBlock=some g->pv.ownBlock=some g\/w.heap.size+4<=g
 sz:w.heap.size+4<=w'.heap.size
 p0:∀ g,pv.ownBlock=some g->g<w.heap.size
 g0:B<=gp/\gp<w.heap.size
section
variable {wb w w' w2 w3 w4 : World} {gp B : Nat} {pv fv sv rv qv pv' pv2 : Value} {pb rb : Array Value} {k : Int} {ps ps2 subs : List P3} {refs : List Int} {q : List (FT × FV3)}
theorem FrmI.ext (h:FrmI wb w w' gp B pv fv pb k rb ps subs refs q sv rv qv pv')(hx:Ext w' w2):FrmI wb w w2 gp B pv fv pb k rb ps subs refs q sv rv qv pv' :=
 ⟨h.fm.ext hx,h.gk.ext hx,h.pb.below hx,h.rb.below hx,h.ob.below hx,h.fn.trans (Fine.of _ _ _ hx),h.be.trans (hx.mono (by have:=h.sz;have:=h.g0;omega)),h.wh,Nat.le_trans h.sz hx.size,h.p0,h.g0⟩
theorem FrmI.num (h:FrmI wb w w' gp B pv fv pb k rb ps subs refs q sv rv qv pv')(hf:Fine gp gp w' w2 pv' pv2)(hg:GkAt w2 gp B ps2 pv2 fv):FrmI wb w w2 gp B pv fv pb k rb ps2 subs refs q sv rv qv pv2 :=
 have hne:∀ x,w.heap.size<=x->x<w.heap.size+4->pv'.ownBlock≠some x:=fun x h1 h2 e=>by
  rcases h.wh x e with e2 | e2
  ·have:=h.p0 x e2;omega
  ·omega
 have hgp:=h.g0.2
 ⟨h.fm.gfine h.gk hf h.g0.1 (by omega),hg,(hf.kept.block _ ⟨h.pb.lt,by omega,by omega,hne _ (by omega) (by omega)⟩).trans h.pb,hf.gblk h.gk h.rb (by decide) (by decide),hf.gblk h.gk h.ob (by decide) (by decide),h.fn.trans hf,h.be.trans (hf.gpk h.gk h.g0.1).below,fun g hg=>by
  rcases hf.wher g hg with e | e
  ·exact h.wh g e
  ·exact .inr (Nat.le_trans h.sz e),Nat.le_trans h.sz hf.size,h.p0,h.g0⟩
theorem FrmI.cell {i:Nat} {u:Value} {q2:List (FT × FV3)} {subs2:List P3} {refs2:List Int} {sv2 rv2 qv2:Value} (h:FrmI wb w w' gp B pv fv pb k rb ps subs refs q sv rv qv pv')(hfm:FmAt (w'.setCell ⟨w.heap.size+3,i,none⟩ u) (w.heap.size+4) (w.heap.size+3) k subs2 refs2 q2 sv2 rv2 qv2):FrmI wb w (w'.setCell ⟨w.heap.size+3,i,none⟩ u) gp B pv fv pb k rb ps subs2 refs2 q2 sv2 rv2 qv2 pv' :=
 ⟨hfm,h.gk.setBox h.fm.box (by decide) (by decide) u,h.pb.other (a:=⟨w.heap.size+3,i,none⟩) (by show w.heap.size≠w.heap.size+3;omega) u,h.rb.other (a:=⟨w.heap.size+3,i,none⟩) (by show w.heap.size+1≠w.heap.size+3;omega) u,h.ob.other (a:=⟨w.heap.size+3,i,none⟩) (by show w.heap.size+2≠w.heap.size+3;omega) u,h.fn.set (by omega) u,h.be.setCell (by have:=h.g0;show B<=w.heap.size+3;omega) u,h.wh,by simpa using h.sz,h.p0,h.g0⟩
theorem FrmI.setSubs {s2:List P3} {sv':Value} (h:FrmI wb w w' gp B pv fv pb k rb ps subs refs q sv rv qv pv')(hs:Own w' (w.heap.size+4) 33 3 sv' (pcs s2)):FrmI wb w (w'.setCell ⟨w.heap.size+3,1,none⟩ sv') gp B pv fv pb k rb ps s2 refs q sv' rv qv pv':=h.cell (h.fm.setSubs hs (by omega))
theorem FrmI.setRefs {r2:List Int} {rv':Value} (h:FrmI wb w w' gp B pv fv pb k rb ps subs refs q sv rv qv pv')(hs:Own w' (w.heap.size+4) 3 1 rv' (ic r2)):FrmI wb w (w'.setCell ⟨w.heap.size+3,2,none⟩ rv') gp B pv fv pb k rb ps subs r2 q sv rv' qv pv':=h.cell (h.fm.setRefs hs (by omega))
theorem FrmI.keep (h:FrmI wb w w' gp B pv fv pb k rb ps subs refs [] sv rv (.slice none 0 0) pv')(hk:Kept (fun b=>b<w'.heap.size/\rv.ownBlock≠some b) w' w2) {rv2:Value} {refs2:List Int} (ho:Own w2 (w.heap.size+4) 3 1 rv2 (ic refs2)):FrmI wb w (w2.setCell ⟨w.heap.size+3,2,none⟩ rv2) gp B pv fv pb k rb ps subs refs2 [] sv rv2 (.slice none 0 0) pv':=by
 have nt:∀ {x:Nat} {cs:Array Value} {t:TypeId} {fr:Nat × Nat},w'.heap[x]?=some (.cells cs t fr)->t≠3->w2.heap[x]?=w'.heap[x]?:=fun {x cs t fr} hx ht=>hk.block x ⟨(Array.getElem?_eq_some_iff.1 hx).1,fun e=>by
  obtain⟨c2,h2⟩:=h.fm.refs.typed e;rw[hx]at h2;exact ht (by injection Option.some.inj h2)⟩
 have bk:∀ {x:Nat} {cs:Array Value} {t:TypeId},Blk w' x cs t->t≠3->Blk w2 x cs t:=fun {x cs t} hx ht=>(nt hx ht).trans hx
 have ow:∀ {B:Nat} {t:TypeId} {sz:Nat} {v:Value} {xs:List Value},Own w' B t sz v xs->t≠3->Own w2 B t sz v xs:=fun {B t sz v xs} hx ht=>hx.keepOwn fun g hg=>by
  obtain⟨c2,h2⟩:=hx.typed hg;exact nt h2 ht
 have hlow:∀ x,x<w.heap.size+4->w2.heap[x]?=w'.heap[x]?:=fun x hx=>hk.block x ⟨by have:=h.sz;omega,fun e=>by have:=(h.fm.refs.block x e).1;omega⟩;have hb:Blk w2 (w.heap.size+3) #[.int .i64 k,sv,rv,.slice none 0 0] 128:=bk h.fm.box (by decide);have hg2:GkAt w2 gp B ps pv' fv:=⟨bk h.gk.box (by decide),ow h.gk.pts (by decide)⟩
 refine⟨⟨hb.set_to 2 rv2 rfl,(ow h.fm.subs (by decide)).setBox (x:=w.heap.size+3) hb (by decide) _,ho.setBox (x:=w.heap.size+3) hb (by decide) _,FRow.nil _ _⟩,hg2.setBox hb (by decide) (by decide) _,(bk h.pb (by decide)).other (a:=⟨w.heap.size+3,2,none⟩) (by show w.heap.size≠w.heap.size+3;omega) _,(bk h.rb (by decide)).other (a:=⟨w.heap.size+3,2,none⟩) (by show w.heap.size+1≠w.heap.size+3;omega) _,(bk h.ob (by decide)).other (a:=⟨w.heap.size+3,2,none⟩) (by show w.heap.size+2≠w.heap.size+3;omega) _,
  Fine.set ⟨h.fn.kept.trans (hk.mono fun x (hx:KX gp gp w pv x)=>⟨by have:=h.sz;have:=hx.1;omega,fun e=>by have:=(h.fm.refs.block x e).1;have:=hx.1;omega⟩),h.fn.wher⟩ (by omega) _,Below.setCell (h.be.trans ⟨hk.os,hk.tape,hk.output,hk.size,fun x hx=>hlow x (by have:=h.g0;omega)⟩) (by have:=h.g0;show B<=w.heap.size+3;omega) _,h.wh,by simpa using Nat.le_trans h.sz hk.size,h.p0,h.g0⟩
theorem FrmI.bx (h:FrmI wb w w' gp B pv fv pb k rb ps subs refs q sv rv qv pv')(hk:Kept (fun b=>b<w'.heap.size/\rv.ownBlock≠some b) w' w2):Blk w2 (w.heap.size+3) #[.int .i64 k,sv,rv,qv] 128:=hk.blk h.fm.box ⟨h.fm.box.lt,fun e=>by have:=(h.fm.refs.block _ e).1;omega⟩
theorem FrmI.bg (h:FrmI wb w w' gp B pv fv pb k rb ps subs refs q sv rv qv pv')(hg:w'.grownBy w2 qv.ownBlock):Blk w2 (w.heap.size+3) #[.int .i64 k,sv,rv,qv] 128:=(hg.block _ h.fm.box.lt fun e=>by have:=(h.fm.parts.row.block _ e.symm).1;omega).trans h.fm.box
theorem FrmI.part {y:FT × FV3} {v':Value} {n0:Nat} (h:FrmI wb w w2 gp B pv fv pb k rb ps subs refs q sv rv qv pv')(hx3:Ext w2 w3)(hg:w3.grownBy w4 qv.ownBlock)(ho:Own w4 (w.heap.size+4) 128 4 v' (q.flatMap fC++fC y))
  (hb:∀ g,v'.ownBlock=some g->qv.ownBlock=some g\/w3.heap.size<=g) (hy:FTAt (FS n0 w2) w2 y.1 y.2) (hn0:w.heap.size+4<=n0) (hpv:∀ g,qv.ownBlock=some g->g<n0):FrmI wb w (w4.setCell ⟨w.heap.size+3,3,none⟩ v') gp B pv fv pb k rb ps subs refs (q++[y]) sv rv v' pv':=by
 have h3:=h.ext hx3;have hq:=h3.fm.parts.row;have hlow:∀ x,x<w.heap.size+4->w4.heap[x]?=w3.heap[x]?:=fun x hx=>hg.block x (by have:=h3.sz;omega) fun e=>by have:=(hq.block x e.symm).1;omega
 have hbox:Blk w4 (w.heap.size+3) _ _:=(hlow _ (by omega)).trans h3.fm.box
 refine⟨h.fm.add hx3 hg ho hb hy hn0 hpv (by omega),(h3.gk.grown hq (by decide) (by decide) hg).setBox hbox (by decide) (by decide) _,Blk.other (show Blk w4 _ _ _ from(hlow _ (by omega)).trans h3.pb) (a:=⟨w.heap.size+3,3,none⟩) (by show w.heap.size≠w.heap.size+3;omega) _,Blk.other (show Blk w4 _ _ _ from(hlow _ (by omega)).trans h3.rb) (a:=⟨w.heap.size+3,3,none⟩) (by show w.heap.size+1≠w.heap.size+3;omega) _,Blk.other (show Blk w4 _ _ _ from(hlow _ (by omega)).trans h3.ob) (a:=⟨w.heap.size+3,3,none⟩) (by show w.heap.size+2≠w.heap.size+3;omega) _,
  Fine.set ⟨h3.fn.kept.trans ⟨hg.os,hg.tape,hg.output,hg.size,fun x (hx:KX gp gp w pv x)=>hlow x (by have:=hx.1;omega)⟩,h3.fn.wher⟩ (by omega) _,Below.setCell (h3.be.trans ⟨hg.os,hg.tape,hg.output,hg.size,fun x hx=>hlow x (by have:=h.g0;omega)⟩) (by have:=h.g0;show B<=w.heap.size+3;omega) _,h.wh,by simpa using Nat.le_trans h3.sz hg.size,h.p0,h.g0⟩
end
end Go.Proofs.YtlhaghoajpglaaaGreat
