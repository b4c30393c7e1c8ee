/- Lemmas for the claim, no condition. -/
import Derived.Laws.EntriesVeiled
import Derived.Shelf.SortM.Plain
import Derived.Shelf.SortM.SortNone
import Derived.Lib.SliceRun
import Derived.Shelf.SlGeneric
import Derived.Ground.SlgmProg
import Derived.Test.YtlhaghoajpglaaaGreatProg
import Derived.RangeFuncGives
import Derived.RangeFuncNested
import Derived.WalkKit
import Derived.TacticsInMore
import Derived.RegionIn
import Derived.LoopNIn
import Derived.LoopIn
import Derived.Sort.KeysCollected
import Derived.RangeFuncLeaves
import Derived.OwnWalkIn
import Derived.Test.YtlhaghoajpglaaaGreatYXMean12
import Derived.Test.YtlhaghoajpglaaaGreatYXMean10
import Derived.Test.YtlhaghoajpglaaaGreatYXMean0
import Derived.Test.YtlhaghoajpglaaaGreatYXMean3
import Derived.Test.YtlhaghoajpglaaaGreatYXMean5
import Derived.Test.YtlhaghoajpglaaaGreatYXMean2
import Derived.Test.YtlhaghoajpglaaaGreatYXMean7
import Derived.Test.YtlhaghoajpglaaaGreatYXMean1
import Derived.Test.YtlhaghoajpglaaaGreatYXMean4
import Derived.Test.YtlhaghoajpglaaaGreatYXMean11
import Derived.Test.YtlhaghoajpglaaaGreatYXMean9
set_option maxRecDepth 100000
set_option maxHeartbeats 2000000
namespace Go.Proofs.YtlhaghoajpglaaaGreat
open Go Go.RowKit Go.Maps
def aC (p s:P3):Array Value:=#[.string p.t,.string p.i,.string p.r,.string s.t,.string s.i,.string s.r]
structure HasArg (ts:List TyS)(T:List Tup)(shut:List R2)(p:P3):Prop where
 ok:∀ t∈ts,t.Ok
 chk:chk06 ts=0
 bk:schB ts<=549755813888
 sz:∀ t∈ts,∀ r∈t.rels,r.2.sz<=1000000
 nms:(namesOf ts).length<=1099511627776
 rfs:(refsOf ts).length<=1099511627776
 sho:∀ r∈shut,r.Ok
 wk:WalkIn ts T shut p 1000000
 rm:∀ x∈refsOf ts,x.2.sz*(T.length+1)<=1000000
theorem Below.put6 {B:Nat} {w W:World} {x:Nat} (h:Below B w W)(hx:B<=x)(x0 x1 x2 x3 x4 x5:Value):Below B w ((((((W.setCell ⟨x,0,none⟩ x0).setCell ⟨x,1,none⟩ x1).setCell ⟨x,2,none⟩ x2).setCell ⟨x,3,none⟩ x3).setCell ⟨x,4,none⟩ x4).setCell ⟨x,5,none⟩ x5) :=
 Below.setCell (Below.setCell (Below.setCell (Below.setCell (Below.setCell (Below.setCell h (p:=⟨x,0,none⟩) hx _) (p:=⟨x,1,none⟩) hx _) (p:=⟨x,2,none⟩) hx _) (p:=⟨x,3,none⟩) hx _) (p:=⟨x,4,none⟩) hx _) (p:=⟨x,5,none⟩) hx _
theorem Ext.put6 {w W:World} {x:Nat} (h:Ext w W)(hx:w.heap.size<=x)(x0 x1 x2 x3 x4 x5:Value):Ext w ((((((W.setCell ⟨x,0,none⟩ x0).setCell ⟨x,1,none⟩ x1).setCell ⟨x,2,none⟩ x2).setCell ⟨x,3,none⟩ x3).setCell ⟨x,4,none⟩ x4).setCell ⟨x,5,none⟩ x5):=Below.put6 h hx _ _ _ _ _ _
def cutW (w:World)(n:Nat):World := {w with heap:=w.heap.extract 0 n}
theorem cutW_size {w:World} {n:Nat} (h:n<=w.heap.size):(cutW w n).heap.size=n:=by simp[cutW];omega
theorem cutW_at {w:World} {n b:Nat} (h:n<=w.heap.size)(hb:b<n):w.heap[b]?=(cutW w n).heap[b]?:=by
 simp only[cutW,Array.getElem?_extract,Nat.sub_zero,Nat.zero_add];rw[if_pos (by omega)]
theorem cutW_ext {w:World} {n:Nat} (h:n<=w.heap.size):Ext (cutW w n) w:=⟨rfl,rfl,rfl,by rw[cutW_size h];exact h,fun b hb=>cutW_at h (by rwa[cutW_size h]at hb)⟩
theorem treeNil_any (ts:List TyS)(tv sv:Value)(p:P3)(dv:Value)(most:Int)(w:World)(h:TysAt (· < w.heap.size) w ts tv)(hok:∀ t∈ts,t.Ok)(hc:chk06 ts=0)(hsB:schB ts<=549755813888)(hsz:∀ t∈ts,∀ r∈t.rels,r.2.sz<=1000000)(hln:(namesOf ts).length<=1099511627776)(hlr:(refsOf ts).length<=1099511627776) :
  Calls Tryz.prog 19 #[.agg #[tv],.nilIface,sv,pV p,dv,.int .i64 most] w fun e w'=>Ext w w'/\e = .returned (.tuple #[.agg #[.int .i64 0,.string ⟨#[]⟩,.string ⟨#[]⟩,.string ⟨#[]⟩,.slice none 0 0,.slice none 0 0],.int .i64 1]):=by
 obtain⟨ao,c,rfl,-⟩:=h.rows;obtain⟨pt,pi,pr⟩:=p;obtain⟨wa,hwa⟩:∃ x,x=w.alloc (.cells #[.slice ao ts.length c] 26):=⟨_,rfl⟩;obtain⟨wb,hwb⟩:∃ x,x=wa.alloc (.cells #[.string pt,.string pi,.string pr] 32):=⟨_,rfl⟩;obtain⟨wc,hwc⟩:∃ x,x=wb.alloc (.cells #[.int .i64 0,.string ⟨#[]⟩,.string ⟨#[]⟩,.string ⟨#[]⟩,.slice none 0 0,.slice none 0 0] 45):=⟨_,rfl⟩;have ea:wa.heap.size=w.heap.size+1:=by rw[hwa];simp
 have eb:wb.heap.size=w.heap.size+2:=by rw[hwb];simp[ea]
 have ec:wc.heap.size=w.heap.size+3:=by rw[hwc];simp[eb]
 have xa:Ext w wa:=by rw[hwa];exact Ext.alloc _ _
 have xb:Ext wa wb:=by rw[hwb];exact Ext.alloc _ _
 have xc:Ext wb wc:=by rw[hwc];exact Ext.alloc _ _
 have XC:=h! (show Ext w wc from xa.trans (xb.trans xc));have CZ:=h! ec;have CS:=h! (show Blk wc w.heap.size #[.slice ao ts.length c] 26 from Blk.below (by rw[hwa];exact Blk.made _ _ _) (xb.trans xc));have CP:=h! (show Blk wc (w.heap.size+1) #[.string pt,.string pi,.string pr] 32 from Blk.below (by rw[hwb,<- ea];exact Blk.made _ _ _) xc);have CG:=h! (show Blk wc (w.heap.size+2) #[.int .i64 0,.string ⟨#[]⟩,.string ⟨#[]⟩,.string ⟨#[]⟩,.slice none 0 0,.slice none 0 0] 45 from by rw[hwc,<- eb];exact Blk.made _ _ _);have CT:=h! (h.up XC.out)
 have HCK:=h! (show Calls Tryz.prog 74 #[.agg #[.slice ao ts.length c]] wc fun e w'=>e = .returned (.int .i64 0)/\Below wc.heap.size wc w' from by
  have h1:=checkP_any ts (.slice ao ts.length c) wc CT.out hok hsB hsz hln hlr;rw[hc]at h1;exact h1)
 clear h hok hc hsB hsz hln hlr ea eb ec xa xb xc;subst hwc hwb hwa;have cs0:=CS.out.cells;unfold pV;go_enter Tryz.func19,Tryz.ntmps19
 go_wp2_with fail
 refine HCK.out.mono ?_;rintro e w2 ⟨rfl,hx2⟩;have X2:=h! (show Ext w w2 from XC.out.trans hx2);have G2:=h! (CG.out.below hx2);have cg:=G2.out.cells;have cf:=G2.out.free;clear cs0 HCK hx2 XC CZ CS CG CT;go_wp2_with fail
 clear cg cf;refine bodyPost_ret (v := .tuple #[.agg #[.int .i64 0,.string ⟨#[]⟩,.string ⟨#[]⟩,.string ⟨#[]⟩,.slice none 0 0,.slice none 0 0],.int .i64 1]) ?_ rfl ⟨X2.out.put6 (by omega) _ _ _ _ _ _,rfl⟩;rw[results_cell_tmp rfl];have hl:=run_loadVar_row (P:=Tryz.prog) _ (w.heap.size+2) _ 45 _ _ _ (G2.out.setN6 (.int .i64 0) (.string ⟨#[]⟩) (.string ⟨#[]⟩) (.string ⟨#[]⟩) (.slice none 0 0) (.slice none 0 0)) Tryz.underlying45 rfl (by kernel_rfl);simp[asAddr,hl,Result.andThen]
theorem tree_any (ts:List TyS)(tv:Value)(b:Nat)(T:List Tup)(shut:List R2)(sv:Value)(p:P3)(d:Nat)(most:Int)(w:World)(h:TysAt (· < w.heap.size) w ts tv)(hok:∀ t∈ts,t.Ok)(hc:chk06 ts=0)(hsB:schB ts<=549755813888)(hsz:∀ t∈ts,∀ r∈t.rels,r.2.sz<=1000000)(hln:(namesOf ts).length<=1099511627776)(hlr:(refsOf ts).length<=1099511627776)
  (hbk:BookAt w b T) (hsv:Sl (· < w.heap.size) w 2 sv (shut.flatMap r2C)) (hso:∀ r∈shut,r.Ok) (hp:p.Ok) (hsub:∀ t∈T,t.s.Ok) (hnd:T.Nodup) (hT:T.length<=1000000) (hrs:∀ x∈refsOf ts,x.2.Ok) (hd:d<=8) (hm:most<=1000000) :
  Calls Tryz.prog 19 #[.agg #[tv],bkV b,sv,pV p,.int .i64 d,.int .i64 most] w fun e w'=>Ext w w'/\((((treeE ts T shut d p).sz:Int)<=most/\∃ a b:Value,e = .returned (.tuple #[nV2 (treeE ts T shut d p) (a,b),.int .i64 0])/\NtAt (NS w.heap.size w') w' (treeE ts T shut d p) (a,b)) \/
   (most<((treeE ts T shut d p).sz:Int)/\e = .returned (.tuple #[.agg #[.int .i64 0,.string ⟨#[]⟩,.string ⟨#[]⟩,.string ⟨#[]⟩,.slice none 0 0,.slice none 0 0],.int .i64 10]))):=by
 obtain⟨ao,c,rfl,-⟩:=h.rows;obtain⟨so,sc,rfl,hs1,hs2,-⟩:=Sl.rows r2C_length (by decide) hsv;have HSH:=h! (show shut.length<=9223372036854775807 from by omega);have HOKT:=h! hok;have HLR:=h! hlr;have HU:=h! (chk_uniq hc);have HSO:=h! hso;have HPO:=h! hp;have HRS:=h! hrs;have HTS:=h! (And.intro hsub (And.intro hnd hT));have HD:=h! hd;have HM:=h! hm;generalize hte:treeE ts T shut d p=te;have HTE:=h! hte;clear hte;obtain⟨pt,pi,pr⟩:=p;obtain⟨wa,hwa⟩:∃ x,x=w.alloc (.cells #[.slice ao ts.length c] 26):=⟨_,rfl⟩;obtain⟨wb,hwb⟩:∃ x,x=wa.alloc (.cells #[.string pt,.string pi,.string pr] 32):=⟨_,rfl⟩;obtain⟨wc,hwc⟩:∃ x,x=wb.alloc (.cells #[.int .i64 0,.string ⟨#[]⟩,.string ⟨#[]⟩,.string ⟨#[]⟩,.slice none 0 0,.slice none 0 0] 45):=⟨_,rfl⟩;have ea:wa.heap.size=w.heap.size+1:=by rw[hwa];simp
 have eb:wb.heap.size=w.heap.size+2:=by rw[hwb];simp[ea]
 have ec:wc.heap.size=w.heap.size+3:=by rw[hwc];simp[eb]
 have xa:Ext w wa:=by rw[hwa];exact Ext.alloc _ _
 have xb:Ext wa wb:=by rw[hwb];exact Ext.alloc _ _
 have xc:Ext wb wc:=by rw[hwc];exact Ext.alloc _ _
 have XC:=h! (show Ext w wc from xa.trans (xb.trans xc));have CZ:=h! ec;have CS:=h! (show Blk wc w.heap.size #[.slice ao ts.length c] 26 from Blk.below (by rw[hwa];exact Blk.made _ _ _) (xb.trans xc));have CP:=h! (show Blk wc (w.heap.size+1) #[.string pt,.string pi,.string pr] 32 from Blk.below (by rw[hwb,<- ea];exact Blk.made _ _ _) xc);have CG:=h! (show Blk wc (w.heap.size+2) #[.int .i64 0,.string ⟨#[]⟩,.string ⟨#[]⟩,.string ⟨#[]⟩,.slice none 0 0,.slice none 0 0] 45 from by rw[hwc,<- eb];exact Blk.made _ _ _);have CT:=h! (h.up XC.out)
 have HCK:=h! (show Calls Tryz.prog 74 #[.agg #[.slice ao ts.length c]] wc fun e w'=>e = .returned (.int .i64 0)/\Below wc.heap.size wc w' from by
  have h1:=checkP_any ts (.slice ao ts.length c) wc CT.out hok hsB hsz hln hlr;rw[hc]at h1;exact h1)
 have CK:=h! (hbk.ext XC.out);have CV:=h! ((hsv.same (Same.below XC.out)).mono (T:=fun x=>x<wc.heap.size) fun x hx=>Nat.lt_of_lt_of_le hx XC.out.size);have hd1:¬ ((d:Int)<0):=by omega
 have hd2:¬ ((d:Int) > 8):=by omega
 clear h hok hc hsB hsz hln hlr hbk hsv hso hp hsub hnd hT hrs hd hm ea eb ec xa xb xc hs1 hs2;subst hwc hwb hwa;have cs0:=CS.out.cells;unfold pV;have hq:∀ W,(binOp BinOp.eql 139 (bkV b) .nilIface).run Tryz.prog W = .ok (.bool false) W:=fun _=>by kernel_rfl
 go_enter Tryz.func19,Tryz.ntmps19
 go_wp2_with fail
 refine HCK.out.mono ?_;rintro e w2 ⟨rfl,hx2⟩;have X2:=h! (show Ext w w2 from XC.out.trans hx2);have Z2:=h! (show w.heap.size+3<=w2.heap.size from by have:=CZ.out;have:=hx2.size;omega);have S2:=h! (CS.out.below hx2);have P2:=h! (CP.out.below hx2);have G2:=h! (CG.out.below hx2);have T2:=h! (CT.out.up hx2);have K2:=h! (CK.out.ext hx2);have V2:=h! ((CV.out.same (Same.below hx2)).mono (T:=fun x=>x<w2.heap.size) fun x hx=>Nat.lt_of_lt_of_le hx hx2.size);clear cs0 HCK hx2 XC CZ CS CP CG CT CK CV;obtain⟨w3,hw3⟩:∃ x,x=w2.alloc (.map #[] 0):=⟨_,rfl⟩;obtain⟨w5,hw5⟩:∃ x,x=w3.alloc (.cells #[.slice ao ts.length c,bkV b,.map (some w2.heap.size),.int .i64 (max most 0),.int .i64 0] 143):=⟨_,rfl⟩;have e3:w3.heap.size=w2.heap.size+1:=by rw[hw3];simp
 have e5:w5.heap.size=w2.heap.size+2:=by rw[hw5];simp[e3]
 have x3:Ext w2 w3:=by rw[hw3];exact Ext.alloc _ _
 have x5:Ext w3 w5:=by rw[hw5];exact Ext.alloc _ _
 have X5:=h! (show Below w2.heap.size w2 w5 from x3.trans x5);have Z5:=h! e5;have M5:=h! (show Mp Tryz.prog 121 r2V bV w5 w2.heap.size (shutM [])from Mp.below (by rw[hw3];exact Mp.made _) x5);have W5:=h! (show Blk w5 (w2.heap.size+1) (BdC (.slice ao ts.length c) (bkV b) (.map (some w2.heap.size)) (max most 0) 0) 143 from by rw[hw5,<- e3];exact Blk.made _ _ _);clear e3 e5 x3 x5;have hmm:=@run_makeMap Tryz.prog;have cs2:=S2.out.cells;subst hw5 hw3;go_wp2_with fail
 clear cs2 hmm hq hd1 hd2;obtain⟨w5,hw5⟩:∃ x,x=(w2.alloc (.map #[] 0)).alloc (.cells #[.slice ao ts.length c,bkV b,.map (some w2.heap.size),.int .i64 (max most 0),.int .i64 0] 143):=⟨_,rfl⟩;rw[<- hw5]at X5 Z5 M5 W5 ⊢;clear hw5;go_loopw [45] (fun iv wr=>∃ i:Nat,i<=shut.length/\iv = .int .i64 i/\Blk wr (w2.heap.size+1) (BdC (.slice ao ts.length c) (bkV b) (.map (some w2.heap.size)) (max most 0) 0) 143/\Mp Tryz.prog 121 r2V bV wr w2.heap.size (shutM (shut.take i))/\Below w2.heap.size w2 wr/\w2.heap.size+2<=wr.heap.size) (fun iv _=>shut.length-(intOf iv).toNat)
 case atStart=>exact⟨0,Nat.zero_le _,rfl,W5.out,M5.out,X5.out,Nat.le_of_eq Z5.out.symm⟩
 case round =>
  obtain⟨i,hi,rfl,hwk,hmp,hbl,hzz⟩:=hrel;have RW:=h! hwk;have RM:=h! hmp;have RB:=h! hbl;have RZ:=h! hzz;clear W5 M5 X5 Z5 hwk hmp hbl hzz;by_cases hlt:i<shut.length
  ·obtain⟨ao',c',he',-,-,hcell⟩:=Sl.rows r2C_length (by decide) (V2.out.same (w':=wr) fun x hx=>RB.out.block x hx);cases he';obtain⟨bq,oq,rfl,-,hcell⟩:=hcell (by omega);have d0:wr.cell? ⟨bq,oq+i*2,none⟩=some (.string shut[i].t):=hcell i hlt 0 _ rfl;have d1:wr.cell? ⟨bq,oq+i*2+1,none⟩=some (.string shut[i].r):=hcell i hlt 1 _ rfl;have HTK:=h! (shut_take hlt);have HOR:=h! (HSO.out shut[i] (List.getElem_mem hlt));generalize shut[i]=r at *;have HLT:=h! hlt;obtain⟨rt,rr⟩:=r;dsimp only at d0 d1;clear hcell hi hlt;have hlt2:(i:Int)<(shut.length:Int):=by have:=HLT.out;omega
   go_wp2_with fail
   clear d0 d1 hlt2;obtain⟨wd,hwd⟩:∃ wd,wd=(wr.alloc (.cells #[.string rt,.string rr] 121)).drew:=⟨_,rfl⟩;have DX:=h! (show Ext wr wd from by rw[hwd];exact(Ext.alloc _ _).trans (Ext.drew _));have DR:=h! (show Blk wd wr.heap.size #[.string rt,.string rr] 121 from by rw[hwd];exact(Blk.made _ _ _).drew);have DW:=h! (RW.out.below DX.out);have DM:=h! (RM.out.below DX.out);have DB:=h! (show Below w2.heap.size w2 wd from RB.out.trans (DX.out.mono (by have:=RZ.out;omega)));have DZ:=h! (show w2.heap.size+2<=wd.heap.size from Nat.le_trans RZ.out DX.out.size);refine r! (Kept (· ≠ w2.heap.size) wd) (by rw[<- hwd];exact Kept.refl _ _) ?_;rw[<- hwd];clear hwd RW RM DX;have h1:=fun W (h:Kept (· ≠ w2.heap.size) wd W)=>(h.blk DW.out (by show w2.heap.size+1≠w2.heap.size;omega)).cells;have h2:=fun W (h:Kept (· ≠ w2.heap.size) wd W)=>(h.blk DR.out (by show wr.heap.size≠w2.heap.size;have:=RZ.out;omega)).cells;unfold BdC at h1;(refine WalkN.tk [0,1,2,3,4] ?_;(iterate 5 (refine c! ?_));refine TkN.n ?_)
   clear h1 h2;obtain⟨wf,hrun,hMf,hTf⟩:=DM.out.store refK r2V_inj Tryz.underlying141 (ref_key ⟨rt,rr⟩ HOR.out) true;have FM:=h! hMf;unfold r2V bV at hrun;dsimp only at hrun;refine o! 5 ?_;refine b! ?_;intro K hK;go_simp;refine hK.out _ _ hTf.kept ?_;clear hK hrun hMf;refine d! ?_;have FW:=h! (show Blk wf (w2.heap.size+1) _ _ from hTf.kept.blk DW.out (by show w2.heap.size+1≠w2.heap.size;omega));have FB:=h! (show Below w2.heap.size w2 wf from DB.out.trans (hTf.below (Nat.le_refl _)));have FZ:=h! (show w2.heap.size+2<=wf.heap.size from by rw[hTf.size];exact DZ.out);clear hTf DW DM DB DR;have hsh:=HSH.out;have hil:=HLT.out;go_wp2_with fail
   go_roundw
   case rel=>exact⟨i+1,HLT.out,by go_num,FW.out,by rw[HTK.out];exact FM.out,FB.out,FZ.out⟩
   case measure=>have:=HLT.out;simp[intOf];omega
  ·obtain rfl:i=shut.length:=by omega
   have HTA:=h! (show shut.take shut.length=shut from List.take_length);rw[HTA.out]at RM;have hz:w2.heap.size+1<=wr.heap.size:=by have:=RZ.out;omega
   have HCS:=h! (cutW_size hz);have HCX:=h! (cutW_ext hz);have HCE:=h! (fun x (hx:x<w2.heap.size)=>show(cutW wr (w2.heap.size+1)).heap[x]?=w2.heap[x]? from(cutW_at hz (by omega)).symm.trans (RB.out.block x hx))
   have HST:=h! (show BdSt (cutW wr (w2.heap.size+1)) (w2.heap.size+1) b w2.heap.size ts (.slice ao ts.length c) T shut from
    ⟨HCS.out,(T2.out.same fun x hx=>HCE.out x hx).mono fun x hx=>by rw[HCS.out];omega,K2.out.ext ⟨RB.out.os,RB.out.tape,RB.out.output,by rw[HCS.out];omega,HCE.out⟩,RM.out.same (cutW_at hz (by omega)).symm,HOKT.out,HU.out,HLR.out,HTS.out.1,HTS.out.2.1,HTS.out.2.2⟩)
   have HPT:=h! (point_any HST.out HRS.out d (by have:=HD.out;omega) ⟨pt,pi,pr⟩ (max most 0) wr HPO.out HCX.out RW.out (by omega) (by have:=HM.out;omega));have HSZ:=h! te.sz_pos;rw[HTE.out]at HPT;have RX:=h! (show Ext w wr from X2.out.trans (RB.out:Ext w2 wr));have pp:=(show Blk wr (w.heap.size+1) _ _ from P2.out.below (RB.out:Ext w2 wr)).cells;have RG:=h! (show Blk wr (w.heap.size+2) _ _ from G2.out.below (RB.out:Ext w2 wr));unfold pV at HPT;dsimp only at HPT;clear hi hlt HTA HST HCE HCX HCS RM S2 G2 P2 T2 K2 V2;go_wp2_with fail
   clear pp;refine HPT.out.mono ?_;rintro e w5 ⟨nt,v2,L2,e2,rfl,hnt,hbd2,hk2,hE2⟩;obtain⟨a1,d1,a4,d4,rfl⟩:=hnt.shape;unfold nV2;dsimp only;obtain⟨w6,hw6⟩:∃ x,x=w5.alloc (.cells #[.int .i64 nt.k,.string nt.p.t,.string nt.p.i,.string nt.p.r,.slice a1 nt.subs.length d1,.slice a4 nt.ps.length d4] 45):=⟨_,rfl⟩;have x6:Ext w5 w6:=by rw[hw6];exact Ext.alloc _ _
   have N6:=h! (show Blk w6 w5.heap.size _ _ from by rw[hw6];exact Blk.made _ _ _);have O6:=h! (show Blk w6 (w.heap.size+2) _ _ from Blk.below ((hk2.block _ ⟨RG.out.lt,by have:=Z2.out;omega⟩).trans RG.out) x6);have D6:=h! (hbd2.below x6);have HE:=h! hE2;have XE:=h! (show Ext w w6 from Ext.trans ⟨hk2.os.trans RX.out.os,hk2.tape.trans RX.out.tape,hk2.output.trans RX.out.output,Nat.le_trans RX.out.size hk2.size,fun b hb=>(hk2.block b ⟨Nat.lt_of_lt_of_le hb RX.out.size,by have:=Z2.out;omega⟩).trans (RX.out.block b hb)⟩ x6);have HNT:=h! (show NtAt (NS wr.heap.size w6) w6 nt (.slice a1 nt.subs.length d1,.slice a4 nt.ps.length d4)from(hnt.same fun b hb=>x6.block b hb.2.1).mono fun b hb=>hb.keep (x6.block b hb.2.1) (Nat.le_refl _) x6.size);have n6:=N6.out.cells;have o6:=O6.out.cells;have f6:=O6.out.free;have b6:=D6.out.cells;have HZ:=h! (show w.heap.size+3<=wr.heap.size from by have:=Z2.out;have:=RZ.out;omega);unfold BdC at b6;clear hnt hbd2 hk2 hE2 HPT x6 RG RX RW RB;subst hw6;by_cases hL:(te.sz:Int)<=most
   ·obtain⟨rfl,-,rfl⟩:=HE.out.1 (by omega);have HSH:=h! hL;clear hL;go_wp2_with fail
    clear n6 o6 f6 b6;refine bodyPost_ret (v := .tuple #[.agg #[.int .i64 nt.k,.string nt.p.t,.string nt.p.i,.string nt.p.r,.slice a1 nt.subs.length d1,.slice a4 nt.ps.length d4],.int .i64 0]) ?_ rfl ⟨XE.out.put6 (by omega) _ _ _ _ _ _,.inl ⟨HSH.out,_,_,rfl,?_⟩⟩
    ·rw[results_cell_tmp rfl];have hl:=run_loadVar_row (P:=Tryz.prog) _ (w.heap.size+2) _ 45 _ _ _ (O6.out.setN6 (.int .i64 nt.k) (.string nt.p.t) (.string nt.p.i) (.string nt.p.r) (.slice a1 nt.subs.length d1) (.slice a4 nt.ps.length d4)) Tryz.underlying45 rfl (by kernel_rfl);simp[asAddr,hl,Result.andThen]
    ·exact(HNT.out.same fun b hb=>put6_other _ _ _ _ _ _ (by have:=hb.1;have:=HZ.out;omega)).mono fun b hb=>hb.keep (put6_other _ _ _ _ _ _ (by have:=hb.1;have:=HZ.out;omega)) (by have:=HZ.out;omega) (by simp)
   ·obtain rfl:=HE.out.2 (by have:=HSZ.out;omega);have HLG:=h! (show most<(te.sz:Int)from by omega);clear hL;go_wp2_with fail
    obtain⟨w6,hw6⟩:∃ x,x=w5.alloc (.cells #[.int .i64 nt.k,.string nt.p.t,.string nt.p.i,.string nt.p.r,.slice a1 nt.subs.length d1,.slice a4 nt.ps.length d4] 45):=⟨_,rfl⟩;rw[<- hw6]at O6 D6 XE ⊢;clear hw6 n6 o6 f6 b6;obtain⟨wd,hwd⟩:∃ wd,Hid (wd=w6.drew):=⟨_,h! rfl⟩;have hxd:=h! (show Ext w6 wd from by rw[hwd.out];exact Ext.drew _);have DO:=h! (O6.out.below hxd.out);have DD:=h! (D6.out.below hxd.out);refine r! (fun W=>Blk W (w2.heap.size+1) _ 143) (by rw[<- hwd.out];exact DD.out) ?_;rw[<- hwd.out];have h1:=fun W (h:Blk W (w2.heap.size+1) (BdC (.slice ao ts.length c) (bkV b) (.map (some w2.heap.size)) L2 10) 143)=>h.cells;unfold BdC at h1;(refine WalkN.tk [0,1,2,3,4] ?_;(iterate 5 (refine c! ?_));refine TkN.n ?_)
    clear h1;have o6:=DO.out.cells;have f6:=DO.out.free;refine o! 5 ?_;refine b! ?_;intro K hK;go_simp;refine hK.out _ _ ((put6_other _ _ _ _ _ _ (by have:=Z2.out;omega)).trans DD.out) ?_;clear hK o6 f6;refine t! 6 ?_
    refine d! ?_;go_wp2_with fail
    refine bodyPost_ret (v := .tuple #[.agg #[.int .i64 0,.string ⟨#[]⟩,.string ⟨#[]⟩,.string ⟨#[]⟩,.slice none 0 0,.slice none 0 0],.int .i64 10]) ?_ rfl ⟨(XE.out.trans hxd.out).put6 (by omega) _ _ _ _ _ _,.inr ⟨HLG.out,rfl⟩⟩;rw[results_cell_tmp rfl];have hl:=run_loadVar_row (P:=Tryz.prog) _ (w.heap.size+2) _ 45 _ _ _ (DO.out.setN6 (.int .i64 0) (.string ⟨#[]⟩) (.string ⟨#[]⟩) (.string ⟨#[]⟩) (.slice none 0 0) (.slice none 0 0)) Tryz.underlying45 rfl (by kernel_rfl);simp[asAddr,hl,Result.andThen]
theorem keysP_stops (F:Fence)(n:Nat)(h60:F.fn 145)(hro:F.round=none)(hn:1<=n)(Bm b:Nat)(m:List (P3 × Bool))(w:World)(hBm:Bm<w.heap.size)
  (hm:w.cell? ⟨Bm,0,none⟩=some (.map (some b))) (hM:Mp Tryz.prog 32 pV (fun x => .bool x) w b m) :
  SeqStopsK F n Tryz.prog 145 #[.pointer (some ⟨Bm,0,none⟩)] (fun x=>#[pV x]) KeepsWalks (fun ss=>ss.Perm (m.map (·.1))) (fun _=>True) m.length w:=fun l J Jx W hW hJ hJx hY h0=>by
 have hMW:=hM.below hW;have hmW:=(hW.cell (p:=⟨Bm,0,none⟩) hBm).trans hm;clear hM hm hW;refine callsIn_of_wp Tryz.func145 rfl h60 ?_ hro;simp only[Tryz.ntmps145,List.size_toArray,List.length_cons,List.length_nil,Nat.reduceAdd,Nat.reduceSub,Array.replicate_succ,Array.replicate_zero,List.push_toArray,List.append_toArray,List.nil_append,List.cons_append]
 gi_wp2_with (first
  | (gi_at_range;refine wpListIn_mp_range _ rfl _ 161 rfl Tryz.underlying161 rfl hMW ?_;intro w0 hrg0 hb0 hs0)
  | gi_in)
 try go_frame
 gi_loopw [3] (fun _ wr=>∃ (rem:List (P3 × Bool)) (ss:List P3),Rng Tryz.prog 32 pV (fun x => .bool x) wr b W.heap.size m rem/\(ss++rem.map (·.1)).Perm (m.map (·.1))/\J ss wr)
  (fun _ wr=>wr.rangeLeft b W.heap.size)
 case atStart=>exact⟨m,[],hrg0,List.Perm.refl _,hJ [] W w0 none h0 (grown0_of hb0) (fun r e=>by cases e)⟩
 case round =>
  obtain⟨rem,ss,hrg,hp,hJs⟩:=hrel;have hlen:ss.length+rem.length=m.length:=by have:=hp.length_eq;simpa using this
  have hrl:∀ pre (p:P3 × Bool) post,rem=pre++p::post->ss.length<m.length:=fun pre p post e=>by
   have:=congrArg List.length e;simp at this;omega
  gi_wp2_with (first
   | (gi_at_next;refine wpListIn_mp_next _ rfl _ rfl rfl hrg ?_ ?_;rotate_left;(rintro pre ⟨⟨xt,xi,xr⟩,c⟩ post w2 hrem hrg2 hk2 hs2 hen;have HREM:=h! hrem;have hJ2:J ss w2:=hJ ss wr w2 (some W.heap.size) hJs hk2.grown (fun r e=>by cases e;exact⟨Nat.le_refl _,hrg.walk⟩);have hJ3:J ss (w2.alloc (.cells #[.string xt,.string xi,.string xr] 32)):=hJ ss w2 _ none hJ2 (grown0_of ((Below.refl _ _).alloc (Nat.le_refl _) _)) (fun r e=>by cases e);obtain⟨fn,tmps,assign,body,hy,hR⟩:=hY ss ⟨xt,xi,xr⟩ _ hJ3 (hrl _ _ _ hrem);have HR:=h! hR;have HRG:=h! hrg2;have HJ3:=h! hJ3;clear hR hrg2 hJ3 hJ2 hrem hs2 hrl hk2;dsimp only[pV]at hy hen);rotate_left;(intro hrem;have HREM0:=h! hrem;clear hrem hrl))
   | gi_in)
  ·go_end0
   refine⟨⟨_,rfl⟩,.inl ⟨ss,?_,hJs⟩⟩;have h1:=hp;rw[HREM0.out]at h1;simpa using h1
  ·refine HR.out.mono ?_;rintro e W3 (⟨rfl,hJ4,hk3⟩ | ⟨rfl,hJ4⟩);rotate_left
   ·gi_wp2
    exact bodyPost_ret (results_none rfl _ _ _) rfl ⟨⟨_,rfl⟩,.inr ⟨_,trivial,hJ4⟩⟩
   have hrg3:=(HRG.out.below ((Below.refl _ _).alloc (Nat.le_refl _) (.cells #[.string xt,.string xi,.string xr] 32))).walks hk3;gi_wp2
   go_roundw
   case rel =>
    refine⟨pre++post,ss++[⟨xt,xi,xr⟩],hrg3,?_,hJ4⟩;have h1:=hp;rw[HREM.out]at h1;refine List.Perm.trans ?_ h1;simp only[List.map_append,List.map_cons,List.append_assoc,List.singleton_append];exact List.Perm.append_left ss List.perm_middle.symm
   case measure=>rw[hrg3.left_eq,hrg.left_eq,HREM.out];simp
theorem keysP_in (F:Fence)(n:Nat)(h46:F.fn 86)(hro:F.round=none)(mb:Option Nat)(w:World) :
  CallsIn F n Tryz.prog 86 #[.map mb] w fun e w'=>e = .returned (.func (.func 145) #[] #[.pointer (some ⟨w.heap.size,0,none⟩)])/\w'=w.alloc (.cells #[.map mb] 161):=by
 have hmf:∀ (fn:Fn) (first cap:Array Value) (w:World),(Instr.makeFunc fn first cap).run Tryz.prog w = .ok (.func fn first cap) w:=fun _ _ _ _=>rfl;refine callsIn_of_wp Tryz.func86 rfl h46 ?_ hro;simp only[Tryz.ntmps86,List.size_toArray,List.length_cons,List.length_nil,Nat.reduceAdd,Nat.reduceSub,Array.replicate_succ,Array.replicate_zero,List.push_toArray,List.append_toArray,List.nil_append,List.cons_append];gi_wp2
 go_ret
 exact⟨rfl,rfl⟩
end Go.Proofs.YtlhaghoajpglaaaGreat
namespace Go.Proofs.YtlhaghoajpglaaaGreat
open Go Go.RowKit Go.Maps Go.Sort
theorem keysP_nil (F:Fence)(n:Nat)(hf:F.fn 145)(hro:F.round=none)(Bm:Nat)(w:World)(hBm:Bm<w.heap.size)(hm:w.cell? ⟨Bm,0,none⟩=some (.map none)) :
  SeqStopsK F n Tryz.prog 145 #[.pointer (some ⟨Bm,0,none⟩)] (fun x:P3=>#[pV x]) KeepsWalks (fun ss:List P3=>ss=[]) (fun _=>True) 0 w:=fun l J Jx W hW hJ _ _ h0=>by
 have hmW:=(hW.cell (p:=⟨Bm,0,none⟩) hBm).trans hm;clear hm hW;refine callsIn_of_wp Tryz.func145 rfl hf ?_ hro;simp only[Tryz.ntmps145,List.size_toArray,List.length_cons,List.length_nil,Nat.reduceAdd,Nat.reduceSub,Array.replicate_succ,Array.replicate_zero,List.push_toArray,List.append_toArray,List.nil_append,List.cons_append];have hrg:=run_range_nilMap (P:=Tryz.prog) W 161 32 4 Tryz.underlying161;have hnx:∀ ty,(Instr.next (.pointer (some ⟨W.heap.size,0,none⟩)) false ty).run Tryz.prog (W.alloc (.mapIter none 0 #[] 0))=_:=fun ty=>run_next_nilMap _ ty 0 0 #[];gi_wp2
 refine wpIn_loop_rounds 1 ?_;rw[roundsIn_succ];gi_wp2
 go_end0
 exact⟨⟨_,rfl⟩,.inl ⟨[],rfl,hJ [] W _ none h0 (World.grownBy_alloc W _ none) (fun r e=>by cases e)⟩⟩
end Go.Proofs.YtlhaghoajpglaaaGreat
namespace Go.Proofs.YtlhaghoajpglaaaGreat
open Go Go.RowKit
attribute [local go_sem] Oper.semAt_some
theorem cells_three (w:World)(a b c:Value)(t:TypeId):∀ j u,[a,b,c][j]?=some u->(w.alloc (.cells #[a,b,c] t)).cell? ((⟨w.heap.size,0,none⟩:Addr).add j)=some u:=fun j u hu=>by
 rw[Addr.add_lit,cell_of_row _ w.heap.size (0+j) #[a,b,c] t (0,0) (heap_alloc_new w _),Nat.zero_add];simpa using hu
theorem appP_in (F:Fence)(n:Nat)(h45:F.fn 200)(hro:F.round=none)(hn:2<=n)(g:Nat)(lb:Array Value)(hFg:F.fn g)(eg:∀ args w,(callFunc g args).run Tryz.prog w = .ok (.enter g args) w)
  (S Sp:List P3->Prop) (N:Nat) (w:World) (B0:Nat) (hB0:B0<=w.heap.size) (v:Value) (l:List P3) (hN:l.length+N<=549755813888) (hown:Own w B0 32 3 v (pcs l)) (hseq:SeqStopsK F (n-1) Tryz.prog g lb (fun x=>#[pV x]) KeepsWalks S Sp N w) :
  CallsIn F n Tryz.prog 200 #[v,.func (.func g) #[] lb] w fun e w'=>∃ (v':Value) (ss:List P3),e = .returned v'/\S ss/\Own w' B0 32 3 v' (pcs (l++ss))/\Kept (fun b=>b<w.heap.size/\v.ownBlock≠some b) w w'/\KeepsFrom 0 w w':=by
 have h1:1<=n:=by omega
 obtain⟨ao,k,c,rfl⟩:∃ ao k c,v = .slice ao k c:=by
  rcases hown.shape with⟨rfl,_⟩ | ⟨g,n,c,rfl⟩
  ·exact⟨_,_,_,rfl⟩
  ·exact⟨_,_,_,rfl⟩
 refine callsIn_of_wp_marks Tryz.func200 rfl h45 ?_ hro;simp only[Tryz.ntmps200,List.size_toArray,List.length_cons,List.length_nil,Nat.reduceAdd,Nat.reduceSub,Array.replicate_succ,Array.replicate_zero,List.push_toArray,List.append_toArray,List.nil_append,List.cons_append];gi_wp2
 have bS:=Boxed.new w 59 (.slice ao k c);have hw0:Below w.heap.size w (w.alloc (.cells #[.slice ao k c] 59)):=(Below.refl _ w).alloc (Nat.le_refl _) _;have hsz:(w.alloc (.cells #[.slice ao k c] 59)).heap.size=w.heap.size+1:=by simp
 have hown0:=hown.below hw0;have hk0:KeepsFrom 0 w (w.alloc (.cells #[.slice ao k c] 59)):=(KeepsOthers.alloc _ _).from _;obtain⟨W0,hW0⟩:∃ W0,w.alloc (.cells #[.slice ao k c] 59)=W0:=⟨_,rfl⟩;rw[hW0]at bS hw0 hsz hown0 hk0 ⊢;clear hW0
 refine wpIn_rangeFunc_ownH hro h1 (gf:=g) (lb:=lb) rfl hFg eg hseq walksK_t walksK_b hw0 (fun _=>rfl)
  (fun pre W=>(∃ v',Boxed W w.heap.size 59 v'/\Own W B0 32 3 v' (pcs (l++pre))/\(∀ g,v'.ownBlock=some g->(Value.slice ao k c).ownBlock=some g\/w.heap.size<=g))/\(Kept (fun b=>b<w.heap.size/\(Value.slice ao k c).ownBlock≠some b) w W/\KeepsFrom 0 w W))
  (fun _ _ _=>False)
  (OwnFrom.and (own_ownFrom B0 w.heap.size 59 32 3 (fun pre=>pcs (l++pre)) (fun v'=>∀ g,v'.ownBlock=some g->(Value.slice ao k c).ownBlock=some g\/w.heap.size<=g) _) (OwnFrom.and (ownFrom_kept (fun b hb=>hb.1) (by omega)) (ownFrom_keepsFrom (by omega))))
  (fun _ _ _ _ _ hs _ _=>hs)
  ⟨⟨_,bS,by simpa using hown0,fun g hg => .inl hg⟩,Below.kept hw0 (fun b hb=>hb.1),hk0⟩
  (fun x a' W=>∃ Bx,w.heap.size<Bx/\Blk W Bx #[.string x.t,.string x.i,.string x.r] 32/\a' = {tmps:=#[.slice ao k c,.func (.func g) #[] lb,.pointer (some ⟨w.heap.size,0,none⟩),undef,.slice none 0 0,.pointer (some ⟨Bx,0,none⟩),.func (.func g) #[] lb,pV x,undef,undef,undef,undef,undef],defers:=[]})
  (fun x a' _ X Y row hs hg hr=>by obtain⟨Bx,h1,h2,h3⟩:=hs;exact⟨Bx,h1,boxed3_kept h2 hg (fun r e=>(hr r e).2),h3⟩)
  ?assign ?body ?done ?stop
 case assign =>
  rintro l2 pre ⟨xt,xi,xr⟩ W K ⟨⟨v',bS1,hO1,hG1⟩,hB1,hK1⟩ hK;dsimp only[pV];gi_wp2
  refine hK _ _ ((KeepsOthers.alloc _ _).from _) (KeepsWalks.alloc _ _) ⟨⟨v',bS1.alloc _,hO1.below ((Below.refl _ _).alloc (Nat.le_refl _) _),hG1⟩,hB1.alloc (fun b hb=>Nat.lt_of_lt_of_le hb.1 hB1.size) _,hK1.trans ((KeepsOthers.alloc _ _).from _)⟩ ⟨W.heap.size,bS1.lt,Blk.made W _ _,rfl⟩
 case body =>
  rintro l2 pre ⟨xt,xi,xr⟩ a' W hl ⟨r,hr⟩ ⟨⟨v',bS1,hO1,hG1⟩,hB1,hK1⟩ ⟨Bx,hBx,bX,rfl⟩ hlt;have cS:=bS1.cell;have cX:=bX.cells;have hwl:=hB1.size;have hpl:=pcs_length (l++pre);rw[List.length_append]at hpl;have hbb:(3*(l.length+pre.length)+3)*48<=140737488355328:=by omega
  gi_wp2_with (first
   | (gi_at_builtin;go_loud (
      refine wpListIn_own pointsT rfl _ _ rfl rfl (hO1.below ((Below.refl _ _).alloc (Nat.le_refl _) _)) (ad:=⟨W.heap.size,0,none⟩) (m:=1) (c:=1) (news:=[.string xt,.string xi,.string xr]) rfl rfl (cells_three _ _ _ _ _) (by intro u hu;simp only[List.mem_cons,List.not_mem_nil,or_false]at hu;rcases hu with rfl | rfl | rfl <;> rfl) (by simp only[List.length_cons,List.length_nil];omega) (by simp only[List.length_cons,List.length_nil];rw[hpl];exact hbb) (by simp;omega) ?_;intro v2 w2 hO2 hG2 hg2
      obtain⟨g2,n2,c2,rfl⟩:∃ g2 n2 c2,v2 = .slice (some ⟨g2,0,none⟩) n2 c2:=by
        rcases hO2.shape with⟨_,h⟩ | h
        · exact absurd h (by simp)
        · exact h
      have bS2:=(bS1.alloc (.cells #[.string xt,.string xi,.string xr] 32)).kept hg2 (boxed_notOwn (bS1.alloc _) (by decide) (hO1.below ((Below.refl _ _).alloc (Nat.le_refl _) (.cells #[.string xt,.string xi,.string xr] 32))));have cS2:=bS2.cell;have fS2:=bS2.frozen))
   | gi_in)
  have hKa:KeepsFrom 0 W (W.alloc (.cells #[.string xt,.string xi,.string xr] 32)):=(KeepsOthers.alloc _ _).from _;have hKb:=hKa.trans (keeps_own (hO1.below ((Below.refl _ _).alloc (Nat.le_refl _) (.cells #[.string xt,.string xi,.string xr] 32))) hg2 0);have hKc:KeepsFrom 0 W (w2.setCell ⟨w.heap.size,0,none⟩ (.slice (some ⟨g2,0,none⟩) n2 c2)):=hKb.trans ((KeepsOthers.setCell _ _ _).from _);refine⟨keeps_up hKc _,keeps_walks hKc,⟨⟨_,bS2.set _,?_,fun g hg=>?_⟩,?_,hK1.trans hKc⟩⟩
  ·have:=hO2.keepOwn (w':=w2.setCell ⟨w.heap.size,0,none⟩ (.slice (some ⟨g2,0,none⟩) n2 c2)) (fun g hg=>Below.heap_setCell _ _ _ g (fun e=>boxed_notOwn bS2 (by decide) hO2 (by rw[hg,e])));rw[<- List.append_assoc,pcs_append (l++pre),pcs_single];exact this
  ·rcases hG2 g hg with h | h
   ·exact hG1 g h
   ·exact .inr (by have:=hB1.size;simp at h;omega)
  ·have hk2:Kept (fun b=>b<w.heap.size/\(Value.slice ao k c).ownBlock≠some b) (W.alloc (.cells #[.string xt,.string xi,.string xr] 32)) w2:=⟨hg2.os,hg2.tape,hg2.output,hg2.size,fun b hb=>hg2.block b (by have:=hB1.size;have:=hb.1;simp;omega) (fun e=>by
    rcases hG1 b e.symm with h | h
    ·exact hb.2 h
    ·have:=hb.1;omega)⟩
   exact((hB1.alloc (fun b hb=>Nat.lt_of_lt_of_le hb.1 hB1.size) _).trans hk2).set (a:=⟨w.heap.size,0,none⟩) (fun h=>Nat.lt_irrefl _ h.1) _
 case done =>
  rintro D ys W hD hS ⟨⟨v',bS1,hO1,_⟩,hB1,hK1⟩ hK;have cS:=bS1.cell
  obtain⟨ao',k',c',rfl⟩:∃ ao k c,v' = .slice ao k c:=by
   rcases hO1.shape with⟨rfl,_⟩ | ⟨g,n,c,rfl⟩
   ·exact⟨_,_,_,rfl⟩
   ·exact⟨_,_,_,rfl⟩
  gi_wp2
  refine⟨by simp,.inl ⟨_,_,rfl,run_takeDeferred hK,?_⟩⟩;refine⟨_,results_tmp rfl _ _ _,_,ys,rfl,hS,hO1.put _ hK rfl,⟨hB1.os,hB1.tape,hB1.output,by have:=hB1.size;simpa using this,fun b hb=>(World.putObj_heap_other (fun e=>by have:=hb.1;omega)).trans (hB1.block b hb)⟩,?_⟩;exact⟨by have:=hK1.size;simpa using this,fun k o _ hk ho=>(World.putObj_heap_other (fun e=>by have:=(Array.getElem?_eq_some_iff.1 hk).1;omega)).trans (hK1.same k o (Nat.zero_le _) hk ho)⟩
 case stop =>
  rintro D c pre W _ _ h _;exact h.elim
end Go.Proofs.YtlhaghoajpglaaaGreat
namespace Go.Proofs.YtlhaghoajpglaaaGreat
open Go Go.RowKit Go.Maps
theorem keysP_seq (F:Fence)(n:Nat)(hf:F.fn 145)(hro:F.round=none)(hn:1<=n)(Bm:Nat)(mb:Option Nat)(m:List (P3 × Bool))(w:World)(hBm:Bm<w.heap.size)(hm:w.cell? ⟨Bm,0,none⟩=some (.map mb))
  (hM:MpO Tryz.prog 32 pV bV w mb m) :
  SeqStopsK F n Tryz.prog 145 #[.pointer (some ⟨Bm,0,none⟩)] (fun x=>#[pV x]) KeepsWalks (fun ss=>ss.Perm (m.map (·.1))) (fun _=>True) m.length w:=by
 cases mb with
 | none =>
  obtain rfl:m=[]:=hM;have h:=keysP_nil F n hf hro Bm w hBm hm;rwa[show(fun ss:List P3=>ss=[])=(fun ss=>ss.Perm (([]:List (P3 × Bool)).map (·.1)))from funext fun ss=>propext List.perm_nil.symm]at h
 | some b=>exact keysP_stops F n hf hro hn Bm b m w hBm hm hM
theorem keysP_any (mb:Option Nat)(w:World):Calls Tryz.prog 86 #[.map mb] w fun e w'=>e = .returned (.func (.func 145) #[] #[.pointer (some ⟨w.heap.size,0,none⟩)])/\w'=w.alloc (.cells #[.map mb] 161) :=
 callsIn_wide.1 (keysP_in Fence.wide 1 trivial rfl mb w)
theorem appP_any (w:World)(B0:Nat)(hB0:B0<=w.heap.size)(v:Value)(l:List P3)(Bm:Nat)(mb:Option Nat)(m:List (P3 × Bool))(hN:l.length+m.length<=549755813888)(hown:Own w B0 32 3 v (pcs l))(hBm:Bm<w.heap.size)(hm:w.cell? ⟨Bm,0,none⟩=some (.map mb))(hM:MpO Tryz.prog 32 pV bV w mb m) :
  Calls Tryz.prog 200 #[v,.func (.func 145) #[] #[.pointer (some ⟨Bm,0,none⟩)]] w fun e w'=>∃ (v':Value) (ss:List P3),e = .returned v'/\ss.Perm (m.map (·.1))/\Own w' B0 32 3 v' (pcs (l++ss))/\Kept (fun b=>b<w.heap.size/\v.ownBlock≠some b) w w'/\KeepsFrom 0 w w' :=
 callsIn_wide.1 (appP_in Fence.wide 3 trivial rfl (by omega) 145 _ trivial (enters_of Tryz.func145 (by kernel_rfl) rfl) _ _ m.length w B0 hB0 v l hN hown (keysP_seq Fence.wide 2 trivial rfl (by omega) Bm mb m w hBm hm hM))
theorem collectK_any (w:World)(Bm:Nat)(mb:Option Nat)(m:List (P3 × Bool))(hN:m.length<=549755813888)(hBm:Bm<w.heap.size)(hm:w.cell? ⟨Bm,0,none⟩=some (.map mb))(hM:MpO Tryz.prog 32 pV bV w mb m) :
  Calls Tryz.prog 143 #[.func (.func 145) #[] #[.pointer (some ⟨Bm,0,none⟩)]] w fun e w'=>∃ (v':Value) (ss:List P3),e = .returned v'/\ss.Perm (m.map (·.1))/\Own w' w.heap.size 32 3 v' (pcs ss)/\Below w.heap.size w w':=by
 have HP:=h! (appP_any w w.heap.size (Nat.le_refl _) (.slice none 0 0) [] Bm mb m (by simpa using hN) (Own.nil w _ _ _) hBm hm hM);clear hM hm;go_enter Tryz.func143,Tryz.ntmps143
 go_wp2_with fail
 refine HP.out.mono ?_;rintro e w1 ⟨v,ss,rfl,hp,ho,hk,_⟩;go_wp2
 go_ret
 exact⟨v,ss,rfl,hp,ho,hk.below fun b hb=>⟨hb,by simp[Value.ownBlock]⟩⟩
theorem orderE_any (a b:P3)(w:World):Calls Tryz.prog 87 #[pV a,pV b] w (fun e w'=>e = .returned (.int .i64 (ordP a b))/\Gr w w'):=by
 obtain⟨at_,ai,ar⟩:=a;obtain⟨bt,bi,br⟩:=b;unfold pV;dsimp only;have hA:=(Blk.made w #[.string at_,.string ai,.string ar] 32).alloc (.cells #[.string bt,.string bi,.string br] 32);have hB:=Blk.made' (w:=w.alloc (.cells #[.string at_,.string ai,.string ar] 32)) (B:=w.heap.size+1) (by simp) #[.string bt,.string bi,.string br] 32;have hb0:Gr w ((w.alloc (.cells #[.string at_,.string ai,.string ar] 32)).alloc (.cells #[.string bt,.string bi,.string br] 32)):=((Gr.refl _).alloc _).alloc _;go_enter Tryz.func87,Tryz.ntmps87
 go_wp2_with fail
 obtain⟨wd,hwd⟩:∃ wd,wd=((w.alloc (.cells #[.string at_,.string ai,.string ar] 32)).alloc (.cells #[.string bt,.string bi,.string br] 32)).drew:=⟨_,rfl⟩;have hAd:=hA.drew;have hBd:=hB.drew;have hbd:=hb0.drew;rw[<- hwd]at hAd hBd hbd;refine r! (Ext wd) (by rw[<- hwd];exact Ext.refl _) ?_;rw[<- hwd];clear hwd hA hB hb0;have h1:∀ W,Ext wd W->∀ i,W.cell? ⟨w.heap.size,i,none⟩=(#[.string at_,.string ai,.string ar]:Array Value)[i]?:=fun W h=>(hAd.below h).cells;have h2:∀ W,Ext wd W->∀ i,W.cell? ⟨w.heap.size+1,i,none⟩=(#[.string bt,.string bi,.string br]:Array Value)[i]?:=fun W h=>(hBd.below h).cells;(refine WalkN.tk [0,1,2,3,4,5,7,8,9,10,11,12,14,15,16,17] ?_;(iterate 16 (refine c! ?_));refine TkN.n ?_)
 clear h1 h2;have HP1:=h! (cmpS_any at_ bt wd);refine o! 6 ?_;refine b! ?_;intro K hK;go_simp;refine HP1.out.mono ?_;rintro e w1 ⟨rfl,rfl⟩;refine hK.out _ _ (Ext.refl _) ?_;clear hK HP1;have HP2:=h! (cmpS_any ai bi wd);refine o! 13 ?_;refine b! ?_;intro K hK;go_simp;refine HP2.out.mono ?_;rintro e w1 ⟨rfl,rfl⟩;refine hK.out _ _ (Ext.refl _) ?_;clear hK HP2;have HP3:=h! (cmpS_any ar br wd);refine o! 18 ?_;refine b! ?_;intro K hK;go_simp;refine HP3.out.mono ?_;rintro e w1 ⟨rfl,rfl⟩;refine hK.out _ _ (Ext.refl _) ?_;clear hK HP3;refine o! 19 ?_;refine b! ?_;intro K hK;go_simp;have hE:Ext wd (wd.alloc (.cells #[.int .i64 (cmpS at_ bt),.int .i64 (cmpS ai bi),.int .i64 (cmpS ar br)] 3)):=Ext.alloc _ _;have hl:Sl (fun b=>b=wd.heap.size) (wd.alloc (.cells #[.int .i64 (cmpS at_ bt),.int .i64 (cmpS ai bi),.int .i64 (cmpS ar br)] 3)) 1 (.slice (some ⟨wd.heap.size,0,none⟩) 3 3) (icL [cmpS at_ bt,cmpS ai bi,cmpS ar br]):=Sl.made wd _ 1 3 3 _ rfl (by decide) rfl;refine hK.out _ _ hE ?_;clear hK;have HP4:=h! (orL_any _ _ _ _ hl);have hbe:=hbd.alloc (.cells #[.int .i64 (cmpS at_ bt),.int .i64 (cmpS ai bi),.int .i64 (cmpS ar br)] 3);refine o! 20 ?_;refine b! ?_;intro K hK;go_simp;refine HP4.out.mono ?_;rintro e w1 ⟨rfl,rfl⟩;refine hK.out _ _ hE ?_;clear hK HP4;refine t! 21 ?_
 refine d! ?_;go_wp2
 go_ret
 exact⟨rfl,hbe⟩
theorem sortK_any {w:World} {B:Nat} {v:Value} {l:List P3} (h:Own w B 32 3 v (pcs l))(hl:l.length<4611686018427387904) :
  Calls Tryz.prog 144 #[v,.func (.func 87) #[] #[]] w fun e w'=>e = .returned (.tuple #[])/\∃ l':List P3,l'.Perm l/\(l'.Pairwise fun a b=>ltP b a=false)/\Own w' B 32 3 v (pcs l')/\Kept (fun b=>b<w.heap.size/\v.ownBlock≠some b) w w':=by
 refine Calls.mono (sort_own Tryz.sortP pC 3 pC_length (by decide) pC_one Tryz.isAgg32 Tryz.sizeOf32 ordP swoP 87 #[] (enters_of Tryz.func87 (by kernel_rfl) rfl) (fun W x y=>orderE_any x y W) h hl) ?_;rintro e w' ⟨rfl,l',hp,hs,ho,hk⟩;exact⟨rfl,l',hp,hs.imp fun {a b} h=>by rw[<- lt_ordP];exact h,ho,hk⟩
theorem sortedK_any (w:World)(Bm:Nat)(mb:Option Nat)(m:List (P3 × Bool))(hN:m.length<=549755813888)(hBm:Bm<w.heap.size)(hm:w.cell? ⟨Bm,0,none⟩=some (.map mb))(hM:MpO Tryz.prog 32 pV bV w mb m) :
  Calls Tryz.prog 85 #[.func (.func 145) #[] #[.pointer (some ⟨Bm,0,none⟩)],.func (.func 87) #[] #[]] w fun e w'=>∃ (v':Value) (ss:List P3),e = .returned v'/\ss.Perm (m.map (·.1))/\UpP ss/\Own w' w.heap.size 32 3 v' (pcs ss)/\Below w.heap.size w w':=by
 have HN:=h! hM.nodup;have HP:=h! (collectK_any w Bm mb m hN hBm hm hM);clear hM hm;go_enter Tryz.func85,Tryz.ntmps85
 go_wp2_with fail
 refine HP.out.mono ?_;rintro e w1 ⟨v,ss,rfl,hp,ho,hb⟩;have HP2:=h! (sortK_any ho (by have:=hp.length_eq;simp at this;omega));go_wp2_with fail
 refine HP2.out.mono ?_;rintro e w2 ⟨rfl,l',hp',hu0,ho',hk'⟩;have hu:=up_sorted (hu0.imp fun {a b} h=>by rw[lt_ordP];exact h) (hp'.nodup_iff.2 (hp.nodup_iff.2 HN.out));go_wp2
 go_ret
 exact⟨v,l',rfl,hp'.trans hp,hu,ho',hb.trans (hk'.below fun b hb'=>⟨Nat.lt_of_lt_of_le hb' hb.size,fun e=>by have:=(ho.block b e).1;omega⟩)⟩
mutual
def NT.pre:NT->List NT | .mk k p s ps => .mk k p s ps::preL ps
def preL:List NT->List NT | [] => [] | r::rs=>r.pre++preL rs
end
theorem NT.pre_eq (n:NT):n.pre=n::preL n.ps:=by
 obtain⟨k,p,s,ps⟩:=n;rw[NT.pre];rfl
theorem preL_append (a b:List NT):preL (a++b)=preL a++preL b:=by
 induction a with
 | nil=>simp[preL]
 | cons x a ih=>rw[List.cons_append,preL,preL,ih,List.append_assoc]
theorem preL_take {l:List NT} {i:Nat} (hi:i<l.length):preL (l.take (i+1))=preL (l.take i)++l[i].pre:=by
 rw[List.take_succ_eq_append_getElem hi,preL_append];simp[preL]
theorem preL_mem {x:NT}:∀ {l:List NT},x∈preL l↔∃ r∈l,x∈r.pre
 | []=>by simp[preL]
 | r::l=>by rw[preL,List.mem_append,preL_mem];simp
theorem pre_len (n:NT):n.pre.length=n.sz:=by
 induction n using NT.ind with
 | h r ih =>
  rw[r.pre_eq,r.sz_eq,List.length_cons]
  have:∀ l:List NT,(∀ x∈l,x∈r.ps)->(preL l).length=nszL l:=by
   intro l;induction l with
   | nil=>intro _;rfl
   | cons x l ihl=>intro h;rw[preL,nszL,List.length_append,ih x (h x (by simp)),ihl fun y hy=>h y (List.mem_cons_of_mem _ hy)]
  rw[this r.ps fun _ h=>h];omega
def cutE (m:NT):List P3:=if m.k=0 then [m.p]else []
theorem cuts_pre (n:NT):n.cuts=n.pre.flatMap cutE:=by
 induction n using NT.ind with
 | h r ih =>
  rw[r.cuts_eq,r.pre_eq,List.flatMap_cons]
  have:∀ l:List NT,(∀ x∈l,x∈r.ps)->cutsL l=(preL l).flatMap cutE:=by
   intro l;induction l with
   | nil=>intro _;rfl
   | cons x l ihl=>intro h;rw[preL,cutsL,List.flatMap_append,ih x (h x (by simp)),ihl fun y hy=>h y (List.mem_cons_of_mem _ hy)]
  rw[this r.ps fun _ h=>h];rfl
def NT.Ok (n:NT):Prop:=∀ m∈n.pre,m.p.Ok/\∀ s∈m.subs,s.Ok
abbrev KB (x:Nat) (w w':World):Prop:=Kept (fun b=>b<w.heap.size/\b≠x) w w'
section
variable {x : Nat} {w w' w'' : World}
theorem KB.of (h:Ext w w'):KB x w w':=Below.kept h fun _ hb=>hb.1
theorem KB.next (h:KB x w w')(k:KB x w' w''):KB x w w'':=Kept.trans h (Kept.mono k fun _b hb=>⟨Nat.lt_of_lt_of_le hb.1 h.size,hb.2⟩)
theorem KB.refl (x:Nat)(w:World):KB x w w:=Kept.refl _ _
theorem KB.low {lo:Nat} (h:KB x w w')(hl:lo<=x)(hz:lo<=w.heap.size):Same (· < lo) w w':=fun b hb=>h.block b ⟨Nat.lt_of_lt_of_le hb hz,by have:b<lo:=hb;omega⟩
theorem KB.blk (h:KB x w w') {b:Nat} {cs:Array Value} {t:TypeId} (hb:Blk w b cs t)(hx:b≠x):Blk w' b cs t:=(h.block b ⟨hb.lt,hx⟩).trans hb
end
theorem nwalk_any (g:Nat)(cap:Array Value)(eg:∀ args W,(callFunc g args).run Tryz.prog W = .ok (.enter g args) W)(lo x N:Nat)(hlx:lo<=x)(G:NT->Prop)(Inv:List NT->World->Prop)
  (hx:∀ ks W W',Inv ks W->Ext W W'->Inv ks W') (hdo:∀ ks m v W,Inv ks W->G m->NtAt (· < lo) W m v->x<W.heap.size->ks.length<N->Calls Tryz.prog g (#[nV2 m v]++cap) W fun e W'=>e = .returned (.tuple #[])/\Inv (ks++[m]) W'/\KB x W W') (n:NT) :
  ∀ (v:NV2) (ks:List NT) (w:World),NtAt (· < lo) w n v->x<w.heap.size->(∀ m∈n.pre,G m)->Inv ks w->ks.length+n.sz<=N ->
  Calls Tryz.prog 82 #[nV2 n v,.func (.func g) #[] cap] w fun e w'=>e = .returned (.tuple #[])/\Inv (ks++n.pre) w'/\KB x w w':=by
 induction n using NT.ind with
 | h n ih =>
 intro v ks w h hxw hg hinv hN;obtain⟨a1,c1,a4,c4,rfl⟩:=h.shape;have HPR:=h! n.pre_eq;have HSZ:=h! n.sz_eq;have HG:=h! hg;have HIH:=h! ih;have H1:=h! h;have HDO:=h! hdo;have HXX:=h! hx;have HN:=h! hN;have HXW:=h! hxw;have HLX:=h! hlx;rw[HPR.out];obtain⟨k,⟨pt,pi,pr⟩,subs,parts⟩:=n;clear ih h hdo hx hN hxw hlx hg;obtain⟨nn,hnn⟩:∃ nn,nn=NT.mk k ⟨pt,pi,pr⟩ subs parts:=⟨_,rfl⟩;have HNN:=h! hnn;clear hnn;unfold nV2;dsimp only[NT.k,NT.p,NT.subs,NT.ps]at HIH H1 HSZ HPR ⊢;rw[<- HNN.out]at H1 HPR HSZ HG HN;rw[<- HNN.out];obtain⟨wa,hwa⟩:∃ x,x=w.alloc (.cells #[.int .i64 k,.string pt,.string pi,.string pr,.slice a1 subs.length c1,.slice a4 parts.length c4] 45):=⟨_,rfl⟩;have XA:=h! (show Ext w wa from by rw[hwa];exact Ext.alloc _ _);have BA:=h! (show Blk wa w.heap.size #[.int .i64 k,.string pt,.string pi,.string pr,.slice a1 subs.length c1,.slice a4 parts.length c4] 45 from by rw[hwa];exact Blk.made _ _ _);have FK:=h! (fun W (hW:KB x wa W)=>show NtAt (· < lo) W nn (.slice a1 subs.length c1,.slice a4 parts.length c4)from(H1.out.same (w':=wa) fun b hb=>XA.out.block b (by have:=HXW.out;have:=HLX.out;omega)).same (hW.low HLX.out (by have:=HXW.out;have:=HLX.out;have:=XA.out.size;omega)));have FB:=h! (fun W (hW:KB x wa W)=>hW.blk BA.out (by have:=HXW.out;omega));have FX:=h! (fun W (hW:KB x wa W)=>show x<W.heap.size from Nat.lt_of_lt_of_le HXW.out (Nat.le_trans XA.out.size hW.size));have HCL:=h! (HDO.out ks nn (.slice a1 subs.length c1,.slice a4 parts.length c4) wa (HXX.out ks w wa hinv XA.out) (HG.out nn (by rw[HPR.out];exact List.mem_cons_self)) (FK.out wa (KB.refl _ _)) (FX.out wa (KB.refl _ _)) (by have:=HN.out;have:=HSZ.out;omega));have hV:nV2 nn (.slice a1 subs.length c1,.slice a4 parts.length c4) = .agg #[.int .i64 k,.string pt,.string pi,.string pr,.slice a1 subs.length c1,.slice a4 parts.length c4]:=by rw[HNN.out];rfl
 rw[hV]at HCL;have HPM:=h! (show ∀ y∈parts,∀ m∈y.pre,G m from fun y hy m hm=>HG.out m (by rw[HPR.out];exact List.mem_cons_of_mem _ (preL_mem.2 ⟨y,hy,hm⟩)));clear hinv hV;have hA:=BA.out.cells;rw[hwa]at hA;go_enter Tryz.func82,Tryz.ntmps82
 go_wp2_with fail
 clear hA;rw[<- hwa];clear hwa;refine HCL.out.mono ?_;rintro e w2 ⟨rfl,hi2,hk2⟩;have K2:=h! hk2;have I2:=h! hi2;have hb2:=(FB.out w2 hk2).cells;clear hi2 hk2 HCL;go_wp2_with fail
 clear hb2;go_loopw [12] (fun iv wr=>∃ i:Nat,i<=parts.length/\iv = .int .i64 i/\Inv (ks++(nn::preL (parts.take i))) wr/\KB x wa wr) (fun iv _=>parts.length-(intOf iv).toNat)
 case atStart=>exact⟨0,Nat.zero_le _,rfl,by simpa [preL] using I2.out,K2.out⟩
 case round =>
  obtain⟨i,hi,rfl,hiv,hk⟩:=hrel;have RI2:=h! hiv;have RK2:=h! hk;clear hiv hk;by_cases hlt:i<parts.length
  ·have HNX:=h! (preL_take hlt)
   have HLN:=h! (show(preL (parts.take i)).length+parts[i].sz<=nszL parts from by
    have h0:(preL (parts.take i)).length=nszL (parts.take i):=by
     have:∀ l:List NT,(preL l).length=nszL l:=by
      intro l;induction l with
      | nil=>rfl
      | cons y l ih=>rw[preL,nszL,List.length_append,pre_len,ih]
     exact this _
    have h1:=nszL_take hlt;have h2:=nszL_le parts (i+1);omega)
   have hfk:=FK.out wr RK2.out;rw[HNN.out]at hfk;obtain⟨ao1,g1,he1,hg1,hg2,hc1⟩:=hfk.rows;dsimp only[NT.ps]at he1 hg1 hg2 hc1;cases he1;obtain⟨p1,q1,u,rfl,hp1,e0,e1,e2,e3,e4,e5,hu⟩:=hc1 i hlt;have HII:=h! (HIH.out parts[i] (List.getElem_mem hlt));have HPI:=h! (HPM.out parts[i] (List.getElem_mem hlt));generalize parts[i]=y at *;have HLT:=h! hlt;have HWI:=h! (show wrap64 ((i:Int)+1)=((i+1:Nat):Int)from by unfold wrap64;omega);have hli:(i:Int)<(parts.length:Int):=by omega
   obtain⟨l1,m1,l4,m4,rfl⟩:=hu.shape;obtain⟨yk,⟨yt,yi,yr⟩,ys,yp⟩:=y;dsimp only[NT.k,NT.p,NT.subs,NT.ps]at e0 e1 e2 e3 e4 e5 hu;have X1:=h! (Ext.alloc wr (.cells #[.int .i64 yk,.string yt,.string yi,.string yr,.slice l1 ys.length m1,.slice l4 yp.length m4] 45));have HCL:=h! (HII.out _ (ks++(nn::preL (parts.take i))) _ (hu.same fun b hb=>X1.out.block b (by have:=FX.out wr RK2.out;have:=HLX.out;omega)) (Nat.lt_of_lt_of_le (FX.out wr RK2.out) X1.out.size) HPI.out (HXX.out _ _ _ RI2.out X1.out) (by have:=HN.out;have:=HLN.out;have:=HSZ.out;simp only[List.length_append,List.length_cons];omega));unfold nV2 at HCL;dsimp only[NT.k,NT.p,NT.subs,NT.ps]at HCL;have hbf:=(Blk.made wr #[.int .i64 yk,.string yt,.string yi,.string yr,.slice l1 ys.length m1,.slice l4 yp.length m4] 45).cells;clear hlt hc1 hu hp1 hg1 hg2 hfk;go_wp2_with fail
   refine HCL.out.mono ?_;rintro e w5 ⟨rfl,hi5,hk5⟩;have RI5:=h! (show Inv (ks++(nn::preL (parts.take (i+1)))) w5 from by rw[HNX.out,<- List.cons_append,<- List.append_assoc];exact hi5);have RK5:=h! (show KB x wa w5 from KB.next RK2.out (KB.next (KB.of X1.out) hk5));clear hi5 hk5 hbf HCL e0 e1 e2 e3 e4 e5;go_wp2_with fail
   go_roundw
   case rel=>exact⟨i+1,HLT.out,by first | rw[HWI.out] | go_num,RI5.out,RK5.out⟩
   case measure=>have:=HLT.out;(try rw[HWI.out]);simp[intOf];omega
  ·obtain rfl:i=parts.length:=by omega
   rw[List.take_length]at RI2;go_wp2_with fail
   go_end0
   exact⟨rfl,RI2.out,KB.next (KB.of XA.out) RK2.out⟩
def SetAt (w:World)(sb dm:Nat)(Q:P3->Prop):Prop:=Blk w sb #[.map (some dm)] 161/\∃ l:List P3,Mp Tryz.prog 32 pV bV w dm (blG l)/\∀ q,q∈l↔Q q
theorem SetAt.ext {w w':World} {sb dm:Nat} {Q:P3->Prop} (h:SetAt w sb dm Q)(hx:Ext w w'):SetAt w' sb dm Q:=by
 obtain⟨h1,l,h2,h3⟩:=h;exact⟨h1.below hx,l,h2.below hx,h3⟩
theorem SetAt.iff {w:World} {sb dm:Nat} {Q R:P3->Prop} (h:SetAt w sb dm Q)(hq:∀ q,Q q↔R q):SetAt w sb dm R:=by
 obtain⟨h1,l,h2,h3⟩:=h;exact⟨h1,l,h2,fun q=>(h3 q).trans (hq q)⟩
theorem put_blE (l:List P3)(a:P3):∃ l',putA (blG l) a true=blG l'/\∀ q,q∈l'↔q∈l\/q=a:=by
 by_cases h:a∈l
 ·refine⟨l,?_,fun q=>⟨.inl,fun h2=>h2.elim id fun e=>e▸h⟩⟩;induction l with
  | nil=>simp at h
  | cons x l ih =>
   simp only[blG,List.map_cons,putA]at *;by_cases e:x=a
   ·subst e;simp
   ·rw[if_neg e,ih (by simpa [Ne.symm e] using h)]
 ·refine⟨l++[a],?_,fun q=>by simp⟩;rw[put_miss (fun p hp e=>h (by obtain⟨x,hx,rfl⟩:=List.mem_map.1 hp;exact e▸hx))];simp[blG]
theorem SetAt.put {w:World} {sb dm:Nat} {Q:P3->Prop} (h:SetAt w sb dm Q)(a:P3)(ha:a.Ok):∃ w',(Instr.mapUpdate 161 (.map (some dm)) (pV a) (.bool true)).run Tryz.prog w = .ok () w'/\SetAt w' sb dm (fun q=>Q q\/q=a)/\Turned w w' dm:=by
 obtain⟨h1,l,h2,h3⟩:=h;obtain⟨w',hr,hm,ht⟩:=h2.store pointK pV_inj Tryz.underlying161 (point_key a ha) true;obtain⟨l',he,hl⟩:=put_blE l a;rw[he]at hm;refine⟨w',hr,⟨ht.kept.blk h1 fun e=>?_,l',hm,fun q=>by rw[hl,h3]⟩,ht⟩;subst e;exact h2.notCells _ _ _ h1
theorem cuts1_any (sb dm:Nat)(Q:P3->Prop)(m:NT)(v:NV2)(w:World)(hm:m.p.Ok)(h:SetAt w sb dm Q) :
  Calls Tryz.prog 91 #[nV2 m v,.pointer (some ⟨sb,0,none⟩)] w fun e w'=>e = .returned (.tuple #[])/\SetAt w' sb dm (fun q=>Q q\/q∈cutE m)/\KB dm w w':=by
 obtain⟨k,⟨pt,pi,pr⟩,subs,parts⟩:=m;obtain⟨wa,hwa⟩:∃ y,y=w.alloc (.cells #[.int .i64 k,.string pt,.string pi,.string pr,v.1,v.2] 45):=⟨_,rfl⟩;have xa:=h! (show Ext w wa from by rw[hwa];exact Ext.alloc _ _);have BA:=h! (show Blk wa w.heap.size #[.int .i64 k,.string pt,.string pi,.string pr,v.1,v.2] 45 from by rw[hwa];exact Blk.made _ _ _);have HS:=h! (h.ext xa.out);have HM:=h! hm;clear h hm;have hA:=BA.out.cells;have hB:=HS.out.1.cells;unfold nV2;dsimp only[NT.k,NT.p]at *;by_cases hk:k=0
 ·subst hk;obtain⟨w2,hrun,hs2,ht2⟩:=HS.out.put ⟨pt,pi,pr⟩ HM.out;have S2:=h! (hs2.iff (R:=fun q=>Q q\/q∈cutE (NT.mk 0 ⟨pt,pi,pr⟩ subs parts)) fun q=>by simp[cutE,NT.k,NT.p]);have K2:=h! (show KB dm w w2 from KB.next (KB.of xa.out) (ht2.kept.mono fun b hb=>hb.2));unfold pV at hrun;dsimp only at hrun;clear hs2 ht2;subst hwa;go_enter Tryz.func91,Tryz.ntmps91
  go_wp2_with fail
  go_end0
  exact⟨rfl,S2.out,K2.out⟩
 ·have hk2:(k == 0)=false:=by rw[beq_eq_false_iff_ne];exact hk
  have S2:=h! (HS.out.iff (R:=fun q=>Q q\/q∈cutE (NT.mk k ⟨pt,pi,pr⟩ subs parts)) fun q=>by simp[cutE,NT.k,hk]);have K2:=h! (show KB dm w wa from KB.of xa.out);clear hk;subst hwa;go_enter Tryz.func91,Tryz.ntmps91
  go_wp2_with fail
  go_end0
  exact⟨rfl,S2.out,K2.out⟩
theorem ecuts_any (n:NT)(v:NV2)(w:World)(h:NtAt (· < w.heap.size) w n v)(hs:n.sz<=1000000)(hok:n.Ok) :
  Calls Tryz.prog 30 #[nV2 n v] w fun e w'=>∃ (v':Value) (l:List P3),e = .returned v'/\UpP l/\(∀ q,q∈l↔q∈n.cuts)/\Own w' w.heap.size 32 3 v' (pcs l)/\Ext w w':=by
 obtain⟨a1,c1,a4,c4,rfl⟩:=h.shape;obtain⟨wa,hwa⟩:∃ y,y=w.alloc (.cells #[.int .i64 n.k,.string n.p.t,.string n.p.i,.string n.p.r,.slice a1 n.subs.length c1,.slice a4 n.ps.length c4] 45):=⟨_,rfl⟩;obtain⟨wb,hwb⟩:∃ y,y=wa.alloc (.map #[] 0):=⟨_,rfl⟩;obtain⟨wc,hwc⟩:∃ y,y=wb.alloc (.cells #[.map (some (w.heap.size+1))] 161):=⟨_,rfl⟩;have ea:wa.heap.size=w.heap.size+1:=by rw[hwa];simp
 have eb:wb.heap.size=w.heap.size+2:=by rw[hwb];simp[ea]
 have ec:wc.heap.size=w.heap.size+3:=by rw[hwc];simp[eb]
 have xa:Ext w wa:=by rw[hwa];exact Ext.alloc _ _
 have xb:Ext wa wb:=by rw[hwb];exact Ext.alloc _ _
 have xc:Ext wb wc:=by rw[hwc];exact Ext.alloc _ _
 have XC:=h! (xa.trans (xb.trans xc));have BA:=h! (show Blk wc w.heap.size #[.int .i64 n.k,.string n.p.t,.string n.p.i,.string n.p.r,.slice a1 n.subs.length c1,.slice a4 n.ps.length c4] 45 from Blk.below (by rw[hwa];exact Blk.made _ _ _) (xb.trans xc));have BS:=h! (show SetAt wc (w.heap.size+2) (w.heap.size+1) (fun q=>q∈([]:List NT).flatMap cutE)from⟨by rw[hwc,<- eb];exact Blk.made _ _ _,[],Mp.below (by rw[hwb,<- ea];exact Mp.made _) xc,fun q=>by simp⟩)
 have HW:=h! (nwalk_any 91 #[.pointer (some ⟨w.heap.size+2,0,none⟩)] (enters_of Tryz.func91 (by kernel_rfl) rfl) w.heap.size (w.heap.size+1) 1000000 (by omega) (fun m=>m.p.Ok) (fun ks W=>SetAt W (w.heap.size+2) (w.heap.size+1) (fun q=>q∈ks.flatMap cutE))
  (fun ks W W' h hx=>h.ext hx) (fun ks m v W h hG _ _ hk=>by
   refine(cuts1_any _ _ _ m v W hG h).mono ?_;rintro e w' ⟨rfl,h1,h2⟩;exact⟨rfl,h1.iff fun q=>by rw[List.flatMap_append,List.mem_append];simp,h2⟩) n (.slice a1 n.subs.length c1,.slice a4 n.ps.length c4) [] wc ((h.same (Same.below XC.out))) (by omega) (fun m hm=>(hok m hm).1) BS.out (by simpa using hs))
 have HC:=h! (cuts_pre n)
 have HZ:=h! (show n.cuts.length<=1000000 from by
  rw[cuts_pre]
  have h1:∀ l:List NT,(l.flatMap cutE).length<=l.length:=by
   intro l;induction l with
   | nil=>simp
   | cons x l ih =>
    have h2:(cutE x).length<=1:=by unfold cutE;split <;> simp
    rw[List.flatMap_cons,List.length_append,List.length_cons];omega
  have:=h1 n.pre;rw[pre_len]at this;omega)
 clear h hs hok ea eb ec xa xb xc;have hA:=BA.out.cells;have hmf:∀ (fn:Fn) (first cap:Array Value) (W:World),(Instr.makeFunc fn first cap).run Tryz.prog W = .ok (.func fn first cap) W:=fun _ _ _ _=>rfl;have hmm:=@run_makeMap Tryz.prog;subst hwc hwb hwa;unfold nV2 at *;dsimp only at *;go_enter Tryz.func30,Tryz.ntmps30
 go_wp2_with fail
 clear hA;refine HW.out.mono ?_;rintro e w2 ⟨rfl,hs2,hk2⟩;obtain⟨hb2,l,hm2,hl2⟩:=hs2;have X2:=h! (show Ext w w2 from⟨hk2.os.trans XC.out.os,hk2.tape.trans XC.out.tape,hk2.output.trans XC.out.output,Nat.le_trans XC.out.size hk2.size,fun b hb=>(hk2.block b ⟨Nat.lt_of_lt_of_le hb XC.out.size,by omega⟩).trans (XC.out.block b hb)⟩);have HL:=h! (show ∀ q,q∈l↔q∈n.cuts from fun q=>by rw[hl2 q,HC.out,List.nil_append])
 have HN:=h! (show l.length<=1000000 from by
  have hn:l.Nodup:=by have:=hm2.nodup;rwa[blG_keys]at this
  have:=nodup_le hn fun x hx=>(HL.out x).1 hx;have:=HZ.out;omega)
 have hc:=hb2.cells;have X3:=h! (Ext.alloc w2 (.cells #[.map (some (w.heap.size+1))] 161));have HK:=h! (keysP_any (some (w.heap.size+1)) w2);have HSO:=h! (sortedK_any (w2.alloc (.cells #[.map (some (w.heap.size+1))] 161)) w2.heap.size (some (w.heap.size+1)) (blG l) (by have:=HN.out;simp[blG];omega) (by simp) ((Blk.made w2 #[.map (some (w.heap.size+1))] 161).cells 0) (show MpO Tryz.prog 32 pV bV _ (some (w.heap.size+1)) (blG l)from hm2.below X3.out));clear hb2 hm2 hl2 hk2 HW hmm;go_wp2_with fail
 clear hc;refine HK.out.mono ?_;rintro e w3 ⟨rfl,rfl⟩;go_wp2_with fail
 refine HSO.out.mono ?_;rintro e w4 ⟨v',ss,rfl,hp,hu,ho,hb⟩;have HR:=h! (show UpP ss/\(∀ q,q∈ss↔q∈n.cuts)from⟨hu,fun q=>by rw[hp.mem_iff,blG_keys];exact HL.out q⟩);have HO:=h! (show Own w4 w.heap.size 32 3 v' (pcs ss)from ho.low (Nat.le_trans X2.out.size X3.out.size));have X4:=h! (show Ext w w4 from X2.out.trans (X3.out.trans hb));clear hp hu ho hb HSO HK hmf;go_wp2_with fail
 go_ret
 exact⟨_,_,rfl,HR.out.1,HR.out.2,HO.out,X4.out⟩
end Go.Proofs.YtlhaghoajpglaaaGreat
namespace Go.Proofs.YtlhaghoajpglaaaGreat
open Go Go.RowKit
theorem dd_short {l:List Tup} (h:l.length<2):dd l=l:=by
 unfold dd;rw[ddN_same l _ (Nat.le_refl _) fun j h0 h1=>by omega,List.take_length]
theorem compactT_any {B:Nat} (v:Value)(l:List Tup)(w:World)(h:Own w B 67 6 v (tuCs l))(hl:l.length<=1099511627776) :
  Calls Tryz.prog 79 #[v] w fun e w'=>∃ v',e = .returned v'/\Own w' B 67 6 v' (tuCs (dd l))/\Kept (fun b=>b<w.heap.size/\v.ownBlock≠some b) w w':=by
 obtain⟨ao,n,c,rfl,hn,hnc,hcm⟩:=h.sl.len;obtain rfl:n=l.length:=by rw[tuCs_length]at hn;omega
 have HL:=h! hl;have HO:=h! h;have hsh:=h.shape;clear h hn;by_cases hlt:l.length<2
 ·have HD:=h! (dd_short hlt);have hi:(l.length:Int)<2:=by omega
  go_enter Tryz.func79,Tryz.ntmps79
  go_wp2_with fail
  go_ret
  exact⟨_,rfl,by rw[HD.out];exact HO.out,Kept.refl _ _⟩
 have hi:¬ ((l.length:Int)<2):=by omega
 obtain⟨g,rfl⟩:∃ g,ao=some ⟨g,0,none⟩:=by
  rcases hsh with⟨h,_⟩ | ⟨g,n,c,h⟩
  ·injection h with _ h _
   omega
  ·exact⟨g,by injection h⟩
 clear hsh;have H2:=h! (show 2<=l.length from by omega);go_enter Tryz.func79,Tryz.ntmps79
 go_wp2_with fail
 clear hi hlt;go_loopw [3] (fun kv wr=>∃ m:Nat,kv = .int .i64 ((m+1:Nat):Int)/\m+1<=l.length/\(∀ j,0<j->j<m+1->l[j]?≠l[j-1]?)/\Own wr B 67 6 (.slice (some ⟨g,0,none⟩) l.length c) (tuCs l)/\Kept (fun b=>b<w.heap.size/\(Value.slice (some ⟨g,0,none⟩) l.length c).ownBlock≠some b) w wr) (fun kv _=>l.length-(intOf kv).toNat)
 case atStart=>exact⟨0,rfl,by have:=H2.out;omega,(fun j h0 h1=>by omega),HO.out,Kept.refl _ _⟩
 case round =>
  obtain⟨m,rfl,hm,hne,ho,hk⟩:=hrel;have RO:=h! ho;have RK:=h! hk;have RN:=h! hne;have hll:=HL.out;clear HO ho hk hne;by_cases hlt:m+1<l.length
  ·have HLT:=h! hlt;have hl0:m<l.length:=by omega
   have HNX:=h! (show l[m+1]≠l[m]->∀ j,0<j->j<m+2->l[j]?≠l[j-1]? from fun he j h0 h1=>by
    by_cases hj:j<m+1
    ·exact RN.out j h0 hj
    ·obtain rfl:j=m+1:=by omega
     rw[Nat.add_sub_cancel,List.getElem?_eq_getElem hlt,List.getElem?_eq_getElem hl0];exact fun e=>he (by injection e))
   have HEQ:=h! (show l[m+1]=l[m]->l.take (m+1)=ddN l (m+2)from fun he=>by
    rw[ddN,if_neg (by
     rintro(h | h)
     ·omega
     ·apply h;rw[Nat.add_sub_cancel,List.getElem?_eq_getElem hlt,List.getElem?_eq_getElem hl0];exact congrArg some he),List.append_nil,ddN_same l (m+1) hm RN.out])
   go_wp2_with fail
   obtain⟨wd,hwd⟩:∃ y:World,y=wr.drew:=⟨_,rfl⟩;have DO:=h! (show Own wd B 67 6 (.slice (some ⟨g,0,none⟩) l.length c) (tuCs l)from by rw[hwd];exact RO.out.below (Ext.drew _));have DK:=h! (show Kept (fun b=>b<w.heap.size/\(Value.slice (some ⟨g,0,none⟩) l.length c).ownBlock≠some b) w wd from by rw[hwd];exact RK.out.drew);refine r! (Ext wd) (by rw[<- hwd];exact Ext.refl _) ?_;rw[<- hwd];clear hwd RO RK;have k0:=fun W (hW:Ext wd W)=>((DO.out.below hW).tupAt (m+1) hlt).1;have k1:=fun W (hW:Ext wd W)=>((DO.out.below hW).tupAt (m+1) hlt).2.1;have k2:=fun W (hW:Ext wd W)=>((DO.out.below hW).tupAt (m+1) hlt).2.2.1;have k3:=fun W (hW:Ext wd W)=>((DO.out.below hW).tupAt (m+1) hlt).2.2.2.1;have k4:=fun W (hW:Ext wd W)=>((DO.out.below hW).tupAt (m+1) hlt).2.2.2.2.1;have k5:=fun W (hW:Ext wd W)=>((DO.out.below hW).tupAt (m+1) hlt).2.2.2.2.2;have j0:=fun W (hW:Ext wd W)=>((DO.out.below hW).tupAt m hl0).1;have j1:=fun W (hW:Ext wd W)=>((DO.out.below hW).tupAt m hl0).2.1;have j2:=fun W (hW:Ext wd W)=>((DO.out.below hW).tupAt m hl0).2.2.1;have j3:=fun W (hW:Ext wd W)=>((DO.out.below hW).tupAt m hl0).2.2.2.1;have j4:=fun W (hW:Ext wd W)=>((DO.out.below hW).tupAt m hl0).2.2.2.2.1;have j5:=fun W (hW:Ext wd W)=>((DO.out.below hW).tupAt m hl0).2.2.2.2.2;have hq:=fun W=>tup_eq l[m+1] l[m] W;generalize l[m+1]=x at *;generalize l[m]=y at *;have hw1:IntKind.i64.wrap (m:Int)=(m:Int):=IntWalk.i64_in _ (by omega);have hi1:(m:Int)<(l.length:Int):=by omega
   have hi2:((m:Int)+1)<(l.length:Int):=by omega
   have hi3:(0:Int)<=(m:Int)+1:=by omega
   by_cases he:x=y
   ·have HE2:=h! (HEQ.out he);subst he
    have hqt:∀ W,(binOp BinOp.eql 67 (tV x) (tV x)).run Tryz.prog W = .ok (.bool true) W:=fun W=>by
     have:=hq W;rwa[decide_eq_true rfl]at this
    clear hq HEQ HNX;obtain⟨⟨x1,x2,x3⟩,⟨x4,x5,x6⟩⟩:=x;unfold tV at hqt;dsimp only at hqt k0 k1 k2 k3 k4 k5 j0 j1 j2 j3 j4 j5;(refine WalkN.tk [0,1,2,3,4,5,6,7,8,9] ?_;(iterate 10 (refine c! ?_));refine TkN.n ?_)
    refine d! ?_;clear k0 k1 k2 k3 k4 k5 j0 j1 j2 j3 j4 j5 hqt hw1;have hi4:((m:Int)+1)<=(l.length:Int):=by omega
    have hi5:m+1<=l.length:=hm;go_wp2_with fail
    clear hi1 hi2 hi3 hi4 hi5;go_loopw [3,5] (fun kv jv wr=>∃ (q a:Nat) (R:List Tup),kv = .int .i64 q/\jv = .int .i64 ((a+1:Nat):Int)/\q<=m+1+a/\1<=q/\m+1+a+1<=l.length/\R.length=l.length/\R.take q=ddN l (m+1+a+1)/\(∀ j,m+1+a<=j->R[j]?=l[j]?)/\Own wr B 67 6 (.slice (some ⟨g,0,none⟩) l.length c) (tuCs R)/\Kept (fun b=>b<w.heap.size/\(Value.slice (some ⟨g,0,none⟩) l.length c).ownBlock≠some b) w wr) (fun _ jv _=>l.length-(intOf jv).toNat)
    case atStart=>exact⟨m+1,0,l,rfl,rfl,by omega,by omega,by have:=HLT.out;omega,rfl,HE2.out,(fun _ _=>rfl),DO.out,DK.out⟩
    case round =>
     obtain⟨q,a,R,rfl,rfl,hqp,hq1,hpl,hRl,hRt,hRj,ho2,hk2⟩:=hrel;have QO:=h! ho2;have QK2:=h! hk2;have QL:=h! hRl;have QT:=h! hRt;have QJ:=h! hRj;have QP:=h! (And.intro hqp (And.intro hq1 hpl));clear DO DK ho2 hk2 hRl hRt hRj hqp hq1 HE2;by_cases hlt2:m+1+a+1<l.length
     ·have HLT2:=h! hlt2;have hRp:m+1+a+1<R.length:=by rw[QL.out];exact hlt2
      have hRq:m+1+a<R.length:=by omega
      have hx:R[m+1+a+1]?=l[m+1+a+1]?:=QJ.out _ (by omega);have hy:R[m+1+a]?=l[m+1+a]?:=QJ.out _ (by omega);rw[List.getElem?_eq_getElem hRp]at hx;rw[List.getElem?_eq_getElem hRq]at hy
      have HDN:=h! (show ddN l (m+1+a+1+1)=ddN l (m+1+a+1)++(if R[m+1+a+1]≠R[m+1+a]then [R[m+1+a+1]]else [])from by
       rw[ddN,Nat.add_sub_cancel,<- hx,<- hy];congr 1
       by_cases he:R[m+1+a+1]=R[m+1+a]
       ·rw [if_neg (by rintro (h | h); · omega
                       · exact h (congrArg some he)),if_neg (fun h=>h he)]
       ·rw[if_pos (.inr fun h=>he (by injection h)),if_pos he];rfl)
      clear hx hy;have hii:((a:Int)+1)<((l.length-(m+1):Nat):Int):=by omega
      go_wp2_with fail
      obtain⟨wd,hwd⟩:∃ y:World,y=wr.drew:=⟨_,rfl⟩;have DO:=h! (show Own wd B 67 6 (.slice (some ⟨g,0,none⟩) l.length c) (tuCs R)from by rw[hwd];exact QO.out.below (Ext.drew _));have DK:=h! (show Kept (fun b=>b<w.heap.size/\(Value.slice (some ⟨g,0,none⟩) l.length c).ownBlock≠some b) w wd from by rw[hwd];exact QK2.out.drew);refine r! (Ext wd) (by rw[<- hwd];exact Ext.refl _) ?_;rw[<- hwd];clear hwd QO QK2;have hs1:(m+1+a+1)*6=(m+1)*6+(a+1)*6:=by omega
      have hs2:(m+1+a)*6=(m+1)*6+a*6:=by omega
      have KA:=fun W (hW:Ext wd W)=>(DO.out.below hW).tupAt (m+1+a+1) hRp;have JA:=fun W (hW:Ext wd W)=>(DO.out.below hW).tupAt (m+1+a) hRq;simp only[hs1]at KA;simp only[hs2]at JA;have KB:=h! (DO.out.tupAt (m+1+a+1) hRp);rw[hs1]at KB;have k0:=fun W hW=>(KA W hW).1;have k1:=fun W hW=>(KA W hW).2.1;have k2:=fun W hW=>(KA W hW).2.2.1;have k3:=fun W hW=>(KA W hW).2.2.2.1;have k4:=fun W hW=>(KA W hW).2.2.2.2.1;have k5:=fun W hW=>(KA W hW).2.2.2.2.2;have j0:=fun W hW=>(JA W hW).1;have j1:=fun W hW=>(JA W hW).2.1;have j2:=fun W hW=>(JA W hW).2.2.1;have j3:=fun W hW=>(JA W hW).2.2.2.1;have j4:=fun W hW=>(JA W hW).2.2.2.2.1;have j5:=fun W hW=>(JA W hW).2.2.2.2.2;clear KA JA hs1 hs2;have hq:=fun W=>tup_neq R[m+1+a+1] R[m+1+a] W;have HSET:=h! (fun w' (ho:Own w' B 67 6 (.slice (some ⟨g,0,none⟩) l.length c) (tuCs R))=>ho.setTup q R[m+1+a+1] (by have:=QP.out.1;omega))
      have HTK:=h! (show(R.set q R[m+1+a+1]).take (q+1)=R.take q++[R[m+1+a+1]]from by
       have hql:q<R.length:=by have:=QP.out.1;omega
       rw[List.take_succ_eq_append_getElem (by simpa using hql),List.getElem_set_self,List.take_set_of_le (Nat.le_refl q)])
      have HJ2:=h! (show ∀ j,m+1+(a+1)<=j->(R.set q R[m+1+a+1])[j]?=l[j]? from fun j hj=>by
       rw[List.getElem?_set_ne (by have:=QP.out.1;omega)];exact QJ.out j (by omega))
      have hgen:∃ x,x=R[m+1+a+1]:=⟨_,rfl⟩;generalize R[m+1+a+1]=x at *;generalize R[m+1+a]=y at *;have hw1:IntKind.i64.wrap (a:Int)=(a:Int):=IntWalk.i64_in _ (by omega);have hi1:(a:Int)<((l.length-(m+1):Nat):Int):=by omega
      have hi3:(0:Int)<=(a:Int)+1:=by omega
      have hqp:=QP.out.1;have hq1:=QP.out.2.1;by_cases he:x=y
      ·have HD2:=h! (show ddN l (m+1+a+1+1)=ddN l (m+1+a+1)from by rw[HDN.out,if_neg (fun h=>h he),List.append_nil]);subst he
       have hqt:∀ W,(binOp BinOp.neq 67 (tV x) (tV x)).run Tryz.prog W = .ok (.bool false) W:=fun W=>by
        have:=hq W;rwa[decide_eq_false (fun h=>h rfl)]at this
       clear hq HDN HSET HTK HJ2 KB hgen;obtain⟨⟨x1,x2,x3⟩,⟨x4,x5,x6⟩⟩:=x;unfold tV at hqt;dsimp only at hqt k0 k1 k2 k3 k4 k5 j0 j1 j2 j3 j4 j5;(refine WalkN.tk [0,1,2,3,4,5,6,7,8,9] ?_;(iterate 10 (refine c! ?_));refine TkN.n ?_)
       refine d! ?_;clear k0 k1 k2 k3 k4 k5 j0 j1 j2 j3 j4 j5 hqt hw1 hi1 hi3 hii;go_wp2_with fail
       go_roundw
       case rel=>exact⟨q,a+1,R,rfl,by go_num,by omega,hq1,by have:=HLT2.out;omega,QL.out,by rw[QT.out];exact HD2.out.symm,(fun j hj=>QJ.out j (by omega)),DO.out,DK.out⟩
       case measure=>have:=HLT2.out;simp[intOf];omega
      ·have HD2:=h! (show ddN l (m+1+a+1+1)=ddN l (m+1+a+1)++[x]from by rw[HDN.out,if_pos he])
       have hqt:∀ W,(binOp BinOp.neq 67 (tV x) (tV y)).run Tryz.prog W = .ok (.bool true) W:=fun W=>by
        have:=hq W;rwa[decide_eq_true he]at this
       clear hq HDN hgen he;obtain⟨⟨x1,x2,x3⟩,⟨x4,x5,x6⟩⟩:=x;obtain⟨⟨y1,y2,y3⟩,⟨y4,y5,y6⟩⟩:=y;unfold tV at hqt;dsimp only at hqt k0 k1 k2 k3 k4 k5 j0 j1 j2 j3 j4 j5 KB HSET;(refine WalkN.tk [0,1,2,3,4,5,6,7,8,9] ?_;(iterate 10 (refine c! ?_));refine TkN.n ?_)
       refine d! ?_;clear k0 k1 k2 k3 k4 k5 j0 j1 j2 j3 j4 j5 hqt hw1;obtain⟨b0,b1,b2,b3,b4,b5⟩:=KB.out;obtain⟨cur,hcur⟩:=DO.out.typed (g:=g) rfl;have hfr:=Blk.free (show Blk wd g cur 67 from hcur);obtain⟨d0,d1,d2,d3,d4,d5⟩:=DO.out.tupAt q (by rw[QL.out];omega);have hqi:(q:Int)<(l.length:Int):=by omega
       have hqi0:(0:Int)<=(q:Int):=by omega
       have hst:=run_storeCells_cells (P:=Tryz.prog) g (q*6) [.string x1,.string x2,.string x3,.string x4,.string x5,.string x6] 0 wd (by
        intro j hj;simp only[List.length_cons,List.length_nil]at hj;match j,hj with
        | 0,_=>rw[show q*6+0+0=q*6 from rfl,d0];rfl
        | 1,_=>rw[show q*6+0+1=q*6+1 from rfl,d1];rfl
        | 2,_=>rw[show q*6+0+2=q*6+2 from rfl,d2];rfl
        | 3,_=>rw[show q*6+0+3=q*6+3 from rfl,d3];rfl
        | 4,_=>rw[show q*6+0+4=q*6+4 from rfl,d4];rfl
        | 5,_=>rw[show q*6+0+5=q*6+5 from rfl,d5];rfl) (fun j _=>hfr _) (by simp[Value.oneCell'])
       simp only[Nat.add_zero]at hst;clear d0 d1 d2 d3 d4 d5 hfr hcur
       have hrun:(Instr.storeAt 67 (.pointer (some ⟨g,q*6,none⟩)) (.agg #[.string x1,.string x2,.string x3,.string x4,.string x5,.string x6])).run Tryz.prog wd = .ok () (wd.setCells g (q*6) [.string x1,.string x2,.string x3,.string x4,.string x5,.string x6]):=by
        simp[Instr.storeAt,Instr.sureAddr,storeVar,Value.cells,Tryz.sizeOf67,hst,Result.andThen]
       have hsc:wd.setCells g (q*6) [.string x1,.string x2,.string x3,.string x4,.string x5,.string x6]=(((((wd.setCell ⟨g,q*6,none⟩ (.string x1)).setCell ⟨g,q*6+1,none⟩ (.string x2)).setCell ⟨g,q*6+2,none⟩ (.string x3)).setCell ⟨g,q*6+3,none⟩ (.string x4)).setCell ⟨g,q*6+4,none⟩ (.string x5)).setCell ⟨g,q*6+5,none⟩ (.string x6):=by simp only[World.setCells,Nat.add_assoc,Nat.reduceAdd]
       obtain⟨w8,hw8⟩:∃ y,y=wd.setCells g (q*6) [.string x1,.string x2,.string x3,.string x4,.string x5,.string x6]:=⟨_,rfl⟩;rw[<- hw8]at hrun;have HO8:=h! (show Own w8 B 67 6 (.slice (some ⟨g,0,none⟩) l.length c) (tuCs (R.set q ⟨⟨x1,x2,x3⟩,⟨x4,x5,x6⟩⟩))from by rw[hw8,hsc];exact HSET.out _ DO.out);have HK8:=h! (show Kept (fun b=>b<w.heap.size/\(Value.slice (some ⟨g,0,none⟩) l.length c).ownBlock≠some b) w w8 from by rw[hw8];exact DK.out.setMany (g:=g) (fun h=>h.2 rfl) _ _);clear hst hsc hw8 HSET;go_wp2_with ((with_reducible refine wpList_store (x := .pointer (some ⟨g,q*6,none⟩)) (v := .agg #[.string x1,.string x2,.string x3,.string x4,.string x5,.string x6]) (w':=w8) ?hA ?hV ?hR ?hK);(case hA=>rfl);(case hV=>rfl);(case hR=>exact hrun);clear b0 b1 b2 b3 b4 b5 hqi hqi0 hi1 hi3 hii hrun DO DK)
       go_roundw
       case rel=>exact⟨q+1,a+1,R.set q ⟨⟨x1,x2,x3⟩,⟨x4,x5,x6⟩⟩,by go_num,by go_num,by omega,by omega,by have:=HLT2.out;omega,by rw[List.length_set];exact QL.out,by rw[HTK.out,QT.out];exact HD2.out.symm,HJ2.out,HO8.out,HK8.out⟩
       case measure=>have:=HLT2.out;simp[intOf];omega
     ·have hpe:m+1+a+1=l.length:=by omega
      rw[hpe]at QT;have hii:¬ (((a:Int)+1)<((l.length-(m+1):Nat):Int)):=by omega
      have hqp:=QP.out.1;have hql:q<l.length:=by omega
      have hqi:(q:Int)<=(l.length:Int):=by omega
      have hqi0:(0:Int)<=(q:Int):=by omega
      have hqc:q<=c:=by omega
      have hcq:¬ (c=q):=by omega
      obtain⟨vs,hcl⟩:=clearT QO.out QL.out.symm q hql 0 (c-q);obtain⟨w8,hw8⟩:∃ y,y=wr.setCells g (q*6) vs:=⟨_,rfl⟩;rw[<- hw8]at hcl
      have HO8:=h! (show Own w8 B 67 6 (.slice (some ⟨g,0,none⟩) q c) (tuCs (dd l))from by
       have h1:=(Own.setMany vs (q*6) QO.out).cutT (k:=q) (Nat.le_of_lt hql);rw[setL_take _ _ _ _ (Nat.le_refl _),tuCs_take,QT.out]at h1;rw[hw8];exact h1)
      have HK8:=h! (show Kept (fun b=>b<w.heap.size/\(Value.slice (some ⟨g,0,none⟩) l.length c).ownBlock≠some b) w w8 from by rw[hw8];exact QK2.out.setMany (g:=g) (fun h=>h.2 rfl) _ _);clear hw8 hqp hlt2 QO QK2 QT hpe;go_wp2_with ((with_reducible refine wpList_clear (v := .slice (some ⟨g,q*6,none⟩) (l.length-q) (c-q)) (w':=w8) (r := .tuple #[]) ?hV ?hR ?hK);(case hV=>rfl);(case hR=>exact hcl);clear hcl)
      go_ret
      exact⟨_,rfl,HO8.out,HK8.out⟩
   ·have HN2:=h! (HNX.out he)
    have hqf:∀ W,(binOp BinOp.eql 67 (tV x) (tV y)).run Tryz.prog W = .ok (.bool false) W:=fun W=>by
     have:=hq W;rwa[decide_eq_false he]at this
    clear hq HEQ HNX he;obtain⟨⟨x1,x2,x3⟩,⟨x4,x5,x6⟩⟩:=x;obtain⟨⟨y1,y2,y3⟩,⟨y4,y5,y6⟩⟩:=y;unfold tV at hqf;dsimp only at hqf k0 k1 k2 k3 k4 k5 j0 j1 j2 j3 j4 j5;(refine WalkN.tk [0,1,2,3,4,5,6,7,8,9] ?_;(iterate 10 (refine c! ?_));refine TkN.n ?_)
    refine d! ?_;clear k0 k1 k2 k3 k4 k5 j0 j1 j2 j3 j4 j5 hqf hw1 hi1 hi2 hi3;go_wp2_with fail
    go_roundw
    case rel=>exact⟨m+1,by go_num,by have:=HLT.out;omega,HN2.out,DO.out,DK.out⟩
    case measure=>have:=HLT.out;simp[intOf];omega
  ·obtain hlen:m+1=l.length:=by omega
   have HD:=h! (show dd l=l from by
    unfold dd;rw[ddN_same l _ (Nat.le_refl _) fun j h0 h1=>RN.out j h0 (by omega),List.take_length])
   go_wp2_with fail
   go_ret
   exact⟨_,rfl,by rw[HD.out];exact RO.out,RK.out⟩
end Go.Proofs.YtlhaghoajpglaaaGreat
