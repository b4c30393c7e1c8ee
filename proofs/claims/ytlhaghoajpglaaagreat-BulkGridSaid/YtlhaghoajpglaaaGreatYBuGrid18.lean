/- Lemmas for the claim, no condition. -/
import Derived.Carry
import Derived.Sort.MapsRangeIn
import Derived.RangeFuncGives
import Derived.RangeFuncNested
import Derived.WalkKit
import Derived.TacticsInMore
import Derived.RegionIn
import Derived.LoopNIn
import Derived.LoopIn
import Derived.Sort.KeysCollected
import Derived.RangeFuncLeaves
import Derived.OwnWalkIn
import Derived.Test.YtlhaghoajpglaaaGreatYBuGrid17
import Derived.Test.YtlhaghoajpglaaaGreatYBuGrid5
import Derived.Test.YtlhaghoajpglaaaGreatYBuGrid9
import Derived.Test.YtlhaghoajpglaaaGreatYBuGrid10
import Derived.Test.YtlhaghoajpglaaaGreatYBuGrid1
import Derived.Test.YtlhaghoajpglaaaGreatYBuGrid14
import Derived.Test.YtlhaghoajpglaaaGreatYBuGrid12
import Derived.Test.YtlhaghoajpglaaaGreatYBuGrid3
import Derived.Test.YtlhaghoajpglaaaGreatYBuGrid15
import Derived.Test.YtlhaghoajpglaaaGreatYBuGrid2
import Derived.Test.YtlhaghoajpglaaaGreatYBuGrid13
import Derived.Test.YtlhaghoajpglaaaGreatYBuGrid0
import Derived.Test.YtlhaghoajpglaaaGreatYBuGrid8
import Derived.Test.YtlhaghoajpglaaaGreatYBuGrid7
set_option maxRecDepth 100000
set_option maxHeartbeats 6000000
namespace Go.Proofs.YtlhaghoajpglaaaGreat
open Go Go.RowKit Go.Maps
structure SchArg (ts:List TyS):Prop where
 ok:∀ t∈ts,t.Ok
 bk:schB ts<=549755813888
 sz:∀ t∈ts,∀ r∈t.rels,r.2.sz<=1000000
 nms:(namesOf ts).length<=1099511627776
 rfs:(refsOf ts).length<=1099511627776
theorem bstart_any (ts:List TyS)(tv:Value)(b:Nat)(T:List Tup)(shut:List R2)(sv:Value)(most:Int)(w:World)(hI:AskIn w ts tv b T shut sv)(hS:SchArg ts)(hc:chk06 ts=0) :
  Calls Tryz.prog 101 #[.agg #[tv],bkV b,sv,.int .i64 most] w fun e w'=>∃ xb gm km,e = .returned (.tuple #[.pointer (some ⟨xb,0,none⟩),.int .i64 0])/\AskrAt (fun _=>False) w w' xb gm km tv (bkV b) sv most ts T shut [] []:=by
 have HI:=h! hI;obtain⟨ao,c,rfl,-⟩:=hI.Y.rows;obtain⟨so,sc,rfl,-⟩:=Sl.rows r2C_length (by decide) hI.V;obtain⟨wa,hwa⟩:∃ x,x=w.alloc (.cells #[.slice ao ts.length c] 26):=⟨_,rfl⟩;have XA:=h! (show Ext w wa from by rw[hwa];exact Ext.alloc _ _);have BS:=h! (show Blk wa w.heap.size #[.slice ao ts.length c] 26 from by rw[hwa];exact Blk.made _ _ _);have HCH:=h! (checkP_any ts _ wa (hI.Y.up XA.out) hS.ok hS.bk hS.sz hS.nms hS.rfs);rw[hc]at HCH;have sb:=BS.out.cells;have hmm:=@run_makeMap Tryz.prog;clear hI hS hc;subst hwa;go_enter Tryz.func101,Tryz.ntmps101
 go_wp2_with fail
 refine HCH.out.mono ?_;rintro e w1 ⟨rfl,hb1⟩;have X1:=h! (show Ext w w1 from Ext.trans XA.out hb1);have sb1:=(BS.out.below hb1).cells;clear hb1 HCH sb;obtain⟨w2,hw2⟩:∃ y,y=w1.alloc (.map #[] 0):=⟨_,rfl⟩;obtain⟨w3,hw3⟩:∃ y,y=w2.alloc (.map #[] 0):=⟨_,rfl⟩;obtain⟨w4,hw4⟩:∃ y,y=w3.alloc (.cells #[.slice ao ts.length c,bkV b,.slice so shut.length sc,.int .i64 most,.map (some w1.heap.size),.map (some (w1.heap.size+1))] 264):=⟨_,rfl⟩;have e2:w2.heap.size=w1.heap.size+1:=by rw[hw2];simp
 have e3:w3.heap.size=w1.heap.size+2:=by rw[hw3];simp[e2]
 have x12:Ext w1 w2:=by rw[hw2];exact Ext.alloc _ _
 have x23:Ext w2 w3:=by rw[hw3];exact Ext.alloc _ _
 have x34:Ext w3 w4:=by rw[hw4];exact Ext.alloc _ _
 have HF:=h! (show AskrAt (fun _=>False) w w4 (w1.heap.size+2) w1.heap.size (w1.heap.size+1) (.slice ao ts.length c) (bkV b) (.slice so shut.length sc) most ts T shut [] [] from
  ⟨X1.out.trans (x12.trans (x23.trans x34)),by have:=X1.out.size;omega,by rw[hw4,<- e3];exact Blk.made _ _ _,Mp.below (show Mp _ _ _ _ w2 w1.heap.size []from by rw[hw2];exact Mp.made w1) (x23.trans x34),Mp.below (show Mp _ _ _ _ w3 (w1.heap.size+1) []from by rw[hw3,<- e2];exact Mp.made w2) x34,(fun e he=>by cases he),(fun e he=>by cases he),by omega⟩)
 clear e2 e3 x12 x23 x34;subst hw4 hw3 hw2;unfold bkV at *;go_wp2_with fail
 go_ret2
 exact⟨_,_,_,rfl,HF.out⟩
theorem bstartF_any (ts:List TyS)(tv sv mv:Value)(w:World)(h:TysAt (· < w.heap.size) w ts tv)(hS:SchArg ts)(hc:chk06 ts=0) :
  Calls Tryz.prog 101 #[.agg #[tv],.nilIface,sv,mv] w fun e w'=>e = .returned (.tuple #[.pointer none,.int .i64 1])/\Ext w w':=by
 obtain⟨ao,c,rfl,-⟩:=h.rows;obtain⟨wa,hwa⟩:∃ x,x=w.alloc (.cells #[.slice ao ts.length c] 26):=⟨_,rfl⟩;have XA:=h! (show Ext w wa from by rw[hwa];exact Ext.alloc _ _);have BS:=h! (show Blk wa w.heap.size #[.slice ao ts.length c] 26 from by rw[hwa];exact Blk.made _ _ _);have HCH:=h! (checkP_any ts _ wa (h.up XA.out) hS.ok hS.bk hS.sz hS.nms hS.rfs);rw[hc]at HCH;have sb:=BS.out.cells;clear h hS hc;subst hwa;go_enter Tryz.func101,Tryz.ntmps101
 go_wp2_with fail
 refine HCH.out.mono ?_;rintro e w1 ⟨rfl,hb1⟩;have X1:=h! (show Ext w w1 from Ext.trans XA.out hb1);clear hb1 HCH sb;go_wp2_with fail
 go_ret2
 exact⟨rfl,X1.out⟩
theorem AskIn.up {w w':World} {ts:List TyS} {tv:Value} {b:Nat} {T:List Tup} {shut:List R2} {sv:Value} (h:AskIn w ts tv b T shut sv)(hx:Ext w w'):AskIn w' ts tv b T shut sv :=
 ⟨h.Y.up hx,h.K.ext hx,(h.V.same (Same.below hx)).mono fun _ hb=>Nat.lt_of_lt_of_le hb hx.size⟩
theorem many_any (ts:List TyS)(tv:Value)(b:Nat)(T:List Tup)(shut:List R2)(sv:Value)(l:List AQ)(lv:Value)(most:Int)(w:World)(hI:AskIn w ts tv b T shut sv)(hS:SchArg ts)(hc:chk06 ts=0)
  (hl:Sl (· < w.heap.size) w 6 lv (l.flatMap aqC)) (hA:∀ a∈l,HasArg ts T shut a.1/\a.1.Ok/\a.2.Ok) (hll:l.length<=1000000) :
  Calls Tryz.prog 40 #[.agg #[tv],bkV b,sv,lv,.int .i64 most] w fun e w'=>(∃ v,AllSaid ts T shut l most w.heap.size v e w')/\Ext w w':=by
 obtain⟨ao,c,rfl,-⟩:=hI.Y.rows;obtain⟨wa,hwa⟩:∃ x,x=w.alloc (.cells #[.slice ao ts.length c] 26):=⟨_,rfl⟩;have XA:=h! (show Ext w wa from by rw[hwa];exact Ext.alloc _ _);have BS:=h! (show Blk wa w.heap.size #[.slice ao ts.length c] 26 from by rw[hwa];exact Blk.made _ _ _);have HI:=h! (hI.up XA.out);have HST:=h! (bstart_any ts _ b T shut sv most wa HI.out hS hc);have HL:=h! hl;have HA:=h! hA;have HLL:=h! hll;have sb:=BS.out.cells;clear hI hS hc hl hA hll;subst hwa;go_enter Tryz.func40,Tryz.ntmps40
 go_wp2_with fail
 refine HST.out.mono ?_;rintro e w1 ⟨xb,gm,km,rfl,hs⟩;have X1:=h! (show Ext w w1 from Ext.trans XA.out hs.X)
 have HAL:=h! (all_any HI.out l lv w1 hs (fun _ h=>h.elim) ((HL.out.same (Same.below X1.out)).mono fun x hx=>by
  have h1:=hs.lo;have h2:=XA.out.size;have h3:=X1.out.size;refine⟨by omega,?_,?_⟩ <;> · simp at h1;omega) HA.out HLL.out)
 have HLO:=h! hs.lo;clear hs HST sb;go_wp2_with fail
 refine HAL.out.mono ?_;rintro e w2 ⟨⟨v,lg,lk,hs2,hsd⟩,hk2⟩;have X2:=h! (show Ext w w2 from Ext.trans XA.out hs2.X);have HSZ:=h! X1.out.size;clear hs2 hk2 HAL;rcases hsd with⟨hw,rfl,ho⟩ | ⟨hlg,rfl,rfl⟩
 ·have HW:=h! hw;have HO:=h! ho;obtain⟨vo,vn,vc,rfl,-⟩:=ho.sl.len;clear hw ho;go_wp2_with fail
  go_ret2
  exact⟨⟨_,.inl ⟨HW.out,rfl,HO.out.mono HSZ.out⟩⟩,X2.out⟩
 ·have HLG:=h! hlg;clear hlg;go_wp2_with fail
  go_ret2
  exact⟨⟨_,.inr ⟨HLG.out,rfl,rfl⟩⟩,X2.out⟩
theorem manyN_any (ts:List TyS)(tv fv sv lv mv:Value)(k:Int)(hk:(k != 0)=true)(w:World)(h:TysAt (· < w.heap.size) w ts tv)
  (hs:∀ W,Ext w W->Calls Tryz.prog 101 #[.agg #[tv],fv,sv,mv] W fun e w'=>e = .returned (.tuple #[.pointer none,.int .i64 k])/\Ext W w') :
  Calls Tryz.prog 40 #[.agg #[tv],fv,sv,lv,mv] w fun e w'=>e = .returned (.tuple #[.slice none 0 0,.int .i64 k])/\Ext w w':=by
 obtain⟨ao,c,rfl,-⟩:=h.rows;have XA:=h! (Ext.alloc w (.cells #[.slice ao ts.length c] 26));have HST:=h! (hs _ XA.out);have sb:=(Blk.made w #[.slice ao ts.length c] 26).cells;clear h hs;go_enter Tryz.func40,Tryz.ntmps40
 go_wp2_with fail
 refine HST.out.mono ?_;rintro e w1 ⟨rfl,hb1⟩;have X1:=h! (show Ext w w1 from Ext.trans XA.out hb1);clear hb1 HST sb;go_wp2_with fail
 go_ret2
 exact⟨rfl,X1.out⟩
def txtL:ByteArray:=⟨#[116,121,112,101,32,100,111,99,10,118,105,101,119,101,114,32,61,32,116,104,105,115,10,116,121,112,101,32,117,115,101,114]⟩
def itsL:List PIt:=[.ty docB,.rel viB thB [],.ty usB]
def lnsL:List ByteArray:=[⟨#[116,121,112,101,32,100,111,99]⟩,⟨#[118,105,101,119,101,114,32,61,32,116,104,105,115]⟩,⟨#[116,121,112,101,32,117,115,101,114]⟩]
def tsL:List TyS:=[⟨docB,[(viB,.mk 1 ⟨#[]⟩ ⟨#[]⟩ [])]⟩,⟨usB,[]⟩]
theorem linesL:linesD txtL=lnsL:=by kernel_rfl
theorem stepL:itsL.foldl stepD []=tsL:=by kernel_rfl
theorem lnsOkL:(lnsL.zip itsL).all (fun p=>lnOkB p.1 p.2)=true:=by kernel_rfl
theorem fitsL:itsL.all PIt.fitB=true:=by kernel_rfl
theorem chkL:chk06 tsL=0:=by kernel_rfl
theorem okL_:∀ t∈tsL,t.Ok:=by
 intro t ht;unfold tsL at ht;simp only[List.mem_cons,List.not_mem_nil,or_false]at ht;rcases ht with rfl | rfl
 ·refine⟨by decide,fun r hr=>?_⟩;obtain rfl:=List.mem_singleton.1 hr;exact⟨by decide,by simp[RT.Ok,okL];decide⟩
 ·exact⟨by decide,fun r hr=>by cases hr⟩
def pL:P3:=⟨docB,⟨#[49]⟩,viB⟩
def uL:P3:=⟨usB,⟨#[50]⟩,⟨#[]⟩⟩
def TLk:List Tup:=[⟨pL,uL⟩]
theorem setTL:SetT TLk TLk:=⟨List.pairwise_singleton _ _,fun t=>⟨fun h=>⟨h,by
 obtain rfl:=List.mem_singleton.1 h;kernel_rfl⟩,fun h=>h.1⟩⟩
theorem okTL:∀ t∈TLk,t.Ok:=by
 intro t ht;obtain rfl:=List.mem_singleton.1 ht;exact⟨⟨by decide,by decide,by decide⟩,⟨by decide,by decide,by decide⟩⟩
theorem argL {p:P3} (hp:p.Ok):HasArg tsL TLk [] p:=HasArg.of chkL okL_ (by decide) (by decide) (by decide) (by decide) okTL hp (by simp)
theorem endL:WalkEnd tsL TLk [] pL 9 1:=by
 have h0:(walkN tsL TLk [] pL 0).1.length=1:=by kernel_rfl
 have h1:(walkN tsL TLk [] pL 1).1.length=1:=by kernel_rfl
 refine⟨fun m hm=>?_,h1.symm⟩;obtain rfl:m=0:=by omega
 rw[h0];exact⟨by decide,by decide⟩
theorem ruleL:ruleOf tsL [] pL=some (.mk 1 ⟨#[]⟩ ⟨#[]⟩ []):=by rfl
theorem denL {s:P3}:Den tsL TLk [] s pL↔s=uL:=by
 have hs:subsOf TLk pL=[uL]:=by rfl
 constructor
 ·rintro⟨n,h⟩;induction n with
  | zero=>exact h.elim
  | succ n ih =>
   rcases h with h | ⟨r,hr,h⟩
   ·exact ih h
   ·rw[ruleL]at hr;cases hr;rw[holdT_eq,if_pos (show(RT.mk 1 ⟨#[]⟩ ⟨#[]⟩ []).k=1 from rfl),hs]at h;rcases h with h | ⟨q,hq,-⟩
    ·exact List.mem_singleton.1 h
    ·have:=setsOf_has.1 hq;rw[List.mem_singleton.1 this.1]at this;exact absurd rfl this.2
 ·rintro rfl;exact Den.said (t:=⟨pL,uL⟩) (List.mem_singleton.2 rfl) ruleL rfl
def zL:P3:=⟨⟨#[]⟩,⟨#[]⟩,⟨#[]⟩⟩
def asksL:List AQ:=[(pL,uL),(pL,zL)]
theorem schL:SchArg tsL:=⟨okL_,by decide,sz_sch (by decide),by decide,by decide⟩
theorem asksL_arg:∀ a∈asksL,HasArg tsL TLk [] a.1/\a.1.Ok/\a.2.Ok:=by
 intro a ha;unfold asksL at ha;simp only[List.mem_cons,List.not_mem_nil,or_false]at ha;have hp:pL.Ok:=⟨by decide,by decide,by decide⟩;rcases ha with rfl | rfl
 ·exact⟨argL hp,hp,⟨by decide,by decide,by decide⟩⟩
 ·exact⟨argL hp,hp,⟨by decide,by decide,by decide⟩⟩
theorem denAL:asksL.map (denA tsL TLk [])=[true,false]:=by
 have h1:denA tsL TLk [] (pL,uL)=true:=denA_iff.2 (denL.2 rfl)
 have h2:denA tsL TLk [] (pL,zL)=false:=by
  rw[Bool.eq_false_iff];intro h;have h3:=denL.1 (denA_iff.1 h);exact absurd (congrArg P3.t h3) (by decide)
 show [_,_]=_
 rw[h1,h2]
theorem manyL (ao:Option Addr)(c b:Nat)(lv:Value)(w:World)(h:TysAt (· < w.heap.size) w tsL (.slice ao 2 c))(hb:BookAt w b TLk)(hl:Sl (· < w.heap.size) w 6 lv (asksL.flatMap aqC)) :
  Calls Tryz.prog 40 #[.agg #[.slice ao 2 c],bkV b,.slice none 0 0,lv,.int .i64 9] w fun e w'=>∃ vo vc,e = .returned (.tuple #[.slice vo 2 vc,.int .i64 0])/\Sl (· < w'.heap.size) w' 1 (.slice vo 2 vc) (boC [true,false])/\Ext w w':=by
 refine(many_any tsL (.slice ao 2 c) b TLk [] (.slice none 0 0) asksL lv 9 w ⟨h,hb,Sl.nil _ _ _⟩ schL chkL hl asksL_arg (by decide)).mono ?_;rintro e w' ⟨⟨v,⟨-,rfl,ho⟩ | ⟨⟨a,ha,hlg⟩,-,-⟩⟩,hx⟩
 ·rw[denAL]at ho;obtain⟨vo,vn,vc,rfl,hvn,-,-⟩:=ho.sl.len;rw[boC_length,Nat.mul_one]at hvn;obtain rfl:vn=2:=hvn.symm;exact⟨vo,vc,rfl,ho.sl.mono fun _ hb=>hb.2,hx⟩
 ·exfalso
  unfold asksL at ha;simp only[List.mem_cons,List.not_mem_nil,or_false]at ha;rcases ha with rfl | rfl <;> exact endL.notLong hlg
theorem fixed32_any (w:World):Calls Tryz.prog 37 #[] w fun e w'=>e = .returned (.bool true)/\Below w.heap.size w w':=by
 have HPA:=h! (parse_any txtL itsL w (by decide) (by rw[linesL];rfl) (by rw[linesL];exact lnsOk_of lnsOkL) (fits_of fitsL) (fun _=>⟨docB,rfl⟩) (by decide));rw[stepL]at HPA;unfold txtL at HPA;go_enter Tryz.func37,Tryz.ntmps37
 go_wp2_with fail
 refine HPA.out.mono ?_;rintro e w1 ⟨tv,rfl,hty,hb1⟩;obtain⟨aot,ct,rfl,-,-,-⟩:=hty.rows;rw[show tsL.length=2 from rfl]at *;obtain⟨wS,hwS⟩:∃ y,y=w1.alloc (.cells #[.slice aot 2 ct] 26):=⟨_,rfl⟩;obtain⟨wt,hwt⟩:∃ y,y=wS.alloc (.cells #[.string ⟨#[100,111,99]⟩,.string ⟨#[49]⟩,.string ⟨#[118,105,101,119,101,114]⟩,.string ⟨#[117,115,101,114]⟩,.string ⟨#[50]⟩,.string ⟨#[]⟩] 67):=⟨_,rfl⟩;obtain⟨wp,hwp⟩:∃ y,y=wt.alloc (.cells #[.string ⟨#[100,111,99]⟩,.string ⟨#[49]⟩,.string ⟨#[118,105,101,119,101,114]⟩] 32):=⟨_,rfl⟩;have es:wS.heap.size=w1.heap.size+1:=by rw[hwS];simp
 have et:wt.heap.size=w1.heap.size+1+1:=by rw[hwt];simp[es]
 have x1:Ext w1 wS:=by rw[hwS];exact Ext.alloc _ _
 have x2:Ext wS wt:=by rw[hwt];exact Ext.alloc _ _
 have x3:Ext wt wp:=by rw[hwp];exact Ext.alloc _ _
 have X1:=h! (show Ext w1 wp from x1.trans (x2.trans x3));have HTY:=h! ((hty.mono (S':=(· < w1.heap.size)) fun b hb=>hb.2).up X1.out);have HB1:=h! (show Below w.heap.size w wp from hb1.trans (X1.out.mono hb1.size));have HS1:=h! (show Blk wp w1.heap.size #[.slice aot 2 ct] 26 from Blk.below (by rw[hwS];exact Blk.made _ _ _) (x2.trans x3));have HT1:=h! (show Blk wp (w1.heap.size+1) #[.string ⟨#[100,111,99]⟩,.string ⟨#[49]⟩,.string ⟨#[118,105,101,119,101,114]⟩,.string ⟨#[117,115,101,114]⟩,.string ⟨#[50]⟩,.string ⟨#[]⟩] 67 from Blk.below (by rw[hwt,<- es];exact Blk.made _ _ _) x3);have HP1:=h! (show Blk wp (w1.heap.size+1+1) #[.string ⟨#[100,111,99]⟩,.string ⟨#[49]⟩,.string ⟨#[118,105,101,119,101,114]⟩] 32 from by rw[hwp,<- et];exact Blk.made _ _ _);have bt:∀ i,wt.cell? ⟨w1.heap.size+1,i,none⟩=(#[.string ⟨#[100,111,99]⟩,.string ⟨#[49]⟩,.string ⟨#[118,105,101,119,101,114]⟩,.string ⟨#[117,115,101,114]⟩,.string ⟨#[50]⟩,.string ⟨#[]⟩]:Array Value)[i]?:=(show Blk wt (w1.heap.size+1) _ _ from by rw[hwt,<- es];exact Blk.made _ _ _).cells;clear hty hb1 HPA es et x1 x2 x3;subst hwt hwS;go_wp2_with fail
 clear bt;rw[<- hwp];clear hwp;generalize w1.heap.size+1+1=pb at *;generalize w1.heap.size+1=tb at *;generalize w1.heap.size=sb at *;obtain⟨wd,hwd⟩:∃ wd,Hid (wd=World.drew wp):=⟨_,h! rfl⟩;have hxd:=h! (show Ext wp wd from by rw[hwd.out];exact Ext.drew _);apply Code.wp_mono (Q:=J5 (fun(bk g2 g11:Nat) (vo:Option Addr) (vc:Nat) W=>Ext wd W/\Sl (· < W.heap.size) W 1 (.slice vo 2 vc) (boC [true,false])) _) ?rest ?reg
 case reg =>
  have hE:=h! (Ext.refl wd);refine region_walkN (Ext wd) (by rw[<- hwd.out];exact Ext.refl _) (by kernel_rfl) (by kernel_rfl) (fun _ _ d _ _ h=>by cases h.1) ?_;rw[<- hwd.out];have HNB:=h! (fun W gk hL=>bookT_any setTL (.slice (some ⟨gk,0,none⟩) 1 1) W hL (by decide) okTL);have HMN:=h! (fun W bk g (hx:Ext wd W) hB hA=>manyL aot ct bk (.slice (some ⟨g,0,none⟩) 2 2) W (HTY.out.up (hxd.out.trans hx)) hB hA);have h1:=fun W (h:Ext wd W)=>(HS1.out.below (hxd.out.trans h)).cells;have h2:=fun W (h:Ext wd W)=>(HT1.out.below (hxd.out.trans h)).cells;have h3:=fun W (h:Ext wd W)=>(HP1.out.below (hxd.out.trans h)).cells;(refine WalkN.tk [0,1,5,6,7,8,9,10] ?_;(iterate 8 (refine c! ?_));refine TkN.n ?_)
  clear h1 h2 h3;refine p! 2 11 ?_ ?_;refine b! ?_;intro K hK;go_simp;obtain⟨g2,hg2⟩:∃ x,x=wd.heap.size:=⟨_,rfl⟩;rw[<- hg2];have hA0:=Ext.alloc wd (.cells #[.string ⟨#[100,111,99]⟩,.string ⟨#[49]⟩,.string ⟨#[118,105,101,119,101,114]⟩,.string ⟨#[117,115,101,114]⟩,.string ⟨#[50]⟩,.string ⟨#[]⟩] 67);have hL0:Sl (fun b=>b<(wd.alloc (.cells #[.string ⟨#[100,111,99]⟩,.string ⟨#[49]⟩,.string ⟨#[118,105,101,119,101,114]⟩,.string ⟨#[117,115,101,114]⟩,.string ⟨#[50]⟩,.string ⟨#[]⟩] 67)).heap.size) (wd.alloc (.cells #[.string ⟨#[100,111,99]⟩,.string ⟨#[49]⟩,.string ⟨#[118,105,101,119,101,114]⟩,.string ⟨#[117,115,101,114]⟩,.string ⟨#[50]⟩,.string ⟨#[]⟩] 67)) 6 (.slice (some ⟨g2,0,none⟩) 1 1) (tuCs TLk):=by rw[hg2];exact Sl.made wd _ 6 1 67 _ rfl (by decide) (by simp)
  have hX0:=Ext.trans hE.out hA0;refine hK.out _ _ hX0 ?_;clear hK hg2;generalize wd.alloc (.cells #[.string ⟨#[100,111,99]⟩,.string ⟨#[49]⟩,.string ⟨#[118,105,101,119,101,114]⟩,.string ⟨#[117,115,101,114]⟩,.string ⟨#[50]⟩,.string ⟨#[]⟩] 67)=u1 at *;have hE:=h! hX0;have HL:=h! hL0;clear hA0 hX0 hL0;refine p! 3 11 ?_ ?_;refine b! ?_;intro K hK;go_simp;refine(HNB.out u1 g2 HL.out).mono ?_;rintro e u2 ⟨bk,rfl,hB1,hx1⟩;have hX1:=Ext.trans hE.out hx1;refine hK.out _ _ hX1 ?_;clear hK;have HBK:=h! hB1;have hE:=h! hX1;clear hx1 hX1 hB1 HL;refine t! 4 ?_
  refine o! 11 ?_;refine b! ?_;intro K hK;go_simp;obtain⟨g11,hg11⟩:∃ x,x=u2.heap.size:=⟨_,rfl⟩;rw[<- hg11];have hA2:=Ext.alloc u2 (.cells #[.string ⟨#[100,111,99]⟩,.string ⟨#[49]⟩,.string ⟨#[118,105,101,119,101,114]⟩,.string ⟨#[117,115,101,114]⟩,.string ⟨#[50]⟩,.string ⟨#[]⟩,.string ⟨#[100,111,99]⟩,.string ⟨#[49]⟩,.string ⟨#[118,105,101,119,101,114]⟩,.string ⟨#[]⟩,.string ⟨#[]⟩,.string ⟨#[]⟩] 35);have hL2:Sl (fun b=>b<(u2.alloc (.cells #[.string ⟨#[100,111,99]⟩,.string ⟨#[49]⟩,.string ⟨#[118,105,101,119,101,114]⟩,.string ⟨#[117,115,101,114]⟩,.string ⟨#[50]⟩,.string ⟨#[]⟩,.string ⟨#[100,111,99]⟩,.string ⟨#[49]⟩,.string ⟨#[118,105,101,119,101,114]⟩,.string ⟨#[]⟩,.string ⟨#[]⟩,.string ⟨#[]⟩] 35)).heap.size) (u2.alloc (.cells #[.string ⟨#[100,111,99]⟩,.string ⟨#[49]⟩,.string ⟨#[118,105,101,119,101,114]⟩,.string ⟨#[117,115,101,114]⟩,.string ⟨#[50]⟩,.string ⟨#[]⟩,.string ⟨#[100,111,99]⟩,.string ⟨#[49]⟩,.string ⟨#[118,105,101,119,101,114]⟩,.string ⟨#[]⟩,.string ⟨#[]⟩,.string ⟨#[]⟩] 35)) 6 (.slice (some ⟨g11,0,none⟩) 2 2) (asksL.flatMap aqC):=by rw[hg11];exact Sl.made u2 _ 6 2 35 _ rfl (by decide) (by simp)
  have hX2:=Ext.trans hE.out hA2;refine hK.out _ _ hX2 ?_;clear hK hg11;have HBK:=h! (HBK.out.ext hA2);generalize u2.alloc (.cells #[.string ⟨#[100,111,99]⟩,.string ⟨#[49]⟩,.string ⟨#[118,105,101,119,101,114]⟩,.string ⟨#[117,115,101,114]⟩,.string ⟨#[50]⟩,.string ⟨#[]⟩,.string ⟨#[100,111,99]⟩,.string ⟨#[49]⟩,.string ⟨#[118,105,101,119,101,114]⟩,.string ⟨#[]⟩,.string ⟨#[]⟩,.string ⟨#[]⟩] 35)=u3 at *;have hE:=h! hX2;have HAK:=h! hL2;clear hA2 hX2 hL2;rotate_left
  refine b! ?_;intro K hK;go_simp;obtain⟨g11,hg11⟩:∃ x,x=u1.heap.size:=⟨_,rfl⟩;rw[<- hg11];have hA1:=Ext.alloc u1 (.cells #[.string ⟨#[100,111,99]⟩,.string ⟨#[49]⟩,.string ⟨#[118,105,101,119,101,114]⟩,.string ⟨#[117,115,101,114]⟩,.string ⟨#[50]⟩,.string ⟨#[]⟩,.string ⟨#[100,111,99]⟩,.string ⟨#[49]⟩,.string ⟨#[118,105,101,119,101,114]⟩,.string ⟨#[]⟩,.string ⟨#[]⟩,.string ⟨#[]⟩] 35);have hL1:Sl (fun b=>b<(u1.alloc (.cells #[.string ⟨#[100,111,99]⟩,.string ⟨#[49]⟩,.string ⟨#[118,105,101,119,101,114]⟩,.string ⟨#[117,115,101,114]⟩,.string ⟨#[50]⟩,.string ⟨#[]⟩,.string ⟨#[100,111,99]⟩,.string ⟨#[49]⟩,.string ⟨#[118,105,101,119,101,114]⟩,.string ⟨#[]⟩,.string ⟨#[]⟩,.string ⟨#[]⟩] 35)).heap.size) (u1.alloc (.cells #[.string ⟨#[100,111,99]⟩,.string ⟨#[49]⟩,.string ⟨#[118,105,101,119,101,114]⟩,.string ⟨#[117,115,101,114]⟩,.string ⟨#[50]⟩,.string ⟨#[]⟩,.string ⟨#[100,111,99]⟩,.string ⟨#[49]⟩,.string ⟨#[118,105,101,119,101,114]⟩,.string ⟨#[]⟩,.string ⟨#[]⟩,.string ⟨#[]⟩] 35)) 6 (.slice (some ⟨g11,0,none⟩) 2 2) (asksL.flatMap aqC):=by rw[hg11];exact Sl.made u1 _ 6 2 35 _ rfl (by decide) (by simp)
  have hX1:=Ext.trans hE.out hA1;refine hK.out _ _ hX1 ?_;clear hK hg11;have HL:=h! ((HL.out.same (Same.below hA1)).mono fun _ hb=>Nat.lt_of_lt_of_le hb hA1.size);generalize u1.alloc (.cells #[.string ⟨#[100,111,99]⟩,.string ⟨#[49]⟩,.string ⟨#[118,105,101,119,101,114]⟩,.string ⟨#[117,115,101,114]⟩,.string ⟨#[50]⟩,.string ⟨#[]⟩,.string ⟨#[100,111,99]⟩,.string ⟨#[49]⟩,.string ⟨#[118,105,101,119,101,114]⟩,.string ⟨#[]⟩,.string ⟨#[]⟩,.string ⟨#[]⟩] 35)=u2 at *;have hE:=h! hX1;have HAK:=h! hL1;clear hA1 hX1 hL1;refine o! 3 ?_;refine b! ?_;intro K hK;go_simp;refine(HNB.out u2 g2 HL.out).mono ?_;rintro e u3 ⟨bk,rfl,hB2,hx2⟩;have hX2:=Ext.trans hE.out hx2;refine hK.out _ _ hX2 ?_;clear hK;have HBK:=h! hB2;have HAK:=h! ((HAK.out.same (Same.below hx2)).mono fun _ hb=>Nat.lt_of_lt_of_le hb hx2.size);have hE:=h! hX2;clear hx2 hX2 hB2 HL;refine t! 4 ?_
  rotate_left
  refine b! ?_;intro K hK;go_simp;obtain⟨g11,hg11⟩:∃ x,x=wd.heap.size:=⟨_,rfl⟩;rw[<- hg11];have hA0:=Ext.alloc wd (.cells #[.string ⟨#[100,111,99]⟩,.string ⟨#[49]⟩,.string ⟨#[118,105,101,119,101,114]⟩,.string ⟨#[117,115,101,114]⟩,.string ⟨#[50]⟩,.string ⟨#[]⟩,.string ⟨#[100,111,99]⟩,.string ⟨#[49]⟩,.string ⟨#[118,105,101,119,101,114]⟩,.string ⟨#[]⟩,.string ⟨#[]⟩,.string ⟨#[]⟩] 35);have hL0:Sl (fun b=>b<(wd.alloc (.cells #[.string ⟨#[100,111,99]⟩,.string ⟨#[49]⟩,.string ⟨#[118,105,101,119,101,114]⟩,.string ⟨#[117,115,101,114]⟩,.string ⟨#[50]⟩,.string ⟨#[]⟩,.string ⟨#[100,111,99]⟩,.string ⟨#[49]⟩,.string ⟨#[118,105,101,119,101,114]⟩,.string ⟨#[]⟩,.string ⟨#[]⟩,.string ⟨#[]⟩] 35)).heap.size) (wd.alloc (.cells #[.string ⟨#[100,111,99]⟩,.string ⟨#[49]⟩,.string ⟨#[118,105,101,119,101,114]⟩,.string ⟨#[117,115,101,114]⟩,.string ⟨#[50]⟩,.string ⟨#[]⟩,.string ⟨#[100,111,99]⟩,.string ⟨#[49]⟩,.string ⟨#[118,105,101,119,101,114]⟩,.string ⟨#[]⟩,.string ⟨#[]⟩,.string ⟨#[]⟩] 35)) 6 (.slice (some ⟨g11,0,none⟩) 2 2) (asksL.flatMap aqC):=by rw[hg11];exact Sl.made wd _ 6 2 35 _ rfl (by decide) (by simp)
  have hX0:=Ext.trans hE.out hA0;refine hK.out _ _ hX0 ?_;clear hK hg11;generalize wd.alloc (.cells #[.string ⟨#[100,111,99]⟩,.string ⟨#[49]⟩,.string ⟨#[118,105,101,119,101,114]⟩,.string ⟨#[117,115,101,114]⟩,.string ⟨#[50]⟩,.string ⟨#[]⟩,.string ⟨#[100,111,99]⟩,.string ⟨#[49]⟩,.string ⟨#[118,105,101,119,101,114]⟩,.string ⟨#[]⟩,.string ⟨#[]⟩,.string ⟨#[]⟩] 35)=u1 at *;have hE:=h! hX0;have HAK:=h! hL0;clear hA0 hX0 hL0;refine o! 2 ?_;refine b! ?_;intro K hK;go_simp;obtain⟨g2,hg2⟩:∃ x,x=u1.heap.size:=⟨_,rfl⟩;rw[<- hg2];have hA1:=Ext.alloc u1 (.cells #[.string ⟨#[100,111,99]⟩,.string ⟨#[49]⟩,.string ⟨#[118,105,101,119,101,114]⟩,.string ⟨#[117,115,101,114]⟩,.string ⟨#[50]⟩,.string ⟨#[]⟩] 67);have hL1:Sl (fun b=>b<(u1.alloc (.cells #[.string ⟨#[100,111,99]⟩,.string ⟨#[49]⟩,.string ⟨#[118,105,101,119,101,114]⟩,.string ⟨#[117,115,101,114]⟩,.string ⟨#[50]⟩,.string ⟨#[]⟩] 67)).heap.size) (u1.alloc (.cells #[.string ⟨#[100,111,99]⟩,.string ⟨#[49]⟩,.string ⟨#[118,105,101,119,101,114]⟩,.string ⟨#[117,115,101,114]⟩,.string ⟨#[50]⟩,.string ⟨#[]⟩] 67)) 6 (.slice (some ⟨g2,0,none⟩) 1 1) (tuCs TLk):=by rw[hg2];exact Sl.made u1 _ 6 1 67 _ rfl (by decide) (by simp)
  have hX1:=Ext.trans hE.out hA1;refine hK.out _ _ hX1 ?_;clear hK hg2;have HAK:=h! ((HAK.out.same (Same.below hA1)).mono fun _ hb=>Nat.lt_of_lt_of_le hb hA1.size);generalize u1.alloc (.cells #[.string ⟨#[100,111,99]⟩,.string ⟨#[49]⟩,.string ⟨#[118,105,101,119,101,114]⟩,.string ⟨#[117,115,101,114]⟩,.string ⟨#[50]⟩,.string ⟨#[]⟩] 67)=u2 at *;have hE:=h! hX1;have HL:=h! hL1;clear hA1 hX1 hL1;refine o! 3 ?_;refine b! ?_;intro K hK;go_simp;refine(HNB.out u2 g2 HL.out).mono ?_;rintro e u3 ⟨bk,rfl,hB2,hx2⟩;have hX2:=Ext.trans hE.out hx2;refine hK.out _ _ hX2 ?_;clear hK;have HBK:=h! hB2;have HAK:=h! ((HAK.out.same (Same.below hx2)).mono fun _ hb=>Nat.lt_of_lt_of_le hb hx2.size);have hE:=h! hX2;clear hx2 hX2 hB2 HL;refine t! 4 ?_
  rotate_left
  all_goals
   refine o! 12 ?_;refine b! ?_;intro K hK;go_simp;refine(HMN.out u3 bk g11 hE.out HBK.out HAK.out).mono ?_;rintro e u4 ⟨vo,vc,rfl,hs3,hx3⟩;have hX3:=Ext.trans hE.out hx3;refine hK.out _ _ hX3 ?_;clear hK;refine t! 13 ?_
   refine t! 14 ?_
   refine t! 15 ?_
   refine t! 16 ?_
   refine t! 17 ?_
   refine d! ?_;exact⟨rfl,bk,g2,g11,vo,vc,rfl,hX3,hs3⟩
 rintro e _ W1 ⟨rfl,bk,g2,g11,vo,vc,rfl,hX,hS⟩;dsimp only;have X2:=h! (hxd.out.trans hX);have HS2:=h! hS;have HTY2:=h! (HTY.out.up X2.out);have hsc:=(HS1.out.below X2.out).cells;have HMF:=h! (manyN_any tsL (.slice aot 2 ct) .nilIface (.slice none 0 0) (.slice none 0 0) (.int .i64 9) 1 rfl W1 HTY2.out fun W hx=>bstartF_any tsL (.slice aot 2 ct) (.slice none 0 0) (.int .i64 9) W (HTY2.out.up hx) schL chkL);clear hX hS hxd hwd;go_wp2_with fail
 clear hsc;refine HMF.out.mono ?_;rintro e w8 ⟨rfl,hx8⟩;have HBE:=h! (show Below w.heap.size w w8 from HB1.out.trans (Below.mono (Ext.trans X2.out hx8) HB1.out.size));obtain⟨_,_,e1,-,-,hc⟩:=bools_at ((HS2.out.same (Same.below hx8)).mono (T:=fun _=>True) fun _ _=>trivial);cases e1;obtain⟨b,off,rfl,-,k0⟩:=hc 0 (by decide);obtain⟨_,_,e2,-,k1⟩:=hc 1 (by decide);cases e2;rw[Nat.add_zero]at k0;dsimp only[List.getElem_cons_zero,List.getElem_cons_succ]at k0 k1;clear hx8 HMF hc;go_wp2_with fail
 go_ret
 exact⟨rfl,HBE.out⟩
theorem askT:ElemT Tryz.prog 71 35 6 96:=ElemT.mk' Tryz.underlying71 (show _=some (some (.agg #[.string ByteArray.empty,.string ByteArray.empty,.string ByteArray.empty,.string ByteArray.empty,.string ByteArray.empty,.string ByteArray.empty]),6,96)by kernel_rfl) rfl (by decide)
theorem aq_length (l:List AQ):(l.flatMap aqC).length=l.length*6:=flat_length aqC_length l
theorem aq_snoc (l:List AQ)(a:AQ):(l++[a]).flatMap aqC=l.flatMap aqC++aqC a:=by simp
theorem Own.neBlk {w:World} {B sz b:Nat} {e e2:TypeId} {v:Value} {xs:List Value} {cs:Array Value} (h:Own w B e sz v xs)(hb:Blk w b cs e2)(hne:e≠e2):v.ownBlock≠some b:=fun e3=>by
 obtain⟨c,hc⟩:=h.typed e3;rw[show w.heap[b]?=_ from hb]at hc;injection hc with hc
 injection hc with _ hc _
 exact hne hc.symm
theorem asks_any (ts:List TyS)(tv lv sv:Value)(p s:P3)(ld:List UInt8)(dv:Value)(w:World)(hY:TysAt (· < w.heap.size) w ts tv)(hG:GoodS ts)(hd:Sl (· < w.heap.size) w 1 dv (bc ld)) :
  Calls Tryz.prog 44 #[.agg (caseC tv lv sv p s),dv] w fun e w'=>∃ (v:Value) (l:List AQ),e = .returned v/\Own w' w.heap.size 35 6 v (l.flatMap aqC)/\(∀ a∈l,a.1.Ok/\a.2.Ok)/\l.length<=8/\Ext w w':=by
 have HFS:=h! (GoodS.fine hG);have HYY:=h! hY;obtain⟨aot,ct,rfl,-,-,-⟩:=hY.rows;obtain⟨dao,dn,dc,rfl,hdn,-,-⟩:=hd.len;obtain⟨wa,hwa⟩:∃ x,x=w.alloc (.cells (caseC (.slice aot ts.length ct) lv sv p s) 37):=⟨_,rfl⟩;obtain⟨wb,hwb⟩:∃ x,x=wa.alloc (.cells #[.slice dao dn dc,.int .i64 0] 41):=⟨_,rfl⟩;have ea:wa.heap.size=w.heap.size+1:=by rw[hwa];simp
 have xa:Ext w wa:=by rw[hwa];exact Ext.alloc _ _
 have xb:Ext wa wb:=by rw[hwb];exact Ext.alloc _ _
 have XB:=h! (xa.trans xb);have BC:=h! (show Blk wb w.heap.size (caseC (.slice aot ts.length ct) lv sv p s) 37 from Blk.below (by rw[hwa];exact Blk.made _ _ _) xb);have HTP:=h! (show Tp wb (w.heap.size+1)from⟨_,ld,0,Nat.zero_le _,(hd.same (Same.below XB.out)).mono fun b (hb:b<w.heap.size)=>(by omega),by rw[hwb,<- ea];exact Blk.made _ _ _⟩);have HNX:=h! (next_any (w.heap.size+1) 9 wb HTP.out (by decide) (by decide));clear hY hG hd hdn ea xa xb;subst hwa;go_enter Tryz.func44,Tryz.ntmps44
 go_wp2_with fail
 rw[<- hwb];clear hwb;refine HNX.out.mono ?_;rintro e w2 ⟨k,rfl,hk9,ht2,hk2⟩;have HK9:=h! hk9;have HT2:=h! ht2;have X2:=h! (show Ext w w2 from Below.trans XB.out (Kept.below (B:=w.heap.size) hk2 fun b hb=>⟨Nat.lt_of_lt_of_le hb XB.out.size,by omega⟩));have BC2:=h! (hk2.blk BC.out (by omega));clear hk9 ht2 hk2 HNX BC XB;obtain⟨tp,htp⟩:∃ x,Hid (x=w.heap.size+1):=⟨_,h! rfl⟩;rw[<- htp.out]at HT2;rw[<- htp.out];obtain⟨cb,hcb⟩:∃ x,Hid (x=w.heap.size):=⟨_,h! rfl⟩;have BC2:=h! (show Blk w2 cb (caseC (.slice aot ts.length ct) lv sv p s) 37 from by rw[hcb.out];exact BC2.out);have HCT:=h! (show cb≠tp from by have:=htp.out;have:=hcb.out;omega);try rw[<- hcb.out]
 unfold caseC at *;go_wp2_with fail
 go_loopw [6,7] (fun ov jv wr=>∃ (j:Nat) (l:List AQ),l.length+j=k/\jv = .int .i64 j/\Own wr w.heap.size 35 6 ov (l.flatMap aqC)/\(∀ a∈l,a.1.Ok/\a.2.Ok)/\Tp wr tp/\Ext w wr/\Blk wr cb #[.slice aot ts.length ct,lv,sv,.string p.t,.string p.i,.string p.r,.string s.t,.string s.i,.string s.r] 37) (fun _ jv _=>(intOf jv).toNat)
 case atStart=>exact⟨k,[],by simp,rfl,Own.nil _ _ _ _,fun a ha=>by simp at ha,HT2.out,X2.out,BC2.out⟩
 case round =>
  obtain⟨j,l,hlj,rfl,ho,hok,ht,hx,hb⟩:=hrel;have HLJ:=h! hlj;have O1:=h! ho;have OK1:=h! hok;have T1:=h! ht;have X1:=h! hx;have B1:=h! hb;obtain⟨vo,vn,vc,rfl,-,-,-⟩:=ho.sl.len;clear hlj ho hok ht hx hb HT2 X2 BC2;by_cases hj:j=0
  ·subst hj;have HL8:=h! (show l.length<=8 from by have:=HLJ.out;have:=HK9.out;omega);go_wp2_with fail
   go_ret
   exact⟨_,l,rfl,O1.out,OK1.out,HL8.out,X1.out⟩
  ·have hj0:(0:Int)<(j:Int):=by omega
   have hj1:0<j:=by omega
   have HWJ:=h! (show wrap64 ((j:Int)-1)=((j-1:Nat):Int)from by have:=HLJ.out;have:=HK9.out;unfold wrap64;omega);have HJ:=h! hj1;obtain⟨bt,ot,ctt,htv,hrow⟩:=((HYY.out.same (Same.below X1.out)).mono (S':=fun b=>b<wr.heap.size/\b≠tp) fun b hb=>⟨Nat.lt_of_lt_of_le hb X1.out.size,by have:=htp.out;omega⟩).row HFS.out.ok (by have:=HFS.out.two;omega) (fun t ht=>by have:=HFS.out.rels t ht;omega);cases htv;have HPC:=h! (mkPoint_row ts.length bt ot ct tp wr T1.out hrow (by have:=HFS.out.two;omega));have hcb1:=B1.out.cells;clear hrow hj1;go_wp2_with fail
   clear hcb1;refine HPC.out.mono ?_;rintro e w5 ⟨q,rfl,hqo,ht5,hk5⟩;have HQO:=h! hqo;have X6:=h! (Ext.alloc w5 (.cells #[.string q.t,.string q.i,.string q.r] 32));have T6:=h! (ht5.ext X6.out)
   have HTN:=h! (show ∀ g,Value.ownBlock (.slice vo vn vc)=some g->g≠tp from fun g hg e=>by
    obtain⟨bv,_,_,_,_,hB⟩:=T1.out;exact O1.out.neBlk hB (by decide) (e▸hg))
   have O6:=h! ((O1.out.keepOwn fun g hg=>hk5.block g ⟨(O1.out.block g hg).2,HTN.out g hg⟩).below X6.out);have B6:=h! ((hk5.blk B1.out HCT.out).below X6.out);have BP6:=h! (Blk.made w5 #[.string q.t,.string q.i,.string q.r] 32);have XW6:=h! (show Ext w _ from Below.trans X1.out (Below.trans (Kept.below (B:=w.heap.size) hk5 fun b hb=>⟨Nat.lt_of_lt_of_le hb X1.out.size,by have:=htp.out;omega⟩) (X6.out.mono (Nat.le_trans X1.out.size hk5.size))));have HPT:=h! (show w5.heap.size≠tp from by have:=ht5.lt;omega);clear hqo ht5 hk5 HPC O1 T1 X1 B1;unfold pV;go_wp2_with fail
   obtain⟨w6,hw6⟩:∃ y,y=w5.alloc (.cells #[.string q.t,.string q.i,.string q.r] 32):=⟨_,rfl⟩;rw[<- hw6]at X6 T6 O6 B6 BP6 XW6 ⊢;clear hw6 X6;generalize w5.heap.size=pb at *;obtain⟨wd,hwd⟩:∃ wd,Hid (wd=World.drew w6):=⟨_,h! rfl⟩;have hxd:=h! (show Ext w6 wd from by rw[hwd.out];exact Ext.drew _);refine r! (Kept (fun b=>b<wd.heap.size/\b≠tp/\Value.ownBlock (.slice vo vn vc)≠some b) wd) (by rw[<- hwd.out];exact Kept.refl _ _) ?_;rw[<- hwd.out];have T7:=h! (T6.out.ext hxd.out);have O7:=h! (O6.out.below hxd.out);have B7:=h! (B6.out.below hxd.out);have BP7:=h! (BP6.out.below hxd.out);have XW7:=h! (Ext.trans XW6.out hxd.out);clear hwd hxd T6 O6 B6 BP6 XW6;have h1:=fun W (h:Kept (fun b=>b<wd.heap.size/\b≠tp/\Value.ownBlock (.slice vo vn vc)≠some b) wd W)=>(h.blk BP7.out ⟨BP7.out.lt,HPT.out,O7.out.neBlk BP7.out (by decide)⟩).cells;have h2:=fun W (h:Kept (fun b=>b<wd.heap.size/\b≠tp/\Value.ownBlock (.slice vo vn vc)≠some b) wd W)=>(h.blk B7.out ⟨B7.out.lt,HCT.out,O7.out.neBlk B7.out (by decide)⟩).cells;(refine WalkN.tk [0,1,2,3,4] ?_;(iterate 5 (refine c! ?_));refine TkN.n ?_)
   clear h1 h2;obtain⟨bt2,ot2,ctt2,htv2,hrow⟩:=((HYY.out.same (Same.below XW7.out)).mono (S':=fun b=>b<wd.heap.size/\b≠tp) fun b hb=>⟨Nat.lt_of_lt_of_le hb XW7.out.size,by have:=htp.out;omega⟩).row HFS.out.ok (by have:=HFS.out.two;omega) (fun t ht=>by have:=HFS.out.rels t ht;omega);cases htv2;have HSC:=h! (mkSub_row ts.length bt ot ct tp wd T7.out hrow (by have:=HFS.out.two;omega));clear hrow;refine o! 5 ?_;refine b! ?_;intro K hK;go_simp;refine HSC.out.mono ?_;rintro e w8 ⟨u,rfl,huo,ht8,hk8⟩;refine hK.out _ _ (hk8.mono fun b hb=>⟨hb.1,hb.2.1⟩) ?_;clear hK HSC;have HUO:=h! huo;have O8:=h! (O7.out.keepOwn fun g hg=>hk8.block g ⟨(O7.out.block g hg).2,HTN.out g hg⟩);have B8:=h! (hk8.blk B7.out HCT.out);have XW8:=h! (show Ext w w8 from Below.trans XW7.out (Kept.below (B:=w.heap.size) hk8 fun b hb=>⟨Nat.lt_of_lt_of_le hb XW7.out.size,by have:=htp.out;omega⟩));have T8:=h! ht8;have K8:=h! hk8;clear huo ht8 hk8;unfold pV;try simp only[Act.put,pA,pZ,pS]
   refine t! 6 ?_
   have hE1:=Ext.alloc w8 (.cells #[.string q.t,.string q.i,.string q.r,.string u.t,.string u.i,.string u.r] 35);refine o! 7 ?_;refine b! ?_;intro K hK;go_simp;refine hK.out _ _ ((K8.out.mono fun b hb=>⟨hb.1,hb.2.1⟩).alloc (fun x hx=>Nat.lt_of_lt_of_le hx.1 K8.out.size) _) ?_;clear hK;refine o! 8 ?_;refine b! ?_;intro K hK;refine wp_ownw askT (.tmp 22) (.tmp 29) rfl rfl (O8.out.below hE1) (m:=1) (news:=aqC (q,u)) rfl rfl (fun j y hy=>?_) (by intro u hu;simp[aqC]at hu;rcases hu with rfl | rfl | rfl | rfl | rfl | rfl <;> rfl) (by have:=HLJ.out;have:=HK9.out;rw[aq_length,aqC_length];omega) (by have:=HLJ.out;have:=HK9.out;rw[aq_length,aqC_length];omega) (by have:=XW8.out.size;have:=hE1.size;omega) (fun v2 w2 hown2 hw2 hg2=>?_)
   ·rw[Addr.add_lit,cell_of_row _ w8.heap.size (0+j) #[.string q.t,.string q.i,.string q.r,.string u.t,.string u.i,.string u.r] 35 (0,0) (heap_alloc_new w8 _),Nat.zero_add];simpa [aqC] using hy
   have HO2:=h! (show Own w2 w.heap.size 35 6 v2 ((l++[(q,u)]).flatMap aqC)from by rw[aq_snoc];exact hown2);have HX2:=h! (grown_below (XW8.out.trans hE1) (O8.out.below hE1) hg2 (Nat.le_trans XW8.out.size hE1.size))
   have HT2:=h! (show Tp w2 tp from by
    obtain⟨bv,l',m,h3,h4,h5⟩:=T8.out.ext hE1;refine⟨bv,l',m,h3,h4.same fun b hb=>hg2.block b (Nat.lt_trans hb h5.lt) fun e=>?_,(hg2.block tp h5.lt fun e=>HTN.out tp e.symm rfl).trans h5⟩;have h7:=((O8.out.below hE1).block b e.symm).1;have h8:b=cb:=by have:=htp.out;have:=hcb.out;omega
    exact(O8.out.below hE1).neBlk (B8.out.below hE1) (by decide) (h8▸e.symm))
   have HB2:=h! (show Blk w2 cb _ _ from(hg2.block cb (B8.out.below hE1).lt fun e=>(O8.out.below hE1).neBlk (B8.out.below hE1) (by decide) e.symm).trans (B8.out.below hE1));have HCL:=h! (show Kept (fun b=>b<wd.heap.size/\b≠tp/\Value.ownBlock (.slice vo vn vc)≠some b) wd w2 from⟨hg2.os.trans K8.out.os,hg2.tape.trans K8.out.tape,hg2.output.trans K8.out.output,Nat.le_trans K8.out.size (Nat.le_trans hE1.size hg2.size),fun x hx=>(hg2.block x (Nat.lt_of_lt_of_le hx.1 (Nat.le_trans K8.out.size hE1.size)) fun e=>hx.2.2 e.symm).trans ((Below.heap_alloc w8 _ x (Nat.lt_of_lt_of_le hx.1 K8.out.size)).trans (K8.out.block x ⟨hx.1,hx.2.1⟩))⟩);refine hK.out _ _ HCL.out ?_;clear hK HCL;try simp only[Act.put,pA,pZ,pS]
   obtain⟨o2,n2,c2,rfl,-,-,-⟩:=hown2.sl.len;clear hown2 hw2 hg2 hE1;refine t! 9 ?_
   refine d! ?_
   have HOK2:=h! (show ∀ a∈l++[(q,u)],a.1.Ok/\a.2.Ok from fun a ha=>by
    rcases List.mem_append.1 ha with ha | ha
    ·exact OK1.out a ha
    ·rw[List.mem_singleton.1 ha];exact⟨HQO.out,HUO.out⟩)
   go_wp2_with fail
   go_roundw
   case rel=>exact⟨j-1,l++[(q,u)],by have:=HLJ.out;have:=HJ.out;rw[List.length_append];simp;omega,by first | rw[HWJ.out] | go_num,HO2.out,HOK2.out,HT2.out,HX2.out,HB2.out⟩
   case measure=>have:=HJ.out;(try rw[HWJ.out]);simp[intOf];omega
theorem AllSaid.ok {ts:List TyS} {T:List Tup} {shut:List R2} {l:List AQ} {most:Int} {lo:Nat} {v:Value} {e:Ending} {w:World} (h:AllSaid ts T shut l most lo v e w)(hl:∀ q,¬ WalkLong ts T shut q most):e = .returned (.tuple #[v,.int .i64 0])/\Own w lo 4 1 v (boC (l.map (denA ts T shut))):=by
 rcases h with⟨-,h1,h2⟩ | ⟨⟨a,-,h1⟩,-⟩
 ·exact⟨h1,h2⟩
 ·exact absurd h1 (hl _)
theorem rowsBT:ElemT Tryz.prog 84 74 1 24:=ElemT.mk' Tryz.underlying84 (show _=some (some (.slice none 0 0),1,24)by kernel_rfl) rfl (by decide)
def GridIn (ts:List TyS)(T:List Tup)(shut:List R2)(ss:List P3)(w:World)(lo:Nat)(vs:List Value)(l:List P3):Prop :=
 vs.length=l.length/\∀ (j:Nat) (p:P3),l[j]?=some p->∃ x,vs[j]?=some x/\Own w lo 4 1 x (boC (ss.map fun s=>denA ts T shut (p,s)))
theorem GridIn.keep {ts:List TyS} {T:List Tup} {shut:List R2} {ss:List P3} {w w':World} {lo:Nat} {vs:List Value} {l:List P3} (h:GridIn ts T shut ss w lo vs l)(hk:∀ v xs,Own w lo 4 1 v xs->Own w' lo 4 1 v xs):GridIn ts T shut ss w' lo vs l :=
 ⟨h.1,fun j p hj=>by obtain⟨x,h1,h2⟩:=h.2 j p hj;exact⟨x,h1,hk _ _ h2⟩⟩
theorem GridIn.snoc {ts:List TyS} {T:List Tup} {shut:List R2} {ss:List P3} {w:World} {lo:Nat} {vs:List Value} {l:List P3} {v:Value} {p:P3} (h:GridIn ts T shut ss w lo vs l)(hv:Own w lo 4 1 v (boC (ss.map fun s=>denA ts T shut (p,s)))):GridIn ts T shut ss w lo (vs++[v]) (l++[p]) :=
 ⟨by simp[h.1],fun j q hj=>by
  by_cases hjl:j<l.length
  ·rw[List.getElem?_append_left hjl]at hj;obtain⟨x,h1,h2⟩:=h.2 j q hj;exact⟨x,by rw[List.getElem?_append_left (by rw[h.1];exact hjl)];exact h1,h2⟩
  ·obtain rfl:j=l.length:=by
    have:=(List.getElem?_eq_some_iff.1 hj).1;rw[List.length_append,List.length_singleton]at this;omega
   rw[List.getElem?_append_right (Nat.le_refl _),Nat.sub_self]at hj;injection hj with hj
   subst hj;exact⟨v,by rw[List.getElem?_append_right (by rw[h.1];exact Nat.le_refl _),h.1,Nat.sub_self];rfl,hv⟩⟩
theorem row3 {w W:World} {ao:Option Addr} {l:List P3} {c:Nat} (h:Sl (· < w.heap.size) w 3 (.slice ao l.length c) (pcs l))(hx:Ext w W) {i:Nat} (hi:i<l.length):∃ b off,ao=some ⟨b,off,none⟩/\∀ (j:Nat) u,(pC l[i])[j]?=some u->W.cell? ⟨b,off+i*3+j,none⟩=some u:=by
 obtain⟨_,_,e,-,-,hcel⟩:=Sl.rows pC_length (by decide) (show Sl _ w 3 _ (l.flatMap pC)from h);obtain⟨b,off,rfl,hbl,hcel⟩:=hcel (by omega);cases e;exact⟨b,off,rfl,fun j u hj=>Ext.cell hx (hcel i hi j u hj)⟩
theorem grid_any (ts:List TyS)(tv:Value)(b:Nat)(T:List Tup)(shut:List R2)(sv:Value)(ps ss:List P3)(pv uv:Value)(most:Int)(w:World)(hI:AskIn w ts tv b T shut sv)(hS:SchArg ts)(hc:chk06 ts=0)
  (hp:Sl (· < w.heap.size) w 3 pv (pcs ps)) (hu:Sl (· < w.heap.size) w 3 uv (pcs ss)) (hA:∀ p∈ps,HasArg ts T shut p/\p.Ok) (hSo:∀ s∈ss,s.Ok) (hpl:ps.length<=1000) (hsl:ss.length<=1000) (hg:∀ q,¬ WalkLong ts T shut q most) :
  Calls Tryz.prog 45 #[.agg #[tv],bkV b,sv,pv,uv,.int .i64 most] w fun e w'=>∃ (v:Value) (vs:List Value),e = .returned (.tuple #[v,.int .i64 0])/\Sl (· < w'.heap.size) w' 1 v vs/\GridIn ts T shut ss w' w.heap.size vs ps/\Ext w w':=by
 obtain⟨ao,c,rfl,-⟩:=hI.Y.rows;obtain⟨po,pc,rfl,-⟩:=Sl.rows pC_length (by decide) (show Sl _ w 3 _ (ps.flatMap pC)from hp);obtain⟨uo,uc,rfl,-⟩:=Sl.rows pC_length (by decide) (show Sl _ w 3 _ (ss.flatMap pC)from hu);obtain⟨wa,hwa⟩:∃ x,x=w.alloc (.cells #[.slice ao ts.length c] 26):=⟨_,rfl⟩;have XA:=h! (show Ext w wa from by rw[hwa];exact Ext.alloc _ _);have BS:=h! (show Blk wa w.heap.size #[.slice ao ts.length c] 26 from by rw[hwa];exact Blk.made _ _ _);have HI:=h! (hI.up XA.out);have HST:=h! (bstart_any ts _ b T shut sv most wa HI.out hS hc);have HP:=h! hp;have HU:=h! hu;have HA:=h! hA;have HSO:=h! hSo;have HPL:=h! hpl;have HSL:=h! hsl;have HG:=h! hg;have sb:=BS.out.cells;clear hI hS hc hp hu hA hSo hpl hsl hg;subst hwa;go_enter Tryz.func45,Tryz.ntmps45
 go_wp2_with fail
 refine HST.out.mono ?_;rintro e w1 ⟨xb,gm,km,rfl,hs⟩;obtain⟨wz,hwz⟩:∃ x,x=w.alloc (.cells #[.slice ao ts.length c] 26):=⟨_,rfl⟩;rw[<- hwz]at hs HI XA;have S1:=h! hs;have X1:=h! (show Ext w w1 from Ext.trans XA.out hs.X);have HLZ:=h! (show wz.heap.size<=w1.heap.size from hs.X.size);clear hs HST sb BS hwz;go_wp2_with fail
 go_loopw [16,37] (fun rv jv wr=>∃ (i:Nat) (M:Nat->Prop) (lg:List (P3 × G2)) (lk:List (AQ × Bool)) (vs:List Value),i<=ps.length/\jv = .int .i64 i/\AskrAt M wz wr xb gm km (.slice ao ts.length c) (bkV b) sv most ts T shut lg lk/\(∀ x,M x->x<wr.heap.size)/\(∀ x,rv.ownBlock=some x->M x)/\Own wr w1.heap.size 74 1 rv vs/\GridIn ts T shut ss wr w1.heap.size vs (ps.take i)/\w1.heap.size<=wr.heap.size) (fun _ jv _=>ps.length-(intOf jv).toNat)
 case atStart=>exact⟨0,_,[],[],[],Nat.zero_le _,rfl,S1.out,fun _ h=>h.elim,(fun x hx=>by cases hx),Own.nil _ _ _ _,⟨rfl,fun j p hj=>by simp at hj⟩,Nat.le_refl _⟩
 case round =>
  obtain⟨i,M,lg,lk,vs,hi,rfl,hs,hm,hrm,ho,hgr,hz⟩:=hrel;have S2:=h! hs;have HM:=h! (And.intro hm hrm);have O2:=h! ho;have G2_:=h! hgr;have Z2:=h! hz;have X2:=h! (show Ext w wr from Ext.trans XA.out hs.X);obtain⟨ro,rn,rc,rfl,hrn,-,-⟩:=ho.sl.len;rw[Nat.mul_one,hgr.1,List.length_take]at hrn;have HRN:=h! (show vs.length=i from by rw[hgr.1,List.length_take];omega);clear hs hm hrm ho hgr hz hrn;by_cases hlt:i<ps.length
  ·have HLT:=h! hlt;have HWI:=h! (show wrap64 ((i:Int)+1)=((i+1:Nat):Int)from by have:=HPL.out;unfold wrap64;omega);have hli:(i:Int)<(ps.length:Int):=by omega
   obtain⟨pb,poff,rfl,g5⟩:=row3 HP.out X2.out hlt;have HNX:=h! (List.take_succ_eq_append_getElem hlt);have HQ:=h! (HA.out _ (List.getElem_mem hlt));generalize ps[i]=p at *;have q0:wr.cell? ⟨pb,poff+i*3,none⟩=some (.string p.t):=g5 0 _ rfl;have q1:wr.cell? ⟨pb,poff+i*3+1,none⟩=some (.string p.i):=g5 1 _ rfl;have q2:wr.cell? ⟨pb,poff+i*3+2,none⟩=some (.string p.r):=g5 2 _ rfl;have x3:=Ext.alloc wr (.cells #[.string p.t,.string p.i,.string p.r] 32);have B3:=h! (Blk.made wr #[.string p.t,.string p.i,.string p.r] 32);have X3:=h! x3;have HZ3:=h! (show(wr.alloc (.cells #[.string p.t,.string p.i,.string p.r] 32)).heap.size=wr.heap.size+1 from by simp);clear g5 hlt x3;go_wp2_with fail
   clear q0 q1 q2;obtain⟨w3,hw3⟩:∃ x,x=wr.alloc (.cells #[.string p.t,.string p.i,.string p.r] 32):=⟨_,rfl⟩;rw[<- hw3]at B3 X3 HZ3;try rw[<- hw3]
   clear hw3;replace S2:=h! (S2.out.up X3.out);replace O2:=h! (O2.out.below X3.out);replace G2_:=h! (G2_.out.keep fun _ _ h=>h.below X3.out);replace X2:=h! (Ext.trans X2.out X3.out);replace HM:=h! (show(∀ x,M x->x<w3.heap.size)/\_ from⟨fun x hx=>Nat.lt_of_lt_of_le (HM.out.1 x hx) X3.out.size,HM.out.2⟩);replace Z2:=h! (show w1.heap.size<=w3.heap.size from Nat.le_trans Z2.out X3.out.size);clear X3 HZ3;generalize wr.heap.size=xp at *;go_loopw [19,43] (fun av kv wr=>∃ (k:Nat),k<=ss.length/\kv = .int .i64 k/\Own wr w3.heap.size 35 6 av (((ss.take k).map fun s=>(p,s)).flatMap aqC)/\Ext w3 wr) (fun _ kv _=>ss.length-(intOf kv).toNat)
   case atStart=>exact⟨0,Nat.zero_le _,rfl,Own.nil _ _ _ _,Ext.refl _⟩
   case round =>
    obtain⟨k,hk,rfl,ho,hx⟩:=hrel;have OA:=h! ho;have XQ:=h! hx;obtain⟨vo,vn,vc,rfl,hvn,-,-⟩:=ho.sl.len;rw[aq_length,List.length_map,List.length_take]at hvn;clear ho hx;by_cases hlk:k<ss.length
    ·have HLK:=h! hlk;have HWK:=h! (show wrap64 ((k:Int)+1)=((k+1:Nat):Int)from by have:=HSL.out;unfold wrap64;omega);have hlki:(k:Int)<(ss.length:Int):=by omega
     obtain⟨sb_,soff,rfl,g5⟩:=row3 HU.out (Ext.trans X2.out XQ.out) hlk;have HNK:=h! (List.take_succ_eq_append_getElem hlk);have HSK:=h! (show(ss.take k).length<=1000 from by rw[List.length_take];have:=HSL.out;omega);generalize ss[k]=s at *;have q0:wr.cell? ⟨sb_,soff+k*3,none⟩=some (.string s.t):=g5 0 _ rfl;have q1:wr.cell? ⟨sb_,soff+k*3+1,none⟩=some (.string s.i):=g5 1 _ rfl;have q2:wr.cell? ⟨sb_,soff+k*3+2,none⟩=some (.string s.r):=g5 2 _ rfl;have x4:=Ext.alloc wr (.cells #[.string s.t,.string s.i,.string s.r] 33);have b3:=(B3.out.below (XQ.out.trans x4)).cells;have b4:=(Blk.made wr #[.string s.t,.string s.i,.string s.r] 33).cells;have HZ4:=h! (show(wr.alloc (.cells #[.string s.t,.string s.i,.string s.r] 33)).heap.size=wr.heap.size+1 from by simp);have x5:=Ext.alloc (wr.alloc (.cells #[.string s.t,.string s.i,.string s.r] 33)) (.cells #[.string p.t,.string p.i,.string p.r,.string s.t,.string s.i,.string s.r] 35);have X5:=h! (show Ext w3 _ from XQ.out.trans (x4.trans x5));have O5:=h! (OA.out.below (x4.trans x5));clear g5 hlk x4 x5;go_wp2_with (at_builtin;go_must (refine wpList_ownw askT rfl _ _ rfl rfl O5.out rfl (m:=1) (news:=aqC (p,s)) rfl (by intro j y hy;rw[Addr.add_lit,cell_of_row _ (wr.heap.size+1) (0+j) #[.string p.t,.string p.i,.string p.r,.string s.t,.string s.i,.string s.r] 35 (0,0) (by have h0:=heap_alloc_new (wr.alloc (.cells #[.string s.t,.string s.i,.string s.r] 33)) (.cells #[.string p.t,.string p.i,.string p.r,.string s.t,.string s.i,.string s.r] 35);rw[HZ4.out]at h0;exact h0)];simpa [aqC] using hy) (by intro u hu;simp[aqC]at hu;rcases hu with rfl | rfl | rfl | rfl | rfl | rfl <;> rfl) (by have:=HSK.out;rw[aq_length,aqC_length,List.length_map];omega) (by have:=HSK.out;rw[aq_length,aqC_length,List.length_map];omega) X5.out.size ?_;intro v6 w6 hown6 hbx6 hg6;have HO6:=h! hown6;have HX6:=h! (grown_below X5.out O5.out hg6 X5.out.size);clear hown6 hbx6 hg6))
     clear q0 q1 q2 b3 b4;go_roundw
     case rel=>exact⟨k+1,HLK.out,by first | rw[HWK.out] | go_num,by rw[HNK.out,List.map_append,show [s].map (fun s=>(p,s))=[(p,s)]from rfl,aq_snoc];exact HO6.out,HX6.out⟩
     case measure=>have:=HLK.out;(try rw[HWK.out]);simp[intOf];omega
    ·obtain rfl:k=ss.length:=by omega
     rw[List.take_length]at OA;have SQ:=h! (S2.out.up XQ.out);have HAL:=h! (all_any HI.out (ss.map fun s=>(p,s)) (.slice vo vn vc) wr SQ.out (fun x hx=>by have:=HM.out.1 x hx;have:=XQ.out.size;omega) (OA.out.sl.mono fun x hx=>⟨hx.2,by have h1:=S2.out.gs.lt;have h2:=S2.out.ks.lt;have h4:=hx.1;exact⟨by omega,by omega⟩⟩) (fun a ha=>by obtain⟨s,hs,rfl⟩:=List.mem_map.1 ha;exact⟨HQ.out.1,HQ.out.2,HSO.out s hs⟩) (by rw[List.length_map];have:=HSL.out;omega));go_wp2_with fail
     refine HAL.out.mono ?_;rintro e w4 ⟨⟨v,lg4,lk4,hs4,hsd⟩,hk4⟩;obtain⟨rfl,ho4⟩:=hsd.ok HG.out;rw[List.map_map]at ho4;have XR4:=h! (show w3.heap.size<=wr.heap.size/\wr.heap.size<=w4.heap.size from⟨XQ.out.size,hk4.size⟩);have x5:=Ext.alloc w4 (.cells #[v] 74);have keepQ:=h! (fun(e2:TypeId) (vv:Value) (xs:List Value) (h:Own w3 w1.heap.size e2 1 vv xs)=>((h.below XQ.out).a2 hk4 SQ.out.gs.notCells SQ.out.ks.notCells).below x5);have O5:=h! (keepQ.out _ _ _ O2.out);have G5:=h! (G2_.out.keep fun _ _ h=>keepQ.out _ _ _ h);have V5:=h! ((ho4.mono (B':=w1.heap.size) (by have:=Z2.out;have:=XR4.out.1;omega)).below x5);have S5:=h! (hs4.up x5);have HV4:=h! (show ∀ x,v.ownBlock=some x->x<w4.heap.size from fun x hx=>(ho4.block x hx).2);have HZ5:=h! (show(w4.alloc (.cells #[v] 74)).heap.size=w4.heap.size+1 from by simp);obtain⟨yo,yn,yc,rfl,-,-,-⟩:=ho4.sl.len;clear hs4 hsd hk4 ho4 x5 HAL keepQ;go_wp2_with (at_builtin;go_must (refine wpList_ownw rowsBT rfl _ _ rfl rfl O5.out rfl (m:=1) (news:=[.slice yo yn yc]) rfl (by intro j u hu;rw[Addr.add_lit,cell_of_row _ w4.heap.size (0+j) #[.slice yo yn yc] 74 (0,0) (heap_alloc_new w4 _)];simpa using hu) (by simp[Value.oneCell']) (by have:=HRN.out;have:=HPL.out;have:=HLT.out;simp;omega) (by have:=HRN.out;have:=HPL.out;have:=HLT.out;simp;omega) (by have:=HZ5.out;have:=XR4.out;have:=Z2.out;omega) ?_;intro v8 w8 hown8 hbx8 hg8;have HO8:=h! hown8;have S8:=h! (S5.out.grown (M':=fun x=>(M x\/Value.ownBlock (.slice yo yn yc)=some x)\/v8.ownBlock=some x) O5.out hg8 (fun x e => .inl (HM.out.2 x e)) (by decide) HLZ.out (fun x hx=>hx.elim .inl fun e=>(hbx8 x e).elim (fun e => .inl (.inl (HM.out.2 x e))) .inr));have G8:=h! ((G5.out.snoc V5.out).keep fun _ _ h=>h.keepOwn fun g hg=>hg8.block g (h.block g hg).2 fun e=>O5.out.apart h (by decide) e.symm hg);have Z8:=h! (show w4.heap.size+1<=w8.heap.size from by have:=hg8.size;have:=HZ5.out;omega);clear hown8 hbx8 hg8))
     go_roundw
     case rel=>exact⟨i+1,_,lg4,lk4,_,HLT.out,by first | rw[HWI.out] | go_num,S8.out,(fun x hx=>by rcases hx with(hx | hx) | hx;have:=HM.out.1 x hx;have:=XR4.out;have:=Z8.out;omega;have:=HV4.out x hx;have:=Z8.out;omega;exact(HO8.out.block x hx).2),(fun x hx => .inr hx),HO8.out,by rw[HNX.out];exact G8.out,by have:=Z8.out;have:=XR4.out;have:=Z2.out;omega⟩
     case measure=>have:=HLT.out;(try rw[HWI.out]);simp[intOf];omega
  ·obtain rfl:i=ps.length:=by omega
   rw[List.take_length]at G2_;go_wp2_with fail
   go_ret2
   exact⟨_,vs,rfl,O2.out.slU,⟨G2_.out.1,fun j p hj=>by obtain⟨x,h1,h2⟩:=G2_.out.2 j p hj;exact⟨x,h1,h2.mono X1.out.size⟩⟩,X2.out⟩
theorem same32_any (v1 v2:Value)(l:List Bool)(w:World)(h1:Sl (· < w.heap.size) w 1 v1 (boC l))(h2:Sl (· < w.heap.size) w 1 v2 (boC l)):Calls Tryz.prog 43 #[v1,v2] w fun e w'=>e = .returned (.bool true)/\Ext w w':=by
 obtain⟨a1,c1,rfl,hl1,hc1,hg1⟩:=bools_at h1;obtain⟨a2,c2,rfl,-,hc2,hg2⟩:=bools_at h2;have HG1:=h! hg1;have HG2:=h! hg2;have HLL:=h! (show l.length<=9223372036854775807 from by omega);clear h1 h2 hg1 hg2 hc1 hc2 hl1;go_enter Tryz.func43,Tryz.ntmps43
 go_wp2_with fail
 go_loopw [13] (fun jv wr=>∃ i:Nat,i<=l.length/\jv = .int .i64 i/\Ext w wr) (fun jv _=>l.length-(intOf jv).toNat)
 case atStart=>exact⟨0,Nat.zero_le _,rfl,Ext.refl _⟩
 case round =>
  obtain⟨i,hi,rfl,hx⟩:=hrel;have RX:=h! hx;clear hx;by_cases hlt:i<l.length
  ·have HLT:=h! hlt;have HWI:=h! (show wrap64 ((i:Int)+1)=((i+1:Nat):Int)from by have:=HLL.out;unfold wrap64;omega);have hli:(i:Int)<(l.length:Int):=by omega
   obtain⟨b1,o1,rfl,-,e1⟩:=HG1.out i hlt;obtain⟨b2,o2,rfl,-,e2⟩:=HG2.out i hlt;generalize l[i]=x at *;clear hlt;go_wp2_with fail
   obtain⟨wd,hwd⟩:∃ wd,Hid (wd=World.drew wr):=⟨_,h! rfl⟩;have hxd:=h! (show Ext wr wd from by rw[hwd.out];exact Ext.drew _);refine r! (Ext wd) (by rw[<- hwd.out];exact Ext.refl _) ?_;rw[<- hwd.out];have RX2:=h! (Ext.trans RX.out hxd.out);have d1:=fun W (h:Ext wd W)=>Ext.cell (Ext.trans RX2.out h) e1;have d2:=fun W (h:Ext wd W)=>Ext.cell (Ext.trans RX2.out h) e2;clear hwd hxd e1 e2;(refine WalkN.tk [0,1,2,3,4,5,6,7,8] ?_;(iterate 9 (refine c! ?_));refine TkN.n ?_)
   refine d! ?_;clear d1 d2;have hxx:(x != x)=false:=by cases x <;> rfl
   go_wp2_with fail
   go_roundw
   case rel=>exact⟨i+1,HLT.out,by first | rw[HWI.out] | go_num,RX2.out⟩
   case measure=>have:=HLT.out;(try rw[HWI.out]);simp[intOf];omega
  ·obtain rfl:i=l.length:=by omega
   go_wp2_with fail
   go_ret
   exact⟨rfl,RX.out⟩
theorem cell_of_sl {S:Nat->Prop} {w:World} {ao:Option Addr} {n c:Nat} {xs:List Value} (h:Sl S w 1 (.slice ao n c) xs) {i:Nat} {x:Value} (hi:xs[i]?=some x):∃ b off,ao=some ⟨b,off,none⟩/\w.cell? ⟨b,off+i,none⟩=some x:=by
 obtain⟨ao',n',c',e,h1,h2,h3,h4,h5⟩:=h;cases e;obtain⟨b,off,e3,hb,hcell⟩:=h5 (fun e4=>by rw[e4]at hi;simp at hi);exact⟨b,off,e3,hcell i x hi⟩
theorem gridLaw_any (l0 ld:List UInt8)(v dv:Value)(w:World)(h:Sl (· < w.heap.size) w 1 v (bc l0))(hd:Sl (· < w.heap.size) w 1 dv (bc ld)):Calls Tryz.prog 8 #[v,dv] w fun e w'=>e = .returned (.bool true)/\Below w.heap.size w w':=by
 have HF:=h! (fixed32_any w);have HSL:=h! h;obtain⟨ao,ln,c,rfl,hln,-,hcm⟩:=h.len;rw[bc_length,Nat.mul_one]at hln;subst hln;have HSD:=h! hd;obtain⟨dao,dn,dc,rfl,hdn,-,-⟩:=hd.len;rw[bc_length,Nat.mul_one]at hdn;subst hdn;clear h hd;go_enter Tryz.func8,Tryz.ntmps8
 go_wp2_with fail
 refine HF.out.mono ?_;rintro e w1 ⟨rfl,hb1⟩;have HB1:=h! (show Below w.heap.size w w1 from hb1);clear hb1 HF;by_cases hlen:(300:Int)<(l0.length:Int)
 ·go_wp2_with fail
  go_ret
  exact⟨rfl,HB1.out⟩
 by_cases hlen2:(200:Int)<(ld.length:Int)
 ·go_wp2_with fail
  go_ret
  exact⟨rfl,HB1.out⟩
 have HD1:=h! (fun W (hx:Below w.heap.size w W)=>show Sl (· < W.heap.size) W 1 (.slice dao ld.length dc) (bc ld)from(HSD.out.same (Same.below hx)).mono fun b (hb:b<w.heap.size)=>Nat.lt_of_lt_of_le hb hx.size);have hx12:=Ext.alloc w1 (.cells #[.slice ao l0.length c,.int .i64 0] 41);have HT2:=h! (show Tp (w1.alloc (.cells #[.slice ao l0.length c,.int .i64 0] 41)) w1.heap.size from⟨_,l0,0,Nat.zero_le _,(HSL.out.same (Same.below (HB1.out.trans (hx12.mono HB1.out.size)))).mono fun b (hb:b<w.heap.size)=>Nat.lt_of_lt_of_le hb HB1.out.size,Blk.made _ _ _⟩);have HMK:=h! (mkOne_any _ _ HT2.out);have HB2:=h! (show Below w.heap.size w _ from HB1.out.trans (hx12.mono HB1.out.size));have HZ1:=h! (show w.heap.size<=w1.heap.size from HB1.out.size);clear hx12;go_wp2_with fail
 obtain⟨w2,hw2⟩:∃ x,x=w1.alloc (.cells #[.slice ao l0.length c,.int .i64 0] 41):=⟨_,rfl⟩;rw[<- hw2]at HT2 HMK HB2 ⊢;clear hw2;generalize w1.heap.size=tp at *;refine HMK.out.mono ?_;rintro e w3 ⟨ts,tv,lv,sv,l,shut,p,s,rfl,hgs,hty,hl,hv,hlo,hll,hso,hsl,hpo,hs,hkt⟩;obtain⟨aot,ct,rfl,-,-,-⟩:=hty.rows;obtain⟨aol,cl,rfl,-⟩:=Sl.rows tuC_length (by decide) (show Sl _ w3 6 lv (l.flatMap tuC)from hl);obtain⟨aos,cs,rfl,-⟩:=Sl.rows r2C_length (by decide) hv;have x34:=Ext.alloc w3 (.cells (caseC (.slice aot ts.length ct) (.slice aol l.length cl) (.slice aos shut.length cs) p s) 37)
 have HC:=h! (show CaseW w (w3.alloc (.cells (caseC (.slice aot ts.length ct) (.slice aol l.length cl) (.slice aos shut.length cs) p s) 37)) w3.heap.size ts (.slice aot ts.length ct) (.slice aol l.length cl) (.slice aos shut.length cs) l shut p s from by
  have hm:∀ b,(w2.heap.size<=b/\b<w3.heap.size)->b<(w3.alloc (.cells (caseC (.slice aot ts.length ct) (.slice aol l.length cl) (.slice aos shut.length cs) p s) 37)).heap.size:=fun b hb=>Nat.lt_of_lt_of_le hb.2 x34.size
  exact⟨HB2.out.trans (Below.trans (hkt.below fun b hb=>⟨Nat.lt_of_lt_of_le hb HB2.out.size,by have:=HZ1.out;omega⟩) (x34.mono (by have:=hkt.size;have:=HB2.out.size;omega))),Blk.made _ _ _,
   (hty.same fun b hb=>x34.block b hb.2).mono hm,(hl.same fun b hb=>x34.block b hb.2).mono hm,(hv.same fun b hb=>x34.block b hb.2).mono hm,hgs,hlo,hll,hso,hsl,hpo,hs⟩)
 obtain⟨T,hT⟩:=set_ex l;have HST:=h! hT;have HTL:=h! (show T.length<=24 from by have:=hT.len;have:=HC.out.len;omega);have HTO:=h! (show ∀ t∈T,t.Ok from fun t ht=>(HC.out.lok t ((hT.mem t).1 ht).1).1);have hf:=GoodS.fine HC.out.good;have hbk:=hf.bk;have HSA:=h! (show SchArg ts/\chk06 ts=0 from⟨⟨hf.ok,by have:=schB_bk ts;omega,sz_sch (by omega),by have:=(names_bk ts).1;omega,by have:=(names_bk ts).2;omega⟩,hf.chk⟩);have HHA:=h! (fun(q:P3) (hq:q.Ok)=>HasArg.of (T:=T) (shut:=shut) (p:=q) hf.chk hf.ok (by have:=schB_bk ts;omega) (by have:=(names_bk ts).1;omega) (by have:=(names_bk ts).2;omega) (by have:=HTL.out;omega) HTO.out hq HC.out.sok);have HGF:=h! (show ∀ q,¬ WalkLong ts T shut q 1000 from fun q ⟨n,h1,h2,h3⟩=>by have:=good_few HC.out.good HTL.out shut q n;omega);clear hT hf hbk;have hcb:=HC.out.B.cells;unfold caseC at hcb;go_wp2_with fail
 clear hcb;obtain⟨w4,hw4⟩:∃ x,x=w3.alloc (.cells (caseC (.slice aot ts.length ct) (.slice aol l.length cl) (.slice aos shut.length cs) p s) 37):=⟨_,rfl⟩;try unfold caseC at hw4
 try rw[<- hw4]
 unfold caseC at HC;rw[<- hw4]at HC;clear hw4;generalize w3.heap.size=cb at *;have HAS:=h! (asks_any ts (.slice aot ts.length ct) (.slice aol l.length cl) (.slice aos shut.length cs) p s ld (.slice dao ld.length dc) w4 HC.out.Y HC.out.good (HD1.out w4 HC.out.X));unfold caseC at HAS;refine HAS.out.mono ?_;rintro e W0 ⟨v9,aq,rfl,hao,haok,halen,hX⟩;obtain⟨vo,vn,vc,rfl,hvn,-,-⟩:=hao.sl.len;rw[aq_length]at hvn;obtain rfl:vn=aq.length:=by omega
 have HC:=h! (HC.out.up hX);have HA:=h! hao.slU;have HAK:=h! haok;have HAL:=h! halen;clear hao haok halen hX hvn HAS;go_wp2_with fail
 go_loopw [6,7,38] (fun pv uv jv wr=>∃ (i:Nat),i<=aq.length/\jv = .int .i64 i/\Own wr W0.heap.size 32 3 pv (pcs ((aq.take i).map (·.1)))/\Own wr W0.heap.size 33 3 uv (pcs ((aq.take i).map (·.2)))/\Ext W0 wr) (fun _ _ jv _=>aq.length-(intOf jv).toNat)
 case atStart=>exact⟨0,Nat.zero_le _,rfl,Own.nil _ _ _ _,Own.nil _ _ _ _,Ext.refl _⟩
 case round =>
  obtain⟨i,hi,rfl,hpo_,huo_,hx⟩:=hrel;have OP:=h! hpo_;have OU:=h! huo_;have RX:=h! hx;obtain⟨po,pn,pc,rfl,hpn,-,-⟩:=hpo_.sl.len;obtain⟨uo,un,uc,rfl,hun,-,-⟩:=huo_.sl.len;rw[pcs_length,List.length_map,List.length_take]at hpn hun;clear hpo_ huo_ hx;by_cases hlt:i<aq.length
  ·have HLT:=h! hlt;have HWI:=h! (show wrap64 ((i:Int)+1)=((i+1:Nat):Int)from by have:=HAL.out;unfold wrap64;omega);have hli:(i:Int)<(aq.length:Int):=by omega
   obtain⟨pb,poff,rfl,g5⟩:∃ pb poff,vo=some ⟨pb,poff,none⟩/\∀ (j:Nat) u,(aqC aq[i])[j]?=some u->wr.cell? ⟨pb,poff+i*6+j,none⟩=some u:=by
    obtain⟨_,_,e,-,-,hcel⟩:=Sl.rows aqC_length (by decide) HA.out;obtain⟨b,off,rfl,hbl,hcel⟩:=hcel (by omega);cases e;exact⟨b,off,rfl,fun j u hj=>Ext.cell RX.out (hcel i hlt j u hj)⟩
   have HNX:=h! (List.take_succ_eq_append_getElem hlt);have HLC:=h! (show(aq.take i).length<=8 from by rw[List.length_take];have:=HAL.out;omega);generalize aq[i]=a at *;obtain⟨p2,s2⟩:=a;have q0:wr.cell? ⟨pb,poff+i*6,none⟩=some (.string p2.t):=g5 0 _ rfl;have q1:wr.cell? ⟨pb,poff+i*6+1,none⟩=some (.string p2.i):=g5 1 _ rfl;have q2:wr.cell? ⟨pb,poff+i*6+2,none⟩=some (.string p2.r):=g5 2 _ rfl;have q3:wr.cell? ⟨pb,poff+i*6+3,none⟩=some (.string s2.t):=g5 3 _ rfl;have q4:wr.cell? ⟨pb,poff+i*6+4,none⟩=some (.string s2.i):=g5 4 _ rfl;have q5:wr.cell? ⟨pb,poff+i*6+5,none⟩=some (.string s2.r):=g5 5 _ rfl;obtain⟨y1,hy1⟩:∃ x,x=wr.alloc (.cells #[.string p2.t,.string p2.i,.string p2.r,.string s2.t,.string s2.i,.string s2.r] 35):=⟨_,rfl⟩;have ey1:y1.heap.size=wr.heap.size+1:=by rw[hy1];simp
   have xy1:Ext wr y1:=by rw[hy1];exact Ext.alloc _ _
   have by1:Blk y1 wr.heap.size #[.string p2.t,.string p2.i,.string p2.r,.string s2.t,.string s2.i,.string s2.r] 35:=by rw[hy1];exact Blk.made _ _ _
   obtain⟨y2,hy2⟩:∃ x,x=y1.alloc (.cells #[.string p2.t,.string p2.i,.string p2.r] 32):=⟨_,rfl⟩;have xy2:Ext y1 y2:=by rw[hy2];exact Ext.alloc _ _
   have BY:=h! (by1.below xy2);have X2:=h! (show Ext W0 y2 from Ext.trans RX.out (Ext.trans xy1 xy2));have OP2:=h! (OP.out.below (Ext.trans xy1 xy2));have OU2:=h! (OU.out.below (Ext.trans xy1 xy2))
   have HNW:=h! (show ∀ (j:Nat) u,(pC p2)[j]?=some u->y2.cell? (Addr.add ⟨y1.heap.size,0,none⟩ j)=some u from fun j u hu=>by
    rw[Addr.add_lit,hy2,cell_of_row _ y1.heap.size (0+j) #[.string p2.t,.string p2.i,.string p2.r] 32 (0,0) (heap_alloc_new y1 _)];simpa [pC] using hu)
   have hc1:=by1.cells;rw[ey1]at HNW;have HE2:=h! hy2;have HE1:=h! hy1;clear g5 hlt xy1 xy2 by1;rw[hy1]at hc1;go_wp2_with (at_builtin;go_must (first | (rw[<- HE1.out];rw[<- HE2.out];refine wpList_ownw pointsT rfl _ _ rfl rfl OP2.out rfl (m:=1) (news:=pC p2) rfl HNW.out (pC_one p2) (by have:=HLC.out;rw[pcs_length,pC_length,List.length_map];omega) (by have:=HLC.out;rw[pcs_length,pC_length,List.length_map];omega) X2.out.size ?_;intro v6 w6 hown6 hbx6 hg6;have HO6:=h! hown6;have HX6:=h! (grown_below X2.out OP2.out hg6 X2.out.size);have HU6:=h! (OU2.out.keepOwn fun g hg=>hg6.block g (OU2.out.block g hg).2 fun e=>OU2.out.apart OP2.out (by decide) hg e.symm);have B6:=h! (show Blk w6 wr.heap.size #[.string p2.t,.string p2.i,.string p2.r,.string s2.t,.string s2.i,.string s2.r] 35 from(hg6.block wr.heap.size BY.out.lt fun e=>OP2.out.neBlk BY.out (by decide) e.symm).trans BY.out);clear hown6 hbx6 hg6;have bc6:=B6.out.cells;have x7:=Ext.alloc w6 (.cells #[.string s2.t,.string s2.i,.string s2.r] 33);have X7:=h! (show Ext W0 _ from Ext.trans HX6.out x7);have U7:=h! (HU6.out.below x7);have P7:=h! (HO6.out.below x7);clear x7) | (refine wpList_ownw subsT rfl _ _ rfl rfl U7.out rfl (m:=1) (news:=pC s2) rfl (by intro j y hy;rw[Addr.add_lit,cell_of_row _ w6.heap.size (0+j) #[.string s2.t,.string s2.i,.string s2.r] 33 (0,0) (heap_alloc_new w6 _)];simpa [pC] using hy) (pC_one s2) (by have:=HLC.out;rw[pcs_length,pC_length,List.length_map];omega) (by have:=HLC.out;rw[pcs_length,pC_length,List.length_map];omega) X7.out.size ?_;intro v8 w8 hown8 hbx8 hg8;have HU8:=h! hown8;have HX8:=h! (grown_below X7.out U7.out hg8 X7.out.size);have HP8:=h! (P7.out.keepOwn fun g hg=>hg8.block g (P7.out.block g hg).2 fun e=>P7.out.apart U7.out (by decide) hg e.symm);clear hown8 hbx8 hg8)))
   clear q0 q1 q2 q3 q4 q5 hc1;clear bc6;go_roundw
   case rel=>exact⟨i+1,HLT.out,by first | rw[HWI.out] | go_num,by rw[HNX.out,List.map_append,pcs_append];simpa [pcs] using HP8.out,by rw[HNX.out,List.map_append,pcs_append];simpa [pcs] using HU8.out,HX8.out⟩
   case measure=>have:=HLT.out;(try rw[HWI.out]);simp[intOf];omega
  ·obtain rfl:i=aq.length:=by omega
   rw[List.take_length]at OP OU;obtain⟨ps,hps⟩:∃ x,x=aq.map (·.1):=⟨_,rfl⟩;obtain⟨ss,hss⟩:∃ x,x=aq.map (·.2):=⟨_,rfl⟩;rw[<- hps]at OP;rw[<- hss]at OU;have HPL:=h! (show ps.length=aq.length/\ps.length<=8 from by rw[hps,List.length_map];exact⟨rfl,HAL.out⟩);have HSL:=h! (show ss.length=aq.length/\ss.length<=8 from by rw[hss,List.length_map];exact⟨rfl,HAL.out⟩);have HPO:=h! (show ∀ q∈ps,q.Ok from fun q hq=>by rw[hps]at hq;obtain⟨a,ha,rfl⟩:=List.mem_map.1 hq;exact(HAK.out a ha).1);have HSO:=h! (show ∀ q∈ss,q.Ok from fun q hq=>by rw[hss]at hq;obtain⟨a,ha,rfl⟩:=List.mem_map.1 hq;exact(HAK.out a ha).2);have HC:=h! (HC.out.up RX.out);have PP:=h! OP.out.slU;have UU:=h! OU.out.slU;obtain rfl:pn=ps.length:=by have:=HPL.out;omega
   obtain rfl:un=ss.length:=by have:=HSL.out;omega
   have HNB:=h! (bookT_any HST.out (.slice aol l.length cl) wr HC.out.L (by have:=HC.out.len;omega) (fun t ht=>(HC.out.lok t ht).1));have hcb:=HC.out.B.cells;unfold caseC at hcb;clear hps hss OP OU RX hpn hun HA HAK HAL;go_wp2_with fail
   clear hcb;refine HNB.out.mono ?_;rintro e w5 ⟨bk,rfl,hbk,hb5⟩;have HC:=h! (HC.out.up hb5);have HI:=h! (show AskIn w5 ts (.slice aot ts.length ct) bk T shut (.slice aos shut.length cs)from⟨HC.out.Y,hbk,HC.out.V⟩);have PP:=h! ((PP.out.same (Same.below hb5)).mono (T:=(· < w5.heap.size)) fun _ hb=>Nat.lt_of_lt_of_le hb (Ext.size hb5));have UU:=h! ((UU.out.same (Same.below hb5)).mono (T:=(· < w5.heap.size)) fun _ hb=>Nat.lt_of_lt_of_le hb (Ext.size hb5));have HGR:=h! (grid_any ts _ bk T shut _ ps ss (.slice po ps.length pc) (.slice uo ss.length uc) 1000 w5 HI.out HSA.out.1 HSA.out.2 PP.out UU.out (fun q hq=>⟨HHA.out q (HPO.out q hq),HPO.out q hq⟩) HSO.out (by have:=HPL.out;omega) (by have:=HSL.out;omega) HGF.out);have hcb:=HC.out.B.cells;unfold caseC at hcb;unfold bkV at HGR;clear hbk hb5 HNB;go_wp2_with fail
   clear hcb;refine HGR.out.mono ?_;rintro e w6 ⟨v6,vs,rfl,hv6,hgr6,hx6⟩;have HC:=h! (HC.out.up hx6);have HI:=h! (HI.out.up hx6);have PP:=h! ((PP.out.same (Same.below hx6)).mono (T:=(· < w6.heap.size)) fun _ hb=>Nat.lt_of_lt_of_le hb (Ext.size hx6));have UU:=h! ((UU.out.same (Same.below hx6)).mono (T:=(· < w6.heap.size)) fun _ hb=>Nat.lt_of_lt_of_le hb (Ext.size hx6));have VG:=h! hv6;have GG:=h! hgr6;obtain⟨go_,gn,gc,rfl,hgn,-,-⟩:=hv6.len;obtain rfl:gn=ps.length:=by have:=hgr6.1;omega
   have hnn:((ps.length:Int) != (ps.length:Int))=false:=by simp
   clear hv6 hgr6 hx6 HGR hgn;go_wp2_with fail
   clear hnn;go_loopw [79] (fun jv wr=>∃ (i:Nat),i<=ps.length/\jv = .int .i64 i/\Ext w6 wr) (fun jv _=>ps.length-(intOf jv).toNat)
   case atStart=>exact⟨0,Nat.zero_le _,rfl,Ext.refl _⟩
   case round =>
    obtain⟨i,hi,rfl,hx⟩:=hrel;have RX:=h! hx;clear hx;by_cases hlt:i<ps.length
    ·have HLT:=h! hlt;have HWI:=h! (show wrap64 ((i:Int)+1)=((i+1:Nat):Int)from by have:=HPL.out;unfold wrap64;omega);have hli:(i:Int)<(ps.length:Int):=by omega
     obtain⟨x,hvx,hox⟩:=GG.out.2 i _ (List.getElem?_eq_getElem hlt);obtain⟨gb,goff,rfl,hgx⟩:=cell_of_sl VG.out hvx;obtain⟨pb,poff,rfl,g5⟩:=row3 PP.out RX.out hlt;have HQ:=h! (HPO.out _ (List.getElem_mem hlt));generalize ps[i]=p2 at *;have HX0:=h! hox.slU;have HGX:=h! hgx;have q0:wr.cell? ⟨pb,poff+i*3,none⟩=some (.string p2.t):=g5 0 _ rfl;have q1:wr.cell? ⟨pb,poff+i*3+1,none⟩=some (.string p2.i):=g5 1 _ rfl;have q2:wr.cell? ⟨pb,poff+i*3+2,none⟩=some (.string p2.r):=g5 2 _ rfl;have x3:=Ext.alloc wr (.cells #[.string p2.t,.string p2.i,.string p2.r] 32);have B3:=h! (Blk.made wr #[.string p2.t,.string p2.i,.string p2.r] 32);have X3:=h! (Ext.trans RX.out x3);clear g5 hlt x3 hvx hox hgx RX;go_wp2_with fail
     clear q0 q1 q2;obtain⟨w7,hw7⟩:∃ x,x=wr.alloc (.cells #[.string p2.t,.string p2.i,.string p2.r] 32):=⟨_,rfl⟩;rw[<- hw7]at B3 X3;try rw[<- hw7]
     clear hw7;generalize wr.heap.size=xp at *;go_loopw [15,86] (fun av kv wr=>∃ (k:Nat),k<=ss.length/\kv = .int .i64 k/\Own wr w7.heap.size 35 6 av (((ss.take k).map fun s=>(p2,s)).flatMap aqC)/\Ext w7 wr) (fun _ kv _=>ss.length-(intOf kv).toNat)
     case atStart=>exact⟨0,Nat.zero_le _,rfl,Own.nil _ _ _ _,Ext.refl _⟩
     case round =>
      obtain⟨k,hk,rfl,ho,hx⟩:=hrel;have OA:=h! ho;have XQ:=h! hx;obtain⟨qo,qn,qc,rfl,hqn,-,-⟩:=ho.sl.len;rw[aq_length,List.length_map,List.length_take]at hqn;clear ho hx;by_cases hlk:k<ss.length
      ·have HLK:=h! hlk;have HWK:=h! (show wrap64 ((k:Int)+1)=((k+1:Nat):Int)from by have:=HSL.out;unfold wrap64;omega);have hlki:(k:Int)<(ss.length:Int):=by omega
       obtain⟨sb_,soff,rfl,g5⟩:=row3 UU.out (Ext.trans X3.out XQ.out) hlk;have HNK:=h! (List.take_succ_eq_append_getElem hlk);have HSK:=h! (show(ss.take k).length<=8 from by rw[List.length_take];have:=HSL.out;omega);generalize ss[k]=s2 at *;have q0:wr.cell? ⟨sb_,soff+k*3,none⟩=some (.string s2.t):=g5 0 _ rfl;have q1:wr.cell? ⟨sb_,soff+k*3+1,none⟩=some (.string s2.i):=g5 1 _ rfl;have q2:wr.cell? ⟨sb_,soff+k*3+2,none⟩=some (.string s2.r):=g5 2 _ rfl;have x4:=Ext.alloc wr (.cells #[.string s2.t,.string s2.i,.string s2.r] 33);have b3:=(B3.out.below (XQ.out.trans x4)).cells;have b4:=(Blk.made wr #[.string s2.t,.string s2.i,.string s2.r] 33).cells;have HZ4:=h! (show(wr.alloc (.cells #[.string s2.t,.string s2.i,.string s2.r] 33)).heap.size=wr.heap.size+1 from by simp);have x5:=Ext.alloc (wr.alloc (.cells #[.string s2.t,.string s2.i,.string s2.r] 33)) (.cells #[.string p2.t,.string p2.i,.string p2.r,.string s2.t,.string s2.i,.string s2.r] 35);have X5:=h! (show Ext w7 _ from XQ.out.trans (x4.trans x5));have O5:=h! (OA.out.below (x4.trans x5));clear g5 hlk x4 x5;go_wp2_with (at_builtin;go_must (refine wpList_ownw askT rfl _ _ rfl rfl O5.out rfl (m:=1) (news:=aqC (p2,s2)) rfl (by intro j y hy;rw[Addr.add_lit,cell_of_row _ (wr.heap.size+1) (0+j) #[.string p2.t,.string p2.i,.string p2.r,.string s2.t,.string s2.i,.string s2.r] 35 (0,0) (by have h0:=heap_alloc_new (wr.alloc (.cells #[.string s2.t,.string s2.i,.string s2.r] 33)) (.cells #[.string p2.t,.string p2.i,.string p2.r,.string s2.t,.string s2.i,.string s2.r] 35);rw[HZ4.out]at h0;exact h0)];simpa [aqC] using hy) (by intro u hu;simp[aqC]at hu;rcases hu with rfl | rfl | rfl | rfl | rfl | rfl <;> rfl) (by have:=HSK.out;rw[aq_length,aqC_length,List.length_map];omega) (by have:=HSK.out;rw[aq_length,aqC_length,List.length_map];omega) X5.out.size ?_;intro v8 w8 hown8 hbx8 hg8;have HO8:=h! hown8;have HX8:=h! (grown_below X5.out O5.out hg8 X5.out.size);clear hown8 hbx8 hg8))
       clear q0 q1 q2 b3 b4;go_roundw
       case rel=>exact⟨k+1,HLK.out,by first | rw[HWK.out] | go_num,by rw[HNK.out,List.map_append,show [s2].map (fun s=>(p2,s))=[(p2,s2)]from rfl,aq_snoc];exact HO8.out,HX8.out⟩
       case measure=>have:=HLK.out;(try rw[HWK.out]);simp[intOf];omega
      ·obtain rfl:k=ss.length:=by omega
       rw[List.take_length]at OA;have X4:=h! (Ext.trans X3.out XQ.out);have HC9:=h! (HC.out.up X4.out);have HMN:=h! (many_any ts _ bk T shut _ (ss.map fun s=>(p2,s)) (.slice qo qn qc) 1000 wr (HI.out.up X4.out) HSA.out.1 HSA.out.2 OA.out.slU (fun a ha=>by obtain⟨s,hs,rfl⟩:=List.mem_map.1 ha;exact⟨HHA.out p2 HQ.out,HQ.out,HSO.out s hs⟩) (by rw[List.length_map];have:=HSL.out;omega));have hcb:=HC9.out.B.cells;unfold caseC at hcb;unfold bkV at HMN;go_wp2_with fail
       clear hcb;refine HMN.out.mono ?_;rintro e w9 ⟨⟨v9,hs9⟩,hx9⟩;obtain⟨rfl,ho9⟩:=hs9.ok HGF.out;rw[List.map_map]at ho9;have X9:=h! (Ext.trans X4.out hx9);have HSM:=h! (same32_any _ _ _ w9 ho9.slU ((HX0.out.same (Same.below X9.out)).mono (T:=(· < w9.heap.size)) fun _ hb=>Nat.lt_of_lt_of_le hb (Ext.size X9.out)));have hgx:=Ext.cell X9.out HGX.out;have hlg:(i:Int)<(ps.length:Int):=by have:=HLT.out;omega
       obtain⟨yo,yn,yc,rfl,-,-,-⟩:=ho9.sl.len;obtain⟨xo,xn,xc,rfl,-,-,-⟩:=HX0.out.len;clear hs9 ho9 hx9 HMN;go_wp2_with fail
       refine HSM.out.mono ?_;rintro e w10 ⟨rfl,hx10⟩;have X10:=h! (Ext.trans X9.out hx10);clear hx10 hgx HSM;go_wp2_with fail
       go_roundw
       case rel=>exact⟨i+1,HLT.out,by first | rw[HWI.out] | go_num,X10.out⟩
       case measure=>have:=HLT.out;(try rw[HWI.out]);simp[intOf];omega
    ·obtain rfl:i=ps.length:=by omega
     have HX:=h! (HC.out.up RX.out).X;go_wp2_with fail
     go_ret
     exact⟨rfl,HX.out⟩
end Go.Proofs.YtlhaghoajpglaaaGreat
