/- Lemmas for the claim, no condition. -/
import Derived.Carry
import Derived.Sort.MapsRangeIn
import Derived.RangeFuncGives
import Derived.RangeFuncNested
import Derived.WalkKit
import Derived.TacticsInMore
import Derived.RegionIn
import Derived.LoopNIn
import Derived.LoopIn
import Derived.Sort.KeysCollected
import Derived.RangeFuncLeaves
import Derived.OwnWalkIn
import Derived.Test.YtlhaghoajpglaaaGreatYBuDiff17
import Derived.Test.YtlhaghoajpglaaaGreatYBuDiff5
import Derived.Test.YtlhaghoajpglaaaGreatYBuDiff9
import Derived.Test.YtlhaghoajpglaaaGreatYBuDiff10
import Derived.Test.YtlhaghoajpglaaaGreatYBuDiff1
import Derived.Test.YtlhaghoajpglaaaGreatYBuDiff14
import Derived.Test.YtlhaghoajpglaaaGreatYBuDiff12
import Derived.Test.YtlhaghoajpglaaaGreatYBuDiff3
import Derived.Test.YtlhaghoajpglaaaGreatYBuDiff15
import Derived.Test.YtlhaghoajpglaaaGreatYBuDiff2
import Derived.Test.YtlhaghoajpglaaaGreatYBuDiff13
import Derived.Test.YtlhaghoajpglaaaGreatYBuDiff0
import Derived.Test.YtlhaghoajpglaaaGreatYBuDiff8
import Derived.Test.YtlhaghoajpglaaaGreatYBuDiff7
set_option maxRecDepth 100000
set_option maxHeartbeats 6000000
namespace Go.Proofs.YtlhaghoajpglaaaGreat
open Go Go.RowKit Go.Maps
structure SchArg (ts:List TyS):Prop where
 ok:∀ t∈ts,t.Ok
 bk:schB ts<=549755813888
 sz:∀ t∈ts,∀ r∈t.rels,r.2.sz<=1000000
 nms:(namesOf ts).length<=1099511627776
 rfs:(refsOf ts).length<=1099511627776
theorem bstart_any (ts:List TyS)(tv:Value)(b:Nat)(T:List Tup)(shut:List R2)(sv:Value)(most:Int)(w:World)(hI:AskIn w ts tv b T shut sv)(hS:SchArg ts)(hc:chk06 ts=0) :
  Calls Tryz.prog 101 #[.agg #[tv],bkV b,sv,.int .i64 most] w fun e w'=>∃ xb gm km,e = .returned (.tuple #[.pointer (some ⟨xb,0,none⟩),.int .i64 0])/\AskrAt (fun _=>False) w w' xb gm km tv (bkV b) sv most ts T shut [] []:=by
 have HI:=h! hI;obtain⟨ao,c,rfl,-⟩:=hI.Y.rows;obtain⟨so,sc,rfl,-⟩:=Sl.rows r2C_length (by decide) hI.V;obtain⟨wa,hwa⟩:∃ x,x=w.alloc (.cells #[.slice ao ts.length c] 26):=⟨_,rfl⟩;have XA:=h! (show Ext w wa from by rw[hwa];exact Ext.alloc _ _);have BS:=h! (show Blk wa w.heap.size #[.slice ao ts.length c] 26 from by rw[hwa];exact Blk.made _ _ _);have HCH:=h! (checkP_any ts _ wa (hI.Y.up XA.out) hS.ok hS.bk hS.sz hS.nms hS.rfs);rw[hc]at HCH;have sb:=BS.out.cells;have hmm:=@run_makeMap Tryz.prog;clear hI hS hc;subst hwa;go_enter Tryz.func101,Tryz.ntmps101
 go_wp2_with fail
 refine HCH.out.mono ?_;rintro e w1 ⟨rfl,hb1⟩;have X1:=h! (show Ext w w1 from Ext.trans XA.out hb1);have sb1:=(BS.out.below hb1).cells;clear hb1 HCH sb;obtain⟨w2,hw2⟩:∃ y,y=w1.alloc (.map #[] 0):=⟨_,rfl⟩;obtain⟨w3,hw3⟩:∃ y,y=w2.alloc (.map #[] 0):=⟨_,rfl⟩;obtain⟨w4,hw4⟩:∃ y,y=w3.alloc (.cells #[.slice ao ts.length c,bkV b,.slice so shut.length sc,.int .i64 most,.map (some w1.heap.size),.map (some (w1.heap.size+1))] 264):=⟨_,rfl⟩;have e2:w2.heap.size=w1.heap.size+1:=by rw[hw2];simp
 have e3:w3.heap.size=w1.heap.size+2:=by rw[hw3];simp[e2]
 have x12:Ext w1 w2:=by rw[hw2];exact Ext.alloc _ _
 have x23:Ext w2 w3:=by rw[hw3];exact Ext.alloc _ _
 have x34:Ext w3 w4:=by rw[hw4];exact Ext.alloc _ _
 have HF:=h! (show AskrAt (fun _=>False) w w4 (w1.heap.size+2) w1.heap.size (w1.heap.size+1) (.slice ao ts.length c) (bkV b) (.slice so shut.length sc) most ts T shut [] [] from
  ⟨X1.out.trans (x12.trans (x23.trans x34)),by have:=X1.out.size;omega,by rw[hw4,<- e3];exact Blk.made _ _ _,Mp.below (show Mp _ _ _ _ w2 w1.heap.size []from by rw[hw2];exact Mp.made w1) (x23.trans x34),Mp.below (show Mp _ _ _ _ w3 (w1.heap.size+1) []from by rw[hw3,<- e2];exact Mp.made w2) x34,(fun e he=>by cases he),(fun e he=>by cases he),by omega⟩)
 clear e2 e3 x12 x23 x34;subst hw4 hw3 hw2;unfold bkV at *;go_wp2_with fail
 go_ret2
 exact⟨_,_,_,rfl,HF.out⟩
theorem bstartF_any (ts:List TyS)(tv sv mv:Value)(w:World)(h:TysAt (· < w.heap.size) w ts tv)(hS:SchArg ts)(hc:chk06 ts=0) :
  Calls Tryz.prog 101 #[.agg #[tv],.nilIface,sv,mv] w fun e w'=>e = .returned (.tuple #[.pointer none,.int .i64 1])/\Ext w w':=by
 obtain⟨ao,c,rfl,-⟩:=h.rows;obtain⟨wa,hwa⟩:∃ x,x=w.alloc (.cells #[.slice ao ts.length c] 26):=⟨_,rfl⟩;have XA:=h! (show Ext w wa from by rw[hwa];exact Ext.alloc _ _);have BS:=h! (show Blk wa w.heap.size #[.slice ao ts.length c] 26 from by rw[hwa];exact Blk.made _ _ _);have HCH:=h! (checkP_any ts _ wa (h.up XA.out) hS.ok hS.bk hS.sz hS.nms hS.rfs);rw[hc]at HCH;have sb:=BS.out.cells;clear h hS hc;subst hwa;go_enter Tryz.func101,Tryz.ntmps101
 go_wp2_with fail
 refine HCH.out.mono ?_;rintro e w1 ⟨rfl,hb1⟩;have X1:=h! (show Ext w w1 from Ext.trans XA.out hb1);clear hb1 HCH sb;go_wp2_with fail
 go_ret2
 exact⟨rfl,X1.out⟩
theorem AskIn.up {w w':World} {ts:List TyS} {tv:Value} {b:Nat} {T:List Tup} {shut:List R2} {sv:Value} (h:AskIn w ts tv b T shut sv)(hx:Ext w w'):AskIn w' ts tv b T shut sv :=
 ⟨h.Y.up hx,h.K.ext hx,(h.V.same (Same.below hx)).mono fun _ hb=>Nat.lt_of_lt_of_le hb hx.size⟩
theorem many_any (ts:List TyS)(tv:Value)(b:Nat)(T:List Tup)(shut:List R2)(sv:Value)(l:List AQ)(lv:Value)(most:Int)(w:World)(hI:AskIn w ts tv b T shut sv)(hS:SchArg ts)(hc:chk06 ts=0)
  (hl:Sl (· < w.heap.size) w 6 lv (l.flatMap aqC)) (hA:∀ a∈l,HasArg ts T shut a.1/\a.1.Ok/\a.2.Ok) (hll:l.length<=1000000) :
  Calls Tryz.prog 40 #[.agg #[tv],bkV b,sv,lv,.int .i64 most] w fun e w'=>(∃ v,AllSaid ts T shut l most w.heap.size v e w')/\Ext w w':=by
 obtain⟨ao,c,rfl,-⟩:=hI.Y.rows;obtain⟨wa,hwa⟩:∃ x,x=w.alloc (.cells #[.slice ao ts.length c] 26):=⟨_,rfl⟩;have XA:=h! (show Ext w wa from by rw[hwa];exact Ext.alloc _ _);have BS:=h! (show Blk wa w.heap.size #[.slice ao ts.length c] 26 from by rw[hwa];exact Blk.made _ _ _);have HI:=h! (hI.up XA.out);have HST:=h! (bstart_any ts _ b T shut sv most wa HI.out hS hc);have HL:=h! hl;have HA:=h! hA;have HLL:=h! hll;have sb:=BS.out.cells;clear hI hS hc hl hA hll;subst hwa;go_enter Tryz.func40,Tryz.ntmps40
 go_wp2_with fail
 refine HST.out.mono ?_;rintro e w1 ⟨xb,gm,km,rfl,hs⟩;have X1:=h! (show Ext w w1 from Ext.trans XA.out hs.X)
 have HAL:=h! (all_any HI.out l lv w1 hs (fun _ h=>h.elim) ((HL.out.same (Same.below X1.out)).mono fun x hx=>by
  have h1:=hs.lo;have h2:=XA.out.size;have h3:=X1.out.size;refine⟨by omega,?_,?_⟩ <;> · simp at h1;omega) HA.out HLL.out)
 have HLO:=h! hs.lo;clear hs HST sb;go_wp2_with fail
 refine HAL.out.mono ?_;rintro e w2 ⟨⟨v,lg,lk,hs2,hsd⟩,hk2⟩;have X2:=h! (show Ext w w2 from Ext.trans XA.out hs2.X);have HSZ:=h! X1.out.size;clear hs2 hk2 HAL;rcases hsd with⟨hw,rfl,ho⟩ | ⟨hlg,rfl,rfl⟩
 ·have HW:=h! hw;have HO:=h! ho;obtain⟨vo,vn,vc,rfl,-⟩:=ho.sl.len;clear hw ho;go_wp2_with fail
  go_ret2
  exact⟨⟨_,.inl ⟨HW.out,rfl,HO.out.mono HSZ.out⟩⟩,X2.out⟩
 ·have HLG:=h! hlg;clear hlg;go_wp2_with fail
  go_ret2
  exact⟨⟨_,.inr ⟨HLG.out,rfl,rfl⟩⟩,X2.out⟩
theorem manyN_any (ts:List TyS)(tv fv sv lv mv:Value)(k:Int)(hk:(k != 0)=true)(w:World)(h:TysAt (· < w.heap.size) w ts tv)
  (hs:∀ W,Ext w W->Calls Tryz.prog 101 #[.agg #[tv],fv,sv,mv] W fun e w'=>e = .returned (.tuple #[.pointer none,.int .i64 k])/\Ext W w') :
  Calls Tryz.prog 40 #[.agg #[tv],fv,sv,lv,mv] w fun e w'=>e = .returned (.tuple #[.slice none 0 0,.int .i64 k])/\Ext w w':=by
 obtain⟨ao,c,rfl,-⟩:=h.rows;have XA:=h! (Ext.alloc w (.cells #[.slice ao ts.length c] 26));have HST:=h! (hs _ XA.out);have sb:=(Blk.made w #[.slice ao ts.length c] 26).cells;clear h hs;go_enter Tryz.func40,Tryz.ntmps40
 go_wp2_with fail
 refine HST.out.mono ?_;rintro e w1 ⟨rfl,hb1⟩;have X1:=h! (show Ext w w1 from Ext.trans XA.out hb1);clear hb1 HST sb;go_wp2_with fail
 go_ret2
 exact⟨rfl,X1.out⟩
def txtL:ByteArray:=⟨#[116,121,112,101,32,100,111,99,10,118,105,101,119,101,114,32,61,32,116,104,105,115,10,116,121,112,101,32,117,115,101,114]⟩
def itsL:List PIt:=[.ty docB,.rel viB thB [],.ty usB]
def lnsL:List ByteArray:=[⟨#[116,121,112,101,32,100,111,99]⟩,⟨#[118,105,101,119,101,114,32,61,32,116,104,105,115]⟩,⟨#[116,121,112,101,32,117,115,101,114]⟩]
def tsL:List TyS:=[⟨docB,[(viB,.mk 1 ⟨#[]⟩ ⟨#[]⟩ [])]⟩,⟨usB,[]⟩]
theorem linesL:linesD txtL=lnsL:=by kernel_rfl
theorem stepL:itsL.foldl stepD []=tsL:=by kernel_rfl
theorem lnsOkL:(lnsL.zip itsL).all (fun p=>lnOkB p.1 p.2)=true:=by kernel_rfl
theorem fitsL:itsL.all PIt.fitB=true:=by kernel_rfl
theorem chkL:chk06 tsL=0:=by kernel_rfl
theorem okL_:∀ t∈tsL,t.Ok:=by
 intro t ht;unfold tsL at ht;simp only[List.mem_cons,List.not_mem_nil,or_false]at ht;rcases ht with rfl | rfl
 ·refine⟨by decide,fun r hr=>?_⟩;obtain rfl:=List.mem_singleton.1 hr;exact⟨by decide,by simp[RT.Ok,okL];decide⟩
 ·exact⟨by decide,fun r hr=>by cases hr⟩
def pL:P3:=⟨docB,⟨#[49]⟩,viB⟩
def uL:P3:=⟨usB,⟨#[50]⟩,⟨#[]⟩⟩
def TLk:List Tup:=[⟨pL,uL⟩]
theorem setTL:SetT TLk TLk:=⟨List.pairwise_singleton _ _,fun t=>⟨fun h=>⟨h,by
 obtain rfl:=List.mem_singleton.1 h;kernel_rfl⟩,fun h=>h.1⟩⟩
theorem okTL:∀ t∈TLk,t.Ok:=by
 intro t ht;obtain rfl:=List.mem_singleton.1 ht;exact⟨⟨by decide,by decide,by decide⟩,⟨by decide,by decide,by decide⟩⟩
theorem argL {p:P3} (hp:p.Ok):HasArg tsL TLk [] p:=HasArg.of chkL okL_ (by decide) (by decide) (by decide) (by decide) okTL hp (by simp)
theorem endL:WalkEnd tsL TLk [] pL 9 1:=by
 have h0:(walkN tsL TLk [] pL 0).1.length=1:=by kernel_rfl
 have h1:(walkN tsL TLk [] pL 1).1.length=1:=by kernel_rfl
 refine⟨fun m hm=>?_,h1.symm⟩;obtain rfl:m=0:=by omega
 rw[h0];exact⟨by decide,by decide⟩
theorem ruleL:ruleOf tsL [] pL=some (.mk 1 ⟨#[]⟩ ⟨#[]⟩ []):=by rfl
theorem denL {s:P3}:Den tsL TLk [] s pL↔s=uL:=by
 have hs:subsOf TLk pL=[uL]:=by rfl
 constructor
 ·rintro⟨n,h⟩;induction n with
  | zero=>exact h.elim
  | succ n ih =>
   rcases h with h | ⟨r,hr,h⟩
   ·exact ih h
   ·rw[ruleL]at hr;cases hr;rw[holdT_eq,if_pos (show(RT.mk 1 ⟨#[]⟩ ⟨#[]⟩ []).k=1 from rfl),hs]at h;rcases h with h | ⟨q,hq,-⟩
    ·exact List.mem_singleton.1 h
    ·have:=setsOf_has.1 hq;rw[List.mem_singleton.1 this.1]at this;exact absurd rfl this.2
 ·rintro rfl;exact Den.said (t:=⟨pL,uL⟩) (List.mem_singleton.2 rfl) ruleL rfl
def zL:P3:=⟨⟨#[]⟩,⟨#[]⟩,⟨#[]⟩⟩
def asksL:List AQ:=[(pL,uL),(pL,zL)]
theorem schL:SchArg tsL:=⟨okL_,by decide,sz_sch (by decide),by decide,by decide⟩
theorem asksL_arg:∀ a∈asksL,HasArg tsL TLk [] a.1/\a.1.Ok/\a.2.Ok:=by
 intro a ha;unfold asksL at ha;simp only[List.mem_cons,List.not_mem_nil,or_false]at ha;have hp:pL.Ok:=⟨by decide,by decide,by decide⟩;rcases ha with rfl | rfl
 ·exact⟨argL hp,hp,⟨by decide,by decide,by decide⟩⟩
 ·exact⟨argL hp,hp,⟨by decide,by decide,by decide⟩⟩
theorem denAL:asksL.map (denA tsL TLk [])=[true,false]:=by
 have h1:denA tsL TLk [] (pL,uL)=true:=denA_iff.2 (denL.2 rfl)
 have h2:denA tsL TLk [] (pL,zL)=false:=by
  rw[Bool.eq_false_iff];intro h;have h3:=denL.1 (denA_iff.1 h);exact absurd (congrArg P3.t h3) (by decide)
 show [_,_]=_
 rw[h1,h2]
theorem manyL (ao:Option Addr)(c b:Nat)(lv:Value)(w:World)(h:TysAt (· < w.heap.size) w tsL (.slice ao 2 c))(hb:BookAt w b TLk)(hl:Sl (· < w.heap.size) w 6 lv (asksL.flatMap aqC)) :
  Calls Tryz.prog 40 #[.agg #[.slice ao 2 c],bkV b,.slice none 0 0,lv,.int .i64 9] w fun e w'=>∃ vo vc,e = .returned (.tuple #[.slice vo 2 vc,.int .i64 0])/\Sl (· < w'.heap.size) w' 1 (.slice vo 2 vc) (boC [true,false])/\Ext w w':=by
 refine(many_any tsL (.slice ao 2 c) b TLk [] (.slice none 0 0) asksL lv 9 w ⟨h,hb,Sl.nil _ _ _⟩ schL chkL hl asksL_arg (by decide)).mono ?_;rintro e w' ⟨⟨v,⟨-,rfl,ho⟩ | ⟨⟨a,ha,hlg⟩,-,-⟩⟩,hx⟩
 ·rw[denAL]at ho;obtain⟨vo,vn,vc,rfl,hvn,-,-⟩:=ho.sl.len;rw[boC_length,Nat.mul_one]at hvn;obtain rfl:vn=2:=hvn.symm;exact⟨vo,vc,rfl,ho.sl.mono fun _ hb=>hb.2,hx⟩
 ·exfalso
  unfold asksL at ha;simp only[List.mem_cons,List.not_mem_nil,or_false]at ha;rcases ha with rfl | rfl <;> exact endL.notLong hlg
theorem fixed32_any (w:World):Calls Tryz.prog 37 #[] w fun e w'=>e = .returned (.bool true)/\Below w.heap.size w w':=by
 have HPA:=h! (parse_any txtL itsL w (by decide) (by rw[linesL];rfl) (by rw[linesL];exact lnsOk_of lnsOkL) (fits_of fitsL) (fun _=>⟨docB,rfl⟩) (by decide));rw[stepL]at HPA;unfold txtL at HPA;go_enter Tryz.func37,Tryz.ntmps37
 go_wp2_with fail
 refine HPA.out.mono ?_;rintro e w1 ⟨tv,rfl,hty,hb1⟩;obtain⟨aot,ct,rfl,-,-,-⟩:=hty.rows;rw[show tsL.length=2 from rfl]at *;obtain⟨wS,hwS⟩:∃ y,y=w1.alloc (.cells #[.slice aot 2 ct] 26):=⟨_,rfl⟩;obtain⟨wt,hwt⟩:∃ y,y=wS.alloc (.cells #[.string ⟨#[100,111,99]⟩,.string ⟨#[49]⟩,.string ⟨#[118,105,101,119,101,114]⟩,.string ⟨#[117,115,101,114]⟩,.string ⟨#[50]⟩,.string ⟨#[]⟩] 67):=⟨_,rfl⟩;obtain⟨wp,hwp⟩:∃ y,y=wt.alloc (.cells #[.string ⟨#[100,111,99]⟩,.string ⟨#[49]⟩,.string ⟨#[118,105,101,119,101,114]⟩] 32):=⟨_,rfl⟩;have es:wS.heap.size=w1.heap.size+1:=by rw[hwS];simp
 have et:wt.heap.size=w1.heap.size+1+1:=by rw[hwt];simp[es]
 have x1:Ext w1 wS:=by rw[hwS];exact Ext.alloc _ _
 have x2:Ext wS wt:=by rw[hwt];exact Ext.alloc _ _
 have x3:Ext wt wp:=by rw[hwp];exact Ext.alloc _ _
 have X1:=h! (show Ext w1 wp from x1.trans (x2.trans x3));have HTY:=h! ((hty.mono (S':=(· < w1.heap.size)) fun b hb=>hb.2).up X1.out);have HB1:=h! (show Below w.heap.size w wp from hb1.trans (X1.out.mono hb1.size));have HS1:=h! (show Blk wp w1.heap.size #[.slice aot 2 ct] 26 from Blk.below (by rw[hwS];exact Blk.made _ _ _) (x2.trans x3));have HT1:=h! (show Blk wp (w1.heap.size+1) #[.string ⟨#[100,111,99]⟩,.string ⟨#[49]⟩,.string ⟨#[118,105,101,119,101,114]⟩,.string ⟨#[117,115,101,114]⟩,.string ⟨#[50]⟩,.string ⟨#[]⟩] 67 from Blk.below (by rw[hwt,<- es];exact Blk.made _ _ _) x3);have HP1:=h! (show Blk wp (w1.heap.size+1+1) #[.string ⟨#[100,111,99]⟩,.string ⟨#[49]⟩,.string ⟨#[118,105,101,119,101,114]⟩] 32 from by rw[hwp,<- et];exact Blk.made _ _ _);have bt:∀ i,wt.cell? ⟨w1.heap.size+1,i,none⟩=(#[.string ⟨#[100,111,99]⟩,.string ⟨#[49]⟩,.string ⟨#[118,105,101,119,101,114]⟩,.string ⟨#[117,115,101,114]⟩,.string ⟨#[50]⟩,.string ⟨#[]⟩]:Array Value)[i]?:=(show Blk wt (w1.heap.size+1) _ _ from by rw[hwt,<- es];exact Blk.made _ _ _).cells;clear hty hb1 HPA es et x1 x2 x3;subst hwt hwS;go_wp2_with fail
 clear bt;rw[<- hwp];clear hwp;generalize w1.heap.size+1+1=pb at *;generalize w1.heap.size+1=tb at *;generalize w1.heap.size=sb at *;obtain⟨wd,hwd⟩:∃ wd,Hid (wd=World.drew wp):=⟨_,h! rfl⟩;have hxd:=h! (show Ext wp wd from by rw[hwd.out];exact Ext.drew _);apply Code.wp_mono (Q:=J5 (fun(bk g2 g11:Nat) (vo:Option Addr) (vc:Nat) W=>Ext wd W/\Sl (· < W.heap.size) W 1 (.slice vo 2 vc) (boC [true,false])) _) ?rest ?reg
 case reg =>
  have hE:=h! (Ext.refl wd);refine region_walkN (Ext wd) (by rw[<- hwd.out];exact Ext.refl _) (by kernel_rfl) (by kernel_rfl) (fun _ _ d _ _ h=>by cases h.1) ?_;rw[<- hwd.out];have HNB:=h! (fun W gk hL=>bookT_any setTL (.slice (some ⟨gk,0,none⟩) 1 1) W hL (by decide) okTL);have HMN:=h! (fun W bk g (hx:Ext wd W) hB hA=>manyL aot ct bk (.slice (some ⟨g,0,none⟩) 2 2) W (HTY.out.up (hxd.out.trans hx)) hB hA);have h1:=fun W (h:Ext wd W)=>(HS1.out.below (hxd.out.trans h)).cells;have h2:=fun W (h:Ext wd W)=>(HT1.out.below (hxd.out.trans h)).cells;have h3:=fun W (h:Ext wd W)=>(HP1.out.below (hxd.out.trans h)).cells;(refine WalkN.tk [0,1,5,6,7,8,9,10] ?_;(iterate 8 (refine c! ?_));refine TkN.n ?_)
  clear h1 h2 h3;refine p! 2 11 ?_ ?_;refine b! ?_;intro K hK;go_simp;obtain⟨g2,hg2⟩:∃ x,x=wd.heap.size:=⟨_,rfl⟩;rw[<- hg2];have hA0:=Ext.alloc wd (.cells #[.string ⟨#[100,111,99]⟩,.string ⟨#[49]⟩,.string ⟨#[118,105,101,119,101,114]⟩,.string ⟨#[117,115,101,114]⟩,.string ⟨#[50]⟩,.string ⟨#[]⟩] 67);have hL0:Sl (fun b=>b<(wd.alloc (.cells #[.string ⟨#[100,111,99]⟩,.string ⟨#[49]⟩,.string ⟨#[118,105,101,119,101,114]⟩,.string ⟨#[117,115,101,114]⟩,.string ⟨#[50]⟩,.string ⟨#[]⟩] 67)).heap.size) (wd.alloc (.cells #[.string ⟨#[100,111,99]⟩,.string ⟨#[49]⟩,.string ⟨#[118,105,101,119,101,114]⟩,.string ⟨#[117,115,101,114]⟩,.string ⟨#[50]⟩,.string ⟨#[]⟩] 67)) 6 (.slice (some ⟨g2,0,none⟩) 1 1) (tuCs TLk):=by rw[hg2];exact Sl.made wd _ 6 1 67 _ rfl (by decide) (by simp)
  have hX0:=Ext.trans hE.out hA0;refine hK.out _ _ hX0 ?_;clear hK hg2;generalize wd.alloc (.cells #[.string ⟨#[100,111,99]⟩,.string ⟨#[49]⟩,.string ⟨#[118,105,101,119,101,114]⟩,.string ⟨#[117,115,101,114]⟩,.string ⟨#[50]⟩,.string ⟨#[]⟩] 67)=u1 at *;have hE:=h! hX0;have HL:=h! hL0;clear hA0 hX0 hL0;refine p! 3 11 ?_ ?_;refine b! ?_;intro K hK;go_simp;refine(HNB.out u1 g2 HL.out).mono ?_;rintro e u2 ⟨bk,rfl,hB1,hx1⟩;have hX1:=Ext.trans hE.out hx1;refine hK.out _ _ hX1 ?_;clear hK;have HBK:=h! hB1;have hE:=h! hX1;clear hx1 hX1 hB1 HL;refine t! 4 ?_
  refine o! 11 ?_;refine b! ?_;intro K hK;go_simp;obtain⟨g11,hg11⟩:∃ x,x=u2.heap.size:=⟨_,rfl⟩;rw[<- hg11];have hA2:=Ext.alloc u2 (.cells #[.string ⟨#[100,111,99]⟩,.string ⟨#[49]⟩,.string ⟨#[118,105,101,119,101,114]⟩,.string ⟨#[117,115,101,114]⟩,.string ⟨#[50]⟩,.string ⟨#[]⟩,.string ⟨#[100,111,99]⟩,.string ⟨#[49]⟩,.string ⟨#[118,105,101,119,101,114]⟩,.string ⟨#[]⟩,.string ⟨#[]⟩,.string ⟨#[]⟩] 35);have hL2:Sl (fun b=>b<(u2.alloc (.cells #[.string ⟨#[100,111,99]⟩,.string ⟨#[49]⟩,.string ⟨#[118,105,101,119,101,114]⟩,.string ⟨#[117,115,101,114]⟩,.string ⟨#[50]⟩,.string ⟨#[]⟩,.string ⟨#[100,111,99]⟩,.string ⟨#[49]⟩,.string ⟨#[118,105,101,119,101,114]⟩,.string ⟨#[]⟩,.string ⟨#[]⟩,.string ⟨#[]⟩] 35)).heap.size) (u2.alloc (.cells #[.string ⟨#[100,111,99]⟩,.string ⟨#[49]⟩,.string ⟨#[118,105,101,119,101,114]⟩,.string ⟨#[117,115,101,114]⟩,.string ⟨#[50]⟩,.string ⟨#[]⟩,.string ⟨#[100,111,99]⟩,.string ⟨#[49]⟩,.string ⟨#[118,105,101,119,101,114]⟩,.string ⟨#[]⟩,.string ⟨#[]⟩,.string ⟨#[]⟩] 35)) 6 (.slice (some ⟨g11,0,none⟩) 2 2) (asksL.flatMap aqC):=by rw[hg11];exact Sl.made u2 _ 6 2 35 _ rfl (by decide) (by simp)
  have hX2:=Ext.trans hE.out hA2;refine hK.out _ _ hX2 ?_;clear hK hg11;have HBK:=h! (HBK.out.ext hA2);generalize u2.alloc (.cells #[.string ⟨#[100,111,99]⟩,.string ⟨#[49]⟩,.string ⟨#[118,105,101,119,101,114]⟩,.string ⟨#[117,115,101,114]⟩,.string ⟨#[50]⟩,.string ⟨#[]⟩,.string ⟨#[100,111,99]⟩,.string ⟨#[49]⟩,.string ⟨#[118,105,101,119,101,114]⟩,.string ⟨#[]⟩,.string ⟨#[]⟩,.string ⟨#[]⟩] 35)=u3 at *;have hE:=h! hX2;have HAK:=h! hL2;clear hA2 hX2 hL2;rotate_left
  refine b! ?_;intro K hK;go_simp;obtain⟨g11,hg11⟩:∃ x,x=u1.heap.size:=⟨_,rfl⟩;rw[<- hg11];have hA1:=Ext.alloc u1 (.cells #[.string ⟨#[100,111,99]⟩,.string ⟨#[49]⟩,.string ⟨#[118,105,101,119,101,114]⟩,.string ⟨#[117,115,101,114]⟩,.string ⟨#[50]⟩,.string ⟨#[]⟩,.string ⟨#[100,111,99]⟩,.string ⟨#[49]⟩,.string ⟨#[118,105,101,119,101,114]⟩,.string ⟨#[]⟩,.string ⟨#[]⟩,.string ⟨#[]⟩] 35);have hL1:Sl (fun b=>b<(u1.alloc (.cells #[.string ⟨#[100,111,99]⟩,.string ⟨#[49]⟩,.string ⟨#[118,105,101,119,101,114]⟩,.string ⟨#[117,115,101,114]⟩,.string ⟨#[50]⟩,.string ⟨#[]⟩,.string ⟨#[100,111,99]⟩,.string ⟨#[49]⟩,.string ⟨#[118,105,101,119,101,114]⟩,.string ⟨#[]⟩,.string ⟨#[]⟩,.string ⟨#[]⟩] 35)).heap.size) (u1.alloc (.cells #[.string ⟨#[100,111,99]⟩,.string ⟨#[49]⟩,.string ⟨#[118,105,101,119,101,114]⟩,.string ⟨#[117,115,101,114]⟩,.string ⟨#[50]⟩,.string ⟨#[]⟩,.string ⟨#[100,111,99]⟩,.string ⟨#[49]⟩,.string ⟨#[118,105,101,119,101,114]⟩,.string ⟨#[]⟩,.string ⟨#[]⟩,.string ⟨#[]⟩] 35)) 6 (.slice (some ⟨g11,0,none⟩) 2 2) (asksL.flatMap aqC):=by rw[hg11];exact Sl.made u1 _ 6 2 35 _ rfl (by decide) (by simp)
  have hX1:=Ext.trans hE.out hA1;refine hK.out _ _ hX1 ?_;clear hK hg11;have HL:=h! ((HL.out.same (Same.below hA1)).mono fun _ hb=>Nat.lt_of_lt_of_le hb hA1.size);generalize u1.alloc (.cells #[.string ⟨#[100,111,99]⟩,.string ⟨#[49]⟩,.string ⟨#[118,105,101,119,101,114]⟩,.string ⟨#[117,115,101,114]⟩,.string ⟨#[50]⟩,.string ⟨#[]⟩,.string ⟨#[100,111,99]⟩,.string ⟨#[49]⟩,.string ⟨#[118,105,101,119,101,114]⟩,.string ⟨#[]⟩,.string ⟨#[]⟩,.string ⟨#[]⟩] 35)=u2 at *;have hE:=h! hX1;have HAK:=h! hL1;clear hA1 hX1 hL1;refine o! 3 ?_;refine b! ?_;intro K hK;go_simp;refine(HNB.out u2 g2 HL.out).mono ?_;rintro e u3 ⟨bk,rfl,hB2,hx2⟩;have hX2:=Ext.trans hE.out hx2;refine hK.out _ _ hX2 ?_;clear hK;have HBK:=h! hB2;have HAK:=h! ((HAK.out.same (Same.below hx2)).mono fun _ hb=>Nat.lt_of_lt_of_le hb hx2.size);have hE:=h! hX2;clear hx2 hX2 hB2 HL;refine t! 4 ?_
  rotate_left
  refine b! ?_;intro K hK;go_simp;obtain⟨g11,hg11⟩:∃ x,x=wd.heap.size:=⟨_,rfl⟩;rw[<- hg11];have hA0:=Ext.alloc wd (.cells #[.string ⟨#[100,111,99]⟩,.string ⟨#[49]⟩,.string ⟨#[118,105,101,119,101,114]⟩,.string ⟨#[117,115,101,114]⟩,.string ⟨#[50]⟩,.string ⟨#[]⟩,.string ⟨#[100,111,99]⟩,.string ⟨#[49]⟩,.string ⟨#[118,105,101,119,101,114]⟩,.string ⟨#[]⟩,.string ⟨#[]⟩,.string ⟨#[]⟩] 35);have hL0:Sl (fun b=>b<(wd.alloc (.cells #[.string ⟨#[100,111,99]⟩,.string ⟨#[49]⟩,.string ⟨#[118,105,101,119,101,114]⟩,.string ⟨#[117,115,101,114]⟩,.string ⟨#[50]⟩,.string ⟨#[]⟩,.string ⟨#[100,111,99]⟩,.string ⟨#[49]⟩,.string ⟨#[118,105,101,119,101,114]⟩,.string ⟨#[]⟩,.string ⟨#[]⟩,.string ⟨#[]⟩] 35)).heap.size) (wd.alloc (.cells #[.string ⟨#[100,111,99]⟩,.string ⟨#[49]⟩,.string ⟨#[118,105,101,119,101,114]⟩,.string ⟨#[117,115,101,114]⟩,.string ⟨#[50]⟩,.string ⟨#[]⟩,.string ⟨#[100,111,99]⟩,.string ⟨#[49]⟩,.string ⟨#[118,105,101,119,101,114]⟩,.string ⟨#[]⟩,.string ⟨#[]⟩,.string ⟨#[]⟩] 35)) 6 (.slice (some ⟨g11,0,none⟩) 2 2) (asksL.flatMap aqC):=by rw[hg11];exact Sl.made wd _ 6 2 35 _ rfl (by decide) (by simp)
  have hX0:=Ext.trans hE.out hA0;refine hK.out _ _ hX0 ?_;clear hK hg11;generalize wd.alloc (.cells #[.string ⟨#[100,111,99]⟩,.string ⟨#[49]⟩,.string ⟨#[118,105,101,119,101,114]⟩,.string ⟨#[117,115,101,114]⟩,.string ⟨#[50]⟩,.string ⟨#[]⟩,.string ⟨#[100,111,99]⟩,.string ⟨#[49]⟩,.string ⟨#[118,105,101,119,101,114]⟩,.string ⟨#[]⟩,.string ⟨#[]⟩,.string ⟨#[]⟩] 35)=u1 at *;have hE:=h! hX0;have HAK:=h! hL0;clear hA0 hX0 hL0;refine o! 2 ?_;refine b! ?_;intro K hK;go_simp;obtain⟨g2,hg2⟩:∃ x,x=u1.heap.size:=⟨_,rfl⟩;rw[<- hg2];have hA1:=Ext.alloc u1 (.cells #[.string ⟨#[100,111,99]⟩,.string ⟨#[49]⟩,.string ⟨#[118,105,101,119,101,114]⟩,.string ⟨#[117,115,101,114]⟩,.string ⟨#[50]⟩,.string ⟨#[]⟩] 67);have hL1:Sl (fun b=>b<(u1.alloc (.cells #[.string ⟨#[100,111,99]⟩,.string ⟨#[49]⟩,.string ⟨#[118,105,101,119,101,114]⟩,.string ⟨#[117,115,101,114]⟩,.string ⟨#[50]⟩,.string ⟨#[]⟩] 67)).heap.size) (u1.alloc (.cells #[.string ⟨#[100,111,99]⟩,.string ⟨#[49]⟩,.string ⟨#[118,105,101,119,101,114]⟩,.string ⟨#[117,115,101,114]⟩,.string ⟨#[50]⟩,.string ⟨#[]⟩] 67)) 6 (.slice (some ⟨g2,0,none⟩) 1 1) (tuCs TLk):=by rw[hg2];exact Sl.made u1 _ 6 1 67 _ rfl (by decide) (by simp)
  have hX1:=Ext.trans hE.out hA1;refine hK.out _ _ hX1 ?_;clear hK hg2;have HAK:=h! ((HAK.out.same (Same.below hA1)).mono fun _ hb=>Nat.lt_of_lt_of_le hb hA1.size);generalize u1.alloc (.cells #[.string ⟨#[100,111,99]⟩,.string ⟨#[49]⟩,.string ⟨#[118,105,101,119,101,114]⟩,.string ⟨#[117,115,101,114]⟩,.string ⟨#[50]⟩,.string ⟨#[]⟩] 67)=u2 at *;have hE:=h! hX1;have HL:=h! hL1;clear hA1 hX1 hL1;refine o! 3 ?_;refine b! ?_;intro K hK;go_simp;refine(HNB.out u2 g2 HL.out).mono ?_;rintro e u3 ⟨bk,rfl,hB2,hx2⟩;have hX2:=Ext.trans hE.out hx2;refine hK.out _ _ hX2 ?_;clear hK;have HBK:=h! hB2;have HAK:=h! ((HAK.out.same (Same.below hx2)).mono fun _ hb=>Nat.lt_of_lt_of_le hb hx2.size);have hE:=h! hX2;clear hx2 hX2 hB2 HL;refine t! 4 ?_
  rotate_left
  all_goals
   refine o! 12 ?_;refine b! ?_;intro K hK;go_simp;refine(HMN.out u3 bk g11 hE.out HBK.out HAK.out).mono ?_;rintro e u4 ⟨vo,vc,rfl,hs3,hx3⟩;have hX3:=Ext.trans hE.out hx3;refine hK.out _ _ hX3 ?_;clear hK;refine t! 13 ?_
   refine t! 14 ?_
   refine t! 15 ?_
   refine t! 16 ?_
   refine t! 17 ?_
   refine d! ?_;exact⟨rfl,bk,g2,g11,vo,vc,rfl,hX3,hs3⟩
 rintro e _ W1 ⟨rfl,bk,g2,g11,vo,vc,rfl,hX,hS⟩;dsimp only;have X2:=h! (hxd.out.trans hX);have HS2:=h! hS;have HTY2:=h! (HTY.out.up X2.out);have hsc:=(HS1.out.below X2.out).cells;have HMF:=h! (manyN_any tsL (.slice aot 2 ct) .nilIface (.slice none 0 0) (.slice none 0 0) (.int .i64 9) 1 rfl W1 HTY2.out fun W hx=>bstartF_any tsL (.slice aot 2 ct) (.slice none 0 0) (.int .i64 9) W (HTY2.out.up hx) schL chkL);clear hX hS hxd hwd;go_wp2_with fail
 clear hsc;refine HMF.out.mono ?_;rintro e w8 ⟨rfl,hx8⟩;have HBE:=h! (show Below w.heap.size w w8 from HB1.out.trans (Below.mono (Ext.trans X2.out hx8) HB1.out.size));obtain⟨_,_,e1,-,-,hc⟩:=bools_at ((HS2.out.same (Same.below hx8)).mono (T:=fun _=>True) fun _ _=>trivial);cases e1;obtain⟨b,off,rfl,-,k0⟩:=hc 0 (by decide);obtain⟨_,_,e2,-,k1⟩:=hc 1 (by decide);cases e2;rw[Nat.add_zero]at k0;dsimp only[List.getElem_cons_zero,List.getElem_cons_succ]at k0 k1;clear hx8 HMF hc;go_wp2_with fail
 go_ret
 exact⟨rfl,HBE.out⟩
theorem askT:ElemT Tryz.prog 71 35 6 96:=ElemT.mk' Tryz.underlying71 (show _=some (some (.agg #[.string ByteArray.empty,.string ByteArray.empty,.string ByteArray.empty,.string ByteArray.empty,.string ByteArray.empty,.string ByteArray.empty]),6,96)by kernel_rfl) rfl (by decide)
theorem aq_length (l:List AQ):(l.flatMap aqC).length=l.length*6:=flat_length aqC_length l
theorem aq_snoc (l:List AQ)(a:AQ):(l++[a]).flatMap aqC=l.flatMap aqC++aqC a:=by simp
theorem Own.neBlk {w:World} {B sz b:Nat} {e e2:TypeId} {v:Value} {xs:List Value} {cs:Array Value} (h:Own w B e sz v xs)(hb:Blk w b cs e2)(hne:e≠e2):v.ownBlock≠some b:=fun e3=>by
 obtain⟨c,hc⟩:=h.typed e3;rw[show w.heap[b]?=_ from hb]at hc;injection hc with hc
 injection hc with _ hc _
 exact hne hc.symm
theorem asks_any (ts:List TyS)(tv lv sv:Value)(p s:P3)(ld:List UInt8)(dv:Value)(w:World)(hY:TysAt (· < w.heap.size) w ts tv)(hG:GoodS ts)(hd:Sl (· < w.heap.size) w 1 dv (bc ld)) :
  Calls Tryz.prog 44 #[.agg (caseC tv lv sv p s),dv] w fun e w'=>∃ (v:Value) (l:List AQ),e = .returned v/\Own w' w.heap.size 35 6 v (l.flatMap aqC)/\(∀ a∈l,a.1.Ok/\a.2.Ok)/\l.length<=8/\Ext w w':=by
 have HFS:=h! (GoodS.fine hG);have HYY:=h! hY;obtain⟨aot,ct,rfl,-,-,-⟩:=hY.rows;obtain⟨dao,dn,dc,rfl,hdn,-,-⟩:=hd.len;obtain⟨wa,hwa⟩:∃ x,x=w.alloc (.cells (caseC (.slice aot ts.length ct) lv sv p s) 37):=⟨_,rfl⟩;obtain⟨wb,hwb⟩:∃ x,x=wa.alloc (.cells #[.slice dao dn dc,.int .i64 0] 41):=⟨_,rfl⟩;have ea:wa.heap.size=w.heap.size+1:=by rw[hwa];simp
 have xa:Ext w wa:=by rw[hwa];exact Ext.alloc _ _
 have xb:Ext wa wb:=by rw[hwb];exact Ext.alloc _ _
 have XB:=h! (xa.trans xb);have BC:=h! (show Blk wb w.heap.size (caseC (.slice aot ts.length ct) lv sv p s) 37 from Blk.below (by rw[hwa];exact Blk.made _ _ _) xb);have HTP:=h! (show Tp wb (w.heap.size+1)from⟨_,ld,0,Nat.zero_le _,(hd.same (Same.below XB.out)).mono fun b (hb:b<w.heap.size)=>(by omega),by rw[hwb,<- ea];exact Blk.made _ _ _⟩);have HNX:=h! (next_any (w.heap.size+1) 9 wb HTP.out (by decide) (by decide));clear hY hG hd hdn ea xa xb;subst hwa;go_enter Tryz.func44,Tryz.ntmps44
 go_wp2_with fail
 rw[<- hwb];clear hwb;refine HNX.out.mono ?_;rintro e w2 ⟨k,rfl,hk9,ht2,hk2⟩;have HK9:=h! hk9;have HT2:=h! ht2;have X2:=h! (show Ext w w2 from Below.trans XB.out (Kept.below (B:=w.heap.size) hk2 fun b hb=>⟨Nat.lt_of_lt_of_le hb XB.out.size,by omega⟩));have BC2:=h! (hk2.blk BC.out (by omega));clear hk9 ht2 hk2 HNX BC XB;obtain⟨tp,htp⟩:∃ x,Hid (x=w.heap.size+1):=⟨_,h! rfl⟩;rw[<- htp.out]at HT2;rw[<- htp.out];obtain⟨cb,hcb⟩:∃ x,Hid (x=w.heap.size):=⟨_,h! rfl⟩;have BC2:=h! (show Blk w2 cb (caseC (.slice aot ts.length ct) lv sv p s) 37 from by rw[hcb.out];exact BC2.out);have HCT:=h! (show cb≠tp from by have:=htp.out;have:=hcb.out;omega);try rw[<- hcb.out]
 unfold caseC at *;go_wp2_with fail
 go_loopw [6,7] (fun ov jv wr=>∃ (j:Nat) (l:List AQ),l.length+j=k/\jv = .int .i64 j/\Own wr w.heap.size 35 6 ov (l.flatMap aqC)/\(∀ a∈l,a.1.Ok/\a.2.Ok)/\Tp wr tp/\Ext w wr/\Blk wr cb #[.slice aot ts.length ct,lv,sv,.string p.t,.string p.i,.string p.r,.string s.t,.string s.i,.string s.r] 37) (fun _ jv _=>(intOf jv).toNat)
 case atStart=>exact⟨k,[],by simp,rfl,Own.nil _ _ _ _,fun a ha=>by simp at ha,HT2.out,X2.out,BC2.out⟩
 case round =>
  obtain⟨j,l,hlj,rfl,ho,hok,ht,hx,hb⟩:=hrel;have HLJ:=h! hlj;have O1:=h! ho;have OK1:=h! hok;have T1:=h! ht;have X1:=h! hx;have B1:=h! hb;obtain⟨vo,vn,vc,rfl,-,-,-⟩:=ho.sl.len;clear hlj ho hok ht hx hb HT2 X2 BC2;by_cases hj:j=0
  ·subst hj;have HL8:=h! (show l.length<=8 from by have:=HLJ.out;have:=HK9.out;omega);go_wp2_with fail
   go_ret
   exact⟨_,l,rfl,O1.out,OK1.out,HL8.out,X1.out⟩
  ·have hj0:(0:Int)<(j:Int):=by omega
   have hj1:0<j:=by omega
   have HWJ:=h! (show wrap64 ((j:Int)-1)=((j-1:Nat):Int)from by have:=HLJ.out;have:=HK9.out;unfold wrap64;omega);have HJ:=h! hj1;obtain⟨bt,ot,ctt,htv,hrow⟩:=((HYY.out.same (Same.below X1.out)).mono (S':=fun b=>b<wr.heap.size/\b≠tp) fun b hb=>⟨Nat.lt_of_lt_of_le hb X1.out.size,by have:=htp.out;omega⟩).row HFS.out.ok (by have:=HFS.out.two;omega) (fun t ht=>by have:=HFS.out.rels t ht;omega);cases htv;have HPC:=h! (mkPoint_row ts.length bt ot ct tp wr T1.out hrow (by have:=HFS.out.two;omega));have hcb1:=B1.out.cells;clear hrow hj1;go_wp2_with fail
   clear hcb1;refine HPC.out.mono ?_;rintro e w5 ⟨q,rfl,hqo,ht5,hk5⟩;have HQO:=h! hqo;have X6:=h! (Ext.alloc w5 (.cells #[.string q.t,.string q.i,.string q.r] 32));have T6:=h! (ht5.ext X6.out)
   have HTN:=h! (show ∀ g,Value.ownBlock (.slice vo vn vc)=some g->g≠tp from fun g hg e=>by
    obtain⟨bv,_,_,_,_,hB⟩:=T1.out;exact O1.out.neBlk hB (by decide) (e▸hg))
   have O6:=h! ((O1.out.keepOwn fun g hg=>hk5.block g ⟨(O1.out.block g hg).2,HTN.out g hg⟩).below X6.out);have B6:=h! ((hk5.blk B1.out HCT.out).below X6.out);have BP6:=h! (Blk.made w5 #[.string q.t,.string q.i,.string q.r] 32);have XW6:=h! (show Ext w _ from Below.trans X1.out (Below.trans (Kept.below (B:=w.heap.size) hk5 fun b hb=>⟨Nat.lt_of_lt_of_le hb X1.out.size,by have:=htp.out;omega⟩) (X6.out.mono (Nat.le_trans X1.out.size hk5.size))));have HPT:=h! (show w5.heap.size≠tp from by have:=ht5.lt;omega);clear hqo ht5 hk5 HPC O1 T1 X1 B1;unfold pV;go_wp2_with fail
   obtain⟨w6,hw6⟩:∃ y,y=w5.alloc (.cells #[.string q.t,.string q.i,.string q.r] 32):=⟨_,rfl⟩;rw[<- hw6]at X6 T6 O6 B6 BP6 XW6 ⊢;clear hw6 X6;generalize w5.heap.size=pb at *;obtain⟨wd,hwd⟩:∃ wd,Hid (wd=World.drew w6):=⟨_,h! rfl⟩;have hxd:=h! (show Ext w6 wd from by rw[hwd.out];exact Ext.drew _);refine r! (Kept (fun b=>b<wd.heap.size/\b≠tp/\Value.ownBlock (.slice vo vn vc)≠some b) wd) (by rw[<- hwd.out];exact Kept.refl _ _) ?_;rw[<- hwd.out];have T7:=h! (T6.out.ext hxd.out);have O7:=h! (O6.out.below hxd.out);have B7:=h! (B6.out.below hxd.out);have BP7:=h! (BP6.out.below hxd.out);have XW7:=h! (Ext.trans XW6.out hxd.out);clear hwd hxd T6 O6 B6 BP6 XW6;have h1:=fun W (h:Kept (fun b=>b<wd.heap.size/\b≠tp/\Value.ownBlock (.slice vo vn vc)≠some b) wd W)=>(h.blk BP7.out ⟨BP7.out.lt,HPT.out,O7.out.neBlk BP7.out (by decide)⟩).cells;have h2:=fun W (h:Kept (fun b=>b<wd.heap.size/\b≠tp/\Value.ownBlock (.slice vo vn vc)≠some b) wd W)=>(h.blk B7.out ⟨B7.out.lt,HCT.out,O7.out.neBlk B7.out (by decide)⟩).cells;(refine WalkN.tk [0,1,2,3,4] ?_;(iterate 5 (refine c! ?_));refine TkN.n ?_)
   clear h1 h2;obtain⟨bt2,ot2,ctt2,htv2,hrow⟩:=((HYY.out.same (Same.below XW7.out)).mono (S':=fun b=>b<wd.heap.size/\b≠tp) fun b hb=>⟨Nat.lt_of_lt_of_le hb XW7.out.size,by have:=htp.out;omega⟩).row HFS.out.ok (by have:=HFS.out.two;omega) (fun t ht=>by have:=HFS.out.rels t ht;omega);cases htv2;have HSC:=h! (mkSub_row ts.length bt ot ct tp wd T7.out hrow (by have:=HFS.out.two;omega));clear hrow;refine o! 5 ?_;refine b! ?_;intro K hK;go_simp;refine HSC.out.mono ?_;rintro e w8 ⟨u,rfl,huo,ht8,hk8⟩;refine hK.out _ _ (hk8.mono fun b hb=>⟨hb.1,hb.2.1⟩) ?_;clear hK HSC;have HUO:=h! huo;have O8:=h! (O7.out.keepOwn fun g hg=>hk8.block g ⟨(O7.out.block g hg).2,HTN.out g hg⟩);have B8:=h! (hk8.blk B7.out HCT.out);have XW8:=h! (show Ext w w8 from Below.trans XW7.out (Kept.below (B:=w.heap.size) hk8 fun b hb=>⟨Nat.lt_of_lt_of_le hb XW7.out.size,by have:=htp.out;omega⟩));have T8:=h! ht8;have K8:=h! hk8;clear huo ht8 hk8;unfold pV;try simp only[Act.put,pA,pZ,pS]
   refine t! 6 ?_
   have hE1:=Ext.alloc w8 (.cells #[.string q.t,.string q.i,.string q.r,.string u.t,.string u.i,.string u.r] 35);refine o! 7 ?_;refine b! ?_;intro K hK;go_simp;refine hK.out _ _ ((K8.out.mono fun b hb=>⟨hb.1,hb.2.1⟩).alloc (fun x hx=>Nat.lt_of_lt_of_le hx.1 K8.out.size) _) ?_;clear hK;refine o! 8 ?_;refine b! ?_;intro K hK;refine wp_ownw askT (.tmp 22) (.tmp 29) rfl rfl (O8.out.below hE1) (m:=1) (news:=aqC (q,u)) rfl rfl (fun j y hy=>?_) (by intro u hu;simp[aqC]at hu;rcases hu with rfl | rfl | rfl | rfl | rfl | rfl <;> rfl) (by have:=HLJ.out;have:=HK9.out;rw[aq_length,aqC_length];omega) (by have:=HLJ.out;have:=HK9.out;rw[aq_length,aqC_length];omega) (by have:=XW8.out.size;have:=hE1.size;omega) (fun v2 w2 hown2 hw2 hg2=>?_)
   ·rw[Addr.add_lit,cell_of_row _ w8.heap.size (0+j) #[.string q.t,.string q.i,.string q.r,.string u.t,.string u.i,.string u.r] 35 (0,0) (heap_alloc_new w8 _),Nat.zero_add];simpa [aqC] using hy
   have HO2:=h! (show Own w2 w.heap.size 35 6 v2 ((l++[(q,u)]).flatMap aqC)from by rw[aq_snoc];exact hown2);have HX2:=h! (grown_below (XW8.out.trans hE1) (O8.out.below hE1) hg2 (Nat.le_trans XW8.out.size hE1.size))
   have HT2:=h! (show Tp w2 tp from by
    obtain⟨bv,l',m,h3,h4,h5⟩:=T8.out.ext hE1;refine⟨bv,l',m,h3,h4.same fun b hb=>hg2.block b (Nat.lt_trans hb h5.lt) fun e=>?_,(hg2.block tp h5.lt fun e=>HTN.out tp e.symm rfl).trans h5⟩;have h7:=((O8.out.below hE1).block b e.symm).1;have h8:b=cb:=by have:=htp.out;have:=hcb.out;omega
    exact(O8.out.below hE1).neBlk (B8.out.below hE1) (by decide) (h8▸e.symm))
   have HB2:=h! (show Blk w2 cb _ _ from(hg2.block cb (B8.out.below hE1).lt fun e=>(O8.out.below hE1).neBlk (B8.out.below hE1) (by decide) e.symm).trans (B8.out.below hE1));have HCL:=h! (show Kept (fun b=>b<wd.heap.size/\b≠tp/\Value.ownBlock (.slice vo vn vc)≠some b) wd w2 from⟨hg2.os.trans K8.out.os,hg2.tape.trans K8.out.tape,hg2.output.trans K8.out.output,Nat.le_trans K8.out.size (Nat.le_trans hE1.size hg2.size),fun x hx=>(hg2.block x (Nat.lt_of_lt_of_le hx.1 (Nat.le_trans K8.out.size hE1.size)) fun e=>hx.2.2 e.symm).trans ((Below.heap_alloc w8 _ x (Nat.lt_of_lt_of_le hx.1 K8.out.size)).trans (K8.out.block x ⟨hx.1,hx.2.1⟩))⟩);refine hK.out _ _ HCL.out ?_;clear hK HCL;try simp only[Act.put,pA,pZ,pS]
   obtain⟨o2,n2,c2,rfl,-,-,-⟩:=hown2.sl.len;clear hown2 hw2 hg2 hE1;refine t! 9 ?_
   refine d! ?_
   have HOK2:=h! (show ∀ a∈l++[(q,u)],a.1.Ok/\a.2.Ok from fun a ha=>by
    rcases List.mem_append.1 ha with ha | ha
    ·exact OK1.out a ha
    ·rw[List.mem_singleton.1 ha];exact⟨HQO.out,HUO.out⟩)
   go_wp2_with fail
   go_roundw
   case rel=>exact⟨j-1,l++[(q,u)],by have:=HLJ.out;have:=HJ.out;rw[List.length_append];simp;omega,by first | rw[HWJ.out] | go_num,HO2.out,HOK2.out,HT2.out,HX2.out,HB2.out⟩
   case measure=>have:=HJ.out;(try rw[HWJ.out]);simp[intOf];omega
theorem bool_at {S:Nat->Prop} {w:World} {ao:Option Addr} {n c:Nat} {l:List Bool} (h:Sl S w 1 (.slice ao n c) (boC l)) {i:Nat} (hi:i<l.length):∃ b off,ao=some ⟨b,off,none⟩/\w.cell? ⟨b,off+i,none⟩=some (.bool l[i]):=by
 obtain⟨a2,c2,e,-,-,hc⟩:=bools_at h;injection e with e1 e2 e3
 subst e1;obtain⟨b,off,h1,-,h2⟩:=hc i hi;exact⟨b,off,h1,h2⟩
theorem AllSaid.ok {ts:List TyS} {T:List Tup} {shut:List R2} {l:List AQ} {most:Int} {lo:Nat} {v:Value} {e:Ending} {w:World} (h:AllSaid ts T shut l most lo v e w)(hl:∀ q,¬ WalkLong ts T shut q most):e = .returned (.tuple #[v,.int .i64 0])/\Own w lo 4 1 v (boC (l.map (denA ts T shut))):=by
 rcases h with⟨-,h1,h2⟩ | ⟨⟨a,-,h1⟩,-⟩
 ·exact⟨h1,h2⟩
 ·exact absurd h1 (hl _)
noncomputable def cmA (ts:List TyS) (T U:List Tup) (shut:List R2) (a:AQ):Bool:=denA ts U shut a&&!denA ts T shut a
theorem diffB_any (ts:List TyS)(tv:Value)(b1 b2:Nat)(T U:List Tup)(shut:List R2)(sv:Value)(l:List AQ)(lv:Value)(most:Int)(w:World)(h1:AskIn w ts tv b1 T shut sv)(h2:BookAt w b2 U)(hS:SchArg ts)(hc:chk06 ts=0)
  (hl:Sl (· < w.heap.size) w 6 lv (l.flatMap aqC)) (hA:∀ a∈l,HasArg ts T shut a.1/\a.1.Ok/\a.2.Ok) (hB:∀ a∈l,HasArg ts U shut a.1) (hll:l.length<=1000000) (hg1:∀ q,¬ WalkLong ts T shut q most) (hg2:∀ q,¬ WalkLong ts U shut q most) :
  Calls Tryz.prog 46 #[.agg #[tv],bkV b1,bkV b2,sv,lv,.int .i64 most] w fun e w'=>∃ v1 v2,e = .returned (.tuple #[v1,v2,.int .i64 0])/\Sl (· < w'.heap.size) w' 6 v1 ((l.filter (cmA ts T U shut)).flatMap aqC)/\Sl (· < w'.heap.size) w' 6 v2 ((l.filter (cmA ts U T shut)).flatMap aqC)/\Ext w w':=by
 have HLL:=h! hll;obtain⟨ao,c,rfl,-⟩:=h1.Y.rows;obtain⟨so,sc,rfl,-⟩:=Sl.rows r2C_length (by decide) h1.V;obtain⟨lo,lc,rfl,-⟩:=Sl.rows aqC_length (by decide) hl;obtain⟨wa,hwa⟩:∃ x,x=w.alloc (.cells #[.slice ao ts.length c] 26):=⟨_,rfl⟩;have XA:=h! (show Ext w wa from by rw[hwa];exact Ext.alloc _ _);have BS:=h! (show Blk wa w.heap.size #[.slice ao ts.length c] 26 from by rw[hwa];exact Blk.made _ _ _);have HM1:=h! (many_any ts _ b1 T shut _ l (.slice lo l.length lc) most wa (h1.up XA.out) hS hc ((hl.same (Same.below XA.out)).mono fun _ hb=>Nat.lt_of_lt_of_le hb XA.out.size) hA hll);have HM2:=h! (fun W (hx:Ext w W)=>many_any ts _ b2 U shut _ l (.slice lo l.length lc) most W ⟨h1.Y.up hx,h2.ext hx,(h1.V.same (Same.below hx)).mono fun _ hb=>Nat.lt_of_lt_of_le hb hx.size⟩ hS hc ((hl.same (Same.below hx)).mono fun _ hb=>Nat.lt_of_lt_of_le hb hx.size) (fun a ha=>⟨hB a ha,(hA a ha).2⟩) hll);have HG:=h! (And.intro hg1 hg2);have HL:=h! hl;have sb:=BS.out.cells;unfold bkV at *;clear h1 h2 hS hc hl hA hB hll hg1 hg2;subst hwa;go_enter Tryz.func46,Tryz.ntmps46
 go_wp2_with fail
 refine HM1.out.mono ?_;rintro e w1 ⟨⟨v1,hs1⟩,hx1⟩;obtain⟨rfl,ho1⟩:=hs1.ok HG.out.1;have X1:=h! (show Ext w w1 from XA.out.trans hx1);have V1:=h! ho1.slU;have sb1:=(BS.out.below hx1).cells;obtain⟨wo,wn,wc,rfl,hwn,-,-⟩:=ho1.sl.len;rw[boC_length,Nat.mul_one,List.length_map]at hwn;subst hwn;clear hs1 ho1 hx1 HM1 sb;go_wp2_with fail
 clear sb1;refine(HM2.out w1 X1.out).mono ?_;rintro e w2 ⟨⟨v2,hs2⟩,hx2⟩;obtain⟨rfl,ho2⟩:=hs2.ok HG.out.2;have X2:=h! (show Ext w w2 from X1.out.trans hx2);have V1:=h! ((V1.out.same (Same.below hx2)).mono (T:=(· < w2.heap.size)) fun _ hb=>Nat.lt_of_lt_of_le hb (Ext.size hx2));have V2:=h! ho2.slU;obtain⟨io,n2,ic2,rfl,hn2,-,-⟩:=ho2.sl.len;rw[boC_length,Nat.mul_one,List.length_map]at hn2;subst hn2;clear hs2 ho2 hx2 HM2;go_wp2_with fail
 go_loopw [18,19,48] (fun cv gv jv wr=>∃ (i:Nat),i<=l.length/\jv = .int .i64 i/\Own wr w2.heap.size 35 6 cv (((l.take i).filter (cmA ts T U shut)).flatMap aqC)/\Own wr w2.heap.size 35 6 gv (((l.take i).filter (cmA ts U T shut)).flatMap aqC)/\(∀ g,cv.ownBlock=some g->gv.ownBlock≠some g)/\Ext w2 wr) (fun _ _ jv _=>l.length-(intOf jv).toNat)
 case atStart=>exact⟨0,Nat.zero_le _,rfl,Own.nil _ _ _ _,Own.nil _ _ _ _,(fun g hg=>by cases hg),Ext.refl _⟩
 case round =>
  obtain⟨i,hi,rfl,hco,hgo,hap,hx⟩:=hrel;have HAP4:=h! hap;have RX:=h! hx;have OC:=h! hco;have OG:=h! hgo;obtain⟨co,cn,cc,rfl,-,-,-⟩:=hco.sl.len;obtain⟨go_,gn,gc,rfl,-,-,-⟩:=hgo.sl.len;clear hco hgo hap hx;by_cases hlt:i<l.length
  ·have HLT:=h! hlt;have HWI:=h! (show wrap64 ((i:Int)+1)=((i+1:Nat):Int)from by have:=HLL.out;unfold wrap64;omega);have hli:(i:Int)<(l.length:Int):=by omega
   have HNX:=h! (List.take_succ_eq_append_getElem hlt)
   obtain⟨pb,poff,rfl,g5⟩:∃ pb poff,lo=some ⟨pb,poff,none⟩/\∀ (j:Nat) u,(aqC l[i])[j]?=some u->wr.cell? ⟨pb,poff+i*6+j,none⟩=some u:=by
    obtain⟨_,_,e,-,-,hcel⟩:=Sl.rows aqC_length (by decide) HL.out;obtain⟨b,off,rfl,hbl,hcel⟩:=hcel (by omega);cases e;exact⟨b,off,rfl,fun j u hj=>Ext.cell (X2.out.trans RX.out) (hcel i hlt j u hj)⟩
   obtain⟨k1,o1,rfl,e1⟩:=bool_at V1.out (i:=i) (by rw[List.length_map];exact hlt);obtain⟨k2,o2,rfl,e2⟩:=bool_at V2.out (i:=i) (by rw[List.length_map];exact hlt);rw[List.getElem_map]at e1 e2;have x4:=Ext.alloc wr (.cells (aC l[i].1 l[i].2) 35);have e1:=Ext.cell (RX.out.trans x4) e1;have e2:=Ext.cell (RX.out.trans x4) e2;have HF0:=h! (show(l.take (i+1)).filter (cmA ts T U shut)=(l.take i).filter (cmA ts T U shut)++[l[i]].filter (cmA ts T U shut)/\(l.take (i+1)).filter (cmA ts U T shut)=(l.take i).filter (cmA ts U T shut)++[l[i]].filter (cmA ts U T shut)from by rw[HNX.out,List.filter_append,List.filter_append];exact⟨rfl,rfl⟩);have HC1:=h! (show cmA ts T U shut l[i]=(denA ts U shut l[i]&&!denA ts T shut l[i])/\cmA ts U T shut l[i]=(denA ts T shut l[i]&&!denA ts U shut l[i])from⟨rfl,rfl⟩)
   have HLC:=h! (show((l.take i).filter (cmA ts T U shut)).length<=1000000/\((l.take i).filter (cmA ts U T shut)).length<=1000000 from by
    have h1:=List.length_filter_le (cmA ts T U shut) (l.take i);have h2:=List.length_filter_le (cmA ts U T shut) (l.take i);rw[List.length_take]at h1 h2;have:=HLL.out;omega)
   generalize l[i]=a at *;obtain⟨p2,s2⟩:=a;generalize denA ts T shut (p2,s2)=d1 at *;generalize denA ts U shut (p2,s2)=d2 at *;have q0:wr.cell? ⟨pb,poff+i*6,none⟩=some (.string p2.t):=g5 0 _ rfl;have q1:wr.cell? ⟨pb,poff+i*6+1,none⟩=some (.string p2.i):=g5 1 _ rfl;have q2:wr.cell? ⟨pb,poff+i*6+2,none⟩=some (.string p2.r):=g5 2 _ rfl;have q3:wr.cell? ⟨pb,poff+i*6+3,none⟩=some (.string s2.t):=g5 3 _ rfl;have q4:wr.cell? ⟨pb,poff+i*6+4,none⟩=some (.string s2.i):=g5 4 _ rfl;have q5:wr.cell? ⟨pb,poff+i*6+5,none⟩=some (.string s2.r):=g5 5 _ rfl;unfold aC at *;dsimp only at x4 e1 e2;have XR4:=h! (RX.out.trans x4);have O4:=h! (OC.out.below x4);have G4:=h! (OG.out.below x4);have HZ4:=h! (show(wr.alloc (.cells #[.string p2.t,.string p2.i,.string p2.r,.string s2.t,.string s2.i,.string s2.r] 35)).heap.size=wr.heap.size+1 from by simp);have x5:=Ext.alloc (wr.alloc (.cells #[.string p2.t,.string p2.i,.string p2.r,.string s2.t,.string s2.i,.string s2.r] 35)) (.cells #[.string p2.t,.string p2.i,.string p2.r,.string s2.t,.string s2.i,.string s2.r] 35);have XR5:=h! (XR4.out.trans x5);have O5:=h! (O4.out.below x5);have G5:=h! (G4.out.below x5);have HAP5:=h! (show ∀ g,Value.ownBlock (.slice go_ gn gc)=some g->Value.ownBlock (.slice co cn cc)≠some g from fun g h1 h2=>HAP4.out g h2 h1);have HLO:=h! (show w2.heap.size<=((wr.alloc (.cells #[.string p2.t,.string p2.i,.string p2.r,.string s2.t,.string s2.i,.string s2.r] 35)).alloc (.cells #[.string p2.t,.string p2.i,.string p2.r,.string s2.t,.string s2.i,.string s2.r] 35)).heap.size from XR5.out.size);have bb:=(Blk.made wr #[.string p2.t,.string p2.i,.string p2.r,.string s2.t,.string s2.i,.string s2.r] 35).cells;clear g5 x4 x5 hlt;cases d1 with
   | true =>
    cases d2 with
    | true =>
     have HF:=h! (show(l.take (i+1)).filter (cmA ts T U shut)=(l.take i).filter (cmA ts T U shut)/\(l.take (i+1)).filter (cmA ts U T shut)=(l.take i).filter (cmA ts U T shut)from by rw[HF0.out.1,HF0.out.2,List.filter_cons_of_neg (by rw[HC1.out.1];decide),List.filter_cons_of_neg (by rw[HC1.out.2];decide)];simp);have HX6:=h! XR4.out;have HP6:=h! (fun g h1 h2=>HAP4.out g h2 h1);go_wp2_with fail
     go_roundw
     case rel=>exact⟨i+1,HLT.out,by first | rw[HWI.out] | go_num,by rw[HF.out.1];exact O4.out,by rw[HF.out.2];exact G4.out,fun g h1 h2=>HP6.out g h2 h1,HX6.out⟩
     case measure=>have:=HLT.out;(try rw[HWI.out]);simp[intOf];omega
    | false =>
     have HF:=h! (show(l.take (i+1)).filter (cmA ts T U shut)=(l.take i).filter (cmA ts T U shut)/\(l.take (i+1)).filter (cmA ts U T shut)=(l.take i).filter (cmA ts U T shut)++[(p2,s2)]from by rw[HF0.out.1,HF0.out.2,List.filter_cons_of_neg (by rw[HC1.out.1];decide),List.filter_cons_of_pos (by rw[HC1.out.2];decide)];simp);have HLC:=h! HLC.out.2;go_wp2_with (at_builtin;go_must (refine wpList_ownw askT rfl _ _ rfl rfl G5.out rfl (m:=1) (news:=aqC (p2,s2)) rfl (by intro j y hy;rw[Addr.add_lit,cell_of_row _ (wr.heap.size+1) (0+j) #[.string p2.t,.string p2.i,.string p2.r,.string s2.t,.string s2.i,.string s2.r] 35 (0,0) (by have h0:=heap_alloc_new (wr.alloc (.cells #[.string p2.t,.string p2.i,.string p2.r,.string s2.t,.string s2.i,.string s2.r] 35)) (.cells #[.string p2.t,.string p2.i,.string p2.r,.string s2.t,.string s2.i,.string s2.r] 35);rw[HZ4.out]at h0;exact h0)];simpa [aqC] using hy) (by intro u hu;simp[aqC]at hu;rcases hu with rfl | rfl | rfl | rfl | rfl | rfl <;> rfl) (by have:=HLC.out;rw[aq_length,aqC_length];omega) (by have:=HLC.out;rw[aq_length,aqC_length];omega) HLO.out ?_;intro v6 w6 hown6 hbx6 hg6;have HO6:=h! hown6;have HX6:=h! (grown_below XR5.out G5.out hg6 HLO.out);have HG6:=h! (O5.out.keepOwn fun g hg=>hg6.block g (O5.out.block g hg).2 fun e=>HAP5.out g e.symm hg);have HP6:=h! (show ∀ g,Value.ownBlock (.slice co cn cc)=some g->v6.ownBlock≠some g from fun g h1 h2=>(hbx6 g h2).elim (fun e=>HAP5.out g e h1) fun e=>by have:=(O5.out.block g h1).2;omega);clear hown6 hbx6 hg6))
     go_roundw
     case rel=>exact⟨i+1,HLT.out,by first | rw[HWI.out] | go_num,by rw[HF.out.1];exact HG6.out,by rw[HF.out.2];exact(by rw[aq_snoc];exact HO6.out),HP6.out,HX6.out⟩
     case measure=>have:=HLT.out;(try rw[HWI.out]);simp[intOf];omega
   | false =>
    cases d2 with
    | true =>
     have HF:=h! (show(l.take (i+1)).filter (cmA ts T U shut)=(l.take i).filter (cmA ts T U shut)++[(p2,s2)]/\(l.take (i+1)).filter (cmA ts U T shut)=(l.take i).filter (cmA ts U T shut)from by rw[HF0.out.1,HF0.out.2,List.filter_cons_of_pos (by rw[HC1.out.1];decide),List.filter_cons_of_neg (by rw[HC1.out.2];decide)];simp);have HLC:=h! HLC.out.1;go_wp2_with (at_builtin;go_must (refine wpList_ownw askT rfl _ _ rfl rfl O5.out rfl (m:=1) (news:=aqC (p2,s2)) rfl (by intro j y hy;rw[Addr.add_lit,cell_of_row _ (wr.heap.size+1) (0+j) #[.string p2.t,.string p2.i,.string p2.r,.string s2.t,.string s2.i,.string s2.r] 35 (0,0) (by have h0:=heap_alloc_new (wr.alloc (.cells #[.string p2.t,.string p2.i,.string p2.r,.string s2.t,.string s2.i,.string s2.r] 35)) (.cells #[.string p2.t,.string p2.i,.string p2.r,.string s2.t,.string s2.i,.string s2.r] 35);rw[HZ4.out]at h0;exact h0)];simpa [aqC] using hy) (by intro u hu;simp[aqC]at hu;rcases hu with rfl | rfl | rfl | rfl | rfl | rfl <;> rfl) (by have:=HLC.out;rw[aq_length,aqC_length];omega) (by have:=HLC.out;rw[aq_length,aqC_length];omega) HLO.out ?_;intro v6 w6 hown6 hbx6 hg6;have HO6:=h! hown6;have HX6:=h! (grown_below XR5.out O5.out hg6 HLO.out);have HG6:=h! (G5.out.keepOwn fun g hg=>hg6.block g (G5.out.block g hg).2 fun e=>HAP5.out g hg e.symm);have HP6:=h! (show ∀ g,v6.ownBlock=some g->Value.ownBlock (.slice go_ gn gc)≠some g from fun g h1 h2=>(hbx6 g h1).elim (fun e=>HAP5.out g h2 e) fun e=>by have:=(G5.out.block g h2).2;omega);clear hown6 hbx6 hg6))
     go_roundw
     case rel=>exact⟨i+1,HLT.out,by first | rw[HWI.out] | go_num,by rw[HF.out.1];exact(by rw[aq_snoc];exact HO6.out),by rw[HF.out.2];exact HG6.out,HP6.out,HX6.out⟩
     case measure=>have:=HLT.out;(try rw[HWI.out]);simp[intOf];omega
    | false =>
     have HF:=h! (show(l.take (i+1)).filter (cmA ts T U shut)=(l.take i).filter (cmA ts T U shut)/\(l.take (i+1)).filter (cmA ts U T shut)=(l.take i).filter (cmA ts U T shut)from by rw[HF0.out.1,HF0.out.2,List.filter_cons_of_neg (by rw[HC1.out.1];decide),List.filter_cons_of_neg (by rw[HC1.out.2];decide)];simp);have HX6:=h! XR4.out;have HP6:=h! (fun g h1 h2=>HAP4.out g h2 h1);go_wp2_with fail
     go_roundw
     case rel=>exact⟨i+1,HLT.out,by first | rw[HWI.out] | go_num,by rw[HF.out.1];exact O4.out,by rw[HF.out.2];exact G4.out,fun g h1 h2=>HP6.out g h2 h1,HX6.out⟩
     case measure=>have:=HLT.out;(try rw[HWI.out]);simp[intOf];omega
  ·obtain rfl:i=l.length:=by omega
   rw[List.take_length]at OC OG;have XE:=h! (X2.out.trans RX.out);go_wp2_with fail
   go_ret3
   exact⟨_,_,rfl,OC.out.slU,OG.out.slU,XE.out⟩
theorem i64_few (k:Nat)(h:k<=1000):IntKind.i64.wrap (k:Int)=(k:Int):=IntWalk.i64_in _ (by omega)
theorem i64_few1 (k:Nat)(h:k<=1000):IntKind.i64.wrap ((k:Int)+1)=(k:Int)+1:=IntWalk.i64_in _ (by omega)
theorem wrap_few1 (k:Nat)(h:k<=1000):wrap64 ((k:Int)+1)=(k:Int)+1:=by unfold wrap64;omega
theorem tup_take {ao:Option Addr} {l:List Tup} {cl k:Nat} (hk:k<=l.length)(_hl:l.length<=24) {W:World} {S:Nat->Prop} (h:Sl S W 6 (.slice ao l.length cl) (tuCs l)):Sl S W 6 (.slice ao k cl) (tuCs (l.take k)):=by
 obtain⟨ao',n',c',e,h1,h2,h3,h4,h5⟩:=h;cases e;refine⟨ao,k,cl,rfl,by rw[tuCs_length,List.length_take];omega,by omega,h3,fun e2=>by have:=h4 e2;omega,fun hne=>?_⟩
 obtain⟨b,off,e3,hb,hcell⟩:=h5 (fun e4=>hne (by
  have:=congrArg List.length e4;rw[tuCs_length,List.length_nil]at this;have h0:l=[]:=List.length_eq_zero_iff.1 (by omega);rw[h0];simp[tuCs]))
 refine⟨b,off,e3,hb,fun j u hj=>hcell j u ?_⟩;rw[<- tuCs_take,List.getElem?_take]at hj;split at hj
 ·exact hj
 ·cases hj
theorem tup_cap {ao:Option Addr} {l:List Tup} {cl:Nat} {W:World} {S:Nat->Prop} (h:Sl S W 6 (.slice ao l.length cl) (tuCs l)):l.length<=cl:=by
 obtain⟨_,_,e,h1,h2,-⟩:=Sl.rows tuC_length (by decide) (show Sl _ W 6 _ (l.flatMap tuC)from h);cases e;exact h1
theorem ln0 (n:Nat):¬ ((n:Int)+1=0):=by omega
theorem filt_yes {f:AQ->Bool} {l:List AQ} {i:Nat} (hi:i<l.length)(hf:f l[i]=true):(l.filter f)[((l.take i).filter f).length]?=some l[i]/\((l.take (i+1)).filter f).length=((l.take i).filter f).length+1:=by
 have e2:l.filter f=(l.take i).filter f++(l[i]::(l.drop (i+1)).filter f):=by
  have e1:l=l.take i++(l[i]::l.drop (i+1)):=by rw[<- List.drop_eq_getElem_cons hi,List.take_append_drop]
  conv=>lhs;rw[e1,List.filter_append,List.filter_cons_of_pos hf]
 refine⟨?_,?_⟩
 ·rw[e2,List.getElem?_append_right (Nat.le_refl _),Nat.sub_self];rfl
 ·rw[<- List.take_append_getElem hi,List.filter_append,List.filter_cons_of_pos hf];simp
theorem filt_no {f:AQ->Bool} {l:List AQ} {i:Nat} (hi:i<l.length)(hf:f l[i]=false):((l.take (i+1)).filter f).length=((l.take i).filter f).length:=by
 rw[<- List.take_append_getElem hi,List.filter_append,List.filter_cons_of_neg (by rw[hf];decide)];simp
theorem cm_none {ts:List TyS} {T U:List Tup} {shut:List R2} (h:∀ t∈U,t∈T)(l:List AQ):l.filter (cmA ts T U shut)=[]:=by
 refine List.filter_eq_nil_iff.2 fun a _ ha=>?_;unfold cmA at ha;rw[Bool.and_eq_true]at ha;have:=denA_iff.2 (Den.mono h (fun _ hs=>hs) (denA_iff.1 ha.1));rw[this]at ha;exact absurd ha.2 (by decide)
theorem diffLaw_any (l0 ld:List UInt8)(v dv:Value)(m:Nat)(hm:m<256)(w:World)(h:Sl (· < w.heap.size) w 1 v (bc l0))(hd:Sl (· < w.heap.size) w 1 dv (bc ld)):Calls Tryz.prog 9 #[v,dv,.int .u8 m] w fun e w'=>e = .returned (.bool true)/\Below w.heap.size w w':=by
 have HF:=h! (fixed32_any w);have HM:=h! hm;clear hm;have HSL:=h! h;obtain⟨ao,ln,c,rfl,hln,-,hcm⟩:=h.len;rw[bc_length,Nat.mul_one]at hln;subst hln;have HSD:=h! hd;obtain⟨dao,dn,dc,rfl,hdn,-,-⟩:=hd.len;rw[bc_length,Nat.mul_one]at hdn;subst hdn;clear h hd;go_enter Tryz.func9,Tryz.ntmps9
 go_wp2_with fail
 refine HF.out.mono ?_;rintro e w1 ⟨rfl,hb1⟩;have HB1:=h! (show Below w.heap.size w w1 from hb1);clear hb1 HF;by_cases hlen:(300:Int)<(l0.length:Int)
 ·go_wp2_with fail
  go_ret
  exact⟨rfl,HB1.out⟩
 by_cases hlen2:(200:Int)<(ld.length:Int)
 ·go_wp2_with fail
  go_ret
  exact⟨rfl,HB1.out⟩
 have HD1:=h! (fun W (hx:Below w.heap.size w W)=>show Sl (· < W.heap.size) W 1 (.slice dao ld.length dc) (bc ld)from(HSD.out.same (Same.below hx)).mono fun b (hb:b<w.heap.size)=>Nat.lt_of_lt_of_le hb hx.size);have hx12:=Ext.alloc w1 (.cells #[.slice ao l0.length c,.int .i64 0] 41);have HT2:=h! (show Tp (w1.alloc (.cells #[.slice ao l0.length c,.int .i64 0] 41)) w1.heap.size from⟨_,l0,0,Nat.zero_le _,(HSL.out.same (Same.below (HB1.out.trans (hx12.mono HB1.out.size)))).mono fun b (hb:b<w.heap.size)=>Nat.lt_of_lt_of_le hb HB1.out.size,Blk.made _ _ _⟩);have HMK:=h! (mkOne_any _ _ HT2.out);have HB2:=h! (show Below w.heap.size w _ from HB1.out.trans (hx12.mono HB1.out.size));have HZ1:=h! (show w.heap.size<=w1.heap.size from HB1.out.size);clear hx12;go_wp2_with fail
 obtain⟨w2,hw2⟩:∃ x,x=w1.alloc (.cells #[.slice ao l0.length c,.int .i64 0] 41):=⟨_,rfl⟩;rw[<- hw2]at HT2 HMK HB2 ⊢;clear hw2;generalize w1.heap.size=tp at *;refine HMK.out.mono ?_;rintro e w3 ⟨ts,tv,lv,sv,l,shut,p,s,rfl,hgs,hty,hl,hv,hlo,hll,hso,hsl,hpo,hs,hkt⟩;obtain⟨aot,ct,rfl,-,-,-⟩:=hty.rows;obtain⟨aol,cl,rfl,-⟩:=Sl.rows tuC_length (by decide) (show Sl _ w3 6 lv (l.flatMap tuC)from hl);obtain⟨aos,cs,rfl,-⟩:=Sl.rows r2C_length (by decide) hv;have x34:=Ext.alloc w3 (.cells (caseC (.slice aot ts.length ct) (.slice aol l.length cl) (.slice aos shut.length cs) p s) 37)
 have HC:=h! (show CaseW w (w3.alloc (.cells (caseC (.slice aot ts.length ct) (.slice aol l.length cl) (.slice aos shut.length cs) p s) 37)) w3.heap.size ts (.slice aot ts.length ct) (.slice aol l.length cl) (.slice aos shut.length cs) l shut p s from by
  have hm:∀ b,(w2.heap.size<=b/\b<w3.heap.size)->b<(w3.alloc (.cells (caseC (.slice aot ts.length ct) (.slice aol l.length cl) (.slice aos shut.length cs) p s) 37)).heap.size:=fun b hb=>Nat.lt_of_lt_of_le hb.2 x34.size
  exact⟨HB2.out.trans (Below.trans (hkt.below fun b hb=>⟨Nat.lt_of_lt_of_le hb HB2.out.size,by have:=HZ1.out;omega⟩) (x34.mono (by have:=hkt.size;have:=HB2.out.size;omega))),Blk.made _ _ _,
   (hty.same fun b hb=>x34.block b hb.2).mono hm,(hl.same fun b hb=>x34.block b hb.2).mono hm,(hv.same fun b hb=>x34.block b hb.2).mono hm,hgs,hlo,hll,hso,hsl,hpo,hs⟩)
 have hf:=GoodS.fine HC.out.good;have hbk:=hf.bk;have HSA:=h! (show SchArg ts/\chk06 ts=0 from⟨⟨hf.ok,by have:=schB_bk ts;omega,sz_sch (by omega),by have:=(names_bk ts).1;omega,by have:=(names_bk ts).2;omega⟩,hf.chk⟩);have HHA:=h! (fun(T:List Tup) (hTL:T.length<=24) (hTO:∀ t∈T,t.Ok) (q:P3) (hq:q.Ok)=>HasArg.of (T:=T) (shut:=shut) (p:=q) hf.chk hf.ok (by have:=schB_bk ts;omega) (by have:=(names_bk ts).1;omega) (by have:=(names_bk ts).2;omega) (by omega) hTO hq HC.out.sok);have HGF:=h! (show ∀ T:List Tup,T.length<=24->∀ q,¬ WalkLong ts T shut q 1000 from fun T hTL q ⟨n,h1,h2,h3⟩=>by have:=good_few HC.out.good hTL shut q n;omega);clear hf hbk;have hcb:=HC.out.B.cells;unfold caseC at hcb;go_wp2_with fail
 clear hcb;obtain⟨w4,hw4⟩:∃ x,x=w3.alloc (.cells (caseC (.slice aot ts.length ct) (.slice aol l.length cl) (.slice aos shut.length cs) p s) 37):=⟨_,rfl⟩;try unfold caseC at hw4
 try rw[<- hw4]
 unfold caseC at HC;rw[<- hw4]at HC;clear hw4;generalize w3.heap.size=cb at *;obtain⟨wd,hwd⟩:∃ wd,Hid (wd=World.drew w4):=⟨_,h! rfl⟩;have hxd:=h! (show Ext w4 wd from by rw[hwd.out];exact Ext.drew _);apply Code.wp_mono (Q:=J7 (fun(xo:Option Addr) (xn xc g5:Nat) (vo:Option Addr) (vn vc:Nat) W=>Ext wd W/\∃ l:List AQ,Own W wd.heap.size 35 6 (.slice vo vn vc) (l.flatMap aqC)/\(∀ a∈l,a.1.Ok/\a.2.Ok)/\l.length<=9) _) ?restA ?regA
 case regA =>
  have hE:=h! (Ext.refl wd);refine region_walkN (Ext wd) (by rw[<- hwd.out];exact Ext.refl _) (by kernel_rfl) (by kernel_rfl) (fun _ _ d _ _ h=>by cases h.1) ?_;rw[<- hwd.out];have HAS:=h! (fun W (hx:Ext wd W)=>asks_any ts (.slice aot ts.length ct) (.slice aol l.length cl) (.slice aos shut.length cs) p s ld (.slice dao ld.length dc) W ((HC.out.up (hxd.out.trans hx)).Y) HC.out.good (HD1.out W (HC.out.up (hxd.out.trans hx)).X));have HPS:=h! (And.intro HC.out.pok HC.out.sOk);have hcb:=fun W (h:Ext wd W)=>(HC.out.B.below (hxd.out.trans h)).cells;unfold caseC at hcb HAS;(refine WalkN.tk [0,1,3,4] ?_;(iterate 4 (refine c! ?_));refine TkN.n ?_)
  clear hcb;refine p! 2 5 ?_ ?_;refine b! ?_;intro K hK;go_simp;refine(HAS.out wd hE.out).mono ?_;rintro e u1 ⟨v,l2,rfl,ho0,hok0,hll0,hx0⟩;obtain⟨xo,xn,xc,rfl,-,-,-⟩:=ho0.sl.len;have hX0:=Ext.trans hE.out hx0;refine hK.out _ _ hX0 ?_;clear hK;have HO:=h! (ho0.mono hE.out.size);have HOK:=h! (And.intro hok0 hll0);have hE:=h! hX0;clear hx0 hX0 ho0 hok0 hll0;refine o! 5 ?_;refine b! ?_;intro K hK;go_simp;obtain⟨g5,hg5⟩:∃ x,x=u1.heap.size:=⟨_,rfl⟩;rw[<- hg5];have hA1:=Ext.alloc u1 (.cells #[.string p.t,.string p.i,.string p.r,.string s.t,.string s.i,.string s.r] 35);have hL1:Blk (u1.alloc (.cells #[.string p.t,.string p.i,.string p.r,.string s.t,.string s.i,.string s.r] 35)) g5 #[.string p.t,.string p.i,.string p.r,.string s.t,.string s.i,.string s.r] 35:=by rw[hg5];exact Blk.made _ _ _
  have hX1:=Ext.trans hE.out hA1;refine hK.out _ _ hX1 ?_;clear hK hg5;have HO:=h! (HO.out.below hA1);generalize u1.alloc (.cells #[.string p.t,.string p.i,.string p.r,.string s.t,.string s.i,.string s.r] 35)=u2 at *;have hE:=h! hX1;have HL:=h! hL1;clear hA1 hX1 hL1;rotate_left
  refine b! ?_;intro K hK;go_simp;obtain⟨g5,hg5⟩:∃ x,x=wd.heap.size:=⟨_,rfl⟩;rw[<- hg5];have hA0:=Ext.alloc wd (.cells #[.string p.t,.string p.i,.string p.r,.string s.t,.string s.i,.string s.r] 35);have hL0:Blk (wd.alloc (.cells #[.string p.t,.string p.i,.string p.r,.string s.t,.string s.i,.string s.r] 35)) g5 #[.string p.t,.string p.i,.string p.r,.string s.t,.string s.i,.string s.r] 35:=by rw[hg5];exact Blk.made _ _ _
  have hX0:=Ext.trans hE.out hA0;refine hK.out _ _ hX0 ?_;clear hK hg5;generalize wd.alloc (.cells #[.string p.t,.string p.i,.string p.r,.string s.t,.string s.i,.string s.r] 35)=u1 at *;have hE:=h! hX0;have HL:=h! hL0;clear hA0 hX0 hL0;refine o! 2 ?_;refine b! ?_;intro K hK;go_simp;refine(HAS.out u1 hE.out).mono ?_;rintro e u2 ⟨v,l2,rfl,ho1,hok1,hll1,hx1⟩;obtain⟨xo,xn,xc,rfl,-,-,-⟩:=ho1.sl.len;have hX1:=Ext.trans hE.out hx1;refine hK.out _ _ hX1 ?_;clear hK;have HL:=h! (HL.out.below hx1);have HO:=h! (ho1.mono hE.out.size);have HOK:=h! (And.intro hok1 hll1);have hE:=h! hX1;clear hx1 hX1 ho1 hok1 hll1;rotate_left
  all_goals
   refine o! 6 ?_;refine b! ?_;intro K hK;refine wp_ownw askT (.tmp 39) (.tmp 42) rfl rfl HO.out (m:=1) (news:=aqC (p,s)) rfl rfl (fun j y hy=>?_) (by intro u hu;simp[aqC]at hu;rcases hu with rfl | rfl | rfl | rfl | rfl | rfl <;> rfl) (by have:=HOK.out.2;rw[aq_length,aqC_length];omega) (by have:=HOK.out.2;rw[aq_length,aqC_length];omega) hE.out.size (fun v2 w9 hown9 hw9 hg9=>?_)
   ·rw[Addr.add_lit,HL.out.cells];simpa [aqC] using hy
   have hX9:=grown_below hE.out HO.out hg9 hE.out.size;refine hK.out _ _ hX9 ?_;clear hK;try simp only[Act.put,pA,pZ,pS]
   obtain⟨vo,vn,vc,rfl,-,-,-⟩:=hown9.sl.len;refine t! 7 ?_
   refine d! ?_;exact⟨rfl,xo,xn,xc,g5,vo,vn,vc,rfl,hX9,l2++[(p,s)],by rw[aq_snoc];exact hown9,fun a ha=>(by rcases List.mem_append.1 ha with ha | ha;exact HOK.out.1 a ha;rw[List.mem_singleton.1 ha];exact HPS.out),by rw[List.length_append];have:=HOK.out.2;simp;omega⟩
 rintro e _ W0 ⟨rfl,xo,xn,xc,g5,vo,vn,vc,rfl,hX,aq,hao,haok,halen⟩;dsimp only;have HC:=h! (HC.out.up (hxd.out.trans hX));have HAO:=h! hao;have HAK:=h! haok;have HAL:=h! halen
 have hvn:vn=aq.length:=by
  obtain⟨_,_,_,e1,e2,-⟩:=hao.sl.len;cases e1;rw[aq_length]at e2;omega
 subst hvn;clear hX hao haok halen hxd hwd;go_wp2_with fail
 obtain⟨wd,hwd⟩:∃ wd,Hid (wd=World.drew W0):=⟨_,h! rfl⟩;have hxd:=h! (show Ext W0 wd from by rw[hwd.out];exact Ext.drew _);refine r! (Ext wd) (by rw[<- hwd.out];exact Ext.refl _) ?_;rw[<- hwd.out];have HC:=h! (HC.out.up hxd.out);have HAO:=h! (HAO.out.below hxd.out);clear hwd hxd;have hc:=fun W (h:Ext wd W)=>(HC.out.B.below h).cells;unfold caseC at hc;obtain⟨k,hkl,hkq⟩:∃ k:Nat,k<=l.length/\(m:Int).tmod ((l.length:Int)+1)=(k:Int):=⟨m % (l.length+1),by have:=Nat.mod_lt m (show 0<l.length+1 by omega);omega,by rw[Int.tmod_eq_emod_of_nonneg (by omega)];simp⟩;have HKL:=h! hkl;have HTK:=h! (tup_take HKL.out HC.out.len HC.out.L);have ha2:IntKind.i64.wrap (m:Int)=(m:Int):=i64_few m (by have:=HM.out;omega);have hkw:=i64_few k (by have:=HC.out.len;omega);have hlw:=i64_few1 l.length (by have:=HC.out.len;omega);have hlw2:=wrap_few1 l.length (by have:=HC.out.len;omega);have hln0:¬ ((l.length:Int)+1=0):=ln0 _;have hk0:(0:Int)<=(k:Int):=Int.natCast_nonneg k;have hkc2:k<=cl:=Nat.le_trans hkl (tup_cap HC.out.L);have hkc:(k:Int)<=(cl:Int):=Int.ofNat_le.2 hkc2;(refine WalkN.tk [0,1,2,3,4,5,6,7,8,9] ?_;(iterate 10 (refine c! ?_));refine TkN.n ?_)
 clear hc hkq ha2 hkw hlw hlw2 hln0 hk0 hkc hkc2 hkl;obtain⟨T1,hT1⟩:=set_ex (l.take k);obtain⟨T2,hT2⟩:=set_ex l;have HS1:=h! hT1;have HS2:=h! hT2;have HNB:=h! (bookT_any HS1.out (.slice aol k cl) wd HTK.out (by have:=HC.out.len;rw[List.length_take];omega) (fun t ht=>(HC.out.lok t (List.mem_of_mem_take ht)).1));have HL1:=h! (show T1.length<=24 from by have:=hT1.len;have:=HC.out.len;rw[List.length_take]at *;omega);have HL2:=h! (show T2.length<=24 from by have:=hT2.len;have:=HC.out.len;omega);have HSUB:=h! (show ∀ t∈T1,t∈T2 from fun t ht=>(hT2.mem t).2 ⟨List.mem_of_mem_take ((hT1.mem t).1 ht).1,((hT1.mem t).1 ht).2⟩);have HO2:=h! (show ∀ t∈T2,t.Ok from fun t ht=>(HC.out.lok t ((hT2.mem t).1 ht).1).1);have HO1:=h! (show ∀ t∈T1,t.Ok from fun t ht=>HO2.out t (HSUB.out t ht));have HHT1:=h! (HHA.out T1 HL1.out HO1.out);have HHT2:=h! (HHA.out T2 HL2.out HO2.out);have HG:=h! (And.intro (HGF.out T1 HL1.out) (HGF.out T2 HL2.out));clear hT1 hT2 HHA HGF HL1 HL2 HO1 HO2 HTK;refine o! 10 ?_;refine b! ?_;intro K hK;go_simp;refine HNB.out.mono ?_;rintro e w5 ⟨b1,rfl,hbk,hb5⟩;refine hK.out _ _ hb5 ?_;clear hK HNB;have HC:=h! (HC.out.up hb5);have HI1:=h! (show AskIn w5 ts (.slice aot ts.length ct) b1 T1 shut (.slice aos shut.length cs)from⟨HC.out.Y,hbk,HC.out.V⟩);have HA:=h! ((HAO.out.below hb5).sl.mono (T:=(· < w5.heap.size)) fun _ hb=>hb.2);clear HAO hbk hb5;refine t! 11 ?_
 refine d! ?_;obtain⟨w7,hw7⟩:∃ y,y=w5:=⟨_,rfl⟩;rw[<- hw7]at HC HI1 HA ⊢;clear hw7;have HNB:=h! (bookT_any HS2.out (.slice aol l.length cl) w7 HC.out.L (by have:=HC.out.len;omega) (fun t ht=>(HC.out.lok t ht).1));have hcb:=HC.out.B.cells;unfold caseC at hcb;go_wp2_with fail
 clear hcb;refine HNB.out.mono ?_;rintro e w8 ⟨b2,rfl,hbk,hb8⟩;have HC:=h! (HC.out.up hb8);have HI1:=h! (HI1.out.up hb8);have HI2:=h! (show AskIn w8 ts (.slice aot ts.length ct) b2 T2 shut (.slice aos shut.length cs)from⟨HC.out.Y,hbk,HC.out.V⟩);have HA:=h! ((HA.out.same (Same.below hb8)).mono (T:=(· < w8.heap.size)) fun _ hb=>Nat.lt_of_lt_of_le hb (Ext.size hb8));clear hbk hb8 HNB;have HDF:=h! (diffB_any ts _ b1 b2 T1 T2 shut _ aq (.slice vo aq.length vc) 1000 w8 HI1.out HI2.out.K HSA.out.1 HSA.out.2 HA.out (fun a ha=>⟨HHT1.out a.1 (HAK.out a ha).1,HAK.out a ha⟩) (fun a ha=>HHT2.out a.1 (HAK.out a ha).1) (by have:=HAL.out;omega) HG.out.1 HG.out.2);have hcb:=HC.out.B.cells;unfold caseC at hcb;unfold bkV at HDF;go_wp2_with fail
 clear hcb;refine HDF.out.mono ?_;rintro e w9 ⟨v1,v2,rfl,hc1,hg1,hx9⟩;rw[cm_none HSUB.out aq]at hg1;obtain⟨co,cn,cc,rfl,hcn,-,-⟩:=hc1.len;obtain⟨go_,gn,gc,rfl,hgn,-,-⟩:=hg1.len;rw[aq_length]at hcn;obtain rfl:cn=(aq.filter (cmA ts T1 T2 shut)).length:=by omega
 obtain rfl:gn=0:=by simp at hgn;omega
 have V1:=h! hc1;have HC:=h! (HC.out.up hx9);have HI1:=h! (HI1.out.up hx9);have HI2:=h! (HI2.out.up hx9);have HA:=h! ((HA.out.same (Same.below hx9)).mono (T:=(· < w9.heap.size)) fun _ hb=>Nat.lt_of_lt_of_le hb (Ext.size hx9));clear hc1 hg1 hx9 HDF hcn hgn;have HDF:=h! (diffB_any ts _ b2 b1 T2 T1 shut _ aq (.slice vo aq.length vc) 1000 w9 HI2.out HI1.out.K HSA.out.1 HSA.out.2 HA.out (fun a ha=>⟨HHT2.out a.1 (HAK.out a ha).1,HAK.out a ha⟩) (fun a ha=>HHT1.out a.1 (HAK.out a ha).1) (by have:=HAL.out;omega) HG.out.2 HG.out.1);have hcb:=HC.out.B.cells;unfold caseC at hcb;unfold bkV at HDF;go_wp2_with fail
 clear hcb;refine HDF.out.mono ?_;rintro e w10 ⟨v1,v2,rfl,hg1,hc1,hx9⟩;rw[cm_none HSUB.out aq]at hg1;obtain⟨c2o,cn,c2c,rfl,hcn,-,-⟩:=hc1.len;obtain⟨g2o,gn,g2c,rfl,hgn,-,-⟩:=hg1.len;rw[aq_length]at hcn;obtain rfl:cn=(aq.filter (cmA ts T1 T2 shut)).length:=by omega
 obtain rfl:gn=0:=by simp at hgn;omega
 have V2:=h! hc1;have HC:=h! (HC.out.up hx9);have HI1:=h! (HI1.out.up hx9);have HI2:=h! (HI2.out.up hx9);have HA:=h! ((HA.out.same (Same.below hx9)).mono (T:=(· < w10.heap.size)) fun _ hb=>Nat.lt_of_lt_of_le hb (Ext.size hx9));have V1:=h! ((V1.out.same (Same.below hx9)).mono (T:=(· < w10.heap.size)) fun _ hb=>Nat.lt_of_lt_of_le hb (Ext.size hx9));clear hc1 hg1 hx9 HDF hcn hgn;have HMN:=h! (many_any ts _ b1 T1 shut _ aq (.slice vo aq.length vc) 1000 w10 HI1.out HSA.out.1 HSA.out.2 HA.out (fun a ha=>⟨HHT1.out a.1 (HAK.out a ha).1,HAK.out a ha⟩) (by have:=HAL.out;omega));have hcb:=HC.out.B.cells;unfold caseC at hcb;unfold bkV at HMN;go_wp2_with fail
 clear hcb;refine HMN.out.mono ?_;rintro e w11 ⟨⟨v6,hs6⟩,hx6⟩;obtain⟨rfl,ho6⟩:=hs6.ok HG.out.1;have HC:=h! (HC.out.up hx6);have HI1:=h! (HI1.out.up hx6);have HI2:=h! (HI2.out.up hx6);have HA:=h! ((HA.out.same (Same.below hx6)).mono (T:=(· < w11.heap.size)) fun _ hb=>Nat.lt_of_lt_of_le hb (Ext.size hx6));have V1:=h! ((V1.out.same (Same.below hx6)).mono (T:=(· < w11.heap.size)) fun _ hb=>Nat.lt_of_lt_of_le hb (Ext.size hx6));have V2:=h! ((V2.out.same (Same.below hx6)).mono (T:=(· < w11.heap.size)) fun _ hb=>Nat.lt_of_lt_of_le hb (Ext.size hx6));have M1:=h! (ho6.sl.mono (T:=(· < w11.heap.size)) fun _ hb=>hb.2);obtain⟨bo,bn,bc',rfl,hbn,-,-⟩:=ho6.sl.len;rw[boC_length,Nat.mul_one,List.length_map]at hbn;subst hbn;clear hs6 ho6 hx6 HMN;have HMN:=h! (many_any ts _ b2 T2 shut _ aq (.slice vo aq.length vc) 1000 w11 HI2.out HSA.out.1 HSA.out.2 HA.out (fun a ha=>⟨HHT2.out a.1 (HAK.out a ha).1,HAK.out a ha⟩) (by have:=HAL.out;omega));have hcb:=HC.out.B.cells;unfold caseC at hcb;unfold bkV at HMN;go_wp2_with fail
 clear hcb;refine HMN.out.mono ?_;rintro e w12 ⟨⟨v6,hs6⟩,hx6⟩;obtain⟨rfl,ho6⟩:=hs6.ok HG.out.2;have HC:=h! (HC.out.up hx6);have HI1:=h! (HI1.out.up hx6);have HI2:=h! (HI2.out.up hx6);have HA:=h! ((HA.out.same (Same.below hx6)).mono (T:=(· < w12.heap.size)) fun _ hb=>Nat.lt_of_lt_of_le hb (Ext.size hx6));have V1:=h! ((V1.out.same (Same.below hx6)).mono (T:=(· < w12.heap.size)) fun _ hb=>Nat.lt_of_lt_of_le hb (Ext.size hx6));have V2:=h! ((V2.out.same (Same.below hx6)).mono (T:=(· < w12.heap.size)) fun _ hb=>Nat.lt_of_lt_of_le hb (Ext.size hx6));have M1:=h! ((M1.out.same (Same.below hx6)).mono (T:=(· < w12.heap.size)) fun _ hb=>Nat.lt_of_lt_of_le hb (Ext.size hx6));have M2:=h! (ho6.sl.mono (T:=(· < w12.heap.size)) fun _ hb=>hb.2);obtain⟨do_,dn,dc',rfl,hbn,-,-⟩:=ho6.sl.len;rw[boC_length,Nat.mul_one,List.length_map]at hbn;subst hbn;clear hs6 ho6 hx6 HMN;have hnn:(((aq.filter (cmA ts T1 T2 shut)).length:Int) != ((aq.filter (cmA ts T1 T2 shut)).length:Int))=false:=by simp
 have HKL:=h! (show(aq.filter (cmA ts T1 T2 shut)).length<=9 from by have:=HAL.out;have:=List.length_filter_le (cmA ts T1 T2 shut) aq;omega);go_wp2_with fail
 clear hnn;go_loopw [21,141] (fun cv jv wr=>∃ (i:Nat),i<=aq.length/\cv = .int .i64 ((aq.take i).filter (cmA ts T1 T2 shut)).length/\jv = .int .i64 i/\Ext w12 wr) (fun _ jv _=>aq.length-(intOf jv).toNat)
 case atStart=>exact⟨0,Nat.zero_le _,rfl,rfl,Ext.refl _⟩
 case round =>
  obtain⟨i,hi,rfl,rfl,hx⟩:=hrel;have RX:=h! hx;clear hx;by_cases hlt:i<aq.length
  ·have HLT:=h! hlt;have HWI:=h! (show wrap64 ((i:Int)+1)=((i+1:Nat):Int)from by have:=HAL.out;unfold wrap64;omega);have hli:(i:Int)<(aq.length:Int):=by omega
   obtain⟨b1_,o1,rfl,e1⟩:=bool_at M1.out (i:=i) (by rw[List.length_map];exact hlt);rw[List.getElem_map]at e1;obtain⟨b2_,o2,rfl,e2⟩:=bool_at M2.out (i:=i) (by rw[List.length_map];exact hlt);rw[List.getElem_map]at e2;replace e1:=Ext.cell RX.out e1;replace e2:=Ext.cell RX.out e2;have hcm:cmA ts T1 T2 shut aq[i]=(denA ts T2 shut aq[i]&&!denA ts T1 shut aq[i]):=rfl;generalize denA ts T1 shut aq[i]=d1 at *;generalize denA ts T2 shut aq[i]=d2 at *;have hno:cmA ts T1 T2 shut aq[i]=false->((aq.take (i+1)).filter (cmA ts T1 T2 shut)).length=((aq.take i).filter (cmA ts T1 T2 shut)).length:=fun h=>filt_no hlt h;have hyes:cmA ts T1 T2 shut aq[i]=true->_:=fun h=>filt_yes hlt h;rw[hcm]at hno hyes;have HNO:=h! hno;have HYES:=h! hyes;clear hno hyes hcm;cases d2 with
   | false =>
    go_wp2_with fail
    go_roundw
    case rel=>exact⟨i+1,HLT.out,by rw[HNO.out (by rfl)],by first | rw[HWI.out] | go_num,RX.out⟩
    case measure=>have:=HLT.out;(try rw[HWI.out]);simp[intOf];omega
   | true =>
    cases d1 with
    | true =>
     go_wp2_with fail
     go_roundw
     case rel=>exact⟨i+1,HLT.out,by rw[HNO.out (by rfl)],by first | rw[HWI.out] | go_num,RX.out⟩
     case measure=>have:=HLT.out;(try rw[HWI.out]);simp[intOf];omega
    | false =>
     obtain⟨hY1,hY2⟩:=HYES.out (by rfl);obtain⟨hjl,hje⟩:=List.getElem?_eq_some_iff.1 hY1;have HY:=h! hY2;have HWJ:=h! (show wrap64 ((((aq.take i).filter (cmA ts T1 T2 shut)).length:Int)+1)=(((aq.take i).filter (cmA ts T1 T2 shut)).length+1:Nat)from by have:=HKL.out;unfold wrap64;omega)
     obtain⟨pb,poff,rfl,g5⟩:∃ pb poff,vo=some ⟨pb,poff,none⟩/\∀ (j:Nat) u,(aqC aq[i])[j]?=some u->wr.cell? ⟨pb,poff+i*6+j,none⟩=some u:=by
      obtain⟨_,_,e,-,-,hcel⟩:=Sl.rows aqC_length (by decide) HA.out;obtain⟨b,off,rfl,hbl,hcel⟩:=hcel (by omega);cases e;exact⟨b,off,rfl,fun j u hj=>Ext.cell RX.out (hcel i hlt j u hj)⟩
     obtain⟨pb1,poff1,rfl,g6⟩:∃ pb poff,co=some ⟨pb,poff,none⟩/\∀ (j:Nat) u,(aqC aq[i])[j]?=some u->wr.cell? ⟨pb,poff+((aq.take i).filter (cmA ts T1 T2 shut)).length*6+j,none⟩=some u:=by
      obtain⟨_,_,e,-,-,hcel⟩:=Sl.rows aqC_length (by decide) V1.out;obtain⟨b,off,rfl,hbl,hcel⟩:=hcel (by omega);cases e;exact⟨b,off,rfl,fun j u hj=>Ext.cell RX.out (hcel _ hjl j u (by rw[hje];exact hj))⟩
     obtain⟨pb2,poff2,rfl,g7⟩:∃ pb poff,c2o=some ⟨pb,poff,none⟩/\∀ (j:Nat) u,(aqC aq[i])[j]?=some u->wr.cell? ⟨pb,poff+((aq.take i).filter (cmA ts T1 T2 shut)).length*6+j,none⟩=some u:=by
      obtain⟨_,_,e,-,-,hcel⟩:=Sl.rows aqC_length (by decide) V2.out;obtain⟨b,off,rfl,hbl,hcel⟩:=hcel (by omega);cases e;exact⟨b,off,rfl,fun j u hj=>Ext.cell RX.out (hcel _ hjl j u (by rw[hje];exact hj))⟩
     clear hY1 hY2 hje HYES HNO;generalize aq[i]=a at *;obtain⟨p2,s2⟩:=a;have hjl2:(((aq.take i).filter (cmA ts T1 T2 shut)).length:Int)<((aq.filter (cmA ts T1 T2 shut)).length:Int):=by omega
     have hjl3:¬ (((aq.filter (cmA ts T1 T2 shut)).length:Int)<=(((aq.take i).filter (cmA ts T1 T2 shut)).length:Int)):=by omega
     generalize hjj:((aq.take i).filter (cmA ts T1 T2 shut)).length=jj at *;generalize hkk:(aq.filter (cmA ts T1 T2 shut)).length=kk at *;have HJJ:=h! hjj;clear hjj;go_wp2_with fail
     obtain⟨wd,hwd⟩:∃ wd,Hid (wd=World.drew wr):=⟨_,h! rfl⟩;have hxd:=h! (show Ext wr wd from by rw[hwd.out];exact Ext.drew _);refine r! (Ext wd) (by rw[<- hwd.out];exact Ext.refl _) ?_;rw[<- hwd.out];have RX2:=h! (Ext.trans RX.out hxd.out);have q0:=fun W (h:Ext wd W)=>Ext.cell (Ext.trans hxd.out h) (g5 0 _ rfl);have q1:=fun W (h:Ext wd W)=>Ext.cell (Ext.trans hxd.out h) (g5 1 _ rfl);have q2:=fun W (h:Ext wd W)=>Ext.cell (Ext.trans hxd.out h) (g5 2 _ rfl);have q3:=fun W (h:Ext wd W)=>Ext.cell (Ext.trans hxd.out h) (g5 3 _ rfl);have q4:=fun W (h:Ext wd W)=>Ext.cell (Ext.trans hxd.out h) (g5 4 _ rfl);have q5:=fun W (h:Ext wd W)=>Ext.cell (Ext.trans hxd.out h) (g5 5 _ rfl);have r0:=fun W (h:Ext wd W)=>Ext.cell (Ext.trans hxd.out h) (g6 0 _ rfl);have r1:=fun W (h:Ext wd W)=>Ext.cell (Ext.trans hxd.out h) (g6 1 _ rfl);have r2:=fun W (h:Ext wd W)=>Ext.cell (Ext.trans hxd.out h) (g6 2 _ rfl);have r3:=fun W (h:Ext wd W)=>Ext.cell (Ext.trans hxd.out h) (g6 3 _ rfl);have r4:=fun W (h:Ext wd W)=>Ext.cell (Ext.trans hxd.out h) (g6 4 _ rfl);have r5:=fun W (h:Ext wd W)=>Ext.cell (Ext.trans hxd.out h) (g6 5 _ rfl);have s0:=fun W (h:Ext wd W)=>Ext.cell (Ext.trans hxd.out h) (g7 0 _ rfl);have s1:=fun W (h:Ext wd W)=>Ext.cell (Ext.trans hxd.out h) (g7 1 _ rfl);have s2_:=fun W (h:Ext wd W)=>Ext.cell (Ext.trans hxd.out h) (g7 2 _ rfl);have s3:=fun W (h:Ext wd W)=>Ext.cell (Ext.trans hxd.out h) (g7 3 _ rfl);have s4:=fun W (h:Ext wd W)=>Ext.cell (Ext.trans hxd.out h) (g7 4 _ rfl);have s5:=fun W (h:Ext wd W)=>Ext.cell (Ext.trans hxd.out h) (g7 5 _ rfl);clear hwd hxd g5 g6 g7 e1 e2;dsimp only[Nat.add_zero]at q0 q1 q2 q3 q4 q5 r0 r1 r2 r3 r4 r5 s0 s1 s2_ s3 s4 s5;have hjl4:¬ ((kk:Int)<=(jj:Int)):=by clear hjl3;omega
     clear hjl3;have hjl5:((jj:Int)<(kk:Int)):=hjl2;(refine WalkN.tk [0,1,2,3,4,5,6,7,8,9,10,11,12,13,14,15,16,17,18,19,20,21,22,23,24,25] ?_;(iterate 26 (refine c! ?_));refine TkN.n ?_)
     refine d! ?_;clear hjl4 hjl5 q0 q1 q2 q3 q4 q5 r0 r1 r2 r3 r4 r5 s0 s1 s2_ s3 s4 s5;go_wp2_with fail
     go_roundw
     case rel=>exact⟨i+1,HLT.out,by rw[HY.out];first | rw[HWJ.out] | rfl | go_num,by first | rw[HWI.out] | go_num,RX2.out⟩
     case measure=>have:=HLT.out;(try rw[HWI.out]);simp[intOf];omega
  ·obtain rfl:i=aq.length:=by omega
   have HX:=h! (HC.out.up RX.out).X;rw[List.take_length];go_wp2_with fail
   go_ret
   exact⟨rfl,HX.out⟩
end Go.Proofs.YtlhaghoajpglaaaGreat
