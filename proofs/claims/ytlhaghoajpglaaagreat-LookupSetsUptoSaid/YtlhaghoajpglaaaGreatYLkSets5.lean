/- Lemmas for the claim, no condition. -/
import Derived.Test.YtlhaghoajpglaaaGreatYLkSets0
import Derived.Test.YtlhaghoajpglaaaGreatYLkSets4
import Derived.Test.YtlhaghoajpglaaaGreatYLkSets1
import Derived.Test.YtlhaghoajpglaaaGreatYLkSets3
set_option maxRecDepth 100000
set_option maxHeartbeats 8000000
namespace Go.Proofs.YtlhaghoajpglaaaGreat
open Go Go.RowKit
theorem wrule_1 {B wb:Nat} {text:ByteArray} {w:World} (ra rb:ByteArray)(n:Nat)(ao:Option Addr)(c:Nat)(d:Int)(h:WrB w B wb text false)(hBw:B<=w.heap.size)(hpos:0<text.size)(hlim:text.size+(10+ra.size+rb.size)<=1099511627776) :
  Calls Tryz.prog 190 #[.pointer (some ⟨wb,0,none⟩),.agg #[.int .i64 1,.string ra,.string rb,.slice ao n c],.int .i64 d] w (WRes B wb w text (decide (ra.size=0)&&decide (rb.size=0)&&decide (n=0)) (⟨#[116,104,105,115]⟩) (10+ra.size+rb.size)):=by
 have HW0:=h! h;have HB:=h! h.1;have HBW:=h! hBw;have HNE:=h! (show w.heap.size≠wb from by have:=h.lt;omega);clear h hBw;have HPOS:=h! hpos;have HLIM:=h! hlim;clear hpos hlim;by_cases hlp:0<n
 ·have hpI:(0:Int)<(n:Int):=by omega
  have HOK:=h! (show(decide ((ra:ByteArray).size=0)&&decide ((rb:ByteArray).size=0)&&decide (n=0))=false from by
   have hlz:n≠0:=by omega
   simp[hlz])
  rw[HOK.out];clear hlp HOK;have HX:=h! (Blk.made w #[.int .i64 1,.string ra,.string rb,.slice ao n c] 106);have HX1:=h! (HX.out.other (a:=⟨wb,2,none⟩) HNE.out (.bool true));have HX2:=h! (HX1.out.other (a:=⟨wb,2,none⟩) HNE.out (.bool true));have HW1:=h! ((HW0.out.up ((Below.refl _ w).alloc (Nat.le_refl _) (.cells #[.int .i64 1,.string ra,.string rb,.slice ao n c] 106))).flag true);have HW2:=h! (HW1.out.flag true);have HK2:=h! (WKept.next (WKept.next (WKept.of ((Below.refl _ w).alloc (Nat.le_refl _) (.cells #[.int .i64 1,.string ra,.string rb,.slice ao n c] 106)) HBW.out) (WKept.flag (b:=wb) HB.out (.bool true))) (WKept.flag (b:=wb) HB.out (.bool true)));have x0:=HX.out.cells;have x1:=HX1.out.cells;have x2:=HX2.out.cells;obtain⟨e0,f0⟩:=(HW0.out.up ((Below.refl _ w).alloc (Nat.le_refl _) (.cells #[.int .i64 1,.string ra,.string rb,.slice ao n c] 106))).odd2;obtain⟨e1,f1⟩:=HW1.out.odd2;obtain⟨e2,f2⟩:=HW2.out.odd2;go_enter Tryz.func190,Tryz.ntmps190
  go_wp2_with fail
  (try simp only[Exit.inBlock,Exit.then])
  refine bodyPost_ret (results_none rfl _ _ _) rfl ?_;exact WRes.bad HW2.out HK2.out
 ·obtain rfl:n=0:=by omega
  clear hlp;by_cases hnrb:rb.size=0
  ·obtain rfl:=ba_size_eq hnrb;clear hnrb;by_cases hnra:ra.size=0
   ·obtain rfl:=ba_size_eq hnra;clear hnra;rw[show(decide ((⟨#[]⟩:ByteArray).size=0)&&decide ((⟨#[]⟩:ByteArray).size=0)&&decide (0=0))=true from rfl];have HX:=h! (Blk.made w #[.int .i64 1,.string ⟨#[]⟩,.string ⟨#[]⟩,.slice ao 0 c] 106);have HX1:=h! (HX.out.other (a:=⟨wb,2,none⟩) HNE.out (.bool false));have HX2:=h! (HX1.out.other (a:=⟨wb,2,none⟩) HNE.out (.bool false));have HW1:=h! ((HW0.out.up ((Below.refl _ w).alloc (Nat.le_refl _) (.cells #[.int .i64 1,.string ⟨#[]⟩,.string ⟨#[]⟩,.slice ao 0 c] 106))).flag false);have HW2:=h! (HW1.out.flag false);have HK2:=h! (WKept.next (WKept.next (WKept.of ((Below.refl _ w).alloc (Nat.le_refl _) (.cells #[.int .i64 1,.string ⟨#[]⟩,.string ⟨#[]⟩,.slice ao 0 c] 106)) HBW.out) (WKept.flag (b:=wb) HB.out (.bool false))) (WKept.flag (b:=wb) HB.out (.bool false)));have x0:=HX.out.cells;have x1:=HX1.out.cells;have x2:=HX2.out.cells;obtain⟨e0,f0⟩:=(HW0.out.up ((Below.refl _ w).alloc (Nat.le_refl _) (.cells #[.int .i64 1,.string ⟨#[]⟩,.string ⟨#[]⟩,.slice ao 0 c] 106))).odd2;obtain⟨e1,f1⟩:=HW1.out.odd2;obtain⟨e2,f2⟩:=HW2.out.odd2;go_enter Tryz.func190,Tryz.ntmps190
    go_wp2_with fail
    obtain⟨w3,hw3⟩:∃ w3,w3=((w.alloc (.cells #[.int .i64 1,.string ⟨#[]⟩,.string ⟨#[]⟩,.slice ao 0 c] 106)).setCell ⟨wb,2,none⟩ (.bool false)).setCell ⟨wb,2,none⟩ (.bool false):=⟨_,rfl⟩;rw[<- hw3]at HX2 HW2 HK2 ⊢;clear hw3 HX HX1 HW1 x0 x1 x2 e0 e1 e2 f0 f1 f2;have HB3:=h! (Nat.le_trans HBW.out HK2.out.size);have HS:=h! (writeString_any ⟨#[116,104,105,115]⟩ HW2.out (by have:=HLIM.out;show _+4<=_;omega) (by have:=HPOS.out;omega) HB3.out);refine HS.out.mono ?_;rintro e w4 ⟨rfl,hw4,hk4⟩;have HW4:=h! hw4;have HK4:=h! (WKept.next HK2.out hk4);clear HS hw4 hk4;go_wp2_with fail
    go_end0
    exact⟨rfl,_,HW4.out,by rw[ByteArray.size_append];omega,(by rw[ByteArray.size_append];show _+4<=_;omega),fun _=>rfl,HK4.out⟩
   ·have hnera:=ba_size_ne hnra
    have HOK:=h! (show(decide ((ra:ByteArray).size=0)&&decide ((⟨#[]⟩:ByteArray).size=0)&&decide (0=0))=false from by
     simp[hnra])
    rw[HOK.out];clear hnra HOK;have HX:=h! (Blk.made w #[.int .i64 1,.string ra,.string ⟨#[]⟩,.slice ao 0 c] 106);have HX1:=h! (HX.out.other (a:=⟨wb,2,none⟩) HNE.out (.bool false));have HX2:=h! (HX1.out.other (a:=⟨wb,2,none⟩) HNE.out (.bool true));have HW1:=h! ((HW0.out.up ((Below.refl _ w).alloc (Nat.le_refl _) (.cells #[.int .i64 1,.string ra,.string ⟨#[]⟩,.slice ao 0 c] 106))).flag false);have HW2:=h! (HW1.out.flag true);have HK2:=h! (WKept.next (WKept.next (WKept.of ((Below.refl _ w).alloc (Nat.le_refl _) (.cells #[.int .i64 1,.string ra,.string ⟨#[]⟩,.slice ao 0 c] 106)) HBW.out) (WKept.flag (b:=wb) HB.out (.bool false))) (WKept.flag (b:=wb) HB.out (.bool true)));have x0:=HX.out.cells;have x1:=HX1.out.cells;have x2:=HX2.out.cells;obtain⟨e0,f0⟩:=(HW0.out.up ((Below.refl _ w).alloc (Nat.le_refl _) (.cells #[.int .i64 1,.string ra,.string ⟨#[]⟩,.slice ao 0 c] 106))).odd2;obtain⟨e1,f1⟩:=HW1.out.odd2;obtain⟨e2,f2⟩:=HW2.out.odd2;go_enter Tryz.func190,Tryz.ntmps190
    go_wp2_with fail
    (try simp only[Exit.inBlock,Exit.then])
    refine bodyPost_ret (results_none rfl _ _ _) rfl ?_;exact WRes.bad HW2.out HK2.out
  ·have hnerb:=ba_size_ne hnrb
   have HOK:=h! (show(decide ((ra:ByteArray).size=0)&&decide ((rb:ByteArray).size=0)&&decide (0=0))=false from by
    simp[hnrb])
   rw[HOK.out];clear hnrb HOK;have HX:=h! (Blk.made w #[.int .i64 1,.string ra,.string rb,.slice ao 0 c] 106);have HX1:=h! (HX.out.other (a:=⟨wb,2,none⟩) HNE.out (.bool false));have HX2:=h! (HX1.out.other (a:=⟨wb,2,none⟩) HNE.out (.bool true));have HW1:=h! ((HW0.out.up ((Below.refl _ w).alloc (Nat.le_refl _) (.cells #[.int .i64 1,.string ra,.string rb,.slice ao 0 c] 106))).flag false);have HW2:=h! (HW1.out.flag true);have HK2:=h! (WKept.next (WKept.next (WKept.of ((Below.refl _ w).alloc (Nat.le_refl _) (.cells #[.int .i64 1,.string ra,.string rb,.slice ao 0 c] 106)) HBW.out) (WKept.flag (b:=wb) HB.out (.bool false))) (WKept.flag (b:=wb) HB.out (.bool true)));have x0:=HX.out.cells;have x1:=HX1.out.cells;have x2:=HX2.out.cells;obtain⟨e0,f0⟩:=(HW0.out.up ((Below.refl _ w).alloc (Nat.le_refl _) (.cells #[.int .i64 1,.string ra,.string rb,.slice ao 0 c] 106))).odd2;obtain⟨e1,f1⟩:=HW1.out.odd2;obtain⟨e2,f2⟩:=HW2.out.odd2;go_enter Tryz.func190,Tryz.ntmps190
   go_wp2_with fail
   (try simp only[Exit.inBlock,Exit.then])
   refine bodyPost_ret (results_none rfl _ _ _) rfl ?_;exact WRes.bad HW2.out HK2.out
theorem wrule_2 {B wb:Nat} {text:ByteArray} {w:World} (ra rb:ByteArray)(n:Nat)(ao:Option Addr)(c:Nat)(d:Int)(h:WrB w B wb text false)(hBw:B<=w.heap.size)(hpos:0<text.size)(hlim:text.size+(10+ra.size+rb.size)<=1099511627776) :
  Calls Tryz.prog 190 #[.pointer (some ⟨wb,0,none⟩),.agg #[.int .i64 2,.string ra,.string rb,.slice ao n c],.int .i64 d] w (WRes B wb w text (ownB ra&&decide (rb.size=0)&&decide (n=0)) (ra) (10+ra.size+rb.size)):=by
 have HW0:=h! h;have HB:=h! h.1;have HBW:=h! hBw;have HNE:=h! (show w.heap.size≠wb from by have:=h.lt;omega);clear h hBw;have HPOS:=h! hpos;have HLIM:=h! hlim;clear hpos hlim;by_cases hlp:0<n
 ·have hpI:(0:Int)<(n:Int):=by omega
  have HOK:=h! (show(ownB ra&&decide ((rb:ByteArray).size=0)&&decide (n=0))=false from by
   have hlz:n≠0:=by omega
   simp[hlz])
  rw[HOK.out];clear hlp HOK;have HX:=h! (Blk.made w #[.int .i64 2,.string ra,.string rb,.slice ao n c] 106);have HX1:=h! (HX.out.other (a:=⟨wb,2,none⟩) HNE.out (.bool true));have HX2:=h! (HX1.out.other (a:=⟨wb,2,none⟩) HNE.out (.bool true));have HW1:=h! ((HW0.out.up ((Below.refl _ w).alloc (Nat.le_refl _) (.cells #[.int .i64 2,.string ra,.string rb,.slice ao n c] 106))).flag true);have HW2:=h! (HW1.out.flag true);have HK2:=h! (WKept.next (WKept.next (WKept.of ((Below.refl _ w).alloc (Nat.le_refl _) (.cells #[.int .i64 2,.string ra,.string rb,.slice ao n c] 106)) HBW.out) (WKept.flag (b:=wb) HB.out (.bool true))) (WKept.flag (b:=wb) HB.out (.bool true)));have x0:=HX.out.cells;have x1:=HX1.out.cells;have x2:=HX2.out.cells;obtain⟨e0,f0⟩:=(HW0.out.up ((Below.refl _ w).alloc (Nat.le_refl _) (.cells #[.int .i64 2,.string ra,.string rb,.slice ao n c] 106))).odd2;obtain⟨e1,f1⟩:=HW1.out.odd2;obtain⟨e2,f2⟩:=HW2.out.odd2;go_enter Tryz.func190,Tryz.ntmps190
  go_wp2_with fail
  (try simp only[Exit.inBlock,Exit.then])
  refine bodyPost_ret (results_none rfl _ _ _) rfl ?_;exact WRes.bad HW2.out HK2.out
 ·obtain rfl:n=0:=by omega
  clear hlp;by_cases hnrb:rb.size=0
  ·obtain rfl:=ba_size_eq hnrb;clear hnrb;by_cases hnra:ra.size=0
   ·obtain rfl:=ba_size_eq hnra;clear hnra;rw[show(ownB ⟨#[]⟩&&decide ((⟨#[]⟩:ByteArray).size=0)&&decide (0=0))=ownB ⟨#[]⟩from by cases ownB ⟨#[]⟩ <;> rfl];have HX:=h! (Blk.made w #[.int .i64 2,.string ⟨#[]⟩,.string ⟨#[]⟩,.slice ao 0 c] 106);have HX1:=h! (HX.out.other (a:=⟨wb,2,none⟩) HNE.out (.bool false));have HX2:=h! (HX1.out.other (a:=⟨wb,2,none⟩) HNE.out (.bool false));have HW1:=h! ((HW0.out.up ((Below.refl _ w).alloc (Nat.le_refl _) (.cells #[.int .i64 2,.string ⟨#[]⟩,.string ⟨#[]⟩,.slice ao 0 c] 106))).flag false);have HW2:=h! (HW1.out.flag false);have HK2:=h! (WKept.next (WKept.next (WKept.of ((Below.refl _ w).alloc (Nat.le_refl _) (.cells #[.int .i64 2,.string ⟨#[]⟩,.string ⟨#[]⟩,.slice ao 0 c] 106)) HBW.out) (WKept.flag (b:=wb) HB.out (.bool false))) (WKept.flag (b:=wb) HB.out (.bool false)));have x0:=HX.out.cells;have x1:=HX1.out.cells;have x2:=HX2.out.cells;obtain⟨e0,f0⟩:=(HW0.out.up ((Below.refl _ w).alloc (Nat.le_refl _) (.cells #[.int .i64 2,.string ⟨#[]⟩,.string ⟨#[]⟩,.slice ao 0 c] 106))).odd2;obtain⟨e1,f1⟩:=HW1.out.odd2;obtain⟨e2,f2⟩:=HW2.out.odd2;go_enter Tryz.func190,Tryz.ntmps190
    go_wp2_with fail
    obtain⟨w3,hw3⟩:∃ w3,w3=((w.alloc (.cells #[.int .i64 2,.string ⟨#[]⟩,.string ⟨#[]⟩,.slice ao 0 c] 106)).setCell ⟨wb,2,none⟩ (.bool false)).setCell ⟨wb,2,none⟩ (.bool false):=⟨_,rfl⟩;rw[<- hw3]at HX2 HW2 HK2 ⊢;clear hw3 HX HX1 HW1 x0 x1 x2 e0 e1 e2 f0 f1 f2;have HB3:=h! (Nat.le_trans HBW.out HK2.out.size);have HS:=h! (wname_any ⟨#[]⟩ HW2.out (by have:=HLIM.out;omega) HPOS.out (by have:=HLIM.out;unfold maxLen;omega) HB3.out);refine HS.out.mono ?_;rintro e w4 ⟨rfl,hw4,hk4⟩;have HW4:=h! hw4;have HK4:=h! (WKept.next HK2.out hk4);clear HS hw4 hk4;go_wp2_with fail
    go_end0
    exact⟨rfl,_,(by have:=HW4.out;rwa[Bool.false_or]at this),by rw[ByteArray.size_append];omega,(by rw[ByteArray.size_append];omega),fun _=>rfl,HK4.out⟩
   ·have hnera:=ba_size_ne hnra;clear hnra;rw[show(ownB ra&&decide ((⟨#[]⟩:ByteArray).size=0)&&decide (0=0))=ownB ra from by cases ownB ra <;> rfl];have HX:=h! (Blk.made w #[.int .i64 2,.string ra,.string ⟨#[]⟩,.slice ao 0 c] 106);have HX1:=h! (HX.out.other (a:=⟨wb,2,none⟩) HNE.out (.bool false));have HX2:=h! (HX1.out.other (a:=⟨wb,2,none⟩) HNE.out (.bool false));have HW1:=h! ((HW0.out.up ((Below.refl _ w).alloc (Nat.le_refl _) (.cells #[.int .i64 2,.string ra,.string ⟨#[]⟩,.slice ao 0 c] 106))).flag false);have HW2:=h! (HW1.out.flag false);have HK2:=h! (WKept.next (WKept.next (WKept.of ((Below.refl _ w).alloc (Nat.le_refl _) (.cells #[.int .i64 2,.string ra,.string ⟨#[]⟩,.slice ao 0 c] 106)) HBW.out) (WKept.flag (b:=wb) HB.out (.bool false))) (WKept.flag (b:=wb) HB.out (.bool false)));have x0:=HX.out.cells;have x1:=HX1.out.cells;have x2:=HX2.out.cells;obtain⟨e0,f0⟩:=(HW0.out.up ((Below.refl _ w).alloc (Nat.le_refl _) (.cells #[.int .i64 2,.string ra,.string ⟨#[]⟩,.slice ao 0 c] 106))).odd2;obtain⟨e1,f1⟩:=HW1.out.odd2;obtain⟨e2,f2⟩:=HW2.out.odd2;go_enter Tryz.func190,Tryz.ntmps190
    go_wp2_with fail
    obtain⟨w3,hw3⟩:∃ w3,w3=((w.alloc (.cells #[.int .i64 2,.string ra,.string ⟨#[]⟩,.slice ao 0 c] 106)).setCell ⟨wb,2,none⟩ (.bool false)).setCell ⟨wb,2,none⟩ (.bool false):=⟨_,rfl⟩;rw[<- hw3]at HX2 HW2 HK2 ⊢;clear hw3 HX HX1 HW1 x0 x1 x2 e0 e1 e2 f0 f1 f2;have HB3:=h! (Nat.le_trans HBW.out HK2.out.size);have HS:=h! (wname_any ra HW2.out (by have:=HLIM.out;omega) HPOS.out (by have:=HLIM.out;unfold maxLen;omega) HB3.out);refine HS.out.mono ?_;rintro e w4 ⟨rfl,hw4,hk4⟩;have HW4:=h! hw4;have HK4:=h! (WKept.next HK2.out hk4);clear HS hw4 hk4;go_wp2_with fail
    go_end0
    exact⟨rfl,_,(by have:=HW4.out;rwa[Bool.false_or]at this),by rw[ByteArray.size_append];omega,(by rw[ByteArray.size_append];omega),fun _=>rfl,HK4.out⟩
  ·have hnerb:=ba_size_ne hnrb
   have HOK:=h! (show(ownB ra&&decide ((rb:ByteArray).size=0)&&decide (0=0))=false from by
    simp[hnrb])
   rw[HOK.out];clear hnrb HOK;have HX:=h! (Blk.made w #[.int .i64 2,.string ra,.string rb,.slice ao 0 c] 106);have HX1:=h! (HX.out.other (a:=⟨wb,2,none⟩) HNE.out (.bool false));have HX2:=h! (HX1.out.other (a:=⟨wb,2,none⟩) HNE.out (.bool true));have HW1:=h! ((HW0.out.up ((Below.refl _ w).alloc (Nat.le_refl _) (.cells #[.int .i64 2,.string ra,.string rb,.slice ao 0 c] 106))).flag false);have HW2:=h! (HW1.out.flag true);have HK2:=h! (WKept.next (WKept.next (WKept.of ((Below.refl _ w).alloc (Nat.le_refl _) (.cells #[.int .i64 2,.string ra,.string rb,.slice ao 0 c] 106)) HBW.out) (WKept.flag (b:=wb) HB.out (.bool false))) (WKept.flag (b:=wb) HB.out (.bool true)));have x0:=HX.out.cells;have x1:=HX1.out.cells;have x2:=HX2.out.cells;obtain⟨e0,f0⟩:=(HW0.out.up ((Below.refl _ w).alloc (Nat.le_refl _) (.cells #[.int .i64 2,.string ra,.string rb,.slice ao 0 c] 106))).odd2;obtain⟨e1,f1⟩:=HW1.out.odd2;obtain⟨e2,f2⟩:=HW2.out.odd2;go_enter Tryz.func190,Tryz.ntmps190
   go_wp2_with fail
   (try simp only[Exit.inBlock,Exit.then])
   refine bodyPost_ret (results_none rfl _ _ _) rfl ?_;exact WRes.bad HW2.out HK2.out
theorem wrule_3 {B wb:Nat} {text:ByteArray} {w:World} (ra rb:ByteArray)(n:Nat)(ao:Option Addr)(c:Nat)(d:Int)(h:WrB w B wb text false)(hBw:B<=w.heap.size)(hpos:0<text.size)(hlim:text.size+(10+ra.size+rb.size)<=1099511627776) :
  Calls Tryz.prog 190 #[.pointer (some ⟨wb,0,none⟩),.agg #[.int .i64 3,.string ra,.string rb,.slice ao n c],.int .i64 d] w (WRes B wb w text (ownB ra&&ownB rb&&decide (n=0)) ((ra++⟨#[45,62]⟩)++rb) (10+ra.size+rb.size)):=by
 have HW0:=h! h;have HB:=h! h.1;have HBW:=h! hBw;have HNE:=h! (show w.heap.size≠wb from by have:=h.lt;omega);clear h hBw;have HPOS:=h! hpos;have HLIM:=h! hlim;clear hpos hlim;by_cases hlp:0<n
 ·have hpI:(0:Int)<(n:Int):=by omega
  have HOK:=h! (show(ownB ra&&ownB rb&&decide (n=0))=false from by
   have hlz:n≠0:=by omega
   simp[hlz])
  rw[HOK.out];clear hlp HOK;have HX:=h! (Blk.made w #[.int .i64 3,.string ra,.string rb,.slice ao n c] 106);have HX1:=h! (HX.out.other (a:=⟨wb,2,none⟩) HNE.out (.bool true));have HX2:=h! (HX1.out.other (a:=⟨wb,2,none⟩) HNE.out (.bool true));have HW1:=h! ((HW0.out.up ((Below.refl _ w).alloc (Nat.le_refl _) (.cells #[.int .i64 3,.string ra,.string rb,.slice ao n c] 106))).flag true);have HW2:=h! (HW1.out.flag true);have HK2:=h! (WKept.next (WKept.next (WKept.of ((Below.refl _ w).alloc (Nat.le_refl _) (.cells #[.int .i64 3,.string ra,.string rb,.slice ao n c] 106)) HBW.out) (WKept.flag (b:=wb) HB.out (.bool true))) (WKept.flag (b:=wb) HB.out (.bool true)));have x0:=HX.out.cells;have x1:=HX1.out.cells;have x2:=HX2.out.cells;obtain⟨e0,f0⟩:=(HW0.out.up ((Below.refl _ w).alloc (Nat.le_refl _) (.cells #[.int .i64 3,.string ra,.string rb,.slice ao n c] 106))).odd2;obtain⟨e1,f1⟩:=HW1.out.odd2;obtain⟨e2,f2⟩:=HW2.out.odd2;go_enter Tryz.func190,Tryz.ntmps190
  go_wp2_with fail
  (try simp only[Exit.inBlock,Exit.then])
  refine bodyPost_ret (results_none rfl _ _ _) rfl ?_;exact WRes.bad HW2.out HK2.out
 ·obtain rfl:n=0:=by omega
  clear hlp;by_cases hnrb:rb.size=0
  ·obtain rfl:=ba_size_eq hnrb;clear hnrb;by_cases hnra:ra.size=0
   ·obtain rfl:=ba_size_eq hnra;clear hnra;rw[show(ownB ⟨#[]⟩&&ownB ⟨#[]⟩&&decide (0=0))=(ownB ⟨#[]⟩&&ownB ⟨#[]⟩)from by cases ownB ⟨#[]⟩ <;> cases ownB ⟨#[]⟩ <;> rfl];have HX:=h! (Blk.made w #[.int .i64 3,.string ⟨#[]⟩,.string ⟨#[]⟩,.slice ao 0 c] 106);have HX1:=h! (HX.out.other (a:=⟨wb,2,none⟩) HNE.out (.bool false));have HX2:=h! (HX1.out.other (a:=⟨wb,2,none⟩) HNE.out (.bool false));have HW1:=h! ((HW0.out.up ((Below.refl _ w).alloc (Nat.le_refl _) (.cells #[.int .i64 3,.string ⟨#[]⟩,.string ⟨#[]⟩,.slice ao 0 c] 106))).flag false);have HW2:=h! (HW1.out.flag false);have HK2:=h! (WKept.next (WKept.next (WKept.of ((Below.refl _ w).alloc (Nat.le_refl _) (.cells #[.int .i64 3,.string ⟨#[]⟩,.string ⟨#[]⟩,.slice ao 0 c] 106)) HBW.out) (WKept.flag (b:=wb) HB.out (.bool false))) (WKept.flag (b:=wb) HB.out (.bool false)));have x0:=HX.out.cells;have x1:=HX1.out.cells;have x2:=HX2.out.cells;obtain⟨e0,f0⟩:=(HW0.out.up ((Below.refl _ w).alloc (Nat.le_refl _) (.cells #[.int .i64 3,.string ⟨#[]⟩,.string ⟨#[]⟩,.slice ao 0 c] 106))).odd2;obtain⟨e1,f1⟩:=HW1.out.odd2;obtain⟨e2,f2⟩:=HW2.out.odd2;go_enter Tryz.func190,Tryz.ntmps190
    go_wp2_with fail
    obtain⟨w3,hw3⟩:∃ w3,w3=((w.alloc (.cells #[.int .i64 3,.string ⟨#[]⟩,.string ⟨#[]⟩,.slice ao 0 c] 106)).setCell ⟨wb,2,none⟩ (.bool false)).setCell ⟨wb,2,none⟩ (.bool false):=⟨_,rfl⟩;rw[<- hw3]at HX2 HW2 HK2 ⊢;clear hw3 HX HX1 HW1 x0 x1 x2 e0 e1 e2 f0 f1 f2;have HB3:=h! (Nat.le_trans HBW.out HK2.out.size);have HS:=h! (wname_any ⟨#[]⟩ HW2.out (by have:=HLIM.out;omega) HPOS.out (by have:=HLIM.out;unfold maxLen;omega) HB3.out);refine HS.out.mono ?_;rintro e w4 ⟨rfl,hw4,hk4⟩;rw[Bool.false_or]at hw4;have HK4:=h! (WKept.next HK2.out hk4);have HX4:=h! (hk4.box HX2.out (by decide) HNE.out);have HB4:=h! (Nat.le_trans HBW.out HK4.out.size);have HS2:=h! (writeString_any ⟨#[45,62]⟩ hw4 (by have:=HLIM.out;rw[ByteArray.size_append];show _+2<=_;omega) (by have:=HPOS.out;rw[ByteArray.size_append];omega) HB4.out);clear HS hw4 hk4;go_wp2_with fail
    refine HS2.out.mono ?_;rintro e w5 ⟨rfl,hw5,hk5⟩;have HK5:=h! (WKept.next HK4.out hk5);have HX5:=h! (hk5.box HX4.out (by decide) HNE.out);have x5:=HX5.out.cells;have HB5:=h! (Nat.le_trans HBW.out HK5.out.size);have HS3:=h! (wname_any ⟨#[]⟩ hw5 (by have:=HLIM.out;rw[ByteArray.size_append,ByteArray.size_append];show _+2+_<=_;omega) (by have:=HPOS.out;rw[ByteArray.size_append,ByteArray.size_append];omega) (by have:=HLIM.out;unfold maxLen;omega) HB5.out);clear HS2 hw5 hk5;go_wp2_with fail
    refine HS3.out.mono ?_;rintro e w6 ⟨rfl,hw6,hk6⟩;have HW6:=h! hw6;have HK6:=h! (WKept.next HK5.out hk6);clear HS3 hw6 hk6 x5;go_wp2_with fail
    go_end0
    exact⟨rfl,_,(by have:=HW6.out;rwa[<- Bool.not_and]at this),by simp only[ByteArray.size_append];omega,(by simp only[ByteArray.size_append];show _+_+2+_<=_;omega),fun _=>by simp only[ByteArray.append_assoc],HK6.out⟩
   ·have hnera:=ba_size_ne hnra;clear hnra;rw[show(ownB ra&&ownB ⟨#[]⟩&&decide (0=0))=(ownB ra&&ownB ⟨#[]⟩)from by cases ownB ra <;> cases ownB ⟨#[]⟩ <;> rfl];have HX:=h! (Blk.made w #[.int .i64 3,.string ra,.string ⟨#[]⟩,.slice ao 0 c] 106);have HX1:=h! (HX.out.other (a:=⟨wb,2,none⟩) HNE.out (.bool false));have HX2:=h! (HX1.out.other (a:=⟨wb,2,none⟩) HNE.out (.bool false));have HW1:=h! ((HW0.out.up ((Below.refl _ w).alloc (Nat.le_refl _) (.cells #[.int .i64 3,.string ra,.string ⟨#[]⟩,.slice ao 0 c] 106))).flag false);have HW2:=h! (HW1.out.flag false);have HK2:=h! (WKept.next (WKept.next (WKept.of ((Below.refl _ w).alloc (Nat.le_refl _) (.cells #[.int .i64 3,.string ra,.string ⟨#[]⟩,.slice ao 0 c] 106)) HBW.out) (WKept.flag (b:=wb) HB.out (.bool false))) (WKept.flag (b:=wb) HB.out (.bool false)));have x0:=HX.out.cells;have x1:=HX1.out.cells;have x2:=HX2.out.cells;obtain⟨e0,f0⟩:=(HW0.out.up ((Below.refl _ w).alloc (Nat.le_refl _) (.cells #[.int .i64 3,.string ra,.string ⟨#[]⟩,.slice ao 0 c] 106))).odd2;obtain⟨e1,f1⟩:=HW1.out.odd2;obtain⟨e2,f2⟩:=HW2.out.odd2;go_enter Tryz.func190,Tryz.ntmps190
    go_wp2_with fail
    obtain⟨w3,hw3⟩:∃ w3,w3=((w.alloc (.cells #[.int .i64 3,.string ra,.string ⟨#[]⟩,.slice ao 0 c] 106)).setCell ⟨wb,2,none⟩ (.bool false)).setCell ⟨wb,2,none⟩ (.bool false):=⟨_,rfl⟩;rw[<- hw3]at HX2 HW2 HK2 ⊢;clear hw3 HX HX1 HW1 x0 x1 x2 e0 e1 e2 f0 f1 f2;have HB3:=h! (Nat.le_trans HBW.out HK2.out.size);have HS:=h! (wname_any ra HW2.out (by have:=HLIM.out;omega) HPOS.out (by have:=HLIM.out;unfold maxLen;omega) HB3.out);refine HS.out.mono ?_;rintro e w4 ⟨rfl,hw4,hk4⟩;rw[Bool.false_or]at hw4;have HK4:=h! (WKept.next HK2.out hk4);have HX4:=h! (hk4.box HX2.out (by decide) HNE.out);have HB4:=h! (Nat.le_trans HBW.out HK4.out.size);have HS2:=h! (writeString_any ⟨#[45,62]⟩ hw4 (by have:=HLIM.out;rw[ByteArray.size_append];show _+2<=_;omega) (by have:=HPOS.out;rw[ByteArray.size_append];omega) HB4.out);clear HS hw4 hk4;go_wp2_with fail
    refine HS2.out.mono ?_;rintro e w5 ⟨rfl,hw5,hk5⟩;have HK5:=h! (WKept.next HK4.out hk5);have HX5:=h! (hk5.box HX4.out (by decide) HNE.out);have x5:=HX5.out.cells;have HB5:=h! (Nat.le_trans HBW.out HK5.out.size);have HS3:=h! (wname_any ⟨#[]⟩ hw5 (by have:=HLIM.out;rw[ByteArray.size_append,ByteArray.size_append];show _+2+_<=_;omega) (by have:=HPOS.out;rw[ByteArray.size_append,ByteArray.size_append];omega) (by have:=HLIM.out;unfold maxLen;omega) HB5.out);clear HS2 hw5 hk5;go_wp2_with fail
    refine HS3.out.mono ?_;rintro e w6 ⟨rfl,hw6,hk6⟩;have HW6:=h! hw6;have HK6:=h! (WKept.next HK5.out hk6);clear HS3 hw6 hk6 x5;go_wp2_with fail
    go_end0
    exact⟨rfl,_,(by have:=HW6.out;rwa[<- Bool.not_and]at this),by simp only[ByteArray.size_append];omega,(by simp only[ByteArray.size_append];show _+_+2+_<=_;omega),fun _=>by simp only[ByteArray.append_assoc],HK6.out⟩
  ·have hnerb:=ba_size_ne hnrb;clear hnrb;by_cases hnra:ra.size=0
   ·obtain rfl:=ba_size_eq hnra;clear hnra;rw[show(ownB ⟨#[]⟩&&ownB rb&&decide (0=0))=(ownB ⟨#[]⟩&&ownB rb)from by cases ownB ⟨#[]⟩ <;> cases ownB rb <;> rfl];have HX:=h! (Blk.made w #[.int .i64 3,.string ⟨#[]⟩,.string rb,.slice ao 0 c] 106);have HX1:=h! (HX.out.other (a:=⟨wb,2,none⟩) HNE.out (.bool false));have HX2:=h! (HX1.out.other (a:=⟨wb,2,none⟩) HNE.out (.bool false));have HW1:=h! ((HW0.out.up ((Below.refl _ w).alloc (Nat.le_refl _) (.cells #[.int .i64 3,.string ⟨#[]⟩,.string rb,.slice ao 0 c] 106))).flag false);have HW2:=h! (HW1.out.flag false);have HK2:=h! (WKept.next (WKept.next (WKept.of ((Below.refl _ w).alloc (Nat.le_refl _) (.cells #[.int .i64 3,.string ⟨#[]⟩,.string rb,.slice ao 0 c] 106)) HBW.out) (WKept.flag (b:=wb) HB.out (.bool false))) (WKept.flag (b:=wb) HB.out (.bool false)));have x0:=HX.out.cells;have x1:=HX1.out.cells;have x2:=HX2.out.cells;obtain⟨e0,f0⟩:=(HW0.out.up ((Below.refl _ w).alloc (Nat.le_refl _) (.cells #[.int .i64 3,.string ⟨#[]⟩,.string rb,.slice ao 0 c] 106))).odd2;obtain⟨e1,f1⟩:=HW1.out.odd2;obtain⟨e2,f2⟩:=HW2.out.odd2;go_enter Tryz.func190,Tryz.ntmps190
    go_wp2_with fail
    obtain⟨w3,hw3⟩:∃ w3,w3=((w.alloc (.cells #[.int .i64 3,.string ⟨#[]⟩,.string rb,.slice ao 0 c] 106)).setCell ⟨wb,2,none⟩ (.bool false)).setCell ⟨wb,2,none⟩ (.bool false):=⟨_,rfl⟩;rw[<- hw3]at HX2 HW2 HK2 ⊢;clear hw3 HX HX1 HW1 x0 x1 x2 e0 e1 e2 f0 f1 f2;have HB3:=h! (Nat.le_trans HBW.out HK2.out.size);have HS:=h! (wname_any ⟨#[]⟩ HW2.out (by have:=HLIM.out;omega) HPOS.out (by have:=HLIM.out;unfold maxLen;omega) HB3.out);refine HS.out.mono ?_;rintro e w4 ⟨rfl,hw4,hk4⟩;rw[Bool.false_or]at hw4;have HK4:=h! (WKept.next HK2.out hk4);have HX4:=h! (hk4.box HX2.out (by decide) HNE.out);have HB4:=h! (Nat.le_trans HBW.out HK4.out.size);have HS2:=h! (writeString_any ⟨#[45,62]⟩ hw4 (by have:=HLIM.out;rw[ByteArray.size_append];show _+2<=_;omega) (by have:=HPOS.out;rw[ByteArray.size_append];omega) HB4.out);clear HS hw4 hk4;go_wp2_with fail
    refine HS2.out.mono ?_;rintro e w5 ⟨rfl,hw5,hk5⟩;have HK5:=h! (WKept.next HK4.out hk5);have HX5:=h! (hk5.box HX4.out (by decide) HNE.out);have x5:=HX5.out.cells;have HB5:=h! (Nat.le_trans HBW.out HK5.out.size);have HS3:=h! (wname_any rb hw5 (by have:=HLIM.out;rw[ByteArray.size_append,ByteArray.size_append];show _+2+_<=_;omega) (by have:=HPOS.out;rw[ByteArray.size_append,ByteArray.size_append];omega) (by have:=HLIM.out;unfold maxLen;omega) HB5.out);clear HS2 hw5 hk5;go_wp2_with fail
    refine HS3.out.mono ?_;rintro e w6 ⟨rfl,hw6,hk6⟩;have HW6:=h! hw6;have HK6:=h! (WKept.next HK5.out hk6);clear HS3 hw6 hk6 x5;go_wp2_with fail
    go_end0
    exact⟨rfl,_,(by have:=HW6.out;rwa[<- Bool.not_and]at this),by simp only[ByteArray.size_append];omega,(by simp only[ByteArray.size_append];show _+_+2+_<=_;omega),fun _=>by simp only[ByteArray.append_assoc],HK6.out⟩
   ·have hnera:=ba_size_ne hnra;clear hnra;rw[show(ownB ra&&ownB rb&&decide (0=0))=(ownB ra&&ownB rb)from by cases ownB ra <;> cases ownB rb <;> rfl];have HX:=h! (Blk.made w #[.int .i64 3,.string ra,.string rb,.slice ao 0 c] 106);have HX1:=h! (HX.out.other (a:=⟨wb,2,none⟩) HNE.out (.bool false));have HX2:=h! (HX1.out.other (a:=⟨wb,2,none⟩) HNE.out (.bool false));have HW1:=h! ((HW0.out.up ((Below.refl _ w).alloc (Nat.le_refl _) (.cells #[.int .i64 3,.string ra,.string rb,.slice ao 0 c] 106))).flag false);have HW2:=h! (HW1.out.flag false);have HK2:=h! (WKept.next (WKept.next (WKept.of ((Below.refl _ w).alloc (Nat.le_refl _) (.cells #[.int .i64 3,.string ra,.string rb,.slice ao 0 c] 106)) HBW.out) (WKept.flag (b:=wb) HB.out (.bool false))) (WKept.flag (b:=wb) HB.out (.bool false)));have x0:=HX.out.cells;have x1:=HX1.out.cells;have x2:=HX2.out.cells;obtain⟨e0,f0⟩:=(HW0.out.up ((Below.refl _ w).alloc (Nat.le_refl _) (.cells #[.int .i64 3,.string ra,.string rb,.slice ao 0 c] 106))).odd2;obtain⟨e1,f1⟩:=HW1.out.odd2;obtain⟨e2,f2⟩:=HW2.out.odd2;go_enter Tryz.func190,Tryz.ntmps190
    go_wp2_with fail
    obtain⟨w3,hw3⟩:∃ w3,w3=((w.alloc (.cells #[.int .i64 3,.string ra,.string rb,.slice ao 0 c] 106)).setCell ⟨wb,2,none⟩ (.bool false)).setCell ⟨wb,2,none⟩ (.bool false):=⟨_,rfl⟩;rw[<- hw3]at HX2 HW2 HK2 ⊢;clear hw3 HX HX1 HW1 x0 x1 x2 e0 e1 e2 f0 f1 f2;have HB3:=h! (Nat.le_trans HBW.out HK2.out.size);have HS:=h! (wname_any ra HW2.out (by have:=HLIM.out;omega) HPOS.out (by have:=HLIM.out;unfold maxLen;omega) HB3.out);refine HS.out.mono ?_;rintro e w4 ⟨rfl,hw4,hk4⟩;rw[Bool.false_or]at hw4;have HK4:=h! (WKept.next HK2.out hk4);have HX4:=h! (hk4.box HX2.out (by decide) HNE.out);have HB4:=h! (Nat.le_trans HBW.out HK4.out.size);have HS2:=h! (writeString_any ⟨#[45,62]⟩ hw4 (by have:=HLIM.out;rw[ByteArray.size_append];show _+2<=_;omega) (by have:=HPOS.out;rw[ByteArray.size_append];omega) HB4.out);clear HS hw4 hk4;go_wp2_with fail
    refine HS2.out.mono ?_;rintro e w5 ⟨rfl,hw5,hk5⟩;have HK5:=h! (WKept.next HK4.out hk5);have HX5:=h! (hk5.box HX4.out (by decide) HNE.out);have x5:=HX5.out.cells;have HB5:=h! (Nat.le_trans HBW.out HK5.out.size);have HS3:=h! (wname_any rb hw5 (by have:=HLIM.out;rw[ByteArray.size_append,ByteArray.size_append];show _+2+_<=_;omega) (by have:=HPOS.out;rw[ByteArray.size_append,ByteArray.size_append];omega) (by have:=HLIM.out;unfold maxLen;omega) HB5.out);clear HS2 hw5 hk5;go_wp2_with fail
    refine HS3.out.mono ?_;rintro e w6 ⟨rfl,hw6,hk6⟩;have HW6:=h! hw6;have HK6:=h! (WKept.next HK5.out hk6);clear HS3 hw6 hk6 x5;go_wp2_with fail
    go_end0
    exact⟨rfl,_,(by have:=HW6.out;rwa[<- Bool.not_and]at this),by simp only[ByteArray.size_append];omega,(by simp only[ByteArray.size_append];show _+_+2+_<=_;omega),fun _=>by simp only[ByteArray.append_assoc],HK6.out⟩
theorem wrule_any {B wb:Nat} (r:RT):∀ (pv:Value)(d:Nat)(w:World)(text:ByteArray),RTAt (· < B) w r pv->text.size+r.wt<=1099511627776->0<text.size->d<=8->WrB w B wb text false->B<=w.heap.size ->
  Calls Tryz.prog 190 #[.pointer (some ⟨wb,0,none⟩),rV r pv,.int .i64 d] w (WRes B wb w text (r.textOk d) r.text r.wt):=by
 induction r using RT.ind with
 | h r ih =>
 intro pv d w text hat hlim hpos hd hw hbw;have hat0:=hat.rows;obtain⟨k,a,b,ps⟩:=r;dsimp only[RT.ps]at ih hat0;rw[RT.wt]at hlim;obtain⟨ao,c,hpv,-⟩:=hat0;by_cases k1:k=1
 ·subst k1 hpv;refine(wrule_1 a b ps.length ao c d hw hbw hpos (by omega)).mono ?_;rintro e w5 ⟨rfl,t,hwt,hs1,hs2,hadd,hk⟩;exact⟨rfl,t,by rw[RT.textOk];exact hwt,hs1,by rw[RT.wt];omega,fun h=>by rw[RT.textOk]at h;rw[RT.text];exact hadd h,hk⟩
 by_cases k2:k=2
 ·subst k2 hpv;refine(wrule_2 a b ps.length ao c d hw hbw hpos (by omega)).mono ?_;rintro e w5 ⟨rfl,t,hwt,hs1,hs2,hadd,hk⟩;exact⟨rfl,t,by rw[RT.textOk];exact hwt,hs1,by rw[RT.wt];omega,fun h=>by rw[RT.textOk]at h;rw[RT.text];exact hadd h,hk⟩
 by_cases k3:k=3
 ·subst k3 hpv;refine(wrule_3 a b ps.length ao c d hw hbw hpos (by omega)).mono ?_;rintro e w5 ⟨rfl,t,hwt,hs1,hs2,hadd,hk⟩;exact⟨rfl,t,by rw[RT.textOk];exact hwt,hs1,by rw[RT.wt];omega,fun h=>by rw[RT.textOk]at h;rw[RT.text];exact hadd h,hk⟩
 by_cases k4:k=4
 ·subst k4;by_cases hg:a.size=0/\b.size=0/\2<=ps.length
  ·obtain⟨hna,hnb,hl2⟩:=hg;obtain rfl:=ba_size_eq hna;obtain rfl:=ba_size_eq hnb
   have he:(RT.mk 4 ⟨#[]⟩ ⟨#[]⟩ ps).textOk d=ps.all (goodP 4 d):=by
    rw[RT.textOk,textL_eq,decide_eq_true hl2];rfl
   refine(wrule_g4 ps d hd pv hw hbw hat hpos (by omega) hl2 (fun p hp pv d w text h1 h2 h3 h4 h5 h6=>ih p hp pv d w text h1 h2 h3 h4 h5 h6)).mono ?_;rintro e w5 ⟨rfl,t,hwt,hs1,hs2,hadd,hk⟩;exact⟨rfl,t,by rw[he];exact hwt,hs1,by rw[RT.wt];omega,fun h=>by rw[he]at h;rw[RT.text];exact hadd h,hk⟩
  ·have he:(RT.mk 4 a b ps).textOk d=false:=by
    rw[RT.textOk];by_cases h1:a.size=0
    ·by_cases h2:b.size=0
     ·have h3:¬ 2<=ps.length:=fun h3=>hg ⟨h1,h2,h3⟩;simp[h1,h2,h3]
     ·simp[h2]
    ·simp[h1]
   rw[he];subst hpv;exact wrule_gbad4 a b ps.length ao c d hw hbw hg
 by_cases k5:k=5
 ·subst k5;by_cases hg:a.size=0/\b.size=0/\2<=ps.length
  ·obtain⟨hna,hnb,hl2⟩:=hg;obtain rfl:=ba_size_eq hna;obtain rfl:=ba_size_eq hnb
   have he:(RT.mk 5 ⟨#[]⟩ ⟨#[]⟩ ps).textOk d=ps.all (goodP 5 d):=by
    rw[RT.textOk,textL_eq,decide_eq_true hl2];rfl
   refine(wrule_g5 ps d hd pv hw hbw hat hpos (by omega) hl2 (fun p hp pv d w text h1 h2 h3 h4 h5 h6=>ih p hp pv d w text h1 h2 h3 h4 h5 h6)).mono ?_;rintro e w5 ⟨rfl,t,hwt,hs1,hs2,hadd,hk⟩;exact⟨rfl,t,by rw[he];exact hwt,hs1,by rw[RT.wt];omega,fun h=>by rw[he]at h;rw[RT.text];exact hadd h,hk⟩
  ·have he:(RT.mk 5 a b ps).textOk d=false:=by
    rw[RT.textOk];by_cases h1:a.size=0
    ·by_cases h2:b.size=0
     ·have h3:¬ 2<=ps.length:=fun h3=>hg ⟨h1,h2,h3⟩;simp[h1,h2,h3]
     ·simp[h2]
    ·simp[h1]
   rw[he];subst hpv;exact wrule_gbad5 a b ps.length ao c d hw hbw hg
 have he:(RT.mk k a b ps).textOk d=false:=by rw[RT.textOk,if_neg k1,if_neg k2,if_neg k3,if_neg (by omega)]
 rw[he];subst hpv;refine(wrule_k k a b ps.length ao c d hw hbw (by rw[beq_eq_false_iff_ne];exact k1) (by rw[beq_eq_false_iff_ne];exact k2) (by rw[beq_eq_false_iff_ne];exact k3) (by rw[beq_eq_false_iff_ne];exact k4) (by rw[beq_eq_false_iff_ne];exact k5)).mono ?_;rintro e w5 ⟨rfl,t,hwt,hs1,hs2,hadd,hk⟩;exact⟨rfl,t,hwt,hs1,by rw[RT.wt];omega,(fun h=>by cases h),hk⟩
theorem wrule_both {B wb:Nat} (r:RT)(pv:Value)(d:Nat)(w:World)(text:ByteArray)(o:Bool)(hat:RTAt (· < B) w r pv)(hlim:text.size+r.wt<=1099511627776)(hpos:0<text.size)(hd:d<=8)(hw:WrB w B wb text o)(hbw:B<=w.heap.size) :
  Calls Tryz.prog 190 #[.pointer (some ⟨wb,0,none⟩),rV r pv,.int .i64 d] w fun e w'=>e = .returned (.tuple #[])/\∃ text',WrB w' B wb text' (o||!r.textOk d)/\text.size<=text'.size/\text'.size<=text.size+r.wt/\(o=false->r.textOk d=true->text'=text++r.text)/\WKept B wb w w':=by
 cases o with
 | true =>
  obtain⟨ao,c,rfl,-⟩:=hat.rows;refine(wrule_odd r.k r.a r.b r.ps.length ao c d hw hbw).mono ?_;rintro e w5 ⟨rfl,h1,h2⟩;exact⟨rfl,text,h1,Nat.le_refl _,Nat.le_add_right _ _,(fun h=>by cases h),h2⟩
 | false =>
  refine(wrule_any r pv d w text hat hlim hpos hd hw hbw).mono ?_;rintro e w5 ⟨rfl,t,h1,h2,h3,h4,h5⟩;exact⟨rfl,t,by rw[Bool.false_or];exact h1,h2,h3,fun _=>h4,h5⟩
def relT (x:ByteArray × RT):ByteArray:=x.1++⟨#[32,61,32]⟩++x.2.text++⟨#[10]⟩
def relsT:List (ByteArray × RT)->ByteArray | []=>ByteArray.empty | x::l=>relT x++relsT l
def tyT (t:TyS):ByteArray:=⟨#[116,121,112,101,32]⟩++t.name++⟨#[10]⟩++relsT t.rels
def schT:List TyS->ByteArray | []=>ByteArray.empty | t::ts=>tyT t++schT ts
theorem relsT_append (a b:List (ByteArray × RT)):relsT (a++b)=relsT a++relsT b:=by
 induction a with
 | nil=>rw[List.nil_append,relsT,ByteArray.empty_append]
 | cons x a ih=>rw[List.cons_append,relsT,relsT,ih,ByteArray.append_assoc]
theorem schT_append (a b:List TyS):schT (a++b)=schT a++schT b:=by
 induction a with
 | nil=>rw[List.nil_append,schT,ByteArray.empty_append]
 | cons x a ih=>rw[List.cons_append,schT,schT,ih,ByteArray.append_assoc]
def relB:List (ByteArray × RT)->Nat | []=>0 | x::l=>(10+x.1.size+x.2.wt)+relB l
def schB:List TyS->Nat | []=>0 | t::ts=>(10+t.name.size+relB t.rels)+schB ts
theorem relB_append (a b:List (ByteArray × RT)):relB (a++b)=relB a+relB b:=by
 induction a with
 | nil=>simp[relB]
 | cons x a ih=>rw[List.cons_append,relB,relB,ih];omega
theorem schB_append (a b:List TyS):schB (a++b)=schB a+schB b:=by
 induction a with
 | nil=>simp[schB]
 | cons x a ih=>rw[List.cons_append,schB,schB,ih];omega
theorem relB_take {l:List (ByteArray × RT)} {i:Nat} (hi:i<l.length):relB (l.take (i+1))=relB (l.take i)+(10+l[i].1.size+l[i].2.wt):=by
 rw[List.take_succ_eq_append_getElem hi,relB_append];simp[relB]
theorem schB_take {l:List TyS} {i:Nat} (hi:i<l.length):schB (l.take (i+1))=schB (l.take i)+(10+l[i].name.size+relB l[i].rels):=by
 rw[List.take_succ_eq_append_getElem hi,schB_append];simp[schB]
theorem relB_le (l:List (ByteArray × RT))(i:Nat):relB (l.take i)<=relB l:=by
 conv=>rhs;rw[<- List.take_append_drop i l]
 rw[relB_append];omega
theorem schB_le (l:List TyS)(i:Nat):schB (l.take i)<=schB l:=by
 conv=>rhs;rw[<- List.take_append_drop i l]
 rw[schB_append];omega
theorem wprint_any (ts:List TyS)(tv:Value)(w:World)(h:TysAt (· < w.heap.size) w ts tv)(hsz:schB ts<=549755813888):Calls Tryz.prog 129 #[.agg #[tv]] w fun e w'=>e = .returned (.tuple #[.string (if printOk ts then schT ts else⟨#[]⟩),.int .i64 (prN (printOk ts))])/\Below w.heap.size w w':=by
 obtain⟨ao,c,rfl,hlc,hcm,hcell⟩:=h.rows;have HC:=h! hcell;have HSZ:=h! hsz;generalize hg:printOk ts=g;have HG:=h! (show g=ts.all tyOk from hg.symm);have hS0:=Blk.made w #[.slice ao ts.length c] 26;have hb0:Below w.heap.size w (w.alloc (.cells #[.slice ao ts.length c] 26)):=(Below.refl _ _).alloc (Nat.le_refl _) _;have hW0:=Blk.made (w.alloc (.cells #[.slice ao ts.length c] 26)) #[.pointer none,.slice none 0 0,.bool false] 298;have hbw0:Below w.heap.size w ((w.alloc (.cells #[.slice ao ts.length c] 26)).alloc (.cells #[.pointer none,.slice none 0 0,.bool false] 298)):=hb0.alloc (by simp) _;have HBX:=h! hbw0;have hs1:=(hS0.alloc (.cells #[.pointer none,.slice none 0 0,.bool false] 298)).cells;rw[World.size_alloc]at hW0;have hs0:=hS0.cells;have HW0:=h! hW0;clear h hcell hsz hg hS0 hb0 hbw0 hW0;go_enter Tryz.func129,Tryz.ntmps129
 go_wp2_with fail
 obtain⟨w2,hw2⟩:∃ w2,w2=(w.alloc (.cells #[.slice ao ts.length c] 26)).alloc (.cells #[.pointer none,.slice none 0 0,.bool false] 298):=⟨_,rfl⟩;rw[<- hw2]at HBX HW0 ⊢;obtain⟨wb,hwb⟩:∃ wb,wb=w.heap.size+1:=⟨_,rfl⟩;rw[<- hwb]at HW0 ⊢;have HWB:=h! (show WrB w2 w.heap.size wb ⟨#[]⟩ false from⟨by omega,_,_,.inl rfl,HW0.out,Own.nil _ _ _ _,fun _=>rfl⟩);have HBW:=h! HBX.out.size;have HNB:=h! (show wb<w2.heap.size from HW0.out.lt);clear hs0 hs1 hw2 hwb;go_loopw [14] (fun ii wr=>∃ (i:Nat) (t:ByteArray) (o:Bool),i<=ts.length/\ii = .int .i64 i/\o=!((ts.take i).all tyOk)/\WrB wr w.heap.size wb t o/\t.size<=schB (ts.take i)/\(o=false->t=schT (ts.take i))/\WKept w.heap.size wb w2 wr) (fun ii _=>ts.length-(intOf ii).toNat)
 case atStart=>exact⟨0,⟨#[]⟩,false,by omega,rfl,rfl,HWB.out,Nat.zero_le _,fun _=>rfl,Kept.refl _ _⟩
 case round =>
  obtain⟨i,t,o,hi,rfl,ho,hw,hts,hj,hk⟩:=hrel;have HO:=h! ho;have HW:=h! hw;have HJ:=h! hj;have HTS:=h! hts;clear HWB ho hw hj hts;by_cases hlt:i<ts.length
  ·have hbel:Below w.heap.size w wr:=HBX.out.trans hk.below;have hst:=schB_take hlt;have hle:=schB_le ts (i+1);have hsl:=HSZ.out;have HST:=h! hst;rw[hst]at hle;have HLE:=h! hle;have HI1:=h! hlt;obtain⟨bb,off,pv2,hbo,hb,c0,c1,hat2⟩:=HC.out i hlt;cases hbo;have d0:=(hbel.cell (p:=⟨bb,off+i*2,none⟩) hb).trans c0;have d1:=(hbel.cell (p:=⟨bb,off+i*2+1,none⟩) hb).trans c1;generalize hti:ts[i]=ty at *;have HTI:=h! hti;obtain⟨tn,rels⟩:=ty;dsimp only at *;obtain⟨ao2,c2',rfl,hlc3,hcm3,hcell3⟩:=hat2.rows;have HC3:=h! hcell3;have HT0:=h! (Blk.made wr #[.string tn,.slice ao2 rels.length c2'] 176);have HNT:=h! (show wr.heap.size≠wb from by have:=HW.out.lt;omega);have HKA:=h! (WKept.next hk (WKept.of (b:=wb) ((Below.refl _ wr).alloc (Nat.le_refl _) (.cells #[.string tn,.slice ao2 rels.length c2'] 176)) (Nat.le_trans HBW.out hk.size)));have HWA:=h! (HW.out.up ((Below.refl _ wr).alloc (Nat.le_refl _) (.cells #[.string tn,.slice ao2 rels.length c2'] 176)));have hta:=HT0.out.cells;have HLIM1:=h! (show t.size+(10+tn.size+relB rels)<=549755813888 from by have:=HTS.out;omega);have HN1:=h! (writeString_any ⟨#[116,121,112,101,32]⟩ HWA.out (by have:=HLIM1.out;show _+5<=_;omega) (by show 0<_+5;omega) (Nat.le_trans HBW.out HKA.out.size));clear c0 c1 hat2 hcell3 hbel hst hle hsl hti hk;go_wp2_with fail
   refine HN1.out.mono ?_;rintro e wa ⟨rfl,hwa,hka⟩;have HKa:=h! (WKept.next HKA.out hka);have HTa:=h! (hka.box HT0.out (by decide) HNT.out);have hta2:=HTa.out.cells;have HN2:=h! (wname_any tn hwa (by have:=HLIM1.out;rw[ByteArray.size_append];show _+5+_<=_;omega) (by rw[ByteArray.size_append];show 0<_+5;omega) (by have:=HLIM1.out;unfold maxLen;omega) (Nat.le_trans HBW.out HKa.out.size));clear HN1 hwa hka hta d0 d1 HKA HWA HT0;go_wp2_with fail
   refine HN2.out.mono ?_;rintro e wb2 ⟨rfl,hwa,hka⟩;have HKb:=h! (WKept.next HKa.out hka);have HTb:=h! (hka.box HTa.out (by decide) HNT.out);have HN3:=h! (writeString_any ⟨#[10]⟩ hwa (by have:=HLIM1.out;simp only[ByteArray.size_append];show _+5+_+1<=_;omega) (by rw[ByteArray.size_append];show 0<_+1;omega) (Nat.le_trans HBW.out HKb.out.size));clear HN2 hwa hka hta2 HKa HTa;go_wp2_with fail
   refine HN3.out.mono ?_;rintro e wc ⟨rfl,hwa,hka⟩;have HKc:=h! (WKept.next HKb.out hka);have HTc:=h! (hka.box HTb.out (by decide) HNT.out);have htc:=HTc.out.cells;obtain⟨t1,ht1⟩:∃ t1,t1=t++⟨#[116,121,112,101,32]⟩++tn++⟨#[10]⟩:=⟨_,rfl⟩;obtain⟨g1,hg1⟩:∃ g1,(o||!ownB tn)=!g1:=⟨!(o||!ownB tn),by simp⟩;rw[<- ht1,hg1]at hwa
   have hs1:t1.size=t.size+6+tn.size:=by
    rw[ht1];simp only[ByteArray.size_append];rw[show(⟨#[116,121,112,101,32]⟩:ByteArray).size=5 from rfl,show(⟨#[10]⟩:ByteArray).size=1 from rfl];omega
   have HS1:=h! hs1;have HT1:=h! ht1;have HG1:=h! hg1;have HWc:=h! hwa;clear HN3 hwa hka HKb HTb hs1 ht1 hg1;go_wp2_with fail
   clear htc;go_loopw [33] (fun jj wr=>∃ (j:Nat) (t2:ByteArray) (o:Bool),j<=rels.length/\jj = .int .i64 j/\o=!(g1&&(rels.take j).all relOk)/\WrB wr w.heap.size wb t2 o/\0<t2.size/\t2.size<=schB (ts.take i)+(10+tn.size)+relB (rels.take j)/\(o=false->t2=t1++relsT (rels.take j))/\WKept w.heap.size wb w2 wr) (fun jj _=>rels.length-(intOf jj).toNat)
   case atStart=>exact⟨0,t1,_,by omega,rfl,by simp,HWc.out,by have:=HS1.out;omega,by have:=HS1.out;have:=HTS.out;omega,fun _=>by rw[List.take_zero];exact(ByteArray.append_empty).symm,HKc.out⟩
   case round =>
    obtain⟨j,t2,o2,hj,rfl,ho,hw,hs1,hs2,hjj,hk⟩:=hrel;have HWr:=h! hw;have HOX:=h! ho;have HJJ:=h! hjj;have HT2:=h! (And.intro hs1 hs2);clear HWc HKc ho hw hjj hs1 hs2;by_cases hlt:j<rels.length
    ·have hbel:Below w.heap.size w wr:=HBX.out.trans hk.below;have HRT:=h! (relB_take hlt)
     have HLIM3:=h! (show schB (ts.take i)+(10+tn.size)+relB (rels.take j)+(10+rels[j].1.size+rels[j].2.wt)<=549755813888 from by
      have h1:=HLE.out;have h2:=HSZ.out;have h3:=relB_le rels (j+1);rw[relB_take hlt]at h3;omega)
     have HJ1:=h! hlt;obtain⟨bb,off,pv2,hbo,hb,c0,c1,c2,c3,c4,hat2⟩:=HC3.out j hlt;cases hbo;have d0:=(hbel.cell (p:=⟨bb,off+j*5,none⟩) hb).trans c0;have d1:=(hbel.cell (p:=⟨bb,off+j*5+1,none⟩) hb).trans c1;have d2:=(hbel.cell (p:=⟨bb,off+j*5+2,none⟩) hb).trans c2;have d3:=(hbel.cell (p:=⟨bb,off+j*5+3,none⟩) hb).trans c3;have d4:=(hbel.cell (p:=⟨bb,off+j*5+4,none⟩) hb).trans c4;obtain⟨ao3,c3',rfl,-⟩:=hat2.rows;have HATR:=h! hat2;generalize hxe:rels[j]=x at *;have HXE:=h! hxe;obtain⟨xn,p⟩:=x;dsimp only at *;have HXJ:=h! (Blk.made wr #[.string xn,.int .i64 p.k,.string p.a,.string p.b,.slice ao3 p.ps.length c3'] 181);have HNR:=h! (show wr.heap.size≠wb from by have:=HWr.out.lt;omega);have HKJ:=h! (WKept.next hk (WKept.of (b:=wb) ((Below.refl _ wr).alloc (Nat.le_refl _) (.cells #[.string xn,.int .i64 p.k,.string p.a,.string p.b,.slice ao3 p.ps.length c3'] 181)) (Nat.le_trans HBW.out hk.size)));have HWJ:=h! (HWr.out.up ((Below.refl _ wr).alloc (Nat.le_refl _) (.cells #[.string xn,.int .i64 p.k,.string p.a,.string p.b,.slice ao3 p.ps.length c3'] 181)));clear c0 c1 c2 c3 c4 hat2 hbel hxe hk hlt;cases o2 with
     | true =>
      have HWS:=h! (HWJ.out.flag true);have HKS:=h! (WKept.next HKJ.out (WKept.flag (b:=wb) HWJ.out.1 (.bool true)));have HXS:=h! (HXJ.out.other (a:=⟨wb,2,none⟩) HNR.out (.bool true));have HOX:=h! (show(!(g1&&(rels.take j).all relOk))=true from HOX.out.symm);have HN:=h! (wname_any xn HWS.out (by have:=HT2.out;have:=HLIM3.out;omega) (by have:=HT2.out;omega) (by have:=HT2.out;have:=HLIM3.out;unfold maxLen;omega) (Nat.le_trans HBW.out HKS.out.size));obtain⟨ee,fe⟩:=HWJ.out.odd2;obtain⟨es,fs⟩:=HWS.out.odd2;have xs:=HXS.out.cells;have xj:=HXJ.out.cells;go_wp2_with fail
      refine HN.out.mono ?_;rintro e wa ⟨rfl,hwa,hka⟩;have HKa:=h! (WKept.next HKS.out hka);have HXa:=h! (hka.box HXS.out (by decide) HNR.out);have HN2:=h! (writeString_any ⟨#[32,61,32]⟩ hwa (by have:=HT2.out;have:=HLIM3.out;rw[ByteArray.size_append];show _+3<=_;omega) (by rw[ByteArray.size_append];show 0<_+3;omega) (Nat.le_trans HBW.out HKa.out.size));clear HN hwa hka ee fe es fs xs xj HXS HWS HKS HXJ HWJ HKJ;go_wp2_with fail
      refine HN2.out.mono ?_;rintro e wb2 ⟨rfl,hwa,hka⟩;have HKb:=h! (WKept.next HKa.out hka);have HXb:=h! (hka.box HXa.out (by decide) HNR.out);have xb:=HXb.out.cells;have HN3:=h! (wrule_both p _ 0 _ _ _ (HATR.out.same (Same.below (HBX.out.trans HKb.out.below))) (by have:=HT2.out;have:=HLIM3.out;simp only[ByteArray.size_append];show _+3+_<=_;omega) (by simp only[ByteArray.size_append];show 0<_+3;omega) (by omega) hwa (Nat.le_trans HBW.out HKb.out.size));unfold rV at HN3;rw[show((0:Nat):Int)=0 from rfl]at HN3;clear HN2 hwa hka HXa HKa;go_wp2_with fail
      refine HN3.out.mono ?_;rintro e wc ⟨rfl,t4,hwc,hs1,hs2,hadd,hkc⟩;have HKc:=h! (WKept.next HKb.out hkc);simp only[ByteArray.size_append]at hs1 hs2;rw[show(⟨#[32,61,32]⟩:ByteArray).size=3 from rfl]at hs1 hs2;have HN4:=h! (writeString_any ⟨#[10]⟩ hwc (by have:=HT2.out;have:=HLIM3.out;show _+1<=_;omega) (by show 0<_+1;omega) (Nat.le_trans HBW.out HKc.out.size))
      have HT5:=h! (show 0<(t4++⟨#[10]⟩).size/\(t4++⟨#[10]⟩).size<=schB (ts.take i)+(10+tn.size)+relB (rels.take (j+1))from by
       have:=HT2.out;have:=HRT.out;rw[ByteArray.size_append,show(⟨#[10]⟩:ByteArray).size=1 from rfl];omega)
      have HO5:=h! (show(true||!ownB xn||!p.textOk 0)=!(g1&&(rels.take (j+1)).all relOk)from by
       have he:rels[j]'HJ1.out=(xn,p):=HXE.out;rw[List.take_succ_eq_append_getElem HJ1.out,List.all_append,he];show _=!(g1&&((rels.take j).all relOk&&(relOk (xn,p)&&true)))
       have:=HOX.out;revert this
       cases g1 <;> cases (rels.take j).all relOk <;> simp)
      have HJ5:=h! (show(true||!ownB xn||!p.textOk 0)=false->t4++⟨#[10]⟩=t1++relsT (rels.take (j+1))from fun h=>by
       simp only[Bool.or_eq_false_iff,Bool.not_eq_false']at h;have he:rels[j]'HJ1.out=(xn,p):=HXE.out;rw[hadd (by simp[h.1.1,h.1.2]) h.2,HJJ.out (by have:=h.1.1;cases this),List.take_succ_eq_append_getElem HJ1.out,relsT_append,he];show _=t1++(relsT (rels.take j)++(relT (xn,p)++ByteArray.empty))
       rw[ByteArray.append_empty];unfold relT;dsimp only;simp only[ByteArray.append_assoc])
      have hlt2:=HJ1.out;clear HN3 hwc hs1 hs2 hadd hkc xb HXb HKb;go_wp2_with fail
      refine HN4.out.mono ?_;rintro e wd ⟨rfl,hwd,hkd⟩;have HWd:=h! hwd;have HKd:=h! (WKept.next HKc.out hkd);clear HN4 hwd hkd HKc d0 d1 d2 d3 d4;go_wp2_with fail
      go_roundw
      case rel=>exact⟨j+1,t4++⟨#[10]⟩,_,by omega,by go_num,HO5.out,HWd.out,HT5.out.1,HT5.out.2,HJ5.out,HKd.out⟩
      case measure=>simp[intOf];omega
     | false =>
      have HOX:=h! (show(g1&&(rels.take j).all relOk)=true from by have:=HOX.out;simpa using this);by_cases hty:xn=⟨#[116,121,112,101]⟩
      ·have HWS:=h! (HWJ.out.flag true);have HKS:=h! (WKept.next HKJ.out (WKept.flag (b:=wb) HWJ.out.1 (.bool true)));have HXS:=h! (HXJ.out.other (a:=⟨wb,2,none⟩) HNR.out (.bool true));subst hty;have HN:=h! (wname_any ⟨#[116,121,112,101]⟩ HWS.out (by have:=HT2.out;have:=HLIM3.out;omega) (by have:=HT2.out;omega) (by have:=HT2.out;have:=HLIM3.out;unfold maxLen;omega) (Nat.le_trans HBW.out HKS.out.size));obtain⟨ee,fe⟩:=HWJ.out.odd2;obtain⟨es,fs⟩:=HWS.out.odd2;have xs:=HXS.out.cells;have xj:=HXJ.out.cells;go_wp2_with fail
       refine HN.out.mono ?_;rintro e wa ⟨rfl,hwa,hka⟩;have HKa:=h! (WKept.next HKS.out hka);have HXa:=h! (hka.box HXS.out (by decide) HNR.out);have HN2:=h! (writeString_any ⟨#[32,61,32]⟩ hwa (by have:=HT2.out;have:=HLIM3.out;rw[ByteArray.size_append];show _+3<=_;omega) (by rw[ByteArray.size_append];show 0<_+3;omega) (Nat.le_trans HBW.out HKa.out.size));clear HN hwa hka ee fe es fs xs xj HXS HWS HKS HXJ HWJ HKJ;go_wp2_with fail
       refine HN2.out.mono ?_;rintro e wb2 ⟨rfl,hwa,hka⟩;have HKb:=h! (WKept.next HKa.out hka);have HXb:=h! (hka.box HXa.out (by decide) HNR.out);have xb:=HXb.out.cells;have HN3:=h! (wrule_both p _ 0 _ _ _ (HATR.out.same (Same.below (HBX.out.trans HKb.out.below))) (by have:=HT2.out;have:=HLIM3.out;simp only[ByteArray.size_append];show _+3+_<=_;omega) (by simp only[ByteArray.size_append];show 0<_+3;omega) (by omega) hwa (Nat.le_trans HBW.out HKb.out.size));unfold rV at HN3;rw[show((0:Nat):Int)=0 from rfl]at HN3;clear HN2 hwa hka HXa HKa;go_wp2_with fail
       refine HN3.out.mono ?_;rintro e wc ⟨rfl,t4,hwc,hs1,hs2,hadd,hkc⟩;have HKc:=h! (WKept.next HKb.out hkc);simp only[ByteArray.size_append]at hs1 hs2;rw[show(⟨#[32,61,32]⟩:ByteArray).size=3 from rfl]at hs1 hs2;have HN4:=h! (writeString_any ⟨#[10]⟩ hwc (by have:=HT2.out;have:=HLIM3.out;show _+1<=_;omega) (by show 0<_+1;omega) (Nat.le_trans HBW.out HKc.out.size))
       have HT5:=h! (show 0<(t4++⟨#[10]⟩).size/\(t4++⟨#[10]⟩).size<=schB (ts.take i)+(10+tn.size)+relB (rels.take (j+1))from by
        have:=HT2.out;have:=HRT.out;rw[ByteArray.size_append,show(⟨#[10]⟩:ByteArray).size=1 from rfl];omega)
       have HO5:=h! (show(true||!ownB ⟨#[116,121,112,101]⟩||!p.textOk 0)=!(g1&&(rels.take (j+1)).all relOk)from by
        have he:rels[j]'HJ1.out=(⟨#[116,121,112,101]⟩,p):=HXE.out;rw[List.take_succ_eq_append_getElem HJ1.out,List.all_append,he];show _=!(g1&&((rels.take j).all relOk&&(relOk (⟨#[116,121,112,101]⟩,p)&&true)))
        rw[show relOk (⟨#[116,121,112,101]⟩,p)=false from by unfold relOk;simp];simp)
       have HJ5:=h! (show(true||!ownB ⟨#[116,121,112,101]⟩||!p.textOk 0)=false->t4++⟨#[10]⟩=t1++relsT (rels.take (j+1))from fun h=>by
        simp only[Bool.or_eq_false_iff,Bool.not_eq_false']at h;have he:rels[j]'HJ1.out=(⟨#[116,121,112,101]⟩,p):=HXE.out;rw[hadd (by simp[h.1.1,h.1.2]) h.2,HJJ.out (by have:=h.1.1;cases this),List.take_succ_eq_append_getElem HJ1.out,relsT_append,he];show _=t1++(relsT (rels.take j)++(relT (⟨#[116,121,112,101]⟩,p)++ByteArray.empty))
        rw[ByteArray.append_empty];unfold relT;dsimp only;simp only[ByteArray.append_assoc])
       have hlt2:=HJ1.out;clear HN3 hwc hs1 hs2 hadd hkc xb HXb HKb;go_wp2_with fail
       refine HN4.out.mono ?_;rintro e wd ⟨rfl,hwd,hkd⟩;have HWd:=h! hwd;have HKd:=h! (WKept.next HKc.out hkd);clear HN4 hwd hkd HKc d0 d1 d2 d3 d4;go_wp2_with fail
       go_roundw
       case rel=>exact⟨j+1,t4++⟨#[10]⟩,_,by omega,by go_num,HO5.out,HWd.out,HT5.out.1,HT5.out.2,HJ5.out,HKd.out⟩
       case measure=>simp[intOf];omega
      ·have HTY:=h! hty;have hne:=ba_beq' hty;rw[<- ByteArray.toList_eq,show(⟨#[116,121,112,101]⟩:ByteArray).data.toList=[116,121,112,101]from rfl]at hne;have HWS:=h! (HWJ.out.flag false);have HKS:=h! (WKept.next HKJ.out (WKept.flag (b:=wb) HWJ.out.1 (.bool false)));have HXS:=h! (HXJ.out.other (a:=⟨wb,2,none⟩) HNR.out (.bool false));clear hty;have HN:=h! (wname_any xn HWS.out (by have:=HT2.out;have:=HLIM3.out;omega) (by have:=HT2.out;omega) (by have:=HT2.out;have:=HLIM3.out;unfold maxLen;omega) (Nat.le_trans HBW.out HKS.out.size));obtain⟨ee,fe⟩:=HWJ.out.odd2;obtain⟨es,fs⟩:=HWS.out.odd2;have xs:=HXS.out.cells;have xj:=HXJ.out.cells;go_wp2_with fail
       refine HN.out.mono ?_;rintro e wa ⟨rfl,hwa,hka⟩;have HKa:=h! (WKept.next HKS.out hka);have HXa:=h! (hka.box HXS.out (by decide) HNR.out);have HN2:=h! (writeString_any ⟨#[32,61,32]⟩ hwa (by have:=HT2.out;have:=HLIM3.out;rw[ByteArray.size_append];show _+3<=_;omega) (by rw[ByteArray.size_append];show 0<_+3;omega) (Nat.le_trans HBW.out HKa.out.size));clear HN hwa hka ee fe es fs xs xj HXS HWS HKS HXJ HWJ HKJ;go_wp2_with fail
       refine HN2.out.mono ?_;rintro e wb2 ⟨rfl,hwa,hka⟩;have HKb:=h! (WKept.next HKa.out hka);have HXb:=h! (hka.box HXa.out (by decide) HNR.out);have xb:=HXb.out.cells;have HN3:=h! (wrule_both p _ 0 _ _ _ (HATR.out.same (Same.below (HBX.out.trans HKb.out.below))) (by have:=HT2.out;have:=HLIM3.out;simp only[ByteArray.size_append];show _+3+_<=_;omega) (by simp only[ByteArray.size_append];show 0<_+3;omega) (by omega) hwa (Nat.le_trans HBW.out HKb.out.size));unfold rV at HN3;rw[show((0:Nat):Int)=0 from rfl]at HN3;clear HN2 hwa hka HXa HKa;go_wp2_with fail
       refine HN3.out.mono ?_;rintro e wc ⟨rfl,t4,hwc,hs1,hs2,hadd,hkc⟩;have HKc:=h! (WKept.next HKb.out hkc);simp only[ByteArray.size_append]at hs1 hs2;rw[show(⟨#[32,61,32]⟩:ByteArray).size=3 from rfl]at hs1 hs2;have HN4:=h! (writeString_any ⟨#[10]⟩ hwc (by have:=HT2.out;have:=HLIM3.out;show _+1<=_;omega) (by show 0<_+1;omega) (Nat.le_trans HBW.out HKc.out.size))
       have HT5:=h! (show 0<(t4++⟨#[10]⟩).size/\(t4++⟨#[10]⟩).size<=schB (ts.take i)+(10+tn.size)+relB (rels.take (j+1))from by
        have:=HT2.out;have:=HRT.out;rw[ByteArray.size_append,show(⟨#[10]⟩:ByteArray).size=1 from rfl];omega)
       have HO5:=h! (show(false||!ownB xn||!p.textOk 0)=!(g1&&(rels.take (j+1)).all relOk)from by
        have he:rels[j]'HJ1.out=(xn,p):=HXE.out;rw[List.take_succ_eq_append_getElem HJ1.out,List.all_append,he];show _=!(g1&&((rels.take j).all relOk&&(relOk (xn,p)&&true)))
        rw[<- Bool.and_assoc,HOX.out];unfold relOk;dsimp only;rw[decide_eq_true HTY.out];cases p.textOk 0 <;> cases ownB xn <;> rfl)
       have HJ5:=h! (show(false||!ownB xn||!p.textOk 0)=false->t4++⟨#[10]⟩=t1++relsT (rels.take (j+1))from fun h=>by
        simp only[Bool.or_eq_false_iff,Bool.not_eq_false']at h;have he:rels[j]'HJ1.out=(xn,p):=HXE.out;rw[hadd (by simp[h.1.2]) h.2,HJJ.out (by first | rfl | trivial),List.take_succ_eq_append_getElem HJ1.out,relsT_append,he];show _=t1++(relsT (rels.take j)++(relT (xn,p)++ByteArray.empty))
        rw[ByteArray.append_empty];unfold relT;dsimp only;simp only[ByteArray.append_assoc])
       have hlt2:=HJ1.out;clear HN3 hwc hs1 hs2 hadd hkc xb HXb HKb;go_wp2_with fail
       refine HN4.out.mono ?_;rintro e wd ⟨rfl,hwd,hkd⟩;have HWd:=h! hwd;have HKd:=h! (WKept.next HKc.out hkd);clear HN4 hwd hkd HKc d0 d1 d2 d3 d4;go_wp2_with fail
       go_roundw
       case rel=>exact⟨j+1,t4++⟨#[10]⟩,_,by omega,by go_num,HO5.out,HWd.out,HT5.out.1,HT5.out.2,HJ5.out,HKd.out⟩
       case measure=>simp[intOf];omega
    ·obtain rfl:j=rels.length:=by omega
     rw[List.take_length]at HOX HJJ HT2
     have HO2:=h! (show o2=!((ts.take (i+1)).all tyOk)from by
      have he:ts[i]'HI1.out=⟨tn,rels⟩:=HTI.out;rw[HOX.out,List.take_succ_eq_append_getElem HI1.out,List.all_append,he];show _=!((ts.take i).all tyOk&&(tyOk ⟨tn,rels⟩&&true))
      have h1:=HG1.out;rw[HO.out]at h1;rw[show tyOk ⟨tn,rels⟩=(ownB tn&&rels.all relOk)from rfl];revert h1
      generalize (ts.take i).all tyOk=q;cases q <;> cases ownB tn <;> cases rels.all relOk <;> cases g1 <;> simp)
     have HJ2:=h! (show o2=false->t2=schT (ts.take (i+1))from fun h=>by
      have he:ts[i]'HI1.out=⟨tn,rels⟩:=HTI.out
      rw[HJJ.out h,HT1.out,HJ.out (by
       have h1:=HOX.out;have h2:=HG1.out;rw[h]at h1;revert h1 h2
       cases o <;> cases g1 <;> simp),List.take_succ_eq_append_getElem HI1.out,schT_append,he]
      show _=schT (ts.take i)++(tyT ⟨tn,rels⟩++ByteArray.empty)
      rw[ByteArray.append_empty];unfold tyT;dsimp only;simp only[ByteArray.append_assoc])
     have HTZ:=h! (show t2.size<=schB (ts.take (i+1))from by have:=HT2.out;have:=HST.out;omega);have HK2:=h! hk;have hlt2:=HI1.out;clear hk;go_wp2_with fail
     go_roundw
     case rel=>exact⟨i+1,t2,o2,by omega,by go_num,HO2.out,HWr.out,HTZ.out,HJ2.out,HK2.out⟩
     case measure=>simp[intOf];omega
  ·obtain rfl:i=ts.length:=by omega
   rw[List.take_length]at HO HJ HTS;have HOG:=h! (show o=!g from by rw[HO.out,HG.out]);have HKE:=h! (HBX.out.trans hk.below);obtain⟨ee,fe⟩:=HW.out.odd2;have HSTR:=h! (wstring_any HW.out);clear hk HO;cases o with
   | true =>
    have hgf:g=false:=by have:=HOG.out;revert this;cases g <;> simp
    subst hgf;go_wp2_with fail
    go_ret2
    exact⟨rfl,HKE.out⟩
   | false =>
    have hgt:g=true:=by have:=HOG.out;revert this;cases g <;> simp
    subst hgt;have HJE:=h! (HJ.out rfl);go_wp2_with fail
    refine HSTR.out.mono ?_;rintro e w9 ⟨rfl,hb9⟩;have HBE:=h! (HKE.out.trans hb9);clear HSTR hb9 ee fe;go_wp2_with fail
    go_ret2
    exact⟨by rw[HJE.out];rfl,HBE.out⟩
end Go.Proofs.YtlhaghoajpglaaaGreat
namespace Go.Proofs.YtlhaghoajpglaaaGreat
open Go Go.RowKit Go.Maps
def nmsP (n:ByteArray)(l:List (ByteArray × RT)):List R2:=⟨n,ByteArray.empty⟩::l.map fun r=>⟨n,r.1⟩
theorem nmsP_take {n:ByteArray} {l:List (ByteArray × RT)} {i:Nat} (hi:i<l.length):nmsP n (l.take (i+1))=nmsP n (l.take i)++[⟨n,l[i].1⟩]:=by
 rw[List.take_succ_eq_append_getElem hi];simp only[nmsP,List.map_append,List.map_cons,List.map_nil,List.cons_append]
theorem nmsP_length (n:ByteArray)(l:List (ByteArray × RT)):(nmsP n l).length=1+l.length:=by simp[nmsP];omega
theorem namesOf_le (ts:List TyS)(i:Nat):(namesOf (ts.take i)).length<=(namesOf ts).length:=by
 conv=>rhs;rw[<- List.take_append_drop i ts]
 simp only[namesOf,List.flatMap_append,List.length_append];omega
theorem checkP_any (ts:List TyS)(tv:Value)(w:World)(h:TysAt (· < w.heap.size) w ts tv)(hok:∀ t∈ts,t.Ok)(hsB:schB ts<=549755813888)(hsz:∀ t∈ts,∀ r∈t.rels,r.2.sz<=1000000)(hln:(namesOf ts).length<=1099511627776)(hlr:(refsOf ts).length<=1099511627776) :
  Calls Tryz.prog 74 #[.agg #[tv]] w fun e w'=>e = .returned (.int .i64 (chk06 ts))/\Below w.heap.size w w':=by
 have hb0:Below w.heap.size w (w.alloc (.cells #[tv] 26)):=(Below.refl _ _).alloc (Nat.le_refl _) _;have HPR:=h! (wprint_any ts tv _ (h.up hb0) hsB);have HTS:=h! h;have HOK:=h! hok;have HSZ:=h! hsz;have HLN:=h! hln;have HLR:=h! hlr;obtain⟨ao,c,rfl,hlc,hcm,hcell⟩:=h.rows;have HC:=h! hcell;have hS0:=Blk.made w #[.slice ao ts.length c] 26;have hs0:=hS0.cells;have HS0:=h! hS0;have HB0:=h! hb0;have hmm:=@run_makeMap Tryz.prog;have HG:=h! (show chk06 ts=if printOk ts then(if longOk ts then(if uniqOk ts then(if namesOk ts then 0 else 2)else 3)else 10)else 9 from rfl);generalize chk06 ts=g at *;clear h hcell hok hsB hsz hS0 hb0 hln hlr;go_enter Tryz.func74,Tryz.ntmps74
 go_wp2_with fail
 refine HPR.out.mono ?_;rintro e w2 ⟨rfl,hb2⟩;have HB2:=h! (HB0.out.trans (hb2.mono HB0.out.size));have HS2:=h! (HS0.out.below hb2);clear HPR hb2 hs0;cases hp:printOk ts with
 | false =>
  have HF:=h! (show g=9 from by rw[HG.out,hp];rfl);rw[show prN false=9 from rfl];clear hp;go_wp2_with fail
  go_ret
  exact⟨by rw[HF.out];rfl,HB2.out⟩
 | true =>
  rw[show prN true=0 from rfl];have HP:=h! hp;clear hp;have s3:=(HS2.out.alloc (.map #[] 0)).cells;go_wp2_with fail
  obtain⟨w3,hw3⟩:∃ x,x=w2.alloc (.map #[] 0):=⟨_,rfl⟩;rw[<- hw3]at s3 ⊢;obtain⟨bn,hbn⟩:∃ x,x=w2.heap.size:=⟨_,rfl⟩;rw[<- hbn];have x23:Ext w2 w3:=by rw[hw3];exact Ext.alloc _ _
  have HM0:=h! (show Mp Tryz.prog 121 r2V bV w3 bn (blR [])from by rw[hw3,hbn];exact Mp.made _);have HBN:=h! (show w.heap.size<=bn from by rw[hbn];exact HB2.out.size);have HB3:=h! (show Below w.heap.size w w3 from HB2.out.trans (Below.mono x23 HB2.out.size));have HS3:=h! (HS2.out.below x23);have HNS:=h! (show w.heap.size≠bn from by have:=HS2.out.lt;omega);clear hw3 x23 hbn s3;obtain⟨c16,hc16⟩:∃ x,x=decide (ts.length<=16):=⟨_,rfl⟩;rw[show(decide ((16:Int)<(ts.length:Int)))=!c16 from by rw[hc16];by_cases h:ts.length<=16 <;> simp[h] <;> omega];have HC16:=h! hc16;clear hc16;go_loopw [6,7,30] (fun av lv ii wr=>∃ (i:Nat) (N:List R2) (o:Bool),i<=ts.length/\ii = .int .i64 i/\av = .int .i64 (((namesOf (ts.take i)).length:Nat):Int)/\lv = .bool o/\o=!(c16&&(ts.take i).all tyLong)/\Mp Tryz.prog 121 r2V bV wr bn (blR N)/\NamesI (namesOf (ts.take i)) N/\Tk bn w3 wr) (fun _ _ ii _=>ts.length-(intOf ii).toNat)
  case atStart=>exact⟨0,[],!c16,by omega,rfl,rfl,rfl,by simp,HM0.out,NamesI.nil,Tk.refl _ _⟩
  case round =>
   obtain⟨i,N,o,hi,rfl,rfl,rfl,ho,hm,hn,htk⟩:=hrel;have HO:=h! ho;have HM:=h! hm;have HN:=h! hn;have HTK:=h! htk;clear HM0 ho hm hn;by_cases hlt:i<ts.length
   ·have hbel:Below w.heap.size w wr:=HB3.out.trans (htk.below HB3.out.size HBN.out);obtain⟨bb,off,rsv,hbo,hb,c0,c1,hat2⟩:=HC.out i hlt;cases hbo;have d0:=(hbel.cell (p:=⟨bb,off+i*2,none⟩) hb).trans c0;have d1:=(hbel.cell (p:=⟨bb,off+i*2+1,none⟩) hb).trans c1;have hokt:=HOK.out _ (List.getElem_mem hlt);have HSZT:=h! (HSZ.out _ (List.getElem_mem hlt));have HNT:=h! (namesOf_take hlt);have HLE:=h! (namesOf_le ts (i+1));have HI1:=h! hlt;generalize hti:ts[i]=t at *;have HTI:=h! hti;obtain⟨tn,rels⟩:=t;dsimp only at *;obtain⟨hon,hor⟩:=hokt;dsimp only at hon hor;have HNT:=h! (show namesOf (ts.take (i+1))=namesOf (ts.take i)++nmsP tn rels from HNT.out);have HKT:=h! (show tn.size<=maxLen from by unfold maxLen;omega);have HORT:=h! hor;obtain⟨ao2,c2',rfl,hlc3,hcm3,hcell3⟩:=hat2.rows;have HC3:=h! hcell3;have hea:Ext wr (wr.alloc (.cells #[.string tn,.slice ao2 rels.length c2'] 176)):=Ext.alloc _ _;have HTA0:=h! (Blk.made wr #[.string tn,.slice ao2 rels.length c2'] 176);have hta:=HTA0.out.cells;have HNTB:=h! (show wr.heap.size≠bn from by have:=HM.out.lt;omega);obtain⟨w4,hst,hM4,hT4⟩:=(HM.out.below hea).store refK r2V_inj Tryz.underlying141 (ref_key ⟨tn,ByteArray.empty⟩ ⟨HKT.out,by show ByteArray.empty.size<=maxLen;exact Nat.zero_le _⟩) true;rw[put_addR]at hM4;unfold r2V bV at hst;dsimp only at hst;rw[show(ByteArray.empty:ByteArray)=⟨#[]⟩from rfl]at hst;have HM4:=h! hM4;have HTK4:=h! (Tk.next htk (Tk.next (Tk.of hea) (Tk.turned hT4)));have HTA:=h! ((Tk.turned hT4).box HTA0.out HNTB.out);have ht4:=HTA.out.cells;have HB4:=h! (HB3.out.trans (HTK4.out.below HB3.out.size HBN.out));have HN4:=h! (show NamesI (namesOf (ts.take i)++nmsP tn (rels.take 0)) (addR N ⟨tn,ByteArray.empty⟩)from by rw[List.take_zero];exact HN.out.step _)
    have hal:(namesOf (ts.take i)).length+(1+rels.length)<=1099511627776:=by
     have h1:=HLE.out;have h2:=HLN.out;rw[HNT.out,List.length_append,nmsP_length]at h1;omega
    have hw1:wrap64 (1+(rels.length:Int))=1+(rels.length:Int):=wrap_in _ (by omega) (by omega);have hw2:wrap64 (((namesOf (ts.take i)).length:Int)+(1+(rels.length:Int)))=((namesOf (ts.take i)).length:Int)+(1+(rels.length:Int)):=wrap_in _ (by omega) (by omega);have HW2:=h! hw2;clear c0 c1 hat2 hcell3 hbel htk hor hon hM4 hT4 hea hti hal;have HNT2:=h! HNTB.out;cases o with
    | true =>
     obtain⟨g1,hg1⟩:∃ g1,g1=(c16&&(ts.take i).all tyLong&&decide (rels.length<=16)):=⟨_,rfl⟩;have HG1:=h! hg1
     have HOT:=h! (show true=!g1 from by
      rw[hg1];have:=HO.out;revert this
      cases c16 <;> cases (ts.take i).all tyLong <;> simp)
     clear hg1;go_wp2_with fail
     clear hta ht4 hst d0 d1 hw1 hw2 hlt;generalize wr.heap.size=tb at *;go_loopw [7,54] (fun lv jj wr=>∃ (j:Nat) (N:List R2) (o:Bool),j<=rels.length/\jj = .int .i64 j/\lv = .bool o/\o=!(g1&&(rels.take j).all fun r=>decide (r.2.sz<=32))/\Mp Tryz.prog 121 r2V bV wr bn (blR N)/\NamesI (namesOf (ts.take i)++nmsP tn (rels.take j)) N/\Tk bn w4 wr) (fun _ jj _=>rels.length-(intOf jj).toNat)
     case atStart=>exact⟨0,addR N ⟨tn,ByteArray.empty⟩,true,by omega,rfl,rfl,by rw[List.take_zero];first | (simp;done) | (simpa using HOT.out),HM4.out,HN4.out,Tk.refl _ _⟩
     case round =>
      obtain⟨j,N,o,hj,rfl,rfl,ho,hm,hn,htk⟩:=hrel;have HOR:=h! ho;have HMR:=h! hm;have HNI:=h! hn;have HTKR:=h! htk;clear HM4 HN4 ho hm hn;by_cases hlt:j<rels.length
      ·have hbel:Below w.heap.size w wr:=HB4.out.trans (htk.below HB4.out.size HBN.out);have HOR1:=HORT.out _ (List.getElem_mem hlt);have hsz1:=HSZT.out _ (List.getElem_mem hlt);have HJ1:=h! hlt;have HNP:=h! (nmsP_take (n:=tn) hlt);have HJS:=h! (show((rels.take (j+1)).all fun r=>decide (r.2.sz<=32))=((rels.take j).all (fun r=>decide (r.2.sz<=32))&&decide (rels[j].2.sz<=32))from by rw[List.take_succ_eq_append_getElem hlt,List.all_append];simp only[List.all_cons,List.all_nil,Bool.and_true];rfl);obtain⟨bb,off,pv,hbo,hb,c0,c1,c2,c3,c4,hat2⟩:=HC3.out j hlt;cases hbo;have d0:=(hbel.cell (p:=⟨bb,off+j*5,none⟩) hb).trans c0;have d1:=(hbel.cell (p:=⟨bb,off+j*5+1,none⟩) hb).trans c1;have d2:=(hbel.cell (p:=⟨bb,off+j*5+2,none⟩) hb).trans c2;have d3:=(hbel.cell (p:=⟨bb,off+j*5+3,none⟩) hb).trans c3;have d4:=(hbel.cell (p:=⟨bb,off+j*5+4,none⟩) hb).trans c4;obtain⟨ao3,c3',rfl,-⟩:=hat2.rows;generalize rels[j]=x at *;obtain⟨xn,p⟩:=x;dsimp only at *;have HKX:=h! (show xn.size<=maxLen from by have:=HOR1.1;unfold maxLen;omega);have hea:Ext wr (wr.alloc (.cells #[.string xn,.int .i64 p.k,.string p.a,.string p.b,.slice ao3 p.ps.length c3'] 181)):=Ext.alloc _ _;have HRB:=h! (Blk.made wr #[.string xn,.int .i64 p.k,.string p.a,.string p.b,.slice ao3 p.ps.length c3'] 181);have hbx:=HRB.out.cells;have HSZ4:=h! (sizeR_any p _ _ (RTAt.mono (hat2.same (Same.below (hbel.trans (hea.mono hbel.size)))) (fun x hx=>Nat.lt_of_lt_of_le hx (Nat.le_trans hbel.size hea.size))) hsz1);unfold rV at HSZ4;clear c0 c1 c2 c3 c4 hat2 hb htk hbel HOR1 hsz1 hlt;cases o with
       | true =>
        have HXE:=h! (show Ext wr (wr.alloc (.cells #[.string xn,.int .i64 p.k,.string p.a,.string p.b,.slice ao3 p.ps.length c3'] 181))from hea);obtain⟨w6,hst,hM6,hT6⟩:=(HMR.out.below HXE.out).store refK r2V_inj Tryz.underlying141 (ref_key ⟨tn,xn⟩ ⟨HKT.out,HKX.out⟩) true;rw[put_addR]at hM6;unfold r2V bV at hst;dsimp only at hst;have HM6:=h! hM6;have HTK6:=h! (Tk.next HTKR.out (Tk.next (Tk.of HXE.out) (Tk.turned hT6)));have r5:=HRB.out.cells;have t5:=((HTKR.out.box HTA.out HNT2.out).below HXE.out).cells;clear hM6 hT6
        have HO6:=h! (show true=!(g1&&(rels.take (j+1)).all fun r=>decide (r.2.sz<=32))from by
         rw[HJS.out];have:=HOR.out;revert this
         cases g1 <;> cases (rels.take j).all fun r=>decide (r.2.sz<=32) <;> simp)
        have HN6:=h! (show NamesI (namesOf (ts.take i)++nmsP tn (rels.take (j+1))) (addR N ⟨tn,xn⟩)from by
         rw[HNP.out,<- List.append_assoc];exact HNI.out.step _)
        have hlt2:=HJ1.out;clear HXE;go_wp2_with fail
        clear r5 t5 hst d0 d1 d2 d3 d4;go_roundw
        case rel=>exact⟨j+1,addR N ⟨tn,xn⟩,true,by omega,by go_num,rfl,HO6.out,HM6.out,HN6.out,HTK6.out⟩
        case measure=>simp[intOf];omega
       | false =>
        go_wp2_with fail
        refine HSZ4.out.mono ?_;rintro e w5 ⟨rfl,hb5⟩;have HB5:=h! hb5;clear HSZ4 hb5;have HXE:=h! (show Ext wr w5 from Ext.trans hea HB5.out);obtain⟨w6,hst,hM6,hT6⟩:=(HMR.out.below HXE.out).store refK r2V_inj Tryz.underlying141 (ref_key ⟨tn,xn⟩ ⟨HKT.out,HKX.out⟩) true;rw[put_addR]at hM6;unfold r2V bV at hst;dsimp only at hst;have HM6:=h! hM6;have HTK6:=h! (Tk.next HTKR.out (Tk.next (Tk.of HXE.out) (Tk.turned hT6)));have r5:=(HRB.out.below HB5.out).cells;have t5:=((HTKR.out.box HTA.out HNT2.out).below HXE.out).cells;clear hM6 hT6
        have HO6:=h! (show(decide ((32:Int)<(p.sz:Int)))=!(g1&&(rels.take (j+1)).all fun r=>decide (r.2.sz<=32))from by
         rw[HJS.out];have:=HOR.out;rw[show(decide ((32:Int)<(p.sz:Int)))=!decide (p.sz<=32)from by by_cases h:p.sz<=32 <;> simp[h] <;> omega];revert this
         cases g1 <;> cases (rels.take j).all fun r=>decide (r.2.sz<=32) <;> simp)
        have HN6:=h! (show NamesI (namesOf (ts.take i)++nmsP tn (rels.take (j+1))) (addR N ⟨tn,xn⟩)from by
         rw[HNP.out,<- List.append_assoc];exact HNI.out.step _)
        have hlt2:=HJ1.out;clear HXE;go_wp2_with fail
        clear r5 t5 hst d0 d1 d2 d3 d4;go_roundw
        case rel=>exact⟨j+1,addR N ⟨tn,xn⟩,(decide ((32:Int)<(p.sz:Int))),by omega,by go_num,rfl,HO6.out,HM6.out,HN6.out,HTK6.out⟩
        case measure=>simp[intOf];omega
      ·obtain rfl:j=rels.length:=by omega
       rw[List.take_length]at HOR HNI
       have HOE:=h! (show o=!(c16&&(ts.take (i+1)).all tyLong)from by
        have he:ts[i]'HI1.out=⟨tn,rels⟩:=HTI.out;rw[HOR.out,HG1.out,List.take_succ_eq_append_getElem HI1.out,List.all_append,he];show _=!(c16&&((ts.take i).all tyLong&&(tyLong ⟨tn,rels⟩&&true)))
        unfold tyLong;dsimp only;simp only[Bool.and_assoc,Bool.and_true])
       have HNE:=h! (show NamesI (namesOf (ts.take (i+1))) N from by rw[HNT.out];exact HNI.out)
       have HAE:=h! (show Value.int .i64 (wrap64 (((namesOf (ts.take i)).length:Int)+(1+(rels.length:Int)))) = .int .i64 (((namesOf (ts.take (i+1))).length:Nat):Int)from by
        have e:(((namesOf (ts.take i)).length:Int)+(1+(rels.length:Int)))=(((namesOf (ts.take (i+1))).length:Nat):Int):=by
         rw[HNT.out,List.length_append,nmsP_length];omega
        rw[HW2.out,e])
       have HTE:=h! (Tk.next HTK4.out htk);have hlt2:=HI1.out;clear htk;go_wp2_with fail
       go_roundw
       case rel=>exact⟨i+1,N,o,by omega,by go_num,HAE.out,rfl,HOE.out,HMR.out,HNE.out,HTE.out⟩
       case measure=>simp[intOf];omega
    | false =>
     obtain⟨g1,hg1⟩:∃ g1,g1=(c16&&(ts.take i).all tyLong&&decide (rels.length<=16)):=⟨_,rfl⟩;have HG1:=h! hg1
     have HOT:=h! (show(decide ((16:Int)<(rels.length:Int)))=!g1 from by
      rw[hg1];have:=HO.out;revert this
      rw[show(decide ((16:Int)<(rels.length:Int)))=!decide (rels.length<=16)from by by_cases h:rels.length<=16 <;> simp[h] <;> omega];cases c16 <;> cases (ts.take i).all tyLong <;> simp)
     clear hg1;go_wp2_with fail
     clear hta ht4 hst d0 d1 hw1 hw2 hlt;rw[HOT.out];have HOT:=h! (show(!g1)=!g1 from rfl);generalize wr.heap.size=tb at *;go_loopw [7,54] (fun lv jj wr=>∃ (j:Nat) (N:List R2) (o:Bool),j<=rels.length/\jj = .int .i64 j/\lv = .bool o/\o=!(g1&&(rels.take j).all fun r=>decide (r.2.sz<=32))/\Mp Tryz.prog 121 r2V bV wr bn (blR N)/\NamesI (namesOf (ts.take i)++nmsP tn (rels.take j)) N/\Tk bn w4 wr) (fun _ jj _=>rels.length-(intOf jj).toNat)
     case atStart=>exact⟨0,addR N ⟨tn,ByteArray.empty⟩,!g1,by omega,rfl,rfl,by rw[List.take_zero];first | (simp;done) | (simpa using HOT.out),HM4.out,HN4.out,Tk.refl _ _⟩
     case round =>
      obtain⟨j,N,o,hj,rfl,rfl,ho,hm,hn,htk⟩:=hrel;have HOR:=h! ho;have HMR:=h! hm;have HNI:=h! hn;have HTKR:=h! htk;clear HM4 HN4 ho hm hn;by_cases hlt:j<rels.length
      ·have hbel:Below w.heap.size w wr:=HB4.out.trans (htk.below HB4.out.size HBN.out);have HOR1:=HORT.out _ (List.getElem_mem hlt);have hsz1:=HSZT.out _ (List.getElem_mem hlt);have HJ1:=h! hlt;have HNP:=h! (nmsP_take (n:=tn) hlt);have HJS:=h! (show((rels.take (j+1)).all fun r=>decide (r.2.sz<=32))=((rels.take j).all (fun r=>decide (r.2.sz<=32))&&decide (rels[j].2.sz<=32))from by rw[List.take_succ_eq_append_getElem hlt,List.all_append];simp only[List.all_cons,List.all_nil,Bool.and_true];rfl);obtain⟨bb,off,pv,hbo,hb,c0,c1,c2,c3,c4,hat2⟩:=HC3.out j hlt;cases hbo;have d0:=(hbel.cell (p:=⟨bb,off+j*5,none⟩) hb).trans c0;have d1:=(hbel.cell (p:=⟨bb,off+j*5+1,none⟩) hb).trans c1;have d2:=(hbel.cell (p:=⟨bb,off+j*5+2,none⟩) hb).trans c2;have d3:=(hbel.cell (p:=⟨bb,off+j*5+3,none⟩) hb).trans c3;have d4:=(hbel.cell (p:=⟨bb,off+j*5+4,none⟩) hb).trans c4;obtain⟨ao3,c3',rfl,-⟩:=hat2.rows;generalize rels[j]=x at *;obtain⟨xn,p⟩:=x;dsimp only at *;have HKX:=h! (show xn.size<=maxLen from by have:=HOR1.1;unfold maxLen;omega);have hea:Ext wr (wr.alloc (.cells #[.string xn,.int .i64 p.k,.string p.a,.string p.b,.slice ao3 p.ps.length c3'] 181)):=Ext.alloc _ _;have HRB:=h! (Blk.made wr #[.string xn,.int .i64 p.k,.string p.a,.string p.b,.slice ao3 p.ps.length c3'] 181);have hbx:=HRB.out.cells;have HSZ4:=h! (sizeR_any p _ _ (RTAt.mono (hat2.same (Same.below (hbel.trans (hea.mono hbel.size)))) (fun x hx=>Nat.lt_of_lt_of_le hx (Nat.le_trans hbel.size hea.size))) hsz1);unfold rV at HSZ4;clear c0 c1 c2 c3 c4 hat2 hb htk hbel HOR1 hsz1 hlt;cases o with
       | true =>
        have HXE:=h! (show Ext wr (wr.alloc (.cells #[.string xn,.int .i64 p.k,.string p.a,.string p.b,.slice ao3 p.ps.length c3'] 181))from hea);obtain⟨w6,hst,hM6,hT6⟩:=(HMR.out.below HXE.out).store refK r2V_inj Tryz.underlying141 (ref_key ⟨tn,xn⟩ ⟨HKT.out,HKX.out⟩) true;rw[put_addR]at hM6;unfold r2V bV at hst;dsimp only at hst;have HM6:=h! hM6;have HTK6:=h! (Tk.next HTKR.out (Tk.next (Tk.of HXE.out) (Tk.turned hT6)));have r5:=HRB.out.cells;have t5:=((HTKR.out.box HTA.out HNT2.out).below HXE.out).cells;clear hM6 hT6
        have HO6:=h! (show true=!(g1&&(rels.take (j+1)).all fun r=>decide (r.2.sz<=32))from by
         rw[HJS.out];have:=HOR.out;revert this
         cases g1 <;> cases (rels.take j).all fun r=>decide (r.2.sz<=32) <;> simp)
        have HN6:=h! (show NamesI (namesOf (ts.take i)++nmsP tn (rels.take (j+1))) (addR N ⟨tn,xn⟩)from by
         rw[HNP.out,<- List.append_assoc];exact HNI.out.step _)
        have hlt2:=HJ1.out;clear HXE;go_wp2_with fail
        clear r5 t5 hst d0 d1 d2 d3 d4;go_roundw
        case rel=>exact⟨j+1,addR N ⟨tn,xn⟩,true,by omega,by go_num,rfl,HO6.out,HM6.out,HN6.out,HTK6.out⟩
        case measure=>simp[intOf];omega
       | false =>
        go_wp2_with fail
        refine HSZ4.out.mono ?_;rintro e w5 ⟨rfl,hb5⟩;have HB5:=h! hb5;clear HSZ4 hb5;have HXE:=h! (show Ext wr w5 from Ext.trans hea HB5.out);obtain⟨w6,hst,hM6,hT6⟩:=(HMR.out.below HXE.out).store refK r2V_inj Tryz.underlying141 (ref_key ⟨tn,xn⟩ ⟨HKT.out,HKX.out⟩) true;rw[put_addR]at hM6;unfold r2V bV at hst;dsimp only at hst;have HM6:=h! hM6;have HTK6:=h! (Tk.next HTKR.out (Tk.next (Tk.of HXE.out) (Tk.turned hT6)));have r5:=(HRB.out.below HB5.out).cells;have t5:=((HTKR.out.box HTA.out HNT2.out).below HXE.out).cells;clear hM6 hT6
        have HO6:=h! (show(decide ((32:Int)<(p.sz:Int)))=!(g1&&(rels.take (j+1)).all fun r=>decide (r.2.sz<=32))from by
         rw[HJS.out];have:=HOR.out;rw[show(decide ((32:Int)<(p.sz:Int)))=!decide (p.sz<=32)from by by_cases h:p.sz<=32 <;> simp[h] <;> omega];revert this
         cases g1 <;> cases (rels.take j).all fun r=>decide (r.2.sz<=32) <;> simp)
        have HN6:=h! (show NamesI (namesOf (ts.take i)++nmsP tn (rels.take (j+1))) (addR N ⟨tn,xn⟩)from by
         rw[HNP.out,<- List.append_assoc];exact HNI.out.step _)
        have hlt2:=HJ1.out;clear HXE;go_wp2_with fail
        clear r5 t5 hst d0 d1 d2 d3 d4;go_roundw
        case rel=>exact⟨j+1,addR N ⟨tn,xn⟩,(decide ((32:Int)<(p.sz:Int))),by omega,by go_num,rfl,HO6.out,HM6.out,HN6.out,HTK6.out⟩
        case measure=>simp[intOf];omega
      ·obtain rfl:j=rels.length:=by omega
       rw[List.take_length]at HOR HNI
       have HOE:=h! (show o=!(c16&&(ts.take (i+1)).all tyLong)from by
        have he:ts[i]'HI1.out=⟨tn,rels⟩:=HTI.out;rw[HOR.out,HG1.out,List.take_succ_eq_append_getElem HI1.out,List.all_append,he];show _=!(c16&&((ts.take i).all tyLong&&(tyLong ⟨tn,rels⟩&&true)))
        unfold tyLong;dsimp only;simp only[Bool.and_assoc,Bool.and_true])
       have HNE:=h! (show NamesI (namesOf (ts.take (i+1))) N from by rw[HNT.out];exact HNI.out)
       have HAE:=h! (show Value.int .i64 (wrap64 (((namesOf (ts.take i)).length:Int)+(1+(rels.length:Int)))) = .int .i64 (((namesOf (ts.take (i+1))).length:Nat):Int)from by
        have e:(((namesOf (ts.take i)).length:Int)+(1+(rels.length:Int)))=(((namesOf (ts.take (i+1))).length:Nat):Int):=by
         rw[HNT.out,List.length_append,nmsP_length];omega
        rw[HW2.out,e])
       have HTE:=h! (Tk.next HTK4.out htk);have hlt2:=HI1.out;clear htk;go_wp2_with fail
       go_roundw
       case rel=>exact⟨i+1,N,o,by omega,by go_num,HAE.out,rfl,HOE.out,HMR.out,HNE.out,HTE.out⟩
       case measure=>simp[intOf];omega
   ·obtain rfl:i=ts.length:=by omega
    rw[List.take_length]at HO HN;have hlg:longOk ts=!o:=by rw[HO.out,HC16.out];unfold longOk;simp
    have HB4:=h! (HB3.out.trans (htk.below HB3.out.size HBN.out));have HG2:=h! (show g=if longOk ts then(if uniqOk ts then(if namesOk ts then 0 else 2)else 3)else 10 from by rw[HG.out,if_pos HP.out]);have HST:=h! (htk.box HS3.out HNS.out);have hmlen:=HM.out.len Tryz.underlying141;have hbl:(blR N).length=N.length:=by simp[blR]
    rw[hbl]at hmlen;have HNL:=h! HN.out.lt;have HOB:=h! (fun(hu:uniqOk ts=true)=>open_bk ts _ wr (HTS.out.up HB4.out) HOK.out hu HLR.out);have s4:=HST.out.cells;clear htk hbl;cases o with
    | true =>
     have HF:=h! (show g=10 from by rw[HG2.out,hlg];rfl);clear hlg;go_wp2_with fail
     go_ret
     exact⟨by rw[HF.out];rfl,HB4.out⟩
    | false =>
     have HG3:=h! (show g=if uniqOk ts then(if namesOk ts then 0 else 2)else 3 from by rw[HG2.out,hlg];rfl);clear hlg;by_cases hnd:(namesOf ts).Nodup
     rotate_left
     ·have HF:=h! (show g=3 from by rw[HG3.out,if_neg (fun h=>hnd ((names_nodup HP.out).2 h))]);have hlt:(N.length:Int)<((namesOf ts).length:Int):=by have:=HNL.out.2 hnd;omega
      clear hnd;go_wp2_with fail
      go_ret
      exact⟨by rw[HF.out];rfl,HB4.out⟩
     have hu:=(names_nodup HP.out).1 hnd;have HU:=h! hu;have HG4:=h! (show g=if namesOk ts then 0 else 2 from by rw[HG3.out,if_pos hu])
     have hge:¬ ((N.length:Int)<((namesOf ts).length:Int)):=by
      have:¬ N.length<(namesOf ts).length:=fun h=>HNL.out.1 h hnd;omega
     have HOB2:=h! (HOB.out hu);clear hnd hu HOB;go_wp2_with fail
     refine HOB2.out.mono ?_;rintro e w5 ⟨b1,b2,b3,rfl,hbk,hb5⟩;have HBK0:=h! hbk;have HB5:=h! (HB4.out.trans (hb5.mono HB4.out.size));obtain⟨w6,hw6⟩:∃ x,x=w5.alloc (.cells #[.map (some b1),.map (some b2),.map (some b3)] 229):=⟨_,rfl⟩;have x56:Ext w5 w6:=by rw[hw6];exact Ext.alloc _ _
     have HBC:=h! (show Blk w6 w5.heap.size #[.map (some b1),.map (some b2),.map (some b3)] 229 from by rw[hw6];exact Blk.made _ _ _);have HBK:=h! (hbk.up x56);have HB6:=h! (show Below w.heap.size w w6 from HB5.out.trans (x56.mono HB5.out.size));obtain⟨lr,hM,hLP,hLA⟩:=HBK.out.R;have HLP:=h! hLP;have HLA:=h! hLA;have c6:=HBC.out.cells;subst hw6;clear HOB2 hbk hb5 x56 hLP hLA s4 hmlen hge;go_wp2_with (at_range;go_must (refine wpList_mp_range _ rfl _ 225 rfl Tryz.underlying225 rfl hM ?_);intro wR hRg hbR hszR)
     try go_frame
     have HRG0:=h! hRg;have HBR:=h! hbR;clear c6 hM hRg hbR hszR;obtain⟨w6,hw6⟩:∃ x,x=w5.alloc (.cells #[.map (some b1),.map (some b2),.map (some b3)] 229):=⟨_,rfl⟩;rw[<- hw6]at HBC HBK HB6 HLA HRG0 HBR ⊢;clear hw6;obtain⟨nR,hnR⟩:∃ nR,nR=w6.heap.size:=⟨_,rfl⟩;rw[<- hnR]at HRG0 ⊢;have HNRL:=h! (show w6.heap.size<=nR from by omega);clear hnR;generalize w5.heap.size=bc at *;go_loopw [85] (fun _ wr=>∃ rem:List (R2 × RV),Rng Tryz.prog 121 r2V rvV wr b1 nR lr rem/\(∀ x∈lr,x∈rem\/x.2.1.pnamed (refsOf ts) x.1.t=true)/\(∀ x∈rem,x∈lr)/\Below w6.heap.size w6 wr) (fun _ wr=>wr.rangeLeft b1 nR)
     case atStart=>exact⟨lr,HRG0.out,fun x hx => .inl hx,fun x hx=>hx,HBR.out⟩
     case round =>
      obtain⟨rem,hRg,hall,hsub,hbel⟩:=hrel;have HALL:=h! hall;have HSUB:=h! hsub;have HBL:=h! hbel;clear HRG0 HBR hall hsub hbel;go_wp2_with (at_next;go_must (refine wpList_mp_next _ rfl _ rfl rfl hRg ?_ ?_))
      ·intro hrem;subst hrem
       have HF:=h! (show g=0 from by
        rw[HG4.out,if_pos];refine(names_all HP.out HU.out).1 fun x hx=>?_;rw[<- HLP.out]at hx;obtain⟨y,hy,rfl⟩:=List.mem_map.1 hx;rcases HALL.out y hy with h | h
        ·cases h
        ·exact h)
       have HBE:=h! (HB6.out.trans (HBL.out.mono HB6.out.size));clear hRg;go_wp2_with fail
       go_ret
       exact⟨by rw[HF.out];rfl,HBE.out⟩
      ·rintro pre ⟨kt,kr⟩ p pv post w7 hrem hRg2 hk2 hs2 hen;have hum:((⟨kt,kr⟩,(p,pv)):R2 × RV)∈lr:=HSUB.out _ (by rw[hrem];simp);have hup:(⟨⟨kt,kr⟩,p⟩:R2 × RT)∈refsOf ts:=by rw[<- HLP.out];exact List.mem_map.2 ⟨_,hum,rfl⟩
       obtain⟨t,ht,r,hr,he⟩:=refs_mem.1 hup;have hok1:=HOK.out t ht;have hok2:=hok1.2 r hr;have hkt:kt.size<=maxLen:=by injection he with e1 e2;injection e1 with e3 e4;rw[e3];have:=hok1.1;unfold maxLen;omega
       have hpo:p.Ok:=by injection he with e1 e2;rw[e2];exact hok2.2
       have hb7:Below w6.heap.size w6 w7:=HBL.out.trans (Kept.below hk2 fun x hx=>by have:=HNRL.out;show x≠nR;omega);have hat7:=(HLA.out _ hum).up hb7;dsimp only at hat7;obtain⟨ao3,c3',rfl,-⟩:=hat7.rows;have HB7:=h! hb7;obtain⟨w8,hw8⟩:∃ x,x=w7.alloc (.cells #[.string kt,.string kr] 121):=⟨_,rfl⟩;obtain⟨w9,hw9⟩:∃ x,x=w8.alloc (.cells #[.int .i64 p.k,.string p.a,.string p.b,.slice ao3 p.ps.length c3'] 106):=⟨_,rfl⟩;have e8:w8.heap.size=w7.heap.size+1:=by rw[hw8];simp
       have x78:Ext w7 w8:=by rw[hw8];exact Ext.alloc _ _
       have x89:Ext w8 w9:=by rw[hw9];exact Ext.alloc _ _
       have k9:=(show Blk w9 w7.heap.size #[.string kt,.string kr] 121 from Blk.below (by rw[hw8];exact Blk.made _ _ _) x89).cells;have r9:=(show Blk w9 (w7.heap.size+1) #[.int .i64 p.k,.string p.a,.string p.b,.slice ao3 p.ps.length c3'] 106 from by rw[hw9,<- e8];exact Blk.made _ _ _).cells;have HB9:=h! (show Below w6.heap.size w6 w9 from hb7.trans ((x78.trans x89).mono hb7.size));have b9:=(HBC.out.below HB9.out).cells;have HNM:=h! (pnamed_any kt hkt p _ w9 (HBK.out.up HB9.out) (hat7.up (x78.trans x89)) hpo);have HRG9:=h! (hRg2.below (x78.trans x89));have HREM:=h! hrem;have hrl:wr.rangeLeft b1 nR=rem.length:=hRg.left_eq;have HRL:=h! hrl;unfold r2V rvV rV at hen;unfold rV at HNM;dsimp only at hen;subst hw9 hw8;clear hum hup ht hr he hok1 hok2 hkt hpo hb7 hat7 e8 x78 x89 hRg2 hRg hk2 hs2 hrl;cases hpn:p.pnamed (refsOf ts) kt with
       | false =>
        rw[hpn]at HNM
        have HF:=h! (show g=2 from by
         rw[HG4.out,if_neg];intro h;have h1:=(names_all HP.out HU.out).2 h (⟨kt,kr⟩,p) (by rw[<- HLP.out];exact List.mem_map.2 ⟨((⟨kt,kr⟩,(p,.slice ao3 p.ps.length c3')):R2 × RV),HSUB.out _ (by rw[hrem];simp),rfl⟩);dsimp only at h1;rw[hpn]at h1;cases h1)
        clear hrem hpn;go_wp2_with fail
        refine HNM.out.mono ?_;rintro e wa ⟨rfl,hba⟩;have HBE:=h! (HB6.out.trans ((HB9.out.trans (hba.mono HB9.out.size)).mono HB6.out.size));clear HNM hba k9 r9 b9 hen;go_wp2_with fail
        go_ret
        exact⟨by rw[HF.out];rfl,HBE.out⟩
       | true =>
        rw[hpn]at HNM;have HPN:=h! hpn;clear hrem hpn;go_wp2_with fail
        refine HNM.out.mono ?_;rintro e wa ⟨rfl,hba⟩;have hRa:=HRG9.out.below hba;have HRA:=h! hRa;have HBE:=h! (HB9.out.trans (hba.mono HB9.out.size));clear HNM hba k9 r9 b9 hen hRa;go_wp2_with fail
        go_roundw
        case rel =>
         refine⟨pre++post,HRA.out,fun x hx=>?_,fun x hx=>HSUB.out x (by rw[HREM.out];rcases List.mem_append.1 hx with h | h <;> simp[h]),HBE.out⟩;rcases HALL.out x hx with h | h
         ·rw[HREM.out]at h;rcases List.mem_append.1 h with h | h
          ·exact .inl (List.mem_append_left _ h)
          ·rcases List.mem_cons.1 h with rfl | h
           ·exact .inr HPN.out
           ·exact .inl (List.mem_append_right _ h)
         ·exact .inr h
        case measure=>rw[HRA.out.left_eq,HRL.out,HREM.out];simp
end Go.Proofs.YtlhaghoajpglaaaGreat
