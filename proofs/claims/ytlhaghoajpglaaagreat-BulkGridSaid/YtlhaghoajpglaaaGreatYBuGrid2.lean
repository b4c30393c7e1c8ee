/- Lemmas for the claim, no condition. -/
import Derived.Test.YtlhaghoajpglaaaGreatYBuGrid1
import Derived.Test.YtlhaghoajpglaaaGreatYBuGrid0
set_option maxRecDepth 100000
set_option maxHeartbeats 8000000
namespace Go.Proofs.YtlhaghoajpglaaaGreat
open Go Go.RowKit
theorem wrule_gbad5 {B wb:Nat} {add:ByteArray} {wt:Nat} {text:ByteArray} {w:World} (ra rb:ByteArray)(n:Nat)(ao:Option Addr)(c:Nat)(d:Int)(h:WrB w B wb text false)(hBw:B<=w.heap.size)(hbad:¬ (ra.size=0/\rb.size=0/\2<=n)) :
  Calls Tryz.prog 190 #[.pointer (some ⟨wb,0,none⟩),.agg #[.int .i64 5,.string ra,.string rb,.slice ao n c],.int .i64 d] w (WRes B wb w text (false) (add) (wt)):=by
 have HW0:=h! h;have HB:=h! h.1;have HBW:=h! hBw;have HNE:=h! (show w.heap.size≠wb from by have:=h.lt;omega);clear h hBw;by_cases h0:n=0
 ·subst h0;clear hbad;have HX:=h! (Blk.made w #[.int .i64 5,.string ra,.string rb,.slice ao 0 c] 106);have HX1:=h! (HX.out.other (a:=⟨wb,2,none⟩) HNE.out (.bool true));have HX2:=h! (HX1.out.other (a:=⟨wb,2,none⟩) HNE.out (.bool true));have HW1:=h! ((HW0.out.up ((Below.refl _ w).alloc (Nat.le_refl _) (.cells #[.int .i64 5,.string ra,.string rb,.slice ao 0 c] 106))).flag true);have HW2:=h! (HW1.out.flag true);have HK2:=h! (WKept.next (WKept.next (WKept.of ((Below.refl _ w).alloc (Nat.le_refl _) (.cells #[.int .i64 5,.string ra,.string rb,.slice ao 0 c] 106)) HBW.out) (WKept.flag (b:=wb) HB.out (.bool true))) (WKept.flag (b:=wb) HB.out (.bool true)));have x0:=HX.out.cells;have x1:=HX1.out.cells;have x2:=HX2.out.cells;obtain⟨e0,f0⟩:=(HW0.out.up ((Below.refl _ w).alloc (Nat.le_refl _) (.cells #[.int .i64 5,.string ra,.string rb,.slice ao 0 c] 106))).odd2;obtain⟨e1,f1⟩:=HW1.out.odd2;obtain⟨e2,f2⟩:=HW2.out.odd2;go_enter Tryz.func190,Tryz.ntmps190
  go_wp2_with fail
  (try simp only[Exit.inBlock,Exit.then])
  refine bodyPost_ret (results_none rfl _ _ _) rfl ?_;exact WRes.bad HW2.out HK2.out
 by_cases h1:n=1
 ·subst h1;clear hbad h0;have HX:=h! (Blk.made w #[.int .i64 5,.string ra,.string rb,.slice ao 1 c] 106);have HX1:=h! (HX.out.other (a:=⟨wb,2,none⟩) HNE.out (.bool true));have HX2:=h! (HX1.out.other (a:=⟨wb,2,none⟩) HNE.out (.bool true));have HW1:=h! ((HW0.out.up ((Below.refl _ w).alloc (Nat.le_refl _) (.cells #[.int .i64 5,.string ra,.string rb,.slice ao 1 c] 106))).flag true);have HW2:=h! (HW1.out.flag true);have HK2:=h! (WKept.next (WKept.next (WKept.of ((Below.refl _ w).alloc (Nat.le_refl _) (.cells #[.int .i64 5,.string ra,.string rb,.slice ao 1 c] 106)) HBW.out) (WKept.flag (b:=wb) HB.out (.bool true))) (WKept.flag (b:=wb) HB.out (.bool true)));have x0:=HX.out.cells;have x1:=HX1.out.cells;have x2:=HX2.out.cells;obtain⟨e0,f0⟩:=(HW0.out.up ((Below.refl _ w).alloc (Nat.le_refl _) (.cells #[.int .i64 5,.string ra,.string rb,.slice ao 1 c] 106))).odd2;obtain⟨e1,f1⟩:=HW1.out.odd2;obtain⟨e2,f2⟩:=HW2.out.odd2;go_enter Tryz.func190,Tryz.ntmps190
  go_wp2_with fail
  (try simp only[Exit.inBlock,Exit.then])
  refine bodyPost_ret (results_none rfl _ _ _) rfl ?_;exact WRes.bad HW2.out HK2.out
 have hpI:(0:Int)<(n:Int):=by omega
 have hl2:¬ ((n:Int)<2):=by omega
 by_cases hnrb:rb.size=0
 ·obtain rfl:=ba_size_eq hnrb;clear hnrb;by_cases hnra:ra.size=0
  ·obtain rfl:=ba_size_eq hnra;clear hnra;exact absurd ⟨rfl,rfl,by omega⟩ hbad
  ·have hnera:=ba_size_ne hnra;clear hbad hnra h0 h1;have HX:=h! (Blk.made w #[.int .i64 5,.string ra,.string ⟨#[]⟩,.slice ao n c] 106);have HX1:=h! (HX.out.other (a:=⟨wb,2,none⟩) HNE.out (.bool false));have HX2:=h! (HX1.out.other (a:=⟨wb,2,none⟩) HNE.out (.bool true));have HW1:=h! ((HW0.out.up ((Below.refl _ w).alloc (Nat.le_refl _) (.cells #[.int .i64 5,.string ra,.string ⟨#[]⟩,.slice ao n c] 106))).flag false);have HW2:=h! (HW1.out.flag true);have HK2:=h! (WKept.next (WKept.next (WKept.of ((Below.refl _ w).alloc (Nat.le_refl _) (.cells #[.int .i64 5,.string ra,.string ⟨#[]⟩,.slice ao n c] 106)) HBW.out) (WKept.flag (b:=wb) HB.out (.bool false))) (WKept.flag (b:=wb) HB.out (.bool true)));have x0:=HX.out.cells;have x1:=HX1.out.cells;have x2:=HX2.out.cells;obtain⟨e0,f0⟩:=(HW0.out.up ((Below.refl _ w).alloc (Nat.le_refl _) (.cells #[.int .i64 5,.string ra,.string ⟨#[]⟩,.slice ao n c] 106))).odd2;obtain⟨e1,f1⟩:=HW1.out.odd2;obtain⟨e2,f2⟩:=HW2.out.odd2;go_enter Tryz.func190,Tryz.ntmps190
   go_wp2_with fail
   (try simp only[Exit.inBlock,Exit.then])
   refine bodyPost_ret (results_none rfl _ _ _) rfl ?_;exact WRes.bad HW2.out HK2.out
 ·have hnerb:=ba_size_ne hnrb;clear hbad hnrb h0 h1;have HX:=h! (Blk.made w #[.int .i64 5,.string ra,.string rb,.slice ao n c] 106);have HX1:=h! (HX.out.other (a:=⟨wb,2,none⟩) HNE.out (.bool false));have HX2:=h! (HX1.out.other (a:=⟨wb,2,none⟩) HNE.out (.bool true));have HW1:=h! ((HW0.out.up ((Below.refl _ w).alloc (Nat.le_refl _) (.cells #[.int .i64 5,.string ra,.string rb,.slice ao n c] 106))).flag false);have HW2:=h! (HW1.out.flag true);have HK2:=h! (WKept.next (WKept.next (WKept.of ((Below.refl _ w).alloc (Nat.le_refl _) (.cells #[.int .i64 5,.string ra,.string rb,.slice ao n c] 106)) HBW.out) (WKept.flag (b:=wb) HB.out (.bool false))) (WKept.flag (b:=wb) HB.out (.bool true)));have x0:=HX.out.cells;have x1:=HX1.out.cells;have x2:=HX2.out.cells;obtain⟨e0,f0⟩:=(HW0.out.up ((Below.refl _ w).alloc (Nat.le_refl _) (.cells #[.int .i64 5,.string ra,.string rb,.slice ao n c] 106))).odd2;obtain⟨e1,f1⟩:=HW1.out.odd2;obtain⟨e2,f2⟩:=HW2.out.odd2;go_enter Tryz.func190,Tryz.ntmps190
  go_wp2_with fail
  (try simp only[Exit.inBlock,Exit.then])
  refine bodyPost_ret (results_none rfl _ _ _) rfl ?_;exact WRes.bad HW2.out HK2.out
theorem wrule_g5 {B wb:Nat} {text:ByteArray} {w:World} (ps:List RT)(d:Nat)(hd:d<=8)(pv:Value)(h:WrB w B wb text false)(hBw:B<=w.heap.size)(hat:RTAt (· < B) w (.mk 5 ⟨#[]⟩ ⟨#[]⟩ ps) pv)(hpos:0<text.size)(hlim:text.size+wtL ps<=1099511627776)(h2:2<=ps.length)
  (ih:∀ p∈ps,∀ (pv:Value) (d:Nat) (w:World) (text:ByteArray),RTAt (· < B) w p pv->text.size+p.wt<=1099511627776->0<text.size->d<=8->WrB w B wb text false->B<=w.heap.size->Calls Tryz.prog 190 #[.pointer (some ⟨wb,0,none⟩),rV p pv,.int .i64 d] w (WRes B wb w text (p.textOk d) p.text p.wt)) :
  Calls Tryz.prog 190 #[.pointer (some ⟨wb,0,none⟩),rV (.mk 5 ⟨#[]⟩ ⟨#[]⟩ ps) pv,.int .i64 d] w (WRes B wb w text (ps.all (goodP 5 d)) (joinT 5 ps) (wtL ps)):=by
 have HAT:=h! hat;obtain⟨ao,c,rfl,-⟩:=hat.rows;have IH:=h! ih;have HPOS:=h! hpos;have HD:=h! hd;have HLIM:=h! hlim;unfold rV;dsimp only[RT.k,RT.a,RT.b,RT.ps]at HAT ⊢;have hpI:(0:Int)<(ps.length:Int):=by omega
 have hl2:¬ ((ps.length:Int)<2):=by omega
 clear hat ih hpos hlim h2 hd;have HW0:=h! h;have HB:=h! h.1;have HBW:=h! hBw;have HNE:=h! (show w.heap.size≠wb from by have:=h.lt;omega);clear h hBw;have HX:=h! (Blk.made w #[.int .i64 5,.string ⟨#[]⟩,.string ⟨#[]⟩,.slice ao ps.length c] 106);have HX1:=h! (HX.out.other (a:=⟨wb,2,none⟩) HNE.out (.bool false));have HX2:=h! (HX1.out.other (a:=⟨wb,2,none⟩) HNE.out (.bool false));have HW1:=h! ((HW0.out.up ((Below.refl _ w).alloc (Nat.le_refl _) (.cells #[.int .i64 5,.string ⟨#[]⟩,.string ⟨#[]⟩,.slice ao ps.length c] 106))).flag false);have HW2:=h! (HW1.out.flag false);have HK2:=h! (WKept.next (WKept.next (WKept.of ((Below.refl _ w).alloc (Nat.le_refl _) (.cells #[.int .i64 5,.string ⟨#[]⟩,.string ⟨#[]⟩,.slice ao ps.length c] 106)) HBW.out) (WKept.flag (b:=wb) HB.out (.bool false))) (WKept.flag (b:=wb) HB.out (.bool false)));have x0:=HX.out.cells;have x1:=HX1.out.cells;have x2:=HX2.out.cells;obtain⟨e0,f0⟩:=(HW0.out.up ((Below.refl _ w).alloc (Nat.le_refl _) (.cells #[.int .i64 5,.string ⟨#[]⟩,.string ⟨#[]⟩,.slice ao ps.length c] 106))).odd2;obtain⟨e1,f1⟩:=HW1.out.odd2;obtain⟨e2,f2⟩:=HW2.out.odd2;go_enter Tryz.func190,Tryz.ntmps190
 go_wp2_with fail
 obtain⟨w3,hw3⟩:∃ w3,w3=((w.alloc (.cells #[.int .i64 5,.string ⟨#[]⟩,.string ⟨#[]⟩,.slice ao ps.length c] 106)).setCell ⟨wb,2,none⟩ (.bool false)).setCell ⟨wb,2,none⟩ (.bool false):=⟨_,rfl⟩;rw[<- hw3]at HX2 HW2 HK2 ⊢;clear hw3 HX HX1 HW1 x0 x1 x2 e0 e1 e2 f0 f1 f2;have HB3:=h! (Nat.le_trans HBW.out HK2.out.size);have HR:=h! (wparts_5 ps d HD.out _ HW2.out HB3.out (HAT.out.same (Same.below HK2.out.below)) HPOS.out HLIM.out IH.out);unfold rV at HR;dsimp only[RT.k,RT.a,RT.b]at HR;refine HR.out.mono ?_;rintro e w4 ⟨rfl,t4,hw4,hs1,hs2,hadd,hk4⟩;have HRS:=h! (show WRes B wb w text (ps.all (goodP 5 d)) (joinT 5 ps) (wtL ps) (.returned (.tuple #[])) w4 from⟨rfl,t4,hw4,hs1,hs2,hadd,WKept.next HK2.out hk4⟩);clear HR hw4 hs1 hs2 hadd hk4;go_wp2_with fail
 go_end0
 exact HRS.out
theorem wrule_1 {B wb:Nat} {text:ByteArray} {w:World} (ra rb:ByteArray)(n:Nat)(ao:Option Addr)(c:Nat)(d:Int)(h:WrB w B wb text false)(hBw:B<=w.heap.size)(hpos:0<text.size)(hlim:text.size+(10+ra.size+rb.size)<=1099511627776) :
  Calls Tryz.prog 190 #[.pointer (some ⟨wb,0,none⟩),.agg #[.int .i64 1,.string ra,.string rb,.slice ao n c],.int .i64 d] w (WRes B wb w text (decide (ra.size=0)&&decide (rb.size=0)&&decide (n=0)) (⟨#[116,104,105,115]⟩) (10+ra.size+rb.size)):=by
 have HW0:=h! h;have HB:=h! h.1;have HBW:=h! hBw;have HNE:=h! (show w.heap.size≠wb from by have:=h.lt;omega);clear h hBw;have HPOS:=h! hpos;have HLIM:=h! hlim;clear hpos hlim;by_cases hlp:0<n
 ·have hpI:(0:Int)<(n:Int):=by omega
  have HOK:=h! (show(decide ((ra:ByteArray).size=0)&&decide ((rb:ByteArray).size=0)&&decide (n=0))=false from by
   have hlz:n≠0:=by omega
   simp[hlz])
  rw[HOK.out];clear hlp HOK;have HX:=h! (Blk.made w #[.int .i64 1,.string ra,.string rb,.slice ao n c] 106);have HX1:=h! (HX.out.other (a:=⟨wb,2,none⟩) HNE.out (.bool true));have HX2:=h! (HX1.out.other (a:=⟨wb,2,none⟩) HNE.out (.bool true));have HW1:=h! ((HW0.out.up ((Below.refl _ w).alloc (Nat.le_refl _) (.cells #[.int .i64 1,.string ra,.string rb,.slice ao n c] 106))).flag true);have HW2:=h! (HW1.out.flag true);have HK2:=h! (WKept.next (WKept.next (WKept.of ((Below.refl _ w).alloc (Nat.le_refl _) (.cells #[.int .i64 1,.string ra,.string rb,.slice ao n c] 106)) HBW.out) (WKept.flag (b:=wb) HB.out (.bool true))) (WKept.flag (b:=wb) HB.out (.bool true)));have x0:=HX.out.cells;have x1:=HX1.out.cells;have x2:=HX2.out.cells;obtain⟨e0,f0⟩:=(HW0.out.up ((Below.refl _ w).alloc (Nat.le_refl _) (.cells #[.int .i64 1,.string ra,.string rb,.slice ao n c] 106))).odd2;obtain⟨e1,f1⟩:=HW1.out.odd2;obtain⟨e2,f2⟩:=HW2.out.odd2;go_enter Tryz.func190,Tryz.ntmps190
  go_wp2_with fail
  (try simp only[Exit.inBlock,Exit.then])
  refine bodyPost_ret (results_none rfl _ _ _) rfl ?_;exact WRes.bad HW2.out HK2.out
 ·obtain rfl:n=0:=by omega
  clear hlp;by_cases hnrb:rb.size=0
  ·obtain rfl:=ba_size_eq hnrb;clear hnrb;by_cases hnra:ra.size=0
   ·obtain rfl:=ba_size_eq hnra;clear hnra;rw[show(decide ((⟨#[]⟩:ByteArray).size=0)&&decide ((⟨#[]⟩:ByteArray).size=0)&&decide (0=0))=true from rfl];have HX:=h! (Blk.made w #[.int .i64 1,.string ⟨#[]⟩,.string ⟨#[]⟩,.slice ao 0 c] 106);have HX1:=h! (HX.out.other (a:=⟨wb,2,none⟩) HNE.out (.bool false));have HX2:=h! (HX1.out.other (a:=⟨wb,2,none⟩) HNE.out (.bool false));have HW1:=h! ((HW0.out.up ((Below.refl _ w).alloc (Nat.le_refl _) (.cells #[.int .i64 1,.string ⟨#[]⟩,.string ⟨#[]⟩,.slice ao 0 c] 106))).flag false);have HW2:=h! (HW1.out.flag false);have HK2:=h! (WKept.next (WKept.next (WKept.of ((Below.refl _ w).alloc (Nat.le_refl _) (.cells #[.int .i64 1,.string ⟨#[]⟩,.string ⟨#[]⟩,.slice ao 0 c] 106)) HBW.out) (WKept.flag (b:=wb) HB.out (.bool false))) (WKept.flag (b:=wb) HB.out (.bool false)));have x0:=HX.out.cells;have x1:=HX1.out.cells;have x2:=HX2.out.cells;obtain⟨e0,f0⟩:=(HW0.out.up ((Below.refl _ w).alloc (Nat.le_refl _) (.cells #[.int .i64 1,.string ⟨#[]⟩,.string ⟨#[]⟩,.slice ao 0 c] 106))).odd2;obtain⟨e1,f1⟩:=HW1.out.odd2;obtain⟨e2,f2⟩:=HW2.out.odd2;go_enter Tryz.func190,Tryz.ntmps190
    go_wp2_with fail
    obtain⟨w3,hw3⟩:∃ w3,w3=((w.alloc (.cells #[.int .i64 1,.string ⟨#[]⟩,.string ⟨#[]⟩,.slice ao 0 c] 106)).setCell ⟨wb,2,none⟩ (.bool false)).setCell ⟨wb,2,none⟩ (.bool false):=⟨_,rfl⟩;rw[<- hw3]at HX2 HW2 HK2 ⊢;clear hw3 HX HX1 HW1 x0 x1 x2 e0 e1 e2 f0 f1 f2;have HB3:=h! (Nat.le_trans HBW.out HK2.out.size);have HS:=h! (writeString_any ⟨#[116,104,105,115]⟩ HW2.out (by have:=HLIM.out;show _+4<=_;omega) (by have:=HPOS.out;omega) HB3.out);refine HS.out.mono ?_;rintro e w4 ⟨rfl,hw4,hk4⟩;have HW4:=h! hw4;have HK4:=h! (WKept.next HK2.out hk4);clear HS hw4 hk4;go_wp2_with fail
    go_end0
    exact⟨rfl,_,HW4.out,by rw[ByteArray.size_append];omega,(by rw[ByteArray.size_append];show _+4<=_;omega),fun _=>rfl,HK4.out⟩
   ·have hnera:=ba_size_ne hnra
    have HOK:=h! (show(decide ((ra:ByteArray).size=0)&&decide ((⟨#[]⟩:ByteArray).size=0)&&decide (0=0))=false from by
     simp[hnra])
    rw[HOK.out];clear hnra HOK;have HX:=h! (Blk.made w #[.int .i64 1,.string ra,.string ⟨#[]⟩,.slice ao 0 c] 106);have HX1:=h! (HX.out.other (a:=⟨wb,2,none⟩) HNE.out (.bool false));have HX2:=h! (HX1.out.other (a:=⟨wb,2,none⟩) HNE.out (.bool true));have HW1:=h! ((HW0.out.up ((Below.refl _ w).alloc (Nat.le_refl _) (.cells #[.int .i64 1,.string ra,.string ⟨#[]⟩,.slice ao 0 c] 106))).flag false);have HW2:=h! (HW1.out.flag true);have HK2:=h! (WKept.next (WKept.next (WKept.of ((Below.refl _ w).alloc (Nat.le_refl _) (.cells #[.int .i64 1,.string ra,.string ⟨#[]⟩,.slice ao 0 c] 106)) HBW.out) (WKept.flag (b:=wb) HB.out (.bool false))) (WKept.flag (b:=wb) HB.out (.bool true)));have x0:=HX.out.cells;have x1:=HX1.out.cells;have x2:=HX2.out.cells;obtain⟨e0,f0⟩:=(HW0.out.up ((Below.refl _ w).alloc (Nat.le_refl _) (.cells #[.int .i64 1,.string ra,.string ⟨#[]⟩,.slice ao 0 c] 106))).odd2;obtain⟨e1,f1⟩:=HW1.out.odd2;obtain⟨e2,f2⟩:=HW2.out.odd2;go_enter Tryz.func190,Tryz.ntmps190
    go_wp2_with fail
    (try simp only[Exit.inBlock,Exit.then])
    refine bodyPost_ret (results_none rfl _ _ _) rfl ?_;exact WRes.bad HW2.out HK2.out
  ·have hnerb:=ba_size_ne hnrb
   have HOK:=h! (show(decide ((ra:ByteArray).size=0)&&decide ((rb:ByteArray).size=0)&&decide (0=0))=false from by
    simp[hnrb])
   rw[HOK.out];clear hnrb HOK;have HX:=h! (Blk.made w #[.int .i64 1,.string ra,.string rb,.slice ao 0 c] 106);have HX1:=h! (HX.out.other (a:=⟨wb,2,none⟩) HNE.out (.bool false));have HX2:=h! (HX1.out.other (a:=⟨wb,2,none⟩) HNE.out (.bool true));have HW1:=h! ((HW0.out.up ((Below.refl _ w).alloc (Nat.le_refl _) (.cells #[.int .i64 1,.string ra,.string rb,.slice ao 0 c] 106))).flag false);have HW2:=h! (HW1.out.flag true);have HK2:=h! (WKept.next (WKept.next (WKept.of ((Below.refl _ w).alloc (Nat.le_refl _) (.cells #[.int .i64 1,.string ra,.string rb,.slice ao 0 c] 106)) HBW.out) (WKept.flag (b:=wb) HB.out (.bool false))) (WKept.flag (b:=wb) HB.out (.bool true)));have x0:=HX.out.cells;have x1:=HX1.out.cells;have x2:=HX2.out.cells;obtain⟨e0,f0⟩:=(HW0.out.up ((Below.refl _ w).alloc (Nat.le_refl _) (.cells #[.int .i64 1,.string ra,.string rb,.slice ao 0 c] 106))).odd2;obtain⟨e1,f1⟩:=HW1.out.odd2;obtain⟨e2,f2⟩:=HW2.out.odd2;go_enter Tryz.func190,Tryz.ntmps190
   go_wp2_with fail
   (try simp only[Exit.inBlock,Exit.then])
   refine bodyPost_ret (results_none rfl _ _ _) rfl ?_;exact WRes.bad HW2.out HK2.out
theorem wrule_2 {B wb:Nat} {text:ByteArray} {w:World} (ra rb:ByteArray)(n:Nat)(ao:Option Addr)(c:Nat)(d:Int)(h:WrB w B wb text false)(hBw:B<=w.heap.size)(hpos:0<text.size)(hlim:text.size+(10+ra.size+rb.size)<=1099511627776) :
  Calls Tryz.prog 190 #[.pointer (some ⟨wb,0,none⟩),.agg #[.int .i64 2,.string ra,.string rb,.slice ao n c],.int .i64 d] w (WRes B wb w text (ownB ra&&decide (rb.size=0)&&decide (n=0)) (ra) (10+ra.size+rb.size)):=by
 have HW0:=h! h;have HB:=h! h.1;have HBW:=h! hBw;have HNE:=h! (show w.heap.size≠wb from by have:=h.lt;omega);clear h hBw;have HPOS:=h! hpos;have HLIM:=h! hlim;clear hpos hlim;by_cases hlp:0<n
 ·have hpI:(0:Int)<(n:Int):=by omega
  have HOK:=h! (show(ownB ra&&decide ((rb:ByteArray).size=0)&&decide (n=0))=false from by
   have hlz:n≠0:=by omega
   simp[hlz])
  rw[HOK.out];clear hlp HOK;have HX:=h! (Blk.made w #[.int .i64 2,.string ra,.string rb,.slice ao n c] 106);have HX1:=h! (HX.out.other (a:=⟨wb,2,none⟩) HNE.out (.bool true));have HX2:=h! (HX1.out.other (a:=⟨wb,2,none⟩) HNE.out (.bool true));have HW1:=h! ((HW0.out.up ((Below.refl _ w).alloc (Nat.le_refl _) (.cells #[.int .i64 2,.string ra,.string rb,.slice ao n c] 106))).flag true);have HW2:=h! (HW1.out.flag true);have HK2:=h! (WKept.next (WKept.next (WKept.of ((Below.refl _ w).alloc (Nat.le_refl _) (.cells #[.int .i64 2,.string ra,.string rb,.slice ao n c] 106)) HBW.out) (WKept.flag (b:=wb) HB.out (.bool true))) (WKept.flag (b:=wb) HB.out (.bool true)));have x0:=HX.out.cells;have x1:=HX1.out.cells;have x2:=HX2.out.cells;obtain⟨e0,f0⟩:=(HW0.out.up ((Below.refl _ w).alloc (Nat.le_refl _) (.cells #[.int .i64 2,.string ra,.string rb,.slice ao n c] 106))).odd2;obtain⟨e1,f1⟩:=HW1.out.odd2;obtain⟨e2,f2⟩:=HW2.out.odd2;go_enter Tryz.func190,Tryz.ntmps190
  go_wp2_with fail
  (try simp only[Exit.inBlock,Exit.then])
  refine bodyPost_ret (results_none rfl _ _ _) rfl ?_;exact WRes.bad HW2.out HK2.out
 ·obtain rfl:n=0:=by omega
  clear hlp;by_cases hnrb:rb.size=0
  ·obtain rfl:=ba_size_eq hnrb;clear hnrb;by_cases hnra:ra.size=0
   ·obtain rfl:=ba_size_eq hnra;clear hnra;rw[show(ownB ⟨#[]⟩&&decide ((⟨#[]⟩:ByteArray).size=0)&&decide (0=0))=ownB ⟨#[]⟩from by cases ownB ⟨#[]⟩ <;> rfl];have HX:=h! (Blk.made w #[.int .i64 2,.string ⟨#[]⟩,.string ⟨#[]⟩,.slice ao 0 c] 106);have HX1:=h! (HX.out.other (a:=⟨wb,2,none⟩) HNE.out (.bool false));have HX2:=h! (HX1.out.other (a:=⟨wb,2,none⟩) HNE.out (.bool false));have HW1:=h! ((HW0.out.up ((Below.refl _ w).alloc (Nat.le_refl _) (.cells #[.int .i64 2,.string ⟨#[]⟩,.string ⟨#[]⟩,.slice ao 0 c] 106))).flag false);have HW2:=h! (HW1.out.flag false);have HK2:=h! (WKept.next (WKept.next (WKept.of ((Below.refl _ w).alloc (Nat.le_refl _) (.cells #[.int .i64 2,.string ⟨#[]⟩,.string ⟨#[]⟩,.slice ao 0 c] 106)) HBW.out) (WKept.flag (b:=wb) HB.out (.bool false))) (WKept.flag (b:=wb) HB.out (.bool false)));have x0:=HX.out.cells;have x1:=HX1.out.cells;have x2:=HX2.out.cells;obtain⟨e0,f0⟩:=(HW0.out.up ((Below.refl _ w).alloc (Nat.le_refl _) (.cells #[.int .i64 2,.string ⟨#[]⟩,.string ⟨#[]⟩,.slice ao 0 c] 106))).odd2;obtain⟨e1,f1⟩:=HW1.out.odd2;obtain⟨e2,f2⟩:=HW2.out.odd2;go_enter Tryz.func190,Tryz.ntmps190
    go_wp2_with fail
    obtain⟨w3,hw3⟩:∃ w3,w3=((w.alloc (.cells #[.int .i64 2,.string ⟨#[]⟩,.string ⟨#[]⟩,.slice ao 0 c] 106)).setCell ⟨wb,2,none⟩ (.bool false)).setCell ⟨wb,2,none⟩ (.bool false):=⟨_,rfl⟩;rw[<- hw3]at HX2 HW2 HK2 ⊢;clear hw3 HX HX1 HW1 x0 x1 x2 e0 e1 e2 f0 f1 f2;have HB3:=h! (Nat.le_trans HBW.out HK2.out.size);have HS:=h! (wname_any ⟨#[]⟩ HW2.out (by have:=HLIM.out;omega) HPOS.out (by have:=HLIM.out;unfold maxLen;omega) HB3.out);refine HS.out.mono ?_;rintro e w4 ⟨rfl,hw4,hk4⟩;have HW4:=h! hw4;have HK4:=h! (WKept.next HK2.out hk4);clear HS hw4 hk4;go_wp2_with fail
    go_end0
    exact⟨rfl,_,(by have:=HW4.out;rwa[Bool.false_or]at this),by rw[ByteArray.size_append];omega,(by rw[ByteArray.size_append];omega),fun _=>rfl,HK4.out⟩
   ·have hnera:=ba_size_ne hnra;clear hnra;rw[show(ownB ra&&decide ((⟨#[]⟩:ByteArray).size=0)&&decide (0=0))=ownB ra from by cases ownB ra <;> rfl];have HX:=h! (Blk.made w #[.int .i64 2,.string ra,.string ⟨#[]⟩,.slice ao 0 c] 106);have HX1:=h! (HX.out.other (a:=⟨wb,2,none⟩) HNE.out (.bool false));have HX2:=h! (HX1.out.other (a:=⟨wb,2,none⟩) HNE.out (.bool false));have HW1:=h! ((HW0.out.up ((Below.refl _ w).alloc (Nat.le_refl _) (.cells #[.int .i64 2,.string ra,.string ⟨#[]⟩,.slice ao 0 c] 106))).flag false);have HW2:=h! (HW1.out.flag false);have HK2:=h! (WKept.next (WKept.next (WKept.of ((Below.refl _ w).alloc (Nat.le_refl _) (.cells #[.int .i64 2,.string ra,.string ⟨#[]⟩,.slice ao 0 c] 106)) HBW.out) (WKept.flag (b:=wb) HB.out (.bool false))) (WKept.flag (b:=wb) HB.out (.bool false)));have x0:=HX.out.cells;have x1:=HX1.out.cells;have x2:=HX2.out.cells;obtain⟨e0,f0⟩:=(HW0.out.up ((Below.refl _ w).alloc (Nat.le_refl _) (.cells #[.int .i64 2,.string ra,.string ⟨#[]⟩,.slice ao 0 c] 106))).odd2;obtain⟨e1,f1⟩:=HW1.out.odd2;obtain⟨e2,f2⟩:=HW2.out.odd2;go_enter Tryz.func190,Tryz.ntmps190
    go_wp2_with fail
    obtain⟨w3,hw3⟩:∃ w3,w3=((w.alloc (.cells #[.int .i64 2,.string ra,.string ⟨#[]⟩,.slice ao 0 c] 106)).setCell ⟨wb,2,none⟩ (.bool false)).setCell ⟨wb,2,none⟩ (.bool false):=⟨_,rfl⟩;rw[<- hw3]at HX2 HW2 HK2 ⊢;clear hw3 HX HX1 HW1 x0 x1 x2 e0 e1 e2 f0 f1 f2;have HB3:=h! (Nat.le_trans HBW.out HK2.out.size);have HS:=h! (wname_any ra HW2.out (by have:=HLIM.out;omega) HPOS.out (by have:=HLIM.out;unfold maxLen;omega) HB3.out);refine HS.out.mono ?_;rintro e w4 ⟨rfl,hw4,hk4⟩;have HW4:=h! hw4;have HK4:=h! (WKept.next HK2.out hk4);clear HS hw4 hk4;go_wp2_with fail
    go_end0
    exact⟨rfl,_,(by have:=HW4.out;rwa[Bool.false_or]at this),by rw[ByteArray.size_append];omega,(by rw[ByteArray.size_append];omega),fun _=>rfl,HK4.out⟩
  ·have hnerb:=ba_size_ne hnrb
   have HOK:=h! (show(ownB ra&&decide ((rb:ByteArray).size=0)&&decide (0=0))=false from by
    simp[hnrb])
   rw[HOK.out];clear hnrb HOK;have HX:=h! (Blk.made w #[.int .i64 2,.string ra,.string rb,.slice ao 0 c] 106);have HX1:=h! (HX.out.other (a:=⟨wb,2,none⟩) HNE.out (.bool false));have HX2:=h! (HX1.out.other (a:=⟨wb,2,none⟩) HNE.out (.bool true));have HW1:=h! ((HW0.out.up ((Below.refl _ w).alloc (Nat.le_refl _) (.cells #[.int .i64 2,.string ra,.string rb,.slice ao 0 c] 106))).flag false);have HW2:=h! (HW1.out.flag true);have HK2:=h! (WKept.next (WKept.next (WKept.of ((Below.refl _ w).alloc (Nat.le_refl _) (.cells #[.int .i64 2,.string ra,.string rb,.slice ao 0 c] 106)) HBW.out) (WKept.flag (b:=wb) HB.out (.bool false))) (WKept.flag (b:=wb) HB.out (.bool true)));have x0:=HX.out.cells;have x1:=HX1.out.cells;have x2:=HX2.out.cells;obtain⟨e0,f0⟩:=(HW0.out.up ((Below.refl _ w).alloc (Nat.le_refl _) (.cells #[.int .i64 2,.string ra,.string rb,.slice ao 0 c] 106))).odd2;obtain⟨e1,f1⟩:=HW1.out.odd2;obtain⟨e2,f2⟩:=HW2.out.odd2;go_enter Tryz.func190,Tryz.ntmps190
   go_wp2_with fail
   (try simp only[Exit.inBlock,Exit.then])
   refine bodyPost_ret (results_none rfl _ _ _) rfl ?_;exact WRes.bad HW2.out HK2.out
theorem wrule_3 {B wb:Nat} {text:ByteArray} {w:World} (ra rb:ByteArray)(n:Nat)(ao:Option Addr)(c:Nat)(d:Int)(h:WrB w B wb text false)(hBw:B<=w.heap.size)(hpos:0<text.size)(hlim:text.size+(10+ra.size+rb.size)<=1099511627776) :
  Calls Tryz.prog 190 #[.pointer (some ⟨wb,0,none⟩),.agg #[.int .i64 3,.string ra,.string rb,.slice ao n c],.int .i64 d] w (WRes B wb w text (ownB ra&&ownB rb&&decide (n=0)) ((ra++⟨#[45,62]⟩)++rb) (10+ra.size+rb.size)):=by
 have HW0:=h! h;have HB:=h! h.1;have HBW:=h! hBw;have HNE:=h! (show w.heap.size≠wb from by have:=h.lt;omega);clear h hBw;have HPOS:=h! hpos;have HLIM:=h! hlim;clear hpos hlim;by_cases hlp:0<n
 ·have hpI:(0:Int)<(n:Int):=by omega
  have HOK:=h! (show(ownB ra&&ownB rb&&decide (n=0))=false from by
   have hlz:n≠0:=by omega
   simp[hlz])
  rw[HOK.out];clear hlp HOK;have HX:=h! (Blk.made w #[.int .i64 3,.string ra,.string rb,.slice ao n c] 106);have HX1:=h! (HX.out.other (a:=⟨wb,2,none⟩) HNE.out (.bool true));have HX2:=h! (HX1.out.other (a:=⟨wb,2,none⟩) HNE.out (.bool true));have HW1:=h! ((HW0.out.up ((Below.refl _ w).alloc (Nat.le_refl _) (.cells #[.int .i64 3,.string ra,.string rb,.slice ao n c] 106))).flag true);have HW2:=h! (HW1.out.flag true);have HK2:=h! (WKept.next (WKept.next (WKept.of ((Below.refl _ w).alloc (Nat.le_refl _) (.cells #[.int .i64 3,.string ra,.string rb,.slice ao n c] 106)) HBW.out) (WKept.flag (b:=wb) HB.out (.bool true))) (WKept.flag (b:=wb) HB.out (.bool true)));have x0:=HX.out.cells;have x1:=HX1.out.cells;have x2:=HX2.out.cells;obtain⟨e0,f0⟩:=(HW0.out.up ((Below.refl _ w).alloc (Nat.le_refl _) (.cells #[.int .i64 3,.string ra,.string rb,.slice ao n c] 106))).odd2;obtain⟨e1,f1⟩:=HW1.out.odd2;obtain⟨e2,f2⟩:=HW2.out.odd2;go_enter Tryz.func190,Tryz.ntmps190
  go_wp2_with fail
  (try simp only[Exit.inBlock,Exit.then])
  refine bodyPost_ret (results_none rfl _ _ _) rfl ?_;exact WRes.bad HW2.out HK2.out
 ·obtain rfl:n=0:=by omega
  clear hlp;by_cases hnrb:rb.size=0
  ·obtain rfl:=ba_size_eq hnrb;clear hnrb;by_cases hnra:ra.size=0
   ·obtain rfl:=ba_size_eq hnra;clear hnra;rw[show(ownB ⟨#[]⟩&&ownB ⟨#[]⟩&&decide (0=0))=(ownB ⟨#[]⟩&&ownB ⟨#[]⟩)from by cases ownB ⟨#[]⟩ <;> cases ownB ⟨#[]⟩ <;> rfl];have HX:=h! (Blk.made w #[.int .i64 3,.string ⟨#[]⟩,.string ⟨#[]⟩,.slice ao 0 c] 106);have HX1:=h! (HX.out.other (a:=⟨wb,2,none⟩) HNE.out (.bool false));have HX2:=h! (HX1.out.other (a:=⟨wb,2,none⟩) HNE.out (.bool false));have HW1:=h! ((HW0.out.up ((Below.refl _ w).alloc (Nat.le_refl _) (.cells #[.int .i64 3,.string ⟨#[]⟩,.string ⟨#[]⟩,.slice ao 0 c] 106))).flag false);have HW2:=h! (HW1.out.flag false);have HK2:=h! (WKept.next (WKept.next (WKept.of ((Below.refl _ w).alloc (Nat.le_refl _) (.cells #[.int .i64 3,.string ⟨#[]⟩,.string ⟨#[]⟩,.slice ao 0 c] 106)) HBW.out) (WKept.flag (b:=wb) HB.out (.bool false))) (WKept.flag (b:=wb) HB.out (.bool false)));have x0:=HX.out.cells;have x1:=HX1.out.cells;have x2:=HX2.out.cells;obtain⟨e0,f0⟩:=(HW0.out.up ((Below.refl _ w).alloc (Nat.le_refl _) (.cells #[.int .i64 3,.string ⟨#[]⟩,.string ⟨#[]⟩,.slice ao 0 c] 106))).odd2;obtain⟨e1,f1⟩:=HW1.out.odd2;obtain⟨e2,f2⟩:=HW2.out.odd2;go_enter Tryz.func190,Tryz.ntmps190
    go_wp2_with fail
    obtain⟨w3,hw3⟩:∃ w3,w3=((w.alloc (.cells #[.int .i64 3,.string ⟨#[]⟩,.string ⟨#[]⟩,.slice ao 0 c] 106)).setCell ⟨wb,2,none⟩ (.bool false)).setCell ⟨wb,2,none⟩ (.bool false):=⟨_,rfl⟩;rw[<- hw3]at HX2 HW2 HK2 ⊢;clear hw3 HX HX1 HW1 x0 x1 x2 e0 e1 e2 f0 f1 f2;have HB3:=h! (Nat.le_trans HBW.out HK2.out.size);have HS:=h! (wname_any ⟨#[]⟩ HW2.out (by have:=HLIM.out;omega) HPOS.out (by have:=HLIM.out;unfold maxLen;omega) HB3.out);refine HS.out.mono ?_;rintro e w4 ⟨rfl,hw4,hk4⟩;rw[Bool.false_or]at hw4;have HK4:=h! (WKept.next HK2.out hk4);have HX4:=h! (hk4.box HX2.out (by decide) HNE.out);have HB4:=h! (Nat.le_trans HBW.out HK4.out.size);have HS2:=h! (writeString_any ⟨#[45,62]⟩ hw4 (by have:=HLIM.out;rw[ByteArray.size_append];show _+2<=_;omega) (by have:=HPOS.out;rw[ByteArray.size_append];omega) HB4.out);clear HS hw4 hk4;go_wp2_with fail
    refine HS2.out.mono ?_;rintro e w5 ⟨rfl,hw5,hk5⟩;have HK5:=h! (WKept.next HK4.out hk5);have HX5:=h! (hk5.box HX4.out (by decide) HNE.out);have x5:=HX5.out.cells;have HB5:=h! (Nat.le_trans HBW.out HK5.out.size);have HS3:=h! (wname_any ⟨#[]⟩ hw5 (by have:=HLIM.out;rw[ByteArray.size_append,ByteArray.size_append];show _+2+_<=_;omega) (by have:=HPOS.out;rw[ByteArray.size_append,ByteArray.size_append];omega) (by have:=HLIM.out;unfold maxLen;omega) HB5.out);clear HS2 hw5 hk5;go_wp2_with fail
    refine HS3.out.mono ?_;rintro e w6 ⟨rfl,hw6,hk6⟩;have HW6:=h! hw6;have HK6:=h! (WKept.next HK5.out hk6);clear HS3 hw6 hk6 x5;go_wp2_with fail
    go_end0
    exact⟨rfl,_,(by have:=HW6.out;rwa[<- Bool.not_and]at this),by simp only[ByteArray.size_append];omega,(by simp only[ByteArray.size_append];show _+_+2+_<=_;omega),fun _=>by simp only[ByteArray.append_assoc],HK6.out⟩
   ·have hnera:=ba_size_ne hnra;clear hnra;rw[show(ownB ra&&ownB ⟨#[]⟩&&decide (0=0))=(ownB ra&&ownB ⟨#[]⟩)from by cases ownB ra <;> cases ownB ⟨#[]⟩ <;> rfl];have HX:=h! (Blk.made w #[.int .i64 3,.string ra,.string ⟨#[]⟩,.slice ao 0 c] 106);have HX1:=h! (HX.out.other (a:=⟨wb,2,none⟩) HNE.out (.bool false));have HX2:=h! (HX1.out.other (a:=⟨wb,2,none⟩) HNE.out (.bool false));have HW1:=h! ((HW0.out.up ((Below.refl _ w).alloc (Nat.le_refl _) (.cells #[.int .i64 3,.string ra,.string ⟨#[]⟩,.slice ao 0 c] 106))).flag false);have HW2:=h! (HW1.out.flag false);have HK2:=h! (WKept.next (WKept.next (WKept.of ((Below.refl _ w).alloc (Nat.le_refl _) (.cells #[.int .i64 3,.string ra,.string ⟨#[]⟩,.slice ao 0 c] 106)) HBW.out) (WKept.flag (b:=wb) HB.out (.bool false))) (WKept.flag (b:=wb) HB.out (.bool false)));have x0:=HX.out.cells;have x1:=HX1.out.cells;have x2:=HX2.out.cells;obtain⟨e0,f0⟩:=(HW0.out.up ((Below.refl _ w).alloc (Nat.le_refl _) (.cells #[.int .i64 3,.string ra,.string ⟨#[]⟩,.slice ao 0 c] 106))).odd2;obtain⟨e1,f1⟩:=HW1.out.odd2;obtain⟨e2,f2⟩:=HW2.out.odd2;go_enter Tryz.func190,Tryz.ntmps190
    go_wp2_with fail
    obtain⟨w3,hw3⟩:∃ w3,w3=((w.alloc (.cells #[.int .i64 3,.string ra,.string ⟨#[]⟩,.slice ao 0 c] 106)).setCell ⟨wb,2,none⟩ (.bool false)).setCell ⟨wb,2,none⟩ (.bool false):=⟨_,rfl⟩;rw[<- hw3]at HX2 HW2 HK2 ⊢;clear hw3 HX HX1 HW1 x0 x1 x2 e0 e1 e2 f0 f1 f2;have HB3:=h! (Nat.le_trans HBW.out HK2.out.size);have HS:=h! (wname_any ra HW2.out (by have:=HLIM.out;omega) HPOS.out (by have:=HLIM.out;unfold maxLen;omega) HB3.out);refine HS.out.mono ?_;rintro e w4 ⟨rfl,hw4,hk4⟩;rw[Bool.false_or]at hw4;have HK4:=h! (WKept.next HK2.out hk4);have HX4:=h! (hk4.box HX2.out (by decide) HNE.out);have HB4:=h! (Nat.le_trans HBW.out HK4.out.size);have HS2:=h! (writeString_any ⟨#[45,62]⟩ hw4 (by have:=HLIM.out;rw[ByteArray.size_append];show _+2<=_;omega) (by have:=HPOS.out;rw[ByteArray.size_append];omega) HB4.out);clear HS hw4 hk4;go_wp2_with fail
    refine HS2.out.mono ?_;rintro e w5 ⟨rfl,hw5,hk5⟩;have HK5:=h! (WKept.next HK4.out hk5);have HX5:=h! (hk5.box HX4.out (by decide) HNE.out);have x5:=HX5.out.cells;have HB5:=h! (Nat.le_trans HBW.out HK5.out.size);have HS3:=h! (wname_any ⟨#[]⟩ hw5 (by have:=HLIM.out;rw[ByteArray.size_append,ByteArray.size_append];show _+2+_<=_;omega) (by have:=HPOS.out;rw[ByteArray.size_append,ByteArray.size_append];omega) (by have:=HLIM.out;unfold maxLen;omega) HB5.out);clear HS2 hw5 hk5;go_wp2_with fail
    refine HS3.out.mono ?_;rintro e w6 ⟨rfl,hw6,hk6⟩;have HW6:=h! hw6;have HK6:=h! (WKept.next HK5.out hk6);clear HS3 hw6 hk6 x5;go_wp2_with fail
    go_end0
    exact⟨rfl,_,(by have:=HW6.out;rwa[<- Bool.not_and]at this),by simp only[ByteArray.size_append];omega,(by simp only[ByteArray.size_append];show _+_+2+_<=_;omega),fun _=>by simp only[ByteArray.append_assoc],HK6.out⟩
  ·have hnerb:=ba_size_ne hnrb;clear hnrb;by_cases hnra:ra.size=0
   ·obtain rfl:=ba_size_eq hnra;clear hnra;rw[show(ownB ⟨#[]⟩&&ownB rb&&decide (0=0))=(ownB ⟨#[]⟩&&ownB rb)from by cases ownB ⟨#[]⟩ <;> cases ownB rb <;> rfl];have HX:=h! (Blk.made w #[.int .i64 3,.string ⟨#[]⟩,.string rb,.slice ao 0 c] 106);have HX1:=h! (HX.out.other (a:=⟨wb,2,none⟩) HNE.out (.bool false));have HX2:=h! (HX1.out.other (a:=⟨wb,2,none⟩) HNE.out (.bool false));have HW1:=h! ((HW0.out.up ((Below.refl _ w).alloc (Nat.le_refl _) (.cells #[.int .i64 3,.string ⟨#[]⟩,.string rb,.slice ao 0 c] 106))).flag false);have HW2:=h! (HW1.out.flag false);have HK2:=h! (WKept.next (WKept.next (WKept.of ((Below.refl _ w).alloc (Nat.le_refl _) (.cells #[.int .i64 3,.string ⟨#[]⟩,.string rb,.slice ao 0 c] 106)) HBW.out) (WKept.flag (b:=wb) HB.out (.bool false))) (WKept.flag (b:=wb) HB.out (.bool false)));have x0:=HX.out.cells;have x1:=HX1.out.cells;have x2:=HX2.out.cells;obtain⟨e0,f0⟩:=(HW0.out.up ((Below.refl _ w).alloc (Nat.le_refl _) (.cells #[.int .i64 3,.string ⟨#[]⟩,.string rb,.slice ao 0 c] 106))).odd2;obtain⟨e1,f1⟩:=HW1.out.odd2;obtain⟨e2,f2⟩:=HW2.out.odd2;go_enter Tryz.func190,Tryz.ntmps190
    go_wp2_with fail
    obtain⟨w3,hw3⟩:∃ w3,w3=((w.alloc (.cells #[.int .i64 3,.string ⟨#[]⟩,.string rb,.slice ao 0 c] 106)).setCell ⟨wb,2,none⟩ (.bool false)).setCell ⟨wb,2,none⟩ (.bool false):=⟨_,rfl⟩;rw[<- hw3]at HX2 HW2 HK2 ⊢;clear hw3 HX HX1 HW1 x0 x1 x2 e0 e1 e2 f0 f1 f2;have HB3:=h! (Nat.le_trans HBW.out HK2.out.size);have HS:=h! (wname_any ⟨#[]⟩ HW2.out (by have:=HLIM.out;omega) HPOS.out (by have:=HLIM.out;unfold maxLen;omega) HB3.out);refine HS.out.mono ?_;rintro e w4 ⟨rfl,hw4,hk4⟩;rw[Bool.false_or]at hw4;have HK4:=h! (WKept.next HK2.out hk4);have HX4:=h! (hk4.box HX2.out (by decide) HNE.out);have HB4:=h! (Nat.le_trans HBW.out HK4.out.size);have HS2:=h! (writeString_any ⟨#[45,62]⟩ hw4 (by have:=HLIM.out;rw[ByteArray.size_append];show _+2<=_;omega) (by have:=HPOS.out;rw[ByteArray.size_append];omega) HB4.out);clear HS hw4 hk4;go_wp2_with fail
    refine HS2.out.mono ?_;rintro e w5 ⟨rfl,hw5,hk5⟩;have HK5:=h! (WKept.next HK4.out hk5);have HX5:=h! (hk5.box HX4.out (by decide) HNE.out);have x5:=HX5.out.cells;have HB5:=h! (Nat.le_trans HBW.out HK5.out.size);have HS3:=h! (wname_any rb hw5 (by have:=HLIM.out;rw[ByteArray.size_append,ByteArray.size_append];show _+2+_<=_;omega) (by have:=HPOS.out;rw[ByteArray.size_append,ByteArray.size_append];omega) (by have:=HLIM.out;unfold maxLen;omega) HB5.out);clear HS2 hw5 hk5;go_wp2_with fail
    refine HS3.out.mono ?_;rintro e w6 ⟨rfl,hw6,hk6⟩;have HW6:=h! hw6;have HK6:=h! (WKept.next HK5.out hk6);clear HS3 hw6 hk6 x5;go_wp2_with fail
    go_end0
    exact⟨rfl,_,(by have:=HW6.out;rwa[<- Bool.not_and]at this),by simp only[ByteArray.size_append];omega,(by simp only[ByteArray.size_append];show _+_+2+_<=_;omega),fun _=>by simp only[ByteArray.append_assoc],HK6.out⟩
   ·have hnera:=ba_size_ne hnra;clear hnra;rw[show(ownB ra&&ownB rb&&decide (0=0))=(ownB ra&&ownB rb)from by cases ownB ra <;> cases ownB rb <;> rfl];have HX:=h! (Blk.made w #[.int .i64 3,.string ra,.string rb,.slice ao 0 c] 106);have HX1:=h! (HX.out.other (a:=⟨wb,2,none⟩) HNE.out (.bool false));have HX2:=h! (HX1.out.other (a:=⟨wb,2,none⟩) HNE.out (.bool false));have HW1:=h! ((HW0.out.up ((Below.refl _ w).alloc (Nat.le_refl _) (.cells #[.int .i64 3,.string ra,.string rb,.slice ao 0 c] 106))).flag false);have HW2:=h! (HW1.out.flag false);have HK2:=h! (WKept.next (WKept.next (WKept.of ((Below.refl _ w).alloc (Nat.le_refl _) (.cells #[.int .i64 3,.string ra,.string rb,.slice ao 0 c] 106)) HBW.out) (WKept.flag (b:=wb) HB.out (.bool false))) (WKept.flag (b:=wb) HB.out (.bool false)));have x0:=HX.out.cells;have x1:=HX1.out.cells;have x2:=HX2.out.cells;obtain⟨e0,f0⟩:=(HW0.out.up ((Below.refl _ w).alloc (Nat.le_refl _) (.cells #[.int .i64 3,.string ra,.string rb,.slice ao 0 c] 106))).odd2;obtain⟨e1,f1⟩:=HW1.out.odd2;obtain⟨e2,f2⟩:=HW2.out.odd2;go_enter Tryz.func190,Tryz.ntmps190
    go_wp2_with fail
    obtain⟨w3,hw3⟩:∃ w3,w3=((w.alloc (.cells #[.int .i64 3,.string ra,.string rb,.slice ao 0 c] 106)).setCell ⟨wb,2,none⟩ (.bool false)).setCell ⟨wb,2,none⟩ (.bool false):=⟨_,rfl⟩;rw[<- hw3]at HX2 HW2 HK2 ⊢;clear hw3 HX HX1 HW1 x0 x1 x2 e0 e1 e2 f0 f1 f2;have HB3:=h! (Nat.le_trans HBW.out HK2.out.size);have HS:=h! (wname_any ra HW2.out (by have:=HLIM.out;omega) HPOS.out (by have:=HLIM.out;unfold maxLen;omega) HB3.out);refine HS.out.mono ?_;rintro e w4 ⟨rfl,hw4,hk4⟩;rw[Bool.false_or]at hw4;have HK4:=h! (WKept.next HK2.out hk4);have HX4:=h! (hk4.box HX2.out (by decide) HNE.out);have HB4:=h! (Nat.le_trans HBW.out HK4.out.size);have HS2:=h! (writeString_any ⟨#[45,62]⟩ hw4 (by have:=HLIM.out;rw[ByteArray.size_append];show _+2<=_;omega) (by have:=HPOS.out;rw[ByteArray.size_append];omega) HB4.out);clear HS hw4 hk4;go_wp2_with fail
    refine HS2.out.mono ?_;rintro e w5 ⟨rfl,hw5,hk5⟩;have HK5:=h! (WKept.next HK4.out hk5);have HX5:=h! (hk5.box HX4.out (by decide) HNE.out);have x5:=HX5.out.cells;have HB5:=h! (Nat.le_trans HBW.out HK5.out.size);have HS3:=h! (wname_any rb hw5 (by have:=HLIM.out;rw[ByteArray.size_append,ByteArray.size_append];show _+2+_<=_;omega) (by have:=HPOS.out;rw[ByteArray.size_append,ByteArray.size_append];omega) (by have:=HLIM.out;unfold maxLen;omega) HB5.out);clear HS2 hw5 hk5;go_wp2_with fail
    refine HS3.out.mono ?_;rintro e w6 ⟨rfl,hw6,hk6⟩;have HW6:=h! hw6;have HK6:=h! (WKept.next HK5.out hk6);clear HS3 hw6 hk6 x5;go_wp2_with fail
    go_end0
    exact⟨rfl,_,(by have:=HW6.out;rwa[<- Bool.not_and]at this),by simp only[ByteArray.size_append];omega,(by simp only[ByteArray.size_append];show _+_+2+_<=_;omega),fun _=>by simp only[ByteArray.append_assoc],HK6.out⟩
def relOk (x:ByteArray × RT):Bool:=x.2.textOk 0&&ownB x.1&&decide (x.1≠⟨#[116,121,112,101]⟩)
def tyOk (t:TyS):Bool:=ownB t.name&&t.rels.all relOk
def prN (b:Bool):Int:=if b then 0 else 9
def printOk (ts:List TyS):Bool:=ts.all tyOk
theorem wrule_any {B wb:Nat} (r:RT):∀ (pv:Value)(d:Nat)(w:World)(text:ByteArray),RTAt (· < B) w r pv->text.size+r.wt<=1099511627776->0<text.size->d<=8->WrB w B wb text false->B<=w.heap.size ->
  Calls Tryz.prog 190 #[.pointer (some ⟨wb,0,none⟩),rV r pv,.int .i64 d] w (WRes B wb w text (r.textOk d) r.text r.wt):=by
 induction r using RT.ind with
 | h r ih =>
 intro pv d w text hat hlim hpos hd hw hbw;have hat0:=hat.rows;obtain⟨k,a,b,ps⟩:=r;dsimp only[RT.ps]at ih hat0;rw[RT.wt]at hlim;obtain⟨ao,c,hpv,-⟩:=hat0;by_cases k1:k=1
 ·subst k1 hpv;refine(wrule_1 a b ps.length ao c d hw hbw hpos (by omega)).mono ?_;rintro e w5 ⟨rfl,t,hwt,hs1,hs2,hadd,hk⟩;exact⟨rfl,t,by rw[RT.textOk];exact hwt,hs1,by rw[RT.wt];omega,fun h=>by rw[RT.textOk]at h;rw[RT.text];exact hadd h,hk⟩
 by_cases k2:k=2
 ·subst k2 hpv;refine(wrule_2 a b ps.length ao c d hw hbw hpos (by omega)).mono ?_;rintro e w5 ⟨rfl,t,hwt,hs1,hs2,hadd,hk⟩;exact⟨rfl,t,by rw[RT.textOk];exact hwt,hs1,by rw[RT.wt];omega,fun h=>by rw[RT.textOk]at h;rw[RT.text];exact hadd h,hk⟩
 by_cases k3:k=3
 ·subst k3 hpv;refine(wrule_3 a b ps.length ao c d hw hbw hpos (by omega)).mono ?_;rintro e w5 ⟨rfl,t,hwt,hs1,hs2,hadd,hk⟩;exact⟨rfl,t,by rw[RT.textOk];exact hwt,hs1,by rw[RT.wt];omega,fun h=>by rw[RT.textOk]at h;rw[RT.text];exact hadd h,hk⟩
 by_cases k4:k=4
 ·subst k4;by_cases hg:a.size=0/\b.size=0/\2<=ps.length
  ·obtain⟨hna,hnb,hl2⟩:=hg;obtain rfl:=ba_size_eq hna;obtain rfl:=ba_size_eq hnb
   have he:(RT.mk 4 ⟨#[]⟩ ⟨#[]⟩ ps).textOk d=ps.all (goodP 4 d):=by
    rw[RT.textOk,textL_eq,decide_eq_true hl2];rfl
   refine(wrule_g4 ps d hd pv hw hbw hat hpos (by omega) hl2 (fun p hp pv d w text h1 h2 h3 h4 h5 h6=>ih p hp pv d w text h1 h2 h3 h4 h5 h6)).mono ?_;rintro e w5 ⟨rfl,t,hwt,hs1,hs2,hadd,hk⟩;exact⟨rfl,t,by rw[he];exact hwt,hs1,by rw[RT.wt];omega,fun h=>by rw[he]at h;rw[RT.text];exact hadd h,hk⟩
  ·have he:(RT.mk 4 a b ps).textOk d=false:=by
    rw[RT.textOk];by_cases h1:a.size=0
    ·by_cases h2:b.size=0
     ·have h3:¬ 2<=ps.length:=fun h3=>hg ⟨h1,h2,h3⟩;simp[h1,h2,h3]
     ·simp[h2]
    ·simp[h1]
   rw[he];subst hpv;exact wrule_gbad4 a b ps.length ao c d hw hbw hg
 by_cases k5:k=5
 ·subst k5;by_cases hg:a.size=0/\b.size=0/\2<=ps.length
  ·obtain⟨hna,hnb,hl2⟩:=hg;obtain rfl:=ba_size_eq hna;obtain rfl:=ba_size_eq hnb
   have he:(RT.mk 5 ⟨#[]⟩ ⟨#[]⟩ ps).textOk d=ps.all (goodP 5 d):=by
    rw[RT.textOk,textL_eq,decide_eq_true hl2];rfl
   refine(wrule_g5 ps d hd pv hw hbw hat hpos (by omega) hl2 (fun p hp pv d w text h1 h2 h3 h4 h5 h6=>ih p hp pv d w text h1 h2 h3 h4 h5 h6)).mono ?_;rintro e w5 ⟨rfl,t,hwt,hs1,hs2,hadd,hk⟩;exact⟨rfl,t,by rw[he];exact hwt,hs1,by rw[RT.wt];omega,fun h=>by rw[he]at h;rw[RT.text];exact hadd h,hk⟩
  ·have he:(RT.mk 5 a b ps).textOk d=false:=by
    rw[RT.textOk];by_cases h1:a.size=0
    ·by_cases h2:b.size=0
     ·have h3:¬ 2<=ps.length:=fun h3=>hg ⟨h1,h2,h3⟩;simp[h1,h2,h3]
     ·simp[h2]
    ·simp[h1]
   rw[he];subst hpv;exact wrule_gbad5 a b ps.length ao c d hw hbw hg
 have he:(RT.mk k a b ps).textOk d=false:=by rw[RT.textOk,if_neg k1,if_neg k2,if_neg k3,if_neg (by omega)]
 rw[he];subst hpv;refine(wrule_k k a b ps.length ao c d hw hbw (by rw[beq_eq_false_iff_ne];exact k1) (by rw[beq_eq_false_iff_ne];exact k2) (by rw[beq_eq_false_iff_ne];exact k3) (by rw[beq_eq_false_iff_ne];exact k4) (by rw[beq_eq_false_iff_ne];exact k5)).mono ?_;rintro e w5 ⟨rfl,t,hwt,hs1,hs2,hadd,hk⟩;exact⟨rfl,t,hwt,hs1,by rw[RT.wt];omega,(fun h=>by cases h),hk⟩
theorem wrule_both {B wb:Nat} (r:RT)(pv:Value)(d:Nat)(w:World)(text:ByteArray)(o:Bool)(hat:RTAt (· < B) w r pv)(hlim:text.size+r.wt<=1099511627776)(hpos:0<text.size)(hd:d<=8)(hw:WrB w B wb text o)(hbw:B<=w.heap.size) :
  Calls Tryz.prog 190 #[.pointer (some ⟨wb,0,none⟩),rV r pv,.int .i64 d] w fun e w'=>e = .returned (.tuple #[])/\∃ text',WrB w' B wb text' (o||!r.textOk d)/\text.size<=text'.size/\text'.size<=text.size+r.wt/\(o=false->r.textOk d=true->text'=text++r.text)/\WKept B wb w w':=by
 cases o with
 | true =>
  obtain⟨ao,c,rfl,-⟩:=hat.rows;refine(wrule_odd r.k r.a r.b r.ps.length ao c d hw hbw).mono ?_;rintro e w5 ⟨rfl,h1,h2⟩;exact⟨rfl,text,h1,Nat.le_refl _,Nat.le_add_right _ _,(fun h=>by cases h),h2⟩
 | false =>
  refine(wrule_any r pv d w text hat hlim hpos hd hw hbw).mono ?_;rintro e w5 ⟨rfl,t,h1,h2,h3,h4,h5⟩;exact⟨rfl,t,by rw[Bool.false_or];exact h1,h2,h3,fun _=>h4,h5⟩
def relT (x:ByteArray × RT):ByteArray:=x.1++⟨#[32,61,32]⟩++x.2.text++⟨#[10]⟩
def relsT:List (ByteArray × RT)->ByteArray | []=>ByteArray.empty | x::l=>relT x++relsT l
def tyT (t:TyS):ByteArray:=⟨#[116,121,112,101,32]⟩++t.name++⟨#[10]⟩++relsT t.rels
def schT:List TyS->ByteArray | []=>ByteArray.empty | t::ts=>tyT t++schT ts
theorem relsT_append (a b:List (ByteArray × RT)):relsT (a++b)=relsT a++relsT b:=by
 induction a with
 | nil=>rw[List.nil_append,relsT,ByteArray.empty_append]
 | cons x a ih=>rw[List.cons_append,relsT,relsT,ih,ByteArray.append_assoc]
theorem schT_append (a b:List TyS):schT (a++b)=schT a++schT b:=by
 induction a with
 | nil=>rw[List.nil_append,schT,ByteArray.empty_append]
 | cons x a ih=>rw[List.cons_append,schT,schT,ih,ByteArray.append_assoc]
def relB:List (ByteArray × RT)->Nat | []=>0 | x::l=>(10+x.1.size+x.2.wt)+relB l
def schB:List TyS->Nat | []=>0 | t::ts=>(10+t.name.size+relB t.rels)+schB ts
theorem relB_append (a b:List (ByteArray × RT)):relB (a++b)=relB a+relB b:=by
 induction a with
 | nil=>simp[relB]
 | cons x a ih=>rw[List.cons_append,relB,relB,ih];omega
theorem schB_append (a b:List TyS):schB (a++b)=schB a+schB b:=by
 induction a with
 | nil=>simp[schB]
 | cons x a ih=>rw[List.cons_append,schB,schB,ih];omega
theorem relB_take {l:List (ByteArray × RT)} {i:Nat} (hi:i<l.length):relB (l.take (i+1))=relB (l.take i)+(10+l[i].1.size+l[i].2.wt):=by
 rw[List.take_succ_eq_append_getElem hi,relB_append];simp[relB]
theorem schB_take {l:List TyS} {i:Nat} (hi:i<l.length):schB (l.take (i+1))=schB (l.take i)+(10+l[i].name.size+relB l[i].rels):=by
 rw[List.take_succ_eq_append_getElem hi,schB_append];simp[schB]
theorem relB_le (l:List (ByteArray × RT))(i:Nat):relB (l.take i)<=relB l:=by
 conv=>rhs;rw[<- List.take_append_drop i l]
 rw[relB_append];omega
theorem schB_le (l:List TyS)(i:Nat):schB (l.take i)<=schB l:=by
 conv=>rhs;rw[<- List.take_append_drop i l]
 rw[schB_append];omega
theorem wprint_any (ts:List TyS)(tv:Value)(w:World)(h:TysAt (· < w.heap.size) w ts tv)(hsz:schB ts<=549755813888):Calls Tryz.prog 129 #[.agg #[tv]] w fun e w'=>e = .returned (.tuple #[.string (if printOk ts then schT ts else⟨#[]⟩),.int .i64 (prN (printOk ts))])/\Below w.heap.size w w':=by
 obtain⟨ao,c,rfl,hlc,hcm,hcell⟩:=h.rows;have HC:=h! hcell;have HSZ:=h! hsz;generalize hg:printOk ts=g;have HG:=h! (show g=ts.all tyOk from hg.symm);have hS0:=Blk.made w #[.slice ao ts.length c] 26;have hb0:Below w.heap.size w (w.alloc (.cells #[.slice ao ts.length c] 26)):=(Below.refl _ _).alloc (Nat.le_refl _) _;have hW0:=Blk.made (w.alloc (.cells #[.slice ao ts.length c] 26)) #[.pointer none,.slice none 0 0,.bool false] 298;have hbw0:Below w.heap.size w ((w.alloc (.cells #[.slice ao ts.length c] 26)).alloc (.cells #[.pointer none,.slice none 0 0,.bool false] 298)):=hb0.alloc (by simp) _;have HBX:=h! hbw0;have hs1:=(hS0.alloc (.cells #[.pointer none,.slice none 0 0,.bool false] 298)).cells;rw[World.size_alloc]at hW0;have hs0:=hS0.cells;have HW0:=h! hW0;clear h hcell hsz hg hS0 hb0 hbw0 hW0;go_enter Tryz.func129,Tryz.ntmps129
 go_wp2_with fail
 obtain⟨w2,hw2⟩:∃ w2,w2=(w.alloc (.cells #[.slice ao ts.length c] 26)).alloc (.cells #[.pointer none,.slice none 0 0,.bool false] 298):=⟨_,rfl⟩;rw[<- hw2]at HBX HW0 ⊢;obtain⟨wb,hwb⟩:∃ wb,wb=w.heap.size+1:=⟨_,rfl⟩;rw[<- hwb]at HW0 ⊢;have HWB:=h! (show WrB w2 w.heap.size wb ⟨#[]⟩ false from⟨by omega,_,_,.inl rfl,HW0.out,Own.nil _ _ _ _,fun _=>rfl⟩);have HBW:=h! HBX.out.size;have HNB:=h! (show wb<w2.heap.size from HW0.out.lt);clear hs0 hs1 hw2 hwb;go_loopw [14] (fun ii wr=>∃ (i:Nat) (t:ByteArray) (o:Bool),i<=ts.length/\ii = .int .i64 i/\o=!((ts.take i).all tyOk)/\WrB wr w.heap.size wb t o/\t.size<=schB (ts.take i)/\(o=false->t=schT (ts.take i))/\WKept w.heap.size wb w2 wr) (fun ii _=>ts.length-(intOf ii).toNat)
 case atStart=>exact⟨0,⟨#[]⟩,false,by omega,rfl,rfl,HWB.out,Nat.zero_le _,fun _=>rfl,Kept.refl _ _⟩
 case round =>
  obtain⟨i,t,o,hi,rfl,ho,hw,hts,hj,hk⟩:=hrel;have HO:=h! ho;have HW:=h! hw;have HJ:=h! hj;have HTS:=h! hts;clear HWB ho hw hj hts;by_cases hlt:i<ts.length
  ·have hbel:Below w.heap.size w wr:=HBX.out.trans hk.below;have hst:=schB_take hlt;have hle:=schB_le ts (i+1);have hsl:=HSZ.out;have HST:=h! hst;rw[hst]at hle;have HLE:=h! hle;have HI1:=h! hlt;obtain⟨bb,off,pv2,hbo,hb,c0,c1,hat2⟩:=HC.out i hlt;cases hbo;have d0:=(hbel.cell (p:=⟨bb,off+i*2,none⟩) hb).trans c0;have d1:=(hbel.cell (p:=⟨bb,off+i*2+1,none⟩) hb).trans c1;generalize hti:ts[i]=ty at *;have HTI:=h! hti;obtain⟨tn,rels⟩:=ty;dsimp only at *;obtain⟨ao2,c2',rfl,hlc3,hcm3,hcell3⟩:=hat2.rows;have HC3:=h! hcell3;have HT0:=h! (Blk.made wr #[.string tn,.slice ao2 rels.length c2'] 176);have HNT:=h! (show wr.heap.size≠wb from by have:=HW.out.lt;omega);have HKA:=h! (WKept.next hk (WKept.of (b:=wb) ((Below.refl _ wr).alloc (Nat.le_refl _) (.cells #[.string tn,.slice ao2 rels.length c2'] 176)) (Nat.le_trans HBW.out hk.size)));have HWA:=h! (HW.out.up ((Below.refl _ wr).alloc (Nat.le_refl _) (.cells #[.string tn,.slice ao2 rels.length c2'] 176)));have hta:=HT0.out.cells;have HLIM1:=h! (show t.size+(10+tn.size+relB rels)<=549755813888 from by have:=HTS.out;omega);have HN1:=h! (writeString_any ⟨#[116,121,112,101,32]⟩ HWA.out (by have:=HLIM1.out;show _+5<=_;omega) (by show 0<_+5;omega) (Nat.le_trans HBW.out HKA.out.size));clear c0 c1 hat2 hcell3 hbel hst hle hsl hti hk;go_wp2_with fail
   refine HN1.out.mono ?_;rintro e wa ⟨rfl,hwa,hka⟩;have HKa:=h! (WKept.next HKA.out hka);have HTa:=h! (hka.box HT0.out (by decide) HNT.out);have hta2:=HTa.out.cells;have HN2:=h! (wname_any tn hwa (by have:=HLIM1.out;rw[ByteArray.size_append];show _+5+_<=_;omega) (by rw[ByteArray.size_append];show 0<_+5;omega) (by have:=HLIM1.out;unfold maxLen;omega) (Nat.le_trans HBW.out HKa.out.size));clear HN1 hwa hka hta d0 d1 HKA HWA HT0;go_wp2_with fail
   refine HN2.out.mono ?_;rintro e wb2 ⟨rfl,hwa,hka⟩;have HKb:=h! (WKept.next HKa.out hka);have HTb:=h! (hka.box HTa.out (by decide) HNT.out);have HN3:=h! (writeString_any ⟨#[10]⟩ hwa (by have:=HLIM1.out;simp only[ByteArray.size_append];show _+5+_+1<=_;omega) (by rw[ByteArray.size_append];show 0<_+1;omega) (Nat.le_trans HBW.out HKb.out.size));clear HN2 hwa hka hta2 HKa HTa;go_wp2_with fail
   refine HN3.out.mono ?_;rintro e wc ⟨rfl,hwa,hka⟩;have HKc:=h! (WKept.next HKb.out hka);have HTc:=h! (hka.box HTb.out (by decide) HNT.out);have htc:=HTc.out.cells;obtain⟨t1,ht1⟩:∃ t1,t1=t++⟨#[116,121,112,101,32]⟩++tn++⟨#[10]⟩:=⟨_,rfl⟩;obtain⟨g1,hg1⟩:∃ g1,(o||!ownB tn)=!g1:=⟨!(o||!ownB tn),by simp⟩;rw[<- ht1,hg1]at hwa
   have hs1:t1.size=t.size+6+tn.size:=by
    rw[ht1];simp only[ByteArray.size_append];rw[show(⟨#[116,121,112,101,32]⟩:ByteArray).size=5 from rfl,show(⟨#[10]⟩:ByteArray).size=1 from rfl];omega
   have HS1:=h! hs1;have HT1:=h! ht1;have HG1:=h! hg1;have HWc:=h! hwa;clear HN3 hwa hka HKb HTb hs1 ht1 hg1;go_wp2_with fail
   clear htc;go_loopw [33] (fun jj wr=>∃ (j:Nat) (t2:ByteArray) (o:Bool),j<=rels.length/\jj = .int .i64 j/\o=!(g1&&(rels.take j).all relOk)/\WrB wr w.heap.size wb t2 o/\0<t2.size/\t2.size<=schB (ts.take i)+(10+tn.size)+relB (rels.take j)/\(o=false->t2=t1++relsT (rels.take j))/\WKept w.heap.size wb w2 wr) (fun jj _=>rels.length-(intOf jj).toNat)
   case atStart=>exact⟨0,t1,_,by omega,rfl,by simp,HWc.out,by have:=HS1.out;omega,by have:=HS1.out;have:=HTS.out;omega,fun _=>by rw[List.take_zero];exact(ByteArray.append_empty).symm,HKc.out⟩
   case round =>
    obtain⟨j,t2,o2,hj,rfl,ho,hw,hs1,hs2,hjj,hk⟩:=hrel;have HWr:=h! hw;have HOX:=h! ho;have HJJ:=h! hjj;have HT2:=h! (And.intro hs1 hs2);clear HWc HKc ho hw hjj hs1 hs2;by_cases hlt:j<rels.length
    ·have hbel:Below w.heap.size w wr:=HBX.out.trans hk.below;have HRT:=h! (relB_take hlt)
     have HLIM3:=h! (show schB (ts.take i)+(10+tn.size)+relB (rels.take j)+(10+rels[j].1.size+rels[j].2.wt)<=549755813888 from by
      have h1:=HLE.out;have h2:=HSZ.out;have h3:=relB_le rels (j+1);rw[relB_take hlt]at h3;omega)
     have HJ1:=h! hlt;obtain⟨bb,off,pv2,hbo,hb,c0,c1,c2,c3,c4,hat2⟩:=HC3.out j hlt;cases hbo;have d0:=(hbel.cell (p:=⟨bb,off+j*5,none⟩) hb).trans c0;have d1:=(hbel.cell (p:=⟨bb,off+j*5+1,none⟩) hb).trans c1;have d2:=(hbel.cell (p:=⟨bb,off+j*5+2,none⟩) hb).trans c2;have d3:=(hbel.cell (p:=⟨bb,off+j*5+3,none⟩) hb).trans c3;have d4:=(hbel.cell (p:=⟨bb,off+j*5+4,none⟩) hb).trans c4;obtain⟨ao3,c3',rfl,-⟩:=hat2.rows;have HATR:=h! hat2;generalize hxe:rels[j]=x at *;have HXE:=h! hxe;obtain⟨xn,p⟩:=x;dsimp only at *;have HXJ:=h! (Blk.made wr #[.string xn,.int .i64 p.k,.string p.a,.string p.b,.slice ao3 p.ps.length c3'] 181);have HNR:=h! (show wr.heap.size≠wb from by have:=HWr.out.lt;omega);have HKJ:=h! (WKept.next hk (WKept.of (b:=wb) ((Below.refl _ wr).alloc (Nat.le_refl _) (.cells #[.string xn,.int .i64 p.k,.string p.a,.string p.b,.slice ao3 p.ps.length c3'] 181)) (Nat.le_trans HBW.out hk.size)));have HWJ:=h! (HWr.out.up ((Below.refl _ wr).alloc (Nat.le_refl _) (.cells #[.string xn,.int .i64 p.k,.string p.a,.string p.b,.slice ao3 p.ps.length c3'] 181)));clear c0 c1 c2 c3 c4 hat2 hbel hxe hk hlt;cases o2 with
     | true =>
      have HWS:=h! (HWJ.out.flag true);have HKS:=h! (WKept.next HKJ.out (WKept.flag (b:=wb) HWJ.out.1 (.bool true)));have HXS:=h! (HXJ.out.other (a:=⟨wb,2,none⟩) HNR.out (.bool true));have HOX:=h! (show(!(g1&&(rels.take j).all relOk))=true from HOX.out.symm);have HN:=h! (wname_any xn HWS.out (by have:=HT2.out;have:=HLIM3.out;omega) (by have:=HT2.out;omega) (by have:=HT2.out;have:=HLIM3.out;unfold maxLen;omega) (Nat.le_trans HBW.out HKS.out.size));obtain⟨ee,fe⟩:=HWJ.out.odd2;obtain⟨es,fs⟩:=HWS.out.odd2;have xs:=HXS.out.cells;have xj:=HXJ.out.cells;go_wp2_with fail
      refine HN.out.mono ?_;rintro e wa ⟨rfl,hwa,hka⟩;have HKa:=h! (WKept.next HKS.out hka);have HXa:=h! (hka.box HXS.out (by decide) HNR.out);have HN2:=h! (writeString_any ⟨#[32,61,32]⟩ hwa (by have:=HT2.out;have:=HLIM3.out;rw[ByteArray.size_append];show _+3<=_;omega) (by rw[ByteArray.size_append];show 0<_+3;omega) (Nat.le_trans HBW.out HKa.out.size));clear HN hwa hka ee fe es fs xs xj HXS HWS HKS HXJ HWJ HKJ;go_wp2_with fail
      refine HN2.out.mono ?_;rintro e wb2 ⟨rfl,hwa,hka⟩;have HKb:=h! (WKept.next HKa.out hka);have HXb:=h! (hka.box HXa.out (by decide) HNR.out);have xb:=HXb.out.cells;have HN3:=h! (wrule_both p _ 0 _ _ _ (HATR.out.same (Same.below (HBX.out.trans HKb.out.below))) (by have:=HT2.out;have:=HLIM3.out;simp only[ByteArray.size_append];show _+3+_<=_;omega) (by simp only[ByteArray.size_append];show 0<_+3;omega) (by omega) hwa (Nat.le_trans HBW.out HKb.out.size));unfold rV at HN3;rw[show((0:Nat):Int)=0 from rfl]at HN3;clear HN2 hwa hka HXa HKa;go_wp2_with fail
      refine HN3.out.mono ?_;rintro e wc ⟨rfl,t4,hwc,hs1,hs2,hadd,hkc⟩;have HKc:=h! (WKept.next HKb.out hkc);simp only[ByteArray.size_append]at hs1 hs2;rw[show(⟨#[32,61,32]⟩:ByteArray).size=3 from rfl]at hs1 hs2;have HN4:=h! (writeString_any ⟨#[10]⟩ hwc (by have:=HT2.out;have:=HLIM3.out;show _+1<=_;omega) (by show 0<_+1;omega) (Nat.le_trans HBW.out HKc.out.size))
      have HT5:=h! (show 0<(t4++⟨#[10]⟩).size/\(t4++⟨#[10]⟩).size<=schB (ts.take i)+(10+tn.size)+relB (rels.take (j+1))from by
       have:=HT2.out;have:=HRT.out;rw[ByteArray.size_append,show(⟨#[10]⟩:ByteArray).size=1 from rfl];omega)
      have HO5:=h! (show(true||!ownB xn||!p.textOk 0)=!(g1&&(rels.take (j+1)).all relOk)from by
       have he:rels[j]'HJ1.out=(xn,p):=HXE.out;rw[List.take_succ_eq_append_getElem HJ1.out,List.all_append,he];show _=!(g1&&((rels.take j).all relOk&&(relOk (xn,p)&&true)))
       have:=HOX.out;revert this
       cases g1 <;> cases (rels.take j).all relOk <;> simp)
      have HJ5:=h! (show(true||!ownB xn||!p.textOk 0)=false->t4++⟨#[10]⟩=t1++relsT (rels.take (j+1))from fun h=>by
       simp only[Bool.or_eq_false_iff,Bool.not_eq_false']at h;have he:rels[j]'HJ1.out=(xn,p):=HXE.out;rw[hadd (by simp[h.1.1,h.1.2]) h.2,HJJ.out (by have:=h.1.1;cases this),List.take_succ_eq_append_getElem HJ1.out,relsT_append,he];show _=t1++(relsT (rels.take j)++(relT (xn,p)++ByteArray.empty))
       rw[ByteArray.append_empty];unfold relT;dsimp only;simp only[ByteArray.append_assoc])
      have hlt2:=HJ1.out;clear HN3 hwc hs1 hs2 hadd hkc xb HXb HKb;go_wp2_with fail
      refine HN4.out.mono ?_;rintro e wd ⟨rfl,hwd,hkd⟩;have HWd:=h! hwd;have HKd:=h! (WKept.next HKc.out hkd);clear HN4 hwd hkd HKc d0 d1 d2 d3 d4;go_wp2_with fail
      go_roundw
      case rel=>exact⟨j+1,t4++⟨#[10]⟩,_,by omega,by go_num,HO5.out,HWd.out,HT5.out.1,HT5.out.2,HJ5.out,HKd.out⟩
      case measure=>simp[intOf];omega
     | false =>
      have HOX:=h! (show(g1&&(rels.take j).all relOk)=true from by have:=HOX.out;simpa using this);by_cases hty:xn=⟨#[116,121,112,101]⟩
      ·have HWS:=h! (HWJ.out.flag true);have HKS:=h! (WKept.next HKJ.out (WKept.flag (b:=wb) HWJ.out.1 (.bool true)));have HXS:=h! (HXJ.out.other (a:=⟨wb,2,none⟩) HNR.out (.bool true));subst hty;have HN:=h! (wname_any ⟨#[116,121,112,101]⟩ HWS.out (by have:=HT2.out;have:=HLIM3.out;omega) (by have:=HT2.out;omega) (by have:=HT2.out;have:=HLIM3.out;unfold maxLen;omega) (Nat.le_trans HBW.out HKS.out.size));obtain⟨ee,fe⟩:=HWJ.out.odd2;obtain⟨es,fs⟩:=HWS.out.odd2;have xs:=HXS.out.cells;have xj:=HXJ.out.cells;go_wp2_with fail
       refine HN.out.mono ?_;rintro e wa ⟨rfl,hwa,hka⟩;have HKa:=h! (WKept.next HKS.out hka);have HXa:=h! (hka.box HXS.out (by decide) HNR.out);have HN2:=h! (writeString_any ⟨#[32,61,32]⟩ hwa (by have:=HT2.out;have:=HLIM3.out;rw[ByteArray.size_append];show _+3<=_;omega) (by rw[ByteArray.size_append];show 0<_+3;omega) (Nat.le_trans HBW.out HKa.out.size));clear HN hwa hka ee fe es fs xs xj HXS HWS HKS HXJ HWJ HKJ;go_wp2_with fail
       refine HN2.out.mono ?_;rintro e wb2 ⟨rfl,hwa,hka⟩;have HKb:=h! (WKept.next HKa.out hka);have HXb:=h! (hka.box HXa.out (by decide) HNR.out);have xb:=HXb.out.cells;have HN3:=h! (wrule_both p _ 0 _ _ _ (HATR.out.same (Same.below (HBX.out.trans HKb.out.below))) (by have:=HT2.out;have:=HLIM3.out;simp only[ByteArray.size_append];show _+3+_<=_;omega) (by simp only[ByteArray.size_append];show 0<_+3;omega) (by omega) hwa (Nat.le_trans HBW.out HKb.out.size));unfold rV at HN3;rw[show((0:Nat):Int)=0 from rfl]at HN3;clear HN2 hwa hka HXa HKa;go_wp2_with fail
       refine HN3.out.mono ?_;rintro e wc ⟨rfl,t4,hwc,hs1,hs2,hadd,hkc⟩;have HKc:=h! (WKept.next HKb.out hkc);simp only[ByteArray.size_append]at hs1 hs2;rw[show(⟨#[32,61,32]⟩:ByteArray).size=3 from rfl]at hs1 hs2;have HN4:=h! (writeString_any ⟨#[10]⟩ hwc (by have:=HT2.out;have:=HLIM3.out;show _+1<=_;omega) (by show 0<_+1;omega) (Nat.le_trans HBW.out HKc.out.size))
       have HT5:=h! (show 0<(t4++⟨#[10]⟩).size/\(t4++⟨#[10]⟩).size<=schB (ts.take i)+(10+tn.size)+relB (rels.take (j+1))from by
        have:=HT2.out;have:=HRT.out;rw[ByteArray.size_append,show(⟨#[10]⟩:ByteArray).size=1 from rfl];omega)
       have HO5:=h! (show(true||!ownB ⟨#[116,121,112,101]⟩||!p.textOk 0)=!(g1&&(rels.take (j+1)).all relOk)from by
        have he:rels[j]'HJ1.out=(⟨#[116,121,112,101]⟩,p):=HXE.out;rw[List.take_succ_eq_append_getElem HJ1.out,List.all_append,he];show _=!(g1&&((rels.take j).all relOk&&(relOk (⟨#[116,121,112,101]⟩,p)&&true)))
        rw[show relOk (⟨#[116,121,112,101]⟩,p)=false from by unfold relOk;simp];simp)
       have HJ5:=h! (show(true||!ownB ⟨#[116,121,112,101]⟩||!p.textOk 0)=false->t4++⟨#[10]⟩=t1++relsT (rels.take (j+1))from fun h=>by
        simp only[Bool.or_eq_false_iff,Bool.not_eq_false']at h;have he:rels[j]'HJ1.out=(⟨#[116,121,112,101]⟩,p):=HXE.out;rw[hadd (by simp[h.1.1,h.1.2]) h.2,HJJ.out (by have:=h.1.1;cases this),List.take_succ_eq_append_getElem HJ1.out,relsT_append,he];show _=t1++(relsT (rels.take j)++(relT (⟨#[116,121,112,101]⟩,p)++ByteArray.empty))
        rw[ByteArray.append_empty];unfold relT;dsimp only;simp only[ByteArray.append_assoc])
       have hlt2:=HJ1.out;clear HN3 hwc hs1 hs2 hadd hkc xb HXb HKb;go_wp2_with fail
       refine HN4.out.mono ?_;rintro e wd ⟨rfl,hwd,hkd⟩;have HWd:=h! hwd;have HKd:=h! (WKept.next HKc.out hkd);clear HN4 hwd hkd HKc d0 d1 d2 d3 d4;go_wp2_with fail
       go_roundw
       case rel=>exact⟨j+1,t4++⟨#[10]⟩,_,by omega,by go_num,HO5.out,HWd.out,HT5.out.1,HT5.out.2,HJ5.out,HKd.out⟩
       case measure=>simp[intOf];omega
      ·have HTY:=h! hty;have hne:=ba_beq' hty;rw[<- ByteArray.toList_eq,show(⟨#[116,121,112,101]⟩:ByteArray).data.toList=[116,121,112,101]from rfl]at hne;have HWS:=h! (HWJ.out.flag false);have HKS:=h! (WKept.next HKJ.out (WKept.flag (b:=wb) HWJ.out.1 (.bool false)));have HXS:=h! (HXJ.out.other (a:=⟨wb,2,none⟩) HNR.out (.bool false));clear hty;have HN:=h! (wname_any xn HWS.out (by have:=HT2.out;have:=HLIM3.out;omega) (by have:=HT2.out;omega) (by have:=HT2.out;have:=HLIM3.out;unfold maxLen;omega) (Nat.le_trans HBW.out HKS.out.size));obtain⟨ee,fe⟩:=HWJ.out.odd2;obtain⟨es,fs⟩:=HWS.out.odd2;have xs:=HXS.out.cells;have xj:=HXJ.out.cells;go_wp2_with fail
       refine HN.out.mono ?_;rintro e wa ⟨rfl,hwa,hka⟩;have HKa:=h! (WKept.next HKS.out hka);have HXa:=h! (hka.box HXS.out (by decide) HNR.out);have HN2:=h! (writeString_any ⟨#[32,61,32]⟩ hwa (by have:=HT2.out;have:=HLIM3.out;rw[ByteArray.size_append];show _+3<=_;omega) (by rw[ByteArray.size_append];show 0<_+3;omega) (Nat.le_trans HBW.out HKa.out.size));clear HN hwa hka ee fe es fs xs xj HXS HWS HKS HXJ HWJ HKJ;go_wp2_with fail
       refine HN2.out.mono ?_;rintro e wb2 ⟨rfl,hwa,hka⟩;have HKb:=h! (WKept.next HKa.out hka);have HXb:=h! (hka.box HXa.out (by decide) HNR.out);have xb:=HXb.out.cells;have HN3:=h! (wrule_both p _ 0 _ _ _ (HATR.out.same (Same.below (HBX.out.trans HKb.out.below))) (by have:=HT2.out;have:=HLIM3.out;simp only[ByteArray.size_append];show _+3+_<=_;omega) (by simp only[ByteArray.size_append];show 0<_+3;omega) (by omega) hwa (Nat.le_trans HBW.out HKb.out.size));unfold rV at HN3;rw[show((0:Nat):Int)=0 from rfl]at HN3;clear HN2 hwa hka HXa HKa;go_wp2_with fail
       refine HN3.out.mono ?_;rintro e wc ⟨rfl,t4,hwc,hs1,hs2,hadd,hkc⟩;have HKc:=h! (WKept.next HKb.out hkc);simp only[ByteArray.size_append]at hs1 hs2;rw[show(⟨#[32,61,32]⟩:ByteArray).size=3 from rfl]at hs1 hs2;have HN4:=h! (writeString_any ⟨#[10]⟩ hwc (by have:=HT2.out;have:=HLIM3.out;show _+1<=_;omega) (by show 0<_+1;omega) (Nat.le_trans HBW.out HKc.out.size))
       have HT5:=h! (show 0<(t4++⟨#[10]⟩).size/\(t4++⟨#[10]⟩).size<=schB (ts.take i)+(10+tn.size)+relB (rels.take (j+1))from by
        have:=HT2.out;have:=HRT.out;rw[ByteArray.size_append,show(⟨#[10]⟩:ByteArray).size=1 from rfl];omega)
       have HO5:=h! (show(false||!ownB xn||!p.textOk 0)=!(g1&&(rels.take (j+1)).all relOk)from by
        have he:rels[j]'HJ1.out=(xn,p):=HXE.out;rw[List.take_succ_eq_append_getElem HJ1.out,List.all_append,he];show _=!(g1&&((rels.take j).all relOk&&(relOk (xn,p)&&true)))
        rw[<- Bool.and_assoc,HOX.out];unfold relOk;dsimp only;rw[decide_eq_true HTY.out];cases p.textOk 0 <;> cases ownB xn <;> rfl)
       have HJ5:=h! (show(false||!ownB xn||!p.textOk 0)=false->t4++⟨#[10]⟩=t1++relsT (rels.take (j+1))from fun h=>by
        simp only[Bool.or_eq_false_iff,Bool.not_eq_false']at h;have he:rels[j]'HJ1.out=(xn,p):=HXE.out;rw[hadd (by simp[h.1.2]) h.2,HJJ.out (by first | rfl | trivial),List.take_succ_eq_append_getElem HJ1.out,relsT_append,he];show _=t1++(relsT (rels.take j)++(relT (xn,p)++ByteArray.empty))
        rw[ByteArray.append_empty];unfold relT;dsimp only;simp only[ByteArray.append_assoc])
       have hlt2:=HJ1.out;clear HN3 hwc hs1 hs2 hadd hkc xb HXb HKb;go_wp2_with fail
       refine HN4.out.mono ?_;rintro e wd ⟨rfl,hwd,hkd⟩;have HWd:=h! hwd;have HKd:=h! (WKept.next HKc.out hkd);clear HN4 hwd hkd HKc d0 d1 d2 d3 d4;go_wp2_with fail
       go_roundw
       case rel=>exact⟨j+1,t4++⟨#[10]⟩,_,by omega,by go_num,HO5.out,HWd.out,HT5.out.1,HT5.out.2,HJ5.out,HKd.out⟩
       case measure=>simp[intOf];omega
    ·obtain rfl:j=rels.length:=by omega
     rw[List.take_length]at HOX HJJ HT2
     have HO2:=h! (show o2=!((ts.take (i+1)).all tyOk)from by
      have he:ts[i]'HI1.out=⟨tn,rels⟩:=HTI.out;rw[HOX.out,List.take_succ_eq_append_getElem HI1.out,List.all_append,he];show _=!((ts.take i).all tyOk&&(tyOk ⟨tn,rels⟩&&true))
      have h1:=HG1.out;rw[HO.out]at h1;rw[show tyOk ⟨tn,rels⟩=(ownB tn&&rels.all relOk)from rfl];revert h1
      generalize (ts.take i).all tyOk=q;cases q <;> cases ownB tn <;> cases rels.all relOk <;> cases g1 <;> simp)
     have HJ2:=h! (show o2=false->t2=schT (ts.take (i+1))from fun h=>by
      have he:ts[i]'HI1.out=⟨tn,rels⟩:=HTI.out
      rw[HJJ.out h,HT1.out,HJ.out (by
       have h1:=HOX.out;have h2:=HG1.out;rw[h]at h1;revert h1 h2
       cases o <;> cases g1 <;> simp),List.take_succ_eq_append_getElem HI1.out,schT_append,he]
      show _=schT (ts.take i)++(tyT ⟨tn,rels⟩++ByteArray.empty)
      rw[ByteArray.append_empty];unfold tyT;dsimp only;simp only[ByteArray.append_assoc])
     have HTZ:=h! (show t2.size<=schB (ts.take (i+1))from by have:=HT2.out;have:=HST.out;omega);have HK2:=h! hk;have hlt2:=HI1.out;clear hk;go_wp2_with fail
     go_roundw
     case rel=>exact⟨i+1,t2,o2,by omega,by go_num,HO2.out,HWr.out,HTZ.out,HJ2.out,HK2.out⟩
     case measure=>simp[intOf];omega
  ·obtain rfl:i=ts.length:=by omega
   rw[List.take_length]at HO HJ HTS;have HOG:=h! (show o=!g from by rw[HO.out,HG.out]);have HKE:=h! (HBX.out.trans hk.below);obtain⟨ee,fe⟩:=HW.out.odd2;have HSTR:=h! (wstring_any HW.out);clear hk HO;cases o with
   | true =>
    have hgf:g=false:=by have:=HOG.out;revert this;cases g <;> simp
    subst hgf;go_wp2_with fail
    go_ret2
    exact⟨rfl,HKE.out⟩
   | false =>
    have hgt:g=true:=by have:=HOG.out;revert this;cases g <;> simp
    subst hgt;have HJE:=h! (HJ.out rfl);go_wp2_with fail
    refine HSTR.out.mono ?_;rintro e w9 ⟨rfl,hb9⟩;have HBE:=h! (HKE.out.trans hb9);clear HSTR hb9 ee fe;go_wp2_with fail
    go_ret2
    exact⟨by rw[HJE.out];rfl,HBE.out⟩
def lc (c:UInt8):Bool:=okc c||c == 62
def S0 (x:List UInt8):Prop:=x=[]\/∃ r,x=41::r\/x=10::r
def S1 (x:List UInt8):Prop:=S0 x\/∃ r,x=32::124::r
def S2 (x:List UInt8):Prop:=S1 x\/∃ r,x=32::38::r
theorem Own.lit (w:World) {B:Nat} (hB:B<=w.heap.size)(e:TypeId)(sz n:Nat)(cs:Array Value)(hn:cs.size=n*sz)(hm:n<=maxLen)(_h0:n≠0):Own (w.alloc (.cells cs e)) B e sz (.slice (some ⟨w.heap.size,0,none⟩) n n) cs.toList:=by
 refine⟨n,by simpa using hn,.inr ⟨w.heap.size,n,cs,rfl,hB,heap_alloc_new w _,Nat.le_refl _,hm,hn,?_⟩⟩;rw[<- hn];exact List.take_of_length_le (by simp)
theorem append_where {P:Program} {w:World} (base:Nat)(t ty e:TypeId)(i:TypeInfo)(z:Value)(ht:P.underlying t=some (.slice e))(hi:P.info? e=some i)(hz:i.zero=some z)
  (v:Value) (n:Nat) (xs:List Value) (hown:w.ownsRow base e i.size v n xs)
  (a:Addr) (m c:Nat) (news:List Value) (hl:news.length=m*i.size) (hnews:∀ j u,news[j]?=some u->w.cell? (a.add j)=some u) (h1:∀ u∈news,u.oneCell'=true)
  (h63:n+m<=maxLen) (hbytes:(n+m)*i.bytes<=140737488355328) {v':Value} {w':World} (hrun:(Builtin.append_ #[t,t] ty #[v,.slice (some a) m c]).run P w = .ok v' w') :
  ∀ g,v'.ownBlock=some g->v.ownBlock=some g\/w.heap.size<=g:=by
 have hsmall:n+m<=9223372036854775807:=by simp only[maxLen]at h63;omega
 rcases hown.2 with⟨rfl,rfl⟩ | ⟨g,cap,cur,rfl,hbg,hg,hnc,hcm,hcs,htake⟩
 ·have hx:xs=[]:=List.eq_nil_of_length_eq_zero (by simpa using hown.1);subst hx;by_cases hm:m=0
  ·subst hm;have hn:news=[]:=List.eq_nil_of_length_eq_zero (by simpa using hl);subst hn
   have:(Builtin.append_ #[t,t] ty #[.slice none 0 0,.slice (some a) 0 c]).run P w = .ok (.slice none 0 0) w:=by
    simp[Builtin.append_,run_underlying ht,sizeOf,typeInfo,hi,Builtin.lenOf,Builtin.firstCells,loadCells,loadCellsFrom]
   rw[hrun]at this;injection this with h1 h2
   subst h1;intro g hg;cases hg
  ·have hr:=run_append_nil (P:=P) w t ty e i z ht hi hz a m c news hl hnews (by omega) (by omega) (by have hb:=hbytes;simp only[Nat.zero_add]at hb;omega);rw[hrun]at hr;injection hr with h1 h2
   subst h1;intro g hg;simp only[Value.ownBlock,Option.some.injEq]at hg;exact .inr (Nat.le_of_eq hg)
 ·by_cases hroom:n+m<=cap
  ·have hfit:n*i.size+news.length<=cur.size:=by rw[hl,hcs,<- Nat.add_mul];exact Nat.mul_le_mul_right _ hroom
   have hr:=run_append_room (P:=P) w t ty e i ht hi g n cap cur hg a m c news hl hnews h1 hroom hfit;rw[hrun]at hr;injection hr with h1 h2
   subst h1;intro g' hg';exact .inl hg'
  ·have holds:∀ j u,xs[j]?=some u->w.cell? ((⟨g,0,none⟩:Addr).add j)=some u:=hown.cells (g:=g) rfl;have hr:=run_append_grow (P:=P) w t ty e i z ht hi hz ⟨g,0,none⟩ n cap xs hown.1 holds a m c news hl hnews (by omega) (by omega) (growslice_fits (by omega) hbytes);rw[hrun]at hr;injection hr with h1 h2
   subst h1;intro g hg;simp only[Value.ownBlock,Option.some.injEq]at hg;exact .inr (Nat.le_of_eq hg)
theorem wp_ownw {P:Program} {w:World} {o:Oper} {a:Act} {K:Act->World->Prop} {Q:Exit->Act->World->Prop} {t e:TypeId} {size bytes:Nat} (E:ElemT P t e size bytes)
  (s x:Operand) (hop:o.op=Op.call {callee:=Callee.builtin Builtin.append,args:=#[s,x],argTypes:=#[t,t]})
  {B:Nat} {v:Value} {xs:List Value} (hs:a.eval s=v) (hown:Own w B e size v xs) {ad:Addr} {m c:Nat} {news:List Value} (hx:a.eval x = .slice (some ad) m c) (hn:news.length=m*size)
  (hc:∀ j u,news[j]?=some u->w.cell? (ad.add j)=some u) (h1:∀ u∈news,u.oneCell'=true)
  (hlen:xs.length+news.length<=9223372036854775807) (hbytes:(xs.length+news.length)*bytes<=140737488355328) (hB:B<=w.heap.size)
  (h:∀ v' w',Own w' B e size v' (xs++news)->(∀ g,v'.ownBlock=some g->v.ownBlock=some g\/w.heap.size<=g)->w.grownBy w' v.ownBlock->K (a.put o.dst v') w'):o.wp P a w K Q:=by
 obtain⟨hund,⟨i,z,hi,hz,h4,h5,h6⟩,hpos⟩:=E;obtain⟨k,hown⟩:=hown;have e1:∀ k l:Nat,k<=l*size->l*size<=k->l<=k:=fun k l _ hb=>Nat.le_trans (Nat.le_mul_of_pos_right l hpos) hb;have hnl:k<=xs.length:=e1 _ _ (Nat.le_of_eq hown.1) (Nat.le_of_eq hown.1.symm);have hml:m<=news.length:=e1 _ _ (Nat.le_of_eq hn) (Nat.le_of_eq hn.symm);have hb47:(k+m)*bytes<=140737488355328:=Nat.le_trans (Nat.mul_le_mul_right _ (by omega)) hbytes;subst h4;subst h5;obtain⟨v',w',hrun,r1,r2,_⟩:=run_append_own (P:=P) w B t o.type e i z i.size i.bytes hund hi hz rfl rfl h6 hpos v k xs hown ad m c news hn hc h1 (by unfold maxLen;omega) hb47 hB;have r3:=append_where B t o.type e i z hund hi hz v k xs hown ad m c news hn hc h1 (by unfold maxLen;omega) hb47 hrun;unfold Oper.wp;simp[execOp,hop,resolve,invoke,builtin,hs,hx,hrun,Result.andThen];exact h v' w' ⟨_,r1⟩ r3 r2
theorem wpList_ownw {P:Program} {w:World} {ops:Array Oper} {rest:List Oper} {o:Oper} {a:Act} {Q:Exit->Act->World->Prop} {t e:TypeId} {size bytes:Nat} (E:ElemT P t e size bytes)
  (hg:o.guard=none) (s x:Operand) (hop:o.op=Op.call {callee:=Callee.builtin Builtin.append,args:=#[s,x],argTypes:=#[t,t]})
  {B:Nat} {v:Value} {xs:List Value} (hs:a.eval s=v) (hown:Own w B e size v xs) {ad:Addr} {m c:Nat} {news:List Value} (hx:a.eval x = .slice (some ad) m c) (hn:news.length=m*size)
  (hc:∀ j u,news[j]?=some u->w.cell? (ad.add j)=some u) (h1:∀ u∈news,u.oneCell'=true)
  (hlen:xs.length+news.length<=9223372036854775807) (hbytes:(xs.length+news.length)*bytes<=140737488355328) (hB:B<=w.heap.size)
  (K:∀ v' w',Own w' B e size v' (xs++news)->(∀ g,v'.ownBlock=some g->v.ownBlock=some g\/w.heap.size<=g)->w.grownBy w' v.ownBlock->wpList P ops Q rest (a.put o.dst v') w'):wpList P ops Q (o::rest) a w :=
 wpList_plain hg fun _K' hK'=>wp_ownw E s x hop hs hown hx hn hc h1 hlen hbytes hB fun v' w' h2 h3 h4=>hK' _ _ (K v' w' h2 h3 h4)
theorem Own.apart {w:World} {B B' sz sz':Nat} {e e':TypeId} {v v':Value} {xs xs':List Value} (h:Own w B e sz v xs)(k:Own w B' e' sz' v' xs')(hne:e≠e') {g:Nat} (hg:v.ownBlock=some g):v'.ownBlock≠some g:=fun hv=>by
 obtain⟨c1,h1⟩:=h.typed hg;obtain⟨c2,h2⟩:=k.typed hv;rw[h1]at h2;exact hne (by injection Option.some.inj h2)
theorem Own.slFo {w:World} {B sz:Nat} {e:TypeId} {v:Value} {xs:List Value} (h:Own w B e sz v xs) {S:Nat->Prop} (hS:∀ g,v.ownBlock=some g->S g):Sl S w sz v xs:=by
 obtain⟨n,h⟩:=h;exact ownsRow_sl h _ hS
theorem Own.set1 {w:World} {B:Nat} {e:TypeId} {g n c:Nat} {xs:List Value} (h:Own w B e 1 (.slice (some ⟨g,0,none⟩) n c) xs)(i:Nat)(u:Value):Own (w.setCell ⟨g,i,none⟩ u) B e 1 (.slice (some ⟨g,0,none⟩) n c) (xs.set i u):=by
 obtain⟨m,h⟩:=h;rcases h.2 with⟨hv,rfl⟩ | ⟨g',cap,cur,hv,hbg,hg,hnc,hcm,hcs,htake⟩
 ·cases hv
 ·cases hv;have hl:=h.1;refine⟨n,by rw[List.length_set];exact hl,.inr ⟨g,c,cur.setIfInBounds i u,rfl,hbg,heap_setCell_same w g i cur e u hg,hnc,hcm,by simpa using hcs,?_⟩⟩;rw[Array.toList_setIfInBounds,<- htake,List.take_set]
theorem Own.lay {w:World} {B:Nat} {e:TypeId} {v:Value} {xs:List Value} (h:Own w B e 1 v xs)(hx:xs≠[]):∃ g c cs,v = .slice (some ⟨g,0,none⟩) xs.length c/\B<=g/\Blk w g cs e/\xs.length<=c/\c<=maxLen/\(∀ i (hi:i<xs.length),cs[i]?=some xs[i]):=by
 obtain⟨m,h⟩:=h;rcases h.2 with⟨hv,he⟩ | ⟨g',cap,cur,hv,hbg,hg,hnc,hcm,hcs,htake⟩
 ·exact absurd (List.length_eq_zero_iff.1 (by have:=h.1;rw[he]at this;simpa using this)) hx
 ·have hl:=h.1;rw[Nat.mul_one]at hl htake;subst hl;refine⟨g',cap,cur,hv,hbg,hg,hnc,hcm,fun i hi=>?_⟩;have h1:=congrArg (fun l:List Value=>l[i]?) htake;rw[List.getElem?_take_of_lt hi,List.getElem?_eq_getElem hi]at h1;simpa using h1
end Go.Proofs.YtlhaghoajpglaaaGreat
