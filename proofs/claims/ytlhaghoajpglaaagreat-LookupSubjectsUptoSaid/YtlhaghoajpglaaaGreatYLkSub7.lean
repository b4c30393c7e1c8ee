/- Lemmas for the claim, no condition. -/
import Derived.Test.YtlhaghoajpglaaaGreatYLkSub6
import Derived.Test.YtlhaghoajpglaaaGreatYLkSub6
set_option maxRecDepth 100000
set_option maxHeartbeats 8000000
namespace Go.Proofs.YtlhaghoajpglaaaGreat
open Go Go.Maps Go.RowKit Go.Proofs.Tryz
theorem ow! {B wb:Nat}{text:ByteArray}{w:World}(ra rb:ByteArray)(n:Nat)(ao:Option Addr)(c:Nat)(d:Int)(h:WrB w B wb text false)(hBw:B<=w.heap.size)(hpos:0<text.size)(hlim:text.size+(10+ra.size+rb.size)<=1099511627776) :
  Calls prog 190 #[.pointer (some ⟨wb,0,none⟩),.agg #[.int .i64 1,.string ra,.string rb,.slice ao n c],.int .i64 d] w (WRes B wb w text (decide (ra.size=0)&&decide (rb.size=0)&&decide (n=0)) (⟨#[116,104,105,115]⟩) (10+ra.size+rb.size)):=by
 have o:=h! h;have F:=h! h.1;have p:=h! hBw;have k:=h! (show w.heap.size≠wb from by have:=h.lt;omega);clear h hBw;have r:=h! hpos;have q:=h! hlim;clear hpos hlim;by_cases hlp:0<n
 ·have a6:(0:Int)<(n:Int):=by omega
  have l:=h! (show(decide ((ra:ByteArray).size=0)&&decide ((rb:ByteArray).size=0)&&decide (n=0))=false from by
   have a3:n≠0:=by omega
   simp[a3])
  rw[l.out];clear hlp l;have E:=h! (Blk.made w #[.int .i64 1,.string ra,.string rb,.slice ao n c] 106);have f:=h! (E.out.other (a:=⟨wb,2,none⟩) k.out (.bool true));have m:=h! (f.out.other (a:=⟨wb,2,none⟩) k.out (.bool true));have g:=h! ((o.out.up ((Below.refl _ w).alloc (n0! _) (.cells #[.int .i64 1,.string ra,.string rb,.slice ao n c] 106))).flag true);have i:=h! (g.out.flag true);have j:=h! (pZ!.next (pZ!.next (pZ!.of ((Below.refl _ w).alloc (n0! _) (.cells #[.int .i64 1,.string ra,.string rb,.slice ao n c] 106)) p.out) (pZ!.flag (b:=wb) F.out (.bool true))) (pZ!.flag (b:=wb) F.out (.bool true)));have y:=E.out.cells;have z:=f.out.cells;have H:=m.out.cells;obtain⟨D,C⟩:=(o.out.up ((Below.refl _ w).alloc (n0! _) (.cells #[.int .i64 1,.string ra,.string rb,.slice ao n c] 106))).odd2;obtain⟨v,A⟩:=g.out.odd2;obtain⟨x,G⟩:=i.out.odd2;go_enter func190,ntmps190
  go_wp2_with fail
  (try simp only[Exit.inBlock,Exit.then])
  refine bodyPost_ret (results_none rfl _ _ _) rfl ?_;exact WRes.bad i.out j.out
 ·obtain rfl:n=0:=by omega
  clear hlp;by_cases hnrb:rb.size=0
  ·obtain rfl:=ae! hnrb;clear hnrb;by_cases hnra:ra.size=0
   ·obtain rfl:=ae! hnra;clear hnra;rw[show(decide ((⟨#[]⟩:ByteArray).size=0)&&decide ((⟨#[]⟩:ByteArray).size=0)&&decide (0=0))=true from rfl];have E:=h! (Blk.made w #[.int .i64 1,.string ⟨#[]⟩,.string ⟨#[]⟩,.slice ao 0 c] 106);have f:=h! (E.out.other (a:=⟨wb,2,none⟩) k.out (.bool false));have m:=h! (f.out.other (a:=⟨wb,2,none⟩) k.out (.bool false));have g:=h! ((o.out.up ((Below.refl _ w).alloc (n0! _) (.cells #[.int .i64 1,.string ⟨#[]⟩,.string ⟨#[]⟩,.slice ao 0 c] 106))).flag false);have i:=h! (g.out.flag false);have j:=h! (pZ!.next (pZ!.next (pZ!.of ((Below.refl _ w).alloc (n0! _) (.cells #[.int .i64 1,.string ⟨#[]⟩,.string ⟨#[]⟩,.slice ao 0 c] 106)) p.out) (pZ!.flag (b:=wb) F.out (.bool false))) (pZ!.flag (b:=wb) F.out (.bool false)));have y:=E.out.cells;have z:=f.out.cells;have H:=m.out.cells;obtain⟨D,C⟩:=(o.out.up ((Below.refl _ w).alloc (n0! _) (.cells #[.int .i64 1,.string ⟨#[]⟩,.string ⟨#[]⟩,.slice ao 0 c] 106))).odd2;obtain⟨v,A⟩:=g.out.odd2;obtain⟨x,G⟩:=i.out.odd2;go_enter func190,ntmps190
    go_wp2_with fail
    obtain⟨w3,s⟩:=e! (((w.alloc (.cells #[.int .i64 1,.string ⟨#[]⟩,.string ⟨#[]⟩,.slice ao 0 c] 106)).setCell ⟨wb,2,none⟩ (.bool false)).setCell ⟨wb,2,none⟩ (.bool false));rw[<-s]at m i j ⊢;clear s E f g y z H D v x C A G;have a2:=h! (n6! p.out j.out.size);have HS:=h! (ab! ⟨#[116,104,105,115]⟩ i.out (by have:=q.out;show _+4<=_;omega) (by have:=r.out;omega) a2.out);refine HS.out.mono ?_;rintro e w4 ⟨rfl,t,u⟩;have a5:=h! t;have a4:=h! (pZ!.next j.out u);clear HS t u;go_wp2_with fail
    go_end0
    exact⟨rfl,_,a5.out,by rw[n3!];omega,(by rw[n3!];show _+4<=_;omega),fun _=>rfl,a4.out⟩
   ·have a1:=am! hnra
    have l:=h! (show(decide ((ra:ByteArray).size=0)&&decide ((⟨#[]⟩:ByteArray).size=0)&&decide (0=0))=false from by
     simp[hnra])
    rw[l.out];clear hnra l;have E:=h! (Blk.made w #[.int .i64 1,.string ra,.string ⟨#[]⟩,.slice ao 0 c] 106);have f:=h! (E.out.other (a:=⟨wb,2,none⟩) k.out (.bool false));have m:=h! (f.out.other (a:=⟨wb,2,none⟩) k.out (.bool true));have g:=h! ((o.out.up ((Below.refl _ w).alloc (n0! _) (.cells #[.int .i64 1,.string ra,.string ⟨#[]⟩,.slice ao 0 c] 106))).flag false);have i:=h! (g.out.flag true);have j:=h! (pZ!.next (pZ!.next (pZ!.of ((Below.refl _ w).alloc (n0! _) (.cells #[.int .i64 1,.string ra,.string ⟨#[]⟩,.slice ao 0 c] 106)) p.out) (pZ!.flag (b:=wb) F.out (.bool false))) (pZ!.flag (b:=wb) F.out (.bool true)));have y:=E.out.cells;have z:=f.out.cells;have H:=m.out.cells;obtain⟨D,C⟩:=(o.out.up ((Below.refl _ w).alloc (n0! _) (.cells #[.int .i64 1,.string ra,.string ⟨#[]⟩,.slice ao 0 c] 106))).odd2;obtain⟨v,A⟩:=g.out.odd2;obtain⟨x,G⟩:=i.out.odd2;go_enter func190,ntmps190
    go_wp2_with fail
    (try simp only[Exit.inBlock,Exit.then])
    refine bodyPost_ret (results_none rfl _ _ _) rfl ?_;exact WRes.bad i.out j.out
  ·have a0:=am! hnrb
   have l:=h! (show(decide ((ra:ByteArray).size=0)&&decide ((rb:ByteArray).size=0)&&decide (0=0))=false from by
    simp[hnrb])
   rw[l.out];clear hnrb l;have E:=h! (Blk.made w #[.int .i64 1,.string ra,.string rb,.slice ao 0 c] 106);have f:=h! (E.out.other (a:=⟨wb,2,none⟩) k.out (.bool false));have m:=h! (f.out.other (a:=⟨wb,2,none⟩) k.out (.bool true));have g:=h! ((o.out.up ((Below.refl _ w).alloc (n0! _) (.cells #[.int .i64 1,.string ra,.string rb,.slice ao 0 c] 106))).flag false);have i:=h! (g.out.flag true);have j:=h! (pZ!.next (pZ!.next (pZ!.of ((Below.refl _ w).alloc (n0! _) (.cells #[.int .i64 1,.string ra,.string rb,.slice ao 0 c] 106)) p.out) (pZ!.flag (b:=wb) F.out (.bool false))) (pZ!.flag (b:=wb) F.out (.bool true)));have y:=E.out.cells;have z:=f.out.cells;have H:=m.out.cells;obtain⟨D,C⟩:=(o.out.up ((Below.refl _ w).alloc (n0! _) (.cells #[.int .i64 1,.string ra,.string rb,.slice ao 0 c] 106))).odd2;obtain⟨v,A⟩:=g.out.odd2;obtain⟨x,G⟩:=i.out.odd2;go_enter func190,ntmps190
   go_wp2_with fail
   (try simp only[Exit.inBlock,Exit.then])
   refine bodyPost_ret (results_none rfl _ _ _) rfl ?_;exact WRes.bad i.out j.out
theorem ov! {B wb:Nat}{text:ByteArray}{w:World}(ra rb:ByteArray)(n:Nat)(ao:Option Addr)(c:Nat)(d:Int)(h:WrB w B wb text false)(hBw:B<=w.heap.size)(hpos:0<text.size)(hlim:text.size+(10+ra.size+rb.size)<=1099511627776) :
  Calls prog 190 #[.pointer (some ⟨wb,0,none⟩),.agg #[.int .i64 2,.string ra,.string rb,.slice ao n c],.int .i64 d] w (WRes B wb w text (ownB ra&&decide (rb.size=0)&&decide (n=0)) (ra) (10+ra.size+rb.size)):=by
 have o:=h! h;have J:=h! h.1;have p:=h! hBw;have m:=h! (show w.heap.size≠wb from by have:=h.lt;omega);clear h hBw;have u:=h! hpos;have k:=h! hlim;clear hpos hlim;by_cases hlp:0<n
 ·have a3:(0:Int)<(n:Int):=by omega
  have t:=h! (show(ownB ra&&decide ((rb:ByteArray).size=0)&&decide (n=0))=false from by
   have a2:n≠0:=by omega
   simp[a2])
  rw[t.out];clear hlp t;have I:=h! (Blk.made w #[.int .i64 2,.string ra,.string rb,.slice ao n c] 106);have f:=h! (I.out.other (a:=⟨wb,2,none⟩) m.out (.bool true));have l:=h! (f.out.other (a:=⟨wb,2,none⟩) m.out (.bool true));have g:=h! ((o.out.up ((Below.refl _ w).alloc (n0! _) (.cells #[.int .i64 2,.string ra,.string rb,.slice ao n c] 106))).flag true);have i:=h! (g.out.flag true);have j:=h! (pZ!.next (pZ!.next (pZ!.of ((Below.refl _ w).alloc (n0! _) (.cells #[.int .i64 2,.string ra,.string rb,.slice ao n c] 106)) p.out) (pZ!.flag (b:=wb) J.out (.bool true))) (pZ!.flag (b:=wb) J.out (.bool true)));have C:=I.out.cells;have D:=f.out.cells;have L:=l.out.cells;obtain⟨H,G⟩:=(o.out.up ((Below.refl _ w).alloc (n0! _) (.cells #[.int .i64 2,.string ra,.string rb,.slice ao n c] 106))).odd2;obtain⟨z,F⟩:=g.out.odd2;obtain⟨A,K⟩:=i.out.odd2;go_enter func190,ntmps190
  go_wp2_with fail
  (try simp only[Exit.inBlock,Exit.then])
  refine bodyPost_ret (results_none rfl _ _ _) rfl ?_;exact WRes.bad i.out j.out
 ·obtain rfl:n=0:=by omega
  clear hlp;by_cases hnrb:rb.size=0
  ·obtain rfl:=ae! hnrb;clear hnrb;by_cases hnra:ra.size=0
   ·obtain rfl:=ae! hnra;clear hnra;rw[show(ownB ⟨#[]⟩&&decide ((⟨#[]⟩:ByteArray).size=0)&&decide (0=0))=ownB ⟨#[]⟩from by cases ownB ⟨#[]⟩ <;> rfl];have I:=h! (Blk.made w #[.int .i64 2,.string ⟨#[]⟩,.string ⟨#[]⟩,.slice ao 0 c] 106);have f:=h! (I.out.other (a:=⟨wb,2,none⟩) m.out (.bool false));have l:=h! (f.out.other (a:=⟨wb,2,none⟩) m.out (.bool false));have g:=h! ((o.out.up ((Below.refl _ w).alloc (n0! _) (.cells #[.int .i64 2,.string ⟨#[]⟩,.string ⟨#[]⟩,.slice ao 0 c] 106))).flag false);have i:=h! (g.out.flag false);have j:=h! (pZ!.next (pZ!.next (pZ!.of ((Below.refl _ w).alloc (n0! _) (.cells #[.int .i64 2,.string ⟨#[]⟩,.string ⟨#[]⟩,.slice ao 0 c] 106)) p.out) (pZ!.flag (b:=wb) J.out (.bool false))) (pZ!.flag (b:=wb) J.out (.bool false)));have C:=I.out.cells;have D:=f.out.cells;have L:=l.out.cells;obtain⟨H,G⟩:=(o.out.up ((Below.refl _ w).alloc (n0! _) (.cells #[.int .i64 2,.string ⟨#[]⟩,.string ⟨#[]⟩,.slice ao 0 c] 106))).odd2;obtain⟨z,F⟩:=g.out.odd2;obtain⟨A,K⟩:=i.out.odd2;go_enter func190,ntmps190
    go_wp2_with fail
    obtain⟨w3,q⟩:=e! (((w.alloc (.cells #[.int .i64 2,.string ⟨#[]⟩,.string ⟨#[]⟩,.slice ao 0 c] 106)).setCell ⟨wb,2,none⟩ (.bool false)).setCell ⟨wb,2,none⟩ (.bool false));rw[<-q]at l i j ⊢;clear q I f g C D L H z A G F K;have v:=h! (n6! p.out j.out.size);have E:=h! (aB! ⟨#[]⟩ i.out (by have:=k.out;omega) u.out (by have:=k.out;unfold maxLen;omega) v.out);refine E.out.mono ?_;rintro e w4 ⟨rfl,r,s⟩;have y:=h! r;have x:=h! (pZ!.next j.out s);clear E r s;go_wp2_with fail
    go_end0
    exact⟨rfl,_,(by have:=y.out;rwa[Bool.false_or]at this),by rw[n3!];omega,(by rw[n3!];omega),fun _=>rfl,x.out⟩
   ·have a1:=am! hnra;clear hnra;rw[show(ownB ra&&decide ((⟨#[]⟩:ByteArray).size=0)&&decide (0=0))=ownB ra from by cases ownB ra <;> rfl];have I:=h! (Blk.made w #[.int .i64 2,.string ra,.string ⟨#[]⟩,.slice ao 0 c] 106);have f:=h! (I.out.other (a:=⟨wb,2,none⟩) m.out (.bool false));have l:=h! (f.out.other (a:=⟨wb,2,none⟩) m.out (.bool false));have g:=h! ((o.out.up ((Below.refl _ w).alloc (n0! _) (.cells #[.int .i64 2,.string ra,.string ⟨#[]⟩,.slice ao 0 c] 106))).flag false);have i:=h! (g.out.flag false);have j:=h! (pZ!.next (pZ!.next (pZ!.of ((Below.refl _ w).alloc (n0! _) (.cells #[.int .i64 2,.string ra,.string ⟨#[]⟩,.slice ao 0 c] 106)) p.out) (pZ!.flag (b:=wb) J.out (.bool false))) (pZ!.flag (b:=wb) J.out (.bool false)));have C:=I.out.cells;have D:=f.out.cells;have L:=l.out.cells;obtain⟨H,G⟩:=(o.out.up ((Below.refl _ w).alloc (n0! _) (.cells #[.int .i64 2,.string ra,.string ⟨#[]⟩,.slice ao 0 c] 106))).odd2;obtain⟨z,F⟩:=g.out.odd2;obtain⟨A,K⟩:=i.out.odd2;go_enter func190,ntmps190
    go_wp2_with fail
    obtain⟨w3,q⟩:=e! (((w.alloc (.cells #[.int .i64 2,.string ra,.string ⟨#[]⟩,.slice ao 0 c] 106)).setCell ⟨wb,2,none⟩ (.bool false)).setCell ⟨wb,2,none⟩ (.bool false));rw[<-q]at l i j ⊢;clear q I f g C D L H z A G F K;have v:=h! (n6! p.out j.out.size);have E:=h! (aB! ra i.out (by have:=k.out;omega) u.out (by have:=k.out;unfold maxLen;omega) v.out);refine E.out.mono ?_;rintro e w4 ⟨rfl,r,s⟩;have y:=h! r;have x:=h! (pZ!.next j.out s);clear E r s;go_wp2_with fail
    go_end0
    exact⟨rfl,_,(by have:=y.out;rwa[Bool.false_or]at this),by rw[n3!];omega,(by rw[n3!];omega),fun _=>rfl,x.out⟩
  ·have a0:=am! hnrb
   have t:=h! (show(ownB ra&&decide ((rb:ByteArray).size=0)&&decide (0=0))=false from by
    simp[hnrb])
   rw[t.out];clear hnrb t;have I:=h! (Blk.made w #[.int .i64 2,.string ra,.string rb,.slice ao 0 c] 106);have f:=h! (I.out.other (a:=⟨wb,2,none⟩) m.out (.bool false));have l:=h! (f.out.other (a:=⟨wb,2,none⟩) m.out (.bool true));have g:=h! ((o.out.up ((Below.refl _ w).alloc (n0! _) (.cells #[.int .i64 2,.string ra,.string rb,.slice ao 0 c] 106))).flag false);have i:=h! (g.out.flag true);have j:=h! (pZ!.next (pZ!.next (pZ!.of ((Below.refl _ w).alloc (n0! _) (.cells #[.int .i64 2,.string ra,.string rb,.slice ao 0 c] 106)) p.out) (pZ!.flag (b:=wb) J.out (.bool false))) (pZ!.flag (b:=wb) J.out (.bool true)));have C:=I.out.cells;have D:=f.out.cells;have L:=l.out.cells;obtain⟨H,G⟩:=(o.out.up ((Below.refl _ w).alloc (n0! _) (.cells #[.int .i64 2,.string ra,.string rb,.slice ao 0 c] 106))).odd2;obtain⟨z,F⟩:=g.out.odd2;obtain⟨A,K⟩:=i.out.odd2;go_enter func190,ntmps190
   go_wp2_with fail
   (try simp only[Exit.inBlock,Exit.then])
   refine bodyPost_ret (results_none rfl _ _ _) rfl ?_;exact WRes.bad i.out j.out
theorem ou! {B wb:Nat}{text:ByteArray}{w:World}(ra rb:ByteArray)(n:Nat)(ao:Option Addr)(c:Nat)(d:Int)(h:WrB w B wb text false)(hBw:B<=w.heap.size)(hpos:0<text.size)(hlim:text.size+(10+ra.size+rb.size)<=1099511627776) :
  Calls prog 190 #[.pointer (some ⟨wb,0,none⟩),.agg #[.int .i64 3,.string ra,.string rb,.slice ao n c],.int .i64 d] w (WRes B wb w text (ownB ra&&ownB rb&&decide (n=0)) ((ra++⟨#[45,62]⟩)++rb) (10+ra.size+rb.size)):=by
 have D:=h! h;have HB:=h! h.1;have o:=h! hBw;have k:=h! (show w.heap.size≠wb from by have:=h.lt;omega);clear h hBw;have g:=h! hpos;have f:=h! hlim;clear hpos hlim;by_cases hlp:0<n
 ·have a2:(0:Int)<(n:Int):=by omega
  have M:=h! (show(ownB ra&&ownB rb&&decide (n=0))=false from by
   have a1:n≠0:=by omega
   simp[a1])
  rw[M.out];clear hlp M;have Z:=h! (Blk.made w #[.int .i64 3,.string ra,.string rb,.slice ao n c] 106);have i:=h! (Z.out.other (a:=⟨wb,2,none⟩) k.out (.bool true));have p:=h! (i.out.other (a:=⟨wb,2,none⟩) k.out (.bool true));have j:=h! ((D.out.up ((Below.refl _ w).alloc (n0! _) (.cells #[.int .i64 3,.string ra,.string rb,.slice ao n c] 106))).flag true);have l:=h! (j.out.flag true);have m:=h! (pZ!.next (pZ!.next (pZ!.of ((Below.refl _ w).alloc (n0! _) (.cells #[.int .i64 3,.string ra,.string rb,.slice ao n c] 106)) o.out) (pZ!.flag (b:=wb) HB.out (.bool true))) (pZ!.flag (b:=wb) HB.out (.bool true)));have R:=Z.out.cells;have T:=i.out.cells;have x2:=p.out.cells;obtain⟨Y,X⟩:=(D.out.up ((Below.refl _ w).alloc (n0! _) (.cells #[.int .i64 3,.string ra,.string rb,.slice ao n c] 106))).odd2;obtain⟨N,V⟩:=j.out.odd2;obtain⟨Q,f2⟩:=l.out.odd2;go_enter func190,ntmps190
  go_wp2_with fail
  (try simp only[Exit.inBlock,Exit.then])
  refine bodyPost_ret (results_none rfl _ _ _) rfl ?_;exact WRes.bad l.out m.out
 ·obtain rfl:n=0:=by omega
  clear hlp;by_cases hnrb:rb.size=0
  ·obtain rfl:=ae! hnrb;clear hnrb;by_cases hnra:ra.size=0
   ·obtain rfl:=ae! hnra;clear hnra;rw[show(ownB ⟨#[]⟩&&ownB ⟨#[]⟩&&decide (0=0))=(ownB ⟨#[]⟩&&ownB ⟨#[]⟩)from by cases ownB ⟨#[]⟩ <;> cases ownB ⟨#[]⟩ <;> rfl];have Z:=h! (Blk.made w #[.int .i64 3,.string ⟨#[]⟩,.string ⟨#[]⟩,.slice ao 0 c] 106);have i:=h! (Z.out.other (a:=⟨wb,2,none⟩) k.out (.bool false));have p:=h! (i.out.other (a:=⟨wb,2,none⟩) k.out (.bool false));have j:=h! ((D.out.up ((Below.refl _ w).alloc (n0! _) (.cells #[.int .i64 3,.string ⟨#[]⟩,.string ⟨#[]⟩,.slice ao 0 c] 106))).flag false);have l:=h! (j.out.flag false);have m:=h! (pZ!.next (pZ!.next (pZ!.of ((Below.refl _ w).alloc (n0! _) (.cells #[.int .i64 3,.string ⟨#[]⟩,.string ⟨#[]⟩,.slice ao 0 c] 106)) o.out) (pZ!.flag (b:=wb) HB.out (.bool false))) (pZ!.flag (b:=wb) HB.out (.bool false)));have R:=Z.out.cells;have T:=i.out.cells;have x2:=p.out.cells;obtain⟨Y,X⟩:=(D.out.up ((Below.refl _ w).alloc (n0! _) (.cells #[.int .i64 3,.string ⟨#[]⟩,.string ⟨#[]⟩,.slice ao 0 c] 106))).odd2;obtain⟨N,V⟩:=j.out.odd2;obtain⟨Q,f2⟩:=l.out.odd2;go_enter func190,ntmps190
    go_wp2_with fail
    obtain⟨w3,x⟩:=e! (((w.alloc (.cells #[.int .i64 3,.string ⟨#[]⟩,.string ⟨#[]⟩,.slice ao 0 c] 106)).setCell ⟨wb,2,none⟩ (.bool false)).setCell ⟨wb,2,none⟩ (.bool false));rw[<-x]at p l m ⊢;clear x Z i j R T x2 Y N Q X V f2;have E:=h! (n6! o.out m.out.size);have U:=h! (aB! ⟨#[]⟩ l.out (by have:=f.out;omega) g.out (by have:=f.out;unfold maxLen;omega) E.out);refine U.out.mono ?_;rintro e w4 ⟨rfl,q,r⟩;rw[Bool.false_or]at q;have A:=h! (pZ!.next m.out r);have I:=h! (r.box p.out (by decide) k.out);have F:=h! (n6! o.out A.out.size);have y:=h! (ab! ⟨#[45,62]⟩ q (by have:=f.out;rw[n3!];show _+2<=_;omega) (by have:=g.out;rw[n3!];omega) F.out);clear U q r;go_wp2_with fail
    refine y.out.mono ?_;rintro e w5 ⟨rfl,t,s⟩;have C:=h! (pZ!.next A.out s);have J:=h! (s.box I.out (by decide) k.out);have O:=J.out.cells;have K:=h! (n6! o.out C.out.size);have z:=h! (aB! ⟨#[]⟩ t (by have:=f.out;rw[n3!,n3!];show _+2+_<=_;omega) (by have:=g.out;rw[n3!,n3!];omega) (by have:=f.out;unfold maxLen;omega) K.out);clear y t s;go_wp2_with fail
    refine z.out.mono ?_;rintro e w6 ⟨rfl,u,v⟩;have G:=h! u;have H:=h! (pZ!.next C.out v);clear z u v O;go_wp2_with fail
    go_end0
    exact⟨rfl,_,(by have:=G.out;rwa[<-Bool.not_and]at this),by simp only[n3!];omega,(by simp only[n3!];show _+_+2+_<=_;omega),fun _=>by simp only[y1!],H.out⟩
   ·have L:=am! hnra;clear hnra;rw[show(ownB ra&&ownB ⟨#[]⟩&&decide (0=0))=(ownB ra&&ownB ⟨#[]⟩)from by cases ownB ra <;> cases ownB ⟨#[]⟩ <;> rfl];have Z:=h! (Blk.made w #[.int .i64 3,.string ra,.string ⟨#[]⟩,.slice ao 0 c] 106);have i:=h! (Z.out.other (a:=⟨wb,2,none⟩) k.out (.bool false));have p:=h! (i.out.other (a:=⟨wb,2,none⟩) k.out (.bool false));have j:=h! ((D.out.up ((Below.refl _ w).alloc (n0! _) (.cells #[.int .i64 3,.string ra,.string ⟨#[]⟩,.slice ao 0 c] 106))).flag false);have l:=h! (j.out.flag false);have m:=h! (pZ!.next (pZ!.next (pZ!.of ((Below.refl _ w).alloc (n0! _) (.cells #[.int .i64 3,.string ra,.string ⟨#[]⟩,.slice ao 0 c] 106)) o.out) (pZ!.flag (b:=wb) HB.out (.bool false))) (pZ!.flag (b:=wb) HB.out (.bool false)));have R:=Z.out.cells;have T:=i.out.cells;have x2:=p.out.cells;obtain⟨Y,X⟩:=(D.out.up ((Below.refl _ w).alloc (n0! _) (.cells #[.int .i64 3,.string ra,.string ⟨#[]⟩,.slice ao 0 c] 106))).odd2;obtain⟨N,V⟩:=j.out.odd2;obtain⟨Q,f2⟩:=l.out.odd2;go_enter func190,ntmps190
    go_wp2_with fail
    obtain⟨w3,x⟩:=e! (((w.alloc (.cells #[.int .i64 3,.string ra,.string ⟨#[]⟩,.slice ao 0 c] 106)).setCell ⟨wb,2,none⟩ (.bool false)).setCell ⟨wb,2,none⟩ (.bool false));rw[<-x]at p l m ⊢;clear x Z i j R T x2 Y N Q X V f2;have E:=h! (n6! o.out m.out.size);have U:=h! (aB! ra l.out (by have:=f.out;omega) g.out (by have:=f.out;unfold maxLen;omega) E.out);refine U.out.mono ?_;rintro e w4 ⟨rfl,q,r⟩;rw[Bool.false_or]at q;have A:=h! (pZ!.next m.out r);have I:=h! (r.box p.out (by decide) k.out);have F:=h! (n6! o.out A.out.size);have y:=h! (ab! ⟨#[45,62]⟩ q (by have:=f.out;rw[n3!];show _+2<=_;omega) (by have:=g.out;rw[n3!];omega) F.out);clear U q r;go_wp2_with fail
    refine y.out.mono ?_;rintro e w5 ⟨rfl,t,s⟩;have C:=h! (pZ!.next A.out s);have J:=h! (s.box I.out (by decide) k.out);have O:=J.out.cells;have K:=h! (n6! o.out C.out.size);have z:=h! (aB! ⟨#[]⟩ t (by have:=f.out;rw[n3!,n3!];show _+2+_<=_;omega) (by have:=g.out;rw[n3!,n3!];omega) (by have:=f.out;unfold maxLen;omega) K.out);clear y t s;go_wp2_with fail
    refine z.out.mono ?_;rintro e w6 ⟨rfl,u,v⟩;have G:=h! u;have H:=h! (pZ!.next C.out v);clear z u v O;go_wp2_with fail
    go_end0
    exact⟨rfl,_,(by have:=G.out;rwa[<-Bool.not_and]at this),by simp only[n3!];omega,(by simp only[n3!];show _+_+2+_<=_;omega),fun _=>by simp only[y1!],H.out⟩
  ·have a0:=am! hnrb;clear hnrb;by_cases hnra:ra.size=0
   ·obtain rfl:=ae! hnra;clear hnra;rw[show(ownB ⟨#[]⟩&&ownB rb&&decide (0=0))=(ownB ⟨#[]⟩&&ownB rb)from by cases ownB ⟨#[]⟩ <;> cases ownB rb <;> rfl];have Z:=h! (Blk.made w #[.int .i64 3,.string ⟨#[]⟩,.string rb,.slice ao 0 c] 106);have i:=h! (Z.out.other (a:=⟨wb,2,none⟩) k.out (.bool false));have p:=h! (i.out.other (a:=⟨wb,2,none⟩) k.out (.bool false));have j:=h! ((D.out.up ((Below.refl _ w).alloc (n0! _) (.cells #[.int .i64 3,.string ⟨#[]⟩,.string rb,.slice ao 0 c] 106))).flag false);have l:=h! (j.out.flag false);have m:=h! (pZ!.next (pZ!.next (pZ!.of ((Below.refl _ w).alloc (n0! _) (.cells #[.int .i64 3,.string ⟨#[]⟩,.string rb,.slice ao 0 c] 106)) o.out) (pZ!.flag (b:=wb) HB.out (.bool false))) (pZ!.flag (b:=wb) HB.out (.bool false)));have R:=Z.out.cells;have T:=i.out.cells;have x2:=p.out.cells;obtain⟨Y,X⟩:=(D.out.up ((Below.refl _ w).alloc (n0! _) (.cells #[.int .i64 3,.string ⟨#[]⟩,.string rb,.slice ao 0 c] 106))).odd2;obtain⟨N,V⟩:=j.out.odd2;obtain⟨Q,f2⟩:=l.out.odd2;go_enter func190,ntmps190
    go_wp2_with fail
    obtain⟨w3,x⟩:=e! (((w.alloc (.cells #[.int .i64 3,.string ⟨#[]⟩,.string rb,.slice ao 0 c] 106)).setCell ⟨wb,2,none⟩ (.bool false)).setCell ⟨wb,2,none⟩ (.bool false));rw[<-x]at p l m ⊢;clear x Z i j R T x2 Y N Q X V f2;have E:=h! (n6! o.out m.out.size);have U:=h! (aB! ⟨#[]⟩ l.out (by have:=f.out;omega) g.out (by have:=f.out;unfold maxLen;omega) E.out);refine U.out.mono ?_;rintro e w4 ⟨rfl,q,r⟩;rw[Bool.false_or]at q;have A:=h! (pZ!.next m.out r);have I:=h! (r.box p.out (by decide) k.out);have F:=h! (n6! o.out A.out.size);have y:=h! (ab! ⟨#[45,62]⟩ q (by have:=f.out;rw[n3!];show _+2<=_;omega) (by have:=g.out;rw[n3!];omega) F.out);clear U q r;go_wp2_with fail
    refine y.out.mono ?_;rintro e w5 ⟨rfl,t,s⟩;have C:=h! (pZ!.next A.out s);have J:=h! (s.box I.out (by decide) k.out);have O:=J.out.cells;have K:=h! (n6! o.out C.out.size);have z:=h! (aB! rb t (by have:=f.out;rw[n3!,n3!];show _+2+_<=_;omega) (by have:=g.out;rw[n3!,n3!];omega) (by have:=f.out;unfold maxLen;omega) K.out);clear y t s;go_wp2_with fail
    refine z.out.mono ?_;rintro e w6 ⟨rfl,u,v⟩;have G:=h! u;have H:=h! (pZ!.next C.out v);clear z u v O;go_wp2_with fail
    go_end0
    exact⟨rfl,_,(by have:=G.out;rwa[<-Bool.not_and]at this),by simp only[n3!];omega,(by simp only[n3!];show _+_+2+_<=_;omega),fun _=>by simp only[y1!],H.out⟩
   ·have L:=am! hnra;clear hnra;rw[show(ownB ra&&ownB rb&&decide (0=0))=(ownB ra&&ownB rb)from by cases ownB ra <;> cases ownB rb <;> rfl];have Z:=h! (Blk.made w #[.int .i64 3,.string ra,.string rb,.slice ao 0 c] 106);have i:=h! (Z.out.other (a:=⟨wb,2,none⟩) k.out (.bool false));have p:=h! (i.out.other (a:=⟨wb,2,none⟩) k.out (.bool false));have j:=h! ((D.out.up ((Below.refl _ w).alloc (n0! _) (.cells #[.int .i64 3,.string ra,.string rb,.slice ao 0 c] 106))).flag false);have l:=h! (j.out.flag false);have m:=h! (pZ!.next (pZ!.next (pZ!.of ((Below.refl _ w).alloc (n0! _) (.cells #[.int .i64 3,.string ra,.string rb,.slice ao 0 c] 106)) o.out) (pZ!.flag (b:=wb) HB.out (.bool false))) (pZ!.flag (b:=wb) HB.out (.bool false)));have R:=Z.out.cells;have T:=i.out.cells;have x2:=p.out.cells;obtain⟨Y,X⟩:=(D.out.up ((Below.refl _ w).alloc (n0! _) (.cells #[.int .i64 3,.string ra,.string rb,.slice ao 0 c] 106))).odd2;obtain⟨N,V⟩:=j.out.odd2;obtain⟨Q,f2⟩:=l.out.odd2;go_enter func190,ntmps190
    go_wp2_with fail
    obtain⟨w3,x⟩:=e! (((w.alloc (.cells #[.int .i64 3,.string ra,.string rb,.slice ao 0 c] 106)).setCell ⟨wb,2,none⟩ (.bool false)).setCell ⟨wb,2,none⟩ (.bool false));rw[<-x]at p l m ⊢;clear x Z i j R T x2 Y N Q X V f2;have E:=h! (n6! o.out m.out.size);have U:=h! (aB! ra l.out (by have:=f.out;omega) g.out (by have:=f.out;unfold maxLen;omega) E.out);refine U.out.mono ?_;rintro e w4 ⟨rfl,q,r⟩;rw[Bool.false_or]at q;have A:=h! (pZ!.next m.out r);have I:=h! (r.box p.out (by decide) k.out);have F:=h! (n6! o.out A.out.size);have y:=h! (ab! ⟨#[45,62]⟩ q (by have:=f.out;rw[n3!];show _+2<=_;omega) (by have:=g.out;rw[n3!];omega) F.out);clear U q r;go_wp2_with fail
    refine y.out.mono ?_;rintro e w5 ⟨rfl,t,s⟩;have C:=h! (pZ!.next A.out s);have J:=h! (s.box I.out (by decide) k.out);have O:=J.out.cells;have K:=h! (n6! o.out C.out.size);have z:=h! (aB! rb t (by have:=f.out;rw[n3!,n3!];show _+2+_<=_;omega) (by have:=g.out;rw[n3!,n3!];omega) (by have:=f.out;unfold maxLen;omega) K.out);clear y t s;go_wp2_with fail
    refine z.out.mono ?_;rintro e w6 ⟨rfl,u,v⟩;have G:=h! u;have H:=h! (pZ!.next C.out v);clear z u v O;go_wp2_with fail
    go_end0
    exact⟨rfl,_,(by have:=G.out;rwa[<-Bool.not_and]at this),by simp only[n3!];omega,(by simp only[n3!];show _+_+2+_<=_;omega),fun _=>by simp only[y1!],H.out⟩
theorem kH! {B wb:Nat}(r:RT):∀(pv:Value)(d:Nat)(w:World)(text:ByteArray),RTAt (· < B) w r pv->text.size+r.wt<=1099511627776->0<text.size->d<=8->WrB w B wb text false->B<=w.heap.size ->
  Calls prog 190 #[.pointer (some ⟨wb,0,none⟩),rV r pv,.int .i64 d] w (WRes B wb w text (r.textOk d) r.text r.wt):=by
 induction r using RT.ind with
 | h r ih =>
 intro pv d w text hat hlim hpos hd hw hbw;have m:=hat.rows;obtain⟨k,a,b,ps⟩:=r;dsimp only[RT.ps]at ih m;rw[RT.wt]at hlim;obtain⟨v,c,j,-⟩:=m;by_cases k1:k=1
 ·subst k1 j;refine(ow! a b ps.length v c d hw hbw hpos (by omega)).mono ?_;rintro e x ⟨rfl,t,g,i,n,f,y⟩;exact⟨rfl,t,by rw[RT.textOk];exact g,i,by rw[RT.wt];omega,fun h=>by rw[RT.textOk]at h;rw[RT.text];exact f h,y⟩
 by_cases k2:k=2
 ·subst k2 j;refine(ov! a b ps.length v c d hw hbw hpos (by omega)).mono ?_;rintro e x ⟨rfl,t,g,i,n,f,y⟩;exact⟨rfl,t,by rw[RT.textOk];exact g,i,by rw[RT.wt];omega,fun h=>by rw[RT.textOk]at h;rw[RT.text];exact f h,y⟩
 by_cases k3:k=3
 ·subst k3 j;refine(ou! a b ps.length v c d hw hbw hpos (by omega)).mono ?_;rintro e x ⟨rfl,t,g,i,n,f,y⟩;exact⟨rfl,t,by rw[RT.textOk];exact g,i,by rw[RT.wt];omega,fun h=>by rw[RT.textOk]at h;rw[RT.text];exact f h,y⟩
 by_cases k4:k=4
 ·subst k4;by_cases hg:a.size=0/\b.size=0/\2<=ps.length
  ·obtain⟨o,q,l⟩:=hg;obtain rfl:=ae! o;obtain rfl:=ae! q
   have u:(RT.mk 4 ⟨#[]⟩ ⟨#[]⟩ ps).textOk d=ps.all (goodP 4 d):=by
    rw[RT.textOk,bX!,v2! l];rfl
   refine(mT! ps d hd pv hw hbw hat hpos (by omega) l (fun p hp pv d w text h1 h2 s h4 h5 h6=>ih p hp pv d w text h1 h2 s h4 h5 h6)).mono ?_;rintro e x ⟨rfl,t,g,i,n,f,y⟩;exact⟨rfl,t,by rw[u];exact g,i,by rw[RT.wt];omega,fun h=>by rw[u]at h;rw[RT.text];exact f h,y⟩
  ·have u:(RT.mk 4 a b ps).textOk d=false:=by
    rw[RT.textOk];by_cases h1:a.size=0
    ·by_cases h2:b.size=0
     ·have s:¬ 2<=ps.length:=fun s=>hg ⟨h1,h2,s⟩;simp[h1,h2,s]
     ·simp[h2]
    ·simp[h1]
   rw[u];subst j;exact hp! a b ps.length v c d hw hbw hg
 by_cases k5:k=5
 ·subst k5;by_cases hg:a.size=0/\b.size=0/\2<=ps.length
  ·obtain⟨o,q,l⟩:=hg;obtain rfl:=ae! o;obtain rfl:=ae! q
   have u:(RT.mk 5 ⟨#[]⟩ ⟨#[]⟩ ps).textOk d=ps.all (goodP 5 d):=by
    rw[RT.textOk,bX!,v2! l];rfl
   refine(mS! ps d hd pv hw hbw hat hpos (by omega) l (fun p hp pv d w text h1 h2 s h4 h5 h6=>ih p hp pv d w text h1 h2 s h4 h5 h6)).mono ?_;rintro e x ⟨rfl,t,g,i,n,f,y⟩;exact⟨rfl,t,by rw[u];exact g,i,by rw[RT.wt];omega,fun h=>by rw[u]at h;rw[RT.text];exact f h,y⟩
  ·have u:(RT.mk 5 a b ps).textOk d=false:=by
    rw[RT.textOk];by_cases h1:a.size=0
    ·by_cases h2:b.size=0
     ·have s:¬ 2<=ps.length:=fun s=>hg ⟨h1,h2,s⟩;simp[h1,h2,s]
     ·simp[h2]
    ·simp[h1]
   rw[u];subst j;exact ho! a b ps.length v c d hw hbw hg
 have u:(RT.mk k a b ps).textOk d=false:=by rw[RT.textOk,if_neg k1,if_neg k2,if_neg k3,if_neg (by omega)]
 rw[u];subst j;refine(ot! k a b ps.length v c d hw hbw (by rw[n7!];exact k1) (by rw[n7!];exact k2) (by rw[n7!];exact k3) (by rw[n7!];exact k4) (by rw[n7!];exact k5)).mono ?_;rintro e x ⟨rfl,t,g,i,n,f,y⟩;exact⟨rfl,t,g,i,by rw[RT.wt];omega,(fun h=>by cases h),y⟩
theorem dp! {B wb:Nat}(r:RT)(pv:Value)(d:Nat)(w:World)(text:ByteArray)(o:Bool)(hat:RTAt (· < B) w r pv)(hlim:text.size+r.wt<=1099511627776)(hpos:0<text.size)(hd:d<=8)(hw:WrB w B wb text o)(hbw:B<=w.heap.size) :
  Calls prog 190 #[.pointer (some ⟨wb,0,none⟩),rV r pv,.int .i64 d] w fun e w'=>e= .returned (.tuple #[])/\∃text',WrB w' B wb text' (o||!r.textOk d)/\text.size<=text'.size/\text'.size<=text.size+r.wt/\(o=false->r.textOk d=true->text'=text++r.text)/\pZ! B wb w w':=by
 cases o with
 | true =>
  obtain⟨ao,c,rfl,-⟩:=hat.rows;refine(eu! r.k r.a r.b r.ps.length ao c d hw hbw).mono ?_;rintro e w5 ⟨rfl,h1,h2⟩;exact⟨rfl,text,h1,n0! _,Nat.le_add_right _ _,(fun h=>by cases h),h2⟩
 | false =>
  refine(kH! r pv d w text hat hlim hpos hd hw hbw).mono ?_;rintro e w5 ⟨rfl,t,h1,h2,h3,h4,h5⟩;exact⟨rfl,t,by rw[Bool.false_or];exact h1,h2,h3,fun _=>h4,h5⟩
def relT (x:ByteArray × RT):ByteArray:=x.1++⟨#[32,61,32]⟩++x.2.text++⟨#[10]⟩
def relsT:List (ByteArray × RT)->ByteArray | []=>ByteArray.empty | x::l=>relT x++relsT l
def tyT (t:TyS):ByteArray:=⟨#[116,121,112,101,32]⟩++t.name++⟨#[10]⟩++relsT t.rels
def schT:List TyS->ByteArray | []=>ByteArray.empty | t::ts=>tyT t++schT ts
theorem bZ! (a b:List (ByteArray × RT)):relsT (a++b)=relsT a++relsT b:=by
 induction a with
 | nil=>rw[y2!,relsT,ByteArray.empty_append]
 | cons x a ih=>rw[x2!,relsT,relsT,ih,y1!]
theorem hL! (a b:List TyS):schT (a++b)=schT a++schT b:=by
 induction a with
 | nil=>rw[y2!,schT,ByteArray.empty_append]
 | cons x a ih=>rw[x2!,schT,schT,ih,y1!]
def relB:List (ByteArray × RT)->Nat | []=>0 | x::l=>(10+x.1.size+x.2.wt)+relB l
def schB:List TyS->Nat | []=>0 | t::ts=>(10+t.name.size+relB t.rels)+schB ts
theorem em! (a b:List (ByteArray × RT)):relB (a++b)=relB a+relB b:=by
 induction a with
 | nil=>simp[relB]
 | cons x a ih=>rw[x2!,relB,relB,ih];omega
theorem ek! (a b:List TyS):schB (a++b)=schB a+schB b:=by
 induction a with
 | nil=>simp[schB]
 | cons x a ih=>rw[x2!,schB,schB,ih];omega
theorem gL! {l:List (ByteArray × RT)}{i:Nat}(hi:i<l.length):relB (l.take (i+1))=relB (l.take i)+(10+l[i].1.size+l[i].2.wt):=by
 rw[n2! hi,em!];simp[relB]
theorem lf! {l:List TyS}{i:Nat}(hi:i<l.length):schB (l.take (i+1))=schB (l.take i)+(10+l[i].name.size+relB l[i].rels):=by
 rw[n2! hi,ek!];simp[schB]
theorem oJ! (l:List (ByteArray × RT))(i:Nat):relB (l.take i)<=relB l:=by
 conv=>rhs;rw[<-x6! i l]
 rw[em!];omega
theorem oF! (l:List TyS)(i:Nat):schB (l.take i)<=schB l:=by
 conv=>rhs;rw[<-x6! i l]
 rw[ek!];omega
theorem im! (ts:List TyS)(tv:Value)(w:World)(h:pY! (· < w.heap.size) w ts tv)(hsz:schB ts<=549755813888):Calls prog 129 #[.agg #[tv]] w fun e w'=>e= .returned (.tuple #[.string (if br! ts then schT ts else⟨#[]⟩),.int .i64 (prN (br! ts))])/\Below w.heap.size w w':=by
 obtain⟨ao,c,rfl,bh,bi,Z⟩:=h.rows;have HC:=h! Z;have aG:=h! hsz;generalize hg:br! ts=g;have HG:Hid (g=ts.all tyOk):=h! hg.symm;have aC:=Blk.made w #[.slice ao ts.length c] 26;have aQ:Below w.heap.size w (w.alloc (.cells #[.slice ao ts.length c] 26)):=(Below.refl _ _).alloc (n0! _) _;have an:=Blk.made (w.alloc (.cells #[.slice ao ts.length c] 26)) #[.pointer none,.slice none 0 0,.bool false] 298;have ac:Below w.heap.size w ((w.alloc (.cells #[.slice ao ts.length c] 26)).alloc (.cells #[.pointer none,.slice none 0 0,.bool false] 298)):=aQ.alloc (by simp) _;have X:=h! ac;have s:=(aC.alloc (.cells #[.pointer none,.slice none 0 0,.bool false] 298)).cells;rw[World.size_alloc]at an;have b9:=aC.cells;have ag:=h! an;clear h Z hsz hg aC aQ ac an;go_enter func129,ntmps129
 go_wp2_with fail
 obtain⟨w2,aH⟩:=e! ((w.alloc (.cells #[.slice ao ts.length c] 26)).alloc (.cells #[.pointer none,.slice none 0 0,.bool false] 298));rw[<-aH]at X ag ⊢;obtain⟨wb,aK⟩:=e! (w.heap.size+1);rw[<-aK]at ag ⊢;have aP:Hid (WrB w2 w.heap.size wb ⟨#[]⟩ false):=h! ⟨by omega,_,_,.inl rfl,ag.out,Own.nil _ _ _ _,fun _=>rfl⟩;have z:=h! X.out.size;have bj:Hid (wb<w2.heap.size):=h! ag.out.lt;clear b9 s aH aK;go_loopw [14] (fun ii wr=>∃(i:Nat) (t:ByteArray) (o:Bool),i<=ts.length/\ii= .int .i64 i/\o=!((ts.take i).all tyOk)/\WrB wr w.heap.size wb t o/\t.size<=schB (ts.take i)/\(o=false->t=schT (ts.take i))/\pZ! w.heap.size wb w2 wr) (fun ii _=>ts.length-(intOf ii).toNat)
 case atStart=>exact⟨0,⟨#[]⟩,false,by omega,rfl,rfl,aP.out,v1! _,fun _=>rfl,Kept.refl _ _⟩
 case round =>
  obtain⟨i,t,o,hi,rfl,ho,hw,aT,hj,hk⟩:=hrel;have HO:=h! ho;have HW:=h! hw;have HJ:=h! hj;have am:=h! aT;clear aP ho hw hj aT;by_cases hlt:i<ts.length
  ·have r:Below w.heap.size w wr:=X.out.trans hk.below;have aj:=lf! hlt;have au:=oF! ts (i+1);have b6:=aG.out;have b7:=h! aj;rw[aj]at au;have be:=h! au;have ab:=h! hlt;obtain⟨bb,V,bg,ay,hb,c0,c1,F⟩:=HC.out i hlt;cases ay;have d0:=(r.cell (p:=⟨bb,V+i*2,none⟩) hb).trans c0;have d1:=(r.cell (p:=⟨bb,V+i*2+1,none⟩) hb).trans c1;generalize hti:ts[i]=ty at *;have aE:=h! hti;obtain⟨tn,d⟩:=ty;dsimp only at *;obtain⟨ak,av,rfl,b2,aY,H⟩:=F.rows;have aV:=h! H;have aA:=h! (Blk.made wr #[.string tn,.slice ak d.length av] 176);have ap:=h! (show wr.heap.size≠wb from by have:=HW.out.lt;omega);have aB:=h! (pZ!.next hk (pZ!.of (b:=wb) ((Below.refl _ wr).alloc (n0! _) (.cells #[.string tn,.slice ak d.length av] 176)) (n6! z.out hk.size)));have aR:=h! (HW.out.up ((Below.refl _ wr).alloc (n0! _) (.cells #[.string tn,.slice ak d.length av] 176)));have b5:=aA.out.cells;have D:=h! (show t.size+(10+tn.size+relB d)<=549755813888 from by have:=am.out;omega);have aS:=h! (ab! ⟨#[116,121,112,101,32]⟩ aR.out (by have:=D.out;show _+5<=_;omega) (by show 0<_+5;omega) (n6! z.out aB.out.size));clear c0 c1 F H r aj au b6 hti hk;go_wp2_with fail
   refine aS.out.mono ?_;rintro e wa ⟨rfl,m,l⟩;have A:=h! (pZ!.next aB.out l);have ai:=h! (l.box aA.out (by decide) ap.out);have ax:=ai.out.cells;have J:=h! (aB! tn m (by have:=D.out;rw[n3!];show _+5+_<=_;omega) (by rw[n3!];show 0<_+5;omega) (by have:=D.out;unfold maxLen;omega) (n6! z.out A.out.size));clear aS m l b5 d0 d1 aB aR aA;go_wp2_with fail
   refine J.out.mono ?_;rintro e az ⟨rfl,m,l⟩;have u:=h! (pZ!.next A.out l);have aO:=h! (l.box ai.out (by decide) ap.out);have v:=h! (ab! ⟨#[10]⟩ m (by have:=D.out;simp only[n3!];show _+5+_+1<=_;omega) (by rw[n3!];show 0<_+1;omega) (n6! z.out u.out.size));clear J m l ax A ai;go_wp2_with fail
   refine v.out.mono ?_;rintro e wc ⟨rfl,m,l⟩;have E:=h! (pZ!.next u.out l);have bf:=h! (l.box aO.out (by decide) ap.out);have b4:=bf.out.cells;obtain⟨t1,af⟩:=e! (t++⟨#[116,121,112,101,32]⟩++tn++⟨#[10]⟩);obtain⟨g1,al⟩:∃g1,(o||!ownB tn)=!g1:=⟨!(o||!ownB tn),by simp⟩;rw[<-af,al]at m
   have s:t1.size=t.size+6+tn.size:=by
    rw[af];simp only[n3!];rw[show(⟨#[116,121,112,101,32]⟩:ByteArray).size=5 from rfl,show(⟨#[10]⟩:ByteArray).size=1 from rfl];omega
   have aN:=h! s;have bd:=h! af;have aJ:=h! al;have aF:=h! m;clear v m l u aO s af al;go_wp2_with fail
   clear b4;go_loopw [33] (fun jj wr=>∃(j:Nat) (t2:ByteArray) (o:Bool),j<=d.length/\jj= .int .i64 j/\o=!(g1&&(d.take j).all relOk)/\WrB wr w.heap.size wb t2 o/\0<t2.size/\t2.size<=schB (ts.take i)+(10+tn.size)+relB (d.take j)/\(o=false->t2=t1++relsT (d.take j))/\pZ! w.heap.size wb w2 wr) (fun jj _=>d.length-(intOf jj).toNat)
   case atStart=>exact⟨0,t1,_,by omega,rfl,by simp,aF.out,by have:=aN.out;omega,by have:=aN.out;have:=am.out;omega,fun _=>by rw[List.take_zero];exact(ByteArray.append_empty).symm,E.out⟩
   case round =>
    obtain⟨j,t2,o2,hj,rfl,ho,hw,s,C,aI,hk⟩:=hrel;have aq:=h! hw;have M:=h! ho;have a7:=h! aI;have n:=h! (And.intro s C);clear aF E ho hw aI s C;by_cases hlt:j<d.length
    ·have r:Below w.heap.size w wr:=X.out.trans hk.below;have aw:=h! (gL! hlt)
     have f:=h! (show schB (ts.take i)+(10+tn.size)+relB (d.take j)+(10+d[j].1.size+d[j].2.wt)<=549755813888 from by
      have h1:=be.out;have h2:=aG.out;have h3:=oJ! d (j+1);rw[gL! hlt]at h3;omega)
     have B:=h! hlt;obtain⟨bb,V,bg,ay,hb,c0,c1,c2,c3,c4,F⟩:=aV.out j hlt;cases ay;have d0:=(r.cell (p:=⟨bb,V+j*5,none⟩) hb).trans c0;have d1:=(r.cell (p:=⟨bb,V+j*5+1,none⟩) hb).trans c1;have d2:=(r.cell (p:=⟨bb,V+j*5+2,none⟩) hb).trans c2;have d3:=(r.cell (p:=⟨bb,V+j*5+3,none⟩) hb).trans c3;have d4:=(r.cell (p:=⟨bb,V+j*5+4,none⟩) hb).trans c4;obtain⟨ar,ah,rfl,-⟩:=F.rows;have a3:=h! F;generalize hxe:d[j]=x at *;have a6:=h! hxe;obtain⟨xn,p⟩:=x;dsimp only at *;have O:=h! (Blk.made wr #[.string xn,.int .i64 p.k,.string p.a,.string p.b,.slice ar p.ps.length ah] 181);have N:=h! (show wr.heap.size≠wb from by have:=aq.out.lt;omega);have a5:=h! (pZ!.next hk (pZ!.of (b:=wb) ((Below.refl _ wr).alloc (n0! _) (.cells #[.string xn,.int .i64 p.k,.string p.a,.string p.b,.slice ar p.ps.length ah] 181)) (n6! z.out hk.size)));have G:=h! (aq.out.up ((Below.refl _ wr).alloc (n0! _) (.cells #[.string xn,.int .i64 p.k,.string p.a,.string p.b,.slice ar p.ps.length ah] 181)));clear c0 c1 c2 c3 c4 F r hxe hk hlt;cases o2 with
     | true =>
      have I:=h! (G.out.flag true);have L:=h! (pZ!.next a5.out (pZ!.flag (b:=wb) G.out.1 (.bool true)));have K:=h! (O.out.other (a:=⟨wb,2,none⟩) N.out (.bool true));have M:=h! (show(!(g1&&(d.take j).all relOk))=true from M.out.symm);have HN:=h! (aB! xn I.out (by have:=n.out;have:=f.out;omega) (by have:=n.out;omega) (by have:=n.out;have:=f.out;unfold maxLen;omega) (n6! z.out L.out.size));obtain⟨ee,fe⟩:=G.out.odd2;obtain⟨es,fs⟩:=I.out.odd2;have xs:=K.out.cells;have xj:=O.out.cells;go_wp2_with fail
      refine HN.out.mono ?_;rintro e wa ⟨rfl,m,l⟩;have A:=h! (pZ!.next L.out l);have a2:=h! (l.box K.out (by decide) N.out);have J:=h! (ab! ⟨#[32,61,32]⟩ m (by have:=n.out;have:=f.out;rw[n3!];show _+3<=_;omega) (by rw[n3!];show 0<_+3;omega) (n6! z.out A.out.size));clear HN m l ee fe es fs xs xj K I L O G a5;go_wp2_with fail
      refine J.out.mono ?_;rintro e az ⟨rfl,m,l⟩;have u:=h! (pZ!.next A.out l);have R:=h! (l.box a2.out (by decide) N.out);have xb:=R.out.cells;have v:=h! (dp! p _ 0 _ _ _ (a3.out.same (Same.below (X.out.trans u.out.below))) (by have:=n.out;have:=f.out;simp only[n3!];show _+3+_<=_;omega) (by simp only[n3!];show 0<_+3;omega) (by omega) m (n6! z.out u.out.size));unfold rV at v;rw[show((0:Nat):Int)=0 from rfl]at v;clear J m l a2 A;go_wp2_with fail
      refine v.out.mono ?_;rintro e wc ⟨rfl,t4,Y,s,C,y,Q⟩;have E:=h! (pZ!.next u.out Q);simp only[n3!]at s C;rw[show(⟨#[32,61,32]⟩:ByteArray).size=3 from rfl]at s C;have a1:=h! (ab! ⟨#[10]⟩ Y (by have:=n.out;have:=f.out;show _+1<=_;omega) (by show 0<_+1;omega) (n6! z.out E.out.size))
      have U:=h! (show 0<(t4++⟨#[10]⟩).size/\(t4++⟨#[10]⟩).size<=schB (ts.take i)+(10+tn.size)+relB (d.take (j+1))from by
       have:=n.out;have:=aw.out;rw[n3!,show(⟨#[10]⟩:ByteArray).size=1 from rfl];omega)
      have a9:=h! (show(true||!ownB xn||!p.textOk 0)=!(g1&&(d.take (j+1)).all relOk)from by
       have he:d[j]'B.out=(xn,p):=a6.out;rw[n2! B.out,List.all_append,he];show _=!(g1&&((d.take j).all relOk&&(relOk (xn,p)&&true)))
       have:=M.out;revert this
       cases g1 <;> cases (d.take j).all relOk <;> simp)
      have a8:=h! (show(true||!ownB xn||!p.textOk 0)=false->t4++⟨#[10]⟩=t1++relsT (d.take (j+1))from fun h=>by
       simp only[Bool.or_eq_false_iff,Bool.not_eq_false']at h;have he:d[j]'B.out=(xn,p):=a6.out;rw[y (by simp[h.1.1,h.1.2]) h.2,a7.out (by have:=h.1.1;cases this),n2! B.out,bZ!,he];show _=t1++(relsT (d.take j)++(relT (xn,p)++ByteArray.empty))
       rw[ByteArray.append_empty];unfold relT;dsimp only;simp only[y1!])
      have a4:=B.out;clear v Y s C y Q xb R u;go_wp2_with fail
      refine a1.out.mono ?_;rintro e wd ⟨rfl,a0,T⟩;have ae:=h! a0;have ad:=h! (pZ!.next E.out T);clear a1 a0 T E d0 d1 d2 d3 d4;go_wp2_with fail
      go_roundw
      case rel=>exact⟨j+1,t4++⟨#[10]⟩,_,by omega,by go_num,a9.out,ae.out,U.out.1,U.out.2,a8.out,ad.out⟩
      case measure=>simp[intOf];omega
     | false =>
      have M:=h! (show(g1&&(d.take j).all relOk)=true from by have:=M.out;simpa using this);by_cases hty:xn=⟨#[116,121,112,101]⟩
      ·have I:=h! (G.out.flag true);have L:=h! (pZ!.next a5.out (pZ!.flag (b:=wb) G.out.1 (.bool true)));have K:=h! (O.out.other (a:=⟨wb,2,none⟩) N.out (.bool true));subst hty;have HN:=h! (aB! ⟨#[116,121,112,101]⟩ I.out (by have:=n.out;have:=f.out;omega) (by have:=n.out;omega) (by have:=n.out;have:=f.out;unfold maxLen;omega) (n6! z.out L.out.size));obtain⟨ee,fe⟩:=G.out.odd2;obtain⟨es,fs⟩:=I.out.odd2;have xs:=K.out.cells;have xj:=O.out.cells;go_wp2_with fail
       refine HN.out.mono ?_;rintro e wa ⟨rfl,m,l⟩;have A:=h! (pZ!.next L.out l);have a2:=h! (l.box K.out (by decide) N.out);have J:=h! (ab! ⟨#[32,61,32]⟩ m (by have:=n.out;have:=f.out;rw[n3!];show _+3<=_;omega) (by rw[n3!];show 0<_+3;omega) (n6! z.out A.out.size));clear HN m l ee fe es fs xs xj K I L O G a5;go_wp2_with fail
       refine J.out.mono ?_;rintro e az ⟨rfl,m,l⟩;have u:=h! (pZ!.next A.out l);have R:=h! (l.box a2.out (by decide) N.out);have xb:=R.out.cells;have v:=h! (dp! p _ 0 _ _ _ (a3.out.same (Same.below (X.out.trans u.out.below))) (by have:=n.out;have:=f.out;simp only[n3!];show _+3+_<=_;omega) (by simp only[n3!];show 0<_+3;omega) (by omega) m (n6! z.out u.out.size));unfold rV at v;rw[show((0:Nat):Int)=0 from rfl]at v;clear J m l a2 A;go_wp2_with fail
       refine v.out.mono ?_;rintro e wc ⟨rfl,t4,Y,s,C,y,Q⟩;have E:=h! (pZ!.next u.out Q);simp only[n3!]at s C;rw[show(⟨#[32,61,32]⟩:ByteArray).size=3 from rfl]at s C;have a1:=h! (ab! ⟨#[10]⟩ Y (by have:=n.out;have:=f.out;show _+1<=_;omega) (by show 0<_+1;omega) (n6! z.out E.out.size))
       have U:=h! (show 0<(t4++⟨#[10]⟩).size/\(t4++⟨#[10]⟩).size<=schB (ts.take i)+(10+tn.size)+relB (d.take (j+1))from by
        have:=n.out;have:=aw.out;rw[n3!,show(⟨#[10]⟩:ByteArray).size=1 from rfl];omega)
       have a9:=h! (show(true||!ownB ⟨#[116,121,112,101]⟩||!p.textOk 0)=!(g1&&(d.take (j+1)).all relOk)from by
        have he:d[j]'B.out=(⟨#[116,121,112,101]⟩,p):=a6.out;rw[n2! B.out,List.all_append,he];show _=!(g1&&((d.take j).all relOk&&(relOk (⟨#[116,121,112,101]⟩,p)&&true)))
        rw[show relOk (⟨#[116,121,112,101]⟩,p)=false from by unfold relOk;simp];simp)
       have a8:=h! (show(true||!ownB ⟨#[116,121,112,101]⟩||!p.textOk 0)=false->t4++⟨#[10]⟩=t1++relsT (d.take (j+1))from fun h=>by
        simp only[Bool.or_eq_false_iff,Bool.not_eq_false']at h;have he:d[j]'B.out=(⟨#[116,121,112,101]⟩,p):=a6.out;rw[y (by simp[h.1.1,h.1.2]) h.2,a7.out (by have:=h.1.1;cases this),n2! B.out,bZ!,he];show _=t1++(relsT (d.take j)++(relT (⟨#[116,121,112,101]⟩,p)++ByteArray.empty))
        rw[ByteArray.append_empty];unfold relT;dsimp only;simp only[y1!])
       have a4:=B.out;clear v Y s C y Q xb R u;go_wp2_with fail
       refine a1.out.mono ?_;rintro e wd ⟨rfl,a0,T⟩;have ae:=h! a0;have ad:=h! (pZ!.next E.out T);clear a1 a0 T E d0 d1 d2 d3 d4;go_wp2_with fail
       go_roundw
       case rel=>exact⟨j+1,t4++⟨#[10]⟩,_,by omega,by go_num,a9.out,ae.out,U.out.1,U.out.2,a8.out,ad.out⟩
       case measure=>simp[intOf];omega
      ·have b3:=h! hty;have aW:=aH! hty;rw[<-u5!,show(⟨#[116,121,112,101]⟩:ByteArray).data.toList=[116,121,112,101]from rfl]at aW;have I:=h! (G.out.flag false);have L:=h! (pZ!.next a5.out (pZ!.flag (b:=wb) G.out.1 (.bool false)));have K:=h! (O.out.other (a:=⟨wb,2,none⟩) N.out (.bool false));clear hty;have HN:=h! (aB! xn I.out (by have:=n.out;have:=f.out;omega) (by have:=n.out;omega) (by have:=n.out;have:=f.out;unfold maxLen;omega) (n6! z.out L.out.size));obtain⟨ee,fe⟩:=G.out.odd2;obtain⟨es,fs⟩:=I.out.odd2;have xs:=K.out.cells;have xj:=O.out.cells;go_wp2_with fail
       refine HN.out.mono ?_;rintro e wa ⟨rfl,m,l⟩;have A:=h! (pZ!.next L.out l);have a2:=h! (l.box K.out (by decide) N.out);have J:=h! (ab! ⟨#[32,61,32]⟩ m (by have:=n.out;have:=f.out;rw[n3!];show _+3<=_;omega) (by rw[n3!];show 0<_+3;omega) (n6! z.out A.out.size));clear HN m l ee fe es fs xs xj K I L O G a5;go_wp2_with fail
       refine J.out.mono ?_;rintro e az ⟨rfl,m,l⟩;have u:=h! (pZ!.next A.out l);have R:=h! (l.box a2.out (by decide) N.out);have xb:=R.out.cells;have v:=h! (dp! p _ 0 _ _ _ (a3.out.same (Same.below (X.out.trans u.out.below))) (by have:=n.out;have:=f.out;simp only[n3!];show _+3+_<=_;omega) (by simp only[n3!];show 0<_+3;omega) (by omega) m (n6! z.out u.out.size));unfold rV at v;rw[show((0:Nat):Int)=0 from rfl]at v;clear J m l a2 A;go_wp2_with fail
       refine v.out.mono ?_;rintro e wc ⟨rfl,t4,Y,s,C,y,Q⟩;have E:=h! (pZ!.next u.out Q);simp only[n3!]at s C;rw[show(⟨#[32,61,32]⟩:ByteArray).size=3 from rfl]at s C;have a1:=h! (ab! ⟨#[10]⟩ Y (by have:=n.out;have:=f.out;show _+1<=_;omega) (by show 0<_+1;omega) (n6! z.out E.out.size))
       have U:=h! (show 0<(t4++⟨#[10]⟩).size/\(t4++⟨#[10]⟩).size<=schB (ts.take i)+(10+tn.size)+relB (d.take (j+1))from by
        have:=n.out;have:=aw.out;rw[n3!,show(⟨#[10]⟩:ByteArray).size=1 from rfl];omega)
       have a9:=h! (show(false||!ownB xn||!p.textOk 0)=!(g1&&(d.take (j+1)).all relOk)from by
        have he:d[j]'B.out=(xn,p):=a6.out;rw[n2! B.out,List.all_append,he];show _=!(g1&&((d.take j).all relOk&&(relOk (xn,p)&&true)))
        rw[<-Bool.and_assoc,M.out];unfold relOk;dsimp only;rw[v2! b3.out];cases p.textOk 0 <;> cases ownB xn <;> rfl)
       have a8:=h! (show(false||!ownB xn||!p.textOk 0)=false->t4++⟨#[10]⟩=t1++relsT (d.take (j+1))from fun h=>by
        simp only[Bool.or_eq_false_iff,Bool.not_eq_false']at h;have he:d[j]'B.out=(xn,p):=a6.out;rw[y (by simp[h.1.2]) h.2,a7.out (by first | rfl | trivial),n2! B.out,bZ!,he];show _=t1++(relsT (d.take j)++(relT (xn,p)++ByteArray.empty))
        rw[ByteArray.append_empty];unfold relT;dsimp only;simp only[y1!])
       have a4:=B.out;clear v Y s C y Q xb R u;go_wp2_with fail
       refine a1.out.mono ?_;rintro e wd ⟨rfl,a0,T⟩;have ae:=h! a0;have ad:=h! (pZ!.next E.out T);clear a1 a0 T E d0 d1 d2 d3 d4;go_wp2_with fail
       go_roundw
       case rel=>exact⟨j+1,t4++⟨#[10]⟩,_,by omega,by go_num,a9.out,ae.out,U.out.1,U.out.2,a8.out,ad.out⟩
       case measure=>simp[intOf];omega
    ·obtain rfl:j=d.length:=by omega
     rw[u2!]at M a7 n
     have b1:=h! (show o2=!((ts.take (i+1)).all tyOk)from by
      have he:ts[i]'ab.out=⟨tn,d⟩:=aE.out;rw[M.out,n2! ab.out,List.all_append,he];show _=!((ts.take i).all tyOk&&(tyOk ⟨tn,d⟩&&true))
      have h1:=aJ.out;rw[HO.out]at h1;rw[show tyOk ⟨tn,d⟩=(ownB tn&&d.all relOk)from rfl];revert h1
      generalize (ts.take i).all tyOk=q;cases q <;> cases ownB tn <;> cases d.all relOk <;> cases g1 <;> simp)
     have aZ:=h! (show o2=false->t2=schT (ts.take (i+1))from fun h=>by
      have he:ts[i]'ab.out=⟨tn,d⟩:=aE.out
      rw[a7.out h,bd.out,HJ.out (by
       have h1:=M.out;have h2:=aJ.out;rw[h]at h1;revert h1 h2
       cases o <;> cases g1 <;> simp),n2! ab.out,hL!,he]
      show _=schT (ts.take i)++(tyT ⟨tn,d⟩++ByteArray.empty)
      rw[ByteArray.append_empty];unfold tyT;dsimp only;simp only[y1!])
     have aX:=h! (show t2.size<=schB (ts.take (i+1))from by have:=n.out;have:=b7.out;omega);have aU:=h! hk;have a4:=ab.out;clear hk;go_wp2_with fail
     go_roundw
     case rel=>exact⟨i+1,t2,o2,by omega,by go_num,b1.out,aq.out,aX.out,aZ.out,aU.out⟩
     case measure=>simp[intOf];omega
  ·obtain rfl:i=ts.length:=by omega
   rw[u2!]at HO HJ am;have aL:Hid (o=!g):=h! (by rw[HO.out,HG.out]);have aD:=h! (X.out.trans hk.below);obtain⟨ee,fe⟩:=HW.out.odd2;have aa:=h! (hn! HW.out);clear hk HO;cases o with
   | true =>
    have b0:g=false:=by have:=aL.out;revert this;cases g <;> simp
    subst b0;go_wp2_with fail
    go_ret2
    exact⟨rfl,aD.out⟩
   | false =>
    have ba:g=true:=by have:=aL.out;revert this;cases g <;> simp
    subst ba;have bc:=h! (HJ.out rfl);go_wp2_with fail
    refine aa.out.mono ?_;rintro e w9 ⟨rfl,aM⟩;have b8:=h! (aD.out.trans aM);clear aa aM ee fe;go_wp2_with fail
    go_ret2
    exact⟨by rw[bc.out];rfl,b8.out⟩
def nmsP (n:ByteArray)(l:List (ByteArray × RT)):List R2:=⟨n,ByteArray.empty⟩::l.map fun r=>⟨n,r.1⟩
theorem gS! {n:ByteArray}{l:List (ByteArray × RT)}{i:Nat}(hi:i<l.length):nmsP n (l.take (i+1))=nmsP n (l.take i)++[⟨n,l[i].1⟩]:=by
 rw[n2! hi];simp only[nmsP,v9!,v8!,List.map_nil,x2!]
theorem cT! (n:ByteArray)(l:List (ByteArray × RT)):(nmsP n l).length=1+l.length:=by simp[nmsP];omega
theorem js! (ts:List TyS)(i:Nat):(al! (ts.take i)).length<=(al! ts).length:=by
 conv=>rhs;rw[<-x6! i ts]
 simp only[al!,x9!,u4!];omega
theorem cF! (ts:List TyS)(tv:Value)(w:World)(h:pY! (· < w.heap.size) w ts tv)(hok:∀t∈ts,t.Ok)(hsB:schB ts<=549755813888)(hsz:∀t∈ts,∀r∈t.rels,r.2.sz<=1000000)(hln:(al! ts).length<=1099511627776)(hlr:(ac! ts).length<=1099511627776) :
  Calls prog 74 #[.agg #[tv]] w fun e w'=>e= .returned (.int .i64 (chk06 ts))/\Below w.heap.size w w':=by
 have bf:Below w.heap.size w (w.alloc (.cells #[tv] 26)):=(Below.refl _ _).alloc (n0! _) _;have bI:=h! (im! ts tv _ (h.up bf) hsB);have c9:=h! h;have bg:=h! hok;have c5:=h! hsz;have c8:=h! hln;have ch:=h! hlr;obtain⟨ao,c,rfl,co,cp,Z⟩:=h.rows;have HC:=h! Z;have bk:=Blk.made w #[.slice ao ts.length c] 26;have cg:=bk.cells;have cj:=h! bk;have bt:=h! bf;have cq:=@run_makeMap prog;have HG:Hid (chk06 ts=if br! ts then(if bR! ts then(if aU! ts then(if bG! ts then 0 else 2)else 3)else 10)else 9):=h! rfl;generalize chk06 ts=g at *;clear h Z hok hsB hsz bk bf hln hlr;go_enter func74,ntmps74
 go_wp2_with fail
 refine bI.out.mono ?_;rintro e w2 ⟨rfl,bl⟩;have aK:=h! (bt.out.trans (bl.mono bt.out.size));have b4:=h! (cj.out.below bl);clear bI bl cg;cases hp:br! ts with
 | false =>
  have HF:=h! (show g=9 from by rw[HG.out,hp];rfl);rw[show prN false=9 from rfl];clear hp;go_wp2_with fail
  go_ret
  exact⟨by rw[HF.out];rfl,aK.out⟩
 | true =>
  rw[show prN true=0 from rfl];have HP:=h! hp;clear hp;have s3:=(b4.out.alloc (.map #[] 0)).cells;go_wp2_with fail
  obtain⟨w3,aJ⟩:=e! (w2.alloc (.map #[] 0));rw[<-aJ]at s3 ⊢;obtain⟨bn,aO⟩:=e! w2.heap.size;rw[<-aO];have ba:Ext w2 w3:=xa! aJ
  have bw:=h! (show Mp prog 121 r2V bV w3 bn (blR [])from by rw[aJ,aO];exact Mp.made _);have aD:=h! (show w.heap.size<=bn from by rw[aO];exact aK.out.size);have af:Hid (Below w.heap.size w w3):=h! (aK.out.trans (Below.mono ba aK.out.size));have ce:=h! (b4.out.below ba);have cc:=h! (show w.heap.size≠bn from by have:=b4.out.lt;omega);clear aJ ba aO s3;obtain⟨G,a7⟩:=e! (decide (ts.length<=16));rw[show(decide ((16:Int)<(ts.length:Int)))=!G from by rw[a7];by_cases h:ts.length<=16 <;> simp[h] <;> omega];have b0:=h! a7;clear a7;go_loopw [6,7,30] (fun av lv ii wr=>∃(i:Nat) (N:List R2) (o:Bool),i<=ts.length/\ii= .int .i64 i/\av= .int .i64 (((al! (ts.take i)).length:Nat):Int)/\lv= .bool o/\o=!(G&&(ts.take i).all bi!)/\Mp prog 121 r2V bV wr bn (blR N)/\pT! (al! (ts.take i)) N/\Tk bn w3 wr) (fun _ _ ii _=>ts.length-(intOf ii).toNat)
  case atStart=>exact⟨0,[],!G,by omega,rfl,rfl,rfl,by simp,bw.out,pT!.nil,Tk.refl _ _⟩
  case round =>
   obtain⟨i,N,o,hi,rfl,rfl,rfl,ho,hm,hn,u⟩:=hrel;have HO:=h! ho;have HM:=h! hm;have HN:=h! hn;clear bw ho hm hn;by_cases hlt:i<ts.length
   ·have f:Below w.heap.size w wr:=af.out.trans (u.below af.out.size aD.out);obtain⟨bb,C,cn,aA,hb,c0,c1,l⟩:=HC.out i hlt;cases aA;have d0:=(f.cell (p:=⟨bb,C+i*2,none⟩) hb).trans c0;have d1:=(f.cell (p:=⟨bb,C+i*2+1,none⟩) hb).trans c1;have bm:=bg.out _ (n5! hlt);have aB:=h! (c5.out _ (n5! hlt));have a6:=h! (gk! hlt);have ck:=h! (js! ts (i+1));have ag:=h! hlt;generalize hti:ts[i]=t at *;have bv:=h! hti;obtain⟨tn,d⟩:=t;dsimp only at *;obtain⟨bH,bp⟩:=bm;dsimp only at bH bp;have a6:Hid (al! (ts.take (i+1))=al! (ts.take i)++nmsP tn d):=h! a6.out;have aC:=h! (show tn.size<=maxLen from by unfold maxLen;omega);have ax:=h! bp;obtain⟨bz,bJ,rfl,cb,c7,F⟩:=l.rows;have bu:=h! F;have hea:Ext wr (wr.alloc (.cells #[.string tn,.slice bz d.length bJ] 176)):=Ext.alloc _ _;have aH:=h! (Blk.made wr #[.string tn,.slice bz d.length bJ] 176);have bF:=aH.out.cells;have au:=h! (show wr.heap.size≠bn from by have:=HM.out.lt;omega);obtain⟨w4,m,bq,bj⟩:=(HM.out.below hea).store refK cv! Tryz.underlying141 (cu! ⟨tn,ByteArray.empty⟩ ⟨aC.out,by show ByteArray.empty.size<=maxLen;exact v1! _⟩) true;rw[dE!]at bq;unfold r2V bV at m;dsimp only at m;rw[show(ByteArray.empty:ByteArray)=⟨#[]⟩from rfl]at m;have aN:=h! bq;have a3:=h! (Tk.next u (Tk.next (Tk.of hea) (Tk.turned bj)));have aq:=h! ((Tk.turned bj).box aH.out au.out);have bG:=aq.out.cells;have L:=h! (af.out.trans (a3.out.below af.out.size aD.out));have aR:=h! (show pT! (al! (ts.take i)++nmsP tn (d.take 0)) (addR N ⟨tn,ByteArray.empty⟩)from by rw[List.take_zero];exact HN.out.step _)
    have cf:(al! (ts.take i)).length+(1+d.length)<=1099511627776:=by
     have h1:=ck.out;have h2:=c8.out;rw[a6.out,u4!,cT!]at h1;omega
    have br:wrap64 (1+(d.length:Int))=1+(d.length:Int):=bn! _ (by omega) (by omega);have aZ:wrap64 (((al! (ts.take i)).length:Int)+(1+(d.length:Int)))=((al! (ts.take i)).length:Int)+(1+(d.length:Int)):=bn! _ (by omega) (by omega);have bW:=h! aZ;clear c0 c1 l F f u bp bH bq bj hea hti cf;have Q:=h! au.out;cases o with
    | true =>
     obtain⟨g1,a4⟩:=e! ((G&&(ts.take i).all bi!&&decide (d.length<=16)));have b5:=h! a4
     have an:=h! (show true=!g1 from by
      rw[a4];have:=HO.out;revert this
      cases G <;> cases (ts.take i).all bi! <;> simp)
     clear a4;go_wp2_with fail
     clear bF bG m d0 d1 br aZ hlt;generalize wr.heap.size=tb at *;go_loopw [7,54] (fun lv jj wr=>∃(j:Nat) (N:List R2) (o:Bool),j<=d.length/\jj= .int .i64 j/\lv= .bool o/\o=!(g1&&(d.take j).all fun r=>decide (r.2.sz<=32))/\Mp prog 121 r2V bV wr bn (blR N)/\pT! (al! (ts.take i)++nmsP tn (d.take j)) N/\Tk bn w4 wr) (fun _ jj _=>d.length-(intOf jj).toNat)
     case atStart=>exact⟨0,addR N ⟨tn,ByteArray.empty⟩,true,by omega,rfl,rfl,by rw[List.take_zero];first | (simp;done) | (simpa using an.out),aN.out,aR.out,Tk.refl _ _⟩
     case round =>
      obtain⟨j,N,o,hj,rfl,rfl,ho,hm,hn,u⟩:=hrel;have T:=h! ho;have a0:=h! hm;have M:=h! hn;have q:=h! u;clear aN aR ho hm hn;by_cases hlt:j<d.length
      ·have f:Below w.heap.size w wr:=L.out.trans (u.below L.out.size aD.out);have J:=ax.out _ (n5! hlt);have E:=aB.out _ (n5! hlt);have aw:=h! hlt;have am:=h! (gS! (n:=tn) hlt);have az:=h! (show((d.take (j+1)).all fun r=>decide (r.2.sz<=32))=((d.take j).all (fun r=>decide (r.2.sz<=32))&&decide (d[j].2.sz<=32))from by rw[n2! hlt,List.all_append];simp only[List.all_cons,List.all_nil,Bool.and_true];rfl);obtain⟨bb,C,pv,aA,hb,c0,c1,c2,c3,c4,l⟩:=bu.out j hlt;cases aA;have d0:=(f.cell (p:=⟨bb,C+j*5,none⟩) hb).trans c0;have d1:=(f.cell (p:=⟨bb,C+j*5+1,none⟩) hb).trans c1;have d2:=(f.cell (p:=⟨bb,C+j*5+2,none⟩) hb).trans c2;have d3:=(f.cell (p:=⟨bb,C+j*5+3,none⟩) hb).trans c3;have d4:=(f.cell (p:=⟨bb,C+j*5+4,none⟩) hb).trans c4;obtain⟨I,D,rfl,-⟩:=l.rows;generalize d[j]=x at *;obtain⟨xn,p⟩:=x;dsimp only at *;have al:=h! (show xn.size<=maxLen from by have:=J.1;unfold maxLen;omega);have hea:Ext wr (wr.alloc (.cells #[.string xn,.int .i64 p.k,.string p.a,.string p.b,.slice I p.ps.length D] 181)):=Ext.alloc _ _;have ad:=h! (Blk.made wr #[.string xn,.int .i64 p.k,.string p.a,.string p.b,.slice I p.ps.length D] 181);have cm:=ad.out.cells;have z:=h! (gI! p _ _ (RTAt.mono (l.same (Same.below (f.trans (hea.mono f.size)))) (fun x hx=>n1! hx (n6! f.size hea.size))) E);unfold rV at z;clear c0 c1 c2 c3 c4 l hb u f J E hlt;cases o with
       | true =>
        have s:Hid (Ext wr (wr.alloc (.cells #[.string xn,.int .i64 p.k,.string p.a,.string p.b,.slice I p.ps.length D] 181))):=h! hea;obtain⟨w6,m,B,H⟩:=(a0.out.below s.out).store refK cv! Tryz.underlying141 (cu! ⟨tn,xn⟩ ⟨aC.out,al.out⟩) true;rw[dE!]at B;unfold r2V bV at m;dsimp only at m;have aa:=h! B;have v:=h! (Tk.next q.out (Tk.next (Tk.of s.out) (Tk.turned H)));have r5:=ad.out.cells;have t5:=((q.out.box aq.out Q.out).below s.out).cells;clear B H
        have ac:=h! (show true=!(g1&&(d.take (j+1)).all fun r=>decide (r.2.sz<=32))from by
         rw[az.out];have:=T.out;revert this
         cases g1 <;> cases (d.take j).all fun r=>decide (r.2.sz<=32) <;> simp)
        have a2:=h! (show pT! (al! (ts.take i)++nmsP tn (d.take (j+1))) (addR N ⟨tn,xn⟩)from by
         rw[am.out,<-y6!];exact M.out.step _)
        have K:=aw.out;clear s;go_wp2_with fail
        clear r5 t5 m d0 d1 d2 d3 d4;go_roundw
        case rel=>exact⟨j+1,addR N ⟨tn,xn⟩,true,by omega,by go_num,rfl,ac.out,aa.out,a2.out,v.out⟩
        case measure=>simp[intOf];omega
       | false =>
        go_wp2_with fail
        refine z.out.mono ?_;rintro e w5 ⟨rfl,V⟩;have Y:=h! V;clear z V;have s:Hid (Ext wr w5):=h! (Ext.trans hea Y.out);obtain⟨w6,m,B,H⟩:=(a0.out.below s.out).store refK cv! Tryz.underlying141 (cu! ⟨tn,xn⟩ ⟨aC.out,al.out⟩) true;rw[dE!]at B;unfold r2V bV at m;dsimp only at m;have aa:=h! B;have v:=h! (Tk.next q.out (Tk.next (Tk.of s.out) (Tk.turned H)));have r5:=(ad.out.below Y.out).cells;have t5:=((q.out.box aq.out Q.out).below s.out).cells;clear B H
        have ac:=h! (show(decide ((32:Int)<(p.sz:Int)))=!(g1&&(d.take (j+1)).all fun r=>decide (r.2.sz<=32))from by
         rw[az.out];have:=T.out;rw[show(decide ((32:Int)<(p.sz:Int)))=!decide (p.sz<=32)from by by_cases h:p.sz<=32 <;> simp[h] <;> omega];revert this
         cases g1 <;> cases (d.take j).all fun r=>decide (r.2.sz<=32) <;> simp)
        have a2:=h! (show pT! (al! (ts.take i)++nmsP tn (d.take (j+1))) (addR N ⟨tn,xn⟩)from by
         rw[am.out,<-y6!];exact M.out.step _)
        have K:=aw.out;clear s;go_wp2_with fail
        clear r5 t5 m d0 d1 d2 d3 d4;go_roundw
        case rel=>exact⟨j+1,addR N ⟨tn,xn⟩,(decide ((32:Int)<(p.sz:Int))),by omega,by go_num,rfl,ac.out,aa.out,a2.out,v.out⟩
        case measure=>simp[intOf];omega
      ·obtain rfl:j=d.length:=by omega
       rw[u2!]at T M
       have aV:=h! (show o=!(G&&(ts.take (i+1)).all bi!)from by
        have he:ts[i]'ag.out=⟨tn,d⟩:=bv.out;rw[T.out,b5.out,n2! ag.out,List.all_append,he];show _=!(G&&((ts.take i).all bi!&&(bi! ⟨tn,d⟩&&true)))
        unfold bi!;dsimp only;simp only[Bool.and_assoc,Bool.and_true])
       have b8:=h! (show pT! (al! (ts.take (i+1))) N from by rw[a6.out];exact M.out)
       have bo:=h! (show Value.int .i64 (wrap64 (((al! (ts.take i)).length:Int)+(1+(d.length:Int))))= .int .i64 (((al! (ts.take (i+1))).length:Nat):Int)from by
        have e:(((al! (ts.take i)).length:Int)+(1+(d.length:Int)))=(((al! (ts.take (i+1))).length:Nat):Int):=by
         rw[a6.out,u4!,cT!];omega
        rw[bW.out,e])
       have bh:=h! (Tk.next a3.out u);have K:=ag.out;clear u;go_wp2_with fail
       go_roundw
       case rel=>exact⟨i+1,N,o,by omega,by go_num,bo.out,rfl,aV.out,a0.out,b8.out,bh.out⟩
       case measure=>simp[intOf];omega
    | false =>
     obtain⟨g1,a4⟩:=e! ((G&&(ts.take i).all bi!&&decide (d.length<=16)));have b5:=h! a4
     have an:=h! (show(decide ((16:Int)<(d.length:Int)))=!g1 from by
      rw[a4];have:=HO.out;revert this
      rw[show(decide ((16:Int)<(d.length:Int)))=!decide (d.length<=16)from by by_cases h:d.length<=16 <;> simp[h] <;> omega];cases G <;> cases (ts.take i).all bi! <;> simp)
     clear a4;go_wp2_with fail
     clear bF bG m d0 d1 br aZ hlt;rw[an.out];have an:=h! (show(!g1)=!g1 from rfl);generalize wr.heap.size=tb at *;go_loopw [7,54] (fun lv jj wr=>∃(j:Nat) (N:List R2) (o:Bool),j<=d.length/\jj= .int .i64 j/\lv= .bool o/\o=!(g1&&(d.take j).all fun r=>decide (r.2.sz<=32))/\Mp prog 121 r2V bV wr bn (blR N)/\pT! (al! (ts.take i)++nmsP tn (d.take j)) N/\Tk bn w4 wr) (fun _ jj _=>d.length-(intOf jj).toNat)
     case atStart=>exact⟨0,addR N ⟨tn,ByteArray.empty⟩,!g1,by omega,rfl,rfl,by rw[List.take_zero];first | (simp;done) | (simpa using an.out),aN.out,aR.out,Tk.refl _ _⟩
     case round =>
      obtain⟨j,N,o,hj,rfl,rfl,ho,hm,hn,u⟩:=hrel;have T:=h! ho;have a0:=h! hm;have M:=h! hn;have q:=h! u;clear aN aR ho hm hn;by_cases hlt:j<d.length
      ·have f:Below w.heap.size w wr:=L.out.trans (u.below L.out.size aD.out);have J:=ax.out _ (n5! hlt);have E:=aB.out _ (n5! hlt);have aw:=h! hlt;have am:=h! (gS! (n:=tn) hlt);have az:=h! (show((d.take (j+1)).all fun r=>decide (r.2.sz<=32))=((d.take j).all (fun r=>decide (r.2.sz<=32))&&decide (d[j].2.sz<=32))from by rw[n2! hlt,List.all_append];simp only[List.all_cons,List.all_nil,Bool.and_true];rfl);obtain⟨bb,C,pv,aA,hb,c0,c1,c2,c3,c4,l⟩:=bu.out j hlt;cases aA;have d0:=(f.cell (p:=⟨bb,C+j*5,none⟩) hb).trans c0;have d1:=(f.cell (p:=⟨bb,C+j*5+1,none⟩) hb).trans c1;have d2:=(f.cell (p:=⟨bb,C+j*5+2,none⟩) hb).trans c2;have d3:=(f.cell (p:=⟨bb,C+j*5+3,none⟩) hb).trans c3;have d4:=(f.cell (p:=⟨bb,C+j*5+4,none⟩) hb).trans c4;obtain⟨I,D,rfl,-⟩:=l.rows;generalize d[j]=x at *;obtain⟨xn,p⟩:=x;dsimp only at *;have al:=h! (show xn.size<=maxLen from by have:=J.1;unfold maxLen;omega);have hea:Ext wr (wr.alloc (.cells #[.string xn,.int .i64 p.k,.string p.a,.string p.b,.slice I p.ps.length D] 181)):=Ext.alloc _ _;have ad:=h! (Blk.made wr #[.string xn,.int .i64 p.k,.string p.a,.string p.b,.slice I p.ps.length D] 181);have cm:=ad.out.cells;have z:=h! (gI! p _ _ (RTAt.mono (l.same (Same.below (f.trans (hea.mono f.size)))) (fun x hx=>n1! hx (n6! f.size hea.size))) E);unfold rV at z;clear c0 c1 c2 c3 c4 l hb u f J E hlt;cases o with
       | true =>
        have s:Hid (Ext wr (wr.alloc (.cells #[.string xn,.int .i64 p.k,.string p.a,.string p.b,.slice I p.ps.length D] 181))):=h! hea;obtain⟨w6,m,B,H⟩:=(a0.out.below s.out).store refK cv! Tryz.underlying141 (cu! ⟨tn,xn⟩ ⟨aC.out,al.out⟩) true;rw[dE!]at B;unfold r2V bV at m;dsimp only at m;have aa:=h! B;have v:=h! (Tk.next q.out (Tk.next (Tk.of s.out) (Tk.turned H)));have r5:=ad.out.cells;have t5:=((q.out.box aq.out Q.out).below s.out).cells;clear B H
        have ac:=h! (show true=!(g1&&(d.take (j+1)).all fun r=>decide (r.2.sz<=32))from by
         rw[az.out];have:=T.out;revert this
         cases g1 <;> cases (d.take j).all fun r=>decide (r.2.sz<=32) <;> simp)
        have a2:=h! (show pT! (al! (ts.take i)++nmsP tn (d.take (j+1))) (addR N ⟨tn,xn⟩)from by
         rw[am.out,<-y6!];exact M.out.step _)
        have K:=aw.out;clear s;go_wp2_with fail
        clear r5 t5 m d0 d1 d2 d3 d4;go_roundw
        case rel=>exact⟨j+1,addR N ⟨tn,xn⟩,true,by omega,by go_num,rfl,ac.out,aa.out,a2.out,v.out⟩
        case measure=>simp[intOf];omega
       | false =>
        go_wp2_with fail
        refine z.out.mono ?_;rintro e w5 ⟨rfl,V⟩;have Y:=h! V;clear z V;have s:Hid (Ext wr w5):=h! (Ext.trans hea Y.out);obtain⟨w6,m,B,H⟩:=(a0.out.below s.out).store refK cv! Tryz.underlying141 (cu! ⟨tn,xn⟩ ⟨aC.out,al.out⟩) true;rw[dE!]at B;unfold r2V bV at m;dsimp only at m;have aa:=h! B;have v:=h! (Tk.next q.out (Tk.next (Tk.of s.out) (Tk.turned H)));have r5:=(ad.out.below Y.out).cells;have t5:=((q.out.box aq.out Q.out).below s.out).cells;clear B H
        have ac:=h! (show(decide ((32:Int)<(p.sz:Int)))=!(g1&&(d.take (j+1)).all fun r=>decide (r.2.sz<=32))from by
         rw[az.out];have:=T.out;rw[show(decide ((32:Int)<(p.sz:Int)))=!decide (p.sz<=32)from by by_cases h:p.sz<=32 <;> simp[h] <;> omega];revert this
         cases g1 <;> cases (d.take j).all fun r=>decide (r.2.sz<=32) <;> simp)
        have a2:=h! (show pT! (al! (ts.take i)++nmsP tn (d.take (j+1))) (addR N ⟨tn,xn⟩)from by
         rw[am.out,<-y6!];exact M.out.step _)
        have K:=aw.out;clear s;go_wp2_with fail
        clear r5 t5 m d0 d1 d2 d3 d4;go_roundw
        case rel=>exact⟨j+1,addR N ⟨tn,xn⟩,(decide ((32:Int)<(p.sz:Int))),by omega,by go_num,rfl,ac.out,aa.out,a2.out,v.out⟩
        case measure=>simp[intOf];omega
      ·obtain rfl:j=d.length:=by omega
       rw[u2!]at T M
       have aV:=h! (show o=!(G&&(ts.take (i+1)).all bi!)from by
        have he:ts[i]'ag.out=⟨tn,d⟩:=bv.out;rw[T.out,b5.out,n2! ag.out,List.all_append,he];show _=!(G&&((ts.take i).all bi!&&(bi! ⟨tn,d⟩&&true)))
        unfold bi!;dsimp only;simp only[Bool.and_assoc,Bool.and_true])
       have b8:=h! (show pT! (al! (ts.take (i+1))) N from by rw[a6.out];exact M.out)
       have bo:=h! (show Value.int .i64 (wrap64 (((al! (ts.take i)).length:Int)+(1+(d.length:Int))))= .int .i64 (((al! (ts.take (i+1))).length:Nat):Int)from by
        have e:(((al! (ts.take i)).length:Int)+(1+(d.length:Int)))=(((al! (ts.take (i+1))).length:Nat):Int):=by
         rw[a6.out,u4!,cT!];omega
        rw[bW.out,e])
       have bh:=h! (Tk.next a3.out u);have K:=ag.out;clear u;go_wp2_with fail
       go_roundw
       case rel=>exact⟨i+1,N,o,by omega,by go_num,bo.out,rfl,aV.out,a0.out,b8.out,bh.out⟩
       case measure=>simp[intOf];omega
   ·obtain rfl:i=ts.length:=by omega
    rw[u2!]at HO HN;have aQ:bR! ts=!o:=by rw[HO.out,b0.out];unfold bR!;simp
    have L:=h! (af.out.trans (u.below af.out.size aD.out));have bL:Hid (g=if bR! ts then(if aU! ts then(if bG! ts then 0 else 2)else 3)else 10):=h! (by rw[HG.out,if_pos HP.out]);have cd:=h! (u.box ce.out cc.out);have X:=HM.out.len Tryz.underlying141;have bD:(blR N).length=N.length:=by simp[blR]
    rw[bD]at X;have bB:=h! HN.out.lt;have bO:=h! (fun(hu:aU! ts=true)=>oU! ts _ wr (c9.out.up L.out) bg.out hu ch.out);have s4:=cd.out.cells;clear u bD;cases o with
    | true =>
     have HF:=h! (show g=10 from by rw[bL.out,aQ];rfl);clear aQ;go_wp2_with fail
     go_ret
     exact⟨by rw[HF.out];rfl,L.out⟩
    | false =>
     have bU:=h! (show g=if aU! ts then(if bG! ts then 0 else 2)else 3 from by rw[bL.out,aQ];rfl);clear aQ;by_cases hnd:(al! ts).Nodup
     rotate_left
     ·have HF:Hid (g=3):=h! (by rw[bU.out,if_neg (fun h=>hnd ((eo! HP.out).2 h))]);have hlt:(N.length:Int)<((al! ts).length:Int):=by have:=bB.out.2 hnd;omega
      clear hnd;go_wp2_with fail
      go_ret
      exact⟨by rw[HF.out];rfl,L.out⟩
     have hu:=(eo! HP.out).1 hnd;have HU:=h! hu;have bQ:Hid (g=if bG! ts then 0 else 2):=h! (by rw[bU.out,if_pos hu])
     have bY:¬ ((N.length:Int)<((al! ts).length:Int)):=by
      have:¬ N.length<(al! ts).length:=fun h=>bB.out.1 h hnd;omega
     have ak:=h! (bO.out hu);clear hnd hu bO;go_wp2_with fail
     refine ak.out.mono ?_;rintro e w5 ⟨b1,b2,b3,rfl,bT,V⟩;have Y:=h! (L.out.trans (V.mono L.out.size));obtain⟨w6,ah⟩:=e! (w5.alloc (.cells #[.map (some b1),.map (some b2),.map (some b3)] 229));have aT:Ext w5 w6:=xa! ah
     have aY:=h! (show Blk w6 w5.heap.size #[.map (some b1),.map (some b2),.map (some b3)] 229 from bm! ah);have b6:=h! (bT.up aT);have aF:Hid (Below w.heap.size w w6):=h! (Y.out.trans (aT.mono Y.out.size));obtain⟨lr,hM,bP,bR⟩:=b6.out.R;have b7:=h! bP;have bN:=h! bR;have c6:=aY.out.cells;subst ah;clear ak bT V aT bP bR s4 X bY;go_wp2_with (at_range;go_must (refine bk! _ rfl _ 225 rfl Tryz.underlying225 rfl hM ?_);intro wR a5 hbR hszR)
     try go_frame
     have O:=h! a5;have aU:=h! hbR;clear c6 hM a5 hbR hszR;obtain⟨w6,ah⟩:=e! (w5.alloc (.cells #[.map (some b1),.map (some b2),.map (some b3)] 229));rw[<-ah]at aY b6 aF bN O aU ⊢;clear ah;obtain⟨nR,bX⟩:=e! w6.heap.size;rw[<-bX]at O ⊢;have be:Hid (w6.heap.size<=nR):=h! (by omega);clear bX;generalize w5.heap.size=bc at *;go_loopw [85] (fun _ wr=>∃rem:List (R2 × RV),Rng prog 121 r2V rvV wr b1 nR lr rem/\(∀x∈lr,x∈rem\/x.2.1.pnamed (ac! ts) x.1.t=true)/\(∀x∈rem,x∈lr)/\Below w6.heap.size w6 wr) (fun _ wr=>wr.rangeLeft b1 nR)
     case atStart=>exact⟨lr,O.out,fun x hx => .inl hx,fun x hx=>hx,aU.out⟩
     case round =>
      obtain⟨rem,a5,aE,aG,f⟩:=hrel;have ap:=h! aE;have a9:=h! aG;have bK:=h! f;clear O aU aE aG f;go_wp2_with (at_next;go_must (refine ch! _ rfl _ rfl rfl a5 ?_ ?_))
      ·intro A;subst A
       have HF:=h! (show g=0 from by
        rw[bQ.out,if_pos];refine(gV! HP.out HU.out).1 fun x hx=>?_;rw[<-b7.out]at hx;obtain⟨y,hy,rfl⟩:=u6!.1 hx;rcases ap.out y hy with h | h
        ·cases h
        ·exact h)
       have ay:=h! (aF.out.trans (bK.out.mono aF.out.size));clear a5;go_wp2_with fail
       go_ret
       exact⟨by rw[HF.out];rfl,ay.out⟩
      ·rintro ci ⟨kt,kr⟩ p pv bd w7 A aI bS bZ aS;have bi:((⟨kt,kr⟩,(p,pv)):R2 × RV)∈lr:=a9.out _ (by rw[A];simp);have bM:(⟨⟨kt,kr⟩,p⟩:R2 × RT)∈ac! ts:=by rw[<-b7.out];exact u6!.2 ⟨_,bi,rfl⟩
       obtain⟨t,ht,r,hr,he⟩:=aY!.1 bM;have a1:=bg.out t ht;have aj:=a1.2 r hr;have bE:kt.size<=maxLen:=by injection he with e1 e2;injection e1 with e3 e4;rw[e3];have:=a1.1;unfold maxLen;omega
       have bC:p.Ok:=by injection he with e1 e2;rw[e2];exact aj.2
       have aP:Below w6.heap.size w6 w7:=bK.out.trans (Kept.below bS fun x hx=>by have:=be.out;show x≠nR;omega);have U:=(bN.out _ bi).up aP;dsimp only at U;obtain⟨I,D,rfl,-⟩:=U.rows;obtain⟨w8,aM⟩:=e! (w7.alloc (.cells #[.string kt,.string kr] 121));obtain⟨w9,aX⟩:=e! (w8.alloc (.cells #[.int .i64 p.k,.string p.a,.string p.b,.slice I p.ps.length D] 106));have e8:w8.heap.size=w7.heap.size+1:=by rw[aM];simp
       have aL:Ext w7 w8:=xa! aM
       have ar:Ext w8 w9:=xa! aX
       have k9:=(show Blk w9 w7.heap.size #[.string kt,.string kr] 121 from Blk.below (bm! aM) ar).cells;have r9:=(show Blk w9 (w7.heap.size+1) #[.int .i64 p.k,.string p.a,.string p.b,.slice I p.ps.length D] 106 from by rw[aX,<-e8];exact Blk.made _ _ _).cells;have ai:Hid (Below w6.heap.size w6 w9):=h! (aP.trans ((aL.trans ar).mono aP.size));have b9:=(aY.out.below ai.out).cells;have a8:=h! (ja! kt bE p _ w9 (b6.out.up ai.out) (U.up (aL.trans ar)) bC);have aW:=h! (aI.below (aL.trans ar));have ab:=h! A;have bs:wr.rangeLeft b1 nR=rem.length:=a5.left_eq;have ca:=h! bs;unfold r2V rvV rV at aS;unfold rV at a8;dsimp only at aS;subst aX aM;clear bi bM ht hr he a1 aj bE bC aP U e8 aL ar aI a5 bS bZ bs;cases hpn:p.pnamed (ac! ts) kt with
       | false =>
        rw[hpn]at a8
        have HF:=h! (show g=2 from by
         rw[bQ.out,if_neg];intro h;have h1:=(gV! HP.out HU.out).2 h (⟨kt,kr⟩,p) (by rw[<-b7.out];exact u6!.2 ⟨((⟨kt,kr⟩,(p,.slice I p.ps.length D)):R2 × RV),a9.out _ (by rw[A];simp),rfl⟩);dsimp only at h1;rw[hpn]at h1;cases h1)
        clear A hpn;go_wp2_with fail
        refine a8.out.mono ?_;rintro e wa ⟨rfl,ae⟩;have ay:=h! (aF.out.trans ((ai.out.trans (ae.mono ai.out.size)).mono aF.out.size));clear a8 ae k9 r9 b9 aS;go_wp2_with fail
        go_ret
        exact⟨by rw[HF.out];rfl,ay.out⟩
       | true =>
        rw[hpn]at a8;have cl:=h! hpn;clear A hpn;go_wp2_with fail
        refine a8.out.mono ?_;rintro e wa ⟨rfl,ae⟩;have bA:=aW.out.below ae;have bx:=h! bA;have ay:=h! (ai.out.trans (ae.mono ai.out.size));clear a8 ae k9 r9 b9 aS bA;go_wp2_with fail
        go_roundw
        case rel =>
         refine⟨ci++bd,bx.out,fun x hx=>?_,fun x hx=>a9.out x (by rw[ab.out];rcases u3!.1 hx with h | h <;> simp[h]),ay.out⟩;rcases ap.out x hx with h | h
         ·rw[ab.out]at h;rcases u3!.1 h with h | h
          ·exact .inl (List.mem_append_left _ h)
          ·rcases v7!.1 h with rfl | h
           ·exact .inr cl.out
           ·exact .inl (List.mem_append_right _ h)
         ·exact .inr h
        case measure=>rw[bx.out.left_eq,ca.out,ab.out];simp
end Go.Proofs.YtlhaghoajpglaaaGreat
