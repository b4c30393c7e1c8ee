/- Lemmas for the claim, no condition. -/
import Derived.Test.YtlhaghoajpglaaaGreatYLkObj6
import Derived.Test.YtlhaghoajpglaaaGreatYLkObj6
set_option maxRecDepth 100000
set_option maxHeartbeats 8000000
namespace Go.Proofs.YtlhaghoajpglaaaGreat
open Go Go.Maps Go.RowKit Go.Proofs.Tryz
theorem os! {B wb:Nat}{text:ByteArray}{w:World}(ra rb:ByteArray)(n:Nat)(ao:Option Addr)(c:Nat)(d:Int)(h:WrB w B wb text false)(hBw:B<=w.heap.size)(hpos:0<text.size)(hlim:text.size+(10+ra.size+rb.size)<=1099511627776) :
  Calls prog 190 #[.pointer (some ⟨wb,0,none⟩),.agg #[.int .i64 1,.string ra,.string rb,.slice ao n c],.int .i64 d] w (WRes B wb w text (decide (ra.size=0)&&decide (rb.size=0)&&decide (n=0)) (⟨#[116,104,105,115]⟩) (10+ra.size+rb.size)):=by
 have l:=h! h;have z:=h! h.1;have p:=h! hBw;have m:=h! (show w.heap.size≠wb from by have:=h.lt;omega);clear h hBw;have r:=h! hpos;have q:=h! hlim;clear hpos hlim;by_cases hlp:0<n
 ·have a6:(0:Int)<(n:Int):=by omega
  have o:=h! (show(decide ((ra:ByteArray).size=0)&&decide ((rb:ByteArray).size=0)&&decide (n=0))=false from by
   have a4:n≠0:=by omega
   simp[a4])
  rw[o.out];clear hlp o;have G:=h! (Blk.made w #[.int .i64 1,.string ra,.string rb,.slice ao n c] 106);have g:=h! (G.out.other (a:=⟨wb,2,none⟩) m.out (.bool true));have k:=h! (g.out.other (a:=⟨wb,2,none⟩) m.out (.bool true));have i:=h! ((l.out.up ((Below.refl _ w).alloc (n0! _) (.cells #[.int .i64 1,.string ra,.string rb,.slice ao n c] 106))).flag true);have f:=h! (i.out.flag true);have j:=h! (pV!.next (pV!.next (pV!.of ((Below.refl _ w).alloc (n0! _) (.cells #[.int .i64 1,.string ra,.string rb,.slice ao n c] 106)) p.out) (pV!.flag (b:=wb) z.out (.bool true))) (pV!.flag (b:=wb) z.out (.bool true)));have x:=G.out.cells;have C:=g.out.cells;have E:=k.out.cells;obtain⟨y,F⟩:=(l.out.up ((Below.refl _ w).alloc (n0! _) (.cells #[.int .i64 1,.string ra,.string rb,.slice ao n c] 106))).odd2;obtain⟨H,D⟩:=i.out.odd2;obtain⟨A,v⟩:=f.out.odd2;go_enter func190,ntmps190
  go_wp2_with fail
  (try simp only[Exit.inBlock,Exit.then])
  refine bodyPost_ret (results_none rfl _ _ _) rfl ?_;exact WRes.bad f.out j.out
 ·obtain rfl:n=0:=by omega
  clear hlp;by_cases hnrb:rb.size=0
  ·obtain rfl:=ae! hnrb;clear hnrb;by_cases hnra:ra.size=0
   ·obtain rfl:=ae! hnra;clear hnra;rw[show(decide ((⟨#[]⟩:ByteArray).size=0)&&decide ((⟨#[]⟩:ByteArray).size=0)&&decide (0=0))=true from rfl];have G:=h! (Blk.made w #[.int .i64 1,.string ⟨#[]⟩,.string ⟨#[]⟩,.slice ao 0 c] 106);have g:=h! (G.out.other (a:=⟨wb,2,none⟩) m.out (.bool false));have k:=h! (g.out.other (a:=⟨wb,2,none⟩) m.out (.bool false));have i:=h! ((l.out.up ((Below.refl _ w).alloc (n0! _) (.cells #[.int .i64 1,.string ⟨#[]⟩,.string ⟨#[]⟩,.slice ao 0 c] 106))).flag false);have f:=h! (i.out.flag false);have j:=h! (pV!.next (pV!.next (pV!.of ((Below.refl _ w).alloc (n0! _) (.cells #[.int .i64 1,.string ⟨#[]⟩,.string ⟨#[]⟩,.slice ao 0 c] 106)) p.out) (pV!.flag (b:=wb) z.out (.bool false))) (pV!.flag (b:=wb) z.out (.bool false)));have x:=G.out.cells;have C:=g.out.cells;have E:=k.out.cells;obtain⟨y,F⟩:=(l.out.up ((Below.refl _ w).alloc (n0! _) (.cells #[.int .i64 1,.string ⟨#[]⟩,.string ⟨#[]⟩,.slice ao 0 c] 106))).odd2;obtain⟨H,D⟩:=i.out.odd2;obtain⟨A,v⟩:=f.out.odd2;go_enter func190,ntmps190
    go_wp2_with fail
    obtain⟨w3,s⟩:=e! (((w.alloc (.cells #[.int .i64 1,.string ⟨#[]⟩,.string ⟨#[]⟩,.slice ao 0 c] 106)).setCell ⟨wb,2,none⟩ (.bool false)).setCell ⟨wb,2,none⟩ (.bool false));rw[<-s]at k f j ⊢;clear s G g i x C E y H A F D v;have a5:=h! (n6! p.out j.out.size);have HS:=h! (ab! ⟨#[116,104,105,115]⟩ f.out (by have:=q.out;show _+4<=_;omega) (by have:=r.out;omega) a5.out);refine HS.out.mono ?_;rintro e w4 ⟨rfl,u,t⟩;have a3:=h! u;have a2:=h! (pV!.next j.out t);clear HS u t;go_wp2_with fail
    go_end0
    exact⟨rfl,_,a3.out,by rw[n3!];omega,(by rw[n3!];show _+4<=_;omega),fun _=>rfl,a2.out⟩
   ·have a0:=al! hnra
    have o:=h! (show(decide ((ra:ByteArray).size=0)&&decide ((⟨#[]⟩:ByteArray).size=0)&&decide (0=0))=false from by
     simp[hnra])
    rw[o.out];clear hnra o;have G:=h! (Blk.made w #[.int .i64 1,.string ra,.string ⟨#[]⟩,.slice ao 0 c] 106);have g:=h! (G.out.other (a:=⟨wb,2,none⟩) m.out (.bool false));have k:=h! (g.out.other (a:=⟨wb,2,none⟩) m.out (.bool true));have i:=h! ((l.out.up ((Below.refl _ w).alloc (n0! _) (.cells #[.int .i64 1,.string ra,.string ⟨#[]⟩,.slice ao 0 c] 106))).flag false);have f:=h! (i.out.flag true);have j:=h! (pV!.next (pV!.next (pV!.of ((Below.refl _ w).alloc (n0! _) (.cells #[.int .i64 1,.string ra,.string ⟨#[]⟩,.slice ao 0 c] 106)) p.out) (pV!.flag (b:=wb) z.out (.bool false))) (pV!.flag (b:=wb) z.out (.bool true)));have x:=G.out.cells;have C:=g.out.cells;have E:=k.out.cells;obtain⟨y,F⟩:=(l.out.up ((Below.refl _ w).alloc (n0! _) (.cells #[.int .i64 1,.string ra,.string ⟨#[]⟩,.slice ao 0 c] 106))).odd2;obtain⟨H,D⟩:=i.out.odd2;obtain⟨A,v⟩:=f.out.odd2;go_enter func190,ntmps190
    go_wp2_with fail
    (try simp only[Exit.inBlock,Exit.then])
    refine bodyPost_ret (results_none rfl _ _ _) rfl ?_;exact WRes.bad f.out j.out
  ·have a1:=al! hnrb
   have o:=h! (show(decide ((ra:ByteArray).size=0)&&decide ((rb:ByteArray).size=0)&&decide (0=0))=false from by
    simp[hnrb])
   rw[o.out];clear hnrb o;have G:=h! (Blk.made w #[.int .i64 1,.string ra,.string rb,.slice ao 0 c] 106);have g:=h! (G.out.other (a:=⟨wb,2,none⟩) m.out (.bool false));have k:=h! (g.out.other (a:=⟨wb,2,none⟩) m.out (.bool true));have i:=h! ((l.out.up ((Below.refl _ w).alloc (n0! _) (.cells #[.int .i64 1,.string ra,.string rb,.slice ao 0 c] 106))).flag false);have f:=h! (i.out.flag true);have j:=h! (pV!.next (pV!.next (pV!.of ((Below.refl _ w).alloc (n0! _) (.cells #[.int .i64 1,.string ra,.string rb,.slice ao 0 c] 106)) p.out) (pV!.flag (b:=wb) z.out (.bool false))) (pV!.flag (b:=wb) z.out (.bool true)));have x:=G.out.cells;have C:=g.out.cells;have E:=k.out.cells;obtain⟨y,F⟩:=(l.out.up ((Below.refl _ w).alloc (n0! _) (.cells #[.int .i64 1,.string ra,.string rb,.slice ao 0 c] 106))).odd2;obtain⟨H,D⟩:=i.out.odd2;obtain⟨A,v⟩:=f.out.odd2;go_enter func190,ntmps190
   go_wp2_with fail
   (try simp only[Exit.inBlock,Exit.then])
   refine bodyPost_ret (results_none rfl _ _ _) rfl ?_;exact WRes.bad f.out j.out
theorem or! {B wb:Nat}{text:ByteArray}{w:World}(ra rb:ByteArray)(n:Nat)(ao:Option Addr)(c:Nat)(d:Int)(h:WrB w B wb text false)(hBw:B<=w.heap.size)(hpos:0<text.size)(hlim:text.size+(10+ra.size+rb.size)<=1099511627776) :
  Calls prog 190 #[.pointer (some ⟨wb,0,none⟩),.agg #[.int .i64 2,.string ra,.string rb,.slice ao n c],.int .i64 d] w (WRes B wb w text (ownB ra&&decide (rb.size=0)&&decide (n=0)) (ra) (10+ra.size+rb.size)):=by
 have m:=h! h;have E:=h! h.1;have p:=h! hBw;have o:=h! (show w.heap.size≠wb from by have:=h.lt;omega);clear h hBw;have r:=h! hpos;have k:=h! hlim;clear hpos hlim;by_cases hlp:0<n
 ·have a3:(0:Int)<(n:Int):=by omega
  have u:=h! (show(ownB ra&&decide ((rb:ByteArray).size=0)&&decide (n=0))=false from by
   have a2:n≠0:=by omega
   simp[a2])
  rw[u.out];clear hlp u;have K:=h! (Blk.made w #[.int .i64 2,.string ra,.string rb,.slice ao n c] 106);have g:=h! (K.out.other (a:=⟨wb,2,none⟩) o.out (.bool true));have l:=h! (g.out.other (a:=⟨wb,2,none⟩) o.out (.bool true));have i:=h! ((m.out.up ((Below.refl _ w).alloc (n0! _) (.cells #[.int .i64 2,.string ra,.string rb,.slice ao n c] 106))).flag true);have f:=h! (i.out.flag true);have j:=h! (pV!.next (pV!.next (pV!.of ((Below.refl _ w).alloc (n0! _) (.cells #[.int .i64 2,.string ra,.string rb,.slice ao n c] 106)) p.out) (pV!.flag (b:=wb) E.out (.bool true))) (pV!.flag (b:=wb) E.out (.bool true)));have A:=K.out.cells;have G:=g.out.cells;have I:=l.out.cells;obtain⟨D,J⟩:=(m.out.up ((Below.refl _ w).alloc (n0! _) (.cells #[.int .i64 2,.string ra,.string rb,.slice ao n c] 106))).odd2;obtain⟨L,H⟩:=i.out.odd2;obtain⟨F,z⟩:=f.out.odd2;go_enter func190,ntmps190
  go_wp2_with fail
  (try simp only[Exit.inBlock,Exit.then])
  refine bodyPost_ret (results_none rfl _ _ _) rfl ?_;exact WRes.bad f.out j.out
 ·obtain rfl:n=0:=by omega
  clear hlp;by_cases hnrb:rb.size=0
  ·obtain rfl:=ae! hnrb;clear hnrb;by_cases hnra:ra.size=0
   ·obtain rfl:=ae! hnra;clear hnra;rw[show(ownB ⟨#[]⟩&&decide ((⟨#[]⟩:ByteArray).size=0)&&decide (0=0))=ownB ⟨#[]⟩from by cases ownB ⟨#[]⟩ <;> rfl];have K:=h! (Blk.made w #[.int .i64 2,.string ⟨#[]⟩,.string ⟨#[]⟩,.slice ao 0 c] 106);have g:=h! (K.out.other (a:=⟨wb,2,none⟩) o.out (.bool false));have l:=h! (g.out.other (a:=⟨wb,2,none⟩) o.out (.bool false));have i:=h! ((m.out.up ((Below.refl _ w).alloc (n0! _) (.cells #[.int .i64 2,.string ⟨#[]⟩,.string ⟨#[]⟩,.slice ao 0 c] 106))).flag false);have f:=h! (i.out.flag false);have j:=h! (pV!.next (pV!.next (pV!.of ((Below.refl _ w).alloc (n0! _) (.cells #[.int .i64 2,.string ⟨#[]⟩,.string ⟨#[]⟩,.slice ao 0 c] 106)) p.out) (pV!.flag (b:=wb) E.out (.bool false))) (pV!.flag (b:=wb) E.out (.bool false)));have A:=K.out.cells;have G:=g.out.cells;have I:=l.out.cells;obtain⟨D,J⟩:=(m.out.up ((Below.refl _ w).alloc (n0! _) (.cells #[.int .i64 2,.string ⟨#[]⟩,.string ⟨#[]⟩,.slice ao 0 c] 106))).odd2;obtain⟨L,H⟩:=i.out.odd2;obtain⟨F,z⟩:=f.out.odd2;go_enter func190,ntmps190
    go_wp2_with fail
    obtain⟨w3,q⟩:=e! (((w.alloc (.cells #[.int .i64 2,.string ⟨#[]⟩,.string ⟨#[]⟩,.slice ao 0 c] 106)).setCell ⟨wb,2,none⟩ (.bool false)).setCell ⟨wb,2,none⟩ (.bool false));rw[<-q]at l f j ⊢;clear q K g i A G I D L F J H z;have y:=h! (n6! p.out j.out.size);have C:=h! (aB! ⟨#[]⟩ f.out (by have:=k.out;omega) r.out (by have:=k.out;unfold maxLen;omega) y.out);refine C.out.mono ?_;rintro e w4 ⟨rfl,t,s⟩;have x:=h! t;have v:=h! (pV!.next j.out s);clear C t s;go_wp2_with fail
    go_end0
    exact⟨rfl,_,(by have:=x.out;rwa[Bool.false_or]at this),by rw[n3!];omega,(by rw[n3!];omega),fun _=>rfl,v.out⟩
   ·have a0:=al! hnra;clear hnra;rw[show(ownB ra&&decide ((⟨#[]⟩:ByteArray).size=0)&&decide (0=0))=ownB ra from by cases ownB ra <;> rfl];have K:=h! (Blk.made w #[.int .i64 2,.string ra,.string ⟨#[]⟩,.slice ao 0 c] 106);have g:=h! (K.out.other (a:=⟨wb,2,none⟩) o.out (.bool false));have l:=h! (g.out.other (a:=⟨wb,2,none⟩) o.out (.bool false));have i:=h! ((m.out.up ((Below.refl _ w).alloc (n0! _) (.cells #[.int .i64 2,.string ra,.string ⟨#[]⟩,.slice ao 0 c] 106))).flag false);have f:=h! (i.out.flag false);have j:=h! (pV!.next (pV!.next (pV!.of ((Below.refl _ w).alloc (n0! _) (.cells #[.int .i64 2,.string ra,.string ⟨#[]⟩,.slice ao 0 c] 106)) p.out) (pV!.flag (b:=wb) E.out (.bool false))) (pV!.flag (b:=wb) E.out (.bool false)));have A:=K.out.cells;have G:=g.out.cells;have I:=l.out.cells;obtain⟨D,J⟩:=(m.out.up ((Below.refl _ w).alloc (n0! _) (.cells #[.int .i64 2,.string ra,.string ⟨#[]⟩,.slice ao 0 c] 106))).odd2;obtain⟨L,H⟩:=i.out.odd2;obtain⟨F,z⟩:=f.out.odd2;go_enter func190,ntmps190
    go_wp2_with fail
    obtain⟨w3,q⟩:=e! (((w.alloc (.cells #[.int .i64 2,.string ra,.string ⟨#[]⟩,.slice ao 0 c] 106)).setCell ⟨wb,2,none⟩ (.bool false)).setCell ⟨wb,2,none⟩ (.bool false));rw[<-q]at l f j ⊢;clear q K g i A G I D L F J H z;have y:=h! (n6! p.out j.out.size);have C:=h! (aB! ra f.out (by have:=k.out;omega) r.out (by have:=k.out;unfold maxLen;omega) y.out);refine C.out.mono ?_;rintro e w4 ⟨rfl,t,s⟩;have x:=h! t;have v:=h! (pV!.next j.out s);clear C t s;go_wp2_with fail
    go_end0
    exact⟨rfl,_,(by have:=x.out;rwa[Bool.false_or]at this),by rw[n3!];omega,(by rw[n3!];omega),fun _=>rfl,v.out⟩
  ·have a1:=al! hnrb
   have u:=h! (show(ownB ra&&decide ((rb:ByteArray).size=0)&&decide (0=0))=false from by
    simp[hnrb])
   rw[u.out];clear hnrb u;have K:=h! (Blk.made w #[.int .i64 2,.string ra,.string rb,.slice ao 0 c] 106);have g:=h! (K.out.other (a:=⟨wb,2,none⟩) o.out (.bool false));have l:=h! (g.out.other (a:=⟨wb,2,none⟩) o.out (.bool true));have i:=h! ((m.out.up ((Below.refl _ w).alloc (n0! _) (.cells #[.int .i64 2,.string ra,.string rb,.slice ao 0 c] 106))).flag false);have f:=h! (i.out.flag true);have j:=h! (pV!.next (pV!.next (pV!.of ((Below.refl _ w).alloc (n0! _) (.cells #[.int .i64 2,.string ra,.string rb,.slice ao 0 c] 106)) p.out) (pV!.flag (b:=wb) E.out (.bool false))) (pV!.flag (b:=wb) E.out (.bool true)));have A:=K.out.cells;have G:=g.out.cells;have I:=l.out.cells;obtain⟨D,J⟩:=(m.out.up ((Below.refl _ w).alloc (n0! _) (.cells #[.int .i64 2,.string ra,.string rb,.slice ao 0 c] 106))).odd2;obtain⟨L,H⟩:=i.out.odd2;obtain⟨F,z⟩:=f.out.odd2;go_enter func190,ntmps190
   go_wp2_with fail
   (try simp only[Exit.inBlock,Exit.then])
   refine bodyPost_ret (results_none rfl _ _ _) rfl ?_;exact WRes.bad f.out j.out
theorem oq! {B wb:Nat}{text:ByteArray}{w:World}(ra rb:ByteArray)(n:Nat)(ao:Option Addr)(c:Nat)(d:Int)(h:WrB w B wb text false)(hBw:B<=w.heap.size)(hpos:0<text.size)(hlim:text.size+(10+ra.size+rb.size)<=1099511627776) :
  Calls prog 190 #[.pointer (some ⟨wb,0,none⟩),.agg #[.int .i64 3,.string ra,.string rb,.slice ao n c],.int .i64 d] w (WRes B wb w text (ownB ra&&ownB rb&&decide (n=0)) ((ra++⟨#[45,62]⟩)++rb) (10+ra.size+rb.size)):=by
 have D:=h! h;have T:=h! h.1;have p:=h! hBw;have l:=h! (show w.heap.size≠wb from by have:=h.lt;omega);clear h hBw;have g:=h! hpos;have f:=h! hlim;clear hpos hlim;by_cases hlp:0<n
 ·have a2:(0:Int)<(n:Int):=by omega
  have M:=h! (show(ownB ra&&ownB rb&&decide (n=0))=false from by
   have a1:n≠0:=by omega
   simp[a1])
  rw[M.out];clear hlp M;have HX:=h! (Blk.made w #[.int .i64 3,.string ra,.string rb,.slice ao n c] 106);have j:=h! (HX.out.other (a:=⟨wb,2,none⟩) l.out (.bool true));have o:=h! (j.out.other (a:=⟨wb,2,none⟩) l.out (.bool true));have k:=h! ((D.out.up ((Below.refl _ w).alloc (n0! _) (.cells #[.int .i64 3,.string ra,.string rb,.slice ao n c] 106))).flag true);have i:=h! (k.out.flag true);have m:=h! (pV!.next (pV!.next (pV!.of ((Below.refl _ w).alloc (n0! _) (.cells #[.int .i64 3,.string ra,.string rb,.slice ao n c] 106)) p.out) (pV!.flag (b:=wb) T.out (.bool true))) (pV!.flag (b:=wb) T.out (.bool true)));have N:=HX.out.cells;have V:=j.out.cells;have Z:=o.out.cells;obtain⟨R,f0⟩:=(D.out.up ((Below.refl _ w).alloc (n0! _) (.cells #[.int .i64 3,.string ra,.string rb,.slice ao n c] 106))).odd2;obtain⟨e1,Y⟩:=k.out.odd2;obtain⟨U,O⟩:=i.out.odd2;go_enter func190,ntmps190
  go_wp2_with fail
  (try simp only[Exit.inBlock,Exit.then])
  refine bodyPost_ret (results_none rfl _ _ _) rfl ?_;exact WRes.bad i.out m.out
 ·obtain rfl:n=0:=by omega
  clear hlp;by_cases hnrb:rb.size=0
  ·obtain rfl:=ae! hnrb;clear hnrb;by_cases hnra:ra.size=0
   ·obtain rfl:=ae! hnra;clear hnra;rw[show(ownB ⟨#[]⟩&&ownB ⟨#[]⟩&&decide (0=0))=(ownB ⟨#[]⟩&&ownB ⟨#[]⟩)from by cases ownB ⟨#[]⟩ <;> cases ownB ⟨#[]⟩ <;> rfl];have HX:=h! (Blk.made w #[.int .i64 3,.string ⟨#[]⟩,.string ⟨#[]⟩,.slice ao 0 c] 106);have j:=h! (HX.out.other (a:=⟨wb,2,none⟩) l.out (.bool false));have o:=h! (j.out.other (a:=⟨wb,2,none⟩) l.out (.bool false));have k:=h! ((D.out.up ((Below.refl _ w).alloc (n0! _) (.cells #[.int .i64 3,.string ⟨#[]⟩,.string ⟨#[]⟩,.slice ao 0 c] 106))).flag false);have i:=h! (k.out.flag false);have m:=h! (pV!.next (pV!.next (pV!.of ((Below.refl _ w).alloc (n0! _) (.cells #[.int .i64 3,.string ⟨#[]⟩,.string ⟨#[]⟩,.slice ao 0 c] 106)) p.out) (pV!.flag (b:=wb) T.out (.bool false))) (pV!.flag (b:=wb) T.out (.bool false)));have N:=HX.out.cells;have V:=j.out.cells;have Z:=o.out.cells;obtain⟨R,f0⟩:=(D.out.up ((Below.refl _ w).alloc (n0! _) (.cells #[.int .i64 3,.string ⟨#[]⟩,.string ⟨#[]⟩,.slice ao 0 c] 106))).odd2;obtain⟨e1,Y⟩:=k.out.odd2;obtain⟨U,O⟩:=i.out.odd2;go_enter func190,ntmps190
    go_wp2_with fail
    obtain⟨w3,u⟩:=e! (((w.alloc (.cells #[.int .i64 3,.string ⟨#[]⟩,.string ⟨#[]⟩,.slice ao 0 c] 106)).setCell ⟨wb,2,none⟩ (.bool false)).setCell ⟨wb,2,none⟩ (.bool false));rw[<-u]at o i m ⊢;clear u HX j k N V Z R e1 U f0 Y O;have I:=h! (n6! p.out m.out.size);have Q:=h! (aB! ⟨#[]⟩ i.out (by have:=f.out;omega) g.out (by have:=f.out;unfold maxLen;omega) I.out);refine Q.out.mono ?_;rintro e w4 ⟨rfl,r,s⟩;rw[Bool.false_or]at r;have v:=h! (pV!.next m.out s);have J:=h! (s.box o.out (by decide) l.out);have K:=h! (n6! p.out v.out.size);have x:=h! (ab! ⟨#[45,62]⟩ r (by have:=f.out;rw[n3!];show _+2<=_;omega) (by have:=g.out;rw[n3!];omega) K.out);clear Q r s;go_wp2_with fail
    refine x.out.mono ?_;rintro e w5 ⟨rfl,C,q⟩;have z:=h! (pV!.next v.out q);have F:=h! (q.box J.out (by decide) l.out);have X:=F.out.cells;have G:=h! (n6! p.out z.out.size);have t:=h! (aB! ⟨#[]⟩ C (by have:=f.out;rw[n3!,n3!];show _+2+_<=_;omega) (by have:=g.out;rw[n3!,n3!];omega) (by have:=f.out;unfold maxLen;omega) G.out);clear x C q;go_wp2_with fail
    refine t.out.mono ?_;rintro e w6 ⟨rfl,y,A⟩;have H:=h! y;have E:=h! (pV!.next z.out A);clear t y A X;go_wp2_with fail
    go_end0
    exact⟨rfl,_,(by have:=H.out;rwa[<-Bool.not_and]at this),by simp only[n3!];omega,(by simp only[n3!];show _+_+2+_<=_;omega),fun _=>by simp only[y1!],E.out⟩
   ·have L:=al! hnra;clear hnra;rw[show(ownB ra&&ownB ⟨#[]⟩&&decide (0=0))=(ownB ra&&ownB ⟨#[]⟩)from by cases ownB ra <;> cases ownB ⟨#[]⟩ <;> rfl];have HX:=h! (Blk.made w #[.int .i64 3,.string ra,.string ⟨#[]⟩,.slice ao 0 c] 106);have j:=h! (HX.out.other (a:=⟨wb,2,none⟩) l.out (.bool false));have o:=h! (j.out.other (a:=⟨wb,2,none⟩) l.out (.bool false));have k:=h! ((D.out.up ((Below.refl _ w).alloc (n0! _) (.cells #[.int .i64 3,.string ra,.string ⟨#[]⟩,.slice ao 0 c] 106))).flag false);have i:=h! (k.out.flag false);have m:=h! (pV!.next (pV!.next (pV!.of ((Below.refl _ w).alloc (n0! _) (.cells #[.int .i64 3,.string ra,.string ⟨#[]⟩,.slice ao 0 c] 106)) p.out) (pV!.flag (b:=wb) T.out (.bool false))) (pV!.flag (b:=wb) T.out (.bool false)));have N:=HX.out.cells;have V:=j.out.cells;have Z:=o.out.cells;obtain⟨R,f0⟩:=(D.out.up ((Below.refl _ w).alloc (n0! _) (.cells #[.int .i64 3,.string ra,.string ⟨#[]⟩,.slice ao 0 c] 106))).odd2;obtain⟨e1,Y⟩:=k.out.odd2;obtain⟨U,O⟩:=i.out.odd2;go_enter func190,ntmps190
    go_wp2_with fail
    obtain⟨w3,u⟩:=e! (((w.alloc (.cells #[.int .i64 3,.string ra,.string ⟨#[]⟩,.slice ao 0 c] 106)).setCell ⟨wb,2,none⟩ (.bool false)).setCell ⟨wb,2,none⟩ (.bool false));rw[<-u]at o i m ⊢;clear u HX j k N V Z R e1 U f0 Y O;have I:=h! (n6! p.out m.out.size);have Q:=h! (aB! ra i.out (by have:=f.out;omega) g.out (by have:=f.out;unfold maxLen;omega) I.out);refine Q.out.mono ?_;rintro e w4 ⟨rfl,r,s⟩;rw[Bool.false_or]at r;have v:=h! (pV!.next m.out s);have J:=h! (s.box o.out (by decide) l.out);have K:=h! (n6! p.out v.out.size);have x:=h! (ab! ⟨#[45,62]⟩ r (by have:=f.out;rw[n3!];show _+2<=_;omega) (by have:=g.out;rw[n3!];omega) K.out);clear Q r s;go_wp2_with fail
    refine x.out.mono ?_;rintro e w5 ⟨rfl,C,q⟩;have z:=h! (pV!.next v.out q);have F:=h! (q.box J.out (by decide) l.out);have X:=F.out.cells;have G:=h! (n6! p.out z.out.size);have t:=h! (aB! ⟨#[]⟩ C (by have:=f.out;rw[n3!,n3!];show _+2+_<=_;omega) (by have:=g.out;rw[n3!,n3!];omega) (by have:=f.out;unfold maxLen;omega) G.out);clear x C q;go_wp2_with fail
    refine t.out.mono ?_;rintro e w6 ⟨rfl,y,A⟩;have H:=h! y;have E:=h! (pV!.next z.out A);clear t y A X;go_wp2_with fail
    go_end0
    exact⟨rfl,_,(by have:=H.out;rwa[<-Bool.not_and]at this),by simp only[n3!];omega,(by simp only[n3!];show _+_+2+_<=_;omega),fun _=>by simp only[y1!],E.out⟩
  ·have a0:=al! hnrb;clear hnrb;by_cases hnra:ra.size=0
   ·obtain rfl:=ae! hnra;clear hnra;rw[show(ownB ⟨#[]⟩&&ownB rb&&decide (0=0))=(ownB ⟨#[]⟩&&ownB rb)from by cases ownB ⟨#[]⟩ <;> cases ownB rb <;> rfl];have HX:=h! (Blk.made w #[.int .i64 3,.string ⟨#[]⟩,.string rb,.slice ao 0 c] 106);have j:=h! (HX.out.other (a:=⟨wb,2,none⟩) l.out (.bool false));have o:=h! (j.out.other (a:=⟨wb,2,none⟩) l.out (.bool false));have k:=h! ((D.out.up ((Below.refl _ w).alloc (n0! _) (.cells #[.int .i64 3,.string ⟨#[]⟩,.string rb,.slice ao 0 c] 106))).flag false);have i:=h! (k.out.flag false);have m:=h! (pV!.next (pV!.next (pV!.of ((Below.refl _ w).alloc (n0! _) (.cells #[.int .i64 3,.string ⟨#[]⟩,.string rb,.slice ao 0 c] 106)) p.out) (pV!.flag (b:=wb) T.out (.bool false))) (pV!.flag (b:=wb) T.out (.bool false)));have N:=HX.out.cells;have V:=j.out.cells;have Z:=o.out.cells;obtain⟨R,f0⟩:=(D.out.up ((Below.refl _ w).alloc (n0! _) (.cells #[.int .i64 3,.string ⟨#[]⟩,.string rb,.slice ao 0 c] 106))).odd2;obtain⟨e1,Y⟩:=k.out.odd2;obtain⟨U,O⟩:=i.out.odd2;go_enter func190,ntmps190
    go_wp2_with fail
    obtain⟨w3,u⟩:=e! (((w.alloc (.cells #[.int .i64 3,.string ⟨#[]⟩,.string rb,.slice ao 0 c] 106)).setCell ⟨wb,2,none⟩ (.bool false)).setCell ⟨wb,2,none⟩ (.bool false));rw[<-u]at o i m ⊢;clear u HX j k N V Z R e1 U f0 Y O;have I:=h! (n6! p.out m.out.size);have Q:=h! (aB! ⟨#[]⟩ i.out (by have:=f.out;omega) g.out (by have:=f.out;unfold maxLen;omega) I.out);refine Q.out.mono ?_;rintro e w4 ⟨rfl,r,s⟩;rw[Bool.false_or]at r;have v:=h! (pV!.next m.out s);have J:=h! (s.box o.out (by decide) l.out);have K:=h! (n6! p.out v.out.size);have x:=h! (ab! ⟨#[45,62]⟩ r (by have:=f.out;rw[n3!];show _+2<=_;omega) (by have:=g.out;rw[n3!];omega) K.out);clear Q r s;go_wp2_with fail
    refine x.out.mono ?_;rintro e w5 ⟨rfl,C,q⟩;have z:=h! (pV!.next v.out q);have F:=h! (q.box J.out (by decide) l.out);have X:=F.out.cells;have G:=h! (n6! p.out z.out.size);have t:=h! (aB! rb C (by have:=f.out;rw[n3!,n3!];show _+2+_<=_;omega) (by have:=g.out;rw[n3!,n3!];omega) (by have:=f.out;unfold maxLen;omega) G.out);clear x C q;go_wp2_with fail
    refine t.out.mono ?_;rintro e w6 ⟨rfl,y,A⟩;have H:=h! y;have E:=h! (pV!.next z.out A);clear t y A X;go_wp2_with fail
    go_end0
    exact⟨rfl,_,(by have:=H.out;rwa[<-Bool.not_and]at this),by simp only[n3!];omega,(by simp only[n3!];show _+_+2+_<=_;omega),fun _=>by simp only[y1!],E.out⟩
   ·have L:=al! hnra;clear hnra;rw[show(ownB ra&&ownB rb&&decide (0=0))=(ownB ra&&ownB rb)from by cases ownB ra <;> cases ownB rb <;> rfl];have HX:=h! (Blk.made w #[.int .i64 3,.string ra,.string rb,.slice ao 0 c] 106);have j:=h! (HX.out.other (a:=⟨wb,2,none⟩) l.out (.bool false));have o:=h! (j.out.other (a:=⟨wb,2,none⟩) l.out (.bool false));have k:=h! ((D.out.up ((Below.refl _ w).alloc (n0! _) (.cells #[.int .i64 3,.string ra,.string rb,.slice ao 0 c] 106))).flag false);have i:=h! (k.out.flag false);have m:=h! (pV!.next (pV!.next (pV!.of ((Below.refl _ w).alloc (n0! _) (.cells #[.int .i64 3,.string ra,.string rb,.slice ao 0 c] 106)) p.out) (pV!.flag (b:=wb) T.out (.bool false))) (pV!.flag (b:=wb) T.out (.bool false)));have N:=HX.out.cells;have V:=j.out.cells;have Z:=o.out.cells;obtain⟨R,f0⟩:=(D.out.up ((Below.refl _ w).alloc (n0! _) (.cells #[.int .i64 3,.string ra,.string rb,.slice ao 0 c] 106))).odd2;obtain⟨e1,Y⟩:=k.out.odd2;obtain⟨U,O⟩:=i.out.odd2;go_enter func190,ntmps190
    go_wp2_with fail
    obtain⟨w3,u⟩:=e! (((w.alloc (.cells #[.int .i64 3,.string ra,.string rb,.slice ao 0 c] 106)).setCell ⟨wb,2,none⟩ (.bool false)).setCell ⟨wb,2,none⟩ (.bool false));rw[<-u]at o i m ⊢;clear u HX j k N V Z R e1 U f0 Y O;have I:=h! (n6! p.out m.out.size);have Q:=h! (aB! ra i.out (by have:=f.out;omega) g.out (by have:=f.out;unfold maxLen;omega) I.out);refine Q.out.mono ?_;rintro e w4 ⟨rfl,r,s⟩;rw[Bool.false_or]at r;have v:=h! (pV!.next m.out s);have J:=h! (s.box o.out (by decide) l.out);have K:=h! (n6! p.out v.out.size);have x:=h! (ab! ⟨#[45,62]⟩ r (by have:=f.out;rw[n3!];show _+2<=_;omega) (by have:=g.out;rw[n3!];omega) K.out);clear Q r s;go_wp2_with fail
    refine x.out.mono ?_;rintro e w5 ⟨rfl,C,q⟩;have z:=h! (pV!.next v.out q);have F:=h! (q.box J.out (by decide) l.out);have X:=F.out.cells;have G:=h! (n6! p.out z.out.size);have t:=h! (aB! rb C (by have:=f.out;rw[n3!,n3!];show _+2+_<=_;omega) (by have:=g.out;rw[n3!,n3!];omega) (by have:=f.out;unfold maxLen;omega) G.out);clear x C q;go_wp2_with fail
    refine t.out.mono ?_;rintro e w6 ⟨rfl,y,A⟩;have H:=h! y;have E:=h! (pV!.next z.out A);clear t y A X;go_wp2_with fail
    go_end0
    exact⟨rfl,_,(by have:=H.out;rwa[<-Bool.not_and]at this),by simp only[n3!];omega,(by simp only[n3!];show _+_+2+_<=_;omega),fun _=>by simp only[y1!],E.out⟩
theorem kF! {B wb:Nat}(r:RT):∀(pv:Value)(d:Nat)(w:World)(text:ByteArray),RTAt (· < B) w r pv->text.size+r.wt<=1099511627776->0<text.size->d<=8->WrB w B wb text false->B<=w.heap.size ->
  Calls prog 190 #[.pointer (some ⟨wb,0,none⟩),rV r pv,.int .i64 d] w (WRes B wb w text (r.textOk d) r.text r.wt):=by
 induction r using RT.ind with
 | h r ih =>
 intro pv d w text hat hlim hpos hd hw hbw;have n:=hat.rows;obtain⟨k,a,b,ps⟩:=r;dsimp only[RT.ps]at ih n;rw[RT.wt]at hlim;obtain⟨u,c,j,-⟩:=n;by_cases k1:k=1
 ·subst k1 j;refine(os! a b ps.length u c d hw hbw hpos (by omega)).mono ?_;rintro e v ⟨rfl,t,g,i,l,f,x⟩;exact⟨rfl,t,by rw[RT.textOk];exact g,i,by rw[RT.wt];omega,fun h=>by rw[RT.textOk]at h;rw[RT.text];exact f h,x⟩
 by_cases k2:k=2
 ·subst k2 j;refine(or! a b ps.length u c d hw hbw hpos (by omega)).mono ?_;rintro e v ⟨rfl,t,g,i,l,f,x⟩;exact⟨rfl,t,by rw[RT.textOk];exact g,i,by rw[RT.wt];omega,fun h=>by rw[RT.textOk]at h;rw[RT.text];exact f h,x⟩
 by_cases k3:k=3
 ·subst k3 j;refine(oq! a b ps.length u c d hw hbw hpos (by omega)).mono ?_;rintro e v ⟨rfl,t,g,i,l,f,x⟩;exact⟨rfl,t,by rw[RT.textOk];exact g,i,by rw[RT.wt];omega,fun h=>by rw[RT.textOk]at h;rw[RT.text];exact f h,x⟩
 by_cases k4:k=4
 ·subst k4;by_cases hg:a.size=0/\b.size=0/\2<=ps.length
  ·obtain⟨o,q,m⟩:=hg;obtain rfl:=ae! o;obtain rfl:=ae! q
   have y:(RT.mk 4 ⟨#[]⟩ ⟨#[]⟩ ps).textOk d=ps.all (goodP 4 d):=by
    rw[RT.textOk,bW!,v2! m];rfl
   refine(mP! ps d hd pv hw hbw hat hpos (by omega) m (fun p hp pv d w text h1 h2 s h4 h5 h6=>ih p hp pv d w text h1 h2 s h4 h5 h6)).mono ?_;rintro e v ⟨rfl,t,g,i,l,f,x⟩;exact⟨rfl,t,by rw[y];exact g,i,by rw[RT.wt];omega,fun h=>by rw[y]at h;rw[RT.text];exact f h,x⟩
  ·have y:(RT.mk 4 a b ps).textOk d=false:=by
    rw[RT.textOk];by_cases h1:a.size=0
    ·by_cases h2:b.size=0
     ·have s:¬ 2<=ps.length:=fun s=>hg ⟨h1,h2,s⟩;simp[h1,h2,s]
     ·simp[h2]
    ·simp[h1]
   rw[y];subst j;exact hq! a b ps.length u c d hw hbw hg
 by_cases k5:k=5
 ·subst k5;by_cases hg:a.size=0/\b.size=0/\2<=ps.length
  ·obtain⟨o,q,m⟩:=hg;obtain rfl:=ae! o;obtain rfl:=ae! q
   have y:(RT.mk 5 ⟨#[]⟩ ⟨#[]⟩ ps).textOk d=ps.all (goodP 5 d):=by
    rw[RT.textOk,bW!,v2! m];rfl
   refine(mO! ps d hd pv hw hbw hat hpos (by omega) m (fun p hp pv d w text h1 h2 s h4 h5 h6=>ih p hp pv d w text h1 h2 s h4 h5 h6)).mono ?_;rintro e v ⟨rfl,t,g,i,l,f,x⟩;exact⟨rfl,t,by rw[y];exact g,i,by rw[RT.wt];omega,fun h=>by rw[y]at h;rw[RT.text];exact f h,x⟩
  ·have y:(RT.mk 5 a b ps).textOk d=false:=by
    rw[RT.textOk];by_cases h1:a.size=0
    ·by_cases h2:b.size=0
     ·have s:¬ 2<=ps.length:=fun s=>hg ⟨h1,h2,s⟩;simp[h1,h2,s]
     ·simp[h2]
    ·simp[h1]
   rw[y];subst j;exact hp! a b ps.length u c d hw hbw hg
 have y:(RT.mk k a b ps).textOk d=false:=by rw[RT.textOk,if_neg k1,if_neg k2,if_neg k3,if_neg (by omega)]
 rw[y];subst j;refine(op! k a b ps.length u c d hw hbw (by rw[n7!];exact k1) (by rw[n7!];exact k2) (by rw[n7!];exact k3) (by rw[n7!];exact k4) (by rw[n7!];exact k5)).mono ?_;rintro e v ⟨rfl,t,g,i,l,f,x⟩;exact⟨rfl,t,g,i,by rw[RT.wt];omega,(fun h=>by cases h),x⟩
theorem ds! {B wb:Nat}(r:RT)(pv:Value)(d:Nat)(w:World)(text:ByteArray)(o:Bool)(hat:RTAt (· < B) w r pv)(hlim:text.size+r.wt<=1099511627776)(hpos:0<text.size)(hd:d<=8)(hw:WrB w B wb text o)(hbw:B<=w.heap.size) :
  Calls prog 190 #[.pointer (some ⟨wb,0,none⟩),rV r pv,.int .i64 d] w fun e w'=>e= .returned (.tuple #[])/\∃text',WrB w' B wb text' (o||!r.textOk d)/\text.size<=text'.size/\text'.size<=text.size+r.wt/\(o=false->r.textOk d=true->text'=text++r.text)/\pV! B wb w w':=by
 cases o with
 | true =>
  obtain⟨ao,c,rfl,-⟩:=hat.rows;refine(ew! r.k r.a r.b r.ps.length ao c d hw hbw).mono ?_;rintro e w5 ⟨rfl,h1,h2⟩;exact⟨rfl,text,h1,n0! _,Nat.le_add_right _ _,(fun h=>by cases h),h2⟩
 | false =>
  refine(kF! r pv d w text hat hlim hpos hd hw hbw).mono ?_;rintro e w5 ⟨rfl,t,h1,h2,h3,h4,h5⟩;exact⟨rfl,t,by rw[Bool.false_or];exact h1,h2,h3,fun _=>h4,h5⟩
def relT (x:ByteArray × RT):ByteArray:=x.1++⟨#[32,61,32]⟩++x.2.text++⟨#[10]⟩
def relsT:List (ByteArray × RT)->ByteArray | []=>ByteArray.empty | x::l=>relT x++relsT l
def tyT (t:TyS):ByteArray:=⟨#[116,121,112,101,32]⟩++t.name++⟨#[10]⟩++relsT t.rels
def schT:List TyS->ByteArray | []=>ByteArray.empty | t::ts=>tyT t++schT ts
theorem bY! (a b:List (ByteArray × RT)):relsT (a++b)=relsT a++relsT b:=by
 induction a with
 | nil=>rw[y2!,relsT,ByteArray.empty_append]
 | cons x a ih=>rw[x2!,relsT,relsT,ih,y1!]
theorem hM! (a b:List TyS):schT (a++b)=schT a++schT b:=by
 induction a with
 | nil=>rw[y2!,schT,ByteArray.empty_append]
 | cons x a ih=>rw[x2!,schT,schT,ih,y1!]
def relB:List (ByteArray × RT)->Nat | []=>0 | x::l=>(10+x.1.size+x.2.wt)+relB l
def schB:List TyS->Nat | []=>0 | t::ts=>(10+t.name.size+relB t.rels)+schB ts
theorem en! (a b:List (ByteArray × RT)):relB (a++b)=relB a+relB b:=by
 induction a with
 | nil=>simp[relB]
 | cons x a ih=>rw[x2!,relB,relB,ih];omega
theorem el! (a b:List TyS):schB (a++b)=schB a+schB b:=by
 induction a with
 | nil=>simp[schB]
 | cons x a ih=>rw[x2!,schB,schB,ih];omega
theorem gL! {l:List (ByteArray × RT)}{i:Nat}(hi:i<l.length):relB (l.take (i+1))=relB (l.take i)+(10+l[i].1.size+l[i].2.wt):=by
 rw[n2! hi,en!];simp[relB]
theorem lc! {l:List TyS}{i:Nat}(hi:i<l.length):schB (l.take (i+1))=schB (l.take i)+(10+l[i].name.size+relB l[i].rels):=by
 rw[n2! hi,el!];simp[schB]
theorem oF! (l:List (ByteArray × RT))(i:Nat):relB (l.take i)<=relB l:=by
 conv=>rhs;rw[<-x6! i l]
 rw[en!];omega
theorem oB! (l:List TyS)(i:Nat):schB (l.take i)<=schB l:=by
 conv=>rhs;rw[<-x6! i l]
 rw[el!];omega
theorem im! (ts:List TyS)(tv:Value)(w:World)(h:pU! (· < w.heap.size) w ts tv)(hsz:schB ts<=549755813888):Calls prog 129 #[.agg #[tv]] w fun e w'=>e= .returned (.tuple #[.string (if br! ts then schT ts else⟨#[]⟩),.int .i64 (prN (br! ts))])/\Below w.heap.size w w':=by
 obtain⟨ao,c,rfl,bj,bh,R⟩:=h.rows;have HC:=h! R;have aE:=h! hsz;generalize hg:br! ts=g;have HG:Hid (g=ts.all tyOk):=h! hg.symm;have aA:=Blk.made w #[.slice ao ts.length c] 26;have aM:Below w.heap.size w (w.alloc (.cells #[.slice ao ts.length c] 26)):=(Below.refl _ _).alloc (n0! _) _;have ar:=Blk.made (w.alloc (.cells #[.slice ao ts.length c] 26)) #[.pointer none,.slice none 0 0,.bool false] 298;have a7:Below w.heap.size w ((w.alloc (.cells #[.slice ao ts.length c] 26)).alloc (.cells #[.pointer none,.slice none 0 0,.bool false] 298)):=aM.alloc (by simp) _;have Y:=h! a7;have s:=(aA.alloc (.cells #[.pointer none,.slice none 0 0,.bool false] 298)).cells;rw[World.size_alloc]at ar;have bc:=aA.cells;have ag:=h! ar;clear h R hsz hg aA aM a7 ar;go_enter func129,ntmps129
 go_wp2_with fail
 obtain⟨w2,aF⟩:=e! ((w.alloc (.cells #[.slice ao ts.length c] 26)).alloc (.cells #[.pointer none,.slice none 0 0,.bool false] 298));rw[<-aF]at Y ag ⊢;obtain⟨wb,aK⟩:=e! (w.heap.size+1);rw[<-aK]at ag ⊢;have aN:Hid (WrB w2 w.heap.size wb ⟨#[]⟩ false):=h! ⟨by omega,_,_,.inl rfl,ag.out,Own.nil _ _ _ _,fun _=>rfl⟩;have y:=h! Y.out.size;have bi:Hid (wb<w2.heap.size):=h! ag.out.lt;clear bc s aF aK;go_loopw [14] (fun ii wr=>∃(i:Nat) (t:ByteArray) (o:Bool),i<=ts.length/\ii= .int .i64 i/\o=!((ts.take i).all tyOk)/\WrB wr w.heap.size wb t o/\t.size<=schB (ts.take i)/\(o=false->t=schT (ts.take i))/\pV! w.heap.size wb w2 wr) (fun ii _=>ts.length-(intOf ii).toNat)
 case atStart=>exact⟨0,⟨#[]⟩,false,by omega,rfl,rfl,aN.out,v1! _,fun _=>rfl,Kept.refl _ _⟩
 case round =>
  obtain⟨i,t,o,hi,rfl,ho,hw,aT,hj,hk⟩:=hrel;have HO:=h! ho;have HW:=h! hw;have HJ:=h! hj;have az:=h! aT;clear aN ho hw hj aT;by_cases hlt:i<ts.length
  ·have r:Below w.heap.size w wr:=Y.out.trans hk.below;have ak:=lc! hlt;have aj:=oB! ts (i+1);have aW:=aE.out;have b5:=h! ak;rw[ak]at aj;have b4:=h! aj;have ab:=h! hlt;obtain⟨bb,Z,aY,ay,hb,c0,c1,F⟩:=HC.out i hlt;cases ay;have d0:=(r.cell (p:=⟨bb,Z+i*2,none⟩) hb).trans c0;have d1:=(r.cell (p:=⟨bb,Z+i*2+1,none⟩) hb).trans c1;generalize hti:ts[i]=ty at *;have aH:=h! hti;obtain⟨tn,d⟩:=ty;dsimp only at *;obtain⟨am,aC,rfl,bf,b7,H⟩:=F.rows;have b8:=h! H;have al:=h! (Blk.made wr #[.string tn,.slice am d.length aC] 176);have ah:=h! (show wr.heap.size≠wb from by have:=HW.out.lt;omega);have aB:=h! (pV!.next hk (pV!.of (b:=wb) ((Below.refl _ wr).alloc (n0! _) (.cells #[.string tn,.slice am d.length aC] 176)) (n6! y.out hk.size)));have aO:=h! (HW.out.up ((Below.refl _ wr).alloc (n0! _) (.cells #[.string tn,.slice am d.length aC] 176)));have b6:=al.out.cells;have C:=h! (show t.size+(10+tn.size+relB d)<=549755813888 from by have:=az.out;omega);have aQ:=h! (ab! ⟨#[116,121,112,101,32]⟩ aO.out (by have:=C.out;show _+5<=_;omega) (by show 0<_+5;omega) (n6! y.out aB.out.size));clear c0 c1 F H r ak aj aW hti hk;go_wp2_with fail
   refine aQ.out.mono ?_;rintro e wa ⟨rfl,m,l⟩;have B:=h! (pV!.next aB.out l);have av:=h! (l.box al.out (by decide) ah.out);have au:=av.out.cells;have K:=h! (aB! tn m (by have:=C.out;rw[n3!];show _+5+_<=_;omega) (by rw[n3!];show 0<_+5;omega) (by have:=C.out;unfold maxLen;omega) (n6! y.out B.out.size));clear aQ m l b6 d0 d1 aB aO al;go_wp2_with fail
   refine K.out.mono ?_;rintro e ax ⟨rfl,m,l⟩;have u:=h! (pV!.next B.out l);have aG:=h! (l.box av.out (by decide) ah.out);have v:=h! (ab! ⟨#[10]⟩ m (by have:=C.out;simp only[n3!];show _+5+_+1<=_;omega) (by rw[n3!];show 0<_+1;omega) (n6! y.out u.out.size));clear K m l au B av;go_wp2_with fail
   refine v.out.mono ?_;rintro e wc ⟨rfl,m,l⟩;have E:=h! (pV!.next u.out l);have b2:=h! (l.box aG.out (by decide) ah.out);have be:=b2.out.cells;obtain⟨t1,af⟩:=e! (t++⟨#[116,121,112,101,32]⟩++tn++⟨#[10]⟩);obtain⟨g1,aw⟩:∃g1,(o||!ownB tn)=!g1:=⟨!(o||!ownB tn),by simp⟩;rw[<-af,aw]at m
   have s:t1.size=t.size+6+tn.size:=by
    rw[af];simp only[n3!];rw[show(⟨#[116,121,112,101,32]⟩:ByteArray).size=5 from rfl,show(⟨#[10]⟩:ByteArray).size=1 from rfl];omega
   have aS:=h! s;have b1:=h! af;have aI:=h! aw;have aD:=h! m;clear v m l u aG s af aw;go_wp2_with fail
   clear be;go_loopw [33] (fun jj wr=>∃(j:Nat) (t2:ByteArray) (o:Bool),j<=d.length/\jj= .int .i64 j/\o=!(g1&&(d.take j).all relOk)/\WrB wr w.heap.size wb t2 o/\0<t2.size/\t2.size<=schB (ts.take i)+(10+tn.size)+relB (d.take j)/\(o=false->t2=t1++relsT (d.take j))/\pV! w.heap.size wb w2 wr) (fun jj _=>d.length-(intOf jj).toNat)
   case atStart=>exact⟨0,t1,_,by omega,rfl,by simp,aD.out,by have:=aS.out;omega,by have:=aS.out;have:=az.out;omega,fun _=>by rw[List.take_zero];exact(ByteArray.append_empty).symm,E.out⟩
   case round =>
    obtain⟨j,t2,o2,hj,rfl,ho,hw,s,D,aJ,hk⟩:=hrel;have aq:=h! hw;have O:=h! ho;have ad:=h! aJ;have n:=h! (And.intro s D);clear aD E ho hw aJ s D;by_cases hlt:j<d.length
    ·have r:Below w.heap.size w wr:=Y.out.trans hk.below;have ai:=h! (gL! hlt)
     have f:=h! (show schB (ts.take i)+(10+tn.size)+relB (d.take j)+(10+d[j].1.size+d[j].2.wt)<=549755813888 from by
      have h1:=b4.out;have h2:=aE.out;have h3:=oF! d (j+1);rw[gL! hlt]at h3;omega)
     have A:=h! hlt;obtain⟨bb,Z,aY,ay,hb,c0,c1,c2,c3,c4,F⟩:=b8.out j hlt;cases ay;have d0:=(r.cell (p:=⟨bb,Z+j*5,none⟩) hb).trans c0;have d1:=(r.cell (p:=⟨bb,Z+j*5+1,none⟩) hb).trans c1;have d2:=(r.cell (p:=⟨bb,Z+j*5+2,none⟩) hb).trans c2;have d3:=(r.cell (p:=⟨bb,Z+j*5+3,none⟩) hb).trans c3;have d4:=(r.cell (p:=⟨bb,Z+j*5+4,none⟩) hb).trans c4;obtain⟨ap,an,rfl,-⟩:=F.rows;have a4:=h! F;generalize hxe:d[j]=x at *;have a6:=h! hxe;obtain⟨xn,p⟩:=x;dsimp only at *;have N:=h! (Blk.made wr #[.string xn,.int .i64 p.k,.string p.a,.string p.b,.slice ap p.ps.length an] 181);have M:=h! (show wr.heap.size≠wb from by have:=aq.out.lt;omega);have a5:=h! (pV!.next hk (pV!.of (b:=wb) ((Below.refl _ wr).alloc (n0! _) (.cells #[.string xn,.int .i64 p.k,.string p.a,.string p.b,.slice ap p.ps.length an] 181)) (n6! y.out hk.size)));have G:=h! (aq.out.up ((Below.refl _ wr).alloc (n0! _) (.cells #[.string xn,.int .i64 p.k,.string p.a,.string p.b,.slice ap p.ps.length an] 181)));clear c0 c1 c2 c3 c4 F r hxe hk hlt;cases o2 with
     | true =>
      have L:=h! (G.out.flag true);have J:=h! (pV!.next a5.out (pV!.flag (b:=wb) G.out.1 (.bool true)));have I:=h! (N.out.other (a:=⟨wb,2,none⟩) M.out (.bool true));have O:=h! (show(!(g1&&(d.take j).all relOk))=true from O.out.symm);have HN:=h! (aB! xn L.out (by have:=n.out;have:=f.out;omega) (by have:=n.out;omega) (by have:=n.out;have:=f.out;unfold maxLen;omega) (n6! y.out J.out.size));obtain⟨ee,fe⟩:=G.out.odd2;obtain⟨es,fs⟩:=L.out.odd2;have xs:=I.out.cells;have xj:=N.out.cells;go_wp2_with fail
      refine HN.out.mono ?_;rintro e wa ⟨rfl,m,l⟩;have B:=h! (pV!.next J.out l);have a0:=h! (l.box I.out (by decide) M.out);have K:=h! (ab! ⟨#[32,61,32]⟩ m (by have:=n.out;have:=f.out;rw[n3!];show _+3<=_;omega) (by rw[n3!];show 0<_+3;omega) (n6! y.out B.out.size));clear HN m l ee fe es fs xs xj I L J N G a5;go_wp2_with fail
      refine K.out.mono ?_;rintro e ax ⟨rfl,m,l⟩;have u:=h! (pV!.next B.out l);have Q:=h! (l.box a0.out (by decide) M.out);have xb:=Q.out.cells;have v:=h! (ds! p _ 0 _ _ _ (a4.out.same (Same.below (Y.out.trans u.out.below))) (by have:=n.out;have:=f.out;simp only[n3!];show _+3+_<=_;omega) (by simp only[n3!];show 0<_+3;omega) (by omega) m (n6! y.out u.out.size));unfold rV at v;rw[show((0:Nat):Int)=0 from rfl]at v;clear K m l a0 B;go_wp2_with fail
      refine v.out.mono ?_;rintro e wc ⟨rfl,t4,T,s,D,z,X⟩;have E:=h! (pV!.next u.out X);simp only[n3!]at s D;rw[show(⟨#[32,61,32]⟩:ByteArray).size=3 from rfl]at s D;have a2:=h! (ab! ⟨#[10]⟩ T (by have:=n.out;have:=f.out;show _+1<=_;omega) (by show 0<_+1;omega) (n6! y.out E.out.size))
      have U:=h! (show 0<(t4++⟨#[10]⟩).size/\(t4++⟨#[10]⟩).size<=schB (ts.take i)+(10+tn.size)+relB (d.take (j+1))from by
       have:=n.out;have:=ai.out;rw[n3!,show(⟨#[10]⟩:ByteArray).size=1 from rfl];omega)
      have ae:=h! (show(true||!ownB xn||!p.textOk 0)=!(g1&&(d.take (j+1)).all relOk)from by
       have he:d[j]'A.out=(xn,p):=a6.out;rw[n2! A.out,List.all_append,he];show _=!(g1&&((d.take j).all relOk&&(relOk (xn,p)&&true)))
       have:=O.out;revert this
       cases g1 <;> cases (d.take j).all relOk <;> simp)
      have aa:=h! (show(true||!ownB xn||!p.textOk 0)=false->t4++⟨#[10]⟩=t1++relsT (d.take (j+1))from fun h=>by
       simp only[Bool.or_eq_false_iff,Bool.not_eq_false']at h;have he:d[j]'A.out=(xn,p):=a6.out;rw[z (by simp[h.1.1,h.1.2]) h.2,ad.out (by have:=h.1.1;cases this),n2! A.out,bY!,he];show _=t1++(relsT (d.take j)++(relT (xn,p)++ByteArray.empty))
       rw[ByteArray.append_empty];unfold relT;dsimp only;simp only[y1!])
      have a3:=A.out;clear v T s D z X xb Q u;go_wp2_with fail
      refine a2.out.mono ?_;rintro e wd ⟨rfl,V,a1⟩;have ac:=h! V;have a8:=h! (pV!.next E.out a1);clear a2 V a1 E d0 d1 d2 d3 d4;go_wp2_with fail
      go_roundw
      case rel=>exact⟨j+1,t4++⟨#[10]⟩,_,by omega,by go_num,ae.out,ac.out,U.out.1,U.out.2,aa.out,a8.out⟩
      case measure=>simp[intOf];omega
     | false =>
      have O:=h! (show(g1&&(d.take j).all relOk)=true from by have:=O.out;simpa using this);by_cases hty:xn=⟨#[116,121,112,101]⟩
      ·have L:=h! (G.out.flag true);have J:=h! (pV!.next a5.out (pV!.flag (b:=wb) G.out.1 (.bool true)));have I:=h! (N.out.other (a:=⟨wb,2,none⟩) M.out (.bool true));subst hty;have HN:=h! (aB! ⟨#[116,121,112,101]⟩ L.out (by have:=n.out;have:=f.out;omega) (by have:=n.out;omega) (by have:=n.out;have:=f.out;unfold maxLen;omega) (n6! y.out J.out.size));obtain⟨ee,fe⟩:=G.out.odd2;obtain⟨es,fs⟩:=L.out.odd2;have xs:=I.out.cells;have xj:=N.out.cells;go_wp2_with fail
       refine HN.out.mono ?_;rintro e wa ⟨rfl,m,l⟩;have B:=h! (pV!.next J.out l);have a0:=h! (l.box I.out (by decide) M.out);have K:=h! (ab! ⟨#[32,61,32]⟩ m (by have:=n.out;have:=f.out;rw[n3!];show _+3<=_;omega) (by rw[n3!];show 0<_+3;omega) (n6! y.out B.out.size));clear HN m l ee fe es fs xs xj I L J N G a5;go_wp2_with fail
       refine K.out.mono ?_;rintro e ax ⟨rfl,m,l⟩;have u:=h! (pV!.next B.out l);have Q:=h! (l.box a0.out (by decide) M.out);have xb:=Q.out.cells;have v:=h! (ds! p _ 0 _ _ _ (a4.out.same (Same.below (Y.out.trans u.out.below))) (by have:=n.out;have:=f.out;simp only[n3!];show _+3+_<=_;omega) (by simp only[n3!];show 0<_+3;omega) (by omega) m (n6! y.out u.out.size));unfold rV at v;rw[show((0:Nat):Int)=0 from rfl]at v;clear K m l a0 B;go_wp2_with fail
       refine v.out.mono ?_;rintro e wc ⟨rfl,t4,T,s,D,z,X⟩;have E:=h! (pV!.next u.out X);simp only[n3!]at s D;rw[show(⟨#[32,61,32]⟩:ByteArray).size=3 from rfl]at s D;have a2:=h! (ab! ⟨#[10]⟩ T (by have:=n.out;have:=f.out;show _+1<=_;omega) (by show 0<_+1;omega) (n6! y.out E.out.size))
       have U:=h! (show 0<(t4++⟨#[10]⟩).size/\(t4++⟨#[10]⟩).size<=schB (ts.take i)+(10+tn.size)+relB (d.take (j+1))from by
        have:=n.out;have:=ai.out;rw[n3!,show(⟨#[10]⟩:ByteArray).size=1 from rfl];omega)
       have ae:=h! (show(true||!ownB ⟨#[116,121,112,101]⟩||!p.textOk 0)=!(g1&&(d.take (j+1)).all relOk)from by
        have he:d[j]'A.out=(⟨#[116,121,112,101]⟩,p):=a6.out;rw[n2! A.out,List.all_append,he];show _=!(g1&&((d.take j).all relOk&&(relOk (⟨#[116,121,112,101]⟩,p)&&true)))
        rw[show relOk (⟨#[116,121,112,101]⟩,p)=false from by unfold relOk;simp];simp)
       have aa:=h! (show(true||!ownB ⟨#[116,121,112,101]⟩||!p.textOk 0)=false->t4++⟨#[10]⟩=t1++relsT (d.take (j+1))from fun h=>by
        simp only[Bool.or_eq_false_iff,Bool.not_eq_false']at h;have he:d[j]'A.out=(⟨#[116,121,112,101]⟩,p):=a6.out;rw[z (by simp[h.1.1,h.1.2]) h.2,ad.out (by have:=h.1.1;cases this),n2! A.out,bY!,he];show _=t1++(relsT (d.take j)++(relT (⟨#[116,121,112,101]⟩,p)++ByteArray.empty))
        rw[ByteArray.append_empty];unfold relT;dsimp only;simp only[y1!])
       have a3:=A.out;clear v T s D z X xb Q u;go_wp2_with fail
       refine a2.out.mono ?_;rintro e wd ⟨rfl,V,a1⟩;have ac:=h! V;have a8:=h! (pV!.next E.out a1);clear a2 V a1 E d0 d1 d2 d3 d4;go_wp2_with fail
       go_roundw
       case rel=>exact⟨j+1,t4++⟨#[10]⟩,_,by omega,by go_num,ae.out,ac.out,U.out.1,U.out.2,aa.out,a8.out⟩
       case measure=>simp[intOf];omega
      ·have aX:=h! hty;have aV:=aH! hty;rw[<-u5!,show(⟨#[116,121,112,101]⟩:ByteArray).data.toList=[116,121,112,101]from rfl]at aV;have L:=h! (G.out.flag false);have J:=h! (pV!.next a5.out (pV!.flag (b:=wb) G.out.1 (.bool false)));have I:=h! (N.out.other (a:=⟨wb,2,none⟩) M.out (.bool false));clear hty;have HN:=h! (aB! xn L.out (by have:=n.out;have:=f.out;omega) (by have:=n.out;omega) (by have:=n.out;have:=f.out;unfold maxLen;omega) (n6! y.out J.out.size));obtain⟨ee,fe⟩:=G.out.odd2;obtain⟨es,fs⟩:=L.out.odd2;have xs:=I.out.cells;have xj:=N.out.cells;go_wp2_with fail
       refine HN.out.mono ?_;rintro e wa ⟨rfl,m,l⟩;have B:=h! (pV!.next J.out l);have a0:=h! (l.box I.out (by decide) M.out);have K:=h! (ab! ⟨#[32,61,32]⟩ m (by have:=n.out;have:=f.out;rw[n3!];show _+3<=_;omega) (by rw[n3!];show 0<_+3;omega) (n6! y.out B.out.size));clear HN m l ee fe es fs xs xj I L J N G a5;go_wp2_with fail
       refine K.out.mono ?_;rintro e ax ⟨rfl,m,l⟩;have u:=h! (pV!.next B.out l);have Q:=h! (l.box a0.out (by decide) M.out);have xb:=Q.out.cells;have v:=h! (ds! p _ 0 _ _ _ (a4.out.same (Same.below (Y.out.trans u.out.below))) (by have:=n.out;have:=f.out;simp only[n3!];show _+3+_<=_;omega) (by simp only[n3!];show 0<_+3;omega) (by omega) m (n6! y.out u.out.size));unfold rV at v;rw[show((0:Nat):Int)=0 from rfl]at v;clear K m l a0 B;go_wp2_with fail
       refine v.out.mono ?_;rintro e wc ⟨rfl,t4,T,s,D,z,X⟩;have E:=h! (pV!.next u.out X);simp only[n3!]at s D;rw[show(⟨#[32,61,32]⟩:ByteArray).size=3 from rfl]at s D;have a2:=h! (ab! ⟨#[10]⟩ T (by have:=n.out;have:=f.out;show _+1<=_;omega) (by show 0<_+1;omega) (n6! y.out E.out.size))
       have U:=h! (show 0<(t4++⟨#[10]⟩).size/\(t4++⟨#[10]⟩).size<=schB (ts.take i)+(10+tn.size)+relB (d.take (j+1))from by
        have:=n.out;have:=ai.out;rw[n3!,show(⟨#[10]⟩:ByteArray).size=1 from rfl];omega)
       have ae:=h! (show(false||!ownB xn||!p.textOk 0)=!(g1&&(d.take (j+1)).all relOk)from by
        have he:d[j]'A.out=(xn,p):=a6.out;rw[n2! A.out,List.all_append,he];show _=!(g1&&((d.take j).all relOk&&(relOk (xn,p)&&true)))
        rw[<-Bool.and_assoc,O.out];unfold relOk;dsimp only;rw[v2! aX.out];cases p.textOk 0 <;> cases ownB xn <;> rfl)
       have aa:=h! (show(false||!ownB xn||!p.textOk 0)=false->t4++⟨#[10]⟩=t1++relsT (d.take (j+1))from fun h=>by
        simp only[Bool.or_eq_false_iff,Bool.not_eq_false']at h;have he:d[j]'A.out=(xn,p):=a6.out;rw[z (by simp[h.1.2]) h.2,ad.out (by first | rfl | trivial),n2! A.out,bY!,he];show _=t1++(relsT (d.take j)++(relT (xn,p)++ByteArray.empty))
        rw[ByteArray.append_empty];unfold relT;dsimp only;simp only[y1!])
       have a3:=A.out;clear v T s D z X xb Q u;go_wp2_with fail
       refine a2.out.mono ?_;rintro e wd ⟨rfl,V,a1⟩;have ac:=h! V;have a8:=h! (pV!.next E.out a1);clear a2 V a1 E d0 d1 d2 d3 d4;go_wp2_with fail
       go_roundw
       case rel=>exact⟨j+1,t4++⟨#[10]⟩,_,by omega,by go_num,ae.out,ac.out,U.out.1,U.out.2,aa.out,a8.out⟩
       case measure=>simp[intOf];omega
    ·obtain rfl:j=d.length:=by omega
     rw[u2!]at O ad n
     have b0:=h! (show o2=!((ts.take (i+1)).all tyOk)from by
      have he:ts[i]'ab.out=⟨tn,d⟩:=aH.out;rw[O.out,n2! ab.out,List.all_append,he];show _=!((ts.take i).all tyOk&&(tyOk ⟨tn,d⟩&&true))
      have h1:=aI.out;rw[HO.out]at h1;rw[show tyOk ⟨tn,d⟩=(ownB tn&&d.all relOk)from rfl];revert h1
      generalize (ts.take i).all tyOk=q;cases q <;> cases ownB tn <;> cases d.all relOk <;> cases g1 <;> simp)
     have ba:=h! (show o2=false->t2=schT (ts.take (i+1))from fun h=>by
      have he:ts[i]'ab.out=⟨tn,d⟩:=aH.out
      rw[ad.out h,b1.out,HJ.out (by
       have h1:=O.out;have h2:=aI.out;rw[h]at h1;revert h1 h2
       cases o <;> cases g1 <;> simp),n2! ab.out,hM!,he]
      show _=schT (ts.take i)++(tyT ⟨tn,d⟩++ByteArray.empty)
      rw[ByteArray.append_empty];unfold tyT;dsimp only;simp only[y1!])
     have bd:=h! (show t2.size<=schB (ts.take (i+1))from by have:=n.out;have:=b5.out;omega);have aZ:=h! hk;have a3:=ab.out;clear hk;go_wp2_with fail
     go_roundw
     case rel=>exact⟨i+1,t2,o2,by omega,by go_num,b0.out,aq.out,bd.out,ba.out,aZ.out⟩
     case measure=>simp[intOf];omega
  ·obtain rfl:i=ts.length:=by omega
   rw[u2!]at HO HJ az;have aL:Hid (o=!g):=h! (by rw[HO.out,HG.out]);have aR:=h! (Y.out.trans hk.below);obtain⟨ee,fe⟩:=HW.out.odd2;have a9:=h! (ho! HW.out);clear hk HO;cases o with
   | true =>
    have bg:g=false:=by have:=aL.out;revert this;cases g <;> simp
    subst bg;go_wp2_with fail
    go_ret2
    exact⟨rfl,aR.out⟩
   | false =>
    have b9:g=true:=by have:=aL.out;revert this;cases g <;> simp
    subst b9;have b3:=h! (HJ.out rfl);go_wp2_with fail
    refine a9.out.mono ?_;rintro e w9 ⟨rfl,aP⟩;have aU:=h! (aR.out.trans aP);clear a9 aP ee fe;go_wp2_with fail
    go_ret2
    exact⟨by rw[b3.out];rfl,aU.out⟩
def nmsP (n:ByteArray)(l:List (ByteArray × RT)):List R2:=⟨n,ByteArray.empty⟩::l.map fun r=>⟨n,r.1⟩
theorem gS! {n:ByteArray}{l:List (ByteArray × RT)}{i:Nat}(hi:i<l.length):nmsP n (l.take (i+1))=nmsP n (l.take i)++[⟨n,l[i].1⟩]:=by
 rw[n2! hi];simp only[nmsP,v9!,v8!,List.map_nil,x2!]
theorem cU! (n:ByteArray)(l:List (ByteArray × RT)):(nmsP n l).length=1+l.length:=by simp[nmsP];omega
theorem ju! (ts:List TyS)(i:Nat):(an! (ts.take i)).length<=(an! ts).length:=by
 conv=>rhs;rw[<-x6! i ts]
 simp only[an!,x9!,u4!];omega
theorem cG! (ts:List TyS)(tv:Value)(w:World)(h:pU! (· < w.heap.size) w ts tv)(hok:∀t∈ts,t.Ok)(hsB:schB ts<=549755813888)(hsz:∀t∈ts,∀r∈t.rels,r.2.sz<=1000000)(hln:(an! ts).length<=1099511627776)(hlr:(ac! ts).length<=1099511627776) :
  Calls prog 74 #[.agg #[tv]] w fun e w'=>e= .returned (.int .i64 (chk06 ts))/\Below w.heap.size w w':=by
 have bj:Below w.heap.size w (w.alloc (.cells #[tv] 26)):=(Below.refl _ _).alloc (n0! _) _;have bz:=h! (im! ts tv _ (h.up bj) hsB);have ce:=h! h;have aX:=h! hok;have bZ:=h! hsz;have c5:=h! hln;have ca:=h! hlr;obtain⟨ao,c,rfl,cq,cn,V⟩:=h.rows;have HC:=h! V;have bk:=Blk.made w #[.slice ao ts.length c] 26;have ck:=bk.cells;have bY:=h! bk;have bD:=h! bj;have co:=@run_makeMap prog;have HG:Hid (chk06 ts=if br! ts then(if bQ! ts then(if aT! ts then(if bF! ts then 0 else 2)else 3)else 10)else 9):=h! rfl;generalize chk06 ts=g at *;clear h V hok hsB hsz bk bj hln hlr;go_enter func74,ntmps74
 go_wp2_with fail
 refine bz.out.mono ?_;rintro e w2 ⟨rfl,bl⟩;have aS:=h! (bD.out.trans (bl.mono bD.out.size));have b4:=h! (bY.out.below bl);clear bz bl ck;cases hp:br! ts with
 | false =>
  have HF:=h! (show g=9 from by rw[HG.out,hp];rfl);rw[show prN false=9 from rfl];clear hp;go_wp2_with fail
  go_ret
  exact⟨by rw[HF.out];rfl,aS.out⟩
 | true =>
  rw[show prN true=0 from rfl];have HP:=h! hp;clear hp;have s3:=(b4.out.alloc (.map #[] 0)).cells;go_wp2_with fail
  obtain⟨w3,aJ⟩:=e! (w2.alloc (.map #[] 0));rw[<-aJ]at s3 ⊢;obtain⟨bn,aM⟩:=e! w2.heap.size;rw[<-aM];have bi:Ext w2 w3:=xa! aJ
  have bI:=h! (show Mp prog 121 r2V bV w3 bn (blR [])from by rw[aJ,aM];exact Mp.made _);have an:=h! (show w.heap.size<=bn from by rw[aM];exact aS.out.size);have ag:Hid (Below w.heap.size w w3):=h! (aS.out.trans (Below.mono bi aS.out.size));have cb:=h! (b4.out.below bi);have cf:=h! (show w.heap.size≠bn from by have:=b4.out.lt;omega);clear aJ bi aM s3;obtain⟨I,a8⟩:=e! (decide (ts.length<=16));rw[show(decide ((16:Int)<(ts.length:Int)))=!I from by rw[a8];by_cases h:ts.length<=16 <;> simp[h] <;> omega];have aY:=h! a8;clear a8;go_loopw [6,7,30] (fun av lv ii wr=>∃(i:Nat) (N:List R2) (o:Bool),i<=ts.length/\ii= .int .i64 i/\av= .int .i64 (((an! (ts.take i)).length:Nat):Int)/\lv= .bool o/\o=!(I&&(ts.take i).all bj!)/\Mp prog 121 r2V bV wr bn (blR N)/\pP! (an! (ts.take i)) N/\Tk bn w3 wr) (fun _ _ ii _=>ts.length-(intOf ii).toNat)
  case atStart=>exact⟨0,[],!I,by omega,rfl,rfl,rfl,by simp,bI.out,pP!.nil,Tk.refl _ _⟩
  case round =>
   obtain⟨i,N,o,hi,rfl,rfl,rfl,ho,hm,hn,u⟩:=hrel;have HO:=h! ho;have HM:=h! hm;have HN:=h! hn;clear bI ho hm hn;by_cases hlt:i<ts.length
   ·have f:Below w.heap.size w wr:=ag.out.trans (u.below ag.out.size an.out);obtain⟨bb,C,cp,aE,hb,c0,c1,l⟩:=HC.out i hlt;cases aE;have d0:=(f.cell (p:=⟨bb,C+i*2,none⟩) hb).trans c0;have d1:=(f.cell (p:=⟨bb,C+i*2+1,none⟩) hb).trans c1;have aU:=aX.out _ (n5! hlt);have aq:=h! (bZ.out _ (n5! hlt));have a1:=h! (gi! hlt);have cc:=h! (ju! ts (i+1));have ah:=h! hlt;generalize hti:ts[i]=t at *;have bG:=h! hti;obtain⟨tn,d⟩:=t;dsimp only at *;obtain⟨bB,b5⟩:=aU;dsimp only at bB b5;have a1:Hid (an! (ts.take (i+1))=an! (ts.take i)++nmsP tn d):=h! a1.out;have aB:=h! (show tn.size<=maxLen from by unfold maxLen;omega);have aH:=h! b5;obtain⟨bA,bS,rfl,cm,cg,D⟩:=l.rows;have bO:=h! D;have hea:Ext wr (wr.alloc (.cells #[.string tn,.slice bA d.length bS] 176)):=Ext.alloc _ _;have ar:=h! (Blk.made wr #[.string tn,.slice bA d.length bS] 176);have bM:=ar.out.cells;have aD:=h! (show wr.heap.size≠bn from by have:=HM.out.lt;omega);obtain⟨w4,m,bq,bp⟩:=(HM.out.below hea).store refK ct! Tryz.underlying141 (cs! ⟨tn,ByteArray.empty⟩ ⟨aB.out,by show ByteArray.empty.size<=maxLen;exact v1! _⟩) true;rw[dG!]at bq;unfold r2V bV at m;dsimp only at m;rw[show(ByteArray.empty:ByteArray)=⟨#[]⟩from rfl]at m;have aO:=h! bq;have a0:=h! (Tk.next u (Tk.next (Tk.of hea) (Tk.turned bp)));have ak:=h! ((Tk.turned bp).box ar.out aD.out);have br:=ak.out.cells;have L:=h! (ag.out.trans (a0.out.below ag.out.size an.out));have aR:=h! (show pP! (an! (ts.take i)++nmsP tn (d.take 0)) (addR N ⟨tn,ByteArray.empty⟩)from by rw[List.take_zero];exact HN.out.step _)
    have ch:(an! (ts.take i)).length+(1+d.length)<=1099511627776:=by
     have h1:=cc.out;have h2:=c5.out;rw[a1.out,u4!,cU!]at h1;omega
    have bT:wrap64 (1+(d.length:Int))=1+(d.length:Int):=bn! _ (by omega) (by omega);have aZ:wrap64 (((an! (ts.take i)).length:Int)+(1+(d.length:Int)))=((an! (ts.take i)).length:Int)+(1+(d.length:Int)):=bn! _ (by omega) (by omega);have bH:=h! aZ;clear c0 c1 l D f u b5 bB bq bp hea hti ch;have Q:=h! aD.out;cases o with
    | true =>
     obtain⟨g1,a7⟩:=e! ((I&&(ts.take i).all bj!&&decide (d.length<=16)));have b8:=h! a7
     have au:=h! (show true=!g1 from by
      rw[a7];have:=HO.out;revert this
      cases I <;> cases (ts.take i).all bj! <;> simp)
     clear a7;go_wp2_with fail
     clear bM br m d0 d1 bT aZ hlt;generalize wr.heap.size=tb at *;go_loopw [7,54] (fun lv jj wr=>∃(j:Nat) (N:List R2) (o:Bool),j<=d.length/\jj= .int .i64 j/\lv= .bool o/\o=!(g1&&(d.take j).all fun r=>decide (r.2.sz<=32))/\Mp prog 121 r2V bV wr bn (blR N)/\pP! (an! (ts.take i)++nmsP tn (d.take j)) N/\Tk bn w4 wr) (fun _ jj _=>d.length-(intOf jj).toNat)
     case atStart=>exact⟨0,addR N ⟨tn,ByteArray.empty⟩,true,by omega,rfl,rfl,by rw[List.take_zero];first | (simp;done) | (simpa using au.out),aO.out,aR.out,Tk.refl _ _⟩
     case round =>
      obtain⟨j,N,o,hj,rfl,rfl,ho,hm,hn,u⟩:=hrel;have M:=h! ho;have ab:=h! hm;have O:=h! hn;have q:=h! u;clear aO aR ho hm hn;by_cases hlt:j<d.length
      ·have f:Below w.heap.size w wr:=L.out.trans (u.below L.out.size an.out);have J:=aH.out _ (n5! hlt);have K:=aq.out _ (n5! hlt);have al:=h! hlt;have am:=h! (gS! (n:=tn) hlt);have ay:=h! (show((d.take (j+1)).all fun r=>decide (r.2.sz<=32))=((d.take j).all (fun r=>decide (r.2.sz<=32))&&decide (d[j].2.sz<=32))from by rw[n2! hlt,List.all_append];simp only[List.all_cons,List.all_nil,Bool.and_true];rfl);obtain⟨bb,C,pv,aE,hb,c0,c1,c2,c3,c4,l⟩:=bO.out j hlt;cases aE;have d0:=(f.cell (p:=⟨bb,C+j*5,none⟩) hb).trans c0;have d1:=(f.cell (p:=⟨bb,C+j*5+1,none⟩) hb).trans c1;have d2:=(f.cell (p:=⟨bb,C+j*5+2,none⟩) hb).trans c2;have d3:=(f.cell (p:=⟨bb,C+j*5+3,none⟩) hb).trans c3;have d4:=(f.cell (p:=⟨bb,C+j*5+4,none⟩) hb).trans c4;obtain⟨F,E,rfl,-⟩:=l.rows;generalize d[j]=x at *;obtain⟨xn,p⟩:=x;dsimp only at *;have aA:=h! (show xn.size<=maxLen from by have:=J.1;unfold maxLen;omega);have hea:Ext wr (wr.alloc (.cells #[.string xn,.int .i64 p.k,.string p.a,.string p.b,.slice F p.ps.length E] 181)):=Ext.alloc _ _;have a3:=h! (Blk.made wr #[.string xn,.int .i64 p.k,.string p.a,.string p.b,.slice F p.ps.length E] 181);have c8:=a3.out.cells;have B:=h! (gI! p _ _ (RTAt.mono (l.same (Same.below (f.trans (hea.mono f.size)))) (fun x hx=>n1! hx (n6! f.size hea.size))) K);unfold rV at B;clear c0 c1 c2 c3 c4 l hb u f J K hlt;cases o with
       | true =>
        have s:Hid (Ext wr (wr.alloc (.cells #[.string xn,.int .i64 p.k,.string p.a,.string p.b,.slice F p.ps.length E] 181))):=h! hea;obtain⟨w6,m,v,G⟩:=(ab.out.below s.out).store refK ct! Tryz.underlying141 (cs! ⟨tn,xn⟩ ⟨aB.out,aA.out⟩) true;rw[dG!]at v;unfold r2V bV at m;dsimp only at m;have a6:=h! v;have A:=h! (Tk.next q.out (Tk.next (Tk.of s.out) (Tk.turned G)));have r5:=a3.out.cells;have t5:=((q.out.box ak.out Q.out).below s.out).cells;clear v G
        have ad:=h! (show true=!(g1&&(d.take (j+1)).all fun r=>decide (r.2.sz<=32))from by
         rw[ay.out];have:=M.out;revert this
         cases g1 <;> cases (d.take j).all fun r=>decide (r.2.sz<=32) <;> simp)
        have aa:=h! (show pP! (an! (ts.take i)++nmsP tn (d.take (j+1))) (addR N ⟨tn,xn⟩)from by
         rw[am.out,<-y6!];exact O.out.step _)
        have H:=al.out;clear s;go_wp2_with fail
        clear r5 t5 m d0 d1 d2 d3 d4;go_roundw
        case rel=>exact⟨j+1,addR N ⟨tn,xn⟩,true,by omega,by go_num,rfl,ad.out,a6.out,aa.out,A.out⟩
        case measure=>simp[intOf];omega
       | false =>
        go_wp2_with fail
        refine B.out.mono ?_;rintro e w5 ⟨rfl,X⟩;have Z:=h! X;clear B X;have s:Hid (Ext wr w5):=h! (Ext.trans hea Z.out);obtain⟨w6,m,v,G⟩:=(ab.out.below s.out).store refK ct! Tryz.underlying141 (cs! ⟨tn,xn⟩ ⟨aB.out,aA.out⟩) true;rw[dG!]at v;unfold r2V bV at m;dsimp only at m;have a6:=h! v;have A:=h! (Tk.next q.out (Tk.next (Tk.of s.out) (Tk.turned G)));have r5:=(a3.out.below Z.out).cells;have t5:=((q.out.box ak.out Q.out).below s.out).cells;clear v G
        have ad:=h! (show(decide ((32:Int)<(p.sz:Int)))=!(g1&&(d.take (j+1)).all fun r=>decide (r.2.sz<=32))from by
         rw[ay.out];have:=M.out;rw[show(decide ((32:Int)<(p.sz:Int)))=!decide (p.sz<=32)from by by_cases h:p.sz<=32 <;> simp[h] <;> omega];revert this
         cases g1 <;> cases (d.take j).all fun r=>decide (r.2.sz<=32) <;> simp)
        have aa:=h! (show pP! (an! (ts.take i)++nmsP tn (d.take (j+1))) (addR N ⟨tn,xn⟩)from by
         rw[am.out,<-y6!];exact O.out.step _)
        have H:=al.out;clear s;go_wp2_with fail
        clear r5 t5 m d0 d1 d2 d3 d4;go_roundw
        case rel=>exact⟨j+1,addR N ⟨tn,xn⟩,(decide ((32:Int)<(p.sz:Int))),by omega,by go_num,rfl,ad.out,a6.out,aa.out,A.out⟩
        case measure=>simp[intOf];omega
      ·obtain rfl:j=d.length:=by omega
       rw[u2!]at M O
       have b6:=h! (show o=!(I&&(ts.take (i+1)).all bj!)from by
        have he:ts[i]'ah.out=⟨tn,d⟩:=bG.out;rw[M.out,b8.out,n2! ah.out,List.all_append,he];show _=!(I&&((ts.take i).all bj!&&(bj! ⟨tn,d⟩&&true)))
        unfold bj!;dsimp only;simp only[Bool.and_assoc,Bool.and_true])
       have bh:=h! (show pP! (an! (ts.take (i+1))) N from by rw[a1.out];exact O.out)
       have bf:=h! (show Value.int .i64 (wrap64 (((an! (ts.take i)).length:Int)+(1+(d.length:Int))))= .int .i64 (((an! (ts.take (i+1))).length:Nat):Int)from by
        have e:(((an! (ts.take i)).length:Int)+(1+(d.length:Int)))=(((an! (ts.take (i+1))).length:Nat):Int):=by
         rw[a1.out,u4!,cU!];omega
        rw[bH.out,e])
       have aT:=h! (Tk.next a0.out u);have H:=ah.out;clear u;go_wp2_with fail
       go_roundw
       case rel=>exact⟨i+1,N,o,by omega,by go_num,bf.out,rfl,b6.out,ab.out,bh.out,aT.out⟩
       case measure=>simp[intOf];omega
    | false =>
     obtain⟨g1,a7⟩:=e! ((I&&(ts.take i).all bj!&&decide (d.length<=16)));have b8:=h! a7
     have au:=h! (show(decide ((16:Int)<(d.length:Int)))=!g1 from by
      rw[a7];have:=HO.out;revert this
      rw[show(decide ((16:Int)<(d.length:Int)))=!decide (d.length<=16)from by by_cases h:d.length<=16 <;> simp[h] <;> omega];cases I <;> cases (ts.take i).all bj! <;> simp)
     clear a7;go_wp2_with fail
     clear bM br m d0 d1 bT aZ hlt;rw[au.out];have au:=h! (show(!g1)=!g1 from rfl);generalize wr.heap.size=tb at *;go_loopw [7,54] (fun lv jj wr=>∃(j:Nat) (N:List R2) (o:Bool),j<=d.length/\jj= .int .i64 j/\lv= .bool o/\o=!(g1&&(d.take j).all fun r=>decide (r.2.sz<=32))/\Mp prog 121 r2V bV wr bn (blR N)/\pP! (an! (ts.take i)++nmsP tn (d.take j)) N/\Tk bn w4 wr) (fun _ jj _=>d.length-(intOf jj).toNat)
     case atStart=>exact⟨0,addR N ⟨tn,ByteArray.empty⟩,!g1,by omega,rfl,rfl,by rw[List.take_zero];first | (simp;done) | (simpa using au.out),aO.out,aR.out,Tk.refl _ _⟩
     case round =>
      obtain⟨j,N,o,hj,rfl,rfl,ho,hm,hn,u⟩:=hrel;have M:=h! ho;have ab:=h! hm;have O:=h! hn;have q:=h! u;clear aO aR ho hm hn;by_cases hlt:j<d.length
      ·have f:Below w.heap.size w wr:=L.out.trans (u.below L.out.size an.out);have J:=aH.out _ (n5! hlt);have K:=aq.out _ (n5! hlt);have al:=h! hlt;have am:=h! (gS! (n:=tn) hlt);have ay:=h! (show((d.take (j+1)).all fun r=>decide (r.2.sz<=32))=((d.take j).all (fun r=>decide (r.2.sz<=32))&&decide (d[j].2.sz<=32))from by rw[n2! hlt,List.all_append];simp only[List.all_cons,List.all_nil,Bool.and_true];rfl);obtain⟨bb,C,pv,aE,hb,c0,c1,c2,c3,c4,l⟩:=bO.out j hlt;cases aE;have d0:=(f.cell (p:=⟨bb,C+j*5,none⟩) hb).trans c0;have d1:=(f.cell (p:=⟨bb,C+j*5+1,none⟩) hb).trans c1;have d2:=(f.cell (p:=⟨bb,C+j*5+2,none⟩) hb).trans c2;have d3:=(f.cell (p:=⟨bb,C+j*5+3,none⟩) hb).trans c3;have d4:=(f.cell (p:=⟨bb,C+j*5+4,none⟩) hb).trans c4;obtain⟨F,E,rfl,-⟩:=l.rows;generalize d[j]=x at *;obtain⟨xn,p⟩:=x;dsimp only at *;have aA:=h! (show xn.size<=maxLen from by have:=J.1;unfold maxLen;omega);have hea:Ext wr (wr.alloc (.cells #[.string xn,.int .i64 p.k,.string p.a,.string p.b,.slice F p.ps.length E] 181)):=Ext.alloc _ _;have a3:=h! (Blk.made wr #[.string xn,.int .i64 p.k,.string p.a,.string p.b,.slice F p.ps.length E] 181);have c8:=a3.out.cells;have B:=h! (gI! p _ _ (RTAt.mono (l.same (Same.below (f.trans (hea.mono f.size)))) (fun x hx=>n1! hx (n6! f.size hea.size))) K);unfold rV at B;clear c0 c1 c2 c3 c4 l hb u f J K hlt;cases o with
       | true =>
        have s:Hid (Ext wr (wr.alloc (.cells #[.string xn,.int .i64 p.k,.string p.a,.string p.b,.slice F p.ps.length E] 181))):=h! hea;obtain⟨w6,m,v,G⟩:=(ab.out.below s.out).store refK ct! Tryz.underlying141 (cs! ⟨tn,xn⟩ ⟨aB.out,aA.out⟩) true;rw[dG!]at v;unfold r2V bV at m;dsimp only at m;have a6:=h! v;have A:=h! (Tk.next q.out (Tk.next (Tk.of s.out) (Tk.turned G)));have r5:=a3.out.cells;have t5:=((q.out.box ak.out Q.out).below s.out).cells;clear v G
        have ad:=h! (show true=!(g1&&(d.take (j+1)).all fun r=>decide (r.2.sz<=32))from by
         rw[ay.out];have:=M.out;revert this
         cases g1 <;> cases (d.take j).all fun r=>decide (r.2.sz<=32) <;> simp)
        have aa:=h! (show pP! (an! (ts.take i)++nmsP tn (d.take (j+1))) (addR N ⟨tn,xn⟩)from by
         rw[am.out,<-y6!];exact O.out.step _)
        have H:=al.out;clear s;go_wp2_with fail
        clear r5 t5 m d0 d1 d2 d3 d4;go_roundw
        case rel=>exact⟨j+1,addR N ⟨tn,xn⟩,true,by omega,by go_num,rfl,ad.out,a6.out,aa.out,A.out⟩
        case measure=>simp[intOf];omega
       | false =>
        go_wp2_with fail
        refine B.out.mono ?_;rintro e w5 ⟨rfl,X⟩;have Z:=h! X;clear B X;have s:Hid (Ext wr w5):=h! (Ext.trans hea Z.out);obtain⟨w6,m,v,G⟩:=(ab.out.below s.out).store refK ct! Tryz.underlying141 (cs! ⟨tn,xn⟩ ⟨aB.out,aA.out⟩) true;rw[dG!]at v;unfold r2V bV at m;dsimp only at m;have a6:=h! v;have A:=h! (Tk.next q.out (Tk.next (Tk.of s.out) (Tk.turned G)));have r5:=(a3.out.below Z.out).cells;have t5:=((q.out.box ak.out Q.out).below s.out).cells;clear v G
        have ad:=h! (show(decide ((32:Int)<(p.sz:Int)))=!(g1&&(d.take (j+1)).all fun r=>decide (r.2.sz<=32))from by
         rw[ay.out];have:=M.out;rw[show(decide ((32:Int)<(p.sz:Int)))=!decide (p.sz<=32)from by by_cases h:p.sz<=32 <;> simp[h] <;> omega];revert this
         cases g1 <;> cases (d.take j).all fun r=>decide (r.2.sz<=32) <;> simp)
        have aa:=h! (show pP! (an! (ts.take i)++nmsP tn (d.take (j+1))) (addR N ⟨tn,xn⟩)from by
         rw[am.out,<-y6!];exact O.out.step _)
        have H:=al.out;clear s;go_wp2_with fail
        clear r5 t5 m d0 d1 d2 d3 d4;go_roundw
        case rel=>exact⟨j+1,addR N ⟨tn,xn⟩,(decide ((32:Int)<(p.sz:Int))),by omega,by go_num,rfl,ad.out,a6.out,aa.out,A.out⟩
        case measure=>simp[intOf];omega
      ·obtain rfl:j=d.length:=by omega
       rw[u2!]at M O
       have b6:=h! (show o=!(I&&(ts.take (i+1)).all bj!)from by
        have he:ts[i]'ah.out=⟨tn,d⟩:=bG.out;rw[M.out,b8.out,n2! ah.out,List.all_append,he];show _=!(I&&((ts.take i).all bj!&&(bj! ⟨tn,d⟩&&true)))
        unfold bj!;dsimp only;simp only[Bool.and_assoc,Bool.and_true])
       have bh:=h! (show pP! (an! (ts.take (i+1))) N from by rw[a1.out];exact O.out)
       have bf:=h! (show Value.int .i64 (wrap64 (((an! (ts.take i)).length:Int)+(1+(d.length:Int))))= .int .i64 (((an! (ts.take (i+1))).length:Nat):Int)from by
        have e:(((an! (ts.take i)).length:Int)+(1+(d.length:Int)))=(((an! (ts.take (i+1))).length:Nat):Int):=by
         rw[a1.out,u4!,cU!];omega
        rw[bH.out,e])
       have aT:=h! (Tk.next a0.out u);have H:=ah.out;clear u;go_wp2_with fail
       go_roundw
       case rel=>exact⟨i+1,N,o,by omega,by go_num,bf.out,rfl,b6.out,ab.out,bh.out,aT.out⟩
       case measure=>simp[intOf];omega
   ·obtain rfl:i=ts.length:=by omega
    rw[u2!]at HO HN;have aL:bQ! ts=!o:=by rw[HO.out,aY.out];unfold bQ!;simp
    have L:=h! (ag.out.trans (u.below ag.out.size an.out));have bN:Hid (g=if bQ! ts then(if aT! ts then(if bF! ts then 0 else 2)else 3)else 10):=h! (by rw[HG.out,if_pos HP.out]);have cd:=h! (u.box cb.out cf.out);have Y:=HM.out.len Tryz.underlying141;have bu:(blR N).length=N.length:=by simp[blR]
    rw[bu]at Y;have bQ:=h! HN.out.lt;have bJ:=h! (fun(hu:aT! ts=true)=>oP! ts _ wr (ce.out.up L.out) aX.out hu ca.out);have s4:=cd.out.cells;clear u bu;cases o with
    | true =>
     have HF:=h! (show g=10 from by rw[bN.out,aL];rfl);clear aL;go_wp2_with fail
     go_ret
     exact⟨by rw[HF.out];rfl,L.out⟩
    | false =>
     have bw:=h! (show g=if aT! ts then(if bF! ts then 0 else 2)else 3 from by rw[bN.out,aL];rfl);clear aL;by_cases hnd:(an! ts).Nodup
     rotate_left
     ·have HF:Hid (g=3):=h! (by rw[bw.out,if_neg (fun h=>hnd ((eq! HP.out).2 h))]);have hlt:(N.length:Int)<((an! ts).length:Int):=by have:=bQ.out.2 hnd;omega
      clear hnd;go_wp2_with fail
      go_ret
      exact⟨by rw[HF.out];rfl,L.out⟩
     have hu:=(eq! HP.out).1 hnd;have HU:=h! hu;have bU:Hid (g=if bF! ts then 0 else 2):=h! (by rw[bw.out,if_pos hu])
     have cl:¬ ((N.length:Int)<((an! ts).length:Int)):=by
      have:¬ N.length<(an! ts).length:=fun h=>bQ.out.1 h hnd;omega
     have aI:=h! (bJ.out hu);clear hnd hu bJ;go_wp2_with fail
     refine aI.out.mono ?_;rintro e w5 ⟨b1,b2,b3,rfl,bt,X⟩;have Z:=h! (L.out.trans (X.mono L.out.size));obtain⟨w6,ai⟩:=e! (w5.alloc (.cells #[.map (some b1),.map (some b2),.map (some b3)] 229));have b7:Ext w5 w6:=xa! ai
     have bd:=h! (show Blk w6 w5.heap.size #[.map (some b1),.map (some b2),.map (some b3)] 229 from bm! ai);have bo:=h! (bt.up b7);have aG:Hid (Below w.heap.size w w6):=h! (Z.out.trans (b7.mono Z.out.size));obtain⟨lr,hM,bL,bX⟩:=bo.out.R;have be:=h! bL;have bP:=h! bX;have c6:=bd.out.cells;subst ai;clear aI bt X b7 bL bX s4 Y cl;go_wp2_with (at_range;go_must (refine bl! _ rfl _ 225 rfl Tryz.underlying225 rfl hM ?_);intro wR a4 hbR hszR)
     try go_frame
     have T:=h! a4;have ba:=h! hbR;clear c6 hM a4 hbR hszR;obtain⟨w6,ai⟩:=e! (w5.alloc (.cells #[.map (some b1),.map (some b2),.map (some b3)] 229));rw[<-ai]at bd bo aG bP T ba ⊢;clear ai;obtain⟨nR,bR⟩:=e! w6.heap.size;rw[<-bR]at T ⊢;have aW:Hid (w6.heap.size<=nR):=h! (by omega);clear bR;generalize w5.heap.size=bc at *;go_loopw [85] (fun _ wr=>∃rem:List (R2 × RV),Rng prog 121 r2V rvV wr b1 nR lr rem/\(∀x∈lr,x∈rem\/x.2.1.pnamed (ac! ts) x.1.t=true)/\(∀x∈rem,x∈lr)/\Below w6.heap.size w6 wr) (fun _ wr=>wr.rangeLeft b1 nR)
     case atStart=>exact⟨lr,T.out,fun x hx => .inl hx,fun x hx=>hx,ba.out⟩
     case round =>
      obtain⟨rem,a4,ax,aC,f⟩:=hrel;have ap:=h! ax;have a9:=h! aC;have bE:=h! f;clear T ba ax aC f;go_wp2_with (at_next;go_must (refine cg! _ rfl _ rfl rfl a4 ?_ ?_))
      ·intro z;subst z
       have HF:=h! (show g=0 from by
        rw[bU.out,if_pos];refine(gV! HP.out HU.out).1 fun x hx=>?_;rw[<-be.out]at hx;obtain⟨y,hy,rfl⟩:=u6!.1 hx;rcases ap.out y hy with h | h
        ·cases h
        ·exact h)
       have aj:=h! (aG.out.trans (bE.out.mono aG.out.size));clear a4;go_wp2_with fail
       go_ret
       exact⟨by rw[HF.out];rfl,aj.out⟩
      ·rintro cj ⟨kt,kr⟩ p pv bm w7 z aw bW c9 aN;have aV:((⟨kt,kr⟩,(p,pv)):R2 × RV)∈lr:=a9.out _ (by rw[z];simp);have bK:(⟨⟨kt,kr⟩,p⟩:R2 × RT)∈ac! ts:=by rw[<-be.out];exact u6!.2 ⟨_,aV,rfl⟩
       obtain⟨t,ht,r,hr,he⟩:=aY!.1 bK;have a5:=aX.out t ht;have aF:=a5.2 r hr;have bv:kt.size<=maxLen:=by injection he with e1 e2;injection e1 with e3 e4;rw[e3];have:=a5.1;unfold maxLen;omega
       have bx:p.Ok:=by injection he with e1 e2;rw[e2];exact aF.2
       have aK:Below w6.heap.size w6 w7:=bE.out.trans (Kept.below bW fun x hx=>by have:=aW.out;show x≠nR;omega);have U:=(bP.out _ aV).up aK;dsimp only at U;obtain⟨F,E,rfl,-⟩:=U.rows;obtain⟨w8,aQ⟩:=e! (w7.alloc (.cells #[.string kt,.string kr] 121));obtain⟨w9,bg⟩:=e! (w8.alloc (.cells #[.int .i64 p.k,.string p.a,.string p.b,.slice F p.ps.length E] 106));have e8:w8.heap.size=w7.heap.size+1:=by rw[aQ];simp
       have aP:Ext w7 w8:=xa! aQ
       have az:Ext w8 w9:=xa! bg
       have k9:=(show Blk w9 w7.heap.size #[.string kt,.string kr] 121 from Blk.below (bm! aQ) az).cells;have r9:=(show Blk w9 (w7.heap.size+1) #[.int .i64 p.k,.string p.a,.string p.b,.slice F p.ps.length E] 106 from by rw[bg,<-e8];exact Blk.made _ _ _).cells;have af:Hid (Below w6.heap.size w6 w9):=h! (aK.trans ((aP.trans az).mono aK.size));have b9:=(bd.out.below af.out).cells;have ac:=h! (jc! kt bv p _ w9 (bo.out.up af.out) (U.up (aP.trans az)) bx);have b0:=h! (aw.below (aP.trans az));have a2:=h! z;have bC:wr.rangeLeft b1 nR=rem.length:=a4.left_eq;have c7:=h! bC;unfold r2V rvV rV at aN;unfold rV at ac;dsimp only at aN;subst bg aQ;clear aV bK ht hr he a5 aF bv bx aK U e8 aP az aw a4 bW c9 bC;cases hpn:p.pnamed (ac! ts) kt with
       | false =>
        rw[hpn]at ac
        have HF:=h! (show g=2 from by
         rw[bU.out,if_neg];intro h;have h1:=(gV! HP.out HU.out).2 h (⟨kt,kr⟩,p) (by rw[<-be.out];exact u6!.2 ⟨((⟨kt,kr⟩,(p,.slice F p.ps.length E)):R2 × RV),a9.out _ (by rw[z];simp),rfl⟩);dsimp only at h1;rw[hpn]at h1;cases h1)
        clear z hpn;go_wp2_with fail
        refine ac.out.mono ?_;rintro e wa ⟨rfl,ae⟩;have aj:=h! (aG.out.trans ((af.out.trans (ae.mono af.out.size)).mono aG.out.size));clear ac ae k9 r9 b9 aN;go_wp2_with fail
        go_ret
        exact⟨by rw[HF.out];rfl,aj.out⟩
       | true =>
        rw[hpn]at ac;have ci:=h! hpn;clear z hpn;go_wp2_with fail
        refine ac.out.mono ?_;rintro e wa ⟨rfl,ae⟩;have bF:=b0.out.below ae;have bs:=h! bF;have aj:=h! (af.out.trans (ae.mono af.out.size));clear ac ae k9 r9 b9 aN bF;go_wp2_with fail
        go_roundw
        case rel =>
         refine⟨cj++bm,bs.out,fun x hx=>?_,fun x hx=>a9.out x (by rw[a2.out];rcases u3!.1 hx with h | h <;> simp[h]),aj.out⟩;rcases ap.out x hx with h | h
         ·rw[a2.out]at h;rcases u3!.1 h with h | h
          ·exact .inl (List.mem_append_left _ h)
          ·rcases v7!.1 h with rfl | h
           ·exact .inr ci.out
           ·exact .inl (List.mem_append_right _ h)
         ·exact .inr h
        case measure=>rw[bs.out.left_eq,c7.out,a2.out];simp
end Go.Proofs.YtlhaghoajpglaaaGreat
