/- Lemmas for the claim, no condition. -/
import Derived.Test.YtlhaghoajpglaaaGreatYPrMore1
import Derived.Test.YtlhaghoajpglaaaGreatYPrMore1
set_option maxRecDepth 100000
set_option maxHeartbeats 8000000
namespace Go.Proofs.YtlhaghoajpglaaaGreat
open Go Go.RowKit Go.Proofs.Tryz
theorem gy! {B wb:Nat}{add:ByteArray}{wt:Nat}{text:ByteArray}{w:World}(ra rb:ByteArray)(n:Nat)(ao:Option Addr)(c:Nat)(d:Int)(h:WrB w B wb text false)(hBw:B<=w.heap.size)(hbad:¬ (ra.size=0/\rb.size=0/\2<=n)) :
  Calls prog 190 #[.pointer (some ⟨wb,0,none⟩),.agg #[.int .i64 5,.string ra,.string rb,.slice ao n c],.int .i64 d] w (WRes B wb w text (false) (add) (wt)):=by
 have i:=h! h;have p:=h! h.1;have m:=h! hBw;have j:=h! (show w.heap.size≠wb from by have:=h.lt;omega);clear h hBw;by_cases h0:n=0
 ·subst h0;clear hbad;have o:=h! (Blk.made w #[.int .i64 5,.string ra,.string rb,.slice ao 0 c] 106);have g:=h! (o.out.other (a:=⟨wb,2,none⟩) j.out (.bool true));have l:=h! (g.out.other (a:=⟨wb,2,none⟩) j.out (.bool true));have f:=h! ((i.out.up ((Below.refl _ w).alloc (n0! _) (.cells #[.int .i64 5,.string ra,.string rb,.slice ao 0 c] 106))).flag true);have e:=h! (f.out.flag true);have k:=h! (ov!.next (ov!.next (ov!.of ((Below.refl _ w).alloc (n0! _) (.cells #[.int .i64 5,.string ra,.string rb,.slice ao 0 c] 106)) m.out) (ov!.flag (b:=wb) p.out (.bool true))) (ov!.flag (b:=wb) p.out (.bool true)));have x0:=o.out.cells;have x1:=g.out.cells;have x2:=l.out.cells;obtain⟨e0,f0⟩:=(i.out.up ((Below.refl _ w).alloc (n0! _) (.cells #[.int .i64 5,.string ra,.string rb,.slice ao 0 c] 106))).odd2;obtain⟨e1,f1⟩:=f.out.odd2;obtain⟨e2,f2⟩:=e.out.odd2;go_enter func190,ntmps190
  go_wp2_with fail
  (try simp only[Exit.inBlock,Exit.then])
  refine bodyPost_ret (results_none rfl _ _ _) rfl ?_;exact WRes.bad e.out k.out
 by_cases h1:n=1
 ·subst h1;clear hbad h0;have o:=h! (Blk.made w #[.int .i64 5,.string ra,.string rb,.slice ao 1 c] 106);have g:=h! (o.out.other (a:=⟨wb,2,none⟩) j.out (.bool true));have l:=h! (g.out.other (a:=⟨wb,2,none⟩) j.out (.bool true));have f:=h! ((i.out.up ((Below.refl _ w).alloc (n0! _) (.cells #[.int .i64 5,.string ra,.string rb,.slice ao 1 c] 106))).flag true);have e:=h! (f.out.flag true);have k:=h! (ov!.next (ov!.next (ov!.of ((Below.refl _ w).alloc (n0! _) (.cells #[.int .i64 5,.string ra,.string rb,.slice ao 1 c] 106)) m.out) (ov!.flag (b:=wb) p.out (.bool true))) (ov!.flag (b:=wb) p.out (.bool true)));have x0:=o.out.cells;have x1:=g.out.cells;have x2:=l.out.cells;obtain⟨e0,f0⟩:=(i.out.up ((Below.refl _ w).alloc (n0! _) (.cells #[.int .i64 5,.string ra,.string rb,.slice ao 1 c] 106))).odd2;obtain⟨e1,f1⟩:=f.out.odd2;obtain⟨e2,f2⟩:=e.out.odd2;go_enter func190,ntmps190
  go_wp2_with fail
  (try simp only[Exit.inBlock,Exit.then])
  refine bodyPost_ret (results_none rfl _ _ _) rfl ?_;exact WRes.bad e.out k.out
 have a2:(0:Int)<(n:Int):=by omega
 have a3:¬ ((n:Int)<2):=by omega
 by_cases hnrb:rb.size=0
 ·obtain rfl:=ag! hnrb;clear hnrb;by_cases hnra:ra.size=0
  ·obtain rfl:=ag! hnra;clear hnra;exact absurd ⟨rfl,rfl,by omega⟩ hbad
  ·have a1:=ao! hnra;clear hbad hnra h0 h1;have o:=h! (Blk.made w #[.int .i64 5,.string ra,.string ⟨#[]⟩,.slice ao n c] 106);have g:=h! (o.out.other (a:=⟨wb,2,none⟩) j.out (.bool false));have l:=h! (g.out.other (a:=⟨wb,2,none⟩) j.out (.bool true));have f:=h! ((i.out.up ((Below.refl _ w).alloc (n0! _) (.cells #[.int .i64 5,.string ra,.string ⟨#[]⟩,.slice ao n c] 106))).flag false);have e:=h! (f.out.flag true);have k:=h! (ov!.next (ov!.next (ov!.of ((Below.refl _ w).alloc (n0! _) (.cells #[.int .i64 5,.string ra,.string ⟨#[]⟩,.slice ao n c] 106)) m.out) (ov!.flag (b:=wb) p.out (.bool false))) (ov!.flag (b:=wb) p.out (.bool true)));have x0:=o.out.cells;have x1:=g.out.cells;have x2:=l.out.cells;obtain⟨e0,f0⟩:=(i.out.up ((Below.refl _ w).alloc (n0! _) (.cells #[.int .i64 5,.string ra,.string ⟨#[]⟩,.slice ao n c] 106))).odd2;obtain⟨e1,f1⟩:=f.out.odd2;obtain⟨e2,f2⟩:=e.out.odd2;go_enter func190,ntmps190
   go_wp2_with fail
   (try simp only[Exit.inBlock,Exit.then])
   refine bodyPost_ret (results_none rfl _ _ _) rfl ?_;exact WRes.bad e.out k.out
 ·have a0:=ao! hnrb;clear hbad hnrb h0 h1;have o:=h! (Blk.made w #[.int .i64 5,.string ra,.string rb,.slice ao n c] 106);have g:=h! (o.out.other (a:=⟨wb,2,none⟩) j.out (.bool false));have l:=h! (g.out.other (a:=⟨wb,2,none⟩) j.out (.bool true));have f:=h! ((i.out.up ((Below.refl _ w).alloc (n0! _) (.cells #[.int .i64 5,.string ra,.string rb,.slice ao n c] 106))).flag false);have e:=h! (f.out.flag true);have k:=h! (ov!.next (ov!.next (ov!.of ((Below.refl _ w).alloc (n0! _) (.cells #[.int .i64 5,.string ra,.string rb,.slice ao n c] 106)) m.out) (ov!.flag (b:=wb) p.out (.bool false))) (ov!.flag (b:=wb) p.out (.bool true)));have x0:=o.out.cells;have x1:=g.out.cells;have x2:=l.out.cells;obtain⟨e0,f0⟩:=(i.out.up ((Below.refl _ w).alloc (n0! _) (.cells #[.int .i64 5,.string ra,.string rb,.slice ao n c] 106))).odd2;obtain⟨e1,f1⟩:=f.out.odd2;obtain⟨e2,f2⟩:=e.out.odd2;go_enter func190,ntmps190
  go_wp2_with fail
  (try simp only[Exit.inBlock,Exit.then])
  refine bodyPost_ret (results_none rfl _ _ _) rfl ?_;exact WRes.bad e.out k.out
theorem kZ! {B wb:Nat}{text:ByteArray}{w:World}(ps:List RT)(d:Nat)(hd:d<=8)(pv:Value)(h:WrB w B wb text false)(hBw:B<=w.heap.size)(hat:RTAt (· < B) w (.mk 5 ⟨#[]⟩ ⟨#[]⟩ ps) pv)(hpos:0<text.size)(hlim:text.size+wtL ps<=1099511627776)(h2:2<=ps.length)
  (ih:∀p∈ps,∀(pv:Value) (d:Nat) (w:World) (text:ByteArray),RTAt (· < B) w p pv->text.size+p.wt<=1099511627776->0<text.size->d<=8->WrB w B wb text false->B<=w.heap.size->Calls prog 190 #[.pointer (some ⟨wb,0,none⟩),rV p pv,.int .i64 d] w (WRes B wb w text (p.textOk d) p.text p.wt)) :
  Calls prog 190 #[.pointer (some ⟨wb,0,none⟩),rV (.mk 5 ⟨#[]⟩ ⟨#[]⟩ ps) pv,.int .i64 d] w (WRes B wb w text (ps.all (goodP 5 d)) (joinT 5 ps) (wtL ps)):=by
 have q:=h! hat;obtain⟨A,c,rfl,-⟩:=hat.rows;have IH:=h! ih;have j:=h! hpos;have HD:=h! hd;have n:=h! hlim;unfold rV;dsimp only[RT.k,RT.a,RT.b,RT.ps]at q ⊢;have a2:(0:Int)<(ps.length:Int):=by omega
 have a3:¬ ((ps.length:Int)<2):=by omega
 clear hat ih hpos hlim h2 hd;have r:=h! h;have HB:=h! h.1;have v:=h! hBw;have s:=h! (show w.heap.size≠wb from by have:=h.lt;omega);clear h hBw;have HX:=h! (Blk.made w #[.int .i64 5,.string ⟨#[]⟩,.string ⟨#[]⟩,.slice A ps.length c] 106);have m:=h! (HX.out.other (a:=⟨wb,2,none⟩) s.out (.bool false));have z:=h! (m.out.other (a:=⟨wb,2,none⟩) s.out (.bool false));have l:=h! ((r.out.up ((Below.refl _ w).alloc (n0! _) (.cells #[.int .i64 5,.string ⟨#[]⟩,.string ⟨#[]⟩,.slice A ps.length c] 106))).flag false);have i:=h! (l.out.flag false);have g:=h! (ov!.next (ov!.next (ov!.of ((Below.refl _ w).alloc (n0! _) (.cells #[.int .i64 5,.string ⟨#[]⟩,.string ⟨#[]⟩,.slice A ps.length c] 106)) v.out) (ov!.flag (b:=wb) HB.out (.bool false))) (ov!.flag (b:=wb) HB.out (.bool false)));have x0:=HX.out.cells;have x1:=m.out.cells;have x2:=z.out.cells;obtain⟨e0,f0⟩:=(r.out.up ((Below.refl _ w).alloc (n0! _) (.cells #[.int .i64 5,.string ⟨#[]⟩,.string ⟨#[]⟩,.slice A ps.length c] 106))).odd2;obtain⟨e1,f1⟩:=l.out.odd2;obtain⟨e2,f2⟩:=i.out.odd2;go_enter func190,ntmps190
 go_wp2_with fail
 obtain⟨w3,y⟩:=e! (((w.alloc (.cells #[.int .i64 5,.string ⟨#[]⟩,.string ⟨#[]⟩,.slice A ps.length c] 106)).setCell ⟨wb,2,none⟩ (.bool false)).setCell ⟨wb,2,none⟩ (.bool false));rw[<-y]at z i g ⊢;clear y HX m l x0 x1 x2 e0 e1 e2 f0 f1 f2;have a1:=h! (n6! v.out g.out.size);have C:=h! (lb! ps d HD.out _ i.out a1.out (q.out.same (Same.below g.out.below)) j.out n.out IH.out);unfold rV at C;dsimp only[RT.k,RT.a,RT.b]at C;refine C.out.mono ?_;rintro e w4 ⟨rfl,t4,o,x,t,f,u⟩;have a0:Hid (WRes B wb w text (ps.all (goodP 5 d)) (joinT 5 ps) (wtL ps) (.returned (.tuple #[])) w4):=h! ⟨rfl,t4,o,x,t,f,ov!.next g.out u⟩;clear C o x t f u;go_wp2_with fail
 go_end0
 exact a0.out
theorem mw! {B wb:Nat}{text:ByteArray}{w:World}(ra rb:ByteArray)(n:Nat)(ao:Option Addr)(c:Nat)(d:Int)(h:WrB w B wb text false)(hBw:B<=w.heap.size)(hpos:0<text.size)(hlim:text.size+(10+ra.size+rb.size)<=1099511627776) :
  Calls prog 190 #[.pointer (some ⟨wb,0,none⟩),.agg #[.int .i64 1,.string ra,.string rb,.slice ao n c],.int .i64 d] w (WRes B wb w text (decide (ra.size=0)&&decide (rb.size=0)&&decide (n=0)) (⟨#[116,104,105,115]⟩) (10+ra.size+rb.size)):=by
 have l:=h! h;have D:=h! h.1;have p:=h! hBw;have m:=h! (show w.heap.size≠wb from by have:=h.lt;omega);clear h hBw;have q:=h! hpos;have r:=h! hlim;clear hpos hlim;by_cases hlp:0<n
 ·have a6:(0:Int)<(n:Int):=by omega
  have k:=h! (show(decide ((ra:ByteArray).size=0)&&decide ((rb:ByteArray).size=0)&&decide (n=0))=false from by
   have a2:n≠0:=by omega
   simp[a2])
  rw[k.out];clear hlp k;have A:=h! (Blk.made w #[.int .i64 1,.string ra,.string rb,.slice ao n c] 106);have i:=h! (A.out.other (a:=⟨wb,2,none⟩) m.out (.bool true));have o:=h! (i.out.other (a:=⟨wb,2,none⟩) m.out (.bool true));have g:=h! ((l.out.up ((Below.refl _ w).alloc (n0! _) (.cells #[.int .i64 1,.string ra,.string rb,.slice ao n c] 106))).flag true);have f:=h! (g.out.flag true);have j:=h! (ov!.next (ov!.next (ov!.of ((Below.refl _ w).alloc (n0! _) (.cells #[.int .i64 1,.string ra,.string rb,.slice ao n c] 106)) p.out) (ov!.flag (b:=wb) D.out (.bool true))) (ov!.flag (b:=wb) D.out (.bool true)));have G:=A.out.cells;have C:=i.out.cells;have E:=o.out.cells;obtain⟨z,H⟩:=(l.out.up ((Below.refl _ w).alloc (n0! _) (.cells #[.int .i64 1,.string ra,.string rb,.slice ao n c] 106))).odd2;obtain⟨F,x⟩:=g.out.odd2;obtain⟨v,y⟩:=f.out.odd2;go_enter func190,ntmps190
  go_wp2_with fail
  (try simp only[Exit.inBlock,Exit.then])
  refine bodyPost_ret (results_none rfl _ _ _) rfl ?_;exact WRes.bad f.out j.out
 ·obtain rfl:n=0:=by omega
  clear hlp;by_cases hnrb:rb.size=0
  ·obtain rfl:=ag! hnrb;clear hnrb;by_cases hnra:ra.size=0
   ·obtain rfl:=ag! hnra;clear hnra;rw[show(decide ((⟨#[]⟩:ByteArray).size=0)&&decide ((⟨#[]⟩:ByteArray).size=0)&&decide (0=0))=true from rfl];have A:=h! (Blk.made w #[.int .i64 1,.string ⟨#[]⟩,.string ⟨#[]⟩,.slice ao 0 c] 106);have i:=h! (A.out.other (a:=⟨wb,2,none⟩) m.out (.bool false));have o:=h! (i.out.other (a:=⟨wb,2,none⟩) m.out (.bool false));have g:=h! ((l.out.up ((Below.refl _ w).alloc (n0! _) (.cells #[.int .i64 1,.string ⟨#[]⟩,.string ⟨#[]⟩,.slice ao 0 c] 106))).flag false);have f:=h! (g.out.flag false);have j:=h! (ov!.next (ov!.next (ov!.of ((Below.refl _ w).alloc (n0! _) (.cells #[.int .i64 1,.string ⟨#[]⟩,.string ⟨#[]⟩,.slice ao 0 c] 106)) p.out) (ov!.flag (b:=wb) D.out (.bool false))) (ov!.flag (b:=wb) D.out (.bool false)));have G:=A.out.cells;have C:=i.out.cells;have E:=o.out.cells;obtain⟨z,H⟩:=(l.out.up ((Below.refl _ w).alloc (n0! _) (.cells #[.int .i64 1,.string ⟨#[]⟩,.string ⟨#[]⟩,.slice ao 0 c] 106))).odd2;obtain⟨F,x⟩:=g.out.odd2;obtain⟨v,y⟩:=f.out.odd2;go_enter func190,ntmps190
    go_wp2_with fail
    obtain⟨w3,u⟩:=e! (((w.alloc (.cells #[.int .i64 1,.string ⟨#[]⟩,.string ⟨#[]⟩,.slice ao 0 c] 106)).setCell ⟨wb,2,none⟩ (.bool false)).setCell ⟨wb,2,none⟩ (.bool false));rw[<-u]at o f j ⊢;clear u A i g G C E z F v H x y;have a3:=h! (n6! p.out j.out.size);have HS:=h! (aa! ⟨#[116,104,105,115]⟩ f.out (by have:=r.out;show _+4<=_;omega) (by have:=q.out;omega) a3.out);refine HS.out.mono ?_;rintro e w4 ⟨rfl,s,t⟩;have a5:=h! s;have a4:=h! (ov!.next j.out t);clear HS s t;go_wp2_with fail
    go_end0
    exact⟨rfl,_,a5.out,by rw[n3!];omega,(by rw[n3!];show _+4<=_;omega),fun _=>rfl,a4.out⟩
   ·have a1:=ao! hnra
    have k:=h! (show(decide ((ra:ByteArray).size=0)&&decide ((⟨#[]⟩:ByteArray).size=0)&&decide (0=0))=false from by
     simp[hnra])
    rw[k.out];clear hnra k;have A:=h! (Blk.made w #[.int .i64 1,.string ra,.string ⟨#[]⟩,.slice ao 0 c] 106);have i:=h! (A.out.other (a:=⟨wb,2,none⟩) m.out (.bool false));have o:=h! (i.out.other (a:=⟨wb,2,none⟩) m.out (.bool true));have g:=h! ((l.out.up ((Below.refl _ w).alloc (n0! _) (.cells #[.int .i64 1,.string ra,.string ⟨#[]⟩,.slice ao 0 c] 106))).flag false);have f:=h! (g.out.flag true);have j:=h! (ov!.next (ov!.next (ov!.of ((Below.refl _ w).alloc (n0! _) (.cells #[.int .i64 1,.string ra,.string ⟨#[]⟩,.slice ao 0 c] 106)) p.out) (ov!.flag (b:=wb) D.out (.bool false))) (ov!.flag (b:=wb) D.out (.bool true)));have G:=A.out.cells;have C:=i.out.cells;have E:=o.out.cells;obtain⟨z,H⟩:=(l.out.up ((Below.refl _ w).alloc (n0! _) (.cells #[.int .i64 1,.string ra,.string ⟨#[]⟩,.slice ao 0 c] 106))).odd2;obtain⟨F,x⟩:=g.out.odd2;obtain⟨v,y⟩:=f.out.odd2;go_enter func190,ntmps190
    go_wp2_with fail
    (try simp only[Exit.inBlock,Exit.then])
    refine bodyPost_ret (results_none rfl _ _ _) rfl ?_;exact WRes.bad f.out j.out
  ·have a0:=ao! hnrb
   have k:=h! (show(decide ((ra:ByteArray).size=0)&&decide ((rb:ByteArray).size=0)&&decide (0=0))=false from by
    simp[hnrb])
   rw[k.out];clear hnrb k;have A:=h! (Blk.made w #[.int .i64 1,.string ra,.string rb,.slice ao 0 c] 106);have i:=h! (A.out.other (a:=⟨wb,2,none⟩) m.out (.bool false));have o:=h! (i.out.other (a:=⟨wb,2,none⟩) m.out (.bool true));have g:=h! ((l.out.up ((Below.refl _ w).alloc (n0! _) (.cells #[.int .i64 1,.string ra,.string rb,.slice ao 0 c] 106))).flag false);have f:=h! (g.out.flag true);have j:=h! (ov!.next (ov!.next (ov!.of ((Below.refl _ w).alloc (n0! _) (.cells #[.int .i64 1,.string ra,.string rb,.slice ao 0 c] 106)) p.out) (ov!.flag (b:=wb) D.out (.bool false))) (ov!.flag (b:=wb) D.out (.bool true)));have G:=A.out.cells;have C:=i.out.cells;have E:=o.out.cells;obtain⟨z,H⟩:=(l.out.up ((Below.refl _ w).alloc (n0! _) (.cells #[.int .i64 1,.string ra,.string rb,.slice ao 0 c] 106))).odd2;obtain⟨F,x⟩:=g.out.odd2;obtain⟨v,y⟩:=f.out.odd2;go_enter func190,ntmps190
   go_wp2_with fail
   (try simp only[Exit.inBlock,Exit.then])
   refine bodyPost_ret (results_none rfl _ _ _) rfl ?_;exact WRes.bad f.out j.out
theorem mv! {B wb:Nat}{text:ByteArray}{w:World}(ra rb:ByteArray)(n:Nat)(ao:Option Addr)(c:Nat)(d:Int)(h:WrB w B wb text false)(hBw:B<=w.heap.size)(hpos:0<text.size)(hlim:text.size+(10+ra.size+rb.size)<=1099511627776) :
  Calls prog 190 #[.pointer (some ⟨wb,0,none⟩),.agg #[.int .i64 2,.string ra,.string rb,.slice ao n c],.int .i64 d] w (WRes B wb w text (ownB ra&&decide (rb.size=0)&&decide (n=0)) (ra) (10+ra.size+rb.size)):=by
 have m:=h! h;have G:=h! h.1;have p:=h! hBw;have o:=h! (show w.heap.size≠wb from by have:=h.lt;omega);clear h hBw;have q:=h! hpos;have k:=h! hlim;clear hpos hlim;by_cases hlp:0<n
 ·have a3:(0:Int)<(n:Int):=by omega
  have s:=h! (show(ownB ra&&decide ((rb:ByteArray).size=0)&&decide (n=0))=false from by
   have a2:n≠0:=by omega
   simp[a2])
  rw[s.out];clear hlp s;have E:=h! (Blk.made w #[.int .i64 2,.string ra,.string rb,.slice ao n c] 106);have i:=h! (E.out.other (a:=⟨wb,2,none⟩) o.out (.bool true));have l:=h! (i.out.other (a:=⟨wb,2,none⟩) o.out (.bool true));have g:=h! ((m.out.up ((Below.refl _ w).alloc (n0! _) (.cells #[.int .i64 2,.string ra,.string rb,.slice ao n c] 106))).flag true);have f:=h! (g.out.flag true);have j:=h! (ov!.next (ov!.next (ov!.of ((Below.refl _ w).alloc (n0! _) (.cells #[.int .i64 2,.string ra,.string rb,.slice ao n c] 106)) p.out) (ov!.flag (b:=wb) G.out (.bool true))) (ov!.flag (b:=wb) G.out (.bool true)));have J:=E.out.cells;have F:=i.out.cells;have H:=l.out.cells;obtain⟨D,L⟩:=(m.out.up ((Below.refl _ w).alloc (n0! _) (.cells #[.int .i64 2,.string ra,.string rb,.slice ao n c] 106))).odd2;obtain⟨I,A⟩:=g.out.odd2;obtain⟨z,C⟩:=f.out.odd2;go_enter func190,ntmps190
  go_wp2_with fail
  (try simp only[Exit.inBlock,Exit.then])
  refine bodyPost_ret (results_none rfl _ _ _) rfl ?_;exact WRes.bad f.out j.out
 ·obtain rfl:n=0:=by omega
  clear hlp;by_cases hnrb:rb.size=0
  ·obtain rfl:=ag! hnrb;clear hnrb;by_cases hnra:ra.size=0
   ·obtain rfl:=ag! hnra;clear hnra;rw[show(ownB ⟨#[]⟩&&decide ((⟨#[]⟩:ByteArray).size=0)&&decide (0=0))=ownB ⟨#[]⟩from by cases ownB ⟨#[]⟩ <;> rfl];have E:=h! (Blk.made w #[.int .i64 2,.string ⟨#[]⟩,.string ⟨#[]⟩,.slice ao 0 c] 106);have i:=h! (E.out.other (a:=⟨wb,2,none⟩) o.out (.bool false));have l:=h! (i.out.other (a:=⟨wb,2,none⟩) o.out (.bool false));have g:=h! ((m.out.up ((Below.refl _ w).alloc (n0! _) (.cells #[.int .i64 2,.string ⟨#[]⟩,.string ⟨#[]⟩,.slice ao 0 c] 106))).flag false);have f:=h! (g.out.flag false);have j:=h! (ov!.next (ov!.next (ov!.of ((Below.refl _ w).alloc (n0! _) (.cells #[.int .i64 2,.string ⟨#[]⟩,.string ⟨#[]⟩,.slice ao 0 c] 106)) p.out) (ov!.flag (b:=wb) G.out (.bool false))) (ov!.flag (b:=wb) G.out (.bool false)));have J:=E.out.cells;have F:=i.out.cells;have H:=l.out.cells;obtain⟨D,L⟩:=(m.out.up ((Below.refl _ w).alloc (n0! _) (.cells #[.int .i64 2,.string ⟨#[]⟩,.string ⟨#[]⟩,.slice ao 0 c] 106))).odd2;obtain⟨I,A⟩:=g.out.odd2;obtain⟨z,C⟩:=f.out.odd2;go_enter func190,ntmps190
    go_wp2_with fail
    obtain⟨w3,u⟩:=e! (((w.alloc (.cells #[.int .i64 2,.string ⟨#[]⟩,.string ⟨#[]⟩,.slice ao 0 c] 106)).setCell ⟨wb,2,none⟩ (.bool false)).setCell ⟨wb,2,none⟩ (.bool false));rw[<-u]at l f j ⊢;clear u E i g J F H D I z L A C;have v:=h! (n6! p.out j.out.size);have K:=h! (at! ⟨#[]⟩ f.out (by have:=k.out;omega) q.out (by have:=k.out;unfold maxLen;omega) v.out);refine K.out.mono ?_;rintro e w4 ⟨rfl,r,t⟩;have y:=h! r;have x:=h! (ov!.next j.out t);clear K r t;go_wp2_with fail
    go_end0
    exact⟨rfl,_,(by have:=y.out;rwa[Bool.false_or]at this),by rw[n3!];omega,(by rw[n3!];omega),fun _=>rfl,x.out⟩
   ·have a1:=ao! hnra;clear hnra;rw[show(ownB ra&&decide ((⟨#[]⟩:ByteArray).size=0)&&decide (0=0))=ownB ra from by cases ownB ra <;> rfl];have E:=h! (Blk.made w #[.int .i64 2,.string ra,.string ⟨#[]⟩,.slice ao 0 c] 106);have i:=h! (E.out.other (a:=⟨wb,2,none⟩) o.out (.bool false));have l:=h! (i.out.other (a:=⟨wb,2,none⟩) o.out (.bool false));have g:=h! ((m.out.up ((Below.refl _ w).alloc (n0! _) (.cells #[.int .i64 2,.string ra,.string ⟨#[]⟩,.slice ao 0 c] 106))).flag false);have f:=h! (g.out.flag false);have j:=h! (ov!.next (ov!.next (ov!.of ((Below.refl _ w).alloc (n0! _) (.cells #[.int .i64 2,.string ra,.string ⟨#[]⟩,.slice ao 0 c] 106)) p.out) (ov!.flag (b:=wb) G.out (.bool false))) (ov!.flag (b:=wb) G.out (.bool false)));have J:=E.out.cells;have F:=i.out.cells;have H:=l.out.cells;obtain⟨D,L⟩:=(m.out.up ((Below.refl _ w).alloc (n0! _) (.cells #[.int .i64 2,.string ra,.string ⟨#[]⟩,.slice ao 0 c] 106))).odd2;obtain⟨I,A⟩:=g.out.odd2;obtain⟨z,C⟩:=f.out.odd2;go_enter func190,ntmps190
    go_wp2_with fail
    obtain⟨w3,u⟩:=e! (((w.alloc (.cells #[.int .i64 2,.string ra,.string ⟨#[]⟩,.slice ao 0 c] 106)).setCell ⟨wb,2,none⟩ (.bool false)).setCell ⟨wb,2,none⟩ (.bool false));rw[<-u]at l f j ⊢;clear u E i g J F H D I z L A C;have v:=h! (n6! p.out j.out.size);have K:=h! (at! ra f.out (by have:=k.out;omega) q.out (by have:=k.out;unfold maxLen;omega) v.out);refine K.out.mono ?_;rintro e w4 ⟨rfl,r,t⟩;have y:=h! r;have x:=h! (ov!.next j.out t);clear K r t;go_wp2_with fail
    go_end0
    exact⟨rfl,_,(by have:=y.out;rwa[Bool.false_or]at this),by rw[n3!];omega,(by rw[n3!];omega),fun _=>rfl,x.out⟩
  ·have a0:=ao! hnrb
   have s:=h! (show(ownB ra&&decide ((rb:ByteArray).size=0)&&decide (0=0))=false from by
    simp[hnrb])
   rw[s.out];clear hnrb s;have E:=h! (Blk.made w #[.int .i64 2,.string ra,.string rb,.slice ao 0 c] 106);have i:=h! (E.out.other (a:=⟨wb,2,none⟩) o.out (.bool false));have l:=h! (i.out.other (a:=⟨wb,2,none⟩) o.out (.bool true));have g:=h! ((m.out.up ((Below.refl _ w).alloc (n0! _) (.cells #[.int .i64 2,.string ra,.string rb,.slice ao 0 c] 106))).flag false);have f:=h! (g.out.flag true);have j:=h! (ov!.next (ov!.next (ov!.of ((Below.refl _ w).alloc (n0! _) (.cells #[.int .i64 2,.string ra,.string rb,.slice ao 0 c] 106)) p.out) (ov!.flag (b:=wb) G.out (.bool false))) (ov!.flag (b:=wb) G.out (.bool true)));have J:=E.out.cells;have F:=i.out.cells;have H:=l.out.cells;obtain⟨D,L⟩:=(m.out.up ((Below.refl _ w).alloc (n0! _) (.cells #[.int .i64 2,.string ra,.string rb,.slice ao 0 c] 106))).odd2;obtain⟨I,A⟩:=g.out.odd2;obtain⟨z,C⟩:=f.out.odd2;go_enter func190,ntmps190
   go_wp2_with fail
   (try simp only[Exit.inBlock,Exit.then])
   refine bodyPost_ret (results_none rfl _ _ _) rfl ?_;exact WRes.bad f.out j.out
theorem mu! {B wb:Nat}{text:ByteArray}{w:World}(ra rb:ByteArray)(n:Nat)(ao:Option Addr)(c:Nat)(d:Int)(h:WrB w B wb text false)(hBw:B<=w.heap.size)(hpos:0<text.size)(hlim:text.size+(10+ra.size+rb.size)<=1099511627776) :
  Calls prog 190 #[.pointer (some ⟨wb,0,none⟩),.agg #[.int .i64 3,.string ra,.string rb,.slice ao n c],.int .i64 d] w (WRes B wb w text (ownB ra&&ownB rb&&decide (n=0)) ((ra++⟨#[45,62]⟩)++rb) (10+ra.size+rb.size)):=by
 have D:=h! h;have X:=h! h.1;have o:=h! hBw;have k:=h! (show w.heap.size≠wb from by have:=h.lt;omega);clear h hBw;have g:=h! hpos;have f:=h! hlim;clear hpos hlim;by_cases hlp:0<n
 ·have a2:(0:Int)<(n:Int):=by omega
  have M:=h! (show(ownB ra&&ownB rb&&decide (n=0))=false from by
   have a1:n≠0:=by omega
   simp[a1])
  rw[M.out];clear hlp M;have U:=h! (Blk.made w #[.int .i64 3,.string ra,.string rb,.slice ao n c] 106);have l:=h! (U.out.other (a:=⟨wb,2,none⟩) k.out (.bool true));have p:=h! (l.out.other (a:=⟨wb,2,none⟩) k.out (.bool true));have j:=h! ((D.out.up ((Below.refl _ w).alloc (n0! _) (.cells #[.int .i64 3,.string ra,.string rb,.slice ao n c] 106))).flag true);have i:=h! (j.out.flag true);have m:=h! (ov!.next (ov!.next (ov!.of ((Below.refl _ w).alloc (n0! _) (.cells #[.int .i64 3,.string ra,.string rb,.slice ao n c] 106)) o.out) (ov!.flag (b:=wb) X.out (.bool true))) (ov!.flag (b:=wb) X.out (.bool true)));have x0:=U.out.cells;have V:=l.out.cells;have Y:=p.out.cells;obtain⟨T,f0⟩:=(D.out.up ((Below.refl _ w).alloc (n0! _) (.cells #[.int .i64 3,.string ra,.string rb,.slice ao n c] 106))).odd2;obtain⟨Z,O⟩:=j.out.odd2;obtain⟨N,Q⟩:=i.out.odd2;go_enter func190,ntmps190
  go_wp2_with fail
  (try simp only[Exit.inBlock,Exit.then])
  refine bodyPost_ret (results_none rfl _ _ _) rfl ?_;exact WRes.bad i.out m.out
 ·obtain rfl:n=0:=by omega
  clear hlp;by_cases hnrb:rb.size=0
  ·obtain rfl:=ag! hnrb;clear hnrb;by_cases hnra:ra.size=0
   ·obtain rfl:=ag! hnra;clear hnra;rw[show(ownB ⟨#[]⟩&&ownB ⟨#[]⟩&&decide (0=0))=(ownB ⟨#[]⟩&&ownB ⟨#[]⟩)from by cases ownB ⟨#[]⟩ <;> cases ownB ⟨#[]⟩ <;> rfl];have U:=h! (Blk.made w #[.int .i64 3,.string ⟨#[]⟩,.string ⟨#[]⟩,.slice ao 0 c] 106);have l:=h! (U.out.other (a:=⟨wb,2,none⟩) k.out (.bool false));have p:=h! (l.out.other (a:=⟨wb,2,none⟩) k.out (.bool false));have j:=h! ((D.out.up ((Below.refl _ w).alloc (n0! _) (.cells #[.int .i64 3,.string ⟨#[]⟩,.string ⟨#[]⟩,.slice ao 0 c] 106))).flag false);have i:=h! (j.out.flag false);have m:=h! (ov!.next (ov!.next (ov!.of ((Below.refl _ w).alloc (n0! _) (.cells #[.int .i64 3,.string ⟨#[]⟩,.string ⟨#[]⟩,.slice ao 0 c] 106)) o.out) (ov!.flag (b:=wb) X.out (.bool false))) (ov!.flag (b:=wb) X.out (.bool false)));have x0:=U.out.cells;have V:=l.out.cells;have Y:=p.out.cells;obtain⟨T,f0⟩:=(D.out.up ((Below.refl _ w).alloc (n0! _) (.cells #[.int .i64 3,.string ⟨#[]⟩,.string ⟨#[]⟩,.slice ao 0 c] 106))).odd2;obtain⟨Z,O⟩:=j.out.odd2;obtain⟨N,Q⟩:=i.out.odd2;go_enter func190,ntmps190
    go_wp2_with fail
    obtain⟨w3,A⟩:=e! (((w.alloc (.cells #[.int .i64 3,.string ⟨#[]⟩,.string ⟨#[]⟩,.slice ao 0 c] 106)).setCell ⟨wb,2,none⟩ (.bool false)).setCell ⟨wb,2,none⟩ (.bool false));rw[<-A]at p i m ⊢;clear A U l j x0 V Y T Z N f0 O Q;have H:=h! (n6! o.out m.out.size);have HS:=h! (at! ⟨#[]⟩ i.out (by have:=f.out;omega) g.out (by have:=f.out;unfold maxLen;omega) H.out);refine HS.out.mono ?_;rintro e w4 ⟨rfl,q,s⟩;rw[Bool.false_or]at q;have v:=h! (ov!.next m.out s);have G:=h! (s.box p.out (by decide) k.out);have F:=h! (n6! o.out v.out.size);have C:=h! (aa! ⟨#[45,62]⟩ q (by have:=f.out;rw[n3!];show _+2<=_;omega) (by have:=g.out;rw[n3!];omega) F.out);clear HS q s;go_wp2_with fail
    refine C.out.mono ?_;rintro e w5 ⟨rfl,u,r⟩;have z:=h! (ov!.next v.out r);have E:=h! (r.box G.out (by decide) k.out);have R:=E.out.cells;have J:=h! (n6! o.out z.out.size);have t:=h! (at! ⟨#[]⟩ u (by have:=f.out;rw[n3!,n3!];show _+2+_<=_;omega) (by have:=g.out;rw[n3!,n3!];omega) (by have:=f.out;unfold maxLen;omega) J.out);clear C u r;go_wp2_with fail
    refine t.out.mono ?_;rintro e w6 ⟨rfl,y,x⟩;have K:=h! y;have I:=h! (ov!.next z.out x);clear t y x R;go_wp2_with fail
    go_end0
    exact⟨rfl,_,(by have:=K.out;rwa[<-Bool.not_and]at this),by simp only[n3!];omega,(by simp only[n3!];show _+_+2+_<=_;omega),fun _=>by simp only[y1!],I.out⟩
   ·have L:=ao! hnra;clear hnra;rw[show(ownB ra&&ownB ⟨#[]⟩&&decide (0=0))=(ownB ra&&ownB ⟨#[]⟩)from by cases ownB ra <;> cases ownB ⟨#[]⟩ <;> rfl];have U:=h! (Blk.made w #[.int .i64 3,.string ra,.string ⟨#[]⟩,.slice ao 0 c] 106);have l:=h! (U.out.other (a:=⟨wb,2,none⟩) k.out (.bool false));have p:=h! (l.out.other (a:=⟨wb,2,none⟩) k.out (.bool false));have j:=h! ((D.out.up ((Below.refl _ w).alloc (n0! _) (.cells #[.int .i64 3,.string ra,.string ⟨#[]⟩,.slice ao 0 c] 106))).flag false);have i:=h! (j.out.flag false);have m:=h! (ov!.next (ov!.next (ov!.of ((Below.refl _ w).alloc (n0! _) (.cells #[.int .i64 3,.string ra,.string ⟨#[]⟩,.slice ao 0 c] 106)) o.out) (ov!.flag (b:=wb) X.out (.bool false))) (ov!.flag (b:=wb) X.out (.bool false)));have x0:=U.out.cells;have V:=l.out.cells;have Y:=p.out.cells;obtain⟨T,f0⟩:=(D.out.up ((Below.refl _ w).alloc (n0! _) (.cells #[.int .i64 3,.string ra,.string ⟨#[]⟩,.slice ao 0 c] 106))).odd2;obtain⟨Z,O⟩:=j.out.odd2;obtain⟨N,Q⟩:=i.out.odd2;go_enter func190,ntmps190
    go_wp2_with fail
    obtain⟨w3,A⟩:=e! (((w.alloc (.cells #[.int .i64 3,.string ra,.string ⟨#[]⟩,.slice ao 0 c] 106)).setCell ⟨wb,2,none⟩ (.bool false)).setCell ⟨wb,2,none⟩ (.bool false));rw[<-A]at p i m ⊢;clear A U l j x0 V Y T Z N f0 O Q;have H:=h! (n6! o.out m.out.size);have HS:=h! (at! ra i.out (by have:=f.out;omega) g.out (by have:=f.out;unfold maxLen;omega) H.out);refine HS.out.mono ?_;rintro e w4 ⟨rfl,q,s⟩;rw[Bool.false_or]at q;have v:=h! (ov!.next m.out s);have G:=h! (s.box p.out (by decide) k.out);have F:=h! (n6! o.out v.out.size);have C:=h! (aa! ⟨#[45,62]⟩ q (by have:=f.out;rw[n3!];show _+2<=_;omega) (by have:=g.out;rw[n3!];omega) F.out);clear HS q s;go_wp2_with fail
    refine C.out.mono ?_;rintro e w5 ⟨rfl,u,r⟩;have z:=h! (ov!.next v.out r);have E:=h! (r.box G.out (by decide) k.out);have R:=E.out.cells;have J:=h! (n6! o.out z.out.size);have t:=h! (at! ⟨#[]⟩ u (by have:=f.out;rw[n3!,n3!];show _+2+_<=_;omega) (by have:=g.out;rw[n3!,n3!];omega) (by have:=f.out;unfold maxLen;omega) J.out);clear C u r;go_wp2_with fail
    refine t.out.mono ?_;rintro e w6 ⟨rfl,y,x⟩;have K:=h! y;have I:=h! (ov!.next z.out x);clear t y x R;go_wp2_with fail
    go_end0
    exact⟨rfl,_,(by have:=K.out;rwa[<-Bool.not_and]at this),by simp only[n3!];omega,(by simp only[n3!];show _+_+2+_<=_;omega),fun _=>by simp only[y1!],I.out⟩
  ·have a0:=ao! hnrb;clear hnrb;by_cases hnra:ra.size=0
   ·obtain rfl:=ag! hnra;clear hnra;rw[show(ownB ⟨#[]⟩&&ownB rb&&decide (0=0))=(ownB ⟨#[]⟩&&ownB rb)from by cases ownB ⟨#[]⟩ <;> cases ownB rb <;> rfl];have U:=h! (Blk.made w #[.int .i64 3,.string ⟨#[]⟩,.string rb,.slice ao 0 c] 106);have l:=h! (U.out.other (a:=⟨wb,2,none⟩) k.out (.bool false));have p:=h! (l.out.other (a:=⟨wb,2,none⟩) k.out (.bool false));have j:=h! ((D.out.up ((Below.refl _ w).alloc (n0! _) (.cells #[.int .i64 3,.string ⟨#[]⟩,.string rb,.slice ao 0 c] 106))).flag false);have i:=h! (j.out.flag false);have m:=h! (ov!.next (ov!.next (ov!.of ((Below.refl _ w).alloc (n0! _) (.cells #[.int .i64 3,.string ⟨#[]⟩,.string rb,.slice ao 0 c] 106)) o.out) (ov!.flag (b:=wb) X.out (.bool false))) (ov!.flag (b:=wb) X.out (.bool false)));have x0:=U.out.cells;have V:=l.out.cells;have Y:=p.out.cells;obtain⟨T,f0⟩:=(D.out.up ((Below.refl _ w).alloc (n0! _) (.cells #[.int .i64 3,.string ⟨#[]⟩,.string rb,.slice ao 0 c] 106))).odd2;obtain⟨Z,O⟩:=j.out.odd2;obtain⟨N,Q⟩:=i.out.odd2;go_enter func190,ntmps190
    go_wp2_with fail
    obtain⟨w3,A⟩:=e! (((w.alloc (.cells #[.int .i64 3,.string ⟨#[]⟩,.string rb,.slice ao 0 c] 106)).setCell ⟨wb,2,none⟩ (.bool false)).setCell ⟨wb,2,none⟩ (.bool false));rw[<-A]at p i m ⊢;clear A U l j x0 V Y T Z N f0 O Q;have H:=h! (n6! o.out m.out.size);have HS:=h! (at! ⟨#[]⟩ i.out (by have:=f.out;omega) g.out (by have:=f.out;unfold maxLen;omega) H.out);refine HS.out.mono ?_;rintro e w4 ⟨rfl,q,s⟩;rw[Bool.false_or]at q;have v:=h! (ov!.next m.out s);have G:=h! (s.box p.out (by decide) k.out);have F:=h! (n6! o.out v.out.size);have C:=h! (aa! ⟨#[45,62]⟩ q (by have:=f.out;rw[n3!];show _+2<=_;omega) (by have:=g.out;rw[n3!];omega) F.out);clear HS q s;go_wp2_with fail
    refine C.out.mono ?_;rintro e w5 ⟨rfl,u,r⟩;have z:=h! (ov!.next v.out r);have E:=h! (r.box G.out (by decide) k.out);have R:=E.out.cells;have J:=h! (n6! o.out z.out.size);have t:=h! (at! rb u (by have:=f.out;rw[n3!,n3!];show _+2+_<=_;omega) (by have:=g.out;rw[n3!,n3!];omega) (by have:=f.out;unfold maxLen;omega) J.out);clear C u r;go_wp2_with fail
    refine t.out.mono ?_;rintro e w6 ⟨rfl,y,x⟩;have K:=h! y;have I:=h! (ov!.next z.out x);clear t y x R;go_wp2_with fail
    go_end0
    exact⟨rfl,_,(by have:=K.out;rwa[<-Bool.not_and]at this),by simp only[n3!];omega,(by simp only[n3!];show _+_+2+_<=_;omega),fun _=>by simp only[y1!],I.out⟩
   ·have L:=ao! hnra;clear hnra;rw[show(ownB ra&&ownB rb&&decide (0=0))=(ownB ra&&ownB rb)from by cases ownB ra <;> cases ownB rb <;> rfl];have U:=h! (Blk.made w #[.int .i64 3,.string ra,.string rb,.slice ao 0 c] 106);have l:=h! (U.out.other (a:=⟨wb,2,none⟩) k.out (.bool false));have p:=h! (l.out.other (a:=⟨wb,2,none⟩) k.out (.bool false));have j:=h! ((D.out.up ((Below.refl _ w).alloc (n0! _) (.cells #[.int .i64 3,.string ra,.string rb,.slice ao 0 c] 106))).flag false);have i:=h! (j.out.flag false);have m:=h! (ov!.next (ov!.next (ov!.of ((Below.refl _ w).alloc (n0! _) (.cells #[.int .i64 3,.string ra,.string rb,.slice ao 0 c] 106)) o.out) (ov!.flag (b:=wb) X.out (.bool false))) (ov!.flag (b:=wb) X.out (.bool false)));have x0:=U.out.cells;have V:=l.out.cells;have Y:=p.out.cells;obtain⟨T,f0⟩:=(D.out.up ((Below.refl _ w).alloc (n0! _) (.cells #[.int .i64 3,.string ra,.string rb,.slice ao 0 c] 106))).odd2;obtain⟨Z,O⟩:=j.out.odd2;obtain⟨N,Q⟩:=i.out.odd2;go_enter func190,ntmps190
    go_wp2_with fail
    obtain⟨w3,A⟩:=e! (((w.alloc (.cells #[.int .i64 3,.string ra,.string rb,.slice ao 0 c] 106)).setCell ⟨wb,2,none⟩ (.bool false)).setCell ⟨wb,2,none⟩ (.bool false));rw[<-A]at p i m ⊢;clear A U l j x0 V Y T Z N f0 O Q;have H:=h! (n6! o.out m.out.size);have HS:=h! (at! ra i.out (by have:=f.out;omega) g.out (by have:=f.out;unfold maxLen;omega) H.out);refine HS.out.mono ?_;rintro e w4 ⟨rfl,q,s⟩;rw[Bool.false_or]at q;have v:=h! (ov!.next m.out s);have G:=h! (s.box p.out (by decide) k.out);have F:=h! (n6! o.out v.out.size);have C:=h! (aa! ⟨#[45,62]⟩ q (by have:=f.out;rw[n3!];show _+2<=_;omega) (by have:=g.out;rw[n3!];omega) F.out);clear HS q s;go_wp2_with fail
    refine C.out.mono ?_;rintro e w5 ⟨rfl,u,r⟩;have z:=h! (ov!.next v.out r);have E:=h! (r.box G.out (by decide) k.out);have R:=E.out.cells;have J:=h! (n6! o.out z.out.size);have t:=h! (at! rb u (by have:=f.out;rw[n3!,n3!];show _+2+_<=_;omega) (by have:=g.out;rw[n3!,n3!];omega) (by have:=f.out;unfold maxLen;omega) J.out);clear C u r;go_wp2_with fail
    refine t.out.mono ?_;rintro e w6 ⟨rfl,y,x⟩;have K:=h! y;have I:=h! (ov!.next z.out x);clear t y x R;go_wp2_with fail
    go_end0
    exact⟨rfl,_,(by have:=K.out;rwa[<-Bool.not_and]at this),by simp only[n3!];omega,(by simp only[n3!];show _+_+2+_<=_;omega),fun _=>by simp only[y1!],I.out⟩
theorem ka! {s:ByteArray}(h:isNm s=true):s.size<=32:=by
 unfold isNm at h;simp only[v0!,u1!]at h;exact h.2.2
theorem dQ! {s:ByteArray}(h:ownB s=true):s.size<=32:=by
 unfold ownB at h;simp only[v0!]at h;exact ka! h.1
def relOk (x:ByteArray × RT):Bool:=x.2.textOk 0&&ownB x.1&&decide (x.1≠⟨#[116,121,112,101]⟩)
def tyOk (t:TyS):Bool:=ownB t.name&&t.rels.all relOk
def prN (b:Bool):Int:=if b then 0 else 9
def bj! (ts:List TyS):Bool:=ts.all tyOk
theorem jl! {B wb:Nat}(r:RT):∀(pv:Value)(d:Nat)(w:World)(text:ByteArray),RTAt (· < B) w r pv->text.size+r.wt<=1099511627776->0<text.size->d<=8->WrB w B wb text false->B<=w.heap.size ->
  Calls prog 190 #[.pointer (some ⟨wb,0,none⟩),rV r pv,.int .i64 d] w (WRes B wb w text (r.textOk d) r.text r.wt):=by
 induction r using RT.ind with
 | h r ih =>
 intro pv d w text hat hlim hpos hd hw hbw;have l:=hat.rows;obtain⟨k,a,b,ps⟩:=r;dsimp only[RT.ps]at ih l;rw[RT.wt]at hlim;obtain⟨s,c,j,-⟩:=l;by_cases k1:k=1
 ·subst k1 j;refine(mw! a b ps.length s c d hw hbw hpos (by omega)).mono ?_;rintro e u ⟨rfl,t,i,g,m,f,y⟩;exact⟨rfl,t,by rw[RT.textOk];exact i,g,by rw[RT.wt];omega,fun h=>by rw[RT.textOk]at h;rw[RT.text];exact f h,y⟩
 by_cases k2:k=2
 ·subst k2 j;refine(mv! a b ps.length s c d hw hbw hpos (by omega)).mono ?_;rintro e u ⟨rfl,t,i,g,m,f,y⟩;exact⟨rfl,t,by rw[RT.textOk];exact i,g,by rw[RT.wt];omega,fun h=>by rw[RT.textOk]at h;rw[RT.text];exact f h,y⟩
 by_cases k3:k=3
 ·subst k3 j;refine(mu! a b ps.length s c d hw hbw hpos (by omega)).mono ?_;rintro e u ⟨rfl,t,i,g,m,f,y⟩;exact⟨rfl,t,by rw[RT.textOk];exact i,g,by rw[RT.wt];omega,fun h=>by rw[RT.textOk]at h;rw[RT.text];exact f h,y⟩
 by_cases k4:k=4
 ·subst k4;by_cases hg:a.size=0/\b.size=0/\2<=ps.length
  ·obtain⟨o,q,n⟩:=hg;obtain rfl:=ag! o;obtain rfl:=ag! q
   have v:(RT.mk 4 ⟨#[]⟩ ⟨#[]⟩ ps).textOk d=ps.all (goodP 4 d):=by
    rw[RT.textOk,be!,v2! n];rfl
   refine(la! ps d hd pv hw hbw hat hpos (by omega) n (fun p hp pv d w text h1 h2 x h4 h5 h6=>ih p hp pv d w text h1 h2 x h4 h5 h6)).mono ?_;rintro e u ⟨rfl,t,i,g,m,f,y⟩;exact⟨rfl,t,by rw[v];exact i,g,by rw[RT.wt];omega,fun h=>by rw[v]at h;rw[RT.text];exact f h,y⟩
  ·have v:(RT.mk 4 a b ps).textOk d=false:=by
    rw[RT.textOk];by_cases h1:a.size=0
    ·by_cases h2:b.size=0
     ·have x:¬ 2<=ps.length:=fun x=>hg ⟨h1,h2,x⟩;simp[h1,h2,x]
     ·simp[h2]
    ·simp[h1]
   rw[v];subst j;exact gz! a b ps.length s c d hw hbw hg
 by_cases k5:k=5
 ·subst k5;by_cases hg:a.size=0/\b.size=0/\2<=ps.length
  ·obtain⟨o,q,n⟩:=hg;obtain rfl:=ag! o;obtain rfl:=ag! q
   have v:(RT.mk 5 ⟨#[]⟩ ⟨#[]⟩ ps).textOk d=ps.all (goodP 5 d):=by
    rw[RT.textOk,be!,v2! n];rfl
   refine(kZ! ps d hd pv hw hbw hat hpos (by omega) n (fun p hp pv d w text h1 h2 x h4 h5 h6=>ih p hp pv d w text h1 h2 x h4 h5 h6)).mono ?_;rintro e u ⟨rfl,t,i,g,m,f,y⟩;exact⟨rfl,t,by rw[v];exact i,g,by rw[RT.wt];omega,fun h=>by rw[v]at h;rw[RT.text];exact f h,y⟩
  ·have v:(RT.mk 5 a b ps).textOk d=false:=by
    rw[RT.textOk];by_cases h1:a.size=0
    ·by_cases h2:b.size=0
     ·have x:¬ 2<=ps.length:=fun x=>hg ⟨h1,h2,x⟩;simp[h1,h2,x]
     ·simp[h2]
    ·simp[h1]
   rw[v];subst j;exact gy! a b ps.length s c d hw hbw hg
 have v:(RT.mk k a b ps).textOk d=false:=by rw[RT.textOk,if_neg k1,if_neg k2,if_neg k3,if_neg (by omega)]
 rw[v];subst j;refine(mt! k a b ps.length s c d hw hbw (by rw[n7!];exact k1) (by rw[n7!];exact k2) (by rw[n7!];exact k3) (by rw[n7!];exact k4) (by rw[n7!];exact k5)).mono ?_;rintro e u ⟨rfl,t,i,g,m,f,y⟩;exact⟨rfl,t,i,g,by rw[RT.wt];omega,(fun h=>by cases h),y⟩
theorem cN! {B wb:Nat}(r:RT)(pv:Value)(d:Nat)(w:World)(text:ByteArray)(o:Bool)(hat:RTAt (· < B) w r pv)(hlim:text.size+r.wt<=1099511627776)(hpos:0<text.size)(hd:d<=8)(hw:WrB w B wb text o)(hbw:B<=w.heap.size) :
  Calls prog 190 #[.pointer (some ⟨wb,0,none⟩),rV r pv,.int .i64 d] w fun e w'=>e= .returned (.tuple #[])/\∃text',WrB w' B wb text' (o||!r.textOk d)/\text.size<=text'.size/\text'.size<=text.size+r.wt/\(o=false->r.textOk d=true->text'=text++r.text)/\ov! B wb w w':=by
 cases o with
 | true =>
  obtain⟨ao,c,rfl,-⟩:=hat.rows;refine(dD! r.k r.a r.b r.ps.length ao c d hw hbw).mono ?_;rintro e w5 ⟨rfl,h1,h2⟩;exact⟨rfl,text,h1,n0! _,Nat.le_add_right _ _,(fun h=>by cases h),h2⟩
 | false =>
  refine(jl! r pv d w text hat hlim hpos hd hw hbw).mono ?_;rintro e w5 ⟨rfl,t,h1,h2,h3,h4,h5⟩;exact⟨rfl,t,by rw[Bool.false_or];exact h1,h2,h3,fun _=>h4,h5⟩
def relT (x:ByteArray × RT):ByteArray:=x.1++⟨#[32,61,32]⟩++x.2.text++⟨#[10]⟩
def relsT:List (ByteArray × RT)->ByteArray | []=>ByteArray.empty | x::l=>relT x++relsT l
def tyT (t:TyS):ByteArray:=⟨#[116,121,112,101,32]⟩++t.name++⟨#[10]⟩++relsT t.rels
def schT:List TyS->ByteArray | []=>ByteArray.empty | t::ts=>tyT t++schT ts
theorem bN! (a b:List (ByteArray × RT)):relsT (a++b)=relsT a++relsT b:=by
 induction a with
 | nil=>rw[y2!,relsT,ByteArray.empty_append]
 | cons x a ih=>rw[x2!,relsT,relsT,ih,y1!]
theorem gP! (a b:List TyS):schT (a++b)=schT a++schT b:=by
 induction a with
 | nil=>rw[y2!,schT,ByteArray.empty_append]
 | cons x a ih=>rw[x2!,schT,schT,ih,y1!]
def relB:List (ByteArray × RT)->Nat | []=>0 | x::l=>(10+x.1.size+x.2.wt)+relB l
def schB:List TyS->Nat | []=>0 | t::ts=>(10+t.name.size+relB t.rels)+schB ts
theorem dv! (a b:List (ByteArray × RT)):relB (a++b)=relB a+relB b:=by
 induction a with
 | nil=>simp[relB]
 | cons x a ih=>rw[x2!,relB,relB,ih];omega
theorem du! (a b:List TyS):schB (a++b)=schB a+schB b:=by
 induction a with
 | nil=>simp[schB]
 | cons x a ih=>rw[x2!,schB,schB,ih];omega
theorem fX! {l:List (ByteArray × RT)}{i:Nat}(hi:i<l.length):relB (l.take (i+1))=relB (l.take i)+(10+l[i].1.size+l[i].2.wt):=by
 rw[n2! hi,dv!];simp[relB]
theorem jD! {l:List TyS}{i:Nat}(hi:i<l.length):schB (l.take (i+1))=schB (l.take i)+(10+l[i].name.size+relB l[i].rels):=by
 rw[n2! hi,du!];simp[schB]
theorem mV! (l:List (ByteArray × RT))(i:Nat):relB (l.take i)<=relB l:=by
 conv=>rhs;rw[<-x6! i l]
 rw[dv!];omega
theorem mR! (l:List TyS)(i:Nat):schB (l.take i)<=schB l:=by
 conv=>rhs;rw[<-x6! i l]
 rw[du!];omega
theorem eu! (ts:List TyS)(tv:Value)(w:World)(h:ou! (· < w.heap.size) w ts tv)(hsz:schB ts<=549755813888):Calls prog 129 #[.agg #[tv]] w fun e w'=>e= .returned (.tuple #[.string (if bj! ts then schT ts else⟨#[]⟩),.int .i64 (prN (bj! ts))])/\Below w.heap.size w w':=by
 obtain⟨ao,c,rfl,bh,bj,R⟩:=h.rows;have HC:=h! R;have aN:=h! hsz;generalize hg:bj! ts=g;have HG:Hid (g=ts.all tyOk):=h! hg.symm;have ak:=Blk.made w #[.slice ao ts.length c] 26;have aQ:Below w.heap.size w (w.alloc (.cells #[.slice ao ts.length c] 26)):=(Below.refl _ _).alloc (n0! _) _;have aw:=Blk.made (w.alloc (.cells #[.slice ao ts.length c] 26)) #[.pointer none,.slice none 0 0,.bool false] 298;have aa:Below w.heap.size w ((w.alloc (.cells #[.slice ao ts.length c] 26)).alloc (.cells #[.pointer none,.slice none 0 0,.bool false] 298)):=aQ.alloc (by simp) _;have a1:=h! aa;have s:=(ak.alloc (.cells #[.pointer none,.slice none 0 0,.bool false] 298)).cells;rw[World.size_alloc]at aw;have b2:=ak.cells;have ag:=h! aw;clear h R hsz hg ak aQ aa aw;go_enter func129,ntmps129
 go_wp2_with fail
 obtain⟨w2,aM⟩:=e! ((w.alloc (.cells #[.slice ao ts.length c] 26)).alloc (.cells #[.pointer none,.slice none 0 0,.bool false] 298));rw[<-aM]at a1 ag ⊢;obtain⟨wb,aJ⟩:=e! (w.heap.size+1);rw[<-aJ]at ag ⊢;have aF:Hid (WrB w2 w.heap.size wb ⟨#[]⟩ false):=h! ⟨by omega,_,_,.inl rfl,ag.out,Own.nil _ _ _ _,fun _=>rfl⟩;have y:=h! a1.out.size;have bi:Hid (wb<w2.heap.size):=h! ag.out.lt;clear b2 s aM aJ;go_loopw [14] (fun ii wr=>∃(i:Nat) (t:ByteArray) (o:Bool),i<=ts.length/\ii= .int .i64 i/\o=!((ts.take i).all tyOk)/\WrB wr w.heap.size wb t o/\t.size<=schB (ts.take i)/\(o=false->t=schT (ts.take i))/\ov! w.heap.size wb w2 wr) (fun ii _=>ts.length-(intOf ii).toNat)
 case atStart=>exact⟨0,⟨#[]⟩,false,by omega,rfl,rfl,aF.out,v1! _,fun _=>rfl,Kept.refl _ _⟩
 case round =>
  obtain⟨i,t,o,hi,rfl,ho,hw,aG,hj,hk⟩:=hrel;have HO:=h! ho;have HW:=h! hw;have HJ:=h! hj;have aC:=h! aG;clear aF ho hw hj aG;by_cases hlt:i<ts.length
  ·have r:Below w.heap.size w wr:=a1.out.trans hk.below;have an:=jD! hlt;have aq:=mR! ts (i+1);have bg:=aN.out;have b9:=h! an;rw[an]at aq;have b6:=h! aq;have a8:=h! hlt;obtain⟨bb,V,be,am,hb,c0,c1,F⟩:=HC.out i hlt;cases am;have d0:=(r.cell (p:=⟨bb,V+i*2,none⟩) hb).trans c0;have d1:=(r.cell (p:=⟨bb,V+i*2+1,none⟩) hb).trans c1;generalize hti:ts[i]=ty at *;have aR:=h! hti;obtain⟨tn,d⟩:=ty;dsimp only at *;obtain⟨az,ar,rfl,bc,aX,H⟩:=F.rows;have aY:=h! H;have ap:=h! (Blk.made wr #[.string tn,.slice az d.length ar] 176);have aB:=h! (show wr.heap.size≠wb from by have:=HW.out.lt;omega);have aA:=h! (ov!.next hk (ov!.of (b:=wb) ((Below.refl _ wr).alloc (n0! _) (.cells #[.string tn,.slice az d.length ar] 176)) (n6! y.out hk.size)));have aD:=h! (HW.out.up ((Below.refl _ wr).alloc (n0! _) (.cells #[.string tn,.slice az d.length ar] 176)));have bf:=ap.out.cells;have E:=h! (show t.size+(10+tn.size+relB d)<=549755813888 from by have:=aC.out;omega);have aO:=h! (aa! ⟨#[116,121,112,101,32]⟩ aD.out (by have:=E.out;show _+5<=_;omega) (by show 0<_+5;omega) (n6! y.out aA.out.size));clear c0 c1 F H r an aq bg hti hk;go_wp2_with fail
   refine aO.out.mono ?_;rintro e wa ⟨rfl,m,l⟩;have A:=h! (ov!.next aA.out l);have av:=h! (l.box ap.out (by decide) aB.out);have ai:=av.out.cells;have L:=h! (at! tn m (by have:=E.out;rw[n3!];show _+5+_<=_;omega) (by rw[n3!];show 0<_+5;omega) (by have:=E.out;unfold maxLen;omega) (n6! y.out A.out.size));clear aO m l bf d0 d1 aA aD ap;go_wp2_with fail
   refine L.out.mono ?_;rintro e al ⟨rfl,m,l⟩;have u:=h! (ov!.next A.out l);have aS:=h! (l.box av.out (by decide) aB.out);have v:=h! (aa! ⟨#[10]⟩ m (by have:=E.out;simp only[n3!];show _+5+_+1<=_;omega) (by rw[n3!];show 0<_+1;omega) (n6! y.out u.out.size));clear L m l ai A av;go_wp2_with fail
   refine v.out.mono ?_;rintro e wc ⟨rfl,m,l⟩;have C:=h! (ov!.next u.out l);have aZ:=h! (l.box aS.out (by decide) aB.out);have b0:=aZ.out.cells;obtain⟨t1,af⟩:=e! (t++⟨#[116,121,112,101,32]⟩++tn++⟨#[10]⟩);obtain⟨g1,ah⟩:∃g1,(o||!ownB tn)=!g1:=⟨!(o||!ownB tn),by simp⟩;rw[<-af,ah]at m
   have s:t1.size=t.size+6+tn.size:=by
    rw[af];simp only[n3!];rw[show(⟨#[116,121,112,101,32]⟩:ByteArray).size=5 from rfl,show(⟨#[10]⟩:ByteArray).size=1 from rfl];omega
   have aI:=h! s;have aW:=h! af;have aK:=h! ah;have aP:=h! m;clear v m l u aS s af ah;go_wp2_with fail
   clear b0;go_loopw [33] (fun jj wr=>∃(j:Nat) (t2:ByteArray) (o:Bool),j<=d.length/\jj= .int .i64 j/\o=!(g1&&(d.take j).all relOk)/\WrB wr w.heap.size wb t2 o/\0<t2.size/\t2.size<=schB (ts.take i)+(10+tn.size)+relB (d.take j)/\(o=false->t2=t1++relsT (d.take j))/\ov! w.heap.size wb w2 wr) (fun jj _=>d.length-(intOf jj).toNat)
   case atStart=>exact⟨0,t1,_,by omega,rfl,by simp,aP.out,by have:=aI.out;omega,by have:=aI.out;have:=aC.out;omega,fun _=>by rw[List.take_zero];exact(ByteArray.append_empty).symm,C.out⟩
   case round =>
    obtain⟨j,t2,o2,hj,rfl,ho,hw,s,D,aL,hk⟩:=hrel;have ay:=h! hw;have N:=h! ho;have a7:=h! aL;have n:=h! (And.intro s D);clear aP C ho hw aL s D;by_cases hlt:j<d.length
    ·have r:Below w.heap.size w wr:=a1.out.trans hk.below;have ax:=h! (fX! hlt)
     have f:=h! (show schB (ts.take i)+(10+tn.size)+relB (d.take j)+(10+d[j].1.size+d[j].2.wt)<=549755813888 from by
      have h1:=b6.out;have h2:=aN.out;have h3:=mV! d (j+1);rw[fX! hlt]at h3;omega)
     have B:=h! hlt;obtain⟨bb,V,be,am,hb,c0,c1,c2,c3,c4,F⟩:=aY.out j hlt;cases am;have d0:=(r.cell (p:=⟨bb,V+j*5,none⟩) hb).trans c0;have d1:=(r.cell (p:=⟨bb,V+j*5+1,none⟩) hb).trans c1;have d2:=(r.cell (p:=⟨bb,V+j*5+2,none⟩) hb).trans c2;have d3:=(r.cell (p:=⟨bb,V+j*5+3,none⟩) hb).trans c3;have d4:=(r.cell (p:=⟨bb,V+j*5+4,none⟩) hb).trans c4;obtain⟨aj,au,rfl,-⟩:=F.rows;have a4:=h! F;generalize hxe:d[j]=x at *;have a5:=h! hxe;obtain⟨xn,p⟩:=x;dsimp only at *;have O:=h! (Blk.made wr #[.string xn,.int .i64 p.k,.string p.a,.string p.b,.slice aj p.ps.length au] 181);have M:=h! (show wr.heap.size≠wb from by have:=ay.out.lt;omega);have a6:=h! (ov!.next hk (ov!.of (b:=wb) ((Below.refl _ wr).alloc (n0! _) (.cells #[.string xn,.int .i64 p.k,.string p.a,.string p.b,.slice aj p.ps.length au] 181)) (n6! y.out hk.size)));have G:=h! (ay.out.up ((Below.refl _ wr).alloc (n0! _) (.cells #[.string xn,.int .i64 p.k,.string p.a,.string p.b,.slice aj p.ps.length au] 181)));clear c0 c1 c2 c3 c4 F r hxe hk hlt;cases o2 with
     | true =>
      have I:=h! (G.out.flag true);have K:=h! (ov!.next a6.out (ov!.flag (b:=wb) G.out.1 (.bool true)));have J:=h! (O.out.other (a:=⟨wb,2,none⟩) M.out (.bool true));have N:=h! (show(!(g1&&(d.take j).all relOk))=true from N.out.symm);have HN:=h! (at! xn I.out (by have:=n.out;have:=f.out;omega) (by have:=n.out;omega) (by have:=n.out;have:=f.out;unfold maxLen;omega) (n6! y.out K.out.size));obtain⟨ee,fe⟩:=G.out.odd2;obtain⟨es,fs⟩:=I.out.odd2;have xs:=J.out.cells;have xj:=O.out.cells;go_wp2_with fail
      refine HN.out.mono ?_;rintro e wa ⟨rfl,m,l⟩;have A:=h! (ov!.next K.out l);have U:=h! (l.box J.out (by decide) M.out);have L:=h! (aa! ⟨#[32,61,32]⟩ m (by have:=n.out;have:=f.out;rw[n3!];show _+3<=_;omega) (by rw[n3!];show 0<_+3;omega) (n6! y.out A.out.size));clear HN m l ee fe es fs xs xj J I K O G a6;go_wp2_with fail
      refine L.out.mono ?_;rintro e al ⟨rfl,m,l⟩;have u:=h! (ov!.next A.out l);have Q:=h! (l.box U.out (by decide) M.out);have xb:=Q.out.cells;have v:=h! (cN! p _ 0 _ _ _ (a4.out.same (Same.below (a1.out.trans u.out.below))) (by have:=n.out;have:=f.out;simp only[n3!];show _+3+_<=_;omega) (by simp only[n3!];show 0<_+3;omega) (by omega) m (n6! y.out u.out.size));unfold rV at v;rw[show((0:Nat):Int)=0 from rfl]at v;clear L m l U A;go_wp2_with fail
      refine v.out.mono ?_;rintro e wc ⟨rfl,t4,X,s,D,z,T⟩;have C:=h! (ov!.next u.out T);simp only[n3!]at s D;rw[show(⟨#[32,61,32]⟩:ByteArray).size=3 from rfl]at s D;have Y:=h! (aa! ⟨#[10]⟩ X (by have:=n.out;have:=f.out;show _+1<=_;omega) (by show 0<_+1;omega) (n6! y.out C.out.size))
      have a0:=h! (show 0<(t4++⟨#[10]⟩).size/\(t4++⟨#[10]⟩).size<=schB (ts.take i)+(10+tn.size)+relB (d.take (j+1))from by
       have:=n.out;have:=ax.out;rw[n3!,show(⟨#[10]⟩:ByteArray).size=1 from rfl];omega)
      have ad:=h! (show(true||!ownB xn||!p.textOk 0)=!(g1&&(d.take (j+1)).all relOk)from by
       have he:d[j]'B.out=(xn,p):=a5.out;rw[n2! B.out,List.all_append,he];show _=!(g1&&((d.take j).all relOk&&(relOk (xn,p)&&true)))
       have:=N.out;revert this
       cases g1 <;> cases (d.take j).all relOk <;> simp)
      have ac:=h! (show(true||!ownB xn||!p.textOk 0)=false->t4++⟨#[10]⟩=t1++relsT (d.take (j+1))from fun h=>by
       simp only[Bool.or_eq_false_iff,Bool.not_eq_false']at h;have he:d[j]'B.out=(xn,p):=a5.out;rw[z (by simp[h.1.1,h.1.2]) h.2,a7.out (by have:=h.1.1;cases this),n2! B.out,bN!,he];show _=t1++(relsT (d.take j)++(relT (xn,p)++ByteArray.empty))
       rw[ByteArray.append_empty];unfold relT;dsimp only;simp only[y1!])
      have a3:=B.out;clear v X s D z T xb Q u;go_wp2_with fail
      refine Y.out.mono ?_;rintro e wd ⟨rfl,Z,a2⟩;have ae:=h! Z;have ab:=h! (ov!.next C.out a2);clear Y Z a2 C d0 d1 d2 d3 d4;go_wp2_with fail
      go_roundw
      case rel=>exact⟨j+1,t4++⟨#[10]⟩,_,by omega,by go_num,ad.out,ae.out,a0.out.1,a0.out.2,ac.out,ab.out⟩
      case measure=>simp[intOf];omega
     | false =>
      have N:=h! (show(g1&&(d.take j).all relOk)=true from by have:=N.out;simpa using this);by_cases hty:xn=⟨#[116,121,112,101]⟩
      ·have I:=h! (G.out.flag true);have K:=h! (ov!.next a6.out (ov!.flag (b:=wb) G.out.1 (.bool true)));have J:=h! (O.out.other (a:=⟨wb,2,none⟩) M.out (.bool true));subst hty;have HN:=h! (at! ⟨#[116,121,112,101]⟩ I.out (by have:=n.out;have:=f.out;omega) (by have:=n.out;omega) (by have:=n.out;have:=f.out;unfold maxLen;omega) (n6! y.out K.out.size));obtain⟨ee,fe⟩:=G.out.odd2;obtain⟨es,fs⟩:=I.out.odd2;have xs:=J.out.cells;have xj:=O.out.cells;go_wp2_with fail
       refine HN.out.mono ?_;rintro e wa ⟨rfl,m,l⟩;have A:=h! (ov!.next K.out l);have U:=h! (l.box J.out (by decide) M.out);have L:=h! (aa! ⟨#[32,61,32]⟩ m (by have:=n.out;have:=f.out;rw[n3!];show _+3<=_;omega) (by rw[n3!];show 0<_+3;omega) (n6! y.out A.out.size));clear HN m l ee fe es fs xs xj J I K O G a6;go_wp2_with fail
       refine L.out.mono ?_;rintro e al ⟨rfl,m,l⟩;have u:=h! (ov!.next A.out l);have Q:=h! (l.box U.out (by decide) M.out);have xb:=Q.out.cells;have v:=h! (cN! p _ 0 _ _ _ (a4.out.same (Same.below (a1.out.trans u.out.below))) (by have:=n.out;have:=f.out;simp only[n3!];show _+3+_<=_;omega) (by simp only[n3!];show 0<_+3;omega) (by omega) m (n6! y.out u.out.size));unfold rV at v;rw[show((0:Nat):Int)=0 from rfl]at v;clear L m l U A;go_wp2_with fail
       refine v.out.mono ?_;rintro e wc ⟨rfl,t4,X,s,D,z,T⟩;have C:=h! (ov!.next u.out T);simp only[n3!]at s D;rw[show(⟨#[32,61,32]⟩:ByteArray).size=3 from rfl]at s D;have Y:=h! (aa! ⟨#[10]⟩ X (by have:=n.out;have:=f.out;show _+1<=_;omega) (by show 0<_+1;omega) (n6! y.out C.out.size))
       have a0:=h! (show 0<(t4++⟨#[10]⟩).size/\(t4++⟨#[10]⟩).size<=schB (ts.take i)+(10+tn.size)+relB (d.take (j+1))from by
        have:=n.out;have:=ax.out;rw[n3!,show(⟨#[10]⟩:ByteArray).size=1 from rfl];omega)
       have ad:=h! (show(true||!ownB ⟨#[116,121,112,101]⟩||!p.textOk 0)=!(g1&&(d.take (j+1)).all relOk)from by
        have he:d[j]'B.out=(⟨#[116,121,112,101]⟩,p):=a5.out;rw[n2! B.out,List.all_append,he];show _=!(g1&&((d.take j).all relOk&&(relOk (⟨#[116,121,112,101]⟩,p)&&true)))
        rw[show relOk (⟨#[116,121,112,101]⟩,p)=false from by unfold relOk;simp];simp)
       have ac:=h! (show(true||!ownB ⟨#[116,121,112,101]⟩||!p.textOk 0)=false->t4++⟨#[10]⟩=t1++relsT (d.take (j+1))from fun h=>by
        simp only[Bool.or_eq_false_iff,Bool.not_eq_false']at h;have he:d[j]'B.out=(⟨#[116,121,112,101]⟩,p):=a5.out;rw[z (by simp[h.1.1,h.1.2]) h.2,a7.out (by have:=h.1.1;cases this),n2! B.out,bN!,he];show _=t1++(relsT (d.take j)++(relT (⟨#[116,121,112,101]⟩,p)++ByteArray.empty))
        rw[ByteArray.append_empty];unfold relT;dsimp only;simp only[y1!])
       have a3:=B.out;clear v X s D z T xb Q u;go_wp2_with fail
       refine Y.out.mono ?_;rintro e wd ⟨rfl,Z,a2⟩;have ae:=h! Z;have ab:=h! (ov!.next C.out a2);clear Y Z a2 C d0 d1 d2 d3 d4;go_wp2_with fail
       go_roundw
       case rel=>exact⟨j+1,t4++⟨#[10]⟩,_,by omega,by go_num,ad.out,ae.out,a0.out.1,a0.out.2,ac.out,ab.out⟩
       case measure=>simp[intOf];omega
      ·have b8:=h! hty;have b1:=aV! hty;rw[<-u5!,show(⟨#[116,121,112,101]⟩:ByteArray).data.toList=[116,121,112,101]from rfl]at b1;have I:=h! (G.out.flag false);have K:=h! (ov!.next a6.out (ov!.flag (b:=wb) G.out.1 (.bool false)));have J:=h! (O.out.other (a:=⟨wb,2,none⟩) M.out (.bool false));clear hty;have HN:=h! (at! xn I.out (by have:=n.out;have:=f.out;omega) (by have:=n.out;omega) (by have:=n.out;have:=f.out;unfold maxLen;omega) (n6! y.out K.out.size));obtain⟨ee,fe⟩:=G.out.odd2;obtain⟨es,fs⟩:=I.out.odd2;have xs:=J.out.cells;have xj:=O.out.cells;go_wp2_with fail
       refine HN.out.mono ?_;rintro e wa ⟨rfl,m,l⟩;have A:=h! (ov!.next K.out l);have U:=h! (l.box J.out (by decide) M.out);have L:=h! (aa! ⟨#[32,61,32]⟩ m (by have:=n.out;have:=f.out;rw[n3!];show _+3<=_;omega) (by rw[n3!];show 0<_+3;omega) (n6! y.out A.out.size));clear HN m l ee fe es fs xs xj J I K O G a6;go_wp2_with fail
       refine L.out.mono ?_;rintro e al ⟨rfl,m,l⟩;have u:=h! (ov!.next A.out l);have Q:=h! (l.box U.out (by decide) M.out);have xb:=Q.out.cells;have v:=h! (cN! p _ 0 _ _ _ (a4.out.same (Same.below (a1.out.trans u.out.below))) (by have:=n.out;have:=f.out;simp only[n3!];show _+3+_<=_;omega) (by simp only[n3!];show 0<_+3;omega) (by omega) m (n6! y.out u.out.size));unfold rV at v;rw[show((0:Nat):Int)=0 from rfl]at v;clear L m l U A;go_wp2_with fail
       refine v.out.mono ?_;rintro e wc ⟨rfl,t4,X,s,D,z,T⟩;have C:=h! (ov!.next u.out T);simp only[n3!]at s D;rw[show(⟨#[32,61,32]⟩:ByteArray).size=3 from rfl]at s D;have Y:=h! (aa! ⟨#[10]⟩ X (by have:=n.out;have:=f.out;show _+1<=_;omega) (by show 0<_+1;omega) (n6! y.out C.out.size))
       have a0:=h! (show 0<(t4++⟨#[10]⟩).size/\(t4++⟨#[10]⟩).size<=schB (ts.take i)+(10+tn.size)+relB (d.take (j+1))from by
        have:=n.out;have:=ax.out;rw[n3!,show(⟨#[10]⟩:ByteArray).size=1 from rfl];omega)
       have ad:=h! (show(false||!ownB xn||!p.textOk 0)=!(g1&&(d.take (j+1)).all relOk)from by
        have he:d[j]'B.out=(xn,p):=a5.out;rw[n2! B.out,List.all_append,he];show _=!(g1&&((d.take j).all relOk&&(relOk (xn,p)&&true)))
        rw[<-Bool.and_assoc,N.out];unfold relOk;dsimp only;rw[v2! b8.out];cases p.textOk 0 <;> cases ownB xn <;> rfl)
       have ac:=h! (show(false||!ownB xn||!p.textOk 0)=false->t4++⟨#[10]⟩=t1++relsT (d.take (j+1))from fun h=>by
        simp only[Bool.or_eq_false_iff,Bool.not_eq_false']at h;have he:d[j]'B.out=(xn,p):=a5.out;rw[z (by simp[h.1.2]) h.2,a7.out (by first | rfl | trivial),n2! B.out,bN!,he];show _=t1++(relsT (d.take j)++(relT (xn,p)++ByteArray.empty))
        rw[ByteArray.append_empty];unfold relT;dsimp only;simp only[y1!])
       have a3:=B.out;clear v X s D z T xb Q u;go_wp2_with fail
       refine Y.out.mono ?_;rintro e wd ⟨rfl,Z,a2⟩;have ae:=h! Z;have ab:=h! (ov!.next C.out a2);clear Y Z a2 C d0 d1 d2 d3 d4;go_wp2_with fail
       go_roundw
       case rel=>exact⟨j+1,t4++⟨#[10]⟩,_,by omega,by go_num,ad.out,ae.out,a0.out.1,a0.out.2,ac.out,ab.out⟩
       case measure=>simp[intOf];omega
    ·obtain rfl:j=d.length:=by omega
     rw[u2!]at N a7 n
     have b4:=h! (show o2=!((ts.take (i+1)).all tyOk)from by
      have he:ts[i]'a8.out=⟨tn,d⟩:=aR.out;rw[N.out,n2! a8.out,List.all_append,he];show _=!((ts.take i).all tyOk&&(tyOk ⟨tn,d⟩&&true))
      have h1:=aK.out;rw[HO.out]at h1;rw[show tyOk ⟨tn,d⟩=(ownB tn&&d.all relOk)from rfl];revert h1
      generalize (ts.take i).all tyOk=q;cases q <;> cases ownB tn <;> cases d.all relOk <;> cases g1 <;> simp)
     have aU:=h! (show o2=false->t2=schT (ts.take (i+1))from fun h=>by
      have he:ts[i]'a8.out=⟨tn,d⟩:=aR.out
      rw[a7.out h,aW.out,HJ.out (by
       have h1:=N.out;have h2:=aK.out;rw[h]at h1;revert h1 h2
       cases o <;> cases g1 <;> simp),n2! a8.out,gP!,he]
      show _=schT (ts.take i)++(tyT ⟨tn,d⟩++ByteArray.empty)
      rw[ByteArray.append_empty];unfold tyT;dsimp only;simp only[y1!])
     have b5:=h! (show t2.size<=schB (ts.take (i+1))from by have:=n.out;have:=b9.out;omega);have b3:=h! hk;have a3:=a8.out;clear hk;go_wp2_with fail
     go_roundw
     case rel=>exact⟨i+1,t2,o2,by omega,by go_num,b4.out,ay.out,b5.out,aU.out,b3.out⟩
     case measure=>simp[intOf];omega
  ·obtain rfl:i=ts.length:=by omega
   rw[u2!]at HO HJ aC;have aT:Hid (o=!g):=h! (by rw[HO.out,HG.out]);have aH:=h! (a1.out.trans hk.below);obtain⟨ee,fe⟩:=HW.out.odd2;have a9:=h! (gx! HW.out);clear hk HO;cases o with
   | true =>
    have aV:g=false:=by have:=aT.out;revert this;cases g <;> simp
    subst aV;go_wp2_with fail
    go_ret2
    exact⟨rfl,aH.out⟩
   | false =>
    have bd:g=true:=by have:=aT.out;revert this;cases g <;> simp
    subst bd;have b7:=h! (HJ.out rfl);go_wp2_with fail
    refine a9.out.mono ?_;rintro e w9 ⟨rfl,aE⟩;have ba:=h! (aH.out.trans aE);clear a9 aE ee fe;go_wp2_with fail
    go_ret2
    exact⟨by rw[b7.out];rfl,ba.out⟩
def TL (b:ByteArray):List UInt8:=b.data.toList
theorem bu! (a b:ByteArray):TL (a++b)=TL a++TL b:=by unfold TL;rw[ByteArray.data_append,Array.toList_append]
theorem jk! {a b:ByteArray}(h:TL a=TL b):a=b:=ByteArray.ext (by rw[<-Array.toList_inj];exact h)
theorem hG! {c:UInt8}:∀ {l1 l2 r1 r2:List UInt8},l1++c::r1=l2++c::r2->c∉l1->c∉l2->l1=l2/\r1=r2
 | [],[],_,_,h,_,_=>⟨rfl,by injection h⟩
 | [],b::l2,_,_,h,_,h2=>by
  injection h with h _
  exact absurd (by rw[h];exact y4!) h2
 | a::l1,[],_,_,h,h1,_=>by
  injection h with h _
  exact absurd (by rw[h];exact y4!) h1
 | a::l1,b::l2,_,_,h,h1,h2=>by
  injection h with ha h
  obtain⟨e1,e2⟩:=hG! h (fun h=>h1 (u9! _ h)) (fun h=>h2 (u9! _ h));exact⟨by rw[ha,e1],e2⟩
def Ends (p:UInt8->Bool)(x:List UInt8):Prop:=x=[]\/∃c r,x=c::r/\p c=false
theorem kC! {p:UInt8->Bool}:∀ {l1 l2 x y:List UInt8},l1++x=l2++y->(∀c∈l1,p c=true)->(∀c∈l2,p c=true)->Ends p x->Ends p y->l1=l2/\x=y
 | [],[],_,_,h,_,_,_,_=>⟨rfl,h⟩
 | [],b::l2,_,_,h,_,h2,hx,_=>by
  rcases hx with rfl | ⟨c,r,rfl,hc⟩
  ·cases h
  ·injection h with h _
   have:=h2 b y4!;rw[<-h,hc]at this;cases this
 | a::l1,[],_,_,h,h1,_,_,hy=>by
  rcases hy with rfl | ⟨c,r,rfl,hc⟩
  ·cases h
  ·injection h with h _
   have:=h1 a y4!;rw[h,hc]at this;cases this
 | a::l1,b::l2,_,_,h,h1,h2,hx,hy=>by
  injection h with ha h
  obtain⟨e1,e2⟩:=kC! h (fun c hc=>h1 c (u9! _ hc)) (fun c hc=>h2 c (u9! _ hc)) hx hy;exact⟨by rw[ha,e1],e2⟩
def lc (c:UInt8):Bool:=okc c||c == 62
theorem bI! {a:ByteArray}(h:ownB a=true):(∀c∈TL a,okc c=true)/\TL a≠[]/\a≠⟨#[116,104,105,115]⟩:=by
 unfold ownB isNm at h;simp only[v0!,u8!,u1!]at h;refine⟨h.1.1,fun e=>?_,h.2⟩
 have:a.size=0:=by
  have:=congrArg List.length e;simpa [TL] using this
 omega
theorem nS!:okc 62=false:=by kernel_rfl
def cC! (r:RT):Prop:=r.k=1\/r.k=2\/r.k=3
theorem ec! {r:RT}{d:Nat}(h:r.textOk d=true)(hl:cC! r):r= .mk 1 ⟨#[]⟩ ⟨#[]⟩ []\/(∃a,ownB a=true/\r= .mk 2 a ⟨#[]⟩ [])\/∃a b,ownB a=true/\ownB b=true/\r= .mk 3 a b []:=by
 obtain⟨k,a,b,ps⟩:=r;rcases hl with hk | hk | hk <;> (dsimp only[RT.k]at hk;subst hk)
 ·rw[RT.textOk,if_pos rfl]at h;simp only[v0!,u1!]at h;obtain⟨⟨c,e⟩,f⟩:=h;exact .inl (by rw[ag! c,ag! e,x0! f])
 ·rw[RT.textOk,if_neg (by decide),if_pos rfl]at h;simp only[v0!,u1!]at h;obtain⟨⟨c,e⟩,f⟩:=h;exact .inr (.inl ⟨a,c,by rw[ag! e,x0! f]⟩)
 ·rw[RT.textOk,if_neg (by decide),if_neg (by decide),if_pos rfl]at h;simp only[v0!,u1!]at h;obtain⟨⟨c,e⟩,f⟩:=h;exact .inr (.inr ⟨a,b,c,e,by rw[x0! f]⟩)
theorem text1:TL (RT.mk 1 ⟨#[]⟩ ⟨#[]⟩ []).text=[116,104,105,115]:=by rw[RT.text];rfl
theorem text2 (a:ByteArray):TL (RT.mk 2 a ⟨#[]⟩ []).text=TL a:=by rw[RT.text];rfl
theorem text3 (a b:ByteArray):TL (RT.mk 3 a b []).text=(TL a++[45])++62::TL b:=by
 rw[RT.text,if_neg (by decide),if_neg (by decide),if_pos rfl,bu!,bu!];simp[TL]
theorem cd! {r:RT}{d:Nat}(h:r.textOk d=true)(hl:cC! r):(∀c∈TL r.text,lc c=true)/\TL r.text≠[]:=by
 rcases ec! h hl with rfl | ⟨a,ha,rfl⟩|⟨a,b,ha,hb,rfl⟩
 ·rw[text1];exact⟨by decide,by simp⟩
 ·rw[text2];obtain⟨h1,h2,_⟩:=bI! ha;exact⟨fun c hc=>by unfold lc;rw[h1 c hc];rfl,h2⟩
 ·rw[text3];obtain⟨h1,h2,_⟩:=bI! ha;obtain⟨h3,h4,_⟩:=bI! hb;refine⟨fun c hc=>?_,by simp⟩;unfold lc;simp only[u3!,v7!,List.not_mem_nil,or_false]at hc;rcases hc with(hc | rfl) | rfl | hc
  ·rw[h1 c hc];rfl
  ·kernel_rfl
  ·kernel_rfl
  ·rw[h3 c hc];rfl
theorem no_gt {a:ByteArray}(h:ownB a=true):(62:UInt8)∉TL a:=fun hm=>by
 have:=(bI! h).1 _ hm;rw[nS!]at this;cases this
theorem lQ! {r q:RT}{d e:Nat}(h:r.textOk d=true)(hl:cC! r)(h':q.textOk e=true)(hl':cC! q)(ht:TL r.text=TL q.text):r=q:=by
 rcases ec! h hl with rfl | ⟨a,ha,rfl⟩|⟨a,b,ha,hb,rfl⟩ <;> rcases ec! h' hl' with rfl | ⟨a',ha',rfl⟩|⟨a',b',ha',hb',rfl⟩
 ·rfl
 ·rw[text1,text2]at ht;exact absurd (jk! (a:=a') (b:=⟨#[116,104,105,115]⟩) ht.symm) (bI! ha').2.2
 ·rw[text1,text3]at ht;have:(62:UInt8)∈([116,104,105,115]:List UInt8):=by rw[ht];simp
  exact absurd this (by decide)
 ·rw[text1,text2]at ht;exact absurd (jk! (a:=a) (b:=⟨#[116,104,105,115]⟩) ht) (bI! ha).2.2
 ·rw[text2,text2]at ht;rw[jk! ht]
 ·rw[text2,text3]at ht;exact absurd (by rw[ht];simp) (no_gt ha)
 ·rw[text1,text3]at ht;have:(62:UInt8)∈([116,104,105,115]:List UInt8):=by rw[<-ht];simp
  exact absurd this (by decide)
 ·rw[text2,text3]at ht;exact absurd (by rw[<-ht];simp) (no_gt ha')
 ·rw[text3,text3]at ht;obtain⟨e1,e2⟩:=hG! ht (by simp[no_gt ha]) (by simp[no_gt ha']);have e3:TL a=TL a':=by simpa using e1
  rw[jk! e3,jk! e2]
def S0 (x:List UInt8):Prop:=x=[]\/∃r,x=41::r\/x=10::r
def S1 (x:List UInt8):Prop:=S0 x\/∃r,x=32::124::r
def S2 (x:List UInt8):Prop:=S1 x\/∃r,x=32::38::r
theorem S2.ends {x:List UInt8}(h:S2 x):Ends lc x:=by
 rcases h with((rfl | ⟨r,rfl | rfl⟩) | ⟨r,rfl⟩) | ⟨r,rfl⟩
 ·exact .inl rfl
 ·exact .inr ⟨_,_,rfl,by kernel_rfl⟩
 ·exact .inr ⟨_,_,rfl,by kernel_rfl⟩
 ·exact .inr ⟨_,_,rfl,by kernel_rfl⟩
 ·exact .inr ⟨_,_,rfl,by kernel_rfl⟩
theorem S0.no {x r:List UInt8}(h:S0 x):x≠32::r:=by
 rcases h with rfl | ⟨r',rfl | rfl⟩
 ·intro e;cases e
 ·intro e;injection e with e _;exact absurd e (by decide)
 ·intro e;injection e with e _;exact absurd e (by decide)
theorem S1.no {x r:List UInt8}(h:S1 x):x≠32::38::r:=by
 rcases h with h | ⟨r',rfl⟩
 ·exact h.no
 ·intro e;injection e with _ e
  injection e with e _
  exact absurd e (by decide)
theorem eV! {r:RT}{d:Nat}{k:Int}(h:r.textOk d=true)(hk:r.k=k)(h45:k=4\/k=5):∃ps,r= .mk k ⟨#[]⟩ ⟨#[]⟩ ps/\2<=ps.length/\∀p∈ps,p.k≠k/\∃d,p.textOk d=true:=by
 obtain⟨k',a,b,ps⟩:=r;dsimp only[RT.k]at hk;subst hk;rw[RT.textOk,if_neg (by omega),if_neg (by omega),if_neg (by omega),if_pos h45]at h;simp only[v0!,u1!]at h;obtain⟨⟨⟨h1,h2⟩,h3⟩,h4⟩:=h;refine⟨ps,by rw[ag! h1,ag! h2],h3,fun p hp=>?_⟩;rw[be!,u8!]at h4;have:=h4 p hp;unfold goodP at this;simp only[v0!,u1!]at this;exact⟨this.1.1,_,this.2⟩
def restL (k:Int):List RT->List UInt8 | [] => [] | p::ps=>TL (sepT k)++(TL (txtP k p)++restL k ps)
theorem hO! (k:Int):∀l:List RT,TL (restT k l)=restL k l
 | []=>by rw[restT];rfl
 | p::ps=>by
  rw[restT,bu!,bu!,hO! k ps];rfl
theorem bh! {k:Int}(h45:k=4\/k=5)(p:RT)(ps:List RT):TL (RT.mk k ⟨#[]⟩ ⟨#[]⟩ (p::ps)).text=TL (txtP k p)++restL k ps:=by
 rw[RT.text,if_neg (by omega),if_neg (by omega),if_neg (by omega),fc!,bu!,hO!];rfl
theorem fr! {k:Int}(h45:k=4\/k=5) {S F:List UInt8->Prop}(hF:∀x,S x->F x)(hF2:∀x,F (TL (sepT k)++x))(hno:∀x y,S x->x≠TL (sepT k)++y) :
  ∀(ps qs:List RT) (x y:List UInt8),(∀p∈ps,∀q∈qs,∀x y,F x->F y->TL (txtP k p)++x=TL (txtP k q)++y->p=q/\x=y)->S x->S y->restL k ps++x=restL k qs++y->ps=qs/\x=y
 | [],[],_,_,_,_,_,h=>⟨rfl,h⟩
 | [],q::qs,x,y,_,hx,_,h=>by
  rw[restL,restL,y2!,y6!]at h;exact absurd h (hno _ _ hx)
 | p::ps,[],x,y,_,_,hy,h=>by
  rw[restL,restL,y2!,y6!]at h;exact absurd h.symm (hno _ _ hy)
 | p::ps,q::qs,x,y,ih,hx,hy,h=>by
  rw[restL,restL]at h;simp only[y6!]at h;have h:=List.append_cancel_left h
  have fol:∀(l:List RT) (z:List UInt8),S z->F (restL k l++z):=fun l z hz=>by
   cases l with
   | nil=>exact hF z hz
   | cons a l=>rw[restL,y6!];exact hF2 _
  obtain⟨rfl,h2⟩:=ih p y4! q y4! _ _ (fol ps x hx) (fol qs y hy) h;obtain⟨rfl,rfl⟩:=fr! h45 hF hF2 hno ps qs x y (fun p hp q hq=>ih p (u9! _ hp) q (u9! _ hq)) hx hy h2;exact⟨rfl,rfl⟩
theorem txtP4 (p:RT):txtP 4 p=p.text:=by unfold txtP;rw[if_neg (by omega)]
theorem txtP5 {p:RT}(h:p.k≠4):txtP 5 p=p.text:=by unfold txtP;rw[if_neg (by omega)]
theorem ju! {p:RT}(h:p.k=4):TL (txtP 5 p)=40::(TL p.text++[41]):=by
 unfold txtP;rw[if_pos ⟨rfl,h⟩,bu!,bu!];rfl
theorem kinds {r:RT}{d:Nat}(h:r.textOk d=true):cC! r\/r.k=4\/r.k=5:=by
 obtain⟨k,a,b,ps⟩:=r;unfold cC!;dsimp only[RT.k];rw[RT.textOk]at h;by_cases h1:k=1
 ·omega
 ·by_cases h2:k=2
  ·omega
  ·by_cases h3:k=3
   ·omega
   ·by_cases h4:k=4\/k=5
    ·omega
    ·rw[if_neg h1,if_neg h2,if_neg h3,if_neg h4]at h;cases h
def Item (r:RT):Prop:=∀(q:RT)(d e:Nat)(x y:List UInt8),r.textOk d=true->q.textOk e=true->r.k≠4->q.k≠4->S1 x->S1 y->TL r.text++x=TL q.text++y->r=q/\x=y
def Tops (r:RT):Prop:=∀(q:RT)(d e:Nat)(x y:List UInt8),r.textOk d=true->q.textOk e=true->S0 x->S0 y->TL r.text++x=TL q.text++y->r=q/\x=y
def Atom (r:RT):Prop:=∀(q:RT)(d e:Nat)(x y:List UInt8),r.textOk d=true->q.textOk e=true->r.k≠5->q.k≠5->S2 x->S2 y->TL (txtP 5 r)++x=TL (txtP 5 q)++y->r=q/\x=y
theorem nq!:lc 40=false:=by kernel_rfl
theorem iA! {r q:RT}{d e:Nat}{x y:List UInt8}(h:r.textOk d=true)(h':q.textOk e=true)(hl:cC! r)(hl':cC! q)(hx:S2 x)(hy:S2 y)(ht:TL r.text++x=TL q.text++y):r=q/\x=y:=by
 obtain⟨e1,e2⟩:=kC! ht (cd! h hl).1 (cd! h' hl').1 hx.ends hy.ends;exact⟨lQ! h hl h' hl' e1,e2⟩
theorem lZ! {q:RT}{e:Nat}(h:q.textOk e=true)(hk:q.k=5):∃p p2 ps,q= .mk 5 ⟨#[]⟩ ⟨#[]⟩ (p::p2::ps)/\(∀z∈p::p2::ps,z.k≠5/\∃d,z.textOk d=true):=by
 obtain⟨ps,rfl,h2,h3⟩:=eV! h hk (.inr rfl);match ps,h2 with
 | p::p2::ps,_=>exact⟨p,p2,ps,rfl,h3⟩
theorem ma! {q:RT}{e:Nat}(h:q.textOk e=true)(hk:q.k=4):∃p p2 ps,q= .mk 4 ⟨#[]⟩ ⟨#[]⟩ (p::p2::ps)/\(∀z∈p::p2::ps,z.k≠4/\∃d,z.textOk d=true):=by
 obtain⟨ps,rfl,h2,h3⟩:=eV! h hk (.inl rfl);match ps,h2 with
 | p::p2::ps,_=>exact⟨p,p2,ps,rfl,h3⟩
theorem jY! {r:RT}(h:cC! r):r.k≠4/\r.k≠5:=by unfold cC! at h;omega
theorem sep5:TL (sepT 5)=[32,38,32]:=rfl
theorem go! {r q:RT}{d e:Nat}{x y:List UInt8}(h:r.textOk d=true)(h':q.textOk e=true)(hl:cC! r)(hk:q.k=5)(hx:S1 x)(_hy:S1 y)(ht:TL r.text++x=TL q.text++y):False:=by
 obtain⟨p,p2,ps,rfl,hp⟩:=lZ! h' hk;rw[bh! (.inr rfl),restL,sep5]at ht;obtain⟨a0,dp,a⟩:=hp p y4!;rcases kinds a with hpl | hp4 | hp5
 ·rw[txtP5 (jY! hpl).1,y6!]at ht;obtain⟨_,e2⟩:=iA! h a hl hpl (.inl hx) (.inr ⟨_,rfl⟩) ht;exact hx.no e2
 ·rw[ju! hp4]at ht;obtain⟨h1,h2⟩:=cd! h hl;cases ht':TL r.text with
  | nil=>exact h2 ht'
  | cons c l =>
   rw[ht']at ht h1;injection ht with hc _
   have:=h1 c y4!;rw[hc,nq!]at this;cases this
 ·exact a0 hp5
theorem jh!:∀(n:Nat)(r:RT),r.sz<=n->Item r/\Tops r/\Atom r:=by
 intro n;induction n with
 | zero=>intro r hr;have:=r.sz_eq;omega
 | succ n ih =>
  intro r hr;have f:∀p∈r.ps,Item p/\Tops p/\Atom p:=fun p v=>ih p (by have:=RT.sz_lt v;omega)
  have g:Item r:=by
   intro q d e x y h h' hk hk' hx hy D;rcases kinds h with hl | h4 | h5
   ·rcases kinds h' with hl' | h4' | h5'
    ·exact iA! h h' hl hl' (.inl hx) (.inl hy) D
    ·exact absurd h4' hk'
    ·exact(go! h h' hl h5' hx hy D).elim
   ·exact absurd h4 hk
   ·rcases kinds h' with hl' | h4' | h5'
    ·exact(go! h' h hl' h5 hy hx D.symm).elim
    ·exact absurd h4' hk'
    ·obtain⟨p,z,ps,rfl,v⟩:=lZ! h h5;obtain⟨q,E,C,rfl,B⟩:=lZ! h' h5';rw[bh! (.inr rfl),bh! (.inr rfl),y6!,y6!]at D
     have A:∀a∈p::z::ps,∀b∈q::E::C,∀x y,S2 x->S2 y->TL (txtP 5 a)++x=TL (txtP 5 b)++y->a=b/\x=y:=fun a ha b hb x y hx hy D=>by
      obtain⟨d1,o1⟩:=(v a ha).2;obtain⟨d2,o2⟩:=(B b hb).2;exact(f a ha).2.2 b d1 d2 x y o1 o2 (v a ha).1 (B b hb).1 hx hy D
     obtain⟨rfl,j⟩:=A p y4! q y4! _ _ (.inr ⟨_,rfl⟩) (.inr ⟨_,rfl⟩) D;obtain⟨G,u⟩:=fr! (.inr rfl) (S:=S1) (F:=S2) (fun x h => .inl h) (fun x => .inr ⟨_,rfl⟩) (fun x y h=>h.no) (z::ps) (E::C) x y (fun a ha b hb=>A a (u9! _ ha) b (u9! _ hb)) hx hy j;exact⟨by rw[G],u⟩
  have i:Tops r:=by
   intro q d e x y h h' hx hy D
   have t:∀ {a b:RT} {da db:Nat} {x y:List UInt8},a.textOk da=true->b.textOk db=true->(∀p∈a.ps,Item p)\/Item b->a.k=4->b.k≠4->S0 x->S0 y->TL a.text++x=TL b.text++y->False:=by
    intro a b da db x y ha hb hI ha4 hb4 hx hy D;obtain⟨p,z,ps,rfl,v⟩:=ma! ha ha4;rw[bh! (.inl rfl),txtP4,y6!]at D;obtain⟨m,dp,o⟩:=v p y4!;rcases hI with hI | hI
    ·obtain⟨_,u⟩:=hI p y4! b dp db _ _ o hb m hb4 (.inr ⟨_,rfl⟩) (.inl hy) D;exact hy.no u.symm
    ·obtain⟨_,u⟩:=hI p db dp _ _ hb o hb4 m (.inl hy) (.inr ⟨_,rfl⟩) D.symm;exact hy.no u
   by_cases h4:r.k=4
   ·by_cases h4':q.k=4
    ·obtain⟨p,z,ps,rfl,v⟩:=ma! h h4;obtain⟨q,E,C,rfl,B⟩:=ma! h' h4';rw[bh! (.inl rfl),bh! (.inl rfl),y6!,y6!]at D
     have A:∀a∈p::z::ps,∀b∈q::E::C,∀x y,S1 x->S1 y->TL (txtP 4 a)++x=TL (txtP 4 b)++y->a=b/\x=y:=fun a ha b hb x y hx hy D=>by
      obtain⟨d1,o1⟩:=(v a ha).2;obtain⟨d2,o2⟩:=(B b hb).2;rw[txtP4,txtP4]at D;exact(f a ha).1 b d1 d2 x y o1 o2 (v a ha).1 (B b hb).1 hx hy D
     obtain⟨rfl,j⟩:=A p y4! q y4! _ _ (.inr ⟨_,rfl⟩) (.inr ⟨_,rfl⟩) D;obtain⟨G,u⟩:=fr! (.inl rfl) (S:=S0) (F:=S1) (fun x h => .inl h) (fun x => .inr ⟨_,rfl⟩) (fun x y h=>h.no) (z::ps) (E::C) x y (fun a ha b hb=>A a (u9! _ ha) b (u9! _ hb)) hx hy j;exact⟨by rw[G],u⟩
    ·exact(t h h' (.inl fun p v=>(f p v).1) h4 h4' hx hy D).elim
   ·by_cases h4':q.k=4
    ·exact(t h' h (.inr g) h4' h4 hy hx D.symm).elim
    ·exact g q d e x y h h' h4 h4' (.inl hx) (.inl hy) D
  refine⟨g,i,?_⟩;intro q d e x y h h' hk hk' hx hy D
  have s:∀ {a b:RT} {da:Nat} {x y:List UInt8},a.textOk da=true->cC! a->b.k=4->TL (txtP 5 a)++x=TL (txtP 5 b)++y->False:=by
   intro a b da x y ha hl hb4 D;rw[txtP5 (jY! hl).1,ju! hb4]at D;obtain⟨h1,h2⟩:=cd! ha hl;cases ht':TL a.text with
   | nil=>exact h2 ht'
   | cons c l =>
    rw[ht']at D h1;injection D with hc _
    have:=h1 c y4!;rw[hc,nq!]at this;cases this
  rcases kinds h with hl | h4 | h5
  ·rcases kinds h' with hl' | h4' | h5'
   ·rw[txtP5 (jY! hl).1,txtP5 (jY! hl').1]at D;exact iA! h h' hl hl' hx hy D
   ·exact(s h hl h4' D).elim
   ·exact absurd h5' hk'
  ·rcases kinds h' with hl' | h4' | h5'
   ·exact(s h' hl' h4 D.symm).elim
   ·rw[ju! h4,ju! h4']at D;injection D with _ D
    have D:(TL r.text++[41])++x=(TL q.text++[41])++y:=D;rw[y6!,y6!]at D;obtain⟨G,u⟩:=i q d e _ _ h h' (.inr ⟨_,.inl rfl⟩) (.inr ⟨_,.inl rfl⟩) D;exact⟨G,by simpa using u⟩
   ·exact absurd h5' hk'
  ·exact absurd h5 hk
theorem lm! {r q:RT}{d e:Nat}(h:r.textOk d=true)(h':q.textOk e=true)(ht:r.text=q.text):r=q :=
 ((jh! r.sz r (n0! _)).2.1 q d e [] [] h h' (.inl rfl) (.inl rfl) (by rw[ht])).1
end Go.Proofs.YtlhaghoajpglaaaGreat
