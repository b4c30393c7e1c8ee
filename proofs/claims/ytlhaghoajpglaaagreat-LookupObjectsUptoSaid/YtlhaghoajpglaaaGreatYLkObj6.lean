/- Lemmas for the claim, no condition. -/
import Derived.Test.YtlhaghoajpglaaaGreatYLkObj5
import Derived.Test.YtlhaghoajpglaaaGreatYLkObj5
set_option maxRecDepth 100000
set_option maxHeartbeats 8000000
namespace Go.Proofs.YtlhaghoajpglaaaGreat
open Go Go.RowKit Go.Proofs.Tryz
def WRes (B wb:Nat)(w:World)(text:ByteArray)(ok:Bool)(add:ByteArray)(wt:Nat)(e:Ending)(w':World):Prop :=
 e= .returned (.tuple #[])/\∃text',WrB w' B wb text' (!ok)/\text.size<=text'.size/\text'.size<=text.size+wt/\(ok=true->text'=text++add)/\pV! B wb w w'
theorem WRes.bad {B wb:Nat}{w w':World}{text add:ByteArray}{wt:Nat}(h:WrB w' B wb text true)(hk:pV! B wb w w'):WRes B wb w text false add wt (.returned (.tuple #[])) w' :=
 ⟨rfl,text,h,n0! _,Nat.le_add_right _ _,(fun h=>by cases h),hk⟩
theorem ew! {B wb:Nat}{text:ByteArray}{w:World}(k:Int)(ra rb:ByteArray)(n:Nat)(ao:Option Addr)(c:Nat)(d:Int)(h:WrB w B wb text true)(hBw:B<=w.heap.size) :
  Calls prog 190 #[.pointer (some ⟨wb,0,none⟩),.agg #[.int .i64 k,.string ra,.string rb,.slice ao n c],.int .i64 d] w fun e w'=>e= .returned (.tuple #[])/\WrB w' B wb text true/\pV! B wb w w':=by
 have j:=h! h;have q:=h! h.1;have p:=h! hBw;have l:=h! (show w.heap.size≠wb from by have:=h.lt;omega);clear h hBw;by_cases k4:k=4
 ·subst k4;have r:=h! (Blk.made w #[.int .i64 4,.string ra,.string rb,.slice ao n c] 106);have g:=h! (r.out.other (a:=⟨wb,2,none⟩) l.out (.bool true));have o:=h! (g.out.other (a:=⟨wb,2,none⟩) l.out (.bool true));have i:=h! ((j.out.up ((Below.refl _ w).alloc (n0! _) (.cells #[.int .i64 4,.string ra,.string rb,.slice ao n c] 106))).flag true);have f:=h! (i.out.flag true);have m:=h! (pV!.next (pV!.next (pV!.of ((Below.refl _ w).alloc (n0! _) (.cells #[.int .i64 4,.string ra,.string rb,.slice ao n c] 106)) p.out) (pV!.flag (b:=wb) q.out (.bool true))) (pV!.flag (b:=wb) q.out (.bool true)));have x0:=r.out.cells;have x1:=g.out.cells;have x2:=o.out.cells;obtain⟨e0,f0⟩:=(j.out.up ((Below.refl _ w).alloc (n0! _) (.cells #[.int .i64 4,.string ra,.string rb,.slice ao n c] 106))).odd2;obtain⟨e1,f1⟩:=i.out.odd2;obtain⟨e2,f2⟩:=f.out.odd2;go_enter func190,ntmps190
  go_wp2_with fail
  (try simp only[Exit.inBlock,Exit.then])
  refine bodyPost_ret (results_none rfl _ _ _) rfl ?_;exact⟨rfl,f.out,m.out⟩
 by_cases k5:k=5
 ·subst k5;have r:=h! (Blk.made w #[.int .i64 5,.string ra,.string rb,.slice ao n c] 106);have g:=h! (r.out.other (a:=⟨wb,2,none⟩) l.out (.bool true));have o:=h! (g.out.other (a:=⟨wb,2,none⟩) l.out (.bool true));have i:=h! ((j.out.up ((Below.refl _ w).alloc (n0! _) (.cells #[.int .i64 5,.string ra,.string rb,.slice ao n c] 106))).flag true);have f:=h! (i.out.flag true);have m:=h! (pV!.next (pV!.next (pV!.of ((Below.refl _ w).alloc (n0! _) (.cells #[.int .i64 5,.string ra,.string rb,.slice ao n c] 106)) p.out) (pV!.flag (b:=wb) q.out (.bool true))) (pV!.flag (b:=wb) q.out (.bool true)));have x0:=r.out.cells;have x1:=g.out.cells;have x2:=o.out.cells;obtain⟨e0,f0⟩:=(j.out.up ((Below.refl _ w).alloc (n0! _) (.cells #[.int .i64 5,.string ra,.string rb,.slice ao n c] 106))).odd2;obtain⟨e1,f1⟩:=i.out.odd2;obtain⟨e2,f2⟩:=f.out.odd2;go_enter func190,ntmps190
  go_wp2_with fail
  (try simp only[Exit.inBlock,Exit.then])
  refine bodyPost_ret (results_none rfl _ _ _) rfl ?_;exact⟨rfl,f.out,m.out⟩
 have q4:(k == 4)=false:=by rw[n7!];exact k4
 have q5:(k == 5)=false:=by rw[n7!];exact k5
 clear k4 k5;have r:=h! (Blk.made w #[.int .i64 k,.string ra,.string rb,.slice ao n c] 106);have g:=h! (r.out.other (a:=⟨wb,2,none⟩) l.out (.bool true));have o:=h! (g.out.other (a:=⟨wb,2,none⟩) l.out (.bool true));have i:=h! ((j.out.up ((Below.refl _ w).alloc (n0! _) (.cells #[.int .i64 k,.string ra,.string rb,.slice ao n c] 106))).flag true);have f:=h! (i.out.flag true);have m:=h! (pV!.next (pV!.next (pV!.of ((Below.refl _ w).alloc (n0! _) (.cells #[.int .i64 k,.string ra,.string rb,.slice ao n c] 106)) p.out) (pV!.flag (b:=wb) q.out (.bool true))) (pV!.flag (b:=wb) q.out (.bool true)));have x0:=r.out.cells;have x1:=g.out.cells;have x2:=o.out.cells;obtain⟨e0,f0⟩:=(j.out.up ((Below.refl _ w).alloc (n0! _) (.cells #[.int .i64 k,.string ra,.string rb,.slice ao n c] 106))).odd2;obtain⟨e1,f1⟩:=i.out.odd2;obtain⟨e2,f2⟩:=f.out.odd2;go_enter func190,ntmps190
 go_wp2_with fail
 (try simp only[Exit.inBlock,Exit.then])
 refine bodyPost_ret (results_none rfl _ _ _) rfl ?_;exact⟨rfl,f.out,m.out⟩
theorem op! {B wb:Nat}{text:ByteArray}{w:World}(k:Int)(ra rb:ByteArray)(n:Nat)(ao:Option Addr)(c:Nat)(d:Int)(h:WrB w B wb text false)(hBw:B<=w.heap.size)(q1:(k == 1)=false)(q2:(k == 2)=false)(q3:(k == 3)=false)(q4:(k == 4)=false)(q5:(k == 5)=false) :
  Calls prog 190 #[.pointer (some ⟨wb,0,none⟩),.agg #[.int .i64 k,.string ra,.string rb,.slice ao n c],.int .i64 d] w (WRes B wb w text (false) (⟨#[]⟩) (10+ra.size+rb.size)):=by
 have i:=h! h;have p:=h! h.1;have o:=h! hBw;have j:=h! (show w.heap.size≠wb from by have:=h.lt;omega);clear h hBw;have a4:(k != 2)=true:=by rw[bne,q2];rfl
 have a6:(k != 3)=true:=by rw[bne,q3];rfl
 by_cases hlp:0<n
 ·have a5:(0:Int)<(n:Int):=by omega
  clear hlp;have q:=h! (Blk.made w #[.int .i64 k,.string ra,.string rb,.slice ao n c] 106);have f:=h! (q.out.other (a:=⟨wb,2,none⟩) j.out (.bool true));have l:=h! (f.out.other (a:=⟨wb,2,none⟩) j.out (.bool true));have g:=h! ((i.out.up ((Below.refl _ w).alloc (n0! _) (.cells #[.int .i64 k,.string ra,.string rb,.slice ao n c] 106))).flag true);have e:=h! (g.out.flag true);have m:=h! (pV!.next (pV!.next (pV!.of ((Below.refl _ w).alloc (n0! _) (.cells #[.int .i64 k,.string ra,.string rb,.slice ao n c] 106)) o.out) (pV!.flag (b:=wb) p.out (.bool true))) (pV!.flag (b:=wb) p.out (.bool true)));have x0:=q.out.cells;have x1:=f.out.cells;have x2:=l.out.cells;obtain⟨e0,f0⟩:=(i.out.up ((Below.refl _ w).alloc (n0! _) (.cells #[.int .i64 k,.string ra,.string rb,.slice ao n c] 106))).odd2;obtain⟨e1,f1⟩:=g.out.odd2;obtain⟨e2,f2⟩:=e.out.odd2;go_enter func190,ntmps190
  go_wp2_with fail
  (try simp only[Exit.inBlock,Exit.then])
  refine bodyPost_ret (results_none rfl _ _ _) rfl ?_;exact WRes.bad e.out m.out
 ·obtain rfl:n=0:=by omega
  clear hlp;by_cases hnrb:rb.size=0
  ·obtain rfl:=ae! hnrb;clear hnrb;by_cases hnra:ra.size=0
   ·obtain rfl:=ae! hnra;clear hnra;have q:=h! (Blk.made w #[.int .i64 k,.string ⟨#[]⟩,.string ⟨#[]⟩,.slice ao 0 c] 106);have f:=h! (q.out.other (a:=⟨wb,2,none⟩) j.out (.bool false));have l:=h! (f.out.other (a:=⟨wb,2,none⟩) j.out (.bool false));have g:=h! ((i.out.up ((Below.refl _ w).alloc (n0! _) (.cells #[.int .i64 k,.string ⟨#[]⟩,.string ⟨#[]⟩,.slice ao 0 c] 106))).flag false);have e:=h! (g.out.flag false);have a3:=h! (e.out.flag true);have a2:=h! (pV!.next (pV!.next (pV!.next (pV!.of ((Below.refl _ w).alloc (n0! _) (.cells #[.int .i64 k,.string ⟨#[]⟩,.string ⟨#[]⟩,.slice ao 0 c] 106)) o.out) (pV!.flag (b:=wb) p.out (.bool false))) (pV!.flag (b:=wb) p.out (.bool false))) (pV!.flag (b:=wb) p.out (.bool true)));have x0:=q.out.cells;have x1:=f.out.cells;have x2:=l.out.cells;obtain⟨e0,f0⟩:=(i.out.up ((Below.refl _ w).alloc (n0! _) (.cells #[.int .i64 k,.string ⟨#[]⟩,.string ⟨#[]⟩,.slice ao 0 c] 106))).odd2;obtain⟨e1,f1⟩:=g.out.odd2;obtain⟨e2,f2⟩:=e.out.odd2;go_enter func190,ntmps190
    go_wp2_with fail
    go_end0
    exact WRes.bad a3.out a2.out
   ·have a0:=al! hnra;clear hnra;have q:=h! (Blk.made w #[.int .i64 k,.string ra,.string ⟨#[]⟩,.slice ao 0 c] 106);have f:=h! (q.out.other (a:=⟨wb,2,none⟩) j.out (.bool false));have l:=h! (f.out.other (a:=⟨wb,2,none⟩) j.out (.bool true));have g:=h! ((i.out.up ((Below.refl _ w).alloc (n0! _) (.cells #[.int .i64 k,.string ra,.string ⟨#[]⟩,.slice ao 0 c] 106))).flag false);have e:=h! (g.out.flag true);have m:=h! (pV!.next (pV!.next (pV!.of ((Below.refl _ w).alloc (n0! _) (.cells #[.int .i64 k,.string ra,.string ⟨#[]⟩,.slice ao 0 c] 106)) o.out) (pV!.flag (b:=wb) p.out (.bool false))) (pV!.flag (b:=wb) p.out (.bool true)));have x0:=q.out.cells;have x1:=f.out.cells;have x2:=l.out.cells;obtain⟨e0,f0⟩:=(i.out.up ((Below.refl _ w).alloc (n0! _) (.cells #[.int .i64 k,.string ra,.string ⟨#[]⟩,.slice ao 0 c] 106))).odd2;obtain⟨e1,f1⟩:=g.out.odd2;obtain⟨e2,f2⟩:=e.out.odd2;go_enter func190,ntmps190
    go_wp2_with fail
    (try simp only[Exit.inBlock,Exit.then])
    refine bodyPost_ret (results_none rfl _ _ _) rfl ?_;exact WRes.bad e.out m.out
  ·have a1:=al! hnrb;clear hnrb;have q:=h! (Blk.made w #[.int .i64 k,.string ra,.string rb,.slice ao 0 c] 106);have f:=h! (q.out.other (a:=⟨wb,2,none⟩) j.out (.bool false));have l:=h! (f.out.other (a:=⟨wb,2,none⟩) j.out (.bool true));have g:=h! ((i.out.up ((Below.refl _ w).alloc (n0! _) (.cells #[.int .i64 k,.string ra,.string rb,.slice ao 0 c] 106))).flag false);have e:=h! (g.out.flag true);have m:=h! (pV!.next (pV!.next (pV!.of ((Below.refl _ w).alloc (n0! _) (.cells #[.int .i64 k,.string ra,.string rb,.slice ao 0 c] 106)) o.out) (pV!.flag (b:=wb) p.out (.bool false))) (pV!.flag (b:=wb) p.out (.bool true)));have x0:=q.out.cells;have x1:=f.out.cells;have x2:=l.out.cells;obtain⟨e0,f0⟩:=(i.out.up ((Below.refl _ w).alloc (n0! _) (.cells #[.int .i64 k,.string ra,.string rb,.slice ao 0 c] 106))).odd2;obtain⟨e1,f1⟩:=g.out.odd2;obtain⟨e2,f2⟩:=e.out.odd2;go_enter func190,ntmps190
   go_wp2_with fail
   (try simp only[Exit.inBlock,Exit.then])
   refine bodyPost_ret (results_none rfl _ _ _) rfl ?_;exact WRes.bad e.out m.out
def sepT (k:Int):ByteArray:=if k=4 then⟨#[32,124,32]⟩else⟨#[32,38,32]⟩
mutual
def RT.text:RT->ByteArray
 | .mk k a b ps=>if k=1 then⟨#[116,104,105,115]⟩else if k=2 then a else if k=3 then(a++⟨#[45,62]⟩)++b else kh! k ps
def kh! (k:Int):List RT->ByteArray
 | []=>ByteArray.empty
 | p::ps=>(if k=5/\p.k=4 then⟨#[40]⟩++p.text++⟨#[41]⟩else p.text)++restT k ps
def restT (k:Int):List RT->ByteArray
 | []=>ByteArray.empty
 | p::ps=>sepT k++((if k=5/\p.k=4 then⟨#[40]⟩++p.text++⟨#[41]⟩else p.text)++restT k ps)
end
def txtP (k:Int)(p:RT):ByteArray:=if k=5/\p.k=4 then⟨#[40]⟩++p.text++⟨#[41]⟩else p.text
def joinT (k:Int)(ps:List RT):ByteArray:=kh! k ps
theorem fo! (k:Int)(p:RT):∀l:List RT,restT k (l++[p])=restT k l++sepT k++txtP k p
 | []=>by
  rw[y2!,restT,restT,restT,ByteArray.append_empty,ByteArray.empty_append];rfl
 | q::l=>by
  rw[x2!,restT,fo! k p l,restT];simp only[y1!]
theorem fD! (k:Int) {l:List RT}{i:Nat}(hi:i<l.length):joinT k (l.take (i+1))=if i=0 then txtP k l[i]else joinT k (l.take i)++sepT k++txtP k l[i]:=by
 rw[n2! hi];cases i with
 | zero =>
  rw[if_pos rfl,List.take_zero,y2!];unfold joinT;rw[kh!,restT,ByteArray.append_empty];rfl
 | succ i =>
  rw[if_neg (by omega)];cases l with
  | nil=>simp at hi
  | cons q l =>
   rw[List.take_succ_cons,x2!];unfold joinT;rw[kh!,kh!,fo!];simp only[y1!]
mutual
def RT.wt:RT->Nat | .mk _ a b ps=>10+a.size+b.size+wtL ps
def wtL:List RT->Nat | []=>0 | p::ps=>(8+p.wt)+wtL ps
end
theorem eZ! (a b:List RT):wtL (a++b)=wtL a+wtL b:=by
 induction a with
 | nil=>simp[wtL]
 | cons x a ih=>rw[x2!,wtL,wtL,ih];omega
theorem ev! {l:List RT}{i:Nat}(hi:i<l.length):wtL (l.take (i+1))=wtL (l.take i)+(8+l[i].wt):=by
 rw[n2! hi,eZ!];simp[wtL]
theorem oo! (l:List RT)(i:Nat):wtL (l.take i)<=wtL l:=by
 conv=>rhs;rw[<-x6! i l]
 rw[eZ!];omega
theorem mR! {B wb:Nat}{text:ByteArray}{w:World}(ps:List RT)(d:Nat)(hd:d<=8)(pv:Value)(h:WrB w B wb text false)(hBw:B<=w.heap.size)(hat:RTAt (· < B) w (.mk 4 ⟨#[]⟩ ⟨#[]⟩ ps) pv)(hpos:0<text.size)(hlim:text.size+wtL ps<=1099511627776)
  (ih:∀p∈ps,∀(pv:Value) (d:Nat) (w:World) (text:ByteArray),RTAt (· < B) w p pv->text.size+p.wt<=1099511627776->0<text.size->d<=8->WrB w B wb text false->B<=w.heap.size->Calls prog 190 #[.pointer (some ⟨wb,0,none⟩),rV p pv,.int .i64 d] w (WRes B wb w text (p.textOk d) p.text p.wt)) :
  Calls prog 231 #[.pointer (some ⟨wb,0,none⟩),rV (.mk 4 ⟨#[]⟩ ⟨#[]⟩ ps) pv,.string ⟨#[32,124,32]⟩,.int .i64 d] w (WRes B wb w text (ps.all (goodP 4 d)) (joinT 4 ps) (wtL ps)):=by
 obtain⟨ao,c,rfl,aJ,aK,r⟩:=hat.rows;dsimp only[RT.ps]at aJ r ⊢;have HC:=h! r;have IH:=h! ih;have a1:=h! hpos;have HB:=h! h.1;have J:=h! hBw;have R:=h! (show w.heap.size≠wb from by have:=h.lt;omega);have A:=h! hlim;have a7:=Blk.made w #[.int .i64 4,.string ⟨#[]⟩,.string ⟨#[]⟩,.slice ao ps.length c] 106;have ai:=h! (h.up ((Below.refl _ w).alloc (n0! _) (.cells #[.int .i64 4,.string ⟨#[]⟩,.string ⟨#[]⟩,.slice ao ps.length c] 106)));have q:=h! (pV!.of (b:=wb) ((Below.refl _ w).alloc (n0! _) (.cells #[.int .i64 4,.string ⟨#[]⟩,.string ⟨#[]⟩,.slice ao ps.length c] 106)) hBw);have az:=a7.cells;unfold rV;dsimp only[RT.k,RT.a,RT.b];generalize hg:ps.all (goodP 4 d)=g;have HG:=h! hg.symm;clear hat r ih hpos h hBw hlim hg;go_enter func231,ntmps231
 go_wp2_with fail
 obtain⟨w1,ax⟩:=e! (w.alloc (.cells #[.int .i64 4,.string ⟨#[]⟩,.string ⟨#[]⟩,.slice ao ps.length c] 106));rw[<-ax]at a7 ai q ⊢;have a0:=h! a7;clear az ax a7;generalize hX:w.heap.size=X at *;have HX:=h! hX;have J:=h! (show B<=w.heap.size from by rw[HX.out];exact J.out);clear hX;go_loopw [13] (fun ii wr=>∃(i:Nat) (t:ByteArray) (o:Bool),i<=ps.length/\ii= .int .i64 i/\o=!((ps.take i).all (goodP 4 d))/\WrB wr B wb t o/\text.size<=t.size/\t.size<=text.size+wtL (ps.take i)/\(o=false->t=text++joinT 4 (ps.take i))/\pV! B wb w1 wr) (fun ii _=>ps.length-(intOf ii).toNat)
 case atStart=>exact⟨0,text,false,by omega,rfl,rfl,ai.out,n0! _,Nat.le_add_right _ _,fun _=>by rw[List.take_zero];exact(ByteArray.append_empty).symm,Kept.refl _ _⟩
 case round =>
  obtain⟨i,t,o,hi,rfl,ho,hw,O,N,hj,hk⟩:=hrel;have HO:=h! ho;have HW:=h! hw;have HJ:=h! hj;have HS:=h! (And.intro O N);clear ai ho hw hj O N;by_cases hlt:i<ps.length
  ·have s:Below B w wr:=(pV!.next q.out hk).below;have av:=h! (ev! hlt);have G:=h! (show wtL (ps.take i)+(8+ps[i].wt)<=wtL ps from by have:=oo! ps (i+1);rw[ev! hlt]at this;exact this);have ay:=h! (fD! 4 hlt);have a2:=fun(h:goodP 4 d ps[i]=false)=>(show g=false from by rw[HG.out];exact List.all_eq_false.2 ⟨ps[i],n5! hlt,by rw[h];exact Bool.false_ne_true⟩);have V:=h! (fun(h:goodP 4 d ps[i]=false)=>a2 h);have aE:=h! (show(ps.take (i+1)).all (goodP 4 d)=((ps.take i).all (goodP 4 d)&&goodP 4 d ps[i])from by rw[n2! hlt,List.all_append];simp);have m:=n5! hlt;obtain⟨bb,a8,aL,aG,hb,c0,c1,c2,c3,H⟩:=HC.out i hlt;cases aG;have ap:=(s.cell (p:=⟨bb,a8+i*4,none⟩) hb).trans c0;have am:=(s.cell (p:=⟨bb,a8+i*4+1,none⟩) hb).trans c1;have a9:=(s.cell (p:=⟨bb,a8+i*4+2,none⟩) hb).trans c2;have ae:=(s.cell (p:=⟨bb,a8+i*4+3,none⟩) hb).trans c3;obtain⟨ab,an,rfl,-⟩:=H.rows;have au:=h! H;clear c0 c1 c2 c3 H s a2;generalize ps[i]=p at *;have a4:=h! (Blk.made wr #[.int .i64 p.k,.string p.a,.string p.b,.slice ab p.ps.length an] 106);have U:=h! (show wr.heap.size≠wb from by have:=HW.out.lt;omega);have af:X<wr.heap.size:=n1! a0.out.lt hk.size;have aC:=h! (n6! J.out (by rw[HX.out];exact Nat.le_of_lt af));have F:=h! (pV!.next hk (pV!.of ((Below.refl _ wr).alloc (n0! _) (.cells #[.int .i64 p.k,.string p.a,.string p.b,.slice ab p.ps.length an] 106)) aC.out));have Y:=h! (F.out.box a0.out (by decide) R.out);have Q:=h! (HW.out.up ((Below.refl _ wr).alloc (n0! _) (.cells #[.int .i64 p.k,.string p.a,.string p.b,.slice ab p.ps.length an] 106)));have aa:=a4.out.cells;have al:=Y.out.cells;clear hk;cases o with
   | true =>
    have f:(ps.take i).all (goodP 4 d)=false:=by have:=HO.out;simpa using this
    have a6:(0:Int)<(i:Int):=by
     have:i≠0:=fun h=>by rw[h]at f;simp at f
     omega
    have HF:=h! (show g=false from by
     rw[HG.out];have:=f;rw[<-x6! i ps,List.all_append,f];rfl)
    have Z:=h! (ab! ⟨#[32,124,32]⟩ Q.out (by have:=HS.out;have:=A.out;have:=G.out;show _+3<=_;omega) (by show 0<_+3;omega) (n6! J.out (pV!.next q.out F.out).size));rw[HF.out];clear f m;go_wp2_with fail
    refine Z.out.mono ?_;rintro e wB ⟨rfl,M,L⟩;have C:=h! (pV!.next F.out (pV!.next L (pV!.flag (b:=wb) HB.out (.bool true))));have l:=h! (M.flag true);obtain⟨eb,fb⟩:=M.odd2;obtain⟨ec,fc⟩:=l.out.odd2;clear Z M L aa al ap am a9 ae a6;go_wp2_with fail
    (try simp only[Exit.inBlock,Exit.then])
    refine bodyPost_ret (results_none rfl _ _ _) rfl ?_;exact⟨rfl,t++⟨#[32,124,32]⟩,l.out,(by rw[n3!];have:=HS.out;omega),(by rw[n3!];have:=HS.out;have:=G.out;show _+3<=_;omega),(fun h=>by cases h),pV!.next q.out C.out⟩
   | false =>
    have f:(ps.take i).all (goodP 4 d)=true:=by have:=HO.out;simpa using this
    have aq:=h! (show(ps.take (i+1)).all (goodP 4 d)=goodP 4 d p from by rw[aE.out,f,Bool.true_and]);have aw:=h! (HJ.out rfl);clear f;by_cases hi0:i=0
    ·have a6:¬ ((0:Int)<(i:Int)):=by omega
     obtain⟨tB,K⟩:=e! t;have u:=h! (show text.size<=tB.size/\tB.size<=text.size+wtL (ps.take i)+3/\wtL (ps.take i)+(8+p.wt)<=wtL ps from by rw[K];have:=HS.out;have:=G.out;omega);have ah:=h! (show tB++txtP 4 p=text++joinT 4 (ps.take (i+1))from by rw[K,aw.out,ay.out,if_pos hi0,hi0,List.take_zero];show text++ByteArray.empty++_=_;rw[ByteArray.append_empty]);rw[<-K]at Q;clear K hi0;have x:=h! Q.out;have C:=h! F.out;have y:=h! a4.out;have v:=h! Y.out;clear Q F a4 Y aa al HW HJ HO;by_cases hkk:p.k=4
     ·have HF:=h! (V.out (by unfold goodP;simp[hkk]));obtain⟨pk,pa,pb,aH⟩:=p;dsimp only[RT.k,RT.a,RT.b,RT.ps]at *;subst hkk;have l:=h! (x.out.flag true);have D:=h! (y.out.other (a:=⟨wb,2,none⟩) U.out (.bool true));have E:=h! (v.out.other (a:=⟨wb,2,none⟩) R.out (.bool true));have n:=h! (pV!.next C.out (pV!.flag (b:=wb) HB.out (.bool true)));have aD:=y.out.cells;have xb:=v.out.cells;have pc:=D.out.cells;have xc:=E.out.cells;obtain⟨eb,fb⟩:=x.out.odd2;obtain⟨ec,fc⟩:=l.out.odd2;clear m;go_wp2_with fail
      rw[HF.out];(try simp only[Exit.inBlock,Exit.then])
      refine bodyPost_ret (results_none rfl _ _ _) rfl ?_;exact⟨rfl,tB,l.out,(by have:=u.out;omega),(by have:=u.out;have:=G.out;omega),(fun h=>by cases h),pV!.next q.out n.out⟩
     ·have aA:(p.k == 4)=false:=by rw[n7!];exact hkk
      have j:goodP 4 d p=p.textOk d:=by unfold goodP bR!;simp[hkk,hd]
      have l:=h! (x.out.flag false);have D:=h! (y.out.other (a:=⟨wb,2,none⟩) U.out (.bool false));have E:=h! (v.out.other (a:=⟨wb,2,none⟩) R.out (.bool false));have n:=h! (pV!.next C.out (pV!.flag (b:=wb) HB.out (.bool false)));have pb:=y.out.cells;have xb:=v.out.cells;have pc:=D.out.cells;have xc:=E.out.cells;obtain⟨eb,fb⟩:=x.out.odd2;obtain⟨ec,fc⟩:=l.out.odd2;have HR:=h! (IH.out p m _ d _ tB (au.out.same (Same.below (pV!.next q.out n.out).below)) (by have:=u.out;have:=A.out;omega) (by have:=u.out;have:=a1.out;omega) hd l.out (n6! J.out (pV!.next q.out n.out).size));unfold rV at HR;clear m;go_wp2_with fail
      refine HR.out.mono ?_;rintro e wD ⟨rfl,tD,T,O,N,z,a5⟩;have aj:=h! T;have ak:=h! (pV!.next n.out a5);have a3:=h! (show text.size<=tD.size/\tD.size<=text.size+wtL (ps.take (i+1))from by have:=u.out;have:=av.out;omega);have ag:=h! (show(!(p.textOk d))=!((ps.take (i+1)).all (goodP 4 d))from by rw[aq.out,j])
      have ac:=h! (show(!(p.textOk d))=false->tD=text++joinT 4 (ps.take (i+1))from fun h=>by
       rw[<-ah.out,z (by simpa using h)];unfold txtP;rw[if_neg (by simp)])
      clear pb xb pc xc eb fb ec fc;clear HR T O N z a5 x C y v l D E n j ap am a9 ae;go_wp2_with fail
      go_roundw
      case rel=>exact⟨i+1,tD,_,by omega,by go_num,ag.out,aj.out,a3.out.1,a3.out.2,ac.out,ak.out⟩
      case measure=>simp[intOf];omega
    ·have a6:(0:Int)<(i:Int):=by omega
     have Z:=h! (ab! ⟨#[32,124,32]⟩ Q.out (by have:=HS.out;have:=A.out;have:=G.out;show _+3<=_;omega) (by show 0<_+3;omega) (n6! J.out (pV!.next q.out F.out).size));have I:=h! (show t++⟨#[32,124,32]⟩++txtP 4 p=text++joinT 4 (ps.take (i+1))from by rw[aw.out,ay.out,if_neg hi0];simp only[y1!];rfl);clear hi0;go_wp2_with fail
     refine Z.out.mono ?_;rintro e wB ⟨rfl,M,L⟩;have C:=h! (pV!.next F.out L);have y:=h! (L.box a4.out (by decide) U.out);have v:=h! (L.box Y.out (by decide) R.out);have ad:(t++⟨#[32,124,32]⟩).size=t.size+3:=by rw[n3!];rfl
     obtain⟨tB,K⟩:=e! (t++⟨#[32,124,32]⟩);rw[<-K]at M I ad;have x:=h! M;have ah:=h! I.out;have u:=h! (show text.size<=tB.size/\tB.size<=text.size+wtL (ps.take i)+3/\wtL (ps.take i)+(8+p.wt)<=wtL ps from by rw[ad];have:=HS.out;have:=G.out;omega);clear Z M L K ad I Q F a4 Y aa al HW HJ HO a6;by_cases hkk:p.k=4
     ·have HF:=h! (V.out (by unfold goodP;simp[hkk]));obtain⟨pk,pa,pb,aH⟩:=p;dsimp only[RT.k,RT.a,RT.b,RT.ps]at *;subst hkk;have l:=h! (x.out.flag true);have D:=h! (y.out.other (a:=⟨wb,2,none⟩) U.out (.bool true));have E:=h! (v.out.other (a:=⟨wb,2,none⟩) R.out (.bool true));have n:=h! (pV!.next C.out (pV!.flag (b:=wb) HB.out (.bool true)));have aD:=y.out.cells;have xb:=v.out.cells;have pc:=D.out.cells;have xc:=E.out.cells;obtain⟨eb,fb⟩:=x.out.odd2;obtain⟨ec,fc⟩:=l.out.odd2;clear m;go_wp2_with fail
      rw[HF.out];(try simp only[Exit.inBlock,Exit.then])
      refine bodyPost_ret (results_none rfl _ _ _) rfl ?_;exact⟨rfl,tB,l.out,(by have:=u.out;omega),(by have:=u.out;have:=G.out;omega),(fun h=>by cases h),pV!.next q.out n.out⟩
     ·have aA:(p.k == 4)=false:=by rw[n7!];exact hkk
      have j:goodP 4 d p=p.textOk d:=by unfold goodP bR!;simp[hkk,hd]
      have l:=h! (x.out.flag false);have D:=h! (y.out.other (a:=⟨wb,2,none⟩) U.out (.bool false));have E:=h! (v.out.other (a:=⟨wb,2,none⟩) R.out (.bool false));have n:=h! (pV!.next C.out (pV!.flag (b:=wb) HB.out (.bool false)));have pb:=y.out.cells;have xb:=v.out.cells;have pc:=D.out.cells;have xc:=E.out.cells;obtain⟨eb,fb⟩:=x.out.odd2;obtain⟨ec,fc⟩:=l.out.odd2;have HR:=h! (IH.out p m _ d _ tB (au.out.same (Same.below (pV!.next q.out n.out).below)) (by have:=u.out;have:=A.out;omega) (by have:=u.out;have:=a1.out;omega) hd l.out (n6! J.out (pV!.next q.out n.out).size));unfold rV at HR;clear m;go_wp2_with fail
      refine HR.out.mono ?_;rintro e wD ⟨rfl,tD,T,O,N,z,a5⟩;have aj:=h! T;have ak:=h! (pV!.next n.out a5);have a3:=h! (show text.size<=tD.size/\tD.size<=text.size+wtL (ps.take (i+1))from by have:=u.out;have:=av.out;omega);have ag:=h! (show(!(p.textOk d))=!((ps.take (i+1)).all (goodP 4 d))from by rw[aq.out,j])
      have ac:=h! (show(!(p.textOk d))=false->tD=text++joinT 4 (ps.take (i+1))from fun h=>by
       rw[<-ah.out,z (by simpa using h)];unfold txtP;rw[if_neg (by simp)])
      clear pb xb pc xc eb fb ec fc;clear HR T O N z a5 x C y v l D E n j ap am a9 ae;go_wp2_with fail
      go_roundw
      case rel=>exact⟨i+1,tD,_,by omega,by go_num,ag.out,aj.out,a3.out.1,a3.out.2,ac.out,ak.out⟩
      case measure=>simp[intOf];omega
  ·obtain rfl:i=ps.length:=by omega
   rw[u2!]at HO HJ HS;have ar:=h! (show(!g)=o from by rw[HG.out];exact HO.out.symm);have aI:=h! (pV!.next q.out hk);have aF:=h! (show g=true->t=text++joinT 4 ps from fun h=>HJ.out (by rw[<-ar.out,h];rfl));have aB:=h! HW.out;clear hk HJ HW HO;go_wp2_with fail
   go_end0
   exact⟨rfl,t,by rw[ar.out];exact aB.out,HS.out.1,HS.out.2,aF.out,aI.out⟩
theorem hq! {B wb:Nat}{add:ByteArray}{wt:Nat}{text:ByteArray}{w:World}(ra rb:ByteArray)(n:Nat)(ao:Option Addr)(c:Nat)(d:Int)(h:WrB w B wb text false)(hBw:B<=w.heap.size)(hbad:¬ (ra.size=0/\rb.size=0/\2<=n)) :
  Calls prog 190 #[.pointer (some ⟨wb,0,none⟩),.agg #[.int .i64 4,.string ra,.string rb,.slice ao n c],.int .i64 d] w (WRes B wb w text (false) (add) (wt)):=by
 have i:=h! h;have o:=h! h.1;have m:=h! hBw;have j:=h! (show w.heap.size≠wb from by have:=h.lt;omega);clear h hBw;by_cases h0:n=0
 ·subst h0;clear hbad;have p:=h! (Blk.made w #[.int .i64 4,.string ra,.string rb,.slice ao 0 c] 106);have f:=h! (p.out.other (a:=⟨wb,2,none⟩) j.out (.bool true));have l:=h! (f.out.other (a:=⟨wb,2,none⟩) j.out (.bool true));have g:=h! ((i.out.up ((Below.refl _ w).alloc (n0! _) (.cells #[.int .i64 4,.string ra,.string rb,.slice ao 0 c] 106))).flag true);have e:=h! (g.out.flag true);have k:=h! (pV!.next (pV!.next (pV!.of ((Below.refl _ w).alloc (n0! _) (.cells #[.int .i64 4,.string ra,.string rb,.slice ao 0 c] 106)) m.out) (pV!.flag (b:=wb) o.out (.bool true))) (pV!.flag (b:=wb) o.out (.bool true)));have x0:=p.out.cells;have x1:=f.out.cells;have x2:=l.out.cells;obtain⟨e0,f0⟩:=(i.out.up ((Below.refl _ w).alloc (n0! _) (.cells #[.int .i64 4,.string ra,.string rb,.slice ao 0 c] 106))).odd2;obtain⟨e1,f1⟩:=g.out.odd2;obtain⟨e2,f2⟩:=e.out.odd2;go_enter func190,ntmps190
  go_wp2_with fail
  (try simp only[Exit.inBlock,Exit.then])
  refine bodyPost_ret (results_none rfl _ _ _) rfl ?_;exact WRes.bad e.out k.out
 by_cases h1:n=1
 ·subst h1;clear hbad h0;have p:=h! (Blk.made w #[.int .i64 4,.string ra,.string rb,.slice ao 1 c] 106);have f:=h! (p.out.other (a:=⟨wb,2,none⟩) j.out (.bool true));have l:=h! (f.out.other (a:=⟨wb,2,none⟩) j.out (.bool true));have g:=h! ((i.out.up ((Below.refl _ w).alloc (n0! _) (.cells #[.int .i64 4,.string ra,.string rb,.slice ao 1 c] 106))).flag true);have e:=h! (g.out.flag true);have k:=h! (pV!.next (pV!.next (pV!.of ((Below.refl _ w).alloc (n0! _) (.cells #[.int .i64 4,.string ra,.string rb,.slice ao 1 c] 106)) m.out) (pV!.flag (b:=wb) o.out (.bool true))) (pV!.flag (b:=wb) o.out (.bool true)));have x0:=p.out.cells;have x1:=f.out.cells;have x2:=l.out.cells;obtain⟨e0,f0⟩:=(i.out.up ((Below.refl _ w).alloc (n0! _) (.cells #[.int .i64 4,.string ra,.string rb,.slice ao 1 c] 106))).odd2;obtain⟨e1,f1⟩:=g.out.odd2;obtain⟨e2,f2⟩:=e.out.odd2;go_enter func190,ntmps190
  go_wp2_with fail
  (try simp only[Exit.inBlock,Exit.then])
  refine bodyPost_ret (results_none rfl _ _ _) rfl ?_;exact WRes.bad e.out k.out
 have a2:(0:Int)<(n:Int):=by omega
 have a3:¬ ((n:Int)<2):=by omega
 by_cases hnrb:rb.size=0
 ·obtain rfl:=ae! hnrb;clear hnrb;by_cases hnra:ra.size=0
  ·obtain rfl:=ae! hnra;clear hnra;exact absurd ⟨rfl,rfl,by omega⟩ hbad
  ·have a0:=al! hnra;clear hbad hnra h0 h1;have p:=h! (Blk.made w #[.int .i64 4,.string ra,.string ⟨#[]⟩,.slice ao n c] 106);have f:=h! (p.out.other (a:=⟨wb,2,none⟩) j.out (.bool false));have l:=h! (f.out.other (a:=⟨wb,2,none⟩) j.out (.bool true));have g:=h! ((i.out.up ((Below.refl _ w).alloc (n0! _) (.cells #[.int .i64 4,.string ra,.string ⟨#[]⟩,.slice ao n c] 106))).flag false);have e:=h! (g.out.flag true);have k:=h! (pV!.next (pV!.next (pV!.of ((Below.refl _ w).alloc (n0! _) (.cells #[.int .i64 4,.string ra,.string ⟨#[]⟩,.slice ao n c] 106)) m.out) (pV!.flag (b:=wb) o.out (.bool false))) (pV!.flag (b:=wb) o.out (.bool true)));have x0:=p.out.cells;have x1:=f.out.cells;have x2:=l.out.cells;obtain⟨e0,f0⟩:=(i.out.up ((Below.refl _ w).alloc (n0! _) (.cells #[.int .i64 4,.string ra,.string ⟨#[]⟩,.slice ao n c] 106))).odd2;obtain⟨e1,f1⟩:=g.out.odd2;obtain⟨e2,f2⟩:=e.out.odd2;go_enter func190,ntmps190
   go_wp2_with fail
   (try simp only[Exit.inBlock,Exit.then])
   refine bodyPost_ret (results_none rfl _ _ _) rfl ?_;exact WRes.bad e.out k.out
 ·have a1:=al! hnrb;clear hbad hnrb h0 h1;have p:=h! (Blk.made w #[.int .i64 4,.string ra,.string rb,.slice ao n c] 106);have f:=h! (p.out.other (a:=⟨wb,2,none⟩) j.out (.bool false));have l:=h! (f.out.other (a:=⟨wb,2,none⟩) j.out (.bool true));have g:=h! ((i.out.up ((Below.refl _ w).alloc (n0! _) (.cells #[.int .i64 4,.string ra,.string rb,.slice ao n c] 106))).flag false);have e:=h! (g.out.flag true);have k:=h! (pV!.next (pV!.next (pV!.of ((Below.refl _ w).alloc (n0! _) (.cells #[.int .i64 4,.string ra,.string rb,.slice ao n c] 106)) m.out) (pV!.flag (b:=wb) o.out (.bool false))) (pV!.flag (b:=wb) o.out (.bool true)));have x0:=p.out.cells;have x1:=f.out.cells;have x2:=l.out.cells;obtain⟨e0,f0⟩:=(i.out.up ((Below.refl _ w).alloc (n0! _) (.cells #[.int .i64 4,.string ra,.string rb,.slice ao n c] 106))).odd2;obtain⟨e1,f1⟩:=g.out.odd2;obtain⟨e2,f2⟩:=e.out.odd2;go_enter func190,ntmps190
  go_wp2_with fail
  (try simp only[Exit.inBlock,Exit.then])
  refine bodyPost_ret (results_none rfl _ _ _) rfl ?_;exact WRes.bad e.out k.out
theorem mP! {B wb:Nat}{text:ByteArray}{w:World}(ps:List RT)(d:Nat)(hd:d<=8)(pv:Value)(h:WrB w B wb text false)(hBw:B<=w.heap.size)(hat:RTAt (· < B) w (.mk 4 ⟨#[]⟩ ⟨#[]⟩ ps) pv)(hpos:0<text.size)(hlim:text.size+wtL ps<=1099511627776)(h2:2<=ps.length)
  (ih:∀p∈ps,∀(pv:Value) (d:Nat) (w:World) (text:ByteArray),RTAt (· < B) w p pv->text.size+p.wt<=1099511627776->0<text.size->d<=8->WrB w B wb text false->B<=w.heap.size->Calls prog 190 #[.pointer (some ⟨wb,0,none⟩),rV p pv,.int .i64 d] w (WRes B wb w text (p.textOk d) p.text p.wt)) :
  Calls prog 190 #[.pointer (some ⟨wb,0,none⟩),rV (.mk 4 ⟨#[]⟩ ⟨#[]⟩ ps) pv,.int .i64 d] w (WRes B wb w text (ps.all (goodP 4 d)) (joinT 4 ps) (wtL ps)):=by
 have y:=h! hat;obtain⟨A,c,rfl,-⟩:=hat.rows;have IH:=h! ih;have l:=h! hpos;have HD:=h! hd;have i:=h! hlim;unfold rV;dsimp only[RT.k,RT.a,RT.b,RT.ps]at y ⊢;have a2:(0:Int)<(ps.length:Int):=by omega
 have a3:¬ ((ps.length:Int)<2):=by omega
 clear hat ih hpos hlim h2 hd;have v:=h! h;have HB:=h! h.1;have u:=h! hBw;have x:=h! (show w.heap.size≠wb from by have:=h.lt;omega);clear h hBw;have HX:=h! (Blk.made w #[.int .i64 4,.string ⟨#[]⟩,.string ⟨#[]⟩,.slice A ps.length c] 106);have m:=h! (HX.out.other (a:=⟨wb,2,none⟩) x.out (.bool false));have t:=h! (m.out.other (a:=⟨wb,2,none⟩) x.out (.bool false));have n:=h! ((v.out.up ((Below.refl _ w).alloc (n0! _) (.cells #[.int .i64 4,.string ⟨#[]⟩,.string ⟨#[]⟩,.slice A ps.length c] 106))).flag false);have j:=h! (n.out.flag false);have g:=h! (pV!.next (pV!.next (pV!.of ((Below.refl _ w).alloc (n0! _) (.cells #[.int .i64 4,.string ⟨#[]⟩,.string ⟨#[]⟩,.slice A ps.length c] 106)) u.out) (pV!.flag (b:=wb) HB.out (.bool false))) (pV!.flag (b:=wb) HB.out (.bool false)));have x0:=HX.out.cells;have x1:=m.out.cells;have x2:=t.out.cells;obtain⟨e0,f0⟩:=(v.out.up ((Below.refl _ w).alloc (n0! _) (.cells #[.int .i64 4,.string ⟨#[]⟩,.string ⟨#[]⟩,.slice A ps.length c] 106))).odd2;obtain⟨e1,f1⟩:=n.out.odd2;obtain⟨e2,f2⟩:=j.out.odd2;go_enter func190,ntmps190
 go_wp2_with fail
 obtain⟨w3,o⟩:=e! (((w.alloc (.cells #[.int .i64 4,.string ⟨#[]⟩,.string ⟨#[]⟩,.slice A ps.length c] 106)).setCell ⟨wb,2,none⟩ (.bool false)).setCell ⟨wb,2,none⟩ (.bool false));rw[<-o]at t j g ⊢;clear o HX m n x0 x1 x2 e0 e1 e2 f0 f1 f2;have a1:=h! (n6! u.out g.out.size);have C:=h! (mR! ps d HD.out _ j.out a1.out (y.out.same (Same.below g.out.below)) l.out i.out IH.out);unfold rV at C;dsimp only[RT.k,RT.a,RT.b]at C;refine C.out.mono ?_;rintro e w4 ⟨rfl,t4,r,z,s,f,q⟩;have a0:Hid (WRes B wb w text (ps.all (goodP 4 d)) (joinT 4 ps) (wtL ps) (.returned (.tuple #[])) w4):=h! ⟨rfl,t4,r,z,s,f,pV!.next g.out q⟩;clear C r z s f q;go_wp2_with fail
 go_end0
 exact a0.out
theorem mQ! {B wb:Nat}{text:ByteArray}{w:World}(ps:List RT)(d:Nat)(hd:d<=8)(pv:Value)(h:WrB w B wb text false)(hBw:B<=w.heap.size)(hat:RTAt (· < B) w (.mk 5 ⟨#[]⟩ ⟨#[]⟩ ps) pv)(hpos:0<text.size)(hlim:text.size+wtL ps<=1099511627776)
  (ih:∀p∈ps,∀(pv:Value) (d:Nat) (w:World) (text:ByteArray),RTAt (· < B) w p pv->text.size+p.wt<=1099511627776->0<text.size->d<=8->WrB w B wb text false->B<=w.heap.size->Calls prog 190 #[.pointer (some ⟨wb,0,none⟩),rV p pv,.int .i64 d] w (WRes B wb w text (p.textOk d) p.text p.wt)) :
  Calls prog 231 #[.pointer (some ⟨wb,0,none⟩),rV (.mk 5 ⟨#[]⟩ ⟨#[]⟩ ps) pv,.string ⟨#[32,38,32]⟩,.int .i64 d] w (WRes B wb w text (ps.all (goodP 5 d)) (joinT 5 ps) (wtL ps)):=by
 obtain⟨ao,c,rfl,b0,b1,R⟩:=hat.rows;dsimp only[RT.ps]at b0 R ⊢;have HC:=h! R;have IH:=h! ih;have a4:=h! hpos;have HB:=h! h.1;have C:=h! hBw;have a6:=h! (show w.heap.size≠wb from by have:=h.lt;omega);have l:=h! hlim;have aC:=Blk.made w #[.int .i64 5,.string ⟨#[]⟩,.string ⟨#[]⟩,.slice ao ps.length c] 106;have aL:=h! (h.up ((Below.refl _ w).alloc (n0! _) (.cells #[.int .i64 5,.string ⟨#[]⟩,.string ⟨#[]⟩,.slice ao ps.length c] 106)));have n:=h! (pV!.of (b:=wb) ((Below.refl _ w).alloc (n0! _) (.cells #[.int .i64 5,.string ⟨#[]⟩,.string ⟨#[]⟩,.slice ao ps.length c] 106)) hBw);have aU:=aC.cells;unfold rV;dsimp only[RT.k,RT.a,RT.b];generalize hg:ps.all (goodP 5 d)=g;have HG:=h! hg.symm;clear hat R ih hpos h hBw hlim hg;go_enter func231,ntmps231
 go_wp2_with fail
 obtain⟨w1,aS⟩:=e! (w.alloc (.cells #[.int .i64 5,.string ⟨#[]⟩,.string ⟨#[]⟩,.slice ao ps.length c] 106));rw[<-aS]at aC aL n ⊢;have aw:=h! aC;clear aU aS aC;generalize hX:w.heap.size=X at *;have HX:=h! hX;have C:=h! (show B<=w.heap.size from by rw[HX.out];exact C.out);clear hX;go_loopw [13] (fun ii wr=>∃(i:Nat) (t:ByteArray) (o:Bool),i<=ps.length/\ii= .int .i64 i/\o=!((ps.take i).all (goodP 5 d))/\WrB wr B wb t o/\text.size<=t.size/\t.size<=text.size+wtL (ps.take i)/\(o=false->t=text++joinT 5 (ps.take i))/\pV! B wb w1 wr) (fun ii _=>ps.length-(intOf ii).toNat)
 case atStart=>exact⟨0,text,false,by omega,rfl,rfl,aL.out,n0! _,Nat.le_add_right _ _,fun _=>by rw[List.take_zero];exact(ByteArray.append_empty).symm,Kept.refl _ _⟩
 case round =>
  obtain⟨i,t,o,hi,rfl,ho,hw,N,M,hj,hk⟩:=hrel;have HO:=h! ho;have HW:=h! hw;have HJ:=h! hj;have HS:=h! (And.intro N M);clear aL ho hw hj N M;by_cases hlt:i<ps.length
  ·have V:Below B w wr:=(pV!.next n.out hk).below;have al:=h! (ev! hlt);have a8:=h! (show wtL (ps.take i)+(8+ps[i].wt)<=wtL ps from by have:=oo! ps (i+1);rw[ev! hlt]at this;exact this);have aT:=h! (fD! 5 hlt);have ax:=fun(h:goodP 5 d ps[i]=false)=>(show g=false from by rw[HG.out];exact List.all_eq_false.2 ⟨ps[i],n5! hlt,by rw[h];exact Bool.false_ne_true⟩);have an:=h! (fun(h:goodP 5 d ps[i]=false)=>ax h);have aX:=h! (show(ps.take (i+1)).all (goodP 5 d)=((ps.take i).all (goodP 5 d)&&goodP 5 d ps[i])from by rw[n2! hlt,List.all_append];simp);have u:=n5! hlt;obtain⟨bb,aE,b2,aZ,hb,c0,c1,c2,c3,aa⟩:=HC.out i hlt;cases aZ;have ai:=(V.cell (p:=⟨bb,aE+i*4,none⟩) hb).trans c0;have af:=(V.cell (p:=⟨bb,aE+i*4+1,none⟩) hb).trans c1;have a9:=(V.cell (p:=⟨bb,aE+i*4+2,none⟩) hb).trans c2;have ac:=(V.cell (p:=⟨bb,aE+i*4+3,none⟩) hb).trans c3;obtain⟨ap,aA,rfl,-⟩:=aa.rows;have aD:=h! aa;clear c0 c1 c2 c3 aa V ax;generalize ps[i]=p at *;have az:=h! (Blk.made wr #[.int .i64 p.k,.string p.a,.string p.b,.slice ap p.ps.length aA] 106);have I:=h! (show wr.heap.size≠wb from by have:=HW.out.lt;omega);have aJ:X<wr.heap.size:=n1! aw.out.lt hk.size;have aW:=h! (n6! C.out (by rw[HX.out];exact Nat.le_of_lt aJ));have a5:=h! (pV!.next hk (pV!.of ((Below.refl _ wr).alloc (n0! _) (.cells #[.int .i64 p.k,.string p.a,.string p.b,.slice ap p.ps.length aA] 106)) aW.out));have aq:=h! (a5.out.box aw.out (by decide) a6.out);have am:=h! (HW.out.up ((Below.refl _ wr).alloc (n0! _) (.cells #[.int .i64 p.k,.string p.a,.string p.b,.slice ap p.ps.length aA] 106)));have aG:=az.out.cells;have aP:=aq.out.cells;clear hk;cases o with
   | true =>
    have D:(ps.take i).all (goodP 5 d)=false:=by have:=HO.out;simpa using this
    have aB:(0:Int)<(i:Int):=by
     have:i≠0:=fun h=>by rw[h]at D;simp at D
     omega
    have HF:=h! (show g=false from by
     rw[HG.out];have:=D;rw[<-x6! i ps,List.all_append,D];rfl)
    have av:=h! (ab! ⟨#[32,38,32]⟩ am.out (by have:=HS.out;have:=l.out;have:=a8.out;show _+3<=_;omega) (by show 0<_+3;omega) (n6! C.out (pV!.next n.out a5.out).size));rw[HF.out];clear D u;go_wp2_with fail
    refine av.out.mono ?_;rintro e wB ⟨rfl,ah,ag⟩;have G:=h! (pV!.next a5.out (pV!.next ag (pV!.flag (b:=wb) HB.out (.bool true))));have j:=h! (ah.flag true);obtain⟨eb,fb⟩:=ah.odd2;obtain⟨ec,fc⟩:=j.out.odd2;clear av ah ag aG aP ai af a9 ac aB;go_wp2_with fail
    (try simp only[Exit.inBlock,Exit.then])
    refine bodyPost_ret (results_none rfl _ _ _) rfl ?_;exact⟨rfl,t++⟨#[32,38,32]⟩,j.out,(by rw[n3!];have:=HS.out;omega),(by rw[n3!];have:=HS.out;have:=a8.out;show _+3<=_;omega),(fun h=>by cases h),pV!.next n.out G.out⟩
   | false =>
    have D:(ps.take i).all (goodP 5 d)=true:=by have:=HO.out;simpa using this
    have ak:=h! (show(ps.take (i+1)).all (goodP 5 d)=goodP 5 d p from by rw[aX.out,D,Bool.true_and]);have aR:=h! (HJ.out rfl);clear D;by_cases hi0:i=0
    ·have aB:¬ ((0:Int)<(i:Int)):=by omega
     obtain⟨tB,ae⟩:=e! t;have m:=h! (show text.size<=tB.size/\tB.size<=text.size+wtL (ps.take i)+3/\wtL (ps.take i)+(8+p.wt)<=wtL ps from by rw[ae];have:=HS.out;have:=a8.out;omega);have ar:=h! (show tB++txtP 5 p=text++joinT 5 (ps.take (i+1))from by rw[ae,aR.out,aT.out,if_pos hi0,hi0,List.take_zero];show text++ByteArray.empty++_=_;rw[ByteArray.append_empty]);rw[<-ae]at am;clear ae hi0;have y:=h! am.out;have G:=h! a5.out;have z:=h! az.out;have x:=h! aq.out;clear am a5 az aq aG aP HW HJ HO;by_cases hkk:p.k=5
     ·have HF:=h! (an.out (by unfold goodP;simp[hkk]));obtain⟨pk,pa,pb,F⟩:=p;dsimp only[RT.k,RT.a,RT.b,RT.ps]at *;subst hkk;have j:=h! (y.out.flag true);have v:=h! (z.out.other (a:=⟨wb,2,none⟩) I.out (.bool true));have E:=h! (x.out.other (a:=⟨wb,2,none⟩) a6.out (.bool true));have q:=h! (pV!.next G.out (pV!.flag (b:=wb) HB.out (.bool true)));have au:=z.out.cells;have xb:=x.out.cells;have pc:=v.out.cells;have xc:=E.out.cells;obtain⟨eb,fb⟩:=y.out.odd2;obtain⟨ec,fc⟩:=j.out.odd2;clear u;go_wp2_with fail
      rw[HF.out];(try simp only[Exit.inBlock,Exit.then])
      refine bodyPost_ret (results_none rfl _ _ _) rfl ?_;exact⟨rfl,tB,j.out,(by have:=m.out;omega),(by have:=m.out;have:=a8.out;omega),(fun h=>by cases h),pV!.next n.out q.out⟩
     ·have aF:(p.k == 5)=false:=by rw[n7!];exact hkk
      by_cases hk4:p.k=4
      ·clear aF hkk;obtain⟨pk,pa,pb,F⟩:=p;dsimp only[RT.k,RT.a,RT.b,RT.ps]at *;subst hk4;have j:=h! (y.out.flag false);have v:=h! (z.out.other (a:=⟨wb,2,none⟩) I.out (.bool false));have E:=h! (x.out.other (a:=⟨wb,2,none⟩) a6.out (.bool false));have q:=h! (pV!.next G.out (pV!.flag (b:=wb) HB.out (.bool false)));have au:=z.out.cells;have xb:=x.out.cells;have pc:=v.out.cells;have xc:=E.out.cells;obtain⟨eb,fb⟩:=y.out.odd2;obtain⟨ec,fc⟩:=j.out.odd2;have HS:=h! (ab! ⟨#[40]⟩ j.out (by have:=m.out;have:=l.out;show _+1<=_;omega) (by show 0<_+1;omega) (n6! C.out (pV!.next n.out q.out).size));go_wp2_with fail
       refine HS.out.mono ?_;rintro e wD ⟨rfl,s,L⟩;have K:=h! (pV!.next q.out L);have J:=h! (L.box v.out (by decide) I.out);clear au xb pc xc eb fb ec fc;clear HS L;by_cases hd8:d=8
       ·have f:goodP 5 d (.mk 4 pa pb F)=false:=by unfold goodP bR!;simp[RT.k,hd8]
        have aH:((d:Int) == 8)=true:=by rw[beq_iff_eq];omega
        clear hd8;have H:=h! (s.flag true);have a3:=h! (J.out.other (a:=⟨wb,2,none⟩) I.out (.bool true));have A:=h! (pV!.next K.out (pV!.flag (b:=wb) HB.out (.bool true)));have a7:=h! (n6! C.out (pV!.next n.out A.out).size);have HR:=h! (ew! (d:=(d:Int)+1) 4 pa pb F.length ap aA H.out a7.out);have pd:=J.out.cells;have pe:=a3.out.cells;obtain⟨ed,fd⟩:=s.odd2;obtain⟨ee,fe⟩:=H.out.odd2;clear s;go_wp2_with fail
        refine HR.out.mono ?_;rintro e wF ⟨rfl,T,a0⟩;have O:=h! (pV!.next A.out a0);have Y:=h! (ab! ⟨#[41]⟩ T (by have:=m.out;have:=l.out;rw[n3!];show _+1+1<=_;omega) (by rw[n3!];show 0<_+1;omega) (n6! C.out (pV!.next n.out O.out).size))
        have Q:=h! (show text.size<=(tB++⟨#[40]⟩++⟨#[41]⟩).size/\(tB++⟨#[40]⟩++⟨#[41]⟩).size<=text.size+wtL (ps.take (i+1))from by
         have:=m.out;have:=al.out;simp only[n3!];rw[show(⟨#[40]⟩:ByteArray).size=1 from rfl,show(⟨#[41]⟩:ByteArray).size=1 from rfl];omega)
        have a1:=h! (show true=!((ps.take (i+1)).all (goodP 5 d))from by rw[ak.out,f];rfl);have Z:Hid (true=false->(tB++⟨#[40]⟩++⟨#[41]⟩)=text++joinT 5 (ps.take (i+1))):=h! (fun h=>by cases h);clear T a0;clear HR pd pe ed ee fd fe;go_wp2_with fail
        refine Y.out.mono ?_;rintro e wG ⟨rfl,U,a2⟩;have aj:=h! U;have ad:=h! (pV!.next O.out a2);clear Y U a2 y G z x j v E q J K H a3 A f ai af a9 ac;go_wp2_with fail
        go_roundw
        case rel=>exact⟨i+1,(tB++⟨#[40]⟩++⟨#[41]⟩),_,by omega,by go_num,a1.out,aj.out,Q.out.1,Q.out.2,Z.out,ad.out⟩
        case measure=>simp[intOf];omega
       ·have aM:d+1<=8:=by omega
        have f:goodP 5 d (.mk 4 pa pb F)=(RT.mk 4 pa pb F).textOk (d+1):=by unfold goodP bR!;simp[RT.k,aM]
        have aK:¬ ((d:Int)=8):=by omega
        have aH:((d:Int) == 8)=false:=by rw[n7!];exact aK
        have H:=h! (s.flag false);have a3:=h! (J.out.other (a:=⟨wb,2,none⟩) I.out (.bool false));have A:=h! (pV!.next K.out (pV!.flag (b:=wb) HB.out (.bool false)));have a7:=h! (n6! C.out (pV!.next n.out A.out).size);have HR:=h! (IH.out (.mk 4 pa pb F) u _ (d+1) _ (tB++⟨#[40]⟩) (aD.out.same (Same.below (pV!.next n.out A.out).below)) (by have:=m.out;have:=l.out;rw[n3!];show _+1+_<=_;omega) (by have:=m.out;have:=a4.out;rw[n3!];omega) (by omega) H.out a7.out);unfold rV at HR;dsimp only[RT.k,RT.a,RT.b,RT.ps]at HR;rw[show((d+1:Nat):Int)=(d:Int)+1 from rfl]at HR;have pd:=J.out.cells;have pe:=a3.out.cells;obtain⟨ed,fd⟩:=s.odd2;obtain⟨ee,fe⟩:=H.out.odd2;clear s;go_wp2_with fail
        refine HR.out.mono ?_;rintro e wF ⟨rfl,tF,T,N,M,r,a0⟩;have O:=h! (pV!.next A.out a0);rw[n3!,show(⟨#[40]⟩:ByteArray).size=1 from rfl]at N M;have Y:=h! (ab! ⟨#[41]⟩ T (by have:=m.out;have:=l.out;show _+1<=_;omega) (by show 0<_+1;omega) (n6! C.out (pV!.next n.out O.out).size))
        have Q:=h! (show text.size<=(tF++⟨#[41]⟩).size/\(tF++⟨#[41]⟩).size<=text.size+wtL (ps.take (i+1))from by
         have:=m.out;have:=al.out;simp only[n3!];rw[show(⟨#[41]⟩:ByteArray).size=1 from rfl];omega)
        have a1:=h! (show(!((RT.mk 4 pa pb F).textOk (d+1)))=!((ps.take (i+1)).all (goodP 5 d))from by rw[ak.out,f])
        have Z:=h! (show(!((RT.mk 4 pa pb F).textOk (d+1)))=false->(tF++⟨#[41]⟩)=text++joinT 5 (ps.take (i+1))from fun h=>by
         rw[<-ar.out,r (by simpa using h)];unfold txtP;rw[if_pos ⟨rfl,rfl⟩];simp only[y1!])
        clear T a0 N M r;clear HR pd pe ed ee fd fe;go_wp2_with fail
        refine Y.out.mono ?_;rintro e wG ⟨rfl,U,a2⟩;have aj:=h! U;have ad:=h! (pV!.next O.out a2);clear Y U a2 y G z x j v E q J K H a3 A f ai af a9 ac;go_wp2_with fail
        go_roundw
        case rel=>exact⟨i+1,(tF++⟨#[41]⟩),_,by omega,by go_num,a1.out,aj.out,Q.out.1,Q.out.2,Z.out,ad.out⟩
        case measure=>simp[intOf];omega
      ·have aO:(p.k != 4)=true:=by rw[bne_iff_ne];exact hk4
       have f:goodP 5 d p=p.textOk d:=by unfold goodP bR!;simp[hkk,hd,hk4]
       have j:=h! (y.out.flag false);have v:=h! (z.out.other (a:=⟨wb,2,none⟩) I.out (.bool false));have E:=h! (x.out.other (a:=⟨wb,2,none⟩) a6.out (.bool false));have q:=h! (pV!.next G.out (pV!.flag (b:=wb) HB.out (.bool false)));have pb:=z.out.cells;have xb:=x.out.cells;have pc:=v.out.cells;have xc:=E.out.cells;obtain⟨eb,fb⟩:=y.out.odd2;obtain⟨ec,fc⟩:=j.out.odd2;have HR:=h! (IH.out p u _ d _ tB (aD.out.same (Same.below (pV!.next n.out q.out).below)) (by have:=m.out;have:=l.out;omega) (by have:=m.out;have:=a4.out;omega) hd j.out (n6! C.out (pV!.next n.out q.out).size));unfold rV at HR;clear u;go_wp2_with fail
       refine HR.out.mono ?_;rintro e wD ⟨rfl,tD,s,N,M,r,L⟩;have aN:=h! s;have K:=h! (pV!.next q.out L);have ay:=h! (show text.size<=tD.size/\tD.size<=text.size+wtL (ps.take (i+1))from by have:=m.out;have:=al.out;omega);have a1:=h! (show(!(p.textOk d))=!((ps.take (i+1)).all (goodP 5 d))from by rw[ak.out,f])
       have Z:=h! (show(!(p.textOk d))=false->tD=text++joinT 5 (ps.take (i+1))from fun h=>by
        rw[<-ar.out,r (by simpa using h)];unfold txtP;rw[if_neg (by simp[hk4])])
       clear pb xb pc xc eb fb ec fc;clear HR s N M r L y G z x j v E q f ai af a9 ac;go_wp2_with fail
       go_roundw
       case rel=>exact⟨i+1,tD,_,by omega,by go_num,a1.out,aN.out,ay.out.1,ay.out.2,Z.out,K.out⟩
       case measure=>simp[intOf];omega
    ·have aB:(0:Int)<(i:Int):=by omega
     have av:=h! (ab! ⟨#[32,38,32]⟩ am.out (by have:=HS.out;have:=l.out;have:=a8.out;show _+3<=_;omega) (by show 0<_+3;omega) (n6! C.out (pV!.next n.out a5.out).size));have ab:=h! (show t++⟨#[32,38,32]⟩++txtP 5 p=text++joinT 5 (ps.take (i+1))from by rw[aR.out,aT.out,if_neg hi0];simp only[y1!];rfl);clear hi0;go_wp2_with fail
     refine av.out.mono ?_;rintro e wB ⟨rfl,ah,ag⟩;have G:=h! (pV!.next a5.out ag);have z:=h! (ag.box az.out (by decide) I.out);have x:=h! (ag.box aq.out (by decide) a6.out);have aI:(t++⟨#[32,38,32]⟩).size=t.size+3:=by rw[n3!];rfl
     obtain⟨tB,ae⟩:=e! (t++⟨#[32,38,32]⟩);rw[<-ae]at ah ab aI;have y:=h! ah;have ar:=h! ab.out;have m:=h! (show text.size<=tB.size/\tB.size<=text.size+wtL (ps.take i)+3/\wtL (ps.take i)+(8+p.wt)<=wtL ps from by rw[aI];have:=HS.out;have:=a8.out;omega);clear av ah ag ae aI ab am a5 az aq aG aP HW HJ HO aB;by_cases hkk:p.k=5
     ·have HF:=h! (an.out (by unfold goodP;simp[hkk]));obtain⟨pk,pa,pb,F⟩:=p;dsimp only[RT.k,RT.a,RT.b,RT.ps]at *;subst hkk;have j:=h! (y.out.flag true);have v:=h! (z.out.other (a:=⟨wb,2,none⟩) I.out (.bool true));have E:=h! (x.out.other (a:=⟨wb,2,none⟩) a6.out (.bool true));have q:=h! (pV!.next G.out (pV!.flag (b:=wb) HB.out (.bool true)));have au:=z.out.cells;have xb:=x.out.cells;have pc:=v.out.cells;have xc:=E.out.cells;obtain⟨eb,fb⟩:=y.out.odd2;obtain⟨ec,fc⟩:=j.out.odd2;clear u;go_wp2_with fail
      rw[HF.out];(try simp only[Exit.inBlock,Exit.then])
      refine bodyPost_ret (results_none rfl _ _ _) rfl ?_;exact⟨rfl,tB,j.out,(by have:=m.out;omega),(by have:=m.out;have:=a8.out;omega),(fun h=>by cases h),pV!.next n.out q.out⟩
     ·have aF:(p.k == 5)=false:=by rw[n7!];exact hkk
      by_cases hk4:p.k=4
      ·clear aF hkk;obtain⟨pk,pa,pb,F⟩:=p;dsimp only[RT.k,RT.a,RT.b,RT.ps]at *;subst hk4;have j:=h! (y.out.flag false);have v:=h! (z.out.other (a:=⟨wb,2,none⟩) I.out (.bool false));have E:=h! (x.out.other (a:=⟨wb,2,none⟩) a6.out (.bool false));have q:=h! (pV!.next G.out (pV!.flag (b:=wb) HB.out (.bool false)));have au:=z.out.cells;have xb:=x.out.cells;have pc:=v.out.cells;have xc:=E.out.cells;obtain⟨eb,fb⟩:=y.out.odd2;obtain⟨ec,fc⟩:=j.out.odd2;have HS:=h! (ab! ⟨#[40]⟩ j.out (by have:=m.out;have:=l.out;show _+1<=_;omega) (by show 0<_+1;omega) (n6! C.out (pV!.next n.out q.out).size));go_wp2_with fail
       refine HS.out.mono ?_;rintro e wD ⟨rfl,s,L⟩;have K:=h! (pV!.next q.out L);have J:=h! (L.box v.out (by decide) I.out);clear au xb pc xc eb fb ec fc;clear HS L;by_cases hd8:d=8
       ·have f:goodP 5 d (.mk 4 pa pb F)=false:=by unfold goodP bR!;simp[RT.k,hd8]
        have aH:((d:Int) == 8)=true:=by rw[beq_iff_eq];omega
        clear hd8;have H:=h! (s.flag true);have a3:=h! (J.out.other (a:=⟨wb,2,none⟩) I.out (.bool true));have A:=h! (pV!.next K.out (pV!.flag (b:=wb) HB.out (.bool true)));have a7:=h! (n6! C.out (pV!.next n.out A.out).size);have HR:=h! (ew! (d:=(d:Int)+1) 4 pa pb F.length ap aA H.out a7.out);have pd:=J.out.cells;have pe:=a3.out.cells;obtain⟨ed,fd⟩:=s.odd2;obtain⟨ee,fe⟩:=H.out.odd2;clear s;go_wp2_with fail
        refine HR.out.mono ?_;rintro e wF ⟨rfl,T,a0⟩;have O:=h! (pV!.next A.out a0);have Y:=h! (ab! ⟨#[41]⟩ T (by have:=m.out;have:=l.out;rw[n3!];show _+1+1<=_;omega) (by rw[n3!];show 0<_+1;omega) (n6! C.out (pV!.next n.out O.out).size))
        have Q:=h! (show text.size<=(tB++⟨#[40]⟩++⟨#[41]⟩).size/\(tB++⟨#[40]⟩++⟨#[41]⟩).size<=text.size+wtL (ps.take (i+1))from by
         have:=m.out;have:=al.out;simp only[n3!];rw[show(⟨#[40]⟩:ByteArray).size=1 from rfl,show(⟨#[41]⟩:ByteArray).size=1 from rfl];omega)
        have a1:=h! (show true=!((ps.take (i+1)).all (goodP 5 d))from by rw[ak.out,f];rfl);have Z:Hid (true=false->(tB++⟨#[40]⟩++⟨#[41]⟩)=text++joinT 5 (ps.take (i+1))):=h! (fun h=>by cases h);clear T a0;clear HR pd pe ed ee fd fe;go_wp2_with fail
        refine Y.out.mono ?_;rintro e wG ⟨rfl,U,a2⟩;have aj:=h! U;have ad:=h! (pV!.next O.out a2);clear Y U a2 y G z x j v E q J K H a3 A f ai af a9 ac;go_wp2_with fail
        go_roundw
        case rel=>exact⟨i+1,(tB++⟨#[40]⟩++⟨#[41]⟩),_,by omega,by go_num,a1.out,aj.out,Q.out.1,Q.out.2,Z.out,ad.out⟩
        case measure=>simp[intOf];omega
       ·have aM:d+1<=8:=by omega
        have f:goodP 5 d (.mk 4 pa pb F)=(RT.mk 4 pa pb F).textOk (d+1):=by unfold goodP bR!;simp[RT.k,aM]
        have aK:¬ ((d:Int)=8):=by omega
        have aH:((d:Int) == 8)=false:=by rw[n7!];exact aK
        have H:=h! (s.flag false);have a3:=h! (J.out.other (a:=⟨wb,2,none⟩) I.out (.bool false));have A:=h! (pV!.next K.out (pV!.flag (b:=wb) HB.out (.bool false)));have a7:=h! (n6! C.out (pV!.next n.out A.out).size);have HR:=h! (IH.out (.mk 4 pa pb F) u _ (d+1) _ (tB++⟨#[40]⟩) (aD.out.same (Same.below (pV!.next n.out A.out).below)) (by have:=m.out;have:=l.out;rw[n3!];show _+1+_<=_;omega) (by have:=m.out;have:=a4.out;rw[n3!];omega) (by omega) H.out a7.out);unfold rV at HR;dsimp only[RT.k,RT.a,RT.b,RT.ps]at HR;rw[show((d+1:Nat):Int)=(d:Int)+1 from rfl]at HR;have pd:=J.out.cells;have pe:=a3.out.cells;obtain⟨ed,fd⟩:=s.odd2;obtain⟨ee,fe⟩:=H.out.odd2;clear s;go_wp2_with fail
        refine HR.out.mono ?_;rintro e wF ⟨rfl,tF,T,N,M,r,a0⟩;have O:=h! (pV!.next A.out a0);rw[n3!,show(⟨#[40]⟩:ByteArray).size=1 from rfl]at N M;have Y:=h! (ab! ⟨#[41]⟩ T (by have:=m.out;have:=l.out;show _+1<=_;omega) (by show 0<_+1;omega) (n6! C.out (pV!.next n.out O.out).size))
        have Q:=h! (show text.size<=(tF++⟨#[41]⟩).size/\(tF++⟨#[41]⟩).size<=text.size+wtL (ps.take (i+1))from by
         have:=m.out;have:=al.out;simp only[n3!];rw[show(⟨#[41]⟩:ByteArray).size=1 from rfl];omega)
        have a1:=h! (show(!((RT.mk 4 pa pb F).textOk (d+1)))=!((ps.take (i+1)).all (goodP 5 d))from by rw[ak.out,f])
        have Z:=h! (show(!((RT.mk 4 pa pb F).textOk (d+1)))=false->(tF++⟨#[41]⟩)=text++joinT 5 (ps.take (i+1))from fun h=>by
         rw[<-ar.out,r (by simpa using h)];unfold txtP;rw[if_pos ⟨rfl,rfl⟩];simp only[y1!])
        clear T a0 N M r;clear HR pd pe ed ee fd fe;go_wp2_with fail
        refine Y.out.mono ?_;rintro e wG ⟨rfl,U,a2⟩;have aj:=h! U;have ad:=h! (pV!.next O.out a2);clear Y U a2 y G z x j v E q J K H a3 A f ai af a9 ac;go_wp2_with fail
        go_roundw
        case rel=>exact⟨i+1,(tF++⟨#[41]⟩),_,by omega,by go_num,a1.out,aj.out,Q.out.1,Q.out.2,Z.out,ad.out⟩
        case measure=>simp[intOf];omega
      ·have aO:(p.k != 4)=true:=by rw[bne_iff_ne];exact hk4
       have f:goodP 5 d p=p.textOk d:=by unfold goodP bR!;simp[hkk,hd,hk4]
       have j:=h! (y.out.flag false);have v:=h! (z.out.other (a:=⟨wb,2,none⟩) I.out (.bool false));have E:=h! (x.out.other (a:=⟨wb,2,none⟩) a6.out (.bool false));have q:=h! (pV!.next G.out (pV!.flag (b:=wb) HB.out (.bool false)));have pb:=z.out.cells;have xb:=x.out.cells;have pc:=v.out.cells;have xc:=E.out.cells;obtain⟨eb,fb⟩:=y.out.odd2;obtain⟨ec,fc⟩:=j.out.odd2;have HR:=h! (IH.out p u _ d _ tB (aD.out.same (Same.below (pV!.next n.out q.out).below)) (by have:=m.out;have:=l.out;omega) (by have:=m.out;have:=a4.out;omega) hd j.out (n6! C.out (pV!.next n.out q.out).size));unfold rV at HR;clear u;go_wp2_with fail
       refine HR.out.mono ?_;rintro e wD ⟨rfl,tD,s,N,M,r,L⟩;have aN:=h! s;have K:=h! (pV!.next q.out L);have ay:=h! (show text.size<=tD.size/\tD.size<=text.size+wtL (ps.take (i+1))from by have:=m.out;have:=al.out;omega);have a1:=h! (show(!(p.textOk d))=!((ps.take (i+1)).all (goodP 5 d))from by rw[ak.out,f])
       have Z:=h! (show(!(p.textOk d))=false->tD=text++joinT 5 (ps.take (i+1))from fun h=>by
        rw[<-ar.out,r (by simpa using h)];unfold txtP;rw[if_neg (by simp[hk4])])
       clear pb xb pc xc eb fb ec fc;clear HR s N M r L y G z x j v E q f ai af a9 ac;go_wp2_with fail
       go_roundw
       case rel=>exact⟨i+1,tD,_,by omega,by go_num,a1.out,aN.out,ay.out.1,ay.out.2,Z.out,K.out⟩
       case measure=>simp[intOf];omega
  ·obtain rfl:i=ps.length:=by omega
   rw[u2!]at HO HJ HS;have aQ:=h! (show(!g)=o from by rw[HG.out];exact HO.out.symm);have A:=h! (pV!.next n.out hk);have aY:=h! (show g=true->t=text++joinT 5 ps from fun h=>HJ.out (by rw[<-aQ.out,h];rfl));have aV:=h! HW.out;clear hk HJ HW HO;go_wp2_with fail
   go_end0
   exact⟨rfl,t,by rw[aQ.out];exact aV.out,HS.out.1,HS.out.2,aY.out,A.out⟩
theorem hp! {B wb:Nat}{add:ByteArray}{wt:Nat}{text:ByteArray}{w:World}(ra rb:ByteArray)(n:Nat)(ao:Option Addr)(c:Nat)(d:Int)(h:WrB w B wb text false)(hBw:B<=w.heap.size)(hbad:¬ (ra.size=0/\rb.size=0/\2<=n)) :
  Calls prog 190 #[.pointer (some ⟨wb,0,none⟩),.agg #[.int .i64 5,.string ra,.string rb,.slice ao n c],.int .i64 d] w (WRes B wb w text (false) (add) (wt)):=by
 have i:=h! h;have o:=h! h.1;have m:=h! hBw;have j:=h! (show w.heap.size≠wb from by have:=h.lt;omega);clear h hBw;by_cases h0:n=0
 ·subst h0;clear hbad;have p:=h! (Blk.made w #[.int .i64 5,.string ra,.string rb,.slice ao 0 c] 106);have f:=h! (p.out.other (a:=⟨wb,2,none⟩) j.out (.bool true));have l:=h! (f.out.other (a:=⟨wb,2,none⟩) j.out (.bool true));have g:=h! ((i.out.up ((Below.refl _ w).alloc (n0! _) (.cells #[.int .i64 5,.string ra,.string rb,.slice ao 0 c] 106))).flag true);have e:=h! (g.out.flag true);have k:=h! (pV!.next (pV!.next (pV!.of ((Below.refl _ w).alloc (n0! _) (.cells #[.int .i64 5,.string ra,.string rb,.slice ao 0 c] 106)) m.out) (pV!.flag (b:=wb) o.out (.bool true))) (pV!.flag (b:=wb) o.out (.bool true)));have x0:=p.out.cells;have x1:=f.out.cells;have x2:=l.out.cells;obtain⟨e0,f0⟩:=(i.out.up ((Below.refl _ w).alloc (n0! _) (.cells #[.int .i64 5,.string ra,.string rb,.slice ao 0 c] 106))).odd2;obtain⟨e1,f1⟩:=g.out.odd2;obtain⟨e2,f2⟩:=e.out.odd2;go_enter func190,ntmps190
  go_wp2_with fail
  (try simp only[Exit.inBlock,Exit.then])
  refine bodyPost_ret (results_none rfl _ _ _) rfl ?_;exact WRes.bad e.out k.out
 by_cases h1:n=1
 ·subst h1;clear hbad h0;have p:=h! (Blk.made w #[.int .i64 5,.string ra,.string rb,.slice ao 1 c] 106);have f:=h! (p.out.other (a:=⟨wb,2,none⟩) j.out (.bool true));have l:=h! (f.out.other (a:=⟨wb,2,none⟩) j.out (.bool true));have g:=h! ((i.out.up ((Below.refl _ w).alloc (n0! _) (.cells #[.int .i64 5,.string ra,.string rb,.slice ao 1 c] 106))).flag true);have e:=h! (g.out.flag true);have k:=h! (pV!.next (pV!.next (pV!.of ((Below.refl _ w).alloc (n0! _) (.cells #[.int .i64 5,.string ra,.string rb,.slice ao 1 c] 106)) m.out) (pV!.flag (b:=wb) o.out (.bool true))) (pV!.flag (b:=wb) o.out (.bool true)));have x0:=p.out.cells;have x1:=f.out.cells;have x2:=l.out.cells;obtain⟨e0,f0⟩:=(i.out.up ((Below.refl _ w).alloc (n0! _) (.cells #[.int .i64 5,.string ra,.string rb,.slice ao 1 c] 106))).odd2;obtain⟨e1,f1⟩:=g.out.odd2;obtain⟨e2,f2⟩:=e.out.odd2;go_enter func190,ntmps190
  go_wp2_with fail
  (try simp only[Exit.inBlock,Exit.then])
  refine bodyPost_ret (results_none rfl _ _ _) rfl ?_;exact WRes.bad e.out k.out
 have a2:(0:Int)<(n:Int):=by omega
 have a3:¬ ((n:Int)<2):=by omega
 by_cases hnrb:rb.size=0
 ·obtain rfl:=ae! hnrb;clear hnrb;by_cases hnra:ra.size=0
  ·obtain rfl:=ae! hnra;clear hnra;exact absurd ⟨rfl,rfl,by omega⟩ hbad
  ·have a0:=al! hnra;clear hbad hnra h0 h1;have p:=h! (Blk.made w #[.int .i64 5,.string ra,.string ⟨#[]⟩,.slice ao n c] 106);have f:=h! (p.out.other (a:=⟨wb,2,none⟩) j.out (.bool false));have l:=h! (f.out.other (a:=⟨wb,2,none⟩) j.out (.bool true));have g:=h! ((i.out.up ((Below.refl _ w).alloc (n0! _) (.cells #[.int .i64 5,.string ra,.string ⟨#[]⟩,.slice ao n c] 106))).flag false);have e:=h! (g.out.flag true);have k:=h! (pV!.next (pV!.next (pV!.of ((Below.refl _ w).alloc (n0! _) (.cells #[.int .i64 5,.string ra,.string ⟨#[]⟩,.slice ao n c] 106)) m.out) (pV!.flag (b:=wb) o.out (.bool false))) (pV!.flag (b:=wb) o.out (.bool true)));have x0:=p.out.cells;have x1:=f.out.cells;have x2:=l.out.cells;obtain⟨e0,f0⟩:=(i.out.up ((Below.refl _ w).alloc (n0! _) (.cells #[.int .i64 5,.string ra,.string ⟨#[]⟩,.slice ao n c] 106))).odd2;obtain⟨e1,f1⟩:=g.out.odd2;obtain⟨e2,f2⟩:=e.out.odd2;go_enter func190,ntmps190
   go_wp2_with fail
   (try simp only[Exit.inBlock,Exit.then])
   refine bodyPost_ret (results_none rfl _ _ _) rfl ?_;exact WRes.bad e.out k.out
 ·have a1:=al! hnrb;clear hbad hnrb h0 h1;have p:=h! (Blk.made w #[.int .i64 5,.string ra,.string rb,.slice ao n c] 106);have f:=h! (p.out.other (a:=⟨wb,2,none⟩) j.out (.bool false));have l:=h! (f.out.other (a:=⟨wb,2,none⟩) j.out (.bool true));have g:=h! ((i.out.up ((Below.refl _ w).alloc (n0! _) (.cells #[.int .i64 5,.string ra,.string rb,.slice ao n c] 106))).flag false);have e:=h! (g.out.flag true);have k:=h! (pV!.next (pV!.next (pV!.of ((Below.refl _ w).alloc (n0! _) (.cells #[.int .i64 5,.string ra,.string rb,.slice ao n c] 106)) m.out) (pV!.flag (b:=wb) o.out (.bool false))) (pV!.flag (b:=wb) o.out (.bool true)));have x0:=p.out.cells;have x1:=f.out.cells;have x2:=l.out.cells;obtain⟨e0,f0⟩:=(i.out.up ((Below.refl _ w).alloc (n0! _) (.cells #[.int .i64 5,.string ra,.string rb,.slice ao n c] 106))).odd2;obtain⟨e1,f1⟩:=g.out.odd2;obtain⟨e2,f2⟩:=e.out.odd2;go_enter func190,ntmps190
  go_wp2_with fail
  (try simp only[Exit.inBlock,Exit.then])
  refine bodyPost_ret (results_none rfl _ _ _) rfl ?_;exact WRes.bad e.out k.out
theorem mO! {B wb:Nat}{text:ByteArray}{w:World}(ps:List RT)(d:Nat)(hd:d<=8)(pv:Value)(h:WrB w B wb text false)(hBw:B<=w.heap.size)(hat:RTAt (· < B) w (.mk 5 ⟨#[]⟩ ⟨#[]⟩ ps) pv)(hpos:0<text.size)(hlim:text.size+wtL ps<=1099511627776)(h2:2<=ps.length)
  (ih:∀p∈ps,∀(pv:Value) (d:Nat) (w:World) (text:ByteArray),RTAt (· < B) w p pv->text.size+p.wt<=1099511627776->0<text.size->d<=8->WrB w B wb text false->B<=w.heap.size->Calls prog 190 #[.pointer (some ⟨wb,0,none⟩),rV p pv,.int .i64 d] w (WRes B wb w text (p.textOk d) p.text p.wt)) :
  Calls prog 190 #[.pointer (some ⟨wb,0,none⟩),rV (.mk 5 ⟨#[]⟩ ⟨#[]⟩ ps) pv,.int .i64 d] w (WRes B wb w text (ps.all (goodP 5 d)) (joinT 5 ps) (wtL ps)):=by
 have y:=h! hat;obtain⟨A,c,rfl,-⟩:=hat.rows;have IH:=h! ih;have l:=h! hpos;have HD:=h! hd;have i:=h! hlim;unfold rV;dsimp only[RT.k,RT.a,RT.b,RT.ps]at y ⊢;have a2:(0:Int)<(ps.length:Int):=by omega
 have a3:¬ ((ps.length:Int)<2):=by omega
 clear hat ih hpos hlim h2 hd;have v:=h! h;have HB:=h! h.1;have u:=h! hBw;have x:=h! (show w.heap.size≠wb from by have:=h.lt;omega);clear h hBw;have HX:=h! (Blk.made w #[.int .i64 5,.string ⟨#[]⟩,.string ⟨#[]⟩,.slice A ps.length c] 106);have m:=h! (HX.out.other (a:=⟨wb,2,none⟩) x.out (.bool false));have t:=h! (m.out.other (a:=⟨wb,2,none⟩) x.out (.bool false));have n:=h! ((v.out.up ((Below.refl _ w).alloc (n0! _) (.cells #[.int .i64 5,.string ⟨#[]⟩,.string ⟨#[]⟩,.slice A ps.length c] 106))).flag false);have j:=h! (n.out.flag false);have g:=h! (pV!.next (pV!.next (pV!.of ((Below.refl _ w).alloc (n0! _) (.cells #[.int .i64 5,.string ⟨#[]⟩,.string ⟨#[]⟩,.slice A ps.length c] 106)) u.out) (pV!.flag (b:=wb) HB.out (.bool false))) (pV!.flag (b:=wb) HB.out (.bool false)));have x0:=HX.out.cells;have x1:=m.out.cells;have x2:=t.out.cells;obtain⟨e0,f0⟩:=(v.out.up ((Below.refl _ w).alloc (n0! _) (.cells #[.int .i64 5,.string ⟨#[]⟩,.string ⟨#[]⟩,.slice A ps.length c] 106))).odd2;obtain⟨e1,f1⟩:=n.out.odd2;obtain⟨e2,f2⟩:=j.out.odd2;go_enter func190,ntmps190
 go_wp2_with fail
 obtain⟨w3,o⟩:=e! (((w.alloc (.cells #[.int .i64 5,.string ⟨#[]⟩,.string ⟨#[]⟩,.slice A ps.length c] 106)).setCell ⟨wb,2,none⟩ (.bool false)).setCell ⟨wb,2,none⟩ (.bool false));rw[<-o]at t j g ⊢;clear o HX m n x0 x1 x2 e0 e1 e2 f0 f1 f2;have a1:=h! (n6! u.out g.out.size);have C:=h! (mQ! ps d HD.out _ j.out a1.out (y.out.same (Same.below g.out.below)) l.out i.out IH.out);unfold rV at C;dsimp only[RT.k,RT.a,RT.b]at C;refine C.out.mono ?_;rintro e w4 ⟨rfl,t4,r,z,s,f,q⟩;have a0:Hid (WRes B wb w text (ps.all (goodP 5 d)) (joinT 5 ps) (wtL ps) (.returned (.tuple #[])) w4):=h! ⟨rfl,t4,r,z,s,f,pV!.next g.out q⟩;clear C r z s f q;go_wp2_with fail
 go_end0
 exact a0.out
end Go.Proofs.YtlhaghoajpglaaaGreat
