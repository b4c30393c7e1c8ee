/- Lemmas for the claim, no condition. -/
import Derived.Test.YtlhaghoajpglaaaGreatYLkSub5
import Derived.Test.YtlhaghoajpglaaaGreatYLkSub5
set_option maxRecDepth 100000
set_option maxHeartbeats 8000000
namespace Go.Proofs.YtlhaghoajpglaaaGreat
open Go Go.RowKit Go.Proofs.Tryz
def WRes (B wb:Nat)(w:World)(text:ByteArray)(ok:Bool)(add:ByteArray)(wt:Nat)(e:Ending)(w':World):Prop :=
 e= .returned (.tuple #[])/\∃text',WrB w' B wb text' (!ok)/\text.size<=text'.size/\text'.size<=text.size+wt/\(ok=true->text'=text++add)/\pZ! B wb w w'
theorem WRes.bad {B wb:Nat}{w w':World}{text add:ByteArray}{wt:Nat}(h:WrB w' B wb text true)(hk:pZ! B wb w w'):WRes B wb w text false add wt (.returned (.tuple #[])) w' :=
 ⟨rfl,text,h,n0! _,Nat.le_add_right _ _,(fun h=>by cases h),hk⟩
theorem eu! {B wb:Nat}{text:ByteArray}{w:World}(k:Int)(ra rb:ByteArray)(n:Nat)(ao:Option Addr)(c:Nat)(d:Int)(h:WrB w B wb text true)(hBw:B<=w.heap.size) :
  Calls prog 190 #[.pointer (some ⟨wb,0,none⟩),.agg #[.int .i64 k,.string ra,.string rb,.slice ao n c],.int .i64 d] w fun e w'=>e= .returned (.tuple #[])/\WrB w' B wb text true/\pZ! B wb w w':=by
 have l:=h! h;have r:=h! h.1;have p:=h! hBw;have j:=h! (show w.heap.size≠wb from by have:=h.lt;omega);clear h hBw;by_cases k4:k=4
 ·subst k4;have q:=h! (Blk.made w #[.int .i64 4,.string ra,.string rb,.slice ao n c] 106);have f:=h! (q.out.other (a:=⟨wb,2,none⟩) j.out (.bool true));have o:=h! (f.out.other (a:=⟨wb,2,none⟩) j.out (.bool true));have g:=h! ((l.out.up ((Below.refl _ w).alloc (n0! _) (.cells #[.int .i64 4,.string ra,.string rb,.slice ao n c] 106))).flag true);have i:=h! (g.out.flag true);have m:=h! (pZ!.next (pZ!.next (pZ!.of ((Below.refl _ w).alloc (n0! _) (.cells #[.int .i64 4,.string ra,.string rb,.slice ao n c] 106)) p.out) (pZ!.flag (b:=wb) r.out (.bool true))) (pZ!.flag (b:=wb) r.out (.bool true)));have x0:=q.out.cells;have x1:=f.out.cells;have x2:=o.out.cells;obtain⟨e0,f0⟩:=(l.out.up ((Below.refl _ w).alloc (n0! _) (.cells #[.int .i64 4,.string ra,.string rb,.slice ao n c] 106))).odd2;obtain⟨e1,f1⟩:=g.out.odd2;obtain⟨e2,f2⟩:=i.out.odd2;go_enter func190,ntmps190
  go_wp2_with fail
  (try simp only[Exit.inBlock,Exit.then])
  refine bodyPost_ret (results_none rfl _ _ _) rfl ?_;exact⟨rfl,i.out,m.out⟩
 by_cases k5:k=5
 ·subst k5;have q:=h! (Blk.made w #[.int .i64 5,.string ra,.string rb,.slice ao n c] 106);have f:=h! (q.out.other (a:=⟨wb,2,none⟩) j.out (.bool true));have o:=h! (f.out.other (a:=⟨wb,2,none⟩) j.out (.bool true));have g:=h! ((l.out.up ((Below.refl _ w).alloc (n0! _) (.cells #[.int .i64 5,.string ra,.string rb,.slice ao n c] 106))).flag true);have i:=h! (g.out.flag true);have m:=h! (pZ!.next (pZ!.next (pZ!.of ((Below.refl _ w).alloc (n0! _) (.cells #[.int .i64 5,.string ra,.string rb,.slice ao n c] 106)) p.out) (pZ!.flag (b:=wb) r.out (.bool true))) (pZ!.flag (b:=wb) r.out (.bool true)));have x0:=q.out.cells;have x1:=f.out.cells;have x2:=o.out.cells;obtain⟨e0,f0⟩:=(l.out.up ((Below.refl _ w).alloc (n0! _) (.cells #[.int .i64 5,.string ra,.string rb,.slice ao n c] 106))).odd2;obtain⟨e1,f1⟩:=g.out.odd2;obtain⟨e2,f2⟩:=i.out.odd2;go_enter func190,ntmps190
  go_wp2_with fail
  (try simp only[Exit.inBlock,Exit.then])
  refine bodyPost_ret (results_none rfl _ _ _) rfl ?_;exact⟨rfl,i.out,m.out⟩
 have q4:(k == 4)=false:=by rw[n7!];exact k4
 have q5:(k == 5)=false:=by rw[n7!];exact k5
 clear k4 k5;have q:=h! (Blk.made w #[.int .i64 k,.string ra,.string rb,.slice ao n c] 106);have f:=h! (q.out.other (a:=⟨wb,2,none⟩) j.out (.bool true));have o:=h! (f.out.other (a:=⟨wb,2,none⟩) j.out (.bool true));have g:=h! ((l.out.up ((Below.refl _ w).alloc (n0! _) (.cells #[.int .i64 k,.string ra,.string rb,.slice ao n c] 106))).flag true);have i:=h! (g.out.flag true);have m:=h! (pZ!.next (pZ!.next (pZ!.of ((Below.refl _ w).alloc (n0! _) (.cells #[.int .i64 k,.string ra,.string rb,.slice ao n c] 106)) p.out) (pZ!.flag (b:=wb) r.out (.bool true))) (pZ!.flag (b:=wb) r.out (.bool true)));have x0:=q.out.cells;have x1:=f.out.cells;have x2:=o.out.cells;obtain⟨e0,f0⟩:=(l.out.up ((Below.refl _ w).alloc (n0! _) (.cells #[.int .i64 k,.string ra,.string rb,.slice ao n c] 106))).odd2;obtain⟨e1,f1⟩:=g.out.odd2;obtain⟨e2,f2⟩:=i.out.odd2;go_enter func190,ntmps190
 go_wp2_with fail
 (try simp only[Exit.inBlock,Exit.then])
 refine bodyPost_ret (results_none rfl _ _ _) rfl ?_;exact⟨rfl,i.out,m.out⟩
theorem ot! {B wb:Nat}{text:ByteArray}{w:World}(k:Int)(ra rb:ByteArray)(n:Nat)(ao:Option Addr)(c:Nat)(d:Int)(h:WrB w B wb text false)(hBw:B<=w.heap.size)(q1:(k == 1)=false)(q2:(k == 2)=false)(q3:(k == 3)=false)(q4:(k == 4)=false)(q5:(k == 5)=false) :
  Calls prog 190 #[.pointer (some ⟨wb,0,none⟩),.agg #[.int .i64 k,.string ra,.string rb,.slice ao n c],.int .i64 d] w (WRes B wb w text (false) (⟨#[]⟩) (10+ra.size+rb.size)):=by
 have j:=h! h;have q:=h! h.1;have o:=h! hBw;have i:=h! (show w.heap.size≠wb from by have:=h.lt;omega);clear h hBw;have a5:(k != 2)=true:=by rw[bne,q2];rfl
 have a6:(k != 3)=true:=by rw[bne,q3];rfl
 by_cases hlp:0<n
 ·have a4:(0:Int)<(n:Int):=by omega
  clear hlp;have p:=h! (Blk.made w #[.int .i64 k,.string ra,.string rb,.slice ao n c] 106);have e:=h! (p.out.other (a:=⟨wb,2,none⟩) i.out (.bool true));have l:=h! (e.out.other (a:=⟨wb,2,none⟩) i.out (.bool true));have f:=h! ((j.out.up ((Below.refl _ w).alloc (n0! _) (.cells #[.int .i64 k,.string ra,.string rb,.slice ao n c] 106))).flag true);have g:=h! (f.out.flag true);have m:=h! (pZ!.next (pZ!.next (pZ!.of ((Below.refl _ w).alloc (n0! _) (.cells #[.int .i64 k,.string ra,.string rb,.slice ao n c] 106)) o.out) (pZ!.flag (b:=wb) q.out (.bool true))) (pZ!.flag (b:=wb) q.out (.bool true)));have x0:=p.out.cells;have x1:=e.out.cells;have x2:=l.out.cells;obtain⟨e0,f0⟩:=(j.out.up ((Below.refl _ w).alloc (n0! _) (.cells #[.int .i64 k,.string ra,.string rb,.slice ao n c] 106))).odd2;obtain⟨e1,f1⟩:=f.out.odd2;obtain⟨e2,f2⟩:=g.out.odd2;go_enter func190,ntmps190
  go_wp2_with fail
  (try simp only[Exit.inBlock,Exit.then])
  refine bodyPost_ret (results_none rfl _ _ _) rfl ?_;exact WRes.bad g.out m.out
 ·obtain rfl:n=0:=by omega
  clear hlp;by_cases hnrb:rb.size=0
  ·obtain rfl:=ae! hnrb;clear hnrb;by_cases hnra:ra.size=0
   ·obtain rfl:=ae! hnra;clear hnra;have p:=h! (Blk.made w #[.int .i64 k,.string ⟨#[]⟩,.string ⟨#[]⟩,.slice ao 0 c] 106);have e:=h! (p.out.other (a:=⟨wb,2,none⟩) i.out (.bool false));have l:=h! (e.out.other (a:=⟨wb,2,none⟩) i.out (.bool false));have f:=h! ((j.out.up ((Below.refl _ w).alloc (n0! _) (.cells #[.int .i64 k,.string ⟨#[]⟩,.string ⟨#[]⟩,.slice ao 0 c] 106))).flag false);have g:=h! (f.out.flag false);have a2:=h! (g.out.flag true);have a3:=h! (pZ!.next (pZ!.next (pZ!.next (pZ!.of ((Below.refl _ w).alloc (n0! _) (.cells #[.int .i64 k,.string ⟨#[]⟩,.string ⟨#[]⟩,.slice ao 0 c] 106)) o.out) (pZ!.flag (b:=wb) q.out (.bool false))) (pZ!.flag (b:=wb) q.out (.bool false))) (pZ!.flag (b:=wb) q.out (.bool true)));have x0:=p.out.cells;have x1:=e.out.cells;have x2:=l.out.cells;obtain⟨e0,f0⟩:=(j.out.up ((Below.refl _ w).alloc (n0! _) (.cells #[.int .i64 k,.string ⟨#[]⟩,.string ⟨#[]⟩,.slice ao 0 c] 106))).odd2;obtain⟨e1,f1⟩:=f.out.odd2;obtain⟨e2,f2⟩:=g.out.odd2;go_enter func190,ntmps190
    go_wp2_with fail
    go_end0
    exact WRes.bad a2.out a3.out
   ·have a1:=am! hnra;clear hnra;have p:=h! (Blk.made w #[.int .i64 k,.string ra,.string ⟨#[]⟩,.slice ao 0 c] 106);have e:=h! (p.out.other (a:=⟨wb,2,none⟩) i.out (.bool false));have l:=h! (e.out.other (a:=⟨wb,2,none⟩) i.out (.bool true));have f:=h! ((j.out.up ((Below.refl _ w).alloc (n0! _) (.cells #[.int .i64 k,.string ra,.string ⟨#[]⟩,.slice ao 0 c] 106))).flag false);have g:=h! (f.out.flag true);have m:=h! (pZ!.next (pZ!.next (pZ!.of ((Below.refl _ w).alloc (n0! _) (.cells #[.int .i64 k,.string ra,.string ⟨#[]⟩,.slice ao 0 c] 106)) o.out) (pZ!.flag (b:=wb) q.out (.bool false))) (pZ!.flag (b:=wb) q.out (.bool true)));have x0:=p.out.cells;have x1:=e.out.cells;have x2:=l.out.cells;obtain⟨e0,f0⟩:=(j.out.up ((Below.refl _ w).alloc (n0! _) (.cells #[.int .i64 k,.string ra,.string ⟨#[]⟩,.slice ao 0 c] 106))).odd2;obtain⟨e1,f1⟩:=f.out.odd2;obtain⟨e2,f2⟩:=g.out.odd2;go_enter func190,ntmps190
    go_wp2_with fail
    (try simp only[Exit.inBlock,Exit.then])
    refine bodyPost_ret (results_none rfl _ _ _) rfl ?_;exact WRes.bad g.out m.out
  ·have a0:=am! hnrb;clear hnrb;have p:=h! (Blk.made w #[.int .i64 k,.string ra,.string rb,.slice ao 0 c] 106);have e:=h! (p.out.other (a:=⟨wb,2,none⟩) i.out (.bool false));have l:=h! (e.out.other (a:=⟨wb,2,none⟩) i.out (.bool true));have f:=h! ((j.out.up ((Below.refl _ w).alloc (n0! _) (.cells #[.int .i64 k,.string ra,.string rb,.slice ao 0 c] 106))).flag false);have g:=h! (f.out.flag true);have m:=h! (pZ!.next (pZ!.next (pZ!.of ((Below.refl _ w).alloc (n0! _) (.cells #[.int .i64 k,.string ra,.string rb,.slice ao 0 c] 106)) o.out) (pZ!.flag (b:=wb) q.out (.bool false))) (pZ!.flag (b:=wb) q.out (.bool true)));have x0:=p.out.cells;have x1:=e.out.cells;have x2:=l.out.cells;obtain⟨e0,f0⟩:=(j.out.up ((Below.refl _ w).alloc (n0! _) (.cells #[.int .i64 k,.string ra,.string rb,.slice ao 0 c] 106))).odd2;obtain⟨e1,f1⟩:=f.out.odd2;obtain⟨e2,f2⟩:=g.out.odd2;go_enter func190,ntmps190
   go_wp2_with fail
   (try simp only[Exit.inBlock,Exit.then])
   refine bodyPost_ret (results_none rfl _ _ _) rfl ?_;exact WRes.bad g.out m.out
def sepT (k:Int):ByteArray:=if k=4 then⟨#[32,124,32]⟩else⟨#[32,38,32]⟩
mutual
def RT.text:RT->ByteArray
 | .mk k a b ps=>if k=1 then⟨#[116,104,105,115]⟩else if k=2 then a else if k=3 then(a++⟨#[45,62]⟩)++b else kg! k ps
def kg! (k:Int):List RT->ByteArray
 | []=>ByteArray.empty
 | p::ps=>(if k=5/\p.k=4 then⟨#[40]⟩++p.text++⟨#[41]⟩else p.text)++restT k ps
def restT (k:Int):List RT->ByteArray
 | []=>ByteArray.empty
 | p::ps=>sepT k++((if k=5/\p.k=4 then⟨#[40]⟩++p.text++⟨#[41]⟩else p.text)++restT k ps)
end
def txtP (k:Int)(p:RT):ByteArray:=if k=5/\p.k=4 then⟨#[40]⟩++p.text++⟨#[41]⟩else p.text
def joinT (k:Int)(ps:List RT):ByteArray:=kg! k ps
theorem fr! (k:Int)(p:RT):∀l:List RT,restT k (l++[p])=restT k l++sepT k++txtP k p
 | []=>by
  rw[y2!,restT,restT,restT,ByteArray.append_empty,ByteArray.empty_append];rfl
 | q::l=>by
  rw[x2!,restT,fr! k p l,restT];simp only[y1!]
theorem fG! (k:Int) {l:List RT}{i:Nat}(hi:i<l.length):joinT k (l.take (i+1))=if i=0 then txtP k l[i]else joinT k (l.take i)++sepT k++txtP k l[i]:=by
 rw[n2! hi];cases i with
 | zero =>
  rw[if_pos rfl,List.take_zero,y2!];unfold joinT;rw[kg!,restT,ByteArray.append_empty];rfl
 | succ i =>
  rw[if_neg (by omega)];cases l with
  | nil=>simp at hi
  | cons q l =>
   rw[List.take_succ_cons,x2!];unfold joinT;rw[kg!,kg!,fr!];simp only[y1!]
mutual
def RT.wt:RT->Nat | .mk _ a b ps=>10+a.size+b.size+wtL ps
def wtL:List RT->Nat | []=>0 | p::ps=>(8+p.wt)+wtL ps
end
theorem fb! (a b:List RT):wtL (a++b)=wtL a+wtL b:=by
 induction a with
 | nil=>simp[wtL]
 | cons x a ih=>rw[x2!,wtL,wtL,ih];omega
theorem et! {l:List RT}{i:Nat}(hi:i<l.length):wtL (l.take (i+1))=wtL (l.take i)+(8+l[i].wt):=by
 rw[n2! hi,fb!];simp[wtL]
theorem os! (l:List RT)(i:Nat):wtL (l.take i)<=wtL l:=by
 conv=>rhs;rw[<-x6! i l]
 rw[fb!];omega
theorem mV! {B wb:Nat}{text:ByteArray}{w:World}(ps:List RT)(d:Nat)(hd:d<=8)(pv:Value)(h:WrB w B wb text false)(hBw:B<=w.heap.size)(hat:RTAt (· < B) w (.mk 4 ⟨#[]⟩ ⟨#[]⟩ ps) pv)(hpos:0<text.size)(hlim:text.size+wtL ps<=1099511627776)
  (ih:∀p∈ps,∀(pv:Value) (d:Nat) (w:World) (text:ByteArray),RTAt (· < B) w p pv->text.size+p.wt<=1099511627776->0<text.size->d<=8->WrB w B wb text false->B<=w.heap.size->Calls prog 190 #[.pointer (some ⟨wb,0,none⟩),rV p pv,.int .i64 d] w (WRes B wb w text (p.textOk d) p.text p.wt)) :
  Calls prog 231 #[.pointer (some ⟨wb,0,none⟩),rV (.mk 4 ⟨#[]⟩ ⟨#[]⟩ ps) pv,.string ⟨#[32,124,32]⟩,.int .i64 d] w (WRes B wb w text (ps.all (goodP 4 d)) (joinT 4 ps) (wtL ps)):=by
 obtain⟨ao,c,rfl,aE,aK,z⟩:=hat.rows;dsimp only[RT.ps]at aE z ⊢;have HC:=h! z;have IH:=h! ih;have a0:=h! hpos;have HB:=h! h.1;have M:=h! hBw;have Q:=h! (show w.heap.size≠wb from by have:=h.lt;omega);have E:=h! hlim;have a6:=Blk.made w #[.int .i64 4,.string ⟨#[]⟩,.string ⟨#[]⟩,.slice ao ps.length c] 106;have am:=h! (h.up ((Below.refl _ w).alloc (n0! _) (.cells #[.int .i64 4,.string ⟨#[]⟩,.string ⟨#[]⟩,.slice ao ps.length c] 106)));have q:=h! (pZ!.of (b:=wb) ((Below.refl _ w).alloc (n0! _) (.cells #[.int .i64 4,.string ⟨#[]⟩,.string ⟨#[]⟩,.slice ao ps.length c] 106)) hBw);have aH:=a6.cells;unfold rV;dsimp only[RT.k,RT.a,RT.b];generalize hg:ps.all (goodP 4 d)=g;have HG:=h! hg.symm;clear hat z ih hpos h hBw hlim hg;go_enter func231,ntmps231
 go_wp2_with fail
 obtain⟨w1,aq⟩:=e! (w.alloc (.cells #[.int .i64 4,.string ⟨#[]⟩,.string ⟨#[]⟩,.slice ao ps.length c] 106));rw[<-aq]at a6 am q ⊢;have Y:=h! a6;clear aH aq a6;generalize hX:w.heap.size=X at *;have HX:=h! hX;have M:=h! (show B<=w.heap.size from by rw[HX.out];exact M.out);clear hX;go_loopw [13] (fun ii wr=>∃(i:Nat) (t:ByteArray) (o:Bool),i<=ps.length/\ii= .int .i64 i/\o=!((ps.take i).all (goodP 4 d))/\WrB wr B wb t o/\text.size<=t.size/\t.size<=text.size+wtL (ps.take i)/\(o=false->t=text++joinT 4 (ps.take i))/\pZ! B wb w1 wr) (fun ii _=>ps.length-(intOf ii).toNat)
 case atStart=>exact⟨0,text,false,by omega,rfl,rfl,am.out,n0! _,Nat.le_add_right _ _,fun _=>by rw[List.take_zero];exact(ByteArray.append_empty).symm,Kept.refl _ _⟩
 case round =>
  obtain⟨i,t,o,hi,rfl,ho,hw,O,N,hj,hk⟩:=hrel;have HO:=h! ho;have HW:=h! hw;have HJ:=h! hj;have HS:=h! (And.intro O N);clear am ho hw hj O N;by_cases hlt:i<ps.length
  ·have u:Below B w wr:=(pZ!.next q.out hk).below;have av:=h! (et! hlt);have I:=h! (show wtL (ps.take i)+(8+ps[i].wt)<=wtL ps from by have:=os! ps (i+1);rw[et! hlt]at this;exact this);have ax:=h! (fG! 4 hlt);have U:=fun(h:goodP 4 d ps[i]=false)=>(show g=false from by rw[HG.out];exact List.all_eq_false.2 ⟨ps[i],n5! hlt,by rw[h];exact Bool.false_ne_true⟩);have V:=h! (fun(h:goodP 4 d ps[i]=false)=>U h);have aD:=h! (show(ps.take (i+1)).all (goodP 4 d)=((ps.take i).all (goodP 4 d)&&goodP 4 d ps[i])from by rw[n2! hlt,List.all_append];simp);have m:=n5! hlt;obtain⟨bb,a8,aL,aF,hb,c0,c1,c2,c3,H⟩:=HC.out i hlt;cases aF;have ad:=(u.cell (p:=⟨bb,a8+i*4,none⟩) hb).trans c0;have ai:=(u.cell (p:=⟨bb,a8+i*4+1,none⟩) hb).trans c1;have al:=(u.cell (p:=⟨bb,a8+i*4+2,none⟩) hb).trans c2;have ag:=(u.cell (p:=⟨bb,a8+i*4+3,none⟩) hb).trans c3;obtain⟨ac,ak,rfl,-⟩:=H.rows;have ay:=h! H;clear c0 c1 c2 c3 H u U;generalize ps[i]=p at *;have a3:=h! (Blk.made wr #[.int .i64 p.k,.string p.a,.string p.b,.slice ac p.ps.length ak] 106);have T:=h! (show wr.heap.size≠wb from by have:=HW.out.lt;omega);have an:X<wr.heap.size:=n1! Y.out.lt hk.size;have aA:=h! (n6! M.out (by rw[HX.out];exact Nat.le_of_lt an));have F:=h! (pZ!.next hk (pZ!.of ((Below.refl _ wr).alloc (n0! _) (.cells #[.int .i64 p.k,.string p.a,.string p.b,.slice ac p.ps.length ak] 106)) aA.out));have Z:=h! (F.out.box Y.out (by decide) Q.out);have R:=h! (HW.out.up ((Below.refl _ wr).alloc (n0! _) (.cells #[.int .i64 p.k,.string p.a,.string p.b,.slice ac p.ps.length ak] 106)));have ae:=a3.out.cells;have aa:=Z.out.cells;clear hk;cases o with
   | true =>
    have j:(ps.take i).all (goodP 4 d)=false:=by have:=HO.out;simpa using this
    have a7:(0:Int)<(i:Int):=by
     have:i≠0:=fun h=>by rw[h]at j;simp at j
     omega
    have HF:=h! (show g=false from by
     rw[HG.out];have:=j;rw[<-x6! i ps,List.all_append,j];rfl)
    have a1:=h! (ab! ⟨#[32,124,32]⟩ R.out (by have:=HS.out;have:=E.out;have:=I.out;show _+3<=_;omega) (by show 0<_+3;omega) (n6! M.out (pZ!.next q.out F.out).size));rw[HF.out];clear j m;go_wp2_with fail
    refine a1.out.mono ?_;rintro e wB ⟨rfl,L,K⟩;have C:=h! (pZ!.next F.out (pZ!.next K (pZ!.flag (b:=wb) HB.out (.bool true))));have l:=h! (L.flag true);obtain⟨eb,fb⟩:=L.odd2;obtain⟨ec,fc⟩:=l.out.odd2;clear a1 L K ae aa ad ai al ag a7;go_wp2_with fail
    (try simp only[Exit.inBlock,Exit.then])
    refine bodyPost_ret (results_none rfl _ _ _) rfl ?_;exact⟨rfl,t++⟨#[32,124,32]⟩,l.out,(by rw[n3!];have:=HS.out;omega),(by rw[n3!];have:=HS.out;have:=I.out;show _+3<=_;omega),(fun h=>by cases h),pZ!.next q.out C.out⟩
   | false =>
    have j:(ps.take i).all (goodP 4 d)=true:=by have:=HO.out;simpa using this
    have aw:=h! (show(ps.take (i+1)).all (goodP 4 d)=goodP 4 d p from by rw[aD.out,j,Bool.true_and]);have ar:=h! (HJ.out rfl);clear j;by_cases hi0:i=0
    ·have a7:¬ ((0:Int)<(i:Int)):=by omega
     obtain⟨tB,J⟩:=e! t;have y:=h! (show text.size<=tB.size/\tB.size<=text.size+wtL (ps.take i)+3/\wtL (ps.take i)+(8+p.wt)<=wtL ps from by rw[J];have:=HS.out;have:=I.out;omega);have ap:=h! (show tB++txtP 4 p=text++joinT 4 (ps.take (i+1))from by rw[J,ar.out,ax.out,if_pos hi0,hi0,List.take_zero];show text++ByteArray.empty++_=_;rw[ByteArray.append_empty]);rw[<-J]at R;clear J hi0;have v:=h! R.out;have C:=h! F.out;have r:=h! a3.out;have s:=h! Z.out;clear R F a3 Z ae aa HW HJ HO;by_cases hkk:p.k=4
     ·have HF:=h! (V.out (by unfold goodP;simp[hkk]));obtain⟨pk,pa,pb,aG⟩:=p;dsimp only[RT.k,RT.a,RT.b,RT.ps]at *;subst hkk;have l:=h! (v.out.flag true);have D:=h! (r.out.other (a:=⟨wb,2,none⟩) T.out (.bool true));have A:=h! (s.out.other (a:=⟨wb,2,none⟩) Q.out (.bool true));have n:=h! (pZ!.next C.out (pZ!.flag (b:=wb) HB.out (.bool true)));have aC:=r.out.cells;have xb:=s.out.cells;have pc:=D.out.cells;have xc:=A.out.cells;obtain⟨eb,fb⟩:=v.out.odd2;obtain⟨ec,fc⟩:=l.out.odd2;clear m;go_wp2_with fail
      rw[HF.out];(try simp only[Exit.inBlock,Exit.then])
      refine bodyPost_ret (results_none rfl _ _ _) rfl ?_;exact⟨rfl,tB,l.out,(by have:=y.out;omega),(by have:=y.out;have:=I.out;omega),(fun h=>by cases h),pZ!.next q.out n.out⟩
     ·have aB:(p.k == 4)=false:=by rw[n7!];exact hkk
      have f:goodP 4 d p=p.textOk d:=by unfold goodP bS!;simp[hkk,hd]
      have l:=h! (v.out.flag false);have D:=h! (r.out.other (a:=⟨wb,2,none⟩) T.out (.bool false));have A:=h! (s.out.other (a:=⟨wb,2,none⟩) Q.out (.bool false));have n:=h! (pZ!.next C.out (pZ!.flag (b:=wb) HB.out (.bool false)));have pb:=r.out.cells;have xb:=s.out.cells;have pc:=D.out.cells;have xc:=A.out.cells;obtain⟨eb,fb⟩:=v.out.odd2;obtain⟨ec,fc⟩:=l.out.odd2;have HR:=h! (IH.out p m _ d _ tB (ay.out.same (Same.below (pZ!.next q.out n.out).below)) (by have:=y.out;have:=E.out;omega) (by have:=y.out;have:=a0.out;omega) hd l.out (n6! M.out (pZ!.next q.out n.out).size));unfold rV at HR;clear m;go_wp2_with fail
      refine HR.out.mono ?_;rintro e wD ⟨rfl,tD,a5,O,N,x,a2⟩;have af:=h! a5;have ab:=h! (pZ!.next n.out a2);have a4:=h! (show text.size<=tD.size/\tD.size<=text.size+wtL (ps.take (i+1))from by have:=y.out;have:=av.out;omega);have ah:=h! (show(!(p.textOk d))=!((ps.take (i+1)).all (goodP 4 d))from by rw[aw.out,f])
      have aj:=h! (show(!(p.textOk d))=false->tD=text++joinT 4 (ps.take (i+1))from fun h=>by
       rw[<-ap.out,x (by simpa using h)];unfold txtP;rw[if_neg (by simp)])
      clear pb xb pc xc eb fb ec fc;clear HR a5 O N x a2 v C r s l D A n f ad ai al ag;go_wp2_with fail
      go_roundw
      case rel=>exact⟨i+1,tD,_,by omega,by go_num,ah.out,af.out,a4.out.1,a4.out.2,aj.out,ab.out⟩
      case measure=>simp[intOf];omega
    ·have a7:(0:Int)<(i:Int):=by omega
     have a1:=h! (ab! ⟨#[32,124,32]⟩ R.out (by have:=HS.out;have:=E.out;have:=I.out;show _+3<=_;omega) (by show 0<_+3;omega) (n6! M.out (pZ!.next q.out F.out).size));have G:=h! (show t++⟨#[32,124,32]⟩++txtP 4 p=text++joinT 4 (ps.take (i+1))from by rw[ar.out,ax.out,if_neg hi0];simp only[y1!];rfl);clear hi0;go_wp2_with fail
     refine a1.out.mono ?_;rintro e wB ⟨rfl,L,K⟩;have C:=h! (pZ!.next F.out K);have r:=h! (K.box a3.out (by decide) T.out);have s:=h! (K.box Z.out (by decide) Q.out);have a9:(t++⟨#[32,124,32]⟩).size=t.size+3:=by rw[n3!];rfl
     obtain⟨tB,J⟩:=e! (t++⟨#[32,124,32]⟩);rw[<-J]at L G a9;have v:=h! L;have ap:=h! G.out;have y:=h! (show text.size<=tB.size/\tB.size<=text.size+wtL (ps.take i)+3/\wtL (ps.take i)+(8+p.wt)<=wtL ps from by rw[a9];have:=HS.out;have:=I.out;omega);clear a1 L K J a9 G R F a3 Z ae aa HW HJ HO a7;by_cases hkk:p.k=4
     ·have HF:=h! (V.out (by unfold goodP;simp[hkk]));obtain⟨pk,pa,pb,aG⟩:=p;dsimp only[RT.k,RT.a,RT.b,RT.ps]at *;subst hkk;have l:=h! (v.out.flag true);have D:=h! (r.out.other (a:=⟨wb,2,none⟩) T.out (.bool true));have A:=h! (s.out.other (a:=⟨wb,2,none⟩) Q.out (.bool true));have n:=h! (pZ!.next C.out (pZ!.flag (b:=wb) HB.out (.bool true)));have aC:=r.out.cells;have xb:=s.out.cells;have pc:=D.out.cells;have xc:=A.out.cells;obtain⟨eb,fb⟩:=v.out.odd2;obtain⟨ec,fc⟩:=l.out.odd2;clear m;go_wp2_with fail
      rw[HF.out];(try simp only[Exit.inBlock,Exit.then])
      refine bodyPost_ret (results_none rfl _ _ _) rfl ?_;exact⟨rfl,tB,l.out,(by have:=y.out;omega),(by have:=y.out;have:=I.out;omega),(fun h=>by cases h),pZ!.next q.out n.out⟩
     ·have aB:(p.k == 4)=false:=by rw[n7!];exact hkk
      have f:goodP 4 d p=p.textOk d:=by unfold goodP bS!;simp[hkk,hd]
      have l:=h! (v.out.flag false);have D:=h! (r.out.other (a:=⟨wb,2,none⟩) T.out (.bool false));have A:=h! (s.out.other (a:=⟨wb,2,none⟩) Q.out (.bool false));have n:=h! (pZ!.next C.out (pZ!.flag (b:=wb) HB.out (.bool false)));have pb:=r.out.cells;have xb:=s.out.cells;have pc:=D.out.cells;have xc:=A.out.cells;obtain⟨eb,fb⟩:=v.out.odd2;obtain⟨ec,fc⟩:=l.out.odd2;have HR:=h! (IH.out p m _ d _ tB (ay.out.same (Same.below (pZ!.next q.out n.out).below)) (by have:=y.out;have:=E.out;omega) (by have:=y.out;have:=a0.out;omega) hd l.out (n6! M.out (pZ!.next q.out n.out).size));unfold rV at HR;clear m;go_wp2_with fail
      refine HR.out.mono ?_;rintro e wD ⟨rfl,tD,a5,O,N,x,a2⟩;have af:=h! a5;have ab:=h! (pZ!.next n.out a2);have a4:=h! (show text.size<=tD.size/\tD.size<=text.size+wtL (ps.take (i+1))from by have:=y.out;have:=av.out;omega);have ah:=h! (show(!(p.textOk d))=!((ps.take (i+1)).all (goodP 4 d))from by rw[aw.out,f])
      have aj:=h! (show(!(p.textOk d))=false->tD=text++joinT 4 (ps.take (i+1))from fun h=>by
       rw[<-ap.out,x (by simpa using h)];unfold txtP;rw[if_neg (by simp)])
      clear pb xb pc xc eb fb ec fc;clear HR a5 O N x a2 v C r s l D A n f ad ai al ag;go_wp2_with fail
      go_roundw
      case rel=>exact⟨i+1,tD,_,by omega,by go_num,ah.out,af.out,a4.out.1,a4.out.2,aj.out,ab.out⟩
      case measure=>simp[intOf];omega
  ·obtain rfl:i=ps.length:=by omega
   rw[u2!]at HO HJ HS;have au:=h! (show(!g)=o from by rw[HG.out];exact HO.out.symm);have az:=h! (pZ!.next q.out hk);have aI:=h! (show g=true->t=text++joinT 4 ps from fun h=>HJ.out (by rw[<-au.out,h];rfl));have aJ:=h! HW.out;clear hk HJ HW HO;go_wp2_with fail
   go_end0
   exact⟨rfl,t,by rw[au.out];exact aJ.out,HS.out.1,HS.out.2,aI.out,az.out⟩
theorem hp! {B wb:Nat}{add:ByteArray}{wt:Nat}{text:ByteArray}{w:World}(ra rb:ByteArray)(n:Nat)(ao:Option Addr)(c:Nat)(d:Int)(h:WrB w B wb text false)(hBw:B<=w.heap.size)(hbad:¬ (ra.size=0/\rb.size=0/\2<=n)) :
  Calls prog 190 #[.pointer (some ⟨wb,0,none⟩),.agg #[.int .i64 4,.string ra,.string rb,.slice ao n c],.int .i64 d] w (WRes B wb w text (false) (add) (wt)):=by
 have j:=h! h;have p:=h! h.1;have m:=h! hBw;have i:=h! (show w.heap.size≠wb from by have:=h.lt;omega);clear h hBw;by_cases h0:n=0
 ·subst h0;clear hbad;have o:=h! (Blk.made w #[.int .i64 4,.string ra,.string rb,.slice ao 0 c] 106);have e:=h! (o.out.other (a:=⟨wb,2,none⟩) i.out (.bool true));have l:=h! (e.out.other (a:=⟨wb,2,none⟩) i.out (.bool true));have f:=h! ((j.out.up ((Below.refl _ w).alloc (n0! _) (.cells #[.int .i64 4,.string ra,.string rb,.slice ao 0 c] 106))).flag true);have g:=h! (f.out.flag true);have k:=h! (pZ!.next (pZ!.next (pZ!.of ((Below.refl _ w).alloc (n0! _) (.cells #[.int .i64 4,.string ra,.string rb,.slice ao 0 c] 106)) m.out) (pZ!.flag (b:=wb) p.out (.bool true))) (pZ!.flag (b:=wb) p.out (.bool true)));have x0:=o.out.cells;have x1:=e.out.cells;have x2:=l.out.cells;obtain⟨e0,f0⟩:=(j.out.up ((Below.refl _ w).alloc (n0! _) (.cells #[.int .i64 4,.string ra,.string rb,.slice ao 0 c] 106))).odd2;obtain⟨e1,f1⟩:=f.out.odd2;obtain⟨e2,f2⟩:=g.out.odd2;go_enter func190,ntmps190
  go_wp2_with fail
  (try simp only[Exit.inBlock,Exit.then])
  refine bodyPost_ret (results_none rfl _ _ _) rfl ?_;exact WRes.bad g.out k.out
 by_cases h1:n=1
 ·subst h1;clear hbad h0;have o:=h! (Blk.made w #[.int .i64 4,.string ra,.string rb,.slice ao 1 c] 106);have e:=h! (o.out.other (a:=⟨wb,2,none⟩) i.out (.bool true));have l:=h! (e.out.other (a:=⟨wb,2,none⟩) i.out (.bool true));have f:=h! ((j.out.up ((Below.refl _ w).alloc (n0! _) (.cells #[.int .i64 4,.string ra,.string rb,.slice ao 1 c] 106))).flag true);have g:=h! (f.out.flag true);have k:=h! (pZ!.next (pZ!.next (pZ!.of ((Below.refl _ w).alloc (n0! _) (.cells #[.int .i64 4,.string ra,.string rb,.slice ao 1 c] 106)) m.out) (pZ!.flag (b:=wb) p.out (.bool true))) (pZ!.flag (b:=wb) p.out (.bool true)));have x0:=o.out.cells;have x1:=e.out.cells;have x2:=l.out.cells;obtain⟨e0,f0⟩:=(j.out.up ((Below.refl _ w).alloc (n0! _) (.cells #[.int .i64 4,.string ra,.string rb,.slice ao 1 c] 106))).odd2;obtain⟨e1,f1⟩:=f.out.odd2;obtain⟨e2,f2⟩:=g.out.odd2;go_enter func190,ntmps190
  go_wp2_with fail
  (try simp only[Exit.inBlock,Exit.then])
  refine bodyPost_ret (results_none rfl _ _ _) rfl ?_;exact WRes.bad g.out k.out
 have a3:(0:Int)<(n:Int):=by omega
 have a2:¬ ((n:Int)<2):=by omega
 by_cases hnrb:rb.size=0
 ·obtain rfl:=ae! hnrb;clear hnrb;by_cases hnra:ra.size=0
  ·obtain rfl:=ae! hnra;clear hnra;exact absurd ⟨rfl,rfl,by omega⟩ hbad
  ·have a1:=am! hnra;clear hbad hnra h0 h1;have o:=h! (Blk.made w #[.int .i64 4,.string ra,.string ⟨#[]⟩,.slice ao n c] 106);have e:=h! (o.out.other (a:=⟨wb,2,none⟩) i.out (.bool false));have l:=h! (e.out.other (a:=⟨wb,2,none⟩) i.out (.bool true));have f:=h! ((j.out.up ((Below.refl _ w).alloc (n0! _) (.cells #[.int .i64 4,.string ra,.string ⟨#[]⟩,.slice ao n c] 106))).flag false);have g:=h! (f.out.flag true);have k:=h! (pZ!.next (pZ!.next (pZ!.of ((Below.refl _ w).alloc (n0! _) (.cells #[.int .i64 4,.string ra,.string ⟨#[]⟩,.slice ao n c] 106)) m.out) (pZ!.flag (b:=wb) p.out (.bool false))) (pZ!.flag (b:=wb) p.out (.bool true)));have x0:=o.out.cells;have x1:=e.out.cells;have x2:=l.out.cells;obtain⟨e0,f0⟩:=(j.out.up ((Below.refl _ w).alloc (n0! _) (.cells #[.int .i64 4,.string ra,.string ⟨#[]⟩,.slice ao n c] 106))).odd2;obtain⟨e1,f1⟩:=f.out.odd2;obtain⟨e2,f2⟩:=g.out.odd2;go_enter func190,ntmps190
   go_wp2_with fail
   (try simp only[Exit.inBlock,Exit.then])
   refine bodyPost_ret (results_none rfl _ _ _) rfl ?_;exact WRes.bad g.out k.out
 ·have a0:=am! hnrb;clear hbad hnrb h0 h1;have o:=h! (Blk.made w #[.int .i64 4,.string ra,.string rb,.slice ao n c] 106);have e:=h! (o.out.other (a:=⟨wb,2,none⟩) i.out (.bool false));have l:=h! (e.out.other (a:=⟨wb,2,none⟩) i.out (.bool true));have f:=h! ((j.out.up ((Below.refl _ w).alloc (n0! _) (.cells #[.int .i64 4,.string ra,.string rb,.slice ao n c] 106))).flag false);have g:=h! (f.out.flag true);have k:=h! (pZ!.next (pZ!.next (pZ!.of ((Below.refl _ w).alloc (n0! _) (.cells #[.int .i64 4,.string ra,.string rb,.slice ao n c] 106)) m.out) (pZ!.flag (b:=wb) p.out (.bool false))) (pZ!.flag (b:=wb) p.out (.bool true)));have x0:=o.out.cells;have x1:=e.out.cells;have x2:=l.out.cells;obtain⟨e0,f0⟩:=(j.out.up ((Below.refl _ w).alloc (n0! _) (.cells #[.int .i64 4,.string ra,.string rb,.slice ao n c] 106))).odd2;obtain⟨e1,f1⟩:=f.out.odd2;obtain⟨e2,f2⟩:=g.out.odd2;go_enter func190,ntmps190
  go_wp2_with fail
  (try simp only[Exit.inBlock,Exit.then])
  refine bodyPost_ret (results_none rfl _ _ _) rfl ?_;exact WRes.bad g.out k.out
theorem mT! {B wb:Nat}{text:ByteArray}{w:World}(ps:List RT)(d:Nat)(hd:d<=8)(pv:Value)(h:WrB w B wb text false)(hBw:B<=w.heap.size)(hat:RTAt (· < B) w (.mk 4 ⟨#[]⟩ ⟨#[]⟩ ps) pv)(hpos:0<text.size)(hlim:text.size+wtL ps<=1099511627776)(h2:2<=ps.length)
  (ih:∀p∈ps,∀(pv:Value) (d:Nat) (w:World) (text:ByteArray),RTAt (· < B) w p pv->text.size+p.wt<=1099511627776->0<text.size->d<=8->WrB w B wb text false->B<=w.heap.size->Calls prog 190 #[.pointer (some ⟨wb,0,none⟩),rV p pv,.int .i64 d] w (WRes B wb w text (p.textOk d) p.text p.wt)) :
  Calls prog 190 #[.pointer (some ⟨wb,0,none⟩),rV (.mk 4 ⟨#[]⟩ ⟨#[]⟩ ps) pv,.int .i64 d] w (WRes B wb w text (ps.all (goodP 4 d)) (joinT 4 ps) (wtL ps)):=by
 have y:=h! hat;obtain⟨C,c,rfl,-⟩:=hat.rows;have IH:=h! ih;have n:=h! hpos;have HD:=h! hd;have i:=h! hlim;unfold rV;dsimp only[RT.k,RT.a,RT.b,RT.ps]at y ⊢;have a3:(0:Int)<(ps.length:Int):=by omega
 have a2:¬ ((ps.length:Int)<2):=by omega
 clear hat ih hpos hlim h2 hd;have z:=h! h;have HB:=h! h.1;have r:=h! hBw;have t:=h! (show w.heap.size≠wb from by have:=h.lt;omega);clear h hBw;have HX:=h! (Blk.made w #[.int .i64 4,.string ⟨#[]⟩,.string ⟨#[]⟩,.slice C ps.length c] 106);have j:=h! (HX.out.other (a:=⟨wb,2,none⟩) t.out (.bool false));have x:=h! (j.out.other (a:=⟨wb,2,none⟩) t.out (.bool false));have l:=h! ((z.out.up ((Below.refl _ w).alloc (n0! _) (.cells #[.int .i64 4,.string ⟨#[]⟩,.string ⟨#[]⟩,.slice C ps.length c] 106))).flag false);have m:=h! (l.out.flag false);have g:=h! (pZ!.next (pZ!.next (pZ!.of ((Below.refl _ w).alloc (n0! _) (.cells #[.int .i64 4,.string ⟨#[]⟩,.string ⟨#[]⟩,.slice C ps.length c] 106)) r.out) (pZ!.flag (b:=wb) HB.out (.bool false))) (pZ!.flag (b:=wb) HB.out (.bool false)));have x0:=HX.out.cells;have x1:=j.out.cells;have x2:=x.out.cells;obtain⟨e0,f0⟩:=(z.out.up ((Below.refl _ w).alloc (n0! _) (.cells #[.int .i64 4,.string ⟨#[]⟩,.string ⟨#[]⟩,.slice C ps.length c] 106))).odd2;obtain⟨e1,f1⟩:=l.out.odd2;obtain⟨e2,f2⟩:=m.out.odd2;go_enter func190,ntmps190
 go_wp2_with fail
 obtain⟨w3,o⟩:=e! (((w.alloc (.cells #[.int .i64 4,.string ⟨#[]⟩,.string ⟨#[]⟩,.slice C ps.length c] 106)).setCell ⟨wb,2,none⟩ (.bool false)).setCell ⟨wb,2,none⟩ (.bool false));rw[<-o]at x m g ⊢;clear o HX j l x0 x1 x2 e0 e1 e2 f0 f1 f2;have a0:=h! (n6! r.out g.out.size);have A:=h! (mV! ps d HD.out _ m.out a0.out (y.out.same (Same.below g.out.below)) n.out i.out IH.out);unfold rV at A;dsimp only[RT.k,RT.a,RT.b]at A;refine A.out.mono ?_;rintro e w4 ⟨rfl,t4,q,v,u,f,s⟩;have a1:Hid (WRes B wb w text (ps.all (goodP 4 d)) (joinT 4 ps) (wtL ps) (.returned (.tuple #[])) w4):=h! ⟨rfl,t4,q,v,u,f,pZ!.next g.out s⟩;clear A q v u f s;go_wp2_with fail
 go_end0
 exact a1.out
theorem mU! {B wb:Nat}{text:ByteArray}{w:World}(ps:List RT)(d:Nat)(hd:d<=8)(pv:Value)(h:WrB w B wb text false)(hBw:B<=w.heap.size)(hat:RTAt (· < B) w (.mk 5 ⟨#[]⟩ ⟨#[]⟩ ps) pv)(hpos:0<text.size)(hlim:text.size+wtL ps<=1099511627776)
  (ih:∀p∈ps,∀(pv:Value) (d:Nat) (w:World) (text:ByteArray),RTAt (· < B) w p pv->text.size+p.wt<=1099511627776->0<text.size->d<=8->WrB w B wb text false->B<=w.heap.size->Calls prog 190 #[.pointer (some ⟨wb,0,none⟩),rV p pv,.int .i64 d] w (WRes B wb w text (p.textOk d) p.text p.wt)) :
  Calls prog 231 #[.pointer (some ⟨wb,0,none⟩),rV (.mk 5 ⟨#[]⟩ ⟨#[]⟩ ps) pv,.string ⟨#[32,38,32]⟩,.int .i64 d] w (WRes B wb w text (ps.all (goodP 5 d)) (joinT 5 ps) (wtL ps)):=by
 obtain⟨ao,c,rfl,aW,b1,a1⟩:=hat.rows;dsimp only[RT.ps]at aW a1 ⊢;have HC:=h! a1;have IH:=h! ih;have a4:=h! hpos;have HB:=h! h.1;have F:=h! hBw;have a5:=h! (show w.heap.size≠wb from by have:=h.lt;omega);have m:=h! hlim;have aB:=Blk.made w #[.int .i64 5,.string ⟨#[]⟩,.string ⟨#[]⟩,.slice ao ps.length c] 106;have aO:=h! (h.up ((Below.refl _ w).alloc (n0! _) (.cells #[.int .i64 5,.string ⟨#[]⟩,.string ⟨#[]⟩,.slice ao ps.length c] 106)));have n:=h! (pZ!.of (b:=wb) ((Below.refl _ w).alloc (n0! _) (.cells #[.int .i64 5,.string ⟨#[]⟩,.string ⟨#[]⟩,.slice ao ps.length c] 106)) hBw);have aY:=aB.cells;unfold rV;dsimp only[RT.k,RT.a,RT.b];generalize hg:ps.all (goodP 5 d)=g;have HG:=h! hg.symm;clear hat a1 ih hpos h hBw hlim hg;go_enter func231,ntmps231
 go_wp2_with fail
 obtain⟨w1,aQ⟩:=e! (w.alloc (.cells #[.int .i64 5,.string ⟨#[]⟩,.string ⟨#[]⟩,.slice ao ps.length c] 106));rw[<-aQ]at aB aO n ⊢;have au:=h! aB;clear aY aQ aB;generalize hX:w.heap.size=X at *;have HX:=h! hX;have F:=h! (show B<=w.heap.size from by rw[HX.out];exact F.out);clear hX;go_loopw [13] (fun ii wr=>∃(i:Nat) (t:ByteArray) (o:Bool),i<=ps.length/\ii= .int .i64 i/\o=!((ps.take i).all (goodP 5 d))/\WrB wr B wb t o/\text.size<=t.size/\t.size<=text.size+wtL (ps.take i)/\(o=false->t=text++joinT 5 (ps.take i))/\pZ! B wb w1 wr) (fun ii _=>ps.length-(intOf ii).toNat)
 case atStart=>exact⟨0,text,false,by omega,rfl,rfl,aO.out,n0! _,Nat.le_add_right _ _,fun _=>by rw[List.take_zero];exact(ByteArray.append_empty).symm,Kept.refl _ _⟩
 case round =>
  obtain⟨i,t,o,hi,rfl,ho,hw,N,M,hj,hk⟩:=hrel;have HO:=h! ho;have HW:=h! hw;have HJ:=h! hj;have HS:=h! (And.intro N M);clear aO ho hw hj N M;by_cases hlt:i<ps.length
  ·have Y:Below B w wr:=(pZ!.next n.out hk).below;have ak:=h! (et! hlt);have aa:=h! (show wtL (ps.take i)+(8+ps[i].wt)<=wtL ps from by have:=os! ps (i+1);rw[et! hlt]at this;exact this);have aT:=h! (fG! 5 hlt);have aq:=fun(h:goodP 5 d ps[i]=false)=>(show g=false from by rw[HG.out];exact List.all_eq_false.2 ⟨ps[i],n5! hlt,by rw[h];exact Bool.false_ne_true⟩);have ar:=h! (fun(h:goodP 5 d ps[i]=false)=>aq h);have aV:=h! (show(ps.take (i+1)).all (goodP 5 d)=((ps.take i).all (goodP 5 d)&&goodP 5 d ps[i])from by rw[n2! hlt,List.all_append];simp);have y:=n5! hlt;obtain⟨bb,aD,b2,aX,hb,c0,c1,c2,c3,a8⟩:=HC.out i hlt;cases aX;have ac:=(Y.cell (p:=⟨bb,aD+i*4,none⟩) hb).trans c0;have af:=(Y.cell (p:=⟨bb,aD+i*4+1,none⟩) hb).trans c1;have aj:=(Y.cell (p:=⟨bb,aD+i*4+2,none⟩) hb).trans c2;have ad:=(Y.cell (p:=⟨bb,aD+i*4+3,none⟩) hb).trans c3;obtain⟨ap,ax,rfl,-⟩:=a8.rows;have aE:=h! a8;clear c0 c1 c2 c3 a8 Y aq;generalize ps[i]=p at *;have ay:=h! (Blk.made wr #[.int .i64 p.k,.string p.a,.string p.b,.slice ap p.ps.length ax] 106);have K:=h! (show wr.heap.size≠wb from by have:=HW.out.lt;omega);have aP:X<wr.heap.size:=n1! au.out.lt hk.size;have aU:=h! (n6! F.out (by rw[HX.out];exact Nat.le_of_lt aP));have a6:=h! (pZ!.next hk (pZ!.of ((Below.refl _ wr).alloc (n0! _) (.cells #[.int .i64 p.k,.string p.a,.string p.b,.slice ap p.ps.length ax] 106)) aU.out));have av:=h! (a6.out.box au.out (by decide) a5.out);have am:=h! (HW.out.up ((Below.refl _ wr).alloc (n0! _) (.cells #[.int .i64 p.k,.string p.a,.string p.b,.slice ap p.ps.length ax] 106)));have aI:=ay.out.cells;have aH:=av.out.cells;clear hk;cases o with
   | true =>
    have E:(ps.take i).all (goodP 5 d)=false:=by have:=HO.out;simpa using this
    have aC:(0:Int)<(i:Int):=by
     have:i≠0:=fun h=>by rw[h]at E;simp at E
     omega
    have HF:=h! (show g=false from by
     rw[HG.out];have:=E;rw[<-x6! i ps,List.all_append,E];rfl)
    have aw:=h! (ab! ⟨#[32,38,32]⟩ am.out (by have:=HS.out;have:=m.out;have:=aa.out;show _+3<=_;omega) (by show 0<_+3;omega) (n6! F.out (pZ!.next n.out a6.out).size));rw[HF.out];clear E y;go_wp2_with fail
    refine aw.out.mono ?_;rintro e wB ⟨rfl,ai,ae⟩;have G:=h! (pZ!.next a6.out (pZ!.next ae (pZ!.flag (b:=wb) HB.out (.bool true))));have j:=h! (ai.flag true);obtain⟨eb,fb⟩:=ai.odd2;obtain⟨ec,fc⟩:=j.out.odd2;clear aw ai ae aI aH ac af aj ad aC;go_wp2_with fail
    (try simp only[Exit.inBlock,Exit.then])
    refine bodyPost_ret (results_none rfl _ _ _) rfl ?_;exact⟨rfl,t++⟨#[32,38,32]⟩,j.out,(by rw[n3!];have:=HS.out;omega),(by rw[n3!];have:=HS.out;have:=aa.out;show _+3<=_;omega),(fun h=>by cases h),pZ!.next n.out G.out⟩
   | false =>
    have E:(ps.take i).all (goodP 5 d)=true:=by have:=HO.out;simpa using this
    have al:=h! (show(ps.take (i+1)).all (goodP 5 d)=goodP 5 d p from by rw[aV.out,E,Bool.true_and]);have aR:=h! (HJ.out rfl);clear E;by_cases hi0:i=0
    ·have aC:¬ ((0:Int)<(i:Int)):=by omega
     obtain⟨tB,ab⟩:=e! t;have l:=h! (show text.size<=tB.size/\tB.size<=text.size+wtL (ps.take i)+3/\wtL (ps.take i)+(8+p.wt)<=wtL ps from by rw[ab];have:=HS.out;have:=aa.out;omega);have aA:=h! (show tB++txtP 5 p=text++joinT 5 (ps.take (i+1))from by rw[ab,aR.out,aT.out,if_pos hi0,hi0,List.take_zero];show text++ByteArray.empty++_=_;rw[ByteArray.append_empty]);rw[<-ab]at am;clear ab hi0;have z:=h! am.out;have G:=h! a6.out;have u:=h! ay.out;have x:=h! av.out;clear am a6 ay av aI aH HW HJ HO;by_cases hkk:p.k=5
     ·have HF:=h! (ar.out (by unfold goodP;simp[hkk]));obtain⟨pk,pa,pb,D⟩:=p;dsimp only[RT.k,RT.a,RT.b,RT.ps]at *;subst hkk;have j:=h! (z.out.flag true);have v:=h! (u.out.other (a:=⟨wb,2,none⟩) K.out (.bool true));have C:=h! (x.out.other (a:=⟨wb,2,none⟩) a5.out (.bool true));have q:=h! (pZ!.next G.out (pZ!.flag (b:=wb) HB.out (.bool true)));have an:=u.out.cells;have xb:=x.out.cells;have pc:=v.out.cells;have xc:=C.out.cells;obtain⟨eb,fb⟩:=z.out.odd2;obtain⟨ec,fc⟩:=j.out.odd2;clear y;go_wp2_with fail
      rw[HF.out];(try simp only[Exit.inBlock,Exit.then])
      refine bodyPost_ret (results_none rfl _ _ _) rfl ?_;exact⟨rfl,tB,j.out,(by have:=l.out;omega),(by have:=l.out;have:=aa.out;omega),(fun h=>by cases h),pZ!.next n.out q.out⟩
     ·have aG:(p.k == 5)=false:=by rw[n7!];exact hkk
      by_cases hk4:p.k=4
      ·clear aG hkk;obtain⟨pk,pa,pb,D⟩:=p;dsimp only[RT.k,RT.a,RT.b,RT.ps]at *;subst hk4;have j:=h! (z.out.flag false);have v:=h! (u.out.other (a:=⟨wb,2,none⟩) K.out (.bool false));have C:=h! (x.out.other (a:=⟨wb,2,none⟩) a5.out (.bool false));have q:=h! (pZ!.next G.out (pZ!.flag (b:=wb) HB.out (.bool false)));have an:=u.out.cells;have xb:=x.out.cells;have pc:=v.out.cells;have xc:=C.out.cells;obtain⟨eb,fb⟩:=z.out.odd2;obtain⟨ec,fc⟩:=j.out.odd2;have HS:=h! (ab! ⟨#[40]⟩ j.out (by have:=l.out;have:=m.out;show _+1<=_;omega) (by show 0<_+1;omega) (n6! F.out (pZ!.next n.out q.out).size));go_wp2_with fail
       refine HS.out.mono ?_;rintro e wD ⟨rfl,A,L⟩;have J:=h! (pZ!.next q.out L);have I:=h! (L.box v.out (by decide) K.out);clear an xb pc xc eb fb ec fc;clear HS L;by_cases hd8:d=8
       ·have f:goodP 5 d (.mk 4 pa pb D)=false:=by unfold goodP bS!;simp[RT.k,hd8]
        have aK:((d:Int) == 8)=true:=by rw[beq_iff_eq];omega
        clear hd8;have H:=h! (A.flag true);have a0:=h! (I.out.other (a:=⟨wb,2,none⟩) K.out (.bool true));have s:=h! (pZ!.next J.out (pZ!.flag (b:=wb) HB.out (.bool true)));have ag:=h! (n6! F.out (pZ!.next n.out s.out).size);have HR:=h! (eu! (d:=(d:Int)+1) 4 pa pb D.length ap ax H.out ag.out);have pd:=I.out.cells;have pe:=a0.out.cells;obtain⟨ed,fd⟩:=A.odd2;obtain⟨ee,fe⟩:=H.out.odd2;clear A;go_wp2_with fail
        refine HR.out.mono ?_;rintro e wF ⟨rfl,a2,a3⟩;have O:=h! (pZ!.next s.out a3);have T:=h! (ab! ⟨#[41]⟩ a2 (by have:=l.out;have:=m.out;rw[n3!];show _+1+1<=_;omega) (by rw[n3!];show 0<_+1;omega) (n6! F.out (pZ!.next n.out O.out).size))
        have Q:=h! (show text.size<=(tB++⟨#[40]⟩++⟨#[41]⟩).size/\(tB++⟨#[40]⟩++⟨#[41]⟩).size<=text.size+wtL (ps.take (i+1))from by
         have:=l.out;have:=ak.out;simp only[n3!];rw[show(⟨#[40]⟩:ByteArray).size=1 from rfl,show(⟨#[41]⟩:ByteArray).size=1 from rfl];omega)
        have U:=h! (show true=!((ps.take (i+1)).all (goodP 5 d))from by rw[al.out,f];rfl);have V:Hid (true=false->(tB++⟨#[40]⟩++⟨#[41]⟩)=text++joinT 5 (ps.take (i+1))):=h! (fun h=>by cases h);clear a2 a3;clear HR pd pe ed ee fd fe;go_wp2_with fail
        refine T.out.mono ?_;rintro e wG ⟨rfl,R,Z⟩;have ah:=h! R;have a9:=h! (pZ!.next O.out Z);clear T R Z z G u x j v C q I J H a0 s f ac af aj ad;go_wp2_with fail
        go_roundw
        case rel=>exact⟨i+1,(tB++⟨#[40]⟩++⟨#[41]⟩),_,by omega,by go_num,U.out,ah.out,Q.out.1,Q.out.2,V.out,a9.out⟩
        case measure=>simp[intOf];omega
       ·have aN:d+1<=8:=by omega
        have f:goodP 5 d (.mk 4 pa pb D)=(RT.mk 4 pa pb D).textOk (d+1):=by unfold goodP bS!;simp[RT.k,aN]
        have aM:¬ ((d:Int)=8):=by omega
        have aK:((d:Int) == 8)=false:=by rw[n7!];exact aM
        have H:=h! (A.flag false);have a0:=h! (I.out.other (a:=⟨wb,2,none⟩) K.out (.bool false));have s:=h! (pZ!.next J.out (pZ!.flag (b:=wb) HB.out (.bool false)));have ag:=h! (n6! F.out (pZ!.next n.out s.out).size);have HR:=h! (IH.out (.mk 4 pa pb D) y _ (d+1) _ (tB++⟨#[40]⟩) (aE.out.same (Same.below (pZ!.next n.out s.out).below)) (by have:=l.out;have:=m.out;rw[n3!];show _+1+_<=_;omega) (by have:=l.out;have:=a4.out;rw[n3!];omega) (by omega) H.out ag.out);unfold rV at HR;dsimp only[RT.k,RT.a,RT.b,RT.ps]at HR;rw[show((d+1:Nat):Int)=(d:Int)+1 from rfl]at HR;have pd:=I.out.cells;have pe:=a0.out.cells;obtain⟨ed,fd⟩:=A.odd2;obtain⟨ee,fe⟩:=H.out.odd2;clear A;go_wp2_with fail
        refine HR.out.mono ?_;rintro e wF ⟨rfl,tF,a2,N,M,r,a3⟩;have O:=h! (pZ!.next s.out a3);rw[n3!,show(⟨#[40]⟩:ByteArray).size=1 from rfl]at N M;have T:=h! (ab! ⟨#[41]⟩ a2 (by have:=l.out;have:=m.out;show _+1<=_;omega) (by show 0<_+1;omega) (n6! F.out (pZ!.next n.out O.out).size))
        have Q:=h! (show text.size<=(tF++⟨#[41]⟩).size/\(tF++⟨#[41]⟩).size<=text.size+wtL (ps.take (i+1))from by
         have:=l.out;have:=ak.out;simp only[n3!];rw[show(⟨#[41]⟩:ByteArray).size=1 from rfl];omega)
        have U:=h! (show(!((RT.mk 4 pa pb D).textOk (d+1)))=!((ps.take (i+1)).all (goodP 5 d))from by rw[al.out,f])
        have V:=h! (show(!((RT.mk 4 pa pb D).textOk (d+1)))=false->(tF++⟨#[41]⟩)=text++joinT 5 (ps.take (i+1))from fun h=>by
         rw[<-aA.out,r (by simpa using h)];unfold txtP;rw[if_pos ⟨rfl,rfl⟩];simp only[y1!])
        clear a2 a3 N M r;clear HR pd pe ed ee fd fe;go_wp2_with fail
        refine T.out.mono ?_;rintro e wG ⟨rfl,R,Z⟩;have ah:=h! R;have a9:=h! (pZ!.next O.out Z);clear T R Z z G u x j v C q I J H a0 s f ac af aj ad;go_wp2_with fail
        go_roundw
        case rel=>exact⟨i+1,(tF++⟨#[41]⟩),_,by omega,by go_num,U.out,ah.out,Q.out.1,Q.out.2,V.out,a9.out⟩
        case measure=>simp[intOf];omega
      ·have aL:(p.k != 4)=true:=by rw[bne_iff_ne];exact hk4
       have f:goodP 5 d p=p.textOk d:=by unfold goodP bS!;simp[hkk,hd,hk4]
       have j:=h! (z.out.flag false);have v:=h! (u.out.other (a:=⟨wb,2,none⟩) K.out (.bool false));have C:=h! (x.out.other (a:=⟨wb,2,none⟩) a5.out (.bool false));have q:=h! (pZ!.next G.out (pZ!.flag (b:=wb) HB.out (.bool false)));have pb:=u.out.cells;have xb:=x.out.cells;have pc:=v.out.cells;have xc:=C.out.cells;obtain⟨eb,fb⟩:=z.out.odd2;obtain⟨ec,fc⟩:=j.out.odd2;have HR:=h! (IH.out p y _ d _ tB (aE.out.same (Same.below (pZ!.next n.out q.out).below)) (by have:=l.out;have:=m.out;omega) (by have:=l.out;have:=a4.out;omega) hd j.out (n6! F.out (pZ!.next n.out q.out).size));unfold rV at HR;clear y;go_wp2_with fail
       refine HR.out.mono ?_;rintro e wD ⟨rfl,tD,A,N,M,r,L⟩;have aJ:=h! A;have J:=h! (pZ!.next q.out L);have az:=h! (show text.size<=tD.size/\tD.size<=text.size+wtL (ps.take (i+1))from by have:=l.out;have:=ak.out;omega);have U:=h! (show(!(p.textOk d))=!((ps.take (i+1)).all (goodP 5 d))from by rw[al.out,f])
       have V:=h! (show(!(p.textOk d))=false->tD=text++joinT 5 (ps.take (i+1))from fun h=>by
        rw[<-aA.out,r (by simpa using h)];unfold txtP;rw[if_neg (by simp[hk4])])
       clear pb xb pc xc eb fb ec fc;clear HR A N M r L z G u x j v C q f ac af aj ad;go_wp2_with fail
       go_roundw
       case rel=>exact⟨i+1,tD,_,by omega,by go_num,U.out,aJ.out,az.out.1,az.out.2,V.out,J.out⟩
       case measure=>simp[intOf];omega
    ·have aC:(0:Int)<(i:Int):=by omega
     have aw:=h! (ab! ⟨#[32,38,32]⟩ am.out (by have:=HS.out;have:=m.out;have:=aa.out;show _+3<=_;omega) (by show 0<_+3;omega) (n6! F.out (pZ!.next n.out a6.out).size));have a7:=h! (show t++⟨#[32,38,32]⟩++txtP 5 p=text++joinT 5 (ps.take (i+1))from by rw[aR.out,aT.out,if_neg hi0];simp only[y1!];rfl);clear hi0;go_wp2_with fail
     refine aw.out.mono ?_;rintro e wB ⟨rfl,ai,ae⟩;have G:=h! (pZ!.next a6.out ae);have u:=h! (ae.box ay.out (by decide) K.out);have x:=h! (ae.box av.out (by decide) a5.out);have aF:(t++⟨#[32,38,32]⟩).size=t.size+3:=by rw[n3!];rfl
     obtain⟨tB,ab⟩:=e! (t++⟨#[32,38,32]⟩);rw[<-ab]at ai a7 aF;have z:=h! ai;have aA:=h! a7.out;have l:=h! (show text.size<=tB.size/\tB.size<=text.size+wtL (ps.take i)+3/\wtL (ps.take i)+(8+p.wt)<=wtL ps from by rw[aF];have:=HS.out;have:=aa.out;omega);clear aw ai ae ab aF a7 am a6 ay av aI aH HW HJ HO aC;by_cases hkk:p.k=5
     ·have HF:=h! (ar.out (by unfold goodP;simp[hkk]));obtain⟨pk,pa,pb,D⟩:=p;dsimp only[RT.k,RT.a,RT.b,RT.ps]at *;subst hkk;have j:=h! (z.out.flag true);have v:=h! (u.out.other (a:=⟨wb,2,none⟩) K.out (.bool true));have C:=h! (x.out.other (a:=⟨wb,2,none⟩) a5.out (.bool true));have q:=h! (pZ!.next G.out (pZ!.flag (b:=wb) HB.out (.bool true)));have an:=u.out.cells;have xb:=x.out.cells;have pc:=v.out.cells;have xc:=C.out.cells;obtain⟨eb,fb⟩:=z.out.odd2;obtain⟨ec,fc⟩:=j.out.odd2;clear y;go_wp2_with fail
      rw[HF.out];(try simp only[Exit.inBlock,Exit.then])
      refine bodyPost_ret (results_none rfl _ _ _) rfl ?_;exact⟨rfl,tB,j.out,(by have:=l.out;omega),(by have:=l.out;have:=aa.out;omega),(fun h=>by cases h),pZ!.next n.out q.out⟩
     ·have aG:(p.k == 5)=false:=by rw[n7!];exact hkk
      by_cases hk4:p.k=4
      ·clear aG hkk;obtain⟨pk,pa,pb,D⟩:=p;dsimp only[RT.k,RT.a,RT.b,RT.ps]at *;subst hk4;have j:=h! (z.out.flag false);have v:=h! (u.out.other (a:=⟨wb,2,none⟩) K.out (.bool false));have C:=h! (x.out.other (a:=⟨wb,2,none⟩) a5.out (.bool false));have q:=h! (pZ!.next G.out (pZ!.flag (b:=wb) HB.out (.bool false)));have an:=u.out.cells;have xb:=x.out.cells;have pc:=v.out.cells;have xc:=C.out.cells;obtain⟨eb,fb⟩:=z.out.odd2;obtain⟨ec,fc⟩:=j.out.odd2;have HS:=h! (ab! ⟨#[40]⟩ j.out (by have:=l.out;have:=m.out;show _+1<=_;omega) (by show 0<_+1;omega) (n6! F.out (pZ!.next n.out q.out).size));go_wp2_with fail
       refine HS.out.mono ?_;rintro e wD ⟨rfl,A,L⟩;have J:=h! (pZ!.next q.out L);have I:=h! (L.box v.out (by decide) K.out);clear an xb pc xc eb fb ec fc;clear HS L;by_cases hd8:d=8
       ·have f:goodP 5 d (.mk 4 pa pb D)=false:=by unfold goodP bS!;simp[RT.k,hd8]
        have aK:((d:Int) == 8)=true:=by rw[beq_iff_eq];omega
        clear hd8;have H:=h! (A.flag true);have a0:=h! (I.out.other (a:=⟨wb,2,none⟩) K.out (.bool true));have s:=h! (pZ!.next J.out (pZ!.flag (b:=wb) HB.out (.bool true)));have ag:=h! (n6! F.out (pZ!.next n.out s.out).size);have HR:=h! (eu! (d:=(d:Int)+1) 4 pa pb D.length ap ax H.out ag.out);have pd:=I.out.cells;have pe:=a0.out.cells;obtain⟨ed,fd⟩:=A.odd2;obtain⟨ee,fe⟩:=H.out.odd2;clear A;go_wp2_with fail
        refine HR.out.mono ?_;rintro e wF ⟨rfl,a2,a3⟩;have O:=h! (pZ!.next s.out a3);have T:=h! (ab! ⟨#[41]⟩ a2 (by have:=l.out;have:=m.out;rw[n3!];show _+1+1<=_;omega) (by rw[n3!];show 0<_+1;omega) (n6! F.out (pZ!.next n.out O.out).size))
        have Q:=h! (show text.size<=(tB++⟨#[40]⟩++⟨#[41]⟩).size/\(tB++⟨#[40]⟩++⟨#[41]⟩).size<=text.size+wtL (ps.take (i+1))from by
         have:=l.out;have:=ak.out;simp only[n3!];rw[show(⟨#[40]⟩:ByteArray).size=1 from rfl,show(⟨#[41]⟩:ByteArray).size=1 from rfl];omega)
        have U:=h! (show true=!((ps.take (i+1)).all (goodP 5 d))from by rw[al.out,f];rfl);have V:Hid (true=false->(tB++⟨#[40]⟩++⟨#[41]⟩)=text++joinT 5 (ps.take (i+1))):=h! (fun h=>by cases h);clear a2 a3;clear HR pd pe ed ee fd fe;go_wp2_with fail
        refine T.out.mono ?_;rintro e wG ⟨rfl,R,Z⟩;have ah:=h! R;have a9:=h! (pZ!.next O.out Z);clear T R Z z G u x j v C q I J H a0 s f ac af aj ad;go_wp2_with fail
        go_roundw
        case rel=>exact⟨i+1,(tB++⟨#[40]⟩++⟨#[41]⟩),_,by omega,by go_num,U.out,ah.out,Q.out.1,Q.out.2,V.out,a9.out⟩
        case measure=>simp[intOf];omega
       ·have aN:d+1<=8:=by omega
        have f:goodP 5 d (.mk 4 pa pb D)=(RT.mk 4 pa pb D).textOk (d+1):=by unfold goodP bS!;simp[RT.k,aN]
        have aM:¬ ((d:Int)=8):=by omega
        have aK:((d:Int) == 8)=false:=by rw[n7!];exact aM
        have H:=h! (A.flag false);have a0:=h! (I.out.other (a:=⟨wb,2,none⟩) K.out (.bool false));have s:=h! (pZ!.next J.out (pZ!.flag (b:=wb) HB.out (.bool false)));have ag:=h! (n6! F.out (pZ!.next n.out s.out).size);have HR:=h! (IH.out (.mk 4 pa pb D) y _ (d+1) _ (tB++⟨#[40]⟩) (aE.out.same (Same.below (pZ!.next n.out s.out).below)) (by have:=l.out;have:=m.out;rw[n3!];show _+1+_<=_;omega) (by have:=l.out;have:=a4.out;rw[n3!];omega) (by omega) H.out ag.out);unfold rV at HR;dsimp only[RT.k,RT.a,RT.b,RT.ps]at HR;rw[show((d+1:Nat):Int)=(d:Int)+1 from rfl]at HR;have pd:=I.out.cells;have pe:=a0.out.cells;obtain⟨ed,fd⟩:=A.odd2;obtain⟨ee,fe⟩:=H.out.odd2;clear A;go_wp2_with fail
        refine HR.out.mono ?_;rintro e wF ⟨rfl,tF,a2,N,M,r,a3⟩;have O:=h! (pZ!.next s.out a3);rw[n3!,show(⟨#[40]⟩:ByteArray).size=1 from rfl]at N M;have T:=h! (ab! ⟨#[41]⟩ a2 (by have:=l.out;have:=m.out;show _+1<=_;omega) (by show 0<_+1;omega) (n6! F.out (pZ!.next n.out O.out).size))
        have Q:=h! (show text.size<=(tF++⟨#[41]⟩).size/\(tF++⟨#[41]⟩).size<=text.size+wtL (ps.take (i+1))from by
         have:=l.out;have:=ak.out;simp only[n3!];rw[show(⟨#[41]⟩:ByteArray).size=1 from rfl];omega)
        have U:=h! (show(!((RT.mk 4 pa pb D).textOk (d+1)))=!((ps.take (i+1)).all (goodP 5 d))from by rw[al.out,f])
        have V:=h! (show(!((RT.mk 4 pa pb D).textOk (d+1)))=false->(tF++⟨#[41]⟩)=text++joinT 5 (ps.take (i+1))from fun h=>by
         rw[<-aA.out,r (by simpa using h)];unfold txtP;rw[if_pos ⟨rfl,rfl⟩];simp only[y1!])
        clear a2 a3 N M r;clear HR pd pe ed ee fd fe;go_wp2_with fail
        refine T.out.mono ?_;rintro e wG ⟨rfl,R,Z⟩;have ah:=h! R;have a9:=h! (pZ!.next O.out Z);clear T R Z z G u x j v C q I J H a0 s f ac af aj ad;go_wp2_with fail
        go_roundw
        case rel=>exact⟨i+1,(tF++⟨#[41]⟩),_,by omega,by go_num,U.out,ah.out,Q.out.1,Q.out.2,V.out,a9.out⟩
        case measure=>simp[intOf];omega
      ·have aL:(p.k != 4)=true:=by rw[bne_iff_ne];exact hk4
       have f:goodP 5 d p=p.textOk d:=by unfold goodP bS!;simp[hkk,hd,hk4]
       have j:=h! (z.out.flag false);have v:=h! (u.out.other (a:=⟨wb,2,none⟩) K.out (.bool false));have C:=h! (x.out.other (a:=⟨wb,2,none⟩) a5.out (.bool false));have q:=h! (pZ!.next G.out (pZ!.flag (b:=wb) HB.out (.bool false)));have pb:=u.out.cells;have xb:=x.out.cells;have pc:=v.out.cells;have xc:=C.out.cells;obtain⟨eb,fb⟩:=z.out.odd2;obtain⟨ec,fc⟩:=j.out.odd2;have HR:=h! (IH.out p y _ d _ tB (aE.out.same (Same.below (pZ!.next n.out q.out).below)) (by have:=l.out;have:=m.out;omega) (by have:=l.out;have:=a4.out;omega) hd j.out (n6! F.out (pZ!.next n.out q.out).size));unfold rV at HR;clear y;go_wp2_with fail
       refine HR.out.mono ?_;rintro e wD ⟨rfl,tD,A,N,M,r,L⟩;have aJ:=h! A;have J:=h! (pZ!.next q.out L);have az:=h! (show text.size<=tD.size/\tD.size<=text.size+wtL (ps.take (i+1))from by have:=l.out;have:=ak.out;omega);have U:=h! (show(!(p.textOk d))=!((ps.take (i+1)).all (goodP 5 d))from by rw[al.out,f])
       have V:=h! (show(!(p.textOk d))=false->tD=text++joinT 5 (ps.take (i+1))from fun h=>by
        rw[<-aA.out,r (by simpa using h)];unfold txtP;rw[if_neg (by simp[hk4])])
       clear pb xb pc xc eb fb ec fc;clear HR A N M r L z G u x j v C q f ac af aj ad;go_wp2_with fail
       go_roundw
       case rel=>exact⟨i+1,tD,_,by omega,by go_num,U.out,aJ.out,az.out.1,az.out.2,V.out,J.out⟩
       case measure=>simp[intOf];omega
  ·obtain rfl:i=ps.length:=by omega
   rw[u2!]at HO HJ HS;have aS:=h! (show(!g)=o from by rw[HG.out];exact HO.out.symm);have s:=h! (pZ!.next n.out hk);have aZ:=h! (show g=true->t=text++joinT 5 ps from fun h=>HJ.out (by rw[<-aS.out,h];rfl));have b0:=h! HW.out;clear hk HJ HW HO;go_wp2_with fail
   go_end0
   exact⟨rfl,t,by rw[aS.out];exact b0.out,HS.out.1,HS.out.2,aZ.out,s.out⟩
theorem ho! {B wb:Nat}{add:ByteArray}{wt:Nat}{text:ByteArray}{w:World}(ra rb:ByteArray)(n:Nat)(ao:Option Addr)(c:Nat)(d:Int)(h:WrB w B wb text false)(hBw:B<=w.heap.size)(hbad:¬ (ra.size=0/\rb.size=0/\2<=n)) :
  Calls prog 190 #[.pointer (some ⟨wb,0,none⟩),.agg #[.int .i64 5,.string ra,.string rb,.slice ao n c],.int .i64 d] w (WRes B wb w text (false) (add) (wt)):=by
 have j:=h! h;have p:=h! h.1;have m:=h! hBw;have i:=h! (show w.heap.size≠wb from by have:=h.lt;omega);clear h hBw;by_cases h0:n=0
 ·subst h0;clear hbad;have o:=h! (Blk.made w #[.int .i64 5,.string ra,.string rb,.slice ao 0 c] 106);have e:=h! (o.out.other (a:=⟨wb,2,none⟩) i.out (.bool true));have l:=h! (e.out.other (a:=⟨wb,2,none⟩) i.out (.bool true));have f:=h! ((j.out.up ((Below.refl _ w).alloc (n0! _) (.cells #[.int .i64 5,.string ra,.string rb,.slice ao 0 c] 106))).flag true);have g:=h! (f.out.flag true);have k:=h! (pZ!.next (pZ!.next (pZ!.of ((Below.refl _ w).alloc (n0! _) (.cells #[.int .i64 5,.string ra,.string rb,.slice ao 0 c] 106)) m.out) (pZ!.flag (b:=wb) p.out (.bool true))) (pZ!.flag (b:=wb) p.out (.bool true)));have x0:=o.out.cells;have x1:=e.out.cells;have x2:=l.out.cells;obtain⟨e0,f0⟩:=(j.out.up ((Below.refl _ w).alloc (n0! _) (.cells #[.int .i64 5,.string ra,.string rb,.slice ao 0 c] 106))).odd2;obtain⟨e1,f1⟩:=f.out.odd2;obtain⟨e2,f2⟩:=g.out.odd2;go_enter func190,ntmps190
  go_wp2_with fail
  (try simp only[Exit.inBlock,Exit.then])
  refine bodyPost_ret (results_none rfl _ _ _) rfl ?_;exact WRes.bad g.out k.out
 by_cases h1:n=1
 ·subst h1;clear hbad h0;have o:=h! (Blk.made w #[.int .i64 5,.string ra,.string rb,.slice ao 1 c] 106);have e:=h! (o.out.other (a:=⟨wb,2,none⟩) i.out (.bool true));have l:=h! (e.out.other (a:=⟨wb,2,none⟩) i.out (.bool true));have f:=h! ((j.out.up ((Below.refl _ w).alloc (n0! _) (.cells #[.int .i64 5,.string ra,.string rb,.slice ao 1 c] 106))).flag true);have g:=h! (f.out.flag true);have k:=h! (pZ!.next (pZ!.next (pZ!.of ((Below.refl _ w).alloc (n0! _) (.cells #[.int .i64 5,.string ra,.string rb,.slice ao 1 c] 106)) m.out) (pZ!.flag (b:=wb) p.out (.bool true))) (pZ!.flag (b:=wb) p.out (.bool true)));have x0:=o.out.cells;have x1:=e.out.cells;have x2:=l.out.cells;obtain⟨e0,f0⟩:=(j.out.up ((Below.refl _ w).alloc (n0! _) (.cells #[.int .i64 5,.string ra,.string rb,.slice ao 1 c] 106))).odd2;obtain⟨e1,f1⟩:=f.out.odd2;obtain⟨e2,f2⟩:=g.out.odd2;go_enter func190,ntmps190
  go_wp2_with fail
  (try simp only[Exit.inBlock,Exit.then])
  refine bodyPost_ret (results_none rfl _ _ _) rfl ?_;exact WRes.bad g.out k.out
 have a3:(0:Int)<(n:Int):=by omega
 have a2:¬ ((n:Int)<2):=by omega
 by_cases hnrb:rb.size=0
 ·obtain rfl:=ae! hnrb;clear hnrb;by_cases hnra:ra.size=0
  ·obtain rfl:=ae! hnra;clear hnra;exact absurd ⟨rfl,rfl,by omega⟩ hbad
  ·have a1:=am! hnra;clear hbad hnra h0 h1;have o:=h! (Blk.made w #[.int .i64 5,.string ra,.string ⟨#[]⟩,.slice ao n c] 106);have e:=h! (o.out.other (a:=⟨wb,2,none⟩) i.out (.bool false));have l:=h! (e.out.other (a:=⟨wb,2,none⟩) i.out (.bool true));have f:=h! ((j.out.up ((Below.refl _ w).alloc (n0! _) (.cells #[.int .i64 5,.string ra,.string ⟨#[]⟩,.slice ao n c] 106))).flag false);have g:=h! (f.out.flag true);have k:=h! (pZ!.next (pZ!.next (pZ!.of ((Below.refl _ w).alloc (n0! _) (.cells #[.int .i64 5,.string ra,.string ⟨#[]⟩,.slice ao n c] 106)) m.out) (pZ!.flag (b:=wb) p.out (.bool false))) (pZ!.flag (b:=wb) p.out (.bool true)));have x0:=o.out.cells;have x1:=e.out.cells;have x2:=l.out.cells;obtain⟨e0,f0⟩:=(j.out.up ((Below.refl _ w).alloc (n0! _) (.cells #[.int .i64 5,.string ra,.string ⟨#[]⟩,.slice ao n c] 106))).odd2;obtain⟨e1,f1⟩:=f.out.odd2;obtain⟨e2,f2⟩:=g.out.odd2;go_enter func190,ntmps190
   go_wp2_with fail
   (try simp only[Exit.inBlock,Exit.then])
   refine bodyPost_ret (results_none rfl _ _ _) rfl ?_;exact WRes.bad g.out k.out
 ·have a0:=am! hnrb;clear hbad hnrb h0 h1;have o:=h! (Blk.made w #[.int .i64 5,.string ra,.string rb,.slice ao n c] 106);have e:=h! (o.out.other (a:=⟨wb,2,none⟩) i.out (.bool false));have l:=h! (e.out.other (a:=⟨wb,2,none⟩) i.out (.bool true));have f:=h! ((j.out.up ((Below.refl _ w).alloc (n0! _) (.cells #[.int .i64 5,.string ra,.string rb,.slice ao n c] 106))).flag false);have g:=h! (f.out.flag true);have k:=h! (pZ!.next (pZ!.next (pZ!.of ((Below.refl _ w).alloc (n0! _) (.cells #[.int .i64 5,.string ra,.string rb,.slice ao n c] 106)) m.out) (pZ!.flag (b:=wb) p.out (.bool false))) (pZ!.flag (b:=wb) p.out (.bool true)));have x0:=o.out.cells;have x1:=e.out.cells;have x2:=l.out.cells;obtain⟨e0,f0⟩:=(j.out.up ((Below.refl _ w).alloc (n0! _) (.cells #[.int .i64 5,.string ra,.string rb,.slice ao n c] 106))).odd2;obtain⟨e1,f1⟩:=f.out.odd2;obtain⟨e2,f2⟩:=g.out.odd2;go_enter func190,ntmps190
  go_wp2_with fail
  (try simp only[Exit.inBlock,Exit.then])
  refine bodyPost_ret (results_none rfl _ _ _) rfl ?_;exact WRes.bad g.out k.out
theorem mS! {B wb:Nat}{text:ByteArray}{w:World}(ps:List RT)(d:Nat)(hd:d<=8)(pv:Value)(h:WrB w B wb text false)(hBw:B<=w.heap.size)(hat:RTAt (· < B) w (.mk 5 ⟨#[]⟩ ⟨#[]⟩ ps) pv)(hpos:0<text.size)(hlim:text.size+wtL ps<=1099511627776)(h2:2<=ps.length)
  (ih:∀p∈ps,∀(pv:Value) (d:Nat) (w:World) (text:ByteArray),RTAt (· < B) w p pv->text.size+p.wt<=1099511627776->0<text.size->d<=8->WrB w B wb text false->B<=w.heap.size->Calls prog 190 #[.pointer (some ⟨wb,0,none⟩),rV p pv,.int .i64 d] w (WRes B wb w text (p.textOk d) p.text p.wt)) :
  Calls prog 190 #[.pointer (some ⟨wb,0,none⟩),rV (.mk 5 ⟨#[]⟩ ⟨#[]⟩ ps) pv,.int .i64 d] w (WRes B wb w text (ps.all (goodP 5 d)) (joinT 5 ps) (wtL ps)):=by
 have y:=h! hat;obtain⟨C,c,rfl,-⟩:=hat.rows;have IH:=h! ih;have n:=h! hpos;have HD:=h! hd;have i:=h! hlim;unfold rV;dsimp only[RT.k,RT.a,RT.b,RT.ps]at y ⊢;have a3:(0:Int)<(ps.length:Int):=by omega
 have a2:¬ ((ps.length:Int)<2):=by omega
 clear hat ih hpos hlim h2 hd;have z:=h! h;have HB:=h! h.1;have r:=h! hBw;have t:=h! (show w.heap.size≠wb from by have:=h.lt;omega);clear h hBw;have HX:=h! (Blk.made w #[.int .i64 5,.string ⟨#[]⟩,.string ⟨#[]⟩,.slice C ps.length c] 106);have j:=h! (HX.out.other (a:=⟨wb,2,none⟩) t.out (.bool false));have x:=h! (j.out.other (a:=⟨wb,2,none⟩) t.out (.bool false));have l:=h! ((z.out.up ((Below.refl _ w).alloc (n0! _) (.cells #[.int .i64 5,.string ⟨#[]⟩,.string ⟨#[]⟩,.slice C ps.length c] 106))).flag false);have m:=h! (l.out.flag false);have g:=h! (pZ!.next (pZ!.next (pZ!.of ((Below.refl _ w).alloc (n0! _) (.cells #[.int .i64 5,.string ⟨#[]⟩,.string ⟨#[]⟩,.slice C ps.length c] 106)) r.out) (pZ!.flag (b:=wb) HB.out (.bool false))) (pZ!.flag (b:=wb) HB.out (.bool false)));have x0:=HX.out.cells;have x1:=j.out.cells;have x2:=x.out.cells;obtain⟨e0,f0⟩:=(z.out.up ((Below.refl _ w).alloc (n0! _) (.cells #[.int .i64 5,.string ⟨#[]⟩,.string ⟨#[]⟩,.slice C ps.length c] 106))).odd2;obtain⟨e1,f1⟩:=l.out.odd2;obtain⟨e2,f2⟩:=m.out.odd2;go_enter func190,ntmps190
 go_wp2_with fail
 obtain⟨w3,o⟩:=e! (((w.alloc (.cells #[.int .i64 5,.string ⟨#[]⟩,.string ⟨#[]⟩,.slice C ps.length c] 106)).setCell ⟨wb,2,none⟩ (.bool false)).setCell ⟨wb,2,none⟩ (.bool false));rw[<-o]at x m g ⊢;clear o HX j l x0 x1 x2 e0 e1 e2 f0 f1 f2;have a0:=h! (n6! r.out g.out.size);have A:=h! (mU! ps d HD.out _ m.out a0.out (y.out.same (Same.below g.out.below)) n.out i.out IH.out);unfold rV at A;dsimp only[RT.k,RT.a,RT.b]at A;refine A.out.mono ?_;rintro e w4 ⟨rfl,t4,q,v,u,f,s⟩;have a1:Hid (WRes B wb w text (ps.all (goodP 5 d)) (joinT 5 ps) (wtL ps) (.returned (.tuple #[])) w4):=h! ⟨rfl,t4,q,v,u,f,pZ!.next g.out s⟩;clear A q v u f s;go_wp2_with fail
 go_end0
 exact a1.out
end Go.Proofs.YtlhaghoajpglaaaGreat
