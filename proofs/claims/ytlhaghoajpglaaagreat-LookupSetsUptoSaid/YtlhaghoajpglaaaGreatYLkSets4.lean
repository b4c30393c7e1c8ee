/- Lemmas for the claim, no condition. -/
import Derived.Test.YtlhaghoajpglaaaGreatYLkSets0
import Derived.Test.YtlhaghoajpglaaaGreatYLkSets3
import Derived.Test.YtlhaghoajpglaaaGreatYLkSets1
set_option maxRecDepth 100000
set_option maxHeartbeats 8000000
namespace Go.Proofs.YtlhaghoajpglaaaGreat
open Go Go.RowKit
def WRes (B wb:Nat)(w:World)(text:ByteArray)(ok:Bool)(add:ByteArray)(wt:Nat)(e:Ending)(w':World):Prop :=
 e = .returned (.tuple #[])/\∃ text',WrB w' B wb text' (!ok)/\text.size<=text'.size/\text'.size<=text.size+wt/\(ok=true->text'=text++add)/\WKept B wb w w'
theorem WRes.bad {B wb:Nat} {w w':World} {text add:ByteArray} {wt:Nat} (h:WrB w' B wb text true)(hk:WKept B wb w w'):WRes B wb w text false add wt (.returned (.tuple #[])) w' :=
 ⟨rfl,text,h,Nat.le_refl _,Nat.le_add_right _ _,(fun h=>by cases h),hk⟩
theorem wrule_odd {B wb:Nat} {text:ByteArray} {w:World} (k:Int)(ra rb:ByteArray)(n:Nat)(ao:Option Addr)(c:Nat)(d:Int)(h:WrB w B wb text true)(hBw:B<=w.heap.size) :
  Calls Tryz.prog 190 #[.pointer (some ⟨wb,0,none⟩),.agg #[.int .i64 k,.string ra,.string rb,.slice ao n c],.int .i64 d] w fun e w'=>e = .returned (.tuple #[])/\WrB w' B wb text true/\WKept B wb w w':=by
 have HW0:=h! h;have HB:=h! h.1;have HBW:=h! hBw;have HNE:=h! (show w.heap.size≠wb from by have:=h.lt;omega);clear h hBw;by_cases k4:k=4
 ·subst k4;have HX:=h! (Blk.made w #[.int .i64 4,.string ra,.string rb,.slice ao n c] 106);have HX1:=h! (HX.out.other (a:=⟨wb,2,none⟩) HNE.out (.bool true));have HX2:=h! (HX1.out.other (a:=⟨wb,2,none⟩) HNE.out (.bool true));have HW1:=h! ((HW0.out.up ((Below.refl _ w).alloc (Nat.le_refl _) (.cells #[.int .i64 4,.string ra,.string rb,.slice ao n c] 106))).flag true);have HW2:=h! (HW1.out.flag true);have HK2:=h! (WKept.next (WKept.next (WKept.of ((Below.refl _ w).alloc (Nat.le_refl _) (.cells #[.int .i64 4,.string ra,.string rb,.slice ao n c] 106)) HBW.out) (WKept.flag (b:=wb) HB.out (.bool true))) (WKept.flag (b:=wb) HB.out (.bool true)));have x0:=HX.out.cells;have x1:=HX1.out.cells;have x2:=HX2.out.cells;obtain⟨e0,f0⟩:=(HW0.out.up ((Below.refl _ w).alloc (Nat.le_refl _) (.cells #[.int .i64 4,.string ra,.string rb,.slice ao n c] 106))).odd2;obtain⟨e1,f1⟩:=HW1.out.odd2;obtain⟨e2,f2⟩:=HW2.out.odd2;go_enter Tryz.func190,Tryz.ntmps190
  go_wp2_with fail
  (try simp only[Exit.inBlock,Exit.then])
  refine bodyPost_ret (results_none rfl _ _ _) rfl ?_;exact⟨rfl,HW2.out,HK2.out⟩
 by_cases k5:k=5
 ·subst k5;have HX:=h! (Blk.made w #[.int .i64 5,.string ra,.string rb,.slice ao n c] 106);have HX1:=h! (HX.out.other (a:=⟨wb,2,none⟩) HNE.out (.bool true));have HX2:=h! (HX1.out.other (a:=⟨wb,2,none⟩) HNE.out (.bool true));have HW1:=h! ((HW0.out.up ((Below.refl _ w).alloc (Nat.le_refl _) (.cells #[.int .i64 5,.string ra,.string rb,.slice ao n c] 106))).flag true);have HW2:=h! (HW1.out.flag true);have HK2:=h! (WKept.next (WKept.next (WKept.of ((Below.refl _ w).alloc (Nat.le_refl _) (.cells #[.int .i64 5,.string ra,.string rb,.slice ao n c] 106)) HBW.out) (WKept.flag (b:=wb) HB.out (.bool true))) (WKept.flag (b:=wb) HB.out (.bool true)));have x0:=HX.out.cells;have x1:=HX1.out.cells;have x2:=HX2.out.cells;obtain⟨e0,f0⟩:=(HW0.out.up ((Below.refl _ w).alloc (Nat.le_refl _) (.cells #[.int .i64 5,.string ra,.string rb,.slice ao n c] 106))).odd2;obtain⟨e1,f1⟩:=HW1.out.odd2;obtain⟨e2,f2⟩:=HW2.out.odd2;go_enter Tryz.func190,Tryz.ntmps190
  go_wp2_with fail
  (try simp only[Exit.inBlock,Exit.then])
  refine bodyPost_ret (results_none rfl _ _ _) rfl ?_;exact⟨rfl,HW2.out,HK2.out⟩
 have q4:(k == 4)=false:=by rw[beq_eq_false_iff_ne];exact k4
 have q5:(k == 5)=false:=by rw[beq_eq_false_iff_ne];exact k5
 clear k4 k5;have HX:=h! (Blk.made w #[.int .i64 k,.string ra,.string rb,.slice ao n c] 106);have HX1:=h! (HX.out.other (a:=⟨wb,2,none⟩) HNE.out (.bool true));have HX2:=h! (HX1.out.other (a:=⟨wb,2,none⟩) HNE.out (.bool true));have HW1:=h! ((HW0.out.up ((Below.refl _ w).alloc (Nat.le_refl _) (.cells #[.int .i64 k,.string ra,.string rb,.slice ao n c] 106))).flag true);have HW2:=h! (HW1.out.flag true);have HK2:=h! (WKept.next (WKept.next (WKept.of ((Below.refl _ w).alloc (Nat.le_refl _) (.cells #[.int .i64 k,.string ra,.string rb,.slice ao n c] 106)) HBW.out) (WKept.flag (b:=wb) HB.out (.bool true))) (WKept.flag (b:=wb) HB.out (.bool true)));have x0:=HX.out.cells;have x1:=HX1.out.cells;have x2:=HX2.out.cells;obtain⟨e0,f0⟩:=(HW0.out.up ((Below.refl _ w).alloc (Nat.le_refl _) (.cells #[.int .i64 k,.string ra,.string rb,.slice ao n c] 106))).odd2;obtain⟨e1,f1⟩:=HW1.out.odd2;obtain⟨e2,f2⟩:=HW2.out.odd2;go_enter Tryz.func190,Tryz.ntmps190
 go_wp2_with fail
 (try simp only[Exit.inBlock,Exit.then])
 refine bodyPost_ret (results_none rfl _ _ _) rfl ?_;exact⟨rfl,HW2.out,HK2.out⟩
theorem wrule_k {B wb:Nat} {text:ByteArray} {w:World} (k:Int)(ra rb:ByteArray)(n:Nat)(ao:Option Addr)(c:Nat)(d:Int)(h:WrB w B wb text false)(hBw:B<=w.heap.size)(q1:(k == 1)=false)(q2:(k == 2)=false)(q3:(k == 3)=false)(q4:(k == 4)=false)(q5:(k == 5)=false) :
  Calls Tryz.prog 190 #[.pointer (some ⟨wb,0,none⟩),.agg #[.int .i64 k,.string ra,.string rb,.slice ao n c],.int .i64 d] w (WRes B wb w text (false) (⟨#[]⟩) (10+ra.size+rb.size)):=by
 have HW0:=h! h;have HB:=h! h.1;have HBW:=h! hBw;have HNE:=h! (show w.heap.size≠wb from by have:=h.lt;omega);clear h hBw;have q2n:(k != 2)=true:=by rw[bne,q2];rfl
 have q3n:(k != 3)=true:=by rw[bne,q3];rfl
 by_cases hlp:0<n
 ·have hpI:(0:Int)<(n:Int):=by omega
  clear hlp;have HX:=h! (Blk.made w #[.int .i64 k,.string ra,.string rb,.slice ao n c] 106);have HX1:=h! (HX.out.other (a:=⟨wb,2,none⟩) HNE.out (.bool true));have HX2:=h! (HX1.out.other (a:=⟨wb,2,none⟩) HNE.out (.bool true));have HW1:=h! ((HW0.out.up ((Below.refl _ w).alloc (Nat.le_refl _) (.cells #[.int .i64 k,.string ra,.string rb,.slice ao n c] 106))).flag true);have HW2:=h! (HW1.out.flag true);have HK2:=h! (WKept.next (WKept.next (WKept.of ((Below.refl _ w).alloc (Nat.le_refl _) (.cells #[.int .i64 k,.string ra,.string rb,.slice ao n c] 106)) HBW.out) (WKept.flag (b:=wb) HB.out (.bool true))) (WKept.flag (b:=wb) HB.out (.bool true)));have x0:=HX.out.cells;have x1:=HX1.out.cells;have x2:=HX2.out.cells;obtain⟨e0,f0⟩:=(HW0.out.up ((Below.refl _ w).alloc (Nat.le_refl _) (.cells #[.int .i64 k,.string ra,.string rb,.slice ao n c] 106))).odd2;obtain⟨e1,f1⟩:=HW1.out.odd2;obtain⟨e2,f2⟩:=HW2.out.odd2;go_enter Tryz.func190,Tryz.ntmps190
  go_wp2_with fail
  (try simp only[Exit.inBlock,Exit.then])
  refine bodyPost_ret (results_none rfl _ _ _) rfl ?_;exact WRes.bad HW2.out HK2.out
 ·obtain rfl:n=0:=by omega
  clear hlp;by_cases hnrb:rb.size=0
  ·obtain rfl:=ba_size_eq hnrb;clear hnrb;by_cases hnra:ra.size=0
   ·obtain rfl:=ba_size_eq hnra;clear hnra;have HX:=h! (Blk.made w #[.int .i64 k,.string ⟨#[]⟩,.string ⟨#[]⟩,.slice ao 0 c] 106);have HX1:=h! (HX.out.other (a:=⟨wb,2,none⟩) HNE.out (.bool false));have HX2:=h! (HX1.out.other (a:=⟨wb,2,none⟩) HNE.out (.bool false));have HW1:=h! ((HW0.out.up ((Below.refl _ w).alloc (Nat.le_refl _) (.cells #[.int .i64 k,.string ⟨#[]⟩,.string ⟨#[]⟩,.slice ao 0 c] 106))).flag false);have HW2:=h! (HW1.out.flag false);have HW3:=h! (HW2.out.flag true);have HK3:=h! (WKept.next (WKept.next (WKept.next (WKept.of ((Below.refl _ w).alloc (Nat.le_refl _) (.cells #[.int .i64 k,.string ⟨#[]⟩,.string ⟨#[]⟩,.slice ao 0 c] 106)) HBW.out) (WKept.flag (b:=wb) HB.out (.bool false))) (WKept.flag (b:=wb) HB.out (.bool false))) (WKept.flag (b:=wb) HB.out (.bool true)));have x0:=HX.out.cells;have x1:=HX1.out.cells;have x2:=HX2.out.cells;obtain⟨e0,f0⟩:=(HW0.out.up ((Below.refl _ w).alloc (Nat.le_refl _) (.cells #[.int .i64 k,.string ⟨#[]⟩,.string ⟨#[]⟩,.slice ao 0 c] 106))).odd2;obtain⟨e1,f1⟩:=HW1.out.odd2;obtain⟨e2,f2⟩:=HW2.out.odd2;go_enter Tryz.func190,Tryz.ntmps190
    go_wp2_with fail
    go_end0
    exact WRes.bad HW3.out HK3.out
   ·have hnera:=ba_size_ne hnra;clear hnra;have HX:=h! (Blk.made w #[.int .i64 k,.string ra,.string ⟨#[]⟩,.slice ao 0 c] 106);have HX1:=h! (HX.out.other (a:=⟨wb,2,none⟩) HNE.out (.bool false));have HX2:=h! (HX1.out.other (a:=⟨wb,2,none⟩) HNE.out (.bool true));have HW1:=h! ((HW0.out.up ((Below.refl _ w).alloc (Nat.le_refl _) (.cells #[.int .i64 k,.string ra,.string ⟨#[]⟩,.slice ao 0 c] 106))).flag false);have HW2:=h! (HW1.out.flag true);have HK2:=h! (WKept.next (WKept.next (WKept.of ((Below.refl _ w).alloc (Nat.le_refl _) (.cells #[.int .i64 k,.string ra,.string ⟨#[]⟩,.slice ao 0 c] 106)) HBW.out) (WKept.flag (b:=wb) HB.out (.bool false))) (WKept.flag (b:=wb) HB.out (.bool true)));have x0:=HX.out.cells;have x1:=HX1.out.cells;have x2:=HX2.out.cells;obtain⟨e0,f0⟩:=(HW0.out.up ((Below.refl _ w).alloc (Nat.le_refl _) (.cells #[.int .i64 k,.string ra,.string ⟨#[]⟩,.slice ao 0 c] 106))).odd2;obtain⟨e1,f1⟩:=HW1.out.odd2;obtain⟨e2,f2⟩:=HW2.out.odd2;go_enter Tryz.func190,Tryz.ntmps190
    go_wp2_with fail
    (try simp only[Exit.inBlock,Exit.then])
    refine bodyPost_ret (results_none rfl _ _ _) rfl ?_;exact WRes.bad HW2.out HK2.out
  ·have hnerb:=ba_size_ne hnrb;clear hnrb;have HX:=h! (Blk.made w #[.int .i64 k,.string ra,.string rb,.slice ao 0 c] 106);have HX1:=h! (HX.out.other (a:=⟨wb,2,none⟩) HNE.out (.bool false));have HX2:=h! (HX1.out.other (a:=⟨wb,2,none⟩) HNE.out (.bool true));have HW1:=h! ((HW0.out.up ((Below.refl _ w).alloc (Nat.le_refl _) (.cells #[.int .i64 k,.string ra,.string rb,.slice ao 0 c] 106))).flag false);have HW2:=h! (HW1.out.flag true);have HK2:=h! (WKept.next (WKept.next (WKept.of ((Below.refl _ w).alloc (Nat.le_refl _) (.cells #[.int .i64 k,.string ra,.string rb,.slice ao 0 c] 106)) HBW.out) (WKept.flag (b:=wb) HB.out (.bool false))) (WKept.flag (b:=wb) HB.out (.bool true)));have x0:=HX.out.cells;have x1:=HX1.out.cells;have x2:=HX2.out.cells;obtain⟨e0,f0⟩:=(HW0.out.up ((Below.refl _ w).alloc (Nat.le_refl _) (.cells #[.int .i64 k,.string ra,.string rb,.slice ao 0 c] 106))).odd2;obtain⟨e1,f1⟩:=HW1.out.odd2;obtain⟨e2,f2⟩:=HW2.out.odd2;go_enter Tryz.func190,Tryz.ntmps190
   go_wp2_with fail
   (try simp only[Exit.inBlock,Exit.then])
   refine bodyPost_ret (results_none rfl _ _ _) rfl ?_;exact WRes.bad HW2.out HK2.out
def sepT (k:Int):ByteArray:=if k=4 then⟨#[32,124,32]⟩else⟨#[32,38,32]⟩
mutual
def RT.text:RT->ByteArray
 | .mk k a b ps=>if k=1 then⟨#[116,104,105,115]⟩else if k=2 then a else if k=3 then(a++⟨#[45,62]⟩)++b else firstT k ps
def firstT (k:Int):List RT->ByteArray
 | []=>ByteArray.empty
 | p::ps=>(if k=5/\p.k=4 then⟨#[40]⟩++p.text++⟨#[41]⟩else p.text)++restT k ps
def restT (k:Int):List RT->ByteArray
 | []=>ByteArray.empty
 | p::ps=>sepT k++((if k=5/\p.k=4 then⟨#[40]⟩++p.text++⟨#[41]⟩else p.text)++restT k ps)
end
def txtP (k:Int)(p:RT):ByteArray:=if k=5/\p.k=4 then⟨#[40]⟩++p.text++⟨#[41]⟩else p.text
def joinT (k:Int)(ps:List RT):ByteArray:=firstT k ps
theorem restT_snoc (k:Int)(p:RT):∀ l:List RT,restT k (l++[p])=restT k l++sepT k++txtP k p
 | []=>by
  rw[List.nil_append,restT,restT,restT,ByteArray.append_empty,ByteArray.empty_append];rfl
 | q::l=>by
  rw[List.cons_append,restT,restT_snoc k p l,restT];simp only[ByteArray.append_assoc]
theorem joinT_take (k:Int) {l:List RT} {i:Nat} (hi:i<l.length):joinT k (l.take (i+1))=if i=0 then txtP k l[i]else joinT k (l.take i)++sepT k++txtP k l[i]:=by
 rw[List.take_succ_eq_append_getElem hi];cases i with
 | zero =>
  rw[if_pos rfl,List.take_zero,List.nil_append];unfold joinT;rw[firstT,restT,ByteArray.append_empty];rfl
 | succ i =>
  rw[if_neg (by omega)];cases l with
  | nil=>simp at hi
  | cons q l =>
   rw[List.take_succ_cons,List.cons_append];unfold joinT;rw[firstT,firstT,restT_snoc];simp only[ByteArray.append_assoc]
mutual
def RT.wt:RT->Nat | .mk _ a b ps=>10+a.size+b.size+wtL ps
def wtL:List RT->Nat | []=>0 | p::ps=>(8+p.wt)+wtL ps
end
theorem wtL_append (a b:List RT):wtL (a++b)=wtL a+wtL b:=by
 induction a with
 | nil=>simp[wtL]
 | cons x a ih=>rw[List.cons_append,wtL,wtL,ih];omega
theorem wtL_take {l:List RT} {i:Nat} (hi:i<l.length):wtL (l.take (i+1))=wtL (l.take i)+(8+l[i].wt):=by
 rw[List.take_succ_eq_append_getElem hi,wtL_append];simp[wtL]
theorem wtL_le (l:List RT)(i:Nat):wtL (l.take i)<=wtL l:=by
 conv=>rhs;rw[<- List.take_append_drop i l]
 rw[wtL_append];omega
theorem wparts_4 {B wb:Nat} {text:ByteArray} {w:World} (ps:List RT)(d:Nat)(hd:d<=8)(pv:Value)(h:WrB w B wb text false)(hBw:B<=w.heap.size)(hat:RTAt (· < B) w (.mk 4 ⟨#[]⟩ ⟨#[]⟩ ps) pv)(hpos:0<text.size)(hlim:text.size+wtL ps<=1099511627776)
  (ih:∀ p∈ps,∀ (pv:Value) (d:Nat) (w:World) (text:ByteArray),RTAt (· < B) w p pv->text.size+p.wt<=1099511627776->0<text.size->d<=8->WrB w B wb text false->B<=w.heap.size->Calls Tryz.prog 190 #[.pointer (some ⟨wb,0,none⟩),rV p pv,.int .i64 d] w (WRes B wb w text (p.textOk d) p.text p.wt)) :
  Calls Tryz.prog 231 #[.pointer (some ⟨wb,0,none⟩),rV (.mk 4 ⟨#[]⟩ ⟨#[]⟩ ps) pv,.string ⟨#[32,124,32]⟩,.int .i64 d] w (WRes B wb w text (ps.all (goodP 4 d)) (joinT 4 ps) (wtL ps)):=by
 obtain⟨ao,c,rfl,hlc,hcm,hcell⟩:=hat.rows;dsimp only[RT.ps]at hlc hcell ⊢;have HC:=h! hcell;have IH:=h! ih;have HPOS:=h! hpos;have HB:=h! h.1;have HBW:=h! hBw;have HNX:=h! (show w.heap.size≠wb from by have:=h.lt;omega);have HLIM:=h! hlim;have hBX:=Blk.made w #[.int .i64 4,.string ⟨#[]⟩,.string ⟨#[]⟩,.slice ao ps.length c] 106;have HW1:=h! (h.up ((Below.refl _ w).alloc (Nat.le_refl _) (.cells #[.int .i64 4,.string ⟨#[]⟩,.string ⟨#[]⟩,.slice ao ps.length c] 106)));have HK1:=h! (WKept.of (b:=wb) ((Below.refl _ w).alloc (Nat.le_refl _) (.cells #[.int .i64 4,.string ⟨#[]⟩,.string ⟨#[]⟩,.slice ao ps.length c] 106)) hBw);have hbk:=hBX.cells;unfold rV;dsimp only[RT.k,RT.a,RT.b];generalize hg:ps.all (goodP 4 d)=g;have HG:=h! hg.symm;clear hat hcell ih hpos h hBw hlim hg;go_enter Tryz.func231,Tryz.ntmps231
 go_wp2_with fail
 obtain⟨w1,hw1⟩:∃ w1,w1=w.alloc (.cells #[.int .i64 4,.string ⟨#[]⟩,.string ⟨#[]⟩,.slice ao ps.length c] 106):=⟨_,rfl⟩;rw[<- hw1]at hBX HW1 HK1 ⊢;have HBX0:=h! hBX;clear hbk hw1 hBX;generalize hX:w.heap.size=X at *;have HX:=h! hX;have HBW:=h! (show B<=w.heap.size from by rw[HX.out];exact HBW.out);clear hX;go_loopw [13] (fun ii wr=>∃ (i:Nat) (t:ByteArray) (o:Bool),i<=ps.length/\ii = .int .i64 i/\o=!((ps.take i).all (goodP 4 d))/\WrB wr B wb t o/\text.size<=t.size/\t.size<=text.size+wtL (ps.take i)/\(o=false->t=text++joinT 4 (ps.take i))/\WKept B wb w1 wr) (fun ii _=>ps.length-(intOf ii).toNat)
 case atStart=>exact⟨0,text,false,by omega,rfl,rfl,HW1.out,Nat.le_refl _,Nat.le_add_right _ _,fun _=>by rw[List.take_zero];exact(ByteArray.append_empty).symm,Kept.refl _ _⟩
 case round =>
  obtain⟨i,t,o,hi,rfl,ho,hw,hs1,hs2,hj,hk⟩:=hrel;have HO:=h! ho;have HW:=h! hw;have HJ:=h! hj;have HK:=h! hk;have HS:=h! (And.intro hs1 hs2);clear HW1 ho hw hj hs1 hs2;by_cases hlt:i<ps.length
  ·have hbel:Below B w wr:=(WKept.next HK1.out hk).below;have HWT:=h! (wtL_take hlt);have HWL:=h! (show wtL (ps.take i)+(8+ps[i].wt)<=wtL ps from by have:=wtL_le ps (i+1);rw[wtL_take hlt]at this;exact this);have HJT:=h! (joinT_take 4 hlt);have HAT0:=fun(h:goodP 4 d ps[i]=false)=>(show g=false from by rw[HG.out];exact List.all_eq_false.2 ⟨ps[i],List.getElem_mem hlt,by rw[h];exact Bool.false_ne_true⟩);have HBAD:=h! (fun(h:goodP 4 d ps[i]=false)=>HAT0 h);have HGT:=h! (show(ps.take (i+1)).all (goodP 4 d)=((ps.take i).all (goodP 4 d)&&goodP 4 d ps[i])from by rw[List.take_succ_eq_append_getElem hlt,List.all_append];simp);have hmem:=List.getElem_mem hlt;obtain⟨bb,off,pv2,hbo,hb,c0,c1,c2,c3,hat2⟩:=HC.out i hlt;cases hbo;have hd0:=(hbel.cell (p:=⟨bb,off+i*4,none⟩) hb).trans c0;have hd1:=(hbel.cell (p:=⟨bb,off+i*4+1,none⟩) hb).trans c1;have hd2:=(hbel.cell (p:=⟨bb,off+i*4+2,none⟩) hb).trans c2;have hd3:=(hbel.cell (p:=⟨bb,off+i*4+3,none⟩) hb).trans c3;obtain⟨ao2,c2',rfl,-⟩:=hat2.rows;have HAT:=h! hat2;clear c0 c1 c2 c3 hat2 hbel HAT0;generalize ps[i]=p at *;have HP0:=h! (Blk.made wr #[.int .i64 p.k,.string p.a,.string p.b,.slice ao2 p.ps.length c2'] 106);have HNP:=h! (show wr.heap.size≠wb from by have:=HW.out.lt;omega);have hxlt:X<wr.heap.size:=Nat.lt_of_lt_of_le HBX0.out.lt hk.size;have HBR:=h! (Nat.le_trans HBW.out (by rw[HX.out];exact Nat.le_of_lt hxlt));have HKA:=h! (WKept.next hk (WKept.of ((Below.refl _ wr).alloc (Nat.le_refl _) (.cells #[.int .i64 p.k,.string p.a,.string p.b,.slice ao2 p.ps.length c2'] 106)) HBR.out));have HXA:=h! (HKA.out.box HBX0.out (by decide) HNX.out);have HWA:=h! (HW.out.up ((Below.refl _ wr).alloc (Nat.le_refl _) (.cells #[.int .i64 p.k,.string p.a,.string p.b,.slice ao2 p.ps.length c2'] 106)));have hpa:=HP0.out.cells;have hxa:=HXA.out.cells;clear hk;cases o with
   | true =>
    have hall:(ps.take i).all (goodP 4 d)=false:=by have:=HO.out;simpa using this
    have hig:(0:Int)<(i:Int):=by
     have:i≠0:=fun h=>by rw[h]at hall;simp at hall
     omega
    have HF:=h! (show g=false from by
     rw[HG.out];have:=hall;rw[<- List.take_append_drop i ps,List.all_append,hall];rfl)
    have HSW:=h! (writeString_any ⟨#[32,124,32]⟩ HWA.out (by have:=HS.out;have:=HLIM.out;have:=HWL.out;show _+3<=_;omega) (by show 0<_+3;omega) (Nat.le_trans HBW.out (WKept.next HK1.out HKA.out).size));rw[HF.out];clear hall hmem;go_wp2_with fail
    refine HSW.out.mono ?_;rintro e wB ⟨rfl,hwB,hkB⟩;have HKB:=h! (WKept.next HKA.out (WKept.next hkB (WKept.flag (b:=wb) HB.out (.bool true))));have HWC:=h! (hwB.flag true);obtain⟨eb,fb⟩:=hwB.odd2;obtain⟨ec,fc⟩:=HWC.out.odd2;clear HSW hwB hkB hpa hxa hd0 hd1 hd2 hd3 hig;go_wp2_with fail
    (try simp only[Exit.inBlock,Exit.then])
    refine bodyPost_ret (results_none rfl _ _ _) rfl ?_;exact⟨rfl,t++⟨#[32,124,32]⟩,HWC.out,(by rw[ByteArray.size_append];have:=HS.out;omega),(by rw[ByteArray.size_append];have:=HS.out;have:=HWL.out;show _+3<=_;omega),(fun h=>by cases h),WKept.next HK1.out HKB.out⟩
   | false =>
    have hall:(ps.take i).all (goodP 4 d)=true:=by have:=HO.out;simpa using this
    have HGD:=h! (show(ps.take (i+1)).all (goodP 4 d)=goodP 4 d p from by rw[HGT.out,hall,Bool.true_and]);have HJ2:=h! (HJ.out rfl);clear hall;by_cases hi0:i=0
    ·have hig:¬ ((0:Int)<(i:Int)):=by omega
     obtain⟨tB,htB⟩:∃ tB,tB=t:=⟨_,rfl⟩;have HTB:=h! (show text.size<=tB.size/\tB.size<=text.size+wtL (ps.take i)+3/\wtL (ps.take i)+(8+p.wt)<=wtL ps from by rw[htB];have:=HS.out;have:=HWL.out;omega);have HJB:=h! (show tB++txtP 4 p=text++joinT 4 (ps.take (i+1))from by rw[htB,HJ2.out,HJT.out,if_pos hi0,hi0,List.take_zero];show text++ByteArray.empty++_=_;rw[ByteArray.append_empty]);rw[<- htB]at HWA;clear htB hi0;have HWB:=h! HWA.out;have HKB:=h! HKA.out;have HPB:=h! HP0.out;have HXB:=h! HXA.out;clear HWA HKA HP0 HXA hpa hxa HW HJ HO;by_cases hkk:p.k=4
     ·have HF:=h! (HBAD.out (by unfold goodP;simp[hkk]));obtain⟨pk,pa,pb,pps⟩:=p;dsimp only[RT.k,RT.a,RT.b,RT.ps]at *;subst hkk;have HWC:=h! (HWB.out.flag true);have HPC:=h! (HPB.out.other (a:=⟨wb,2,none⟩) HNP.out (.bool true));have HXC:=h! (HXB.out.other (a:=⟨wb,2,none⟩) HNX.out (.bool true));have HKC:=h! (WKept.next HKB.out (WKept.flag (b:=wb) HB.out (.bool true)));have pbc:=HPB.out.cells;have xb:=HXB.out.cells;have pc:=HPC.out.cells;have xc:=HXC.out.cells;obtain⟨eb,fb⟩:=HWB.out.odd2;obtain⟨ec,fc⟩:=HWC.out.odd2;clear hmem;go_wp2_with fail
      rw[HF.out];(try simp only[Exit.inBlock,Exit.then])
      refine bodyPost_ret (results_none rfl _ _ _) rfl ?_;exact⟨rfl,tB,HWC.out,(by have:=HTB.out;omega),(by have:=HTB.out;have:=HWL.out;omega),(fun h=>by cases h),WKept.next HK1.out HKC.out⟩
     ·have hpk:(p.k == 4)=false:=by rw[beq_eq_false_iff_ne];exact hkk
      have hgood:goodP 4 d p=p.textOk d:=by unfold goodP innerD;simp[hkk,hd]
      have HWC:=h! (HWB.out.flag false);have HPC:=h! (HPB.out.other (a:=⟨wb,2,none⟩) HNP.out (.bool false));have HXC:=h! (HXB.out.other (a:=⟨wb,2,none⟩) HNX.out (.bool false));have HKC:=h! (WKept.next HKB.out (WKept.flag (b:=wb) HB.out (.bool false)));have pb:=HPB.out.cells;have xb:=HXB.out.cells;have pc:=HPC.out.cells;have xc:=HXC.out.cells;obtain⟨eb,fb⟩:=HWB.out.odd2;obtain⟨ec,fc⟩:=HWC.out.odd2;have HR:=h! (IH.out p hmem _ d _ tB (HAT.out.same (Same.below (WKept.next HK1.out HKC.out).below)) (by have:=HTB.out;have:=HLIM.out;omega) (by have:=HTB.out;have:=HPOS.out;omega) hd HWC.out (Nat.le_trans HBW.out (WKept.next HK1.out HKC.out).size));unfold rV at HR;clear hmem;go_wp2_with fail
      refine HR.out.mono ?_;rintro e wD ⟨rfl,tD,hwD,hs1,hs2,hadd,hkD⟩;have HWD:=h! hwD;have HKD:=h! (WKept.next HKC.out hkD);have HSD:=h! (show text.size<=tD.size/\tD.size<=text.size+wtL (ps.take (i+1))from by have:=HTB.out;have:=HWT.out;omega);have HOD:=h! (show(!(p.textOk d))=!((ps.take (i+1)).all (goodP 4 d))from by rw[HGD.out,hgood])
      have HJD:=h! (show(!(p.textOk d))=false->tD=text++joinT 4 (ps.take (i+1))from fun h=>by
       rw[<- HJB.out,hadd (by simpa using h)];unfold txtP;rw[if_neg (by simp)])
      clear pb xb pc xc eb fb ec fc;clear HR hwD hs1 hs2 hadd hkD HWB HKB HPB HXB HWC HPC HXC HKC hgood hd0 hd1 hd2 hd3;go_wp2_with fail
      go_roundw
      case rel=>exact⟨i+1,tD,_,by omega,by go_num,HOD.out,HWD.out,HSD.out.1,HSD.out.2,HJD.out,HKD.out⟩
      case measure=>simp[intOf];omega
    ·have hig:(0:Int)<(i:Int):=by omega
     have HSW:=h! (writeString_any ⟨#[32,124,32]⟩ HWA.out (by have:=HS.out;have:=HLIM.out;have:=HWL.out;show _+3<=_;omega) (by show 0<_+3;omega) (Nat.le_trans HBW.out (WKept.next HK1.out HKA.out).size));have HJB0:=h! (show t++⟨#[32,124,32]⟩++txtP 4 p=text++joinT 4 (ps.take (i+1))from by rw[HJ2.out,HJT.out,if_neg hi0];simp only[ByteArray.append_assoc];rfl);clear hi0;go_wp2_with fail
     refine HSW.out.mono ?_;rintro e wB ⟨rfl,hwB,hkB⟩;have HKB:=h! (WKept.next HKA.out hkB);have HPB:=h! (hkB.box HP0.out (by decide) HNP.out);have HXB:=h! (hkB.box HXA.out (by decide) HNX.out);have hsB:(t++⟨#[32,124,32]⟩).size=t.size+3:=by rw[ByteArray.size_append];rfl
     obtain⟨tB,htB⟩:∃ tB,tB=t++⟨#[32,124,32]⟩:=⟨_,rfl⟩;rw[<- htB]at hwB HJB0 hsB;have HWB:=h! hwB;have HJB:=h! HJB0.out;have HTB:=h! (show text.size<=tB.size/\tB.size<=text.size+wtL (ps.take i)+3/\wtL (ps.take i)+(8+p.wt)<=wtL ps from by rw[hsB];have:=HS.out;have:=HWL.out;omega);clear HSW hwB hkB htB hsB HJB0 HWA HKA HP0 HXA hpa hxa HW HJ HO hig;by_cases hkk:p.k=4
     ·have HF:=h! (HBAD.out (by unfold goodP;simp[hkk]));obtain⟨pk,pa,pb,pps⟩:=p;dsimp only[RT.k,RT.a,RT.b,RT.ps]at *;subst hkk;have HWC:=h! (HWB.out.flag true);have HPC:=h! (HPB.out.other (a:=⟨wb,2,none⟩) HNP.out (.bool true));have HXC:=h! (HXB.out.other (a:=⟨wb,2,none⟩) HNX.out (.bool true));have HKC:=h! (WKept.next HKB.out (WKept.flag (b:=wb) HB.out (.bool true)));have pbc:=HPB.out.cells;have xb:=HXB.out.cells;have pc:=HPC.out.cells;have xc:=HXC.out.cells;obtain⟨eb,fb⟩:=HWB.out.odd2;obtain⟨ec,fc⟩:=HWC.out.odd2;clear hmem;go_wp2_with fail
      rw[HF.out];(try simp only[Exit.inBlock,Exit.then])
      refine bodyPost_ret (results_none rfl _ _ _) rfl ?_;exact⟨rfl,tB,HWC.out,(by have:=HTB.out;omega),(by have:=HTB.out;have:=HWL.out;omega),(fun h=>by cases h),WKept.next HK1.out HKC.out⟩
     ·have hpk:(p.k == 4)=false:=by rw[beq_eq_false_iff_ne];exact hkk
      have hgood:goodP 4 d p=p.textOk d:=by unfold goodP innerD;simp[hkk,hd]
      have HWC:=h! (HWB.out.flag false);have HPC:=h! (HPB.out.other (a:=⟨wb,2,none⟩) HNP.out (.bool false));have HXC:=h! (HXB.out.other (a:=⟨wb,2,none⟩) HNX.out (.bool false));have HKC:=h! (WKept.next HKB.out (WKept.flag (b:=wb) HB.out (.bool false)));have pb:=HPB.out.cells;have xb:=HXB.out.cells;have pc:=HPC.out.cells;have xc:=HXC.out.cells;obtain⟨eb,fb⟩:=HWB.out.odd2;obtain⟨ec,fc⟩:=HWC.out.odd2;have HR:=h! (IH.out p hmem _ d _ tB (HAT.out.same (Same.below (WKept.next HK1.out HKC.out).below)) (by have:=HTB.out;have:=HLIM.out;omega) (by have:=HTB.out;have:=HPOS.out;omega) hd HWC.out (Nat.le_trans HBW.out (WKept.next HK1.out HKC.out).size));unfold rV at HR;clear hmem;go_wp2_with fail
      refine HR.out.mono ?_;rintro e wD ⟨rfl,tD,hwD,hs1,hs2,hadd,hkD⟩;have HWD:=h! hwD;have HKD:=h! (WKept.next HKC.out hkD);have HSD:=h! (show text.size<=tD.size/\tD.size<=text.size+wtL (ps.take (i+1))from by have:=HTB.out;have:=HWT.out;omega);have HOD:=h! (show(!(p.textOk d))=!((ps.take (i+1)).all (goodP 4 d))from by rw[HGD.out,hgood])
      have HJD:=h! (show(!(p.textOk d))=false->tD=text++joinT 4 (ps.take (i+1))from fun h=>by
       rw[<- HJB.out,hadd (by simpa using h)];unfold txtP;rw[if_neg (by simp)])
      clear pb xb pc xc eb fb ec fc;clear HR hwD hs1 hs2 hadd hkD HWB HKB HPB HXB HWC HPC HXC HKC hgood hd0 hd1 hd2 hd3;go_wp2_with fail
      go_roundw
      case rel=>exact⟨i+1,tD,_,by omega,by go_num,HOD.out,HWD.out,HSD.out.1,HSD.out.2,HJD.out,HKD.out⟩
      case measure=>simp[intOf];omega
  ·obtain rfl:i=ps.length:=by omega
   rw[List.take_length]at HO HJ HS;have HO2:=h! (show(!g)=o from by rw[HG.out];exact HO.out.symm);have HKE:=h! (WKept.next HK1.out hk);have HJE:=h! (show g=true->t=text++joinT 4 ps from fun h=>HJ.out (by rw[<- HO2.out,h];rfl));have HW2:=h! HW.out;clear hk HJ HW HO;go_wp2_with fail
   go_end0
   exact⟨rfl,t,by rw[HO2.out];exact HW2.out,HS.out.1,HS.out.2,HJE.out,HKE.out⟩
theorem wrule_gbad4 {B wb:Nat} {add:ByteArray} {wt:Nat} {text:ByteArray} {w:World} (ra rb:ByteArray)(n:Nat)(ao:Option Addr)(c:Nat)(d:Int)(h:WrB w B wb text false)(hBw:B<=w.heap.size)(hbad:¬ (ra.size=0/\rb.size=0/\2<=n)) :
  Calls Tryz.prog 190 #[.pointer (some ⟨wb,0,none⟩),.agg #[.int .i64 4,.string ra,.string rb,.slice ao n c],.int .i64 d] w (WRes B wb w text (false) (add) (wt)):=by
 have HW0:=h! h;have HB:=h! h.1;have HBW:=h! hBw;have HNE:=h! (show w.heap.size≠wb from by have:=h.lt;omega);clear h hBw;by_cases h0:n=0
 ·subst h0;clear hbad;have HX:=h! (Blk.made w #[.int .i64 4,.string ra,.string rb,.slice ao 0 c] 106);have HX1:=h! (HX.out.other (a:=⟨wb,2,none⟩) HNE.out (.bool true));have HX2:=h! (HX1.out.other (a:=⟨wb,2,none⟩) HNE.out (.bool true));have HW1:=h! ((HW0.out.up ((Below.refl _ w).alloc (Nat.le_refl _) (.cells #[.int .i64 4,.string ra,.string rb,.slice ao 0 c] 106))).flag true);have HW2:=h! (HW1.out.flag true);have HK2:=h! (WKept.next (WKept.next (WKept.of ((Below.refl _ w).alloc (Nat.le_refl _) (.cells #[.int .i64 4,.string ra,.string rb,.slice ao 0 c] 106)) HBW.out) (WKept.flag (b:=wb) HB.out (.bool true))) (WKept.flag (b:=wb) HB.out (.bool true)));have x0:=HX.out.cells;have x1:=HX1.out.cells;have x2:=HX2.out.cells;obtain⟨e0,f0⟩:=(HW0.out.up ((Below.refl _ w).alloc (Nat.le_refl _) (.cells #[.int .i64 4,.string ra,.string rb,.slice ao 0 c] 106))).odd2;obtain⟨e1,f1⟩:=HW1.out.odd2;obtain⟨e2,f2⟩:=HW2.out.odd2;go_enter Tryz.func190,Tryz.ntmps190
  go_wp2_with fail
  (try simp only[Exit.inBlock,Exit.then])
  refine bodyPost_ret (results_none rfl _ _ _) rfl ?_;exact WRes.bad HW2.out HK2.out
 by_cases h1:n=1
 ·subst h1;clear hbad h0;have HX:=h! (Blk.made w #[.int .i64 4,.string ra,.string rb,.slice ao 1 c] 106);have HX1:=h! (HX.out.other (a:=⟨wb,2,none⟩) HNE.out (.bool true));have HX2:=h! (HX1.out.other (a:=⟨wb,2,none⟩) HNE.out (.bool true));have HW1:=h! ((HW0.out.up ((Below.refl _ w).alloc (Nat.le_refl _) (.cells #[.int .i64 4,.string ra,.string rb,.slice ao 1 c] 106))).flag true);have HW2:=h! (HW1.out.flag true);have HK2:=h! (WKept.next (WKept.next (WKept.of ((Below.refl _ w).alloc (Nat.le_refl _) (.cells #[.int .i64 4,.string ra,.string rb,.slice ao 1 c] 106)) HBW.out) (WKept.flag (b:=wb) HB.out (.bool true))) (WKept.flag (b:=wb) HB.out (.bool true)));have x0:=HX.out.cells;have x1:=HX1.out.cells;have x2:=HX2.out.cells;obtain⟨e0,f0⟩:=(HW0.out.up ((Below.refl _ w).alloc (Nat.le_refl _) (.cells #[.int .i64 4,.string ra,.string rb,.slice ao 1 c] 106))).odd2;obtain⟨e1,f1⟩:=HW1.out.odd2;obtain⟨e2,f2⟩:=HW2.out.odd2;go_enter Tryz.func190,Tryz.ntmps190
  go_wp2_with fail
  (try simp only[Exit.inBlock,Exit.then])
  refine bodyPost_ret (results_none rfl _ _ _) rfl ?_;exact WRes.bad HW2.out HK2.out
 have hpI:(0:Int)<(n:Int):=by omega
 have hl2:¬ ((n:Int)<2):=by omega
 by_cases hnrb:rb.size=0
 ·obtain rfl:=ba_size_eq hnrb;clear hnrb;by_cases hnra:ra.size=0
  ·obtain rfl:=ba_size_eq hnra;clear hnra;exact absurd ⟨rfl,rfl,by omega⟩ hbad
  ·have hnera:=ba_size_ne hnra;clear hbad hnra h0 h1;have HX:=h! (Blk.made w #[.int .i64 4,.string ra,.string ⟨#[]⟩,.slice ao n c] 106);have HX1:=h! (HX.out.other (a:=⟨wb,2,none⟩) HNE.out (.bool false));have HX2:=h! (HX1.out.other (a:=⟨wb,2,none⟩) HNE.out (.bool true));have HW1:=h! ((HW0.out.up ((Below.refl _ w).alloc (Nat.le_refl _) (.cells #[.int .i64 4,.string ra,.string ⟨#[]⟩,.slice ao n c] 106))).flag false);have HW2:=h! (HW1.out.flag true);have HK2:=h! (WKept.next (WKept.next (WKept.of ((Below.refl _ w).alloc (Nat.le_refl _) (.cells #[.int .i64 4,.string ra,.string ⟨#[]⟩,.slice ao n c] 106)) HBW.out) (WKept.flag (b:=wb) HB.out (.bool false))) (WKept.flag (b:=wb) HB.out (.bool true)));have x0:=HX.out.cells;have x1:=HX1.out.cells;have x2:=HX2.out.cells;obtain⟨e0,f0⟩:=(HW0.out.up ((Below.refl _ w).alloc (Nat.le_refl _) (.cells #[.int .i64 4,.string ra,.string ⟨#[]⟩,.slice ao n c] 106))).odd2;obtain⟨e1,f1⟩:=HW1.out.odd2;obtain⟨e2,f2⟩:=HW2.out.odd2;go_enter Tryz.func190,Tryz.ntmps190
   go_wp2_with fail
   (try simp only[Exit.inBlock,Exit.then])
   refine bodyPost_ret (results_none rfl _ _ _) rfl ?_;exact WRes.bad HW2.out HK2.out
 ·have hnerb:=ba_size_ne hnrb;clear hbad hnrb h0 h1;have HX:=h! (Blk.made w #[.int .i64 4,.string ra,.string rb,.slice ao n c] 106);have HX1:=h! (HX.out.other (a:=⟨wb,2,none⟩) HNE.out (.bool false));have HX2:=h! (HX1.out.other (a:=⟨wb,2,none⟩) HNE.out (.bool true));have HW1:=h! ((HW0.out.up ((Below.refl _ w).alloc (Nat.le_refl _) (.cells #[.int .i64 4,.string ra,.string rb,.slice ao n c] 106))).flag false);have HW2:=h! (HW1.out.flag true);have HK2:=h! (WKept.next (WKept.next (WKept.of ((Below.refl _ w).alloc (Nat.le_refl _) (.cells #[.int .i64 4,.string ra,.string rb,.slice ao n c] 106)) HBW.out) (WKept.flag (b:=wb) HB.out (.bool false))) (WKept.flag (b:=wb) HB.out (.bool true)));have x0:=HX.out.cells;have x1:=HX1.out.cells;have x2:=HX2.out.cells;obtain⟨e0,f0⟩:=(HW0.out.up ((Below.refl _ w).alloc (Nat.le_refl _) (.cells #[.int .i64 4,.string ra,.string rb,.slice ao n c] 106))).odd2;obtain⟨e1,f1⟩:=HW1.out.odd2;obtain⟨e2,f2⟩:=HW2.out.odd2;go_enter Tryz.func190,Tryz.ntmps190
  go_wp2_with fail
  (try simp only[Exit.inBlock,Exit.then])
  refine bodyPost_ret (results_none rfl _ _ _) rfl ?_;exact WRes.bad HW2.out HK2.out
theorem wrule_g4 {B wb:Nat} {text:ByteArray} {w:World} (ps:List RT)(d:Nat)(hd:d<=8)(pv:Value)(h:WrB w B wb text false)(hBw:B<=w.heap.size)(hat:RTAt (· < B) w (.mk 4 ⟨#[]⟩ ⟨#[]⟩ ps) pv)(hpos:0<text.size)(hlim:text.size+wtL ps<=1099511627776)(h2:2<=ps.length)
  (ih:∀ p∈ps,∀ (pv:Value) (d:Nat) (w:World) (text:ByteArray),RTAt (· < B) w p pv->text.size+p.wt<=1099511627776->0<text.size->d<=8->WrB w B wb text false->B<=w.heap.size->Calls Tryz.prog 190 #[.pointer (some ⟨wb,0,none⟩),rV p pv,.int .i64 d] w (WRes B wb w text (p.textOk d) p.text p.wt)) :
  Calls Tryz.prog 190 #[.pointer (some ⟨wb,0,none⟩),rV (.mk 4 ⟨#[]⟩ ⟨#[]⟩ ps) pv,.int .i64 d] w (WRes B wb w text (ps.all (goodP 4 d)) (joinT 4 ps) (wtL ps)):=by
 have HAT:=h! hat;obtain⟨ao,c,rfl,-⟩:=hat.rows;have IH:=h! ih;have HPOS:=h! hpos;have HD:=h! hd;have HLIM:=h! hlim;unfold rV;dsimp only[RT.k,RT.a,RT.b,RT.ps]at HAT ⊢;have hpI:(0:Int)<(ps.length:Int):=by omega
 have hl2:¬ ((ps.length:Int)<2):=by omega
 clear hat ih hpos hlim h2 hd;have HW0:=h! h;have HB:=h! h.1;have HBW:=h! hBw;have HNE:=h! (show w.heap.size≠wb from by have:=h.lt;omega);clear h hBw;have HX:=h! (Blk.made w #[.int .i64 4,.string ⟨#[]⟩,.string ⟨#[]⟩,.slice ao ps.length c] 106);have HX1:=h! (HX.out.other (a:=⟨wb,2,none⟩) HNE.out (.bool false));have HX2:=h! (HX1.out.other (a:=⟨wb,2,none⟩) HNE.out (.bool false));have HW1:=h! ((HW0.out.up ((Below.refl _ w).alloc (Nat.le_refl _) (.cells #[.int .i64 4,.string ⟨#[]⟩,.string ⟨#[]⟩,.slice ao ps.length c] 106))).flag false);have HW2:=h! (HW1.out.flag false);have HK2:=h! (WKept.next (WKept.next (WKept.of ((Below.refl _ w).alloc (Nat.le_refl _) (.cells #[.int .i64 4,.string ⟨#[]⟩,.string ⟨#[]⟩,.slice ao ps.length c] 106)) HBW.out) (WKept.flag (b:=wb) HB.out (.bool false))) (WKept.flag (b:=wb) HB.out (.bool false)));have x0:=HX.out.cells;have x1:=HX1.out.cells;have x2:=HX2.out.cells;obtain⟨e0,f0⟩:=(HW0.out.up ((Below.refl _ w).alloc (Nat.le_refl _) (.cells #[.int .i64 4,.string ⟨#[]⟩,.string ⟨#[]⟩,.slice ao ps.length c] 106))).odd2;obtain⟨e1,f1⟩:=HW1.out.odd2;obtain⟨e2,f2⟩:=HW2.out.odd2;go_enter Tryz.func190,Tryz.ntmps190
 go_wp2_with fail
 obtain⟨w3,hw3⟩:∃ w3,w3=((w.alloc (.cells #[.int .i64 4,.string ⟨#[]⟩,.string ⟨#[]⟩,.slice ao ps.length c] 106)).setCell ⟨wb,2,none⟩ (.bool false)).setCell ⟨wb,2,none⟩ (.bool false):=⟨_,rfl⟩;rw[<- hw3]at HX2 HW2 HK2 ⊢;clear hw3 HX HX1 HW1 x0 x1 x2 e0 e1 e2 f0 f1 f2;have HB3:=h! (Nat.le_trans HBW.out HK2.out.size);have HR:=h! (wparts_4 ps d HD.out _ HW2.out HB3.out (HAT.out.same (Same.below HK2.out.below)) HPOS.out HLIM.out IH.out);unfold rV at HR;dsimp only[RT.k,RT.a,RT.b]at HR;refine HR.out.mono ?_;rintro e w4 ⟨rfl,t4,hw4,hs1,hs2,hadd,hk4⟩;have HRS:=h! (show WRes B wb w text (ps.all (goodP 4 d)) (joinT 4 ps) (wtL ps) (.returned (.tuple #[])) w4 from⟨rfl,t4,hw4,hs1,hs2,hadd,WKept.next HK2.out hk4⟩);clear HR hw4 hs1 hs2 hadd hk4;go_wp2_with fail
 go_end0
 exact HRS.out
theorem wparts_5 {B wb:Nat} {text:ByteArray} {w:World} (ps:List RT)(d:Nat)(hd:d<=8)(pv:Value)(h:WrB w B wb text false)(hBw:B<=w.heap.size)(hat:RTAt (· < B) w (.mk 5 ⟨#[]⟩ ⟨#[]⟩ ps) pv)(hpos:0<text.size)(hlim:text.size+wtL ps<=1099511627776)
  (ih:∀ p∈ps,∀ (pv:Value) (d:Nat) (w:World) (text:ByteArray),RTAt (· < B) w p pv->text.size+p.wt<=1099511627776->0<text.size->d<=8->WrB w B wb text false->B<=w.heap.size->Calls Tryz.prog 190 #[.pointer (some ⟨wb,0,none⟩),rV p pv,.int .i64 d] w (WRes B wb w text (p.textOk d) p.text p.wt)) :
  Calls Tryz.prog 231 #[.pointer (some ⟨wb,0,none⟩),rV (.mk 5 ⟨#[]⟩ ⟨#[]⟩ ps) pv,.string ⟨#[32,38,32]⟩,.int .i64 d] w (WRes B wb w text (ps.all (goodP 5 d)) (joinT 5 ps) (wtL ps)):=by
 obtain⟨ao,c,rfl,hlc,hcm,hcell⟩:=hat.rows;dsimp only[RT.ps]at hlc hcell ⊢;have HC:=h! hcell;have IH:=h! ih;have HPOS:=h! hpos;have HB:=h! h.1;have HBW:=h! hBw;have HNX:=h! (show w.heap.size≠wb from by have:=h.lt;omega);have HLIM:=h! hlim;have hBX:=Blk.made w #[.int .i64 5,.string ⟨#[]⟩,.string ⟨#[]⟩,.slice ao ps.length c] 106;have HW1:=h! (h.up ((Below.refl _ w).alloc (Nat.le_refl _) (.cells #[.int .i64 5,.string ⟨#[]⟩,.string ⟨#[]⟩,.slice ao ps.length c] 106)));have HK1:=h! (WKept.of (b:=wb) ((Below.refl _ w).alloc (Nat.le_refl _) (.cells #[.int .i64 5,.string ⟨#[]⟩,.string ⟨#[]⟩,.slice ao ps.length c] 106)) hBw);have hbk:=hBX.cells;unfold rV;dsimp only[RT.k,RT.a,RT.b];generalize hg:ps.all (goodP 5 d)=g;have HG:=h! hg.symm;clear hat hcell ih hpos h hBw hlim hg;go_enter Tryz.func231,Tryz.ntmps231
 go_wp2_with fail
 obtain⟨w1,hw1⟩:∃ w1,w1=w.alloc (.cells #[.int .i64 5,.string ⟨#[]⟩,.string ⟨#[]⟩,.slice ao ps.length c] 106):=⟨_,rfl⟩;rw[<- hw1]at hBX HW1 HK1 ⊢;have HBX0:=h! hBX;clear hbk hw1 hBX;generalize hX:w.heap.size=X at *;have HX:=h! hX;have HBW:=h! (show B<=w.heap.size from by rw[HX.out];exact HBW.out);clear hX;go_loopw [13] (fun ii wr=>∃ (i:Nat) (t:ByteArray) (o:Bool),i<=ps.length/\ii = .int .i64 i/\o=!((ps.take i).all (goodP 5 d))/\WrB wr B wb t o/\text.size<=t.size/\t.size<=text.size+wtL (ps.take i)/\(o=false->t=text++joinT 5 (ps.take i))/\WKept B wb w1 wr) (fun ii _=>ps.length-(intOf ii).toNat)
 case atStart=>exact⟨0,text,false,by omega,rfl,rfl,HW1.out,Nat.le_refl _,Nat.le_add_right _ _,fun _=>by rw[List.take_zero];exact(ByteArray.append_empty).symm,Kept.refl _ _⟩
 case round =>
  obtain⟨i,t,o,hi,rfl,ho,hw,hs1,hs2,hj,hk⟩:=hrel;have HO:=h! ho;have HW:=h! hw;have HJ:=h! hj;have HK:=h! hk;have HS:=h! (And.intro hs1 hs2);clear HW1 ho hw hj hs1 hs2;by_cases hlt:i<ps.length
  ·have hbel:Below B w wr:=(WKept.next HK1.out hk).below;have HWT:=h! (wtL_take hlt);have HWL:=h! (show wtL (ps.take i)+(8+ps[i].wt)<=wtL ps from by have:=wtL_le ps (i+1);rw[wtL_take hlt]at this;exact this);have HJT:=h! (joinT_take 5 hlt);have HAT0:=fun(h:goodP 5 d ps[i]=false)=>(show g=false from by rw[HG.out];exact List.all_eq_false.2 ⟨ps[i],List.getElem_mem hlt,by rw[h];exact Bool.false_ne_true⟩);have HBAD:=h! (fun(h:goodP 5 d ps[i]=false)=>HAT0 h);have HGT:=h! (show(ps.take (i+1)).all (goodP 5 d)=((ps.take i).all (goodP 5 d)&&goodP 5 d ps[i])from by rw[List.take_succ_eq_append_getElem hlt,List.all_append];simp);have hmem:=List.getElem_mem hlt;obtain⟨bb,off,pv2,hbo,hb,c0,c1,c2,c3,hat2⟩:=HC.out i hlt;cases hbo;have hd0:=(hbel.cell (p:=⟨bb,off+i*4,none⟩) hb).trans c0;have hd1:=(hbel.cell (p:=⟨bb,off+i*4+1,none⟩) hb).trans c1;have hd2:=(hbel.cell (p:=⟨bb,off+i*4+2,none⟩) hb).trans c2;have hd3:=(hbel.cell (p:=⟨bb,off+i*4+3,none⟩) hb).trans c3;obtain⟨ao2,c2',rfl,-⟩:=hat2.rows;have HAT:=h! hat2;clear c0 c1 c2 c3 hat2 hbel HAT0;generalize ps[i]=p at *;have HP0:=h! (Blk.made wr #[.int .i64 p.k,.string p.a,.string p.b,.slice ao2 p.ps.length c2'] 106);have HNP:=h! (show wr.heap.size≠wb from by have:=HW.out.lt;omega);have hxlt:X<wr.heap.size:=Nat.lt_of_lt_of_le HBX0.out.lt hk.size;have HBR:=h! (Nat.le_trans HBW.out (by rw[HX.out];exact Nat.le_of_lt hxlt));have HKA:=h! (WKept.next hk (WKept.of ((Below.refl _ wr).alloc (Nat.le_refl _) (.cells #[.int .i64 p.k,.string p.a,.string p.b,.slice ao2 p.ps.length c2'] 106)) HBR.out));have HXA:=h! (HKA.out.box HBX0.out (by decide) HNX.out);have HWA:=h! (HW.out.up ((Below.refl _ wr).alloc (Nat.le_refl _) (.cells #[.int .i64 p.k,.string p.a,.string p.b,.slice ao2 p.ps.length c2'] 106)));have hpa:=HP0.out.cells;have hxa:=HXA.out.cells;clear hk;cases o with
   | true =>
    have hall:(ps.take i).all (goodP 5 d)=false:=by have:=HO.out;simpa using this
    have hig:(0:Int)<(i:Int):=by
     have:i≠0:=fun h=>by rw[h]at hall;simp at hall
     omega
    have HF:=h! (show g=false from by
     rw[HG.out];have:=hall;rw[<- List.take_append_drop i ps,List.all_append,hall];rfl)
    have HSW:=h! (writeString_any ⟨#[32,38,32]⟩ HWA.out (by have:=HS.out;have:=HLIM.out;have:=HWL.out;show _+3<=_;omega) (by show 0<_+3;omega) (Nat.le_trans HBW.out (WKept.next HK1.out HKA.out).size));rw[HF.out];clear hall hmem;go_wp2_with fail
    refine HSW.out.mono ?_;rintro e wB ⟨rfl,hwB,hkB⟩;have HKB:=h! (WKept.next HKA.out (WKept.next hkB (WKept.flag (b:=wb) HB.out (.bool true))));have HWC:=h! (hwB.flag true);obtain⟨eb,fb⟩:=hwB.odd2;obtain⟨ec,fc⟩:=HWC.out.odd2;clear HSW hwB hkB hpa hxa hd0 hd1 hd2 hd3 hig;go_wp2_with fail
    (try simp only[Exit.inBlock,Exit.then])
    refine bodyPost_ret (results_none rfl _ _ _) rfl ?_;exact⟨rfl,t++⟨#[32,38,32]⟩,HWC.out,(by rw[ByteArray.size_append];have:=HS.out;omega),(by rw[ByteArray.size_append];have:=HS.out;have:=HWL.out;show _+3<=_;omega),(fun h=>by cases h),WKept.next HK1.out HKB.out⟩
   | false =>
    have hall:(ps.take i).all (goodP 5 d)=true:=by have:=HO.out;simpa using this
    have HGD:=h! (show(ps.take (i+1)).all (goodP 5 d)=goodP 5 d p from by rw[HGT.out,hall,Bool.true_and]);have HJ2:=h! (HJ.out rfl);clear hall;by_cases hi0:i=0
    ·have hig:¬ ((0:Int)<(i:Int)):=by omega
     obtain⟨tB,htB⟩:∃ tB,tB=t:=⟨_,rfl⟩;have HTB:=h! (show text.size<=tB.size/\tB.size<=text.size+wtL (ps.take i)+3/\wtL (ps.take i)+(8+p.wt)<=wtL ps from by rw[htB];have:=HS.out;have:=HWL.out;omega);have HJB:=h! (show tB++txtP 5 p=text++joinT 5 (ps.take (i+1))from by rw[htB,HJ2.out,HJT.out,if_pos hi0,hi0,List.take_zero];show text++ByteArray.empty++_=_;rw[ByteArray.append_empty]);rw[<- htB]at HWA;clear htB hi0;have HWB:=h! HWA.out;have HKB:=h! HKA.out;have HPB:=h! HP0.out;have HXB:=h! HXA.out;clear HWA HKA HP0 HXA hpa hxa HW HJ HO;by_cases hkk:p.k=5
     ·have HF:=h! (HBAD.out (by unfold goodP;simp[hkk]));obtain⟨pk,pa,pb,pps⟩:=p;dsimp only[RT.k,RT.a,RT.b,RT.ps]at *;subst hkk;have HWC:=h! (HWB.out.flag true);have HPC:=h! (HPB.out.other (a:=⟨wb,2,none⟩) HNP.out (.bool true));have HXC:=h! (HXB.out.other (a:=⟨wb,2,none⟩) HNX.out (.bool true));have HKC:=h! (WKept.next HKB.out (WKept.flag (b:=wb) HB.out (.bool true)));have pbc:=HPB.out.cells;have xb:=HXB.out.cells;have pc:=HPC.out.cells;have xc:=HXC.out.cells;obtain⟨eb,fb⟩:=HWB.out.odd2;obtain⟨ec,fc⟩:=HWC.out.odd2;clear hmem;go_wp2_with fail
      rw[HF.out];(try simp only[Exit.inBlock,Exit.then])
      refine bodyPost_ret (results_none rfl _ _ _) rfl ?_;exact⟨rfl,tB,HWC.out,(by have:=HTB.out;omega),(by have:=HTB.out;have:=HWL.out;omega),(fun h=>by cases h),WKept.next HK1.out HKC.out⟩
     ·have hpk:(p.k == 5)=false:=by rw[beq_eq_false_iff_ne];exact hkk
      by_cases hk4:p.k=4
      ·clear hpk hkk;obtain⟨pk,pa,pb,pps⟩:=p;dsimp only[RT.k,RT.a,RT.b,RT.ps]at *;subst hk4;have HWC:=h! (HWB.out.flag false);have HPC:=h! (HPB.out.other (a:=⟨wb,2,none⟩) HNP.out (.bool false));have HXC:=h! (HXB.out.other (a:=⟨wb,2,none⟩) HNX.out (.bool false));have HKC:=h! (WKept.next HKB.out (WKept.flag (b:=wb) HB.out (.bool false)));have pbc:=HPB.out.cells;have xb:=HXB.out.cells;have pc:=HPC.out.cells;have xc:=HXC.out.cells;obtain⟨eb,fb⟩:=HWB.out.odd2;obtain⟨ec,fc⟩:=HWC.out.odd2;have HS:=h! (writeString_any ⟨#[40]⟩ HWC.out (by have:=HTB.out;have:=HLIM.out;show _+1<=_;omega) (by show 0<_+1;omega) (Nat.le_trans HBW.out (WKept.next HK1.out HKC.out).size));go_wp2_with fail
       refine HS.out.mono ?_;rintro e wD ⟨rfl,hwD,hkD⟩;have HKD:=h! (WKept.next HKC.out hkD);have HPD:=h! (hkD.box HPC.out (by decide) HNP.out);clear pbc xb pc xc eb fb ec fc;clear HS hkD;by_cases hd8:d=8
       ·have hgood:goodP 5 d (.mk 4 pa pb pps)=false:=by unfold goodP innerD;simp[RT.k,hd8]
        have hdB:((d:Int) == 8)=true:=by rw[beq_iff_eq];omega
        clear hd8;have HWE:=h! (hwD.flag true);have HPE:=h! (HPD.out.other (a:=⟨wb,2,none⟩) HNP.out (.bool true));have HKE:=h! (WKept.next HKD.out (WKept.flag (b:=wb) HB.out (.bool true)));have HBE:=h! (Nat.le_trans HBW.out (WKept.next HK1.out HKE.out).size);have HR:=h! (wrule_odd (d:=(d:Int)+1) 4 pa pb pps.length ao2 c2' HWE.out HBE.out);have pd:=HPD.out.cells;have pe:=HPE.out.cells;obtain⟨ed,fd⟩:=hwD.odd2;obtain⟨ee,fe⟩:=HWE.out.odd2;clear hwD;go_wp2_with fail
        refine HR.out.mono ?_;rintro e wF ⟨rfl,hwF,hkF⟩;have HKF:=h! (WKept.next HKE.out hkF);have HS2:=h! (writeString_any ⟨#[41]⟩ hwF (by have:=HTB.out;have:=HLIM.out;rw[ByteArray.size_append];show _+1+1<=_;omega) (by rw[ByteArray.size_append];show 0<_+1;omega) (Nat.le_trans HBW.out (WKept.next HK1.out HKF.out).size))
        have HSZ:=h! (show text.size<=(tB++⟨#[40]⟩++⟨#[41]⟩).size/\(tB++⟨#[40]⟩++⟨#[41]⟩).size<=text.size+wtL (ps.take (i+1))from by
         have:=HTB.out;have:=HWT.out;simp only[ByteArray.size_append];rw[show(⟨#[40]⟩:ByteArray).size=1 from rfl,show(⟨#[41]⟩:ByteArray).size=1 from rfl];omega)
        have HOD:=h! (show true=!((ps.take (i+1)).all (goodP 5 d))from by rw[HGD.out,hgood];rfl);have HJD:=h! (show true=false->(tB++⟨#[40]⟩++⟨#[41]⟩)=text++joinT 5 (ps.take (i+1))from fun h=>by cases h);clear hwF hkF;clear HR pd pe ed ee fd fe;go_wp2_with fail
        refine HS2.out.mono ?_;rintro e wG ⟨rfl,hwG,hkG⟩;have HWG:=h! hwG;have HKG:=h! (WKept.next HKF.out hkG);clear HS2 hwG hkG HWB HKB HPB HXB HWC HPC HXC HKC HPD HKD HWE HPE HKE hgood hd0 hd1 hd2 hd3;go_wp2_with fail
        go_roundw
        case rel=>exact⟨i+1,(tB++⟨#[40]⟩++⟨#[41]⟩),_,by omega,by go_num,HOD.out,HWG.out,HSZ.out.1,HSZ.out.2,HJD.out,HKG.out⟩
        case measure=>simp[intOf];omega
       ·have hd9:d+1<=8:=by omega
        have hgood:goodP 5 d (.mk 4 pa pb pps)=(RT.mk 4 pa pb pps).textOk (d+1):=by unfold goodP innerD;simp[RT.k,hd9]
        have hdI:¬ ((d:Int)=8):=by omega
        have hdB:((d:Int) == 8)=false:=by rw[beq_eq_false_iff_ne];exact hdI
        have HWE:=h! (hwD.flag false);have HPE:=h! (HPD.out.other (a:=⟨wb,2,none⟩) HNP.out (.bool false));have HKE:=h! (WKept.next HKD.out (WKept.flag (b:=wb) HB.out (.bool false)));have HBE:=h! (Nat.le_trans HBW.out (WKept.next HK1.out HKE.out).size);have HR:=h! (IH.out (.mk 4 pa pb pps) hmem _ (d+1) _ (tB++⟨#[40]⟩) (HAT.out.same (Same.below (WKept.next HK1.out HKE.out).below)) (by have:=HTB.out;have:=HLIM.out;rw[ByteArray.size_append];show _+1+_<=_;omega) (by have:=HTB.out;have:=HPOS.out;rw[ByteArray.size_append];omega) (by omega) HWE.out HBE.out);unfold rV at HR;dsimp only[RT.k,RT.a,RT.b,RT.ps]at HR;rw[show((d+1:Nat):Int)=(d:Int)+1 from rfl]at HR;have pd:=HPD.out.cells;have pe:=HPE.out.cells;obtain⟨ed,fd⟩:=hwD.odd2;obtain⟨ee,fe⟩:=HWE.out.odd2;clear hwD;go_wp2_with fail
        refine HR.out.mono ?_;rintro e wF ⟨rfl,tF,hwF,hs1,hs2,hadd,hkF⟩;have HKF:=h! (WKept.next HKE.out hkF);rw[ByteArray.size_append,show(⟨#[40]⟩:ByteArray).size=1 from rfl]at hs1 hs2;have HS2:=h! (writeString_any ⟨#[41]⟩ hwF (by have:=HTB.out;have:=HLIM.out;show _+1<=_;omega) (by show 0<_+1;omega) (Nat.le_trans HBW.out (WKept.next HK1.out HKF.out).size))
        have HSZ:=h! (show text.size<=(tF++⟨#[41]⟩).size/\(tF++⟨#[41]⟩).size<=text.size+wtL (ps.take (i+1))from by
         have:=HTB.out;have:=HWT.out;simp only[ByteArray.size_append];rw[show(⟨#[41]⟩:ByteArray).size=1 from rfl];omega)
        have HOD:=h! (show(!((RT.mk 4 pa pb pps).textOk (d+1)))=!((ps.take (i+1)).all (goodP 5 d))from by rw[HGD.out,hgood])
        have HJD:=h! (show(!((RT.mk 4 pa pb pps).textOk (d+1)))=false->(tF++⟨#[41]⟩)=text++joinT 5 (ps.take (i+1))from fun h=>by
         rw[<- HJB.out,hadd (by simpa using h)];unfold txtP;rw[if_pos ⟨rfl,rfl⟩];simp only[ByteArray.append_assoc])
        clear hwF hkF hs1 hs2 hadd;clear HR pd pe ed ee fd fe;go_wp2_with fail
        refine HS2.out.mono ?_;rintro e wG ⟨rfl,hwG,hkG⟩;have HWG:=h! hwG;have HKG:=h! (WKept.next HKF.out hkG);clear HS2 hwG hkG HWB HKB HPB HXB HWC HPC HXC HKC HPD HKD HWE HPE HKE hgood hd0 hd1 hd2 hd3;go_wp2_with fail
        go_roundw
        case rel=>exact⟨i+1,(tF++⟨#[41]⟩),_,by omega,by go_num,HOD.out,HWG.out,HSZ.out.1,HSZ.out.2,HJD.out,HKG.out⟩
        case measure=>simp[intOf];omega
      ·have hpk4:(p.k != 4)=true:=by rw[bne_iff_ne];exact hk4
       have hgood:goodP 5 d p=p.textOk d:=by unfold goodP innerD;simp[hkk,hd,hk4]
       have HWC:=h! (HWB.out.flag false);have HPC:=h! (HPB.out.other (a:=⟨wb,2,none⟩) HNP.out (.bool false));have HXC:=h! (HXB.out.other (a:=⟨wb,2,none⟩) HNX.out (.bool false));have HKC:=h! (WKept.next HKB.out (WKept.flag (b:=wb) HB.out (.bool false)));have pb:=HPB.out.cells;have xb:=HXB.out.cells;have pc:=HPC.out.cells;have xc:=HXC.out.cells;obtain⟨eb,fb⟩:=HWB.out.odd2;obtain⟨ec,fc⟩:=HWC.out.odd2;have HR:=h! (IH.out p hmem _ d _ tB (HAT.out.same (Same.below (WKept.next HK1.out HKC.out).below)) (by have:=HTB.out;have:=HLIM.out;omega) (by have:=HTB.out;have:=HPOS.out;omega) hd HWC.out (Nat.le_trans HBW.out (WKept.next HK1.out HKC.out).size));unfold rV at HR;clear hmem;go_wp2_with fail
       refine HR.out.mono ?_;rintro e wD ⟨rfl,tD,hwD,hs1,hs2,hadd,hkD⟩;have HWD:=h! hwD;have HKD:=h! (WKept.next HKC.out hkD);have HSD:=h! (show text.size<=tD.size/\tD.size<=text.size+wtL (ps.take (i+1))from by have:=HTB.out;have:=HWT.out;omega);have HOD:=h! (show(!(p.textOk d))=!((ps.take (i+1)).all (goodP 5 d))from by rw[HGD.out,hgood])
       have HJD:=h! (show(!(p.textOk d))=false->tD=text++joinT 5 (ps.take (i+1))from fun h=>by
        rw[<- HJB.out,hadd (by simpa using h)];unfold txtP;rw[if_neg (by simp[hk4])])
       clear pb xb pc xc eb fb ec fc;clear HR hwD hs1 hs2 hadd hkD HWB HKB HPB HXB HWC HPC HXC HKC hgood hd0 hd1 hd2 hd3;go_wp2_with fail
       go_roundw
       case rel=>exact⟨i+1,tD,_,by omega,by go_num,HOD.out,HWD.out,HSD.out.1,HSD.out.2,HJD.out,HKD.out⟩
       case measure=>simp[intOf];omega
    ·have hig:(0:Int)<(i:Int):=by omega
     have HSW:=h! (writeString_any ⟨#[32,38,32]⟩ HWA.out (by have:=HS.out;have:=HLIM.out;have:=HWL.out;show _+3<=_;omega) (by show 0<_+3;omega) (Nat.le_trans HBW.out (WKept.next HK1.out HKA.out).size));have HJB0:=h! (show t++⟨#[32,38,32]⟩++txtP 5 p=text++joinT 5 (ps.take (i+1))from by rw[HJ2.out,HJT.out,if_neg hi0];simp only[ByteArray.append_assoc];rfl);clear hi0;go_wp2_with fail
     refine HSW.out.mono ?_;rintro e wB ⟨rfl,hwB,hkB⟩;have HKB:=h! (WKept.next HKA.out hkB);have HPB:=h! (hkB.box HP0.out (by decide) HNP.out);have HXB:=h! (hkB.box HXA.out (by decide) HNX.out);have hsB:(t++⟨#[32,38,32]⟩).size=t.size+3:=by rw[ByteArray.size_append];rfl
     obtain⟨tB,htB⟩:∃ tB,tB=t++⟨#[32,38,32]⟩:=⟨_,rfl⟩;rw[<- htB]at hwB HJB0 hsB;have HWB:=h! hwB;have HJB:=h! HJB0.out;have HTB:=h! (show text.size<=tB.size/\tB.size<=text.size+wtL (ps.take i)+3/\wtL (ps.take i)+(8+p.wt)<=wtL ps from by rw[hsB];have:=HS.out;have:=HWL.out;omega);clear HSW hwB hkB htB hsB HJB0 HWA HKA HP0 HXA hpa hxa HW HJ HO hig;by_cases hkk:p.k=5
     ·have HF:=h! (HBAD.out (by unfold goodP;simp[hkk]));obtain⟨pk,pa,pb,pps⟩:=p;dsimp only[RT.k,RT.a,RT.b,RT.ps]at *;subst hkk;have HWC:=h! (HWB.out.flag true);have HPC:=h! (HPB.out.other (a:=⟨wb,2,none⟩) HNP.out (.bool true));have HXC:=h! (HXB.out.other (a:=⟨wb,2,none⟩) HNX.out (.bool true));have HKC:=h! (WKept.next HKB.out (WKept.flag (b:=wb) HB.out (.bool true)));have pbc:=HPB.out.cells;have xb:=HXB.out.cells;have pc:=HPC.out.cells;have xc:=HXC.out.cells;obtain⟨eb,fb⟩:=HWB.out.odd2;obtain⟨ec,fc⟩:=HWC.out.odd2;clear hmem;go_wp2_with fail
      rw[HF.out];(try simp only[Exit.inBlock,Exit.then])
      refine bodyPost_ret (results_none rfl _ _ _) rfl ?_;exact⟨rfl,tB,HWC.out,(by have:=HTB.out;omega),(by have:=HTB.out;have:=HWL.out;omega),(fun h=>by cases h),WKept.next HK1.out HKC.out⟩
     ·have hpk:(p.k == 5)=false:=by rw[beq_eq_false_iff_ne];exact hkk
      by_cases hk4:p.k=4
      ·clear hpk hkk;obtain⟨pk,pa,pb,pps⟩:=p;dsimp only[RT.k,RT.a,RT.b,RT.ps]at *;subst hk4;have HWC:=h! (HWB.out.flag false);have HPC:=h! (HPB.out.other (a:=⟨wb,2,none⟩) HNP.out (.bool false));have HXC:=h! (HXB.out.other (a:=⟨wb,2,none⟩) HNX.out (.bool false));have HKC:=h! (WKept.next HKB.out (WKept.flag (b:=wb) HB.out (.bool false)));have pbc:=HPB.out.cells;have xb:=HXB.out.cells;have pc:=HPC.out.cells;have xc:=HXC.out.cells;obtain⟨eb,fb⟩:=HWB.out.odd2;obtain⟨ec,fc⟩:=HWC.out.odd2;have HS:=h! (writeString_any ⟨#[40]⟩ HWC.out (by have:=HTB.out;have:=HLIM.out;show _+1<=_;omega) (by show 0<_+1;omega) (Nat.le_trans HBW.out (WKept.next HK1.out HKC.out).size));go_wp2_with fail
       refine HS.out.mono ?_;rintro e wD ⟨rfl,hwD,hkD⟩;have HKD:=h! (WKept.next HKC.out hkD);have HPD:=h! (hkD.box HPC.out (by decide) HNP.out);clear pbc xb pc xc eb fb ec fc;clear HS hkD;by_cases hd8:d=8
       ·have hgood:goodP 5 d (.mk 4 pa pb pps)=false:=by unfold goodP innerD;simp[RT.k,hd8]
        have hdB:((d:Int) == 8)=true:=by rw[beq_iff_eq];omega
        clear hd8;have HWE:=h! (hwD.flag true);have HPE:=h! (HPD.out.other (a:=⟨wb,2,none⟩) HNP.out (.bool true));have HKE:=h! (WKept.next HKD.out (WKept.flag (b:=wb) HB.out (.bool true)));have HBE:=h! (Nat.le_trans HBW.out (WKept.next HK1.out HKE.out).size);have HR:=h! (wrule_odd (d:=(d:Int)+1) 4 pa pb pps.length ao2 c2' HWE.out HBE.out);have pd:=HPD.out.cells;have pe:=HPE.out.cells;obtain⟨ed,fd⟩:=hwD.odd2;obtain⟨ee,fe⟩:=HWE.out.odd2;clear hwD;go_wp2_with fail
        refine HR.out.mono ?_;rintro e wF ⟨rfl,hwF,hkF⟩;have HKF:=h! (WKept.next HKE.out hkF);have HS2:=h! (writeString_any ⟨#[41]⟩ hwF (by have:=HTB.out;have:=HLIM.out;rw[ByteArray.size_append];show _+1+1<=_;omega) (by rw[ByteArray.size_append];show 0<_+1;omega) (Nat.le_trans HBW.out (WKept.next HK1.out HKF.out).size))
        have HSZ:=h! (show text.size<=(tB++⟨#[40]⟩++⟨#[41]⟩).size/\(tB++⟨#[40]⟩++⟨#[41]⟩).size<=text.size+wtL (ps.take (i+1))from by
         have:=HTB.out;have:=HWT.out;simp only[ByteArray.size_append];rw[show(⟨#[40]⟩:ByteArray).size=1 from rfl,show(⟨#[41]⟩:ByteArray).size=1 from rfl];omega)
        have HOD:=h! (show true=!((ps.take (i+1)).all (goodP 5 d))from by rw[HGD.out,hgood];rfl);have HJD:=h! (show true=false->(tB++⟨#[40]⟩++⟨#[41]⟩)=text++joinT 5 (ps.take (i+1))from fun h=>by cases h);clear hwF hkF;clear HR pd pe ed ee fd fe;go_wp2_with fail
        refine HS2.out.mono ?_;rintro e wG ⟨rfl,hwG,hkG⟩;have HWG:=h! hwG;have HKG:=h! (WKept.next HKF.out hkG);clear HS2 hwG hkG HWB HKB HPB HXB HWC HPC HXC HKC HPD HKD HWE HPE HKE hgood hd0 hd1 hd2 hd3;go_wp2_with fail
        go_roundw
        case rel=>exact⟨i+1,(tB++⟨#[40]⟩++⟨#[41]⟩),_,by omega,by go_num,HOD.out,HWG.out,HSZ.out.1,HSZ.out.2,HJD.out,HKG.out⟩
        case measure=>simp[intOf];omega
       ·have hd9:d+1<=8:=by omega
        have hgood:goodP 5 d (.mk 4 pa pb pps)=(RT.mk 4 pa pb pps).textOk (d+1):=by unfold goodP innerD;simp[RT.k,hd9]
        have hdI:¬ ((d:Int)=8):=by omega
        have hdB:((d:Int) == 8)=false:=by rw[beq_eq_false_iff_ne];exact hdI
        have HWE:=h! (hwD.flag false);have HPE:=h! (HPD.out.other (a:=⟨wb,2,none⟩) HNP.out (.bool false));have HKE:=h! (WKept.next HKD.out (WKept.flag (b:=wb) HB.out (.bool false)));have HBE:=h! (Nat.le_trans HBW.out (WKept.next HK1.out HKE.out).size);have HR:=h! (IH.out (.mk 4 pa pb pps) hmem _ (d+1) _ (tB++⟨#[40]⟩) (HAT.out.same (Same.below (WKept.next HK1.out HKE.out).below)) (by have:=HTB.out;have:=HLIM.out;rw[ByteArray.size_append];show _+1+_<=_;omega) (by have:=HTB.out;have:=HPOS.out;rw[ByteArray.size_append];omega) (by omega) HWE.out HBE.out);unfold rV at HR;dsimp only[RT.k,RT.a,RT.b,RT.ps]at HR;rw[show((d+1:Nat):Int)=(d:Int)+1 from rfl]at HR;have pd:=HPD.out.cells;have pe:=HPE.out.cells;obtain⟨ed,fd⟩:=hwD.odd2;obtain⟨ee,fe⟩:=HWE.out.odd2;clear hwD;go_wp2_with fail
        refine HR.out.mono ?_;rintro e wF ⟨rfl,tF,hwF,hs1,hs2,hadd,hkF⟩;have HKF:=h! (WKept.next HKE.out hkF);rw[ByteArray.size_append,show(⟨#[40]⟩:ByteArray).size=1 from rfl]at hs1 hs2;have HS2:=h! (writeString_any ⟨#[41]⟩ hwF (by have:=HTB.out;have:=HLIM.out;show _+1<=_;omega) (by show 0<_+1;omega) (Nat.le_trans HBW.out (WKept.next HK1.out HKF.out).size))
        have HSZ:=h! (show text.size<=(tF++⟨#[41]⟩).size/\(tF++⟨#[41]⟩).size<=text.size+wtL (ps.take (i+1))from by
         have:=HTB.out;have:=HWT.out;simp only[ByteArray.size_append];rw[show(⟨#[41]⟩:ByteArray).size=1 from rfl];omega)
        have HOD:=h! (show(!((RT.mk 4 pa pb pps).textOk (d+1)))=!((ps.take (i+1)).all (goodP 5 d))from by rw[HGD.out,hgood])
        have HJD:=h! (show(!((RT.mk 4 pa pb pps).textOk (d+1)))=false->(tF++⟨#[41]⟩)=text++joinT 5 (ps.take (i+1))from fun h=>by
         rw[<- HJB.out,hadd (by simpa using h)];unfold txtP;rw[if_pos ⟨rfl,rfl⟩];simp only[ByteArray.append_assoc])
        clear hwF hkF hs1 hs2 hadd;clear HR pd pe ed ee fd fe;go_wp2_with fail
        refine HS2.out.mono ?_;rintro e wG ⟨rfl,hwG,hkG⟩;have HWG:=h! hwG;have HKG:=h! (WKept.next HKF.out hkG);clear HS2 hwG hkG HWB HKB HPB HXB HWC HPC HXC HKC HPD HKD HWE HPE HKE hgood hd0 hd1 hd2 hd3;go_wp2_with fail
        go_roundw
        case rel=>exact⟨i+1,(tF++⟨#[41]⟩),_,by omega,by go_num,HOD.out,HWG.out,HSZ.out.1,HSZ.out.2,HJD.out,HKG.out⟩
        case measure=>simp[intOf];omega
      ·have hpk4:(p.k != 4)=true:=by rw[bne_iff_ne];exact hk4
       have hgood:goodP 5 d p=p.textOk d:=by unfold goodP innerD;simp[hkk,hd,hk4]
       have HWC:=h! (HWB.out.flag false);have HPC:=h! (HPB.out.other (a:=⟨wb,2,none⟩) HNP.out (.bool false));have HXC:=h! (HXB.out.other (a:=⟨wb,2,none⟩) HNX.out (.bool false));have HKC:=h! (WKept.next HKB.out (WKept.flag (b:=wb) HB.out (.bool false)));have pb:=HPB.out.cells;have xb:=HXB.out.cells;have pc:=HPC.out.cells;have xc:=HXC.out.cells;obtain⟨eb,fb⟩:=HWB.out.odd2;obtain⟨ec,fc⟩:=HWC.out.odd2;have HR:=h! (IH.out p hmem _ d _ tB (HAT.out.same (Same.below (WKept.next HK1.out HKC.out).below)) (by have:=HTB.out;have:=HLIM.out;omega) (by have:=HTB.out;have:=HPOS.out;omega) hd HWC.out (Nat.le_trans HBW.out (WKept.next HK1.out HKC.out).size));unfold rV at HR;clear hmem;go_wp2_with fail
       refine HR.out.mono ?_;rintro e wD ⟨rfl,tD,hwD,hs1,hs2,hadd,hkD⟩;have HWD:=h! hwD;have HKD:=h! (WKept.next HKC.out hkD);have HSD:=h! (show text.size<=tD.size/\tD.size<=text.size+wtL (ps.take (i+1))from by have:=HTB.out;have:=HWT.out;omega);have HOD:=h! (show(!(p.textOk d))=!((ps.take (i+1)).all (goodP 5 d))from by rw[HGD.out,hgood])
       have HJD:=h! (show(!(p.textOk d))=false->tD=text++joinT 5 (ps.take (i+1))from fun h=>by
        rw[<- HJB.out,hadd (by simpa using h)];unfold txtP;rw[if_neg (by simp[hk4])])
       clear pb xb pc xc eb fb ec fc;clear HR hwD hs1 hs2 hadd hkD HWB HKB HPB HXB HWC HPC HXC HKC hgood hd0 hd1 hd2 hd3;go_wp2_with fail
       go_roundw
       case rel=>exact⟨i+1,tD,_,by omega,by go_num,HOD.out,HWD.out,HSD.out.1,HSD.out.2,HJD.out,HKD.out⟩
       case measure=>simp[intOf];omega
  ·obtain rfl:i=ps.length:=by omega
   rw[List.take_length]at HO HJ HS;have HO2:=h! (show(!g)=o from by rw[HG.out];exact HO.out.symm);have HKE:=h! (WKept.next HK1.out hk);have HJE:=h! (show g=true->t=text++joinT 5 ps from fun h=>HJ.out (by rw[<- HO2.out,h];rfl));have HW2:=h! HW.out;clear hk HJ HW HO;go_wp2_with fail
   go_end0
   exact⟨rfl,t,by rw[HO2.out];exact HW2.out,HS.out.1,HS.out.2,HJE.out,HKE.out⟩
theorem wrule_gbad5 {B wb:Nat} {add:ByteArray} {wt:Nat} {text:ByteArray} {w:World} (ra rb:ByteArray)(n:Nat)(ao:Option Addr)(c:Nat)(d:Int)(h:WrB w B wb text false)(hBw:B<=w.heap.size)(hbad:¬ (ra.size=0/\rb.size=0/\2<=n)) :
  Calls Tryz.prog 190 #[.pointer (some ⟨wb,0,none⟩),.agg #[.int .i64 5,.string ra,.string rb,.slice ao n c],.int .i64 d] w (WRes B wb w text (false) (add) (wt)):=by
 have HW0:=h! h;have HB:=h! h.1;have HBW:=h! hBw;have HNE:=h! (show w.heap.size≠wb from by have:=h.lt;omega);clear h hBw;by_cases h0:n=0
 ·subst h0;clear hbad;have HX:=h! (Blk.made w #[.int .i64 5,.string ra,.string rb,.slice ao 0 c] 106);have HX1:=h! (HX.out.other (a:=⟨wb,2,none⟩) HNE.out (.bool true));have HX2:=h! (HX1.out.other (a:=⟨wb,2,none⟩) HNE.out (.bool true));have HW1:=h! ((HW0.out.up ((Below.refl _ w).alloc (Nat.le_refl _) (.cells #[.int .i64 5,.string ra,.string rb,.slice ao 0 c] 106))).flag true);have HW2:=h! (HW1.out.flag true);have HK2:=h! (WKept.next (WKept.next (WKept.of ((Below.refl _ w).alloc (Nat.le_refl _) (.cells #[.int .i64 5,.string ra,.string rb,.slice ao 0 c] 106)) HBW.out) (WKept.flag (b:=wb) HB.out (.bool true))) (WKept.flag (b:=wb) HB.out (.bool true)));have x0:=HX.out.cells;have x1:=HX1.out.cells;have x2:=HX2.out.cells;obtain⟨e0,f0⟩:=(HW0.out.up ((Below.refl _ w).alloc (Nat.le_refl _) (.cells #[.int .i64 5,.string ra,.string rb,.slice ao 0 c] 106))).odd2;obtain⟨e1,f1⟩:=HW1.out.odd2;obtain⟨e2,f2⟩:=HW2.out.odd2;go_enter Tryz.func190,Tryz.ntmps190
  go_wp2_with fail
  (try simp only[Exit.inBlock,Exit.then])
  refine bodyPost_ret (results_none rfl _ _ _) rfl ?_;exact WRes.bad HW2.out HK2.out
 by_cases h1:n=1
 ·subst h1;clear hbad h0;have HX:=h! (Blk.made w #[.int .i64 5,.string ra,.string rb,.slice ao 1 c] 106);have HX1:=h! (HX.out.other (a:=⟨wb,2,none⟩) HNE.out (.bool true));have HX2:=h! (HX1.out.other (a:=⟨wb,2,none⟩) HNE.out (.bool true));have HW1:=h! ((HW0.out.up ((Below.refl _ w).alloc (Nat.le_refl _) (.cells #[.int .i64 5,.string ra,.string rb,.slice ao 1 c] 106))).flag true);have HW2:=h! (HW1.out.flag true);have HK2:=h! (WKept.next (WKept.next (WKept.of ((Below.refl _ w).alloc (Nat.le_refl _) (.cells #[.int .i64 5,.string ra,.string rb,.slice ao 1 c] 106)) HBW.out) (WKept.flag (b:=wb) HB.out (.bool true))) (WKept.flag (b:=wb) HB.out (.bool true)));have x0:=HX.out.cells;have x1:=HX1.out.cells;have x2:=HX2.out.cells;obtain⟨e0,f0⟩:=(HW0.out.up ((Below.refl _ w).alloc (Nat.le_refl _) (.cells #[.int .i64 5,.string ra,.string rb,.slice ao 1 c] 106))).odd2;obtain⟨e1,f1⟩:=HW1.out.odd2;obtain⟨e2,f2⟩:=HW2.out.odd2;go_enter Tryz.func190,Tryz.ntmps190
  go_wp2_with fail
  (try simp only[Exit.inBlock,Exit.then])
  refine bodyPost_ret (results_none rfl _ _ _) rfl ?_;exact WRes.bad HW2.out HK2.out
 have hpI:(0:Int)<(n:Int):=by omega
 have hl2:¬ ((n:Int)<2):=by omega
 by_cases hnrb:rb.size=0
 ·obtain rfl:=ba_size_eq hnrb;clear hnrb;by_cases hnra:ra.size=0
  ·obtain rfl:=ba_size_eq hnra;clear hnra;exact absurd ⟨rfl,rfl,by omega⟩ hbad
  ·have hnera:=ba_size_ne hnra;clear hbad hnra h0 h1;have HX:=h! (Blk.made w #[.int .i64 5,.string ra,.string ⟨#[]⟩,.slice ao n c] 106);have HX1:=h! (HX.out.other (a:=⟨wb,2,none⟩) HNE.out (.bool false));have HX2:=h! (HX1.out.other (a:=⟨wb,2,none⟩) HNE.out (.bool true));have HW1:=h! ((HW0.out.up ((Below.refl _ w).alloc (Nat.le_refl _) (.cells #[.int .i64 5,.string ra,.string ⟨#[]⟩,.slice ao n c] 106))).flag false);have HW2:=h! (HW1.out.flag true);have HK2:=h! (WKept.next (WKept.next (WKept.of ((Below.refl _ w).alloc (Nat.le_refl _) (.cells #[.int .i64 5,.string ra,.string ⟨#[]⟩,.slice ao n c] 106)) HBW.out) (WKept.flag (b:=wb) HB.out (.bool false))) (WKept.flag (b:=wb) HB.out (.bool true)));have x0:=HX.out.cells;have x1:=HX1.out.cells;have x2:=HX2.out.cells;obtain⟨e0,f0⟩:=(HW0.out.up ((Below.refl _ w).alloc (Nat.le_refl _) (.cells #[.int .i64 5,.string ra,.string ⟨#[]⟩,.slice ao n c] 106))).odd2;obtain⟨e1,f1⟩:=HW1.out.odd2;obtain⟨e2,f2⟩:=HW2.out.odd2;go_enter Tryz.func190,Tryz.ntmps190
   go_wp2_with fail
   (try simp only[Exit.inBlock,Exit.then])
   refine bodyPost_ret (results_none rfl _ _ _) rfl ?_;exact WRes.bad HW2.out HK2.out
 ·have hnerb:=ba_size_ne hnrb;clear hbad hnrb h0 h1;have HX:=h! (Blk.made w #[.int .i64 5,.string ra,.string rb,.slice ao n c] 106);have HX1:=h! (HX.out.other (a:=⟨wb,2,none⟩) HNE.out (.bool false));have HX2:=h! (HX1.out.other (a:=⟨wb,2,none⟩) HNE.out (.bool true));have HW1:=h! ((HW0.out.up ((Below.refl _ w).alloc (Nat.le_refl _) (.cells #[.int .i64 5,.string ra,.string rb,.slice ao n c] 106))).flag false);have HW2:=h! (HW1.out.flag true);have HK2:=h! (WKept.next (WKept.next (WKept.of ((Below.refl _ w).alloc (Nat.le_refl _) (.cells #[.int .i64 5,.string ra,.string rb,.slice ao n c] 106)) HBW.out) (WKept.flag (b:=wb) HB.out (.bool false))) (WKept.flag (b:=wb) HB.out (.bool true)));have x0:=HX.out.cells;have x1:=HX1.out.cells;have x2:=HX2.out.cells;obtain⟨e0,f0⟩:=(HW0.out.up ((Below.refl _ w).alloc (Nat.le_refl _) (.cells #[.int .i64 5,.string ra,.string rb,.slice ao n c] 106))).odd2;obtain⟨e1,f1⟩:=HW1.out.odd2;obtain⟨e2,f2⟩:=HW2.out.odd2;go_enter Tryz.func190,Tryz.ntmps190
  go_wp2_with fail
  (try simp only[Exit.inBlock,Exit.then])
  refine bodyPost_ret (results_none rfl _ _ _) rfl ?_;exact WRes.bad HW2.out HK2.out
theorem wrule_g5 {B wb:Nat} {text:ByteArray} {w:World} (ps:List RT)(d:Nat)(hd:d<=8)(pv:Value)(h:WrB w B wb text false)(hBw:B<=w.heap.size)(hat:RTAt (· < B) w (.mk 5 ⟨#[]⟩ ⟨#[]⟩ ps) pv)(hpos:0<text.size)(hlim:text.size+wtL ps<=1099511627776)(h2:2<=ps.length)
  (ih:∀ p∈ps,∀ (pv:Value) (d:Nat) (w:World) (text:ByteArray),RTAt (· < B) w p pv->text.size+p.wt<=1099511627776->0<text.size->d<=8->WrB w B wb text false->B<=w.heap.size->Calls Tryz.prog 190 #[.pointer (some ⟨wb,0,none⟩),rV p pv,.int .i64 d] w (WRes B wb w text (p.textOk d) p.text p.wt)) :
  Calls Tryz.prog 190 #[.pointer (some ⟨wb,0,none⟩),rV (.mk 5 ⟨#[]⟩ ⟨#[]⟩ ps) pv,.int .i64 d] w (WRes B wb w text (ps.all (goodP 5 d)) (joinT 5 ps) (wtL ps)):=by
 have HAT:=h! hat;obtain⟨ao,c,rfl,-⟩:=hat.rows;have IH:=h! ih;have HPOS:=h! hpos;have HD:=h! hd;have HLIM:=h! hlim;unfold rV;dsimp only[RT.k,RT.a,RT.b,RT.ps]at HAT ⊢;have hpI:(0:Int)<(ps.length:Int):=by omega
 have hl2:¬ ((ps.length:Int)<2):=by omega
 clear hat ih hpos hlim h2 hd;have HW0:=h! h;have HB:=h! h.1;have HBW:=h! hBw;have HNE:=h! (show w.heap.size≠wb from by have:=h.lt;omega);clear h hBw;have HX:=h! (Blk.made w #[.int .i64 5,.string ⟨#[]⟩,.string ⟨#[]⟩,.slice ao ps.length c] 106);have HX1:=h! (HX.out.other (a:=⟨wb,2,none⟩) HNE.out (.bool false));have HX2:=h! (HX1.out.other (a:=⟨wb,2,none⟩) HNE.out (.bool false));have HW1:=h! ((HW0.out.up ((Below.refl _ w).alloc (Nat.le_refl _) (.cells #[.int .i64 5,.string ⟨#[]⟩,.string ⟨#[]⟩,.slice ao ps.length c] 106))).flag false);have HW2:=h! (HW1.out.flag false);have HK2:=h! (WKept.next (WKept.next (WKept.of ((Below.refl _ w).alloc (Nat.le_refl _) (.cells #[.int .i64 5,.string ⟨#[]⟩,.string ⟨#[]⟩,.slice ao ps.length c] 106)) HBW.out) (WKept.flag (b:=wb) HB.out (.bool false))) (WKept.flag (b:=wb) HB.out (.bool false)));have x0:=HX.out.cells;have x1:=HX1.out.cells;have x2:=HX2.out.cells;obtain⟨e0,f0⟩:=(HW0.out.up ((Below.refl _ w).alloc (Nat.le_refl _) (.cells #[.int .i64 5,.string ⟨#[]⟩,.string ⟨#[]⟩,.slice ao ps.length c] 106))).odd2;obtain⟨e1,f1⟩:=HW1.out.odd2;obtain⟨e2,f2⟩:=HW2.out.odd2;go_enter Tryz.func190,Tryz.ntmps190
 go_wp2_with fail
 obtain⟨w3,hw3⟩:∃ w3,w3=((w.alloc (.cells #[.int .i64 5,.string ⟨#[]⟩,.string ⟨#[]⟩,.slice ao ps.length c] 106)).setCell ⟨wb,2,none⟩ (.bool false)).setCell ⟨wb,2,none⟩ (.bool false):=⟨_,rfl⟩;rw[<- hw3]at HX2 HW2 HK2 ⊢;clear hw3 HX HX1 HW1 x0 x1 x2 e0 e1 e2 f0 f1 f2;have HB3:=h! (Nat.le_trans HBW.out HK2.out.size);have HR:=h! (wparts_5 ps d HD.out _ HW2.out HB3.out (HAT.out.same (Same.below HK2.out.below)) HPOS.out HLIM.out IH.out);unfold rV at HR;dsimp only[RT.k,RT.a,RT.b]at HR;refine HR.out.mono ?_;rintro e w4 ⟨rfl,t4,hw4,hs1,hs2,hadd,hk4⟩;have HRS:=h! (show WRes B wb w text (ps.all (goodP 5 d)) (joinT 5 ps) (wtL ps) (.returned (.tuple #[])) w4 from⟨rfl,t4,hw4,hs1,hs2,hadd,WKept.next HK2.out hk4⟩);clear HR hw4 hs1 hs2 hadd hk4;go_wp2_with fail
 go_end0
 exact HRS.out
end Go.Proofs.YtlhaghoajpglaaaGreat
