/- Lemmas for the claim, no condition. -/
import Derived.Test.YtlhaghoajpglaaaGreatYLkObj1
import Derived.Test.YtlhaghoajpglaaaGreatYLkObj1
set_option maxRecDepth 100000
set_option maxHeartbeats 4000000
namespace Go.Proofs.YtlhaghoajpglaaaGreat
open Go Go.RowKit Go.Proofs.Tryz
theorem WalkN.skip {P:Program}{ops:Array Oper}{Q:Exit->Act->World->Prop}{S:World->Prop}{f:Nat}{l:Array Bool}{a:Act}{w:World}(i:Nat)(o:Oper)(ho:ops[i]?=some o)(hf:Region.free .any ops l i=true)(hr:(Region.ready .any ops l).contains i=true)
  (hw:Region.wanted o (yielded ops a.tmps)=false) (h:WalkN P ops Q S f (l.setIfInBounds i true) (a.put o.dst undef) w):WalkN P ops Q S (f+1) l a w :=
 .inr (.inl ⟨i,o,undef,ho,hf,hr,.inr ⟨hw,rfl⟩,h⟩)
theorem iC! (a b:ByteArray)(ps:List RT)(d:Nat)(ao:Option Addr)(c:Nat)(w:World):Calls prog 159 #[.agg #[.int .i64 1,.string a,.string b,.slice ao ps.length c],.int .i64 d] w fun e w'=>∃s:ByteArray,e= .returned (.tuple #[.string s,.bool (decide (a.size=0)&&decide (b.size=0)&&decide (ps.length=0))])/\s=⟨#[116,104,105,115]⟩/\Below w.heap.size w w':=by
 have l:=(Blk.made w #[.int .i64 1,.string a,.string b,.slice ao ps.length c] 106).cells;by_cases hna:a.size=0
 ·obtain rfl:=ae! hna;clear hna;by_cases hnb:b.size=0
  ·obtain rfl:=ae! hnb;clear hnb;by_cases hlp:ps.length=0
   ·have a0:((ps.length:Int) == 0)=true:=by rw[beq_iff_eq];omega
    have m:=h! (show(decide ((⟨#[]⟩:ByteArray).size=0)&&decide ((⟨#[]⟩:ByteArray).size=0)&&decide (ps.length=0))=true from by first | rfl | (simp[hlp];done) | (simp[hlp];rfl));clear hlp;go_enter func159,ntmps159
    go_wp2_with fail
    obtain⟨p,f⟩:=e! ((w.alloc (.cells #[.int .i64 1,.string ⟨#[]⟩,.string ⟨#[]⟩,.slice ao ps.length c] 106)).drew);have g:Blk p w.heap.size #[.int .i64 1,.string ⟨#[]⟩,.string ⟨#[]⟩,.slice ao ps.length c] 106:=by rw[f];exact(Blk.made w #[.int .i64 1,.string ⟨#[]⟩,.string ⟨#[]⟩,.slice ao ps.length c] 106).drew
    have i:Below w.heap.size w p:=by rw[f];exact((Below.refl _ _).alloc (n0! _) _).drew
    refine re! f ?_;clear f l;have o:=fun W (h:Ext p W)=>(g.below h).cells;(refine WalkN.tk [0,1,2,3] ?_;(iterate 4 (refine c! ?_));refine TkN.n ?_)
    (refine WalkN.tk [4,5,6] ?_;(iterate 3 (refine c! ?_));refine TkN.n ?_)
    (refine WalkN.tk [7,8] ?_;(iterate 2 (refine c! ?_));refine TkN.n ?_)
    (refine WalkN.tk [9,10,11,12] ?_;(iterate 4 (refine c! ?_));refine TkN.n ?_)
    (refine WalkN.tk [13,14,15] ?_;(iterate 3 (refine c! ?_));refine TkN.n ?_)
    refine d! ?_;have j:=h! i;clear o g i;go_wp2_with fail
    go_ret2
    exact⟨_,by rw[m.out];rfl,rfl,j.out⟩
   ·have a0:((ps.length:Int) == 0)=false:=by rw[n7!];omega
    have m:=h! (show(decide ((⟨#[]⟩:ByteArray).size=0)&&decide ((⟨#[]⟩:ByteArray).size=0)&&decide (ps.length=0))=false from by first | rfl | (simp[hlp];done) | (simp[hlp];rfl));clear hlp;go_enter func159,ntmps159
    go_wp2_with fail
    obtain⟨p,f⟩:=e! ((w.alloc (.cells #[.int .i64 1,.string ⟨#[]⟩,.string ⟨#[]⟩,.slice ao ps.length c] 106)).drew);have g:Blk p w.heap.size #[.int .i64 1,.string ⟨#[]⟩,.string ⟨#[]⟩,.slice ao ps.length c] 106:=by rw[f];exact(Blk.made w #[.int .i64 1,.string ⟨#[]⟩,.string ⟨#[]⟩,.slice ao ps.length c] 106).drew
    have i:Below w.heap.size w p:=by rw[f];exact((Below.refl _ _).alloc (n0! _) _).drew
    refine re! f ?_;clear f l;have o:=fun W (h:Ext p W)=>(g.below h).cells;(refine WalkN.tk [0,1,2,3] ?_;(iterate 4 (refine c! ?_));refine TkN.n ?_)
    (refine WalkN.tk [4,5,6] ?_;(iterate 3 (refine c! ?_));refine TkN.n ?_)
    (refine WalkN.tk [7,8] ?_;(iterate 2 (refine c! ?_));refine TkN.n ?_)
    (refine WalkN.tk [9,10,11,12] ?_;(iterate 4 (refine c! ?_));refine TkN.n ?_)
    (refine WalkN.tk [13,14,15] ?_;(iterate 3 (refine c! ?_));refine TkN.n ?_)
    refine d! ?_;have j:=h! i;clear o g i;go_wp2_with fail
    go_ret2
    exact⟨_,by rw[m.out];rfl,rfl,j.out⟩
  ·have a2:=al! hnb;have m:=h! (show(decide ((⟨#[]⟩:ByteArray).size=0)&&decide (b.size=0)&&decide (ps.length=0))=false from by first | rfl | (simp[hnb];done) | (simp[hnb];rfl));clear hnb;go_enter func159,ntmps159
   go_wp2_with fail
   obtain⟨p,f⟩:=e! ((w.alloc (.cells #[.int .i64 1,.string ⟨#[]⟩,.string b,.slice ao ps.length c] 106)).drew);have g:Blk p w.heap.size #[.int .i64 1,.string ⟨#[]⟩,.string b,.slice ao ps.length c] 106:=by rw[f];exact(Blk.made w #[.int .i64 1,.string ⟨#[]⟩,.string b,.slice ao ps.length c] 106).drew
   have i:Below w.heap.size w p:=by rw[f];exact((Below.refl _ _).alloc (n0! _) _).drew
   refine re! f ?_;clear f l;have o:=fun W (h:Ext p W)=>(g.below h).cells;(refine WalkN.tk [0,1,2,3] ?_;(iterate 4 (refine c! ?_));refine TkN.n ?_)
   (refine WalkN.tk [4,5,6] ?_;(iterate 3 (refine c! ?_));refine TkN.n ?_)
   (refine WalkN.tk [7,8] ?_;(iterate 2 (refine c! ?_));refine TkN.n ?_)
   refine k! 9 ?_;refine k! 10 ?_;refine k! 11 ?_;refine k! 12 ?_
   (refine WalkN.tk [13,14,15] ?_;(iterate 3 (refine c! ?_));refine TkN.n ?_)
   refine d! ?_;have j:=h! i;clear o g i;go_wp2_with fail
   go_ret2
   exact⟨_,by rw[m.out];rfl,rfl,j.out⟩
 ·have a1:=al! hna;have m:=h! (show(decide (a.size=0)&&decide (b.size=0)&&decide (ps.length=0))=false from by first | rfl | (simp[hna];done) | (simp[hna];rfl));clear hna;go_enter func159,ntmps159
  go_wp2_with fail
  obtain⟨p,f⟩:=e! ((w.alloc (.cells #[.int .i64 1,.string a,.string b,.slice ao ps.length c] 106)).drew);have g:Blk p w.heap.size #[.int .i64 1,.string a,.string b,.slice ao ps.length c] 106:=by rw[f];exact(Blk.made w #[.int .i64 1,.string a,.string b,.slice ao ps.length c] 106).drew
  have i:Below w.heap.size w p:=by rw[f];exact((Below.refl _ _).alloc (n0! _) _).drew
  refine re! f ?_;clear f l;have o:=fun W (h:Ext p W)=>(g.below h).cells;(refine WalkN.tk [0,1,2,3] ?_;(iterate 4 (refine c! ?_));refine TkN.n ?_)
  refine k! 4 ?_;refine k! 5 ?_;refine k! 6 ?_
  (refine WalkN.tk [7,8] ?_;(iterate 2 (refine c! ?_));refine TkN.n ?_)
  refine k! 9 ?_;refine k! 10 ?_;refine k! 11 ?_;refine k! 12 ?_
  (refine WalkN.tk [13,14,15] ?_;(iterate 3 (refine c! ?_));refine TkN.n ?_)
  refine d! ?_;have j:=h! i;clear o g i;go_wp2_with fail
  go_ret2
  exact⟨_,by rw[m.out];rfl,rfl,j.out⟩
theorem iB! (a b:ByteArray)(ps:List RT)(d:Nat)(ao:Option Addr)(c:Nat)(w:World)(ha:a.size<=140737488351232):Calls prog 159 #[.agg #[.int .i64 2,.string a,.string b,.slice ao ps.length c],.int .i64 d] w fun e w'=>∃s:ByteArray,e= .returned (.tuple #[.string s,.bool (ownB a&&decide (b.size=0)&&decide (ps.length=0))])/\s=a/\Below w.heap.size w w':=by
 have m:=(Blk.made w #[.int .i64 2,.string a,.string b,.slice ao ps.length c] 106).cells;have f:=h! (fun W=>ft! a (by unfold maxLen;omega) W);clear ha;cases hoa:ownB a with
 | true =>
  simp only[hoa]at f;by_cases hnb:b.size=0
  ·obtain rfl:=ae! hnb;clear hnb;by_cases hlp:ps.length=0
   ·have a0:((ps.length:Int) == 0)=true:=by rw[beq_iff_eq];omega
    have p:=h! (show(true&&decide ((⟨#[]⟩:ByteArray).size=0)&&decide (ps.length=0))=true from by first | rfl | (simp[hlp];done) | (simp[hlp];rfl));clear hlp;go_enter func159,ntmps159
    go_wp2_with fail
    obtain⟨u,g⟩:=e! ((w.alloc (.cells #[.int .i64 2,.string a,.string ⟨#[]⟩,.slice ao ps.length c] 106)).drew);have i:Blk u w.heap.size #[.int .i64 2,.string a,.string ⟨#[]⟩,.slice ao ps.length c] 106:=by rw[g];exact(Blk.made w #[.int .i64 2,.string a,.string ⟨#[]⟩,.slice ao ps.length c] 106).drew
    have j:Below w.heap.size w u:=by rw[g];exact((Below.refl _ _).alloc (n0! _) _).drew
    refine re! g ?_;clear g m;have r:=fun W (h:Ext u W)=>(i.below h).cells;(refine WalkN.tk [0,1,2,3] ?_;(iterate 4 (refine c! ?_));refine TkN.n ?_)
    refine ob! 4 ?_;intro K hK;go_simp;refine(f.out _).mono ?_;rintro e w2 ⟨rfl,q⟩;have o:=q.symm;subst o;clear q;refine hK.out _ _ (Ext.refl _) ?_;clear hK f;refine t! 5 ?_
    (refine WalkN.tk [6,7,8] ?_;(iterate 3 (refine c! ?_));refine TkN.n ?_)
    (refine WalkN.tk [9,10] ?_;(iterate 2 (refine c! ?_));refine TkN.n ?_)
    (refine WalkN.tk [11,12,13,14] ?_;(iterate 4 (refine c! ?_));refine TkN.n ?_)
    (refine WalkN.tk [15,16,17] ?_;(iterate 3 (refine c! ?_));refine TkN.n ?_)
    refine d! ?_;have l:=h! j;clear r i j;go_wp2_with fail
    go_ret2
    exact⟨_,by rw[p.out];rfl,rfl,l.out⟩
   ·have a0:((ps.length:Int) == 0)=false:=by rw[n7!];omega
    have p:=h! (show(true&&decide ((⟨#[]⟩:ByteArray).size=0)&&decide (ps.length=0))=false from by first | rfl | (simp[hlp];done) | (simp[hlp];rfl));clear hlp;go_enter func159,ntmps159
    go_wp2_with fail
    obtain⟨u,g⟩:=e! ((w.alloc (.cells #[.int .i64 2,.string a,.string ⟨#[]⟩,.slice ao ps.length c] 106)).drew);have i:Blk u w.heap.size #[.int .i64 2,.string a,.string ⟨#[]⟩,.slice ao ps.length c] 106:=by rw[g];exact(Blk.made w #[.int .i64 2,.string a,.string ⟨#[]⟩,.slice ao ps.length c] 106).drew
    have j:Below w.heap.size w u:=by rw[g];exact((Below.refl _ _).alloc (n0! _) _).drew
    refine re! g ?_;clear g m;have r:=fun W (h:Ext u W)=>(i.below h).cells;(refine WalkN.tk [0,1,2,3] ?_;(iterate 4 (refine c! ?_));refine TkN.n ?_)
    refine ob! 4 ?_;intro K hK;go_simp;refine(f.out _).mono ?_;rintro e w2 ⟨rfl,q⟩;have o:=q.symm;subst o;clear q;refine hK.out _ _ (Ext.refl _) ?_;clear hK f;refine t! 5 ?_
    (refine WalkN.tk [6,7,8] ?_;(iterate 3 (refine c! ?_));refine TkN.n ?_)
    (refine WalkN.tk [9,10] ?_;(iterate 2 (refine c! ?_));refine TkN.n ?_)
    (refine WalkN.tk [11,12,13,14] ?_;(iterate 4 (refine c! ?_));refine TkN.n ?_)
    (refine WalkN.tk [15,16,17] ?_;(iterate 3 (refine c! ?_));refine TkN.n ?_)
    refine d! ?_;have l:=h! j;clear r i j;go_wp2_with fail
    go_ret2
    exact⟨_,by rw[p.out];rfl,rfl,l.out⟩
  ·have a1:=al! hnb;have p:=h! (show(true&&decide (b.size=0)&&decide (ps.length=0))=false from by first | rfl | (simp[hnb];done) | (simp[hnb];rfl));clear hnb;go_enter func159,ntmps159
   go_wp2_with fail
   obtain⟨u,g⟩:=e! ((w.alloc (.cells #[.int .i64 2,.string a,.string b,.slice ao ps.length c] 106)).drew);have i:Blk u w.heap.size #[.int .i64 2,.string a,.string b,.slice ao ps.length c] 106:=by rw[g];exact(Blk.made w #[.int .i64 2,.string a,.string b,.slice ao ps.length c] 106).drew
   have j:Below w.heap.size w u:=by rw[g];exact((Below.refl _ _).alloc (n0! _) _).drew
   refine re! g ?_;clear g m;have r:=fun W (h:Ext u W)=>(i.below h).cells;(refine WalkN.tk [0,1,2,3] ?_;(iterate 4 (refine c! ?_));refine TkN.n ?_)
   refine ob! 4 ?_;intro K hK;go_simp;refine(f.out _).mono ?_;rintro e w2 ⟨rfl,q⟩;have o:=q.symm;subst o;clear q;refine hK.out _ _ (Ext.refl _) ?_;clear hK f;refine t! 5 ?_
   (refine WalkN.tk [6,7,8] ?_;(iterate 3 (refine c! ?_));refine TkN.n ?_)
   (refine WalkN.tk [9,10] ?_;(iterate 2 (refine c! ?_));refine TkN.n ?_)
   refine k! 11 ?_;refine k! 12 ?_;refine k! 13 ?_;refine k! 14 ?_
   (refine WalkN.tk [15,16,17] ?_;(iterate 3 (refine c! ?_));refine TkN.n ?_)
   refine d! ?_;have l:=h! j;clear r i j;go_wp2_with fail
   go_ret2
   exact⟨_,by rw[p.out];rfl,rfl,l.out⟩
 | false =>
  simp only[hoa]at f;have p:=h! (show(false&&decide (b.size=0)&&decide (ps.length=0))=false from by first | rfl | (simp;done) | (simp;rfl));go_enter func159,ntmps159
  go_wp2_with fail
  obtain⟨u,g⟩:=e! ((w.alloc (.cells #[.int .i64 2,.string a,.string b,.slice ao ps.length c] 106)).drew);have i:Blk u w.heap.size #[.int .i64 2,.string a,.string b,.slice ao ps.length c] 106:=by rw[g];exact(Blk.made w #[.int .i64 2,.string a,.string b,.slice ao ps.length c] 106).drew
  have j:Below w.heap.size w u:=by rw[g];exact((Below.refl _ _).alloc (n0! _) _).drew
  refine re! g ?_;clear g m;have r:=fun W (h:Ext u W)=>(i.below h).cells;(refine WalkN.tk [0,1,2,3] ?_;(iterate 4 (refine c! ?_));refine TkN.n ?_)
  refine ob! 4 ?_;intro K hK;go_simp;refine(f.out _).mono ?_;rintro e w2 ⟨rfl,q⟩;have o:=q.symm;subst o;clear q;refine hK.out _ _ (Ext.refl _) ?_;clear hK f;refine t! 5 ?_
  refine k! 6 ?_;refine k! 7 ?_;refine k! 8 ?_
  (refine WalkN.tk [9,10] ?_;(iterate 2 (refine c! ?_));refine TkN.n ?_)
  refine k! 11 ?_;refine k! 12 ?_;refine k! 13 ?_;refine k! 14 ?_
  (refine WalkN.tk [15,16,17] ?_;(iterate 3 (refine c! ?_));refine TkN.n ?_)
  refine d! ?_;have l:=h! j;clear r i j;go_wp2_with fail
  go_ret2
  exact⟨_,by rw[p.out];rfl,rfl,l.out⟩
theorem iA! (a b:ByteArray)(ps:List RT)(d:Nat)(ao:Option Addr)(c:Nat)(w:World)(ha:a.size<=140737488351232)(hb:b.size<=140737488351232):Calls prog 159 #[.agg #[.int .i64 3,.string a,.string b,.slice ao ps.length c],.int .i64 d] w fun e w'=>∃s:ByteArray,e= .returned (.tuple #[.string s,.bool (ownB a&&ownB b&&decide (ps.length=0))])/\s=(a++⟨#[45,62]⟩)++b/\Below w.heap.size w w':=by
 have o:=(Blk.made w #[.int .i64 3,.string a,.string b,.slice ao ps.length c] 106).cells;have f:=h! (fun W=>ft! a (by unfold maxLen;omega) W);have i:=h! (fun W=>ft! b (by unfold maxLen;omega) W);have a1:¬ (9223372036854775807<a.size+2):=by omega
 have a2:¬ (9223372036854775807<a.size+2+b.size):=by omega
 clear ha hb;cases hoa:ownB a with
 | true =>
  simp only[hoa]at f;cases hob:ownB b with
  | true =>
   simp only[hob]at i;by_cases hlp:ps.length=0
   ·have a0:((ps.length:Int) == 0)=true:=by rw[beq_iff_eq];omega
    have q:=h! (show(true&&true&&decide (ps.length=0))=true from by first | rfl | (simp[hlp];done) | (simp[hlp];rfl));clear hlp;go_enter func159,ntmps159
    go_wp2_with fail
    obtain⟨x,g⟩:=e! ((w.alloc (.cells #[.int .i64 3,.string a,.string b,.slice ao ps.length c] 106)).drew);have j:Blk x w.heap.size #[.int .i64 3,.string a,.string b,.slice ao ps.length c] 106:=by rw[g];exact(Blk.made w #[.int .i64 3,.string a,.string b,.slice ao ps.length c] 106).drew
    have l:Below w.heap.size w x:=by rw[g];exact((Below.refl _ _).alloc (n0! _) _).drew
    refine re! g ?_;clear g o;have u:=fun W (h:Ext x W)=>(j.below h).cells;(refine WalkN.tk [0,1,2,3,4,5,6,7] ?_;(iterate 8 (refine c! ?_));refine TkN.n ?_)
    refine ob! 8 ?_;intro K hK;go_simp;refine(f.out _).mono ?_;rintro e v ⟨rfl,r⟩;have p:=r.symm;subst p;clear r;refine hK.out _ _ (Ext.refl _) ?_;clear hK f;refine t! 9 ?_
    (refine WalkN.tk [10,11] ?_;(iterate 2 (refine c! ?_));refine TkN.n ?_)
    refine ob! 12 ?_;intro K hK;go_simp;refine(i.out _).mono ?_;rintro e v ⟨rfl,r⟩;have p:=r.symm;subst p;clear r;refine hK.out _ _ (Ext.refl _) ?_;clear hK i;(refine WalkN.tk [13,14] ?_;(iterate 2 (refine c! ?_));refine TkN.n ?_)
    (refine WalkN.tk [15,16,17,18] ?_;(iterate 4 (refine c! ?_));refine TkN.n ?_)
    (refine WalkN.tk [19,20,21] ?_;(iterate 3 (refine c! ?_));refine TkN.n ?_)
    refine d! ?_;have m:=h! l;clear u j l;go_wp2_with fail
    go_ret2
    exact⟨_,by rw[q.out];rfl,rfl,m.out⟩
   ·have a0:((ps.length:Int) == 0)=false:=by rw[n7!];omega
    have q:=h! (show(true&&true&&decide (ps.length=0))=false from by first | rfl | (simp[hlp];done) | (simp[hlp];rfl));clear hlp;go_enter func159,ntmps159
    go_wp2_with fail
    obtain⟨x,g⟩:=e! ((w.alloc (.cells #[.int .i64 3,.string a,.string b,.slice ao ps.length c] 106)).drew);have j:Blk x w.heap.size #[.int .i64 3,.string a,.string b,.slice ao ps.length c] 106:=by rw[g];exact(Blk.made w #[.int .i64 3,.string a,.string b,.slice ao ps.length c] 106).drew
    have l:Below w.heap.size w x:=by rw[g];exact((Below.refl _ _).alloc (n0! _) _).drew
    refine re! g ?_;clear g o;have u:=fun W (h:Ext x W)=>(j.below h).cells;(refine WalkN.tk [0,1,2,3,4,5,6,7] ?_;(iterate 8 (refine c! ?_));refine TkN.n ?_)
    refine ob! 8 ?_;intro K hK;go_simp;refine(f.out _).mono ?_;rintro e v ⟨rfl,r⟩;have p:=r.symm;subst p;clear r;refine hK.out _ _ (Ext.refl _) ?_;clear hK f;refine t! 9 ?_
    (refine WalkN.tk [10,11] ?_;(iterate 2 (refine c! ?_));refine TkN.n ?_)
    refine ob! 12 ?_;intro K hK;go_simp;refine(i.out _).mono ?_;rintro e v ⟨rfl,r⟩;have p:=r.symm;subst p;clear r;refine hK.out _ _ (Ext.refl _) ?_;clear hK i;(refine WalkN.tk [13,14] ?_;(iterate 2 (refine c! ?_));refine TkN.n ?_)
    (refine WalkN.tk [15,16,17,18] ?_;(iterate 4 (refine c! ?_));refine TkN.n ?_)
    (refine WalkN.tk [19,20,21] ?_;(iterate 3 (refine c! ?_));refine TkN.n ?_)
    refine d! ?_;have m:=h! l;clear u j l;go_wp2_with fail
    go_ret2
    exact⟨_,by rw[q.out];rfl,rfl,m.out⟩
  | false =>
   simp only[hob]at i;have q:=h! (show(true&&false&&decide (ps.length=0))=false from by first | rfl | (simp;done) | (simp;rfl));go_enter func159,ntmps159
   go_wp2_with fail
   obtain⟨x,g⟩:=e! ((w.alloc (.cells #[.int .i64 3,.string a,.string b,.slice ao ps.length c] 106)).drew);have j:Blk x w.heap.size #[.int .i64 3,.string a,.string b,.slice ao ps.length c] 106:=by rw[g];exact(Blk.made w #[.int .i64 3,.string a,.string b,.slice ao ps.length c] 106).drew
   have l:Below w.heap.size w x:=by rw[g];exact((Below.refl _ _).alloc (n0! _) _).drew
   refine re! g ?_;clear g o;have u:=fun W (h:Ext x W)=>(j.below h).cells;(refine WalkN.tk [0,1,2,3,4,5,6,7] ?_;(iterate 8 (refine c! ?_));refine TkN.n ?_)
   refine ob! 8 ?_;intro K hK;go_simp;refine(f.out _).mono ?_;rintro e v ⟨rfl,r⟩;have p:=r.symm;subst p;clear r;refine hK.out _ _ (Ext.refl _) ?_;clear hK f;refine t! 9 ?_
   (refine WalkN.tk [10,11] ?_;(iterate 2 (refine c! ?_));refine TkN.n ?_)
   refine ob! 12 ?_;intro K hK;go_simp;refine(i.out _).mono ?_;rintro e v ⟨rfl,r⟩;have p:=r.symm;subst p;clear r;refine hK.out _ _ (Ext.refl _) ?_;clear hK i;(refine WalkN.tk [13,14] ?_;(iterate 2 (refine c! ?_));refine TkN.n ?_)
   refine k! 15 ?_;refine k! 16 ?_;refine k! 17 ?_;refine k! 18 ?_
   (refine WalkN.tk [19,20,21] ?_;(iterate 3 (refine c! ?_));refine TkN.n ?_)
   refine d! ?_;have m:=h! l;clear u j l;go_wp2_with fail
   go_ret2
   exact⟨_,by rw[q.out];rfl,rfl,m.out⟩
 | false =>
  simp only[hoa]at f;have q:=h! (show(false&&ownB b&&decide (ps.length=0))=false from by first | rfl | (simp;done) | (simp;rfl));go_enter func159,ntmps159
  go_wp2_with fail
  obtain⟨x,g⟩:=e! ((w.alloc (.cells #[.int .i64 3,.string a,.string b,.slice ao ps.length c] 106)).drew);have j:Blk x w.heap.size #[.int .i64 3,.string a,.string b,.slice ao ps.length c] 106:=by rw[g];exact(Blk.made w #[.int .i64 3,.string a,.string b,.slice ao ps.length c] 106).drew
  have l:Below w.heap.size w x:=by rw[g];exact((Below.refl _ _).alloc (n0! _) _).drew
  refine re! g ?_;clear g o;have u:=fun W (h:Ext x W)=>(j.below h).cells;(refine WalkN.tk [0,1,2,3,4,5,6,7] ?_;(iterate 8 (refine c! ?_));refine TkN.n ?_)
  refine ob! 8 ?_;intro K hK;go_simp;refine(f.out _).mono ?_;rintro e v ⟨rfl,r⟩;have p:=r.symm;subst p;clear r;refine hK.out _ _ (Ext.refl _) ?_;clear hK f;refine t! 9 ?_
  refine k! 10 ?_;refine k! 11 ?_;refine k! 12 ?_
  (refine WalkN.tk [13,14] ?_;(iterate 2 (refine c! ?_));refine TkN.n ?_)
  refine k! 15 ?_;refine k! 16 ?_;refine k! 17 ?_;refine k! 18 ?_
  (refine WalkN.tk [19,20,21] ?_;(iterate 3 (refine c! ?_));refine TkN.n ?_)
  refine d! ?_;have m:=h! l;clear u j l;go_wp2_with fail
  go_ret2
  exact⟨_,by rw[q.out];rfl,rfl,m.out⟩
def bR! (k pk:Int)(d:Nat):Nat:=if k=5/\pk=4 then d+1 else d
mutual
def RT.textOk:RT->Nat->Bool
 | .mk k a b ps,d =>
  if k=1 then decide (a.size=0)&&decide (b.size=0)&&decide (ps.length=0)
  else if k=2 then ownB a&&decide (b.size=0)&&decide (ps.length=0)
  else if k=3 then ownB a&&ownB b&&decide (ps.length=0)
  else if k=4\/k=5 then decide (a.size=0)&&decide (b.size=0)&&decide (2<=ps.length)&&textL k ps d
  else false
def textL (k:Int):List RT->Nat->Bool
 | [],_=>true
 | p::ps,d=>(decide (p.k≠k)&&decide (bR! k p.k d<=8)&&p.textOk (bR! k p.k d))&&textL k ps d
end
def goodP (k:Int)(d:Nat)(p:RT):Bool:=decide (p.k≠k)&&decide (bR! k p.k d<=8)&&p.textOk (bR! k p.k d)
theorem bW! (k:Int)(d:Nat):∀l:List RT,textL k l d=l.all (goodP k d)
 | []=>by rw[textL];rfl
 | r::rs=>by rw[textL,List.all_cons,bW! k d rs];rfl
theorem hD! (ps:List RT)(d:Nat)(hd:d<=8)(pv:Value)(w:World)(hat:RTAt (· < w.heap.size) w (.mk 4 ⟨#[]⟩ ⟨#[]⟩ ps) pv)(hsz:szL ps<=1000000)(h2:2<=ps.length)
  (ih:∀p∈ps,∀(pv:Value) (d:Nat) (w:World),RTAt (· < w.heap.size) w p pv->d<=8->Calls prog 159 #[rV p pv,.int .i64 d] w fun e w'=>∃s:ByteArray,e= .returned (.tuple #[.string s,.bool (p.textOk d)])/\(p.textOk d=true->s.size+5<=80*p.sz)/\Below w.heap.size w w') :
  Calls prog 159 #[rV (.mk 4 ⟨#[]⟩ ⟨#[]⟩ ps) pv,.int .i64 d] w fun e w'=>∃s:ByteArray,e= .returned (.tuple #[.string s,.bool (ps.all (goodP 4 d))])/\(ps.all (goodP 4 d)=true->s.size<=80*szL ps)/\Below w.heap.size w w':=by
 obtain⟨ao,c,rfl,a7,af,n⟩:=hat.rows;dsimp only[RT.ps]at a7 n ⊢;have HC:=h! n;have IH:=h! ih;have a5:=h! hsz;have D:=Blk.made w #[.int .i64 4,.string ⟨#[]⟩,.string ⟨#[]⟩,.slice ao ps.length c] 106;have H:Hid (Below w.heap.size w (w.alloc (.cells #[.int .i64 4,.string ⟨#[]⟩,.string ⟨#[]⟩,.slice ao ps.length c] 106))):=h! ((Below.refl _ _).alloc (n0! _) _);have a3:=D.cells;have a6:¬ ((ps.length:Int)<2):=by omega
 unfold rV;dsimp only[RT.k,RT.a,RT.b];generalize hg:ps.all (goodP 4 d)=g;have HG:=h! hg.symm;clear hat n ih hsz h2 hg;go_enter func159,ntmps159
 go_wp2_with fail
 obtain⟨w1,R⟩:=e! (w.alloc (.cells #[.int .i64 4,.string ⟨#[]⟩,.string ⟨#[]⟩,.slice ao ps.length c] 106));rw[<-R]at D H ⊢;have z:=h! D;clear a3 a6 R D;go_loopw [6,91] (fun ov ii wr=>∃(i:Nat) (out:ByteArray),i<=ps.length/\ii= .int .i64 i/\ov= .string out/\(∀j (hj:j<ps.length),j<i->goodP 4 d ps[j]=true)/\out.size<=80*szL (ps.take i)/\Below w1.heap.size w1 wr) (fun _ ii _=>ps.length-(intOf ii).toNat)
 case atStart=>exact⟨0,⟨#[]⟩,by omega,rfl,rfl,fun _ _ h=>absurd h (by omega),v1! _,Below.refl _ _⟩
 case round =>
  obtain⟨i,out,hi,rfl,rfl,A,F,m⟩:=hrel;have B:=h! A;have l:Below w.heap.size w wr:=H.out.trans (m.mono H.out.size);clear A;by_cases hlt:i<ps.length
  ·have I:=h! (fun h=>ah! (p:=fun j hj=>goodP 4 d ps[j]=true) B.out hlt h);have o:=h! (fun(h:goodP 4 d ps[i]=false)=>(show g=false from by rw[HG.out];exact List.all_eq_false.2 ⟨ps[i],n5! hlt,by rw[h];exact Bool.false_ne_true⟩));have v:=n5! hlt;have L:=dz! hlt;have aa:=kR! ps (i+1);have ag:=a5.out;have N:=h! L;rw[L]at aa;obtain⟨b,E,ac,a0,U,c0,c1,c2,c3,t⟩:=HC.out i hlt;cases a0;have d0:=(l.cell (p:=⟨b,E+i*4,none⟩) U).trans c0;have d1:=(l.cell (p:=⟨b,E+i*4+1,none⟩) U).trans c1;have d2:=(l.cell (p:=⟨b,E+i*4+2,none⟩) U).trans c2;have d3:=(l.cell (p:=⟨b,E+i*4+3,none⟩) U).trans c3;obtain⟨M,K,rfl,-⟩:=t.rows;have J:=l.alloc l.size (.cells #[.int .i64 ps[i].k,.string ps[i].a,.string ps[i].b,.slice M ps[i].ps.length K] 106);have u:=t.up J;have O:=(Blk.made wr #[.int .i64 ps[i].k,.string ps[i].a,.string ps[i].b,.slice M ps[i].ps.length K] 106).cells;have y:=h! J;clear c0 c1 c2 c3 t J l;have r:=h! (m.alloc m.size (.cells #[.int .i64 ps[i].k,.string ps[i].a,.string ps[i].b,.slice M ps[i].ps.length K] 106));have Q:=(z.out.below r.out).cells;clear m L;by_cases hkk:ps[i].k=4
   ·have V:=h! (o.out (by unfold goodP;simp[hkk]));clear I o v u;generalize ps[i]=p at *;obtain⟨pk,pa,pb,ah⟩:=p;dsimp only[RT.k,RT.a,RT.b,RT.ps]at *;subst hkk;go_wp2_with fail
    go_ret2
    exact⟨_,by rw[V.out];rfl,(fun h=>by rw[V.out]at h;cases h),y.out⟩
   have a9:(ps[i].k == 4)=false:=by rw[n7!];exact hkk
   have f:goodP 4 d ps[i]=ps[i].textOk d:=by unfold goodP bR!;simp[hkk,hd]
   have ad:(d:Int)<=8:=by omega
   have T:=h! (IH.out ps[i] v _ d _ u (by omega));unfold rV at T;clear u;generalize ps[i]=p at *;cases hx:p.textOk d with
   | false =>
    rw[hx]at T;have V:=h! (o.out (by rw[f,hx]));clear o f;go_wp2_with fail
    refine T.out.mono ?_;rintro e w5 ⟨s,rfl,-,C⟩;have a8:=h! (y.out.trans (C.mono y.out.size));clear T C O y Q d0 d1 d2 d3;go_wp2_with fail
    go_ret2
    exact⟨_,by rw[V.out];rfl,(fun h=>by rw[V.out]at h;cases h),a8.out⟩
   | true =>
    rw[hx]at T;go_wp2_with fail
    refine T.out.mono ?_;rintro e w5 ⟨s,rfl,hsz,C⟩;have q:=h! (r.out.trans (C.mono r.out.size));replace Q:=(z.out.below q.out).cells;have hS:s.size+5<=80*p.sz:=by first | exact hsz rfl | exact hsz trivial
    clear T C O y hsz o d0 d1 d2 d3;have aj:¬ (9223372036854775807<1+s.size):=by omega
    have ai:¬ (9223372036854775807<1+s.size+1):=by omega
    have ae:¬ (9223372036854775807<out.size+3):=by omega
    by_cases hi0:i=0
    ·have ab:¬ ((0:Int)<(i:Int)):=by omega
     have a2:¬ (9223372036854775807<out.size+(s.size)):=by omega
     have G:=h! (show(out++s).size<=80*szL (ps.take (i+1))from by
      rw[N.out];simp only[n3!];have h1:(⟨#[40]⟩:ByteArray).size=1:=rfl;have h2:(⟨#[41]⟩:ByteArray).size=1:=rfl;have h3:(⟨#[32,124,32]⟩:ByteArray).size=3:=rfl;omega)
     have HN:=h! (I.out (by rw[f,hx]));clear hx f hS;go_wp2_with fail
     go_roundw
     case rel=>exact⟨i+1,_,by omega,by go_num,rfl,HN.out,G.out,q.out⟩
     case measure=>simp[intOf];omega
    ·have ab:(0:Int)<i:=by omega
     have a2:¬ (9223372036854775807<out.size+3+(s.size)):=by omega
     have G:=h! (show(out++⟨#[32,124,32]⟩++s).size<=80*szL (ps.take (i+1))from by
      rw[N.out];simp only[n3!];have h1:(⟨#[40]⟩:ByteArray).size=1:=rfl;have h2:(⟨#[41]⟩:ByteArray).size=1:=rfl;have h3:(⟨#[32,124,32]⟩:ByteArray).size=3:=rfl;omega)
     have HN:=h! (I.out (by rw[f,hx]));clear hx f hS;go_wp2_with fail
     go_roundw
     case rel=>exact⟨i+1,_,by omega,by go_num,rfl,HN.out,G.out,q.out⟩
     case measure=>simp[intOf];omega
  ·obtain rfl:i=ps.length:=by omega
   rw[u2!]at F
   have V:=h! (show g=true from by
    rw[HG.out,u8!];intro x hx;obtain⟨j,hj,rfl⟩:=u0! hx;exact B.out j hj hj)
   have a1:=h! F;have a4:=h! l;clear l m F;go_wp2_with fail
   go_ret2
   exact⟨_,by rw[V.out];rfl,fun _=>a1.out,a4.out⟩
theorem hC! (ps:List RT)(d:Nat)(hd:d<=8)(pv:Value)(w:World)(hat:RTAt (· < w.heap.size) w (.mk 5 ⟨#[]⟩ ⟨#[]⟩ ps) pv)(hsz:szL ps<=1000000)(h2:2<=ps.length)
  (ih:∀p∈ps,∀(pv:Value) (d:Nat) (w:World),RTAt (· < w.heap.size) w p pv->d<=8->Calls prog 159 #[rV p pv,.int .i64 d] w fun e w'=>∃s:ByteArray,e= .returned (.tuple #[.string s,.bool (p.textOk d)])/\(p.textOk d=true->s.size+5<=80*p.sz)/\Below w.heap.size w w') :
  Calls prog 159 #[rV (.mk 5 ⟨#[]⟩ ⟨#[]⟩ ps) pv,.int .i64 d] w fun e w'=>∃s:ByteArray,e= .returned (.tuple #[.string s,.bool (ps.all (goodP 5 d))])/\(ps.all (goodP 5 d)=true->s.size<=80*szL ps)/\Below w.heap.size w w':=by
 obtain⟨ao,c,rfl,aa,ab,t⟩:=hat.rows;dsimp only[RT.ps]at aa t ⊢;have HC:=h! t;have IH:=h! ih;have a2:=h! hsz;have J:=Blk.made w #[.int .i64 5,.string ⟨#[]⟩,.string ⟨#[]⟩,.slice ao ps.length c] 106;have Q:Hid (Below w.heap.size w (w.alloc (.cells #[.int .i64 5,.string ⟨#[]⟩,.string ⟨#[]⟩,.slice ao ps.length c] 106))):=h! ((Below.refl _ _).alloc (n0! _) _);have a0:=J.cells;have a4:¬ ((ps.length:Int)<2):=by omega
 unfold rV;dsimp only[RT.k,RT.a,RT.b];generalize hg:ps.all (goodP 5 d)=g;have HG:=h! hg.symm;clear hat t ih hsz h2 hg;go_enter func159,ntmps159
 go_wp2_with fail
 obtain⟨w1,Z⟩:=e! (w.alloc (.cells #[.int .i64 5,.string ⟨#[]⟩,.string ⟨#[]⟩,.slice ao ps.length c] 106));rw[<-Z]at J Q ⊢;have B:=h! J;clear a0 a4 Z J;go_loopw [6,91] (fun ov ii wr=>∃(i:Nat) (out:ByteArray),i<=ps.length/\ii= .int .i64 i/\ov= .string out/\(∀j (hj:j<ps.length),j<i->goodP 5 d ps[j]=true)/\out.size<=80*szL (ps.take i)/\Below w1.heap.size w1 wr) (fun _ ii _=>ps.length-(intOf ii).toNat)
 case atStart=>exact⟨0,⟨#[]⟩,by omega,rfl,rfl,fun _ _ h=>absurd h (by omega),v1! _,Below.refl _ _⟩
 case round =>
  obtain⟨i,out,hi,rfl,rfl,I,T,v⟩:=hrel;have G:=h! I;have m:Below w.heap.size w wr:=Q.out.trans (v.mono Q.out.size);clear I;by_cases hlt:i<ps.length
  ·have F:=h! (fun h=>ah! (p:=fun j hj=>goodP 5 d ps[j]=true) G.out hlt h);have l:=h! (fun(h:goodP 5 d ps[i]=false)=>(show g=false from by rw[HG.out];exact List.all_eq_false.2 ⟨ps[i],n5! hlt,by rw[h];exact Bool.false_ne_true⟩));have y:=n5! hlt;have N:=dz! hlt;have a5:=kR! ps (i+1);have ac:=a2.out;have K:=h! N;rw[N]at a5;obtain⟨b,L,ad,a9,hb,c0,c1,c2,c3,z⟩:=HC.out i hlt;cases a9;have d0:=(m.cell (p:=⟨b,L+i*4,none⟩) hb).trans c0;have d1:=(m.cell (p:=⟨b,L+i*4+1,none⟩) hb).trans c1;have d2:=(m.cell (p:=⟨b,L+i*4+2,none⟩) hb).trans c2;have d3:=(m.cell (p:=⟨b,L+i*4+3,none⟩) hb).trans c3;obtain⟨O,X,rfl,-⟩:=z.rows;have R:=m.alloc m.size (.cells #[.int .i64 ps[i].k,.string ps[i].a,.string ps[i].b,.slice O ps[i].ps.length X] 106);have q:=z.up R;have D:=(Blk.made wr #[.int .i64 ps[i].k,.string ps[i].a,.string ps[i].b,.slice O ps[i].ps.length X] 106).cells;have r:=h! R;clear c0 c1 c2 c3 z R m;have o:=h! (v.alloc v.size (.cells #[.int .i64 ps[i].k,.string ps[i].a,.string ps[i].b,.slice O ps[i].ps.length X] 106));have E:=(B.out.below o.out).cells;clear v N;by_cases hkk:ps[i].k=5
   ·have HF:=h! (l.out (by unfold goodP;simp[hkk]));clear F l y q;generalize ps[i]=p at *;obtain⟨pk,pa,pb,af⟩:=p;dsimp only[RT.k,RT.a,RT.b,RT.ps]at *;subst hkk;go_wp2_with fail
    go_ret2
    exact⟨_,by rw[HF.out];rfl,(fun h=>by rw[HF.out]at h;cases h),r.out⟩
   have H:(ps[i].k == 5)=false:=by rw[n7!];exact hkk
   by_cases h4:ps[i].k=4
   ·have C:(ps[i].k == 4)=true:=by rw[beq_iff_eq];exact h4
    by_cases hd8:d=8
    ·have HF:=h! (l.out (by unfold goodP bR!;simp[h4,hd8]));have Y:¬ ((d:Int)+1<=8):=by omega
     clear F l y q C H hkk hd8;generalize ps[i]=p at *;simp only[h4]at d0 D r E;clear h4;go_wp2_with fail
     go_ret2
     exact⟨_,by rw[HF.out];rfl,(fun h=>by rw[HF.out]at h;cases h),r.out⟩
    ·have ae:d+1<=8:=by omega
     have f:goodP 5 d ps[i]=ps[i].textOk (d+1):=by unfold goodP bR!;simp[h4];omega
     have Y:(d:Int)+1<=8:=by omega
     have HR:=h! (IH.out ps[i] y _ (d+1) _ q (by omega));unfold rV at HR;clear q;generalize ps[i]=p at *;simp only[h4]at d0 D r o HR E;rw[show((d+1:Nat):Int)=(d:Int)+1 from rfl]at HR;clear h4 C H hkk;cases hx:p.textOk (d+1) with
     | false =>
      rw[hx]at HR;have HF:=h! (l.out (by rw[f,hx]));clear l f;go_wp2_with fail
      refine HR.out.mono ?_;rintro e w5 ⟨s,rfl,-,u⟩;have U:=h! (r.out.trans (u.mono r.out.size));clear HR u D r E d0 d1 d2 d3;go_wp2_with fail
      go_ret2
      exact⟨_,by rw[HF.out];rfl,(fun h=>by rw[HF.out]at h;cases h),U.out⟩
     | true =>
      rw[hx]at HR;go_wp2_with fail
      refine HR.out.mono ?_;rintro e w5 ⟨s,rfl,hsz,u⟩;have n:=h! (o.out.trans (u.mono o.out.size));replace E:=(B.out.below n.out).cells;have hS:s.size+5<=80*p.sz:=by first | exact hsz rfl | exact hsz trivial
      clear HR u D r hsz l d0 d1 d2 d3;have a8:¬ (9223372036854775807<1+s.size):=by omega
      have a7:¬ (9223372036854775807<1+s.size+1):=by omega
      have a3:¬ (9223372036854775807<out.size+3):=by omega
      by_cases hi0:i=0
      ·have M:¬ ((0:Int)<(i:Int)):=by omega
       have V:¬ (9223372036854775807<out.size+(1+s.size+1)):=by omega
       have A:=h! (show(out++(⟨#[40]⟩++s++⟨#[41]⟩)).size<=80*szL (ps.take (i+1))from by
        rw[K.out];simp only[n3!];have h1:(⟨#[40]⟩:ByteArray).size=1:=rfl;have h2:(⟨#[41]⟩:ByteArray).size=1:=rfl;have h3:(⟨#[32,38,32]⟩:ByteArray).size=3:=rfl;omega)
       have HN:=h! (F.out (by rw[f,hx]));clear hx f hS;go_wp2_with fail
       go_roundw
       case rel=>exact⟨i+1,_,by omega,by go_num,rfl,HN.out,A.out,n.out⟩
       case measure=>simp[intOf];omega
      ·have M:(0:Int)<i:=by omega
       have V:¬ (9223372036854775807<out.size+3+(1+s.size+1)):=by omega
       have A:=h! (show(out++⟨#[32,38,32]⟩++(⟨#[40]⟩++s++⟨#[41]⟩)).size<=80*szL (ps.take (i+1))from by
        rw[K.out];simp only[n3!];have h1:(⟨#[40]⟩:ByteArray).size=1:=rfl;have h2:(⟨#[41]⟩:ByteArray).size=1:=rfl;have h3:(⟨#[32,38,32]⟩:ByteArray).size=3:=rfl;omega)
       have HN:=h! (F.out (by rw[f,hx]));clear hx f hS;go_wp2_with fail
       go_roundw
       case rel=>exact⟨i+1,_,by omega,by go_num,rfl,HN.out,A.out,n.out⟩
       case measure=>simp[intOf];omega
   ·have C:(ps[i].k == 4)=false:=by rw[n7!];exact h4
    have f:goodP 5 d ps[i]=ps[i].textOk d:=by unfold goodP bR!;simp[hkk,h4,hd]
    have Y:(d:Int)<=8:=by omega
    have HR:=h! (IH.out ps[i] y _ d _ q (by omega));unfold rV at HR;clear q;generalize ps[i]=p at *;cases hx:p.textOk d with
    | false =>
     rw[hx]at HR;have HF:=h! (l.out (by rw[f,hx]));clear l f;go_wp2_with fail
     refine HR.out.mono ?_;rintro e w5 ⟨s,rfl,-,u⟩;have U:=h! (r.out.trans (u.mono r.out.size));clear HR u D r E d0 d1 d2 d3;go_wp2_with fail
     go_ret2
     exact⟨_,by rw[HF.out];rfl,(fun h=>by rw[HF.out]at h;cases h),U.out⟩
    | true =>
     rw[hx]at HR;go_wp2_with fail
     refine HR.out.mono ?_;rintro e w5 ⟨s,rfl,hsz,u⟩;have n:=h! (o.out.trans (u.mono o.out.size));replace E:=(B.out.below n.out).cells;have hS:s.size+5<=80*p.sz:=by first | exact hsz rfl | exact hsz trivial
     clear HR u D r hsz l d0 d1 d2 d3;have a8:¬ (9223372036854775807<1+s.size):=by omega
     have a7:¬ (9223372036854775807<1+s.size+1):=by omega
     have a3:¬ (9223372036854775807<out.size+3):=by omega
     by_cases hi0:i=0
     ·have M:¬ ((0:Int)<(i:Int)):=by omega
      have V:¬ (9223372036854775807<out.size+(s.size)):=by omega
      have A:=h! (show(out++s).size<=80*szL (ps.take (i+1))from by
       rw[K.out];simp only[n3!];have h1:(⟨#[40]⟩:ByteArray).size=1:=rfl;have h2:(⟨#[41]⟩:ByteArray).size=1:=rfl;have h3:(⟨#[32,38,32]⟩:ByteArray).size=3:=rfl;omega)
      have HN:=h! (F.out (by rw[f,hx]));clear hx f hS;go_wp2_with fail
      go_roundw
      case rel=>exact⟨i+1,_,by omega,by go_num,rfl,HN.out,A.out,n.out⟩
      case measure=>simp[intOf];omega
     ·have M:(0:Int)<i:=by omega
      have V:¬ (9223372036854775807<out.size+3+(s.size)):=by omega
      have A:=h! (show(out++⟨#[32,38,32]⟩++s).size<=80*szL (ps.take (i+1))from by
       rw[K.out];simp only[n3!];have h1:(⟨#[40]⟩:ByteArray).size=1:=rfl;have h2:(⟨#[41]⟩:ByteArray).size=1:=rfl;have h3:(⟨#[32,38,32]⟩:ByteArray).size=3:=rfl;omega)
      have HN:=h! (F.out (by rw[f,hx]));clear hx f hS;go_wp2_with fail
      go_roundw
      case rel=>exact⟨i+1,_,by omega,by go_num,rfl,HN.out,A.out,n.out⟩
      case measure=>simp[intOf];omega
  ·obtain rfl:i=ps.length:=by omega
   rw[u2!]at T
   have HF:=h! (show g=true from by
    rw[HG.out,u8!];intro x hx;obtain⟨j,hj,rfl⟩:=u0! hx;exact G.out j hj hj)
   have a6:=h! T;have a1:=h! m;clear m v T;go_wp2_with fail
   go_ret2
   exact⟨_,by rw[HF.out];rfl,fun _=>a6.out,a1.out⟩
theorem kP! (a b:ByteArray)(ps:List RT)(d:Nat)(ao:Option Addr)(c:Nat)(w:World)(h:¬ (a.size=0/\b.size=0/\2<=ps.length)):Calls prog 159 #[.agg #[.int .i64 4,.string a,.string b,.slice ao ps.length c],.int .i64 d] w fun e w'=>∃s:ByteArray,e= .returned (.tuple #[.string s,.bool false])/\Below w.heap.size w w':=by
 have a3:=(Blk.made w #[.int .i64 4,.string a,.string b,.slice ao ps.length c] 106).cells;have f:Hid (Below w.heap.size w (w.alloc (.cells #[.int .i64 4,.string a,.string b,.slice ao ps.length c] 106))):=h! ((Below.refl _ _).alloc (n0! _) _);by_cases hna:a.size=0
 ·obtain rfl:=ae! hna;by_cases hnb:b.size=0
  ·obtain rfl:=ae! hnb
   have a2:(ps.length:Int)<2:=by
    have:¬ 2<=ps.length:=fun h2=>h ⟨rfl,rfl,h2⟩;omega
   clear hna hnb h;go_enter func159,ntmps159
   go_wp2_with fail
   go_ret2
   exact⟨_,rfl,f.out⟩
  ·have a0:=al! hnb;clear hna hnb h;go_enter func159,ntmps159
   go_wp2_with fail
   go_ret2
   exact⟨_,rfl,f.out⟩
 ·have a1:=al! hna;clear hna h;go_enter func159,ntmps159
  go_wp2_with fail
  go_ret2
  exact⟨_,rfl,f.out⟩
theorem kO! (a b:ByteArray)(ps:List RT)(d:Nat)(ao:Option Addr)(c:Nat)(w:World)(h:¬ (a.size=0/\b.size=0/\2<=ps.length)):Calls prog 159 #[.agg #[.int .i64 5,.string a,.string b,.slice ao ps.length c],.int .i64 d] w fun e w'=>∃s:ByteArray,e= .returned (.tuple #[.string s,.bool false])/\Below w.heap.size w w':=by
 have a3:=(Blk.made w #[.int .i64 5,.string a,.string b,.slice ao ps.length c] 106).cells;have f:Hid (Below w.heap.size w (w.alloc (.cells #[.int .i64 5,.string a,.string b,.slice ao ps.length c] 106))):=h! ((Below.refl _ _).alloc (n0! _) _);by_cases hna:a.size=0
 ·obtain rfl:=ae! hna;by_cases hnb:b.size=0
  ·obtain rfl:=ae! hnb
   have a2:(ps.length:Int)<2:=by
    have:¬ 2<=ps.length:=fun h2=>h ⟨rfl,rfl,h2⟩;omega
   clear hna hnb h;go_enter func159,ntmps159
   go_wp2_with fail
   go_ret2
   exact⟨_,rfl,f.out⟩
  ·have a0:=al! hnb;clear hna hnb h;go_enter func159,ntmps159
   go_wp2_with fail
   go_ret2
   exact⟨_,rfl,f.out⟩
 ·have a1:=al! hna;clear hna h;go_enter func159,ntmps159
  go_wp2_with fail
  go_ret2
  exact⟨_,rfl,f.out⟩
theorem iz! (k:Int)(a b:ByteArray)(ps:List RT)(d:Nat)(ao:Option Addr)(c:Nat)(w:World)(h1:k≠1)(h2:k≠2)(h3:k≠3)(h4:k≠4)(h5:k≠5):Calls prog 159 #[.agg #[.int .i64 k,.string a,.string b,.slice ao ps.length c],.int .i64 d] w fun e w'=>∃s:ByteArray,e= .returned (.tuple #[.string s,.bool false])/\Below w.heap.size w w':=by
 have a1:=(Blk.made w #[.int .i64 k,.string a,.string b,.slice ao ps.length c] 106).cells;have a0:Hid (Below w.heap.size w (w.alloc (.cells #[.int .i64 k,.string a,.string b,.slice ao ps.length c] 106))):=h! ((Below.refl _ _).alloc (n0! _) _);have e1:(k == 1)=false:=by rw[n7!];exact h1
 have e2:(k == 2)=false:=by rw[n7!];exact h2
 have e3:(k == 3)=false:=by rw[n7!];exact h3
 have e4:(k == 4)=false:=by rw[n7!];exact h4
 have e5:(k == 5)=false:=by rw[n7!];exact h5
 clear h1 h2 h3 h4 h5;go_enter func159,ntmps159
 go_wp2_with fail
 go_ret2
 exact⟨_,rfl,a0.out⟩
theorem lG! {s:ByteArray}(h:isNm s=true):s.size<=32:=by
 unfold isNm at h;simp only[v0!,u1!]at h;exact h.2.2
theorem cx! {s:ByteArray}(h:ownB s=true):s.size<=32:=by
 unfold ownB at h;simp only[v0!]at h;exact lG! h.1
theorem na! (r:RT):∀(pv:Value)(d:Nat)(w:World),RTAt (· < w.heap.size) w r pv->r.Ok->r.sz<=1000000->d<=8->Calls prog 159 #[rV r pv,.int .i64 d] w fun e w'=>∃s:ByteArray,e= .returned (.tuple #[.string s,.bool (r.textOk d)])/\(r.textOk d=true->s.size+5<=80*r.sz)/\Below w.heap.size w w':=by
 induction r using RT.ind with
 | h r ih =>
 intro pv d w hat hok hsz hd;obtain⟨-,i,o,m⟩:=r.ok_iff.1 hok;have f:=hat.rows;obtain⟨k,a,b,ps⟩:=r;dsimp only[RT.a,RT.b,RT.ps]at i o m ih f;by_cases k1:k=1
 ·subst k1;obtain⟨u,c,rfl,-⟩:=f;have x:(RT.mk 1 a b ps).textOk d=(decide (a.size=0)&&decide (b.size=0)&&decide (ps.length=0)):=by rw[RT.textOk];rfl
  rw[x];refine(iC! a b ps d u c w).mono ?_;rintro e v ⟨s,rfl,rfl,q⟩;exact⟨_,rfl,(fun _=>by rw[RT.sz];show 4+5<=_;omega),q⟩
 by_cases k2:k=2
 ·subst k2;obtain⟨u,c,rfl,-⟩:=f;have x:(RT.mk 2 a b ps).textOk d=(ownB a&&decide (b.size=0)&&decide (ps.length=0)):=by rw[RT.textOk];rfl
  rw[x];refine(iB! a b ps d u c w i).mono ?_;rintro e v ⟨s,rfl,rfl,q⟩;refine⟨_,rfl,(fun h=>?_),q⟩;simp only[v0!]at h;have:=cx! h.1.1;rw[RT.sz];omega
 by_cases k3:k=3
 ·subst k3;obtain⟨u,c,rfl,-⟩:=f;have x:(RT.mk 3 a b ps).textOk d=(ownB a&&ownB b&&decide (ps.length=0)):=by rw[RT.textOk];rfl
  rw[x];refine(iA! a b ps d u c w i o).mono ?_;rintro e v ⟨s,rfl,rfl,q⟩;refine⟨_,rfl,(fun h=>?_),q⟩;simp only[v0!]at h;have h1:=cx! h.1.1;have h2:=cx! h.1.2;rw[RT.sz];simp only[n3!];have t:(⟨#[45,62]⟩:ByteArray).size=2:=rfl;omega
 by_cases k4:k=4
 ·subst k4;obtain⟨u,c,rfl,-⟩:=f;by_cases hg:a.size=0/\b.size=0/\2<=ps.length
  ·obtain⟨j,n,g⟩:=hg;obtain rfl:=ae! j;obtain rfl:=ae! n
   have x:(RT.mk 4 ⟨#[]⟩ ⟨#[]⟩ ps).textOk d=ps.all (goodP 4 d):=by
    rw[RT.textOk,bW!,v2! g];rfl
   rw[x];refine(hD! ps d hd _ w hat (by rw[RT.sz]at hsz;omega) g (fun p hp pv d w h1 h2=>ih p hp pv d w h1 (m p hp) (by have:=ei! hp;rw[RT.sz]at hsz;omega) h2)).mono ?_;rintro e v ⟨s,rfl,l,q⟩;exact⟨s,rfl,fun h=>by have:=l h;rw[RT.sz];omega,q⟩
  ·have x:(RT.mk 4 a b ps).textOk d=false:=by
    rw[RT.textOk];by_cases h1:a.size=0
    ·by_cases h2:b.size=0
     ·have t:¬ 2<=ps.length:=fun t=>hg ⟨h1,h2,t⟩;simp[h1,h2,t]
     ·simp[h2]
    ·simp[h1]
   rw[x];refine(kP! a b ps d u c w hg).mono ?_;rintro e v ⟨s,rfl,q⟩;exact⟨s,rfl,(fun h=>by cases h),q⟩
 by_cases k5:k=5
 ·subst k5;obtain⟨u,c,rfl,-⟩:=f;by_cases hg:a.size=0/\b.size=0/\2<=ps.length
  ·obtain⟨j,n,g⟩:=hg;obtain rfl:=ae! j;obtain rfl:=ae! n
   have x:(RT.mk 5 ⟨#[]⟩ ⟨#[]⟩ ps).textOk d=ps.all (goodP 5 d):=by
    rw[RT.textOk,bW!,v2! g];rfl
   rw[x];refine(hC! ps d hd _ w hat (by rw[RT.sz]at hsz;omega) g (fun p hp pv d w h1 h2=>ih p hp pv d w h1 (m p hp) (by have:=ei! hp;rw[RT.sz]at hsz;omega) h2)).mono ?_;rintro e v ⟨s,rfl,l,q⟩;exact⟨s,rfl,fun h=>by have:=l h;rw[RT.sz];omega,q⟩
  ·have x:(RT.mk 5 a b ps).textOk d=false:=by
    rw[RT.textOk];by_cases h1:a.size=0
    ·by_cases h2:b.size=0
     ·have t:¬ 2<=ps.length:=fun t=>hg ⟨h1,h2,t⟩;simp[h1,h2,t]
     ·simp[h2]
    ·simp[h1]
   rw[x];refine(kO! a b ps d u c w hg).mono ?_;rintro e v ⟨s,rfl,q⟩;exact⟨s,rfl,(fun h=>by cases h),q⟩
 ·obtain⟨u,c,rfl,-⟩:=f;have x:(RT.mk k a b ps).textOk d=false:=by rw[RT.textOk,if_neg k1,if_neg k2,if_neg k3,if_neg (by omega)]
  rw[x];refine(iz! k a b ps d u c w k1 k2 k3 k4 k5).mono ?_;rintro e v ⟨s,rfl,q⟩;exact⟨s,rfl,(fun h=>by cases h),q⟩
end Go.Proofs.YtlhaghoajpglaaaGreat
