/- Lemmas for the claim, no condition. -/
import Derived.Test.YtlhaghoajpglaaaGreatYBuMany0
import Derived.Test.YtlhaghoajpglaaaGreatYBuMany1
set_option maxRecDepth 100000
set_option maxHeartbeats 4000000
namespace Go.Proofs.YtlhaghoajpglaaaGreat
open Go Go.RowKit
theorem WalkN.skip {P:Program} {ops:Array Oper} {Q:Exit->Act->World->Prop} {S:World->Prop} {f:Nat} {l:Array Bool} {a:Act} {w:World} (i:Nat)(o:Oper)(ho:ops[i]?=some o)(hf:Region.free .any ops l i=true)(hr:(Region.ready .any ops l).contains i=true)
  (hw:Region.wanted o (yielded ops a.tmps)=false) (h:WalkN P ops Q S f (l.setIfInBounds i true) (a.put o.dst undef) w):WalkN P ops Q S (f+1) l a w :=
 .inr (.inl ⟨i,o,undef,ho,hf,hr,.inr ⟨hw,rfl⟩,h⟩)
theorem text_leaf1 (a b:ByteArray)(ps:List RT)(d:Nat)(ao:Option Addr)(c:Nat)(w:World):Calls Tryz.prog 159 #[.agg #[.int .i64 1,.string a,.string b,.slice ao ps.length c],.int .i64 d] w fun e w'=>∃ s:ByteArray,e = .returned (.tuple #[.string s,.bool (decide (a.size=0)&&decide (b.size=0)&&decide (ps.length=0))])/\s=⟨#[116,104,105,115]⟩/\Below w.heap.size w w':=by
 have hbk:=(Blk.made w #[.int .i64 1,.string a,.string b,.slice ao ps.length c] 106).cells;by_cases hna:a.size=0
 ·obtain rfl:=ba_size_eq hna;clear hna;by_cases hnb:b.size=0
  ·obtain rfl:=ba_size_eq hnb;clear hnb;by_cases hlp:ps.length=0
   ·have hp0:((ps.length:Int) == 0)=true:=by rw[beq_iff_eq];omega
    have HT:=h! (show(decide ((⟨#[]⟩:ByteArray).size=0)&&decide ((⟨#[]⟩:ByteArray).size=0)&&decide (ps.length=0))=true from by first | rfl | (simp[hlp];done) | (simp[hlp];rfl));clear hlp;go_enter Tryz.func159,Tryz.ntmps159
    go_wp2_with fail
    obtain⟨wd,hwd⟩:∃ wd,wd=(w.alloc (.cells #[.int .i64 1,.string ⟨#[]⟩,.string ⟨#[]⟩,.slice ao ps.length c] 106)).drew:=⟨_,rfl⟩;have hBd:Blk wd w.heap.size #[.int .i64 1,.string ⟨#[]⟩,.string ⟨#[]⟩,.slice ao ps.length c] 106:=by rw[hwd];exact(Blk.made w #[.int .i64 1,.string ⟨#[]⟩,.string ⟨#[]⟩,.slice ao ps.length c] 106).drew
    have hbd:Below w.heap.size w wd:=by rw[hwd];exact((Below.refl _ _).alloc (Nat.le_refl _) _).drew
    refine r! (Ext wd) (by rw[<- hwd];exact Ext.refl _) ?_;rw[<- hwd];clear hwd hbk;have h1:∀ W,Ext wd W->∀ i,W.cell? ⟨w.heap.size,i,none⟩=(#[.int .i64 1,.string ⟨#[]⟩,.string ⟨#[]⟩,.slice ao ps.length c]:Array Value)[i]?:=fun W h=>(hBd.below h).cells;(refine WalkN.tk [0,1,2,3] ?_;(iterate 4 (refine c! ?_));refine TkN.n ?_)
    (refine WalkN.tk [4,5,6] ?_;(iterate 3 (refine c! ?_));refine TkN.n ?_)
    (refine WalkN.tk [7,8] ?_;(iterate 2 (refine c! ?_));refine TkN.n ?_)
    (refine WalkN.tk [9,10,11,12] ?_;(iterate 4 (refine c! ?_));refine TkN.n ?_)
    (refine WalkN.tk [13,14,15] ?_;(iterate 3 (refine c! ?_));refine TkN.n ?_)
    refine d! ?_;have HBD:=h! hbd;clear h1 hBd hbd;go_wp2_with fail
    go_ret2
    exact⟨_,by rw[HT.out];rfl,rfl,HBD.out⟩
   ·have hp0:((ps.length:Int) == 0)=false:=by rw[beq_eq_false_iff_ne];omega
    have HT:=h! (show(decide ((⟨#[]⟩:ByteArray).size=0)&&decide ((⟨#[]⟩:ByteArray).size=0)&&decide (ps.length=0))=false from by first | rfl | (simp[hlp];done) | (simp[hlp];rfl));clear hlp;go_enter Tryz.func159,Tryz.ntmps159
    go_wp2_with fail
    obtain⟨wd,hwd⟩:∃ wd,wd=(w.alloc (.cells #[.int .i64 1,.string ⟨#[]⟩,.string ⟨#[]⟩,.slice ao ps.length c] 106)).drew:=⟨_,rfl⟩;have hBd:Blk wd w.heap.size #[.int .i64 1,.string ⟨#[]⟩,.string ⟨#[]⟩,.slice ao ps.length c] 106:=by rw[hwd];exact(Blk.made w #[.int .i64 1,.string ⟨#[]⟩,.string ⟨#[]⟩,.slice ao ps.length c] 106).drew
    have hbd:Below w.heap.size w wd:=by rw[hwd];exact((Below.refl _ _).alloc (Nat.le_refl _) _).drew
    refine r! (Ext wd) (by rw[<- hwd];exact Ext.refl _) ?_;rw[<- hwd];clear hwd hbk;have h1:∀ W,Ext wd W->∀ i,W.cell? ⟨w.heap.size,i,none⟩=(#[.int .i64 1,.string ⟨#[]⟩,.string ⟨#[]⟩,.slice ao ps.length c]:Array Value)[i]?:=fun W h=>(hBd.below h).cells;(refine WalkN.tk [0,1,2,3] ?_;(iterate 4 (refine c! ?_));refine TkN.n ?_)
    (refine WalkN.tk [4,5,6] ?_;(iterate 3 (refine c! ?_));refine TkN.n ?_)
    (refine WalkN.tk [7,8] ?_;(iterate 2 (refine c! ?_));refine TkN.n ?_)
    (refine WalkN.tk [9,10,11,12] ?_;(iterate 4 (refine c! ?_));refine TkN.n ?_)
    (refine WalkN.tk [13,14,15] ?_;(iterate 3 (refine c! ?_));refine TkN.n ?_)
    refine d! ?_;have HBD:=h! hbd;clear h1 hBd hbd;go_wp2_with fail
    go_ret2
    exact⟨_,by rw[HT.out];rfl,rfl,HBD.out⟩
  ·have hneb:=ba_size_ne hnb;have HT:=h! (show(decide ((⟨#[]⟩:ByteArray).size=0)&&decide (b.size=0)&&decide (ps.length=0))=false from by first | rfl | (simp[hnb];done) | (simp[hnb];rfl));clear hnb;go_enter Tryz.func159,Tryz.ntmps159
   go_wp2_with fail
   obtain⟨wd,hwd⟩:∃ wd,wd=(w.alloc (.cells #[.int .i64 1,.string ⟨#[]⟩,.string b,.slice ao ps.length c] 106)).drew:=⟨_,rfl⟩;have hBd:Blk wd w.heap.size #[.int .i64 1,.string ⟨#[]⟩,.string b,.slice ao ps.length c] 106:=by rw[hwd];exact(Blk.made w #[.int .i64 1,.string ⟨#[]⟩,.string b,.slice ao ps.length c] 106).drew
   have hbd:Below w.heap.size w wd:=by rw[hwd];exact((Below.refl _ _).alloc (Nat.le_refl _) _).drew
   refine r! (Ext wd) (by rw[<- hwd];exact Ext.refl _) ?_;rw[<- hwd];clear hwd hbk;have h1:∀ W,Ext wd W->∀ i,W.cell? ⟨w.heap.size,i,none⟩=(#[.int .i64 1,.string ⟨#[]⟩,.string b,.slice ao ps.length c]:Array Value)[i]?:=fun W h=>(hBd.below h).cells;(refine WalkN.tk [0,1,2,3] ?_;(iterate 4 (refine c! ?_));refine TkN.n ?_)
   (refine WalkN.tk [4,5,6] ?_;(iterate 3 (refine c! ?_));refine TkN.n ?_)
   (refine WalkN.tk [7,8] ?_;(iterate 2 (refine c! ?_));refine TkN.n ?_)
   refine k! 9 ?_;refine k! 10 ?_;refine k! 11 ?_;refine k! 12 ?_
   (refine WalkN.tk [13,14,15] ?_;(iterate 3 (refine c! ?_));refine TkN.n ?_)
   refine d! ?_;have HBD:=h! hbd;clear h1 hBd hbd;go_wp2_with fail
   go_ret2
   exact⟨_,by rw[HT.out];rfl,rfl,HBD.out⟩
 ·have hnea:=ba_size_ne hna;have HT:=h! (show(decide (a.size=0)&&decide (b.size=0)&&decide (ps.length=0))=false from by first | rfl | (simp[hna];done) | (simp[hna];rfl));clear hna;go_enter Tryz.func159,Tryz.ntmps159
  go_wp2_with fail
  obtain⟨wd,hwd⟩:∃ wd,wd=(w.alloc (.cells #[.int .i64 1,.string a,.string b,.slice ao ps.length c] 106)).drew:=⟨_,rfl⟩;have hBd:Blk wd w.heap.size #[.int .i64 1,.string a,.string b,.slice ao ps.length c] 106:=by rw[hwd];exact(Blk.made w #[.int .i64 1,.string a,.string b,.slice ao ps.length c] 106).drew
  have hbd:Below w.heap.size w wd:=by rw[hwd];exact((Below.refl _ _).alloc (Nat.le_refl _) _).drew
  refine r! (Ext wd) (by rw[<- hwd];exact Ext.refl _) ?_;rw[<- hwd];clear hwd hbk;have h1:∀ W,Ext wd W->∀ i,W.cell? ⟨w.heap.size,i,none⟩=(#[.int .i64 1,.string a,.string b,.slice ao ps.length c]:Array Value)[i]?:=fun W h=>(hBd.below h).cells;(refine WalkN.tk [0,1,2,3] ?_;(iterate 4 (refine c! ?_));refine TkN.n ?_)
  refine k! 4 ?_;refine k! 5 ?_;refine k! 6 ?_
  (refine WalkN.tk [7,8] ?_;(iterate 2 (refine c! ?_));refine TkN.n ?_)
  refine k! 9 ?_;refine k! 10 ?_;refine k! 11 ?_;refine k! 12 ?_
  (refine WalkN.tk [13,14,15] ?_;(iterate 3 (refine c! ?_));refine TkN.n ?_)
  refine d! ?_;have HBD:=h! hbd;clear h1 hBd hbd;go_wp2_with fail
  go_ret2
  exact⟨_,by rw[HT.out];rfl,rfl,HBD.out⟩
theorem text_leaf2 (a b:ByteArray)(ps:List RT)(d:Nat)(ao:Option Addr)(c:Nat)(w:World)(ha:a.size<=140737488351232):Calls Tryz.prog 159 #[.agg #[.int .i64 2,.string a,.string b,.slice ao ps.length c],.int .i64 d] w fun e w'=>∃ s:ByteArray,e = .returned (.tuple #[.string s,.bool (ownB a&&decide (b.size=0)&&decide (ps.length=0))])/\s=a/\Below w.heap.size w w':=by
 have hbk:=(Blk.made w #[.int .i64 2,.string a,.string b,.slice ao ps.length c] 106).cells;have HOWa:=h! (fun W=>own_any a (by unfold maxLen;omega) W);clear ha;cases hoa:ownB a with
 | true =>
  simp only[hoa]at HOWa;by_cases hnb:b.size=0
  ·obtain rfl:=ba_size_eq hnb;clear hnb;by_cases hlp:ps.length=0
   ·have hp0:((ps.length:Int) == 0)=true:=by rw[beq_iff_eq];omega
    have HT:=h! (show(true&&decide ((⟨#[]⟩:ByteArray).size=0)&&decide (ps.length=0))=true from by first | rfl | (simp[hlp];done) | (simp[hlp];rfl));clear hlp;go_enter Tryz.func159,Tryz.ntmps159
    go_wp2_with fail
    obtain⟨wd,hwd⟩:∃ wd,wd=(w.alloc (.cells #[.int .i64 2,.string a,.string ⟨#[]⟩,.slice ao ps.length c] 106)).drew:=⟨_,rfl⟩;have hBd:Blk wd w.heap.size #[.int .i64 2,.string a,.string ⟨#[]⟩,.slice ao ps.length c] 106:=by rw[hwd];exact(Blk.made w #[.int .i64 2,.string a,.string ⟨#[]⟩,.slice ao ps.length c] 106).drew
    have hbd:Below w.heap.size w wd:=by rw[hwd];exact((Below.refl _ _).alloc (Nat.le_refl _) _).drew
    refine r! (Ext wd) (by rw[<- hwd];exact Ext.refl _) ?_;rw[<- hwd];clear hwd hbk;have h1:∀ W,Ext wd W->∀ i,W.cell? ⟨w.heap.size,i,none⟩=(#[.int .i64 2,.string a,.string ⟨#[]⟩,.slice ao ps.length c]:Array Value)[i]?:=fun W h=>(hBd.below h).cells;(refine WalkN.tk [0,1,2,3] ?_;(iterate 4 (refine c! ?_));refine TkN.n ?_)
    refine o! 4 ?_;refine b! ?_;intro K hK;go_simp;refine(HOWa.out _).mono ?_;rintro e w2 ⟨rfl,h2⟩;have h3:=h2.symm;subst h3;clear h2;refine hK.out _ _ (Ext.refl _) ?_;clear hK HOWa;refine t! 5 ?_
    (refine WalkN.tk [6,7,8] ?_;(iterate 3 (refine c! ?_));refine TkN.n ?_)
    (refine WalkN.tk [9,10] ?_;(iterate 2 (refine c! ?_));refine TkN.n ?_)
    (refine WalkN.tk [11,12,13,14] ?_;(iterate 4 (refine c! ?_));refine TkN.n ?_)
    (refine WalkN.tk [15,16,17] ?_;(iterate 3 (refine c! ?_));refine TkN.n ?_)
    refine d! ?_;have HBD:=h! hbd;clear h1 hBd hbd;go_wp2_with fail
    go_ret2
    exact⟨_,by rw[HT.out];rfl,rfl,HBD.out⟩
   ·have hp0:((ps.length:Int) == 0)=false:=by rw[beq_eq_false_iff_ne];omega
    have HT:=h! (show(true&&decide ((⟨#[]⟩:ByteArray).size=0)&&decide (ps.length=0))=false from by first | rfl | (simp[hlp];done) | (simp[hlp];rfl));clear hlp;go_enter Tryz.func159,Tryz.ntmps159
    go_wp2_with fail
    obtain⟨wd,hwd⟩:∃ wd,wd=(w.alloc (.cells #[.int .i64 2,.string a,.string ⟨#[]⟩,.slice ao ps.length c] 106)).drew:=⟨_,rfl⟩;have hBd:Blk wd w.heap.size #[.int .i64 2,.string a,.string ⟨#[]⟩,.slice ao ps.length c] 106:=by rw[hwd];exact(Blk.made w #[.int .i64 2,.string a,.string ⟨#[]⟩,.slice ao ps.length c] 106).drew
    have hbd:Below w.heap.size w wd:=by rw[hwd];exact((Below.refl _ _).alloc (Nat.le_refl _) _).drew
    refine r! (Ext wd) (by rw[<- hwd];exact Ext.refl _) ?_;rw[<- hwd];clear hwd hbk;have h1:∀ W,Ext wd W->∀ i,W.cell? ⟨w.heap.size,i,none⟩=(#[.int .i64 2,.string a,.string ⟨#[]⟩,.slice ao ps.length c]:Array Value)[i]?:=fun W h=>(hBd.below h).cells;(refine WalkN.tk [0,1,2,3] ?_;(iterate 4 (refine c! ?_));refine TkN.n ?_)
    refine o! 4 ?_;refine b! ?_;intro K hK;go_simp;refine(HOWa.out _).mono ?_;rintro e w2 ⟨rfl,h2⟩;have h3:=h2.symm;subst h3;clear h2;refine hK.out _ _ (Ext.refl _) ?_;clear hK HOWa;refine t! 5 ?_
    (refine WalkN.tk [6,7,8] ?_;(iterate 3 (refine c! ?_));refine TkN.n ?_)
    (refine WalkN.tk [9,10] ?_;(iterate 2 (refine c! ?_));refine TkN.n ?_)
    (refine WalkN.tk [11,12,13,14] ?_;(iterate 4 (refine c! ?_));refine TkN.n ?_)
    (refine WalkN.tk [15,16,17] ?_;(iterate 3 (refine c! ?_));refine TkN.n ?_)
    refine d! ?_;have HBD:=h! hbd;clear h1 hBd hbd;go_wp2_with fail
    go_ret2
    exact⟨_,by rw[HT.out];rfl,rfl,HBD.out⟩
  ·have hneb:=ba_size_ne hnb;have HT:=h! (show(true&&decide (b.size=0)&&decide (ps.length=0))=false from by first | rfl | (simp[hnb];done) | (simp[hnb];rfl));clear hnb;go_enter Tryz.func159,Tryz.ntmps159
   go_wp2_with fail
   obtain⟨wd,hwd⟩:∃ wd,wd=(w.alloc (.cells #[.int .i64 2,.string a,.string b,.slice ao ps.length c] 106)).drew:=⟨_,rfl⟩;have hBd:Blk wd w.heap.size #[.int .i64 2,.string a,.string b,.slice ao ps.length c] 106:=by rw[hwd];exact(Blk.made w #[.int .i64 2,.string a,.string b,.slice ao ps.length c] 106).drew
   have hbd:Below w.heap.size w wd:=by rw[hwd];exact((Below.refl _ _).alloc (Nat.le_refl _) _).drew
   refine r! (Ext wd) (by rw[<- hwd];exact Ext.refl _) ?_;rw[<- hwd];clear hwd hbk;have h1:∀ W,Ext wd W->∀ i,W.cell? ⟨w.heap.size,i,none⟩=(#[.int .i64 2,.string a,.string b,.slice ao ps.length c]:Array Value)[i]?:=fun W h=>(hBd.below h).cells;(refine WalkN.tk [0,1,2,3] ?_;(iterate 4 (refine c! ?_));refine TkN.n ?_)
   refine o! 4 ?_;refine b! ?_;intro K hK;go_simp;refine(HOWa.out _).mono ?_;rintro e w2 ⟨rfl,h2⟩;have h3:=h2.symm;subst h3;clear h2;refine hK.out _ _ (Ext.refl _) ?_;clear hK HOWa;refine t! 5 ?_
   (refine WalkN.tk [6,7,8] ?_;(iterate 3 (refine c! ?_));refine TkN.n ?_)
   (refine WalkN.tk [9,10] ?_;(iterate 2 (refine c! ?_));refine TkN.n ?_)
   refine k! 11 ?_;refine k! 12 ?_;refine k! 13 ?_;refine k! 14 ?_
   (refine WalkN.tk [15,16,17] ?_;(iterate 3 (refine c! ?_));refine TkN.n ?_)
   refine d! ?_;have HBD:=h! hbd;clear h1 hBd hbd;go_wp2_with fail
   go_ret2
   exact⟨_,by rw[HT.out];rfl,rfl,HBD.out⟩
 | false =>
  simp only[hoa]at HOWa;have HT:=h! (show(false&&decide (b.size=0)&&decide (ps.length=0))=false from by first | rfl | (simp;done) | (simp;rfl));go_enter Tryz.func159,Tryz.ntmps159
  go_wp2_with fail
  obtain⟨wd,hwd⟩:∃ wd,wd=(w.alloc (.cells #[.int .i64 2,.string a,.string b,.slice ao ps.length c] 106)).drew:=⟨_,rfl⟩;have hBd:Blk wd w.heap.size #[.int .i64 2,.string a,.string b,.slice ao ps.length c] 106:=by rw[hwd];exact(Blk.made w #[.int .i64 2,.string a,.string b,.slice ao ps.length c] 106).drew
  have hbd:Below w.heap.size w wd:=by rw[hwd];exact((Below.refl _ _).alloc (Nat.le_refl _) _).drew
  refine r! (Ext wd) (by rw[<- hwd];exact Ext.refl _) ?_;rw[<- hwd];clear hwd hbk;have h1:∀ W,Ext wd W->∀ i,W.cell? ⟨w.heap.size,i,none⟩=(#[.int .i64 2,.string a,.string b,.slice ao ps.length c]:Array Value)[i]?:=fun W h=>(hBd.below h).cells;(refine WalkN.tk [0,1,2,3] ?_;(iterate 4 (refine c! ?_));refine TkN.n ?_)
  refine o! 4 ?_;refine b! ?_;intro K hK;go_simp;refine(HOWa.out _).mono ?_;rintro e w2 ⟨rfl,h2⟩;have h3:=h2.symm;subst h3;clear h2;refine hK.out _ _ (Ext.refl _) ?_;clear hK HOWa;refine t! 5 ?_
  refine k! 6 ?_;refine k! 7 ?_;refine k! 8 ?_
  (refine WalkN.tk [9,10] ?_;(iterate 2 (refine c! ?_));refine TkN.n ?_)
  refine k! 11 ?_;refine k! 12 ?_;refine k! 13 ?_;refine k! 14 ?_
  (refine WalkN.tk [15,16,17] ?_;(iterate 3 (refine c! ?_));refine TkN.n ?_)
  refine d! ?_;have HBD:=h! hbd;clear h1 hBd hbd;go_wp2_with fail
  go_ret2
  exact⟨_,by rw[HT.out];rfl,rfl,HBD.out⟩
theorem text_leaf3 (a b:ByteArray)(ps:List RT)(d:Nat)(ao:Option Addr)(c:Nat)(w:World)(ha:a.size<=140737488351232)(hb:b.size<=140737488351232):Calls Tryz.prog 159 #[.agg #[.int .i64 3,.string a,.string b,.slice ao ps.length c],.int .i64 d] w fun e w'=>∃ s:ByteArray,e = .returned (.tuple #[.string s,.bool (ownB a&&ownB b&&decide (ps.length=0))])/\s=(a++⟨#[45,62]⟩)++b/\Below w.heap.size w w':=by
 have hbk:=(Blk.made w #[.int .i64 3,.string a,.string b,.slice ao ps.length c] 106).cells;have HOWa:=h! (fun W=>own_any a (by unfold maxLen;omega) W);have HOWb:=h! (fun W=>own_any b (by unfold maxLen;omega) W);have hs1:¬ (9223372036854775807<a.size+2):=by omega
 have hs2:¬ (9223372036854775807<a.size+2+b.size):=by omega
 clear ha hb;cases hoa:ownB a with
 | true =>
  simp only[hoa]at HOWa;cases hob:ownB b with
  | true =>
   simp only[hob]at HOWb;by_cases hlp:ps.length=0
   ·have hp0:((ps.length:Int) == 0)=true:=by rw[beq_iff_eq];omega
    have HT:=h! (show(true&&true&&decide (ps.length=0))=true from by first | rfl | (simp[hlp];done) | (simp[hlp];rfl));clear hlp;go_enter Tryz.func159,Tryz.ntmps159
    go_wp2_with fail
    obtain⟨wd,hwd⟩:∃ wd,wd=(w.alloc (.cells #[.int .i64 3,.string a,.string b,.slice ao ps.length c] 106)).drew:=⟨_,rfl⟩;have hBd:Blk wd w.heap.size #[.int .i64 3,.string a,.string b,.slice ao ps.length c] 106:=by rw[hwd];exact(Blk.made w #[.int .i64 3,.string a,.string b,.slice ao ps.length c] 106).drew
    have hbd:Below w.heap.size w wd:=by rw[hwd];exact((Below.refl _ _).alloc (Nat.le_refl _) _).drew
    refine r! (Ext wd) (by rw[<- hwd];exact Ext.refl _) ?_;rw[<- hwd];clear hwd hbk;have h1:∀ W,Ext wd W->∀ i,W.cell? ⟨w.heap.size,i,none⟩=(#[.int .i64 3,.string a,.string b,.slice ao ps.length c]:Array Value)[i]?:=fun W h=>(hBd.below h).cells;(refine WalkN.tk [0,1,2,3,4,5,6,7] ?_;(iterate 8 (refine c! ?_));refine TkN.n ?_)
    refine o! 8 ?_;refine b! ?_;intro K hK;go_simp;refine(HOWa.out _).mono ?_;rintro e w2 ⟨rfl,h2⟩;have h3:=h2.symm;subst h3;clear h2;refine hK.out _ _ (Ext.refl _) ?_;clear hK HOWa;refine t! 9 ?_
    (refine WalkN.tk [10,11] ?_;(iterate 2 (refine c! ?_));refine TkN.n ?_)
    refine o! 12 ?_;refine b! ?_;intro K hK;go_simp;refine(HOWb.out _).mono ?_;rintro e w2 ⟨rfl,h2⟩;have h3:=h2.symm;subst h3;clear h2;refine hK.out _ _ (Ext.refl _) ?_;clear hK HOWb;(refine WalkN.tk [13,14] ?_;(iterate 2 (refine c! ?_));refine TkN.n ?_)
    (refine WalkN.tk [15,16,17,18] ?_;(iterate 4 (refine c! ?_));refine TkN.n ?_)
    (refine WalkN.tk [19,20,21] ?_;(iterate 3 (refine c! ?_));refine TkN.n ?_)
    refine d! ?_;have HBD:=h! hbd;clear h1 hBd hbd;go_wp2_with fail
    go_ret2
    exact⟨_,by rw[HT.out];rfl,rfl,HBD.out⟩
   ·have hp0:((ps.length:Int) == 0)=false:=by rw[beq_eq_false_iff_ne];omega
    have HT:=h! (show(true&&true&&decide (ps.length=0))=false from by first | rfl | (simp[hlp];done) | (simp[hlp];rfl));clear hlp;go_enter Tryz.func159,Tryz.ntmps159
    go_wp2_with fail
    obtain⟨wd,hwd⟩:∃ wd,wd=(w.alloc (.cells #[.int .i64 3,.string a,.string b,.slice ao ps.length c] 106)).drew:=⟨_,rfl⟩;have hBd:Blk wd w.heap.size #[.int .i64 3,.string a,.string b,.slice ao ps.length c] 106:=by rw[hwd];exact(Blk.made w #[.int .i64 3,.string a,.string b,.slice ao ps.length c] 106).drew
    have hbd:Below w.heap.size w wd:=by rw[hwd];exact((Below.refl _ _).alloc (Nat.le_refl _) _).drew
    refine r! (Ext wd) (by rw[<- hwd];exact Ext.refl _) ?_;rw[<- hwd];clear hwd hbk;have h1:∀ W,Ext wd W->∀ i,W.cell? ⟨w.heap.size,i,none⟩=(#[.int .i64 3,.string a,.string b,.slice ao ps.length c]:Array Value)[i]?:=fun W h=>(hBd.below h).cells;(refine WalkN.tk [0,1,2,3,4,5,6,7] ?_;(iterate 8 (refine c! ?_));refine TkN.n ?_)
    refine o! 8 ?_;refine b! ?_;intro K hK;go_simp;refine(HOWa.out _).mono ?_;rintro e w2 ⟨rfl,h2⟩;have h3:=h2.symm;subst h3;clear h2;refine hK.out _ _ (Ext.refl _) ?_;clear hK HOWa;refine t! 9 ?_
    (refine WalkN.tk [10,11] ?_;(iterate 2 (refine c! ?_));refine TkN.n ?_)
    refine o! 12 ?_;refine b! ?_;intro K hK;go_simp;refine(HOWb.out _).mono ?_;rintro e w2 ⟨rfl,h2⟩;have h3:=h2.symm;subst h3;clear h2;refine hK.out _ _ (Ext.refl _) ?_;clear hK HOWb;(refine WalkN.tk [13,14] ?_;(iterate 2 (refine c! ?_));refine TkN.n ?_)
    (refine WalkN.tk [15,16,17,18] ?_;(iterate 4 (refine c! ?_));refine TkN.n ?_)
    (refine WalkN.tk [19,20,21] ?_;(iterate 3 (refine c! ?_));refine TkN.n ?_)
    refine d! ?_;have HBD:=h! hbd;clear h1 hBd hbd;go_wp2_with fail
    go_ret2
    exact⟨_,by rw[HT.out];rfl,rfl,HBD.out⟩
  | false =>
   simp only[hob]at HOWb;have HT:=h! (show(true&&false&&decide (ps.length=0))=false from by first | rfl | (simp;done) | (simp;rfl));go_enter Tryz.func159,Tryz.ntmps159
   go_wp2_with fail
   obtain⟨wd,hwd⟩:∃ wd,wd=(w.alloc (.cells #[.int .i64 3,.string a,.string b,.slice ao ps.length c] 106)).drew:=⟨_,rfl⟩;have hBd:Blk wd w.heap.size #[.int .i64 3,.string a,.string b,.slice ao ps.length c] 106:=by rw[hwd];exact(Blk.made w #[.int .i64 3,.string a,.string b,.slice ao ps.length c] 106).drew
   have hbd:Below w.heap.size w wd:=by rw[hwd];exact((Below.refl _ _).alloc (Nat.le_refl _) _).drew
   refine r! (Ext wd) (by rw[<- hwd];exact Ext.refl _) ?_;rw[<- hwd];clear hwd hbk;have h1:∀ W,Ext wd W->∀ i,W.cell? ⟨w.heap.size,i,none⟩=(#[.int .i64 3,.string a,.string b,.slice ao ps.length c]:Array Value)[i]?:=fun W h=>(hBd.below h).cells;(refine WalkN.tk [0,1,2,3,4,5,6,7] ?_;(iterate 8 (refine c! ?_));refine TkN.n ?_)
   refine o! 8 ?_;refine b! ?_;intro K hK;go_simp;refine(HOWa.out _).mono ?_;rintro e w2 ⟨rfl,h2⟩;have h3:=h2.symm;subst h3;clear h2;refine hK.out _ _ (Ext.refl _) ?_;clear hK HOWa;refine t! 9 ?_
   (refine WalkN.tk [10,11] ?_;(iterate 2 (refine c! ?_));refine TkN.n ?_)
   refine o! 12 ?_;refine b! ?_;intro K hK;go_simp;refine(HOWb.out _).mono ?_;rintro e w2 ⟨rfl,h2⟩;have h3:=h2.symm;subst h3;clear h2;refine hK.out _ _ (Ext.refl _) ?_;clear hK HOWb;(refine WalkN.tk [13,14] ?_;(iterate 2 (refine c! ?_));refine TkN.n ?_)
   refine k! 15 ?_;refine k! 16 ?_;refine k! 17 ?_;refine k! 18 ?_
   (refine WalkN.tk [19,20,21] ?_;(iterate 3 (refine c! ?_));refine TkN.n ?_)
   refine d! ?_;have HBD:=h! hbd;clear h1 hBd hbd;go_wp2_with fail
   go_ret2
   exact⟨_,by rw[HT.out];rfl,rfl,HBD.out⟩
 | false =>
  simp only[hoa]at HOWa;have HT:=h! (show(false&&ownB b&&decide (ps.length=0))=false from by first | rfl | (simp;done) | (simp;rfl));go_enter Tryz.func159,Tryz.ntmps159
  go_wp2_with fail
  obtain⟨wd,hwd⟩:∃ wd,wd=(w.alloc (.cells #[.int .i64 3,.string a,.string b,.slice ao ps.length c] 106)).drew:=⟨_,rfl⟩;have hBd:Blk wd w.heap.size #[.int .i64 3,.string a,.string b,.slice ao ps.length c] 106:=by rw[hwd];exact(Blk.made w #[.int .i64 3,.string a,.string b,.slice ao ps.length c] 106).drew
  have hbd:Below w.heap.size w wd:=by rw[hwd];exact((Below.refl _ _).alloc (Nat.le_refl _) _).drew
  refine r! (Ext wd) (by rw[<- hwd];exact Ext.refl _) ?_;rw[<- hwd];clear hwd hbk;have h1:∀ W,Ext wd W->∀ i,W.cell? ⟨w.heap.size,i,none⟩=(#[.int .i64 3,.string a,.string b,.slice ao ps.length c]:Array Value)[i]?:=fun W h=>(hBd.below h).cells;(refine WalkN.tk [0,1,2,3,4,5,6,7] ?_;(iterate 8 (refine c! ?_));refine TkN.n ?_)
  refine o! 8 ?_;refine b! ?_;intro K hK;go_simp;refine(HOWa.out _).mono ?_;rintro e w2 ⟨rfl,h2⟩;have h3:=h2.symm;subst h3;clear h2;refine hK.out _ _ (Ext.refl _) ?_;clear hK HOWa;refine t! 9 ?_
  refine k! 10 ?_;refine k! 11 ?_;refine k! 12 ?_
  (refine WalkN.tk [13,14] ?_;(iterate 2 (refine c! ?_));refine TkN.n ?_)
  refine k! 15 ?_;refine k! 16 ?_;refine k! 17 ?_;refine k! 18 ?_
  (refine WalkN.tk [19,20,21] ?_;(iterate 3 (refine c! ?_));refine TkN.n ?_)
  refine d! ?_;have HBD:=h! hbd;clear h1 hBd hbd;go_wp2_with fail
  go_ret2
  exact⟨_,by rw[HT.out];rfl,rfl,HBD.out⟩
def innerD (k pk:Int)(d:Nat):Nat:=if k=5/\pk=4 then d+1 else d
mutual
def RT.textOk:RT->Nat->Bool
 | .mk k a b ps,d =>
  if k=1 then decide (a.size=0)&&decide (b.size=0)&&decide (ps.length=0)
  else if k=2 then ownB a&&decide (b.size=0)&&decide (ps.length=0)
  else if k=3 then ownB a&&ownB b&&decide (ps.length=0)
  else if k=4\/k=5 then decide (a.size=0)&&decide (b.size=0)&&decide (2<=ps.length)&&textL k ps d
  else false
def textL (k:Int):List RT->Nat->Bool
 | [],_=>true
 | p::ps,d=>(decide (p.k≠k)&&decide (innerD k p.k d<=8)&&p.textOk (innerD k p.k d))&&textL k ps d
end
def goodP (k:Int)(d:Nat)(p:RT):Bool:=decide (p.k≠k)&&decide (innerD k p.k d<=8)&&p.textOk (innerD k p.k d)
theorem textL_eq (k:Int)(d:Nat):∀ l:List RT,textL k l d=l.all (goodP k d)
 | []=>by rw[textL];rfl
 | r::rs=>by rw[textL,List.all_cons,textL_eq k d rs];rfl
theorem text_group4 (ps:List RT)(d:Nat)(hd:d<=8)(pv:Value)(w:World)(hat:RTAt (· < w.heap.size) w (.mk 4 ⟨#[]⟩ ⟨#[]⟩ ps) pv)(hsz:szL ps<=1000000)(h2:2<=ps.length)
  (ih:∀ p∈ps,∀ (pv:Value) (d:Nat) (w:World),RTAt (· < w.heap.size) w p pv->d<=8->Calls Tryz.prog 159 #[rV p pv,.int .i64 d] w fun e w'=>∃ s:ByteArray,e = .returned (.tuple #[.string s,.bool (p.textOk d)])/\(p.textOk d=true->s.size+5<=80*p.sz)/\Below w.heap.size w w') :
  Calls Tryz.prog 159 #[rV (.mk 4 ⟨#[]⟩ ⟨#[]⟩ ps) pv,.int .i64 d] w fun e w'=>∃ s:ByteArray,e = .returned (.tuple #[.string s,.bool (ps.all (goodP 4 d))])/\(ps.all (goodP 4 d)=true->s.size<=80*szL ps)/\Below w.heap.size w w':=by
 obtain⟨ao,c,rfl,hlc,hcm,hcell⟩:=hat.rows;dsimp only[RT.ps]at hlc hcell ⊢;have HC:=h! hcell;have IH:=h! ih;have HSZ:=h! hsz;have hBX:=Blk.made w #[.int .i64 4,.string ⟨#[]⟩,.string ⟨#[]⟩,.slice ao ps.length c] 106;have HB0:=h! (show Below w.heap.size w (w.alloc (.cells #[.int .i64 4,.string ⟨#[]⟩,.string ⟨#[]⟩,.slice ao ps.length c] 106))from(Below.refl _ _).alloc (Nat.le_refl _) _);have hbk:=hBX.cells;have hl2:¬ ((ps.length:Int)<2):=by omega
 unfold rV;dsimp only[RT.k,RT.a,RT.b];generalize hg:ps.all (goodP 4 d)=g;have HG:=h! hg.symm;clear hat hcell ih hsz h2 hg;go_enter Tryz.func159,Tryz.ntmps159
 go_wp2_with fail
 obtain⟨w1,hw1⟩:∃ w1,w1=w.alloc (.cells #[.int .i64 4,.string ⟨#[]⟩,.string ⟨#[]⟩,.slice ao ps.length c] 106):=⟨_,rfl⟩;rw[<- hw1]at hBX HB0 ⊢;have HBX0:=h! hBX;clear hbk hl2 hw1 hBX;go_loopw [6,91] (fun ov ii wr=>∃ (i:Nat) (out:ByteArray),i<=ps.length/\ii = .int .i64 i/\ov = .string out/\(∀ j (hj:j<ps.length),j<i->goodP 4 d ps[j]=true)/\out.size<=80*szL (ps.take i)/\Below w1.heap.size w1 wr) (fun _ ii _=>ps.length-(intOf ii).toNat)
 case atStart=>exact⟨0,⟨#[]⟩,by omega,rfl,rfl,fun _ _ h=>absurd h (by omega),Nat.zero_le _,Below.refl _ _⟩
 case round =>
  obtain⟨i,out,hi,rfl,rfl,hall,hos,hb1r⟩:=hrel;have HALL:=h! hall;have hbel:Below w.heap.size w wr:=HB0.out.trans (hb1r.mono HB0.out.size);clear hall;by_cases hlt:i<ps.length
  ·have HUP:=h! (fun h=>upto_succ (p:=fun j hj=>goodP 4 d ps[j]=true) HALL.out hlt h);have HBAD:=h! (fun(h:goodP 4 d ps[i]=false)=>(show g=false from by rw[HG.out];exact List.all_eq_false.2 ⟨ps[i],List.getElem_mem hlt,by rw[h];exact Bool.false_ne_true⟩));have hmem:=List.getElem_mem hlt;have hst:=szL_take hlt;have hle:=szL_le ps (i+1);have hsl:=HSZ.out;have HST:=h! hst;rw[hst]at hle;obtain⟨b,off,pv2,hbo,hb,c0,c1,c2,c3,hat2⟩:=HC.out i hlt;cases hbo;have d0:=(hbel.cell (p:=⟨b,off+i*4,none⟩) hb).trans c0;have d1:=(hbel.cell (p:=⟨b,off+i*4+1,none⟩) hb).trans c1;have d2:=(hbel.cell (p:=⟨b,off+i*4+2,none⟩) hb).trans c2;have d3:=(hbel.cell (p:=⟨b,off+i*4+3,none⟩) hb).trans c3;obtain⟨ao2,c2',rfl,-⟩:=hat2.rows;have hb1:=hbel.alloc hbel.size (.cells #[.int .i64 ps[i].k,.string ps[i].a,.string ps[i].b,.slice ao2 ps[i].ps.length c2'] 106);have hat3:=hat2.up hb1;have hbx:=(Blk.made wr #[.int .i64 ps[i].k,.string ps[i].a,.string ps[i].b,.slice ao2 ps[i].ps.length c2'] 106).cells;have HB1:=h! hb1;clear c0 c1 c2 c3 hat2 hb1 hbel;have HB3R:=h! (hb1r.alloc hb1r.size (.cells #[.int .i64 ps[i].k,.string ps[i].a,.string ps[i].b,.slice ao2 ps[i].ps.length c2'] 106));have hbq:=(HBX0.out.below HB3R.out).cells;clear hb1r hst;by_cases hkk:ps[i].k=4
   ·have HF:=h! (HBAD.out (by unfold goodP;simp[hkk]));clear HUP HBAD hmem hat3;generalize ps[i]=p at *;obtain⟨pk,pa,pb,pps⟩:=p;dsimp only[RT.k,RT.a,RT.b,RT.ps]at *;subst hkk;go_wp2_with fail
    go_ret2
    exact⟨_,by rw[HF.out];rfl,(fun h=>by rw[HF.out]at h;cases h),HB1.out⟩
   have hpk4:(ps[i].k == 4)=false:=by rw[beq_eq_false_iff_ne];exact hkk
   have hgood:goodP 4 d ps[i]=ps[i].textOk d:=by unfold goodP innerD;simp[hkk,hd]
   have hdI:(d:Int)<=8:=by omega
   have HR:=h! (IH.out ps[i] hmem _ d _ hat3 (by omega));unfold rV at HR;clear hat3;generalize ps[i]=p at *;cases hx:p.textOk d with
   | false =>
    rw[hx]at HR;have HF:=h! (HBAD.out (by rw[hgood,hx]));clear HBAD hgood;go_wp2_with fail
    refine HR.out.mono ?_;rintro e w5 ⟨s,rfl,-,hb5⟩;have HB5:=h! (HB1.out.trans (hb5.mono HB1.out.size));clear HR hb5 hbx HB1 hbq d0 d1 d2 d3;go_wp2_with fail
    go_ret2
    exact⟨_,by rw[HF.out];rfl,(fun h=>by rw[HF.out]at h;cases h),HB5.out⟩
   | true =>
    rw[hx]at HR;go_wp2_with fail
    refine HR.out.mono ?_;rintro e w5 ⟨s,rfl,hsz,hb5⟩;have HBR5:=h! (HB3R.out.trans (hb5.mono HB3R.out.size));replace hbq:=(HBX0.out.below HBR5.out).cells;have hS:s.size+5<=80*p.sz:=by first | exact hsz rfl | exact hsz trivial
    clear HR hb5 hbx HB1 hsz HBAD d0 d1 d2 d3;have hs1:¬ (9223372036854775807<1+s.size):=by omega
    have hs2:¬ (9223372036854775807<1+s.size+1):=by omega
    have hs4:¬ (9223372036854775807<out.size+3):=by omega
    by_cases hi0:i=0
    ·have hig:¬ ((0:Int)<(i:Int)):=by omega
     have hs3:¬ (9223372036854775807<out.size+(s.size)):=by omega
     have HOZ:=h! (show(out++s).size<=80*szL (ps.take (i+1))from by
      rw[HST.out];simp only[ByteArray.size_append];have h1:(⟨#[40]⟩:ByteArray).size=1:=rfl;have h2:(⟨#[41]⟩:ByteArray).size=1:=rfl;have h3:(⟨#[32,124,32]⟩:ByteArray).size=3:=rfl;omega)
     have HN:=h! (HUP.out (by rw[hgood,hx]));clear hx hgood hS;go_wp2_with fail
     go_roundw
     case rel=>exact⟨i+1,_,by omega,by go_num,rfl,HN.out,HOZ.out,HBR5.out⟩
     case measure=>simp[intOf];omega
    ·have hig:(0:Int)<i:=by omega
     have hs3:¬ (9223372036854775807<out.size+3+(s.size)):=by omega
     have HOZ:=h! (show(out++⟨#[32,124,32]⟩++s).size<=80*szL (ps.take (i+1))from by
      rw[HST.out];simp only[ByteArray.size_append];have h1:(⟨#[40]⟩:ByteArray).size=1:=rfl;have h2:(⟨#[41]⟩:ByteArray).size=1:=rfl;have h3:(⟨#[32,124,32]⟩:ByteArray).size=3:=rfl;omega)
     have HN:=h! (HUP.out (by rw[hgood,hx]));clear hx hgood hS;go_wp2_with fail
     go_roundw
     case rel=>exact⟨i+1,_,by omega,by go_num,rfl,HN.out,HOZ.out,HBR5.out⟩
     case measure=>simp[intOf];omega
  ·obtain rfl:i=ps.length:=by omega
   rw[List.take_length]at hos
   have HF:=h! (show g=true from by
    rw[HG.out,List.all_eq_true];intro x hx;obtain⟨j,hj,rfl⟩:=List.getElem_of_mem hx;exact HALL.out j hj hj)
   have HOS:=h! hos;have HBE:=h! hbel;clear hbel hb1r hos;go_wp2_with fail
   go_ret2
   exact⟨_,by rw[HF.out];rfl,fun _=>HOS.out,HBE.out⟩
theorem text_group5 (ps:List RT)(d:Nat)(hd:d<=8)(pv:Value)(w:World)(hat:RTAt (· < w.heap.size) w (.mk 5 ⟨#[]⟩ ⟨#[]⟩ ps) pv)(hsz:szL ps<=1000000)(h2:2<=ps.length)
  (ih:∀ p∈ps,∀ (pv:Value) (d:Nat) (w:World),RTAt (· < w.heap.size) w p pv->d<=8->Calls Tryz.prog 159 #[rV p pv,.int .i64 d] w fun e w'=>∃ s:ByteArray,e = .returned (.tuple #[.string s,.bool (p.textOk d)])/\(p.textOk d=true->s.size+5<=80*p.sz)/\Below w.heap.size w w') :
  Calls Tryz.prog 159 #[rV (.mk 5 ⟨#[]⟩ ⟨#[]⟩ ps) pv,.int .i64 d] w fun e w'=>∃ s:ByteArray,e = .returned (.tuple #[.string s,.bool (ps.all (goodP 5 d))])/\(ps.all (goodP 5 d)=true->s.size<=80*szL ps)/\Below w.heap.size w w':=by
 obtain⟨ao,c,rfl,hlc,hcm,hcell⟩:=hat.rows;dsimp only[RT.ps]at hlc hcell ⊢;have HC:=h! hcell;have IH:=h! ih;have HSZ:=h! hsz;have hBX:=Blk.made w #[.int .i64 5,.string ⟨#[]⟩,.string ⟨#[]⟩,.slice ao ps.length c] 106;have HB0:=h! (show Below w.heap.size w (w.alloc (.cells #[.int .i64 5,.string ⟨#[]⟩,.string ⟨#[]⟩,.slice ao ps.length c] 106))from(Below.refl _ _).alloc (Nat.le_refl _) _);have hbk:=hBX.cells;have hl2:¬ ((ps.length:Int)<2):=by omega
 unfold rV;dsimp only[RT.k,RT.a,RT.b];generalize hg:ps.all (goodP 5 d)=g;have HG:=h! hg.symm;clear hat hcell ih hsz h2 hg;go_enter Tryz.func159,Tryz.ntmps159
 go_wp2_with fail
 obtain⟨w1,hw1⟩:∃ w1,w1=w.alloc (.cells #[.int .i64 5,.string ⟨#[]⟩,.string ⟨#[]⟩,.slice ao ps.length c] 106):=⟨_,rfl⟩;rw[<- hw1]at hBX HB0 ⊢;have HBX0:=h! hBX;clear hbk hl2 hw1 hBX;go_loopw [6,91] (fun ov ii wr=>∃ (i:Nat) (out:ByteArray),i<=ps.length/\ii = .int .i64 i/\ov = .string out/\(∀ j (hj:j<ps.length),j<i->goodP 5 d ps[j]=true)/\out.size<=80*szL (ps.take i)/\Below w1.heap.size w1 wr) (fun _ ii _=>ps.length-(intOf ii).toNat)
 case atStart=>exact⟨0,⟨#[]⟩,by omega,rfl,rfl,fun _ _ h=>absurd h (by omega),Nat.zero_le _,Below.refl _ _⟩
 case round =>
  obtain⟨i,out,hi,rfl,rfl,hall,hos,hb1r⟩:=hrel;have HALL:=h! hall;have hbel:Below w.heap.size w wr:=HB0.out.trans (hb1r.mono HB0.out.size);clear hall;by_cases hlt:i<ps.length
  ·have HUP:=h! (fun h=>upto_succ (p:=fun j hj=>goodP 5 d ps[j]=true) HALL.out hlt h);have HBAD:=h! (fun(h:goodP 5 d ps[i]=false)=>(show g=false from by rw[HG.out];exact List.all_eq_false.2 ⟨ps[i],List.getElem_mem hlt,by rw[h];exact Bool.false_ne_true⟩));have hmem:=List.getElem_mem hlt;have hst:=szL_take hlt;have hle:=szL_le ps (i+1);have hsl:=HSZ.out;have HST:=h! hst;rw[hst]at hle;obtain⟨b,off,pv2,hbo,hb,c0,c1,c2,c3,hat2⟩:=HC.out i hlt;cases hbo;have d0:=(hbel.cell (p:=⟨b,off+i*4,none⟩) hb).trans c0;have d1:=(hbel.cell (p:=⟨b,off+i*4+1,none⟩) hb).trans c1;have d2:=(hbel.cell (p:=⟨b,off+i*4+2,none⟩) hb).trans c2;have d3:=(hbel.cell (p:=⟨b,off+i*4+3,none⟩) hb).trans c3;obtain⟨ao2,c2',rfl,-⟩:=hat2.rows;have hb1:=hbel.alloc hbel.size (.cells #[.int .i64 ps[i].k,.string ps[i].a,.string ps[i].b,.slice ao2 ps[i].ps.length c2'] 106);have hat3:=hat2.up hb1;have hbx:=(Blk.made wr #[.int .i64 ps[i].k,.string ps[i].a,.string ps[i].b,.slice ao2 ps[i].ps.length c2'] 106).cells;have HB1:=h! hb1;clear c0 c1 c2 c3 hat2 hb1 hbel;have HB3R:=h! (hb1r.alloc hb1r.size (.cells #[.int .i64 ps[i].k,.string ps[i].a,.string ps[i].b,.slice ao2 ps[i].ps.length c2'] 106));have hbq:=(HBX0.out.below HB3R.out).cells;clear hb1r hst;by_cases hkk:ps[i].k=5
   ·have HF:=h! (HBAD.out (by unfold goodP;simp[hkk]));clear HUP HBAD hmem hat3;generalize ps[i]=p at *;obtain⟨pk,pa,pb,pps⟩:=p;dsimp only[RT.k,RT.a,RT.b,RT.ps]at *;subst hkk;go_wp2_with fail
    go_ret2
    exact⟨_,by rw[HF.out];rfl,(fun h=>by rw[HF.out]at h;cases h),HB1.out⟩
   have hpk5:(ps[i].k == 5)=false:=by rw[beq_eq_false_iff_ne];exact hkk
   by_cases h4:ps[i].k=4
   ·have hpk4:(ps[i].k == 4)=true:=by rw[beq_iff_eq];exact h4
    by_cases hd8:d=8
    ·have HF:=h! (HBAD.out (by unfold goodP innerD;simp[h4,hd8]));have hdI:¬ ((d:Int)+1<=8):=by omega
     clear HUP HBAD hmem hat3 hpk4 hpk5 hkk hd8;generalize ps[i]=p at *;simp only[h4]at d0 hbx HB1 hbq;clear h4;go_wp2_with fail
     go_ret2
     exact⟨_,by rw[HF.out];rfl,(fun h=>by rw[HF.out]at h;cases h),HB1.out⟩
    ·have hd9:d+1<=8:=by omega
     have hgood:goodP 5 d ps[i]=ps[i].textOk (d+1):=by unfold goodP innerD;simp[h4];omega
     have hdI:(d:Int)+1<=8:=by omega
     have HR:=h! (IH.out ps[i] hmem _ (d+1) _ hat3 (by omega));unfold rV at HR;clear hat3;generalize ps[i]=p at *;simp only[h4]at d0 hbx HB1 HB3R HR hbq;rw[show((d+1:Nat):Int)=(d:Int)+1 from rfl]at HR;clear h4 hpk4 hpk5 hkk;cases hx:p.textOk (d+1) with
     | false =>
      rw[hx]at HR;have HF:=h! (HBAD.out (by rw[hgood,hx]));clear HBAD hgood;go_wp2_with fail
      refine HR.out.mono ?_;rintro e w5 ⟨s,rfl,-,hb5⟩;have HB5:=h! (HB1.out.trans (hb5.mono HB1.out.size));clear HR hb5 hbx HB1 hbq d0 d1 d2 d3;go_wp2_with fail
      go_ret2
      exact⟨_,by rw[HF.out];rfl,(fun h=>by rw[HF.out]at h;cases h),HB5.out⟩
     | true =>
      rw[hx]at HR;go_wp2_with fail
      refine HR.out.mono ?_;rintro e w5 ⟨s,rfl,hsz,hb5⟩;have HBR5:=h! (HB3R.out.trans (hb5.mono HB3R.out.size));replace hbq:=(HBX0.out.below HBR5.out).cells;have hS:s.size+5<=80*p.sz:=by first | exact hsz rfl | exact hsz trivial
      clear HR hb5 hbx HB1 hsz HBAD d0 d1 d2 d3;have hs1:¬ (9223372036854775807<1+s.size):=by omega
      have hs2:¬ (9223372036854775807<1+s.size+1):=by omega
      have hs4:¬ (9223372036854775807<out.size+3):=by omega
      by_cases hi0:i=0
      ·have hig:¬ ((0:Int)<(i:Int)):=by omega
       have hs3:¬ (9223372036854775807<out.size+(1+s.size+1)):=by omega
       have HOZ:=h! (show(out++(⟨#[40]⟩++s++⟨#[41]⟩)).size<=80*szL (ps.take (i+1))from by
        rw[HST.out];simp only[ByteArray.size_append];have h1:(⟨#[40]⟩:ByteArray).size=1:=rfl;have h2:(⟨#[41]⟩:ByteArray).size=1:=rfl;have h3:(⟨#[32,38,32]⟩:ByteArray).size=3:=rfl;omega)
       have HN:=h! (HUP.out (by rw[hgood,hx]));clear hx hgood hS;go_wp2_with fail
       go_roundw
       case rel=>exact⟨i+1,_,by omega,by go_num,rfl,HN.out,HOZ.out,HBR5.out⟩
       case measure=>simp[intOf];omega
      ·have hig:(0:Int)<i:=by omega
       have hs3:¬ (9223372036854775807<out.size+3+(1+s.size+1)):=by omega
       have HOZ:=h! (show(out++⟨#[32,38,32]⟩++(⟨#[40]⟩++s++⟨#[41]⟩)).size<=80*szL (ps.take (i+1))from by
        rw[HST.out];simp only[ByteArray.size_append];have h1:(⟨#[40]⟩:ByteArray).size=1:=rfl;have h2:(⟨#[41]⟩:ByteArray).size=1:=rfl;have h3:(⟨#[32,38,32]⟩:ByteArray).size=3:=rfl;omega)
       have HN:=h! (HUP.out (by rw[hgood,hx]));clear hx hgood hS;go_wp2_with fail
       go_roundw
       case rel=>exact⟨i+1,_,by omega,by go_num,rfl,HN.out,HOZ.out,HBR5.out⟩
       case measure=>simp[intOf];omega
   ·have hpk4:(ps[i].k == 4)=false:=by rw[beq_eq_false_iff_ne];exact h4
    have hgood:goodP 5 d ps[i]=ps[i].textOk d:=by unfold goodP innerD;simp[hkk,h4,hd]
    have hdI:(d:Int)<=8:=by omega
    have HR:=h! (IH.out ps[i] hmem _ d _ hat3 (by omega));unfold rV at HR;clear hat3;generalize ps[i]=p at *;cases hx:p.textOk d with
    | false =>
     rw[hx]at HR;have HF:=h! (HBAD.out (by rw[hgood,hx]));clear HBAD hgood;go_wp2_with fail
     refine HR.out.mono ?_;rintro e w5 ⟨s,rfl,-,hb5⟩;have HB5:=h! (HB1.out.trans (hb5.mono HB1.out.size));clear HR hb5 hbx HB1 hbq d0 d1 d2 d3;go_wp2_with fail
     go_ret2
     exact⟨_,by rw[HF.out];rfl,(fun h=>by rw[HF.out]at h;cases h),HB5.out⟩
    | true =>
     rw[hx]at HR;go_wp2_with fail
     refine HR.out.mono ?_;rintro e w5 ⟨s,rfl,hsz,hb5⟩;have HBR5:=h! (HB3R.out.trans (hb5.mono HB3R.out.size));replace hbq:=(HBX0.out.below HBR5.out).cells;have hS:s.size+5<=80*p.sz:=by first | exact hsz rfl | exact hsz trivial
     clear HR hb5 hbx HB1 hsz HBAD d0 d1 d2 d3;have hs1:¬ (9223372036854775807<1+s.size):=by omega
     have hs2:¬ (9223372036854775807<1+s.size+1):=by omega
     have hs4:¬ (9223372036854775807<out.size+3):=by omega
     by_cases hi0:i=0
     ·have hig:¬ ((0:Int)<(i:Int)):=by omega
      have hs3:¬ (9223372036854775807<out.size+(s.size)):=by omega
      have HOZ:=h! (show(out++s).size<=80*szL (ps.take (i+1))from by
       rw[HST.out];simp only[ByteArray.size_append];have h1:(⟨#[40]⟩:ByteArray).size=1:=rfl;have h2:(⟨#[41]⟩:ByteArray).size=1:=rfl;have h3:(⟨#[32,38,32]⟩:ByteArray).size=3:=rfl;omega)
      have HN:=h! (HUP.out (by rw[hgood,hx]));clear hx hgood hS;go_wp2_with fail
      go_roundw
      case rel=>exact⟨i+1,_,by omega,by go_num,rfl,HN.out,HOZ.out,HBR5.out⟩
      case measure=>simp[intOf];omega
     ·have hig:(0:Int)<i:=by omega
      have hs3:¬ (9223372036854775807<out.size+3+(s.size)):=by omega
      have HOZ:=h! (show(out++⟨#[32,38,32]⟩++s).size<=80*szL (ps.take (i+1))from by
       rw[HST.out];simp only[ByteArray.size_append];have h1:(⟨#[40]⟩:ByteArray).size=1:=rfl;have h2:(⟨#[41]⟩:ByteArray).size=1:=rfl;have h3:(⟨#[32,38,32]⟩:ByteArray).size=3:=rfl;omega)
      have HN:=h! (HUP.out (by rw[hgood,hx]));clear hx hgood hS;go_wp2_with fail
      go_roundw
      case rel=>exact⟨i+1,_,by omega,by go_num,rfl,HN.out,HOZ.out,HBR5.out⟩
      case measure=>simp[intOf];omega
  ·obtain rfl:i=ps.length:=by omega
   rw[List.take_length]at hos
   have HF:=h! (show g=true from by
    rw[HG.out,List.all_eq_true];intro x hx;obtain⟨j,hj,rfl⟩:=List.getElem_of_mem hx;exact HALL.out j hj hj)
   have HOS:=h! hos;have HBE:=h! hbel;clear hbel hb1r hos;go_wp2_with fail
   go_ret2
   exact⟨_,by rw[HF.out];rfl,fun _=>HOS.out,HBE.out⟩
theorem text_bad4 (a b:ByteArray)(ps:List RT)(d:Nat)(ao:Option Addr)(c:Nat)(w:World)(h:¬ (a.size=0/\b.size=0/\2<=ps.length)):Calls Tryz.prog 159 #[.agg #[.int .i64 4,.string a,.string b,.slice ao ps.length c],.int .i64 d] w fun e w'=>∃ s:ByteArray,e = .returned (.tuple #[.string s,.bool false])/\Below w.heap.size w w':=by
 have hbk:=(Blk.made w #[.int .i64 4,.string a,.string b,.slice ao ps.length c] 106).cells;have HB0:=h! (show Below w.heap.size w (w.alloc (.cells #[.int .i64 4,.string a,.string b,.slice ao ps.length c] 106))from(Below.refl _ _).alloc (Nat.le_refl _) _);by_cases hna:a.size=0
 ·obtain rfl:=ba_size_eq hna;by_cases hnb:b.size=0
  ·obtain rfl:=ba_size_eq hnb
   have hl2:(ps.length:Int)<2:=by
    have:¬ 2<=ps.length:=fun h2=>h ⟨rfl,rfl,h2⟩;omega
   clear hna hnb h;go_enter Tryz.func159,Tryz.ntmps159
   go_wp2_with fail
   go_ret2
   exact⟨_,rfl,HB0.out⟩
  ·have hneb:=ba_size_ne hnb;clear hna hnb h;go_enter Tryz.func159,Tryz.ntmps159
   go_wp2_with fail
   go_ret2
   exact⟨_,rfl,HB0.out⟩
 ·have hnea:=ba_size_ne hna;clear hna h;go_enter Tryz.func159,Tryz.ntmps159
  go_wp2_with fail
  go_ret2
  exact⟨_,rfl,HB0.out⟩
theorem text_bad5 (a b:ByteArray)(ps:List RT)(d:Nat)(ao:Option Addr)(c:Nat)(w:World)(h:¬ (a.size=0/\b.size=0/\2<=ps.length)):Calls Tryz.prog 159 #[.agg #[.int .i64 5,.string a,.string b,.slice ao ps.length c],.int .i64 d] w fun e w'=>∃ s:ByteArray,e = .returned (.tuple #[.string s,.bool false])/\Below w.heap.size w w':=by
 have hbk:=(Blk.made w #[.int .i64 5,.string a,.string b,.slice ao ps.length c] 106).cells;have HB0:=h! (show Below w.heap.size w (w.alloc (.cells #[.int .i64 5,.string a,.string b,.slice ao ps.length c] 106))from(Below.refl _ _).alloc (Nat.le_refl _) _);by_cases hna:a.size=0
 ·obtain rfl:=ba_size_eq hna;by_cases hnb:b.size=0
  ·obtain rfl:=ba_size_eq hnb
   have hl2:(ps.length:Int)<2:=by
    have:¬ 2<=ps.length:=fun h2=>h ⟨rfl,rfl,h2⟩;omega
   clear hna hnb h;go_enter Tryz.func159,Tryz.ntmps159
   go_wp2_with fail
   go_ret2
   exact⟨_,rfl,HB0.out⟩
  ·have hneb:=ba_size_ne hnb;clear hna hnb h;go_enter Tryz.func159,Tryz.ntmps159
   go_wp2_with fail
   go_ret2
   exact⟨_,rfl,HB0.out⟩
 ·have hnea:=ba_size_ne hna;clear hna h;go_enter Tryz.func159,Tryz.ntmps159
  go_wp2_with fail
  go_ret2
  exact⟨_,rfl,HB0.out⟩
theorem text_other (k:Int)(a b:ByteArray)(ps:List RT)(d:Nat)(ao:Option Addr)(c:Nat)(w:World)(h1:k≠1)(h2:k≠2)(h3:k≠3)(h4:k≠4)(h5:k≠5):Calls Tryz.prog 159 #[.agg #[.int .i64 k,.string a,.string b,.slice ao ps.length c],.int .i64 d] w fun e w'=>∃ s:ByteArray,e = .returned (.tuple #[.string s,.bool false])/\Below w.heap.size w w':=by
 have hbk:=(Blk.made w #[.int .i64 k,.string a,.string b,.slice ao ps.length c] 106).cells;have HB0:=h! (show Below w.heap.size w (w.alloc (.cells #[.int .i64 k,.string a,.string b,.slice ao ps.length c] 106))from(Below.refl _ _).alloc (Nat.le_refl _) _);have e1:(k == 1)=false:=by rw[beq_eq_false_iff_ne];exact h1
 have e2:(k == 2)=false:=by rw[beq_eq_false_iff_ne];exact h2
 have e3:(k == 3)=false:=by rw[beq_eq_false_iff_ne];exact h3
 have e4:(k == 4)=false:=by rw[beq_eq_false_iff_ne];exact h4
 have e5:(k == 5)=false:=by rw[beq_eq_false_iff_ne];exact h5
 clear h1 h2 h3 h4 h5;go_enter Tryz.func159,Tryz.ntmps159
 go_wp2_with fail
 go_ret2
 exact⟨_,rfl,HB0.out⟩
theorem isNm_size {s:ByteArray} (h:isNm s=true):s.size<=32:=by
 unfold isNm at h;simp only[Bool.and_eq_true,decide_eq_true_eq]at h;exact h.2.2
theorem ownB_size {s:ByteArray} (h:ownB s=true):s.size<=32:=by
 unfold ownB at h;simp only[Bool.and_eq_true]at h;exact isNm_size h.1
theorem text_any (r:RT):∀ (pv:Value)(d:Nat)(w:World),RTAt (· < w.heap.size) w r pv->r.Ok->r.sz<=1000000->d<=8->Calls Tryz.prog 159 #[rV r pv,.int .i64 d] w fun e w'=>∃ s:ByteArray,e = .returned (.tuple #[.string s,.bool (r.textOk d)])/\(r.textOk d=true->s.size+5<=80*r.sz)/\Below w.heap.size w w':=by
 induction r using RT.ind with
 | h r ih =>
 intro pv d w hat hok hsz hd;obtain⟨-,hoa,hob,hop⟩:=r.ok_iff.1 hok;have hat0:=hat.rows;obtain⟨k,a,b,ps⟩:=r;dsimp only[RT.a,RT.b,RT.ps]at hoa hob hop ih hat0;by_cases k1:k=1
 ·subst k1;obtain⟨ao,c,rfl,-⟩:=hat0;have he:(RT.mk 1 a b ps).textOk d=(decide (a.size=0)&&decide (b.size=0)&&decide (ps.length=0)):=by rw[RT.textOk];rfl
  rw[he];refine(text_leaf1 a b ps d ao c w).mono ?_;rintro e w5 ⟨s,rfl,rfl,hb⟩;exact⟨_,rfl,(fun _=>by rw[RT.sz];show 4+5<=_;omega),hb⟩
 by_cases k2:k=2
 ·subst k2;obtain⟨ao,c,rfl,-⟩:=hat0;have he:(RT.mk 2 a b ps).textOk d=(ownB a&&decide (b.size=0)&&decide (ps.length=0)):=by rw[RT.textOk];rfl
  rw[he];refine(text_leaf2 a b ps d ao c w hoa).mono ?_;rintro e w5 ⟨s,rfl,rfl,hb⟩;refine⟨_,rfl,(fun h=>?_),hb⟩;simp only[Bool.and_eq_true]at h;have:=ownB_size h.1.1;rw[RT.sz];omega
 by_cases k3:k=3
 ·subst k3;obtain⟨ao,c,rfl,-⟩:=hat0;have he:(RT.mk 3 a b ps).textOk d=(ownB a&&ownB b&&decide (ps.length=0)):=by rw[RT.textOk];rfl
  rw[he];refine(text_leaf3 a b ps d ao c w hoa hob).mono ?_;rintro e w5 ⟨s,rfl,rfl,hb⟩;refine⟨_,rfl,(fun h=>?_),hb⟩;simp only[Bool.and_eq_true]at h;have h1:=ownB_size h.1.1;have h2:=ownB_size h.1.2;rw[RT.sz];simp only[ByteArray.size_append];have h3:(⟨#[45,62]⟩:ByteArray).size=2:=rfl;omega
 by_cases k4:k=4
 ·subst k4;obtain⟨ao,c,rfl,-⟩:=hat0;by_cases hg:a.size=0/\b.size=0/\2<=ps.length
  ·obtain⟨hna,hnb,hl2⟩:=hg;obtain rfl:=ba_size_eq hna;obtain rfl:=ba_size_eq hnb
   have he:(RT.mk 4 ⟨#[]⟩ ⟨#[]⟩ ps).textOk d=ps.all (goodP 4 d):=by
    rw[RT.textOk,textL_eq,decide_eq_true hl2];rfl
   rw[he];refine(text_group4 ps d hd _ w hat (by rw[RT.sz]at hsz;omega) hl2 (fun p hp pv d w h1 h2=>ih p hp pv d w h1 (hop p hp) (by have:=szL_mem hp;rw[RT.sz]at hsz;omega) h2)).mono ?_;rintro e w5 ⟨s,rfl,hss,hb⟩;exact⟨s,rfl,fun h=>by have:=hss h;rw[RT.sz];omega,hb⟩
  ·have he:(RT.mk 4 a b ps).textOk d=false:=by
    rw[RT.textOk];by_cases h1:a.size=0
    ·by_cases h2:b.size=0
     ·have h3:¬ 2<=ps.length:=fun h3=>hg ⟨h1,h2,h3⟩;simp[h1,h2,h3]
     ·simp[h2]
    ·simp[h1]
   rw[he];refine(text_bad4 a b ps d ao c w hg).mono ?_;rintro e w5 ⟨s,rfl,hb⟩;exact⟨s,rfl,(fun h=>by cases h),hb⟩
 by_cases k5:k=5
 ·subst k5;obtain⟨ao,c,rfl,-⟩:=hat0;by_cases hg:a.size=0/\b.size=0/\2<=ps.length
  ·obtain⟨hna,hnb,hl2⟩:=hg;obtain rfl:=ba_size_eq hna;obtain rfl:=ba_size_eq hnb
   have he:(RT.mk 5 ⟨#[]⟩ ⟨#[]⟩ ps).textOk d=ps.all (goodP 5 d):=by
    rw[RT.textOk,textL_eq,decide_eq_true hl2];rfl
   rw[he];refine(text_group5 ps d hd _ w hat (by rw[RT.sz]at hsz;omega) hl2 (fun p hp pv d w h1 h2=>ih p hp pv d w h1 (hop p hp) (by have:=szL_mem hp;rw[RT.sz]at hsz;omega) h2)).mono ?_;rintro e w5 ⟨s,rfl,hss,hb⟩;exact⟨s,rfl,fun h=>by have:=hss h;rw[RT.sz];omega,hb⟩
  ·have he:(RT.mk 5 a b ps).textOk d=false:=by
    rw[RT.textOk];by_cases h1:a.size=0
    ·by_cases h2:b.size=0
     ·have h3:¬ 2<=ps.length:=fun h3=>hg ⟨h1,h2,h3⟩;simp[h1,h2,h3]
     ·simp[h2]
    ·simp[h1]
   rw[he];refine(text_bad5 a b ps d ao c w hg).mono ?_;rintro e w5 ⟨s,rfl,hb⟩;exact⟨s,rfl,(fun h=>by cases h),hb⟩
 ·obtain⟨ao,c,rfl,-⟩:=hat0;have he:(RT.mk k a b ps).textOk d=false:=by rw[RT.textOk,if_neg k1,if_neg k2,if_neg k3,if_neg (by omega)]
  rw[he];refine(text_other k a b ps d ao c w k1 k2 k3 k4 k5).mono ?_;rintro e w5 ⟨s,rfl,hb⟩;exact⟨s,rfl,(fun h=>by cases h),hb⟩
end Go.Proofs.YtlhaghoajpglaaaGreat
