/- Lemmas for the claim, no condition. -/
import Derived.Test.YtjdigpfipmckhaaGreatYXTrees0
import Derived.Test.YtjdigpfipmckhaaGreatYXTrees1
namespace Go.Proofs.YtjdigpfipmckhaaGreat
open Go Go.RowKit
def innerD (k pk:Int)(d:Nat):Nat:=if k=5/\pk=4 then d+1 else d
mutual
def RT.textOk:RT->Nat->Bool
 | .mk k a b ps,d =>
  if k=1 then decide (a.size=0)&&decide (b.size=0)&&decide (ps.length=0)
  else if k=2 then ownB a&&decide (b.size=0)&&decide (ps.length=0)
  else if k=3 then ownB a&&ownB b&&decide (ps.length=0)
  else if k=4\/k=5 then decide (a.size=0)&&decide (b.size=0)&&decide (2<=ps.length)&&textL k ps d
  else false
def textL (k:Int):List RT->Nat->Bool
 | [],_=>true
 | p::ps,d=>(decide (p.k≠k)&&decide (innerD k p.k d<=8)&&p.textOk (innerD k p.k d))&&textL k ps d
end
def goodP (k:Int)(d:Nat)(p:RT):Bool:=decide (p.k≠k)&&decide (innerD k p.k d<=8)&&p.textOk (innerD k p.k d)
theorem textL_eq (k:Int)(d:Nat):∀ l:List RT,textL k l d=l.all (goodP k d)
 | []=>by rw[textL];rfl
 | r::rs=>by rw[textL,List.all_cons,textL_eq k d rs];rfl
set_option maxRecDepth 100000 in
set_option maxHeartbeats 4000000 in
theorem text_group4 (ps:List RT)(d:Nat)(hd:d<=8)(pv:Value)(w:World)(hat:RTAt (· < w.heap.size) w (.mk 4 ⟨#[]⟩ ⟨#[]⟩ ps) pv)(hsz:szL ps<=1000000)(h2:2<=ps.length)
  (ih:∀ p∈ps,∀ (pv:Value) (d:Nat) (w:World),RTAt (· < w.heap.size) w p pv->d<=8->Calls Tryz.prog 118 #[rV p pv,.int .i64 d] w fun e w'=>∃ s:ByteArray,e = .returned (.tuple #[.string s,.bool (p.textOk d)])/\(p.textOk d=true->s.size+5<=80*p.sz)/\Below w.heap.size w w') :
  Calls Tryz.prog 118 #[rV (.mk 4 ⟨#[]⟩ ⟨#[]⟩ ps) pv,.int .i64 d] w fun e w'=>∃ s:ByteArray,e = .returned (.tuple #[.string s,.bool (ps.all (goodP 4 d))])/\(ps.all (goodP 4 d)=true->s.size<=80*szL ps)/\Below w.heap.size w w':=by
 obtain⟨ao,c,rfl,hlc,hcm,hcell⟩:=hat.rows;dsimp only[RT.ps]at hlc hcell ⊢;have HC:=h! hcell;have IH:=h! ih;have HSZ:=h! hsz;have hBX:=Blk.made w #[.int .i64 4,.string ⟨#[]⟩,.string ⟨#[]⟩,.slice ao ps.length c] 98;have HB0:=h! (show Below w.heap.size w (w.alloc (.cells #[.int .i64 4,.string ⟨#[]⟩,.string ⟨#[]⟩,.slice ao ps.length c] 98))from(Below.refl _ _).alloc (Nat.le_refl _) _);have hbk:=hBX.cells;have hl2:¬ ((ps.length:Int)<2):=by omega
 unfold rV;dsimp only[RT.k,RT.a,RT.b];generalize hg:ps.all (goodP 4 d)=g;have HG:=h! hg.symm;clear hat hcell ih hsz h2 hg;go_enter Tryz.func118,Tryz.ntmps118
 go_wp2_with fail
 obtain⟨w1,hw1⟩:∃ w1,w1=w.alloc (.cells #[.int .i64 4,.string ⟨#[]⟩,.string ⟨#[]⟩,.slice ao ps.length c] 98):=⟨_,rfl⟩;rw[<- hw1]at hBX HB0 ⊢;have HBX0:=h! hBX;clear hbk hl2 hw1 hBX;go_loopw [6,91] (fun ov ii wr=>∃ (i:Nat) (out:ByteArray),i<=ps.length/\ii = .int .i64 i/\ov = .string out/\(∀ j (hj:j<ps.length),j<i->goodP 4 d ps[j]=true)/\out.size<=80*szL (ps.take i)/\Below w1.heap.size w1 wr) (fun _ ii _=>ps.length-(intOf ii).toNat)
 case atStart=>exact⟨0,⟨#[]⟩,by omega,rfl,rfl,fun _ _ h=>absurd h (by omega),Nat.zero_le _,Below.refl _ _⟩
 case round =>
  obtain⟨i,out,hi,rfl,rfl,hall,hos,hb1r⟩:=hrel;have HALL:=h! hall;have hbel:Below w.heap.size w wr:=HB0.out.trans (hb1r.mono HB0.out.size);clear hall;by_cases hlt:i<ps.length
  ·have HUP:=h! (fun h=>upto_succ (p:=fun j hj=>goodP 4 d ps[j]=true) HALL.out hlt h);have HBAD:=h! (fun(h:goodP 4 d ps[i]=false)=>(show g=false from by rw[HG.out];exact List.all_eq_false.2 ⟨ps[i],List.getElem_mem hlt,by rw[h];exact Bool.false_ne_true⟩));have hmem:=List.getElem_mem hlt;have hst:=szL_take hlt;have hle:=szL_le ps (i+1);have hsl:=HSZ.out;have HST:=h! hst;rw[hst]at hle;obtain⟨b,off,pv2,hbo,hb,c0,c1,c2,c3,hat2⟩:=HC.out i hlt;cases hbo;have d0:=(hbel.cell (p:=⟨b,off+i*4,none⟩) hb).trans c0;have d1:=(hbel.cell (p:=⟨b,off+i*4+1,none⟩) hb).trans c1;have d2:=(hbel.cell (p:=⟨b,off+i*4+2,none⟩) hb).trans c2;have d3:=(hbel.cell (p:=⟨b,off+i*4+3,none⟩) hb).trans c3;obtain⟨ao2,c2',rfl,-⟩:=hat2.rows;have hb1:=hbel.alloc hbel.size (.cells #[.int .i64 ps[i].k,.string ps[i].a,.string ps[i].b,.slice ao2 ps[i].ps.length c2'] 98);have hat3:=hat2.up hb1;have hbx:=(Blk.made wr #[.int .i64 ps[i].k,.string ps[i].a,.string ps[i].b,.slice ao2 ps[i].ps.length c2'] 98).cells;have HB1:=h! hb1;clear c0 c1 c2 c3 hat2 hb1 hbel;have HB3R:=h! (hb1r.alloc hb1r.size (.cells #[.int .i64 ps[i].k,.string ps[i].a,.string ps[i].b,.slice ao2 ps[i].ps.length c2'] 98));have hbq:=(HBX0.out.below HB3R.out).cells;clear hb1r hst;by_cases hkk:ps[i].k=4
   ·have HF:=h! (HBAD.out (by unfold goodP;simp[hkk]));clear HUP HBAD hmem hat3;generalize ps[i]=p at *;obtain⟨pk,pa,pb,pps⟩:=p;dsimp only[RT.k,RT.a,RT.b,RT.ps]at *;subst hkk;go_wp2_with fail
    go_ret2
    exact⟨_,by rw[HF.out];rfl,(fun h=>by rw[HF.out]at h;cases h),HB1.out⟩
   have hpk4:(ps[i].k == 4)=false:=by rw[beq_eq_false_iff_ne];exact hkk
   have hgood:goodP 4 d ps[i]=ps[i].textOk d:=by unfold goodP innerD;simp[hkk,hd]
   have hdI:(d:Int)<=8:=by omega
   have HR:=h! (IH.out ps[i] hmem _ d _ hat3 (by omega));unfold rV at HR;clear hat3;generalize ps[i]=p at *;cases hx:p.textOk d with
   | false =>
    rw[hx]at HR;have HF:=h! (HBAD.out (by rw[hgood,hx]));clear HBAD hgood;go_wp2_with fail
    refine HR.out.mono ?_;rintro e w5 ⟨s,rfl,-,hb5⟩;have HB5:=h! (HB1.out.trans (hb5.mono HB1.out.size));clear HR hb5 hbx HB1 hbq d0 d1 d2 d3;go_wp2_with fail
    go_ret2
    exact⟨_,by rw[HF.out];rfl,(fun h=>by rw[HF.out]at h;cases h),HB5.out⟩
   | true =>
    rw[hx]at HR;go_wp2_with fail
    refine HR.out.mono ?_;rintro e w5 ⟨s,rfl,hsz,hb5⟩;have HBR5:=h! (HB3R.out.trans (hb5.mono HB3R.out.size));replace hbq:=(HBX0.out.below HBR5.out).cells;have hS:s.size+5<=80*p.sz:=by first | exact hsz rfl | exact hsz trivial
    clear HR hb5 hbx HB1 hsz HBAD d0 d1 d2 d3;have hs1:¬ (9223372036854775807<1+s.size):=by omega
    have hs2:¬ (9223372036854775807<1+s.size+1):=by omega
    have hs4:¬ (9223372036854775807<out.size+3):=by omega
    by_cases hi0:i=0
    ·have hig:¬ ((0:Int)<(i:Int)):=by omega
     have hs3:¬ (9223372036854775807<out.size+(s.size)):=by omega
     have HOZ:=h! (show(out++s).size<=80*szL (ps.take (i+1))from by
      rw[HST.out];simp only[ByteArray.size_append];have h1:(⟨#[40]⟩:ByteArray).size=1:=rfl;have h2:(⟨#[41]⟩:ByteArray).size=1:=rfl;have h3:(⟨#[32,124,32]⟩:ByteArray).size=3:=rfl;omega)
     have HN:=h! (HUP.out (by rw[hgood,hx]));clear hx hgood hS;go_wp2_with fail
     go_roundw
     case rel=>exact⟨i+1,_,by omega,by go_num,rfl,HN.out,HOZ.out,HBR5.out⟩
     case measure=>simp[intOf];omega
    ·have hig:(0:Int)<i:=by omega
     have hs3:¬ (9223372036854775807<out.size+3+(s.size)):=by omega
     have HOZ:=h! (show(out++⟨#[32,124,32]⟩++s).size<=80*szL (ps.take (i+1))from by
      rw[HST.out];simp only[ByteArray.size_append];have h1:(⟨#[40]⟩:ByteArray).size=1:=rfl;have h2:(⟨#[41]⟩:ByteArray).size=1:=rfl;have h3:(⟨#[32,124,32]⟩:ByteArray).size=3:=rfl;omega)
     have HN:=h! (HUP.out (by rw[hgood,hx]));clear hx hgood hS;go_wp2_with fail
     go_roundw
     case rel=>exact⟨i+1,_,by omega,by go_num,rfl,HN.out,HOZ.out,HBR5.out⟩
     case measure=>simp[intOf];omega
  ·obtain rfl:i=ps.length:=by omega
   rw[List.take_length]at hos
   have HF:=h! (show g=true from by
    rw[HG.out,List.all_eq_true];intro x hx;obtain⟨j,hj,rfl⟩:=List.getElem_of_mem hx;exact HALL.out j hj hj)
   have HOS:=h! hos;have HBE:=h! hbel;clear hbel hb1r hos;go_wp2_with fail
   go_ret2
   exact⟨_,by rw[HF.out];rfl,fun _=>HOS.out,HBE.out⟩
set_option maxRecDepth 100000 in
set_option maxHeartbeats 4000000 in
theorem text_group5 (ps:List RT)(d:Nat)(hd:d<=8)(pv:Value)(w:World)(hat:RTAt (· < w.heap.size) w (.mk 5 ⟨#[]⟩ ⟨#[]⟩ ps) pv)(hsz:szL ps<=1000000)(h2:2<=ps.length)
  (ih:∀ p∈ps,∀ (pv:Value) (d:Nat) (w:World),RTAt (· < w.heap.size) w p pv->d<=8->Calls Tryz.prog 118 #[rV p pv,.int .i64 d] w fun e w'=>∃ s:ByteArray,e = .returned (.tuple #[.string s,.bool (p.textOk d)])/\(p.textOk d=true->s.size+5<=80*p.sz)/\Below w.heap.size w w') :
  Calls Tryz.prog 118 #[rV (.mk 5 ⟨#[]⟩ ⟨#[]⟩ ps) pv,.int .i64 d] w fun e w'=>∃ s:ByteArray,e = .returned (.tuple #[.string s,.bool (ps.all (goodP 5 d))])/\(ps.all (goodP 5 d)=true->s.size<=80*szL ps)/\Below w.heap.size w w':=by
 obtain⟨ao,c,rfl,hlc,hcm,hcell⟩:=hat.rows;dsimp only[RT.ps]at hlc hcell ⊢;have HC:=h! hcell;have IH:=h! ih;have HSZ:=h! hsz;have hBX:=Blk.made w #[.int .i64 5,.string ⟨#[]⟩,.string ⟨#[]⟩,.slice ao ps.length c] 98;have HB0:=h! (show Below w.heap.size w (w.alloc (.cells #[.int .i64 5,.string ⟨#[]⟩,.string ⟨#[]⟩,.slice ao ps.length c] 98))from(Below.refl _ _).alloc (Nat.le_refl _) _);have hbk:=hBX.cells;have hl2:¬ ((ps.length:Int)<2):=by omega
 unfold rV;dsimp only[RT.k,RT.a,RT.b];generalize hg:ps.all (goodP 5 d)=g;have HG:=h! hg.symm;clear hat hcell ih hsz h2 hg;go_enter Tryz.func118,Tryz.ntmps118
 go_wp2_with fail
 obtain⟨w1,hw1⟩:∃ w1,w1=w.alloc (.cells #[.int .i64 5,.string ⟨#[]⟩,.string ⟨#[]⟩,.slice ao ps.length c] 98):=⟨_,rfl⟩;rw[<- hw1]at hBX HB0 ⊢;have HBX0:=h! hBX;clear hbk hl2 hw1 hBX;go_loopw [6,91] (fun ov ii wr=>∃ (i:Nat) (out:ByteArray),i<=ps.length/\ii = .int .i64 i/\ov = .string out/\(∀ j (hj:j<ps.length),j<i->goodP 5 d ps[j]=true)/\out.size<=80*szL (ps.take i)/\Below w1.heap.size w1 wr) (fun _ ii _=>ps.length-(intOf ii).toNat)
 case atStart=>exact⟨0,⟨#[]⟩,by omega,rfl,rfl,fun _ _ h=>absurd h (by omega),Nat.zero_le _,Below.refl _ _⟩
 case round =>
  obtain⟨i,out,hi,rfl,rfl,hall,hos,hb1r⟩:=hrel;have HALL:=h! hall;have hbel:Below w.heap.size w wr:=HB0.out.trans (hb1r.mono HB0.out.size);clear hall;by_cases hlt:i<ps.length
  ·have HUP:=h! (fun h=>upto_succ (p:=fun j hj=>goodP 5 d ps[j]=true) HALL.out hlt h);have HBAD:=h! (fun(h:goodP 5 d ps[i]=false)=>(show g=false from by rw[HG.out];exact List.all_eq_false.2 ⟨ps[i],List.getElem_mem hlt,by rw[h];exact Bool.false_ne_true⟩));have hmem:=List.getElem_mem hlt;have hst:=szL_take hlt;have hle:=szL_le ps (i+1);have hsl:=HSZ.out;have HST:=h! hst;rw[hst]at hle;obtain⟨b,off,pv2,hbo,hb,c0,c1,c2,c3,hat2⟩:=HC.out i hlt;cases hbo;have d0:=(hbel.cell (p:=⟨b,off+i*4,none⟩) hb).trans c0;have d1:=(hbel.cell (p:=⟨b,off+i*4+1,none⟩) hb).trans c1;have d2:=(hbel.cell (p:=⟨b,off+i*4+2,none⟩) hb).trans c2;have d3:=(hbel.cell (p:=⟨b,off+i*4+3,none⟩) hb).trans c3;obtain⟨ao2,c2',rfl,-⟩:=hat2.rows;have hb1:=hbel.alloc hbel.size (.cells #[.int .i64 ps[i].k,.string ps[i].a,.string ps[i].b,.slice ao2 ps[i].ps.length c2'] 98);have hat3:=hat2.up hb1;have hbx:=(Blk.made wr #[.int .i64 ps[i].k,.string ps[i].a,.string ps[i].b,.slice ao2 ps[i].ps.length c2'] 98).cells;have HB1:=h! hb1;clear c0 c1 c2 c3 hat2 hb1 hbel;have HB3R:=h! (hb1r.alloc hb1r.size (.cells #[.int .i64 ps[i].k,.string ps[i].a,.string ps[i].b,.slice ao2 ps[i].ps.length c2'] 98));have hbq:=(HBX0.out.below HB3R.out).cells;clear hb1r hst;by_cases hkk:ps[i].k=5
   ·have HF:=h! (HBAD.out (by unfold goodP;simp[hkk]));clear HUP HBAD hmem hat3;generalize ps[i]=p at *;obtain⟨pk,pa,pb,pps⟩:=p;dsimp only[RT.k,RT.a,RT.b,RT.ps]at *;subst hkk;go_wp2_with fail
    go_ret2
    exact⟨_,by rw[HF.out];rfl,(fun h=>by rw[HF.out]at h;cases h),HB1.out⟩
   have hpk5:(ps[i].k == 5)=false:=by rw[beq_eq_false_iff_ne];exact hkk
   by_cases h4:ps[i].k=4
   ·have hpk4:(ps[i].k == 4)=true:=by rw[beq_iff_eq];exact h4
    by_cases hd8:d=8
    ·have HF:=h! (HBAD.out (by unfold goodP innerD;simp[h4,hd8]));have hdI:¬ ((d:Int)+1<=8):=by omega
     clear HUP HBAD hmem hat3 hpk4 hpk5 hkk hd8;generalize ps[i]=p at *;simp only[h4]at d0 hbx HB1 hbq;clear h4;go_wp2_with fail
     go_ret2
     exact⟨_,by rw[HF.out];rfl,(fun h=>by rw[HF.out]at h;cases h),HB1.out⟩
    ·have hd9:d+1<=8:=by omega
     have hgood:goodP 5 d ps[i]=ps[i].textOk (d+1):=by unfold goodP innerD;simp[h4];omega
     have hdI:(d:Int)+1<=8:=by omega
     have HR:=h! (IH.out ps[i] hmem _ (d+1) _ hat3 (by omega));unfold rV at HR;clear hat3;generalize ps[i]=p at *;simp only[h4]at d0 hbx HB1 HB3R HR hbq;rw[show((d+1:Nat):Int)=(d:Int)+1 from rfl]at HR;clear h4 hpk4 hpk5 hkk;cases hx:p.textOk (d+1) with
     | false =>
      rw[hx]at HR;have HF:=h! (HBAD.out (by rw[hgood,hx]));clear HBAD hgood;go_wp2_with fail
      refine HR.out.mono ?_;rintro e w5 ⟨s,rfl,-,hb5⟩;have HB5:=h! (HB1.out.trans (hb5.mono HB1.out.size));clear HR hb5 hbx HB1 hbq d0 d1 d2 d3;go_wp2_with fail
      go_ret2
      exact⟨_,by rw[HF.out];rfl,(fun h=>by rw[HF.out]at h;cases h),HB5.out⟩
     | true =>
      rw[hx]at HR;go_wp2_with fail
      refine HR.out.mono ?_;rintro e w5 ⟨s,rfl,hsz,hb5⟩;have HBR5:=h! (HB3R.out.trans (hb5.mono HB3R.out.size));replace hbq:=(HBX0.out.below HBR5.out).cells;have hS:s.size+5<=80*p.sz:=by first | exact hsz rfl | exact hsz trivial
      clear HR hb5 hbx HB1 hsz HBAD d0 d1 d2 d3;have hs1:¬ (9223372036854775807<1+s.size):=by omega
      have hs2:¬ (9223372036854775807<1+s.size+1):=by omega
      have hs4:¬ (9223372036854775807<out.size+3):=by omega
      by_cases hi0:i=0
      ·have hig:¬ ((0:Int)<(i:Int)):=by omega
       have hs3:¬ (9223372036854775807<out.size+(1+s.size+1)):=by omega
       have HOZ:=h! (show(out++(⟨#[40]⟩++s++⟨#[41]⟩)).size<=80*szL (ps.take (i+1))from by
        rw[HST.out];simp only[ByteArray.size_append];have h1:(⟨#[40]⟩:ByteArray).size=1:=rfl;have h2:(⟨#[41]⟩:ByteArray).size=1:=rfl;have h3:(⟨#[32,38,32]⟩:ByteArray).size=3:=rfl;omega)
       have HN:=h! (HUP.out (by rw[hgood,hx]));clear hx hgood hS;go_wp2_with fail
       go_roundw
       case rel=>exact⟨i+1,_,by omega,by go_num,rfl,HN.out,HOZ.out,HBR5.out⟩
       case measure=>simp[intOf];omega
      ·have hig:(0:Int)<i:=by omega
       have hs3:¬ (9223372036854775807<out.size+3+(1+s.size+1)):=by omega
       have HOZ:=h! (show(out++⟨#[32,38,32]⟩++(⟨#[40]⟩++s++⟨#[41]⟩)).size<=80*szL (ps.take (i+1))from by
        rw[HST.out];simp only[ByteArray.size_append];have h1:(⟨#[40]⟩:ByteArray).size=1:=rfl;have h2:(⟨#[41]⟩:ByteArray).size=1:=rfl;have h3:(⟨#[32,38,32]⟩:ByteArray).size=3:=rfl;omega)
       have HN:=h! (HUP.out (by rw[hgood,hx]));clear hx hgood hS;go_wp2_with fail
       go_roundw
       case rel=>exact⟨i+1,_,by omega,by go_num,rfl,HN.out,HOZ.out,HBR5.out⟩
       case measure=>simp[intOf];omega
   ·have hpk4:(ps[i].k == 4)=false:=by rw[beq_eq_false_iff_ne];exact h4
    have hgood:goodP 5 d ps[i]=ps[i].textOk d:=by unfold goodP innerD;simp[hkk,h4,hd]
    have hdI:(d:Int)<=8:=by omega
    have HR:=h! (IH.out ps[i] hmem _ d _ hat3 (by omega));unfold rV at HR;clear hat3;generalize ps[i]=p at *;cases hx:p.textOk d with
    | false =>
     rw[hx]at HR;have HF:=h! (HBAD.out (by rw[hgood,hx]));clear HBAD hgood;go_wp2_with fail
     refine HR.out.mono ?_;rintro e w5 ⟨s,rfl,-,hb5⟩;have HB5:=h! (HB1.out.trans (hb5.mono HB1.out.size));clear HR hb5 hbx HB1 hbq d0 d1 d2 d3;go_wp2_with fail
     go_ret2
     exact⟨_,by rw[HF.out];rfl,(fun h=>by rw[HF.out]at h;cases h),HB5.out⟩
    | true =>
     rw[hx]at HR;go_wp2_with fail
     refine HR.out.mono ?_;rintro e w5 ⟨s,rfl,hsz,hb5⟩;have HBR5:=h! (HB3R.out.trans (hb5.mono HB3R.out.size));replace hbq:=(HBX0.out.below HBR5.out).cells;have hS:s.size+5<=80*p.sz:=by first | exact hsz rfl | exact hsz trivial
     clear HR hb5 hbx HB1 hsz HBAD d0 d1 d2 d3;have hs1:¬ (9223372036854775807<1+s.size):=by omega
     have hs2:¬ (9223372036854775807<1+s.size+1):=by omega
     have hs4:¬ (9223372036854775807<out.size+3):=by omega
     by_cases hi0:i=0
     ·have hig:¬ ((0:Int)<(i:Int)):=by omega
      have hs3:¬ (9223372036854775807<out.size+(s.size)):=by omega
      have HOZ:=h! (show(out++s).size<=80*szL (ps.take (i+1))from by
       rw[HST.out];simp only[ByteArray.size_append];have h1:(⟨#[40]⟩:ByteArray).size=1:=rfl;have h2:(⟨#[41]⟩:ByteArray).size=1:=rfl;have h3:(⟨#[32,38,32]⟩:ByteArray).size=3:=rfl;omega)
      have HN:=h! (HUP.out (by rw[hgood,hx]));clear hx hgood hS;go_wp2_with fail
      go_roundw
      case rel=>exact⟨i+1,_,by omega,by go_num,rfl,HN.out,HOZ.out,HBR5.out⟩
      case measure=>simp[intOf];omega
     ·have hig:(0:Int)<i:=by omega
      have hs3:¬ (9223372036854775807<out.size+3+(s.size)):=by omega
      have HOZ:=h! (show(out++⟨#[32,38,32]⟩++s).size<=80*szL (ps.take (i+1))from by
       rw[HST.out];simp only[ByteArray.size_append];have h1:(⟨#[40]⟩:ByteArray).size=1:=rfl;have h2:(⟨#[41]⟩:ByteArray).size=1:=rfl;have h3:(⟨#[32,38,32]⟩:ByteArray).size=3:=rfl;omega)
      have HN:=h! (HUP.out (by rw[hgood,hx]));clear hx hgood hS;go_wp2_with fail
      go_roundw
      case rel=>exact⟨i+1,_,by omega,by go_num,rfl,HN.out,HOZ.out,HBR5.out⟩
      case measure=>simp[intOf];omega
  ·obtain rfl:i=ps.length:=by omega
   rw[List.take_length]at hos
   have HF:=h! (show g=true from by
    rw[HG.out,List.all_eq_true];intro x hx;obtain⟨j,hj,rfl⟩:=List.getElem_of_mem hx;exact HALL.out j hj hj)
   have HOS:=h! hos;have HBE:=h! hbel;clear hbel hb1r hos;go_wp2_with fail
   go_ret2
   exact⟨_,by rw[HF.out];rfl,fun _=>HOS.out,HBE.out⟩
set_option maxRecDepth 100000 in
set_option maxHeartbeats 2000000 in
theorem text_bad4 (a b:ByteArray)(ps:List RT)(d:Nat)(ao:Option Addr)(c:Nat)(w:World)(h:¬ (a.size=0/\b.size=0/\2<=ps.length)):Calls Tryz.prog 118 #[.agg #[.int .i64 4,.string a,.string b,.slice ao ps.length c],.int .i64 d] w fun e w'=>∃ s:ByteArray,e = .returned (.tuple #[.string s,.bool false])/\Below w.heap.size w w':=by
 have hbk:=(Blk.made w #[.int .i64 4,.string a,.string b,.slice ao ps.length c] 98).cells;have HB0:=h! (show Below w.heap.size w (w.alloc (.cells #[.int .i64 4,.string a,.string b,.slice ao ps.length c] 98))from(Below.refl _ _).alloc (Nat.le_refl _) _);by_cases hna:a.size=0
 ·obtain rfl:=ba_size_eq hna;by_cases hnb:b.size=0
  ·obtain rfl:=ba_size_eq hnb
   have hl2:(ps.length:Int)<2:=by
    have:¬ 2<=ps.length:=fun h2=>h ⟨rfl,rfl,h2⟩;omega
   clear hna hnb h;go_enter Tryz.func118,Tryz.ntmps118
   go_wp2_with fail
   go_ret2
   exact⟨_,rfl,HB0.out⟩
  ·have hneb:=ba_size_ne hnb;clear hna hnb h;go_enter Tryz.func118,Tryz.ntmps118
   go_wp2_with fail
   go_ret2
   exact⟨_,rfl,HB0.out⟩
 ·have hnea:=ba_size_ne hna;clear hna h;go_enter Tryz.func118,Tryz.ntmps118
  go_wp2_with fail
  go_ret2
  exact⟨_,rfl,HB0.out⟩
set_option maxRecDepth 100000 in
set_option maxHeartbeats 2000000 in
theorem text_bad5 (a b:ByteArray)(ps:List RT)(d:Nat)(ao:Option Addr)(c:Nat)(w:World)(h:¬ (a.size=0/\b.size=0/\2<=ps.length)):Calls Tryz.prog 118 #[.agg #[.int .i64 5,.string a,.string b,.slice ao ps.length c],.int .i64 d] w fun e w'=>∃ s:ByteArray,e = .returned (.tuple #[.string s,.bool false])/\Below w.heap.size w w':=by
 have hbk:=(Blk.made w #[.int .i64 5,.string a,.string b,.slice ao ps.length c] 98).cells;have HB0:=h! (show Below w.heap.size w (w.alloc (.cells #[.int .i64 5,.string a,.string b,.slice ao ps.length c] 98))from(Below.refl _ _).alloc (Nat.le_refl _) _);by_cases hna:a.size=0
 ·obtain rfl:=ba_size_eq hna;by_cases hnb:b.size=0
  ·obtain rfl:=ba_size_eq hnb
   have hl2:(ps.length:Int)<2:=by
    have:¬ 2<=ps.length:=fun h2=>h ⟨rfl,rfl,h2⟩;omega
   clear hna hnb h;go_enter Tryz.func118,Tryz.ntmps118
   go_wp2_with fail
   go_ret2
   exact⟨_,rfl,HB0.out⟩
  ·have hneb:=ba_size_ne hnb;clear hna hnb h;go_enter Tryz.func118,Tryz.ntmps118
   go_wp2_with fail
   go_ret2
   exact⟨_,rfl,HB0.out⟩
 ·have hnea:=ba_size_ne hna;clear hna h;go_enter Tryz.func118,Tryz.ntmps118
  go_wp2_with fail
  go_ret2
  exact⟨_,rfl,HB0.out⟩
set_option maxRecDepth 100000 in
set_option maxHeartbeats 2000000 in
theorem text_other (k:Int)(a b:ByteArray)(ps:List RT)(d:Nat)(ao:Option Addr)(c:Nat)(w:World)(h1:k≠1)(h2:k≠2)(h3:k≠3)(h4:k≠4)(h5:k≠5):Calls Tryz.prog 118 #[.agg #[.int .i64 k,.string a,.string b,.slice ao ps.length c],.int .i64 d] w fun e w'=>∃ s:ByteArray,e = .returned (.tuple #[.string s,.bool false])/\Below w.heap.size w w':=by
 have hbk:=(Blk.made w #[.int .i64 k,.string a,.string b,.slice ao ps.length c] 98).cells;have HB0:=h! (show Below w.heap.size w (w.alloc (.cells #[.int .i64 k,.string a,.string b,.slice ao ps.length c] 98))from(Below.refl _ _).alloc (Nat.le_refl _) _);have e1:(k == 1)=false:=by rw[beq_eq_false_iff_ne];exact h1
 have e2:(k == 2)=false:=by rw[beq_eq_false_iff_ne];exact h2
 have e3:(k == 3)=false:=by rw[beq_eq_false_iff_ne];exact h3
 have e4:(k == 4)=false:=by rw[beq_eq_false_iff_ne];exact h4
 have e5:(k == 5)=false:=by rw[beq_eq_false_iff_ne];exact h5
 clear h1 h2 h3 h4 h5;go_enter Tryz.func118,Tryz.ntmps118
 go_wp2_with fail
 go_ret2
 exact⟨_,rfl,HB0.out⟩
theorem isNm_size {s:ByteArray} (h:isNm s=true):s.size<=32:=by
 unfold isNm at h;simp only[Bool.and_eq_true,decide_eq_true_eq]at h;exact h.2.2
theorem ownB_size {s:ByteArray} (h:ownB s=true):s.size<=32:=by
 unfold ownB at h;simp only[Bool.and_eq_true]at h;exact isNm_size h.1
theorem text_any (r:RT):∀ (pv:Value)(d:Nat)(w:World),RTAt (· < w.heap.size) w r pv->r.Ok->r.sz<=1000000->d<=8->Calls Tryz.prog 118 #[rV r pv,.int .i64 d] w fun e w'=>∃ s:ByteArray,e = .returned (.tuple #[.string s,.bool (r.textOk d)])/\(r.textOk d=true->s.size+5<=80*r.sz)/\Below w.heap.size w w':=by
 induction r using RT.ind with
 | h r ih =>
 intro pv d w hat hok hsz hd;obtain⟨-,hoa,hob,hop⟩:=r.ok_iff.1 hok;have hat0:=hat.rows;obtain⟨k,a,b,ps⟩:=r;dsimp only[RT.a,RT.b,RT.ps]at hoa hob hop ih hat0;by_cases k1:k=1
 ·subst k1;obtain⟨ao,c,rfl,-⟩:=hat0;have he:(RT.mk 1 a b ps).textOk d=(decide (a.size=0)&&decide (b.size=0)&&decide (ps.length=0)):=by rw[RT.textOk];rfl
  rw[he];refine(text_leaf1 a b ps d ao c w).mono ?_;rintro e w5 ⟨s,rfl,rfl,hb⟩;exact⟨_,rfl,(fun _=>by rw[RT.sz];show 4+5<=_;omega),hb⟩
 by_cases k2:k=2
 ·subst k2;obtain⟨ao,c,rfl,-⟩:=hat0;have he:(RT.mk 2 a b ps).textOk d=(ownB a&&decide (b.size=0)&&decide (ps.length=0)):=by rw[RT.textOk];rfl
  rw[he];refine(text_leaf2 a b ps d ao c w hoa).mono ?_;rintro e w5 ⟨s,rfl,rfl,hb⟩;refine⟨_,rfl,(fun h=>?_),hb⟩;simp only[Bool.and_eq_true]at h;have:=ownB_size h.1.1;rw[RT.sz];omega
 by_cases k3:k=3
 ·subst k3;obtain⟨ao,c,rfl,-⟩:=hat0;have he:(RT.mk 3 a b ps).textOk d=(ownB a&&ownB b&&decide (ps.length=0)):=by rw[RT.textOk];rfl
  rw[he];refine(text_leaf3 a b ps d ao c w hoa hob).mono ?_;rintro e w5 ⟨s,rfl,rfl,hb⟩;refine⟨_,rfl,(fun h=>?_),hb⟩;simp only[Bool.and_eq_true]at h;have h1:=ownB_size h.1.1;have h2:=ownB_size h.1.2;rw[RT.sz];simp only[ByteArray.size_append];have h3:(⟨#[45,62]⟩:ByteArray).size=2:=rfl;omega
 by_cases k4:k=4
 ·subst k4;obtain⟨ao,c,rfl,-⟩:=hat0;by_cases hg:a.size=0/\b.size=0/\2<=ps.length
  ·obtain⟨hna,hnb,hl2⟩:=hg;obtain rfl:=ba_size_eq hna;obtain rfl:=ba_size_eq hnb
   have he:(RT.mk 4 ⟨#[]⟩ ⟨#[]⟩ ps).textOk d=ps.all (goodP 4 d):=by
    rw[RT.textOk,textL_eq,decide_eq_true hl2];rfl
   rw[he];refine(text_group4 ps d hd _ w hat (by rw[RT.sz]at hsz;omega) hl2 (fun p hp pv d w h1 h2=>ih p hp pv d w h1 (hop p hp) (by have:=szL_mem hp;rw[RT.sz]at hsz;omega) h2)).mono ?_;rintro e w5 ⟨s,rfl,hss,hb⟩;exact⟨s,rfl,fun h=>by have:=hss h;rw[RT.sz];omega,hb⟩
  ·have he:(RT.mk 4 a b ps).textOk d=false:=by
    rw[RT.textOk];by_cases h1:a.size=0
    ·by_cases h2:b.size=0
     ·have h3:¬ 2<=ps.length:=fun h3=>hg ⟨h1,h2,h3⟩;simp[h1,h2,h3]
     ·simp[h2]
    ·simp[h1]
   rw[he];refine(text_bad4 a b ps d ao c w hg).mono ?_;rintro e w5 ⟨s,rfl,hb⟩;exact⟨s,rfl,(fun h=>by cases h),hb⟩
 by_cases k5:k=5
 ·subst k5;obtain⟨ao,c,rfl,-⟩:=hat0;by_cases hg:a.size=0/\b.size=0/\2<=ps.length
  ·obtain⟨hna,hnb,hl2⟩:=hg;obtain rfl:=ba_size_eq hna;obtain rfl:=ba_size_eq hnb
   have he:(RT.mk 5 ⟨#[]⟩ ⟨#[]⟩ ps).textOk d=ps.all (goodP 5 d):=by
    rw[RT.textOk,textL_eq,decide_eq_true hl2];rfl
   rw[he];refine(text_group5 ps d hd _ w hat (by rw[RT.sz]at hsz;omega) hl2 (fun p hp pv d w h1 h2=>ih p hp pv d w h1 (hop p hp) (by have:=szL_mem hp;rw[RT.sz]at hsz;omega) h2)).mono ?_;rintro e w5 ⟨s,rfl,hss,hb⟩;exact⟨s,rfl,fun h=>by have:=hss h;rw[RT.sz];omega,hb⟩
  ·have he:(RT.mk 5 a b ps).textOk d=false:=by
    rw[RT.textOk];by_cases h1:a.size=0
    ·by_cases h2:b.size=0
     ·have h3:¬ 2<=ps.length:=fun h3=>hg ⟨h1,h2,h3⟩;simp[h1,h2,h3]
     ·simp[h2]
    ·simp[h1]
   rw[he];refine(text_bad5 a b ps d ao c w hg).mono ?_;rintro e w5 ⟨s,rfl,hb⟩;exact⟨s,rfl,(fun h=>by cases h),hb⟩
 ·obtain⟨ao,c,rfl,-⟩:=hat0;have he:(RT.mk k a b ps).textOk d=false:=by rw[RT.textOk,if_neg k1,if_neg k2,if_neg k3,if_neg (by omega)]
  rw[he];refine(text_other k a b ps d ao c w k1 k2 k3 k4 k5).mono ?_;rintro e w5 ⟨s,rfl,hb⟩;exact⟨s,rfl,(fun h=>by cases h),hb⟩
def relOk (x:ByteArray × RT):Bool:=x.2.textOk 0&&ownB x.1&&decide (x.1≠⟨#[116,121,112,101]⟩)
def tyOk (t:TyS):Bool:=ownB t.name&&t.rels.all relOk
def prN (b:Bool):Int:=if b then 0 else 9
def printOk (ts:List TyS):Bool:=ts.all tyOk
def relW:List (ByteArray × RT)->Nat | []=>0 | x::l=>40+80*x.2.sz+relW l
def schW:List TyS->Nat | []=>0 | t::ts=>40+relW t.rels+schW ts
theorem relW_append (a b:List (ByteArray × RT)):relW (a++b)=relW a+relW b:=by
 induction a with
 | nil=>simp[relW]
 | cons x a ih=>rw[List.cons_append,relW,relW,ih];omega
theorem schW_append (a b:List TyS):schW (a++b)=schW a+schW b:=by
 induction a with
 | nil=>simp[schW]
 | cons x a ih=>rw[List.cons_append,schW,schW,ih];omega
theorem relW_take {l:List (ByteArray × RT)} {i:Nat} (hi:i<l.length):relW (l.take (i+1))=relW (l.take i)+(40+80*l[i].2.sz):=by
 rw[List.take_succ_eq_append_getElem hi,relW_append];simp[relW]
theorem schW_take {l:List TyS} {i:Nat} (hi:i<l.length):schW (l.take (i+1))=schW (l.take i)+(40+relW l[i].rels):=by
 rw[List.take_succ_eq_append_getElem hi,schW_append];simp[schW]
theorem relW_le (l:List (ByteArray × RT))(i:Nat):relW (l.take i)<=relW l:=by
 conv=>rhs;rw[<- List.take_append_drop i l]
 rw[relW_append];omega
theorem schW_le (l:List TyS)(i:Nat):schW (l.take i)<=schW l:=by
 conv=>rhs;rw[<- List.take_append_drop i l]
 rw[schW_append];omega
set_option maxRecDepth 100000 in
set_option maxHeartbeats 4000000 in
theorem print05_any (ts:List TyS)(tv:Value)(w:World)(h:TysAt (· < w.heap.size) w ts tv)(hok:∀ t∈ts,t.Ok)(hsz:schW ts<=80000000):Calls Tryz.prog 60 #[.agg #[tv]] w fun e w'=>∃ s:ByteArray,e = .returned (.tuple #[.string s,.int .i64 (prN (printOk ts))])/\Below w.heap.size w w':=by
 obtain⟨ao,c,rfl,hlc,hcm,hcell⟩:=h.rows;have HC:=h! hcell;have HOK:=h! hok;have HSZ:=h! hsz;generalize hg:printOk ts=g;have HG:=h! (show g=ts.all tyOk from hg.symm);have hbk:=(Blk.made w #[.slice ao ts.length c] 24).cells;have HB0:=h! (show Below w.heap.size w (w.alloc (.cells #[.slice ao ts.length c] 24))from(Below.refl _ _).alloc (Nat.le_refl _) _);clear h hcell hok hsz hg;go_enter Tryz.func60,Tryz.ntmps60
 go_wp2_with fail
 clear hbk;go_loopw [4,14] (fun ov ii wr=>∃ (i:Nat) (out:ByteArray),i<=ts.length/\ii = .int .i64 i/\ov = .string out/\(∀ j (hj:j<ts.length),j<i->tyOk ts[j]=true)/\out.size<=schW (ts.take i)/\Below w.heap.size w wr) (fun _ ii _=>ts.length-(intOf ii).toNat)
 case atStart=>exact⟨0,⟨#[]⟩,by omega,rfl,rfl,fun _ _ h=>absurd h (by omega),Nat.zero_le _,HB0.out⟩
 case round =>
  obtain⟨i,out,hi,rfl,rfl,hall,hos,hbel⟩:=hrel;have HALL:=h! hall;clear HB0 hall;by_cases hlt:i<ts.length
  ·have HUP:=h! (fun h=>upto_succ (p:=fun j hj=>tyOk ts[j]=true) HALL.out hlt h);have HBAD:=h! (fun(h:tyOk ts[i]=false)=>(show g=false from by rw[HG.out];exact List.all_eq_false.2 ⟨ts[i],List.getElem_mem hlt,by rw[h];exact Bool.false_ne_true⟩));have hokt:=HOK.out _ (List.getElem_mem hlt);have hst:=schW_take hlt;have hle:=schW_le ts (i+1);have hsl:=HSZ.out;have HST:=h! hst;rw[hst]at hle;obtain⟨b,off,pv2,hbo,hb,c0,c1,hat2⟩:=HC.out i hlt;cases hbo;have d0:=(hbel.cell (p:=⟨b,off+i*2,none⟩) hb).trans c0;have d1:=(hbel.cell (p:=⟨b,off+i*2+1,none⟩) hb).trans c1;obtain⟨ao2,c2',rfl,-⟩:=hat2.rows;have hb1:=hbel.alloc hbel.size (.cells #[.string ts[i].name,.slice ao2 ts[i].rels.length c2'] 95);have hat3:=hat2.up hb1;have HBT:=h! (Blk.made wr #[.string ts[i].name,.slice ao2 ts[i].rels.length c2'] 95);have hbx:=HBT.out.cells;have HB1:=h! hb1;clear c0 c1 hat2 hb1 hbel;have HI1:=h! hlt;clear hst;generalize ts[i]=t at *;obtain⟨tn,rels⟩:=t;dsimp only at *;obtain⟨hon,hor⟩:=hokt;dsimp only at hon hor;have HOR:=h! hor;have HO1:=h! (own_any tn (by unfold maxLen;omega) (wr.alloc (.cells #[.string tn,.slice ao2 rels.length c2'] 95)));obtain⟨ao3,c3,hv3,hlc3,hcm3,hcell3⟩:=hat3.rows;injection hv3 with hv31 hv32 hv33
   subst hv31 hv33;have HC3:=h! hcell3;clear hor hcell3 hv32 hat3 hon;cases ho:ownB tn with
   | false =>
    rw[ho]at HO1;have HF:=h! (HBAD.out (by unfold tyOk;rw[ho];rfl));clear HUP HBAD ho;go_wp2_with fail
    refine HO1.out.mono ?_;rintro e w5 ⟨rfl,rfl⟩;clear HO1;go_wp2_with fail
    go_ret2
    exact⟨_,by rw[HF.out];rfl,HB1.out⟩
   | true =>
    rw[ho]at HO1;have hns:=ownB_size ho;have HTY:=h! (show tyOk ⟨tn,rels⟩=rels.all relOk from by unfold tyOk;rw[ho];rfl);clear ho;have hq1:¬ (9223372036854775807<out.size+5):=by omega
    have hq2:¬ (9223372036854775807<out.size+5+tn.size):=by omega
    have hq3:¬ (9223372036854775807<out.size+5+tn.size+1):=by omega
    go_wp2_with fail
    refine HO1.out.mono ?_;rintro e w5 ⟨rfl,h5⟩;have h6:=h5.symm;subst h6;clear h5 HO1;go_wp2_with fail
    obtain⟨wq,hwq⟩:∃ wq,wq=wr.alloc (.cells #[.string tn,.slice ao2 rels.length c2'] 95):=⟨_,rfl⟩;rw[<- hwq]at HB1 HC3 ⊢;have HBQ:=h! HB1.out
    have ho1:(out++⟨#[116,121,112,101,32]⟩++tn++⟨#[10]⟩).size<=schW (ts.take i)+40:=by
     simp only[ByteArray.size_append];have h1:(⟨#[116,121,112,101,32]⟩:ByteArray).size=5:=rfl;have h2:(⟨#[10]⟩:ByteArray).size=1:=rfl;omega
    generalize out++⟨#[116,121,112,101,32]⟩++tn++⟨#[10]⟩=out1 at *;have HO1:=h! ho1;have hlim:schW (ts.take i)+(40+relW rels)<=80000000:=by omega
    have HLIM:=h! hlim;clear hwq HB1 hbx d0 d1 hq1 hq2 hq3 hlt ho1 hos hle hsl hlim;go_loopw [4,31] (fun ov jj wr=>∃ (j:Nat) (out:ByteArray),j<=rels.length/\jj = .int .i64 j/\ov = .string out/\(∀ m (hm:m<rels.length),m<j->relOk rels[m]=true)/\out.size<=schW (ts.take i)+40+relW (rels.take j)/\Below wq.heap.size wq wr) (fun _ jj _=>rels.length-(intOf jj).toNat)
    case atStart=>exact⟨0,out1,by omega,rfl,rfl,fun _ _ h=>absurd h (by omega),by have:=HO1.out;omega,Below.refl _ _⟩
    case round =>
     obtain⟨j,out2,hj,rfl,rfl,hall,hos,hbq⟩:=hrel;have HALL2:=h! hall;clear HO1 hall;by_cases hlt:j<rels.length
     ·have HUP2:=h! (fun h=>upto_succ (p:=fun m hm=>relOk rels[m]=true) HALL2.out hlt h);have HBAD2:=h! (fun(h:relOk rels[j]=false)=>HBAD.out (by rw[HTY.out];exact List.all_eq_false.2 ⟨rels[j],List.getElem_mem hlt,by rw[h];exact Bool.false_ne_true⟩));have hokr:=HOR.out _ (List.getElem_mem hlt);have hst:=relW_take hlt;have hle:=relW_le rels (j+1);have hlim:=HLIM.out;have HST2:=h! hst;rw[hst]at hle;have hbel:=hbq;obtain⟨b,off,pv2,hbo,hb,c0,c1,c2,c3,c4,hat2⟩:=HC3.out j hlt;cases hbo;have d0:=(hbel.cell (p:=⟨b,off+j*5,none⟩) hb).trans c0;have d1:=(hbel.cell (p:=⟨b,off+j*5+1,none⟩) hb).trans c1;have d2:=(hbel.cell (p:=⟨b,off+j*5+2,none⟩) hb).trans c2;have d3:=(hbel.cell (p:=⟨b,off+j*5+3,none⟩) hb).trans c3;have d4:=(hbel.cell (p:=⟨b,off+j*5+4,none⟩) hb).trans c4;obtain⟨ao2,c2',rfl,-⟩:=hat2.rows;have hb1:=hbel.alloc hbel.size (.cells #[.string rels[j].1,.int .i64 rels[j].2.k,.string rels[j].2.a,.string rels[j].2.b,.slice ao2 rels[j].2.ps.length c2'] 100);have hat3:=hat2.up hb1;have HBK:=h! (Blk.made wr #[.string rels[j].1,.int .i64 rels[j].2.k,.string rels[j].2.a,.string rels[j].2.b,.slice ao2 rels[j].2.ps.length c2'] 100);have hbx:=HBK.out.cells;have HB1:=h! hb1;clear c0 c1 c2 c3 c4 hat2 hb1 hbel;clear hst;generalize rels[j]=x at *;obtain⟨xn,p⟩:=x;dsimp only at *;obtain⟨hox,hop⟩:=hokr;have HR:=h! (text_any p _ 0 _ hat3 hop (by omega) (by omega));unfold rV at HR;rw[show((0:Nat):Int)=0 from rfl]at HR;have HOW:=h! (fun W=>own_any xn (by unfold maxLen;omega) W);clear hat3 hop hox;cases hx:p.textOk 0 with
      | false =>
       rw[hx]at HR;have HF:=h! (HBAD2.out (by unfold relOk;dsimp only;rw[hx];rfl));clear HUP2 HBAD2 hx;go_wp2_with fail
       refine HR.out.mono ?_;rintro e w5 ⟨s,rfl,-,hb5⟩;have hbx5:=(HBK.out.below hb5).cells;have HBE:=h! (HBQ.out.trans ((HB1.out.trans (hb5.mono HB1.out.size)).mono HBQ.out.size));clear HR hb5 hbx d0 d1 d2 d3 d4 HB1;go_wp2_with fail
       refine(HOW.out _).mono ?_;rintro e w6 ⟨rfl,h6⟩;have h7:=h6.symm;subst h7;clear h6;cases ownB xn with
       | false =>
        go_wp2_with fail
        go_ret2
        exact⟨_,by rw[HF.out];rfl,HBE.out⟩
       | true =>
        by_cases ht:xn=⟨#[116,121,112,101]⟩
        ·subst ht;go_wp2_with fail
         go_ret2
         exact⟨_,by rw[HF.out];rfl,HBE.out⟩
        ·have hne:=ba_beq' ht;rw[<- ByteArray.toList_eq,show(⟨#[116,121,112,101]⟩:ByteArray).data.toList=[116,121,112,101]from rfl]at hne;clear ht;go_wp2_with fail
         go_ret2
         exact⟨_,by rw[HF.out];rfl,HBE.out⟩
      | true =>
       rw[hx]at HR;go_wp2_with fail
       refine HR.out.mono ?_;rintro e w5 ⟨s,rfl,hss,hb5⟩;have hS:s.size+5<=80*p.sz:=by first | exact hss rfl | exact hss trivial
       have hbx5:=(HBK.out.below hb5).cells;have HBR:=h! (HB1.out.trans (hb5.mono HB1.out.size));have HBE:=h! (HBQ.out.trans (HBR.out.mono HBQ.out.size));clear HR hb5 hbx d0 d1 d2 d3 d4 HB1 hss;go_wp2_with fail
       refine(HOW.out _).mono ?_;rintro e w6 ⟨rfl,h6⟩;have h7:=h6.symm;subst h7;clear h6;cases ho:ownB xn with
       | false =>
        have HF:=h! (HBAD2.out (by unfold relOk;dsimp only;rw[hx,ho];rfl));clear HUP2 HBAD2 hx ho;go_wp2_with fail
        go_ret2
        exact⟨_,by rw[HF.out];rfl,HBE.out⟩
       | true =>
        by_cases ht:xn=⟨#[116,121,112,101]⟩
        ·have HF:=h! (HBAD2.out (by unfold relOk;dsimp only;rw[hx,ho,decide_eq_false (fun h=>h ht)];rfl));subst ht;clear HUP2 HBAD2 hx ho;go_wp2_with fail
         go_ret2
         exact⟨_,by rw[HF.out];rfl,HBE.out⟩
        ·have hne:=ba_beq' ht;rw[<- ByteArray.toList_eq,show(⟨#[116,121,112,101]⟩:ByteArray).data.toList=[116,121,112,101]from rfl]at hne;have HN:=h! (HUP2.out (by unfold relOk;dsimp only;rw[hx,ho,decide_eq_true ht];rfl));have hns:=ownB_size ho;have hq1:¬ (9223372036854775807<out2.size+xn.size):=by omega
         have hq2:¬ (9223372036854775807<out2.size+xn.size+3):=by omega
         have hq3:¬ (9223372036854775807<out2.size+xn.size+3+s.size):=by omega
         have hq4:¬ (9223372036854775807<out2.size+xn.size+3+s.size+1):=by omega
         have HOZ:=h! (show(out2++xn++⟨#[32,61,32]⟩++s++⟨#[10]⟩).size<=schW (ts.take i)+40+relW (rels.take (j+1))from by
          rw[HST2.out];simp only[ByteArray.size_append];have h1:(⟨#[32,61,32]⟩:ByteArray).size=3:=rfl;have h2:(⟨#[10]⟩:ByteArray).size=1:=rfl;omega)
         clear ht HUP2 HBAD2 hx ho;go_wp2_with fail
         go_roundw
         case rel=>exact⟨j+1,_,by omega,by go_num,rfl,HN.out,HOZ.out,HBR.out⟩
         case measure=>simp[intOf];omega
     ·obtain rfl:j=rels.length:=by omega
      rw[List.take_length]at hos
      have HN:=h! (HUP.out (by
       rw[HTY.out,List.all_eq_true];intro x hx;obtain⟨m,hm,rfl⟩:=List.getElem_of_mem hx;exact HALL2.out m hm hm))
      have HOZ:=h! (show out2.size<=schW (ts.take (i+1))from by rw[HST.out];omega);have HBE:=h! (HBQ.out.trans (hbq.mono HBQ.out.size));have hlt2:=HI1.out;clear hos hbq;go_wp2_with fail
      go_roundw
      case rel=>exact⟨i+1,out2,by omega,by go_num,rfl,HN.out,HOZ.out,HBE.out⟩
      case measure=>simp[intOf];omega
  ·obtain rfl:i=ts.length:=by omega
   have HF:=h! (show g=true from by
    rw[HG.out,List.all_eq_true];intro x hx;obtain⟨j,hj,rfl⟩:=List.getElem_of_mem hx;exact HALL.out j hj hj)
   have HBE:=h! hbel;clear hbel hos;go_wp2_with fail
   go_ret2
   exact⟨_,by rw[HF.out];rfl,HBE.out⟩
def tyLong (t:TyS):Bool:=decide (t.rels.length<=16)&&t.rels.all fun r=>decide (r.2.sz<=32)
def longOk (ts:List TyS):Bool:=decide (ts.length<=16)&&ts.all tyLong
def uniqOk (ts:List TyS):Bool:=decide ((ts.map (·.name)).Nodup)&&ts.all fun t=>decide ((t.rels.map (·.1)).Nodup)
def freshT (ts:List TyS)(j:Nat):Prop:=∀ m (hm:m<ts.length)(hj:j<ts.length),m<j->ts[m].name≠ts[j].name
def namesOk (ts:List TyS):Bool:=ts.all fun t=>t.rels.all fun r=>r.2.named ts t
theorem uniq_at {ts:List TyS} (h:uniqOk ts=true) {i:Nat} (hi:i<ts.length):freshT ts i/\((ts[i].rels.map (·.1)).Nodup):=by
 unfold uniqOk at h;rw[Bool.and_eq_true,decide_eq_true_eq,List.all_eq_true]at h;refine⟨fun m hm hj hmj he=>?_,of_decide_eq_true (h.2 _ (List.getElem_mem hi))⟩;have:=(List.pairwise_iff_getElem.1 h.1) m i (by simpa using hm) (by simpa using hi) hmj;simp only[List.getElem_map]at this;exact this he
theorem uniq_of {ts:List TyS} (h:∀ j (hj:j<ts.length),freshT ts j/\((ts[j].rels.map (·.1)).Nodup)):uniqOk ts=true:=by
 unfold uniqOk;rw[Bool.and_eq_true,decide_eq_true_eq,List.all_eq_true];refine⟨List.pairwise_iff_getElem.2 fun m j hm hj hmj=>?_,fun x hx=>?_⟩
 ·simp only[List.getElem_map];exact(h j (by simpa using hj)).1 m (by simpa using hm) (by simpa using hj) hmj
 ·obtain⟨j,hj,rfl⟩:=List.getElem_of_mem hx;exact decide_eq_true (h j hj).2
def freshN (l:List (ByteArray × RT))(j:Nat):Prop:=∀ m (hm:m<l.length)(hj:j<l.length),m<j->l[m].1≠l[j].1
theorem fresh_of {l:List (ByteArray × RT)} (h:(l.map (·.1)).Nodup)(j:Nat):freshN l j:=fun m hm hj hmj he=>by
 have:=(List.pairwise_iff_getElem.1 h) m j (by simpa using hm) (by simpa using hj) hmj;simp only[List.getElem_map]at this;exact this he
theorem nodup_of {l:List (ByteArray × RT)} (h:∀ j (_:j<l.length),freshN l j):(l.map (·.1)).Nodup:=List.pairwise_iff_getElem.2 fun m j hm hj hmj=>by
 simp only[List.getElem_map];exact h j (by simpa using hj) m (by simpa using hm) (by simpa using hj) hmj
def chk06 (ts:List TyS):Int:=if printOk ts then(if longOk ts then(if uniqOk ts then(if namesOk ts then 0 else 2)else 3)else 10)else 9
set_option maxRecDepth 100000 in
set_option maxHeartbeats 8000000 in
theorem check06_any (ts:List TyS)(tv:Value)(w:World)(h:TysAt (· < w.heap.size) w ts tv)(hok:∀ t∈ts,t.Ok)(hsz:schW ts<=80000000):Calls Tryz.prog 17 #[.agg #[tv]] w fun e w'=>e = .returned (.int .i64 (chk06 ts))/\Below w.heap.size w w':=by
 have hb0:Below w.heap.size w (w.alloc (.cells #[tv] 24)):=(Below.refl _ _).alloc (Nat.le_refl _) _;have HPR:=h! (print05_any ts tv _ (h.up hb0) hok hsz);have HTS:=h! h;have HB0:=h! hb0;have HS0:=h! (Blk.made w #[tv] 24);obtain⟨ao,c,rfl,hlc,hcm,hcell⟩:=h.rows;have HC:=h! hcell;have HOK:=h! hok;have HSZ:=h! hsz;have hbk:=HS0.out.cells;generalize hg:chk06 ts=g;have HG:=h! hg.symm;clear h hcell hok hsz hg hb0;go_enter Tryz.func17,Tryz.ntmps17
 go_wp2_with fail
 refine HPR.out.mono ?_;rintro e w2 ⟨s,rfl,hb2⟩;have HB2:=h! (HB0.out.trans (hb2.mono HB0.out.size));have HS2:=h! (HS0.out.below hb2);have hbk2:=HS2.out.cells;clear HPR hb2 hbk HB0 HS0;cases hp:printOk ts with
 | false =>
  have HF:=h! (show g=9 from by rw[HG.out];unfold chk06;rw[hp];rfl);rw[show prN false=9 from rfl];clear hp;go_wp2_with fail
  go_ret
  exact⟨by rw[HF.out];rfl,HB2.out⟩
 | true =>
  rw[show prN true=0 from rfl];have HG1:=h! (show g=if longOk ts then(if uniqOk ts then(if namesOk ts then 0 else 2)else 3)else 10 from by rw[HG.out];unfold chk06;rw[hp];rfl);clear hp HG;by_cases hl16:ts.length<=16
  rotate_left
  ·have HF:=h! (show g=10 from by rw[HG1.out,if_neg];unfold longOk;simp[hl16]);have hlI:(16:Int)<ts.length:=by omega
   clear hl16;go_wp2_with fail
   go_ret
   exact⟨by rw[HF.out];rfl,HB2.out⟩
  have hlI:¬ ((16:Int)<ts.length):=by omega
  have HL16:=h! hl16;clear hl16;go_wp2_with fail
  clear hbk2;go_loopw [35] (fun ii wr=>∃ i:Nat,i<=ts.length/\ii = .int .i64 i/\(∀ j (hj:j<ts.length),j<i->tyLong ts[j]=true)/\Below w2.heap.size w2 wr) (fun ii _=>ts.length-(intOf ii).toNat)
  case atStart=>exact⟨0,by omega,rfl,fun _ _ h=>absurd h (by omega),Below.refl _ _⟩
  case round =>
   obtain⟨i,hi,rfl,hall,hb2r⟩:=hrel;have HALL:=h! hall;have hbel:Below w.heap.size w wr:=HB2.out.trans (hb2r.mono HB2.out.size);clear hall;by_cases hlt:i<ts.length
   ·have HUP:=h! (fun h=>upto_succ (p:=fun j hj=>tyLong ts[j]=true) HALL.out hlt h)
    have HBAD:=h! (fun(h:tyLong ts[i]=false)=>(show g=10 from by
     rw[HG1.out,if_neg];unfold longOk;rw[Bool.and_eq_true];intro h2;rw[List.all_eq_true.1 h2.2 _ (List.getElem_mem hlt)]at h;cases h))
    have hle:=schW_le ts (i+1);rw[schW_take hlt]at hle;have hsl:=HSZ.out;have HRW:=h! (show relW ts[i].rels<=80000000 from by omega);obtain⟨b,off,pv2,hbo,hb,c0,c1,hat2⟩:=HC.out i hlt;cases hbo;have d0:=(hbel.cell (p:=⟨b,off+i*2,none⟩) hb).trans c0;have d1:=(hbel.cell (p:=⟨b,off+i*2+1,none⟩) hb).trans c1;obtain⟨ao2,c2',rfl,-⟩:=hat2.rows;have hb1:=hbel.alloc hbel.size (.cells #[.string ts[i].name,.slice ao2 ts[i].rels.length c2'] 95);have hat3:=hat2.up hb1;have HBT:=h! (Blk.made wr #[.string ts[i].name,.slice ao2 ts[i].rels.length c2'] 95);have hbx:=HBT.out.cells;have HB1:=h! hb1;clear c0 c1 hat2 hb1 hbel;have HI1:=h! hlt;have HQ2:=h! (hb2r.alloc hb2r.size (.cells #[.string ts[i].name,.slice ao2 ts[i].rels.length c2'] 95));clear hle hsl hb2r;generalize ts[i]=t at *;obtain⟨tn,rels⟩:=t;dsimp only at *;obtain⟨ao3,c3,hv3,hlc3,hcm3,hcell3⟩:=hat3.rows;injection hv3 with hv31 hv32 hv33
    subst hv31 hv33;have HC3:=h! hcell3;clear hcell3 hv32 hat3;by_cases hr16:rels.length<=16
    rotate_left
    ·have HF:=h! (HBAD.out (by unfold tyLong;simp[hr16]));have hrI:(16:Int)<rels.length:=by omega
     clear hr16;go_wp2_with fail
     go_ret
     exact⟨by rw[HF.out];rfl,HB1.out⟩
    have hrI:¬ ((16:Int)<rels.length):=by omega
    have HR16:=h! hr16;clear hr16;go_wp2_with fail
    obtain⟨wq,hwq⟩:∃ wq,wq=wr.alloc (.cells #[.string tn,.slice ao2 rels.length c2'] 95):=⟨_,rfl⟩;rw[<- hwq]at HB1 HC3 HQ2 ⊢;have HBQ:=h! HB1.out;clear hwq HB1 hbx d0 d1 hlt;go_loopw [46] (fun jj wr=>∃ j:Nat,j<=rels.length/\jj = .int .i64 j/\(∀ m (hm:m<rels.length),m<j->rels[m].2.sz<=32)/\Below wq.heap.size wq wr) (fun jj _=>rels.length-(intOf jj).toNat)
    case atStart=>exact⟨0,by omega,rfl,fun _ _ h=>absurd h (by omega),Below.refl _ _⟩
    case round =>
     obtain⟨j,hj,rfl,hall,hbq⟩:=hrel;have HALL2:=h! hall;clear hall;by_cases hlt:j<rels.length
     ·have HUP2:=h! (fun h=>upto_succ (p:=fun m hm=>rels[m].2.sz<=32) HALL2.out hlt h)
      have HBAD2:=h! (fun(h:¬ rels[j].2.sz<=32)=>HBAD.out (by
       unfold tyLong;rw[Bool.and_eq_false_iff];right
       exact List.all_eq_false.2 ⟨rels[j],List.getElem_mem hlt,by simpa using h⟩))
      have hle:=relW_le rels (j+1);rw[relW_take hlt]at hle;have hrw:=HRW.out;have hbel:=hbq;obtain⟨b,off,pv2,hbo,hb,c0,c1,c2,c3,c4,hat2⟩:=HC3.out j hlt;cases hbo;have d0:=(hbel.cell (p:=⟨b,off+j*5,none⟩) hb).trans c0;have d1:=(hbel.cell (p:=⟨b,off+j*5+1,none⟩) hb).trans c1;have d2:=(hbel.cell (p:=⟨b,off+j*5+2,none⟩) hb).trans c2;have d3:=(hbel.cell (p:=⟨b,off+j*5+3,none⟩) hb).trans c3;have d4:=(hbel.cell (p:=⟨b,off+j*5+4,none⟩) hb).trans c4;obtain⟨ao2,c2',rfl,-⟩:=hat2.rows;have hb1:=hbel.alloc hbel.size (.cells #[.string rels[j].1,.int .i64 rels[j].2.k,.string rels[j].2.a,.string rels[j].2.b,.slice ao2 rels[j].2.ps.length c2'] 100);have hat3:=hat2.up hb1;have HBK:=h! (Blk.made wr #[.string rels[j].1,.int .i64 rels[j].2.k,.string rels[j].2.a,.string rels[j].2.b,.slice ao2 rels[j].2.ps.length c2'] 100);have hbx:=HBK.out.cells;have HB1:=h! hb1;clear c0 c1 c2 c3 c4 hat2 hb1 hbel;generalize rels[j]=x at *;obtain⟨xn,p⟩:=x;dsimp only at *;have HR:=h! (size06_any p _ _ hat3 (by omega));unfold rV at HR;clear hat3 hle hrw;by_cases hs32:p.sz<=32
      ·have hsI:¬ ((32:Int)<p.sz):=by omega
       have HN:=h! (HUP2.out hs32);clear HUP2 HBAD2;go_wp2_with fail
       refine HR.out.mono ?_;rintro e w5 ⟨rfl,hb5⟩;have HB5:=h! (HB1.out.trans (hb5.mono HB1.out.size));clear HR hb5 hbx d0 d1 d2 d3 d4 HB1 HBK;go_wp2_with fail
       go_roundw
       case rel=>exact⟨j+1,by omega,by go_num,HN.out,HB5.out⟩
       case measure=>simp[intOf];omega
      ·have hsI:(32:Int)<p.sz:=by omega
       have HF:=h! (HBAD2.out hs32);clear HUP2 HBAD2;go_wp2_with fail
       refine HR.out.mono ?_;rintro e w5 ⟨rfl,hb5⟩;have HB5:=h! (HBQ.out.trans ((HB1.out.trans (hb5.mono HB1.out.size)).mono HBQ.out.size));clear HR hb5 hbx d0 d1 d2 d3 d4 HB1 HBK;go_wp2_with fail
       go_ret
       exact⟨by rw[HF.out];rfl,HB5.out⟩
     ·obtain rfl:j=rels.length:=by omega
      have HN:=h! (HUP.out (by
       unfold tyLong;rw[Bool.and_eq_true,decide_eq_true_eq];refine⟨HR16.out,List.all_eq_true.2 fun x hx=>?_⟩;obtain⟨m,hm,rfl⟩:=List.getElem_of_mem hx;exact decide_eq_true (HALL2.out m hm hm)))
      have HBE:=h! (HQ2.out.trans (hbq.mono HQ2.out.size));have hlt2:=HI1.out;clear hbq;go_wp2_with fail
      go_roundw
      case rel=>exact⟨i+1,by omega,by go_num,HN.out,HBE.out⟩
      case measure=>simp[intOf];omega
   ·obtain rfl:i=ts.length:=by omega
    have HG2:=h! (show g=if uniqOk ts then(if namesOk ts then 0 else 2)else 3 from by
     rw[HG1.out,if_pos];unfold longOk;rw[Bool.and_eq_true,decide_eq_true_eq];refine⟨HL16.out,List.all_eq_true.2 fun x hx=>?_⟩;obtain⟨m,hm,rfl⟩:=List.getElem_of_mem hx;exact HALL.out m hm hm)
    have hbk3:=(HS2.out.below hb2r).cells;have HB2R:=h! hb2r;clear hbel hb2r HALL;go_wp2_with fail
    clear hbk3;go_loopw [59] (fun ii wr=>∃ i:Nat,i<=ts.length/\ii = .int .i64 i/\(∀ j (hj:j<ts.length),j<i->freshT ts j/\((ts[j].rels.map (·.1)).Nodup))/\Below w2.heap.size w2 wr) (fun ii _=>ts.length-(intOf ii).toNat)
    case atStart=>exact⟨0,by omega,rfl,fun _ _ h=>absurd h (by omega),HB2R.out⟩
    case round =>
     obtain⟨i,hi,rfl,hall,hb2r⟩:=hrel;have HALL:=h! hall;have hbel:Below w.heap.size w wr:=HB2.out.trans (hb2r.mono HB2.out.size);clear hall HB2R;by_cases hlt:i<ts.length
     ·have HUP:=h! (fun h=>upto_succ (p:=fun j hj=>freshT ts j/\((ts[j].rels.map (·.1)).Nodup)) HALL.out hlt h);have HBAD:=h! (fun(h:¬ (freshT ts i/\((ts[i].rels.map (·.1)).Nodup)))=>(show g=3 from by rw[HG2.out,if_neg (fun hu=>h (uniq_at hu hlt))]));obtain⟨b,off,pv2,hbo,hb,c0,c1,hat2⟩:=HC.out i hlt;cases hbo;have d0:=(hbel.cell (p:=⟨b,off+i*2,none⟩) hb).trans c0;have d1:=(hbel.cell (p:=⟨b,off+i*2+1,none⟩) hb).trans c1;obtain⟨ao2,c2',rfl,-⟩:=hat2.rows;have hb1:=hbel.alloc hbel.size (.cells #[.string ts[i].name,.slice ao2 ts[i].rels.length c2'] 95);have hat3:=hat2.up hb1;have HBT:=h! (Blk.made wr #[.string ts[i].name,.slice ao2 ts[i].rels.length c2'] 95);have hbx:=HBT.out.cells;have HB1:=h! hb1;clear c0 c1 hat2 hb1 hbel;have HI1:=h! hlt;have HQ2:=h! (hb2r.alloc hb2r.size (.cells #[.string ts[i].name,.slice ao2 ts[i].rels.length c2'] 95));have hbs:=(HS2.out.below HQ2.out).cells;clear hb2r;generalize hti:ts[i]=t at *;have HTI:=h! hti;clear hti;obtain⟨tn,rels⟩:=t;dsimp only at *;obtain⟨ao3,c3,hv3,hlc3,hcm3,hcell3⟩:=hat3.rows;injection hv3 with hv31 hv32 hv33
      subst hv31 hv33;have HC3:=h! hcell3;have HBT0:=h! HBT.out;have HBQ:=h! HB1.out;have h0i:(0:Int)<=(i:Int):=by omega
      have hin:(i:Int)<=(ts.length:Int):=by omega
      clear hcell3 hv32 hat3 hlt;go_wp2_with fail
      clear hbx hbs d0 d1 HBT HB1 h0i hin;generalize wr.alloc (.cells #[.string tn,.slice ao2 rels.length c2'] 95)=wq at *;generalize wr.heap.size=bt at *;go_loopw [69] (fun mm wr=>∃ m:Nat,m<=i/\mm = .int .i64 m/\(∀ j (hj:j<ts.length),j<m->ts[j].name≠tn)/\Below wq.heap.size wq wr) (fun mm _=>i-(intOf mm).toNat)
      case atStart=>exact⟨0,by omega,rfl,fun _ _ h=>absurd h (by omega),Below.refl _ _⟩
      case round =>
       obtain⟨m,hm,rfl,hall,hbq⟩:=hrel;have HALL2:=h! hall;clear hall;by_cases hmi:m<i
       ·have hlt:m<ts.length:=Nat.lt_trans hmi HI1.out;have HUP2:=h! (fun h=>upto_succ (p:=fun j hj=>ts[j].name≠tn) HALL2.out hlt h);have HBAD2:=h! (fun(h:ts[m].name=tn)=>HBAD.out (fun hf=>hf.1 m hlt HI1.out hmi (h.trans (congrArg TyS.name HTI.out).symm)));have hbel:Below w.heap.size w wr:=HBQ.out.trans (hbq.mono HBQ.out.size);obtain⟨b,off,pv2,hbo,hb,c0,c1,hat2⟩:=HC.out m hlt;cases hbo;have d0:=(hbel.cell (p:=⟨b,off+m*2,none⟩) hb).trans c0;have d1:=(hbel.cell (p:=⟨b,off+m*2+1,none⟩) hb).trans c1;obtain⟨ao2,c2',rfl,-⟩:=hat2.rows;have hb1:=hbel.alloc hbel.size (.cells #[.string ts[m].name,.slice ao2 ts[m].rels.length c2'] 95);have hat3:=hat2.up hb1;have HBT:=h! (Blk.made wr #[.string ts[m].name,.slice ao2 ts[m].rels.length c2'] 95);have hbx:=HBT.out.cells;have HB1:=h! hb1;clear c0 c1 hat2 hb1 hbel;have HQ3:=h! (hbq.alloc hbq.size (.cells #[.string ts[m].name,.slice ao2 ts[m].rels.length c2'] 95));have hbt:=(HBT0.out.below HQ3.out).cells;clear hbq hat3;generalize ts[m]=u at *;obtain⟨un,urels⟩:=u;dsimp only at *;by_cases he:un=tn
        ·have HF:=h! (HBAD2.out he);subst he;clear HUP2 HBAD2;go_wp2_with fail
         go_ret
         exact⟨by rw[HF.out];rfl,HB1.out⟩
        ·have HN:=h! (HUP2.out he);have hne:=ba_beq' (fun h=>he h.symm);rw[<- ByteArray.toList_eq,<- ByteArray.toList_eq]at hne;clear HUP2 HBAD2 he;go_wp2_with fail
         go_roundw
         case rel=>exact⟨m+1,by omega,by go_num,HN.out,HQ3.out⟩
         case measure=>simp[intOf];omega
       ·obtain rfl:m=i:=by omega
        have HFR:=h! (show freshT ts m from fun j hj hm hjm he=>HALL2.out j hj hjm (he.trans (congrArg TyS.name HTI.out)));have hbt:=(HBT0.out.below hbq).cells;have HBQ5:=h! hbq;clear hbq HALL2;go_wp2_with fail
        clear hbt;go_loopw [82] (fun kk wr=>∃ k:Nat,k<=rels.length/\kk = .int .i64 k/\(∀ j (hj:j<rels.length),j<k->freshN rels j)/\Below wq.heap.size wq wr) (fun kk _=>rels.length-(intOf kk).toNat)
        case atStart=>exact⟨0,by omega,rfl,fun _ _ h=>absurd h (by omega),HBQ5.out⟩
        case round =>
         obtain⟨k,hk,rfl,hall,hbq⟩:=hrel;have HALL3:=h! hall;clear hall HBQ5;by_cases hlt:k<rels.length
         ·have HUP3:=h! (fun h=>upto_succ (p:=fun j hj=>freshN rels j) HALL3.out hlt h);have HBAD3:=h! (fun(h:¬ freshN rels k)=>HBAD.out (fun hf=>h (fresh_of hf.2 k)));have hbel:=hbq;obtain⟨b,off,pv2,hbo,hb,c0,c1,c2,c3,c4,hat2⟩:=HC3.out k hlt;cases hbo;have d0:=(hbel.cell (p:=⟨b,off+k*5,none⟩) hb).trans c0;have d1:=(hbel.cell (p:=⟨b,off+k*5+1,none⟩) hb).trans c1;have d2:=(hbel.cell (p:=⟨b,off+k*5+2,none⟩) hb).trans c2;have d3:=(hbel.cell (p:=⟨b,off+k*5+3,none⟩) hb).trans c3;have d4:=(hbel.cell (p:=⟨b,off+k*5+4,none⟩) hb).trans c4;obtain⟨ao2,c2',rfl,-⟩:=hat2.rows;have hb1:=hbel.alloc hbel.size (.cells #[.string rels[k].1,.int .i64 rels[k].2.k,.string rels[k].2.a,.string rels[k].2.b,.slice ao2 rels[k].2.ps.length c2'] 100);have hat3:=hat2.up hb1;have HBK:=h! (Blk.made wr #[.string rels[k].1,.int .i64 rels[k].2.k,.string rels[k].2.a,.string rels[k].2.b,.slice ao2 rels[k].2.ps.length c2'] 100);have hbx:=HBK.out.cells;have HB1:=h! hb1;clear c0 c1 c2 c3 c4 hat2 hb1 hbel;have hbt:=(HBT0.out.below HB1.out).cells;have HBK0:=h! HBK.out;have HBK1:=h! HB1.out;have HK1:=h! hlt;have h0k:(0:Int)<=(k:Int):=by omega
          have hkn:(k:Int)<=(rels.length:Int):=by omega
          clear hbq hat3;generalize hrk:rels[k]=x at *;have HRK:=h! hrk;clear hrk hlt;obtain⟨xn,p⟩:=x;dsimp only at *;go_wp2_with fail
          clear hbx hbt d0 d1 d2 d3 d4 HBK HB1 h0k hkn;generalize wr.alloc (.cells #[.string xn,.int .i64 p.k,.string p.a,.string p.b,.slice ao2 p.ps.length c2'] 100)=wk at *;generalize wr.heap.size=bk at *;go_loopw [92] (fun qq wr=>∃ q:Nat,q<=k/\qq = .int .i64 q/\(∀ j (hj:j<rels.length),j<q->rels[j].1≠xn)/\Below wk.heap.size wk wr) (fun qq _=>k-(intOf qq).toNat)
          case atStart=>exact⟨0,by omega,rfl,fun _ _ h=>absurd h (by omega),Below.refl _ _⟩
          case round =>
           obtain⟨q,hq,rfl,hall,hbk⟩:=hrel;have HALL4:=h! hall;clear hall;by_cases hqk:q<k
           ·have hlt:q<rels.length:=Nat.lt_trans hqk HK1.out;have HUP4:=h! (fun h=>upto_succ (p:=fun j hj=>rels[j].1≠xn) HALL4.out hlt h);have HBAD4:=h! (fun(h:rels[q].1=xn)=>HBAD3.out (fun hf=>hf q hlt HK1.out hqk (h.trans (congrArg Prod.fst HRK.out).symm)));have hbel:Below wq.heap.size wq wr:=HBK1.out.trans (hbk.mono HBK1.out.size);obtain⟨b,off,pv2,hbo,hb,c0,c1,c2,c3,c4,hat2⟩:=HC3.out q hlt;cases hbo;have d0:=(hbel.cell (p:=⟨b,off+q*5,none⟩) hb).trans c0;have d1:=(hbel.cell (p:=⟨b,off+q*5+1,none⟩) hb).trans c1;have d2:=(hbel.cell (p:=⟨b,off+q*5+2,none⟩) hb).trans c2;have d3:=(hbel.cell (p:=⟨b,off+q*5+3,none⟩) hb).trans c3;have d4:=(hbel.cell (p:=⟨b,off+q*5+4,none⟩) hb).trans c4;obtain⟨ao2,c2',rfl,-⟩:=hat2.rows;have hb1:=hbel.alloc hbel.size (.cells #[.string rels[q].1,.int .i64 rels[q].2.k,.string rels[q].2.a,.string rels[q].2.b,.slice ao2 rels[q].2.ps.length c2'] 100);have hat3:=hat2.up hb1;have HBK:=h! (Blk.made wr #[.string rels[q].1,.int .i64 rels[q].2.k,.string rels[q].2.a,.string rels[q].2.b,.slice ao2 rels[q].2.ps.length c2'] 100);have hbx:=HBK.out.cells;have HB1:=h! hb1;clear c0 c1 c2 c3 c4 hat2 hb1 hbel;have HQ5:=h! (hbk.alloc hbk.size (.cells #[.string rels[q].1,.int .i64 rels[q].2.k,.string rels[q].2.a,.string rels[q].2.b,.slice ao2 rels[q].2.ps.length c2'] 100));have hbt:=(HBK0.out.below HQ5.out).cells;have HBE:=h! (HBQ.out.trans (HB1.out.mono HBQ.out.size));clear hbk hat3;generalize rels[q]=y at *;obtain⟨yn,p2⟩:=y;dsimp only at *;by_cases he:yn=xn
            ·have HF:=h! (HBAD4.out he);subst he;clear HUP4 HBAD4;go_wp2_with fail
             go_ret
             exact⟨by rw[HF.out];rfl,HBE.out⟩
            ·have HN:=h! (HUP4.out he);have hne:=ba_beq' (fun h=>he h.symm);rw[<- ByteArray.toList_eq,<- ByteArray.toList_eq]at hne;clear HUP4 HBAD4 he;go_wp2_with fail
             go_roundw
             case rel=>exact⟨q+1,by omega,by go_num,HN.out,HQ5.out⟩
             case measure=>simp[intOf];omega
           ·obtain rfl:q=k:=by omega
            have HN:=h! (HUP3.out (fun j hj hq hjq he=>HALL4.out j hj hjq (he.trans (congrArg Prod.fst HRK.out))));have HBE:=h! (HBK1.out.trans (hbk.mono HBK1.out.size));have hlt2:=HK1.out;clear hbk;go_wp2_with fail
            go_roundw
            case rel=>exact⟨q+1,by omega,by go_num,HN.out,HBE.out⟩
            case measure=>simp[intOf];omega
         ·obtain rfl:k=rels.length:=by omega
          have HN:=h! (HUP.out ⟨HFR.out,nodup_of fun j hj=>HALL3.out j hj hj⟩);have HBE:=h! (HQ2.out.trans (hbq.mono HQ2.out.size));have hlt2:=HI1.out;clear hbq;go_wp2_with fail
          go_roundw
          case rel=>exact⟨m+1,by omega,by go_num,HN.out,HBE.out⟩
          case measure=>simp[intOf];omega
     ·obtain rfl:i=ts.length:=by omega
      have HG3:=h! (show g=if namesOk ts then 0 else 2 from by rw[HG2.out,if_pos (uniq_of fun j hj=>HALL.out j hj hj)]);have hbk4:=(HS2.out.below hb2r).cells;have HB2R:=h! hb2r;clear hbel hb2r HALL;go_wp2_with fail
      clear hbk4;go_loopw [107] (fun ii wr=>∃ i:Nat,i<=ts.length/\ii = .int .i64 i/\(∀ j (hj:j<ts.length),j<i->(ts[j].rels.all fun r=>r.2.named ts ts[j])=true)/\Below w2.heap.size w2 wr) (fun ii _=>ts.length-(intOf ii).toNat)
      case atStart=>exact⟨0,by omega,rfl,fun _ _ h=>absurd h (by omega),HB2R.out⟩
      case round =>
       obtain⟨i,hi,rfl,hall,hb2r⟩:=hrel;have HALL:=h! hall;have hbel:Below w.heap.size w wr:=HB2.out.trans (hb2r.mono HB2.out.size);clear hall HB2R;by_cases hlt:i<ts.length
       ·have HUP:=h! (fun h=>upto_succ (p:=fun j hj=>(ts[j].rels.all fun r=>r.2.named ts ts[j])=true) HALL.out hlt h)
        have HBAD:=h! (fun(h:(ts[i].rels.all fun r=>r.2.named ts ts[i])=false)=>(show g=2 from by
         rw[HG3.out,if_neg];intro h2;unfold namesOk at h2;rw[List.all_eq_true.1 h2 _ (List.getElem_mem hlt)]at h;cases h))
        obtain⟨b,off,pv2,hbo,hb,c0,c1,hat2⟩:=HC.out i hlt;cases hbo;have d0:=(hbel.cell (p:=⟨b,off+i*2,none⟩) hb).trans c0;have d1:=(hbel.cell (p:=⟨b,off+i*2+1,none⟩) hb).trans c1;obtain⟨ao2,c2',rfl,-⟩:=hat2.rows;have hb1:=hbel.alloc hbel.size (.cells #[.string ts[i].name,.slice ao2 ts[i].rels.length c2'] 95);have hat3:=hat2.up hb1;have HBT:=h! (Blk.made wr #[.string ts[i].name,.slice ao2 ts[i].rels.length c2'] 95);have hbx:=HBT.out.cells;have HB1:=h! hb1;clear c0 c1 hat2 hb1 hbel;have HI1:=h! hlt;have HQ2:=h! (hb2r.alloc hb2r.size (.cells #[.string ts[i].name,.slice ao2 ts[i].rels.length c2'] 95));have HRE:=h! hat3;clear hb2r;generalize ts[i]=t at *;obtain⟨tn,rels⟩:=t;dsimp only at *;obtain⟨ao3,c3,hv3,hlc3,hcm3,hcell3⟩:=hat3.rows;injection hv3 with hv31 hv32 hv33
        subst hv31 hv33;have HC3:=h! hcell3;have HBT0:=h! HBT.out;have HBQ:=h! HB1.out;clear hcell3 hv32 hat3;go_wp2_with fail
        clear hbx d0 d1 HBT HB1 hlt;generalize wr.alloc (.cells #[.string tn,.slice ao2 rels.length c2'] 95)=wq at *;generalize wr.heap.size=bt at *;go_loopw [114] (fun jj wr=>∃ j:Nat,j<=rels.length/\jj = .int .i64 j/\(∀ m (hm:m<rels.length),m<j->rels[m].2.named ts ⟨tn,rels⟩=true)/\Below wq.heap.size wq wr) (fun jj _=>rels.length-(intOf jj).toNat)
        case atStart=>exact⟨0,by omega,rfl,fun _ _ h=>absurd h (by omega),Below.refl _ _⟩
        case round =>
         obtain⟨j,hj,rfl,hall,hbq⟩:=hrel;have HALL2:=h! hall;clear hall;by_cases hlt:j<rels.length
         ·have HUP2:=h! (fun h=>upto_succ (p:=fun m hm=>rels[m].2.named ts ⟨tn,rels⟩=true) HALL2.out hlt h);have HBAD2:=h! (fun(h:rels[j].2.named ts ⟨tn,rels⟩=false)=>HBAD.out (List.all_eq_false.2 ⟨rels[j],List.getElem_mem hlt,by rw[h];exact Bool.false_ne_true⟩));have hbel:=hbq;obtain⟨b,off,pv2,hbo,hb,c0,c1,c2,c3,c4,hat2⟩:=HC3.out j hlt;cases hbo;have d0:=(hbel.cell (p:=⟨b,off+j*5,none⟩) hb).trans c0;have d1:=(hbel.cell (p:=⟨b,off+j*5+1,none⟩) hb).trans c1;have d2:=(hbel.cell (p:=⟨b,off+j*5+2,none⟩) hb).trans c2;have d3:=(hbel.cell (p:=⟨b,off+j*5+3,none⟩) hb).trans c3;have d4:=(hbel.cell (p:=⟨b,off+j*5+4,none⟩) hb).trans c4;obtain⟨ao2,c2',rfl,-⟩:=hat2.rows;have hb1:=hbel.alloc hbel.size (.cells #[.string rels[j].1,.int .i64 rels[j].2.k,.string rels[j].2.a,.string rels[j].2.b,.slice ao2 rels[j].2.ps.length c2'] 100);have hat3:=hat2.up hb1;have HBK:=h! (Blk.made wr #[.string rels[j].1,.int .i64 rels[j].2.k,.string rels[j].2.a,.string rels[j].2.b,.slice ao2 rels[j].2.ps.length c2'] 100);have hbx:=HBK.out.cells;have HB1:=h! hb1;clear c0 c1 c2 c3 c4 hat2 hb1 hbel;have HQ3:=h! (HQ2.out.trans (HB1.out.mono HQ2.out.size));have hbs:=(HS2.out.below HQ3.out).cells;have hbt:=(HBT0.out.below HB1.out).cells;have HBW:=h! (HBQ.out.trans (HB1.out.mono HBQ.out.size));generalize rels[j]=x at *;obtain⟨xn,p⟩:=x;dsimp only at *;have HR:=h! (named06_any ts ⟨tn,rels⟩ _ _ p _ _ (HTS.out.up HBW.out) (HRE.out.up HB1.out) hat3);unfold rV at HR;clear hat3 hbq;cases hn:p.named ts ⟨tn,rels⟩ with
          | true =>
           rw[hn]at HR;have HN:=h! (HUP2.out hn);clear HUP2 HBAD2 hn;go_wp2_with fail
           refine HR.out.mono ?_;rintro e w5 ⟨rfl,hb5⟩;have HB5:=h! (HB1.out.trans (hb5.mono HB1.out.size));clear HR hb5 hbx hbs hbt d0 d1 d2 d3 d4 HB1 HBK;go_wp2_with fail
           go_roundw
           case rel=>exact⟨j+1,by omega,by go_num,HN.out,HB5.out⟩
           case measure=>simp[intOf];omega
          | false =>
           rw[hn]at HR;have HF:=h! (HBAD2.out hn);clear HUP2 HBAD2 hn;go_wp2_with fail
           refine HR.out.mono ?_;rintro e w5 ⟨rfl,hb5⟩;have HB5:=h! (HBW.out.trans (hb5.mono HBW.out.size));clear HR hb5 hbx hbs hbt d0 d1 d2 d3 d4 HB1 HBK;go_wp2_with fail
           go_ret
           exact⟨by rw[HF.out];rfl,HB5.out⟩
         ·obtain rfl:j=rels.length:=by omega
          have HN:=h! (HUP.out (List.all_eq_true.2 fun x hx=>by
           obtain⟨m,hm,rfl⟩:=List.getElem_of_mem hx;exact HALL2.out m hm hm))
          have HBE:=h! (HQ2.out.trans (hbq.mono HQ2.out.size));have hlt2:=HI1.out;clear hbq;go_wp2_with fail
          go_roundw
          case rel=>exact⟨i+1,by omega,by go_num,HN.out,HBE.out⟩
          case measure=>simp[intOf];omega
       ·obtain rfl:i=ts.length:=by omega
        have HF:=h! (show g=0 from by
         rw[HG3.out,if_pos];unfold namesOk;rw[List.all_eq_true];intro x hx;obtain⟨m,hm,rfl⟩:=List.getElem_of_mem hx;exact HALL.out m hm hm)
        have HBE:=h! hbel;clear hbel hb2r;go_wp2_with fail
        go_ret
        exact⟨by rw[HF.out];rfl,HBE.out⟩
end Go.Proofs.YtjdigpfipmckhaaGreat
namespace Go.Proofs.YtjdigpfipmckhaaGreat
open Go Go.RowKit Go.Maps
abbrev RV:=RT × Value
def rvV (x:RV):Value:=rV x.1 x.2
abbrev WV:=List ByteArray × Value
def wvV (x:WV):Value:=x.2
def txs (l:List ByteArray):List Value:=l.map Value.string
theorem txs_one (l:List ByteArray):∀ u∈txs l,u.oneCell'=true:=by
 intro u hu;obtain⟨s,_,rfl⟩:=List.mem_map.1 hu;rfl
theorem txs_length (l:List ByteArray):(txs l).length=l.length:=by simp[txs]
theorem txs_append (a b:List ByteArray):txs (a++b)=txs a++txs b:=by simp[txs]
theorem textsT:ElemT Tryz.prog 108 9 1 16:=ElemT.mk' Tryz.underlying108 (show _=some (some (.string ByteArray.empty),1,16)by kernel_rfl) rfl (by decide)
def relsOf (n:ByteArray)(l:List (ByteArray × RT)):List (R2 × RT):=l.map fun r=>(⟨n,r.1⟩,r.2)
def refsOf (ts:List TyS):List (R2 × RT):=ts.flatMap fun t=>relsOf t.name t.rels
def whereP (P:List (R2 × RT))(n:ByteArray):List ByteArray:=(P.filter fun x=>decide (x.1.r=n)).map (·.1.t)
def optL (l:List ByteArray):Option (List ByteArray):=if l=[]then none else some l
theorem whereP_snoc (P:List (R2 × RT))(x:R2 × RT)(n:ByteArray):whereP (P++[x]) n=if x.1.r=n then whereP P n++[x.1.t]else whereP P n:=by
 unfold whereP;rw[List.filter_append,List.map_append];by_cases h:x.1.r=n
 ·simp[h]
 ·simp[h]
theorem refsOf_append (a b:List TyS):refsOf (a++b)=refsOf a++refsOf b:=List.flatMap_append
theorem refsOf_take {l:List TyS} {i:Nat} (hi:i<l.length):refsOf (l.take (i+1))=refsOf (l.take i)++relsOf l[i].name l[i].rels:=by
 rw[List.take_succ_eq_append_getElem hi,refsOf_append];simp[refsOf]
theorem relsOf_take {n:ByteArray} {l:List (ByteArray × RT)} {i:Nat} (hi:i<l.length):relsOf n (l.take (i+1))=relsOf n (l.take i)++[(⟨n,l[i].1⟩,l[i].2)]:=by
 rw[List.take_succ_eq_append_getElem hi];simp only[relsOf,List.map_append,List.map_cons,List.map_nil]
structure WhRows (w:World)(B:Nat)(lw:List (ByteArray × WV)):Prop where
 rows:∀ x∈lw,x.2.1≠[]/\Own w B 9 1 x.2.2 (txs x.2.1)
 apart:∀ x∈lw,∀ y∈lw,x.1≠y.1->x.2.2.ownBlock≠y.2.2.ownBlock
def BkR (S:Nat->Prop)(w:World)(b1:Nat)(P:List (R2 × RT)):Prop :=
 ∃ lr:List (R2 × RV),Mp Tryz.prog 102 r2V rvV w b1 lr/\lr.map (fun x=>(x.1,x.2.1))=P/\∀ x∈lr,RTAt S w x.2.1 x.2.2
def BkW (w:World)(B b3:Nat)(P:List (R2 × RT)):Prop :=
 ∃ lw:List (ByteArray × WV),Mp Tryz.prog 9 Value.string wvV w b3 lw/\WhRows w B lw/\∀ n,(lookA lw n).map (·.1)=optL (whereP P n)
theorem Own.notMap {w:World} {B:Nat} {e:TypeId} {sz:Nat} {v:Value} {xs:List Value} (h:Own w B e sz v xs) {b:Nat} (hb:∀ cs t fr,w.heap[b]?≠some (.cells cs t fr)):∀ g,v.ownBlock=some g->g≠b:=by
 intro g hg he;obtain⟨n,h⟩:=h;rcases h.2 with⟨rfl,_⟩ | ⟨g',cap,cur,rfl,hbg,hg',r⟩
 ·cases hg
 ·injection hg with hg
  subst hg he;exact hb _ _ _ hg'
theorem Mp.notCells {P:Program} {k:TypeId} {κ α:Type} {kv:κ->Value} {ev:α->Value} {w:World} {b:Nat} {l:List (κ × α)} (h:Mp P k kv ev w b l):∀ cs t fr,w.heap[b]?≠some (.cells cs t fr):=by
 obtain⟨es,clock,hb,_⟩:=h;intro cs t fr h;rw[hb]at h;cases h
theorem own_some {w:World} {B:Nat} {e:TypeId} {v:Value} {l:List ByteArray} (h:Own w B e 1 v (txs l))(hl:l≠[]):∃ g,v.ownBlock=some g:=by
 obtain⟨n,h⟩:=h;rcases h.2 with⟨rfl,rfl⟩ | ⟨g',cap,cur,rfl,hbg,hg',r⟩
 ·have:=h.1;rw[txs_length]at this;exact absurd (List.eq_nil_of_length_eq_zero (by omega)) hl
 ·exact⟨g',rfl⟩
theorem WhRows.keep {w w':World} {B:Nat} {lw:List (ByteArray × WV)} (h:WhRows w B lw)(hs:∀ x,B<=x->x<w.heap.size->(∃ cs,w.heap[x]?=some (.cells cs 9 (0,0)))->w'.heap[x]?=w.heap[x]?):WhRows w' B lw :=
 ⟨fun x hx=>⟨(h.rows x hx).1,(h.rows x hx).2.keepB fun g hg=>by
  have ho:=(h.rows x hx).2;have hb:=ho.block g hg;refine hs g hb.1 hb.2 ?_;obtain⟨n,ho⟩:=ho;rcases ho.2 with⟨h0,_⟩ | ⟨g',cap,cur,h0,hbg,hg',r⟩
  ·rw[h0]at hg;cases hg
  ·rw[h0]at hg;injection hg with hg
   subst hg;exact⟨_,hg'⟩⟩,h.apart⟩
theorem put_mem {κ α:Type} [DecidableEq κ] (a:κ)(y:α)(x:κ × α):∀ {l:List (κ × α)},(l.map (·.1)).Nodup->x∈putA l a y->x=(a,y)\/(x∈l/\x.1≠a)
 | [],_,h=>by simp[putA]at h;exact .inl h
 | p::r,hn,h=>by
  simp only[List.map_cons,List.nodup_cons]at hn;unfold putA at h;split at h
  ·rename_i e
   rcases List.mem_cons.1 h with h | h
   ·exact .inl h
   ·exact .inr ⟨by simp[h],fun e2=>hn.1 (by rw[e,<- e2];exact List.mem_map.2 ⟨x,h,rfl⟩)⟩
  ·rename_i e
   rcases List.mem_cons.1 h with h | h
   ·exact .inr ⟨by simp[h],h▸e⟩
   ·rcases put_mem a y x hn.2 h with h | h
    ·exact .inl h
    ·exact .inr ⟨by simp[h.1],h.2⟩
theorem WhRows.put {w w1 w2 w3:World} {B b3:Nat} {lw:List (ByteArray × WV)} (h:WhRows w B lw) {n:ByteArray} {names:List ByteArray} {v v':Value} (hl:(lookA lw n=some (names,v))\/(lookA lw n=none/\names=[]/\v = .slice none 0 0))
  (h1:Below w.heap.size w w1) (h2:w1.grownBy w2 v.ownBlock) {tn:ByteArray} (ho:Own w2 B 9 1 v' (txs (names++[tn]))) (hw:∀ g,v'.ownBlock=some g->v.ownBlock=some g\/w1.heap.size<=g)
  (hm:Mp Tryz.prog 9 Value.string wvV w b3 lw) (hm2:Mp Tryz.prog 9 Value.string wvV w2 b3 lw) (ht:Turned w2 w3 b3):WhRows w3 B (putA lw n (names++[tn],v')):=by
 have hnd:=hm.nodup
 have old:∀ x∈lw,x.1≠n->∀ g,x.2.2.ownBlock=some g->v.ownBlock≠some g:=fun x hx hne g hg e=>by
  rcases hl with hl | ⟨_,_,rfl⟩
  ·exact h.apart x hx _ (look_mem hl) hne (hg.trans e.symm)
  ·cases e
 have lt:∀ x∈lw,∀ g,x.2.2.ownBlock=some g->g<w.heap.size:=fun x hx g hg=>((h.rows x hx).2.block g hg).2;refine⟨fun x hx=>?_,fun x hx y hy hne=>?_⟩
 ·rcases put_mem _ _ _ hnd hx with rfl | ⟨hx,hxn⟩
  ·exact⟨by simp,ho.keepB fun g hg=>ht.kept.block g (ho.notMap hm2.notCells g hg)⟩
  ·have hr:=(h.rows x hx).2;have hr1:=hr.below h1;refine⟨(h.rows x hx).1,hr1.keepB fun g hg=>?_⟩;have hg1:=lt x hx g hg;have hs1:=h1.size;refine(ht.kept.block g ?_).trans (h2.block g (by omega) fun e=>old x hx hxn g hg e.symm);intro e;subst e;exact hr.notMap hm.notCells g hg rfl
 ·rcases put_mem _ _ _ hnd hx with rfl | ⟨hx,hxn⟩ <;> rcases put_mem _ _ _ hnd hy with rfl | ⟨hy,hyn⟩
  ·exact absurd rfl hne
  ·intro e;obtain⟨g,hg⟩:=own_some ho (by simp);have hg2:y.2.2.ownBlock=some g:=e.symm.trans hg;rcases hw g hg with h3 | h3
   ·exact old y hy hyn g hg2 h3
   ·have:=lt y hy g hg2;have:=h1.size;omega
  ·intro e;obtain⟨g,hg⟩:=own_some ho (by simp);have hg2:x.2.2.ownBlock=some g:=e.trans hg;rcases hw g hg with h3 | h3
   ·exact old x hx hxn g hg2 h3
   ·have:=lt x hx g hg2;have:=h1.size;omega
  ·exact h.apart x hx y hy hne
section
variable {S : Nat -> Prop} {w w' : World} {B b1 b3 : Nat} {P : List (R2 × RT)}
theorem BkR.lt (h:BkR S w b1 P):b1<w.heap.size:=by
 obtain⟨lr,h1,_⟩:=h;exact h1.lt
theorem BkR.notCells (h:BkR S w b1 P):∀ cs t fr,w.heap[b1]?≠some (.cells cs t fr):=by
 obtain⟨lr,h1,_⟩:=h;exact h1.notCells
theorem BkR.same (h:BkR S w b1 P)(hb:w'.heap[b1]?=w.heap[b1]?)(hs:Same S w w'):BkR S w' b1 P:=by
 obtain⟨lr,h1,h2,h3⟩:=h;exact⟨lr,h1.same hb,h2,fun x hx=>(h3 x hx).same hs⟩
theorem BkR.up (h:BkR (· < w.heap.size) w b1 P)(hb:Below w.heap.size w w'):BkR (· < w'.heap.size) w' b1 P:=by
 obtain⟨lr,h1,h2,h3⟩:=h;exact⟨lr,h1.below hb,h2,fun x hx=>(h3 x hx).up hb⟩
theorem BkW.lt (h:BkW w B b3 P):b3<w.heap.size:=by
 obtain⟨lw,h1,_⟩:=h;exact h1.lt
theorem BkW.notCells (h:BkW w B b3 P):∀ cs t fr,w.heap[b3]?≠some (.cells cs t fr):=by
 obtain⟨lw,h1,_⟩:=h;exact h1.notCells
theorem BkW.keep (h:BkW w B b3 P)(hb:w'.heap[b3]?=w.heap[b3]?)(hs:∀ x,B<=x->x<w.heap.size->(∃ cs,w.heap[x]?=some (.cells cs 9 (0,0)))->w'.heap[x]?=w.heap[x]?):BkW w' B b3 P:=by
 obtain⟨lw,h1,h2,h3⟩:=h;exact⟨lw,h1.same hb,h2.keep hs,h3⟩
theorem BkW.up (h:BkW w B b3 P)(hb:Below w.heap.size w w'):BkW w' B b3 P:=h.keep (hb.block _ h.lt) fun x _ hx _=>hb.block x hx
theorem BkW.turned (h:BkW w B b3 P) {b:Nat} (ht:Turned w w' b)(hb:b3≠b)(hc:∀ cs t fr,w.heap[b]?≠some (.cells cs t fr)):BkW w' B b3 P :=
 h.keep (ht.kept.block _ hb) fun x _ _ hx=>ht.kept.block x fun e=>by
  obtain⟨cs,hx⟩:=hx;exact hc _ _ _ (e▸hx)
theorem pairs_look {α β:Type} {f:α->β} {k:R2}:∀ {l:List (R2 × α)} {P:List (R2 × β)},l.map (fun x=>(x.1,f x.2))=P->(lookA l k).map f=lookA P k
 | [],P,h=>by subst h;rfl
 | x::l,P,h=>by
  subst h;simp only[List.map_cons,lookA];split
  ·rfl
  ·exact pairs_look rfl
theorem BkR.look (h:BkR S w b1 P)(k:R2)(hk:k.Ok):∃ z:RV,(Instr.lookup 180 (.map (some b1)) (r2V k) true).run Tryz.prog w = .ok (.tuple #[rvV z,.bool (lookA P k).isSome]) w/\RTAt S w z.1 z.2/\(∀ r,lookA P k=some r->z.1=r)/\(lookA P k=none->z=(.mk 0 ByteArray.empty ByteArray.empty [],.slice none 0 0)):=by
 obtain⟨lr,h1,h2,h3⟩:=h;have hl:=pairs_look (f:=fun x:RV=>x.1) (k:=k) h2;have hrun:=h1.look refK r2V_inj Tryz.underlying180 (Tryz.zeroValue98 w) true (ref_key k hk);cases hlk:lookA lr k with
 | none =>
  rw[hlk]at hl hrun;refine⟨(.mk 0 ByteArray.empty ByteArray.empty [],.slice none 0 0),?_,?_,?_,fun _=>rfl⟩
  ·rw[hrun,<- hl];rfl
  ·exact(RTAt.iff _ _).2 ⟨[],rfl,by simp,Sl.nil _ _ _⟩
  ·intro r hr;rw[<- hl]at hr;cases hr
 | some x =>
  rw[hlk]at hl hrun;refine⟨x,?_,h3 _ (look_mem hlk),?_,?_⟩
  ·rw[hrun,<- hl];rfl
  ·intro r hr;rw[<- hl]at hr;injection hr
  ·intro hr;rw[<- hl]at hr;cases hr
theorem BkR.store (h:BkR S w b1 P) {k:R2} (hk:k.Ok) {r:RT} {pv:Value} (hr:RTAt S w r pv)(hS:∀ x,S x->x≠b1)(hn:lookA P k=none) :
  ∃ w',(Instr.mapUpdate 180 (.map (some b1)) (r2V k) (rV r pv)).run Tryz.prog w = .ok () w'/\BkR S w' b1 (P++[(k,r)])/\Turned w w' b1:=by
 obtain⟨lr,h1,h2,h3⟩:=h;obtain⟨w',hrun,hM,hT⟩:=h1.store refK r2V_inj Tryz.underlying180 (ref_key k hk) ((r,pv):RV);have hl:=pairs_look (f:=fun x:RV=>x.1) (k:=k) h2;rw[hn]at hl;have hln:lookA lr k=none:=by cases hlk:lookA lr k with | none=>rfl | some x=>rw[hlk]at hl;cases hl
 rw[put_miss (look_none_iff.1 hln)]at hM;refine⟨w',hrun,⟨_,hM,by rw[List.map_append,h2];rfl,fun x hx=>?_⟩,hT⟩;have hs:Same S w w':=fun x hx=>hT.kept.block x (hS x hx);rcases List.mem_append.1 hx with hx | hx
 ·exact(h3 x hx).same hs
 ·obtain rfl:=List.mem_singleton.1 hx;exact hr.same hs
theorem BkW.look (h:BkW w B b3 P)(n:ByteArray)(hn:n.size<=maxLen):∃ v,(Instr.lookup 182 (.map (some b3)) (.string n) false).run Tryz.prog w = .ok v w/\Own w B 9 1 v (txs (whereP P n))/\∃ lw,Mp Tryz.prog 9 Value.string wvV w b3 lw/\WhRows w B lw/\(∀ n,(lookA lw n).map (·.1)=optL (whereP P n))/\(lookA lw n=some (whereP P n,v)\/(lookA lw n=none/\whereP P n=[]/\v = .slice none 0 0)):=by
 obtain⟨lw,h1,h2,h3⟩:=h;have hl:=h3 n;have hrun:=h1.look strK strV_inj Tryz.underlying182 (Tryz.zeroValue108 w) false (str_key n hn);cases hlk:lookA lw n with
 | none =>
  rw[hlk]at hl hrun
  have hw:whereP P n=[]:=by
   unfold optL at hl;split at hl
   ·assumption
   ·cases hl
  exact⟨.slice none 0 0,hrun,by rw[hw];exact Own.nil _ _ _ _,lw,h1,h2,h3,.inr ⟨hlk,hw,rfl⟩⟩
 | some x =>
  rw[hlk]at hl hrun
  have hw:x.1=whereP P n:=by
   unfold optL at hl;split at hl
   ·cases hl
   ·injection hl
  have hm:=h2.rows _ (look_mem hlk);refine⟨x.2,hrun,by rw[<- hw];exact hm.2,lw,h1,h2,h3,.inl ?_⟩;rw[hlk,<- hw]
theorem BkW.put {w1 w2:World} {lw:List (ByteArray × WV)} {k:R2} {r:RT} {v v':Value} (hM:Mp Tryz.prog 9 Value.string wvV w b3 lw)(hR:WhRows w B lw)(hL:∀ n,(lookA lw n).map (·.1)=optL (whereP P n))
  (hl:lookA lw k.r=some (whereP P k.r,v)\/(lookA lw k.r=none/\whereP P k.r=[]/\v = .slice none 0 0)) (h1:Below w.heap.size w w1) (h2:w1.grownBy w2 v.ownBlock) (ho0:Own w B 9 1 v (txs (whereP P k.r))) (ho:Own w2 B 9 1 v' (txs (whereP P k.r++[k.t])))
  (hw:∀ g,v'.ownBlock=some g->v.ownBlock=some g\/w1.heap.size<=g) (hk:k.r.size<=maxLen) :
  ∃ w',(Instr.mapUpdate 182 (.map (some b3)) (.string k.r) v').run Tryz.prog w2 = .ok () w'/\BkW w' B b3 (P++[(k,r)])/\Turned w2 w' b3:=by
 have hm1:=hM.below h1;have hm2:Mp Tryz.prog 9 Value.string wvV w2 b3 lw:=hm1.same (h2.block b3 hm1.lt (fun e=>((ho0.below h1).notMap hm1.notCells) b3 e.symm rfl));obtain⟨w',hrun,hM',hT⟩:=hm2.store strK strV_inj Tryz.underlying182 (str_key k.r hk) ((whereP P k.r++[k.t],v'):WV);refine⟨w',hrun,⟨_,hM',hR.put (names:=whereP P k.r) (v:=v) ?_ h1 h2 ho hw hM hm2 hT,fun n=>?_⟩,hT⟩
 ·rcases hl with hl | ⟨h3,h4,h5⟩
  ·exact .inl hl
  ·exact .inr ⟨h3,h4,h5⟩
 ·rw[look_put,whereP_snoc];by_cases e:k.r=n
  ·rw[if_pos e,if_pos e];subst e;unfold optL;rw[if_neg (by simp)];rfl
  ·rw[if_neg e,if_neg e];exact hL n
end
end Go.Proofs.YtjdigpfipmckhaaGreat
