/- Lemmas for the claim, no condition. -/
import Derived.Test.YtlhaghoajpglaaaGreatYBuMany2
import Derived.Test.YtlhaghoajpglaaaGreatYBuMany1
import Derived.Test.YtlhaghoajpglaaaGreatYBuMany0
set_option maxRecDepth 100000
set_option maxHeartbeats 8000000
namespace Go.Proofs.YtlhaghoajpglaaaGreat
open Go Go.RowKit
def relOk (x:ByteArray × RT):Bool:=x.2.textOk 0&&ownB x.1&&decide (x.1≠⟨#[116,121,112,101]⟩)
def tyOk (t:TyS):Bool:=ownB t.name&&t.rels.all relOk
def prN (b:Bool):Int:=if b then 0 else 9
def printOk (ts:List TyS):Bool:=ts.all tyOk
def relW:List (ByteArray × RT)->Nat | []=>0 | x::l=>40+80*x.2.sz+relW l
def schW:List TyS->Nat | []=>0 | t::ts=>40+relW t.rels+schW ts
theorem relW_append (a b:List (ByteArray × RT)):relW (a++b)=relW a+relW b:=by
 induction a with
 | nil=>simp[relW]
 | cons x a ih=>rw[List.cons_append,relW,relW,ih];omega
theorem schW_append (a b:List TyS):schW (a++b)=schW a+schW b:=by
 induction a with
 | nil=>simp[schW]
 | cons x a ih=>rw[List.cons_append,schW,schW,ih];omega
theorem relW_take {l:List (ByteArray × RT)} {i:Nat} (hi:i<l.length):relW (l.take (i+1))=relW (l.take i)+(40+80*l[i].2.sz):=by
 rw[List.take_succ_eq_append_getElem hi,relW_append];simp[relW]
theorem schW_take {l:List TyS} {i:Nat} (hi:i<l.length):schW (l.take (i+1))=schW (l.take i)+(40+relW l[i].rels):=by
 rw[List.take_succ_eq_append_getElem hi,schW_append];simp[schW]
theorem relW_le (l:List (ByteArray × RT))(i:Nat):relW (l.take i)<=relW l:=by
 conv=>rhs;rw[<- List.take_append_drop i l]
 rw[relW_append];omega
theorem schW_le (l:List TyS)(i:Nat):schW (l.take i)<=schW l:=by
 conv=>rhs;rw[<- List.take_append_drop i l]
 rw[schW_append];omega
theorem print05_any (ts:List TyS)(tv:Value)(w:World)(h:TysAt (· < w.heap.size) w ts tv)(hok:∀ t∈ts,t.Ok)(hsz:schW ts<=80000000):Calls Tryz.prog 103 #[.agg #[tv]] w fun e w'=>∃ s:ByteArray,e = .returned (.tuple #[.string s,.int .i64 (prN (printOk ts))])/\Below w.heap.size w w':=by
 obtain⟨ao,c,rfl,hlc,hcm,hcell⟩:=h.rows;have HC:=h! hcell;have HOK:=h! hok;have HSZ:=h! hsz;generalize hg:printOk ts=g;have HG:=h! (show g=ts.all tyOk from hg.symm);have hbk:=(Blk.made w #[.slice ao ts.length c] 26).cells;have HB0:=h! (show Below w.heap.size w (w.alloc (.cells #[.slice ao ts.length c] 26))from(Below.refl _ _).alloc (Nat.le_refl _) _);clear h hcell hok hsz hg;go_enter Tryz.func103,Tryz.ntmps103
 go_wp2_with fail
 clear hbk;go_loopw [4,14] (fun ov ii wr=>∃ (i:Nat) (out:ByteArray),i<=ts.length/\ii = .int .i64 i/\ov = .string out/\(∀ j (hj:j<ts.length),j<i->tyOk ts[j]=true)/\out.size<=schW (ts.take i)/\Below w.heap.size w wr) (fun _ ii _=>ts.length-(intOf ii).toNat)
 case atStart=>exact⟨0,⟨#[]⟩,by omega,rfl,rfl,fun _ _ h=>absurd h (by omega),Nat.zero_le _,HB0.out⟩
 case round =>
  obtain⟨i,out,hi,rfl,rfl,hall,hos,hbel⟩:=hrel;have HALL:=h! hall;clear HB0 hall;by_cases hlt:i<ts.length
  ·have HUP:=h! (fun h=>upto_succ (p:=fun j hj=>tyOk ts[j]=true) HALL.out hlt h);have HBAD:=h! (fun(h:tyOk ts[i]=false)=>(show g=false from by rw[HG.out];exact List.all_eq_false.2 ⟨ts[i],List.getElem_mem hlt,by rw[h];exact Bool.false_ne_true⟩));have hokt:=HOK.out _ (List.getElem_mem hlt);have hst:=schW_take hlt;have hle:=schW_le ts (i+1);have hsl:=HSZ.out;have HST:=h! hst;rw[hst]at hle;obtain⟨b,off,pv2,hbo,hb,c0,c1,hat2⟩:=HC.out i hlt;cases hbo;have d0:=(hbel.cell (p:=⟨b,off+i*2,none⟩) hb).trans c0;have d1:=(hbel.cell (p:=⟨b,off+i*2+1,none⟩) hb).trans c1;obtain⟨ao2,c2',rfl,-⟩:=hat2.rows;have hb1:=hbel.alloc hbel.size (.cells #[.string ts[i].name,.slice ao2 ts[i].rels.length c2'] 176);have hat3:=hat2.up hb1;have HBT:=h! (Blk.made wr #[.string ts[i].name,.slice ao2 ts[i].rels.length c2'] 176);have hbx:=HBT.out.cells;have HB1:=h! hb1;clear c0 c1 hat2 hb1 hbel;have HI1:=h! hlt;clear hst;generalize ts[i]=t at *;obtain⟨tn,rels⟩:=t;dsimp only at *;obtain⟨hon,hor⟩:=hokt;dsimp only at hon hor;have HOR:=h! hor;have HO1:=h! (own_any tn (by unfold maxLen;omega) (wr.alloc (.cells #[.string tn,.slice ao2 rels.length c2'] 176)));obtain⟨ao3,c3,hv3,hlc3,hcm3,hcell3⟩:=hat3.rows;injection hv3 with hv31 hv32 hv33
   subst hv31 hv33;have HC3:=h! hcell3;clear hor hcell3 hv32 hat3 hon;cases ho:ownB tn with
   | false =>
    rw[ho]at HO1;have HF:=h! (HBAD.out (by unfold tyOk;rw[ho];rfl));clear HUP HBAD ho;go_wp2_with fail
    refine HO1.out.mono ?_;rintro e w5 ⟨rfl,rfl⟩;clear HO1;go_wp2_with fail
    go_ret2
    exact⟨_,by rw[HF.out];rfl,HB1.out⟩
   | true =>
    rw[ho]at HO1;have hns:=ownB_size ho;have HTY:=h! (show tyOk ⟨tn,rels⟩=rels.all relOk from by unfold tyOk;rw[ho];rfl);clear ho;have hq1:¬ (9223372036854775807<out.size+5):=by omega
    have hq2:¬ (9223372036854775807<out.size+5+tn.size):=by omega
    have hq3:¬ (9223372036854775807<out.size+5+tn.size+1):=by omega
    go_wp2_with fail
    refine HO1.out.mono ?_;rintro e w5 ⟨rfl,h5⟩;have h6:=h5.symm;subst h6;clear h5 HO1;go_wp2_with fail
    obtain⟨wq,hwq⟩:∃ wq,wq=wr.alloc (.cells #[.string tn,.slice ao2 rels.length c2'] 176):=⟨_,rfl⟩;rw[<- hwq]at HB1 HC3 ⊢;have HBQ:=h! HB1.out
    have ho1:(out++⟨#[116,121,112,101,32]⟩++tn++⟨#[10]⟩).size<=schW (ts.take i)+40:=by
     simp only[ByteArray.size_append];have h1:(⟨#[116,121,112,101,32]⟩:ByteArray).size=5:=rfl;have h2:(⟨#[10]⟩:ByteArray).size=1:=rfl;omega
    generalize out++⟨#[116,121,112,101,32]⟩++tn++⟨#[10]⟩=out1 at *;have HO1:=h! ho1;have hlim:schW (ts.take i)+(40+relW rels)<=80000000:=by omega
    have HLIM:=h! hlim;clear hwq HB1 hbx d0 d1 hq1 hq2 hq3 hlt ho1 hos hle hsl hlim;go_loopw [4,31] (fun ov jj wr=>∃ (j:Nat) (out:ByteArray),j<=rels.length/\jj = .int .i64 j/\ov = .string out/\(∀ m (hm:m<rels.length),m<j->relOk rels[m]=true)/\out.size<=schW (ts.take i)+40+relW (rels.take j)/\Below wq.heap.size wq wr) (fun _ jj _=>rels.length-(intOf jj).toNat)
    case atStart=>exact⟨0,out1,by omega,rfl,rfl,fun _ _ h=>absurd h (by omega),by have:=HO1.out;omega,Below.refl _ _⟩
    case round =>
     obtain⟨j,out2,hj,rfl,rfl,hall,hos,hbq⟩:=hrel;have HALL2:=h! hall;clear HO1 hall;by_cases hlt:j<rels.length
     ·have HUP2:=h! (fun h=>upto_succ (p:=fun m hm=>relOk rels[m]=true) HALL2.out hlt h);have HBAD2:=h! (fun(h:relOk rels[j]=false)=>HBAD.out (by rw[HTY.out];exact List.all_eq_false.2 ⟨rels[j],List.getElem_mem hlt,by rw[h];exact Bool.false_ne_true⟩));have hokr:=HOR.out _ (List.getElem_mem hlt);have hst:=relW_take hlt;have hle:=relW_le rels (j+1);have hlim:=HLIM.out;have HST2:=h! hst;rw[hst]at hle;have hbel:=hbq;obtain⟨b,off,pv2,hbo,hb,c0,c1,c2,c3,c4,hat2⟩:=HC3.out j hlt;cases hbo;have d0:=(hbel.cell (p:=⟨b,off+j*5,none⟩) hb).trans c0;have d1:=(hbel.cell (p:=⟨b,off+j*5+1,none⟩) hb).trans c1;have d2:=(hbel.cell (p:=⟨b,off+j*5+2,none⟩) hb).trans c2;have d3:=(hbel.cell (p:=⟨b,off+j*5+3,none⟩) hb).trans c3;have d4:=(hbel.cell (p:=⟨b,off+j*5+4,none⟩) hb).trans c4;obtain⟨ao2,c2',rfl,-⟩:=hat2.rows;have hb1:=hbel.alloc hbel.size (.cells #[.string rels[j].1,.int .i64 rels[j].2.k,.string rels[j].2.a,.string rels[j].2.b,.slice ao2 rels[j].2.ps.length c2'] 181);have hat3:=hat2.up hb1;have HBK:=h! (Blk.made wr #[.string rels[j].1,.int .i64 rels[j].2.k,.string rels[j].2.a,.string rels[j].2.b,.slice ao2 rels[j].2.ps.length c2'] 181);have hbx:=HBK.out.cells;have HB1:=h! hb1;clear c0 c1 c2 c3 c4 hat2 hb1 hbel;clear hst;generalize rels[j]=x at *;obtain⟨xn,p⟩:=x;dsimp only at *;obtain⟨hox,hop⟩:=hokr;have HR:=h! (text_any p _ 0 _ hat3 hop (by omega) (by omega));unfold rV at HR;rw[show((0:Nat):Int)=0 from rfl]at HR;have HOW:=h! (fun W=>own_any xn (by unfold maxLen;omega) W);clear hat3 hop hox;cases hx:p.textOk 0 with
      | false =>
       rw[hx]at HR;have HF:=h! (HBAD2.out (by unfold relOk;dsimp only;rw[hx];rfl));clear HUP2 HBAD2 hx;go_wp2_with fail
       refine HR.out.mono ?_;rintro e w5 ⟨s,rfl,-,hb5⟩;have hbx5:=(HBK.out.below hb5).cells;have HBE:=h! (HBQ.out.trans ((HB1.out.trans (hb5.mono HB1.out.size)).mono HBQ.out.size));clear HR hb5 hbx d0 d1 d2 d3 d4 HB1;go_wp2_with fail
       refine(HOW.out _).mono ?_;rintro e w6 ⟨rfl,h6⟩;have h7:=h6.symm;subst h7;clear h6;cases ownB xn with
       | false =>
        go_wp2_with fail
        go_ret2
        exact⟨_,by rw[HF.out];rfl,HBE.out⟩
       | true =>
        by_cases ht:xn=⟨#[116,121,112,101]⟩
        ·subst ht;go_wp2_with fail
         go_ret2
         exact⟨_,by rw[HF.out];rfl,HBE.out⟩
        ·have hne:=ba_beq' ht;rw[<- ByteArray.toList_eq,show(⟨#[116,121,112,101]⟩:ByteArray).data.toList=[116,121,112,101]from rfl]at hne;clear ht;go_wp2_with fail
         go_ret2
         exact⟨_,by rw[HF.out];rfl,HBE.out⟩
      | true =>
       rw[hx]at HR;go_wp2_with fail
       refine HR.out.mono ?_;rintro e w5 ⟨s,rfl,hss,hb5⟩;have hS:s.size+5<=80*p.sz:=by first | exact hss rfl | exact hss trivial
       have hbx5:=(HBK.out.below hb5).cells;have HBR:=h! (HB1.out.trans (hb5.mono HB1.out.size));have HBE:=h! (HBQ.out.trans (HBR.out.mono HBQ.out.size));clear HR hb5 hbx d0 d1 d2 d3 d4 HB1 hss;go_wp2_with fail
       refine(HOW.out _).mono ?_;rintro e w6 ⟨rfl,h6⟩;have h7:=h6.symm;subst h7;clear h6;cases ho:ownB xn with
       | false =>
        have HF:=h! (HBAD2.out (by unfold relOk;dsimp only;rw[hx,ho];rfl));clear HUP2 HBAD2 hx ho;go_wp2_with fail
        go_ret2
        exact⟨_,by rw[HF.out];rfl,HBE.out⟩
       | true =>
        by_cases ht:xn=⟨#[116,121,112,101]⟩
        ·have HF:=h! (HBAD2.out (by unfold relOk;dsimp only;rw[hx,ho,decide_eq_false (fun h=>h ht)];rfl));subst ht;clear HUP2 HBAD2 hx ho;go_wp2_with fail
         go_ret2
         exact⟨_,by rw[HF.out];rfl,HBE.out⟩
        ·have hne:=ba_beq' ht;rw[<- ByteArray.toList_eq,show(⟨#[116,121,112,101]⟩:ByteArray).data.toList=[116,121,112,101]from rfl]at hne;have HN:=h! (HUP2.out (by unfold relOk;dsimp only;rw[hx,ho,decide_eq_true ht];rfl));have hns:=ownB_size ho;have hq1:¬ (9223372036854775807<out2.size+xn.size):=by omega
         have hq2:¬ (9223372036854775807<out2.size+xn.size+3):=by omega
         have hq3:¬ (9223372036854775807<out2.size+xn.size+3+s.size):=by omega
         have hq4:¬ (9223372036854775807<out2.size+xn.size+3+s.size+1):=by omega
         have HOZ:=h! (show(out2++xn++⟨#[32,61,32]⟩++s++⟨#[10]⟩).size<=schW (ts.take i)+40+relW (rels.take (j+1))from by
          rw[HST2.out];simp only[ByteArray.size_append];have h1:(⟨#[32,61,32]⟩:ByteArray).size=3:=rfl;have h2:(⟨#[10]⟩:ByteArray).size=1:=rfl;omega)
         clear ht HUP2 HBAD2 hx ho;go_wp2_with fail
         go_roundw
         case rel=>exact⟨j+1,_,by omega,by go_num,rfl,HN.out,HOZ.out,HBR.out⟩
         case measure=>simp[intOf];omega
     ·obtain rfl:j=rels.length:=by omega
      rw[List.take_length]at hos
      have HN:=h! (HUP.out (by
       rw[HTY.out,List.all_eq_true];intro x hx;obtain⟨m,hm,rfl⟩:=List.getElem_of_mem hx;exact HALL2.out m hm hm))
      have HOZ:=h! (show out2.size<=schW (ts.take (i+1))from by rw[HST.out];omega);have HBE:=h! (HBQ.out.trans (hbq.mono HBQ.out.size));have hlt2:=HI1.out;clear hos hbq;go_wp2_with fail
      go_roundw
      case rel=>exact⟨i+1,out2,by omega,by go_num,rfl,HN.out,HOZ.out,HBE.out⟩
      case measure=>simp[intOf];omega
  ·obtain rfl:i=ts.length:=by omega
   have HF:=h! (show g=true from by
    rw[HG.out,List.all_eq_true];intro x hx;obtain⟨j,hj,rfl⟩:=List.getElem_of_mem hx;exact HALL.out j hj hj)
   have HBE:=h! hbel;clear hbel hos;go_wp2_with fail
   go_ret2
   exact⟨_,by rw[HF.out];rfl,HBE.out⟩
def tyLong (t:TyS):Bool:=decide (t.rels.length<=16)&&t.rels.all fun r=>decide (r.2.sz<=32)
def longOk (ts:List TyS):Bool:=decide (ts.length<=16)&&ts.all tyLong
def uniqOk (ts:List TyS):Bool:=decide ((ts.map (·.name)).Nodup)&&ts.all fun t=>decide ((t.rels.map (·.1)).Nodup)
def freshT (ts:List TyS)(j:Nat):Prop:=∀ m (hm:m<ts.length)(hj:j<ts.length),m<j->ts[m].name≠ts[j].name
def namesOk (ts:List TyS):Bool:=ts.all fun t=>t.rels.all fun r=>r.2.named ts t
theorem uniq_at {ts:List TyS} (h:uniqOk ts=true) {i:Nat} (hi:i<ts.length):freshT ts i/\((ts[i].rels.map (·.1)).Nodup):=by
 unfold uniqOk at h;rw[Bool.and_eq_true,decide_eq_true_eq,List.all_eq_true]at h;refine⟨fun m hm hj hmj he=>?_,of_decide_eq_true (h.2 _ (List.getElem_mem hi))⟩;have:=(List.pairwise_iff_getElem.1 h.1) m i (by simpa using hm) (by simpa using hi) hmj;simp only[List.getElem_map]at this;exact this he
theorem uniq_of {ts:List TyS} (h:∀ j (hj:j<ts.length),freshT ts j/\((ts[j].rels.map (·.1)).Nodup)):uniqOk ts=true:=by
 unfold uniqOk;rw[Bool.and_eq_true,decide_eq_true_eq,List.all_eq_true];refine⟨List.pairwise_iff_getElem.2 fun m j hm hj hmj=>?_,fun x hx=>?_⟩
 ·simp only[List.getElem_map];exact(h j (by simpa using hj)).1 m (by simpa using hm) (by simpa using hj) hmj
 ·obtain⟨j,hj,rfl⟩:=List.getElem_of_mem hx;exact decide_eq_true (h j hj).2
def freshN (l:List (ByteArray × RT))(j:Nat):Prop:=∀ m (hm:m<l.length)(hj:j<l.length),m<j->l[m].1≠l[j].1
theorem fresh_of {l:List (ByteArray × RT)} (h:(l.map (·.1)).Nodup)(j:Nat):freshN l j:=fun m hm hj hmj he=>by
 have:=(List.pairwise_iff_getElem.1 h) m j (by simpa using hm) (by simpa using hj) hmj;simp only[List.getElem_map]at this;exact this he
theorem nodup_of {l:List (ByteArray × RT)} (h:∀ j (_:j<l.length),freshN l j):(l.map (·.1)).Nodup:=List.pairwise_iff_getElem.2 fun m j hm hj hmj=>by
 simp only[List.getElem_map];exact h j (by simpa using hj) m (by simpa using hm) (by simpa using hj) hmj
def chk06 (ts:List TyS):Int:=if printOk ts then(if longOk ts then(if uniqOk ts then(if namesOk ts then 0 else 2)else 3)else 10)else 9
theorem check06_any (ts:List TyS)(tv:Value)(w:World)(h:TysAt (· < w.heap.size) w ts tv)(hok:∀ t∈ts,t.Ok)(hsz:schW ts<=80000000):Calls Tryz.prog 41 #[.agg #[tv]] w fun e w'=>e = .returned (.int .i64 (chk06 ts))/\Below w.heap.size w w':=by
 have hb0:Below w.heap.size w (w.alloc (.cells #[tv] 26)):=(Below.refl _ _).alloc (Nat.le_refl _) _;have HPR:=h! (print05_any ts tv _ (h.up hb0) hok hsz);have HTS:=h! h;have HB0:=h! hb0;have HS0:=h! (Blk.made w #[tv] 26);obtain⟨ao,c,rfl,hlc,hcm,hcell⟩:=h.rows;have HC:=h! hcell;have HOK:=h! hok;have HSZ:=h! hsz;have hbk:=HS0.out.cells;generalize hg:chk06 ts=g;have HG:=h! hg.symm;clear h hcell hok hsz hg hb0;go_enter Tryz.func41,Tryz.ntmps41
 go_wp2_with fail
 refine HPR.out.mono ?_;rintro e w2 ⟨s,rfl,hb2⟩;have HB2:=h! (HB0.out.trans (hb2.mono HB0.out.size));have HS2:=h! (HS0.out.below hb2);have hbk2:=HS2.out.cells;clear HPR hb2 hbk HB0 HS0;cases hp:printOk ts with
 | false =>
  have HF:=h! (show g=9 from by rw[HG.out];unfold chk06;rw[hp];rfl);rw[show prN false=9 from rfl];clear hp;go_wp2_with fail
  go_ret
  exact⟨by rw[HF.out];rfl,HB2.out⟩
 | true =>
  rw[show prN true=0 from rfl];have HG1:=h! (show g=if longOk ts then(if uniqOk ts then(if namesOk ts then 0 else 2)else 3)else 10 from by rw[HG.out];unfold chk06;rw[hp];rfl);clear hp HG;by_cases hl16:ts.length<=16
  rotate_left
  ·have HF:=h! (show g=10 from by rw[HG1.out,if_neg];unfold longOk;simp[hl16]);have hlI:(16:Int)<ts.length:=by omega
   clear hl16;go_wp2_with fail
   go_ret
   exact⟨by rw[HF.out];rfl,HB2.out⟩
  have hlI:¬ ((16:Int)<ts.length):=by omega
  have HL16:=h! hl16;clear hl16;go_wp2_with fail
  clear hbk2;go_loopw [35] (fun ii wr=>∃ i:Nat,i<=ts.length/\ii = .int .i64 i/\(∀ j (hj:j<ts.length),j<i->tyLong ts[j]=true)/\Below w2.heap.size w2 wr) (fun ii _=>ts.length-(intOf ii).toNat)
  case atStart=>exact⟨0,by omega,rfl,fun _ _ h=>absurd h (by omega),Below.refl _ _⟩
  case round =>
   obtain⟨i,hi,rfl,hall,hb2r⟩:=hrel;have HALL:=h! hall;have hbel:Below w.heap.size w wr:=HB2.out.trans (hb2r.mono HB2.out.size);clear hall;by_cases hlt:i<ts.length
   ·have HUP:=h! (fun h=>upto_succ (p:=fun j hj=>tyLong ts[j]=true) HALL.out hlt h)
    have HBAD:=h! (fun(h:tyLong ts[i]=false)=>(show g=10 from by
     rw[HG1.out,if_neg];unfold longOk;rw[Bool.and_eq_true];intro h2;rw[List.all_eq_true.1 h2.2 _ (List.getElem_mem hlt)]at h;cases h))
    have hle:=schW_le ts (i+1);rw[schW_take hlt]at hle;have hsl:=HSZ.out;have HRW:=h! (show relW ts[i].rels<=80000000 from by omega);obtain⟨b,off,pv2,hbo,hb,c0,c1,hat2⟩:=HC.out i hlt;cases hbo;have d0:=(hbel.cell (p:=⟨b,off+i*2,none⟩) hb).trans c0;have d1:=(hbel.cell (p:=⟨b,off+i*2+1,none⟩) hb).trans c1;obtain⟨ao2,c2',rfl,-⟩:=hat2.rows;have hb1:=hbel.alloc hbel.size (.cells #[.string ts[i].name,.slice ao2 ts[i].rels.length c2'] 176);have hat3:=hat2.up hb1;have HBT:=h! (Blk.made wr #[.string ts[i].name,.slice ao2 ts[i].rels.length c2'] 176);have hbx:=HBT.out.cells;have HB1:=h! hb1;clear c0 c1 hat2 hb1 hbel;have HI1:=h! hlt;have HQ2:=h! (hb2r.alloc hb2r.size (.cells #[.string ts[i].name,.slice ao2 ts[i].rels.length c2'] 176));clear hle hsl hb2r;generalize ts[i]=t at *;obtain⟨tn,rels⟩:=t;dsimp only at *;obtain⟨ao3,c3,hv3,hlc3,hcm3,hcell3⟩:=hat3.rows;injection hv3 with hv31 hv32 hv33
    subst hv31 hv33;have HC3:=h! hcell3;clear hcell3 hv32 hat3;by_cases hr16:rels.length<=16
    rotate_left
    ·have HF:=h! (HBAD.out (by unfold tyLong;simp[hr16]));have hrI:(16:Int)<rels.length:=by omega
     clear hr16;go_wp2_with fail
     go_ret
     exact⟨by rw[HF.out];rfl,HB1.out⟩
    have hrI:¬ ((16:Int)<rels.length):=by omega
    have HR16:=h! hr16;clear hr16;go_wp2_with fail
    obtain⟨wq,hwq⟩:∃ wq,wq=wr.alloc (.cells #[.string tn,.slice ao2 rels.length c2'] 176):=⟨_,rfl⟩;rw[<- hwq]at HB1 HC3 HQ2 ⊢;have HBQ:=h! HB1.out;clear hwq HB1 hbx d0 d1 hlt;go_loopw [46] (fun jj wr=>∃ j:Nat,j<=rels.length/\jj = .int .i64 j/\(∀ m (hm:m<rels.length),m<j->rels[m].2.sz<=32)/\Below wq.heap.size wq wr) (fun jj _=>rels.length-(intOf jj).toNat)
    case atStart=>exact⟨0,by omega,rfl,fun _ _ h=>absurd h (by omega),Below.refl _ _⟩
    case round =>
     obtain⟨j,hj,rfl,hall,hbq⟩:=hrel;have HALL2:=h! hall;clear hall;by_cases hlt:j<rels.length
     ·have HUP2:=h! (fun h=>upto_succ (p:=fun m hm=>rels[m].2.sz<=32) HALL2.out hlt h)
      have HBAD2:=h! (fun(h:¬ rels[j].2.sz<=32)=>HBAD.out (by
       unfold tyLong;rw[Bool.and_eq_false_iff];right
       exact List.all_eq_false.2 ⟨rels[j],List.getElem_mem hlt,by simpa using h⟩))
      have hle:=relW_le rels (j+1);rw[relW_take hlt]at hle;have hrw:=HRW.out;have hbel:=hbq;obtain⟨b,off,pv2,hbo,hb,c0,c1,c2,c3,c4,hat2⟩:=HC3.out j hlt;cases hbo;have d0:=(hbel.cell (p:=⟨b,off+j*5,none⟩) hb).trans c0;have d1:=(hbel.cell (p:=⟨b,off+j*5+1,none⟩) hb).trans c1;have d2:=(hbel.cell (p:=⟨b,off+j*5+2,none⟩) hb).trans c2;have d3:=(hbel.cell (p:=⟨b,off+j*5+3,none⟩) hb).trans c3;have d4:=(hbel.cell (p:=⟨b,off+j*5+4,none⟩) hb).trans c4;obtain⟨ao2,c2',rfl,-⟩:=hat2.rows;have hb1:=hbel.alloc hbel.size (.cells #[.string rels[j].1,.int .i64 rels[j].2.k,.string rels[j].2.a,.string rels[j].2.b,.slice ao2 rels[j].2.ps.length c2'] 181);have hat3:=hat2.up hb1;have HBK:=h! (Blk.made wr #[.string rels[j].1,.int .i64 rels[j].2.k,.string rels[j].2.a,.string rels[j].2.b,.slice ao2 rels[j].2.ps.length c2'] 181);have hbx:=HBK.out.cells;have HB1:=h! hb1;clear c0 c1 c2 c3 c4 hat2 hb1 hbel;generalize rels[j]=x at *;obtain⟨xn,p⟩:=x;dsimp only at *;have HR:=h! (size06_any p _ _ hat3 (by omega));unfold rV at HR;clear hat3 hle hrw;by_cases hs32:p.sz<=32
      ·have hsI:¬ ((32:Int)<p.sz):=by omega
       have HN:=h! (HUP2.out hs32);clear HUP2 HBAD2;go_wp2_with fail
       refine HR.out.mono ?_;rintro e w5 ⟨rfl,hb5⟩;have HB5:=h! (HB1.out.trans (hb5.mono HB1.out.size));clear HR hb5 hbx d0 d1 d2 d3 d4 HB1 HBK;go_wp2_with fail
       go_roundw
       case rel=>exact⟨j+1,by omega,by go_num,HN.out,HB5.out⟩
       case measure=>simp[intOf];omega
      ·have hsI:(32:Int)<p.sz:=by omega
       have HF:=h! (HBAD2.out hs32);clear HUP2 HBAD2;go_wp2_with fail
       refine HR.out.mono ?_;rintro e w5 ⟨rfl,hb5⟩;have HB5:=h! (HBQ.out.trans ((HB1.out.trans (hb5.mono HB1.out.size)).mono HBQ.out.size));clear HR hb5 hbx d0 d1 d2 d3 d4 HB1 HBK;go_wp2_with fail
       go_ret
       exact⟨by rw[HF.out];rfl,HB5.out⟩
     ·obtain rfl:j=rels.length:=by omega
      have HN:=h! (HUP.out (by
       unfold tyLong;rw[Bool.and_eq_true,decide_eq_true_eq];refine⟨HR16.out,List.all_eq_true.2 fun x hx=>?_⟩;obtain⟨m,hm,rfl⟩:=List.getElem_of_mem hx;exact decide_eq_true (HALL2.out m hm hm)))
      have HBE:=h! (HQ2.out.trans (hbq.mono HQ2.out.size));have hlt2:=HI1.out;clear hbq;go_wp2_with fail
      go_roundw
      case rel=>exact⟨i+1,by omega,by go_num,HN.out,HBE.out⟩
      case measure=>simp[intOf];omega
   ·obtain rfl:i=ts.length:=by omega
    have HG2:=h! (show g=if uniqOk ts then(if namesOk ts then 0 else 2)else 3 from by
     rw[HG1.out,if_pos];unfold longOk;rw[Bool.and_eq_true,decide_eq_true_eq];refine⟨HL16.out,List.all_eq_true.2 fun x hx=>?_⟩;obtain⟨m,hm,rfl⟩:=List.getElem_of_mem hx;exact HALL.out m hm hm)
    have hbk3:=(HS2.out.below hb2r).cells;have HB2R:=h! hb2r;clear hbel hb2r HALL;go_wp2_with fail
    clear hbk3;go_loopw [59] (fun ii wr=>∃ i:Nat,i<=ts.length/\ii = .int .i64 i/\(∀ j (hj:j<ts.length),j<i->freshT ts j/\((ts[j].rels.map (·.1)).Nodup))/\Below w2.heap.size w2 wr) (fun ii _=>ts.length-(intOf ii).toNat)
    case atStart=>exact⟨0,by omega,rfl,fun _ _ h=>absurd h (by omega),HB2R.out⟩
    case round =>
     obtain⟨i,hi,rfl,hall,hb2r⟩:=hrel;have HALL:=h! hall;have hbel:Below w.heap.size w wr:=HB2.out.trans (hb2r.mono HB2.out.size);clear hall HB2R;by_cases hlt:i<ts.length
     ·have HUP:=h! (fun h=>upto_succ (p:=fun j hj=>freshT ts j/\((ts[j].rels.map (·.1)).Nodup)) HALL.out hlt h);have HBAD:=h! (fun(h:¬ (freshT ts i/\((ts[i].rels.map (·.1)).Nodup)))=>(show g=3 from by rw[HG2.out,if_neg (fun hu=>h (uniq_at hu hlt))]));obtain⟨b,off,pv2,hbo,hb,c0,c1,hat2⟩:=HC.out i hlt;cases hbo;have d0:=(hbel.cell (p:=⟨b,off+i*2,none⟩) hb).trans c0;have d1:=(hbel.cell (p:=⟨b,off+i*2+1,none⟩) hb).trans c1;obtain⟨ao2,c2',rfl,-⟩:=hat2.rows;have hb1:=hbel.alloc hbel.size (.cells #[.string ts[i].name,.slice ao2 ts[i].rels.length c2'] 176);have hat3:=hat2.up hb1;have HBT:=h! (Blk.made wr #[.string ts[i].name,.slice ao2 ts[i].rels.length c2'] 176);have hbx:=HBT.out.cells;have HB1:=h! hb1;clear c0 c1 hat2 hb1 hbel;have HI1:=h! hlt;have HQ2:=h! (hb2r.alloc hb2r.size (.cells #[.string ts[i].name,.slice ao2 ts[i].rels.length c2'] 176));have hbs:=(HS2.out.below HQ2.out).cells;clear hb2r;generalize hti:ts[i]=t at *;have HTI:=h! hti;clear hti;obtain⟨tn,rels⟩:=t;dsimp only at *;obtain⟨ao3,c3,hv3,hlc3,hcm3,hcell3⟩:=hat3.rows;injection hv3 with hv31 hv32 hv33
      subst hv31 hv33;have HC3:=h! hcell3;have HBT0:=h! HBT.out;have HBQ:=h! HB1.out;have h0i:(0:Int)<=(i:Int):=by omega
      have hin:(i:Int)<=(ts.length:Int):=by omega
      clear hcell3 hv32 hat3 hlt;go_wp2_with fail
      clear hbx hbs d0 d1 HBT HB1 h0i hin;generalize wr.alloc (.cells #[.string tn,.slice ao2 rels.length c2'] 176)=wq at *;generalize wr.heap.size=bt at *;go_loopw [69] (fun mm wr=>∃ m:Nat,m<=i/\mm = .int .i64 m/\(∀ j (hj:j<ts.length),j<m->ts[j].name≠tn)/\Below wq.heap.size wq wr) (fun mm _=>i-(intOf mm).toNat)
      case atStart=>exact⟨0,by omega,rfl,fun _ _ h=>absurd h (by omega),Below.refl _ _⟩
      case round =>
       obtain⟨m,hm,rfl,hall,hbq⟩:=hrel;have HALL2:=h! hall;clear hall;by_cases hmi:m<i
       ·have hlt:m<ts.length:=Nat.lt_trans hmi HI1.out;have HUP2:=h! (fun h=>upto_succ (p:=fun j hj=>ts[j].name≠tn) HALL2.out hlt h);have HBAD2:=h! (fun(h:ts[m].name=tn)=>HBAD.out (fun hf=>hf.1 m hlt HI1.out hmi (h.trans (congrArg TyS.name HTI.out).symm)));have hbel:Below w.heap.size w wr:=HBQ.out.trans (hbq.mono HBQ.out.size);obtain⟨b,off,pv2,hbo,hb,c0,c1,hat2⟩:=HC.out m hlt;cases hbo;have d0:=(hbel.cell (p:=⟨b,off+m*2,none⟩) hb).trans c0;have d1:=(hbel.cell (p:=⟨b,off+m*2+1,none⟩) hb).trans c1;obtain⟨ao2,c2',rfl,-⟩:=hat2.rows;have hb1:=hbel.alloc hbel.size (.cells #[.string ts[m].name,.slice ao2 ts[m].rels.length c2'] 176);have hat3:=hat2.up hb1;have HBT:=h! (Blk.made wr #[.string ts[m].name,.slice ao2 ts[m].rels.length c2'] 176);have hbx:=HBT.out.cells;have HB1:=h! hb1;clear c0 c1 hat2 hb1 hbel;have HQ3:=h! (hbq.alloc hbq.size (.cells #[.string ts[m].name,.slice ao2 ts[m].rels.length c2'] 176));have hbt:=(HBT0.out.below HQ3.out).cells;clear hbq hat3;generalize ts[m]=u at *;obtain⟨un,urels⟩:=u;dsimp only at *;by_cases he:un=tn
        ·have HF:=h! (HBAD2.out he);subst he;clear HUP2 HBAD2;go_wp2_with fail
         go_ret
         exact⟨by rw[HF.out];rfl,HB1.out⟩
        ·have HN:=h! (HUP2.out he);have hne:=ba_beq' (fun h=>he h.symm);rw[<- ByteArray.toList_eq,<- ByteArray.toList_eq]at hne;clear HUP2 HBAD2 he;go_wp2_with fail
         go_roundw
         case rel=>exact⟨m+1,by omega,by go_num,HN.out,HQ3.out⟩
         case measure=>simp[intOf];omega
       ·obtain rfl:m=i:=by omega
        have HFR:=h! (show freshT ts m from fun j hj hm hjm he=>HALL2.out j hj hjm (he.trans (congrArg TyS.name HTI.out)));have hbt:=(HBT0.out.below hbq).cells;have HBQ5:=h! hbq;clear hbq HALL2;go_wp2_with fail
        clear hbt;go_loopw [82] (fun kk wr=>∃ k:Nat,k<=rels.length/\kk = .int .i64 k/\(∀ j (hj:j<rels.length),j<k->freshN rels j)/\Below wq.heap.size wq wr) (fun kk _=>rels.length-(intOf kk).toNat)
        case atStart=>exact⟨0,by omega,rfl,fun _ _ h=>absurd h (by omega),HBQ5.out⟩
        case round =>
         obtain⟨k,hk,rfl,hall,hbq⟩:=hrel;have HALL3:=h! hall;clear hall HBQ5;by_cases hlt:k<rels.length
         ·have HUP3:=h! (fun h=>upto_succ (p:=fun j hj=>freshN rels j) HALL3.out hlt h);have HBAD3:=h! (fun(h:¬ freshN rels k)=>HBAD.out (fun hf=>h (fresh_of hf.2 k)));have hbel:=hbq;obtain⟨b,off,pv2,hbo,hb,c0,c1,c2,c3,c4,hat2⟩:=HC3.out k hlt;cases hbo;have d0:=(hbel.cell (p:=⟨b,off+k*5,none⟩) hb).trans c0;have d1:=(hbel.cell (p:=⟨b,off+k*5+1,none⟩) hb).trans c1;have d2:=(hbel.cell (p:=⟨b,off+k*5+2,none⟩) hb).trans c2;have d3:=(hbel.cell (p:=⟨b,off+k*5+3,none⟩) hb).trans c3;have d4:=(hbel.cell (p:=⟨b,off+k*5+4,none⟩) hb).trans c4;obtain⟨ao2,c2',rfl,-⟩:=hat2.rows;have hb1:=hbel.alloc hbel.size (.cells #[.string rels[k].1,.int .i64 rels[k].2.k,.string rels[k].2.a,.string rels[k].2.b,.slice ao2 rels[k].2.ps.length c2'] 181);have hat3:=hat2.up hb1;have HBK:=h! (Blk.made wr #[.string rels[k].1,.int .i64 rels[k].2.k,.string rels[k].2.a,.string rels[k].2.b,.slice ao2 rels[k].2.ps.length c2'] 181);have hbx:=HBK.out.cells;have HB1:=h! hb1;clear c0 c1 c2 c3 c4 hat2 hb1 hbel;have hbt:=(HBT0.out.below HB1.out).cells;have HBK0:=h! HBK.out;have HBK1:=h! HB1.out;have HK1:=h! hlt;have h0k:(0:Int)<=(k:Int):=by omega
          have hkn:(k:Int)<=(rels.length:Int):=by omega
          clear hbq hat3;generalize hrk:rels[k]=x at *;have HRK:=h! hrk;clear hrk hlt;obtain⟨xn,p⟩:=x;dsimp only at *;go_wp2_with fail
          clear hbx hbt d0 d1 d2 d3 d4 HBK HB1 h0k hkn;generalize wr.alloc (.cells #[.string xn,.int .i64 p.k,.string p.a,.string p.b,.slice ao2 p.ps.length c2'] 181)=wk at *;generalize wr.heap.size=bk at *;go_loopw [92] (fun qq wr=>∃ q:Nat,q<=k/\qq = .int .i64 q/\(∀ j (hj:j<rels.length),j<q->rels[j].1≠xn)/\Below wk.heap.size wk wr) (fun qq _=>k-(intOf qq).toNat)
          case atStart=>exact⟨0,by omega,rfl,fun _ _ h=>absurd h (by omega),Below.refl _ _⟩
          case round =>
           obtain⟨q,hq,rfl,hall,hbk⟩:=hrel;have HALL4:=h! hall;clear hall;by_cases hqk:q<k
           ·have hlt:q<rels.length:=Nat.lt_trans hqk HK1.out;have HUP4:=h! (fun h=>upto_succ (p:=fun j hj=>rels[j].1≠xn) HALL4.out hlt h);have HBAD4:=h! (fun(h:rels[q].1=xn)=>HBAD3.out (fun hf=>hf q hlt HK1.out hqk (h.trans (congrArg Prod.fst HRK.out).symm)));have hbel:Below wq.heap.size wq wr:=HBK1.out.trans (hbk.mono HBK1.out.size);obtain⟨b,off,pv2,hbo,hb,c0,c1,c2,c3,c4,hat2⟩:=HC3.out q hlt;cases hbo;have d0:=(hbel.cell (p:=⟨b,off+q*5,none⟩) hb).trans c0;have d1:=(hbel.cell (p:=⟨b,off+q*5+1,none⟩) hb).trans c1;have d2:=(hbel.cell (p:=⟨b,off+q*5+2,none⟩) hb).trans c2;have d3:=(hbel.cell (p:=⟨b,off+q*5+3,none⟩) hb).trans c3;have d4:=(hbel.cell (p:=⟨b,off+q*5+4,none⟩) hb).trans c4;obtain⟨ao2,c2',rfl,-⟩:=hat2.rows;have hb1:=hbel.alloc hbel.size (.cells #[.string rels[q].1,.int .i64 rels[q].2.k,.string rels[q].2.a,.string rels[q].2.b,.slice ao2 rels[q].2.ps.length c2'] 181);have hat3:=hat2.up hb1;have HBK:=h! (Blk.made wr #[.string rels[q].1,.int .i64 rels[q].2.k,.string rels[q].2.a,.string rels[q].2.b,.slice ao2 rels[q].2.ps.length c2'] 181);have hbx:=HBK.out.cells;have HB1:=h! hb1;clear c0 c1 c2 c3 c4 hat2 hb1 hbel;have HQ5:=h! (hbk.alloc hbk.size (.cells #[.string rels[q].1,.int .i64 rels[q].2.k,.string rels[q].2.a,.string rels[q].2.b,.slice ao2 rels[q].2.ps.length c2'] 181));have hbt:=(HBK0.out.below HQ5.out).cells;have HBE:=h! (HBQ.out.trans (HB1.out.mono HBQ.out.size));clear hbk hat3;generalize rels[q]=y at *;obtain⟨yn,p2⟩:=y;dsimp only at *;by_cases he:yn=xn
            ·have HF:=h! (HBAD4.out he);subst he;clear HUP4 HBAD4;go_wp2_with fail
             go_ret
             exact⟨by rw[HF.out];rfl,HBE.out⟩
            ·have HN:=h! (HUP4.out he);have hne:=ba_beq' (fun h=>he h.symm);rw[<- ByteArray.toList_eq,<- ByteArray.toList_eq]at hne;clear HUP4 HBAD4 he;go_wp2_with fail
             go_roundw
             case rel=>exact⟨q+1,by omega,by go_num,HN.out,HQ5.out⟩
             case measure=>simp[intOf];omega
           ·obtain rfl:q=k:=by omega
            have HN:=h! (HUP3.out (fun j hj hq hjq he=>HALL4.out j hj hjq (he.trans (congrArg Prod.fst HRK.out))));have HBE:=h! (HBK1.out.trans (hbk.mono HBK1.out.size));have hlt2:=HK1.out;clear hbk;go_wp2_with fail
            go_roundw
            case rel=>exact⟨q+1,by omega,by go_num,HN.out,HBE.out⟩
            case measure=>simp[intOf];omega
         ·obtain rfl:k=rels.length:=by omega
          have HN:=h! (HUP.out ⟨HFR.out,nodup_of fun j hj=>HALL3.out j hj hj⟩);have HBE:=h! (HQ2.out.trans (hbq.mono HQ2.out.size));have hlt2:=HI1.out;clear hbq;go_wp2_with fail
          go_roundw
          case rel=>exact⟨m+1,by omega,by go_num,HN.out,HBE.out⟩
          case measure=>simp[intOf];omega
     ·obtain rfl:i=ts.length:=by omega
      have HG3:=h! (show g=if namesOk ts then 0 else 2 from by rw[HG2.out,if_pos (uniq_of fun j hj=>HALL.out j hj hj)]);have hbk4:=(HS2.out.below hb2r).cells;have HB2R:=h! hb2r;clear hbel hb2r HALL;go_wp2_with fail
      clear hbk4;go_loopw [107] (fun ii wr=>∃ i:Nat,i<=ts.length/\ii = .int .i64 i/\(∀ j (hj:j<ts.length),j<i->(ts[j].rels.all fun r=>r.2.named ts ts[j])=true)/\Below w2.heap.size w2 wr) (fun ii _=>ts.length-(intOf ii).toNat)
      case atStart=>exact⟨0,by omega,rfl,fun _ _ h=>absurd h (by omega),HB2R.out⟩
      case round =>
       obtain⟨i,hi,rfl,hall,hb2r⟩:=hrel;have HALL:=h! hall;have hbel:Below w.heap.size w wr:=HB2.out.trans (hb2r.mono HB2.out.size);clear hall HB2R;by_cases hlt:i<ts.length
       ·have HUP:=h! (fun h=>upto_succ (p:=fun j hj=>(ts[j].rels.all fun r=>r.2.named ts ts[j])=true) HALL.out hlt h)
        have HBAD:=h! (fun(h:(ts[i].rels.all fun r=>r.2.named ts ts[i])=false)=>(show g=2 from by
         rw[HG3.out,if_neg];intro h2;unfold namesOk at h2;rw[List.all_eq_true.1 h2 _ (List.getElem_mem hlt)]at h;cases h))
        obtain⟨b,off,pv2,hbo,hb,c0,c1,hat2⟩:=HC.out i hlt;cases hbo;have d0:=(hbel.cell (p:=⟨b,off+i*2,none⟩) hb).trans c0;have d1:=(hbel.cell (p:=⟨b,off+i*2+1,none⟩) hb).trans c1;obtain⟨ao2,c2',rfl,-⟩:=hat2.rows;have hb1:=hbel.alloc hbel.size (.cells #[.string ts[i].name,.slice ao2 ts[i].rels.length c2'] 176);have hat3:=hat2.up hb1;have HBT:=h! (Blk.made wr #[.string ts[i].name,.slice ao2 ts[i].rels.length c2'] 176);have hbx:=HBT.out.cells;have HB1:=h! hb1;clear c0 c1 hat2 hb1 hbel;have HI1:=h! hlt;have HQ2:=h! (hb2r.alloc hb2r.size (.cells #[.string ts[i].name,.slice ao2 ts[i].rels.length c2'] 176));have HRE:=h! hat3;clear hb2r;generalize ts[i]=t at *;obtain⟨tn,rels⟩:=t;dsimp only at *;obtain⟨ao3,c3,hv3,hlc3,hcm3,hcell3⟩:=hat3.rows;injection hv3 with hv31 hv32 hv33
        subst hv31 hv33;have HC3:=h! hcell3;have HBT0:=h! HBT.out;have HBQ:=h! HB1.out;clear hcell3 hv32 hat3;go_wp2_with fail
        clear hbx d0 d1 HBT HB1 hlt;generalize wr.alloc (.cells #[.string tn,.slice ao2 rels.length c2'] 176)=wq at *;generalize wr.heap.size=bt at *;go_loopw [114] (fun jj wr=>∃ j:Nat,j<=rels.length/\jj = .int .i64 j/\(∀ m (hm:m<rels.length),m<j->rels[m].2.named ts ⟨tn,rels⟩=true)/\Below wq.heap.size wq wr) (fun jj _=>rels.length-(intOf jj).toNat)
        case atStart=>exact⟨0,by omega,rfl,fun _ _ h=>absurd h (by omega),Below.refl _ _⟩
        case round =>
         obtain⟨j,hj,rfl,hall,hbq⟩:=hrel;have HALL2:=h! hall;clear hall;by_cases hlt:j<rels.length
         ·have HUP2:=h! (fun h=>upto_succ (p:=fun m hm=>rels[m].2.named ts ⟨tn,rels⟩=true) HALL2.out hlt h);have HBAD2:=h! (fun(h:rels[j].2.named ts ⟨tn,rels⟩=false)=>HBAD.out (List.all_eq_false.2 ⟨rels[j],List.getElem_mem hlt,by rw[h];exact Bool.false_ne_true⟩));have hbel:=hbq;obtain⟨b,off,pv2,hbo,hb,c0,c1,c2,c3,c4,hat2⟩:=HC3.out j hlt;cases hbo;have d0:=(hbel.cell (p:=⟨b,off+j*5,none⟩) hb).trans c0;have d1:=(hbel.cell (p:=⟨b,off+j*5+1,none⟩) hb).trans c1;have d2:=(hbel.cell (p:=⟨b,off+j*5+2,none⟩) hb).trans c2;have d3:=(hbel.cell (p:=⟨b,off+j*5+3,none⟩) hb).trans c3;have d4:=(hbel.cell (p:=⟨b,off+j*5+4,none⟩) hb).trans c4;obtain⟨ao2,c2',rfl,-⟩:=hat2.rows;have hb1:=hbel.alloc hbel.size (.cells #[.string rels[j].1,.int .i64 rels[j].2.k,.string rels[j].2.a,.string rels[j].2.b,.slice ao2 rels[j].2.ps.length c2'] 181);have hat3:=hat2.up hb1;have HBK:=h! (Blk.made wr #[.string rels[j].1,.int .i64 rels[j].2.k,.string rels[j].2.a,.string rels[j].2.b,.slice ao2 rels[j].2.ps.length c2'] 181);have hbx:=HBK.out.cells;have HB1:=h! hb1;clear c0 c1 c2 c3 c4 hat2 hb1 hbel;have HQ3:=h! (HQ2.out.trans (HB1.out.mono HQ2.out.size));have hbs:=(HS2.out.below HQ3.out).cells;have hbt:=(HBT0.out.below HB1.out).cells;have HBW:=h! (HBQ.out.trans (HB1.out.mono HBQ.out.size));generalize rels[j]=x at *;obtain⟨xn,p⟩:=x;dsimp only at *;have HR:=h! (named06_any ts ⟨tn,rels⟩ _ _ p _ _ (HTS.out.up HBW.out) (HRE.out.up HB1.out) hat3);unfold rV at HR;clear hat3 hbq;cases hn:p.named ts ⟨tn,rels⟩ with
          | true =>
           rw[hn]at HR;have HN:=h! (HUP2.out hn);clear HUP2 HBAD2 hn;go_wp2_with fail
           refine HR.out.mono ?_;rintro e w5 ⟨rfl,hb5⟩;have HB5:=h! (HB1.out.trans (hb5.mono HB1.out.size));clear HR hb5 hbx hbs hbt d0 d1 d2 d3 d4 HB1 HBK;go_wp2_with fail
           go_roundw
           case rel=>exact⟨j+1,by omega,by go_num,HN.out,HB5.out⟩
           case measure=>simp[intOf];omega
          | false =>
           rw[hn]at HR;have HF:=h! (HBAD2.out hn);clear HUP2 HBAD2 hn;go_wp2_with fail
           refine HR.out.mono ?_;rintro e w5 ⟨rfl,hb5⟩;have HB5:=h! (HBW.out.trans (hb5.mono HBW.out.size));clear HR hb5 hbx hbs hbt d0 d1 d2 d3 d4 HB1 HBK;go_wp2_with fail
           go_ret
           exact⟨by rw[HF.out];rfl,HB5.out⟩
         ·obtain rfl:j=rels.length:=by omega
          have HN:=h! (HUP.out (List.all_eq_true.2 fun x hx=>by
           obtain⟨m,hm,rfl⟩:=List.getElem_of_mem hx;exact HALL2.out m hm hm))
          have HBE:=h! (HQ2.out.trans (hbq.mono HQ2.out.size));have hlt2:=HI1.out;clear hbq;go_wp2_with fail
          go_roundw
          case rel=>exact⟨i+1,by omega,by go_num,HN.out,HBE.out⟩
          case measure=>simp[intOf];omega
       ·obtain rfl:i=ts.length:=by omega
        have HF:=h! (show g=0 from by
         rw[HG3.out,if_pos];unfold namesOk;rw[List.all_eq_true];intro x hx;obtain⟨m,hm,rfl⟩:=List.getElem_of_mem hx;exact HALL.out m hm hm)
        have HBE:=h! hbel;clear hbel hb2r;go_wp2_with fail
        go_ret
        exact⟨by rw[HF.out];rfl,HBE.out⟩
end Go.Proofs.YtlhaghoajpglaaaGreat
namespace Go.Proofs.YtlhaghoajpglaaaGreat
open Go Go.RowKit Go.Maps
abbrev RV:=RT × Value
def rvV (x:RV):Value:=rV x.1 x.2
abbrev WV:=List ByteArray × Value
def wvV (x:WV):Value:=x.2
def txs (l:List ByteArray):List Value:=l.map Value.string
theorem txs_one (l:List ByteArray):∀ u∈txs l,u.oneCell'=true:=by
 intro u hu;obtain⟨s,_,rfl⟩:=List.mem_map.1 hu;rfl
theorem txs_length (l:List ByteArray):(txs l).length=l.length:=by simp[txs]
theorem txs_append (a b:List ByteArray):txs (a++b)=txs a++txs b:=by simp[txs]
theorem textsT:ElemT Tryz.prog 169 9 1 16:=ElemT.mk' Tryz.underlying169 (show _=some (some (.string ByteArray.empty),1,16)by kernel_rfl) rfl (by decide)
def relsOf (n:ByteArray)(l:List (ByteArray × RT)):List (R2 × RT):=l.map fun r=>(⟨n,r.1⟩,r.2)
def refsOf (ts:List TyS):List (R2 × RT):=ts.flatMap fun t=>relsOf t.name t.rels
def whereP (P:List (R2 × RT))(n:ByteArray):List ByteArray:=(P.filter fun x=>decide (x.1.r=n)).map (·.1.t)
def optL (l:List ByteArray):Option (List ByteArray):=if l=[]then none else some l
theorem whereP_snoc (P:List (R2 × RT))(x:R2 × RT)(n:ByteArray):whereP (P++[x]) n=if x.1.r=n then whereP P n++[x.1.t]else whereP P n:=by
 unfold whereP;rw[List.filter_append,List.map_append];by_cases h:x.1.r=n
 ·simp[h]
 ·simp[h]
theorem refsOf_append (a b:List TyS):refsOf (a++b)=refsOf a++refsOf b:=List.flatMap_append
theorem refsOf_take {l:List TyS} {i:Nat} (hi:i<l.length):refsOf (l.take (i+1))=refsOf (l.take i)++relsOf l[i].name l[i].rels:=by
 rw[List.take_succ_eq_append_getElem hi,refsOf_append];simp[refsOf]
theorem relsOf_take {n:ByteArray} {l:List (ByteArray × RT)} {i:Nat} (hi:i<l.length):relsOf n (l.take (i+1))=relsOf n (l.take i)++[(⟨n,l[i].1⟩,l[i].2)]:=by
 rw[List.take_succ_eq_append_getElem hi];simp only[relsOf,List.map_append,List.map_cons,List.map_nil]
structure WhRows (w:World)(B:Nat)(lw:List (ByteArray × WV)):Prop where
 rows:∀ x∈lw,x.2.1≠[]/\Own w B 9 1 x.2.2 (txs x.2.1)
 apart:∀ x∈lw,∀ y∈lw,x.1≠y.1->x.2.2.ownBlock≠y.2.2.ownBlock
def BkR (S:Nat->Prop)(w:World)(b1:Nat)(P:List (R2 × RT)):Prop :=
 ∃ lr:List (R2 × RV),Mp Tryz.prog 121 r2V rvV w b1 lr/\lr.map (fun x=>(x.1,x.2.1))=P/\∀ x∈lr,RTAt S w x.2.1 x.2.2
def BkW (w:World)(B b3:Nat)(P:List (R2 × RT)):Prop :=
 ∃ lw:List (ByteArray × WV),Mp Tryz.prog 9 Value.string wvV w b3 lw/\WhRows w B lw/\∀ n,(lookA lw n).map (·.1)=optL (whereP P n)
theorem Own.notMap {w:World} {B:Nat} {e:TypeId} {sz:Nat} {v:Value} {xs:List Value} (h:Own w B e sz v xs) {b:Nat} (hb:∀ cs t fr,w.heap[b]?≠some (.cells cs t fr)):∀ g,v.ownBlock=some g->g≠b:=by
 intro g hg he;obtain⟨n,h⟩:=h;rcases h.2 with⟨rfl,_⟩ | ⟨g',cap,cur,rfl,hbg,hg',r⟩
 ·cases hg
 ·injection hg with hg
  subst hg he;exact hb _ _ _ hg'
theorem Mp.notCells {P:Program} {k:TypeId} {κ α:Type} {kv:κ->Value} {ev:α->Value} {w:World} {b:Nat} {l:List (κ × α)} (h:Mp P k kv ev w b l):∀ cs t fr,w.heap[b]?≠some (.cells cs t fr):=by
 obtain⟨es,clock,hb,_⟩:=h;intro cs t fr h;rw[hb]at h;cases h
theorem own_some {w:World} {B:Nat} {e:TypeId} {v:Value} {l:List ByteArray} (h:Own w B e 1 v (txs l))(hl:l≠[]):∃ g,v.ownBlock=some g:=by
 obtain⟨n,h⟩:=h;rcases h.2 with⟨rfl,rfl⟩ | ⟨g',cap,cur,rfl,hbg,hg',r⟩
 ·have:=h.1;rw[txs_length]at this;exact absurd (List.eq_nil_of_length_eq_zero (by omega)) hl
 ·exact⟨g',rfl⟩
theorem WhRows.keep {w w':World} {B:Nat} {lw:List (ByteArray × WV)} (h:WhRows w B lw)(hs:∀ x,B<=x->x<w.heap.size->(∃ cs,w.heap[x]?=some (.cells cs 9 (0,0)))->w'.heap[x]?=w.heap[x]?):WhRows w' B lw :=
 ⟨fun x hx=>⟨(h.rows x hx).1,(h.rows x hx).2.keepB fun g hg=>by
  have ho:=(h.rows x hx).2;have hb:=ho.block g hg;refine hs g hb.1 hb.2 ?_;obtain⟨n,ho⟩:=ho;rcases ho.2 with⟨h0,_⟩ | ⟨g',cap,cur,h0,hbg,hg',r⟩
  ·rw[h0]at hg;cases hg
  ·rw[h0]at hg;injection hg with hg
   subst hg;exact⟨_,hg'⟩⟩,h.apart⟩
theorem put_mem {κ α:Type} [DecidableEq κ] (a:κ)(y:α)(x:κ × α):∀ {l:List (κ × α)},(l.map (·.1)).Nodup->x∈putA l a y->x=(a,y)\/(x∈l/\x.1≠a)
 | [],_,h=>by simp[putA]at h;exact .inl h
 | p::r,hn,h=>by
  simp only[List.map_cons,List.nodup_cons]at hn;unfold putA at h;split at h
  ·rename_i e
   rcases List.mem_cons.1 h with h | h
   ·exact .inl h
   ·exact .inr ⟨by simp[h],fun e2=>hn.1 (by rw[e,<- e2];exact List.mem_map.2 ⟨x,h,rfl⟩)⟩
  ·rename_i e
   rcases List.mem_cons.1 h with h | h
   ·exact .inr ⟨by simp[h],h▸e⟩
   ·rcases put_mem a y x hn.2 h with h | h
    ·exact .inl h
    ·exact .inr ⟨by simp[h.1],h.2⟩
theorem WhRows.put {w w1 w2 w3:World} {B b3:Nat} {lw:List (ByteArray × WV)} (h:WhRows w B lw) {n:ByteArray} {names:List ByteArray} {v v':Value} (hl:(lookA lw n=some (names,v))\/(lookA lw n=none/\names=[]/\v = .slice none 0 0))
  (h1:Below w.heap.size w w1) (h2:w1.grownBy w2 v.ownBlock) {tn:ByteArray} (ho:Own w2 B 9 1 v' (txs (names++[tn]))) (hw:∀ g,v'.ownBlock=some g->v.ownBlock=some g\/w1.heap.size<=g)
  (hm:Mp Tryz.prog 9 Value.string wvV w b3 lw) (hm2:Mp Tryz.prog 9 Value.string wvV w2 b3 lw) (ht:Turned w2 w3 b3):WhRows w3 B (putA lw n (names++[tn],v')):=by
 have hnd:=hm.nodup
 have old:∀ x∈lw,x.1≠n->∀ g,x.2.2.ownBlock=some g->v.ownBlock≠some g:=fun x hx hne g hg e=>by
  rcases hl with hl | ⟨_,_,rfl⟩
  ·exact h.apart x hx _ (look_mem hl) hne (hg.trans e.symm)
  ·cases e
 have lt:∀ x∈lw,∀ g,x.2.2.ownBlock=some g->g<w.heap.size:=fun x hx g hg=>((h.rows x hx).2.block g hg).2;refine⟨fun x hx=>?_,fun x hx y hy hne=>?_⟩
 ·rcases put_mem _ _ _ hnd hx with rfl | ⟨hx,hxn⟩
  ·exact⟨by simp,ho.keepB fun g hg=>ht.kept.block g (ho.notMap hm2.notCells g hg)⟩
  ·have hr:=(h.rows x hx).2;have hr1:=hr.below h1;refine⟨(h.rows x hx).1,hr1.keepB fun g hg=>?_⟩;have hg1:=lt x hx g hg;have hs1:=h1.size;refine(ht.kept.block g ?_).trans (h2.block g (by omega) fun e=>old x hx hxn g hg e.symm);intro e;subst e;exact hr.notMap hm.notCells g hg rfl
 ·rcases put_mem _ _ _ hnd hx with rfl | ⟨hx,hxn⟩ <;> rcases put_mem _ _ _ hnd hy with rfl | ⟨hy,hyn⟩
  ·exact absurd rfl hne
  ·intro e;obtain⟨g,hg⟩:=own_some ho (by simp);have hg2:y.2.2.ownBlock=some g:=e.symm.trans hg;rcases hw g hg with h3 | h3
   ·exact old y hy hyn g hg2 h3
   ·have:=lt y hy g hg2;have:=h1.size;omega
  ·intro e;obtain⟨g,hg⟩:=own_some ho (by simp);have hg2:x.2.2.ownBlock=some g:=e.trans hg;rcases hw g hg with h3 | h3
   ·exact old x hx hxn g hg2 h3
   ·have:=lt x hx g hg2;have:=h1.size;omega
  ·exact h.apart x hx y hy hne
section
variable {S : Nat -> Prop} {w w' : World} {B b1 b3 : Nat} {P : List (R2 × RT)}
theorem BkR.lt (h:BkR S w b1 P):b1<w.heap.size:=by
 obtain⟨lr,h1,_⟩:=h;exact h1.lt
theorem BkR.notCells (h:BkR S w b1 P):∀ cs t fr,w.heap[b1]?≠some (.cells cs t fr):=by
 obtain⟨lr,h1,_⟩:=h;exact h1.notCells
theorem BkR.same (h:BkR S w b1 P)(hb:w'.heap[b1]?=w.heap[b1]?)(hs:Same S w w'):BkR S w' b1 P:=by
 obtain⟨lr,h1,h2,h3⟩:=h;exact⟨lr,h1.same hb,h2,fun x hx=>(h3 x hx).same hs⟩
theorem BkR.up (h:BkR (· < w.heap.size) w b1 P)(hb:Below w.heap.size w w'):BkR (· < w'.heap.size) w' b1 P:=by
 obtain⟨lr,h1,h2,h3⟩:=h;exact⟨lr,h1.below hb,h2,fun x hx=>(h3 x hx).up hb⟩
theorem BkW.lt (h:BkW w B b3 P):b3<w.heap.size:=by
 obtain⟨lw,h1,_⟩:=h;exact h1.lt
theorem BkW.keep (h:BkW w B b3 P)(hb:w'.heap[b3]?=w.heap[b3]?)(hs:∀ x,B<=x->x<w.heap.size->(∃ cs,w.heap[x]?=some (.cells cs 9 (0,0)))->w'.heap[x]?=w.heap[x]?):BkW w' B b3 P:=by
 obtain⟨lw,h1,h2,h3⟩:=h;exact⟨lw,h1.same hb,h2.keep hs,h3⟩
theorem BkW.up (h:BkW w B b3 P)(hb:Below w.heap.size w w'):BkW w' B b3 P:=h.keep (hb.block _ h.lt) fun x _ hx _=>hb.block x hx
theorem BkW.turned (h:BkW w B b3 P) {b:Nat} (ht:Turned w w' b)(hb:b3≠b)(hc:∀ cs t fr,w.heap[b]?≠some (.cells cs t fr)):BkW w' B b3 P :=
 h.keep (ht.kept.block _ hb) fun x _ _ hx=>ht.kept.block x fun e=>by
  obtain⟨cs,hx⟩:=hx;exact hc _ _ _ (e▸hx)
theorem pairs_look {α β:Type} {f:α->β} {k:R2}:∀ {l:List (R2 × α)} {P:List (R2 × β)},l.map (fun x=>(x.1,f x.2))=P->(lookA l k).map f=lookA P k
 | [],P,h=>by subst h;rfl
 | x::l,P,h=>by
  subst h;simp only[List.map_cons,lookA];split
  ·rfl
  ·exact pairs_look rfl
theorem BkR.look (h:BkR S w b1 P)(k:R2)(hk:k.Ok):∃ z:RV,(Instr.lookup 225 (.map (some b1)) (r2V k) true).run Tryz.prog w = .ok (.tuple #[rvV z,.bool (lookA P k).isSome]) w/\RTAt S w z.1 z.2/\(∀ r,lookA P k=some r->z.1=r)/\(lookA P k=none->z=(.mk 0 ByteArray.empty ByteArray.empty [],.slice none 0 0)):=by
 obtain⟨lr,h1,h2,h3⟩:=h;have hl:=pairs_look (f:=fun x:RV=>x.1) (k:=k) h2;have hrun:=h1.look refK r2V_inj Tryz.underlying225 (Tryz.zeroValue106 w) true (ref_key k hk);cases hlk:lookA lr k with
 | none =>
  rw[hlk]at hl hrun;refine⟨(.mk 0 ByteArray.empty ByteArray.empty [],.slice none 0 0),?_,?_,?_,fun _=>rfl⟩
  ·rw[hrun,<- hl];rfl
  ·exact(RTAt.iff _ _).2 ⟨[],rfl,by simp,Sl.nil _ _ _⟩
  ·intro r hr;rw[<- hl]at hr;cases hr
 | some x =>
  rw[hlk]at hl hrun;refine⟨x,?_,h3 _ (look_mem hlk),?_,?_⟩
  ·rw[hrun,<- hl];rfl
  ·intro r hr;rw[<- hl]at hr;injection hr
  ·intro hr;rw[<- hl]at hr;cases hr
theorem BkR.store (h:BkR S w b1 P) {k:R2} (hk:k.Ok) {r:RT} {pv:Value} (hr:RTAt S w r pv)(hS:∀ x,S x->x≠b1)(hn:lookA P k=none) :
  ∃ w',(Instr.mapUpdate 225 (.map (some b1)) (r2V k) (rV r pv)).run Tryz.prog w = .ok () w'/\BkR S w' b1 (P++[(k,r)])/\Turned w w' b1:=by
 obtain⟨lr,h1,h2,h3⟩:=h;obtain⟨w',hrun,hM,hT⟩:=h1.store refK r2V_inj Tryz.underlying225 (ref_key k hk) ((r,pv):RV);have hl:=pairs_look (f:=fun x:RV=>x.1) (k:=k) h2;rw[hn]at hl;have hln:lookA lr k=none:=by cases hlk:lookA lr k with | none=>rfl | some x=>rw[hlk]at hl;cases hl
 rw[put_miss (look_none_iff.1 hln)]at hM;refine⟨w',hrun,⟨_,hM,by rw[List.map_append,h2];rfl,fun x hx=>?_⟩,hT⟩;have hs:Same S w w':=fun x hx=>hT.kept.block x (hS x hx);rcases List.mem_append.1 hx with hx | hx
 ·exact(h3 x hx).same hs
 ·obtain rfl:=List.mem_singleton.1 hx;exact hr.same hs
theorem BkW.look (h:BkW w B b3 P)(n:ByteArray)(hn:n.size<=maxLen):∃ v,(Instr.lookup 227 (.map (some b3)) (.string n) false).run Tryz.prog w = .ok v w/\Own w B 9 1 v (txs (whereP P n))/\∃ lw,Mp Tryz.prog 9 Value.string wvV w b3 lw/\WhRows w B lw/\(∀ n,(lookA lw n).map (·.1)=optL (whereP P n))/\(lookA lw n=some (whereP P n,v)\/(lookA lw n=none/\whereP P n=[]/\v = .slice none 0 0)):=by
 obtain⟨lw,h1,h2,h3⟩:=h;have hl:=h3 n;have hrun:=h1.look strK strV_inj Tryz.underlying227 (Tryz.zeroValue169 w) false (str_key n hn);cases hlk:lookA lw n with
 | none =>
  rw[hlk]at hl hrun
  have hw:whereP P n=[]:=by
   unfold optL at hl;split at hl
   ·assumption
   ·cases hl
  exact⟨.slice none 0 0,hrun,by rw[hw];exact Own.nil _ _ _ _,lw,h1,h2,h3,.inr ⟨hlk,hw,rfl⟩⟩
 | some x =>
  rw[hlk]at hl hrun
  have hw:x.1=whereP P n:=by
   unfold optL at hl;split at hl
   ·cases hl
   ·injection hl
  have hm:=h2.rows _ (look_mem hlk);refine⟨x.2,hrun,by rw[<- hw];exact hm.2,lw,h1,h2,h3,.inl ?_⟩;rw[hlk,<- hw]
theorem BkW.put {w1 w2:World} {lw:List (ByteArray × WV)} {k:R2} {r:RT} {v v':Value} (hM:Mp Tryz.prog 9 Value.string wvV w b3 lw)(hR:WhRows w B lw)(hL:∀ n,(lookA lw n).map (·.1)=optL (whereP P n))
  (hl:lookA lw k.r=some (whereP P k.r,v)\/(lookA lw k.r=none/\whereP P k.r=[]/\v = .slice none 0 0)) (h1:Below w.heap.size w w1) (h2:w1.grownBy w2 v.ownBlock) (ho0:Own w B 9 1 v (txs (whereP P k.r))) (ho:Own w2 B 9 1 v' (txs (whereP P k.r++[k.t])))
  (hw:∀ g,v'.ownBlock=some g->v.ownBlock=some g\/w1.heap.size<=g) (hk:k.r.size<=maxLen) :
  ∃ w',(Instr.mapUpdate 227 (.map (some b3)) (.string k.r) v').run Tryz.prog w2 = .ok () w'/\BkW w' B b3 (P++[(k,r)])/\Turned w2 w' b3:=by
 have hm1:=hM.below h1;have hm2:Mp Tryz.prog 9 Value.string wvV w2 b3 lw:=hm1.same (h2.block b3 hm1.lt (fun e=>((ho0.below h1).notMap hm1.notCells) b3 e.symm rfl));obtain⟨w',hrun,hM',hT⟩:=hm2.store strK strV_inj Tryz.underlying227 (str_key k.r hk) ((whereP P k.r++[k.t],v'):WV);refine⟨w',hrun,⟨_,hM',hR.put (names:=whereP P k.r) (v:=v) ?_ h1 h2 ho hw hM hm2 hT,fun n=>?_⟩,hT⟩
 ·rcases hl with hl | ⟨h3,h4,h5⟩
  ·exact .inl hl
  ·exact .inr ⟨h3,h4,h5⟩
 ·rw[look_put,whereP_snoc];by_cases e:k.r=n
  ·rw[if_pos e,if_pos e];subst e;unfold optL;rw[if_neg (by simp)];rfl
  ·rw[if_neg e,if_neg e];exact hL n
end
end Go.Proofs.YtlhaghoajpglaaaGreat
namespace Go.Proofs.YtlhaghoajpglaaaGreat
open Go Go.RowKit
def chkT (t:Tup):Bool:=isNm t.o.t&&isNm t.o.i&&isNm t.o.r&&isNm t.s.t&&isNm t.s.i&&(isNm t.s.r||decide (t.s.r.size=0))
def chkN (t:Tup):Int:=if chkT t then 0 else 2
theorem of_any (t:Tup)(w:World):Calls Tryz.prog 139 #[tV t] w fun e w'=>e = .returned (tV t)/\Below w.heap.size w w':=by
 obtain⟨⟨ot,oi,or_⟩,⟨st,si,sr⟩⟩:=t;have hb:=(Blk.made w #[.string ot,.string oi,.string or_,.string st,.string si,.string sr] 67);have h1:Below w.heap.size w (w.alloc (.cells #[.string ot,.string oi,.string or_,.string st,.string si,.string sr] 67)):=(Below.refl _ _).alloc (Nat.le_refl _) _;unfold tV;dsimp only;go_enter Tryz.func139,Tryz.ntmps139
 go_wp2_with fail
 refine bodyPost_ret (results_cell_row rfl _ _ (w.heap.size+1) 237 #[.string ot,.string oi,.string or_,.string st,.string si,.string sr] (0,0) _ rfl ?_ Tryz.underlying237 rfl (by kernel_rfl)) rfl ⟨rfl,h1.alloc h1.size _⟩;have:=heap_alloc_new (w.alloc (.cells #[.string ot,.string oi,.string or_,.string st,.string si,.string sr] 67)) (.cells #[.string ot,.string oi,.string or_,.string st,.string si,.string sr] 237);rwa[World.size_alloc]at this
theorem parts_at (a b c d e f:ByteArray)(W:World) :
  (Instr.index 237 (.agg #[.string a,.string b,.string c,.string d,.string e,.string f]) (.int .i64 0)).run Tryz.prog W = .ok (.string a) W /\
  (Instr.index 237 (.agg #[.string a,.string b,.string c,.string d,.string e,.string f]) (.int .i64 1)).run Tryz.prog W = .ok (.string b) W /\
  (Instr.index 237 (.agg #[.string a,.string b,.string c,.string d,.string e,.string f]) (.int .i64 2)).run Tryz.prog W = .ok (.string c) W /\
  (Instr.index 237 (.agg #[.string a,.string b,.string c,.string d,.string e,.string f]) (.int .i64 3)).run Tryz.prog W = .ok (.string d) W /\
  (Instr.index 237 (.agg #[.string a,.string b,.string c,.string d,.string e,.string f]) (.int .i64 4)).run Tryz.prog W = .ok (.string e) W /\
  (Instr.index 237 (.agg #[.string a,.string b,.string c,.string d,.string e,.string f]) (.int .i64 5)).run Tryz.prog W = .ok (.string f) W :=
 ⟨by kernel_rfl,by kernel_rfl,by kernel_rfl,by kernel_rfl,by kernel_rfl,by kernel_rfl⟩
theorem check_any (t:Tup)(ht:t.Ok)(w:World):Calls Tryz.prog 80 #[tV t] w fun e w'=>e = .returned (.int .i64 (chkN t))/\Below w.heap.size w w':=by
 obtain⟨⟨ot,oi,or_⟩,⟨st,si,sr⟩⟩:=t;have HOK:=h! ht;clear ht;have hb1:=(Blk.made w #[.string ot,.string oi,.string or_,.string st,.string si,.string sr] 67).cells;have HE:=h! (show Below w.heap.size w (w.alloc (.cells #[.string ot,.string oi,.string or_,.string st,.string si,.string sr] 67))from(Below.refl _ _).alloc (Nat.le_refl _) _);have HOF:=h! (of_any ⟨⟨ot,oi,or_⟩,⟨st,si,sr⟩⟩ (w.alloc (.cells #[.string ot,.string oi,.string or_,.string st,.string si,.string sr] 67)));unfold tV at HOF ⊢;dsimp only at HOF ⊢;unfold Tup.Ok P3.Ok at HOK;dsimp only at HOK;go_enter Tryz.func80,Tryz.ntmps80
 go_wp2_with fail
 refine HOF.out.mono ?_;rintro e w2 ⟨rfl,hb2⟩;have HBW:=h! (HE.out.trans (hb2.mono HE.out.size));clear HE HOF hb2 hb1;obtain⟨p0,p1,p2,p3,p4,p5⟩:=parts_at ot oi or_ st si sr w2;go_wp2_with fail
 refine wp_loop_rounds 7 ?_;rw[rounds_succ];go_wp2_with fail
 refine(isName_any ot HOK.out.1.1 _).mono ?_;rintro e w' ⟨rfl,rfl⟩;rcases hb0:isNm ot with _ | _
 ·have HB:=h! hb0;clear hb0;go_wp2_with fail
  go_ret
  exact⟨congrArg (fun n=>Ending.returned (.int .i64 n)) (show(2:Int)=chkN ⟨⟨ot,oi,or_⟩,⟨st,si,sr⟩⟩from by simp[chkN,chkT,HB.out]),HBW.out⟩
 have HB0:=h! hb0;clear hb0;go_wp2_with fail
 rw[rounds_succ];go_wp2_with fail
 refine(isName_any oi HOK.out.1.2.1 _).mono ?_;rintro e w' ⟨rfl,rfl⟩;rcases hb1:isNm oi with _ | _
 ·have HB:=h! hb1;clear hb1;go_wp2_with fail
  go_ret
  exact⟨congrArg (fun n=>Ending.returned (.int .i64 n)) (show(2:Int)=chkN ⟨⟨ot,oi,or_⟩,⟨st,si,sr⟩⟩from by simp[chkN,chkT,HB.out]),HBW.out⟩
 have HB1:=h! hb1;clear hb1;go_wp2_with fail
 rw[rounds_succ];go_wp2_with fail
 refine(isName_any or_ HOK.out.1.2.2 _).mono ?_;rintro e w' ⟨rfl,rfl⟩;rcases hb2:isNm or_ with _ | _
 ·have HB:=h! hb2;clear hb2;go_wp2_with fail
  go_ret
  exact⟨congrArg (fun n=>Ending.returned (.int .i64 n)) (show(2:Int)=chkN ⟨⟨ot,oi,or_⟩,⟨st,si,sr⟩⟩from by simp[chkN,chkT,HB.out]),HBW.out⟩
 have HB2:=h! hb2;clear hb2;go_wp2_with fail
 rw[rounds_succ];go_wp2_with fail
 refine(isName_any st HOK.out.2.1 _).mono ?_;rintro e w' ⟨rfl,rfl⟩;rcases hb3:isNm st with _ | _
 ·have HB:=h! hb3;clear hb3;go_wp2_with fail
  go_ret
  exact⟨congrArg (fun n=>Ending.returned (.int .i64 n)) (show(2:Int)=chkN ⟨⟨ot,oi,or_⟩,⟨st,si,sr⟩⟩from by simp[chkN,chkT,HB.out]),HBW.out⟩
 have HB3:=h! hb3;clear hb3;go_wp2_with fail
 rw[rounds_succ];go_wp2_with fail
 refine(isName_any si HOK.out.2.2.1 _).mono ?_;rintro e w' ⟨rfl,rfl⟩;rcases hb4:isNm si with _ | _
 ·have HB:=h! hb4;clear hb4;go_wp2_with fail
  go_ret
  exact⟨congrArg (fun n=>Ending.returned (.int .i64 n)) (show(2:Int)=chkN ⟨⟨ot,oi,or_⟩,⟨st,si,sr⟩⟩from by simp[chkN,chkT,HB.out]),HBW.out⟩
 have HB4:=h! hb4;clear hb4;go_wp2_with fail
 rw[rounds_succ];go_wp2_with fail
 refine(isName_any sr HOK.out.2.2.2 _).mono ?_;rintro e w' ⟨rfl,rfl⟩;rcases hb5:isNm sr with _ | _
 ·have HB5:=h! hb5;clear hb5;by_cases h0:sr.size=0
  ·obtain rfl:=ba_size_eq h0;clear h0;go_wp2_with fail
   rw[rounds_succ];go_wp2_with fail
   go_ret
   exact⟨congrArg (fun n=>Ending.returned (.int .i64 n)) (show(0:Int)=chkN ⟨⟨ot,oi,or_⟩,⟨st,si,⟨#[]⟩⟩⟩from by simp[chkN,chkT,HB0.out,HB1.out,HB2.out,HB3.out,HB4.out,show(ByteArray.mk #[]).size=0 from rfl]),HBW.out⟩
  ·have hne:=ba_size_ne h0;have H0:=h! h0;clear h0;go_wp2_with fail
   go_ret
   exact⟨congrArg (fun n=>Ending.returned (.int .i64 n)) (show(2:Int)=chkN ⟨⟨ot,oi,or_⟩,⟨st,si,sr⟩⟩from by simp[chkN,chkT,HB5.out,H0.out]),HBW.out⟩
 ·have HB5:=h! hb5;clear hb5;go_wp2_with fail
  rw[rounds_succ];go_wp2_with fail
  go_ret
  exact⟨congrArg (fun n=>Ending.returned (.int .i64 n)) (show(0:Int)=chkN ⟨⟨ot,oi,or_⟩,⟨st,si,sr⟩⟩from by simp[chkN,chkT,HB0.out,HB1.out,HB2.out,HB3.out,HB4.out,HB5.out]),HBW.out⟩
theorem parts_any (t:Tup)(w:World):Calls Tryz.prog 100 #[tV t] w fun e w'=>e = .returned (.slice (some ⟨w.heap.size+1,0,none⟩) 6 6) /\
  Blk w' (w.heap.size+1) #[.string t.o.t,.string t.o.i,.string t.o.r,.string t.s.t,.string t.s.i,.string t.s.r] 9/\Below w.heap.size w w':=by
 obtain⟨⟨ot,oi,or_⟩,⟨st,si,sr⟩⟩:=t;have hb:=(Blk.made w #[.string ot,.string oi,.string or_,.string st,.string si,.string sr] 67);have h1:Below w.heap.size w (w.alloc (.cells #[.string ot,.string oi,.string or_,.string st,.string si,.string sr] 67)):=(Below.refl _ _).alloc (Nat.le_refl _) _;unfold tV;dsimp only;go_enter Tryz.func100,Tryz.ntmps100
 go_wp2_with fail
 go_ret
 refine⟨rfl,?_,h1.alloc h1.size _⟩;have:=heap_alloc_new (w.alloc (.cells #[.string ot,.string oi,.string or_,.string st,.string si,.string sr] 67)) (.cells #[.string ot,.string oi,.string or_,.string st,.string si,.string sr] 9);rwa[World.size_alloc]at this
theorem refCheck_any (t:Tup)(ht:t.Ok)(w:World):Calls Tryz.prog 108 #[tV t] w fun e w'=>e = .returned (.int .i64 (chkN t))/\Below w.heap.size w w':=by
 obtain⟨⟨ot,oi,or_⟩,⟨st,si,sr⟩⟩:=t;have HOK:=h! ht;clear ht;have hb1:=(Blk.made w #[.string ot,.string oi,.string or_,.string st,.string si,.string sr] 67).cells;have HE:=h! (show Below w.heap.size w (w.alloc (.cells #[.string ot,.string oi,.string or_,.string st,.string si,.string sr] 67))from(Below.refl _ _).alloc (Nat.le_refl _) _);have HOF:=h! (parts_any ⟨⟨ot,oi,or_⟩,⟨st,si,sr⟩⟩ (w.alloc (.cells #[.string ot,.string oi,.string or_,.string st,.string si,.string sr] 67)));unfold tV at HOF ⊢;dsimp only at HOF ⊢;unfold Tup.Ok P3.Ok at HOK;dsimp only at HOK;go_enter Tryz.func108,Tryz.ntmps108
 go_wp2_with fail
 refine HOF.out.mono ?_;rintro e w2 ⟨rfl,hP,hb2⟩;have HBW:=h! (HE.out.trans (hb2.mono HE.out.size));clear HE HOF hb2 hb1;have cP:=hP.cells;simp only[World.size_alloc]at cP ⊢;go_wp2_with fail
 refine wp_loop_rounds 7 ?_;rw[rounds_succ];go_wp2_with fail
 refine(refName_any ot HOK.out.1.1 _).mono ?_;rintro e w' ⟨rfl,rfl⟩;rcases hb0:isNm ot with _ | _
 ·have HB:=h! hb0;clear hb0;go_wp2_with fail
  go_ret
  exact⟨congrArg (fun n=>Ending.returned (.int .i64 n)) (show(2:Int)=chkN ⟨⟨ot,oi,or_⟩,⟨st,si,sr⟩⟩from by simp[chkN,chkT,HB.out]),HBW.out⟩
 have HB0:=h! hb0;clear hb0;go_wp2_with fail
 rw[rounds_succ];go_wp2_with fail
 refine(refName_any oi HOK.out.1.2.1 _).mono ?_;rintro e w' ⟨rfl,rfl⟩;rcases hb1:isNm oi with _ | _
 ·have HB:=h! hb1;clear hb1;go_wp2_with fail
  go_ret
  exact⟨congrArg (fun n=>Ending.returned (.int .i64 n)) (show(2:Int)=chkN ⟨⟨ot,oi,or_⟩,⟨st,si,sr⟩⟩from by simp[chkN,chkT,HB.out]),HBW.out⟩
 have HB1:=h! hb1;clear hb1;go_wp2_with fail
 rw[rounds_succ];go_wp2_with fail
 refine(refName_any or_ HOK.out.1.2.2 _).mono ?_;rintro e w' ⟨rfl,rfl⟩;rcases hb2:isNm or_ with _ | _
 ·have HB:=h! hb2;clear hb2;go_wp2_with fail
  go_ret
  exact⟨congrArg (fun n=>Ending.returned (.int .i64 n)) (show(2:Int)=chkN ⟨⟨ot,oi,or_⟩,⟨st,si,sr⟩⟩from by simp[chkN,chkT,HB.out]),HBW.out⟩
 have HB2:=h! hb2;clear hb2;go_wp2_with fail
 rw[rounds_succ];go_wp2_with fail
 refine(refName_any st HOK.out.2.1 _).mono ?_;rintro e w' ⟨rfl,rfl⟩;rcases hb3:isNm st with _ | _
 ·have HB:=h! hb3;clear hb3;go_wp2_with fail
  go_ret
  exact⟨congrArg (fun n=>Ending.returned (.int .i64 n)) (show(2:Int)=chkN ⟨⟨ot,oi,or_⟩,⟨st,si,sr⟩⟩from by simp[chkN,chkT,HB.out]),HBW.out⟩
 have HB3:=h! hb3;clear hb3;go_wp2_with fail
 rw[rounds_succ];go_wp2_with fail
 refine(refName_any si HOK.out.2.2.1 _).mono ?_;rintro e w' ⟨rfl,rfl⟩;rcases hb4:isNm si with _ | _
 ·have HB:=h! hb4;clear hb4;go_wp2_with fail
  go_ret
  exact⟨congrArg (fun n=>Ending.returned (.int .i64 n)) (show(2:Int)=chkN ⟨⟨ot,oi,or_⟩,⟨st,si,sr⟩⟩from by simp[chkN,chkT,HB.out]),HBW.out⟩
 have HB4:=h! hb4;clear hb4;go_wp2_with fail
 rw[rounds_succ];go_wp2_with fail
 refine(refName_any sr HOK.out.2.2.2 _).mono ?_;rintro e w' ⟨rfl,rfl⟩;rcases hb5:isNm sr with _ | _
 ·have HB5:=h! hb5;clear hb5;by_cases h0:sr.size=0
  ·obtain rfl:=ba_size_eq h0;clear h0;go_wp2_with fail
   rw[rounds_succ];go_wp2_with fail
   go_ret
   exact⟨congrArg (fun n=>Ending.returned (.int .i64 n)) (show(0:Int)=chkN ⟨⟨ot,oi,or_⟩,⟨st,si,⟨#[]⟩⟩⟩from by simp[chkN,chkT,HB0.out,HB1.out,HB2.out,HB3.out,HB4.out,show(ByteArray.mk #[]).size=0 from rfl]),HBW.out⟩
  ·have hne:=ba_size_ne h0;have H0:=h! h0;clear h0;go_wp2_with fail
   go_ret
   exact⟨congrArg (fun n=>Ending.returned (.int .i64 n)) (show(2:Int)=chkN ⟨⟨ot,oi,or_⟩,⟨st,si,sr⟩⟩from by simp[chkN,chkT,HB5.out,H0.out]),HBW.out⟩
 ·have HB5:=h! hb5;clear hb5;go_wp2_with fail
  rw[rounds_succ];go_wp2_with fail
  go_ret
  exact⟨congrArg (fun n=>Ending.returned (.int .i64 n)) (show(0:Int)=chkN ⟨⟨ot,oi,or_⟩,⟨st,si,sr⟩⟩from by simp[chkN,chkT,HB0.out,HB1.out,HB2.out,HB3.out,HB4.out,HB5.out]),HBW.out⟩
def subsOf (T:List Tup)(p:P3):List P3:=(T.filter fun t=>decide (t.o=p)).map (·.s)
inductive FT where
 | mk (k:Int) (subs:List P3) (refs:List Int) (ps:List FT)
def FT.k:FT->Int | .mk k _ _ _=>k
def FT.subs:FT->List P3 | .mk _ s _ _=>s
def FT.refs:FT->List Int | .mk _ _ r _=>r
def FT.ps:FT->List FT | .mk _ _ _ ps=>ps
def FT.zero:FT := .mk 0 [] [] []
instance:Inhabited FT:=⟨FT.zero⟩
mutual
def FT.sz:FT->Nat | .mk _ _ _ ps=>1+fszL ps
def fszL:List FT->Nat | []=>0 | r::rs=>r.sz+fszL rs
end
theorem fszL_mem {p:FT}:∀ {ps:List FT},p∈ps->p.sz<=fszL ps
 | r::rs,h=>by
  rw[fszL];rcases List.mem_cons.1 h with rfl | h
  ·omega
  ·have:=fszL_mem h;omega
theorem FT.sz_lt {r p:FT} (h:p∈r.ps):p.sz<r.sz:=by
 obtain⟨k,a,b,ps⟩:=r;have:=fszL_mem (show p∈ps from h);rw[FT.sz];omega
theorem FT.ind {Q:FT->Prop} (h:∀ r,(∀ p∈r.ps,Q p)->Q r)(r:FT):Q r:=by
 generalize hn:r.sz=n;induction n using Nat.strongRecOn generalizing r with
 | ind n ih=>exact h r fun p hp=>ih p.sz (by have:=FT.sz_lt hp;omega) p rfl
def numD (ps:List P3)(p:P3):Nat:=ps.findIdx fun x=>decide (x=p)
def putP (ps:List P3)(p:P3):List P3:=if p∈ps then ps else ps++[p]
def refsD:List P3->List Int->List P3->List Int × List P3
 | ps,out,[]=>(out,ps)
 | ps,out,p::l=>refsD (putP ps p) (if (numD ps p:Int)∈out then out else out++[(numD ps p:Int)]) l
theorem refsD_snoc:∀ (l:List P3)(ps:List P3)(out:List Int)(p:P3),refsD ps out (l++[p])=(if (numD (refsD ps out l).2 p:Int)∈(refsD ps out l).1 then(refsD ps out l).1 else(refsD ps out l).1++[(numD (refsD ps out l).2 p:Int)],putP (refsD ps out l).2 p)
 | [],ps,out,p=>rfl
 | x::l,ps,out,p=>by rw[List.cons_append,refsD,refsD,refsD_snoc l]
def setsOf (l:List P3):List P3:=l.filter fun s=>decide (s.r≠⟨#[]⟩)
def viaOf (b:ByteArray)(l:List P3):List P3:=(l.filter fun s=>decide (s.r=⟨#[]⟩)).map fun s=>⟨s.t,s.i,b⟩
def headF (T:List Tup)(p:P3)(k:Int)(a b:ByteArray)(ps:List P3):List P3 × List Int × List P3 :=
 if k=1 then(subsOf T p,refsD ps [] (setsOf (subsOf T p)))
 else if k=2 then([],[(numD ps ⟨p.t,p.i,a⟩:Int)],putP ps ⟨p.t,p.i,a⟩)
 else if k=3 then([],refsD ps [] (viaOf b (subsOf T ⟨p.t,p.i,a⟩)))
 else([],[],ps)
mutual
def formD (T:List Tup)(p:P3):RT->List P3->FT × List P3
 | .mk k a b parts,ps=>(.mk k (headF T p k a b ps).1 (headF T p k a b ps).2.1 (formsD T p parts (headF T p k a b ps).2.2).1,(formsD T p parts (headF T p k a b ps).2.2).2)
def formsD (T:List Tup)(p:P3):List RT->List P3->List FT × List P3
 | [],ps=>([],ps)
 | r::rs,ps=>((formD T p r ps).1::(formsD T p rs (formD T p r ps).2).1,(formsD T p rs (formD T p r ps).2).2)
end
theorem formD_eq (T:List Tup)(p:P3)(r:RT)(ps:List P3):formD T p r ps=(.mk r.k (headF T p r.k r.a r.b ps).1 (headF T p r.k r.a r.b ps).2.1 (formsD T p r.ps (headF T p r.k r.a r.b ps).2.2).1,(formsD T p r.ps (headF T p r.k r.a r.b ps).2.2).2):=by
 obtain⟨k,a,b,parts⟩:=r;rw[formD];rfl
theorem formsD_snoc (T:List Tup)(p:P3):∀ (rs:List RT)(r:RT)(ps:List P3),formsD T p (rs++[r]) ps=((formsD T p rs ps).1++[(formD T p r (formsD T p rs ps).2).1],(formD T p r (formsD T p rs ps).2).2)
 | [],r,ps=>by simp[formsD]
 | x::rs,r,ps=>by rw[List.cons_append,formsD,formsD_snoc T p rs r,formsD];rfl
theorem formsD_take (T:List Tup)(p:P3)(rs:List RT)(ps:List P3)(i:Nat)(h:i<rs.length):formsD T p (rs.take (i+1)) ps=((formsD T p (rs.take i) ps).1++[(formD T p rs[i] (formsD T p (rs.take i) ps).2).1],(formD T p rs[i] (formsD T p (rs.take i) ps).2).2):=by
 rw[List.take_succ_eq_append_getElem h,formsD_snoc]
def ruleOf (ts:List TyS)(shut:List R2)(p:P3):Option RT:=if (⟨p.t,p.r⟩:R2)∈shut then none else lookA (refsOf ts) ⟨p.t,p.r⟩
def stepG (ts:List TyS)(T:List Tup)(shut:List R2)(p:P3)(ps:List P3):FT × List P3 :=
 match ruleOf ts shut p with
 | some r=>formD T p r ps
 | none=>(FT.zero,ps)
def walkN (ts:List TyS)(T:List Tup)(shut:List R2)(p:P3):Nat->List P3 × List FT
 | 0=>([p],[])
 | n+1=>((stepG ts T shut ((walkN ts T shut p n).1.getD n p) (walkN ts T shut p n).1).2,(walkN ts T shut p n).2++[(stepG ts T shut ((walkN ts T shut p n).1.getD n p) (walkN ts T shut p n).1).1])
/-! What stays true of the points. -/
theorem putP_pre (ps:List P3)(p:P3):ps <+: putP ps p:=by
 unfold putP;split
 ·exact List.prefix_refl _
 ·exact List.prefix_append _ _
theorem putP_mem (ps:List P3)(p x:P3):x∈putP ps p↔x∈ps\/x=p:=by
 unfold putP;split
 ·next h=>exact⟨.inl,fun h2=>h2.elim id fun e=>e▸h⟩
 ·simp
theorem putP_nodup {ps:List P3} (h:ps.Nodup)(p:P3):(putP ps p).Nodup:=by
 unfold putP;split
 ·exact h
 ·next hn =>
  rw[List.nodup_append];refine⟨h,by simp,fun a ha b hb=>?_⟩;rw[List.mem_singleton.1 hb];exact fun e=>hn (e▸ha)
theorem refsD_pre:∀ (l:List P3)(ps:List P3)(out:List Int),ps <+: (refsD ps out l).2
 | [],ps,_=>List.prefix_refl _
 | p::l,ps,out=>by rw[refsD];exact(putP_pre ps p).trans (refsD_pre l _ _)
theorem refsD_mem:∀ (l:List P3)(ps:List P3)(out:List Int)(x:P3),x∈(refsD ps out l).2↔x∈ps\/x∈l
 | [],ps,_,x=>by simp[refsD]
 | p::l,ps,out,x=>by
  rw[refsD,refsD_mem l,putP_mem,List.mem_cons];constructor
  ·rintro((h | h) | h)
   ·exact .inl h
   ·exact .inr (.inl h)
   ·exact .inr (.inr h)
  ·rintro(h | h | h)
   ·exact .inl (.inl h)
   ·exact .inl (.inr h)
   ·exact .inr h
theorem refsD_nodup:∀ (l:List P3)(ps:List P3)(out:List Int),ps.Nodup->(refsD ps out l).2.Nodup
 | [],_,_,h=>h
 | p::l,ps,out,h=>by rw[refsD];exact refsD_nodup l _ _ (putP_nodup h p)
theorem headF_pre (T:List Tup)(p:P3)(k:Int)(a b:ByteArray)(ps:List P3):ps <+: (headF T p k a b ps).2.2:=by
 unfold headF;split
 ·exact refsD_pre _ _ _
 ·split
  ·exact putP_pre _ _
  ·split
   ·exact refsD_pre _ _ _
   ·exact List.prefix_refl _
theorem headF_nodup (T:List Tup)(p:P3)(k:Int)(a b:ByteArray) {ps:List P3} (h:ps.Nodup):(headF T p k a b ps).2.2.Nodup:=by
 unfold headF;split
 ·exact refsD_nodup _ _ _ h
 ·split
  ·exact putP_nodup h _
  ·split
   ·exact refsD_nodup _ _ _ h
   ·exact h
theorem formD_pre (T:List Tup)(p:P3)(r:RT):∀ ps:List P3,ps <+: (formD T p r ps).2:=by
 induction r using RT.ind with
 | h r ih =>
  intro ps;rw[formD_eq]
  have:∀ (l:List RT) (qs:List P3),(∀ x∈l,x∈r.ps)->qs <+: (formsD T p l qs).2:=by
   intro l;induction l with
   | nil=>intro qs _;exact List.prefix_refl _
   | cons x l ihl=>intro qs hx;rw[formsD];exact(ih x (hx x (by simp)) qs).trans (ihl _ fun y hy=>hx y (List.mem_cons_of_mem _ hy))
  exact(headF_pre T p r.k r.a r.b ps).trans (this r.ps _ fun _ h=>h)
theorem formD_nodup (T:List Tup)(p:P3)(r:RT):∀ {ps:List P3},ps.Nodup->(formD T p r ps).2.Nodup:=by
 induction r using RT.ind with
 | h r ih =>
  intro ps h;rw[formD_eq]
  have:∀ (l:List RT) (qs:List P3),(∀ x∈l,x∈r.ps)->qs.Nodup->(formsD T p l qs).2.Nodup:=by
   intro l;induction l with
   | nil=>intro qs _ h;exact h
   | cons x l ihl=>intro qs hx h;rw[formsD];exact ihl _ (fun y hy=>hx y (List.mem_cons_of_mem _ hy)) (ih x (hx x (by simp)) h)
  exact this r.ps _ (fun _ h=>h) (headF_nodup T p r.k r.a r.b h)
theorem stepG_pre (ts:List TyS)(T:List Tup)(shut:List R2)(p:P3)(ps:List P3):ps <+: (stepG ts T shut p ps).2:=by
 unfold stepG;split
 ·exact formD_pre _ _ _ _
 ·exact List.prefix_refl _
theorem stepG_nodup (ts:List TyS)(T:List Tup)(shut:List R2)(p:P3) {ps:List P3} (h:ps.Nodup):(stepG ts T shut p ps).2.Nodup:=by
 unfold stepG;split
 ·exact formD_nodup _ _ _ h
 ·exact h
theorem walkN_nodup (ts:List TyS)(T:List Tup)(shut:List R2)(p:P3):∀ n,(walkN ts T shut p n).1.Nodup
 | 0=>by simp[walkN]
 | n+1=>by rw[walkN];exact stepG_nodup _ _ _ _ (walkN_nodup ts T shut p n)
theorem walkN_pre (ts:List TyS)(T:List Tup)(shut:List R2)(p:P3):∀ n m,n<=m->(walkN ts T shut p n).1 <+: (walkN ts T shut p m).1
 | n,0,h=>by
  obtain rfl:n=0:=by omega
  exact List.prefix_refl _
 | n,m+1,h=>by
  by_cases e:n=m+1
  ·subst e;exact List.prefix_refl _
  ·refine(walkN_pre ts T shut p n m (by omega)).trans ?_;rw[walkN];exact stepG_pre _ _ _ _ _
theorem walkN_forms (ts:List TyS)(T:List Tup)(shut:List R2)(p:P3):∀ n,(walkN ts T shut p n).2.length=n
 | 0=>rfl
 | n+1=>by rw[walkN];simp[walkN_forms ts T shut p n]
/-! All points lie in one finite list. -/
mutual
def RT.nms:RT->List ByteArray | .mk _ a b ps=>a::b::nmsL ps
def nmsL:List RT->List ByteArray | [] => [] | r::rs=>r.nms++nmsL rs
end
theorem RT.nms_eq (r:RT):r.nms=r.a::r.b::nmsL r.ps:=by
 obtain⟨k,a,b,ps⟩:=r;rw[RT.nms];rfl
theorem nmsL_mem {r:RT}:∀ {l:List RT},r∈l->∀ n∈r.nms,n∈nmsL l
 | x::l,h,n,hn=>by
  rw[nmsL,List.mem_append];rcases List.mem_cons.1 h with rfl | h
  ·exact .inl hn
  ·exact .inr (nmsL_mem h n hn)
def InU (O:List (ByteArray × ByteArray))(N:List ByteArray)(x:P3):Prop:=(x.t,x.i)∈O/\x.r∈N
structure OkU (T:List Tup)(O:List (ByteArray × ByteArray))(N:List ByteArray):Prop where
 objs:∀ t∈T,(t.s.t,t.s.i)∈O
 rels:∀ t∈T,t.s.r∈N
theorem subsOf_mem {T:List Tup} {p x:P3} (h:x∈subsOf T p):∃ t∈T,t.o=p/\t.s=x:=by
 unfold subsOf at h;obtain⟨t,ht,rfl⟩:=List.mem_map.1 h;rw[List.mem_filter]at ht;exact⟨t,ht.1,by simpa using ht.2,rfl⟩
theorem headF_in {T:List Tup} {O:List (ByteArray × ByteArray)} {N:List ByteArray} (h:OkU T O N) {p:P3} (hp:(p.t,p.i)∈O) {k:Int} {a b:ByteArray} (ha:a∈N)(hb:b∈N) {ps:List P3} (hs:∀ x∈ps,InU O N x):∀ x∈(headF T p k a b ps).2.2,InU O N x:=by
 unfold headF;split
 ·intro x hx;rcases (refsD_mem _ _ _ x).1 hx with hx | hx
  ·exact hs x hx
  ·unfold setsOf at hx;rw[List.mem_filter]at hx;obtain⟨t,ht,_,rfl⟩:=subsOf_mem hx.1;exact⟨h.objs t ht,h.rels t ht⟩
 ·split
  ·intro x hx;rcases (putP_mem _ _ x).1 hx with hx | rfl
   ·exact hs x hx
   ·exact⟨hp,ha⟩
  ·split
   ·intro x hx;rcases (refsD_mem _ _ _ x).1 hx with hx | hx
    ·exact hs x hx
    ·unfold viaOf at hx;obtain⟨y,hy,rfl⟩:=List.mem_map.1 hx;rw[List.mem_filter]at hy;obtain⟨t,ht,_,rfl⟩:=subsOf_mem hy.1;exact⟨h.objs t ht,hb⟩
   ·exact hs
theorem formD_in {T:List Tup} {O:List (ByteArray × ByteArray)} {N:List ByteArray} (h:OkU T O N) {p:P3} (hp:(p.t,p.i)∈O)(r:RT):(∀ n∈r.nms,n∈N)->∀ {ps:List P3},(∀ x∈ps,InU O N x)->∀ x∈(formD T p r ps).2,InU O N x:=by
 induction r using RT.ind with
 | h r ih =>
  intro hn ps hs;rw[formD_eq];rw[RT.nms_eq]at hn
  have:∀ (l:List RT) (qs:List P3),(∀ x∈l,x∈r.ps)->(∀ x∈qs,InU O N x)->∀ x∈(formsD T p l qs).2,InU O N x:=by
   intro l;induction l with
   | nil=>intro qs _ h;exact h
   | cons y l ihl =>
    intro qs hx hq;rw[formsD];exact ihl _ (fun z hz=>hx z (List.mem_cons_of_mem _ hz)) (ih y (hx y (by simp)) (fun n hn'=>hn n (List.mem_cons_of_mem _ (List.mem_cons_of_mem _ (nmsL_mem (hx y (by simp)) n hn')))) hq)
  exact this r.ps _ (fun _ h=>h) (headF_in h hp (hn _ (by simp)) (hn _ (by simp)) hs)
def NmU (ts:List TyS)(N:List ByteArray):Prop:=∀ x∈refsOf ts,∀ n∈x.2.nms,n∈N
theorem stepG_in {ts:List TyS} {T:List Tup} {O:List (ByteArray × ByteArray)} {N:List ByteArray} (h:OkU T O N)(hN:NmU ts N)(shut:List R2) {p:P3} (hp:InU O N p) {ps:List P3} (hs:∀ x∈ps,InU O N x):∀ x∈(stepG ts T shut p ps).2,InU O N x:=by
 unfold stepG;split
 ·next r hr =>
  refine formD_in h hp.1 r ?_ hs;unfold ruleOf at hr;split at hr
  ·cases hr
  ·exact hN _ (look_mem hr)
 ·exact hs
theorem walkN_in {ts:List TyS} {T:List Tup} {O:List (ByteArray × ByteArray)} {N:List ByteArray} (h:OkU T O N)(hN:NmU ts N)(shut:List R2) {p:P3} (hp:InU O N p):∀ n,∀ x∈(walkN ts T shut p n).1,InU O N x
 | 0=>by
  intro x hx;rw[walkN]at hx;rw[List.mem_singleton.1 hx];exact hp
 | n+1=>by
  have ih:=walkN_in h hN shut hp n;rw[walkN];refine stepG_in h hN shut ?_ ih;rw[List.getD_eq_getElem?_getD];cases e:(walkN ts T shut p n).1[n]? with
  | none=>exact hp
  | some y=>exact ih y (List.mem_of_getElem? e)
theorem nodup_leR {α:Type}:∀ {l u:List α},l.Nodup->(∀ x∈l,x∈u)->l.length<=u.length
 | [],_,_,_=>Nat.zero_le _
 | a::l,u,hn,hs=>by
  obtain⟨p,q,rfl⟩:=List.append_of_mem (hs a List.mem_cons_self);rw[List.nodup_cons]at hn
  have h1:=nodup_leR (l:=l) (u:=p++q) hn.2 fun x hx=>by
   have h2:=hs x (List.mem_cons_of_mem _ hx);rcases List.mem_append.1 h2 with h3 | h3
   ·exact List.mem_append_left _ h3
   ·rcases List.mem_cons.1 h3 with h3 | h3
    ·subst h3;exact absurd hx hn.1
    ·exact List.mem_append_right _ h3
  simp only[List.length_cons,List.length_append]at h1 ⊢;omega
theorem inU_few {O:List (ByteArray × ByteArray)} {N:List ByteArray} {l:List P3} (hn:l.Nodup)(h:∀ x∈l,InU O N x):l.length<=O.length*N.length:=by
 have h1:∀ x∈l,x∈O.flatMap fun o=>N.map fun r=>(⟨o.1,o.2,r⟩:P3):=fun x hx=>by
  obtain⟨h2,h3⟩:=h x hx;exact List.mem_flatMap.2 ⟨_,h2,List.mem_map.2 ⟨_,h3,rfl⟩⟩
 refine Nat.le_trans (nodup_leR hn h1) (Nat.le_of_eq ?_);clear h h1 hn;induction O with
 | nil=>simp
 | cons o O ih=>rw[List.flatMap_cons,List.length_append,ih,List.length_map,List.length_cons,Nat.add_mul];omega
/-! How the walk ends. -/
def WalkAt (ts:List TyS)(T:List Tup)(shut:List R2)(p:P3)(most:Int)(n:Nat):Prop:=∀ m,m<n->m<(walkN ts T shut p m).1.length/\((walkN ts T shut p m).1.length:Int)<=most
def WalkEnd (ts:List TyS)(T:List Tup)(shut:List R2)(p:P3)(most:Int)(n:Nat):Prop:=WalkAt ts T shut p most n/\n=(walkN ts T shut p n).1.length
def WalkLong (ts:List TyS)(T:List Tup)(shut:List R2)(p:P3)(most:Int):Prop:=∃ n,WalkAt ts T shut p most n/\n<(walkN ts T shut p n).1.length/\most<((walkN ts T shut p n).1.length:Int)
theorem walk_mono (ts:List TyS)(T:List Tup)(shut:List R2)(p:P3) {n m:Nat} (h:n<=m):(walkN ts T shut p n).1.length<=(walkN ts T shut p m).1.length:=(walkN_pre ts T shut p n m h).length_le
theorem WalkEnd.notLong {ts:List TyS} {T:List Tup} {shut:List R2} {p:P3} {most:Int} {n:Nat} (h:WalkEnd ts T shut p most n):¬ WalkLong ts T shut p most:=by
 rintro⟨m,h1,h2,h3⟩;rcases Nat.lt_trichotomy n m with hlt | rfl | hlt
 ·have:=(h1 n hlt).1;have:=h.2;omega
 ·have:=h.2;omega
 ·have:=(h.1 m hlt).2;omega
end Go.Proofs.YtlhaghoajpglaaaGreat
