/- Lemmas for the claim, no condition. -/
import Derived.Lib.Hide
import Derived.RangeFuncGives
import Derived.RangeFuncNested
import Derived.RangeFuncLeaves
import Derived.WalkKit
import Derived.OwnWalkIn
import Derived.TacticsInMore
import Derived.RegionIn
import Derived.LoopNIn
import Derived.LoopIn
import Derived.Lib.Builder
import Derived.Lib.UnsafeStr
import Derived.Test.YtlhaghoajpglaaaGreatYBuMany0
set_option maxRecDepth 100000
set_option maxHeartbeats 4000000
namespace Go.Proofs.YtlhaghoajpglaaaGreat
open Go Go.RowKit
theorem szL_le (l:List RT)(i:Nat):szL (l.take i)<=szL l:=by
 conv=>rhs;rw[<- List.take_append_drop i l]
 rw[szL_append];omega
theorem sizeR_any (r:RT):∀ (pv:Value)(w:World),RTAt (· < w.heap.size) w r pv->r.sz<=1000000->Calls Tryz.prog 130 #[rV r pv] w fun e w'=>e = .returned (.int .i64 r.sz)/\Below w.heap.size w w':=by
 induction r using RT.ind with
 | h r ih =>
 intro pv w hat hs;obtain⟨ao,c,rfl,hlc,hcm,hcell⟩:=hat.rows;rw[RT.sz_eq]at hs;have HC:=h! hcell;have HI:=h! ih;have HSZ:=h! r.sz_eq;have hbk:=(Blk.made w #[.int .i64 r.k,.string r.a,.string r.b,.slice ao r.ps.length c] 106).cells;have hb0:Below w.heap.size w (w.alloc (.cells #[.int .i64 r.k,.string r.a,.string r.b,.slice ao r.ps.length c] 106)):=(Below.refl _ _).alloc (Nat.le_refl _) _;have HB0:=h! hb0;have HS:=h! hs;clear hat hcell ih hb0 hs;unfold rV;rw[HSZ.out];clear HSZ;generalize hps:r.ps=ps at *;clear hps;go_enter Tryz.func130,Tryz.ntmps130
 go_wp2_with fail
 clear hbk;go_loopw [3,9] (fun nn ii wr=>∃ i:Nat,i<=ps.length/\ii = .int .i64 i/\nn = .int .i64 ((1+szL (ps.take i):Nat):Int)/\Below w.heap.size w wr) (fun _ ii _=>ps.length-(intOf ii).toNat)
 case atStart=>exact⟨0,by omega,rfl,by simp[szL],HB0.out⟩
 case round =>
  obtain⟨i,hi,rfl,rfl,hbel⟩:=hrel;clear HB0;by_cases hlt:i<ps.length
  ·obtain⟨b,off,pv2,rfl,hb,c0,c1,c2,c3,hat2⟩:=HC.out i hlt;have d0:=(hbel.cell (p:=⟨b,off+i*4,none⟩) hb).trans c0;have d1:=(hbel.cell (p:=⟨b,off+i*4+1,none⟩) hb).trans c1;have d2:=(hbel.cell (p:=⟨b,off+i*4+2,none⟩) hb).trans c2;have d3:=(hbel.cell (p:=⟨b,off+i*4+3,none⟩) hb).trans c3;obtain⟨ao2,c2',rfl,-⟩:=hat2.rows;have hst:=szL_take hlt;have hle:=szL_le ps (i+1);have hsl:=HS.out;have hb1:=hbel.alloc hbel.size (.cells #[.int .i64 ps[i].k,.string ps[i].a,.string ps[i].b,.slice ao2 ps[i].ps.length c2'] 106);have HR:=h! (HI.out ps[i] (List.getElem_mem hlt) _ _ (hat2.up hb1) (by have:=szL_mem (List.getElem_mem hlt);omega));unfold rV at HR;have HB1:=h! hb1;have hbx:=(Blk.made wr #[.int .i64 ps[i].k,.string ps[i].a,.string ps[i].b,.slice ao2 ps[i].ps.length c2'] 106).cells;have HST:=h! hst;rw[hst]at hle;clear c0 c1 c2 c3 hat2 hb1 hbel hst;generalize ps[i]=p at *;generalize szL (ps.take i)=sa at *;go_wp2_with fail
   refine HR.out.mono ?_;rintro e w5 ⟨rfl,hb5⟩;have HB5:=h! (HB1.out.trans (hb5.mono HB1.out.size));clear HR hb5 hbx d0 d1 d2 d3 HB1;generalize p.sz=ms at *;go_wp2_with fail
   go_roundw
   case rel=>exact⟨i+1,by omega,by go_num,by rw[HST.out];go_num,HB5.out⟩
   case measure=>simp[intOf];omega
  ·obtain rfl:i=ps.length:=by omega
   rw[List.take_length];have HBE:=h! hbel;clear hbel;go_wp2_with fail
   go_ret
   exact⟨rfl,HBE.out⟩
theorem size06_any (r:RT):∀ (pv:Value)(w:World),RTAt (· < w.heap.size) w r pv->r.sz<=1000000->Calls Tryz.prog 104 #[rV r pv] w fun e w'=>e = .returned (.int .i64 r.sz)/\Below w.heap.size w w':=by
 induction r using RT.ind with
 | h r ih =>
 intro pv w hat hs;obtain⟨ao,c,rfl,hlc,hcm,hcell⟩:=hat.rows;rw[RT.sz_eq]at hs;have HC:=h! hcell;have HI:=h! ih;have HSZ:=h! r.sz_eq;have hbk:=(Blk.made w #[.int .i64 r.k,.string r.a,.string r.b,.slice ao r.ps.length c] 106).cells;have hb0:Below w.heap.size w (w.alloc (.cells #[.int .i64 r.k,.string r.a,.string r.b,.slice ao r.ps.length c] 106)):=(Below.refl _ _).alloc (Nat.le_refl _) _;have HB0:=h! hb0;have HS:=h! hs;clear hat hcell ih hb0 hs;unfold rV;rw[HSZ.out];clear HSZ;generalize hps:r.ps=ps at *;clear hps;go_enter Tryz.func104,Tryz.ntmps104
 go_wp2_with fail
 clear hbk;go_loopw [3,9] (fun nn ii wr=>∃ i:Nat,i<=ps.length/\ii = .int .i64 i/\nn = .int .i64 ((1+szL (ps.take i):Nat):Int)/\Below w.heap.size w wr) (fun _ ii _=>ps.length-(intOf ii).toNat)
 case atStart=>exact⟨0,by omega,rfl,by simp[szL],HB0.out⟩
 case round =>
  obtain⟨i,hi,rfl,rfl,hbel⟩:=hrel;clear HB0;by_cases hlt:i<ps.length
  ·obtain⟨b,off,pv2,rfl,hb,c0,c1,c2,c3,hat2⟩:=HC.out i hlt;have d0:=(hbel.cell (p:=⟨b,off+i*4,none⟩) hb).trans c0;have d1:=(hbel.cell (p:=⟨b,off+i*4+1,none⟩) hb).trans c1;have d2:=(hbel.cell (p:=⟨b,off+i*4+2,none⟩) hb).trans c2;have d3:=(hbel.cell (p:=⟨b,off+i*4+3,none⟩) hb).trans c3;obtain⟨ao2,c2',rfl,-⟩:=hat2.rows;have hst:=szL_take hlt;have hle:=szL_le ps (i+1);have hsl:=HS.out;have hb1:=hbel.alloc hbel.size (.cells #[.int .i64 ps[i].k,.string ps[i].a,.string ps[i].b,.slice ao2 ps[i].ps.length c2'] 106);have HR:=h! (HI.out ps[i] (List.getElem_mem hlt) _ _ (hat2.up hb1) (by have:=szL_mem (List.getElem_mem hlt);omega));unfold rV at HR;have HB1:=h! hb1;have hbx:=(Blk.made wr #[.int .i64 ps[i].k,.string ps[i].a,.string ps[i].b,.slice ao2 ps[i].ps.length c2'] 106).cells;have HST:=h! hst;rw[hst]at hle;clear c0 c1 c2 c3 hat2 hb1 hbel hst;generalize ps[i]=p at *;generalize szL (ps.take i)=sa at *;go_wp2_with fail
   refine HR.out.mono ?_;rintro e w5 ⟨rfl,hb5⟩;have HB5:=h! (HB1.out.trans (hb5.mono HB1.out.size));clear HR hb5 hbx d0 d1 d2 d3 HB1;generalize p.sz=ms at *;go_wp2_with fail
   go_roundw
   case rel=>exact⟨i+1,by omega,by go_num,by rw[HST.out];go_num,HB5.out⟩
   case measure=>simp[intOf];omega
  ·obtain rfl:i=ps.length:=by omega
   rw[List.take_length];have HBE:=h! hbel;clear hbel;go_wp2_with fail
   go_ret
   exact⟨rfl,HBE.out⟩
theorem wrap_in (x:Int)(h1 : -9223372036854775808<=x)(h2:x<=9223372036854775807):wrap64 x=x:=by unfold wrap64;omega
mutual
def RT.small:RT->Int->Int | .mk _ a b ps,left=>smallL ps (left-1-((a.size / 100:Nat):Int)-((b.size / 100:Nat):Int))
def smallL:List RT->Int->Int | [],left=>left | r::rs,left=>if left<0 then left else smallL rs (r.small left)
end
theorem RT.small_eq (r:RT)(left:Int):r.small left=smallL r.ps (left-1-((r.a.size / 100:Nat):Int)-((r.b.size / 100:Nat):Int)):=by
 obtain⟨k,a,b,ps⟩:=r;rw[RT.small];rfl
mutual
theorem RT.small_le:∀ (r:RT)(left:Int),r.small left<=left-1
 | .mk _ a b ps,left=>by
  rw[RT.small];have:=smallL_le ps (left-1-((a.size / 100:Nat):Int)-((b.size / 100:Nat):Int));omega
theorem smallL_le:∀ (l:List RT)(left:Int),smallL l left<=left
 | [],left=>by rw[smallL];omega
 | r::rs,left=>by
  rw[smallL];split
  ·omega
  ·have h1:=smallL_le rs (r.small left);have h2:=RT.small_le r left;omega
end
theorem small_any (r:RT):∀ (pv:Value)(left:Int)(w:World),RTAt (· < w.heap.size) w r pv->r.Ok -> -2305843009213693952<=left->left<=9223372036854775807->Calls Tryz.prog 56 #[rV r pv,.int .i64 left] w fun e w'=>e = .returned (.int .i64 (r.small left))/\Below w.heap.size w w':=by
 induction r using RT.ind with
 | h r ih =>
 intro pv left w hat hok hlo hhi;obtain⟨-,hoa,hob,hop⟩:=r.ok_iff.1 hok;obtain⟨ao,c,rfl,hlc,hcm,hcell⟩:=hat.rows;have HC:=h! hcell;have HI:=h! ih;have hbk:=(Blk.made w #[.int .i64 r.k,.string r.a,.string r.b,.slice ao r.ps.length c] 106).cells;have hb0:Below w.heap.size w (w.alloc (.cells #[.int .i64 r.k,.string r.a,.string r.b,.slice ao r.ps.length c] 106)):=(Below.refl _ _).alloc (Nat.le_refl _) _;have HB0:=h! hb0;clear hat hcell ih hb0;have HOP:=h! hop;have HE:=h! (r.small_eq left);unfold rV;rw[HE.out];clear HE hop hok;generalize r.ps=ps at *;generalize r.k=k at *;generalize r.a=a at *;generalize r.b=b at *;have hqa:((a.size:Int)).tdiv 100=((a.size / 100:Nat):Int):=by rw[Int.tdiv_eq_ediv_of_nonneg (by omega)];omega
 have hqb:((b.size:Int)).tdiv 100=((b.size / 100:Nat):Int):=by rw[Int.tdiv_eq_ediv_of_nonneg (by omega)];omega
 have hla:a.size / 100<=92233720368547758:=by omega
 have hlb:b.size / 100<=92233720368547758:=by omega
 generalize a.size / 100=qa at *;generalize b.size / 100=qb at *;have HQA:=h! hqa;have HQB:=h! hqb;clear hqa hqb;obtain⟨L0,hL0⟩:∃ L0,L0=left-1-(qa:Int)-(qb:Int):=⟨_,rfl⟩;have hL:L0<=9223372036854775807:=by omega
 have hw1:wrap64 (left-1)=left-1:=wrap_in _ (by omega) (by omega);have hw2:wrap64 (left-1-(qa:Int))=left-1-(qa:Int):=wrap_in _ (by omega) (by omega);have hw3:wrap64 (left-1-(qa:Int)-(qb:Int))=L0:=by rw[hL0];exact wrap_in _ (by omega) (by omega)
 have hw4:wrap64 (qa:Int)=(qa:Int):=wrap_in _ (by omega) (by omega);have hw5:wrap64 (qb:Int)=(qb:Int):=wrap_in _ (by omega) (by omega);rw[<- hL0];have HW3:=h! hw3;have HLL:=h! hL;clear hL0;have hqa:=HQA.out;have hqb:=HQB.out;clear hL hlo hhi hla hlb hoa hob;go_enter Tryz.func56,Tryz.ntmps56
 go_wp2_with fail
 clear hbk hw1 hw2 hw3 hw4 hw5 hqa hqb HQA HQB;go_loopw [1,22] (fun lv ii wr=>∃ (i:Nat) (L:Int),i<=ps.length/\ii = .int .i64 i/\lv = .int .i64 L/\L<=9223372036854775807/\smallL ps L0=smallL (ps.drop i) L/\Below w.heap.size w wr) (fun _ ii _=>ps.length-(intOf ii).toNat)
 case atStart=>exact⟨0,L0,by omega,rfl,by rw[HW3.out],HLL.out,rfl,HB0.out⟩
 case round =>
  obtain⟨i,L,hi,rfl,rfl,hLh,hsm,hbel⟩:=hrel;clear HB0 HLL;by_cases hlt:i<ps.length
  ·rw[List.drop_eq_getElem_cons hlt,smallL]at hsm;obtain⟨b,off,pv2,hbo,hb,c0,c1,c2,c3,hat2⟩:=HC.out i hlt;cases hbo;have d0:=(hbel.cell (p:=⟨b,off+i*4,none⟩) hb).trans c0;have d1:=(hbel.cell (p:=⟨b,off+i*4+1,none⟩) hb).trans c1;have d2:=(hbel.cell (p:=⟨b,off+i*4+2,none⟩) hb).trans c2;have d3:=(hbel.cell (p:=⟨b,off+i*4+3,none⟩) hb).trans c3;obtain⟨ao2,c2',rfl,-⟩:=hat2.rows;have hb1:=hbel.alloc hbel.size (.cells #[.int .i64 ps[i].k,.string ps[i].a,.string ps[i].b,.slice ao2 ps[i].ps.length c2'] 106);have hat3:=hat2.up hb1;have hbx:=(Blk.made wr #[.int .i64 ps[i].k,.string ps[i].a,.string ps[i].b,.slice ao2 ps[i].ps.length c2'] 106).cells;have HB1:=h! hb1;clear c0 c1 c2 c3 hat2 hb1 hbel;have hokp:=HOP.out ps[i] (List.getElem_mem hlt);have hmem:=List.getElem_mem hlt;by_cases hneg:L<0
   ·rw[if_pos hneg]at hsm;have HSM:=h! hsm;clear hsm hat3 hokp hmem;generalize ps[i]=p at *;go_wp2_with fail
    go_ret
    exact⟨by rw[HSM.out];rfl,HB1.out⟩
   ·rw[if_neg hneg]at hsm;have HR:=h! (HI.out ps[i] hmem _ L _ hat3 hokp (by omega) hLh);unfold rV at HR;have HSM:=h! hsm;have HLE:=h! (show ps[i].small L<=9223372036854775807 from by have:=ps[i].small_le L;omega);clear hsm hat3 hokp hmem;generalize ps[i]=p at *;go_wp2_with fail
    refine HR.out.mono ?_;rintro e w5 ⟨rfl,hb5⟩;have HB5:=h! (HB1.out.trans (hb5.mono HB1.out.size));clear HR hb5 hbx d0 d1 d2 d3 HB1;go_wp2_with fail
    go_roundw
    case rel=>exact⟨i+1,p.small L,by omega,by go_num,rfl,HLE.out,HSM.out,HB5.out⟩
    case measure=>simp[intOf];omega
  ·obtain rfl:i=ps.length:=by omega
   rw[List.drop_length,smallL]at hsm;have HSM:=h! hsm;have HBE:=h! hbel;clear hbel hsm;go_wp2_with fail
   go_ret
   exact⟨by rw[HSM.out];rfl,HBE.out⟩
theorem ba_size_ne {a:ByteArray} (h:a.size≠0):a.toList.isEmpty=false:=by
 rw[ByteArray.toList_eq];cases h':a.data.toList with
 | nil=>exact absurd (by have:=congrArg List.length h';simpa using this) h
 | cons=>rfl
theorem ba_size_eq {a:ByteArray} (h:a.size=0):a=⟨#[]⟩:=by
 refine ByteArray.ext (Array.eq_empty_of_size_eq_zero h)
def okc (c:UInt8):Bool:=decide ((97<=(c.toNat:Int)/\(c.toNat:Int)<=122)\/(48<=(c.toNat:Int)/\(c.toNat:Int)<=57)\/(c.toNat:Int)=95\/(c.toNat:Int)=45)
def isNm (s:ByteArray):Bool:=s.data.toList.all okc&&(decide (1<=s.size)&&decide (s.size<=32))
theorem isNm_bad {s:ByteArray} {i:Nat} (hi:i<s.size)(h:okc s[i]=false):isNm s=false:=by
 unfold isNm;rw[Bool.and_eq_false_iff];left
 rw[List.all_eq_false];exact⟨s[i],by rw[show s[i]=s.data.toList[i]'(by simpa using hi)from rfl];exact List.getElem_mem _,by simpa using h⟩
theorem isNm_end {s:ByteArray} (h:∀ j (hj:j<s.size),j<s.size->okc s[j]=true):isNm s=(decide (1<=s.size)&&decide (s.size<=32)):=by
 unfold isNm;rw[show s.data.toList.all okc=true from ?_,Bool.true_and];rw[List.all_eq_true];intro x hx;obtain⟨j,hj,rfl⟩:=List.getElem_of_mem hx;have hj':j<s.size:=by simpa using hj
 exact h j hj' hj'
theorem isName_any (s:ByteArray)(hs:s.size<=maxLen)(w:World):Calls Tryz.prog 141 #[.string s] w fun e w'=>e = .returned (.bool (isNm s))/\w'=w:=by
 have hsz:s.size<=9223372036854775807:=by unfold maxLen at hs;omega
 clear hs;go_enter Tryz.func141,Tryz.ntmps141
 go_wp2_with fail
 go_loopw [7] (fun ii wr=>∃ i:Nat,i<=s.size/\ii = .int .i64 i/\(∀ j (hj:j<s.size),j<i->okc s[j]=true)/\wr=w) (fun ii _=>s.size-(intOf ii).toNat)
 case atStart=>exact⟨0,by omega,rfl,fun _ _ h=>absurd h (by omega),rfl⟩
 case round =>
  obtain⟨i,hi,rfl,hall,rfl⟩:=hrel;have HALL:=h! hall;clear hall;by_cases hlt:i<s.size
  ·go_wp2_with fail
   all_goals first
    | (refine⟨⟨i+1,by omega,by go_num,upto_succ (p:=fun j hj=>okc s[j]=true) HALL.out hlt ?_,trivial⟩,by simp[intOf];omega⟩
       unfold okc;rw[decide_eq_true_iff];try simp only[beq_iff_eq,beq_eq_false_iff_ne,ne_eq]at *
       omega)
    | (go_ret
       refine⟨?_,rfl⟩
       rw[isNm_bad hlt (by
         unfold okc;rw[decide_eq_false_iff_not];try simp only[beq_eq_false_iff_ne,ne_eq]at *
         omega)]
       rfl)
  ·obtain rfl:i=s.size:=by omega
   have HE:=h! (isNm_end HALL.out);by_cases h0:s.size=0
   ·obtain rfl:=ba_size_eq h0;clear h0;go_wp2_with fail
    go_ret
    exact⟨by rw[HE.out];rfl,rfl⟩
   ·have hne:=ba_size_ne h0;have h1:1<=s.size:=by omega
    have HE2:=h! (show isNm s=decide ((s.size:Int)<=32)from by
     rw[HE.out,decide_eq_true h1,Bool.true_and];by_cases h:s.size<=32
     ·rw[decide_eq_true h,decide_eq_true (by omega)]
     ·rw[decide_eq_false h,decide_eq_false (by omega)])
    clear HE h0 h1;go_wp2_with fail
    go_ret
    exact⟨by rw[HE2.out];rfl,rfl⟩
theorem refName_any (s:ByteArray)(hs:s.size<=maxLen)(w:World):Calls Tryz.prog 96 #[.string s] w fun e w'=>e = .returned (.bool (isNm s))/\w'=w:=by
 have hsz:s.size<=9223372036854775807:=by unfold maxLen at hs;omega
 clear hs;go_enter Tryz.func96,Tryz.ntmps96
 go_wp2_with fail
 go_loopw [3] (fun ii wr=>∃ i:Nat,i<=s.size/\ii = .int .i64 i/\(∀ j (hj:j<s.size),j<i->okc s[j]=true)/\wr=w) (fun ii _=>s.size-(intOf ii).toNat)
 case atStart=>exact⟨0,by omega,rfl,fun _ _ h=>absurd h (by omega),rfl⟩
 case round =>
  obtain⟨i,hi,rfl,hall,rfl⟩:=hrel;have HALL:=h! hall;clear hall;by_cases hlt:i<s.size
  ·go_wp2_with fail
   all_goals first
    | (refine⟨⟨i+1,by omega,by go_num,upto_succ (p:=fun j hj=>okc s[j]=true) HALL.out hlt ?_,trivial⟩,by simp[intOf];omega⟩
       unfold okc;rw[decide_eq_true_iff];(try simp at *) <;> omega)
    | (go_ret
       refine⟨?_,rfl⟩
       rw[isNm_bad hlt (by
         unfold okc;rw[decide_eq_false_iff_not];(try simp at *) <;> omega)]
       rfl)
  ·obtain rfl:i=s.size:=by omega
   have HE:=h! (isNm_end HALL.out);by_cases h0:s.size=0
   ·obtain rfl:=ba_size_eq h0;clear h0;go_wp2_with fail
    go_ret
    exact⟨by rw[HE.out];rfl,rfl⟩
   ·have h1:1<=s.size:=by omega
    have h2:(1:Int)<=(s.size:Int):=by omega
    have HE2:=h! (show isNm s=decide ((s.size:Int)<=32)from by
     rw[HE.out,decide_eq_true h1,Bool.true_and];by_cases h:s.size<=32
     ·rw[decide_eq_true h,decide_eq_true (by omega)]
     ·rw[decide_eq_false h,decide_eq_false (by omega)])
    clear HE h0 h1;go_wp2_with fail
    go_ret
    exact⟨by rw[HE2.out];rfl,rfl⟩
def ownB (s:ByteArray):Bool:=isNm s&&decide (s≠⟨#[116,104,105,115]⟩)
def hasT (t:TyS)(n:ByteArray):Bool:=t.rels.any fun r=>decide (r.1=n)
def anyT (ts:List TyS)(n:ByteArray):Bool:=ts.any fun t=>hasT t n
theorem own_any (s:ByteArray)(hs:s.size<=maxLen)(w:World):Calls Tryz.prog 158 #[.string s] w fun e w'=>e = .returned (.bool (ownB s))/\w'=w:=by
 have HN:=h! (refName_any s hs w);clear hs;go_enter Tryz.func158,Tryz.ntmps158
 go_wp2_with fail
 refine HN.out.mono ?_;rintro e w2 ⟨rfl,rfl⟩;clear HN;cases h1:isNm s with
 | false =>
  have HF:=h! (show ownB s=false from by rw[ownB,h1];rfl);clear h1;go_wp2_with fail
  go_ret
  exact⟨by rw[HF.out];rfl,rfl⟩
 | true =>
  by_cases he:s=⟨#[116,104,105,115]⟩
  ·have HF:=h! (show ownB s=false from by rw[ownB,he];simp);subst he;clear h1;go_wp2_with fail
   go_ret
   exact⟨by rw[HF.out];rfl,rfl⟩
  ·have HF:=h! (show ownB s=true from by rw[ownB,h1];simp[he]);have hne:=ba_beq' he;rw[<- ByteArray.toList_eq,show(⟨#[116,104,105,115]⟩:ByteArray).data.toList=[116,104,105,115]from rfl]at hne;clear h1 he;go_wp2_with fail
   go_ret
   exact⟨by rw[HF.out];rfl,rfl⟩
theorem has_any (t:TyS)(rv:Value)(n:ByteArray)(w:World)(h:RelsAt (· < w.heap.size) w t.rels rv):Calls Tryz.prog 160 #[.agg #[.string t.name,rv],.string n] w fun e w'=>e = .returned (.bool (hasT t n))/\Below w.heap.size w w':=by
 obtain⟨ao,c,rfl,hlc,hcm,hcell⟩:=h.rows;have HC:=h! hcell;have HD:=h! (show hasT t n=t.rels.any (fun r=>decide (r.1=n))from rfl);generalize hasT t n=g at *;generalize t.rels=l at *;generalize t.name=nm at *;have hbk:=(Blk.made w #[.string nm,.slice ao l.length c] 176).cells;have HB0:=h! (show Below w.heap.size w (w.alloc (.cells #[.string nm,.slice ao l.length c] 176))from(Below.refl _ _).alloc (Nat.le_refl _) _);clear h hcell;go_enter Tryz.func160,Tryz.ntmps160
 go_wp2_with fail
 clear hbk;go_loopw [10] (fun ii wr=>∃ i:Nat,i<=l.length/\ii = .int .i64 i/\(∀ j (hj:j<l.length),j<i->l[j].1≠n)/\Below w.heap.size w wr) (fun ii _=>l.length-(intOf ii).toNat)
 case atStart=>exact⟨0,by omega,rfl,fun _ _ h=>absurd h (by omega),HB0.out⟩
 case round =>
  obtain⟨i,hi,rfl,hall,hbel⟩:=hrel;have HALL:=h! hall;clear HB0 hall;by_cases hlt:i<l.length
  ·have HUP:=fun h=>h! (upto_succ (p:=fun j hj=>l[j].1≠n) HALL.out hlt h);have HAN:=fun(h:l[i].1=n)=>h! (show g=true from by rw[HD.out];exact List.any_eq_true.2 ⟨l[i],List.getElem_mem hlt,by simp[h]⟩);obtain⟨b,off,pv2,hbo,hb,c0,c1,c2,c3,c4,hat2⟩:=HC.out i hlt;cases hbo;have d0:=(hbel.cell (p:=⟨b,off+i*5,none⟩) hb).trans c0;have d1:=(hbel.cell (p:=⟨b,off+i*5+1,none⟩) hb).trans c1;have d2:=(hbel.cell (p:=⟨b,off+i*5+2,none⟩) hb).trans c2;have d3:=(hbel.cell (p:=⟨b,off+i*5+3,none⟩) hb).trans c3;have d4:=(hbel.cell (p:=⟨b,off+i*5+4,none⟩) hb).trans c4;obtain⟨ao2,c2',rfl,-⟩:=hat2.rows;have hb1:=hbel.alloc hbel.size (.cells #[.string l[i].1,.int .i64 l[i].2.k,.string l[i].2.a,.string l[i].2.b,.slice ao2 l[i].2.ps.length c2'] 181);have hat3:=hat2.up hb1;have HBK:=h! (Blk.made wr #[.string l[i].1,.int .i64 l[i].2.k,.string l[i].2.a,.string l[i].2.b,.slice ao2 l[i].2.ps.length c2'] 181);have hbx:=HBK.out.cells;have HB1:=h! hb1;clear c0 c1 c2 c3 c4 hat2 hb1 hbel;clear hat3;generalize l[i]=x at *;obtain⟨xn,p⟩:=x;dsimp only at *;by_cases he:xn=n
   ·have HT:=HAN he;subst he;clear HUP HAN;go_wp2_with fail
    go_ret
    exact⟨by rw[HT.out];rfl,HB1.out⟩
   ·have HN:=HUP he;have hne:=ba_beq' he;rw[<- ByteArray.toList_eq,<- ByteArray.toList_eq]at hne;clear HUP HAN he;go_wp2_with fail
    go_roundw
    case rel=>exact⟨i+1,by omega,by go_num,HN.out,HB1.out⟩
    case measure=>simp[intOf];omega
  ·obtain rfl:i=l.length:=by omega
   have HF:=h! (show g=false from by
    rw[HD.out,List.any_eq_false];intro x hx;obtain⟨j,hj,rfl⟩:=List.getElem_of_mem hx;have:=HALL.out j hj hj;simpa using this)
   have HBE:=h! hbel;clear hbel;go_wp2_with fail
   go_ret
   exact⟨by rw[HF.out];rfl,HBE.out⟩
theorem anywhere_any (ts:List TyS)(tv:Value)(n:ByteArray)(w:World)(h:TysAt (· < w.heap.size) w ts tv):Calls Tryz.prog 161 #[.agg #[tv],.string n] w fun e w'=>e = .returned (.bool (anyT ts n))/\Below w.heap.size w w':=by
 obtain⟨ao,c,rfl,hlc,hcm,hcell⟩:=h.rows;have HC:=h! hcell;have HD:=h! (show anyT ts n=ts.any (fun t=>hasT t n)from rfl);generalize anyT ts n=g at *;have hbk:=(Blk.made w #[.slice ao ts.length c] 26).cells;have HB0:=h! (show Below w.heap.size w (w.alloc (.cells #[.slice ao ts.length c] 26))from(Below.refl _ _).alloc (Nat.le_refl _) _);clear h hcell;go_enter Tryz.func161,Tryz.ntmps161
 go_wp2_with fail
 clear hbk;go_loopw [10] (fun ii wr=>∃ i:Nat,i<=ts.length/\ii = .int .i64 i/\(∀ j (hj:j<ts.length),j<i->hasT ts[j] n=false)/\Below w.heap.size w wr) (fun ii _=>ts.length-(intOf ii).toNat)
 case atStart=>exact⟨0,by omega,rfl,fun _ _ h=>absurd h (by omega),HB0.out⟩
 case round =>
  obtain⟨i,hi,rfl,hall,hbel⟩:=hrel;have HALL:=h! hall;clear HB0 hall;by_cases hlt:i<ts.length
  ·have HUP:=fun h=>h! (upto_succ (p:=fun j hj=>hasT ts[j] n=false) HALL.out hlt h);have HAN:=fun(h:hasT ts[i] n=true)=>h! (show g=true from by rw[HD.out];exact List.any_eq_true.2 ⟨ts[i],List.getElem_mem hlt,h⟩);obtain⟨b,off,pv2,hbo,hb,c0,c1,hat2⟩:=HC.out i hlt;cases hbo;have d0:=(hbel.cell (p:=⟨b,off+i*2,none⟩) hb).trans c0;have d1:=(hbel.cell (p:=⟨b,off+i*2+1,none⟩) hb).trans c1;obtain⟨ao2,c2',rfl,-⟩:=hat2.rows;have hb1:=hbel.alloc hbel.size (.cells #[.string ts[i].name,.slice ao2 ts[i].rels.length c2'] 176);have hat3:=hat2.up hb1;have HBT:=h! (Blk.made wr #[.string ts[i].name,.slice ao2 ts[i].rels.length c2'] 176);have hbx:=HBT.out.cells;have HB1:=h! hb1;clear c0 c1 hat2 hb1 hbel;have HR:=h! (has_any ts[i] _ n _ hat3);clear hat3;generalize ts[i]=x at *;cases hx:hasT x n with
   | true =>
    rw[hx]at HR;have HT:=HAN hx;clear HUP HAN hx;go_wp2_with fail
    refine HR.out.mono ?_;rintro e w5 ⟨rfl,hb5⟩;have HB5:=h! (HB1.out.trans (hb5.mono HB1.out.size));clear HR hb5 hbx d0 d1 HB1;go_wp2_with fail
    go_ret
    exact⟨by rw[HT.out];rfl,HB5.out⟩
   | false =>
    rw[hx]at HR;have HN:=HUP hx;clear HUP HAN hx;go_wp2_with fail
    refine HR.out.mono ?_;rintro e w5 ⟨rfl,hb5⟩;have HB5:=h! (HB1.out.trans (hb5.mono HB1.out.size));clear HR hb5 hbx d0 d1 HB1;go_wp2_with fail
    go_roundw
    case rel=>exact⟨i+1,by omega,by go_num,HN.out,HB5.out⟩
    case measure=>simp[intOf];omega
  ·obtain rfl:i=ts.length:=by omega
   have HF:=h! (show g=false from by
    rw[HD.out,List.any_eq_false];intro x hx;obtain⟨j,hj,rfl⟩:=List.getElem_of_mem hx;rw[HALL.out j hj hj];exact Bool.false_ne_true)
   have HBE:=h! hbel;clear hbel;go_wp2_with fail
   go_ret
   exact⟨by rw[HF.out];rfl,HBE.out⟩
end Go.Proofs.YtlhaghoajpglaaaGreat
namespace Go.Proofs.YtlhaghoajpglaaaGreat
open Go Go.RowKit Go.Maps
theorem refK:Keyed Tryz.prog 121:=Keyed.of_law (deep_law_laid laidOut (m:=3) (by decide) (of_decide_eq_true (by kernel_rfl)) (by kernel_rfl) (by kernel_rfl))
theorem r2V_inj (a b:R2)(h:r2V a=r2V b):a=b:=by
 obtain⟨a1,a2⟩:=a;obtain⟨b1,b2⟩:=b;simpa [r2V] using h
def R2.Ok (p:R2):Prop:=p.t.size<=maxLen/\p.r.size<=maxLen
theorem ref_lits (d:Nat)(p:R2)(h:p.Ok):Tryz.prog.keyLits (d+1+1) 121 [.string p.t,.string p.r]=some [.string p.t.data.toList,.string p.r.data.toList]:=by
 unfold Program.keyLits;rw[Tryz.underlying121];have e1:=str_lits d p.t h.1;have e2:=str_lits d p.r h.2;have e3:Tryz.prog.cellsOf 121=2:=by kernel_rfl
 have e4:Tryz.prog.cellsOf 9=1:=by kernel_rfl
 simp[e1,e2,e3,e4]
theorem ref_key (p:R2)(h:p.Ok):∃ q,keyOf Tryz.prog 121 (r2V p)=some q:=by
 obtain⟨d,hd⟩:=types_many;have e:=ref_lits (d+1+1) p h;have e2:(Tryz.prog.keyType 121&&(r2V p).formed Tryz.prog 121)=true:=by kernel_rfl
 have hs:Tryz.prog.types.size+1=d+1+1+1+1:=by omega
 unfold keyOf;rw[Tryz.underlying121];dsimp only;rw[if_pos e2,hs];rw[show(r2V p).cells.toList=[.string p.t,.string p.r]from rfl,e];exact⟨_,rfl⟩
theorem strK:Keyed Tryz.prog 9:=string_keyed Tryz.underlying9
theorem strV_inj (a b:ByteArray)(h:Value.string a=Value.string b):a=b:=by injection h
theorem str_key (s:ByteArray)(h:s.size<=maxLen):∃ q,keyOf Tryz.prog 9 (.string s)=some q:=by
 unfold keyOf;rw[Tryz.underlying9];dsimp only;unfold mapKey;rw[Tryz.underlying9];simp[h]
abbrev bV:Bool->Value:=fun x => .bool x
section
variable {κ α : Type} [DecidableEq κ]
theorem look_put (a:κ)(x:α)(b:κ):∀ l:List (κ × α),lookA (putA l a x) b=if a=b then some x else lookA l b
 | []=>by simp[putA,lookA]
 | p::r=>by
  unfold putA;by_cases h:p.1=a
  ·rw[if_pos h];subst h;by_cases hb:p.1=b
   ·simp[lookA,hb]
   ·simp[lookA,hb]
  ·rw[if_neg h];by_cases hb:p.1=b
   ·subst hb;simp[lookA,Ne.symm h]
   ·simp[lookA,hb,look_put a x b r]
theorem put_keys_mem (a:κ)(x:α)(b:κ × α):∀ {l:List (κ × α)},b∈putA l a x->b=(a,x)\/b∈l
 | [],h=>by simpa [putA] using h
 | p::r,h=>by
  unfold putA at h;split at h
  ·rcases List.mem_cons.1 h with h | h
   ·exact .inl h
   ·exact .inr (by simp[h])
  ·rcases List.mem_cons.1 h with h | h
   ·exact .inr (by simp[h])
   ·rcases put_keys_mem a x b h with h | h
    ·exact .inl h
    ·exact .inr (by simp[h])
end
abbrev Tk (b:Nat) (w w':World):Prop:=Kept (fun x=>x<w.heap.size/\x≠b) w w'
section
variable {b : Nat} {w w' w'' : World}
theorem Tk.refl (b:Nat)(w:World):Tk b w w:=Kept.refl _ _
theorem Tk.next (h:Tk b w w')(k:Tk b w' w''):Tk b w w'':=Kept.trans h (Kept.mono k fun _x hx=>⟨Nat.lt_of_lt_of_le hx.1 h.size,hx.2⟩)
theorem Tk.of (h:Below w.heap.size w w'):Tk b w w':=Below.kept h fun _x hx=>hx.1
theorem Tk.turned (h:Turned w w' b):Tk b w w':=h.kept.mono fun _x hx=>hx.2
theorem Tk.box (h:Tk b w w') {x:Nat} {cs:Array Value} {t:TypeId} (hx:Blk w x cs t)(hb:x≠b):Blk w' x cs t:=Kept.blk h hx ⟨hx.lt,hb⟩
theorem Tk.below (h:Tk b w w') {B:Nat} (h1:B<=w.heap.size)(h2:B<=b):Below B w w':=Kept.below h fun x hx=>⟨by omega,by omega⟩
end
end Go.Proofs.YtlhaghoajpglaaaGreat
namespace Go.Proofs.YtlhaghoajpglaaaGreat
open Go Go.RowKit
theorem append_where {P:Program} {w:World} (base:Nat)(t ty e:TypeId)(i:TypeInfo)(z:Value)(ht:P.underlying t=some (.slice e))(hi:P.info? e=some i)(hz:i.zero=some z)
  (v:Value) (n:Nat) (xs:List Value) (hown:w.ownsRow base e i.size v n xs)
  (a:Addr) (m c:Nat) (news:List Value) (hl:news.length=m*i.size) (hnews:∀ j u,news[j]?=some u->w.cell? (a.add j)=some u) (h1:∀ u∈news,u.oneCell'=true)
  (h63:n+m<=maxLen) (hbytes:(n+m)*i.bytes<=140737488355328) {v':Value} {w':World} (hrun:(Builtin.append_ #[t,t] ty #[v,.slice (some a) m c]).run P w = .ok v' w') :
  ∀ g,v'.ownBlock=some g->v.ownBlock=some g\/w.heap.size<=g:=by
 have hsmall:n+m<=9223372036854775807:=by simp only[maxLen]at h63;omega
 rcases hown.2 with⟨rfl,rfl⟩ | ⟨g,cap,cur,rfl,hbg,hg,hnc,hcm,hcs,htake⟩
 ·have hx:xs=[]:=List.eq_nil_of_length_eq_zero (by simpa using hown.1);subst hx;by_cases hm:m=0
  ·subst hm;have hn:news=[]:=List.eq_nil_of_length_eq_zero (by simpa using hl);subst hn
   have:(Builtin.append_ #[t,t] ty #[.slice none 0 0,.slice (some a) 0 c]).run P w = .ok (.slice none 0 0) w:=by
    simp[Builtin.append_,run_underlying ht,sizeOf,typeInfo,hi,Builtin.lenOf,Builtin.firstCells,loadCells,loadCellsFrom]
   rw[hrun]at this;injection this with h1 h2
   subst h1;intro g hg;cases hg
  ·have hr:=run_append_nil (P:=P) w t ty e i z ht hi hz a m c news hl hnews (by omega) (by omega) (by have hb:=hbytes;simp only[Nat.zero_add]at hb;omega);rw[hrun]at hr;injection hr with h1 h2
   subst h1;intro g hg;simp only[Value.ownBlock,Option.some.injEq]at hg;exact .inr (Nat.le_of_eq hg)
 ·by_cases hroom:n+m<=cap
  ·have hfit:n*i.size+news.length<=cur.size:=by rw[hl,hcs,<- Nat.add_mul];exact Nat.mul_le_mul_right _ hroom
   have hr:=run_append_room (P:=P) w t ty e i ht hi g n cap cur hg a m c news hl hnews h1 hroom hfit;rw[hrun]at hr;injection hr with h1 h2
   subst h1;intro g' hg';exact .inl hg'
  ·have holds:∀ j u,xs[j]?=some u->w.cell? ((⟨g,0,none⟩:Addr).add j)=some u:=hown.cells (g:=g) rfl;have hr:=run_append_grow (P:=P) w t ty e i z ht hi hz ⟨g,0,none⟩ n cap xs hown.1 holds a m c news hl hnews (by omega) (by omega) (growslice_fits (by omega) hbytes);rw[hrun]at hr;injection hr with h1 h2
   subst h1;intro g hg;simp only[Value.ownBlock,Option.some.injEq]at hg;exact .inr (Nat.le_of_eq hg)
theorem wp_ownw {P:Program} {w:World} {o:Oper} {a:Act} {K:Act->World->Prop} {Q:Exit->Act->World->Prop} {t e:TypeId} {size bytes:Nat} (E:ElemT P t e size bytes)
  (s x:Operand) (hop:o.op=Op.call {callee:=Callee.builtin Builtin.append,args:=#[s,x],argTypes:=#[t,t]})
  {B:Nat} {v:Value} {xs:List Value} (hs:a.eval s=v) (hown:Own w B e size v xs) {ad:Addr} {m c:Nat} {news:List Value} (hx:a.eval x = .slice (some ad) m c) (hn:news.length=m*size)
  (hc:∀ j u,news[j]?=some u->w.cell? (ad.add j)=some u) (h1:∀ u∈news,u.oneCell'=true)
  (hlen:xs.length+news.length<=9223372036854775807) (hbytes:(xs.length+news.length)*bytes<=140737488355328) (hB:B<=w.heap.size)
  (h:∀ v' w',Own w' B e size v' (xs++news)->(∀ g,v'.ownBlock=some g->v.ownBlock=some g\/w.heap.size<=g)->w.grownBy w' v.ownBlock->K (a.put o.dst v') w'):o.wp P a w K Q:=by
 obtain⟨hund,⟨i,z,hi,hz,h4,h5,h6⟩,hpos⟩:=E;obtain⟨k,hown⟩:=hown;have e1:∀ k l:Nat,k<=l*size->l*size<=k->l<=k:=fun k l _ hb=>Nat.le_trans (Nat.le_mul_of_pos_right l hpos) hb;have hnl:k<=xs.length:=e1 _ _ (Nat.le_of_eq hown.1) (Nat.le_of_eq hown.1.symm);have hml:m<=news.length:=e1 _ _ (Nat.le_of_eq hn) (Nat.le_of_eq hn.symm);have hb47:(k+m)*bytes<=140737488355328:=Nat.le_trans (Nat.mul_le_mul_right _ (by omega)) hbytes;subst h4;subst h5;obtain⟨v',w',hrun,r1,r2,_⟩:=run_append_own (P:=P) w B t o.type e i z i.size i.bytes hund hi hz rfl rfl h6 hpos v k xs hown ad m c news hn hc h1 (by unfold maxLen;omega) hb47 hB;have r3:=append_where B t o.type e i z hund hi hz v k xs hown ad m c news hn hc h1 (by unfold maxLen;omega) hb47 hrun;unfold Oper.wp;simp[execOp,hop,resolve,invoke,builtin,hs,hx,hrun,Result.andThen];exact h v' w' ⟨_,r1⟩ r3 r2
theorem wpList_ownw {P:Program} {w:World} {ops:Array Oper} {rest:List Oper} {o:Oper} {a:Act} {Q:Exit->Act->World->Prop} {t e:TypeId} {size bytes:Nat} (E:ElemT P t e size bytes)
  (hg:o.guard=none) (s x:Operand) (hop:o.op=Op.call {callee:=Callee.builtin Builtin.append,args:=#[s,x],argTypes:=#[t,t]})
  {B:Nat} {v:Value} {xs:List Value} (hs:a.eval s=v) (hown:Own w B e size v xs) {ad:Addr} {m c:Nat} {news:List Value} (hx:a.eval x = .slice (some ad) m c) (hn:news.length=m*size)
  (hc:∀ j u,news[j]?=some u->w.cell? (ad.add j)=some u) (h1:∀ u∈news,u.oneCell'=true)
  (hlen:xs.length+news.length<=9223372036854775807) (hbytes:(xs.length+news.length)*bytes<=140737488355328) (hB:B<=w.heap.size)
  (K:∀ v' w',Own w' B e size v' (xs++news)->(∀ g,v'.ownBlock=some g->v.ownBlock=some g\/w.heap.size<=g)->w.grownBy w' v.ownBlock->wpList P ops Q rest (a.put o.dst v') w'):wpList P ops Q (o::rest) a w :=
 wpList_plain hg fun _K' hK'=>wp_ownw E s x hop hs hown hx hn hc h1 hlen hbytes hB fun v' w' h2 h3 h4=>hK' _ _ (K v' w' h2 h3 h4)
theorem Own.apart {w:World} {B B' sz sz':Nat} {e e':TypeId} {v v':Value} {xs xs':List Value} (h:Own w B e sz v xs)(k:Own w B' e' sz' v' xs')(hne:e≠e') {g:Nat} (hg:v.ownBlock=some g):v'.ownBlock≠some g:=fun hv=>by
 obtain⟨c1,h1⟩:=h.typed hg;obtain⟨c2,h2⟩:=k.typed hv;rw[h1]at h2;exact hne (by injection Option.some.inj h2)
theorem Own.slFo {w:World} {B sz:Nat} {e:TypeId} {v:Value} {xs:List Value} (h:Own w B e sz v xs) {S:Nat->Prop} (hS:∀ g,v.ownBlock=some g->S g):Sl S w sz v xs:=by
 obtain⟨n,h⟩:=h;exact ownsRow_sl h _ hS
theorem Own.set1 {w:World} {B:Nat} {e:TypeId} {g n c:Nat} {xs:List Value} (h:Own w B e 1 (.slice (some ⟨g,0,none⟩) n c) xs)(i:Nat)(u:Value):Own (w.setCell ⟨g,i,none⟩ u) B e 1 (.slice (some ⟨g,0,none⟩) n c) (xs.set i u):=by
 obtain⟨m,h⟩:=h;rcases h.2 with⟨hv,rfl⟩ | ⟨g',cap,cur,hv,hbg,hg,hnc,hcm,hcs,htake⟩
 ·cases hv
 ·cases hv;have hl:=h.1;refine⟨n,by rw[List.length_set];exact hl,.inr ⟨g,c,cur.setIfInBounds i u,rfl,hbg,heap_setCell_same w g i cur e u hg,hnc,hcm,by simpa using hcs,?_⟩⟩;rw[Array.toList_setIfInBounds,<- htake,List.take_set]
theorem Own.lay {w:World} {B:Nat} {e:TypeId} {v:Value} {xs:List Value} (h:Own w B e 1 v xs)(hx:xs≠[]):∃ g c cs,v = .slice (some ⟨g,0,none⟩) xs.length c/\B<=g/\Blk w g cs e/\xs.length<=c/\c<=maxLen/\(∀ i (hi:i<xs.length),cs[i]?=some xs[i]):=by
 obtain⟨m,h⟩:=h;rcases h.2 with⟨hv,he⟩ | ⟨g',cap,cur,hv,hbg,hg,hnc,hcm,hcs,htake⟩
 ·exact absurd (List.length_eq_zero_iff.1 (by have:=h.1;rw[he]at this;simpa using this)) hx
 ·have hl:=h.1;rw[Nat.mul_one]at hl htake;subst hl;refine⟨g',cap,cur,hv,hbg,hg,hnc,hcm,fun i hi=>?_⟩;have h1:=congrArg (fun l:List Value=>l[i]?) htake;rw[List.getElem?_take_of_lt hi,List.getElem?_eq_getElem hi]at h1;simpa using h1
attribute [local go_sem] Oper.semAt_some
theorem wpListIn_own {F:Fence} {n:Nat} {P:Program} {w:World} {ops:Array Oper} {rest:List Oper} {o:Oper} {a:Act} {Q:Exit->Act->World->Prop} {t e:TypeId} {size bytes:Nat} (E:ElemT P t e size bytes)
  (hg:o.guard=none) (s x:Operand) (hop:o.op=Op.call {callee:=Callee.builtin Builtin.append,args:=#[s,x],argTypes:=#[t,t]})
  {B:Nat} {v:Value} {xs:List Value} (hs:a.eval s=v) (hown:Own w B e size v xs) {ad:Addr} {m c:Nat} {news:List Value} (hx:a.eval x = .slice (some ad) m c) (hn:news.length=m*size)
  (hc:∀ j u,news[j]?=some u->w.cell? (ad.add j)=some u) (h1:∀ u∈news,u.oneCell'=true)
  (hlen:xs.length+news.length<=9223372036854775807) (hbytes:(xs.length+news.length)*bytes<=140737488355328) (hB:B<=w.heap.size)
  (K:∀ v' w',Own w' B e size v' (xs++news)->(∀ g,v'.ownBlock=some g->v.ownBlock=some g\/w.heap.size<=g)->w.grownBy w' v.ownBlock->wpListIn F n P ops Q rest (a.put o.dst v') w'):wpListIn F n P ops Q (o::rest) a w:=by
 obtain⟨hund,⟨i,z,hi,hz,h4,h5,h6⟩,hpos⟩:=E;obtain⟨k,hown⟩:=hown;have e1:∀ k l:Nat,k<=l*size->l*size<=k->l<=k:=fun k l _ hb=>Nat.le_trans (Nat.le_mul_of_pos_right l hpos) hb;have hnl:k<=xs.length:=e1 _ _ (Nat.le_of_eq hown.1) (Nat.le_of_eq hown.1.symm);have hml:m<=news.length:=e1 _ _ (Nat.le_of_eq hn) (Nat.le_of_eq hn.symm);have hb47:(k+m)*bytes<=140737488355328:=Nat.le_trans (Nat.mul_le_mul_right _ (by omega)) hbytes;subst h4;subst h5;refine wpListIn_plain hg fun K' hK'=>?_;obtain⟨v',w',hrun,r1,r2,_⟩:=run_append_own (P:=P) w B t o.type e i z i.size i.bytes hund hi hz rfl rfl h6 hpos v k xs hown ad m c news hn hc h1 (by unfold maxLen;omega) hb47 hB;have r3:=append_where B t o.type e i z hund hi hz v k xs hown ad m c news hn hc h1 (by unfold maxLen;omega) hb47 hrun;unfold Oper.wpIn;refine⟨?_,?_⟩
 ·simp[Oper.about,hop,resolve,Target.leads,Sem.run_pure]
 ·rw[Oper.semAt_plain F _ _ (by rw[hop];intro c hc';cases hc')];simp[execOp,hop,resolve,invoke,builtin,hs,hx,hrun,Result.andThen];exact hK' _ _ (K v' w' ⟨_,r1⟩ r3 r2)
theorem own_ownFrom {β:Type} (B0 Bs:Nat)(t e:TypeId)(sz:Nat)(f:β->List Value)(G:Value->Prop)(B:Nat):OwnFrom B (fun s W=>∃ v,Boxed W Bs t v/\Own W B0 e sz v (f s)/\G v):=by
 rintro s X Y row ⟨v,hv,⟨n,hr⟩,hG⟩ hg hrow;obtain⟨v2,h1,h2,rfl⟩:=(holdsRow_own B0 Bs t e sz (fun _:Unit=>n) (fun _=>f s) (fun _ u=>u=v)) () X Y row ⟨v,hv,hr,rfl⟩ hg (fun r e=>(hrow r e).2);exact⟨v2,h1,⟨n,h2⟩,hG⟩
theorem ownFrom_kept {β:Type} {K:Nat->Prop} {B:Nat} {w0:World} (hK:∀ b,K b->b<w0.heap.size)(hB:w0.heap.size<=B):OwnFrom B (fun(_:β) W=>Kept K w0 W):=fun _ X _ row h hg hr =>
 h.trans ⟨hg.os,hg.tape,hg.output,hg.size,fun b hb=>hg.block b (Nat.lt_of_lt_of_le (hK b hb) h.size) (fun e=>by have h1:=(hr b e.symm).1;have h2:=hK b hb;omega)⟩
theorem boxed3_kept {W W':World} {row:Option Nat} {B:Nat} {cs:Array Value} {t:TypeId} (h:Blk W B cs t)(hg:W.grownBy W' row)(hr:∀ r,row=some r->∃ o:Obj,W.heap[r]?=some o/\o.isCells=false):Blk W' B cs t :=
 (hg.block B h.lt (fun e=>by
  obtain⟨o,ho,hc⟩:=hr B e.symm;rw[show W.heap[B]?=_ from h]at ho;cases ho;cases hc)).trans h
theorem Own.put {W:World} {B0:Nat} {e:TypeId} {sz:Nat} {v:Value} {xs:List Value} (h:Own W B0 e sz v xs) {l:Nat} {o:Obj} (o':Obj)(hl:W.heap[l]?=some o)(ho:o.isCells=false):Own (W.putObj l o') B0 e sz v xs:=by
 obtain⟨n,h⟩:=h;exact⟨n,ownsRow_putObj h o' hl ho⟩
theorem boxed_notOwn {W:World} {B:Nat} {t e:TypeId} {u:Value} (h:Boxed W B t u)(hte:t≠e) {B0 sz:Nat} {v:Value} {xs:List Value} (hr:Own W B0 e sz v xs):some B≠v.ownBlock:=by
 obtain⟨n,hr⟩:=hr;exact h.not_row hte hr
theorem Own.not_cells {W:World} {B0:Nat} {e:TypeId} {sz:Nat} {v:Value} {xs:List Value} (h:Own W B0 e sz v xs) {k:Nat} {o:Obj} (hk:W.heap[k]?=some o)(ho:o.isCells=false):some k≠v.ownBlock:=fun e'=>by
 obtain⟨cur,hc⟩:=h.typed e'.symm;rw[hk]at hc;cases hc;cases ho
theorem keeps_own {W W':World} {B0:Nat} {e:TypeId} {sz:Nat} {v:Value} {xs:List Value} (h:Own W B0 e sz v xs)(hg:W.grownBy W' v.ownBlock)(B:Nat):KeepsFrom B W W' :=
 ⟨hg.size,fun k _ _ hk ho=>(hg.block k (Array.getElem?_eq_some_iff.1 hk).1 (h.not_cells hk ho)).trans hk⟩
theorem keeps_up {W W':World} (h:KeepsFrom 0 W W')(B:Nat):KeepsFrom B W W':=⟨h.size,fun k o _ hk ho=>h.same k o (Nat.zero_le _) hk ho⟩
end Go.Proofs.YtlhaghoajpglaaaGreat
namespace Go.Proofs.YtlhaghoajpglaaaGreat
open Go Go.RowKit Go.Maps
def QK (e:TypeId)(M:Nat->Prop)(B:Nat)(w:World)(x:Nat):Prop:=x<B\/(¬ M x/\x<w.heap.size/\∀ cs,w.heap[x]?≠some (.cells cs e (0,0)))
abbrev QKept (e:TypeId) (M:Nat->Prop) (B:Nat) (w w':World):Prop:=Kept (QK e M B w) w w'
section
variable {e : TypeId} {M : Nat -> Prop} {w w' w'' : World} {B : Nat}
theorem QKept.below (h:QKept e M B w w'):Below B w w':=Kept.below h fun _ hx => .inl hx
theorem QKept.next (h:QKept e M B w w')(k:QKept e M B w' w''):QKept e M B w w'':=Kept.trans h (Kept.mono k fun x hx=>by
 rcases hx with hx | ⟨h1,h2,h3⟩
 ·exact .inl hx
 ·refine .inr ⟨h1,Nat.lt_of_lt_of_le h2 h.size,fun cs=>?_⟩;rw[h.block x (.inr ⟨h1,h2,h3⟩)];exact h3 cs)
theorem QKept.of (h:Below w.heap.size w w')(hB:B<=w.heap.size):QKept e M B w w':=Below.kept h fun x hx=>by
 rcases hx with hx | ⟨_,h2,_⟩
 ·omega
 ·exact h2
theorem QKept.box (h:QKept e M B w w') {x:Nat} {cs:Array Value} {t:TypeId} (hx:Blk w x cs t)(he:t≠e)(hb:¬ M x):Blk w' x cs t:=Kept.blk h hx (.inr ⟨hb,hx.lt,fun cs' h'=>by
 rw[show w.heap[x]?=_ from hx]at h';injection h' with h'
 injection h' with _ h2 _
 exact he h2⟩)
theorem QKept.turned {b:Nat} (h:Turned w w' b)(hb:M b)(hB:B<=b):QKept e M B w w':=h.kept.mono fun x hx=>by
 rcases hx with hx | ⟨h1,_⟩
 ·show x≠b;omega
 ·show x≠b;exact fun e=>h1 (e▸hb)
theorem QKept.grown {v:Value} {sz:Nat} {xs:List Value} (ho:Own w B e sz v xs)(hg:w.grownBy w' v.ownBlock)(hB:B<=w.heap.size):QKept e M B w w':=⟨hg.os,hg.tape,hg.output,hg.size,fun x hx=>by
 rcases hx with hx | ⟨_,h2,h3⟩
 ·exact hg.block x (by omega) (fun e=>by have:=(ho.block x e.symm).1;omega)
 ·refine hg.block x h2 (fun e=>?_);obtain⟨n,ho⟩:=ho;rcases ho.2 with⟨rfl,_⟩ | ⟨g',cap,cur,rfl,hbg,hg',r⟩
  ·cases e
  ·injection e with e
   subst e;exact h3 _ hg'⟩
end
theorem wpList_own2 {P:Program} {w:World} {ops:Array Oper} {rest:List Oper} {o:Oper} {a:Act} {Q:Exit->Act->World->Prop} {t e:TypeId} {size bytes:Nat} (E:ElemT P t e size bytes)
  (hg:o.guard=none) (s x:Operand) (hop:o.op=Op.call {callee:=Callee.builtin Builtin.append,args:=#[s,x],argTypes:=#[t,t]})
  {B:Nat} {v:Value} {xs:List Value} (hs:a.eval s=v) (hown:Own w B e size v xs) {T:Nat->Prop} {y:Value} {news:List Value} (hx:a.eval x=y) (hy:Sl T w size y news) (h1:∀ u∈news,u.oneCell'=true)
  (hlen:xs.length+news.length<=9223372036854775807) (hbytes:(xs.length+news.length)*bytes<=140737488355328) (hB:B<=w.heap.size)
  (K:∀ v' w',Own w' B e size v' (xs++news)->Below B w w'->w.grownBy w' v.ownBlock->wpList P ops Q rest (a.put o.dst v') w'):wpList P ops Q (o::rest) a w :=
 wpList_plain hg fun _K' hK'=>wp_own E s x hop hs hown hx hy h1 hlen hbytes hB fun v' w' h2 h3 h4=>hK' _ _ (K v' w' h2 h3 h4)
end Go.Proofs.YtlhaghoajpglaaaGreat
namespace Go.Proofs.YtlhaghoajpglaaaGreat
open Go Go.RowKit
theorem Own.keepB {w w':World} {B:Nat} {e:TypeId} {sz:Nat} {v:Value} {xs:List Value} (h:Own w B e sz v xs)(hs:∀ g,v.ownBlock=some g->w'.heap[g]?=w.heap[g]?):Own w' B e sz v xs:=by
 obtain⟨n,h⟩:=h;refine⟨n,h.1,?_⟩;rcases h.2 with hn | ⟨g,cap,cur,rfl,hbg,hg,r⟩
 ·exact .inl hn
 ·exact .inr ⟨g,cap,cur,rfl,hbg,(hs g rfl).trans hg,r⟩
theorem Own.notBlk {w:World} {B:Nat} {e t:TypeId} {sz:Nat} {v:Value} {xs:List Value} {b:Nat} {cs:Array Value} (h:Own w B e sz v xs)(hb:Blk w b cs t)(hne:t≠e):∀ g,v.ownBlock=some g->g≠b:=by
 intro g hg he;obtain⟨n,h⟩:=h;rcases h.2 with⟨rfl,_⟩ | ⟨g',cap,cur,rfl,hbg,hg',r⟩
 ·cases hg
 ·injection hg with hg
  subst hg he;rw[show w.heap[g']?=_ from hb]at hg';injection hg' with hg'
  injection hg' with _ h2 _
  exact hne h2
def WrB (w:World)(B b:Nat)(text:ByteArray)(odd:Bool):Prop:=B<=b/\∃ p v,(p = .pointer none\/p = .pointer (some ⟨b,0,none⟩))/\Blk w b #[p,v,.bool odd] 298/\Own w B 5 1 v (Lib.strCells text)/\(text.size=0->v = .slice none 0 0)
def WK (B b:Nat)(w:World)(x:Nat):Prop:=x<B\/(x≠b/\x<w.heap.size/\∀ cs,w.heap[x]?≠some (.cells cs 5 (0,0)))
abbrev WKept (B b:Nat) (w w':World):Prop:=Kept (WK B b w) w w'
section
variable {w w' w'' : World} {B b : Nat}
theorem WKept.below (h:WKept B b w w'):Below B w w':=Kept.below h fun _ hx => .inl hx
theorem WKept.next (h:WKept B b w w')(k:WKept B b w' w''):WKept B b w w'':=Kept.trans h (Kept.mono k fun x hx=>by
 rcases hx with hx | ⟨h1,h2,h3⟩
 ·exact .inl hx
 ·refine .inr ⟨h1,Nat.lt_of_lt_of_le h2 h.size,fun cs=>?_⟩;rw[h.block x (.inr ⟨h1,h2,h3⟩)];exact h3 cs)
theorem WKept.of (h:Below w.heap.size w w')(hB:B<=w.heap.size):WKept B b w w':=Below.kept h fun x hx=>by
 rcases hx with hx | ⟨_,h2,_⟩
 ·omega
 ·exact h2
theorem WKept.box (h:WKept B b w w') {x:Nat} {cs:Array Value} {e:TypeId} (hx:Blk w x cs e)(he:e≠5)(hb:x≠b):Blk w' x cs e:=Kept.blk h hx (.inr ⟨hb,hx.lt,fun cs' h'=>by
 rw[show w.heap[x]?=_ from hx]at h';injection h' with h'
 injection h' with _ h2 _
 exact he h2⟩)
theorem WrB.lt {text:ByteArray} {odd:Bool} (h:WrB w B b text odd):b<w.heap.size:=by
 obtain⟨_,p,v,_,hb,_⟩:=h;exact hb.lt
theorem WrB.up {text:ByteArray} {odd:Bool} (h:WrB w B b text odd)(hk:Below w.heap.size w w'):WrB w' B b text odd:=by
 obtain⟨hB,p,v,hp,hb,ho,hn⟩:=h;exact⟨hB,p,v,hp,hb.below hk,ho.below hk,hn⟩
theorem WrB.flag {text:ByteArray} {odd:Bool} (h:WrB w B b text odd)(o:Bool):WrB (w.setCell ⟨b,2,none⟩ (.bool o)) B b text o:=by
 obtain⟨hB,p,v,hp,hb,ho,hn⟩:=h;exact⟨hB,p,v,hp,hb.set 2 _,ho.keepB fun g hg=>Below.heap_setCell _ _ _ g (ho.notBlk hb (by decide) g hg),hn⟩
theorem WKept.flag (hB:B<=b)(v:Value):WKept B b w (w.setCell ⟨b,2,none⟩ v):=(Kept.refl _ _).set (a:=⟨b,2,none⟩) (fun h=>by
 rcases h with h | ⟨h,_⟩
 ·exact absurd h (by show ¬ b<B;omega)
 ·exact h rfl) _
theorem WrB.odd2 {text:ByteArray} {odd:Bool} (h:WrB w B b text odd):w.cell? ⟨b,2,none⟩=some (.bool odd)/\w.frozen? ⟨b,2,none⟩=false:=by
 obtain⟨hB,p,v,hp,hb,ho,hn⟩:=h;exact⟨hb.cells 2,hb.free 2⟩
end
theorem bytesInfoW:(Tryz.prog.info? 5).map (fun i=>(i.zero,i.size,i.bytes))=some (some (.int .u8 0),1,1):=by kernel_rfl
theorem writerSize:(Tryz.prog.info? 296).map (·.size)=some 2:=by kernel_rfl
theorem writerInfo:∃ j,Tryz.prog.info? 296=some j/\j.size≠0:=by
 obtain⟨j,hj,hs⟩:=Option.map_eq_some_iff.1 writerSize;exact⟨j,hj,by omega⟩
theorem liesW:liesAt Tryz.prog Tryz.prog.depth 298 (3 / Tryz.prog.cellsOf 298) 0 296 1=true:=by kernel_rfl
theorem WrB.shape {w:World} {b:Nat} {cs:Array Value} (h:Blk w b cs 298)(hs:cs.size=3):w.shape? b=some (298,3):=by
 simp[World.shape?,show w.heap[b]?=_ from h,hs]
theorem copyCheck_used (b:Nat)(w:World)(h0:w.cell? ⟨b,0,none⟩=some (.pointer (some ⟨b,0,none⟩))) :
  Calls Tryz.prog 230 #[.pointer (some ⟨b,0,none⟩)] w fun e w'=>e = .returned (.tuple #[])/\w'=w:=by
 obtain⟨j,hj,_⟩:=writerInfo;go_enter Tryz.func230,Tryz.ntmps230
 go_wp2
 rw[Lib.run_neq_ptr_same w _ Tryz.underlying294 hj];go_wp2
 go_end0
 exact⟨rfl,rfl⟩
theorem copyCheck_fresh (b:Nat)(w:World)(h0:w.cell? ⟨b,0,none⟩=some (.pointer none))(hsh:w.shape? b=some (298,3))(hfz:w.frozen? ⟨b,0,none⟩=false) :
  Calls Tryz.prog 230 #[.pointer (some ⟨b,0,none⟩)] w fun e w'=>e = .returned (.tuple #[])/\w'=w.setCell ⟨b,0,none⟩ (.pointer (some ⟨b,0,none⟩)):=by
 obtain⟨j,hj,hjs⟩:=writerInfo;go_enter Tryz.func230,Tryz.ntmps230
 go_wp2
 rw[Lib.run_to_unsafe w ⟨b,0,none⟩ Tryz.underlying294 Tryz.underlying376 hj hjs hsh (Nat.zero_lt_succ 2)];simp only[Result.andThen];rw[Oper.upon_value];go_wp2
 rw[run_callFunc_extern Tryz.func280 (by kernel_rfl) (by kernel_rfl) (by kernel_rfl) (e:=Extern.AbiNoEscape.same) (by kernel_rfl)];rw[Lib.run_noEscape];simp only[Result.andThen];rw[Oper.upon_value];go_wp2
 rw[Lib.run_from_unsafe w ⟨b,0,none⟩ Tryz.underlying376 Tryz.underlying294 hj hsh liesW];simp only[Result.andThen];rw[Oper.upon_value];go_wp2
 go_end0
 exact⟨rfl,rfl⟩
theorem copyCheck_any {B b:Nat} {text:ByteArray} {odd:Bool} {w:World} (h:WrB w B b text odd) :
  Calls Tryz.prog 230 #[.pointer (some ⟨b,0,none⟩)] w fun e w'=>e = .returned (.tuple #[])/\(∃ v,Blk w' b #[.pointer (some ⟨b,0,none⟩),v,.bool odd] 298/\Own w' B 5 1 v (Lib.strCells text))/\WKept B b w w':=by
 obtain⟨hB,p,v,hp,hb,ho,hn⟩:=h;rcases hp with rfl | rfl
 ·refine(copyCheck_fresh b w (hb.cells 0) (WrB.shape hb rfl) (hb.free 0)).mono ?_;rintro e w' ⟨rfl,rfl⟩;refine⟨rfl,⟨v,hb.set 0 _,ho.keepB fun g hg=>Below.heap_setCell _ _ _ g (ho.notBlk hb (by decide) g hg)⟩,(Kept.refl _ _).set (a:=⟨b,0,none⟩) (fun h=>?_) _⟩;rcases h with h | ⟨h,_⟩
  ·exact absurd h (by show ¬ b<B;omega)
  ·exact h rfl
 ·refine(copyCheck_used b w (hb.cells 0)).mono ?_;rintro e w' ⟨rfl,rfl⟩;exact⟨rfl,⟨v,hb,ho⟩,Kept.refl _ _⟩
theorem writeString_any {B b:Nat} {text:ByteArray} {odd:Bool} {w:World} (s:ByteArray)(h:WrB w B b text odd)(hlen:text.size+s.size<=140737488355328)(hpos:0<text.size+s.size)(hBw:B<=w.heap.size) :
  Calls Tryz.prog 188 #[.pointer (some ⟨b,0,none⟩),.string s] w fun e w'=>e = .returned (.tuple #[.int .i64 s.size,.nilIface])/\WrB w' B b (text++s) odd/\WKept B b w w':=by
 have HCC:=h! (copyCheck_any h);have hB:=h.1;obtain⟨i0,hi,hz0,hz1,hz2⟩:=info_parts bytesInfoW;clear h;go_enter Tryz.func188,Tryz.ntmps188
 go_wp2_with fail
 refine HCC.out.mono ?_;rintro e w1 ⟨rfl,⟨v,hb1,ho1⟩,hk1⟩;have hsz1:=hk1.size;have c1:=hb1.cells;have HNB:=h! (ho1.notBlk hb1 (by decide));have HBL:=h! hb1;have HO:=h! ho1;have HK:=h! hk1;obtain⟨n1,ho1'⟩:=ho1;have hn1:n1=text.size:=by have:=ho1'.1;rw[Lib.strCells_length]at this;omega
 subst hn1;have hb1':=hb1;clear HCC hb1 hk1;go_wp2_with (at_builtin;refine Lib.wpList_append_own_string _ rfl _ _ 22 9 rfl B 5 i0 Tryz.underlying22 Tryz.underlying9 hi hz0 hz1 hz2 _ _ _ rfl ho1' s rfl ?c3 ?c4 ?c5 ?_)
 case c3=>unfold maxLen;omega
 case c4=>omega
 case c5=>omega
 intro v' w2 hown' hgrow _;have hb2:Blk w2 b #[.pointer (some ⟨b,0,none⟩),v,.bool odd] 298:=(hgrow.block b hb1'.lt (fun e=>HNB.out b e.symm rfl)).trans hb1';have d0:=hb2.cells;have f0:=hb2.free;have HO2:Own w2 B 5 1 v' (Lib.strCells text++Lib.strCells s):=⟨_,hown'⟩;have HN2:=HO2.notBlk hb2 (by decide)
 have HKG:WKept B b w1 w2:=⟨hgrow.os,hgrow.tape,hgrow.output,hgrow.size,fun x hx=>by
  have hO:=HO.out;rcases hx with hx | ⟨h1,h2,h3⟩
  ·exact hgrow.block x (by omega) (fun e=>by have:=(hO.block x e.symm).1;omega)
  ·refine hgrow.block x h2 (fun e=>?_);obtain⟨n,ho⟩:=hO;rcases ho.2 with⟨rfl,_⟩ | ⟨g',cap,cur,rfl,hbg,hg',r⟩
   ·cases e
   ·injection e with e
    subst e;exact h3 _ hg'⟩
 have HO3:=h! HO2;have HKG2:=h! HKG;have HB2:=h! hb2;have HN3:=h! HN2
 obtain⟨ao,n',cap,rfl⟩:∃ ao n' cap,v' = .slice ao n' cap:=by
  rcases hown'.2 with⟨hv,_⟩ | ⟨g,cap,cur,hv,_⟩
  ·exact⟨_,_,_,hv⟩
  ·exact⟨_,_,_,hv⟩
 clear c1 hb1' ho1' hgrow hown' hb2 HO2 HN2 HKG hi hz0 hz1 hz2;go_wp2_with fail
 go_ret2
 refine⟨rfl,⟨hB,_,_,.inr rfl,HB2.out.set 1 _,?_,fun h=>?_⟩,?_⟩
 ·have h1:Lib.strCells (text++s)=Lib.strCells text++Lib.strCells s:=by simp[Lib.strCells]
  rw[h1];exact HO3.out.keepB fun g hg=>Below.heap_setCell _ _ _ g (HN3.out g hg)
 ·rw[ByteArray.size_append]at h;omega
 ·refine WKept.next (WKept.next HK.out HKG2.out) ((Kept.refl _ _).set (a:=⟨b,1,none⟩) (fun h=>?_) _);rcases h with h | ⟨h,_⟩
  ·exact absurd h (by show ¬ b<B;omega)
  ·exact h rfl
def headOk (ts:List TyS)(t:TyS)(k:Int)(a b:ByteArray):Bool:=!((k == 2&&!hasT t a)||(k == 3&&(!hasT t a||!anyT ts b)))
mutual
def RT.named (ts:List TyS)(t:TyS):RT->Bool | .mk k a b ps=>headOk ts t k a b&&namedL ts t ps
def namedL (ts:List TyS)(t:TyS):List RT->Bool | []=>true | r::rs=>r.named ts t&&namedL ts t rs
end
theorem namedL_eq (ts:List TyS)(t:TyS):∀ l:List RT,namedL ts t l=l.all fun r=>r.named ts t
 | []=>rfl
 | r::rs=>by rw[namedL,List.all_cons,namedL_eq ts t rs]
theorem RT.named_eq (ts:List TyS)(t:TyS)(r:RT):r.named ts t=(!((r.k == 2&&!hasT t r.a)||(r.k == 3&&(!hasT t r.a||!anyT ts r.b)))&&r.ps.all fun r=>r.named ts t):=by
 obtain⟨k,a,b,ps⟩:=r;rw[RT.named,namedL_eq];rfl
theorem named06_any (ts:List TyS)(t:TyS)(tv rv:Value)(r:RT):∀ (pv:Value)(w:World),TysAt (· < w.heap.size) w ts tv->RelsAt (· < w.heap.size) w t.rels rv->RTAt (· < w.heap.size) w r pv->Calls Tryz.prog 105 #[.agg #[tv],.agg #[.string t.name,rv],rV r pv] w fun e w'=>e = .returned (.bool (r.named ts t))/\Below w.heap.size w w':=by
 induction r using RT.ind with
 | h r ih =>
 intro pv w hts hrs hat;obtain⟨ao,c,rfl,hlc,hcm,hcell⟩:=hat.rows;obtain⟨to,tc,htv,-⟩:=hts.rows;obtain⟨ro,rc,hrv,-⟩:=hrs.rows;have HC:=h! hcell;have HI:=h! ih;have HTS:=h! hts;have HRS:=h! hrs;have HE:=h! (r.named_eq ts t);have HT:=h! (fun(w':World) (hb:Below w.heap.size w w')=>has_any t rv r.a w' (hrs.up hb));have HA:=h! (fun(w':World) (hb:Below w.heap.size w w')=>anywhere_any ts tv r.b w' (hts.up hb));clear hat hcell ih hts hrs;generalize r.named ts t=g at *;unfold rV;generalize r.ps=ps at *;generalize r.k=k at *;generalize r.a=ra at *;generalize r.b=rb at *;generalize hasT t ra=ha at *;generalize anyT ts rb=hb at *;obtain⟨w3,hw3⟩:∃ w3,w3=((w.alloc (.cells #[tv] 26)).alloc (.cells #[.string t.name,rv] 176)).alloc (.cells #[.int .i64 k,.string ra,.string rb,.slice ao ps.length c] 106):=⟨_,rfl⟩;have hS3:Blk w3 w.heap.size #[tv] 26:=by rw[hw3];exact((Blk.made w #[tv] 26).alloc _).alloc _
 have hT3:Blk w3 (w.heap.size+1) #[.string t.name,rv] 176:=by rw[hw3];exact(Blk.made' (w:=w.alloc (.cells #[tv] 26)) (B:=w.heap.size+1) (by simp) #[.string t.name,rv] 176).alloc _
 have hR3:Blk w3 (w.heap.size+2) #[.int .i64 k,.string ra,.string rb,.slice ao ps.length c] 106:=by rw[hw3];exact Blk.made' (w:=(w.alloc (.cells #[tv] 26)).alloc (.cells #[.string t.name,rv] 176)) (B:=w.heap.size+2) (by simp) #[.int .i64 k,.string ra,.string rb,.slice ao ps.length c] 106
 have hb3:Below w.heap.size w w3:=by rw[hw3];exact(((Below.refl _ _).alloc (Nat.le_refl _) _).alloc (by simp) _).alloc (by simp;omega) _
 subst htv hrv;have HS3:=h! hS3;have HT3:=h! hT3;have HR3:=h! hR3;have HB3:=h! hb3;have HW3:=h! hw3;clear hS3 hT3 hR3 hb3 hw3
 have hch:(k=2/\ha=false)\/(k=2/\ha=true)\/(k=3/\ha=false)\/(k=3/\ha=true/\hb=false)\/(k=3/\ha=true/\hb=true)\/(k≠2/\k≠3):=by
  cases ha <;> cases hb <;> simp <;> omega
 have HCE:=h! (show ∀ W,Below w3.heap.size w3 W->(∀ i,W.cell? ⟨w.heap.size,i,none⟩=(#[.slice to ts.length tc]:Array Value)[i]?)/\(∀ i,W.cell? ⟨w.heap.size+1,i,none⟩=(#[.string t.name,.slice ro t.rels.length rc]:Array Value)[i]?)/\(∀ i,W.cell? ⟨w.heap.size+2,i,none⟩=(#[.int .i64 k,.string ra,.string rb,.slice ao ps.length c]:Array Value)[i]?)from fun W hW=>⟨(HS3.out.below hW).cells,(HT3.out.below hW).cells,(HR3.out.below hW).cells⟩);obtain⟨cS,cT,cR⟩:=HCE.out w3 (Below.refl _ _);rw[HW3.out]at cS cT cR;go_enter Tryz.func105,Tryz.ntmps105
 rcases hch with⟨rfl,rfl⟩ | ⟨rfl,rfl⟩ | ⟨rfl,rfl⟩ | ⟨rfl,rfl,rfl⟩ | ⟨rfl,rfl,rfl⟩ | ⟨h2,h3⟩
 ·have HG:=h! (show g=false from by rw[HE.out];rfl);go_wp2_with fail
  rw[<- HW3.out];clear cS cT cR;refine(HT.out w3 HB3.out).mono ?_;rintro e w4 ⟨rfl,hb4⟩;obtain⟨cS,cT,cR⟩:=HCE.out w4 hb4;have HBE:=h! (HB3.out.trans (hb4.mono HB3.out.size));clear hb4;go_wp2_with fail
  go_ret
  exact⟨by rw[HG.out];rfl,HBE.out⟩
 ·have HG:=h! (show g=ps.all fun r=>r.named ts t from by rw[HE.out];simp);go_wp2_with fail
  rw[<- HW3.out];clear cS cT cR;refine(HT.out w3 HB3.out).mono ?_;rintro e w4 ⟨rfl,hb4⟩;obtain⟨cS,cT,cR⟩:=HCE.out w4 hb4;have HBL:=h! hb4;clear hb4;go_wp2_with fail
  try rw[<- HW3.out]
  clear cS cT cR;go_loopw [41] (fun ii wr=>∃ i:Nat,i<=ps.length/\ii = .int .i64 i/\(∀ j (hj:j<ps.length),j<i->ps[j].named ts t=true)/\Below w3.heap.size w3 wr) (fun ii _=>ps.length-(intOf ii).toNat)
  case atStart=>exact⟨0,by omega,rfl,fun _ _ h=>absurd h (by omega),HBL.out⟩
  case round =>
   obtain⟨i,hi,rfl,hall,hb3r⟩:=hrel;have HALL:=h! hall;have hbel:Below w.heap.size w wr:=HB3.out.trans (hb3r.mono HB3.out.size);clear HBL hall;by_cases hlt:i<ps.length
   ·have HUP:=fun h=>h! (upto_succ (p:=fun j hj=>ps[j].named ts t=true) HALL.out hlt h);have HAN:=fun(h:ps[i].named ts t=false)=>h! (show g=false from by rw[HG.out];exact List.all_eq_false.2 ⟨ps[i],List.getElem_mem hlt,by rw[h];exact Bool.false_ne_true⟩);obtain⟨b,off,pv2,hbo,hb,c0,c1,c2,c3,hat2⟩:=HC.out i hlt;cases hbo;have d0:=(hbel.cell (p:=⟨b,off+i*4,none⟩) hb).trans c0;have d1:=(hbel.cell (p:=⟨b,off+i*4+1,none⟩) hb).trans c1;have d2:=(hbel.cell (p:=⟨b,off+i*4+2,none⟩) hb).trans c2;have d3:=(hbel.cell (p:=⟨b,off+i*4+3,none⟩) hb).trans c3;obtain⟨ao2,c2',rfl,-⟩:=hat2.rows;have hb1:=hbel.alloc hbel.size (.cells #[.int .i64 ps[i].k,.string ps[i].a,.string ps[i].b,.slice ao2 ps[i].ps.length c2'] 106);have hat3:=hat2.up hb1;have hbx:=(Blk.made wr #[.int .i64 ps[i].k,.string ps[i].a,.string ps[i].b,.slice ao2 ps[i].ps.length c2'] 106).cells;have HB1:=h! hb1;clear c0 c1 c2 c3 hat2 hb1 hbel;have HB3R:=h! (hb3r.alloc hb3r.size (.cells #[.int .i64 ps[i].k,.string ps[i].a,.string ps[i].b,.slice ao2 ps[i].ps.length c2'] 106));obtain⟨cS,cT,cR⟩:=HCE.out _ HB3R.out;have HR:=h! (HI.out ps[i] (List.getElem_mem hlt) _ _ (HTS.out.up HB1.out) (HRS.out.up HB1.out) hat3);unfold rV at HR;clear hat3 hb3r;generalize ps[i]=p at *;cases hx:p.named ts t with
    | true =>
     rw[hx]at HR;have HN:=HUP hx;clear HUP HAN hx;go_wp2_with fail
     refine HR.out.mono ?_;rintro e w6 ⟨rfl,hb6⟩;have HB6:=h! (HB3R.out.trans (hb6.mono HB3R.out.size));clear HR hb6 hbx d0 d1 d2 d3 HB1 cS cT cR;go_wp2_with fail
     go_roundw
     case rel=>exact⟨i+1,by omega,by go_num,HN.out,HB6.out⟩
     case measure=>simp[intOf];omega
    | false =>
     rw[hx]at HR;have HF:=HAN hx;clear HUP HAN hx;go_wp2_with fail
     refine HR.out.mono ?_;rintro e w6 ⟨rfl,hb6⟩;have HB6:=h! (HB1.out.trans (hb6.mono HB1.out.size));clear HR hb6 hbx d0 d1 d2 d3 HB1 cS cT cR;go_wp2_with fail
     go_ret
     exact⟨by rw[HF.out];rfl,HB6.out⟩
   ·obtain rfl:i=ps.length:=by omega
    have HF:=h! (show g=true from by
     rw[HG.out,List.all_eq_true];intro x hx;obtain⟨j,hj,rfl⟩:=List.getElem_of_mem hx;exact HALL.out j hj hj)
    have HBE:=h! hbel;clear hbel;go_wp2_with fail
    go_ret
    exact⟨by rw[HF.out];rfl,HBE.out⟩
 ·have HG:=h! (show g=false from by rw[HE.out];simp);go_wp2_with fail
  rw[<- HW3.out];clear cS cT cR;refine(HT.out w3 HB3.out).mono ?_;rintro e w4 ⟨rfl,hb4⟩;obtain⟨cS,cT,cR⟩:=HCE.out w4 hb4;have HBE:=h! (HB3.out.trans (hb4.mono HB3.out.size));clear hb4;go_wp2_with fail
  go_ret
  exact⟨by rw[HG.out];rfl,HBE.out⟩
 ·have HG:=h! (show g=false from by rw[HE.out];simp);go_wp2_with fail
  rw[<- HW3.out];clear cS cT cR;refine(HT.out w3 HB3.out).mono ?_;rintro e w4 ⟨rfl,hb4⟩;obtain⟨cS,cT,cR⟩:=HCE.out w4 hb4;have HA4:=h! (HA.out w4 (HB3.out.trans (hb4.mono HB3.out.size)));go_wp2_with fail
  clear cS cT cR;refine HA4.out.mono ?_;rintro e w5 ⟨rfl,hb5⟩;replace hb4:=hb4.trans (hb5.mono hb4.size);clear HA4 hb5;obtain⟨cS,cT,cR⟩:=HCE.out w5 hb4;have HBE:=h! (HB3.out.trans (hb4.mono HB3.out.size));clear hb4;go_wp2_with fail
  go_ret
  exact⟨by rw[HG.out];rfl,HBE.out⟩
 ·have HG:=h! (show g=ps.all fun r=>r.named ts t from by rw[HE.out];simp);go_wp2_with fail
  rw[<- HW3.out];clear cS cT cR;refine(HT.out w3 HB3.out).mono ?_;rintro e w4 ⟨rfl,hb4⟩;obtain⟨cS,cT,cR⟩:=HCE.out w4 hb4;have HA4:=h! (HA.out w4 (HB3.out.trans (hb4.mono HB3.out.size)));go_wp2_with fail
  clear cS cT cR;refine HA4.out.mono ?_;rintro e w5 ⟨rfl,hb5⟩;replace hb4:=hb4.trans (hb5.mono hb4.size);clear HA4 hb5;obtain⟨cS,cT,cR⟩:=HCE.out w5 hb4;have HBL:=h! hb4;clear hb4;go_wp2_with fail
  try rw[<- HW3.out]
  clear cS cT cR;go_loopw [41] (fun ii wr=>∃ i:Nat,i<=ps.length/\ii = .int .i64 i/\(∀ j (hj:j<ps.length),j<i->ps[j].named ts t=true)/\Below w3.heap.size w3 wr) (fun ii _=>ps.length-(intOf ii).toNat)
  case atStart=>exact⟨0,by omega,rfl,fun _ _ h=>absurd h (by omega),HBL.out⟩
  case round =>
   obtain⟨i,hi,rfl,hall,hb3r⟩:=hrel;have HALL:=h! hall;have hbel:Below w.heap.size w wr:=HB3.out.trans (hb3r.mono HB3.out.size);clear HBL hall;by_cases hlt:i<ps.length
   ·have HUP:=fun h=>h! (upto_succ (p:=fun j hj=>ps[j].named ts t=true) HALL.out hlt h);have HAN:=fun(h:ps[i].named ts t=false)=>h! (show g=false from by rw[HG.out];exact List.all_eq_false.2 ⟨ps[i],List.getElem_mem hlt,by rw[h];exact Bool.false_ne_true⟩);obtain⟨b,off,pv2,hbo,hb,c0,c1,c2,c3,hat2⟩:=HC.out i hlt;cases hbo;have d0:=(hbel.cell (p:=⟨b,off+i*4,none⟩) hb).trans c0;have d1:=(hbel.cell (p:=⟨b,off+i*4+1,none⟩) hb).trans c1;have d2:=(hbel.cell (p:=⟨b,off+i*4+2,none⟩) hb).trans c2;have d3:=(hbel.cell (p:=⟨b,off+i*4+3,none⟩) hb).trans c3;obtain⟨ao2,c2',rfl,-⟩:=hat2.rows;have hb1:=hbel.alloc hbel.size (.cells #[.int .i64 ps[i].k,.string ps[i].a,.string ps[i].b,.slice ao2 ps[i].ps.length c2'] 106);have hat3:=hat2.up hb1;have hbx:=(Blk.made wr #[.int .i64 ps[i].k,.string ps[i].a,.string ps[i].b,.slice ao2 ps[i].ps.length c2'] 106).cells;have HB1:=h! hb1;clear c0 c1 c2 c3 hat2 hb1 hbel;have HB3R:=h! (hb3r.alloc hb3r.size (.cells #[.int .i64 ps[i].k,.string ps[i].a,.string ps[i].b,.slice ao2 ps[i].ps.length c2'] 106));obtain⟨cS,cT,cR⟩:=HCE.out _ HB3R.out;have HR:=h! (HI.out ps[i] (List.getElem_mem hlt) _ _ (HTS.out.up HB1.out) (HRS.out.up HB1.out) hat3);unfold rV at HR;clear hat3 hb3r;generalize ps[i]=p at *;cases hx:p.named ts t with
    | true =>
     rw[hx]at HR;have HN:=HUP hx;clear HUP HAN hx;go_wp2_with fail
     refine HR.out.mono ?_;rintro e w6 ⟨rfl,hb6⟩;have HB6:=h! (HB3R.out.trans (hb6.mono HB3R.out.size));clear HR hb6 hbx d0 d1 d2 d3 HB1 cS cT cR;go_wp2_with fail
     go_roundw
     case rel=>exact⟨i+1,by omega,by go_num,HN.out,HB6.out⟩
     case measure=>simp[intOf];omega
    | false =>
     rw[hx]at HR;have HF:=HAN hx;clear HUP HAN hx;go_wp2_with fail
     refine HR.out.mono ?_;rintro e w6 ⟨rfl,hb6⟩;have HB6:=h! (HB1.out.trans (hb6.mono HB1.out.size));clear HR hb6 hbx d0 d1 d2 d3 HB1 cS cT cR;go_wp2_with fail
     go_ret
     exact⟨by rw[HF.out];rfl,HB6.out⟩
   ·obtain rfl:i=ps.length:=by omega
    have HF:=h! (show g=true from by
     rw[HG.out,List.all_eq_true];intro x hx;obtain⟨j,hj,rfl⟩:=List.getElem_of_mem hx;exact HALL.out j hj hj)
    have HBE:=h! hbel;clear hbel;go_wp2_with fail
    go_ret
    exact⟨by rw[HF.out];rfl,HBE.out⟩
 ·have hk2:(k == 2)=false:=by rw[beq_eq_false_iff_ne];exact h2
  have hk3:(k == 3)=false:=by rw[beq_eq_false_iff_ne];exact h3
  have HG:=h! (show g=ps.all fun r=>r.named ts t from by rw[HE.out,hk2,hk3];simp);clear h2 h3;have HBL:=h! (Below.refl w3.heap.size w3);go_wp2_with fail
  try rw[<- HW3.out]
  go_loopw [41] (fun ii wr=>∃ i:Nat,i<=ps.length/\ii = .int .i64 i/\(∀ j (hj:j<ps.length),j<i->ps[j].named ts t=true)/\Below w3.heap.size w3 wr) (fun ii _=>ps.length-(intOf ii).toNat)
  case atStart=>exact⟨0,by omega,rfl,fun _ _ h=>absurd h (by omega),HBL.out⟩
  case round =>
   obtain⟨i,hi,rfl,hall,hb3r⟩:=hrel;have HALL:=h! hall;have hbel:Below w.heap.size w wr:=HB3.out.trans (hb3r.mono HB3.out.size);clear HBL hall;by_cases hlt:i<ps.length
   ·have HUP:=fun h=>h! (upto_succ (p:=fun j hj=>ps[j].named ts t=true) HALL.out hlt h);have HAN:=fun(h:ps[i].named ts t=false)=>h! (show g=false from by rw[HG.out];exact List.all_eq_false.2 ⟨ps[i],List.getElem_mem hlt,by rw[h];exact Bool.false_ne_true⟩);obtain⟨b,off,pv2,hbo,hb,c0,c1,c2,c3,hat2⟩:=HC.out i hlt;cases hbo;have d0:=(hbel.cell (p:=⟨b,off+i*4,none⟩) hb).trans c0;have d1:=(hbel.cell (p:=⟨b,off+i*4+1,none⟩) hb).trans c1;have d2:=(hbel.cell (p:=⟨b,off+i*4+2,none⟩) hb).trans c2;have d3:=(hbel.cell (p:=⟨b,off+i*4+3,none⟩) hb).trans c3;obtain⟨ao2,c2',rfl,-⟩:=hat2.rows;have hb1:=hbel.alloc hbel.size (.cells #[.int .i64 ps[i].k,.string ps[i].a,.string ps[i].b,.slice ao2 ps[i].ps.length c2'] 106);have hat3:=hat2.up hb1;have hbx:=(Blk.made wr #[.int .i64 ps[i].k,.string ps[i].a,.string ps[i].b,.slice ao2 ps[i].ps.length c2'] 106).cells;have HB1:=h! hb1;clear c0 c1 c2 c3 hat2 hb1 hbel;have HB3R:=h! (hb3r.alloc hb3r.size (.cells #[.int .i64 ps[i].k,.string ps[i].a,.string ps[i].b,.slice ao2 ps[i].ps.length c2'] 106));obtain⟨cS,cT,cR⟩:=HCE.out _ HB3R.out;have HR:=h! (HI.out ps[i] (List.getElem_mem hlt) _ _ (HTS.out.up HB1.out) (HRS.out.up HB1.out) hat3);unfold rV at HR;clear hat3 hb3r;generalize ps[i]=p at *;cases hx:p.named ts t with
    | true =>
     rw[hx]at HR;have HN:=HUP hx;clear HUP HAN hx;go_wp2_with fail
     refine HR.out.mono ?_;rintro e w6 ⟨rfl,hb6⟩;have HB6:=h! (HB3R.out.trans (hb6.mono HB3R.out.size));clear HR hb6 hbx d0 d1 d2 d3 HB1 cS cT cR;go_wp2_with fail
     go_roundw
     case rel=>exact⟨i+1,by omega,by go_num,HN.out,HB6.out⟩
     case measure=>simp[intOf];omega
    | false =>
     rw[hx]at HR;have HF:=HAN hx;clear HUP HAN hx;go_wp2_with fail
     refine HR.out.mono ?_;rintro e w6 ⟨rfl,hb6⟩;have HB6:=h! (HB1.out.trans (hb6.mono HB1.out.size));clear HR hb6 hbx d0 d1 d2 d3 HB1 cS cT cR;go_wp2_with fail
     go_ret
     exact⟨by rw[HF.out];rfl,HB6.out⟩
   ·obtain rfl:i=ps.length:=by omega
    have HF:=h! (show g=true from by
     rw[HG.out,List.all_eq_true];intro x hx;obtain⟨j,hj,rfl⟩:=List.getElem_of_mem hx;exact HALL.out j hj hj)
    have HBE:=h! hbel;clear hbel;go_wp2_with fail
    go_ret
    exact⟨by rw[HF.out];rfl,HBE.out⟩
theorem wrap_hi (x:Int):wrap64 x<=9223372036854775807:=by unfold wrap64;omega
def fewR:List (ByteArray × RT)->Int->Option Int
 | [],left=>some left
 | x::rs,left=>if left<0 then none else fewR rs (x.2.small (left-((x.1.size / 100:Nat):Int)))
def fewT:List TyS->Int->Bool
 | [],left=>decide (0<=left)
 | t::ts,left=>match fewR t.rels (wrap64 (wrap64 (left-1)-((t.name.size / 100:Nat):Int))) with
  | none=>false
  | some l=>fewT ts l
theorem few05_any (ts:List TyS)(tv:Value)(w:World)(h:TysAt (· < w.heap.size) w ts tv)(hok:∀ t∈ts,t.Ok):Calls Tryz.prog 38 #[.agg #[tv]] w fun e w'=>e = .returned (.bool (fewT ts 200))/\Below w.heap.size w w':=by
 obtain⟨ao,c,rfl,hlc,hcm,hcell⟩:=h.rows;have HC:=h! hcell;have HOK:=h! hok;generalize hg:fewT ts 200=g;have HG0:=h! hg.symm;have hbk:=(Blk.made w #[.slice ao ts.length c] 26).cells;have HB0:=h! (show Below w.heap.size w (w.alloc (.cells #[.slice ao ts.length c] 26))from(Below.refl _ _).alloc (Nat.le_refl _) _);clear h hcell hok hg;go_enter Tryz.func38,Tryz.ntmps38
 go_wp2_with fail
 clear hbk;go_loopw [3,11] (fun lv ii wr=>∃ (i:Nat) (L:Int),i<=ts.length/\ii = .int .i64 i/\lv = .int .i64 L/\g=fewT (ts.drop i) L/\Below w.heap.size w wr) (fun _ ii _=>ts.length-(intOf ii).toNat)
 case atStart=>exact⟨0,200,by omega,rfl,rfl,HG0.out,HB0.out⟩
 case round =>
  obtain⟨i,L,hi,rfl,rfl,hgl,hbel⟩:=hrel;clear HB0 HG0;by_cases hlt:i<ts.length
  ·rw[List.drop_eq_getElem_cons hlt,fewT]at hgl;have hokt:=HOK.out _ (List.getElem_mem hlt);obtain⟨b,off,pv2,hbo,hb,c0,c1,hat2⟩:=HC.out i hlt;cases hbo;have d0:=(hbel.cell (p:=⟨b,off+i*2,none⟩) hb).trans c0;have d1:=(hbel.cell (p:=⟨b,off+i*2+1,none⟩) hb).trans c1;obtain⟨ao2,c2',rfl,-⟩:=hat2.rows;have hb1:=hbel.alloc hbel.size (.cells #[.string ts[i].name,.slice ao2 ts[i].rels.length c2'] 176);have hat3:=hat2.up hb1;have HBT:=h! (Blk.made wr #[.string ts[i].name,.slice ao2 ts[i].rels.length c2'] 176);have hbx:=HBT.out.cells;have HB1:=h! hb1;clear c0 c1 hat2 hb1 hbel;have HI1:=h! hlt;generalize ts[i]=t at *;obtain⟨tn,rels⟩:=t;dsimp only at *;obtain⟨hon,hor⟩:=hokt;dsimp only at hon hor;have hqn:((tn.size:Int)).tdiv 100=((tn.size / 100:Nat):Int):=by rw[Int.tdiv_eq_ediv_of_nonneg (by omega)];omega
   have hln:tn.size / 100<=92233720368547758:=by omega
   generalize tn.size / 100=qn at *;have hw4:wrap64 (qn:Int)=(qn:Int):=wrap_in _ (by omega) (by omega);obtain⟨L1,hL1⟩:∃ L1,L1=wrap64 (wrap64 (L-1)-(qn:Int)):=⟨_,rfl⟩;have hL1h:L1<=9223372036854775807:=by rw[hL1];exact wrap_hi _
   rw[<- hL1]at hgl;have HL1:=h! hL1;have HL1h:=h! hL1h;have HGL:=h! hgl;have HOR:=h! hor;obtain⟨ao3,c3,hv3,hlc3,hcm3,hcell3⟩:=hat3.rows;injection hv3 with hv31 hv32 hv33
   subst hv31 hv33;have HC3:=h! hcell3;clear hgl hL1 hL1h hor hon hln hat3 hcell3 hv32;go_wp2_with fail
   clear hlt;rw[<- HL1.out];clear hbx d0 d1 hqn hw4 HL1;obtain⟨wq,hwq⟩:∃ wq,wq=wr.alloc (.cells #[.string tn,.slice ao2 rels.length c2'] 176):=⟨_,rfl⟩;rw[<- hwq]at HB1 HC3 ⊢;have HBQ:=h! HB1.out;clear hwq HB1;go_loopw [3,25] (fun mv jj wr=>∃ (j:Nat) (M:Int),j<=rels.length/\jj = .int .i64 j/\mv = .int .i64 M/\M<=9223372036854775807/\fewR rels L1=fewR (rels.drop j) M/\Below wq.heap.size wq wr) (fun _ jj _=>rels.length-(intOf jj).toNat)
   case atStart=>exact⟨0,L1,by omega,rfl,rfl,HL1h.out,rfl,Below.refl _ _⟩
   case round =>
    obtain⟨j,M,hj,rfl,rfl,hMh,hfr,hbq⟩:=hrel;clear HL1h;by_cases hlt:j<rels.length
    ·rw[List.drop_eq_getElem_cons hlt]at hfr;have hokr:=HOR.out _ (List.getElem_mem hlt);have hbel:=hbq;obtain⟨b,off,pv2,hbo,hb,c0,c1,c2,c3,c4,hat2⟩:=HC3.out j hlt;cases hbo;have d0:=(hbel.cell (p:=⟨b,off+j*5,none⟩) hb).trans c0;have d1:=(hbel.cell (p:=⟨b,off+j*5+1,none⟩) hb).trans c1;have d2:=(hbel.cell (p:=⟨b,off+j*5+2,none⟩) hb).trans c2;have d3:=(hbel.cell (p:=⟨b,off+j*5+3,none⟩) hb).trans c3;have d4:=(hbel.cell (p:=⟨b,off+j*5+4,none⟩) hb).trans c4;obtain⟨ao2,c2',rfl,-⟩:=hat2.rows;have hb1:=hbel.alloc hbel.size (.cells #[.string rels[j].1,.int .i64 rels[j].2.k,.string rels[j].2.a,.string rels[j].2.b,.slice ao2 rels[j].2.ps.length c2'] 181);have hat3:=hat2.up hb1;have HBK:=h! (Blk.made wr #[.string rels[j].1,.int .i64 rels[j].2.k,.string rels[j].2.a,.string rels[j].2.b,.slice ao2 rels[j].2.ps.length c2'] 181);have hbx:=HBK.out.cells;have HB1:=h! hb1;clear c0 c1 c2 c3 c4 hat2 hb1 hbel;generalize rels[j]=x at *;obtain⟨xn,p⟩:=x;dsimp only at *;rw[fewR]at hfr;by_cases hneg:M<0
     ·rw[if_pos hneg]at hfr;have HF:=h! (show g=false from by rw[HGL.out,hfr]);have HBE:=h! (HBQ.out.trans (HB1.out.mono HBQ.out.size));clear hfr hat3 hokr hbq;go_wp2_with fail
      go_ret
      exact⟨by rw[HF.out];rfl,HBE.out⟩
     ·rw[if_neg hneg]at hfr;obtain⟨hox,hop⟩:=hokr;obtain⟨qx,hqx⟩:∃ qx:Nat,qx=xn.size / 100:=⟨_,rfl⟩;rw[<- hqx]at hfr;have hlx:qx<=92233720368547758:=by rw[hqx];omega
      have HQX:=h! (show((xn.size:Int)).tdiv 100=(qx:Int)from by rw[hqx,Int.tdiv_eq_ediv_of_nonneg (by omega)];omega);clear hqx hox;have hlo : -2305843009213693952<=M-(qx:Int):=by omega
      have hhi:M-(qx:Int)<=9223372036854775807:=by omega
      have HR:=h! (small_any p _ (M-(qx:Int)) _ hat3 hop hlo hhi);unfold rV at HR;have HSM:=h! (show p.small (M-(qx:Int))<=9223372036854775807 from by have:=p.small_le (M-(qx:Int));omega);have HFR:=h! hfr;have hqx:=HQX.out;have hw5:wrap64 (M-(qx:Int))=M-(qx:Int):=wrap_in _ (Int.le_trans (by decide) hlo) hhi;have hw4:wrap64 (qx:Int)=(qx:Int):=wrap_in _ (by clear hw5 hqx;omega) (by clear hw5 hqx;omega);clear hfr hat3 hop hlx hbq hlo hhi;go_wp2_with fail
      refine HR.out.mono ?_;rintro e w5 ⟨rfl,hb5⟩;have HB5:=h! (HB1.out.trans (hb5.mono HB1.out.size));clear HR hb5 hbx d0 d1 d2 d3 d4 HB1 hqx hw4 hw5 HQX;go_wp2_with fail
      go_roundw
      case rel=>exact⟨j+1,p.small (M-(qx:Int)),by omega,by go_num,rfl,HSM.out,HFR.out,HB5.out⟩
      case measure=>simp[intOf];omega
    ·obtain rfl:j=rels.length:=by omega
     rw[List.drop_length,fewR]at hfr;have HF:=h! (show g=fewT (ts.drop (i+1)) M from by rw[HGL.out,hfr]);have HBE:=h! (HBQ.out.trans (hbq.mono HBQ.out.size));have hlt2:=HI1.out;clear hfr hbq;go_wp2_with fail
     go_roundw
     case rel=>exact⟨i+1,M,by omega,by go_num,rfl,HF.out,HBE.out⟩
     case measure=>simp[intOf];omega
  ·obtain rfl:i=ts.length:=by omega
   rw[List.drop_length,fewT]at hgl;have HBE:=h! hbel;by_cases h0:0<=L
   ·rw[decide_eq_true h0]at hgl;have HF:=h! hgl;clear hbel hgl;go_wp2_with fail
    go_ret
    exact⟨by rw[HF.out];simp,HBE.out⟩
   ·rw[decide_eq_false h0]at hgl;have HF:=h! hgl;clear hbel hgl;go_wp2_with fail
    go_ret
    exact⟨by rw[HF.out];simp,HBE.out⟩
end Go.Proofs.YtlhaghoajpglaaaGreat
