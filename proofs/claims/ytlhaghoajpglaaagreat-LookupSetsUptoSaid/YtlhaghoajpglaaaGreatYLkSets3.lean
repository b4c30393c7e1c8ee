/- Lemmas for the claim, no condition. -/
import Derived.Laws.EntriesVeiled
import Derived.Shelf.Abstract
import Derived.Sort.MapsRangeIn
import Derived.RangeFuncGives
import Derived.RangeFuncNested
import Derived.WalkKit
import Derived.TacticsInMore
import Derived.RegionIn
import Derived.LoopNIn
import Derived.LoopIn
import Derived.Sort.KeysCollected
import Derived.RangeFuncLeaves
import Derived.OwnWalkIn
import Derived.Shelf.SlSortCmp.WholeK
import Derived.Shelf.SlSortCmp.NoneTotal
import Derived.Ground.SlsfProg
import Derived.Test.YtlhaghoajpglaaaGreatProg
import Derived.Test.YtlhaghoajpglaaaGreatYLkSets1
import Derived.Test.YtlhaghoajpglaaaGreatYLkSets2
import Derived.Test.YtlhaghoajpglaaaGreatYLkSets0
set_option maxRecDepth 100000
set_option maxHeartbeats 8000000
namespace Go.Proofs.YtlhaghoajpglaaaGreat
open Go Go.RowKit Go.Maps
def M3 (b1 b2 b3 x:Nat):Prop:=x=b1\/x=b2\/x=b3
def tyL (ts:List TyS):List (ByteArray × Bool):=ts.map fun t=>(t.name,true)
theorem tyL_take {l:List TyS} {i:Nat} (hi:i<l.length):tyL (l.take (i+1))=tyL (l.take i)++[(l[i].name,true)]:=by
 rw[List.take_succ_eq_append_getElem hi];simp only[tyL,List.map_append,List.map_cons,List.map_nil]
theorem refsOf_le (ts:List TyS)(i:Nat):(refsOf (ts.take i)).length<=(refsOf ts).length:=by
 conv=>rhs;rw[<- List.take_append_drop i ts,refsOf_append,List.length_append]
 omega
theorem tyL_fresh {ts:List TyS} (h:uniqOk ts=true) {i:Nat} (hi:i<ts.length):∀ p∈tyL (ts.take i),p.1≠ts[i].name:=by
 intro p hp e;obtain⟨t,ht,rfl⟩:=List.mem_map.1 hp;obtain⟨m,hm,rfl⟩:=List.getElem_of_mem ht;rw[List.length_take]at hm;rw[List.getElem_take]at e;exact(uniq_at h hi).1 m (by omega) hi (by omega) e
theorem ref_fresh {ts:List TyS} (h:uniqOk ts=true) {i:Nat} (hi:i<ts.length):∀ j (hj:j<ts[i].rels.length),lookA (refsOf (ts.take i)++relsOf ts[i].name (ts[i].rels.take j)) ⟨ts[i].name,ts[i].rels[j].1⟩=none:=by
 intro j hj;refine look_none_iff.2 fun p hp e=>?_;rcases List.mem_append.1 hp with hp | hp
 ·obtain⟨t,ht,hp⟩:=List.mem_flatMap.1 hp;obtain⟨r,hr,rfl⟩:=List.mem_map.1 hp;obtain⟨m,hm,rfl⟩:=List.getElem_of_mem ht;rw[List.length_take]at hm;injection e with e1 e2
  rw[List.getElem_take]at e1;exact(uniq_at h hi).1 m (by omega) hi (by omega) e1
 ·obtain⟨r,hr,rfl⟩:=List.mem_map.1 hp;injection e with e1 e2
  obtain⟨m,hm,rfl⟩:=List.getElem_of_mem hr;rw[List.length_take]at hm;rw[List.getElem_take]at e2;exact fresh_of (uniq_at h hi).2 j m (by omega) hj (by omega) e2
theorem Same.sub {S:Nat->Prop} {B:Nat} (hS:∀ x,S x->x<B) {a b:World} (h:Below B a b):Same S a b:=fun x hx=>h.block x (hS x hx)
structure BkO (S:Nat->Prop)(B:Nat)(w:World)(b1 b2 b3:Nat)(ts:List TyS):Prop where
 R:BkR S w b1 (refsOf ts)
 T:Mp Tryz.prog 9 Value.string bV w b2 (tyL ts)
 W:BkW w B b3 (refsOf ts)
 lo:B<=b1/\B<=b2/\B<=b3/\b1≠b2/\b1≠b3/\b2≠b3
theorem open_any {S:Nat->Prop} (ts:List TyS)(tv:Value)(w:World)(hS:∀ x,S x->x<w.heap.size)(h:TysAt S w ts tv)(hok:∀ t∈ts,t.Ok)(hu:uniqOk ts=true)(hsz:(refsOf ts).length<=1099511627776) :
  Calls Tryz.prog 131 #[.agg #[tv]] w fun e w'=>∃ b1 b2 b3,e = .returned (.agg #[.map (some b1),.map (some b2),.map (some b3)])/\BkO S w.heap.size w' b1 b2 b3 ts/\Below w.heap.size w w':=by
 obtain⟨ao,c,rfl,hlc,hcm,hcell⟩:=h.rows;have HC:=h! hcell;have HOK:=h! hok;have HU:=h! hu;have HSZ:=h! hsz;have hs0:=(Blk.made w #[.slice ao ts.length c] 26).cells;have hmm:=@run_makeMap Tryz.prog;clear h hcell hok hu hsz;go_enter Tryz.func131,Tryz.ntmps131
 go_wp2_with fail
 obtain⟨w1,hw1⟩:∃ x,x=w.alloc (.cells #[.slice ao ts.length c] 26):=⟨_,rfl⟩;rw[<- hw1];obtain⟨w2,hw2⟩:∃ x,x=w1.alloc (.cells #[.map none,.map none,.map none] 229):=⟨_,rfl⟩;rw[<- hw2];obtain⟨w3,hw3⟩:∃ x,x=w2.alloc (.map #[] 0):=⟨_,rfl⟩;rw[<- hw3];obtain⟨w4,hw4⟩:∃ x,x=w3.alloc (.map #[] 0):=⟨_,rfl⟩;rw[<- hw4];obtain⟨w5,hw5⟩:∃ x,x=w4.alloc (.map #[] 0):=⟨_,rfl⟩;rw[<- hw5];obtain⟨bc,hbc⟩:∃ x,x=w.heap.size+1+1+1+1+1:=⟨_,rfl⟩;obtain⟨b3,hb3⟩:∃ x,x=w.heap.size+1+1+1+1:=⟨_,rfl⟩;obtain⟨b2,hb2⟩:∃ x,x=w.heap.size+1+1+1:=⟨_,rfl⟩;obtain⟨b1,hb1⟩:∃ x,x=w.heap.size+1+1:=⟨_,rfl⟩;obtain⟨rc,hrc⟩:∃ x,x=w.heap.size+1:=⟨_,rfl⟩;rw[<- hbc,<- hb3,<- hb2,<- hb1,<- hrc];obtain⟨w6,hw6⟩:∃ x,x=w5.alloc (.cells #[.map (some b1),.map (some b2),.map (some b3)] 229):=⟨_,rfl⟩;rw[<- hw6];have e1:w1.heap.size=w.heap.size+1:=by rw[hw1];simp
 have e2:w2.heap.size=w.heap.size+1+1:=by rw[hw2];simp[e1]
 have e3:w3.heap.size=w.heap.size+1+1+1:=by rw[hw3];simp[e2]
 have e4:w4.heap.size=w.heap.size+1+1+1+1:=by rw[hw4];simp[e3]
 have e5:w5.heap.size=w.heap.size+1+1+1+1+1:=by rw[hw5];simp[e4]
 have x01:Ext w w1:=by rw[hw1];exact Ext.alloc _ _
 have x12:Ext w1 w2:=by rw[hw2];exact Ext.alloc _ _
 have x23:Ext w2 w3:=by rw[hw3];exact Ext.alloc _ _
 have x34:Ext w3 w4:=by rw[hw4];exact Ext.alloc _ _
 have x45:Ext w4 w5:=by rw[hw5];exact Ext.alloc _ _
 have x56:Ext w5 w6:=by rw[hw6];exact Ext.alloc _ _
 have hRC:Blk w2 rc #[.map none,.map none,.map none] 229:=by rw[hrc,hw2,<- e1];exact Blk.made _ _ _
 have hM1:Mp Tryz.prog 121 r2V rvV w3 b1 []:=by rw[hb1,hw3,<- e2];exact Mp.made _
 have hM2:Mp Tryz.prog 9 Value.string bV w4 b2 []:=by rw[hb2,hw4,<- e3];exact Mp.made _
 have hM3:Mp Tryz.prog 9 Value.string wvV w5 b3 []:=by rw[hb3,hw5,<- e4];exact Mp.made _
 have hBC:Blk w6 bc #[.map (some b1),.map (some b2),.map (some b3)] 229:=by rw[hbc,hw6,<- e5];exact Blk.made _ _ _
 have HLO:=h! (show w.heap.size<=rc from by omega);have HD:=h! (show w.heap.size<=b1/\w.heap.size<=b2/\w.heap.size<=b3/\b1≠b2/\b1≠b3/\b2≠b3/\¬ M3 b1 b2 b3 rc/\¬ M3 b1 b2 b3 bc/\rc≠bc from by unfold M3;omega);have HRC:=h! (hRC.below (x23.trans (x34.trans (x45.trans x56))));have HBC:=h! hBC;have HR:=h! (show BkR S w6 b1 []from⟨[],hM1.below (x34.trans (x45.trans x56)),rfl,by simp⟩);have HM:=h! (hM2.below (x45.trans x56));have HW:=h! (show BkW w6 w.heap.size b3 []from⟨[],hM3.below x56,⟨by simp,by simp⟩,fun n=>rfl⟩);have HX:=h! (show Below w.heap.size w w6 from x01.trans (x12.trans (x23.trans (x34.trans (x45.trans x56)))));clear hRC hM1 hM2 hM3 hBC x01 x12 x23 x34 x45 x56 e1 e2 e3 e4 e5 hw1 hw2 hw3 hw4 hw5 hw6 hbc hb1 hb2 hb3 hrc hs0;go_loopw [18] (fun ii wr=>∃ i:Nat,i<=ts.length/\ii = .int .i64 i/\BkR S wr b1 (refsOf (ts.take i))/\Mp Tryz.prog 9 Value.string bV wr b2 (tyL (ts.take i))/\BkW wr w.heap.size b3 (refsOf (ts.take i))/\QKept 9 (M3 b1 b2 b3) w.heap.size w6 wr) (fun ii _=>ts.length-(intOf ii).toNat)
 case atStart=>exact⟨0,by omega,rfl,HR.out,HM.out,HW.out,Kept.refl _ _⟩
 case round =>
  obtain⟨i,hi,rfl,hr,hm,hw,hq⟩:=hrel;have HR1:=h! hr;have HM1:=h! hm;have HW1:=h! hw;have HQ1:=h! hq;clear HR HM HW hr hm hw;by_cases hlt:i<ts.length
  ·have hbel:Below w.heap.size w wr:=HX.out.trans hq.below;obtain⟨bb,off,rsv,hbo,hb,c0,c1,hat2⟩:=HC.out i hlt;cases hbo;have d0:=(hbel.cell (p:=⟨bb,off+i*2,none⟩) (hS _ hb)).trans c0;have d1:=(hbel.cell (p:=⟨bb,off+i*2+1,none⟩) (hS _ hb)).trans c1;have HUN:=h! (uniq_at HU.out hlt);have hokt:=HOK.out _ (List.getElem_mem hlt);have HP1:=h! (refsOf_take hlt);have HT1:=h! (tyL_take hlt);have HNF:=h! (ref_fresh HU.out hlt);have HLE:=h! (refsOf_le ts (i+1));have HI1:=h! hlt;have HTF:=h! (tyL_fresh HU.out hlt);generalize ts[i]=t at *;obtain⟨tn,rels⟩:=t;dsimp only at *;obtain⟨hon,hor⟩:=hokt;dsimp only at hon hor;have HKT:=h! (show tn.size<=maxLen from by unfold maxLen;omega);have HOR:=h! hor;obtain⟨ao2,c2',rfl,hlc3,hcm3,hcell3⟩:=hat2.rows;have HC3:=h! hcell3;obtain⟨rsv,hrsv⟩:∃ v,v=Value.slice ao2 rels.length c2':=⟨_,rfl⟩;have hea:Ext wr (wr.alloc (.cells #[.string tn,.slice ao2 rels.length c2'] 176)):=Ext.alloc _ _;have HTB:=h! (Blk.made wr #[.string tn,.slice ao2 rels.length c2'] 176);have hta:=HTB.out.cells;have HBCA:=h! ((HQ1.out.box HBC.out (by decide) HD.out.2.2.2.2.2.2.2.1).below hea);have hbca:=HBCA.out.cells;have HSA:=h! (show w.heap.size<=(wr.alloc (.cells #[.string tn,.slice ao2 rels.length c2'] 176)).heap.size from Nat.le_trans hbel.size hea.size);have HQA:=h! (QKept.next hq (QKept.of (e:=9) (M:=M3 b1 b2 b3) hea hbel.size))
   have HNT:=h! (show ¬ M3 b1 b2 b3 wr.heap.size from fun h=>by
    have h1:=HR1.out.lt;have h2:=HM1.out.lt;have h3:=HW1.out.lt;rcases h with h | h | h <;> omega)
   have HRA:=h! (HR1.out.same (hea.block _ HR1.out.lt) (Same.sub hS (hea.mono hbel.size)));have HWA:=h! (HW1.out.up hea);have hMA:=HM1.out.below hea;have hlk:=hMA.look strK strV_inj Tryz.underlying226 (Tryz.zeroValue4 _) false (str_key tn HKT.out);rw[look_none_iff.2 HTF.out]at hlk;obtain⟨wT,hst,hMT,hTT⟩:=hMA.store strK strV_inj Tryz.underlying226 (str_key tn HKT.out) true;rw[put_miss HTF.out]at hMT;unfold lookV at hlk;unfold bV at hlk hst;have HQT:=h! (QKept.next HQA.out (QKept.turned hTT (.inr (.inl rfl)) HD.out.2.1));have HTBT:=h! (hTT.kept.blk HTB.out (fun e=>HNT.out (.inr (.inl e))));have htt:=HTBT.out.cells;have HBCT:=h! (hTT.kept.blk HBCA.out (fun e=>HD.out.2.2.2.2.2.2.2.1 (.inr (.inl e))));have HRT:=h! (HRA.out.same (hTT.kept.block _ HD.out.2.2.2.1) (Same.sub hS (hTT.below HD.out.2.1)));have HWT:=h! (HWA.out.turned hTT (fun e=>HD.out.2.2.2.2.2.1 e.symm) hMA.notCells);have HMT:=h! hMT;clear hMT hTT hMA c0 c1 hat2 hcell3 hbel hq hor hon;go_wp2_with fail
   clear hlk hst hta hbca d0 d1 htt hlt hea;generalize wr.heap.size=tb at *;go_loopw [34] (fun jj wr=>∃ j:Nat,j<=rels.length/\jj = .int .i64 j/\BkR S wr b1 (refsOf (ts.take i)++relsOf tn (rels.take j))/\Mp Tryz.prog 9 Value.string bV wr b2 (tyL (ts.take i)++[(tn,true)])/\BkW wr w.heap.size b3 (refsOf (ts.take i)++relsOf tn (rels.take j))/\QKept 9 (M3 b1 b2 b3) w.heap.size wT wr) (fun jj _=>rels.length-(intOf jj).toNat)
   case atStart=>exact⟨0,by omega,rfl,by rw[List.take_zero];simpa [relsOf] using HRT.out,HMT.out,by rw[List.take_zero];simpa [relsOf] using HWT.out,Kept.refl _ _⟩
   case round =>
    obtain⟨j,hj,rfl,hr,hm,hw,hqj⟩:=hrel;have HR2:=h! hr;have HM2:=h! hm;have HW2:=h! hw;have HQ2:=h! hqj;clear HRT HMT HWT hr hm hw;by_cases hlt:j<rels.length
    ·have hbel:Below w.heap.size w wr:=HX.out.trans (HQT.out.below.trans hqj.below);obtain⟨bb,off,pv,hbo,hb,c0,c1,c2,c3,c4,hat2⟩:=HC3.out j hlt;cases hbo;have d0:=(hbel.cell (p:=⟨bb,off+j*5,none⟩) (hS _ hb)).trans c0;have d1:=(hbel.cell (p:=⟨bb,off+j*5+1,none⟩) (hS _ hb)).trans c1;have d2:=(hbel.cell (p:=⟨bb,off+j*5+2,none⟩) (hS _ hb)).trans c2;have d3:=(hbel.cell (p:=⟨bb,off+j*5+3,none⟩) (hS _ hb)).trans c3;have d4:=(hbel.cell (p:=⟨bb,off+j*5+4,none⟩) (hS _ hb)).trans c4;obtain⟨ao3,c3',rfl,-⟩:=hat2.rows;have hokr:=HOR.out _ (List.getElem_mem hlt);have HPJ:=h! (relsOf_take (n:=tn) hlt);have HNJ:=h! (HNF.out j hlt);have HJ1:=h! hlt
     have HWL0:=h! (show(refsOf (ts.take i)++relsOf tn (rels.take j)).length<=1099511627776 from by
      have h1:=HLE.out;have h2:=HSZ.out;rw[HP1.out,List.length_append]at h1;have h3:(relsOf tn (rels.take j)).length<=(relsOf tn rels).length:=by simp only[relsOf,List.length_map,List.length_take];omega
      rw[List.length_append];omega)
     generalize rels[j]=x at *;obtain⟨xn,p⟩:=x;dsimp only at *;have HKX:=h! (show xn.size<=maxLen from by have:=hokr.1;unfold maxLen;omega)
     have HWL:=h! (show(whereP (refsOf (ts.take i)++relsOf tn (rels.take j)) xn).length<=1099511627776 from by
      have:=HWL0.out;unfold whereP;rw[List.length_map];exact Nat.le_trans (List.length_filter_le _ _) this)
     have HAT:=h! (hat2.same (Same.sub hS hbel));clear c0 c1 c2 c3 c4 hat2 hokr hb;obtain⟨wa,hwa⟩:∃ x,x=wr.alloc (.cells #[.string xn,.int .i64 p.k,.string p.a,.string p.b,.slice ao3 p.ps.length c3'] 181):=⟨_,rfl⟩;obtain⟨wb,hwb⟩:∃ x,x=wa.alloc (.cells #[.string tn,.string xn] 121):=⟨_,rfl⟩;obtain⟨wc,hwc⟩:∃ x,x=wb.alloc (.cells #[.int .i64 0,.string ByteArray.empty,.string ByteArray.empty,.slice none 0 0] 106):=⟨_,rfl⟩;have xra:Ext wr wa:=by rw[hwa];exact Ext.alloc _ _
     have xab:Ext wa wb:=by rw[hwb];exact Ext.alloc _ _
     have xbc:Ext wb wc:=by rw[hwc];exact Ext.alloc _ _
     have ea:wa.heap.size=wr.heap.size+1:=by rw[hwa];simp
     have HRB0:=h! (show Blk wa wr.heap.size #[.string xn,.int .i64 p.k,.string p.a,.string p.b,.slice ao3 p.ps.length c3'] 181 from by rw[hwa];exact Blk.made _ _ _);have HFB0:=h! (show Blk wb (wr.heap.size+1) #[.string tn,.string xn] 121 from by rw[hwb,<- ea];exact Blk.made _ _ _);have HTBR:=h! (HQ2.out.box HTBT.out (by decide) HNT.out);have HBCR:=h! (HQ2.out.box HBCT.out (by decide) HD.out.2.2.2.2.2.2.2.1);have t1:=(HTBR.out.below xra).cells;have t2:=(HTBR.out.below (xra.trans xab)).cells;have k2:=(HBCR.out.below (xra.trans xab)).cells;have k3:=(HBCR.out.below (xra.trans (xab.trans xbc))).cells;have r1:=HRB0.out.cells;have r2:=(HRB0.out.below xab).cells;have r3:=(HRB0.out.below (xab.trans xbc)).cells;have f2:=HFB0.out.cells;have f3:=(HFB0.out.below xbc).cells;have hRb:=HR2.out.same ((xra.trans xab).block _ HR2.out.lt) (Same.sub hS ((xra.trans xab).mono hbel.size));obtain⟨z,hlk,-,-,hz⟩:=hRb.look ⟨tn,xn⟩ ⟨HKT.out,HKX.out⟩;rw[HNJ.out]at hlk;rw[hz HNJ.out]at hlk;unfold rvV rV r2V at hlk;dsimp only[RT.k,RT.a,RT.b,Option.isSome]at hlk;have hRc:=HR2.out.same ((xra.trans (xab.trans xbc)).block _ HR2.out.lt) (Same.sub hS ((xra.trans (xab.trans xbc)).mono hbel.size));obtain⟨w4,hst,hR4,hT4⟩:=hRc.store (k:=⟨tn,xn⟩) ⟨HKT.out,HKX.out⟩ (HAT.out.same (Same.sub hS ((xra.trans (xab.trans xbc)).mono hbel.size))) (fun x hx e=>by have:=HD.out.1;have:=hS x hx;omega) HNJ.out;unfold rV r2V at hst;dsimp only at hst;have hsc:w.heap.size<=wc.heap.size:=Nat.le_trans hbel.size (xra.trans (xab.trans xbc)).size;have HS4:=h! (show w.heap.size<=w4.heap.size from by rw[hT4.size];exact hsc);have HQ4:=h! (QKept.next HQ2.out (QKept.next (QKept.of (e:=9) (M:=M3 b1 b2 b3) (xra.trans (xab.trans xbc)) hbel.size) (QKept.turned hT4 (.inl rfl) HD.out.1)))
     have HNR:=h! (show ¬ M3 b1 b2 b3 wr.heap.size from fun h=>by
      have h1:=HR2.out.lt;have h2:=HM2.out.lt;have h3:=HW2.out.lt;rcases h with h | h | h <;> omega)
     have HBC4:=h! (HQ4.out.box HBCT.out (by decide) HD.out.2.2.2.2.2.2.2.1);have HTB4:=h! (HQ4.out.box HTBT.out (by decide) HNT.out);have HRB4:=h! (hT4.kept.blk (HRB0.out.below (xab.trans xbc)) (fun e=>HNR.out (.inl e)));have HBW4:=h! ((HW2.out.up (xra.trans (xab.trans xbc))).turned hT4 (fun e=>HD.out.2.2.2.2.1 e.symm) hRc.notCells);have HR4:=h! hR4;have HM4:=h! ((HM2.out.below (xra.trans (xab.trans xbc))).kept hT4.kept (fun e=>HD.out.2.2.2.1 e.symm));have t4:=HTB4.out.cells;have r4:=HRB4.out.cells;have k4:=HBC4.out.cells;clear hRb hRc hR4 hT4 hsc hz hqj HAT ea xra xab xbc;subst hwc hwb hwa;go_wp2_with fail
     clear t1 t2 k2 k3 r1 r2 r3 f2 f3 hlk hst d0 d1 d2 d3 d4;generalize wr.heap.size=rb at *;obtain⟨wd,hwd⟩:∃ wd,wd=w4.drew:=⟨_,rfl⟩;have hbcd:Blk wd bc #[.map (some b1),.map (some b2),.map (some b3)] 229:=by rw[hwd];exact HBC4.out.drew
     have htbd:=(show Blk w4.drew tb _ _ from HTB4.out.drew);rw[<- hwd]at htbd;have hrbd:Blk wd rb #[.string xn,.int .i64 p.k,.string p.a,.string p.b,.slice ao3 p.ps.length c3'] 181:=by rw[hwd];exact HRB4.out.drew
     have hbwd:=HBW4.out.up (show Below w4.heap.size w4 wd from by rw[hwd];exact(Below.refl _ _).drew);have hq4d:QKept 9 (· = b3) w.heap.size w4 wd:=by rw[hwd];exact(Kept.refl _ _).drew
     have hszd:w.heap.size<=wd.heap.size:=by rw[hwd];exact HS4.out
     obtain⟨v,-,hov,lw,hM,hR,hL,hl⟩:=hbwd.look xn HKX.out;have hnb3:∀ g,v.ownBlock=some g->g≠b3:=hov.notMap hM.notCells;have hnbc:∀ g,v.ownBlock=some g->g≠bc:=hov.notBlk hbcd (by decide);have hntb:∀ g,v.ownBlock=some g->g≠tb:=hov.notBlk htbd (by decide);have hnrb:∀ g,v.ownBlock=some g->g≠rb:=hov.notBlk hrbd (by decide);refine region_walkL 13 (Kept (fun x=>x<wd.heap.size/\v.ownBlock≠some x) wd) (by rw[<- hwd];exact Kept.refl _ _) (by kernel_rfl) (by kernel_rfl) (fun _ _ d _ _ h=>by cases d <;> exact h) ?_;rw[<- hwd];clear hwd;have h1:∀ W,Kept (fun x=>x<wd.heap.size/\v.ownBlock≠some x) wd W->∀ i,W.cell? ⟨bc,i,none⟩=(#[.map (some b1),.map (some b2),.map (some b3)]:Array Value)[i]?:=fun W h=>(h.blk hbcd ⟨hbcd.lt,fun e=>hnbc _ e rfl⟩).cells;have h2:∀ W,Kept (fun x=>x<wd.heap.size/\v.ownBlock≠some x) wd W->W.cell? ⟨tb,0,none⟩=some (.string tn):=fun W h=>(h.blk htbd ⟨htbd.lt,fun e=>hntb _ e rfl⟩).cells 0;have h3:∀ W,Kept (fun x=>x<wd.heap.size/\v.ownBlock≠some x) wd W->∀ i,W.cell? ⟨rb,i,none⟩=(#[.string xn,.int .i64 p.k,.string p.a,.string p.b,.slice ao3 p.ps.length c3']:Array Value)[i]?:=fun W h=>(h.blk hrbd ⟨hrbd.lt,fun e=>hnrb _ e rfl⟩).cells
     have h4:∀ W,Kept (fun x=>x<wd.heap.size/\v.ownBlock≠some x) wd W->(Instr.lookup 227 (.map (some b3)) (.string xn) false).run Tryz.prog W = .ok v W:=fun W h=>by
      have:=(hM.same (h.block b3 ⟨hM.lt,fun e=>hnb3 _ e rfl⟩)).look strK strV_inj Tryz.underlying227 (Tryz.zeroValue169 W) false (str_key xn HKX.out);rw[this];rcases hl with hl | ⟨hl,_,rfl⟩ <;> rw[hl] <;> rfl
     (refine WalkL.tk [0,1,2,3,4,5,6,7,8,9,10] ?_;(iterate 11 (refine l! ?_));refine TkL.n ?_)
     clear h1 h2 h3 h4;refine oL! 11 ?_;refine b! ?_;intro K hK;go_simp;have hE1:Below wd.heap.size wd (wd.alloc (.cells #[.string tn] 9)):=(Below.refl _ _).alloc (Nat.le_refl _) _;refine hK.out _ _ ((Kept.refl _ _).alloc (fun x hx=>hx.1) _) ?_;clear hK;refine oL! 12 ?_;refine b! ?_;intro K hK;have hlen:(whereP (refsOf (ts.take i)++relsOf tn (rels.take j)) xn).length<=1099511627776:=by have:=HWL.out;exact this
     refine wp_ownw textsT (.tmp 65) (.tmp 68) rfl rfl (hov.below hE1) (m:=1) (news:=txs [tn]) rfl rfl (fun j u hu=>?_) (txs_one _) (by rw[txs_length,txs_length];simp only[List.length_cons,List.length_nil];omega) (by rw[txs_length,txs_length];simp only[List.length_cons,List.length_nil];omega) (by simp;omega) (fun v2 w2 hown2 hw2 hg2=>?_)
     ·rw[Addr.add_lit,cell_of_row _ wd.heap.size (0+j) #[.string tn] 9 (0,0) (heap_alloc_new wd _),Nat.zero_add];simpa [txs] using hu
     have hkg:Kept (fun x=>x<wd.heap.size/\v.ownBlock≠some x) wd w2:=⟨hg2.os.trans rfl,hg2.tape.trans rfl,hg2.output.trans rfl,Nat.le_trans (by simp) hg2.size,fun x hx=>(hg2.block x (by have:=hx.1;simp;omega) (fun e=>hx.2 e.symm)).trans (Below.heap_alloc wd _ x hx.1)⟩;have hqg:QKept 9 (· = b3) w.heap.size w4 w2:=QKept.next hq4d (QKept.next (QKept.of hE1 hszd) (QKept.grown (hov.below hE1) hg2 (by simp;omega)));refine hK.out _ _ hkg ?_;clear hK;simp only[Act.put,pA,pZ,pS];rw[<- txs_append]at hown2;obtain⟨w7,hrun,hbw7,ht7⟩:=BkW.put (k:=⟨tn,xn⟩) (r:=p) hM hR hL hl hE1 hg2 hov hown2 hw2 HKX.out;refine WalkL.last (by kernel_rfl) (by kernel_rfl) ?_;refine b! ?_;intro K hK;go_simp;refine hK.out _ _ ?_;clear hK;have HW7:=h! hbw7;have HQ47:=h! (QKept.next hqg (QKept.turned ht7 rfl HD.out.2.2.1));clear hrun hbw7 ht7 hqg hkg hown2 hw2 hg2 hE1 hlen hM hR hL hl hov hnb3 hnbc hntb hnrb hbcd htbd hrbd hbwd hq4d hszd
     have HRW:=h! (show BkR S w7 b1 (refsOf (ts.take i)++relsOf tn (rels.take (j+1)))from by
      rw[HPJ.out,<- List.append_assoc];exact HR4.out.same (HQ47.out.block b1 (.inr ⟨HD.out.2.2.2.2.1,HR4.out.lt,fun cs=>HR4.out.notCells cs _ _⟩)) (Same.sub hS HQ47.out.below))
     have HMW:=h! (HM4.out.same (HQ47.out.block b2 (.inr ⟨HD.out.2.2.2.2.2.1,HM4.out.lt,fun cs=>HM4.out.notCells cs _ _⟩)))
     have HWW:=h! (show BkW w7 w.heap.size b3 (refsOf (ts.take i)++relsOf tn (rels.take (j+1)))from by
      rw[HPJ.out,<- List.append_assoc];exact HW7.out)
     have HQW:=h! (QKept.next HQ4.out (HQ47.out.mono fun x hx=>by
      rcases hx with hx | ⟨h1,h2⟩
      ·exact .inl hx
      ·exact .inr ⟨fun e=>h1 (.inr (.inr e)),h2⟩))
     have hlt2:=HJ1.out;clear t4 r4 k4;go_wp2_with fail
     go_roundw
     case rel=>exact⟨j+1,by omega,by go_num,HRW.out,HMW.out,HWW.out,HQW.out⟩
     case measure=>simp[intOf];omega
    ·obtain rfl:j=rels.length:=by omega
     have HRW:=h! (show BkR S wr b1 (refsOf (ts.take (i+1)))from by have:=HR2.out;rw[List.take_length]at this;rw[HP1.out];exact this);have HMW:=h! (show Mp Tryz.prog 9 Value.string bV wr b2 (tyL (ts.take (i+1)))from by rw[HT1.out];exact HM2.out);have HWW:=h! (show BkW wr w.heap.size b3 (refsOf (ts.take (i+1)))from by have:=HW2.out;rw[List.take_length]at this;rw[HP1.out];exact this);have HQW:=h! (QKept.next HQT.out HQ2.out);have hlt2:=HI1.out;clear hqj;go_wp2_with fail
     go_roundw
     case rel=>exact⟨i+1,by omega,by go_num,HRW.out,HMW.out,HWW.out,HQW.out⟩
     case measure=>simp[intOf];omega
  ·obtain rfl:i=ts.length:=by omega
   rw[List.take_length]at HR1 HM1 HW1;have HRC1:=h! (HQ1.out.box HRC.out (by decide) HD.out.2.2.2.2.2.2.1);have HBC1:=h! (HQ1.out.box HBC.out (by decide) HD.out.2.2.2.2.2.2.2.1);have hlo:=HX.out.trans HQ1.out.below;have hrcw:w.heap.size<=rc:=HLO.out;have hs1:=HRC1.out.set_to 0 (.map (some b1)) rfl;have hs2:=hs1.set_to 1 (.map (some b2)) rfl;have hs3:=hs2.set_to 2 (.map (some b3)) rfl;have c1:=HBC1.out.cells;have c2:=HRC1.out.cells;have f2:=HRC1.out.free;have HS3:=h! hs3
   have hne:∀ x,x≠rc->(((wr.setCell ⟨rc,0,none⟩ (.map (some b1))).setCell ⟨rc,1,none⟩ (.map (some b2))).setCell ⟨rc,2,none⟩ (.map (some b3))).heap[x]?=wr.heap[x]?:=fun x hx=>by
    rw[Below.heap_setCell _ _ _ x hx,Below.heap_setCell _ _ _ x hx,Below.heap_setCell _ _ _ x hx]
   have HNE:=h! hne;have HBE:=h! (show Below w.heap.size w (((wr.setCell ⟨rc,0,none⟩ (.map (some b1))).setCell ⟨rc,1,none⟩ (.map (some b2))).setCell ⟨rc,2,none⟩ (.map (some b3)))from((hlo.setCell hrcw _).setCell hrcw _).setCell hrcw _);clear hs1 hs2 hs3 hlo hne hq;go_wp2_with fail
   refine bodyPost_ret (results_cell_row rfl _ _ rc 229 #[.map (some b1),.map (some b2),.map (some b3)] (0,0) _ rfl HS3.out Tryz.underlying229 rfl (by kernel_rfl)) rfl ⟨b1,b2,b3,rfl,⟨HR1.out.same (HNE.out _ fun e=>HD.out.2.2.2.2.2.2.1 (.inl e.symm)) (fun x hx=>HNE.out x (by have:=hS x hx;omega)),HM1.out.same (HNE.out _ fun e=>HD.out.2.2.2.2.2.2.1 (.inr (.inl e.symm))),HW1.out.keep (HNE.out _ fun e=>HD.out.2.2.2.2.2.2.1 (.inr (.inr e.symm))) (fun x _ _ hx=>HNE.out x fun e=>by
    obtain⟨cs,hx⟩:=hx;have:=HRC1.out;rw[e,show wr.heap[rc]?=_ from HRC1.out]at hx;injection hx with hx
    injection hx with _ h2 _
    revert h2
    decide),HD.out.1,HD.out.2.1,HD.out.2.2.1,HD.out.2.2.2.1,HD.out.2.2.2.2.1,HD.out.2.2.2.2.2.1⟩,HBE.out⟩
theorem Own.mono {w:World} {B B':Nat} {e:TypeId} {sz:Nat} {v:Value} {xs:List Value} (h:Own w B e sz v xs)(hb:B'<=B):Own w B' e sz v xs:=by
 obtain⟨n,h⟩:=h;refine⟨n,h.1,?_⟩;rcases h.2 with hn | ⟨g,cap,cur,rfl,hbg,r⟩
 ·exact .inl hn
 ·exact .inr ⟨g,cap,cur,rfl,by omega,r⟩
theorem BkW.mono {w:World} {B B' b3:Nat} {P:List (R2 × RT)} (h:BkW w B b3 P)(hb:B'<=B):BkW w B' b3 P:=by
 obtain⟨lw,h1,h2,h3⟩:=h;exact⟨lw,h1,⟨fun x hx=>⟨(h2.rows x hx).1,(h2.rows x hx).2.mono hb⟩,h2.apart⟩,h3⟩
structure Bk (w:World)(b1 b2 b3:Nat)(ts:List TyS):Prop where
 R:BkR (· < w.heap.size) w b1 (refsOf ts)
 T:Mp Tryz.prog 9 Value.string bV w b2 (tyL ts)
 W:BkW w 0 b3 (refsOf ts)
theorem Bk.up {w w':World} {b1 b2 b3:Nat} {ts:List TyS} (h:Bk w b1 b2 b3 ts)(hb:Below w.heap.size w w'):Bk w' b1 b2 b3 ts:=⟨h.R.up hb,h.T.below hb,h.W.up hb⟩
theorem BkR.mono {S S':Nat->Prop} {w:World} {b1:Nat} {P:List (R2 × RT)} (h:BkR S w b1 P)(hs:∀ x,S x->S' x):BkR S' w b1 P:=by
 obtain⟨lr,h1,h2,h3⟩:=h;exact⟨lr,h1,h2,fun x hx=>(h3 x hx).mono hs⟩
theorem open_bk (ts:List TyS)(tv:Value)(w:World)(h:TysAt (· < w.heap.size) w ts tv)(hok:∀ t∈ts,t.Ok)(hu:uniqOk ts=true)(hsz:(refsOf ts).length<=1099511627776) :
  Calls Tryz.prog 131 #[.agg #[tv]] w fun e w'=>∃ b1 b2 b3,e = .returned (.agg #[.map (some b1),.map (some b2),.map (some b3)])/\Bk w' b1 b2 b3 ts/\Below w.heap.size w w':=by
 refine(open_any ts tv w (fun _ hx=>hx) h hok hu hsz).mono ?_;rintro e w' ⟨b1,b2,b3,rfl,hb,hw⟩;exact⟨b1,b2,b3,rfl,⟨hb.R.mono fun x hx=>Nat.lt_of_lt_of_le hx hw.size,hb.T,hb.W.mono (Nat.zero_le _)⟩,hw⟩
theorem texts_at {S:Nat->Prop} {w:World} {ao:Option Addr} {l:List ByteArray} {c:Nat} (h:Sl S w 1 (.slice ao l.length c) (txs l)):∀ i (hi:i<l.length),∃ b off,ao=some ⟨b,off,none⟩/\S b/\w.cell? ⟨b,off+i,none⟩=some (.string l[i]):=by
 obtain⟨ao',n',c',hv,h1,h2,h3,h4,h5⟩:=h;cases hv;intro i hi;obtain⟨b,off,rfl,hb,hc⟩:=h5 (fun e=>by have:=congrArg List.length e;rw[txs_length]at this;simp only[List.length_nil]at this;omega);exact⟨b,off,rfl,hb,hc i _ (by simp[txs,hi])⟩
theorem indexRF_any (w:World)(ps:List RT)(k:Int)(a b:ByteArray)(pv:Value)(g:Nat)(cap:Array Value)(eg:∀ args W,(callFunc g args).run Tryz.prog W = .ok (.enter g args) W)(q:RT->Bool)(hat:RTAt (· < w.heap.size) w (.mk k a b ps) pv)(hf:∀ i (hi:i<ps.length) W pvi,Below w.heap.size w W->RTAt (· < W.heap.size) W ps[i] pvi->Calls Tryz.prog g (#[rV ps[i] pvi]++cap) W fun e W'=>e = .returned (.bool (q ps[i]))/\Below W.heap.size W W') :
  Calls Tryz.prog 223 #[pv,.func (.func g) #[] cap] w fun e w'=>∃ k:Int,e = .returned (.int .i64 k)/\(0<=k↔ps.any q=true)/\Below w.heap.size w w':=by
 obtain⟨ao,c,rfl,hlc,hcm,hcell⟩:=hat.rows;dsimp only[RT.ps]at hlc hcell;have HC:=h! hcell;have HF:=h! hf;clear hat hcell hf;go_enter Tryz.func223,Tryz.ntmps223
 go_wp2_with fail
 go_loopw [5,8] (fun _ ii wr=>∃ i:Nat,i<=ps.length/\ii = .int .i64 i/\(∀ j (hj:j<ps.length),j<i->q ps[j]=false)/\Below w.heap.size w wr) (fun _ ii _=>ps.length-(intOf ii).toNat)
 case atStart=>exact⟨0,by omega,rfl,fun _ _ h=>absurd h (by omega),Below.refl _ _⟩
 case round =>
  obtain⟨i,hi,rfl,hall,hbel⟩:=hrel;have HALL:=h! hall;clear hall;by_cases hlt:i<ps.length
  ·have HUP:=h! (fun h=>upto_succ (p:=fun j hj=>q ps[j]=false) HALL.out hlt h);have HAN:=h! (fun(h:q ps[i]=true)=>(show ps.any q=true from List.any_eq_true.2 ⟨_,List.getElem_mem hlt,h⟩));obtain⟨bb,off,pv2,hbo,hb,c0,c1,c2,c3,hat2⟩:=HC.out i hlt;cases hbo;have d0:=(hbel.cell (p:=⟨bb,off+i*4,none⟩) hb).trans c0;have d1:=(hbel.cell (p:=⟨bb,off+i*4+1,none⟩) hb).trans c1;have d2:=(hbel.cell (p:=⟨bb,off+i*4+2,none⟩) hb).trans c2;have d3:=(hbel.cell (p:=⟨bb,off+i*4+3,none⟩) hb).trans c3;have HR:=h! (HF.out i hlt wr pv2 hbel (hat2.up hbel));clear c0 c1 c2 c3 hat2 hb;unfold rV at HR;generalize ps[i]=p at *;have HB:=h! hbel;clear hbel;cases hq:q p with
   | true =>
    rw[hq]at HR;have HT:=h! (HAN.out hq);clear HUP HAN hq;go_wp2_with fail
    refine HR.out.mono ?_;rintro e w5 ⟨rfl,hb5⟩;have HBE:=h! (HB.out.trans (hb5.mono HB.out.size));clear HR hb5 d0 d1 d2 d3;go_wp2_with fail
    go_ret
    exact⟨_,rfl,⟨fun _=>HT.out,fun _=>by omega⟩,HBE.out⟩
   | false =>
    rw[hq]at HR;have HN:=h! (HUP.out hq);clear HUP HAN hq;go_wp2_with fail
    refine HR.out.mono ?_;rintro e w5 ⟨rfl,hb5⟩;have HBE:=h! (HB.out.trans (hb5.mono HB.out.size));clear HR hb5 d0 d1 d2 d3;go_wp2_with fail
    go_roundw
    case rel=>exact⟨i+1,by omega,by go_num,HN.out,HBE.out⟩
    case measure=>simp[intOf];omega
  ·obtain rfl:i=ps.length:=by omega
   have HN:=h! (show ¬ ps.any q=true from fun h=>by
    obtain⟨x,hx,hq⟩:=List.any_eq_true.1 h;obtain⟨j,hj,rfl⟩:=List.getElem_of_mem hx;rw[HALL.out j hj hj]at hq;cases hq)
   have HB:=h! hbel;clear hbel;go_wp2_with fail
   go_ret
   exact⟨_,rfl,⟨fun h=>absurd h (by omega),fun h=>absurd h HN.out⟩,HB.out⟩
theorem containsRF_any (w:World)(ps:List RT)(k:Int)(a b:ByteArray)(pv:Value)(g:Nat)(cap:Array Value)(eg:∀ args W,(callFunc g args).run Tryz.prog W = .ok (.enter g args) W)(q:RT->Bool)(hat:RTAt (· < w.heap.size) w (.mk k a b ps) pv)(hf:∀ i (hi:i<ps.length) W pvi,Below w.heap.size w W->RTAt (· < W.heap.size) W ps[i] pvi->Calls Tryz.prog g (#[rV ps[i] pvi]++cap) W fun e W'=>e = .returned (.bool (q ps[i]))/\Below W.heap.size W W') :
  Calls Tryz.prog 175 #[pv,.func (.func g) #[] cap] w fun e w'=>e = .returned (.bool (ps.any q))/\Below w.heap.size w w':=by
 have HI:=h! (indexRF_any w ps k a b pv g cap eg q hat hf);clear hat hf;go_enter Tryz.func175,Tryz.ntmps175
 go_wp2_with fail
 refine HI.out.mono ?_;rintro e w2 ⟨k,rfl,hk,hb⟩;have HK:=h! hk;have HB:=h! hb;clear HI hk hb;by_cases h0:0<=k
 ·have HM:=h! (HK.out.1 h0);go_wp2_with fail
  go_ret
  exact⟨by rw[HM.out];simp[],HB.out⟩
 ·have HM:=h! (show ps.any q=false from by cases h:ps.any q with | false=>rfl | true=>exact absurd (HK.out.2 h) h0);go_wp2_with fail
  go_ret
  exact⟨by rw[HM.out];simp[h0],HB.out⟩
end Go.Proofs.YtlhaghoajpglaaaGreat
namespace Go.Proofs.YtlhaghoajpglaaaGreat
open Go Go.RowKit Go.Maps Go.Shelf
mutual
def RT.pnamed (P:List (R2 × RT))(typ:ByteArray):RT->Bool
 | .mk k a b ps=>if k=2 then(lookA P ⟨typ,a⟩).isSome else if k=3 then(lookA P ⟨typ,a⟩).isSome&&decide (0<(whereP P b).length)else pnamedL P typ ps
def pnamedL (P:List (R2 × RT))(typ:ByteArray):List RT->Bool | []=>true | r::rs=>r.pnamed P typ&&pnamedL P typ rs
end
theorem pnamedL_eq (P:List (R2 × RT))(typ:ByteArray):∀ l:List RT,pnamedL P typ l=l.all fun r=>r.pnamed P typ
 | []=>rfl
 | r::rs=>by rw[pnamedL,List.all_cons,pnamedL_eq P typ rs]
theorem named1_any {b1 b2 b3:Nat} {typ:ByteArray} (p:RT)(pv:Value)(X Y:Nat)(w:World)(g:Bool)(hX:Blk w X #[.map (some b1),.map (some b2),.map (some b3)] 229)(hY:Blk w Y #[.string typ] 9)(hat:RTAt (· < w.heap.size) w p pv)
  (h:Calls Tryz.prog 132 #[.agg #[.map (some b1),.map (some b2),.map (some b3)],.string typ,rV p pv] (w.alloc (.cells #[.int .i64 p.k,.string p.a,.string p.b,pv] 106)) fun e w'=>e = .returned (.bool g)/\Below w.heap.size w w') :
  Calls Tryz.prog 192 #[rV p pv,.pointer (some ⟨X,0,none⟩),.pointer (some ⟨Y,0,none⟩)] w fun e w'=>e = .returned (.bool (!g))/\Below w.heap.size w w':=by
 have HC:=h! h;obtain⟨ao,c,rfl,-⟩:=hat.rows;have hb:=(Blk.made w #[.int .i64 p.k,.string p.a,.string p.b,.slice ao p.ps.length c] 106).cells;have hx:=(hX.alloc (.cells #[.int .i64 p.k,.string p.a,.string p.b,.slice ao p.ps.length c] 106)).cells;have hy:=(hY.alloc (.cells #[.int .i64 p.k,.string p.a,.string p.b,.slice ao p.ps.length c] 106)).cells;clear h hX hY hat;unfold rV at HC ⊢;go_enter Tryz.func192,Tryz.ntmps192
 go_wp2_with fail
 refine HC.out.mono ?_;rintro e w2 ⟨rfl,hb2⟩;have HB:=h! hb2;clear HC hb hx hy hb2;go_wp2_with fail
 go_ret
 exact⟨rfl,HB.out⟩
theorem pnamed_any {b1 b2 b3:Nat} {ts:List TyS} (typ:ByteArray)(htyp:typ.size<=maxLen)(r:RT):∀ (pv:Value)(w:World),Bk w b1 b2 b3 ts->RTAt (· < w.heap.size) w r pv->r.Ok ->
  Calls Tryz.prog 132 #[.agg #[.map (some b1),.map (some b2),.map (some b3)],.string typ,rV r pv] w fun e w'=>e = .returned (.bool (r.pnamed (refsOf ts) typ))/\Below w.heap.size w w':=by
 induction r using RT.ind with
 | h r ih =>
 intro pv w hbk hat hok;obtain⟨-,hoa,hob,hop⟩:=r.ok_iff.1 hok;obtain⟨k,ra,rb,ps⟩:=r;obtain⟨ao,c,rfl,-⟩:=hat.rows;dsimp only[RT.k,RT.a,RT.b,RT.ps]at hoa hob hop ih;have IH:=h! ih;have HOP:=h! hop;have HRA:=h! (show ra.size<=maxLen from by unfold maxLen;omega);have HRB:=h! (show rb.size<=maxLen from by unfold maxLen;omega);unfold rV;dsimp only[RT.k,RT.a,RT.b,RT.ps];clear ih hop hoa hob hok;by_cases k2:k=2
 ·subst k2;have HE:=h! (show(RT.mk 2 ra rb ps).pnamed (refsOf ts) typ=(lookA (refsOf ts) ⟨typ,ra⟩).isSome from by rw[RT.pnamed];rfl);obtain⟨wx,hwx⟩:∃ x,x=w.alloc (.cells #[.map (some b1),.map (some b2),.map (some b3)] 229):=⟨_,rfl⟩;obtain⟨wy,hwy⟩:∃ x,x=wx.alloc (.cells #[.string typ] 9):=⟨_,rfl⟩;obtain⟨wz,hwz⟩:∃ x,x=wy.alloc (.cells #[.int .i64 2,.string ra,.string rb,.slice ao ps.length c] 106):=⟨_,rfl⟩;have ex:wx.heap.size=w.heap.size+1:=by rw[hwx];simp
  have ey:wy.heap.size=w.heap.size+1+1:=by rw[hwy];simp[ex]
  have xwx:Ext w wx:=by rw[hwx];exact Ext.alloc _ _
  have xxy:Ext wx wy:=by rw[hwy];exact Ext.alloc _ _
  have xyz:Ext wy wz:=by rw[hwz];exact Ext.alloc _ _
  have HX:=h! (show Blk wz w.heap.size #[.map (some b1),.map (some b2),.map (some b3)] 229 from Blk.below (by rw[hwx];exact Blk.made _ _ _) (xxy.trans xyz));have HY:=h! (show Blk wz (w.heap.size+1) #[.string typ] 9 from Blk.below (by rw[hwy,<- ex];exact Blk.made _ _ _) xyz);have HZ:=h! (show Blk wz (w.heap.size+1+1) #[.int .i64 2,.string ra,.string rb,.slice ao ps.length c] 106 from by rw[hwz,<- ey];exact Blk.made _ _ _);have XWZ:=h! (show Below w.heap.size w wz from xwx.trans (xxy.trans xyz));have HBK:=h! (hbk.up XWZ.out);obtain⟨z,hlk,hzat,-,-⟩:=HBK.out.R.look ⟨typ,ra⟩ ⟨htyp,HRA.out⟩;obtain⟨zo,zc,hzv,-⟩:=hzat.rows;generalize hok:(lookA (refsOf ts) ⟨typ,ra⟩).isSome=ok at *;unfold rvV rV r2V at hlk;dsimp only at hlk;rw[hzv]at hlk;have h4:Ext wz (wz.alloc (.cells #[.int .i64 z.1.k,.string z.1.a,.string z.1.b,.slice zo z.1.ps.length zc] 106)):=Ext.alloc _ _;have x3:=HX.out.cells;have y3:=HY.out.cells;have z3:=HZ.out.cells;have x4:=(HX.out.below h4).cells;have z4:=(HZ.out.below h4).cells;have HB4:=h! (show Below w.heap.size w (wz.alloc (.cells #[.int .i64 z.1.k,.string z.1.a,.string z.1.b,.slice zo z.1.ps.length zc] 106))from Ext.trans XWZ.out h4);have HBK4:=h! (HBK.out.up h4);clear hbk hzat hzv hat ex ey xwx xxy xyz h4;subst hwz hwy hwx;go_enter Tryz.func132,Tryz.ntmps132
  go_wp2_with fail
  go_ret
  exact⟨by rw[HE.out];simp,HB4.out⟩
 by_cases k3:k=3
 ·subst k3;have HE:=h! (show(RT.mk 3 ra rb ps).pnamed (refsOf ts) typ=((lookA (refsOf ts) ⟨typ,ra⟩).isSome&&decide (0<(whereP (refsOf ts) rb).length))from by rw[RT.pnamed];rfl);clear k2;obtain⟨wx,hwx⟩:∃ x,x=w.alloc (.cells #[.map (some b1),.map (some b2),.map (some b3)] 229):=⟨_,rfl⟩;obtain⟨wy,hwy⟩:∃ x,x=wx.alloc (.cells #[.string typ] 9):=⟨_,rfl⟩;obtain⟨wz,hwz⟩:∃ x,x=wy.alloc (.cells #[.int .i64 3,.string ra,.string rb,.slice ao ps.length c] 106):=⟨_,rfl⟩;have ex:wx.heap.size=w.heap.size+1:=by rw[hwx];simp
  have ey:wy.heap.size=w.heap.size+1+1:=by rw[hwy];simp[ex]
  have xwx:Ext w wx:=by rw[hwx];exact Ext.alloc _ _
  have xxy:Ext wx wy:=by rw[hwy];exact Ext.alloc _ _
  have xyz:Ext wy wz:=by rw[hwz];exact Ext.alloc _ _
  have HX:=h! (show Blk wz w.heap.size #[.map (some b1),.map (some b2),.map (some b3)] 229 from Blk.below (by rw[hwx];exact Blk.made _ _ _) (xxy.trans xyz));have HY:=h! (show Blk wz (w.heap.size+1) #[.string typ] 9 from Blk.below (by rw[hwy,<- ex];exact Blk.made _ _ _) xyz);have HZ:=h! (show Blk wz (w.heap.size+1+1) #[.int .i64 3,.string ra,.string rb,.slice ao ps.length c] 106 from by rw[hwz,<- ey];exact Blk.made _ _ _);have XWZ:=h! (show Below w.heap.size w wz from xwx.trans (xxy.trans xyz));have HBK:=h! (hbk.up XWZ.out);obtain⟨z,hlk,hzat,-,-⟩:=HBK.out.R.look ⟨typ,ra⟩ ⟨htyp,HRA.out⟩;obtain⟨zo,zc,hzv,-⟩:=hzat.rows;generalize hok:(lookA (refsOf ts) ⟨typ,ra⟩).isSome=ok at *;unfold rvV rV r2V at hlk;dsimp only at hlk;rw[hzv]at hlk;have h4:Ext wz (wz.alloc (.cells #[.int .i64 z.1.k,.string z.1.a,.string z.1.b,.slice zo z.1.ps.length zc] 106)):=Ext.alloc _ _;have x3:=HX.out.cells;have y3:=HY.out.cells;have z3:=HZ.out.cells;have x4:=(HX.out.below h4).cells;have z4:=(HZ.out.below h4).cells;have HB4:=h! (show Below w.heap.size w (wz.alloc (.cells #[.int .i64 z.1.k,.string z.1.a,.string z.1.b,.slice zo z.1.ps.length zc] 106))from Ext.trans XWZ.out h4);have HBK4:=h! (HBK.out.up h4);obtain⟨v,hlw,hov,-⟩:=HBK4.out.W.look rb HRB.out;obtain⟨vo,vn,vc,rfl,hvn,-,-⟩:=hov.sl.len;rw[txs_length,Nat.mul_one]at hvn;subst hvn;clear hov;clear hbk hzat hzv hat ex ey xwx xxy xyz h4;subst hwz hwy hwx;cases ok with
  | false =>
   go_enter Tryz.func132,Tryz.ntmps132
   go_wp2_with fail
   go_ret
   exact⟨by rw[HE.out];simp,HB4.out⟩
  | true =>
   by_cases hp:0<(whereP (refsOf ts) rb).length
   ·have hpI:(0:Int)<((whereP (refsOf ts) rb).length:Int):=by omega
    have HP:=h! hp;clear hp;go_enter Tryz.func132,Tryz.ntmps132
    go_wp2_with fail
    go_ret
    exact⟨by rw[HE.out,decide_eq_true HP.out];simp,HB4.out⟩
   ·have hpI:¬ ((0:Int)<((whereP (refsOf ts) rb).length:Int)):=by omega
    have HP:=h! hp;clear hp;go_enter Tryz.func132,Tryz.ntmps132
    go_wp2_with fail
    go_ret
    exact⟨by rw[HE.out,decide_eq_false HP.out];simp,HB4.out⟩
 have q2:(k == 2)=false:=by rw[beq_eq_false_iff_ne];exact k2
 have q3:(k == 3)=false:=by rw[beq_eq_false_iff_ne];exact k3
 have HE:=h! (show(RT.mk k ra rb ps).pnamed (refsOf ts) typ=ps.all fun r=>r.pnamed (refsOf ts) typ from by rw[RT.pnamed,if_neg k2,if_neg k3,pnamedL_eq]);clear k2 k3;obtain⟨wx,hwx⟩:∃ x,x=w.alloc (.cells #[.map (some b1),.map (some b2),.map (some b3)] 229):=⟨_,rfl⟩;obtain⟨wy,hwy⟩:∃ x,x=wx.alloc (.cells #[.string typ] 9):=⟨_,rfl⟩;obtain⟨wz,hwz⟩:∃ x,x=wy.alloc (.cells #[.int .i64 k,.string ra,.string rb,.slice ao ps.length c] 106):=⟨_,rfl⟩;have ex:wx.heap.size=w.heap.size+1:=by rw[hwx];simp
 have ey:wy.heap.size=w.heap.size+1+1:=by rw[hwy];simp[ex]
 have xwx:Ext w wx:=by rw[hwx];exact Ext.alloc _ _
 have xxy:Ext wx wy:=by rw[hwy];exact Ext.alloc _ _
 have xyz:Ext wy wz:=by rw[hwz];exact Ext.alloc _ _
 have HX:=h! (show Blk wz w.heap.size #[.map (some b1),.map (some b2),.map (some b3)] 229 from Blk.below (by rw[hwx];exact Blk.made _ _ _) (xxy.trans xyz));have HY:=h! (show Blk wz (w.heap.size+1) #[.string typ] 9 from Blk.below (by rw[hwy,<- ex];exact Blk.made _ _ _) xyz);have HZ:=h! (show Blk wz (w.heap.size+1+1) #[.int .i64 k,.string ra,.string rb,.slice ao ps.length c] 106 from by rw[hwz,<- ey];exact Blk.made _ _ _);have XWZ:=h! (show Below w.heap.size w wz from xwx.trans (xxy.trans xyz));have HBK:=h! (hbk.up XWZ.out);obtain⟨z,hlk,hzat,-,-⟩:=HBK.out.R.look ⟨typ,ra⟩ ⟨htyp,HRA.out⟩;obtain⟨zo,zc,hzv,-⟩:=hzat.rows;generalize hok:(lookA (refsOf ts) ⟨typ,ra⟩).isSome=ok at *;unfold rvV rV r2V at hlk;dsimp only at hlk;rw[hzv]at hlk;have h4:Ext wz (wz.alloc (.cells #[.int .i64 z.1.k,.string z.1.a,.string z.1.b,.slice zo z.1.ps.length zc] 106)):=Ext.alloc _ _;have x3:=HX.out.cells;have y3:=HY.out.cells;have z3:=HZ.out.cells;have x4:=(HX.out.below h4).cells;have z4:=(HZ.out.below h4).cells;have HB4:=h! (show Below w.heap.size w (wz.alloc (.cells #[.int .i64 z.1.k,.string z.1.a,.string z.1.b,.slice zo z.1.ps.length zc] 106))from Ext.trans XWZ.out h4);have HBK4:=h! (HBK.out.up h4);have hmf:∀ (fn:Fn) (first cap:Array Value) (W:World),(Instr.makeFunc fn first cap).run Tryz.prog W = .ok (.func fn first cap) W:=fun _ _ _ _=>rfl
 have HCF:=h! (containsRF_any _ ps k ra rb _ 192 #[.pointer (some ⟨w.heap.size,0,none⟩),.pointer (some ⟨w.heap.size+1,0,none⟩)] (enters_of Tryz.func192 (by kernel_rfl) rfl) (fun p=>!p.pnamed (refsOf ts) typ) (hat.up HB4.out) (fun i hi W pvi hW hati=>named1_any ps[i] pvi _ _ W _ ((HX.out.below h4).below hW) ((HY.out.below h4).below hW) hati
  ((IH.out ps[i] (List.getElem_mem hi) pvi _ ((HBK4.out.up hW).up (Ext.alloc _ _)) (hati.up (Ext.alloc _ _)) (HOP.out _ (List.getElem_mem hi))).mono fun e w' hr=>⟨hr.1,Ext.trans (Ext.alloc _ _) hr.2⟩)))
 clear hbk hzat hzv hat ex ey xwx xxy xyz h4;subst hwz hwy hwx;go_enter Tryz.func132,Tryz.ntmps132
 go_wp2_with fail
 refine HCF.out.mono ?_;rintro e w5 ⟨rfl,hb5⟩;have HBE:=h! (HB4.out.trans (hb5.mono HB4.out.size));clear HCF hb5 x3 y3 z3 x4 z4 hlk;go_wp2_with fail
 go_ret
 exact⟨by rw[HE.out,List.not_any_eq_all_not];simp,HBE.out⟩
end Go.Proofs.YtlhaghoajpglaaaGreat
namespace Go.Proofs.YtlhaghoajpglaaaGreat
open Go Go.RowKit
def UpR (l:List R2):Prop:=l.Pairwise fun a b=>ltR a b=true
end Go.Proofs.YtlhaghoajpglaaaGreat
namespace Go.Proofs.YtlhaghoajpglaaaGreat
open Go Go.RowKit Go.Maps
section
variable {F : Fence} {n : Nat} {P : Program} (w : World) {ops : Array Oper} {rest : List Oper} {o : Oper} {a : Act} {Q : Exit -> Act -> World -> Prop} {κ α : Type} {kv : κ -> Value} {ev : α -> Value} {b : Nat} {l : List (κ × α)}
theorem wpListIn_mp_range (hg:o.guard=none)(m:Operand)(t:TypeId)(hop:o.op=Op.range t m) {k e:TypeId} (ht:P.underlying t=some (.map k e))(hm:a.eval m = .map (some b))(h:Mp P k kv ev w b l)
  (hK:∀ w',Rng P k kv ev w' b w.heap.size l l->Below w.heap.size w w'->w'.heap.size=w.heap.size+1->wpListIn F n P ops Q rest (a.put o.dst (.pointer (some ⟨w.heap.size,0,none⟩))) w'):wpListIn F n P ops Q (o::rest) a w:=by
 refine wpListIn_plain hg fun K' hK'=>?_;obtain⟨w',hrun,h1,h2,h3⟩:=h.range ht;unfold Oper.wpIn;refine⟨by simp[Oper.about,hop],?_⟩;rw[Oper.semAt_plain F _ _ (by rw[hop];intro c hc';cases hc')];simp[execOp,hop,hm,hrun,Result.andThen];exact hK' _ _ (hK w' h1 h2 h3)
theorem wpListIn_mp_next (hg:o.guard=none)(it:Operand)(hop:o.op=Op.next it false) {k:TypeId} {r:Nat} {rem:List (κ × α)} (hit:a.eval it = .pointer (some ⟨r,0,none⟩))(h:Rng P k kv ev w b r l rem)
  (hDone:rem=[]->wpListIn F n P ops Q rest (a.put o.dst (.tuple #[.bool false])) w)
  (hMore:∀ pre p post w',rem=pre++p::post->Rng P k kv ev w' b r l (pre++post)->Kept (· ≠ r) w w'->w'.heap.size=w.heap.size->(Instr.entry (.pointer (some ⟨r,0,none⟩))).run P w' = .ok (.tuple #[kv p.1,ev p.2]) w' ->
   wpListIn F n P ops Q rest (a.put o.dst (.tuple #[.bool true,kv p.1,ev p.2])) w'):wpListIn F n P ops Q (o::rest) a w:=by
 refine wpListIn_plain hg fun K' hK'=>?_;unfold Oper.wpIn;refine⟨by simp[Oper.about,hop],?_⟩;rw[Oper.semAt_plain F _ _ (by rw[hop];intro c hc';cases hc')];rcases h.next o.type with⟨h0,hrun⟩ | ⟨pre,p,post,w',h0,hrun,h1,h2,h3,h4⟩
 ·simp[execOp,hop,hit,hrun,Result.andThen];exact hK' _ _ (hDone h0)
 ·simp[execOp,hop,hit,hrun,Result.andThen];exact hK' _ _ (hMore pre p post w' h0 h1 h2 h3 h4)
end
theorem Kept.grown {w w':World} {r:Nat} (h:Kept (· ≠ r) w w'):w.grownBy w' (some r):=⟨h.os,h.tape,h.output,h.size,fun k _ hk=>h.block k fun e=>hk (by rw[e])⟩
theorem grown0_of {w w':World} (h:Below w.heap.size w w'):w.grownBy w' none:=⟨h.os,h.tape,h.output,h.size,fun k hk _=>h.block k hk⟩
theorem Rng.walk {P:Program} {k:TypeId} {κ α:Type} {kv:κ->Value} {ev:α->Value} {w:World} {b r:Nat} {l rem:List (κ × α)} (h:Rng P k kv ev w b r l rem):∃ o:Obj,w.heap[r]?=some o/\o.isWalk=true:=by
 obtain⟨es,clock,since,seen,c0,_,_,_,_,hr,_⟩:=h;exact⟨_,hr,rfl⟩
theorem Rng.walks {P:Program} {k:TypeId} {κ α:Type} {kv:κ->Value} {ev:α->Value} {w w':World} {b r:Nat} {l rem:List (κ × α)} (h:Rng P k kv ev w b r l rem)(hk:KeepsWalks w w'):Rng P k kv ev w' b r l rem:=by
 obtain⟨es,clock,since,seen,c0,hb,hs,hm,hok,hr,rest⟩:=h;exact⟨es,clock,since,seen,c0,hk.same b _ hb rfl,hs,hm,hok,hk.same r _ hr rfl,rest⟩
abbrev blR (l:List R2):List (R2 × Bool):=l.map fun p=>(p,true)
theorem put_blR (l:List R2)(a:R2)(h:a∉l):putA (blR l) a true=blR (l++[a]):=by
 rw[put_miss (fun p hp e=>h (by obtain⟨x,hx,rfl⟩:=List.mem_map.1 hp;exact e▸hx))];simp[blR]
theorem put_blR_in (l:List R2)(a:R2)(h:a∈l):putA (blR l) a true=blR l:=by
 induction l with
 | nil=>simp at h
 | cons x r ih =>
  simp only[blR,List.map_cons,putA]at *;by_cases e:x=a
  ·subst e;simp
  ·rw[if_neg e];rw[ih (by simpa [Ne.symm e] using h)]
def namesT (t:TyS):List R2:=⟨t.name,ByteArray.empty⟩::t.rels.map fun r=>⟨t.name,r.1⟩
def namesOf (ts:List TyS):List R2:=ts.flatMap namesT
theorem namesOf_take {l:List TyS} {i:Nat} (hi:i<l.length):namesOf (l.take (i+1))=namesOf (l.take i)++namesT l[i]:=by
 rw[List.take_succ_eq_append_getElem hi];simp only[namesOf,List.flatMap_append,List.flatMap_cons,List.flatMap_nil,List.append_nil]
theorem own_ne {s:ByteArray} (h:ownB s=true):s≠ByteArray.empty:=by
 rintro rfl;revert h
 decide
theorem names_nodup {ts:List TyS} (hp:printOk ts=true):(namesOf ts).Nodup↔uniqOk ts=true:=by
 have hown:∀ t∈ts,∀ r∈t.rels,r.1≠ByteArray.empty:=fun t ht r hr=>by
  have h1:=List.all_eq_true.1 hp t ht;unfold tyOk at h1;rw[Bool.and_eq_true]at h1;have h2:=List.all_eq_true.1 h1.2 r hr;unfold relOk at h2;simp only[Bool.and_eq_true]at h2;exact own_ne h2.1.2
 constructor
 ·intro h;refine uniq_of fun j hj=>⟨fun m hm _ hmj he=>?_,?_⟩
  ·have h1:=List.pairwise_iff_getElem.1 (List.pairwise_flatMap.1 h).2 m j hm hj hmj;exact h1 ⟨ts[m].name,ByteArray.empty⟩ List.mem_cons_self ⟨ts[j].name,ByteArray.empty⟩ List.mem_cons_self (by rw[he])
  ·have h1:=(List.pairwise_flatMap.1 h).1 ts[j] (List.getElem_mem hj);have h2:=(List.nodup_cons.1 (show(namesT ts[j]).Nodup from h1)).2;refine List.Pairwise.map _ ?_ (List.Pairwise.of_map _ (R:=fun a b:ByteArray × RT=>a.1≠b.1) ?_ h2)
   ·exact fun a b h=>h
   ·exact fun a b hne e=>hne (by rw[e])
 ·intro h;refine List.pairwise_flatMap.2 ⟨fun t ht=>?_,List.pairwise_iff_getElem.2 fun m j hm hj hmj=>?_⟩
  ·obtain⟨j,hj,rfl⟩:=List.getElem_of_mem ht;refine List.nodup_cons.2 ⟨fun hm=>?_,?_⟩
   ·obtain⟨r,hr,he⟩:=List.mem_map.1 hm;injection he with _ he
    exact hown _ ht r hr he
   ·have h1:=(uniq_at h hj).2;refine List.Pairwise.map _ ?_ (List.Pairwise.of_map _ (R:=fun a b:ByteArray × RT=>a.1≠b.1) (fun a b h=>h) h1);exact fun a b hne e=>hne (by injection e)
  ·intro x hx y hy e;subst e;have h1:=(uniq_at h hj).1 m hm hj hmj
   have n1:x.t=ts[m].name:=by
    rcases List.mem_cons.1 hx with rfl | hx
    ·rfl
    ·obtain⟨r,_,rfl⟩:=List.mem_map.1 hx;rfl
   have n2:x.t=ts[j].name:=by
    rcases List.mem_cons.1 hy with rfl | hy
    ·rfl
    ·obtain⟨r,_,rfl⟩:=List.mem_map.1 hy;rfl
   exact h1 (n1.symm.trans n2)
structure NamesI (L N:List R2):Prop where
 mem:∀ x,x∈N↔x∈L
 le:N.length<=L.length
 eq:N.length=L.length↔L.Nodup
theorem NamesI.nil:NamesI [] []:=⟨fun _=>Iff.rfl,Nat.le_refl _,by simp⟩
def addR (N:List R2)(x:R2):List R2:=if x∈N then N else N++[x]
theorem addR_len (N:List R2)(x:R2):(addR N x).length<=N.length+1:=by
 unfold addR;split <;> simp
theorem addR_mem (N:List R2)(x y:R2):y∈addR N x↔y∈N\/y=x:=by
 unfold addR;split
 ·rename_i h
  exact⟨.inl,fun hy=>hy.elim id fun e=>e▸h⟩
 ·simp
theorem put_addR (N:List R2)(x:R2):putA (blR N) x true=blR (addR N x):=by
 unfold addR;split
 ·rename_i h;exact put_blR_in N x h
 ·rename_i h;exact put_blR N x h
theorem NamesI.step {L N:List R2} (h:NamesI L N)(x:R2):NamesI (L++[x]) (addR N x):=by
 refine⟨fun y=>by rw[addR_mem,h.mem,List.mem_append,List.mem_singleton],?_,?_⟩
 ·have:=addR_len N x;have:=h.le;simp;omega
 ·unfold addR;split
  ·rename_i hx
   have h1:=h.le;have h2:=(h.mem x).1 hx;rw[List.length_append,List.nodup_append];simp only[List.length_cons,List.length_nil];constructor
   ·omega
   ·rintro⟨_,_,h3⟩;exact absurd rfl (h3 x h2 x (by simp))
  ·rename_i hx
   have h2:¬ x∈L:=fun h3=>hx ((h.mem x).2 h3);rw[List.length_append,List.length_append,List.nodup_append];simp only[List.length_cons,List.length_nil];constructor
   ·intro h3;refine⟨h.eq.1 (by omega),by simp,fun a ha b hb=>?_⟩;obtain rfl:=List.mem_singleton.1 hb;exact fun e=>h2 (e▸ha)
   ·rintro⟨h3,_,_⟩;have:=h.eq.2 h3;omega
theorem NamesI.lt {L N:List R2} (h:NamesI L N):N.length<L.length↔¬ L.Nodup:=by
 rw[<- h.eq];have:=h.le;omega
theorem refs_mem {ts:List TyS} {p:R2 × RT}:p∈refsOf ts↔∃ t∈ts,∃ r∈t.rels,p=(⟨t.name,r.1⟩,r.2):=by
 unfold refsOf relsOf;rw[List.mem_flatMap];constructor
 ·rintro⟨t,ht,hp⟩;obtain⟨r,hr,rfl⟩:=List.mem_map.1 hp;exact⟨t,ht,r,hr,rfl⟩
 ·rintro⟨t,ht,r,hr,rfl⟩;exact⟨t,ht,List.mem_map.2 ⟨r,hr,rfl⟩⟩
theorem uniq_eq {ts:List TyS} (h:uniqOk ts=true) {t u:TyS} (ht:t∈ts)(hu:u∈ts)(he:t.name=u.name):t=u:=by
 obtain⟨i,hi,rfl⟩:=List.getElem_of_mem ht;obtain⟨j,hj,rfl⟩:=List.getElem_of_mem hu;rcases Nat.lt_trichotomy i j with h1 | h1 | h1
 ·exact absurd he ((uniq_at h hj).1 i hi hj h1)
 ·subst h1;rfl
 ·exact absurd he.symm ((uniq_at h hi).1 j hj hi h1)
theorem look_has {ts:List TyS} (h:uniqOk ts=true) {t:TyS} (ht:t∈ts)(a:ByteArray):(lookA (refsOf ts) ⟨t.name,a⟩).isSome=hasT t a:=by
 cases hl:lookA (refsOf ts) ⟨t.name,a⟩ with
 | none =>
  have h1:=look_none_iff.1 hl;symm
  show hasT t a=false
  unfold hasT;rw[List.any_eq_false];intro r hr he;have he:r.1=a:=of_decide_eq_true he;exact h1 _ (refs_mem.2 ⟨t,ht,r,hr,rfl⟩) (by rw[he])
 | some x =>
  obtain⟨u,hu,r,hr,e⟩:=refs_mem.1 (look_mem hl);injection e with e1 e2
  injection e1 with e3 e4
  obtain rfl:=uniq_eq h ht hu e3;symm
  show hasT t a=true
  unfold hasT;exact List.any_eq_true.2 ⟨r,hr,decide_eq_true e4.symm⟩
theorem where_any (ts:List TyS)(b:ByteArray):decide (0<(whereP (refsOf ts) b).length)=anyT ts b:=by
 rw[Bool.eq_iff_iff,decide_eq_true_eq];unfold whereP anyT;rw[List.length_map,List.any_eq_true];constructor
 ·intro h;obtain⟨x,hx⟩:=List.exists_mem_of_length_pos h;rw[List.mem_filter,decide_eq_true_eq]at hx;obtain⟨u,hu,r,hr,rfl⟩:=refs_mem.1 hx.1;exact⟨u,hu,List.any_eq_true.2 ⟨r,hr,decide_eq_true hx.2⟩⟩
 ·rintro⟨u,hu,h⟩;obtain⟨r,hr,he⟩:=List.any_eq_true.1 h;exact List.length_pos_of_mem (List.mem_filter.2 ⟨refs_mem.2 ⟨u,hu,r,hr,rfl⟩,he⟩)
theorem textOk_leaf {k:Int} {a b:ByteArray} {ps:List RT} {d:Nat} (h:(RT.mk k a b ps).textOk d=true)(hk:k=2\/k=3):ps=[]:=by
 rw[RT.textOk]at h;rcases hk with rfl | rfl
 ·simp only[Int.reduceEq,if_false,if_true,Bool.and_eq_true,decide_eq_true_eq]at h;exact List.eq_nil_of_length_eq_zero h.2
 ·simp only[Int.reduceEq,if_false,if_true,Bool.and_eq_true,decide_eq_true_eq]at h;exact List.eq_nil_of_length_eq_zero h.2
theorem textOk_parts {k:Int} {a b:ByteArray} {ps:List RT} {d:Nat} (h:(RT.mk k a b ps).textOk d=true):∀ p∈ps,∃ d',p.textOk d'=true:=by
 intro p hp;by_cases h4:k=4\/k=5
 ·have hn:k≠1/\k≠2/\k≠3:=by omega
  rw[RT.textOk,if_neg hn.1,if_neg hn.2.1,if_neg hn.2.2,if_pos h4,textL_eq,Bool.and_eq_true]at h;have h1:=List.all_eq_true.1 h.2 p hp;unfold goodP at h1;rw[Bool.and_eq_true]at h1;exact⟨_,h1.2⟩
 ·exfalso
  have hnil:ps=[]:=by
   rw[RT.textOk]at h;by_cases k1:k=1
   ·subst k1;simp only[if_true,Bool.and_eq_true,decide_eq_true_eq]at h;exact List.eq_nil_of_length_eq_zero h.2
   ·by_cases k2:k=2
    ·subst k2;simp only[Int.reduceEq,if_false,if_true,Bool.and_eq_true,decide_eq_true_eq]at h;exact List.eq_nil_of_length_eq_zero h.2
    ·by_cases k3:k=3
     ·subst k3;simp only[Int.reduceEq,if_false,if_true,Bool.and_eq_true,decide_eq_true_eq]at h;exact List.eq_nil_of_length_eq_zero h.2
     ·rw[if_neg k1,if_neg k2,if_neg k3,if_neg h4]at h;cases h
  rw[hnil]at hp;cases hp
theorem named_eq2 {ts:List TyS} (h:uniqOk ts=true) {t:TyS} (ht:t∈ts)(r:RT):∀ d,r.textOk d=true->r.pnamed (refsOf ts) t.name=r.named ts t:=by
 induction r using RT.ind with
 | h r ih =>
  intro d hd;obtain⟨k,a,b,ps⟩:=r;dsimp only[RT.ps]at ih;rw[RT.pnamed,RT.named,pnamedL_eq,namedL_eq];unfold headOk;by_cases k2:k=2
  ·subst k2;obtain rfl:=textOk_leaf hd (.inl rfl);rw[if_pos rfl,look_has h ht];simp
  ·by_cases k3:k=3
   ·subst k3;obtain rfl:=textOk_leaf hd (.inr rfl);rw[if_neg k2,if_pos rfl,look_has h ht,where_any];simp
   ·rw[if_neg k2,if_neg k3];have e2:(k == 2)=false:=by rw[beq_eq_false_iff_ne];exact k2
    have e3:(k == 3)=false:=by rw[beq_eq_false_iff_ne];exact k3
    rw[e2,e3];simp only[Bool.false_and,Bool.or_false,Bool.not_false,Bool.true_and];rw[Bool.eq_iff_iff,List.all_eq_true,List.all_eq_true];constructor <;> intro hall p hp
    ·obtain⟨d',hd'⟩:=textOk_parts hd p hp;rw[<- ih p hp d' hd'];exact hall p hp
    ·obtain⟨d',hd'⟩:=textOk_parts hd p hp;rw[ih p hp d' hd'];exact hall p hp
theorem rel_text {ts:List TyS} (hp:printOk ts=true) {t:TyS} (ht:t∈ts) {r:ByteArray × RT} (hr:r∈t.rels):r.2.textOk 0=true:=by
 have h1:=List.all_eq_true.1 hp t ht;unfold tyOk at h1;rw[Bool.and_eq_true]at h1;have h2:=List.all_eq_true.1 h1.2 r hr;unfold relOk at h2;simp only[Bool.and_eq_true]at h2;exact h2.1.1
theorem names_all {ts:List TyS} (hp:printOk ts=true)(hu:uniqOk ts=true):(∀ x∈refsOf ts,x.2.pnamed (refsOf ts) x.1.t=true)↔namesOk ts=true:=by
 unfold namesOk;rw[List.all_eq_true];constructor
 ·intro h t ht;rw[List.all_eq_true];intro r hr;rw[<- named_eq2 hu ht r.2 0 (rel_text hp ht hr)];exact h _ (refs_mem.2 ⟨t,ht,r,hr,rfl⟩)
 ·intro h x hx;obtain⟨t,ht,r,hr,rfl⟩:=refs_mem.1 hx;dsimp only;rw[named_eq2 hu ht r.2 0 (rel_text hp ht hr)];exact List.all_eq_true.1 (h t ht) r hr
end Go.Proofs.YtlhaghoajpglaaaGreat
namespace Go.Proofs.YtlhaghoajpglaaaGreat
open Go Go.RowKit
theorem ruleOf_mem {ts:List TyS} {shut:List R2} {p:P3} {r:RT} (h:ruleOf ts shut p=some r):((⟨p.t,p.r⟩:R2),r)∈refsOf ts:=by
 unfold ruleOf at h;split at h
 ·cases h
 ·exact look_mem h
mutual
def RT.pre:RT->List RT | .mk k a b ps => .mk k a b ps::rpreL ps
def rpreL:List RT->List RT | [] => [] | r::rs=>r.pre++rpreL rs
end
theorem RT.pre_eq (r:RT):r.pre=r::rpreL r.ps:=by
 obtain⟨k,a,b,ps⟩:=r;rw[RT.pre];rfl
theorem rpreL_mem {x:RT}:∀ {l:List RT},x∈rpreL l↔∃ r∈l,x∈r.pre
 | []=>by simp[rpreL]
 | r::l=>by rw[rpreL,List.mem_append,rpreL_mem];simp
theorem RT.pre_self (r:RT):r∈r.pre:=by rw[r.pre_eq];exact List.mem_cons_self
theorem RT.pre_part {r q:RT} (h:q∈r.ps):q∈r.pre:=by
 rw[r.pre_eq];exact List.mem_cons_of_mem _ (rpreL_mem.2 ⟨q,h,q.pre_self⟩)
theorem RT.pre_trans (r:RT):∀ {q x:RT},q∈r.pre->x∈q.pre->x∈r.pre:=by
 induction r using RT.ind with
 | h r ih =>
  intro q x hq hx;have hq':=hq;rw[r.pre_eq]at hq;rcases List.mem_cons.1 hq with rfl | hq
  ·exact hx
  ·obtain⟨y,hy,hq⟩:=rpreL_mem.1 hq;rw[r.pre_eq];exact List.mem_cons_of_mem _ (rpreL_mem.2 ⟨y,hy,ih y hy hq hx⟩)
theorem Own.lit (w:World) {B:Nat} (hB:B<=w.heap.size)(e:TypeId)(sz n:Nat)(cs:Array Value)(hn:cs.size=n*sz)(hm:n<=maxLen)(_h0:n≠0):Own (w.alloc (.cells cs e)) B e sz (.slice (some ⟨w.heap.size,0,none⟩) n n) cs.toList:=by
 refine⟨n,by simpa using hn,.inr ⟨w.heap.size,n,cs,rfl,hB,heap_alloc_new w _,Nat.le_refl _,hm,hn,?_⟩⟩;rw[<- hn];exact List.take_of_length_le (by simp)
end Go.Proofs.YtlhaghoajpglaaaGreat
namespace Go.Proofs
open Go.Shelf
def Tryz.sortT_ren:Go.Shelf.Ren:=⟨fun | 6=>137 | 15=>198 | 14=>197 | 28=>240 | 29=>241 | 20=>232 | 21=>233 | 22=>234 | 23=>235 | 24=>236 | 25=>237 | 26=>238 | 27=>239 | 46=>281 | 47=>282 | 48=>283 | 49=>284 | 50=>285 | 57=>297 | n=>n,fun | 22=>27 | 24=>67 | 25=>154 | 3=>3 | 39=>311 | 0=>0 | 53=>349 | 55=>351 | 4=>4 | 46=>343 | 45=>342 | 50=>314 | 5=>5 | 9=>9 | 66=>378 | 70=>382 | 76=>390 | 77=>391 | n=>n,fun | n=>n⟩
theorem Tryz.sortT:Go.Proofs.SlLaysF0.n6 Tryz.prog Tryz.sortT_ren := {
 mixed:=by kernel_rfl
 f6:=⟨Tryz.f137.name,by decide,Tryz.func137.trans (congrArg some (by kernel_rfl))⟩
 f14:=⟨Tryz.f197.name,by decide,Tryz.func197.trans (congrArg some (by kernel_rfl))⟩
 f15:=Tryz.func198.trans (congrArg some (by kernel_rfl))
 f20:=⟨Tryz.f232.name,by decide,Tryz.func232.trans (congrArg some (by kernel_rfl))⟩
 f21:=⟨Tryz.f233.name,by decide,Tryz.func233.trans (congrArg some (by kernel_rfl))⟩
 f22:=⟨Tryz.f234.name,by decide,Tryz.func234.trans (congrArg some (by kernel_rfl))⟩
 f23:=⟨Tryz.f235.name,by decide,Tryz.func235.trans (congrArg some (by kernel_rfl))⟩
 f24:=⟨Tryz.f236.name,by decide,Tryz.func236.trans (congrArg some (by kernel_rfl))⟩
 f25:=⟨Tryz.f237.name,by decide,Tryz.func237.trans (congrArg some (by kernel_rfl))⟩
 f26:=⟨Tryz.f238.name,by decide,Tryz.func238.trans (congrArg some (by kernel_rfl))⟩
 f27:=⟨Tryz.f239.name,by decide,Tryz.func239.trans (congrArg some (by kernel_rfl))⟩
 f28:=Tryz.func240.trans (congrArg some (by kernel_rfl))
 f29:=Tryz.func241.trans (congrArg some (by kernel_rfl))
 f46:=⟨Tryz.f281.name,by decide,Tryz.func281.trans (congrArg some (by kernel_rfl))⟩
 f47:=Tryz.func282.trans (congrArg some (by kernel_rfl))
 f48:=Tryz.func283.trans (congrArg some (by kernel_rfl))
 f49:=⟨Tryz.f284.name,by decide,Tryz.func284.trans (congrArg some (by kernel_rfl))⟩
 f50:=⟨Tryz.f285.name,by decide,Tryz.func285.trans (congrArg some (by kernel_rfl))⟩
 f57:=⟨Tryz.f297.name,by decide,Tryz.func297.trans (congrArg some (by kernel_rfl))⟩
 t0:=Tryz.underlying0
 a0:=Tryz.isAgg0
 z0:=Tryz.sizeOf0
 v0:=Tryz.zeroValue0
 t3:=Tryz.underlying3
 a3:=Tryz.isAgg3
 z3:=Tryz.sizeOf3
 v3:=Tryz.zeroValue3
 t4:=Tryz.underlying4
 a4:=Tryz.isAgg4
 z4:=Tryz.sizeOf4
 v4:=Tryz.zeroValue4
 t5:=Tryz.underlying5
 a5:=Tryz.isAgg5
 z5:=Tryz.sizeOf5
 v5:=Tryz.zeroValue5
 t9:=Tryz.underlying9
 a9:=Tryz.isAgg9
 z9:=Tryz.sizeOf9
 v9:=Tryz.zeroValue9
 t22:=Tryz.underlying27
 a22:=Tryz.isAgg27
 z22:=Tryz.sizeOf27
 v22:=Tryz.zeroValue27
 t25:=Tryz.underlying154
 a25:=Tryz.isAgg154
 z25:=Tryz.sizeOf154
 v25:=Tryz.zeroValue154
 t39:=Tryz.underlying311
 a39:=Tryz.isAgg311
 z39:=Tryz.sizeOf311
 v39:=Tryz.zeroValue311
 t45:=Tryz.underlying342
 a45:=Tryz.isAgg342
 z45:=Tryz.sizeOf342
 v45:=Tryz.zeroValue342
 t46:=Tryz.underlying343
 a46:=Tryz.isAgg343
 z46:=Tryz.sizeOf343
 v46:=Tryz.zeroValue343
 t50:=Tryz.underlying314
 a50:=Tryz.isAgg314
 z50:=Tryz.sizeOf314
 v50:=Tryz.zeroValue314
 t53:=Tryz.underlying349
 a53:=Tryz.isAgg349
 z53:=Tryz.sizeOf349
 v53:=Tryz.zeroValue349
 t55:=Tryz.underlying351
 a55:=Tryz.isAgg351
 z55:=Tryz.sizeOf351
 v55:=Tryz.zeroValue351
 t66:=Tryz.underlying378
 a66:=Tryz.isAgg378
 z66:=Tryz.sizeOf378
 v66:=Tryz.zeroValue378
 t70:=Tryz.underlying382
 a70:=Tryz.isAgg382
 z70:=Tryz.sizeOf382
 v70:=Tryz.zeroValue382
 t76:=Tryz.underlying390
 a76:=Tryz.isAgg390
 z76:=Tryz.sizeOf390
 v76:=Tryz.zeroValue390
 t77:=Tryz.underlying391
 a77:=Tryz.isAgg391
 z77:=Tryz.sizeOf391
 v77:=Tryz.zeroValue391}
def Tryz.sortO_ren:Go.Shelf.Ren:=⟨fun | 6=>185 | 15=>198 | 14=>229 | 28=>240 | 29=>241 | 20=>272 | 21=>273 | 22=>274 | 23=>275 | 24=>276 | 25=>277 | 26=>278 | 27=>279 | 46=>294 | 47=>282 | 48=>283 | 49=>295 | 50=>296 | 57=>300 | n=>n,fun | 22=>113 | 24=>30 | 25=>219 | 3=>3 | 39=>311 | 0=>0 | 53=>349 | 55=>351 | 4=>4 | 46=>343 | 45=>342 | 50=>314 | 5=>5 | 9=>9 | 66=>378 | 70=>382 | 76=>390 | 77=>391 | n=>n,fun | n=>n⟩
theorem Tryz.sortO:Go.Proofs.SlLaysF0.n6 Tryz.prog Tryz.sortO_ren := {
 mixed:=by kernel_rfl
 f6:=⟨Tryz.f185.name,by decide,Tryz.func185.trans (congrArg some (by kernel_rfl))⟩
 f14:=⟨Tryz.f229.name,by decide,Tryz.func229.trans (congrArg some (by kernel_rfl))⟩
 f15:=Tryz.func198.trans (congrArg some (by kernel_rfl))
 f20:=⟨Tryz.f272.name,by decide,Tryz.func272.trans (congrArg some (by kernel_rfl))⟩
 f21:=⟨Tryz.f273.name,by decide,Tryz.func273.trans (congrArg some (by kernel_rfl))⟩
 f22:=⟨Tryz.f274.name,by decide,Tryz.func274.trans (congrArg some (by kernel_rfl))⟩
 f23:=⟨Tryz.f275.name,by decide,Tryz.func275.trans (congrArg some (by kernel_rfl))⟩
 f24:=⟨Tryz.f276.name,by decide,Tryz.func276.trans (congrArg some (by kernel_rfl))⟩
 f25:=⟨Tryz.f277.name,by decide,Tryz.func277.trans (congrArg some (by kernel_rfl))⟩
 f26:=⟨Tryz.f278.name,by decide,Tryz.func278.trans (congrArg some (by kernel_rfl))⟩
 f27:=⟨Tryz.f279.name,by decide,Tryz.func279.trans (congrArg some (by kernel_rfl))⟩
 f28:=Tryz.func240.trans (congrArg some (by kernel_rfl))
 f29:=Tryz.func241.trans (congrArg some (by kernel_rfl))
 f46:=⟨Tryz.f294.name,by decide,Tryz.func294.trans (congrArg some (by kernel_rfl))⟩
 f47:=Tryz.func282.trans (congrArg some (by kernel_rfl))
 f48:=Tryz.func283.trans (congrArg some (by kernel_rfl))
 f49:=⟨Tryz.f295.name,by decide,Tryz.func295.trans (congrArg some (by kernel_rfl))⟩
 f50:=⟨Tryz.f296.name,by decide,Tryz.func296.trans (congrArg some (by kernel_rfl))⟩
 f57:=⟨Tryz.f300.name,by decide,Tryz.func300.trans (congrArg some (by kernel_rfl))⟩
 t0:=Tryz.underlying0
 a0:=Tryz.isAgg0
 z0:=Tryz.sizeOf0
 v0:=Tryz.zeroValue0
 t3:=Tryz.underlying3
 a3:=Tryz.isAgg3
 z3:=Tryz.sizeOf3
 v3:=Tryz.zeroValue3
 t4:=Tryz.underlying4
 a4:=Tryz.isAgg4
 z4:=Tryz.sizeOf4
 v4:=Tryz.zeroValue4
 t5:=Tryz.underlying5
 a5:=Tryz.isAgg5
 z5:=Tryz.sizeOf5
 v5:=Tryz.zeroValue5
 t9:=Tryz.underlying9
 a9:=Tryz.isAgg9
 z9:=Tryz.sizeOf9
 v9:=Tryz.zeroValue9
 t22:=Tryz.underlying113
 a22:=Tryz.isAgg113
 z22:=Tryz.sizeOf113
 v22:=Tryz.zeroValue113
 t25:=Tryz.underlying219
 a25:=Tryz.isAgg219
 z25:=Tryz.sizeOf219
 v25:=Tryz.zeroValue219
 t39:=Tryz.underlying311
 a39:=Tryz.isAgg311
 z39:=Tryz.sizeOf311
 v39:=Tryz.zeroValue311
 t45:=Tryz.underlying342
 a45:=Tryz.isAgg342
 z45:=Tryz.sizeOf342
 v45:=Tryz.zeroValue342
 t46:=Tryz.underlying343
 a46:=Tryz.isAgg343
 z46:=Tryz.sizeOf343
 v46:=Tryz.zeroValue343
 t50:=Tryz.underlying314
 a50:=Tryz.isAgg314
 z50:=Tryz.sizeOf314
 v50:=Tryz.zeroValue314
 t53:=Tryz.underlying349
 a53:=Tryz.isAgg349
 z53:=Tryz.sizeOf349
 v53:=Tryz.zeroValue349
 t55:=Tryz.underlying351
 a55:=Tryz.isAgg351
 z55:=Tryz.sizeOf351
 v55:=Tryz.zeroValue351
 t66:=Tryz.underlying378
 a66:=Tryz.isAgg378
 z66:=Tryz.sizeOf378
 v66:=Tryz.zeroValue378
 t70:=Tryz.underlying382
 a70:=Tryz.isAgg382
 z70:=Tryz.sizeOf382
 v70:=Tryz.zeroValue382
 t76:=Tryz.underlying390
 a76:=Tryz.isAgg390
 z76:=Tryz.sizeOf390
 v76:=Tryz.zeroValue390
 t77:=Tryz.underlying391
 a77:=Tryz.isAgg391
 z77:=Tryz.sizeOf391
 v77:=Tryz.zeroValue391}
end Go.Proofs
namespace Go.Proofs.YtlhaghoajpglaaaGreat
open Go Go.RowKit
theorem kept_freeze {K:Nat->Prop} {w w':World} (h:Kept K w w') {p:Addr} (hp:¬ K p.block)(n:Nat):Kept K w (w'.freeze p n):=by
 have hb:=Lib.below_freeze (B:=0) (Below.refl 0 w') (p:=p) (Nat.zero_le _) n;refine h.trans ⟨hb.os,hb.tape,hb.output,hb.size,fun x hx=>?_⟩;have hne:x≠p.block:=fun e=>hp (e▸hx);unfold World.freeze;split
 ·rfl
 ·simp only[Array.getElem?_modify];rw[if_neg (Ne.symm hne)]
theorem wname_any {B b:Nat} {text:ByteArray} {odd:Bool} {w:World} (s:ByteArray)(h:WrB w B b text odd)(hlen:text.size+s.size<=140737488355328)(hpos:0<text.size)(hs:s.size<=maxLen)(hBw:B<=w.heap.size) :
  Calls Tryz.prog 189 #[.pointer (some ⟨b,0,none⟩),.string s] w fun e w'=>e = .returned (.tuple #[])/\WrB w' B b (text++s) (odd||!ownB s)/\WKept B b w w':=by
 have HN:=h! (isName_any s hs w);obtain⟨hc,hf⟩:=h.odd2;have hB:=h.1;have HB:=h! hB;have HW:=h! (fun o=>writeString_any s (h.flag o) hlen (by omega) (by simpa using hBw));have HK:=h! (fun v=>WKept.flag (w:=w) hB v);clear h hlen hpos hs hBw;cases odd with
 | true =>
  go_enter Tryz.func189,Tryz.ntmps189
  go_wp2_with fail
  refine(HW.out true).mono ?_;rintro e w2 ⟨rfl,hw,hk⟩;have HF:=h! hw;have HE:=h! (WKept.next (HK.out _) hk);clear HW hw hk hc hf HN;go_wp2_with fail
  go_end0
  exact⟨rfl,by rw[Bool.true_or];exact HF.out,HE.out⟩
 | false =>
  cases hn:isNm s with
  | false =>
   rw[hn]at HN;have HV:=h! (show(false||!ownB s)=true from by rw[ownB,hn];rfl);clear hn;go_enter Tryz.func189,Tryz.ntmps189
   go_wp2_with fail
   refine HN.out.mono ?_;rintro e w1 ⟨rfl,h1⟩;have h2:=h1.symm;subst h2;clear h1 HN;go_wp2_with fail
   refine(HW.out true).mono ?_;rintro e w2 ⟨rfl,hw,hk⟩;have HF:=h! hw;have HE:=h! (WKept.next (HK.out _) hk);clear HW hw hk hc hf;go_wp2_with fail
   go_end0
   exact⟨rfl,by rw[HV.out];exact HF.out,HE.out⟩
  | true =>
   rw[hn]at HN;by_cases he:s=⟨#[116,104,105,115]⟩
   ·have HV:=h! (show(false||!ownB s)=true from by rw[ownB,he];simp);subst he;clear hn;go_enter Tryz.func189,Tryz.ntmps189
    go_wp2_with fail
    refine HN.out.mono ?_;rintro e w1 ⟨rfl,h1⟩;have h2:=h1.symm;subst h2;clear h1 HN;go_wp2_with fail
    refine(HW.out true).mono ?_;rintro e w2 ⟨rfl,hw,hk⟩;have HF:=h! hw;have HE:=h! (WKept.next (HK.out _) hk);clear HW hw hk hc hf;go_wp2_with fail
    go_end0
    exact⟨rfl,by rw[HV.out];exact HF.out,HE.out⟩
   ·have HV:=h! (show(false||!ownB s)=false from by rw[ownB,hn];simp[he]);have hne:=ba_beq' he;rw[<- ByteArray.toList_eq,show(⟨#[116,104,105,115]⟩:ByteArray).data.toList=[116,104,105,115]from rfl]at hne;clear hn he;go_enter Tryz.func189,Tryz.ntmps189
    go_wp2_with fail
    refine HN.out.mono ?_;rintro e w1 ⟨rfl,h1⟩;have h2:=h1.symm;subst h2;clear h1 HN;go_wp2_with fail
    refine(HW.out false).mono ?_;rintro e w2 ⟨rfl,hw,hk⟩;have HF:=h! hw;have HE:=h! (WKept.next (HK.out _) hk);clear HW hw hk hc hf;go_wp2_with fail
    go_end0
    exact⟨rfl,by rw[HV.out];exact HF.out,HE.out⟩
theorem wstring_any {B b:Nat} {text:ByteArray} {odd:Bool} {w:World} (h:WrB w B b text odd) :
  Calls Tryz.prog 191 #[.pointer (some ⟨b,0,none⟩)] w fun e w'=>e = .returned (.string text)/\Below B w w':=by
 obtain⟨hB,p,v,hp,hbk,hown,hnil⟩:=h;have hUSn:∀ (W:World) (q:Option Addr),(Builtin.unsafeString_ #[340,3] 9 #[.pointer q,.int .i64 0]).run Tryz.prog W = .ok (.string .empty) W:=fun W q=>Lib.run_unsafeString_none W 340 3 9 q;by_cases hs:text.size=0
 ·obtain rfl:=hnil hs;obtain rfl:=ba_size_eq hs;have c1:w.drew.cell? ⟨b,1,none⟩=some (.slice none 0 0):=hbk.drew.cells 1;have hSD:(Builtin.unsafeSliceData_ #[22] 340 #[.slice none 0 0]).run Tryz.prog w.drew = .ok (.pointer none) w.drew:=rfl;clear hbk hown hnil hs hp;go_enter Tryz.func191,Tryz.ntmps191
  go_wp2_with fail
  obtain⟨wd,hwd⟩:∃ wd,wd=w.drew:=⟨_,rfl⟩;rw[<- hwd]at c1 hSD;have hbd:Below B w wd:=by rw[hwd];exact(Below.refl _ _).drew
  refine r! (fun W=>Kept (fun x=>x=b) wd W/\Below B w W) (by rw[<- hwd];exact⟨Kept.refl _ _,hbd⟩) ?_;rw[<- hwd];have HBD:=h! hbd;have h1:∀ W,(Kept (fun x=>x=b) wd W/\Below B w W)->W.cell? ⟨b,1,none⟩=some (.slice none 0 0):=fun W h=>(World.cell?_of_block (h.1.block b rfl)).trans c1;clear hwd c1 hbd;(refine WalkN.tk [0,1,2,3,5,6,7,8,9] ?_;(iterate 9 (refine c! ?_));refine TkN.n ?_)
  refine o! 4 ?_;refine b! ?_;intro K hK;go_simp;refine hK.out _ _ ⟨Kept.refl _ _,HBD.out⟩ ?_;clear hK;try simp only[Act.put,pA,pZ,pS]
  refine o! 10 ?_;refine b! ?_;intro K hK;go_simp;have hfin:=HBD.out;refine hK.out _ _ ⟨Kept.refl _ _,HBD.out⟩ ?_;clear hK;try simp only[Act.put,pA,pZ,pS]
  refine t! 11 ?_
  refine d! ?_;have HF:=h! hfin;clear h1 hfin;go_wp2_with fail
  go_ret
  exact⟨rfl,HF.out⟩
 ·obtain⟨n,hown⟩:=hown;have hl:(Lib.strCells text).length=text.size:=Lib.strCells_length text;have hn:n=text.size:=by have:=hown.1;omega
  subst hn
  obtain⟨g,cap,cur,rfl,hbg,hg,hnc,hcm,hcs,htake⟩:∃ g cap cur,v = .slice (some ⟨g,0,none⟩) text.size cap/\B<=g/\w.heap[g]?=some (.cells cur 5 (0,0))/\text.size<=cap/\cap<=maxLen/\cur.size=cap*1/\cur.toList.take (text.size*1)=Lib.strCells text:=by
   rcases hown.2 with⟨_,hz⟩ | ⟨g,cap,cur,hv,r⟩
   ·exact absurd hz hs
   ·exact⟨g,cap,cur,hv,r⟩
  have c1:w.drew.cell? ⟨b,1,none⟩=some (.slice (some ⟨g,0,none⟩) text.size cap):=hbk.drew.cells 1
  have hSD:(Builtin.unsafeSliceData_ #[22] 340 #[.slice (some ⟨g,0,none⟩) text.size cap]).run Tryz.prog w.drew = .ok (.pointer (some ⟨g,0,none⟩)) w.drew :=
   Lib.run_unsafeSliceData_row _ _ _ _ _ _ (by omega)
  have htx:text=⟨text.data.toList.toArray⟩:=rfl;have hlen:text.data.toList.length=text.size:=rfl
  have hUS:∀ wd,wd=w.drew->(Builtin.unsafeString_ #[340,3] 9 #[.pointer (some ⟨g,0,none⟩),.int .i64 text.size]).run Tryz.prog wd = .ok (.string text) (wd.freeze ⟨g,0,none⟩ text.size):=by
   rintro wd rfl
   have:=Lib.run_unsafeString_row (P:=Tryz.prog) w.drew 340 3 9 5 Tryz.underlying340 (by kernel_rfl) g cur.size (by have hg':w.drew.heap[g]?=some (.cells cur 5 (0,0)):=hg;simp[World.shape?,hg']) text.data.toList (by intro e;rw[e]at hlen;simp at hlen;omega) (by omega) (by unfold maxLen at hcm;omega) (fun j x hx=>by
    have:=hown.cells (g:=g) rfl j (.int .u8 x.toNat) (by simp only[Lib.strCells,List.getElem?_map,hx,Option.map_some]);exact this)
   rw[hlen]at this;exact this
  have HGB:=h! (show g≠b from(show Own w B 5 1 (.slice (some ⟨g,0,none⟩) text.size cap) (Lib.strCells text)from⟨_,hown⟩).notBlk hbk (by decide) g rfl);clear hbk hown hnil hp hcs htake hg hlen htx hl hs hUSn;go_enter Tryz.func191,Tryz.ntmps191
  go_wp2_with fail
  obtain⟨wd,hwd⟩:∃ wd,wd=w.drew:=⟨_,rfl⟩;rw[<- hwd]at c1 hSD;have hUS:=hUS wd hwd;have hbd:Below B w wd:=by rw[hwd];exact(Below.refl _ _).drew
  refine r! (fun W=>Kept (fun x=>x=b) wd W/\Below B w W) (by rw[<- hwd];exact⟨Kept.refl _ _,hbd⟩) ?_;rw[<- hwd];have HBD:=h! hbd;have h1:∀ W,(Kept (fun x=>x=b) wd W/\Below B w W)->W.cell? ⟨b,1,none⟩=some (.slice (some ⟨g,0,none⟩) text.size cap):=fun W h=>(World.cell?_of_block (h.1.block b rfl)).trans c1;clear hwd c1 hbd;(refine WalkN.tk [0,1,2,3,5,6,7,8,9] ?_;(iterate 9 (refine c! ?_));refine TkN.n ?_)
  refine o! 4 ?_;refine b! ?_;intro K hK;go_simp;refine hK.out _ _ ⟨Kept.refl _ _,HBD.out⟩ ?_;clear hK;try simp only[Act.put,pA,pZ,pS]
  refine o! 10 ?_;refine b! ?_;intro K hK;go_simp;have hfin:Below B w (wd.freeze ⟨g,0,none⟩ text.size):=Lib.below_freeze HBD.out (p:=⟨g,0,none⟩) hbg _;refine hK.out _ _ ⟨kept_freeze (Kept.refl _ _) (fun e=>HGB.out e) _,hfin⟩ ?_;clear hK;try simp only[Act.put,pA,pZ,pS]
  refine t! 11 ?_
  refine d! ?_;have HF:=h! hfin;clear h1 hfin;go_wp2_with fail
  go_ret
  exact⟨rfl,HF.out⟩
end Go.Proofs.YtlhaghoajpglaaaGreat
