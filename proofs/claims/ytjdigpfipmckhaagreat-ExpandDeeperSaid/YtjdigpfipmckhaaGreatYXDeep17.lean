/- Lemmas for the claim, no condition. -/
import Derived.Test.YtjdigpfipmckhaaGreatYXDeep0
import Derived.Test.YtjdigpfipmckhaaGreatYXDeep16
import Derived.Test.YtjdigpfipmckhaaGreatYXDeep14
import Derived.Test.YtjdigpfipmckhaaGreatYXDeep13
import Derived.Test.YtjdigpfipmckhaaGreatYXDeep11
import Derived.Test.YtjdigpfipmckhaaGreatYXDeep12
import Derived.Test.YtjdigpfipmckhaaGreatYXDeep5
import Derived.Test.YtjdigpfipmckhaaGreatYXDeep3
import Derived.Test.YtjdigpfipmckhaaGreatYXDeep10
namespace Go.Proofs.YtjdigpfipmckhaaGreat
open Go Go.RowKit Go.Maps
structure CaseW (w W:World)(cb:Nat)(ts:List TyS)(tv lv sv:Value)(l:List Tup)(shut:List R2)(p s:P3):Prop where
 X:Below w.heap.size w W
 B:Blk W cb (caseC tv lv sv p s) 67
 Y:TysAt (· < W.heap.size) W ts tv
 L:Sl (· < W.heap.size) W 6 lv (tuCs l)
 V:Sl (· < W.heap.size) W 2 sv (shut.flatMap r2C)
 good:GoodS ts
 lok:∀ t∈l,t.Ok/\wrN ts t=0
 len:l.length<=24
 sok:∀ r∈shut,r.Ok
 slen:shut.length<=1
 pok:p.Ok
 sOk:s.Ok
section
variable {w W W' : World} {cb : Nat} {ts : List TyS} {tv lv sv : Value} {l : List Tup} {shut : List R2} {p s : P3}
theorem CaseW.up (h:CaseW w W cb ts tv lv sv l shut p s)(hx:Ext W W'):CaseW w W' cb ts tv lv sv l shut p s :=
 ⟨h.X.trans (Below.mono hx h.X.size),h.B.below hx,h.Y.up hx,(h.L.same (Same.below hx)).mono fun _ hb=>Nat.lt_of_lt_of_le hb hx.size,(h.V.same (Same.below hx)).mono fun _ hb=>Nat.lt_of_lt_of_le hb hx.size,h.good,h.lok,h.len,h.sok,h.slen,h.pok,h.sOk⟩
end
def FineN (K:Nat)(n:NT):Prop:=∀ m∈n.pre,m.p.Ok/\(∀ s∈m.subs,s.Ok)/\m.subs.length<=K
theorem FineN.ok {K:Nat} {n:NT} (h:FineN K n):n.Ok:=fun m hm=>⟨(h m hm).1,(h m hm).2.1⟩
theorem FineN.lvs {K:Nat} {n:NT} (h:FineN K n):n.lvs.length<=n.sz*K:=by
 rw[lvs_pre,<- pre_len n]
 exact flatN_len lfE K n.pre fun x hx=>by
  unfold lfE;split
  ·exact(h x hx).2.2
  ·simp
theorem FineN.mk' {K:Nat} {k:Int} {p:P3} {subs:List P3} {ps:List NT} (hp:p.Ok)(hs:∀ s∈subs,s.Ok)(hl:subs.length<=K)(h:∀ x∈ps,FineN K x):FineN K (.mk k p subs ps):=by
 intro m hm;rw[NT.pre]at hm;rcases List.mem_cons.1 hm with rfl | hm
 ·exact⟨hp,hs,hl⟩
 ·obtain⟨x,hx,hm⟩:=preL_mem.1 hm;exact h x hx m hm
theorem ruleE_fine {T:List Tup} {f:P3->NT} (hf:∀ q,q.Ok->FineN T.length (f q))(hT:∀ t∈T,t.s.Ok)(p:P3)(hp:p.Ok)(r:RT):r.Ok->FineN T.length (ruleE T f p r):=by
 induction r using RT.ind with
 | h r ih =>
  intro hr;have hr':=hr;obtain⟨k,a,b,ps⟩:=r;rw[RT.Ok]at hr';obtain⟨-,ha,hb,hps⟩:=hr';rw[okL_mem]at hps
  have hso:∀ q:P3,∀ s∈subsOf T q,s.Ok:=fun q s hs=>by
   obtain⟨t,ht,-,rfl⟩:=subsOf_mem hs;exact hT t ht
  rw[ruleE_mk];refine FineN.mk' hp (fun s hs=>?_) ?_ fun x hx=>?_
  ·split at hs
   ·exact hso p s hs
   ·cases hs
  ·split
   ·exact subsOf_few T p
   ·simp
  ·rcases List.mem_append.1 hx with hx | hx
   ·unfold headE at hx;split at hx
    ·obtain rfl:=List.mem_singleton.1 hx;exact hf _ ⟨hp.1,hp.2.1,by show a.size<=_;unfold maxLen;omega⟩
    ·split at hx
     ·obtain⟨q,hq,rfl⟩:=List.mem_map.1 hx;obtain⟨y,hy,-,rfl⟩:=viaOf_has.1 hq;have:=hso _ y hy;exact hf _ ⟨this.1,this.2.1,by show b.size<=_;unfold maxLen;omega⟩
     ·cases hx
   ·obtain⟨q,hq,rfl⟩:=List.mem_map.1 hx;exact ih q hq (hps q hq)
theorem treeE_fine {ts:List TyS} {T:List Tup} {shut:List R2} (hr:∀ x∈refsOf ts,x.2.Ok)(hT:∀ t∈T,t.s.Ok):∀ (d:Nat)(p:P3),p.Ok->FineN T.length (treeE ts T shut d p)
 | 0,p,hp=>by
  rw[treeE];exact FineN.mk' hp (fun s hs=>by cases hs) (by simp) fun x hx=>by cases hx
 | d+1,p,hp=>by
  rw[treeE];split
  ·next r h=>exact ruleE_fine (fun q hq=>treeE_fine hr hT d q hq) hT p hp r (hr _ (ruleOf_mem h))
  ·exact FineN.mk' hp (fun s hs=>by cases hs) (by simp) fun x hx=>by cases hx
theorem CaseW.tree {w W:World} {cb:Nat} {ts:List TyS} {tv lv sv:Value} {l:List Tup} {shut:List R2} {p s:P3} (h:CaseW w W cb ts tv lv sv l shut p s) {T:List Tup} (hT:SetT l T):TreeArg ts T shut p:=by
 have hf:=GoodS.fine h.good;have hbk:=hf.bk;exact TreeArg.of hf.chk hf.ok (by have:=schB_bk ts;omega) (by have:=(names_bk ts).1;omega) (by have:=(names_bk ts).2;omega) hT (by have:=hT.len;have:=h.len;omega) (fun t ht=>(h.lok t ((hT.mem t).1 ht).1).1) h.pok h.sok
theorem UpP.nodup' {l:List P3} (h:UpP l):l.Nodup:=List.Pairwise.imp (fun {a b} h e=>by subst e;have:=ltP_asym h;rw[h]at this;cases this) h
set_option maxRecDepth 100000 in
set_option maxHeartbeats 20000000 in
theorem deeperLaw_any (l0:List UInt8)(v:Value)(a:Nat)(ha:a<256)(m:Nat)(hm:m<256)(w:World)(h:Sl (· < w.heap.size) w 1 v (bc l0)):Calls Tryz.prog 7 #[v,.int .u8 a,.int .u8 m] w fun e w'=>e = .returned (.bool true)/\Below w.heap.size w w':=by
 have HF:=h! (fixed28_any w);have HSL:=h! h;have HA:=h! ha;have HM:=h! hm;obtain⟨ao,ln,c,rfl,hln,-,hcm⟩:=h.len;rw[bc_length,Nat.mul_one]at hln;subst hln;clear h ha hm;go_enter Tryz.func7,Tryz.ntmps7
 go_wp2_with fail
 refine HF.out.mono ?_;rintro e w1 ⟨rfl,hb1⟩;have HB1:=h! (show Below w.heap.size w w1 from hb1);clear hb1 HF;by_cases hlen:(300:Int)<(l0.length:Int)
 ·go_wp2_with fail
  go_ret
  exact⟨rfl,HB1.out⟩
 have hx12:=Ext.alloc w1 (.cells #[.slice ao l0.length c,.int .i64 0] 71);have HT2:=h! (show Tp (w1.alloc (.cells #[.slice ao l0.length c,.int .i64 0] 71)) w1.heap.size from⟨_,l0,0,Nat.zero_le _,(HSL.out.same (Same.below (HB1.out.trans (hx12.mono HB1.out.size)))).mono fun b (hb:b<w.heap.size)=>Nat.lt_of_lt_of_le hb HB1.out.size,Blk.made _ _ _⟩);have HMK:=h! (mkOne_any _ _ HT2.out);have HB2:=h! (show Below w.heap.size w _ from HB1.out.trans (hx12.mono HB1.out.size));have HZ1:=h! (show w.heap.size<=w1.heap.size from HB1.out.size);clear hx12;go_wp2_with fail
 obtain⟨w2,hw2⟩:∃ x,x=w1.alloc (.cells #[.slice ao l0.length c,.int .i64 0] 71):=⟨_,rfl⟩;rw[<- hw2]at HT2 HMK HB2 ⊢;clear hw2;generalize w1.heap.size=tp at *;refine HMK.out.mono ?_;rintro e w3 ⟨ts,tv,lv,sv,l,shut,p,s,rfl,hgs,hty,hl,hv,hlo,hll,hso,hsl,hpo,hs,hkt⟩;obtain⟨aot,ct,rfl,-,-,-⟩:=hty.rows;obtain⟨aol,cl,rfl,-⟩:=Sl.rows tuC_length (by decide) (show Sl _ w3 6 lv (l.flatMap tuC)from hl);obtain⟨aos,cs,rfl,-⟩:=Sl.rows r2C_length (by decide) hv;have x34:=Ext.alloc w3 (.cells (caseC (.slice aot ts.length ct) (.slice aol l.length cl) (.slice aos shut.length cs) p s) 67)
 have HC:=h! (show CaseW w (w3.alloc (.cells (caseC (.slice aot ts.length ct) (.slice aol l.length cl) (.slice aos shut.length cs) p s) 67)) w3.heap.size ts (.slice aot ts.length ct) (.slice aol l.length cl) (.slice aos shut.length cs) l shut p s from by
  have hm:∀ b,(w2.heap.size<=b/\b<w3.heap.size)->b<(w3.alloc (.cells (caseC (.slice aot ts.length ct) (.slice aol l.length cl) (.slice aos shut.length cs) p s) 67)).heap.size:=fun b hb=>Nat.lt_of_lt_of_le hb.2 x34.size
  exact⟨HB2.out.trans (Below.trans (hkt.below fun b hb=>⟨Nat.lt_of_lt_of_le hb HB2.out.size,by have:=HZ1.out;omega⟩) (x34.mono (by have:=hkt.size;have:=HB2.out.size;omega))),Blk.made _ _ _,
   (hty.same fun b hb=>x34.block b hb.2).mono hm,(hl.same fun b hb=>x34.block b hb.2).mono hm,(hv.same fun b hb=>x34.block b hb.2).mono hm,hgs,hlo,hll,hso,hsl,hpo,hs⟩)
 have hcb:=HC.out.B.cells;obtain⟨T,hT⟩:=set_ex l;have HST:=h! hT;have HTA:=h! (HC.out.tree hT);have HLL:=h! (And.intro hll (fun t ht=>(hlo t ht).1));have HTL:=h! (show T.length<=24 from Nat.le_trans hT.len hll);clear hT hgs hty hl hv hlo hll hso hsl hpo hs hkt x34 HMK HT2 HB2 HB1 HSL hlen HZ1;obtain⟨d,hd3,hdq⟩:∃ d:Nat,d<=3/\(a:Int).tmod 4=(d:Int):=⟨a % 4,by omega,by rw[Int.tmod_eq_emod_of_nonneg (by omega)];simp⟩;have hd0:IntKind.u8.wrap (d:Int)=(d:Int):=IntWalk.u8_in _ (by omega);have hd1:IntKind.i64.wrap (d:Int)=(d:Int):=IntWalk.i64_in _ (by omega);have HD3:=h! hd3;go_wp2_with fail
 obtain⟨w4,hw4⟩:∃ x,x=w3.alloc (.cells (caseC (.slice aot ts.length ct) (.slice aol l.length cl) (.slice aos shut.length cs) p s) 67):=⟨_,rfl⟩;try rw[<- hw4]at HC hcb
 try rw[<- hw4]
 clear hw4;generalize w3.heap.size=cb at *;clear hcb;clear hdq hd0 hd1 hd3;have hdd:d<=8:=by have:=HD3.out;omega
 obtain⟨wd,hwd⟩:∃ wd,Hid (wd=w4.drew):=⟨_,h! rfl⟩;have hxd:=h! (show Ext w4 wd from by rw[hwd.out];exact Ext.drew _);apply Code.wp_mono (Q:=JoinN (β:=Nat) wd (TreeP ts T shut p d 300 (.int .i64 0) (.int .i64 10)) _) ?rest5 ?reg5
 case reg5 =>
  have hE:=h! (Ext.refl wd);refine region_walkN (Ext wd) (by rw[<- hwd.out];exact Ext.refl _) (by kernel_rfl) (by kernel_rfl) (fun _ _ d _ _ h=>by cases h.1) ?_;rw[<- hwd.out];have hc:∀ W,Ext wd W->∀ i,W.cell? ⟨cb,i,none⟩=(#[.slice aot ts.length ct,.slice aol l.length cl,.slice aos shut.length cs,.string p.t,.string p.i,.string p.r,.string s.t,.string s.i,.string s.r]:Array Value)[i]?:=fun W h=>((HC.out.up hxd.out).up h).B.cells;have HNB:=h! (fun W (hW:Ext wd W)=>bookT_any HST.out (.slice aol l.length cl) W ((HC.out.up hxd.out).up hW).L (by have:=HLL.out.1;omega) HLL.out.2);have HWK:=h! (fun W b (hW:Ext wd W) (hB:BookAt W b T)=>treeG_any ts (.slice aot ts.length ct) b T shut (.slice aos shut.length cs) p d 300 W ((HC.out.up hxd.out).up hW).Y HTA.out hB ((HC.out.up hxd.out).up hW).V hdd (by decide));unfold pV at HWK;(refine WalkN.tk [0,1,2,3,6,7,8,9,10,11] ?_;(iterate 10 ((refine TkN.c _ ?_ (by simp only[gA,gS,gZ];rfl) (by kernel_rfl) (by kernel_rfl) (by rfl) (fun W hW=>?_) ?_;rotate_left;· (go_simp;try with_reducible rfl));simp only[Act.put,pA,pZ,pS]));refine TkN.n ?_)
  clear hc;refine WalkN.two 4 16 (by kernel_rfl) ?_ ?_;refine⟨_,(by simp only[gA,gS,gZ];rfl),by rfl,fun K hK=>?_⟩;go_simp;refine(HNB.out wd hE.out).mono ?_;rintro e u1 ⟨bk,rfl,hB0,hx0⟩;have hX0:=Ext.trans hE.out hx0;refine hK.out _ _ hX0 ?_;clear hK;have HBK:=h! hB0;have hE:=h! hX0;clear hx0 hX0 hB0;((refine WalkN.take 5 _ ?_ (by simp only[gA,gS,gZ];rfl) (by kernel_rfl) (by kernel_rfl) (by rfl) (fun W hW=>?_) ?_;rotate_left;· (go_simp;try with_reducible rfl));simp only[Act.put,pA,pZ,pS])
  refine WalkN.two 12 16 (by kernel_rfl) ?_ ?_;refine⟨_,(by simp only[gA,gS,gZ];rfl),by rfl,fun K hK=>?_⟩;go_simp;refine(HWK.out u1 bk hE.out HBK.out).mono ?_;rintro e u2 ⟨hx1,n,so,sc,qo,qc,ev,hP1,rfl,hG1⟩;have hX1:=Ext.trans hE.out hx1;refine hK.out _ _ hX1 ?_;clear hK;have HR:=h! (show NtAt (fun x=>wd.heap.size<=x/\x<u2.heap.size) u2 n (.slice so n.subs.length sc,.slice qo n.ps.length qc)from hG1.mono fun x hx=>⟨Nat.le_trans hE.out.size hx.1,hx.2⟩);have HP:=h! hP1;have HBK:=h! (HBK.out.ext hx1);have hE:=h! hX1;clear hx1 hX1 hP1 hG1;((refine WalkN.take 13 _ ?_ (by simp only[gA,gS,gZ];rfl) (by kernel_rfl) (by kernel_rfl) (by rfl) (fun W hW=>?_) ?_;rotate_left;· (go_simp;try with_reducible rfl));simp only[Act.put,pA,pZ,pS])
  ((refine WalkN.take 14 _ ?_ (by simp only[gA,gS,gZ];rfl) (by kernel_rfl) (by kernel_rfl) (by rfl) (fun W hW=>?_) ?_;rotate_left;· (go_simp;try with_reducible rfl));simp only[Act.put,pA,pZ,pS])
  ((refine WalkN.take 15 _ ?_ (by simp only[gA,gS,gZ];rfl) (by kernel_rfl) (by kernel_rfl) (by rfl) (fun W hW=>?_) ?_;rotate_left;· (go_simp;try with_reducible rfl));simp only[Act.put,pA,pZ,pS])
  refine WalkN.one 16 (by kernel_rfl) ?_;refine⟨_,(by simp only[gA,gS,gZ];rfl),by rfl,fun K hK=>?_⟩;go_simp;obtain⟨bg,hbg⟩:∃ x,x=u2.heap.size:=⟨_,rfl⟩;rw[<- hbg];have hA2:=Ext.alloc u2 (.cells #[.int .i64 0,.string ⟨#[]⟩,.string ⟨#[]⟩,.string ⟨#[]⟩,.slice none 0 0,.slice none 0 0] 55);have hO2:Blk (u2.alloc (.cells #[.int .i64 0,.string ⟨#[]⟩,.string ⟨#[]⟩,.string ⟨#[]⟩,.slice none 0 0,.slice none 0 0] 55)) bg #[.int .i64 0,.string ⟨#[]⟩,.string ⟨#[]⟩,.string ⟨#[]⟩,.slice none 0 0,.slice none 0 0] 55:=by rw[hbg];exact Blk.made _ _ _
  have hX2:=Ext.trans hE.out hA2;have HBG:=h! (show wd.heap.size<=bg from by have:=hE.out.size;omega);have HBK:=h! (HBK.out.ext hA2);have HR:=h! (show NtAt (fun x=>x≠bg/\wd.heap.size<=x/\x<(u2.alloc (.cells #[.int .i64 0,.string ⟨#[]⟩,.string ⟨#[]⟩,.string ⟨#[]⟩,.slice none 0 0,.slice none 0 0] 55)).heap.size) (u2.alloc (.cells #[.int .i64 0,.string ⟨#[]⟩,.string ⟨#[]⟩,.string ⟨#[]⟩,.slice none 0 0,.slice none 0 0] 55)) n (.slice so n.subs.length sc,.slice qo n.ps.length qc)from(HR.out.same fun x hx=>hA2.block x hx.2).mono fun x hx=>⟨fun e=>by have:=hx.2;omega,hx.1,Nat.lt_of_lt_of_le hx.2 hA2.size⟩);refine hK.out _ _ hX2 ?_;clear hK hbg hA2;generalize u2.alloc (.cells #[.int .i64 0,.string ⟨#[]⟩,.string ⟨#[]⟩,.string ⟨#[]⟩,.slice none 0 0,.slice none 0 0] 55)=u3 at *;have hE:=h! hX2;have HG:=h! hO2;clear hO2 hX2;rotate_left
  refine⟨_,(by simp only[gA,gS,gZ];rfl),by rfl,fun K hK=>?_⟩;go_simp;obtain⟨bg,hbg⟩:∃ x,x=u1.heap.size:=⟨_,rfl⟩;rw[<- hbg];have hA1:=Ext.alloc u1 (.cells #[.int .i64 0,.string ⟨#[]⟩,.string ⟨#[]⟩,.string ⟨#[]⟩,.slice none 0 0,.slice none 0 0] 55);have hO1:Blk (u1.alloc (.cells #[.int .i64 0,.string ⟨#[]⟩,.string ⟨#[]⟩,.string ⟨#[]⟩,.slice none 0 0,.slice none 0 0] 55)) bg #[.int .i64 0,.string ⟨#[]⟩,.string ⟨#[]⟩,.string ⟨#[]⟩,.slice none 0 0,.slice none 0 0] 55:=by rw[hbg];exact Blk.made _ _ _
  have hX1:=Ext.trans hE.out hA1;have HBG:=h! (show wd.heap.size<=bg from by have:=hE.out.size;omega);have HBK:=h! (HBK.out.ext hA1);refine hK.out _ _ hX1 ?_;clear hK hbg hA1;generalize u1.alloc (.cells #[.int .i64 0,.string ⟨#[]⟩,.string ⟨#[]⟩,.string ⟨#[]⟩,.slice none 0 0,.slice none 0 0] 55)=u2 at *;have hE:=h! hX1;have HG:=h! hO1;clear hO1 hX1;refine WalkN.one 12 (by kernel_rfl) ?_;refine⟨_,(by simp only[gA,gS,gZ];rfl),by rfl,fun K hK=>?_⟩;go_simp;refine(HWK.out u2 bk hE.out HBK.out).mono ?_;rintro e u3 ⟨hx2,n,so,sc,qo,qc,ev,hP2,rfl,hG2⟩;have hX2:=Ext.trans hE.out hx2;refine hK.out _ _ hX2 ?_;clear hK;have HR:=h! (show NtAt (fun x=>x≠bg/\wd.heap.size<=x/\x<u3.heap.size) u3 n (.slice so n.subs.length sc,.slice qo n.ps.length qc)from hG2.mono fun x hx=>⟨fun e=>by have:=HG.out.lt;have:=hx.1;omega,Nat.le_trans hE.out.size hx.1,hx.2⟩);have HG:=h! (HG.out.below hx2);have HP:=h! hP2;have HBK:=h! (HBK.out.ext hx2);have hE:=h! hX2;clear hx2 hX2 hP2 hG2;((refine WalkN.take 13 _ ?_ (by simp only[gA,gS,gZ];rfl) (by kernel_rfl) (by kernel_rfl) (by rfl) (fun W hW=>?_) ?_;rotate_left;· (go_simp;try with_reducible rfl));simp only[Act.put,pA,pZ,pS])
  ((refine WalkN.take 14 _ ?_ (by simp only[gA,gS,gZ];rfl) (by kernel_rfl) (by kernel_rfl) (by rfl) (fun W hW=>?_) ?_;rotate_left;· (go_simp;try with_reducible rfl));simp only[Act.put,pA,pZ,pS])
  ((refine WalkN.take 15 _ ?_ (by simp only[gA,gS,gZ];rfl) (by kernel_rfl) (by kernel_rfl) (by rfl) (fun W hW=>?_) ?_;rotate_left;· (go_simp;try with_reducible rfl));simp only[Act.put,pA,pZ,pS])
  rotate_left
  refine⟨_,(by simp only[gA,gS,gZ];rfl),by rfl,fun K hK=>?_⟩;go_simp;obtain⟨bg,hbg⟩:∃ x,x=wd.heap.size:=⟨_,rfl⟩;rw[<- hbg];have hA0:=Ext.alloc wd (.cells #[.int .i64 0,.string ⟨#[]⟩,.string ⟨#[]⟩,.string ⟨#[]⟩,.slice none 0 0,.slice none 0 0] 55);have hO0:Blk (wd.alloc (.cells #[.int .i64 0,.string ⟨#[]⟩,.string ⟨#[]⟩,.string ⟨#[]⟩,.slice none 0 0,.slice none 0 0] 55)) bg #[.int .i64 0,.string ⟨#[]⟩,.string ⟨#[]⟩,.string ⟨#[]⟩,.slice none 0 0,.slice none 0 0] 55:=by rw[hbg];exact Blk.made _ _ _
  have hX0:=Ext.trans hE.out hA0;have HBG:=h! (show wd.heap.size<=bg from by have:=hE.out.size;omega);refine hK.out _ _ hX0 ?_;clear hK hbg hA0;generalize wd.alloc (.cells #[.int .i64 0,.string ⟨#[]⟩,.string ⟨#[]⟩,.string ⟨#[]⟩,.slice none 0 0,.slice none 0 0] 55)=u1 at *;have hE:=h! hX0;have HG:=h! hO0;clear hO0 hX0;refine WalkN.one 4 (by kernel_rfl) ?_;refine⟨_,(by simp only[gA,gS,gZ];rfl),by rfl,fun K hK=>?_⟩;go_simp;refine(HNB.out u1 hE.out).mono ?_;rintro e u2 ⟨bk,rfl,hB1,hx1⟩;have hX1:=Ext.trans hE.out hx1;refine hK.out _ _ hX1 ?_;clear hK;have HBK:=h! hB1;have HG:=h! (HG.out.below hx1);have hE:=h! hX1;clear hx1 hX1 hB1;((refine WalkN.take 5 _ ?_ (by simp only[gA,gS,gZ];rfl) (by kernel_rfl) (by kernel_rfl) (by rfl) (fun W hW=>?_) ?_;rotate_left;· (go_simp;try with_reducible rfl));simp only[Act.put,pA,pZ,pS])
  refine WalkN.one 12 (by kernel_rfl) ?_;refine⟨_,(by simp only[gA,gS,gZ];rfl),by rfl,fun K hK=>?_⟩;go_simp;refine(HWK.out u2 bk hE.out HBK.out).mono ?_;rintro e u3 ⟨hx2,n,so,sc,qo,qc,ev,hP2,rfl,hG2⟩;have hX2:=Ext.trans hE.out hx2;refine hK.out _ _ hX2 ?_;clear hK;have HR:=h! (show NtAt (fun x=>x≠bg/\wd.heap.size<=x/\x<u3.heap.size) u3 n (.slice so n.subs.length sc,.slice qo n.ps.length qc)from hG2.mono fun x hx=>⟨fun e=>by have:=HG.out.lt;have:=hx.1;omega,Nat.le_trans hE.out.size hx.1,hx.2⟩);have HG:=h! (HG.out.below hx2);have HP:=h! hP2;have HBK:=h! (HBK.out.ext hx2);have hE:=h! hX2;clear hx2 hX2 hP2 hG2;((refine WalkN.take 13 _ ?_ (by simp only[gA,gS,gZ];rfl) (by kernel_rfl) (by kernel_rfl) (by rfl) (fun W hW=>?_) ?_;rotate_left;· (go_simp;try with_reducible rfl));simp only[Act.put,pA,pZ,pS])
  ((refine WalkN.take 14 _ ?_ (by simp only[gA,gS,gZ];rfl) (by kernel_rfl) (by kernel_rfl) (by rfl) (fun W hW=>?_) ?_;rotate_left;· (go_simp;try with_reducible rfl));simp only[Act.put,pA,pZ,pS])
  ((refine WalkN.take 15 _ ?_ (by simp only[gA,gS,gZ];rfl) (by kernel_rfl) (by kernel_rfl) (by rfl) (fun W hW=>?_) ?_;rotate_left;· (go_simp;try with_reducible rfl));simp only[Act.put,pA,pZ,pS])
  rotate_left
  all_goals
   refine WalkN.one 17 (by kernel_rfl) ?_;refine⟨_,(by simp only[gA,gS,gZ];rfl),by rfl,fun K hK=>?_⟩;have hg:=HG.out.cells;have hf:=HG.out.free;go_simp;have hS3:=((((((HG.out.set_to (cs':=#[.int .i64 n.k,.string ⟨#[]⟩,.string ⟨#[]⟩,.string ⟨#[]⟩,.slice none 0 0,.slice none 0 0]) 0 (.int .i64 n.k) rfl).set_to (cs':=#[.int .i64 n.k,.string n.p.t,.string ⟨#[]⟩,.string ⟨#[]⟩,.slice none 0 0,.slice none 0 0]) 1 (.string n.p.t) rfl).set_to (cs':=#[.int .i64 n.k,.string n.p.t,.string n.p.i,.string ⟨#[]⟩,.slice none 0 0,.slice none 0 0]) 2 (.string n.p.i) rfl).set_to (cs':=#[.int .i64 n.k,.string n.p.t,.string n.p.i,.string n.p.r,.slice none 0 0,.slice none 0 0]) 3 (.string n.p.r) rfl).set_to (cs':=#[.int .i64 n.k,.string n.p.t,.string n.p.i,.string n.p.r,.slice so n.subs.length sc,.slice none 0 0]) 4 (.slice so n.subs.length sc) rfl).set_to (cs':=#[.int .i64 n.k,.string n.p.t,.string n.p.i,.string n.p.r,.slice so n.subs.length sc,.slice qo n.ps.length qc]) 5 (.slice qo n.ps.length qc) rfl);have hX3:Ext wd ((((((u3.setCell ⟨bg,0,none⟩ (.int .i64 n.k)).setCell ⟨bg,1,none⟩ (.string n.p.t)).setCell ⟨bg,2,none⟩ (.string n.p.i)).setCell ⟨bg,3,none⟩ (.string n.p.r)).setCell ⟨bg,4,none⟩ (.slice so n.subs.length sc)).setCell ⟨bg,5,none⟩ (.slice qo n.ps.length qc)):=Ext.put6 hE.out HBG.out _ _ _ _ _ _;have hR3:=(HR.out.same (w':=((((((u3.setCell ⟨bg,0,none⟩ (.int .i64 n.k)).setCell ⟨bg,1,none⟩ (.string n.p.t)).setCell ⟨bg,2,none⟩ (.string n.p.i)).setCell ⟨bg,3,none⟩ (.string n.p.r)).setCell ⟨bg,4,none⟩ (.slice so n.subs.length sc)).setCell ⟨bg,5,none⟩ (.slice qo n.ps.length qc))) fun x hx=>put6_other _ _ _ _ _ _ hx.1).mono (S':=fun x=>x≠bg/\wd.heap.size<=x/\x<((((((u3.setCell ⟨bg,0,none⟩ (.int .i64 n.k)).setCell ⟨bg,1,none⟩ (.string n.p.t)).setCell ⟨bg,2,none⟩ (.string n.p.i)).setCell ⟨bg,3,none⟩ (.string n.p.r)).setCell ⟨bg,4,none⟩ (.slice so n.subs.length sc)).setCell ⟨bg,5,none⟩ (.slice qo n.ps.length qc)).heap.size) fun x hx=>⟨hx.1,hx.2.1,by simpa using hx.2.2⟩;refine hK.out _ _ hX3 ?_;clear hK hg hf;generalize (((((u3.setCell ⟨bg,0,none⟩ (.int .i64 n.k)).setCell ⟨bg,1,none⟩ (.string n.p.t)).setCell ⟨bg,2,none⟩ (.string n.p.i)).setCell ⟨bg,3,none⟩ (.string n.p.r)).setCell ⟨bg,4,none⟩ (.slice so n.subs.length sc)).setCell ⟨bg,5,none⟩ (.slice qo n.ps.length qc)=u4 at *;((refine WalkN.take 18 _ ?_ (by simp only[gA,gS,gZ];rfl) (by kernel_rfl) (by kernel_rfl) (by rfl) (fun W hW=>?_) ?_;rotate_left;· (go_simp;try with_reducible rfl));simp only[Act.put,pA,pZ,pS])
   refine WalkN.done (by kernel_rfl) ?_;obtain⟨gk,-⟩:∃ z:Nat,z=0:=⟨_,rfl⟩;exact⟨rfl,gk,bk,bg,so,sc,qo,qc,n,ev,rfl,HP.out,hX3,HBG.out,hS3,hR3⟩
 rintro e _ W5 ⟨rfl,gk5,bk5,bg5,so5,sc5,qo5,qc5,n5,ev5,rfl,hP5,hX,hbg,hblk,hgr⟩;try dsimp only
 have X5:=h! (show Ext w4 W5 from Ext.trans hxd.out hX);have HC:=h! (HC.out.up X5.out);have B5:=h! hblk;have N5:=h! (hgr.mono (S':=(· < W5.heap.size)) fun x hx=>hx.2.2);have P5:=h! hP5;clear hX hbg hblk hgr hxd hwd hP5;go_wp2_with fail
 obtain⟨k,hk1,hkq⟩:∃ k:Nat,k<=1/\(m:Int).tmod 2=(k:Int):=⟨m % 2,by omega,by rw[Int.tmod_eq_emod_of_nonneg (by omega)];simp⟩;have hk0:IntKind.u8.wrap (k:Int)=(k:Int):=IntWalk.u8_in _ (by omega);have hk2:IntKind.i64.wrap (k:Int)=(k:Int):=IntWalk.i64_in _ (by omega);obtain⟨d2,hd2⟩:∃ d2:Nat,d2=d+1+k:=⟨_,rfl⟩;have hs1:IntKind.i64.wrap ((d:Int)+1)=(d:Int)+1:=IntWalk.i64_in _ (by have:=HD3.out;omega);have hs2:IntKind.i64.wrap ((d:Int)+1+(k:Int))=(d2:Int):=by rw[hd2];rw[show(d:Int)+1+(k:Int)=((d+1+k:Nat):Int)from by omega];exact IntWalk.i64_in _ (by have:=HD3.out;omega)
 have HD2:=h! (show d<=d2/\d2<=8 from by have:=HD3.out;omega);clear hdd hd2 hk1;obtain⟨wd,hwd⟩:∃ wd,Hid (wd=W5.drew):=⟨_,h! rfl⟩;have hxd:=h! (show Ext W5 wd from by rw[hwd.out];exact Ext.drew _);apply Code.wp_mono (Q:=JoinN (β:=Nat) wd (TreeP ts T shut p d2 300 (.int .i64 0) (.int .i64 10)) _) ?rest6 ?reg6
 case reg6 =>
  have hE:=h! (Ext.refl wd);refine region_walkN (Ext wd) (by rw[<- hwd.out];exact Ext.refl _) (by kernel_rfl) (by kernel_rfl) (fun _ _ d _ _ h=>by cases h.1) ?_;rw[<- hwd.out];have hc:∀ W,Ext wd W->∀ i,W.cell? ⟨cb,i,none⟩=(#[.slice aot ts.length ct,.slice aol l.length cl,.slice aos shut.length cs,.string p.t,.string p.i,.string p.r,.string s.t,.string s.i,.string s.r]:Array Value)[i]?:=fun W h=>((HC.out.up hxd.out).up h).B.cells;have HNB:=h! (fun W (hW:Ext wd W)=>bookT_any HST.out (.slice aol l.length cl) W ((HC.out.up hxd.out).up hW).L (by have:=HLL.out.1;omega) HLL.out.2);have HWK:=h! (fun W b (hW:Ext wd W) (hB:BookAt W b T)=>treeG_any ts (.slice aot ts.length ct) b T shut (.slice aos shut.length cs) p d2 300 W ((HC.out.up hxd.out).up hW).Y HTA.out hB ((HC.out.up hxd.out).up hW).V HD2.out.2 (by decide));unfold pV at HWK;(refine WalkN.tk [0,1,2,3,6,7,8,9,10,11,12,13,14,15,16] ?_;(iterate 15 ((refine TkN.c _ ?_ (by simp only[gA,gS,gZ];rfl) (by kernel_rfl) (by kernel_rfl) (by rfl) (fun W hW=>?_) ?_;rotate_left;· (go_simp;try with_reducible rfl));simp only[Act.put,pA,pZ,pS]));refine TkN.n ?_)
  clear hc;refine WalkN.two 4 21 (by kernel_rfl) ?_ ?_;refine⟨_,(by simp only[gA,gS,gZ];rfl),by rfl,fun K hK=>?_⟩;go_simp;refine(HNB.out wd hE.out).mono ?_;rintro e u1 ⟨bk,rfl,hB0,hx0⟩;have hX0:=Ext.trans hE.out hx0;refine hK.out _ _ hX0 ?_;clear hK;have HBK:=h! hB0;have hE:=h! hX0;clear hx0 hX0 hB0;((refine WalkN.take 5 _ ?_ (by simp only[gA,gS,gZ];rfl) (by kernel_rfl) (by kernel_rfl) (by rfl) (fun W hW=>?_) ?_;rotate_left;· (go_simp;try with_reducible rfl));simp only[Act.put,pA,pZ,pS])
  refine WalkN.two 17 21 (by kernel_rfl) ?_ ?_;refine⟨_,(by simp only[gA,gS,gZ];rfl),by rfl,fun K hK=>?_⟩;go_simp;refine(HWK.out u1 bk hE.out HBK.out).mono ?_;rintro e u2 ⟨hx1,n,so,sc,qo,qc,ev,hP1,rfl,hG1⟩;have hX1:=Ext.trans hE.out hx1;refine hK.out _ _ hX1 ?_;clear hK;have HR:=h! (show NtAt (fun x=>wd.heap.size<=x/\x<u2.heap.size) u2 n (.slice so n.subs.length sc,.slice qo n.ps.length qc)from hG1.mono fun x hx=>⟨Nat.le_trans hE.out.size hx.1,hx.2⟩);have HP:=h! hP1;have HBK:=h! (HBK.out.ext hx1);have hE:=h! hX1;clear hx1 hX1 hP1 hG1;((refine WalkN.take 18 _ ?_ (by simp only[gA,gS,gZ];rfl) (by kernel_rfl) (by kernel_rfl) (by rfl) (fun W hW=>?_) ?_;rotate_left;· (go_simp;try with_reducible rfl));simp only[Act.put,pA,pZ,pS])
  ((refine WalkN.take 19 _ ?_ (by simp only[gA,gS,gZ];rfl) (by kernel_rfl) (by kernel_rfl) (by rfl) (fun W hW=>?_) ?_;rotate_left;· (go_simp;try with_reducible rfl));simp only[Act.put,pA,pZ,pS])
  ((refine WalkN.take 20 _ ?_ (by simp only[gA,gS,gZ];rfl) (by kernel_rfl) (by kernel_rfl) (by rfl) (fun W hW=>?_) ?_;rotate_left;· (go_simp;try with_reducible rfl));simp only[Act.put,pA,pZ,pS])
  refine WalkN.one 21 (by kernel_rfl) ?_;refine⟨_,(by simp only[gA,gS,gZ];rfl),by rfl,fun K hK=>?_⟩;go_simp;obtain⟨bg,hbg⟩:∃ x,x=u2.heap.size:=⟨_,rfl⟩;rw[<- hbg];have hA2:=Ext.alloc u2 (.cells #[.int .i64 0,.string ⟨#[]⟩,.string ⟨#[]⟩,.string ⟨#[]⟩,.slice none 0 0,.slice none 0 0] 55);have hO2:Blk (u2.alloc (.cells #[.int .i64 0,.string ⟨#[]⟩,.string ⟨#[]⟩,.string ⟨#[]⟩,.slice none 0 0,.slice none 0 0] 55)) bg #[.int .i64 0,.string ⟨#[]⟩,.string ⟨#[]⟩,.string ⟨#[]⟩,.slice none 0 0,.slice none 0 0] 55:=by rw[hbg];exact Blk.made _ _ _
  have hX2:=Ext.trans hE.out hA2;have HBG:=h! (show wd.heap.size<=bg from by have:=hE.out.size;omega);have HBK:=h! (HBK.out.ext hA2);have HR:=h! (show NtAt (fun x=>x≠bg/\wd.heap.size<=x/\x<(u2.alloc (.cells #[.int .i64 0,.string ⟨#[]⟩,.string ⟨#[]⟩,.string ⟨#[]⟩,.slice none 0 0,.slice none 0 0] 55)).heap.size) (u2.alloc (.cells #[.int .i64 0,.string ⟨#[]⟩,.string ⟨#[]⟩,.string ⟨#[]⟩,.slice none 0 0,.slice none 0 0] 55)) n (.slice so n.subs.length sc,.slice qo n.ps.length qc)from(HR.out.same fun x hx=>hA2.block x hx.2).mono fun x hx=>⟨fun e=>by have:=hx.2;omega,hx.1,Nat.lt_of_lt_of_le hx.2 hA2.size⟩);refine hK.out _ _ hX2 ?_;clear hK hbg hA2;generalize u2.alloc (.cells #[.int .i64 0,.string ⟨#[]⟩,.string ⟨#[]⟩,.string ⟨#[]⟩,.slice none 0 0,.slice none 0 0] 55)=u3 at *;have hE:=h! hX2;have HG:=h! hO2;clear hO2 hX2;rotate_left
  refine⟨_,(by simp only[gA,gS,gZ];rfl),by rfl,fun K hK=>?_⟩;go_simp;obtain⟨bg,hbg⟩:∃ x,x=u1.heap.size:=⟨_,rfl⟩;rw[<- hbg];have hA1:=Ext.alloc u1 (.cells #[.int .i64 0,.string ⟨#[]⟩,.string ⟨#[]⟩,.string ⟨#[]⟩,.slice none 0 0,.slice none 0 0] 55);have hO1:Blk (u1.alloc (.cells #[.int .i64 0,.string ⟨#[]⟩,.string ⟨#[]⟩,.string ⟨#[]⟩,.slice none 0 0,.slice none 0 0] 55)) bg #[.int .i64 0,.string ⟨#[]⟩,.string ⟨#[]⟩,.string ⟨#[]⟩,.slice none 0 0,.slice none 0 0] 55:=by rw[hbg];exact Blk.made _ _ _
  have hX1:=Ext.trans hE.out hA1;have HBG:=h! (show wd.heap.size<=bg from by have:=hE.out.size;omega);have HBK:=h! (HBK.out.ext hA1);refine hK.out _ _ hX1 ?_;clear hK hbg hA1;generalize u1.alloc (.cells #[.int .i64 0,.string ⟨#[]⟩,.string ⟨#[]⟩,.string ⟨#[]⟩,.slice none 0 0,.slice none 0 0] 55)=u2 at *;have hE:=h! hX1;have HG:=h! hO1;clear hO1 hX1;refine WalkN.one 17 (by kernel_rfl) ?_;refine⟨_,(by simp only[gA,gS,gZ];rfl),by rfl,fun K hK=>?_⟩;go_simp;refine(HWK.out u2 bk hE.out HBK.out).mono ?_;rintro e u3 ⟨hx2,n,so,sc,qo,qc,ev,hP2,rfl,hG2⟩;have hX2:=Ext.trans hE.out hx2;refine hK.out _ _ hX2 ?_;clear hK;have HR:=h! (show NtAt (fun x=>x≠bg/\wd.heap.size<=x/\x<u3.heap.size) u3 n (.slice so n.subs.length sc,.slice qo n.ps.length qc)from hG2.mono fun x hx=>⟨fun e=>by have:=HG.out.lt;have:=hx.1;omega,Nat.le_trans hE.out.size hx.1,hx.2⟩);have HG:=h! (HG.out.below hx2);have HP:=h! hP2;have HBK:=h! (HBK.out.ext hx2);have hE:=h! hX2;clear hx2 hX2 hP2 hG2;((refine WalkN.take 18 _ ?_ (by simp only[gA,gS,gZ];rfl) (by kernel_rfl) (by kernel_rfl) (by rfl) (fun W hW=>?_) ?_;rotate_left;· (go_simp;try with_reducible rfl));simp only[Act.put,pA,pZ,pS])
  ((refine WalkN.take 19 _ ?_ (by simp only[gA,gS,gZ];rfl) (by kernel_rfl) (by kernel_rfl) (by rfl) (fun W hW=>?_) ?_;rotate_left;· (go_simp;try with_reducible rfl));simp only[Act.put,pA,pZ,pS])
  ((refine WalkN.take 20 _ ?_ (by simp only[gA,gS,gZ];rfl) (by kernel_rfl) (by kernel_rfl) (by rfl) (fun W hW=>?_) ?_;rotate_left;· (go_simp;try with_reducible rfl));simp only[Act.put,pA,pZ,pS])
  rotate_left
  refine⟨_,(by simp only[gA,gS,gZ];rfl),by rfl,fun K hK=>?_⟩;go_simp;obtain⟨bg,hbg⟩:∃ x,x=wd.heap.size:=⟨_,rfl⟩;rw[<- hbg];have hA0:=Ext.alloc wd (.cells #[.int .i64 0,.string ⟨#[]⟩,.string ⟨#[]⟩,.string ⟨#[]⟩,.slice none 0 0,.slice none 0 0] 55);have hO0:Blk (wd.alloc (.cells #[.int .i64 0,.string ⟨#[]⟩,.string ⟨#[]⟩,.string ⟨#[]⟩,.slice none 0 0,.slice none 0 0] 55)) bg #[.int .i64 0,.string ⟨#[]⟩,.string ⟨#[]⟩,.string ⟨#[]⟩,.slice none 0 0,.slice none 0 0] 55:=by rw[hbg];exact Blk.made _ _ _
  have hX0:=Ext.trans hE.out hA0;have HBG:=h! (show wd.heap.size<=bg from by have:=hE.out.size;omega);refine hK.out _ _ hX0 ?_;clear hK hbg hA0;generalize wd.alloc (.cells #[.int .i64 0,.string ⟨#[]⟩,.string ⟨#[]⟩,.string ⟨#[]⟩,.slice none 0 0,.slice none 0 0] 55)=u1 at *;have hE:=h! hX0;have HG:=h! hO0;clear hO0 hX0;refine WalkN.one 4 (by kernel_rfl) ?_;refine⟨_,(by simp only[gA,gS,gZ];rfl),by rfl,fun K hK=>?_⟩;go_simp;refine(HNB.out u1 hE.out).mono ?_;rintro e u2 ⟨bk,rfl,hB1,hx1⟩;have hX1:=Ext.trans hE.out hx1;refine hK.out _ _ hX1 ?_;clear hK;have HBK:=h! hB1;have HG:=h! (HG.out.below hx1);have hE:=h! hX1;clear hx1 hX1 hB1;((refine WalkN.take 5 _ ?_ (by simp only[gA,gS,gZ];rfl) (by kernel_rfl) (by kernel_rfl) (by rfl) (fun W hW=>?_) ?_;rotate_left;· (go_simp;try with_reducible rfl));simp only[Act.put,pA,pZ,pS])
  refine WalkN.one 17 (by kernel_rfl) ?_;refine⟨_,(by simp only[gA,gS,gZ];rfl),by rfl,fun K hK=>?_⟩;go_simp;refine(HWK.out u2 bk hE.out HBK.out).mono ?_;rintro e u3 ⟨hx2,n,so,sc,qo,qc,ev,hP2,rfl,hG2⟩;have hX2:=Ext.trans hE.out hx2;refine hK.out _ _ hX2 ?_;clear hK;have HR:=h! (show NtAt (fun x=>x≠bg/\wd.heap.size<=x/\x<u3.heap.size) u3 n (.slice so n.subs.length sc,.slice qo n.ps.length qc)from hG2.mono fun x hx=>⟨fun e=>by have:=HG.out.lt;have:=hx.1;omega,Nat.le_trans hE.out.size hx.1,hx.2⟩);have HG:=h! (HG.out.below hx2);have HP:=h! hP2;have HBK:=h! (HBK.out.ext hx2);have hE:=h! hX2;clear hx2 hX2 hP2 hG2;((refine WalkN.take 18 _ ?_ (by simp only[gA,gS,gZ];rfl) (by kernel_rfl) (by kernel_rfl) (by rfl) (fun W hW=>?_) ?_;rotate_left;· (go_simp;try with_reducible rfl));simp only[Act.put,pA,pZ,pS])
  ((refine WalkN.take 19 _ ?_ (by simp only[gA,gS,gZ];rfl) (by kernel_rfl) (by kernel_rfl) (by rfl) (fun W hW=>?_) ?_;rotate_left;· (go_simp;try with_reducible rfl));simp only[Act.put,pA,pZ,pS])
  ((refine WalkN.take 20 _ ?_ (by simp only[gA,gS,gZ];rfl) (by kernel_rfl) (by kernel_rfl) (by rfl) (fun W hW=>?_) ?_;rotate_left;· (go_simp;try with_reducible rfl));simp only[Act.put,pA,pZ,pS])
  rotate_left
  all_goals
   refine WalkN.one 22 (by kernel_rfl) ?_;refine⟨_,(by simp only[gA,gS,gZ];rfl),by rfl,fun K hK=>?_⟩;have hg:=HG.out.cells;have hf:=HG.out.free;go_simp;have hS3:=((((((HG.out.set_to (cs':=#[.int .i64 n.k,.string ⟨#[]⟩,.string ⟨#[]⟩,.string ⟨#[]⟩,.slice none 0 0,.slice none 0 0]) 0 (.int .i64 n.k) rfl).set_to (cs':=#[.int .i64 n.k,.string n.p.t,.string ⟨#[]⟩,.string ⟨#[]⟩,.slice none 0 0,.slice none 0 0]) 1 (.string n.p.t) rfl).set_to (cs':=#[.int .i64 n.k,.string n.p.t,.string n.p.i,.string ⟨#[]⟩,.slice none 0 0,.slice none 0 0]) 2 (.string n.p.i) rfl).set_to (cs':=#[.int .i64 n.k,.string n.p.t,.string n.p.i,.string n.p.r,.slice none 0 0,.slice none 0 0]) 3 (.string n.p.r) rfl).set_to (cs':=#[.int .i64 n.k,.string n.p.t,.string n.p.i,.string n.p.r,.slice so n.subs.length sc,.slice none 0 0]) 4 (.slice so n.subs.length sc) rfl).set_to (cs':=#[.int .i64 n.k,.string n.p.t,.string n.p.i,.string n.p.r,.slice so n.subs.length sc,.slice qo n.ps.length qc]) 5 (.slice qo n.ps.length qc) rfl);have hX3:Ext wd ((((((u3.setCell ⟨bg,0,none⟩ (.int .i64 n.k)).setCell ⟨bg,1,none⟩ (.string n.p.t)).setCell ⟨bg,2,none⟩ (.string n.p.i)).setCell ⟨bg,3,none⟩ (.string n.p.r)).setCell ⟨bg,4,none⟩ (.slice so n.subs.length sc)).setCell ⟨bg,5,none⟩ (.slice qo n.ps.length qc)):=Ext.put6 hE.out HBG.out _ _ _ _ _ _;have hR3:=(HR.out.same (w':=((((((u3.setCell ⟨bg,0,none⟩ (.int .i64 n.k)).setCell ⟨bg,1,none⟩ (.string n.p.t)).setCell ⟨bg,2,none⟩ (.string n.p.i)).setCell ⟨bg,3,none⟩ (.string n.p.r)).setCell ⟨bg,4,none⟩ (.slice so n.subs.length sc)).setCell ⟨bg,5,none⟩ (.slice qo n.ps.length qc))) fun x hx=>put6_other _ _ _ _ _ _ hx.1).mono (S':=fun x=>x≠bg/\wd.heap.size<=x/\x<((((((u3.setCell ⟨bg,0,none⟩ (.int .i64 n.k)).setCell ⟨bg,1,none⟩ (.string n.p.t)).setCell ⟨bg,2,none⟩ (.string n.p.i)).setCell ⟨bg,3,none⟩ (.string n.p.r)).setCell ⟨bg,4,none⟩ (.slice so n.subs.length sc)).setCell ⟨bg,5,none⟩ (.slice qo n.ps.length qc)).heap.size) fun x hx=>⟨hx.1,hx.2.1,by simpa using hx.2.2⟩;refine hK.out _ _ hX3 ?_;clear hK hg hf;generalize (((((u3.setCell ⟨bg,0,none⟩ (.int .i64 n.k)).setCell ⟨bg,1,none⟩ (.string n.p.t)).setCell ⟨bg,2,none⟩ (.string n.p.i)).setCell ⟨bg,3,none⟩ (.string n.p.r)).setCell ⟨bg,4,none⟩ (.slice so n.subs.length sc)).setCell ⟨bg,5,none⟩ (.slice qo n.ps.length qc)=u4 at *;((refine WalkN.take 23 _ ?_ (by simp only[gA,gS,gZ];rfl) (by kernel_rfl) (by kernel_rfl) (by rfl) (fun W hW=>?_) ?_;rotate_left;· (go_simp;try with_reducible rfl));simp only[Act.put,pA,pZ,pS])
   refine WalkN.done (by kernel_rfl) ?_;obtain⟨gk,-⟩:∃ z:Nat,z=0:=⟨_,rfl⟩;exact⟨rfl,gk,bk,bg,so,sc,qo,qc,n,ev,rfl,HP.out,hX3,HBG.out,hS3,hR3⟩
 rintro e _ W6 ⟨rfl,gk6,bk6,bg6,so6,sc6,qo6,qc6,n6,ev6,rfl,hP6,hX,hbg,hblk,hgr⟩;try dsimp only
 have X6:=h! (show Ext W5 W6 from Ext.trans hxd.out hX);have HC:=h! (HC.out.up X6.out);have B6:=h! hblk;have N6:=h! (hgr.mono (S':=(· < W6.heap.size)) fun x hx=>hx.2.2);have P6:=h! hP6;clear hX hbg hblk hgr hxd hwd hP6;clear hk0 hk2 hs1 hs2 hkq;have B5:=h! (B5.out.below X6.out);have N5:=h! (N5.out.up X6.out);have HDE:=h! (treeE_deep ts T shut d d2 p HD2.out.1);have HFA:=h! (treeE_fine (ts:=ts) (T:=T) (shut:=shut) HTA.out.rok HTA.out.subs d p HTA.out.pok);have HFB:=h! (treeE_fine (ts:=ts) (T:=T) (shut:=shut) HTA.out.rok HTA.out.subs d2 p HTA.out.pok);rcases P5.out with⟨hsa,rfl,rfl⟩ | ⟨hsa,rfl,rfl⟩
 case inr =>
  rcases P6.out with⟨hsb,rfl,rfl⟩ | ⟨hsb,rfl,rfl⟩
  ·have:=HDE.out.1;omega
  ·clear hsa hsb;go_wp2_with fail
   go_ret
   exact⟨rfl,HC.out.X⟩
 rcases P6.out with⟨hsb,rfl,rfl⟩ | ⟨hsb,rfl,rfl⟩
 case inr =>
  clear hsa hsb;go_wp2_with fail
  go_ret
  exact⟨rfl,HC.out.X⟩
 have HSA:=h! hsa;have HSB:=h! hsb;clear hsa hsb P5 P6;generalize treeE ts T shut d p=nA at *;generalize treeE ts T shut d2 p=nB at *;have HLA:=h! (show nA.lvs.length<=1000000 from by have:=HFA.out.lvs;have h2:nA.sz*T.length<=300*24:=Nat.mul_le_mul (by have:=HSA.out;omega) HTL.out;omega);have HLB:=h! (show nB.lvs.length<=1000000 from by have:=HFB.out.lvs;have h2:nB.sz*T.length<=300*24:=Nat.mul_le_mul (by have:=HSB.out;omega) HTL.out;omega);have HX:=h! HC.out.X;clear HC HTA HST HLL HTL X5 X6;have HCU:=h! (ecuts_any nA (.slice so5 nA.subs.length sc5,.slice qo5 nA.ps.length qc5) W6 N5.out (by have:=HSA.out;omega) HFA.out.ok);unfold nV2 at HCU;have b5:=B5.out.cells;go_wp2_with fail
 clear b5;refine HCU.out.mono ?_;rintro e W7 ⟨v7,l7,rfl,hup,hm,ho,hx7⟩;obtain⟨ao7,n7,c7,rfl,hn7,-,-⟩:=ho.slU.len;have B5:=h! (B5.out.below hx7);have N5:=h! (N5.out.up hx7);have B6:=h! (B6.out.below hx7);have N6:=h! (N6.out.up hx7);have HX:=h! (show Below w.heap.size w W7 from Below.trans HX.out (hx7.mono HX.out.size));clear hx7 ho hup HCU;have b5:=B5.out.cells;have b6:=B6.out.cells;by_cases hcu:nA.cuts=[]
 case' pos =>
  have hba:nB=nA:=HDE.out.cut hcu
  obtain rfl:n7=0:=by
   have h0:l7=[]:=List.eq_nil_iff_forall_not_mem.2 fun q hq=>by have:=(hm q).1 hq;rw[hcu]at this;cases this
   have h1:3*l7.length=n7*3:=by rw[<- pcs_length];exact hn7
   rw[h0]at h1;simp at h1;omega
  have HSM:=h! (show Calls Tryz.prog 27 #[nV2 nA (.slice so5 nA.subs.length sc5,.slice qo5 nA.ps.length qc5),nV2 nB (.slice so6 nB.subs.length sc6,.slice qo6 nB.ps.length qc6)] W7 fun e w'=>e = .returned (.bool true)/\Ext W7 w' from by
   have h6:=N6.out;rw[hba]at h6 ⊢;exact sameN_any nA _ _ W7 N5.out h6)
  unfold nV2 at HSM;clear hcu hm hn7 hba;go_wp2_with fail
  clear b5 b6;refine HSM.out.mono ?_;rintro e W8 ⟨rfl,hx8⟩;have B5:=h! (B5.out.below hx8);have N5:=h! (N5.out.up hx8);have B6:=h! (B6.out.below hx8);have N6:=h! (N6.out.up hx8);have HX:=h! (show Below w.heap.size w W8 from Below.trans HX.out (hx8.mono HX.out.size));clear hx8 HSM;have HLE:=h! (eleaves_any nB (.slice so6 nB.subs.length sc6,.slice qo6 nB.ps.length qc6) W8 N6.out (by have:=HSB.out;omega) HLB.out HFB.out.ok);unfold nV2 at HLE;have b6:=B6.out.cells;go_wp2_with fail
 case' neg =>
  have hn0:((n7:Int) == 0)=false:=by
   have:n7≠0:=fun e=>by
    subst e
    have h0:l7=[]:=List.eq_nil_iff_forall_not_mem.2 fun q hq=>by
     have h1:3*l7.length=0*3:=by rw[<- pcs_length];exact hn7
     have h2:=List.length_pos_of_mem hq;omega
    exact hcu (List.eq_nil_iff_forall_not_mem.2 fun q hq=>by have:=(hm q).2 hq;rw[h0]at this;cases this)
   simpa using this
  obtain⟨W8,hW8⟩:∃ y,y=W7:=⟨_,rfl⟩;rw[<- hW8]at B5 N5 B6 N6 HX b5 b6 ⊢;have HLE:=h! (eleaves_any nB (.slice so6 nB.subs.length sc6,.slice qo6 nB.ps.length qc6) W8 N6.out (by have:=HSB.out;omega) HLB.out HFB.out.ok);unfold nV2 at HLE;clear hcu hm hn7 hW8;go_wp2_with fail
  clear hn0 b5
 all_goals
  clear b6;refine HLE.out.mono ?_;rintro e W9 ⟨vB,lB,rfl,hup,hm,ho,hx9⟩;obtain⟨aoB,cB,rfl,-,-,hcc⟩:=Sl.rows pC_length (by decide) (show Sl _ W9 3 vB (lB.flatMap pC)from ho.slU);have HCB:=h! hcc;have HMB:=h! hm;have HZB:=h! (show lB.length<=1000000 from by have:=nodup_le (UpP.nodup' hup) fun q hq=>(hm q).1 hq;have:=HLB.out;omega);have B5:=h! (B5.out.below hx9);have N5:=h! (N5.out.up hx9);have B6:=h! (B6.out.below hx9);have N6:=h! (N6.out.up hx9);have HX:=h! (show Below w.heap.size w W9 from Below.trans HX.out (hx9.mono HX.out.size));clear hup hm ho hx9 HLE hcc;have HLE:=h! (eleaves_any nA (.slice so5 nA.subs.length sc5,.slice qo5 nA.ps.length qc5) W9 N5.out (by have:=HSA.out;omega) HLA.out HFA.out.ok);unfold nV2 at HLE;have b5:=B5.out.cells;go_wp2_with fail
  clear b5;refine HLE.out.mono ?_;rintro e WA ⟨vA,lA,rfl,hup,hm,ho,hx9⟩;obtain⟨aoA,cA,rfl,-,-,hcc⟩:=Sl.rows pC_length (by decide) (show Sl _ WA 3 vA (lA.flatMap pC)from ho.slU);have HCA:=h! hcc;have HZA:=h! (show lA.length<=1000000 from by have:=nodup_le (UpP.nodup' hup) fun q hq=>(hm q).1 hq;have:=HLA.out;omega);have HIN:=h! (show ∀ q∈lA,q∈lB from fun q hq=>(HMB.out q).2 (HDE.out.lvs q ((hm q).1 hq)));have B5:=h! (B5.out.below hx9);have N5:=h! (N5.out.up hx9);have B6:=h! (B6.out.below hx9);have N6:=h! (N6.out.up hx9);have HX9:=h! (show Ext W9 WA from hx9);have HX:=h! (show Below w.heap.size w WA from Below.trans HX.out (hx9.mono HX.out.size));clear hup hm ho hx9 HLE hcc HMB;go_wp2_with fail
  go_loopw [91] (fun iv wr=>∃ i:Nat,i<=lA.length/\iv = .int .i64 i/\Ext WA wr) (fun iv _=>lA.length-(intOf iv).toNat)
  case atStart=>exact⟨0,Nat.zero_le _,rfl,Ext.refl _⟩
  case round =>
   obtain⟨i,hi,rfl,hx⟩:=hrel;have RX:=h! hx;clear hx;by_cases hlt:i<lA.length
   ·obtain⟨bq,oq,rfl,hbq,hcell⟩:=HCA.out (by omega);have c0:=RX.out.cell (hcell i hlt 0 _ rfl);have c1:=RX.out.cell (hcell i hlt 1 _ rfl);have c2:=RX.out.cell (hcell i hlt 2 _ rfl);rw[Nat.add_zero]at c0;have HLT:=h! hlt;have HWI:=h! (show wrap64 ((i:Int)+1)=((i+1:Nat):Int)from by have:=HZA.out;unfold wrap64;omega);have HII:=h! (HIN.out lA[i] (List.getElem_mem hlt));generalize lA[i]=x at *;obtain⟨xt,xi,xr⟩:=x;dsimp only at c0 c1 c2;clear hcell hbq;have hli:(i:Int)<(lA.length:Int):=by omega
    have hby:=(Blk.made wr #[.string xt,.string xi,.string xr] 63).cells;clear hlt;go_wp2_with fail
    clear hby c0 c1 c2;obtain⟨wq,hwq⟩:∃ y,y=wr.alloc (.cells #[.string xt,.string xi,.string xr] 63):=⟨_,rfl⟩;have QX:=h! (show Ext wr wq from by rw[hwq];exact Ext.alloc _ _);have QB:=h! (show Blk wq wr.heap.size #[.string xt,.string xi,.string xr] 63 from by rw[hwq];exact Blk.made _ _ _);rw[<- hwq];have RX:=h! (RX.out.trans QX.out);clear hwq QX;generalize wr.heap.size=xb at *;go_loopw [16,97] (fun tv jv ws=>∃ (j:Nat) (t:Bool),j<=lB.length/\jv = .int .i64 j/\tv = .bool t/\(t=true↔(⟨xt,xi,xr⟩:P3)∈lB.take j)/\Ext wq ws) (fun _ jv _=>lB.length-(intOf jv).toNat)
    case atStart=>exact⟨0,false,Nat.zero_le _,rfl,rfl,by simp,Ext.refl _⟩
    case round =>
     obtain⟨j,t,hj,rfl,rfl,ht,hx⟩:=hrel;have SX:=h! hx;have ST:=h! ht;clear hx ht;by_cases hlt:j<lB.length
     ·obtain⟨br,or_,rfl,hbr,hcell⟩:=HCB.out (by omega);have c0:=SX.out.cell (RX.out.cell (HX9.out.cell (hcell j hlt 0 _ rfl)));have c1:=SX.out.cell (RX.out.cell (HX9.out.cell (hcell j hlt 1 _ rfl)));have c2:=SX.out.cell (RX.out.cell (HX9.out.cell (hcell j hlt 2 _ rfl)));rw[Nat.add_zero]at c0;have HLJ:=h! hlt;have HWJ:=h! (show wrap64 ((j:Int)+1)=((j+1:Nat):Int)from by have:=HZB.out;unfold wrap64;omega);have HTK:=h! (List.take_succ_eq_append_getElem hlt);generalize lB[j]=y at *;obtain⟨yt,yi,yr⟩:=y;dsimp only at c0 c1 c2;clear hcell hbr;have hlj:(j:Int)<(lB.length:Int):=by omega
      have hby:=(Blk.made wr #[.string yt,.string yi,.string yr] 63).cells;have hbx:=((QB.out.below SX.out).below (Ext.alloc wr (.cells #[.string yt,.string yi,.string yr] 63))).cells;clear hlt;cases t with
      | true =>
       go_wp2_with fail
       go_roundw
       case rel=>exact⟨j+1,true,HLJ.out,by first | rw[HWJ.out] | go_num,rfl,⟨fun _=>by rw[HTK.out];exact List.mem_append_left _ (ST.out.1 rfl),fun _=>rfl⟩,SX.out.trans (Ext.alloc _ _)⟩
       case measure=>have:=HLJ.out;(try rw[HWJ.out]);simp[intOf];omega
      | false =>
       have heq:=fun W=>sub_eql ⟨xt,xi,xr⟩ ⟨yt,yi,yr⟩ W;unfold pV at heq;dsimp only at heq;go_wp2_with fail
       go_roundw
       case rel=>exact⟨j+1,decide ((⟨xt,xi,xr⟩:P3)=⟨yt,yi,yr⟩),HLJ.out,by first | rw[HWJ.out] | go_num,congrArg Value.bool (by rw[Bool.eq_iff_iff];simp),by
        rw[HTK.out,List.mem_append,decide_eq_true_eq,List.mem_singleton];exact⟨.inr,fun h=>h.elim (fun h=>absurd (ST.out.2 h) (by simp)) id⟩,SX.out.trans (Ext.alloc _ _)⟩
       case measure=>have:=HLJ.out;(try rw[HWJ.out]);simp[intOf];omega
     ·obtain rfl:j=lB.length:=by omega
      obtain rfl:t=true:=ST.out.2 (by rw[List.take_length];exact HII.out);have SX:=h! (RX.out.trans SX.out);clear hlt hj;go_wp2_with fail
      go_roundw
      case rel=>exact⟨i+1,HLT.out,by first | rw[HWI.out] | go_num,SX.out⟩
      case measure=>have:=HLT.out;(try rw[HWI.out]);simp[intOf];omega
   ·obtain rfl:i=lA.length:=by omega
    have HX:=h! (show Below w.heap.size w wr from Below.trans HX.out (RX.out.mono HX.out.size));have B5:=h! (B5.out.below RX.out);have N5:=h! (N5.out.up RX.out);have B6:=h! (B6.out.below RX.out);have N6:=h! (N6.out.up RX.out);have hle:((nA.sz:Int)<=(nB.sz:Int)):=by have:=HDE.out.sz;omega
    clear hlt hi RX HCA HCB;go_wp2_with fail
    obtain⟨wd,hwd⟩:∃ wd,Hid (wd=wr.drew):=⟨_,h! rfl⟩;have hxd:=h! (show Ext wr wd from by rw[hwd.out];exact Ext.drew _);refine region_walkN (Ext wd) (by rw[<- hwd.out];exact Ext.refl _) (by kernel_rfl) (by kernel_rfl) (fun _ _ d _ _ h=>by cases d <;> exact h) ?_;rw[<- hwd.out];clear hwd;have h5:=fun W (h:Ext wd W)=>(B5.out.below (hxd.out.trans h)).cells;have h6:=fun W (h:Ext wd W)=>(B6.out.below (hxd.out.trans h)).cells;(refine WalkN.tk [0,2] ?_;(iterate 2 ((refine TkN.c _ ?_ (by simp only[gA,gS,gZ];rfl) (by kernel_rfl) (by kernel_rfl) (by rfl) (fun W hW=>?_) ?_;rotate_left;· (go_simp;try with_reducible rfl));simp only[Act.put,pA,pZ,pS]));refine TkN.n ?_)
    clear h5 h6;have HC1:=h! (esize_any nA (.slice so5 nA.subs.length sc5,.slice qo5 nA.ps.length qc5) wd (N5.out.up hxd.out) (by have:=HSA.out;omega));unfold nV2 at HC1;refine WalkN.one 1 (by kernel_rfl) ?_;refine⟨_,(by simp only[gA,gS,gZ];rfl),by rfl,fun K hK=>?_⟩;go_simp;refine HC1.out.mono ?_;rintro e u1 ⟨rfl,hx1⟩;refine hK.out _ _ hx1 ?_;clear hK HC1;have HC1:=h! (esize_any nB (.slice so6 nB.subs.length sc6,.slice qo6 nB.ps.length qc6) u1 (N6.out.up (hxd.out.trans hx1)) (by have:=HSB.out;omega));unfold nV2 at HC1;refine WalkN.one 3 (by kernel_rfl) ?_;refine⟨_,(by simp only[gA,gS,gZ];rfl),by rfl,fun K hK=>?_⟩;go_simp;refine HC1.out.mono ?_;rintro e u2 ⟨rfl,hx2⟩;refine hK.out _ _ (Ext.trans hx1 hx2) ?_;clear hK HC1;(refine WalkN.tk [4,5] ?_;(iterate 2 ((refine TkN.c _ ?_ (by simp only[gA,gS,gZ];rfl) (by kernel_rfl) (by kernel_rfl) (by rfl) (fun W hW=>?_) ?_;rotate_left;· (go_simp;try with_reducible rfl));simp only[Act.put,pA,pZ,pS]));refine TkN.n ?_)
    refine WalkN.done (by kernel_rfl) ?_;have HX:=h! (show Below w.heap.size w u2 from Below.trans HX.out ((hxd.out.trans (Ext.trans hx1 hx2)).mono HX.out.size));clear hx1 hx2 hxd hle;go_wp2
    go_ret
    exact⟨rfl,HX.out⟩
end Go.Proofs.YtjdigpfipmckhaaGreat
