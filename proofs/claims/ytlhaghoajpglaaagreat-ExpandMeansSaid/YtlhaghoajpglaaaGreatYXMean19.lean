/- Lemmas for the claim, no condition. -/
import Derived.Test.YtlhaghoajpglaaaGreatYXMean0
import Derived.Test.YtlhaghoajpglaaaGreatYXMean18
import Derived.Test.YtlhaghoajpglaaaGreatYXMean16
import Derived.Test.YtlhaghoajpglaaaGreatYXMean15
import Derived.Test.YtlhaghoajpglaaaGreatYXMean13
import Derived.Test.YtlhaghoajpglaaaGreatYXMean12
import Derived.Test.YtlhaghoajpglaaaGreatYXMean3
import Derived.Test.YtlhaghoajpglaaaGreatYXMean10
set_option maxRecDepth 100000
set_option maxHeartbeats 8000000
namespace Go.Proofs.YtlhaghoajpglaaaGreat
open Go Go.RowKit Go.Maps
structure CaseW (w W:World)(cb:Nat)(ts:List TyS)(tv lv sv:Value)(l:List Tup)(shut:List R2)(p s:P3):Prop where
 X:Below w.heap.size w W
 B:Blk W cb (caseC tv lv sv p s) 37
 Y:TysAt (· < W.heap.size) W ts tv
 L:Sl (· < W.heap.size) W 6 lv (tuCs l)
 V:Sl (· < W.heap.size) W 2 sv (shut.flatMap r2C)
 good:GoodS ts
 lok:∀ t∈l,t.Ok/\wrN ts t=0
 len:l.length<=24
 sok:∀ r∈shut,r.Ok
 slen:shut.length<=1
 pok:p.Ok
 sOk:s.Ok
section
variable {w W W' : World} {cb : Nat} {ts : List TyS} {tv lv sv : Value} {l : List Tup} {shut : List R2} {p s : P3}
theorem CaseW.up (h:CaseW w W cb ts tv lv sv l shut p s)(hx:Ext W W'):CaseW w W' cb ts tv lv sv l shut p s :=
 ⟨h.X.trans (Below.mono hx h.X.size),h.B.below hx,h.Y.up hx,(h.L.same (Same.below hx)).mono fun _ hb=>Nat.lt_of_lt_of_le hb hx.size,(h.V.same (Same.below hx)).mono fun _ hb=>Nat.lt_of_lt_of_le hb hx.size,h.good,h.lok,h.len,h.sok,h.slen,h.pok,h.sOk⟩
end
def FineN (K:Nat)(n:NT):Prop:=∀ m∈n.pre,m.p.Ok/\(∀ s∈m.subs,s.Ok)/\m.subs.length<=K
theorem FineN.ok {K:Nat} {n:NT} (h:FineN K n):n.Ok:=fun m hm=>⟨(h m hm).1,(h m hm).2.1⟩
theorem FineN.mk' {K:Nat} {k:Int} {p:P3} {subs:List P3} {ps:List NT} (hp:p.Ok)(hs:∀ s∈subs,s.Ok)(hl:subs.length<=K)(h:∀ x∈ps,FineN K x):FineN K (.mk k p subs ps):=by
 intro m hm;rw[NT.pre]at hm;rcases List.mem_cons.1 hm with rfl | hm
 ·exact⟨hp,hs,hl⟩
 ·obtain⟨x,hx,hm⟩:=preL_mem.1 hm;exact h x hx m hm
theorem ruleE_fine {T:List Tup} {f:P3->NT} (hf:∀ q,q.Ok->FineN T.length (f q))(hT:∀ t∈T,t.s.Ok)(p:P3)(hp:p.Ok)(r:RT):r.Ok->FineN T.length (ruleE T f p r):=by
 induction r using RT.ind with
 | h r ih =>
  intro hr;have hr':=hr;obtain⟨k,a,b,ps⟩:=r;rw[RT.Ok]at hr';obtain⟨-,ha,hb,hps⟩:=hr';rw[okL_mem]at hps
  have hso:∀ q:P3,∀ s∈subsOf T q,s.Ok:=fun q s hs=>by
   obtain⟨t,ht,-,rfl⟩:=subsOf_mem hs;exact hT t ht
  rw[ruleE_mk];refine FineN.mk' hp (fun s hs=>?_) ?_ fun x hx=>?_
  ·split at hs
   ·exact hso p s hs
   ·cases hs
  ·split
   ·exact subsOf_few T p
   ·simp
  ·rcases List.mem_append.1 hx with hx | hx
   ·unfold headE at hx;split at hx
    ·obtain rfl:=List.mem_singleton.1 hx;exact hf _ ⟨hp.1,hp.2.1,by show a.size<=_;unfold maxLen;omega⟩
    ·split at hx
     ·obtain⟨q,hq,rfl⟩:=List.mem_map.1 hx;obtain⟨y,hy,-,rfl⟩:=viaOf_has.1 hq;have:=hso _ y hy;exact hf _ ⟨this.1,this.2.1,by show b.size<=_;unfold maxLen;omega⟩
     ·cases hx
   ·obtain⟨q,hq,rfl⟩:=List.mem_map.1 hx;exact ih q hq (hps q hq)
theorem treeE_fine {ts:List TyS} {T:List Tup} {shut:List R2} (hr:∀ x∈refsOf ts,x.2.Ok)(hT:∀ t∈T,t.s.Ok):∀ (d:Nat)(p:P3),p.Ok->FineN T.length (treeE ts T shut d p)
 | 0,p,hp=>by
  rw[treeE];exact FineN.mk' hp (fun s hs=>by cases hs) (by simp) fun x hx=>by cases hx
 | d+1,p,hp=>by
  rw[treeE];split
  ·next r h=>exact ruleE_fine (fun q hq=>treeE_fine hr hT d q hq) hT p hp r (hr _ (ruleOf_mem h))
  ·exact FineN.mk' hp (fun s hs=>by cases hs) (by simp) fun x hx=>by cases hx
theorem CaseW.tree {w W:World} {cb:Nat} {ts:List TyS} {tv lv sv:Value} {l:List Tup} {shut:List R2} {p s:P3} (h:CaseW w W cb ts tv lv sv l shut p s) {T:List Tup} (hT:SetT l T):TreeArg ts T shut p:=by
 have hf:=GoodS.fine h.good;have hbk:=hf.bk;exact TreeArg.of hf.chk hf.ok (by have:=schB_bk ts;omega) (by have:=(names_bk ts).1;omega) (by have:=(names_bk ts).2;omega) hT (by have:=hT.len;have:=h.len;omega) (fun t ht=>(h.lok t ((hT.mem t).1 ht).1).1) h.pok h.sok
structure AArg (w W:World)(bs bp:Nat)(ts:List TyS)(tv:Value)(l:List Tup)(lv:Value)(shut:List R2)(sv:Value)(p s:P3):Prop where
 X:Ext w W
 S:Blk W bs #[tv] 26
 P:Blk W bp (aC p s) 35
 Y:TysAt (· < W.heap.size) W ts tv
 L:Sl (· < W.heap.size) W 6 lv (tuCs l)
 V:Sl (· < W.heap.size) W 2 sv (shut.flatMap r2C)
theorem AArg.up {w W W':World} {bs bp:Nat} {ts:List TyS} {tv:Value} {l:List Tup} {lv:Value} {shut:List R2} {sv:Value} {p s:P3} (h:AArg w W bs bp ts tv l lv shut sv p s)(hx:Ext W W'):AArg w W' bs bp ts tv l lv shut sv p s :=
 ⟨Ext.trans h.X hx,h.S.below hx,h.P.below hx,h.Y.up hx,(h.L.same (Same.below hx)).mono fun _ hb=>Nat.lt_of_lt_of_le hb hx.size,(h.V.same (Same.below hx)).mono fun _ hb=>Nat.lt_of_lt_of_le hb hx.size⟩
theorem hasD27_any (ts:List TyS)(tv:Value)(l:List Tup)(lv:Value)(T:List Tup)(shut:List R2)(sv:Value)(p s:P3)(most:Int)(n:Nat)(w:World)(h:TysAt (· < w.heap.size) w ts tv)(hT:SetT l T)(hl:Sl (· < w.heap.size) w 6 lv (tuCs l))(hlo:∀ t∈l,t.Ok)(hll:l.length<=40)
  (hsv:Sl (· < w.heap.size) w 2 sv (shut.flatMap r2C)) (hsl:shut.length<=20) (hA:HasArg ts T shut p) (hwe:WalkEnd ts T shut p most n) :
  Calls Tryz.prog 22 #[.agg #[tv],lv,sv,.agg (aC p s)] w fun e w'=>(∃ b,e = .returned (.bool b)/\(b=true↔0<(solveR (walkN ts T shut p n).2 s n).getD 0 0))/\Ext w w':=by
 have HST:=h! hT;have HLO:=h! hlo;have HLL:=h! hll;have HSL:=h! hsl;have HHA:=h! hA;have HCK:=h! hA.chk;have HE:=h! hwe;obtain⟨aot,ct,rfl,-,-,-⟩:=h.rows;obtain⟨aos,cs,rfl,-⟩:=Sl.rows r2C_length (by decide) hsv;obtain⟨wa,hwa⟩:∃ x,x=w.alloc (.cells #[.slice aot ts.length ct] 26):=⟨_,rfl⟩;obtain⟨wb,hwb⟩:∃ x,x=wa.alloc (.cells (aC p s) 35):=⟨_,rfl⟩;have ea:wa.heap.size=w.heap.size+1:=by rw[hwa];simp
 have xa:Ext w wa:=by rw[hwa];exact Ext.alloc _ _
 have xb:Ext wa wb:=by rw[hwb];exact Ext.alloc _ _
 have xx:=xa.trans xb
 have HW:=h! (show AArg w wb w.heap.size (w.heap.size+1) ts (.slice aot ts.length ct) l lv shut (.slice aos shut.length cs) p s from
  ⟨xx,Blk.below (by rw[hwa];exact Blk.made _ _ _) xb,by rw[hwb,<- ea];exact Blk.made _ _ _,h.up xx,(hl.same (Same.below xx)).mono fun _ hb=>Nat.lt_of_lt_of_le hb xx.size,(hsv.same (Same.below xx)).mono fun _ hb=>Nat.lt_of_lt_of_le hb xx.size⟩)
 clear h hT hlo hll hsl hA hwe hl hsv ea xa xb xx;subst hwa;unfold aC;go_enter Tryz.func22,Tryz.ntmps22
 go_wp2_with fail
 rw[show(#[Value.string p.t,.string p.i,.string p.r,.string s.t,.string s.i,.string s.r]:Array Value)=aC p s from rfl];rw[<- hwb];clear hwb;obtain⟨wd,hwd⟩:∃ wd,Hid (wd=wb.drew):=⟨_,h! rfl⟩;have hxd:=h! (show Ext wb wd from by rw[hwd.out];exact Ext.drew _);apply Code.wp_mono (Q:=JoinG (β:=Value) wd (WalkP ts T shut p 1073741824 (.bool true) (.bool false)) _) ?rest1 ?reg1
 case reg1 =>
  have hE:=h! (Ext.refl wd);refine region_walkN (Ext wd) (by rw[<- hwd.out];exact Ext.refl _) (by kernel_rfl) (by kernel_rfl) (fun _ _ d _ _ h=>by cases h.1) ?_;rw[<- hwd.out];have hs:∀ W,Ext wd W->∀ i,W.cell? ⟨w.heap.size,i,none⟩=(#[.slice aot ts.length ct]:Array Value)[i]?:=fun W h=>((HW.out.up hxd.out).S.below h).cells;have hp:∀ W,Ext wd W->∀ i,W.cell? ⟨w.heap.size+1,i,none⟩=(aC p s)[i]?:=fun W h=>((HW.out.up hxd.out).P.below h).cells;have HNB:=h! (fun W (hW:Ext wd W)=>setT_any HST.out lv W ((HW.out.up hxd.out).up hW).L (by have:=HLL.out;omega) HLO.out);have HWK:=h! (fun W b (hW:Ext wd W) (hB:Sl (· < W.heap.size) W 6 b (tuCs T))=>walkD_any ts _ T b shut _ p 1073741824 1000000 W ((HW.out.up hxd.out).up hW).Y (chk_uniq HCK.out) hB ((HW.out.up hxd.out).up hW).V (by have:=HSL.out;omega) HHA.out.wk);unfold aC at hp;unfold pV at HWK;(refine WalkN.tk [0,1,3,4,5] ?_;(iterate 5 (refine c! ?_));refine TkN.n ?_)
  clear hs hp;refine p! 2 10 ?_ ?_;refine b! ?_;intro K hK;go_simp;refine(HNB.out wd hE.out).mono ?_;rintro e u1 ⟨bk,rfl,hB0,hx0⟩;have hX0:=Ext.trans hE.out hx0;refine hK.out _ _ hX0 ?_;clear hK;have HBK:=h! hB0;have hE:=h! hX0;clear hx0 hX0 hB0;refine p! 6 10 ?_ ?_;refine b! ?_;intro K hK;go_simp;refine(HWK.out u1 bk hE.out HBK.out).mono ?_;rintro e u2 ⟨hx1,ps,fs,po,pc,fo,fc,ev,hP1,rfl,hG1⟩;have hX1:=Ext.trans hE.out hx1;refine hK.out _ _ hX1 ?_;clear hK;have HR:=h! (show GrAt (fun x=>wd.heap.size<=x/\x<u2.heap.size) u2 ps fs (.slice po ps.length pc) (.slice fo fs.length fc)from hG1.mono fun x hx=>⟨Nat.le_trans hE.out.size hx.1,hx.2⟩);have HP:=h! hP1;have HBK:=h! ((HBK.out.same (Same.below hx1)).mono fun x hx=>Nat.lt_of_lt_of_le hx hx1.size);have hE:=h! hX1;clear hx1 hX1 hP1 hG1;refine t! 7 ?_
  refine t! 8 ?_
  refine t! 9 ?_
  refine o! 10 ?_;refine b! ?_;intro K hK;go_simp;obtain⟨bg,hbg⟩:∃ x,x=u2.heap.size:=⟨_,rfl⟩;rw[<- hbg];have hA2:=Ext.alloc u2 (.cells #[.slice none 0 0,.slice none 0 0] 96);have hO2:Blk (u2.alloc (.cells #[.slice none 0 0,.slice none 0 0] 96)) bg #[.slice none 0 0,.slice none 0 0] 96:=by rw[hbg];exact Blk.made _ _ _
  have hX2:=Ext.trans hE.out hA2;have HBG:=h! (show wd.heap.size<=bg from by have:=hE.out.size;omega);have HBK:=h! ((HBK.out.same (Same.below hA2)).mono fun x hx=>Nat.lt_of_lt_of_le hx hA2.size);have HR:=h! (show GrAt (fun x=>x≠bg/\wd.heap.size<=x/\x<(u2.alloc (.cells #[.slice none 0 0,.slice none 0 0] 96)).heap.size) (u2.alloc (.cells #[.slice none 0 0,.slice none 0 0] 96)) ps fs (.slice po ps.length pc) (.slice fo fs.length fc)from(HR.out.same fun x hx=>hA2.block x hx.2).mono fun x hx=>⟨fun e=>by have:=hx.2;omega,hx.1,Nat.lt_of_lt_of_le hx.2 hA2.size⟩);refine hK.out _ _ hX2 ?_;clear hK hbg hA2;generalize u2.alloc (.cells #[.slice none 0 0,.slice none 0 0] 96)=u3 at *;have hE:=h! hX2;have HG:=h! hO2;clear hO2 hX2;rotate_left
  refine b! ?_;intro K hK;go_simp;obtain⟨bg,hbg⟩:∃ x,x=u1.heap.size:=⟨_,rfl⟩;rw[<- hbg];have hA1:=Ext.alloc u1 (.cells #[.slice none 0 0,.slice none 0 0] 96);have hO1:Blk (u1.alloc (.cells #[.slice none 0 0,.slice none 0 0] 96)) bg #[.slice none 0 0,.slice none 0 0] 96:=by rw[hbg];exact Blk.made _ _ _
  have hX1:=Ext.trans hE.out hA1;have HBG:=h! (show wd.heap.size<=bg from by have:=hE.out.size;omega);have HBK:=h! ((HBK.out.same (Same.below hA1)).mono fun x hx=>Nat.lt_of_lt_of_le hx hA1.size);refine hK.out _ _ hX1 ?_;clear hK hbg hA1;generalize u1.alloc (.cells #[.slice none 0 0,.slice none 0 0] 96)=u2 at *;have hE:=h! hX1;have HG:=h! hO1;clear hO1 hX1;refine o! 6 ?_;refine b! ?_;intro K hK;go_simp;refine(HWK.out u2 bk hE.out HBK.out).mono ?_;rintro e u3 ⟨hx2,ps,fs,po,pc,fo,fc,ev,hP2,rfl,hG2⟩;have hX2:=Ext.trans hE.out hx2;refine hK.out _ _ hX2 ?_;clear hK;have HR:=h! (show GrAt (fun x=>x≠bg/\wd.heap.size<=x/\x<u3.heap.size) u3 ps fs (.slice po ps.length pc) (.slice fo fs.length fc)from hG2.mono fun x hx=>⟨fun e=>by have:=HG.out.lt;have:=hx.1;omega,Nat.le_trans hE.out.size hx.1,hx.2⟩);have HG:=h! (HG.out.below hx2);have HP:=h! hP2;have HBK:=h! ((HBK.out.same (Same.below hx2)).mono fun x hx=>Nat.lt_of_lt_of_le hx hx2.size);have hE:=h! hX2;clear hx2 hX2 hP2 hG2;refine t! 7 ?_
  refine t! 8 ?_
  refine t! 9 ?_
  rotate_left
  refine b! ?_;intro K hK;go_simp;obtain⟨bg,hbg⟩:∃ x,x=wd.heap.size:=⟨_,rfl⟩;rw[<- hbg];have hA0:=Ext.alloc wd (.cells #[.slice none 0 0,.slice none 0 0] 96);have hO0:Blk (wd.alloc (.cells #[.slice none 0 0,.slice none 0 0] 96)) bg #[.slice none 0 0,.slice none 0 0] 96:=by rw[hbg];exact Blk.made _ _ _
  have hX0:=Ext.trans hE.out hA0;have HBG:=h! (show wd.heap.size<=bg from by have:=hE.out.size;omega);refine hK.out _ _ hX0 ?_;clear hK hbg hA0;generalize wd.alloc (.cells #[.slice none 0 0,.slice none 0 0] 96)=u1 at *;have hE:=h! hX0;have HG:=h! hO0;clear hO0 hX0;refine o! 2 ?_;refine b! ?_;intro K hK;go_simp;refine(HNB.out u1 hE.out).mono ?_;rintro e u2 ⟨bk,rfl,hB1,hx1⟩;have hX1:=Ext.trans hE.out hx1;refine hK.out _ _ hX1 ?_;clear hK;have HBK:=h! hB1;have HG:=h! (HG.out.below hx1);have hE:=h! hX1;clear hx1 hX1 hB1;refine o! 6 ?_;refine b! ?_;intro K hK;go_simp;refine(HWK.out u2 bk hE.out HBK.out).mono ?_;rintro e u3 ⟨hx2,ps,fs,po,pc,fo,fc,ev,hP2,rfl,hG2⟩;have hX2:=Ext.trans hE.out hx2;refine hK.out _ _ hX2 ?_;clear hK;have HR:=h! (show GrAt (fun x=>x≠bg/\wd.heap.size<=x/\x<u3.heap.size) u3 ps fs (.slice po ps.length pc) (.slice fo fs.length fc)from hG2.mono fun x hx=>⟨fun e=>by have:=HG.out.lt;have:=hx.1;omega,Nat.le_trans hE.out.size hx.1,hx.2⟩);have HG:=h! (HG.out.below hx2);have HP:=h! hP2;have HBK:=h! ((HBK.out.same (Same.below hx2)).mono fun x hx=>Nat.lt_of_lt_of_le hx hx2.size);have hE:=h! hX2;clear hx2 hX2 hP2 hG2;refine t! 7 ?_
  refine t! 8 ?_
  refine t! 9 ?_
  rotate_left
  all_goals
   refine o! 11 ?_;refine b! ?_;intro K hK;have hg:=HG.out.cells;have hf:=HG.out.free;go_simp;have hS3:=(HG.out.set_to (cs':=#[.slice po ps.length pc,.slice none 0 0]) 0 (.slice po ps.length pc) rfl).set_to (cs':=#[.slice po ps.length pc,.slice fo fs.length fc]) 1 (.slice fo fs.length fc) rfl;have hX3:Ext wd ((u3.setCell ⟨bg,0,none⟩ (.slice po ps.length pc)).setCell ⟨bg,1,none⟩ (.slice fo fs.length fc)):=Below.setCell (Below.setCell hE.out (p:=⟨bg,0,none⟩) HBG.out _) (p:=⟨bg,1,none⟩) HBG.out _;have hR3:=(HR.out.same (w':=((u3.setCell ⟨bg,0,none⟩ (.slice po ps.length pc)).setCell ⟨bg,1,none⟩ (.slice fo fs.length fc))) fun x hx=>by rw[Below.heap_setCell _ _ _ x hx.1,Below.heap_setCell _ _ _ x hx.1]).mono (T:=fun x=>x≠bg/\wd.heap.size<=x/\x<((u3.setCell ⟨bg,0,none⟩ (.slice po ps.length pc)).setCell ⟨bg,1,none⟩ (.slice fo fs.length fc)).heap.size) fun x hx=>⟨hx.1,hx.2.1,by simpa using hx.2.2⟩;refine hK.out _ _ hX3 ?_;clear hK hg hf;generalize (u3.setCell ⟨bg,0,none⟩ (.slice po ps.length pc)).setCell ⟨bg,1,none⟩ (.slice fo fs.length fc)=u4 at *;refine t! 12 ?_
   refine d! ?_;exact⟨rfl,bk,bg,po,pc,fo,fc,ps,fs,ev,rfl,HP.out,hX3,HBG.out,hS3,hR3⟩
 rintro e _ W1 ⟨rfl,bk1,bg1,po1,pc1,fo1,fc1,ps1,fs1,ev1,rfl,hP,hX,hbg,hblk,hgr⟩;dsimp only;have HW:=h! ((HW.out.up hxd.out).up hX);have HN:=h! (show(walkN ts T shut p n).1.length<=1000000 from HHA.out.wk.few n);rcases hP with⟨n2,he,rfl,rfl,rfl⟩ | ⟨hlong,-⟩
 case inr=>exact absurd hlong (HE.out.more (by have:=HN.out;omega)).notLong
 obtain rfl:=HE.out.uniq he;clear he;have HL:=h! (show(walkN ts T shut p n).1.length=n from HE.out.2.symm);have HFL:=h! (show(walkN ts T shut p n).2.length=n from walkN_forms ts T shut p n);rw[HL.out]at HN
 have HPO:=h! (show 0<n from by
  have h2:=HE.out.2;have:=walk_mono ts T shut p (Nat.zero_le n);rw[<- h2,walkN]at this;simp at this;omega)
 rw[HL.out,HFL.out]at hblk hgr;generalize (walkN ts T shut p n).1=ps at *;generalize hfs:(walkN ts T shut p n).2=fs at *;have HFS:=h! hfs;clear hfs;have HSV:=h! (solve27_any s ps fs (.slice po1 n pc1) (.slice fo1 n fc1) W1 (hgr.mono fun b hb=>hb.2.2) (by rw[HL.out];exact HN.out));have hG:=hblk.cells;have hB2:=HW.out.P.cells;clear hgr hX hxd hwd hbg;unfold pV at HSV;unfold aC at hB2;go_wp2_with fail
 clear hG hB2 hblk;refine HSV.out.mono ?_;rintro e w3 ⟨⟨v,rfl,ho⟩,hb3⟩;have X3:=h! (show Ext w w3 from Ext.trans HW.out.X hb3);have HLN:=h! (show(solveR fs s n).length=n from outN_length n);rw[HL.out]at ho
 obtain⟨g,c3,cs3,rfl,-,hB,-,-,hcs⟩:=ho.lay (by
  intro e;have:=congrArg List.length e;rw[ic_length,HLN.out,List.length_nil]at this;have:=HPO.out;omega)
 have c0:w3.cell? ⟨g,0,none⟩=some (.int .i64 ((solveR fs s n).getD 0 0)):=by
  have h1:0<(ic (solveR fs s n)).length:=by rw[ic_length,HLN.out];exact HPO.out
  rw[hB.cells 0,hcs 0 h1];simp only[ic,List.getElem_map];rw[List.getD_eq_getElem?_getD,List.getElem?_eq_getElem (by rw[HLN.out];exact HPO.out)];rfl
 have hni:(0:Int)<(((ic (solveR fs s n)).length:Nat):Int):=by rw[ic_length,HLN.out];have:=HPO.out;omega
 have hni2:0<(ic (solveR fs s n)).length:=by omega
 clear hb3 ho hB hcs HSV;generalize (ic (solveR fs s n)).length=m at *;obtain⟨z,hz⟩:∃ z,Hid ((solveR fs s n).getD 0 0=z):=⟨_,h! rfl⟩;rw[hz.out]at c0;go_wp2_with fail
 go_ret
 refine⟨⟨_,rfl,?_⟩,X3.out⟩;rw[HFS.out,hz.out];simp
theorem chk_ruleE {ts:List TyS} (h:chk06 ts=0) {p:R2 × RT} (hp:p∈refsOf ts):p.2.textOk 0=true:=by
 have h0:printOk ts=true:=by
  unfold chk06 at h;split at h
  ·assumption
  ·cases h
 obtain⟨t,ht,r,hr,rfl⟩:=refs_mem.1 hp;have h1:=List.all_eq_true.1 h0 t ht;unfold tyOk at h1;rw[Bool.and_eq_true]at h1;have h2:=List.all_eq_true.1 h1.2 r hr;unfold relOk at h2;simp only[Bool.and_eq_true]at h2;exact h2.1.1
theorem good_end {ts:List TyS} (h:GoodS ts) {T:List Tup} (hT:T.length<=24)(shut:List R2)(p:P3):∃ n,WalkEnd ts T shut p 1000 n:=by
 have hf:=good_few h hT shut p;have hex:∃ n,¬ n<(walkN ts T shut p n).1.length:=⟨751,by have:=hf 751;omega⟩
 obtain⟨n,h1,h2⟩:∃ n,(¬ n<(walkN ts T shut p n).1.length)/\∀ m,m<n->m<(walkN ts T shut p m).1.length:=by
  have key:∀ N,(¬ N<(walkN ts T shut p N).1.length)->∃ n,(¬ n<(walkN ts T shut p n).1.length)/\∀ m,m<n->m<(walkN ts T shut p m).1.length:=by
   intro N;induction N using Nat.strongRecOn with
   | ind N ih =>
    intro hN;by_cases hm:∃ m,m<N/\¬ m<(walkN ts T shut p m).1.length
    ·obtain⟨m,h1,h2⟩:=hm;exact ih m h1 h2
    ·exact⟨N,hN,fun m hlt=>Classical.byContradiction fun hc=>hm ⟨m,hlt,hc⟩⟩
  obtain⟨N,hN⟩:=hex;exact key N hN
 refine⟨n,fun m hm=>⟨h2 m hm,by have:=hf m;omega⟩,?_⟩;cases n with
 | zero =>
  have:=h1;rw[walkN]at this;simp at this
 | succ n =>
  have h3:=h2 n (by omega);have h4:(walkN ts T shut p n).1.length<=(walkN ts T shut p (n+1)).1.length:=walk_mono ts T shut p (Nat.le_succ n);omega
theorem CaseW.has27 {w W:World} {cb:Nat} {ts:List TyS} {tv lv sv:Value} {l:List Tup} {shut:List R2} {p s:P3} (h:CaseW w W cb ts tv lv sv l shut p s) {T:List Tup} (hT:SetT l T) {W':World} (hx:Ext W W')(q u:P3)(hq:q.Ok) :
  Calls Tryz.prog 22 #[.agg #[tv],lv,sv,.agg (aC q u)] W' fun e w'=>(∃ b,e = .returned (.bool b)/\(b=true↔Den ts T shut u q))/\Ext W' w':=by
 have hf:=GoodS.fine h.good;have hbk:=hf.bk;have hl:=h.len;have hTl:T.length<=24:=Nat.le_trans hT.len hl;obtain⟨n,hn⟩:=good_end h.good hTl shut q;have h2:=h.up hx;refine(hasD27_any ts tv l lv T shut sv q u 1000 n W' h2.Y hT h2.L (fun t ht=>(h.lok t ht).1) (by omega) h2.V (by have:=h.slen;omega) (HasArg.of hf.chk hf.ok (by have:=schB_bk ts;omega) (by have:=(names_bk ts).1;omega) (by have:=(names_bk ts).2;omega) (by omega) (fun t ht=>(h.lok t ((hT.mem t).1 ht).1).1) hq h.sok) hn).mono ?_;rintro e w' ⟨⟨b,rfl,hb⟩,hx'⟩;exact⟨⟨b,rfl,hb.trans (hn.den_iff u).symm⟩,hx'⟩
theorem holds_any (X:P3->Prop)(w:World)(aot:Option Addr)(nt ct:Nat)(aol:Option Addr)(nl cl:Nat)(aos:Option Addr)(ns cs:Nat)(p s:P3)
  (hh:∀ (W':World) (q:P3),Ext w W'->q.Ok->Calls Tryz.prog 22 #[.agg #[.slice aot nt ct],.slice aol nl cl,.slice aos ns cs,.agg (aC q s)] W' fun e w'=>(∃ b,e = .returned (.bool b)/\(b=true↔X q))/\Ext W' w') (r:NT) :
  ∀ (v:NV2) (w1:World),Ext w w1->NtAt (· < w1.heap.size) w1 r v->r.Ok->r.sz<=1000000->Calls Tryz.prog 21 #[.agg #[.slice aot nt ct,.slice aol nl cl,.slice aos ns cs,.string p.t,.string p.i,.string p.r,.string s.t,.string s.i,.string s.r],nV2 r v] w1 fun e w'=>(∃ b,e = .returned (.bool b)/\(b=true↔holdN X s r))/\Ext w1 w':=by
 have HH:=h! hh;clear hh;induction r using NT.ind with
 | h r ih =>
 intro v w1 hx1 h hok hz;obtain⟨a1,c1,a4,c4,rfl⟩:=h.shape;obtain⟨k,⟨pt,pi,pr⟩,subs,parts⟩:=r;have HHE:=h! (show holdN X s (.mk k ⟨pt,pi,pr⟩ subs parts)↔if k=0 then X ⟨pt,pi,pr⟩else if k=5 then ∀ r∈parts,holdN X s r else(∃ r∈parts,holdN X s r)\/(k=1/\(s∈subs\/∃ q∈setsOf subs,X q))from by rw[holdN,allNN_eq,anyNN_eq]);have HIH:=h! ih;have H1:=h! h;have HX1:=h! hx1
 have HOK:=h! (show(⟨pt,pi,pr⟩:P3).Ok/\(∀ x∈subs,x.Ok)/\∀ x∈parts,x.Ok from by
  have h0:=hok (.mk k ⟨pt,pi,pr⟩ subs parts) (by rw[NT.pre];exact List.mem_cons_self);refine⟨h0.1,h0.2,fun x hx m hm=>hok m ?_⟩;rw[NT.pre];exact List.mem_cons_of_mem _ (preL_mem.2 ⟨x,hx,hm⟩))
 have HZ:=h! (show 1+nszL parts<=1000000 from by rw[NT.sz]at hz;exact hz);have HSL:=h! (show Sl (· < w1.heap.size) w1 3 (.slice a1 subs.length c1) (pcs subs)from((NtAt.iff _ _).1 h).1);clear ih h hx1 hok hz;unfold nV2;dsimp only[NT.k,NT.p,NT.subs,NT.ps]at HIH H1 ⊢;obtain⟨wa,hwa⟩:∃ x,x=w1.alloc (.cells #[.slice aot nt ct,.slice aol nl cl,.slice aos ns cs,.string p.t,.string p.i,.string p.r,.string s.t,.string s.i,.string s.r] 37):=⟨_,rfl⟩;obtain⟨wb,hwb⟩:∃ x,x=wa.alloc (.cells #[.int .i64 k,.string pt,.string pi,.string pr,.slice a1 subs.length c1,.slice a4 parts.length c4] 45):=⟨_,rfl⟩;have ea:wa.heap.size=w1.heap.size+1:=by rw[hwa];simp
 have xa:Ext w1 wa:=by rw[hwa];exact Ext.alloc _ _
 have xb:Ext wa wb:=by rw[hwb];exact Ext.alloc _ _
 have XB:=h! (xa.trans xb);have BA:=h! (show Blk wb w1.heap.size #[.slice aot nt ct,.slice aol nl cl,.slice aos ns cs,.string p.t,.string p.i,.string p.r,.string s.t,.string s.i,.string s.r] 37 from Blk.below (by rw[hwa];exact Blk.made _ _ _) xb);have BB:=h! (show Blk wb (w1.heap.size+1) #[.int .i64 k,.string pt,.string pi,.string pr,.slice a1 subs.length c1,.slice a4 parts.length c4] 45 from by rw[hwb,<- ea];exact Blk.made _ _ _);clear ea xa xb;subst hwb hwa;have hB:=BB.out.cells;go_enter Tryz.func21,Tryz.ntmps21
 go_wp2_with fail
 clear hB;obtain⟨w4,hw4⟩:∃ y,y=(w1.alloc (.cells #[.slice aot nt ct,.slice aol nl cl,.slice aos ns cs,.string p.t,.string p.i,.string p.r,.string s.t,.string s.i,.string s.r] 37)).alloc (.cells #[.int .i64 k,.string pt,.string pi,.string pr,.slice a1 subs.length c1,.slice a4 parts.length c4] 45):=⟨_,rfl⟩;rw[<- hw4]at XB BA BB ⊢;clear hw4;generalize w1.heap.size=cb at BA BB ⊢;go_loopw [5,6,15] (fun sv av iv wr=>∃ (i:Nat) (b1 b2:Bool),i<=parts.length/\iv = .int .i64 i/\sv = .bool b1/\av = .bool b2/\(b1=true↔∃ x∈parts.take i,holdN X s x)/\(b2=true↔∀ x∈parts.take i,holdN X s x)/\Ext w4 wr) (fun _ _ iv _=>parts.length-(intOf iv).toNat)
 case atStart=>exact⟨0,false,true,Nat.zero_le _,rfl,rfl,rfl,by simp,by simp,Ext.refl _⟩
 case round =>
  obtain⟨i,b1,b2,hi,rfl,rfl,rfl,hb1,hb2,hx⟩:=hrel;have RX:=h! hx;have RB:=h! (And.intro hb1 hb2);clear hx hb1 hb2;by_cases hlt:i<parts.length
  ·obtain⟨ao1,g1,he1,hg1,hg2,hc1⟩:=(H1.out.up (XB.out.trans RX.out)).rows;dsimp only[NT.ps]at he1 hg1 hg2 hc1;cases he1;obtain⟨p1,q1,u,rfl,hp1,e0,e1,e2,e3,e4,e5,hu⟩:=hc1 i hlt;have HII:=h! (HIH.out parts[i] (List.getElem_mem hlt));have HOI:=h! (HOK.out.2.2 parts[i] (List.getElem_mem hlt));have HZI:=h! (nszL_mem (List.getElem_mem hlt));have HTK:=h! (List.take_succ_eq_append_getElem hlt);generalize parts[i]=x at *;have HLT:=h! hlt;have HWI:=h! (show wrap64 ((i:Int)+1)=((i+1:Nat):Int)from by have:=nszL_many parts;have:=HZ.out;unfold wrap64;omega);have hli:(i:Int)<(parts.length:Int):=by omega
   obtain⟨l1,m1,l4,m4,rfl⟩:=hu.shape;dsimp only at e0 e1 e2 e3 e4 e5;obtain⟨wp,hwp⟩:∃ y,y=wr.alloc (.cells #[.int .i64 x.k,.string x.p.t,.string x.p.i,.string x.p.r,.slice l1 x.subs.length m1,.slice l4 x.ps.length m4] 45):=⟨_,rfl⟩;have PX:=h! (show Ext wr wp from by rw[hwp];exact Ext.alloc _ _);have pb:=(show Blk wp wr.heap.size #[.int .i64 x.k,.string x.p.t,.string x.p.i,.string x.p.r,.slice l1 x.subs.length m1,.slice l4 x.ps.length m4] 45 from by rw[hwp];exact Blk.made _ _ _).cells;have pa:=((BA.out.below RX.out).below PX.out).cells;have HFW:=h! (HII.out (.slice l1 x.subs.length m1,.slice l4 x.ps.length m4) wp (HX1.out.trans (XB.out.trans (RX.out.trans PX.out))) (hu.up PX.out) HOI.out (by have:=HZI.out;have:=HZ.out;omega));unfold nV2 at HFW;clear hlt hc1 hu hp1 hg1 hg2;subst hwp;go_wp2_with fail
   clear pa pb e0 e1 e2 e3 e4 e5;refine HFW.out.mono ?_;rintro e w5 ⟨⟨b,rfl,hb⟩,hx5⟩;have X5:=h! (show Ext w4 w5 from RX.out.trans (PX.out.trans hx5))
   have RB2:=h! (show((b1||b)=true↔∃ x∈parts.take (i+1),holdN X s x)/\((b2&&b)=true↔∀ x∈parts.take (i+1),holdN X s x)from by
    rw[HTK.out,Bool.or_eq_true,Bool.and_eq_true,RB.out.1,RB.out.2,hb];constructor
    ·constructor
     ·rintro(⟨y,hy,h⟩ | h)
      ·exact⟨y,List.mem_append_left _ hy,h⟩
      ·exact⟨x,List.mem_append_right _ List.mem_cons_self,h⟩
     ·rintro⟨y,hy,h⟩;rcases List.mem_append.1 hy with hy | hy
      ·exact .inl ⟨y,hy,h⟩
      ·obtain rfl:=List.mem_singleton.1 hy;exact .inr h
    ·constructor
     ·rintro⟨h1,h2⟩ y hy;rcases List.mem_append.1 hy with hy | hy
      ·exact h1 y hy
      ·obtain rfl:=List.mem_singleton.1 hy;exact h2
     ·exact fun h=>⟨fun y hy=>h y (List.mem_append_left _ hy),h x (List.mem_append_right _ List.mem_cons_self)⟩)
   clear hx5 HFW hb RB;cases b1 <;> cases b2
   all_goals
    go_wp2_with fail
    go_roundw
    case rel=>exact⟨i+1,_,_,HLT.out,by first | rw[HWI.out] | go_num,rfl,rfl,RB2.out.1,RB2.out.2,X5.out⟩
    case measure=>have:=HLT.out;(try rw[HWI.out]);simp[intOf];omega
  ·obtain rfl:i=parts.length:=by omega
   have RB:=h! (show(b1=true↔∃ x∈parts,holdN X s x)/\(b2=true↔∀ x∈parts,holdN X s x)from by have:=RB.out;rwa[List.take_length]at this);have XE:=h! (XB.out.trans RX.out);have pa:=(BA.out.below RX.out).cells;have pb:=(BB.out.below RX.out).cells;have BA:=h! (BA.out.below RX.out);clear hlt hi H1 HIH HZ BB;by_cases hk0:k=0
   ·subst hk0;have HQ:=h! (HH.out wr ⟨pt,pi,pr⟩ (HX1.out.trans XE.out) HOK.out.1);unfold aC at HQ;dsimp only at HQ;have HE:=h! (show holdN X s (.mk 0 ⟨pt,pi,pr⟩ subs parts)↔X ⟨pt,pi,pr⟩from by rw[HHE.out,if_pos rfl]);go_wp2_with fail
    clear pa pb;refine HQ.out.mono ?_;rintro e w5 ⟨⟨b,rfl,hb⟩,hx5⟩;have HR:=h! (And.intro (hb.trans HE.out.symm) (XE.out.trans hx5));clear hb hx5 HQ;go_wp2_with fail
    go_ret
    exact⟨⟨b,rfl,HR.out.1⟩,HR.out.2⟩
   ·by_cases hk1:k=1
    ·subst hk1;obtain⟨aos2,cs2,e2,hcl,hcm,hcc⟩:=Sl.rows pC_length (by decide) (show Sl _ wr 3 (.slice a1 subs.length c1) (subs.flatMap pC)from(HSL.out.up XE.out));cases e2;have HCC:=h! hcc;have HCM:=h! (show subs.length<=9223372036854775807 from by omega)
     have HE:=h! (show holdN X s (.mk 1 ⟨pt,pi,pr⟩ subs parts)↔(b1=true\/∃ q∈subs,q=s\/(q.r≠⟨#[]⟩/\X q))from by
      rw[HHE.out,if_neg (by decide),if_neg (by decide),RB.out.1];refine or_congr Iff.rfl ?_;constructor
      ·rintro⟨-,h | ⟨q,hq,h⟩⟩
       ·exact⟨s,h,.inl rfl⟩
       ·exact⟨q,(setsOf_has.1 hq).1,.inr ⟨(setsOf_has.1 hq).2,h⟩⟩
      ·rintro⟨q,hq,rfl | ⟨h1,h2⟩⟩
       ·exact⟨rfl,.inl hq⟩
       ·exact⟨rfl,.inr ⟨q,setsOf_has.2 ⟨hq,h1⟩,h2⟩⟩)
     clear hk0 hcc hcl hcm HHE;go_wp2_with fail
     clear pa pb;obtain⟨w7,hw7⟩:∃ y,y=wr:=⟨_,rfl⟩;rw[<- hw7]at XE BA HCC ⊢;clear hw7 RX;go_loopw [5,56] (fun sv iv wr=>∃ (i:Nat) (b:Bool),i<=subs.length/\iv = .int .i64 i/\sv = .bool b/\(b=true↔(b1=true\/∃ q∈subs.take i,q=s\/(q.r≠⟨#[]⟩/\X q)))/\Ext w7 wr) (fun _ iv _=>subs.length-(intOf iv).toNat)
     case atStart=>exact⟨0,b1,Nat.zero_le _,rfl,rfl,by simp,Ext.refl _⟩
     case round =>
      obtain⟨i,b,hi,rfl,rfl,hb,hx⟩:=hrel;have RX:=h! hx;have RC:=h! hb;clear hx hb;by_cases hlt:i<subs.length
      ·obtain⟨bq,oq,rfl,hbq,hcell⟩:=HCC.out (by omega);have c0:=RX.out.cell (hcell i hlt 0 _ rfl);have c1:=RX.out.cell (hcell i hlt 1 _ rfl);have c2:=RX.out.cell (hcell i hlt 2 _ rfl);rw[Nat.add_zero]at c0;have HLT:=h! hlt;have HWI:=h! (show wrap64 ((i:Int)+1)=((i+1:Nat):Int)from by have:=HCM.out;unfold wrap64;omega);have HOX:=h! (HOK.out.2.1 subs[i] (List.getElem_mem hlt));have HTK:=h! (List.take_succ_eq_append_getElem hlt);generalize subs[i]=x at *;obtain⟨xt,xi,xr⟩:=x;dsimp only at c0 c1 c2
       have HST:=h! (show(∃ q∈subs.take (i+1),q=s\/(q.r≠⟨#[]⟩/\X q))↔(∃ q∈subs.take i,q=s\/(q.r≠⟨#[]⟩/\X q))\/((⟨xt,xi,xr⟩:P3)=s\/(xr≠⟨#[]⟩/\X ⟨xt,xi,xr⟩))from by
        rw[HTK.out];constructor
        ·rintro⟨q,hq,h⟩;rcases List.mem_append.1 hq with hq | hq
         ·exact .inl ⟨q,hq,h⟩
         ·obtain rfl:=List.mem_singleton.1 hq;exact .inr h
        ·rintro(⟨q,hq,h⟩ | h)
         ·exact⟨q,List.mem_append_left _ hq,h⟩
         ·exact⟨_,List.mem_append_right _ List.mem_cons_self,h⟩)
       clear hcell hbq;have hli:(i:Int)<(subs.length:Int):=by omega
       have EX:=h! (Ext.alloc wr (.cells #[.string xt,.string xi,.string xr] 33));have hby:=(Blk.made wr #[.string xt,.string xi,.string xr] 33).cells;have pa:=((BA.out.below RX.out).below EX.out).cells;have X8:=h! (RX.out.trans EX.out);clear hlt hi;cases b with
       | true =>
        go_wp2_with fail
        go_roundw
        case rel=>exact⟨i+1,true,HLT.out,by first | rw[HWI.out] | go_num,rfl,⟨fun _=>by rw[HST.out];exact(RC.out.1 rfl).imp id .inl,fun _=>rfl⟩,X8.out⟩
        case measure=>have:=HLT.out;(try rw[HWI.out]);simp[intOf];omega
       | false =>
        have HNC:=h! (show ¬ (b1=true\/∃ q∈subs.take i,q=s\/(q.r≠⟨#[]⟩/\X q))from fun h=>by have:=RC.out.2 h;cases this);have heq:=fun W=>sub_eql ⟨xt,xi,xr⟩ s W;unfold pV at heq;dsimp only at heq;by_cases hxs:(⟨xt,xi,xr⟩:P3)=s
        ·rw[decide_eq_true hxs]at heq;have HXS:=h! hxs;clear hxs;go_wp2_with fail
         go_roundw
         case rel=>exact⟨i+1,true,HLT.out,by first | rw[HWI.out] | go_num,rfl,⟨fun _=>by rw[HST.out];exact .inr (.inr (.inl HXS.out)),fun _=>rfl⟩,X8.out⟩
         case measure=>have:=HLT.out;(try rw[HWI.out]);simp[intOf];omega
        ·rw[decide_eq_false hxs]at heq;have HXS:=h! hxs;clear hxs;have hse:=isEmpty_ba xr;by_cases hxr:xr=⟨#[]⟩
         ·subst hxr;rw[decide_eq_true rfl]at hse;go_wp2_with fail
          go_roundw
          case rel=>exact⟨i+1,false,HLT.out,by first | rw[HWI.out] | go_num,rfl,⟨fun h=>(by cases h),fun h=>absurd h fun h=>by
           rw[HST.out]at h;rcases h with h | h | h | ⟨h,-⟩
           ·exact HNC.out (.inl h)
           ·exact HNC.out (.inr h)
           ·exact HXS.out h
           ·exact h rfl⟩,X8.out⟩
          case measure=>have:=HLT.out;(try rw[HWI.out]);simp[intOf];omega
         ·rw[decide_eq_false hxr]at hse;have HXR:=h! hxr;clear hxr;have HQ:=h! (HH.out _ ⟨xt,xi,xr⟩ (HX1.out.trans (XE.out.trans X8.out)) HOX.out);unfold aC at HQ;dsimp only at HQ;go_wp2_with fail
          clear pa hby c0 c1 c2 hse heq;refine HQ.out.mono ?_;rintro e w9 ⟨⟨b',rfl,hb⟩,hx9⟩;have X9:=h! (show Ext w7 w9 from X8.out.trans hx9);have HB:=h! hb;clear hb hx9 HQ;go_wp2_with fail
          go_roundw
          case rel=>exact⟨i+1,b',HLT.out,by first | rw[HWI.out] | go_num,rfl,⟨fun h=>by rw[HST.out];exact .inr (.inr (.inr ⟨HXR.out,HB.out.1 h⟩)),fun h=>by
           rw[HST.out]at h;rcases h with h | h | h | ⟨-,h⟩
           ·exact absurd (.inl h) HNC.out
           ·exact absurd (.inr h) HNC.out
           ·exact absurd h HXS.out
           ·exact HB.out.2 h⟩,X9.out⟩
          case measure=>have:=HLT.out;(try rw[HWI.out]);simp[intOf];omega
      ·obtain rfl:i=subs.length:=by omega
       have RC:=h! (show(b=true↔holdN X s (.mk 1 ⟨pt,pi,pr⟩ subs parts))from by have:=RC.out;rw[List.take_length]at this;exact this.trans HE.out.symm);clear hlt hi;go_wp2_with fail
       go_ret
       exact⟨⟨b,rfl,RC.out⟩,XE.out.trans RX.out⟩
    ·by_cases hk5:k=5
     ·subst hk5;have HE:=h! (show b2=true↔holdN X s (.mk 5 ⟨pt,pi,pr⟩ subs parts)from by rw[HHE.out,if_neg (by decide),if_pos rfl];exact RB.out.2);clear hk0 hk1 HHE;go_wp2_with fail
      go_ret
      exact⟨⟨b2,rfl,HE.out⟩,XE.out⟩
     ·have HE:=h! (show b1=true↔holdN X s (.mk k ⟨pt,pi,pr⟩ subs parts)from by
       rw[HHE.out,if_neg hk0,if_neg hk5,RB.out.1];exact⟨.inl,fun h=>h.elim id fun h=>absurd h.1 hk1⟩)
      go_wp2_with fail
      go_ret
      exact⟨⟨b1,rfl,HE.out⟩,XE.out⟩
theorem meansLaw_any (l0:List UInt8)(v:Value)(a:Nat)(ha:a<256)(w:World)(h:Sl (· < w.heap.size) w 1 v (bc l0)):Calls Tryz.prog 3 #[v,.int .u8 a] w fun e w'=>e = .returned (.bool true)/\Below w.heap.size w w':=by
 have HF:=h! (fixed28_any w);have HSL:=h! h;have HA:=h! ha;obtain⟨ao,ln,c,rfl,hln,-,hcm⟩:=h.len;rw[bc_length,Nat.mul_one]at hln;subst hln;clear h ha;go_enter Tryz.func3,Tryz.ntmps3
 go_wp2_with fail
 refine HF.out.mono ?_;rintro e w1 ⟨rfl,hb1⟩;have HB1:=h! (show Below w.heap.size w w1 from hb1);clear hb1 HF;by_cases hlen:(300:Int)<(l0.length:Int)
 ·go_wp2_with fail
  go_ret
  exact⟨rfl,HB1.out⟩
 have hx12:=Ext.alloc w1 (.cells #[.slice ao l0.length c,.int .i64 0] 41);have HT2:=h! (show Tp (w1.alloc (.cells #[.slice ao l0.length c,.int .i64 0] 41)) w1.heap.size from⟨_,l0,0,Nat.zero_le _,(HSL.out.same (Same.below (HB1.out.trans (hx12.mono HB1.out.size)))).mono fun b (hb:b<w.heap.size)=>Nat.lt_of_lt_of_le hb HB1.out.size,Blk.made _ _ _⟩);have HMK:=h! (mkOne_any _ _ HT2.out);have HB2:=h! (show Below w.heap.size w _ from HB1.out.trans (hx12.mono HB1.out.size));have HZ1:=h! (show w.heap.size<=w1.heap.size from HB1.out.size);clear hx12;go_wp2_with fail
 obtain⟨w2,hw2⟩:∃ x,x=w1.alloc (.cells #[.slice ao l0.length c,.int .i64 0] 41):=⟨_,rfl⟩;rw[<- hw2]at HT2 HMK HB2 ⊢;clear hw2;generalize w1.heap.size=tp at *;refine HMK.out.mono ?_;rintro e w3 ⟨ts,tv,lv,sv,l,shut,p,s,rfl,hgs,hty,hl,hv,hlo,hll,hso,hsl,hpo,hs,hkt⟩;obtain⟨aot,ct,rfl,-,-,-⟩:=hty.rows;obtain⟨aol,cl,rfl,-⟩:=Sl.rows tuC_length (by decide) (show Sl _ w3 6 lv (l.flatMap tuC)from hl);obtain⟨aos,cs,rfl,-⟩:=Sl.rows r2C_length (by decide) hv;have x34:=Ext.alloc w3 (.cells (caseC (.slice aot ts.length ct) (.slice aol l.length cl) (.slice aos shut.length cs) p s) 37)
 have HC:=h! (show CaseW w (w3.alloc (.cells (caseC (.slice aot ts.length ct) (.slice aol l.length cl) (.slice aos shut.length cs) p s) 37)) w3.heap.size ts (.slice aot ts.length ct) (.slice aol l.length cl) (.slice aos shut.length cs) l shut p s from by
  have hm:∀ b,(w2.heap.size<=b/\b<w3.heap.size)->b<(w3.alloc (.cells (caseC (.slice aot ts.length ct) (.slice aol l.length cl) (.slice aos shut.length cs) p s) 37)).heap.size:=fun b hb=>Nat.lt_of_lt_of_le hb.2 x34.size
  exact⟨HB2.out.trans (Below.trans (hkt.below fun b hb=>⟨Nat.lt_of_lt_of_le hb HB2.out.size,by have:=HZ1.out;omega⟩) (x34.mono (by have:=hkt.size;have:=HB2.out.size;omega))),Blk.made _ _ _,
   (hty.same fun b hb=>x34.block b hb.2).mono hm,(hl.same fun b hb=>x34.block b hb.2).mono hm,(hv.same fun b hb=>x34.block b hb.2).mono hm,hgs,hlo,hll,hso,hsl,hpo,hs⟩)
 have hcb:=HC.out.B.cells;obtain⟨T,hT⟩:=set_ex l;have HST:=h! hT;have HTA:=h! (HC.out.tree hT);have HLL:=h! (And.intro hll (fun t ht=>(hlo t ht).1));have HTL:=h! (show T.length<=24 from Nat.le_trans hT.len hll);clear hT hgs hty hl hv hlo hll hso hsl hpo hs hkt x34 HMK HT2 HB2 HB1 HSL hlen HZ1;obtain⟨d,hd3,hdq⟩:∃ d:Nat,d<=3/\(a:Int).tmod 4=(d:Int):=⟨a % 4,by omega,by rw[Int.tmod_eq_emod_of_nonneg (by omega)];simp⟩;have hd0:IntKind.u8.wrap (d:Int)=(d:Int):=IntWalk.u8_in _ (by omega);have hd1:IntKind.i64.wrap (d:Int)=(d:Int):=IntWalk.i64_in _ (by omega);have HD3:=h! hd3;go_wp2_with fail
 obtain⟨w4,hw4⟩:∃ x,x=w3.alloc (.cells (caseC (.slice aot ts.length ct) (.slice aol l.length cl) (.slice aos shut.length cs) p s) 37):=⟨_,rfl⟩;try rw[<- hw4]at HC hcb
 try rw[<- hw4]
 clear hw4;generalize w3.heap.size=cb at *;clear hcb;have hdd:d<=8:=by have:=HD3.out;omega
 obtain⟨wd,hwd⟩:∃ wd,Hid (wd=w4.drew):=⟨_,h! rfl⟩;have hxd:=h! (show Ext w4 wd from by rw[hwd.out];exact Ext.drew _);apply Code.wp_mono (Q:=JoinN (β:=Nat) wd (TreeP ts T shut p d 150 (.int .i64 0) (.int .i64 10)) _) ?rest5 ?reg5
 case reg5 =>
  have hE:=h! (Ext.refl wd);refine region_walkN (Ext wd) (by rw[<- hwd.out];exact Ext.refl _) (by kernel_rfl) (by kernel_rfl) (fun _ _ d _ _ h=>by cases h.1) ?_;rw[<- hwd.out];have hc:∀ W,Ext wd W->∀ i,W.cell? ⟨cb,i,none⟩=(#[.slice aot ts.length ct,.slice aol l.length cl,.slice aos shut.length cs,.string p.t,.string p.i,.string p.r,.string s.t,.string s.i,.string s.r]:Array Value)[i]?:=fun W h=>((HC.out.up hxd.out).up h).B.cells;have HNB:=h! (fun W (hW:Ext wd W)=>bookT_any HST.out (.slice aol l.length cl) W ((HC.out.up hxd.out).up hW).L (by have:=HLL.out.1;omega) HLL.out.2);have HWK:=h! (fun W b (hW:Ext wd W) (hB:BookAt W b T)=>treeG_any ts (.slice aot ts.length ct) b T shut (.slice aos shut.length cs) p d 150 W ((HC.out.up hxd.out).up hW).Y HTA.out hB ((HC.out.up hxd.out).up hW).V hdd (by decide));unfold pV at HWK;(refine WalkN.tk [0,1,2,3,6,7,8,9,10,11,12,13] ?_;(iterate 12 (refine c! ?_));refine TkN.n ?_)
  clear hc;refine p! 4 18 ?_ ?_;refine b! ?_;intro K hK;go_simp;refine(HNB.out wd hE.out).mono ?_;rintro e u1 ⟨bk,rfl,hB0,hx0⟩;have hX0:=Ext.trans hE.out hx0;refine hK.out _ _ hX0 ?_;clear hK;have HBK:=h! hB0;have hE:=h! hX0;clear hx0 hX0 hB0;refine t! 5 ?_
  refine p! 14 18 ?_ ?_;refine b! ?_;intro K hK;go_simp;refine(HWK.out u1 bk hE.out HBK.out).mono ?_;rintro e u2 ⟨hx1,n,so,sc,qo,qc,ev,hP1,rfl,hG1⟩;have hX1:=Ext.trans hE.out hx1;refine hK.out _ _ hX1 ?_;clear hK;have HR:=h! (show NtAt (fun x=>wd.heap.size<=x/\x<u2.heap.size) u2 n (.slice so n.subs.length sc,.slice qo n.ps.length qc)from hG1.mono fun x hx=>⟨Nat.le_trans hE.out.size hx.1,hx.2⟩);have HP:=h! hP1;have HBK:=h! (HBK.out.ext hx1);have hE:=h! hX1;clear hx1 hX1 hP1 hG1;refine t! 15 ?_
  refine t! 16 ?_
  refine t! 17 ?_
  refine o! 18 ?_;refine b! ?_;intro K hK;go_simp;obtain⟨bg,hbg⟩:∃ x,x=u2.heap.size:=⟨_,rfl⟩;rw[<- hbg];have hA2:=Ext.alloc u2 (.cells #[.int .i64 0,.string ⟨#[]⟩,.string ⟨#[]⟩,.string ⟨#[]⟩,.slice none 0 0,.slice none 0 0] 45);have hO2:Blk (u2.alloc (.cells #[.int .i64 0,.string ⟨#[]⟩,.string ⟨#[]⟩,.string ⟨#[]⟩,.slice none 0 0,.slice none 0 0] 45)) bg #[.int .i64 0,.string ⟨#[]⟩,.string ⟨#[]⟩,.string ⟨#[]⟩,.slice none 0 0,.slice none 0 0] 45:=by rw[hbg];exact Blk.made _ _ _
  have hX2:=Ext.trans hE.out hA2;have HBG:=h! (show wd.heap.size<=bg from by have:=hE.out.size;omega);have HBK:=h! (HBK.out.ext hA2);have HR:=h! (show NtAt (fun x=>x≠bg/\wd.heap.size<=x/\x<(u2.alloc (.cells #[.int .i64 0,.string ⟨#[]⟩,.string ⟨#[]⟩,.string ⟨#[]⟩,.slice none 0 0,.slice none 0 0] 45)).heap.size) (u2.alloc (.cells #[.int .i64 0,.string ⟨#[]⟩,.string ⟨#[]⟩,.string ⟨#[]⟩,.slice none 0 0,.slice none 0 0] 45)) n (.slice so n.subs.length sc,.slice qo n.ps.length qc)from(HR.out.same fun x hx=>hA2.block x hx.2).mono fun x hx=>⟨fun e=>by have:=hx.2;omega,hx.1,Nat.lt_of_lt_of_le hx.2 hA2.size⟩);refine hK.out _ _ hX2 ?_;clear hK hbg hA2;generalize u2.alloc (.cells #[.int .i64 0,.string ⟨#[]⟩,.string ⟨#[]⟩,.string ⟨#[]⟩,.slice none 0 0,.slice none 0 0] 45)=u3 at *;have hE:=h! hX2;have HG:=h! hO2;clear hO2 hX2;rotate_left
  refine b! ?_;intro K hK;go_simp;obtain⟨bg,hbg⟩:∃ x,x=u1.heap.size:=⟨_,rfl⟩;rw[<- hbg];have hA1:=Ext.alloc u1 (.cells #[.int .i64 0,.string ⟨#[]⟩,.string ⟨#[]⟩,.string ⟨#[]⟩,.slice none 0 0,.slice none 0 0] 45);have hO1:Blk (u1.alloc (.cells #[.int .i64 0,.string ⟨#[]⟩,.string ⟨#[]⟩,.string ⟨#[]⟩,.slice none 0 0,.slice none 0 0] 45)) bg #[.int .i64 0,.string ⟨#[]⟩,.string ⟨#[]⟩,.string ⟨#[]⟩,.slice none 0 0,.slice none 0 0] 45:=by rw[hbg];exact Blk.made _ _ _
  have hX1:=Ext.trans hE.out hA1;have HBG:=h! (show wd.heap.size<=bg from by have:=hE.out.size;omega);have HBK:=h! (HBK.out.ext hA1);refine hK.out _ _ hX1 ?_;clear hK hbg hA1;generalize u1.alloc (.cells #[.int .i64 0,.string ⟨#[]⟩,.string ⟨#[]⟩,.string ⟨#[]⟩,.slice none 0 0,.slice none 0 0] 45)=u2 at *;have hE:=h! hX1;have HG:=h! hO1;clear hO1 hX1;refine o! 14 ?_;refine b! ?_;intro K hK;go_simp;refine(HWK.out u2 bk hE.out HBK.out).mono ?_;rintro e u3 ⟨hx2,n,so,sc,qo,qc,ev,hP2,rfl,hG2⟩;have hX2:=Ext.trans hE.out hx2;refine hK.out _ _ hX2 ?_;clear hK;have HR:=h! (show NtAt (fun x=>x≠bg/\wd.heap.size<=x/\x<u3.heap.size) u3 n (.slice so n.subs.length sc,.slice qo n.ps.length qc)from hG2.mono fun x hx=>⟨fun e=>by have:=HG.out.lt;have:=hx.1;omega,Nat.le_trans hE.out.size hx.1,hx.2⟩);have HG:=h! (HG.out.below hx2);have HP:=h! hP2;have HBK:=h! (HBK.out.ext hx2);have hE:=h! hX2;clear hx2 hX2 hP2 hG2;refine t! 15 ?_
  refine t! 16 ?_
  refine t! 17 ?_
  rotate_left
  refine b! ?_;intro K hK;go_simp;obtain⟨bg,hbg⟩:∃ x,x=wd.heap.size:=⟨_,rfl⟩;rw[<- hbg];have hA0:=Ext.alloc wd (.cells #[.int .i64 0,.string ⟨#[]⟩,.string ⟨#[]⟩,.string ⟨#[]⟩,.slice none 0 0,.slice none 0 0] 45);have hO0:Blk (wd.alloc (.cells #[.int .i64 0,.string ⟨#[]⟩,.string ⟨#[]⟩,.string ⟨#[]⟩,.slice none 0 0,.slice none 0 0] 45)) bg #[.int .i64 0,.string ⟨#[]⟩,.string ⟨#[]⟩,.string ⟨#[]⟩,.slice none 0 0,.slice none 0 0] 45:=by rw[hbg];exact Blk.made _ _ _
  have hX0:=Ext.trans hE.out hA0;have HBG:=h! (show wd.heap.size<=bg from by have:=hE.out.size;omega);refine hK.out _ _ hX0 ?_;clear hK hbg hA0;generalize wd.alloc (.cells #[.int .i64 0,.string ⟨#[]⟩,.string ⟨#[]⟩,.string ⟨#[]⟩,.slice none 0 0,.slice none 0 0] 45)=u1 at *;have hE:=h! hX0;have HG:=h! hO0;clear hO0 hX0;refine o! 4 ?_;refine b! ?_;intro K hK;go_simp;refine(HNB.out u1 hE.out).mono ?_;rintro e u2 ⟨bk,rfl,hB1,hx1⟩;have hX1:=Ext.trans hE.out hx1;refine hK.out _ _ hX1 ?_;clear hK;have HBK:=h! hB1;have HG:=h! (HG.out.below hx1);have hE:=h! hX1;clear hx1 hX1 hB1;refine t! 5 ?_
  refine o! 14 ?_;refine b! ?_;intro K hK;go_simp;refine(HWK.out u2 bk hE.out HBK.out).mono ?_;rintro e u3 ⟨hx2,n,so,sc,qo,qc,ev,hP2,rfl,hG2⟩;have hX2:=Ext.trans hE.out hx2;refine hK.out _ _ hX2 ?_;clear hK;have HR:=h! (show NtAt (fun x=>x≠bg/\wd.heap.size<=x/\x<u3.heap.size) u3 n (.slice so n.subs.length sc,.slice qo n.ps.length qc)from hG2.mono fun x hx=>⟨fun e=>by have:=HG.out.lt;have:=hx.1;omega,Nat.le_trans hE.out.size hx.1,hx.2⟩);have HG:=h! (HG.out.below hx2);have HP:=h! hP2;have HBK:=h! (HBK.out.ext hx2);have hE:=h! hX2;clear hx2 hX2 hP2 hG2;refine t! 15 ?_
  refine t! 16 ?_
  refine t! 17 ?_
  rotate_left
  all_goals
   refine o! 19 ?_;refine b! ?_;intro K hK;have hg:=HG.out.cells;have hf:=HG.out.free;go_simp;have hS3:=((((((HG.out.set_to (cs':=#[.int .i64 n.k,.string ⟨#[]⟩,.string ⟨#[]⟩,.string ⟨#[]⟩,.slice none 0 0,.slice none 0 0]) 0 (.int .i64 n.k) rfl).set_to (cs':=#[.int .i64 n.k,.string n.p.t,.string ⟨#[]⟩,.string ⟨#[]⟩,.slice none 0 0,.slice none 0 0]) 1 (.string n.p.t) rfl).set_to (cs':=#[.int .i64 n.k,.string n.p.t,.string n.p.i,.string ⟨#[]⟩,.slice none 0 0,.slice none 0 0]) 2 (.string n.p.i) rfl).set_to (cs':=#[.int .i64 n.k,.string n.p.t,.string n.p.i,.string n.p.r,.slice none 0 0,.slice none 0 0]) 3 (.string n.p.r) rfl).set_to (cs':=#[.int .i64 n.k,.string n.p.t,.string n.p.i,.string n.p.r,.slice so n.subs.length sc,.slice none 0 0]) 4 (.slice so n.subs.length sc) rfl).set_to (cs':=#[.int .i64 n.k,.string n.p.t,.string n.p.i,.string n.p.r,.slice so n.subs.length sc,.slice qo n.ps.length qc]) 5 (.slice qo n.ps.length qc) rfl);have hX3:Ext wd ((((((u3.setCell ⟨bg,0,none⟩ (.int .i64 n.k)).setCell ⟨bg,1,none⟩ (.string n.p.t)).setCell ⟨bg,2,none⟩ (.string n.p.i)).setCell ⟨bg,3,none⟩ (.string n.p.r)).setCell ⟨bg,4,none⟩ (.slice so n.subs.length sc)).setCell ⟨bg,5,none⟩ (.slice qo n.ps.length qc)):=Ext.put6 hE.out HBG.out _ _ _ _ _ _;have hR3:=(HR.out.same (w':=((((((u3.setCell ⟨bg,0,none⟩ (.int .i64 n.k)).setCell ⟨bg,1,none⟩ (.string n.p.t)).setCell ⟨bg,2,none⟩ (.string n.p.i)).setCell ⟨bg,3,none⟩ (.string n.p.r)).setCell ⟨bg,4,none⟩ (.slice so n.subs.length sc)).setCell ⟨bg,5,none⟩ (.slice qo n.ps.length qc))) fun x hx=>put6_other _ _ _ _ _ _ hx.1).mono (S':=fun x=>x≠bg/\wd.heap.size<=x/\x<((((((u3.setCell ⟨bg,0,none⟩ (.int .i64 n.k)).setCell ⟨bg,1,none⟩ (.string n.p.t)).setCell ⟨bg,2,none⟩ (.string n.p.i)).setCell ⟨bg,3,none⟩ (.string n.p.r)).setCell ⟨bg,4,none⟩ (.slice so n.subs.length sc)).setCell ⟨bg,5,none⟩ (.slice qo n.ps.length qc)).heap.size) fun x hx=>⟨hx.1,hx.2.1,by simpa using hx.2.2⟩;refine hK.out _ _ hX3 ?_;clear hK hg hf;generalize (((((u3.setCell ⟨bg,0,none⟩ (.int .i64 n.k)).setCell ⟨bg,1,none⟩ (.string n.p.t)).setCell ⟨bg,2,none⟩ (.string n.p.i)).setCell ⟨bg,3,none⟩ (.string n.p.r)).setCell ⟨bg,4,none⟩ (.slice so n.subs.length sc)).setCell ⟨bg,5,none⟩ (.slice qo n.ps.length qc)=u4 at *;refine t! 20 ?_
   refine d! ?_;obtain⟨gk,-⟩:∃ z:Nat,z=0:=⟨_,rfl⟩;exact⟨rfl,gk,bk,bg,so,sc,qo,qc,n,ev,rfl,HP.out,hX3,HBG.out,hS3,hR3⟩
 rintro e _ W5 ⟨rfl,gk5,bk5,bg5,so5,sc5,qo5,qc5,n5,ev5,rfl,hP5,hX,hbg,hblk,hgr⟩;try dsimp only
 have X5:=h! (show Ext w4 W5 from Ext.trans hxd.out hX);have HC:=h! (HC.out.up X5.out);have B5:=h! hblk;have N5:=h! (hgr.mono (S':=(· < W5.heap.size)) fun x hx=>hx.2.2);have P5:=h! hP5;clear hX hbg hblk hgr hxd hwd hP5;clear hdd hdq hd0 hd1 hd3;have HFA:=h! (treeE_fine (ts:=ts) (T:=T) (shut:=shut) HTA.out.rok HTA.out.subs d p HTA.out.pok);rcases P5.out with⟨hsa,rfl,rfl⟩ | ⟨hsa,rfl,rfl⟩
 case inr =>
  clear hsa;go_wp2_with fail
  go_ret
  exact⟨rfl,HC.out.X⟩
 have HSA:=h! hsa;have HTX:=h! (treeE_hold (ts:=ts) (T:=T) (shut:=shut) (s:=s) (fun x hx=>chk_ruleE HTA.out.chk hx) d p);clear hsa P5 X5;generalize treeE ts T shut d p=nA at *;go_wp2_with fail
 obtain⟨wd,hwd⟩:∃ wd,Hid (wd=W5.drew):=⟨_,h! rfl⟩;have hxd:=h! (show Ext W5 wd from by rw[hwd.out];exact Ext.drew _);refine r! (Ext wd) (by rw[<- hwd.out];exact Ext.refl _) ?_;rw[<- hwd.out];have HC:=h! (HC.out.up hxd.out);have B5:=h! (B5.out.below hxd.out);have N5:=h! (N5.out.up hxd.out);clear hwd hxd;have hc:∀ W,Ext wd W->∀ i,W.cell? ⟨cb,i,none⟩=(#[.slice aot ts.length ct,.slice aol l.length cl,.slice aos shut.length cs,.string p.t,.string p.i,.string p.r,.string s.t,.string s.i,.string s.r]:Array Value)[i]?:=fun W h=>(HC.out.up h).B.cells;have h5:=fun W (h:Ext wd W)=>(B5.out.below h).cells;(refine WalkN.tk [0,1,3,4,5,6,7,8,9,10] ?_;(iterate 10 (refine c! ?_));refine TkN.n ?_)
 clear hc h5;have HHO:=h! (holds_any (Den ts T shut s) wd aot ts.length ct aol l.length cl aos shut.length cs p s (fun W' q hx hq=>HC.out.has27 HST.out hx q s hq) nA (.slice so5 nA.subs.length sc5,.slice qo5 nA.ps.length qc5) wd (Ext.refl _) N5.out HFA.out.ok (by have:=HSA.out;omega));unfold nV2 at HHO;refine o! 2 ?_;refine b! ?_;intro K hK;go_simp;refine HHO.out.mono ?_;rintro e u1 ⟨⟨b1,rfl,hb1⟩,hx1⟩;have E1:=h! hx1;have HB1:=h! (hb1.trans HTX.out);refine hK.out _ _ E1.out ?_;clear hK HHO hb1 hx1;have HHA:=h! (HC.out.has27 HST.out E1.out p s HC.out.pok);unfold aC at HHA;refine o! 11 ?_;refine b! ?_;intro K hK;go_simp;refine HHA.out.mono ?_;rintro e u2 ⟨⟨b2,rfl,hb2⟩,hx2⟩
 obtain rfl:b1=b2:=by
  rw[Bool.eq_iff_iff];exact HB1.out.trans hb2.symm
 have HX:=h! (HC.out.up (E1.out.trans hx2)).X;refine hK.out _ _ (E1.out.trans hx2) ?_;clear hK HHA hb2 hx2 HB1 HTX HC B5 N5;(refine WalkN.tk [12,13] ?_;(iterate 2 (refine c! ?_));refine TkN.n ?_)
 refine d! ?_;cases b1 <;> (go_wp2_with fail;go_ret;exact⟨rfl,HX.out⟩)
end Go.Proofs.YtlhaghoajpglaaaGreat
