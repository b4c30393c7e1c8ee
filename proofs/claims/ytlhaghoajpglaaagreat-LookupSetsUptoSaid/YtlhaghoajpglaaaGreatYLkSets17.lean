/- Lemmas for the claim, no condition. -/
import Derived.Test.YtlhaghoajpglaaaGreatYLkSets16
import Derived.Test.YtlhaghoajpglaaaGreatYLkSets2
import Derived.Test.YtlhaghoajpglaaaGreatYLkSets10
import Derived.Test.YtlhaghoajpglaaaGreatYLkSets13
import Derived.Test.YtlhaghoajpglaaaGreatYLkSets14
import Derived.Test.YtlhaghoajpglaaaGreatYLkSets0
import Derived.Test.YtlhaghoajpglaaaGreatYLkSets1
import Derived.Test.YtlhaghoajpglaaaGreatYLkSets6
import Derived.Test.YtlhaghoajpglaaaGreatYLkSets8
import Derived.Test.YtlhaghoajpglaaaGreatYLkSets11
set_option maxRecDepth 100000
set_option maxHeartbeats 10000000
namespace Go.Proofs.YtlhaghoajpglaaaGreat
open Go Go.RowKit Go.Maps
theorem subsOf_len (T:List Tup)(p:P3):(subsOf T p).length<=T.length:=by
 unfold subsOf;rw[List.length_map];exact List.length_filter_le _ _
theorem headF_refs (T:List Tup)(p:P3)(k:Int)(a b:ByteArray)(ps:List P3):(headF T p k a b ps).2.1.length<=T.length+1:=by
 unfold headF;split
 ·have h1:=refsD_len1 (setsOf (subsOf T p)) ps [];have h2:=subsOf_len T p;have h3:(setsOf (subsOf T p)).length<=(subsOf T p).length:=List.length_filter_le _ _;simp only[List.length_nil]at h1;dsimp only;omega
 ·split
  ·simp
  ·split
   ·have h1:=refsD_len1 (viaOf b (subsOf T ⟨p.t,p.i,a⟩)) ps [];have h2:=subsOf_len T ⟨p.t,p.i,a⟩;have h3:(viaOf b (subsOf T ⟨p.t,p.i,a⟩)).length<=(subsOf T ⟨p.t,p.i,a⟩).length:=by unfold viaOf;rw[List.length_map];exact List.length_filter_le _ _
    simp only[List.length_nil]at h1;dsimp only;omega
   ·simp
theorem formD_named (T:List Tup)(p:P3)(r:RT):∀ ps,(formD T p r ps).1.named.length<=r.sz*(T.length+1):=by
 induction r using RT.ind with
 | h r ih =>
  intro ps
  have:∀ (l:List RT) (qs:List P3),(∀ x∈l,x∈r.ps)->(nmdL (formsD T p l qs).1).length<=szL l*(T.length+1):=by
   intro l;induction l with
   | nil=>intro qs _;simp[formsD,nmdL]
   | cons x l ihl =>
    intro qs hx;rw[formsD,nmdL,szL,List.length_append,Nat.add_mul];have h1:=ih x (hx x (by simp)) qs;have h2:=ihl (formD T p x qs).2 fun y hy=>hx y (List.mem_cons_of_mem _ hy);omega
  have h1:=this r.ps (headF T p r.k r.a r.b ps).2.2 fun _ h=>h;have h2:=headF_refs T p r.k r.a r.b ps;rw[formD_eq];simp only;rw[FT.named_eq,List.length_append];obtain⟨k,a,b,parts⟩:=r;rw[RT.sz,Nat.add_mul];simp only[FT.refs,FT.ps,RT.k,RT.a,RT.b,RT.ps]at h1 h2 ⊢;omega
theorem walkN_named {ts:List TyS} {T:List Tup} {M:Nat} (h:∀ x∈refsOf ts,x.2.sz*(T.length+1)<=M)(shut:List R2)(p:P3):∀ n,(nmdL (walkN ts T shut p n).2).length<=n*M
 | 0=>by simp[walkN,nmdL]
 | n+1=>by
  have ih:=walkN_named h shut p n;rw[walkN];simp only;rw[nmdL_append,List.length_append,Nat.add_mul]
  have h2:(nmdL [(stepG ts T shut ((walkN ts T shut p n).1.getD n p) (walkN ts T shut p n).1).1]).length<=M:=by
   rw[nmdL,nmdL,List.append_nil];unfold stepG;split
   ·next r hr =>
    unfold ruleOf at hr;split at hr
    ·cases hr
    ·exact Nat.le_trans (formD_named T _ r _) (h _ (look_mem hr))
   ·simp[FT.zero,FT.named,nmdL]
  omega
def aC (p s:P3):Array Value:=#[.string p.t,.string p.i,.string p.r,.string s.t,.string s.i,.string s.r]
def HasSaid (ts:List TyS)(T:List Tup)(shut:List R2)(p s:P3)(most:Int)(e:Ending):Prop :=
 (∃ n b,WalkEnd ts T shut p most n/\e = .returned (.tuple #[.bool b,.int .i64 0])/\(b=true↔0<(solveR (walkN ts T shut p n).2 s n).getD 0 0))\/(WalkLong ts T shut p most/\e = .returned (.tuple #[.bool false,.int .i64 10]))
structure HasArg (ts:List TyS)(T:List Tup)(shut:List R2)(p:P3):Prop where
 ok:∀ t∈ts,t.Ok
 chk:chk06 ts=0
 bk:schB ts<=549755813888
 sz:∀ t∈ts,∀ r∈t.rels,r.2.sz<=1000000
 nms:(namesOf ts).length<=1099511627776
 rfs:(refsOf ts).length<=1099511627776
 sho:∀ r∈shut,r.Ok
 wk:WalkIn ts T shut p 1000000
 rm:∀ x∈refsOf ts,x.2.sz*(T.length+1)<=1000000
theorem hasP_any (ts:List TyS)(tv:Value)(b:Nat)(T:List Tup)(shut:List R2)(sv:Value)(p s:P3)(most:Int)(w:World)(h:TysAt (· < w.heap.size) w ts tv)(hA:HasArg ts T shut p)(hbk:BookAt w b T)(hsv:Sl (· < w.heap.size) w 2 sv (shut.flatMap r2C)) :
  Calls Tryz.prog 36 #[.agg #[tv],bkV b,sv,.agg (aC p s),.int .i64 most] w fun e w'=>HasSaid ts T shut p s most e/\Ext w w':=by
 have HA:=h! hA;obtain⟨ao,c,rfl,-⟩:=h.rows;obtain⟨so,sc,rfl,-⟩:=Sl.rows r2C_length (by decide) hsv;obtain⟨wa,hwa⟩:∃ x,x=w.alloc (.cells #[.slice ao ts.length c] 26):=⟨_,rfl⟩;obtain⟨wb,hwb⟩:∃ x,x=wa.alloc (.cells (aC p s) 35):=⟨_,rfl⟩;have ea:wa.heap.size=w.heap.size+1:=by rw[hwa];simp
 have xa:Ext w wa:=by rw[hwa];exact Ext.alloc _ _
 have xb:Ext wa wb:=by rw[hwb];exact Ext.alloc _ _
 have XB:=h! (show Ext w wb from xa.trans xb);have BS:=h! (show Blk wb w.heap.size #[.slice ao ts.length c] 26 from Blk.below (by rw[hwa];exact Blk.made _ _ _) xb);have BA:=h! (show Blk wb (w.heap.size+1) (aC p s) 35 from by rw[hwb,<- ea];exact Blk.made _ _ _);have HWK:=h! (walkW_any ts (.slice ao ts.length c) b T shut (.slice so shut.length sc) p most 1000000 wb (h.up XB.out) hA.ok hA.chk hA.bk hA.sz hA.nms hA.rfs (hbk.ext XB.out) ((hsv.same (Same.below XB.out)).mono fun _ hb=>Nat.lt_of_lt_of_le hb XB.out.size) hA.sho hA.wk);have hS:=BS.out.cells;have hAc:=BA.out.cells;clear h hbk hsv hA ea xa xb;unfold pV at HWK;unfold aC at *;subst hwb hwa;go_enter Tryz.func36,Tryz.ntmps36
 go_wp2_with fail
 refine HWK.out.mono ?_;rintro e w1 ⟨hx,⟨n,pv,fv,hwe,rfl,hgr⟩ | ⟨hlg,rfl⟩⟩
 case' inr =>
  have HL:=h! hlg;have X2:=h! (show Ext w (w1.alloc (.cells #[.slice none 0 0,.slice none 0 0] 96))from Ext.trans XB.out (Ext.trans hx (Ext.alloc _ _)));clear hx hlg HWK hS hAc;go_wp2_with fail
  go_ret2
  exact⟨.inr ⟨HL.out,rfl⟩,X2.out⟩
 case' inl =>
  obtain⟨ap,cp,af,cf,rfl,rfl,-⟩:=hgr.rows;have HE:=h! hwe;have HL:=h! (show(walkN ts T shut p n).1.length=n from hwe.2.symm);have HFL:=h! (show(walkN ts T shut p n).2.length=n from walkN_forms ts T shut p n);have HN:=h! (show n<=1000000 from by have:=HA.out.wk.few n;rw[HL.out]at this;exact this)
  have HNN:=h! (show(nmdL (walkN ts T shut p n).2).length<=1000000000000 from by
   have h1:=walkN_named HA.out.rm shut p n;have h2:n*1000000<=1000000*1000000:=Nat.mul_le_mul_right _ HN.out;omega)
  have HPO:=h! (show 0<n from by
   have h2:=hwe.2;have:=walk_mono ts T shut p (Nat.zero_le n);rw[<- h2,walkN]at this;simp at this;omega)
  rw[HL.out,HFL.out]at hgr ⊢;generalize (walkN ts T shut p n).1=ps at *;generalize hfs:(walkN ts T shut p n).2=fs at *;have HFS:=h! hfs;clear hfs;have X2:=h! (Ext.alloc w1 (.cells #[.slice ap n cp,.slice af n cf] 96));have HSV:=h! (solveP_any s ps fs (.slice ap n cp) (.slice af n cf) _ ((hgr.same (w':=w1.alloc (.cells #[.slice ap n cp,.slice af n cf] 96)) fun b hb=>X2.out.block b hb.2).mono fun b hb=>Nat.lt_of_lt_of_le hb.2 X2.out.size) (by rw[HL.out];exact HN.out) (by rw[HFL.out];exact HN.out) HNN.out);have XW:=h! (show Ext w (w1.alloc (.cells #[.slice ap n cp,.slice af n cf] 96))from Ext.trans XB.out (Ext.trans hx X2.out));have hB2:=(BA.out.below (Ext.trans hx X2.out)).cells;have hG:=(Blk.made w1 #[.slice ap n cp,.slice af n cf] 96).cells;clear hx hgr hwe HWK hS hAc;unfold pV at HSV;go_wp2_with fail
  clear hG hB2;refine HSV.out.mono ?_;rintro e w3 ⟨⟨v,rfl,ho⟩,hb3⟩;have X3:=h! (show Ext w w3 from Ext.trans XW.out hb3);have HLN:=h! (show(solveR fs s n).length=n from outN_length n);rw[HL.out]at ho
  obtain⟨g,c3,cs,rfl,-,hB,-,-,hcs⟩:=ho.lay (by
   intro e;have:=congrArg List.length e;rw[ic_length,HLN.out,List.length_nil]at this;have:=HPO.out;omega)
  have c0:w3.cell? ⟨g,0,none⟩=some (.int .i64 ((solveR fs s n).getD 0 0)):=by
   have h1:0<(ic (solveR fs s n)).length:=by rw[ic_length,HLN.out];exact HPO.out
   rw[hB.cells 0,hcs 0 h1];simp only[ic,List.getElem_map];rw[List.getD_eq_getElem?_getD,List.getElem?_eq_getElem (by rw[HLN.out];exact HPO.out)];rfl
  have hni:(0:Int)<(((ic (solveR fs s n)).length:Nat):Int):=by rw[ic_length,HLN.out];have:=HPO.out;omega
  have hni2:0<(ic (solveR fs s n)).length:=by omega
  clear hb3 ho hB hcs HSV;generalize (ic (solveR fs s n)).length=m at *;obtain⟨z,hz⟩:∃ z,Hid ((solveR fs s n).getD 0 0=z):=⟨_,h! rfl⟩;rw[hz.out]at c0;go_wp2_with fail
  go_ret2
  refine⟨.inl ⟨n,_,HE.out,rfl,?_⟩,X3.out⟩;rw[HFS.out,hz.out];simp
theorem chk_ruleL {ts:List TyS} (h:chk06 ts=0) {p:R2 × RT} (hp:p∈refsOf ts):p.2.textOk 0=true:=by
 have h0:printOk ts=true:=by
  unfold chk06 at h;split at h
  ·assumption
  ·cases h
 obtain⟨t,ht,r,hr,rfl⟩:=refs_mem.1 hp;have h1:=List.all_eq_true.1 h0 t ht;unfold tyOk at h1;rw[Bool.and_eq_true]at h1;have h2:=List.all_eq_true.1 h1.2 r hr;unfold relOk at h2;simp only[Bool.and_eq_true]at h2;exact h2.1.1
def SubL (ts:List TyS)(T:List Tup)(shut:List R2)(p:P3)(typ:ByteArray)(l:List O2):Prop:=UpO l/\∀ o,o∈l↔o.t=typ/\Den ts T shut (oS o) p
def SubSaid (ts:List TyS)(T:List Tup)(shut:List R2)(p:P3)(typ:ByteArray)(most:Int)(ok long:Value)(e:Ending)(w':World):Prop :=
 (∃ n v l,WalkEnd ts T shut p most n/\e = .returned (.tuple #[v,ok])/\Sl (· < w'.heap.size) w' 2 v (ocs l)/\SubL ts T shut p typ l)\/(WalkLong ts T shut p most/\e = .returned (.tuple #[.slice none 0 0,long]))
theorem WalkEnd.pos {ts:List TyS} {T:List Tup} {shut:List R2} {p:P3} {most:Int} {n:Nat} (h:WalkEnd ts T shut p most n):0<n:=by
 have h2:=h.2;have:=walk_mono ts T shut p (Nat.zero_le n);rw[<- h2,walkN]at this;simp at this;omega
theorem ths_subj {ts:List TyS} {T:List Tup} {shut:List R2} {p:P3} {most:Int} {n:Nat} (h:WalkEnd ts T shut p most n)(hc:chk06 ts=0):∀ f∈(walkN ts T shut p n).2,∀ s∈f.ths,∃ t∈T,t.s=s :=
 fun f hf=>(h.forms (fun _x hx=>chk_ruleL hc hx) f hf).2
theorem sub_list {ts:List TyS} {T:List Tup} {shut:List R2} {p:P3} {typ:ByteArray} {most:Int} {n:Nat} (h:WalkEnd ts T shut p most n)(hc:chk06 ts=0) {A ss:List O2} (hp:ss.Perm A)(hs:SrtI ss)(hn:A.Nodup)(hA:∀ o∈A,SbI typ (thsL (walkN ts T shut p n).2) o)
  (hd:∀ o,SbI typ (thsL (walkN ts T shut p n).2) o->(o∈A↔0<(solveR (walkN ts T shut p n).2 (oS o) n).getD 0 0)):SubL ts T shut p typ ss:=by
 refine⟨upI_sorted (fun o ho=>(hA o (hp.mem_iff.1 ho)).2) hs (hp.nodup_iff.2 hn),fun o=>?_⟩;rw[hp.mem_iff,h.den_iff (oS o)];constructor
 ·exact fun ho=>⟨(hA o ho).2,(hd o (hA o ho)).1 ho⟩
 ·rintro⟨ht,h0⟩;obtain⟨f,hf,hs⟩:=in_named h (fun x hx=>chk_ruleL hc hx) h.pos h0;exact(hd o ⟨thsL_mem.2 ⟨f,hf,hs⟩,ht⟩).2 h0
theorem subjects_any (ts:List TyS)(tv:Value)(b:Nat)(T:List Tup)(shut:List R2)(sv:Value)(p:P3)(typ:ByteArray)(most:Int)(w:World)(h:TysAt (· < w.heap.size) w ts tv)(hA:HasArg ts T shut p)(hbk:BookAt w b T)(hsv:Sl (· < w.heap.size) w 2 sv (shut.flatMap r2C)) :
  Calls Tryz.prog 60 #[.agg #[tv],bkV b,sv,pV p,.string typ,.int .i64 most] w fun e w'=>SubSaid ts T shut p typ most (.int .i64 0) (.int .i64 10) e w'/\Ext w w':=by
 have HA:=h! hA;obtain⟨ao,c,rfl,-⟩:=h.rows;obtain⟨so,sc,rfl,-⟩:=Sl.rows r2C_length (by decide) hsv;obtain⟨wa,hwa⟩:∃ x,x=w.alloc (.cells #[.slice ao ts.length c] 26):=⟨_,rfl⟩;obtain⟨wb,hwb⟩:∃ x,x=wa.alloc (.cells #[.string p.t,.string p.i,.string p.r] 32):=⟨_,rfl⟩;have ea:wa.heap.size=w.heap.size+1:=by rw[hwa];simp
 have xa:Ext w wa:=by rw[hwa];exact Ext.alloc _ _
 have xb:Ext wa wb:=by rw[hwb];exact Ext.alloc _ _
 have XB:=h! (show Ext w wb from xa.trans xb);have BS:=h! (show Blk wb w.heap.size #[.slice ao ts.length c] 26 from Blk.below (by rw[hwa];exact Blk.made _ _ _) xb);have BA:=h! (show Blk wb (w.heap.size+1) #[.string p.t,.string p.i,.string p.r] 32 from by rw[hwb,<- ea];exact Blk.made _ _ _);have HWK:=h! (walkG_any ts (.slice ao ts.length c) b T shut (.slice so shut.length sc) p most 1000000 wb (h.up XB.out) hA.ok hA.chk hA.bk hA.sz hA.nms hA.rfs (hbk.ext XB.out) ((hsv.same (Same.below XB.out)).mono fun _ hb=>Nat.lt_of_lt_of_le hb XB.out.size) hA.sho hA.wk);have hS:=BS.out.cells;have hAc:=BA.out.cells;clear h hbk hsv hA ea xa xb;unfold pV at *;subst hwb hwa;go_enter Tryz.func60,Tryz.ntmps60
 go_wp2_with fail
 refine HWK.out.mono ?_;rintro e w1 ⟨hx,ps,fs,po,pc,fo,fc,ev,⟨n,hwe,rfl,rfl,rfl⟩ | ⟨hlg,rfl,rfl,rfl⟩,rfl,hgr⟩
 case' inr =>
  have HL:=h! hlg;have X2:=h! (show Ext w (w1.alloc (.cells #[.slice po 0 pc,.slice fo 0 fc] 96))from Ext.trans XB.out (Ext.trans hx (Ext.alloc _ _)));clear hx hlg HWK hS hAc hgr;go_wp2_with fail
  go_ret2
  exact⟨.inr ⟨HL.out,rfl⟩,X2.out⟩
 case' inl =>
  have HE:=h! hwe;have HL:=h! (show(walkN ts T shut p n).1.length=n from hwe.2.symm);have HFL:=h! (show(walkN ts T shut p n).2.length=n from walkN_forms ts T shut p n);have HN:=h! (show n<=1000000 from by have:=HA.out.wk.few n;rw[HL.out]at this;exact this);have X2:=h! (Ext.alloc w1 (.cells #[.slice po (walkN ts T shut p n).1.length pc,.slice fo (walkN ts T shut p n).2.length fc] 96));have HSV:=h! (solveS_any _ _ _ _ typ _ ((hgr.same (w':=w1.alloc (.cells #[.slice po (walkN ts T shut p n).1.length pc,.slice fo (walkN ts T shut p n).2.length fc] 96)) fun b hb=>X2.out.block b hb.2).mono fun b hb=>Nat.lt_of_lt_of_le hb.2 X2.out.size) (fun f hf s hs=>by obtain⟨t,ht,rfl⟩:=ths_subj hwe HA.out.chk f hf s hs;exact HA.out.wk.tok t ht) (by rw[HL.out];have:=HN.out;omega));have XW:=h! (show Ext w (w1.alloc (.cells #[.slice po (walkN ts T shut p n).1.length pc,.slice fo (walkN ts T shut p n).2.length fc] 96))from Ext.trans XB.out (Ext.trans hx X2.out));have hG:=(Blk.made w1 #[.slice po (walkN ts T shut p n).1.length pc,.slice fo (walkN ts T shut p n).2.length fc] 96).cells;clear hx hgr hwe HWK hS hAc;go_wp2_with fail
  clear hG;refine HSV.out.mono ?_;rintro e w3 ⟨iv,rfl,ms,L,hrow,hmem,hlen,hsub,hdone,hb3⟩;have X3:=h! (show Ext w w3 from Ext.trans XW.out hb3);rw[HL.out]at hlen hdone;have hL0:0<L.length:=by rw[hlen];exact HE.out.pos
  have hm0:0<ms.length:=by rw[hmem.len];exact hL0
  obtain⟨io,nn,c3,rfl,-⟩:=hrow.len;obtain⟨rfl,hat⟩:=ms_at hrow;obtain⟨b0,off0,rfl,hb0,c0⟩:=hat 0 hm0;have hOS:=hmem.sets 0 hm0 hL0
  have HFE:=h! (show L[0].length<=549755813888 from by
   have h1:=obj_few (T:=T) (OS.nodup hOS) fun o ho=>by
    obtain⟨h2,-⟩:=hsub _ (List.getElem_mem hL0) o ho;obtain⟨f,hf,hs⟩:=thsL_mem.1 h2;obtain⟨t,ht,e⟩:=ths_subj HE.out HA.out.chk f hf _ hs;exact⟨t,ht,.inr (by rw[e];rfl)⟩
   have:=HA.out.wk.tlen;omega)
  have HSR:=h! (sortedS_any ms[0] L[0] w3 hOS HFE.out)
  have HFN:=h! (fun(ss:List O2) (hp:ss.Perm L[0]) (hs:SrtI ss)=>sub_list (typ:=typ) HE.out HA.out.chk hp hs (OS.nodup hOS) (hsub _ (List.getElem_mem hL0)) fun o ho=>by
   have h1:=hdone o ho 0 HE.out.pos;rwa[getD_in hL0]at h1)
  have hni:(0:Int)<(ms.length:Int):=by omega
  rw[Nat.add_zero]at c0;generalize ms[0]=m0 at *;generalize L[0]=A0 at *;clear hb3 hrow hmem hlen hsub hdone hat hb0 hOS HSV;go_wp2_with fail
  refine HSR.out.mono ?_;rintro e w4 ⟨v,ss,rfl,hp,hs,ho,hb4⟩;have HLS:=h! (HFN.out ss hp hs);have HO:=h! ho.slU;have X4:=h! (show Ext w w4 from Ext.trans X3.out hb4);obtain⟨vo,vn,vc,rfl,-⟩:=ho.sl.len;clear hp hs ho hb4 HSR c0;go_wp2_with fail
  go_ret2
  exact⟨.inl ⟨n,_,ss,HE.out,rfl,HO.out,HLS.out⟩,X4.out⟩
end Go.Proofs.YtlhaghoajpglaaaGreat
namespace Go.Proofs.YtlhaghoajpglaaaGreat
open Go Go.RowKit Go.Maps
open Classical in
noncomputable def denB (ts:List TyS) (T:List Tup) (shut:List R2) (s:P3) (rr:ByteArray) (o:O2):Bool:=decide (Den ts T shut s ⟨o.t,o.i,rr⟩)
theorem denB_iff {ts:List TyS} {T:List Tup} {shut:List R2} {s:P3} {rr:ByteArray} {o:O2}:denB ts T shut s rr o=true↔Den ts T shut s ⟨o.t,o.i,rr⟩:=by unfold denB;simp
def ObjsOf (T:List Tup)(typ:ByteArray)(l:List O2):Prop:=UpO l/\∀ o,o∈l↔o.t=typ/\ObjIn T o
theorem UpO.nodup {l:List O2} (h:UpO l):l.Nodup:=List.Pairwise.imp (fun {a b} h e=>by
 rw[e]at h;have:=ltP_irr (oS b);unfold ltO at h;rw[this]at h;cases h) h
def ObjsSaid (ts:List TyS)(T:List Tup)(shut:List R2)(rt rr:ByteArray)(s:P3)(most:Int)(ok long:Value)(e:Ending)(w':World):Prop :=
 ∃ l,ObjsOf T rt l/\((∃ v,(∀ o∈l,∃ n,WalkEnd ts T shut ⟨o.t,o.i,rr⟩ most n)/\e = .returned (.tuple #[v,ok])/\Sl (· < w'.heap.size) w' 2 v (ocs (l.filter (denB ts T shut s rr)))) \/
  ((∃ o∈l,WalkLong ts T shut ⟨o.t,o.i,rr⟩ most)/\e = .returned (.tuple #[.slice none 0 0,long])))
theorem objectsF_any (ts:List TyS)(tv sv mv:Value)(rt rr:ByteArray)(s:P3)(w:World)(h:TysAt (· < w.heap.size) w ts tv)(hok:∀ t∈ts,t.Ok)(hc:chk06 ts=0)(hsB:schB ts<=549755813888)(hsz:∀ t∈ts,∀ r∈t.rels,r.2.sz<=1000000)(hln:(namesOf ts).length<=1099511627776)(hlr:(refsOf ts).length<=1099511627776) :
  Calls Tryz.prog 63 #[.agg #[tv],.nilIface,sv,r2V ⟨rt,rr⟩,pV s,mv] w fun e w'=>e = .returned (.tuple #[.slice none 0 0,.int .i64 1])/\Ext w w':=by
 obtain⟨ao,c,rfl,-⟩:=h.rows;obtain⟨wa,hwa⟩:∃ x,x=w.alloc (.cells #[.slice ao ts.length c] 26):=⟨_,rfl⟩;obtain⟨wb,hwb⟩:∃ x,x=wa.alloc (.cells #[.string rt,.string rr] 121):=⟨_,rfl⟩;obtain⟨wc,hwc⟩:∃ x,x=wb.alloc (.cells #[.string s.t,.string s.i,.string s.r] 33):=⟨_,rfl⟩;have xa:Ext w wa:=by rw[hwa];exact Ext.alloc _ _
 have xb:Ext wa wb:=by rw[hwb];exact Ext.alloc _ _
 have xc:Ext wb wc:=by rw[hwc];exact Ext.alloc _ _
 have XC:=h! (show Ext w wc from xa.trans (xb.trans xc));have CS:=h! (show Blk wc w.heap.size #[.slice ao ts.length c] 26 from Blk.below (by rw[hwa];exact Blk.made _ _ _) (xb.trans xc));have CT:=h! (h.up XC.out)
 have HCK:=h! (show Calls Tryz.prog 74 #[.agg #[.slice ao ts.length c]] wc fun e w'=>e = .returned (.int .i64 0)/\Below wc.heap.size wc w' from by
  have h1:=checkP_any ts (.slice ao ts.length c) wc CT.out hok hsB hsz hln hlr;rw[hc]at h1;exact h1)
 clear h hok hc hsB hsz hln hlr xa xb xc;subst hwc hwb hwa;have cs0:=CS.out.cells;unfold pV r2V;go_enter Tryz.func63,Tryz.ntmps63
 go_wp2_with fail
 refine HCK.out.mono ?_;rintro e w2 ⟨rfl,hx2⟩;have X2:=h! (show Ext w w2 from XC.out.trans hx2);clear cs0 HCK hx2 XC CS CT;go_wp2_with fail
 go_ret2
 exact⟨rfl,X2.out⟩
theorem objects_any (ts:List TyS)(tv:Value)(b:Nat)(T:List Tup)(shut:List R2)(sv:Value)(rt rr:ByteArray)(s:P3)(most:Int)(w:World)(h:TysAt (· < w.heap.size) w ts tv)(hA:∀ o,o.t=rt->ObjIn T o->HasArg ts T shut ⟨o.t,o.i,rr⟩)
  (hok:∀ t∈ts,t.Ok) (hc:chk06 ts=0) (hsB:schB ts<=549755813888) (hsz:∀ t∈ts,∀ r∈t.rels,r.2.sz<=1000000) (hln:(namesOf ts).length<=1099511627776) (hlr:(refsOf ts).length<=1099511627776) (hrt:rt.size<=maxLen) (hT:T.length<=1000000) (hbk:BookAt w b T) (hsv:Sl (· < w.heap.size) w 2 sv (shut.flatMap r2C)) :
  Calls Tryz.prog 63 #[.agg #[tv],bkV b,sv,r2V ⟨rt,rr⟩,pV s,.int .i64 most] w fun e w'=>ObjsSaid ts T shut rt rr s most (.int .i64 0) (.int .i64 10) e w'/\Ext w w':=by
 have HA:=h! hA;have HTL:=h! hT;obtain⟨ao,c,rfl,-⟩:=h.rows;obtain⟨so,sc,rfl,-⟩:=Sl.rows r2C_length (by decide) hsv;obtain⟨wa,hwa⟩:∃ x,x=w.alloc (.cells #[.slice ao ts.length c] 26):=⟨_,rfl⟩;obtain⟨wb,hwb⟩:∃ x,x=wa.alloc (.cells #[.string rt,.string rr] 121):=⟨_,rfl⟩;obtain⟨wc,hwc⟩:∃ x,x=wb.alloc (.cells #[.string s.t,.string s.i,.string s.r] 33):=⟨_,rfl⟩;have ea:wa.heap.size=w.heap.size+1:=by rw[hwa];simp
 have eb:wb.heap.size=w.heap.size+2:=by rw[hwb];simp[ea]
 have xa:Ext w wa:=by rw[hwa];exact Ext.alloc _ _
 have xb:Ext wa wb:=by rw[hwb];exact Ext.alloc _ _
 have xc:Ext wb wc:=by rw[hwc];exact Ext.alloc _ _
 have XC:=h! (show Ext w wc from xa.trans (xb.trans xc));have CS:=h! (show Blk wc w.heap.size #[.slice ao ts.length c] 26 from Blk.below (by rw[hwa];exact Blk.made _ _ _) (xb.trans xc));have CR:=h! (show Blk wc (w.heap.size+1) #[.string rt,.string rr] 121 from Blk.below (by rw[hwb,<- ea];exact Blk.made _ _ _) xc);have CU:=h! (show Blk wc (w.heap.size+2) #[.string s.t,.string s.i,.string s.r] 33 from by rw[hwc,<- eb];exact Blk.made _ _ _);have CT:=h! (h.up XC.out);have CB:=h! (hbk.ext XC.out);have CV:=h! ((hsv.same (Same.below XC.out)).mono fun _ hb=>Nat.lt_of_lt_of_le hb XC.out.size)
 have HCK:=h! (show Calls Tryz.prog 74 #[.agg #[.slice ao ts.length c]] wc fun e w'=>e = .returned (.int .i64 0)/\Below wc.heap.size wc w' from by
  have h1:=checkP_any ts (.slice ao ts.length c) wc CT.out hok hsB hsz hln hlr;rw[hc]at h1;exact h1)
 have HRT:=h! hrt;clear h hok hc hsB hsz hln hlr xa xb xc hA hT hbk hsv hrt ea eb;subst hwc hwb hwa;have cs0:=CS.out.cells;unfold pV r2V;go_enter Tryz.func63,Tryz.ntmps63
 go_wp2_with fail
 refine HCK.out.mono ?_;rintro e w2 ⟨rfl,hx2⟩;have CR2:=h! (CR.out.below hx2);have cr2:=CR2.out.cells;have X2:=h! (show Ext _ w2 from hx2);have HBO:=h! (bookObjs_any b T rt w2 HRT.out (CB.out.ext hx2) HTL.out);clear cs0 HCK hx2;go_wp2_with fail
 refine HBO.out.mono ?_;rintro e w3 ⟨v,l,rfl,ho,hup,hm,hx3⟩;have HL:=h! (show ObjsOf T rt l from⟨hup,hm⟩)
 have HLN:=h! (show l.length<=2000000 from by
  have h1:=obj_few (T:=T) hup.nodup fun o ho=>((hm o).1 ho).2;have:=HTL.out;omega)
 have XX3:=h! (show Ext w w3 from XC.out.trans (X2.out.trans hx3));have KS:=h! (CS.out.below (X2.out.trans hx3));have KR:=h! (CR2.out.below hx3);have KU:=h! (CU.out.below (X2.out.trans hx3));have KT:=h! (CT.out.up (X2.out.trans hx3));have KB:=h! (CB.out.ext (X2.out.trans hx3));have KV:=h! ((CV.out.same (Same.below (X2.out.trans hx3))).mono fun _ hb=>Nat.lt_of_lt_of_le hb (X2.out.trans hx3).size);obtain⟨vo,vc,rfl,-,-,hcell⟩:=Sl.rows oC_length (by decide) (show Sl _ w3 2 v (l.flatMap oC)from ho.slU);have HCE:=h! hcell;clear ho hup hm hx3 hcell HBO cr2 X2 CR2 CS CR CU CT CB CV XC;go_wp2_with fail
 obtain⟨sb,hsb⟩:∃ x,Hid (x=w.heap.size):=⟨_,h! rfl⟩;obtain⟨rb,hrb⟩:∃ x,Hid (x=w.heap.size+1):=⟨_,h! rfl⟩;obtain⟨ub,hub⟩:∃ x,Hid (x=w.heap.size+1+1):=⟨_,h! rfl⟩;have KS:=h! (show Blk w3 sb _ _ from by rw[hsb.out];exact KS.out);have KR:=h! (show Blk w3 rb _ _ from by rw[hrb.out];exact KR.out);have KU:=h! (show Blk w3 ub _ _ from by rw[hub.out];exact KU.out);rw[<- hub.out,<- hrb.out];try rw[<- hsb.out]
 go_loopw [17,41] (fun ov jv wr=>∃ i:Nat,i<=l.length/\jv = .int .i64 i/\Own wr w3.heap.size 30 2 ov (ocs ((l.take i).filter (denB ts T shut s rr)))/\(∀ o∈l.take i,∃ n,WalkEnd ts T shut ⟨o.t,o.i,rr⟩ most n)/\Ext w3 wr) (fun _ jv _=>l.length-(intOf jv).toNat)
 case atStart=>exact⟨0,Nat.zero_le _,rfl,by simpa [ocs] using Own.nil w3 w3.heap.size 30 2,(by simp),Ext.refl _⟩
 case round =>
  obtain⟨i,hi,rfl,hown,hall,hx⟩:=hrel;have HO:=h! hown;have HALL:=h! hall;have HX:=h! hx;clear hown hall hx;by_cases hlt:i<l.length
  ·have HNX:=h! (List.take_succ_eq_append_getElem hlt)
   have HQL:=h! (show((l.take i).filter (denB ts T shut s rr)).length<=2000000 from by
    have h1:=List.length_filter_le (denB ts T shut s rr) (l.take i);rw[List.length_take]at h1;have:=HLN.out;omega)
   have HMEM:=h! ((HL.out.2 l[i]).1 (List.getElem_mem hlt));have HLM:=h! (List.getElem_mem hlt);obtain⟨b2,off2,rfl,hb2,hcl⟩:=HCE.out (by omega);have d0:=Ext.cell HX.out (hcl i hlt 0 _ rfl);have d1:=Ext.cell HX.out (hcl i hlt 1 _ rfl);have HLT:=h! hlt;have HWI:=h! (show wrap64 ((i:Int)+1)=((i+1:Nat):Int)from by have:=HLN.out;unfold wrap64;omega);have hli:(i:Int)<(l.length:Int):=by omega
   clear hcl hb2;generalize l[i]=o at *;clear hlt;obtain⟨ot,oi⟩:=o;dsimp only at d0 d1;have d0:wr.cell? ⟨b2,off2+i*2,none⟩=some (.string ot):=d0;have d1:wr.cell? ⟨b2,off2+i*2+1,none⟩=some (.string oi):=d1;have X4:=Ext.alloc wr (.cells #[.string ot,.string oi] 30);have BO:=h! (Blk.made wr #[.string ot,.string oi] 30);have X34:=h! (show Ext w3 _ from HX.out.trans X4);have HO4:=h! (HO.out.below X4);have HHS:=h! (hasP_any ts (.slice ao ts.length c) b T shut (.slice so shut.length sc) ⟨ot,oi,rr⟩ s most _ (KT.out.up X34.out) (HA.out ⟨ot,oi⟩ HMEM.out.1 HMEM.out.2) (KB.out.ext X34.out) ((KV.out.same (Same.below X34.out)).mono fun _ hb=>Nat.lt_of_lt_of_le hb X34.out.size));unfold aC at HHS;have c1:=(KS.out.below X34.out).cells;have c2:=(KR.out.below X34.out).cells;have c3:=(KU.out.below X34.out).cells;have c4:=BO.out.cells;clear X4;go_wp2_with fail
   clear c1 c2 c3 c4 d0 d1;obtain⟨w4,hw4⟩:∃ y,y=wr.alloc (.cells #[.string ot,.string oi] 30):=⟨_,rfl⟩;rw[<- hw4]at BO X34 HO4 HHS;try rw[<- hw4]
   clear hw4;refine HHS.out.mono ?_;rintro e w5 ⟨hs,hx5⟩;have X35:=h! (show Ext w3 w5 from X34.out.trans hx5);have HO5:=h! (HO4.out.below hx5);have BO5:=h! (BO.out.below hx5);have c5:=BO5.out.cells;clear hx5 HHS;rcases hs with⟨n,bb,hwe,rfl,hbb⟩ | ⟨hlong,rfl⟩
   case' inr =>
    have HLO:=h! (show ∃ o∈l,WalkLong ts T shut ⟨o.t,o.i,rr⟩ most from⟨_,HLM.out,hlong⟩);have XE:=h! (show Ext w w5 from XX3.out.trans X35.out);clear hlong;go_wp2_with fail
    go_ret2
    exact⟨⟨l,HL.out,.inr ⟨HLO.out,rfl⟩⟩,XE.out⟩
   case' inl =>
    have HDB:=h! (show denB ts T shut s rr ⟨ot,oi⟩=bb from by rw[Bool.eq_iff_iff,denB_iff,hbb];exact hwe.den_iff s)
    have HAL:=h! (show ∀ o∈l.take (i+1),∃ n,WalkEnd ts T shut ⟨o.t,o.i,rr⟩ most n from fun o ho=>by
     rw[HNX.out]at ho;rcases List.mem_append.1 ho with ho | ho
     ·exact HALL.out o ho
     ·rw[List.mem_singleton.1 ho];exact⟨n,hwe⟩)
    clear hwe hbb;cases bb with
    | false =>
     have HON:=h! (show Own w5 w3.heap.size 30 2 u17 (ocs ((l.take (i+1)).filter (denB ts T shut s rr)))from by
      rw[HNX.out,List.filter_append,List.filter_cons_of_neg (by rw[HDB.out];decide)];simpa using HO5.out)
     go_wp2_with fail
     go_roundw
     case rel=>exact⟨i+1,HLT.out,by first | rw[HWI.out] | go_num,HON.out,HAL.out,X35.out⟩
     case measure=>have:=HLT.out;(try rw[HWI.out]);simp[intOf];omega
    | true =>
     have X6:=Ext.alloc w5 (.cells #[.string ot,.string oi] 30);have HO6:=h! (HO5.out.below X6);have X36:=h! (show Ext w3 _ from X35.out.trans X6);obtain⟨uo,un,uc,rfl,-⟩:=HO5.out.sl.len;clear X6;go_wp2_with (at_builtin;go_must (refine wpList_ownw objsTO rfl (.tmp 63) (.tmp 65) rfl rfl HO6.out rfl (m:=1) (news:=[.string ot,.string oi]) rfl (cells_twoO _ _ _ _) (by simp[Value.oneCell']) (by have:=HQL.out;rw[ocs_length];simp at *;omega) (by have:=HQL.out;rw[ocs_length];simp at *;omega) (by have:=X36.out.size;omega) ?_;intro v6 w6 hown6 hb6 hg6;have HO7:=h! (show Own w6 w3.heap.size 30 2 v6 (ocs ((l.take (i+1)).filter (denB ts T shut s rr)))from by(rw[HNX.out,List.filter_append,List.filter_cons_of_pos HDB.out,ocs_append];simpa [ocs,oC] using hown6));have HB7:=h! (show Ext w3 w6 from grown_below X36.out HO6.out hg6 X36.out.size);clear hown6 hb6 hg6))
     go_roundw
     case rel=>exact⟨i+1,HLT.out,by first | rw[HWI.out] | go_num,HO7.out,HAL.out,HB7.out⟩
     case measure=>have:=HLT.out;(try rw[HWI.out]);simp[intOf];omega
  ·obtain rfl:i=l.length:=by omega
   rw[List.take_length]at HALL HO;have XE:=h! (show Ext w wr from XX3.out.trans HX.out);have HOU:=h! HO.out.slU;obtain⟨uo,un,uc,rfl,-⟩:=HO.out.sl.len;clear hlt hi;go_wp2_with fail
   go_ret2
   exact⟨⟨l,HL.out,.inl ⟨_,HALL.out,rfl,HOU.out⟩⟩,XE.out⟩
end Go.Proofs.YtlhaghoajpglaaaGreat
namespace Go.Proofs.YtlhaghoajpglaaaGreat
open Go Go.RowKit Go.Maps
theorem tups_rowsF {S:Nat->Prop} {w:World} {v:Value} {l:List Tup} (h:Sl S w 6 v (tuCs l)) :
  ∃ ao c,v = .slice ao l.length c/\l.length<=c/\c<=9223372036854775807/\∀ i (hi:i<l.length),∃ b off,ao=some ⟨b,off,none⟩/\S b /\
   w.cell? ⟨b,off+i*6,none⟩=some (.string l[i].o.t)/\w.cell? ⟨b,off+i*6+1,none⟩=some (.string l[i].o.i)/\w.cell? ⟨b,off+i*6+2,none⟩=some (.string l[i].o.r) /\
   w.cell? ⟨b,off+i*6+3,none⟩=some (.string l[i].s.t)/\w.cell? ⟨b,off+i*6+4,none⟩=some (.string l[i].s.i)/\w.cell? ⟨b,off+i*6+5,none⟩=some (.string l[i].s.r):=by
 obtain⟨ao,c,rfl,h1,h2,hc⟩:=Sl.rows tuC_length (by decide) (show Sl S w 6 v (l.flatMap tuC)from h);refine⟨ao,c,rfl,h1,h2,fun i hi=>?_⟩;obtain⟨b,off,rfl,hb,hc⟩:=hc (by omega);exact⟨b,off,rfl,hb,hc i hi 0 _ rfl,hc i hi 1 _ rfl,hc i hi 2 _ rfl,hc i hi 3 _ rfl,hc i hi 4 _ rfl,hc i hi 5 _ rfl⟩
theorem less25_any (a b:O2)(w:World):Calls Tryz.prog 183 #[oV a,oV b] w fun e w'=>e = .returned (.bool (ltO a b))/\Below w.heap.size w w':=by
 obtain⟨at_,ai⟩:=a;obtain⟨bt,bi⟩:=b;have hb:Below w.heap.size w ((w.alloc (.cells #[.string at_,.string ai] 30)).alloc (.cells #[.string bt,.string bi] 30)):=((Below.refl _ _).alloc (Nat.le_refl _) _).alloc (by simp) _;have hA:=((Blk.made w #[.string at_,.string ai] 30).alloc (.cells #[.string bt,.string bi] 30)).cells;unfold oV;dsimp only;by_cases h1:at_=bt
 ·subst h1;have HV:=h! (show Op.bytesLess ai.toList bi.toList=ltO ⟨at_,ai⟩ ⟨at_,bi⟩from by rw[ltO_eq];simp[ltS]);go_enter Tryz.func183,Tryz.ntmps183
  go_wp2_with fail
  go_ret
  exact⟨congrArg (fun b=>Ending.returned (.bool b)) HV.out,hb⟩
 ·have HV:=h! (show Op.bytesLess at_.toList bt.toList=ltO ⟨at_,ai⟩ ⟨bt,bi⟩from by rw[ltO_eq];simp[ltS,h1]);have hn:=ba_beq' h1;rw[<- ByteArray.toList_eq,<- ByteArray.toList_eq]at hn;clear h1;go_enter Tryz.func183,Tryz.ntmps183
  go_wp2_with fail
  go_ret
  exact⟨congrArg (fun b=>Ending.returned (.bool b)) HV.out,hb⟩
theorem o2_neq (a b:O2)(W:World):(binOp BinOp.neq 30 (oV a) (oV b)).run Tryz.prog W = .ok (.bool (decide (a≠b))) W:=by
 obtain⟨a1,a2⟩:=a;obtain⟨b1,b2⟩:=b;unfold oV;dsimp only;go_simp;simp only[ba_toList];by_cases h1:a1=b1 <;> by_cases h2:a2=b2 <;> simp[h1,h2]
theorem ltO_total {a b:O2} (h:ltO a b=false)(hne:a≠b):ltO b a=true:=ltP_total h fun e=>hne (oS_inj e)
theorem ltO_trans {a b c:O2} (h:ltO a b=true)(k:ltO b c=true):ltO a c=true:=ltP_trans h k
def insO (q:List O2)(k:Nat)(p:O2):List O2:=q.take k++[p]++q.drop k
theorem insO_mem (q:List O2)(k:Nat)(p x:O2):x∈insO q k p↔x∈q\/x=p:=by
 unfold insO;conv=>rhs;rw[<- List.take_append_drop k q]
 simp only[List.mem_append,List.mem_singleton];constructor
 ·rintro((h | h) | h)
  ·exact .inl (.inl h)
  ·exact .inr h
  ·exact .inl (.inr h)
 ·rintro((h | h) | h)
  ·exact .inl (.inl h)
  ·exact .inr h
  ·exact .inl (.inr h)
theorem insO_up {q:List O2} {k:Nat} {p:O2} (hq:UpO q)(h1:∀ j (hj:j<q.length),j<k->ltO q[j] p=true)(h2:∀ hk:k<q.length,ltO p q[k]=true):UpO (insO q k p):=by
 have hq':(q.take k++q.drop k).Pairwise fun a b=>ltO a b=true:=by rw[List.take_append_drop];exact hq
 obtain⟨ha,hb,hab⟩:=List.pairwise_append.1 hq'
 have hlt:∀ x∈q.take k,ltO x p=true:=fun x hx=>by
  obtain⟨j,hj,rfl⟩:=List.getElem_of_mem hx;rw[List.length_take]at hj;rw[List.getElem_take];exact h1 j (by omega) (by omega)
 have hgt:∀ x∈q.drop k,ltO p x=true:=fun x hx=>by
  obtain⟨j,hj,rfl⟩:=List.getElem_of_mem hx;rw[List.length_drop]at hj;rw[List.getElem_drop];have hk:k<q.length:=by omega
  rcases Nat.eq_zero_or_pos j with rfl | hj0
  ·exact h2 hk
  ·exact ltO_trans (h2 hk) ((List.pairwise_iff_getElem.1 hq) k (k+j) hk (by omega) (by omega))
 unfold insO UpO;rw[List.append_assoc,List.pairwise_append];refine⟨ha,?_,fun x hx y hy=>?_⟩
 ·rw[List.singleton_append,List.pairwise_cons];exact⟨hgt,hb⟩
 ·rcases List.mem_append.1 hy with hy | hy
  ·obtain rfl:y=p:=by simpa using hy
   exact hlt x hx
  ·exact hab x hx y hy
theorem insO_length (q:List O2)(k:Nat)(p:O2):(insO q k p).length=q.length+1:=by
 unfold insO;have:=congrArg List.length (List.take_append_drop k q);simp only[List.length_append,List.length_singleton]at this ⊢;omega
theorem ObjIn_take {l:List Tup} {i:Nat} (hi:i<l.length)(o:O2):ObjIn (l.take (i+1)) o↔ObjIn (l.take i) o\/l[i].o.obj=o\/l[i].s.obj=o:=by
 unfold ObjIn;rw[List.take_succ_eq_append_getElem hi];constructor
 ·rintro⟨t,ht,h⟩;rcases List.mem_append.1 ht with ht | ht
  ·exact .inl ⟨t,ht,h⟩
  ·rw[List.mem_singleton.1 ht]at h;exact .inr h
 ·rintro(⟨t,ht,h⟩ | h)
  ·exact⟨t,List.mem_append_left _ ht,h⟩
  ·exact⟨_,List.mem_append_right _ (by simp),h⟩
theorem objects25_any (v:Value)(l:List Tup)(typ:ByteArray)(w:World)(h:Sl (· < w.heap.size) w 6 v (tuCs l))(hl:l.length<=40000) :
  Calls Tryz.prog 120 #[v,.string typ] w fun e w'=>∃ (v':Value) (l':List O2),e = .returned v'/\UpO l'/\(∀ x,x∈l'↔x.t=typ/\ObjIn l x)/\Own w' w.heap.size 30 2 v' (ocs l')/\Below w.heap.size w w':=by
 obtain⟨ao,c,rfl,hlc,hcm,hcell⟩:=tups_rowsF h;have HC:=h! hcell;have HL:=h! hl;clear hcell h hl;go_enter Tryz.func120,Tryz.ntmps120
 go_wp2_with fail
 go_loopw [5,13] (fun vv ii wr=>∃ (i:Nat) (q:List O2),i<=l.length/\ii = .int .i64 i/\Own wr w.heap.size 30 2 vv (ocs q)/\UpO q/\(∀ x,x∈q↔x.t=typ/\ObjIn (l.take i) x)/\q.length<=2*i/\Below w.heap.size w wr) (fun _ ii _=>l.length-(intOf ii).toNat)
 case atStart=>exact⟨0,[],by omega,rfl,Own.nil _ _ _ _,List.Pairwise.nil,by simp[ObjIn],by simp,Below.refl _ _⟩
 case round =>
  obtain⟨i,qA,hi,rfl,hown,hup,hmem,hqA,hbel⟩:=hrel;have HUA:=h! hup;have HMA:=h! hmem;have HOA:=h! hown;have HBA:=h! hbel;clear hup hmem hown hbel;by_cases hlt:i<l.length
  ·obtain⟨b,off,hao,hb,k0,k1,k2,k3,k4,k5⟩:=HC.out i hlt;subst hao;have d0:=(HBA.out.cell (p:=⟨b,off+i*6,none⟩) hb).trans k0;have d1:=(HBA.out.cell (p:=⟨b,off+i*6+1,none⟩) hb).trans k1;have d2:=(HBA.out.cell (p:=⟨b,off+i*6+2,none⟩) hb).trans k2;have d3:=(HBA.out.cell (p:=⟨b,off+i*6+3,none⟩) hb).trans k3;have d4:=(HBA.out.cell (p:=⟨b,off+i*6+4,none⟩) hb).trans k4;have d5:=(HBA.out.cell (p:=⟨b,off+i*6+5,none⟩) hb).trans k5;have HOT:=h! (ObjIn_take hlt);have HILT:=h! hlt;clear k0 k1 k2 k3 k4 k5 hb;generalize l[i]=t at *;clear hlt;obtain⟨⟨ot,oi,or_⟩,⟨st,si,sr⟩⟩:=t;dsimp only at d0 d1 d2 d3 d4 d5;obtain⟨wt,hwt⟩:∃ x,x=wr.alloc (.cells #[.string ot,.string oi,.string or_,.string st,.string si,.string sr] 67):=⟨_,rfl⟩;obtain⟨wo,hwo⟩:∃ x,x=wt.alloc (.cells #[.string ot,.string oi,.string st,.string si] 30):=⟨_,rfl⟩;have st1:wt.heap.size=wr.heap.size+1:=by rw[hwt];simp
   have xt:Ext wr wt:=by rw[hwt];exact Ext.alloc _ _
   have xo:Ext wt wo:=by rw[hwo];exact Ext.alloc _ _
   have BT:=(show Blk wt wr.heap.size #[.string ot,.string oi,.string or_,.string st,.string si,.string sr] 67 from by rw[hwt];exact Blk.made _ _ _).cells;have BO:=h! (show Blk wo (wr.heap.size+1) #[.string ot,.string oi,.string st,.string si] 30 from by rw[hwo,<- st1];exact Blk.made _ _ _);have HOB:=h! (HOA.out.below (xt.trans xo));have HBB:=h! (show Below w.heap.size w wo from HBA.out.trans (Below.mono (xt.trans xo) HBA.out.size));subst hwo hwt;clear xt xo;go_wp2_with fail
   clear d0 d1 d2 d3 d4 d5 BT;obtain⟨wo,hwo⟩:∃ x,x=(wr.alloc (.cells #[.string ot,.string oi,.string or_,.string st,.string si,.string sr] 67)).alloc (.cells #[.string ot,.string oi,.string st,.string si] 30):=⟨_,rfl⟩;rw[<- hwo]at BO HOB HBB ⊢;clear hwo st1;obtain⟨ob,hob⟩:∃ x,x=wr.heap.size+1:=⟨_,rfl⟩;rw[<- hob]at BO ⊢;clear hob;obtain⟨QB,hQB⟩:∃ Q:Nat->O2->Prop,Hid (∀ j x,Q j x↔x.t=typ/\(ObjIn (l.take i) x\/x∈([⟨ot,oi⟩,⟨st,si⟩]:List O2).take j)):=⟨fun j x=>x.t=typ/\(ObjIn (l.take i) x\/x∈([⟨ot,oi⟩,⟨st,si⟩]:List O2).take j),h! fun _ _=>Iff.rfl⟩;have HQ0:=h! (show ∀ x,x∈qA↔QB 0 x from fun x=>by rw[hQB.out,HMA.out x];simp);go_loopw [5,24] (fun vv jj wr=>∃ (j:Nat) (q:List O2),j<=2/\jj = .int .i64 j/\Own wr w.heap.size 30 2 vv (ocs q)/\UpO q/\(∀ x,x∈q↔QB j x)/\q.length<=2*i+j/\Below w.heap.size w wr/\Ext wo wr) (fun _ jj _=>2-(intOf jj).toNat)
   case atStart=>exact⟨0,qA,by omega,rfl,HOB.out,HUA.out,HQ0.out,by omega,HBB.out,Ext.refl _⟩
   case round =>
    obtain⟨j,q,hj,rfl,hown,hup,hmem,hql,hbel,hew⟩:=hrel;have HUPQ:=h! hup;have HMQ:=h! hmem;have HEW:=h! hew;clear hup hmem hew HOA HOB HBB HQ0;by_cases hlt:j<2
    ·obtain⟨pt,pi,hpp,d0,d1⟩:∃ pt pi,([⟨ot,oi⟩,⟨st,si⟩]:List O2)[j]?=some ⟨pt,pi⟩/\wr.cell? ⟨ob,j*2,none⟩=some (.string pt)/\wr.cell? ⟨ob,j*2+1,none⟩=some (.string pi):=by
      have hc:=(BO.out.below HEW.out).cells;obtain rfl | rfl:j=0\/j=1:=by omega
      ·exact⟨ot,oi,rfl,hc 0,hc 1⟩
      ·exact⟨st,si,rfl,hc 2,hc 3⟩
     have HTK0:=h! (show ∀ x,QB (j+1) x↔QB j x\/(x=⟨pt,pi⟩/\pt=typ)from fun x=>by
      rw[hQB.out,hQB.out,List.take_add_one,hpp];simp only[Option.toList_some,List.mem_append,List.mem_singleton];constructor
      ·rintro⟨h1,h2 | h2 | rfl⟩
       ·exact .inl ⟨h1,.inl h2⟩
       ·exact .inl ⟨h1,.inr h2⟩
       ·exact .inr ⟨rfl,h1⟩
      ·rintro(⟨h1,h2 | h2⟩ | ⟨rfl,h2⟩)
       ·exact⟨h1,.inl h2⟩
       ·exact⟨h1,.inr (.inl h2)⟩
       ·exact⟨h2,.inr (.inr rfl)⟩)
     have hli:(j:Int)<2:=by omega
     clear hpp;have hq2:q.length<=100000:=by have:=HL.out;have:=HILT.out;omega
     obtain⟨mo,mc,rfl,hmk,hmm,hmc⟩:=Sl.rows oC_length (by decide) (show Sl _ wr 2 u5 (List.flatMap oC q)from hown.sl);have HSH:=h! hown.shape;obtain⟨wP,hwP⟩:∃ wP,wP=wr.alloc (.cells #[.string pt,.string pi] 30):=⟨_,rfl⟩;have hbox:Blk wP wr.heap.size #[.string pt,.string pi] 30:=by rw[hwP];exact Blk.made wr _ _
     have hE0:Ext wr wP:=by rw[hwP];exact Ext.alloc _ _
     have HMC:=h! (show 0<q.length->∃ b off,mo=some ⟨b,off,none⟩/\b<wr.heap.size/\∀ (k:Nat) (hk:k<q.length),wr.cell? ⟨b,off+k*2,none⟩=some (.string q[k].t)/\wr.cell? ⟨b,off+k*2+1,none⟩=some (.string q[k].i)from fun h0=>by
      obtain⟨b,off,h1,h2,h3⟩:=hmc h0;exact⟨b,off,h1,h2.2,fun k hk=>⟨h3 k hk 0 _ rfl,h3 k hk 1 _ rfl⟩⟩)
     have HOW:=h! hown;have HBOX:=h! hbox;have HE0:=h! hE0;clear hown hmc hbox hE0;go_wp2_with fail
     try rw[<- hwP]
     clear hwP;have HBEL:=h! hbel;clear hbel d0 d1;obtain⟨wr0,hwr0⟩:∃ wr0,wr0=wr:=⟨_,rfl⟩;rw[<- hwr0]at HOW HBOX HE0 HMC HBEL HEW ⊢;clear hwr0;by_cases htp:pt=typ
     rotate_left
     ·have HMN:=h! (show ∀ x,x∈q↔QB (j+1) x from fun x=>by
       rw[HTK0.out x,HMQ.out x];exact⟨.inl,fun h=>h.elim id fun h=>absurd h.2 htp⟩)
      have hte:=str_eqd pt typ;rw[decide_eq_false htp]at hte;have HTE:=h! hte;clear htp hte;go_loopw [10] (fun ii wr=>∃ k:Nat,k<=q.length/\ii = .int .i64 k/\Below wP.heap.size wP wr) (fun ii _=>q.length-(intOf ii).toNat)
      case atStart=>exact⟨0,by omega,rfl,Below.refl _ _⟩
      case round =>
       obtain⟨k,hk,rfl,hbr⟩:=hrel;have HEr:=h! (HE0.out.trans hbr);have HBx:=h! (HBOX.out.below hbr);have HBR:=h! (show Ext wP wr from hbr);clear hbr;by_cases hkl:k<q.length
       ·obtain⟨b2,off2,rfl,hb2,hc2⟩:=HMC.out (by omega);obtain⟨e0,e1⟩:=hc2 k hkl;have hkd:decide ((k:Int)<(q.length:Int))=true:=by simp;omega
        clear hc2;generalize q[k]=u at *;obtain⟨ut,ui⟩:=u;dsimp only at e0 e1;have HLS:=h! (fun W=>less25_any ⟨ut,ui⟩ ⟨pt,pi⟩ W);unfold oV at HLS;dsimp only at HLS;go_wp2_with fail
        obtain⟨wd,hwd⟩:∃ wd,Hid (wd=wr.drew):=⟨_,h! rfl⟩;have HXD:=h! (show Ext wr wd from by rw[hwd.out];exact Ext.drew _);refine r! (Ext wd) (by rw[<- hwd.out];exact Ext.refl _) ?_;rw[<- hwd.out];clear hwd;have h1:∀ W,Ext wd W->∀ i,W.cell? ⟨wr0.heap.size,i,none⟩=(#[.string pt,.string pi]:Array Value)[i]?:=fun W h=>((HBx.out.below HXD.out).below h).cells;have g0:∀ W,Ext wd W->W.cell? ⟨b2,off2+k*2,none⟩=some (.string ut):=fun W h=>Ext.cell ((HEr.out.trans HXD.out).trans h) e0;have g1:∀ W,Ext wd W->W.cell? ⟨b2,off2+k*2+1,none⟩=some (.string ui):=fun W h=>Ext.cell ((HEr.out.trans HXD.out).trans h) e1;(refine WalkN.tk [0,1,2,3,4,5,6,7,8,9] ?_;(iterate 10 (refine c! ?_));refine TkN.n ?_)
        clear h1 g0 g1;refine o! 10 ?_;refine b! ?_;intro K hK;go_simp;refine(HLS.out _).mono ?_;rintro e w4 ⟨rfl,hb4⟩;refine hK.out _ _ hb4 ?_;clear hK;refine t! 11 ?_
        refine d! ?_;have HX4:=h! (show Ext wP w4 from HBR.out.trans (HXD.out.trans hb4));clear hb4 HLS;rcases hlb:ltO ⟨ut,ui⟩ ⟨pt,pi⟩with _ | _
        rotate_left
        ·clear hlb;go_wp2_with fail
         go_roundw
         case rel=>exact⟨k+1,by omega,by go_num,HX4.out⟩
         case measure=>simp[intOf];omega
        clear hlb;go_wp2_with fail
        obtain⟨w6,hw6⟩:∃ w6,Hid (w6=w4.drew):=⟨_,h! rfl⟩;have HX6:=h! (show Ext wP w6 from HX4.out.trans (by rw[hw6.out];exact Ext.drew _));refine r! (Ext w6) (by rw[<- hw6.out];exact Ext.refl _) ?_;rw[<- hw6.out];clear hw6;have h1:∀ W,Ext w6 W->∀ i,W.cell? ⟨wr0.heap.size,i,none⟩=(#[.string pt,.string pi]:Array Value)[i]?:=fun W h=>((HBOX.out.below HX6.out).below h).cells;have hte:=HTE.out;(refine WalkN.tk [0,1,2,3,4] ?_;(iterate 5 (refine c! ?_));refine TkN.n ?_)
        refine k! 5 ?_;refine k! 6 ?_;refine k! 7 ?_;refine k! 8 ?_;refine k! 9 ?_;refine k! 10 ?_;refine k! 11 ?_;refine k! 12 ?_;refine k! 13 ?_;refine k! 14 ?_;refine k! 15 ?_;refine k! 16 ?_
        refine t! 17 ?_
        refine d! ?_;have XE:=h! (show Ext wr0 w6 from HE0.out.trans HX6.out);clear h1 hte;go_wp2_with fail
        go_roundw
        case rel=>exact⟨j+1,q,by omega,by go_num,HOW.out.below XE.out,HUPQ.out,HMN.out,by omega,HBEL.out.trans (Below.mono XE.out HBEL.out.size),HEW.out.trans XE.out⟩
        case measure=>simp[intOf];omega
       ·obtain rfl:k=q.length:=by omega
        clear hkl;go_wp2_with fail
        obtain⟨wc,hwc⟩:∃ wc,Hid (wc=wr.drew):=⟨_,h! rfl⟩;have HXC:=h! (show Ext wP wc from HBR.out.trans (by rw[hwc.out];exact Ext.drew _));refine r! (Ext wc) (by rw[<- hwc.out];exact Ext.refl _) ?_;rw[<- hwc.out];clear hwc;(refine WalkN.tk [0,1,2,3,4] ?_;(iterate 5 (refine c! ?_));refine TkN.n ?_)
        refine k! 5 ?_;refine k! 6 ?_;refine k! 7 ?_;refine k! 8 ?_;refine k! 9 ?_;refine k! 10 ?_
        refine t! 11 ?_
        refine d! ?_;go_wp2_with fail
        obtain⟨w6,hw6⟩:∃ w6,Hid (w6=wc.drew):=⟨_,h! rfl⟩;have HX6:=h! (show Ext wP w6 from HXC.out.trans (by rw[hw6.out];exact Ext.drew _));refine r! (Ext w6) (by rw[<- hw6.out];exact Ext.refl _) ?_;rw[<- hw6.out];clear hw6;have h1:∀ W,Ext w6 W->∀ i,W.cell? ⟨wr0.heap.size,i,none⟩=(#[.string pt,.string pi]:Array Value)[i]?:=fun W h=>((HBOX.out.below HX6.out).below h).cells;have hte:=HTE.out;(refine WalkN.tk [0,1,2,3,4] ?_;(iterate 5 (refine c! ?_));refine TkN.n ?_)
        refine k! 5 ?_;refine k! 6 ?_;refine k! 7 ?_;refine k! 8 ?_;refine k! 9 ?_;refine k! 10 ?_;refine k! 11 ?_;refine k! 12 ?_;refine k! 13 ?_;refine k! 14 ?_;refine k! 15 ?_;refine k! 16 ?_
        refine t! 17 ?_
        refine d! ?_;have XE:=h! (show Ext wr0 w6 from HE0.out.trans HX6.out);clear h1 hte;go_wp2_with fail
        go_roundw
        case rel=>exact⟨j+1,q,by omega,by go_num,HOW.out.below XE.out,HUPQ.out,HMN.out,by omega,HBEL.out.trans (Below.mono XE.out HBEL.out.size),HEW.out.trans XE.out⟩
        case measure=>simp[intOf];omega
     have HTK:=h! (show ∀ x,QB (j+1) x↔QB j x\/x=⟨pt,pi⟩from fun x=>by
      rw[HTK0.out x];exact or_congr Iff.rfl ⟨fun h=>h.1,fun h=>⟨h,htp⟩⟩)
     subst htp;go_loopw [10] (fun ii wr=>∃ k:Nat,k<=q.length/\ii = .int .i64 k/\(∀ j (hj:j<q.length),j<k->ltO q[j] ⟨pt,pi⟩=true)/\Below wP.heap.size wP wr) (fun ii _=>q.length-(intOf ii).toNat)
     case atStart=>exact⟨0,by omega,rfl,fun _ _ h=>absurd h (by omega),Below.refl _ _⟩
     case round =>
      obtain⟨k,hk,rfl,hall,hbr⟩:=hrel;have HALL:=h! hall;have HEr:=h! (HE0.out.trans hbr);have hBx:=HBOX.out.below hbr;clear hall;by_cases hkl:k<q.length
      ·obtain⟨b2,off2,rfl,hb2,hc2⟩:=HMC.out (by omega);obtain⟨e0,e1⟩:=hc2 k hkl;have hkd:decide ((k:Int)<(q.length:Int))=true:=by simp;omega
       have hNX:=fun(h:ltO q[k] ⟨pt,pi⟩=true)=>h! (upto_succ (p:=fun j hj=>ltO q[j] ⟨pt,pi⟩=true) HALL.out hkl h);have hIX:=fun(h:ltO ⟨pt,pi⟩ q[k]=true)=>h! (insO_up (p:=⟨pt,pi⟩) HUPQ.out HALL.out (fun _=>h));have hQM:=List.getElem_mem hkl;clear hc2;generalize q[k]=u at *;obtain⟨ut,ui⟩:=u;dsimp only at e0 e1;have HLS:=h! (fun W=>less25_any ⟨ut,ui⟩ ⟨pt,pi⟩ W);unfold oV at HLS;dsimp only at HLS;go_wp2_with fail
       obtain⟨wd,hwd⟩:∃ wd,wd=wr.drew:=⟨_,rfl⟩;have hEd:Ext wr0 wd:=by rw[hwd];exact HEr.out.trans (Ext.drew _)
       have hEw:Ext wr wd:=by rw[hwd];exact Ext.drew _
       have hBd:Blk wd wr0.heap.size #[.string pt,.string pi] 30:=by rw[hwd];exact hBx.drew
       refine r! (Ext wd) (by rw[<- hwd];exact Ext.refl _) ?_;rw[<- hwd];clear hwd hBx;have h1:∀ W,Ext wd W->∀ i,W.cell? ⟨wr0.heap.size,i,none⟩=(#[.string pt,.string pi]:Array Value)[i]?:=fun W h=>(hBd.below h).cells;have g0:∀ W,Ext wd W->W.cell? ⟨b2,off2+k*2,none⟩=some (.string ut):=fun W h=>Ext.cell (hEd.trans h) e0;have g1:∀ W,Ext wd W->W.cell? ⟨b2,off2+k*2+1,none⟩=some (.string ui):=fun W h=>Ext.cell (hEd.trans h) e1;(refine WalkN.tk [0,1,2,3,4,5,6,7,8,9] ?_;(iterate 10 (refine c! ?_));refine TkN.n ?_)
       clear h1 g0 g1;refine o! 10 ?_;refine b! ?_;intro K hK;go_simp;refine(HLS.out _).mono ?_;rintro e w4 ⟨rfl,hb4⟩;refine hK.out _ _ hb4 ?_;clear hK;refine t! 11 ?_
       refine d! ?_;have HE4:=h! (hEd.trans hb4);have HBR4:=h! (show Ext wr w4 from hEw.trans hb4);have HB4:=h! (hBd.below hb4);clear hEd hBd hb4;rcases hlb:ltO ⟨ut,ui⟩ ⟨pt,pi⟩with _ | _
       rotate_left
       ·have HH:=hNX hlb;clear hlb hNX hIX HALL;go_wp2_with fail
        go_roundw
        case rel=>exact⟨k+1,by omega,by go_num,HH.out,by exact hbr.trans (Below.mono (HBR4.out) hbr.size)⟩
        case measure=>simp[intOf];omega
       have hke:((k:Int) == (q.length:Int))=false:=by rw[beq_eq_false_iff_ne];omega
       have hne0:=fun W=>o2_neq ⟨ut,ui⟩ ⟨pt,pi⟩ W;unfold oV at hne0;dsimp only at hne0;by_cases hup:(⟨ut,ui⟩:O2)=⟨pt,pi⟩
       ·rw[decide_eq_false (fun h=>h hup)]at hne0
        have HMN:=h! (show ∀ x,x∈q↔QB (j+1) x from fun x=>by
         rw[HTK.out x,<- HMQ.out x];constructor
         ·exact .inl
         ·rintro(h | rfl)
          ·exact h
          ·exact hup▸hQM)
        injection hup with hu1 hu2
        subst hu1 hu2;clear hlb hNX hIX HALL hQM;go_wp2_with fail
        obtain⟨wd,hwd⟩:∃ wd,wd=w4.drew:=⟨_,rfl⟩;have hEd:Ext wr0 wd:=by rw[hwd];exact HE4.out.trans (Ext.drew _)
        have hBd:Blk wd wr0.heap.size #[.string ut,.string ui] 30:=by rw[hwd];exact HB4.out.drew
        refine r! (Ext wd) (by rw[<- hwd];exact Ext.refl _) ?_;rw[<- hwd];clear hwd;have h1:∀ W,Ext wd W->∀ i,W.cell? ⟨wr0.heap.size,i,none⟩=(#[.string ut,.string ui]:Array Value)[i]?:=fun W h=>(hBd.below h).cells;have g0:∀ W,Ext wd W->W.cell? ⟨b2,off2+k*2,none⟩=some (.string ut):=fun W h=>Ext.cell (hEd.trans h) e0;have g1:∀ W,Ext wd W->W.cell? ⟨b2,off2+k*2+1,none⟩=some (.string ui):=fun W h=>Ext.cell (hEd.trans h) e1;(refine WalkN.tk [0,1,2,3,4,5,6,7,8,9,10,11,12,13,14,15,16,17] ?_;(iterate 18 (refine c! ?_));refine TkN.n ?_)
        refine d! ?_;have HOE:=h! (HOW.out.below hEd);have HBE:=h! (HBEL.out.trans (Below.mono hEd HBEL.out.size));have HEE:=h! (show Ext wr0 wd from hEd);clear h1 g0 g1 hEd hBd hne0 hke;go_wp2_with fail
        go_roundw
        case rel=>exact⟨j+1,q,by omega,by go_num,HOE.out,HUPQ.out,HMN.out,by omega,HBE.out,HEW.out.trans HEE.out⟩
        case measure=>simp[intOf];omega
       rw[decide_eq_true (show(⟨ut,ui⟩:O2)≠⟨pt,pi⟩from hup)]at hne0;have HUP:=hIX (ltO_total hlb hup);have HME:=h! (show ∀ x,x∈insO q k ⟨pt,pi⟩↔QB (j+1) x from fun x=>by rw[insO_mem,HMQ.out x,HTK.out x]);clear hlb hNX hIX HALL hQM hup;go_wp2_with fail
       obtain⟨wd,hwd⟩:∃ wd,wd=w4.drew:=⟨_,rfl⟩;have hE6:Ext wr0 wd:=by rw[hwd];exact HE4.out.trans (Ext.drew _)
       have hB6:Blk wd wr0.heap.size #[.string pt,.string pi] 30:=by rw[hwd];exact HB4.out.drew
       refine r! (Ext wd) (by rw[<- hwd];exact Ext.refl _) ?_;rw[<- hwd];clear hwd;have h1:∀ W,Ext wd W->∀ i,W.cell? ⟨wr0.heap.size,i,none⟩=(#[.string pt,.string pi]:Array Value)[i]?:=fun W h=>(hB6.below h).cells;have g0:∀ W,Ext wd W->W.cell? ⟨b2,off2+k*2,none⟩=some (.string ut):=fun W h=>Ext.cell (hE6.trans h) e0;have g1:∀ W,Ext wd W->W.cell? ⟨b2,off2+k*2+1,none⟩=some (.string ui):=fun W h=>Ext.cell (hE6.trans h) e1;(refine WalkN.tk [0,1,2,3,4,5,6,7,8,9,10,11,12,13,14,15,16,17] ?_;(iterate 18 (refine c! ?_));refine TkN.n ?_)
       refine d! ?_;clear h1 g0 g1 hne0 hke e0 e1;obtain⟨w6,rfl⟩:∃ w6,w6=wd:=⟨_,rfl⟩;have hkc:(k:Int)<=mc:=by omega
       have hkq:(k:Int)<=q.length:=by omega
       go_wp2_with fail
       obtain⟨wd,hwd⟩:∃ wd,wd=w6.drew:=⟨_,rfl⟩;have hEd:Ext wr0 wd:=by rw[hwd];exact hE6.trans (Ext.drew _)
       have hBd:Blk wd wr0.heap.size #[.string pt,.string pi] 30:=by rw[hwd];exact hB6.drew
       have hbd:Below w.heap.size w wd:=HBEL.out.trans (Below.mono hEd HBEL.out.size);have hsd:Sl (· < wd.heap.size) wd 2 (.slice (some ⟨b2,off2,none⟩) q.length mc) (ocs q):=HOW.out.slU.up hEd;refine r! (Ext wd) (by rw[<- hwd];exact Ext.refl _) ?_;rw[<- hwd];clear hwd;have HTW:∀ W,Ext wd W->∀ i,W.cell? ⟨wr0.heap.size,i,none⟩=(#[.string pt,.string pi]:Array Value)[i]?:=fun W h=>(hBd.below h).cells;(refine WalkN.tk [1,2,3,5,8,9,10] ?_;(iterate 7 (refine c! ?_));refine TkN.n ?_)
       clear HTW;have hE0:Ext wd wd:=Ext.refl _
       have hs1:Sl (· < wd.heap.size) wd 2 (.slice (some ⟨b2,off2,none⟩) k mc) (ocs (q.take k)):=by
        have:=hsd.take k (by omega);rwa[ocs_take]at this
       have hs2:Sl (· < wd.heap.size) wd 2 (.slice (if mc=k then(some ⟨b2,off2,none⟩)else(some ⟨b2,off2+k*2,none⟩)) (q.length-k) (mc-k)) (ocs (q.drop k)):=by
        have:=hsd.tailK (ao':=(if mc=k then(some ⟨b2,off2,none⟩)else(some ⟨b2,off2+k*2,none⟩))) k (by omega) (fun h=>by rw[if_neg h];simp[Addr.add_lit]);rwa[ocs_drop]at this
       have HIN:=h! (show []++ocs (q.take k)++ocs [⟨pt,pi⟩]++ocs (q.drop k)=ocs (insO q k ⟨pt,pi⟩)from by rw[List.nil_append,<- ocs_append,<- ocs_append];rfl);have hl1:(q.take k).length<=100000:=by rw[List.length_take];omega
       have hl2:(q.drop k).length<=100000:=by rw[List.length_drop];omega
       clear hsd;refine p! 0 6 ?_ ?_
       ·refine⟨_,(by simp only[gA,gZ];rfl),by rfl,fun K hK=>?_⟩;go_simp;have hown1:Own (wd.alloc (.cells #[] 30)) wd.heap.size 30 2 (.slice (some ⟨wd.heap.size,0,none⟩) 0 0) []:=Own.made wd (Nat.le_refl _) _ _;have hE1:=Below.alloc hE0 (Nat.le_refl _) (.cells #[] 30);refine hK.out _ _ hE1 ?_;clear hK;refine p! 4 6 ?_ ?_
        ·refine b! ?_;intro K hK;refine wp_own objsTO (.tmp 60) (.tmp 63) rfl rfl hown1 rfl (hs1.same (Same.below hE1)) (ocs_one _) (by simp[ocs_length] <;> omega) (by simp[ocs_length] <;> omega) hE1.size (fun v2 w2 hown2 hb2 hg2'=>?_);have hE2:Ext wd w2:=Below.trans hE1 hb2;refine hK.out _ _ hE2 ?_;clear hK;simp only[Act.put,pA,pZ,pS];refine o! 6 ?_;refine b! ?_;intro K hK;go_simp;have hE3:=Below.alloc hE2 hE2.size (.cells #[.string pt,.string pi] 30);have hown3:=hown2.below ((Below.refl _ _).alloc (Nat.le_refl _) (.cells #[.string pt,.string pi] 30));have hk3:Sl (fun _=>True) (w2.alloc (.cells #[.string pt,.string pi] 30)) 2 (.slice (some ⟨w2.heap.size,0,none⟩) 1 1) (ocs [⟨pt,pi⟩]):=Sl.made w2 (fun _=>True) 2 1 30 #[.string pt,.string pi] rfl (by decide) trivial;refine hK.out _ _ hE3 ?_;clear hK;refine o! 7 ?_;refine b! ?_;intro K hK;refine wp_own objsTO (.tmp 64) (.tmp 66) rfl rfl hown3 rfl hk3 (ocs_one _) (by simp[ocs_length] <;> omega) (by simp[ocs_length] <;> omega) hE3.size (fun v4 w4 hown4 hb4 _=>?_);have hE4:Ext wd w4:=Below.trans hE3 hb4;refine hK.out _ _ hE4 ?_;clear hK;simp only[Act.put,pA,pZ,pS];refine o! 11 ?_;refine b! ?_;intro K hK;refine wp_own objsTO (.tmp 67) (.tmp 70) rfl rfl hown4 rfl (hs2.same (Same.below hE4)) (ocs_one _) (by simp[ocs_length] <;> omega) (by simp[ocs_length] <;> omega) hE4.size (fun v5 w5 hown5 hb5 _=>?_);have hE5:Ext wd w5:=Below.trans hE4 hb5;have HO5:=h! hown5;refine hK.out _ _ hE5 ?_;clear hK;simp only[Act.put,pA,pZ,pS];clear hown3 hown4 hown5 hk3;refine t! 12 ?_
         refine d! ?_;go_wp2
         go_roundw
         case rel=>exact⟨j+1,insO q k ⟨pt,pi⟩,by omega,by go_num,(HIN.out▸HO5.out:Own w5 wd.heap.size 30 2 v5 (ocs (insO q k ⟨pt,pi⟩))).base hbd.size,HUP.out,HME.out,by rw[insO_length];omega,hbd.trans (Below.mono hE5 hbd.size),HEW.out.trans (hEd.trans hE5)⟩
         case measure=>simp[intOf];omega
        ·obtain⟨w1,hw1⟩:∃ w1,w1=wd.alloc (.cells #[] 30):=⟨_,rfl⟩;rw[<- hw1]at hown1 hE1 ⊢;have hs1':w1.heap.size=wd.heap.size+1:=by rw[hw1];simp
         have HS1:=h! hs1';clear hw1 hs1';refine b! ?_;intro K hK;go_simp;have hE3:=Below.alloc hE1 hE1.size (.cells #[.string pt,.string pi] 30);have hown3:=hown1.below ((Below.refl _ _).alloc (Nat.le_refl _) (.cells #[.string pt,.string pi] 30));have hk3:Sl (fun b=>b=w1.heap.size) (w1.alloc (.cells #[.string pt,.string pi] 30)) 2 (.slice (some ⟨w1.heap.size,0,none⟩) 1 1) (ocs [⟨pt,pi⟩]):=Sl.made w1 (fun b=>b=w1.heap.size) 2 1 30 #[.string pt,.string pi] rfl (by decide) rfl;refine hK.out _ _ hE3 ?_;clear hK;refine o! 4 ?_;refine b! ?_;intro K hK;refine wp_own objsTO (.tmp 60) (.tmp 63) rfl rfl hown3 rfl (hs1.same (Same.below hE3)) (ocs_one _) (by simp[ocs_length] <;> omega) (by simp[ocs_length] <;> omega) hE3.size (fun v2 w2 hown2 hb2 hg2'=>?_);have hE2:Ext wd w2:=Below.trans hE3 hb2;have hk5:=hk3.same (w':=w2) (fun x hx=>hg2'.block x (by subst hx;simp) (fun h=>by subst hx;have h2:=Option.some.inj (show some w1.heap.size=some wd.heap.size from h);have:=HS1.out;omega));refine hK.out _ _ hE2 ?_;clear hK;simp only[Act.put,pA,pZ,pS];refine o! 7 ?_;refine b! ?_;intro K hK;refine wp_own objsTO (.tmp 64) (.tmp 66) rfl rfl hown2 rfl hk5 (ocs_one _) (by simp[ocs_length] <;> omega) (by simp[ocs_length] <;> omega) hE2.size (fun v4 w4 hown4 hb4 _=>?_);have hE4:Ext wd w4:=Below.trans hE2 hb4;refine hK.out _ _ hE4 ?_;clear hK;simp only[Act.put,pA,pZ,pS];refine o! 11 ?_;refine b! ?_;intro K hK;refine wp_own objsTO (.tmp 67) (.tmp 70) rfl rfl hown4 rfl (hs2.same (Same.below hE4)) (ocs_one _) (by simp[ocs_length] <;> omega) (by simp[ocs_length] <;> omega) hE4.size (fun v5 w5 hown5 hb5 _=>?_);have hE5:Ext wd w5:=Below.trans hE4 hb5;have HO5:=h! hown5;refine hK.out _ _ hE5 ?_;clear hK;simp only[Act.put,pA,pZ,pS];clear hown2 hown4 hown5 hk5;refine t! 12 ?_
         refine d! ?_;go_wp2
         go_roundw
         case rel=>exact⟨j+1,insO q k ⟨pt,pi⟩,by omega,by go_num,(HIN.out▸HO5.out:Own w5 wd.heap.size 30 2 v5 (ocs (insO q k ⟨pt,pi⟩))).base hbd.size,HUP.out,HME.out,by rw[insO_length];omega,hbd.trans (Below.mono hE5 hbd.size),HEW.out.trans (hEd.trans hE5)⟩
         case measure=>simp[intOf];omega
       ·refine b! ?_;intro K hK;go_simp;have hE1:=Below.alloc hE0 (Nat.le_refl _) (.cells #[.string pt,.string pi] 30);have hk1:Sl (fun b=>b=wd.heap.size) (wd.alloc (.cells #[.string pt,.string pi] 30)) 2 (.slice (some ⟨wd.heap.size,0,none⟩) 1 1) (ocs [⟨pt,pi⟩]):=Sl.made wd (fun b=>b=wd.heap.size) 2 1 30 #[.string pt,.string pi] rfl (by decide) rfl;refine hK.out _ _ hE1 ?_;clear hK;obtain⟨w1,hw1⟩:∃ w1,w1=wd.alloc (.cells #[.string pt,.string pi] 30):=⟨_,rfl⟩;rw[<- hw1]at hk1 hE1 ⊢;have hs1':w1.heap.size=wd.heap.size+1:=by rw[hw1];simp
        have HS1:=h! hs1';clear hw1 hs1';refine o! 0 ?_;refine⟨_,(by simp only[gA,gZ];rfl),by rfl,fun K hK=>?_⟩;go_simp;have hown1:Own (w1.alloc (.cells #[] 30)) wd.heap.size 30 2 (.slice (some ⟨w1.heap.size,0,none⟩) 0 0) []:=Own.made w1 hE1.size _ _;have hE3:=Below.alloc hE1 hE1.size (.cells #[] 30);have hk3:=hk1.same (w':=w1.alloc (.cells #[] 30)) (fun x hx=>Below.heap_alloc w1 _ x (by subst hx;have:=HS1.out;omega));refine hK.out _ _ hE3 ?_;clear hK;refine o! 4 ?_;refine b! ?_;intro K hK;refine wp_own objsTO (.tmp 60) (.tmp 63) rfl rfl hown1 rfl (hs1.same (Same.below hE3)) (ocs_one _) (by simp[ocs_length] <;> omega) (by simp[ocs_length] <;> omega) hE3.size (fun v2 w2 hown2 hb2 hg2'=>?_);have hE2:Ext wd w2:=Below.trans hE3 hb2;have hk5:=hk3.same (w':=w2) (fun x hx=>hg2'.block x (by subst hx;have:=HS1.out;simp;omega) (fun h=>by subst hx;have h2:=Option.some.inj (show some wd.heap.size=some w1.heap.size from h);have:=HS1.out;omega));refine hK.out _ _ hE2 ?_;clear hK;simp only[Act.put,pA,pZ,pS];refine o! 7 ?_;refine b! ?_;intro K hK;refine wp_own objsTO (.tmp 64) (.tmp 66) rfl rfl hown2 rfl hk5 (ocs_one _) (by simp[ocs_length] <;> omega) (by simp[ocs_length] <;> omega) hE2.size (fun v4 w4 hown4 hb4 _=>?_);have hE4:Ext wd w4:=Below.trans hE2 hb4;refine hK.out _ _ hE4 ?_;clear hK;simp only[Act.put,pA,pZ,pS];refine o! 11 ?_;refine b! ?_;intro K hK;refine wp_own objsTO (.tmp 67) (.tmp 70) rfl rfl hown4 rfl (hs2.same (Same.below hE4)) (ocs_one _) (by simp[ocs_length] <;> omega) (by simp[ocs_length] <;> omega) hE4.size (fun v5 w5 hown5 hb5 _=>?_);have hE5:Ext wd w5:=Below.trans hE4 hb5;have HO5:=h! hown5;refine hK.out _ _ hE5 ?_;clear hK;simp only[Act.put,pA,pZ,pS];clear hown2 hown4 hown5 hk5;refine t! 12 ?_
        refine d! ?_;go_wp2
        go_roundw
        case rel=>exact⟨j+1,insO q k ⟨pt,pi⟩,by omega,by go_num,(HIN.out▸HO5.out:Own w5 wd.heap.size 30 2 v5 (ocs (insO q k ⟨pt,pi⟩))).base hbd.size,HUP.out,HME.out,by rw[insO_length];omega,hbd.trans (Below.mono hE5 hbd.size),HEW.out.trans (hEd.trans hE5)⟩
        case measure=>simp[intOf];omega
      ·obtain rfl:k=q.length:=by omega
       have HUP:=h! (insO_up (p:=⟨pt,pi⟩) HUPQ.out HALL.out (fun h=>absurd h hkl));have HME:=h! (show ∀ x,x∈insO q q.length ⟨pt,pi⟩↔QB (j+1) x from fun x=>by rw[insO_mem,HMQ.out x,HTK.out x]);have hkc:(q.length:Int)<=mc:=by omega
       have hkq:(q.length:Int)<=q.length:=by omega
       clear hkl HALL HMC hbr;rcases HSH.out with⟨hmn,-⟩ | ⟨b2,n',c',hmn⟩
       ·obtain rfl:mo=none:=by injection hmn
        clear hmn HSH;go_wp2_with fail
        obtain⟨wc,hwc⟩:∃ wc,wc=wr.drew:=⟨_,rfl⟩;have hEc:Ext wr0 wc:=by rw[hwc];exact HEr.out.trans (Ext.drew _)
        have hBc:Blk wc wr0.heap.size #[.string pt,.string pi] 30:=by rw[hwc];exact hBx.drew
        refine r! (Ext wc) (by rw[<- hwc];exact Ext.refl _) ?_;rw[<- hwc];clear hwc;(refine WalkN.tk [0,1,2,3,4] ?_;(iterate 5 (refine c! ?_));refine TkN.n ?_)
        refine k! 5 ?_;refine k! 6 ?_;refine k! 7 ?_;refine k! 8 ?_;refine k! 9 ?_;refine k! 10 ?_
        refine t! 11 ?_
        refine d! ?_;go_wp2_with fail
        obtain⟨w6,hw6⟩:∃ w6,w6=wc.drew:=⟨_,rfl⟩;have hE6:Ext wr0 w6:=by rw[hw6];exact hEc.trans (Ext.drew _)
        have hB6:Blk w6 wr0.heap.size #[.string pt,.string pi] 30:=by rw[hw6];exact hBc.drew
        refine r! (Ext w6) (by rw[<- hw6];exact Ext.refl _) ?_;rw[<- hw6];clear hw6;have h1:∀ W,Ext w6 W->∀ i,W.cell? ⟨wr0.heap.size,i,none⟩=(#[.string pt,.string pi]:Array Value)[i]?:=fun W h=>(hB6.below h).cells;(refine WalkN.tk [0,1,2,3,4,5,6,7,8,9] ?_;(iterate 10 (refine c! ?_));refine TkN.n ?_)
        refine k! 10 ?_;refine k! 11 ?_;refine k! 12 ?_;refine k! 13 ?_;refine k! 14 ?_;refine k! 15 ?_
        (refine WalkN.tk [16,17] ?_;(iterate 2 (refine c! ?_));refine TkN.n ?_)
        clear h1;refine d! ?_;go_wp2_with fail
        obtain⟨wd,hwd⟩:∃ wd,wd=w6.drew:=⟨_,rfl⟩;have hEd:Ext wr0 wd:=by rw[hwd];exact hE6.trans (Ext.drew _)
        have hBd:Blk wd wr0.heap.size #[.string pt,.string pi] 30:=by rw[hwd];exact hB6.drew
        have hbd:Below w.heap.size w wd:=HBEL.out.trans (Below.mono hEd HBEL.out.size);have hsd:Sl (· < wd.heap.size) wd 2 (.slice none q.length mc) (ocs q):=HOW.out.slU.up hEd;refine r! (Ext wd) (by rw[<- hwd];exact Ext.refl _) ?_;rw[<- hwd];clear hwd;have HTW:∀ W,Ext wd W->∀ i,W.cell? ⟨wr0.heap.size,i,none⟩=(#[.string pt,.string pi]:Array Value)[i]?:=fun W h=>(hBd.below h).cells;(refine WalkN.tk [1,2,3,5,8,9,10] ?_;(iterate 7 (refine c! ?_));refine TkN.n ?_)
        clear HTW;have hE0:Ext wd wd:=Ext.refl _
        have hs1:Sl (· < wd.heap.size) wd 2 (.slice none q.length mc) (ocs (q.take q.length)):=by
         have:=hsd.take q.length (by omega);rwa[ocs_take]at this
        have hs2:Sl (· < wd.heap.size) wd 2 (.slice none 0 (mc-q.length)) (ocs (q.drop q.length)):=by
         have:=hsd.tailK (ao':=none) q.length (by omega) (fun _=>rfl);rwa[ocs_drop,Nat.sub_self]at this
        have HIN:=h! (show []++ocs (q.take q.length)++ocs [⟨pt,pi⟩]++ocs (q.drop q.length)=ocs (insO q q.length ⟨pt,pi⟩)from by rw[List.nil_append,<- ocs_append,<- ocs_append];rfl);have hl1:(q.take q.length).length<=100000:=by rw[List.length_take];omega
        have hl2:(q.drop q.length).length<=100000:=by rw[List.length_drop];omega
        clear hsd;refine p! 0 6 ?_ ?_
        ·refine⟨_,(by simp only[gA,gZ];rfl),by rfl,fun K hK=>?_⟩;go_simp;have hown1:Own (wd.alloc (.cells #[] 30)) wd.heap.size 30 2 (.slice (some ⟨wd.heap.size,0,none⟩) 0 0) []:=Own.made wd (Nat.le_refl _) _ _;have hE1:=Below.alloc hE0 (Nat.le_refl _) (.cells #[] 30);refine hK.out _ _ hE1 ?_;clear hK;refine p! 4 6 ?_ ?_
         ·refine b! ?_;intro K hK;refine wp_own objsTO (.tmp 60) (.tmp 63) rfl rfl hown1 rfl (hs1.same (Same.below hE1)) (ocs_one _) (by simp[ocs_length] <;> omega) (by simp[ocs_length] <;> omega) hE1.size (fun v2 w2 hown2 hb2 hg2'=>?_);have hE2:Ext wd w2:=Below.trans hE1 hb2;refine hK.out _ _ hE2 ?_;clear hK;simp only[Act.put,pA,pZ,pS];refine o! 6 ?_;refine b! ?_;intro K hK;go_simp;have hE3:=Below.alloc hE2 hE2.size (.cells #[.string pt,.string pi] 30);have hown3:=hown2.below ((Below.refl _ _).alloc (Nat.le_refl _) (.cells #[.string pt,.string pi] 30));have hk3:Sl (fun _=>True) (w2.alloc (.cells #[.string pt,.string pi] 30)) 2 (.slice (some ⟨w2.heap.size,0,none⟩) 1 1) (ocs [⟨pt,pi⟩]):=Sl.made w2 (fun _=>True) 2 1 30 #[.string pt,.string pi] rfl (by decide) trivial;refine hK.out _ _ hE3 ?_;clear hK;refine o! 7 ?_;refine b! ?_;intro K hK;refine wp_own objsTO (.tmp 64) (.tmp 66) rfl rfl hown3 rfl hk3 (ocs_one _) (by simp[ocs_length] <;> omega) (by simp[ocs_length] <;> omega) hE3.size (fun v4 w4 hown4 hb4 _=>?_);have hE4:Ext wd w4:=Below.trans hE3 hb4;refine hK.out _ _ hE4 ?_;clear hK;simp only[Act.put,pA,pZ,pS];refine o! 11 ?_;refine b! ?_;intro K hK;refine wp_own objsTO (.tmp 67) (.tmp 70) rfl rfl hown4 rfl (hs2.same (Same.below hE4)) (ocs_one _) (by simp[ocs_length] <;> omega) (by simp[ocs_length] <;> omega) hE4.size (fun v5 w5 hown5 hb5 _=>?_);have hE5:Ext wd w5:=Below.trans hE4 hb5;have HO5:=h! hown5;refine hK.out _ _ hE5 ?_;clear hK;simp only[Act.put,pA,pZ,pS];clear hown3 hown4 hown5 hk3;refine t! 12 ?_
          refine d! ?_;go_wp2
          go_roundw
          case rel=>exact⟨j+1,insO q q.length ⟨pt,pi⟩,by omega,by go_num,(HIN.out▸HO5.out:Own w5 wd.heap.size 30 2 v5 (ocs (insO q q.length ⟨pt,pi⟩))).base hbd.size,HUP.out,HME.out,by rw[insO_length];omega,hbd.trans (Below.mono hE5 hbd.size),HEW.out.trans (hEd.trans hE5)⟩
          case measure=>simp[intOf];omega
         ·obtain⟨w1,hw1⟩:∃ w1,w1=wd.alloc (.cells #[] 30):=⟨_,rfl⟩;rw[<- hw1]at hown1 hE1 ⊢;have hs1':w1.heap.size=wd.heap.size+1:=by rw[hw1];simp
          have HS1:=h! hs1';clear hw1 hs1';refine b! ?_;intro K hK;go_simp;have hE3:=Below.alloc hE1 hE1.size (.cells #[.string pt,.string pi] 30);have hown3:=hown1.below ((Below.refl _ _).alloc (Nat.le_refl _) (.cells #[.string pt,.string pi] 30));have hk3:Sl (fun b=>b=w1.heap.size) (w1.alloc (.cells #[.string pt,.string pi] 30)) 2 (.slice (some ⟨w1.heap.size,0,none⟩) 1 1) (ocs [⟨pt,pi⟩]):=Sl.made w1 (fun b=>b=w1.heap.size) 2 1 30 #[.string pt,.string pi] rfl (by decide) rfl;refine hK.out _ _ hE3 ?_;clear hK;refine o! 4 ?_;refine b! ?_;intro K hK;refine wp_own objsTO (.tmp 60) (.tmp 63) rfl rfl hown3 rfl (hs1.same (Same.below hE3)) (ocs_one _) (by simp[ocs_length] <;> omega) (by simp[ocs_length] <;> omega) hE3.size (fun v2 w2 hown2 hb2 hg2'=>?_);have hE2:Ext wd w2:=Below.trans hE3 hb2;have hk5:=hk3.same (w':=w2) (fun x hx=>hg2'.block x (by subst hx;simp) (fun h=>by subst hx;have h2:=Option.some.inj (show some w1.heap.size=some wd.heap.size from h);have:=HS1.out;omega));refine hK.out _ _ hE2 ?_;clear hK;simp only[Act.put,pA,pZ,pS];refine o! 7 ?_;refine b! ?_;intro K hK;refine wp_own objsTO (.tmp 64) (.tmp 66) rfl rfl hown2 rfl hk5 (ocs_one _) (by simp[ocs_length] <;> omega) (by simp[ocs_length] <;> omega) hE2.size (fun v4 w4 hown4 hb4 _=>?_);have hE4:Ext wd w4:=Below.trans hE2 hb4;refine hK.out _ _ hE4 ?_;clear hK;simp only[Act.put,pA,pZ,pS];refine o! 11 ?_;refine b! ?_;intro K hK;refine wp_own objsTO (.tmp 67) (.tmp 70) rfl rfl hown4 rfl (hs2.same (Same.below hE4)) (ocs_one _) (by simp[ocs_length] <;> omega) (by simp[ocs_length] <;> omega) hE4.size (fun v5 w5 hown5 hb5 _=>?_);have hE5:Ext wd w5:=Below.trans hE4 hb5;have HO5:=h! hown5;refine hK.out _ _ hE5 ?_;clear hK;simp only[Act.put,pA,pZ,pS];clear hown2 hown4 hown5 hk5;refine t! 12 ?_
          refine d! ?_;go_wp2
          go_roundw
          case rel=>exact⟨j+1,insO q q.length ⟨pt,pi⟩,by omega,by go_num,(HIN.out▸HO5.out:Own w5 wd.heap.size 30 2 v5 (ocs (insO q q.length ⟨pt,pi⟩))).base hbd.size,HUP.out,HME.out,by rw[insO_length];omega,hbd.trans (Below.mono hE5 hbd.size),HEW.out.trans (hEd.trans hE5)⟩
          case measure=>simp[intOf];omega
        ·refine b! ?_;intro K hK;go_simp;have hE1:=Below.alloc hE0 (Nat.le_refl _) (.cells #[.string pt,.string pi] 30);have hk1:Sl (fun b=>b=wd.heap.size) (wd.alloc (.cells #[.string pt,.string pi] 30)) 2 (.slice (some ⟨wd.heap.size,0,none⟩) 1 1) (ocs [⟨pt,pi⟩]):=Sl.made wd (fun b=>b=wd.heap.size) 2 1 30 #[.string pt,.string pi] rfl (by decide) rfl;refine hK.out _ _ hE1 ?_;clear hK;obtain⟨w1,hw1⟩:∃ w1,w1=wd.alloc (.cells #[.string pt,.string pi] 30):=⟨_,rfl⟩;rw[<- hw1]at hk1 hE1 ⊢;have hs1':w1.heap.size=wd.heap.size+1:=by rw[hw1];simp
         have HS1:=h! hs1';clear hw1 hs1';refine o! 0 ?_;refine⟨_,(by simp only[gA,gZ];rfl),by rfl,fun K hK=>?_⟩;go_simp;have hown1:Own (w1.alloc (.cells #[] 30)) wd.heap.size 30 2 (.slice (some ⟨w1.heap.size,0,none⟩) 0 0) []:=Own.made w1 hE1.size _ _;have hE3:=Below.alloc hE1 hE1.size (.cells #[] 30);have hk3:=hk1.same (w':=w1.alloc (.cells #[] 30)) (fun x hx=>Below.heap_alloc w1 _ x (by subst hx;have:=HS1.out;omega));refine hK.out _ _ hE3 ?_;clear hK;refine o! 4 ?_;refine b! ?_;intro K hK;refine wp_own objsTO (.tmp 60) (.tmp 63) rfl rfl hown1 rfl (hs1.same (Same.below hE3)) (ocs_one _) (by simp[ocs_length] <;> omega) (by simp[ocs_length] <;> omega) hE3.size (fun v2 w2 hown2 hb2 hg2'=>?_);have hE2:Ext wd w2:=Below.trans hE3 hb2;have hk5:=hk3.same (w':=w2) (fun x hx=>hg2'.block x (by subst hx;have:=HS1.out;simp;omega) (fun h=>by subst hx;have h2:=Option.some.inj (show some wd.heap.size=some w1.heap.size from h);have:=HS1.out;omega));refine hK.out _ _ hE2 ?_;clear hK;simp only[Act.put,pA,pZ,pS];refine o! 7 ?_;refine b! ?_;intro K hK;refine wp_own objsTO (.tmp 64) (.tmp 66) rfl rfl hown2 rfl hk5 (ocs_one _) (by simp[ocs_length] <;> omega) (by simp[ocs_length] <;> omega) hE2.size (fun v4 w4 hown4 hb4 _=>?_);have hE4:Ext wd w4:=Below.trans hE2 hb4;refine hK.out _ _ hE4 ?_;clear hK;simp only[Act.put,pA,pZ,pS];refine o! 11 ?_;refine b! ?_;intro K hK;refine wp_own objsTO (.tmp 67) (.tmp 70) rfl rfl hown4 rfl (hs2.same (Same.below hE4)) (ocs_one _) (by simp[ocs_length] <;> omega) (by simp[ocs_length] <;> omega) hE4.size (fun v5 w5 hown5 hb5 _=>?_);have hE5:Ext wd w5:=Below.trans hE4 hb5;have HO5:=h! hown5;refine hK.out _ _ hE5 ?_;clear hK;simp only[Act.put,pA,pZ,pS];clear hown2 hown4 hown5 hk5;refine t! 12 ?_
         refine d! ?_;go_wp2
         go_roundw
         case rel=>exact⟨j+1,insO q q.length ⟨pt,pi⟩,by omega,by go_num,(HIN.out▸HO5.out:Own w5 wd.heap.size 30 2 v5 (ocs (insO q q.length ⟨pt,pi⟩))).base hbd.size,HUP.out,HME.out,by rw[insO_length];omega,hbd.trans (Below.mono hE5 hbd.size),HEW.out.trans (hEd.trans hE5)⟩
         case measure=>simp[intOf];omega
       ·obtain⟨off2,rfl⟩:∃ off2,mo=some ⟨b2,off2,none⟩:=⟨0,by injection hmn⟩;clear hmn HSH;go_wp2_with fail
        obtain⟨wc,hwc⟩:∃ wc,wc=wr.drew:=⟨_,rfl⟩;have hEc:Ext wr0 wc:=by rw[hwc];exact HEr.out.trans (Ext.drew _)
        have hBc:Blk wc wr0.heap.size #[.string pt,.string pi] 30:=by rw[hwc];exact hBx.drew
        refine r! (Ext wc) (by rw[<- hwc];exact Ext.refl _) ?_;rw[<- hwc];clear hwc;(refine WalkN.tk [0,1,2,3,4] ?_;(iterate 5 (refine c! ?_));refine TkN.n ?_)
        refine k! 5 ?_;refine k! 6 ?_;refine k! 7 ?_;refine k! 8 ?_;refine k! 9 ?_;refine k! 10 ?_
        refine t! 11 ?_
        refine d! ?_;go_wp2_with fail
        obtain⟨w6,hw6⟩:∃ w6,w6=wc.drew:=⟨_,rfl⟩;have hE6:Ext wr0 w6:=by rw[hw6];exact hEc.trans (Ext.drew _)
        have hB6:Blk w6 wr0.heap.size #[.string pt,.string pi] 30:=by rw[hw6];exact hBc.drew
        refine r! (Ext w6) (by rw[<- hw6];exact Ext.refl _) ?_;rw[<- hw6];clear hw6;have h1:∀ W,Ext w6 W->∀ i,W.cell? ⟨wr0.heap.size,i,none⟩=(#[.string pt,.string pi]:Array Value)[i]?:=fun W h=>(hB6.below h).cells;(refine WalkN.tk [0,1,2,3,4,5,6,7,8,9] ?_;(iterate 10 (refine c! ?_));refine TkN.n ?_)
        refine k! 10 ?_;refine k! 11 ?_;refine k! 12 ?_;refine k! 13 ?_;refine k! 14 ?_;refine k! 15 ?_
        (refine WalkN.tk [16,17] ?_;(iterate 2 (refine c! ?_));refine TkN.n ?_)
        clear h1;refine d! ?_;go_wp2_with fail
        obtain⟨wd,hwd⟩:∃ wd,wd=w6.drew:=⟨_,rfl⟩;have hEd:Ext wr0 wd:=by rw[hwd];exact hE6.trans (Ext.drew _)
        have hBd:Blk wd wr0.heap.size #[.string pt,.string pi] 30:=by rw[hwd];exact hB6.drew
        have hbd:Below w.heap.size w wd:=HBEL.out.trans (Below.mono hEd HBEL.out.size);have hsd:Sl (· < wd.heap.size) wd 2 (.slice (some ⟨b2,off2,none⟩) q.length mc) (ocs q):=HOW.out.slU.up hEd;refine r! (Ext wd) (by rw[<- hwd];exact Ext.refl _) ?_;rw[<- hwd];clear hwd;have HTW:∀ W,Ext wd W->∀ i,W.cell? ⟨wr0.heap.size,i,none⟩=(#[.string pt,.string pi]:Array Value)[i]?:=fun W h=>(hBd.below h).cells;(refine WalkN.tk [1,2,3,5,8,9,10] ?_;(iterate 7 (refine c! ?_));refine TkN.n ?_)
        clear HTW;have hE0:Ext wd wd:=Ext.refl _
        have hs1:Sl (· < wd.heap.size) wd 2 (.slice (some ⟨b2,off2,none⟩) q.length mc) (ocs (q.take q.length)):=by
         have:=hsd.take q.length (by omega);rwa[ocs_take]at this
        have hs2:Sl (· < wd.heap.size) wd 2 (.slice (if mc=q.length then(some ⟨b2,off2,none⟩)else(some ⟨b2,off2+q.length*2,none⟩)) 0 (mc-q.length)) (ocs (q.drop q.length)):=by
         have:=hsd.tailK (ao':=(if mc=q.length then(some ⟨b2,off2,none⟩)else(some ⟨b2,off2+q.length*2,none⟩))) q.length (by omega) (fun h=>by rw[if_neg h];simp[Addr.add_lit]);rwa[ocs_drop,Nat.sub_self]at this
        have HIN:=h! (show []++ocs (q.take q.length)++ocs [⟨pt,pi⟩]++ocs (q.drop q.length)=ocs (insO q q.length ⟨pt,pi⟩)from by rw[List.nil_append,<- ocs_append,<- ocs_append];rfl);have hl1:(q.take q.length).length<=100000:=by rw[List.length_take];omega
        have hl2:(q.drop q.length).length<=100000:=by rw[List.length_drop];omega
        clear hsd;refine p! 0 6 ?_ ?_
        ·refine⟨_,(by simp only[gA,gZ];rfl),by rfl,fun K hK=>?_⟩;go_simp;have hown1:Own (wd.alloc (.cells #[] 30)) wd.heap.size 30 2 (.slice (some ⟨wd.heap.size,0,none⟩) 0 0) []:=Own.made wd (Nat.le_refl _) _ _;have hE1:=Below.alloc hE0 (Nat.le_refl _) (.cells #[] 30);refine hK.out _ _ hE1 ?_;clear hK;refine p! 4 6 ?_ ?_
         ·refine b! ?_;intro K hK;refine wp_own objsTO (.tmp 60) (.tmp 63) rfl rfl hown1 rfl (hs1.same (Same.below hE1)) (ocs_one _) (by simp[ocs_length] <;> omega) (by simp[ocs_length] <;> omega) hE1.size (fun v2 w2 hown2 hb2 hg2'=>?_);have hE2:Ext wd w2:=Below.trans hE1 hb2;refine hK.out _ _ hE2 ?_;clear hK;simp only[Act.put,pA,pZ,pS];refine o! 6 ?_;refine b! ?_;intro K hK;go_simp;have hE3:=Below.alloc hE2 hE2.size (.cells #[.string pt,.string pi] 30);have hown3:=hown2.below ((Below.refl _ _).alloc (Nat.le_refl _) (.cells #[.string pt,.string pi] 30));have hk3:Sl (fun _=>True) (w2.alloc (.cells #[.string pt,.string pi] 30)) 2 (.slice (some ⟨w2.heap.size,0,none⟩) 1 1) (ocs [⟨pt,pi⟩]):=Sl.made w2 (fun _=>True) 2 1 30 #[.string pt,.string pi] rfl (by decide) trivial;refine hK.out _ _ hE3 ?_;clear hK;refine o! 7 ?_;refine b! ?_;intro K hK;refine wp_own objsTO (.tmp 64) (.tmp 66) rfl rfl hown3 rfl hk3 (ocs_one _) (by simp[ocs_length] <;> omega) (by simp[ocs_length] <;> omega) hE3.size (fun v4 w4 hown4 hb4 _=>?_);have hE4:Ext wd w4:=Below.trans hE3 hb4;refine hK.out _ _ hE4 ?_;clear hK;simp only[Act.put,pA,pZ,pS];refine o! 11 ?_;refine b! ?_;intro K hK;refine wp_own objsTO (.tmp 67) (.tmp 70) rfl rfl hown4 rfl (hs2.same (Same.below hE4)) (ocs_one _) (by simp[ocs_length] <;> omega) (by simp[ocs_length] <;> omega) hE4.size (fun v5 w5 hown5 hb5 _=>?_);have hE5:Ext wd w5:=Below.trans hE4 hb5;have HO5:=h! hown5;refine hK.out _ _ hE5 ?_;clear hK;simp only[Act.put,pA,pZ,pS];clear hown3 hown4 hown5 hk3;refine t! 12 ?_
          refine d! ?_;go_wp2
          go_roundw
          case rel=>exact⟨j+1,insO q q.length ⟨pt,pi⟩,by omega,by go_num,(HIN.out▸HO5.out:Own w5 wd.heap.size 30 2 v5 (ocs (insO q q.length ⟨pt,pi⟩))).base hbd.size,HUP.out,HME.out,by rw[insO_length];omega,hbd.trans (Below.mono hE5 hbd.size),HEW.out.trans (hEd.trans hE5)⟩
          case measure=>simp[intOf];omega
         ·obtain⟨w1,hw1⟩:∃ w1,w1=wd.alloc (.cells #[] 30):=⟨_,rfl⟩;rw[<- hw1]at hown1 hE1 ⊢;have hs1':w1.heap.size=wd.heap.size+1:=by rw[hw1];simp
          have HS1:=h! hs1';clear hw1 hs1';refine b! ?_;intro K hK;go_simp;have hE3:=Below.alloc hE1 hE1.size (.cells #[.string pt,.string pi] 30);have hown3:=hown1.below ((Below.refl _ _).alloc (Nat.le_refl _) (.cells #[.string pt,.string pi] 30));have hk3:Sl (fun b=>b=w1.heap.size) (w1.alloc (.cells #[.string pt,.string pi] 30)) 2 (.slice (some ⟨w1.heap.size,0,none⟩) 1 1) (ocs [⟨pt,pi⟩]):=Sl.made w1 (fun b=>b=w1.heap.size) 2 1 30 #[.string pt,.string pi] rfl (by decide) rfl;refine hK.out _ _ hE3 ?_;clear hK;refine o! 4 ?_;refine b! ?_;intro K hK;refine wp_own objsTO (.tmp 60) (.tmp 63) rfl rfl hown3 rfl (hs1.same (Same.below hE3)) (ocs_one _) (by simp[ocs_length] <;> omega) (by simp[ocs_length] <;> omega) hE3.size (fun v2 w2 hown2 hb2 hg2'=>?_);have hE2:Ext wd w2:=Below.trans hE3 hb2;have hk5:=hk3.same (w':=w2) (fun x hx=>hg2'.block x (by subst hx;simp) (fun h=>by subst hx;have h2:=Option.some.inj (show some w1.heap.size=some wd.heap.size from h);have:=HS1.out;omega));refine hK.out _ _ hE2 ?_;clear hK;simp only[Act.put,pA,pZ,pS];refine o! 7 ?_;refine b! ?_;intro K hK;refine wp_own objsTO (.tmp 64) (.tmp 66) rfl rfl hown2 rfl hk5 (ocs_one _) (by simp[ocs_length] <;> omega) (by simp[ocs_length] <;> omega) hE2.size (fun v4 w4 hown4 hb4 _=>?_);have hE4:Ext wd w4:=Below.trans hE2 hb4;refine hK.out _ _ hE4 ?_;clear hK;simp only[Act.put,pA,pZ,pS];refine o! 11 ?_;refine b! ?_;intro K hK;refine wp_own objsTO (.tmp 67) (.tmp 70) rfl rfl hown4 rfl (hs2.same (Same.below hE4)) (ocs_one _) (by simp[ocs_length] <;> omega) (by simp[ocs_length] <;> omega) hE4.size (fun v5 w5 hown5 hb5 _=>?_);have hE5:Ext wd w5:=Below.trans hE4 hb5;have HO5:=h! hown5;refine hK.out _ _ hE5 ?_;clear hK;simp only[Act.put,pA,pZ,pS];clear hown2 hown4 hown5 hk5;refine t! 12 ?_
          refine d! ?_;go_wp2
          go_roundw
          case rel=>exact⟨j+1,insO q q.length ⟨pt,pi⟩,by omega,by go_num,(HIN.out▸HO5.out:Own w5 wd.heap.size 30 2 v5 (ocs (insO q q.length ⟨pt,pi⟩))).base hbd.size,HUP.out,HME.out,by rw[insO_length];omega,hbd.trans (Below.mono hE5 hbd.size),HEW.out.trans (hEd.trans hE5)⟩
          case measure=>simp[intOf];omega
        ·refine b! ?_;intro K hK;go_simp;have hE1:=Below.alloc hE0 (Nat.le_refl _) (.cells #[.string pt,.string pi] 30);have hk1:Sl (fun b=>b=wd.heap.size) (wd.alloc (.cells #[.string pt,.string pi] 30)) 2 (.slice (some ⟨wd.heap.size,0,none⟩) 1 1) (ocs [⟨pt,pi⟩]):=Sl.made wd (fun b=>b=wd.heap.size) 2 1 30 #[.string pt,.string pi] rfl (by decide) rfl;refine hK.out _ _ hE1 ?_;clear hK;obtain⟨w1,hw1⟩:∃ w1,w1=wd.alloc (.cells #[.string pt,.string pi] 30):=⟨_,rfl⟩;rw[<- hw1]at hk1 hE1 ⊢;have hs1':w1.heap.size=wd.heap.size+1:=by rw[hw1];simp
         have HS1:=h! hs1';clear hw1 hs1';refine o! 0 ?_;refine⟨_,(by simp only[gA,gZ];rfl),by rfl,fun K hK=>?_⟩;go_simp;have hown1:Own (w1.alloc (.cells #[] 30)) wd.heap.size 30 2 (.slice (some ⟨w1.heap.size,0,none⟩) 0 0) []:=Own.made w1 hE1.size _ _;have hE3:=Below.alloc hE1 hE1.size (.cells #[] 30);have hk3:=hk1.same (w':=w1.alloc (.cells #[] 30)) (fun x hx=>Below.heap_alloc w1 _ x (by subst hx;have:=HS1.out;omega));refine hK.out _ _ hE3 ?_;clear hK;refine o! 4 ?_;refine b! ?_;intro K hK;refine wp_own objsTO (.tmp 60) (.tmp 63) rfl rfl hown1 rfl (hs1.same (Same.below hE3)) (ocs_one _) (by simp[ocs_length] <;> omega) (by simp[ocs_length] <;> omega) hE3.size (fun v2 w2 hown2 hb2 hg2'=>?_);have hE2:Ext wd w2:=Below.trans hE3 hb2;have hk5:=hk3.same (w':=w2) (fun x hx=>hg2'.block x (by subst hx;have:=HS1.out;simp;omega) (fun h=>by subst hx;have h2:=Option.some.inj (show some wd.heap.size=some w1.heap.size from h);have:=HS1.out;omega));refine hK.out _ _ hE2 ?_;clear hK;simp only[Act.put,pA,pZ,pS];refine o! 7 ?_;refine b! ?_;intro K hK;refine wp_own objsTO (.tmp 64) (.tmp 66) rfl rfl hown2 rfl hk5 (ocs_one _) (by simp[ocs_length] <;> omega) (by simp[ocs_length] <;> omega) hE2.size (fun v4 w4 hown4 hb4 _=>?_);have hE4:Ext wd w4:=Below.trans hE2 hb4;refine hK.out _ _ hE4 ?_;clear hK;simp only[Act.put,pA,pZ,pS];refine o! 11 ?_;refine b! ?_;intro K hK;refine wp_own objsTO (.tmp 67) (.tmp 70) rfl rfl hown4 rfl (hs2.same (Same.below hE4)) (ocs_one _) (by simp[ocs_length] <;> omega) (by simp[ocs_length] <;> omega) hE4.size (fun v5 w5 hown5 hb5 _=>?_);have hE5:Ext wd w5:=Below.trans hE4 hb5;have HO5:=h! hown5;refine hK.out _ _ hE5 ?_;clear hK;simp only[Act.put,pA,pZ,pS];clear hown2 hown4 hown5 hk5;refine t! 12 ?_
         refine d! ?_;go_wp2
         go_roundw
         case rel=>exact⟨j+1,insO q q.length ⟨pt,pi⟩,by omega,by go_num,(HIN.out▸HO5.out:Own w5 wd.heap.size 30 2 v5 (ocs (insO q q.length ⟨pt,pi⟩))).base hbd.size,HUP.out,HME.out,by rw[insO_length];omega,hbd.trans (Below.mono hE5 hbd.size),HEW.out.trans (hEd.trans hE5)⟩
         case measure=>simp[intOf];omega
    ·obtain rfl:j=2:=by omega
     have HMN:=h! (show ∀ x,x∈q↔x.t=typ/\ObjIn (l.take (i+1)) x from fun x=>by
      rw[HMQ.out x,hQB.out,HOT.out x];refine and_congr_right fun _=>or_congr Iff.rfl ?_;simp only[List.take_succ_cons,List.take_zero,List.mem_cons,List.not_mem_nil,or_false,P3.obj];exact or_congr eq_comm eq_comm)
     have HOW:=h! hown;have HBE:=h! hbel;have hwi:wrap64 ((i:Int)+1)=((i+1:Nat):Int):=by have:=HL.out;have:=HILT.out;unfold wrap64;omega
     have HWI:=h! hwi;clear hown hbel hlt hj;go_wp2_with fail
     go_roundw
     case rel=>exact⟨i+1,q,HILT.out,by first | rw[HWI.out] | go_num,HOW.out,HUPQ.out,HMN.out,by omega,HBE.out⟩
     case measure=>have:=HILT.out;(try rw[HWI.out]);simp[intOf];omega
  ·obtain rfl:i=l.length:=by omega
   rw[List.take_length]at HMA;obtain⟨mo,mc,rfl,-,-,-⟩:=Sl.rows oC_length (by decide) (show Sl _ wr 2 u5 (List.flatMap oC qA)from HOA.out.sl);go_wp2_with fail
   go_ret
   exact⟨_,qA,rfl,HUA.out,HMA.out,HOA.out,HBA.out⟩
end Go.Proofs.YtlhaghoajpglaaaGreat
