/- Lemmas for the claim, no condition. -/
import Derived.Deep.RegionHeld
import Derived.Laws.EntriesVeiled
import Derived.Test.YtlhaghoajpglaaaGreatYLkSets13
import Derived.Test.YtlhaghoajpglaaaGreatYLkSets0
import Derived.Test.YtlhaghoajpglaaaGreatYLkSets12
import Derived.Test.YtlhaghoajpglaaaGreatYLkSets8
import Derived.Test.YtlhaghoajpglaaaGreatYLkSets6
import Derived.Test.YtlhaghoajpglaaaGreatYLkSets1
set_option maxRecDepth 100000
set_option maxHeartbeats 8000000
namespace Go.Proofs.YtlhaghoajpglaaaGreat
open Go Go.RowKit Go.Maps
theorem int_info:(Tryz.prog.info? 3).map (fun i=>(i.zero,i.size,i.bytes))=some (some (.int .i64 0),1,8):=by kernel_rfl
theorem bool_info:(Tryz.prog.info? 4).map (fun i=>(i.zero,i.size,i.bytes))=some (some (.bool false),1,1):=by kernel_rfl
theorem makeI (n:Nat)(h:n<=100000000):∀ W,(Instr.makeSlice 107 (.int .i64 (n:Int)) (.int .i64 (n:Int))).run Tryz.prog W = .ok (.slice (some ⟨W.heap.size,0,none⟩) n n) (W.alloc (.cells (madeCells #[.int .i64 0] n) 3)):=by
 intro W;obtain⟨i,hi,hzz⟩:=Option.map_eq_some_iff.1 int_info;simp only[Prod.mk.injEq]at hzz;obtain⟨hz,hs,hb⟩:=hzz;have:=run_make (P:=Tryz.prog) W 107 3 i (.int .i64 0) Tryz.underlying107 hi hz .i64 .i64 n n (by omega) (by omega) (by rw[hb];omega) (by omega);rw[this,hs,Nat.mul_one];rfl
theorem makeB (n:Nat)(h:n<=100000000):∀ W,(Instr.makeSlice 74 (.int .i64 (n:Int)) (.int .i64 (n:Int))).run Tryz.prog W = .ok (.slice (some ⟨W.heap.size,0,none⟩) n n) (W.alloc (.cells (madeCells #[.bool false] n) 4)):=by
 intro W;obtain⟨i,hi,hzz⟩:=Option.map_eq_some_iff.1 bool_info;simp only[Prod.mk.injEq]at hzz;obtain⟨hz,hs,hb⟩:=hzz;have:=run_make (P:=Tryz.prog) W 74 4 i (.bool false) Tryz.underlying74 hi hz .i64 .i64 n n (by omega) (by omega) (by rw[hb];omega) (by omega);rw[this,hs,Nat.mul_one];rfl
theorem Own.made1 (w:World)(n:Nat)(h:n<=100000000)(e:TypeId)(z:Value):Own (w.alloc (.cells (madeCells #[z] n) e)) w.heap.size e 1 (.slice (some ⟨w.heap.size,0,none⟩) n n) (List.replicate n z):=by
 refine⟨n,by rw[List.length_replicate];omega,.inr ⟨w.heap.size,n,_,rfl,Nat.le_refl _,heap_alloc_new w _,Nat.le_refl _,by unfold maxLen;omega,by rw[size_madeCells];omega,?_⟩⟩;apply List.ext_getElem?;intro j;rw[List.getElem?_take];by_cases hj:j<n
 ·rw[if_pos (by omega)];simp[madeCells,hj,Nat.mod_one]
 ·rw[if_neg (by omega)];simp[show n<=j by omega]
theorem Own.cellAt {w:World} {B:Nat} {e:TypeId} {g n c:Nat} {xs:List Value} (h:Own w B e 1 (.slice (some ⟨g,0,none⟩) n c) xs):xs.length=n/\B<=g/\∃ cs,Blk w g cs e/\∀ i (hi:i<xs.length),w.cell? ⟨g,i,none⟩=some xs[i]:=by
 obtain⟨m,h⟩:=h;rcases h.2 with⟨hv,rfl⟩ | ⟨g',cap,cur,hv,hbg,hg,hnc,hcm,hcs,htake⟩
 ·cases hv
 ·cases hv;have hl:=h.1;rw[Nat.mul_one]at hl htake;refine⟨hl,hbg,cur,hg,fun i hi=>?_⟩;have h1:=congrArg (fun l:List Value=>l[i]?) htake;rw[List.getElem?_take_of_lt (by omega),List.getElem?_eq_getElem hi]at h1;rw[(show Blk w g cur e from hg).cells i];simpa using h1
structure SolI (lo gi go n:Nat)(w0 w:World)(L:List Bool)(R:List Int):Prop where
 below:Below lo w0 w
 inn:Own w lo 4 1 (.slice (some ⟨gi,0,none⟩) n n) (boC L)
 out:Own w lo 3 1 (.slice (some ⟨go,0,none⟩) n n) (ic R)
section
variable {lo gi go n : Nat} {w0 w w' : World} {L : List Bool} {R : List Int}
theorem SolI.ne (h:SolI lo gi go n w0 w L R):gi≠go:=fun e=>by
 subst e;exact h.inn.apart h.out (by decide) rfl rfl
theorem SolI.keep (h:SolI lo gi go n w0 w L R)(hb:Below w.heap.size w w')(hl:lo<=w.heap.size):SolI lo gi go n w0 w' L R :=
 ⟨h.below.trans (hb.mono hl),h.inn.below hb,h.out.below hb⟩
theorem SolI.setIn (h:SolI lo gi go n w0 w L R)(k:Nat):SolI lo gi go n w0 (w.setCell ⟨gi,k,none⟩ (.bool true)) (L.set k true) R :=
 ⟨Below.setCell h.below (h.inn.block gi rfl).1 _,by have:=h.inn.set1 k (.bool true);rw[show(boC L).set k (.bool true)=boC (L.set k true)from by unfold boC;rw[List.map_set]]at this;exact this,
  h.out.keepOwn fun g hg=>Below.heap_setCell _ _ _ _ fun e=>h.ne (by have:go=g:=Option.some.inj hg;rw[this];exact e.symm)⟩
theorem SolI.setOut (h:SolI lo gi go n w0 w L R)(k:Nat)(x:Int):SolI lo gi go n w0 (w.setCell ⟨go,k,none⟩ (.int .i64 x)) L (R.set k x) :=
 ⟨Below.setCell h.below (h.out.block go rfl).1 _,h.inn.keepOwn fun g hg=>Below.heap_setCell _ _ _ _ fun e=>h.ne (by have:gi=g:=Option.some.inj hg;rw[this];exact e),
  by have:=h.out.set1 k (.int .i64 x);rw[show(ic R).set k (.int .i64 x)=ic (R.set k x)from by unfold ic;rw[List.map_set]]at this;exact this⟩
end
def frN (fs:List FT)(s:P3)(n r i:Nat):List Int:=((List.range i).filter fun j=>newS fs s (inN fs s n r) j).map fun(j:Nat)=>(j:Int)
theorem frN_succ (fs:List FT)(s:P3)(n r i:Nat):frN fs s n r (i+1)=if newS fs s (inN fs s n r) i=true then frN fs s n r i++[(i:Int)]else frN fs s n r i:=by
 unfold frN;rw[List.range_succ,List.filter_append,List.map_append];by_cases h:newS fs s (inN fs s n r) i=true <;> simp[h]
theorem frN_len (fs:List FT)(s:P3)(n r i:Nat):(frN fs s n r i).length<=i:=by
 unfold frN;rw[List.length_map];have:=List.length_filter_le (fun j=>newS fs s (inN fs s n r) j) (List.range i);rwa[List.length_range]at this
theorem frN_mem (fs:List FT)(s:P3)(n r:Nat):∀ x∈frN fs s n r n,∃ i:Nat,x=(i:Int)/\i<n/\newS fs s (inN fs s n r) i=true:=fun x hx=>by
 unfold frN at hx;obtain⟨j,hj,rfl⟩:=List.mem_map.1 hx;rw[List.mem_filter,List.mem_range]at hj;exact⟨j,rfl,hj.1,hj.2⟩
theorem frN_iff (fs:List FT)(s:P3)(n r:Nat):∀ i:Nat,i<n->((i:Int)∈frN fs s n r n↔newS fs s (inN fs s n r) i=true):=fun i hi=>by
 refine⟨fun h=>?_,fun h=>List.mem_map.2 ⟨i,List.mem_filter.2 ⟨List.mem_range.2 hi,h⟩,rfl⟩⟩;obtain⟨j,e,-,hj⟩:=frN_mem fs s n r _ h;rw[show i=j by omega];exact hj
theorem newS_false {fs:List FT} {s:P3} {l:List Bool} {i:Nat} (h:i<l.length)(hi:l[i]=true):newS fs s l i=false:=by
 unfold newS;rw[List.getD_eq_getElem?_getD,List.getElem?_eq_getElem h,Option.getD_some,hi];rfl
theorem newS_out {fs:List FT} {s:P3} {l:List Bool} {i:Nat} (h:fs.length<=i):newS fs s l i=false:=by
 unfold newS;rw[List.getElem?_eq_none h];simp
theorem newS_form {fs:List FT} {s:P3} {l:List Bool} {i:Nat} (h:i<l.length)(hi:l[i]=false)(hf:i<fs.length):newS fs s l i=holdF s l fs[i]:=by
 unfold newS;rw[List.getD_eq_getElem?_getD,List.getElem?_eq_getElem h,Option.getD_some,hi,List.getElem?_eq_getElem hf];rfl
theorem GrAt.rows {S:Nat->Prop} {w:World} {ps:List P3} {fs:List FT} {pv fv:Value} (h:GrAt S w ps fs pv fv):∃ ap cp af cf,pv = .slice ap ps.length cp/\fv = .slice af fs.length cf/\ps.length<=cp/\fs.length<=cf/\cp<=9223372036854775807/\cf<=9223372036854775807 /\
  ∀ i (hi:i<fs.length),∃ b off,∃ u:FV3,af=some ⟨b,off,none⟩/\S b/\w.cell? ⟨b,off+i*4,none⟩=some (.int .i64 fs[i].k)/\w.cell? ⟨b,off+i*4+1,none⟩=some u.1/\w.cell? ⟨b,off+i*4+2,none⟩=some u.2.1/\w.cell? ⟨b,off+i*4+3,none⟩=some u.2.2/\FTAt S w fs[i] u:=by
 obtain⟨h1,q,h2,h3,h4⟩:=h;obtain⟨ap,cp,e1,hn1,hn2,-⟩:=Sl.rows pC_length (by decide) (show Sl S w 3 pv (ps.flatMap pC)from h1);obtain⟨af,cf,e2,hn3,hn4,hc⟩:=Sl.rows fC_length (by decide) h4;have hl:q.length=fs.length:=by rw[<- h2,List.length_map]
 refine⟨ap,cp,af,cf,e1,by rw[e2,hl],hn1,by omega,hn2,hn4,fun i hi=>?_⟩;have hiq:i<q.length:=by omega
 obtain⟨b,off,rfl,hb,hc⟩:=hc (by omega);have hget:fs[i]=q[i].1:=by simp only[<- h2,List.getElem_map]
 rw[hget];exact⟨b,off,q[i].2,rfl,hb,hc i hiq 0 _ rfl,hc i hiq 1 _ rfl,hc i hiq 2 _ rfl,hc i hiq 3 _ rfl,h3 _ (List.getElem_mem hiq)⟩
theorem solve27_any (s:P3)(ps:List P3)(fs:List FT)(pv fv:Value)(w:World)(h:GrAt (· < w.heap.size) w ps fs pv fv)(hnm:ps.length<=1000000) :
  Calls Tryz.prog 81 #[.agg #[pv,fv],pV s] w fun e w'=>(∃ v,e = .returned v/\Own w' w.heap.size 3 1 v (ic (solveR fs s ps.length)))/\Below w.heap.size w w':=by
 have H0:=h! h;obtain⟨ap,cp,af,cf,rfl,rfl,hp1,hf1,hp2,hf2,-⟩:=h.rows;have HNM:=h! hnm;have HFM:=h! (show fs.length<=9223372036854775807 from by omega);have HMI:=h! (makeI ps.length (by omega));have HMB:=h! (makeB ps.length (by omega));have HOI:=h! (fun W=>Own.made1 W ps.length (by omega) 3 (.int .i64 0));have HOB:=h! (fun W=>Own.made1 W ps.length (by omega) 4 (.bool false));clear h hp1 hf1 hp2 hf2 hnm;generalize hnn:ps.length=n at *;unfold pV;obtain⟨wa,hwa⟩:∃ x,x=w.alloc (.cells #[.slice ap n cp,.slice af fs.length cf] 96):=⟨_,rfl⟩;obtain⟨wb,hwb⟩:∃ x,x=wa.alloc (.cells #[.string s.t,.string s.i,.string s.r] 33):=⟨_,rfl⟩;have ea:wa.heap.size=w.heap.size+1:=by rw[hwa];simp
 have eb:wb.heap.size=w.heap.size+2:=by rw[hwb];simp[ea]
 have xa:Ext w wa:=by rw[hwa];exact Ext.alloc _ _
 have xb:Ext wa wb:=by rw[hwb];exact Ext.alloc _ _
 have XB:=h! (xa.trans xb);have BG:=h! (show Blk wb w.heap.size #[.slice ap n cp,.slice af fs.length cf] 96 from Blk.below (by rw[hwa];exact Blk.made _ _ _) xb);have BS:=h! (show Blk wb (w.heap.size+1) #[.string s.t,.string s.i,.string s.r] 33 from by rw[hwb,<- ea];exact Blk.made _ _ _);obtain⟨wc,hwc⟩:∃ x,x=wb.alloc (.cells (madeCells #[.int .i64 0] n) 3):=⟨_,rfl⟩;obtain⟨we,hwe⟩:∃ x,x=wc.alloc (.cells (madeCells #[.bool false] n) 4):=⟨_,rfl⟩;have ec:wc.heap.size=wb.heap.size+1:=by rw[hwc];simp
 have xc:Ext wb wc:=by rw[hwc];exact Ext.alloc _ _
 have xe:Ext wc we:=by rw[hwe];exact Ext.alloc _ _
 have ST:=h! (show SolI wb.heap.size wc.heap.size wb.heap.size n wb we (inN fs s n 0) (outN fs s n 0)from⟨xc.trans xe,by
   have:=HOB.out wc;rw[<- hwe]at this;obtain⟨m,h1,h2⟩:=this;rcases h2 with⟨h2,_⟩ | ⟨g',cap,cur,hv,hbg,hg,hr⟩
   ·cases h2
   ·refine⟨m,?_,.inr ⟨g',cap,cur,hv,by omega,hg,?_⟩⟩
    ·rw[boC_length,inN,List.length_replicate];rw[List.length_replicate]at h1;exact h1
    ·rw[show boC (inN fs s n 0)=List.replicate n (.bool false)from by simp[boC,inN]];exact hr,by
   have:=(HOI.out wb);rw[<- hwc]at this;rw[show ic (outN fs s n 0)=List.replicate n (.int .i64 0)from by simp[ic,outN]];exact this.below xe⟩)
 have EX:=h! (xc.trans xe);have EB:=h! eb;have EC:=h! ec;have hA:=BG.out.cells;have hA2:=(BG.out.below xc).cells;have hmk:=HMI.out;have hmb:=HMB.out;clear ea eb xa xb xc xe ec HMI HMB HOI HOB;rw[hwb,hwa]at hA;rw[hwc,hwb,hwa]at hA2;go_enter Tryz.func81,Tryz.ntmps81
 go_wp2_with fail
 rw[<- hwa,<- hwb,<- hwc,<- hwe];clear hA hA2 hmk hmb hwa hwb hwc hwe;obtain⟨gi,hgi⟩:∃ y,y=w.heap.size+1+1+1:=⟨_,rfl⟩;obtain⟨lo,hlo⟩:∃ y,y=w.heap.size+1+1:=⟨_,rfl⟩;have HLO:=h! (show w.heap.size+2=lo from by omega);rw[show wb.heap.size=lo by rw[EB.out];omega,show wc.heap.size=gi by rw[EC.out,EB.out];omega]at ST;rw[<- hgi,<- hlo];have HWL:=h! (show wb.heap.size=lo by rw[EB.out];omega);have RI:=h! (fun W (hW:Below lo wb W)=>show Blk W w.heap.size #[.slice ap n cp,.slice af fs.length cf] 96 from(hW.block _ (by have:=HLO.out;omega)).trans BG.out);have RJ:=h! (fun W (hW:Below lo wb W)=>show Blk W (w.heap.size+1) #[.string s.t,.string s.i,.string s.r] 33 from(hW.block _ (by have:=HLO.out;omega)).trans BS.out);have RK:=h! (fun W (hW:Below lo wb W)=>show Below w.heap.size w W from Below.trans XB.out (hW.mono (by have:=HLO.out;omega)));have RR:=h! (fun W (hW:Below lo wb W)=>show GrAt (· < W.heap.size) W ps fs (.slice ap n cp) (.slice af fs.length cf)from H0.out.up (RK.out W hW));clear hlo hgi EB EC BG BS H0 EX;go_loopw [7] (fun rv wr=>∃ r:Nat,rv = .int .i64 ((r+1:Nat):Int)/\r<=cntT (inN fs s n r)/\lo<=wr.heap.size/\SolI lo gi lo n wb wr (inN fs s n r) (outN fs s n r)) (fun rv _=>n+1-(intOf rv).toNat)
 case atStart=>exact⟨0,rfl,Nat.zero_le _,by have:=ST.out.below.size;have:=HWL.out;omega,ST.out⟩
 case round =>
  obtain⟨r,rfl,hrc,hls,hst⟩:=hrel;have RS:=h! hst;have HRC:=h! hrc;have HRN:=h! (show r<=n from Nat.le_trans hrc (cnt_max _ _ _ _));have HLS:=h! hls;obtain⟨w4,hw4⟩:∃ y,y=wr:=⟨_,rfl⟩;obtain⟨lo2,hlo2⟩:∃ y,y=w4.heap.size:=⟨_,rfl⟩;obtain⟨rz,hrz⟩:∃ z:Int,z=((r+1:Nat):Int):=⟨_,rfl⟩;rw[<- hw4]at RS HLS ⊢;rw[<- hrz];have HRZ:=h! hrz;have HL2:=h! hlo2;have hG:=(RI.out w4 RS.out.below).cells;clear hrc hls hst ST hw4 hlo2 hrz;go_wp2_with fail
  clear hG;go_loopw [8,25] (fun qv iv wr=>∃ i:Nat,i<=n/\iv = .int .i64 i/\Own wr lo2 3 1 qv (ic (frN fs s n r i))/\Below lo2 w4 wr) (fun _ iv _=>n-(intOf iv).toNat)
  case atStart=>exact⟨0,Nat.zero_le _,rfl,Own.nil _ _ _ _,Below.refl _ _⟩
  case round =>
   obtain⟨i,hi,rfl,hfr,hbl⟩:=hrel;have RF:=h! hfr;have RB2:=h! hbl;obtain⟨fao,fm,fc,rfl,-⟩:=hfr.sl.len;have RS2:=h! (show SolI lo gi lo n wb wr (inN fs s n r) (outN fs s n r)from RS.out.keep (by rw[HL2.out]at hbl;exact hbl) HLS.out);clear hfr hbl;by_cases hlt:i<n
   ·have HLT:=h! hlt;have HWI:=h! (show wrap64 ((i:Int)+1)=((i+1:Nat):Int)from by have:=HNM.out;unfold wrap64;omega);have HFN:=h! (frN_succ fs s n r i);have hIL:(inN fs s n r).length=n:=inN_length r;obtain⟨-,-,cs,-,hcl⟩:=RS2.out.inn.cellAt
    have c1:wr.cell? ⟨gi,i,none⟩=some (.bool ((inN fs s n r)[i]'(by omega))):=by
     have:=hcl i (by rw[boC_length];omega);rw[this];simp[boC]
    have RG:=h! (RI.out wr RS2.out.below);have RSB:=h! (RJ.out wr RS2.out.below);have hli:(i:Int)<(n:Int):=by omega
    cases hin:((inN fs s n r)[i]'(by omega)) with
    | true =>
     have HNW:=newS_false (fs:=fs) (s:=s) (l:=inN fs s n r) (i:=i) (by omega) hin;rw[HNW,if_neg (by decide)]at HFN;rw[hin]at c1;clear HNW hin hcl hIL hlt;go_wp2_with fail
     obtain⟨wd,hwd⟩:∃ z:World,z=World.drew wr:=⟨_,rfl⟩;have DX:=h! (show Ext wr wd from by rw[hwd];exact Ext.drew _);refine r! (Ext wd) (by rw[<- hwd];exact Ext.refl _) ?_;rw[<- hwd];clear hwd;have g1:=fun W (h:Ext wd W)=>Ext.cell (DX.out.trans h) c1;have hG:=fun W (h:Ext wd W)=>(RG.out.below (DX.out.trans h)).cells;(refine WalkN.tk [0,1,2,3,4,5] ?_;(iterate 6 (refine c! ?_));refine TkN.n ?_)
     refine k! 6 ?_;refine k! 7 ?_;refine k! 8 ?_;refine k! 9 ?_;refine k! 10 ?_
     (refine WalkN.tk [11,12] ?_;(iterate 2 (refine c! ?_));refine TkN.n ?_)
     refine k! 13 ?_;refine k! 14 ?_;refine k! 15 ?_;refine k! 16 ?_;refine k! 17 ?_;refine k! 18 ?_;refine k! 19 ?_;refine k! 20 ?_
     refine t! 21 ?_
     refine d! ?_;clear g1 hG c1 hli;go_wp2_with fail
     go_roundw
     case rel=>exact⟨i+1,HLT.out,by first | rw[HWI.out] | go_num,by rw[HFN.out];exact RF.out.below DX.out,RB2.out.trans (DX.out.mono (by have:=RB2.out.size;have:=HL2.out;omega))⟩
     case measure=>have:=HLT.out;(try rw[HWI.out]);simp[intOf];omega
    | false =>
     rw[hin]at c1;by_cases hf:i<fs.length
     ·have HNW:=newS_form (fs:=fs) (s:=s) (l:=inN fs s n r) (i:=i) (by omega) hin hf;obtain⟨ap',cp',af',cf',e1,e2,-,-,-,-,hrow⟩:=(RR.out wr RS2.out.below).rows;cases e2;obtain⟨p1,q1,u,rfl,hp1,k0,k1,k2,k3,hu⟩:=hrow i hf;have hfi:(i:Int)<(fs.length:Int):=by omega
      have HU:=h! hu;have HI:=h! (show Sl (· < wr.heap.size) wr 1 (.slice (some ⟨gi,0,none⟩) n n) (boC (inN fs s n r))from RS2.out.inn.sl.mono fun _ h=>h.2);rw[HNW]at HFN;generalize fs[i]=x at *;obtain⟨l1,m1,l2,m2,l4,m4,rfl⟩:=hu.shape;dsimp only at k0 k1 k2 k3;clear hu hp1 hrow hcl HNW hin hIL hlt hf e1;go_wp2_with fail
      obtain⟨wd,hwd⟩:∃ z:World,z=World.drew wr:=⟨_,rfl⟩;have DX:=h! (show Ext wr wd from by rw[hwd];exact Ext.drew _);refine r! (Ext wd) (by rw[<- hwd];exact Ext.refl _) ?_;rw[<- hwd];clear hwd;have g1:=fun W (h:Ext wd W)=>Ext.cell (DX.out.trans h) c1;have hG:=fun W (h:Ext wd W)=>(RG.out.below (DX.out.trans h)).cells;have hS:=fun W (h:Ext wd W)=>(RSB.out.below (DX.out.trans h)).cells;have j0:=fun W (h:Ext wd W)=>Ext.cell (DX.out.trans h) k0;have j1:=fun W (h:Ext wd W)=>Ext.cell (DX.out.trans h) k1;have j2:=fun W (h:Ext wd W)=>Ext.cell (DX.out.trans h) k2;have j3:=fun W (h:Ext wd W)=>Ext.cell (DX.out.trans h) k3;(refine WalkN.tk [0,1,2,3,4,5,6,7,8,9,10,11,12,13,14,15,16,17,18,19] ?_;(iterate 20 (refine c! ?_));refine TkN.n ?_)
      clear g1 hG hS j0 j1 j2 j3 k0 k1 k2 k3 c1;have HCL:=h! (hold27_any s (inN fs s n r) x (.slice (some ⟨gi,0,none⟩) n n) _ wd (HU.out.up DX.out) ((HI.out.same (Same.below DX.out)).mono fun _ h=>Nat.lt_of_lt_of_le h DX.out.size));unfold fV pV at HCL;dsimp only at HCL;refine o! 20 ?_;refine b! ?_;intro K hK;go_simp;refine HCL.out.mono ?_;rintro e w5 ⟨rfl,hx5⟩;refine hK.out _ _ hx5 ?_;clear hK HCL;have X5:=h! (show Ext wr w5 from DX.out.trans hx5);clear hx5;refine t! 21 ?_
      refine d! ?_;clear hli hfi;cases hq:holdF s (inN fs s n r) x with
      | true =>
       rw[hq,if_pos rfl]at HFN;have RF5:=h! (RF.out.below X5.out);have RB5:=h! (show Below lo2 w4 w5 from RB2.out.trans (X5.out.mono (by have:=RB2.out.size;have:=HL2.out;omega)));clear hq;have HX5:=h! (Ext.alloc w5 (.cells #[.int .i64 (i:Int)] 3));go_wp2_with (at_builtin;go_must (refine wpList_ownw intsT rfl (.tmp 50) (.tmp 52) rfl rfl (RF5.out.below HX5.out) rfl (m:=1) (news:=[.int .i64 (i:Int)]) rfl (by intro j u hu;rw[Addr.add_lit,cell_of_row _ w5.heap.size (0+j) #[.int .i64 (i:Int)] 3 (0,0) (heap_alloc_new w5 _)];simpa using hu) (by simp[Value.oneCell']) (by have:=HNM.out;have:=HLT.out;have:=frN_len fs s n r i;have:=HL2.out;have:=RB5.out.size;rw[ic_length];simp at *;omega) (by have:=HNM.out;have:=HLT.out;have:=frN_len fs s n r i;have:=HL2.out;have:=RB5.out.size;rw[ic_length];simp at *;omega) (by have:=HNM.out;have:=HLT.out;have:=frN_len fs s n r i;have:=HL2.out;have:=RB5.out.size;have:=HX5.out.size;omega) ?_;intro v6 w6 hown6 hb6 hg6;have HO6:=h! (show Own w6 lo2 3 1 v6 (ic (frN fs s n r (i+1)))from by rw[HFN.out,ic_append];exact hown6);have HB6:=h! (show Below lo2 w4 w6 from grown_below (RB5.out.trans (HX5.out.mono (by have:=RB5.out.size;have:=HL2.out;omega))) (RF5.out.below HX5.out) hg6 (by have:=RB5.out.size;have:=HX5.out.size;have:=HL2.out;omega));clear hown6 hb6 hg6))
       go_roundw
       case rel=>exact⟨i+1,HLT.out,by first | rw[HWI.out] | go_num,HO6.out,HB6.out⟩
       case measure=>have:=HLT.out;(try rw[HWI.out]);simp[intOf];omega
      | false =>
       rw[hq,if_neg (by decide)]at HFN;clear hq;go_wp2_with fail
       go_roundw
       case rel=>exact⟨i+1,HLT.out,by first | rw[HWI.out] | go_num,by rw[HFN.out];exact RF.out.below X5.out,RB2.out.trans (X5.out.mono (by have:=RB2.out.size;have:=HL2.out;omega))⟩
       case measure=>have:=HLT.out;(try rw[HWI.out]);simp[intOf];omega
     ·rw[newS_out (by omega),if_neg (by decide)]at HFN;have hfi:¬ (i:Int)<(fs.length:Int):=by omega
      clear hcl hin hIL hlt hf;go_wp2_with fail
      obtain⟨wd,hwd⟩:∃ z:World,z=World.drew wr:=⟨_,rfl⟩;have DX:=h! (show Ext wr wd from by rw[hwd];exact Ext.drew _);refine r! (Ext wd) (by rw[<- hwd];exact Ext.refl _) ?_;rw[<- hwd];clear hwd;have g1:=fun W (h:Ext wd W)=>Ext.cell (DX.out.trans h) c1;have hG:=fun W (h:Ext wd W)=>(RG.out.below (DX.out.trans h)).cells;have hfn:decide (i<fs.length)=false:=decide_eq_false (by omega);(refine WalkN.tk [0,1,2,3,4,5,6,7,8,9,10,11,12] ?_;(iterate 13 (refine c! ?_));refine TkN.n ?_)
      refine k! 13 ?_;refine k! 14 ?_;refine k! 15 ?_;refine k! 16 ?_;refine k! 17 ?_;refine k! 18 ?_;refine k! 19 ?_;refine k! 20 ?_
      refine t! 21 ?_
      refine d! ?_;clear g1 hG c1 hli hfi hfn;go_wp2_with fail
      go_roundw
      case rel=>exact⟨i+1,HLT.out,by first | rw[HWI.out] | go_num,by rw[HFN.out];exact RF.out.below DX.out,RB2.out.trans (DX.out.mono (by have:=RB2.out.size;have:=HL2.out;omega))⟩
      case measure=>have:=HLT.out;(try rw[HWI.out]);simp[intOf];omega
   ·obtain rfl:i=n:=by omega
    have HFI:=h! (frN_iff fs s i r);have HFM2:=h! (frN_mem fs s i r);have HFL:=h! (frN_len fs s i r i);generalize frN fs s i r i=F at *;obtain⟨fao',fm',fc',he',hfn,-,-⟩:=RF.out.sl.len;cases he';rw[ic_length,Nat.mul_one]at hfn;subst hfn;clear hlt hi;by_cases h0:F=[]
    ·subst h0
     have HEN:=h! (show outN fs s i r=solveR fs s i from endS_of fun j hj=>by
      have:=HFI.out j hj;simpa using this)
     have HOU:=RS2.out.out;rw[HEN.out]at HOU;have HOU2:=h! HOU;have HBE:=h! (RK.out wr RS2.out.below);clear HOU;go_wp2_with fail
     go_ret
     exact⟨⟨_,rfl,by
      obtain⟨m,h1,h2⟩:=HOU2.out;rcases h2 with⟨h2,_⟩ | ⟨g',cap,cur,hv,hbg,hg,hr⟩
      ·cases h2
      ·exact⟨m,h1,.inr ⟨g',cap,cur,hv,by have:=HLO.out;omega,hg,hr⟩⟩⟩,HBE.out⟩
    ·have HNE:=h! (show 0<F.length from List.length_pos_iff.2 h0);have hne:((F.length:Int) == 0)=false:=by rw[beq_eq_false_iff_ne];have:=HNE.out;omega
     have HCS:=h! (show cntT (inN fs s i r)<cntT (inN fs s i (r+1))from by
      obtain⟨j,-,hj,hn⟩:=HFM2.out F[0] (List.getElem_mem HNE.out);exact cnt_step hj hn)
     clear h0;go_wp2_with fail
     clear hne;have HSI:=h! (RS2.out.inn.cellAt).2.1;obtain⟨w7,hw7⟩:∃ y,y=wr:=⟨_,rfl⟩;rw[<- hw7]at RF RS2 RB2 ⊢;clear hw7;have RFC:=h! (RF.out.sl.ints);go_loopw [61] (fun jv wr=>∃ (j:Nat) (L:List Bool) (R:List Int),j<=F.length/\jv = .int .i64 j/\InvR fs s i r F j L R/\SolI lo gi lo i wb wr L R/\Own wr lo2 3 1 (.slice fao F.length fc) (ic F)/\lo2<=wr.heap.size) (fun jv _=>F.length-(intOf jv).toNat)
     case atStart=>exact⟨0,_,_,Nat.zero_le _,rfl,InvR.start fs s i r F,RS2.out,RF.out,Nat.le_trans (Nat.le_of_eq HL2.out) (by rw[HL2.out]at RB2;exact RB2.out.size)⟩
     case round =>
      obtain⟨j,L,R,hj,rfl,hinv,hst,hof,hsz⟩:=hrel;have HI:=h! hinv;have HS:=h! hst;have HO:=h! hof;have HZ:=h! hsz;clear hinv hst hof hsz RFC;by_cases hlt:j<F.length
      ·have HLT:=h! hlt;obtain⟨fao2,fc2,he2,-,-,hcel⟩:=HO.out.sl.ints;cases he2;obtain⟨b,off,rfl,hbb,c0⟩:=hcel j hlt;obtain⟨k,hk,hkn,hknew⟩:=HFM2.out F[j] (List.getElem_mem hlt);have HI2:=h! (HI.out.step hlt (by omega) (by omega));have HWI:=h! (show wrap64 ((j:Int)+1)=((j+1:Nat):Int)from by have:=HFL.out;have:=HNM.out;unfold wrap64;omega);replace c0:=c0.trans (congrArg (fun z=>some (Value.int .i64 z)) hk);rw[show F[j].toNat=k by omega,<- HRZ.out]at HI2;have hji:(j:Int)<(F.length:Int):=by omega
       have hki:(k:Int)<(i:Int):=by omega
       obtain⟨hl1,hlo1,cs1,hB1,hc1⟩:=HS.out.inn.cellAt;obtain⟨hl2,hlo2',cs2,hB2,hc2⟩:=HS.out.out.cellAt;obtain⟨y1,d1⟩:∃ y,wr.cell? ⟨gi,k,none⟩=some y:=⟨_,hc1 k (by omega)⟩;obtain⟨y2,d2⟩:∃ y,wr.cell? ⟨lo,k,none⟩=some y:=⟨_,hc2 k (by omega)⟩;have f1:=hB1.free;have f2:=hB2.free;have S2:=h! ((HS.out.setOut k rz).setIn k);obtain⟨-,-,cs3,hB3,hc3⟩:=(HS.out.setOut k rz).inn.cellAt;obtain⟨y3,d3⟩:∃ y,(wr.setCell ⟨lo,k,none⟩ (.int .i64 rz)).cell? ⟨gi,k,none⟩=some y:=⟨_,hc3 k (by rw[boC_length];rw[boC_length]at hl1;omega)⟩;have f3:=hB3.free
       have HNG:=h! (show b≠lo/\b≠gi from by
        have:=HL2.out;have h1:=(HS.out.inn.block gi rfl).2;have h2:=(RS.out.inn.block gi rfl).2;have h3:=(RS.out.out.block lo rfl).2;have h4:=hbb.1;omega)
       have HO2:=h! (show Own ((wr.setCell ⟨lo,k,none⟩ (.int .i64 rz)).setCell ⟨gi,k,none⟩ (.bool true)) lo2 3 1 (.slice (some ⟨b,off,none⟩) F.length fc) (ic F)from HO.out.keepOwn fun g hg=>by
        obtain rfl:b=g:=Option.some.inj hg;rw[Below.heap_setCell _ _ _ _ fun e=>HNG.out.2 e,Below.heap_setCell _ _ _ _ fun e=>HNG.out.1 e])
       have HZ2:=h! (show lo2<=((wr.setCell ⟨lo,k,none⟩ (.int .i64 rz)).setCell ⟨gi,k,none⟩ (.bool true)).heap.size from by simpa using HZ.out);clear hcel hbb hk hkn hknew hc1 hc2 hc3 hB1 hB2 hB3 hl1 hl2 hlt hlo1 hlo2';go_wp2_with fail
       go_roundw
       case rel=>exact⟨j+1,_,_,HLT.out,by first | rw[HWI.out] | go_num,HI2.out,S2.out,HO2.out,HZ2.out⟩
       case measure=>have:=HLT.out;(try rw[HWI.out]);simp[intOf];omega
      ·obtain rfl:j=F.length:=by omega
       obtain⟨rfl,rfl⟩:=HI.out.done HFI.out;have HWR:=h! (show wrap64 (rz+1)=((r+1+1:Nat):Int)from by have:=HRZ.out;have:=HRN.out;have:=HNM.out;unfold wrap64;omega);have HRM:=h! (show r+1<=i from by have:=HCS.out;have:=HRC.out;have:=cnt_max fs s i (r+1);omega);clear hlt hj;go_wp2_with fail
       go_roundw
       case rel=>exact⟨r+1,by first | rw[HWR.out] | go_num,by have:=HCS.out;have:=HRC.out;omega,by have:=HZ.out;have:=HLS.out;have:=HL2.out;omega,HS.out⟩
       case measure=>have:=HRM.out;have:=HRZ.out;(try rw[HWR.out]);simp[intOf];omega
mutual
def FT.bk:FT->Nat | .mk _ subs refs ps=>1+subs.length+refs.length+bkF ps
def bkF:List FT->Nat | []=>0 | r::rs=>r.bk+bkF rs
end
theorem bkF_take {l:List FT} {i:Nat} (h:i<l.length):bkF (l.take (i+1))=bkF (l.take i)+l[i].bk:=by
 induction l generalizing i with
 | nil=>simp at h
 | cons x l ih =>
  cases i with
  | zero=>simp[bkF]
  | succ i =>
   have:=ih (i:=i) (by simpa using h);simp only[List.take_succ_cons,bkF,List.getElem_cons_succ];omega
theorem bkF_le {l:List FT} (i:Nat):bkF (l.take i)<=bkF l:=by
 induction l generalizing i with
 | nil=>simp
 | cons x l ih =>
  cases i with
  | zero=>simp[bkF]
  | succ i=>have:=ih i;simp only[List.take_succ_cons,bkF];omega
theorem wrap_mid {z:Int} (h1 : -4000000000000<=z)(h2:z<=4000000000000):wrap64 z=z:=by unfold wrap64;omega
theorem parts30_any (r:FT):∀ (x:Int)(v:FV3)(w:World),FTAt (· < w.heap.size) w r v -> -1000000000000<=x-(r.bk:Int)->x<=1000000000000 ->
  Calls Tryz.prog 66 #[fV r v,.int .i64 x] w fun e w'=>(∃ y:Int,e = .returned (.int .i64 y)/\x-(r.bk:Int)<=y/\y<=x/\(0<=y->y=x-(r.bk:Int)))/\Ext w w':=by
 induction r using FT.ind with
 | h r ih =>
 intro x v w h hlo hhi;obtain⟨a1,c1,a2,c2,a4,c4,rfl⟩:=h.shape;obtain⟨k,subs,refs,parts⟩:=r;have HIH:=h! ih;have H1:=h! h;obtain⟨N,hN⟩:∃ N,N=(FT.mk k subs refs parts).bk:=⟨_,rfl⟩;rw[<- hN]at hlo ⊢;rw[FT.bk]at hN;dsimp only[FT.k,FT.subs,FT.refs,FT.ps]at HIH H1 ⊢;obtain⟨z1,hz1⟩:∃ z,z=x-1:=⟨_,rfl⟩;obtain⟨z2,hz2⟩:∃ z,z=z1-(refs.length:Int):=⟨_,rfl⟩;obtain⟨z3,hz3⟩:∃ z,z=z2-(subs.length:Int):=⟨_,rfl⟩;have e1:wrap64 (x-1)=z1:=by rw[wrap_mid (by omega) (by omega)];omega
 have e2:wrap64 (z1-(refs.length:Int))=z2:=by rw[wrap_mid (by omega) (by omega)];omega
 have e3:wrap64 (z2-(subs.length:Int))=z3:=by rw[wrap_mid (by omega) (by omega)];omega
 have HZ:=h! (show z3<=x/\x-(N:Int)<=z3-(bkF parts:Int) /\ -1000000000000<=z3-(bkF parts:Int)/\z3<=1000000000000/\z3-(bkF parts:Int)=x-(N:Int)from by omega);clear ih h hlo hhi hN hz1 hz2 hz3;unfold fV;dsimp only[FT.k];obtain⟨wa,hwa⟩:∃ x,x=w.alloc (.cells #[.int .i64 k,.slice a1 subs.length c1,.slice a2 refs.length c2,.slice a4 parts.length c4] 128):=⟨_,rfl⟩;have XA:=h! (show Ext w wa from by rw[hwa];exact Ext.alloc _ _);have BA:=h! (show Blk wa w.heap.size #[.int .i64 k,.slice a1 subs.length c1,.slice a2 refs.length c2,.slice a4 parts.length c4] 128 from by rw[hwa];exact Blk.made _ _ _);subst hwa;have hA:=BA.out.cells;go_enter Tryz.func66,Tryz.ntmps66
 go_wp2_with fail
 clear hA e1 e2;have HE3:=h! e3;clear e3;obtain⟨w2,hw2⟩:∃ x,x=w.alloc (.cells #[.int .i64 k,.slice a1 subs.length c1,.slice a2 refs.length c2,.slice a4 parts.length c4] 128):=⟨_,rfl⟩;rw[<- hw2]at BA XA ⊢;clear hw2;go_loopw [1,20] (fun lv iv wr=>∃ (i:Nat) (y:Int),i<=parts.length/\iv = .int .i64 i/\lv = .int .i64 y/\z3-(bkF (parts.take i):Int)<=y/\y<=z3/\(0<=y->y=z3-(bkF (parts.take i):Int))/\Ext w2 wr) (fun _ iv _=>parts.length-(intOf iv).toNat)
 case atStart=>exact⟨0,z3,Nat.zero_le _,rfl,by first | rfl | rw[HE3.out],by simp[bkF],Int.le_refl _,fun _=>by simp[bkF],Ext.refl _⟩
 case round =>
  obtain⟨i,y,hi,rfl,rfl,hy1,hy2,hy3,hx⟩:=hrel;have RX:=h! hx;have HY:=h! (And.intro hy1 (And.intro hy2 hy3));have RR:=h! (H1.out.up (XA.out.trans hx));clear hx hy1 hy2 hy3;by_cases hlt:i<parts.length
  ·have HLT:=h! hlt;obtain⟨ao,c,he,-,hcm,hcell⟩:=RR.out.rows;cases he;obtain⟨b,off,pv,rfl,-,g0,g1,g2,g3,hat⟩:=hcell i hlt
   have hlc:(parts.length:Int)<=9223372036854775807:=by
    obtain⟨ao,c,he,h1,h2,-⟩:=RR.out.rows;cases he;dsimp only[FT.ps]at h1;omega
   have HWI:=h! (show wrap64 ((i:Int)+1)=((i+1:Nat):Int)from by unfold wrap64;omega);have HNX:=h! (bkF_take hlt);have HMM:=h! (List.getElem_mem hlt);have HLE:=h! (bkF_le (l:=parts) (i+1));dsimp only[FT.ps]at g0 g1 g2 g3 hat;obtain⟨d1,e1,d2,e2,d4,e4,rfl⟩:=hat.shape;have HAT:=h! hat;have hli:(i:Int)<(parts.length:Int):=by omega
   have X1:=h! (Ext.alloc wr (.cells #[.int .i64 parts[i].k,.slice d1 parts[i].subs.length e1,.slice d2 parts[i].refs.length e2,.slice d4 parts[i].ps.length e4] 128));have HB:=h! (Blk.made wr #[.int .i64 parts[i].k,.slice d1 parts[i].subs.length e1,.slice d2 parts[i].refs.length e2,.slice d4 parts[i].ps.length e4] 128);have hB:=HB.out.cells;have HAT2:=h! (show FTAt (· < (wr.alloc (.cells #[.int .i64 parts[i].k,.slice d1 parts[i].subs.length e1,.slice d2 parts[i].refs.length e2,.slice d4 parts[i].ps.length e4] 128)).heap.size) _ parts[i] _ from hat.up X1.out);have HCL:=h! (HIH.out parts[i] HMM.out y _ _ HAT2.out (by have h1:=HY.out;have h2:=HZ.out;have h3:=HNX.out;have h4:=HLE.out;omega) (by have h1:=HY.out;have h2:=HZ.out;omega));unfold fV at HCL;dsimp only at HCL;have HBP:=h! (show ∀ z:Int,y-(parts[i].bk:Int)<=z->z<=y->(0<=z->z=y-(parts[i].bk:Int))->z3-(bkF (parts.take (i+1)):Int)<=z/\z<=z3/\(0<=z->z=z3-(bkF (parts.take (i+1)):Int))from fun z h1 h2 h5=>by have h3:=HY.out;have h4:=HNX.out;refine⟨by omega,by omega,fun h0=>?_⟩;have h6:=h5 h0;have h7:=h3.2.2 (by omega);omega);have HRT:=h! (show y<0->x-(N:Int)<=y/\y<=x/\(0<=y->y=x-(N:Int))from fun h0=>by have h1:=HY.out;have h2:=HZ.out;have h3:=bkF_le (l:=parts) i;exact⟨by omega,by omega,fun h=>by omega⟩);clear hat hcell HAT HAT2 HMM hcm hlc;generalize parts[i]=q at *;clear hlt;have hy0:¬ (y<0)\/y<0:=by omega
   rcases hy0 with hy0 | hy0
   ·go_wp2_with fail
    clear hB g0 g1 g2 g3;refine HCL.out.mono ?_;rintro e w3 ⟨⟨z,rfl,hz1,hz2,hz3⟩,hx3⟩;have HZZ:=h! (HBP.out z hz1 hz2 hz3);have HX3:=h! ((RX.out.trans X1.out).trans hx3);clear hz1 hz2 hz3 hx3;go_wp2_with fail
    go_roundw
    case rel=>exact⟨i+1,z,HLT.out,by first | rw[HWI.out] | go_num,rfl,HZZ.out.1,HZZ.out.2.1,HZZ.out.2.2,HX3.out⟩
    case measure=>have:=HLT.out;(try rw[HWI.out]);simp[intOf];omega
   ·have HY0:=h! (HRT.out hy0);go_wp2_with fail
    go_ret
    exact⟨⟨y,rfl,HY0.out⟩,(XA.out.trans RX.out).trans X1.out⟩
  ·obtain rfl:i=parts.length:=by omega
   rw[List.take_length]at HY;have HRT:=h! (show x-(N:Int)<=y/\y<=x/\(0<=y->y=x-(N:Int))from by have h1:=HY.out;have h2:=HZ.out;exact⟨by omega,by omega,fun h0=>by have h3:=h1.2.2 h0;omega⟩);go_wp2_with fail
   go_ret
   exact⟨⟨y,rfl,HRT.out⟩,XA.out.trans RX.out⟩
def nmT (typ:ByteArray)(l:List P3):List Tup:=(l.filter fun s=>decide (s.r=⟨#[]⟩/\s.t=typ)).map fun s=>⟨⟨s.t,s.i,⟨#[]⟩⟩,s⟩
theorem nmT_append (typ:ByteArray)(a b:List P3):nmT typ (a++b)=nmT typ a++nmT typ b:=by unfold nmT;rw[List.filter_append,List.map_append]
theorem nmT_len (typ:ByteArray)(l:List P3):(nmT typ l).length<=l.length:=by unfold nmT;rw[List.length_map];exact List.length_filter_le _ _
theorem nmT_snoc (typ:ByteArray)(l:List P3)(s:P3):nmT typ (l++[s])=if s.r=⟨#[]⟩/\s.t=typ then nmT typ l++[⟨⟨s.t,s.i,⟨#[]⟩⟩,s⟩]else nmT typ l:=by
 rw[nmT_append];by_cases h:s.r=⟨#[]⟩/\s.t=typ
 ·rw[if_pos h];simp[nmT,h]
 ·rw[if_neg h];simp[nmT,h]
theorem nmT_obj {typ:ByteArray} {l:List P3} {o:O2}:(o.t=typ/\ObjIn (nmT typ l) o)↔SbI typ l o:=by
 unfold ObjIn SbI nmT;constructor
 ·rintro⟨h0,t,ht,h⟩;obtain⟨s,hs,rfl⟩:=List.mem_map.1 ht;obtain⟨h1,h2⟩:=List.mem_filter.1 hs;have h3:=(of_decide_eq_true h2).1;have h4:s.obj=o:=h.elim id id;refine⟨?_,h0⟩;rw[(oS_obj h3).2 h4.symm];exact h1
 ·rintro⟨h1,h0⟩;exact⟨h0,_,List.mem_map.2 ⟨oS o,List.mem_filter.2 ⟨h1,decide_eq_true ⟨rfl,h0⟩⟩,rfl⟩,.inl rfl⟩
theorem ths_bk (f:FT):f.ths.length<=f.bk:=by
 induction f using FT.ind with
 | h f ih =>
  obtain⟨k,subs,refs,ps⟩:=f
  have h1:(thsL ps).length<=bkF ps:=by
   dsimp only[FT.ps]at ih;clear k subs refs;induction ps with
   | nil=>simp[thsL]
   | cons x l ihl =>
    rw[thsL,bkF,List.length_append];have h1:=ih x List.mem_cons_self;have h2:=ihl fun r hr=>ih r (List.mem_cons_of_mem _ hr);omega
  rw[FT.ths,FT.bk,List.length_append];split
  ·omega
  ·simp;omega
theorem thsL_bk:∀ l:List FT,(thsL l).length<=bkF l
 | []=>by simp[thsL]
 | x::l=>by rw[thsL,bkF,List.length_append];have:=ths_bk x;have:=thsL_bk l;omega
theorem objsR_info:(Tryz.prog.info? 113).map (fun i=>(i.zero,i.size,i.bytes))=some (some (.slice none 0 0),1,24):=by kernel_rfl
theorem makeO (n:Nat)(h:n<=100000000):∀ W,(Instr.makeSlice 130 (.int .i64 (n:Int)) (.int .i64 (n:Int))).run Tryz.prog W = .ok (.slice (some ⟨W.heap.size,0,none⟩) n n) (W.alloc (.cells (madeCells #[.slice none 0 0] n) 113)):=by
 intro W;obtain⟨i,hi,hzz⟩:=Option.map_eq_some_iff.1 objsR_info;simp only[Prod.mk.injEq]at hzz;obtain⟨hz,hs,hb⟩:=hzz;have:=run_make (P:=Tryz.prog) W 130 113 i (.slice none 0 0) Tryz.underlying130 hi hz .i64 .i64 n n (by omega) (by omega) (by rw[hb];omega) (by omega);rw[this,hs,Nat.mul_one];rfl
theorem made_at {z u:Value} {n j:Nat} (h:(madeCells #[z] n)[j]?=some u):u=z:=by
 unfold madeCells at h;rw[Array.getElem?_eq_some_iff]at h;obtain⟨hj,h⟩:=h;simp[Nat.mod_one]at h;exact h.symm
def InSt (typ:ByteArray)(fs:List FT)(n i:Nat)(o:O2):Prop:=SbI typ (thsL fs) o/\0<(solveR fs (oS o) n).getD i 0
def StIn (typ:ByteArray)(fs:List FT)(n:Nat)(w:World)(lo:Nat)(vs:List Value)(k:Nat):Prop:=∀ i,i<k->∃ x ss,vs[i]?=some x/\Own w lo 30 2 x (ocs ss)/\UpO ss/\∀ o,o∈ss↔InSt typ fs n i o
theorem StIn.set {typ:ByteArray} {fs:List FT} {n lo rb i:Nat} {w w':World} {vs:List Value} {v:Value} {ss:List O2} (h:StIn typ fs n w lo vs i)(hk:∀ b,b<w.heap.size->b≠rb->w'.heap[b]?=w.heap[b]?)(hr:Own w lo 113 1 (.slice (some ⟨rb,0,none⟩) n n) vs)(hi:i<vs.length)
  (hv:Own w' lo 30 2 v (ocs ss)) (hu:UpO ss) (hm:∀ o,o∈ss↔InSt typ fs n i o):StIn typ fs n w' lo (vs.set i v) (i+1):=fun k hk2=>by
 by_cases e:k=i
 ·subst e;exact⟨v,ss,by rw[List.getElem?_set_self hi],hv,hu,hm⟩
 ·obtain⟨x,s2,h1,h2,h3,h4⟩:=h k (by omega);refine⟨x,s2,by rw[List.getElem?_set_ne (Ne.symm e)];exact h1,h2.keepOwn fun g hg=>hk g (h2.block g hg).2 fun e2=>?_,h3,h4⟩;subst e2;exact h2.apart hr (by decide) hg rfl
theorem sets_any (ps:List P3)(fs:List FT)(pv fv:Value)(typ:ByteArray)(w:World)(hg:GrAt (· < w.heap.size) w ps fs pv fv)(hok:∀ f∈fs,∀ s∈f.ths,s.Ok)(hn:ps.length<=1000000)(hth:(thsL fs).length<=1000000) :
  Calls Tryz.prog 67 #[.agg #[pv,fv],.string typ] w fun e w'=>∃ v vs,e = .returned v/\Own w' w.heap.size 113 1 v vs/\vs.length=ps.length/\StIn typ fs ps.length w' w.heap.size vs ps.length/\Ext w w':=by
 obtain⟨po,pc,fo,fc,rfl,rfl⟩:=hg.shape;have HN:=h! (And.intro hn hth);have HMK:=h! (makeO ps.length (by omega));obtain⟨wa,hwa⟩:∃ x,x=w.alloc (.cells #[.slice po ps.length pc,.slice fo fs.length fc] 96):=⟨_,rfl⟩;obtain⟨wb,hwb⟩:∃ x,x=wa.alloc (.cells (madeCells #[.slice none 0 0] ps.length) 113):=⟨_,rfl⟩;have ea:wa.heap.size=w.heap.size+1:=by rw[hwa];simp
 have xa:Ext w wa:=by rw[hwa];exact Ext.alloc _ _
 have xb:Ext wa wb:=by rw[hwb];exact Ext.alloc _ _
 have XB:=h! (xa.trans xb);have BA:=h! (show Blk wa w.heap.size #[.slice po ps.length pc,.slice fo fs.length fc] 96 from by rw[hwa];exact Blk.made _ _ _);have BG:=h! (BA.out.below xb);have BR:=h! (show Blk wb (w.heap.size+1) (madeCells #[.slice none 0 0] ps.length) 113 from by rw[hwb,<- ea];exact Blk.made _ _ _)
 have OR:=h! (show Own wb w.heap.size 113 1 (.slice (some ⟨w.heap.size+1,0,none⟩) ps.length ps.length) (List.replicate ps.length (.slice none 0 0))from by
  have:=(Own.made1 wa ps.length (by omega) 113 (.slice none 0 0)).mono (B':=w.heap.size) (by omega);rw[<- hwb,ea]at this;exact this)
 have HSV:=h! (solveS_any ps fs (.slice po ps.length pc) (.slice fo fs.length fc) typ wb (hg.up XB.out) hok (by omega));have hc1:=BA.out.cells;have hc2:=BG.out.cells;have hmk:=HMK.out;clear hg hok hn hth xa xb ea HMK BA;rw[hwa]at hc1;rw[hwb,hwa]at hc2;go_enter Tryz.func67,Tryz.ntmps67
 go_wp2_with fail
 rw[<- hwa,<- hwb];clear hc1 hc2 hmk hwa hwb;refine HSV.out.mono ?_;rintro e w1 ⟨iv,rfl,ms,L,hrow,hmem,hlen,hsub,hdone,hb1⟩;have X1:=h! (show Ext w w1 from Ext.trans XB.out hb1);have OR:=h! (OR.out.below hb1);have BR:=h! (BR.out.below hb1);obtain⟨io,nn,c3,rfl,-⟩:=hrow.len;obtain⟨rfl,hat⟩:=ms_at hrow;have HML:=h! (show ms.length=ps.length/\L.length=ps.length from⟨by rw[hmem.len,hlen],hlen⟩)
 have HAT:=h! (show ∀ i (hi:i<ms.length),∃ b off,io=some ⟨b,off,none⟩/\(b<w1.heap.size/\b≠w.heap.size+1)/\w1.cell? ⟨b,off+i,none⟩=some (.map (some ms[i]))from fun i hi=>by
  obtain⟨b,off,h1,h2,h3⟩:=hat i hi;refine⟨b,off,h1,⟨h2.1,fun e=>?_⟩,h3⟩;subst e;have h4:=BR.out.cells (off+i);rw[h3]at h4;have:=made_at h4.symm;cases this)
 have HMM:=h! hmem;have HSB:=h! (And.intro hsub hdone);clear hb1 hrow hat hmem hlen hsub hdone HSV XB;rw[HML.out.1];generalize hrb:w.heap.size+1=rb at *;have HRB:=h! hrb;clear hrb;go_wp2_with fail
 go_loopw [16] (fun jv wr=>∃ (i:Nat) (vs:List Value),i<=ps.length/\jv = .int .i64 i/\Own wr w.heap.size 113 1 (.slice (some ⟨rb,0,none⟩) ps.length ps.length) vs/\vs.length=ps.length/\StIn typ fs ps.length wr w.heap.size vs i/\Kept (fun b=>b<w1.heap.size/\b≠rb) w1 wr) (fun jv _=>ps.length-(intOf jv).toNat)
 case atStart=>exact⟨0,_,Nat.zero_le _,rfl,OR.out,List.length_replicate,fun i hi=>absurd hi (Nat.not_lt_zero i),Kept.refl _ _⟩
 case round =>
  obtain⟨i,vs,hi,rfl,ho,hvl,hst,hk⟩:=hrel;have O1:=h! ho;have HVL:=h! hvl;have ST:=h! hst;have K1:=h! hk;clear ho hvl hst hk;by_cases hlt:i<ps.length
  ·have HLT:=h! hlt;have HWI:=h! (show wrap64 ((i:Int)+1)=((i+1:Nat):Int)from by have:=HN.out.1;unfold wrap64;omega);have hli:(i:Int)<(ps.length:Int):=by omega
   have hm:i<ms.length:=by rw[HML.out.1];exact hlt
   have hL:i<L.length:=by rw[HML.out.2];exact hlt
   obtain⟨b,off,rfl,hb,c0⟩:=HAT.out i hm;have d0:=(World.cell?_of_block (a:=⟨b,off+i,none⟩) (K1.out.block b hb)).trans c0;have hOS:=HMM.out.sets i hm hL;have hNE:ms[i]≠rb:=fun e=>hOS.notCells _ _ _ (e▸BR.out);have hOS2:OS wr ms[i] L[i]:=hOS.same (K1.out.block _ ⟨hOS.lt,hNE⟩)
   have hfew:L[i].length<=549755813888:=by
    have h1:=obj_few (T:=nmT typ (thsL fs)) (OS.nodup hOS) fun o ho=>(nmT_obj.2 (HSB.out.1 _ (List.getElem_mem hL) o ho)).2;have h2:=nmT_len typ (thsL fs);have:=HN.out.2;omega
   have HSR:=h! (sortedS_any ms[i] L[i] wr hOS2 hfew)
   have HIN:=h! (fun(ss:List O2) (hp:ss.Perm L[i]) (hs:SrtI ss)=>show UpO ss/\∀ o,o∈ss↔InSt typ fs ps.length i o from⟨upI_sorted (fun o ho=>(HSB.out.1 _ (List.getElem_mem hL) o (hp.mem_iff.1 ho)).2) hs (hp.nodup_iff.2 (OS.nodup hOS)),fun o=>by
    rw[hp.mem_iff];have h3:=HSB.out.2 o;refine⟨fun ho=>?_,fun ho=>?_⟩
    ·have h4:=HSB.out.1 _ (List.getElem_mem hL) o ho;have h5:=h3 h4 i HLT.out;rw[getD_in hL]at h5;exact⟨h4,h5.1 ho⟩
    ·have h5:=h3 ho.1 i HLT.out;rw[getD_in hL]at h5;exact h5.2 ho.2⟩)
   have hmi:(i:Int)<(ms.length:Int):=by omega
   generalize ms[i]=m0 at *;generalize L[i]=A0 at *;clear hlt c0 hb hm hL hOS hOS2 hNE hfew;go_wp2_with fail
   refine HSR.out.mono ?_;rintro e w4 ⟨v,ss,rfl,hp,hs,ho4,hb4⟩;have HI4:=h! (HIN.out ss hp hs);have O4:=h! (O1.out.below hb4);have hvi:i<vs.length:=by rw[HVL.out];exact HLT.out
   obtain⟨_,_,e5,-,hc5⟩:∃ b off,(some (⟨rb,0,none⟩:Addr))=some ⟨b,off,none⟩/\True/\w4.cell? ⟨b,off+i,none⟩=some vs[i]:=by
    obtain⟨ao',n',c',e,h1,h2,h3,h4,h5⟩:=O4.out.sl;cases e;obtain⟨b,off,e3,hb,hcell⟩:=h5 (fun e4=>by rw[e4]at hvi;simp at hvi);exact⟨b,off,e3,trivial,hcell i _ (List.getElem?_eq_getElem hvi)⟩
   cases e5;rw[Nat.zero_add]at hc5;have HW4:=h! (show w.heap.size<=wr.heap.size from Nat.le_trans X1.out.size K1.out.size);have HV4:=h! (ho4.mono (B':=w.heap.size) HW4.out);have S4:=h! (show StIn typ fs ps.length w4 w.heap.size vs i from fun k hk=>by obtain⟨x,s2,h1,h2,h3,h4⟩:=ST.out k hk;exact⟨x,s2,h1,h2.below hb4,h3,h4⟩);have K4:=h! (show Kept (fun b=>b<w1.heap.size/\b≠rb) w1 w4 from Kept.trans K1.out (Below.kept hb4 fun x hx=>Nat.lt_of_lt_of_le hx.1 K1.out.size));have HVI:=h! hvi;obtain⟨vo,vn,vc,rfl,-⟩:=ho4.sl.len;generalize vs[i]=old at hc5;obtain⟨cur,hcur⟩:=O4.out.typed (g:=rb) rfl;have hfz:=(show Blk w4 rb cur 113 from hcur).free;clear hp hs ho4 hb4 HSR HIN hvi d0 hcur;go_wp2_with fail
   clear hc5 hfz;go_roundw
   case rel=>exact⟨i+1,vs.set i (.slice vo vn vc),HLT.out,by first | rw[HWI.out] | go_num,O4.out.set1 i _,by rw[List.length_set];exact HVL.out,S4.out.set (rb:=rb) (fun b _ hb=>Below.heap_setCell _ _ _ _ hb) O4.out HVI.out (HV4.out.keepOwn fun g hg=>Below.heap_setCell _ _ _ _ fun e=>by subst e;exact HV4.out.apart O4.out (by decide) hg rfl) HI4.out.1 HI4.out.2,Kept.trans K4.out ⟨rfl,rfl,rfl,by simp,fun b hb=>Below.heap_setCell _ _ _ _ hb.2⟩⟩
   case measure=>have:=HLT.out;(try rw[HWI.out]);simp[intOf];omega
  ·obtain rfl:i=ps.length:=by omega
   have HX:=h! (show Ext w wr from Below.trans X1.out (Kept.below (B:=w.heap.size) K1.out fun b hb=>⟨Nat.lt_of_lt_of_le hb X1.out.size,by have:=HRB.out;omega⟩));go_wp2_with fail
   go_ret
   exact⟨_,vs,rfl,O1.out,HVL.out,ST.out,HX.out⟩
theorem named30_any (typ:ByteArray)(B:Nat)(f:FT):∀ (v:FV3)(ov:Value)(out:List Tup)(w:World),FTAt (· < B) w f v->B<=w.heap.size->Own w B 67 6 ov (tuCs out)->out.length+f.bk<=2000000 ->
  Calls Tryz.prog 124 #[fV f v,.string typ,ov] w fun e w'=>∃ ov',e = .returned ov'/\Own w' B 67 6 ov' (tuCs (out++nmT typ f.ths))/\Below B w w':=by
 induction f using FT.ind with
 | h f ih =>
 intro v ov out w h hB ho hlen;obtain⟨a1,c1,a2,c2,a4,c4,rfl⟩:=h.shape;obtain⟨k,subs,refs,parts⟩:=f;have HIH:=h! ih;have H0:=h! h;have HLW:=h! hB;have HO0:=h! ho;have HLEN:=h! hlen;obtain⟨oo,on,oc,rfl,hon,-,-⟩:=ho.sl.len;clear ih hB ho hlen hon;unfold fV;dsimp only[FT.k,FT.subs,FT.refs,FT.ps]at HIH h H0 ⊢;obtain⟨wa,hwa⟩:∃ x,x=w.alloc (.cells #[.int .i64 k,.slice a1 subs.length c1,.slice a2 refs.length c2,.slice a4 parts.length c4] 128):=⟨_,rfl⟩;have XA:=h! (show Ext w wa from by rw[hwa];exact Ext.alloc _ _);have BA:=h! (show Blk wa w.heap.size #[.int .i64 k,.slice a1 subs.length c1,.slice a2 refs.length c2,.slice a4 parts.length c4] 128 from by rw[hwa];exact Blk.made _ _ _);have HOA:=h! (HO0.out.below XA.out);have HBA:=h! (show B<=wa.heap.size from Nat.le_trans HLW.out XA.out.size);have HBK:=h! (show subs.length+bkF parts<=2000000-out.length from by have:=HLEN.out;rw[FT.bk]at this;omega);have hbx:=BA.out.cells;clear h;go_enter Tryz.func124,Tryz.ntmps124
 rw[hwa]at hbx;go_wp2_with fail
 rw[<- hwa];clear hbx hwa;go_loopw [2,14] (fun ov jv wr=>∃ (i:Nat),i<=subs.length/\jv = .int .i64 i/\Own wr B 67 6 ov (tuCs (out++(if k=1 then nmT typ (subs.take i)else [])))/\Below B wa wr/\Blk wr w.heap.size #[.int .i64 k,.slice a1 subs.length c1,.slice a2 refs.length c2,.slice a4 parts.length c4] 128) (fun _ jv _=>subs.length-(intOf jv).toNat)
 case atStart=>exact⟨0,Nat.zero_le _,rfl,by simpa [nmT] using HOA.out,Below.refl _ _,BA.out⟩
 case round =>
  obtain⟨i,hi,rfl,ho,hx,hb⟩:=hrel;have HO:=h! ho;have RX:=h! hx;have BF:=h! hb;have HSZ:=h! (show B<=wr.heap.size from Nat.le_trans HBA.out hx.size);obtain⟨vo,vn,vc,rfl,-,-,-⟩:=ho.sl.len;clear ho hx hb HOA;by_cases hlt:i<subs.length
  ·have HLT:=h! hlt;have HNX:=h! (List.take_succ_eq_append_getElem hlt);obtain⟨so',sc',he',-,hcm,hcell⟩:=Sl.rows pC_length (by decide) (show Sl _ w 3 (.slice a1 subs.length c1) (subs.flatMap pC)from((FTAt.iff _ _).1 H0.out).1);cases he';obtain⟨b,off,rfl,hb,hcell⟩:=hcell (by omega)
   have hck:∀ j u,(pC subs[i])[j]?=some u->wr.cell? ⟨b,off+i*3+j,none⟩=some u:=fun j u hj=>by
    have h1:=hcell i hlt j u hj;have h2:=(RX.out.block b hb).trans (XA.out.block b (Nat.lt_of_lt_of_le hb HLW.out));rw[<- h1];exact World.cell?_of_block h2
   have HWI:=h! (show wrap64 ((i:Int)+1)=((i+1:Nat):Int)from by have:=HBK.out;unfold wrap64;omega);have hli:(i:Int)<(subs.length:Int):=by omega
   clear hcell hb;generalize subs[i]=s at *;clear hlt;have HNS:=h! (nmT_snoc typ (subs.take i) s);have HNL:=h! (nmT_len typ (subs.take i));obtain⟨st,si,sr⟩:=s;dsimp only at HNS;have d0:wr.cell? ⟨b,off+i*3,none⟩=some (.string st):=hck 0 _ rfl;have d1:wr.cell? ⟨b,off+i*3+1,none⟩=some (.string si):=hck 1 _ rfl;have d2:wr.cell? ⟨b,off+i*3+2,none⟩=some (.string sr):=hck 2 _ rfl;clear hck;have X4:=h! (Ext.alloc wr (.cells #[.string st,.string si,.string sr] 33));have hs4:=(Blk.made wr #[.string st,.string si,.string sr] 33).cells;have HO4:=h! (HO.out.below X4.out);have BF4:=h! (BF.out.below X4.out);have hbf:=BF4.out.cells;have RX4:=h! (show Below B wa _ from RX.out.trans (X4.out.mono HSZ.out));have hse:=isEmpty_ba sr;have hste:=str_eqd st typ;by_cases hk1:k=1
   rotate_left
   ·have hkb:(k == 1)=false:=by simpa using hk1
    rw[if_neg hk1]at HO4;have HN:=h! (show(if k=1 then nmT typ (subs.take (i+1))else [])=[]from if_neg hk1);clear hk1;go_wp2_with fail
    go_roundw
    case rel=>exact⟨i+1,HLT.out,by first | rw[HWI.out] | go_num,by rw[HN.out];exact HO4.out,RX4.out,BF4.out⟩
    case measure=>have:=HLT.out;(try rw[HWI.out]);simp[intOf];omega
   have hkb:(k == 1)=true:=by simpa using hk1
   rw[if_pos hk1]at HO4;have HN:=h! (show(if k=1 then nmT typ (subs.take (i+1))else [])=nmT typ (subs.take (i+1))from if_pos hk1);clear hk1;by_cases hrt:sr=⟨#[]⟩/\st=typ
   rotate_left
   ·rw[if_neg hrt]at HNS;by_cases hr:sr=⟨#[]⟩
    ·have ht:¬ st=typ:=fun e=>hrt ⟨hr,e⟩;rw[decide_eq_true hr]at hse;rw[decide_eq_false ht]at hste;clear hrt hr ht;go_wp2_with fail
     go_roundw
     case rel=>exact⟨i+1,HLT.out,by first | rw[HWI.out] | go_num,by rw[HN.out,HNX.out,HNS.out];exact HO4.out,RX4.out,BF4.out⟩
     case measure=>have:=HLT.out;(try rw[HWI.out]);simp[intOf];omega
    ·rw[decide_eq_false hr]at hse;clear hrt hr;go_wp2_with fail
     go_roundw
     case rel=>exact⟨i+1,HLT.out,by first | rw[HWI.out] | go_num,by rw[HN.out,HNX.out,HNS.out];exact HO4.out,RX4.out,BF4.out⟩
     case measure=>have:=HLT.out;(try rw[HWI.out]);simp[intOf];omega
   rw[if_pos hrt]at HNS;obtain⟨rfl,rfl⟩:=hrt;rw[decide_eq_true rfl]at hse;rw[decide_eq_true rfl]at hste;have X5:=h! (Ext.alloc (wr.alloc (.cells #[.string st,.string si,.string ⟨#[]⟩] 33)) (.cells #[.string st,.string si,.string ⟨#[]⟩,.string st,.string si,.string ⟨#[]⟩] 67));have HO5:=h! (HO4.out.below X5.out);have BF5:=h! (BF4.out.below X5.out);have HZ4:=h! (show(wr.alloc (.cells #[.string st,.string si,.string ⟨#[]⟩] 33)).heap.size=wr.heap.size+1 from by simp);have RX5:=h! (show Below B wa _ from RX4.out.trans (X5.out.mono (Nat.le_trans HSZ.out X4.out.size)));have HLL:=h! (show(out++nmT st (subs.take i)).length<=2000000 from by have:=HNL.out;have:=HBK.out;have:=HLEN.out;rw[FT.bk]at this;have h3:(subs.take i).length<=subs.length:=(by rw[List.length_take];omega);rw[List.length_append];omega);go_wp2_with (at_builtin;go_must (refine wpList_ownw tupT rfl _ _ rfl rfl HO5.out rfl (m:=1) (news:=[.string st,.string si,.string ⟨#[]⟩,.string st,.string si,.string ⟨#[]⟩]) rfl (by intro j u hu;rw[Addr.add_lit,cell_of_row _ (wr.heap.size+1) (0+j) #[.string st,.string si,.string ⟨#[]⟩,.string st,.string si,.string ⟨#[]⟩] 67 (0,0) (by have h0:=heap_alloc_new (wr.alloc (.cells #[.string st,.string si,.string ⟨#[]⟩] 33)) (.cells #[.string st,.string si,.string ⟨#[]⟩,.string st,.string si,.string ⟨#[]⟩] 67);rw[HZ4.out]at h0;exact h0)];simpa using hu) (by simp[Value.oneCell']) (by have:=HLL.out;rw[tuCs_length];simp only[List.length_cons,List.length_nil];omega) (by have:=HLL.out;rw[tuCs_length];simp only[List.length_cons,List.length_nil];omega) (Nat.le_trans HSZ.out (Nat.le_trans X4.out.size X5.out.size)) ?_;intro v6 w6 hown6 hbx6 hg6;have HO6:=h! hown6;have RX6:=h! (grown_below RX5.out HO5.out hg6 (Nat.le_trans HSZ.out (Nat.le_trans X4.out.size X5.out.size)));have BF6:=h! ((hg6.block _ BF5.out.lt fun e=>by obtain⟨c,hc⟩:=HO5.out.typed e.symm;rw[show _=_ from BF5.out]at hc;injection hc with hc;injection hc with _ hc _;exact absurd hc (by decide)).trans BF5.out);clear hown6 hbx6 hg6))
   go_roundw
   case rel=>exact⟨i+1,HLT.out,by first | rw[HWI.out] | go_num,by rw[HN.out,HNX.out,HNS.out,<- List.append_assoc,show tuCs (out++nmT st (subs.take i)++[⟨⟨st,si,⟨#[]⟩⟩,⟨st,si,⟨#[]⟩⟩⟩])=tuCs (out++nmT st (subs.take i))++[.string st,.string si,.string ⟨#[]⟩,.string st,.string si,.string ⟨#[]⟩]from by simp[tuCs,tuC]];exact HO6.out,RX6.out,BF6.out⟩
   case measure=>have:=HLT.out;(try rw[HWI.out]);simp[intOf];omega
  ·obtain rfl:i=subs.length:=by omega
   rw[List.take_length]at HO;have hbx:=BF.out.cells;clear hlt hi;go_wp2_with fail
   clear hbx;obtain⟨out2,ho2⟩:∃ x,Hid (x=out++(if k=1 then nmT typ subs else [])):=⟨_,h! rfl⟩;rw[<- ho2.out]at HO
   have HL2:=h! (show out2.length+bkF parts<=2000000 from by
    have h1:=HBK.out;have h2:=HLEN.out;have h3:=nmT_len typ subs;rw[FT.bk]at h2;rw[ho2.out,List.length_append];split
    ·omega
    ·simp;omega)
   obtain⟨w4,hw4⟩:∃ y,y=wr:=⟨_,rfl⟩;rw[<- hw4]at HO RX BF HSZ ⊢;clear hw4;go_loopw [2,44] (fun ov jv wr=>∃ (i:Nat),i<=parts.length/\jv = .int .i64 i/\Own wr B 67 6 ov (tuCs (out2++nmT typ (thsL (parts.take i))))/\Below B w4 wr) (fun _ jv _=>parts.length-(intOf jv).toNat)
   case atStart=>exact⟨0,Nat.zero_le _,rfl,by simpa [thsL,nmT] using HO.out,Below.refl _ _⟩
   case round =>
    obtain⟨i,hi,rfl,ho,hx⟩:=hrel;have HO:=h! ho;have RX2:=h! hx;have HSZ2:=h! (show B<=wr.heap.size from Nat.le_trans HSZ.out hx.size);obtain⟨vo,vn,vc,rfl,-,-,-⟩:=ho.sl.len;clear ho hx;by_cases hlt:i<parts.length
    ·have HLT:=h! hlt;have HNX:=h! (List.take_succ_eq_append_getElem hlt);obtain⟨ao1,g1,he1,hg1,hg2,hc1⟩:=H0.out.rows;dsimp only[FT.ps]at he1 hg1 hg2 hc1;cases he1;obtain⟨p1,q1,u,rfl,hp1,e0,e1,e2,e3,hu⟩:=hc1 i hlt;have HII:=h! (HIH.out parts[i] (List.getElem_mem hlt));have HBI:=h! (show(thsL (parts.take i)).length+parts[i].bk<=bkF parts from by have h1:=thsL_bk (parts.take i);have h2:=bkF_take hlt;have h3:=bkF_le (l:=parts) (i+1);omega);have HWI:=h! (show wrap64 ((i:Int)+1)=((i+1:Nat):Int)from by unfold wrap64;omega);have hli:(i:Int)<(parts.length:Int):=by omega
     generalize parts[i]=x at *;obtain⟨l1,m1,l2,m2,l4,m4,rfl⟩:=hu.shape;have XX:=h! (show ∀ b,b<B->wr.heap[b]?=w.heap[b]? from fun b hb=>(RX2.out.block b hb).trans ((RX.out.block b hb).trans (XA.out.block b (Nat.lt_of_lt_of_le hb HLW.out))));have d0:=(World.cell?_of_block (a:=⟨p1,q1+i*4,none⟩) (XX.out p1 hp1)).trans e0;have d1:=(World.cell?_of_block (a:=⟨p1,q1+i*4+1,none⟩) (XX.out p1 hp1)).trans e1;have d2:=(World.cell?_of_block (a:=⟨p1,q1+i*4+2,none⟩) (XX.out p1 hp1)).trans e2;have d3:=(World.cell?_of_block (a:=⟨p1,q1+i*4+3,none⟩) (XX.out p1 hp1)).trans e3;dsimp only at d1 d2 d3;have X1:=h! (Ext.alloc wr (.cells #[.int .i64 x.k,.slice l1 x.subs.length m1,.slice l2 x.refs.length m2,.slice l4 x.ps.length m4] 128));have HCL:=h! (HII.out _ (.slice vo vn vc) _ _ (hu.same (w':=wr.alloc (.cells #[.int .i64 x.k,.slice l1 x.subs.length m1,.slice l2 x.refs.length m2,.slice l4 x.ps.length m4] 128)) fun b hb=>(X1.out.block b (Nat.lt_of_lt_of_le hb HSZ2.out)).trans (XX.out b hb)) (Nat.le_trans HSZ2.out X1.out.size) (HO.out.below X1.out) (by have h1:=HBI.out;have h2:=HL2.out;have h3:=nmT_len typ (thsL (parts.take i));rw[List.length_append];omega));unfold fV at HCL;dsimp only at HCL;have hbf:=(Blk.made wr #[.int .i64 x.k,.slice l1 x.subs.length m1,.slice l2 x.refs.length m2,.slice l4 x.ps.length m4] 128).cells;clear hlt hc1 hu hp1 hg1 hg2 e0 e1 e2 e3;go_wp2_with fail
     refine HCL.out.mono ?_;rintro e w5 ⟨ov5,rfl,ho5,hb5⟩;have HO5:=h! ho5;have RX5:=h! (show Below B w4 w5 from RX2.out.trans ((X1.out.mono HSZ2.out).trans hb5))
     have HNT:=h! (show out2++nmT typ (thsL (parts.take i))++nmT typ x.ths=out2++nmT typ (thsL (parts.take (i+1)))from by
      rw[HNX.out,thsL_append,nmT_append,List.append_assoc];simp[thsL])
     clear ho5 hb5 HCL d0 d1 d2 d3 hbf HII;go_wp2_with fail
     go_roundw
     case rel=>exact⟨i+1,HLT.out,by first | rw[HWI.out] | go_num,by rw[<- HNT.out];exact HO5.out,RX5.out⟩
     case measure=>have:=HLT.out;(try rw[HWI.out]);simp[intOf];omega
    ·obtain rfl:i=parts.length:=by omega
     rw[List.take_length]at HO
     have HE:=h! (show out2++nmT typ (thsL parts)=out++nmT typ (FT.mk k subs refs parts).ths from by
      rw[ho2.out,FT.ths,nmT_append,List.append_assoc];congr 2
      split <;> rfl)
     have HBF:=h! (show Below B w wr from(XA.out.mono HLW.out).trans (RX.out.trans RX2.out));go_wp2_with fail
     go_ret
     exact⟨_,rfl,by rw[<- HE.out];exact HO.out,HBF.out⟩
end Go.Proofs.YtlhaghoajpglaaaGreat
namespace Go.Proofs.YtlhaghoajpglaaaGreat
open Go Go.RowKit
theorem FormOf.ths {T:List Tup} {P:List P3} {p s:P3} (r:RT):∀ f,FormOf T P p r f->s∈f.ths->∃ t∈T,t.s=s:=by
 induction r using RT.ind with
 | h r ih =>
  intro f hf hs;rw[FormOf_eq]at hf;obtain⟨h1,h2,-,h4⟩:=hf;obtain⟨h5,h6⟩:=formsOf_at h4;rw[FT.ths_eq,List.mem_append]at hs;rcases hs with hs | hs
  ·split at hs
   ·next e =>
    rw[h2,if_pos (h1▸e)]at hs;obtain⟨t,ht,-,rfl⟩:=subsOf_has.1 hs;exact⟨t,ht,rfl⟩
   ·cases hs
  ·obtain⟨g,hg,hs⟩:=thsL_mem.1 hs;obtain⟨i,hi,rfl⟩:=List.getElem_of_mem hg;have hir:i<r.ps.length:=by omega
   obtain⟨g,h7,h8⟩:=h6 i _ (List.getElem?_eq_getElem hir);rw[List.getElem?_eq_getElem hi]at h7;cases h7;exact ih _ (List.getElem_mem hir) _ h8 hs
theorem WalkEnd.forms {ts:List TyS} {T:List Tup} {shut:List R2} {p:P3} {most:Int} {n:Nat} (h:WalkEnd ts T shut p most n)(ht:∀ x∈refsOf ts,x.2.textOk 0=true):∀ f∈(walkN ts T shut p n).2,f.full/\∀ s∈f.ths,∃ t∈T,t.s=s:=by
 intro f hf;obtain⟨i,hi,rfl⟩:=List.getElem_of_mem hf;have hin:i<n:=by rw[walkN_forms]at hi;exact hi
 obtain⟨q,f,-,h2,h3⟩:=h.formOf hin;rw[List.getElem?_eq_getElem hi]at h2;cases h2;rcases h3 with⟨-,e⟩ | ⟨r,hr,hf⟩
 ·rw[e]
  exact⟨by rw[FT.full_eq];exact⟨fun e=>absurd e (by decide),fun g hg=>by cases hg⟩,fun s hs=>by
   rw[FT.ths_eq,if_neg (show ¬ FT.zero.k=1 by decide)]at hs;cases hs⟩
 ·have hk:=fun q hq=>(textOk_pre r 0 (ht _ (ruleOf_mem hr)) q hq).2;exact⟨FormOf.full r _ hk hf,fun s hs=>FormOf.ths r _ hf hs⟩
theorem in_named {ts:List TyS} {T:List Tup} {shut:List R2} {p s:P3} {most:Int} {n i:Nat} (h:WalkEnd ts T shut p most n)(ht:∀ x∈refsOf ts,x.2.textOk 0=true)(hi:i<n)(hs:0<(solveR (walkN ts T shut p n).2 s n).getD i 0):∃ f∈(walkN ts T shut p n).2,s∈f.ths:=by
 by_cases hc:∃ f∈(walkN ts T shut p n).2,s∈f.ths
 ·exact hc
 ·have h1:=unnamed_out (n:=n) (fun f hf=>(h.forms ht f hf).1) (fun f hf hm=>hc ⟨f,hf,hm⟩) n i;have h2:=(outN_pos (fs:=(walkN ts T shut p n).2) (s:=s) n hi).2.2;rw[(endS_n (walkN ts T shut p n).2 s n).solve]at h2;rw[h2.2 hs]at h1;cases h1
end Go.Proofs.YtlhaghoajpglaaaGreat
namespace Go.Proofs.YtlhaghoajpglaaaGreat
open Go Go.RowKit Go.Maps
theorem inI_any (bs:List Bool)(iv:Value)(b:Nat)(x:Int)(w:World)(hb:Blk w b #[iv] 74)(hi:Sl (· < w.heap.size) w 1 iv (boC bs)) :
  Calls Tryz.prog 255 (#[.int .i64 x]++#[.pointer (some ⟨b,0,none⟩)]) w fun e w'=>e = .returned (.bool (inAt bs x))/\Below w.heap.size w w':=by
 obtain⟨ai,ci,rfl,hbl,hbm,hc⟩:=bools_at hi;have hB:=hb.cells;clear hi;rw[show(#[.int .i64 x]++#[.pointer (some ⟨b,0,none⟩)]:Array Value)=#[.int .i64 x,.pointer (some ⟨b,0,none⟩)]from rfl];go_enter Tryz.func255,Tryz.ntmps255
 by_cases h0:0<=x
 ·obtain⟨m,rfl⟩:=Int.eq_ofNat_of_zero_le h0;by_cases hm:m<bs.length
  ·obtain⟨bb,bo,rfl,-,hc1⟩:=hc m hm
   have HV:=h! (show inAt bs (m:Int)=bs[m]from by
    unfold inAt;rw[Int.toNat_natCast,List.getD_eq_getElem?_getD,List.getElem?_eq_getElem hm];simp)
   have hmi:(m:Int)<(bs.length:Int):=by omega
   generalize bs[m]=y at *;clear hm hc hbl hbm;go_wp2_with fail
   go_ret
   exact⟨by rw[HV.out];try rfl,Below.refl _ _⟩
  ·have hmi:¬ (m:Int)<(bs.length:Int):=by omega
   have HV:=h! (show inAt bs (m:Int)=false from by
    unfold inAt;rw[Int.toNat_natCast,List.getD_eq_getElem?_getD,List.getElem?_eq_none (by omega)];simp)
   clear hm hc hbl hbm;go_wp2_with fail
   go_ret
   exact⟨by rw[HV.out];try rfl,Below.refl _ _⟩
 ·have HV:=h! (show inAt bs x=false from by unfold inAt;simp[h0]);clear hc hbl hbm;go_wp2_with fail
  go_ret
  exact⟨by rw[HV.out];try rfl,Below.refl _ _⟩
theorem some_any (bs:List Bool)(r:FT)(iv:Value)(v:FV3)(b c:Nat)(w:World)(hf:Blk w b #[.int .i64 r.k,v.1,v.2.1,v.2.2] 128)(hb:Blk w c #[iv] 74)(hat:FTAt (· < w.heap.size) w r v)(hi:Sl (· < w.heap.size) w 1 iv (boC bs)) :
  Calls Tryz.prog 253 #[.pointer (some ⟨b,0,none⟩),.pointer (some ⟨c,0,none⟩)] w fun e w'=>e = .returned (.bool (r.refs.any (inAt bs)))/\Below w.heap.size w w':=by
 have HC:=h! (containsIF_any w r.refs v.2.1 255 #[.pointer (some ⟨c,0,none⟩)] (enters_of Tryz.func255 (by kernel_rfl) rfl) (inAt bs) ((FTAt.iff _ _).1 hat).2.1 fun i hi' W hW=>inI_any bs iv c _ W (hb.below hW) ((hi.same (Same.below hW)).mono fun _ h=>Nat.lt_of_lt_of_le h hW.size));obtain⟨a1,c1,a2,c2,a4,c4,rfl⟩:=hat.shape;have hmf:∀ (fn:Fn) (first cap:Array Value) (W:World),(Instr.makeFunc fn first cap).run Tryz.prog W = .ok (.func fn first cap) W:=fun _ _ _ _=>rfl;have hA:=hf.cells;dsimp only at hA HC;clear hat hi hf hb;go_enter Tryz.func253,Tryz.ntmps253
 go_wp2_with fail
 refine HC.out.mono ?_;rintro e w2 ⟨rfl,hb⟩;have HB:=h! hb;clear hA HC hb;go_wp2_with fail
 go_ret
 exact⟨rfl,HB.out⟩
theorem part_any (s:P3)(bs:List Bool)(p:FT)(iv:Value)(v:FV3)(b c:Nat)(w:World)(hs:Blk w b #[.string s.t,.string s.i,.string s.r] 33)(hb:Blk w c #[iv] 74)(hat:FTAt (· < w.heap.size) w p v)(hi:Sl (· < w.heap.size) w 1 iv (boC bs))
  (ih:∀ W,Below w.heap.size w W->Calls Tryz.prog 212 #[fV p v,pV s,iv] W fun e w'=>e = .returned (.bool (holdF s bs p))/\Below W.heap.size W w') :
  Calls Tryz.prog 256 #[fV p v,.pointer (some ⟨b,0,none⟩),.pointer (some ⟨c,0,none⟩)] w fun e w'=>e = .returned (.bool (holdF s bs p))/\Below w.heap.size w w':=by
 obtain⟨a1,c1,a2,c2,a4,c4,rfl⟩:=hat.shape;obtain⟨ai,ci,rfl,-⟩:=bools_at hi;unfold fV pV at ih;unfold fV;dsimp only at ih ⊢;have X1:=h! (Ext.alloc w (.cells #[.int .i64 p.k,.slice a1 p.subs.length c1,.slice a2 p.refs.length c2,.slice a4 p.ps.length c4] 128));have HC:=h! (ih _ X1.out);have hbf:=(Blk.made w #[.int .i64 p.k,.slice a1 p.subs.length c1,.slice a2 p.refs.length c2,.slice a4 p.ps.length c4] 128).cells;have hS:=(hs.below X1.out).cells;have hB:=(hb.below X1.out).cells;clear hat hi hs hb ih;go_enter Tryz.func256,Tryz.ntmps256
 go_wp2_with fail
 refine HC.out.mono ?_;rintro e w2 ⟨rfl,hb⟩;have HB:=h! (show Below w.heap.size w w2 from Ext.trans X1.out hb);clear hbf hS hB HC hb;go_wp2_with fail
 go_ret
 exact⟨rfl,HB.out⟩
abbrev hvF (b c:Nat):Value := .func (.func 256) #[] #[.pointer (some ⟨b,0,none⟩),.pointer (some ⟨c,0,none⟩)]
theorem nopart_any (s:P3)(bs:List Bool)(p:FT)(iv:Value)(v:FV3)(b c d:Nat)(w:World)(hs:Blk w b #[.string s.t,.string s.i,.string s.r] 33)(hb:Blk w c #[iv] 74)(hd:Blk w d #[hvF b c] 330)(hat:FTAt (· < w.heap.size) w p v)(hi:Sl (· < w.heap.size) w 1 iv (boC bs))
  (ih:∀ W,Below w.heap.size w W->Calls Tryz.prog 212 #[fV p v,pV s,iv] W fun e w'=>e = .returned (.bool (holdF s bs p))/\Below W.heap.size W w') :
  Calls Tryz.prog 258 #[fV p v,.pointer (some ⟨d,0,none⟩)] w fun e w'=>e = .returned (.bool (!holdF s bs p))/\Below w.heap.size w w':=by
 have X1:=h! (Ext.alloc w (.cells #[.int .i64 p.k,v.1,v.2.1,v.2.2] 128));have HC:=h! (part_any s bs p iv v b c _ (hs.below X1.out) (hb.below X1.out) (hat.up X1.out) ((hi.same (Same.below X1.out)).mono fun _ h=>Nat.lt_of_lt_of_le h X1.out.size) fun W hW=>ih W (Ext.trans X1.out hW));obtain⟨a1,c1,a2,c2,a4,c4,rfl⟩:=hat.shape;have hbf:=(Blk.made w #[.int .i64 p.k,.slice a1 p.subs.length c1,.slice a2 p.refs.length c2,.slice a4 p.ps.length c4] 128).cells;have hD:=(hd.below X1.out).cells;have eg:=enters_of Tryz.func256 (by kernel_rfl) rfl;unfold fV at HC ⊢;dsimp only at HC hD ⊢;clear hat hi hs hb hd ih;go_enter Tryz.func258,Tryz.ntmps258
 go_wp2_with fail
 refine HC.out.mono ?_;rintro e w2 ⟨rfl,hb⟩;have HB:=h! (show Below w.heap.size w w2 from Ext.trans X1.out hb);clear hbf hD HC hb;go_wp2_with fail
 go_ret
 exact⟨rfl,HB.out⟩
theorem holdsP_any (s:P3)(bs:List Bool)(r:FT):∀ (iv:Value)(v:FV3)(w:World),FTAt (· < w.heap.size) w r v->Sl (· < w.heap.size) w 1 iv (boC bs) ->
  Calls Tryz.prog 212 #[fV r v,pV s,iv] w fun e w'=>e = .returned (.bool (holdF s bs r))/\Below w.heap.size w w':=by
 induction r using FT.ind with
 | h r ih =>
 intro iv v w h hi;have H0:=h! h;have I0:=h! hi;have HIH:=h! ih;obtain⟨a1,c1,a2,c2,a4,c4,rfl⟩:=h.shape;obtain⟨ai,ci,rfl,-⟩:=bools_at hi;obtain⟨k,subs,refs,parts⟩:=r;clear ih h hi;unfold fV pV;dsimp only[FT.k,FT.subs,FT.refs,FT.ps]at HIH H0 ⊢;obtain⟨wa,hwa⟩:∃ x,x=w.alloc (.cells #[.int .i64 k,.slice a1 subs.length c1,.slice a2 refs.length c2,.slice a4 parts.length c4] 128):=⟨_,rfl⟩;obtain⟨wb,hwb⟩:∃ x,x=wa.alloc (.cells #[.string s.t,.string s.i,.string s.r] 33):=⟨_,rfl⟩;obtain⟨wc,hwc⟩:∃ x,x=wb.alloc (.cells #[.slice ai bs.length ci] 74):=⟨_,rfl⟩;obtain⟨we,hwe⟩:∃ x,x=wc.alloc (.cells #[hvF (w.heap.size+1) (w.heap.size+1+1)] 330):=⟨_,rfl⟩;have ea:wa.heap.size=w.heap.size+1:=by rw[hwa];simp
 have eb:wb.heap.size=w.heap.size+1+1:=by rw[hwb];simp[ea]
 have ec:wc.heap.size=w.heap.size+1+1+1:=by rw[hwc];simp[eb]
 have xa:Ext w wa:=by rw[hwa];exact Ext.alloc _ _
 have xb:Ext wa wb:=by rw[hwb];exact Ext.alloc _ _
 have xc:Ext wb wc:=by rw[hwc];exact Ext.alloc _ _
 have xe:Ext wc we:=by rw[hwe];exact Ext.alloc _ _
 have XE:=h! (show Ext w we from xa.trans (xb.trans (xc.trans xe)));have BA:=h! (show Blk we w.heap.size #[.int .i64 k,.slice a1 subs.length c1,.slice a2 refs.length c2,.slice a4 parts.length c4] 128 from Blk.below (by rw[hwa];exact Blk.made _ _ _) (xb.trans (xc.trans xe)));have BS:=h! (show Blk we (w.heap.size+1) #[.string s.t,.string s.i,.string s.r] 33 from Blk.below (by rw[hwb,<- ea];exact Blk.made _ _ _) (xc.trans xe));have BI:=h! (show Blk we (w.heap.size+1+1) #[.slice ai bs.length ci] 74 from Blk.below (by rw[hwc,<- eb];exact Blk.made _ _ _) xe);have BF:=h! (show Blk we (w.heap.size+1+1+1) #[hvF (w.heap.size+1) (w.heap.size+1+1)] 330 from by rw[hwe,<- ec];exact Blk.made _ _ _);have FA:=h! (H0.out.up XE.out);have FI:=h! (show Sl (· < we.heap.size) we 1 (.slice ai bs.length ci) (boC bs)from(I0.out.same (Same.below XE.out)).mono fun _ h=>Nat.lt_of_lt_of_le h XE.out.size);have HEQ:=h! (holdF_mk s bs k subs refs parts);have hmf:∀ (fn:Fn) (first cap:Array Value) (W:World),(Instr.makeFunc fn first cap).run Tryz.prog W = .ok (.func fn first cap) W:=fun _ _ _ _=>rfl;have cA:=BA.out.cells;have cS:=BS.out.cells;have cI:=BI.out.cells;have cF:=BF.out.cells;have eg:=enters_of Tryz.func253 (by kernel_rfl) rfl;clear ea eb ec xa xb xc xe;subst hwe hwc hwb hwa;by_cases k1:k=1
 case' pos =>
  subst k1;rw[if_pos rfl]at HEQ;have HC:=h! (containsS_any _ subs s _ ((FTAt.iff _ _).1 FA.out).1);unfold pV at HC;dsimp only at HC;go_enter Tryz.func212,Tryz.ntmps212
  go_wp2_with fail
  refine HC.out.mono ?_;rintro e w5 ⟨rfl,hb5⟩;have HB:=h! hb5;have X5:=h! (show Below w.heap.size w w5 from Ext.trans XE.out hb5);have HS:=h! (some_any bs (.mk 1 subs refs parts) (.slice ai bs.length ci) (.slice a1 subs.length c1,.slice a2 refs.length c2,.slice a4 parts.length c4) w.heap.size (w.heap.size+1+1) w5 (BA.out.below hb5) (BI.out.below hb5) (FA.out.up hb5) ((FI.out.same (Same.below hb5)).mono fun _ h=>Nat.lt_of_lt_of_le h hb5.size));dsimp only[FT.refs]at HS;clear cA cS cI cF HC hb5;by_cases hm:s∈subs
  ·rw[decide_eq_true hm]at HEQ ⊢;clear HS;go_wp2_with fail
   go_ret
   exact⟨by rw[HEQ.out];rfl,X5.out⟩
  ·rw[decide_eq_false hm]at HEQ ⊢;go_wp2_with fail
   refine HS.out.mono ?_;rintro e w6 ⟨rfl,hb6⟩;have X6:=h! (show Below w.heap.size w w6 from Ext.trans X5.out hb6);clear HS hb6;go_wp2_with fail
   go_ret
   exact⟨by rw[HEQ.out];rfl,X6.out⟩
 case' neg =>
  rw[if_neg k1]at HEQ;have b1:(k == 1)=false:=by rw[beq_eq_false_iff_ne];exact k1
  clear k1;have HS:=h! (some_any bs (.mk k subs refs parts) (.slice ai bs.length ci) (.slice a1 subs.length c1,.slice a2 refs.length c2,.slice a4 parts.length c4) w.heap.size (w.heap.size+1+1) _ BA.out BI.out FA.out FI.out);dsimp only[FT.refs]at HS;by_cases k23:k=2\/k=3
  ·rw[if_pos k23]at HEQ
   have hor:(k == 2)=true\/(k == 2)=false/\(k == 3)=true:=by
    rcases k23 with rfl | rfl <;> simp
   clear k23;rcases hor with hk | ⟨hk,hk3⟩
   all_goals
    go_enter Tryz.func212,Tryz.ntmps212
    go_wp2_with fail
    refine HS.out.mono ?_;rintro e w6 ⟨rfl,hb6⟩;have X6:=h! (show Below w.heap.size w w6 from Ext.trans XE.out hb6);clear HS hb6 cA cS cI cF;go_wp2_with fail
    go_ret
    exact⟨by rw[HEQ.out];try rfl,X6.out⟩
  ·rw[if_neg k23]at HEQ;have b2:(k == 2)=false:=by rw[beq_eq_false_iff_ne];exact fun e=>k23 (.inl e)
   have b3:(k == 3)=false:=by rw[beq_eq_false_iff_ne];exact fun e=>k23 (.inr e)
   clear k23 HS eg;have HP:=h! (fun i (hi:i<parts.length) W (pvi:FV3) (hW:Below _ _ W) (hat:FTAt (· < W.heap.size) W parts[i] pvi)=>part_any s bs parts[i] (.slice ai bs.length ci) pvi (w.heap.size+1) (w.heap.size+1+1) W (BS.out.below hW) (BI.out.below hW) hat ((FI.out.same (Same.below hW)).mono fun _ h=>Nat.lt_of_lt_of_le h hW.size) fun W2 hW2=>HIH.out parts[i] (List.getElem_mem hi) (.slice ai bs.length ci) pvi W2 (hat.up hW2) ((FI.out.same (Same.below (Ext.trans hW hW2))).mono fun _ h=>Nat.lt_of_lt_of_le h (Nat.le_trans hW.size hW2.size)));have HN:=h! (fun i (hi:i<parts.length) W (pvi:FV3) (hW:Below _ _ W) (hat:FTAt (· < W.heap.size) W parts[i] pvi)=>nopart_any s bs parts[i] (.slice ai bs.length ci) pvi (w.heap.size+1) (w.heap.size+1+1) (w.heap.size+1+1+1) W (BS.out.below hW) (BI.out.below hW) (BF.out.below hW) hat ((FI.out.same (Same.below hW)).mono fun _ h=>Nat.lt_of_lt_of_le h hW.size) fun W2 hW2=>HIH.out parts[i] (List.getElem_mem hi) (.slice ai bs.length ci) pvi W2 (hat.up hW2) ((FI.out.same (Same.below (Ext.trans hW hW2))).mono fun _ h=>Nat.lt_of_lt_of_le h (Nat.le_trans hW.size hW2.size)));by_cases k4:k=4
   ·subst k4;rw[if_pos rfl]at HEQ;clear b1 b2 b3 HN;have HC:=h! (containsFF_any _ parts 4 subs refs (.slice a1 subs.length c1,.slice a2 refs.length c2,.slice a4 parts.length c4) 256 #[.pointer (some ⟨w.heap.size+1,0,none⟩),.pointer (some ⟨w.heap.size+1+1,0,none⟩)] (enters_of Tryz.func256 (by kernel_rfl) rfl) (holdF s bs) FA.out HP.out);dsimp only at HC;clear HP;go_enter Tryz.func212,Tryz.ntmps212
    go_wp2_with fail
    refine HC.out.mono ?_;rintro e w6 ⟨rfl,hb6⟩;have X6:=h! (show Below w.heap.size w w6 from Ext.trans XE.out hb6);clear HC hb6 cA cS cI cF;go_wp2_with fail
    go_ret
    exact⟨by rw[HEQ.out];try rfl,X6.out⟩
   ·rw[if_neg k4]at HEQ;have b4:(k == 4)=false:=by rw[beq_eq_false_iff_ne];exact k4
    clear k4 HP;by_cases k5:k=5
    ·subst k5;rw[if_pos rfl]at HEQ;clear b1 b2 b3 b4;have HC:=h! (containsFF_any _ parts 5 subs refs (.slice a1 subs.length c1,.slice a2 refs.length c2,.slice a4 parts.length c4) 258 #[.pointer (some ⟨w.heap.size+1+1+1,0,none⟩)] (enters_of Tryz.func258 (by kernel_rfl) rfl) (fun p=>!holdF s bs p) FA.out HN.out);dsimp only at HC;clear HN;go_enter Tryz.func212,Tryz.ntmps212
     go_wp2_with fail
     refine HC.out.mono ?_;rintro e w6 ⟨rfl,hb6⟩;have X6:=h! (show Below w.heap.size w w6 from Ext.trans XE.out hb6);clear HC hb6 cA cS cI cF;go_wp2_with fail
     go_ret
     exact⟨by rw[HEQ.out,List.all_eq_not_any_not];try rfl,X6.out⟩
    ·rw[if_neg k5]at HEQ;have b5:(k == 5)=false:=by rw[beq_eq_false_iff_ne];exact k5
     clear k5 HN;go_enter Tryz.func212,Tryz.ntmps212
     go_wp2_with fail
     go_ret
     exact⟨by rw[HEQ.out];try rfl,XE.out⟩
end Go.Proofs.YtlhaghoajpglaaaGreat
