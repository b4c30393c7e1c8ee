/- Lemmas for the claim, no condition. -/
import Derived.Test.YtlhaghoajpglaaaGreatYBuGrid0
import Derived.Test.YtlhaghoajpglaaaGreatYBuGrid5
import Derived.Test.YtlhaghoajpglaaaGreatYBuGrid7
set_option maxRecDepth 100000
set_option maxHeartbeats 4000000
namespace Go.Proofs.YtlhaghoajpglaaaGreat
open Go Go.RowKit
def J4 {α0 α1 α2 α3:Type} (F:α0->α1->α2->α3->World->Prop)(A:α0->α1->α2->α3->Act)(e:Exit)(a:Act)(W:World):Prop:=e = .normal/\∃ (x0:α0)(x1:α1)(x2:α2)(x3:α3),a=A x0 x1 x2 x3/\F x0 x1 x2 x3 W
def J5 {α0 α1 α2 α3 α4:Type} (F:α0->α1->α2->α3->α4->World->Prop)(A:α0->α1->α2->α3->α4->Act)(e:Exit)(a:Act)(W:World):Prop:=e = .normal/\∃ (x0:α0)(x1:α1)(x2:α2)(x3:α3)(x4:α4),a=A x0 x1 x2 x3 x4/\F x0 x1 x2 x3 x4 W
def J7 {α0 α1 α2 α3 α4 α5 α6:Type} (F:α0->α1->α2->α3->α4->α5->α6->World->Prop)(A:α0->α1->α2->α3->α4->α5->α6->Act)(e:Exit)(a:Act)(W:World):Prop:=e = .normal/\∃ (x0:α0)(x1:α1)(x2:α2)(x3:α3)(x4:α4)(x5:α5)(x6:α6),a=A x0 x1 x2 x3 x4 x5 x6/\F x0 x1 x2 x3 x4 x5 x6 W
def pC (p:P3):List Value:=[.string p.t,.string p.i,.string p.r]
def pV (p:P3):Value := .agg #[.string p.t,.string p.i,.string p.r]
theorem pC_length (p:P3):(pC p).length=3:=rfl
theorem pC_one (p:P3):∀ u∈pC p,u.oneCell'=true:=by
 intro u hu;simp only[pC,List.mem_cons,List.not_mem_nil,or_false]at hu;rcases hu with rfl | rfl | rfl <;> rfl
def pcs (l:List P3):List Value:=l.flatMap pC
def ordP (a b:P3):Int:=orL [cmpS a.t b.t,cmpS a.i b.i,cmpS a.r b.r]
def ltP (a b:P3):Bool:=if a.t=b.t then(if a.i=b.i then ltS a.r b.r else ltS a.i b.i)else ltS a.t b.t
theorem lt_ordP (a b:P3):Go.Proofs.ltOf ordP a b=ltP a b:=by
 unfold Go.Proofs.ltOf ordP ltP;rw[Bool.eq_iff_iff,decide_eq_true_eq];simp only[orL,cmpS_zero];by_cases h1:a.t=b.t
 ·simp only[h1,if_true];by_cases h2:a.i=b.i
  ·simp only[h2,if_true];by_cases h3:a.r=b.r
   ·simp[h3,ltS_irr]
   ·simp only[h3,if_false];exact cmpS_neg _ _
  ·simp only[h2,if_false];exact cmpS_neg _ _
 ·simp only[h1,if_false];exact cmpS_neg _ _
theorem ltP_irr (a:P3):ltP a a=false:=by simp[ltP,ltS_irr]
theorem ltP_total {a b:P3} (h:ltP a b=false)(hne:a≠b):ltP b a=true:=by
 unfold ltP at *;by_cases h1:a.t=b.t
 ·rw[if_pos h1]at h;rw[if_pos h1.symm];by_cases h2:a.i=b.i
  ·rw[if_pos h2]at h;rw[if_pos h2.symm];refine ltS_total h fun h3=>hne ?_;cases a;cases b;simp_all
  ·rw[if_neg h2]at h;rw[if_neg (Ne.symm h2)];exact ltS_total h h2
 ·rw[if_neg h1]at h;rw[if_neg (Ne.symm h1)];exact ltS_total h h1
theorem ltP_trans {a b c:P3} (h:ltP a b=true)(k:ltP b c=true):ltP a c=true:=by
 unfold ltP at *;by_cases h1:a.t=b.t <;> by_cases k1:b.t=c.t
 ·rw[if_pos h1]at h;rw[if_pos k1]at k;rw[if_pos (h1.trans k1)];by_cases h2:a.i=b.i <;> by_cases k2:b.i=c.i
  ·rw[if_pos h2]at h;rw[if_pos k2]at k;rw[if_pos (h2.trans k2)];exact ltS_trans h k
  ·rw[if_neg k2]at k;rw[if_neg (h2▸k2),h2];exact k
  ·rw[if_neg h2]at h;rw[if_neg (k2▸h2),<- k2];exact h
  ·rw[if_neg h2]at h;rw[if_neg k2]at k;have:=ltS_trans h k;rw[if_neg (ltS_ne this)];exact this
 ·rw[if_neg k1]at k;rw[if_neg (h1▸k1),h1];exact k
 ·rw[if_neg h1]at h;rw[if_neg (k1▸h1),<- k1];exact h
 ·rw[if_neg h1]at h;rw[if_neg k1]at k;have:=ltS_trans h k;rw[if_neg (ltS_ne this)];exact this
end Go.Proofs.YtlhaghoajpglaaaGreat
namespace Go.Proofs.YtlhaghoajpglaaaGreat
open Go Go.RowKit Go.Maps
abbrev KR (tp rb:Nat) (w w':World):Prop:=Kept (fun b=>b<w.heap.size/\b≠tp/\b≠rb) w w'
theorem KR.step {tp rb:Nat} {w w' w'':World} (h:KR tp rb w w')(k:KT tp w' w''):KR tp rb w w'':=Kept.trans h (Kept.mono k fun _b hb=>⟨Nat.lt_of_lt_of_le hb.1 h.size,hb.2.1⟩)
theorem TyRow.ext {lo:Nat} {w W:World} {tp n b off:Nat} (h:TyRow (fun b=>b<lo/\b≠tp) w n b off)(hl:lo<=w.heap.size)(hx:KT tp w W):TyRow (fun b=>b<lo/\b≠tp) W n b off:=by
 refine⟨h.1,fun i hi=>?_⟩;obtain⟨nm,b2,off2,m,c2,e0,e1,hnz,hm1,hm2,hR⟩:=h.2 i hi;refine⟨nm,b2,off2,m,c2,Kept.cell hx ⟨Nat.lt_of_lt_of_le h.1.1 hl,h.1.2⟩ e0,Kept.cell hx ⟨Nat.lt_of_lt_of_le h.1.1 hl,h.1.2⟩ e1,hnz,hm1,hm2,hR.1,fun j hj=>?_⟩;obtain⟨rn,hr,hz⟩:=hR.2 j hj;exact⟨rn,Kept.cell hx ⟨Nat.lt_of_lt_of_le hR.1.1 hl,hR.1.2⟩ hr,hz⟩
theorem RelRow.ext {lo:Nat} {w W:World} {tp m b off:Nat} (h:RelRow (fun b=>b<lo/\b≠tp) w m b off)(hl:lo<=w.heap.size)(hx:KT tp w W):RelRow (fun b=>b<lo/\b≠tp) W m b off :=
 ⟨h.1,fun j hj=>by
  obtain⟨rn,hr,hz⟩:=h.2 j hj;exact⟨rn,Kept.cell hx ⟨Nat.lt_of_lt_of_le h.1.1 hl,h.1.2⟩ hr,hz⟩⟩
structure TyP (lo:Nat)(wd W:World)(tp b7:Nat)(nm:ByteArray)(b2 off2 m c2:Nat):Prop where
 X:KT tp wd W
 T:Tp W tp
 B:Blk W b7 #[.string nm,.slice (some ⟨b2,off2,none⟩) m c2] 176
 up:wd.heap.size<=b7
 nz:nm.size<=maxLen
 mm:1<=m/\m<=1000
 R:RelRow (fun b=>b<lo/\b≠tp) wd m b2 off2
theorem mkPoint_row (n b off c tp:Nat)(w:World)(htp:Tp w tp)(hrow:TyRow (fun b=>b<w.heap.size/\b≠tp) w n b off)(hn:1<=n/\n<=1000) :
  Calls Tryz.prog 71 #[.pointer (some ⟨tp,0,none⟩),.agg #[.slice (some ⟨b,off,none⟩) n c]] w fun e w'=>∃ p:P3,e = .returned (pV p)/\p.Ok/\Tp w' tp/\KT tp w w':=by
 obtain⟨wa,hwa⟩:∃ x,x=w.alloc (.cells #[.slice (some ⟨b,off,none⟩) n c] 26):=⟨_,rfl⟩;obtain⟨wb,hwb⟩:∃ x,x=wa.alloc (.cells #[.string ⟨#[]⟩,.string ⟨#[]⟩,.string ⟨#[]⟩] 32):=⟨_,rfl⟩;have ea:wa.heap.size=w.heap.size+1:=by rw[hwa];simp
 have eb:wb.heap.size=w.heap.size+2:=by rw[hwb];simp[ea]
 have xa:Ext w wa:=by rw[hwa];exact Ext.alloc _ _
 have xb:Ext wa wb:=by rw[hwb];exact Ext.alloc _ _
 have HSB:=h! (show Blk wb w.heap.size #[.slice (some ⟨b,off,none⟩) n c] 26 from Blk.below (by rw[hwa];exact Blk.made _ _ _) xb);have HPB:=h! (show Blk wb (w.heap.size+1) #[.string ⟨#[]⟩,.string ⟨#[]⟩,.string ⟨#[]⟩] 32 from by rw[hwb,<- ea];exact Blk.made _ _ _);have HXW:=h! (show KT tp w wb from KT.of (xa.trans xb));have HRW:=h! (hrow.ext (Nat.le_refl _) HXW.out);have HLL:=h! (show w.heap.size<=wb.heap.size from HXW.out.size);have HT:=h! (htp.ext (xa.trans xb));have HN:=h! hn;have HSN:=h! (show w.heap.size≠tp from by have:=htp.lt;omega);have HPN:=h! (show w.heap.size+1≠tp from by have:=htp.lt;omega);have HLT:=h! (show tp<wb.heap.size from by have:=htp.lt;omega);have HL0:=h! htp.lt;have hz0:(0:Int)<=(n:Int):=by omega
 clear hrow hn htp xa xb ea eb;subst hwa;go_enter Tryz.func71,Tryz.ntmps71
 go_wp2_with fail
 rw[<- hwb];clear hwb;obtain⟨wd,hwd⟩:∃ wd,Hid (wd=wb.drew):=⟨_,h! rfl⟩;have hxd:=h! (show Ext wb wd from by rw[hwd.out];exact Ext.drew _);have HLT:=h! (Nat.lt_of_lt_of_le HLT.out hxd.out.size);have HT:=h! (HT.out.ext hxd.out);apply Code.wp_mono (Q:=J7 (fun(k b7:Nat) (nm:ByteArray) (b2 off2 m c2:Nat) W=>TyP (w.heap.size) wd W tp b7 nm b2 off2 m c2) _) ?rest1 ?reg1
 case reg1 =>
  have hE:=h! (show KT tp wd wd from Kept.refl _ _);refine region_walkN (KT tp wd) (by rw[<- hwd.out];exact Kept.refl _ _) (by kernel_rfl) (by kernel_rfl) (fun _ _ d _ _ h=>by cases h.1) ?_;rw[<- hwd.out];have h3:∀ W,KT tp wd W->∀ i,W.cell? ⟨w.heap.size,i,none⟩=(#[.slice (some ⟨b,off,none⟩) n c]:Array Value)[i]?:=fun W h=>(Kept.blk h (HSB.out.below hxd.out) ⟨(HSB.out.below hxd.out).lt,HSN.out⟩).cells;have HRW:=h! (HRW.out.ext HLL.out (KT.of hxd.out));have HLL:=h! (Nat.le_trans HLL.out hxd.out.size);(refine WalkN.tk [0,1,2,3,4,5] ?_;(iterate 6 (refine c! ?_));refine TkN.n ?_)
  clear h3;refine p! 6 9 ?_ ?_;refine b! ?_;intro K hK;go_simp;refine(next_any tp n wd HT.out (by have:=HN.out;omega) (by have:=HN.out;omega)).mono ?_;rintro e u1 ⟨k,rfl,hk0,ht0,hx0⟩;have hX0:=KT.trans hE.out hx0;refine hK.out _ _ hX0 ?_;clear hK;have hkl0:k<n:=by omega
  have hk0:(0:Int)<=(k:Int):=by omega
  obtain⟨nm,b2,off2,m,c2,e0,e1,hnz,hm1,hm2,hR⟩:=HRW.out.2 k hkl0;have g0:∀ W,KT tp wd W->W.cell? ⟨b,off+k*2,none⟩=some (.string nm):=fun W h=>Kept.cell h ⟨Nat.lt_of_lt_of_le HRW.out.1.1 HLL.out,HRW.out.1.2⟩ e0;have g1:∀ W,KT tp wd W->W.cell? ⟨b,off+k*2+1,none⟩=some (.slice (some ⟨b2,off2,none⟩) m c2):=fun W h=>Kept.cell h ⟨Nat.lt_of_lt_of_le HRW.out.1.1 HLL.out,HRW.out.1.2⟩ e1;have HNZ:=h! (show nm.size<=maxLen/\1<=m/\m<=1000/\RelRow (fun b=>b<w.heap.size/\b≠tp) wd m b2 off2 from⟨hnz,hm1,hm2,hR⟩);clear e0 e1 hnz hm1 hm2 hR hk0;have HT:=h! ht0;have hE:=h! hX0;clear hx0 hX0 ht0;(refine WalkN.tk [7,8] ?_;(iterate 2 (refine c! ?_));refine TkN.n ?_)
  clear g0 g1 hk0 hkl0;refine o! 9 ?_;refine b! ?_;intro K hK;go_simp;obtain⟨b7,hb7⟩:∃ x,x=u1.heap.size:=⟨_,rfl⟩;rw[<- hb7];have hA1:=Ext.alloc u1 (.cells #[.string ⟨#[]⟩,.slice none 0 0] 176);have hO1:Blk (u1.alloc (.cells #[.string ⟨#[]⟩,.slice none 0 0] 176)) b7 #[.string ⟨#[]⟩,.slice none 0 0] 176:=by rw[hb7];exact Blk.made _ _ _
  have hX1:=KT.trans hE.out (KT.of hA1);have HLO:=h! (show wd.heap.size<=b7 from by have:=hE.out.size;omega);have ht1:=HT.out.ext hA1;refine hK.out _ _ hX1 ?_;clear hK hb7 hA1;generalize u1.alloc (.cells #[.string ⟨#[]⟩,.slice none 0 0] 176)=u2 at *;have hE:=h! hX1;have HT:=h! ht1;have HB7:=h! hO1;clear hO1 hX1 ht1;rotate_left
  refine b! ?_;intro K hK;go_simp;obtain⟨b7,hb7⟩:∃ x,x=wd.heap.size:=⟨_,rfl⟩;rw[<- hb7];have hA0:=Ext.alloc wd (.cells #[.string ⟨#[]⟩,.slice none 0 0] 176);have hO0:Blk (wd.alloc (.cells #[.string ⟨#[]⟩,.slice none 0 0] 176)) b7 #[.string ⟨#[]⟩,.slice none 0 0] 176:=by rw[hb7];exact Blk.made _ _ _
  have hX0:=KT.trans hE.out (KT.of hA0);have HLO:=h! (show wd.heap.size<=b7 from by have:=hE.out.size;omega);have ht0:=HT.out.ext hA0;refine hK.out _ _ hX0 ?_;clear hK hb7 hA0;generalize wd.alloc (.cells #[.string ⟨#[]⟩,.slice none 0 0] 176)=u1 at *;have hE:=h! hX0;have HT:=h! ht0;have HB7:=h! hO0;clear hO0 hX0 ht0;refine o! 6 ?_;refine b! ?_;intro K hK;go_simp;refine(next_any tp n u1 HT.out (by have:=HN.out;omega) (by have:=HN.out;omega)).mono ?_;rintro e u2 ⟨k,rfl,hk1,ht1,hx1⟩;have hX1:=KT.trans hE.out hx1;refine hK.out _ _ hX1 ?_;clear hK;have hkl1:k<n:=by omega
  have hk0:(0:Int)<=(k:Int):=by omega
  obtain⟨nm,b2,off2,m,c2,e0,e1,hnz,hm1,hm2,hR⟩:=HRW.out.2 k hkl1;have g0:∀ W,KT tp wd W->W.cell? ⟨b,off+k*2,none⟩=some (.string nm):=fun W h=>Kept.cell h ⟨Nat.lt_of_lt_of_le HRW.out.1.1 HLL.out,HRW.out.1.2⟩ e0;have g1:∀ W,KT tp wd W->W.cell? ⟨b,off+k*2+1,none⟩=some (.slice (some ⟨b2,off2,none⟩) m c2):=fun W h=>Kept.cell h ⟨Nat.lt_of_lt_of_le HRW.out.1.1 HLL.out,HRW.out.1.2⟩ e1;have HNZ:=h! (show nm.size<=maxLen/\1<=m/\m<=1000/\RelRow (fun b=>b<w.heap.size/\b≠tp) wd m b2 off2 from⟨hnz,hm1,hm2,hR⟩);have HB7:=h! (hx1.blk HB7.out (by have:=HLO.out;have:=HLT.out;omega));clear e0 e1 hnz hm1 hm2 hR hk1;have HT:=h! ht1;have hE:=h! hX1;clear hx1 hX1 ht1;(refine WalkN.tk [7,8] ?_;(iterate 2 (refine c! ?_));refine TkN.n ?_)
  clear g0 g1 hk0 hkl1;rotate_left
  all_goals
   refine o! 10 ?_;refine b! ?_;intro K hK;have c7:=HB7.out.cells;have f7:=HB7.out.free;go_simp;have hS2:=HB7.out.set2D (.string nm) (.slice (some ⟨b2,off2,none⟩) m c2);have hX2:KT tp wd ((u2.setCell ⟨b7,0,none⟩ (.string nm)).setCell ⟨b7,1,none⟩ (.slice (some ⟨b2,off2,none⟩) m c2)):=(Kept.set hE.out (a:=⟨b7,0,none⟩) (fun e=>by have:=HLO.out;have:=e.1;dsimp only at this;omega) (.string nm)).set (a:=⟨b7,1,none⟩) (fun e=>by have:=HLO.out;have:=e.1;dsimp only at this;omega) (.slice (some ⟨b2,off2,none⟩) m c2);have ht2:Tp ((u2.setCell ⟨b7,0,none⟩ (.string nm)).setCell ⟨b7,1,none⟩ (.slice (some ⟨b2,off2,none⟩) m c2)) tp:=HT.out.kept (K:=fun b=>b≠b7) (((Kept.refl _ u2).set (a:=⟨b7,0,none⟩) (fun e=>e rfl) (.string nm)).set (a:=⟨b7,1,none⟩) (fun e=>e rfl) (.slice (some ⟨b2,off2,none⟩) m c2)) (fun b hb=>by have:=HLO.out;have:=HLT.out;omega);refine hK.out _ _ hX2 ?_;clear hK c7 f7;refine d! ?_;exact⟨rfl,k,b7,nm,b2,off2,m,c2,rfl,hX2,ht2,hS2,HLO.out,HNZ.out.1,⟨HNZ.out.2.1,HNZ.out.2.2.1⟩,HNZ.out.2.2.2⟩
 rintro e _ W1 ⟨rfl,k,b7,nm,b2,off2,m,c2,rfl,hTP⟩;have HLL0:=h! HLL.out;have HXW:=h! (show KT tp w W1 from KT.trans (KT.trans HXW.out (KT.of hxd.out)) hTP.X);have HN7:=h! (show b7≠tp/\w.heap.size+1<b7 from by have:=hTP.up;have:=HL0.out;have:=HPB.out.lt;have:=hxd.out.size;omega);have HPB:=h! (hTP.X.blk (HPB.out.below hxd.out) HPN.out);have HT:=h! hTP.T;have HLT:=h! (show tp<W1.heap.size from hTP.T.lt);have HB7:=h! hTP.B;have HLL:=h! (show w.heap.size<=W1.heap.size from HXW.out.size);have HRR:=h! (hTP.R.ext (Nat.le_trans HLL0.out hxd.out.size) hTP.X);have HM:=h! hTP.mm;have HNZ:=h! hTP.nz;clear hTP hxd hwd HRW HSB HN HSN;dsimp only;go_wp2_with fail
 obtain⟨wd,hwd⟩:∃ wd,Hid (wd=W1.drew):=⟨_,h! rfl⟩;have hxd:=h! (show Ext W1 wd from by rw[hwd.out];exact Ext.drew _);have HLT:=h! (Nat.lt_of_lt_of_le HLT.out hxd.out.size);have HT:=h! (HT.out.ext hxd.out);apply Code.wp_mono (Q:=J5 (fun(b3 k3 k4:Nat) (sid rn:ByteArray) W=>KR tp (w.heap.size+1) wd W/\Tp W tp/\sid.size<=maxLen/\rn.size<=maxLen/\Blk W (w.heap.size+1) #[.string nm,.string sid,.string rn] 32) _) ?rest2 ?reg2
 case reg2 =>
  have hE:=h! (show KR tp (w.heap.size+1) wd wd from Kept.refl _ _);refine region_walkN (KR tp (w.heap.size+1) wd) (by rw[<- hwd.out];exact Kept.refl _ _) (by kernel_rfl) (by kernel_rfl) (fun _ _ d _ _ h=>by cases h.1) ?_;rw[<- hwd.out];have hb7:=HB7.out.below hxd.out;have h7:∀ W,KR tp (w.heap.size+1) wd W->∀ i,W.cell? ⟨b7,i,none⟩=(#[.string nm,.slice (some ⟨b2,off2,none⟩) m c2]:Array Value)[i]?:=fun W h=>(Kept.blk h hb7 ⟨hb7.lt,HN7.out.1,by have:=HN7.out.2;omega⟩).cells;have HR:=h! (HRR.out.ext HLL.out (KT.of hxd.out));have HLL:=h! (Nat.le_trans HLL.out hxd.out.size);have HPB:=h! (HPB.out.below hxd.out);(refine WalkN.tk [0,1,3,8,9,10,11,12,13] ?_;(iterate 9 (refine c! ?_));refine TkN.n ?_)
  clear h7 hb7;refine p! 2 4 ?_ ?_;refine b! ?_;intro K hK;go_simp;obtain⟨b3,hb3⟩:∃ x,x=wd.heap.size:=⟨_,rfl⟩;rw[<- hb3];have hA0:=Ext.alloc wd (.cells #[.string ⟨#[49]⟩,.string ⟨#[50]⟩,.string ⟨#[51]⟩] 9);have hO0:Blk (wd.alloc (.cells #[.string ⟨#[49]⟩,.string ⟨#[50]⟩,.string ⟨#[51]⟩] 9)) b3 #[.string ⟨#[49]⟩,.string ⟨#[50]⟩,.string ⟨#[51]⟩] 9:=by rw[hb3];exact Blk.made _ _ _
  have hX0:=KR.step hE.out (KT.of hA0);have HL3:=h! (show wd.heap.size<=b3 from by have:=hE.out.size;omega);have HPB:=h! (HPB.out.below hA0);have ht0:=HT.out.ext hA0;refine hK.out _ _ hX0 ?_;clear hK hb3 hA0;generalize wd.alloc (.cells #[.string ⟨#[49]⟩,.string ⟨#[50]⟩,.string ⟨#[51]⟩] 9)=u1 at *;have hE:=h! hX0;have HT:=h! ht0;have HB3:=h! hO0;clear hO0 hX0 ht0;refine o! 4 ?_;refine b! ?_;intro K hK;go_simp;refine(next_any tp 3 u1 HT.out (by decide) (by decide)).mono ?_;rintro e u2 ⟨k3,rfl,hk1,ht1,hx1⟩;have hX1:=KR.step hE.out hx1;refine hK.out _ _ hX1 ?_;clear hK;have HK3:=h! hk1;have HPB:=h! (hx1.blk HPB.out HPN.out);have HB3:=h! (hx1.blk HB3.out (by have:=HL3.out;have:=HLT.out;omega));have hk0:(0:Int)<=(k3:Int):=by omega
  have hk1:(k3:Int)<3:=hk1;clear hk1;have HT:=h! ht1;have hE:=h! hX1;clear hx1 hX1 ht1;refine t! 5 ?_
  clear hk0 hk1;refine p! 6 14 ?_ ?_
  obtain⟨sid,hsz,h6⟩:∃ sid:ByteArray,sid.size<=maxLen/\u2.cell? ⟨b3,k3,none⟩=some (.string sid):=by
   have h6:=HB3.out.cells;have hk:=HK3.out;obtain rfl | rfl | rfl:k3=0\/k3=1\/k3=2:=by omega
   ·exact⟨⟨#[49]⟩,by decide,h6 0⟩
   ·exact⟨⟨#[50]⟩,by decide,h6 1⟩
   ·exact⟨⟨#[51]⟩,by decide,h6 2⟩
  have HSZ:=h! hsz;refine b! ?_;intro K hK;go_simp;refine hK.out _ _ hE.out ?_;clear hK h6 hsz;obtain⟨u3,hw2⟩:∃ x,x=u2:=⟨_,rfl⟩;rw[<- hw2]at hE HT HB3 HPB ⊢;clear hw2;refine t! 7 ?_
  refine o! 14 ?_;refine b! ?_;intro K hK;go_simp;refine(next_any tp m u3 HT.out (by have:=HM.out;omega) (by have:=HM.out;omega)).mono ?_;rintro e u4 ⟨k4,rfl,hk3,ht3,hx3⟩;have hX3:=KR.step hE.out hx3;refine hK.out _ _ hX3 ?_;clear hK;have HPB:=h! (hx3.blk HPB.out HPN.out);have hkm3:k4<m:=by omega
  have hk0:(0:Int)<=(k4:Int):=by omega
  obtain⟨rn,hrn,hrz⟩:=HR.out.2 k4 hkm3;have g0:∀ W,KR tp (w.heap.size+1) wd W->W.cell? ⟨b2,off2+k4*5,none⟩=some (.string rn):=fun W h=>Kept.cell h ⟨Nat.lt_of_lt_of_le HR.out.1.1 HLL.out,HR.out.1.2,by have:=HR.out.1.1;show b2≠w.heap.size+1;omega⟩ hrn;have HRZ:=h! hrz;have HB3:=h! (hx3.blk HB3.out (by have:=HL3.out;have:=HLT.out;omega));clear hrn hrz hk3;have HT:=h! ht3;have hE:=h! hX3;clear hx3 hX3 ht3;(refine WalkN.tk [15,16,17] ?_;(iterate 3 (refine c! ?_));refine TkN.n ?_)
  clear g0 hkm3 hk0;refine t! 18 ?_
  rotate_left
  refine b! ?_;intro K hK;go_simp;refine(next_any tp m u2 HT.out (by have:=HM.out;omega) (by have:=HM.out;omega)).mono ?_;rintro e u3 ⟨k4,rfl,hk2,ht2,hx2⟩;have hX2:=KR.step hE.out hx2;refine hK.out _ _ hX2 ?_;clear hK;have HPB:=h! (hx2.blk HPB.out HPN.out);have hkm2:k4<m:=by omega
  have hk0:(0:Int)<=(k4:Int):=by omega
  obtain⟨rn,hrn,hrz⟩:=HR.out.2 k4 hkm2;have g0:∀ W,KR tp (w.heap.size+1) wd W->W.cell? ⟨b2,off2+k4*5,none⟩=some (.string rn):=fun W h=>Kept.cell h ⟨Nat.lt_of_lt_of_le HR.out.1.1 HLL.out,HR.out.1.2,by have:=HR.out.1.1;show b2≠w.heap.size+1;omega⟩ hrn;have HRZ:=h! hrz;have HB3:=h! (hx2.blk HB3.out (by have:=HL3.out;have:=HLT.out;omega));clear hrn hrz hk2;have HT:=h! ht2;have hE:=h! hX2;clear hx2 hX2 ht2;(refine WalkN.tk [15,16,17] ?_;(iterate 3 (refine c! ?_));refine TkN.n ?_)
  clear g0 hkm2 hk0;refine o! 6 ?_
  obtain⟨sid,hsz,h6⟩:∃ sid:ByteArray,sid.size<=maxLen/\u3.cell? ⟨b3,k3,none⟩=some (.string sid):=by
   have h6:=HB3.out.cells;have hk:=HK3.out;obtain rfl | rfl | rfl:k3=0\/k3=1\/k3=2:=by omega
   ·exact⟨⟨#[49]⟩,by decide,h6 0⟩
   ·exact⟨⟨#[50]⟩,by decide,h6 1⟩
   ·exact⟨⟨#[51]⟩,by decide,h6 2⟩
  have HSZ:=h! hsz;refine b! ?_;intro K hK;go_simp;refine hK.out _ _ hE.out ?_;clear hK h6 hsz;obtain⟨u4,hw3⟩:∃ x,x=u3:=⟨_,rfl⟩;rw[<- hw3]at hE HT HB3 HPB ⊢;clear hw3;refine t! 7 ?_
  refine t! 18 ?_
  rotate_left
  refine b! ?_;intro K hK;go_simp;refine(next_any tp 3 wd HT.out (by decide) (by decide)).mono ?_;rintro e u1 ⟨k3,rfl,hk0,ht0,hx0⟩;have hX0:=KR.step hE.out hx0;refine hK.out _ _ hX0 ?_;clear hK;have HK3:=h! hk0;have HPB:=h! (hx0.blk HPB.out HPN.out);clear hk0;have HT:=h! ht0;have hE:=h! hX0;clear hx0 hX0 ht0;refine p! 2 14 ?_ ?_;refine b! ?_;intro K hK;go_simp;obtain⟨b3,hb3⟩:∃ x,x=u1.heap.size:=⟨_,rfl⟩;rw[<- hb3];have hA1:=Ext.alloc u1 (.cells #[.string ⟨#[49]⟩,.string ⟨#[50]⟩,.string ⟨#[51]⟩] 9);have hO1:Blk (u1.alloc (.cells #[.string ⟨#[49]⟩,.string ⟨#[50]⟩,.string ⟨#[51]⟩] 9)) b3 #[.string ⟨#[49]⟩,.string ⟨#[50]⟩,.string ⟨#[51]⟩] 9:=by rw[hb3];exact Blk.made _ _ _
  have hX1:=KR.step hE.out (KT.of hA1);have HL3:=h! (show wd.heap.size<=b3 from by have:=hE.out.size;omega);have HPB:=h! (HPB.out.below hA1);have ht1:=HT.out.ext hA1;refine hK.out _ _ hX1 ?_;clear hK hb3 hA1;generalize u1.alloc (.cells #[.string ⟨#[49]⟩,.string ⟨#[50]⟩,.string ⟨#[51]⟩] 9)=u2 at *;have hE:=h! hX1;have HT:=h! ht1;have HB3:=h! hO1;clear hO1 hX1 ht1;have hk0:(0:Int)<=(k3:Int):=by omega
  have hk1:(k3:Int)<3:=HK3.out;refine t! 5 ?_
  clear hk0 hk1;refine p! 6 14 ?_ ?_
  obtain⟨sid,hsz,h6⟩:∃ sid:ByteArray,sid.size<=maxLen/\u2.cell? ⟨b3,k3,none⟩=some (.string sid):=by
   have h6:=HB3.out.cells;have hk:=HK3.out;obtain rfl | rfl | rfl:k3=0\/k3=1\/k3=2:=by omega
   ·exact⟨⟨#[49]⟩,by decide,h6 0⟩
   ·exact⟨⟨#[50]⟩,by decide,h6 1⟩
   ·exact⟨⟨#[51]⟩,by decide,h6 2⟩
  have HSZ:=h! hsz;refine b! ?_;intro K hK;go_simp;refine hK.out _ _ hE.out ?_;clear hK h6 hsz;obtain⟨u3,hw2⟩:∃ x,x=u2:=⟨_,rfl⟩;rw[<- hw2]at hE HT HB3 HPB ⊢;clear hw2;refine t! 7 ?_
  refine o! 14 ?_;refine b! ?_;intro K hK;go_simp;refine(next_any tp m u3 HT.out (by have:=HM.out;omega) (by have:=HM.out;omega)).mono ?_;rintro e u4 ⟨k4,rfl,hk3,ht3,hx3⟩;have hX3:=KR.step hE.out hx3;refine hK.out _ _ hX3 ?_;clear hK;have HPB:=h! (hx3.blk HPB.out HPN.out);have hkm3:k4<m:=by omega
  have hk0:(0:Int)<=(k4:Int):=by omega
  obtain⟨rn,hrn,hrz⟩:=HR.out.2 k4 hkm3;have g0:∀ W,KR tp (w.heap.size+1) wd W->W.cell? ⟨b2,off2+k4*5,none⟩=some (.string rn):=fun W h=>Kept.cell h ⟨Nat.lt_of_lt_of_le HR.out.1.1 HLL.out,HR.out.1.2,by have:=HR.out.1.1;show b2≠w.heap.size+1;omega⟩ hrn;have HRZ:=h! hrz;have HB3:=h! (hx3.blk HB3.out (by have:=HL3.out;have:=HLT.out;omega));clear hrn hrz hk3;have HT:=h! ht3;have hE:=h! hX3;clear hx3 hX3 ht3;(refine WalkN.tk [15,16,17] ?_;(iterate 3 (refine c! ?_));refine TkN.n ?_)
  clear g0 hkm3 hk0;refine t! 18 ?_
  rotate_left
  refine b! ?_;intro K hK;go_simp;refine(next_any tp m u2 HT.out (by have:=HM.out;omega) (by have:=HM.out;omega)).mono ?_;rintro e u3 ⟨k4,rfl,hk2,ht2,hx2⟩;have hX2:=KR.step hE.out hx2;refine hK.out _ _ hX2 ?_;clear hK;have HPB:=h! (hx2.blk HPB.out HPN.out);have hkm2:k4<m:=by omega
  have hk0:(0:Int)<=(k4:Int):=by omega
  obtain⟨rn,hrn,hrz⟩:=HR.out.2 k4 hkm2;have g0:∀ W,KR tp (w.heap.size+1) wd W->W.cell? ⟨b2,off2+k4*5,none⟩=some (.string rn):=fun W h=>Kept.cell h ⟨Nat.lt_of_lt_of_le HR.out.1.1 HLL.out,HR.out.1.2,by have:=HR.out.1.1;show b2≠w.heap.size+1;omega⟩ hrn;have HRZ:=h! hrz;have HB3:=h! (hx2.blk HB3.out (by have:=HL3.out;have:=HLT.out;omega));clear hrn hrz hk2;have HT:=h! ht2;have hE:=h! hX2;clear hx2 hX2 ht2;(refine WalkN.tk [15,16,17] ?_;(iterate 3 (refine c! ?_));refine TkN.n ?_)
  clear g0 hkm2 hk0;refine o! 6 ?_
  obtain⟨sid,hsz,h6⟩:∃ sid:ByteArray,sid.size<=maxLen/\u3.cell? ⟨b3,k3,none⟩=some (.string sid):=by
   have h6:=HB3.out.cells;have hk:=HK3.out;obtain rfl | rfl | rfl:k3=0\/k3=1\/k3=2:=by omega
   ·exact⟨⟨#[49]⟩,by decide,h6 0⟩
   ·exact⟨⟨#[50]⟩,by decide,h6 1⟩
   ·exact⟨⟨#[51]⟩,by decide,h6 2⟩
  have HSZ:=h! hsz;refine b! ?_;intro K hK;go_simp;refine hK.out _ _ hE.out ?_;clear hK h6 hsz;obtain⟨u4,hw3⟩:∃ x,x=u3:=⟨_,rfl⟩;rw[<- hw3]at hE HT HB3 HPB ⊢;clear hw3;refine t! 7 ?_
  refine t! 18 ?_
  rotate_left
  refine b! ?_;intro K hK;go_simp;refine(next_any tp m u1 HT.out (by have:=HM.out;omega) (by have:=HM.out;omega)).mono ?_;rintro e u2 ⟨k4,rfl,hk1,ht1,hx1⟩;have hX1:=KR.step hE.out hx1;refine hK.out _ _ hX1 ?_;clear hK;have HPB:=h! (hx1.blk HPB.out HPN.out);have hkm1:k4<m:=by omega
  have hk0:(0:Int)<=(k4:Int):=by omega
  obtain⟨rn,hrn,hrz⟩:=HR.out.2 k4 hkm1;have g0:∀ W,KR tp (w.heap.size+1) wd W->W.cell? ⟨b2,off2+k4*5,none⟩=some (.string rn):=fun W h=>Kept.cell h ⟨Nat.lt_of_lt_of_le HR.out.1.1 HLL.out,HR.out.1.2,by have:=HR.out.1.1;show b2≠w.heap.size+1;omega⟩ hrn;have HRZ:=h! hrz;clear hrn hrz hk1;have HT:=h! ht1;have hE:=h! hX1;clear hx1 hX1 ht1;(refine WalkN.tk [15,16,17] ?_;(iterate 3 (refine c! ?_));refine TkN.n ?_)
  clear g0 hkm1 hk0;refine o! 2 ?_;refine b! ?_;intro K hK;go_simp;obtain⟨b3,hb3⟩:∃ x,x=u2.heap.size:=⟨_,rfl⟩;rw[<- hb3];have hA2:=Ext.alloc u2 (.cells #[.string ⟨#[49]⟩,.string ⟨#[50]⟩,.string ⟨#[51]⟩] 9);have hO2:Blk (u2.alloc (.cells #[.string ⟨#[49]⟩,.string ⟨#[50]⟩,.string ⟨#[51]⟩] 9)) b3 #[.string ⟨#[49]⟩,.string ⟨#[50]⟩,.string ⟨#[51]⟩] 9:=by rw[hb3];exact Blk.made _ _ _
  have hX2:=KR.step hE.out (KT.of hA2);have HL3:=h! (show wd.heap.size<=b3 from by have:=hE.out.size;omega);have HPB:=h! (HPB.out.below hA2);have ht2:=HT.out.ext hA2;refine hK.out _ _ hX2 ?_;clear hK hb3 hA2;generalize u2.alloc (.cells #[.string ⟨#[49]⟩,.string ⟨#[50]⟩,.string ⟨#[51]⟩] 9)=u3 at *;have hE:=h! hX2;have HT:=h! ht2;have HB3:=h! hO2;clear hO2 hX2 ht2;have hk0:(0:Int)<=(k3:Int):=by omega
  have hk1:(k3:Int)<3:=HK3.out;refine t! 5 ?_
  clear hk0 hk1;refine o! 6 ?_
  obtain⟨sid,hsz,h6⟩:∃ sid:ByteArray,sid.size<=maxLen/\u3.cell? ⟨b3,k3,none⟩=some (.string sid):=by
   have h6:=HB3.out.cells;have hk:=HK3.out;obtain rfl | rfl | rfl:k3=0\/k3=1\/k3=2:=by omega
   ·exact⟨⟨#[49]⟩,by decide,h6 0⟩
   ·exact⟨⟨#[50]⟩,by decide,h6 1⟩
   ·exact⟨⟨#[51]⟩,by decide,h6 2⟩
  have HSZ:=h! hsz;refine b! ?_;intro K hK;go_simp;refine hK.out _ _ hE.out ?_;clear hK h6 hsz;obtain⟨u4,hw3⟩:∃ x,x=u3:=⟨_,rfl⟩;rw[<- hw3]at hE HT HB3 HPB ⊢;clear hw3;refine t! 7 ?_
  refine t! 18 ?_
  rotate_left
  all_goals
   refine o! 19 ?_;refine b! ?_;intro K hK;have cp:=HPB.out.cells;have fp:=HPB.out.free;go_simp;have hS4:=((HPB.out.set_to (cs':=#[.string nm,.string ⟨#[]⟩,.string ⟨#[]⟩]) 0 (.string nm) rfl).set_to (cs':=#[.string nm,.string sid,.string ⟨#[]⟩]) 1 (.string sid) rfl).set_to (cs':=#[.string nm,.string sid,.string rn]) 2 (.string rn) rfl;have hX4:KR tp (w.heap.size+1) wd (((u4.setCell ⟨w.heap.size+1,0,none⟩ (.string nm)).setCell ⟨w.heap.size+1,1,none⟩ (.string sid)).setCell ⟨w.heap.size+1,2,none⟩ (.string rn)):=((Kept.set hE.out (a:=⟨w.heap.size+1,0,none⟩) (fun e=>e.2.2 rfl) (.string nm)).set (a:=⟨w.heap.size+1,1,none⟩) (fun e=>e.2.2 rfl) (.string sid)).set (a:=⟨w.heap.size+1,2,none⟩) (fun e=>e.2.2 rfl) (.string rn);have ht4:Tp (((u4.setCell ⟨w.heap.size+1,0,none⟩ (.string nm)).setCell ⟨w.heap.size+1,1,none⟩ (.string sid)).setCell ⟨w.heap.size+1,2,none⟩ (.string rn)) tp:=HT.out.kept (K:=fun b=>b≠w.heap.size+1) ((((Kept.refl _ u4).set (a:=⟨w.heap.size+1,0,none⟩) (fun e=>e rfl) (.string nm)).set (a:=⟨w.heap.size+1,1,none⟩) (fun e=>e rfl) (.string sid)).set (a:=⟨w.heap.size+1,2,none⟩) (fun e=>e rfl) (.string rn)) (fun b hb=>by have:=HL0.out;omega);refine hK.out _ _ hX4 ?_;clear hK cp fp;refine d! ?_;exact⟨rfl,b3,k3,k4,sid,rn,rfl,hX4,ht4,HSZ.out,HRZ.out,hS4⟩
 rintro e _ W2 ⟨rfl,b3,k3,k4,sid,rn,rfl,hX2,hT2,hsid,hrn,hblk⟩;dsimp only;go_wp2_with fail
 refine bodyPost_ret (results_cell_row rfl _ _ (w.heap.size+1) 32 #[.string nm,.string sid,.string rn] (0,0) _ rfl hblk Tryz.underlying32 rfl (by kernel_rfl)) rfl ?_;exact⟨⟨nm,sid,rn⟩,rfl,⟨HNZ.out,hsid,hrn⟩,hT2,Kept.trans HXW.out (Kept.mono (KR.step (Kept.refl _ _:KR tp (w.heap.size+1) W1 W1) (KT.of hxd.out) |> fun h=>Kept.trans h (Kept.mono hX2 fun b hb=>⟨Nat.lt_of_lt_of_le hb.1 hxd.out.size,hb.2⟩)) fun b hb=>⟨Nat.lt_of_lt_of_le hb.1 HXW.out.size,hb.2,by have:=hb.1;omega⟩)⟩
theorem mkSub_row (n b off c tp:Nat)(w:World)(htp:Tp w tp)(hrow:TyRow (fun b=>b<w.heap.size/\b≠tp) w n b off)(hn:1<=n/\n<=1000) :
  Calls Tryz.prog 72 #[.pointer (some ⟨tp,0,none⟩),.agg #[.slice (some ⟨b,off,none⟩) n c]] w fun e w'=>∃ p:P3,e = .returned (pV p)/\p.Ok/\Tp w' tp/\KT tp w w':=by
 obtain⟨wa,hwa⟩:∃ x,x=w.alloc (.cells #[.slice (some ⟨b,off,none⟩) n c] 26):=⟨_,rfl⟩;obtain⟨wb,hwb⟩:∃ x,x=wa.alloc (.cells #[.string ⟨#[]⟩,.string ⟨#[]⟩,.string ⟨#[]⟩] 33):=⟨_,rfl⟩;have ea:wa.heap.size=w.heap.size+1:=by rw[hwa];simp
 have eb:wb.heap.size=w.heap.size+2:=by rw[hwb];simp[ea]
 have xa:Ext w wa:=by rw[hwa];exact Ext.alloc _ _
 have xb:Ext wa wb:=by rw[hwb];exact Ext.alloc _ _
 have HSB:=h! (show Blk wb w.heap.size #[.slice (some ⟨b,off,none⟩) n c] 26 from Blk.below (by rw[hwa];exact Blk.made _ _ _) xb);have HPB:=h! (show Blk wb (w.heap.size+1) #[.string ⟨#[]⟩,.string ⟨#[]⟩,.string ⟨#[]⟩] 33 from by rw[hwb,<- ea];exact Blk.made _ _ _);have HXW:=h! (show KT tp w wb from KT.of (xa.trans xb));have HRW:=h! (hrow.ext (Nat.le_refl _) HXW.out);have HLL:=h! (show w.heap.size<=wb.heap.size from HXW.out.size);have HT:=h! (htp.ext (xa.trans xb));have HN:=h! hn;have HSN:=h! (show w.heap.size≠tp from by have:=htp.lt;omega);have HPN:=h! (show w.heap.size+1≠tp from by have:=htp.lt;omega);have HLT:=h! (show tp<wb.heap.size from by have:=htp.lt;omega);have HL0:=h! htp.lt;have hz0:(0:Int)<=(n:Int):=by omega
 clear hrow hn htp xa xb ea eb;subst hwa;go_enter Tryz.func72,Tryz.ntmps72
 go_wp2_with fail
 rw[<- hwb];clear hwb;obtain⟨wd,hwd⟩:∃ wd,Hid (wd=wb.drew):=⟨_,h! rfl⟩;have hxd:=h! (show Ext wb wd from by rw[hwd.out];exact Ext.drew _);have HLT:=h! (Nat.lt_of_lt_of_le HLT.out hxd.out.size);have HT:=h! (HT.out.ext hxd.out);apply Code.wp_mono (Q:=J7 (fun(k b7:Nat) (nm:ByteArray) (b2 off2 m c2:Nat) W=>TyP (w.heap.size) wd W tp b7 nm b2 off2 m c2) _) ?rest1 ?reg1
 case reg1 =>
  have hE:=h! (show KT tp wd wd from Kept.refl _ _);refine region_walkN (KT tp wd) (by rw[<- hwd.out];exact Kept.refl _ _) (by kernel_rfl) (by kernel_rfl) (fun _ _ d _ _ h=>by cases h.1) ?_;rw[<- hwd.out];have h3:∀ W,KT tp wd W->∀ i,W.cell? ⟨w.heap.size,i,none⟩=(#[.slice (some ⟨b,off,none⟩) n c]:Array Value)[i]?:=fun W h=>(Kept.blk h (HSB.out.below hxd.out) ⟨(HSB.out.below hxd.out).lt,HSN.out⟩).cells;have HRW:=h! (HRW.out.ext HLL.out (KT.of hxd.out));have HLL:=h! (Nat.le_trans HLL.out hxd.out.size);(refine WalkN.tk [0,1,2,3,4,5] ?_;(iterate 6 (refine c! ?_));refine TkN.n ?_)
  clear h3;refine p! 6 9 ?_ ?_;refine b! ?_;intro K hK;go_simp;refine(next_any tp n wd HT.out (by have:=HN.out;omega) (by have:=HN.out;omega)).mono ?_;rintro e u1 ⟨k,rfl,hk0,ht0,hx0⟩;have hX0:=KT.trans hE.out hx0;refine hK.out _ _ hX0 ?_;clear hK;have hkl0:k<n:=by omega
  have hk0:(0:Int)<=(k:Int):=by omega
  obtain⟨nm,b2,off2,m,c2,e0,e1,hnz,hm1,hm2,hR⟩:=HRW.out.2 k hkl0;have g0:∀ W,KT tp wd W->W.cell? ⟨b,off+k*2,none⟩=some (.string nm):=fun W h=>Kept.cell h ⟨Nat.lt_of_lt_of_le HRW.out.1.1 HLL.out,HRW.out.1.2⟩ e0;have g1:∀ W,KT tp wd W->W.cell? ⟨b,off+k*2+1,none⟩=some (.slice (some ⟨b2,off2,none⟩) m c2):=fun W h=>Kept.cell h ⟨Nat.lt_of_lt_of_le HRW.out.1.1 HLL.out,HRW.out.1.2⟩ e1;have HNZ:=h! (show nm.size<=maxLen/\1<=m/\m<=1000/\RelRow (fun b=>b<w.heap.size/\b≠tp) wd m b2 off2 from⟨hnz,hm1,hm2,hR⟩);clear e0 e1 hnz hm1 hm2 hR hk0;have HT:=h! ht0;have hE:=h! hX0;clear hx0 hX0 ht0;(refine WalkN.tk [7,8] ?_;(iterate 2 (refine c! ?_));refine TkN.n ?_)
  clear g0 g1 hk0 hkl0;refine o! 9 ?_;refine b! ?_;intro K hK;go_simp;obtain⟨b7,hb7⟩:∃ x,x=u1.heap.size:=⟨_,rfl⟩;rw[<- hb7];have hA1:=Ext.alloc u1 (.cells #[.string ⟨#[]⟩,.slice none 0 0] 176);have hO1:Blk (u1.alloc (.cells #[.string ⟨#[]⟩,.slice none 0 0] 176)) b7 #[.string ⟨#[]⟩,.slice none 0 0] 176:=by rw[hb7];exact Blk.made _ _ _
  have hX1:=KT.trans hE.out (KT.of hA1);have HLO:=h! (show wd.heap.size<=b7 from by have:=hE.out.size;omega);have ht1:=HT.out.ext hA1;refine hK.out _ _ hX1 ?_;clear hK hb7 hA1;generalize u1.alloc (.cells #[.string ⟨#[]⟩,.slice none 0 0] 176)=u2 at *;have hE:=h! hX1;have HT:=h! ht1;have HB7:=h! hO1;clear hO1 hX1 ht1;rotate_left
  refine b! ?_;intro K hK;go_simp;obtain⟨b7,hb7⟩:∃ x,x=wd.heap.size:=⟨_,rfl⟩;rw[<- hb7];have hA0:=Ext.alloc wd (.cells #[.string ⟨#[]⟩,.slice none 0 0] 176);have hO0:Blk (wd.alloc (.cells #[.string ⟨#[]⟩,.slice none 0 0] 176)) b7 #[.string ⟨#[]⟩,.slice none 0 0] 176:=by rw[hb7];exact Blk.made _ _ _
  have hX0:=KT.trans hE.out (KT.of hA0);have HLO:=h! (show wd.heap.size<=b7 from by have:=hE.out.size;omega);have ht0:=HT.out.ext hA0;refine hK.out _ _ hX0 ?_;clear hK hb7 hA0;generalize wd.alloc (.cells #[.string ⟨#[]⟩,.slice none 0 0] 176)=u1 at *;have hE:=h! hX0;have HT:=h! ht0;have HB7:=h! hO0;clear hO0 hX0 ht0;refine o! 6 ?_;refine b! ?_;intro K hK;go_simp;refine(next_any tp n u1 HT.out (by have:=HN.out;omega) (by have:=HN.out;omega)).mono ?_;rintro e u2 ⟨k,rfl,hk1,ht1,hx1⟩;have hX1:=KT.trans hE.out hx1;refine hK.out _ _ hX1 ?_;clear hK;have hkl1:k<n:=by omega
  have hk0:(0:Int)<=(k:Int):=by omega
  obtain⟨nm,b2,off2,m,c2,e0,e1,hnz,hm1,hm2,hR⟩:=HRW.out.2 k hkl1;have g0:∀ W,KT tp wd W->W.cell? ⟨b,off+k*2,none⟩=some (.string nm):=fun W h=>Kept.cell h ⟨Nat.lt_of_lt_of_le HRW.out.1.1 HLL.out,HRW.out.1.2⟩ e0;have g1:∀ W,KT tp wd W->W.cell? ⟨b,off+k*2+1,none⟩=some (.slice (some ⟨b2,off2,none⟩) m c2):=fun W h=>Kept.cell h ⟨Nat.lt_of_lt_of_le HRW.out.1.1 HLL.out,HRW.out.1.2⟩ e1;have HNZ:=h! (show nm.size<=maxLen/\1<=m/\m<=1000/\RelRow (fun b=>b<w.heap.size/\b≠tp) wd m b2 off2 from⟨hnz,hm1,hm2,hR⟩);have HB7:=h! (hx1.blk HB7.out (by have:=HLO.out;have:=HLT.out;omega));clear e0 e1 hnz hm1 hm2 hR hk1;have HT:=h! ht1;have hE:=h! hX1;clear hx1 hX1 ht1;(refine WalkN.tk [7,8] ?_;(iterate 2 (refine c! ?_));refine TkN.n ?_)
  clear g0 g1 hk0 hkl1;rotate_left
  all_goals
   refine o! 10 ?_;refine b! ?_;intro K hK;have c7:=HB7.out.cells;have f7:=HB7.out.free;go_simp;have hS2:=HB7.out.set2D (.string nm) (.slice (some ⟨b2,off2,none⟩) m c2);have hX2:KT tp wd ((u2.setCell ⟨b7,0,none⟩ (.string nm)).setCell ⟨b7,1,none⟩ (.slice (some ⟨b2,off2,none⟩) m c2)):=(Kept.set hE.out (a:=⟨b7,0,none⟩) (fun e=>by have:=HLO.out;have:=e.1;dsimp only at this;omega) (.string nm)).set (a:=⟨b7,1,none⟩) (fun e=>by have:=HLO.out;have:=e.1;dsimp only at this;omega) (.slice (some ⟨b2,off2,none⟩) m c2);have ht2:Tp ((u2.setCell ⟨b7,0,none⟩ (.string nm)).setCell ⟨b7,1,none⟩ (.slice (some ⟨b2,off2,none⟩) m c2)) tp:=HT.out.kept (K:=fun b=>b≠b7) (((Kept.refl _ u2).set (a:=⟨b7,0,none⟩) (fun e=>e rfl) (.string nm)).set (a:=⟨b7,1,none⟩) (fun e=>e rfl) (.slice (some ⟨b2,off2,none⟩) m c2)) (fun b hb=>by have:=HLO.out;have:=HLT.out;omega);refine hK.out _ _ hX2 ?_;clear hK c7 f7;refine d! ?_;exact⟨rfl,k,b7,nm,b2,off2,m,c2,rfl,hX2,ht2,hS2,HLO.out,HNZ.out.1,⟨HNZ.out.2.1,HNZ.out.2.2.1⟩,HNZ.out.2.2.2⟩
 rintro e _ W1 ⟨rfl,k,b7,nm,b2,off2,m,c2,rfl,hTP⟩;have HLL0:=h! HLL.out;have HXW:=h! (show KT tp w W1 from KT.trans (KT.trans HXW.out (KT.of hxd.out)) hTP.X);have HN7:=h! (show b7≠tp/\w.heap.size+1<b7 from by have:=hTP.up;have:=HL0.out;have:=HPB.out.lt;have:=hxd.out.size;omega);have HPB:=h! (hTP.X.blk (HPB.out.below hxd.out) HPN.out);have HT:=h! hTP.T;have HLT:=h! (show tp<W1.heap.size from hTP.T.lt);have HB7:=h! hTP.B;have HLL:=h! (show w.heap.size<=W1.heap.size from HXW.out.size);have HRR:=h! (hTP.R.ext (Nat.le_trans HLL0.out hxd.out.size) hTP.X);have HM:=h! hTP.mm;have HNZ:=h! hTP.nz;clear hTP hxd hwd HRW HSB HN HSN;dsimp only;go_wp2_with fail
 obtain⟨wd,hwd⟩:∃ wd,Hid (wd=W1.drew):=⟨_,h! rfl⟩;have hxd:=h! (show Ext W1 wd from by rw[hwd.out];exact Ext.drew _);have HLT:=h! (Nat.lt_of_lt_of_le HLT.out hxd.out.size);have HT:=h! (HT.out.ext hxd.out);apply Code.wp_mono (Q:=J4 (fun(b3 k3 b9:Nat) (sid:ByteArray) W=>KT tp wd W/\Tp W tp/\Blk W b9 #[.string nm,.string sid,.string ⟨#[]⟩] 33/\wd.heap.size<=b9/\sid.size<=maxLen) _) ?rest2 ?reg2
 case reg2 =>
  have hE:=h! (show KT tp wd wd from Kept.refl _ _);refine region_walkN (KT tp wd) (by rw[<- hwd.out];exact Kept.refl _ _) (by kernel_rfl) (by kernel_rfl) (fun _ _ d _ _ h=>by cases h.1) ?_;rw[<- hwd.out];have hb7:=HB7.out.below hxd.out;have h7:∀ W,KT tp wd W->∀ i,W.cell? ⟨b7,i,none⟩=(#[.string nm,.slice (some ⟨b2,off2,none⟩) m c2]:Array Value)[i]?:=fun W h=>(Kept.blk h hb7 ⟨hb7.lt,HN7.out.1⟩).cells;(refine WalkN.tk [0,1,3] ?_;(iterate 3 (refine c! ?_));refine TkN.n ?_)
  clear h7 hb7;refine WalkN.three 2 4 9 (by kernel_rfl) ?_ ?_ ?_;refine b! ?_;intro K hK;go_simp;obtain⟨b3,hb3⟩:∃ x,x=wd.heap.size:=⟨_,rfl⟩;rw[<- hb3];have hA0:=Ext.alloc wd (.cells #[.string ⟨#[49]⟩,.string ⟨#[50]⟩,.string ⟨#[51]⟩] 9);have hO0:Blk (wd.alloc (.cells #[.string ⟨#[49]⟩,.string ⟨#[50]⟩,.string ⟨#[51]⟩] 9)) b3 #[.string ⟨#[49]⟩,.string ⟨#[50]⟩,.string ⟨#[51]⟩] 9:=by rw[hb3];exact Blk.made _ _ _
  have hX0:=KT.trans hE.out (KT.of hA0);have HL3:=h! (show wd.heap.size<=b3 from by have:=hE.out.size;omega);have ht0:=HT.out.ext hA0;refine hK.out _ _ hX0 ?_;clear hK hb3 hA0;generalize wd.alloc (.cells #[.string ⟨#[49]⟩,.string ⟨#[50]⟩,.string ⟨#[51]⟩] 9)=u1 at *;have hE:=h! hX0;have HT:=h! ht0;have HB3:=h! hO0;clear hO0 hX0 ht0;refine p! 4 9 ?_ ?_;refine b! ?_;intro K hK;go_simp;refine(next_any tp 3 u1 HT.out (by decide) (by decide)).mono ?_;rintro e u2 ⟨k3,rfl,hk1,ht1,hx1⟩;have hX1:=KT.trans hE.out hx1;refine hK.out _ _ hX1 ?_;clear hK;have HK3:=h! hk1;have HB3:=h! (hx1.blk HB3.out (by have:=HL3.out;have:=HLT.out;omega));have hk0:(0:Int)<=(k3:Int):=by omega
  have hk1:(k3:Int)<3:=hk1;clear hk1;have HT:=h! ht1;have hE:=h! hX1;clear hx1 hX1 ht1;refine t! 5 ?_
  clear hk0 hk1;refine p! 6 9 ?_ ?_
  obtain⟨sid,hsz,h6⟩:∃ sid:ByteArray,sid.size<=maxLen/\u2.cell? ⟨b3,k3,none⟩=some (.string sid):=by
   have h6:=HB3.out.cells;have hk:=HK3.out;obtain rfl | rfl | rfl:k3=0\/k3=1\/k3=2:=by omega
   ·exact⟨⟨#[49]⟩,by decide,h6 0⟩
   ·exact⟨⟨#[50]⟩,by decide,h6 1⟩
   ·exact⟨⟨#[51]⟩,by decide,h6 2⟩
  have HSZ:=h! hsz;refine b! ?_;intro K hK;go_simp;refine hK.out _ _ hE.out ?_;clear hK h6 hsz;obtain⟨u3,hw2⟩:∃ x,x=u2:=⟨_,rfl⟩;rw[<- hw2]at hE HT HB3 ⊢;clear hw2;(refine WalkN.tk [7,8] ?_;(iterate 2 (refine c! ?_));refine TkN.n ?_)
  refine o! 9 ?_;refine b! ?_;intro K hK;go_simp;obtain⟨b9,hb9⟩:∃ x,x=u3.heap.size:=⟨_,rfl⟩;rw[<- hb9];have hA3:=Ext.alloc u3 (.cells #[.string ⟨#[]⟩,.string ⟨#[]⟩,.string ⟨#[]⟩] 33);have hO3:Blk (u3.alloc (.cells #[.string ⟨#[]⟩,.string ⟨#[]⟩,.string ⟨#[]⟩] 33)) b9 #[.string ⟨#[]⟩,.string ⟨#[]⟩,.string ⟨#[]⟩] 33:=by rw[hb9];exact Blk.made _ _ _
  have hX3:=KT.trans hE.out (KT.of hA3);have HL9:=h! (show wd.heap.size<=b9 from by have:=hE.out.size;omega);have HB3:=h! (HB3.out.below hA3);have ht3:=HT.out.ext hA3;refine hK.out _ _ hX3 ?_;clear hK hb9 hA3;generalize u3.alloc (.cells #[.string ⟨#[]⟩,.string ⟨#[]⟩,.string ⟨#[]⟩] 33)=u4 at *;have hE:=h! hX3;have HT:=h! ht3;have HS9:=h! hO3;clear hO3 hX3 ht3;rotate_left
  refine b! ?_;intro K hK;go_simp;obtain⟨b9,hb9⟩:∃ x,x=u2.heap.size:=⟨_,rfl⟩;rw[<- hb9];have hA2:=Ext.alloc u2 (.cells #[.string ⟨#[]⟩,.string ⟨#[]⟩,.string ⟨#[]⟩] 33);have hO2:Blk (u2.alloc (.cells #[.string ⟨#[]⟩,.string ⟨#[]⟩,.string ⟨#[]⟩] 33)) b9 #[.string ⟨#[]⟩,.string ⟨#[]⟩,.string ⟨#[]⟩] 33:=by rw[hb9];exact Blk.made _ _ _
  have hX2:=KT.trans hE.out (KT.of hA2);have HL9:=h! (show wd.heap.size<=b9 from by have:=hE.out.size;omega);have HB3:=h! (HB3.out.below hA2);have ht2:=HT.out.ext hA2;refine hK.out _ _ hX2 ?_;clear hK hb9 hA2;generalize u2.alloc (.cells #[.string ⟨#[]⟩,.string ⟨#[]⟩,.string ⟨#[]⟩] 33)=u3 at *;have hE:=h! hX2;have HT:=h! ht2;have HS9:=h! hO2;clear hO2 hX2 ht2;refine o! 6 ?_
  obtain⟨sid,hsz,h6⟩:∃ sid:ByteArray,sid.size<=maxLen/\u3.cell? ⟨b3,k3,none⟩=some (.string sid):=by
   have h6:=HB3.out.cells;have hk:=HK3.out;obtain rfl | rfl | rfl:k3=0\/k3=1\/k3=2:=by omega
   ·exact⟨⟨#[49]⟩,by decide,h6 0⟩
   ·exact⟨⟨#[50]⟩,by decide,h6 1⟩
   ·exact⟨⟨#[51]⟩,by decide,h6 2⟩
  have HSZ:=h! hsz;refine b! ?_;intro K hK;go_simp;refine hK.out _ _ hE.out ?_;clear hK h6 hsz;obtain⟨u4,hw3⟩:∃ x,x=u3:=⟨_,rfl⟩;rw[<- hw3]at hE HT HB3 ⊢;rw[<- hw3]at HS9;clear hw3;(refine WalkN.tk [7,8] ?_;(iterate 2 (refine c! ?_));refine TkN.n ?_)
  rotate_left
  refine b! ?_;intro K hK;go_simp;obtain⟨b9,hb9⟩:∃ x,x=u1.heap.size:=⟨_,rfl⟩;rw[<- hb9];have hA1:=Ext.alloc u1 (.cells #[.string ⟨#[]⟩,.string ⟨#[]⟩,.string ⟨#[]⟩] 33);have hO1:Blk (u1.alloc (.cells #[.string ⟨#[]⟩,.string ⟨#[]⟩,.string ⟨#[]⟩] 33)) b9 #[.string ⟨#[]⟩,.string ⟨#[]⟩,.string ⟨#[]⟩] 33:=by rw[hb9];exact Blk.made _ _ _
  have hX1:=KT.trans hE.out (KT.of hA1);have HL9:=h! (show wd.heap.size<=b9 from by have:=hE.out.size;omega);have HB3:=h! (HB3.out.below hA1);have ht1:=HT.out.ext hA1;refine hK.out _ _ hX1 ?_;clear hK hb9 hA1;generalize u1.alloc (.cells #[.string ⟨#[]⟩,.string ⟨#[]⟩,.string ⟨#[]⟩] 33)=u2 at *;have hE:=h! hX1;have HT:=h! ht1;have HS9:=h! hO1;clear hO1 hX1 ht1;refine o! 4 ?_;refine b! ?_;intro K hK;go_simp;refine(next_any tp 3 u2 HT.out (by decide) (by decide)).mono ?_;rintro e u3 ⟨k3,rfl,hk2,ht2,hx2⟩;have hX2:=KT.trans hE.out hx2;refine hK.out _ _ hX2 ?_;clear hK;have HK3:=h! hk2;have HB3:=h! (hx2.blk HB3.out (by have:=HL3.out;have:=HLT.out;omega));have HS9:=h! (hx2.blk HS9.out (by have:=HL9.out;have:=HLT.out;omega));have hk0:(0:Int)<=(k3:Int):=by omega
  have hk1:(k3:Int)<3:=hk2;clear hk2;have HT:=h! ht2;have hE:=h! hX2;clear hx2 hX2 ht2;refine t! 5 ?_
  clear hk0 hk1;refine o! 6 ?_
  obtain⟨sid,hsz,h6⟩:∃ sid:ByteArray,sid.size<=maxLen/\u3.cell? ⟨b3,k3,none⟩=some (.string sid):=by
   have h6:=HB3.out.cells;have hk:=HK3.out;obtain rfl | rfl | rfl:k3=0\/k3=1\/k3=2:=by omega
   ·exact⟨⟨#[49]⟩,by decide,h6 0⟩
   ·exact⟨⟨#[50]⟩,by decide,h6 1⟩
   ·exact⟨⟨#[51]⟩,by decide,h6 2⟩
  have HSZ:=h! hsz;refine b! ?_;intro K hK;go_simp;refine hK.out _ _ hE.out ?_;clear hK h6 hsz;obtain⟨u4,hw3⟩:∃ x,x=u3:=⟨_,rfl⟩;rw[<- hw3]at hE HT HB3 ⊢;rw[<- hw3]at HS9;clear hw3;(refine WalkN.tk [7,8] ?_;(iterate 2 (refine c! ?_));refine TkN.n ?_)
  rotate_left
  refine b! ?_;intro K hK;go_simp;refine(next_any tp 3 wd HT.out (by decide) (by decide)).mono ?_;rintro e u1 ⟨k3,rfl,hk0,ht0,hx0⟩;have hX0:=KT.trans hE.out hx0;refine hK.out _ _ hX0 ?_;clear hK;have HK3:=h! hk0;clear hk0;have HT:=h! ht0;have hE:=h! hX0;clear hx0 hX0 ht0;refine p! 2 9 ?_ ?_;refine b! ?_;intro K hK;go_simp;obtain⟨b3,hb3⟩:∃ x,x=u1.heap.size:=⟨_,rfl⟩;rw[<- hb3];have hA1:=Ext.alloc u1 (.cells #[.string ⟨#[49]⟩,.string ⟨#[50]⟩,.string ⟨#[51]⟩] 9);have hO1:Blk (u1.alloc (.cells #[.string ⟨#[49]⟩,.string ⟨#[50]⟩,.string ⟨#[51]⟩] 9)) b3 #[.string ⟨#[49]⟩,.string ⟨#[50]⟩,.string ⟨#[51]⟩] 9:=by rw[hb3];exact Blk.made _ _ _
  have hX1:=KT.trans hE.out (KT.of hA1);have HL3:=h! (show wd.heap.size<=b3 from by have:=hE.out.size;omega);have ht1:=HT.out.ext hA1;refine hK.out _ _ hX1 ?_;clear hK hb3 hA1;generalize u1.alloc (.cells #[.string ⟨#[49]⟩,.string ⟨#[50]⟩,.string ⟨#[51]⟩] 9)=u2 at *;have hE:=h! hX1;have HT:=h! ht1;have HB3:=h! hO1;clear hO1 hX1 ht1;have hk0:(0:Int)<=(k3:Int):=by omega
  have hk1:(k3:Int)<3:=HK3.out;refine t! 5 ?_
  clear hk0 hk1;refine p! 6 9 ?_ ?_
  obtain⟨sid,hsz,h6⟩:∃ sid:ByteArray,sid.size<=maxLen/\u2.cell? ⟨b3,k3,none⟩=some (.string sid):=by
   have h6:=HB3.out.cells;have hk:=HK3.out;obtain rfl | rfl | rfl:k3=0\/k3=1\/k3=2:=by omega
   ·exact⟨⟨#[49]⟩,by decide,h6 0⟩
   ·exact⟨⟨#[50]⟩,by decide,h6 1⟩
   ·exact⟨⟨#[51]⟩,by decide,h6 2⟩
  have HSZ:=h! hsz;refine b! ?_;intro K hK;go_simp;refine hK.out _ _ hE.out ?_;clear hK h6 hsz;obtain⟨u3,hw2⟩:∃ x,x=u2:=⟨_,rfl⟩;rw[<- hw2]at hE HT HB3 ⊢;clear hw2;(refine WalkN.tk [7,8] ?_;(iterate 2 (refine c! ?_));refine TkN.n ?_)
  refine o! 9 ?_;refine b! ?_;intro K hK;go_simp;obtain⟨b9,hb9⟩:∃ x,x=u3.heap.size:=⟨_,rfl⟩;rw[<- hb9];have hA3:=Ext.alloc u3 (.cells #[.string ⟨#[]⟩,.string ⟨#[]⟩,.string ⟨#[]⟩] 33);have hO3:Blk (u3.alloc (.cells #[.string ⟨#[]⟩,.string ⟨#[]⟩,.string ⟨#[]⟩] 33)) b9 #[.string ⟨#[]⟩,.string ⟨#[]⟩,.string ⟨#[]⟩] 33:=by rw[hb9];exact Blk.made _ _ _
  have hX3:=KT.trans hE.out (KT.of hA3);have HL9:=h! (show wd.heap.size<=b9 from by have:=hE.out.size;omega);have HB3:=h! (HB3.out.below hA3);have ht3:=HT.out.ext hA3;refine hK.out _ _ hX3 ?_;clear hK hb9 hA3;generalize u3.alloc (.cells #[.string ⟨#[]⟩,.string ⟨#[]⟩,.string ⟨#[]⟩] 33)=u4 at *;have hE:=h! hX3;have HT:=h! ht3;have HS9:=h! hO3;clear hO3 hX3 ht3;rotate_left
  refine b! ?_;intro K hK;go_simp;obtain⟨b9,hb9⟩:∃ x,x=u2.heap.size:=⟨_,rfl⟩;rw[<- hb9];have hA2:=Ext.alloc u2 (.cells #[.string ⟨#[]⟩,.string ⟨#[]⟩,.string ⟨#[]⟩] 33);have hO2:Blk (u2.alloc (.cells #[.string ⟨#[]⟩,.string ⟨#[]⟩,.string ⟨#[]⟩] 33)) b9 #[.string ⟨#[]⟩,.string ⟨#[]⟩,.string ⟨#[]⟩] 33:=by rw[hb9];exact Blk.made _ _ _
  have hX2:=KT.trans hE.out (KT.of hA2);have HL9:=h! (show wd.heap.size<=b9 from by have:=hE.out.size;omega);have HB3:=h! (HB3.out.below hA2);have ht2:=HT.out.ext hA2;refine hK.out _ _ hX2 ?_;clear hK hb9 hA2;generalize u2.alloc (.cells #[.string ⟨#[]⟩,.string ⟨#[]⟩,.string ⟨#[]⟩] 33)=u3 at *;have hE:=h! hX2;have HT:=h! ht2;have HS9:=h! hO2;clear hO2 hX2 ht2;refine o! 6 ?_
  obtain⟨sid,hsz,h6⟩:∃ sid:ByteArray,sid.size<=maxLen/\u3.cell? ⟨b3,k3,none⟩=some (.string sid):=by
   have h6:=HB3.out.cells;have hk:=HK3.out;obtain rfl | rfl | rfl:k3=0\/k3=1\/k3=2:=by omega
   ·exact⟨⟨#[49]⟩,by decide,h6 0⟩
   ·exact⟨⟨#[50]⟩,by decide,h6 1⟩
   ·exact⟨⟨#[51]⟩,by decide,h6 2⟩
  have HSZ:=h! hsz;refine b! ?_;intro K hK;go_simp;refine hK.out _ _ hE.out ?_;clear hK h6 hsz;obtain⟨u4,hw3⟩:∃ x,x=u3:=⟨_,rfl⟩;rw[<- hw3]at hE HT HB3 ⊢;rw[<- hw3]at HS9;clear hw3;(refine WalkN.tk [7,8] ?_;(iterate 2 (refine c! ?_));refine TkN.n ?_)
  rotate_left
  refine b! ?_;intro K hK;go_simp;obtain⟨b9,hb9⟩:∃ x,x=u1.heap.size:=⟨_,rfl⟩;rw[<- hb9];have hA1:=Ext.alloc u1 (.cells #[.string ⟨#[]⟩,.string ⟨#[]⟩,.string ⟨#[]⟩] 33);have hO1:Blk (u1.alloc (.cells #[.string ⟨#[]⟩,.string ⟨#[]⟩,.string ⟨#[]⟩] 33)) b9 #[.string ⟨#[]⟩,.string ⟨#[]⟩,.string ⟨#[]⟩] 33:=by rw[hb9];exact Blk.made _ _ _
  have hX1:=KT.trans hE.out (KT.of hA1);have HL9:=h! (show wd.heap.size<=b9 from by have:=hE.out.size;omega);have ht1:=HT.out.ext hA1;refine hK.out _ _ hX1 ?_;clear hK hb9 hA1;generalize u1.alloc (.cells #[.string ⟨#[]⟩,.string ⟨#[]⟩,.string ⟨#[]⟩] 33)=u2 at *;have hE:=h! hX1;have HT:=h! ht1;have HS9:=h! hO1;clear hO1 hX1 ht1;refine o! 2 ?_;refine b! ?_;intro K hK;go_simp;obtain⟨b3,hb3⟩:∃ x,x=u2.heap.size:=⟨_,rfl⟩;rw[<- hb3];have hA2:=Ext.alloc u2 (.cells #[.string ⟨#[49]⟩,.string ⟨#[50]⟩,.string ⟨#[51]⟩] 9);have hO2:Blk (u2.alloc (.cells #[.string ⟨#[49]⟩,.string ⟨#[50]⟩,.string ⟨#[51]⟩] 9)) b3 #[.string ⟨#[49]⟩,.string ⟨#[50]⟩,.string ⟨#[51]⟩] 9:=by rw[hb3];exact Blk.made _ _ _
  have hX2:=KT.trans hE.out (KT.of hA2);have HL3:=h! (show wd.heap.size<=b3 from by have:=hE.out.size;omega);have HS9:=h! (HS9.out.below hA2);have ht2:=HT.out.ext hA2;refine hK.out _ _ hX2 ?_;clear hK hb3 hA2;generalize u2.alloc (.cells #[.string ⟨#[49]⟩,.string ⟨#[50]⟩,.string ⟨#[51]⟩] 9)=u3 at *;have hE:=h! hX2;have HT:=h! ht2;have HB3:=h! hO2;clear hO2 hX2 ht2;have hk0:(0:Int)<=(k3:Int):=by omega
  have hk1:(k3:Int)<3:=HK3.out;refine t! 5 ?_
  clear hk0 hk1;refine o! 6 ?_
  obtain⟨sid,hsz,h6⟩:∃ sid:ByteArray,sid.size<=maxLen/\u3.cell? ⟨b3,k3,none⟩=some (.string sid):=by
   have h6:=HB3.out.cells;have hk:=HK3.out;obtain rfl | rfl | rfl:k3=0\/k3=1\/k3=2:=by omega
   ·exact⟨⟨#[49]⟩,by decide,h6 0⟩
   ·exact⟨⟨#[50]⟩,by decide,h6 1⟩
   ·exact⟨⟨#[51]⟩,by decide,h6 2⟩
  have HSZ:=h! hsz;refine b! ?_;intro K hK;go_simp;refine hK.out _ _ hE.out ?_;clear hK h6 hsz;obtain⟨u4,hw3⟩:∃ x,x=u3:=⟨_,rfl⟩;rw[<- hw3]at hE HT HB3 ⊢;rw[<- hw3]at HS9;clear hw3;(refine WalkN.tk [7,8] ?_;(iterate 2 (refine c! ?_));refine TkN.n ?_)
  rotate_left
  refine b! ?_;intro K hK;go_simp;obtain⟨b9,hb9⟩:∃ x,x=wd.heap.size:=⟨_,rfl⟩;rw[<- hb9];have hA0:=Ext.alloc wd (.cells #[.string ⟨#[]⟩,.string ⟨#[]⟩,.string ⟨#[]⟩] 33);have hO0:Blk (wd.alloc (.cells #[.string ⟨#[]⟩,.string ⟨#[]⟩,.string ⟨#[]⟩] 33)) b9 #[.string ⟨#[]⟩,.string ⟨#[]⟩,.string ⟨#[]⟩] 33:=by rw[hb9];exact Blk.made _ _ _
  have hX0:=KT.trans hE.out (KT.of hA0);have HL9:=h! (show wd.heap.size<=b9 from by have:=hE.out.size;omega);have ht0:=HT.out.ext hA0;refine hK.out _ _ hX0 ?_;clear hK hb9 hA0;generalize wd.alloc (.cells #[.string ⟨#[]⟩,.string ⟨#[]⟩,.string ⟨#[]⟩] 33)=u1 at *;have hE:=h! hX0;have HT:=h! ht0;have HS9:=h! hO0;clear hO0 hX0 ht0;refine p! 2 4 ?_ ?_;refine b! ?_;intro K hK;go_simp;obtain⟨b3,hb3⟩:∃ x,x=u1.heap.size:=⟨_,rfl⟩;rw[<- hb3];have hA1:=Ext.alloc u1 (.cells #[.string ⟨#[49]⟩,.string ⟨#[50]⟩,.string ⟨#[51]⟩] 9);have hO1:Blk (u1.alloc (.cells #[.string ⟨#[49]⟩,.string ⟨#[50]⟩,.string ⟨#[51]⟩] 9)) b3 #[.string ⟨#[49]⟩,.string ⟨#[50]⟩,.string ⟨#[51]⟩] 9:=by rw[hb3];exact Blk.made _ _ _
  have hX1:=KT.trans hE.out (KT.of hA1);have HL3:=h! (show wd.heap.size<=b3 from by have:=hE.out.size;omega);have HS9:=h! (HS9.out.below hA1);have ht1:=HT.out.ext hA1;refine hK.out _ _ hX1 ?_;clear hK hb3 hA1;generalize u1.alloc (.cells #[.string ⟨#[49]⟩,.string ⟨#[50]⟩,.string ⟨#[51]⟩] 9)=u2 at *;have hE:=h! hX1;have HT:=h! ht1;have HB3:=h! hO1;clear hO1 hX1 ht1;refine o! 4 ?_;refine b! ?_;intro K hK;go_simp;refine(next_any tp 3 u2 HT.out (by decide) (by decide)).mono ?_;rintro e u3 ⟨k3,rfl,hk2,ht2,hx2⟩;have hX2:=KT.trans hE.out hx2;refine hK.out _ _ hX2 ?_;clear hK;have HK3:=h! hk2;have HB3:=h! (hx2.blk HB3.out (by have:=HL3.out;have:=HLT.out;omega));have HS9:=h! (hx2.blk HS9.out (by have:=HL9.out;have:=HLT.out;omega));have hk0:(0:Int)<=(k3:Int):=by omega
  have hk1:(k3:Int)<3:=hk2;clear hk2;have HT:=h! ht2;have hE:=h! hX2;clear hx2 hX2 ht2;refine t! 5 ?_
  clear hk0 hk1;refine o! 6 ?_
  obtain⟨sid,hsz,h6⟩:∃ sid:ByteArray,sid.size<=maxLen/\u3.cell? ⟨b3,k3,none⟩=some (.string sid):=by
   have h6:=HB3.out.cells;have hk:=HK3.out;obtain rfl | rfl | rfl:k3=0\/k3=1\/k3=2:=by omega
   ·exact⟨⟨#[49]⟩,by decide,h6 0⟩
   ·exact⟨⟨#[50]⟩,by decide,h6 1⟩
   ·exact⟨⟨#[51]⟩,by decide,h6 2⟩
  have HSZ:=h! hsz;refine b! ?_;intro K hK;go_simp;refine hK.out _ _ hE.out ?_;clear hK h6 hsz;obtain⟨u4,hw3⟩:∃ x,x=u3:=⟨_,rfl⟩;rw[<- hw3]at hE HT HB3 ⊢;rw[<- hw3]at HS9;clear hw3;(refine WalkN.tk [7,8] ?_;(iterate 2 (refine c! ?_));refine TkN.n ?_)
  rotate_left
  refine b! ?_;intro K hK;go_simp;refine(next_any tp 3 u1 HT.out (by decide) (by decide)).mono ?_;rintro e u2 ⟨k3,rfl,hk1,ht1,hx1⟩;have hX1:=KT.trans hE.out hx1;refine hK.out _ _ hX1 ?_;clear hK;have HK3:=h! hk1;have HS9:=h! (hx1.blk HS9.out (by have:=HL9.out;have:=HLT.out;omega));clear hk1;have HT:=h! ht1;have hE:=h! hX1;clear hx1 hX1 ht1;refine o! 2 ?_;refine b! ?_;intro K hK;go_simp;obtain⟨b3,hb3⟩:∃ x,x=u2.heap.size:=⟨_,rfl⟩;rw[<- hb3];have hA2:=Ext.alloc u2 (.cells #[.string ⟨#[49]⟩,.string ⟨#[50]⟩,.string ⟨#[51]⟩] 9);have hO2:Blk (u2.alloc (.cells #[.string ⟨#[49]⟩,.string ⟨#[50]⟩,.string ⟨#[51]⟩] 9)) b3 #[.string ⟨#[49]⟩,.string ⟨#[50]⟩,.string ⟨#[51]⟩] 9:=by rw[hb3];exact Blk.made _ _ _
  have hX2:=KT.trans hE.out (KT.of hA2);have HL3:=h! (show wd.heap.size<=b3 from by have:=hE.out.size;omega);have HS9:=h! (HS9.out.below hA2);have ht2:=HT.out.ext hA2;refine hK.out _ _ hX2 ?_;clear hK hb3 hA2;generalize u2.alloc (.cells #[.string ⟨#[49]⟩,.string ⟨#[50]⟩,.string ⟨#[51]⟩] 9)=u3 at *;have hE:=h! hX2;have HT:=h! ht2;have HB3:=h! hO2;clear hO2 hX2 ht2;have hk0:(0:Int)<=(k3:Int):=by omega
  have hk1:(k3:Int)<3:=HK3.out;refine t! 5 ?_
  clear hk0 hk1;refine o! 6 ?_
  obtain⟨sid,hsz,h6⟩:∃ sid:ByteArray,sid.size<=maxLen/\u3.cell? ⟨b3,k3,none⟩=some (.string sid):=by
   have h6:=HB3.out.cells;have hk:=HK3.out;obtain rfl | rfl | rfl:k3=0\/k3=1\/k3=2:=by omega
   ·exact⟨⟨#[49]⟩,by decide,h6 0⟩
   ·exact⟨⟨#[50]⟩,by decide,h6 1⟩
   ·exact⟨⟨#[51]⟩,by decide,h6 2⟩
  have HSZ:=h! hsz;refine b! ?_;intro K hK;go_simp;refine hK.out _ _ hE.out ?_;clear hK h6 hsz;obtain⟨u4,hw3⟩:∃ x,x=u3:=⟨_,rfl⟩;rw[<- hw3]at hE HT HB3 ⊢;rw[<- hw3]at HS9;clear hw3;(refine WalkN.tk [7,8] ?_;(iterate 2 (refine c! ?_));refine TkN.n ?_)
  rotate_left
  all_goals
   refine o! 10 ?_;refine b! ?_;intro K hK;have cp:=HS9.out.cells;have fp:=HS9.out.free;go_simp;have hS10:=(HS9.out.set_to (cs':=#[.string nm,.string ⟨#[]⟩,.string ⟨#[]⟩]) 0 (.string nm) rfl).set_to (cs':=#[.string nm,.string sid,.string ⟨#[]⟩]) 1 (.string sid) rfl |>.set_to (cs':=#[.string nm,.string sid,.string ⟨#[]⟩]) 2 (.string ⟨#[]⟩) rfl;have hX10:KT tp wd (((u4.setCell ⟨b9,0,none⟩ (.string nm)).setCell ⟨b9,1,none⟩ (.string sid)).setCell ⟨b9,2,none⟩ (.string ⟨#[]⟩)):=((Kept.set hE.out (a:=⟨b9,0,none⟩) (fun e=>by have:=HL9.out;have:=e.1;dsimp only at this;omega) (.string nm)).set (a:=⟨b9,1,none⟩) (fun e=>by have:=HL9.out;have:=e.1;dsimp only at this;omega) (.string sid)).set (a:=⟨b9,2,none⟩) (fun e=>by have:=HL9.out;have:=e.1;dsimp only at this;omega) (.string ⟨#[]⟩);have hT10:Tp (((u4.setCell ⟨b9,0,none⟩ (.string nm)).setCell ⟨b9,1,none⟩ (.string sid)).setCell ⟨b9,2,none⟩ (.string ⟨#[]⟩)) tp:=HT.out.kept (K:=fun b=>b≠b9) ((((Kept.refl _ u4).set (a:=⟨b9,0,none⟩) (fun e=>e rfl) (.string nm)).set (a:=⟨b9,1,none⟩) (fun e=>e rfl) (.string sid)).set (a:=⟨b9,2,none⟩) (fun e=>e rfl) (.string ⟨#[]⟩)) (fun b hb=>by have:=HL9.out;have:=HLT.out;omega);refine hK.out _ _ hX10 ?_;clear hK cp fp;refine d! ?_;exact⟨rfl,b3,k3,b9,sid,rfl,hX10,hT10,hS10,HL9.out,HSZ.out⟩
 rintro e _ W2 ⟨rfl,b3,k3,b9,sid,rfl,hX2,hT2,hS2,hL9,hsz⟩;have HXE:=h! (show KT tp w W2 from KT.trans HXW.out (KT.trans (KT.of hxd.out) hX2));have HRB:=h! (hX2.blk (HPB.out.below hxd.out) HPN.out);have HB7:=h! (hX2.blk (HB7.out.below hxd.out) HN7.out.1);have HT:=h! hT2;have HS9:=h! hS2;have HL9:=h! (show w.heap.size+1<b9/\b9≠tp from by have:=HPB.out.lt;have:=hxd.out.size;have:=HLT.out;omega);have HSZ:=h! hsz;have HRQ:=h! (HRR.out.ext HLL.out (KT.trans (KT.of hxd.out) hX2));clear hX2 hT2 hS2 hL9 hsz hxd hwd HRR HPB HXW HLT HLL HLL0;dsimp only;have HNE:=h! (next_any tp 5 W2 HT.out (by decide) (by decide));go_wp2_with fail
 refine HNE.out.mono ?_;rintro e W3 ⟨k5,rfl,hk5,ht5,hx5⟩;have HRQ:=h! (HRQ.out.ext HXE.out.size hx5);have HXE:=h! (KT.trans HXE.out hx5);have HRB:=h! (hx5.blk HRB.out HPN.out);have HB7:=h! (hx5.blk HB7.out HN7.out.1);have HS9:=h! (hx5.blk HS9.out HL9.out.2);have HT:=h! ht5;clear ht5 hx5 HNE;by_cases h1:k5=1
 ·subst h1;go_wp2_with fail
  obtain⟨wd,hwd⟩:∃ wd,Hid (wd=W3.drew):=⟨_,h! rfl⟩;have hxd:=h! (show Ext W3 wd from by rw[hwd.out];exact Ext.drew _);have HLT:=h! (Nat.lt_of_lt_of_le HT.out.lt hxd.out.size);have HT:=h! (HT.out.ext hxd.out);have HXE:=h! (KT.trans HXE.out (KT.of hxd.out));have HRQ:=h! (HRQ.out.ext (by have:=HXE.out.size;have:=HRQ.out.1.1;have:=hxd.out.size;have:=HL9.out.1;have:=HRB.out.lt;omega) (KT.of hxd.out));have HRB:=h! (HRB.out.below hxd.out);have HS9:=h! (HS9.out.below hxd.out);have hb7:=HB7.out.below hxd.out;have hE:=h! (show Kept (fun b=>b<wd.heap.size/\b≠tp/\b≠b9) wd wd from Kept.refl _ _);refine r! (Kept (fun b=>b<wd.heap.size/\b≠tp/\b≠b9) wd) (by rw[<- hwd.out];exact Kept.refl _ _) ?_;rw[<- hwd.out]
  have hb79:b7≠b9:=fun e=>by
   subst e;exact absurd (Option.some.inj ((show wd.heap[b7]?=_ from hb7).symm.trans HS9.out)) (by simp)
  have h7:∀ W,Kept (fun b=>b<wd.heap.size/\b≠tp/\b≠b9) wd W->∀ i,W.cell? ⟨b7,i,none⟩=(#[.string nm,.slice (some ⟨b2,off2,none⟩) m c2]:Array Value)[i]?:=fun W h=>(Kept.blk h hb7 ⟨hb7.lt,HN7.out.1,hb79⟩).cells;have hm0:(0:Int)<=(m:Int):=by omega
  (refine WalkN.tk [0,1,2,3,4,5] ?_;(iterate 6 (refine c! ?_));refine TkN.n ?_)
  clear h7 hb7;refine o! 6 ?_;refine b! ?_;intro K hK;go_simp;refine(next_any tp m wd HT.out (by have:=HM.out;omega) (by have:=HM.out;omega)).mono ?_;rintro e W4 ⟨k6,rfl,hk6,ht6,hx6⟩;refine hK.out _ _ (hx6.mono fun b hb=>⟨hb.1,hb.2.1⟩) ?_;clear hK;have hkm:k6<m:=by have:=HM.out;omega
  have hk0:(0:Int)<=(k6:Int):=by omega
  obtain⟨rn,hrn,hrz⟩:=HRQ.out.2 k6 hkm;have HRZ:=h! hrz;have g0:∀ W,Kept (fun b=>b<wd.heap.size/\b≠tp/\b≠b9) wd W->W.cell? ⟨b2,off2+k6*5,none⟩=some (.string rn):=fun W h=>Kept.cell h ⟨by have h1:=HRQ.out.1.1;have h2:=HXE.out.size;show b2<_;omega,HRQ.out.1.2,by have h1:=HRQ.out.1.1;have h2:=HL9.out.1;show b2≠b9;omega⟩ hrn;(refine WalkN.tk [7,8,9,10] ?_;(iterate 4 (refine c! ?_));refine TkN.n ?_)
  clear g0 hkm hk0 hrn hrz hm0;have HS9:=h! (hx6.blk HS9.out HL9.out.2);have HRB:=h! (hx6.blk HRB.out HPN.out);have HXE:=h! (KT.trans HXE.out hx6);have cp:=HS9.out.cells;have fp:=HS9.out.free;refine o! 11 ?_;refine b! ?_;intro K hK;go_simp;refine hK.out _ _ ((hx6.mono fun b hb=>⟨hb.1,hb.2.1⟩).set (a:=⟨b9,2,none⟩) (fun h=>h.2.2 rfl) _) ?_;clear hK cp fp;refine d! ?_;obtain⟨W5,hW5⟩:∃ y,y=W4.setCell ⟨b9,2,none⟩ (.string rn):=⟨_,rfl⟩;have HT:=h! (show Tp W5 tp from by rw[hW5];exact ht6.kept (K:=fun b=>b≠b9) ((Kept.refl _ W4).set (a:=⟨b9,2,none⟩) (fun e=>e rfl) _) (fun b hb=>by have:=HL9.out;have:=HL0.out;omega));have HXE:=h! (show KT tp w W5 from by rw[hW5];exact Kept.set HXE.out (a:=⟨b9,2,none⟩) (fun e=>by have:=e.1;have:=HL9.out.1;dsimp only at *;omega) _);have HRB:=h! (show Blk W5 (w.heap.size+1) #[.string ⟨#[]⟩,.string ⟨#[]⟩,.string ⟨#[]⟩] 33 from by rw[hW5];exact(Below.heap_setCell _ _ _ _ (by have:=HL9.out.1;show w.heap.size+1≠b9;omega)).trans HRB.out);have HS9:=h! (show Blk W5 b9 #[.string nm,.string sid,.string rn] 33 from by rw[hW5];exact HS9.out.set_to 2 _ rfl);rw[<- hW5];clear hW5 hx6 ht6 HRQ hwd hxd hE;have hc9:=HS9.out.cells;have hr:=HRB.out.cells;have hrf:=HRB.out.free;have HR9:=h! ((HRB.out.set_to (cs':=#[.string nm,.string ⟨#[]⟩,.string ⟨#[]⟩]) 0 (.string nm) rfl).set_to (cs':=#[.string nm,.string sid,.string ⟨#[]⟩]) 1 (.string sid) rfl |>.set_to (cs':=#[.string nm,.string sid,.string rn]) 2 (.string rn) rfl);have HK9:=h! (((Kept.set HXE.out (a:=⟨w.heap.size+1,0,none⟩) (fun e=>by have:=e.1;dsimp only at this;omega) (.string nm)).set (a:=⟨w.heap.size+1,1,none⟩) (fun e=>by have:=e.1;dsimp only at this;omega) (.string sid)).set (a:=⟨w.heap.size+1,2,none⟩) (fun e=>by have:=e.1;dsimp only at this;omega) (.string rn));have HT9:=h! (HT.out.kept (K:=fun b=>b≠w.heap.size+1) ((((Kept.refl _ W5).set (a:=⟨w.heap.size+1,0,none⟩) (fun e=>e rfl) (.string nm)).set (a:=⟨w.heap.size+1,1,none⟩) (fun e=>e rfl) (.string sid)).set (a:=⟨w.heap.size+1,2,none⟩) (fun e=>e rfl) (.string rn)) (fun b hb=>by have:=HL0.out;omega));go_wp2_with fail
  refine bodyPost_ret (results_cell_row rfl _ _ (w.heap.size+1) 33 #[.string nm,.string sid,.string rn] (0,0) _ rfl HR9.out Tryz.underlying33 rfl (by kernel_rfl)) rfl ?_;exact⟨⟨nm,sid,rn⟩,rfl,⟨HNZ.out,HSZ.out,HRZ.out⟩,HT9.out,HK9.out⟩
 ·have hkb:((k5:Int) == 1)=false:=by rw[beq_eq_false_iff_ne];omega
  clear h1 hk5;have hc9:=HS9.out.cells;have hr:=HRB.out.cells;have hrf:=HRB.out.free;have HR9:=h! ((HRB.out.set_to (cs':=#[.string nm,.string ⟨#[]⟩,.string ⟨#[]⟩]) 0 (.string nm) rfl).set_to (cs':=#[.string nm,.string sid,.string ⟨#[]⟩]) 1 (.string sid) rfl |>.set_to (cs':=#[.string nm,.string sid,.string ⟨#[]⟩]) 2 (.string ⟨#[]⟩) rfl);have HK9:=h! (((Kept.set HXE.out (a:=⟨w.heap.size+1,0,none⟩) (fun e=>by have:=e.1;dsimp only at this;omega) (.string nm)).set (a:=⟨w.heap.size+1,1,none⟩) (fun e=>by have:=e.1;dsimp only at this;omega) (.string sid)).set (a:=⟨w.heap.size+1,2,none⟩) (fun e=>by have:=e.1;dsimp only at this;omega) (.string ⟨#[]⟩));have HT9:=h! (HT.out.kept (K:=fun b=>b≠w.heap.size+1) ((((Kept.refl _ W3).set (a:=⟨w.heap.size+1,0,none⟩) (fun e=>e rfl) (.string nm)).set (a:=⟨w.heap.size+1,1,none⟩) (fun e=>e rfl) (.string sid)).set (a:=⟨w.heap.size+1,2,none⟩) (fun e=>e rfl) (.string ⟨#[]⟩)) (fun b hb=>by have:=HL0.out;omega));go_wp2_with fail
  refine bodyPost_ret (results_cell_row rfl _ _ (w.heap.size+1) 33 #[.string nm,.string sid,.string ⟨#[]⟩] (0,0) _ rfl HR9.out Tryz.underlying33 rfl (by kernel_rfl)) rfl ?_;exact⟨⟨nm,sid,⟨#[]⟩⟩,rfl,⟨HNZ.out,HSZ.out,Nat.zero_le _⟩,HT9.out,HK9.out⟩
end Go.Proofs.YtlhaghoajpglaaaGreat
