/- Lemmas for the claim, no condition. -/
import GoSem.PinnedTables
import Derived.Deep.DeepHandedRow
import Derived.Lib.SmallJoins
import Derived.Test.YtlhaghoajpglaaaGreatYLkObj20
import GoSem.PinnedTables
set_option maxRecDepth 100000
set_option maxHeartbeats 8000000
namespace Go.Proofs.YtlhaghoajpglaaaGreat
open Go Go.RowKit Go.Maps Go.Proofs.Tryz
theorem hK! {w:World}{B:Nat}{v:Value}{L:List Int}(h:Own w B 3 1 v (ic L))(hL:0<L.length):∃g c,v= .slice (some ⟨g,0,none⟩) L.length c/\w.cell? ⟨g,0,none⟩=some (.int .i64 (L.getD 0 0)):=by
 obtain⟨g,c,cs,rfl,-,hB,-,-,a0⟩:=h.lay (by
  intro e;have:=congrArg List.length e;rw[ad!,v6!]at this;omega)
 have h1:0<(ic L).length:=by rw[ad!];exact hL
 refine⟨g,c,by rw[ad!],?_⟩;rw[hB.cells 0,a0 0 h1];simp only[ic,List.getElem_map];rw[n8!,n4! hL];rfl
theorem ld! (v1 v2:Value)(l:List O2)(w:World)(h1:Sl (· < w.heap.size) w 2 v1 (ocs l))(h2:Sl (· < w.heap.size) w 2 v2 (ocs l)):Calls prog 62 #[v1,v2] w fun e w'=>e= .returned (.bool true)/\Below w.heap.size w w':=by
 obtain⟨ao,c,rfl,a4,a3,q⟩:=Sl.rows aC! (by decide) (show Sl _ w 2 v1 (List.flatMap oC l)from h1);obtain⟨a5,c2,rfl,a2,a0,j⟩:=Sl.rows aC! (by decide) (show Sl _ w 2 v2 (List.flatMap oC l)from h2);have HC:=h! q;have a1:=h! j;clear q j h1 h2;go_enter func62,ntmps62
 go_wp2_with fail
 go_loopw [13] (fun ii wr=>∃i:Nat,i<=l.length/\ii= .int .i64 i/\Below w.heap.size w wr) (fun ii _=>l.length-(intOf ii).toNat)
 case atStart=>exact⟨0,by omega,rfl,Below.refl _ _⟩
 case round =>
  obtain⟨i,hi,rfl,g⟩:=hrel;by_cases hlt:i<l.length
  ·obtain⟨b,k,rfl,hb,q⟩:=HC.out (by omega);obtain⟨s,f,rfl,o,j⟩:=a1.out (by omega);have t:=q i hlt 0 _ rfl;have c1:=q i hlt 1 _ rfl;have r:=j i hlt 0 _ rfl;have e1:=j i hlt 1 _ rfl;clear q j;generalize l[i]=x at *;obtain⟨xt,xi⟩:=x;rw[Nat.add_zero]at t r;dsimp only at t c1 r e1;go_wp2_with fail
   obtain⟨u,m⟩:=e! wr.drew;have a:=g.drew;rw[<-m]at a;refine re! m ?_;clear m g;have g0:∀W,Ext u W->W.cell? ⟨b,k+i*2,none⟩=some (.string xt):=fun W h=>((Below.cell (a.trans (h.mono a.size)) (p:=⟨b,k+i*2,none⟩) hb)).trans t;have g1:∀W,Ext u W->W.cell? ⟨b,k+i*2+1,none⟩=some (.string xi):=fun W h=>((Below.cell (a.trans (h.mono a.size)) (p:=⟨b,k+i*2+1,none⟩) hb)).trans c1;have k0:∀W,Ext u W->W.cell? ⟨s,f+i*2,none⟩=some (.string xt):=fun W h=>((Below.cell (a.trans (h.mono a.size)) (p:=⟨s,f+i*2,none⟩) o)).trans r;have k1:∀W,Ext u W->W.cell? ⟨s,f+i*2+1,none⟩=some (.string xi):=fun W h=>((Below.cell (a.trans (h.mono a.size)) (p:=⟨s,f+i*2+1,none⟩) o)).trans e1;(refine WalkN.tk [0,1,2,3,4,5,6,7,8] ?_;(iterate 9 (refine c! ?_));refine TkN.n ?_)
   refine d! ?_;clear t c1 r e1 g0 g1 k0 k1;go_wp2_with fail
   go_roundw
   case rel=>exact⟨i+1,by omega,by go_num,a⟩
   case measure=>simp[intOf];omega
  ·obtain rfl:i=l.length:=by omega
   go_wp2_with fail
   go_ret
   exact⟨rfl,g⟩
theorem de! (ts:List TyS)(tv:Value)(T:List Tup)(setv:Value)(shut:List R2)(sv:Value)(rt rr:ByteArray)(s:P3)(most:Int)(w:World)(h:pU! (· < w.heap.size) w ts tv)(hc:chk06 ts=0)(hset:Sl (· < w.heap.size) w 6 setv (tuCs T))(hT:T.length<=40000)(hsv:Sl (· < w.heap.size) w 2 sv (shut.flatMap r2C))(hsl:shut.length<=1099511627776)(hin:∀o,o.t=rt->ObjIn T o->gC! ts T shut ⟨o.t,o.i,rr⟩ 1000000) :
  Calls prog 64 #[.agg #[tv],setv,sv,r2V ⟨rt,rr⟩,pV s,.int .i64 most] w fun e w'=>gD! ts T shut rt rr s most (.bool true) (.bool false) e w'/\Ext w w':=by
 have ae:=h! hin;have HC:=h! hc;have HT:=h! hT;have aa:=h! hsl;obtain⟨ao,c,rfl,-⟩:=h.rows;obtain⟨so,sc,rfl,-⟩:=Sl.rows aO! (by decide) hsv;obtain⟨to,tc,rfl,-⟩:=Sl.rows at! (by decide) (show Sl _ w 6 setv (T.flatMap tuC)from hset);obtain⟨wa,D⟩:=e! (w.alloc (.cells #[.slice ao ts.length c] 26));obtain⟨wb,C⟩:=e! (wa.alloc (.cells #[.string rt,.string rr] 121));obtain⟨wc,I⟩:=e! (wb.alloc (.cells #[.string s.t,.string s.i,.string s.r] 33));have ea:wa.heap.size=w.heap.size+1:=by rw[D];simp
 have eb:wb.heap.size=w.heap.size+1+1:=by rw[C];simp[ea]
 have xa:Ext w wa:=xa! D
 have xb:Ext wa wb:=xa! C
 have xc:Ext wb wc:=xa! I
 have XC:Hid (Ext w wc):=h! (xa.trans (xb.trans xc));have CS:=h! (show Blk wc w.heap.size #[.slice ao ts.length c] 26 from Blk.below (bm! D) (xb.trans xc));have CR:=h! (show Blk wc (w.heap.size+1) #[.string rt,.string rr] 121 from Blk.below (by rw[C,<-ea];exact Blk.made _ _ _) xc);have CU:=h! (show Blk wc (w.heap.size+1+1) #[.string s.t,.string s.i,.string s.r] 33 from by rw[I,<-eb];exact Blk.made _ _ _);have CT:=h! (h.up XC.out);have CE:=h! ((hset.same (Same.below XC.out)).mono fun _ hb=>n1! hb XC.out.size);have CV:=h! ((hsv.same (Same.below XC.out)).mono fun _ hb=>n1! hb XC.out.size);have a3:=h! (fv! (.slice to T.length tc) T rt wc CE.out HT.out);clear h hset hsv hsl hin hc hT ea eb xa xb xc;have cr:=CR.out.cells;unfold pV r2V;subst I C D;go_enter func64,ntmps64
 go_wp2_with fail
 clear cr;refine a3.out.mono ?_;rintro e w3 ⟨v,l,rfl,L,hm,ho,R⟩;have X3:Hid (Ext _ w3):=h! R;have HL:Hid (ObjsOf T rt l):=h! ⟨L,hm⟩
 have X:=h! (show l.length<=80000 from by
  have h1:=gR! (T:=T) L.nodup fun o ho=>((hm o).1 ho).2;have:=HT.out;omega)
 have a4:Hid (Ext w w3):=h! (XC.out.trans X3.out);have KS:=h! (CS.out.below X3.out);have KR:=h! (CR.out.below X3.out);have KU:=h! (CU.out.below X3.out);have KT:=h! (CT.out.up X3.out);have KE:=h! ((CE.out.same (Same.below X3.out)).mono fun _ hb=>n1! hb X3.out.size);have KV:=h! ((CV.out.same (Same.below X3.out)).mono fun _ hb=>n1! hb X3.out.size);obtain⟨vo,vc,rfl,-,-,f⟩:=Sl.rows aC! (by decide) (show Sl _ w3 2 v (l.flatMap oC)from ho.slU);have ah:=h! f;clear ho L hm R f a3 CS CR CU CT CE CV XC X3;go_wp2_with fail
 obtain⟨sb,Y⟩:∃x,Hid (x=w.heap.size):=⟨_,h! rfl⟩;obtain⟨rb,a8⟩:∃x,Hid (x=w.heap.size+1):=⟨_,h! rfl⟩;obtain⟨ub,U⟩:∃x,Hid (x=w.heap.size+1+1):=⟨_,h! rfl⟩;have KS:=h! (show Blk w3 sb _ _ from by rw[Y.out];exact KS.out);have KR:=h! (show Blk w3 rb _ _ from by rw[a8.out];exact KR.out);have KU:=h! (show Blk w3 ub _ _ from by rw[U.out];exact KU.out);rw[<-U.out,<-a8.out];try rw[<-Y.out]
 go_loopw [14,24] (fun ov jv wr=>∃i:Nat,i<=l.length/\jv= .int .i64 i/\Own wr w3.heap.size 30 2 ov (ocs ((l.take i).filter (denB ts T shut s rr)))/\(∀o∈l.take i,∃n,pW! ts T shut ⟨o.t,o.i,rr⟩ most n)/\Ext w3 wr) (fun _ jv _=>l.length-(intOf jv).toNat)
 case atStart=>exact⟨0,v1! _,rfl,by simpa [ocs] using Own.nil w3 w3.heap.size 30 2,(by simp),Ext.refl _⟩
 case round =>
  obtain⟨i,hi,rfl,q,p,hx⟩:=hrel;have HO:=h! q;have d:=h! p;have HX:=h! hx;clear q p hx;by_cases hlt:i<l.length
  ·have N:=h! (n2! hlt)
   have V:=h! (show((l.take i).filter (denB ts T shut s rr)).length<=80000 from by
    have h1:=x8! (denB ts T shut s rr) (l.take i);rw[x4!]at h1;have:=X.out;omega)
   have u:=h! ((HL.out.2 l[i]).1 (n5! hlt));have ab:=h! (n5! hlt);obtain⟨b2,k,rfl,ak,M⟩:=ah.out (by omega);have e0:=Ext.cell HX.out (M i hlt 0 _ rfl);have e1:=Ext.cell HX.out (M i hlt 1 _ rfl);have E:=h! hlt;have F:=h! (show wrap64 ((i:Int)+1)=((i+1:Nat):Int)from by have:=X.out;unfold wrap64;omega);have am:(i:Int)<(l.length:Int):=by omega
   clear M ak;generalize l[i]=o at *;clear hlt;obtain⟨ot,oi⟩:=o;dsimp only at e0 e1;have d0:wr.cell? ⟨b2,k+i*2,none⟩=some (.string ot):=e0;have d1:wr.cell? ⟨b2,k+i*2+1,none⟩=some (.string oi):=e1;clear e0 e1;have X4:=Ext.alloc wr (.cells #[.string ot,.string oi] 30);have BO:=h! (Blk.made wr #[.string ot,.string oi] 30);have a:Hid (Ext w3 _):=h! (HX.out.trans X4);have a0:=h! (HO.out.below X4);have a7:=h! (ae.out ⟨ot,oi⟩ u.out.1 u.out.2);have g:=h! (kI! ts (.slice ao ts.length c) T (.slice to T.length tc) shut (.slice so shut.length sc) ⟨ot,oi,rr⟩ most 1000000 _ (KT.out.up a.out) (kt! HC.out) ((KE.out.same (Same.below a.out)).mono fun _ hb=>n1! hb a.out.size) ((KV.out.same (Same.below a.out)).mono fun _ hb=>n1! hb a.out.size) aa.out a7.out);unfold pV at g;dsimp only at g;have c1:=(KS.out.below a.out).cells;have c2:=(KR.out.below a.out).cells;have c4:=BO.out.cells;clear X4;go_wp2_with fail
   clear c1 c2 c4 d0 d1;obtain⟨w4,H⟩:=e! (wr.alloc (.cells #[.string ot,.string oi] 30));rw[<-H]at BO a a0 g;try rw[<-H]
   clear H;refine g.out.mono ?_;rintro e w5 ⟨hx,ps,fs,po,pc,fo,fc,ev,⟨n,A,rfl,rfl,rfl⟩|⟨a5,rfl,rfl,rfl⟩,rfl,G⟩
   case' inr =>
    have ag:Hid (∃o∈l,bi! ts T shut ⟨o.t,o.i,rr⟩ most):=h! ⟨_,ab.out,a5⟩;have XE:Hid (Ext w (w5.alloc (.cells #[.slice po 0 pc,.slice fo 0 fc] 96))):=h! (a4.out.trans (a.out.trans (Ext.trans hx (Ext.alloc _ _))));clear a5 hx g G;go_wp2_with fail
    go_ret2
    exact⟨⟨l,HL.out,.inr ⟨ag.out,rfl⟩⟩,XE.out⟩
   case' inl =>
    have HE:=h! A;have j:=h! (show(walkN ts T shut ⟨ot,oi,rr⟩ n).1.length=n from A.2.symm);have HN:=h! (show n<=1000000 from by have:=a7.out.few n;rw[j.out]at this;exact this)
    have a2:=h! (show ∀o∈l.take (i+1),∃n,pW! ts T shut ⟨o.t,o.i,rr⟩ most n from fun o ho=>by
     rw[N.out]at ho;rcases u3!.1 ho with ho | ho
     ·exact d.out o ho
     ·rw[n9!.1 ho];exact⟨n,A⟩)
    have X6:=h! (Ext.alloc w5 (.cells #[.slice po (walkN ts T shut ⟨ot,oi,rr⟩ n).1.length pc,.slice fo (walkN ts T shut ⟨ot,oi,rr⟩ n).2.length fc] 96));have J:=h! (hL! s (walkN ts T shut ⟨ot,oi,rr⟩ n).1 (walkN ts T shut ⟨ot,oi,rr⟩ n).2 (.slice po (walkN ts T shut ⟨ot,oi,rr⟩ n).1.length pc) (.slice fo (walkN ts T shut ⟨ot,oi,rr⟩ n).2.length fc) _ ((G.same (w':=w5.alloc (.cells #[.slice po (walkN ts T shut ⟨ot,oi,rr⟩ n).1.length pc,.slice fo (walkN ts T shut ⟨ot,oi,rr⟩ n).2.length fc] 96)) fun b hb=>X6.out.block b hb.2).mono fun b hb=>n1! hb.2 X6.out.size) (by rw[j.out];exact HN.out));have Q:Hid (Ext w3 (w5.alloc (.cells #[.slice po (walkN ts T shut ⟨ot,oi,rr⟩ n).1.length pc,.slice fo (walkN ts T shut ⟨ot,oi,rr⟩ n).2.length fc] 96))):=h! (a.out.trans (Ext.trans hx X6.out));have cg:=(Blk.made w5 #[.slice po (walkN ts T shut ⟨ot,oi,rr⟩ n).1.length pc,.slice fo (walkN ts T shut ⟨ot,oi,rr⟩ n).2.length fc] 96).cells;have cu:=(KU.out.below Q.out).cells;have ai:=h! (BO.out.below (Ext.trans hx X6.out));have al:=h! (a0.out.below (Ext.trans hx X6.out));unfold pV at J;clear A hx G g d;go_wp2_with fail
    clear cg cu;refine J.out.mono ?_;rintro e w7 ⟨⟨v5,rfl,a1⟩,y⟩;have a6:Hid (Ext w3 w7):=h! (Q.out.trans y);have K:=h! (al.out.below y);have c7:=(ai.out.below y).cells;obtain⟨g5,an,rfl,k5⟩:=hK! a1 (by rw[j.out];show 0<(outN _ _ _ _).length;rw[aK!];exact HE.out.pos);rw[j.out]at k5;have B:=h! (show denB ts T shut s rr ⟨ot,oi⟩=decide (0<(aX! (walkN ts T shut ⟨ot,oi,rr⟩ n).2 s n).getD 0 0)from by rw[Bool.eq_iff_iff,gn!,u1!];exact HE.out.den_iff s)
    have aj:(0:Int)<(((aX! (walkN ts T shut ⟨ot,oi,rr⟩ n).2 s (walkN ts T shut ⟨ot,oi,rr⟩ n).1.length).length:Nat):Int):=by
     have:0<(aX! (walkN ts T shut ⟨ot,oi,rr⟩ n).2 s (walkN ts T shut ⟨ot,oi,rr⟩ n).1.length).length:=by rw[j.out];show 0<(outN _ _ _ _).length;rw[aK!];exact HE.out.pos
     omega
    generalize (aX! (walkN ts T shut ⟨ot,oi,rr⟩ n).2 s n).getD 0 0=z at *;generalize (aX! (walkN ts T shut ⟨ot,oi,rr⟩ n).2 s (walkN ts T shut ⟨ot,oi,rr⟩ n).1.length).length=m5 at *;clear y J a1;by_cases hz:0<z
    rotate_left
    ·rw[v3! hz]at B
     have ac:=h! (show Own w7 w3.heap.size 30 2 u14 (ocs ((l.take (i+1)).filter (denB ts T shut s rr)))from by
      rw[N.out,List.filter_append,List.filter_cons_of_neg (by rw[B.out];decide)];simpa using K.out)
     go_wp2_with fail
     go_roundw
     case rel=>exact⟨i+1,E.out,by first | rw[F.out] | go_num,ac.out,a2.out,a6.out⟩
     case measure=>have:=E.out;(try rw[F.out]);simp[intOf];omega
    ·rw[v2! hz]at B;have X8:=Ext.alloc w7 (.cells #[.string ot,.string oi] 30);have Z:=h! (K.out.below X8);have O:Hid (Ext w3 _):=h! (a6.out.trans X8);obtain⟨uo,un,uc,rfl,-⟩:=K.out.sl.len;clear X8;go_wp2_with (at_builtin;go_must (refine aE! aM! rfl (.tmp 48) (.tmp 50) rfl rfl Z.out rfl (m:=1) (news:=[.string ot,.string oi]) rfl (dU! _ _ _ _) (by simp[Value.oneCell']) (by have:=V.out;rw[aa!];simp at *;omega) (by have:=V.out;rw[aa!];simp at *;omega) (by have:=O.out.size;omega) ?_;intro v6 w6 hown6 hb6 hg6;have a9:=h! (show Own w6 w3.heap.size 30 2 v6 (ocs ((l.take (i+1)).filter (denB ts T shut s rr)))from by(rw[N.out,List.filter_append,List.filter_cons_of_pos B.out,aP!];simpa [ocs,oC] using hown6));have af:Hid (Ext w3 w6):=h! (be! O.out Z.out hg6 O.out.size);clear hown6 hb6 hg6))
     go_roundw
     case rel=>exact⟨i+1,E.out,by first | rw[F.out] | go_num,a9.out,a2.out,af.out⟩
     case measure=>have:=E.out;(try rw[F.out]);simp[intOf];omega
  ·obtain rfl:i=l.length:=by omega
   rw[u2!]at d HO;have XE:Hid (Ext w wr):=h! (a4.out.trans HX.out);have ad:=h! HO.out.slU;obtain⟨uo,un,uc,rfl,-⟩:=HO.out.sl.len;clear hlt hi;go_wp2_with fail
   go_ret2
   exact⟨⟨l,HL.out,.inl ⟨_,d.out,rfl,ad.out⟩⟩,XE.out⟩
structure BI (ts:List TyS)(N0:Nat)(L A:List R2)(ch:Bool)(pr:List (R2 × RT)):Prop where
 upL:UpR L
 upA:UpR A
 least:pK! ts L
 subA:∀x∈A,x∈(ac! ts).map (·.1)
 len0:N0<=L.length
 more:ch=true->N0<L.length
 done:∀p∈pr,p.1∈A/\(ch=false->p.2.pcan (ac! ts) L p.1.t=true->p.1∈L)
theorem oe! {ts:List TyS}(h:chk06 ts=0):bQ! ts=true:=by
 unfold chk06 at h;split at h
 ·split at h
  ·assumption
  ·cases h
 ·cases h
theorem jA! {ts:List TyS}(h:bQ! ts=true):ts.length<=16/\∀t∈ts,t.rels.length<=16/\∀r∈t.rels,r.2.sz<=32:=by
 unfold bQ! at h;rw[v0!,u1!,u8!]at h;refine⟨h.1,fun t ht=>?_⟩;have a:=h.2 t ht;unfold bj! at a;rw[v0!,u1!,u8!]at a;exact⟨a.1,fun r hr=>by simpa using a.2 r hr⟩
theorem ha! {ts:List TyS}(h:bQ! ts=true):(ac! ts).length<=256:=by
 obtain⟨h1,h2⟩:=jA! h;have:=mE! (fun t:TyS=>aV! t.name t.rels) 16 ts fun t ht=>by unfold aV!;rw[x1!];exact(h2 t ht).1
 unfold ac!;omega
end Go.Proofs.YtlhaghoajpglaaaGreat
namespace Go.Proofs.YtlhaghoajpglaaaGreat
open Go Go.RowKit Go.ChangeShapes Go.WideShapes Go.ChangeAt Go.Proofs.Tryz
def bc (l:List UInt8):List Value:=l.map fun c => .int .u8 c.toNat
section
variable {H : Type} {enc : TypeId × Value -> H} {W : World} {base : Nat} {v : Value} {d : DataW H} {ps : List MemPlace}
end
end Go.Proofs.YtlhaghoajpglaaaGreat
namespace Go.Proofs.YtlhaghoajpglaaaGreat
open Go Go.RowKit Go.Maps Go.Proofs.Tryz
def Tp (w:World)(tp:Nat):Prop:=∃(bv:Value)(l:List UInt8)(n:Nat),n<=l.length/\Sl (· < tp) w 1 bv (bc l)/\Blk w tp #[bv,.int .i64 n] 41
abbrev KT (tp:Nat) (w w':World):Prop:=Kept (fun b=>b<w.heap.size/\b≠tp) w w'
theorem my! (r:RT):r.nms.length<=2*r.sz:=by
 induction r using RT.ind with
 | h r ih =>
  have:∀l:List RT,(∀x∈l,x∈r.ps)->(nmsL l).length<=2*szL l:=by
   intro l;induction l with
   | nil=>intro _;simp[nmsL]
   | cons x l ihl =>
    intro hx;rw[nmsL,szL,u4!];have h1:=ih x (hx x (by simp));have h2:=ihl fun y hy=>hx y (u9! _ hy);omega
  have h:=this r.ps fun _ h=>h;rw[RT.nms_eq,u7!,u7!];obtain⟨k,a,b,ps⟩:=r;rw[RT.sz];simp only[RT.ps]at h ⊢;omega
theorem pE! (r:RT)(h:r.Ok):∀n∈r.nms,n.size<=maxLen:=by
 induction r using RT.ind with
 | h r ih =>
  obtain⟨k,a,b,ps⟩:=r;rw[RT.Ok]at h;intro n hn;rw[RT.nms_eq]at hn;simp only[RT.a,RT.b,RT.ps,v7!]at hn;rcases hn with rfl | rfl | hn
  ·exact n6! h.2.1 (by decide)
  ·exact n6! h.2.2.1 (by decide)
  ·have hp:=jj!.1 h.2.2.2
   have:∀l:List RT,(∀x∈l,x∈ps)->∀n∈nmsL l,n.size<=maxLen:=by
    intro l;induction l with
    | nil=>intro _ n hn;simp[nmsL]at hn
    | cons x l ihl =>
     intro hx n hn;rw[nmsL,u3!]at hn;rcases hn with hn | hn
     ·exact ih x (hx x (by simp)) (hp x (hx x (by simp))) n hn
     ·exact ihl (fun y hy=>hx y (u9! _ hy)) n hn
   exact this ps (fun _ h=>h) n hn
def allN (ts:List TyS):List ByteArray:=(ac! ts).flatMap fun x=>x.2.nms
theorem gB! (ts:List TyS):NmU ts (allN ts):=fun x hx _n hn=>List.mem_flatMap.2 ⟨x,hx,hn⟩
theorem eR! {α β:Type}(f:α->List β)(m:Nat):∀(l:List α),(∀x∈l,(f x).length<=m)->(l.flatMap f).length<=l.length*m
 | [],_=>by simp
 | a::l,h=>by
  rw[y5!,u4!,u7!,Nat.add_mul];have h1:=h a (by simp);have h2:=eR! f m l fun x hx=>h x (u9! _ hx);omega
theorem fp! {ts:List TyS}(h:bQ! ts=true):∀x∈ac! ts,x.2.sz<=32:=fun x hx=>by
 obtain⟨t,ht,r,hr,rfl⟩:=aY!.1 hx;unfold bQ! at h;rw[v0!,u8!]at h;have h2:=h.2 t ht;unfold bj! at h2;rw[v0!,u8!]at h2;simpa using h2.2 r hr
theorem mv! {ts:List TyS}(h:∀t∈ts,t.Ok):∀x∈ac! ts,x.2.Ok:=fun x hx=>by
 obtain⟨t,ht,r,hr,rfl⟩:=aY!.1 hx;exact((h t ht).2 r hr).2
def objU (T:List Tup)(p:P3):List (ByteArray × ByteArray):=(p.t,p.i)::T.map fun t=>(t.s.t,t.s.i)
def namU (N:List ByteArray)(T:List Tup)(p:P3):List ByteArray:=p.r::(T.map fun t=>t.s.r)++N
theorem okU (T:List Tup)(p:P3)(N:List ByteArray):OkU T (objU T p) (namU N T p) where
 objs t ht:=u9! _ (u6!.2 ⟨t,ht,rfl⟩)
 rels t ht:=by unfold namU;rw[x2!];exact u9! _ (List.mem_append_left _ (u6!.2 ⟨t,ht,rfl⟩))
theorem jR! {ts:List TyS}(T:List Tup)(shut:List R2)(p:P3) {N:List ByteArray}(hN:NmU ts N)(n:Nat):∀x∈(walkN ts T shut p n).1,InU (objU T p) (namU N T p) x :=
 iq! (okU T p N) (fun x hx m hm=>by unfold namU;rw[x2!];exact u9! _ (List.mem_append_right _ (hN x hx m hm))) shut ⟨by simp[objU],by simp[namU]⟩ n
theorem ip! {ts:List TyS}(T:List Tup)(shut:List R2)(p:P3) {N:List ByteArray}(hN:NmU ts N)(n:Nat):(walkN ts T shut p n).1.length<=(T.length+1)*(T.length+N.length+1):=by
 have h:=pb! (ee! ts T shut p n) (jR! T shut p hN n);simp only[objU,namU,u7!,u4!,x1!]at h;rwa[show T.length+1+N.length=T.length+N.length+1 by omega]at h
theorem ir! {ts:List TyS}{T:List Tup}(shut:List R2) {p:P3}(hc:bQ! ts=true)(hok:∀t∈ts,t.Ok)(hT:T.length<=100)(hTo:∀t∈T,t.Ok)(hp:p.Ok):gC! ts T shut p 2000000 where
 okp n x hx:=by
  have h:=jR! T shut p (gB! ts) n x hx
  have hN:∀m∈allN ts,m.size<=maxLen:=fun m hm=>by
   obtain⟨y,hy,hm⟩:=List.mem_flatMap.1 hm;exact pE! _ (mv! hok y hy) m hm
  obtain⟨g,c⟩:=h
  have hO:x.t.size<=maxLen/\x.i.size<=maxLen:=by
   rcases v7!.1 g with g | g
   ·have d:=congrArg Prod.fst g;have b:=congrArg Prod.snd g;dsimp only at d b;rw[d,b];exact⟨hp.1,hp.2.1⟩
   ·obtain⟨t,f,e⟩:=u6!.1 g;have a:=(hTo t f).2;have d:=congrArg Prod.fst e;have b:=congrArg Prod.snd e;dsimp only at d b;rw[<-d,<-b];exact⟨a.1,a.2.1⟩
  refine⟨hO.1,hO.2,?_⟩;unfold namU at c;rw[x2!,v7!,u3!]at c;rcases c with c | c | c
  ·rw[c];exact hp.2.2
  ·obtain⟨t,f,e⟩:=u6!.1 c;rw[<-e];exact(hTo t f).2.2.2
  ·exact hN _ c
 few n:=by
  have h:=ip! T shut p (gB! ts) n
  have c:(allN ts).length<=256*64:=by
   have a:=eR! (fun x:R2 × RT=>x.2.nms) 64 (ac! ts) fun x hx=>by have:=my! x.2;have:=fp! hc x hx;omega
   have h4:=ha! hc;unfold allN;exact n6! a (y7! _ h4)
  have h5:(T.length+1)*(T.length+(allN ts).length+1)<=101*(100+256*64+1):=Nat.mul_le_mul (by omega) (by omega);omega
 room x hx:=by
  have g:=fp! hc x hx;have c:x.2.sz*(T.length+1)<=32*101:=Nat.mul_le_mul g (by omega);omega
 nmax:=by omega
 rok:=mv! hok
 tok t f:=(hTo t f).2
 tlen:=by omega
theorem HasArg.of {ts:List TyS}{T:List Tup}{shut:List R2}{p:P3}(hc:chk06 ts=0)(hok:∀t∈ts,t.Ok)(hb:schB ts<=549755813888)(hn:(an! ts).length<=1099511627776)(hr:(ac! ts).length<=1099511627776)(hT:T.length<=41)(hTo:∀t∈T,t.Ok)(hp:p.Ok)(hso:∀r∈shut,r.Ok):HasArg ts T shut p:=by
 have b:=oe! hc;have c:=ir! (T:=T) shut b hok (by omega) hTo hp;have a0:∀t∈ts,∀r∈t.rels,r.2.sz<=32:=fun t ht r hr'=>fp! b ⟨⟨t.name,r.1⟩,r.2⟩ (aY!.2 ⟨t,ht,r,hr',rfl⟩)
 have hN:∀n,(walkN ts T shut p n).1.length<=1000000:=fun n=>by
  have h:=ip! T shut p (gB! ts) n
  have h2:(allN ts).length<=256*64:=by
   have h3:=eR! (fun x:R2 × RT=>x.2.nms) 64 (ac! ts) fun x hx=>by have:=my! x.2;have:=fp! b x hx;omega
   have h4:=ha! b;unfold allN;exact n6! h3 (y7! _ h4)
  have h5:(T.length+1)*(T.length+(allN ts).length+1)<=42*(41+256*64+1):=Nat.mul_le_mul (by omega) (by omega);omega
 have a:∀x∈ac! ts,x.2.sz*(T.length+1)<=32*42:=fun x hx=>Nat.mul_le_mul (fp! b x hx) (by omega)
 exact⟨hok,hc,hb,fun t ht r hr'=>n6! (a0 t ht r hr') (by decide),hn,hr,hso,
  ⟨c.okp,hN,fun x hx=>by have:=a x hx;omega,by decide,c.rok,c.tok,c.tlen⟩,fun x hx=>by have:=a x hx;omega⟩
def viB:ByteArray:=⟨#[118,105,101,119,101,114]⟩
def usB:ByteArray:=⟨#[117,115,101,114]⟩
def thB:ByteArray:=⟨#[116,104,105,115]⟩
def txtL:ByteArray:=⟨#[116,121,112,101,32,100,111,99,10,118,105,101,119,101,114,32,61,32,116,104,105,115,10,116,121,112,101,32,117,115,101,114]⟩
def itsL:List PIt:=[.ty docB,.rel viB thB [],.ty usB]
def lnsL:List ByteArray:=[⟨#[116,121,112,101,32,100,111,99]⟩,⟨#[118,105,101,119,101,114,32,61,32,116,104,105,115]⟩,⟨#[116,121,112,101,32,117,115,101,114]⟩]
def tsL:List TyS:=[⟨docB,[(viB,.mk 1 ⟨#[]⟩ ⟨#[]⟩ [])]⟩,⟨usB,[]⟩]
theorem oZ!:ea! txtL=lnsL:=by kernel_rfl
theorem stepL:itsL.foldl stepD []=tsL:=by kernel_rfl
theorem pG!:(lnsL.zip itsL).all (fun p=>lnOkB p.1 p.2)=true:=by kernel_rfl
theorem fitsL:itsL.all PIt.fitB=true:=by kernel_rfl
theorem chkL:chk06 tsL=0:=by kernel_rfl
theorem okL_:∀t∈tsL,t.Ok:=by
 intro t ht;unfold tsL at ht;simp only[v7!,List.not_mem_nil,or_false]at ht;rcases ht with rfl | rfl
 ·refine⟨by decide,fun r hr=>?_⟩;obtain rfl:=n9!.1 hr;exact⟨by decide,by simp[RT.Ok,okL];decide⟩
 ·exact⟨by decide,fun r hr=>by cases hr⟩
def pL:P3:=⟨docB,⟨#[49]⟩,viB⟩
def uL:P3:=⟨usB,⟨#[50]⟩,⟨#[]⟩⟩
def TLk:List Tup:=[⟨pL,uL⟩]
theorem setTL:SetT TLk TLk:=⟨List.pairwise_singleton _ _,fun t=>⟨fun h=>⟨h,by
 obtain rfl:=n9!.1 h;kernel_rfl⟩,fun h=>h.1⟩⟩
theorem okTL:∀t∈TLk,t.Ok:=by
 intro t ht;obtain rfl:=n9!.1 ht;exact⟨⟨by decide,by decide,by decide⟩,⟨by decide,by decide,by decide⟩⟩
theorem argL {p:P3}(hp:p.Ok):HasArg tsL TLk [] p:=HasArg.of chkL okL_ (by decide) (by decide) (by decide) (by decide) okTL hp (by simp)
theorem endL:pW! tsL TLk [] pL 9 1:=by
 have h0:(walkN tsL TLk [] pL 0).1.length=1:=by kernel_rfl
 have h1:(walkN tsL TLk [] pL 1).1.length=1:=by kernel_rfl
 refine⟨fun m hm=>?_,h1.symm⟩;obtain rfl:m=0:=by omega
 rw[h0];exact⟨by decide,by decide⟩
theorem ruleL:bb! tsL [] pL=some (.mk 1 ⟨#[]⟩ ⟨#[]⟩ []):=by rfl
theorem denL {s:P3}:Den tsL TLk [] s pL↔s=uL:=by
 have hs:ak! TLk pL=[uL]:=by rfl
 constructor
 ·rintro⟨n,h⟩;induction n with
  | zero=>exact h.elim
  | succ n ih =>
   rcases h with h | ⟨r,hr,h⟩
   ·exact ih h
   ·rw[ruleL]at hr;cases hr;rw[gl!,if_pos (show(RT.mk 1 ⟨#[]⟩ ⟨#[]⟩ []).k=1 from rfl),hs]at h;rcases h with h | ⟨q,hq,-⟩
    ·exact n9!.1 h
    ·have:=iK!.1 hq;rw[n9!.1 this.1]at this;exact absurd rfl this.2
 ·rintro rfl;exact Den.said (t:=⟨pL,uL⟩) (n9!.2 rfl) ruleL rfl
theorem ne! {l:List O2}(h:SubL tsL TLk [] pL usB l):l=[⟨usB,⟨#[50]⟩⟩]:=by
 refine dv! h.1 (List.pairwise_singleton _ _) fun x=>?_;rw[h.2 x,denL,n9!];constructor
 ·rintro⟨-,h2⟩;exact lm! h2
 ·rintro rfl;exact⟨rfl,rfl⟩
theorem jl! {l:List O2}(h:ObjsOf TLk docB l):l=[⟨docB,⟨#[49]⟩⟩]:=by
 refine dv! h.1 (List.pairwise_singleton _ _) fun x=>?_;rw[h.2 x,n9!];unfold ObjIn;constructor
 ·rintro⟨h1,t,ht,h2⟩;obtain rfl:=n9!.1 ht;rcases h2 with rfl | rfl
  ·rfl
  ·exact absurd h1 (by decide)
 ·rintro rfl;exact⟨rfl,_,n9!.2 rfl,.inl rfl⟩
theorem filtL : [(⟨docB,⟨#[49]⟩⟩:O2)].filter (denB tsL TLk [] uL viB)=[⟨docB,⟨#[49]⟩⟩]:=by
 rw[List.filter_cons_of_pos,List.filter_nil];exact gn!.2 (denL.2 rfl)
theorem nd! {e:Ending}{w':World}(h:mN! tsL TLk [] pL usB 9 (.int .i64 0) (.int .i64 10) e w'):∃v,e= .returned (.tuple #[v,.int .i64 0])/\Sl (· < w'.heap.size) w' 2 v (ocs [⟨usB,⟨#[50]⟩⟩]):=by
 rcases h with⟨n,v,l,-,rfl,hs,hl⟩|⟨hl,-⟩
 ·rw[ne! hl]at hs;exact⟨v,rfl,hs⟩
 ·exact absurd hl endL.notLong
theorem nq! {e:Ending}{w':World}(h:gD! tsL TLk [] docB viB uL 9 (.int .i64 0) (.int .i64 10) e w'):∃v,e= .returned (.tuple #[v,.int .i64 0])/\Sl (· < w'.heap.size) w' 2 v (ocs [⟨docB,⟨#[49]⟩⟩]):=by
 obtain⟨l,hl,⟨v,-,rfl,hs⟩|⟨⟨o,ho,h⟩,-⟩⟩:=h
 ·rw[jl! hl,filtL]at hs;exact⟨v,rfl,hs⟩
 ·rw[jl! hl]at ho;rw[n9!.1 ho]at h;exact absurd h endL.notLong
theorem row1 {w:World}{v:Value}{a:O2}(h:Sl (· < w.heap.size) w 2 v (ocs [a])):∃b off c,v= .slice (some ⟨b,off,none⟩) 1 c/\b<w.heap.size/\w.cell? ⟨b,off,none⟩=some (.string a.t)/\w.cell? ⟨b,off+1,none⟩=some (.string a.i):=by
 obtain⟨ao,c,rfl,-,-,d⟩:=Sl.rows aC! (by decide) (show Sl _ w 2 v (List.flatMap oC [a])from h);obtain⟨b,off,rfl,hb,d⟩:=d (by simp);have h0:=d 0 (by simp) 0 _ rfl;have h1:=d 0 (by simp) 1 _ rfl;rw[Nat.zero_mul,Nat.add_zero]at h0 h1;exact⟨b,off,c,rfl,hb,h0,h1⟩
theorem ij! (w:World):Calls prog 58 #[] w fun e w'=>e= .returned (.bool true)/\Below w.heap.size w w':=by
 have E:=h! (lk! txtL itsL w (by decide) (by rw[oZ!];rfl) (by rw[oZ!];exact nC! pG!) (ph! fitsL) (fun _=>⟨docB,rfl⟩) (by decide));rw[stepL]at E;unfold txtL at E;go_enter func58,ntmps58
 go_wp2_with fail
 refine E.out.mono ?_;rintro e w1 ⟨tv,rfl,U,R⟩;obtain⟨l,ct,rfl,-,-,-⟩:=U.rows;rw[show tsL.length=2 from rfl]at *;have D:=h! (Ext.alloc w1 (.cells #[.slice l 2 ct] 26));have K:=h! ((U.mono (S':=(· < w1.heap.size)) fun b hb=>hb.2).up D.out);have B:Hid (Below w.heap.size w _):=h! (R.trans (D.out.mono R.size));have a1:=h! (Blk.made w1 #[.slice l 2 ct] 26);clear U R E;obtain⟨wS,C⟩:=e! (w1.alloc (.cells #[.slice l 2 ct] 26));rw[<-C]at D K B a1;obtain⟨wt,A⟩:=e! (wS.alloc (.cells #[.string ⟨#[100,111,99]⟩,.string ⟨#[49]⟩,.string ⟨#[118,105,101,119,101,114]⟩,.string ⟨#[117,115,101,114]⟩,.string ⟨#[50]⟩,.string ⟨#[]⟩] 67));obtain⟨wr,M⟩:=e! (wt.alloc (.cells #[.string ⟨#[100,111,99]⟩,.string ⟨#[49]⟩,.string ⟨#[118,105,101,119,101,114]⟩,.string ⟨#[117,115,101,114]⟩,.string ⟨#[50]⟩,.string ⟨#[]⟩] 67));have XT:=h! (show Ext wS wt from xa! A);have XR:=h! (show Ext wt wr from xa! M);have BT:=h! (show Blk wt (w1.heap.size+1) #[.string ⟨#[100,111,99]⟩,.string ⟨#[49]⟩,.string ⟨#[118,105,101,119,101,114]⟩,.string ⟨#[117,115,101,114]⟩,.string ⟨#[50]⟩,.string ⟨#[]⟩] 67 from by rw[A,<- (show wS.heap.size=w1.heap.size+1 from by rw[C];simp)];exact Blk.made _ _ _);have es:wS.heap.size=w1.heap.size+1:=by rw[C];simp
 have et:wt.heap.size=w1.heap.size+1+1:=by rw[A];simp[es]
 have ab:=h! (show Sl (fun b=>b<wr.heap.size) wr 6 (.slice (some ⟨w1.heap.size+1+1,0,none⟩) 1 1) (tuCs TLk)from by
  rw[<-et,M];exact Sl.made wt _ 6 1 67 _ rfl (by decide) (by simp))
 have a7:=h! (eW! setTL (.slice (some ⟨w1.heap.size+1+1,0,none⟩) 1 1) wr ab.out (by decide) okTL);have bt:=BT.out.cells;clear es et;subst M A C;go_wp2_with fail
 clear bt;refine a7.out.mono ?_;rintro e w5 ⟨bk,rfl,a2,L⟩;have X5:Hid (Ext _ w5):=h! ((XT.out.trans XR.out).trans L);have g:=h! (K.out.up X5.out);have v:=h! (a1.out.below X5.out);have s:=h! (BT.out.below (XR.out.trans L));have X:Hid (Below w.heap.size w w5):=h! (B.out.trans (Below.mono X5.out B.out.size));have a0:=h! a2;clear a2 L a7 ab XT XR X5 K a1 BT B D;obtain⟨sb,a3⟩:∃x,Hid (x=w1.heap.size):=⟨_,h! rfl⟩;obtain⟨tb,a8⟩:∃x,Hid (x=w1.heap.size+1):=⟨_,h! rfl⟩;obtain⟨rb,ao⟩:∃x,Hid (x=w1.heap.size+1+1):=⟨_,h! rfl⟩;rw[<-a8.out]at s;rw[<-a3.out]at v;rw[<-ao.out,<-a8.out];try rw[<-a3.out]
 have ah:=v.out.cells;have ak:=s.out.cells;have F:=h! ((fR! tsL (.slice l 2 ct) bk TLk [] (.slice none 0 0) pL usB 9 w5 g.out (argL ⟨by decide,by decide,by decide⟩) a0.out (Sl.nil _ _ _)).mono fun e w' h=>And.intro (nd! h.1) h.2);unfold pV pL docB usB viB at F;dsimp only at F;go_wp2_with fail
 clear ah ak;refine F.out.mono ?_;rintro e w6 ⟨⟨v6,rfl,N⟩,k⟩;have ad:=h! N;have a:=h! (g.out.up k);have J:=h! (v.out.below k);have I:=h! (s.out.below k);have Y:Hid (Below w.heap.size w w6):=h! (X.out.trans (Below.mono k X.out.size));have m:=h! (a0.out.ext k);obtain⟨b6,ag,c6,rfl,ai,p,q⟩:=row1 N;clear N k F g v s X a0;have ap:=J.out.cells;have aj:=I.out.cells
 have y:=h! ((ep! tsL (.slice l 2 ct) bk TLk [] (.slice none 0 0) docB viB uL 9 w6 a.out (fun o h1 h2=>argL ⟨by rw[h1];show docB.size<=maxLen;decide,by
   obtain⟨t,ht,h3⟩:=h2;obtain rfl:=n9!.1 ht;rcases h3 with rfl | rfl
   ·decide
   ·decide,by show viB.size<=maxLen;decide⟩) okL_ chkL (by decide) (kQ! (by decide)) (by decide) (by decide) (by decide) (by decide) m.out (Sl.nil _ _ _)).mono fun e w' h=>And.intro (nq! h.1) h.2)
 unfold r2V pV uL docB usB viB at y;dsimp only at y;go_wp2_with fail
 clear ap aj;refine y.out.mono ?_;rintro e w7 ⟨⟨v7,rfl,a9⟩,i⟩;have r:=h! (a.out.up i);have a4:=h! (J.out.below i);have O:=h! (I.out.below i);have H:Hid (Below w.heap.size w w7):=h! (Y.out.trans (Below.mono i Y.out.size));have T:=h! (And.intro (Ext.cell i p) (Ext.cell i q));obtain⟨b7,al,c7,rfl,af,G,z⟩:=row1 a9;clear a9 i y a J I Y m ai p q ad;have ae:=a4.out.cells;have am:=O.out.cells;have u:=h! (ge! tsL (.slice l 2 ct) (.slice none 0 0) (.int .i64 9) ⟨#[]⟩ ⟨#[]⟩ uL w7 r.out okL_ chkL (by decide) (kQ! (by decide)) (by decide) (by decide));unfold r2V pV uL usB at u;dsimp only at u;go_wp2_with fail
 clear ae am;refine u.out.mono ?_;rintro e w8 ⟨rfl,f⟩;have an:=h! (O.out.below f);have aa:Hid (Below w.heap.size w w8):=h! (H.out.trans (Below.mono f H.out.size));have p:=Ext.cell f T.out.1;have q:=Ext.cell f T.out.2;have G:=Ext.cell f G;have z:=Ext.cell f z;clear f u r a4 O H af T;go_wp2_with fail
 obtain⟨wd,V⟩:∃wd,Hid (wd=w8.drew):=⟨_,h! rfl⟩;have j:=h! (show Ext w8 wd from xd! V.out);have ac:Hid (Below w.heap.size w wd):=h! (aa.out.trans (Below.mono j.out aa.out.size));refine re! V.out ?_;have Z:=fun W (h:Ext wd W)=>Ext.cell (j.out.trans h) p;have a6:=fun W (h:Ext wd W)=>Ext.cell (j.out.trans h) q;have Q:=fun W (h:Ext wd W)=>Ext.cell (j.out.trans h) G;have a5:=fun W (h:Ext wd W)=>Ext.cell (j.out.trans h) z;have gt:=fun W (h:Ext wd W)=>(an.out.below (j.out.trans h)).cells;have q1:=fun W=>oV! ⟨usB,⟨#[50]⟩⟩ ⟨usB,⟨#[50]⟩⟩ W;have q2:=fun W=>oV! ⟨docB,⟨#[49]⟩⟩ ⟨docB,⟨#[49]⟩⟩ W;unfold oV usB at q1;unfold oV docB at q2;unfold usB at Z;unfold docB at Q;rw[v2! rfl]at q1 q2;dsimp only at q1 q2 Z a6 Q a5;clear V p q G z;(refine WalkN.tk [0,1,2,3,4,5,6,7,8,9,10,11,12,13,14,15,16,17,18,19,20,21,22,23,24,25,26,27,28,29,30,31,32,33,34,35,36,37] ?_;(iterate 38 (refine c! ?_));refine TkN.n ?_)
 refine d! ?_;clear Z a6 Q a5 gt q1 q2;go_wp2_with fail
 go_ret
 exact⟨rfl,ac.out⟩
theorem lU! (v:Value)(l:List Tup)(w:World)(h:Sl (· < w.heap.size) w 6 v (tuCs l)):Calls prog 59 #[v] w fun e w'=>e= .returned (.bool (fewL l))/\Below w.heap.size w w':=by
 obtain⟨ao,c,rfl,ae,a8,f⟩:=ff! h;have HC:=h! f;clear f h;go_enter func59,ntmps59
 go_wp2_with fail
 go_loopw [9] (fun ii wr=>∃i:Nat,i<=l.length/\ii= .int .i64 i/\(∀j (hj:j<l.length),j<i->cO! l[j]=true)/\Below w.heap.size w wr) (fun ii _=>l.length-(intOf ii).toNat)
 case atStart=>exact⟨0,by omega,rfl,fun _ _ h=>absurd h (by omega),Below.refl _ _⟩
 case round =>
  obtain⟨i,hi,rfl,n,d⟩:=hrel;have o:=h! n;clear n;by_cases hlt:i<l.length
  ·obtain⟨b,m,rfl,A,c1,c2,c3,c4,c5,c6⟩:=HC.out i hlt;have d1:=(d.cell (p:=⟨b,m+i*6,none⟩) A).trans c1;have d2:=(d.cell (p:=⟨b,m+i*6+1,none⟩) A).trans c2;have d3:=(d.cell (p:=⟨b,m+i*6+2,none⟩) A).trans c3;have d4:=(d.cell (p:=⟨b,m+i*6+3,none⟩) A).trans c4;have d5:=(d.cell (p:=⟨b,m+i*6+4,none⟩) A).trans c5;have d6:=(d.cell (p:=⟨b,m+i*6+5,none⟩) A).trans c6;have C:=h! (fun h=>nW! hlt h);have HN:=h! (fun h=>ah! (p:=fun j hj=>cO! l[j]=true) o.out hlt h);clear c1 c2 c3 c4 c5 c6 A;generalize l[i]=a at *;obtain⟨⟨x,B,g⟩,⟨st,si,y⟩⟩:=a;dsimp only at *;have t:=d.alloc d.size (.cells #[.string x,.string B,.string g,.string st,.string si,.string y] 67);have a2:=(Blk.made wr #[.string x,.string B,.string g,.string st,.string si,.string y] 67).cells;have D:=h! (dk! ⟨⟨x,B,g⟩,⟨st,si,y⟩⟩ (wr.alloc (.cells #[.string x,.string B,.string g,.string st,.string si,.string y] 67)));unfold tV at D;dsimp only at D;have q:=h! t;clear t;go_wp2_with fail
   refine D.out.mono ?_;rintro e w2 ⟨rfl,r,s⟩;have cP:=r.cells;simp only[World.size_alloc]at cP ⊢;have k:=h! (q.out.trans (s.mono q.out.size));clear D r s q a2 d1 d2 d3 d4 d5 d6;go_wp2_with fail
   refine wp_loop_rounds 7 ?_;rw[rounds_succ];by_cases hs0:x.size<=100
   rotate_left
   ·have u:(100:Int)<(x.size:Int):=by omega
    have z:=h! hs0;clear hs0;go_wp2_with fail
    go_ret
    exact⟨congrArg (fun b=>Ending.returned (.bool b)) (C.out (by simp[cO!,z.out])).symm,k.out⟩
   have aa:(x.size:Int)<=100:=by omega
   have a1:=h! hs0;clear hs0;go_wp2_with fail
   rw[rounds_succ];by_cases hs1:B.size<=100
   rotate_left
   ·have u:(100:Int)<(B.size:Int):=by omega
    have z:=h! hs1;clear hs1;go_wp2_with fail
    go_ret
    exact⟨congrArg (fun b=>Ending.returned (.bool b)) (C.out (by simp[cO!,z.out])).symm,k.out⟩
   have ab:(B.size:Int)<=100:=by omega
   have a6:=h! hs1;clear hs1;go_wp2_with fail
   rw[rounds_succ];by_cases hs2:g.size<=100
   rotate_left
   ·have u:(100:Int)<(g.size:Int):=by omega
    have z:=h! hs2;clear hs2;go_wp2_with fail
    go_ret
    exact⟨congrArg (fun b=>Ending.returned (.bool b)) (C.out (by simp[cO!,z.out])).symm,k.out⟩
   have ad:(g.size:Int)<=100:=by omega
   have a3:=h! hs2;clear hs2;go_wp2_with fail
   rw[rounds_succ];by_cases hs3:st.size<=100
   rotate_left
   ·have u:(100:Int)<(st.size:Int):=by omega
    have z:=h! hs3;clear hs3;go_wp2_with fail
    go_ret
    exact⟨congrArg (fun b=>Ending.returned (.bool b)) (C.out (by simp[cO!,z.out])).symm,k.out⟩
   have a7:(st.size:Int)<=100:=by omega
   have a0:=h! hs3;clear hs3;go_wp2_with fail
   rw[rounds_succ];by_cases hs4:si.size<=100
   rotate_left
   ·have u:(100:Int)<(si.size:Int):=by omega
    have z:=h! hs4;clear hs4;go_wp2_with fail
    go_ret
    exact⟨congrArg (fun b=>Ending.returned (.bool b)) (C.out (by simp[cO!,z.out])).symm,k.out⟩
   have a9:(si.size:Int)<=100:=by omega
   have a4:=h! hs4;clear hs4;go_wp2_with fail
   rw[rounds_succ];by_cases hs5:y.size<=100
   rotate_left
   ·have u:(100:Int)<(y.size:Int):=by omega
    have z:=h! hs5;clear hs5;go_wp2_with fail
    go_ret
    exact⟨congrArg (fun b=>Ending.returned (.bool b)) (C.out (by simp[cO!,z.out])).symm,k.out⟩
   have ac:(y.size:Int)<=100:=by omega
   have a5:=h! hs5;clear hs5;go_wp2_with fail
   rw[rounds_succ];have HH:=h! (HN.out (by simp[cO!,a1.out,a6.out,a3.out,a0.out,a4.out,a5.out]));clear HN C;go_wp2_with fail
   go_roundw
   case rel=>exact⟨i+1,by omega,by go_num,HH.out,k.out⟩
   case measure=>simp[intOf];omega
  ·obtain rfl:i=l.length:=by omega
   have HE:=h! (nV! o.out);go_wp2_with fail
   go_ret
   exact⟨congrArg (fun b=>Ending.returned (.bool b)) HE.out.symm,d⟩
structure OArg (w W:World)(bs bp bu:Nat)(ts:List TyS)(tv:Value)(l:List Tup)(lv:Value)(shut:List R2)(sv:Value)(rt rr:ByteArray)(s:P3):Prop where
 X:Ext w W
 S:Blk W bs #[tv] 26
 P:Blk W bp #[.string rt,.string rr] 121
 U:Blk W bu #[.string s.t,.string s.i,.string s.r] 33
 Y:pU! (· < W.heap.size) W ts tv
 L:Sl (· < W.heap.size) W 6 lv (tuCs l)
 V:Sl (· < W.heap.size) W 2 sv (shut.flatMap r2C)
theorem OArg.up {w W W':World}{bs bp bu:Nat}{ts:List TyS}{tv:Value}{l:List Tup}{lv:Value}{shut:List R2}{sv:Value}{rt rr:ByteArray}{s:P3}(h:OArg w W bs bp bu ts tv l lv shut sv rt rr s)(hx:Ext W W'):OArg w W' bs bp bu ts tv l lv shut sv rt rr s :=
 ⟨h.X.trans hx,h.S.below hx,h.P.below hx,h.U.below hx,h.Y.up hx,(h.L.same (Same.below hx)).mono fun _ hb=>n1! hb hx.size,(h.V.same (Same.below hx)).mono fun _ hb=>n1! hb hx.size⟩
theorem nr! {T:List Tup}(h:∀t∈T,t.Ok) {o:O2}(ho:ObjIn T o):o.Ok:=by
 obtain⟨t,a,h2⟩:=ho;rcases h2 with rfl | rfl
 ·exact⟨(h t a).1.1,(h t a).1.2.1⟩
 ·exact⟨(h t a).2.1,(h t a).2.2.1⟩
theorem objectsLaw_any (ts:List TyS)(tv:Value)(l:List Tup)(lv:Value)(shut:List R2)(sv:Value)(rt rr:ByteArray)(s:P3)(most:Int)(w:World)(h:pU! (· < w.heap.size) w ts tv)(hbk:schBk ts<=1048576)(hok:∀t∈ts,t.Ok)
  (hl:Sl (· < w.heap.size) w 6 lv (tuCs l)) (hlo:∀t∈l,t.Ok) (hsv:Sl (· < w.heap.size) w 2 sv (shut.flatMap r2C)) (hso:∀r∈shut,r.Ok) (hro:(⟨rt,rr⟩:R2).Ok) :
  Calls prog 14 #[.agg #[tv],lv,sv,r2V ⟨rt,rr⟩,pV s,.int .i64 most] w fun e w'=>e= .returned (.bool true)/\Ext w w':=by
 have f:=h! hbk;have C:=h! hok;have E:=h! hlo;have am:=h! hso;have ai:=h! hro;obtain⟨G,ct,rfl,-,-,-⟩:=h.rows;obtain⟨Z,cs,rfl,-⟩:=Sl.rows aO! (by decide) hsv;obtain⟨wa,a8⟩:=e! (w.alloc (.cells #[.slice G ts.length ct] 26));obtain⟨wb,a7⟩:=e! (wa.alloc (.cells #[.string rt,.string rr] 121));obtain⟨wc,a3⟩:=e! (wb.alloc (.cells #[.string s.t,.string s.i,.string s.r] 33));have ea:wa.heap.size=w.heap.size+1:=by rw[a8];simp
 have eb:wb.heap.size=w.heap.size+1+1:=by rw[a7];simp[ea]
 have xa:Ext w wa:=xa! a8
 have xb:Ext wa wb:=xa! a7
 have xc:Ext wb wc:=xa! a3
 have xx:=xa.trans (xb.trans xc)
 have HW:=h! (show OArg w wc w.heap.size (w.heap.size+1) (w.heap.size+1+1) ts (.slice G ts.length ct) l lv shut (.slice Z shut.length cs) rt rr s from
  ⟨xx,Blk.below (bm! a8) (xb.trans xc),Blk.below (by rw[a7,<-ea];exact Blk.made _ _ _) xc,by rw[a3,<-eb];exact Blk.made _ _ _,h.up xx,(hl.same (Same.below xx)).mono fun _ hb=>n1! hb xx.size,(hsv.same (Same.below xx)).mono fun _ hb=>n1! hb xx.size⟩)
 have HF:=h! (ij! wc);clear h hbk hok hl hlo hsv hso hro eb xc ea xa xb xx;subst a7 a8;unfold pV r2V;go_enter func14,ntmps14
 go_wp2_with fail
 try rw[<-a3]
 clear a3;refine HF.out.mono ?_;rintro e w1 ⟨rfl,ah⟩;have O:=h! (HW.out.up ah);have s1:=O.out.S.cells;have H:=h! (lV! ts _ w1 O.out.Y C.out);clear ah HF HW;cases hfe:fewT ts 200 with
 | false =>
  rw[hfe]at H;go_wp2_with fail
  refine H.out.mono ?_;rintro e w2 ⟨rfl,a9⟩;go_wp2_with fail
  go_ret
  exact⟨rfl,Ext.trans O.out.X a9⟩
 | true =>
  rw[hfe]at H;clear hfe;go_wp2_with fail
  refine H.out.mono ?_;rintro e w2 ⟨rfl,a9⟩;have a6:=h! (O.out.up a9);have I:=h! (lU! lv l w2 a6.out.L);clear a9 H s1 O;cases hfl:fewL l with
  | false =>
   rw[hfl]at I;go_wp2_with fail
   refine I.out.mono ?_;rintro e w3 ⟨rfl,a2⟩;go_wp2_with fail
   go_ret
   exact⟨rfl,Ext.trans a6.out.X a2⟩
  | true =>
   rw[hfl]at I;have a1:=h! (nU! hfl);clear hfl;go_wp2_with fail
   refine I.out.mono ?_;rintro e w3 ⟨rfl,a2⟩;have HW:=h! (a6.out.up a2);clear a2 I a6;by_cases hsl:(20:Int)<(shut.length:Int)
   ·go_wp2_with fail
    go_ret
    exact⟨rfl,HW.out.X⟩
   have ae:Hid (shut.length<=20):=h! (by omega);obtain⟨T,hT⟩:=py! l;have F:=h! hT;have a5:=h! (show T.length<=40 from by have:=hT.len;have:=a1.out;omega);clear hT;by_cases hck:chk06 ts=0
   rotate_left
   ·have B:=h! hck;clear hck;go_wp2_with fail
    obtain⟨wd,b⟩:∃wd,Hid (wd=w3.drew):=⟨_,h! rfl⟩;have g:=h! (show Ext w3 wd from xd! b.out);refine re! b.out ?_;have HW:=h! (HW.out.up g.out);clear b g;have hs:=fun W (h:Ext wd W)=>(HW.out.S.below h).cells;have hp:=fun W (h:Ext wd W)=>(HW.out.P.below h).cells;have hu:=fun W (h:Ext wd W)=>(HW.out.U.below h).cells;(refine WalkN.tk [0,1,4,5,6,7] ?_;(iterate 6 (refine c! ?_));refine TkN.n ?_)
    clear hs hp hu;have N:=h! (eW! F.out lv wd HW.out.L (by have:=a1.out;omega) E.out);refine ob! 2 ?_;intro K hK;go_simp;refine N.out.mono ?_;rintro e w4 ⟨bk,rfl,hbk,m⟩;refine hK.out _ _ m ?_;clear hK N;have u:=h! (HW.out.up m);have HH:=h! (gf! ts (.slice G ts.length ct) (bkV bk) (.slice Z shut.length cs) (.int .i64 most) rt rr s w4 u.out.Y C.out B.out (by have:=iP! ts;have:=f.out;omega) (kQ! f.out) (by have:=(cV! ts).1;have:=f.out;omega) (by have:=(cV! ts).2;have:=f.out;omega));unfold pV r2V at HH;clear hbk;refine t! 3 ?_
    refine ob! 8 ?_;intro K hK;go_simp;refine HH.out.mono ?_;rintro e w5 ⟨rfl,v⟩;refine hK.out _ _ (Ext.trans m v) ?_;clear hK HH;have HW:=h! (u.out.up v);clear m v u;(refine WalkN.tk [9,10,11,12,13] ?_;(iterate 5 (refine c! ?_));refine TkN.n ?_)
    refine d! ?_;have x:=h! (db! ts _ w5 HW.out.Y C.out (by have:=iO! ts;have:=f.out;omega));have s1:=HW.out.S.cells;go_wp2_with fail
    refine x.out.mono ?_;rintro e w6 ⟨rfl,z⟩;have HW:=h! (HW.out.up z);clear z s1 x;obtain⟨q,hq,an,ao⟩:∃q:Int,q=chk06 ts/\(q != 0)=true/\(q == q)=true:=⟨_,rfl,by simpa using B.out,by simp⟩;rw[<-hq];clear hq;go_wp2_with fail
    go_ret
    exact⟨rfl,HW.out.X⟩
   ·have B:=h! hck;have ac:=h! (fun(o:O2) (h1:o.t=rt) (h2:ObjIn T o)=>HasArg.of (T:=T) (shut:=shut) (p:=⟨o.t,o.i,rr⟩) hck C.out (by have:=iP! ts;have:=f.out;omega) (by have:=(cV! ts).1;have:=f.out;omega) (by have:=(cV! ts).2;have:=f.out;omega) (by have:=a5.out;omega) (fun t ht=>E.out t ((F.out.mem t).1 ht).1) (by have h3:=nr! (fun t ht=>E.out t ((F.out.mem t).1 ht).1) h2;exact⟨h3.1,h3.2,ai.out.2⟩) am.out);clear hck;go_wp2_with fail
    obtain⟨wd,b⟩:∃wd,Hid (wd=w3.drew):=⟨_,h! rfl⟩;have g:=h! (show Ext w3 wd from xd! b.out);refine re! b.out ?_;have HW:=h! (HW.out.up g.out);clear b g;have hs:=fun W (h:Ext wd W)=>(HW.out.S.below h).cells;have hp:=fun W (h:Ext wd W)=>(HW.out.P.below h).cells;have hu:=fun W (h:Ext wd W)=>(HW.out.U.below h).cells;(refine WalkN.tk [0,1,4,5,6,7] ?_;(iterate 6 (refine c! ?_));refine TkN.n ?_)
    clear hs hp hu;have N:=h! (eW! F.out lv wd HW.out.L (by have:=a1.out;omega) E.out);refine ob! 2 ?_;intro K hK;go_simp;refine N.out.mono ?_;rintro e w4 ⟨bk,rfl,hbk,m⟩;refine hK.out _ _ m ?_;clear hK N;have u:=h! (HW.out.up m);have HH:=h! (ep! ts (.slice G ts.length ct) bk T shut (.slice Z shut.length cs) rt rr s most w4 u.out.Y ac.out C.out B.out (by have:=iP! ts;have:=f.out;omega) (kQ! f.out) (by have:=(cV! ts).1;have:=f.out;omega) (by have:=(cV! ts).2;have:=f.out;omega) ai.out.1 (by have:=a5.out;omega) hbk u.out.V);unfold pV r2V at HH;clear hbk;refine t! 3 ?_
    refine ob! 8 ?_;intro K hK;go_simp;refine HH.out.mono ?_;rintro e w5 ⟨⟨l5,aa,⟨v5,M,rfl,ad⟩|⟨a,rfl⟩⟩,v⟩
    case' inl =>
     have HE:=h! M;have ab:=h! aa;clear M aa;refine hK.out _ _ (Ext.trans m v) ?_;clear hK HH;have HW:=h! (u.out.up v);have HR:=h! ad;obtain⟨vo,vn,vc,rfl,-⟩:=ad.len;clear m v u ad;(refine WalkN.tk [9,10,11,12,13] ?_;(iterate 5 (refine c! ?_));refine TkN.n ?_)
     refine d! ?_;have x:=h! (db! ts _ w5 HW.out.Y C.out (by have:=iO! ts;have:=f.out;omega));rw[B.out]at x;have s1:=HW.out.S.cells;go_wp2_with fail
     refine x.out.mono ?_;rintro e w6 ⟨rfl,z⟩;have HW:=h! (HW.out.up z);have aj:=h! z;clear z s1 x;have HR:=h! ((HR.out.same (Same.below (show Ext w5 w6 from aj.out))).mono fun _ hb=>n1! hb (show Ext w5 w6 from aj.out).size);go_wp2_with fail
     have R6:Hid (Ext w6 w6):=h! (Ext.refl _);obtain⟨a0,j⟩:=e! w6;rw[<-j]at HW HR ⊢;clear j R6;obtain⟨wd,b⟩:∃wd,Hid (wd=a0.drew):=⟨_,h! rfl⟩;have g:=h! (show Ext a0 wd from xd! b.out);refine re! b.out ?_;have HW:=h! (HW.out.up g.out);have HR:=h! ((HR.out.same (Same.below g.out)).mono fun _ hb=>n1! hb (Ext.size g.out));clear b g;have hs:=fun W (h:Ext wd W)=>(HW.out.S.below h).cells;have hp:=fun W (h:Ext wd W)=>(HW.out.P.below h).cells;have hu:=fun W (h:Ext wd W)=>(HW.out.U.below h).cells;(refine WalkN.tk [0,1,3,4,5,6] ?_;(iterate 6 (refine c! ?_));refine TkN.n ?_)
     clear hs hp hu;have Q:=h! (iL! F.out lv wd HW.out.L (by have:=a1.out;omega) E.out);refine ob! 2 ?_;intro K hK;go_simp;refine Q.out.mono ?_;rintro e w7 ⟨zv,rfl,hz,k⟩;refine hK.out _ _ k ?_;clear hK Q;have y:=h! (HW.out.up k);have af:=h! ((HR.out.same (Same.below k)).mono fun _ hb=>n1! hb (Ext.size k));have HH:=h! (de! ts (.slice G ts.length ct) T zv shut (.slice Z shut.length cs) rt rr s most w7 y.out.Y B.out hz (by have:=a5.out;omega) y.out.V (by have:=ae.out;omega) (fun o h1 h2=>(ac.out o h1 h2).wk));unfold pV r2V at HH;clear hz;refine ob! 7 ?_;intro K hK;go_simp;refine HH.out.mono ?_;rintro e w8 ⟨⟨l8,R,⟨v8,D,rfl,a4⟩|⟨a,rfl⟩⟩,A⟩
     case' inr=>exact absurd a fun⟨o,ho,hl⟩=>(HE.out o (by rw[ab.out.uniq R];exact ho)).elim fun n h=>h.notLong hl
     case' inl =>
      obtain rfl:=R.uniq ab.out;clear D R;refine hK.out _ _ (Ext.trans k A) ?_;clear hK HH;have HW:=h! (y.out.up A);have HR:=h! ((af.out.same (Same.below A)).mono fun _ hb=>n1! hb (Ext.size A));have al:=h! a4;obtain⟨zo,zn,zc,rfl,-⟩:=a4.len;clear k A y a4 af;(refine WalkN.tk [8,9,10,11,12] ?_;(iterate 5 (refine c! ?_));refine TkN.n ?_)
      refine d! ?_;have J:=h! (ld! _ _ _ w8 HR.out al.out);go_wp2_with fail
      refine J.out.mono ?_;rintro e w9 ⟨rfl,ag⟩;have HX:=h! (HW.out.up ag).X;clear ag J;go_wp2_with fail
      go_ret
      exact⟨rfl,HX.out⟩
    case' inr =>
     have ak:=h! a;have ab:=h! aa;clear a aa;refine hK.out _ _ (Ext.trans m v) ?_;clear hK HH;have HW:=h! (u.out.up v);clear m v u;(refine WalkN.tk [9,10,11,12,13] ?_;(iterate 5 (refine c! ?_));refine TkN.n ?_)
     refine d! ?_;have x:=h! (db! ts _ w5 HW.out.Y C.out (by have:=iO! ts;have:=f.out;omega));rw[B.out]at x;have s1:=HW.out.S.cells;go_wp2_with fail
     refine x.out.mono ?_;rintro e w6 ⟨rfl,z⟩;have HW:=h! (HW.out.up z);clear z s1 x;go_wp2_with fail
     obtain⟨a0,j⟩:=e! w6;rw[<-j]at HW ⊢;clear j;obtain⟨wd,b⟩:∃wd,Hid (wd=a0.drew):=⟨_,h! rfl⟩;have g:=h! (show Ext a0 wd from xd! b.out);refine re! b.out ?_;have HW:=h! (HW.out.up g.out);clear b g;have hs:=fun W (h:Ext wd W)=>(HW.out.S.below h).cells;have hp:=fun W (h:Ext wd W)=>(HW.out.P.below h).cells;have hu:=fun W (h:Ext wd W)=>(HW.out.U.below h).cells;(refine WalkN.tk [0,1,3,4,5,6] ?_;(iterate 6 (refine c! ?_));refine TkN.n ?_)
     clear hs hp hu;have Q:=h! (iL! F.out lv wd HW.out.L (by have:=a1.out;omega) E.out);refine ob! 2 ?_;intro K hK;go_simp;refine Q.out.mono ?_;rintro e w7 ⟨zv,rfl,hz,k⟩;refine hK.out _ _ k ?_;clear hK Q;have y:=h! (HW.out.up k);have HH:=h! (de! ts (.slice G ts.length ct) T zv shut (.slice Z shut.length cs) rt rr s most w7 y.out.Y B.out hz (by have:=a5.out;omega) y.out.V (by have:=ae.out;omega) (fun o h1 h2=>(ac.out o h1 h2).wk));unfold pV r2V at HH;clear hz;refine ob! 7 ?_;intro K hK;go_simp;refine HH.out.mono ?_;rintro e w8 ⟨⟨l8,R,⟨v8,D,rfl,a4⟩|⟨a,rfl⟩⟩,A⟩
     case' inl=>exact absurd ak.out fun⟨o,ho,hl⟩=>(D o (by rw[R.uniq ab.out];exact ho)).elim fun n h=>h.notLong hl
     case' inr =>
      refine hK.out _ _ (Ext.trans k A) ?_;clear hK HH;have HX:=h! (y.out.up A).X;clear k A y;(refine WalkN.tk [8,9,10,11,12] ?_;(iterate 5 (refine c! ?_));refine TkN.n ?_)
      refine d! ?_;go_wp2_with fail
      go_ret
      exact⟨rfl,HX.out⟩
end Go.Proofs.YtlhaghoajpglaaaGreat
namespace Go.Proofs.YtlhaghoajpglaaaGreat
open Go Go.RowKit Go.ChangeShapes Go.WideShapes Go.ChangeAt Go.Proofs.Tryz
def pC4 (p:P3):List Value:=[.string p.t,.string p.i,.string p.r]
def tC4 (t:Tup):List Value:=[.string t.o.t,.string t.o.i,.string t.o.r,.string t.s.t,.string t.s.i,.string t.s.r]
section
variable {H : Type} {enc : TypeId × Value -> H} {W : World} {base : Nat} {v : Value} {d : DataW H} {ps : List MemPlace}
theorem cA! {fuel:Nat}{cs:List Value}{y:DataW H × List MemPlace}(hy:DataW.trod enc prog W 0 (fun _=>true) true fuel 30 cs=some y):∃a b:ByteArray,cs=[.string a,.string b]/\a.size<=maxLen/\b.size<=maxLen:=by
 obtain⟨xs,n,_,_,hl,c,hf⟩:=DataW.trod_struct Tryz.underlying30 hy;rw[show prog.cellsOf 30=2 from by kernel_rfl]at hl
 obtain⟨g,f,rfl⟩:∃g f,cs=[g,f]:=by
  match cs,hl with
  | [g,f],_=>exact⟨g,f,rfl⟩
 have h0:=hf 0 _ rfl;have h1:=hf 1 _ rfl
 obtain⟨d,e,rfl⟩:∃d e,xs=[d,e]:=by
  match xs,c with
  | [d,e],_=>exact⟨d,e,rfl⟩
 obtain⟨a,e0,_,wa⟩:=DataW.trod_string Tryz.underlying9 h0;obtain⟨b,e1,_,wb⟩:=DataW.trod_string Tryz.underlying9 h1;have k1:prog.cellsOf 9=1:=by kernel_rfl
 simp[k1]at e0 e1;subst e0 e1;exact⟨a,b,rfl,wa,wb⟩
theorem cy! {fuel:Nat}{cs:List Value}{y:DataW H × List MemPlace}(hy:DataW.trod enc prog W 0 (fun _=>true) true fuel 33 cs=some y):∃p:P3,cs=pC4 p/\p.Ok:=by
 obtain⟨xs,n,_,_,hl,d,hf⟩:=DataW.trod_struct Tryz.underlying33 hy;rw[show prog.cellsOf 33=3 from by kernel_rfl]at hl
 obtain⟨h,f,i,rfl⟩:∃h f i,cs=[h,f,i]:=by
  match cs,hl with
  | [h,f,i],_=>exact⟨h,f,i,rfl⟩
 have h0:=hf 0 _ rfl;have h1:=hf 1 _ rfl
 obtain⟨e,g,rfl⟩:∃e g,xs=[e,g]:=by
  match xs,d with
  | [e,g],_=>exact⟨e,g,rfl⟩
 have k0:prog.cellsOf 30=2:=by kernel_rfl
 have k1:prog.cellsOf 9=1:=by kernel_rfl
 obtain⟨a,b,e0,wa,wb⟩:=cA! h0;obtain⟨c,e1,_,wc⟩:=DataW.trod_string Tryz.underlying9 h1;simp[k0]at e0;simp[k1]at e1;obtain⟨rfl,rfl⟩:=e0;subst e1;exact⟨⟨a,b,c⟩,rfl,wa,wb,wc⟩
theorem eH! {fuel:Nat}{cs:List Value}{y:DataW H × List MemPlace}(hy:DataW.trod enc prog W 0 (fun _=>true) true fuel 67 cs=some y):∃t:Tup,cs=tC4 t/\t.Ok:=by
 obtain⟨xs,n,_,_,hl,d,hf⟩:=DataW.trod_struct Tryz.underlying67 hy;rw[show prog.cellsOf 67=6 from by kernel_rfl]at hl
 obtain⟨i,g,j,m,l,f,rfl⟩:∃i g j m l f,cs=[i,g,j,m,l,f]:=by
  match cs,hl with
  | [i,g,j,m,l,f],_=>exact⟨i,g,j,m,l,f,rfl⟩
 have h0:=hf 0 _ rfl;have h1:=hf 1 _ rfl;have h2:=hf 2 _ rfl
 obtain⟨e,h,k,rfl⟩:∃e h k,xs=[e,h,k]:=by
  match xs,d with
  | [e,h,k],_=>exact⟨e,h,k,rfl⟩
 have k0:prog.cellsOf 30=2:=by kernel_rfl
 have k1:prog.cellsOf 9=1:=by kernel_rfl
 have k2:prog.cellsOf 33=3:=by kernel_rfl
 obtain⟨a,b,e0,wa,wb⟩:=cA! h0;obtain⟨c,e1,_,wc⟩:=DataW.trod_string Tryz.underlying9 h1;obtain⟨p,e2,wp⟩:=cy! h2;simp[k0]at e0;simp[k1]at e1;simp[k2,pC4]at e2;obtain⟨rfl,rfl⟩:=e0;obtain⟨rfl,rfl,rfl⟩:=e2;subst e1;exact⟨⟨⟨a,b,c⟩,p⟩,rfl,⟨wa,wb,wc⟩,wp⟩
end
theorem fu! {H:Type}{enc:TypeId × Value->H}{P:Program}{w:World}{α:Type}(ec:α->List Value)(Q:α->Prop) {t e:TypeId}{v:Value}{d:DataW H}{ps:List MemPlace}{sz:Nat}
  (ht:P.underlying t=some (.slice e)) (hsz:P.cellsOf e=sz) (hv:∃a len cap,v= .slice a len cap) (h:DataW.Trod enc P w 0 (fun _=>true) true t v d ps)
  (hel:∀fuel cs y,DataW.trod enc P w 0 (fun _=>true) true fuel e cs=some y->∃a,cs=ec a/\Q a):∃l:List α,Sl (· < w.heap.size) w sz v (l.flatMap ec)/\∀a∈l,Q a:=by
 obtain⟨xs,c,fuel,hs,hl,he,_⟩:=oO! ht hv h;rw[hsz]at hs hl he
 have g:∀n,n<=c.length->∃l:List α,xs.take (n*sz)=l.flatMap ec/\∀a∈l,Q a:=by
  intro n;induction n with
  | zero=>intro _;exact⟨[],by simp,by simp⟩
  | succ n ih =>
   intro hn;obtain⟨l,f,i⟩:=ih (by omega);obtain⟨a,ha,hq⟩:=hel _ _ _ (he n c[n] (n4! (by omega)));refine⟨l++[a],?_,fun b hb=>?_⟩
   ·rw[Nat.add_mul,Nat.one_mul,List.take_add,f,ha,x9!];simp
   ·rcases u3!.1 hb with hb | hb
    ·exact i b hb
    ·obtain rfl:b=a:=by simpa using hb
     exact hq
 obtain⟨l,f,i⟩:=g c.length (n0! _);rw[<-hl,u2!]at f;exact⟨l,f▸hs,i⟩
theorem kN! (l:List Tup):l.flatMap tC4=tuCs l:=by
 induction l with
 | nil=>rfl
 | cons a l ih=>rw[y5!,ih];rfl
theorem open_tupsV {H:Type}{enc:TypeId × Value->H}{W:World}{base:Nat}{v:Value}{d:DataW H}{ps:List MemPlace}(hok:Value.okWide prog W .any base 27 v)(h:DataW.Trod enc prog W 0 (fun _=>true) true 27 v d ps):∃l:List Tup,Sl (· < W.heap.size) W 6 v (tuCs l)/\∀t∈l,t.Ok:=by
 obtain⟨l,h1,h2⟩:=fu! tC4 Tup.Ok Tryz.underlying27 (by kernel_rfl) (okWide_slice Tryz.underlying27 hok) h (fun fuel cs y hy=>eH! hy);exact⟨l,kN! l▸h1,h2⟩
section
variable {H : Type} {enc : TypeId × Value -> H} {W : World} {base : Nat} {v : Value} {d : DataW H} {ps : List MemPlace}
theorem cz! {fuel:Nat}{cs:List Value}{y:DataW H × List MemPlace}(hy:DataW.trod enc prog W 0 (fun _=>true) true fuel 121 cs=some y):∃a b:ByteArray,cs=[.string a,.string b]/\a.size<=maxLen/\b.size<=maxLen:=by
 obtain⟨xs,n,_,_,hl,c,hf⟩:=DataW.trod_struct Tryz.underlying121 hy;rw[show prog.cellsOf 121=2 from by kernel_rfl]at hl
 obtain⟨g,f,rfl⟩:∃g f,cs=[g,f]:=by
  match cs,hl with
  | [g,f],_=>exact⟨g,f,rfl⟩
 have h0:=hf 0 _ rfl;have h1:=hf 1 _ rfl
 obtain⟨d,e,rfl⟩:∃d e,xs=[d,e]:=by
  match xs,c with
  | [d,e],_=>exact⟨d,e,rfl⟩
 obtain⟨a,e0,_,wa⟩:=DataW.trod_string Tryz.underlying9 h0;obtain⟨b,e1,_,wb⟩:=DataW.trod_string Tryz.underlying9 h1;have k1:prog.cellsOf 9=1:=by kernel_rfl
 simp[k1]at e0 e1;subst e0 e1;exact⟨a,b,rfl,wa,wb⟩
theorem open_refV (hok:Value.okWide prog W .any base 121 v)(h:DataW.Trod enc prog W 0 (fun _=>true) true 121 v d ps):∃r:R2,v=r2V r/\r.Ok:=by
 obtain⟨ca,rfl,_⟩:=okWide_struct Tryz.underlying121 hok;obtain⟨a0,hy⟩:=h;obtain⟨a,b,hc,ha,hb⟩:=cz! hy;exact⟨⟨a,b⟩,congrArg Value.agg (Array.toList_inj.1 hc),ha,hb⟩
end
section
variable {H : Type} {enc : TypeId × Value -> H} {W : World} {base : Nat} {v : Value} {d : DataW H} {ps : List MemPlace}
theorem open_refsV (hok:Value.okWide prog W .any base 28 v)(h:DataW.Trod enc prog W 0 (fun _=>true) true 28 v d ps):∃l:List R2,Sl (· < W.heap.size) W 2 v (l.flatMap r2C)/\∀r∈l,r.Ok :=
 fu! r2C R2.Ok Tryz.underlying28 (by kernel_rfl) (okWide_slice Tryz.underlying28 hok) h (fun fuel cs y hy=>by
  obtain⟨a,b,rfl,ha,hb⟩:=cz! hy;exact⟨⟨a,b⟩,rfl,ha,hb⟩)
theorem open_intV (hok:Value.okWide prog W .any base 3 v)(h:DataW.Trod enc prog W 0 (fun _=>true) true 3 v d ps):∃n:Int,v= .int .i64 n:=by
 obtain⟨x,rfl,_⟩:=open_int Tryz.underlying3 hok h;exact⟨x,rfl⟩
end
section
variable {H : Type} {enc : TypeId × Value -> H} {W : World} {base : Nat} {v : Value} {d : DataW H} {ps : List MemPlace}
theorem open_subV (hok:Value.okWide prog W .any base 33 v)(h:DataW.Trod enc prog W 0 (fun _=>true) true 33 v d ps):∃p:P3,v=pV p:=by
 obtain⟨ca,rfl,_⟩:=okWide_struct Tryz.underlying33 hok;obtain⟨a0,hy⟩:=h;obtain⟨t,hc,_⟩:=cy! hy;exact⟨t,congrArg Value.agg (Array.toList_inj.1 hc)⟩
end
end Go.Proofs.YtlhaghoajpglaaaGreat
