/- Lemmas for the claim, no condition. -/
import GoSem.PinnedTables
import Derived.Deep.DeepHandedRow
import Derived.Lib.SmallJoins
import Derived.Test.YtlhaghoajpglaaaGreatYLkSub20
import GoSem.PinnedTables
set_option maxRecDepth 100000
set_option maxHeartbeats 8000000
namespace Go.Proofs.YtlhaghoajpglaaaGreat
open Go Go.RowKit Go.Maps Go.Proofs.Tryz
theorem hJ! {w:World}{B:Nat}{v:Value}{L:List Int}(h:Own w B 3 1 v (ic L))(hL:0<L.length):∃g c,v= .slice (some ⟨g,0,none⟩) L.length c/\w.cell? ⟨g,0,none⟩=some (.int .i64 (L.getD 0 0)):=by
 obtain⟨g,c,cs,rfl,-,hB,-,-,a0⟩:=h.lay (by
  intro e;have:=congrArg List.length e;rw[ad!,v6!]at this;omega)
 have h1:0<(ic L).length:=by rw[ad!];exact hL
 refine⟨g,c,by rw[ad!],?_⟩;rw[hB.cells 0,a0 0 h1];simp only[ic,List.getElem_map];rw[n8!,n4! hL];rfl
theorem lZ! {ts:List TyS}{T:List Tup}{shut:List R2}{p:P3}{most:Int}{n:Nat}(h:qa! ts T shut p most n)(hc:chk06 ts=0) {o:O2}(hd:0<(aR! (walkN ts T shut p n).2 (oS o) n).getD 0 0):ObjIn T o:=by
 obtain⟨f,hf,hs⟩:=jP! h (fun x hx=>eX! hc hx) h.pos hd;obtain⟨t,ht,e⟩:=fS! h hc f hf _ hs;exact⟨t,ht,.inr (by rw[e];rfl)⟩
noncomputable def inB (fs:List FT) (n:Nat) (o:O2):Bool:=decide (0<(aR! fs (oS o) n).getD 0 0)
theorem co! (ts:List TyS)(tv:Value)(T:List Tup)(setv:Value)(shut:List R2)(sv:Value)(p:P3)(typ:ByteArray)(most:Int)(w:World)(h:pY! (· < w.heap.size) w ts tv)(hc:chk06 ts=0)(hset:Sl (· < w.heap.size) w 6 setv (tuCs T))(hT:T.length<=40000)(hsv:Sl (· < w.heap.size) w 2 sv (shut.flatMap r2C))(hsl:shut.length<=1099511627776)(hin:gD! ts T shut p 1000000) :
  Calls prog 61 #[.agg #[tv],setv,sv,pV p,.string typ,.int .i64 most] w fun e w'=>kE! ts T shut p typ most (.bool true) (.bool false) e w'/\Ext w w':=by
 have a5:=h! hin;have HC:=h! hc;have HT:=h! hT;obtain⟨ao,c,rfl,-⟩:=h.rows;obtain⟨so,sc,rfl,-⟩:=Sl.rows aO! (by decide) hsv;obtain⟨to,tc,rfl,-⟩:=Sl.rows at! (by decide) (show Sl _ w 6 setv (T.flatMap tuC)from hset);obtain⟨wa,s⟩:=e! (w.alloc (.cells #[.slice ao ts.length c] 26));obtain⟨wb,D⟩:=e! (wa.alloc (.cells #[.string p.t,.string p.i,.string p.r] 32));have ea:wa.heap.size=w.heap.size+1:=by rw[s];simp
 have xa:Ext w wa:=xa! s
 have xb:Ext wa wb:=xa! D
 have XB:Hid (Ext w wb):=h! (xa.trans xb);have BS:=h! (show Blk wb w.heap.size #[.slice ao ts.length c] 26 from Blk.below (bm! s) xb);have BA:=h! (show Blk wb (w.heap.size+1) #[.string p.t,.string p.i,.string p.r] 32 from by rw[D,<-ea];exact Blk.made _ _ _);have M:=h! ((hset.same (Same.below XB.out)).mono fun _ hb=>n1! hb XB.out.size);have G:=h! (kL! ts (.slice ao ts.length c) T (.slice to T.length tc) shut (.slice so shut.length sc) p most 1000000 wb (h.up XB.out) (kt! hc) M.out ((hsv.same (Same.below XB.out)).mono fun _ hb=>n1! hb XB.out.size) hsl hin);have hS:=BS.out.cells;have U:=BA.out.cells;clear h hset hsv hsl hin hc hT ea xa xb;unfold pV at *;subst D s;go_enter func61,ntmps61
 go_wp2_with fail
 refine G.out.mono ?_;rintro e w1 ⟨hx,ps,fs,po,pc,fo,fc,ev,⟨n,K,rfl,rfl,rfl⟩|⟨a0,rfl,rfl,rfl⟩,rfl,x⟩
 case' inr =>
  have HL:=h! a0;have X2:Hid (Ext w (w1.alloc (.cells #[.slice po 0 pc,.slice fo 0 fc] 96))):=h! (Ext.trans XB.out (Ext.trans hx (Ext.alloc _ _)));clear hx a0 G hS U x;go_wp2_with fail
  go_ret2
  exact⟨.inr ⟨HL.out,rfl⟩,X2.out⟩
 case' inl =>
  have HE:=h! K;have HL:=h! (show(walkN ts T shut p n).1.length=n from K.2.symm);have HN:=h! (show n<=1000000 from by have:=a5.out.few n;rw[HL.out]at this;exact this);have X2:=h! (Ext.alloc w1 (.cells #[.slice po (walkN ts T shut p n).1.length pc,.slice fo (walkN ts T shut p n).2.length fc] 96));have V:=h! ((x.same (w':=w1.alloc (.cells #[.slice po (walkN ts T shut p n).1.length pc,.slice fo (walkN ts T shut p n).2.length fc] 96)) fun b hb=>X2.out.block b hb.2).mono fun b hb=>n1! hb.2 X2.out.size);have XW:Hid (Ext w (w1.alloc (.cells #[.slice po (walkN ts T shut p n).1.length pc,.slice fo (walkN ts T shut p n).2.length fc] 96))):=h! (Ext.trans XB.out (Ext.trans hx X2.out));have XS:=h! (Ext.trans hx X2.out);have BG:=h! (Blk.made w1 #[.slice po (walkN ts T shut p n).1.length pc,.slice fo (walkN ts T shut p n).2.length fc] 96);have I:=h! (fy! (.slice to T.length tc) T typ (w1.alloc (.cells #[.slice po (walkN ts T shut p n).1.length pc,.slice fo (walkN ts T shut p n).2.length fc] 96)) ((M.out.same (Same.below XS.out)).mono fun _ hb=>n1! hb XS.out.size) HT.out);clear hx x K G hS U;go_wp2_with fail
  obtain⟨w2,A⟩:=e! (w1.alloc (.cells #[.slice po (walkN ts T shut p n).1.length pc,.slice fo (walkN ts T shut p n).2.length fc] 96));rw[<-A]at V XW BG I;try rw[<-A]
  clear A X2 XS;obtain⟨gb,E⟩:=e! w1.heap.size;rw[<-E]at BG;try rw[<-E]
  clear E;refine I.out.mono ?_;rintro e w3 ⟨v,l,rfl,F,hm,ho,a1⟩;have Z:Hid (Ext w2 w3):=h! a1;have a6:=h! F;have HM:=h! hm
  have Q:=h! (show l.length<=80000 from by
   have h1:=gR! (T:=T) F.nodup fun o ho=>((hm o).1 ho).2;have:=HT.out;omega)
  obtain⟨vo,vc,rfl,-,-,a⟩:=Sl.rows aC! (by decide) (show Sl _ w3 2 v (l.flatMap oC)from ho.slU);have a4:=h! a;clear ho F hm a1 a I;go_wp2_with fail
  go_loopw [16,34] (fun ov jv wr=>∃i:Nat,i<=l.length/\jv= .int .i64 i/\Own wr w3.heap.size 30 2 ov (ocs ((l.take i).filter (inB (walkN ts T shut p n).2 n)))/\Ext w3 wr) (fun _ jv _=>l.length-(intOf jv).toNat)
  case atStart=>exact⟨0,v1! _,rfl,by simpa [ocs] using Own.nil w3 w3.heap.size 30 2,Ext.refl _⟩
  case round =>
   obtain⟨i,hi,rfl,f,hx⟩:=hrel;have HO:=h! f;have HX:=h! hx;clear f hx;by_cases hlt:i<l.length
   ·have O:=h! (n2! hlt)
    have X:=h! (show((l.take i).filter (inB (walkN ts T shut p n).2 n)).length<=80000 from by
     have h1:=x8! (inB (walkN ts T shut p n).2 n) (l.take i);rw[x4!]at h1;have:=Q.out;omega)
    obtain⟨b2,d,rfl,ac,H⟩:=a4.out (by omega);have e0:=Ext.cell HX.out (H i hlt 0 _ rfl);have e1:=Ext.cell HX.out (H i hlt 1 _ rfl);have k:=h! hlt;have u:=h! (show wrap64 ((i:Int)+1)=((i+1:Nat):Int)from by have:=Q.out;unfold wrap64;omega);have ad:(i:Int)<(l.length:Int):=by omega
    clear H ac;generalize l[i]=o at *;clear hlt;obtain⟨ot,oi⟩:=o;dsimp only at e0 e1;have d0:wr.cell? ⟨b2,d+i*2,none⟩=some (.string ot):=e0;have d1:wr.cell? ⟨b2,d+i*2+1,none⟩=some (.string oi):=e1;clear e0 e1;have X4:=Ext.alloc wr (.cells #[.string ot,.string oi] 30);have BO:=h! (Blk.made wr #[.string ot,.string oi] 30);have J:Hid (Ext w3 _):=h! (HX.out.trans X4);have B:=h! (Z.out.trans J.out);have R:=h! (HO.out.below X4);have g:=h! (hK! (oS ⟨ot,oi⟩) (walkN ts T shut p n).1 (walkN ts T shut p n).2 (.slice po (walkN ts T shut p n).1.length pc) (.slice fo (walkN ts T shut p n).2.length fc) _ (V.out.up B.out) (by rw[HL.out];exact HN.out));unfold pV oS at g;dsimp only at g;have c1:=(BG.out.below B.out).cells;have c4:=BO.out.cells;clear X4;go_wp2_with fail
    clear c1 c4 d0 d1;obtain⟨w4,y⟩:=e! (wr.alloc (.cells #[.string ot,.string oi] 30));rw[<-y]at BO J R g;try rw[<-y]
    clear y B;refine g.out.mono ?_;rintro e w5 ⟨⟨v5,rfl,Y⟩,j⟩;have N:Hid (Ext w3 w5):=h! (J.out.trans j);have C:=h! (R.out.below j);have ab:=h! (BO.out.below j);have c5:=ab.out.cells;obtain⟨g5,ae,rfl,k5⟩:=hJ! Y (by rw[HL.out];show 0<(outN _ _ _ _).length;rw[aK!];exact HE.out.pos);rw[HL.out]at k5;have q:Hid (inB (walkN ts T shut p n).2 n ⟨ot,oi⟩=decide (0<(aR! (walkN ts T shut p n).2 ⟨ot,oi,⟨#[]⟩⟩ n).getD 0 0)):=h! rfl
    have a7:(0:Int)<(((aR! (walkN ts T shut p n).2 ⟨ot,oi,⟨#[]⟩⟩ (walkN ts T shut p n).1.length).length:Nat):Int):=by
     have:0<(aR! (walkN ts T shut p n).2 ⟨ot,oi,⟨#[]⟩⟩ (walkN ts T shut p n).1.length).length:=by rw[HL.out];show 0<(outN _ _ _ _).length;rw[aK!];exact HE.out.pos
     omega
    generalize (aR! (walkN ts T shut p n).2 ⟨ot,oi,⟨#[]⟩⟩ n).getD 0 0=z at *;generalize (aR! (walkN ts T shut p n).2 ⟨ot,oi,⟨#[]⟩⟩ (walkN ts T shut p n).1.length).length=m5 at *;clear j g Y;by_cases hz:0<z
    rotate_left
    ·rw[v3! hz]at q
     have a3:=h! (show Own w5 w3.heap.size 30 2 u16 (ocs ((l.take (i+1)).filter (inB (walkN ts T shut p n).2 n)))from by
      rw[O.out,List.filter_append,List.filter_cons_of_neg (by rw[q.out];decide)];simpa using C.out)
     go_wp2_with fail
     go_roundw
     case rel=>exact⟨i+1,k.out,by first | rw[u.out] | go_num,a3.out,N.out⟩
     case measure=>have:=k.out;(try rw[u.out]);simp[intOf];omega
    ·rw[v2! hz]at q;have X6:=Ext.alloc w5 (.cells #[.string ot,.string oi] 30);have a2:=h! (C.out.below X6);have L:Hid (Ext w3 _):=h! (N.out.trans X6);obtain⟨uo,un,uc,rfl,-⟩:=C.out.sl.len;clear X6;go_wp2_with (at_builtin;go_must (refine aE! aM! rfl (.tmp 45) (.tmp 47) rfl rfl a2.out rfl (m:=1) (news:=[.string ot,.string oi]) rfl (dT! _ _ _ _) (by simp[Value.oneCell']) (by have:=X.out;rw[aa!];simp at *;omega) (by have:=X.out;rw[aa!];simp at *;omega) (by have:=L.out.size;omega) ?_;intro v6 w6 hown6 hb6 hg6;have a9:=h! (show Own w6 w3.heap.size 30 2 v6 (ocs ((l.take (i+1)).filter (inB (walkN ts T shut p n).2 n)))from by(rw[O.out,List.filter_append,List.filter_cons_of_pos q.out,aP!];simpa [ocs,oC] using hown6));have aa:Hid (Ext w3 w6):=h! (be! L.out a2.out hg6 L.out.size);clear hown6 hb6 hg6))
     go_roundw
     case rel=>exact⟨i+1,k.out,by first | rw[u.out] | go_num,a9.out,aa.out⟩
     case measure=>have:=k.out;(try rw[u.out]);simp[intOf];omega
   ·obtain rfl:i=l.length:=by omega
    rw[u2!]at HO;have XE:Hid (Ext w wr):=h! (XW.out.trans (Z.out.trans HX.out));have a8:=h! HO.out.slU;obtain⟨uo,un,uc,rfl,-⟩:=HO.out.sl.len;clear hlt hi;go_wp2_with fail
    go_ret2
    refine⟨.inl ⟨n,_,_,HE.out,rfl,a8.out,a6.out.filter _,fun o=>?_⟩,XE.out⟩;rw[List.mem_filter,HM.out o,HE.out.den_iff (oS o)];unfold inB;rw[u1!];exact⟨fun h=>⟨h.1.1,h.2⟩,fun h=>⟨⟨h.1,lZ! HE.out HC.out h.2⟩,h.2⟩⟩
theorem lg! (v1 v2:Value)(l:List O2)(w:World)(h1:Sl (· < w.heap.size) w 2 v1 (ocs l))(h2:Sl (· < w.heap.size) w 2 v2 (ocs l)):Calls prog 62 #[v1,v2] w fun e w'=>e= .returned (.bool true)/\Below w.heap.size w w':=by
 obtain⟨ao,c,rfl,a4,a3,t⟩:=Sl.rows aC! (by decide) (show Sl _ w 2 v1 (List.flatMap oC l)from h1);obtain⟨a5,c2,rfl,a1,a2,j⟩:=Sl.rows aC! (by decide) (show Sl _ w 2 v2 (List.flatMap oC l)from h2);have HC:=h! t;have a0:=h! j;clear t j h1 h2;go_enter func62,ntmps62
 go_wp2_with fail
 go_loopw [13] (fun ii wr=>∃i:Nat,i<=l.length/\ii= .int .i64 i/\Below w.heap.size w wr) (fun ii _=>l.length-(intOf ii).toNat)
 case atStart=>exact⟨0,by omega,rfl,Below.refl _ _⟩
 case round =>
  obtain⟨i,hi,rfl,g⟩:=hrel;by_cases hlt:i<l.length
  ·obtain⟨b,k,rfl,hb,t⟩:=HC.out (by omega);obtain⟨s,f,rfl,o,j⟩:=a0.out (by omega);have q:=t i hlt 0 _ rfl;have c1:=t i hlt 1 _ rfl;have r:=j i hlt 0 _ rfl;have e1:=j i hlt 1 _ rfl;clear t j;generalize l[i]=x at *;obtain⟨xt,xi⟩:=x;rw[Nat.add_zero]at q r;dsimp only at q c1 r e1;go_wp2_with fail
   obtain⟨u,m⟩:=e! wr.drew;have a:=g.drew;rw[<-m]at a;refine re! m ?_;clear m g;have g0:∀W,Ext u W->W.cell? ⟨b,k+i*2,none⟩=some (.string xt):=fun W h=>((Below.cell (a.trans (h.mono a.size)) (p:=⟨b,k+i*2,none⟩) hb)).trans q;have g1:∀W,Ext u W->W.cell? ⟨b,k+i*2+1,none⟩=some (.string xi):=fun W h=>((Below.cell (a.trans (h.mono a.size)) (p:=⟨b,k+i*2+1,none⟩) hb)).trans c1;have k0:∀W,Ext u W->W.cell? ⟨s,f+i*2,none⟩=some (.string xt):=fun W h=>((Below.cell (a.trans (h.mono a.size)) (p:=⟨s,f+i*2,none⟩) o)).trans r;have k1:∀W,Ext u W->W.cell? ⟨s,f+i*2+1,none⟩=some (.string xi):=fun W h=>((Below.cell (a.trans (h.mono a.size)) (p:=⟨s,f+i*2+1,none⟩) o)).trans e1;(refine WalkN.tk [0,1,2,3,4,5,6,7,8] ?_;(iterate 9 (refine c! ?_));refine TkN.n ?_)
   refine d! ?_;clear q c1 r e1 g0 g1 k0 k1;go_wp2_with fail
   go_roundw
   case rel=>exact⟨i+1,by omega,by go_num,a⟩
   case measure=>simp[intOf];omega
  ·obtain rfl:i=l.length:=by omega
   go_wp2_with fail
   go_ret
   exact⟨rfl,g⟩
structure BI (ts:List TyS)(N0:Nat)(L A:List R2)(ch:Bool)(pr:List (R2 × RT)):Prop where
 upL:UpR L
 upA:UpR A
 least:pO! ts L
 subA:∀x∈A,x∈(ac! ts).map (·.1)
 len0:N0<=L.length
 more:ch=true->N0<L.length
 done:∀p∈pr,p.1∈A/\(ch=false->p.2.pcan (ac! ts) L p.1.t=true->p.1∈L)
theorem oh! {ts:List TyS}(h:chk06 ts=0):bR! ts=true:=by
 unfold chk06 at h;split at h
 ·split at h
  ·assumption
  ·cases h
 ·cases h
theorem jy! {ts:List TyS}(h:bR! ts=true):ts.length<=16/\∀t∈ts,t.rels.length<=16/\∀r∈t.rels,r.2.sz<=32:=by
 unfold bR! at h;rw[v0!,u1!,u8!]at h;refine⟨h.1,fun t ht=>?_⟩;have a:=h.2 t ht;unfold bi! at a;rw[v0!,u1!,u8!]at a;exact⟨a.1,fun r hr=>by simpa using a.2 r hr⟩
theorem ha! {ts:List TyS}(h:bR! ts=true):(ac! ts).length<=256:=by
 obtain⟨h1,h2⟩:=jy! h;have:=mJ! (fun t:TyS=>aW! t.name t.rels) 16 ts fun t ht=>by unfold aW!;rw[x1!];exact(h2 t ht).1
 unfold ac!;omega
end Go.Proofs.YtlhaghoajpglaaaGreat
namespace Go.Proofs.YtlhaghoajpglaaaGreat
open Go Go.RowKit Go.ChangeShapes Go.WideShapes Go.ChangeAt Go.Proofs.Tryz
def bc (l:List UInt8):List Value:=l.map fun c => .int .u8 c.toNat
section
variable {H : Type} {enc : TypeId × Value -> H} {W : World} {base : Nat} {v : Value} {d : DataW H} {ps : List MemPlace}
end
end Go.Proofs.YtlhaghoajpglaaaGreat
namespace Go.Proofs.YtlhaghoajpglaaaGreat
open Go Go.RowKit Go.Maps Go.Proofs.Tryz
def Tp (w:World)(tp:Nat):Prop:=∃(bv:Value)(l:List UInt8)(n:Nat),n<=l.length/\Sl (· < tp) w 1 bv (bc l)/\Blk w tp #[bv,.int .i64 n] 41
abbrev KT (tp:Nat) (w w':World):Prop:=Kept (fun b=>b<w.heap.size/\b≠tp) w w'
theorem mD! (r:RT):r.nms.length<=2*r.sz:=by
 induction r using RT.ind with
 | h r ih =>
  have:∀l:List RT,(∀x∈l,x∈r.ps)->(nmsL l).length<=2*szL l:=by
   intro l;induction l with
   | nil=>intro _;simp[nmsL]
   | cons x l ihl =>
    intro hx;rw[nmsL,szL,u4!];have h1:=ih x (hx x (by simp));have h2:=ihl fun y hy=>hx y (u9! _ hy);omega
  have h:=this r.ps fun _ h=>h;rw[RT.nms_eq,u7!,u7!];obtain⟨k,a,b,ps⟩:=r;rw[RT.sz];simp only[RT.ps]at h ⊢;omega
theorem pI! (r:RT)(h:r.Ok):∀n∈r.nms,n.size<=maxLen:=by
 induction r using RT.ind with
 | h r ih =>
  obtain⟨k,a,b,ps⟩:=r;rw[RT.Ok]at h;intro n hn;rw[RT.nms_eq]at hn;simp only[RT.a,RT.b,RT.ps,v7!]at hn;rcases hn with rfl | rfl | hn
  ·exact n6! h.2.1 (by decide)
  ·exact n6! h.2.2.1 (by decide)
  ·have hp:=jh!.1 h.2.2.2
   have:∀l:List RT,(∀x∈l,x∈ps)->∀n∈nmsL l,n.size<=maxLen:=by
    intro l;induction l with
    | nil=>intro _ n hn;simp[nmsL]at hn
    | cons x l ihl =>
     intro hx n hn;rw[nmsL,u3!]at hn;rcases hn with hn | hn
     ·exact ih x (hx x (by simp)) (hp x (hx x (by simp))) n hn
     ·exact ihl (fun y hy=>hx y (u9! _ hy)) n hn
   exact this ps (fun _ h=>h) n hn
def allN (ts:List TyS):List ByteArray:=(ac! ts).flatMap fun x=>x.2.nms
theorem gC! (ts:List TyS):NmU ts (allN ts):=fun x hx _n hn=>List.mem_flatMap.2 ⟨x,hx,hn⟩
theorem eS! {α β:Type}(f:α->List β)(m:Nat):∀(l:List α),(∀x∈l,(f x).length<=m)->(l.flatMap f).length<=l.length*m
 | [],_=>by simp
 | a::l,h=>by
  rw[y5!,u4!,u7!,Nat.add_mul];have h1:=h a (by simp);have h2:=eS! f m l fun x hx=>h x (u9! _ hx);omega
theorem fs! {ts:List TyS}(h:bR! ts=true):∀x∈ac! ts,x.2.sz<=32:=fun x hx=>by
 obtain⟨t,ht,r,hr,rfl⟩:=aY!.1 hx;unfold bR! at h;rw[v0!,u8!]at h;have h2:=h.2 t ht;unfold bi! at h2;rw[v0!,u8!]at h2;simpa using h2.2 r hr
theorem mA! {ts:List TyS}(h:∀t∈ts,t.Ok):∀x∈ac! ts,x.2.Ok:=fun x hx=>by
 obtain⟨t,ht,r,hr,rfl⟩:=aY!.1 hx;exact((h t ht).2 r hr).2
def objU (T:List Tup)(p:P3):List (ByteArray × ByteArray):=(p.t,p.i)::T.map fun t=>(t.s.t,t.s.i)
def namU (N:List ByteArray)(T:List Tup)(p:P3):List ByteArray:=p.r::(T.map fun t=>t.s.r)++N
theorem okU (T:List Tup)(p:P3)(N:List ByteArray):OkU T (objU T p) (namU N T p) where
 objs t ht:=u9! _ (u6!.2 ⟨t,ht,rfl⟩)
 rels t ht:=by unfold namU;rw[x2!];exact u9! _ (List.mem_append_left _ (u6!.2 ⟨t,ht,rfl⟩))
theorem jQ! {ts:List TyS}(T:List Tup)(shut:List R2)(p:P3) {N:List ByteArray}(hN:NmU ts N)(n:Nat):∀x∈(walkN ts T shut p n).1,InU (objU T p) (namU N T p) x :=
 iq! (okU T p N) (fun x hx m hm=>by unfold namU;rw[x2!];exact u9! _ (List.mem_append_right _ (hN x hx m hm))) shut ⟨by simp[objU],by simp[namU]⟩ n
theorem ip! {ts:List TyS}(T:List Tup)(shut:List R2)(p:P3) {N:List ByteArray}(hN:NmU ts N)(n:Nat):(walkN ts T shut p n).1.length<=(T.length+1)*(T.length+N.length+1):=by
 have h:=pf! (ed! ts T shut p n) (jQ! T shut p hN n);simp only[objU,namU,u7!,u4!,x1!]at h;rwa[show T.length+1+N.length=T.length+N.length+1 by omega]at h
theorem ir! {ts:List TyS}{T:List Tup}(shut:List R2) {p:P3}(hc:bR! ts=true)(hok:∀t∈ts,t.Ok)(hT:T.length<=100)(hTo:∀t∈T,t.Ok)(hp:p.Ok):gD! ts T shut p 2000000 where
 okp n x hx:=by
  have h:=jQ! T shut p (gC! ts) n x hx
  have hN:∀m∈allN ts,m.size<=maxLen:=fun m hm=>by
   obtain⟨y,hy,hm⟩:=List.mem_flatMap.1 hm;exact pI! _ (mA! hok y hy) m hm
  obtain⟨b,g⟩:=h
  have hO:x.t.size<=maxLen/\x.i.size<=maxLen:=by
   rcases v7!.1 b with b | b
   ·have d:=congrArg Prod.fst b;have c:=congrArg Prod.snd b;dsimp only at d c;rw[d,c];exact⟨hp.1,hp.2.1⟩
   ·obtain⟨t,f,e⟩:=u6!.1 b;have a:=(hTo t f).2;have d:=congrArg Prod.fst e;have c:=congrArg Prod.snd e;dsimp only at d c;rw[<-d,<-c];exact⟨a.1,a.2.1⟩
  refine⟨hO.1,hO.2,?_⟩;unfold namU at g;rw[x2!,v7!,u3!]at g;rcases g with g | g | g
  ·rw[g];exact hp.2.2
  ·obtain⟨t,f,e⟩:=u6!.1 g;rw[<-e];exact(hTo t f).2.2.2
  ·exact hN _ g
 few n:=by
  have h:=ip! T shut p (gC! ts) n
  have g:(allN ts).length<=256*64:=by
   have a:=eS! (fun x:R2 × RT=>x.2.nms) 64 (ac! ts) fun x hx=>by have:=mD! x.2;have:=fs! hc x hx;omega
   have h4:=ha! hc;unfold allN;exact n6! a (y7! _ h4)
  have h5:(T.length+1)*(T.length+(allN ts).length+1)<=101*(100+256*64+1):=Nat.mul_le_mul (by omega) (by omega);omega
 room x hx:=by
  have b:=fs! hc x hx;have g:x.2.sz*(T.length+1)<=32*101:=Nat.mul_le_mul b (by omega);omega
 nmax:=by omega
 rok:=mA! hok
 tok t f:=(hTo t f).2
 tlen:=by omega
theorem HasArg.of {ts:List TyS}{T:List Tup}{shut:List R2}{p:P3}(hc:chk06 ts=0)(hok:∀t∈ts,t.Ok)(hb:schB ts<=549755813888)(hn:(al! ts).length<=1099511627776)(hr:(ac! ts).length<=1099511627776)(hT:T.length<=41)(hTo:∀t∈T,t.Ok)(hp:p.Ok)(hso:∀r∈shut,r.Ok):HasArg ts T shut p:=by
 have b:=oh! hc;have c:=ir! (T:=T) shut b hok (by omega) hTo hp;have a0:∀t∈ts,∀r∈t.rels,r.2.sz<=32:=fun t ht r hr'=>fs! b ⟨⟨t.name,r.1⟩,r.2⟩ (aY!.2 ⟨t,ht,r,hr',rfl⟩)
 have hN:∀n,(walkN ts T shut p n).1.length<=1000000:=fun n=>by
  have h:=ip! T shut p (gC! ts) n
  have h2:(allN ts).length<=256*64:=by
   have h3:=eS! (fun x:R2 × RT=>x.2.nms) 64 (ac! ts) fun x hx=>by have:=mD! x.2;have:=fs! b x hx;omega
   have h4:=ha! b;unfold allN;exact n6! h3 (y7! _ h4)
  have h5:(T.length+1)*(T.length+(allN ts).length+1)<=42*(41+256*64+1):=Nat.mul_le_mul (by omega) (by omega);omega
 have a:∀x∈ac! ts,x.2.sz*(T.length+1)<=32*42:=fun x hx=>Nat.mul_le_mul (fs! b x hx) (by omega)
 exact⟨hok,hc,hb,fun t ht r hr'=>n6! (a0 t ht r hr') (by decide),hn,hr,hso,
  ⟨c.okp,hN,fun x hx=>by have:=a x hx;omega,by decide,c.rok,c.tok,c.tlen⟩,fun x hx=>by have:=a x hx;omega⟩
def viB:ByteArray:=⟨#[118,105,101,119,101,114]⟩
def usB:ByteArray:=⟨#[117,115,101,114]⟩
def thB:ByteArray:=⟨#[116,104,105,115]⟩
def txtL:ByteArray:=⟨#[116,121,112,101,32,100,111,99,10,118,105,101,119,101,114,32,61,32,116,104,105,115,10,116,121,112,101,32,117,115,101,114]⟩
def itsL:List PIt:=[.ty docB,.rel viB thB [],.ty usB]
def lnsL:List ByteArray:=[⟨#[116,121,112,101,32,100,111,99]⟩,⟨#[118,105,101,119,101,114,32,61,32,116,104,105,115]⟩,⟨#[116,121,112,101,32,117,115,101,114]⟩]
def tsL:List TyS:=[⟨docB,[(viB,.mk 1 ⟨#[]⟩ ⟨#[]⟩ [])]⟩,⟨usB,[]⟩]
theorem pd!:dZ! txtL=lnsL:=by kernel_rfl
theorem stepL:itsL.foldl stepD []=tsL:=by kernel_rfl
theorem pK!:(lnsL.zip itsL).all (fun p=>lnOkB p.1 p.2)=true:=by kernel_rfl
theorem fitsL:itsL.all PIt.fitB=true:=by kernel_rfl
theorem chkL:chk06 tsL=0:=by kernel_rfl
theorem okL_:∀t∈tsL,t.Ok:=by
 intro t ht;unfold tsL at ht;simp only[v7!,List.not_mem_nil,or_false]at ht;rcases ht with rfl | rfl
 ·refine⟨by decide,fun r hr=>?_⟩;obtain rfl:=n9!.1 hr;exact⟨by decide,by simp[RT.Ok,okL];decide⟩
 ·exact⟨by decide,fun r hr=>by cases hr⟩
def pL:P3:=⟨docB,⟨#[49]⟩,viB⟩
def uL:P3:=⟨usB,⟨#[50]⟩,⟨#[]⟩⟩
def TLk:List Tup:=[⟨pL,uL⟩]
theorem setTL:SetT TLk TLk:=⟨List.pairwise_singleton _ _,fun t=>⟨fun h=>⟨h,by
 obtain rfl:=n9!.1 h;kernel_rfl⟩,fun h=>h.1⟩⟩
theorem okTL:∀t∈TLk,t.Ok:=by
 intro t ht;obtain rfl:=n9!.1 ht;exact⟨⟨by decide,by decide,by decide⟩,⟨by decide,by decide,by decide⟩⟩
theorem argL {p:P3}(hp:p.Ok):HasArg tsL TLk [] p:=HasArg.of chkL okL_ (by decide) (by decide) (by decide) (by decide) okTL hp (by simp)
theorem endL:qa! tsL TLk [] pL 9 1:=by
 have h0:(walkN tsL TLk [] pL 0).1.length=1:=by kernel_rfl
 have h1:(walkN tsL TLk [] pL 1).1.length=1:=by kernel_rfl
 refine⟨fun m hm=>?_,h1.symm⟩;obtain rfl:m=0:=by omega
 rw[h0];exact⟨by decide,by decide⟩
theorem ruleL:bb! tsL [] pL=some (.mk 1 ⟨#[]⟩ ⟨#[]⟩ []):=by rfl
theorem denL {s:P3}:Den tsL TLk [] s pL↔s=uL:=by
 have hs:ak! TLk pL=[uL]:=by rfl
 constructor
 ·rintro⟨n,h⟩;induction n with
  | zero=>exact h.elim
  | succ n ih =>
   rcases h with h | ⟨r,hr,h⟩
   ·exact ih h
   ·rw[ruleL]at hr;cases hr;rw[gn!,if_pos (show(RT.mk 1 ⟨#[]⟩ ⟨#[]⟩ []).k=1 from rfl),hs]at h;rcases h with h | ⟨q,hq,-⟩
    ·exact n9!.1 h
    ·have:=iJ!.1 hq;rw[n9!.1 this.1]at this;exact absurd rfl this.2
 ·rintro rfl;exact Den.said (t:=⟨pL,uL⟩) (n9!.2 rfl) ruleL rfl
theorem nj! {l:List O2}(h:SubL tsL TLk [] pL usB l):l=[⟨usB,⟨#[50]⟩⟩]:=by
 refine ds! h.1 (List.pairwise_singleton _ _) fun x=>?_;rw[h.2 x,denL,n9!];constructor
 ·rintro⟨-,h2⟩;exact lp! h2
 ·rintro rfl;exact⟨rfl,rfl⟩
theorem jj! {l:List O2}(h:or! TLk docB l):l=[⟨docB,⟨#[49]⟩⟩]:=by
 refine ds! h.1 (List.pairwise_singleton _ _) fun x=>?_;rw[h.2 x,n9!];unfold ObjIn;constructor
 ·rintro⟨h1,t,ht,h2⟩;obtain rfl:=n9!.1 ht;rcases h2 with rfl | rfl
  ·rfl
  ·exact absurd h1 (by decide)
 ·rintro rfl;exact⟨rfl,_,n9!.2 rfl,.inl rfl⟩
theorem filtL : [(⟨docB,⟨#[49]⟩⟩:O2)].filter (denB tsL TLk [] uL viB)=[⟨docB,⟨#[49]⟩⟩]:=by
 rw[List.filter_cons_of_pos,List.filter_nil];exact kk!.2 (denL.2 rfl)
theorem ni! {e:Ending}{w':World}(h:kE! tsL TLk [] pL usB 9 (.int .i64 0) (.int .i64 10) e w'):∃v,e= .returned (.tuple #[v,.int .i64 0])/\Sl (· < w'.heap.size) w' 2 v (ocs [⟨usB,⟨#[50]⟩⟩]):=by
 rcases h with⟨n,v,l,-,rfl,hs,hl⟩|⟨hl,-⟩
 ·rw[nj! hl]at hs;exact⟨v,rfl,hs⟩
 ·exact absurd hl endL.notLong
theorem nv! {e:Ending}{w':World}(h:kF! tsL TLk [] docB viB uL 9 (.int .i64 0) (.int .i64 10) e w'):∃v,e= .returned (.tuple #[v,.int .i64 0])/\Sl (· < w'.heap.size) w' 2 v (ocs [⟨docB,⟨#[49]⟩⟩]):=by
 obtain⟨l,hl,⟨v,-,rfl,hs⟩|⟨⟨o,ho,h⟩,-⟩⟩:=h
 ·rw[jj! hl,filtL]at hs;exact⟨v,rfl,hs⟩
 ·rw[jj! hl]at ho;rw[n9!.1 ho]at h;exact absurd h endL.notLong
theorem row1 {w:World}{v:Value}{a:O2}(h:Sl (· < w.heap.size) w 2 v (ocs [a])):∃b off c,v= .slice (some ⟨b,off,none⟩) 1 c/\b<w.heap.size/\w.cell? ⟨b,off,none⟩=some (.string a.t)/\w.cell? ⟨b,off+1,none⟩=some (.string a.i):=by
 obtain⟨ao,c,rfl,-,-,d⟩:=Sl.rows aC! (by decide) (show Sl _ w 2 v (List.flatMap oC [a])from h);obtain⟨b,off,rfl,hb,d⟩:=d (by simp);have h0:=d 0 (by simp) 0 _ rfl;have h1:=d 0 (by simp) 1 _ rfl;rw[Nat.zero_mul,Nat.add_zero]at h0 h1;exact⟨b,off,c,rfl,hb,h0,h1⟩
theorem ij! (w:World):Calls prog 58 #[] w fun e w'=>e= .returned (.bool true)/\Below w.heap.size w w':=by
 have z:=h! (ln! txtL itsL w (by decide) (by rw[pd!];rfl) (by rw[pd!];exact nG! pK!) (pl! fitsL) (fun _=>⟨docB,rfl⟩) (by decide));rw[stepL]at z;unfold txtL at z;go_enter func58,ntmps58
 go_wp2_with fail
 refine z.out.mono ?_;rintro e w1 ⟨tv,rfl,J,X⟩;obtain⟨k,ct,rfl,-,-,-⟩:=J.rows;rw[show tsL.length=2 from rfl]at *;have A:=h! (Ext.alloc w1 (.cells #[.slice k 2 ct] 26));have M:=h! ((J.mono (S':=(· < w1.heap.size)) fun b hb=>hb.2).up A.out);have v:Hid (Below w.heap.size w _):=h! (X.trans (A.out.mono X.size));have O:=h! (Blk.made w1 #[.slice k 2 ct] 26);clear J X z;obtain⟨wS,y⟩:=e! (w1.alloc (.cells #[.slice k 2 ct] 26));rw[<-y]at A M v O;obtain⟨wt,B⟩:=e! (wS.alloc (.cells #[.string ⟨#[100,111,99]⟩,.string ⟨#[49]⟩,.string ⟨#[118,105,101,119,101,114]⟩,.string ⟨#[117,115,101,114]⟩,.string ⟨#[50]⟩,.string ⟨#[]⟩] 67));obtain⟨wr,N⟩:=e! (wt.alloc (.cells #[.string ⟨#[100,111,99]⟩,.string ⟨#[49]⟩,.string ⟨#[118,105,101,119,101,114]⟩,.string ⟨#[117,115,101,114]⟩,.string ⟨#[50]⟩,.string ⟨#[]⟩] 67));have XT:=h! (show Ext wS wt from xa! B);have XR:=h! (show Ext wt wr from xa! N);have BT:=h! (show Blk wt (w1.heap.size+1) #[.string ⟨#[100,111,99]⟩,.string ⟨#[49]⟩,.string ⟨#[118,105,101,119,101,114]⟩,.string ⟨#[117,115,101,114]⟩,.string ⟨#[50]⟩,.string ⟨#[]⟩] 67 from by rw[B,<- (show wS.heap.size=w1.heap.size+1 from by rw[y];simp)];exact Blk.made _ _ _);have es:wS.heap.size=w1.heap.size+1:=by rw[y];simp
 have et:wt.heap.size=w1.heap.size+1+1:=by rw[B];simp[es]
 have a7:=h! (show Sl (fun b=>b<wr.heap.size) wr 6 (.slice (some ⟨w1.heap.size+1+1,0,none⟩) 1 1) (tuCs TLk)from by
  rw[<-et,N];exact Sl.made wt _ 6 1 67 _ rfl (by decide) (by simp))
 have a8:=h! (eY! setTL (.slice (some ⟨w1.heap.size+1+1,0,none⟩) 1 1) wr a7.out (by decide) okTL);have bt:=BT.out.cells;clear es et;subst N B y;go_wp2_with fail
 clear bt;refine a8.out.mono ?_;rintro e w5 ⟨bk,rfl,a9,I⟩;have X5:Hid (Ext _ w5):=h! ((XT.out.trans XR.out).trans I);have i:=h! (M.out.up X5.out);have s:=h! (O.out.below X5.out);have D:=h! (BT.out.below (XR.out.trans I));have Q:Hid (Below w.heap.size w w5):=h! (v.out.trans (Below.mono X5.out v.out.size));have L:=h! a9;clear a9 I a8 a7 XT XR X5 M O BT v A;obtain⟨sb,a5⟩:∃x,Hid (x=w1.heap.size):=⟨_,h! rfl⟩;obtain⟨tb,a6⟩:∃x,Hid (x=w1.heap.size+1):=⟨_,h! rfl⟩;obtain⟨rb,ai⟩:∃x,Hid (x=w1.heap.size+1+1):=⟨_,h! rfl⟩;rw[<-a6.out]at D;rw[<-a5.out]at s;rw[<-ai.out,<-a6.out];try rw[<-a5.out]
 have af:=s.out.cells;have ak:=D.out.cells;have C:=h! ((dx! tsL (.slice k 2 ct) bk TLk [] (.slice none 0 0) pL usB 9 w5 i.out (argL ⟨by decide,by decide,by decide⟩) L.out (Sl.nil _ _ _)).mono fun e w' h=>And.intro (ni! h.1) h.2);unfold pV pL docB usB viB at C;dsimp only at C;go_wp2_with fail
 clear af ak;refine C.out.mono ?_;rintro e w6 ⟨⟨v6,rfl,K⟩,j⟩;have ag:=h! K;have f:=h! (i.out.up j);have T:=h! (s.out.below j);have a1:=h! (D.out.below j);have a0:Hid (Below w.heap.size w w6):=h! (Q.out.trans (Below.mono j Q.out.size));have m:=h! (L.out.ext j);obtain⟨b6,ac,c6,rfl,ao,r,q⟩:=row1 K;clear K j C i s D Q L;have ap:=T.out.cells;have ae:=a1.out.cells
 have E:=h! ((hR! tsL (.slice k 2 ct) bk TLk [] (.slice none 0 0) docB viB uL 9 w6 f.out (fun o h1 h2=>argL ⟨by rw[h1];show docB.size<=maxLen;decide,by
   obtain⟨t,ht,h3⟩:=h2;obtain rfl:=n9!.1 ht;rcases h3 with rfl | rfl
   ·decide
   ·decide,by show viB.size<=maxLen;decide⟩) okL_ chkL (by decide) (nf! (by decide)) (by decide) (by decide) (by decide) (by decide) m.out (Sl.nil _ _ _)).mono fun e w' h=>And.intro (nv! h.1) h.2)
 unfold r2V pV uL docB usB viB at E;dsimp only at E;go_wp2_with fail
 clear ap ae;refine E.out.mono ?_;rintro e w7 ⟨⟨v7,rfl,aa⟩,a⟩;have p:=h! (f.out.up a);have a2:=h! (T.out.below a);have H:=h! (a1.out.below a);have V:Hid (Below w.heap.size w w7):=h! (a0.out.trans (Below.mono a a0.out.size));have U:=h! (And.intro (Ext.cell a r) (Ext.cell a q));obtain⟨b7,ah,c7,rfl,al,u,F⟩:=row1 aa;clear aa a E f T a1 a0 m ao r q ag;have am:=a2.out.cells;have ad:=H.out.cells;have G:=h! (gh! tsL (.slice k 2 ct) (.slice none 0 0) (.int .i64 9) ⟨#[]⟩ ⟨#[]⟩ uL w7 p.out okL_ chkL (by decide) (nf! (by decide)) (by decide) (by decide));unfold r2V pV uL usB at G;dsimp only at G;go_wp2_with fail
 clear am ad;refine G.out.mono ?_;rintro e w8 ⟨rfl,g⟩;have an:=h! (H.out.below g);have ab:Hid (Below w.heap.size w w8):=h! (V.out.trans (Below.mono g V.out.size));have r:=Ext.cell g U.out.1;have q:=Ext.cell g U.out.2;have u:=Ext.cell g u;have F:=Ext.cell g F;clear g G p a2 H V al U;go_wp2_with fail
 obtain⟨wd,Z⟩:∃wd,Hid (wd=w8.drew):=⟨_,h! rfl⟩;have l:=h! (show Ext w8 wd from xd! Z.out);have aj:Hid (Below w.heap.size w wd):=h! (ab.out.trans (Below.mono l.out ab.out.size));refine re! Z.out ?_;have R:=fun W (h:Ext wd W)=>Ext.cell (l.out.trans h) r;have a3:=fun W (h:Ext wd W)=>Ext.cell (l.out.trans h) q;have Y:=fun W (h:Ext wd W)=>Ext.cell (l.out.trans h) u;have a4:=fun W (h:Ext wd W)=>Ext.cell (l.out.trans h) F;have gt:=fun W (h:Ext wd W)=>(an.out.below (l.out.trans h)).cells;have q1:=fun W=>oZ! ⟨usB,⟨#[50]⟩⟩ ⟨usB,⟨#[50]⟩⟩ W;have q2:=fun W=>oZ! ⟨docB,⟨#[49]⟩⟩ ⟨docB,⟨#[49]⟩⟩ W;unfold oV usB at q1;unfold oV docB at q2;unfold usB at R;unfold docB at Y;rw[v2! rfl]at q1 q2;dsimp only at q1 q2 R a3 Y a4;clear Z r q u F;(refine WalkN.tk [0,1,2,3,4,5,6,7,8,9,10,11,12,13,14,15,16,17,18,19,20,21,22,23,24,25,26,27,28,29,30,31,32,33,34,35,36,37] ?_;(iterate 38 (refine c! ?_));refine TkN.n ?_)
 refine d! ?_;clear R a3 Y a4 gt q1 q2;go_wp2_with fail
 go_ret
 exact⟨rfl,aj.out⟩
theorem lX! (v:Value)(l:List Tup)(w:World)(h:Sl (· < w.heap.size) w 6 v (tuCs l)):Calls prog 59 #[v] w fun e w'=>e= .returned (.bool (fewL l))/\Below w.heap.size w w':=by
 obtain⟨ao,c,rfl,a9,a8,f⟩:=fh! h;have HC:=h! f;clear f h;go_enter func59,ntmps59
 go_wp2_with fail
 go_loopw [9] (fun ii wr=>∃i:Nat,i<=l.length/\ii= .int .i64 i/\(∀j (hj:j<l.length),j<i->cN! l[j]=true)/\Below w.heap.size w wr) (fun ii _=>l.length-(intOf ii).toNat)
 case atStart=>exact⟨0,by omega,rfl,fun _ _ h=>absurd h (by omega),Below.refl _ _⟩
 case round =>
  obtain⟨i,hi,rfl,n,d⟩:=hrel;have o:=h! n;clear n;by_cases hlt:i<l.length
  ·obtain⟨b,m,rfl,A,c1,c2,c3,c4,c5,c6⟩:=HC.out i hlt;have d1:=(d.cell (p:=⟨b,m+i*6,none⟩) A).trans c1;have d2:=(d.cell (p:=⟨b,m+i*6+1,none⟩) A).trans c2;have d3:=(d.cell (p:=⟨b,m+i*6+2,none⟩) A).trans c3;have d4:=(d.cell (p:=⟨b,m+i*6+3,none⟩) A).trans c4;have d5:=(d.cell (p:=⟨b,m+i*6+4,none⟩) A).trans c5;have d6:=(d.cell (p:=⟨b,m+i*6+5,none⟩) A).trans c6;have u:=h! (fun h=>nZ! hlt h);have HN:=h! (fun h=>ah! (p:=fun j hj=>cN! l[j]=true) o.out hlt h);clear c1 c2 c3 c4 c5 c6 A;generalize l[i]=a at *;obtain⟨⟨B,z,k⟩,⟨st,si,x⟩⟩:=a;dsimp only at *;have r:=d.alloc d.size (.cells #[.string B,.string z,.string k,.string st,.string si,.string x] 67);have a1:=(Blk.made wr #[.string B,.string z,.string k,.string st,.string si,.string x] 67).cells;have D:=h! (dh! ⟨⟨B,z,k⟩,⟨st,si,x⟩⟩ (wr.alloc (.cells #[.string B,.string z,.string k,.string st,.string si,.string x] 67)));unfold tV at D;dsimp only at D;have q:=h! r;clear r;go_wp2_with fail
   refine D.out.mono ?_;rintro e w2 ⟨rfl,s,t⟩;have cP:=s.cells;simp only[World.size_alloc]at cP ⊢;have g:=h! (q.out.trans (t.mono q.out.size));clear D s t q a1 d1 d2 d3 d4 d5 d6;go_wp2_with fail
   refine wp_loop_rounds 7 ?_;rw[rounds_succ];by_cases hs0:B.size<=100
   rotate_left
   ·have C:(100:Int)<(B.size:Int):=by omega
    have y:=h! hs0;clear hs0;go_wp2_with fail
    go_ret
    exact⟨congrArg (fun b=>Ending.returned (.bool b)) (u.out (by simp[cN!,y.out])).symm,g.out⟩
   have a7:(B.size:Int)<=100:=by omega
   have a2:=h! hs0;clear hs0;go_wp2_with fail
   rw[rounds_succ];by_cases hs1:z.size<=100
   rotate_left
   ·have C:(100:Int)<(z.size:Int):=by omega
    have y:=h! hs1;clear hs1;go_wp2_with fail
    go_ret
    exact⟨congrArg (fun b=>Ending.returned (.bool b)) (u.out (by simp[cN!,y.out])).symm,g.out⟩
   have ae:(z.size:Int)<=100:=by omega
   have a5:=h! hs1;clear hs1;go_wp2_with fail
   rw[rounds_succ];by_cases hs2:k.size<=100
   rotate_left
   ·have C:(100:Int)<(k.size:Int):=by omega
    have y:=h! hs2;clear hs2;go_wp2_with fail
    go_ret
    exact⟨congrArg (fun b=>Ending.returned (.bool b)) (u.out (by simp[cN!,y.out])).symm,g.out⟩
   have ab:(k.size:Int)<=100:=by omega
   have a3:=h! hs2;clear hs2;go_wp2_with fail
   rw[rounds_succ];by_cases hs3:st.size<=100
   rotate_left
   ·have C:(100:Int)<(st.size:Int):=by omega
    have y:=h! hs3;clear hs3;go_wp2_with fail
    go_ret
    exact⟨congrArg (fun b=>Ending.returned (.bool b)) (u.out (by simp[cN!,y.out])).symm,g.out⟩
   have aa:(st.size:Int)<=100:=by omega
   have a4:=h! hs3;clear hs3;go_wp2_with fail
   rw[rounds_succ];by_cases hs4:si.size<=100
   rotate_left
   ·have C:(100:Int)<(si.size:Int):=by omega
    have y:=h! hs4;clear hs4;go_wp2_with fail
    go_ret
    exact⟨congrArg (fun b=>Ending.returned (.bool b)) (u.out (by simp[cN!,y.out])).symm,g.out⟩
   have ac:(si.size:Int)<=100:=by omega
   have a6:=h! hs4;clear hs4;go_wp2_with fail
   rw[rounds_succ];by_cases hs5:x.size<=100
   rotate_left
   ·have C:(100:Int)<(x.size:Int):=by omega
    have y:=h! hs5;clear hs5;go_wp2_with fail
    go_ret
    exact⟨congrArg (fun b=>Ending.returned (.bool b)) (u.out (by simp[cN!,y.out])).symm,g.out⟩
   have ad:(x.size:Int)<=100:=by omega
   have a0:=h! hs5;clear hs5;go_wp2_with fail
   rw[rounds_succ];have HH:=h! (HN.out (by simp[cN!,a2.out,a5.out,a3.out,a4.out,a6.out,a0.out]));clear HN u;go_wp2_with fail
   go_roundw
   case rel=>exact⟨i+1,by omega,by go_num,HH.out,g.out⟩
   case measure=>simp[intOf];omega
  ·obtain rfl:i=l.length:=by omega
   have HE:=h! (nY! o.out);go_wp2_with fail
   go_ret
   exact⟨congrArg (fun b=>Ending.returned (.bool b)) HE.out.symm,d⟩
structure LArg (w W:World)(bs bp:Nat)(ts:List TyS)(tv:Value)(l:List Tup)(lv:Value)(shut:List R2)(sv:Value)(p:P3):Prop where
 X:Ext w W
 S:Blk W bs #[tv] 26
 P:Blk W bp #[.string p.t,.string p.i,.string p.r] 32
 Y:pY! (· < W.heap.size) W ts tv
 L:Sl (· < W.heap.size) W 6 lv (tuCs l)
 V:Sl (· < W.heap.size) W 2 sv (shut.flatMap r2C)
theorem LArg.up {w W W':World}{bs bp:Nat}{ts:List TyS}{tv:Value}{l:List Tup}{lv:Value}{shut:List R2}{sv:Value}{p:P3}(h:LArg w W bs bp ts tv l lv shut sv p)(hx:Ext W W'):LArg w W' bs bp ts tv l lv shut sv p :=
 ⟨h.X.trans hx,h.S.below hx,h.P.below hx,h.Y.up hx,(h.L.same (Same.below hx)).mono fun _ hb=>n1! hb hx.size,(h.V.same (Same.below hx)).mono fun _ hb=>n1! hb hx.size⟩
theorem fo! (ts:List TyS)(tv fv sv tyv:Value)(p:P3)(mv:Value)(w:World)(h:pY! (· < w.heap.size) w ts tv)(hok:∀t∈ts,t.Ok)(hc:chk06 ts≠0)(hsB:schB ts<=549755813888)(hsz:∀t∈ts,∀r∈t.rels,r.2.sz<=1000000)(hln:(al! ts).length<=1099511627776)(hlr:(ac! ts).length<=1099511627776) :
  Calls prog 60 #[.agg #[tv],fv,sv,pV p,tyv,mv] w fun e w'=>e= .returned (.tuple #[.slice none 0 0,.int .i64 (chk06 ts)])/\Ext w w':=by
 obtain⟨ao,c,rfl,-⟩:=h.rows;obtain⟨g,a⟩:=e! (w.alloc (.cells #[.slice ao ts.length c] 26));obtain⟨f,b⟩:=e! (g.alloc (.cells #[.string p.t,.string p.i,.string p.r] 32));have ea:g.heap.size=w.heap.size+1:=by rw[a];simp
 have xa:Ext w g:=xa! a
 have xb:Ext g f:=xa! b
 have XB:Hid (Ext w f):=h! (xa.trans xb);have BS:=h! (show Blk f w.heap.size #[.slice ao ts.length c] 26 from Blk.below (bm! a) xb);have BA:=h! (show Blk f (w.heap.size+1) #[.string p.t,.string p.i,.string p.r] 32 from by rw[b,<-ea];exact Blk.made _ _ _);have d:=h! (kM! ts _ fv sv p mv f (h.up XB.out) hok hc hsB hsz hln hlr);obtain⟨q,hq,a1⟩:∃q:Int,Hid (chk06 ts=q)/\(q != 0)=true:=⟨_,h! rfl,by simpa using hc⟩;rw[hq.out]at d ⊢;have hS:=BS.out.cells;have a0:=BA.out.cells;clear h hok hc hsB hsz hln hlr ea xa xb;unfold pV at *;subst b a;go_enter func60,ntmps60
 go_wp2_with fail
 refine d.out.mono ?_;rintro e w1 ⟨hx,ps,fs,po,pc,fo,fc,ev,⟨rfl,rfl,rfl⟩,rfl,-⟩;have X3:Hid (Ext w (w1.alloc (.cells #[.slice po 0 pc,.slice fo 0 fc] 96))):=h! (Ext.trans XB.out (Ext.trans hx (Ext.alloc _ _)));clear hx d hS a0;go_wp2_with fail
 go_ret2
 exact⟨rfl,X3.out⟩
theorem subjectsLaw_any (ts:List TyS)(tv:Value)(l:List Tup)(lv:Value)(shut:List R2)(sv:Value)(p:P3)(typ:ByteArray)(most:Int)(w:World)(h:pY! (· < w.heap.size) w ts tv)(hbk:schBk ts<=1048576)(hok:∀t∈ts,t.Ok)
  (hl:Sl (· < w.heap.size) w 6 lv (tuCs l)) (hlo:∀t∈l,t.Ok) (hsv:Sl (· < w.heap.size) w 2 sv (shut.flatMap r2C)) (hso:∀r∈shut,r.Ok) (hpo:p.Ok) :
  Calls prog 13 #[.agg #[tv],lv,sv,pV p,.string typ,.int .i64 most] w fun e w'=>e= .returned (.bool true)/\Ext w w':=by
 have o:=h! hbk;have C:=h! hok;have O:=h! hlo;have ai:=h! hso;have af:=h! hpo;obtain⟨B,ct,rfl,-,-,-⟩:=h.rows;obtain⟨D,cs,rfl,-⟩:=Sl.rows aO! (by decide) hsv;obtain⟨wa,a1⟩:=e! (w.alloc (.cells #[.slice B ts.length ct] 26));obtain⟨wb,R⟩:=e! (wa.alloc (.cells #[.string p.t,.string p.i,.string p.r] 32));have ea:wa.heap.size=w.heap.size+1:=by rw[a1];simp
 have xa:Ext w wa:=xa! a1
 have xb:Ext wa wb:=xa! R
 have xx:=xa.trans xb
 have HW:=h! (show LArg w wb w.heap.size (w.heap.size+1) ts (.slice B ts.length ct) l lv shut (.slice D shut.length cs) p from
  ⟨xx,Blk.below (bm! a1) xb,by rw[R,<-ea];exact Blk.made _ _ _,h.up xx,(hl.same (Same.below xx)).mono fun _ hb=>n1! hb xx.size,(hsv.same (Same.below xx)).mono fun _ hb=>n1! hb xx.size⟩)
 have HF:=h! (ij! wb);clear h hbk hok hl hlo hsv hso hpo ea xa xb xx;subst a1;unfold pV;go_enter func13,ntmps13
 go_wp2_with fail
 try rw[<-R]
 clear R;refine HF.out.mono ?_;rintro e w1 ⟨rfl,ad⟩;have Q:=h! (HW.out.up ad);have s1:=Q.out.S.cells;have N:=h! (lY! ts _ w1 Q.out.Y C.out);clear ad HF HW;cases hfe:fewT ts 200 with
 | false =>
  rw[hfe]at N;go_wp2_with fail
  refine N.out.mono ?_;rintro e w2 ⟨rfl,Z⟩;go_wp2_with fail
  go_ret
  exact⟨rfl,Ext.trans Q.out.X Z⟩
 | true =>
  rw[hfe]at N;clear hfe;go_wp2_with fail
  refine N.out.mono ?_;rintro e w2 ⟨rfl,Z⟩;have a2:=h! (Q.out.up Z);have E:=h! (lX! lv l w2 a2.out.L);clear Z N s1 Q;cases hfl:fewL l with
  | false =>
   rw[hfl]at E;go_wp2_with fail
   refine E.out.mono ?_;rintro e w3 ⟨rfl,a0⟩;go_wp2_with fail
   go_ret
   exact⟨rfl,Ext.trans a2.out.X a0⟩
  | true =>
   rw[hfl]at E;have F:=h! (nX! hfl);clear hfl;go_wp2_with fail
   refine E.out.mono ?_;rintro e w3 ⟨rfl,a0⟩;have HW:=h! (a2.out.up a0);clear a0 E a2;by_cases hsl:(20:Int)<(shut.length:Int)
   ·go_wp2_with fail
    go_ret
    exact⟨rfl,HW.out.X⟩
   have a8:Hid (shut.length<=20):=h! (by omega);obtain⟨T,hT⟩:=pC! l;have H:=h! hT;have a5:=h! (show T.length<=40 from by have:=hT.len;have:=F.out;omega);clear hT;by_cases hck:chk06 ts=0
   rotate_left
   ·have A:=h! hck;clear hck;go_wp2_with fail
    obtain⟨wd,b⟩:∃wd,Hid (wd=w3.drew):=⟨_,h! rfl⟩;have f:=h! (show Ext w3 wd from xd! b.out);refine re! b.out ?_;have HW:=h! (HW.out.up f.out);clear b f;have hs:=fun W (h:Ext wd W)=>(HW.out.S.below h).cells;have hp:=fun W (h:Ext wd W)=>(HW.out.P.below h).cells;(refine WalkN.tk [0,1,4,5,6,7] ?_;(iterate 6 (refine c! ?_));refine TkN.n ?_)
    clear hs hp;have M:=h! (eY! H.out lv wd HW.out.L (by have:=F.out;omega) O.out);refine ob! 2 ?_;intro K hK;go_simp;refine M.out.mono ?_;rintro e w4 ⟨bk,rfl,hbk,g⟩;refine hK.out _ _ g ?_;clear hK M;have s:=h! (HW.out.up g);have HH:=h! (fo! ts (.slice B ts.length ct) (bkV bk) (.slice D shut.length cs) (.string typ) p (.int .i64 most) w4 s.out.Y C.out A.out (by have:=my! ts;have:=o.out;omega) (nf! o.out) (by have:=(eL! ts).1;have:=o.out;omega) (by have:=(eL! ts).2;have:=o.out;omega));unfold pV at HH;clear hbk;refine t! 3 ?_
    refine ob! 8 ?_;intro K hK;go_simp;refine HH.out.mono ?_;rintro e w5 ⟨rfl,u⟩;refine hK.out _ _ (Ext.trans g u) ?_;clear hK HH;have HW:=h! (s.out.up u);clear g u s;(refine WalkN.tk [9,10,11,12,13] ?_;(iterate 5 (refine c! ?_));refine TkN.n ?_)
    refine d! ?_;have m:=h! (cZ! ts _ w5 HW.out.Y C.out (by have:=iN! ts;have:=o.out;omega));have s1:=HW.out.S.cells;go_wp2_with fail
    refine m.out.mono ?_;rintro e w6 ⟨rfl,y⟩;have HW:=h! (HW.out.up y);clear y s1 m;obtain⟨q,hq,aj,ak⟩:∃q:Int,q=chk06 ts/\(q != 0)=true/\(q == q)=true:=⟨_,rfl,by simpa using A.out,by simp⟩;rw[<-hq];clear hq;go_wp2_with fail
    go_ret
    exact⟨rfl,HW.out.X⟩
   ·have A:=h! hck;have a6:=h! (HasArg.of (T:=T) (shut:=shut) (p:=p) hck C.out (by have:=my! ts;have:=o.out;omega) (by have:=(eL! ts).1;have:=o.out;omega) (by have:=(eL! ts).2;have:=o.out;omega) (by have:=a5.out;omega) (fun t ht=>O.out t ((H.out.mem t).1 ht).1) af.out ai.out);clear hck;go_wp2_with fail
    obtain⟨wd,b⟩:∃wd,Hid (wd=w3.drew):=⟨_,h! rfl⟩;have f:=h! (show Ext w3 wd from xd! b.out);refine re! b.out ?_;have HW:=h! (HW.out.up f.out);clear b f;have hs:=fun W (h:Ext wd W)=>(HW.out.S.below h).cells;have hp:=fun W (h:Ext wd W)=>(HW.out.P.below h).cells;(refine WalkN.tk [0,1,4,5,6,7] ?_;(iterate 6 (refine c! ?_));refine TkN.n ?_)
    clear hs hp;have M:=h! (eY! H.out lv wd HW.out.L (by have:=F.out;omega) O.out);refine ob! 2 ?_;intro K hK;go_simp;refine M.out.mono ?_;rintro e w4 ⟨bk,rfl,hbk,g⟩;refine hK.out _ _ g ?_;clear hK M;have s:=h! (HW.out.up g);have HH:=h! (dx! ts (.slice B ts.length ct) bk T shut (.slice D shut.length cs) p typ most w4 s.out.Y a6.out hbk s.out.V);unfold pV at HH;clear hbk;refine t! 3 ?_
    refine ob! 8 ?_;intro K hK;go_simp;refine HH.out.mono ?_;rintro e w5 ⟨⟨n,v5,l5,he,rfl,a7,ab⟩|⟨a,rfl⟩,u⟩
    case' inl =>
     have HE:=h! he;have ac:=h! ab;clear he ab;refine hK.out _ _ (Ext.trans g u) ?_;clear hK HH;have HW:=h! (s.out.up u);have HR:=h! a7;obtain⟨vo,vn,vc,rfl,-⟩:=a7.len;clear g u s a7;(refine WalkN.tk [9,10,11,12,13] ?_;(iterate 5 (refine c! ?_));refine TkN.n ?_)
     refine d! ?_;have m:=h! (cZ! ts _ w5 HW.out.Y C.out (by have:=iN! ts;have:=o.out;omega));rw[A.out]at m;have s1:=HW.out.S.cells;go_wp2_with fail
     refine m.out.mono ?_;rintro e w6 ⟨rfl,y⟩;have HW:=h! (HW.out.up y);have ae:=h! y;clear y s1 m;have HR:=h! ((HR.out.same (Same.below (show Ext w5 w6 from ae.out))).mono fun _ hb=>n1! hb (show Ext w5 w6 from ae.out).size);go_wp2_with fail
     have R6:Hid (Ext w6 w6):=h! (Ext.refl _);obtain⟨I,j⟩:=e! w6;rw[<-j]at HW HR ⊢;clear j R6;obtain⟨wd,b⟩:∃wd,Hid (wd=I.drew):=⟨_,h! rfl⟩;have f:=h! (show Ext I wd from xd! b.out);refine re! b.out ?_;have HW:=h! (HW.out.up f.out);have HR:=h! ((HR.out.same (Same.below f.out)).mono fun _ hb=>n1! hb (Ext.size f.out));clear b f;have hs:=fun W (h:Ext wd W)=>(HW.out.S.below h).cells;have hp:=fun W (h:Ext wd W)=>(HW.out.P.below h).cells;(refine WalkN.tk [0,1,3,4,5,6] ?_;(iterate 6 (refine c! ?_));refine TkN.n ?_)
     clear hs hp;have G:=h! (iK! H.out lv wd HW.out.L (by have:=F.out;omega) O.out);refine ob! 2 ?_;intro K hK;go_simp;refine G.out.mono ?_;rintro e w7 ⟨zv,rfl,hz,k⟩;refine hK.out _ _ k ?_;clear hK G;have v:=h! (HW.out.up k);have aa:=h! ((HR.out.same (Same.below k)).mono fun _ hb=>n1! hb (Ext.size k));have HH:=h! (co! ts (.slice B ts.length ct) T zv shut (.slice D shut.length cs) p typ most w7 v.out.Y A.out hz (by have:=a5.out;omega) v.out.V (by have:=a8.out;omega) a6.out.wk);unfold pV at HH;clear hz;refine ob! 7 ?_;intro K hK;go_simp;refine HH.out.mono ?_;rintro e w8 ⟨⟨n8,v8,l8,a4,rfl,U,a3⟩|⟨a,rfl⟩,z⟩
     case' inr=>exact absurd a HE.out.notLong
     case' inl =>
      obtain rfl:=ds! a3.1 ac.out.1 fun x=>by rw[a3.2 x,ac.out.2 x]
      clear a4 a3;refine hK.out _ _ (Ext.trans k z) ?_;clear hK HH;have HW:=h! (v.out.up z);have HR:=h! ((aa.out.same (Same.below z)).mono fun _ hb=>n1! hb (Ext.size z));have ag:=h! U;obtain⟨zo,zn,zc,rfl,-⟩:=U.len;clear k z v U aa;(refine WalkN.tk [8,9,10,11,12] ?_;(iterate 5 (refine c! ?_));refine TkN.n ?_)
      refine d! ?_;have J:=h! (lg! _ _ _ w8 HR.out ag.out);go_wp2_with fail
      refine J.out.mono ?_;rintro e w9 ⟨rfl,a9⟩;have HX:=h! (HW.out.up a9).X;clear a9 J;go_wp2_with fail
      go_ret
      exact⟨rfl,HX.out⟩
    case' inr =>
     have ah:=h! a;clear a;refine hK.out _ _ (Ext.trans g u) ?_;clear hK HH;have HW:=h! (s.out.up u);clear g u s;(refine WalkN.tk [9,10,11,12,13] ?_;(iterate 5 (refine c! ?_));refine TkN.n ?_)
     refine d! ?_;have m:=h! (cZ! ts _ w5 HW.out.Y C.out (by have:=iN! ts;have:=o.out;omega));rw[A.out]at m;have s1:=HW.out.S.cells;go_wp2_with fail
     refine m.out.mono ?_;rintro e w6 ⟨rfl,y⟩;have HW:=h! (HW.out.up y);clear y s1 m;go_wp2_with fail
     obtain⟨I,j⟩:=e! w6;rw[<-j]at HW ⊢;clear j;obtain⟨wd,b⟩:∃wd,Hid (wd=I.drew):=⟨_,h! rfl⟩;have f:=h! (show Ext I wd from xd! b.out);refine re! b.out ?_;have HW:=h! (HW.out.up f.out);clear b f;have hs:=fun W (h:Ext wd W)=>(HW.out.S.below h).cells;have hp:=fun W (h:Ext wd W)=>(HW.out.P.below h).cells;(refine WalkN.tk [0,1,3,4,5,6] ?_;(iterate 6 (refine c! ?_));refine TkN.n ?_)
     clear hs hp;have G:=h! (iK! H.out lv wd HW.out.L (by have:=F.out;omega) O.out);refine ob! 2 ?_;intro K hK;go_simp;refine G.out.mono ?_;rintro e w7 ⟨zv,rfl,hz,k⟩;refine hK.out _ _ k ?_;clear hK G;have v:=h! (HW.out.up k);have HH:=h! (co! ts (.slice B ts.length ct) T zv shut (.slice D shut.length cs) p typ most w7 v.out.Y A.out hz (by have:=a5.out;omega) v.out.V (by have:=a8.out;omega) a6.out.wk);unfold pV at HH;clear hz;refine ob! 7 ?_;intro K hK;go_simp;refine HH.out.mono ?_;rintro e w8 ⟨⟨n8,v8,l8,a4,rfl,U,a3⟩|⟨a,rfl⟩,z⟩
     case' inl=>exact absurd ah.out a4.notLong
     case' inr =>
      refine hK.out _ _ (Ext.trans k z) ?_;clear hK HH;have HX:=h! (v.out.up z).X;clear k z v;(refine WalkN.tk [8,9,10,11,12] ?_;(iterate 5 (refine c! ?_));refine TkN.n ?_)
      refine d! ?_;go_wp2_with fail
      go_ret
      exact⟨rfl,HX.out⟩
end Go.Proofs.YtlhaghoajpglaaaGreat
namespace Go.Proofs.YtlhaghoajpglaaaGreat
open Go Go.RowKit Go.ChangeShapes Go.WideShapes Go.ChangeAt Go.Proofs.Tryz
def pC4 (p:P3):List Value:=[.string p.t,.string p.i,.string p.r]
def tC4 (t:Tup):List Value:=[.string t.o.t,.string t.o.i,.string t.o.r,.string t.s.t,.string t.s.i,.string t.s.r]
section
variable {H : Type} {enc : TypeId × Value -> H} {W : World} {base : Nat} {v : Value} {d : DataW H} {ps : List MemPlace}
theorem by! {fuel:Nat}{cs:List Value}{y:DataW H × List MemPlace}(hy:DataW.trod enc prog W 0 (fun _=>true) true fuel 30 cs=some y):∃a b:ByteArray,cs=[.string a,.string b]/\a.size<=maxLen/\b.size<=maxLen:=by
 obtain⟨xs,n,_,_,hl,c,hf⟩:=DataW.trod_struct Tryz.underlying30 hy;rw[show prog.cellsOf 30=2 from by kernel_rfl]at hl
 obtain⟨d,g,rfl⟩:∃d g,cs=[d,g]:=by
  match cs,hl with
  | [d,g],_=>exact⟨d,g,rfl⟩
 have h0:=hf 0 _ rfl;have h1:=hf 1 _ rfl
 obtain⟨e,f,rfl⟩:∃e f,xs=[e,f]:=by
  match xs,c with
  | [e,f],_=>exact⟨e,f,rfl⟩
 obtain⟨a,e0,_,wa⟩:=DataW.trod_string Tryz.underlying9 h0;obtain⟨b,e1,_,wb⟩:=DataW.trod_string Tryz.underlying9 h1;have k1:prog.cellsOf 9=1:=by kernel_rfl
 simp[k1]at e0 e1;subst e0 e1;exact⟨a,b,rfl,wa,wb⟩
theorem eG! {fuel:Nat}{cs:List Value}{y:DataW H × List MemPlace}(hy:DataW.trod enc prog W 0 (fun _=>true) true fuel 33 cs=some y):∃p:P3,cs=pC4 p/\p.Ok:=by
 obtain⟨xs,n,_,_,hl,d,hf⟩:=DataW.trod_struct Tryz.underlying33 hy;rw[show prog.cellsOf 33=3 from by kernel_rfl]at hl
 obtain⟨e,g,h,rfl⟩:∃e g h,cs=[e,g,h]:=by
  match cs,hl with
  | [e,g,h],_=>exact⟨e,g,h,rfl⟩
 have h0:=hf 0 _ rfl;have h1:=hf 1 _ rfl
 obtain⟨i,f,rfl⟩:∃i f,xs=[i,f]:=by
  match xs,d with
  | [i,f],_=>exact⟨i,f,rfl⟩
 have k0:prog.cellsOf 30=2:=by kernel_rfl
 have k1:prog.cellsOf 9=1:=by kernel_rfl
 obtain⟨a,b,e0,wa,wb⟩:=by! h0;obtain⟨c,e1,_,wc⟩:=DataW.trod_string Tryz.underlying9 h1;simp[k0]at e0;simp[k1]at e1;obtain⟨rfl,rfl⟩:=e0;subst e1;exact⟨⟨a,b,c⟩,rfl,wa,wb,wc⟩
theorem eF! {fuel:Nat}{cs:List Value}{y:DataW H × List MemPlace}(hy:DataW.trod enc prog W 0 (fun _=>true) true fuel 67 cs=some y):∃t:Tup,cs=tC4 t/\t.Ok:=by
 obtain⟨xs,n,_,_,hl,d,hf⟩:=DataW.trod_struct Tryz.underlying67 hy;rw[show prog.cellsOf 67=6 from by kernel_rfl]at hl
 obtain⟨e,j,l,g,f,k,rfl⟩:∃e j l g f k,cs=[e,j,l,g,f,k]:=by
  match cs,hl with
  | [e,j,l,g,f,k],_=>exact⟨e,j,l,g,f,k,rfl⟩
 have h0:=hf 0 _ rfl;have h1:=hf 1 _ rfl;have h2:=hf 2 _ rfl
 obtain⟨m,i,h,rfl⟩:∃m i h,xs=[m,i,h]:=by
  match xs,d with
  | [m,i,h],_=>exact⟨m,i,h,rfl⟩
 have k0:prog.cellsOf 30=2:=by kernel_rfl
 have k1:prog.cellsOf 9=1:=by kernel_rfl
 have k2:prog.cellsOf 33=3:=by kernel_rfl
 obtain⟨a,b,e0,wa,wb⟩:=by! h0;obtain⟨c,e1,_,wc⟩:=DataW.trod_string Tryz.underlying9 h1;obtain⟨p,e2,wp⟩:=eG! h2;simp[k0]at e0;simp[k1]at e1;simp[k2,pC4]at e2;obtain⟨rfl,rfl⟩:=e0;obtain⟨rfl,rfl,rfl⟩:=e2;subst e1;exact⟨⟨⟨a,b,c⟩,p⟩,rfl,⟨wa,wb,wc⟩,wp⟩
end
theorem fx! {H:Type}{enc:TypeId × Value->H}{P:Program}{w:World}{α:Type}(ec:α->List Value)(Q:α->Prop) {t e:TypeId}{v:Value}{d:DataW H}{ps:List MemPlace}{sz:Nat}
  (ht:P.underlying t=some (.slice e)) (hsz:P.cellsOf e=sz) (hv:∃a len cap,v= .slice a len cap) (h:DataW.Trod enc P w 0 (fun _=>true) true t v d ps)
  (hel:∀fuel cs y,DataW.trod enc P w 0 (fun _=>true) true fuel e cs=some y->∃a,cs=ec a/\Q a):∃l:List α,Sl (· < w.heap.size) w sz v (l.flatMap ec)/\∀a∈l,Q a:=by
 obtain⟨xs,c,fuel,hs,hl,he,_⟩:=oT! ht hv h;rw[hsz]at hs hl he
 have g:∀n,n<=c.length->∃l:List α,xs.take (n*sz)=l.flatMap ec/\∀a∈l,Q a:=by
  intro n;induction n with
  | zero=>intro _;exact⟨[],by simp,by simp⟩
  | succ n ih =>
   intro hn;obtain⟨l,f,i⟩:=ih (by omega);obtain⟨a,ha,hq⟩:=hel _ _ _ (he n c[n] (n4! (by omega)));refine⟨l++[a],?_,fun b hb=>?_⟩
   ·rw[Nat.add_mul,Nat.one_mul,List.take_add,f,ha,x9!];simp
   ·rcases u3!.1 hb with hb | hb
    ·exact i b hb
    ·obtain rfl:b=a:=by simpa using hb
     exact hq
 obtain⟨l,f,i⟩:=g c.length (n0! _);rw[<-hl,u2!]at f;exact⟨l,f▸hs,i⟩
theorem kR! (l:List Tup):l.flatMap tC4=tuCs l:=by
 induction l with
 | nil=>rfl
 | cons a l ih=>rw[y5!,ih];rfl
theorem open_tupsV {H:Type}{enc:TypeId × Value->H}{W:World}{base:Nat}{v:Value}{d:DataW H}{ps:List MemPlace}(hok:Value.okWide prog W .any base 27 v)(h:DataW.Trod enc prog W 0 (fun _=>true) true 27 v d ps):∃l:List Tup,Sl (· < W.heap.size) W 6 v (tuCs l)/\∀t∈l,t.Ok:=by
 obtain⟨l,h1,h2⟩:=fx! tC4 Tup.Ok Tryz.underlying27 (by kernel_rfl) (okWide_slice Tryz.underlying27 hok) h (fun fuel cs y hy=>eF! hy);exact⟨l,kR! l▸h1,h2⟩
section
variable {H : Type} {enc : TypeId × Value -> H} {W : World} {base : Nat} {v : Value} {d : DataW H} {ps : List MemPlace}
theorem eI! {fuel:Nat}{cs:List Value}{y:DataW H × List MemPlace}(hy:DataW.trod enc prog W 0 (fun _=>true) true fuel 121 cs=some y):∃a b:ByteArray,cs=[.string a,.string b]/\a.size<=maxLen/\b.size<=maxLen:=by
 obtain⟨xs,n,_,_,hl,c,hf⟩:=DataW.trod_struct Tryz.underlying121 hy;rw[show prog.cellsOf 121=2 from by kernel_rfl]at hl
 obtain⟨d,g,rfl⟩:∃d g,cs=[d,g]:=by
  match cs,hl with
  | [d,g],_=>exact⟨d,g,rfl⟩
 have h0:=hf 0 _ rfl;have h1:=hf 1 _ rfl
 obtain⟨e,f,rfl⟩:∃e f,xs=[e,f]:=by
  match xs,c with
  | [e,f],_=>exact⟨e,f,rfl⟩
 obtain⟨a,e0,_,wa⟩:=DataW.trod_string Tryz.underlying9 h0;obtain⟨b,e1,_,wb⟩:=DataW.trod_string Tryz.underlying9 h1;have k1:prog.cellsOf 9=1:=by kernel_rfl
 simp[k1]at e0 e1;subst e0 e1;exact⟨a,b,rfl,wa,wb⟩
end
section
variable {H : Type} {enc : TypeId × Value -> H} {W : World} {base : Nat} {v : Value} {d : DataW H} {ps : List MemPlace}
theorem dL! {fuel:Nat}{cs:List Value}{y:DataW H × List MemPlace}(hy:DataW.trod enc prog W 0 (fun _=>true) true fuel 32 cs=some y):∃p:P3,cs=pC4 p/\p.Ok:=by
 obtain⟨xs,n,_,_,hl,d,hf⟩:=DataW.trod_struct Tryz.underlying32 hy;rw[show prog.cellsOf 32=3 from by kernel_rfl]at hl
 obtain⟨e,g,h,rfl⟩:∃e g h,cs=[e,g,h]:=by
  match cs,hl with
  | [e,g,h],_=>exact⟨e,g,h,rfl⟩
 have h0:=hf 0 _ rfl;have h1:=hf 1 _ rfl
 obtain⟨i,f,rfl⟩:∃i f,xs=[i,f]:=by
  match xs,d with
  | [i,f],_=>exact⟨i,f,rfl⟩
 have k0:prog.cellsOf 30=2:=by kernel_rfl
 have k1:prog.cellsOf 9=1:=by kernel_rfl
 obtain⟨a,b,e0,wa,wb⟩:=by! h0;obtain⟨c,e1,_,wc⟩:=DataW.trod_string Tryz.underlying9 h1;simp[k0]at e0;simp[k1]at e1;obtain⟨rfl,rfl⟩:=e0;subst e1;exact⟨⟨a,b,c⟩,rfl,wa,wb,wc⟩
theorem open_pointV (hok:Value.okWide prog W .any base 32 v)(h:DataW.Trod enc prog W 0 (fun _=>true) true 32 v d ps):∃p:P3,v=pV p/\p.Ok:=by
 obtain⟨ca,rfl,_⟩:=okWide_struct Tryz.underlying32 hok;obtain⟨a0,hy⟩:=h;obtain⟨t,hc,ht⟩:=dL! hy;exact⟨t,congrArg Value.agg (Array.toList_inj.1 hc),ht⟩
theorem open_refsV (hok:Value.okWide prog W .any base 28 v)(h:DataW.Trod enc prog W 0 (fun _=>true) true 28 v d ps):∃l:List R2,Sl (· < W.heap.size) W 2 v (l.flatMap r2C)/\∀r∈l,r.Ok :=
 fx! r2C R2.Ok Tryz.underlying28 (by kernel_rfl) (okWide_slice Tryz.underlying28 hok) h (fun fuel cs y hy=>by
  obtain⟨a,b,rfl,ha,hb⟩:=eI! hy;exact⟨⟨a,b⟩,rfl,ha,hb⟩)
theorem open_intV (hok:Value.okWide prog W .any base 3 v)(h:DataW.Trod enc prog W 0 (fun _=>true) true 3 v d ps):∃n:Int,v= .int .i64 n:=by
 obtain⟨x,rfl,_⟩:=open_int Tryz.underlying3 hok h;exact⟨x,rfl⟩
end
end Go.Proofs.YtlhaghoajpglaaaGreat
namespace Go.Proofs.YtlhaghoajpglaaaGreat
open Go Go.RowKit Go.ChangeShapes Go.WideShapes Go.ChangeAt Go.Proofs.Tryz
open Go.ChangeMaps (open_string)
section
variable {H : Type} {enc : TypeId × Value -> H} {W : World} {base : Nat} {v : Value} {d : DataW H} {ps : List MemPlace}
theorem open_strV (hok:Value.okWide prog W .any base 9 v)(h:DataW.Trod enc prog W 0 (fun _=>true) true 9 v d ps):∃s:ByteArray,v= .string s/\s.size<=9223372036854775807:=by
 obtain⟨s,rfl,_,_,hs⟩:=open_string Tryz.underlying9 hok h;exact⟨s,rfl,by unfold maxLen at hs;omega⟩
end
end Go.Proofs.YtlhaghoajpglaaaGreat
