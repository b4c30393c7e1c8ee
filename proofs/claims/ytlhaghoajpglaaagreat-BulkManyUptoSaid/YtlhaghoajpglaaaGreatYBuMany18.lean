/- Lemmas for the claim, no condition. -/
import Derived.Test.YtlhaghoajpglaaaGreatYBuMany17
import Derived.Test.YtlhaghoajpglaaaGreatYBuMany4
import Derived.Test.YtlhaghoajpglaaaGreatYBuMany9
import Derived.Test.YtlhaghoajpglaaaGreatYBuMany15
import Derived.Test.YtlhaghoajpglaaaGreatYBuMany6
import Derived.Test.YtlhaghoajpglaaaGreatYBuMany16
import Derived.Test.YtlhaghoajpglaaaGreatYBuMany0
set_option maxRecDepth 100000
set_option maxHeartbeats 8000000
namespace Go.Proofs.YtlhaghoajpglaaaGreat
open Go Go.RowKit Go.Maps
theorem tuCs_drop (l:List Tup)(k:Nat):(tuCs l).drop (k*6)=tuCs (l.drop k):=by
 induction k generalizing l with
 | zero=>simp[tuCs]
 | succ k ih =>
  cases l with
  | nil=>simp[tuCs]
  | cons a l =>
   rw[List.drop_succ_cons,show tuCs (a::l)=tuC a++tuCs l from rfl,<- ih l];rw[show(k+1)*6=6+k*6 from by omega,List.drop_append,List.drop_eq_nil_of_le (by rw[tuC_length];omega),tuC_length,Nat.add_sub_cancel_left,List.nil_append]
theorem tuCs_one (l:List Tup):∀ u∈tuCs l,u.oneCell'=true:=by
 intro u hu;obtain⟨a,_,ha⟩:=List.mem_flatMap.1 hu;exact tuC_one a u ha
theorem cmpT_neg (a b:Tup):decide (cmpT a b<0)=ltT a b:=by
 unfold cmpT;cases h:ltT a b with
 | true=>simp
 | false =>
  simp only[Bool.false_eq_true,if_false];split <;> simp
def insT (q:List Tup)(k:Nat)(p:Tup):List Tup:=q.take k++[p]++q.drop k
theorem insT_mem (q:List Tup)(k:Nat)(p x:Tup):x∈insT q k p↔x∈q\/x=p:=by
 unfold insT;conv=>rhs;rw[<- List.take_append_drop k q]
 simp only[List.mem_append,List.mem_singleton];constructor
 ·rintro((h | h) | h)
  ·exact .inl (.inl h)
  ·exact .inr h
  ·exact .inl (.inr h)
 ·rintro((h | h) | h)
  ·exact .inl (.inl h)
  ·exact .inr h
  ·exact .inl (.inr h)
theorem insT_up {q:List Tup} {k:Nat} {p:Tup} (hq:UpT q)(h1:∀ j (hj:j<q.length),j<k->ltT q[j] p=true)(h2:∀ hk:k<q.length,ltT p q[k]=true):UpT (insT q k p):=by
 have hq':(q.take k++q.drop k).Pairwise fun a b=>ltT a b=true:=by rw[List.take_append_drop];exact hq
 obtain⟨ha,hb,hab⟩:=List.pairwise_append.1 hq'
 have hlt:∀ x∈q.take k,ltT x p=true:=fun x hx=>by
  obtain⟨j,hj,rfl⟩:=List.getElem_of_mem hx;rw[List.length_take]at hj;rw[List.getElem_take];exact h1 j (by omega) (by omega)
 have hgt:∀ x∈q.drop k,ltT p x=true:=fun x hx=>by
  obtain⟨j,hj,rfl⟩:=List.getElem_of_mem hx;rw[List.length_drop]at hj;rw[List.getElem_drop];have hk:k<q.length:=by omega
  rcases Nat.eq_zero_or_pos j with rfl | hj0
  ·exact h2 hk
  ·exact ltT_trans (h2 hk) ((List.pairwise_iff_getElem.1 hq) k (k+j) hk (by omega) (by omega))
 unfold insT UpT;rw[List.append_assoc,List.pairwise_append];refine⟨ha,?_,fun x hx y hy=>?_⟩
 ·rw[List.singleton_append,List.pairwise_cons];exact⟨hgt,hb⟩
 ·rcases List.mem_append.1 hy with hy | hy
  ·obtain rfl:y=p:=by simpa using hy
   exact hlt x hx
  ·exact hab x hx y hy
theorem insT_length (q:List Tup)(k:Nat)(p:Tup):(insT q k p).length=q.length+1:=by
 unfold insT;have:=congrArg List.length (List.take_append_drop k q);simp only[List.length_append,List.length_singleton]at this ⊢;omega
theorem set25_any (v:Value)(l:List Tup)(w:World)(h:Sl (· < w.heap.size) w 6 v (tuCs l))(hl:l.length<=100000)(hok:∀ t∈l,t.Ok):Calls Tryz.prog 50 #[v] w fun e w'=>∃ (v':Value)(l':List Tup),e = .returned v'/\SetT l l'/\Own w' w.heap.size 67 6 v' (tuCs l')/\Below w.heap.size w w':=by
 obtain⟨ao,c,rfl,hlc,hcm,hcell⟩:=Sl.rows tuC_length (by decide) (show Sl _ w 6 v (List.flatMap tuC l)from h);have HC:=h! hcell;have HL:=h! hl;have HOK:=h! hok;clear hcell h hl hok;go_enter Tryz.func50,Tryz.ntmps50
 go_wp2_with fail
 go_loopw [3,9] (fun vv ii wr=>∃ (i:Nat) (q:List Tup),i<=l.length/\ii = .int .i64 i/\Own wr w.heap.size 67 6 vv (tuCs q)/\UpT q/\(∀ x,x∈q↔x∈l.take i/\chkT x=true)/\q.length<=i/\Below w.heap.size w wr) (fun _ ii _=>l.length-(intOf ii).toNat)
 case atStart=>exact⟨0,[],by omega,rfl,Own.nil _ _ _ _,List.Pairwise.nil,by simp,by simp,Below.refl _ _⟩
 case round =>
  obtain⟨i,q,hi,rfl,hown,hup,hmem,hql,hbel⟩:=hrel;have HUPQ:=h! hup;have HMQ:=h! hmem;clear hup hmem;by_cases hlt:i<l.length
  ·obtain⟨b,off,rfl,hb,hc⟩:=HC.out (by omega);have d0:=(hbel.cell (p:=⟨b,off+i*6,none⟩) hb).trans (hc i hlt 0 _ rfl);have d1:=(hbel.cell (p:=⟨b,off+i*6+1,none⟩) hb).trans (hc i hlt 1 _ rfl);have d2:=(hbel.cell (p:=⟨b,off+i*6+2,none⟩) hb).trans (hc i hlt 2 _ rfl);have d3:=(hbel.cell (p:=⟨b,off+i*6+3,none⟩) hb).trans (hc i hlt 3 _ rfl);have d4:=(hbel.cell (p:=⟨b,off+i*6+4,none⟩) hb).trans (hc i hlt 4 _ rfl);have d5:=(hbel.cell (p:=⟨b,off+i*6+5,none⟩) hb).trans (hc i hlt 5 _ rfl);have HOKP:=h! (HOK.out _ (List.getElem_mem hlt));have HTK:=h! (show ∀ x,x∈l.take (i+1)↔x∈l.take i\/x=l[i]from fun x=>by rw[List.take_succ_eq_append_getElem hlt,List.mem_append,List.mem_singleton]);clear hc;generalize l[i]=p at *;obtain⟨⟨pt,pi,pr⟩,⟨qt,qi,qr⟩⟩:=p;dsimp only at d0 d1 d2;have hq2:q.length<=100000:=by have:=HL.out;omega
   obtain⟨mo,mc,rfl,hmk,hmm,hmc⟩:=Sl.rows tuC_length (by decide) (show Sl _ wr 6 u3 (List.flatMap tuC q)from hown.sl);have HSH:=h! hown.shape;obtain⟨wP,hwP⟩:∃ wP,wP=wr.alloc (.cells #[.string pt,.string pi,.string pr,.string qt,.string qi,.string qr] 67):=⟨_,rfl⟩;have hbox:Blk wP wr.heap.size #[.string pt,.string pi,.string pr,.string qt,.string qi,.string qr] 67:=by rw[hwP];exact Blk.made wr _ _
   have hE0:Ext wr wP:=by rw[hwP];exact Ext.alloc _ _
   have HMC:=h! (show 0<q.length->∃ b off,mo=some ⟨b,off,none⟩/\b<wr.heap.size/\∀ (k:Nat) (hk:k<q.length),wr.cell? ⟨b,off+k*6,none⟩=some (.string q[k].o.t)/\wr.cell? ⟨b,off+k*6+1,none⟩=some (.string q[k].o.i)/\wr.cell? ⟨b,off+k*6+2,none⟩=some (.string q[k].o.r)/\wr.cell? ⟨b,off+k*6+3,none⟩=some (.string q[k].s.t)/\wr.cell? ⟨b,off+k*6+4,none⟩=some (.string q[k].s.i)/\wr.cell? ⟨b,off+k*6+5,none⟩=some (.string q[k].s.r)from fun h0=>by
    obtain⟨b,off,h1,h2,h3⟩:=hmc h0;exact⟨b,off,h1,h2.2,fun k hk=>⟨h3 k hk 0 _ rfl,h3 k hk 1 _ rfl,h3 k hk 2 _ rfl,h3 k hk 3 _ rfl,h3 k hk 4 _ rfl,h3 k hk 5 _ rfl⟩⟩)
   have HOW:=h! hown;have HBEL:=h! hbel;have HBOX:=h! hbox;have ht:=hbox.cells;have HCK:=h! (refCheck_any ⟨⟨pt,pi,pr⟩,⟨qt,qi,qr⟩⟩ HOKP.out wP);unfold tV at HCK;dsimp only at HCK;have HE0:=h! hE0;have HLT:=h! hlt;have HWI:=h! (show wrap64 ((i:Int)+1)=((i+1:Nat):Int)from by have:=HL.out;unfold wrap64;omega);have hli:(i:Int)<(l.length:Int):=by omega
   clear hown hmc hbox hE0 hbel hlt;rw[hwP]at ht HCK;go_wp2_with fail
   try rw[<- hwP]at HCK ⊢
   clear hwP d0 d1 d2 d3 d4 d5 ht hli;refine HCK.out.mono ?_;rintro e wP2 ⟨rfl,hb2⟩;have hE0:Ext wr wP2:=HE0.out.trans hb2;have hbox:=HBOX.out.below hb2;clear HCK HE0 HBOX hb2;have HE0:=h! hE0;have HBOX:=h! hbox;clear hE0 hbox wP;obtain⟨wP,rfl⟩:∃ x,x=wP2:=⟨_,rfl⟩;rcases hck:chkT ⟨⟨pt,pi,pr⟩,⟨qt,qi,qr⟩⟩with _ | _
   ·have hcn:chkN ⟨⟨pt,pi,pr⟩,⟨qt,qi,qr⟩⟩=2:=by simp[chkN,hck]
    have HMN:=h! (show ∀ x,x∈q↔x∈l.take (i+1)/\chkT x=true from fun x=>by
     rw[HTK.out x,HMQ.out x];exact⟨fun h=>⟨.inl h.1,h.2⟩,fun h=>⟨h.1.elim id fun e=>absurd h.2 (by rw[e,hck];decide),h.2⟩⟩)
    rw[hcn];clear hcn hck;go_wp2_with fail
    go_roundw
    case rel=>exact⟨i+1,q,by have:=HLT.out;omega,by rw[HWI.out],HOW.out.below HE0.out,HUPQ.out,HMN.out,by have:=HLT.out;omega,HBEL.out.trans (HE0.out.mono HBEL.out.size)⟩
    case measure=>have:=HLT.out;rw[HWI.out];simp[intOf];omega
   have hcn:chkN ⟨⟨pt,pi,pr⟩,⟨qt,qi,qr⟩⟩=0:=by simp[chkN,hck]
   have HCHK:=h! hck;have hlt:=HLT.out;rw[hcn];clear hcn hck;go_wp2_with fail
   obtain⟨wr0,hwr0⟩:∃ wr0,wr0=wr:=⟨_,rfl⟩;rw[<- hwr0]at HOW HBOX HE0 HMC HBEL ⊢;clear hwr0;go_loopw [6] (fun ii wr=>∃ k:Nat,k<=q.length/\ii = .int .i64 k/\(∀ j (hj:j<q.length),j<k->ltT q[j] ⟨⟨pt,pi,pr⟩,⟨qt,qi,qr⟩⟩=true)/\Below wP.heap.size wP wr) (fun ii _=>q.length-(intOf ii).toNat)
   case atStart=>exact⟨0,by omega,rfl,fun _ _ h=>absurd h (by omega),Below.refl _ _⟩
   case round =>
    obtain⟨k,hk,rfl,hall,hbr⟩:=hrel;have HALL:=h! hall;have HEr:=h! (HE0.out.trans hbr);have hBx:=HBOX.out.below hbr;clear hall;by_cases hkl:k<q.length
    case' pos =>
     obtain⟨b2,off2,rfl,hb2,hc2⟩:=HMC.out (by omega);obtain⟨e0,e1,e2,e3,e4,e5⟩:=hc2 k hkl;have hkd:decide ((k:Int)<(q.length:Int))=true:=by simp;omega
     have hNX:=fun(h:ltT q[k] ⟨⟨pt,pi,pr⟩,⟨qt,qi,qr⟩⟩=true)=>h! (upto_succ (p:=fun j hj=>ltT q[j] ⟨⟨pt,pi,pr⟩,⟨qt,qi,qr⟩⟩=true) HALL.out hkl h);have hIX:=fun(h:ltT ⟨⟨pt,pi,pr⟩,⟨qt,qi,qr⟩⟩ q[k]=true)=>h! (insT_up (p:=⟨⟨pt,pi,pr⟩,⟨qt,qi,qr⟩⟩) HUPQ.out HALL.out (fun _=>h));have hQM:=List.getElem_mem hkl;clear hc2;generalize q[k]=u at *;obtain⟨⟨ut,ui,ur⟩,⟨vt,vi,vr⟩⟩:=u;dsimp only at e0 e1 e2;have HLS:=h! (fun W=>cmp04_any ⟨⟨ut,ui,ur⟩,⟨vt,vi,vr⟩⟩ ⟨⟨pt,pi,pr⟩,⟨qt,qi,qr⟩⟩ W);have HCN:=h! (cmpT_neg ⟨⟨ut,ui,ur⟩,⟨vt,vi,vr⟩⟩ ⟨⟨pt,pi,pr⟩,⟨qt,qi,qr⟩⟩);generalize cmpT ⟨⟨ut,ui,ur⟩,⟨vt,vi,vr⟩⟩ ⟨⟨pt,pi,pr⟩,⟨qt,qi,qr⟩⟩=cv at *;unfold tV at HLS;dsimp only at HLS;go_wp2_with fail
     obtain⟨wd,hwd⟩:∃ wd,wd=wr.drew:=⟨_,rfl⟩;have hEd:Ext wr0 wd:=by rw[hwd];exact HEr.out.trans (Ext.drew _)
     have hEw:Ext wr wd:=by rw[hwd];exact Ext.drew _
     have hBd:Blk wd wr0.heap.size #[.string pt,.string pi,.string pr,.string qt,.string qi,.string qr] 67:=by rw[hwd];exact hBx.drew
     refine r! (Ext wd) (by rw[<- hwd];exact Ext.refl _) ?_;rw[<- hwd];clear hwd hBx;have h1:∀ W,Ext wd W->∀ i,W.cell? ⟨wr0.heap.size,i,none⟩=(#[.string pt,.string pi,.string pr,.string qt,.string qi,.string qr]:Array Value)[i]?:=fun W h=>(hBd.below h).cells;have g0:∀ W,Ext wd W->W.cell? ⟨b2,off2+k*6,none⟩=some (.string ut):=fun W h=>Ext.cell (hEd.trans h) e0;have g1:∀ W,Ext wd W->W.cell? ⟨b2,off2+k*6+1,none⟩=some (.string ui):=fun W h=>Ext.cell (hEd.trans h) e1;have g2:∀ W,Ext wd W->W.cell? ⟨b2,off2+k*6+2,none⟩=some (.string ur):=fun W h=>Ext.cell (hEd.trans h) e2;have g3:∀ W,Ext wd W->W.cell? ⟨b2,off2+k*6+3,none⟩=some (.string vt):=fun W h=>Ext.cell (hEd.trans h) e3;have g4:∀ W,Ext wd W->W.cell? ⟨b2,off2+k*6+4,none⟩=some (.string vi):=fun W h=>Ext.cell (hEd.trans h) e4;have g5:∀ W,Ext wd W->W.cell? ⟨b2,off2+k*6+5,none⟩=some (.string vr):=fun W h=>Ext.cell (hEd.trans h) e5;(refine WalkN.tk [0,1,2,3,4,5,6,7,8,9] ?_;(iterate 10 (refine c! ?_));refine TkN.n ?_)
     clear h1 g0 g1 g2 g3 g4 g5;refine o! 10 ?_;refine b! ?_;intro K hK;go_simp;refine(HLS.out _).mono ?_;rintro e w4 ⟨rfl,hb4⟩;refine hK.out _ _ hb4 ?_;clear hK;(refine WalkN.tk [11,12] ?_;(iterate 2 (refine c! ?_));refine TkN.n ?_)
     refine d! ?_;rw[HCN.out];have HE4:=h! (hEd.trans hb4);have HBR4:=h! (show Ext wr w4 from hEw.trans hb4);have HB4:=h! (hBd.below hb4);clear hEd hBd hb4;rcases hlb:ltT ⟨⟨ut,ui,ur⟩,⟨vt,vi,vr⟩⟩ ⟨⟨pt,pi,pr⟩,⟨qt,qi,qr⟩⟩with _ | _
     rotate_left
     ·have HH:=hNX hlb;clear hlb hNX hIX HALL;go_wp2_with fail
      go_roundw
      case rel=>exact⟨k+1,by omega,by go_num,HH.out,by exact hbr.trans (Below.mono (HBR4.out) hbr.size)⟩
      case measure=>simp[intOf];omega
     have hke:((k:Int) == (q.length:Int))=false:=by rw[beq_eq_false_iff_ne];omega
     have hne0:=fun W=>tup_neq ⟨⟨ut,ui,ur⟩,⟨vt,vi,vr⟩⟩ ⟨⟨pt,pi,pr⟩,⟨qt,qi,qr⟩⟩ W;unfold tV at hne0;dsimp only at hne0;by_cases hup:(⟨⟨ut,ui,ur⟩,⟨vt,vi,vr⟩⟩:Tup)=⟨⟨pt,pi,pr⟩,⟨qt,qi,qr⟩⟩
     ·rw[decide_eq_false (fun h=>h hup)]at hne0
      have HMN:=h! (show ∀ x,x∈q↔x∈l.take (i+1)/\chkT x=true from fun x=>by
       rw[HTK.out x,HMQ.out x];constructor
       ·exact fun h=>⟨.inl h.1,h.2⟩
       ·rintro⟨h | rfl,h2⟩
        ·exact⟨h,h2⟩
        ·exact(HMQ.out _).1 (hup▸hQM))
      injection hup with hup1 hup2
      injection hup1 with hu1 hu2 hu3
      injection hup2 with hu4 hu5 hu6
      subst hu1 hu2 hu3 hu4 hu5 hu6;clear hlb hNX hIX HALL hQM;go_wp2_with fail
      obtain⟨wd,hwd⟩:∃ wd,wd=w4.drew:=⟨_,rfl⟩;have hEd:Ext wr0 wd:=by rw[hwd];exact HE4.out.trans (Ext.drew _)
      have hBd:Blk wd wr0.heap.size #[.string ut,.string ui,.string ur,.string vt,.string vi,.string vr] 67:=by rw[hwd];exact HB4.out.drew
      refine r! (Ext wd) (by rw[<- hwd];exact Ext.refl _) ?_;rw[<- hwd];clear hwd;have h1:∀ W,Ext wd W->∀ i,W.cell? ⟨wr0.heap.size,i,none⟩=(#[.string ut,.string ui,.string ur,.string vt,.string vi,.string vr]:Array Value)[i]?:=fun W h=>(hBd.below h).cells;have g0:∀ W,Ext wd W->W.cell? ⟨b2,off2+k*6,none⟩=some (.string ut):=fun W h=>Ext.cell (hEd.trans h) e0;have g1:∀ W,Ext wd W->W.cell? ⟨b2,off2+k*6+1,none⟩=some (.string ui):=fun W h=>Ext.cell (hEd.trans h) e1;have g2:∀ W,Ext wd W->W.cell? ⟨b2,off2+k*6+2,none⟩=some (.string ur):=fun W h=>Ext.cell (hEd.trans h) e2;have g3:∀ W,Ext wd W->W.cell? ⟨b2,off2+k*6+3,none⟩=some (.string vt):=fun W h=>Ext.cell (hEd.trans h) e3;have g4:∀ W,Ext wd W->W.cell? ⟨b2,off2+k*6+4,none⟩=some (.string vi):=fun W h=>Ext.cell (hEd.trans h) e4;have g5:∀ W,Ext wd W->W.cell? ⟨b2,off2+k*6+5,none⟩=some (.string vr):=fun W h=>Ext.cell (hEd.trans h) e5;(refine WalkN.tk [0,1,2,3,4,5,6,7,8,9,10,11] ?_;(iterate 12 (refine c! ?_));refine TkN.n ?_)
      refine d! ?_;have HOE:=h! (HOW.out.below hEd);have HBE:=h! (HBEL.out.trans (Below.mono hEd HBEL.out.size));clear h1 g0 g1 g2 g3 g4 g5 hEd hBd hne0 hke;go_wp2_with fail
      go_roundw
      case rel=>exact⟨i+1,q,by omega,by go_num,HOE.out,HUPQ.out,HMN.out,by omega,HBE.out⟩
      case measure=>simp[intOf];omega
     rw[decide_eq_true (show(⟨⟨ut,ui,ur⟩,⟨vt,vi,vr⟩⟩:Tup)≠⟨⟨pt,pi,pr⟩,⟨qt,qi,qr⟩⟩from hup)]at hne0;have HUP:=hIX (ltT_total hlb hup);have HME:=h! (show ∀ x,x∈insT q k ⟨⟨pt,pi,pr⟩,⟨qt,qi,qr⟩⟩↔x∈l.take (i+1)/\chkT x=true from fun x=>by rw[insT_mem,HMQ.out x,HTK.out x];exact⟨fun h=>h.elim (fun h=>⟨.inl h.1,h.2⟩) fun h=>⟨.inr h,h▸HCHK.out⟩,fun h=>h.1.elim (fun h1 => .inl ⟨h1,h.2⟩) .inr⟩);clear hlb hNX hIX HALL hQM hup;go_wp2_with fail
     obtain⟨wd,hwd⟩:∃ wd,wd=w4.drew:=⟨_,rfl⟩;have hE6:Ext wr0 wd:=by rw[hwd];exact HE4.out.trans (Ext.drew _)
     have hB6:Blk wd wr0.heap.size #[.string pt,.string pi,.string pr,.string qt,.string qi,.string qr] 67:=by rw[hwd];exact HB4.out.drew
     refine r! (Ext wd) (by rw[<- hwd];exact Ext.refl _) ?_;rw[<- hwd];clear hwd;have h1:∀ W,Ext wd W->∀ i,W.cell? ⟨wr0.heap.size,i,none⟩=(#[.string pt,.string pi,.string pr,.string qt,.string qi,.string qr]:Array Value)[i]?:=fun W h=>(hB6.below h).cells;have g0:∀ W,Ext wd W->W.cell? ⟨b2,off2+k*6,none⟩=some (.string ut):=fun W h=>Ext.cell (hE6.trans h) e0;have g1:∀ W,Ext wd W->W.cell? ⟨b2,off2+k*6+1,none⟩=some (.string ui):=fun W h=>Ext.cell (hE6.trans h) e1;have g2:∀ W,Ext wd W->W.cell? ⟨b2,off2+k*6+2,none⟩=some (.string ur):=fun W h=>Ext.cell (hE6.trans h) e2;have g3:∀ W,Ext wd W->W.cell? ⟨b2,off2+k*6+3,none⟩=some (.string vt):=fun W h=>Ext.cell (hE6.trans h) e3;have g4:∀ W,Ext wd W->W.cell? ⟨b2,off2+k*6+4,none⟩=some (.string vi):=fun W h=>Ext.cell (hE6.trans h) e4;have g5:∀ W,Ext wd W->W.cell? ⟨b2,off2+k*6+5,none⟩=some (.string vr):=fun W h=>Ext.cell (hE6.trans h) e5;(refine WalkN.tk [0,1,2,3,4,5,6,7,8,9,10,11] ?_;(iterate 12 (refine c! ?_));refine TkN.n ?_)
     refine d! ?_;clear h1 g0 g1 g2 g3 g4 g5 hne0 hke e0 e1 e2 e3 e4 e5;obtain⟨w6,rfl⟩:∃ w6,w6=wd:=⟨_,rfl⟩;have hkc:(k:Int)<=mc:=by omega
     have hkq:(k:Int)<=q.length:=by omega
     go_wp2_with fail
     obtain⟨wd,hwd⟩:∃ wd,wd=w6.drew:=⟨_,rfl⟩;have hEd:Ext wr0 wd:=by rw[hwd];exact hE6.trans (Ext.drew _)
     have hBd:Blk wd wr0.heap.size #[.string pt,.string pi,.string pr,.string qt,.string qi,.string qr] 67:=by rw[hwd];exact hB6.drew
     have hbd:Below w.heap.size w wd:=HBEL.out.trans (Below.mono hEd HBEL.out.size);have hsd:Sl (· < wd.heap.size) wd 6 (.slice (some ⟨b2,off2,none⟩) q.length mc) (tuCs q):=HOW.out.slU.up hEd;refine r! (Ext wd) (by rw[<- hwd];exact Ext.refl _) ?_;rw[<- hwd];clear hwd;have HTW:∀ W,Ext wd W->∀ i,W.cell? ⟨wr0.heap.size,i,none⟩=(#[.string pt,.string pi,.string pr,.string qt,.string qi,.string qr]:Array Value)[i]?:=fun W h=>(hBd.below h).cells;(refine WalkN.tk [1,2,3,5,8,9,10] ?_;(iterate 7 (refine c! ?_));refine TkN.n ?_)
     clear HTW;have hE0:Ext wd wd:=Ext.refl _
     have hs1:Sl (· < wd.heap.size) wd 6 (.slice (some ⟨b2,off2,none⟩) k mc) (tuCs (q.take k)):=by
      have:=hsd.take k (by omega);rwa[tuCs_take]at this
     have hs2:Sl (· < wd.heap.size) wd 6 (.slice (if mc=k then(some ⟨b2,off2,none⟩)else(some ⟨b2,off2+k*6,none⟩)) (q.length-k) (mc-k)) (tuCs (q.drop k)):=by
      have:=hsd.tailK (ao':=(if mc=k then(some ⟨b2,off2,none⟩)else(some ⟨b2,off2+k*6,none⟩))) k (by omega) (fun h=>by rw[if_neg h];simp[Addr.add_lit]);rwa[tuCs_drop]at this
     have HIN:=h! (show []++tuCs (q.take k)++tuCs [⟨⟨pt,pi,pr⟩,⟨qt,qi,qr⟩⟩]++tuCs (q.drop k)=tuCs (insT q k ⟨⟨pt,pi,pr⟩,⟨qt,qi,qr⟩⟩)from by rw[List.nil_append,<- tuCs_append,<- tuCs_append];rfl);have hl1:(q.take k).length<=100000:=by rw[List.length_take];omega
     have hl2:(q.drop k).length<=100000:=by rw[List.length_drop];omega
     clear hsd
    case' neg =>
     obtain rfl:k=q.length:=by omega
     have HUP:=h! (insT_up (p:=⟨⟨pt,pi,pr⟩,⟨qt,qi,qr⟩⟩) HUPQ.out HALL.out (fun h=>absurd h hkl));have HME:=h! (show ∀ x,x∈insT q q.length ⟨⟨pt,pi,pr⟩,⟨qt,qi,qr⟩⟩↔x∈l.take (i+1)/\chkT x=true from fun x=>by rw[insT_mem,HMQ.out x,HTK.out x];exact⟨fun h=>h.elim (fun h=>⟨.inl h.1,h.2⟩) fun h=>⟨.inr h,h▸HCHK.out⟩,fun h=>h.1.elim (fun h1 => .inl ⟨h1,h.2⟩) .inr⟩);have hkc:(q.length:Int)<=mc:=by omega
     have hkq:(q.length:Int)<=q.length:=by omega
     clear hkl HALL HMC hbr;rcases HSH.out with⟨hmn,-⟩ | ⟨b2,n',c',hmn⟩
     case' inl =>
      obtain rfl:mo=none:=by injection hmn
      clear hmn HSH;go_wp2_with fail
      obtain⟨wc,hwc⟩:∃ wc,wc=wr.drew:=⟨_,rfl⟩;have hEc:Ext wr0 wc:=by rw[hwc];exact HEr.out.trans (Ext.drew _)
      have hBc:Blk wc wr0.heap.size #[.string pt,.string pi,.string pr,.string qt,.string qi,.string qr] 67:=by rw[hwc];exact hBx.drew
      refine r! (Ext wc) (by rw[<- hwc];exact Ext.refl _) ?_;rw[<- hwc];clear hwc;(refine WalkN.tk [0,1,2,3,4] ?_;(iterate 5 (refine c! ?_));refine TkN.n ?_)
      refine k! 5 ?_;refine k! 6 ?_;refine k! 7 ?_;refine k! 8 ?_;refine k! 9 ?_;refine k! 10 ?_;refine k! 11 ?_
      refine t! 12 ?_
      refine d! ?_;go_wp2_with fail
      obtain⟨w6,hw6⟩:∃ w6,w6=wc.drew:=⟨_,rfl⟩;have hE6:Ext wr0 w6:=by rw[hw6];exact hEc.trans (Ext.drew _)
      have hB6:Blk w6 wr0.heap.size #[.string pt,.string pi,.string pr,.string qt,.string qi,.string qr] 67:=by rw[hw6];exact hBc.drew
      refine r! (Ext w6) (by rw[<- hw6];exact Ext.refl _) ?_;rw[<- hw6];clear hw6;(refine WalkN.tk [0,1,2,3,4] ?_;(iterate 5 (refine c! ?_));refine TkN.n ?_)
      refine k! 5 ?_;refine k! 6 ?_;refine k! 7 ?_;refine k! 8 ?_;refine k! 9 ?_;refine k! 10 ?_
      refine t! 11 ?_
      refine d! ?_;go_wp2_with fail
      obtain⟨wd,hwd⟩:∃ wd,wd=w6.drew:=⟨_,rfl⟩;have hEd:Ext wr0 wd:=by rw[hwd];exact hE6.trans (Ext.drew _)
      have hBd:Blk wd wr0.heap.size #[.string pt,.string pi,.string pr,.string qt,.string qi,.string qr] 67:=by rw[hwd];exact hB6.drew
      have hbd:Below w.heap.size w wd:=HBEL.out.trans (Below.mono hEd HBEL.out.size);have hsd:Sl (· < wd.heap.size) wd 6 (.slice none q.length mc) (tuCs q):=HOW.out.slU.up hEd;refine r! (Ext wd) (by rw[<- hwd];exact Ext.refl _) ?_;rw[<- hwd];clear hwd;have HTW:∀ W,Ext wd W->∀ i,W.cell? ⟨wr0.heap.size,i,none⟩=(#[.string pt,.string pi,.string pr,.string qt,.string qi,.string qr]:Array Value)[i]?:=fun W h=>(hBd.below h).cells;(refine WalkN.tk [1,2,3,5,8,9,10] ?_;(iterate 7 (refine c! ?_));refine TkN.n ?_)
      clear HTW;have hE0:Ext wd wd:=Ext.refl _
      have hs1:Sl (· < wd.heap.size) wd 6 (.slice none q.length mc) (tuCs (q.take q.length)):=by
       have:=hsd.take q.length (by omega);rwa[tuCs_take]at this
      have hs2:Sl (· < wd.heap.size) wd 6 (.slice none 0 (mc-q.length)) (tuCs (q.drop q.length)):=by
       have:=hsd.tailK (ao':=none) q.length (by omega) (fun _=>rfl);rwa[tuCs_drop,Nat.sub_self]at this
      obtain⟨k,hk⟩:∃ k,k=q.length:=⟨_,rfl⟩;have HUP:=h! (show UpT (insT q k ⟨⟨pt,pi,pr⟩,⟨qt,qi,qr⟩⟩)from by rw[hk];exact HUP.out);have HME:=h! (show ∀ x,x∈insT q k ⟨⟨pt,pi,pr⟩,⟨qt,qi,qr⟩⟩↔x∈l.take (i+1)/\chkT x=true from by rw[hk];exact HME.out);have HIN:=h! (show []++tuCs (q.take q.length)++tuCs [⟨⟨pt,pi,pr⟩,⟨qt,qi,qr⟩⟩]++tuCs (q.drop q.length)=tuCs (insT q k ⟨⟨pt,pi,pr⟩,⟨qt,qi,qr⟩⟩)from by rw[hk,List.nil_append,<- tuCs_append,<- tuCs_append];rfl);clear hk;have hl1:(q.take q.length).length<=100000:=by rw[List.length_take];omega
      have hl2:(q.drop q.length).length<=100000:=by rw[List.length_drop];omega
      clear hsd
     case' inr =>
      obtain⟨off2,rfl⟩:∃ off2,mo=some ⟨b2,off2,none⟩:=⟨0,by injection hmn⟩;clear hmn HSH;go_wp2_with fail
      obtain⟨wc,hwc⟩:∃ wc,wc=wr.drew:=⟨_,rfl⟩;have hEc:Ext wr0 wc:=by rw[hwc];exact HEr.out.trans (Ext.drew _)
      have hBc:Blk wc wr0.heap.size #[.string pt,.string pi,.string pr,.string qt,.string qi,.string qr] 67:=by rw[hwc];exact hBx.drew
      refine r! (Ext wc) (by rw[<- hwc];exact Ext.refl _) ?_;rw[<- hwc];clear hwc;(refine WalkN.tk [0,1,2,3,4] ?_;(iterate 5 (refine c! ?_));refine TkN.n ?_)
      refine k! 5 ?_;refine k! 6 ?_;refine k! 7 ?_;refine k! 8 ?_;refine k! 9 ?_;refine k! 10 ?_;refine k! 11 ?_
      refine t! 12 ?_
      refine d! ?_;go_wp2_with fail
      obtain⟨w6,hw6⟩:∃ w6,w6=wc.drew:=⟨_,rfl⟩;have hE6:Ext wr0 w6:=by rw[hw6];exact hEc.trans (Ext.drew _)
      have hB6:Blk w6 wr0.heap.size #[.string pt,.string pi,.string pr,.string qt,.string qi,.string qr] 67:=by rw[hw6];exact hBc.drew
      refine r! (Ext w6) (by rw[<- hw6];exact Ext.refl _) ?_;rw[<- hw6];clear hw6;(refine WalkN.tk [0,1,2,3,4] ?_;(iterate 5 (refine c! ?_));refine TkN.n ?_)
      refine k! 5 ?_;refine k! 6 ?_;refine k! 7 ?_;refine k! 8 ?_;refine k! 9 ?_;refine k! 10 ?_
      refine t! 11 ?_
      refine d! ?_;go_wp2_with fail
      obtain⟨wd,hwd⟩:∃ wd,wd=w6.drew:=⟨_,rfl⟩;have hEd:Ext wr0 wd:=by rw[hwd];exact hE6.trans (Ext.drew _)
      have hBd:Blk wd wr0.heap.size #[.string pt,.string pi,.string pr,.string qt,.string qi,.string qr] 67:=by rw[hwd];exact hB6.drew
      have hbd:Below w.heap.size w wd:=HBEL.out.trans (Below.mono hEd HBEL.out.size);have hsd:Sl (· < wd.heap.size) wd 6 (.slice (some ⟨b2,off2,none⟩) q.length mc) (tuCs q):=HOW.out.slU.up hEd;refine r! (Ext wd) (by rw[<- hwd];exact Ext.refl _) ?_;rw[<- hwd];clear hwd;have HTW:∀ W,Ext wd W->∀ i,W.cell? ⟨wr0.heap.size,i,none⟩=(#[.string pt,.string pi,.string pr,.string qt,.string qi,.string qr]:Array Value)[i]?:=fun W h=>(hBd.below h).cells;(refine WalkN.tk [1,2,3,5,8,9,10] ?_;(iterate 7 (refine c! ?_));refine TkN.n ?_)
      clear HTW;have hE0:Ext wd wd:=Ext.refl _
      have hs1:Sl (· < wd.heap.size) wd 6 (.slice (some ⟨b2,off2,none⟩) q.length mc) (tuCs (q.take q.length)):=by
       have:=hsd.take q.length (by omega);rwa[tuCs_take]at this
      have hs2:Sl (· < wd.heap.size) wd 6 (.slice (if mc=q.length then(some ⟨b2,off2,none⟩)else(some ⟨b2,off2+q.length*6,none⟩)) 0 (mc-q.length)) (tuCs (q.drop q.length)):=by
       have:=hsd.tailK (ao':=(if mc=q.length then(some ⟨b2,off2,none⟩)else(some ⟨b2,off2+q.length*6,none⟩))) q.length (by omega) (fun h=>by rw[if_neg h];simp[Addr.add_lit]);rwa[tuCs_drop,Nat.sub_self]at this
      obtain⟨k,hk⟩:∃ k,k=q.length:=⟨_,rfl⟩;have HUP:=h! (show UpT (insT q k ⟨⟨pt,pi,pr⟩,⟨qt,qi,qr⟩⟩)from by rw[hk];exact HUP.out);have HME:=h! (show ∀ x,x∈insT q k ⟨⟨pt,pi,pr⟩,⟨qt,qi,qr⟩⟩↔x∈l.take (i+1)/\chkT x=true from by rw[hk];exact HME.out);have HIN:=h! (show []++tuCs (q.take q.length)++tuCs [⟨⟨pt,pi,pr⟩,⟨qt,qi,qr⟩⟩]++tuCs (q.drop q.length)=tuCs (insT q k ⟨⟨pt,pi,pr⟩,⟨qt,qi,qr⟩⟩)from by rw[hk,List.nil_append,<- tuCs_append,<- tuCs_append];rfl);clear hk;have hl1:(q.take q.length).length<=100000:=by rw[List.length_take];omega
      have hl2:(q.drop q.length).length<=100000:=by rw[List.length_drop];omega
      clear hsd
    all_goals
     refine p! 0 6 ?_ ?_
     ·refine⟨_,(by simp only[gA,gZ];rfl),by rfl,fun K hK=>?_⟩;go_simp;have hown1:Own (wd.alloc (.cells #[] 67)) wd.heap.size 67 6 (.slice (some ⟨wd.heap.size,0,none⟩) 0 0) []:=Own.made wd (Nat.le_refl _) _ _;have hE1:=Below.alloc hE0 (Nat.le_refl _) (.cells #[] 67);refine hK.out _ _ hE1 ?_;clear hK;refine p! 4 6 ?_ ?_
      ·refine b! ?_;intro K hK;refine wp_own tupT (.tmp 43) (.tmp 46) rfl rfl hown1 rfl (hs1.same (Same.below hE1)) (tuCs_one _) (by simp[tuCs_length] <;> omega) (by simp[tuCs_length] <;> omega) hE1.size (fun v2 w2 hown2 hb2 hg2'=>?_);have hE2:Ext wd w2:=Below.trans hE1 hb2;refine hK.out _ _ hE2 ?_;clear hK;simp only[Act.put,pA,pZ,pS];refine o! 6 ?_;refine b! ?_;intro K hK;go_simp;have hE3:=Below.alloc hE2 hE2.size (.cells #[.string pt,.string pi,.string pr,.string qt,.string qi,.string qr] 67);have hown3:=hown2.below ((Below.refl _ _).alloc (Nat.le_refl _) (.cells #[.string pt,.string pi,.string pr,.string qt,.string qi,.string qr] 67));have hk3:Sl (fun _=>True) (w2.alloc (.cells #[.string pt,.string pi,.string pr,.string qt,.string qi,.string qr] 67)) 6 (.slice (some ⟨w2.heap.size,0,none⟩) 1 1) (tuCs [⟨⟨pt,pi,pr⟩,⟨qt,qi,qr⟩⟩]):=Sl.made w2 (fun _=>True) 6 1 67 #[.string pt,.string pi,.string pr,.string qt,.string qi,.string qr] rfl (by decide) trivial;refine hK.out _ _ hE3 ?_;clear hK;refine o! 7 ?_;refine b! ?_;intro K hK;refine wp_own tupT (.tmp 47) (.tmp 49) rfl rfl hown3 rfl hk3 (tuCs_one _) (by simp[tuCs_length] <;> omega) (by simp[tuCs_length] <;> omega) hE3.size (fun v4 w4 hown4 hb4 _=>?_);have hE4:Ext wd w4:=Below.trans hE3 hb4;refine hK.out _ _ hE4 ?_;clear hK;simp only[Act.put,pA,pZ,pS];refine o! 11 ?_;refine b! ?_;intro K hK;refine wp_own tupT (.tmp 50) (.tmp 53) rfl rfl hown4 rfl (hs2.same (Same.below hE4)) (tuCs_one _) (by simp[tuCs_length] <;> omega) (by simp[tuCs_length] <;> omega) hE4.size (fun v5 w5 hown5 hb5 _=>?_);have hE5:Ext wd w5:=Below.trans hE4 hb5;have HO5:=h! hown5;refine hK.out _ _ hE5 ?_;clear hK;simp only[Act.put,pA,pZ,pS];clear hown3 hown4 hown5 hk3;refine t! 12 ?_
       refine d! ?_;go_wp2
       go_roundw
       case rel=>exact⟨i+1,insT q k ⟨⟨pt,pi,pr⟩,⟨qt,qi,qr⟩⟩,by omega,by go_num,(HIN.out▸HO5.out:Own w5 wd.heap.size 67 6 v5 (tuCs (insT q k ⟨⟨pt,pi,pr⟩,⟨qt,qi,qr⟩⟩))).base hbd.size,HUP.out,HME.out,by rw[insT_length];omega,hbd.trans (Below.mono hE5 hbd.size)⟩
       case measure=>simp[intOf];omega
      ·obtain⟨w1,hw1⟩:∃ w1,w1=wd.alloc (.cells #[] 67):=⟨_,rfl⟩;rw[<- hw1]at hown1 hE1 ⊢;have hs1':w1.heap.size=wd.heap.size+1:=by rw[hw1];simp
       have HS1:=h! hs1';clear hw1 hs1';refine b! ?_;intro K hK;go_simp;have hE3:=Below.alloc hE1 hE1.size (.cells #[.string pt,.string pi,.string pr,.string qt,.string qi,.string qr] 67);have hown3:=hown1.below ((Below.refl _ _).alloc (Nat.le_refl _) (.cells #[.string pt,.string pi,.string pr,.string qt,.string qi,.string qr] 67));have hk3:Sl (fun b=>b=w1.heap.size) (w1.alloc (.cells #[.string pt,.string pi,.string pr,.string qt,.string qi,.string qr] 67)) 6 (.slice (some ⟨w1.heap.size,0,none⟩) 1 1) (tuCs [⟨⟨pt,pi,pr⟩,⟨qt,qi,qr⟩⟩]):=Sl.made w1 (fun b=>b=w1.heap.size) 6 1 67 #[.string pt,.string pi,.string pr,.string qt,.string qi,.string qr] rfl (by decide) rfl;refine hK.out _ _ hE3 ?_;clear hK;refine o! 4 ?_;refine b! ?_;intro K hK;refine wp_own tupT (.tmp 43) (.tmp 46) rfl rfl hown3 rfl (hs1.same (Same.below hE3)) (tuCs_one _) (by simp[tuCs_length] <;> omega) (by simp[tuCs_length] <;> omega) hE3.size (fun v2 w2 hown2 hb2 hg2'=>?_);have hE2:Ext wd w2:=Below.trans hE3 hb2;have hk5:=hk3.same (w':=w2) (fun x hx=>hg2'.block x (by subst hx;simp) (fun h=>by subst hx;have h2:=Option.some.inj (show some w1.heap.size=some wd.heap.size from h);have:=HS1.out;omega));refine hK.out _ _ hE2 ?_;clear hK;simp only[Act.put,pA,pZ,pS];refine o! 7 ?_;refine b! ?_;intro K hK;refine wp_own tupT (.tmp 47) (.tmp 49) rfl rfl hown2 rfl hk5 (tuCs_one _) (by simp[tuCs_length] <;> omega) (by simp[tuCs_length] <;> omega) hE2.size (fun v4 w4 hown4 hb4 _=>?_);have hE4:Ext wd w4:=Below.trans hE2 hb4;refine hK.out _ _ hE4 ?_;clear hK;simp only[Act.put,pA,pZ,pS];refine o! 11 ?_;refine b! ?_;intro K hK;refine wp_own tupT (.tmp 50) (.tmp 53) rfl rfl hown4 rfl (hs2.same (Same.below hE4)) (tuCs_one _) (by simp[tuCs_length] <;> omega) (by simp[tuCs_length] <;> omega) hE4.size (fun v5 w5 hown5 hb5 _=>?_);have hE5:Ext wd w5:=Below.trans hE4 hb5;have HO5:=h! hown5;refine hK.out _ _ hE5 ?_;clear hK;simp only[Act.put,pA,pZ,pS];clear hown2 hown4 hown5 hk5;refine t! 12 ?_
       refine d! ?_;go_wp2
       go_roundw
       case rel=>exact⟨i+1,insT q k ⟨⟨pt,pi,pr⟩,⟨qt,qi,qr⟩⟩,by omega,by go_num,(HIN.out▸HO5.out:Own w5 wd.heap.size 67 6 v5 (tuCs (insT q k ⟨⟨pt,pi,pr⟩,⟨qt,qi,qr⟩⟩))).base hbd.size,HUP.out,HME.out,by rw[insT_length];omega,hbd.trans (Below.mono hE5 hbd.size)⟩
       case measure=>simp[intOf];omega
     ·refine b! ?_;intro K hK;go_simp;have hE1:=Below.alloc hE0 (Nat.le_refl _) (.cells #[.string pt,.string pi,.string pr,.string qt,.string qi,.string qr] 67);have hk1:Sl (fun b=>b=wd.heap.size) (wd.alloc (.cells #[.string pt,.string pi,.string pr,.string qt,.string qi,.string qr] 67)) 6 (.slice (some ⟨wd.heap.size,0,none⟩) 1 1) (tuCs [⟨⟨pt,pi,pr⟩,⟨qt,qi,qr⟩⟩]):=Sl.made wd (fun b=>b=wd.heap.size) 6 1 67 #[.string pt,.string pi,.string pr,.string qt,.string qi,.string qr] rfl (by decide) rfl;refine hK.out _ _ hE1 ?_;clear hK;obtain⟨w1,hw1⟩:∃ w1,w1=wd.alloc (.cells #[.string pt,.string pi,.string pr,.string qt,.string qi,.string qr] 67):=⟨_,rfl⟩;rw[<- hw1]at hk1 hE1 ⊢;have hs1':w1.heap.size=wd.heap.size+1:=by rw[hw1];simp
      have HS1:=h! hs1';clear hw1 hs1';refine o! 0 ?_;refine⟨_,(by simp only[gA,gZ];rfl),by rfl,fun K hK=>?_⟩;go_simp;have hown1:Own (w1.alloc (.cells #[] 67)) wd.heap.size 67 6 (.slice (some ⟨w1.heap.size,0,none⟩) 0 0) []:=Own.made w1 hE1.size _ _;have hE3:=Below.alloc hE1 hE1.size (.cells #[] 67);have hk3:=hk1.same (w':=w1.alloc (.cells #[] 67)) (fun x hx=>Below.heap_alloc w1 _ x (by subst hx;have:=HS1.out;omega));refine hK.out _ _ hE3 ?_;clear hK;refine o! 4 ?_;refine b! ?_;intro K hK;refine wp_own tupT (.tmp 43) (.tmp 46) rfl rfl hown1 rfl (hs1.same (Same.below hE3)) (tuCs_one _) (by simp[tuCs_length] <;> omega) (by simp[tuCs_length] <;> omega) hE3.size (fun v2 w2 hown2 hb2 hg2'=>?_);have hE2:Ext wd w2:=Below.trans hE3 hb2;have hk5:=hk3.same (w':=w2) (fun x hx=>hg2'.block x (by subst hx;have:=HS1.out;simp;omega) (fun h=>by subst hx;have h2:=Option.some.inj (show some wd.heap.size=some w1.heap.size from h);have:=HS1.out;omega));refine hK.out _ _ hE2 ?_;clear hK;simp only[Act.put,pA,pZ,pS];refine o! 7 ?_;refine b! ?_;intro K hK;refine wp_own tupT (.tmp 47) (.tmp 49) rfl rfl hown2 rfl hk5 (tuCs_one _) (by simp[tuCs_length] <;> omega) (by simp[tuCs_length] <;> omega) hE2.size (fun v4 w4 hown4 hb4 _=>?_);have hE4:Ext wd w4:=Below.trans hE2 hb4;refine hK.out _ _ hE4 ?_;clear hK;simp only[Act.put,pA,pZ,pS];refine o! 11 ?_;refine b! ?_;intro K hK;refine wp_own tupT (.tmp 50) (.tmp 53) rfl rfl hown4 rfl (hs2.same (Same.below hE4)) (tuCs_one _) (by simp[tuCs_length] <;> omega) (by simp[tuCs_length] <;> omega) hE4.size (fun v5 w5 hown5 hb5 _=>?_);have hE5:Ext wd w5:=Below.trans hE4 hb5;have HO5:=h! hown5;refine hK.out _ _ hE5 ?_;clear hK;simp only[Act.put,pA,pZ,pS];clear hown2 hown4 hown5 hk5;refine t! 12 ?_
      refine d! ?_;go_wp2
      go_roundw
      case rel=>exact⟨i+1,insT q k ⟨⟨pt,pi,pr⟩,⟨qt,qi,qr⟩⟩,by omega,by go_num,(HIN.out▸HO5.out:Own w5 wd.heap.size 67 6 v5 (tuCs (insT q k ⟨⟨pt,pi,pr⟩,⟨qt,qi,qr⟩⟩))).base hbd.size,HUP.out,HME.out,by rw[insT_length];omega,hbd.trans (Below.mono hE5 hbd.size)⟩
      case measure=>simp[intOf];omega
  ·obtain rfl:i=l.length:=by omega
   obtain⟨mo,mc,rfl,-,-,-⟩:=Sl.rows tuC_length (by decide) (show Sl _ wr 6 u3 (List.flatMap tuC q)from hown.sl);rw[List.take_length]at HMQ;have HOW:=h! hown;clear hown;go_wp2_with fail
   go_ret
   exact⟨_,q,rfl,⟨HUPQ.out,HMQ.out⟩,HOW.out,hbel⟩
def GSaid (P:List P3->List FT->Value->Prop)(w:World)(e:Ending)(w':World):Prop :=
 Ext w w'/\∃ (ps:List P3) (fs:List FT) (po:Option Addr) (pc:Nat) (fo:Option Addr) (fc:Nat) (ev:Value),P ps fs ev/\e = .returned (.tuple #[.agg #[.slice po ps.length pc,.slice fo fs.length fc],ev]) /\
  GrAt (fun x=>w.heap.size<=x/\x<w'.heap.size) w' ps fs (.slice po ps.length pc) (.slice fo fs.length fc)
def JoinG {β:Type} (wd:World)(P:List P3->List FT->Value->Prop)(A:β->Nat->Option Addr->Nat->Option Addr->Nat->List P3->List FT->Value->Act)(e:Exit)(a:Act)(W:World):Prop :=
 e = .normal/\∃ (bk:β) (bg:Nat) (po:Option Addr) (pc:Nat) (fo:Option Addr) (fc:Nat) (ps:List P3) (fs:List FT) (ev:Value),a=A bk bg po pc fo fc ps fs ev/\P ps fs ev/\Ext wd W/\wd.heap.size<=bg /\
  Blk W bg #[.slice po ps.length pc,.slice fo fs.length fc] 96/\GrAt (fun x=>x≠bg/\wd.heap.size<=x/\x<W.heap.size) W ps fs (.slice po ps.length pc) (.slice fo fs.length fc)
theorem GrAt.shape {S:Nat->Prop} {w:World} {ps:List P3} {fs:List FT} {pv fv:Value} (h:GrAt S w ps fs pv fv):∃ po pc fo fc,pv = .slice po ps.length pc/\fv = .slice fo fs.length fc:=by
 obtain⟨h1,q,h2,h3,h4⟩:=h;obtain⟨po,pc,rfl,-⟩:=Sl.rows pC_length (by decide) (show Sl _ w 3 pv (ps.flatMap pC)from h1);obtain⟨fo,fc,rfl,-⟩:=Sl.rows fC_length (by decide) h4;exact⟨po,pc,fo,fc,rfl,by rw[<- h2,List.length_map]⟩
theorem GrAt.none (S:Nat->Prop)(w:World):GrAt S w [] [] (.slice none 0 0) (.slice none 0 0):=⟨Sl.nil _ _ _,[],rfl,(fun x hx=>by cases hx),Sl.nil _ _ _⟩
theorem set_ex (l:List Tup):∃ T,SetT l T:=by
 have htr:∀ a b c:Tup,(!ltT b a)=true->(!ltT c b)=true->(!ltT c a)=true:=fun a b c h k=>by
  rw[Bool.not_eq_true']at *;have:=swoC.ntrans c b a;simp only[lt_cmpC]at this;exact this k h
 have hto:∀ a b:Tup,(!ltT b a||!ltT a b)=true:=fun a b=>by
  cases h:ltT b a with
  | false=>rfl
  | true =>
   cases k:ltT a b with
   | false=>rfl
   | true =>
    have:=swoC.trans a b a;simp only[lt_cmpC]at this;have h3:=this k h;have h4:=swoC.irrefl a;rw[lt_cmpC]at h4;rw[h4]at h3;cases h3
 refine⟨_,set_of (List.mergeSort_perm l fun a b=>!ltT b a) ?_⟩;have:=List.pairwise_mergeSort (le:=fun a b=>!ltT b a) htr hto l;exact this.imp fun {a b} h=>by simpa using h
theorem bookT_any {l T:List Tup} (hT:SetT l T)(v:Value)(w:World)(h:Sl (· < w.heap.size) w 6 v (tuCs l))(hl:l.length<=1000000)(hok:∀ t∈l,t.Ok) :
  Calls Tryz.prog 20 #[v] w fun e w'=>∃ b,e = .returned (.pointer (some ⟨b,0,none⟩))/\BookAt w' b T/\Ext w w':=by
 refine(newBook_any l v w h hl hok).mono ?_;rintro e w' ⟨b,U,rfl,hU,hb,hx⟩;obtain rfl:=hT.uniq hU;exact⟨b,rfl,hb,hx⟩
theorem setT_any {l T:List Tup} (hT:SetT l T)(v:Value)(w:World)(h:Sl (· < w.heap.size) w 6 v (tuCs l))(hl:l.length<=100000)(hok:∀ t∈l,t.Ok) :
  Calls Tryz.prog 50 #[v] w fun e w'=>∃ v',e = .returned v'/\Sl (· < w'.heap.size) w' 6 v' (tuCs T)/\Ext w w':=by
 refine(set25_any v l w h hl hok).mono ?_;rintro e w' ⟨v',U,rfl,hU,hb,hx⟩;obtain rfl:=hT.uniq hU;exact⟨v',rfl,hb.slU,hx⟩
def WalkP (ts:List TyS)(T:List Tup)(shut:List R2)(p:P3)(most:Int)(ok long:Value)(ps:List P3)(fs:List FT)(ev:Value):Prop :=
 (∃ n,WalkEnd ts T shut p most n/\ps=(walkN ts T shut p n).1/\fs=(walkN ts T shut p n).2/\ev=ok)\/(WalkLong ts T shut p most/\ps=[]/\fs=[]/\ev=long)
theorem walkG_any (ts:List TyS)(tv:Value)(b:Nat)(T:List Tup)(shut:List R2)(sv:Value)(p:P3)(most:Int)(N:Nat)(w:World)(h:TysAt (· < w.heap.size) w ts tv)(hok:∀ t∈ts,t.Ok)(hc:chk06 ts=0)(hsB:schB ts<=549755813888)(hsz:∀ t∈ts,∀ r∈t.rels,r.2.sz<=1000000)(hln:(namesOf ts).length<=1099511627776)(hlr:(refsOf ts).length<=1099511627776)
  (hbk:BookAt w b T) (hsv:Sl (· < w.heap.size) w 2 sv (shut.flatMap r2C)) (hso:∀ r∈shut,r.Ok) (hin:WalkIn ts T shut p N) :
  Calls Tryz.prog 98 #[.agg #[tv],bkV b,sv,pV p,.int .i64 most] w (GSaid (WalkP ts T shut p most (.int .i64 0) (.int .i64 10)) w):=by
 refine(walkW_any ts tv b T shut sv p most N w h hok hc hsB hsz hln hlr hbk hsv hso hin).mono ?_;rintro e w' ⟨hx,⟨n,pv,fv,he,rfl,hg⟩ | ⟨hlong,rfl⟩⟩
 ·obtain⟨po,pc,fo,fc,rfl,rfl⟩:=hg.shape;exact⟨hx,_,_,po,pc,fo,fc,_,.inl ⟨n,he,rfl,rfl,rfl⟩,rfl,hg⟩
 ·exact⟨hx,[],[],none,0,none,0,_,.inr ⟨hlong,rfl,rfl,rfl⟩,rfl,GrAt.none _ _⟩
theorem walkD_any (ts:List TyS)(tv:Value)(T:List Tup)(setv:Value)(shut:List R2)(sv:Value)(p:P3)(most:Int)(N:Nat)(w:World)(h:TysAt (· < w.heap.size) w ts tv)(hu:uniqOk ts=true)(hset:Sl (· < w.heap.size) w 6 setv (tuCs T))(hsv:Sl (· < w.heap.size) w 2 sv (shut.flatMap r2C))(hsl:shut.length<=1099511627776)(hin:WalkIn ts T shut p N) :
  Calls Tryz.prog 51 #[.agg #[tv],setv,sv,pV p,.int .i64 most] w (GSaid (WalkP ts T shut p most (.bool true) (.bool false)) w):=by
 refine(walk26_any ts tv T setv shut sv p most N w h hu hset hsv hsl hin).mono ?_;rintro e w' ⟨hx,⟨n,pv,fv,he,rfl,hg⟩ | ⟨hlong,rfl⟩⟩
 ·obtain⟨po,pc,fo,fc,rfl,rfl⟩:=hg.shape;exact⟨hx,_,_,po,pc,fo,fc,_,.inl ⟨n,he,rfl,rfl,rfl⟩,rfl,hg⟩
 ·exact⟨hx,[],[],none,0,none,0,_,.inr ⟨hlong,rfl,rfl,rfl⟩,rfl,GrAt.none _ _⟩
abbrev G2:=Value × Value
def g2V (x:G2):Value := .agg #[x.1,x.2]
abbrev A2S (gm km:Nat) (M:Nat->Prop) (w:World):Nat->Prop:=fun x=>x<w.heap.size/\x≠gm/\x≠km/\¬ M x
abbrev A2 (gm km:Nat) (w w':World):Prop:=Kept (fun x=>x<w.heap.size/\x≠gm/\x≠km) w w'
section
variable {w w' w'' w0 : World} {gm km : Nat} {M : Nat -> Prop}
theorem A2.refl (gm km:Nat)(w:World):A2 gm km w w:=Kept.refl _ _
theorem A2.next (h:A2 gm km w w')(k:A2 gm km w' w''):A2 gm km w w'':=Kept.trans h (Kept.mono k fun _ hx=>⟨Nat.lt_of_lt_of_le hx.1 h.size,hx.2⟩)
theorem A2.of (h:Ext w w'):A2 gm km w w':=Below.kept h fun _ hx=>hx.1
theorem A2.turnG (h:Turned w w' gm):A2 gm km w w':=h.kept.mono fun _ hx=>hx.2.1
theorem A2.turnK (h:Turned w w' km):A2 gm km w w':=h.kept.mono fun _ hx=>hx.2.2
theorem A2.old (h:A2 gm km w w')(hX:Ext w0 w)(h1:w0.heap.size<=gm)(h2:w0.heap.size<=km):Ext w0 w' :=
 Below.trans hX (Kept.below (B:=w0.heap.size) h fun b hb=>⟨Nat.lt_of_lt_of_le hb hX.size,by omega,by omega⟩)
theorem A2.gr (h:A2 gm km w w') {ps:List P3} {fs:List FT} {pv fv:Value} (hg:GrAt (A2S gm km M w) w ps fs pv fv):GrAt (A2S gm km M w') w' ps fs pv fv:=(hg.same fun b hb=>h.block b ⟨hb.1,hb.2.1,hb.2.2.1⟩).mono fun _ hb=>⟨Nat.lt_of_lt_of_le hb.1 h.size,hb.2⟩
end
structure AskIn (w0:World)(ts:List TyS)(tv:Value)(b:Nat)(T:List Tup)(shut:List R2)(sv:Value):Prop where
 Y:TysAt (· < w0.heap.size) w0 ts tv
 K:BookAt w0 b T
 V:Sl (· < w0.heap.size) w0 2 sv (shut.flatMap r2C)
structure AskrAt (M:Nat->Prop)(w0 w:World)(xb gm km:Nat)(tc fi sv:Value)(most:Int)(ts:List TyS)(T:List Tup)(shut:List R2)(lg:List (P3 × G2))(lk:List (AQ × Bool)):Prop where
 X:Ext w0 w
 lo:w0.heap.size<=xb/\w0.heap.size<=gm/\w0.heap.size<=km
 box:Blk w xb #[tc,fi,sv,.int .i64 most,.map (some gm),.map (some km)] 264
 gs:Mp Tryz.prog 32 pV g2V w gm lg
 ks:Mp Tryz.prog 35 aV bV w km lk
 gok:∀ e∈lg,∃ n,WalkEnd ts T shut e.1 most n/\GrAt (A2S gm km M w) w (walkN ts T shut e.1 n).1 (walkN ts T shut e.1 n).2 e.2.1 e.2.2
 kok:∀ e∈lk,(e.2=true↔Den ts T shut e.1.2 e.1.1)
 ne:gm≠km
section
variable {M M' : Nat -> Prop} {w0 w w' : World} {xb gm km : Nat} {tc fi sv : Value} {most : Int} {ts : List TyS} {T : List Tup} {shut : List R2} {lg : List (P3 × G2)} {lk : List (AQ × Bool)}
theorem AskrAt.xbNe (h:AskrAt M w0 w xb gm km tc fi sv most ts T shut lg lk):xb≠gm/\xb≠km:=⟨fun e=>h.gs.notCells _ _ _ (e▸h.box),fun e=>h.ks.notCells _ _ _ (e▸h.box)⟩
theorem AskrAt.ext (h:AskrAt M w0 w xb gm km tc fi sv most ts T shut lg lk)(hx:Ext w w'):AskrAt (fun b=>M b\/w.heap.size<=b) w0 w' xb gm km tc fi sv most ts T shut lg lk :=
 ⟨Ext.trans h.X hx,h.lo,h.box.below hx,h.gs.below hx,h.ks.below hx,fun e he=>by
  obtain⟨n,h1,h2⟩:=h.gok e he;exact⟨n,h1,(h2.same fun b hb=>hx.block b hb.1).mono fun _ hb=>⟨Nat.lt_of_lt_of_le hb.1 hx.size,hb.2.1,hb.2.2.1,fun e=>e.elim hb.2.2.2 fun e=>by have:=hb.1;omega⟩⟩,h.kok,h.ne⟩
theorem AskrAt.less (h:AskrAt M w0 w xb gm km tc fi sv most ts T shut lg lk)(hM:∀ b,M' b->M b):AskrAt M' w0 w xb gm km tc fi sv most ts T shut lg lk :=
 ⟨h.X,h.lo,h.box,h.gs,h.ks,fun e he=>by
  obtain⟨n,h1,h2⟩:=h.gok e he;exact⟨n,h1,h2.mono fun _ hb=>⟨hb.1,hb.2.1,hb.2.2.1,fun e=>hb.2.2.2 (hM _ e)⟩⟩,h.kok,h.ne⟩
theorem AskrAt.up (h:AskrAt M w0 w xb gm km tc fi sv most ts T shut lg lk)(hx:Ext w w'):AskrAt M w0 w' xb gm km tc fi sv most ts T shut lg lk:=(h.ext hx).less fun _ => .inl
theorem AskrAt.set (h:AskrAt M w0 w xb gm km tc fi sv most ts T shut lg lk) {y i:Nat} {cs:Array Value} {t:TypeId} (hy:Blk w y cs t)(hM:M y)(hlo:w0.heap.size<=y)(ht:t≠264)(v:Value):AskrAt M w0 (w.setCell ⟨y,i,none⟩ v) xb gm km tc fi sv most ts T shut lg lk:=by
 have hs:∀ b,b≠y->(w.setCell ⟨y,i,none⟩ v).heap[b]?=w.heap[b]?:=fun b hb=>Below.heap_setCell _ _ _ _ hb;refine⟨Below.setCell h.X hlo v,h.lo,(hs _ fun e=>?_).trans h.box,h.gs.same (hs _ fun e=>h.gs.notCells _ _ _ (e▸hy)),h.ks.same (hs _ fun e=>h.ks.notCells _ _ _ (e▸hy)),fun e he=>?_,h.kok,h.ne⟩
 ·have h1:=(show w.heap[y]?=_ from hy).symm.trans (show w.heap[y]?=_ from e▸h.box);injection h1 with h1
  injection h1 with _ h1 _
  exact ht h1
 ·obtain⟨n,h1,h2⟩:=h.gok e he;exact⟨n,h1,(h2.same fun b hb=>hs b fun e=>hb.2.2.2 (e▸hM)).mono fun _ hb=>⟨by simpa using hb.1,hb.2⟩⟩
theorem AskrAt.putG (h:AskrAt M w0 w xb gm km tc fi sv most ts T shut lg lk) {p:P3} {pv fv:Value} {n:Nat} (hw:WalkEnd ts T shut p most n)(hg:GrAt (A2S gm km M w) w (walkN ts T shut p n).1 (walkN ts T shut p n).2 pv fv)(ht:Turned w w' gm)(hm:Mp Tryz.prog 32 pV g2V w' gm (putA lg p (pv,fv))) :
  AskrAt M w0 w' xb gm km tc fi sv most ts T shut (putA lg p (pv,fv)) lk :=
 ⟨(A2.turnG (km:=km) ht).old h.X h.lo.2.1 h.lo.2.2,h.lo,ht.kept.blk h.box h.xbNe.1,hm,h.ks.same (ht.kept.block _ h.ne.symm),fun e he=>by
  rcases put_mem _ _ _ h.gs.nodup he with rfl | ⟨he,-⟩
  ·exact⟨n,hw,(A2.turnG ht).gr hg⟩
  ·obtain⟨m,h1,h2⟩:=h.gok e he;exact⟨m,h1,(A2.turnG ht).gr h2⟩,h.kok,h.ne⟩
theorem AskrAt.putK (h:AskrAt M w0 w xb gm km tc fi sv most ts T shut lg lk) {a:AQ} {b:Bool} (hb:b=true↔Den ts T shut a.2 a.1)(ht:Turned w w' km)(hm:Mp Tryz.prog 35 aV bV w' km (putA lk a b)) :
  AskrAt M w0 w' xb gm km tc fi sv most ts T shut lg (putA lk a b) :=
 ⟨(A2.turnK (gm:=gm) ht).old h.X h.lo.2.1 h.lo.2.2,h.lo,ht.kept.blk h.box h.xbNe.2,h.gs.same (ht.kept.block _ h.ne),hm,fun e he=>by
  obtain⟨m,h1,h2⟩:=h.gok e he;exact⟨m,h1,(A2.turnK ht).gr h2⟩,fun e he=>by
  rcases put_mem _ _ _ h.ks.nodup he with rfl | ⟨he,-⟩
  ·exact hb
  ·exact h.kok e he,h.ne⟩
end
def GrfSaid (ts:List TyS)(T:List Tup)(shut:List R2)(p:P3)(most:Int)(gm km:Nat)(e:Ending)(w':World):Prop :=
 (∃ n pv fv,WalkEnd ts T shut p most n/\e = .returned (.tuple #[.agg #[pv,fv],.int .i64 0])/\GrAt (A2S gm km (fun _=>False) w') w' (walkN ts T shut p n).1 (walkN ts T shut p n).2 pv fv)\/(WalkLong ts T shut p most/\∃ po pn pc fo fn fc,e = .returned (.tuple #[.agg #[.slice po pn pc,.slice fo fn fc],.int .i64 10]))
theorem graph_any {M:Nat->Prop} {w0:World} {xb gm km ct b:Nat} {ao:Option Addr} {sv:Value} {most:Int} {ts:List TyS} {T:List Tup} {shut:List R2} {lg:List (P3 × G2)} {lk:List (AQ × Bool)} (hI:AskIn w0 ts (.slice ao ts.length ct) b T shut sv)(p:P3)(w:World)(h:AskrAt M w0 w xb gm km (.slice ao ts.length ct) (bkV b) sv most ts T shut lg lk)(hM:∀ b,M b->b<w.heap.size)(hA:HasArg ts T shut p)(hp:p.Ok) :
  Calls Tryz.prog 214 #[.pointer (some ⟨xb,0,none⟩),pV p] w fun e w'=>(∃ lg',AskrAt M w0 w' xb gm km (.slice ao ts.length ct) (bkV b) sv most ts T shut lg' lk)/\A2 gm km w w'/\GrfSaid ts T shut p most gm km e w':=by
 have HI:=h! hI;have HS0:=h! h;have HA:=h! hA;have HMM:=h! hM;have HKY:=h! (point_key p hp);obtain⟨so,sc,rfl,-⟩:=Sl.rows r2C_length (by decide) hI.V;obtain⟨pt,pi,pr⟩:=p;obtain⟨wa,hwa⟩:∃ x,x=w.alloc (.cells #[.string pt,.string pi,.string pr] 32):=⟨_,rfl⟩;obtain⟨wb,hwb⟩:∃ x,x=wa.alloc (.cells #[.slice none 0 0,.slice none 0 0] 96):=⟨_,rfl⟩;have ea:wa.heap.size=w.heap.size+1:=by rw[hwa];simp
 have xa:Ext w wa:=by rw[hwa];exact Ext.alloc _ _
 have xb':Ext wa wb:=by rw[hwb];exact Ext.alloc _ _
 have XB:=h! (show Ext w wb from xa.trans xb');have HWB:=h! (show wb.heap.size=w.heap.size+2 from by rw[hwb];simp[ea]);have BP:=h! (show Blk wb w.heap.size #[.string pt,.string pi,.string pr] 32 from Blk.below (by rw[hwa];exact Blk.made _ _ _) xb');have BR:=h! (show Blk wb (w.heap.size+1) #[.slice none 0 0,.slice none 0 0] 96 from by rw[hwb,<- ea];exact Blk.made _ _ _);have HS:=h! (HS0.out.ext XB.out);clear hI h hA hp hM ea xa xb';subst hwa;unfold pV;dsimp only;go_enter Tryz.func214,Tryz.ntmps214
 go_wp2_with fail
 rw[<- hwb];clear hwb;obtain⟨wd,hwd⟩:∃ wd,Hid (wd=World.drew wb):=⟨_,h! rfl⟩;have hxd:=h! (show Ext wb wd from by rw[hwd.out];exact Ext.drew _);refine r! (Ext wd) (by rw[<- hwd.out];exact Ext.refl _) ?_;rw[<- hwd.out];have HS:=h! (HS.out.up hxd.out);have BP:=h! (BP.out.below hxd.out);have BR:=h! (BR.out.below hxd.out);have XD:=h! (Ext.trans XB.out hxd.out);have HGB:=h! (show w.heap.size+2<=wd.heap.size from by have:=HWB.out;have:=hxd.out.size;omega);clear hwd hxd XB HWB;have h1:=fun W (h:Ext wd W)=>(HS.out.box.below h).cells;have h2:=fun W (h:Ext wd W)=>(BP.out.below h).cells;have hlook:=fun W (h:Ext wd W)=>(HS.out.gs.below h).look pointK pV_inj Tryz.underlying261 (Tryz.zeroValue96 W) true HKY.out
 obtain⟨po,pn,pc,fo,fn,fc,yes,hlv,hyes⟩:∃ (po:Option Addr) (pn pc:Nat) (fo:Option Addr) (fn fc:Nat) (yes:Bool),lookV true (.agg #[.slice none 0 0,.slice none 0 0]) g2V (lookA lg ⟨pt,pi,pr⟩) = .tuple #[.agg #[.slice po pn pc,.slice fo fn fc],.bool yes]/\(yes=true->∃ n,WalkEnd ts T shut ⟨pt,pi,pr⟩ most n/\GrAt (A2S gm km (fun b=>M b\/w.heap.size<=b) wd) wd (walkN ts T shut ⟨pt,pi,pr⟩ n).1 (walkN ts T shut ⟨pt,pi,pr⟩ n).2 (.slice po pn pc) (.slice fo fn fc)):=by
  cases hl:lookA lg ⟨pt,pi,pr⟩ with
  | none=>exact⟨none,0,0,none,0,0,false,rfl,fun e=>by cases e⟩
  | some x =>
   obtain⟨pv,fv⟩:=x;obtain⟨n,h3,h4⟩:=HS.out.gok _ (look_mem hl);dsimp only at h3 h4;obtain⟨po,pc,fo,fc,e1,e2⟩:=h4.shape;subst e1 e2;exact⟨po,_,pc,fo,_,fc,true,rfl,fun _=>⟨n,h3,h4⟩⟩
 have HYES:=h! hyes;unfold pV at hlook;dsimp only at hlook;try rw[hlv]at hlook
 clear hlv hyes;(refine WalkN.tk [0,1,2,3,4,5,6,7,8] ?_;(iterate 9 (refine c! ?_));refine TkN.n ?_)
 clear h1 h2 hlook;refine o! 9 ?_;refine b! ?_;intro K hK;go_simp;obtain⟨w3,hw3⟩:∃ y,y=wd.alloc (.cells #[.slice none 0 0,.slice none 0 0] 96):=⟨_,rfl⟩;have X3:=h! (show Ext wd w3 from by rw[hw3];exact Ext.alloc _ _);have B3:=h! (show Blk w3 wd.heap.size #[.slice none 0 0,.slice none 0 0] 96 from by rw[hw3];exact Blk.made _ _ _);rw[<- hw3];refine hK.out _ _ X3.out ?_;clear hK hw3;have c3:=B3.out.cells;have f3:=B3.out.free;refine o! 10 ?_;refine b! ?_;intro K hK;go_simp;obtain⟨w4,hw4⟩:∃ y,y=(w3.setCell ⟨wd.heap.size,0,none⟩ (.slice po pn pc)).setCell ⟨wd.heap.size,1,none⟩ (.slice fo fn fc):=⟨_,rfl⟩;have B4:=h! (show Blk w4 wd.heap.size #[.slice po pn pc,.slice fo fn fc] 96 from by rw[hw4];exact(B3.out.set_to (cs':=#[.slice po pn pc,.slice none 0 0]) 0 (.slice po pn pc) rfl).set_to 1 (.slice fo fn fc) rfl);have X4:=h! (show Ext wd w4 from by rw[hw4];exact Below.setCell (Below.setCell X3.out (p:=⟨wd.heap.size,0,none⟩) (Nat.le_refl _) _) (p:=⟨wd.heap.size,1,none⟩) (Nat.le_refl _) _);rw[<- hw4];refine hK.out _ _ X4.out ?_;clear hK hw4 c3 f3 B3 X3;refine t! 11 ?_
 refine d! ?_;have HS:=h! (HS.out.up X4.out);have BP:=h! (BP.out.below X4.out);have BR:=h! (BR.out.below X4.out);have X4W:=h! (Ext.trans XD.out X4.out);generalize hgbn:wd.heap.size=gb at *;cases yes with
 | true =>
  obtain⟨n,hwe,hgr⟩:=HYES.out rfl;have HWE:=h! hwe;have HGR:=h! hgr;have c4:=B4.out.cells;have c5:=BR.out.cells;have f5:=BR.out.free;clear hwe hgr;go_wp2_with fail
  clear c4 c5 f5;have B9:=(BR.out.set_to (cs':=#[.slice po pn pc,.slice none 0 0]) 0 (.slice po pn pc) rfl).set_to (cs':=#[.slice po pn pc,.slice fo fn fc]) 1 (.slice fo fn fc) rfl;have b8:=BR.out.set_to (cs':=#[.slice po pn pc,.slice none 0 0]) 0 (.slice po pn pc) rfl;have XF:Ext w ((w4.setCell ⟨w.heap.size+1,0,none⟩ (.slice po pn pc)).setCell ⟨w.heap.size+1,1,none⟩ (.slice fo fn fc)):=Below.setCell (Below.setCell X4W.out (p:=⟨w.heap.size+1,0,none⟩) (Nat.le_succ _) _) (p:=⟨w.heap.size+1,1,none⟩) (Nat.le_succ _) _;have HL0:=h! (show w0.heap.size<=w.heap.size+1 from by have:=HS0.out.X.size;omega);refine bodyPost_ret (v := .tuple #[.agg #[.slice po pn pc,.slice fo fn fc],.int .i64 0]) ?_ rfl ⟨⟨lg,((HS.out.set BR.out (.inr (Nat.le_succ _)) HL0.out (by decide) _).set b8 (.inr (Nat.le_succ _)) HL0.out (by decide) _).less fun _ h => .inl h⟩,A2.of XF,.inl ⟨n,_,_,HWE.out,rfl,?_⟩⟩
  ·rw[results_cell_tmp rfl];have hl:=run_loadVar_row (P:=Tryz.prog) _ (w.heap.size+1) _ 96 _ _ _ B9 Tryz.underlying96 rfl (by kernel_rfl);simp[asAddr,hl,Result.andThen]
  ·refine(HGR.out.same fun x hx=>?_).mono fun x hx=>⟨?_,hx.2.1,hx.2.2.1,id⟩
   ·have h3:x<w.heap.size:=Nat.lt_of_not_le fun h=>hx.2.2.2 (.inr h);exact(XF.block x h3).trans (XD.out.block x h3).symm
   ·have h3:x<w.heap.size:=Nat.lt_of_not_le fun h=>hx.2.2.2 (.inr h);exact Nat.lt_of_lt_of_le h3 XF.size
 | false =>
  have hbx0:=HS.out.box.cells;clear HYES B4;go_wp2_with fail
  clear hbx0;obtain⟨wd,hwd⟩:∃ wd,Hid (wd=w4.drew):=⟨_,h! rfl⟩;have hxd:=h! (show Ext w4 wd from by rw[hwd.out];exact Ext.drew _);apply Code.wp_mono (Q:=JoinG (β:=Nat) wd (WalkP ts T shut ⟨pt,pi,pr⟩ most (.int .i64 0) (.int .i64 10)) _) ?rest ?reg
  case reg =>
   have hE:=h! (Ext.refl wd);refine region_walkN (Ext wd) (by rw[<- hwd.out];exact Ext.refl _) (by kernel_rfl) (by kernel_rfl) (fun _ _ d _ _ h=>by cases h.1) ?_;rw[<- hwd.out];have hbx:=fun W (h:Ext wd W)=>((HS.out.up (Ext.trans hxd.out h)).box).cells;have hpc:=fun W (h:Ext wd W)=>(BP.out.below (Ext.trans hxd.out h)).cells;have HWK:=h! (fun W (hx:Ext wd W)=>walkG_any ts (.slice ao ts.length ct) b T shut (.slice so shut.length sc) ⟨pt,pi,pr⟩ most 1000000 W (HI.out.Y.up (HS.out.X.trans (Ext.trans hxd.out hx))) HA.out.ok HA.out.chk HA.out.bk HA.out.sz HA.out.nms HA.out.rfs (HI.out.K.ext (HS.out.X.trans (Ext.trans hxd.out hx))) ((HI.out.V.same (Same.below (HS.out.X.trans (Ext.trans hxd.out hx)))).mono fun _ hb=>Nat.lt_of_lt_of_le hb (HS.out.X.trans (Ext.trans hxd.out hx)).size) HA.out.sho HA.out.wk);unfold pV at HWK;dsimp only at HWK;(refine WalkN.tk [0,1,2,3,4,5,6,7,8,9,10,11,12,13,14,15,16] ?_;(iterate 17 (refine c! ?_));refine TkN.n ?_)
   clear hbx hpc;refine p! 17 21 ?_ ?_;refine b! ?_;intro K hK;go_simp;refine(HWK.out wd hE.out).mono ?_;rintro e u1 ⟨hx0,ps,fs,po,pc,fo,fc,ev,hP0,rfl,hG0⟩;have hX0:=Ext.trans hE.out hx0;refine hK.out _ _ hX0 ?_;clear hK;have HR:=h! (show GrAt (fun x=>wd.heap.size<=x/\x<u1.heap.size) u1 ps fs (.slice po ps.length pc) (.slice fo fs.length fc)from hG0.mono fun x hx=>⟨Nat.le_trans hE.out.size hx.1,hx.2⟩);have HP:=h! hP0;have hE:=h! hX0;clear hx0 hX0 hP0 hG0;refine t! 18 ?_
   refine t! 19 ?_
   refine t! 20 ?_
   refine o! 21 ?_;refine b! ?_;intro K hK;go_simp;obtain⟨bg,hbg⟩:∃ x,x=u1.heap.size:=⟨_,rfl⟩;rw[<- hbg];have hA1:=Ext.alloc u1 (.cells #[.slice none 0 0,.slice none 0 0] 96);have hO1:Blk (u1.alloc (.cells #[.slice none 0 0,.slice none 0 0] 96)) bg #[.slice none 0 0,.slice none 0 0] 96:=by rw[hbg];exact Blk.made _ _ _
   have hX1:=Ext.trans hE.out hA1;have HBG:=h! (show wd.heap.size<=bg from by have:=hE.out.size;omega);have HR:=h! (show GrAt (fun x=>x≠bg/\wd.heap.size<=x/\x<(u1.alloc (.cells #[.slice none 0 0,.slice none 0 0] 96)).heap.size) (u1.alloc (.cells #[.slice none 0 0,.slice none 0 0] 96)) ps fs (.slice po ps.length pc) (.slice fo fs.length fc)from(HR.out.same fun x hx=>hA1.block x hx.2).mono fun x hx=>⟨fun e=>by have:=hx.2;omega,hx.1,Nat.lt_of_lt_of_le hx.2 hA1.size⟩);refine hK.out _ _ hX1 ?_;clear hK hbg hA1;generalize u1.alloc (.cells #[.slice none 0 0,.slice none 0 0] 96)=u2 at *;have hE:=h! hX1;have HG:=h! hO1;clear hO1 hX1;rotate_left
   refine b! ?_;intro K hK;go_simp;obtain⟨bg,hbg⟩:∃ x,x=wd.heap.size:=⟨_,rfl⟩;rw[<- hbg];have hA0:=Ext.alloc wd (.cells #[.slice none 0 0,.slice none 0 0] 96);have hO0:Blk (wd.alloc (.cells #[.slice none 0 0,.slice none 0 0] 96)) bg #[.slice none 0 0,.slice none 0 0] 96:=by rw[hbg];exact Blk.made _ _ _
   have hX0:=Ext.trans hE.out hA0;have HBG:=h! (show wd.heap.size<=bg from by have:=hE.out.size;omega);refine hK.out _ _ hX0 ?_;clear hK hbg hA0;generalize wd.alloc (.cells #[.slice none 0 0,.slice none 0 0] 96)=u1 at *;have hE:=h! hX0;have HG:=h! hO0;clear hO0 hX0;refine o! 17 ?_;refine b! ?_;intro K hK;go_simp;refine(HWK.out u1 hE.out).mono ?_;rintro e u2 ⟨hx1,ps,fs,po,pc,fo,fc,ev,hP1,rfl,hG1⟩;have hX1:=Ext.trans hE.out hx1;refine hK.out _ _ hX1 ?_;clear hK;have HR:=h! (show GrAt (fun x=>x≠bg/\wd.heap.size<=x/\x<u2.heap.size) u2 ps fs (.slice po ps.length pc) (.slice fo fs.length fc)from hG1.mono fun x hx=>⟨fun e=>by have:=HG.out.lt;have:=hx.1;omega,Nat.le_trans hE.out.size hx.1,hx.2⟩);have HG:=h! (HG.out.below hx1);have HP:=h! hP1;have hE:=h! hX1;clear hx1 hX1 hP1 hG1;refine t! 18 ?_
   refine t! 19 ?_
   refine t! 20 ?_
   rotate_left
   all_goals
    refine o! 22 ?_;refine b! ?_;intro K hK;have hg:=HG.out.cells;have hf:=HG.out.free;go_simp;have hS2:=(HG.out.set_to (cs':=#[.slice po ps.length pc,.slice none 0 0]) 0 (.slice po ps.length pc) rfl).set_to (cs':=#[.slice po ps.length pc,.slice fo fs.length fc]) 1 (.slice fo fs.length fc) rfl;have hX2:Ext wd ((u2.setCell ⟨bg,0,none⟩ (.slice po ps.length pc)).setCell ⟨bg,1,none⟩ (.slice fo fs.length fc)):=Below.setCell (Below.setCell hE.out (p:=⟨bg,0,none⟩) HBG.out _) (p:=⟨bg,1,none⟩) HBG.out _;have hR2:=(HR.out.same (w':=((u2.setCell ⟨bg,0,none⟩ (.slice po ps.length pc)).setCell ⟨bg,1,none⟩ (.slice fo fs.length fc))) fun x hx=>by rw[Below.heap_setCell _ _ _ x hx.1,Below.heap_setCell _ _ _ x hx.1]).mono (T:=fun x=>x≠bg/\wd.heap.size<=x/\x<((u2.setCell ⟨bg,0,none⟩ (.slice po ps.length pc)).setCell ⟨bg,1,none⟩ (.slice fo fs.length fc)).heap.size) fun x hx=>⟨hx.1,hx.2.1,by simpa using hx.2.2⟩;refine hK.out _ _ hX2 ?_;clear hK hg hf;generalize (u2.setCell ⟨bg,0,none⟩ (.slice po ps.length pc)).setCell ⟨bg,1,none⟩ (.slice fo fs.length fc)=u3 at *;refine t! 23 ?_
    refine d! ?_;obtain⟨zz,-⟩:∃ z:Nat,True:=⟨0,trivial⟩;exact⟨rfl,zz,bg,po,pc,fo,fc,ps,fs,ev,rfl,HP.out,hX2,HBG.out,hS2,hR2⟩
  rintro e _ W ⟨rfl,_,bg,po_,pc_,fo_,fc_,ps,fs,ev,rfl,hP,hX,hbg,hblk,hgr⟩;dsimp only;have hX:=Ext.trans hxd.out hX;have HS:=h! (HS.out.up hX);have BP:=h! (BP.out.below hX);have BR:=h! (BR.out.below hX);have XW:=h! (Ext.trans X4W.out hX);have HBG:=h! (show w.heap.size+2<=wd.heap.size from by have h3:=HGB.out;have h4:=X4.out.size;have h5:=hxd.out.size;omega);have HGR:=h! hgr;have HBL:=h! hblk;have HL0:=h! (show w0.heap.size<=w.heap.size+1 from by have:=HS0.out.X.size;omega);generalize hn1:ps.length=n1 at *;generalize hn2:fs.length=n2 at *;clear hX hbg hblk hgr;rcases hP with⟨n,hwe,rfl,rfl,rfl⟩ | ⟨hlg,rfl,rfl,rfl⟩
  case' inr =>
   have HLG:=h! hlg;have c4:=HBL.out.cells;have c5:=BR.out.cells;have f5:=BR.out.free;clear hn1 hn2 hlg;go_wp2_with fail
   clear c4 c5 f5;have b8:=BR.out.set_to (cs':=#[.slice po_ n1 pc_,.slice none 0 0]) 0 (.slice po_ n1 pc_) rfl;have B9:=b8.set_to (cs':=#[.slice po_ n1 pc_,.slice fo_ n2 fc_]) 1 (.slice fo_ n2 fc_) rfl;have XF:Ext w ((W.setCell ⟨w.heap.size+1,0,none⟩ (.slice po_ n1 pc_)).setCell ⟨w.heap.size+1,1,none⟩ (.slice fo_ n2 fc_)):=Below.setCell (Below.setCell XW.out (p:=⟨w.heap.size+1,0,none⟩) (Nat.le_succ _) _) (p:=⟨w.heap.size+1,1,none⟩) (Nat.le_succ _) _;refine bodyPost_ret (v := .tuple #[.agg #[.slice po_ n1 pc_,.slice fo_ n2 fc_],.int .i64 10]) ?_ rfl ⟨⟨lg,((HS.out.set BR.out (.inr (Nat.le_succ _)) HL0.out (by decide) _).set b8 (.inr (Nat.le_succ _)) HL0.out (by decide) _).less fun _ h => .inl h⟩,A2.of XF,.inr ⟨HLG.out,_,_,_,_,_,_,rfl⟩⟩;rw[results_cell_tmp rfl];have hl:=run_loadVar_row (P:=Tryz.prog) _ (w.heap.size+1) _ 96 _ _ _ B9 Tryz.underlying96 rfl (by kernel_rfl);simp[asAddr,hl,Result.andThen]
  case' inl =>
   have HWE:=h! hwe;clear hwe hn1 hn2;go_wp2_with fail
   obtain⟨we,hwe⟩:∃ we,Hid (we=World.drew W):=⟨_,h! rfl⟩;have hxe:=h! (show Ext W we from by rw[hwe.out];exact Ext.drew _);refine r! (Kept (· ≠ gm) we) (by rw[<- hwe.out];exact Kept.refl _ _) ?_;rw[<- hwe.out];have HS:=h! ((HS.out.up hxe.out).less (M':=fun b=>M b\/b=w.heap.size+1) fun b hb=>hb.imp id fun e=>by omega);have BP:=h! (BP.out.below hxe.out);have BR:=h! (BR.out.below hxe.out);have HBL:=h! (HBL.out.below hxe.out);have XW:=h! (Ext.trans XW.out hxe.out);have HGM:=h! (show gm<w.heap.size/\km<w.heap.size from⟨HS0.out.gs.lt,HS0.out.ks.lt⟩);have HGR:=h! ((HGR.out.same fun x hx=>hxe.out.block x hx.2.2).mono (T:=fun x=>x≠bg/\wd.heap.size<=x/\x<we.heap.size) fun x hx=>⟨hx.1,hx.2.1,Nat.lt_of_lt_of_le hx.2.2 hxe.out.size⟩);clear hwe hxe;have k1:=fun W' (h:Kept (· ≠ gm) we W')=>(h.blk HS.out.box HS.out.xbNe.1).cells;have k2:=fun W' (h:Kept (· ≠ gm) we W')=>(h.blk BP.out (by have:=HGM.out.1;omega)).cells;have k3:=fun W' (h:Kept (· ≠ gm) we W')=>(h.blk HBL.out (fun e=>HS.out.gs.notCells _ _ _ (e▸HBL.out))).cells;(refine WalkN.tk [0,1,2,3,4,5] ?_;(iterate 6 (refine c! ?_));refine TkN.n ?_)
   clear k1 k2 k3;obtain⟨wf,hrun,hMf,hTf⟩:=HS.out.gs.store pointK pV_inj Tryz.underlying261 HKY.out (.slice po_ n1 pc_,.slice fo_ n2 fc_);unfold pV g2V at hrun;dsimp only at hrun;refine o! 6 ?_;refine b! ?_;intro K hK;go_simp;refine hK.out _ _ hTf.kept ?_;clear hK hrun;refine d! ?_;have HSF:=h! (HS.out.putG HWE.out (HGR.out.mono fun x hx=>⟨hx.2.2,by have h3:=HGM.out;have h4:=hx.2.1;have h5:=HBG.out;omega,by have h3:=HGM.out;have h4:=hx.2.1;have h5:=HBG.out;omega,fun e=>by have h4:=hx.2.1;have h5:=HBG.out;exact e.elim (fun e=>by have:=HMM.out _ e;omega) fun e=>by omega⟩) hTf hMf);have BLF:=h! (hTf.kept.blk HBL.out (fun e=>HS.out.gs.notCells _ _ _ (e▸HBL.out)));have BRF:=h! (hTf.kept.blk BR.out (by have:=HGM.out.1;omega));have A2F:=h! ((A2.of (gm:=gm) (km:=km) XW.out).next (A2.turnG hTf));have HGF:=h! (HGR.out.same (w':=wf) fun x hx=>hTf.kept.block x (by have h3:=HGM.out;have h4:=hx.2.1;have h5:=HBG.out;omega));have HSZ:=h! hTf.size;have c4:=BLF.out.cells;have c5:=BRF.out.cells;have f5:=BRF.out.free;clear hMf hTf;go_wp2_with fail
   clear c4 c5 f5;have b8:=BRF.out.set_to (cs':=#[.slice po_ n1 pc_,.slice none 0 0]) 0 (.slice po_ n1 pc_) rfl;have B9:=b8.set_to (cs':=#[.slice po_ n1 pc_,.slice fo_ n2 fc_]) 1 (.slice fo_ n2 fc_) rfl;have HFS:∀ x,x≠w.heap.size+1->((wf.setCell ⟨w.heap.size+1,0,none⟩ (.slice po_ n1 pc_)).setCell ⟨w.heap.size+1,1,none⟩ (.slice fo_ n2 fc_)).heap[x]?=wf.heap[x]?:=fun x hx=>by rw[Below.heap_setCell _ _ _ x hx,Below.heap_setCell _ _ _ x hx]
   refine bodyPost_ret (v := .tuple #[.agg #[.slice po_ n1 pc_,.slice fo_ n2 fc_],.int .i64 0]) ?_ rfl ⟨⟨_,((HSF.out.set BRF.out (.inr rfl) HL0.out (by decide) _).set b8 (.inr rfl) HL0.out (by decide) _).less fun _ h => .inl h⟩,(A2F.out.set (fun h=>by have h1:w.heap.size+1<w.heap.size:=h.1;omega) _).set (fun h=>by have h1:w.heap.size+1<w.heap.size:=h.1;omega) _,.inl ⟨n,_,_,HWE.out,rfl,?_⟩⟩
   ·rw[results_cell_tmp rfl];have hl:=run_loadVar_row (P:=Tryz.prog) _ (w.heap.size+1) _ 96 _ _ _ B9 Tryz.underlying96 rfl (by kernel_rfl);simp[asAddr,hl,Result.andThen]
   ·refine(HGF.out.same fun x hx=>HFS x (by have h4:=hx.2.1;have h5:=HBG.out;omega)).mono fun x hx=>⟨?_,by have h3:=HGM.out;have h4:=hx.2.1;have h5:=HBG.out;omega,by have h3:=HGM.out;have h4:=hx.2.1;have h5:=HBG.out;omega,id⟩;have h4:=hx.2.2;have h5:=HSZ.out;simp;omega
end Go.Proofs.YtlhaghoajpglaaaGreat
