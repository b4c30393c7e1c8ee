/- Lemmas for the claim, no condition. -/
import Derived.Test.YtjdigpfipmckhaaGreatYChHas0
import Derived.Test.YtjdigpfipmckhaaGreatYChHas17
import Derived.Test.YtjdigpfipmckhaaGreatYChHas3
import Derived.Test.YtjdigpfipmckhaaGreatYChHas9
import Derived.Test.YtjdigpfipmckhaaGreatYChHas15
import Derived.Test.YtjdigpfipmckhaaGreatYChHas6
import Derived.Test.YtjdigpfipmckhaaGreatYChHas16
namespace Go.Proofs.YtjdigpfipmckhaaGreat
open Go Go.RowKit Go.Maps
theorem tuCs_drop (l:List Tup)(k:Nat):(tuCs l).drop (k*6)=tuCs (l.drop k):=by
 induction k generalizing l with
 | zero=>simp[tuCs]
 | succ k ih =>
  cases l with
  | nil=>simp[tuCs]
  | cons a l =>
   rw[List.drop_succ_cons,show tuCs (a::l)=tuC a++tuCs l from rfl,<- ih l];rw[show(k+1)*6=6+k*6 from by omega,List.drop_append,List.drop_eq_nil_of_le (by rw[tuC_length];omega),tuC_length,Nat.add_sub_cancel_left,List.nil_append]
theorem tuCs_one (l:List Tup):∀ u∈tuCs l,u.oneCell'=true:=by
 intro u hu;obtain⟨a,_,ha⟩:=List.mem_flatMap.1 hu;exact tuC_one a u ha
theorem cmpT_neg (a b:Tup):decide (cmpT a b<0)=ltT a b:=by
 unfold cmpT;cases h:ltT a b with
 | true=>simp
 | false =>
  simp only[Bool.false_eq_true,if_false];split <;> simp
def insT (q:List Tup)(k:Nat)(p:Tup):List Tup:=q.take k++[p]++q.drop k
theorem insT_mem (q:List Tup)(k:Nat)(p x:Tup):x∈insT q k p↔x∈q\/x=p:=by
 unfold insT;conv=>rhs;rw[<- List.take_append_drop k q]
 simp only[List.mem_append,List.mem_singleton];constructor
 ·rintro((h | h) | h)
  ·exact .inl (.inl h)
  ·exact .inr h
  ·exact .inl (.inr h)
 ·rintro((h | h) | h)
  ·exact .inl (.inl h)
  ·exact .inr h
  ·exact .inl (.inr h)
theorem insT_up {q:List Tup} {k:Nat} {p:Tup} (hq:UpT q)(h1:∀ j (hj:j<q.length),j<k->ltT q[j] p=true)(h2:∀ hk:k<q.length,ltT p q[k]=true):UpT (insT q k p):=by
 have hq':(q.take k++q.drop k).Pairwise fun a b=>ltT a b=true:=by rw[List.take_append_drop];exact hq
 obtain⟨ha,hb,hab⟩:=List.pairwise_append.1 hq'
 have hlt:∀ x∈q.take k,ltT x p=true:=fun x hx=>by
  obtain⟨j,hj,rfl⟩:=List.getElem_of_mem hx;rw[List.length_take]at hj;rw[List.getElem_take];exact h1 j (by omega) (by omega)
 have hgt:∀ x∈q.drop k,ltT p x=true:=fun x hx=>by
  obtain⟨j,hj,rfl⟩:=List.getElem_of_mem hx;rw[List.length_drop]at hj;rw[List.getElem_drop];have hk:k<q.length:=by omega
  rcases Nat.eq_zero_or_pos j with rfl | hj0
  ·exact h2 hk
  ·exact ltT_trans (h2 hk) ((List.pairwise_iff_getElem.1 hq) k (k+j) hk (by omega) (by omega))
 unfold insT UpT;rw[List.append_assoc,List.pairwise_append];refine⟨ha,?_,fun x hx y hy=>?_⟩
 ·rw[List.singleton_append,List.pairwise_cons];exact⟨hgt,hb⟩
 ·rcases List.mem_append.1 hy with hy | hy
  ·obtain rfl:y=p:=by simpa using hy
   exact hlt x hx
  ·exact hab x hx y hy
theorem insT_length (q:List Tup)(k:Nat)(p:Tup):(insT q k p).length=q.length+1:=by
 unfold insT;have:=congrArg List.length (List.take_append_drop k q);simp only[List.length_append,List.length_singleton]at this ⊢;omega
set_option maxRecDepth 100000 in
set_option maxHeartbeats 8000000 in
theorem set25_any (v:Value)(l:List Tup)(w:World)(h:Sl (· < w.heap.size) w 6 v (tuCs l))(hl:l.length<=100000)(hok:∀ t∈l,t.Ok):Calls Tryz.prog 19 #[v] w fun e w'=>∃ (v':Value)(l':List Tup),e = .returned v'/\SetT l l'/\Own w' w.heap.size 104 6 v' (tuCs l')/\Below w.heap.size w w':=by
 obtain⟨ao,c,rfl,hlc,hcm,hcell⟩:=Sl.rows tuC_length (by decide) (show Sl _ w 6 v (List.flatMap tuC l)from h);have HC:=h! hcell;have HL:=h! hl;have HOK:=h! hok;clear hcell h hl hok;go_enter Tryz.func19,Tryz.ntmps19
 go_wp2_with fail
 go_loopw [3,9] (fun vv ii wr=>∃ (i:Nat) (q:List Tup),i<=l.length/\ii = .int .i64 i/\Own wr w.heap.size 104 6 vv (tuCs q)/\UpT q/\(∀ x,x∈q↔x∈l.take i/\chkT x=true)/\q.length<=i/\Below w.heap.size w wr) (fun _ ii _=>l.length-(intOf ii).toNat)
 case atStart=>exact⟨0,[],by omega,rfl,Own.nil _ _ _ _,List.Pairwise.nil,by simp,by simp,Below.refl _ _⟩
 case round =>
  obtain⟨i,q,hi,rfl,hown,hup,hmem,hql,hbel⟩:=hrel;have HUPQ:=h! hup;have HMQ:=h! hmem;clear hup hmem;by_cases hlt:i<l.length
  ·obtain⟨b,off,rfl,hb,hc⟩:=HC.out (by omega);have d0:=(hbel.cell (p:=⟨b,off+i*6,none⟩) hb).trans (hc i hlt 0 _ rfl);have d1:=(hbel.cell (p:=⟨b,off+i*6+1,none⟩) hb).trans (hc i hlt 1 _ rfl);have d2:=(hbel.cell (p:=⟨b,off+i*6+2,none⟩) hb).trans (hc i hlt 2 _ rfl);have d3:=(hbel.cell (p:=⟨b,off+i*6+3,none⟩) hb).trans (hc i hlt 3 _ rfl);have d4:=(hbel.cell (p:=⟨b,off+i*6+4,none⟩) hb).trans (hc i hlt 4 _ rfl);have d5:=(hbel.cell (p:=⟨b,off+i*6+5,none⟩) hb).trans (hc i hlt 5 _ rfl);have HOKP:=h! (HOK.out _ (List.getElem_mem hlt));have HTK:=h! (show ∀ x,x∈l.take (i+1)↔x∈l.take i\/x=l[i]from fun x=>by rw[List.take_succ_eq_append_getElem hlt,List.mem_append,List.mem_singleton]);clear hc;generalize l[i]=p at *;obtain⟨⟨pt,pi,pr⟩,⟨qt,qi,qr⟩⟩:=p;dsimp only at d0 d1 d2;have hq2:q.length<=100000:=by have:=HL.out;omega
   obtain⟨mo,mc,rfl,hmk,hmm,hmc⟩:=Sl.rows tuC_length (by decide) (show Sl _ wr 6 u3 (List.flatMap tuC q)from hown.sl);have HSH:=h! hown.shape;obtain⟨wP,hwP⟩:∃ wP,wP=wr.alloc (.cells #[.string pt,.string pi,.string pr,.string qt,.string qi,.string qr] 104):=⟨_,rfl⟩;have hbox:Blk wP wr.heap.size #[.string pt,.string pi,.string pr,.string qt,.string qi,.string qr] 104:=by rw[hwP];exact Blk.made wr _ _
   have hE0:Ext wr wP:=by rw[hwP];exact Ext.alloc _ _
   have HMC:=h! (show 0<q.length->∃ b off,mo=some ⟨b,off,none⟩/\b<wr.heap.size/\∀ (k:Nat) (hk:k<q.length),wr.cell? ⟨b,off+k*6,none⟩=some (.string q[k].o.t)/\wr.cell? ⟨b,off+k*6+1,none⟩=some (.string q[k].o.i)/\wr.cell? ⟨b,off+k*6+2,none⟩=some (.string q[k].o.r)/\wr.cell? ⟨b,off+k*6+3,none⟩=some (.string q[k].s.t)/\wr.cell? ⟨b,off+k*6+4,none⟩=some (.string q[k].s.i)/\wr.cell? ⟨b,off+k*6+5,none⟩=some (.string q[k].s.r)from fun h0=>by
    obtain⟨b,off,h1,h2,h3⟩:=hmc h0;exact⟨b,off,h1,h2.2,fun k hk=>⟨h3 k hk 0 _ rfl,h3 k hk 1 _ rfl,h3 k hk 2 _ rfl,h3 k hk 3 _ rfl,h3 k hk 4 _ rfl,h3 k hk 5 _ rfl⟩⟩)
   have HOW:=h! hown;have HBEL:=h! hbel;have HBOX:=h! hbox;have ht:=hbox.cells;have HCK:=h! (refCheck_any ⟨⟨pt,pi,pr⟩,⟨qt,qi,qr⟩⟩ HOKP.out wP);unfold tV at HCK;dsimp only at HCK;have HE0:=h! hE0;have HLT:=h! hlt;have HWI:=h! (show wrap64 ((i:Int)+1)=((i+1:Nat):Int)from by have:=HL.out;unfold wrap64;omega);have hli:(i:Int)<(l.length:Int):=by omega
   clear hown hmc hbox hE0 hbel hlt;rw[hwP]at ht HCK;go_wp2_with fail
   try rw[<- hwP]at HCK ⊢
   clear hwP d0 d1 d2 d3 d4 d5 ht hli;refine HCK.out.mono ?_;rintro e wP2 ⟨rfl,hb2⟩;have hE0:Ext wr wP2:=HE0.out.trans hb2;have hbox:=HBOX.out.below hb2;clear HCK HE0 HBOX hb2;have HE0:=h! hE0;have HBOX:=h! hbox;clear hE0 hbox wP;obtain⟨wP,rfl⟩:∃ x,x=wP2:=⟨_,rfl⟩;rcases hck:chkT ⟨⟨pt,pi,pr⟩,⟨qt,qi,qr⟩⟩with _ | _
   ·have hcn:chkN ⟨⟨pt,pi,pr⟩,⟨qt,qi,qr⟩⟩=2:=by simp[chkN,hck]
    have HMN:=h! (show ∀ x,x∈q↔x∈l.take (i+1)/\chkT x=true from fun x=>by
     rw[HTK.out x,HMQ.out x];exact⟨fun h=>⟨.inl h.1,h.2⟩,fun h=>⟨h.1.elim id fun e=>absurd h.2 (by rw[e,hck];decide),h.2⟩⟩)
    rw[hcn];clear hcn hck;go_wp2_with fail
    go_roundw
    case rel=>exact⟨i+1,q,by have:=HLT.out;omega,by rw[HWI.out],HOW.out.below HE0.out,HUPQ.out,HMN.out,by have:=HLT.out;omega,HBEL.out.trans (HE0.out.mono HBEL.out.size)⟩
    case measure=>have:=HLT.out;rw[HWI.out];simp[intOf];omega
   have hcn:chkN ⟨⟨pt,pi,pr⟩,⟨qt,qi,qr⟩⟩=0:=by simp[chkN,hck]
   have HCHK:=h! hck;have hlt:=HLT.out;rw[hcn];clear hcn hck;go_wp2_with fail
   obtain⟨wr0,hwr0⟩:∃ wr0,wr0=wr:=⟨_,rfl⟩;rw[<- hwr0]at HOW HBOX HE0 HMC HBEL ⊢;clear hwr0;go_loopw [6] (fun ii wr=>∃ k:Nat,k<=q.length/\ii = .int .i64 k/\(∀ j (hj:j<q.length),j<k->ltT q[j] ⟨⟨pt,pi,pr⟩,⟨qt,qi,qr⟩⟩=true)/\Below wP.heap.size wP wr) (fun ii _=>q.length-(intOf ii).toNat)
   case atStart=>exact⟨0,by omega,rfl,fun _ _ h=>absurd h (by omega),Below.refl _ _⟩
   case round =>
    obtain⟨k,hk,rfl,hall,hbr⟩:=hrel;have HALL:=h! hall;have HEr:=h! (HE0.out.trans hbr);have hBx:=HBOX.out.below hbr;clear hall;by_cases hkl:k<q.length
    case' pos =>
     obtain⟨b2,off2,rfl,hb2,hc2⟩:=HMC.out (by omega);obtain⟨e0,e1,e2,e3,e4,e5⟩:=hc2 k hkl;have hkd:decide ((k:Int)<(q.length:Int))=true:=by simp;omega
     have hNX:=fun(h:ltT q[k] ⟨⟨pt,pi,pr⟩,⟨qt,qi,qr⟩⟩=true)=>h! (upto_succ (p:=fun j hj=>ltT q[j] ⟨⟨pt,pi,pr⟩,⟨qt,qi,qr⟩⟩=true) HALL.out hkl h);have hIX:=fun(h:ltT ⟨⟨pt,pi,pr⟩,⟨qt,qi,qr⟩⟩ q[k]=true)=>h! (insT_up (p:=⟨⟨pt,pi,pr⟩,⟨qt,qi,qr⟩⟩) HUPQ.out HALL.out (fun _=>h));have hQM:=List.getElem_mem hkl;clear hc2;generalize q[k]=u at *;obtain⟨⟨ut,ui,ur⟩,⟨vt,vi,vr⟩⟩:=u;dsimp only at e0 e1 e2;have HLS:=h! (fun W=>cmp04_any ⟨⟨ut,ui,ur⟩,⟨vt,vi,vr⟩⟩ ⟨⟨pt,pi,pr⟩,⟨qt,qi,qr⟩⟩ W);have HCN:=h! (cmpT_neg ⟨⟨ut,ui,ur⟩,⟨vt,vi,vr⟩⟩ ⟨⟨pt,pi,pr⟩,⟨qt,qi,qr⟩⟩);generalize cmpT ⟨⟨ut,ui,ur⟩,⟨vt,vi,vr⟩⟩ ⟨⟨pt,pi,pr⟩,⟨qt,qi,qr⟩⟩=cv at *;unfold tV at HLS;dsimp only at HLS;go_wp2_with fail
     obtain⟨wd,hwd⟩:∃ wd,wd=wr.drew:=⟨_,rfl⟩;have hEd:Ext wr0 wd:=by rw[hwd];exact HEr.out.trans (Ext.drew _)
     have hEw:Ext wr wd:=by rw[hwd];exact Ext.drew _
     have hBd:Blk wd wr0.heap.size #[.string pt,.string pi,.string pr,.string qt,.string qi,.string qr] 104:=by rw[hwd];exact hBx.drew
     refine region_walkN (Ext wd) (by rw[<- hwd];exact Ext.refl _) (by kernel_rfl) (by kernel_rfl) (fun _ _ d _ _ h=>by cases d <;> exact h) ?_;rw[<- hwd];clear hwd hBx;have h1:∀ W,Ext wd W->∀ i,W.cell? ⟨wr0.heap.size,i,none⟩=(#[.string pt,.string pi,.string pr,.string qt,.string qi,.string qr]:Array Value)[i]?:=fun W h=>(hBd.below h).cells;have g0:∀ W,Ext wd W->W.cell? ⟨b2,off2+k*6,none⟩=some (.string ut):=fun W h=>Ext.cell (hEd.trans h) e0;have g1:∀ W,Ext wd W->W.cell? ⟨b2,off2+k*6+1,none⟩=some (.string ui):=fun W h=>Ext.cell (hEd.trans h) e1;have g2:∀ W,Ext wd W->W.cell? ⟨b2,off2+k*6+2,none⟩=some (.string ur):=fun W h=>Ext.cell (hEd.trans h) e2;have g3:∀ W,Ext wd W->W.cell? ⟨b2,off2+k*6+3,none⟩=some (.string vt):=fun W h=>Ext.cell (hEd.trans h) e3;have g4:∀ W,Ext wd W->W.cell? ⟨b2,off2+k*6+4,none⟩=some (.string vi):=fun W h=>Ext.cell (hEd.trans h) e4;have g5:∀ W,Ext wd W->W.cell? ⟨b2,off2+k*6+5,none⟩=some (.string vr):=fun W h=>Ext.cell (hEd.trans h) e5;(refine WalkN.tk [0,1,2,3,4,5,6,7,8,9] ?_;(iterate 10 ((refine TkN.c _ ?_ (by simp only[gA,gS,gZ];rfl) (by kernel_rfl) (by kernel_rfl) (by rfl) (fun W hW=>?_) ?_;rotate_left;· (go_simp;try with_reducible rfl));simp only[Act.put,pA,pZ,pS]));refine TkN.n ?_)
     clear h1 g0 g1 g2 g3 g4 g5;refine WalkN.one 10 (by kernel_rfl) ?_;refine⟨_,(by simp only[gA,gS,gZ];rfl),by rfl,fun K hK=>?_⟩;go_simp;refine(HLS.out _).mono ?_;rintro e w4 ⟨rfl,hb4⟩;refine hK.out _ _ hb4 ?_;clear hK;(refine WalkN.tk [11,12] ?_;(iterate 2 ((refine TkN.c _ ?_ (by simp only[gA,gS,gZ];rfl) (by kernel_rfl) (by kernel_rfl) (by rfl) (fun W hW=>?_) ?_;rotate_left;· (go_simp;try with_reducible rfl));simp only[Act.put,pA,pZ,pS]));refine TkN.n ?_)
     refine WalkN.done (by kernel_rfl) ?_;rw[HCN.out];have HE4:=h! (hEd.trans hb4);have HBR4:=h! (show Ext wr w4 from hEw.trans hb4);have HB4:=h! (hBd.below hb4);clear hEd hBd hb4;rcases hlb:ltT ⟨⟨ut,ui,ur⟩,⟨vt,vi,vr⟩⟩ ⟨⟨pt,pi,pr⟩,⟨qt,qi,qr⟩⟩with _ | _
     rotate_left
     ·have HH:=hNX hlb;clear hlb hNX hIX HALL;go_wp2_with fail
      go_roundw
      case rel=>exact⟨k+1,by omega,by go_num,HH.out,by exact hbr.trans (Below.mono (HBR4.out) hbr.size)⟩
      case measure=>simp[intOf];omega
     have hke:((k:Int) == (q.length:Int))=false:=by rw[beq_eq_false_iff_ne];omega
     have hne0:=fun W=>tup_neq ⟨⟨ut,ui,ur⟩,⟨vt,vi,vr⟩⟩ ⟨⟨pt,pi,pr⟩,⟨qt,qi,qr⟩⟩ W;unfold tV at hne0;dsimp only at hne0;by_cases hup:(⟨⟨ut,ui,ur⟩,⟨vt,vi,vr⟩⟩:Tup)=⟨⟨pt,pi,pr⟩,⟨qt,qi,qr⟩⟩
     ·rw[decide_eq_false (fun h=>h hup)]at hne0
      have HMN:=h! (show ∀ x,x∈q↔x∈l.take (i+1)/\chkT x=true from fun x=>by
       rw[HTK.out x,HMQ.out x];constructor
       ·exact fun h=>⟨.inl h.1,h.2⟩
       ·rintro⟨h | rfl,h2⟩
        ·exact⟨h,h2⟩
        ·exact(HMQ.out _).1 (hup▸hQM))
      injection hup with hup1 hup2
      injection hup1 with hu1 hu2 hu3
      injection hup2 with hu4 hu5 hu6
      subst hu1 hu2 hu3 hu4 hu5 hu6;clear hlb hNX hIX HALL hQM;go_wp2_with fail
      obtain⟨wd,hwd⟩:∃ wd,wd=w4.drew:=⟨_,rfl⟩;have hEd:Ext wr0 wd:=by rw[hwd];exact HE4.out.trans (Ext.drew _)
      have hBd:Blk wd wr0.heap.size #[.string ut,.string ui,.string ur,.string vt,.string vi,.string vr] 104:=by rw[hwd];exact HB4.out.drew
      refine region_walkN (Ext wd) (by rw[<- hwd];exact Ext.refl _) (by kernel_rfl) (by kernel_rfl) (fun _ _ d _ _ h=>by cases d <;> exact h) ?_;rw[<- hwd];clear hwd;have h1:∀ W,Ext wd W->∀ i,W.cell? ⟨wr0.heap.size,i,none⟩=(#[.string ut,.string ui,.string ur,.string vt,.string vi,.string vr]:Array Value)[i]?:=fun W h=>(hBd.below h).cells;have g0:∀ W,Ext wd W->W.cell? ⟨b2,off2+k*6,none⟩=some (.string ut):=fun W h=>Ext.cell (hEd.trans h) e0;have g1:∀ W,Ext wd W->W.cell? ⟨b2,off2+k*6+1,none⟩=some (.string ui):=fun W h=>Ext.cell (hEd.trans h) e1;have g2:∀ W,Ext wd W->W.cell? ⟨b2,off2+k*6+2,none⟩=some (.string ur):=fun W h=>Ext.cell (hEd.trans h) e2;have g3:∀ W,Ext wd W->W.cell? ⟨b2,off2+k*6+3,none⟩=some (.string vt):=fun W h=>Ext.cell (hEd.trans h) e3;have g4:∀ W,Ext wd W->W.cell? ⟨b2,off2+k*6+4,none⟩=some (.string vi):=fun W h=>Ext.cell (hEd.trans h) e4;have g5:∀ W,Ext wd W->W.cell? ⟨b2,off2+k*6+5,none⟩=some (.string vr):=fun W h=>Ext.cell (hEd.trans h) e5;(refine WalkN.tk [0,1,2,3,4,5,6,7,8,9,10,11] ?_;(iterate 12 ((refine TkN.c _ ?_ (by simp only[gA,gS,gZ];rfl) (by kernel_rfl) (by kernel_rfl) (by rfl) (fun W hW=>?_) ?_;rotate_left;· (go_simp;try with_reducible rfl));simp only[Act.put,pA,pZ,pS]));refine TkN.n ?_)
      refine WalkN.done (by kernel_rfl) ?_;have HOE:=h! (HOW.out.below hEd);have HBE:=h! (HBEL.out.trans (Below.mono hEd HBEL.out.size));clear h1 g0 g1 g2 g3 g4 g5 hEd hBd hne0 hke;go_wp2_with fail
      go_roundw
      case rel=>exact⟨i+1,q,by omega,by go_num,HOE.out,HUPQ.out,HMN.out,by omega,HBE.out⟩
      case measure=>simp[intOf];omega
     rw[decide_eq_true (show(⟨⟨ut,ui,ur⟩,⟨vt,vi,vr⟩⟩:Tup)≠⟨⟨pt,pi,pr⟩,⟨qt,qi,qr⟩⟩from hup)]at hne0;have HUP:=hIX (ltT_total hlb hup);have HME:=h! (show ∀ x,x∈insT q k ⟨⟨pt,pi,pr⟩,⟨qt,qi,qr⟩⟩↔x∈l.take (i+1)/\chkT x=true from fun x=>by rw[insT_mem,HMQ.out x,HTK.out x];exact⟨fun h=>h.elim (fun h=>⟨.inl h.1,h.2⟩) fun h=>⟨.inr h,h▸HCHK.out⟩,fun h=>h.1.elim (fun h1 => .inl ⟨h1,h.2⟩) .inr⟩);clear hlb hNX hIX HALL hQM hup;go_wp2_with fail
     obtain⟨wd,hwd⟩:∃ wd,wd=w4.drew:=⟨_,rfl⟩;have hE6:Ext wr0 wd:=by rw[hwd];exact HE4.out.trans (Ext.drew _)
     have hB6:Blk wd wr0.heap.size #[.string pt,.string pi,.string pr,.string qt,.string qi,.string qr] 104:=by rw[hwd];exact HB4.out.drew
     refine region_walkN (Ext wd) (by rw[<- hwd];exact Ext.refl _) (by kernel_rfl) (by kernel_rfl) (fun _ _ d _ _ h=>by cases d <;> exact h) ?_;rw[<- hwd];clear hwd;have h1:∀ W,Ext wd W->∀ i,W.cell? ⟨wr0.heap.size,i,none⟩=(#[.string pt,.string pi,.string pr,.string qt,.string qi,.string qr]:Array Value)[i]?:=fun W h=>(hB6.below h).cells;have g0:∀ W,Ext wd W->W.cell? ⟨b2,off2+k*6,none⟩=some (.string ut):=fun W h=>Ext.cell (hE6.trans h) e0;have g1:∀ W,Ext wd W->W.cell? ⟨b2,off2+k*6+1,none⟩=some (.string ui):=fun W h=>Ext.cell (hE6.trans h) e1;have g2:∀ W,Ext wd W->W.cell? ⟨b2,off2+k*6+2,none⟩=some (.string ur):=fun W h=>Ext.cell (hE6.trans h) e2;have g3:∀ W,Ext wd W->W.cell? ⟨b2,off2+k*6+3,none⟩=some (.string vt):=fun W h=>Ext.cell (hE6.trans h) e3;have g4:∀ W,Ext wd W->W.cell? ⟨b2,off2+k*6+4,none⟩=some (.string vi):=fun W h=>Ext.cell (hE6.trans h) e4;have g5:∀ W,Ext wd W->W.cell? ⟨b2,off2+k*6+5,none⟩=some (.string vr):=fun W h=>Ext.cell (hE6.trans h) e5;(refine WalkN.tk [0,1,2,3,4,5,6,7,8,9,10,11] ?_;(iterate 12 ((refine TkN.c _ ?_ (by simp only[gA,gS,gZ];rfl) (by kernel_rfl) (by kernel_rfl) (by rfl) (fun W hW=>?_) ?_;rotate_left;· (go_simp;try with_reducible rfl));simp only[Act.put,pA,pZ,pS]));refine TkN.n ?_)
     refine WalkN.done (by kernel_rfl) ?_;clear h1 g0 g1 g2 g3 g4 g5 hne0 hke e0 e1 e2 e3 e4 e5;obtain⟨w6,rfl⟩:∃ w6,w6=wd:=⟨_,rfl⟩;have hkc:(k:Int)<=mc:=by omega
     have hkq:(k:Int)<=q.length:=by omega
     go_wp2_with fail
     obtain⟨wd,hwd⟩:∃ wd,wd=w6.drew:=⟨_,rfl⟩;have hEd:Ext wr0 wd:=by rw[hwd];exact hE6.trans (Ext.drew _)
     have hBd:Blk wd wr0.heap.size #[.string pt,.string pi,.string pr,.string qt,.string qi,.string qr] 104:=by rw[hwd];exact hB6.drew
     have hbd:Below w.heap.size w wd:=HBEL.out.trans (Below.mono hEd HBEL.out.size);have hsd:Sl (· < wd.heap.size) wd 6 (.slice (some ⟨b2,off2,none⟩) q.length mc) (tuCs q):=HOW.out.slU.up hEd;refine region_walkN (Ext wd) (by rw[<- hwd];exact Ext.refl _) (by kernel_rfl) (by kernel_rfl) (fun _ _ d _ _ h=>by cases d <;> exact h) ?_;rw[<- hwd];clear hwd;have HTW:∀ W,Ext wd W->∀ i,W.cell? ⟨wr0.heap.size,i,none⟩=(#[.string pt,.string pi,.string pr,.string qt,.string qi,.string qr]:Array Value)[i]?:=fun W h=>(hBd.below h).cells;(refine WalkN.tk [1,2,3,5,8,9,10] ?_;(iterate 7 ((refine TkN.c _ ?_ (by simp only[gA,gS,gZ];rfl) (by kernel_rfl) (by kernel_rfl) (by rfl) (fun W hW=>?_) ?_;rotate_left;· (go_simp;try with_reducible rfl));simp only[Act.put,pA,pZ,pS]));refine TkN.n ?_)
     clear HTW;have hE0:Ext wd wd:=Ext.refl _
     have hs1:Sl (· < wd.heap.size) wd 6 (.slice (some ⟨b2,off2,none⟩) k mc) (tuCs (q.take k)):=by
      have:=hsd.take k (by omega);rwa[tuCs_take]at this
     have hs2:Sl (· < wd.heap.size) wd 6 (.slice (if mc=k then(some ⟨b2,off2,none⟩)else(some ⟨b2,off2+k*6,none⟩)) (q.length-k) (mc-k)) (tuCs (q.drop k)):=by
      have:=hsd.tailK (ao':=(if mc=k then(some ⟨b2,off2,none⟩)else(some ⟨b2,off2+k*6,none⟩))) k (by omega) (fun h=>by rw[if_neg h];simp[Addr.add_lit]);rwa[tuCs_drop]at this
     have HIN:=h! (show []++tuCs (q.take k)++tuCs [⟨⟨pt,pi,pr⟩,⟨qt,qi,qr⟩⟩]++tuCs (q.drop k)=tuCs (insT q k ⟨⟨pt,pi,pr⟩,⟨qt,qi,qr⟩⟩)from by rw[List.nil_append,<- tuCs_append,<- tuCs_append];rfl);have hl1:(q.take k).length<=100000:=by rw[List.length_take];omega
     have hl2:(q.drop k).length<=100000:=by rw[List.length_drop];omega
     clear hsd
    case' neg =>
     obtain rfl:k=q.length:=by omega
     have HUP:=h! (insT_up (p:=⟨⟨pt,pi,pr⟩,⟨qt,qi,qr⟩⟩) HUPQ.out HALL.out (fun h=>absurd h hkl));have HME:=h! (show ∀ x,x∈insT q q.length ⟨⟨pt,pi,pr⟩,⟨qt,qi,qr⟩⟩↔x∈l.take (i+1)/\chkT x=true from fun x=>by rw[insT_mem,HMQ.out x,HTK.out x];exact⟨fun h=>h.elim (fun h=>⟨.inl h.1,h.2⟩) fun h=>⟨.inr h,h▸HCHK.out⟩,fun h=>h.1.elim (fun h1 => .inl ⟨h1,h.2⟩) .inr⟩);have hkc:(q.length:Int)<=mc:=by omega
     have hkq:(q.length:Int)<=q.length:=by omega
     clear hkl HALL HMC hbr;rcases HSH.out with⟨hmn,-⟩ | ⟨b2,n',c',hmn⟩
     case' inl =>
      obtain rfl:mo=none:=by injection hmn
      clear hmn HSH;go_wp2_with fail
      obtain⟨wc,hwc⟩:∃ wc,wc=wr.drew:=⟨_,rfl⟩;have hEc:Ext wr0 wc:=by rw[hwc];exact HEr.out.trans (Ext.drew _)
      have hBc:Blk wc wr0.heap.size #[.string pt,.string pi,.string pr,.string qt,.string qi,.string qr] 104:=by rw[hwc];exact hBx.drew
      refine region_walkN (Ext wc) (by rw[<- hwc];exact Ext.refl _) (by kernel_rfl) (by kernel_rfl) (fun _ _ d _ _ h=>by cases d <;> exact h) ?_;rw[<- hwc];clear hwc;(refine WalkN.tk [0,1,2,3,4] ?_;(iterate 5 ((refine TkN.c _ ?_ (by simp only[gA,gS,gZ];rfl) (by kernel_rfl) (by kernel_rfl) (by rfl) (fun W hW=>?_) ?_;rotate_left;· (go_simp;try with_reducible rfl));simp only[Act.put,pA,pZ,pS]));refine TkN.n ?_)
      (refine WalkN.skip 5 _ (by simp only[gA,gS,gZ];rfl) (by kernel_rfl) (by kernel_rfl) (by rfl) ?_;simp only[Act.put,pA,pZ,pS]);(refine WalkN.skip 6 _ (by simp only[gA,gS,gZ];rfl) (by kernel_rfl) (by kernel_rfl) (by rfl) ?_;simp only[Act.put,pA,pZ,pS]);(refine WalkN.skip 7 _ (by simp only[gA,gS,gZ];rfl) (by kernel_rfl) (by kernel_rfl) (by rfl) ?_;simp only[Act.put,pA,pZ,pS]);(refine WalkN.skip 8 _ (by simp only[gA,gS,gZ];rfl) (by kernel_rfl) (by kernel_rfl) (by rfl) ?_;simp only[Act.put,pA,pZ,pS]);(refine WalkN.skip 9 _ (by simp only[gA,gS,gZ];rfl) (by kernel_rfl) (by kernel_rfl) (by rfl) ?_;simp only[Act.put,pA,pZ,pS]);(refine WalkN.skip 10 _ (by simp only[gA,gS,gZ];rfl) (by kernel_rfl) (by kernel_rfl) (by rfl) ?_;simp only[Act.put,pA,pZ,pS]);(refine WalkN.skip 11 _ (by simp only[gA,gS,gZ];rfl) (by kernel_rfl) (by kernel_rfl) (by rfl) ?_;simp only[Act.put,pA,pZ,pS])
      ((refine WalkN.take 12 _ ?_ (by simp only[gA,gS,gZ];rfl) (by kernel_rfl) (by kernel_rfl) (by rfl) (fun W hW=>?_) ?_;rotate_left;· (go_simp;try with_reducible rfl));simp only[Act.put,pA,pZ,pS])
      refine WalkN.done (by kernel_rfl) ?_;go_wp2_with fail
      obtain⟨w6,hw6⟩:∃ w6,w6=wc.drew:=⟨_,rfl⟩;have hE6:Ext wr0 w6:=by rw[hw6];exact hEc.trans (Ext.drew _)
      have hB6:Blk w6 wr0.heap.size #[.string pt,.string pi,.string pr,.string qt,.string qi,.string qr] 104:=by rw[hw6];exact hBc.drew
      refine region_walkN (Ext w6) (by rw[<- hw6];exact Ext.refl _) (by kernel_rfl) (by kernel_rfl) (fun _ _ d _ _ h=>by cases d <;> exact h) ?_;rw[<- hw6];clear hw6;(refine WalkN.tk [0,1,2,3,4] ?_;(iterate 5 ((refine TkN.c _ ?_ (by simp only[gA,gS,gZ];rfl) (by kernel_rfl) (by kernel_rfl) (by rfl) (fun W hW=>?_) ?_;rotate_left;· (go_simp;try with_reducible rfl));simp only[Act.put,pA,pZ,pS]));refine TkN.n ?_)
      (refine WalkN.skip 5 _ (by simp only[gA,gS,gZ];rfl) (by kernel_rfl) (by kernel_rfl) (by rfl) ?_;simp only[Act.put,pA,pZ,pS]);(refine WalkN.skip 6 _ (by simp only[gA,gS,gZ];rfl) (by kernel_rfl) (by kernel_rfl) (by rfl) ?_;simp only[Act.put,pA,pZ,pS]);(refine WalkN.skip 7 _ (by simp only[gA,gS,gZ];rfl) (by kernel_rfl) (by kernel_rfl) (by rfl) ?_;simp only[Act.put,pA,pZ,pS]);(refine WalkN.skip 8 _ (by simp only[gA,gS,gZ];rfl) (by kernel_rfl) (by kernel_rfl) (by rfl) ?_;simp only[Act.put,pA,pZ,pS]);(refine WalkN.skip 9 _ (by simp only[gA,gS,gZ];rfl) (by kernel_rfl) (by kernel_rfl) (by rfl) ?_;simp only[Act.put,pA,pZ,pS]);(refine WalkN.skip 10 _ (by simp only[gA,gS,gZ];rfl) (by kernel_rfl) (by kernel_rfl) (by rfl) ?_;simp only[Act.put,pA,pZ,pS])
      ((refine WalkN.take 11 _ ?_ (by simp only[gA,gS,gZ];rfl) (by kernel_rfl) (by kernel_rfl) (by rfl) (fun W hW=>?_) ?_;rotate_left;· (go_simp;try with_reducible rfl));simp only[Act.put,pA,pZ,pS])
      refine WalkN.done (by kernel_rfl) ?_;go_wp2_with fail
      obtain⟨wd,hwd⟩:∃ wd,wd=w6.drew:=⟨_,rfl⟩;have hEd:Ext wr0 wd:=by rw[hwd];exact hE6.trans (Ext.drew _)
      have hBd:Blk wd wr0.heap.size #[.string pt,.string pi,.string pr,.string qt,.string qi,.string qr] 104:=by rw[hwd];exact hB6.drew
      have hbd:Below w.heap.size w wd:=HBEL.out.trans (Below.mono hEd HBEL.out.size);have hsd:Sl (· < wd.heap.size) wd 6 (.slice none q.length mc) (tuCs q):=HOW.out.slU.up hEd;refine region_walkN (Ext wd) (by rw[<- hwd];exact Ext.refl _) (by kernel_rfl) (by kernel_rfl) (fun _ _ d _ _ h=>by cases d <;> exact h) ?_;rw[<- hwd];clear hwd;have HTW:∀ W,Ext wd W->∀ i,W.cell? ⟨wr0.heap.size,i,none⟩=(#[.string pt,.string pi,.string pr,.string qt,.string qi,.string qr]:Array Value)[i]?:=fun W h=>(hBd.below h).cells;(refine WalkN.tk [1,2,3,5,8,9,10] ?_;(iterate 7 ((refine TkN.c _ ?_ (by simp only[gA,gS,gZ];rfl) (by kernel_rfl) (by kernel_rfl) (by rfl) (fun W hW=>?_) ?_;rotate_left;· (go_simp;try with_reducible rfl));simp only[Act.put,pA,pZ,pS]));refine TkN.n ?_)
      clear HTW;have hE0:Ext wd wd:=Ext.refl _
      have hs1:Sl (· < wd.heap.size) wd 6 (.slice none q.length mc) (tuCs (q.take q.length)):=by
       have:=hsd.take q.length (by omega);rwa[tuCs_take]at this
      have hs2:Sl (· < wd.heap.size) wd 6 (.slice none 0 (mc-q.length)) (tuCs (q.drop q.length)):=by
       have:=hsd.tailK (ao':=none) q.length (by omega) (fun _=>rfl);rwa[tuCs_drop,Nat.sub_self]at this
      obtain⟨k,hk⟩:∃ k,k=q.length:=⟨_,rfl⟩;have HUP:=h! (show UpT (insT q k ⟨⟨pt,pi,pr⟩,⟨qt,qi,qr⟩⟩)from by rw[hk];exact HUP.out);have HME:=h! (show ∀ x,x∈insT q k ⟨⟨pt,pi,pr⟩,⟨qt,qi,qr⟩⟩↔x∈l.take (i+1)/\chkT x=true from by rw[hk];exact HME.out);have HIN:=h! (show []++tuCs (q.take q.length)++tuCs [⟨⟨pt,pi,pr⟩,⟨qt,qi,qr⟩⟩]++tuCs (q.drop q.length)=tuCs (insT q k ⟨⟨pt,pi,pr⟩,⟨qt,qi,qr⟩⟩)from by rw[hk,List.nil_append,<- tuCs_append,<- tuCs_append];rfl);clear hk;have hl1:(q.take q.length).length<=100000:=by rw[List.length_take];omega
      have hl2:(q.drop q.length).length<=100000:=by rw[List.length_drop];omega
      clear hsd
     case' inr =>
      obtain⟨off2,rfl⟩:∃ off2,mo=some ⟨b2,off2,none⟩:=⟨0,by injection hmn⟩;clear hmn HSH;go_wp2_with fail
      obtain⟨wc,hwc⟩:∃ wc,wc=wr.drew:=⟨_,rfl⟩;have hEc:Ext wr0 wc:=by rw[hwc];exact HEr.out.trans (Ext.drew _)
      have hBc:Blk wc wr0.heap.size #[.string pt,.string pi,.string pr,.string qt,.string qi,.string qr] 104:=by rw[hwc];exact hBx.drew
      refine region_walkN (Ext wc) (by rw[<- hwc];exact Ext.refl _) (by kernel_rfl) (by kernel_rfl) (fun _ _ d _ _ h=>by cases d <;> exact h) ?_;rw[<- hwc];clear hwc;(refine WalkN.tk [0,1,2,3,4] ?_;(iterate 5 ((refine TkN.c _ ?_ (by simp only[gA,gS,gZ];rfl) (by kernel_rfl) (by kernel_rfl) (by rfl) (fun W hW=>?_) ?_;rotate_left;· (go_simp;try with_reducible rfl));simp only[Act.put,pA,pZ,pS]));refine TkN.n ?_)
      (refine WalkN.skip 5 _ (by simp only[gA,gS,gZ];rfl) (by kernel_rfl) (by kernel_rfl) (by rfl) ?_;simp only[Act.put,pA,pZ,pS]);(refine WalkN.skip 6 _ (by simp only[gA,gS,gZ];rfl) (by kernel_rfl) (by kernel_rfl) (by rfl) ?_;simp only[Act.put,pA,pZ,pS]);(refine WalkN.skip 7 _ (by simp only[gA,gS,gZ];rfl) (by kernel_rfl) (by kernel_rfl) (by rfl) ?_;simp only[Act.put,pA,pZ,pS]);(refine WalkN.skip 8 _ (by simp only[gA,gS,gZ];rfl) (by kernel_rfl) (by kernel_rfl) (by rfl) ?_;simp only[Act.put,pA,pZ,pS]);(refine WalkN.skip 9 _ (by simp only[gA,gS,gZ];rfl) (by kernel_rfl) (by kernel_rfl) (by rfl) ?_;simp only[Act.put,pA,pZ,pS]);(refine WalkN.skip 10 _ (by simp only[gA,gS,gZ];rfl) (by kernel_rfl) (by kernel_rfl) (by rfl) ?_;simp only[Act.put,pA,pZ,pS]);(refine WalkN.skip 11 _ (by simp only[gA,gS,gZ];rfl) (by kernel_rfl) (by kernel_rfl) (by rfl) ?_;simp only[Act.put,pA,pZ,pS])
      ((refine WalkN.take 12 _ ?_ (by simp only[gA,gS,gZ];rfl) (by kernel_rfl) (by kernel_rfl) (by rfl) (fun W hW=>?_) ?_;rotate_left;· (go_simp;try with_reducible rfl));simp only[Act.put,pA,pZ,pS])
      refine WalkN.done (by kernel_rfl) ?_;go_wp2_with fail
      obtain⟨w6,hw6⟩:∃ w6,w6=wc.drew:=⟨_,rfl⟩;have hE6:Ext wr0 w6:=by rw[hw6];exact hEc.trans (Ext.drew _)
      have hB6:Blk w6 wr0.heap.size #[.string pt,.string pi,.string pr,.string qt,.string qi,.string qr] 104:=by rw[hw6];exact hBc.drew
      refine region_walkN (Ext w6) (by rw[<- hw6];exact Ext.refl _) (by kernel_rfl) (by kernel_rfl) (fun _ _ d _ _ h=>by cases d <;> exact h) ?_;rw[<- hw6];clear hw6;(refine WalkN.tk [0,1,2,3,4] ?_;(iterate 5 ((refine TkN.c _ ?_ (by simp only[gA,gS,gZ];rfl) (by kernel_rfl) (by kernel_rfl) (by rfl) (fun W hW=>?_) ?_;rotate_left;· (go_simp;try with_reducible rfl));simp only[Act.put,pA,pZ,pS]));refine TkN.n ?_)
      (refine WalkN.skip 5 _ (by simp only[gA,gS,gZ];rfl) (by kernel_rfl) (by kernel_rfl) (by rfl) ?_;simp only[Act.put,pA,pZ,pS]);(refine WalkN.skip 6 _ (by simp only[gA,gS,gZ];rfl) (by kernel_rfl) (by kernel_rfl) (by rfl) ?_;simp only[Act.put,pA,pZ,pS]);(refine WalkN.skip 7 _ (by simp only[gA,gS,gZ];rfl) (by kernel_rfl) (by kernel_rfl) (by rfl) ?_;simp only[Act.put,pA,pZ,pS]);(refine WalkN.skip 8 _ (by simp only[gA,gS,gZ];rfl) (by kernel_rfl) (by kernel_rfl) (by rfl) ?_;simp only[Act.put,pA,pZ,pS]);(refine WalkN.skip 9 _ (by simp only[gA,gS,gZ];rfl) (by kernel_rfl) (by kernel_rfl) (by rfl) ?_;simp only[Act.put,pA,pZ,pS]);(refine WalkN.skip 10 _ (by simp only[gA,gS,gZ];rfl) (by kernel_rfl) (by kernel_rfl) (by rfl) ?_;simp only[Act.put,pA,pZ,pS])
      ((refine WalkN.take 11 _ ?_ (by simp only[gA,gS,gZ];rfl) (by kernel_rfl) (by kernel_rfl) (by rfl) (fun W hW=>?_) ?_;rotate_left;· (go_simp;try with_reducible rfl));simp only[Act.put,pA,pZ,pS])
      refine WalkN.done (by kernel_rfl) ?_;go_wp2_with fail
      obtain⟨wd,hwd⟩:∃ wd,wd=w6.drew:=⟨_,rfl⟩;have hEd:Ext wr0 wd:=by rw[hwd];exact hE6.trans (Ext.drew _)
      have hBd:Blk wd wr0.heap.size #[.string pt,.string pi,.string pr,.string qt,.string qi,.string qr] 104:=by rw[hwd];exact hB6.drew
      have hbd:Below w.heap.size w wd:=HBEL.out.trans (Below.mono hEd HBEL.out.size);have hsd:Sl (· < wd.heap.size) wd 6 (.slice (some ⟨b2,off2,none⟩) q.length mc) (tuCs q):=HOW.out.slU.up hEd;refine region_walkN (Ext wd) (by rw[<- hwd];exact Ext.refl _) (by kernel_rfl) (by kernel_rfl) (fun _ _ d _ _ h=>by cases d <;> exact h) ?_;rw[<- hwd];clear hwd;have HTW:∀ W,Ext wd W->∀ i,W.cell? ⟨wr0.heap.size,i,none⟩=(#[.string pt,.string pi,.string pr,.string qt,.string qi,.string qr]:Array Value)[i]?:=fun W h=>(hBd.below h).cells;(refine WalkN.tk [1,2,3,5,8,9,10] ?_;(iterate 7 ((refine TkN.c _ ?_ (by simp only[gA,gS,gZ];rfl) (by kernel_rfl) (by kernel_rfl) (by rfl) (fun W hW=>?_) ?_;rotate_left;· (go_simp;try with_reducible rfl));simp only[Act.put,pA,pZ,pS]));refine TkN.n ?_)
      clear HTW;have hE0:Ext wd wd:=Ext.refl _
      have hs1:Sl (· < wd.heap.size) wd 6 (.slice (some ⟨b2,off2,none⟩) q.length mc) (tuCs (q.take q.length)):=by
       have:=hsd.take q.length (by omega);rwa[tuCs_take]at this
      have hs2:Sl (· < wd.heap.size) wd 6 (.slice (if mc=q.length then(some ⟨b2,off2,none⟩)else(some ⟨b2,off2+q.length*6,none⟩)) 0 (mc-q.length)) (tuCs (q.drop q.length)):=by
       have:=hsd.tailK (ao':=(if mc=q.length then(some ⟨b2,off2,none⟩)else(some ⟨b2,off2+q.length*6,none⟩))) q.length (by omega) (fun h=>by rw[if_neg h];simp[Addr.add_lit]);rwa[tuCs_drop,Nat.sub_self]at this
      obtain⟨k,hk⟩:∃ k,k=q.length:=⟨_,rfl⟩;have HUP:=h! (show UpT (insT q k ⟨⟨pt,pi,pr⟩,⟨qt,qi,qr⟩⟩)from by rw[hk];exact HUP.out);have HME:=h! (show ∀ x,x∈insT q k ⟨⟨pt,pi,pr⟩,⟨qt,qi,qr⟩⟩↔x∈l.take (i+1)/\chkT x=true from by rw[hk];exact HME.out);have HIN:=h! (show []++tuCs (q.take q.length)++tuCs [⟨⟨pt,pi,pr⟩,⟨qt,qi,qr⟩⟩]++tuCs (q.drop q.length)=tuCs (insT q k ⟨⟨pt,pi,pr⟩,⟨qt,qi,qr⟩⟩)from by rw[hk,List.nil_append,<- tuCs_append,<- tuCs_append];rfl);clear hk;have hl1:(q.take q.length).length<=100000:=by rw[List.length_take];omega
      have hl2:(q.drop q.length).length<=100000:=by rw[List.length_drop];omega
      clear hsd
    all_goals
     refine WalkN.two 0 6 (by kernel_rfl) ?_ ?_
     ·refine⟨_,(by simp only[gA,gZ];rfl),by rfl,fun K hK=>?_⟩;go_simp;have hown1:Own (wd.alloc (.cells #[] 104)) wd.heap.size 104 6 (.slice (some ⟨wd.heap.size,0,none⟩) 0 0) []:=Own.made wd (Nat.le_refl _) _ _;have hE1:=Below.alloc hE0 (Nat.le_refl _) (.cells #[] 104);refine hK.out _ _ hE1 ?_;clear hK;refine WalkN.two 4 6 (by kernel_rfl) ?_ ?_
      ·refine⟨_,(by simp only[gA,gS,gZ];rfl),by rfl,fun K hK=>?_⟩;refine wp_own tupT (.tmp 43) (.tmp 46) rfl rfl hown1 rfl (hs1.same (Same.below hE1)) (tuCs_one _) (by simp[tuCs_length] <;> omega) (by simp[tuCs_length] <;> omega) hE1.size (fun v2 w2 hown2 hb2 hg2'=>?_);have hE2:Ext wd w2:=Below.trans hE1 hb2;refine hK.out _ _ hE2 ?_;clear hK;simp only[Act.put,pA,pZ,pS];refine WalkN.one 6 (by kernel_rfl) ?_;refine⟨_,(by simp only[gA,gS,gZ];rfl),by rfl,fun K hK=>?_⟩;go_simp;have hE3:=Below.alloc hE2 hE2.size (.cells #[.string pt,.string pi,.string pr,.string qt,.string qi,.string qr] 104);have hown3:=hown2.below ((Below.refl _ _).alloc (Nat.le_refl _) (.cells #[.string pt,.string pi,.string pr,.string qt,.string qi,.string qr] 104));have hk3:Sl (fun _=>True) (w2.alloc (.cells #[.string pt,.string pi,.string pr,.string qt,.string qi,.string qr] 104)) 6 (.slice (some ⟨w2.heap.size,0,none⟩) 1 1) (tuCs [⟨⟨pt,pi,pr⟩,⟨qt,qi,qr⟩⟩]):=Sl.made w2 (fun _=>True) 6 1 104 #[.string pt,.string pi,.string pr,.string qt,.string qi,.string qr] rfl (by decide) trivial;refine hK.out _ _ hE3 ?_;clear hK;refine WalkN.one 7 (by kernel_rfl) ?_;refine⟨_,(by simp only[gA,gS,gZ];rfl),by rfl,fun K hK=>?_⟩;refine wp_own tupT (.tmp 47) (.tmp 49) rfl rfl hown3 rfl hk3 (tuCs_one _) (by simp[tuCs_length] <;> omega) (by simp[tuCs_length] <;> omega) hE3.size (fun v4 w4 hown4 hb4 _=>?_);have hE4:Ext wd w4:=Below.trans hE3 hb4;refine hK.out _ _ hE4 ?_;clear hK;simp only[Act.put,pA,pZ,pS];refine WalkN.one 11 (by kernel_rfl) ?_;refine⟨_,(by simp only[gA,gS,gZ];rfl),by rfl,fun K hK=>?_⟩;refine wp_own tupT (.tmp 50) (.tmp 53) rfl rfl hown4 rfl (hs2.same (Same.below hE4)) (tuCs_one _) (by simp[tuCs_length] <;> omega) (by simp[tuCs_length] <;> omega) hE4.size (fun v5 w5 hown5 hb5 _=>?_);have hE5:Ext wd w5:=Below.trans hE4 hb5;have HO5:=h! hown5;refine hK.out _ _ hE5 ?_;clear hK;simp only[Act.put,pA,pZ,pS];clear hown3 hown4 hown5 hk3;((refine WalkN.take 12 _ ?_ (by simp only[gA,gS,gZ];rfl) (by kernel_rfl) (by kernel_rfl) (by rfl) (fun W hW=>?_) ?_;rotate_left;· (go_simp;try with_reducible rfl));simp only[Act.put,pA,pZ,pS])
       refine WalkN.done (by kernel_rfl) ?_;go_wp2
       go_roundw
       case rel=>exact⟨i+1,insT q k ⟨⟨pt,pi,pr⟩,⟨qt,qi,qr⟩⟩,by omega,by go_num,(HIN.out▸HO5.out:Own w5 wd.heap.size 104 6 v5 (tuCs (insT q k ⟨⟨pt,pi,pr⟩,⟨qt,qi,qr⟩⟩))).base hbd.size,HUP.out,HME.out,by rw[insT_length];omega,hbd.trans (Below.mono hE5 hbd.size)⟩
       case measure=>simp[intOf];omega
      ·obtain⟨w1,hw1⟩:∃ w1,w1=wd.alloc (.cells #[] 104):=⟨_,rfl⟩;rw[<- hw1]at hown1 hE1 ⊢;have hs1':w1.heap.size=wd.heap.size+1:=by rw[hw1];simp
       have HS1:=h! hs1';clear hw1 hs1';refine⟨_,(by simp only[gA,gS,gZ];rfl),by rfl,fun K hK=>?_⟩;go_simp;have hE3:=Below.alloc hE1 hE1.size (.cells #[.string pt,.string pi,.string pr,.string qt,.string qi,.string qr] 104);have hown3:=hown1.below ((Below.refl _ _).alloc (Nat.le_refl _) (.cells #[.string pt,.string pi,.string pr,.string qt,.string qi,.string qr] 104));have hk3:Sl (fun b=>b=w1.heap.size) (w1.alloc (.cells #[.string pt,.string pi,.string pr,.string qt,.string qi,.string qr] 104)) 6 (.slice (some ⟨w1.heap.size,0,none⟩) 1 1) (tuCs [⟨⟨pt,pi,pr⟩,⟨qt,qi,qr⟩⟩]):=Sl.made w1 (fun b=>b=w1.heap.size) 6 1 104 #[.string pt,.string pi,.string pr,.string qt,.string qi,.string qr] rfl (by decide) rfl;refine hK.out _ _ hE3 ?_;clear hK;refine WalkN.one 4 (by kernel_rfl) ?_;refine⟨_,(by simp only[gA,gS,gZ];rfl),by rfl,fun K hK=>?_⟩;refine wp_own tupT (.tmp 43) (.tmp 46) rfl rfl hown3 rfl (hs1.same (Same.below hE3)) (tuCs_one _) (by simp[tuCs_length] <;> omega) (by simp[tuCs_length] <;> omega) hE3.size (fun v2 w2 hown2 hb2 hg2'=>?_);have hE2:Ext wd w2:=Below.trans hE3 hb2;have hk5:=hk3.same (w':=w2) (fun x hx=>hg2'.block x (by subst hx;simp) (fun h=>by subst hx;have h2:=Option.some.inj (show some w1.heap.size=some wd.heap.size from h);have:=HS1.out;omega));refine hK.out _ _ hE2 ?_;clear hK;simp only[Act.put,pA,pZ,pS];refine WalkN.one 7 (by kernel_rfl) ?_;refine⟨_,(by simp only[gA,gS,gZ];rfl),by rfl,fun K hK=>?_⟩;refine wp_own tupT (.tmp 47) (.tmp 49) rfl rfl hown2 rfl hk5 (tuCs_one _) (by simp[tuCs_length] <;> omega) (by simp[tuCs_length] <;> omega) hE2.size (fun v4 w4 hown4 hb4 _=>?_);have hE4:Ext wd w4:=Below.trans hE2 hb4;refine hK.out _ _ hE4 ?_;clear hK;simp only[Act.put,pA,pZ,pS];refine WalkN.one 11 (by kernel_rfl) ?_;refine⟨_,(by simp only[gA,gS,gZ];rfl),by rfl,fun K hK=>?_⟩;refine wp_own tupT (.tmp 50) (.tmp 53) rfl rfl hown4 rfl (hs2.same (Same.below hE4)) (tuCs_one _) (by simp[tuCs_length] <;> omega) (by simp[tuCs_length] <;> omega) hE4.size (fun v5 w5 hown5 hb5 _=>?_);have hE5:Ext wd w5:=Below.trans hE4 hb5;have HO5:=h! hown5;refine hK.out _ _ hE5 ?_;clear hK;simp only[Act.put,pA,pZ,pS];clear hown2 hown4 hown5 hk5;((refine WalkN.take 12 _ ?_ (by simp only[gA,gS,gZ];rfl) (by kernel_rfl) (by kernel_rfl) (by rfl) (fun W hW=>?_) ?_;rotate_left;· (go_simp;try with_reducible rfl));simp only[Act.put,pA,pZ,pS])
       refine WalkN.done (by kernel_rfl) ?_;go_wp2
       go_roundw
       case rel=>exact⟨i+1,insT q k ⟨⟨pt,pi,pr⟩,⟨qt,qi,qr⟩⟩,by omega,by go_num,(HIN.out▸HO5.out:Own w5 wd.heap.size 104 6 v5 (tuCs (insT q k ⟨⟨pt,pi,pr⟩,⟨qt,qi,qr⟩⟩))).base hbd.size,HUP.out,HME.out,by rw[insT_length];omega,hbd.trans (Below.mono hE5 hbd.size)⟩
       case measure=>simp[intOf];omega
     ·refine⟨_,(by simp only[gA,gS,gZ];rfl),by rfl,fun K hK=>?_⟩;go_simp;have hE1:=Below.alloc hE0 (Nat.le_refl _) (.cells #[.string pt,.string pi,.string pr,.string qt,.string qi,.string qr] 104);have hk1:Sl (fun b=>b=wd.heap.size) (wd.alloc (.cells #[.string pt,.string pi,.string pr,.string qt,.string qi,.string qr] 104)) 6 (.slice (some ⟨wd.heap.size,0,none⟩) 1 1) (tuCs [⟨⟨pt,pi,pr⟩,⟨qt,qi,qr⟩⟩]):=Sl.made wd (fun b=>b=wd.heap.size) 6 1 104 #[.string pt,.string pi,.string pr,.string qt,.string qi,.string qr] rfl (by decide) rfl;refine hK.out _ _ hE1 ?_;clear hK;obtain⟨w1,hw1⟩:∃ w1,w1=wd.alloc (.cells #[.string pt,.string pi,.string pr,.string qt,.string qi,.string qr] 104):=⟨_,rfl⟩;rw[<- hw1]at hk1 hE1 ⊢;have hs1':w1.heap.size=wd.heap.size+1:=by rw[hw1];simp
      have HS1:=h! hs1';clear hw1 hs1';refine WalkN.one 0 (by kernel_rfl) ?_;refine⟨_,(by simp only[gA,gZ];rfl),by rfl,fun K hK=>?_⟩;go_simp;have hown1:Own (w1.alloc (.cells #[] 104)) wd.heap.size 104 6 (.slice (some ⟨w1.heap.size,0,none⟩) 0 0) []:=Own.made w1 hE1.size _ _;have hE3:=Below.alloc hE1 hE1.size (.cells #[] 104);have hk3:=hk1.same (w':=w1.alloc (.cells #[] 104)) (fun x hx=>Below.heap_alloc w1 _ x (by subst hx;have:=HS1.out;omega));refine hK.out _ _ hE3 ?_;clear hK;refine WalkN.one 4 (by kernel_rfl) ?_;refine⟨_,(by simp only[gA,gS,gZ];rfl),by rfl,fun K hK=>?_⟩;refine wp_own tupT (.tmp 43) (.tmp 46) rfl rfl hown1 rfl (hs1.same (Same.below hE3)) (tuCs_one _) (by simp[tuCs_length] <;> omega) (by simp[tuCs_length] <;> omega) hE3.size (fun v2 w2 hown2 hb2 hg2'=>?_);have hE2:Ext wd w2:=Below.trans hE3 hb2;have hk5:=hk3.same (w':=w2) (fun x hx=>hg2'.block x (by subst hx;have:=HS1.out;simp;omega) (fun h=>by subst hx;have h2:=Option.some.inj (show some wd.heap.size=some w1.heap.size from h);have:=HS1.out;omega));refine hK.out _ _ hE2 ?_;clear hK;simp only[Act.put,pA,pZ,pS];refine WalkN.one 7 (by kernel_rfl) ?_;refine⟨_,(by simp only[gA,gS,gZ];rfl),by rfl,fun K hK=>?_⟩;refine wp_own tupT (.tmp 47) (.tmp 49) rfl rfl hown2 rfl hk5 (tuCs_one _) (by simp[tuCs_length] <;> omega) (by simp[tuCs_length] <;> omega) hE2.size (fun v4 w4 hown4 hb4 _=>?_);have hE4:Ext wd w4:=Below.trans hE2 hb4;refine hK.out _ _ hE4 ?_;clear hK;simp only[Act.put,pA,pZ,pS];refine WalkN.one 11 (by kernel_rfl) ?_;refine⟨_,(by simp only[gA,gS,gZ];rfl),by rfl,fun K hK=>?_⟩;refine wp_own tupT (.tmp 50) (.tmp 53) rfl rfl hown4 rfl (hs2.same (Same.below hE4)) (tuCs_one _) (by simp[tuCs_length] <;> omega) (by simp[tuCs_length] <;> omega) hE4.size (fun v5 w5 hown5 hb5 _=>?_);have hE5:Ext wd w5:=Below.trans hE4 hb5;have HO5:=h! hown5;refine hK.out _ _ hE5 ?_;clear hK;simp only[Act.put,pA,pZ,pS];clear hown2 hown4 hown5 hk5;((refine WalkN.take 12 _ ?_ (by simp only[gA,gS,gZ];rfl) (by kernel_rfl) (by kernel_rfl) (by rfl) (fun W hW=>?_) ?_;rotate_left;· (go_simp;try with_reducible rfl));simp only[Act.put,pA,pZ,pS])
      refine WalkN.done (by kernel_rfl) ?_;go_wp2
      go_roundw
      case rel=>exact⟨i+1,insT q k ⟨⟨pt,pi,pr⟩,⟨qt,qi,qr⟩⟩,by omega,by go_num,(HIN.out▸HO5.out:Own w5 wd.heap.size 104 6 v5 (tuCs (insT q k ⟨⟨pt,pi,pr⟩,⟨qt,qi,qr⟩⟩))).base hbd.size,HUP.out,HME.out,by rw[insT_length];omega,hbd.trans (Below.mono hE5 hbd.size)⟩
      case measure=>simp[intOf];omega
  ·obtain rfl:i=l.length:=by omega
   obtain⟨mo,mc,rfl,-,-,-⟩:=Sl.rows tuC_length (by decide) (show Sl _ wr 6 u3 (List.flatMap tuC q)from hown.sl);rw[List.take_length]at HMQ;have HOW:=h! hown;clear hown;go_wp2_with fail
   go_ret
   exact⟨_,q,rfl,⟨HUPQ.out,HMQ.out⟩,HOW.out,hbel⟩
def GSaid (P:List P3->List FT->Value->Prop)(w:World)(e:Ending)(w':World):Prop :=
 Ext w w'/\∃ (ps:List P3) (fs:List FT) (po:Option Addr) (pc:Nat) (fo:Option Addr) (fc:Nat) (ev:Value),P ps fs ev/\e = .returned (.tuple #[.agg #[.slice po ps.length pc,.slice fo fs.length fc],ev]) /\
  GrAt (fun x=>w.heap.size<=x/\x<w'.heap.size) w' ps fs (.slice po ps.length pc) (.slice fo fs.length fc)
def JoinG {β:Type} (wd:World)(P:List P3->List FT->Value->Prop)(A:β->Nat->Option Addr->Nat->Option Addr->Nat->List P3->List FT->Value->Act)(e:Exit)(a:Act)(W:World):Prop :=
 e = .normal/\∃ (bk:β) (bg:Nat) (po:Option Addr) (pc:Nat) (fo:Option Addr) (fc:Nat) (ps:List P3) (fs:List FT) (ev:Value),a=A bk bg po pc fo fc ps fs ev/\P ps fs ev/\Ext wd W/\wd.heap.size<=bg /\
  Blk W bg #[.slice po ps.length pc,.slice fo fs.length fc] 37/\GrAt (fun x=>x≠bg/\wd.heap.size<=x/\x<W.heap.size) W ps fs (.slice po ps.length pc) (.slice fo fs.length fc)
theorem GrAt.shape {S:Nat->Prop} {w:World} {ps:List P3} {fs:List FT} {pv fv:Value} (h:GrAt S w ps fs pv fv):∃ po pc fo fc,pv = .slice po ps.length pc/\fv = .slice fo fs.length fc:=by
 obtain⟨h1,q,h2,h3,h4⟩:=h;obtain⟨po,pc,rfl,-⟩:=Sl.rows pC_length (by decide) (show Sl _ w 3 pv (ps.flatMap pC)from h1);obtain⟨fo,fc,rfl,-⟩:=Sl.rows fC_length (by decide) h4;exact⟨po,pc,fo,fc,rfl,by rw[<- h2,List.length_map]⟩
theorem GrAt.none (S:Nat->Prop)(w:World):GrAt S w [] [] (.slice none 0 0) (.slice none 0 0):=⟨Sl.nil _ _ _,[],rfl,(fun x hx=>by cases hx),Sl.nil _ _ _⟩
theorem set_ex (l:List Tup):∃ T,SetT l T:=by
 have htr:∀ a b c:Tup,(!ltT b a)=true->(!ltT c b)=true->(!ltT c a)=true:=fun a b c h k=>by
  rw[Bool.not_eq_true']at *;have:=swoC.ntrans c b a;simp only[lt_cmpC]at this;exact this k h
 have hto:∀ a b:Tup,(!ltT b a||!ltT a b)=true:=fun a b=>by
  cases h:ltT b a with
  | false=>rfl
  | true =>
   cases k:ltT a b with
   | false=>rfl
   | true =>
    have:=swoC.trans a b a;simp only[lt_cmpC]at this;have h3:=this k h;have h4:=swoC.irrefl a;rw[lt_cmpC]at h4;rw[h4]at h3;cases h3
 refine⟨_,set_of (List.mergeSort_perm l fun a b=>!ltT b a) ?_⟩;have:=List.pairwise_mergeSort (le:=fun a b=>!ltT b a) htr hto l;exact this.imp fun {a b} h=>by simpa using h
theorem bookT_any {l T:List Tup} (hT:SetT l T)(v:Value)(w:World)(h:Sl (· < w.heap.size) w 6 v (tuCs l))(hl:l.length<=1000000)(hok:∀ t∈l,t.Ok) :
  Calls Tryz.prog 16 #[v] w fun e w'=>∃ b,e = .returned (.pointer (some ⟨b,0,none⟩))/\BookAt w' b T/\Ext w w':=by
 refine(newBook_any l v w h hl hok).mono ?_;rintro e w' ⟨b,U,rfl,hU,hb,hx⟩;obtain rfl:=hT.uniq hU;exact⟨b,rfl,hb,hx⟩
theorem setT_any {l T:List Tup} (hT:SetT l T)(v:Value)(w:World)(h:Sl (· < w.heap.size) w 6 v (tuCs l))(hl:l.length<=100000)(hok:∀ t∈l,t.Ok) :
  Calls Tryz.prog 19 #[v] w fun e w'=>∃ v',e = .returned v'/\Sl (· < w'.heap.size) w' 6 v' (tuCs T)/\Ext w w':=by
 refine(set25_any v l w h hl hok).mono ?_;rintro e w' ⟨v',U,rfl,hU,hb,hx⟩;obtain rfl:=hT.uniq hU;exact⟨v',rfl,hb.slU,hx⟩
def WalkP (ts:List TyS)(T:List Tup)(shut:List R2)(p:P3)(most:Int)(ok long:Value)(ps:List P3)(fs:List FT)(ev:Value):Prop :=
 (∃ n,WalkEnd ts T shut p most n/\ps=(walkN ts T shut p n).1/\fs=(walkN ts T shut p n).2/\ev=ok)\/(WalkLong ts T shut p most/\ps=[]/\fs=[]/\ev=long)
theorem walkD_any (ts:List TyS)(tv:Value)(T:List Tup)(setv:Value)(shut:List R2)(sv:Value)(p:P3)(most:Int)(N:Nat)(w:World)(h:TysAt (· < w.heap.size) w ts tv)(hu:uniqOk ts=true)(hset:Sl (· < w.heap.size) w 6 setv (tuCs T))(hsv:Sl (· < w.heap.size) w 2 sv (shut.flatMap r2C))(hsl:shut.length<=1099511627776)(hin:WalkIn ts T shut p N) :
  Calls Tryz.prog 18 #[.agg #[tv],setv,sv,pV p,.int .i64 most] w (GSaid (WalkP ts T shut p most (.bool true) (.bool false)) w):=by
 refine(walk26_any ts tv T setv shut sv p most N w h hu hset hsv hsl hin).mono ?_;rintro e w' ⟨hx,⟨n,pv,fv,he,rfl,hg⟩ | ⟨hlong,rfl⟩⟩
 ·obtain⟨po,pc,fo,fc,rfl,rfl⟩:=hg.shape;exact⟨hx,_,_,po,pc,fo,fc,_,.inl ⟨n,he,rfl,rfl,rfl⟩,rfl,hg⟩
 ·exact⟨hx,[],[],none,0,none,0,_,.inr ⟨hlong,rfl,rfl,rfl⟩,rfl,GrAt.none _ _⟩
theorem walkB_any (ts:List TyS)(tv fv sv:Value)(p:P3)(mv:Value)(w:World)(h:TysAt (· < w.heap.size) w ts tv)(hok:∀ t∈ts,t.Ok)(hc:chk06 ts≠0)(hsB:schB ts<=549755813888)(hsz:∀ t∈ts,∀ r∈t.rels,r.2.sz<=1000000)(hln:(namesOf ts).length<=1099511627776)(hlr:(refsOf ts).length<=1099511627776) :
  Calls Tryz.prog 15 #[.agg #[tv],fv,sv,pV p,mv] w (GSaid (fun ps fs ev=>ps=[]/\fs=[]/\ev = .int .i64 (chk06 ts)) w):=by
 refine(walkE_any ts tv fv sv (pV p) mv w ⟨p,rfl⟩ h hok hc hsB hsz hln hlr).mono ?_;rintro e w' ⟨hx,rfl⟩;exact⟨hx,[],[],none,0,none,0,_,⟨rfl,rfl,rfl⟩,rfl,GrAt.none _ _⟩
structure AArg (w W:World)(bs bp:Nat)(ts:List TyS)(tv:Value)(l:List Tup)(lv:Value)(shut:List R2)(sv:Value)(p s:P3):Prop where
 X:Ext w W
 S:Blk W bs #[tv] 24
 P:Blk W bp (aC p s) 65
 Y:TysAt (· < W.heap.size) W ts tv
 L:Sl (· < W.heap.size) W 6 lv (tuCs l)
 V:Sl (· < W.heap.size) W 2 sv (shut.flatMap r2C)
theorem AArg.up {w W W':World} {bs bp:Nat} {ts:List TyS} {tv:Value} {l:List Tup} {lv:Value} {shut:List R2} {sv:Value} {p s:P3} (h:AArg w W bs bp ts tv l lv shut sv p s)(hx:Ext W W'):AArg w W' bs bp ts tv l lv shut sv p s :=
 ⟨Ext.trans h.X hx,h.S.below hx,h.P.below hx,h.Y.up hx,(h.L.same (Same.below hx)).mono fun _ hb=>Nat.lt_of_lt_of_le hb hx.size,(h.V.same (Same.below hx)).mono fun _ hb=>Nat.lt_of_lt_of_le hb hx.size⟩
set_option maxRecDepth 100000 in
set_option maxHeartbeats 2000000 in
theorem hasE_any (ts:List TyS)(tv fv:Value)(shut:List R2)(sv:Value)(p s:P3)(most:Int)(w:World)(h:TysAt (· < w.heap.size) w ts tv)(hok:∀ t∈ts,t.Ok)(hc:chk06 ts≠0)(hsB:schB ts<=549755813888)(hsz:∀ t∈ts,∀ r∈t.rels,r.2.sz<=1000000)(hln:(namesOf ts).length<=1099511627776)(hlr:(refsOf ts).length<=1099511627776) :
  Calls Tryz.prog 42 #[.agg #[tv],fv,sv,.agg (aC p s),.int .i64 most] w fun e w'=>e = .returned (.tuple #[.bool false,.int .i64 (chk06 ts)])/\Ext w w':=by
 obtain⟨aot,ct,rfl,-⟩:=h.rows;obtain⟨wa,hwa⟩:∃ x,x=w.alloc (.cells #[.slice aot ts.length ct] 24):=⟨_,rfl⟩;obtain⟨wb,hwb⟩:∃ x,x=wa.alloc (.cells (aC p s) 65):=⟨_,rfl⟩;have ea:wa.heap.size=w.heap.size+1:=by rw[hwa];simp
 have xa:Ext w wa:=by rw[hwa];exact Ext.alloc _ _
 have xb:Ext wa wb:=by rw[hwb];exact Ext.alloc _ _
 have XB:=h! (show Ext w wb from xa.trans xb);have BS:=h! (show Blk wb w.heap.size #[.slice aot ts.length ct] 24 from Blk.below (by rw[hwa];exact Blk.made _ _ _) xb);have BA:=h! (show Blk wb (w.heap.size+1) (aC p s) 65 from by rw[hwb,<- ea];exact Blk.made _ _ _);have HWK:=h! (walkB_any ts _ fv sv p (.int .i64 most) wb (h.up XB.out) hok hc hsB hsz hln hlr);obtain⟨q,hq,hq0⟩:∃ q:Int,Hid (chk06 ts=q)/\(q != 0)=true:=⟨_,h! rfl,by simpa using hc⟩;rw[hq.out]at HWK ⊢;have hS:=BS.out.cells;have hAc:=BA.out.cells;clear h hok hc hsB hsz hln hlr ea xa xb;unfold pV at HWK;unfold aC at *;subst hwb hwa;go_enter Tryz.func42,Tryz.ntmps42
 go_wp2_with fail
 refine HWK.out.mono ?_;rintro e w1 ⟨hx,ps,fs,po,pc,fo,fc,ev,⟨rfl,rfl,rfl⟩,rfl,-⟩;have X2:=h! (show Ext w (w1.alloc (.cells #[.slice none 0 0,.slice none 0 0] 37))from Ext.trans XB.out (Ext.trans hx (Ext.alloc _ _)));have X3:=h! (show Ext w (w1.alloc (.cells #[.slice po 0 pc,.slice fo 0 fc] 37))from Ext.trans XB.out (Ext.trans hx (Ext.alloc _ _)));clear hx HWK hS hAc;go_wp2_with fail
 go_ret2
 first | exact⟨rfl,X2.out⟩ | exact⟨rfl,X3.out⟩
set_option maxRecDepth 100000 in
set_option maxHeartbeats 4000000 in
theorem hasD27_any (ts:List TyS)(tv:Value)(l:List Tup)(lv:Value)(T:List Tup)(shut:List R2)(sv:Value)(p s:P3)(most:Int)(n:Nat)(w:World)(h:TysAt (· < w.heap.size) w ts tv)(hT:SetT l T)(hl:Sl (· < w.heap.size) w 6 lv (tuCs l))(hlo:∀ t∈l,t.Ok)(hll:l.length<=40)
  (hsv:Sl (· < w.heap.size) w 2 sv (shut.flatMap r2C)) (hsl:shut.length<=20) (hA:HasArg ts T shut p) (hwe:WalkEnd ts T shut p most n) :
  Calls Tryz.prog 31 #[.agg #[tv],lv,sv,.agg (aC p s)] w fun e w'=>(∃ b,e = .returned (.bool b)/\(b=true↔0<(solveR (walkN ts T shut p n).2 s n).getD 0 0))/\Ext w w':=by
 have HST:=h! hT;have HLO:=h! hlo;have HLL:=h! hll;have HSL:=h! hsl;have HHA:=h! hA;have HCK:=h! hA.chk;have HE:=h! hwe;obtain⟨aot,ct,rfl,-,-,-⟩:=h.rows;obtain⟨aos,cs,rfl,-⟩:=Sl.rows r2C_length (by decide) hsv;obtain⟨wa,hwa⟩:∃ x,x=w.alloc (.cells #[.slice aot ts.length ct] 24):=⟨_,rfl⟩;obtain⟨wb,hwb⟩:∃ x,x=wa.alloc (.cells (aC p s) 65):=⟨_,rfl⟩;have ea:wa.heap.size=w.heap.size+1:=by rw[hwa];simp
 have xa:Ext w wa:=by rw[hwa];exact Ext.alloc _ _
 have xb:Ext wa wb:=by rw[hwb];exact Ext.alloc _ _
 have xx:=xa.trans xb
 have HW:=h! (show AArg w wb w.heap.size (w.heap.size+1) ts (.slice aot ts.length ct) l lv shut (.slice aos shut.length cs) p s from
  ⟨xx,Blk.below (by rw[hwa];exact Blk.made _ _ _) xb,by rw[hwb,<- ea];exact Blk.made _ _ _,h.up xx,(hl.same (Same.below xx)).mono fun _ hb=>Nat.lt_of_lt_of_le hb xx.size,(hsv.same (Same.below xx)).mono fun _ hb=>Nat.lt_of_lt_of_le hb xx.size⟩)
 clear h hT hlo hll hsl hA hwe hl hsv ea xa xb xx;subst hwa;unfold aC;go_enter Tryz.func31,Tryz.ntmps31
 go_wp2_with fail
 rw[show(#[Value.string p.t,.string p.i,.string p.r,.string s.t,.string s.i,.string s.r]:Array Value)=aC p s from rfl];rw[<- hwb];clear hwb;obtain⟨wd,hwd⟩:∃ wd,Hid (wd=wb.drew):=⟨_,h! rfl⟩;have hxd:=h! (show Ext wb wd from by rw[hwd.out];exact Ext.drew _);apply Code.wp_mono (Q:=JoinG (β:=Value) wd (WalkP ts T shut p 1073741824 (.bool true) (.bool false)) _) ?rest1 ?reg1
 case reg1 =>
  have hE:=h! (Ext.refl wd);refine region_walkN (Ext wd) (by rw[<- hwd.out];exact Ext.refl _) (by kernel_rfl) (by kernel_rfl) (fun _ _ d _ _ h=>by cases h.1) ?_;rw[<- hwd.out];have hs:∀ W,Ext wd W->∀ i,W.cell? ⟨w.heap.size,i,none⟩=(#[.slice aot ts.length ct]:Array Value)[i]?:=fun W h=>((HW.out.up hxd.out).S.below h).cells;have hp:∀ W,Ext wd W->∀ i,W.cell? ⟨w.heap.size+1,i,none⟩=(aC p s)[i]?:=fun W h=>((HW.out.up hxd.out).P.below h).cells;have HNB:=h! (fun W (hW:Ext wd W)=>setT_any HST.out lv W ((HW.out.up hxd.out).up hW).L (by have:=HLL.out;omega) HLO.out);have HWK:=h! (fun W b (hW:Ext wd W) (hB:Sl (· < W.heap.size) W 6 b (tuCs T))=>walkD_any ts _ T b shut _ p 1073741824 1000000 W ((HW.out.up hxd.out).up hW).Y (chk_uniq HCK.out) hB ((HW.out.up hxd.out).up hW).V (by have:=HSL.out;omega) HHA.out.wk);unfold aC at hp;unfold pV at HWK;(refine WalkN.tk [0,1,3,4,5] ?_;(iterate 5 ((refine TkN.c _ ?_ (by simp only[gA,gS,gZ];rfl) (by kernel_rfl) (by kernel_rfl) (by rfl) (fun W hW=>?_) ?_;rotate_left;· (go_simp;try with_reducible rfl));simp only[Act.put,pA,pZ,pS]));refine TkN.n ?_)
  clear hs hp;refine WalkN.two 2 10 (by kernel_rfl) ?_ ?_;refine⟨_,(by simp only[gA,gS,gZ];rfl),by rfl,fun K hK=>?_⟩;go_simp;refine(HNB.out wd hE.out).mono ?_;rintro e u1 ⟨bk,rfl,hB0,hx0⟩;have hX0:=Ext.trans hE.out hx0;refine hK.out _ _ hX0 ?_;clear hK;have HBK:=h! hB0;have hE:=h! hX0;clear hx0 hX0 hB0;refine WalkN.two 6 10 (by kernel_rfl) ?_ ?_;refine⟨_,(by simp only[gA,gS,gZ];rfl),by rfl,fun K hK=>?_⟩;go_simp;refine(HWK.out u1 bk hE.out HBK.out).mono ?_;rintro e u2 ⟨hx1,ps,fs,po,pc,fo,fc,ev,hP1,rfl,hG1⟩;have hX1:=Ext.trans hE.out hx1;refine hK.out _ _ hX1 ?_;clear hK;have HR:=h! (show GrAt (fun x=>wd.heap.size<=x/\x<u2.heap.size) u2 ps fs (.slice po ps.length pc) (.slice fo fs.length fc)from hG1.mono fun x hx=>⟨Nat.le_trans hE.out.size hx.1,hx.2⟩);have HP:=h! hP1;have HBK:=h! ((HBK.out.same (Same.below hx1)).mono fun x hx=>Nat.lt_of_lt_of_le hx hx1.size);have hE:=h! hX1;clear hx1 hX1 hP1 hG1;((refine WalkN.take 7 _ ?_ (by simp only[gA,gS,gZ];rfl) (by kernel_rfl) (by kernel_rfl) (by rfl) (fun W hW=>?_) ?_;rotate_left;· (go_simp;try with_reducible rfl));simp only[Act.put,pA,pZ,pS])
  ((refine WalkN.take 8 _ ?_ (by simp only[gA,gS,gZ];rfl) (by kernel_rfl) (by kernel_rfl) (by rfl) (fun W hW=>?_) ?_;rotate_left;· (go_simp;try with_reducible rfl));simp only[Act.put,pA,pZ,pS])
  ((refine WalkN.take 9 _ ?_ (by simp only[gA,gS,gZ];rfl) (by kernel_rfl) (by kernel_rfl) (by rfl) (fun W hW=>?_) ?_;rotate_left;· (go_simp;try with_reducible rfl));simp only[Act.put,pA,pZ,pS])
  refine WalkN.one 10 (by kernel_rfl) ?_;refine⟨_,(by simp only[gA,gS,gZ];rfl),by rfl,fun K hK=>?_⟩;go_simp;obtain⟨bg,hbg⟩:∃ x,x=u2.heap.size:=⟨_,rfl⟩;rw[<- hbg];have hA2:=Ext.alloc u2 (.cells #[.slice none 0 0,.slice none 0 0] 37);have hO2:Blk (u2.alloc (.cells #[.slice none 0 0,.slice none 0 0] 37)) bg #[.slice none 0 0,.slice none 0 0] 37:=by rw[hbg];exact Blk.made _ _ _
  have hX2:=Ext.trans hE.out hA2;have HBG:=h! (show wd.heap.size<=bg from by have:=hE.out.size;omega);have HBK:=h! ((HBK.out.same (Same.below hA2)).mono fun x hx=>Nat.lt_of_lt_of_le hx hA2.size);have HR:=h! (show GrAt (fun x=>x≠bg/\wd.heap.size<=x/\x<(u2.alloc (.cells #[.slice none 0 0,.slice none 0 0] 37)).heap.size) (u2.alloc (.cells #[.slice none 0 0,.slice none 0 0] 37)) ps fs (.slice po ps.length pc) (.slice fo fs.length fc)from(HR.out.same fun x hx=>hA2.block x hx.2).mono fun x hx=>⟨fun e=>by have:=hx.2;omega,hx.1,Nat.lt_of_lt_of_le hx.2 hA2.size⟩);refine hK.out _ _ hX2 ?_;clear hK hbg hA2;generalize u2.alloc (.cells #[.slice none 0 0,.slice none 0 0] 37)=u3 at *;have hE:=h! hX2;have HG:=h! hO2;clear hO2 hX2;rotate_left
  refine⟨_,(by simp only[gA,gS,gZ];rfl),by rfl,fun K hK=>?_⟩;go_simp;obtain⟨bg,hbg⟩:∃ x,x=u1.heap.size:=⟨_,rfl⟩;rw[<- hbg];have hA1:=Ext.alloc u1 (.cells #[.slice none 0 0,.slice none 0 0] 37);have hO1:Blk (u1.alloc (.cells #[.slice none 0 0,.slice none 0 0] 37)) bg #[.slice none 0 0,.slice none 0 0] 37:=by rw[hbg];exact Blk.made _ _ _
  have hX1:=Ext.trans hE.out hA1;have HBG:=h! (show wd.heap.size<=bg from by have:=hE.out.size;omega);have HBK:=h! ((HBK.out.same (Same.below hA1)).mono fun x hx=>Nat.lt_of_lt_of_le hx hA1.size);refine hK.out _ _ hX1 ?_;clear hK hbg hA1;generalize u1.alloc (.cells #[.slice none 0 0,.slice none 0 0] 37)=u2 at *;have hE:=h! hX1;have HG:=h! hO1;clear hO1 hX1;refine WalkN.one 6 (by kernel_rfl) ?_;refine⟨_,(by simp only[gA,gS,gZ];rfl),by rfl,fun K hK=>?_⟩;go_simp;refine(HWK.out u2 bk hE.out HBK.out).mono ?_;rintro e u3 ⟨hx2,ps,fs,po,pc,fo,fc,ev,hP2,rfl,hG2⟩;have hX2:=Ext.trans hE.out hx2;refine hK.out _ _ hX2 ?_;clear hK;have HR:=h! (show GrAt (fun x=>x≠bg/\wd.heap.size<=x/\x<u3.heap.size) u3 ps fs (.slice po ps.length pc) (.slice fo fs.length fc)from hG2.mono fun x hx=>⟨fun e=>by have:=HG.out.lt;have:=hx.1;omega,Nat.le_trans hE.out.size hx.1,hx.2⟩);have HG:=h! (HG.out.below hx2);have HP:=h! hP2;have HBK:=h! ((HBK.out.same (Same.below hx2)).mono fun x hx=>Nat.lt_of_lt_of_le hx hx2.size);have hE:=h! hX2;clear hx2 hX2 hP2 hG2;((refine WalkN.take 7 _ ?_ (by simp only[gA,gS,gZ];rfl) (by kernel_rfl) (by kernel_rfl) (by rfl) (fun W hW=>?_) ?_;rotate_left;· (go_simp;try with_reducible rfl));simp only[Act.put,pA,pZ,pS])
  ((refine WalkN.take 8 _ ?_ (by simp only[gA,gS,gZ];rfl) (by kernel_rfl) (by kernel_rfl) (by rfl) (fun W hW=>?_) ?_;rotate_left;· (go_simp;try with_reducible rfl));simp only[Act.put,pA,pZ,pS])
  ((refine WalkN.take 9 _ ?_ (by simp only[gA,gS,gZ];rfl) (by kernel_rfl) (by kernel_rfl) (by rfl) (fun W hW=>?_) ?_;rotate_left;· (go_simp;try with_reducible rfl));simp only[Act.put,pA,pZ,pS])
  rotate_left
  refine⟨_,(by simp only[gA,gS,gZ];rfl),by rfl,fun K hK=>?_⟩;go_simp;obtain⟨bg,hbg⟩:∃ x,x=wd.heap.size:=⟨_,rfl⟩;rw[<- hbg];have hA0:=Ext.alloc wd (.cells #[.slice none 0 0,.slice none 0 0] 37);have hO0:Blk (wd.alloc (.cells #[.slice none 0 0,.slice none 0 0] 37)) bg #[.slice none 0 0,.slice none 0 0] 37:=by rw[hbg];exact Blk.made _ _ _
  have hX0:=Ext.trans hE.out hA0;have HBG:=h! (show wd.heap.size<=bg from by have:=hE.out.size;omega);refine hK.out _ _ hX0 ?_;clear hK hbg hA0;generalize wd.alloc (.cells #[.slice none 0 0,.slice none 0 0] 37)=u1 at *;have hE:=h! hX0;have HG:=h! hO0;clear hO0 hX0;refine WalkN.one 2 (by kernel_rfl) ?_;refine⟨_,(by simp only[gA,gS,gZ];rfl),by rfl,fun K hK=>?_⟩;go_simp;refine(HNB.out u1 hE.out).mono ?_;rintro e u2 ⟨bk,rfl,hB1,hx1⟩;have hX1:=Ext.trans hE.out hx1;refine hK.out _ _ hX1 ?_;clear hK;have HBK:=h! hB1;have HG:=h! (HG.out.below hx1);have hE:=h! hX1;clear hx1 hX1 hB1;refine WalkN.one 6 (by kernel_rfl) ?_;refine⟨_,(by simp only[gA,gS,gZ];rfl),by rfl,fun K hK=>?_⟩;go_simp;refine(HWK.out u2 bk hE.out HBK.out).mono ?_;rintro e u3 ⟨hx2,ps,fs,po,pc,fo,fc,ev,hP2,rfl,hG2⟩;have hX2:=Ext.trans hE.out hx2;refine hK.out _ _ hX2 ?_;clear hK;have HR:=h! (show GrAt (fun x=>x≠bg/\wd.heap.size<=x/\x<u3.heap.size) u3 ps fs (.slice po ps.length pc) (.slice fo fs.length fc)from hG2.mono fun x hx=>⟨fun e=>by have:=HG.out.lt;have:=hx.1;omega,Nat.le_trans hE.out.size hx.1,hx.2⟩);have HG:=h! (HG.out.below hx2);have HP:=h! hP2;have HBK:=h! ((HBK.out.same (Same.below hx2)).mono fun x hx=>Nat.lt_of_lt_of_le hx hx2.size);have hE:=h! hX2;clear hx2 hX2 hP2 hG2;((refine WalkN.take 7 _ ?_ (by simp only[gA,gS,gZ];rfl) (by kernel_rfl) (by kernel_rfl) (by rfl) (fun W hW=>?_) ?_;rotate_left;· (go_simp;try with_reducible rfl));simp only[Act.put,pA,pZ,pS])
  ((refine WalkN.take 8 _ ?_ (by simp only[gA,gS,gZ];rfl) (by kernel_rfl) (by kernel_rfl) (by rfl) (fun W hW=>?_) ?_;rotate_left;· (go_simp;try with_reducible rfl));simp only[Act.put,pA,pZ,pS])
  ((refine WalkN.take 9 _ ?_ (by simp only[gA,gS,gZ];rfl) (by kernel_rfl) (by kernel_rfl) (by rfl) (fun W hW=>?_) ?_;rotate_left;· (go_simp;try with_reducible rfl));simp only[Act.put,pA,pZ,pS])
  rotate_left
  all_goals
   refine WalkN.one 11 (by kernel_rfl) ?_;refine⟨_,(by simp only[gA,gS,gZ];rfl),by rfl,fun K hK=>?_⟩;have hg:=HG.out.cells;have hf:=HG.out.free;go_simp;have hS3:=(HG.out.set_to (cs':=#[.slice po ps.length pc,.slice none 0 0]) 0 (.slice po ps.length pc) rfl).set_to (cs':=#[.slice po ps.length pc,.slice fo fs.length fc]) 1 (.slice fo fs.length fc) rfl;have hX3:Ext wd ((u3.setCell ⟨bg,0,none⟩ (.slice po ps.length pc)).setCell ⟨bg,1,none⟩ (.slice fo fs.length fc)):=Below.setCell (Below.setCell hE.out (p:=⟨bg,0,none⟩) HBG.out _) (p:=⟨bg,1,none⟩) HBG.out _;have hR3:=(HR.out.same (w':=((u3.setCell ⟨bg,0,none⟩ (.slice po ps.length pc)).setCell ⟨bg,1,none⟩ (.slice fo fs.length fc))) fun x hx=>by rw[Below.heap_setCell _ _ _ x hx.1,Below.heap_setCell _ _ _ x hx.1]).mono (T:=fun x=>x≠bg/\wd.heap.size<=x/\x<((u3.setCell ⟨bg,0,none⟩ (.slice po ps.length pc)).setCell ⟨bg,1,none⟩ (.slice fo fs.length fc)).heap.size) fun x hx=>⟨hx.1,hx.2.1,by simpa using hx.2.2⟩;refine hK.out _ _ hX3 ?_;clear hK hg hf;generalize (u3.setCell ⟨bg,0,none⟩ (.slice po ps.length pc)).setCell ⟨bg,1,none⟩ (.slice fo fs.length fc)=u4 at *;((refine WalkN.take 12 _ ?_ (by simp only[gA,gS,gZ];rfl) (by kernel_rfl) (by kernel_rfl) (by rfl) (fun W hW=>?_) ?_;rotate_left;· (go_simp;try with_reducible rfl));simp only[Act.put,pA,pZ,pS])
   refine WalkN.done (by kernel_rfl) ?_;exact⟨rfl,bk,bg,po,pc,fo,fc,ps,fs,ev,rfl,HP.out,hX3,HBG.out,hS3,hR3⟩
 rintro e _ W1 ⟨rfl,bk1,bg1,po1,pc1,fo1,fc1,ps1,fs1,ev1,rfl,hP,hX,hbg,hblk,hgr⟩;dsimp only;have HW:=h! ((HW.out.up hxd.out).up hX);have HN:=h! (show(walkN ts T shut p n).1.length<=1000000 from HHA.out.wk.few n);rcases hP with⟨n2,he,rfl,rfl,rfl⟩ | ⟨hlong,-⟩
 case inr=>exact absurd hlong (HE.out.more (by have:=HN.out;omega)).notLong
 obtain rfl:=HE.out.uniq he;clear he;have HL:=h! (show(walkN ts T shut p n).1.length=n from HE.out.2.symm);have HFL:=h! (show(walkN ts T shut p n).2.length=n from walkN_forms ts T shut p n);rw[HL.out]at HN
 have HPO:=h! (show 0<n from by
  have h2:=HE.out.2;have:=walk_mono ts T shut p (Nat.zero_le n);rw[<- h2,walkN]at this;simp at this;omega)
 rw[HL.out,HFL.out]at hblk hgr;generalize (walkN ts T shut p n).1=ps at *;generalize hfs:(walkN ts T shut p n).2=fs at *;have HFS:=h! hfs;clear hfs;have HSV:=h! (solve27_any s ps fs (.slice po1 n pc1) (.slice fo1 n fc1) W1 (hgr.mono fun b hb=>hb.2.2) (by rw[HL.out];exact HN.out));have hG:=hblk.cells;have hB2:=HW.out.P.cells;clear hgr hX hxd hwd hbg;unfold pV at HSV;unfold aC at hB2;go_wp2_with fail
 clear hG hB2 hblk;refine HSV.out.mono ?_;rintro e w3 ⟨⟨v,rfl,ho⟩,hb3⟩;have X3:=h! (show Ext w w3 from Ext.trans HW.out.X hb3);have HLN:=h! (show(solveR fs s n).length=n from outN_length n);rw[HL.out]at ho
 obtain⟨g,c3,cs3,rfl,-,hB,-,-,hcs⟩:=ho.lay (by
  intro e;have:=congrArg List.length e;rw[ic_length,HLN.out,List.length_nil]at this;have:=HPO.out;omega)
 have c0:w3.cell? ⟨g,0,none⟩=some (.int .i64 ((solveR fs s n).getD 0 0)):=by
  have h1:0<(ic (solveR fs s n)).length:=by rw[ic_length,HLN.out];exact HPO.out
  rw[hB.cells 0,hcs 0 h1];simp only[ic,List.getElem_map];rw[List.getD_eq_getElem?_getD,List.getElem?_eq_getElem (by rw[HLN.out];exact HPO.out)];rfl
 have hni:(0:Int)<(((ic (solveR fs s n)).length:Nat):Int):=by rw[ic_length,HLN.out];have:=HPO.out;omega
 have hni2:0<(ic (solveR fs s n)).length:=by omega
 clear hb3 ho hB hcs HSV;generalize (ic (solveR fs s n)).length=m at *;obtain⟨z,hz⟩:∃ z,Hid ((solveR fs s n).getD 0 0=z):=⟨_,h! rfl⟩;rw[hz.out]at c0;go_wp2_with fail
 go_ret
 refine⟨⟨_,rfl,?_⟩,X3.out⟩;rw[HFS.out,hz.out];simp
end Go.Proofs.YtjdigpfipmckhaaGreat
