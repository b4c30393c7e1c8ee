/- Lemmas for the claim, no condition. -/
import Derived.Test.YtlhaghoajpglaaaGreatYLkObj15
import Derived.Test.YtlhaghoajpglaaaGreatYLkObj4
set_option maxRecDepth 100000
set_option maxHeartbeats 8000000
namespace Go.Proofs.YtlhaghoajpglaaaGreat
open Go Go.Maps Go.RowKit Go.Proofs.Tryz
def prtL (t:Tup):List ByteArray:=[t.o.t,t.o.i,t.o.r,t.s.t,t.s.i,t.s.r]
def cmpL:List ByteArray->List ByteArray->Int
 | a::l,b::m=>if ltS a b then -1 else if ltS b a then 1 else cmpL l m
 | [],_=>0
 | _::_,[]=>0
theorem bO! {a b:ByteArray}(l m:List ByteArray)(h:a≠b):cmpL (a::l) (b::m)=if ltS a b then -1 else 1:=by
 rw[cmpL];cases h1:ltS a b with
 | true=>rfl
 | false=>rw[by! h1 h];rfl
theorem bP! (a:ByteArray)(l m:List ByteArray):cmpL (a::l) (a::m)=cmpL l m:=by
 rw[cmpL,bU!];rfl
theorem pn! (a b:Tup):cmpL (prtL a) (prtL b)=cmpT a b:=by
 obtain⟨⟨a1,a2,a3⟩,⟨a4,a5,a6⟩⟩:=a;obtain⟨⟨b1,b2,b3⟩,⟨b4,b5,b6⟩⟩:=b;unfold cmpT prtL;dsimp only;by_cases h1:a1=b1
 ·subst h1;rw[bP!];by_cases h2:a2=b2
  ·subst h2;rw[bP!];by_cases h3:a3=b3
   ·subst h3;rw[bP!];by_cases h4:a4=b4
    ·subst h4;rw[bP!];by_cases h5:a5=b5
     ·subst h5;rw[bP!];by_cases h6:a6=b6
      ·subst h6;rw[bP!];simp[cmpL,ltT,cD!]
      ·rw[bO! _ _ h6];simp[ltT,ltP,h6]
     ·rw[bO! _ _ h5];simp[ltT,ltP,h5]
    ·rw[bO! _ _ h4];simp[ltT,ltP,h4]
   ·rw[bO! _ _ h3];simp[ltT,ltP,h3]
  ·rw[bO! _ _ h2];simp[ltT,ltP,h2]
 ·rw[bO! _ _ h1];simp[ltT,ltP,h1]
theorem pe! {x y:ByteArray}(h:ltS x y=false):(!Op.bytesLess x.toList y.toList&&!x.toList == y.toList)=ltS y x:=by
 rw[show Op.bytesLess x.toList y.toList=false from h];by_cases e:x=y
 ·subst e;rw[bU!];simp
 ·have hn:=aH! e;rw[<-u5!,<-u5!]at hn;rw[hn,by! h e];rfl
theorem ma! (l m:List ByteArray) {i:Nat}(h:i<l.length)(k:i<m.length):cmpL (l.drop i) (m.drop i)=if ltS l[i] m[i]then -1 else if ltS m[i] l[i]then 1 else cmpL (l.drop (i+1)) (m.drop (i+1)):=by
 rw[List.drop_eq_getElem_cons h,List.drop_eq_getElem_cons k,cmpL]
theorem md! (a b:Tup)(w:World):Calls prog 109 #[tV a,tV b] w fun e w'=>e= .returned (.int .i64 (cmpT a b))/\Below w.heap.size w w':=by
 have HC:=h! (pn! a b);have u:=h! (fun W=>dk! a W);have p:=h! (fun W=>dk! b W);have m:Hid (prtL a=[a.o.t,a.o.i,a.o.r,a.s.t,a.s.i,a.s.r]):=h! rfl;have l:Hid (prtL b=[b.o.t,b.o.i,b.o.r,b.s.t,b.s.i,b.s.r]):=h! rfl;generalize hpa:prtL a=pa at *;generalize hpb:prtL b=pb at *;generalize cmpT a b=cv at *;obtain⟨⟨Y,U,a3⟩,⟨a4,a5,a6⟩⟩:=a;obtain⟨⟨V,Z,b3⟩,⟨Q,b5,T⟩⟩:=b;clear hpa hpb;unfold tV at u p ⊢;dsimp only at u p m l ⊢;have x1:=Ext.alloc w (.cells #[.string Y,.string U,.string a3,.string a4,.string a5,.string a6] 67);have x2:=Ext.alloc (w.alloc (.cells #[.string Y,.string U,.string a3,.string a4,.string a5,.string a6] 67)) (.cells #[.string V,.string Z,.string b3,.string Q,.string b5,.string T] 67);have bA:=(Blk.made w #[.string Y,.string U,.string a3,.string a4,.string a5,.string a6] 67).below x2;have bB:=Blk.made' (w:=w.alloc (.cells #[.string Y,.string U,.string a3,.string a4,.string a5,.string a6] 67)) (B:=w.heap.size+1) (by simp) #[.string V,.string Z,.string b3,.string Q,.string b5,.string T] 67;have HX:Hid (Ext w ((w.alloc (.cells #[.string Y,.string U,.string a3,.string a4,.string a5,.string a6] 67)).alloc (.cells #[.string V,.string Z,.string b3,.string Q,.string b5,.string T] 67))):=h! (x1.trans x2);have L:=h! bA;have M:=h! bB;clear x1 x2 bA bB;go_enter func109,ntmps109
 go_wp2_with fail
 obtain⟨wd,j⟩:=e! (World.drew ((w.alloc (.cells #[.string Y,.string U,.string a3,.string a4,.string a5,.string a6] 67)).alloc (.cells #[.string V,.string Z,.string b3,.string Q,.string b5,.string T] 67)));have DX:=h! (show Ext w wd from by rw[j];exact HX.out.trans (Ext.drew _));have DA:=h! (show Blk wd w.heap.size #[.string Y,.string U,.string a3,.string a4,.string a5,.string a6] 67 from by rw[j];exact L.out.drew);have DB:=h! (show Blk wd (w.heap.size+1) #[.string V,.string Z,.string b3,.string Q,.string b5,.string T] 67 from by rw[j];exact M.out.drew);refine re! j ?_;clear j HX L M;have h1:=fun W (h:Ext wd W)=>(DA.out.below h).cells;have h2:=fun W (h:Ext wd W)=>(DB.out.below h).cells;(refine WalkN.tk [0,2] ?_;(iterate 2 (refine c! ?_));refine TkN.n ?_)
 clear h1 h2;refine ob! 1 ?_;intro K hK;go_simp;refine(u.out _).mono ?_;rintro e w3 ⟨rfl,G,v⟩;refine hK.out _ _ v ?_;clear hK u;refine ob! 3 ?_;intro K hK;go_simp;refine(p.out _).mono ?_;rintro e w4 ⟨rfl,H,q⟩;refine hK.out _ _ (Ext.trans v q) ?_;clear hK p;(refine WalkN.tk [4,5] ?_;(iterate 2 (refine c! ?_));refine TkN.n ?_)
 refine d! ?_
 have HA:=h! (show ∀(i:Nat) (R:i<pa.length) W,Ext w4 W->W.cell? ⟨wd.heap.size+1,i,none⟩=some (.string pa[i])from fun i R W hW=>by
  have h:=((G.below q).below hW).cells i;have hp:=m.out;subst hp;match i,R with
  | 0,_=>exact h
  | 1,_=>exact h
  | 2,_=>exact h
  | 3,_=>exact h
  | 4,_=>exact h
  | 5,_=>exact h)
 have HB:=h! (show ∀(i:Nat) (R:i<pb.length) W,Ext w4 W->W.cell? ⟨w3.heap.size+1,i,none⟩=some (.string pb[i])from fun i R W hW=>by
  have h:=(H.below hW).cells i;have hp:=l.out;subst hp;match i,R with
  | 0,_=>exact h
  | 1,_=>exact h
  | 2,_=>exact h
  | 3,_=>exact h
  | 4,_=>exact h
  | 5,_=>exact h)
 have H6:=h! (show pa.length=6/\pb.length=6 from⟨by rw[m.out];rfl,by rw[l.out];rfl⟩);have D:Hid (Ext w w4):=h! (DX.out.trans (Ext.trans v q));clear G v H q m l DX DA DB;generalize wd.heap.size+1=ba at *;generalize w3.heap.size+1=bb at *;go_wp2_with fail
 go_loopw [14] (fun ii wr=>∃i:Nat,i<=6/\ii= .int .i64 i/\cmpL (pa.drop i) (pb.drop i)=cv/\Ext w4 wr) (fun ii _=>6-(intOf ii).toNat)
 case atStart=>exact⟨0,by omega,rfl,by rw[List.drop_zero,List.drop_zero];exact HC.out,Ext.refl _⟩
 case round =>
  obtain⟨i,R,rfl,J,I⟩:=hrel;have N:=h! I;have k:=h! J;clear I J HC;by_cases hlt:i<6
  ·have hpa:i<pa.length:=by rw[H6.out.1];exact hlt
   have hpb:i<pb.length:=by rw[H6.out.2];exact hlt
   have z:=h! (ma! pa pb hpa hpb);have O:=h! (HA.out i hpa);have F:=h! (HB.out i hpb);generalize pa[i]=x at *;generalize pb[i]=y at *;have E:=h! hlt;have a0:(i:Int)<6:=by omega
   clear hpa hpb hlt;go_wp2_with fail
   obtain⟨X,A⟩:=e! (World.drew wr);have QX:=h! (show Ext w4 X from by rw[A];exact N.out.trans (Ext.drew _));refine re! A ?_;clear A;have h1:=fun W (h:Ext X W)=>O.out W (QX.out.trans h);have h2:=fun W (h:Ext X W)=>F.out W (QX.out.trans h);(refine WalkN.tk [0,1,2,3,4,5,6,7,8] ?_;(iterate 9 (refine c! ?_));refine TkN.n ?_)
   refine d! ?_;clear h1 h2;rcases hxy:ltS x y with _ | _
   ·have f:Op.bytesLess x.toList y.toList=false:=hxy;rw[f];go_wp2_with fail
    clear f;obtain⟨wp,C⟩:=e! (World.drew X);have PX:=h! (show Ext w4 wp from by rw[C];exact QX.out.trans (Ext.drew _));refine re! C ?_;clear C;have h1:=fun W (h:Ext wp W)=>O.out W (PX.out.trans h);have h2:=fun W (h:Ext wp W)=>F.out W (PX.out.trans h);(refine WalkN.tk [0,1,2,3,4,5,6,7,8] ?_;(iterate 9 (refine c! ?_));refine TkN.n ?_)
    refine d! ?_;clear h1 h2;rcases hyx:ltS y x with _ | _
    ·have f:(!Op.bytesLess x.toList y.toList&&!x.toList == y.toList)=false:=(pe! hxy).trans hyx
     have g:=h! (show cmpL (pa.drop (i+1)) (pb.drop (i+1))=cv from by
      have h1:=z.out;rw[hxy,hyx]at h1;rw[<-k.out,h1];rfl)
     rw[f];clear f hxy hyx;go_wp2_with fail
     go_roundw
     case rel=>exact⟨i+1,E.out,by go_num,g.out,PX.out⟩
     case measure=>have:=E.out;simp[intOf];omega
    ·have f:(!Op.bytesLess x.toList y.toList&&!x.toList == y.toList)=true:=(pe! hxy).trans hyx
     have g:=h! (show cv=1 from by
      have h1:=z.out;rw[hxy,hyx]at h1;rw[<-k.out,h1];rfl)
     rw[f];clear f hxy hyx;go_wp2_with fail
     go_ret
     exact⟨by rw[g.out];rfl,D.out.trans PX.out⟩
   ·have f:Op.bytesLess x.toList y.toList=true:=hxy
    have g:=h! (show cv = -1 from by
     have h1:=z.out;rw[hxy]at h1;rw[<-k.out,h1];rfl)
    rw[f];clear f hxy;go_wp2_with fail
    go_ret
    exact⟨by rw[g.out];rfl,D.out.trans QX.out⟩
  ·obtain rfl:i=6:=by omega
   have g:=h! (show cv=0 from by
    have h1:=k.out;rw[List.drop_of_length_le (by rw[H6.out.1];omega),List.drop_of_length_le (by rw[H6.out.2];omega)]at h1;rw[<-h1];rfl)
   clear hlt;go_wp2_with fail
   go_ret
   exact⟨by rw[g.out];rfl,D.out.trans N.out⟩
theorem ey! (l:List Tup)(k:Nat):(tuCs l).drop (k*6)=tuCs (l.drop k):=by
 induction k generalizing l with
 | zero=>simp[tuCs]
 | succ k ih =>
  cases l with
  | nil=>simp[tuCs]
  | cons a l =>
   rw[List.drop_succ_cons,show tuCs (a::l)=tuC a++tuCs l from rfl,<-ih l];rw[show(k+1)*6=6+k*6 from by omega,List.drop_append,List.drop_eq_nil_of_le (by rw[at!];omega),at!,Nat.add_sub_cancel_left,y2!]
theorem bu! (l:List Tup):∀u∈tuCs l,u.oneCell'=true:=by
 intro u hu;obtain⟨a,_,ha⟩:=List.mem_flatMap.1 hu;exact mm! a u ha
theorem od! (a b:Tup):decide (cmpT a b<0)=ltT a b:=by
 unfold cmpT;cases h:ltT a b with
 | true=>simp
 | false =>
  simp only[Bool.false_eq_true,if_false];split <;> simp
def insT (q:List Tup)(k:Nat)(p:Tup):List Tup:=q.take k++[p]++q.drop k
theorem jM! (q:List Tup)(k:Nat)(p x:Tup):x∈insT q k p↔x∈q\/x=p:=by
 unfold insT;conv=>rhs;rw[<-x6! k q]
 simp only[u3!,n9!];constructor
 ·rintro((h | h) | h)
  ·exact .inl (.inl h)
  ·exact .inr h
  ·exact .inl (.inr h)
 ·rintro((h | h) | h)
  ·exact .inl (.inl h)
  ·exact .inr h
  ·exact .inl (.inr h)
theorem mA! {q:List Tup}{k:Nat}{p:Tup}(hq:UpT q)(h1:∀j (hj:j<q.length),j<k->ltT q[j] p=true)(h2:∀hk:k<q.length,ltT p q[k]=true):UpT (insT q k p):=by
 have hq':(q.take k++q.drop k).Pairwise fun a b=>ltT a b=true:=by rw[x6!];exact hq
 obtain⟨ha,hb,a2⟩:=List.pairwise_append.1 hq'
 have a1:∀x∈q.take k,ltT x p=true:=fun x hx=>by
  obtain⟨j,hj,rfl⟩:=u0! hx;rw[x4!]at hj;rw[List.getElem_take];exact h1 j (by omega) (by omega)
 have a0:∀x∈q.drop k,ltT p x=true:=fun x hx=>by
  obtain⟨j,hj,rfl⟩:=u0! hx;rw[List.length_drop]at hj;rw[List.getElem_drop];have hk:k<q.length:=by omega
  rcases Nat.eq_zero_or_pos j with rfl | hj0
  ·exact h2 hk
  ·exact dm! (h2 hk) ((x3!.1 hq) k (k+j) hk (by omega) (by omega))
 unfold insT UpT;rw[y6!,List.pairwise_append];refine⟨ha,?_,fun x hx y hy=>?_⟩
 ·rw[List.singleton_append,List.pairwise_cons];exact⟨a0,hb⟩
 ·rcases u3!.1 hy with hy | hy
  ·obtain rfl:y=p:=by simpa using hy
   exact a1 x hx
  ·exact a2 x hx y hy
theorem cX! (q:List Tup)(k:Nat)(p:Tup):(insT q k p).length=q.length+1:=by
 unfold insT;have:=congrArg List.length (x6! k q);simp only[u4!,List.length_singleton]at this ⊢;omega
theorem lb! (v:Value)(l:List Tup)(w:World)(h:Sl (· < w.heap.size) w 6 v (tuCs l))(hl:l.length<=100000)(hok:∀t∈l,t.Ok):Calls prog 50 #[v] w fun e w'=>∃(v':Value)(l':List Tup),e= .returned v'/\SetT l l'/\Own w' w.heap.size 67 6 v' (tuCs l')/\Below w.heap.size w w':=by
 obtain⟨ao,c,rfl,b4,aZ,a0⟩:=Sl.rows at! (by decide) (show Sl _ w 6 v (List.flatMap tuC l)from h);have HC:=h! a0;have HL:=h! hl;have aU:=h! hok;clear a0 h hl hok;go_enter func50,ntmps50
 go_wp2_with fail
 go_loopw [3,9] (fun vv ii wr=>∃(i:Nat) (q:List Tup),i<=l.length/\ii= .int .i64 i/\Own wr w.heap.size 67 6 vv (tuCs q)/\UpT q/\(∀x,x∈q↔x∈l.take i/\chkT x=true)/\q.length<=i/\Below w.heap.size w wr) (fun _ ii _=>l.length-(intOf ii).toNat)
 case atStart=>exact⟨0,[],by omega,rfl,Own.nil _ _ _ _,List.Pairwise.nil,by simp,by simp,Below.refl _ _⟩
 case round =>
  obtain⟨i,q,hi,rfl,D,hup,ac,b6,z⟩:=hrel;have U:=h! hup;have a5:=h! ac;clear hup ac;by_cases hlt:i<l.length
  ·obtain⟨b,B,rfl,hb,hc⟩:=HC.out (by omega);have d0:=(z.cell (p:=⟨b,B+i*6,none⟩) hb).trans (hc i hlt 0 _ rfl);have d1:=(z.cell (p:=⟨b,B+i*6+1,none⟩) hb).trans (hc i hlt 1 _ rfl);have d2:=(z.cell (p:=⟨b,B+i*6+2,none⟩) hb).trans (hc i hlt 2 _ rfl);have d3:=(z.cell (p:=⟨b,B+i*6+3,none⟩) hb).trans (hc i hlt 3 _ rfl);have d4:=(z.cell (p:=⟨b,B+i*6+4,none⟩) hb).trans (hc i hlt 4 _ rfl);have d5:=(z.cell (p:=⟨b,B+i*6+5,none⟩) hb).trans (hc i hlt 5 _ rfl);have az:=h! (aU.out _ (n5! hlt));have av:Hid (∀x,x∈l.take (i+1)↔x∈l.take i\/x=l[i]):=h! (fun x=>by rw[n2! hlt,u3!,n9!]);clear hc;generalize l[i]=p at *;obtain⟨⟨pt,pi,pr⟩,⟨qt,qi,qr⟩⟩:=p;dsimp only at d0 d1 d2;have b0:q.length<=100000:=by have:=HL.out;omega
   obtain⟨mo,mc,rfl,b3,b1,aL⟩:=Sl.rows at! (by decide) (show Sl _ wr 6 u3 (List.flatMap tuC q)from D.sl);have aG:=h! D.shape;obtain⟨wP,ak⟩:=e! (wr.alloc (.cells #[.string pt,.string pi,.string pr,.string qt,.string qi,.string qr] 67));have J:Blk wP wr.heap.size #[.string pt,.string pi,.string pr,.string qt,.string qi,.string qr] 67:=by rw[ak];exact Blk.made wr _ _
   have V:Ext wr wP:=xa! ak
   have aD:=h! (show 0<q.length->∃b B,mo=some ⟨b,B,none⟩/\b<wr.heap.size/\∀(k:Nat) (hk:k<q.length),wr.cell? ⟨b,B+k*6,none⟩=some (.string q[k].o.t)/\wr.cell? ⟨b,B+k*6+1,none⟩=some (.string q[k].o.i)/\wr.cell? ⟨b,B+k*6+2,none⟩=some (.string q[k].o.r)/\wr.cell? ⟨b,B+k*6+3,none⟩=some (.string q[k].s.t)/\wr.cell? ⟨b,B+k*6+4,none⟩=some (.string q[k].s.i)/\wr.cell? ⟨b,B+k*6+5,none⟩=some (.string q[k].s.r)from fun h0=>by
    obtain⟨b,B,h1,h2,h3⟩:=aL h0;exact⟨b,B,h1,h2.2,fun k hk=>⟨h3 k hk 0 _ rfl,h3 k hk 1 _ rfl,h3 k hk 2 _ rfl,h3 k hk 3 _ rfl,h3 k hk 4 _ rfl,h3 k hk 5 _ rfl⟩⟩)
   have a4:=h! D;have m:=h! z;have O:=h! J;have ht:=J.cells;have a9:=h! (fX! ⟨⟨pt,pi,pr⟩,⟨qt,qi,qr⟩⟩ az.out wP);unfold tV at a9;dsimp only at a9;have a6:=h! V;have aw:=h! hlt;have aP:=h! (show wrap64 ((i:Int)+1)=((i+1:Nat):Int)from by have:=HL.out;unfold wrap64;omega);have aY:(i:Int)<(l.length:Int):=by omega
   clear D aL J V z hlt;rw[ak]at ht a9;go_wp2_with fail
   try rw[<-ak]at a9 ⊢
   clear ak d0 d1 d2 d3 d4 d5 ht aY;refine a9.out.mono ?_;rintro e aN ⟨rfl,X⟩;have V:Ext wr aN:=a6.out.trans X;have J:=O.out.below X;clear a9 a6 O X;have a6:=h! V;have O:=h! J;clear V J wP;obtain⟨wP,rfl⟩:=e! aN;rcases hck:chkT ⟨⟨pt,pi,pr⟩,⟨qt,qi,qr⟩⟩with _ | _
   ·have aj:chkN ⟨⟨pt,pi,pr⟩,⟨qt,qi,qr⟩⟩=2:=by simp[chkN,hck]
    have aA:=h! (show ∀x,x∈q↔x∈l.take (i+1)/\chkT x=true from fun x=>by
     rw[av.out x,a5.out x];exact⟨fun h=>⟨.inl h.1,h.2⟩,fun h=>⟨h.1.elim id fun e=>absurd h.2 (by rw[e,hck];decide),h.2⟩⟩)
    rw[aj];clear aj hck;go_wp2_with fail
    go_roundw
    case rel=>exact⟨i+1,q,by have:=aw.out;omega,by rw[aP.out],a4.out.below a6.out,U.out,aA.out,by have:=aw.out;omega,m.out.trans (a6.out.mono m.out.size)⟩
    case measure=>have:=aw.out;rw[aP.out];simp[intOf];omega
   have aj:chkN ⟨⟨pt,pi,pr⟩,⟨qt,qi,qr⟩⟩=0:=by simp[chkN,hck]
   have ab:=h! hck;have hlt:=aw.out;rw[aj];clear aj hck;go_wp2_with fail
   obtain⟨y,ag⟩:=e! wr;rw[<-ag]at a4 O a6 aD m ⊢;clear ag;go_loopw [6] (fun ii wr=>∃k:Nat,k<=q.length/\ii= .int .i64 k/\(∀j (hj:j<q.length),j<k->ltT q[j] ⟨⟨pt,pi,pr⟩,⟨qt,qi,qr⟩⟩=true)/\Below wP.heap.size wP wr) (fun ii _=>q.length-(intOf ii).toNat)
   case atStart=>exact⟨0,by omega,rfl,fun _ _ h=>absurd h (by omega),Below.refl _ _⟩
   case round =>
    obtain⟨k,hk,rfl,af,am⟩:=hrel;have C:=h! af;have ay:=h! (a6.out.trans am);have ar:=O.out.below am;clear af;by_cases hkl:k<q.length
    case' pos =>
     obtain⟨b2,a,rfl,X,aI⟩:=aD.out (by omega);obtain⟨e0,e1,e2,e3,e4,e5⟩:=aI k hkl;have b5:decide ((k:Int)<(q.length:Int))=true:=by simp;omega
     have au:=fun(h:ltT q[k] ⟨⟨pt,pi,pr⟩,⟨qt,qi,qr⟩⟩=true)=>h! (ah! (p:=fun j hj=>ltT q[j] ⟨⟨pt,pi,pr⟩,⟨qt,qi,qr⟩⟩=true) C.out hkl h);have aq:=fun(h:ltT ⟨⟨pt,pi,pr⟩,⟨qt,qi,qr⟩⟩ q[k]=true)=>h! (mA! (p:=⟨⟨pt,pi,pr⟩,⟨qt,qi,qr⟩⟩) U.out C.out (fun _=>h));have aF:=n5! hkl;clear aI;generalize q[k]=u at *;obtain⟨⟨ut,ui,ur⟩,⟨vt,vi,vr⟩⟩:=u;dsimp only at e0 e1 e2;have aC:=h! (fun W=>md! ⟨⟨ut,ui,ur⟩,⟨vt,vi,vr⟩⟩ ⟨⟨pt,pi,pr⟩,⟨qt,qi,qr⟩⟩ W);have aS:=h! (od! ⟨⟨ut,ui,ur⟩,⟨vt,vi,vr⟩⟩ ⟨⟨pt,pi,pr⟩,⟨qt,qi,qr⟩⟩);generalize cmpT ⟨⟨ut,ui,ur⟩,⟨vt,vi,vr⟩⟩ ⟨⟨pt,pi,pr⟩,⟨qt,qi,qr⟩⟩=cv at *;unfold tV at aC;dsimp only at aC;go_wp2_with fail
     obtain⟨wd,f⟩:=e! wr.drew;have g:Ext y wd:=by rw[f];exact ay.out.trans (Ext.drew _)
     have aX:Ext wr wd:=xd! f
     have L:Blk wd y.heap.size #[.string pt,.string pi,.string pr,.string qt,.string qi,.string qr] 67:=by rw[f];exact ar.drew
     refine re! f ?_;clear f ar;have h1:=fun W (h:Ext wd W)=>(L.below h).cells;have g0:∀W,Ext wd W->W.cell? ⟨b2,a+k*6,none⟩=some (.string ut):=fun W h=>Ext.cell (g.trans h) e0;have g1:∀W,Ext wd W->W.cell? ⟨b2,a+k*6+1,none⟩=some (.string ui):=fun W h=>Ext.cell (g.trans h) e1;have g2:∀W,Ext wd W->W.cell? ⟨b2,a+k*6+2,none⟩=some (.string ur):=fun W h=>Ext.cell (g.trans h) e2;have g3:∀W,Ext wd W->W.cell? ⟨b2,a+k*6+3,none⟩=some (.string vt):=fun W h=>Ext.cell (g.trans h) e3;have g4:∀W,Ext wd W->W.cell? ⟨b2,a+k*6+4,none⟩=some (.string vi):=fun W h=>Ext.cell (g.trans h) e4;have g5:∀W,Ext wd W->W.cell? ⟨b2,a+k*6+5,none⟩=some (.string vr):=fun W h=>Ext.cell (g.trans h) e5;(refine WalkN.tk [0,1,2,3,4,5,6,7,8,9] ?_;(iterate 10 (refine c! ?_));refine TkN.n ?_)
     clear h1 g0 g1 g2 g3 g4 g5;refine ob! 10 ?_;intro K hK;go_simp;refine(aC.out _).mono ?_;rintro e w4 ⟨rfl,Q⟩;refine hK.out _ _ Q ?_;clear hK;(refine WalkN.tk [11,12] ?_;(iterate 2 (refine c! ?_));refine TkN.n ?_)
     refine d! ?_;rw[aS.out];have aK:=h! (g.trans Q);have ax:Hid (Ext wr w4):=h! (aX.trans Q);have aQ:=h! (L.below Q);clear g L Q;rcases hlb:ltT ⟨⟨ut,ui,ur⟩,⟨vt,vi,vr⟩⟩ ⟨⟨pt,pi,pr⟩,⟨qt,qi,qr⟩⟩with _ | _
     rotate_left
     ·have HH:=au hlb;clear hlb au aq C;go_wp2_with fail
      go_roundw
      case rel=>exact⟨k+1,by omega,by go_num,HH.out,by exact am.trans (Below.mono (ax.out) am.size)⟩
      case measure=>simp[intOf];omega
     have aH:((k:Int) == (q.length:Int))=false:=by rw[n7!];omega
     have H:=fun W=>ml! ⟨⟨ut,ui,ur⟩,⟨vt,vi,vr⟩⟩ ⟨⟨pt,pi,pr⟩,⟨qt,qi,qr⟩⟩ W;unfold tV at H;dsimp only at H;by_cases hup:(⟨⟨ut,ui,ur⟩,⟨vt,vi,vr⟩⟩:Tup)=⟨⟨pt,pi,pr⟩,⟨qt,qi,qr⟩⟩
     ·rw[v3! (fun h=>h hup)]at H
      have aA:=h! (show ∀x,x∈q↔x∈l.take (i+1)/\chkT x=true from fun x=>by
       rw[av.out x,a5.out x];constructor
       ·exact fun h=>⟨.inl h.1,h.2⟩
       ·rintro⟨h | rfl,h2⟩
        ·exact⟨h,h2⟩
        ·exact(a5.out _).1 (hup▸aF))
      injection hup with hup1 hup2
      injection hup1 with hu1 hu2 hu3
      injection hup2 with hu4 hu5 hu6
      subst hu1 hu2 hu3 hu4 hu5 hu6;clear hlb au aq C aF;go_wp2_with fail
      obtain⟨wd,f⟩:=e! w4.drew;have g:Ext y wd:=by rw[f];exact aK.out.trans (Ext.drew _)
      have L:Blk wd y.heap.size #[.string ut,.string ui,.string ur,.string vt,.string vi,.string vr] 67:=by rw[f];exact aQ.out.drew
      refine re! f ?_;clear f;have h1:=fun W (h:Ext wd W)=>(L.below h).cells;have g0:∀W,Ext wd W->W.cell? ⟨b2,a+k*6,none⟩=some (.string ut):=fun W h=>Ext.cell (g.trans h) e0;have g1:∀W,Ext wd W->W.cell? ⟨b2,a+k*6+1,none⟩=some (.string ui):=fun W h=>Ext.cell (g.trans h) e1;have g2:∀W,Ext wd W->W.cell? ⟨b2,a+k*6+2,none⟩=some (.string ur):=fun W h=>Ext.cell (g.trans h) e2;have g3:∀W,Ext wd W->W.cell? ⟨b2,a+k*6+3,none⟩=some (.string vt):=fun W h=>Ext.cell (g.trans h) e3;have g4:∀W,Ext wd W->W.cell? ⟨b2,a+k*6+4,none⟩=some (.string vi):=fun W h=>Ext.cell (g.trans h) e4;have g5:∀W,Ext wd W->W.cell? ⟨b2,a+k*6+5,none⟩=some (.string vr):=fun W h=>Ext.cell (g.trans h) e5;(refine WalkN.tk [0,1,2,3,4,5,6,7,8,9,10,11] ?_;(iterate 12 (refine c! ?_));refine TkN.n ?_)
      refine d! ?_;have aV:=h! (a4.out.below g);have aR:=h! (m.out.trans (Below.mono g m.out.size));clear h1 g0 g1 g2 g3 g4 g5 g L H aH;go_wp2_with fail
      go_roundw
      case rel=>exact⟨i+1,q,by omega,by go_num,aV.out,U.out,aA.out,by omega,aR.out⟩
      case measure=>simp[intOf];omega
     rw[v2! (show(⟨⟨ut,ui,ur⟩,⟨vt,vi,vr⟩⟩:Tup)≠⟨⟨pt,pi,pr⟩,⟨qt,qi,qr⟩⟩from hup)]at H;have a2:=aq (dn! hlb hup);have a3:=h! (show ∀x,x∈insT q k ⟨⟨pt,pi,pr⟩,⟨qt,qi,qr⟩⟩↔x∈l.take (i+1)/\chkT x=true from fun x=>by rw[jM!,a5.out x,av.out x];exact⟨fun h=>h.elim (fun h=>⟨.inl h.1,h.2⟩) fun h=>⟨.inr h,h▸ab.out⟩,fun h=>h.1.elim (fun h1 => .inl ⟨h1,h.2⟩) .inr⟩);clear hlb au aq C aF hup;go_wp2_with fail
     obtain⟨wd,f⟩:=e! w4.drew;have T:Ext y wd:=by rw[f];exact aK.out.trans (Ext.drew _)
     have a8:Blk wd y.heap.size #[.string pt,.string pi,.string pr,.string qt,.string qi,.string qr] 67:=by rw[f];exact aQ.out.drew
     refine re! f ?_;clear f;have h1:=fun W (h:Ext wd W)=>(a8.below h).cells;have g0:∀W,Ext wd W->W.cell? ⟨b2,a+k*6,none⟩=some (.string ut):=fun W h=>Ext.cell (T.trans h) e0;have g1:∀W,Ext wd W->W.cell? ⟨b2,a+k*6+1,none⟩=some (.string ui):=fun W h=>Ext.cell (T.trans h) e1;have g2:∀W,Ext wd W->W.cell? ⟨b2,a+k*6+2,none⟩=some (.string ur):=fun W h=>Ext.cell (T.trans h) e2;have g3:∀W,Ext wd W->W.cell? ⟨b2,a+k*6+3,none⟩=some (.string vt):=fun W h=>Ext.cell (T.trans h) e3;have g4:∀W,Ext wd W->W.cell? ⟨b2,a+k*6+4,none⟩=some (.string vi):=fun W h=>Ext.cell (T.trans h) e4;have g5:∀W,Ext wd W->W.cell? ⟨b2,a+k*6+5,none⟩=some (.string vr):=fun W h=>Ext.cell (T.trans h) e5;(refine WalkN.tk [0,1,2,3,4,5,6,7,8,9,10,11] ?_;(iterate 12 (refine c! ?_));refine TkN.n ?_)
     refine d! ?_;clear h1 g0 g1 g2 g3 g4 g5 H aH e0 e1 e2 e3 e4 e5;obtain⟨w6,rfl⟩:=e! wd;have aW:(k:Int)<=mc:=by omega
     have aT:(k:Int)<=q.length:=by omega
     go_wp2_with fail
     obtain⟨wd,f⟩:=e! w6.drew;have g:Ext y wd:=by rw[f];exact T.trans (Ext.drew _)
     have L:Blk wd y.heap.size #[.string pt,.string pi,.string pr,.string qt,.string qi,.string qr] 67:=by rw[f];exact a8.drew
     have R:Below w.heap.size w wd:=m.out.trans (Below.mono g m.out.size);have M:Sl (· < wd.heap.size) wd 6 (.slice (some ⟨b2,a,none⟩) q.length mc) (tuCs q):=a4.out.slU.up g;refine re! f ?_;clear f;have an:=fun W (h:Ext wd W)=>(L.below h).cells;(refine WalkN.tk [1,2,3,5,8,9,10] ?_;(iterate 7 (refine c! ?_));refine TkN.n ?_)
     clear an;have V:Ext wd wd:=Ext.refl _
     have ah:Sl (· < wd.heap.size) wd 6 (.slice (some ⟨b2,a,none⟩) k mc) (tuCs (q.take k)):=by
      have:=M.take k (by omega);rwa[di!]at this
     have ae:Sl (· < wd.heap.size) wd 6 (.slice (if mc=k then(some ⟨b2,a,none⟩)else(some ⟨b2,a+k*6,none⟩)) (q.length-k) (mc-k)) (tuCs (q.drop k)):=by
      have:=M.tailK (ao':=(if mc=k then(some ⟨b2,a,none⟩)else(some ⟨b2,a+k*6,none⟩))) k (by omega) (fun h=>by rw[if_neg h];simp[Addr.add_lit]);rwa[ey!]at this
     have ad:=h! (show []++tuCs (q.take k)++tuCs [⟨⟨pt,pi,pr⟩,⟨qt,qi,qr⟩⟩]++tuCs (q.drop k)=tuCs (insT q k ⟨⟨pt,pi,pr⟩,⟨qt,qi,qr⟩⟩)from by rw[y2!,<-aQ!,<-aQ!];rfl);have aM:(q.take k).length<=100000:=by rw[x4!];omega
     have aJ:(q.drop k).length<=100000:=by rw[List.length_drop];omega
     clear M
    case' neg =>
     obtain rfl:k=q.length:=by omega
     have a2:=h! (mA! (p:=⟨⟨pt,pi,pr⟩,⟨qt,qi,qr⟩⟩) U.out C.out (fun h=>absurd h hkl));have a3:=h! (show ∀x,x∈insT q q.length ⟨⟨pt,pi,pr⟩,⟨qt,qi,qr⟩⟩↔x∈l.take (i+1)/\chkT x=true from fun x=>by rw[jM!,a5.out x,av.out x];exact⟨fun h=>h.elim (fun h=>⟨.inl h.1,h.2⟩) fun h=>⟨.inr h,h▸ab.out⟩,fun h=>h.1.elim (fun h1 => .inl ⟨h1,h.2⟩) .inr⟩);have aW:(q.length:Int)<=mc:=by omega
     have aT:(q.length:Int)<=q.length:=by omega
     clear hkl C aD am;rcases aG.out with⟨hmn,-⟩|⟨b2,n',c',hmn⟩
     case' inl =>
      obtain rfl:mo=none:=by injection hmn
      clear hmn aG;go_wp2_with fail
      obtain⟨wc,Y⟩:=e! wr.drew;have aE:Ext y wc:=by rw[Y];exact ay.out.trans (Ext.drew _)
      have aB:Blk wc y.heap.size #[.string pt,.string pi,.string pr,.string qt,.string qi,.string qr] 67:=by rw[Y];exact ar.drew
      refine re! Y ?_;clear Y;(refine WalkN.tk [0,1,2,3,4] ?_;(iterate 5 (refine c! ?_));refine TkN.n ?_)
      refine k! 5 ?_;refine k! 6 ?_;refine k! 7 ?_;refine k! 8 ?_;refine k! 9 ?_;refine k! 10 ?_;refine k! 11 ?_
      refine t! 12 ?_
      refine d! ?_;go_wp2_with fail
      obtain⟨w6,Z⟩:=e! wc.drew;have T:Ext y w6:=by rw[Z];exact aE.trans (Ext.drew _)
      have a8:Blk w6 y.heap.size #[.string pt,.string pi,.string pr,.string qt,.string qi,.string qr] 67:=by rw[Z];exact aB.drew
      refine re! Z ?_;clear Z;(refine WalkN.tk [0,1,2,3,4] ?_;(iterate 5 (refine c! ?_));refine TkN.n ?_)
      refine k! 5 ?_;refine k! 6 ?_;refine k! 7 ?_;refine k! 8 ?_;refine k! 9 ?_;refine k! 10 ?_
      refine t! 11 ?_
      refine d! ?_;go_wp2_with fail
      obtain⟨wd,f⟩:=e! w6.drew;have g:Ext y wd:=by rw[f];exact T.trans (Ext.drew _)
      have L:Blk wd y.heap.size #[.string pt,.string pi,.string pr,.string qt,.string qi,.string qr] 67:=by rw[f];exact a8.drew
      have R:Below w.heap.size w wd:=m.out.trans (Below.mono g m.out.size);have M:Sl (· < wd.heap.size) wd 6 (.slice none q.length mc) (tuCs q):=a4.out.slU.up g;refine re! f ?_;clear f;have an:=fun W (h:Ext wd W)=>(L.below h).cells;(refine WalkN.tk [1,2,3,5,8,9,10] ?_;(iterate 7 (refine c! ?_));refine TkN.n ?_)
      clear an;have V:Ext wd wd:=Ext.refl _
      have ah:Sl (· < wd.heap.size) wd 6 (.slice none q.length mc) (tuCs (q.take q.length)):=by
       have:=M.take q.length (by omega);rwa[di!]at this
      have ae:Sl (· < wd.heap.size) wd 6 (.slice none 0 (mc-q.length)) (tuCs (q.drop q.length)):=by
       have:=M.tailK (ao':=none) q.length (by omega) (fun _=>rfl);rwa[ey!,Nat.sub_self]at this
      obtain⟨k,hk⟩:=e! q.length;have a2:=h! (show UpT (insT q k ⟨⟨pt,pi,pr⟩,⟨qt,qi,qr⟩⟩)from by rw[hk];exact a2.out);have a3:=h! (show ∀x,x∈insT q k ⟨⟨pt,pi,pr⟩,⟨qt,qi,qr⟩⟩↔x∈l.take (i+1)/\chkT x=true from by rw[hk];exact a3.out);have ad:=h! (show []++tuCs (q.take q.length)++tuCs [⟨⟨pt,pi,pr⟩,⟨qt,qi,qr⟩⟩]++tuCs (q.drop q.length)=tuCs (insT q k ⟨⟨pt,pi,pr⟩,⟨qt,qi,qr⟩⟩)from by rw[hk,y2!,<-aQ!,<-aQ!];rfl);clear hk;have aM:(q.take q.length).length<=100000:=by rw[x4!];omega
      have aJ:(q.drop q.length).length<=100000:=by rw[List.length_drop];omega
      clear M
     case' inr =>
      obtain⟨a,rfl⟩:∃a,mo=some ⟨b2,a,none⟩:=⟨0,by injection hmn⟩;clear hmn aG;go_wp2_with fail
      obtain⟨wc,Y⟩:=e! wr.drew;have aE:Ext y wc:=by rw[Y];exact ay.out.trans (Ext.drew _)
      have aB:Blk wc y.heap.size #[.string pt,.string pi,.string pr,.string qt,.string qi,.string qr] 67:=by rw[Y];exact ar.drew
      refine re! Y ?_;clear Y;(refine WalkN.tk [0,1,2,3,4] ?_;(iterate 5 (refine c! ?_));refine TkN.n ?_)
      refine k! 5 ?_;refine k! 6 ?_;refine k! 7 ?_;refine k! 8 ?_;refine k! 9 ?_;refine k! 10 ?_;refine k! 11 ?_
      refine t! 12 ?_
      refine d! ?_;go_wp2_with fail
      obtain⟨w6,Z⟩:=e! wc.drew;have T:Ext y w6:=by rw[Z];exact aE.trans (Ext.drew _)
      have a8:Blk w6 y.heap.size #[.string pt,.string pi,.string pr,.string qt,.string qi,.string qr] 67:=by rw[Z];exact aB.drew
      refine re! Z ?_;clear Z;(refine WalkN.tk [0,1,2,3,4] ?_;(iterate 5 (refine c! ?_));refine TkN.n ?_)
      refine k! 5 ?_;refine k! 6 ?_;refine k! 7 ?_;refine k! 8 ?_;refine k! 9 ?_;refine k! 10 ?_
      refine t! 11 ?_
      refine d! ?_;go_wp2_with fail
      obtain⟨wd,f⟩:=e! w6.drew;have g:Ext y wd:=by rw[f];exact T.trans (Ext.drew _)
      have L:Blk wd y.heap.size #[.string pt,.string pi,.string pr,.string qt,.string qi,.string qr] 67:=by rw[f];exact a8.drew
      have R:Below w.heap.size w wd:=m.out.trans (Below.mono g m.out.size);have M:Sl (· < wd.heap.size) wd 6 (.slice (some ⟨b2,a,none⟩) q.length mc) (tuCs q):=a4.out.slU.up g;refine re! f ?_;clear f;have an:=fun W (h:Ext wd W)=>(L.below h).cells;(refine WalkN.tk [1,2,3,5,8,9,10] ?_;(iterate 7 (refine c! ?_));refine TkN.n ?_)
      clear an;have V:Ext wd wd:=Ext.refl _
      have ah:Sl (· < wd.heap.size) wd 6 (.slice (some ⟨b2,a,none⟩) q.length mc) (tuCs (q.take q.length)):=by
       have:=M.take q.length (by omega);rwa[di!]at this
      have ae:Sl (· < wd.heap.size) wd 6 (.slice (if mc=q.length then(some ⟨b2,a,none⟩)else(some ⟨b2,a+q.length*6,none⟩)) 0 (mc-q.length)) (tuCs (q.drop q.length)):=by
       have:=M.tailK (ao':=(if mc=q.length then(some ⟨b2,a,none⟩)else(some ⟨b2,a+q.length*6,none⟩))) q.length (by omega) (fun h=>by rw[if_neg h];simp[Addr.add_lit]);rwa[ey!,Nat.sub_self]at this
      obtain⟨k,hk⟩:=e! q.length;have a2:=h! (show UpT (insT q k ⟨⟨pt,pi,pr⟩,⟨qt,qi,qr⟩⟩)from by rw[hk];exact a2.out);have a3:=h! (show ∀x,x∈insT q k ⟨⟨pt,pi,pr⟩,⟨qt,qi,qr⟩⟩↔x∈l.take (i+1)/\chkT x=true from by rw[hk];exact a3.out);have ad:=h! (show []++tuCs (q.take q.length)++tuCs [⟨⟨pt,pi,pr⟩,⟨qt,qi,qr⟩⟩]++tuCs (q.drop q.length)=tuCs (insT q k ⟨⟨pt,pi,pr⟩,⟨qt,qi,qr⟩⟩)from by rw[hk,y2!,<-aQ!,<-aQ!];rfl);clear hk;have aM:(q.take q.length).length<=100000:=by rw[x4!];omega
      have aJ:(q.drop q.length).length<=100000:=by rw[List.length_drop];omega
      clear M
    all_goals
     refine p! 0 6 ?_ ?_
     ·refine⟨_,(by simp only[gA,gZ];rfl),by rfl,fun K hK=>?_⟩;go_simp;have A:Own (wd.alloc (.cells #[] 67)) wd.heap.size 67 6 (.slice (some ⟨wd.heap.size,0,none⟩) 0 0) []:=Own.made wd (n0! _) _ _;have G:=Below.alloc V (n0! _) (.cells #[] 67);refine hK.out _ _ G ?_;clear hK;refine p! 4 6 ?_ ?_
      ·refine b! ?_;intro K hK;refine ay! tupT (.tmp 43) (.tmp 46) rfl rfl A rfl (ah.same (Same.below G)) (bu! _) (by simp[ag!] <;> omega) (by simp[ag!] <;> omega) G.size (fun v2 w2 hown2 X hg2'=>?_);have N:Ext wd w2:=Below.trans G X;refine hK.out _ _ N ?_;clear hK;simp only[Act.put,pA,pZ,pS];refine ob! 6 ?_;intro K hK;go_simp;have I:=Below.alloc N N.size (.cells #[.string pt,.string pi,.string pr,.string qt,.string qi,.string qr] 67);have E:=hown2.below ((Below.refl _ _).alloc (n0! _) (.cells #[.string pt,.string pi,.string pr,.string qt,.string qi,.string qr] 67));have aa:Sl (fun _=>True) (w2.alloc (.cells #[.string pt,.string pi,.string pr,.string qt,.string qi,.string qr] 67)) 6 (.slice (some ⟨w2.heap.size,0,none⟩) 1 1) (tuCs [⟨⟨pt,pi,pr⟩,⟨qt,qi,qr⟩⟩]):=Sl.made w2 (fun _=>True) 6 1 67 #[.string pt,.string pi,.string pr,.string qt,.string qi,.string qr] rfl (by decide) trivial;refine hK.out _ _ I ?_;clear hK;refine ob! 7 ?_;intro K hK;refine ay! tupT (.tmp 47) (.tmp 49) rfl rfl E rfl aa (bu! _) (by simp[ag!] <;> omega) (by simp[ag!] <;> omega) I.size (fun v4 w4 hown4 Q _=>?_);have F:Ext wd w4:=Below.trans I Q;refine hK.out _ _ F ?_;clear hK;simp only[Act.put,pA,pZ,pS];refine ob! 11 ?_;intro K hK;refine ay! tupT (.tmp 50) (.tmp 53) rfl rfl hown4 rfl (ae.same (Same.below F)) (bu! _) (by simp[ag!] <;> omega) (by simp[ag!] <;> omega) F.size (fun v5 w5 hown5 hb5 _=>?_);have a1:Ext wd w5:=Below.trans F hb5;have ap:=h! hown5;refine hK.out _ _ a1 ?_;clear hK;simp only[Act.put,pA,pZ,pS];clear E hown4 hown5 aa;refine t! 12 ?_
       refine d! ?_;go_wp2
       go_roundw
       case rel=>exact⟨i+1,insT q k ⟨⟨pt,pi,pr⟩,⟨qt,qi,qr⟩⟩,by omega,by go_num,(ad.out▸ap.out:Own w5 wd.heap.size 67 6 v5 (tuCs (insT q k ⟨⟨pt,pi,pr⟩,⟨qt,qi,qr⟩⟩))).base R.size,a2.out,a3.out,by rw[cX!];omega,R.trans (Below.mono a1 R.size)⟩
       case measure=>simp[intOf];omega
      ·obtain⟨w1,a7⟩:=e! (wd.alloc (.cells #[] 67));rw[<-a7]at A G ⊢;have hs1':w1.heap.size=wd.heap.size+1:=by rw[a7];simp
       have al:=h! hs1';clear a7 hs1';refine b! ?_;intro K hK;go_simp;have I:=Below.alloc G G.size (.cells #[.string pt,.string pi,.string pr,.string qt,.string qi,.string qr] 67);have E:=A.below ((Below.refl _ _).alloc (n0! _) (.cells #[.string pt,.string pi,.string pr,.string qt,.string qi,.string qr] 67));have aa:Sl (fun b=>b=w1.heap.size) (w1.alloc (.cells #[.string pt,.string pi,.string pr,.string qt,.string qi,.string qr] 67)) 6 (.slice (some ⟨w1.heap.size,0,none⟩) 1 1) (tuCs [⟨⟨pt,pi,pr⟩,⟨qt,qi,qr⟩⟩]):=Sl.made w1 (fun b=>b=w1.heap.size) 6 1 67 #[.string pt,.string pi,.string pr,.string qt,.string qi,.string qr] rfl (by decide) rfl;refine hK.out _ _ I ?_;clear hK;refine ob! 4 ?_;intro K hK;refine ay! tupT (.tmp 43) (.tmp 46) rfl rfl E rfl (ah.same (Same.below I)) (bu! _) (by simp[ag!] <;> omega) (by simp[ag!] <;> omega) I.size (fun v2 w2 hown2 X hg2'=>?_);have N:Ext wd w2:=Below.trans I X;have ai:=aa.same (w':=w2) (fun x hx=>hg2'.block x (by subst hx;simp) (fun h=>by subst hx;have h2:=v5! (show some w1.heap.size=some wd.heap.size from h);have:=al.out;omega));refine hK.out _ _ N ?_;clear hK;simp only[Act.put,pA,pZ,pS];refine ob! 7 ?_;intro K hK;refine ay! tupT (.tmp 47) (.tmp 49) rfl rfl hown2 rfl ai (bu! _) (by simp[ag!] <;> omega) (by simp[ag!] <;> omega) N.size (fun v4 w4 hown4 Q _=>?_);have F:Ext wd w4:=Below.trans N Q;refine hK.out _ _ F ?_;clear hK;simp only[Act.put,pA,pZ,pS];refine ob! 11 ?_;intro K hK;refine ay! tupT (.tmp 50) (.tmp 53) rfl rfl hown4 rfl (ae.same (Same.below F)) (bu! _) (by simp[ag!] <;> omega) (by simp[ag!] <;> omega) F.size (fun v5 w5 hown5 hb5 _=>?_);have a1:Ext wd w5:=Below.trans F hb5;have ap:=h! hown5;refine hK.out _ _ a1 ?_;clear hK;simp only[Act.put,pA,pZ,pS];clear hown2 hown4 hown5 ai;refine t! 12 ?_
       refine d! ?_;go_wp2
       go_roundw
       case rel=>exact⟨i+1,insT q k ⟨⟨pt,pi,pr⟩,⟨qt,qi,qr⟩⟩,by omega,by go_num,(ad.out▸ap.out:Own w5 wd.heap.size 67 6 v5 (tuCs (insT q k ⟨⟨pt,pi,pr⟩,⟨qt,qi,qr⟩⟩))).base R.size,a2.out,a3.out,by rw[cX!];omega,R.trans (Below.mono a1 R.size)⟩
       case measure=>simp[intOf];omega
     ·refine b! ?_;intro K hK;go_simp;have G:=Below.alloc V (n0! _) (.cells #[.string pt,.string pi,.string pr,.string qt,.string qi,.string qr] 67);have aO:Sl (fun b=>b=wd.heap.size) (wd.alloc (.cells #[.string pt,.string pi,.string pr,.string qt,.string qi,.string qr] 67)) 6 (.slice (some ⟨wd.heap.size,0,none⟩) 1 1) (tuCs [⟨⟨pt,pi,pr⟩,⟨qt,qi,qr⟩⟩]):=Sl.made wd (fun b=>b=wd.heap.size) 6 1 67 #[.string pt,.string pi,.string pr,.string qt,.string qi,.string qr] rfl (by decide) rfl;refine hK.out _ _ G ?_;clear hK;obtain⟨w1,a7⟩:=e! (wd.alloc (.cells #[.string pt,.string pi,.string pr,.string qt,.string qi,.string qr] 67));rw[<-a7]at aO G ⊢;have hs1':w1.heap.size=wd.heap.size+1:=by rw[a7];simp
      have al:=h! hs1';clear a7 hs1';refine o! 0 ?_;refine⟨_,(by simp only[gA,gZ];rfl),by rfl,fun K hK=>?_⟩;go_simp;have A:Own (w1.alloc (.cells #[] 67)) wd.heap.size 67 6 (.slice (some ⟨w1.heap.size,0,none⟩) 0 0) []:=Own.made w1 G.size _ _;have I:=Below.alloc G G.size (.cells #[] 67);have aa:=aO.same (w':=w1.alloc (.cells #[] 67)) (fun x hx=>Below.heap_alloc w1 _ x (by subst hx;have:=al.out;omega));refine hK.out _ _ I ?_;clear hK;refine ob! 4 ?_;intro K hK;refine ay! tupT (.tmp 43) (.tmp 46) rfl rfl A rfl (ah.same (Same.below I)) (bu! _) (by simp[ag!] <;> omega) (by simp[ag!] <;> omega) I.size (fun v2 w2 hown2 X hg2'=>?_);have N:Ext wd w2:=Below.trans I X;have ai:=aa.same (w':=w2) (fun x hx=>hg2'.block x (by subst hx;have:=al.out;simp;omega) (fun h=>by subst hx;have h2:=v5! (show some wd.heap.size=some w1.heap.size from h);have:=al.out;omega));refine hK.out _ _ N ?_;clear hK;simp only[Act.put,pA,pZ,pS];refine ob! 7 ?_;intro K hK;refine ay! tupT (.tmp 47) (.tmp 49) rfl rfl hown2 rfl ai (bu! _) (by simp[ag!] <;> omega) (by simp[ag!] <;> omega) N.size (fun v4 w4 hown4 Q _=>?_);have F:Ext wd w4:=Below.trans N Q;refine hK.out _ _ F ?_;clear hK;simp only[Act.put,pA,pZ,pS];refine ob! 11 ?_;intro K hK;refine ay! tupT (.tmp 50) (.tmp 53) rfl rfl hown4 rfl (ae.same (Same.below F)) (bu! _) (by simp[ag!] <;> omega) (by simp[ag!] <;> omega) F.size (fun v5 w5 hown5 hb5 _=>?_);have a1:Ext wd w5:=Below.trans F hb5;have ap:=h! hown5;refine hK.out _ _ a1 ?_;clear hK;simp only[Act.put,pA,pZ,pS];clear hown2 hown4 hown5 ai;refine t! 12 ?_
      refine d! ?_;go_wp2
      go_roundw
      case rel=>exact⟨i+1,insT q k ⟨⟨pt,pi,pr⟩,⟨qt,qi,qr⟩⟩,by omega,by go_num,(ad.out▸ap.out:Own w5 wd.heap.size 67 6 v5 (tuCs (insT q k ⟨⟨pt,pi,pr⟩,⟨qt,qi,qr⟩⟩))).base R.size,a2.out,a3.out,by rw[cX!];omega,R.trans (Below.mono a1 R.size)⟩
      case measure=>simp[intOf];omega
  ·obtain rfl:i=l.length:=by omega
   obtain⟨mo,mc,rfl,-,-,-⟩:=Sl.rows at! (by decide) (show Sl _ wr 6 u3 (List.flatMap tuC q)from D.sl);rw[u2!]at a5;have a4:=h! D;clear D;go_wp2_with fail
   go_ret
   exact⟨_,q,rfl,⟨U.out,a5.out⟩,a4.out,z⟩
def GSaid (P:List P3->List FT->Value->Prop)(w:World)(e:Ending)(w':World):Prop :=
 Ext w w'/\∃(ps:List P3) (fs:List FT) (po:Option Addr) (pc:Nat) (fo:Option Addr) (fc:Nat) (ev:Value),P ps fs ev/\e= .returned (.tuple #[.agg #[.slice po ps.length pc,.slice fo fs.length fc],ev]) /\
  GrAt (fun x=>w.heap.size<=x/\x<w'.heap.size) w' ps fs (.slice po ps.length pc) (.slice fo fs.length fc)
theorem GrAt.shape {S:Nat->Prop}{w:World}{ps:List P3}{fs:List FT}{pv fv:Value}(h:GrAt S w ps fs pv fv):∃po pc fo fc,pv= .slice po ps.length pc/\fv= .slice fo fs.length fc:=by
 obtain⟨h1,q,h2,h3,h4⟩:=h;obtain⟨po,pc,rfl,-⟩:=Sl.rows aj! (by decide) (show Sl _ w 3 pv (ps.flatMap pC)from h1);obtain⟨fo,fc,rfl,-⟩:=Sl.rows aS! (by decide) h4;exact⟨po,pc,fo,fc,rfl,by rw[<-h2,x1!]⟩
theorem GrAt.nul (S:Nat->Prop)(w:World):GrAt S w [] [] (.slice none 0 0) (.slice none 0 0):=⟨Sl.nil _ _ _,[],rfl,(fun x hx=>by cases hx),Sl.nil _ _ _⟩
theorem py! (l:List Tup):∃T,SetT l T:=by
 have a1:∀a b c:Tup,(!ltT b a)=true->(!ltT c b)=true->(!ltT c a)=true:=fun a b c h k=>by
  rw[Bool.not_eq_true']at *;have:=swoC.ntrans c b a;simp only[fy!]at this;exact this k h
 have a0:∀a b:Tup,(!ltT b a||!ltT a b)=true:=fun a b=>by
  cases h:ltT b a with
  | false=>rfl
  | true =>
   cases k:ltT a b with
   | false=>rfl
   | true =>
    have:=swoC.trans a b a;simp only[fy!]at this;have h3:=this k h;have h4:=swoC.irrefl a;rw[fy!]at h4;rw[h4]at h3;cases h3
 refine⟨_,oA! (List.mergeSort_perm l fun a b=>!ltT b a) ?_⟩;have:=List.pairwise_mergeSort (le:=fun a b=>!ltT b a) a1 a0 l;exact this.imp fun {a b} h=>by simpa using h
theorem eW! {l T:List Tup}(hT:SetT l T)(v:Value)(w:World)(h:Sl (· < w.heap.size) w 6 v (tuCs l))(hl:l.length<=1000000)(hok:∀t∈l,t.Ok) :
  Calls prog 20 #[v] w fun e w'=>∃b,e= .returned (.pointer (some ⟨b,0,none⟩))/\pL! w' b T/\Ext w w':=by
 refine(hT! l v w h hl hok).mono ?_;rintro e w' ⟨b,U,rfl,hU,hb,hx⟩;obtain rfl:=hT.uniq hU;exact⟨b,rfl,hb,hx⟩
theorem iL! {l T:List Tup}(hT:SetT l T)(v:Value)(w:World)(h:Sl (· < w.heap.size) w 6 v (tuCs l))(hl:l.length<=100000)(hok:∀t∈l,t.Ok) :
  Calls prog 50 #[v] w fun e w'=>∃v',e= .returned v'/\Sl (· < w'.heap.size) w' 6 v' (tuCs T)/\Ext w w':=by
 refine(lb! v l w h hl hok).mono ?_;rintro e w' ⟨v',U,rfl,hU,hb,hx⟩;obtain rfl:=hT.uniq hU;exact⟨v',rfl,hb.slU,hx⟩
def WalkP (ts:List TyS)(T:List Tup)(shut:List R2)(p:P3)(most:Int)(ok long:Value)(ps:List P3)(fs:List FT)(ev:Value):Prop :=
 (∃n,pW! ts T shut p most n/\ps=(walkN ts T shut p n).1/\fs=(walkN ts T shut p n).2/\ev=ok)\/(bi! ts T shut p most/\ps=[]/\fs=[]/\ev=long)
theorem kH! (ts:List TyS)(tv:Value)(b:Nat)(T:List Tup)(shut:List R2)(sv:Value)(p:P3)(most:Int)(N:Nat)(w:World)(h:pU! (· < w.heap.size) w ts tv)(hok:∀t∈ts,t.Ok)(hc:chk06 ts=0)(hsB:schB ts<=549755813888)(hsz:∀t∈ts,∀r∈t.rels,r.2.sz<=1000000)(hln:(an! ts).length<=1099511627776)(hlr:(ac! ts).length<=1099511627776)
  (hbk:pL! w b T) (hsv:Sl (· < w.heap.size) w 2 sv (shut.flatMap r2C)) (hso:∀r∈shut,r.Ok) (hin:gC! ts T shut p N) :
  Calls prog 98 #[.agg #[tv],bkV b,sv,pV p,.int .i64 most] w (GSaid (WalkP ts T shut p most (.int .i64 0) (.int .i64 10)) w):=by
 refine(gF! ts tv b T shut sv p most N w h hok hc hsB hsz hln hlr hbk hsv hso hin).mono ?_;rintro e w' ⟨hx,⟨n,pv,fv,he,rfl,hg⟩|⟨hlong,rfl⟩⟩
 ·obtain⟨po,pc,fo,fc,rfl,rfl⟩:=hg.shape;exact⟨hx,_,_,po,pc,fo,fc,_,.inl ⟨n,he,rfl,rfl,rfl⟩,rfl,hg⟩
 ·exact⟨hx,[],[],none,0,none,0,_,.inr ⟨hlong,rfl,rfl,rfl⟩,rfl,GrAt.nul _ _⟩
theorem kI! (ts:List TyS)(tv:Value)(T:List Tup)(setv:Value)(shut:List R2)(sv:Value)(p:P3)(most:Int)(N:Nat)(w:World)(h:pU! (· < w.heap.size) w ts tv)(hu:aT! ts=true)(hset:Sl (· < w.heap.size) w 6 setv (tuCs T))(hsv:Sl (· < w.heap.size) w 2 sv (shut.flatMap r2C))(hsl:shut.length<=1099511627776)(hin:gC! ts T shut p N) :
  Calls prog 51 #[.agg #[tv],setv,sv,pV p,.int .i64 most] w (GSaid (WalkP ts T shut p most (.bool true) (.bool false)) w):=by
 refine(is! ts tv T setv shut sv p most N w h hu hset hsv hsl hin).mono ?_;rintro e w' ⟨hx,⟨n,pv,fv,he,rfl,hg⟩|⟨hlong,rfl⟩⟩
 ·obtain⟨po,pc,fo,fc,rfl,rfl⟩:=hg.shape;exact⟨hx,_,_,po,pc,fo,fc,_,.inl ⟨n,he,rfl,rfl,rfl⟩,rfl,hg⟩
 ·exact⟨hx,[],[],none,0,none,0,_,.inr ⟨hlong,rfl,rfl,rfl⟩,rfl,GrAt.nul _ _⟩
theorem setsT:pN! prog 211 210 1 8:=pN!.mk' Tryz.underlying211 (show _=some (some (.map none),1,8)by kernel_rfl) rfl (by decide)
theorem pf! {S:Nat->Prop}{w:World}{ps:List P3}{fs:List FT}{pv:Value}{fo:Option Addr}{n fc:Nat}(h:GrAt S w ps fs pv (.slice fo n fc)) {i:Nat}(hi:i<fs.length) :
  ∃b off a1 c1 a2 c2 a4 c4,fo=some ⟨b,off,none⟩/\S b/\FTAt S w fs[i] (.slice a1 fs[i].subs.length c1,.slice a2 fs[i].refs.length c2,.slice a4 fs[i].ps.length c4) /\
   w.cell? ⟨b,off+i*4,none⟩=some (.int .i64 fs[i].k)/\w.cell? ⟨b,off+i*4+1,none⟩=some (.slice a1 fs[i].subs.length c1)/\w.cell? ⟨b,off+i*4+2,none⟩=some (.slice a2 fs[i].refs.length c2)/\w.cell? ⟨b,off+i*4+3,none⟩=some (.slice a4 fs[i].ps.length c4):=by
 obtain⟨-,q,h2,h3,h4⟩:=h;subst h2;rw[x1!]at hi;obtain⟨_,_,e,-,-,a⟩:=Sl.rows aS! (by decide) h4;obtain⟨b,off,rfl,hb,a⟩:=a (by omega);cases e;have hf:=h3 _ (n5! hi);obtain⟨a1,c1,a2,c2,a4,c4,hv⟩:=hf.shape;have k0:=a i hi 0 _ rfl;have k1:=a i hi 1 _ rfl;have k2:=a i hi 2 _ rfl;have k3:=a i hi 3 _ rfl;rw[List.getElem_map];rw[hv]at hf k1 k2 k3;exact⟨b,off,a1,c1,a2,c2,a4,c4,rfl,hb,hf,k0,k1,k2,k3⟩
theorem grLen {S:Nat->Prop}{w:World}{ps:List P3}{fs:List FT}{pv fv:Value}(h:GrAt S w ps fs pv fv):fs.length<=9223372036854775807:=by
 obtain⟨-,q,h2,-,h4⟩:=h;obtain⟨_,c,-,h6,h7,-⟩:=Sl.rows aS! (by decide) h4;rw[<-h2,x1!];omega
structure LkG (w0 w:World)(gb sp:Nat)(pv fv:Value)(typ:ByteArray)(iv:Value)(ms:List Nat)(ma:Nat):Prop where
 bel:Below w0.heap.size w0 w
 hi:w0.heap.size<=gb/\w0.heap.size<=sp/\gb≠sp
 mlo:w0.heap.size<=ma/\∀m∈ms,w0.heap.size<=m
 gr:Blk w gb #[pv,fv] 96
 box:Blk w sp #[pv,fv,.string typ,iv,.map (some ma)] 284
 row:Own w w0.heap.size 210 1 iv (msC ms)
 emp:∀m∈ms,OS w m []
 nodup:ms.Nodup
 alls:OS w ma []
 ne:ma∉ms
section
variable {w0 w w3 : World} {gb sp ma : Nat} {pv fv iv iv' : Value} {typ : ByteArray} {ms : List Nat}
theorem LkG.ext (h:LkG w0 w gb sp pv fv typ iv ms ma)(hx:Ext w w3):LkG w0 w3 gb sp pv fv typ iv ms ma:=⟨h.bel.trans (Below.mono hx h.bel.size),h.hi,h.mlo,h.gr.below hx,h.box.below hx,h.row.below hx,fun m hm=>(h.emp m hm).below hx,h.nodup,h.alls.below hx,h.ne⟩
theorem Own.blkG {w w3:World}{B sz b:Nat}{e e2:TypeId}{v:Value}{xs:List Value}{cs:Array Value}(h:Own w B e sz v xs)(hb:Blk w b cs e2)(hne:e≠e2)(hg:w.grownBy w3 v.ownBlock):Blk w3 b cs e2:=(hg.block b hb.lt fun e3=>by
  obtain⟨c,hc⟩:=h.typed e3.symm;rw[show w.heap[b]?=_ from hb]at hc;injection hc with hc
  injection hc with _ hc _
  exact hne hc.symm).trans hb
theorem LkG.add {w2:World}{m:Nat}(h:LkG w0 w2 gb sp pv fv typ iv ms ma)(hm:OS w2 m [])(hn:m∉ms)(hma:ma≠m)(hlo:w0.heap.size<=m)(hg:w2.grownBy w3 iv.ownBlock)(ho:Own w3 w0.heap.size 210 1 iv' (msC ms++[.map (some m)])) :
  LkG w0 (w3.setCell ⟨sp,3,none⟩ iv') gb sp pv fv typ iv' (ms++[m]) ma:=by
 have d:∀x A,OS w2 x A->OS (w3.setCell ⟨sp,3,none⟩ iv') x A:=fun x A hx=>hx.same (by
  have a0:x≠sp:=fun e=>hx.notCells _ _ _ (show w2.heap[x]?=_ from by rw[e];exact h.box);rw[Below.heap_setCell _ _ _ _ a0];exact hg.block x hx.lt fun e=>h.row.notMap hx.notCells x e.symm rfl)
 have f:=h.row.blkG h.box (by decide) hg;have a2:=h.row.blkG h.gr (by decide) hg;have a1:Below w0.heap.size w0 w3:=be! h.bel h.row hg (by have:=h.hi;have:=h.box.lt;omega);refine⟨Below.setCell a1 (p:=⟨sp,3,none⟩) h.hi.2.1 _,h.hi,⟨h.mlo.1,fun x hx=>(u3!.1 hx).elim (h.mlo.2 x) fun e=>by rw[n9!.1 e];exact hlo⟩,(Below.heap_setCell _ _ _ _ h.hi.2.2).trans a2,f.set_to 3 iv' rfl,?_,fun x hx=>?_,?_,d ma [] h.alls,?_⟩
 ·have:msC (ms++[m])=msC ms++[.map (some m)]:=by simp[msC]
  rw[this];refine ho.keepOwn fun g hg2=>Below.heap_setCell _ _ _ _ fun e=>?_;obtain⟨c,i⟩:=ho.typed hg2;rw[show g=sp from e,show w3.heap[sp]?=_ from f]at i;injection i with i
  injection i with _ i _
  exact absurd i (by decide)
 ·rcases u3!.1 hx with hx | hx
  ·exact d x [] (h.emp x hx)
  ·rw[n9!.1 hx];exact d m [] hm
 ·rw[List.nodup_append];exact⟨h.nodup,by simp,fun a ha b hb e=>by rw[n9!.1 hb]at e;exact hn (e▸ha)⟩
 ·rw[u3!,n9!];exact fun e=>e.elim h.ne hma
theorem LkG.done (h:LkG w0 w gb sp pv fv typ iv ms ma):LkS w sp pv fv typ iv ms ma (List.replicate ms.length []) [] :=
 ⟨h.box,h.row.slFo fun g hg=>⟨(h.row.block g hg).2,h.row.notMap h.alls.notCells g hg,fun hm=>h.row.notMap (h.emp g hm).notCells g hg rfl⟩,
  ⟨by simp,fun i h1 h2=>by rw[List.getElem_replicate];exact h.emp _ (n5! h1),h.nodup⟩,h.alls,h.ne⟩
end
structure LkW (w0 w:World)(gb sp:Nat)(pv fv:Value)(typ:ByteArray)(iv:Value)(ms:List Nat)(ma:Nat)(L:List (List O2))(all:List O2):Prop where
 bel:Below w0.heap.size w0 w
 mlo:w0.heap.size<=ma/\∀m∈ms,w0.heap.size<=m
 gr:Blk w gb #[pv,fv] 96
 s:LkS w sp pv fv typ iv ms ma L all
section
variable {w0 w w' : World} {gb sp ma : Nat} {pv fv iv : Value} {typ : ByteArray} {ms : List Nat} {L L' : List (List O2)} {all all' : List O2}
theorem LkG.work (h:LkG w0 w gb sp pv fv typ iv ms ma):LkW w0 w gb sp pv fv typ iv ms ma (List.replicate ms.length []) []:=⟨h.bel,h.mlo,h.gr,h.done⟩
theorem LkW.ext (h:LkW w0 w gb sp pv fv typ iv ms ma L all)(hx:Ext w w'):LkW w0 w' gb sp pv fv typ iv ms ma L all:=⟨h.bel.trans (Below.mono hx h.bel.size),h.mlo,h.gr.below hx,h.s.ext hx⟩
theorem LkW.tk (h:LkW w0 w gb sp pv fv typ iv ms ma L all) {c:Nat}(hc:w0.heap.size<=c)(hm:∀cs t fr,w.heap[c]?≠some (.cells cs t fr))(hk:Tk c w w')(hs:LkS w' sp pv fv typ iv ms ma L' all'):LkW w0 w' gb sp pv fv typ iv ms ma L' all' :=
 ⟨h.bel.trans (Kept.below hk fun b hb=>⟨n1! hb h.bel.size,by omega⟩),h.mlo,hk.box h.gr fun e=>hm _ _ _ (e▸h.gr),hs⟩
theorem LkW.inAll (h:LkW w0 w gb sp pv fv typ iv ms ma L all)(hk:Tk ma w w')(hs:LkS w' sp pv fv typ iv ms ma L all'):LkW w0 w' gb sp pv fv typ iv ms ma L all':=h.tk h.mlo.1 h.s.alls.notCells hk hs
theorem LkW.setAt (h:LkW w0 w gb sp pv fv typ iv ms ma L all) {i:Nat}(hi:i<ms.length)(hk:Tk ms[i] w w') {A:List O2}(ha:OS w' ms[i] A):LkW w0 w' gb sp pv fv typ iv ms ma (L.set i A) all :=
 h.tk (h.mlo.2 _ (n5! hi)) (h.s.mem.sets i hi (by rw[<-h.s.mem.len];exact hi)).notCells hk (h.s.setAt hi hk ha)
end
theorem oM! {w:World}{m:Nat}{A:List O2}(h:OS w m A):(Builtin.len_ #[210] 3 #[.map (some m)]).run prog w= .ok (.int .i64 A.length) w:=by
 have:=Mp.len h Tryz.underlying210 3;rwa[show(blG A).length=A.length from by simp[blG]]at this
theorem nT! (a b:Nat):(min (a:Int) b)=((min a b:Nat):Int):=by omega
def flgV:Value->Nat | .bool true=>1 | _=>0
def LkQ (w0 w:World)(gb sp:Nat)(pv fv:Value)(typ:ByteArray)(iv:Value)(ms:List Nat)(ma:Nat)(fs:List FT)(n:Nat)(all:List O2)(L:List (List O2)):Prop :=
 LkW w0 w gb sp pv fv typ iv ms ma L all/\LkAt fs n all L/\∀l∈L,l.Nodup
theorem LkM.nd {w:World}{ms:List Nat}{L:List (List O2)}(h:LkM w ms L):∀l∈L,l.Nodup:=fun l hl=>by
 obtain⟨i,hi,rfl⟩:=u0! hl;exact OS.nodup (h.sets i (by rw[h.len];exact hi) hi)
theorem oT! {s:P3}(h:s.r=⟨#[]⟩):oS s.obj=s:=by
 obtain⟨a,b,c⟩:=s;dsimp only at h;subst h;rfl
theorem pa! {typ:ByteArray}{all:List O2}{fs:List FT}(hm:∀o,o∈all↔SbI typ (thsL fs) o):∀f∈fs,Kno typ all f:=fun f hf s hs hr ht =>
 (hm s.obj).2 ⟨bv!.2 ⟨f,hf,by rw[oT! hr];exact hs⟩,ht⟩
def SolS (w0 w:World)(ps:List P3)(fs:List FT)(typ:ByteArray)(iv:Value):Prop :=
 ∃ms L,Sl (fun b=>b<w.heap.size/\b∉ms) w 1 iv (msC ms)/\LkM w ms L/\L.length=ps.length/\(∀l∈L,∀o∈l,SbI typ (thsL fs) o) /\
  (∀o,SbI typ (thsL fs) o->∀i,i<ps.length->(o∈L.getD i []↔0<(aX! fs (oS o) ps.length).getD i 0))/\Below w0.heap.size w0 w
end Go.Proofs.YtlhaghoajpglaaaGreat
