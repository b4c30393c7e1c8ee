/- Lemmas for the claim, no condition. -/
import Derived.Test.YtlhaghoajpglaaaGreatYLkObj2
import Derived.Test.YtlhaghoajpglaaaGreatYLkObj2
set_option maxRecDepth 100000
set_option maxHeartbeats 8000000
namespace Go.Proofs.YtlhaghoajpglaaaGreat
open Go Go.Maps Go.RowKit Go.Proofs.Tryz
def relOk (x:ByteArray × RT):Bool:=x.2.textOk 0&&ownB x.1&&decide (x.1≠⟨#[116,121,112,101]⟩)
def tyOk (t:TyS):Bool:=ownB t.name&&t.rels.all relOk
def prN (b:Bool):Int:=if b then 0 else 9
def br! (ts:List TyS):Bool:=ts.all tyOk
def relW:List (ByteArray × RT)->Nat | []=>0 | x::l=>40+80*x.2.sz+relW l
def schW:List TyS->Nat | []=>0 | t::ts=>40+relW t.rels+schW ts
theorem em! (a b:List (ByteArray × RT)):relW (a++b)=relW a+relW b:=by
 induction a with
 | nil=>simp[relW]
 | cons x a ih=>rw[x2!,relW,relW,ih];omega
theorem ek! (a b:List TyS):schW (a++b)=schW a+schW b:=by
 induction a with
 | nil=>simp[schW]
 | cons x a ih=>rw[x2!,schW,schW,ih];omega
theorem gK! {l:List (ByteArray × RT)}{i:Nat}(hi:i<l.length):relW (l.take (i+1))=relW (l.take i)+(40+80*l[i].2.sz):=by
 rw[n2! hi,em!];simp[relW]
theorem gJ! {l:List TyS}{i:Nat}(hi:i<l.length):schW (l.take (i+1))=schW (l.take i)+(40+relW l[i].rels):=by
 rw[n2! hi,ek!];simp[schW]
theorem mu! (l:List (ByteArray × RT))(i:Nat):relW (l.take i)<=relW l:=by
 conv=>rhs;rw[<-x6! i l]
 rw[em!];omega
theorem mt! (l:List TyS)(i:Nat):schW (l.take i)<=schW l:=by
 conv=>rhs;rw[<-x6! i l]
 rw[ek!];omega
theorem hP! (ts:List TyS)(tv:Value)(w:World)(h:pU! (· < w.heap.size) w ts tv)(hok:∀t∈ts,t.Ok)(hsz:schW ts<=80000000):Calls prog 103 #[.agg #[tv]] w fun e w'=>∃s:ByteArray,e= .returned (.tuple #[.string s,.int .i64 (prN (br! ts))])/\Below w.heap.size w w':=by
 obtain⟨ao,c,rfl,aC,az,A⟩:=h.rows;have HC:=h! A;have an:=h! hok;have ak:=h! hsz;generalize hg:br! ts=g;have HG:Hid (g=ts.all tyOk):=h! hg.symm;have ai:=(Blk.made w #[.slice ao ts.length c] 26).cells;have aa:Hid (Below w.heap.size w (w.alloc (.cells #[.slice ao ts.length c] 26))):=h! ((Below.refl _ _).alloc (n0! _) _);clear h A hok hsz hg;go_enter func103,ntmps103
 go_wp2_with fail
 clear ai;go_loopw [4,14] (fun ov ii wr=>∃(i:Nat) (out:ByteArray),i<=ts.length/\ii= .int .i64 i/\ov= .string out/\(∀j (hj:j<ts.length),j<i->tyOk ts[j]=true)/\out.size<=schW (ts.take i)/\Below w.heap.size w wr) (fun _ ii _=>ts.length-(intOf ii).toNat)
 case atStart=>exact⟨0,⟨#[]⟩,by omega,rfl,rfl,fun _ _ h=>absurd h (by omega),v1! _,aa.out⟩
 case round =>
  obtain⟨i,out,hi,rfl,rfl,q,M,d⟩:=hrel;have L:=h! q;clear aa q;by_cases hlt:i<ts.length
  ·have ad:=h! (fun h=>ah! (p:=fun j hj=>tyOk ts[j]=true) L.out hlt h);have D:=h! (fun(h:tyOk ts[i]=false)=>(show g=false from by rw[HG.out];exact List.all_eq_false.2 ⟨ts[i],n5! hlt,by rw[h];exact Bool.false_ne_true⟩));have T:=an.out _ (n5! hlt);have E:=gJ! hlt;have N:=mt! ts (i+1);have am:=ak.out;have av:=h! E;rw[E]at N;obtain⟨b,C,aq,a1,hb,c0,c1,l⟩:=HC.out i hlt;cases a1;have d0:=(d.cell (p:=⟨b,C+i*2,none⟩) hb).trans c0;have d1:=(d.cell (p:=⟨b,C+i*2+1,none⟩) hb).trans c1;obtain⟨G,J,rfl,-⟩:=l.rows;have I:=d.alloc d.size (.cells #[.string ts[i].name,.slice G ts[i].rels.length J] 176);have r:=l.up I;have ar:=h! (Blk.made wr #[.string ts[i].name,.slice G ts[i].rels.length J] 176);have O:=ar.out.cells;have u:=h! I;clear c0 c1 l I d;have au:=h! hlt;clear E;generalize ts[i]=t at *;obtain⟨tn,rels⟩:=t;dsimp only at *;obtain⟨a7,Y⟩:=T;dsimp only at a7 Y;have al:=h! Y;have z:=h! (ft! tn (by unfold maxLen;omega) (wr.alloc (.cells #[.string tn,.slice G rels.length J] 176)));obtain⟨aA,c3,aj,ax,aw,o⟩:=r.rows;injection aj with hv31 hv32 hv33
   subst hv31 hv33;have af:=h! o;clear Y o hv32 r a7;cases ho:ownB tn with
   | false =>
    rw[ho]at z;have HF:=h! (D.out (by unfold tyOk;rw[ho];rfl));clear ad D ho;go_wp2_with fail
    refine z.out.mono ?_;rintro e w5 ⟨rfl,rfl⟩;clear z;go_wp2_with fail
    go_ret2
    exact⟨_,by rw[HF.out];rfl,u.out⟩
   | true =>
    rw[ho]at z;have ah:=cx! ho;have a5:=h! (show tyOk ⟨tn,rels⟩=rels.all relOk from by unfold tyOk;rw[ho];rfl);clear ho;have a9:¬ (9223372036854775807<out.size+5):=by omega
    have a6:¬ (9223372036854775807<out.size+5+tn.size):=by omega
    have ae:¬ (9223372036854775807<out.size+5+tn.size+1):=by omega
    go_wp2_with fail
    refine z.out.mono ?_;rintro e w5 ⟨rfl,h5⟩;have h6:=h5.symm;subst h6;clear h5 z;go_wp2_with fail
    obtain⟨wq,a4⟩:=e! (wr.alloc (.cells #[.string tn,.slice G rels.length J] 176));rw[<-a4]at u af ⊢;have K:=h! u.out
    have ab:(out++⟨#[116,121,112,101,32]⟩++tn++⟨#[10]⟩).size<=schW (ts.take i)+40:=by
     simp only[n3!];have h1:(⟨#[116,121,112,101,32]⟩:ByteArray).size=5:=rfl;have h2:(⟨#[10]⟩:ByteArray).size=1:=rfl;omega
    generalize out++⟨#[116,121,112,101,32]⟩++tn++⟨#[10]⟩=out1 at *;have z:=h! ab;have F:schW (ts.take i)+(40+relW rels)<=80000000:=by omega
    have Q:=h! F;clear a4 u O d0 d1 a9 a6 ae hlt ab M N am F;go_loopw [4,31] (fun ov jj wr=>∃(j:Nat) (out:ByteArray),j<=rels.length/\jj= .int .i64 j/\ov= .string out/\(∀m (hm:m<rels.length),m<j->relOk rels[m]=true)/\out.size<=schW (ts.take i)+40+relW (rels.take j)/\Below wq.heap.size wq wr) (fun _ jj _=>rels.length-(intOf jj).toNat)
    case atStart=>exact⟨0,out1,by omega,rfl,rfl,fun _ _ h=>absurd h (by omega),by have:=z.out;omega,Below.refl _ _⟩
    case round =>
     obtain⟨j,n,hj,rfl,rfl,q,M,X⟩:=hrel;have B:=h! q;clear z q;by_cases hlt:j<rels.length
     ·have v:=h! (fun h=>ah! (p:=fun m hm=>relOk rels[m]=true) B.out hlt h);have f:=h! (fun(h:relOk rels[j]=false)=>D.out (by rw[a5.out];exact List.all_eq_false.2 ⟨rels[j],n5! hlt,by rw[h];exact Bool.false_ne_true⟩));have V:=al.out _ (n5! hlt);have E:=gK! hlt;have N:=mu! rels (j+1);have F:=Q.out;have U:=h! E;rw[E]at N;have d:=X;obtain⟨b,C,aq,a1,hb,c0,c1,c2,c3,c4,l⟩:=af.out j hlt;cases a1;have d0:=(d.cell (p:=⟨b,C+j*5,none⟩) hb).trans c0;have d1:=(d.cell (p:=⟨b,C+j*5+1,none⟩) hb).trans c1;have d2:=(d.cell (p:=⟨b,C+j*5+2,none⟩) hb).trans c2;have d3:=(d.cell (p:=⟨b,C+j*5+3,none⟩) hb).trans c3;have d4:=(d.cell (p:=⟨b,C+j*5+4,none⟩) hb).trans c4;obtain⟨G,J,rfl,-⟩:=l.rows;have I:=d.alloc d.size (.cells #[.string rels[j].1,.int .i64 rels[j].2.k,.string rels[j].2.a,.string rels[j].2.b,.slice G rels[j].2.ps.length J] 181);have r:=l.up I;have a3:=h! (Blk.made wr #[.string rels[j].1,.int .i64 rels[j].2.k,.string rels[j].2.a,.string rels[j].2.b,.slice G rels[j].2.ps.length J] 181);have O:=a3.out.cells;have u:=h! I;clear c0 c1 c2 c3 c4 l I d;clear E;generalize rels[j]=x at *;obtain⟨xn,p⟩:=x;dsimp only at *;obtain⟨ay,a8⟩:=V;have HR:=h! (na! p _ 0 _ r a8 (by omega) (by omega));unfold rV at HR;rw[show((0:Nat):Int)=0 from rfl]at HR;have ag:=h! (fun W=>ft! xn (by unfold maxLen;omega) W);clear r a8 ay;cases hx:p.textOk 0 with
      | false =>
       rw[hx]at HR;have HF:=h! (f.out (by unfold relOk;dsimp only;rw[hx];rfl));clear v f hx;go_wp2_with fail
       refine HR.out.mono ?_;rintro e w5 ⟨s,rfl,-,H⟩;have a2:=(a3.out.below H).cells;have y:=h! (K.out.trans ((u.out.trans (H.mono u.out.size)).mono K.out.size));clear HR H O d0 d1 d2 d3 d4 u;go_wp2_with fail
       refine(ag.out _).mono ?_;rintro e w6 ⟨rfl,h6⟩;have h7:=h6.symm;subst h7;clear h6;cases ownB xn with
       | false =>
        go_wp2_with fail
        go_ret2
        exact⟨_,by rw[HF.out];rfl,y.out⟩
       | true =>
        by_cases ht:xn=⟨#[116,121,112,101]⟩
        ·subst ht;go_wp2_with fail
         go_ret2
         exact⟨_,by rw[HF.out];rfl,y.out⟩
        ·have R:=aH! ht;rw[<-u5!,show(⟨#[116,121,112,101]⟩:ByteArray).data.toList=[116,121,112,101]from rfl]at R;clear ht;go_wp2_with fail
         go_ret2
         exact⟨_,by rw[HF.out];rfl,y.out⟩
      | true =>
       rw[hx]at HR;go_wp2_with fail
       refine HR.out.mono ?_;rintro e w5 ⟨s,rfl,a0,H⟩;have hS:s.size+5<=80*p.sz:=by first | exact a0 rfl | exact a0 trivial
       have a2:=(a3.out.below H).cells;have ac:=h! (u.out.trans (H.mono u.out.size));have y:=h! (K.out.trans (ac.out.mono K.out.size));clear HR H O d0 d1 d2 d3 d4 u a0;go_wp2_with fail
       refine(ag.out _).mono ?_;rintro e w6 ⟨rfl,h6⟩;have h7:=h6.symm;subst h7;clear h6;cases ho:ownB xn with
       | false =>
        have HF:=h! (f.out (by unfold relOk;dsimp only;rw[hx,ho];rfl));clear v f hx ho;go_wp2_with fail
        go_ret2
        exact⟨_,by rw[HF.out];rfl,y.out⟩
       | true =>
        by_cases ht:xn=⟨#[116,121,112,101]⟩
        ·have HF:=h! (f.out (by unfold relOk;dsimp only;rw[hx,ho,v3! (fun h=>h ht)];rfl));subst ht;clear v f hx ho;go_wp2_with fail
         go_ret2
         exact⟨_,by rw[HF.out];rfl,y.out⟩
        ·have R:=aH! ht;rw[<-u5!,show(⟨#[116,121,112,101]⟩:ByteArray).data.toList=[116,121,112,101]from rfl]at R;have HN:=h! (v.out (by unfold relOk;dsimp only;rw[hx,ho,v2! ht];rfl));have ah:=cx! ho;have a9:¬ (9223372036854775807<n.size+xn.size):=by omega
         have a6:¬ (9223372036854775807<n.size+xn.size+3):=by omega
         have ae:¬ (9223372036854775807<n.size+xn.size+3+s.size):=by omega
         have aB:¬ (9223372036854775807<n.size+xn.size+3+s.size+1):=by omega
         have Z:=h! (show(n++xn++⟨#[32,61,32]⟩++s++⟨#[10]⟩).size<=schW (ts.take i)+40+relW (rels.take (j+1))from by
          rw[U.out];simp only[n3!];have h1:(⟨#[32,61,32]⟩:ByteArray).size=3:=rfl;have h2:(⟨#[10]⟩:ByteArray).size=1:=rfl;omega)
         clear ht v f hx ho;go_wp2_with fail
         go_roundw
         case rel=>exact⟨j+1,_,by omega,by go_num,rfl,HN.out,Z.out,ac.out⟩
         case measure=>simp[intOf];omega
     ·obtain rfl:j=rels.length:=by omega
      rw[u2!]at M
      have HN:=h! (ad.out (by
       rw[a5.out,u8!];intro x hx;obtain⟨m,hm,rfl⟩:=u0! hx;exact B.out m hm hm))
      have Z:=h! (show n.size<=schW (ts.take (i+1))from by rw[av.out];omega);have y:=h! (K.out.trans (X.mono K.out.size));have ap:=au.out;clear M X;go_wp2_with fail
      go_roundw
      case rel=>exact⟨i+1,n,by omega,by go_num,rfl,HN.out,Z.out,y.out⟩
      case measure=>simp[intOf];omega
  ·obtain rfl:i=ts.length:=by omega
   have HF:=h! (show g=true from by
    rw[HG.out,u8!];intro x hx;obtain⟨j,hj,rfl⟩:=u0! hx;exact L.out j hj hj)
   have y:=h! d;clear d M;go_wp2_with fail
   go_ret2
   exact⟨_,by rw[HF.out];rfl,y.out⟩
def bj! (t:TyS):Bool:=decide (t.rels.length<=16)&&t.rels.all fun r=>decide (r.2.sz<=32)
def bQ! (ts:List TyS):Bool:=decide (ts.length<=16)&&ts.all bj!
def aT! (ts:List TyS):Bool:=decide ((ts.map (·.name)).Nodup)&&ts.all fun t=>decide ((t.rels.map (·.1)).Nodup)
def ig! (ts:List TyS)(j:Nat):Prop:=∀m (hm:m<ts.length)(hj:j<ts.length),m<j->ts[m].name≠ts[j].name
def bF! (ts:List TyS):Bool:=ts.all fun t=>t.rels.all fun r=>r.2.named ts t
theorem cj! {ts:List TyS}(h:aT! ts=true) {i:Nat}(hi:i<ts.length):ig! ts i/\((ts[i].rels.map (·.1)).Nodup):=by
 unfold aT! at h;rw[v0!,u1!,u8!]at h;refine⟨fun m hm hj hmj he=>?_,of_decide_eq_true (h.2 _ (n5! hi))⟩;have:=(x3!.1 h.1) m i (by simpa using hm) (by simpa using hi) hmj;simp only[List.getElem_map]at this;exact this he
theorem mj! {ts:List TyS}(h:∀j (hj:j<ts.length),ig! ts j/\((ts[j].rels.map (·.1)).Nodup)):aT! ts=true:=by
 unfold aT!;rw[v0!,u1!,u8!];refine⟨x3!.2 fun m j hm hj hmj=>?_,fun x hx=>?_⟩
 ·simp only[List.getElem_map];exact(h j (by simpa using hj)).1 m (by simpa using hm) (by simpa using hj) hmj
 ·obtain⟨j,hj,rfl⟩:=u0! hx;exact v2! (h j hj).2
def kc! (l:List (ByteArray × RT))(j:Nat):Prop:=∀m (hm:m<l.length)(hj:j<l.length),m<j->l[m].1≠l[j].1
theorem kb! {l:List (ByteArray × RT)}(h:(l.map (·.1)).Nodup)(j:Nat):kc! l j:=fun m hm hj hmj he=>by
 have:=(x3!.1 h) m j (by simpa using hm) (by simpa using hj) hmj;simp only[List.getElem_map]at this;exact this he
theorem nv! {l:List (ByteArray × RT)}(h:∀j (_:j<l.length),kc! l j):(l.map (·.1)).Nodup:=x3!.2 fun m j hm hj hmj=>by
 simp only[List.getElem_map];exact h j (by simpa using hj) m (by simpa using hm) (by simpa using hj) hmj
def chk06 (ts:List TyS):Int:=if br! ts then(if bQ! ts then(if aT! ts then(if bF! ts then 0 else 2)else 3)else 10)else 9
theorem db! (ts:List TyS)(tv:Value)(w:World)(h:pU! (· < w.heap.size) w ts tv)(hok:∀t∈ts,t.Ok)(hsz:schW ts<=80000000):Calls prog 41 #[.agg #[tv]] w fun e w'=>e= .returned (.int .i64 (chk06 ts))/\Below w.heap.size w w':=by
 have az:Below w.heap.size w (w.alloc (.cells #[tv] 26)):=(Below.refl _ _).alloc (n0! _) _;have aF:=h! (hP! ts tv _ (h.up az) hok hsz);have aU:=h! h;have aq:=h! az;have al:=h! (Blk.made w #[tv] 26);obtain⟨ao,c,rfl,b1,b0,a0⟩:=h.rows;have HC:=h! a0;have aN:=h! hsz;have Z:=al.out.cells;generalize hg:chk06 ts=g;have HG:=h! hg.symm;clear h a0 hok hsz hg az;go_enter func41,ntmps41
 go_wp2_with fail
 refine aF.out.mono ?_;rintro e w2 ⟨s,rfl,aC⟩;have a4:=h! (aq.out.trans (aC.mono aq.out.size));have af:=h! (al.out.below aC);have ax:=af.out.cells;clear aF aC Z aq al;cases hp:br! ts with
 | false =>
  have HF:=h! (show g=9 from by rw[HG.out];unfold chk06;rw[hp];rfl);rw[show prN false=9 from rfl];clear hp;go_wp2_with fail
  go_ret
  exact⟨by rw[HF.out];rfl,a4.out⟩
 | true =>
  rw[show prN true=0 from rfl];have aw:=h! (show g=if bQ! ts then(if aT! ts then(if bF! ts then 0 else 2)else 3)else 10 from by rw[HG.out];unfold chk06;rw[hp];rfl);clear hp HG;by_cases hl16:ts.length<=16
  rotate_left
  ·have HF:=h! (show g=10 from by rw[aw.out,if_neg];unfold bQ!;simp[hl16]);have aY:(16:Int)<ts.length:=by omega
   clear hl16;go_wp2_with fail
   go_ret
   exact⟨by rw[HF.out];rfl,a4.out⟩
  have aY:¬ ((16:Int)<ts.length):=by omega
  have aA:=h! hl16;clear hl16;go_wp2_with fail
  clear ax;go_loopw [35] (fun ii wr=>∃i:Nat,i<=ts.length/\ii= .int .i64 i/\(∀j (hj:j<ts.length),j<i->bj! ts[j]=true)/\Below w2.heap.size w2 wr) (fun ii _=>ts.length-(intOf ii).toNat)
  case atStart=>exact⟨0,by omega,rfl,fun _ _ h=>absurd h (by omega),Below.refl _ _⟩
  case round =>
   obtain⟨i,hi,rfl,l,o⟩:=hrel;have H:=h! l;have d:Below w.heap.size w wr:=a4.out.trans (o.mono a4.out.size);clear l;by_cases hlt:i<ts.length
   ·have ag:=h! (fun h=>ah! (p:=fun j hj=>bj! ts[j]=true) H.out hlt h)
    have J:=h! (fun(h:bj! ts[i]=false)=>(show g=10 from by
     rw[aw.out,if_neg];unfold bQ!;rw[v0!];intro h2;rw[u8!.1 h2.2 _ (n5! hlt)]at h;cases h))
    have ae:=mt! ts (i+1);rw[gJ! hlt]at ae;have aO:=aN.out;have aZ:Hid (relW ts[i].rels<=80000000):=h! (by omega);obtain⟨b,A,a6,L,hb,c0,c1,f⟩:=HC.out i hlt;cases L;have d0:=(d.cell (p:=⟨b,A+i*2,none⟩) hb).trans c0;have d1:=(d.cell (p:=⟨b,A+i*2+1,none⟩) hb).trans c1;obtain⟨C,D,rfl,-⟩:=f.rows;have E:=d.alloc d.size (.cells #[.string ts[i].name,.slice C ts[i].rels.length D] 176);have n:=f.up E;have U:=h! (Blk.made wr #[.string ts[i].name,.slice C ts[i].rels.length D] 176);have K:=U.out.cells;have B:=h! E;clear c0 c1 f E d;have a7:=h! hlt;have N:=h! (o.alloc o.size (.cells #[.string ts[i].name,.slice C ts[i].rels.length D] 176));clear ae aO o;generalize ts[i]=t at *;obtain⟨tn,rels⟩:=t;dsimp only at *;obtain⟨aH,c3,ab,ai,ah,v⟩:=n.rows;injection ab with hv31 hv32 hv33
    subst hv31 hv33;have a9:=h! v;clear v hv32 n;by_cases hr16:rels.length<=16
    rotate_left
    ·have HF:=h! (J.out (by unfold bj!;simp[hr16]));have aX:(16:Int)<rels.length:=by omega
     clear hr16;go_wp2_with fail
     go_ret
     exact⟨by rw[HF.out];rfl,B.out⟩
    have aX:¬ ((16:Int)<rels.length):=by omega
    have ap:=h! hr16;clear hr16;go_wp2_with fail
    obtain⟨wq,aD⟩:=e! (wr.alloc (.cells #[.string tn,.slice C rels.length D] 176));rw[<-aD]at B a9 N ⊢;have X:=h! B.out;clear aD B K d0 d1 hlt;go_loopw [46] (fun jj wr=>∃j:Nat,j<=rels.length/\jj= .int .i64 j/\(∀m (hm:m<rels.length),m<j->rels[m].2.sz<=32)/\Below wq.heap.size wq wr) (fun jj _=>rels.length-(intOf jj).toNat)
    case atStart=>exact⟨0,by omega,rfl,fun _ _ h=>absurd h (by omega),Below.refl _ _⟩
    case round =>
     obtain⟨j,hj,rfl,l,I⟩:=hrel;have F:=h! l;clear l;by_cases hlt:j<rels.length
     ·have G:=h! (fun h=>ah! (p:=fun m hm=>rels[m].2.sz<=32) F.out hlt h)
      have z:=h! (fun(h:¬ rels[j].2.sz<=32)=>J.out (by
       unfold bj!;rw[Bool.and_eq_false_iff];right
       exact List.all_eq_false.2 ⟨rels[j],n5! hlt,by simpa using h⟩))
      have ae:=mu! rels (j+1);rw[gK! hlt]at ae;have aP:=aZ.out;have d:=I;obtain⟨b,A,a6,L,hb,c0,c1,c2,c3,c4,f⟩:=a9.out j hlt;cases L;have d0:=(d.cell (p:=⟨b,A+j*5,none⟩) hb).trans c0;have d1:=(d.cell (p:=⟨b,A+j*5+1,none⟩) hb).trans c1;have d2:=(d.cell (p:=⟨b,A+j*5+2,none⟩) hb).trans c2;have d3:=(d.cell (p:=⟨b,A+j*5+3,none⟩) hb).trans c3;have d4:=(d.cell (p:=⟨b,A+j*5+4,none⟩) hb).trans c4;obtain⟨C,D,rfl,-⟩:=f.rows;have E:=d.alloc d.size (.cells #[.string rels[j].1,.int .i64 rels[j].2.k,.string rels[j].2.a,.string rels[j].2.b,.slice C rels[j].2.ps.length D] 181);have n:=f.up E;have M:=h! (Blk.made wr #[.string rels[j].1,.int .i64 rels[j].2.k,.string rels[j].2.a,.string rels[j].2.b,.slice C rels[j].2.ps.length D] 181);have K:=M.out.cells;have B:=h! E;clear c0 c1 c2 c3 c4 f E d;generalize rels[j]=x at *;obtain⟨xn,p⟩:=x;dsimp only at *;have HR:=h! (iJ! p _ _ n (by omega));unfold rV at HR;clear n ae aP;by_cases hs32:p.sz<=32
      ·have aS:¬ ((32:Int)<p.sz):=by omega
       have HN:=h! (G.out hs32);clear G z;go_wp2_with fail
       refine HR.out.mono ?_;rintro e w5 ⟨rfl,Q⟩;have a8:=h! (B.out.trans (Q.mono B.out.size));clear HR Q K d0 d1 d2 d3 d4 B M;go_wp2_with fail
       go_roundw
       case rel=>exact⟨j+1,by omega,by go_num,HN.out,a8.out⟩
       case measure=>simp[intOf];omega
      ·have aS:(32:Int)<p.sz:=by omega
       have HF:=h! (z.out hs32);clear G z;go_wp2_with fail
       refine HR.out.mono ?_;rintro e w5 ⟨rfl,Q⟩;have a8:=h! (X.out.trans ((B.out.trans (Q.mono B.out.size)).mono X.out.size));clear HR Q K d0 d1 d2 d3 d4 B M;go_wp2_with fail
       go_ret
       exact⟨by rw[HF.out];rfl,a8.out⟩
     ·obtain rfl:j=rels.length:=by omega
      have HN:=h! (ag.out (by
       unfold bj!;rw[v0!,u1!];refine⟨ap.out,u8!.2 fun x hx=>?_⟩;obtain⟨m,hm,rfl⟩:=u0! hx;exact v2! (F.out m hm hm)))
      have O:=h! (N.out.trans (I.mono N.out.size));have a5:=a7.out;clear I;go_wp2_with fail
      go_roundw
      case rel=>exact⟨i+1,by omega,by go_num,HN.out,O.out⟩
      case measure=>simp[intOf];omega
   ·obtain rfl:i=ts.length:=by omega
    have aK:=h! (show g=if aT! ts then(if bF! ts then 0 else 2)else 3 from by
     rw[aw.out,if_pos];unfold bQ!;rw[v0!,u1!];refine⟨aA.out,u8!.2 fun x hx=>?_⟩;obtain⟨m,hm,rfl⟩:=u0! hx;exact H.out m hm hm)
    have av:=(af.out.below o).cells;have V:=h! o;clear d o H;go_wp2_with fail
    clear av;go_loopw [59] (fun ii wr=>∃i:Nat,i<=ts.length/\ii= .int .i64 i/\(∀j (hj:j<ts.length),j<i->ig! ts j/\((ts[j].rels.map (·.1)).Nodup))/\Below w2.heap.size w2 wr) (fun ii _=>ts.length-(intOf ii).toNat)
    case atStart=>exact⟨0,by omega,rfl,fun _ _ h=>absurd h (by omega),V.out⟩
    case round =>
     obtain⟨i,hi,rfl,l,o⟩:=hrel;have H:=h! l;have d:Below w.heap.size w wr:=a4.out.trans (o.mono a4.out.size);clear l V;by_cases hlt:i<ts.length
     ·have ag:=h! (fun h=>ah! (p:=fun j hj=>ig! ts j/\((ts[j].rels.map (·.1)).Nodup)) H.out hlt h);have J:=h! (fun(h:¬ (ig! ts i/\((ts[i].rels.map (·.1)).Nodup)))=>(show g=3 from by rw[aK.out,if_neg (fun hu=>h (cj! hu hlt))]));obtain⟨b,A,a6,L,hb,c0,c1,f⟩:=HC.out i hlt;cases L;have d0:=(d.cell (p:=⟨b,A+i*2,none⟩) hb).trans c0;have d1:=(d.cell (p:=⟨b,A+i*2+1,none⟩) hb).trans c1;obtain⟨C,D,rfl,-⟩:=f.rows;have E:=d.alloc d.size (.cells #[.string ts[i].name,.slice C ts[i].rels.length D] 176);have n:=f.up E;have U:=h! (Blk.made wr #[.string ts[i].name,.slice C ts[i].rels.length D] 176);have K:=U.out.cells;have B:=h! E;clear c0 c1 f E d;have a7:=h! hlt;have N:=h! (o.alloc o.size (.cells #[.string ts[i].name,.slice C ts[i].rels.length D] 176));have ak:=(af.out.below N.out).cells;clear o;generalize hti:ts[i]=t at *;have aI:=h! hti;clear hti;obtain⟨tn,rels⟩:=t;dsimp only at *;obtain⟨aH,c3,ab,ai,ah,v⟩:=n.rows;injection ab with hv31 hv32 hv33
      subst hv31 hv33;have a9:=h! v;have R:=h! U.out;have X:=h! B.out;have aR:(0:Int)<=(i:Int):=by omega
      have aW:(i:Int)<=(ts.length:Int):=by omega
      clear v hv32 n hlt;go_wp2_with fail
      clear K ak d0 d1 U B aR aW;generalize wr.alloc (.cells #[.string tn,.slice C rels.length D] 176)=wq at *;generalize wr.heap.size=bt at *;go_loopw [69] (fun mm wr=>∃m:Nat,m<=i/\mm= .int .i64 m/\(∀j (hj:j<ts.length),j<m->ts[j].name≠tn)/\Below wq.heap.size wq wr) (fun mm _=>i-(intOf mm).toNat)
      case atStart=>exact⟨0,by omega,rfl,fun _ _ h=>absurd h (by omega),Below.refl _ _⟩
      case round =>
       obtain⟨m,hm,rfl,l,I⟩:=hrel;have F:=h! l;clear l;by_cases hmi:m<i
       ·have hlt:m<ts.length:=Nat.lt_trans hmi a7.out;have G:=h! (fun h=>ah! (p:=fun j hj=>ts[j].name≠tn) F.out hlt h);have z:=h! (fun(h:ts[m].name=tn)=>J.out (fun hf=>hf.1 m hlt a7.out hmi (h.trans (congrArg TyS.name aI.out).symm)));have d:Below w.heap.size w wr:=X.out.trans (I.mono X.out.size);obtain⟨b,A,a6,L,hb,c0,c1,f⟩:=HC.out m hlt;cases L;have d0:=(d.cell (p:=⟨b,A+m*2,none⟩) hb).trans c0;have d1:=(d.cell (p:=⟨b,A+m*2+1,none⟩) hb).trans c1;obtain⟨C,D,rfl,-⟩:=f.rows;have E:=d.alloc d.size (.cells #[.string ts[m].name,.slice C ts[m].rels.length D] 176);have n:=f.up E;have U:=h! (Blk.made wr #[.string ts[m].name,.slice C ts[m].rels.length D] 176);have K:=U.out.cells;have B:=h! E;clear c0 c1 f E d;have aj:=h! (I.alloc I.size (.cells #[.string ts[m].name,.slice C ts[m].rels.length D] 176));have a3:=(R.out.below aj.out).cells;clear I n;generalize ts[m]=u at *;obtain⟨un,aG⟩:=u;dsimp only at *;by_cases he:un=tn
        ·have HF:=h! (z.out he);subst he;clear G z;go_wp2_with fail
         go_ret
         exact⟨by rw[HF.out];rfl,B.out⟩
        ·have HN:=h! (G.out he);have am:=aH! (fun h=>he h.symm);rw[<-u5!,<-u5!]at am;clear G z he;go_wp2_with fail
         go_roundw
         case rel=>exact⟨m+1,by omega,by go_num,HN.out,aj.out⟩
         case measure=>simp[intOf];omega
       ·obtain rfl:m=i:=by omega
        have aM:Hid (ig! ts m):=h! (fun j hj hm hjm he=>F.out j hj hjm (he.trans (congrArg TyS.name aI.out)));have a3:=(R.out.below I).cells;have ad:=h! I;clear I F;go_wp2_with fail
        clear a3;go_loopw [82] (fun kk wr=>∃k:Nat,k<=rels.length/\kk= .int .i64 k/\(∀j (hj:j<rels.length),j<k->kc! rels j)/\Below wq.heap.size wq wr) (fun kk _=>rels.length-(intOf kk).toNat)
        case atStart=>exact⟨0,by omega,rfl,fun _ _ h=>absurd h (by omega),ad.out⟩
        case round =>
         obtain⟨k,hk,rfl,l,I⟩:=hrel;have a2:=h! l;clear l ad;by_cases hlt:k<rels.length
         ·have ar:=h! (fun h=>ah! (p:=fun j hj=>kc! rels j) a2.out hlt h);have ac:=h! (fun(h:¬ kc! rels k)=>J.out (fun hf=>h (kb! hf.2 k)));have d:=I;obtain⟨b,A,a6,L,hb,c0,c1,c2,c3,c4,f⟩:=a9.out k hlt;cases L;have d0:=(d.cell (p:=⟨b,A+k*5,none⟩) hb).trans c0;have d1:=(d.cell (p:=⟨b,A+k*5+1,none⟩) hb).trans c1;have d2:=(d.cell (p:=⟨b,A+k*5+2,none⟩) hb).trans c2;have d3:=(d.cell (p:=⟨b,A+k*5+3,none⟩) hb).trans c3;have d4:=(d.cell (p:=⟨b,A+k*5+4,none⟩) hb).trans c4;obtain⟨C,D,rfl,-⟩:=f.rows;have E:=d.alloc d.size (.cells #[.string rels[k].1,.int .i64 rels[k].2.k,.string rels[k].2.a,.string rels[k].2.b,.slice C rels[k].2.ps.length D] 181);have n:=f.up E;have M:=h! (Blk.made wr #[.string rels[k].1,.int .i64 rels[k].2.k,.string rels[k].2.a,.string rels[k].2.b,.slice C rels[k].2.ps.length D] 181);have K:=M.out.cells;have B:=h! E;clear c0 c1 c2 c3 c4 f E d;have a3:=(R.out.below B.out).cells;have ay:=h! M.out;have Y:=h! B.out;have an:=h! hlt;have aV:(0:Int)<=(k:Int):=by omega
          have aT:(k:Int)<=(rels.length:Int):=by omega
          clear I n;generalize hrk:rels[k]=x at *;have aJ:=h! hrk;clear hrk hlt;obtain⟨xn,p⟩:=x;dsimp only at *;go_wp2_with fail
          clear K a3 d0 d1 d2 d3 d4 M B aV aT;generalize wr.alloc (.cells #[.string xn,.int .i64 p.k,.string p.a,.string p.b,.slice C p.ps.length D] 181)=wk at *;generalize wr.heap.size=bk at *;go_loopw [92] (fun qq wr=>∃q:Nat,q<=k/\qq= .int .i64 q/\(∀j (hj:j<rels.length),j<q->rels[j].1≠xn)/\Below wk.heap.size wk wr) (fun qq _=>k-(intOf qq).toNat)
          case atStart=>exact⟨0,by omega,rfl,fun _ _ h=>absurd h (by omega),Below.refl _ _⟩
          case round =>
           obtain⟨q,hq,rfl,l,Z⟩:=hrel;have a1:=h! l;clear l;by_cases hqk:q<k
           ·have hlt:q<rels.length:=Nat.lt_trans hqk an.out;have aa:=h! (fun h=>ah! (p:=fun j hj=>rels[j].1≠xn) a1.out hlt h);have T:=h! (fun(h:rels[q].1=xn)=>ac.out (fun hf=>hf q hlt an.out hqk (h.trans (congrArg Prod.fst aJ.out).symm)));have d:Below wq.heap.size wq wr:=Y.out.trans (Z.mono Y.out.size);obtain⟨b,A,a6,L,hb,c0,c1,c2,c3,c4,f⟩:=a9.out q hlt;cases L;have d0:=(d.cell (p:=⟨b,A+q*5,none⟩) hb).trans c0;have d1:=(d.cell (p:=⟨b,A+q*5+1,none⟩) hb).trans c1;have d2:=(d.cell (p:=⟨b,A+q*5+2,none⟩) hb).trans c2;have d3:=(d.cell (p:=⟨b,A+q*5+3,none⟩) hb).trans c3;have d4:=(d.cell (p:=⟨b,A+q*5+4,none⟩) hb).trans c4;obtain⟨C,D,rfl,-⟩:=f.rows;have E:=d.alloc d.size (.cells #[.string rels[q].1,.int .i64 rels[q].2.k,.string rels[q].2.a,.string rels[q].2.b,.slice C rels[q].2.ps.length D] 181);have n:=f.up E;have M:=h! (Blk.made wr #[.string rels[q].1,.int .i64 rels[q].2.k,.string rels[q].2.a,.string rels[q].2.b,.slice C rels[q].2.ps.length D] 181);have K:=M.out.cells;have B:=h! E;clear c0 c1 c2 c3 c4 f E d;have aL:=h! (Z.alloc Z.size (.cells #[.string rels[q].1,.int .i64 rels[q].2.k,.string rels[q].2.a,.string rels[q].2.b,.slice C rels[q].2.ps.length D] 181));have a3:=(ay.out.below aL.out).cells;have O:=h! (X.out.trans (B.out.mono X.out.size));clear Z n;generalize rels[q]=y at *;obtain⟨yn,p2⟩:=y;dsimp only at *;by_cases he:yn=xn
            ·have HF:=h! (T.out he);subst he;clear aa T;go_wp2_with fail
             go_ret
             exact⟨by rw[HF.out];rfl,O.out⟩
            ·have HN:=h! (aa.out he);have am:=aH! (fun h=>he h.symm);rw[<-u5!,<-u5!]at am;clear aa T he;go_wp2_with fail
             go_roundw
             case rel=>exact⟨q+1,by omega,by go_num,HN.out,aL.out⟩
             case measure=>simp[intOf];omega
           ·obtain rfl:q=k:=by omega
            have HN:=h! (ar.out (fun j hj hq hjq he=>a1.out j hj hjq (he.trans (congrArg Prod.fst aJ.out))));have O:=h! (Y.out.trans (Z.mono Y.out.size));have a5:=an.out;clear Z;go_wp2_with fail
            go_roundw
            case rel=>exact⟨q+1,by omega,by go_num,HN.out,O.out⟩
            case measure=>simp[intOf];omega
         ·obtain rfl:k=rels.length:=by omega
          have HN:=h! (ag.out ⟨aM.out,nv! fun j hj=>a2.out j hj hj⟩);have O:=h! (N.out.trans (I.mono N.out.size));have a5:=a7.out;clear I;go_wp2_with fail
          go_roundw
          case rel=>exact⟨m+1,by omega,by go_num,HN.out,O.out⟩
          case measure=>simp[intOf];omega
     ·obtain rfl:i=ts.length:=by omega
      have aE:Hid (g=if bF! ts then 0 else 2):=h! (by rw[aK.out,if_pos (mj! fun j hj=>H.out j hj hj)]);have aB:=(af.out.below o).cells;have V:=h! o;clear d o H;go_wp2_with fail
      clear aB;go_loopw [107] (fun ii wr=>∃i:Nat,i<=ts.length/\ii= .int .i64 i/\(∀j (hj:j<ts.length),j<i->(ts[j].rels.all fun r=>r.2.named ts ts[j])=true)/\Below w2.heap.size w2 wr) (fun ii _=>ts.length-(intOf ii).toNat)
      case atStart=>exact⟨0,by omega,rfl,fun _ _ h=>absurd h (by omega),V.out⟩
      case round =>
       obtain⟨i,hi,rfl,l,o⟩:=hrel;have H:=h! l;have d:Below w.heap.size w wr:=a4.out.trans (o.mono a4.out.size);clear l V;by_cases hlt:i<ts.length
       ·have ag:=h! (fun h=>ah! (p:=fun j hj=>(ts[j].rels.all fun r=>r.2.named ts ts[j])=true) H.out hlt h)
        have J:=h! (fun(h:(ts[i].rels.all fun r=>r.2.named ts ts[i])=false)=>(show g=2 from by
         rw[aE.out,if_neg];intro h2;unfold bF! at h2;rw[u8!.1 h2 _ (n5! hlt)]at h;cases h))
        obtain⟨b,A,a6,L,hb,c0,c1,f⟩:=HC.out i hlt;cases L;have d0:=(d.cell (p:=⟨b,A+i*2,none⟩) hb).trans c0;have d1:=(d.cell (p:=⟨b,A+i*2+1,none⟩) hb).trans c1;obtain⟨C,D,rfl,-⟩:=f.rows;have E:=d.alloc d.size (.cells #[.string ts[i].name,.slice C ts[i].rels.length D] 176);have n:=f.up E;have U:=h! (Blk.made wr #[.string ts[i].name,.slice C ts[i].rels.length D] 176);have K:=U.out.cells;have B:=h! E;clear c0 c1 f E d;have a7:=h! hlt;have N:=h! (o.alloc o.size (.cells #[.string ts[i].name,.slice C ts[i].rels.length D] 176));have aQ:=h! n;clear o;generalize ts[i]=t at *;obtain⟨tn,rels⟩:=t;dsimp only at *;obtain⟨aH,c3,ab,ai,ah,v⟩:=n.rows;injection ab with hv31 hv32 hv33
        subst hv31 hv33;have a9:=h! v;have R:=h! U.out;have X:=h! B.out;clear v hv32 n;go_wp2_with fail
        clear K d0 d1 U B hlt;generalize wr.alloc (.cells #[.string tn,.slice C rels.length D] 176)=wq at *;generalize wr.heap.size=bt at *;go_loopw [114] (fun jj wr=>∃j:Nat,j<=rels.length/\jj= .int .i64 j/\(∀m (hm:m<rels.length),m<j->rels[m].2.named ts ⟨tn,rels⟩=true)/\Below wq.heap.size wq wr) (fun jj _=>rels.length-(intOf jj).toNat)
        case atStart=>exact⟨0,by omega,rfl,fun _ _ h=>absurd h (by omega),Below.refl _ _⟩
        case round =>
         obtain⟨j,hj,rfl,l,I⟩:=hrel;have F:=h! l;clear l;by_cases hlt:j<rels.length
         ·have G:=h! (fun h=>ah! (p:=fun m hm=>rels[m].2.named ts ⟨tn,rels⟩=true) F.out hlt h);have z:=h! (fun(h:rels[j].2.named ts ⟨tn,rels⟩=false)=>J.out (List.all_eq_false.2 ⟨rels[j],n5! hlt,by rw[h];exact Bool.false_ne_true⟩));have d:=I;obtain⟨b,A,a6,L,hb,c0,c1,c2,c3,c4,f⟩:=a9.out j hlt;cases L;have d0:=(d.cell (p:=⟨b,A+j*5,none⟩) hb).trans c0;have d1:=(d.cell (p:=⟨b,A+j*5+1,none⟩) hb).trans c1;have d2:=(d.cell (p:=⟨b,A+j*5+2,none⟩) hb).trans c2;have d3:=(d.cell (p:=⟨b,A+j*5+3,none⟩) hb).trans c3;have d4:=(d.cell (p:=⟨b,A+j*5+4,none⟩) hb).trans c4;obtain⟨C,D,rfl,-⟩:=f.rows;have E:=d.alloc d.size (.cells #[.string rels[j].1,.int .i64 rels[j].2.k,.string rels[j].2.a,.string rels[j].2.b,.slice C rels[j].2.ps.length D] 181);have n:=f.up E;have M:=h! (Blk.made wr #[.string rels[j].1,.int .i64 rels[j].2.k,.string rels[j].2.a,.string rels[j].2.b,.slice C rels[j].2.ps.length D] 181);have K:=M.out.cells;have B:=h! E;clear c0 c1 c2 c3 c4 f E d;have aj:=h! (N.out.trans (B.out.mono N.out.size));have ak:=(af.out.below aj.out).cells;have a3:=(R.out.below B.out).cells;have au:=h! (X.out.trans (B.out.mono X.out.size));generalize rels[j]=x at *;obtain⟨xn,p⟩:=x;dsimp only at *;have HR:=h! (hU! ts ⟨tn,rels⟩ _ _ p _ _ (aU.out.up au.out) (aQ.out.up B.out) n);unfold rV at HR;clear n I;cases hn:p.named ts ⟨tn,rels⟩ with
          | true =>
           rw[hn]at HR;have HN:=h! (G.out hn);clear G z hn;go_wp2_with fail
           refine HR.out.mono ?_;rintro e w5 ⟨rfl,Q⟩;have a8:=h! (B.out.trans (Q.mono B.out.size));clear HR Q K ak a3 d0 d1 d2 d3 d4 B M;go_wp2_with fail
           go_roundw
           case rel=>exact⟨j+1,by omega,by go_num,HN.out,a8.out⟩
           case measure=>simp[intOf];omega
          | false =>
           rw[hn]at HR;have HF:=h! (z.out hn);clear G z hn;go_wp2_with fail
           refine HR.out.mono ?_;rintro e w5 ⟨rfl,Q⟩;have a8:=h! (au.out.trans (Q.mono au.out.size));clear HR Q K ak a3 d0 d1 d2 d3 d4 B M;go_wp2_with fail
           go_ret
           exact⟨by rw[HF.out];rfl,a8.out⟩
         ·obtain rfl:j=rels.length:=by omega
          have HN:=h! (ag.out (u8!.2 fun x hx=>by
           obtain⟨m,hm,rfl⟩:=u0! hx;exact F.out m hm hm))
          have O:=h! (N.out.trans (I.mono N.out.size));have a5:=a7.out;clear I;go_wp2_with fail
          go_roundw
          case rel=>exact⟨i+1,by omega,by go_num,HN.out,O.out⟩
          case measure=>simp[intOf];omega
       ·obtain rfl:i=ts.length:=by omega
        have HF:=h! (show g=0 from by
         rw[aE.out,if_pos];unfold bF!;rw[u8!];intro x hx;obtain⟨m,hm,rfl⟩:=u0! hx;exact H.out m hm hm)
        have O:=h! d;clear d o;go_wp2_with fail
        go_ret
        exact⟨by rw[HF.out];rfl,O.out⟩
abbrev RV:=RT × Value
def rvV (x:RV):Value:=rV x.1 x.2
abbrev WV:=List ByteArray × Value
def wvV (x:WV):Value:=x.2
def txs (l:List ByteArray):List Value:=l.map Value.string
theorem ov! (l:List ByteArray):∀u∈txs l,u.oneCell'=true:=by
 intro u hu;obtain⟨s,_,rfl⟩:=u6!.1 hu;rfl
theorem af! (l:List ByteArray):(txs l).length=l.length:=by simp[txs]
theorem bo! (a b:List ByteArray):txs (a++b)=txs a++txs b:=by simp[txs]
theorem hB!:pN! prog 169 9 1 16:=pN!.mk' Tryz.underlying169 (show _=some (some (.string ByteArray.empty),1,16)by kernel_rfl) rfl (by decide)
def aV! (n:ByteArray)(l:List (ByteArray × RT)):List (R2 × RT):=l.map fun r=>(⟨n,r.1⟩,r.2)
def ac! (ts:List TyS):List (R2 × RT):=ts.flatMap fun t=>aV! t.name t.rels
def aN! (P:List (R2 × RT))(n:ByteArray):List ByteArray:=(P.filter fun x=>decide (x.1.r=n)).map (·.1.t)
def optL (l:List ByteArray):Option (List ByteArray):=if l=[]then none else some l
theorem hx! (P:List (R2 × RT))(x:R2 × RT)(n:ByteArray):aN! (P++[x]) n=if x.1.r=n then aN! P n++[x.1.t]else aN! P n:=by
 unfold aN!;rw[List.filter_append,v9!];by_cases h:x.1.r=n
 ·simp[h]
 ·simp[h]
theorem bH! (a b:List TyS):ac! (a++b)=ac! a++ac! b:=x9!
theorem hO! {l:List TyS}{i:Nat}(hi:i<l.length):ac! (l.take (i+1))=ac! (l.take i)++aV! l[i].name l[i].rels:=by
 rw[n2! hi,bH!];simp[ac!]
theorem hN! {n:ByteArray}{l:List (ByteArray × RT)}{i:Nat}(hi:i<l.length):aV! n (l.take (i+1))=aV! n (l.take i)++[(⟨n,l[i].1⟩,l[i].2)]:=by
 rw[n2! hi];simp only[aV!,v9!,v8!,List.map_nil]
structure WhRows (w:World)(B:Nat)(lw:List (ByteArray × WV)):Prop where
 rows:∀x∈lw,x.2.1≠[]/\Own w B 9 1 x.2.2 (txs x.2.1)
 apart:∀x∈lw,∀y∈lw,x.1≠y.1->x.2.2.ownBlock≠y.2.2.ownBlock
def BkR (S:Nat->Prop)(w:World)(b1:Nat)(P:List (R2 × RT)):Prop :=
 ∃lr:List (R2 × RV),Mp prog 121 r2V rvV w b1 lr/\lr.map (fun x=>(x.1,x.2.1))=P/\∀x∈lr,RTAt S w x.2.1 x.2.2
def BkW (w:World)(B b3:Nat)(P:List (R2 × RT)):Prop :=
 ∃lw:List (ByteArray × WV),Mp prog 9 Value.string wvV w b3 lw/\WhRows w B lw/\∀n,(lookA lw n).map (·.1)=optL (aN! P n)
theorem Own.notMap {w:World}{B:Nat}{e:TypeId}{sz:Nat}{v:Value}{xs:List Value}(h:Own w B e sz v xs) {b:Nat}(hb:∀cs t fr,w.heap[b]?≠some (.cells cs t fr)):∀g,v.ownBlock=some g->g≠b:=by
 intro g hg he;obtain⟨n,h⟩:=h;rcases h.2 with⟨rfl,_⟩|⟨g',cap,cur,rfl,hbg,hg',r⟩
 ·cases hg
 ·injection hg with hg
  subst hg he;exact hb _ _ _ hg'
theorem Mp.notCells {P:Program}{k:TypeId}{κ α:Type}{kv:κ->Value}{ev:α->Value}{w:World}{b:Nat}{l:List (κ × α)}(h:Mp P k kv ev w b l):∀cs t fr,w.heap[b]?≠some (.cells cs t fr):=by
 obtain⟨es,a0,hb,_⟩:=h;intro cs t fr h;rw[hb]at h;cases h
theorem jf! {w:World}{B:Nat}{e:TypeId}{v:Value}{l:List ByteArray}(h:Own w B e 1 v (txs l))(hl:l≠[]):∃g,v.ownBlock=some g:=by
 obtain⟨n,h⟩:=h;rcases h.2 with⟨rfl,rfl⟩|⟨g',cap,cur,rfl,hbg,hg',r⟩
 ·have:=h.1;rw[af!]at this;exact absurd (x0! (by omega)) hl
 ·exact⟨g',rfl⟩
theorem WhRows.keep {w w':World}{B:Nat}{lw:List (ByteArray × WV)}(h:WhRows w B lw)(hs:∀x,B<=x->x<w.heap.size->(∃cs,w.heap[x]?=some (.cells cs 9 (0,0)))->w'.heap[x]?=w.heap[x]?):WhRows w' B lw :=
 ⟨fun x hx=>⟨(h.rows x hx).1,(h.rows x hx).2.keepB fun g hg=>by
  have ho:=(h.rows x hx).2;have hb:=ho.block g hg;refine hs g hb.1 hb.2 ?_;obtain⟨n,ho⟩:=ho;rcases ho.2 with⟨h0,_⟩|⟨g',cap,cur,h0,hbg,hg',r⟩
  ·rw[h0]at hg;cases hg
  ·rw[h0]at hg;injection hg with hg
   subst hg;exact⟨_,hg'⟩⟩,h.apart⟩
theorem dF! {κ α:Type} [DecidableEq κ] (a:κ)(y:α)(x:κ × α):∀ {l:List (κ × α)},(l.map (·.1)).Nodup->x∈putA l a y->x=(a,y)\/(x∈l/\x.1≠a)
 | [],_,h=>by simp[putA]at h;exact .inl h
 | p::r,hn,h=>by
  simp only[v8!,List.nodup_cons]at hn;unfold putA at h;split at h
  ·rename_i e
   rcases v7!.1 h with h | h
   ·exact .inl h
   ·exact .inr ⟨by simp[h],fun e2=>hn.1 (by rw[e,<-e2];exact u6!.2 ⟨x,h,rfl⟩)⟩
  ·rename_i e
   rcases v7!.1 h with h | h
   ·exact .inr ⟨by simp[h],h▸e⟩
   ·rcases dF! a y x hn.2 h with h | h
    ·exact .inl h
    ·exact .inr ⟨by simp[h.1],h.2⟩
theorem WhRows.put {w w1 w2 w3:World}{B b3:Nat}{lw:List (ByteArray × WV)}(h:WhRows w B lw) {n:ByteArray}{names:List ByteArray}{v v':Value}(hl:(lookA lw n=some (names,v))\/(lookA lw n=none/\names=[]/\v= .slice none 0 0))
  (h1:Below w.heap.size w w1) (h2:w1.grownBy w2 v.ownBlock) {tn:ByteArray} (ho:Own w2 B 9 1 v' (txs (names++[tn]))) (hw:∀g,v'.ownBlock=some g->v.ownBlock=some g\/w1.heap.size<=g)
  (hm:Mp prog 9 Value.string wvV w b3 lw) (hm2:Mp prog 9 Value.string wvV w2 b3 lw) (ht:pT! w2 w3 b3):WhRows w3 B (putA lw n (names++[tn],v')):=by
 have b:=hm.nodup
 have c:∀x∈lw,x.1≠n->∀g,x.2.2.ownBlock=some g->v.ownBlock≠some g:=fun x hx hne g d e=>by
  rcases hl with hl | ⟨_,_,rfl⟩
  ·exact h.apart x hx _ (aD! hl) hne (d.trans e.symm)
  ·cases e
 have lt:∀x∈lw,∀g,x.2.2.ownBlock=some g->g<w.heap.size:=fun x hx g d=>((h.rows x hx).2.block g d).2;refine⟨fun x hx=>?_,fun x hx y hy hne=>?_⟩
 ·rcases dF! _ _ _ b hx with rfl | ⟨hx,hxn⟩
  ·exact⟨by simp,ho.keepB fun g d=>ht.kept.block g (ho.notMap hm2.notCells g d)⟩
  ·have hr:=(h.rows x hx).2;have a0:=hr.below h1;refine⟨(h.rows x hx).1,a0.keepB fun g d=>?_⟩;have a2:=lt x hx g d;have a1:=h1.size;refine(ht.kept.block g ?_).trans (h2.block g (by omega) fun e=>c x hx hxn g d e.symm);intro e;subst e;exact hr.notMap hm.notCells g d rfl
 ·rcases dF! _ _ _ b hx with rfl | ⟨hx,hxn⟩ <;> rcases dF! _ _ _ b hy with rfl | ⟨hy,hyn⟩
  ·exact absurd rfl hne
  ·intro e;obtain⟨g,d⟩:=jf! ho (by simp);have a:y.2.2.ownBlock=some g:=e.symm.trans d;rcases hw g d with h3 | h3
   ·exact c y hy hyn g a h3
   ·have:=lt y hy g a;have:=h1.size;omega
  ·intro e;obtain⟨g,d⟩:=jf! ho (by simp);have a:x.2.2.ownBlock=some g:=e.trans d;rcases hw g d with h3 | h3
   ·exact c x hx hxn g a h3
   ·have:=lt x hx g a;have:=h1.size;omega
  ·exact h.apart x hx y hy hne
section
variable {S : Nat -> Prop} {w w' : World} {B b1 b3 : Nat} {P : List (R2 × RT)}
theorem BkR.lt (h:BkR S w b1 P):b1<w.heap.size:=by
 obtain⟨lr,h1,_⟩:=h;exact h1.lt
theorem BkR.notCells (h:BkR S w b1 P):∀cs t fr,w.heap[b1]?≠some (.cells cs t fr):=by
 obtain⟨lr,h1,_⟩:=h;exact h1.notCells
theorem BkR.same (h:BkR S w b1 P)(hb:w'.heap[b1]?=w.heap[b1]?)(hs:Same S w w'):BkR S w' b1 P:=by
 obtain⟨lr,h1,h2,h3⟩:=h;exact⟨lr,h1.same hb,h2,fun x hx=>(h3 x hx).same hs⟩
theorem BkR.up (h:BkR (· < w.heap.size) w b1 P)(hb:Below w.heap.size w w'):BkR (· < w'.heap.size) w' b1 P:=by
 obtain⟨lr,h1,h2,h3⟩:=h;exact⟨lr,h1.below hb,h2,fun x hx=>(h3 x hx).up hb⟩
theorem BkW.lt (h:BkW w B b3 P):b3<w.heap.size:=by
 obtain⟨lw,h1,_⟩:=h;exact h1.lt
theorem BkW.keep (h:BkW w B b3 P)(hb:w'.heap[b3]?=w.heap[b3]?)(hs:∀x,B<=x->x<w.heap.size->(∃cs,w.heap[x]?=some (.cells cs 9 (0,0)))->w'.heap[x]?=w.heap[x]?):BkW w' B b3 P:=by
 obtain⟨lw,h1,h2,h3⟩:=h;exact⟨lw,h1.same hb,h2.keep hs,h3⟩
theorem BkW.up (h:BkW w B b3 P)(hb:Below w.heap.size w w'):BkW w' B b3 P:=h.keep (hb.block _ h.lt) fun x _ hx _=>hb.block x hx
theorem BkW.turned (h:BkW w B b3 P) {b:Nat}(ht:pT! w w' b)(hb:b3≠b)(hc:∀cs t fr,w.heap[b]?≠some (.cells cs t fr)):BkW w' B b3 P :=
 h.keep (ht.kept.block _ hb) fun x _ _ hx=>ht.kept.block x fun e=>by
  obtain⟨cs,hx⟩:=hx;exact hc _ _ _ (e▸hx)
theorem dJ! {α β:Type}{f:α->β}{k:R2}:∀ {l:List (R2 × α)}{P:List (R2 × β)},l.map (fun x=>(x.1,f x.2))=P->(lookA l k).map f=lookA P k
 | [],P,h=>by subst h;rfl
 | x::l,P,h=>by
  subst h;simp only[v8!,lookA];split
  ·rfl
  ·exact dJ! rfl
theorem BkR.look (h:BkR S w b1 P)(k:R2)(hk:k.Ok):∃z:RV,(Instr.lookup 225 (.map (some b1)) (r2V k) true).run prog w= .ok (.tuple #[rvV z,.bool (lookA P k).isSome]) w/\RTAt S w z.1 z.2/\(∀r,lookA P k=some r->z.1=r)/\(lookA P k=none->z=(.mk 0 ByteArray.empty ByteArray.empty [],.slice none 0 0)):=by
 obtain⟨lr,h1,h2,h3⟩:=h;have b:=dJ! (f:=fun x:RV=>x.1) (k:=k) h2;have a:=h1.look refK ct! Tryz.underlying225 (Tryz.zeroValue106 w) true (cs! k hk);cases hlk:lookA lr k with
 | none =>
  rw[hlk]at b a;refine⟨(.mk 0 ByteArray.empty ByteArray.empty [],.slice none 0 0),?_,?_,?_,fun _=>rfl⟩
  ·rw[a,<-b];rfl
  ·exact(RTAt.iff _ _).2 ⟨[],rfl,by simp,Sl.nil _ _ _⟩
  ·intro r hr;rw[<-b]at hr;cases hr
 | some x =>
  rw[hlk]at b a;refine⟨x,?_,h3 _ (aD! hlk),?_,?_⟩
  ·rw[a,<-b];rfl
  ·intro r hr;rw[<-b]at hr;injection hr
  ·intro hr;rw[<-b]at hr;cases hr
theorem BkR.store (h:BkR S w b1 P) {k:R2}(hk:k.Ok) {r:RT}{pv:Value}(hr:RTAt S w r pv)(hS:∀x,S x->x≠b1)(hn:lookA P k=none) :
  ∃w',(Instr.mapUpdate 225 (.map (some b1)) (r2V k) (rV r pv)).run prog w= .ok () w'/\BkR S w' b1 (P++[(k,r)])/\pT! w w' b1:=by
 obtain⟨lr,h1,h2,h3⟩:=h;obtain⟨w',a,hM,hT⟩:=h1.store refK ct! Tryz.underlying225 (cs! k hk) ((r,pv):RV);have hl:=dJ! (f:=fun x:RV=>x.1) (k:=k) h2;rw[hn]at hl;have a0:lookA lr k=none:=by cases hlk:lookA lr k with | none=>rfl | some x=>rw[hlk]at hl;cases hl
 rw[bf! (au!.1 a0)]at hM;refine⟨w',a,⟨_,hM,by rw[v9!,h2];rfl,fun x hx=>?_⟩,hT⟩;have hs:Same S w w':=fun x hx=>hT.kept.block x (hS x hx);rcases u3!.1 hx with hx | hx
 ·exact(h3 x hx).same hs
 ·obtain rfl:=n9!.1 hx;exact hr.same hs
theorem BkW.look (h:BkW w B b3 P)(n:ByteArray)(hn:n.size<=maxLen):∃v,(Instr.lookup 227 (.map (some b3)) (.string n) false).run prog w= .ok v w/\Own w B 9 1 v (txs (aN! P n))/\∃lw,Mp prog 9 Value.string wvV w b3 lw/\WhRows w B lw/\(∀n,(lookA lw n).map (·.1)=optL (aN! P n))/\(lookA lw n=some (aN! P n,v)\/(lookA lw n=none/\aN! P n=[]/\v= .slice none 0 0)):=by
 obtain⟨lw,h1,h2,h3⟩:=h;have b:=h3 n;have a:=h1.look strK bw! Tryz.underlying227 (Tryz.zeroValue169 w) false (cm! n hn);cases hlk:lookA lw n with
 | none =>
  rw[hlk]at b a
  have c:aN! P n=[]:=by
   unfold optL at b;split at b
   ·assumption
   ·cases b
  exact⟨.slice none 0 0,a,by rw[c];exact Own.nil _ _ _ _,lw,h1,h2,h3,.inr ⟨hlk,c,rfl⟩⟩
 | some x =>
  rw[hlk]at b a
  have c:x.1=aN! P n:=by
   unfold optL at b;split at b
   ·cases b
   ·injection b
  have hm:=h2.rows _ (aD! hlk);refine⟨x.2,a,by rw[<-c];exact hm.2,lw,h1,h2,h3,.inl ?_⟩;rw[hlk,<-c]
theorem BkW.put {w1 w2:World}{lw:List (ByteArray × WV)}{k:R2}{r:RT}{v v':Value}(hM:Mp prog 9 Value.string wvV w b3 lw)(hR:WhRows w B lw)(hL:∀n,(lookA lw n).map (·.1)=optL (aN! P n))
  (hl:lookA lw k.r=some (aN! P k.r,v)\/(lookA lw k.r=none/\aN! P k.r=[]/\v= .slice none 0 0)) (h1:Below w.heap.size w w1) (h2:w1.grownBy w2 v.ownBlock) (ho0:Own w B 9 1 v (txs (aN! P k.r))) (ho:Own w2 B 9 1 v' (txs (aN! P k.r++[k.t])))
  (hw:∀g,v'.ownBlock=some g->v.ownBlock=some g\/w1.heap.size<=g) (hk:k.r.size<=maxLen) :
  ∃w',(Instr.mapUpdate 227 (.map (some b3)) (.string k.r) v').run prog w2= .ok () w'/\BkW w' B b3 (P++[(k,r)])/\pT! w2 w' b3:=by
 have a:=hM.below h1;have c:Mp prog 9 Value.string wvV w2 b3 lw:=a.same (h2.block b3 a.lt (fun e=>((ho0.below h1).notMap a.notCells) b3 e.symm rfl));obtain⟨w',b,a0,hT⟩:=c.store strK bw! Tryz.underlying227 (cm! k.r hk) ((aN! P k.r++[k.t],v'):WV);refine⟨w',b,⟨_,a0,hR.put (names:=aN! P k.r) (v:=v) ?_ h1 h2 ho hw hM c hT,fun n=>?_⟩,hT⟩
 ·rcases hl with hl | ⟨h3,h4,h5⟩
  ·exact .inl hl
  ·exact .inr ⟨h3,h4,h5⟩
 ·rw[cW!,hx!];by_cases e:k.r=n
  ·rw[if_pos e,if_pos e];subst e;unfold optL;rw[if_neg (by simp)];rfl
  ·rw[if_neg e,if_neg e];exact hL n
end
end Go.Proofs.YtlhaghoajpglaaaGreat
namespace Go.Proofs.YtlhaghoajpglaaaGreat
structure P3 where
 t:ByteArray
 i:ByteArray
 r:ByteArray
deriving DecidableEq
structure Tup where
 o:P3
 s:P3
deriving DecidableEq
instance:Inhabited P3:=⟨⟨ByteArray.empty,ByteArray.empty,ByteArray.empty⟩⟩
instance:Inhabited Tup:=⟨⟨default,default⟩⟩
def P3.isSet (p:P3):Prop:=p.r.size≠0
instance (p:P3):Decidable p.isSet:=by unfold P3.isSet;infer_instance
end Go.Proofs.YtlhaghoajpglaaaGreat
namespace Go.Proofs.YtlhaghoajpglaaaGreat
open Go Go.RowKit Go.Proofs.Tryz
def tV (t:Tup):Value := .agg #[.string t.o.t,.string t.o.i,.string t.o.r,.string t.s.t,.string t.s.i,.string t.s.r]
def P3.Ok (p:P3):Prop:=p.t.size<=maxLen/\p.i.size<=maxLen/\p.r.size<=maxLen
def Tup.Ok (t:Tup):Prop:=t.o.Ok/\t.s.Ok
def chkT (t:Tup):Bool:=isNm t.o.t&&isNm t.o.i&&isNm t.o.r&&isNm t.s.t&&isNm t.s.i&&(isNm t.s.r||decide (t.s.r.size=0))
def chkN (t:Tup):Int:=if chkT t then 0 else 2
theorem pC! (t:Tup)(w:World):Calls prog 139 #[tV t] w fun e w'=>e= .returned (tV t)/\Below w.heap.size w w':=by
 obtain⟨⟨d,b,a⟩,⟨st,si,c⟩⟩:=t;have hb:=(Blk.made w #[.string d,.string b,.string a,.string st,.string si,.string c] 67);have h1:Below w.heap.size w (w.alloc (.cells #[.string d,.string b,.string a,.string st,.string si,.string c] 67)):=(Below.refl _ _).alloc (n0! _) _;unfold tV;dsimp only;go_enter func139,ntmps139
 go_wp2_with fail
 refine bodyPost_ret (results_cell_row rfl _ _ (w.heap.size+1) 237 #[.string d,.string b,.string a,.string st,.string si,.string c] (0,0) _ rfl ?_ Tryz.underlying237 rfl (by kernel_rfl)) rfl ⟨rfl,h1.alloc h1.size _⟩;have:=heap_alloc_new (w.alloc (.cells #[.string d,.string b,.string a,.string st,.string si,.string c] 67)) (.cells #[.string d,.string b,.string a,.string st,.string si,.string c] 237);rwa[World.size_alloc]at this
theorem nn! (a b c d e f:ByteArray)(W:World) :
  (Instr.index 237 (.agg #[.string a,.string b,.string c,.string d,.string e,.string f]) (.int .i64 0)).run prog W= .ok (.string a) W /\
  (Instr.index 237 (.agg #[.string a,.string b,.string c,.string d,.string e,.string f]) (.int .i64 1)).run prog W= .ok (.string b) W /\
  (Instr.index 237 (.agg #[.string a,.string b,.string c,.string d,.string e,.string f]) (.int .i64 2)).run prog W= .ok (.string c) W /\
  (Instr.index 237 (.agg #[.string a,.string b,.string c,.string d,.string e,.string f]) (.int .i64 3)).run prog W= .ok (.string d) W /\
  (Instr.index 237 (.agg #[.string a,.string b,.string c,.string d,.string e,.string f]) (.int .i64 4)).run prog W= .ok (.string e) W /\
  (Instr.index 237 (.agg #[.string a,.string b,.string c,.string d,.string e,.string f]) (.int .i64 5)).run prog W= .ok (.string f) W :=
 ⟨by kernel_rfl,by kernel_rfl,by kernel_rfl,by kernel_rfl,by kernel_rfl,by kernel_rfl⟩
theorem mg! (t:Tup)(ht:t.Ok)(w:World):Calls prog 80 #[tV t] w fun e w'=>e= .returned (.int .i64 (chkN t))/\Below w.heap.size w w':=by
 obtain⟨⟨p,s,a⟩,⟨st,si,q⟩⟩:=t;have c:=h! ht;clear ht;have f:=(Blk.made w #[.string p,.string s,.string a,.string st,.string si,.string q] 67).cells;have HE:Hid (Below w.heap.size w (w.alloc (.cells #[.string p,.string s,.string a,.string st,.string si,.string q] 67))):=h! ((Below.refl _ _).alloc (n0! _) _);have g:=h! (pC! ⟨⟨p,s,a⟩,⟨st,si,q⟩⟩ (w.alloc (.cells #[.string p,.string s,.string a,.string st,.string si,.string q] 67)));unfold tV at g ⊢;dsimp only at g ⊢;unfold Tup.Ok P3.Ok at c;dsimp only at c;go_enter func80,ntmps80
 go_wp2_with fail
 refine g.out.mono ?_;rintro e w2 ⟨rfl,d⟩;have b:=h! (HE.out.trans (d.mono HE.out.size));clear HE g d f;obtain⟨p0,p1,p2,p3,p4,p5⟩:=nn! p s a st si q w2;go_wp2_with fail
 refine wp_loop_rounds 7 ?_;rw[rounds_succ];go_wp2_with fail
 refine(bg! p c.out.1.1 _).mono ?_;rintro e w' ⟨rfl,rfl⟩;rcases hb0:isNm p with _ | _
 ·have r:=h! hb0;clear hb0;go_wp2_with fail
  go_ret
  exact⟨congrArg (fun n=>Ending.returned (.int .i64 n)) (show(2:Int)=chkN ⟨⟨p,s,a⟩,⟨st,si,q⟩⟩from by simp[chkN,chkT,r.out]),b.out⟩
 have k:=h! hb0;clear hb0;go_wp2_with fail
 rw[rounds_succ];go_wp2_with fail
 refine(bg! s c.out.1.2.1 _).mono ?_;rintro e w' ⟨rfl,rfl⟩;rcases f:isNm s with _ | _
 ·have r:=h! f;clear f;go_wp2_with fail
  go_ret
  exact⟨congrArg (fun n=>Ending.returned (.int .i64 n)) (show(2:Int)=chkN ⟨⟨p,s,a⟩,⟨st,si,q⟩⟩from by simp[chkN,chkT,r.out]),b.out⟩
 have j:=h! f;clear f;go_wp2_with fail
 rw[rounds_succ];go_wp2_with fail
 refine(bg! a c.out.1.2.2 _).mono ?_;rintro e w' ⟨rfl,rfl⟩;rcases d:isNm a with _ | _
 ·have r:=h! d;clear d;go_wp2_with fail
  go_ret
  exact⟨congrArg (fun n=>Ending.returned (.int .i64 n)) (show(2:Int)=chkN ⟨⟨p,s,a⟩,⟨st,si,q⟩⟩from by simp[chkN,chkT,r.out]),b.out⟩
 have o:=h! d;clear d;go_wp2_with fail
 rw[rounds_succ];go_wp2_with fail
 refine(bg! st c.out.2.1 _).mono ?_;rintro e w' ⟨rfl,rfl⟩;rcases hb3:isNm st with _ | _
 ·have r:=h! hb3;clear hb3;go_wp2_with fail
  go_ret
  exact⟨congrArg (fun n=>Ending.returned (.int .i64 n)) (show(2:Int)=chkN ⟨⟨p,s,a⟩,⟨st,si,q⟩⟩from by simp[chkN,chkT,r.out]),b.out⟩
 have l:=h! hb3;clear hb3;go_wp2_with fail
 rw[rounds_succ];go_wp2_with fail
 refine(bg! si c.out.2.2.1 _).mono ?_;rintro e w' ⟨rfl,rfl⟩;rcases hb4:isNm si with _ | _
 ·have r:=h! hb4;clear hb4;go_wp2_with fail
  go_ret
  exact⟨congrArg (fun n=>Ending.returned (.int .i64 n)) (show(2:Int)=chkN ⟨⟨p,s,a⟩,⟨st,si,q⟩⟩from by simp[chkN,chkT,r.out]),b.out⟩
 have m:=h! hb4;clear hb4;go_wp2_with fail
 rw[rounds_succ];go_wp2_with fail
 refine(bg! q c.out.2.2.2 _).mono ?_;rintro e w' ⟨rfl,rfl⟩;rcases hb5:isNm q with _ | _
 ·have i:=h! hb5;clear hb5;by_cases h0:q.size=0
  ·obtain rfl:=ae! h0;clear h0;go_wp2_with fail
   rw[rounds_succ];go_wp2_with fail
   go_ret
   exact⟨congrArg (fun n=>Ending.returned (.int .i64 n)) (show(0:Int)=chkN ⟨⟨p,s,a⟩,⟨st,si,⟨#[]⟩⟩⟩from by simp[chkN,chkT,k.out,j.out,o.out,l.out,m.out,show(ByteArray.mk #[]).size=0 from rfl]),b.out⟩
  ·have a0:=al! h0;have H0:=h! h0;clear h0;go_wp2_with fail
   go_ret
   exact⟨congrArg (fun n=>Ending.returned (.int .i64 n)) (show(2:Int)=chkN ⟨⟨p,s,a⟩,⟨st,si,q⟩⟩from by simp[chkN,chkT,i.out,H0.out]),b.out⟩
 ·have i:=h! hb5;clear hb5;go_wp2_with fail
  rw[rounds_succ];go_wp2_with fail
  go_ret
  exact⟨congrArg (fun n=>Ending.returned (.int .i64 n)) (show(0:Int)=chkN ⟨⟨p,s,a⟩,⟨st,si,q⟩⟩from by simp[chkN,chkT,k.out,j.out,o.out,l.out,m.out,i.out]),b.out⟩
theorem dk! (t:Tup)(w:World):Calls prog 100 #[tV t] w fun e w'=>e= .returned (.slice (some ⟨w.heap.size+1,0,none⟩) 6 6) /\
  Blk w' (w.heap.size+1) #[.string t.o.t,.string t.o.i,.string t.o.r,.string t.s.t,.string t.s.i,.string t.s.r] 9/\Below w.heap.size w w':=by
 obtain⟨⟨d,b,a⟩,⟨st,si,c⟩⟩:=t;have hb:=(Blk.made w #[.string d,.string b,.string a,.string st,.string si,.string c] 67);have h1:Below w.heap.size w (w.alloc (.cells #[.string d,.string b,.string a,.string st,.string si,.string c] 67)):=(Below.refl _ _).alloc (n0! _) _;unfold tV;dsimp only;go_enter func100,ntmps100
 go_wp2_with fail
 go_ret
 refine⟨rfl,?_,h1.alloc h1.size _⟩;have:=heap_alloc_new (w.alloc (.cells #[.string d,.string b,.string a,.string st,.string si,.string c] 67)) (.cells #[.string d,.string b,.string a,.string st,.string si,.string c] 9);rwa[World.size_alloc]at this
theorem fX! (t:Tup)(ht:t.Ok)(w:World):Calls prog 108 #[tV t] w fun e w'=>e= .returned (.int .i64 (chkN t))/\Below w.heap.size w w':=by
 obtain⟨⟨p,s,a⟩,⟨st,si,q⟩⟩:=t;have c:=h! ht;clear ht;have f:=(Blk.made w #[.string p,.string s,.string a,.string st,.string si,.string q] 67).cells;have HE:Hid (Below w.heap.size w (w.alloc (.cells #[.string p,.string s,.string a,.string st,.string si,.string q] 67))):=h! ((Below.refl _ _).alloc (n0! _) _);have g:=h! (dk! ⟨⟨p,s,a⟩,⟨st,si,q⟩⟩ (w.alloc (.cells #[.string p,.string s,.string a,.string st,.string si,.string q] 67)));unfold tV at g ⊢;dsimp only at g ⊢;unfold Tup.Ok P3.Ok at c;dsimp only at c;go_enter func108,ntmps108
 go_wp2_with fail
 refine g.out.mono ?_;rintro e w2 ⟨rfl,hP,d⟩;have b:=h! (HE.out.trans (d.mono HE.out.size));clear HE g d f;have cP:=hP.cells;simp only[World.size_alloc]at cP ⊢;go_wp2_with fail
 refine wp_loop_rounds 7 ?_;rw[rounds_succ];go_wp2_with fail
 refine(aA! p c.out.1.1 _).mono ?_;rintro e w' ⟨rfl,rfl⟩;rcases hb0:isNm p with _ | _
 ·have r:=h! hb0;clear hb0;go_wp2_with fail
  go_ret
  exact⟨congrArg (fun n=>Ending.returned (.int .i64 n)) (show(2:Int)=chkN ⟨⟨p,s,a⟩,⟨st,si,q⟩⟩from by simp[chkN,chkT,r.out]),b.out⟩
 have k:=h! hb0;clear hb0;go_wp2_with fail
 rw[rounds_succ];go_wp2_with fail
 refine(aA! s c.out.1.2.1 _).mono ?_;rintro e w' ⟨rfl,rfl⟩;rcases f:isNm s with _ | _
 ·have r:=h! f;clear f;go_wp2_with fail
  go_ret
  exact⟨congrArg (fun n=>Ending.returned (.int .i64 n)) (show(2:Int)=chkN ⟨⟨p,s,a⟩,⟨st,si,q⟩⟩from by simp[chkN,chkT,r.out]),b.out⟩
 have j:=h! f;clear f;go_wp2_with fail
 rw[rounds_succ];go_wp2_with fail
 refine(aA! a c.out.1.2.2 _).mono ?_;rintro e w' ⟨rfl,rfl⟩;rcases d:isNm a with _ | _
 ·have r:=h! d;clear d;go_wp2_with fail
  go_ret
  exact⟨congrArg (fun n=>Ending.returned (.int .i64 n)) (show(2:Int)=chkN ⟨⟨p,s,a⟩,⟨st,si,q⟩⟩from by simp[chkN,chkT,r.out]),b.out⟩
 have o:=h! d;clear d;go_wp2_with fail
 rw[rounds_succ];go_wp2_with fail
 refine(aA! st c.out.2.1 _).mono ?_;rintro e w' ⟨rfl,rfl⟩;rcases hb3:isNm st with _ | _
 ·have r:=h! hb3;clear hb3;go_wp2_with fail
  go_ret
  exact⟨congrArg (fun n=>Ending.returned (.int .i64 n)) (show(2:Int)=chkN ⟨⟨p,s,a⟩,⟨st,si,q⟩⟩from by simp[chkN,chkT,r.out]),b.out⟩
 have l:=h! hb3;clear hb3;go_wp2_with fail
 rw[rounds_succ];go_wp2_with fail
 refine(aA! si c.out.2.2.1 _).mono ?_;rintro e w' ⟨rfl,rfl⟩;rcases hb4:isNm si with _ | _
 ·have r:=h! hb4;clear hb4;go_wp2_with fail
  go_ret
  exact⟨congrArg (fun n=>Ending.returned (.int .i64 n)) (show(2:Int)=chkN ⟨⟨p,s,a⟩,⟨st,si,q⟩⟩from by simp[chkN,chkT,r.out]),b.out⟩
 have m:=h! hb4;clear hb4;go_wp2_with fail
 rw[rounds_succ];go_wp2_with fail
 refine(aA! q c.out.2.2.2 _).mono ?_;rintro e w' ⟨rfl,rfl⟩;rcases hb5:isNm q with _ | _
 ·have i:=h! hb5;clear hb5;by_cases h0:q.size=0
  ·obtain rfl:=ae! h0;clear h0;go_wp2_with fail
   rw[rounds_succ];go_wp2_with fail
   go_ret
   exact⟨congrArg (fun n=>Ending.returned (.int .i64 n)) (show(0:Int)=chkN ⟨⟨p,s,a⟩,⟨st,si,⟨#[]⟩⟩⟩from by simp[chkN,chkT,k.out,j.out,o.out,l.out,m.out,show(ByteArray.mk #[]).size=0 from rfl]),b.out⟩
  ·have a0:=al! h0;have H0:=h! h0;clear h0;go_wp2_with fail
   go_ret
   exact⟨congrArg (fun n=>Ending.returned (.int .i64 n)) (show(2:Int)=chkN ⟨⟨p,s,a⟩,⟨st,si,q⟩⟩from by simp[chkN,chkT,i.out,H0.out]),b.out⟩
 ·have i:=h! hb5;clear hb5;go_wp2_with fail
  rw[rounds_succ];go_wp2_with fail
  go_ret
  exact⟨congrArg (fun n=>Ending.returned (.int .i64 n)) (show(0:Int)=chkN ⟨⟨p,s,a⟩,⟨st,si,q⟩⟩from by simp[chkN,chkT,k.out,j.out,o.out,l.out,m.out,i.out]),b.out⟩
def ak! (T:List Tup)(p:P3):List P3:=(T.filter fun t=>decide (t.o=p)).map (·.s)
inductive FT where
 | mk (k:Int) (subs:List P3) (refs:List Int) (ps:List FT)
def FT.k:FT->Int | .mk k _ _ _=>k
def FT.subs:FT->List P3 | .mk _ s _ _=>s
def FT.refs:FT->List Int | .mk _ _ r _=>r
def FT.ps:FT->List FT | .mk _ _ _ ps=>ps
def FT.zero:FT := .mk 0 [] [] []
instance:Inhabited FT:=⟨FT.zero⟩
mutual
def FT.sz:FT->Nat | .mk _ _ _ ps=>1+fszL ps
def fszL:List FT->Nat | []=>0 | r::rs=>r.sz+fszL rs
end
theorem ka! {p:FT}:∀ {ps:List FT},p∈ps->p.sz<=fszL ps
 | r::rs,h=>by
  rw[fszL];rcases v7!.1 h with rfl | h
  ·omega
  ·have:=ka! h;omega
theorem FT.sz_lt {r p:FT}(h:p∈r.ps):p.sz<r.sz:=by
 obtain⟨k,a,b,ps⟩:=r;have:=ka! (show p∈ps from h);rw[FT.sz];omega
theorem FT.ind {Q:FT->Prop}(h:∀r,(∀p∈r.ps,Q p)->Q r)(r:FT):Q r:=by
 generalize hn:r.sz=n;induction n using Nat.strongRecOn generalizing r with
 | ind n ih=>exact h r fun p hp=>ih p.sz (by have:=FT.sz_lt hp;omega) p rfl
def numD (ps:List P3)(p:P3):Nat:=ps.findIdx fun x=>decide (x=p)
def putP (ps:List P3)(p:P3):List P3:=if p∈ps then ps else ps++[p]
def refsD:List P3->List Int->List P3->List Int × List P3
 | ps,out,[]=>(out,ps)
 | ps,out,p::l=>refsD (putP ps p) (if (numD ps p:Int)∈out then out else out++[(numD ps p:Int)]) l
theorem dE!:∀(l:List P3)(ps:List P3)(out:List Int)(p:P3),refsD ps out (l++[p])=(if (numD (refsD ps out l).2 p:Int)∈(refsD ps out l).1 then(refsD ps out l).1 else(refsD ps out l).1++[(numD (refsD ps out l).2 p:Int)],putP (refsD ps out l).2 p)
 | [],ps,out,p=>rfl
 | x::l,ps,out,p=>by rw[x2!,refsD,refsD,dE! l]
def co! (l:List P3):List P3:=l.filter fun s=>decide (s.r≠⟨#[]⟩)
def viaOf (b:ByteArray)(l:List P3):List P3:=(l.filter fun s=>decide (s.r=⟨#[]⟩)).map fun s=>⟨s.t,s.i,b⟩
def headF (T:List Tup)(p:P3)(k:Int)(a b:ByteArray)(ps:List P3):List P3 × List Int × List P3 :=
 if k=1 then(ak! T p,refsD ps [] (co! (ak! T p)))
 else if k=2 then([],[(numD ps ⟨p.t,p.i,a⟩:Int)],putP ps ⟨p.t,p.i,a⟩)
 else if k=3 then([],refsD ps [] (viaOf b (ak! T ⟨p.t,p.i,a⟩)))
 else([],[],ps)
mutual
def formD (T:List Tup)(p:P3):RT->List P3->FT × List P3
 | .mk k a b parts,ps=>(.mk k (headF T p k a b ps).1 (headF T p k a b ps).2.1 (ar! T p parts (headF T p k a b ps).2.2).1,(ar! T p parts (headF T p k a b ps).2.2).2)
def ar! (T:List Tup)(p:P3):List RT->List P3->List FT × List P3
 | [],ps=>([],ps)
 | r::rs,ps=>((formD T p r ps).1::(ar! T p rs (formD T p r ps).2).1,(ar! T p rs (formD T p r ps).2).2)
end
theorem bA! (T:List Tup)(p:P3)(r:RT)(ps:List P3):formD T p r ps=(.mk r.k (headF T p r.k r.a r.b ps).1 (headF T p r.k r.a r.b ps).2.1 (ar! T p r.ps (headF T p r.k r.a r.b ps).2.2).1,(ar! T p r.ps (headF T p r.k r.a r.b ps).2.2).2):=by
 obtain⟨k,a,b,a0⟩:=r;rw[formD];rfl
theorem es! (T:List Tup)(p:P3):∀(rs:List RT)(r:RT)(ps:List P3),ar! T p (rs++[r]) ps=((ar! T p rs ps).1++[(formD T p r (ar! T p rs ps).2).1],(formD T p r (ar! T p rs ps).2).2)
 | [],r,ps=>by simp[ar!]
 | x::rs,r,ps=>by rw[x2!,ar!,es! T p rs r,ar!];rfl
theorem er! (T:List Tup)(p:P3)(rs:List RT)(ps:List P3)(i:Nat)(h:i<rs.length):ar! T p (rs.take (i+1)) ps=((ar! T p (rs.take i) ps).1++[(formD T p rs[i] (ar! T p (rs.take i) ps).2).1],(formD T p rs[i] (ar! T p (rs.take i) ps).2).2):=by
 rw[n2! h,es!]
def bb! (ts:List TyS)(shut:List R2)(p:P3):Option RT:=if (⟨p.t,p.r⟩:R2)∈shut then none else lookA (ac! ts) ⟨p.t,p.r⟩
def stepG (ts:List TyS)(T:List Tup)(shut:List R2)(p:P3)(ps:List P3):FT × List P3 :=
 match bb! ts shut p with
 | some r=>formD T p r ps
 | none=>(FT.zero,ps)
def walkN (ts:List TyS)(T:List Tup)(shut:List R2)(p:P3):Nat->List P3 × List FT
 | 0=>([p],[])
 | n+1=>((stepG ts T shut ((walkN ts T shut p n).1.getD n p) (walkN ts T shut p n).1).2,(walkN ts T shut p n).2++[(stepG ts T shut ((walkN ts T shut p n).1.getD n p) (walkN ts T shut p n).1).1])
/-! What stays true of the points. -/
theorem iY! (ps:List P3)(p:P3):ps <+: putP ps p:=by
 unfold putP;split
 ·exact List.prefix_refl _
 ·exact List.prefix_append _ _
theorem cb! (ps:List P3)(p x:P3):x∈putP ps p↔x∈ps\/x=p:=by
 unfold putP;split
 ·next h=>exact⟨.inl,fun h2=>h2.elim id fun e=>e▸h⟩
 ·simp
theorem fr! {ps:List P3}(h:ps.Nodup)(p:P3):(putP ps p).Nodup:=by
 unfold putP;split
 ·exact h
 ·next hn =>
  rw[List.nodup_append];refine⟨h,by simp,fun a ha b hb=>?_⟩;rw[n9!.1 hb];exact fun e=>hn (e▸ha)
theorem cr!:∀(l:List P3)(ps:List P3)(out:List Int),ps <+: (refsD ps out l).2
 | [],ps,_=>List.prefix_refl _
 | p::l,ps,out=>by rw[refsD];exact(iY! ps p).trans (cr! l _ _)
theorem eB!:∀(l:List P3)(ps:List P3)(out:List Int)(x:P3),x∈(refsD ps out l).2↔x∈ps\/x∈l
 | [],ps,_,x=>by simp[refsD]
 | p::l,ps,out,x=>by
  rw[refsD,eB! l,cb!,v7!];constructor
  ·rintro((h | h) | h)
   ·exact .inl h
   ·exact .inr (.inl h)
   ·exact .inr (.inr h)
  ·rintro(h | h | h)
   ·exact .inl (.inl h)
   ·exact .inl (.inr h)
   ·exact .inr h
theorem cQ!:∀(l:List P3)(ps:List P3)(out:List Int),ps.Nodup->(refsD ps out l).2.Nodup
 | [],_,_,h=>h
 | p::l,ps,out,h=>by rw[refsD];exact cQ! l _ _ (fr! h p)
theorem lL! (T:List Tup)(p:P3)(k:Int)(a b:ByteArray)(ps:List P3):ps <+: (headF T p k a b ps).2.2:=by
 unfold headF;split
 ·exact cr! _ _ _
 ·split
  ·exact iY! _ _
  ·split
   ·exact cr! _ _ _
   ·exact List.prefix_refl _
theorem ie! (T:List Tup)(p:P3)(k:Int)(a b:ByteArray) {ps:List P3}(h:ps.Nodup):(headF T p k a b ps).2.2.Nodup:=by
 unfold headF;split
 ·exact cQ! _ _ _ h
 ·split
  ·exact fr! h _
  ·split
   ·exact cQ! _ _ _ h
   ·exact h
theorem hk! (T:List Tup)(p:P3)(r:RT):∀ps:List P3,ps <+: (formD T p r ps).2:=by
 induction r using RT.ind with
 | h r ih =>
  intro ps;rw[bA!]
  have:∀(l:List RT) (qs:List P3),(∀x∈l,x∈r.ps)->qs <+: (ar! T p l qs).2:=by
   intro l;induction l with
   | nil=>intro qs _;exact List.prefix_refl _
   | cons x l ihl=>intro qs hx;rw[ar!];exact(ih x (hx x (by simp)) qs).trans (ihl _ fun y hy=>hx y (u9! _ hy))
  exact(lL! T p r.k r.a r.b ps).trans (this r.ps _ fun _ h=>h)
theorem ih! (T:List Tup)(p:P3)(r:RT):∀ {ps:List P3},ps.Nodup->(formD T p r ps).2.Nodup:=by
 induction r using RT.ind with
 | h r ih =>
  intro ps h;rw[bA!]
  have:∀(l:List RT) (qs:List P3),(∀x∈l,x∈r.ps)->qs.Nodup->(ar! T p l qs).2.Nodup:=by
   intro l;induction l with
   | nil=>intro qs _ h;exact h
   | cons x l ihl=>intro qs hx h;rw[ar!];exact ihl _ (fun y hy=>hx y (u9! _ hy)) (ih x (hx x (by simp)) h)
  exact this r.ps _ (fun _ h=>h) (ie! T p r.k r.a r.b h)
theorem kS! (ts:List TyS)(T:List Tup)(shut:List R2)(p:P3)(ps:List P3):ps <+: (stepG ts T shut p ps).2:=by
 unfold stepG;split
 ·exact hk! _ _ _ _
 ·exact List.prefix_refl _
theorem hF! (ts:List TyS)(T:List Tup)(shut:List R2)(p:P3) {ps:List P3}(h:ps.Nodup):(stepG ts T shut p ps).2.Nodup:=by
 unfold stepG;split
 ·exact ih! _ _ _ h
 ·exact h
theorem ee! (ts:List TyS)(T:List Tup)(shut:List R2)(p:P3):∀n,(walkN ts T shut p n).1.Nodup
 | 0=>by simp[walkN]
 | n+1=>by rw[walkN];exact hF! _ _ _ _ (ee! ts T shut p n)
theorem bM! (ts:List TyS)(T:List Tup)(shut:List R2)(p:P3):∀n m,n<=m->(walkN ts T shut p n).1 <+: (walkN ts T shut p m).1
 | n,0,h=>by
  obtain rfl:n=0:=by omega
  exact List.prefix_refl _
 | n,m+1,h=>by
  by_cases e:n=m+1
  ·subst e;exact List.prefix_refl _
  ·refine(bM! ts T shut p n m (by omega)).trans ?_;rw[walkN];exact kS! _ _ _ _ _
theorem aF! (ts:List TyS)(T:List Tup)(shut:List R2)(p:P3):∀n,(walkN ts T shut p n).2.length=n
 | 0=>rfl
 | n+1=>by rw[walkN];simp[aF! ts T shut p n]
/-! All points lie in one finite list. -/
mutual
def RT.nms:RT->List ByteArray | .mk _ a b ps=>a::b::nmsL ps
def nmsL:List RT->List ByteArray | [] => [] | r::rs=>r.nms++nmsL rs
end
theorem RT.nms_eq (r:RT):r.nms=r.a::r.b::nmsL r.ps:=by
 obtain⟨k,a,b,ps⟩:=r;rw[RT.nms];rfl
theorem jo! {r:RT}:∀ {l:List RT},r∈l->∀n∈r.nms,n∈nmsL l
 | x::l,h,n,hn=>by
  rw[nmsL,u3!];rcases v7!.1 h with rfl | h
  ·exact .inl hn
  ·exact .inr (jo! h n hn)
def InU (O:List (ByteArray × ByteArray))(N:List ByteArray)(x:P3):Prop:=(x.t,x.i)∈O/\x.r∈N
structure OkU (T:List Tup)(O:List (ByteArray × ByteArray))(N:List ByteArray):Prop where
 objs:∀t∈T,(t.s.t,t.s.i)∈O
 rels:∀t∈T,t.s.r∈N
theorem cl! {T:List Tup}{p x:P3}(h:x∈ak! T p):∃t∈T,t.o=p/\t.s=x:=by
 unfold ak! at h;obtain⟨t,ht,rfl⟩:=u6!.1 h;rw[List.mem_filter]at ht;exact⟨t,ht.1,by simpa using ht.2,rfl⟩
theorem nM! {T:List Tup}{O:List (ByteArray × ByteArray)}{N:List ByteArray}(h:OkU T O N) {p:P3}(hp:(p.t,p.i)∈O) {k:Int}{a b:ByteArray}(ha:a∈N)(hb:b∈N) {ps:List P3}(hs:∀x∈ps,InU O N x):∀x∈(headF T p k a b ps).2.2,InU O N x:=by
 unfold headF;split
 ·intro x hx;rcases (eB! _ _ _ x).1 hx with hx | hx
  ·exact hs x hx
  ·unfold co! at hx;rw[List.mem_filter]at hx;obtain⟨t,c,_,rfl⟩:=cl! hx.1;exact⟨h.objs t c,h.rels t c⟩
 ·split
  ·intro x hx;rcases (cb! _ _ x).1 hx with hx | rfl
   ·exact hs x hx
   ·exact⟨hp,ha⟩
  ·split
   ·intro x hx;rcases (eB! _ _ _ x).1 hx with hx | hx
    ·exact hs x hx
    ·unfold viaOf at hx;obtain⟨y,hy,rfl⟩:=u6!.1 hx;rw[List.mem_filter]at hy;obtain⟨t,c,_,rfl⟩:=cl! hy.1;exact⟨h.objs t c,hb⟩
   ·exact hs
theorem nS! {T:List Tup}{O:List (ByteArray × ByteArray)}{N:List ByteArray}(h:OkU T O N) {p:P3}(hp:(p.t,p.i)∈O)(r:RT):(∀n∈r.nms,n∈N)->∀ {ps:List P3},(∀x∈ps,InU O N x)->∀x∈(formD T p r ps).2,InU O N x:=by
 induction r using RT.ind with
 | h r ih =>
  intro hn ps hs;rw[bA!];rw[RT.nms_eq]at hn
  have:∀(l:List RT) (qs:List P3),(∀x∈l,x∈r.ps)->(∀x∈qs,InU O N x)->∀x∈(ar! T p l qs).2,InU O N x:=by
   intro l;induction l with
   | nil=>intro qs _ h;exact h
   | cons y l ihl =>
    intro qs hx hq;rw[ar!];exact ihl _ (fun z hz=>hx z (u9! _ hz)) (ih y (hx y (by simp)) (fun n hn'=>hn n (u9! _ (u9! _ (jo! (hx y (by simp)) n hn')))) hq)
  exact this r.ps _ (fun _ h=>h) (nM! h hp (hn _ (by simp)) (hn _ (by simp)) hs)
def NmU (ts:List TyS)(N:List ByteArray):Prop:=∀x∈ac! ts,∀n∈x.2.nms,n∈N
theorem nf! {ts:List TyS}{T:List Tup}{O:List (ByteArray × ByteArray)}{N:List ByteArray}(h:OkU T O N)(hN:NmU ts N)(shut:List R2) {p:P3}(hp:InU O N p) {ps:List P3}(hs:∀x∈ps,InU O N x):∀x∈(stepG ts T shut p ps).2,InU O N x:=by
 unfold stepG;split
 ·next r hr =>
  refine nS! h hp.1 r ?_ hs;unfold bb! at hr;split at hr
  ·cases hr
  ·exact hN _ (aD! hr)
 ·exact hs
theorem iq! {ts:List TyS}{T:List Tup}{O:List (ByteArray × ByteArray)}{N:List ByteArray}(h:OkU T O N)(hN:NmU ts N)(shut:List R2) {p:P3}(hp:InU O N p):∀n,∀x∈(walkN ts T shut p n).1,InU O N x
 | 0=>by
  intro x hx;rw[walkN]at hx;rw[n9!.1 hx];exact hp
 | n+1=>by
  have ih:=iq! h hN shut hp n;rw[walkN];refine nf! h hN shut ?_ ih;rw[n8!];cases e:(walkN ts T shut p n).1[n]? with
  | none=>exact hp
  | some y=>exact ih y (List.mem_of_getElem? e)
theorem bk! {α:Type}:∀ {l u:List α},l.Nodup->(∀x∈l,x∈u)->l.length<=u.length
 | [],_,_,_=>v1! _
 | a::l,u,hn,hs=>by
  obtain⟨p,q,rfl⟩:=List.append_of_mem (hs a y4!);rw[List.nodup_cons]at hn
  have h1:=bk! (l:=l) (u:=p++q) hn.2 fun x hx=>by
   have h2:=hs x (u9! _ hx);rcases u3!.1 h2 with h3 | h3
   ·exact List.mem_append_left _ h3
   ·rcases v7!.1 h3 with h3 | h3
    ·subst h3;exact absurd hx hn.1
    ·exact List.mem_append_right _ h3
  simp only[u7!,u4!]at h1 ⊢;omega
theorem pb! {O:List (ByteArray × ByteArray)}{N:List ByteArray}{l:List P3}(hn:l.Nodup)(h:∀x∈l,InU O N x):l.length<=O.length*N.length:=by
 have h1:∀x∈l,x∈O.flatMap fun o=>N.map fun r=>(⟨o.1,o.2,r⟩:P3):=fun x hx=>by
  obtain⟨h2,h3⟩:=h x hx;exact List.mem_flatMap.2 ⟨_,h2,u6!.2 ⟨_,h3,rfl⟩⟩
 refine n6! (bk! hn h1) (v4! ?_);clear h h1 hn;induction O with
 | nil=>simp
 | cons o O ih=>rw[y5!,u4!,ih,x1!,u7!,Nat.add_mul];omega
/-! How the walk ends. -/
def WalkAt (ts:List TyS)(T:List Tup)(shut:List R2)(p:P3)(most:Int)(n:Nat):Prop:=∀m,m<n->m<(walkN ts T shut p m).1.length/\((walkN ts T shut p m).1.length:Int)<=most
def pW! (ts:List TyS)(T:List Tup)(shut:List R2)(p:P3)(most:Int)(n:Nat):Prop:=WalkAt ts T shut p most n/\n=(walkN ts T shut p n).1.length
def bi! (ts:List TyS)(T:List Tup)(shut:List R2)(p:P3)(most:Int):Prop:=∃n,WalkAt ts T shut p most n/\n<(walkN ts T shut p n).1.length/\most<((walkN ts T shut p n).1.length:Int)
theorem dh! (ts:List TyS)(T:List Tup)(shut:List R2)(p:P3) {n m:Nat}(h:n<=m):(walkN ts T shut p n).1.length<=(walkN ts T shut p m).1.length:=(bM! ts T shut p n m h).length_le
theorem pW!.notLong {ts:List TyS}{T:List Tup}{shut:List R2}{p:P3}{most:Int}{n:Nat}(h:pW! ts T shut p most n):¬ bi! ts T shut p most:=by
 rintro⟨m,h1,h2,h3⟩;rcases Nat.lt_trichotomy n m with hlt | rfl | hlt
 ·have:=(h1 n hlt).1;have:=h.2;omega
 ·have:=h.2;omega
 ·have:=(h.1 m hlt).2;omega
end Go.Proofs.YtlhaghoajpglaaaGreat
