/- Lemmas for the claim, no condition. -/
import Derived.Test.YtlhaghoajpglaaaGreatYPrMore0
import Derived.Test.YtlhaghoajpglaaaGreatYPrMore0
set_option maxRecDepth 100000
set_option maxHeartbeats 8000000
namespace Go.Proofs.YtlhaghoajpglaaaGreat
open Go Go.RowKit Go.Proofs.Tryz
theorem nN! (l:List RT)(i:Nat):szL (l.take i)<=szL l:=by
 conv=>rhs;rw[<-x6! i l]
 rw[eB!];omega
theorem fS! (r:RT):∀(pv:Value)(w:World),RTAt (· < w.heap.size) w r pv->r.sz<=1000000->Calls prog 130 #[rV r pv] w fun e w'=>e= .returned (.int .i64 r.sz)/\Below w.heap.size w w':=by
 induction r using RT.ind with
 | h r ih =>
 intro pv w hat hs;obtain⟨ao,c,rfl,a6,a8,f⟩:=hat.rows;rw[RT.sz_eq]at hs;have HC:=h! f;have HI:=h! ih;have o:=h! r.sz_eq;have a1:=(Blk.made w #[.int .i64 r.k,.string r.a,.string r.b,.slice ao r.ps.length c] 106).cells;have q:Below w.heap.size w (w.alloc (.cells #[.int .i64 r.k,.string r.a,.string r.b,.slice ao r.ps.length c] 106)):=(Below.refl _ _).alloc (n0! _) _;have s:=h! q;have HS:=h! hs;clear hat f ih q hs;unfold rV;rw[o.out];clear o;generalize hps:r.ps=ps at *;clear hps;go_enter func130,ntmps130
 go_wp2_with fail
 clear a1;go_loopw [3,9] (fun nn ii wr=>∃i:Nat,i<=ps.length/\ii= .int .i64 i/\nn= .int .i64 ((1+szL (ps.take i):Nat):Int)/\Below w.heap.size w wr) (fun _ ii _=>ps.length-(intOf ii).toNat)
 case atStart=>exact⟨0,by omega,rfl,by simp[szL],s.out⟩
 case round =>
  obtain⟨i,hi,rfl,rfl,d⟩:=hrel;clear s;by_cases hlt:i<ps.length
  ·obtain⟨b,j,a7,rfl,x,c0,c1,c2,c3,g⟩:=HC.out i hlt;have d0:=(d.cell (p:=⟨b,j+i*4,none⟩) x).trans c0;have d1:=(d.cell (p:=⟨b,j+i*4+1,none⟩) x).trans c1;have d2:=(d.cell (p:=⟨b,j+i*4+2,none⟩) x).trans c2;have d3:=(d.cell (p:=⟨b,j+i*4+3,none⟩) x).trans c3;obtain⟨u,v,rfl,-⟩:=g.rows;have m:=hB! hlt;have a3:=nN! ps (i+1);have a9:=HS.out;have n:=d.alloc d.size (.cells #[.int .i64 ps[i].k,.string ps[i].a,.string ps[i].b,.slice u ps[i].ps.length v] 106);have HR:=h! (HI.out ps[i] (n5! hlt) _ _ (g.up n) (by have:=eA! (n5! hlt);omega));unfold rV at HR;have l:=h! n;have a0:=(Blk.made wr #[.int .i64 ps[i].k,.string ps[i].a,.string ps[i].b,.slice u ps[i].ps.length v] 106).cells;have a4:=h! m;rw[m]at a3;clear c0 c1 c2 c3 g n d m;generalize ps[i]=p at *;generalize szL (ps.take i)=sa at *;go_wp2_with fail
   refine HR.out.mono ?_;rintro e w5 ⟨rfl,t⟩;have a2:=h! (l.out.trans (t.mono l.out.size));clear HR t a0 d0 d1 d2 d3 l;generalize p.sz=ms at *;go_wp2_with fail
   go_roundw
   case rel=>exact⟨i+1,by omega,by go_num,by rw[a4.out];go_num,a2.out⟩
   case measure=>simp[intOf];omega
  ·obtain rfl:i=ps.length:=by omega
   rw[u2!];have a5:=h! d;clear d;go_wp2_with fail
   go_ret
   exact⟨rfl,a5.out⟩
mutual
def RT.this:RT->Bool | .mk k _ _ ps=>k == 1||thisL ps
def thisL:List RT->Bool | []=>false | r::rs=>r.this||thisL rs
end
theorem hz!:∀l:List RT,thisL l=l.any RT.this
 | []=>rfl
 | r::rs=>by rw[thisL,List.any_cons,hz! rs]
theorem RT.this_eq (r:RT):r.this=(r.k == 1||r.ps.any RT.this):=by
 obtain⟨k,a,b,ps⟩:=r;rw[RT.this,hz!];rfl
theorem aL! (x:Int)(h1 : -9223372036854775808<=x)(h2:x<=9223372036854775807):wrap64 x=x:=by unfold wrap64;omega
theorem ey! (r:RT):∀(pv:Value)(w:World),RTAt (· < w.heap.size) w r pv->Calls prog 187 #[rV r pv] w fun e w'=>e= .returned (.bool r.this)/\Below w.heap.size w w':=by
 induction r using RT.ind with
 | h r ih =>
 intro pv w hat;obtain⟨ao,c,rfl,a4,a6,f⟩:=hat.rows;have HC:=h! f;have HI:=h! ih;have a2:=(Blk.made w #[.int .i64 r.k,.string r.a,.string r.b,.slice ao r.ps.length c] 106).cells;have B:Below w.heap.size w (w.alloc (.cells #[.int .i64 r.k,.string r.a,.string r.b,.slice ao r.ps.length c] 106)):=(Below.refl _ _).alloc (n0! _) _;have t:=h! B;clear hat f ih B;have HE:=h! r.this_eq;unfold rV;rw[HE.out];clear HE;generalize r.ps=ps at *;generalize r.k=k at *;by_cases hk:k=1
 ·subst hk;go_enter func187,ntmps187
  go_wp2_with fail
  go_ret
  exact⟨rfl,t.out⟩
 have a0:(k == 1)=false:=by rw[n7!];exact hk
 rw[a0,Bool.false_or];clear hk;go_enter func187,ntmps187
 go_wp2_with fail
 clear a2;go_loopw [11] (fun ii wr=>∃i:Nat,i<=ps.length/\ii= .int .i64 i/\(∀j (hj:j<ps.length),j<i->ps[j].this=false)/\Below w.heap.size w wr) (fun ii _=>ps.length-(intOf ii).toNat)
 case atStart=>exact⟨0,by omega,rfl,fun _ _ h=>absurd h (by omega),t.out⟩
 case round =>
  obtain⟨i,hi,rfl,o,d⟩:=hrel;have q:=h! o;clear t o;by_cases hlt:i<ps.length
  ·have z:=fun h=>h! (aH! (p:=fun j hj=>ps[j].this=false) q.out hlt h);have u:=fun(h:ps[i].this=true)=>h! (show ps.any RT.this=true from x5!.2 ⟨ps[i],n5! hlt,h⟩);obtain⟨b,s,a5,a1,F,c0,c1,c2,c3,g⟩:=HC.out i hlt;cases a1;have d0:=(d.cell (p:=⟨b,s+i*4,none⟩) F).trans c0;have d1:=(d.cell (p:=⟨b,s+i*4+1,none⟩) F).trans c1;have d2:=(d.cell (p:=⟨b,s+i*4+2,none⟩) F).trans c2;have d3:=(d.cell (p:=⟨b,s+i*4+3,none⟩) F).trans c3;obtain⟨C,D,rfl,-⟩:=g.rows;have v:=d.alloc d.size (.cells #[.int .i64 ps[i].k,.string ps[i].a,.string ps[i].b,.slice C ps[i].ps.length D] 106);have m:=g.up v;have A:=(Blk.made wr #[.int .i64 ps[i].k,.string ps[i].a,.string ps[i].b,.slice C ps[i].ps.length D] 106).cells;have l:=h! v;clear c0 c1 c2 c3 g v d;have E:=h! (HI.out ps[i] (n5! hlt) _ _ m);unfold rV at E;clear m;generalize ps[i]=p at *;cases hpt:p.this with
   | true =>
    rw[hpt]at E;have HT:=u hpt;clear z u hpt;go_wp2_with fail
    refine E.out.mono ?_;rintro e w5 ⟨rfl,n⟩;have y:=h! (l.out.trans (n.mono l.out.size));clear E n A d0 d1 d2 d3 l;go_wp2_with fail
    go_ret
    exact⟨by rw[HT.out];rfl,y.out⟩
   | false =>
    rw[hpt]at E;have HN:=z hpt;clear z u hpt;go_wp2_with fail
    refine E.out.mono ?_;rintro e w5 ⟨rfl,n⟩;have y:=h! (l.out.trans (n.mono l.out.size));clear E n A d0 d1 d2 d3 l;go_wp2_with fail
    go_roundw
    case rel=>exact⟨i+1,by omega,by go_num,HN.out,y.out⟩
    case measure=>simp[intOf];omega
  ·obtain rfl:i=ps.length:=by omega
   have HF:=h! (show ps.any RT.this=false from by
    rw[List.any_eq_false];intro x hx;obtain⟨j,hj,rfl⟩:=u0! hx;rw[q.out j hj hj];exact Bool.false_ne_true)
   have a3:=h! d;clear d;go_wp2_with fail
   go_ret
   exact⟨by rw[HF.out];rfl,a3.out⟩
theorem ao! {a:ByteArray}(h:a.size≠0):a.toList.isEmpty=false:=by
 rw[u5!];cases h':a.data.toList with
 | nil=>exact absurd (by have:=congrArg List.length h';simpa using this) h
 | cons=>rfl
theorem ag! {a:ByteArray}(h:a.size=0):a=⟨#[]⟩:=by
 refine ByteArray.ext (Array.eq_empty_of_size_eq_zero h)
def okc (c:UInt8):Bool:=decide ((97<=(c.toNat:Int)/\(c.toNat:Int)<=122)\/(48<=(c.toNat:Int)/\(c.toNat:Int)<=57)\/(c.toNat:Int)=95\/(c.toNat:Int)=45)
def isNm (s:ByteArray):Bool:=s.data.toList.all okc&&(decide (1<=s.size)&&decide (s.size<=32))
theorem iF! {s:ByteArray}{i:Nat}(hi:i<s.size)(h:okc s[i]=false):isNm s=false:=by
 unfold isNm;rw[Bool.and_eq_false_iff];left
 rw[List.all_eq_false];exact⟨s[i],by rw[show s[i]=s.data.toList[i]'(by simpa using hi)from rfl];exact n5! _,by simpa using h⟩
theorem iE! {s:ByteArray}(h:∀j (hj:j<s.size),j<s.size->okc s[j]=true):isNm s=(decide (1<=s.size)&&decide (s.size<=32)):=by
 unfold isNm;rw[show s.data.toList.all okc=true from ?_,Bool.true_and];rw[u8!];intro x hx;obtain⟨j,hj,rfl⟩:=u0! hx;have hj':j<s.size:=by simpa using hj
 exact h j hj' hj'
theorem bc! (s:ByteArray)(hs:s.size<=maxLen)(w:World):Calls prog 141 #[.string s] w fun e w'=>e= .returned (.bool (isNm s))/\w'=w:=by
 have a1:s.size<=9223372036854775807:=by unfold maxLen at hs;omega
 clear hs;go_enter func141,ntmps141
 go_wp2_with fail
 go_loopw [7] (fun ii wr=>∃i:Nat,i<=s.size/\ii= .int .i64 i/\(∀j (hj:j<s.size),j<i->okc s[j]=true)/\wr=w) (fun ii _=>s.size-(intOf ii).toNat)
 case atStart=>exact⟨0,by omega,rfl,fun _ _ h=>absurd h (by omega),rfl⟩
 case round =>
  obtain⟨i,hi,rfl,a,rfl⟩:=hrel;have b:=h! a;clear a;by_cases hlt:i<s.size
  ·go_wp2_with fail
   all_goals first
    | (refine⟨⟨i+1,by omega,by go_num,aH! (p:=fun j hj=>okc s[j]=true) b.out hlt ?_,trivial⟩,by simp[intOf];omega⟩
       unfold okc;rw[decide_eq_true_iff];try simp only[beq_iff_eq,n7!,ne_eq]at *
       omega)
    | (go_ret
       refine⟨?_,rfl⟩
       rw[iF! hlt (by
         unfold okc;rw[decide_eq_false_iff_not];try simp only[n7!,ne_eq]at *
         omega)]
       rfl)
  ·obtain rfl:i=s.size:=by omega
   have HE:=h! (iE! b.out);by_cases h0:s.size=0
   ·obtain rfl:=ag! h0;clear h0;go_wp2_with fail
    go_ret
    exact⟨by rw[HE.out];rfl,rfl⟩
   ·have a2:=ao! h0;have h1:1<=s.size:=by omega
    have a0:=h! (show isNm s=decide ((s.size:Int)<=32)from by
     rw[HE.out,v2! h1,Bool.true_and];by_cases h:s.size<=32
     ·rw[v2! h,v2! (by omega)]
     ·rw[v3! h,v3! (by omega)])
    clear HE h0 h1;go_wp2_with fail
    go_ret
    exact⟨by rw[a0.out];rfl,rfl⟩
theorem az! (s:ByteArray)(hs:s.size<=maxLen)(w:World):Calls prog 96 #[.string s] w fun e w'=>e= .returned (.bool (isNm s))/\w'=w:=by
 have a1:s.size<=9223372036854775807:=by unfold maxLen at hs;omega
 clear hs;go_enter func96,ntmps96
 go_wp2_with fail
 go_loopw [3] (fun ii wr=>∃i:Nat,i<=s.size/\ii= .int .i64 i/\(∀j (hj:j<s.size),j<i->okc s[j]=true)/\wr=w) (fun ii _=>s.size-(intOf ii).toNat)
 case atStart=>exact⟨0,by omega,rfl,fun _ _ h=>absurd h (by omega),rfl⟩
 case round =>
  obtain⟨i,hi,rfl,a,rfl⟩:=hrel;have b:=h! a;clear a;by_cases hlt:i<s.size
  ·go_wp2_with fail
   all_goals first
    | (refine⟨⟨i+1,by omega,by go_num,aH! (p:=fun j hj=>okc s[j]=true) b.out hlt ?_,trivial⟩,by simp[intOf];omega⟩
       unfold okc;rw[decide_eq_true_iff];(try simp at *) <;> omega)
    | (go_ret
       refine⟨?_,rfl⟩
       rw[iF! hlt (by
         unfold okc;rw[decide_eq_false_iff_not];(try simp at *) <;> omega)]
       rfl)
  ·obtain rfl:i=s.size:=by omega
   have HE:=h! (iE! b.out);by_cases h0:s.size=0
   ·obtain rfl:=ag! h0;clear h0;go_wp2_with fail
    go_ret
    exact⟨by rw[HE.out];rfl,rfl⟩
   ·have h1:1<=s.size:=by omega
    have h2:(1:Int)<=(s.size:Int):=by omega
    have a0:=h! (show isNm s=decide ((s.size:Int)<=32)from by
     rw[HE.out,v2! h1,Bool.true_and];by_cases h:s.size<=32
     ·rw[v2! h,v2! (by omega)]
     ·rw[v3! h,v3! (by omega)])
    clear HE h0 h1;go_wp2_with fail
    go_ret
    exact⟨by rw[a0.out];rfl,rfl⟩
def ownB (s:ByteArray):Bool:=isNm s&&decide (s≠⟨#[116,104,105,115]⟩)
def hasT (t:TyS)(n:ByteArray):Bool:=t.rels.any fun r=>decide (r.1=n)
def anyT (ts:List TyS)(n:ByteArray):Bool:=ts.any fun t=>hasT t n
theorem gZ! {K:Nat->Prop}{w w':World}(h:Kept K w w') {p:Addr}(hp:¬ K p.block)(n:Nat):Kept K w (w'.freeze p n):=by
 have a:=Lib.below_freeze (B:=0) (Below.refl 0 w') (p:=p) (v1! _) n;refine h.trans ⟨a.os,a.tape,a.output,a.size,fun x hx=>?_⟩;have a0:x≠p.block:=fun e=>hp (e▸hx);unfold World.freeze;split
 ·rfl
 ·simp only[Array.getElem?_modify];rw[if_neg (Ne.symm a0)]
theorem at! {B b:Nat}{text:ByteArray}{odd:Bool}{w:World}(s:ByteArray)(h:WrB w B b text odd)(hlen:text.size+s.size<=140737488355328)(hpos:0<text.size)(hs:s.size<=maxLen)(hBw:B<=w.heap.size) :
  Calls prog 189 #[.pointer (some ⟨b,0,none⟩),.string s] w fun e w'=>e= .returned (.tuple #[])/\WrB w' B b (text++s) (odd||!ownB s)/\ov! B b w w':=by
 have m:=h! (bc! s hs w);obtain⟨i,g⟩:=h.odd2;have hB:=h.1;have k:=h! (fun o=>aa! s (h.flag o) hlen (by omega) (by simpa using hBw));have c:=h! (fun v=>ov!.flag (w:=w) hB v);clear h hlen hpos hs hBw;cases odd with
 | true =>
  go_enter func189,ntmps189
  go_wp2_with fail
  refine(k.out true).mono ?_;rintro e w2 ⟨rfl,f,p⟩;have l:=h! f;have n:=h! (ov!.next (c.out _) p);clear k f p i g m;go_wp2_with fail
  go_end0
  exact⟨rfl,by rw[Bool.true_or];exact l.out,n.out⟩
 | false =>
  cases hn:isNm s with
  | false =>
   rw[hn]at m;have d:=h! (show(false||!ownB s)=true from by rw[ownB,hn];rfl);clear hn;go_enter func189,ntmps189
   go_wp2_with fail
   refine m.out.mono ?_;rintro e w1 ⟨rfl,j⟩;have a:=j.symm;subst a;clear j m;go_wp2_with fail
   refine(k.out true).mono ?_;rintro e w2 ⟨rfl,f,p⟩;have l:=h! f;have n:=h! (ov!.next (c.out _) p);clear k f p i g;go_wp2_with fail
   go_end0
   exact⟨rfl,by rw[d.out];exact l.out,n.out⟩
  | true =>
   rw[hn]at m;by_cases he:s=⟨#[116,104,105,115]⟩
   ·have d:=h! (show(false||!ownB s)=true from by rw[ownB,he];simp);subst he;clear hn;go_enter func189,ntmps189
    go_wp2_with fail
    refine m.out.mono ?_;rintro e w1 ⟨rfl,j⟩;have a:=j.symm;subst a;clear j m;go_wp2_with fail
    refine(k.out true).mono ?_;rintro e w2 ⟨rfl,f,p⟩;have l:=h! f;have n:=h! (ov!.next (c.out _) p);clear k f p i g;go_wp2_with fail
    go_end0
    exact⟨rfl,by rw[d.out];exact l.out,n.out⟩
   ·have d:=h! (show(false||!ownB s)=false from by rw[ownB,hn];simp[he]);have a0:=aV! he;rw[<-u5!,show(⟨#[116,104,105,115]⟩:ByteArray).data.toList=[116,104,105,115]from rfl]at a0;clear hn he;go_enter func189,ntmps189
    go_wp2_with fail
    refine m.out.mono ?_;rintro e w1 ⟨rfl,j⟩;have a:=j.symm;subst a;clear j m;go_wp2_with fail
    refine(k.out false).mono ?_;rintro e w2 ⟨rfl,f,p⟩;have l:=h! f;have n:=h! (ov!.next (c.out _) p);clear k f p i g;go_wp2_with fail
    go_end0
    exact⟨rfl,by rw[d.out];exact l.out,n.out⟩
theorem gx! {B b:Nat}{text:ByteArray}{odd:Bool}{w:World}(h:WrB w B b text odd) :
  Calls prog 191 #[.pointer (some ⟨b,0,none⟩)] w fun e w'=>e= .returned (.string text)/\Below B w w':=by
 obtain⟨hB,p,v,hp,z,a,o⟩:=h;have C:∀(W:World) (q:Option Addr),(Builtin.unsafeString_ #[340,3] 9 #[.pointer q,.int .i64 0]).run prog W= .ok (.string .empty) W:=fun W q=>Lib.run_unsafeString_none W 340 3 9 q;by_cases hs:text.size=0
 ·obtain rfl:=o hs;obtain rfl:=ag! hs;have F:w.drew.cell? ⟨b,1,none⟩=some (.slice none 0 0):=z.drew.cells 1;have A:(Builtin.unsafeSliceData_ #[22] 340 #[.slice none 0 0]).run prog w.drew= .ok (.pointer none) w.drew:=rfl;clear z a o hs hp;go_enter func191,ntmps191
  go_wp2_with fail
  obtain⟨E,i⟩:=e! w.drew;rw[<-i]at F A;have s:Below B w E:=by rw[i];exact(Below.refl _ _).drew
  refine r! (fun W=>Kept (fun x=>x=b) E W/\Below B w W) (by rw[<-i];exact⟨Kept.refl _ _,s⟩) ?_;rw[<-i];have u:=h! s;have h1:∀W,(Kept (fun x=>x=b) E W/\Below B w W)->W.cell? ⟨b,1,none⟩=some (.slice none 0 0):=fun W h=>(World.cell?_of_block (h.1.block b rfl)).trans F;clear i F s;(refine WalkN.tk [0,1,2,3,5,6,7,8,9] ?_;(iterate 9 (refine c! ?_));refine TkN.n ?_)
  refine ob! 4 ?_;intro K hK;go_simp;refine hK.out _ _ ⟨Kept.refl _ _,u.out⟩ ?_;clear hK;try simp only[Act.put,pA,pZ,pS]
  refine ob! 10 ?_;intro K hK;go_simp;have f:=u.out;refine hK.out _ _ ⟨Kept.refl _ _,u.out⟩ ?_;clear hK;try simp only[Act.put,pA,pZ,pS]
  refine t! 11 ?_
  refine d! ?_;have HF:=h! f;clear h1 f;go_wp2_with fail
  go_ret
  exact⟨rfl,HF.out⟩
 ·obtain⟨n,a⟩:=a;have hl:(Lib.strCells text).length=text.size:=Lib.strCells_length text;have hn:n=text.size:=by have:=a.1;omega
  subst hn
  obtain⟨g,k,m,rfl,a0,hg,a5,a4,a2,y⟩:∃g k m,v= .slice (some ⟨g,0,none⟩) text.size k/\B<=g/\w.heap[g]?=some (.cells m 5 (0,0))/\text.size<=k/\k<=maxLen/\m.size=k*1/\m.toList.take (text.size*1)=Lib.strCells text:=by
   rcases a.2 with⟨_,hz⟩|⟨g,k,m,hv,r⟩
   ·exact absurd hz hs
   ·exact⟨g,k,m,hv,r⟩
  have F:w.drew.cell? ⟨b,1,none⟩=some (.slice (some ⟨g,0,none⟩) text.size k):=z.drew.cells 1
  have A:(Builtin.unsafeSliceData_ #[22] 340 #[.slice (some ⟨g,0,none⟩) text.size k]).run prog w.drew= .ok (.pointer (some ⟨g,0,none⟩)) w.drew :=
   Lib.run_unsafeSliceData_row _ _ _ _ _ _ (by omega)
  have a1:text=⟨text.data.toList.toArray⟩:=rfl;have l:text.data.toList.length=text.size:=rfl
  have D:∀E,E=w.drew->(Builtin.unsafeString_ #[340,3] 9 #[.pointer (some ⟨g,0,none⟩),.int .i64 text.size]).run prog E= .ok (.string text) (E.freeze ⟨g,0,none⟩ text.size):=by
   rintro E rfl
   have:=Lib.run_unsafeString_row (P:=prog) w.drew 340 3 9 5 Tryz.underlying340 (by kernel_rfl) g m.size (by have hg':w.drew.heap[g]?=some (.cells m 5 (0,0)):=hg;simp[World.shape?,hg']) text.data.toList (by intro e;rw[e]at l;simp at l;omega) (by omega) (by unfold maxLen at a4;omega) (fun j x hx=>by
    have:=a.cells (g:=g) rfl j (.int .u8 x.toNat) (by simp only[Lib.strCells,List.getElem?_map,hx,Option.map_some]);exact this)
   rw[l]at this;exact this
  have a3:Hid (g≠b):=h! ((show Own w B 5 1 (.slice (some ⟨g,0,none⟩) text.size k) (Lib.strCells text)from⟨_,a⟩).notBlk z (by decide) g rfl);clear z a o hp a2 y hg l a1 hl hs C;go_enter func191,ntmps191
  go_wp2_with fail
  obtain⟨E,i⟩:=e! w.drew;rw[<-i]at F A;have D:=D E i;have s:Below B w E:=by rw[i];exact(Below.refl _ _).drew
  refine r! (fun W=>Kept (fun x=>x=b) E W/\Below B w W) (by rw[<-i];exact⟨Kept.refl _ _,s⟩) ?_;rw[<-i];have u:=h! s;have h1:∀W,(Kept (fun x=>x=b) E W/\Below B w W)->W.cell? ⟨b,1,none⟩=some (.slice (some ⟨g,0,none⟩) text.size k):=fun W h=>(World.cell?_of_block (h.1.block b rfl)).trans F;clear i F s;(refine WalkN.tk [0,1,2,3,5,6,7,8,9] ?_;(iterate 9 (refine c! ?_));refine TkN.n ?_)
  refine ob! 4 ?_;intro K hK;go_simp;refine hK.out _ _ ⟨Kept.refl _ _,u.out⟩ ?_;clear hK;try simp only[Act.put,pA,pZ,pS]
  refine ob! 10 ?_;intro K hK;go_simp;have f:Below B w (E.freeze ⟨g,0,none⟩ text.size):=Lib.below_freeze u.out (p:=⟨g,0,none⟩) a0 _;refine hK.out _ _ ⟨gZ! (Kept.refl _ _) (fun e=>a3.out e) _,f⟩ ?_;clear hK;try simp only[Act.put,pA,pZ,pS]
  refine t! 11 ?_
  refine d! ?_;have HF:=h! f;clear h1 f;go_wp2_with fail
  go_ret
  exact⟨rfl,HF.out⟩
def WRes (B wb:Nat)(w:World)(text:ByteArray)(ok:Bool)(add:ByteArray)(wt:Nat)(e:Ending)(w':World):Prop :=
 e= .returned (.tuple #[])/\∃text',WrB w' B wb text' (!ok)/\text.size<=text'.size/\text'.size<=text.size+wt/\(ok=true->text'=text++add)/\ov! B wb w w'
theorem WRes.bad {B wb:Nat}{w w':World}{text add:ByteArray}{wt:Nat}(h:WrB w' B wb text true)(hk:ov! B wb w w'):WRes B wb w text false add wt (.returned (.tuple #[])) w' :=
 ⟨rfl,text,h,n0! _,Nat.le_add_right _ _,(fun h=>by cases h),hk⟩
theorem dD! {B wb:Nat}{text:ByteArray}{w:World}(k:Int)(ra rb:ByteArray)(n:Nat)(ao:Option Addr)(c:Nat)(d:Int)(h:WrB w B wb text true)(hBw:B<=w.heap.size) :
  Calls prog 190 #[.pointer (some ⟨wb,0,none⟩),.agg #[.int .i64 k,.string ra,.string rb,.slice ao n c],.int .i64 d] w fun e w'=>e= .returned (.tuple #[])/\WrB w' B wb text true/\ov! B wb w w':=by
 have j:=h! h;have r:=h! h.1;have p:=h! hBw;have l:=h! (show w.heap.size≠wb from by have:=h.lt;omega);clear h hBw;by_cases k4:k=4
 ·subst k4;have q:=h! (Blk.made w #[.int .i64 4,.string ra,.string rb,.slice ao n c] 106);have i:=h! (q.out.other (a:=⟨wb,2,none⟩) l.out (.bool true));have o:=h! (i.out.other (a:=⟨wb,2,none⟩) l.out (.bool true));have g:=h! ((j.out.up ((Below.refl _ w).alloc (n0! _) (.cells #[.int .i64 4,.string ra,.string rb,.slice ao n c] 106))).flag true);have f:=h! (g.out.flag true);have m:=h! (ov!.next (ov!.next (ov!.of ((Below.refl _ w).alloc (n0! _) (.cells #[.int .i64 4,.string ra,.string rb,.slice ao n c] 106)) p.out) (ov!.flag (b:=wb) r.out (.bool true))) (ov!.flag (b:=wb) r.out (.bool true)));have x0:=q.out.cells;have x1:=i.out.cells;have x2:=o.out.cells;obtain⟨e0,f0⟩:=(j.out.up ((Below.refl _ w).alloc (n0! _) (.cells #[.int .i64 4,.string ra,.string rb,.slice ao n c] 106))).odd2;obtain⟨e1,f1⟩:=g.out.odd2;obtain⟨e2,f2⟩:=f.out.odd2;go_enter func190,ntmps190
  go_wp2_with fail
  (try simp only[Exit.inBlock,Exit.then])
  refine bodyPost_ret (results_none rfl _ _ _) rfl ?_;exact⟨rfl,f.out,m.out⟩
 by_cases k5:k=5
 ·subst k5;have q:=h! (Blk.made w #[.int .i64 5,.string ra,.string rb,.slice ao n c] 106);have i:=h! (q.out.other (a:=⟨wb,2,none⟩) l.out (.bool true));have o:=h! (i.out.other (a:=⟨wb,2,none⟩) l.out (.bool true));have g:=h! ((j.out.up ((Below.refl _ w).alloc (n0! _) (.cells #[.int .i64 5,.string ra,.string rb,.slice ao n c] 106))).flag true);have f:=h! (g.out.flag true);have m:=h! (ov!.next (ov!.next (ov!.of ((Below.refl _ w).alloc (n0! _) (.cells #[.int .i64 5,.string ra,.string rb,.slice ao n c] 106)) p.out) (ov!.flag (b:=wb) r.out (.bool true))) (ov!.flag (b:=wb) r.out (.bool true)));have x0:=q.out.cells;have x1:=i.out.cells;have x2:=o.out.cells;obtain⟨e0,f0⟩:=(j.out.up ((Below.refl _ w).alloc (n0! _) (.cells #[.int .i64 5,.string ra,.string rb,.slice ao n c] 106))).odd2;obtain⟨e1,f1⟩:=g.out.odd2;obtain⟨e2,f2⟩:=f.out.odd2;go_enter func190,ntmps190
  go_wp2_with fail
  (try simp only[Exit.inBlock,Exit.then])
  refine bodyPost_ret (results_none rfl _ _ _) rfl ?_;exact⟨rfl,f.out,m.out⟩
 have q4:(k == 4)=false:=by rw[n7!];exact k4
 have q5:(k == 5)=false:=by rw[n7!];exact k5
 clear k4 k5;have q:=h! (Blk.made w #[.int .i64 k,.string ra,.string rb,.slice ao n c] 106);have i:=h! (q.out.other (a:=⟨wb,2,none⟩) l.out (.bool true));have o:=h! (i.out.other (a:=⟨wb,2,none⟩) l.out (.bool true));have g:=h! ((j.out.up ((Below.refl _ w).alloc (n0! _) (.cells #[.int .i64 k,.string ra,.string rb,.slice ao n c] 106))).flag true);have f:=h! (g.out.flag true);have m:=h! (ov!.next (ov!.next (ov!.of ((Below.refl _ w).alloc (n0! _) (.cells #[.int .i64 k,.string ra,.string rb,.slice ao n c] 106)) p.out) (ov!.flag (b:=wb) r.out (.bool true))) (ov!.flag (b:=wb) r.out (.bool true)));have x0:=q.out.cells;have x1:=i.out.cells;have x2:=o.out.cells;obtain⟨e0,f0⟩:=(j.out.up ((Below.refl _ w).alloc (n0! _) (.cells #[.int .i64 k,.string ra,.string rb,.slice ao n c] 106))).odd2;obtain⟨e1,f1⟩:=g.out.odd2;obtain⟨e2,f2⟩:=f.out.odd2;go_enter func190,ntmps190
 go_wp2_with fail
 (try simp only[Exit.inBlock,Exit.then])
 refine bodyPost_ret (results_none rfl _ _ _) rfl ?_;exact⟨rfl,f.out,m.out⟩
theorem mt! {B wb:Nat}{text:ByteArray}{w:World}(k:Int)(ra rb:ByteArray)(n:Nat)(ao:Option Addr)(c:Nat)(d:Int)(h:WrB w B wb text false)(hBw:B<=w.heap.size)(q1:(k == 1)=false)(q2:(k == 2)=false)(q3:(k == 3)=false)(q4:(k == 4)=false)(q5:(k == 5)=false) :
  Calls prog 190 #[.pointer (some ⟨wb,0,none⟩),.agg #[.int .i64 k,.string ra,.string rb,.slice ao n c],.int .i64 d] w (WRes B wb w text (false) (⟨#[]⟩) (10+ra.size+rb.size)):=by
 have i:=h! h;have q:=h! h.1;have o:=h! hBw;have j:=h! (show w.heap.size≠wb from by have:=h.lt;omega);clear h hBw;have a6:(k != 2)=true:=by rw[bne,q2];rfl
 have a4:(k != 3)=true:=by rw[bne,q3];rfl
 by_cases hlp:0<n
 ·have a5:(0:Int)<(n:Int):=by omega
  clear hlp;have p:=h! (Blk.made w #[.int .i64 k,.string ra,.string rb,.slice ao n c] 106);have g:=h! (p.out.other (a:=⟨wb,2,none⟩) j.out (.bool true));have l:=h! (g.out.other (a:=⟨wb,2,none⟩) j.out (.bool true));have f:=h! ((i.out.up ((Below.refl _ w).alloc (n0! _) (.cells #[.int .i64 k,.string ra,.string rb,.slice ao n c] 106))).flag true);have e:=h! (f.out.flag true);have m:=h! (ov!.next (ov!.next (ov!.of ((Below.refl _ w).alloc (n0! _) (.cells #[.int .i64 k,.string ra,.string rb,.slice ao n c] 106)) o.out) (ov!.flag (b:=wb) q.out (.bool true))) (ov!.flag (b:=wb) q.out (.bool true)));have x0:=p.out.cells;have x1:=g.out.cells;have x2:=l.out.cells;obtain⟨e0,f0⟩:=(i.out.up ((Below.refl _ w).alloc (n0! _) (.cells #[.int .i64 k,.string ra,.string rb,.slice ao n c] 106))).odd2;obtain⟨e1,f1⟩:=f.out.odd2;obtain⟨e2,f2⟩:=e.out.odd2;go_enter func190,ntmps190
  go_wp2_with fail
  (try simp only[Exit.inBlock,Exit.then])
  refine bodyPost_ret (results_none rfl _ _ _) rfl ?_;exact WRes.bad e.out m.out
 ·obtain rfl:n=0:=by omega
  clear hlp;by_cases hnrb:rb.size=0
  ·obtain rfl:=ag! hnrb;clear hnrb;by_cases hnra:ra.size=0
   ·obtain rfl:=ag! hnra;clear hnra;have p:=h! (Blk.made w #[.int .i64 k,.string ⟨#[]⟩,.string ⟨#[]⟩,.slice ao 0 c] 106);have g:=h! (p.out.other (a:=⟨wb,2,none⟩) j.out (.bool false));have l:=h! (g.out.other (a:=⟨wb,2,none⟩) j.out (.bool false));have f:=h! ((i.out.up ((Below.refl _ w).alloc (n0! _) (.cells #[.int .i64 k,.string ⟨#[]⟩,.string ⟨#[]⟩,.slice ao 0 c] 106))).flag false);have e:=h! (f.out.flag false);have a2:=h! (e.out.flag true);have a3:=h! (ov!.next (ov!.next (ov!.next (ov!.of ((Below.refl _ w).alloc (n0! _) (.cells #[.int .i64 k,.string ⟨#[]⟩,.string ⟨#[]⟩,.slice ao 0 c] 106)) o.out) (ov!.flag (b:=wb) q.out (.bool false))) (ov!.flag (b:=wb) q.out (.bool false))) (ov!.flag (b:=wb) q.out (.bool true)));have x0:=p.out.cells;have x1:=g.out.cells;have x2:=l.out.cells;obtain⟨e0,f0⟩:=(i.out.up ((Below.refl _ w).alloc (n0! _) (.cells #[.int .i64 k,.string ⟨#[]⟩,.string ⟨#[]⟩,.slice ao 0 c] 106))).odd2;obtain⟨e1,f1⟩:=f.out.odd2;obtain⟨e2,f2⟩:=e.out.odd2;go_enter func190,ntmps190
    go_wp2_with fail
    go_end0
    exact WRes.bad a2.out a3.out
   ·have a1:=ao! hnra;clear hnra;have p:=h! (Blk.made w #[.int .i64 k,.string ra,.string ⟨#[]⟩,.slice ao 0 c] 106);have g:=h! (p.out.other (a:=⟨wb,2,none⟩) j.out (.bool false));have l:=h! (g.out.other (a:=⟨wb,2,none⟩) j.out (.bool true));have f:=h! ((i.out.up ((Below.refl _ w).alloc (n0! _) (.cells #[.int .i64 k,.string ra,.string ⟨#[]⟩,.slice ao 0 c] 106))).flag false);have e:=h! (f.out.flag true);have m:=h! (ov!.next (ov!.next (ov!.of ((Below.refl _ w).alloc (n0! _) (.cells #[.int .i64 k,.string ra,.string ⟨#[]⟩,.slice ao 0 c] 106)) o.out) (ov!.flag (b:=wb) q.out (.bool false))) (ov!.flag (b:=wb) q.out (.bool true)));have x0:=p.out.cells;have x1:=g.out.cells;have x2:=l.out.cells;obtain⟨e0,f0⟩:=(i.out.up ((Below.refl _ w).alloc (n0! _) (.cells #[.int .i64 k,.string ra,.string ⟨#[]⟩,.slice ao 0 c] 106))).odd2;obtain⟨e1,f1⟩:=f.out.odd2;obtain⟨e2,f2⟩:=e.out.odd2;go_enter func190,ntmps190
    go_wp2_with fail
    (try simp only[Exit.inBlock,Exit.then])
    refine bodyPost_ret (results_none rfl _ _ _) rfl ?_;exact WRes.bad e.out m.out
  ·have a0:=ao! hnrb;clear hnrb;have p:=h! (Blk.made w #[.int .i64 k,.string ra,.string rb,.slice ao 0 c] 106);have g:=h! (p.out.other (a:=⟨wb,2,none⟩) j.out (.bool false));have l:=h! (g.out.other (a:=⟨wb,2,none⟩) j.out (.bool true));have f:=h! ((i.out.up ((Below.refl _ w).alloc (n0! _) (.cells #[.int .i64 k,.string ra,.string rb,.slice ao 0 c] 106))).flag false);have e:=h! (f.out.flag true);have m:=h! (ov!.next (ov!.next (ov!.of ((Below.refl _ w).alloc (n0! _) (.cells #[.int .i64 k,.string ra,.string rb,.slice ao 0 c] 106)) o.out) (ov!.flag (b:=wb) q.out (.bool false))) (ov!.flag (b:=wb) q.out (.bool true)));have x0:=p.out.cells;have x1:=g.out.cells;have x2:=l.out.cells;obtain⟨e0,f0⟩:=(i.out.up ((Below.refl _ w).alloc (n0! _) (.cells #[.int .i64 k,.string ra,.string rb,.slice ao 0 c] 106))).odd2;obtain⟨e1,f1⟩:=f.out.odd2;obtain⟨e2,f2⟩:=e.out.odd2;go_enter func190,ntmps190
   go_wp2_with fail
   (try simp only[Exit.inBlock,Exit.then])
   refine bodyPost_ret (results_none rfl _ _ _) rfl ?_;exact WRes.bad e.out m.out
def fC! (ts:List TyS)(t:TyS)(k:Int)(a b:ByteArray):Bool:=!((k == 2&&!hasT t a)||(k == 3&&(!hasT t a||!anyT ts b)))
mutual
def RT.named (ts:List TyS)(t:TyS):RT->Bool | .mk k a b ps=>fC! ts t k a b&&fz! ts t ps
def fz! (ts:List TyS)(t:TyS):List RT->Bool | []=>true | r::rs=>r.named ts t&&fz! ts t rs
end
theorem dV! (ts:List TyS)(t:TyS):∀l:List RT,fz! ts t l=l.all fun r=>r.named ts t
 | []=>rfl
 | r::rs=>by rw[fz!,List.all_cons,dV! ts t rs]
theorem WalkN.skip {P:Program}{ops:Array Oper}{Q:Exit->Act->World->Prop}{S:World->Prop}{f:Nat}{l:Array Bool}{a:Act}{w:World}(i:Nat)(o:Oper)(ho:ops[i]?=some o)(hf:Region.free .any ops l i=true)(hr:(Region.ready .any ops l).contains i=true)
  (hw:Region.wanted o (yielded ops a.tmps)=false) (h:WalkN P ops Q S f (l.setIfInBounds i true) (a.put o.dst undef) w):WalkN P ops Q S (f+1) l a w :=
 .inr (.inl ⟨i,o,undef,ho,hf,hr,.inr ⟨hw,rfl⟩,h⟩)
def bv! (k pk:Int)(d:Nat):Nat:=if k=5/\pk=4 then d+1 else d
mutual
def RT.textOk:RT->Nat->Bool
 | .mk k a b ps,d =>
  if k=1 then decide (a.size=0)&&decide (b.size=0)&&decide (ps.length=0)
  else if k=2 then ownB a&&decide (b.size=0)&&decide (ps.length=0)
  else if k=3 then ownB a&&ownB b&&decide (ps.length=0)
  else if k=4\/k=5 then decide (a.size=0)&&decide (b.size=0)&&decide (2<=ps.length)&&textL k ps d
  else false
def textL (k:Int):List RT->Nat->Bool
 | [],_=>true
 | p::ps,d=>(decide (p.k≠k)&&decide (bv! k p.k d<=8)&&p.textOk (bv! k p.k d))&&textL k ps d
end
def goodP (k:Int)(d:Nat)(p:RT):Bool:=decide (p.k≠k)&&decide (bv! k p.k d<=8)&&p.textOk (bv! k p.k d)
theorem be! (k:Int)(d:Nat):∀l:List RT,textL k l d=l.all (goodP k d)
 | []=>by rw[textL];rfl
 | r::rs=>by rw[textL,List.all_cons,be! k d rs];rfl
def sepT (k:Int):ByteArray:=if k=4 then⟨#[32,124,32]⟩else⟨#[32,38,32]⟩
mutual
def RT.text:RT->ByteArray
 | .mk k a b ps=>if k=1 then⟨#[116,104,105,115]⟩else if k=2 then a else if k=3 then(a++⟨#[45,62]⟩)++b else fc! k ps
def fc! (k:Int):List RT->ByteArray
 | []=>ByteArray.empty
 | p::ps=>(if k=5/\p.k=4 then⟨#[40]⟩++p.text++⟨#[41]⟩else p.text)++restT k ps
def restT (k:Int):List RT->ByteArray
 | []=>ByteArray.empty
 | p::ps=>sepT k++((if k=5/\p.k=4 then⟨#[40]⟩++p.text++⟨#[41]⟩else p.text)++restT k ps)
end
def txtP (k:Int)(p:RT):ByteArray:=if k=5/\p.k=4 then⟨#[40]⟩++p.text++⟨#[41]⟩else p.text
def joinT (k:Int)(ps:List RT):ByteArray:=fc! k ps
theorem eJ! (k:Int)(p:RT):∀l:List RT,restT k (l++[p])=restT k l++sepT k++txtP k p
 | []=>by
  rw[y2!,restT,restT,restT,ByteArray.append_empty,ByteArray.empty_append];rfl
 | q::l=>by
  rw[x2!,restT,eJ! k p l,restT];simp only[y1!]
theorem eT! (k:Int) {l:List RT}{i:Nat}(hi:i<l.length):joinT k (l.take (i+1))=if i=0 then txtP k l[i]else joinT k (l.take i)++sepT k++txtP k l[i]:=by
 rw[n2! hi];cases i with
 | zero =>
  rw[if_pos rfl,List.take_zero,y2!];unfold joinT;rw[fc!,restT,ByteArray.append_empty];rfl
 | succ i =>
  rw[if_neg (by omega)];cases l with
  | nil=>simp at hi
  | cons q l =>
   rw[List.take_succ_cons,x2!];unfold joinT;rw[fc!,fc!,eJ!];simp only[y1!]
mutual
def RT.wt:RT->Nat | .mk _ a b ps=>10+a.size+b.size+wtL ps
def wtL:List RT->Nat | []=>0 | p::ps=>(8+p.wt)+wtL ps
end
theorem es! (a b:List RT):wtL (a++b)=wtL a+wtL b:=by
 induction a with
 | nil=>simp[wtL]
 | cons x a ih=>rw[x2!,wtL,wtL,ih];omega
theorem dC! {l:List RT}{i:Nat}(hi:i<l.length):wtL (l.take (i+1))=wtL (l.take i)+(8+l[i].wt):=by
 rw[n2! hi,es!];simp[wtL]
theorem ms! (l:List RT)(i:Nat):wtL (l.take i)<=wtL l:=by
 conv=>rhs;rw[<-x6! i l]
 rw[es!];omega
theorem lc! {B wb:Nat}{text:ByteArray}{w:World}(ps:List RT)(d:Nat)(hd:d<=8)(pv:Value)(h:WrB w B wb text false)(hBw:B<=w.heap.size)(hat:RTAt (· < B) w (.mk 4 ⟨#[]⟩ ⟨#[]⟩ ps) pv)(hpos:0<text.size)(hlim:text.size+wtL ps<=1099511627776)
  (ih:∀p∈ps,∀(pv:Value) (d:Nat) (w:World) (text:ByteArray),RTAt (· < B) w p pv->text.size+p.wt<=1099511627776->0<text.size->d<=8->WrB w B wb text false->B<=w.heap.size->Calls prog 190 #[.pointer (some ⟨wb,0,none⟩),rV p pv,.int .i64 d] w (WRes B wb w text (p.textOk d) p.text p.wt)) :
  Calls prog 231 #[.pointer (some ⟨wb,0,none⟩),rV (.mk 4 ⟨#[]⟩ ⟨#[]⟩ ps) pv,.string ⟨#[32,124,32]⟩,.int .i64 d] w (WRes B wb w text (ps.all (goodP 4 d)) (joinT 4 ps) (wtL ps)):=by
 obtain⟨ao,c,rfl,aA,aL,s⟩:=hat.rows;dsimp only[RT.ps]at aA s ⊢;have HC:=h! s;have IH:=h! ih;have T:=h! hpos;have HB:=h! h.1;have L:=h! hBw;have R:=h! (show w.heap.size≠wb from by have:=h.lt;omega);have E:=h! hlim;have a6:=Blk.made w #[.int .i64 4,.string ⟨#[]⟩,.string ⟨#[]⟩,.slice ao ps.length c] 106;have ai:=h! (h.up ((Below.refl _ w).alloc (n0! _) (.cells #[.int .i64 4,.string ⟨#[]⟩,.string ⟨#[]⟩,.slice ao ps.length c] 106)));have q:=h! (ov!.of (b:=wb) ((Below.refl _ w).alloc (n0! _) (.cells #[.int .i64 4,.string ⟨#[]⟩,.string ⟨#[]⟩,.slice ao ps.length c] 106)) hBw);have aJ:=a6.cells;unfold rV;dsimp only[RT.k,RT.a,RT.b];generalize hg:ps.all (goodP 4 d)=g;have HG:=h! hg.symm;clear hat s ih hpos h hBw hlim hg;go_enter func231,ntmps231
 go_wp2_with fail
 obtain⟨w1,ay⟩:=e! (w.alloc (.cells #[.int .i64 4,.string ⟨#[]⟩,.string ⟨#[]⟩,.slice ao ps.length c] 106));rw[<-ay]at a6 ai q ⊢;have V:=h! a6;clear aJ ay a6;generalize hX:w.heap.size=X at *;have HX:=h! hX;have L:=h! (show B<=w.heap.size from by rw[HX.out];exact L.out);clear hX;go_loopw [13] (fun ii wr=>∃(i:Nat) (t:ByteArray) (o:Bool),i<=ps.length/\ii= .int .i64 i/\o=!((ps.take i).all (goodP 4 d))/\WrB wr B wb t o/\text.size<=t.size/\t.size<=text.size+wtL (ps.take i)/\(o=false->t=text++joinT 4 (ps.take i))/\ov! B wb w1 wr) (fun ii _=>ps.length-(intOf ii).toNat)
 case atStart=>exact⟨0,text,false,by omega,rfl,rfl,ai.out,n0! _,Nat.le_add_right _ _,fun _=>by rw[List.take_zero];exact(ByteArray.append_empty).symm,Kept.refl _ _⟩
 case round =>
  obtain⟨i,t,o,hi,rfl,ho,hw,O,Q,hj,hk⟩:=hrel;have HO:=h! ho;have HW:=h! hw;have HJ:=h! hj;have HS:=h! (And.intro O Q);clear ai ho hw hj O Q;by_cases hlt:i<ps.length
  ·have v:Below B w wr:=(ov!.next q.out hk).below;have ar:=h! (dC! hlt);have K:=h! (show wtL (ps.take i)+(8+ps[i].wt)<=wtL ps from by have:=ms! ps (i+1);rw[dC! hlt]at this;exact this);have au:=h! (eT! 4 hlt);have a2:=fun(h:goodP 4 d ps[i]=false)=>(show g=false from by rw[HG.out];exact List.all_eq_false.2 ⟨ps[i],n5! hlt,by rw[h];exact Bool.false_ne_true⟩);have a4:=h! (fun(h:goodP 4 d ps[i]=false)=>a2 h);have aC:=h! (show(ps.take (i+1)).all (goodP 4 d)=((ps.take i).all (goodP 4 d)&&goodP 4 d ps[i])from by rw[n2! hlt,List.all_append];simp);have m:=n5! hlt;obtain⟨bb,a7,aK,aD,hb,c0,c1,c2,c3,J⟩:=HC.out i hlt;cases aD;have a9:=(v.cell (p:=⟨bb,a7+i*4,none⟩) hb).trans c0;have ae:=(v.cell (p:=⟨bb,a7+i*4+1,none⟩) hb).trans c1;have ad:=(v.cell (p:=⟨bb,a7+i*4+2,none⟩) hb).trans c2;have an:=(v.cell (p:=⟨bb,a7+i*4+3,none⟩) hb).trans c3;obtain⟨am,ag,rfl,-⟩:=J.rows;have av:=h! J;clear c0 c1 c2 c3 J v a2;generalize ps[i]=p at *;have U:=h! (Blk.made wr #[.int .i64 p.k,.string p.a,.string p.b,.slice am p.ps.length ag] 106);have Y:=h! (show wr.heap.size≠wb from by have:=HW.out.lt;omega);have aj:X<wr.heap.size:=n1! V.out.lt hk.size;have aB:=h! (n6! L.out (by rw[HX.out];exact Nat.le_of_lt aj));have F:=h! (ov!.next hk (ov!.of ((Below.refl _ wr).alloc (n0! _) (.cells #[.int .i64 p.k,.string p.a,.string p.b,.slice am p.ps.length ag] 106)) aB.out));have a0:=h! (F.out.box V.out (by decide) R.out);have N:=h! (HW.out.up ((Below.refl _ wr).alloc (n0! _) (.cells #[.int .i64 p.k,.string p.a,.string p.b,.slice am p.ps.length ag] 106)));have al:=U.out.cells;have af:=a0.out.cells;clear hk;cases o with
   | true =>
    have j:(ps.take i).all (goodP 4 d)=false:=by have:=HO.out;simpa using this
    have a8:(0:Int)<(i:Int):=by
     have:i≠0:=fun h=>by rw[h]at j;simp at j
     omega
    have HF:=h! (show g=false from by
     rw[HG.out];have:=j;rw[<-x6! i ps,List.all_append,j];rfl)
    have a1:=h! (aa! ⟨#[32,124,32]⟩ N.out (by have:=HS.out;have:=E.out;have:=K.out;show _+3<=_;omega) (by show 0<_+3;omega) (n6! L.out (ov!.next q.out F.out).size));rw[HF.out];clear j m;go_wp2_with fail
    refine a1.out.mono ?_;rintro e wB ⟨rfl,M,H⟩;have A:=h! (ov!.next F.out (ov!.next H (ov!.flag (b:=wb) HB.out (.bool true))));have l:=h! (M.flag true);obtain⟨eb,fb⟩:=M.odd2;obtain⟨ec,fc⟩:=l.out.odd2;clear a1 M H al af a9 ae ad an a8;go_wp2_with fail
    (try simp only[Exit.inBlock,Exit.then])
    refine bodyPost_ret (results_none rfl _ _ _) rfl ?_;exact⟨rfl,t++⟨#[32,124,32]⟩,l.out,(by rw[n3!];have:=HS.out;omega),(by rw[n3!];have:=HS.out;have:=K.out;show _+3<=_;omega),(fun h=>by cases h),ov!.next q.out A.out⟩
   | false =>
    have j:(ps.take i).all (goodP 4 d)=true:=by have:=HO.out;simpa using this
    have ax:=h! (show(ps.take (i+1)).all (goodP 4 d)=goodP 4 d p from by rw[aC.out,j,Bool.true_and]);have aq:=h! (HJ.out rfl);clear j;by_cases hi0:i=0
    ·have a8:¬ ((0:Int)<(i:Int)):=by omega
     obtain⟨tB,G⟩:=e! t;have z:=h! (show text.size<=tB.size/\tB.size<=text.size+wtL (ps.take i)+3/\wtL (ps.take i)+(8+p.wt)<=wtL ps from by rw[G];have:=HS.out;have:=K.out;omega);have ah:=h! (show tB++txtP 4 p=text++joinT 4 (ps.take (i+1))from by rw[G,aq.out,au.out,if_pos hi0,hi0,List.take_zero];show text++ByteArray.empty++_=_;rw[ByteArray.append_empty]);rw[<-G]at N;clear G hi0;have r:=h! N.out;have A:=h! F.out;have u:=h! U.out;have y:=h! a0.out;clear N F U a0 al af HW HJ HO;by_cases hkk:p.k=4
     ·have HF:=h! (a4.out (by unfold goodP;simp[hkk]));obtain⟨pk,pa,pb,aI⟩:=p;dsimp only[RT.k,RT.a,RT.b,RT.ps]at *;subst hkk;have l:=h! (r.out.flag true);have C:=h! (u.out.other (a:=⟨wb,2,none⟩) Y.out (.bool true));have D:=h! (y.out.other (a:=⟨wb,2,none⟩) R.out (.bool true));have n:=h! (ov!.next A.out (ov!.flag (b:=wb) HB.out (.bool true)));have aF:=u.out.cells;have xb:=y.out.cells;have pc:=C.out.cells;have xc:=D.out.cells;obtain⟨eb,fb⟩:=r.out.odd2;obtain⟨ec,fc⟩:=l.out.odd2;clear m;go_wp2_with fail
      rw[HF.out];(try simp only[Exit.inBlock,Exit.then])
      refine bodyPost_ret (results_none rfl _ _ _) rfl ?_;exact⟨rfl,tB,l.out,(by have:=z.out;omega),(by have:=z.out;have:=K.out;omega),(fun h=>by cases h),ov!.next q.out n.out⟩
     ·have aG:(p.k == 4)=false:=by rw[n7!];exact hkk
      have f:goodP 4 d p=p.textOk d:=by unfold goodP bv!;simp[hkk,hd]
      have l:=h! (r.out.flag false);have C:=h! (u.out.other (a:=⟨wb,2,none⟩) Y.out (.bool false));have D:=h! (y.out.other (a:=⟨wb,2,none⟩) R.out (.bool false));have n:=h! (ov!.next A.out (ov!.flag (b:=wb) HB.out (.bool false)));have pb:=u.out.cells;have xb:=y.out.cells;have pc:=C.out.cells;have xc:=D.out.cells;obtain⟨eb,fb⟩:=r.out.odd2;obtain⟨ec,fc⟩:=l.out.odd2;have HR:=h! (IH.out p m _ d _ tB (av.out.same (Same.below (ov!.next q.out n.out).below)) (by have:=z.out;have:=E.out;omega) (by have:=z.out;have:=T.out;omega) hd l.out (n6! L.out (ov!.next q.out n.out).size));unfold rV at HR;clear m;go_wp2_with fail
      refine HR.out.mono ?_;rintro e wD ⟨rfl,tD,Z,O,Q,x,a3⟩;have ak:=h! Z;have ab:=h! (ov!.next n.out a3);have a5:=h! (show text.size<=tD.size/\tD.size<=text.size+wtL (ps.take (i+1))from by have:=z.out;have:=ar.out;omega);have aa:=h! (show(!(p.textOk d))=!((ps.take (i+1)).all (goodP 4 d))from by rw[ax.out,f])
      have ac:=h! (show(!(p.textOk d))=false->tD=text++joinT 4 (ps.take (i+1))from fun h=>by
       rw[<-ah.out,x (by simpa using h)];unfold txtP;rw[if_neg (by simp)])
      clear pb xb pc xc eb fb ec fc;clear HR Z O Q x a3 r A u y l C D n f a9 ae ad an;go_wp2_with fail
      go_roundw
      case rel=>exact⟨i+1,tD,_,by omega,by go_num,aa.out,ak.out,a5.out.1,a5.out.2,ac.out,ab.out⟩
      case measure=>simp[intOf];omega
    ·have a8:(0:Int)<(i:Int):=by omega
     have a1:=h! (aa! ⟨#[32,124,32]⟩ N.out (by have:=HS.out;have:=E.out;have:=K.out;show _+3<=_;omega) (by show 0<_+3;omega) (n6! L.out (ov!.next q.out F.out).size));have I:=h! (show t++⟨#[32,124,32]⟩++txtP 4 p=text++joinT 4 (ps.take (i+1))from by rw[aq.out,au.out,if_neg hi0];simp only[y1!];rfl);clear hi0;go_wp2_with fail
     refine a1.out.mono ?_;rintro e wB ⟨rfl,M,H⟩;have A:=h! (ov!.next F.out H);have u:=h! (H.box U.out (by decide) Y.out);have y:=h! (H.box a0.out (by decide) R.out);have ap:(t++⟨#[32,124,32]⟩).size=t.size+3:=by rw[n3!];rfl
     obtain⟨tB,G⟩:=e! (t++⟨#[32,124,32]⟩);rw[<-G]at M I ap;have r:=h! M;have ah:=h! I.out;have z:=h! (show text.size<=tB.size/\tB.size<=text.size+wtL (ps.take i)+3/\wtL (ps.take i)+(8+p.wt)<=wtL ps from by rw[ap];have:=HS.out;have:=K.out;omega);clear a1 M H G ap I N F U a0 al af HW HJ HO a8;by_cases hkk:p.k=4
     ·have HF:=h! (a4.out (by unfold goodP;simp[hkk]));obtain⟨pk,pa,pb,aI⟩:=p;dsimp only[RT.k,RT.a,RT.b,RT.ps]at *;subst hkk;have l:=h! (r.out.flag true);have C:=h! (u.out.other (a:=⟨wb,2,none⟩) Y.out (.bool true));have D:=h! (y.out.other (a:=⟨wb,2,none⟩) R.out (.bool true));have n:=h! (ov!.next A.out (ov!.flag (b:=wb) HB.out (.bool true)));have aF:=u.out.cells;have xb:=y.out.cells;have pc:=C.out.cells;have xc:=D.out.cells;obtain⟨eb,fb⟩:=r.out.odd2;obtain⟨ec,fc⟩:=l.out.odd2;clear m;go_wp2_with fail
      rw[HF.out];(try simp only[Exit.inBlock,Exit.then])
      refine bodyPost_ret (results_none rfl _ _ _) rfl ?_;exact⟨rfl,tB,l.out,(by have:=z.out;omega),(by have:=z.out;have:=K.out;omega),(fun h=>by cases h),ov!.next q.out n.out⟩
     ·have aG:(p.k == 4)=false:=by rw[n7!];exact hkk
      have f:goodP 4 d p=p.textOk d:=by unfold goodP bv!;simp[hkk,hd]
      have l:=h! (r.out.flag false);have C:=h! (u.out.other (a:=⟨wb,2,none⟩) Y.out (.bool false));have D:=h! (y.out.other (a:=⟨wb,2,none⟩) R.out (.bool false));have n:=h! (ov!.next A.out (ov!.flag (b:=wb) HB.out (.bool false)));have pb:=u.out.cells;have xb:=y.out.cells;have pc:=C.out.cells;have xc:=D.out.cells;obtain⟨eb,fb⟩:=r.out.odd2;obtain⟨ec,fc⟩:=l.out.odd2;have HR:=h! (IH.out p m _ d _ tB (av.out.same (Same.below (ov!.next q.out n.out).below)) (by have:=z.out;have:=E.out;omega) (by have:=z.out;have:=T.out;omega) hd l.out (n6! L.out (ov!.next q.out n.out).size));unfold rV at HR;clear m;go_wp2_with fail
      refine HR.out.mono ?_;rintro e wD ⟨rfl,tD,Z,O,Q,x,a3⟩;have ak:=h! Z;have ab:=h! (ov!.next n.out a3);have a5:=h! (show text.size<=tD.size/\tD.size<=text.size+wtL (ps.take (i+1))from by have:=z.out;have:=ar.out;omega);have aa:=h! (show(!(p.textOk d))=!((ps.take (i+1)).all (goodP 4 d))from by rw[ax.out,f])
      have ac:=h! (show(!(p.textOk d))=false->tD=text++joinT 4 (ps.take (i+1))from fun h=>by
       rw[<-ah.out,x (by simpa using h)];unfold txtP;rw[if_neg (by simp)])
      clear pb xb pc xc eb fb ec fc;clear HR Z O Q x a3 r A u y l C D n f a9 ae ad an;go_wp2_with fail
      go_roundw
      case rel=>exact⟨i+1,tD,_,by omega,by go_num,aa.out,ak.out,a5.out.1,a5.out.2,ac.out,ab.out⟩
      case measure=>simp[intOf];omega
  ·obtain rfl:i=ps.length:=by omega
   rw[u2!]at HO HJ HS;have aw:=h! (show(!g)=o from by rw[HG.out];exact HO.out.symm);have aE:=h! (ov!.next q.out hk);have aH:=h! (show g=true->t=text++joinT 4 ps from fun h=>HJ.out (by rw[<-aw.out,h];rfl));have az:=h! HW.out;clear hk HJ HW HO;go_wp2_with fail
   go_end0
   exact⟨rfl,t,by rw[aw.out];exact az.out,HS.out.1,HS.out.2,aH.out,aE.out⟩
theorem gz! {B wb:Nat}{add:ByteArray}{wt:Nat}{text:ByteArray}{w:World}(ra rb:ByteArray)(n:Nat)(ao:Option Addr)(c:Nat)(d:Int)(h:WrB w B wb text false)(hBw:B<=w.heap.size)(hbad:¬ (ra.size=0/\rb.size=0/\2<=n)) :
  Calls prog 190 #[.pointer (some ⟨wb,0,none⟩),.agg #[.int .i64 4,.string ra,.string rb,.slice ao n c],.int .i64 d] w (WRes B wb w text (false) (add) (wt)):=by
 have i:=h! h;have p:=h! h.1;have m:=h! hBw;have j:=h! (show w.heap.size≠wb from by have:=h.lt;omega);clear h hBw;by_cases h0:n=0
 ·subst h0;clear hbad;have o:=h! (Blk.made w #[.int .i64 4,.string ra,.string rb,.slice ao 0 c] 106);have g:=h! (o.out.other (a:=⟨wb,2,none⟩) j.out (.bool true));have l:=h! (g.out.other (a:=⟨wb,2,none⟩) j.out (.bool true));have f:=h! ((i.out.up ((Below.refl _ w).alloc (n0! _) (.cells #[.int .i64 4,.string ra,.string rb,.slice ao 0 c] 106))).flag true);have e:=h! (f.out.flag true);have k:=h! (ov!.next (ov!.next (ov!.of ((Below.refl _ w).alloc (n0! _) (.cells #[.int .i64 4,.string ra,.string rb,.slice ao 0 c] 106)) m.out) (ov!.flag (b:=wb) p.out (.bool true))) (ov!.flag (b:=wb) p.out (.bool true)));have x0:=o.out.cells;have x1:=g.out.cells;have x2:=l.out.cells;obtain⟨e0,f0⟩:=(i.out.up ((Below.refl _ w).alloc (n0! _) (.cells #[.int .i64 4,.string ra,.string rb,.slice ao 0 c] 106))).odd2;obtain⟨e1,f1⟩:=f.out.odd2;obtain⟨e2,f2⟩:=e.out.odd2;go_enter func190,ntmps190
  go_wp2_with fail
  (try simp only[Exit.inBlock,Exit.then])
  refine bodyPost_ret (results_none rfl _ _ _) rfl ?_;exact WRes.bad e.out k.out
 by_cases h1:n=1
 ·subst h1;clear hbad h0;have o:=h! (Blk.made w #[.int .i64 4,.string ra,.string rb,.slice ao 1 c] 106);have g:=h! (o.out.other (a:=⟨wb,2,none⟩) j.out (.bool true));have l:=h! (g.out.other (a:=⟨wb,2,none⟩) j.out (.bool true));have f:=h! ((i.out.up ((Below.refl _ w).alloc (n0! _) (.cells #[.int .i64 4,.string ra,.string rb,.slice ao 1 c] 106))).flag true);have e:=h! (f.out.flag true);have k:=h! (ov!.next (ov!.next (ov!.of ((Below.refl _ w).alloc (n0! _) (.cells #[.int .i64 4,.string ra,.string rb,.slice ao 1 c] 106)) m.out) (ov!.flag (b:=wb) p.out (.bool true))) (ov!.flag (b:=wb) p.out (.bool true)));have x0:=o.out.cells;have x1:=g.out.cells;have x2:=l.out.cells;obtain⟨e0,f0⟩:=(i.out.up ((Below.refl _ w).alloc (n0! _) (.cells #[.int .i64 4,.string ra,.string rb,.slice ao 1 c] 106))).odd2;obtain⟨e1,f1⟩:=f.out.odd2;obtain⟨e2,f2⟩:=e.out.odd2;go_enter func190,ntmps190
  go_wp2_with fail
  (try simp only[Exit.inBlock,Exit.then])
  refine bodyPost_ret (results_none rfl _ _ _) rfl ?_;exact WRes.bad e.out k.out
 have a2:(0:Int)<(n:Int):=by omega
 have a3:¬ ((n:Int)<2):=by omega
 by_cases hnrb:rb.size=0
 ·obtain rfl:=ag! hnrb;clear hnrb;by_cases hnra:ra.size=0
  ·obtain rfl:=ag! hnra;clear hnra;exact absurd ⟨rfl,rfl,by omega⟩ hbad
  ·have a1:=ao! hnra;clear hbad hnra h0 h1;have o:=h! (Blk.made w #[.int .i64 4,.string ra,.string ⟨#[]⟩,.slice ao n c] 106);have g:=h! (o.out.other (a:=⟨wb,2,none⟩) j.out (.bool false));have l:=h! (g.out.other (a:=⟨wb,2,none⟩) j.out (.bool true));have f:=h! ((i.out.up ((Below.refl _ w).alloc (n0! _) (.cells #[.int .i64 4,.string ra,.string ⟨#[]⟩,.slice ao n c] 106))).flag false);have e:=h! (f.out.flag true);have k:=h! (ov!.next (ov!.next (ov!.of ((Below.refl _ w).alloc (n0! _) (.cells #[.int .i64 4,.string ra,.string ⟨#[]⟩,.slice ao n c] 106)) m.out) (ov!.flag (b:=wb) p.out (.bool false))) (ov!.flag (b:=wb) p.out (.bool true)));have x0:=o.out.cells;have x1:=g.out.cells;have x2:=l.out.cells;obtain⟨e0,f0⟩:=(i.out.up ((Below.refl _ w).alloc (n0! _) (.cells #[.int .i64 4,.string ra,.string ⟨#[]⟩,.slice ao n c] 106))).odd2;obtain⟨e1,f1⟩:=f.out.odd2;obtain⟨e2,f2⟩:=e.out.odd2;go_enter func190,ntmps190
   go_wp2_with fail
   (try simp only[Exit.inBlock,Exit.then])
   refine bodyPost_ret (results_none rfl _ _ _) rfl ?_;exact WRes.bad e.out k.out
 ·have a0:=ao! hnrb;clear hbad hnrb h0 h1;have o:=h! (Blk.made w #[.int .i64 4,.string ra,.string rb,.slice ao n c] 106);have g:=h! (o.out.other (a:=⟨wb,2,none⟩) j.out (.bool false));have l:=h! (g.out.other (a:=⟨wb,2,none⟩) j.out (.bool true));have f:=h! ((i.out.up ((Below.refl _ w).alloc (n0! _) (.cells #[.int .i64 4,.string ra,.string rb,.slice ao n c] 106))).flag false);have e:=h! (f.out.flag true);have k:=h! (ov!.next (ov!.next (ov!.of ((Below.refl _ w).alloc (n0! _) (.cells #[.int .i64 4,.string ra,.string rb,.slice ao n c] 106)) m.out) (ov!.flag (b:=wb) p.out (.bool false))) (ov!.flag (b:=wb) p.out (.bool true)));have x0:=o.out.cells;have x1:=g.out.cells;have x2:=l.out.cells;obtain⟨e0,f0⟩:=(i.out.up ((Below.refl _ w).alloc (n0! _) (.cells #[.int .i64 4,.string ra,.string rb,.slice ao n c] 106))).odd2;obtain⟨e1,f1⟩:=f.out.odd2;obtain⟨e2,f2⟩:=e.out.odd2;go_enter func190,ntmps190
  go_wp2_with fail
  (try simp only[Exit.inBlock,Exit.then])
  refine bodyPost_ret (results_none rfl _ _ _) rfl ?_;exact WRes.bad e.out k.out
theorem la! {B wb:Nat}{text:ByteArray}{w:World}(ps:List RT)(d:Nat)(hd:d<=8)(pv:Value)(h:WrB w B wb text false)(hBw:B<=w.heap.size)(hat:RTAt (· < B) w (.mk 4 ⟨#[]⟩ ⟨#[]⟩ ps) pv)(hpos:0<text.size)(hlim:text.size+wtL ps<=1099511627776)(h2:2<=ps.length)
  (ih:∀p∈ps,∀(pv:Value) (d:Nat) (w:World) (text:ByteArray),RTAt (· < B) w p pv->text.size+p.wt<=1099511627776->0<text.size->d<=8->WrB w B wb text false->B<=w.heap.size->Calls prog 190 #[.pointer (some ⟨wb,0,none⟩),rV p pv,.int .i64 d] w (WRes B wb w text (p.textOk d) p.text p.wt)) :
  Calls prog 190 #[.pointer (some ⟨wb,0,none⟩),rV (.mk 4 ⟨#[]⟩ ⟨#[]⟩ ps) pv,.int .i64 d] w (WRes B wb w text (ps.all (goodP 4 d)) (joinT 4 ps) (wtL ps)):=by
 have q:=h! hat;obtain⟨A,c,rfl,-⟩:=hat.rows;have IH:=h! ih;have j:=h! hpos;have HD:=h! hd;have n:=h! hlim;unfold rV;dsimp only[RT.k,RT.a,RT.b,RT.ps]at q ⊢;have a2:(0:Int)<(ps.length:Int):=by omega
 have a3:¬ ((ps.length:Int)<2):=by omega
 clear hat ih hpos hlim h2 hd;have r:=h! h;have HB:=h! h.1;have v:=h! hBw;have s:=h! (show w.heap.size≠wb from by have:=h.lt;omega);clear h hBw;have HX:=h! (Blk.made w #[.int .i64 4,.string ⟨#[]⟩,.string ⟨#[]⟩,.slice A ps.length c] 106);have m:=h! (HX.out.other (a:=⟨wb,2,none⟩) s.out (.bool false));have z:=h! (m.out.other (a:=⟨wb,2,none⟩) s.out (.bool false));have l:=h! ((r.out.up ((Below.refl _ w).alloc (n0! _) (.cells #[.int .i64 4,.string ⟨#[]⟩,.string ⟨#[]⟩,.slice A ps.length c] 106))).flag false);have i:=h! (l.out.flag false);have g:=h! (ov!.next (ov!.next (ov!.of ((Below.refl _ w).alloc (n0! _) (.cells #[.int .i64 4,.string ⟨#[]⟩,.string ⟨#[]⟩,.slice A ps.length c] 106)) v.out) (ov!.flag (b:=wb) HB.out (.bool false))) (ov!.flag (b:=wb) HB.out (.bool false)));have x0:=HX.out.cells;have x1:=m.out.cells;have x2:=z.out.cells;obtain⟨e0,f0⟩:=(r.out.up ((Below.refl _ w).alloc (n0! _) (.cells #[.int .i64 4,.string ⟨#[]⟩,.string ⟨#[]⟩,.slice A ps.length c] 106))).odd2;obtain⟨e1,f1⟩:=l.out.odd2;obtain⟨e2,f2⟩:=i.out.odd2;go_enter func190,ntmps190
 go_wp2_with fail
 obtain⟨w3,y⟩:=e! (((w.alloc (.cells #[.int .i64 4,.string ⟨#[]⟩,.string ⟨#[]⟩,.slice A ps.length c] 106)).setCell ⟨wb,2,none⟩ (.bool false)).setCell ⟨wb,2,none⟩ (.bool false));rw[<-y]at z i g ⊢;clear y HX m l x0 x1 x2 e0 e1 e2 f0 f1 f2;have a1:=h! (n6! v.out g.out.size);have C:=h! (lc! ps d HD.out _ i.out a1.out (q.out.same (Same.below g.out.below)) j.out n.out IH.out);unfold rV at C;dsimp only[RT.k,RT.a,RT.b]at C;refine C.out.mono ?_;rintro e w4 ⟨rfl,t4,o,x,t,f,u⟩;have a0:Hid (WRes B wb w text (ps.all (goodP 4 d)) (joinT 4 ps) (wtL ps) (.returned (.tuple #[])) w4):=h! ⟨rfl,t4,o,x,t,f,ov!.next g.out u⟩;clear C o x t f u;go_wp2_with fail
 go_end0
 exact a0.out
theorem lb! {B wb:Nat}{text:ByteArray}{w:World}(ps:List RT)(d:Nat)(hd:d<=8)(pv:Value)(h:WrB w B wb text false)(hBw:B<=w.heap.size)(hat:RTAt (· < B) w (.mk 5 ⟨#[]⟩ ⟨#[]⟩ ps) pv)(hpos:0<text.size)(hlim:text.size+wtL ps<=1099511627776)
  (ih:∀p∈ps,∀(pv:Value) (d:Nat) (w:World) (text:ByteArray),RTAt (· < B) w p pv->text.size+p.wt<=1099511627776->0<text.size->d<=8->WrB w B wb text false->B<=w.heap.size->Calls prog 190 #[.pointer (some ⟨wb,0,none⟩),rV p pv,.int .i64 d] w (WRes B wb w text (p.textOk d) p.text p.wt)) :
  Calls prog 231 #[.pointer (some ⟨wb,0,none⟩),rV (.mk 5 ⟨#[]⟩ ⟨#[]⟩ ps) pv,.string ⟨#[32,38,32]⟩,.int .i64 d] w (WRes B wb w text (ps.all (goodP 5 d)) (joinT 5 ps) (wtL ps)):=by
 obtain⟨ao,c,rfl,aV,b2,T⟩:=hat.rows;dsimp only[RT.ps]at aV T ⊢;have HC:=h! T;have IH:=h! ih;have a4:=h! hpos;have HB:=h! h.1;have D:=h! hBw;have a5:=h! (show w.heap.size≠wb from by have:=h.lt;omega);have l:=h! hlim;have aC:=Blk.made w #[.int .i64 5,.string ⟨#[]⟩,.string ⟨#[]⟩,.slice ao ps.length c] 106;have aK:=h! (h.up ((Below.refl _ w).alloc (n0! _) (.cells #[.int .i64 5,.string ⟨#[]⟩,.string ⟨#[]⟩,.slice ao ps.length c] 106)));have n:=h! (ov!.of (b:=wb) ((Below.refl _ w).alloc (n0! _) (.cells #[.int .i64 5,.string ⟨#[]⟩,.string ⟨#[]⟩,.slice ao ps.length c] 106)) hBw);have b0:=aC.cells;unfold rV;dsimp only[RT.k,RT.a,RT.b];generalize hg:ps.all (goodP 5 d)=g;have HG:=h! hg.symm;clear hat T ih hpos h hBw hlim hg;go_enter func231,ntmps231
 go_wp2_with fail
 obtain⟨w1,aT⟩:=e! (w.alloc (.cells #[.int .i64 5,.string ⟨#[]⟩,.string ⟨#[]⟩,.slice ao ps.length c] 106));rw[<-aT]at aC aK n ⊢;have ap:=h! aC;clear b0 aT aC;generalize hX:w.heap.size=X at *;have HX:=h! hX;have D:=h! (show B<=w.heap.size from by rw[HX.out];exact D.out);clear hX;go_loopw [13] (fun ii wr=>∃(i:Nat) (t:ByteArray) (o:Bool),i<=ps.length/\ii= .int .i64 i/\o=!((ps.take i).all (goodP 5 d))/\WrB wr B wb t o/\text.size<=t.size/\t.size<=text.size+wtL (ps.take i)/\(o=false->t=text++joinT 5 (ps.take i))/\ov! B wb w1 wr) (fun ii _=>ps.length-(intOf ii).toNat)
 case atStart=>exact⟨0,text,false,by omega,rfl,rfl,aK.out,n0! _,Nat.le_add_right _ _,fun _=>by rw[List.take_zero];exact(ByteArray.append_empty).symm,Kept.refl _ _⟩
 case round =>
  obtain⟨i,t,o,hi,rfl,ho,hw,M,N,hj,hk⟩:=hrel;have HO:=h! ho;have HW:=h! hw;have HJ:=h! hj;have HS:=h! (And.intro M N);clear aK ho hw hj M N;by_cases hlt:i<ps.length
  ·have a0:Below B w wr:=(ov!.next n.out hk).below;have ak:=h! (dC! hlt);have af:=h! (show wtL (ps.take i)+(8+ps[i].wt)<=wtL ps from by have:=ms! ps (i+1);rw[dC! hlt]at this;exact this);have aR:=h! (eT! 5 hlt);have ax:=fun(h:goodP 5 d ps[i]=false)=>(show g=false from by rw[HG.out];exact List.all_eq_false.2 ⟨ps[i],n5! hlt,by rw[h];exact Bool.false_ne_true⟩);have ay:=h! (fun(h:goodP 5 d ps[i]=false)=>ax h);have aX:=h! (show(ps.take (i+1)).all (goodP 5 d)=((ps.take i).all (goodP 5 d)&&goodP 5 d ps[i])from by rw[n2! hlt,List.all_append];simp);have v:=n5! hlt;obtain⟨bb,aD,b1,aY,hb,c0,c1,c2,c3,ad⟩:=HC.out i hlt;cases aY;have a7:=(a0.cell (p:=⟨bb,aD+i*4,none⟩) hb).trans c0;have ae:=(a0.cell (p:=⟨bb,aD+i*4+1,none⟩) hb).trans c1;have aa:=(a0.cell (p:=⟨bb,aD+i*4+2,none⟩) hb).trans c2;have aj:=(a0.cell (p:=⟨bb,aD+i*4+3,none⟩) hb).trans c3;obtain⟨az,aq,rfl,-⟩:=ad.rows;have aB:=h! ad;clear c0 c1 c2 c3 ad a0 ax;generalize ps[i]=p at *;have an:=h! (Blk.made wr #[.int .i64 p.k,.string p.a,.string p.b,.slice az p.ps.length aq] 106);have K:=h! (show wr.heap.size≠wb from by have:=HW.out.lt;omega);have aL:X<wr.heap.size:=n1! ap.out.lt hk.size;have aW:=h! (n6! D.out (by rw[HX.out];exact Nat.le_of_lt aL));have a6:=h! (ov!.next hk (ov!.of ((Below.refl _ wr).alloc (n0! _) (.cells #[.int .i64 p.k,.string p.a,.string p.b,.slice az p.ps.length aq] 106)) aW.out));have av:=h! (a6.out.box ap.out (by decide) a5.out);have al:=h! (HW.out.up ((Below.refl _ wr).alloc (n0! _) (.cells #[.int .i64 p.k,.string p.a,.string p.b,.slice az p.ps.length aq] 106)));have aN:=an.out.cells;have aI:=av.out.cells;clear hk;cases o with
   | true =>
    have F:(ps.take i).all (goodP 5 d)=false:=by have:=HO.out;simpa using this
    have aE:(0:Int)<(i:Int):=by
     have:i≠0:=fun h=>by rw[h]at F;simp at F
     omega
    have HF:=h! (show g=false from by
     rw[HG.out];have:=F;rw[<-x6! i ps,List.all_append,F];rfl)
    have aw:=h! (aa! ⟨#[32,38,32]⟩ al.out (by have:=HS.out;have:=l.out;have:=af.out;show _+3<=_;omega) (by show 0<_+3;omega) (n6! D.out (ov!.next n.out a6.out).size));rw[HF.out];clear F v;go_wp2_with fail
    refine aw.out.mono ?_;rintro e wB ⟨rfl,ag,a9⟩;have G:=h! (ov!.next a6.out (ov!.next a9 (ov!.flag (b:=wb) HB.out (.bool true))));have j:=h! (ag.flag true);obtain⟨eb,fb⟩:=ag.odd2;obtain⟨ec,fc⟩:=j.out.odd2;clear aw ag a9 aN aI a7 ae aa aj aE;go_wp2_with fail
    (try simp only[Exit.inBlock,Exit.then])
    refine bodyPost_ret (results_none rfl _ _ _) rfl ?_;exact⟨rfl,t++⟨#[32,38,32]⟩,j.out,(by rw[n3!];have:=HS.out;omega),(by rw[n3!];have:=HS.out;have:=af.out;show _+3<=_;omega),(fun h=>by cases h),ov!.next n.out G.out⟩
   | false =>
    have F:(ps.take i).all (goodP 5 d)=true:=by have:=HO.out;simpa using this
    have am:=h! (show(ps.take (i+1)).all (goodP 5 d)=goodP 5 d p from by rw[aX.out,F,Bool.true_and]);have aQ:=h! (HJ.out rfl);clear F;by_cases hi0:i=0
    ·have aE:¬ ((0:Int)<(i:Int)):=by omega
     obtain⟨tB,a8⟩:=e! t;have m:=h! (show text.size<=tB.size/\tB.size<=text.size+wtL (ps.take i)+3/\wtL (ps.take i)+(8+p.wt)<=wtL ps from by rw[a8];have:=HS.out;have:=af.out;omega);have au:=h! (show tB++txtP 5 p=text++joinT 5 (ps.take (i+1))from by rw[a8,aQ.out,aR.out,if_pos hi0,hi0,List.take_zero];show text++ByteArray.empty++_=_;rw[ByteArray.append_empty]);rw[<-a8]at al;clear a8 hi0;have u:=h! al.out;have G:=h! a6.out;have y:=h! an.out;have A:=h! av.out;clear al a6 an av aN aI HW HJ HO;by_cases hkk:p.k=5
     ·have HF:=h! (ay.out (by unfold goodP;simp[hkk]));obtain⟨pk,pa,pb,E⟩:=p;dsimp only[RT.k,RT.a,RT.b,RT.ps]at *;subst hkk;have j:=h! (u.out.flag true);have s:=h! (y.out.other (a:=⟨wb,2,none⟩) K.out (.bool true));have C:=h! (A.out.other (a:=⟨wb,2,none⟩) a5.out (.bool true));have q:=h! (ov!.next G.out (ov!.flag (b:=wb) HB.out (.bool true)));have ar:=y.out.cells;have xb:=A.out.cells;have pc:=s.out.cells;have xc:=C.out.cells;obtain⟨eb,fb⟩:=u.out.odd2;obtain⟨ec,fc⟩:=j.out.odd2;clear v;go_wp2_with fail
      rw[HF.out];(try simp only[Exit.inBlock,Exit.then])
      refine bodyPost_ret (results_none rfl _ _ _) rfl ?_;exact⟨rfl,tB,j.out,(by have:=m.out;omega),(by have:=m.out;have:=af.out;omega),(fun h=>by cases h),ov!.next n.out q.out⟩
     ·have aJ:(p.k == 5)=false:=by rw[n7!];exact hkk
      by_cases hk4:p.k=4
      ·clear aJ hkk;obtain⟨pk,pa,pb,E⟩:=p;dsimp only[RT.k,RT.a,RT.b,RT.ps]at *;subst hk4;have j:=h! (u.out.flag false);have s:=h! (y.out.other (a:=⟨wb,2,none⟩) K.out (.bool false));have C:=h! (A.out.other (a:=⟨wb,2,none⟩) a5.out (.bool false));have q:=h! (ov!.next G.out (ov!.flag (b:=wb) HB.out (.bool false)));have ar:=y.out.cells;have xb:=A.out.cells;have pc:=s.out.cells;have xc:=C.out.cells;obtain⟨eb,fb⟩:=u.out.odd2;obtain⟨ec,fc⟩:=j.out.odd2;have HS:=h! (aa! ⟨#[40]⟩ j.out (by have:=m.out;have:=l.out;show _+1<=_;omega) (by show 0<_+1;omega) (n6! D.out (ov!.next n.out q.out).size));go_wp2_with fail
       refine HS.out.mono ?_;rintro e wD ⟨rfl,z,L⟩;have I:=h! (ov!.next q.out L);have J:=h! (L.box s.out (by decide) K.out);clear ar xb pc xc eb fb ec fc;clear HS L;by_cases hd8:d=8
       ·have f:goodP 5 d (.mk 4 pa pb E)=false:=by unfold goodP bv!;simp[RT.k,hd8]
        have aH:((d:Int) == 8)=true:=by rw[beq_iff_eq];omega
        clear hd8;have H:=h! (z.flag true);have R:=h! (J.out.other (a:=⟨wb,2,none⟩) K.out (.bool true));have x:=h! (ov!.next I.out (ov!.flag (b:=wb) HB.out (.bool true)));have ah:=h! (n6! D.out (ov!.next n.out x.out).size);have HR:=h! (dD! (d:=(d:Int)+1) 4 pa pb E.length az aq H.out ah.out);have pd:=J.out.cells;have pe:=R.out.cells;obtain⟨ed,fd⟩:=z.odd2;obtain⟨ee,fe⟩:=H.out.odd2;clear z;go_wp2_with fail
        refine HR.out.mono ?_;rintro e wF ⟨rfl,Z,a3⟩;have Y:=h! (ov!.next x.out a3);have U:=h! (aa! ⟨#[41]⟩ Z (by have:=m.out;have:=l.out;rw[n3!];show _+1+1<=_;omega) (by rw[n3!];show 0<_+1;omega) (n6! D.out (ov!.next n.out Y.out).size))
        have V:=h! (show text.size<=(tB++⟨#[40]⟩++⟨#[41]⟩).size/\(tB++⟨#[40]⟩++⟨#[41]⟩).size<=text.size+wtL (ps.take (i+1))from by
         have:=m.out;have:=ak.out;simp only[n3!];rw[show(⟨#[40]⟩:ByteArray).size=1 from rfl,show(⟨#[41]⟩:ByteArray).size=1 from rfl];omega)
        have O:=h! (show true=!((ps.take (i+1)).all (goodP 5 d))from by rw[am.out,f];rfl);have Q:Hid (true=false->(tB++⟨#[40]⟩++⟨#[41]⟩)=text++joinT 5 (ps.take (i+1))):=h! (fun h=>by cases h);clear Z a3;clear HR pd pe ed ee fd fe;go_wp2_with fail
        refine U.out.mono ?_;rintro e wG ⟨rfl,a1,a2⟩;have ai:=h! a1;have ab:=h! (ov!.next Y.out a2);clear U a1 a2 u G y A j s C q J I H R x f a7 ae aa aj;go_wp2_with fail
        go_roundw
        case rel=>exact⟨i+1,(tB++⟨#[40]⟩++⟨#[41]⟩),_,by omega,by go_num,O.out,ai.out,V.out.1,V.out.2,Q.out,ab.out⟩
        case measure=>simp[intOf];omega
       ·have aF:d+1<=8:=by omega
        have f:goodP 5 d (.mk 4 pa pb E)=(RT.mk 4 pa pb E).textOk (d+1):=by unfold goodP bv!;simp[RT.k,aF]
        have aP:¬ ((d:Int)=8):=by omega
        have aH:((d:Int) == 8)=false:=by rw[n7!];exact aP
        have H:=h! (z.flag false);have R:=h! (J.out.other (a:=⟨wb,2,none⟩) K.out (.bool false));have x:=h! (ov!.next I.out (ov!.flag (b:=wb) HB.out (.bool false)));have ah:=h! (n6! D.out (ov!.next n.out x.out).size);have HR:=h! (IH.out (.mk 4 pa pb E) v _ (d+1) _ (tB++⟨#[40]⟩) (aB.out.same (Same.below (ov!.next n.out x.out).below)) (by have:=m.out;have:=l.out;rw[n3!];show _+1+_<=_;omega) (by have:=m.out;have:=a4.out;rw[n3!];omega) (by omega) H.out ah.out);unfold rV at HR;dsimp only[RT.k,RT.a,RT.b,RT.ps]at HR;rw[show((d+1:Nat):Int)=(d:Int)+1 from rfl]at HR;have pd:=J.out.cells;have pe:=R.out.cells;obtain⟨ed,fd⟩:=z.odd2;obtain⟨ee,fe⟩:=H.out.odd2;clear z;go_wp2_with fail
        refine HR.out.mono ?_;rintro e wF ⟨rfl,tF,Z,M,N,r,a3⟩;have Y:=h! (ov!.next x.out a3);rw[n3!,show(⟨#[40]⟩:ByteArray).size=1 from rfl]at M N;have U:=h! (aa! ⟨#[41]⟩ Z (by have:=m.out;have:=l.out;show _+1<=_;omega) (by show 0<_+1;omega) (n6! D.out (ov!.next n.out Y.out).size))
        have V:=h! (show text.size<=(tF++⟨#[41]⟩).size/\(tF++⟨#[41]⟩).size<=text.size+wtL (ps.take (i+1))from by
         have:=m.out;have:=ak.out;simp only[n3!];rw[show(⟨#[41]⟩:ByteArray).size=1 from rfl];omega)
        have O:=h! (show(!((RT.mk 4 pa pb E).textOk (d+1)))=!((ps.take (i+1)).all (goodP 5 d))from by rw[am.out,f])
        have Q:=h! (show(!((RT.mk 4 pa pb E).textOk (d+1)))=false->(tF++⟨#[41]⟩)=text++joinT 5 (ps.take (i+1))from fun h=>by
         rw[<-au.out,r (by simpa using h)];unfold txtP;rw[if_pos ⟨rfl,rfl⟩];simp only[y1!])
        clear Z a3 M N r;clear HR pd pe ed ee fd fe;go_wp2_with fail
        refine U.out.mono ?_;rintro e wG ⟨rfl,a1,a2⟩;have ai:=h! a1;have ab:=h! (ov!.next Y.out a2);clear U a1 a2 u G y A j s C q J I H R x f a7 ae aa aj;go_wp2_with fail
        go_roundw
        case rel=>exact⟨i+1,(tF++⟨#[41]⟩),_,by omega,by go_num,O.out,ai.out,V.out.1,V.out.2,Q.out,ab.out⟩
        case measure=>simp[intOf];omega
      ·have aG:(p.k != 4)=true:=by rw[bne_iff_ne];exact hk4
       have f:goodP 5 d p=p.textOk d:=by unfold goodP bv!;simp[hkk,hd,hk4]
       have j:=h! (u.out.flag false);have s:=h! (y.out.other (a:=⟨wb,2,none⟩) K.out (.bool false));have C:=h! (A.out.other (a:=⟨wb,2,none⟩) a5.out (.bool false));have q:=h! (ov!.next G.out (ov!.flag (b:=wb) HB.out (.bool false)));have pb:=y.out.cells;have xb:=A.out.cells;have pc:=s.out.cells;have xc:=C.out.cells;obtain⟨eb,fb⟩:=u.out.odd2;obtain⟨ec,fc⟩:=j.out.odd2;have HR:=h! (IH.out p v _ d _ tB (aB.out.same (Same.below (ov!.next n.out q.out).below)) (by have:=m.out;have:=l.out;omega) (by have:=m.out;have:=a4.out;omega) hd j.out (n6! D.out (ov!.next n.out q.out).size));unfold rV at HR;clear v;go_wp2_with fail
       refine HR.out.mono ?_;rintro e wD ⟨rfl,tD,z,M,N,r,L⟩;have aM:=h! z;have I:=h! (ov!.next q.out L);have aA:=h! (show text.size<=tD.size/\tD.size<=text.size+wtL (ps.take (i+1))from by have:=m.out;have:=ak.out;omega);have O:=h! (show(!(p.textOk d))=!((ps.take (i+1)).all (goodP 5 d))from by rw[am.out,f])
       have Q:=h! (show(!(p.textOk d))=false->tD=text++joinT 5 (ps.take (i+1))from fun h=>by
        rw[<-au.out,r (by simpa using h)];unfold txtP;rw[if_neg (by simp[hk4])])
       clear pb xb pc xc eb fb ec fc;clear HR z M N r L u G y A j s C q f a7 ae aa aj;go_wp2_with fail
       go_roundw
       case rel=>exact⟨i+1,tD,_,by omega,by go_num,O.out,aM.out,aA.out.1,aA.out.2,Q.out,I.out⟩
       case measure=>simp[intOf];omega
    ·have aE:(0:Int)<(i:Int):=by omega
     have aw:=h! (aa! ⟨#[32,38,32]⟩ al.out (by have:=HS.out;have:=l.out;have:=af.out;show _+3<=_;omega) (by show 0<_+3;omega) (n6! D.out (ov!.next n.out a6.out).size));have ac:=h! (show t++⟨#[32,38,32]⟩++txtP 5 p=text++joinT 5 (ps.take (i+1))from by rw[aQ.out,aR.out,if_neg hi0];simp only[y1!];rfl);clear hi0;go_wp2_with fail
     refine aw.out.mono ?_;rintro e wB ⟨rfl,ag,a9⟩;have G:=h! (ov!.next a6.out a9);have y:=h! (a9.box an.out (by decide) K.out);have A:=h! (a9.box av.out (by decide) a5.out);have aO:(t++⟨#[32,38,32]⟩).size=t.size+3:=by rw[n3!];rfl
     obtain⟨tB,a8⟩:=e! (t++⟨#[32,38,32]⟩);rw[<-a8]at ag ac aO;have u:=h! ag;have au:=h! ac.out;have m:=h! (show text.size<=tB.size/\tB.size<=text.size+wtL (ps.take i)+3/\wtL (ps.take i)+(8+p.wt)<=wtL ps from by rw[aO];have:=HS.out;have:=af.out;omega);clear aw ag a9 a8 aO ac al a6 an av aN aI HW HJ HO aE;by_cases hkk:p.k=5
     ·have HF:=h! (ay.out (by unfold goodP;simp[hkk]));obtain⟨pk,pa,pb,E⟩:=p;dsimp only[RT.k,RT.a,RT.b,RT.ps]at *;subst hkk;have j:=h! (u.out.flag true);have s:=h! (y.out.other (a:=⟨wb,2,none⟩) K.out (.bool true));have C:=h! (A.out.other (a:=⟨wb,2,none⟩) a5.out (.bool true));have q:=h! (ov!.next G.out (ov!.flag (b:=wb) HB.out (.bool true)));have ar:=y.out.cells;have xb:=A.out.cells;have pc:=s.out.cells;have xc:=C.out.cells;obtain⟨eb,fb⟩:=u.out.odd2;obtain⟨ec,fc⟩:=j.out.odd2;clear v;go_wp2_with fail
      rw[HF.out];(try simp only[Exit.inBlock,Exit.then])
      refine bodyPost_ret (results_none rfl _ _ _) rfl ?_;exact⟨rfl,tB,j.out,(by have:=m.out;omega),(by have:=m.out;have:=af.out;omega),(fun h=>by cases h),ov!.next n.out q.out⟩
     ·have aJ:(p.k == 5)=false:=by rw[n7!];exact hkk
      by_cases hk4:p.k=4
      ·clear aJ hkk;obtain⟨pk,pa,pb,E⟩:=p;dsimp only[RT.k,RT.a,RT.b,RT.ps]at *;subst hk4;have j:=h! (u.out.flag false);have s:=h! (y.out.other (a:=⟨wb,2,none⟩) K.out (.bool false));have C:=h! (A.out.other (a:=⟨wb,2,none⟩) a5.out (.bool false));have q:=h! (ov!.next G.out (ov!.flag (b:=wb) HB.out (.bool false)));have ar:=y.out.cells;have xb:=A.out.cells;have pc:=s.out.cells;have xc:=C.out.cells;obtain⟨eb,fb⟩:=u.out.odd2;obtain⟨ec,fc⟩:=j.out.odd2;have HS:=h! (aa! ⟨#[40]⟩ j.out (by have:=m.out;have:=l.out;show _+1<=_;omega) (by show 0<_+1;omega) (n6! D.out (ov!.next n.out q.out).size));go_wp2_with fail
       refine HS.out.mono ?_;rintro e wD ⟨rfl,z,L⟩;have I:=h! (ov!.next q.out L);have J:=h! (L.box s.out (by decide) K.out);clear ar xb pc xc eb fb ec fc;clear HS L;by_cases hd8:d=8
       ·have f:goodP 5 d (.mk 4 pa pb E)=false:=by unfold goodP bv!;simp[RT.k,hd8]
        have aH:((d:Int) == 8)=true:=by rw[beq_iff_eq];omega
        clear hd8;have H:=h! (z.flag true);have R:=h! (J.out.other (a:=⟨wb,2,none⟩) K.out (.bool true));have x:=h! (ov!.next I.out (ov!.flag (b:=wb) HB.out (.bool true)));have ah:=h! (n6! D.out (ov!.next n.out x.out).size);have HR:=h! (dD! (d:=(d:Int)+1) 4 pa pb E.length az aq H.out ah.out);have pd:=J.out.cells;have pe:=R.out.cells;obtain⟨ed,fd⟩:=z.odd2;obtain⟨ee,fe⟩:=H.out.odd2;clear z;go_wp2_with fail
        refine HR.out.mono ?_;rintro e wF ⟨rfl,Z,a3⟩;have Y:=h! (ov!.next x.out a3);have U:=h! (aa! ⟨#[41]⟩ Z (by have:=m.out;have:=l.out;rw[n3!];show _+1+1<=_;omega) (by rw[n3!];show 0<_+1;omega) (n6! D.out (ov!.next n.out Y.out).size))
        have V:=h! (show text.size<=(tB++⟨#[40]⟩++⟨#[41]⟩).size/\(tB++⟨#[40]⟩++⟨#[41]⟩).size<=text.size+wtL (ps.take (i+1))from by
         have:=m.out;have:=ak.out;simp only[n3!];rw[show(⟨#[40]⟩:ByteArray).size=1 from rfl,show(⟨#[41]⟩:ByteArray).size=1 from rfl];omega)
        have O:=h! (show true=!((ps.take (i+1)).all (goodP 5 d))from by rw[am.out,f];rfl);have Q:Hid (true=false->(tB++⟨#[40]⟩++⟨#[41]⟩)=text++joinT 5 (ps.take (i+1))):=h! (fun h=>by cases h);clear Z a3;clear HR pd pe ed ee fd fe;go_wp2_with fail
        refine U.out.mono ?_;rintro e wG ⟨rfl,a1,a2⟩;have ai:=h! a1;have ab:=h! (ov!.next Y.out a2);clear U a1 a2 u G y A j s C q J I H R x f a7 ae aa aj;go_wp2_with fail
        go_roundw
        case rel=>exact⟨i+1,(tB++⟨#[40]⟩++⟨#[41]⟩),_,by omega,by go_num,O.out,ai.out,V.out.1,V.out.2,Q.out,ab.out⟩
        case measure=>simp[intOf];omega
       ·have aF:d+1<=8:=by omega
        have f:goodP 5 d (.mk 4 pa pb E)=(RT.mk 4 pa pb E).textOk (d+1):=by unfold goodP bv!;simp[RT.k,aF]
        have aP:¬ ((d:Int)=8):=by omega
        have aH:((d:Int) == 8)=false:=by rw[n7!];exact aP
        have H:=h! (z.flag false);have R:=h! (J.out.other (a:=⟨wb,2,none⟩) K.out (.bool false));have x:=h! (ov!.next I.out (ov!.flag (b:=wb) HB.out (.bool false)));have ah:=h! (n6! D.out (ov!.next n.out x.out).size);have HR:=h! (IH.out (.mk 4 pa pb E) v _ (d+1) _ (tB++⟨#[40]⟩) (aB.out.same (Same.below (ov!.next n.out x.out).below)) (by have:=m.out;have:=l.out;rw[n3!];show _+1+_<=_;omega) (by have:=m.out;have:=a4.out;rw[n3!];omega) (by omega) H.out ah.out);unfold rV at HR;dsimp only[RT.k,RT.a,RT.b,RT.ps]at HR;rw[show((d+1:Nat):Int)=(d:Int)+1 from rfl]at HR;have pd:=J.out.cells;have pe:=R.out.cells;obtain⟨ed,fd⟩:=z.odd2;obtain⟨ee,fe⟩:=H.out.odd2;clear z;go_wp2_with fail
        refine HR.out.mono ?_;rintro e wF ⟨rfl,tF,Z,M,N,r,a3⟩;have Y:=h! (ov!.next x.out a3);rw[n3!,show(⟨#[40]⟩:ByteArray).size=1 from rfl]at M N;have U:=h! (aa! ⟨#[41]⟩ Z (by have:=m.out;have:=l.out;show _+1<=_;omega) (by show 0<_+1;omega) (n6! D.out (ov!.next n.out Y.out).size))
        have V:=h! (show text.size<=(tF++⟨#[41]⟩).size/\(tF++⟨#[41]⟩).size<=text.size+wtL (ps.take (i+1))from by
         have:=m.out;have:=ak.out;simp only[n3!];rw[show(⟨#[41]⟩:ByteArray).size=1 from rfl];omega)
        have O:=h! (show(!((RT.mk 4 pa pb E).textOk (d+1)))=!((ps.take (i+1)).all (goodP 5 d))from by rw[am.out,f])
        have Q:=h! (show(!((RT.mk 4 pa pb E).textOk (d+1)))=false->(tF++⟨#[41]⟩)=text++joinT 5 (ps.take (i+1))from fun h=>by
         rw[<-au.out,r (by simpa using h)];unfold txtP;rw[if_pos ⟨rfl,rfl⟩];simp only[y1!])
        clear Z a3 M N r;clear HR pd pe ed ee fd fe;go_wp2_with fail
        refine U.out.mono ?_;rintro e wG ⟨rfl,a1,a2⟩;have ai:=h! a1;have ab:=h! (ov!.next Y.out a2);clear U a1 a2 u G y A j s C q J I H R x f a7 ae aa aj;go_wp2_with fail
        go_roundw
        case rel=>exact⟨i+1,(tF++⟨#[41]⟩),_,by omega,by go_num,O.out,ai.out,V.out.1,V.out.2,Q.out,ab.out⟩
        case measure=>simp[intOf];omega
      ·have aG:(p.k != 4)=true:=by rw[bne_iff_ne];exact hk4
       have f:goodP 5 d p=p.textOk d:=by unfold goodP bv!;simp[hkk,hd,hk4]
       have j:=h! (u.out.flag false);have s:=h! (y.out.other (a:=⟨wb,2,none⟩) K.out (.bool false));have C:=h! (A.out.other (a:=⟨wb,2,none⟩) a5.out (.bool false));have q:=h! (ov!.next G.out (ov!.flag (b:=wb) HB.out (.bool false)));have pb:=y.out.cells;have xb:=A.out.cells;have pc:=s.out.cells;have xc:=C.out.cells;obtain⟨eb,fb⟩:=u.out.odd2;obtain⟨ec,fc⟩:=j.out.odd2;have HR:=h! (IH.out p v _ d _ tB (aB.out.same (Same.below (ov!.next n.out q.out).below)) (by have:=m.out;have:=l.out;omega) (by have:=m.out;have:=a4.out;omega) hd j.out (n6! D.out (ov!.next n.out q.out).size));unfold rV at HR;clear v;go_wp2_with fail
       refine HR.out.mono ?_;rintro e wD ⟨rfl,tD,z,M,N,r,L⟩;have aM:=h! z;have I:=h! (ov!.next q.out L);have aA:=h! (show text.size<=tD.size/\tD.size<=text.size+wtL (ps.take (i+1))from by have:=m.out;have:=ak.out;omega);have O:=h! (show(!(p.textOk d))=!((ps.take (i+1)).all (goodP 5 d))from by rw[am.out,f])
       have Q:=h! (show(!(p.textOk d))=false->tD=text++joinT 5 (ps.take (i+1))from fun h=>by
        rw[<-au.out,r (by simpa using h)];unfold txtP;rw[if_neg (by simp[hk4])])
       clear pb xb pc xc eb fb ec fc;clear HR z M N r L u G y A j s C q f a7 ae aa aj;go_wp2_with fail
       go_roundw
       case rel=>exact⟨i+1,tD,_,by omega,by go_num,O.out,aM.out,aA.out.1,aA.out.2,Q.out,I.out⟩
       case measure=>simp[intOf];omega
  ·obtain rfl:i=ps.length:=by omega
   rw[u2!]at HO HJ HS;have aS:=h! (show(!g)=o from by rw[HG.out];exact HO.out.symm);have x:=h! (ov!.next n.out hk);have aZ:=h! (show g=true->t=text++joinT 5 ps from fun h=>HJ.out (by rw[<-aS.out,h];rfl));have aU:=h! HW.out;clear hk HJ HW HO;go_wp2_with fail
   go_end0
   exact⟨rfl,t,by rw[aS.out];exact aU.out,HS.out.1,HS.out.2,aZ.out,x.out⟩
end Go.Proofs.YtlhaghoajpglaaaGreat
