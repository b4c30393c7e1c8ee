/- Lemmas for the claim, no condition. -/
import Derived.Test.YtlhaghoajpglaaaGreatYPrMore17
import Derived.Test.YtlhaghoajpglaaaGreatYPrMore3
set_option maxRecDepth 100000
set_option maxHeartbeats 2000000
namespace Go.Proofs.YtlhaghoajpglaaaGreat
open Go Go.Maps Go.RowKit Go.Proofs.Tryz
theorem lv! (r:RT):r.pre.length=r.sz:=by
 induction r using RT.ind with
 | h r ih =>
  have:∀l:List RT,(∀x∈l,x∈r.ps)->(rpreL l).length=szL l:=by
   intro l;induction l with
   | nil=>intro _;simp[rpreL,szL]
   | cons x l ihl =>
    intro h;rw[rpreL,szL,u4!,ih x (h x (by simp)),ihl fun y hy=>h y (u9! _ hy)]
  rw[r.pre_eq,u7!,this r.ps fun _ h=>h];obtain⟨k,a,b,ps⟩:=r;rw[RT.sz];dsimp only[RT.ps];omega
def cB! (ts:List TyS):List P3->Nat
 | []=>0
 | p::l=>(match lookA (ab! ts) ⟨p.t,p.r⟩with | some r=>r.sz | none=>0)+cB! ts l
theorem cW! (ts:List TyS):∀P:List P3,(ic! ts P).length=cB! ts P
 | []=>by simp[ic!,cB!]
 | p::P=>by
  have ih:=cW! ts P;unfold ic! at ih ⊢;rw[y5!,u4!,ih,cB!];congr 1
  cases lookA (ab! ts) (⟨p.t,p.r⟩:R2) with
  | some r=>dsimp only;rw[x1!,lv!]
  | none=>rfl
theorem RT.pre_sz {r q:RT}(h:q∈r.pre):q=r\/q.sz<r.sz:=by
 rw[r.pre_eq]at h;rcases v7!.1 h with e | h
 ·exact .inl e
 ·obtain⟨x,hx,hq⟩:=aJ!.1 h;right
  have h1:q.sz<=x.sz:=by
   have a0:∀y:RT,∀z∈y.pre,z.sz<=y.sz:=by
    intro y;induction y using RT.ind with
    | h y ih =>
     intro z c;rw[y.pre_eq]at c;rcases v7!.1 c with rfl | c
     ·exact n0! _
     ·obtain⟨u,hu,c⟩:=aJ!.1 c;have h2:=ih u hu z c
      have h3:u.sz<=szL y.ps:=by
       have:∀l:List RT,u∈l->u.sz<=szL l:=by
        intro l;induction l with
        | nil=>intro h;cases h
        | cons v l ihl =>
         intro h;rw[szL];rcases v7!.1 h with rfl | h
         ·omega
         ·have:=ihl h;omega
       exact this _ hu
      obtain⟨k,a,b,ps⟩:=y;rw[RT.sz];dsimp only[RT.ps]at h3;omega
   exact a0 x q hq
  have h2:x.sz<=szL r.ps:=by
   have:∀l:List RT,x∈l->x.sz<=szL l:=by
    intro l;induction l with
    | nil=>intro h;cases h
    | cons v l ihl =>
     intro h;rw[szL];rcases v7!.1 h with rfl | h
     ·omega
     ·have:=ihl h;omega
   exact this _ hx
  obtain⟨k,a,b,ps⟩:=r;rw[RT.sz];dsimp only[RT.ps]at h2;omega
theorem ky! (r:RT):∀q∈r.pre,q.wt<=r.wt:=by
 induction r using RT.ind with
 | h r ih =>
  intro q c;rw[r.pre_eq]at c;rcases v7!.1 c with rfl | c
  ·exact n0! _
  ·obtain⟨x,hx,c⟩:=aJ!.1 c;have h1:=ih x hx q c
   have h2:x.wt<=wtL r.ps:=by
    have:∀l:List RT,x∈l->x.wt<=wtL l:=by
     intro l;induction l with
     | nil=>intro h;cases h
     | cons v l ihl =>
      intro h;rw[wtL];rcases v7!.1 h with rfl | h
      ·omega
      ·have:=ihl h;omega
    exact this _ hx
   obtain⟨k,a,b,ps⟩:=r;rw[RT.wt];dsimp only[RT.ps]at h2;omega
theorem mJ! (r:RT):r.text.size<=r.wt:=by
 induction r using RT.ind with
 | h r ih =>
  obtain⟨k,a,b,ps⟩:=r
  have hp:∀p∈ps,(if k=5/\p.k=4 then(⟨#[40]⟩++p.text++⟨#[41]⟩:ByteArray)else p.text).size<=2+p.wt:=fun p h=>by
   have:=ih p h;split
   ·simp only[n3!];rw[show(⟨#[40]⟩:ByteArray).size=1 from rfl,show(⟨#[41]⟩:ByteArray).size=1 from rfl];omega
   ·omega
  have hs:(sepT k).size=3:=by unfold sepT;split <;> rfl
  have hr:∀l:List RT,(∀p∈l,p∈ps)->(restT k l).size<=wtL l:=by
   intro l;induction l with
   | nil=>intro _;rw[restT];exact v1! _
   | cons q l ihl =>
    intro h;have h1:=hp q (h q y4!);have h2:=ihl fun x hx=>h x (u9! _ hx);rw[restT,wtL,n3!,n3!,hs];omega
  rw[RT.text,RT.wt];split
  ·rw[show(⟨#[116,104,105,115]⟩:ByteArray).size=4 from rfl];omega
  ·split
   ·omega
   ·split
    ·simp only[n3!];rw[show(⟨#[45,62]⟩:ByteArray).size=2 from rfl];omega
    ·cases ps with
     | nil=>rw[fc!];exact v1! _
     | cons q l =>
      have h1:=hp q y4!;have h2:=hr l fun x hx=>u9! _ hx;rw[fc!,wtL,n3!];omega
theorem jT! (r:RT):(nameT r).size<=r.wt+100:=by
 have:=mJ! r;unfold nameT oneS9;rw[schT,schT,tyT,relsT,relsT,relT];simp only[n3!];rw[show xB.size=1 from rfl,show(⟨#[116,121,112,101,32]⟩:ByteArray).size=5 from rfl,show(⟨#[10]⟩:ByteArray).size=1 from rfl,show(⟨#[32,61,32]⟩:ByteArray).size=3 from rfl,show ByteArray.empty.size=0 from rfl];omega
theorem mK! (r:RT)(pv:Value)(w:World)(h:RTAt (· < w.heap.size) w r pv)(ht:r.textOk 0=true)(hb:r.wt<=549755813000) :
  Calls prog 215 #[rV r pv] w fun e w'=>e= .returned (.string (nameT r))/\Ext w w':=by
 obtain⟨n,c,rfl,-⟩:=h.rows;obtain⟨q,d⟩:=e! (w.alloc (.cells #[.int .i64 r.k,.string r.a,.string r.b,.slice n r.ps.length c] 106));obtain⟨m,f⟩:=e! (q.alloc (.cells #[.string xB,.int .i64 r.k,.string r.a,.string r.b,.slice n r.ps.length c] 181));obtain⟨p,g⟩:=e! (m.alloc (.cells #[.string xB,.slice (some ⟨q.heap.size,0,none⟩) 1 1] 176));have xa:Ext w q:=xa! d
 have xb:Ext q m:=xa! f
 have xc:Ext m p:=xa! g
 have o:=h! (xa.trans (xb.trans xc))
 have hrel:oq! (· < p.heap.size) p [(xB,r)] (.slice (some ⟨q.heap.size,0,none⟩) 1 1):=⟨[((xB,r),.slice n r.ps.length c)],rfl,fun x hx=>by rw[n9!.1 hx];exact h.up o.out,by
  have:=Own.lit q (n0! _) 181 5 1 #[.string xB,.int .i64 r.k,.string r.a,.string r.b,.slice n r.ps.length c] rfl (by unfold maxLen;omega) (by decide);rw[<-f]at this;exact(this.below xc).slU⟩
 have l:ou! (· < p.heap.size) p (oneS9 r) (.slice (some ⟨m.heap.size,0,none⟩) 1 1):=⟨[(⟨xB,[(xB,r)]⟩,.slice (some ⟨q.heap.size,0,none⟩) 1 1)],rfl,fun x hx=>by rw[n9!.1 hx];exact hrel,by
  have:=Own.lit m (n0! _) 176 2 1 #[.string xB,.slice (some ⟨q.heap.size,0,none⟩) 1 1] rfl (by unfold maxLen;omega) (by decide);rw[<-g]at this;exact this.slU⟩
 have i:=h! (show Calls prog 129 #[.agg #[.slice (some ⟨m.heap.size,0,none⟩) 1 1]] p fun e w'=>e= .returned (.tuple #[.string (nameT r),.int .i64 (prN true)])/\Ext p w' from by
  have:=eu! (oneS9 r) _ p l (by
   have h1:schB (oneS9 r)=(10+xB.size+((10+xB.size+r.wt)+0))+0:=rfl;have h2:xB.size=1:=rfl;rw[h1,h2];omega)
  rw[gV! ht]at this;exact this)
 have eb:m.heap.size=w.heap.size+1+1:=by rw[f,d];simp
 have ea:q.heap.size=w.heap.size+1:=by rw[d];simp
 rw[g,f,d]at i;rw[g,f,d]at o;clear h ht hb xa xb xc hrel l eb ea;simp only[World.size_alloc]at i o;unfold xB at i o;subst g f d;unfold rV;go_enter func215,ntmps215
 go_wp2_with fail
 refine i.out.mono ?_;rintro e w5 ⟨rfl,j⟩;have a0:=h! (Ext.trans o.out j);clear j i;go_wp2_with fail
 go_ret
 exact⟨rfl,a0.out⟩
theorem mT! (r:RT):RT.mk r.k r.a r.b r.ps=r:=by cases r;rfl
noncomputable def decP (p:Prop):Bool:=@decide p (Classical.propDecidable p)
theorem aN! {p:Prop}:decP p=true↔p:=by simp[decP]
theorem eh! {p:Prop}(h:p):decP p=true:=aN!.2 h
theorem iW! {p:Prop}(h:¬ p):decP p=false:=by
 cases e:decP p with
 | false=>rfl
 | true=>exact absurd (aN!.1 e) h
theorem ft! {l:List Stp}{i:Nat}{b:Int}{p:P3}{r:RT}{n:Nat}(hb:b=(n:Int))(hn:n<l.length):partP l i b p r↔n<i/\l[n].p=p/\l[n].r=r:=by
 subst hb;unfold partP;rw[Int.toNat_natCast,n4! hn];constructor
 ·rintro⟨-,h1,x,a,h3,h4⟩;injection a with a
  subst a;exact⟨by omega,h3,h4⟩
 ·rintro⟨h1,a,h3⟩;exact⟨by omega,by omega,_,rfl,a,h3⟩
theorem cU! {ts:List TyS}{l:List Stp}{i:Nat}{b:Int}{p:P3}{n:Nat}(hb:b=(n:Int))(hn:n<l.length):aE! ts l i b p↔n<i/\l[n].p=p/\lookA (ab! ts) ⟨p.t,p.r⟩=some l[n].r:=by
 subst hb;unfold aE!;rw[Int.toNat_natCast,n4! hn];constructor
 ·rintro⟨-,h1,x,r,a,h3,h4,h5⟩;injection a with a
  subst a h5;exact⟨by omega,h3,h4⟩
 ·rintro⟨h1,a,h3⟩;exact⟨by omega,by omega,_,_,rfl,a,h3,rfl⟩
theorem hd! (w:World)(ps:List FT)(k:Int)(sa:List P3)(sb:List Int)(pv:FV3)(g:Nat)(cap:Array Value)(eg:∀args W,(callFunc g args).run prog W= .ok (.enter g args) W)(q:FT->Bool)(hat:FTAt (· < w.heap.size) w (.mk k sa sb ps) pv)(hf:∀i (hi:i<ps.length) W pvi,Below w.heap.size w W->FTAt (· < W.heap.size) W ps[i] pvi->Calls prog g (#[fV ps[i] pvi]++cap) W fun e W'=>e= .returned (.bool (q ps[i]))/\Below W.heap.size W W') :
  Calls prog 219 #[pv.2.2,.func (.func g) #[] cap] w fun e w'=>((∃i:Nat,e= .returned (.int .i64 (i:Int))/\∃x,ps[i]?=some x/\q x=true)\/(e= .returned (.int .i64 (-1))/\ps.any q=false))/\Below w.heap.size w w':=by
 obtain⟨a2,a4,a3⟩:=pv;obtain⟨ao,c,he,a0,a5,b⟩:=hat.rows;dsimp only[FT.ps]at he a0 b ⊢;subst he;have HC:=h! b;have HF:=h! hf;clear hat b hf;go_enter func219,ntmps219
 go_wp2_with fail
 go_loopw [5,8] (fun _ ii wr=>∃i:Nat,i<=ps.length/\ii= .int .i64 i/\(∀j (hj:j<ps.length),j<i->q ps[j]=false)/\Below w.heap.size w wr) (fun _ ii _=>ps.length-(intOf ii).toNat)
 case atStart=>exact⟨0,by omega,rfl,fun _ _ h=>absurd h (by omega),Below.refl _ _⟩
 case round =>
  obtain⟨i,hi,rfl,l,a⟩:=hrel;have m:=h! l;clear l;by_cases hlt:i<ps.length
  ·have r:=h! (fun h=>aH! (p:=fun j hj=>q ps[j]=false) m.out hlt h);have o:=h! (fun(h:q ps[i]=true)=>(show ∃x,ps[i]?=some x/\q x=true from⟨_,n4! hlt,h⟩));obtain⟨v,n,⟨e1,e2,e3⟩,a1,z,c0,c1,c2,c3,d⟩:=HC.out i hlt;cases a1;dsimp only at c1 c2 c3;have d0:=(a.cell (p:=⟨v,n+i*4,none⟩) z).trans c0;have d1:=(a.cell (p:=⟨v,n+i*4+1,none⟩) z).trans c1;have d2:=(a.cell (p:=⟨v,n+i*4+2,none⟩) z).trans c2;have d3:=(a.cell (p:=⟨v,n+i*4+3,none⟩) z).trans c3;have t:=h! (HF.out i hlt wr (e1,e2,e3) a (d.up a));clear c0 c1 c2 c3 d z;unfold fV at t;dsimp only at t;generalize ps[i]=p at *;have y:=h! a;clear a;cases u:q p with
   | true =>
    rw[u]at t;have HT:=h! (o.out u);clear r o u;go_wp2_with fail
    refine t.out.mono ?_;rintro e w5 ⟨rfl,f⟩;have s:=h! (y.out.trans (f.mono y.out.size));clear t f d0 d1 d2 d3;go_wp2_with fail
    go_ret
    exact⟨.inl ⟨i,rfl,HT.out⟩,s.out⟩
   | false =>
    rw[u]at t;have HN:=h! (r.out u);clear r o u;go_wp2_with fail
    refine t.out.mono ?_;rintro e w5 ⟨rfl,f⟩;have s:=h! (y.out.trans (f.mono y.out.size));clear t f d0 d1 d2 d3;go_wp2_with fail
    go_roundw
    case rel=>exact⟨i+1,by omega,by go_num,HN.out,s.out⟩
    case measure=>simp[intOf];omega
  ·obtain rfl:i=ps.length:=by omega
   have HN:=h! (show ¬ ps.any q=true from fun h=>by
    obtain⟨x,hx,u⟩:=x5!.1 h;obtain⟨j,hj,rfl⟩:=u0! hx;rw[m.out j hj hj]at u;cases u)
   have y:=h! a;clear a;go_wp2_with fail
   go_ret
   exact⟨.inr ⟨rfl,by cases h:ps.any q with | false=>rfl | true=>exact absurd h HN.out⟩,y.out⟩
structure PwIn (ts:List TyS)(T:List Tup)(shut:List R2)(sub:P3)(P:List P3)(fs:List FT)(R:List Int):Prop where
 ok:∀t∈ts,t.Ok
 u:aK! ts=true
 n:(ab! ts).length<=1099511627776
 txt:∀x∈ab! ts,x.2.textOk 0=true
 wt:∀x∈ab! ts,x.2.wt<=1000000
 sz:∀x∈ab! ts,x.2.sz<=1000000
 kd:∀x∈ab! ts,∀q∈x.2.pre,q.k=1\/q.k=2\/q.k=3\/q.k=4\/q.k=5
 okp:∀p∈P,p.Ok
 len:P.length<=1000000
 rl:R.length=P.length
 form:∀k,0<R.getD k 0->∃p f r,P[k]?=some p/\fs[k]?=some f/\ar! ts shut p=some r/\cE! T P p r f/\holdF sub (inB9 R (R.getD k 0)) f=true
 pn:cB! ts P<=10000000000
 nd:P.Nodup
structure PwMem (w0:World)(B:Nat)(ts:List TyS)(P:List P3)(fs:List FT)(R:List Int)(tv gp gf rv:Value):Prop where
 b:B<=w0.heap.size
 ty:ou! (· < B) w0 ts tv
 gr:GrAt (· < B) w0 P fs gp gf
 rd:Sl (· < B) w0 1 rv (ic R)
section
variable {ts : List TyS} {T : List Tup} {shut : List R2} {sub : P3} {P : List P3} {fs : List FT} {R : List Int} {w0 w w' : World} {wp am B k : Nat} {tv fi gp gf rv ov : Value} {D : Nat -> Prop} {out : List Stp} {names : NL9} {wait : List Nat}
theorem PwMem.at (h:PwMem w0 B ts P fs R tv gp gf rv)(hb:Below B w0 w):PwMem w B ts P fs R tv gp gf rv:=⟨n6! h.b hb.size,h.ty.same fun y hy=>hb.block y hy,h.gr.same fun y hy=>hb.block y hy,h.rd.same fun y hy=>hb.block y hy⟩
theorem PwIn.part (h:PwIn ts T shut sub P fs R) {p:P3}{r0 r:RT}(hr:ar! ts shut p=some r0)(hp:r∈r0.pre):r.textOk 0=true/\r.wt<=549755813000/\r.sz<=1000000/\(r.k=1\/r.k=2\/r.k=3\/r.k=4\/r.k=5)/\(nameT r).size<=maxLen:=by
 have a:=eI! hr;refine⟨gK! r0 0 (h.txt _ a) r hp,?_,?_,h.kd _ a r hp,?_⟩
 ·have b:=h.wt _ a;have h2:=ky! r0 r hp;dsimp only at b;omega
 ·have b:=h.sz _ a;rcases RT.pre_sz hp with e | e
  ·rw[e];exact b
  ·dsimp only at b;omega
 ·have b:=h.wt _ a;have h2:=ky! r0 r hp;have h3:=jT! r;dsimp only at b;unfold maxLen;omega
theorem PwIn.txts (h:PwIn ts T shut sub P fs R)(hw:WrI ts T shut sub P out names wait):∀e∈names,e.1.2.textOk 0=true:=fun e he=>by
 obtain⟨x,h1,-,h2⟩:=hw.key e he;obtain⟨r0,h3,h4,-⟩:=hw.ok _ x h1;rw[<-h2];exact(h.part h3 h4).1
theorem PwIn.room (h:PwIn ts T shut sub P fs R)(hw:WrI ts T shut sub P out names wait):out.length<=10000000000:=by
 have:=hw.few h.nd;rw[cW!]at this;exact n6! this h.pn
end
def bS! (ts:List TyS)(T:List Tup)(shut:List R2)(P:List P3)(R:List Int)(wp am B:Nat)(tv fi gp gf rv:Value)(sub:P3)(D:Nat->Prop)(names:NL9)(ov:Value)(wait:List Nat)(k:Nat)(r:RT)(w:World)(e:Ending)(w':World):Prop :=
 ∃(D':Nat->Prop) (out':List Stp) (names':NL9) (ov':Value) (i:Nat),e= .returned (.int .i64 (i:Int))/\PwAt w' wp am B tv fi gp gf rv sub D' out' names' ov'/\Fine wp am w w' ov ov'/\(∀b,D' b->D b\/w.heap.size<=b) /\
  WrI ts T shut sub P out' names' (i::wait)/\((k,r),i)∈names'/\(∀e∈names',e∈names\/R.getD e.1.1 0<R.getD k 0\/(e.1.1=k/\e.1.2.sz<=r.sz))/\∀e∈names,e∈names'
def RuleC (w0:World)(ts:List TyS)(T:List Tup)(shut:List R2)(P:List P3)(R:List Int)(wp am B:Nat)(tv fi gp gf rv:Value)(sub:P3)(k:Nat)(r:RT)(f:FT):Prop :=
 ∀(rpv:Value) (fpv:FV3) (w:World) (D:Nat->Prop) (out:List Stp) (names:NL9) (ov:Value) (wait:List Nat),RTAt (· < B) w r rpv->FTAt (· < B) w f fpv->Below B w0 w->PwAt w wp am B tv fi gp gf rv sub D out names ov->WrI ts T shut sub P out names wait ->
  Calls prog 162 #[.pointer (some ⟨wp,0,none⟩),.int .i64 k,rV r rpv,fV f fpv] w (bS! ts T shut P R wp am B tv fi gp gf rv sub D names ov wait k r w)
theorem lu! (wp bw bi:Nat)(am:Nat)(tv fi gp gf rv ov:Value)(sub:P3)(f:FT)(fpv:FV3)(iv:Value)(bs:List Bool)(w:World)(hf:FTAt (· < w.heap.size) w f fpv)(hb:Blk w wp (pwC tv fi gp gf rv sub am ov) 197)(h1:Blk w bw #[.pointer (some ⟨wp,0,none⟩)] 194)(h2:Blk w bi #[iv] 74)(hi:Sl (· < w.heap.size) w 1 iv (boC bs)) :
  Calls prog 220 #[fV f fpv,.pointer (some ⟨bw,0,none⟩),.pointer (some ⟨bi,0,none⟩)] w fun e w'=>e= .returned (.bool (holdF sub bs f))/\Ext w w':=by
 obtain⟨a1,c1,a2,c2,a4,c4,rfl⟩:=hf.shape;obtain⟨io,a0,rfl,-⟩:=eo! hi;have X1:=h! (Ext.alloc w (.cells #[.int .i64 f.k,.slice a1 f.subs.length c1,.slice a2 f.refs.length c2,.slice a4 f.ps.length c4] 128));have BF:=h! (Blk.made w #[.int .i64 f.k,.slice a1 f.subs.length c1,.slice a2 f.refs.length c2,.slice a4 f.ps.length c4] 128);have HF:=h! hf;have HI:=h! hi;have HB:=h! hb;have H1:=h! h1;have H2:=h! h2;clear hf hb h1 h2 hi;unfold fV;dsimp only;go_enter func220,ntmps220
 go_wp2_with fail
 obtain⟨w1,i⟩:=e! (w.alloc (.cells #[.int .i64 f.k,.slice a1 f.subs.length c1,.slice a2 f.refs.length c2,.slice a4 f.ps.length c4] 128));rw[<-i]at X1 BF ⊢;clear i;obtain⟨l,g⟩:=e! (World.drew w1);have XD:=h! (show Ext w1 l from xd! g);refine re! g ?_;clear g;have j:=h! (Ext.trans X1.out XD.out);have g1:=fun W (h:Ext l W)=>(HB.out.below (Ext.trans j.out h)).cells;have g2:=fun W (h:Ext l W)=>(H1.out.below (Ext.trans j.out h)).cells;have g3:=fun W (h:Ext l W)=>(H2.out.below (Ext.trans j.out h)).cells;have g4:=fun W (h:Ext l W)=>(BF.out.below (Ext.trans XD.out h)).cells;unfold pwC at g1;have a:=h! (eU! sub bs f _ _ l (HF.out.up j.out) ((HI.out.same (Same.below j.out)).mono fun _ h=>n1! h j.out.size));unfold fV pV at a;dsimp only at a;(refine WalkN.tk [0,1,2,3,4,5] ?_;(iterate 6 (refine c! ?_));refine TkN.n ?_)
 clear g1 g2 g3 g4;refine ob! 6 ?_;intro K hK;go_simp;refine a.out.mono ?_;rintro e w5 ⟨rfl,b⟩;refine hK.out _ _ b ?_;clear hK a;have j:=h! (Ext.trans j.out b);clear b;refine t! 7 ?_
 refine d! ?_;go_wp2_with fail
 go_ret
 exact⟨rfl,j.out⟩
theorem hY! (wp am B:Nat)(tv fi gp gf rv:Value)(sub:P3) {ts:List TyS}{T:List Tup}{shut:List R2}{P:List P3}{fs:List FT}{R:List Int}(w0:World)(hin:PwIn ts T shut sub P fs R)(hm:PwMem w0 B ts P fs R tv gp gf rv)(_hB:B<=wp/\B<=am)(k:Nat)(r:RT)(f:FT)(p:P3)(hp:P[k]?=some p)(hr:ar! ts shut p=some r)(hf:fs[k]?=some f)(hc:RuleC w0 ts T shut P R wp am B tv fi gp gf rv sub k r f)
  (w:World) (D:Nat->Prop) (out:List Stp) (names:NL9) (ov:Value) (wait:List Nat) (hb:Below B w0 w) (h:PwAt w wp am B tv fi gp gf rv sub D out names ov) (hw:WrI ts T shut sub P out names wait) :
  Calls prog 107 #[.pointer (some ⟨wp,0,none⟩),.int .i64 k] w (bS! ts T shut P R wp am B tv fi gp gf rv sub D names ov wait k r w):=by
 have a9:=h! hin;have HM:=h! (hm.at hb);have HC:=h! hc;have HW:=h! hw;have aA:=h! hb;have HP:=h! h;have a6:=h! HM.out.ty;have ag:=h! (hin.okp p (List.mem_of_getElem? hp));have al:=h! (ba! hr);obtain⟨to,tc,rfl,-,-,-⟩:=a6.out.rows;obtain⟨N,M⟩:=y3!.1 hp;obtain⟨ao,aq⟩:=y3!.1 hf;obtain⟨ap,cp,af,cf,rfl,rfl,-,-,-,-,H⟩:=HM.out.gr.rows;obtain⟨_,_,e1,-,-,G⟩:=Sl.rows au! (by decide) (show Sl _ w 3 (.slice ap P.length cp) (P.flatMap pC)from HM.out.gr.1);cases e1;obtain⟨pb,po,rfl,aG,G⟩:=G (by omega);have c0:w.cell? ⟨pb,po+k*3,none⟩=some (.string p.t):=by rw[<-M];exact G k N 0 _ rfl
 have c1:w.cell? ⟨pb,po+k*3+1,none⟩=some (.string p.i):=by rw[<-M];exact G k N 1 _ rfl
 have c2:w.cell? ⟨pb,po+k*3+2,none⟩=some (.string p.r):=by rw[<-M];exact G k N 2 _ rfl
 obtain⟨fb,fo,⟨u1,u2,u3⟩,rfl,aF,f0,f1,f2,f3,X⟩:=H k ao;rw[aq]at f0 X;dsimp only at f1 f2 f3;have az:=h! X;obtain⟨a1,n1,a2,n2,a4,n4,e2⟩:=X.shape;cases e2;have aB:(k:Int)<(P.length:Int):=by omega
 have aE:(k:Int)<(fs.length:Int):=by omega
 have F0:=h! f0;have F1:=h! f1;have F2:=h! f2;have F3:=h! f3;obtain⟨wa,L⟩:=e! (w.alloc (.cells #[.string p.t,.string p.i,.string p.r] 32));have XB:=h! (show Ext w wa from xa! L);have BP:=h! (show Blk wa w.heap.size #[.string p.t,.string p.i,.string p.r] 32 from bm! L);have ae:=h.box.cells;unfold pwC at ae;clear hin hm hc hw hb h H G hp hr hf M aq X f0 f1 f2 f3 N ao;go_enter func107,ntmps107
 go_wp2_with fail
 rw[<-L];clear L ae c0 c1 c2 aB;have an:=h! (HP.out.box.below XB.out);obtain⟨wd,s⟩:∃wd,Hid (wd=World.drew wa):=⟨_,h! rfl⟩;have E:=h! (show Ext wa wd from xd! s.out);have F:=h! (Ext.trans XB.out E.out);have a3:=h! (fun U (hU:Ext wd U)=>cK! (S:=(· < B)) ts _ p.t p.r U (fun y hy=>n1! hy (n6! (HM.out.b) (Ext.trans F.out hU).size)) (a6.out.same fun y hy=>(Ext.trans F.out hU).block y (n1! hy (HM.out.b))) a9.out.ok a9.out.u a9.out.n ag.out.1 ag.out.2.2);apply Code.wp_mono (Q:=J4 (fun(zr:RT) (zo:Option Addr) (zc:Nat) (bo:Nat) U=>wd.heap.size<=bo/\Ext wd U/\Blk U bo #[.int .i64 zr.k,.string zr.a,.string zr.b,.slice zo zr.ps.length zc] 106/\RTAt (· < B) U zr (.slice zo zr.ps.length zc)/\(∀r,lookA (ab! ts) ⟨p.t,p.r⟩=some r->zr=r)) _) ?rest1 ?reg1
 case reg1 =>
  refine al! (Ext wd) (by rw[<-s.out];exact Ext.refl _) (by kernel_rfl) (by kernel_rfl) (fun _ _ d _ _ h=>by cases h.1) ?_;rw[<-s.out];have hs:=fun U (h:Ext wd U)=>((an.out.below E.out).below h).cells;have hq:=fun U (h:Ext wd U)=>((BP.out.below E.out).below h).cells;unfold pwC at hs;(refine WalkN.tk [0,1,2,3,4,5,6,7,8] ?_;(iterate 9 (refine c! ?_));refine TkN.n ?_)
  clear hs hq;refine p! 9 13 ?_ ?_
  ·refine b! ?_;intro K hK;go_simp;refine(a3.out wd (Ext.refl wd)).mono ?_;rintro e w5 ⟨⟨zr,zv⟩,rfl,o,q,-,V⟩;have o:RTAt (· < B) w5 zr zv:=o;obtain⟨zo,zc,rfl,-⟩:=o.rows;dsimp only at q;unfold rvV rV;dsimp only;have A:Ext wd w5:=Ext.trans (Ext.refl wd) V;refine hK.out _ _ A ?_;clear hK;(refine WalkN.tk [10,11,12] ?_;(iterate 3 (refine c! ?_));refine TkN.n ?_)
   refine ob! 13 ?_;intro K hK;go_simp;obtain⟨bo,m⟩:=e! w5.heap.size;rw[<-m];have au:=Ext.alloc w5 (.cells #[.int .i64 0,.string ⟨#[]⟩,.string ⟨#[]⟩,.slice none 0 0] 106);have x:Blk (w5.alloc (.cells #[.int .i64 0,.string ⟨#[]⟩,.string ⟨#[]⟩,.slice none 0 0] 106)) bo #[.int .i64 0,.string ⟨#[]⟩,.string ⟨#[]⟩,.slice none 0 0] 106:=by rw[m];exact Blk.made _ _ _
   have g:wd.heap.size<=bo:=by rw[m];exact A.size
   have ai:=Ext.trans A au;have aw:=o.same fun y hy=>au.block y (n1! hy (n6! (HM.out.b) (Ext.trans F.out A).size));refine hK.out _ _ ai ?_;clear hK m o;generalize w5.alloc (.cells #[.int .i64 0,.string ⟨#[]⟩,.string ⟨#[]⟩,.slice none 0 0] 106)=w7 at *;refine ob! 14 ?_;intro K hK;have a0:=x.cells;have Y:=x.free;go_simp;clear a0 Y;have a8:=x.put4 (.int .i64 zr.k) (.string zr.a) (.string zr.b) (.slice zo zr.ps.length zc);have I:Ext wd ((((w7.setCell ⟨bo,0,none⟩ (.int .i64 zr.k)).setCell ⟨bo,1,none⟩ (.string zr.a)).setCell ⟨bo,2,none⟩ (.string zr.b)).setCell ⟨bo,3,none⟩ (.slice zo zr.ps.length zc)):=Below.setCell (Below.setCell (Below.setCell (Below.setCell ai (p:=⟨bo,0,none⟩) g _) (p:=⟨bo,1,none⟩) g _) (p:=⟨bo,2,none⟩) g _) (p:=⟨bo,3,none⟩) g _
   have a5:=aw.same (w':=(((w7.setCell ⟨bo,0,none⟩ (.int .i64 zr.k)).setCell ⟨bo,1,none⟩ (.string zr.a)).setCell ⟨bo,2,none⟩ (.string zr.b)).setCell ⟨bo,3,none⟩ (.slice zo zr.ps.length zc)) fun y hy=>by
    have:=g;have:=F.out.size;have:=HM.out.b;rw[Below.heap_setCell _ _ _ y (by show y≠bo;omega),Below.heap_setCell _ _ _ y (by show y≠bo;omega),Below.heap_setCell _ _ _ y (by show y≠bo;omega),Below.heap_setCell _ _ _ y (by show y≠bo;omega)]
   refine hK.out _ _ I ?_;clear hK;refine t! 15 ?_
   refine d! ?_;exact⟨rfl,zr,zo,zc,bo,rfl,g,I,a8,a5,q⟩
  ·refine b! ?_;intro K hK;go_simp;obtain⟨bo,m⟩:=e! wd.heap.size;rw[<-m];have a7:=Ext.alloc wd (.cells #[.int .i64 0,.string ⟨#[]⟩,.string ⟨#[]⟩,.slice none 0 0] 106);have aD:Blk (wd.alloc (.cells #[.int .i64 0,.string ⟨#[]⟩,.string ⟨#[]⟩,.slice none 0 0] 106)) bo #[.int .i64 0,.string ⟨#[]⟩,.string ⟨#[]⟩,.slice none 0 0] 106:=by rw[m];exact Blk.made _ _ _
   have g:wd.heap.size<=bo:=by rw[m];exact n0! _
   refine hK.out _ _ a7 ?_;clear hK m;generalize wd.alloc (.cells #[.int .i64 0,.string ⟨#[]⟩,.string ⟨#[]⟩,.slice none 0 0] 106)=w4 at *;refine ob! 9 ?_;intro K hK;go_simp;refine(a3.out w4 a7).mono ?_;rintro e w5 ⟨⟨zr,zv⟩,rfl,o,q,-,V⟩;have o:RTAt (· < B) w5 zr zv:=o;obtain⟨zo,zc,rfl,-⟩:=o.rows;dsimp only at q;unfold rvV rV;dsimp only;have A:Ext wd w5:=Ext.trans a7 V;refine hK.out _ _ A ?_;clear hK;(refine WalkN.tk [10,11,12] ?_;(iterate 3 (refine c! ?_));refine TkN.n ?_)
   have x:=aD.below V;refine ob! 14 ?_;intro K hK;have a0:=x.cells;have Y:=x.free;go_simp;clear a0 Y;have a8:=x.put4 (.int .i64 zr.k) (.string zr.a) (.string zr.b) (.slice zo zr.ps.length zc);have I:Ext wd ((((w5.setCell ⟨bo,0,none⟩ (.int .i64 zr.k)).setCell ⟨bo,1,none⟩ (.string zr.a)).setCell ⟨bo,2,none⟩ (.string zr.b)).setCell ⟨bo,3,none⟩ (.slice zo zr.ps.length zc)):=Below.setCell (Below.setCell (Below.setCell (Below.setCell A (p:=⟨bo,0,none⟩) g _) (p:=⟨bo,1,none⟩) g _) (p:=⟨bo,2,none⟩) g _) (p:=⟨bo,3,none⟩) g _
   have a5:=o.same (w':=(((w5.setCell ⟨bo,0,none⟩ (.int .i64 zr.k)).setCell ⟨bo,1,none⟩ (.string zr.a)).setCell ⟨bo,2,none⟩ (.string zr.b)).setCell ⟨bo,3,none⟩ (.slice zo zr.ps.length zc)) fun y hy=>by
    have:=g;have:=F.out.size;have:=HM.out.b;rw[Below.heap_setCell _ _ _ y (by show y≠bo;omega),Below.heap_setCell _ _ _ y (by show y≠bo;omega),Below.heap_setCell _ _ _ y (by show y≠bo;omega),Below.heap_setCell _ _ _ y (by show y≠bo;omega)]
   refine hK.out _ _ I ?_;clear hK;refine t! 15 ?_
   refine d! ?_;exact⟨rfl,zr,zo,zc,bo,rfl,g,I,a8,a5,q⟩
 rintro e _ W1 ⟨rfl,zr,zo,zc,bo,rfl,m,hX,hB,hA,q⟩;dsimp only at hB hA q ⊢;have ad:Hid (Ext wa W1):=h! (Ext.trans E.out hX);have av:=h! hA;have ak:=h! q;have ay:=h! hB;have ax:Hid (wa.heap.size<=bo):=h! (n6! E.out.size m);clear m hX hB hA q E s a3 F;obtain rfl:=ak.out r al.out;have HX:=h! (Ext.trans XB.out ad.out);have J:=h! (HP.out.ext HX.out);clear an BP ax ad XB ak al a6;go_wp2_with fail
 obtain⟨wd,s⟩:=e! (World.drew W1);have XD:=h! (show Ext W1 wd from xd! s);refine av! (fun j=>decide (11<=j)) (Ext wd) (by rw[<-s];exact Ext.refl _) (by kernel_rfl) (by kernel_rfl) (fun _ _ d _ _ h=>by cases d <;> exact h) ?_;rw[<-s];clear s;have v:=h! (Ext.trans HX.out XD.out);have J:=h! (J.out.ext XD.out);have h1:=fun W (h:Ext wd W)=>(J.out.box.below h).cells;have h2:=fun W (h:Ext wd W)=>(ay.out.below (Ext.trans XD.out h)).cells;have g0:=fun W (h:Ext wd W)=>Ext.cell (Ext.trans v.out h) F0.out;have g1:=fun W (h:Ext wd W)=>Ext.cell (Ext.trans v.out h) F1.out;have g2:=fun W (h:Ext wd W)=>Ext.cell (Ext.trans v.out h) F2.out;have g3:=fun W (h:Ext wd W)=>Ext.cell (Ext.trans v.out h) F3.out;unfold pwC at h1;have O:=h! (HC.out _ _ wd D out names ov wait (av.out.same fun y hy=>XD.out.block y (n1! hy (n6! HM.out.b HX.out.size))) (az.out.same fun y hy=>v.out.block y (n1! hy HM.out.b)) (Below.trans aA.out (v.out.mono HM.out.b)) J.out HW.out);unfold rV fV at O;dsimp only at O;(refine WalkS.tk [0,1,2,3,4,5,6,7,8,9,10] ?_;(iterate 11 (refine z! ?_));refine TkS.n ?_)
 clear h1 h2 g0 g1 g2 g3;refine WalkS.rest (by kernel_rfl) ?_;refine ob! 11 ?_;intro K hK;go_simp;refine O.out.mono ?_;rintro e w5 ⟨D',Z,C,aC,i,rfl,ab,ac,hd,ah,aa,ar,aj⟩;refine hK.out _ _ trivial ?_;clear hK O;have HE:Hid (bS! ts T shut P R wp am B (.slice to ts.length tc) fi (.slice (some ⟨pb,po,none⟩) P.length cp) (.slice (some ⟨fb,fo,none⟩) fs.length cf) rv sub D names ov wait k zr w (.returned (.int .i64 (i:Int))) w5):=h! ⟨D',Z,C,aC,i,rfl,ab,(Fine.of wp am ov v.out).trans ac,fun b hb=>(hd b hb).imp id fun hb=>n6! v.out.size hb,ah,aa,ar,aj⟩;clear ab ac hd ah aa ar aj;refine t! 12 ?_
 refine d! ?_;go_wp2_with fail
 go_ret
 exact HE.out
section
variable {ts : List TyS} {T : List Tup} {shut : List R2} {sub p : P3} {l : List Stp} {i : Nat} {r r0 : RT}
theorem jL! {q:P3}{rq:RT}{x:Stp}{j:Nat}(hj:j<i)(hx:l[j]?=some x)(hp:x.p=q)(hr:lookA (ab! ts) ⟨q.t,q.r⟩=some rq)(hxr:x.r=rq):aE! ts l i (j:Int) q :=
 ⟨by omega,by omega,x,rq,by rw[Int.toNat_natCast];exact hx,hp,hr,hxr⟩
theorem ne! {q:RT}{x:Stp}{j:Nat}(hj:j<i)(hx:l[j]?=some x)(hp:x.p=p)(hxr:x.r=q):partP l i (j:Int) p q :=
 ⟨by omega,by omega,x,by rw[Int.toNat_natCast];exact hx,hp,hxr⟩
theorem hE! (h0:ar! ts shut p=some r0)(hr:r∈r0.pre)(hk:r.k=1)(h:sub∈ai! T p):stepP ts T shut sub l i ⟨p,r,sub,[]⟩:=by
 refine⟨r0,h0,hr,?_⟩;unfold kindP;rw[if_pos hk];exact⟨h,by rw[if_pos rfl]⟩
theorem hD! {q:P3}{b:Int}(h0:ar! ts shut p=some r0)(hr:r∈r0.pre)(hk:r.k=1)(h:q∈bM! (ai! T p))(hb:aE! ts l i b q):stepP ts T shut sub l i ⟨p,r,q,[b]⟩:=by
 refine⟨r0,h0,hr,?_⟩;unfold kindP;rw[if_pos hk];exact⟨(eH!.1 h).1,by rw[if_neg (by simp)];exact⟨(eH!.1 h).2,b,rfl,hb⟩⟩
theorem jw! {b:Int}(h0:ar! ts shut p=some r0)(hr:r∈r0.pre)(hk:r.k=2)(hb:aE! ts l i b ⟨p.t,p.i,r.a⟩):stepP ts T shut sub l i ⟨p,r,s3z,[b]⟩:=by
 refine⟨r0,h0,hr,?_⟩;unfold kindP;rw[if_neg (show ¬ r.k=1 by omega),if_neg (show ¬ r.k=3 by omega),if_pos hk];exact⟨rfl,b,rfl,hb⟩
theorem lo! {q:P3}{b:Int}(h0:ar! ts shut p=some r0)(hr:r∈r0.pre)(hk:r.k=3)(h:q∈viaOf r.b (ai! T ⟨p.t,p.i,r.a⟩))(hb:aE! ts l i b q):stepP ts T shut sub l i ⟨p,r,⟨q.t,q.i,⟨#[]⟩⟩,[b]⟩:=by
 obtain⟨y,hy,h1,rfl⟩:=jp!.1 h;refine⟨r0,h0,hr,?_⟩;unfold kindP;rw[if_neg (show ¬ r.k=1 by omega),if_pos hk];refine⟨rfl,?_,b,rfl,hb⟩;dsimp only;obtain⟨yt,yi,yr⟩:=y;dsimp only at h1;subst h1;exact hy
theorem hC! {q:RT}{b:Int}(h0:ar! ts shut p=some r0)(hr:r∈r0.pre)(hk:r.k=4)(hq:q∈r.ps)(hb:partP l i b p q):stepP ts T shut sub l i ⟨p,r,s3z,[b]⟩:=by
 refine⟨r0,h0,hr,?_⟩;unfold kindP;rw[if_neg (show ¬ r.k=1 by omega),if_neg (show ¬ r.k=3 by omega),if_neg (show ¬ r.k=2 by omega),if_pos hk];exact⟨rfl,b,rfl,q,hq,hb⟩
theorem jx! {bs:List Int}(h0:ar! ts shut p=some r0)(hr:r∈r0.pre)(hk:r.k=5)(hl:bs.length=r.ps.length)(hb:∀(j:Nat)(q:RT),r.ps[j]?=some q->∃b:Int,bs[j]?=some b/\partP l i b p q):stepP ts T shut sub l i ⟨p,r,s3z,bs⟩:=by
 refine⟨r0,h0,hr,?_⟩;unfold kindP;rw[if_neg (show ¬ r.k=1 by omega),if_neg (show ¬ r.k=3 by omega),if_neg (show ¬ r.k=2 by omega),if_neg (show ¬ r.k=4 by omega)];exact⟨rfl,hl,hb⟩
end
theorem kh! {T:List Tup}{P:List P3}{p sub:P3}{r:RT}{f:FT}{l:List Bool}(hf:cE! T P p r f)(hk:r.k=1)(h:holdF sub l f=true):sub∈ai! T p/\sub∈f.subs\/∃x∈f.refs,inAt l x=true:=by
 rw[bJ!]at hf;rw[bD!,if_pos (hf.1.trans hk),Bool.or_eq_true,u1!,x5!]at h;rcases h with h | h
 ·have h2:=h;rw[hf.2.1,if_pos hk]at h;exact .inl ⟨h,h2⟩
 ·exact .inr h
theorem gt! {T:List Tup}{P:List P3}{p sub:P3}{r:RT}{f:FT}{l:List Bool}(hf:cE! T P p r f)(hk:r.k=2\/r.k=3)(h:holdF sub l f=true):∃x∈f.refs,inAt l x=true:=by
 rw[bJ!]at hf;rw[bD!,if_neg (by rw[hf.1];omega),if_pos (by rw[hf.1];exact hk),x5!]at h;exact h
theorem kj! {T:List Tup}{P:List P3}{p sub:P3}{r:RT}{f:FT}{l:List Bool}(hf:cE! T P p r f)(hk:r.k=4)(h:holdF sub l f=true):∃g∈f.ps,holdF sub l g=true:=by
 rw[bJ!]at hf;rw[bD!,if_neg (by rw[hf.1];omega),if_neg (by rw[hf.1];omega),if_pos (hf.1.trans hk),x5!]at h;exact h
theorem iR! {T:List Tup}{P:List P3}{p sub:P3}{r:RT}{f:FT}{l:List Bool}(hf:cE! T P p r f)(hk:r.k=5)(h:holdF sub l f=true):∀g∈f.ps,holdF sub l g=true:=by
 rw[bJ!]at hf;rw[bD!,if_neg (by rw[hf.1];omega),if_neg (by rw[hf.1];omega),if_neg (by rw[hf.1];omega),if_pos (hf.1.trans hk),u8!]at h;exact h
structure Loc (wp am:Nat)(w:World)(ov:Value)(D:Nat->Prop)(b:Nat)(cs:Array Value)(t:TypeId):Prop where
 blk:Blk w b cs t
 kx:KX wp am w ov b
 nd:¬ D b
section
variable {w w' : World} {wp am B b x : Nat} {tv fi gp gf rv ov ov' : Value} {sub : P3} {D D' : Nat -> Prop} {out : List Stp} {names names2 : NL9} {cs : Array Value} {t : TypeId}
theorem Loc.ext (h:Loc wp am w ov D b cs t)(hx:Ext w w'):Loc wp am w' ov D b cs t:=⟨h.blk.below hx,⟨n1! h.kx.1 hx.size,h.kx.2⟩,h.nd⟩
theorem Loc.fine (h:Loc wp am w ov D b cs t)(hf:Fine wp am w w' ov ov')(hd:∀b,D' b->D b\/w.heap.size<=b):Loc wp am w' ov' D' b cs t:=⟨hf.at h.kx h.blk,hf.kx h.kx,fun e=>(hd b e).elim h.nd fun e=>by have:=h.kx.1;omega⟩
theorem Loc.aside (h:Loc wp am w ov D b cs t)(hb:b≠x)(i:Nat)(u:Value):Loc wp am (w.setCell ⟨x,i,none⟩ u) ov D b cs t:=⟨(Below.heap_setCell _ _ _ b hb).trans h.blk,⟨by simpa using h.kx.1,h.kx.2⟩,h.nd⟩
theorem Loc.of (hp:PwAt w wp am B tv fi gp gf rv sub D out names ov)(_hx:Ext w w')(hb:Blk w' b cs t)(hn:w.heap.size<=b):Loc wp am w' ov D b cs t:=⟨hb,⟨hb.lt,fun e=>by have:=hp.box.lt;omega,fun e=>by have:=hp.num.lt;omega,fun e=>by have:=(hp.own b e).2.2.2;omega⟩,fun e=>by have:=(hp.dk b e).1;omega⟩
theorem PwAt.box1 {a:Nat}{u:Value}(h:PwAt w wp am B tv fi gp gf rv sub D out names ov)(hl:Loc wp am w ov D x cs t):PwAt (w.setCell ⟨x,a,none⟩ u) wp am B tv fi gp gf rv sub D out names ov:=h.setBox hl.kx hl.nd a u
theorem Fine.box1 {pv pv':Value}{w0:World}{a:Nat}{u:Value}(h:Fine wp am w0 w pv pv')(hx:w0.heap.size<=x):Fine wp am w0 (w.setCell ⟨x,a,none⟩ u) pv pv':=h.set hx u
theorem PwAt.named (h:PwAt w wp am B tv fi gp gf rv sub D out names ov)(hk:Kept (· ≠ am) w w')(hm:Mp prog 325 nkV nuV w' am (nkM names2)):PwAt w' wp am B tv fi gp gf rv sub D out names2 ov:=by
 obtain⟨q,h1,h2,h3⟩:=h.row;have hs:∀b,D b->w'.heap[b]?=w.heap[b]?:=fun b hb=>hk.block b (h.dk b hb).2.2.1;exact⟨(hk.block wp h.ne).trans h.box,hm,⟨q,h1,h2.keepOwn fun g hg=>hk.block g (h.own g hg).2.1,fun x hx=>⟨(h3 x hx).1.same hs,(h3 x hx).2.same hs⟩⟩,fun b hb=>⟨n1! (h.dk b hb).1 hk.size,(h.dk b hb).2⟩,h.low⟩
end
structure Lcs (wp am:Nat)(w:World)(ov:Value)(D:Nat->Prop)(bw br bf bn:Nat)(rc fc nc:Array Value):Prop where
 lw:Loc wp am w ov D bw #[.pointer (some ⟨wp,0,none⟩)] 194
 lr:Loc wp am w ov D br rc 106
 lf:Loc wp am w ov D bf fc 128
 ln:Loc wp am w ov D bn nc 325
theorem Lcs.ext {wp am bw br bf bn:Nat}{w w':World}{ov:Value}{D:Nat->Prop}{rc fc nc:Array Value}(h:Lcs wp am w ov D bw br bf bn rc fc nc)(hx:Ext w w'):Lcs wp am w' ov D bw br bf bn rc fc nc:=⟨h.lw.ext hx,h.lr.ext hx,h.lf.ext hx,h.ln.ext hx⟩
theorem Lcs.fine {wp am bw br bf bn:Nat}{w w':World}{ov ov':Value}{D D':Nat->Prop}{rc fc nc:Array Value}(h:Lcs wp am w ov D bw br bf bn rc fc nc)(hf:Fine wp am w w' ov ov')(hd:∀b,D' b->D b\/w.heap.size<=b):Lcs wp am w' ov' D' bw br bf bn rc fc nc:=⟨h.lw.fine hf hd,h.lr.fine hf hd,h.lf.fine hf hd,h.ln.fine hf hd⟩
theorem Lcs.aside {wp am bw br bf bn x:Nat}{w:World}{ov:Value}{D:Nat->Prop}{rc fc nc:Array Value}(h:Lcs wp am w ov D bw br bf bn rc fc nc)(hx:bw≠x/\br≠x/\bf≠x/\bn≠x)(i:Nat)(u:Value):Lcs wp am (w.setCell ⟨x,i,Option.none⟩ u) ov D bw br bf bn rc fc nc:=⟨h.lw.aside hx.1 i u,h.lr.aside hx.2.1 i u,h.lf.aside hx.2.2.1 i u,h.ln.aside hx.2.2.2 i u⟩
theorem Blk.sub11 {w:World}{B:Nat}{a0 a1 a2 a3 a4 a5 a6 a7 a8 a9 aa:Value}{e:TypeId}(h:Blk w B #[a0,a1,a2,a3,a4,a5,a6,a7,a8,a9,aa] e)(x7 x8 x9:Value):Blk (((w.setCell ⟨B,7,none⟩ x7).setCell ⟨B,8,none⟩ x8).setCell ⟨B,9,none⟩ x9) B #[a0,a1,a2,a3,a4,a5,a6,x7,x8,x9,aa] e :=
 ((h.set_to (cs':=#[a0,a1,a2,a3,a4,a5,a6,x7,a8,a9,aa]) 7 x7 rfl).set_to (cs':=#[a0,a1,a2,a3,a4,a5,a6,x7,x8,a9,aa]) 8 x8 rfl).set_to 9 x9 rfl
abbrev set3 (w:World) (x:Nat) (u7 u8 u9:Value):World:=((w.setCell ⟨x,7,none⟩ u7).setCell ⟨x,8,none⟩ u8).setCell ⟨x,9,none⟩ u9
section
variable {w : World} {wp am B b x : Nat} {tv fi gp gf rv ov u7 u8 u9 : Value} {sub : P3} {D : Nat -> Prop} {out : List Stp} {names : NL9} {cs : Array Value} {t : TypeId}
end
abbrev xC (p:P3) (r:RT) (s:P3) (rpv yv:Value):Array Value:=#[.string p.t,.string p.i,.string p.r,.int .i64 r.k,.string r.a,.string r.b,rpv,.string s.t,.string s.i,.string s.r,yv]
theorem Loc.set3 {w:World}{wp am x:Nat}{ov rpv yv:Value}{D:Nat->Prop}{p s s':P3}{r:RT}{t:TypeId}(h:Loc wp am w ov D x (xC p r s rpv yv) t):Loc wp am (Go.Proofs.YtlhaghoajpglaaaGreat.set3 w x (.string s'.t) (.string s'.i) (.string s'.r)) ov D x (xC p r s' rpv yv) t:=⟨h.blk.sub11 _ _ _,⟨by simpa [Go.Proofs.YtlhaghoajpglaaaGreat.set3] using h.kx.1,h.kx.2⟩,h.nd⟩
def RuR (ts:List TyS)(T:List Tup)(shut:List R2)(P:List P3)(R:List Int)(wp am B:Nat)(tv fi gp gf rv:Value)(sub:P3)(w:World)(D:Nat->Prop)(names:NL9)(ov:Value)(wait:List Nat)(k:Nat)(r:RT)(p:P3)(rpv:Value)(bw bn bx:Nat)(nc:Array Value)(W:World):Prop :=
 ∃(D1:Nat->Prop) (out1:List Stp) (names1:NL9) (ov1:Value) (wait1:List Nat) (s:P3) (bs:List Int) (yo:Option Addr) (yn yc:Nat),PwAt W wp am B tv fi gp gf rv sub D1 out1 names1 ov1/\Fine wp am w W ov ov1/\(∀b,D1 b->D b\/w.heap.size<=b) /\
  Loc wp am W ov1 D1 bw #[.pointer (some ⟨wp,0,none⟩)] 194/\Loc wp am W ov1 D1 bn nc 325/\Loc wp am W ov1 D1 bx (xC p r s rpv (.slice yo yn yc)) 109 /\
  Sl (fun b=>D1 b\/Value.ownBlock (.slice yo yn yc)=some b) W 1 (.slice yo yn yc) (ic bs)/\(∀b,Value.ownBlock (.slice yo yn yc)=some b->KX wp am W ov1 b/\w.heap.size<=b) /\
  stepP ts T shut sub out1 out1.length ⟨p,r,s,bs⟩/\WrI ts T shut sub P out1 names1 wait1/\(∀i∈wait1,i<out1.length->(i:Int)∈bs\/i∈wait)/\(∀e∈names1,e∈names\/R.getD e.1.1 0<R.getD k 0\/(e.1.1=k/\e.1.2.sz<r.sz))/\∀e∈names,e∈names1
section
variable {ts : List TyS} {T : List Tup} {shut : List R2} {P : List P3} {R : List Int} {wp am B : Nat} {tv fi gp gf rv : Value} {sub : P3} {w W w5 : World} {D : Nat -> Prop} {out : List Stp} {names : NL9} {ov : Value} {wait : List Nat} {k : Nat} {r : RT} {p s : P3} {rpv yv0 : Value} {bw bn bx : Nat} {nc : Array Value}
theorem RuR.none0 (h:PwAt W wp am B tv fi gp gf rv sub D out names ov)(hf:Fine wp am w W ov ov)(h1:Loc wp am W ov D bw #[.pointer (some ⟨wp,0,none⟩)] 194)(h2:Loc wp am W ov D bn nc 325)(h3:Loc wp am W ov D bx (xC p r s rpv (.slice none 0 0)) 109)
  (hs:stepP ts T shut sub out out.length ⟨p,r,s,[]⟩) (hw:WrI ts T shut sub P out names wait):RuR ts T shut P R wp am B tv fi gp gf rv sub w D names ov wait k r p rpv bw bn bx nc W :=
 ⟨D,out,names,ov,wait,s,[],.none,0,0,h,hf,fun _ hb => .inl hb,h1,h2,h3,Sl.nil _ _ _,fun b hb=>(by cases hb),hs,hw,fun i hi _ => .inr hi,fun e he => .inl he,fun _ he=>he⟩
theorem RuR.one {k2:Nat}{r2:RT}{e:Ending}(_h:PwAt W wp am B tv fi gp gf rv sub D out names ov)(hf:Fine wp am w W ov ov)(h1:Loc wp am W ov D bw #[.pointer (some ⟨wp,0,none⟩)] 194)(h2:Loc wp am W ov D bn nc 325)(h3:Loc wp am W ov D bx (xC p r s rpv yv0) 109)(hbx:w.heap.size<=bx)(hne:bw≠bx/\bn≠bx)
  (hr:bS! ts T shut P R wp am B tv fi gp gf rv sub D names ov wait k2 r2 W e w5) (hlt:R.getD k2 0<R.getD k 0\/(k2=k/\r2.sz<r.sz))
  (hs:∀(out1:List Stp) (names1:NL9) (i:Nat),WrI ts T shut sub P out1 names1 (i::wait)->((k2,r2),i)∈names1->stepP ts T shut sub out1 out1.length ⟨p,r,s,[(i:Int)]⟩) :
  ∃i:Nat,e= .returned (.int .i64 (i:Int))/\Blk (w5.alloc (.cells #[.int .i64 (i:Int)] 3)) bx (xC p r s rpv yv0) 109/\RuR ts T shut P R wp am B tv fi gp gf rv sub w D names ov wait k r p rpv bw bn bx nc ((w5.alloc (.cells #[.int .i64 (i:Int)] 3)).setCell ⟨bx,10,Option.none⟩ (.slice (some ⟨w5.heap.size,0,Option.none⟩) 1 1)):=by
 obtain⟨D1,out1,names1,c,i,rfl,hp,a,o,hw,hm,hn,a4⟩:=hr;obtain⟨l,d⟩:=e! (w5.alloc (.cells #[.int .i64 (i:Int)] 3));have f:Ext w5 l:=xa! d
 have a0:=hp.ext f;have a2:Fine wp am w l ov c:=(hf.trans a).trans (Fine.of wp am c f);have l1:=(h1.fine a o).ext f;have l2:=(h2.fine a o).ext f;have m:=(h3.fine a o).ext f;have a3:Blk l w5.heap.size #[.int .i64 (i:Int)] 3:=bm! d
 have hy:KX wp am l c w5.heap.size:=(Loc.of (D:=D1) hp f a3 (n0! _)).kx;have a1:bx≠w5.heap.size:=fun e=>by have:=(h3.fine a o).kx.1;omega
 have a5:w.heap.size<=w5.heap.size:=(hf.trans a).size;refine⟨i,rfl,?_⟩;rw[<-d];refine⟨m.blk,D1,out1,names1,c,i::wait,s,[(i:Int)],some ⟨w5.heap.size,0,Option.none⟩,1,1,a0.box1 m,a2.box1 hbx,fun b hb=>?_,l1.aside hne.1 _ _,l2.aside hne.2 _ _,⟨m.blk.set_to 10 _ rfl,⟨by simpa using m.kx.1,m.kx.2⟩,m.nd⟩,?_,?_,hs out1 names1 i hw hm,hw,?_,fun e he=>?_,a4⟩
 ·rcases o b hb with e | e
  ·exact .inl e
  ·exact .inr (n6! hf.size e)
 ·have hl:Own l w5.heap.size 3 1 (.slice (some ⟨w5.heap.size,0,Option.none⟩) 1 1) (ic [(i:Int)]):=by rw[d];exact Own.lit1 w5 (n0! _) _ _
  have:=hl.keepOwn (w':=l.setCell ⟨bx,10,Option.none⟩ (.slice (some ⟨w5.heap.size,0,Option.none⟩) 1 1)) fun g hg=>Below.heap_setCell _ _ _ g fun e=>a1 (by rw[<-show w5.heap.size=g from v5! hg]at e;exact e.symm);obtain⟨n,ho⟩:=this;exact bk! ho _ fun g hg => .inr hg
 ·intro b hb;obtain rfl:w5.heap.size=b:=v5! hb;exact⟨⟨by simpa using hy.1,hy.2⟩,a5⟩
 ·intro j hj _;rcases v7!.1 hj with rfl | hj
  ·exact .inl (List.mem_singleton_self _)
  ·exact .inr hj
 ·rcases hn e he with h4 | h4 | ⟨h4,h5⟩
  ·exact .inl h4
  ·rcases hlt with h6 | ⟨rfl,h6⟩
   ·exact .inr (.inl (by omega))
   ·exact .inr (.inl h4)
  ·rcases hlt with h6 | ⟨rfl,h6⟩
   ·exact .inr (.inl (by rw[h4];exact h6))
   ·exact .inr (.inr ⟨h4,by omega⟩)
theorem WrI.proves {out1:List Stp}{names1:NL9}{wt:List Nat}{n i:Nat}{q:P3}{rj:RT}(hw:WrI ts T shut sub P out1 names1 wt)(hm:((n,rj),i)∈names1)(hq:P[n]?=some q)(hr:ar! ts shut q=some rj):aE! ts out1 out1.length (i:Int) q:=by
 obtain⟨x,h1,a,h3⟩:=hw.key _ hm;dsimp only at h1 a h3;rw[hq]at a;injection a with a
 exact jL! (y3!.1 h1).1 h1 a.symm (ba! hr) h3
theorem WrI.parts {out1:List Stp}{names1:NL9}{wt:List Nat}{n i:Nat}{q:P3}{rj:RT}(hw:WrI ts T shut sub P out1 names1 wt)(hm:((n,rj),i)∈names1)(hq:P[n]?=some q):partP out1 out1.length (i:Int) q rj:=by
 obtain⟨x,h1,a,h3⟩:=hw.key _ hm;dsimp only at h1 a h3;rw[hq]at a;injection a with a
 exact ne! (y3!.1 h1).1 h1 a.symm h3
end
structure ClsB (w:World)(wp B br bf bx:Nat)(rc fc xc:Array Value)(W:World):Prop where
 bw:Blk W w.heap.size #[.pointer (some ⟨wp,0,Option.none⟩)] 194
 br:Blk W br rc 106
 bf:Blk W bf fc 128
 bx:Blk W bx xc 109
 low:Below B w W
def RuB (ts:List TyS)(T:List Tup)(shut:List R2)(P:List P3)(R:List Int)(wp am B:Nat)(tv fi gp gf rv:Value)(sub:P3)(w:World)(D:Nat->Prop)(names:NL9)(ov:Value)(wait:List Nat)(k:Nat)(r:RT)(p:P3)(rpv:Value)(bw br bf bn bx:Nat)(rc fc nc:Array Value)(j:Nat)(W:World):Prop :=
 ∃(D1:Nat->Prop) (out1:List Stp) (names1:NL9) (ov1:Value) (wait1:List Nat) (bs:List Int) (yo:Option Addr) (yn yc:Nat),PwAt W wp am B tv fi gp gf rv sub D1 out1 names1 ov1/\Fine wp am w W ov ov1/\(∀b,D1 b->D b\/w.heap.size<=b)/\Lcs wp am W ov1 D1 bw br bf bn rc fc nc /\
  Loc wp am W ov1 D1 bx (xC p r s3z rpv (.slice yo yn yc)) 109/\Own W w.heap.size 3 1 (.slice yo yn yc) (ic bs)/\(∀b,Value.ownBlock (.slice yo yn yc)=some b->¬ D1 b)/\bs.length=j/\WrI ts T shut sub P out1 names1 wait1/\(∀i∈wait1,(i:Int)∈bs\/i∈wait) /\
  (∀e∈names1,e∈names\/R.getD e.1.1 0<R.getD k 0\/(e.1.1=k/\e.1.2.sz<r.sz))/\(∀e∈names,e∈names1)/\∀(m:Nat) (q:RT),m<j->r.ps[m]?=some q->∃i:Nat,bs[m]?=some (i:Int)/\((k,q),i)∈names1
section
variable {ts : List TyS} {T : List Tup} {shut : List R2} {P : List P3} {R : List Int} {wp am B : Nat} {tv fi gp gf rv : Value} {sub : P3} {w W w5 w6 w7 : World} {D D1 : Nat -> Prop} {out out1 : List Stp} {names names1 : NL9} {ov ov1 yv v2 : Value} {wait wait1 : List Nat} {k j i : Nat} {r q r0 : RT} {p : P3} {rpv : Value} {bw br bf bn bx b : Nat} {rc fc nc cs : Array Value} {t : TypeId} {o : Option Nat} {bs : List Int} {B' : Nat} {xs : List Value}
theorem PwAt.kxInt (h:PwAt W wp am B tv fi gp gf rv sub D out names ov)(ho:Own W B' 3 1 yv xs):∀g,yv.ownBlock=some g->KX wp am W ov g:=fun g hg=>by
 obtain⟨c,hc⟩:=ho.typed hg;refine⟨(ho.block g hg).2,fun e=>?_,fun e=>?_,fun e=>?_⟩
 ·subst e;rw[show W.heap[g]?=_ from h.box]at hc;injection hc with hc
  injection hc with _ hc _
  exact absurd hc (by decide)
 ·subst e;exact h.num.notCells _ _ _ hc
 ·obtain⟨q,-,hq,-⟩:=h.row;obtain⟨c2,hc2⟩:=hq.typed e;rw[hc2]at hc;injection hc with hc
  injection hc with _ hc _
  exact absurd hc (by decide)
theorem Loc.neInt (h:Loc wp am W ov D b cs t)(ho:Own W B' 3 1 yv xs)(ht:t≠3):∀g,yv.ownBlock=some g->b≠g:=fun g hg e=>by
 obtain⟨c,hc⟩:=ho.typed hg;subst e;rw[show W.heap[b]?=_ from h.blk]at hc;injection hc with hc
 injection hc with _ hc _
 exact ht hc
theorem PwAt.grow (h:PwAt w6 wp am B tv fi gp gf rv sub D out names ov)(hg:w6.grownBy w7 o)(hk:∀g,o=some g->KX wp am w6 ov g/\¬ D g):PwAt w7 wp am B tv fi gp gf rv sub D out names ov:=h.same (fun b hb=>hg.block b (h.lt hb) fun e=>by
 have:=hk b e.symm;rcases hb with hb | hb | hb | hb
 ·exact this.1.2.1 hb
 ·exact this.1.2.2.1 hb
 ·exact this.1.2.2.2 hb
 ·exact this.2 hb) hg.size
theorem Loc.grow (h:Loc wp am w6 ov D b cs t)(hg:w6.grownBy w7 o)(hn:∀g,o=some g->b≠g):Loc wp am w7 ov D b cs t:=⟨(hg.block b h.kx.1 fun e=>hn b e.symm rfl).trans h.blk,⟨n1! h.kx.1 hg.size,h.kx.2⟩,h.nd⟩
theorem RuB.start (h:PwAt W wp am B tv fi gp gf rv sub D out names ov)(hf:Fine wp am w W ov ov)(hl:Lcs wp am W ov D bw br bf bn rc fc nc)(hx:Loc wp am W ov D bx (xC p r s3z rpv (.slice Option.none 0 0)) 109)(hw:WrI ts T shut sub P out names wait) :
  RuB ts T shut P R wp am B tv fi gp gf rv sub w D names ov wait k r p rpv bw br bf bn bx rc fc nc 0 W :=
 ⟨D,out,names,ov,wait,[],Option.none,0,0,h,hf,fun _ hb => .inl hb,hl,hx,Own.nil _ _ _ _,fun b hb=>(by cases hb),rfl,hw,fun i hi => .inr hi,fun e he => .inl he,fun _ he=>he,fun m q hm=>absurd hm (Nat.not_lt_zero m)⟩
theorem RuB.next {yo:Option Addr}{yn yc:Nat}(hp:PwAt w5 wp am B tv fi gp gf rv sub D1 out1 names1 ov1)(hf:Fine wp am w w5 ov ov1)(hd:∀b,D1 b->D b\/w.heap.size<=b)(hl:Lcs wp am w5 ov1 D1 bw br bf bn rc fc nc)(hx:Loc wp am w5 ov1 D1 bx (xC p r s3z rpv (.slice yo yn yc)) 109)(ho:Own w5 w.heap.size 3 1 (.slice yo yn yc) (ic bs))(hod:∀b,Value.ownBlock (.slice yo yn yc)=some b->¬ D1 b)(hbs:bs.length=j)
  (hw:WrI ts T shut sub P out1 names1 (i::wait1)) (hwt:∀i∈wait1,(i:Int)∈bs\/i∈wait) (hn:∀e∈names1,e∈names\/R.getD e.1.1 0<R.getD k 0\/(e.1.1=k/\e.1.2.sz<r.sz)) (hin:∀e∈names,e∈names1) (hq:r.ps[j]?=some q) (hm:((k,q),i)∈names1) (hprev:∀(m:Nat) (q:RT),m<j->r.ps[m]?=some q->∃i:Nat,bs[m]?=some (i:Int)/\((k,q),i)∈names1)
  (hne:bw≠bx/\br≠bx/\bf≠bx/\bn≠bx) (hbx:w.heap.size<=bx) {y2:Option Addr} {n2 c2:Nat} (h6:Ext w5 w6) (hown:Own w7 w.heap.size 3 1 (.slice y2 n2 c2) (ic bs++[.int .i64 (i:Int)])) (hwh:∀g,Value.ownBlock (.slice y2 n2 c2)=some g->Value.ownBlock (.slice yo yn yc)=some g\/w6.heap.size<=g) (hg:w6.grownBy w7 (Value.ownBlock (.slice yo yn yc))) :
  RuB ts T shut P R wp am B tv fi gp gf rv sub w D names ov wait k r p rpv bw br bf bn bx rc fc nc (j+1) (w7.setCell ⟨bx,10,Option.none⟩ (.slice y2 n2 c2)):=by
 have a:=ho.below h6;have c:=hp.ext h6;have a0:∀g,Value.ownBlock (.slice yo yn yc)=some g->KX wp am w6 ov1 g/\¬ D1 g:=fun g hg=>⟨c.kxInt a g hg,hod g hg⟩;have a2:=c.grow hg a0;have d:=hl.ext h6;have x6:=hx.ext h6;have l7:Lcs wp am w7 ov1 D1 bw br bf bn rc fc nc:=⟨d.lw.grow hg (d.lw.neInt a (by decide)),d.lr.grow hg (d.lr.neInt a (by decide)),d.lf.grow hg (d.lf.neInt a (by decide)),d.ln.grow hg (d.ln.neInt a (by decide))⟩;have f:=x6.grow hg (x6.neInt a (by decide));have f7:Fine wp am w w7 ov ov1:=(hf.trans (Fine.of wp am ov1 h6)).own a hg;have a1:=f.neInt hown (by decide);refine⟨D1,out1,names1,ov1,i::wait1,bs++[(i:Int)],y2,n2,c2,a2.box1 f,f7.box1 hbx,hd,l7.aside hne _ _,⟨f.blk.set_to 10 _ rfl,⟨by simpa using f.kx.1,f.kx.2⟩,f.nd⟩,?_,fun g hgg=>?_,by rw[u4!,hbs];rfl,hw,fun x hxm=>?_,hn,hin,fun m q2 hm2 hq2=>?_⟩
 ·have:Own (w7.setCell ⟨bx,10,Option.none⟩ (.slice y2 n2 c2)) w.heap.size 3 1 (.slice y2 n2 c2) (ic bs++[.int .i64 (i:Int)]):=hown.keepOwn fun g hgg=>Below.heap_setCell _ _ _ g fun e=>a1 g hgg e.symm;rw[show ic (bs++[(i:Int)])=ic bs++[.int .i64 (i:Int)]from by simp[ic]];exact this
 ·rcases hwh g hgg with e | e
  ·exact hod g e
  ·intro e2;have:=(c.dk g e2).1;omega
 ·rcases v7!.1 hxm with rfl | hxm
  ·exact .inl (by simp)
  ·exact(hwt x hxm).imp (fun h=>List.mem_append_left _ h) id
 ·by_cases e:m=j
  ·subst e;rw[hq]at hq2;injection hq2 with hq2
   subst hq2;exact⟨i,by rw[List.getElem?_append_right (by omega),hbs];simp,hm⟩
  ·obtain⟨i2,h1,h2⟩:=hprev m q2 (by omega) hq2;exact⟨i2,by rw[List.getElem?_append_left (y3!.1 h1).1];exact h1,h2⟩
theorem RuB.done (h:RuB ts T shut P R wp am B tv fi gp gf rv sub w D names ov wait k r p rpv bw br bf bn bx rc fc nc r.ps.length W)(hpk:P[k]?=some p)(hru:ar! ts shut p=some r0)(hpre:r∈r0.pre)(hk:r.k=5) :
  RuR ts T shut P R wp am B tv fi gp gf rv sub w D names ov wait k r p rpv bw bn bx nc W:=by
 obtain⟨D1,d,a,a2,c,bs,yo,yn,yc,hp,hf,hd,hl,hx,ho,a4,a3,hw,a0,hn,a1,hm⟩:=h;refine⟨D1,d,a,a2,c,s3z,bs,yo,yn,yc,hp,hf,hd,hl.lw,hl.ln,hx,?_,fun b hb=>⟨hp.kxInt ho b hb,(ho.block b hb).1⟩,?_,hw,fun i hi _=>a0 i hi,hn,a1⟩
 ·obtain⟨n,h1⟩:=ho;exact bk! h1 _ fun g hg => .inr hg
 ·refine jx! hru hpre hk a3 fun j q hq=>?_;obtain⟨i,h1,h2⟩:=hm j q (y3!.1 hq).1 hq;exact⟨i,h1,hw.parts h2 hpk⟩
end
theorem ho! (w:World)(ps qs:List RT)(k:Int)(a b:ByteArray)(pv qv:Value)(g:Nat)(eg:∀args W,(callFunc g args).run prog W= .ok (.enter g args) W)(t:Bool)(ht:t=true↔ps=qs)(hat:RTAt (· < w.heap.size) w (.mk k a b ps) pv)(hat2:RTAt (· < w.heap.size) w (.mk k a b qs) qv)(hf:∀p∈ps,∀(q:RT)(u v:Value)(W:World)(t:Bool),RTAt (· < W.heap.size) W p u->RTAt (· < W.heap.size) W q v->(t=true↔p=q)->Calls prog g #[rV p u,rV q v] W fun e W'=>e= .returned (.bool t)/\Ext W W') :
  Calls prog 221 #[pv,qv,.func (.func g) #[] #[]] w fun e w'=>e= .returned (.bool t)/\Ext w w':=by
 have HT:=h! ht;obtain⟨ao,c,rfl,D,a3,f⟩:=hat.rows;obtain⟨ac,cc,rfl,-,-,d⟩:=hat2.rows;dsimp only[RT.ps]at f d D ⊢;have HC:=h! f;have E:=h! d;have M:=h! hf;have F:Hid (ps.length<=9223372036854775807):=h! (by omega);clear f d hat hat2 hf ht a3 D;by_cases hn:ps.length=qs.length
 case neg =>
  have A:Hid (t=false):=h! (by cases t with | false=>rfl | true=>exact absurd (congrArg List.length (HT.out.1 rfl)) hn);clear HC E M F;generalize ps.length=n1 at *;generalize qs.length=n2 at *;have ab:((n1:Int) != (n2:Int))=true:=by rw[bne_iff_ne];omega
  clear hn;go_enter func221,ntmps221
  go_wp2_with fail
  go_ret
  exact⟨by rw[A.out];rfl,Ext.refl _⟩
 have HN:=h! hn;rw[<-hn];clear hn;go_enter func221,ntmps221
 go_wp2_with fail
 go_loopw [7,17] (fun _ iv wr=>∃i:Nat,i<=ps.length/\iv= .int .i64 i/\(∀j (h1:j<ps.length) (h2:j<qs.length),j<i->ps[j]=qs[j])/\Ext w wr) (fun _ iv _=>ps.length-(intOf iv).toNat)
 case atStart=>exact⟨0,by omega,rfl,fun j _ _ h=>absurd h (by omega),Ext.refl _⟩
 case round =>
  obtain⟨i,hi,rfl,r,l⟩:=hrel;have s:=h! r;have L:=h! l;clear r l;by_cases hlt:i<ps.length
  ·have m:i<qs.length:=by have:=HN.out;omega
   obtain⟨bb,aa,rv,rfl,-,c0,c1,c2,c3,z⟩:=HC.out i hlt;obtain⟨ad,a2,qv,rfl,-,f0,f1,f2,f3,B⟩:=E.out i m
   have a9:=h! (show ps[i]=qs[i]->∀j (h1:j<ps.length) (h2:j<qs.length),j<i+1->ps[j]=qs[j]from fun he j h1 h2 hj=>by
    by_cases hji:j=i
    ·subst hji;exact he
    ·exact s.out j h1 h2 (by omega))
   have a4:=h! (show ¬ ps[i]=qs[i]->¬ ps=qs from fun hne h=>hne (by subst h;rfl));have a7:=h! (n5! hlt);have H:=h! (show wrap64 ((i:Int)+1)=((i+1:Nat):Int)from by have:=F.out;unfold wrap64;omega);obtain⟨a8,cp,rfl,-,-,-⟩:=z.rows;obtain⟨a5,cq,rfl,-,-,-⟩:=B.rows;generalize ps[i]=p at *;generalize qs[i]=q at *;have a1:=h! z;have a6:=h! B;have d0:=Ext.cell L.out c0;have d1:=Ext.cell L.out c1;have d2:=Ext.cell L.out c2;have d3:=Ext.cell L.out c3;obtain⟨wa,n⟩:=e! (wr.alloc (.cells #[.int .i64 p.k,.string p.a,.string p.b,.slice a8 p.ps.length cp] 106));have I:=h! (show Ext wr wa from xa! n);have e0:=Ext.cell (Ext.trans L.out I.out) f0;have e1:=Ext.cell (Ext.trans L.out I.out) f1;have e2:=Ext.cell (Ext.trans L.out I.out) f2;have e3:=Ext.cell (Ext.trans L.out I.out) f3;rw[n]at e0 e1 e2 e3;clear z B m c0 c1 c2 c3 f0 f1 f2 f3;obtain⟨wb,y⟩:=e! (wa.alloc (.cells #[.int .i64 q.k,.string q.a,.string q.b,.slice a5 q.ps.length cq] 106));have J:=h! (show Ext w wb from Ext.trans L.out (Ext.trans I.out (xa! y)));obtain⟨K,C⟩:∃K:Bool,K=true↔p=q:=⟨decP (p=q),aN!⟩;have x:=h! (M.out p a7.out q _ _ wb K (a1.out.up J.out) (a6.out.up J.out) C);have o:=h! C;unfold rV at x;rw[y,n]at x;rw[y,n]at J;clear C y n I wb wa;go_wp2_with fail
   refine x.out.mono ?_;rintro e w4 ⟨rfl,G⟩;have HX:=h! (Ext.trans J.out G);clear G x d0 d1 d2 d3 e0 e1 e2 e3 J;cases K with
   | true =>
    have HS:=h! (a9.out (o.out.1 rfl));go_wp2_with fail
    go_roundw
    case rel=>exact⟨i+1,by omega,by first | rw[H.out] | go_num,HS.out,HX.out⟩
    case measure=>(try rw[H.out]);simp[intOf];omega
   | false =>
    have M:=h! (a4.out fun h=>by have:=o.out.2 h;cases this);have A:Hid (t=false):=h! (by cases t with | false=>rfl | true=>exact absurd (HT.out.1 rfl) M.out);go_wp2_with fail
    go_ret
    exact⟨by rw[A.out];rfl,HX.out⟩
  ·obtain rfl:i=ps.length:=by omega
   have a0:Hid (ps=qs):=h! (lB! HN.out fun j h1 h2=>s.out j h1 h2 h1);go_wp2_with fail
   go_ret
   exact⟨by rw[HT.out.2 a0.out];rfl,L.out⟩
theorem fU! (r:RT):∀(q:RT)(pv qv:Value)(w:World)(t:Bool),RTAt (· < w.heap.size) w r pv->RTAt (· < w.heap.size) w q qv->(t=true↔r=q) ->
  Calls prog 169 #[rV r pv,rV q qv] w fun e w'=>e= .returned (.bool t)/\Ext w w':=by
 induction r using RT.ind with
 | h r ih =>
 intro q pv qv w t hr hq ht;have j:=h! ht;have HR:=h! hr;have HQ:=h! hq;obtain⟨ao,c,rfl,-,-,-⟩:=hr.rows;obtain⟨a0,cc,rfl,-,-,-⟩:=hq.rows;have HI:=h! ih;clear ih hr hq ht;obtain⟨k,a,b,ps⟩:=r;obtain⟨k2,a2,b2,qs⟩:=q;unfold rV;dsimp only[RT.ps]at HI HR HQ;dsimp only[RT.k,RT.a,RT.b,RT.ps];have i:=h! (Ext.trans (Ext.alloc w (.cells #[.int .i64 k,.string a,.string b,.slice ao ps.length c] 106)) (Ext.alloc _ (.cells #[.int .i64 k2,.string a2,.string b2,.slice a0 qs.length cc] 106)));by_cases hk:k=k2
 case neg =>
  have a1:(k == k2)=false:=by rw[n7!];exact hk
  have d:Hid (t=false):=h! (by cases t with | false=>rfl | true=>exact absurd (j.out.1 rfl) fun h=>hk (by injection h));clear hk;go_enter func169,ntmps169
  go_wp2_with fail
  go_ret
  exact⟨by rw[d.out];rfl,i.out⟩
 subst hk;by_cases ha:a=a2
 case neg =>
  have a6:=aV! ha;have a4:¬ a.toList=a2.toList:=fun h=>ha (cA! h);have d:Hid (t=false):=h! (by cases t with | false=>rfl | true=>exact absurd (j.out.1 rfl) fun h=>ha (by injection h));clear ha;go_enter func169,ntmps169
  go_wp2_with fail
  go_ret
  exact⟨by rw[d.out];rfl,i.out⟩
 subst ha;by_cases hb:b=b2
 case neg =>
  have a5:=aV! hb;have a3:¬ b.toList=b2.toList:=fun h=>hb (cA! h);have d:Hid (t=false):=h! (by cases t with | false=>rfl | true=>exact absurd (j.out.1 rfl) fun h=>hb (by injection h));clear hb;go_enter func169,ntmps169
  go_wp2_with fail
  go_ret
  exact⟨by rw[d.out];rfl,i.out⟩
 subst hb;have f:=h! (ho! _ ps qs k a b _ _ 169 (enters_of func169 (by kernel_rfl) rfl) t (by rw[j.out];exact⟨fun h=>by injection h,fun h=>by rw[h]⟩) (HR.out.up i.out) (HQ.out.up i.out) HI.out);go_enter func169,ntmps169
 go_wp2_with fail
 refine f.out.mono ?_;rintro e w4 ⟨rfl,g⟩;have i:=h! (Ext.trans i.out g);clear g f;go_wp2_with fail
 go_ret
 exact⟨rfl,i.out⟩
theorem kb! (r:RT):∀(q:RT)(pv qv:Value)(w:World),RTAt (· < w.heap.size) w r pv->RTAt (· < w.heap.size) w q qv->∀(t:Bool),(t=true↔q∈r.pre) ->
  Calls prog 170 #[rV r pv,rV q qv] w fun e w'=>e= .returned (.bool t)/\Ext w w':=by
 induction r using RT.ind with
 | h r ih =>
 intro q pv qv w hr hq t ht;have HI:=h! ih;have HT:=h! (show t=true↔r=q\/∃p∈r.ps,q∈p.pre from by rw[ht,r.pre_eq,v7!,aJ!];exact or_congr eq_comm Iff.rfl);have HR:=h! hr;have HQ:=h! hq;obtain⟨ao,c,rfl,-,-,-⟩:=hr.rows;obtain⟨u,cc,rfl,-,-,-⟩:=hq.rows;obtain⟨D,d⟩:=e! (w.alloc (.cells #[.int .i64 r.k,.string r.a,.string r.b,.slice ao r.ps.length c] 106));obtain⟨z,g⟩:=e! (D.alloc (.cells #[.int .i64 q.k,.string q.a,.string q.b,.slice u q.ps.length cc] 106));have ea:D.heap.size=w.heap.size+1:=by rw[d];simp
 have xa:Ext w D:=xa! d
 have xb:Ext D z:=xa! g
 have XB:=h! (xa.trans xb);have BR:=h! (show Blk z w.heap.size #[.int .i64 r.k,.string r.a,.string r.b,.slice ao r.ps.length c] 106 from Blk.below (bm! d) xb);have E:=h! (show Blk z (w.heap.size+1) #[.int .i64 q.k,.string q.a,.string q.b,.slice u q.ps.length cc] 106 from by rw[g,<-ea];exact Blk.made _ _ _);have o:=h! (fU! r q _ _ z (decP (r=q)) (HR.out.up XB.out) (HQ.out.up XB.out) aN!);have B:=BR.out.cells;have C:=E.out.cells;unfold rV at o;clear ih hr hq ht ea xa xb;rw[g,d]at B C;unfold rV;go_enter func170,ntmps170
 go_wp2_with fail
 rw[<-d,<-g];clear B C d g;refine o.out.mono ?_;rintro e w2 ⟨rfl,j⟩;have A:Hid (Ext w w2):=h! (Ext.trans XB.out j);have B:=(BR.out.below j).cells;have E:=h! (E.out.below j);clear j o;by_cases he:r=q
 ·rw[eh! he];have a0:Hid (t=true):=h! (HT.out.2 (.inl he));clear he;go_wp2_with fail
  go_ret
  exact⟨by rw[a0.out];rfl,A.out⟩
 ·rw[iW! he]
  have v:=h! (show r.ps.any (fun p=>decP (q∈p.pre))=t from by
   rw[Bool.eq_iff_iff,HT.out,x5!];exact⟨fun⟨x,h1,h2⟩ => .inr ⟨x,h1,aN!.1 h2⟩,fun h=>h.elim (fun h=>absurd h he) fun⟨x,h1,h2⟩=>⟨x,h1,eh! h2⟩⟩)
  have m:=h! (bs! w2 r.ps r.k r.a r.b _ 222 #[.pointer (some ⟨w.heap.size+1,0,none⟩)] (enters_of func222 (by kernel_rfl) rfl) (fun p=>decP (q∈p.pre)) (by rw[mT!];exact HR.out.up A.out) fun i hi W pvi hW hat=>by
   have E:=h! (E.out.below hW);have s:=h! hat;have HX:=h! (Ext.trans A.out hW);have a1:=h! (n5! hi);clear hW hat;generalize r.ps[i]=p at *;obtain⟨po,pc,rfl,-,-,-⟩:=s.out.rows;have y:=h! (Ext.alloc W (.cells #[.int .i64 p.k,.string p.a,.string p.b,.slice po p.ps.length pc] 106));have n:=h! (HI.out p a1.out q _ _ _ (s.out.up y.out) (HQ.out.up (Ext.trans HX.out y.out)) (decP (q∈p.pre)) aN!);have C:=(E.out.below y.out).cells;unfold rV at n;unfold rV;go_enter func222,ntmps222
   go_wp2_with fail
   refine n.out.mono ?_;rintro e w5 ⟨rfl,f⟩;have l:=h! (Ext.trans y.out f);clear f n C;go_wp2_with fail
   go_ret
   exact⟨rfl,l.out⟩)
  rw[v.out]at m;clear he v HT HI;generalize w.heap.size+1=qb at *;go_wp2_with fail
  clear B;refine m.out.mono ?_;rintro e w5 ⟨rfl,f⟩;have l:=h! (Ext.trans A.out f);clear f m;go_wp2_with fail
  go_ret
  exact⟨rfl,l.out⟩
structure Rd9In (ts:List TyS)(T:List Tup)(shut:List R2)(l:List Stp):Prop where
 ok:∀t∈ts,t.Ok
 u:aK! ts=true
 n:(ab! ts).length<=1099511627776
 tl:T.length<=1000000
 sh:∀r∈shut,r.Ok
 l:∀x∈l,x.p.Ok/\x.s.Ok/\x.r.a.size<=maxLen/\x.r.b.size<=maxLen
abbrev rdC (tv:Value) (b am:Nat) (sub:P3) (lv:Value):Array Value:=#[tv,bkV b,.map (some am),.string sub.t,.string sub.i,.string sub.r,lv,.int .i64 0]
structure Rd9At (w:World)(rb am b:Nat)(ts:List TyS)(tv:Value)(T:List Tup)(shut:List R2)(sub:P3)(l:List Stp)(lv:Value):Prop where
 box:Blk w rb (rdC tv b am sub lv) 207
 sh:Mp prog 121 r2V bV w am (shutM shut)
 ty:ou! (· < w.heap.size) w ts tv
 bk:of! w b T
 st:os! (· < w.heap.size) w l lv
section
variable {w w' : World} {rb am b : Nat} {ts : List TyS} {tv : Value} {T : List Tup} {shut : List R2} {sub : P3} {l : List Stp} {lv : Value}
theorem Rd9At.ext (h:Rd9At w rb am b ts tv T shut sub l lv)(hx:Ext w w'):Rd9At w' rb am b ts tv T shut sub l lv:=⟨h.box.below hx,h.sh.below hx,h.ty.up hx,h.bk.ext hx,h.st.up hx⟩
end
def stV (z:Stp)(v:Value × Value):Value := .agg #[.string z.p.t,.string z.p.i,.string z.p.r,.int .i64 z.r.k,.string z.r.a,.string z.r.b,v.1,.string z.s.t,.string z.s.i,.string z.s.r,v.2]
def stpZ:Stp:=⟨s3z,.mk 0 ⟨#[]⟩ ⟨#[]⟩ [],s3z,[]⟩
theorem Blk.put11 {w:World}{B:Nat}{a0 a1 a2 a3 a4 a5 a6 a7 a8 a9 aa:Value}{e:TypeId}(h:Blk w B #[a0,a1,a2,a3,a4,a5,a6,a7,a8,a9,aa] e)(x0 x1 x2 x3 x4 x5 x6 x7 x8 x9 xa:Value):Blk (((((((((((w.setCell ⟨B,0,none⟩ x0).setCell ⟨B,1,none⟩ x1).setCell ⟨B,2,none⟩ x2).setCell ⟨B,3,none⟩ x3).setCell ⟨B,4,none⟩ x4).setCell ⟨B,5,none⟩ x5).setCell ⟨B,6,none⟩ x6).setCell ⟨B,7,none⟩ x7).setCell ⟨B,8,none⟩ x8).setCell ⟨B,9,none⟩ x9).setCell ⟨B,10,none⟩ xa) B #[x0,x1,x2,x3,x4,x5,x6,x7,x8,x9,xa] e :=
 ((((((((((h.set_to (cs':=#[x0,a1,a2,a3,a4,a5,a6,a7,a8,a9,aa]) 0 x0 rfl).set_to (cs':=#[x0,x1,a2,a3,a4,a5,a6,a7,a8,a9,aa]) 1 x1 rfl).set_to (cs':=#[x0,x1,x2,a3,a4,a5,a6,a7,a8,a9,aa]) 2 x2 rfl).set_to (cs':=#[x0,x1,x2,x3,a4,a5,a6,a7,a8,a9,aa]) 3 x3 rfl).set_to (cs':=#[x0,x1,x2,x3,x4,a5,a6,a7,a8,a9,aa]) 4 x4 rfl).set_to (cs':=#[x0,x1,x2,x3,x4,x5,a6,a7,a8,a9,aa]) 5 x5 rfl).set_to (cs':=#[x0,x1,x2,x3,x4,x5,x6,a7,a8,a9,aa]) 6 x6 rfl).set_to (cs':=#[x0,x1,x2,x3,x4,x5,x6,x7,a8,a9,aa]) 7 x7 rfl).set_to (cs':=#[x0,x1,x2,x3,x4,x5,x6,x7,x8,a9,aa]) 8 x8 rfl).set_to (cs':=#[x0,x1,x2,x3,x4,x5,x6,x7,x8,x9,aa]) 9 x9 rfl).set_to 10 xa rfl
def By9 (l:List Stp)(x:Stp)(i:Nat)(w:World)(e:Ending)(w':World):Prop:=∃(ok:Bool)(z:Stp)(v:Value × Value),e= .returned (.tuple #[stV z v,.bool ok])/\(ok=true->∃n:Nat,x.b=[(n:Int)]/\n<i/\l[n]?=some z)/\(ok=false->∀n:Nat,x.b=[(n:Int)]->¬ n<i)/\RTAt (· < w'.heap.size) w' z.r v.1/\(∃o n c,v.2= .slice o n c)/\Ext w w'
theorem By9.mk {l:List Stp}{x:Stp}{i:Nat}{w:World}{e:Ending}{w':World}(ok:Bool)(z:Stp)(v:Value × Value)(h:e= .returned (.tuple #[stV z v,.bool ok]))(h1:ok=true->∃n:Nat,x.b=[(n:Int)]/\n<i/\l[n]?=some z)(h2:ok=false->∀n:Nat,x.b=[(n:Int)]->¬ n<i)(h3:RTAt (· < w'.heap.size) w' z.r v.1)(h5:∃o n c,v.2= .slice o n c)(h4:Ext w w'):By9 l x i w e w':=⟨ok,z,v,h,h1,h2,h3,h5,h4⟩
theorem Below.put11 {n B:Nat}{w v:World}(h:Below n w v)(hB:n<=B)(x0 x1 x2 x3 x4 x5 x6 x7 x8 x9 xa:Value):Below n w (((((((((((v.setCell ⟨B,0,none⟩ x0).setCell ⟨B,1,none⟩ x1).setCell ⟨B,2,none⟩ x2).setCell ⟨B,3,none⟩ x3).setCell ⟨B,4,none⟩ x4).setCell ⟨B,5,none⟩ x5).setCell ⟨B,6,none⟩ x6).setCell ⟨B,7,none⟩ x7).setCell ⟨B,8,none⟩ x8).setCell ⟨B,9,none⟩ x9).setCell ⟨B,10,none⟩ xa) :=
 Below.setCell (Below.setCell (Below.setCell (Below.setCell (Below.setCell (Below.setCell (Below.setCell (Below.setCell (Below.setCell (Below.setCell (Below.setCell (h) (p:=⟨B,0,none⟩) hB _) (p:=⟨B,1,none⟩) hB _) (p:=⟨B,2,none⟩) hB _) (p:=⟨B,3,none⟩) hB _) (p:=⟨B,4,none⟩) hB _) (p:=⟨B,5,none⟩) hB _) (p:=⟨B,6,none⟩) hB _) (p:=⟨B,7,none⟩) hB _) (p:=⟨B,8,none⟩) hB _) (p:=⟨B,9,none⟩) hB _) (p:=⟨B,10,none⟩) hB _
theorem Kept.put11 {S:Nat->Prop}{B:Nat}{w v:World}(h:Kept S w v)(hB:¬ S B)(x0 x1 x2 x3 x4 x5 x6 x7 x8 x9 xa:Value):Kept S w (((((((((((v.setCell ⟨B,0,none⟩ x0).setCell ⟨B,1,none⟩ x1).setCell ⟨B,2,none⟩ x2).setCell ⟨B,3,none⟩ x3).setCell ⟨B,4,none⟩ x4).setCell ⟨B,5,none⟩ x5).setCell ⟨B,6,none⟩ x6).setCell ⟨B,7,none⟩ x7).setCell ⟨B,8,none⟩ x8).setCell ⟨B,9,none⟩ x9).setCell ⟨B,10,none⟩ xa) :=
 Kept.set (Kept.set (Kept.set (Kept.set (Kept.set (Kept.set (Kept.set (Kept.set (Kept.set (Kept.set (Kept.set (h) (a:=⟨B,0,none⟩) hB _) (a:=⟨B,1,none⟩) hB _) (a:=⟨B,2,none⟩) hB _) (a:=⟨B,3,none⟩) hB _) (a:=⟨B,4,none⟩) hB _) (a:=⟨B,5,none⟩) hB _) (a:=⟨B,6,none⟩) hB _) (a:=⟨B,7,none⟩) hB _) (a:=⟨B,8,none⟩) hB _) (a:=⟨B,9,none⟩) hB _) (a:=⟨B,10,none⟩) hB _
theorem byR29 (rb am b:Nat)(ts:List TyS)(tv:Value)(T:List Tup)(shut:List R2)(sub:P3)(l:List Stp)(lv:Value)(i:Nat)(hi:i<l.length)(w:World)(h:Rd9At w rb am b ts tv T shut sub l lv) :
  Calls prog 174 #[.pointer (some ⟨rb,0,none⟩),.int .i64 i] w fun e w'=>By9 l (l[i]'hi) i w e w':=by
 have HB:=h! h.box;obtain⟨ao,c,rfl,-,-,o⟩:=h.st.rows;have a1:=h! o;obtain⟨bb,J,rv,bv,rfl,-,-,H,gi⟩:=o i hi;have A:=h! H;have a5:(i:Int)<(l.length:Int):=by omega
 obtain⟨x,hx⟩:=e! (l[i]'hi);rw[<-hx];rw[<-hx]at gi A;obtain⟨yo,yn,yc,rfl,O,-,-⟩:=A.out.len;rw[ad!,Nat.mul_one]at O;subst O;obtain⟨wa,g⟩:=e! (w.alloc (.cells #[.string ⟨#[]⟩,.string ⟨#[]⟩,.string ⟨#[]⟩,.int .i64 0,.string ⟨#[]⟩,.string ⟨#[]⟩,.slice none 0 0,.string ⟨#[]⟩,.string ⟨#[]⟩,.string ⟨#[]⟩,.slice none 0 0] 109));have V:=h! (show Ext w wa from xa! g);have U:=h! (show Blk wa w.heap.size #[.string ⟨#[]⟩,.string ⟨#[]⟩,.string ⟨#[]⟩,.int .i64 0,.string ⟨#[]⟩,.string ⟨#[]⟩,.slice none 0 0,.string ⟨#[]⟩,.string ⟨#[]⟩,.string ⟨#[]⟩,.slice none 0 0] 109 from bm! g);have ka:=Ext.cell V.out (show w.cell? ⟨bb,J+i*11+10,none⟩=some (.slice yo x.b.length yc)from gi 10 _ rfl);have Y:=(HB.out.below V.out).cells;rw[g]at ka Y;clear h o H gi hx;by_cases hl1:x.b.length=1
 case neg =>
  have y:=h! (show ∀n:Nat,x.b=[(n:Int)]->¬ n<i from fun n h=>absurd (by rw[h];rfl) hl1);have a7:((x.b.length:Int) != 1)=true:=by rw[bne_iff_ne];omega
  clear hl1;go_enter func174,ntmps174
  go_wp2_with fail
  rw[<-g];refine bodyPost_ret (v := .tuple #[stV stpZ (.slice none 0 0,.slice none 0 0),.bool false]) ?_ rfl (By9.mk false stpZ (.slice none 0 0,.slice none 0 0) rfl (fun h=>(by cases h)) (fun _=>y.out) (RTAt.nil _ _ _ _ _) ⟨_,_,_,rfl⟩ V.out);rw[results_cell_tmp rfl];have hl:=run_loadVar_row (P:=prog) _ w.heap.size _ 109 _ _ _ U.out Tryz.underlying109 rfl (by kernel_rfl);simp[asAddr,hl,Result.andThen];rfl
 obtain⟨n,j⟩:∃n,x.b=[n]:=List.length_eq_one_iff.1 hl1;obtain⟨jb,D,rfl,-,E⟩:=bC! A.out 0 (by rw[j];simp);have cj:w.cell? ⟨jb,D,none⟩=some (.int .i64 n):=by simp only[j,List.getElem_cons_zero,Nat.add_zero]at E;exact E
 clear E;have kj:=Ext.cell V.out cj;rw[g]at kj;rw[hl1]at ka;by_cases hn0:0<=n
 case neg =>
  have y:=h! (show ∀m:Nat,x.b=[(m:Int)]->¬ m<i from fun m h=>by rw[j]at h;injection h with h;omega);have F:n<0:=by omega
  clear hn0 j hl1;go_enter func174,ntmps174
  go_wp2_with fail
  rw[<-g];refine bodyPost_ret (v := .tuple #[stV stpZ (.slice none 0 0,.slice none 0 0),.bool false]) ?_ rfl (By9.mk false stpZ (.slice none 0 0,.slice none 0 0) rfl (fun h=>(by cases h)) (fun _=>y.out) (RTAt.nil _ _ _ _ _) ⟨_,_,_,rfl⟩ V.out);rw[results_cell_tmp rfl];have hl:=run_loadVar_row (P:=prog) _ w.heap.size _ 109 _ _ _ U.out Tryz.underlying109 rfl (by kernel_rfl);simp[asAddr,hl,Result.andThen];rfl
 obtain⟨m,rfl⟩:=Int.eq_ofNat_of_zero_le hn0;by_cases hmi:m<i
 case neg =>
  have y:=h! (show ∀k:Nat,x.b=[(k:Int)]->¬ k<i from fun k h=>by rw[j]at h;injection h with h;omega);have F:¬ ((m:Int)<0):=by omega
  have L:(i:Int)<=(m:Int):=by omega
  clear hn0 j hl1 hmi;go_enter func174,ntmps174
  go_wp2_with fail
  rw[<-g];refine bodyPost_ret (v := .tuple #[stV stpZ (.slice none 0 0,.slice none 0 0),.bool false]) ?_ rfl (By9.mk false stpZ (.slice none 0 0,.slice none 0 0) rfl (fun h=>(by cases h)) (fun _=>y.out) (RTAt.nil _ _ _ _ _) ⟨_,_,_,rfl⟩ V.out);rw[results_cell_tmp rfl];have hl:=run_loadVar_row (P:=prog) _ w.heap.size _ 109 _ _ _ U.out Tryz.underlying109 rfl (by kernel_rfl);simp[asAddr,hl,Result.andThen];rfl
 have q:m<l.length:=Nat.lt_trans hmi hi;have F:¬ ((m:Int)<0):=by omega
 have L:¬ ((i:Int)<=(m:Int)):=by omega
 have a4:(m:Int)<(l.length:Int):=by omega
 obtain⟨ob,oo,zv,a8,e,-,C,N,X⟩:=a1.out m q;cases e;obtain⟨zo,Z,rfl,-⟩:=C.rows;obtain⟨Q,un,uc,rfl,-,-,-⟩:=N.len;have a6:=h! C;have G:Hid (∃n:Nat,x.b=[(n:Int)]/\n<i/\l[n]?=some (l[m]'q)):=h! ⟨m,j,hmi,n4! q⟩;have CJ:=h! cj;have m0:w.cell? ⟨bb,J+m*11,none⟩=some (.string (l[m]'q).p.t):=X 0 _ rfl;have m1:=X 1 _ rfl;have m2:=X 2 _ rfl;have m3:=X 3 _ rfl;have m4:=X 4 _ rfl;have m5:=X 5 _ rfl;have m6:=X 6 _ rfl;have m7:=X 7 _ rfl;have m8:=X 8 _ rfl;have m9:=X 9 _ rfl;have ma:=X 10 _ rfl;clear C N X hn0 hmi j hl1 cj;generalize (l[m]'q)=z at *;dsimp only at m1 m2 m3 m4 m5 m6 m7 m8 m9 ma;clear q;go_enter func174,ntmps174
 go_wp2_with fail
 rw[<-g];clear ka kj Y g;have HW:Hid (w.heap.size<wa.heap.size):=h! U.out.lt;generalize hB0:w.heap.size=B0 at U HW ⊢;obtain⟨R,u⟩:=e! wa.drew;have BD:=h! (show Blk R B0 _ _ from by rw[u];exact U.out.drew);have XD:=h! (show Ext w R from by rw[u];exact V.out.trans (Ext.drew _));refine r! (Kept (· ≠ B0) R) (by rw[<-u];exact Kept.refl _ _) ?_;rw[<-u];clear u;have f:=h! (fun W (hW:Kept (· ≠ B0) R W)=>show Ext w W from⟨hW.os.trans XD.out.os,hW.tape.trans XD.out.tape,hW.output.trans XD.out.output,n6! XD.out.size hW.size,fun b Y=>(hW.block b (by show b≠B0;omega)).trans (XD.out.block b Y)⟩);have h1:=fun W (h:Kept (· ≠ B0) R W)=>(HB.out.below (f.out W h)).cells;have h2:=fun W (h:Kept (· ≠ B0) R W)=>Ext.cell (f.out W h) CJ.out;have g0:=fun W (h:Kept (· ≠ B0) R W)=>Ext.cell (f.out W h) m0;have g1:=fun W (h:Kept (· ≠ B0) R W)=>Ext.cell (f.out W h) m1;have g2:=fun W (h:Kept (· ≠ B0) R W)=>Ext.cell (f.out W h) m2;have g3:=fun W (h:Kept (· ≠ B0) R W)=>Ext.cell (f.out W h) m3;have g4:=fun W (h:Kept (· ≠ B0) R W)=>Ext.cell (f.out W h) m4;have g5:=fun W (h:Kept (· ≠ B0) R W)=>Ext.cell (f.out W h) m5;have g6:=fun W (h:Kept (· ≠ B0) R W)=>Ext.cell (f.out W h) m6;have g7:=fun W (h:Kept (· ≠ B0) R W)=>Ext.cell (f.out W h) m7;have g8:=fun W (h:Kept (· ≠ B0) R W)=>Ext.cell (f.out W h) m8;have g9:=fun W (h:Kept (· ≠ B0) R W)=>Ext.cell (f.out W h) m9;have ga:=fun W (h:Kept (· ≠ B0) R W)=>Ext.cell (f.out W h) ma;unfold rdC at h1;clear m0 m1 m2 m3 m4 m5 m6 m7 m8 m9 ma;(refine WalkN.tk [0,1,2,3,4,5,6,7,8] ?_;(iterate 9 (refine c! ?_));refine TkN.n ?_)
 clear h1 h2 g0 g1 g2 g3 g4 g5 g6 g7 g8 g9 ga;have a2:=BD.out.cells;have a3:=BD.out.free;refine ob! 9 ?_;intro K hK;go_simp;have a0:=h! (BD.out.put11 (.string z.p.t) (.string z.p.i) (.string z.p.r) (.int .i64 z.r.k) (.string z.r.a) (.string z.r.b) (.slice zo z.r.ps.length Z) (.string z.s.t) (.string z.s.i) (.string z.s.r) (.slice Q un uc));have M:Hid (Below w.heap.size w _):=h! (Below.put11 XD.out (v4! hB0) (.string z.p.t) (.string z.p.i) (.string z.p.r) (.int .i64 z.r.k) (.string z.r.a) (.string z.r.b) (.slice zo z.r.ps.length Z) (.string z.s.t) (.string z.s.i) (.string z.s.r) (.slice Q un uc));have I:=h! ((Kept.refl _ R).put11 (S:=(· ≠ B0)) (B:=B0) (fun h=>h rfl) (.string z.p.t) (.string z.p.i) (.string z.p.r) (.int .i64 z.r.k) (.string z.r.a) (.string z.r.b) (.slice zo z.r.ps.length Z) (.string z.s.t) (.string z.s.i) (.string z.s.r) (.slice Q un uc));refine hK.out _ _ I.out ?_;clear hK a2 a3 I;refine t! 10 ?_
 refine d! ?_;clear F L a4 a5;go_wp2_with fail
 refine bodyPost_ret (v := .tuple #[stV z (.slice zo z.r.ps.length Z,.slice Q un uc),.bool true]) ?_ rfl (By9.mk true z (.slice zo z.r.ps.length Z,.slice Q un uc) rfl (fun _=>G.out) (fun h=>(by cases h)) (a6.out.up M.out) ⟨_,_,_,rfl⟩ M.out);rw[results_cell_tmp rfl];have hl:=run_loadVar_row (P:=prog) _ B0 _ 109 _ _ _ a0.out Tryz.underlying109 rfl (by kernel_rfl);simp[asAddr,hl,Result.andThen];rfl
theorem kE! (rb am b:Nat)(ts:List TyS)(tv:Value)(T:List Tup)(shut:List R2)(sub:P3)(l:List Stp)(lv:Value)(p s:P3)(hp:p.Ok)(hT:T.length<=1000000)(w:World)(h:Rd9At w rb am b ts tv T shut sub l lv) :
  Calls prog 172 #[.pointer (some ⟨rb,0,none⟩),pV p,pV s] w fun e w'=>e= .returned (.bool (decide (s∈ai! T p)))/\Ext w w':=by
 obtain⟨G,f⟩:=e! (w.alloc (.cells #[.string p.t,.string p.i,.string p.r] 32));obtain⟨z,g⟩:=e! (G.alloc (.cells #[.string s.t,.string s.i,.string s.r] 33));have ea:G.heap.size=w.heap.size+1:=by rw[f];simp
 have xa:Ext w G:=xa! f
 have xb:Ext G z:=xa! g
 have XB:=h! (xa.trans xb);have F:=h! (show Blk z w.heap.size #[.string p.t,.string p.i,.string p.r] 32 from Blk.below (bm! f) xb);have A:=h! (show Blk z (w.heap.size+1) #[.string s.t,.string s.i,.string s.r] 33 from by rw[g,<-ea];exact Blk.made _ _ _);have E:=h! (h.box.below XB.out)
 have x:=h! (show(ai! T p).length<=1073741824 from by
  unfold ai!;rw[x1!];exact n6! (x8! _ _) (by omega))
 have u:=h! (fun W (hW:Ext w W)=>di! b T p W hp (h.bk.ext hW) x.out);unfold pV at u;clear h hp hT ea xa xb x;generalize hsl:ai! T p=sl at *;unfold pV;go_enter func172,ntmps172
 go_wp2_with fail
 rw[<-f,<-g];clear f g hsl;generalize w.heap.size+1=sb at *;obtain⟨C,q⟩:∃C,Hid (C=World.drew z):=⟨_,h! rfl⟩;have a:=h! (show Ext z C from xd! q.out);refine re! q.out ?_;have XD:=h! (Ext.trans XB.out a.out);have E:=h! (E.out.below a.out);have F:=h! (F.out.below a.out);have A:=h! (A.out.below a.out);clear q a XB;have h1:=fun W (h:Ext C W)=>(E.out.below h).cells;have h2:=fun W (h:Ext C W)=>(F.out.below h).cells;(refine WalkN.tk [0,1,2,3,4] ?_;(iterate 5 (refine c! ?_));refine TkN.n ?_)
 clear h1 h2;refine ob! 5 ?_;intro K hK;go_simp;refine(u.out C XD.out).mono ?_;rintro e D ⟨v2,rfl,m,o⟩;have HV:=h! m.slU;have v:Hid (Ext C D):=h! o;refine hK.out _ _ o ?_;clear hK o u;obtain⟨ao,n,c,rfl,-,-,-⟩:=m.sl.len;clear m;(refine WalkN.tk [6,7,8,9,10] ?_;(iterate 5 (refine c! ?_));refine TkN.n ?_)
 refine d! ?_;have A:=h! (A.out.below v.out);have E:=h! (E.out.below v.out);have hb:=E.out.cells;have hf:=E.out.free;obtain⟨w3,j⟩:=e! (D.setCell ⟨rb,7,none⟩ (.int .i64 0));have B:=h! (show Ext D w3 from by rw[j];exact(Ext.refl D).sameSet E.out rfl);have k:=h! (bG! _ sl s w3 (HV.out.same (Same.below B.out) |>.mono fun _ h=>n1! h B.out.size));have bs:=(A.out.below B.out).cells;unfold pV at k;rw[j]at bs;clear HV F;go_wp2_with fail
 rw[<-j];clear bs hb hf j;refine k.out.mono ?_;rintro e w4 ⟨rfl,y⟩;have HX:=h! (Ext.trans XD.out (Ext.trans v.out (Ext.trans B.out y)));clear y k;go_wp2_with fail
 go_ret
 exact⟨rfl,HX.out⟩
end Go.Proofs.YtlhaghoajpglaaaGreat
