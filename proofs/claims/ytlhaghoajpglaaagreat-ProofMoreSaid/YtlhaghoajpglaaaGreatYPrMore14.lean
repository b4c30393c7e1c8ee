/- Lemmas for the claim, no condition. -/
import Derived.Test.YtlhaghoajpglaaaGreatYPrMore13
import Derived.Lib.SliceRun
set_option maxRecDepth 100000
set_option maxHeartbeats 4000000
namespace Go.Proofs.YtlhaghoajpglaaaGreat
open Go Go.Maps Go.RowKit Go.Proofs.Tryz
theorem bE! (T:List Tup)(p:P3):∀(l:List RT)(ps:List P3),ps <+: (ap! T p l ps).2
 | [],ps=>List.prefix_refl _
 | r::l,ps=>by rw[ap!];exact(gu! T p r ps).trans (bE! T p l _)
theorem gG! (ts:List TyS)(T:List Tup)(shut:List R2)(p:P3)(n:Nat):(walkN ts T shut p n).1[0]?=some p:=by
 have h:=bn! ts T shut p 0 n (v1! n);rw[walkN]at h;obtain⟨t,ht⟩:=h;rw[<-ht];rfl
theorem kK! (r:RT):r.nms.length<=2*r.sz:=by
 induction r using RT.ind with
 | h r ih =>
  have:∀l:List RT,(∀x∈l,x∈r.ps)->(nmsL l).length<=2*szL l:=by
   intro l;induction l with
   | nil=>intro _;simp[nmsL]
   | cons x l ihl =>
    intro hx;rw[nmsL,szL,u4!];have h1:=ih x (hx x (by simp));have h2:=ihl fun y hy=>hx y (u9! _ hy);omega
  have h:=this r.ps fun _ h=>h;rw[RT.nms_eq,u7!,u7!];obtain⟨k,a,b,ps⟩:=r;rw[RT.sz];simp only[RT.ps]at h ⊢;omega
theorem nV! (r:RT)(h:r.Ok):∀n∈r.nms,n.size<=maxLen:=by
 induction r using RT.ind with
 | h r ih =>
  obtain⟨k,a,b,ps⟩:=r;rw[RT.Ok]at h;intro n hn;rw[RT.nms_eq]at hn;simp only[RT.a,RT.b,RT.ps,v7!]at hn;rcases hn with rfl | rfl | hn
  ·exact n6! h.2.1 (by decide)
  ·exact n6! h.2.2.1 (by decide)
  ·have hp:=gc!.1 h.2.2.2
   have:∀l:List RT,(∀x∈l,x∈ps)->∀n∈nmsL l,n.size<=maxLen:=by
    intro l;induction l with
    | nil=>intro _ n hn;simp[nmsL]at hn
    | cons x l ihl =>
     intro hx n hn;rw[nmsL,u3!]at hn;rcases hn with hn | hn
     ·exact ih x (hx x (by simp)) (hp x (hx x (by simp))) n hn
     ·exact ihl (fun y hy=>hx y (u9! _ hy)) n hn
   exact this ps (fun _ h=>h) n hn
def allN (ts:List TyS):List ByteArray:=(ab! ts).flatMap fun x=>x.2.nms
theorem fL! (ts:List TyS):NmU ts (allN ts):=fun x hx _n hn=>List.mem_flatMap.2 ⟨x,hx,hn⟩
theorem eg! {α β:Type}(f:α->List β)(m:Nat):∀(l:List α),(∀x∈l,(f x).length<=m)->(l.flatMap f).length<=l.length*m
 | [],_=>by simp
 | a::l,h=>by
  rw[y5!,u4!,u7!,Nat.add_mul];have h1:=h a (by simp);have h2:=eg! f m l fun x hx=>h x (u9! _ hx);omega
theorem cy! {ts:List TyS}(h:cc! ts=true):∀x∈ab! ts,x.2.sz<=32:=fun x hx=>by
 obtain⟨t,ht,r,hr,rfl⟩:=aM!.1 hx;unfold cc! at h;rw[v0!,u8!]at h;have h2:=h.2 t ht;unfold bx! at h2;rw[v0!,u8!]at h2;simpa using h2.2 r hr
theorem kF! {ts:List TyS}(h:∀t∈ts,t.Ok):∀x∈ab! ts,x.2.Ok:=fun x hx=>by
 obtain⟨t,ht,r,hr,rfl⟩:=aM!.1 hx;exact((h t ht).2 r hr).2
def objU (T:List Tup)(p:P3):List (ByteArray × ByteArray):=(p.t,p.i)::T.map fun t=>(t.s.t,t.s.i)
def namU (N:List ByteArray)(T:List Tup)(p:P3):List ByteArray:=p.r::(T.map fun t=>t.s.r)++N
theorem okU (T:List Tup)(p:P3)(N:List ByteArray):OkU T (objU T p) (namU N T p) where
 objs t ht:=u9! _ (u6!.2 ⟨t,ht,rfl⟩)
 rels t ht:=by unfold namU;rw[x2!];exact u9! _ (List.mem_append_left _ (u6!.2 ⟨t,ht,rfl⟩))
theorem iJ! {ts:List TyS}(T:List Tup)(shut:List R2)(p:P3) {N:List ByteArray}(hN:NmU ts N)(n:Nat):∀x∈(walkN ts T shut p n).1,InU (objU T p) (namU N T p) x :=
 hv! (okU T p N) (fun x hx m hm=>by unfold namU;rw[x2!];exact u9! _ (List.mem_append_right _ (hN x hx m hm))) shut ⟨by simp[objU],by simp[namU]⟩ n
theorem fk! {ts:List TyS}(T:List Tup)(shut:List R2)(p:P3) {N:List ByteArray}(hN:NmU ts N)(n:Nat):(walkN ts T shut p n).1.length<=(T.length+1)*(T.length+N.length+1):=by
 have h:=nr! (cl! ts T shut p n) (iJ! T shut p hN n);simp only[objU,namU,u7!,u4!,x1!]at h;rwa[show T.length+1+N.length=T.length+N.length+1 by omega]at h
theorem hw! {ts:List TyS}{T:List Tup}(shut:List R2) {p:P3}(hc:cc! ts=true)(hok:∀t∈ts,t.Ok)(hT:T.length<=100)(hTo:∀t∈T,t.Ok)(hp:p.Ok):mp! ts T shut p 2000000 where
 okp n x hx:=by
  have h:=iJ! T shut p (fL! ts) n x hx
  have hN:∀m∈allN ts,m.size<=maxLen:=fun m hm=>by
   obtain⟨y,hy,hm⟩:=List.mem_flatMap.1 hm;exact nV! _ (kF! hok y hy) m hm
  obtain⟨f,b⟩:=h
  have hO:x.t.size<=maxLen/\x.i.size<=maxLen:=by
   rcases v7!.1 f with f | f
   ·have d:=congrArg Prod.fst f;have a:=congrArg Prod.snd f;dsimp only at d a;rw[d,a];exact⟨hp.1,hp.2.1⟩
   ·obtain⟨t,c,e⟩:=u6!.1 f;have g:=(hTo t c).2;have d:=congrArg Prod.fst e;have a:=congrArg Prod.snd e;dsimp only at d a;rw[<-d,<-a];exact⟨g.1,g.2.1⟩
  refine⟨hO.1,hO.2,?_⟩;unfold namU at b;rw[x2!,v7!,u3!]at b;rcases b with b | b | b
  ·rw[b];exact hp.2.2
  ·obtain⟨t,c,e⟩:=u6!.1 b;rw[<-e];exact(hTo t c).2.2.2
  ·exact hN _ b
 few n:=by
  have h:=fk! T shut p (fL! ts) n
  have b:(allN ts).length<=256*64:=by
   have g:=eg! (fun x:R2 × RT=>x.2.nms) 64 (ab! ts) fun x hx=>by have:=kK! x.2;have:=cy! hc x hx;omega
   have h4:=gn! hc;unfold allN;exact n6! g (y7! _ h4)
  have h5:(T.length+1)*(T.length+(allN ts).length+1)<=101*(100+256*64+1):=Nat.mul_le_mul (by omega) (by omega);omega
 room x hx:=by
  have f:=cy! hc x hx;have b:x.2.sz*(T.length+1)<=32*101:=Nat.mul_le_mul f (by omega);omega
 nmax:=by omega
 rok:=kF! hok
 tok t c:=(hTo t c).2
 tlen:=by omega
theorem ok!.nms {own:List ByteArray}(ho:∀n∈own,n∈relNs):∀(d:Nat)(r:RT),ok! own d r->∀n∈r.nms,n=⟨#[]⟩\/n∈relNs:=by
 have c:∀r:RT,ol! own r->∀n∈r.nms,n=⟨#[]⟩\/n∈relNs:=fun r h n hn=>by
  rcases h with rfl | ⟨a,ha,rfl⟩|⟨a,ha,b,hb,rfl⟩ <;> rw[RT.nms_eq]at hn <;> simp only[RT.a,RT.b,RT.ps,nmsL,v7!,List.not_mem_nil,or_false]at hn
  ·rcases hn with rfl | rfl <;> exact .inl rfl
  ·rcases hn with rfl | rfl
   ·exact .inr (ho _ ha)
   ·exact .inl rfl
  ·rcases hn with rfl | rfl
   ·exact .inr (ho _ ha)
   ·exact .inr (List.mem_of_mem_take hb)
 intro d;induction d with
 | zero=>exact fun r h=>c r h
 | succ d ih =>
  intro r h n hn;rcases h with h | ⟨k,ps,rfl,-,-,hp⟩
  ·exact c r h n hn
  ·rw[RT.nms_eq]at hn;simp only[RT.a,RT.b,RT.ps,v7!]at hn;rcases hn with rfl | rfl | hn
   ·exact .inl rfl
   ·exact .inl rfl
   ·have:∀l:List RT,(∀x∈l,x∈ps)->∀n∈nmsL l,n=⟨#[]⟩\/n∈relNs:=by
     intro l;induction l with
     | nil=>intro _ n hn;simp[nmsL]at hn
     | cons x l ihl =>
      intro hx n hn;rw[nmsL,u3!]at hn;rcases hn with hn | hn
      ·exact ih x (hp x (hx x (by simp))).1 n hn
      ·exact ihl (fun y hy=>hx y (u9! _ hy)) n hn
    exact this ps (fun _ h=>h) n hn
def fewN:List ByteArray:=⟨#[]⟩::relNs
theorem GoodS.nms {ts:List TyS}(h:GoodS ts):NmU ts fewN:=fun x hx n hn=>by
 obtain⟨t,ht,r,hr,rfl⟩:=aM!.1 hx;obtain⟨m,-,-,-,hp⟩:=h.2.2 t ht;have ho:∀n∈relNs.take m,n∈relNs:=fun n hn=>List.mem_of_mem_take hn
 have key:n=⟨#[]⟩\/n∈relNs:=by
  rcases hp r hr with h | ⟨r0,h0,-,he⟩
  ·exact ok!.nms ho 2 _ h n hn
  ·dsimp only at hn;rw[he,RT.nms_eq]at hn;simp only[RT.a,RT.b,RT.ps,nmsL,v7!,u3!,List.not_mem_nil,or_false]at hn;rcases hn with rfl | rfl | hn | hn
   ·exact .inl rfl
   ·exact .inl rfl
   ·rw[RT.nms_eq]at hn;simp only[RT.a,RT.b,RT.ps,nmsL,v7!,List.not_mem_nil,or_false]at hn;rcases hn with rfl | rfl <;> exact .inl rfl
   ·exact ok!.nms ho 2 _ h0 n hn
 rcases key with rfl | h
 ·exact y4!
 ·exact u9! _ h
theorem mb! {ts:List TyS}(h:GoodS ts) {T:List Tup}(hT:T.length<=24)(shut:List R2)(p:P3)(n:Nat):(walkN ts T shut p n).1.length<=750:=by
 have h1:=fk! T shut p h.nms n;have h2:(T.length+1)*(T.length+fewN.length+1)<=25*30:=Nat.mul_le_mul (by omega) (by have:fewN.length=5:=rfl;omega);omega
theorem gX! (ts:List TyS)(tv:Value)(tp:Nat)(w:World)(htp:Tp w tp)(ht:ou! (fun b=>b<w.heap.size/\b≠tp) w ts tv)(hok:∀t∈ts,t.Ok)(hn:1<=ts.length/\ts.length<=1000)(hr:∀t∈ts,1<=t.rels.length/\t.rels.length<=1000) :
  Calls prog 127 #[.pointer (some ⟨tp,0,none⟩),.agg #[tv]] w fun e w'=>∃t:Tup,e= .returned (tV t)/\t.Ok/\Tp w' tp/\KT tp w w':=by
 obtain⟨b,a0,c,rfl,a⟩:=ht.row hok hn.1 hr;exact gW! ts.length b a0 c tp w htp a hn
theorem mC! (a b:Tup)(W:World):(binOp BinOp.eql 67 (tV a) (tV b)).run prog W= .ok (.bool (decide (a=b))) W:=by
 obtain⟨⟨a1,a2,a3⟩,⟨a4,a5,a6⟩⟩:=a;obtain⟨⟨b1,b2,b3⟩,⟨b4,b5,b6⟩⟩:=b;unfold tV;dsimp only;go_simp;simp only[bt!];by_cases h1:a1=b1
 ·by_cases h2:a2=b2
  ·by_cases h3:a3=b3
   ·by_cases h4:a4=b4
    ·by_cases h5:a5=b5
     ·by_cases h6:a6=b6 <;> simp[h1,h2,h3,h4,h5,h6]
     ·simp[h1,h2,h3,h4,h5]
    ·simp[h1,h2,h3,h4]
   ·simp[h1,h2,h3]
  ·simp[h1,h2]
 ·simp[h1]
theorem eO! (ts:List TyS)(tv:Value)(most tp:Nat)(w:World)(htp:Tp w tp)(ht:ou! (fun b=>b<w.heap.size/\b≠tp) w ts tv)(hok:∀t∈ts,t.Ok)(hu:aK! ts=true)(hn:1<=ts.length/\ts.length<=1000)(hr:∀t∈ts,1<=t.rels.length/\t.rels.length<=1000)(hm:most<=1000) :
  Calls prog 73 #[.pointer (some ⟨tp,0,none⟩),.agg #[tv],.int .i64 most] w fun e w'=>∃(v:Value) (l:List Tup),e= .returned v/\Sl (fun b=>w.heap.size<=b/\b<w'.heap.size) w' 6 v (tuCs l)/\(∀t∈l,t.Ok/\wrN ts t=0)/\l.length<=most/\Tp w' tp/\KT tp w w':=by
 obtain⟨s,ct,rfl,-,-,-⟩:=ht.rows;have a6:=h! ht;have aj:=h! hok;have HU:=h! hu;have HN:=h! hn;have HR:=h! hr;have HM:=h! hm;have q:=h! htp.lt;obtain⟨wa,C⟩:=e! (w.alloc (.cells #[.slice s ts.length ct] 26));have xa:Ext w wa:=xa! C
 have ag:=h! (show Blk wa w.heap.size #[.slice s ts.length ct] 26 from bm! C);have a3:=h! (htp.ext xa);have ae:=h! (KT.of (tp:=tp) xa);have a4:=h! (af! tp ((most:Int)+1) wa a3.out (by omega) (by omega));have aq:wrap64 ((most:Int)+1)=(most:Int)+1:=aL! _ (by omega) (by omega);have ax:IntKind.i64.wrap ((most:Int)+1)=(most:Int)+1:=IntWalk.i64_in _ (by omega);clear ht hok hu hn hr hm htp xa;subst C;go_enter func73,ntmps73
 go_wp2_with fail
 refine a4.out.mono ?_;rintro e w1 ⟨k,rfl,hk,N,G⟩;have O:=h! N;have M:=h! (KT.trans ae.out G);have ac:=h! (G.blk ag.out (by have:=q.out;omega));have a7:Hid (k<=most):=h! (by omega);clear N G hk aq ax a4 a3 ae ag;go_wp2_with fail
 go_loopw [7,8] (fun ov iv wr=>∃(l:List Tup) (i:Nat),iv= .int .i64 i/\l.length+i<=most/\Own wr (w.heap.size+1) 67 6 ov (tuCs l)/\(∀t∈l,t.Ok/\wrN ts t=0)/\Blk wr w.heap.size #[.slice s ts.length ct] 26/\Tp wr tp/\KT tp w wr) (fun _ iv _=>(intOf iv).toNat)
 case atStart=>exact⟨[],k,rfl,by have:=a7.out;simp;omega,Own.nil _ _ _ _,by simp,ac.out,O.out,M.out⟩
 case round =>
  obtain⟨l,i,rfl,X,U,L,J,ab,ad⟩:=hrel;clear O M ac a7;have d:=h! X;have o:=h! U;have H:=h! L;have HB:=h! J;have HT:=h! ab;have HK:=h! ad;have aw:=J.cells;clear X U L J ab ad;cases i with
  | zero =>
   have h0:¬ ((0:Int)<((0:Nat):Int)):=by omega
   go_wp2_with fail
   go_ret
   exact⟨_,rfl,l,o.out.sl.mono fun b hb=>⟨by have:=hb.1;omega,hb.2⟩,H.out,by have:=d.out;omega,HT.out,HK.out⟩
  | succ i =>
   have h0:(0:Int)<((i+1:Nat):Int):=by omega
   have Z:=h! (gX! ts _ tp wr HT.out ((a6.out.same (KT.same HK.out fun b hb=>hb)).mono fun b hb=>⟨n1! hb.1 HK.out.size,hb.2⟩) aj.out HN.out HR.out);go_wp2_with fail
   refine Z.out.mono ?_;rintro e w2 ⟨t,rfl,E,a9,F⟩;obtain⟨⟨t0,t1,t2⟩,⟨t3,t4,t5⟩⟩:=t;unfold tV;dsimp only;have x3:=Ext.alloc w2 (.cells #[.string t0,.string t1,.string t2,.string t3,.string t4,.string t5] 67);have I:=h! (Blk.made w2 #[.string t0,.string t1,.string t2,.string t3,.string t4,.string t5] 67);have r:=KT.trans F (KT.of x3);have p:=h! (KT.trans HK.out r);have Y:=h! (a9.ext x3);have D:=h! (r.blk HB.out (by have:=q.out;omega));have Q:=h! (Own.keepOwn o.out fun g hg=>r.block g ⟨(o.out.block g hg).2,by have:=(o.out.block g hg).1;have:=q.out;omega⟩);have al:Hid (w.heap.size+1<=w2.heap.size):=h! (n6! HB.out.lt F.size);have ap:=h! E;have HW:=h! (fi! ts _ ⟨⟨t0,t1,t2⟩,⟨t3,t4,t5⟩⟩ _ ((a6.out.same (KT.same p.out fun b hb=>hb)).mono fun b hb=>n1! hb.1 p.out.size) HU.out E);unfold tV at HW;dsimp only at HW;have ai:=I.out.cells;have ao:=D.out.cells;clear E a9 F x3 r Z aw o HB HT HK;generalize hwn:(wrN ts ⟨⟨t0,t1,t2⟩,⟨t3,t4,t5⟩⟩)=wn at *;have ay:=h! hwn;clear hwn;go_wp2_with fail
   refine HW.out.mono ?_;rintro e w4 ⟨rfl,n⟩;have aa:=h! (Y.out.ext n);have a2:=h! (KT.trans p.out (KT.of n));have T:=h! (D.out.below n);have u:=h! (Q.out.below n);have f:=h! (I.out.below n);have ah:=h! (show w.heap.size+1<=w4.heap.size from by have:=al.out;have:=f.out.lt;omega);clear n HW ai ao Y p D Q I;obtain⟨aC,co,rfl,aD,aF,a0⟩:=jv! u.out.sl;have an:=h! a0;clear a0;generalize w2.heap.size=tb at *;go_wp2_with fail
   go_loopw [10,30] (fun av jv wq=>∃(j:Nat) (a:Bool),j<=l.length/\jv= .int .i64 j/\av= .bool a/\(a=false->wn=0)/\Ext w4 wq) (fun _ jv _=>l.length-(intOf jv).toNat)
   case atStart=>exact⟨0,_,by omega,rfl,rfl,fun h=>by simpa using h,Ext.refl _⟩
   case round =>
    obtain⟨j,a,hj,rfl,rfl,R,c⟩:=hrel;have B:=h! R;clear R;have HE:=h! c;by_cases hjt:j<l.length
    ·obtain⟨b,m,am,hb,k0,k1,k2,k3,k4,k5⟩:=an.out j hjt;cases am;have d0:=c.cell (a:=⟨b,m+j*6,none⟩) k0;have d1:=c.cell (a:=⟨b,m+j*6+1,none⟩) k1;have d2:=c.cell (a:=⟨b,m+j*6+2,none⟩) k2;have d3:=c.cell (a:=⟨b,m+j*6+3,none⟩) k3;have d4:=c.cell (a:=⟨b,m+j*6+4,none⟩) k4;have d5:=c.cell (a:=⟨b,m+j*6+5,none⟩) k5;generalize l[j]=y at *;obtain⟨⟨y0,y1,y2⟩,⟨y3,y4,y5⟩⟩:=y;dsimp only at d0 d1 d2 d3 d4 d5;have x1:=Ext.alloc wr (.cells #[.string y0,.string y1,.string y2,.string y3,.string y4,.string y5] 67);have A:Hid (Ext w4 _):=h! (c.trans x1);have aA:=(Blk.made wr #[.string y0,.string y1,.string y2,.string y3,.string y4,.string y5] 67).cells;have aE:=(f.out.below A.out).cells;have V:=fun W=>mC! ⟨⟨t0,t1,t2⟩,⟨t3,t4,t5⟩⟩ ⟨⟨y0,y1,y2⟩,⟨y3,y4,y5⟩⟩ W;unfold tV at V;dsimp only at V;generalize decide ((⟨⟨t0,t1,t2⟩,⟨t3,t4,t5⟩⟩:Tup)=⟨⟨y0,y1,y2⟩,⟨y3,y4,y5⟩⟩)=eq at *;clear k0 k1 k2 k3 k4 k5 c x1;cases a with
     | true =>
      go_wp2_with fail
      go_roundw
      case rel=>exact⟨j+1,_,by omega,by go_num,rfl,fun h=>(by first | exact B.out rfl | cases h),A.out⟩
      case measure=>simp[intOf];omega
     | false =>
      go_wp2_with fail
      go_roundw
      case rel=>exact⟨j+1,_,by omega,by go_num,rfl,fun h=>(by first | exact B.out rfl | cases h),A.out⟩
      case measure=>simp[intOf];omega
    ·obtain rfl:j=l.length:=by omega
     have a8:=h! (aa.out.ext c);have a5:=h! (KT.trans a2.out (KT.of c));have af:=h! (T.out.below c);have a1:=h! (u.out.below c);have az:=(f.out.below c).cells;have ar:=h! (show w.heap.size+1<=wr.heap.size from by have:=ah.out;have:=c.size;omega);have aB:wrap64 (i:Int)=(i:Int):=aL! _ (by omega) (by have:=d.out;have:=HM.out;omega);have ak:IntKind.i64.wrap (i:Int)=(i:Int):=IntWalk.i64_in _ (by have:=d.out;have:=HM.out;omega);clear c HE aa a2 T u;cases a with
     | true =>
      go_wp2_with fail
      go_roundw
      case rel=>exact⟨l,i,by go_num,by have:=d.out;omega,a1.out,H.out,af.out,a8.out,a5.out⟩
      case measure=>simp[intOf]
     | false =>
      go_wp2_with (at_builtin;go_must (refine an! tupT rfl (.tmp 43) (.tmp 45) rfl rfl a1.out rfl rfl (by simp[Value.oneCell']) (by have:=d.out;have:=HM.out;rw[aw!];simp;omega) (by have:=d.out;have:=HM.out;rw[aw!];simp;omega) ar.out ?_;intro v6 w6 hown6 hb6 hgr6;have au:=h! (show Own w6 (w.heap.size+1) 67 6 v6 (tuCs (l++[⟨⟨t0,t1,t2⟩,⟨t3,t4,t5⟩⟩]))from by rw[dr!];exact hown6);have z:=h! hb6;clear hown6 hb6 hgr6))
      go_roundw
      case rel=>exact⟨l++[⟨⟨t0,t1,t2⟩,⟨t3,t4,t5⟩⟩],i,by go_num,by have:=d.out;simp;omega,au.out,fun x hx=>by
       rcases u3!.1 hx with hx | hx
       ·exact H.out x hx
       ·rw[n9!.1 hx];exact⟨ap.out,ay.out.trans (B.out rfl)⟩,af.out.same (Same.below z.out) (by show w.heap.size<w.heap.size+1;omega),a8.out.kept (K:=fun b=>b<w.heap.size+1) (Below.kept z.out fun b hb=>hb) (fun b hb=>by have:=q.out;show b<w.heap.size+1;omega),Kept.trans a5.out (Below.kept z.out fun b (hb:b<w.heap.size/\b≠tp)=>by have:=hb.1;omega)⟩
      case measure=>simp[intOf]
abbrev caseC (tv lv sv:Value) (p s:P3):Array Value:=#[tv,lv,sv,.string p.t,.string p.i,.string p.r,.string s.t,.string s.i,.string s.r]
abbrev p3z:P3:=⟨⟨#[]⟩,⟨#[]⟩,⟨#[]⟩⟩
abbrev KC (tp cb:Nat) (w w':World):Prop:=Kept (fun b=>b<w.heap.size/\b≠tp/\b≠cb) w w'
theorem KC.of {tp cb:Nat}{w w':World}(h:KT tp w w'):KC tp cb w w':=Kept.mono h fun _b hb=>⟨hb.1,hb.2.1⟩
theorem KC.trans {tp cb:Nat}{w w' w'':World}(h:KC tp cb w w')(k:KC tp cb w' w''):KC tp cb w w'':=Kept.trans h (Kept.mono k fun _b hb=>⟨n1! hb.1 h.size,hb.2⟩)
theorem KC.set {tp cb i:Nat}{w w':World}(h:KC tp cb w w')(v:Value):KC tp cb w (w'.setCell ⟨cb,i,none⟩ v):=Kept.set h (a:=⟨cb,i,none⟩) (fun e=>e.2.2 rfl) v
structure og! (w0 W:World)(tp cb lo:Nat)(ts:List TyS)(tv lv sv:Value)(l:List Tup)(shut:List R2)(p s:P3):Prop where
 K:KC tp cb w0 W
 T:Tp W tp
 B:Blk W cb (caseC tv lv sv p s) 37
 Y:ou! (fun b=>lo<=b/\b<W.heap.size/\b≠tp/\b≠cb) W ts tv
 L:Sl (fun b=>lo<=b/\b<W.heap.size/\b≠tp/\b≠cb) W 6 lv (tuCs l)
 V:Sl (fun b=>lo<=b/\b<W.heap.size/\b≠tp/\b≠cb) W 2 sv (shut.flatMap r2C)
theorem og!.step {w0 W W':World}{tp cb lo:Nat}{ts:List TyS}{tv lv sv:Value}{l:List Tup}{shut:List R2}{p s:P3}(h:og! w0 W tp cb lo ts tv lv sv l shut p s)(hk:KT tp W W')(ht:Tp W' tp)(hc:cb≠tp):og! w0 W' tp cb lo ts tv lv sv l shut p s:=by
 have hs:Same (fun b=>lo<=b/\b<W.heap.size/\b≠tp/\b≠cb) W W':=fun b hb=>hk.block b ⟨hb.2.1,hb.2.2.1⟩;have hm:∀b,(lo<=b/\b<W.heap.size/\b≠tp/\b≠cb)->(lo<=b/\b<W'.heap.size/\b≠tp/\b≠cb):=fun b hb=>⟨hb.1,n1! hb.2.1 hk.size,hb.2.2⟩;exact⟨h.K.trans (KC.of hk),ht,hk.blk h.B hc,(h.Y.same hs).mono hm,(h.L.same hs).mono hm,(h.V.same hs).mono hm⟩
theorem og!.keep {w0 W W':World}{tp cb lo:Nat}{ts:List TyS}{tv lv sv lv' sv':Value}{l:List Tup}{shut:List R2}{p s p' s':P3}(h:og! w0 W tp cb lo ts tv lv sv l shut p s)(hk:Kept (fun b=>b≠cb) W W')(hb:Blk W' cb (caseC tv lv' sv' p' s') 37)(ht:Tp W' tp)
  (hl:lv'=lv) (hv:sv'=sv):og! w0 W' tp cb lo ts tv lv' sv' l shut p' s':=by
 subst hl hv;have hs:Same (fun b=>lo<=b/\b<W.heap.size/\b≠tp/\b≠cb) W W':=fun b hb=>hk.block b hb.2.2.2;have hm:∀b,(lo<=b/\b<W.heap.size/\b≠tp/\b≠cb)->(lo<=b/\b<W'.heap.size/\b≠tp/\b≠cb):=fun b hb=>⟨hb.1,n1! hb.2.1 hk.size,hb.2.2⟩;exact⟨Kept.trans h.K (Kept.mono hk fun b hb=>hb.2.2),ht,hb,(h.Y.same hs).mono hm,(h.L.same hs).mono hm,(h.V.same hs).mono hm⟩
theorem jV! (tp:Nat)(w:World)(htp:Tp w tp):Calls prog 18 #[.pointer (some ⟨tp,0,none⟩)] w fun e w'=>∃(ts:List TyS)(tv lv sv:Value)(l:List Tup)(shut:List R2)(p s:P3),
  e= .returned (.agg (caseC tv lv sv p s))/\GoodS ts/\ou! (fun b=>w.heap.size<=b/\b<w'.heap.size) w' ts tv/\Sl (fun b=>w.heap.size<=b/\b<w'.heap.size) w' 6 lv (tuCs l)/\Sl (fun b=>w.heap.size<=b/\b<w'.heap.size) w' 2 sv (shut.flatMap r2C) /\
  (∀t∈l,t.Ok/\wrN ts t=0)/\l.length<=24/\(∀r∈shut,r.Ok)/\shut.length<=1/\p.Ok/\s.Ok/\KT tp w w':=by
 have aX:=h! htp.lt;obtain⟨w1,a7⟩:=e! (w.alloc (.cells (caseC (.slice none 0 0) (.slice none 0 0) (.slice none 0 0) p3z p3z) 37));have x1:Ext w w1:=xa! a7
 have ae:=h! (show Blk w1 w.heap.size (caseC (.slice none 0 0) (.slice none 0 0) (.slice none 0 0) p3z p3z) 37 from bm! a7);have a5:=h! (htp.ext x1);have aI:=h! (fA! tp w1 a5.out);have aM:Hid (KT tp w w1):=h! (KT.of x1);clear htp x1;go_enter func18,ntmps18
 go_wp2_with fail
 try rw[<-a7]
 clear a7;refine aI.out.mono ?_;rintro e w3 ⟨ts,tv,rfl,ax,ac,af,a6⟩;have aW:=h! ax;have m:=h! (GoodS.fine ax);obtain⟨R,ct,rfl,-,-,-⟩:=ac.rows;have x4:=Ext.alloc w3 (.cells (caseC (.slice R ts.length ct) (.slice none 0 0) (.slice none 0 0) p3z p3z) 37);have am:Hid (KT tp w (w3.alloc (.cells (caseC (.slice R ts.length ct) (.slice none 0 0) (.slice none 0 0) p3z p3z) 37))):=h! (KT.trans aM.out (KT.trans a6 (KT.of x4)))
 have C:=h! (show og! w1 (w3.alloc (.cells (caseC (.slice R ts.length ct) (.slice none 0 0) (.slice none 0 0) p3z p3z) 37)) tp w3.heap.size w1.heap.size ts (.slice R ts.length ct) (.slice none 0 0) (.slice none 0 0) [] [] p3z p3z from
  ⟨KC.of (KT.trans a6 (KT.of x4)),af.ext x4,Blk.made _ _ _,((ac.same fun b hb=>x4.block b hb.2).mono fun b hb=>⟨hb.1,n1! hb.2 x4.size,by have:=a5.out.lt;have:=hb.1;omega,by have:=hb.2;omega⟩),Sl.nil _ _ _,Sl.nil _ _ _⟩)
 have c:=h! (show w3.heap.size≠tp/\tp<w1.heap.size/\w1.heap.size<=w3.heap.size/\w.heap.size<w1.heap.size from⟨by have:=af.lt;omega,a5.out.lt,a6.size,ae.out.lt⟩);have aH:=C.out.B.cells;clear ax ac af a6 x4 aI a5;go_wp2_with fail
 obtain⟨w4,aB⟩:=e! (w3.alloc (.cells (caseC (.slice R ts.length ct) (.slice none 0 0) (.slice none 0 0) p3z p3z) 37));try rw[<-aB]at C am aH ⊢
 clear aB aH;generalize w3.heap.size=cb at *;obtain⟨bt,ot,aZ,aS,f⟩:=(C.out.Y.mono (S':=fun b=>b<w4.heap.size/\b≠tp) fun b hb=>⟨hb.2.1,hb.2.2.1⟩).row m.out.ok (by have:=m.out.two;omega) (fun t ht=>by have:=m.out.rels t ht;omega);cases aS;refine(it! ts.length bt ot ct tp w4 C.out.T f (by have:=m.out.two;omega)).mono ?_;rintro e w5 ⟨sv,shut,rfl,ad,Z,X,ab,aw⟩;have O:=h! (C.out.step aw ab c.out.1);have aG:=h! (KT.trans am.out aw);have aD:=h! (And.intro Z X);obtain⟨so,sm,sc,rfl,-⟩:=ad.len;have aO:=O.out.B.cells;have aV:=O.out.B.free;have aj:cb<w4.heap.size:=C.out.B.lt
 have Q:=h! (show og! w1 (w5.setCell ⟨cb,2,none⟩ (.slice so sm sc)) tp cb w1.heap.size ts (.slice (some ⟨bt,ot,none⟩) ts.length ct) (.slice none 0 0) (.slice so sm sc) [] shut p3z p3z from
  ⟨KC.set (O.out.K) _,ab.kept (K:=fun b=>b≠cb) (Kept.set (Kept.refl _ _) (a:=⟨cb,2,none⟩) (fun e=>e rfl) _) (fun b hb=>by have:=c.out;omega),(Blk.set_to (cs':=#[.slice (some ⟨bt,ot,none⟩) ts.length ct,.slice none 0 0,.slice so sm sc,.string ⟨#[]⟩,.string ⟨#[]⟩,.string ⟨#[]⟩,.string ⟨#[]⟩,.string ⟨#[]⟩,.string ⟨#[]⟩]) O.out.B 2 (.slice so sm sc) rfl),
   ((O.out.Y.same fun b hb=>Below.heap_setCell _ _ _ _ hb.2.2.2).mono fun b hb=>⟨hb.1,by simpa using hb.2.1,hb.2.2⟩),Sl.nil _ _ _,
   ((ad.same fun b hb=>Below.heap_setCell _ _ _ _ (by have:=hb.1;show b≠cb;omega)).mono fun b hb=>⟨by have h1:=hb.1;have h2:=C.out.K.size;omega,by simpa using hb.2,by have:=hb.1;have:=c.out;omega,by have:=hb.1;omega⟩)⟩)
 have ag:=h! (show KT tp w (w5.setCell ⟨cb,2,none⟩ (.slice so sm sc))from Kept.set aG.out (a:=⟨cb,2,none⟩) (fun e=>by have:=e.1;have:=c.out;dsimp only at *;omega) _);clear ad Z X ab aw aj C am aG f;go_wp2_with fail
 clear aO aV O;obtain⟨w6,ap⟩:=e! ((w5.setCell ⟨cb,2,none⟩ (.slice so sm sc)));rw[<-ap]at Q ag;try rw[<-ap]
 clear ap;have aP:=Q.out.B.cells;go_wp2_with fail
 clear aP;obtain⟨b1,b2,aT,ak,f⟩:=(Q.out.Y.mono (S':=fun b=>b<w6.heap.size/\b≠tp) fun b hb=>⟨hb.2.1,hb.2.2.1⟩).row m.out.ok (by have:=m.out.two;omega) (fun t ht=>by have:=m.out.rels t ht;omega);cases ak;refine(gY! ts.length bt ot ct tp w6 Q.out.T f (by have:=m.out.two;omega)).mono ?_;rintro e w7 ⟨p,rfl,aF,G,J⟩;unfold pV;have y:=h! (Q.out.step J G c.out.1);have a0:=h! (KT.trans ag.out J);have aR:=h! aF;have au:=y.out.B.cells;have ar:=y.out.B.free
 have N:=h! (show og! w1 (((w7.setCell ⟨cb,3,none⟩ (.string p.t)).setCell ⟨cb,4,none⟩ (.string p.i)).setCell ⟨cb,5,none⟩ (.string p.r)) tp cb w1.heap.size ts (.slice (some ⟨bt,ot,none⟩) ts.length ct) (.slice none 0 0) (.slice so sm sc) [] shut p p3z from
  y.out.keep (W':=(((w7.setCell ⟨cb,3,none⟩ (.string p.t)).setCell ⟨cb,4,none⟩ (.string p.i)).setCell ⟨cb,5,none⟩ (.string p.r))) (Kept.set (Kept.set (Kept.set (Kept.refl _ _) (a:=⟨cb,3,none⟩) (fun e=>e rfl) _) (a:=⟨cb,4,none⟩) (fun e=>e rfl) _) (a:=⟨cb,5,none⟩) (fun e=>e rfl) _) ((Blk.set_to (cs':=#[.slice (some ⟨bt,ot,none⟩) ts.length ct,.slice none 0 0,.slice so sm sc,.string p.t,.string p.i,.string p.r,.string ⟨#[]⟩,.string ⟨#[]⟩,.string ⟨#[]⟩]) (Blk.set_to (cs':=#[.slice (some ⟨bt,ot,none⟩) ts.length ct,.slice none 0 0,.slice so sm sc,.string p.t,.string p.i,.string ⟨#[]⟩,.string ⟨#[]⟩,.string ⟨#[]⟩,.string ⟨#[]⟩]) (Blk.set_to (cs':=#[.slice (some ⟨bt,ot,none⟩) ts.length ct,.slice none 0 0,.slice so sm sc,.string p.t,.string ⟨#[]⟩,.string ⟨#[]⟩,.string ⟨#[]⟩,.string ⟨#[]⟩,.string ⟨#[]⟩]) y.out.B 3 (.string p.t) rfl) 4 (.string p.i) rfl) 5 (.string p.r) rfl)) (G.kept (K:=fun b=>b≠cb) (Kept.set (Kept.set (Kept.set (Kept.refl _ _) (a:=⟨cb,3,none⟩) (fun e=>e rfl) _) (a:=⟨cb,4,none⟩) (fun e=>e rfl) _) (a:=⟨cb,5,none⟩) (fun e=>e rfl) _) (fun b hb=>by have:=c.out;omega)) rfl rfl)
 have aq:=h! (show KT tp w (((w7.setCell ⟨cb,3,none⟩ (.string p.t)).setCell ⟨cb,4,none⟩ (.string p.i)).setCell ⟨cb,5,none⟩ (.string p.r))from Kept.set (Kept.set (Kept.set (a0.out) (a:=⟨cb,3,none⟩) (fun e=>by have:=e.1;have:=c.out;dsimp only at *;omega) _) (a:=⟨cb,4,none⟩) (fun e=>by have:=e.1;have:=c.out;dsimp only at *;omega) _) (a:=⟨cb,5,none⟩) (fun e=>by have:=e.1;have:=c.out;dsimp only at *;omega) _);clear G J aF Q ag a0 f;go_wp2_with fail
 clear au ar y;obtain⟨w8,a8⟩:=e! ((((w7.setCell ⟨cb,3,none⟩ (.string p.t)).setCell ⟨cb,4,none⟩ (.string p.i)).setCell ⟨cb,5,none⟩ (.string p.r)));rw[<-a8]at N aq;try rw[<-a8]
 clear a8;have aN:=N.out.B.cells;go_wp2_with fail
 clear aN;obtain⟨b3,b0,aL,al,f⟩:=(N.out.Y.mono (S':=fun b=>b<w8.heap.size/\b≠tp) fun b hb=>⟨hb.2.1,hb.2.2.1⟩).row m.out.ok (by have:=m.out.two;omega) (fun t ht=>by have:=m.out.rels t ht;omega);cases al;refine(jU! ts.length bt ot ct tp w8 N.out.T f (by have:=m.out.two;omega)).mono ?_;rintro e w9 ⟨s,rfl,aC,G,J⟩;unfold pV;have y:=h! (N.out.step J G c.out.1);have a0:=h! (KT.trans aq.out J);have aY:=h! aC;have au:=y.out.B.cells;have ar:=y.out.B.free
 have d:=h! (show og! w1 (((w9.setCell ⟨cb,6,none⟩ (.string s.t)).setCell ⟨cb,7,none⟩ (.string s.i)).setCell ⟨cb,8,none⟩ (.string s.r)) tp cb w1.heap.size ts (.slice (some ⟨bt,ot,none⟩) ts.length ct) (.slice none 0 0) (.slice so sm sc) [] shut p s from
  y.out.keep (W':=(((w9.setCell ⟨cb,6,none⟩ (.string s.t)).setCell ⟨cb,7,none⟩ (.string s.i)).setCell ⟨cb,8,none⟩ (.string s.r))) (Kept.set (Kept.set (Kept.set (Kept.refl _ _) (a:=⟨cb,6,none⟩) (fun e=>e rfl) _) (a:=⟨cb,7,none⟩) (fun e=>e rfl) _) (a:=⟨cb,8,none⟩) (fun e=>e rfl) _) ((Blk.set_to (cs':=#[.slice (some ⟨bt,ot,none⟩) ts.length ct,.slice none 0 0,.slice so sm sc,.string p.t,.string p.i,.string p.r,.string s.t,.string s.i,.string s.r]) (Blk.set_to (cs':=#[.slice (some ⟨bt,ot,none⟩) ts.length ct,.slice none 0 0,.slice so sm sc,.string p.t,.string p.i,.string p.r,.string s.t,.string s.i,.string ⟨#[]⟩]) (Blk.set_to (cs':=#[.slice (some ⟨bt,ot,none⟩) ts.length ct,.slice none 0 0,.slice so sm sc,.string p.t,.string p.i,.string p.r,.string s.t,.string ⟨#[]⟩,.string ⟨#[]⟩]) y.out.B 6 (.string s.t) rfl) 7 (.string s.i) rfl) 8 (.string s.r) rfl)) (G.kept (K:=fun b=>b≠cb) (Kept.set (Kept.set (Kept.set (Kept.refl _ _) (a:=⟨cb,6,none⟩) (fun e=>e rfl) _) (a:=⟨cb,7,none⟩) (fun e=>e rfl) _) (a:=⟨cb,8,none⟩) (fun e=>e rfl) _) (fun b hb=>by have:=c.out;omega)) rfl rfl)
 have H:=h! (show KT tp w (((w9.setCell ⟨cb,6,none⟩ (.string s.t)).setCell ⟨cb,7,none⟩ (.string s.i)).setCell ⟨cb,8,none⟩ (.string s.r))from Kept.set (Kept.set (Kept.set (a0.out) (a:=⟨cb,6,none⟩) (fun e=>by have:=e.1;have:=c.out;dsimp only at *;omega) _) (a:=⟨cb,7,none⟩) (fun e=>by have:=e.1;have:=c.out;dsimp only at *;omega) _) (a:=⟨cb,8,none⟩) (fun e=>by have:=e.1;have:=c.out;dsimp only at *;omega) _);clear G J aC N aq a0 f;go_wp2_with fail
 clear au ar y;obtain⟨av,M⟩:=e! ((((w9.setCell ⟨cb,6,none⟩ (.string s.t)).setCell ⟨cb,7,none⟩ (.string s.i)).setCell ⟨cb,8,none⟩ (.string s.r)));rw[<-M]at d H;try rw[<-M]
 clear M;have an:=d.out.B.cells;go_wp2_with fail
 clear an;refine(eO! ts _ 24 tp av d.out.T (d.out.Y.mono (S':=fun b=>b<av.heap.size/\b≠tp) fun b hb=>⟨hb.2.1,hb.2.2.1⟩) m.out.ok (dg! m.out.chk) (by have:=m.out.two;omega) (fun t ht=>by have:=m.out.rels t ht;omega) (by omega)).mono ?_;rintro e a4 ⟨lv,l,rfl,ay,az,aE,E,D⟩;have n:=h! (d.out.step D E c.out.1);have a2:=h! (KT.trans H.out D);have aJ:=h! (And.intro az aE);obtain⟨lo,lm,lc,rfl,-⟩:=ay.len;have aQ:=n.out.B.cells;have aU:=n.out.B.free;have U:cb<av.heap.size:=d.out.B.lt
 have o:=h! (show og! w1 (a4.setCell ⟨cb,1,none⟩ (.slice lo lm lc)) tp cb w1.heap.size ts (.slice (some ⟨bt,ot,none⟩) ts.length ct) (.slice lo lm lc) (.slice so sm sc) l shut p s from
  ⟨KC.set (n.out.K) _,E.kept (K:=fun b=>b≠cb) (Kept.set (Kept.refl _ _) (a:=⟨cb,1,none⟩) (fun e=>e rfl) _) (fun b hb=>by have:=c.out;omega),(Blk.set_to (cs':=#[.slice (some ⟨bt,ot,none⟩) ts.length ct,.slice lo lm lc,.slice so sm sc,.string p.t,.string p.i,.string p.r,.string s.t,.string s.i,.string s.r]) n.out.B 1 (.slice lo lm lc) rfl),
   ((n.out.Y.same fun b hb=>Below.heap_setCell _ _ _ _ hb.2.2.2).mono fun b hb=>⟨hb.1,by simpa using hb.2.1,hb.2.2⟩),
   ((ay.same fun b hb=>Below.heap_setCell _ _ _ _ (by have:=hb.1;show b≠cb;omega)).mono fun b hb=>⟨by have h1:=hb.1;have h2:=d.out.K.size;omega,by simpa using hb.2,by have:=hb.1;have:=c.out;omega,by have:=hb.1;omega⟩),
   ((n.out.V.same fun b hb=>Below.heap_setCell _ _ _ _ hb.2.2.2).mono fun b hb=>⟨hb.1,by simpa using hb.2.1,hb.2.2⟩)⟩)
 have a3:=h! (show KT tp w (a4.setCell ⟨cb,1,none⟩ (.slice lo lm lc))from Kept.set a2.out (a:=⟨cb,1,none⟩) (fun e=>by have:=e.1;have:=c.out;dsimp only at *;omega) _);clear ay az aE E D U d H a2;have k:=h! (show Blk (a4.setCell ⟨cb,1,none⟩ (.slice lo lm lc)) w.heap.size (caseC (.slice none 0 0) (.slice none 0 0) (.slice none 0 0) p3z p3z) 37 from o.out.K.blk ae.out ⟨ae.out.lt,by have:=aX.out;omega,by have:=c.out;omega⟩);have I:=o.out.B.cells;obtain⟨u,a1⟩:=e! ((a4.setCell ⟨cb,1,none⟩ (.slice lo lm lc)));rw[<-a1]at o a3 k I;have z:=k.out.cells;have aK:=k.out.free
 have ai:=run_storeCells_cells (P:=prog) w.heap.size 0 [.slice (some ⟨bt,ot,none⟩) ts.length ct,.slice lo lm lc,.slice so sm sc,.string p.t,.string p.i,.string p.r,.string s.t,.string s.i,.string s.r] 0 u (by
  intro j hj;simp only[u7!,v6!]at hj;match j,hj with
  | 0,_=>rw[show 0+0+0=0 from rfl,z 0];rfl
  | 1,_=>rw[show 0+0+1=1 from rfl,z 1];rfl
  | 2,_=>rw[show 0+0+2=2 from rfl,z 2];rfl
  | 3,_=>rw[show 0+0+3=3 from rfl,z 3];rfl
  | 4,_=>rw[show 0+0+4=4 from rfl,z 4];rfl
  | 5,_=>rw[show 0+0+5=5 from rfl,z 5];rfl
  | 6,_=>rw[show 0+0+6=6 from rfl,z 6];rfl
  | 7,_=>rw[show 0+0+7=7 from rfl,z 7];rfl
  | 8,_=>rw[show 0+0+8=8 from rfl,z 8];rfl) (fun j _=>aK _) (by simp[Value.oneCell'])
 simp only[Nat.add_zero]at ai
 have A:(Instr.storeAt 37 (.pointer (some ⟨w.heap.size,0,none⟩)) (.agg #[.slice (some ⟨bt,ot,none⟩) ts.length ct,.slice lo lm lc,.slice so sm sc,.string p.t,.string p.i,.string p.r,.string s.t,.string s.i,.string s.r])).run prog u= .ok () (u.setCells w.heap.size 0 [.slice (some ⟨bt,ot,none⟩) ts.length ct,.slice lo lm lc,.slice so sm sc,.string p.t,.string p.i,.string p.r,.string s.t,.string s.i,.string s.r]):=by
  simp[Instr.storeAt,Instr.sureAddr,storeVar,Value.cells,Tryz.sizeOf37,ai,Result.andThen]
 have aA:u.setCells w.heap.size 0 [.slice (some ⟨bt,ot,none⟩) ts.length ct,.slice lo lm lc,.slice so sm sc,.string p.t,.string p.i,.string p.r,.string s.t,.string s.i,.string s.r]=(((((((((u.setCell ⟨w.heap.size,0,none⟩ (.slice (some ⟨bt,ot,none⟩) ts.length ct)).setCell ⟨w.heap.size,1,none⟩ (.slice lo lm lc)).setCell ⟨w.heap.size,2,none⟩ (.slice so sm sc)).setCell ⟨w.heap.size,3,none⟩ (.string p.t)).setCell ⟨w.heap.size,4,none⟩ (.string p.i)).setCell ⟨w.heap.size,5,none⟩ (.string p.r)).setCell ⟨w.heap.size,6,none⟩ (.string s.t)).setCell ⟨w.heap.size,7,none⟩ (.string s.i)).setCell ⟨w.heap.size,8,none⟩ (.string s.r)):=by simp only[World.setCells,Nat.zero_add,Nat.reduceAdd]
 obtain⟨F,q⟩:=e! (u.setCells w.heap.size 0 [.slice (some ⟨bt,ot,none⟩) ts.length ct,.slice lo lm lc,.slice so sm sc,.string p.t,.string p.i,.string p.r,.string s.t,.string s.i,.string s.r]);have ah:=h! (show Blk F w.heap.size #[.slice (some ⟨bt,ot,none⟩) ts.length ct,.slice lo lm lc,.slice so sm sc,.string p.t,.string p.i,.string p.r,.string s.t,.string s.i,.string s.r] 37 from by rw[q,aA];exact(Blk.set_to (cs':=#[.slice (some ⟨bt,ot,none⟩) ts.length ct,.slice lo lm lc,.slice so sm sc,.string p.t,.string p.i,.string p.r,.string s.t,.string s.i,.string s.r]) (Blk.set_to (cs':=#[.slice (some ⟨bt,ot,none⟩) ts.length ct,.slice lo lm lc,.slice so sm sc,.string p.t,.string p.i,.string p.r,.string s.t,.string s.i,.string ⟨#[]⟩]) (Blk.set_to (cs':=#[.slice (some ⟨bt,ot,none⟩) ts.length ct,.slice lo lm lc,.slice so sm sc,.string p.t,.string p.i,.string p.r,.string s.t,.string ⟨#[]⟩,.string ⟨#[]⟩]) (Blk.set_to (cs':=#[.slice (some ⟨bt,ot,none⟩) ts.length ct,.slice lo lm lc,.slice so sm sc,.string p.t,.string p.i,.string p.r,.string ⟨#[]⟩,.string ⟨#[]⟩,.string ⟨#[]⟩]) (Blk.set_to (cs':=#[.slice (some ⟨bt,ot,none⟩) ts.length ct,.slice lo lm lc,.slice so sm sc,.string p.t,.string p.i,.string ⟨#[]⟩,.string ⟨#[]⟩,.string ⟨#[]⟩,.string ⟨#[]⟩]) (Blk.set_to (cs':=#[.slice (some ⟨bt,ot,none⟩) ts.length ct,.slice lo lm lc,.slice so sm sc,.string p.t,.string ⟨#[]⟩,.string ⟨#[]⟩,.string ⟨#[]⟩,.string ⟨#[]⟩,.string ⟨#[]⟩]) (Blk.set_to (cs':=#[.slice (some ⟨bt,ot,none⟩) ts.length ct,.slice lo lm lc,.slice so sm sc,.string ⟨#[]⟩,.string ⟨#[]⟩,.string ⟨#[]⟩,.string ⟨#[]⟩,.string ⟨#[]⟩,.string ⟨#[]⟩]) (Blk.set_to (cs':=#[.slice (some ⟨bt,ot,none⟩) ts.length ct,.slice lo lm lc,.slice none 0 0,.string ⟨#[]⟩,.string ⟨#[]⟩,.string ⟨#[]⟩,.string ⟨#[]⟩,.string ⟨#[]⟩,.string ⟨#[]⟩]) (Blk.set_to (cs':=#[.slice (some ⟨bt,ot,none⟩) ts.length ct,.slice none 0 0,.slice none 0 0,.string ⟨#[]⟩,.string ⟨#[]⟩,.string ⟨#[]⟩,.string ⟨#[]⟩,.string ⟨#[]⟩,.string ⟨#[]⟩]) k.out 0 (.slice (some ⟨bt,ot,none⟩) ts.length ct) rfl) 1 (.slice lo lm lc) rfl) 2 (.slice so sm sc) rfl) 3 (.string p.t) rfl) 4 (.string p.i) rfl) 5 (.string p.r) rfl) 6 (.string s.t) rfl) 7 (.string s.i) rfl) 8 (.string s.r) rfl));have a9:=h! (show KT tp w F from by rw[q];exact a3.out.setMany (g:=w.heap.size) (fun h=>by have:=h.1;omega) _ _);have ao:=h! (show F.heap.size=u.heap.size from by rw[q];exact(bf! _ _ _ _).2.2.2);have aa:=h! (show ∀b,b≠w.heap.size->F.heap[b]?=u.heap[b]? from fun b hb=>by rw[q];exact bq! _ _ _ _ hb);rw[<-q]at A;clear ai aA q z aK k;rw[a1]at A I;go_wp2_with ((with_reducible refine cO! (x := .pointer (some ⟨w.heap.size,0,none⟩)) (v := .agg #[.slice (some ⟨bt,ot,none⟩) ts.length ct,.slice lo lm lc,.slice so sm sc,.string p.t,.string p.i,.string p.r,.string s.t,.string s.i,.string s.r]) (w':=F) ?hA ?hV ?hR ?hK);(case hA=>rfl);(case hV=>rfl);(case hR=>exact A);clear A I)
 refine bodyPost_ret (results_cell_row rfl _ _ w.heap.size 37 #[.slice (some ⟨bt,ot,none⟩) ts.length ct,.slice lo lm lc,.slice so sm sc,.string p.t,.string p.i,.string p.r,.string s.t,.string s.i,.string s.r] (0,0) _ rfl ah.out Tryz.underlying37 rfl (by kernel_rfl)) rfl ?_;have hm:∀b,(w1.heap.size<=b/\b<u.heap.size/\b≠tp/\b≠cb)->(w.heap.size<=b/\b<F.heap.size):=fun b hb=>by have h1:=hb.1;have h2:=hb.2.1;have h3:=c.out;have h4:=ao.out;omega
 have hs:Same (fun b=>w1.heap.size<=b/\b<u.heap.size/\b≠tp/\b≠cb) u F:=fun b hb=>aa.out b (by have h1:=hb.1;have h3:=c.out;omega);exact⟨ts,_,_,_,l,shut,p,s,rfl,aW.out,(o.out.Y.same hs).mono hm,(o.out.L.same hs).mono hm,(o.out.V.same hs).mono hm,aJ.out.1,aJ.out.2,aD.out.1,aD.out.2,aR.out,aY.out,a9.out⟩
theorem bC! {S:Nat->Prop}{w:World}{ao:Option Addr}{l:List Int}{c:Nat}(h:Sl S w 1 (.slice ao l.length c) (ic l)):∀i (hi:i<l.length),∃b off,ao=some ⟨b,off,none⟩/\S b/\w.cell? ⟨b,off+i,none⟩=some (.int .i64 l[i]):=by
 obtain⟨a0,n',c',hv,h1,h2,h3,h4,h5⟩:=h;cases hv;intro i hi;obtain⟨b,off,rfl,hb,hc⟩:=h5 (fun e=>by have:=congrArg List.length e;rw[ad!]at this;simp only[v6!]at this;omega);exact⟨b,off,rfl,hb,hc i _ (by simp[ic,hi])⟩
theorem hc! (w:World)(ps:List Int)(pv:Value)(g:Nat)(cap:Array Value)(eg:∀args W,(callFunc g args).run prog W= .ok (.enter g args) W)(q:Int->Bool)(hat:Sl (· < w.heap.size) w 1 pv (ic ps))(hf:∀i (hi:i<ps.length) W,Below w.heap.size w W->Calls prog g (#[.int .i64 ps[i]]++cap) W fun e W'=>e= .returned (.bool (q ps[i]))/\Below W.heap.size W W') :
  Calls prog 252 #[pv,.func (.func g) #[] cap] w fun e w'=>∃k:Int,e= .returned (.int .i64 k)/\(0<=k↔ps.any q=true)/\Below w.heap.size w w':=by
 obtain⟨ao,n,c,rfl,hn,a2,a3⟩:=hat.len;rw[ad!,Nat.mul_one]at hn;subst hn;have HC:=h! (bC! hat);have HF:=h! hf;clear hat hf;go_enter func252,ntmps252
 go_wp2_with fail
 go_loopw [5,8] (fun _ ii wr=>∃i:Nat,i<=ps.length/\ii= .int .i64 i/\(∀j (hj:j<ps.length),j<i->q ps[j]=false)/\Below w.heap.size w wr) (fun _ ii _=>ps.length-(intOf ii).toNat)
 case atStart=>exact⟨0,by omega,rfl,fun _ _ h=>absurd h (by omega),Below.refl _ _⟩
 case round =>
  obtain⟨i,hi,rfl,d,a⟩:=hrel;have f:=h! d;clear d;by_cases hlt:i<ps.length
  ·have m:=h! (fun h=>aH! (p:=fun j hj=>q ps[j]=false) f.out hlt h);have l:=h! (fun(h:q ps[i]=true)=>(show ps.any q=true from x5!.2 ⟨_,n5! hlt,h⟩));obtain⟨bb,a0,a1,hb,c0⟩:=HC.out i hlt;cases a1;have d0:=(a.cell (p:=⟨bb,a0+i,none⟩) hb).trans c0;have r:=h! (HF.out i hlt wr a);clear c0 hb;generalize ps[i]=p at *;have t:=h! a;clear a;cases s:q p with
   | true =>
    rw[s]at r;have HT:=h! (l.out s);clear m l s;go_wp2_with fail
    refine r.out.mono ?_;rintro e w5 ⟨rfl,b⟩;have o:=h! (t.out.trans (b.mono t.out.size));clear r b d0;go_wp2_with fail
    go_ret
    exact⟨_,rfl,⟨fun _=>HT.out,fun _=>by omega⟩,o.out⟩
   | false =>
    rw[s]at r;have HN:=h! (m.out s);clear m l s;go_wp2_with fail
    refine r.out.mono ?_;rintro e w5 ⟨rfl,b⟩;have o:=h! (t.out.trans (b.mono t.out.size));clear r b d0;go_wp2_with fail
    go_roundw
    case rel=>exact⟨i+1,by omega,by go_num,HN.out,o.out⟩
    case measure=>simp[intOf];omega
  ·obtain rfl:i=ps.length:=by omega
   have HN:=h! (show ¬ ps.any q=true from fun h=>by
    obtain⟨x,hx,s⟩:=x5!.1 h;obtain⟨j,hj,rfl⟩:=u0! hx;rw[f.out j hj hj]at s;cases s)
   have t:=h! a;clear a;go_wp2_with fail
   go_ret
   exact⟨_,rfl,⟨fun h=>absurd h (by omega),fun h=>absurd h HN.out⟩,t.out⟩
theorem ek! (w:World)(ps:List Int)(pv:Value)(g:Nat)(cap:Array Value)(eg:∀args W,(callFunc g args).run prog W= .ok (.enter g args) W)(q:Int->Bool)(hat:Sl (· < w.heap.size) w 1 pv (ic ps))(hf:∀i (hi:i<ps.length) W,Below w.heap.size w W->Calls prog g (#[.int .i64 ps[i]]++cap) W fun e W'=>e= .returned (.bool (q ps[i]))/\Below W.heap.size W W') :
  Calls prog 254 #[pv,.func (.func g) #[] cap] w fun e w'=>e= .returned (.bool (ps.any q))/\Below w.heap.size w w':=by
 have HI:=h! (hc! w ps pv g cap eg q hat hf);clear hat hf;go_enter func254,ntmps254
 go_wp2_with fail
 refine HI.out.mono ?_;rintro e w2 ⟨k,rfl,hk,hb⟩;have HK:=h! hk;have HB:=h! hb;clear HI hk hb;by_cases h0:0<=k
 ·have HM:=h! (HK.out.1 h0);go_wp2_with fail
  go_ret
  exact⟨by rw[HM.out];simp[],HB.out⟩
 ·have HM:Hid (ps.any q=false):=h! (by cases h:ps.any q with | false=>rfl | true=>exact absurd (HK.out.2 h) h0);go_wp2_with fail
  go_ret
  exact⟨by rw[HM.out];simp[h0],HB.out⟩
theorem he! (w:World)(ps:List FT)(k:Int)(sa:List P3)(sb:List Int)(pv:FV3)(g:Nat)(cap:Array Value)(eg:∀args W,(callFunc g args).run prog W= .ok (.enter g args) W)(q:FT->Bool)(hat:FTAt (· < w.heap.size) w (.mk k sa sb ps) pv)(hf:∀i (hi:i<ps.length) W pvi,Below w.heap.size w W->FTAt (· < W.heap.size) W ps[i] pvi->Calls prog g (#[fV ps[i] pvi]++cap) W fun e W'=>e= .returned (.bool (q ps[i]))/\Below W.heap.size W W') :
  Calls prog 219 #[pv.2.2,.func (.func g) #[] cap] w fun e w'=>∃k:Int,e= .returned (.int .i64 k)/\(0<=k↔ps.any q=true)/\Below w.heap.size w w':=by
 obtain⟨a2,a4,a3⟩:=pv;obtain⟨ao,c,he,a0,a5,b⟩:=hat.rows;dsimp only[FT.ps]at he a0 b ⊢;subst he;have HC:=h! b;have HF:=h! hf;clear hat b hf;go_enter func219,ntmps219
 go_wp2_with fail
 go_loopw [5,8] (fun _ ii wr=>∃i:Nat,i<=ps.length/\ii= .int .i64 i/\(∀j (hj:j<ps.length),j<i->q ps[j]=false)/\Below w.heap.size w wr) (fun _ ii _=>ps.length-(intOf ii).toNat)
 case atStart=>exact⟨0,by omega,rfl,fun _ _ h=>absurd h (by omega),Below.refl _ _⟩
 case round =>
  obtain⟨i,hi,rfl,l,a⟩:=hrel;have m:=h! l;clear l;by_cases hlt:i<ps.length
  ·have r:=h! (fun h=>aH! (p:=fun j hj=>q ps[j]=false) m.out hlt h);have o:=h! (fun(h:q ps[i]=true)=>(show ps.any q=true from x5!.2 ⟨_,n5! hlt,h⟩));obtain⟨v,n,⟨e1,e2,e3⟩,a1,z,c0,c1,c2,c3,d⟩:=HC.out i hlt;cases a1;dsimp only at c1 c2 c3;have d0:=(a.cell (p:=⟨v,n+i*4,none⟩) z).trans c0;have d1:=(a.cell (p:=⟨v,n+i*4+1,none⟩) z).trans c1;have d2:=(a.cell (p:=⟨v,n+i*4+2,none⟩) z).trans c2;have d3:=(a.cell (p:=⟨v,n+i*4+3,none⟩) z).trans c3;have t:=h! (HF.out i hlt wr (e1,e2,e3) a (d.up a));clear c0 c1 c2 c3 d z;unfold fV at t;dsimp only at t;generalize ps[i]=p at *;have y:=h! a;clear a;cases u:q p with
   | true =>
    rw[u]at t;have HT:=h! (o.out u);clear r o u;go_wp2_with fail
    refine t.out.mono ?_;rintro e w5 ⟨rfl,f⟩;have s:=h! (y.out.trans (f.mono y.out.size));clear t f d0 d1 d2 d3;go_wp2_with fail
    go_ret
    exact⟨_,rfl,⟨fun _=>HT.out,fun _=>by omega⟩,s.out⟩
   | false =>
    rw[u]at t;have HN:=h! (r.out u);clear r o u;go_wp2_with fail
    refine t.out.mono ?_;rintro e w5 ⟨rfl,f⟩;have s:=h! (y.out.trans (f.mono y.out.size));clear t f d0 d1 d2 d3;go_wp2_with fail
    go_roundw
    case rel=>exact⟨i+1,by omega,by go_num,HN.out,s.out⟩
    case measure=>simp[intOf];omega
  ·obtain rfl:i=ps.length:=by omega
   have HN:=h! (show ¬ ps.any q=true from fun h=>by
    obtain⟨x,hx,u⟩:=x5!.1 h;obtain⟨j,hj,rfl⟩:=u0! hx;rw[m.out j hj hj]at u;cases u)
   have y:=h! a;clear a;go_wp2_with fail
   go_ret
   exact⟨_,rfl,⟨fun h=>absurd h (by omega),fun h=>absurd h HN.out⟩,y.out⟩
theorem cg! (w:World)(ps:List FT)(k:Int)(sa:List P3)(sb:List Int)(pv:FV3)(g:Nat)(cap:Array Value)(eg:∀args W,(callFunc g args).run prog W= .ok (.enter g args) W)(q:FT->Bool)(hat:FTAt (· < w.heap.size) w (.mk k sa sb ps) pv)(hf:∀i (hi:i<ps.length) W pvi,Below w.heap.size w W->FTAt (· < W.heap.size) W ps[i] pvi->Calls prog g (#[fV ps[i] pvi]++cap) W fun e W'=>e= .returned (.bool (q ps[i]))/\Below W.heap.size W W') :
  Calls prog 257 #[pv.2.2,.func (.func g) #[] cap] w fun e w'=>e= .returned (.bool (ps.any q))/\Below w.heap.size w w':=by
 have HI:=h! (he! w ps k sa sb pv g cap eg q hat hf);clear hat hf;go_enter func257,ntmps257
 go_wp2_with fail
 refine HI.out.mono ?_;rintro e w2 ⟨k,rfl,hk,hb⟩;have HK:=h! hk;have HB:=h! hb;clear HI hk hb;by_cases h0:0<=k
 ·have HM:=h! (HK.out.1 h0);go_wp2_with fail
  go_ret
  exact⟨by rw[HM.out];simp[],HB.out⟩
 ·have HM:Hid (ps.any q=false):=h! (by cases h:ps.any q with | false=>rfl | true=>exact absurd (HK.out.2 h) h0);go_wp2_with fail
  go_ret
  exact⟨by rw[HM.out];simp[h0],HB.out⟩
theorem iH! (v:Value)(l:List P3)(k:P3)(w:World)(h:Sl (· < w.heap.size) w 3 v (pcs l)) :
  Calls prog 268 #[v,pV k] w fun e w'=>(∃i:Int,e= .returned (.int .i64 i)/\(0<=i↔k∈l))/\Below w.heap.size w w':=by
 obtain⟨ao,c,rfl,a1,a2,hc⟩:=Sl.rows au! (by decide) (show Sl (· < w.heap.size) w 3 v (l.flatMap pC)from h);have HC:=h! hc;clear hc h;obtain⟨E,g⟩:=e! (w.alloc (.cells #[.string k.t,.string k.i,.string k.r] 33));have e2:E.heap.size=w.heap.size+1:=by rw[g];simp
 have KB:=h! (show Blk E w.heap.size #[.string k.t,.string k.i,.string k.r] 33 from bm! g);have X2:=h! (show Ext w E from xa! g);unfold pV;go_enter func268,ntmps268
 go_wp2_with fail
 rw[<-g];clear g e2;go_loopw [5,8] (fun _ iv wr=>∃i:Nat,i<=l.length/\iv= .int .i64 i/\(∀j (hj:j<l.length),j<i->l[j]≠k)/\Ext E wr) (fun _ iv _=>l.length-(intOf iv).toNat)
 case atStart=>exact⟨0,v1! _,rfl,(fun _ _ h=>absurd h (Nat.not_lt_zero _)),Ext.refl _⟩
 case round =>
  obtain⟨i,hi,rfl,a,hx⟩:=hrel;have f:=h! a;have B:=h! hx;clear a hx;by_cases hlt:i<l.length
  ·obtain⟨b,z,rfl,hb,y⟩:=HC.out (by omega);have G:=h! (fun W (hW:Ext wr W)=>show ∀(o:Nat) v,(pC l[i])[o]?=some v->W.cell? ⟨b,z+i*3+o,none⟩=some v from fun o v ho=>(X2.out.trans (B.out.trans hW)).cell (y i hlt o v ho));have a0:(i:Int)<(l.length:Int):=by omega
   have m:=h! hlt;have u:=h! (fun(h:l[i]≠k)=>aH! (p:=fun j hj=>l[j]≠k) f.out hlt h);have q:=h! (fun(h:l[i]=k)=>(show k∈l from h▸n5! hlt));generalize l[i]=x at *;clear hlt hb y;go_wp2_with fail
   obtain⟨D,s⟩:=e! (World.drew wr);have C:=h! (show Ext wr D from xd! s);refine re! s ?_;clear s;have h0:∀W,Ext D W->W.cell? ⟨b,z+i*3,none⟩=some (.string x.t):=fun W h=>G.out W (C.out.trans h) 0 _ rfl;have h1:=fun W (h:Ext D W)=>G.out W (C.out.trans h) 1 _ rfl;have h2:=fun W (h:Ext D W)=>G.out W (C.out.trans h) 2 _ rfl;have h3:=fun W (h:Ext D W)=>(KB.out.below (B.out.trans (C.out.trans h))).cells;have h4:=fun W=>mP! k x W;unfold pV at h4;have F:∃bq,Hid (decide (k=x)=bq):=⟨_,h! rfl⟩;obtain⟨bq,F⟩:=F;rw[F.out]at h4;(refine WalkN.tk [0,1,2,3,4,5] ?_;(iterate 6 (refine c! ?_));refine TkN.n ?_)
   refine d! ?_;clear h0 h1 h2 h3 h4 a0;cases bq with
   | true =>
    have HM:=h! (q.out (of_decide_eq_true F.out).symm);have HE:Hid (Below w.heap.size w D):=h! (X2.out.trans (B.out.trans C.out));clear u q F;go_wp2_with fail
    go_ret
    exact⟨⟨_,rfl,⟨fun _=>HM.out,fun _=>by omega⟩⟩,HE.out⟩
   | false =>
    have HN:=h! (u.out fun e=>of_decide_eq_false F.out e.symm);have A:=h! (show wrap64 ((i:Int)+1)=((i+1:Nat):Int)from by have:=m.out;unfold wrap64;omega);clear u q F;go_wp2_with fail
    go_roundw
    case rel=>exact⟨i+1,m.out,by first | rw[A.out] | go_num,HN.out,B.out.trans C.out⟩
    case measure=>have:=m.out;(try rw[A.out]);simp[intOf];omega
  ·obtain rfl:i=l.length:=by omega
   have HN:=h! (show k∉l from fun hk=>by obtain⟨j,hj,e⟩:=u0! hk;exact f.out j hj hj e);have HE:Hid (Below w.heap.size w wr):=h! (X2.out.trans B.out);go_wp2_with fail
   go_ret
   exact⟨⟨_,rfl,⟨fun h=>absurd h (by decide),fun h=>absurd h HN.out⟩⟩,HE.out⟩
theorem bG! (v:Value)(l:List P3)(k:P3)(w:World)(h:Sl (· < w.heap.size) w 3 v (pcs l)) :
  Calls prog 216 #[v,pV k] w fun e w'=>e= .returned (.bool (decide (k∈l)))/\Below w.heap.size w w':=by
 obtain⟨w2,a⟩:=e! (w.alloc (.cells #[.string k.t,.string k.i,.string k.r] 33));have KB:=h! (show Blk w2 w.heap.size #[.string k.t,.string k.i,.string k.r] 33 from bm! a);have X2:=h! (show Ext w w2 from xa! a);have HI:=h! (iH! v l k w2 ((h.same (Same.below X2.out)).mono fun _ h=>n1! h X2.out.size));obtain⟨ao,c,rfl,-⟩:=Sl.rows au! (by decide) (show Sl (· < w.heap.size) w 3 v (l.flatMap pC)from h);clear h;unfold pV at HI ⊢;go_enter func216,ntmps216
 go_wp2_with fail
 rw[<-a];clear a;have hk:=KB.out.cells;go_wp2_with fail
 refine HI.out.mono ?_;rintro e w1 ⟨⟨i,rfl,d⟩,hb⟩;have HB:Hid (Below w.heap.size w w1):=h! (Ext.trans X2.out hb);clear hk hb;by_cases hk:k∈l
 ·have b:=d.2 hk;clear d;go_wp2_with fail
  go_ret
  exact⟨by rw[v2! hk];simp[],HB.out⟩
 ·have b:¬ (0<=i):=fun h=>hk (d.1 h);have hd:decide (0<=i)=false:=v3! b;clear d b;go_wp2_with fail
  go_ret
  exact⟨by rw[v3! hk];rfl,HB.out⟩
def inAt (l:List Bool)(k:Int):Bool:=decide (0<=k)&&l.getD k.toNat false
mutual
def holdF (s:P3)(l:List Bool):FT->Bool
 | .mk k subs refs ps=>if k=1 then decide (s∈subs)||refs.any (inAt l)else if k=2\/k=3 then refs.any (inAt l)else if k=4 then anyF s l ps else if k=5 then allF s l ps else false
def anyF (s:P3)(l:List Bool):List FT->Bool | []=>false | r::rs=>holdF s l r||anyF s l rs
def allF (s:P3)(l:List Bool):List FT->Bool | []=>true | r::rs=>holdF s l r&&allF s l rs
end
theorem jg! (s:P3)(l:List Bool):∀ps,anyF s l ps=ps.any (holdF s l)
 | []=>rfl
 | r::rs=>by rw[anyF,jg! s l rs,List.any_cons]
theorem jj! (s:P3)(l:List Bool):∀ps,allF s l ps=ps.all (holdF s l)
 | []=>rfl
 | r::rs=>by rw[allF,jj! s l rs,List.all_cons]
theorem bD! (s:P3)(l:List Bool)(f:FT):holdF s l f=if f.k=1 then decide (s∈f.subs)||f.refs.any (inAt l)else if f.k=2\/f.k=3 then f.refs.any (inAt l)else if f.k=4 then f.ps.any (holdF s l)else if f.k=5 then f.ps.all (holdF s l)else false:=by
 obtain⟨k,a,b,ps⟩:=f;rw[holdF,jg!,jj!];rfl
theorem iM! (s:P3)(l:List Bool)(k:Int)(subs:List P3)(refs:List Int)(ps:List FT):holdF s l (.mk k subs refs ps)=if k=1 then decide (s∈subs)||refs.any (inAt l)else if k=2\/k=3 then refs.any (inAt l)else if k=4 then ps.any (holdF s l)else if k=5 then ps.all (holdF s l)else false:=by
 rw[holdF,jg!,jj!]
mutual
def FT.named:FT->List Int | .mk _ _ refs ps=>refs++nmdL ps
def nmdL:List FT->List Int | [] => [] | r::rs=>r.named++nmdL rs
end
theorem FT.named_eq (f:FT):f.named=f.refs++nmdL f.ps:=by
 obtain⟨k,a,b,ps⟩:=f;rw[FT.named];rfl
theorem im! {f:FT}{k:Int}(hk:k∈f.named):∀ {l:List FT},f∈l->k∈nmdL l
 | x::l,h=>by
  rw[nmdL,u3!];rcases v7!.1 h with rfl | h
  ·exact .inl hk
  ·exact .inr (im! hk h)
theorem bl!:∀(a b:List FT),nmdL (a++b)=nmdL a++nmdL b
 | [],_=>rfl
 | x::a,b=>by rw[x2!,nmdL,nmdL,bl! a b,y6!]
theorem dS! {l:List FT}{i:Nat}(h:i<l.length):nmdL (l.take (i+1))=nmdL (l.take i)++l[i].named:=by
 rw[n2! h,bl!];simp[nmdL]
theorem hf! (s:P3)(l m:List Bool)(f:FT):(∀k∈f.named,inAt l k=inAt m k)->holdF s l f=holdF s m f:=by
 induction f using FT.ind with
 | h f ih =>
  intro h;rw[FT.named_eq]at h
  have h1:f.refs.any (inAt l)=f.refs.any (inAt m):=by
   rw[Bool.eq_iff_iff,x5!,x5!];constructor
   ·rintro⟨k,b,e⟩;exact⟨k,b,by rw[<-h k (List.mem_append_left _ b)];exact e⟩
   ·rintro⟨k,b,e⟩;exact⟨k,b,by rw[h k (List.mem_append_left _ b)];exact e⟩
  have a:∀p∈f.ps,holdF s l p=holdF s m p:=fun p hp=>ih p hp fun k b=>h k (List.mem_append_right _ (im! b hp))
  have h3:f.ps.any (holdF s l)=f.ps.any (holdF s m):=by
   rw[Bool.eq_iff_iff,x5!,x5!];constructor
   ·rintro⟨k,b,e⟩;exact⟨k,b,by rw[<-a k b];exact e⟩
   ·rintro⟨k,b,e⟩;exact⟨k,b,by rw[a k b];exact e⟩
  have h4:f.ps.all (holdF s l)=f.ps.all (holdF s m):=by
   rw[Bool.eq_iff_iff,u8!,u8!];exact⟨fun e k b=>by rw[<-a k b];exact e k b,fun e k b=>by rw[a k b];exact e k b⟩
  rw[bD!,bD!,h1,h3,h4]
def newS (fs:List FT)(s:P3)(l:List Bool)(i:Nat):Bool:=!l.getD i true&&(match fs[i]? with | some f=>holdF s l f | none=>false)
def inN (fs:List FT)(s:P3)(n:Nat):Nat->List Bool
 | 0=>List.replicate n false
 | r+1=>(List.range n).map fun i=>(inN fs s n r).getD i false||newS fs s (inN fs s n r) i
def outN (fs:List FT)(s:P3)(n:Nat):Nat->List Int
 | 0=>List.replicate n 0
 | r+1=>(List.range n).map fun i=>if newS fs s (inN fs s n r) i=true then((r+1:Nat):Int)else(outN fs s n r).getD i 0
def EndS (fs:List FT)(s:P3)(n r:Nat):Prop:=∀i,i<n->newS fs s (inN fs s n r) i=false
section
variable {fs : List FT} {s : P3} {n : Nat}
theorem aj! (r:Nat):(inN fs s n r).length=n:=by cases r <;> simp[inN]
theorem aA! (r:Nat):(outN fs s n r).length=n:=by cases r <;> simp[outN]
theorem iK! (i:Nat):(inN fs s n 0).getD i false=false:=by
 rw[inN,n8!,List.getElem?_replicate];split <;> rfl
theorem br! {i:Nat}(h:i<n)(r:Nat):(inN fs s n (r+1)).getD i false=((inN fs s n r).getD i false||newS fs s (inN fs s n r) i):=by
 rw[inN,n8!,List.getElem?_map,List.getElem?_range h];rfl
theorem gb! (i:Nat):(outN fs s n 0).getD i 0=0:=by
 rw[outN,n8!,List.getElem?_replicate];split <;> rfl
theorem bY! {i:Nat}(h:i<n)(r:Nat):(outN fs s n (r+1)).getD i 0=if newS fs s (inN fs s n r) i=true then((r+1:Nat):Int)else(outN fs s n r).getD i 0:=by
 rw[outN,n8!,List.getElem?_map,List.getElem?_range h];rfl
theorem fE! {a b:List Bool}(hl:a.length=b.length)(h:∀i,i<a.length->a.getD i false=b.getD i false):a=b:=by
 refine List.ext_getElem hl fun i h1 h2=>?_;have:=h i h1;rwa[n8!,n8!,n4! h1,n4! h2]at this
theorem kU! {a b:List Int}(hl:a.length=b.length)(h:∀i,i<a.length->a.getD i 0=b.getD i 0):a=b:=by
 refine List.ext_getElem hl fun i h1 h2=>?_;have:=h i h1;rwa[n8!,n8!,n4! h1,n4! h2]at this
theorem EndS.inL {r:Nat}(h:EndS fs s n r):∀k,inN fs s n (r+k)=inN fs s n r
 | 0=>rfl
 | k+1=>by
  have ih:=EndS.inL h k;refine fE! (by rw[aj!,aj!]) fun i hi=>?_;rw[aj!]at hi;rw[<-Nat.add_assoc,br! hi,ih,h i hi,Bool.or_false]
theorem EndS.outL {r:Nat}(h:EndS fs s n r):∀k,outN fs s n (r+k)=outN fs s n r
 | 0=>rfl
 | k+1=>by
  have ih:=EndS.outL h k;refine kU! (by rw[aA!,aA!]) fun i hi=>?_;rw[aA!]at hi;rw[<-Nat.add_assoc,bY! hi,ih,h.inL k,h i hi];rfl
theorem EndS.uniq {r r':Nat}(h:EndS fs s n r)(k:EndS fs s n r'):outN fs s n r=outN fs s n r'/\inN fs s n r=inN fs s n r':=by
 rcases Nat.le_total r r' with hl | hl
 ·obtain⟨d,rfl⟩:=Nat.exists_eq_add_of_le hl;exact⟨(h.outL d).symm,(h.inL d).symm⟩
 ·obtain⟨d,rfl⟩:=Nat.exists_eq_add_of_le hl;exact⟨k.outL d,k.inL d⟩
theorem da! (r:Nat) {i:Nat}(h:i<n):0<=(outN fs s n r).getD i 0/\(outN fs s n r).getD i 0<=(r:Int)/\((inN fs s n r).getD i false=true↔0<(outN fs s n r).getD i 0):=by
 induction r with
 | zero=>rw[gb!,iK!];simp
 | succ r ih =>
  rw[bY! h,br! h];by_cases hn:newS fs s (inN fs s n r) i=true
  ·rw[if_pos hn,hn];refine⟨by omega,by omega,⟨fun _=>by omega,fun _=>by simp⟩⟩
  ·have hf:newS fs s (inN fs s n r) i=false:=by simpa using hn
   rw[if_neg hn,hf,Bool.or_false];exact⟨ih.1,by omega,ih.2.2⟩
theorem dT! {l:List Bool}{i:Nat}(h:newS fs s l i=true):l.getD i true=false:=by
 unfold newS at h;simp only[v0!,Bool.not_eq_true']at h;exact h.1
theorem gq! (r:Nat) {i:Nat}(h:i<n)(hi:(inN fs s n r).getD i false=true):(inN fs s n (r+1)).getD i false=true:=by
 rw[br! h,hi,Bool.true_or]
def cntT (l:List Bool):Nat:=(l.filter id).length
theorem kX! (l:List Bool):cntT l<=l.length:=x8! _ _
theorem gv!:∀ {a b:List Bool},a.length=b.length->(∀i,i<a.length->a.getD i false=true->b.getD i false=true)->(∃i,i<a.length/\a.getD i false=false/\b.getD i false=true)->cntT a<cntT b
 | [],[],_,_,h=>by obtain⟨i,hi,_⟩:=h;simp at hi
 | x::a,y::b,hl,hm,h=>by
  have hl':a.length=b.length:=by simpa using hl
  have hm':∀i,i<a.length->a.getD i false=true->b.getD i false=true:=fun i hi e=>by
   have:=hm (i+1) (by simpa using hi) (by simpa using e);simpa using this
  have h0:=hm 0 (by simp);simp only[List.getD_cons_zero]at h0
  have a1:cntT a<=cntT b:=by
   by_cases he:∃i,i<a.length/\a.getD i false=false/\b.getD i false=true
   ·exact Nat.le_of_lt (gv! hl' hm' he)
   ·have:a=b:=fE! hl' fun i hi=>by
     cases d:a.getD i false with
     | true=>exact(hm' i hi d).symm
     | false =>
      cases c:b.getD i false with
      | false=>rfl
      | true=>exact absurd ⟨i,hi,d,c⟩ he
    rw[this];exact n0! _
  obtain⟨i,hi,d,c⟩:=h;cases i with
  | zero =>
   simp only[List.getD_cons_zero]at d c;subst d c;unfold cntT at *;simp only[List.filter_cons,id,if_true,u7!,Bool.false_eq_true,if_false];omega
  | succ i =>
   simp only[List.getD_cons_succ,u7!]at d c hi;have a0:=gv! hl' hm' ⟨i,by omega,d,c⟩;unfold cntT at *;cases x <;> cases y <;> simp only[List.filter_cons,id,if_true,u7!,Bool.false_eq_true,if_false]
   ·exact a0
   ·omega
   ·have:=h0 rfl;cases this
   ·omega
theorem dy! {l:List Bool}{i:Nat}(h:i<l.length):l.getD i true=l.getD i false:=by
 rw[n8!,n8!,n4! h];rfl
theorem nx!:∃r,r<=n/\EndS fs s n r:=by
 refine Classical.byContradiction fun hno=>?_
 have h:∀r,r<=n->∃i,i<n/\newS fs s (inN fs s n r) i=true:=fun r hr=>by
  refine Classical.byContradiction fun h2=>hno ⟨r,hr,fun i d=>?_⟩;cases e:newS fs s (inN fs s n r) i with
  | false=>rfl
  | true=>exact absurd ⟨i,d,e⟩ h2
 have hc:∀r,r<=n+1->r<=cntT (inN fs s n r):=by
  intro r;induction r with
  | zero=>intro _;exact v1! _
  | succ r ih =>
   intro hr;have h1:=ih (by omega);obtain⟨i,d,c⟩:=h r (by omega)
   have:=gv! (a:=inN fs s n r) (b:=inN fs s n (r+1)) (by rw[aj!,aj!]) (fun j hj e=>gq! r (by rwa[aj!]at hj) e)
    ⟨i,by rw[aj!];exact d,by rw[<-dy! (by rw[aj!];exact d)];exact dT! c,by rw[br! d,c,Bool.or_true]⟩
   omega
 have h1:=hc (n+1) (n0! _);have h2:=kX! (inN fs s n (n+1));rw[aj!]at h2;omega
end
noncomputable def aI! (fs:List FT) (s:P3) (n:Nat):List Int:=outN fs s n n
theorem mg! (fs:List FT)(s:P3)(n:Nat):EndS fs s n n:=by
 obtain⟨r,hr,h⟩:=nx! (fs:=fs) (s:=s) (n:=n);obtain⟨d,rfl⟩:=Nat.exists_eq_add_of_le hr;intro i hi;rw[h.inL d];exact h i hi
theorem EndS.solve {fs:List FT}{s:P3}{n r:Nat}(h:EndS fs s n r):outN fs s n r=aI! fs s n:=(h.uniq (mg! fs s n)).1
def boC (l:List Bool):List Value:=l.map .bool
theorem ch! (l:List Bool):(boC l).length=l.length:=by simp[boC]
structure InvR (fs:List FT)(s:P3)(n r:Nat)(F:List Int)(j:Nat)(L:List Bool)(R:List Int):Prop where
 lenL:L.length=n
 lenR:R.length=n
 inn:∀i,i<n->L.getD i false=((inN fs s n r).getD i false||decide ((i:Int)∈F.take j))
 out:∀i,i<n->R.getD i 0=if (i:Int)∈F.take j then((r+1:Nat):Int)else(outN fs s n r).getD i 0
section
variable {fs : List FT} {s : P3} {n r j : Nat} {F : List Int} {L : List Bool} {R : List Int}
theorem InvR.start (fs:List FT)(s:P3)(n r:Nat)(F:List Int):InvR fs s n r F 0 (inN fs s n r) (outN fs s n r) where
 lenL:=aj! r
 lenR:=aA! r
 inn i _:=by simp
 out i _:=by simp
theorem ed! {α:Type}(l:List α)(i j:Nat)(x d:α):(l.set j x).getD i d=if i=j/\j<l.length then x else l.getD i d:=by
 rw[n8!,List.getElem?_set,n8!];by_cases h:j=i
 ·subst h;rw[if_pos rfl];split
  ·next h=>rw[if_pos ⟨rfl,h⟩];rfl
  ·next h=>rw[if_neg fun e=>h e.2,y0! (by omega)]
 ·rw[if_neg h,if_neg fun e=>h e.1.symm]
theorem InvR.step (h:InvR fs s n r F j L R)(hj:j<F.length)(h0:0<=F[j])(hn:F[j]<(n:Int)):InvR fs s n r F (j+1) (L.set F[j].toNat true) (R.set F[j].toNat ((r+1:Nat):Int)):=by
 have b:∀x,x∈F.take (j+1)↔x∈F.take j\/x=F[j]:=fun x=>by rw[n2! hj,u3!,n9!]
 have a:F[j].toNat<n:=by omega
 refine⟨by rw[List.length_set,h.lenL],by rw[List.length_set,h.lenR],fun i hi=>?_,fun i hi=>?_⟩
 ·rw[ed!,h.lenL];by_cases e:i=F[j].toNat
  ·have:(i:Int)∈F.take (j+1):=(b _).2 (.inr (by omega));rw[if_pos ⟨e,a⟩,v2! this,Bool.or_true]
  ·rw[if_neg fun h=>e h.1,h.inn i hi];congr 1
   have:¬ (i:Int)=F[j]:=by omega
   rw[decide_eq_decide,b];simp only[this,or_false]
 ·rw[ed!,h.lenR];by_cases e:i=F[j].toNat
  ·rw[if_pos ⟨e,a⟩,if_pos ((b _).2 (.inr (by omega)))]
  ·rw[if_neg fun h=>e h.1,h.out i hi];have:¬ (i:Int)=F[j]:=by omega
   have e2:(i:Int)∈F.take (j+1)↔(i:Int)∈F.take j:=by rw[b];simp only[this,or_false]
   simp only[e2]
theorem InvR.done (h:InvR fs s n r F F.length L R)(hF:∀i:Nat,i<n->((i:Int)∈F↔newS fs s (inN fs s n r) i=true)):L=inN fs s n (r+1)/\R=outN fs s n (r+1):=by
 constructor
 ·refine fE! (by rw[h.lenL,aj!]) fun i hi=>?_;rw[h.lenL]at hi;rw[h.inn i hi,br! hi,u2!];congr 1
  rw[Bool.eq_iff_iff,u1!];exact hF i hi
 ·refine kU! (by rw[h.lenR,aA!]) fun i hi=>?_;rw[h.lenR]at hi;rw[h.out i hi,bY! hi,u2!];by_cases e:newS fs s (inN fs s n r) i=true
  ·rw[if_pos ((hF i hi).2 e),if_pos e]
  ·rw[if_neg fun hm=>e ((hF i hi).1 hm),if_neg e]
theorem nw! (hF:∀i:Nat,i<n->newS fs s (inN fs s n r) i=false):outN fs s n r=aI! fs s n:=EndS.solve hF
theorem mj! {i:Nat}(hi:i<n)(h:newS fs s (inN fs s n r) i=true):cntT (inN fs s n r)<cntT (inN fs s n (r+1)) :=
 gv! (by rw[aj!,aj!]) (fun j hj e=>gq! r (by rwa[aj!]at hj) e)
  ⟨i,by rw[aj!];exact hi,by rw[<-dy! (by rw[aj!];exact hi)];exact dT! h,by rw[br! hi,h,Bool.or_true]⟩
theorem nA! (fs:List FT)(s:P3)(n r:Nat):cntT (inN fs s n r)<=n:=by
 have:=kX! (inN fs s n r);rwa[aj!]at this
theorem lK! {i:Nat}(hi:i<n)(h:newS fs s (inN fs s n (r+1)) i=true):∃hf:i<fs.length,∃k:Nat,k<n/\newS fs s (inN fs s n r) k=true/\(k:Int)∈fs[i].named:=by
 have a:=dT! h;rw[dy! (by rw[aj!];exact hi),br! hi,Bool.or_eq_false_iff]at a;obtain⟨h1,b⟩:=a;unfold newS at h b;rw[v0!]at h;replace h:=h.2;rw[dy! (by rw[aj!];exact hi),h1,Bool.not_false,Bool.true_and]at b;cases hf:fs[i]? with
 | none=>rw[hf]at h;cases h
 | some f =>
  rw[hf]at h b;dsimp only at h b;obtain⟨a0,a1⟩:=y3!.1 hf;refine⟨a0,?_⟩;rw[a1];refine Classical.byContradiction fun hno=>?_;rw[hf! s _ (inN fs s n r) f fun k hk=>?_,b]at h
  ·cases h
  ·refine Classical.byContradiction fun hd=>hno ?_;unfold inAt at hd;by_cases h0:0<=k
   ·simp only[h0,decide_true,Bool.true_and]at hd;by_cases hkn:k.toNat<n
    ·rw[br! hkn]at hd;refine⟨k.toNat,hkn,?_,by rwa[Int.toNat_of_nonneg h0]⟩;cases hn:newS fs s (inN fs s n r) k.toNat with
     | true=>rfl
     | false=>rw[hn,Bool.or_false]at hd;exact absurd rfl hd
    ·have e:∀q,(inN fs s n q).getD k.toNat false=false:=fun q=>by
      rw[n8!,y0! (by rw[aj!];omega)];rfl
     rw[e,e]at hd;exact absurd rfl hd
   ·simp[h0]at hd
def Wide (fs:List FT)(s:P3)(n r:Nat)(W:List Int):Prop:=∀i:Nat,i<n->newS fs s (inN fs s n r) i=true->(i:Int)∈W
def UsOf (fs:List FT)(n:Nat)(U:List (List Int)):Prop:=∀k:Nat,k<n->∀x:Int,x∈U.getD k []↔∃i:Nat,∃hf:i<fs.length,x=(i:Int)/\i<n/\(k:Int)∈fs[i].named
theorem Wide.next {U:List (List Int)}(hU:UsOf fs n U) {N:List Int}(hF:∀i:Nat,i<n->((i:Int)∈F↔newS fs s (inN fs s n r) i=true))(hN:∀x,x∈N↔∃k∈F,x∈U.getD k.toNat []):Wide fs s n (r+1) N:=fun i hi h=>by
 obtain⟨hf,k,hk,hn,hm⟩:=lK! hi h;exact(hN _).2 ⟨(k:Int),(hF k hk).2 hn,by rw[Int.toNat_natCast];exact(hU k hk _).2 ⟨i,hf,rfl,hi,hm⟩⟩
theorem Wide.fresh {W:List Int}(h:Wide fs s n r W) {i:Nat}(hi:i<n):((i:Int)∈W.filter fun x=>newS fs s (inN fs s n r) x.toNat)↔newS fs s (inN fs s n r) i=true:=by
 rw[List.mem_filter,Int.toNat_natCast];exact⟨fun h=>h.2,fun e=>⟨h i hi e,e⟩⟩
end
end Go.Proofs.YtlhaghoajpglaaaGreat
