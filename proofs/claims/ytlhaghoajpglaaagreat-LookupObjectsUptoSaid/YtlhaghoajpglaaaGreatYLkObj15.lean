/- Lemmas for the claim, no condition. -/
import Derived.WideKeyEntry
import Derived.Test.YtlhaghoajpglaaaGreatYLkObj14
import Derived.WideKeyEntry
set_option maxRecDepth 100000
set_option maxHeartbeats 4000000
namespace Go.Proofs.YtlhaghoajpglaaaGreat
open Go Go.RowKit Go.Proofs.Tryz
theorem mm! (x:Tup):∀u∈tuC x,u.oneCell'=true:=by
 intro u hu;simp only[tuC,v7!,List.not_mem_nil,or_false]at hu;rcases hu with rfl | rfl | rfl | rfl | rfl | rfl <;> rfl
theorem kW! {w:World}{B:Nat}{v:Value}{l:List Tup}(h:Own w B 67 6 v (tuCs l))(hl:l.length<4611686018427387904) :
  Calls prog 137 #[v,.func (.func 78) #[] #[]] w fun e w'=>e= .returned (.tuple #[])/\∃l':List Tup,l'.Perm l/\(l'.Pairwise fun a b=>ltT b a=false)/\Own w' B 67 6 v (tuCs l')/\Kept (fun b=>b<w.heap.size/\v.ownBlock≠some b) w w':=by
 refine Calls.mono (fS! Tryz.sortT tuC 6 at! (by decide) mm! Tryz.isAgg67 Tryz.sizeOf67 cmpC swoC 78 #[] (enters_of func78 (by kernel_rfl) rfl) (fun W x y=>kp! x y W) h hl) ?_;rintro e w' ⟨rfl,l',hp,hs,ho,hk⟩;exact⟨rfl,l',hp,hs.imp fun {a b} h=>by rw[<-fy!];exact h,ho,hk⟩
theorem hH! (w:World)(Bs:Nat)(ao:Option Addr)(cap:Nat)(zs:List Tup)(hl:zs.length<=137438953472)(hBs:Bs<w.heap.size)(hc:w.cell? ⟨Bs,0,none⟩=some (.slice ao zs.length cap))(hS:Sl (· < w.heap.size) w 6 (.slice ao zs.length cap) (zs.flatMap tuC)) :
  Calls prog 76 #[.func (.func 138) #[] #[.pointer (some ⟨Bs,0,none⟩)],.func (.func 78) #[] #[]] w fun e w'=>∃(v':Value) (l:List Tup),e= .returned v'/\l.Perm zs/\(l.Pairwise fun a b=>ltT b a=false)/\Own w' w.heap.size 67 6 v' (tuCs l)/\Ext w w':=by
 have HP:=h! (gu! w Bs ao cap zs hl hBs hc hS);clear hS hc;go_enter func76,ntmps76
 go_wp2_with fail
 refine HP.out.mono ?_;rintro e w1 ⟨v,rfl,ho,hb⟩;have a0:=h! (kW! ho (by omega));go_wp2_with fail
 refine a0.out.mono ?_;rintro e w2 ⟨rfl,l',a1,hu,a2,a3⟩;go_wp2
 go_ret
 exact⟨v,l',rfl,a1,hu,a2,Below.trans (show Below w.heap.size w w1 from hb) (Kept.below (B:=w.heap.size) a3 fun b hb'=>⟨n1! hb' hb.size,fun e=>by have:=(ho.block b e).1;omega⟩)⟩
def ddN (l:List Tup):Nat->List Tup
 | 0 => []
 | m+1=>ddN l m++(if m=0\/l[m]?≠l[m-1]? then l[m]?.toList else [])
def dd (l:List Tup):List Tup:=ddN l l.length
theorem mI! (l:List Tup)(x:Tup):∀m,x∈ddN l m↔∃j,j<m/\l[j]?=some x:=by
 intro m;induction m with
 | zero=>simp[ddN]
 | succ m ih =>
  rw[ddN,u3!,ih];constructor
  ·rintro(⟨j,hj,h⟩ | h)
   ·exact⟨j,by omega,h⟩
   ·split at h
    ·exact⟨m,Nat.lt_succ_self m,by simpa using h⟩
    ·cases h
  ·rintro⟨j,hj,h⟩;by_cases hjm:j<m
   ·exact .inl ⟨j,hjm,h⟩
   ·obtain rfl:j=m:=by omega
    by_cases hc:j=0\/l[j]?≠l[j-1]?
    ·rw[if_pos hc];exact .inr (by simp[h])
    ·left
     have h0:j≠0:=fun e=>hc (.inl e);have h1:l[j]?=l[j-1]?:=Classical.byContradiction fun e=>hc (.inr e);exact⟨j-1,by omega,by rw[<-h1];exact h⟩
theorem nZ! (l:List Tup)(x:Tup):x∈dd l↔x∈l:=by
 unfold dd;rw[mI!,List.mem_iff_getElem?];constructor
 ·rintro⟨j,_,h⟩;exact⟨j,h⟩
 ·rintro⟨j,h⟩;exact⟨j,(y3!.1 h).1,h⟩
theorem pk! (l:List Tup)(hs:l.Pairwise fun a b=>ltT b a=false):∀m,m<=l.length->UpT (ddN l m)
 | 0,_=>List.Pairwise.nil
 | m+1,hm=>by
  have ih:=pk! l hs m (by omega);rw[ddN];split
  ·next hc =>
   have hlm:l[m]?=some l[m]:=n4! (by omega);rw[hlm];unfold UpT;rw[List.pairwise_append];refine⟨ih,by simp,fun x hx y hy=>?_⟩;obtain rfl:y=l[m]:=by simpa using hy
   obtain⟨j,hj,a1⟩:=(mI! l x m).1 hx;obtain⟨d,rfl⟩:=y3!.1 a1;have hp:=fun(a b:Nat) (ha:a<l.length) (hb:b<l.length) (hab:a<b)=>x3!.1 hs a b ha hb hab;have h1:=hp j m d (by omega) hj;cases h2:ltT l[j] l[m] with
   | true=>rfl
   | false =>
    exfalso
    have c:l[j]=l[m]:=Classical.byContradiction fun e=>by
     have:=dn! h2 e;rw[this]at h1;cases h1
    have a0:m≠0:=by omega
    rcases hc with hc | hc
    ·exact a0 hc
    ·apply hc;have a2:l[m-1]?=some (l[m-1]'(by omega)):=n4! _;rw[hlm,a2];congr 1
     by_cases hj1:j=m-1
     ·subst hj1;exact c.symm
     ·have h3:=hp j (m-1) d (by omega) (by omega);have h4:=hp (m-1) m (by omega) (by omega) (by omega);refine Classical.byContradiction fun e=>?_
      have h5:ltT (l[m-1]'(by omega)) l[j]=true:=by
       have h6:ltT l[j] (l[m-1]'(by omega))=false:=by rw[c];exact h4
       exact dn! h6 (fun e2=>e (by rw[<-c,e2]))
      rw[h5]at h3;cases h3
  ·simpa using ih
theorem dd_up {l:List Tup}(hs:l.Pairwise fun a b=>ltT b a=false):UpT (dd l):=pk! l hs _ (n0! _)
theorem eS! (l:List Tup):∀m,m<=l.length->(∀j,0<j->j<m->l[j]?≠l[j-1]?)->ddN l m=l.take m
 | 0,_,_=>by simp[ddN]
 | m+1,hm,h=>by
  rw[ddN,eS! l m (by omega) fun j h0 h1=>h j h0 (by omega),List.take_add_one];congr 1
  rw[if_pos];by_cases h0:m=0
  ·exact .inl h0
  ·exact .inr (h m (by omega) (by omega))
theorem oA! {l s:List Tup}(hp:s.Perm l)(hs:s.Pairwise fun a b=>ltT b a=false):SetT l ((dd s).filter fun t=>chkT t) :=
 ⟨(dd_up hs).filter _,fun t=>by rw[List.mem_filter,nZ!,hp.mem_iff]⟩
theorem Own.setAtT {w:World}{B:Nat}{e:TypeId}{sz:Nat}{g n c:Nat}{xs:List Value}(h:Own w B e sz (.slice (some ⟨g,0,none⟩) n c) xs)(i:Nat)(u:Value):Own (w.setCell ⟨g,i,none⟩ u) B e sz (.slice (some ⟨g,0,none⟩) n c) (xs.set i u):=by
 obtain⟨m,h⟩:=h;rcases h.2 with⟨hv,rfl⟩|⟨g',cap,cur,hv,hbg,hg,hnc,hcm,hcs,htake⟩
 ·cases hv
 ·cases hv;refine⟨n,by rw[List.length_set];exact h.1,.inr ⟨g,c,cur.setIfInBounds i u,rfl,hbg,heap_setCell_same w g i cur e u hg,hnc,hcm,by simpa using hcs,?_⟩⟩;rw[Array.toList_setIfInBounds,<-htake,List.take_set]
def setL (xs:List Value):Nat->List Value->List Value
 | _,[]=>xs
 | o,v::r=>setL (xs.set o v) (o+1) r
theorem ez!:∀(vs:List Value)(xs:List Value)(o m:Nat),m<=o->(setL xs o vs).take m=xs.take m
 | [],_,_,_,_=>rfl
 | v::r,xs,o,m,h=>by
  rw[setL,ez! r (xs.set o v) (o+1) m (by omega),List.take_set_of_le h]
theorem Own.setMany {B:Nat}{e:TypeId}{sz:Nat}{g n c:Nat}:∀(vs:List Value) {w:World}{xs:List Value}(o:Nat),Own w B e sz (.slice (some ⟨g,0,none⟩) n c) xs->Own (w.setCells g o vs) B e sz (.slice (some ⟨g,0,none⟩) n c) (setL xs o vs)
 | [],_,_,_,h=>h
 | v::r,w,xs,o,h=>by
  rw[World.setCells,setL];exact Own.setMany r (o+1) (h.setAtT o v)
theorem cp! (g:Nat):∀(vs:List Value)(w:World)(o:Nat) {x:Nat},x≠g->(w.setCells g o vs).heap[x]?=w.heap[x]?
 | [],_,_,_,_=>rfl
 | v::r,w,o,x,h=>by
  rw[World.setCells,cp! g r _ _ h,Below.heap_setCell _ _ _ x h]
theorem bT! (g:Nat):∀(vs:List Value)(w:World)(o:Nat),(w.setCells g o vs).os=w.os/\(w.setCells g o vs).tape=w.tape/\(w.setCells g o vs).output=w.output/\(w.setCells g o vs).heap.size=w.heap.size
 | [],_,_=>⟨rfl,rfl,rfl,rfl⟩
 | v::r,w,o=>by
  obtain⟨h1,h2,h3,h4⟩:=bT! g r (w.setCell ⟨g,o,none⟩ v) (o+1);rw[World.setCells];exact⟨h1,h2,h3,by rw[h4];simp⟩
theorem Own.cutT {w:World}{B:Nat}{e:TypeId}{sz:Nat}{g n c:Nat}{xs:List Value}(h:Own w B e sz (.slice (some ⟨g,0,none⟩) n c) xs) {k:Nat}(hk:k<=n):Own w B e sz (.slice (some ⟨g,0,none⟩) k c) (xs.take (k*sz)):=by
 obtain⟨m,h⟩:=h;rcases h.2 with⟨hv,rfl⟩|⟨g',cap,cur,hv,hbg,hg,hnc,hcm,hcs,htake⟩
 ·cases hv
 ·cases hv;have hl:=h.1;have a0:k*sz<=n*sz:=y7! _ hk;refine⟨k,by rw[x4!];omega,.inr ⟨g,c,cur,rfl,hbg,hg,by omega,hcm,hcs,?_⟩⟩;rw[<-htake,List.take_take,Nat.min_eq_left a0]
theorem di! (l:List Tup)(k:Nat):(tuCs l).take (k*6)=tuCs (l.take k):=by
 induction l generalizing k with
 | nil=>simp[tuCs]
 | cons x l ih =>
  cases k with
  | zero=>simp[tuCs]
  | succ k =>
   have:tuCs (x::l)=tuC x++tuCs l:=by simp[tuCs]
   rw[this,show(k+1)*6=(tuC x).length+k*6 by rw[at!];omega,List.take_length_add_append,ih,List.take_succ_cons];simp[tuCs]
theorem mY! (l:List Tup)(k:Nat)(x:Tup)(hk:k<l.length):((((((tuCs l).set (k*6) (.string x.o.t)).set (k*6+1) (.string x.o.i)).set (k*6+2) (.string x.o.r)).set (k*6+3) (.string x.s.t)).set (k*6+4) (.string x.s.i)).set (k*6+5) (.string x.s.r)=tuCs (l.set k x):=by
 induction l generalizing k with
 | nil=>simp at hk
 | cons y l ih =>
  have e:∀(z:Tup) (m:List Tup),tuCs (z::m)= .string z.o.t :: .string z.o.i :: .string z.o.r :: .string z.s.t :: .string z.s.i :: .string z.s.r::tuCs m:=fun z m=>by simp[tuCs,tuC]
  cases k with
  | zero=>rw[List.set_cons_zero,e,e];rfl
  | succ k =>
   rw[List.set_cons_succ,e,e,<-ih k (by simpa using hk)];have h1:(k+1)*6=k*6+6:=by omega
   rw[h1];simp only[show ∀a,k*6+6+a=k*6+a+6 from fun a=>by omega,List.set_cons_succ]
theorem Own.setTup {w:World}{B:Nat}{g n c:Nat}{l:List Tup}(h:Own w B 67 6 (.slice (some ⟨g,0,none⟩) n c) (tuCs l))(k:Nat)(x:Tup)(hk:k<l.length):Own ((((((w.setCell ⟨g,k*6,none⟩ (.string x.o.t)).setCell ⟨g,k*6+1,none⟩ (.string x.o.i)).setCell ⟨g,k*6+2,none⟩ (.string x.o.r)).setCell ⟨g,k*6+3,none⟩ (.string x.s.t)).setCell ⟨g,k*6+4,none⟩ (.string x.s.i)).setCell ⟨g,k*6+5,none⟩ (.string x.s.r)) B 67 6 (.slice (some ⟨g,0,none⟩) n c) (tuCs (l.set k x)):=by
 rw[<-mY! l k x hk];exact(((((h.setAtT _ _).setAtT _ _).setAtT _ _).setAtT _ _).setAtT _ _).setAtT _ _
theorem Own.tupAt {w:World}{B:Nat}{g n c:Nat}{l:List Tup}(h:Own w B 67 6 (.slice (some ⟨g,0,none⟩) n c) (tuCs l))(k:Nat)(hk:k<l.length):w.cell? ⟨g,k*6,none⟩=some (.string l[k].o.t)/\w.cell? ⟨g,k*6+1,none⟩=some (.string l[k].o.i)/\w.cell? ⟨g,k*6+2,none⟩=some (.string l[k].o.r)/\w.cell? ⟨g,k*6+3,none⟩=some (.string l[k].s.t)/\w.cell? ⟨g,k*6+4,none⟩=some (.string l[k].s.i)/\w.cell? ⟨g,k*6+5,none⟩=some (.string l[k].s.r):=by
 obtain⟨ao,c',he,-,-,a⟩:=Sl.rows at! (by decide) (show Sl _ w 6 _ (l.flatMap tuC)from h.sl);cases he;obtain⟨b,a1,a0,-,a⟩:=a (by omega);cases a0;have d:=a k hk;refine⟨?_,?_,?_,?_,?_,?_⟩
 ·have:=d 0 _ rfl;simpa using this
 ·have:=d 1 _ rfl;simpa using this
 ·have:=d 2 _ rfl;simpa using this
 ·have:=d 3 _ rfl;simpa using this
 ·have:=d 4 _ rfl;simpa using this
 ·have:=d 5 _ rfl;simpa using this
theorem pI! {w:World}{B:Nat}{g n c:Nat}{R:List Tup}(h:Own w B 67 6 (.slice (some ⟨g,0,none⟩) n c) (tuCs R))(hn:n=R.length)(q:Nat)(hq:q<n)(ty:TypeId)(c':Nat) :
  ∃vs,(Builtin.clear_ #[27] ty #[.slice (some ⟨g,q*6,none⟩) (n-q) c']).run prog w= .ok (.tuple #[]) (w.setCells g (q*6) vs):=by
 obtain⟨a2,b⟩:=h.typed (g:=g) rfl;have a0:=Blk.free (show Blk w g a2 67 from b);obtain⟨N,ho⟩:=h;have a:=ho.cells (g:=g) rfl;have hz:=Tryz.zeroValue67;refine⟨(Builtin.zeroCells (Value.agg #[.string ⟨#[]⟩,.string ⟨#[]⟩,.string ⟨#[]⟩,.string ⟨#[]⟩,.string ⟨#[]⟩,.string ⟨#[]⟩]).cells (n-q)).toList,?_⟩
 have d:(Builtin.zeroCells (Value.agg #[.string ⟨#[]⟩,.string ⟨#[]⟩,.string ⟨#[]⟩,.string ⟨#[]⟩,.string ⟨#[]⟩,.string ⟨#[]⟩]).cells (n-q)).toList.length=(n-q)*6:=by
  simp[Builtin.zeroCells,Value.cells]
 have e:=run_storeCells_cells (P:=prog) g (q*6) (Builtin.zeroCells (Value.agg #[.string ⟨#[]⟩,.string ⟨#[]⟩,.string ⟨#[]⟩,.string ⟨#[]⟩,.string ⟨#[]⟩,.string ⟨#[]⟩]).cells (n-q)).toList 0 w
  (fun j hj=>by
   rw[d]at hj;have a1:q*6+j<(tuCs R).length:=by rw[ag!];omega
   have:=a (q*6+j) _ (n4! a1);rw[Addr.add_lit,Nat.zero_add]at this;simp only[Nat.add_zero];rw[this];rfl)
  (fun j hj=>a0 _)
  (by
   intro v hv;simp only[Builtin.zeroCells,Value.cells,Array.toList_map,Array.toList_range,u6!,List.mem_range]at hv;obtain⟨i,hi,rfl⟩:=hv;have:i % 6<6:=Nat.mod_lt _ (by decide);match i % 6,this with
   | 0,_=>rfl
   | 1,_=>rfl
   | 2,_=>rfl
   | 3,_=>rfl
   | 4,_=>rfl
   | 5,_=>rfl)
 simp only[Nat.add_zero]at e;obtain⟨m,hm⟩:∃m,n-q=m+1:=⟨n-q-1,by omega⟩;rw[hm]at e ⊢;simp[Builtin.clear_,run_underlying Tryz.underlying27,hz,e]
theorem fN! {P:Program}{ops:Array Oper}{Q:Exit->Act->World->Prop}{rest:List Oper}{a:Act}{w w':World}{t ty:TypeId}{i j:Nat}{pos}{af}{x v:Value}(hA:a.eval (.tmp i)=x)(hV:a.eval (.tmp j)=v)(hrun:(Instr.storeAt t x v).run P w= .ok () w')(K:wpList P ops Q rest a w'):wpList P ops Q (⟨none,Op.store t (.tmp i) (.tmp j),ty,pos,af,none⟩::rest) a w :=
 wpList_plain rfl fun K' hK'=>by
  unfold Oper.wp;simp[execOp,hA,hV,hrun,Result.andThen];exact hK' _ _ K
theorem Kept.setMany {K:Nat->Prop}{w w':World}(h:Kept K w w') {g:Nat}(hg:¬ K g)(o:Nat)(vs:List Value):Kept K w (w'.setCells g o vs):=by
 obtain⟨h1,h2,h3,h4⟩:=bT! g vs w' o;exact h.trans ⟨h1,h2,h3,v4! h4.symm,fun b hb=>cp! g vs w' o fun e=>hg (e▸hb)⟩
theorem bV! {P:Program}{ops:Array Oper}{Q:Exit->Act->World->Prop}{rest:List Oper}{a:Act}{w w':World}{t ty:TypeId}{i:Nat}{pos}{af}{v r:Value}(hV:a.eval (.tmp i)=v)(hrun:(Builtin.clear_ #[t] ty #[v]).run P w= .ok r w')(K:wpList P ops Q rest (a.put none r) w'):wpList P ops Q (⟨none,Op.call {callee:=Callee.builtin Builtin.clear,args:=#[.tmp i],argTypes:=#[t]},ty,pos,af,none⟩::rest) a w :=
 wpList_plain rfl fun K' hK'=>by
  unfold Oper.wp;simp[execOp,resolve,invoke,builtin,hV,hrun,Result.andThen];exact hK' _ _ K
theorem nY! {l:List Tup}(h:l.length<2):dd l=l:=by
 unfold dd;rw[eS! l _ (n0! _) fun j h0 h1=>by omega,u2!]
theorem gr! {B:Nat}(v:Value)(l:List Tup)(w:World)(h:Own w B 67 6 v (tuCs l))(hl:l.length<=1099511627776) :
  Calls prog 79 #[v] w fun e w'=>∃v',e= .returned v'/\Own w' B 67 6 v' (tuCs (dd l))/\Kept (fun b=>b<w.heap.size/\v.ownBlock≠some b) w w':=by
 obtain⟨ao,n,c,rfl,hn,ap,ar⟩:=h.sl.len;obtain rfl:n=l.length:=by rw[ag!]at hn;omega
 have HL:=h! hl;have HO:=h! h;have aa:=h.shape;clear h hn;by_cases hlt:l.length<2
 ·have HD:=h! (nY! hlt);have hi:(l.length:Int)<2:=by omega
  go_enter func79,ntmps79
  go_wp2_with fail
  go_ret
  exact⟨_,rfl,by rw[HD.out];exact HO.out,Kept.refl _ _⟩
 have hi:¬ ((l.length:Int)<2):=by omega
 obtain⟨g,rfl⟩:∃g,ao=some ⟨g,0,none⟩:=by
  rcases aa with⟨h,_⟩|⟨g,n,c,h⟩
  ·injection h with _ h _
   omega
  ·exact⟨g,by injection h⟩
 clear aa;have H2:Hid (2<=l.length):=h! (by omega);go_enter func79,ntmps79
 go_wp2_with fail
 clear hi hlt;go_loopw [3] (fun kv wr=>∃m:Nat,kv= .int .i64 ((m+1:Nat):Int)/\m+1<=l.length/\(∀j,0<j->j<m+1->l[j]?≠l[j-1]?)/\Own wr B 67 6 (.slice (some ⟨g,0,none⟩) l.length c) (tuCs l)/\Kept (fun b=>b<w.heap.size/\(Value.slice (some ⟨g,0,none⟩) l.length c).ownBlock≠some b) w wr) (fun kv _=>l.length-(intOf kv).toNat)
 case atStart=>exact⟨0,rfl,by have:=H2.out;omega,(fun j h0 h1=>by omega),HO.out,Kept.refl _ _⟩
 case round =>
  obtain⟨m,rfl,hm,a1,ho,hk⟩:=hrel;have RO:=h! ho;have RK:=h! hk;have RN:=h! a1;have au:=HL.out;clear HO ho hk a1;by_cases hlt:m+1<l.length
  ·have Y:=h! hlt;have t:m<l.length:=by omega
   have Z:=h! (show l[m+1]≠l[m]->∀j,0<j->j<m+2->l[j]?≠l[j-1]? from fun he j h0 h1=>by
    by_cases hj:j<m+1
    ·exact RN.out j h0 hj
    ·obtain rfl:j=m+1:=by omega
     rw[Nat.add_sub_cancel,n4! hlt,n4! t];exact fun e=>he (by injection e))
   have T:=h! (show l[m+1]=l[m]->l.take (m+1)=ddN l (m+2)from fun he=>by
    rw[ddN,if_neg (by
     rintro(h | h)
     ·omega
     ·apply h;rw[Nat.add_sub_cancel,n4! hlt,n4! t];exact congrArg some he),List.append_nil,eS! l (m+1) hm RN.out])
   go_wp2_with fail
   obtain⟨wd,o⟩:=e! wr.drew;have DO:=h! (show Own wd B 67 6 (.slice (some ⟨g,0,none⟩) l.length c) (tuCs l)from by rw[o];exact RO.out.below (Ext.drew _));have DK:=h! (show Kept (fun b=>b<w.heap.size/\(Value.slice (some ⟨g,0,none⟩) l.length c).ownBlock≠some b) w wd from by rw[o];exact RK.out.drew);refine re! o ?_;clear o RO RK;have k0:=fun W (hW:Ext wd W)=>((DO.out.below hW).tupAt (m+1) hlt).1;have k1:=fun W (hW:Ext wd W)=>((DO.out.below hW).tupAt (m+1) hlt).2.1;have k2:=fun W (hW:Ext wd W)=>((DO.out.below hW).tupAt (m+1) hlt).2.2.1;have k3:=fun W (hW:Ext wd W)=>((DO.out.below hW).tupAt (m+1) hlt).2.2.2.1;have k4:=fun W (hW:Ext wd W)=>((DO.out.below hW).tupAt (m+1) hlt).2.2.2.2.1;have k5:=fun W (hW:Ext wd W)=>((DO.out.below hW).tupAt (m+1) hlt).2.2.2.2.2;have j0:=fun W (hW:Ext wd W)=>((DO.out.below hW).tupAt m t).1;have j1:=fun W (hW:Ext wd W)=>((DO.out.below hW).tupAt m t).2.1;have j2:=fun W (hW:Ext wd W)=>((DO.out.below hW).tupAt m t).2.2.1;have j3:=fun W (hW:Ext wd W)=>((DO.out.below hW).tupAt m t).2.2.2.1;have j4:=fun W (hW:Ext wd W)=>((DO.out.below hW).tupAt m t).2.2.2.2.1;have j5:=fun W (hW:Ext wd W)=>((DO.out.below hW).tupAt m t).2.2.2.2.2;have hq:=fun W=>mX! l[m+1] l[m] W;generalize l[m+1]=x at *;generalize l[m]=y at *;have G:IntKind.i64.wrap (m:Int)=(m:Int):=IntWalk.i64_in _ (by omega);have C:(m:Int)<(l.length:Int):=by omega
   have a8:((m:Int)+1)<(l.length:Int):=by omega
   have D:(0:Int)<=(m:Int)+1:=by omega
   by_cases he:x=y
   ·have a9:=h! (T.out he);subst he
    have f:∀W,(binOp BinOp.eql 67 (tV x) (tV x)).run prog W= .ok (.bool true) W:=fun W=>by
     have:=hq W;rwa[v2! rfl]at this
    clear hq T Z;obtain⟨⟨x1,x2,x3⟩,⟨x4,x5,x6⟩⟩:=x;unfold tV at f;dsimp only at f k0 k1 k2 k3 k4 k5 j0 j1 j2 j3 j4 j5;(refine WalkN.tk [0,1,2,3,4,5,6,7,8,9] ?_;(iterate 10 (refine c! ?_));refine TkN.n ?_)
    refine d! ?_;clear k0 k1 k2 k3 k4 k5 j0 j1 j2 j3 j4 j5 f G;have ai:((m:Int)+1)<=(l.length:Int):=by omega
    have an:m+1<=l.length:=hm;go_wp2_with fail
    clear C a8 D ai an;go_loopw [3,5] (fun kv jv wr=>∃(q a:Nat) (R:List Tup),kv= .int .i64 q/\jv= .int .i64 ((a+1:Nat):Int)/\q<=m+1+a/\1<=q/\m+1+a+1<=l.length/\R.length=l.length/\R.take q=ddN l (m+1+a+1)/\(∀j,m+1+a<=j->R[j]?=l[j]?)/\Own wr B 67 6 (.slice (some ⟨g,0,none⟩) l.length c) (tuCs R)/\Kept (fun b=>b<w.heap.size/\(Value.slice (some ⟨g,0,none⟩) l.length c).ownBlock≠some b) w wr) (fun _ jv _=>l.length-(intOf jv).toNat)
    case atStart=>exact⟨m+1,0,l,rfl,rfl,by omega,by omega,by have:=Y.out;omega,rfl,a9.out,(fun _ _=>rfl),DO.out,DK.out⟩
    case round =>
     obtain⟨q,a,R,rfl,rfl,F,I,aj,ad,a5,ag,a6,ah⟩:=hrel;have QO:=h! a6;have J:=h! ah;have QL:=h! ad;have QT:=h! a5;have QJ:=h! ag;have QP:=h! (And.intro F (And.intro I aj));clear DO DK a6 ah ad a5 ag F I a9;by_cases hlt2:m+1+a+1<l.length
     ·have s:=h! hlt2;have L:m+1+a+1<R.length:=by rw[QL.out];exact hlt2
      have a3:m+1+a<R.length:=by omega
      have hx:R[m+1+a+1]?=l[m+1+a+1]?:=QJ.out _ (by omega);have hy:R[m+1+a]?=l[m+1+a]?:=QJ.out _ (by omega);rw[n4! L]at hx;rw[n4! a3]at hy
      have H:=h! (show ddN l (m+1+a+1+1)=ddN l (m+1+a+1)++(if R[m+1+a+1]≠R[m+1+a]then [R[m+1+a+1]]else [])from by
       rw[ddN,Nat.add_sub_cancel,<-hx,<-hy];congr 1
       by_cases he:R[m+1+a+1]=R[m+1+a]
       ·rw [if_neg (by rintro (h | h); · omega
                       · exact h (congrArg some he)),if_neg (fun h=>h he)]
       ·rw[if_pos (.inr fun h=>he (by injection h)),if_pos he];rfl)
      clear hx hy;have N:((a:Int)+1)<((l.length-(m+1):Nat):Int):=by omega
      go_wp2_with fail
      obtain⟨wd,o⟩:=e! wr.drew;have DO:=h! (show Own wd B 67 6 (.slice (some ⟨g,0,none⟩) l.length c) (tuCs R)from by rw[o];exact QO.out.below (Ext.drew _));have DK:=h! (show Kept (fun b=>b<w.heap.size/\(Value.slice (some ⟨g,0,none⟩) l.length c).ownBlock≠some b) w wd from by rw[o];exact J.out.drew);refine re! o ?_;clear o QO J;have X:(m+1+a+1)*6=(m+1)*6+(a+1)*6:=by omega
      have a4:(m+1+a)*6=(m+1)*6+a*6:=by omega
      have KA:=fun W (hW:Ext wd W)=>(DO.out.below hW).tupAt (m+1+a+1) L;have JA:=fun W (hW:Ext wd W)=>(DO.out.below hW).tupAt (m+1+a) a3;simp only[X]at KA;simp only[a4]at JA;have KB:=h! (DO.out.tupAt (m+1+a+1) L);rw[X]at KB;have k0:=fun W hW=>(KA W hW).1;have k1:=fun W hW=>(KA W hW).2.1;have k2:=fun W hW=>(KA W hW).2.2.1;have k3:=fun W hW=>(KA W hW).2.2.2.1;have k4:=fun W hW=>(KA W hW).2.2.2.2.1;have k5:=fun W hW=>(KA W hW).2.2.2.2.2;have j0:=fun W hW=>(JA W hW).1;have j1:=fun W hW=>(JA W hW).2.1;have j2:=fun W hW=>(JA W hW).2.2.1;have j3:=fun W hW=>(JA W hW).2.2.2.1;have j4:=fun W hW=>(JA W hW).2.2.2.2.1;have j5:=fun W hW=>(JA W hW).2.2.2.2.2;clear KA JA X a4;have hq:=fun W=>ml! R[m+1+a+1] R[m+1+a] W;have i:=h! (fun w' (ho:Own w' B 67 6 (.slice (some ⟨g,0,none⟩) l.length c) (tuCs R))=>ho.setTup q R[m+1+a+1] (by have:=QP.out.1;omega))
      have ac:=h! (show(R.set q R[m+1+a+1]).take (q+1)=R.take q++[R[m+1+a+1]]from by
       have K:q<R.length:=by have:=QP.out.1;omega
       rw[n2! (by simpa using K),List.getElem_set_self,List.take_set_of_le (n0! q)])
      have ae:=h! (show ∀j,m+1+(a+1)<=j->(R.set q R[m+1+a+1])[j]?=l[j]? from fun j hj=>by
       rw[List.getElem?_set_ne (by have:=QP.out.1;omega)];exact QJ.out j (by omega))
      have E:∃x,x=R[m+1+a+1]:=⟨_,rfl⟩;generalize R[m+1+a+1]=x at *;generalize R[m+1+a]=y at *;have G:IntKind.i64.wrap (a:Int)=(a:Int):=IntWalk.i64_in _ (by omega);have C:(a:Int)<((l.length-(m+1):Nat):Int):=by omega
      have D:(0:Int)<=(a:Int)+1:=by omega
      have F:=QP.out.1;have I:=QP.out.2.1;by_cases he:x=y
      ·have U:Hid (ddN l (m+1+a+1+1)=ddN l (m+1+a+1)):=h! (by rw[H.out,if_neg (fun h=>h he),List.append_nil]);subst he
       have f:∀W,(binOp BinOp.neq 67 (tV x) (tV x)).run prog W= .ok (.bool false) W:=fun W=>by
        have:=hq W;rwa[v3! (fun h=>h rfl)]at this
       clear hq H i ac ae KB E;obtain⟨⟨x1,x2,x3⟩,⟨x4,x5,x6⟩⟩:=x;unfold tV at f;dsimp only at f k0 k1 k2 k3 k4 k5 j0 j1 j2 j3 j4 j5;(refine WalkN.tk [0,1,2,3,4,5,6,7,8,9] ?_;(iterate 10 (refine c! ?_));refine TkN.n ?_)
       refine d! ?_;clear k0 k1 k2 k3 k4 k5 j0 j1 j2 j3 j4 j5 f G C D N;go_wp2_with fail
       go_roundw
       case rel=>exact⟨q,a+1,R,rfl,by go_num,by omega,I,by have:=s.out;omega,QL.out,by rw[QT.out];exact U.out.symm,(fun j hj=>QJ.out j (by omega)),DO.out,DK.out⟩
       case measure=>have:=s.out;simp[intOf];omega
      ·have U:Hid (ddN l (m+1+a+1+1)=ddN l (m+1+a+1)++[x]):=h! (by rw[H.out,if_pos he])
       have f:∀W,(binOp BinOp.neq 67 (tV x) (tV y)).run prog W= .ok (.bool true) W:=fun W=>by
        have:=hq W;rwa[v2! he]at this
       clear hq H E he;obtain⟨⟨x1,x2,x3⟩,⟨x4,x5,x6⟩⟩:=x;obtain⟨⟨y1,y2,y3⟩,⟨y4,y5,y6⟩⟩:=y;unfold tV at f;dsimp only at f k0 k1 k2 k3 k4 k5 j0 j1 j2 j3 j4 j5 KB i;(refine WalkN.tk [0,1,2,3,4,5,6,7,8,9] ?_;(iterate 10 (refine c! ?_));refine TkN.n ?_)
       refine d! ?_;clear k0 k1 k2 k3 k4 k5 j0 j1 j2 j3 j4 j5 f G;obtain⟨b0,b1,b2,b3,b4,b5⟩:=KB.out;obtain⟨ak,A⟩:=DO.out.typed (g:=g) rfl;have a7:=Blk.free (show Blk wd g ak 67 from A);obtain⟨d0,d1,d2,d3,d4,d5⟩:=DO.out.tupAt q (by rw[QL.out];omega);have ab:(q:Int)<(l.length:Int):=by omega
       have z:(0:Int)<=(q:Int):=by omega
       have O:=run_storeCells_cells (P:=prog) g (q*6) [.string x1,.string x2,.string x3,.string x4,.string x5,.string x6] 0 wd (by
        intro j hj;simp only[u7!,v6!]at hj;match j,hj with
        | 0,_=>rw[show q*6+0+0=q*6 from rfl,d0];rfl
        | 1,_=>rw[show q*6+0+1=q*6+1 from rfl,d1];rfl
        | 2,_=>rw[show q*6+0+2=q*6+2 from rfl,d2];rfl
        | 3,_=>rw[show q*6+0+3=q*6+3 from rfl,d3];rfl
        | 4,_=>rw[show q*6+0+4=q*6+4 from rfl,d4];rfl
        | 5,_=>rw[show q*6+0+5=q*6+5 from rfl,d5];rfl) (fun j _=>a7 _) (by simp[Value.oneCell'])
       simp only[Nat.add_zero]at O;clear d0 d1 d2 d3 d4 d5 a7 A
       have u:(Instr.storeAt 67 (.pointer (some ⟨g,q*6,none⟩)) (.agg #[.string x1,.string x2,.string x3,.string x4,.string x5,.string x6])).run prog wd= .ok () (wd.setCells g (q*6) [.string x1,.string x2,.string x3,.string x4,.string x5,.string x6]):=by
        simp[Instr.storeAt,Instr.sureAddr,storeVar,Value.cells,Tryz.sizeOf67,O,Result.andThen]
       have af:wd.setCells g (q*6) [.string x1,.string x2,.string x3,.string x4,.string x5,.string x6]=(((((wd.setCell ⟨g,q*6,none⟩ (.string x1)).setCell ⟨g,q*6+1,none⟩ (.string x2)).setCell ⟨g,q*6+2,none⟩ (.string x3)).setCell ⟨g,q*6+3,none⟩ (.string x4)).setCell ⟨g,q*6+4,none⟩ (.string x5)).setCell ⟨g,q*6+5,none⟩ (.string x6):=by simp only[World.setCells,Nat.add_assoc,Nat.reduceAdd]
       obtain⟨w8,p⟩:=e! (wd.setCells g (q*6) [.string x1,.string x2,.string x3,.string x4,.string x5,.string x6]);rw[<-p]at u;have Q:=h! (show Own w8 B 67 6 (.slice (some ⟨g,0,none⟩) l.length c) (tuCs (R.set q ⟨⟨x1,x2,x3⟩,⟨x4,x5,x6⟩⟩))from by rw[p,af];exact i.out _ DO.out);have a0:=h! (show Kept (fun b=>b<w.heap.size/\(Value.slice (some ⟨g,0,none⟩) l.length c).ownBlock≠some b) w w8 from by rw[p];exact DK.out.setMany (g:=g) (fun h=>h.2 rfl) _ _);clear O af p i;go_wp2_with ((with_reducible refine fN! (x := .pointer (some ⟨g,q*6,none⟩)) (v := .agg #[.string x1,.string x2,.string x3,.string x4,.string x5,.string x6]) (w':=w8) ?hA ?hV ?hR ?hK);(case hA=>rfl);(case hV=>rfl);(case hR=>exact u);clear b0 b1 b2 b3 b4 b5 ab z C D N u DO DK)
       go_roundw
       case rel=>exact⟨q+1,a+1,R.set q ⟨⟨x1,x2,x3⟩,⟨x4,x5,x6⟩⟩,by go_num,by go_num,by omega,by omega,by have:=s.out;omega,by rw[List.length_set];exact QL.out,by rw[ac.out,QT.out];exact U.out.symm,ae.out,Q.out,a0.out⟩
       case measure=>have:=s.out;simp[intOf];omega
     ·have a2:m+1+a+1=l.length:=by omega
      rw[a2]at QT;have N:¬ (((a:Int)+1)<((l.length-(m+1):Nat):Int)):=by omega
      have F:=QP.out.1;have K:q<l.length:=by omega
      have ab:(q:Int)<=(l.length:Int):=by omega
      have z:(0:Int)<=(q:Int):=by omega
      have av:q<=c:=by omega
      have aq:¬ (c=q):=by omega
      obtain⟨vs,V⟩:=pI! QO.out QL.out.symm q K 0 (c-q);obtain⟨w8,p⟩:=e! (wr.setCells g (q*6) vs);rw[<-p]at V
      have Q:=h! (show Own w8 B 67 6 (.slice (some ⟨g,0,none⟩) q c) (tuCs (dd l))from by
       have h1:=(Own.setMany vs (q*6) QO.out).cutT (k:=q) (Nat.le_of_lt K);rw[ez! _ _ _ _ (n0! _),di!,QT.out]at h1;rw[p];exact h1)
      have a0:=h! (show Kept (fun b=>b<w.heap.size/\(Value.slice (some ⟨g,0,none⟩) l.length c).ownBlock≠some b) w w8 from by rw[p];exact J.out.setMany (g:=g) (fun h=>h.2 rfl) _ _);clear p F hlt2 QO J QT a2;go_wp2_with ((with_reducible refine bV! (v := .slice (some ⟨g,q*6,none⟩) (l.length-q) (c-q)) (w':=w8) (r := .tuple #[]) ?hV ?hR ?hK);(case hV=>rfl);(case hR=>exact V);clear V)
      go_ret
      exact⟨_,rfl,Q.out,a0.out⟩
   ·have al:=h! (Z.out he)
    have M:∀W,(binOp BinOp.eql 67 (tV x) (tV y)).run prog W= .ok (.bool false) W:=fun W=>by
     have:=hq W;rwa[v3! he]at this
    clear hq T Z he;obtain⟨⟨x1,x2,x3⟩,⟨x4,x5,x6⟩⟩:=x;obtain⟨⟨y1,y2,y3⟩,⟨y4,y5,y6⟩⟩:=y;unfold tV at M;dsimp only at M k0 k1 k2 k3 k4 k5 j0 j1 j2 j3 j4 j5;(refine WalkN.tk [0,1,2,3,4,5,6,7,8,9] ?_;(iterate 10 (refine c! ?_));refine TkN.n ?_)
    refine d! ?_;clear k0 k1 k2 k3 k4 k5 j0 j1 j2 j3 j4 j5 M G C a8 D;go_wp2_with fail
    go_roundw
    case rel=>exact⟨m+1,by go_num,by have:=Y.out;omega,al.out,DO.out,DK.out⟩
    case measure=>have:=Y.out;simp[intOf];omega
  ·obtain am:m+1=l.length:=by omega
   have HD:=h! (show dd l=l from by
    unfold dd;rw[eS! l _ (n0! _) fun j h0 h1=>RN.out j h0 (by omega),u2!])
   go_wp2_with fail
   go_ret
   exact⟨_,rfl,by rw[HD.out];exact RO.out,RK.out⟩
end Go.Proofs.YtlhaghoajpglaaaGreat
namespace Go.Proofs.YtlhaghoajpglaaaGreat
open Go Go.RowKit Go.Maps Go.ChangeMaps Go.WideElems Go.Proofs.Tryz
theorem Mp.entry {P:Program}{k t e:TypeId}{κ α:Type}{kv:κ->Value}{ev:α->Value}{w:World}{b:Nat}{l:List (κ × α)} [DecidableEq κ] (h:Mp P k kv ev w b l)(K:Keyed P k)(inj:∀a b,kv a=kv b->a=b)(ht:P.underlying t=some (.map k e)) {z:Value}(hz:(zeroValue e).run P w= .ok z w) {a:κ}(hk:∃q,keyOf P k (kv a)=some q) :
  ∃es1 c1 st,(Instr.mapEntry t (.map (some b)) (kv a)).run P w= .ok (.tuple #[lookV false z ev (lookA l a),goInt st]) (setBlock w b (.map es1 c1)) /\
   ∀(w2:World) (x:α),w2.heap[b]?=some (.map es1 c1)->∃w3,(Instr.entryStore t (.map (some b)) (goInt st) (ev x)).run P w2= .ok () w3/\Mp P k kv ev w3 b (putA l a x)/\pT! w2 w3 b:=by
 have a2:=fun x=>h.store K inj ht hk x;have a0:=h.look K inj ht hz false hk;obtain⟨m,d,p,hs,hm,a1⟩:=h;obtain⟨s1,s2,s3⟩:=hs;obtain⟨q,n⟩:=hk
 have fin:∀(es1:Array MapEntry) (c1 st:Nat) (w2:World) (x:α) (es':Array MapEntry) (c':Nat),w2.heap[b]?=some (.map es1 c1)->(Instr.entryStore t (.map (some b)) (goInt st) (ev x)).run P w2= .ok () (setBlock w2 b (.map es' c')) ->
   (Instr.mapUpdate t (.map (some b)) (kv a) (ev x)).run P w= .ok () (setBlock w b (.map es' c'))->∃w3,(Instr.entryStore t (.map (some b)) (goInt st) (ev x)).run P w2= .ok () w3/\Mp P k kv ev w3 b (putA l a x)/\pT! w2 w3 b:=by
  intro es1 c1 st w2 x es' c' hw2 h1 h2;refine⟨_,h1,?_,_,rfl⟩;obtain⟨w',o,h4,-⟩:=a2 x;rw[h2]at o;injection o with _ o
  subst o;exact h4.same (by rw[aJ! hw2,aJ! p])
 rcases K.find w n m.toList (eE! hm a1)with⟨h1,h2⟩|⟨j,e0,h1,h2,o⟩
 ·have hl:lookA l a=none:=eM! (cS! hm h2);refine⟨m.push ⟨kv a,z,d⟩,d+1,d,?_,fun w2 x hw2=>?_⟩
  ·rw[hl];simp[Instr.mapEntry,run_underlying ht,MapKept.run_getObj_map p,K.check w false n,h1,hz,MapKept.run_setObj_map _ p,Result.andThen,setBlock,lookV]
  ·refine fin _ _ _ w2 x (m.push ⟨kv a,ev x,d⟩) (d+1) hw2 ?_ ?_
   ·have g:(m.push ⟨kv a,z,d⟩).findIdx? (fun e=>((e.born:Nat):Int) == ((d:Nat):Int))=some m.size:=by
     rw[findIdx_arr]
     exact findIdx_born (l:=(m.push ⟨kv a,z,d⟩).toList) (j:=m.size) (e0:=⟨kv a,z,d⟩) (by
      simp only[Array.toList_push,v9!,v8!,List.map_nil];refine List.nodup_append.2 ⟨s2,by simp,fun a ha c hc e1=>?_⟩;simp only[n9!]at hc;obtain⟨x,hx,rfl⟩:=u6!.1 ha;have:=s1 x hx;omega) (by simp)
    have f:(m.push ⟨kv a,z,d⟩).modify m.size (fun e => {e with val:=ev x})=m.push ⟨kv a,ev x,d⟩:=by
     apply Array.ext';rw[Array.toList_modify,Array.toList_push,Array.toList_push,<-Array.length_toList,modify_last]
    simp[Instr.entryStore,MapKept.run_getObj_map hw2,asInt,asIntOf,goInt,g,f,MapKept.run_setObj_map _ hw2,Result.andThen,setBlock]
   ·simp[Instr.mapUpdate,run_underlying ht,MapKept.run_getObj_map p,K.check w false n,h1,MapKept.run_setObj_map _ p,Result.andThen,setBlock]
 ·have hj:m[j]?=some e0:=by simpa using h2
  have i:m.modify j (fun e => {e with key:=kv a})=m:=by
   apply Array.ext';rw[Array.toList_modify,modify_eq_set _ _ _ _ h2];have:({e0 with key:=kv a}:MapEntry)=e0:=by rw[<-o]
   rw[this];exact set_self _ _ _ h2
  refine⟨m,d,e0.born,?_,fun w2 x hw2=>?_⟩
  ·have hv:lookV false z ev (lookA l a)=e0.val:=by
    have:(Instr.lookup t (.map (some b)) (kv a) false).run P w= .ok e0.val w:=by
     simp[Instr.lookup,run_underlying ht,MapKept.run_getObj_map p,K.check w _ n,h1,Result.andThen]
    rw[a0]at this;injection this
   rw[hv];simp[Instr.mapEntry,run_underlying ht,MapKept.run_getObj_map p,K.check w false n,h1,hj,o,K.stays w n,i,MapKept.run_setObj_map _ p,Result.andThen,setBlock]
  ·refine fin _ _ _ w2 x (m.modify j (fun e' => {e' with key:=kv a,val:=ev x})) d hw2 ?_ ?_
   ·have g:m.findIdx? (fun e=>((e.born:Nat):Int) == ((e0.born:Nat):Int))=some j:=by
     rw[findIdx_arr];exact findIdx_born s2 h2
    have f:m.modify j (fun e => {e with val:=ev x})=m.modify j (fun e' => {e' with key:=kv a,val:=ev x}):=by
     apply Array.ext';rw[Array.toList_modify,Array.toList_modify,modify_eq_set _ _ _ _ h2,modify_eq_set _ _ _ _ h2,<-o]
    simp[Instr.entryStore,MapKept.run_getObj_map hw2,asInt,asIntOf,goInt,g,f,MapKept.run_setObj_map _ hw2,Result.andThen,setBlock]
   ·simp[Instr.mapUpdate,run_underlying ht,MapKept.run_getObj_map p,K.check w false n,h1,hj,o,K.stays w n,MapKept.run_setObj_map _ p,Result.andThen,setBlock]
section
variable {κ ι : Type}
theorem MRows.put2 [DecidableEq κ] {P:Program}{k:TypeId}{kv:κ->Value}{E:Elm ι}{w w1 w2 w3:World}{B b3:Nat}{lw:List (κ × RwV ι)}(h:MRows E w B lw) {n:κ}{names:List ι}{v v':Value}(hl:(lookA lw n=some (names,v))\/(lookA lw n=none/\names=[]/\v= .slice none 0 0))
  (h1:∀x,x<w.heap.size->x≠b3->w1.heap[x]?=w.heap[x]?) (h1s:w.heap.size<=w1.heap.size) (h2:w1.grownBy w2 v.ownBlock) {tn:ι} (ho:Own w2 B E.e E.sz v' ((names++[tn]).flatMap E.enc)) (hw:∀g,v'.ownBlock=some g->v.ownBlock=some g\/w1.heap.size<=g)
  (hm:Mp P k kv rwV w b3 lw) (hnc:∀cs t fr,w2.heap[b3]?≠some (.cells cs t fr)) (ht:pT! w2 w3 b3):MRows E w3 B (putA lw n (names++[tn],v')):=by
 have b:=hm.nodup
 have c:∀x∈lw,x.1≠n->∀g,x.2.2.ownBlock=some g->v.ownBlock≠some g:=fun x hx hne g f e=>by
  rcases hl with hl | ⟨_,_,rfl⟩
  ·exact h.apart x hx _ (aD! hl) hne (f.trans e.symm)
  ·cases e
 have lt:∀x∈lw,∀g,x.2.2.ownBlock=some g->g<w.heap.size:=fun x hx g f=>((h.rows x hx).2.block g f).2;refine⟨fun x hx=>?_,fun x hx y hy hne=>?_⟩
 ·rcases dF! _ _ _ b hx with rfl | ⟨hx,hxn⟩
  ·exact⟨by simp,ho.keepB fun g f=>ht.kept.block g (ho.notMap hnc g f)⟩
  ·have hr:=(h.rows x hx).2;refine⟨(h.rows x hx).1,hr.keepB fun g f=>?_⟩;have a0:=lt x hx g f;have d:=hr.notMap hm.notCells g f;exact(ht.kept.block g d).trans ((h2.block g (by omega) fun e=>c x hx hxn g f e.symm).trans (h1 g a0 d))
 ·rcases dF! _ _ _ b hx with rfl | ⟨hx,hxn⟩ <;> rcases dF! _ _ _ b hy with rfl | ⟨hy,hyn⟩
  ·exact absurd rfl hne
  ·intro e;obtain⟨g,f⟩:=gQ! ho (by simp);have a:y.2.2.ownBlock=some g:=e.symm.trans f;rcases hw g f with h3 | h3
   ·exact c y hy hyn g a h3
   ·have:=lt y hy g a;omega
  ·intro e;obtain⟨g,f⟩:=gQ! ho (by simp);have a:x.2.2.ownBlock=some g:=e.trans f;rcases hw g f with h3 | h3
   ·exact c x hx hxn g a h3
   ·have:=lt x hx g a;omega
  ·exact h.apart x hx y hy hne
theorem MR.entry [DecidableEq κ] {P:Program}{k t e:TypeId}{kv:κ->Value}{E:Elm ι}{w:World}{B b:Nat}{f:κ->List ι}(h:MR P k kv E w B b f)(K:Keyed P k)(inj:∀a b,kv a=kv b->a=b)(ht:P.underlying t=some (.map k e))(hz:∀w,(zeroValue e).run P w= .ok (.slice none 0 0) w) {n:κ}(hn:∃q,keyOf P k (kv n)=some q) :
  ∃es1 c1 st v,(∀a,a=b->(Instr.mapEntry t (.map (some a)) (kv n)).run P w= .ok (.tuple #[v,goInt st]) (setBlock w b (.map es1 c1)))/\Own w B E.e E.sz v ((f n).flatMap E.enc)/\Own (setBlock w b (.map es1 c1)) B E.e E.sz v ((f n).flatMap E.enc)/\(∀g,v.ownBlock=some g->g≠b) /\
   ∀(w2:World) (v':Value) (x:ι),(setBlock w b (.map es1 c1)).grownBy w2 v.ownBlock->Own w2 B E.e E.sz v' ((f n++[x]).flatMap E.enc)->(∀g,v'.ownBlock=some g->v.ownBlock=some g\/(setBlock w b (.map es1 c1)).heap.size<=g) ->
    ∃w3,(Instr.entryStore t (.map (some b)) (goInt st) v').run P w2= .ok () w3/\MR P k kv E w3 B b (fun m=>if n=m then f m++[x]else f m)/\pT! w2 w3 b:=by
 obtain⟨s,p,hR,hL⟩:=h;obtain⟨es1,c1,st,h1,h2⟩:=p.entry K inj ht (hz w) hn;have r:=hL n
 have hv:∃v,lookV false (.slice none 0 0) rwV (lookA s n)=v/\Own w B E.e E.sz v ((f n).flatMap E.enc)/\(lookA s n=some (f n,v)\/(lookA s n=none/\f n=[]/\v= .slice none 0 0)):=by
  cases hlk:lookA s n with
  | none =>
   rw[hlk]at r
   have u:f n=[]:=by
    unfold optR at r;split at r
    ·next h=>exact List.isEmpty_iff.1 h
    ·cases r
   exact⟨_,rfl,by rw[u];exact Own.nil _ _ _ _,.inr ⟨rfl,u,rfl⟩⟩
  | some x =>
   rw[hlk]at r
   have u:x.1=f n:=by
    unfold optR at r;split at r
    ·cases r
    ·injection r
   refine⟨_,rfl,by rw[<-u];exact(hR.rows _ (aD! hlk)).2,.inl ?_⟩;rw[<-u];rfl
 obtain⟨v,a4,i,a1⟩:=hv;rw[a4]at h1;have j:(setBlock w b (.map es1 c1)).heap.size=w.heap.size:=aI! _ _ _;have d:=i.notMap p.notCells;obtain⟨o0,a3⟩:∃o,w.heap[b]?=some o:=⟨w.heap[b]'p.lt,Array.getElem?_eq_getElem _⟩;have a0:(setBlock w b (.map es1 c1)).heap[b]?=some (.map es1 c1):=aJ! a3;refine⟨es1,c1,st,v,fun a ha=>by rw[ha];exact h1,i,i.keepB fun g hg=>ax! w b g _ (d g hg),d,fun w2 v' x hg ho hwh=>?_⟩;have l:w2.heap[b]?=some (.map es1 c1):=(hg.block b (by rw[j];exact p.lt) fun e=>d b e.symm rfl).trans a0;obtain⟨w3,c,a2,hT⟩:=h2 w2 (f n++[x],v') l;refine⟨w3,c,⟨_,a2,MRows.put2 (w1:=setBlock w b (.map es1 c1)) hR (names:=f n) (v:=v) a1 (fun y _ hy=>ax! w b y _ hy) (v4! j.symm) hg ho hwh p (fun cs t fr=>by rw[l];simp) hT,fun m=>?_⟩,hT⟩;rw[cW!];show _=optR (if n=m then f m++[x]else f m)
 by_cases e:n=m
 ·rw[if_pos e,if_pos e];subst e;unfold optR;rw[if_neg (by simp)];rfl
 ·rw[if_neg e,if_neg e];exact hL m
end
structure NbI (w0 w:World)(b m1 m2 m3:Nat)(l:OL)(Ts Tp:List Tup)(sv:Value)(s:List Tup):Prop where
 box:Blk w b #[.map (some m1),.map (some m2),.map (some m3)] 149
 subs:MR prog 32 pV subE w w0.heap.size m1 (ak! Ts)
 pnts:MR prog 33 pV pntE w w0.heap.size m2 (aZ! Tp)
 objs:ONest w m3 l
 row:Own w w0.heap.size 67 6 sv (tuCs s)
 ne:m1≠m2/\m1∉nBG m3 l/\m2∉nBG m3 l
 lo:w0.heap.size<=m1/\w0.heap.size<=m2/\∀x∈nBG m3 l,w0.heap.size<=x
 low:Below w0.heap.size w0 w
section
variable {w0 w w' w1 w2 : World} {b m1 m2 m3 : Nat} {l : OL} {Ts Tp s : List Tup} {sv : Value}
theorem NbI.ext (h:NbI w0 w b m1 m2 m3 l Ts Tp sv s)(hx:Ext w w'):NbI w0 w' b m1 m2 m3 l Ts Tp sv s :=
 ⟨h.box.below hx,h.subs.up hx,h.pnts.up hx,h.objs.below hx,h.row.below hx,h.ne,h.lo,h.low.trans (hx.mono h.low.size)⟩
structure Onl (w w':World)(c:Nat)(v:Value):Prop where
 os:w'.os=w.os
 tape:w'.tape=w.tape
 output:w'.output=w.output
 size:w.heap.size<=w'.heap.size
 block:∀x,x<w.heap.size->x≠c->v.ownBlock≠some x->w'.heap[x]?=w.heap[x]?
theorem oQ! {c:Nat}{v:Value}{o:Obj}{w1 w2:World}(hg:(setBlock w c o).grownBy w1 v.ownBlock)(ht:pT! w1 w2 c):Onl w w2 c v :=
 have h0:pT! w (setBlock w c o) c:=⟨o,rfl⟩
 ⟨ht.kept.os.trans (hg.os.trans h0.kept.os),ht.kept.tape.trans (hg.tape.trans h0.kept.tape),ht.kept.output.trans (hg.output.trans h0.kept.output),by rw[ht.size,<-h0.size];exact hg.size,fun x hx hc hv=>(ht.kept.block x hc).trans ((hg.block x (by rw[h0.size];exact hx) fun e=>hv e.symm).trans (h0.kept.block x hc))⟩
theorem Onl.blk {c B sz:Nat}{v:Value}{e t:TypeId}{xs:List Value}{x:Nat}{cs:Array Value}(h:Onl w w' c v)(ho:Own w B e sz v xs)(hx:Blk w x cs t)(hne:t≠e)(hc:x≠c):Blk w' x cs t :=
 (h.block x hx.lt hc fun hv=>by
  obtain⟨c2,h2⟩:=ho.typed hv;rw[show w.heap[x]?=_ from hx]at h2;exact hne (by injection v5! h2)).trans hx
theorem Onl.low {c B:Nat}{v:Value}(h:Onl w w' c v)(hc:B<=c)(hv:∀g,v.ownBlock=some g->B<=g)(hl:Below B w0 w)(hB:B<=w.heap.size):Below B w0 w' :=
 hl.trans ⟨h.os,h.tape,h.output,h.size,fun x hx=>h.block x (by omega) (by omega) fun e=>by have:=hv x e;omega⟩
theorem NbI.sub (h:NbI w0 w b m1 m2 m3 l Ts Tp sv s) {v:Value}{xs:List Value}(ho:Own w w0.heap.size 33 3 v xs)(hc:Onl w w' m1 v) {t:Tup}(hm:MR prog 32 pV subE w' w0.heap.size m1 (fun m=>if t.o=m then ak! Ts m++[t.s]else ak! Ts m)):NbI w0 w' b m1 m2 m3 l (Ts++[t]) Tp sv s:=by
 have ap:∀x a e,w.heap[x]?=some (.cells a e (0,0))->e≠33->v.ownBlock≠some x:=fun x a e f he hv=>by
  obtain⟨c2,d⟩:=ho.typed hv;rw[f]at d;exact he (by injection v5! d)
 have nm:∀x,(∃es c,w.heap[x]?=some (.map es c))->v.ownBlock≠some x:=fun x f hv=>by
  obtain⟨c2,d⟩:=ho.typed hv;obtain⟨es,c,h3⟩:=f;rw[h3]at d;cases d
 have bx:∀x a e fr,w.heap[x]?=some (.cells a e fr)->x≠m1:=fun x a e fr f hm=>h.subs.notCells _ _ _ (hm▸f);refine⟨(hc.block b h.box.lt (bx b _ _ _ h.box) (ap b _ _ h.box (by decide))).trans h.box,hm.congr fun n=>(ej! Ts t n).symm,h.pnts.keep (hc.block m2 h.pnts.lt (Ne.symm h.ne.1) (nm m2 ?_)) fun x _ hl f=>?_,h.objs.same fun x f=>hc.block x (h.objs.lt x f) (fun e=>h.ne.2.1 (e▸f)) (nm x (h.objs.isMap x f)),h.row.keepOwn fun g hg=>?_,h.ne,h.lo,?_⟩
 ·obtain⟨lw,h1,_⟩:=h.pnts;exact h1.isMap
 ·obtain⟨a,f⟩:=f;exact hc.block x hl (bx x _ _ _ f) (ap x _ _ f (by decide))
 ·obtain⟨a0,d⟩:=h.row.typed hg;exact hc.block g (h.row.block g hg).2 (bx g _ _ _ d) (ap g _ _ d (by decide))
 ·exact hc.low h.lo.1 (fun g hg=>(ho.block g hg).1) h.low h.low.size
theorem NbI.pnt (h:NbI w0 w b m1 m2 m3 l Ts Tp sv s) {v:Value}{xs:List Value}(ho:Own w w0.heap.size 32 3 v xs)(hc:Onl w w' m2 v) {t:Tup}(hm:MR prog 33 pV pntE w' w0.heap.size m2 (fun m=>if t.s=m then aZ! Tp m++[t.o]else aZ! Tp m)):NbI w0 w' b m1 m2 m3 l Ts (Tp++[t]) sv s:=by
 have ap:∀x a e,w.heap[x]?=some (.cells a e (0,0))->e≠32->v.ownBlock≠some x:=fun x a e f he hv=>by
  obtain⟨c2,d⟩:=ho.typed hv;rw[f]at d;exact he (by injection v5! d)
 have nm:∀x,(∃es c,w.heap[x]?=some (.map es c))->v.ownBlock≠some x:=fun x f hv=>by
  obtain⟨c2,d⟩:=ho.typed hv;obtain⟨es,c,h3⟩:=f;rw[h3]at d;cases d
 have bx:∀x a e fr,w.heap[x]?=some (.cells a e fr)->x≠m2:=fun x a e fr f hm=>h.pnts.notCells _ _ _ (hm▸f);refine⟨(hc.block b h.box.lt (bx b _ _ _ h.box) (ap b _ _ h.box (by decide))).trans h.box,h.subs.keep (hc.block m1 h.subs.lt h.ne.1 (nm m1 ?_)) fun x _ hl f=>?_,hm.congr fun n=>(fs! Tp t n).symm,h.objs.same fun x f=>hc.block x (h.objs.lt x f) (fun e=>h.ne.2.2 (e▸f)) (nm x (h.objs.isMap x f)),h.row.keepOwn fun g hg=>?_,h.ne,h.lo,?_⟩
 ·obtain⟨lw,h1,_⟩:=h.subs;exact h1.isMap
 ·obtain⟨a,f⟩:=f;exact hc.block x hl (bx x _ _ _ f) (ap x _ _ f (by decide))
 ·obtain⟨a0,d⟩:=h.row.typed hg;exact hc.block g (h.row.block g hg).2 (bx g _ _ _ d) (ap g _ _ d (by decide))
 ·exact hc.low h.lo.2.1 (fun g hg=>(ho.block g hg).1) h.low h.low.size
theorem NbI.obj (h:NbI w0 w b m1 m2 m3 l Ts Tp sv s) {c:Nat}(hc:pT! w w' c)(hcm:c∈nBG m3 l) {l':OL}(hm:ONest w' m3 l')(hl:∀x∈nBG m3 l',x∈nBG m3 l\/(w0.heap.size<=x/\x≠m1/\x≠m2)):NbI w0 w' b m1 m2 m3 l' Ts Tp sv s:=by
 obtain⟨es,k,a0⟩:=h.objs.isMap c hcm;have a:∀cs t fr,w.heap[c]?≠some (.cells cs t fr):=fun cs t fr=>by rw[a0];simp
 refine⟨hc.kept.blk h.box fun e=>a _ _ _ (e▸h.box),h.subs.turned hc (fun e=>h.ne.2.1 (e▸hcm)) a,h.pnts.turned hc (fun e=>h.ne.2.2 (e▸hcm)) a,hm,h.row.keepOwn fun g hg=>hc.kept.block g fun e=>?_,⟨h.ne.1,fun hx=>?_,fun hx=>?_⟩,⟨h.lo.1,h.lo.2.1,fun x hx=>?_⟩,h.low.trans (hc.below (h.lo.2.2 c hcm))⟩
 ·obtain⟨a1,h2⟩:=h.row.typed hg;exact a _ _ _ (e▸h2)
 ·rcases hl _ hx with h1 | h1
  ·exact h.ne.2.1 h1
  ·exact h1.2.1 rfl
 ·rcases hl _ hx with h1 | h1
  ·exact h.ne.2.2 h1
  ·exact h1.2.2 rfl
 ·rcases hl x hx with h1 | h1
  ·exact h.lo.2.2 x h1
  ·exact h1.1
end
theorem nz! (x:Option Nat)(W:World):(binOp BinOp.eql 157 (.map x) (.map none)).run prog W= .ok (.bool x.isNone) W:=by
 have h:(Op.equal 157 (.map x) (.map none)).run prog W= .ok x.isNone W:=run_equalIn_map_nil W 9999 _ _ _ x Tryz.underlying157;simp[binOp,h,Result.andThen]
theorem mw! (a b c d:ByteArray)(W:World):(Instr.index 156 (.agg #[.string a,.string b,.string c,.string d]) (.int .i64 0)).run prog W= .ok (.agg #[.string a,.string b]) W/\(Instr.index 156 (.agg #[.string a,.string b,.string c,.string d]) (.int .i64 1)).run prog W= .ok (.agg #[.string c,.string d]) W:=⟨by kernel_rfl,by kernel_rfl⟩
theorem oJ! {ι:Type} [DecidableEq ι] (l:List ι)(a:ι):putA (blG l) a true=blG (if a∈l then l else l++[a]):=by
 split
 ·next h =>
  induction l with
  | nil=>simp at h
  | cons x r ih =>
   simp only[blG,v8!,putA]at *;by_cases e:x=a
   ·subst e;simp
   ·rw[if_neg e,ih (by simpa [Ne.symm e] using h)]
 ·next h =>
  rw[bf! (fun p hp e=>h (by obtain⟨x,hx,rfl⟩:=u6!.1 hp;exact e▸hx))];simp[blG]
theorem jO! {κ ι:Type} [DecidableEq κ] (l:NLG κ ι)(q x:κ)(b:Nat)(ss:List ι):innG (putA l q (b,ss)) x=if q=x then ss else innG l x:=by
 unfold innG;rw[cW!];by_cases e:q=x
 ·rw[if_pos e,if_pos e]
 ·rw[if_neg e,if_neg e]
theorem lH! {κ ι:Type} [DecidableEq κ] {l:NLG κ ι}{q:κ}{b:Nat}{ss:List ι}(h:lookA l q=some (b,ss)):innG l q=ss:=by unfold innG;rw[h]
theorem lI! {κ ι:Type} [DecidableEq κ] {l:NLG κ ι}{q:κ}(h:lookA l q=none):innG l q=[]:=by unfold innG;rw[h]
def ObjJ (T:List Tup)(t:Tup)(j:Nat)(o:O2):Prop:=ObjIn T o\/(1<=j/\o=t.o.obj)\/(2<=j/\o=t.s.obj)
def What (l:OL)(Q:O2->Prop):Prop:=∀typ o,o∈innG l typ↔o.t=typ/\Q o
theorem What.congr {l:OL}{Q Q':O2->Prop}(h:What l Q)(e:∀o,Q o↔Q' o):What l Q':=fun typ o=>by rw[h typ o,e o]
theorem What.fresh {l:OL}{Q:O2->Prop}{q:ByteArray}(h:What l Q)(hl:lookA l q=none)(b:Nat):What (putA l q (b,[])) Q:=fun typ o=>by
 rw[<-h typ o,jO!];by_cases e:q=typ
 ·subst e;rw[if_pos rfl,lI! hl]
 ·rw[if_neg e]
theorem What.mark {l:OL}{Q:O2->Prop}{q:O2}(h:What l Q) {b:Nat}{ss:List O2}(hl:lookA l q.t=some (b,ss)):What (putA l q.t (b,if q∈ss then ss else ss++[q])) (fun o=>Q o\/o=q):=fun typ o=>by
 rw[jO!];have hs:=h q.t;rw[lH! hl]at hs;by_cases e:q.t=typ
 ·subst e;rw[if_pos rfl]
  have h1:o∈(if q∈ss then ss else ss++[q])↔o∈ss\/o=q:=by
   split
   ·next hq=>exact⟨.inl,fun h=>h.elim id fun e=>e▸hq⟩
   ·simp
  rw[h1,hs o];constructor
  ·rintro(⟨h1,a⟩ | rfl)
   ·exact⟨h1,.inl a⟩
   ·exact⟨rfl,.inr rfl⟩
  ·rintro⟨h1,a | rfl⟩
   ·exact .inl ⟨h1,a⟩
   ·exact .inr rfl
 ·rw[if_neg e,h typ o];constructor
  ·rintro⟨h1,a⟩;exact⟨h1,.inl a⟩
  ·rintro⟨h1,a | rfl⟩
   ·exact⟨h1,a⟩
   ·exact absurd h1 e
theorem dl! (T:List Tup)(t:Tup)(o:O2):(ObjJ T t 1 o↔ObjJ T t 0 o\/o=t.o.obj)/\(ObjJ T t 2 o↔ObjJ T t 1 o\/o=t.s.obj)/\(ObjJ T t 0 o↔ObjIn T o)/\(ObjJ T t 2 o↔ObjIn (T++[t]) o):=by
 unfold ObjJ;refine⟨by simp,by simp[or_assoc],by simp,?_⟩;unfold ObjIn;simp only[u3!,n9!,n0!,true_and];constructor
 ·rintro(⟨x,hx,h⟩ | h | h)
  ·exact⟨x,.inl hx,h⟩
  ·exact⟨t,.inr rfl,.inl h.2.symm⟩
  ·exact⟨t,.inr rfl,.inr h.symm⟩
 ·rintro⟨x,hx | rfl,h⟩
  ·exact .inl ⟨x,hx,h⟩
  ·exact .inr (h.imp (fun e=>⟨by omega,e.symm⟩) Eq.symm)
theorem ik! {α:Type}(p:α->Bool) {l:List α}{i:Nat}(h:i<l.length):(l.take (i+1)).filter p=(l.take i).filter p++if p l[i]then [l[i]]else []:=by
 rw[n2! h,List.filter_append];congr 1
 cases e:p l[i] <;> simp[e]
theorem hT! (l:List Tup)(v:Value)(w:World)(h:Sl (· < w.heap.size) w 6 v (tuCs l))(hl:l.length<=1000000)(hok:∀t∈l,t.Ok) :
  Calls prog 20 #[v] w fun e w'=>∃b T,e= .returned (.pointer (some ⟨b,0,none⟩))/\SetT l T/\pL! w' b T/\Below w.heap.size w w':=by
 obtain⟨ao,n,c,rfl,hn,b8,b9⟩:=h.len;obtain rfl:n=l.length:=by rw[ag!]at hn;omega
 have HL:=h! hl;have I:=h! hok;have HS:=h! h;have ba:=@run_makeMap prog;clear h hl hok hn;go_enter func20,ntmps20
 go_wp2_with fail
 obtain⟨w1,af⟩:=e! (w.alloc (.map #[] 0));rw[<-af];obtain⟨w2,a4⟩:=e! (w1.alloc (.map #[] 0));rw[<-a4];obtain⟨w3,E⟩:=e! (w2.alloc (.map #[] 0));rw[<-E];obtain⟨bc,ay⟩:=e! (w.heap.size+1+1+1);obtain⟨m3,ak⟩:=e! (w.heap.size+1+1);obtain⟨m2,ar⟩:=e! (w.heap.size+1);rw[<-ay,<-ak,<-ar];obtain⟨w4,ai⟩:=e! (w3.alloc (.cells #[.map (some w.heap.size),.map (some m2),.map (some m3)] 149));rw[<-ai];have e1:w1.heap.size=m2:=by rw[af,ar];simp
 have e2:w2.heap.size=m3:=by rw[a4,ak];simp[e1,ar]
 have e3:w3.heap.size=bc:=by rw[E,ay];simp[e2,ak]
 have aQ:Ext w w1:=xa! af
 have aw:Ext w1 w2:=xa! a4
 have an:Ext w2 w3:=xa! E
 have ae:Ext w3 w4:=xa! ai
 have ag:Blk w4 bc #[.map (some w.heap.size),.map (some m2),.map (some m3)] 149:=by rw[ai,<-e3];exact Blk.made _ _ _
 have aZ:MR prog 32 pV subE w4 w.heap.size w.heap.size (ak! []):=MR.up (by rw[af];exact MR.made _ _) (aw.trans (an.trans ae));have b2:MR prog 33 pV pntE w4 w.heap.size m2 (aZ! []):=MR.up (w:=w2) (by rw[a4,<-e1];exact MR.made _ _) (an.trans ae);have aO:ONest w4 m3 []:=pQ!.below (w:=w3) ⟨by rw[E,<-e2];exact Mp.made _,(fun x hx=>by cases hx),by simp⟩ ae;have HB:=h! ag;have HM:=h! (And.intro aZ (And.intro b2 aO));have HX:=h! (aQ.trans (aw.trans (an.trans ae)));have HN:Hid (w.heap.size<=m2/\w.heap.size<=m3/\w.heap.size≠m2/\w.heap.size≠m3/\m2≠m3):=h! (by omega);clear af a4 E ai e1 e2 e3 aQ aw an ae ag aZ b2 aO ay ak ar w1 w2 w3;refine(hz! ao l.length c w4).mono ?_;rintro e w5 ⟨rfl,aj⟩;have a0:=h! (show Ext w4 w5 from xa! aj);have HP:=h! (hH! w5 w4.heap.size ao c l (by have:=HL.out;omega) (by rw[aj];simp) (by rw[aj];exact(Blk.made w4 _ _).cells 0) ((HS.out.same (Same.below (HX.out.trans a0.out))).mono fun x hx=>n1! hx (HX.out.trans a0.out).size));clear aj;go_wp2_with fail
 refine HP.out.mono ?_;rintro e w6 ⟨v6,s0,rfl,k,D,G,aa⟩;have aG:=h! (oA! k D)
 have aY:=h! (show(dd s0).length<=1000000 from by
  have h1:=HL.out
  have h2:(dd s0).length<=s0.length:=by
   have:=(bk! (u:=s0) (UpT.nodup (dd_up D)) fun x hx=>(nZ! s0 x).1 hx);exact this
  rw[k.length_eq]at h2;omega)
 have aD:Hid (∀t∈dd s0,t.Ok):=h! (fun t ht=>I.out t (k.mem_iff.1 ((nZ! s0 t).1 ht)));have HC:=h! (gr! v6 s0 w6 G (by have:=HL.out;rw[k.length_eq];omega));have b1:=h! G;have aF:=h! (a0.out.trans aa);clear HP k D G aa;go_wp2_with fail
 refine HC.out.mono ?_;rintro e w7 ⟨v7,rfl,O,aX⟩;have a1:=h! (show Ext w4 w7 from(Below.trans aF.out (Kept.below (B:=w4.heap.size) aX fun b hb=>⟨n1! hb aF.out.size,fun e=>by have:=(b1.out.block b e).1;have:=a0.out.size;omega⟩)));have aC:Hid (Own w7 w.heap.size 67 6 v7 (tuCs (dd s0))):=h! (O.low (n6! HX.out.size a0.out.size));clear HC b1 aF O aX;generalize dd s0=s at *;obtain⟨a7,n7,c7,rfl,aT,-,-⟩:=aC.out.sl.len;obtain rfl:n7=s.length:=by rw[ag!]at aT;omega
 clear aT;have HI:=h! (show NbI w w7 bc w.heap.size m2 m3 [] [] [] (.slice a7 s.length c7) s from⟨HB.out.below a1.out,HM.out.1.up a1.out,HM.out.2.1.up a1.out,HM.out.2.2.below a1.out,aC.out,⟨HN.out.2.2.1,by simp[nBG];exact HN.out.2.2.2.1,by simp[nBG];exact HN.out.2.2.2.2⟩,⟨n0! _,HN.out.1,by simp[nBG];exact HN.out.2.1⟩,HX.out.trans a1.out⟩);clear HB HM aC a1 a0 I HS HL HX;go_wp2_with fail
 go_loopw [20] (fun ii wr=>∃(i:Nat) (lb:OL),i<=s.length/\ii= .int .i64 i/\NbI w wr bc w.heap.size m2 m3 lb ((s.take i).filter fun t=>chkT t) ((s.take i).filter fun t=>chkT t) (.slice a7 s.length c7) s/\What lb (ObjIn ((s.take i).filter fun t=>chkT t))) (fun ii _=>s.length-(intOf ii).toNat)
 case atStart=>exact⟨0,[],by omega,rfl,HI.out,fun typ o=>by simp[innG,lookA,ObjIn]⟩
 case round =>
  obtain⟨i,lb,hi,rfl,a6,Q⟩:=hrel;have A:=h! a6;have a3:=h! Q;clear HI a6 Q;by_cases hlt:i<s.length
  ·have ap:=h! (ik! (fun t=>chkT t) hlt);have aN:=aD.out _ (n5! hlt);have aq:=h! hlt
   obtain⟨g,rfl⟩:∃g,a7=some ⟨g,0,none⟩:=by
    rcases A.out.row.shape with⟨h1,_⟩|⟨g,n,c,h1⟩
    ·injection h1 with _ h1 _;omega
    ·exact⟨g,by injection h1⟩
   obtain⟨d0,d1,d2,d3,d4,d5⟩:=A.out.row.tupAt i hlt;have av:=h! (show wrap64 ((i:Int)+1)=((i+1:Nat):Int)from by have:=aY.out;unfold wrap64;omega);have aS:=h! (show((s.take i).filter fun t=>chkT t).length<=1000000 from n6! (x8! _ _) (by rw[x4!];have:=aY.out;omega));generalize s[i]=x at *;generalize hT:(s.take i).filter (fun t=>chkT t)=T at *;obtain⟨⟨ot,oi,a⟩,⟨st,si,sr⟩⟩:=x;have I:=h! aN;clear aN hT;have aE:=h! (Blk.made wr #[.string ot,.string oi,.string a,.string st,.string si,.string sr] 67);have ht:=aE.out.cells;have b0:=h! (Ext.alloc wr (.cells #[.string ot,.string oi,.string a,.string st,.string si,.string sr] 67));have al:=h! (mg! ⟨⟨ot,oi,a⟩,⟨st,si,sr⟩⟩ I.out (wr.alloc (.cells #[.string ot,.string oi,.string a,.string st,.string si,.string sr] 67)));unfold tV at al;dsimp only at al d0 d1 d2 d3 d4 d5;have b7:(i:Int)<(s.length:Int):=by omega
   clear hlt;go_wp2_with fail
   clear d0 d1 d2 d3 d4 d5 ht b7;refine al.out.mono ?_;rintro e w2 ⟨rfl,aJ⟩;have aB:=h! (Ext.trans b0.out aJ);have X:=h! (aE.out.below aJ);clear al aJ aE b0;generalize wr.heap.size=tb at *;rcases hck:chkT ⟨⟨ot,oi,a⟩,⟨st,si,sr⟩⟩with _ | _
   ·have ad:chkN ⟨⟨ot,oi,a⟩,⟨st,si,sr⟩⟩=2:=by simp[chkN,hck]
    have ac:=h! (show(s.take (i+1)).filter (fun t=>chkT t)=T from by rw[ap.out,hck];simp);rw[ad];clear ad hck ap;go_wp2_with fail
    go_roundw
    case rel=>exact⟨i+1,lb,by have:=aq.out;omega,by rw[av.out],by rw[ac.out];exact A.out.ext aB.out,by rw[ac.out];exact a3.out⟩
    case measure=>have:=aq.out;rw[av.out];simp[intOf];omega
   ·have ad:chkN ⟨⟨ot,oi,a⟩,⟨st,si,sr⟩⟩=0:=by simp[chkN,hck]
    have ac:=h! (show(s.take (i+1)).filter (fun t=>chkT t)=T++[⟨⟨ot,oi,a⟩,⟨st,si,sr⟩⟩]from by rw[ap.out,hck];simp);rw[ad];clear ad hck ap;have b5:=X.out.cells;have aI:=h! (Ext.alloc w2 (.cells #[.string ot,.string oi,.string a] 32));have aK:=h! (Blk.made w2 #[.string ot,.string oi,.string a] 32);have az:=h! ((A.out.ext aB.out).ext aI.out);have V:=h! (X.out.below aI.out);go_wp2_with fail
    clear b5 X aB A;obtain⟨w3,E⟩:=e! (w2.alloc (.cells #[.string ot,.string oi,.string a] 32));rw[<-E]at aK az V ⊢;generalize w2.heap.size=pb at *;clear E aI;obtain⟨wd,r⟩:=e! (World.drew w3);have DX:=h! (show Ext w3 wd from xd! r);have DN:=h! (az.out.ext DX.out);have DT:=h! (V.out.below DX.out);have DP:=h! (aK.out.below DX.out);refine bx! (fun j=>decide (8<=j)) (Ext wd) (by rw[<-r];exact Ext.refl _) (by kernel_rfl) (by kernel_rfl) (fun _ _ d _ _ h=>by cases d <;> exact h) ?_;rw[<-r];clear r az V aK DX;have h1:=fun W (hW:Ext wd W)=>(DN.out.box.below hW).cells;have h2:=fun W (hW:Ext wd W)=>(DT.out.below hW).cells;have h3:=fun W (hW:Ext wd W)=>(DP.out.below hW).cells;(refine WalkS.tk [0,1,2,3,4,5,6] ?_;(iterate 7 (refine z! ?_));refine TkS.n ?_)
    clear h1 h2 h3;refine oS! 7 ?_;refine b! ?_;intro K hK;go_simp;refine hK.out _ _ (Ext.alloc _ _) ?_;clear hK;refine WalkS.rest (by kernel_rfl) ?_;have EX:=h! (Ext.alloc wd (.cells #[.string st,.string si,.string sr] 33));have EL:=h! (Blk.made wd #[.string st,.string si,.string sr] 33);obtain⟨we,L⟩:=e! (wd.alloc (.cells #[.string st,.string si,.string sr] 33));rw[<-L]at EX EL ⊢;clear L;have EN:=h! (DN.out.ext EX.out);obtain⟨aH,c1,b6,v,a9,U,a5,aA,F⟩:=EN.out.subs.entry lj! je! Tryz.underlying145 Tryz.zeroValue42 (eD! ⟨ot,oi,a⟩ I.out.1);have p:=a9 _ rfl;unfold pV at p;dsimp only at p;have Z:=aS.out;have ax:(ak! T ⟨ot,oi,a⟩).length<=T.length:=by unfold ak!;rw[x1!];exact x8! _ _
    have C:=h! (show(subE.enc ⟨st,si,sr⟩).length=3/\(List.flatMap subE.enc (ak! T ⟨ot,oi,a⟩)).length<=3000000 from⟨rfl,by rw[eQ!];show _*3<=_;omega⟩);have a8:Hid (wd.heap.size≠w.heap.size):=h! (fun e=>EN.out.subs.notCells _ _ _ (e▸EL.out));clear Z ax a9;refine ob! 8 ?_;intro K hK;go_simp;refine hK.out _ _ trivial ?_;clear hK p;(refine WalkN.tk [9,11] ?_;(iterate 2 (refine c! ?_));refine TkN.n ?_)
    refine ob! 10 ?_;intro K hK;refine bD! subsT (.tmp 37) (.tmp 40) rfl rfl a5 (m:=1) (news:=subE.enc ⟨st,si,sr⟩) rfl rfl (fun j u hu=>?_) (fun u hu=>hR! _ u hu) (by have:=C.out.1;have:=C.out.2;omega) (by have:=C.out.1;have:=C.out.2;omega) (by rw[aI!];exact EN.out.low.size) (fun v2 w9 hown9 hwh9 hg9=>?_)
    ·rw[Addr.add_lit,Nat.zero_add,show(setBlock we w.heap.size (.map aH c1)).cell? _=we.cell? _ from World.cell?_of_block (ax! we _ _ _ a8.out),EL.out.cells];simpa [subE,pC] using hu
    refine hK.out _ _ trivial ?_;clear hK;simp only[Act.put,pA,pZ,pS];obtain⟨wa,f,ah,ab⟩:=F w9 v2 ⟨st,si,sr⟩ hg9 (by rw[x9!,y5!,List.flatMap_nil,List.append_nil];exact hown9) hwh9;unfold goInt at f;have OA:=oQ! hg9 ab;have AN:=h! (EN.out.sub (t:=⟨⟨ot,oi,a⟩,⟨st,si,sr⟩⟩) U OA ah);have AT:=h! (OA.blk U (DT.out.below EX.out) (by decide) (fun e=>EN.out.subs.notCells _ _ _ (e▸DT.out.below EX.out)));have AP:=h! (OA.blk U (DP.out.below EX.out) (by decide) (fun e=>EN.out.subs.notCells _ _ _ (e▸DP.out.below EX.out)));clear hown9 hwh9 hg9 ah ab OA F U a5 aA EN EL EX DN DT DP C a8;refine ob! 12 ?_;intro K hK;go_simp;refine hK.out _ _ trivial ?_;clear hK f;refine d! ?_;generalize wd.heap.size=nwd at *;clear we wd w9;go_wp2_with fail
    obtain⟨wd,r⟩:=e! (World.drew wa);have DX:=h! (show Ext wa wd from xd! r);have DN:=h! (AN.out.ext DX.out);have DT:=h! (AT.out.below DX.out);have DP:=h! (AP.out.below DX.out);refine bx! (fun j=>decide (8<=j)) (Ext wd) (by rw[<-r];exact Ext.refl _) (by kernel_rfl) (by kernel_rfl) (fun _ _ d _ _ h=>by cases d <;> exact h) ?_;rw[<-r];clear r AN AT AP DX;have h1:=fun W (hW:Ext wd W)=>(DN.out.box.below hW).cells;have h2:=fun W (hW:Ext wd W)=>(DT.out.below hW).cells;have h3:=fun W (hW:Ext wd W)=>(DP.out.below hW).cells;(refine WalkS.tk [0,1,2,3,4,5,6] ?_;(iterate 7 (refine z! ?_));refine TkS.n ?_)
    clear h1 h2 h3;refine oS! 7 ?_;refine b! ?_;intro K hK;go_simp;refine hK.out _ _ (Ext.alloc _ _) ?_;clear hK;refine WalkS.rest (by kernel_rfl) ?_;have EX:=h! (Ext.alloc wd (.cells #[.string ot,.string oi,.string a] 32));have EL:=h! (Blk.made wd #[.string ot,.string oi,.string a] 32);obtain⟨we,L⟩:=e! (wd.alloc (.cells #[.string ot,.string oi,.string a] 32));rw[<-L]at EX EL ⊢;clear L;have EN:=h! (DN.out.ext EX.out);obtain⟨aH,c1,b6,v,a9,U,a5,aA,F⟩:=EN.out.pnts.entry subK je! Tryz.underlying146 Tryz.zeroValue59 (oy! ⟨st,si,sr⟩ I.out.2);have p:=a9 _ rfl;unfold pV at p;dsimp only at p;have Z:=aS.out;have ax:(aZ! T ⟨st,si,sr⟩).length<=T.length:=by unfold aZ!;rw[x1!];exact x8! _ _
    have C:=h! (show(pntE.enc ⟨ot,oi,a⟩).length=3/\(List.flatMap pntE.enc (aZ! T ⟨st,si,sr⟩)).length<=3000000 from⟨rfl,by rw[eQ!];show _*3<=_;omega⟩);have a8:Hid (wd.heap.size≠m2):=h! (fun e=>EN.out.pnts.notCells _ _ _ (e▸EL.out));clear Z ax a9;refine ob! 8 ?_;intro K hK;go_simp;refine hK.out _ _ trivial ?_;clear hK p;(refine WalkN.tk [9,11] ?_;(iterate 2 (refine c! ?_));refine TkN.n ?_)
    refine ob! 10 ?_;intro K hK;refine bD! ja! (.tmp 50) (.tmp 52) rfl rfl a5 (m:=1) (news:=pntE.enc ⟨ot,oi,a⟩) rfl rfl (fun j u hu=>?_) (fun u hu=>hR! _ u hu) (by have:=C.out.1;have:=C.out.2;omega) (by have:=C.out.1;have:=C.out.2;omega) (by rw[aI!];exact EN.out.low.size) (fun v2 w9 hown9 hwh9 hg9=>?_)
    ·rw[Addr.add_lit,Nat.zero_add,show(setBlock we m2 (.map aH c1)).cell? _=we.cell? _ from World.cell?_of_block (ax! we _ _ _ a8.out),EL.out.cells];simpa [pntE,pC] using hu
    refine hK.out _ _ trivial ?_;clear hK;simp only[Act.put,pA,pZ,pS];obtain⟨wb,f,ah,ab⟩:=F w9 v2 ⟨ot,oi,a⟩ hg9 (by rw[x9!,y5!,List.flatMap_nil,List.append_nil];exact hown9) hwh9;unfold goInt at f;have OA:=oQ! hg9 ab;have BN:=h! (EN.out.pnt (t:=⟨⟨ot,oi,a⟩,⟨st,si,sr⟩⟩) U OA ah);have BT:=h! (OA.blk U (DT.out.below EX.out) (by decide) (fun e=>EN.out.pnts.notCells _ _ _ (e▸DT.out.below EX.out)));clear hown9 hwh9 hg9 ah ab OA F U a5 aA EN EL EX DN DT DP C a8;refine ob! 12 ?_;intro K hK;go_simp;refine hK.out _ _ trivial ?_;clear hK f;refine d! ?_;generalize wd.heap.size=nwd at *;clear we wd w9;have bt:=BT.out.cells;go_wp2_with fail
    clear bt;go_loopw [62] (fun jj wr=>∃(j:Nat) (lb:OL),j<=2/\jj= .int .i64 j/\NbI w wr bc w.heap.size m2 m3 lb (T++[⟨⟨ot,oi,a⟩,⟨st,si,sr⟩⟩]) (T++[⟨⟨ot,oi,a⟩,⟨st,si,sr⟩⟩]) (.slice (some ⟨g,0,none⟩) s.length c7) s/\What lb (ObjJ T ⟨⟨ot,oi,a⟩,⟨st,si,sr⟩⟩ j)) (fun jj _=>2-(intOf jj).toNat)
    case atStart=>exact⟨0,lb,by omega,rfl,BN.out,a3.out.congr fun o=>(dl! T _ o).2.2.1.symm⟩
    case round =>
     obtain⟨j,a2,hj,rfl,a6,b3⟩:=hrel;have JN:=h! a6;have JW:=h! b3;clear a6 b3 BN a3 BT;by_cases hlt:j<2
     ·obtain⟨o,hok,aR,R⟩:∃o:O2,o.Ok/\(∀W,(Instr.index 156 (.agg #[.string ot,.string oi,.string st,.string si]) (.int .i64 j)).run prog W= .ok (.agg #[.string o.t,.string o.i]) W)/\∀y,ObjJ T ⟨⟨ot,oi,a⟩,⟨st,si,sr⟩⟩ (j+1) y↔ObjJ T ⟨⟨ot,oi,a⟩,⟨st,si,sr⟩⟩ j y\/y=o:=by
       have:j=0\/j=1:=by omega
       rcases this with rfl | rfl
       ·exact⟨⟨ot,oi⟩,⟨I.out.1.1,I.out.1.2.1⟩,fun W=>(mw! ot oi st si W).1,fun y=>(dl! T _ y).1⟩
       ·exact⟨⟨st,si⟩,⟨I.out.2.1,I.out.2.2.1⟩,fun W=>(mw! ot oi st si W).2,fun y=>(dl! T _ y).2.1⟩
      obtain⟨o1,o2⟩:=o;have am:=h! hok;have b4:=h! R;have aV:=h! (show wrap64 ((j:Int)+1)=((j+1:Nat):Int)from by unfold wrap64;omega);have aL:=h! hlt;have aM:(j:Int)<2:=by omega
      dsimp only at aR;clear hok R hlt;go_wp2_with fail
      clear aR aM;obtain⟨wd,r⟩:=e! (World.drew (wr.alloc (.cells #[.string o1,.string o2] 30)));have QX:Ext wr wd:=by rw[r];exact(Ext.alloc _ _).trans (Ext.drew _)
      have QN:=h! (JN.out.ext QX);have QO:=h! (show Blk wd wr.heap.size #[.string o1,.string o2] 30 from by rw[r];exact(Blk.made wr _ _).drew);refine re! r ?_;clear r QX JN;generalize wr.heap.size=ob at *;have h1:=fun W (hW:Ext wd W)=>(QN.out.box.below hW).cells;have h2:=fun W (hW:Ext wd W)=>(QO.out.below hW).cells;have h3:=fun W (hW:Ext wd W)=>(QN.out.ext hW).objs.look strK bw! Tryz.underlying147 (Tryz.zeroValue157 W) (cm! o1 am.out.1);have h4:=nz!;(refine WalkN.tk [0,1,2,3,4,5,6,7] ?_;(iterate 8 (refine c! ?_));refine TkN.n ?_)
      refine d! ?_;clear h1 h2 h3 h4;rcases H:lookA a2 o1 with _ | ⟨bi,ss⟩
      case' none =>
       have au:(mOG a2 o1).isNone=true:=by unfold mOG;rw[H];rfl
       rw[au];go_wp2_with fail
       obtain⟨wq,M⟩:=e! (World.drew wd);have QX:Ext wd wq:=xd! M
       have PN:=h! (QN.out.ext QX);have PO:=h! (QO.out.below QX);refine as! 7 (Ext wq) (by rw[<-M];exact Ext.refl _) (by kernel_rfl) (by kernel_rfl) (fun _ _ d _ _ h=>by cases d <;> exact h) ?_;rw[<-M];clear M QX QN QO;have h1:=fun W (hW:Ext wq W)=>(PN.out.box.below hW).cells;have h2:=fun W (hW:Ext wq W)=>(PO.out.below hW).cells;(refine WalkL.tk [0,1,2,3,4,5] ?_;(iterate 6 (refine l! ?_));refine TkL.n ?_)
       clear h1 h2;refine oL! 6 ?_;refine b! ?_;intro K hK;go_simp;refine hK.out _ _ (Ext.alloc _ _) ?_;clear hK;obtain⟨we,L⟩:=e! (wq.alloc (.map #[] 0));have EX:Ext wq we:=xa! L
       have EN:=h! (PN.out.ext EX);have EO:=h! (PO.out.below EX);have EM:=h! (show Mp prog 30 oV bV we wq.heap.size (blG [])from by rw[L];exact Mp.made _);have EF:Hid (wq.heap.size∉nBG m3 a2/\wq.heap.size≠w.heap.size/\wq.heap.size≠m2):=h! ⟨fun h=>Nat.lt_irrefl _ (PN.out.objs.lt _ h),fun h=>Nat.lt_irrefl _ (h▸PN.out.subs.lt),fun h=>Nat.lt_irrefl _ (h▸PN.out.pnts.lt)⟩;have EB:=h! PN.out.low.size;rw[<-L];clear L EX PN PO;generalize wq.heap.size=bn at *;obtain⟨wf,f,Y,N⟩:=EN.out.objs.top.store strK bw! Tryz.underlying147 (cm! o1 am.out.1) (bn,[]);have RN:=h! (EN.out.obj N (by simp[nBG]) (EN.out.objs.fresh H EM.out EF.out.1 N Y) (fun x hx=>(fE! H x hx).imp id fun e=>by subst e;exact⟨EB.out,EF.out.2.1,EF.out.2.2⟩));have RO:=h! (N.kept.blk EO.out fun e=>EN.out.objs.notBlk EO.out (by rw[e];simp[nBG]));have RW:=h! (JW.out.fresh H bn);have RL:Hid (lookA (putA a2 o1 (bn,[])) o1=some (bn,[])):=h! (by rw[cW!,if_pos rfl]);clear Y N EN EO EM EF EB;refine WalkL.last (by kernel_rfl) (by kernel_rfl) ?_;refine b! ?_;intro K hK;go_simp;refine hK.out _ _ ?_;clear hK f H au;have RF:Hid (∃J bi ss,lookA J o1=some (bi,ss)/\NbI w wf bc w.heap.size m2 m3 J (T++[⟨⟨ot,oi,a⟩,⟨st,si,sr⟩⟩]) (T++[⟨⟨ot,oi,a⟩,⟨st,si,sr⟩⟩]) (.slice (some ⟨g,0,none⟩) s.length c7) s/\Blk wf ob #[.string o1,.string o2] 30/\What J (ObjJ T ⟨⟨ot,oi,a⟩,⟨st,si,sr⟩⟩ j)):=h! ⟨_,_,_,RL.out,RN.out,RO.out,RW.out⟩;clear RL RN RO RW JW;go_wp2_with fail
       clear wd wq we;generalize wf=wx at *
      case' some =>
       have au:(mOG a2 o1).isNone=false:=by unfold mOG;rw[H];rfl
       rw[au];have RF:Hid (∃J bi ss,lookA J o1=some (bi,ss)/\NbI w wd bc w.heap.size m2 m3 J (T++[⟨⟨ot,oi,a⟩,⟨st,si,sr⟩⟩]) (T++[⟨⟨ot,oi,a⟩,⟨st,si,sr⟩⟩]) (.slice (some ⟨g,0,none⟩) s.length c7) s/\Blk wd ob #[.string o1,.string o2] 30/\What J (ObjJ T ⟨⟨ot,oi,a⟩,⟨st,si,sr⟩⟩ j)):=h! ⟨_,_,_,H,QN.out,QO.out,JW.out⟩;clear QN QO JW H;go_wp2_with fail
       generalize wd=wx at *
      all_goals
       obtain⟨J,bi,ss,H,aU,aP,E⟩:=RF.out;have SW:=h! E;have SL:=h! H;obtain⟨wq,M⟩:=e! (World.drew wx);have QX:Ext wx wq:=xd! M
       have PN:=h! (aU.ext QX);have PO:=h! (aP.below QX);refine as! 8 (Ext wq) (by rw[<-M];exact Ext.refl _) (by kernel_rfl) (by kernel_rfl) (fun _ _ d _ _ h=>by cases d <;> exact h) ?_;rw[<-M];clear M QX aU aP E RF;have h1:=fun W (hW:Ext wq W)=>(PN.out.box.below hW).cells;have h2:=fun W (hW:Ext wq W)=>(PO.out.below hW).cells
       have h3:=fun W (hW:Ext wq W)=>show(Instr.lookup 147 (.map (some m3)) (.string o1) false).run prog W= .ok (.map (some bi)) W from by
        have:=(PN.out.ext hW).objs.look strK bw! Tryz.underlying147 (Tryz.zeroValue157 W) (cm! o1 am.out.1);rwa[show mOG J o1=some bi from by unfold mOG;rw[SL.out];rfl]at this
       clear H;(refine WalkL.tk [0,1,2,3,4,5,6,7] ?_;(iterate 8 (refine l! ?_));refine TkL.n ?_)
       clear h1 h2 h3;obtain⟨wf,f,Y,N⟩:=(PN.out.objs.inner _ (aD! SL.out)).store objK hS! Tryz.underlying157 (mx! ⟨o1,o2⟩ am.out) true;rw[oJ!]at Y;dsimp only at f N Y;have aW:bi∈nBG m3 J:=u9! _ (u6!.2 ⟨_,aD! SL.out,rfl⟩);have RN:=h! (PN.out.obj N aW (PN.out.objs.mark SL.out N Y) (fun x hx => .inl (by rw[gj! SL.out]at hx;exact hx)));have RW:=h! ((What.mark (q:=⟨o1,o2⟩) SW.out SL.out).congr fun y=>(b4.out y).symm);clear Y N aW PN PO SW SL;unfold oV bV at f;dsimp only at f;refine WalkL.last (by kernel_rfl) (by kernel_rfl) ?_;refine b! ?_;intro K hK;go_simp;refine hK.out _ _ ?_;clear hK f;go_wp2_with fail
       go_roundw
       case rel=>exact⟨j+1,_,by have:=aL.out;omega,by first | rw[aV.out] | go_num,RN.out,RW.out⟩
       case measure=>have:=aL.out;(try rw[aV.out]);simp[intOf];omega
     ·obtain rfl:j=2:=by omega
      have JJ:=h! (JW.out.congr fun o=>(dl! T _ o).2.2.2);have aM:¬ (((2:Nat):Int)<2):=by omega
      clear JW hlt;go_wp2_with fail
      go_roundw
      case rel=>exact⟨i+1,a2,by have:=aq.out;omega,by rw[av.out],by rw[ac.out];exact JN.out,by rw[ac.out];exact JJ.out⟩
      case measure=>have:=aq.out;rw[av.out];simp[intOf];omega
  ·obtain rfl:i=s.length:=by omega
   rw[u2!]at A a3;go_wp2_with fail
   go_ret
   exact⟨bc,_,rfl,aG.out,⟨w.heap.size,w.heap.size,m2,m3,lb,A.out.box,A.out.subs,A.out.pnts,A.out.objs,A.out.ne,a3.out⟩,A.out.low⟩
end Go.Proofs.YtlhaghoajpglaaaGreat
