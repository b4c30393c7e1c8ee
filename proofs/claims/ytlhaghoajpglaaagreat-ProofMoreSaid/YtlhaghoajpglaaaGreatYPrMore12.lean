/- Lemmas for the claim, no condition. -/
import Derived.Shelf.Small.Strs
import Derived.Test.YtlhaghoajpglaaaGreatYPrMore10
import Derived.RangeFuncNested
set_option maxRecDepth 100000
set_option maxHeartbeats 8000000
namespace Go.Proofs.YtlhaghoajpglaaaGreat
open Go Go.Maps Go.RowKit Go.Proofs.Tryz
theorem mP! (a b:P3)(W:World):(binOp BinOp.eql 33 (pV a) (pV b)).run prog W= .ok (.bool (decide (a=b))) W:=by
 obtain⟨a1,a2,a3⟩:=a;obtain⟨b1,b2,b3⟩:=b;unfold pV;dsimp only;go_simp;simp only[bt!];by_cases h1:a1=b1 <;> by_cases h2:a2=b2 <;> by_cases h3:a3=b3 <;> simp[h1,h2,h3]
section
variable {w w' w0 : World} {gp B B' lo x : Nat} {pv fv pv' v sv rv qv : Value} {ps : List P3} {e : TypeId} {sz : Nat} {xs : List Value} {k : Int} {subs : List P3} {refs : List Int} {q : List (FT × FV3)}
end
theorem hh! {w0 w w':World}{B sz:Nat}{e:TypeId}{v:Value}{xs:List Value}(h:Below B w0 w)(ho:Own w B e sz v xs)(hg:w.grownBy w' v.ownBlock)(hB:B<=w.heap.size):Below B w0 w' :=
 h.trans ⟨hg.os,hg.tape,hg.output,hg.size,fun x hx=>hg.block x (by omega) fun e=>by have:=(ho.block x e.symm).1;omega⟩
theorem FTAt.shape {S:Nat->Prop}{w:World}{r:FT}{v:FV3}(h:FTAt S w r v):∃a1 c1 a2 c2 a4 c4,v=(.slice a1 r.subs.length c1,.slice a2 r.refs.length c2,.slice a4 r.ps.length c4):=by
 obtain⟨v1,v2,v4⟩:=v;obtain⟨h1,h2,-⟩:=(FTAt.iff _ _).1 h;obtain⟨a1,c1,e1,-⟩:=Sl.rows au! (by decide) (show Sl S w 3 v1 (r.subs.flatMap pC)from h1);obtain⟨a2,n2,c2,e2,hn,-,-⟩:=h2.len;obtain⟨a4,c4,e4,-⟩:=h.rows;rw[ad!,Nat.mul_one]at hn;dsimp only at e1 e2 e4;subst e1 e2 e4;rw[<-hn];exact⟨_,_,_,_,_,_,rfl⟩
theorem Sl.int_at {S:Nat->Prop}{w:World}{a:Option Addr}{n c:Nat}{l:List Int}(h:Sl S w 1 (.slice a n c) (ic l)) {i:Nat}(hi:i<l.length):∃b off,a=some ⟨b,off,none⟩/\S b/\w.cell? ⟨b,off+i,none⟩=some (.int .i64 l[i]):=by
 obtain⟨a1,n1,c1,hv,-,-,-,-,d⟩:=h;cases hv;obtain⟨b,off,rfl,hb,d⟩:=d (by intro h;have:=congrArg List.length h;rw[ad!,v6!]at this;omega);exact⟨b,off,rfl,hb,d i _ (by simp[ic,n4! hi])⟩
attribute [local go_sem] Oper.semAt_some
theorem nL! (l:List Tup):(tuCs l).length=l.length*6:=aw! l
theorem nM! (a:List Tup)(b:List Tup):tuCs (a++b)=tuCs a++tuCs b:=dr! a b
theorem mE! (x:Tup):tuCs [x]=tuC x:=by simp[tuCs]
theorem jb! (w:World)(a b c d e f:Value)(t:TypeId):∀j u,[a,b,c,d,e,f][j]?=some u->(w.alloc (.cells #[a,b,c,d,e,f] t)).cell? ((⟨w.heap.size,0,none⟩:Addr).add j)=some u:=fun j u hu=>by
 rw[Addr.add_lit,cell_of_row _ w.heap.size (0+j) #[a,b,c,d,e,f] t (0,0) (heap_alloc_new w _),Nat.zero_add];simpa using hu
theorem nG! (F:Fence)(n:Nat)(h45:F.fn 196)(hro:F.round=none)(hn:2<=n)(g:Nat)(lb:Array Value)(hFg:F.fn g)(eg:∀args w,(callFunc g args).run prog w= .ok (.enter g args) w)
  (S Sp:List Tup->Prop) (N:Nat) (w:World) (hN:N<=137438953472) (hseq:SeqStopsK F (n-1) prog g lb (fun x=>#[tV x]) (Below w.heap.size) S Sp N w) :
  CallsIn F n prog 196 #[.slice none 0 0,.func (.func g) #[] lb] w fun e w'=>∃(v':Value) (ss:List Tup),e= .returned v'/\S ss/\Own w' w.heap.size 67 6 v' (tuCs ss)/\Ext w w':=by
 have h1:1<=n:=by omega
 refine callsIn_of_wp_marks func196 rfl h45 ?_ hro;simp only[ntmps196,List.size_toArray,u7!,v6!,Nat.reduceAdd,Nat.reduceSub,Array.replicate_succ,Array.replicate_zero,List.push_toArray,List.append_toArray,y2!,x2!];gi_wp2
 have bS:=Boxed.new w 27 (.slice none 0 0);have A:Below w.heap.size w (w.alloc (.cells #[.slice none 0 0] 27)):=(Below.refl _ w).alloc (n0! _) _;have a6:(w.alloc (.cells #[.slice none 0 0] 27)).heap.size=w.heap.size+1:=by simp
 have C:KeepsFrom 0 w (w.alloc (.cells #[.slice none 0 0] 27)):=(KeepsOthers.alloc _ _).from _;obtain⟨W0,E⟩:∃W0,w.alloc (.cells #[.slice none 0 0] 27)=W0:=⟨_,rfl⟩;rw[E]at bS A a6 C ⊢;clear E
 refine wpIn_rangeFunc_ownH hro h1 (gf:=g) (lb:=lb) rfl hFg eg hseq belowK_t (belowK_b (n₀:=w.heap.size) (by omega)) A (fun _=>rfl)
  (fun f W=>(∃v',Boxed W w.heap.size 27 v'/\Own W w.heap.size 67 6 v' (tuCs f)/\(∀g,v'.ownBlock=some g->(Value.slice none 0 0).ownBlock=some g\/w.heap.size<=g))/\(Kept (fun b=>b<w.heap.size/\(Value.slice none 0 0).ownBlock≠some b) w W/\KeepsFrom 0 w W))
  (fun _ _ _=>False)
  (OwnFrom.and (gU! w.heap.size w.heap.size 27 67 6 (fun f=>tuCs f) (fun v'=>∀g,v'.ownBlock=some g->(Value.slice none 0 0).ownBlock=some g\/w.heap.size<=g) _) (OwnFrom.and (fv! (fun b hb=>hb.1) (by omega)) (ownFrom_keepsFrom (by omega))))
  (fun _ _ _ _ _ hs _ _=>hs)
  ⟨⟨_,bS,Own.nil _ _ _ _,fun g hg => .inl hg⟩,Below.kept A (fun b hb=>hb.1),C⟩
  (fun x a' W=>∃I,w.heap.size<I/\Blk W I #[.string x.o.t,.string x.o.i,.string x.o.r,.string x.s.t,.string x.s.i,.string x.s.r] 67/\a' = {tmps:=#[.slice none 0 0,.func (.func g) #[] lb,.pointer (some ⟨w.heap.size,0,none⟩),undef,.slice none 0 0,.pointer (some ⟨I,0,none⟩),.func (.func g) #[] lb,tV x,undef,undef,undef,undef,undef],defers:=[]})
  (fun x a' _ X Y row hs hg hr=>by obtain⟨I,h1,h2,h3⟩:=hs;exact⟨I,h1,hp! h2 hg (fun r e=>(hr r e).2),h3⟩)
  ?assign ?body ?done ?stop
 case assign =>
  rintro l2 f ⟨⟨L,R,Q⟩,⟨G,O,M⟩⟩ W K ⟨⟨v',l,j,p⟩,d,y⟩ H;dsimp only[tV];gi_wp2
  refine H _ _ ((KeepsOthers.alloc _ _).from _) ((Below.refl _ _).alloc d.size _) ⟨⟨v',l.alloc _,j.below ((Below.refl _ _).alloc (n0! _) _),p⟩,d.alloc (fun b hb=>n1! hb.1 d.size) _,y.trans ((KeepsOthers.alloc _ _).from _)⟩ ⟨W.heap.size,l.lt,Blk.made W _ _,rfl⟩
 case body =>
  rintro l2 f ⟨⟨L,R,Q⟩,⟨G,O,M⟩⟩ a' W hl ⟨r,hr⟩ ⟨⟨v',l,j,p⟩,d,y⟩ ⟨I,a9,bX,rfl⟩ aa;have cS:=l.cell;have cX:=bX.cells;have a3:=d.size;have a5:(tuCs f).length=f.length*6:=nL! f;have a4:(f.length*6+6)*96<=140737488355328:=by omega
  gi_wp2_with (first
   | (gi_at_builtin;go_loud (
      refine fj! tupT rfl _ _ rfl rfl (j.below ((Below.refl _ _).alloc (n0! _) _)) (ad:=⟨W.heap.size,0,none⟩) (m:=1) (c:=1) (news:=[.string L,.string R,.string Q,.string G,.string O,.string M]) rfl rfl (jb! _ _ _ _ _ _ _ _) (by intro u hu;simp only[v7!,List.not_mem_nil,or_false]at hu;rcases hu with rfl | rfl | rfl | rfl | rfl | rfl <;> rfl) (by simp only[u7!,v6!];omega) (by simp only[u7!,v6!];rw[a5];exact a4) (by simp;omega) ?_;intro v2 w2 hO2 hG2 hg2
      obtain⟨U,J,T,rfl⟩:∃U J T,v2= .slice (some ⟨U,0,none⟩) J T:=by
        rcases hO2.shape with⟨_,h⟩ | h
        · exact absurd h (by simp)
        · exact h
      have q:=(l.alloc (.cells #[.string L,.string R,.string Q,.string G,.string O,.string M] 67)).kept hg2 (dh! (l.alloc _) (by decide) (j.below ((Below.refl _ _).alloc (n0! _) (.cells #[.string L,.string R,.string Q,.string G,.string O,.string M] 67))));have a7:=q.cell;have ab:=q.frozen))
   | gi_in)
  have a1:KeepsFrom 0 W (W.alloc (.cells #[.string L,.string R,.string Q,.string G,.string O,.string M] 67)):=(KeepsOthers.alloc _ _).from _;have a0:=a1.trans (jZ! (j.below ((Below.refl _ _).alloc (n0! _) (.cells #[.string L,.string R,.string Q,.string G,.string O,.string M] 67))) hg2 0);have B:KeepsFrom 0 W (w2.setCell ⟨w.heap.size,0,none⟩ (.slice (some ⟨U,0,none⟩) J T)):=a0.trans ((KeepsOthers.setCell _ _ _).from _)
  have z:Below w.heap.size W (w2.setCell ⟨w.heap.size,0,none⟩ (.slice (some ⟨U,0,none⟩) J T)):=(((Below.refl _ W).alloc a3 _).grown hg2 (by simp;omega) (fun g hg=>by
   rcases p g hg with h | h
   ·cases h
   ·exact h)).setCell (n0! _) _
  refine⟨lS! B _,z,⟨⟨_,q.set _,?_,fun g hg=>?_⟩,?_,y.trans B⟩⟩
  ·have:=hO2.keepOwn (w':=w2.setCell ⟨w.heap.size,0,none⟩ (.slice (some ⟨U,0,none⟩) J T)) (fun g hg=>Below.heap_setCell _ _ _ g (fun e=>dh! q (by decide) hO2 (by rw[hg,e])));rw[nM! f,mE!];exact this
  ·rcases hG2 g hg with h | h
   ·exact p g h
   ·exact .inr (by have:=d.size;simp at h;omega)
  ·have a2:Kept (fun b=>b<w.heap.size/\(Value.slice none 0 0).ownBlock≠some b) (W.alloc (.cells #[.string L,.string R,.string Q,.string G,.string O,.string M] 67)) w2:=⟨hg2.os,hg2.tape,hg2.output,hg2.size,fun b hb=>hg2.block b (by have:=d.size;have:=hb.1;simp;omega) (fun e=>by
    rcases p b e.symm with h | h
    ·exact hb.2 h
    ·have:=hb.1;omega)⟩
   exact((d.alloc (fun b hb=>n1! hb.1 d.size) _).trans a2).set (a:=⟨w.heap.size,0,none⟩) (fun h=>Nat.lt_irrefl _ h.1) _
 case done =>
  rintro D ys W hD hS ⟨⟨v',l,j,_⟩,d,y⟩ H;have cS:=l.cell
  obtain⟨a8,k',c',rfl⟩:∃ao k c,v' = .slice ao k c:=by
   rcases j.shape with⟨rfl,_⟩|⟨g,n,c,rfl⟩
   ·exact⟨_,_,_,rfl⟩
   ·exact⟨_,_,_,rfl⟩
  gi_wp2
  refine⟨by simp,.inl ⟨_,_,rfl,run_takeDeferred H,?_⟩⟩;refine⟨_,results_tmp rfl _ _ _,_,ys,rfl,hS,j.put _ H rfl,⟨d.os,d.tape,d.output,by have:=d.size;simpa using this,fun b hb=>(World.putObj_heap_other (fun e=>by omega)).trans (d.block b ⟨hb,fun e=>by cases e⟩)⟩⟩
 case stop =>
  rintro D c f W _ _ h _;exact h.elim
attribute [local go_sem] Oper.semAt_some
theorem hi! (w:World)(o:Obj):w.grownBy (w.alloc o) none:=⟨rfl,rfl,rfl,by simp,fun b hb _=>Below.heap_alloc w o b hb⟩
theorem le! (F:Fence)(n:Nat)(hf:F.fn 138)(hro:F.round=none)(hn:1<=n)(l Bs n₀ B0:Nat)(ao:Option Addr)(cap:Nat)(zs:List Tup)(hl:zs.length<=1099511627776)(J Jx:List Tup->World->Prop)(hA:AbidesFrom B0 J)
  (hY:∀pre x W,J pre W->pre.length<zs.length->YieldAt F (n-1) prog l #[tV x] W fun e W' =>
   (e= .returned (.bool true)/\J (pre++[x]) W'/\Below n₀ W W')\/(e= .returned (.bool false)/\Jx (pre++[x]) W'))
  (W:World) (hn0:n₀<=W.heap.size) (hBs:W.cell? ⟨Bs,0,none⟩=some (.slice ao zs.length cap)) (hc:Sl (· < n₀) W 6 (.slice ao zs.length cap) (zs.flatMap tuC)) (h0:J [] W) :
  CallsIn F n prog 138 #[.func (.yield l) #[] #[],.pointer (some ⟨Bs,0,none⟩)] W fun e W'=>(∃v,e= .returned v) /\
   ((∃ys,ys=zs/\J ys W')\/(∃pre,pre <+: zs/\Jx pre W')):=by
 refine callsIn_of_wp func138 rfl hf ?_ hro;simp only[ntmps138,List.size_toArray,u7!,v6!,Nat.reduceAdd,Nat.reduceSub,Array.replicate_succ,Array.replicate_zero,List.push_toArray,List.append_toArray,y2!,x2!];gi_wp2
 gi_loopw [7] (fun i wr=>∃k:Nat,k<=zs.length/\i= .int .i64 k/\J (zs.take k) wr/\Below n₀ W wr)
  (fun i _=>zs.length-(intOf i).toNat)
 case atStart=>exact⟨0,v1! _,rfl,h0,Below.refl _ _⟩
 case round =>
  obtain⟨k,hk,rfl,h,f⟩:=hrel;by_cases hlt:k<zs.length
  ·obtain⟨a6,c',a2,-,-,a⟩:=Sl.rows aQ! (by decide) (hc.same (w':=wr) fun x hx=>f.block x hx);cases a2;obtain⟨u,p,rfl,-,a⟩:=a (by omega);have b:=a k hlt;have j:=n2! hlt;have a5:(zs.take k).length<zs.length:=by rw[x4!];omega
   have g:zs.take (k+1) <+: zs:=List.take_prefix _ _;generalize zs[k]=x at *;obtain⟨⟨o,y,t⟩,⟨m,s,q⟩⟩:=x;have c0:wr.cell? ⟨u,p+k*6,none⟩=some (.string o):=b 0 _ rfl;have c1:wr.cell? ⟨u,p+k*6+1,none⟩=some (.string y):=b 1 _ rfl;have c2:wr.cell? ⟨u,p+k*6+2,none⟩=some (.string t):=b 2 _ rfl;have c3:wr.cell? ⟨u,p+k*6+3,none⟩=some (.string m):=b 3 _ rfl;have c4:wr.cell? ⟨u,p+k*6+4,none⟩=some (.string s):=b 4 _ rfl;have c5:wr.cell? ⟨u,p+k*6+5,none⟩=some (.string q):=b 5 _ rfl;have a1:=hA _ _ _ none h (hi! wr (.cells #[.string o,.string y,.string t,.string m,.string s,.string q] 67)) (fun r e=>by cases e);have a3:Below n₀ wr (wr.alloc (.cells #[.string o,.string y,.string t,.string m,.string s,.string q] 67)):=(Below.refl _ _).alloc (n6! hn0 f.size) _;obtain⟨fn,a4,d,a0,hy,hR⟩:=hY _ ⟨⟨o,y,t⟩,⟨m,s,q⟩⟩ _ a1 a5;try unfold tV at hy
   try dsimp only at hy
   clear b a;gi_wp2
   refine hR.mono ?_;rintro e W3 (⟨rfl,hJ3,hk3⟩|⟨rfl,hJx3⟩)
   ·gi_wp2
    go_roundw
    case rel=>exact⟨k+1,by omega,by go_num,by rw[j];exact hJ3,f.trans (a3.trans hk3)⟩
    case measure=>simp[intOf];omega
   ·gi_wp2
    refine bodyPost_ret (results_none rfl _ _ _) rfl ?_;exact⟨⟨_,rfl⟩,.inr ⟨_,g,by rw[j];exact hJx3⟩⟩
  ·obtain rfl:k=zs.length:=by omega
   gi_wp2
   go_end0
   exact⟨⟨_,rfl⟩,.inl ⟨_,u2!,h⟩⟩
theorem jq! (F:Fence)(n:Nat)(hf:F.fn 138)(hro:F.round=none)(hn:1<=n)(Bs:Nat)(ao:Option Addr)(cap:Nat)(zs:List Tup)(hl:zs.length<=1099511627776)(w:World)(hBs:Bs<w.heap.size)
  (hc:w.cell? ⟨Bs,0,none⟩=some (.slice ao zs.length cap)) (hS:Sl (· < w.heap.size) w 6 (.slice ao zs.length cap) (zs.flatMap tuC)) :
  SeqStopsK F n prog 138 #[.pointer (some ⟨Bs,0,none⟩)] (fun x:Tup=>#[tV x]) (Below w.heap.size) (fun ys=>ys=zs) (fun pre=>pre <+: zs) zs.length w:=fun l J Jx W hW hA _ hY h0 =>
 (le! F n hf hro hn l Bs w.heap.size W.heap.size ao cap zs hl J Jx hA hY W hW.size ((hW.cell (p:=⟨Bs,0,none⟩) hBs).trans hc) (hS.same fun x hx=>hW.block x hx) h0).mono fun _ _ h=>h
theorem gH! (ao:Option Addr)(k cap:Nat)(w:World):Calls prog 77 #[.slice ao k cap] w fun e w'=>e= .returned (.func (.func 138) #[] #[.pointer (some ⟨w.heap.size,0,none⟩)])/\w'=w.alloc (.cells #[.slice ao k cap] 27):=by
 go_enter func77,ntmps77
 go_wp2
 go_ret
 exact⟨rfl,rfl⟩
theorem fJ! (w:World)(Bs:Nat)(ao:Option Addr)(cap:Nat)(zs:List Tup)(hl:zs.length<=137438953472)(hBs:Bs<w.heap.size)(hc:w.cell? ⟨Bs,0,none⟩=some (.slice ao zs.length cap))(hS:Sl (· < w.heap.size) w 6 (.slice ao zs.length cap) (zs.flatMap tuC)) :
  Calls prog 136 #[.func (.func 138) #[] #[.pointer (some ⟨Bs,0,none⟩)]] w fun e w'=>∃v',e= .returned v'/\Own w' w.heap.size 67 6 v' (tuCs zs)/\Ext w w':=by
 have HP:=h! (callsIn_wide.1 (nG! Fence.wide 3 trivial rfl (by omega) 138 _ trivial (enters_of func138 (by kernel_rfl) rfl) _ _ zs.length w hl (jq! Fence.wide 2 trivial rfl (by omega) Bs ao cap zs (by omega) w hBs hc hS)));clear hS hc;go_enter func136,ntmps136
 go_wp2_with fail
 refine HP.out.mono ?_;rintro e w1 ⟨v,ss,rfl,rfl,ho,hx⟩;go_wp2
 go_ret
 exact⟨v,rfl,ho,hx⟩
def ltT (a b:Tup):Bool:=if a.o=b.o then ltP a.s b.s else ltP a.o b.o
def cmpT (a b:Tup):Int:=if ltT a b then -1 else if a=b then 0 else 1
theorem nX! {a b:P3}(h:ltP a b=true):a≠b:=fun e=>by subst e;rw[kQ!]at h;cases h
theorem eP! (a:Tup):ltT a a=false:=by simp[ltT,kQ!]
theorem dX! {a b:Tup}(h:ltT a b=false)(hne:a≠b):ltT b a=true:=by
 unfold ltT at *;by_cases h1:a.o=b.o
 ·rw[if_pos h1]at h;rw[if_pos h1.symm];refine gl! h fun h2=>hne ?_;cases a;cases b;simp_all
 ·rw[if_neg h1]at h;rw[if_neg (Ne.symm h1)];exact gl! h h1
theorem dW! {a b c:Tup}(h:ltT a b=true)(k:ltT b c=true):ltT a c=true:=by
 unfold ltT at *;by_cases h1:a.o=b.o <;> by_cases k1:b.o=c.o
 ·rw[if_pos h1]at h;rw[if_pos k1]at k;rw[if_pos (h1.trans k1)];exact gk! h k
 ·rw[if_neg k1]at k;rw[if_neg (h1▸k1),h1];exact k
 ·rw[if_neg h1]at h;rw[if_neg (k1▸h1),<-k1];exact h
 ·rw[if_neg h1]at h;rw[if_neg k1]at k;have:=gk! h k;rw[if_neg (nX! this)];exact this
theorem gi! (a b:Tup):Go.Proofs.ltOf cmpT a b=ltT a b:=by
 unfold Go.Proofs.ltOf cmpT;cases h:ltT a b with
 | true=>simp
 | false =>
  simp only[Bool.false_eq_true,if_false];split <;> simp
theorem swoT:Go.Sort.SWO (Go.Proofs.ltOf cmpT) where
 irrefl x:=by rw[gi!];exact eP! x
 trans x y z h k:=by rw[gi!]at *;exact dW! h k
 ntrans x y z h k:=by
  rw[gi!]at *;cases hxz:ltT x z with
  | false=>rfl
  | true =>
   by_cases e1:x=y
   ·subst e1;rw[hxz]at k;cases k
   ·have h1:=dX! h e1;have h2:=dW! h1 hxz;rw[h2]at k;cases k
def UpT (l:List Tup):Prop:=l.Pairwise fun a b=>ltT a b=true
theorem UpT.nodup {l:List Tup}(h:UpT l):l.Nodup:=h.imp fun {a b} hab e=>by subst e;rw[eP!]at hab;cases hab
theorem UpT.uniq:∀ {l m:List Tup},UpT l->UpT m->(∀t,t∈l↔t∈m)->l=m
 | [],[],_,_,_=>rfl
 | [],b::m,_,_,h=>by have:=(h b).2 (by simp);cases this
 | a::l,[],_,_,h=>by have:=(h a).1 (by simp);cases this
 | a::l,b::m,hl,hm,h=>by
  have hl1:=List.pairwise_cons.1 hl;have hm1:=List.pairwise_cons.1 hm
  have hab:a=b:=by
   rcases v7!.1 ((h a).1 (by simp))with e | e
   ·exact e
   ·rcases v7!.1 ((h b).2 (by simp))with e2 | e2
    ·exact e2.symm
    ·have h1:=hm1.1 a e;have h2:=hl1.1 b e2;have:=dW! h1 h2;rw[eP!]at this;cases this
  subst hab;congr 1
  refine UpT.uniq hl1.2 hm1.2 fun t=>⟨fun ht=>?_,fun ht=>?_⟩
  ·rcases v7!.1 ((h t).1 (u9! _ ht))with e | e
   ·subst e;have:=hl1.1 t ht;rw[eP!]at this;cases this
   ·exact e
  ·rcases v7!.1 ((h t).2 (u9! _ ht))with e | e
   ·subst e;have:=hm1.1 t ht;rw[eP!]at this;cases this
   ·exact e
theorem UpT.filter {l:List Tup}(h:UpT l)(p:Tup->Bool):UpT (l.filter p):=List.Pairwise.filter _ h
structure SetT (l T:List Tup):Prop where
 up:UpT T
 mem:∀t,t∈T↔t∈l/\chkT t=true
theorem SetT.uniq {l T U:List Tup}(h:SetT l T)(k:SetT l U):T=U:=h.up.uniq k.up fun t=>(h.mem t).trans (k.mem t).symm
theorem SetT.len {l T:List Tup}(h:SetT l T):T.length<=l.length:=by
 have:∀ {l u:List Tup},l.Nodup->(∀x∈l,x∈u)->l.length<=u.length:=by
  intro l;induction l with
  | nil=>intro u _ _;exact v1! _
  | cons a l ih =>
   intro u hn hs;obtain⟨p,q,rfl⟩:=List.append_of_mem (hs a y4!);rw[List.nodup_cons]at hn
   have h1:=ih (u:=p++q) hn.2 fun x hx=>by
    have h2:=hs x (u9! _ hx);rcases u3!.1 h2 with h3 | h3
    ·exact List.mem_append_left _ h3
    ·rcases v7!.1 h3 with h3 | h3
     ·subst h3;exact absurd hx hn.1
     ·exact List.mem_append_right _ h3
   simp only[u7!,u4!]at h1 ⊢;omega
 exact this h.up.nodup fun x hx=>((h.mem x).1 hx).1
end Go.Proofs.YtlhaghoajpglaaaGreat
namespace Go.Proofs.YtlhaghoajpglaaaGreat
open Go Go.RowKit Go.Shelf Go.Proofs.Tryz
theorem Gr.fields {w w':World}(h:Gr w w'):w'.tape=w.tape/\w'.os=w.os/\w'.output=w.output/\w.drawn<=w'.drawn:=by
 obtain⟨q,os,rfl⟩:=h;exact⟨rfl,rfl,rfl,by simp[Sort.grow,World.drewN]⟩
theorem Gr.of {w w':World}(ht:w'.tape=w.tape)(ho:w'.os=w.os)(hp:w'.output=w.output)(hd:w.drawn<=w'.drawn)(hz:w.heap.size<=w'.heap.size)(hk:∀k,k<w.heap.size->w'.heap[k]?=w.heap[k]?):Gr w w':=by
 refine⟨w'.drawn-w.drawn,w'.heap.extract w.heap.size w'.heap.size,?_⟩
 have hh:w'.heap=w.heap++w'.heap.extract w.heap.size w'.heap.size:=by
  apply Array.ext_getElem?;intro i;by_cases hi:i<w.heap.size
  ·rw[hk i hi,Array.getElem?_append_left hi]
  ·rw[Array.getElem?_append_right (by omega),Array.getElem?_extract];by_cases h2:i<w'.heap.size
   ·rw[if_pos (by omega)];congr 1
    omega
   ·rw[if_neg (by omega)];exact Array.getElem?_eq_none (by omega)
 obtain⟨h1,t1,d1,o1,p1⟩:=w';simp only at ht ho hp hd hh;subst ht ho hp;simp only[Sort.grow,World.drewN];congr 1
 omega
theorem Gr.next {a b c:World}(h:Gr a b)(k:Gr b c):Gr a c:=by
 have d:=h.fields;have e:=k.fields;have h2:=h.below;have k2:=k.below;refine Gr.of (e.1.trans d.1) (e.2.1.trans d.2.1) (e.2.2.1.trans d.2.2.1) (n6! d.2.2.2 e.2.2.2) (n6! h2.size k2.size) fun j hj=>(k2.block j (n1! hj h2.size)).trans (h2.block j hj)
theorem Gr.set {w w':World}(h:Gr w w') {x i:Nat}(hx:w.heap.size<=x)(v:Value):Gr w (w'.setCell ⟨x,i,none⟩ v):=by
 have a:=h.fields;have h2:=h.below;exact Gr.of a.1 a.2.1 a.2.2.1 a.2.2.2 (by have:=h2.size;simpa using this) fun j hj=>(Below.heap_setCell _ _ _ j (by show j≠x;omega)).trans (h2.block j hj)
def Tryz.lays106_ren:Go.Shelf.Ren:=⟨fun | 106=>140 | 213=>199 | 265=>242 | n=>n,fun | 9=>9 | 3=>3 | n=>n,fun | n=>n⟩
theorem Tryz.lays106:Go.Proofs.Lays.n106 prog Tryz.lays106_ren := {
 mixed:=by kernel_rfl
 f106:=func140.trans (congrArg some (by kernel_rfl))
 f213:=func199.trans (congrArg some (by kernel_rfl))
 f265:=func242.trans (congrArg some (by kernel_rfl))
 t3:=Tryz.underlying3
 a3:=Tryz.isAgg3
 z3:=Tryz.sizeOf3
 v3:=Tryz.zeroValue3
 t9:=Tryz.underlying9
 a9:=Tryz.isAgg9
 z9:=Tryz.sizeOf9
 v9:=Tryz.zeroValue9}
theorem fG! (a b:ByteArray)(w:World):Calls prog 140 #[.string a,.string b] w fun e w'=>e= .returned (.int .i64 (Lib.compareBytes a.data.toList b.data.toList))/\w'=w:=Any.strings_Compare Tryz.lays106 a b w
theorem jH! {P:Program}{c:Code}{Q:Exit->Act->World->Prop}{a:Act}{w:World}(R:Act->World->Prop)(h1:c.wp P (fun e a' w'=>e= .normal/\R a' w') a w)(h2:∀a' w',R a' w'->Q .normal a' w'):c.wp P Q a w :=
 Code.wp_mono (fun e a' w' h=>by
  obtain⟨rfl,h⟩:=h;exact h2 a' w' h) h1
end Go.Proofs.YtlhaghoajpglaaaGreat
namespace Go.Proofs.YtlhaghoajpglaaaGreat
open Go Go.RowKit Go.Proofs.Tryz
theorem kY!:∀l m:List UInt8,Lib.compareBytes l m=if l<m then -1 else if l=m then 0 else 1
 | [],[]=>by simp[Lib.compareBytes]
 | [],_::_=>by simp[Lib.compareBytes]
 | _::_,[]=>by simp[Lib.compareBytes]
 | a::l,b::m=>by
  rw[Lib.compareBytes,kY! l m];by_cases h:a<b
  ·rw[if_pos h,if_pos (List.cons_lt_cons_iff.2 (.inl h))]
  ·rw[if_neg h];by_cases h2:b<a
   ·have hne:¬ a=b:=fun e=>by rw[e]at h2;exact UInt8.lt_irrefl _ h2
    have h3:¬ (a::l)<(b::m):=fun h4=>by
     rcases List.cons_lt_cons_iff.1 h4 with h5 | ⟨h5,_⟩
     ·exact h h5
     ·exact hne h5
    rw[if_pos h2,if_neg h3,if_neg (by simp[hne])]
   ·have e:a=b:=UInt8.le_antisymm (UInt8.not_lt.1 h2) (UInt8.not_lt.1 h);subst e;rw[if_neg h2];have h3:(a::l)<(a::m)↔l<m:=by rw[List.cons_lt_cons_iff];simp[UInt8.lt_irrefl]
    by_cases h4:l<m
    ·rw[if_pos h4,if_pos (h3.2 h4)]
    ·rw[if_neg h4,if_neg (fun h5=>h4 (h3.1 h5))];simp
theorem nD! (a b:ByteArray):Lib.compareBytes a.data.toList b.data.toList=cmpS a b:=by
 rw[kY!];unfold cmpS
 have h1:(ltS a b=true)↔a.data.toList<b.data.toList:=by
  unfold ltS;rw[u5!,u5!,bytesLess_eq];simp
 have h2:a.data.toList=b.data.toList↔a=b:=⟨fun h=>by
  obtain⟨⟨x⟩⟩:=a;obtain⟨⟨y⟩⟩:=b;simp only at h;rw[h],fun h=>by rw[h]⟩
 simp only[h1,h2]
def tp (a:Tup):Nat->ByteArray
 | 0=>a.o.t
 | 1=>a.o.i
 | 2=>a.o.r
 | 3=>a.s.t
 | 4=>a.s.i
 | _=>a.s.r
def cL (a b:Tup):List Int:=[cmpS a.o.t b.o.t,cmpS a.o.i b.o.i,cmpS a.o.r b.o.r,cmpS a.s.t b.s.t,cmpS a.s.i b.s.i,cmpS a.s.r b.s.r]
def cmpC (a b:Tup):Int:=orL (cL a b)
theorem cL_at (a b:Tup):∀i (h:i<(cL a b).length),(cL a b)[i]=cmpS (tp a i) (tp b i)
 | 0,_=>rfl
 | 1,_=>rfl
 | 2,_=>rfl
 | 3,_=>rfl
 | 4,_=>rfl
 | 5,_=>rfl
 | _+6,h=>absurd h (by simp[cL])
theorem nB! (a b:Tup):cmpC a b=if a.o=b.o then ordP a.s b.s else ordP a.o b.o:=by
 obtain⟨⟨a1,a2,a3⟩,⟨a4,a5,a6⟩⟩:=a;obtain⟨⟨b1,b2,b3⟩,⟨b4,b5,b6⟩⟩:=b;simp only[cmpC,cL,ordP,orL,P3.mk.injEq,el!];by_cases h1:a1=b1 <;> by_cases h2:a2=b2 <;> by_cases h3:a3=b3 <;> simp[h1,h2,h3]
theorem kP! (a b:Tup):Go.Proofs.ltOf cmpC a b=ltT a b:=by
 unfold ltT
 have e:Go.Proofs.ltOf cmpC a b=if a.o=b.o then Go.Proofs.ltOf ordP a.s b.s else Go.Proofs.ltOf ordP a.o b.o:=by
  unfold Go.Proofs.ltOf;rw[nB!];split <;> rfl
 rw[e,kO!,kO!]
theorem swoC:Go.Sort.SWO (Go.Proofs.ltOf cmpC):=by
 have:Go.Proofs.ltOf cmpC=Go.Proofs.ltOf cmpT:=funext fun a=>funext fun b=>by rw[kP!,gi!]
 rw[this];exact swoT
theorem kr! (a:Tup):cmpC a a=0:=by
 have h:∀x:ByteArray,cmpS x x=0:=fun x=>(el! x x).2 rfl;simp[cmpC,cL,orL,h]
theorem iZ! {a b:Tup}{i:Nat}(hi:i<6)(h0:∀j,j<i->cmpS (tp a j) (tp b j)=0)(h1:cmpS (tp a i) (tp b i)≠0):cmpC a b=cmpS (tp a i) (tp b i):=by
 have hl:i<(cL a b).length:=hi;unfold cmpC;rw[ih! (i:=i) fun j hj hji=>by rw[cL_at];exact h0 j hji];rw[List.drop_eq_getElem_cons hl,orL,cL_at,if_neg h1]
theorem kt! {a b:Tup}(h0:∀j,j<6->cmpS (tp a j) (tp b j)=0):cmpC a b=0:=by
 unfold cmpC;rw[ih! (i:=6) fun j hj hji=>by rw[cL_at];exact h0 j hji];rfl
def tpC (a:Tup):Array Value:=#[.string a.o.t,.string a.o.i,.string a.o.r,.string a.s.t,.string a.s.i,.string a.s.r]
theorem mG! (a:Tup):∀i,i<6->(tpC a)[i]?=some (.string (tp a i))
 | 0,_=>rfl
 | 1,_=>rfl
 | 2,_=>rfl
 | 3,_=>rfl
 | 4,_=>rfl
 | 5,_=>rfl
 | _+6,h=>absurd h (by omega)
theorem lj! (a b:Tup)(W:World):(binOp BinOp.eql 67 (tV a) (tV b)).run prog W= .ok (.bool (decide (a=b))) W:=by
 obtain⟨⟨a1,a2,a3⟩,⟨a4,a5,a6⟩⟩:=a;obtain⟨⟨b1,b2,b3⟩,⟨b4,b5,b6⟩⟩:=b;unfold tV;dsimp only;go_simp;simp only[bt!];by_cases h1:a1=b1
 ·by_cases h2:a2=b2
  ·by_cases h3:a3=b3
   ·by_cases h4:a4=b4
    ·by_cases h5:a5=b5
     ·by_cases h6:a6=b6 <;> simp[h1,h2,h3,h4,h5,h6]
     ·simp[h1,h2,h3,h4,h5]
    ·simp[h1,h2,h3,h4]
   ·simp[h1,h2,h3]
  ·simp[h1,h2]
 ·simp[h1]
def zr6:Array Value:=#[.string ⟨#[]⟩,.string ⟨#[]⟩,.string ⟨#[]⟩,.string ⟨#[]⟩,.string ⟨#[]⟩,.string ⟨#[]⟩]
section
variable {w w' : World} {B B' : Nat} {e : TypeId} {cs : Array Value}
theorem Blk.put6 (h:Blk w B zr6 e)(x0 x1 x2 x3 x4 x5:Value):Blk ((((((w.setCell ⟨B,0,none⟩ x0).setCell ⟨B,1,none⟩ x1).setCell ⟨B,2,none⟩ x2).setCell ⟨B,3,none⟩ x3).setCell ⟨B,4,none⟩ x4).setCell ⟨B,5,none⟩ x5) B #[x0,x1,x2,x3,x4,x5] e :=
 (((((h.set_to 0 x0 rfl).set_to 1 x1 rfl).set_to 2 x2 rfl).set_to 3 x3 rfl).set_to 4 x4 rfl).set_to 5 x5 rfl
theorem Blk.away6 (h:Blk w B cs e)(hne:B≠B')(x0 x1 x2 x3 x4 x5:Value):Blk ((((((w.setCell ⟨B',0,none⟩ x0).setCell ⟨B',1,none⟩ x1).setCell ⟨B',2,none⟩ x2).setCell ⟨B',3,none⟩ x3).setCell ⟨B',4,none⟩ x4).setCell ⟨B',5,none⟩ x5) B cs e :=
 (((((h.other (a:=⟨B',0,none⟩) hne x0).other (a:=⟨B',1,none⟩) hne x1).other (a:=⟨B',2,none⟩) hne x2).other (a:=⟨B',3,none⟩) hne x3).other (a:=⟨B',4,none⟩) hne x4).other (a:=⟨B',5,none⟩) hne x5
theorem gs! (h:Gr w w')(hB:w.heap.size<=B)(x0 x1 x2 x3 x4 x5:Value):Gr w ((((((w'.setCell ⟨B,0,none⟩ x0).setCell ⟨B,1,none⟩ x1).setCell ⟨B,2,none⟩ x2).setCell ⟨B,3,none⟩ x3).setCell ⟨B,4,none⟩ x4).setCell ⟨B,5,none⟩ x5) :=
 (((((h.set hB x0).set hB x1).set hB x2).set hB x3).set hB x4).set hB x5
end
theorem aU! (t:Tup)(w:World):Calls prog 139 #[tV t] w fun e w'=>e= .returned (tV t)/\Gr w w':=by
 obtain⟨⟨b,d,a⟩,⟨st,si,c⟩⟩:=t;have hb:=(Blk.made w #[.string b,.string d,.string a,.string st,.string si,.string c] 67);have h1:Gr w (w.alloc (.cells #[.string b,.string d,.string a,.string st,.string si,.string c] 67)):=(Gr.refl _).alloc _;unfold tV;dsimp only;go_enter func139,ntmps139
 go_wp2_with fail
 refine bodyPost_ret (results_cell_row rfl _ _ (w.heap.size+1) 237 #[.string b,.string d,.string a,.string st,.string si,.string c] (0,0) _ rfl ?_ Tryz.underlying237 rfl (by kernel_rfl)) rfl ⟨rfl,h1.alloc _⟩;have:=heap_alloc_new (w.alloc (.cells #[.string b,.string d,.string a,.string st,.string si,.string c] 67)) (.cells #[.string b,.string d,.string a,.string st,.string si,.string c] 237);rwa[World.size_alloc]at this
theorem iY! (a b:Tup)(w:World):Calls prog 78 #[tV a,tV b] w fun e w'=>e= .returned (.int .i64 (cmpC a b))/\Gr w w':=by
 have s:Gr w ((w.alloc (.cells (tpC a) 67)).alloc (.cells (tpC b) 67)):=((Gr.refl _).alloc _).alloc _;have H:=h! s;have F:=h! ((Blk.made w (tpC a) 67).alloc (.cells (tpC b) 67));have G:=h! (Blk.made' (w:=w.alloc (.cells (tpC a) 67)) (B:=w.heap.size+1) (by simp) (tpC b) 67);clear s;by_cases hab:a=b
 ·subst hab;have HZ:=h! (kr! a);obtain⟨⟨a1,a2,a3⟩,⟨a4,Y,a6⟩⟩:=a;unfold tpC at H F G;dsimp only at H F G;have ha:=F.out.cells;have hb:=G.out.cells;unfold tV;dsimp only
  have hq:∀W,(binOp BinOp.eql 67 (.agg #[.string a1,.string a2,.string a3,.string a4,.string Y,.string a6]) (.agg #[.string a1,.string a2,.string a3,.string a4,.string Y,.string a6])).run prog W= .ok (.bool true) W:=fun W=>by
   have h:=lj! ⟨⟨a1,a2,a3⟩,⟨a4,Y,a6⟩⟩ ⟨⟨a1,a2,a3⟩,⟨a4,Y,a6⟩⟩ W;rw[v2! rfl]at h;exact h
  go_enter func78,ntmps78
  go_wp2_with fail
  go_ret
  exact⟨by rw[HZ.out];rfl,H.out⟩
 ·have HF:=h! (fun i (h6:i<6) (h0:∀j,j<i->cmpS (tp a j) (tp b j)=0) (h1:cmpS (tp a i) (tp b i)≠0)=>iZ! h6 h0 h1);have HN:=h! (fun(h0:∀j,j<6->cmpS (tp a j) (tp b j)=0)=>kt! h0);have V:=h! (mG! a);have X:=h! (mG! b);generalize cmpC a b=cab at *;generalize hta:tp a=ta at *;generalize htb:tp b=tb at *;clear hta htb
  have M:∀W,(binOp BinOp.eql 67 (tV a) (tV b)).run prog W= .ok (.bool false) W:=fun W=>by
   have h:=lj! a b W;rwa[v3! hab]at h
  clear hab;obtain⟨⟨a1,a2,a3⟩,⟨a4,Y,a6⟩⟩:=a;obtain⟨⟨b1,Z,b3⟩,⟨b4,b5,b6⟩⟩:=b;unfold tpC at *;dsimp only at H F G V X;have ha:=F.out.cells;have hb:=G.out.cells;unfold tV at M ⊢;dsimp only at M ⊢;go_enter func78,ntmps78
  go_wp2_with fail
  clear ha hb M;refine jH! (fun a' W=>∃x y,a' = {tmps:=#[.agg #[.string a1,.string a2,.string a3,.string a4,.string Y,.string a6],.agg #[.string b1,.string Z,.string b3,.string b4,.string b5,.string b6],.pointer (some ⟨w.heap.size,0,none⟩),.pointer (some ⟨w.heap.size+1,0,none⟩),.int .i64 0,.pointer (some ⟨x,0,none⟩),.pointer (some ⟨y,0,none⟩),undef,undef,.agg #[.string a1,.string a2,.string a3,.string a4,.string Y,.string a6],.agg #[.string b1,.string Z,.string b3,.string b4,.string b5,.string b6],.bool false,.agg #[.string a1,.string a2,.string a3,.string a4,.string Y,.string a6],.agg #[.string a1,.string a2,.string a3,.string a4,.string Y,.string a6],.agg #[.string b1,.string Z,.string b3,.string b4,.string b5,.string b6],.agg #[.string b1,.string Z,.string b3,.string b4,.string b5,.string b6],undef,undef,undef,undef,undef,undef,undef,undef,undef,undef,undef,undef,undef,undef],defers:=[]}/\Blk W x #[.string a1,.string a2,.string a3,.string a4,.string Y,.string a6] 237/\Blk W y #[.string b1,.string Z,.string b3,.string b4,.string b5,.string b6] 237/\Gr w W) ?_ ?_
  ·obtain⟨wd,z⟩:=e! (((w.alloc (.cells #[.string a1,.string a2,.string a3,.string a4,.string Y,.string a6] 67)).alloc (.cells #[.string b1,.string Z,.string b3,.string b4,.string b5,.string b6] 67)).drew);have hE:=h! (show Gr w wd from by rw[z];exact H.out.drew);have a8:=h! (show Blk wd w.heap.size _ _ from by rw[z];exact F.out.drew);have aa:=h! (show Blk wd (w.heap.size+1) _ _ from by rw[z];exact G.out.drew);refine al! (Gr wd) (by rw[<-z];exact Gr.refl _) (by kernel_rfl) (by kernel_rfl) (fun _ _ d _ _ h=>absurd h.1 (fun e=>by cases e)) ?_;rw[<-z];clear z H F G;have h1:=fun W (h:Gr wd W)=>(a8.out.below h.below).cells;have h2:=fun W (h:Gr wd W)=>(aa.out.below h.below).cells;(refine WalkN.tk [0,2] ?_;(iterate 2 (refine c! ?_));refine TkN.n ?_)
   clear h1 h2;have a7:=hE;have hE:=h! (Gr.refl wd);refine WalkN.three 1 4 5 (by kernel_rfl) ?_ ?_ ?_;refine b! ?_;intro K hK;go_simp;refine(aU! ⟨⟨a1,a2,a3⟩,⟨a4,Y,a6⟩⟩ wd).mono ?_;rintro e u1 ⟨rfl,O⟩;refine hK.out _ _ (hE.out.next O) ?_;clear hK;unfold tV;dsimp only;have hE:=h! (hE.out.next O);clear O;refine WalkN.three 3 4 5 (by kernel_rfl) ?_ ?_ ?_;refine b! ?_;intro K hK;go_simp;refine(aU! ⟨⟨b1,Z,b3⟩,⟨b4,b5,b6⟩⟩ u1).mono ?_;rintro e u2 ⟨rfl,s⟩;refine hK.out _ _ (hE.out.next s) ?_;clear hK;unfold tV;dsimp only;have hE:=h! (hE.out.next s);clear s;refine p! 4 5 ?_ ?_;refine b! ?_;intro K hK;go_simp;refine hK.out _ _ (hE.out.alloc (.cells zr6 237)) ?_;clear hK;have u:=Ext.alloc u2 (.cells zr6 237);have m:=Blk.made u2 zr6 237;have g:=hE.out.below.size;have hE:=h! (hE.out.alloc (.cells zr6 237));clear u;unfold zr6 at *;generalize u2.alloc (.cells #[.string ⟨#[]⟩,.string ⟨#[]⟩,.string ⟨#[]⟩,.string ⟨#[]⟩,.string ⟨#[]⟩,.string ⟨#[]⟩] 237)=u3 at *;generalize hpe2:u2.heap.size=pa at *;have D:Hid (wd.heap.size<=pa):=h! (by first | exact v4! hpe2 | exact g);clear hpe2 g;have hA:=h! m;clear m;refine ob! 5 ?_;intro K hK;go_simp;refine hK.out _ _ (hE.out.alloc (.cells zr6 237)) ?_;clear hK;have r:=Ext.alloc u3 (.cells zr6 237);have v:Hid (pa≠u3.heap.size):=h! (Nat.ne_of_lt hA.out.lt);have hA:=h! (hA.out.below r);have l:=Blk.made u3 zr6 237;have f:=hE.out.below.size;have hE:=h! (hE.out.alloc (.cells zr6 237));clear r;unfold zr6 at *;generalize u3.alloc (.cells #[.string ⟨#[]⟩,.string ⟨#[]⟩,.string ⟨#[]⟩,.string ⟨#[]⟩,.string ⟨#[]⟩,.string ⟨#[]⟩] 237)=u4 at *;generalize hpe3:u3.heap.size=pb at *;have C:Hid (wd.heap.size<=pb):=h! (by first | exact v4! hpe3 | exact f);clear hpe3 f;have hB:=h! l;clear l;rotate_left
   refine b! ?_;intro K hK;go_simp;refine hK.out _ _ (hE.out.alloc (.cells zr6 237)) ?_;clear hK;have u:=Ext.alloc u2 (.cells zr6 237);have l:=Blk.made u2 zr6 237;have g:=hE.out.below.size;have hE:=h! (hE.out.alloc (.cells zr6 237));clear u;unfold zr6 at *;generalize u2.alloc (.cells #[.string ⟨#[]⟩,.string ⟨#[]⟩,.string ⟨#[]⟩,.string ⟨#[]⟩,.string ⟨#[]⟩,.string ⟨#[]⟩] 237)=u3 at *;generalize hpe2:u2.heap.size=pb at *;have C:Hid (wd.heap.size<=pb):=h! (by first | exact v4! hpe2 | exact g);clear hpe2 g;have hB:=h! l;clear l;refine ob! 4 ?_;intro K hK;go_simp;refine hK.out _ _ (hE.out.alloc (.cells zr6 237)) ?_;clear hK;have r:=Ext.alloc u3 (.cells zr6 237);have v:Hid (u3.heap.size≠pb):=h! (fun e=>Nat.lt_irrefl _ (e▸hB.out.lt));have hB:=h! (hB.out.below r);have m:=Blk.made u3 zr6 237;have f:=hE.out.below.size;have hE:=h! (hE.out.alloc (.cells zr6 237));clear r;unfold zr6 at *;generalize u3.alloc (.cells #[.string ⟨#[]⟩,.string ⟨#[]⟩,.string ⟨#[]⟩,.string ⟨#[]⟩,.string ⟨#[]⟩,.string ⟨#[]⟩] 237)=u4 at *;generalize hpe3:u3.heap.size=pa at *;have D:Hid (wd.heap.size<=pa):=h! (by first | exact v4! hpe3 | exact f);clear hpe3 f;have hA:=h! m;clear m;rotate_left
   refine b! ?_;intro K hK;go_simp;refine hK.out _ _ (hE.out.alloc (.cells zr6 237)) ?_;clear hK;have E:=Ext.alloc u1 (.cells zr6 237);have m:=Blk.made u1 zr6 237;have q:=hE.out.below.size;have hE:=h! (hE.out.alloc (.cells zr6 237));clear E;unfold zr6 at *;generalize u1.alloc (.cells #[.string ⟨#[]⟩,.string ⟨#[]⟩,.string ⟨#[]⟩,.string ⟨#[]⟩,.string ⟨#[]⟩,.string ⟨#[]⟩] 237)=u2 at *;generalize hpe1:u1.heap.size=pa at *;have D:Hid (wd.heap.size<=pa):=h! (by first | exact v4! hpe1 | exact q);clear hpe1 q;have hA:=h! m;clear m;refine p! 3 5 ?_ ?_;refine b! ?_;intro K hK;go_simp;refine(aU! ⟨⟨b1,Z,b3⟩,⟨b4,b5,b6⟩⟩ u2).mono ?_;rintro e u3 ⟨rfl,o⟩;refine hK.out _ _ (hE.out.next o) ?_;clear hK;unfold tV;dsimp only;have hA:=h! (hA.out.below o.below);have hE:=h! (hE.out.next o);clear o;refine ob! 5 ?_;intro K hK;go_simp;refine hK.out _ _ (hE.out.alloc (.cells zr6 237)) ?_;clear hK;have r:=Ext.alloc u3 (.cells zr6 237);have v:Hid (pa≠u3.heap.size):=h! (Nat.ne_of_lt hA.out.lt);have hA:=h! (hA.out.below r);have l:=Blk.made u3 zr6 237;have f:=hE.out.below.size;have hE:=h! (hE.out.alloc (.cells zr6 237));clear r;unfold zr6 at *;generalize u3.alloc (.cells #[.string ⟨#[]⟩,.string ⟨#[]⟩,.string ⟨#[]⟩,.string ⟨#[]⟩,.string ⟨#[]⟩,.string ⟨#[]⟩] 237)=u4 at *;generalize hpe3:u3.heap.size=pb at *;have C:Hid (wd.heap.size<=pb):=h! (by first | exact v4! hpe3 | exact f);clear hpe3 f;have hB:=h! l;clear l;rotate_left
   refine b! ?_;intro K hK;go_simp;refine hK.out _ _ (hE.out.alloc (.cells zr6 237)) ?_;clear hK;have u:=Ext.alloc u2 (.cells zr6 237);have v:Hid (pa≠u2.heap.size):=h! (Nat.ne_of_lt hA.out.lt);have hA:=h! (hA.out.below u);have l:=Blk.made u2 zr6 237;have g:=hE.out.below.size;have hE:=h! (hE.out.alloc (.cells zr6 237));clear u;unfold zr6 at *;generalize u2.alloc (.cells #[.string ⟨#[]⟩,.string ⟨#[]⟩,.string ⟨#[]⟩,.string ⟨#[]⟩,.string ⟨#[]⟩,.string ⟨#[]⟩] 237)=u3 at *;generalize hpe2:u2.heap.size=pb at *;have C:Hid (wd.heap.size<=pb):=h! (by first | exact v4! hpe2 | exact g);clear hpe2 g;have hB:=h! l;clear l;refine ob! 3 ?_;intro K hK;go_simp;refine(aU! ⟨⟨b1,Z,b3⟩,⟨b4,b5,b6⟩⟩ u3).mono ?_;rintro e u4 ⟨rfl,k⟩;refine hK.out _ _ (hE.out.next k) ?_;clear hK;unfold tV;dsimp only;have hA:=h! (hA.out.below k.below);have hB:=h! (hB.out.below k.below);have hE:=h! (hE.out.next k);clear k;rotate_left
   refine b! ?_;intro K hK;go_simp;refine hK.out _ _ (hE.out.alloc (.cells zr6 237)) ?_;clear hK;have E:=Ext.alloc u1 (.cells zr6 237);have l:=Blk.made u1 zr6 237;have q:=hE.out.below.size;have hE:=h! (hE.out.alloc (.cells zr6 237));clear E;unfold zr6 at *;generalize u1.alloc (.cells #[.string ⟨#[]⟩,.string ⟨#[]⟩,.string ⟨#[]⟩,.string ⟨#[]⟩,.string ⟨#[]⟩,.string ⟨#[]⟩] 237)=u2 at *;generalize hpe1:u1.heap.size=pb at *;have C:Hid (wd.heap.size<=pb):=h! (by first | exact v4! hpe1 | exact q);clear hpe1 q;have hB:=h! l;clear l;refine p! 3 4 ?_ ?_;refine b! ?_;intro K hK;go_simp;refine(aU! ⟨⟨b1,Z,b3⟩,⟨b4,b5,b6⟩⟩ u2).mono ?_;rintro e u3 ⟨rfl,o⟩;refine hK.out _ _ (hE.out.next o) ?_;clear hK;unfold tV;dsimp only;have hB:=h! (hB.out.below o.below);have hE:=h! (hE.out.next o);clear o;refine ob! 4 ?_;intro K hK;go_simp;refine hK.out _ _ (hE.out.alloc (.cells zr6 237)) ?_;clear hK;have r:=Ext.alloc u3 (.cells zr6 237);have v:Hid (u3.heap.size≠pb):=h! (fun e=>Nat.lt_irrefl _ (e▸hB.out.lt));have hB:=h! (hB.out.below r);have m:=Blk.made u3 zr6 237;have f:=hE.out.below.size;have hE:=h! (hE.out.alloc (.cells zr6 237));clear r;unfold zr6 at *;generalize u3.alloc (.cells #[.string ⟨#[]⟩,.string ⟨#[]⟩,.string ⟨#[]⟩,.string ⟨#[]⟩,.string ⟨#[]⟩,.string ⟨#[]⟩] 237)=u4 at *;generalize hpe3:u3.heap.size=pa at *;have D:Hid (wd.heap.size<=pa):=h! (by first | exact v4! hpe3 | exact f);clear hpe3 f;have hA:=h! m;clear m;rotate_left
   refine b! ?_;intro K hK;go_simp;refine hK.out _ _ (hE.out.alloc (.cells zr6 237)) ?_;clear hK;have u:=Ext.alloc u2 (.cells zr6 237);have v:Hid (u2.heap.size≠pb):=h! (fun e=>Nat.lt_irrefl _ (e▸hB.out.lt));have hB:=h! (hB.out.below u);have m:=Blk.made u2 zr6 237;have g:=hE.out.below.size;have hE:=h! (hE.out.alloc (.cells zr6 237));clear u;unfold zr6 at *;generalize u2.alloc (.cells #[.string ⟨#[]⟩,.string ⟨#[]⟩,.string ⟨#[]⟩,.string ⟨#[]⟩,.string ⟨#[]⟩,.string ⟨#[]⟩] 237)=u3 at *;generalize hpe2:u2.heap.size=pa at *;have D:Hid (wd.heap.size<=pa):=h! (by first | exact v4! hpe2 | exact g);clear hpe2 g;have hA:=h! m;clear m;refine ob! 3 ?_;intro K hK;go_simp;refine(aU! ⟨⟨b1,Z,b3⟩,⟨b4,b5,b6⟩⟩ u3).mono ?_;rintro e u4 ⟨rfl,k⟩;refine hK.out _ _ (hE.out.next k) ?_;clear hK;unfold tV;dsimp only;have hA:=h! (hA.out.below k.below);have hB:=h! (hB.out.below k.below);have hE:=h! (hE.out.next k);clear k;rotate_left
   refine b! ?_;intro K hK;go_simp;refine hK.out _ _ (hE.out.alloc (.cells zr6 237)) ?_;clear hK;have Q:=Ext.alloc wd (.cells zr6 237);have m:=Blk.made wd zr6 237;have A:=hE.out.below.size;have hE:=h! (hE.out.alloc (.cells zr6 237));clear Q;unfold zr6 at *;generalize wd.alloc (.cells #[.string ⟨#[]⟩,.string ⟨#[]⟩,.string ⟨#[]⟩,.string ⟨#[]⟩,.string ⟨#[]⟩,.string ⟨#[]⟩] 237)=u1 at *;generalize hpe0:wd.heap.size=pa at *;have D:Hid (wd.heap.size<=pa):=h! (by first | exact v4! hpe0 | exact A);clear hpe0 A;have hA:=h! m;clear m;refine p! 1 5 ?_ ?_;refine b! ?_;intro K hK;go_simp;refine(aU! ⟨⟨a1,a2,a3⟩,⟨a4,Y,a6⟩⟩ u1).mono ?_;rintro e u2 ⟨rfl,s⟩;refine hK.out _ _ (hE.out.next s) ?_;clear hK;unfold tV;dsimp only;have hA:=h! (hA.out.below s.below);have hE:=h! (hE.out.next s);clear s;refine p! 3 5 ?_ ?_;refine b! ?_;intro K hK;go_simp;refine(aU! ⟨⟨b1,Z,b3⟩,⟨b4,b5,b6⟩⟩ u2).mono ?_;rintro e u3 ⟨rfl,o⟩;refine hK.out _ _ (hE.out.next o) ?_;clear hK;unfold tV;dsimp only;have hA:=h! (hA.out.below o.below);have hE:=h! (hE.out.next o);clear o;refine ob! 5 ?_;intro K hK;go_simp;refine hK.out _ _ (hE.out.alloc (.cells zr6 237)) ?_;clear hK;have r:=Ext.alloc u3 (.cells zr6 237);have v:Hid (pa≠u3.heap.size):=h! (Nat.ne_of_lt hA.out.lt);have hA:=h! (hA.out.below r);have l:=Blk.made u3 zr6 237;have f:=hE.out.below.size;have hE:=h! (hE.out.alloc (.cells zr6 237));clear r;unfold zr6 at *;generalize u3.alloc (.cells #[.string ⟨#[]⟩,.string ⟨#[]⟩,.string ⟨#[]⟩,.string ⟨#[]⟩,.string ⟨#[]⟩,.string ⟨#[]⟩] 237)=u4 at *;generalize hpe3:u3.heap.size=pb at *;have C:Hid (wd.heap.size<=pb):=h! (by first | exact v4! hpe3 | exact f);clear hpe3 f;have hB:=h! l;clear l;rotate_left
   refine b! ?_;intro K hK;go_simp;refine hK.out _ _ (hE.out.alloc (.cells zr6 237)) ?_;clear hK;have u:=Ext.alloc u2 (.cells zr6 237);have v:Hid (pa≠u2.heap.size):=h! (Nat.ne_of_lt hA.out.lt);have hA:=h! (hA.out.below u);have l:=Blk.made u2 zr6 237;have g:=hE.out.below.size;have hE:=h! (hE.out.alloc (.cells zr6 237));clear u;unfold zr6 at *;generalize u2.alloc (.cells #[.string ⟨#[]⟩,.string ⟨#[]⟩,.string ⟨#[]⟩,.string ⟨#[]⟩,.string ⟨#[]⟩,.string ⟨#[]⟩] 237)=u3 at *;generalize hpe2:u2.heap.size=pb at *;have C:Hid (wd.heap.size<=pb):=h! (by first | exact v4! hpe2 | exact g);clear hpe2 g;have hB:=h! l;clear l;refine ob! 3 ?_;intro K hK;go_simp;refine(aU! ⟨⟨b1,Z,b3⟩,⟨b4,b5,b6⟩⟩ u3).mono ?_;rintro e u4 ⟨rfl,k⟩;refine hK.out _ _ (hE.out.next k) ?_;clear hK;unfold tV;dsimp only;have hA:=h! (hA.out.below k.below);have hB:=h! (hB.out.below k.below);have hE:=h! (hE.out.next k);clear k;rotate_left
   refine b! ?_;intro K hK;go_simp;refine hK.out _ _ (hE.out.alloc (.cells zr6 237)) ?_;clear hK;have E:=Ext.alloc u1 (.cells zr6 237);have v:Hid (pa≠u1.heap.size):=h! (Nat.ne_of_lt hA.out.lt);have hA:=h! (hA.out.below E);have l:=Blk.made u1 zr6 237;have q:=hE.out.below.size;have hE:=h! (hE.out.alloc (.cells zr6 237));clear E;unfold zr6 at *;generalize u1.alloc (.cells #[.string ⟨#[]⟩,.string ⟨#[]⟩,.string ⟨#[]⟩,.string ⟨#[]⟩,.string ⟨#[]⟩,.string ⟨#[]⟩] 237)=u2 at *;generalize hpe1:u1.heap.size=pb at *;have C:Hid (wd.heap.size<=pb):=h! (by first | exact v4! hpe1 | exact q);clear hpe1 q;have hB:=h! l;clear l;refine ob! 1 ?_;intro K hK;go_simp;refine(aU! ⟨⟨a1,a2,a3⟩,⟨a4,Y,a6⟩⟩ u2).mono ?_;rintro e u3 ⟨rfl,o⟩;refine hK.out _ _ (hE.out.next o) ?_;clear hK;unfold tV;dsimp only;have hA:=h! (hA.out.below o.below);have hB:=h! (hB.out.below o.below);have hE:=h! (hE.out.next o);clear o;refine ob! 3 ?_;intro K hK;go_simp;refine(aU! ⟨⟨b1,Z,b3⟩,⟨b4,b5,b6⟩⟩ u3).mono ?_;rintro e u4 ⟨rfl,k⟩;refine hK.out _ _ (hE.out.next k) ?_;clear hK;unfold tV;dsimp only;have hA:=h! (hA.out.below k.below);have hB:=h! (hB.out.below k.below);have hE:=h! (hE.out.next k);clear k;rotate_left
   refine b! ?_;intro K hK;go_simp;refine hK.out _ _ (hE.out.alloc (.cells zr6 237)) ?_;clear hK;have Q:=Ext.alloc wd (.cells zr6 237);have l:=Blk.made wd zr6 237;have A:=hE.out.below.size;have hE:=h! (hE.out.alloc (.cells zr6 237));clear Q;unfold zr6 at *;generalize wd.alloc (.cells #[.string ⟨#[]⟩,.string ⟨#[]⟩,.string ⟨#[]⟩,.string ⟨#[]⟩,.string ⟨#[]⟩,.string ⟨#[]⟩] 237)=u1 at *;generalize hpe0:wd.heap.size=pb at *;have C:Hid (wd.heap.size<=pb):=h! (by first | exact v4! hpe0 | exact A);clear hpe0 A;have hB:=h! l;clear l;refine p! 1 4 ?_ ?_;refine b! ?_;intro K hK;go_simp;refine(aU! ⟨⟨a1,a2,a3⟩,⟨a4,Y,a6⟩⟩ u1).mono ?_;rintro e u2 ⟨rfl,s⟩;refine hK.out _ _ (hE.out.next s) ?_;clear hK;unfold tV;dsimp only;have hB:=h! (hB.out.below s.below);have hE:=h! (hE.out.next s);clear s;refine p! 3 4 ?_ ?_;refine b! ?_;intro K hK;go_simp;refine(aU! ⟨⟨b1,Z,b3⟩,⟨b4,b5,b6⟩⟩ u2).mono ?_;rintro e u3 ⟨rfl,o⟩;refine hK.out _ _ (hE.out.next o) ?_;clear hK;unfold tV;dsimp only;have hB:=h! (hB.out.below o.below);have hE:=h! (hE.out.next o);clear o;refine ob! 4 ?_;intro K hK;go_simp;refine hK.out _ _ (hE.out.alloc (.cells zr6 237)) ?_;clear hK;have r:=Ext.alloc u3 (.cells zr6 237);have v:Hid (u3.heap.size≠pb):=h! (fun e=>Nat.lt_irrefl _ (e▸hB.out.lt));have hB:=h! (hB.out.below r);have m:=Blk.made u3 zr6 237;have f:=hE.out.below.size;have hE:=h! (hE.out.alloc (.cells zr6 237));clear r;unfold zr6 at *;generalize u3.alloc (.cells #[.string ⟨#[]⟩,.string ⟨#[]⟩,.string ⟨#[]⟩,.string ⟨#[]⟩,.string ⟨#[]⟩,.string ⟨#[]⟩] 237)=u4 at *;generalize hpe3:u3.heap.size=pa at *;have D:Hid (wd.heap.size<=pa):=h! (by first | exact v4! hpe3 | exact f);clear hpe3 f;have hA:=h! m;clear m;rotate_left
   refine b! ?_;intro K hK;go_simp;refine hK.out _ _ (hE.out.alloc (.cells zr6 237)) ?_;clear hK;have u:=Ext.alloc u2 (.cells zr6 237);have v:Hid (u2.heap.size≠pb):=h! (fun e=>Nat.lt_irrefl _ (e▸hB.out.lt));have hB:=h! (hB.out.below u);have m:=Blk.made u2 zr6 237;have g:=hE.out.below.size;have hE:=h! (hE.out.alloc (.cells zr6 237));clear u;unfold zr6 at *;generalize u2.alloc (.cells #[.string ⟨#[]⟩,.string ⟨#[]⟩,.string ⟨#[]⟩,.string ⟨#[]⟩,.string ⟨#[]⟩,.string ⟨#[]⟩] 237)=u3 at *;generalize hpe2:u2.heap.size=pa at *;have D:Hid (wd.heap.size<=pa):=h! (by first | exact v4! hpe2 | exact g);clear hpe2 g;have hA:=h! m;clear m;refine ob! 3 ?_;intro K hK;go_simp;refine(aU! ⟨⟨b1,Z,b3⟩,⟨b4,b5,b6⟩⟩ u3).mono ?_;rintro e u4 ⟨rfl,k⟩;refine hK.out _ _ (hE.out.next k) ?_;clear hK;unfold tV;dsimp only;have hA:=h! (hA.out.below k.below);have hB:=h! (hB.out.below k.below);have hE:=h! (hE.out.next k);clear k;rotate_left
   refine b! ?_;intro K hK;go_simp;refine hK.out _ _ (hE.out.alloc (.cells zr6 237)) ?_;clear hK;have E:=Ext.alloc u1 (.cells zr6 237);have v:Hid (u1.heap.size≠pb):=h! (fun e=>Nat.lt_irrefl _ (e▸hB.out.lt));have hB:=h! (hB.out.below E);have m:=Blk.made u1 zr6 237;have q:=hE.out.below.size;have hE:=h! (hE.out.alloc (.cells zr6 237));clear E;unfold zr6 at *;generalize u1.alloc (.cells #[.string ⟨#[]⟩,.string ⟨#[]⟩,.string ⟨#[]⟩,.string ⟨#[]⟩,.string ⟨#[]⟩,.string ⟨#[]⟩] 237)=u2 at *;generalize hpe1:u1.heap.size=pa at *;have D:Hid (wd.heap.size<=pa):=h! (by first | exact v4! hpe1 | exact q);clear hpe1 q;have hA:=h! m;clear m;refine ob! 1 ?_;intro K hK;go_simp;refine(aU! ⟨⟨a1,a2,a3⟩,⟨a4,Y,a6⟩⟩ u2).mono ?_;rintro e u3 ⟨rfl,o⟩;refine hK.out _ _ (hE.out.next o) ?_;clear hK;unfold tV;dsimp only;have hA:=h! (hA.out.below o.below);have hB:=h! (hB.out.below o.below);have hE:=h! (hE.out.next o);clear o;refine ob! 3 ?_;intro K hK;go_simp;refine(aU! ⟨⟨b1,Z,b3⟩,⟨b4,b5,b6⟩⟩ u3).mono ?_;rintro e u4 ⟨rfl,k⟩;refine hK.out _ _ (hE.out.next k) ?_;clear hK;unfold tV;dsimp only;have hA:=h! (hA.out.below k.below);have hB:=h! (hB.out.below k.below);have hE:=h! (hE.out.next k);clear k;rotate_left
   all_goals
    refine ob! 6 ?_;intro K hK;have L:=hA.out.cells;have N:=hA.out.free;go_simp;clear L N;refine hK.out _ _ (gs! hE.out D.out _ _ _ _ _ _) ?_;clear hK;have hE:=h! (gs! hE.out D.out (.string a1) (.string a2) (.string a3) (.string a4) (.string Y) (.string a6));have m:=hA.out.put6 (.string a1) (.string a2) (.string a3) (.string a4) (.string Y) (.string a6);have l:=hB.out.away6 (B':=pa) (Ne.symm v.out) (.string a1) (.string a2) (.string a3) (.string a4) (.string Y) (.string a6);generalize ((((((u4.setCell ⟨pa,0,none⟩ (.string a1)).setCell ⟨pa,1,none⟩ (.string a2)).setCell ⟨pa,2,none⟩ (.string a3)).setCell ⟨pa,3,none⟩ (.string a4)).setCell ⟨pa,4,none⟩ (.string Y)).setCell ⟨pa,5,none⟩ (.string a6))=u5 at *;have hA:=h! m;have hB:=h! l;clear m l;refine ob! 7 ?_;intro K hK;have L:=hB.out.cells;have N:=hB.out.free;go_simp;clear L N;refine hK.out _ _ (gs! hE.out C.out _ _ _ _ _ _) ?_;clear hK;have hE:=h! (gs! hE.out C.out (.string b1) (.string Z) (.string b3) (.string b4) (.string b5) (.string b6));have l:=hB.out.put6 (.string b1) (.string Z) (.string b3) (.string b4) (.string b5) (.string b6);have m:=hA.out.away6 (B':=pb) v.out (.string b1) (.string Z) (.string b3) (.string b4) (.string b5) (.string b6);generalize ((((((u5.setCell ⟨pb,0,none⟩ (.string b1)).setCell ⟨pb,1,none⟩ (.string Z)).setCell ⟨pb,2,none⟩ (.string b3)).setCell ⟨pb,3,none⟩ (.string b4)).setCell ⟨pb,4,none⟩ (.string b5)).setCell ⟨pb,5,none⟩ (.string b6))=u6 at *;have hA:=h! m;have hB:=h! l;clear m l;refine d! ?_;exact⟨rfl,pa,pb,rfl,hA.out,hB.out,a7.out.next hE.out⟩
  ·rintro a' W ⟨x,y,rfl,hA,hB,hG⟩;have HA:=h! hA;have HB:=h! hB;have HG:=h! hG;clear hA hB hG H F G;go_wp2_with fail
   go_loopw [7,8,16] (fun _ _ iv wr=>∃i:Nat,i<=6/\iv= .int .i64 i/\(∀j,j<i->cmpS (ta j) (tb j)=0)/\Blk wr x #[.string a1,.string a2,.string a3,.string a4,.string Y,.string a6] 237/\Blk wr y #[.string b1,.string Z,.string b3,.string b4,.string b5,.string b6] 237/\Gr w wr) (fun _ _ iv _=>6-(intOf iv).toNat)
   case atStart=>exact⟨0,v1! _,rfl,(fun j h=>absurd h (Nat.not_lt_zero j)),HA.out,HB.out,HG.out⟩
   case round =>
    obtain⟨i,hi,rfl,J,hA,hB,hG⟩:=hrel;have I:=h! J;have RA:=h! hA;have RB:=h! hB;have RG:=h! hG;clear HA HB HG J hA hB hG;by_cases hlt:i<6
    ·have T:=h! hlt;have U:=V.out i hlt;have R:=X.out i hlt;have ad:(i:Int)<6:=by omega
     have ac:(0:Int)<=(i:Int):=by omega
     have a0:=h! (HF.out i hlt I.out)
     have a9:Hid (cmpS (ta i) (tb i)=0->∀j,j<i+1->cmpS (ta j) (tb j)=0):=h! (fun h0 j hj=>by
      rcases Nat.lt_succ_iff_lt_or_eq.1 hj with h | rfl
      ·exact I.out j h
      ·exact h0)
     generalize ta i=sa at *;generalize tb i=sb at *;clear hlt hi;go_wp2_with fail
     obtain⟨wd,z⟩:=e! wr.drew;have DG:=h! (show Gr w wd from by rw[z];exact RG.out.drew);have DA:=h! (show Blk wd x _ _ from by rw[z];exact RA.out.drew);have DB:=h! (show Blk wd y _ _ from by rw[z];exact RB.out.drew);refine re! z ?_;clear z RA RB RG;have h1:∀W,Ext wd W->W.cell? ⟨x,i,none⟩=some (.string sa):=fun W h=>((DA.out.below h).cells i).trans U;have h2:∀W,Ext wd W->W.cell? ⟨y,i,none⟩=some (.string sb):=fun W h=>((DB.out.below h).cells i).trans R;(refine WalkN.tk [0,1,2,3,4,5] ?_;(iterate 6 (refine c! ?_));refine TkN.n ?_)
     clear h1 h2 U R;refine ob! 6 ?_;intro K hK;go_simp;refine(fG! sa sb wd).mono ?_;rintro e w2 ⟨rfl,rfl⟩;rw[nD!];refine hK.out _ _ (Ext.refl _) ?_;clear hK;refine t! 7 ?_
     refine d! ?_;by_cases hz:cmpS sa sb=0
     ·have HZ:=h! (a9.out hz);rw[hz];clear hz;go_wp2_with fail
      go_roundw
      case rel=>exact⟨i+1,T.out,by go_num,HZ.out,DA.out,DB.out,DG.out⟩
      case measure=>have:=T.out;simp[intOf];omega
     ·have HZ:=h! (a0.out hz);generalize cmpS sa sb=cz at *;have ab:(cz != 0)=true:=by simpa using hz
      go_wp2_with fail
      go_ret
      exact⟨by rw[HZ.out];rfl,DG.out⟩
    ·obtain rfl:i=6:=by omega
     have HZ:=h! (HN.out I.out);go_wp2_with fail
     go_ret
     exact⟨by rw[HZ.out];rfl,RG.out⟩
theorem mF! (x:Tup):∀u∈tuC x,u.oneCell'=true:=by
 intro u hu;simp only[tuC,v7!,List.not_mem_nil,or_false]at hu;rcases hu with rfl | rfl | rfl | rfl | rfl | rfl <;> rfl
theorem jB! {w:World}{B:Nat}{v:Value}{l:List Tup}(h:Own w B 67 6 v (tuCs l))(hl:l.length<4611686018427387904) :
  Calls prog 137 #[v,.func (.func 78) #[] #[]] w fun e w'=>e= .returned (.tuple #[])/\∃l':List Tup,l'.Perm l/\(l'.Pairwise fun a b=>ltT b a=false)/\Own w' B 67 6 v (tuCs l')/\Kept (fun b=>b<w.heap.size/\v.ownBlock≠some b) w w':=by
 refine Calls.mono (lq! Tryz.sortT tuC 6 aQ! (by decide) mF! Tryz.isAgg67 Tryz.sizeOf67 cmpC swoC 78 #[] (enters_of func78 (by kernel_rfl) rfl) (fun W x y=>iY! x y W) h hl) ?_;rintro e w' ⟨rfl,l',hp,hs,ho,hk⟩;exact⟨rfl,l',hp,hs.imp fun {a b} h=>by rw[<-kP!];exact h,ho,hk⟩
theorem gO! (w:World)(Bs:Nat)(ao:Option Addr)(cap:Nat)(zs:List Tup)(hl:zs.length<=137438953472)(hBs:Bs<w.heap.size)(hc:w.cell? ⟨Bs,0,none⟩=some (.slice ao zs.length cap))(hS:Sl (· < w.heap.size) w 6 (.slice ao zs.length cap) (zs.flatMap tuC)) :
  Calls prog 76 #[.func (.func 138) #[] #[.pointer (some ⟨Bs,0,none⟩)],.func (.func 78) #[] #[]] w fun e w'=>∃(v':Value) (l:List Tup),e= .returned v'/\l.Perm zs/\(l.Pairwise fun a b=>ltT b a=false)/\Own w' w.heap.size 67 6 v' (tuCs l)/\Ext w w':=by
 have HP:=h! (fJ! w Bs ao cap zs hl hBs hc hS);clear hS hc;go_enter func76,ntmps76
 go_wp2_with fail
 refine HP.out.mono ?_;rintro e w1 ⟨v,rfl,ho,hb⟩;have a2:=h! (jB! ho (by omega));go_wp2_with fail
 refine a2.out.mono ?_;rintro e w2 ⟨rfl,l',a3,hu,a0,a1⟩;go_wp2
 go_ret
 exact⟨v,l',rfl,a3,hu,a0,Below.trans (show Below w.heap.size w w1 from hb) (Kept.below (B:=w.heap.size) a1 fun b hb'=>⟨n1! hb' hb.size,fun e=>by have:=(ho.block b e).1;omega⟩)⟩
def ddN (l:List Tup):Nat->List Tup
 | 0 => []
 | m+1=>ddN l m++(if m=0\/l[m]?≠l[m-1]? then l[m]?.toList else [])
def dd (l:List Tup):List Tup:=ddN l l.length
theorem kW! (l:List Tup)(x:Tup):∀m,x∈ddN l m↔∃j,j<m/\l[j]?=some x:=by
 intro m;induction m with
 | zero=>simp[ddN]
 | succ m ih =>
  rw[ddN,u3!,ih];constructor
  ·rintro(⟨j,hj,h⟩ | h)
   ·exact⟨j,by omega,h⟩
   ·split at h
    ·exact⟨m,Nat.lt_succ_self m,by simpa using h⟩
    ·cases h
  ·rintro⟨j,hj,h⟩;by_cases hjm:j<m
   ·exact .inl ⟨j,hjm,h⟩
   ·obtain rfl:j=m:=by omega
    by_cases hc:j=0\/l[j]?≠l[j-1]?
    ·rw[if_pos hc];exact .inr (by simp[h])
    ·left
     have h0:j≠0:=fun e=>hc (.inl e);have h1:l[j]?=l[j-1]?:=Classical.byContradiction fun e=>hc (.inr e);exact⟨j-1,by omega,by rw[<-h1];exact h⟩
theorem mi! (l:List Tup)(x:Tup):x∈dd l↔x∈l:=by
 unfold dd;rw[kW!,List.mem_iff_getElem?];constructor
 ·rintro⟨j,_,h⟩;exact⟨j,h⟩
 ·rintro⟨j,h⟩;exact⟨j,(y3!.1 h).1,h⟩
theorem ny! (l:List Tup)(hs:l.Pairwise fun a b=>ltT b a=false):∀m,m<=l.length->UpT (ddN l m)
 | 0,_=>List.Pairwise.nil
 | m+1,hm=>by
  have ih:=ny! l hs m (by omega);rw[ddN];split
  ·next hc =>
   have hlm:l[m]?=some l[m]:=n4! (by omega);rw[hlm];unfold UpT;rw[List.pairwise_append];refine⟨ih,by simp,fun x hx y hy=>?_⟩;obtain rfl:y=l[m]:=by simpa using hy
   obtain⟨j,hj,a1⟩:=(kW! l x m).1 hx;obtain⟨d,rfl⟩:=y3!.1 a1;have hp:=fun(a b:Nat) (ha:a<l.length) (hb:b<l.length) (hab:a<b)=>x3!.1 hs a b ha hb hab;have h1:=hp j m d (by omega) hj;cases h2:ltT l[j] l[m] with
   | true=>rfl
   | false =>
    exfalso
    have c:l[j]=l[m]:=Classical.byContradiction fun e=>by
     have:=dX! h2 e;rw[this]at h1;cases h1
    have a0:m≠0:=by omega
    rcases hc with hc | hc
    ·exact a0 hc
    ·apply hc;have a2:l[m-1]?=some (l[m-1]'(by omega)):=n4! _;rw[hlm,a2];congr 1
     by_cases hj1:j=m-1
     ·subst hj1;exact c.symm
     ·have h3:=hp j (m-1) d (by omega) (by omega);have h4:=hp (m-1) m (by omega) (by omega) (by omega);refine Classical.byContradiction fun e=>?_
      have h5:ltT (l[m-1]'(by omega)) l[j]=true:=by
       have h6:ltT l[j] (l[m-1]'(by omega))=false:=by rw[c];exact h4
       exact dX! h6 (fun e2=>e (by rw[<-c,e2]))
      rw[h5]at h3;cases h3
  ·simpa using ih
theorem dd_up {l:List Tup}(hs:l.Pairwise fun a b=>ltT b a=false):UpT (dd l):=ny! l hs _ (n0! _)
theorem ei! (l:List Tup):∀m,m<=l.length->(∀j,0<j->j<m->l[j]?≠l[j-1]?)->ddN l m=l.take m
 | 0,_,_=>by simp[ddN]
 | m+1,hm,h=>by
  rw[ddN,ei! l m (by omega) fun j h0 h1=>h j h0 (by omega),List.take_add_one];congr 1
  rw[if_pos];by_cases h0:m=0
  ·exact .inl h0
  ·exact .inr (h m (by omega) (by omega))
theorem nQ! {l s:List Tup}(hp:s.Perm l)(hs:s.Pairwise fun a b=>ltT b a=false):SetT l ((dd s).filter fun t=>chkT t) :=
 ⟨(dd_up hs).filter _,fun t=>by rw[List.mem_filter,mi!,hp.mem_iff]⟩
theorem Own.setAtT {w:World}{B:Nat}{e:TypeId}{sz:Nat}{g n c:Nat}{xs:List Value}(h:Own w B e sz (.slice (some ⟨g,0,none⟩) n c) xs)(i:Nat)(u:Value):Own (w.setCell ⟨g,i,none⟩ u) B e sz (.slice (some ⟨g,0,none⟩) n c) (xs.set i u):=by
 obtain⟨m,h⟩:=h;rcases h.2 with⟨hv,rfl⟩|⟨g',cap,cur,hv,hbg,hg,hnc,hcm,hcs,htake⟩
 ·cases hv
 ·cases hv;refine⟨n,by rw[List.length_set];exact h.1,.inr ⟨g,c,cur.setIfInBounds i u,rfl,hbg,heap_setCell_same w g i cur e u hg,hnc,hcm,by simpa using hcs,?_⟩⟩;rw[Array.toList_setIfInBounds,<-htake,List.take_set]
def setL (xs:List Value):Nat->List Value->List Value
 | _,[]=>xs
 | o,v::r=>setL (xs.set o v) (o+1) r
theorem dI!:∀(vs:List Value)(xs:List Value)(o m:Nat),m<=o->(setL xs o vs).take m=xs.take m
 | [],_,_,_,_=>rfl
 | v::r,xs,o,m,h=>by
  rw[setL,dI! r (xs.set o v) (o+1) m (by omega),List.take_set_of_le h]
theorem Own.setMany {B:Nat}{e:TypeId}{sz:Nat}{g n c:Nat}:∀(vs:List Value) {w:World}{xs:List Value}(o:Nat),Own w B e sz (.slice (some ⟨g,0,none⟩) n c) xs->Own (w.setCells g o vs) B e sz (.slice (some ⟨g,0,none⟩) n c) (setL xs o vs)
 | [],_,_,_,h=>h
 | v::r,w,xs,o,h=>by
  rw[World.setCells,setL];exact Own.setMany r (o+1) (h.setAtT o v)
theorem bq! (g:Nat):∀(vs:List Value)(w:World)(o:Nat) {x:Nat},x≠g->(w.setCells g o vs).heap[x]?=w.heap[x]?
 | [],_,_,_,_=>rfl
 | v::r,w,o,x,h=>by
  rw[World.setCells,bq! g r _ _ h,Below.heap_setCell _ _ _ x h]
theorem bf! (g:Nat):∀(vs:List Value)(w:World)(o:Nat),(w.setCells g o vs).os=w.os/\(w.setCells g o vs).tape=w.tape/\(w.setCells g o vs).output=w.output/\(w.setCells g o vs).heap.size=w.heap.size
 | [],_,_=>⟨rfl,rfl,rfl,rfl⟩
 | v::r,w,o=>by
  obtain⟨h1,h2,h3,h4⟩:=bf! g r (w.setCell ⟨g,o,none⟩ v) (o+1);rw[World.setCells];exact⟨h1,h2,h3,by rw[h4];simp⟩
theorem Own.cutT {w:World}{B:Nat}{e:TypeId}{sz:Nat}{g n c:Nat}{xs:List Value}(h:Own w B e sz (.slice (some ⟨g,0,none⟩) n c) xs) {k:Nat}(hk:k<=n):Own w B e sz (.slice (some ⟨g,0,none⟩) k c) (xs.take (k*sz)):=by
 obtain⟨m,h⟩:=h;rcases h.2 with⟨hv,rfl⟩|⟨g',cap,cur,hv,hbg,hg,hnc,hcm,hcs,htake⟩
 ·cases hv
 ·cases hv;have hl:=h.1;have a0:k*sz<=n*sz:=y7! _ hk;refine⟨k,by rw[x4!];omega,.inr ⟨g,c,cur,rfl,hbg,hg,by omega,hcm,hcs,?_⟩⟩;rw[<-htake,List.take_take,Nat.min_eq_left a0]
theorem fR! (l:List Tup)(k:Nat):(tuCs l).take (k*6)=tuCs (l.take k):=by
 induction l generalizing k with
 | nil=>simp[tuCs]
 | cons x l ih =>
  cases k with
  | zero=>simp[tuCs]
  | succ k =>
   have:tuCs (x::l)=tuC x++tuCs l:=by simp[tuCs]
   rw[this,show(k+1)*6=(tuC x).length+k*6 by rw[aQ!];omega,List.take_length_add_append,ih,List.take_succ_cons];simp[tuCs]
theorem lk! (l:List Tup)(k:Nat)(x:Tup)(hk:k<l.length):((((((tuCs l).set (k*6) (.string x.o.t)).set (k*6+1) (.string x.o.i)).set (k*6+2) (.string x.o.r)).set (k*6+3) (.string x.s.t)).set (k*6+4) (.string x.s.i)).set (k*6+5) (.string x.s.r)=tuCs (l.set k x):=by
 induction l generalizing k with
 | nil=>simp at hk
 | cons y l ih =>
  have e:∀(z:Tup) (m:List Tup),tuCs (z::m)= .string z.o.t :: .string z.o.i :: .string z.o.r :: .string z.s.t :: .string z.s.i :: .string z.s.r::tuCs m:=fun z m=>by simp[tuCs,tuC]
  cases k with
  | zero=>rw[List.set_cons_zero,e,e];rfl
  | succ k =>
   rw[List.set_cons_succ,e,e,<-ih k (by simpa using hk)];have h1:(k+1)*6=k*6+6:=by omega
   rw[h1];simp only[show ∀a,k*6+6+a=k*6+a+6 from fun a=>by omega,List.set_cons_succ]
theorem Own.setTup {w:World}{B:Nat}{g n c:Nat}{l:List Tup}(h:Own w B 67 6 (.slice (some ⟨g,0,none⟩) n c) (tuCs l))(k:Nat)(x:Tup)(hk:k<l.length):Own ((((((w.setCell ⟨g,k*6,none⟩ (.string x.o.t)).setCell ⟨g,k*6+1,none⟩ (.string x.o.i)).setCell ⟨g,k*6+2,none⟩ (.string x.o.r)).setCell ⟨g,k*6+3,none⟩ (.string x.s.t)).setCell ⟨g,k*6+4,none⟩ (.string x.s.i)).setCell ⟨g,k*6+5,none⟩ (.string x.s.r)) B 67 6 (.slice (some ⟨g,0,none⟩) n c) (tuCs (l.set k x)):=by
 rw[<-lk! l k x hk];exact(((((h.setAtT _ _).setAtT _ _).setAtT _ _).setAtT _ _).setAtT _ _).setAtT _ _
theorem Own.tupAt {w:World}{B:Nat}{g n c:Nat}{l:List Tup}(h:Own w B 67 6 (.slice (some ⟨g,0,none⟩) n c) (tuCs l))(k:Nat)(hk:k<l.length):w.cell? ⟨g,k*6,none⟩=some (.string l[k].o.t)/\w.cell? ⟨g,k*6+1,none⟩=some (.string l[k].o.i)/\w.cell? ⟨g,k*6+2,none⟩=some (.string l[k].o.r)/\w.cell? ⟨g,k*6+3,none⟩=some (.string l[k].s.t)/\w.cell? ⟨g,k*6+4,none⟩=some (.string l[k].s.i)/\w.cell? ⟨g,k*6+5,none⟩=some (.string l[k].s.r):=by
 obtain⟨ao,c',he,-,-,a⟩:=Sl.rows aQ! (by decide) (show Sl _ w 6 _ (l.flatMap tuC)from h.sl);cases he;obtain⟨b,a1,a0,-,a⟩:=a (by omega);cases a0;have d:=a k hk;refine⟨?_,?_,?_,?_,?_,?_⟩
 ·have:=d 0 _ rfl;simpa using this
 ·have:=d 1 _ rfl;simpa using this
 ·have:=d 2 _ rfl;simpa using this
 ·have:=d 3 _ rfl;simpa using this
 ·have:=d 4 _ rfl;simpa using this
 ·have:=d 5 _ rfl;simpa using this
end Go.Proofs.YtlhaghoajpglaaaGreat
