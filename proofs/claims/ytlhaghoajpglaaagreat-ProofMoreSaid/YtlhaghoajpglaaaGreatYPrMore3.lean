/- Lemmas for the claim, no condition. -/
import Derived.DeepKeys4
import Derived.RangeFuncNested
import Derived.OwnWalkIn
import Derived.TacticsInMore
import Derived.LoopNIn
import Derived.LoopIn
import Derived.Test.YtlhaghoajpglaaaGreatYPrMore2
import Derived.RangeFuncGives
set_option maxRecDepth 100000
set_option maxHeartbeats 8000000
namespace Go.Proofs.YtlhaghoajpglaaaGreat
open Go Go.Maps Go.RowKit Go.Proofs.Tryz
theorem Own.lit (w:World) {B:Nat}(hB:B<=w.heap.size)(e:TypeId)(sz n:Nat)(cs:Array Value)(hn:cs.size=n*sz)(hm:n<=maxLen)(_h0:n≠0):Own (w.alloc (.cells cs e)) B e sz (.slice (some ⟨w.heap.size,0,none⟩) n n) cs.toList:=by
 refine⟨n,by simpa using hn,.inr ⟨w.heap.size,n,cs,rfl,hB,heap_alloc_new w _,n0! _,hm,hn,?_⟩⟩;rw[<-hn];exact List.take_of_length_le (by simp)
theorem dj! {P:Program}{w:World}(base:Nat)(t ty e:TypeId)(i:TypeInfo)(z:Value)(ht:P.underlying t=some (.slice e))(hi:P.info? e=some i)(hz:i.zero=some z)
  (v:Value) (n:Nat) (xs:List Value) (hown:w.ownsRow base e i.size v n xs)
  (a:Addr) (m c:Nat) (news:List Value) (hl:news.length=m*i.size) (hnews:∀j u,news[j]?=some u->w.cell? (a.add j)=some u) (h1:∀u∈news,u.oneCell'=true)
  (h63:n+m<=maxLen) (hbytes:(n+m)*i.bytes<=140737488355328) {v':Value} {w':World} (hrun:(Builtin.append_ #[t,t] ty #[v,.slice (some a) m c]).run P w= .ok v' w') :
  ∀g,v'.ownBlock=some g->v.ownBlock=some g\/w.heap.size<=g:=by
 have d:n+m<=9223372036854775807:=by simp only[maxLen]at h63;omega
 rcases hown.2 with⟨rfl,rfl⟩|⟨g,cap,cur,rfl,hbg,hg,hnc,hcm,hcs,htake⟩
 ·have hx:xs=[]:=x0! (by simpa using hown.1);subst hx;by_cases hm:m=0
  ·subst hm;have hn:news=[]:=x0! (by simpa using hl);subst hn
   have:(Builtin.append_ #[t,t] ty #[.slice none 0 0,.slice (some a) 0 c]).run P w= .ok (.slice none 0 0) w:=by
    simp[Builtin.append_,run_underlying ht,sizeOf,typeInfo,hi,Builtin.lenOf,Builtin.firstCells,loadCells,loadCellsFrom]
   rw[hrun]at this;injection this with h1 h2
   subst h1;intro g hg;cases hg
  ·have h:=run_append_nil (P:=P) w t ty e i z ht hi hz a m c news hl hnews (by omega) (by omega) (by have hb:=hbytes;simp only[Nat.zero_add]at hb;omega);rw[hrun]at h;injection h with h1 h2
   subst h1;intro g hg;simp only[Value.ownBlock,Option.some.injEq]at hg;exact .inr (v4! hg)
 ·by_cases hroom:n+m<=cap
  ·have f:n*i.size+news.length<=cur.size:=by rw[hl,hcs,<-Nat.add_mul];exact y7! _ hroom
   have h:=run_append_room (P:=P) w t ty e i ht hi g n cap cur hg a m c news hl hnews h1 hroom f;rw[hrun]at h;injection h with h1 h2
   subst h1;intro g' hg';exact .inl hg'
  ·have b:∀j u,xs[j]?=some u->w.cell? ((⟨g,0,none⟩:Addr).add j)=some u:=hown.cells (g:=g) rfl;have h:=run_append_grow (P:=P) w t ty e i z ht hi hz ⟨g,0,none⟩ n cap xs hown.1 b a m c news hl hnews (by omega) (by omega) (growslice_fits (by omega) hbytes);rw[hrun]at h;injection h with h1 h2
   subst h1;intro g hg;simp only[Value.ownBlock,Option.some.injEq]at hg;exact .inr (v4! hg)
theorem aP! {P:Program}{w:World}{o:Oper}{a:Act}{K:Act->World->Prop}{Q:Exit->Act->World->Prop}{t e:TypeId}{size bytes:Nat}(E:oi! P t e size bytes)
  (s x:Operand) (hop:o.op=Op.call {callee:=Callee.builtin Builtin.append,args:=#[s,x],argTypes:=#[t,t]})
  {B:Nat} {v:Value} {xs:List Value} (hs:a.eval s=v) (hown:Own w B e size v xs) {ad:Addr} {m c:Nat} {news:List Value} (hx:a.eval x= .slice (some ad) m c) (hn:news.length=m*size)
  (hc:∀j u,news[j]?=some u->w.cell? (ad.add j)=some u) (h1:∀u∈news,u.oneCell'=true)
  (hlen:xs.length+news.length<=9223372036854775807) (hbytes:(xs.length+news.length)*bytes<=140737488355328) (hB:B<=w.heap.size)
  (h:∀v' w',Own w' B e size v' (xs++news)->(∀g,v'.ownBlock=some g->v.ownBlock=some g\/w.heap.size<=g)->w.grownBy w' v.ownBlock->K (a.put o.dst v') w'):o.wp P a w K Q:=by
 obtain⟨d,⟨i,z,hi,hz,h4,h5,h6⟩,f⟩:=E;obtain⟨k,hown⟩:=hown;have e1:∀k l:Nat,k<=l*size->l*size<=k->l<=k:=fun k l _ hb=>n6! (Nat.le_mul_of_pos_right l f) hb;have a0:k<=xs.length:=e1 _ _ (v4! hown.1) (v4! hown.1.symm);have a1:m<=news.length:=e1 _ _ (v4! hn) (v4! hn.symm);have n:(k+m)*bytes<=140737488355328:=n6! (y7! _ (by omega)) hbytes;subst h4;subst h5;obtain⟨v',w',b,r1,r2,_⟩:=run_append_own (P:=P) w B t o.type e i z i.size i.bytes d hi hz rfl rfl h6 f v k xs hown ad m c news hn hc h1 (by unfold maxLen;omega) n hB;have r3:=dj! B t o.type e i z d hi hz v k xs hown ad m c news hn hc h1 (by unfold maxLen;omega) n b;unfold Oper.wp;simp[execOp,hop,resolve,invoke,builtin,hs,hx,b,Result.andThen];exact h v' w' ⟨_,r1⟩ r3 r2
theorem aW! {P:Program}{w:World}{ops:Array Oper}{rest:List Oper}{o:Oper}{a:Act}{Q:Exit->Act->World->Prop}{t e:TypeId}{size bytes:Nat}(E:oi! P t e size bytes)
  (hg:o.guard=none) (s x:Operand) (hop:o.op=Op.call {callee:=Callee.builtin Builtin.append,args:=#[s,x],argTypes:=#[t,t]})
  {B:Nat} {v:Value} {xs:List Value} (hs:a.eval s=v) (hown:Own w B e size v xs) {ad:Addr} {m c:Nat} {news:List Value} (hx:a.eval x= .slice (some ad) m c) (hn:news.length=m*size)
  (hc:∀j u,news[j]?=some u->w.cell? (ad.add j)=some u) (h1:∀u∈news,u.oneCell'=true)
  (hlen:xs.length+news.length<=9223372036854775807) (hbytes:(xs.length+news.length)*bytes<=140737488355328) (hB:B<=w.heap.size)
  (K:∀v' w',Own w' B e size v' (xs++news)->(∀g,v'.ownBlock=some g->v.ownBlock=some g\/w.heap.size<=g)->w.grownBy w' v.ownBlock->wpList P ops Q rest (a.put o.dst v') w'):wpList P ops Q (o::rest) a w :=
 wpList_plain hg fun _K' hK'=>aP! E s x hop hs hown hx hn hc h1 hlen hbytes hB fun v' w' h2 h3 h4=>hK' _ _ (K v' w' h2 h3 h4)
theorem Own.apart {w:World}{B B' sz sz':Nat}{e e':TypeId}{v v':Value}{xs xs':List Value}(h:Own w B e sz v xs)(k:Own w B' e' sz' v' xs')(hne:e≠e') {g:Nat}(hg:v.ownBlock=some g):v'.ownBlock≠some g:=fun hv=>by
 obtain⟨c1,h1⟩:=h.typed hg;obtain⟨c2,h2⟩:=k.typed hv;rw[h1]at h2;exact hne (by injection v5! h2)
theorem Own.slFo {w:World}{B sz:Nat}{e:TypeId}{v:Value}{xs:List Value}(h:Own w B e sz v xs) {S:Nat->Prop}(hS:∀g,v.ownBlock=some g->S g):Sl S w sz v xs:=by
 obtain⟨n,h⟩:=h;exact bk! h _ hS
theorem Own.set1 {w:World}{B:Nat}{e:TypeId}{g n c:Nat}{xs:List Value}(h:Own w B e 1 (.slice (some ⟨g,0,none⟩) n c) xs)(i:Nat)(u:Value):Own (w.setCell ⟨g,i,none⟩ u) B e 1 (.slice (some ⟨g,0,none⟩) n c) (xs.set i u):=by
 obtain⟨m,h⟩:=h;rcases h.2 with⟨hv,rfl⟩|⟨g',cap,cur,hv,hbg,hg,hnc,hcm,hcs,htake⟩
 ·cases hv
 ·cases hv;have hl:=h.1;refine⟨n,by rw[List.length_set];exact hl,.inr ⟨g,c,cur.setIfInBounds i u,rfl,hbg,heap_setCell_same w g i cur e u hg,hnc,hcm,by simpa using hcs,?_⟩⟩;rw[Array.toList_setIfInBounds,<-htake,List.take_set]
theorem Own.lay {w:World}{B:Nat}{e:TypeId}{v:Value}{xs:List Value}(h:Own w B e 1 v xs)(hx:xs≠[]):∃g c cs,v= .slice (some ⟨g,0,none⟩) xs.length c/\B<=g/\Blk w g cs e/\xs.length<=c/\c<=maxLen/\(∀i (hi:i<xs.length),cs[i]?=some xs[i]):=by
 obtain⟨m,h⟩:=h;rcases h.2 with⟨hv,he⟩|⟨g',cap,cur,hv,hbg,hg,hnc,hcm,hcs,htake⟩
 ·exact absurd (List.length_eq_zero_iff.1 (by have:=h.1;rw[he]at this;simpa using this)) hx
 ·have hl:=h.1;rw[Nat.mul_one]at hl htake;subst hl;refine⟨g',cap,cur,hv,hbg,hg,hnc,hcm,fun i hi=>?_⟩;have h1:=congrArg (fun l:List Value=>l[i]?) htake;rw[List.getElem?_take_of_lt hi,n4! hi]at h1;simpa using h1
theorem eS!:laidOutB prog=true:=by kernel_rfl
theorem bL! (d:Nat)(s:ByteArray)(h:s.size<=maxLen):prog.keyLits (d+1) 9 [.string s]=some [.string s.data.toList]:=by
 unfold Program.keyLits;rw[Tryz.underlying9];simp only[h,if_true]
theorem fx! (d:Nat)(s u:ByteArray)(h:s.size<=maxLen)(k:u.size<=maxLen):prog.keyLits (d+1+1) 30 [.string s,.string u]=some [.string s.data.toList,.string u.data.toList]:=by
 unfold Program.keyLits;rw[Tryz.underlying30];have e1:=bL! d s h;have e2:=bL! d u k;have e3:prog.cellsOf 30=2:=by kernel_rfl
 have e4:prog.cellsOf 9=1:=by kernel_rfl
 simp[e1,e2,e3,e4]
theorem bw!:∃d,prog.types.size=d+1+1+1:=⟨prog.types.size-3,by have:3<=prog.types.size:=of_decide_eq_true (by kernel_rfl);omega⟩
theorem refK:Keyed prog 121:=Keyed.of_law (deep_law_laid eS! (m:=3) (by decide) (of_decide_eq_true (by kernel_rfl)) (by kernel_rfl) (by kernel_rfl))
theorem bB! (a b:R2)(h:r2V a=r2V b):a=b:=by
 obtain⟨a1,a2⟩:=a;obtain⟨b1,b2⟩:=b;simpa [r2V] using h
def R2.Ok (p:R2):Prop:=p.t.size<=maxLen/\p.r.size<=maxLen
theorem lz! (d:Nat)(p:R2)(h:p.Ok):prog.keyLits (d+1+1) 121 [.string p.t,.string p.r]=some [.string p.t.data.toList,.string p.r.data.toList]:=by
 unfold Program.keyLits;rw[Tryz.underlying121];have e1:=bL! d p.t h.1;have e2:=bL! d p.r h.2;have e3:prog.cellsOf 121=2:=by kernel_rfl
 have e4:prog.cellsOf 9=1:=by kernel_rfl
 simp[e1,e2,e3,e4]
theorem bA! (p:R2)(h:p.Ok):∃q,keyOf prog 121 (r2V p)=some q:=by
 obtain⟨d,hd⟩:=bw!;have e:=lz! (d+1+1) p h;have e2:(prog.keyType 121&&(r2V p).formed prog 121)=true:=by kernel_rfl
 have hs:prog.types.size+1=d+1+1+1+1:=by omega
 unfold keyOf;rw[Tryz.underlying121];dsimp only;rw[if_pos e2,hs];rw[show(r2V p).cells.toList=[.string p.t,.string p.r]from rfl,e];exact⟨_,rfl⟩
theorem strK:Keyed prog 9:=string_keyed Tryz.underlying9
theorem by! (a b:ByteArray)(h:Value.string a=Value.string b):a=b:=by injection h
theorem cx! (s:ByteArray)(h:s.size<=maxLen):∃q,keyOf prog 9 (.string s)=some q:=by
 unfold keyOf;rw[Tryz.underlying9];dsimp only;unfold mapKey;rw[Tryz.underlying9];simp[h]
abbrev bV:Bool->Value:=fun x => .bool x
section
variable {κ α : Type} [DecidableEq κ]
theorem cu! (a:κ)(x:α)(b:κ):∀l:List (κ × α),lookA (putA l a x) b=if a=b then some x else lookA l b
 | []=>by simp[putA,lookA]
 | p::r=>by
  unfold putA;by_cases h:p.1=a
  ·rw[if_pos h];subst h;by_cases hb:p.1=b
   ·simp[lookA,hb]
   ·simp[lookA,hb]
  ·rw[if_neg h];by_cases hb:p.1=b
   ·subst hb;simp[lookA,Ne.symm h]
   ·simp[lookA,hb,cu! a x b r]
theorem bO! (a:κ)(x:α)(b:κ × α):∀ {l:List (κ × α)},b∈putA l a x->b=(a,x)\/b∈l
 | [],h=>by simpa [putA] using h
 | p::r,h=>by
  unfold putA at h;split at h
  ·rcases v7!.1 h with h | h
   ·exact .inl h
   ·exact .inr (by simp[h])
  ·rcases v7!.1 h with h | h
   ·exact .inr (by simp[h])
   ·rcases bO! a x b h with h | h
    ·exact .inl h
    ·exact .inr (by simp[h])
end
abbrev Tk (b:Nat) (w w':World):Prop:=Kept (fun x=>x<w.heap.size/\x≠b) w w'
section
variable {b : Nat} {w w' w'' : World}
theorem Tk.refl (b:Nat)(w:World):Tk b w w:=Kept.refl _ _
theorem Tk.next (h:Tk b w w')(k:Tk b w' w''):Tk b w w'':=Kept.trans h (Kept.mono k fun _x hx=>⟨n1! hx.1 h.size,hx.2⟩)
theorem Tk.of (h:Below w.heap.size w w'):Tk b w w':=Below.kept h fun _x hx=>hx.1
theorem Tk.turned (h:ot! w w' b):Tk b w w':=h.kept.mono fun _x hx=>hx.2
theorem Tk.box (h:Tk b w w') {x:Nat}{cs:Array Value}{t:TypeId}(hx:Blk w x cs t)(hb:x≠b):Blk w' x cs t:=Kept.blk h hx ⟨hx.lt,hb⟩
theorem Tk.below (h:Tk b w w') {B:Nat}(h1:B<=w.heap.size)(h2:B<=b):Below B w w':=Kept.below h fun x hx=>⟨by omega,by omega⟩
end
attribute [local go_sem] Oper.semAt_some
theorem fj! {F:Fence}{n:Nat}{P:Program}{w:World}{ops:Array Oper}{rest:List Oper}{o:Oper}{a:Act}{Q:Exit->Act->World->Prop}{t e:TypeId}{size bytes:Nat}(E:oi! P t e size bytes)
  (hg:o.guard=none) (s x:Operand) (hop:o.op=Op.call {callee:=Callee.builtin Builtin.append,args:=#[s,x],argTypes:=#[t,t]})
  {B:Nat} {v:Value} {xs:List Value} (hs:a.eval s=v) (hown:Own w B e size v xs) {ad:Addr} {m c:Nat} {news:List Value} (hx:a.eval x= .slice (some ad) m c) (hn:news.length=m*size)
  (hc:∀j u,news[j]?=some u->w.cell? (ad.add j)=some u) (h1:∀u∈news,u.oneCell'=true)
  (hlen:xs.length+news.length<=9223372036854775807) (hbytes:(xs.length+news.length)*bytes<=140737488355328) (hB:B<=w.heap.size)
  (K:∀v' w',Own w' B e size v' (xs++news)->(∀g,v'.ownBlock=some g->v.ownBlock=some g\/w.heap.size<=g)->w.grownBy w' v.ownBlock->wpListIn F n P ops Q rest (a.put o.dst v') w'):wpListIn F n P ops Q (o::rest) a w:=by
 obtain⟨d,⟨i,z,hi,hz,h4,h5,h6⟩,f⟩:=E;obtain⟨k,hown⟩:=hown;have e1:∀k l:Nat,k<=l*size->l*size<=k->l<=k:=fun k l _ hb=>n6! (Nat.le_mul_of_pos_right l f) hb;have a0:k<=xs.length:=e1 _ _ (v4! hown.1) (v4! hown.1.symm);have a1:m<=news.length:=e1 _ _ (v4! hn) (v4! hn.symm);have h:(k+m)*bytes<=140737488355328:=n6! (y7! _ (by omega)) hbytes;subst h4;subst h5;refine wpListIn_plain hg fun K' hK'=>?_;obtain⟨v',w',b,r1,r2,_⟩:=run_append_own (P:=P) w B t o.type e i z i.size i.bytes d hi hz rfl rfl h6 f v k xs hown ad m c news hn hc h1 (by unfold maxLen;omega) h hB;have r3:=dj! B t o.type e i z d hi hz v k xs hown ad m c news hn hc h1 (by unfold maxLen;omega) h b;unfold Oper.wpIn;refine⟨?_,?_⟩
 ·simp[Oper.about,hop,resolve,Target.leads,Sem.run_pure]
 ·rw[Oper.semAt_plain F _ _ (by rw[hop];intro c hc';cases hc')];simp[execOp,hop,resolve,invoke,builtin,hs,hx,b,Result.andThen];exact hK' _ _ (K v' w' ⟨_,r1⟩ r3 r2)
theorem gU! {β:Type}(B0 Bs:Nat)(t e:TypeId)(sz:Nat)(f:β->List Value)(G:Value->Prop)(B:Nat):OwnFrom B (fun s W=>∃v,Boxed W Bs t v/\Own W B0 e sz v (f s)/\G v):=by
 rintro s X Y a0 ⟨v,hv,⟨n,hr⟩,hG⟩ hg a;obtain⟨v2,h1,h2,rfl⟩:=(holdsRow_own B0 Bs t e sz (fun _:Unit=>n) (fun _=>f s) (fun _ u=>u=v)) () X Y a0 ⟨v,hv,hr,rfl⟩ hg (fun r e=>(a r e).2);exact⟨v2,h1,⟨n,h2⟩,hG⟩
theorem fv! {β:Type}{K:Nat->Prop}{B:Nat}{w0:World}(hK:∀b,K b->b<w0.heap.size)(hB:w0.heap.size<=B):OwnFrom B (fun(_:β) W=>Kept K w0 W):=fun _ X _ row h hg hr =>
 h.trans ⟨hg.os,hg.tape,hg.output,hg.size,fun b hb=>hg.block b (n1! (hK b hb) h.size) (fun e=>by have h1:=(hr b e.symm).1;have h2:=hK b hb;omega)⟩
theorem hp! {W W':World}{row:Option Nat}{B:Nat}{cs:Array Value}{t:TypeId}(h:Blk W B cs t)(hg:W.grownBy W' row)(hr:∀r,row=some r->∃o:Obj,W.heap[r]?=some o/\o.isCells=false):Blk W' B cs t :=
 (hg.block B h.lt (fun e=>by
  obtain⟨o,ho,hc⟩:=hr B e.symm;rw[show W.heap[B]?=_ from h]at ho;cases ho;cases hc)).trans h
theorem Own.put {W:World}{B0:Nat}{e:TypeId}{sz:Nat}{v:Value}{xs:List Value}(h:Own W B0 e sz v xs) {l:Nat}{o:Obj}(o':Obj)(hl:W.heap[l]?=some o)(ho:o.isCells=false):Own (W.putObj l o') B0 e sz v xs:=by
 obtain⟨n,h⟩:=h;exact⟨n,ownsRow_putObj h o' hl ho⟩
theorem dh! {W:World}{B:Nat}{t e:TypeId}{u:Value}(h:Boxed W B t u)(hte:t≠e) {B0 sz:Nat}{v:Value}{xs:List Value}(hr:Own W B0 e sz v xs):some B≠v.ownBlock:=by
 obtain⟨n,hr⟩:=hr;exact h.not_row hte hr
theorem Own.not_cells {W:World}{B0:Nat}{e:TypeId}{sz:Nat}{v:Value}{xs:List Value}(h:Own W B0 e sz v xs) {k:Nat}{o:Obj}(hk:W.heap[k]?=some o)(ho:o.isCells=false):some k≠v.ownBlock:=fun e'=>by
 obtain⟨cur,hc⟩:=h.typed e'.symm;rw[hk]at hc;cases hc;cases ho
theorem jZ! {W W':World}{B0:Nat}{e:TypeId}{sz:Nat}{v:Value}{xs:List Value}(h:Own W B0 e sz v xs)(hg:W.grownBy W' v.ownBlock)(B:Nat):KeepsFrom B W W' :=
 ⟨hg.size,fun k _ _ hk ho=>(hg.block k (x7!.1 hk).1 (h.not_cells hk ho)).trans hk⟩
theorem lS! {W W':World}(h:KeepsFrom 0 W W')(B:Nat):KeepsFrom B W W':=⟨h.size,fun k o _ hk ho=>h.same k o (v1! _) hk ho⟩
def QK (e:TypeId)(M:Nat->Prop)(B:Nat)(w:World)(x:Nat):Prop:=x<B\/(¬ M x/\x<w.heap.size/\∀cs,w.heap[x]?≠some (.cells cs e (0,0)))
abbrev oo! (e:TypeId) (M:Nat->Prop) (B:Nat) (w w':World):Prop:=Kept (QK e M B w) w w'
section
variable {e : TypeId} {M : Nat -> Prop} {w w' w'' : World} {B : Nat}
theorem oo!.below (h:oo! e M B w w'):Below B w w':=Kept.below h fun _ hx => .inl hx
theorem oo!.next (h:oo! e M B w w')(k:oo! e M B w' w''):oo! e M B w w'':=Kept.trans h (Kept.mono k fun x hx=>by
 rcases hx with hx | ⟨h1,h2,h3⟩
 ·exact .inl hx
 ·refine .inr ⟨h1,n1! h2 h.size,fun cs=>?_⟩;rw[h.block x (.inr ⟨h1,h2,h3⟩)];exact h3 cs)
theorem oo!.of (h:Below w.heap.size w w')(hB:B<=w.heap.size):oo! e M B w w':=Below.kept h fun x hx=>by
 rcases hx with hx | ⟨_,h2,_⟩
 ·omega
 ·exact h2
theorem oo!.box (h:oo! e M B w w') {x:Nat}{cs:Array Value}{t:TypeId}(hx:Blk w x cs t)(he:t≠e)(hb:¬ M x):Blk w' x cs t:=Kept.blk h hx (.inr ⟨hb,hx.lt,fun cs' h'=>by
 rw[show w.heap[x]?=_ from hx]at h';injection h' with h'
 injection h' with _ h2 _
 exact he h2⟩)
theorem oo!.turned {b:Nat}(h:ot! w w' b)(hb:M b)(hB:B<=b):oo! e M B w w':=h.kept.mono fun x hx=>by
 rcases hx with hx | ⟨h1,_⟩
 ·show x≠b;omega
 ·show x≠b;exact fun e=>h1 (e▸hb)
theorem oo!.grown {v:Value}{sz:Nat}{xs:List Value}(ho:Own w B e sz v xs)(hg:w.grownBy w' v.ownBlock)(hB:B<=w.heap.size):oo! e M B w w':=⟨hg.os,hg.tape,hg.output,hg.size,fun x hx=>by
 rcases hx with hx | ⟨_,h2,h3⟩
 ·exact hg.block x (by omega) (fun e=>by have:=(ho.block x e.symm).1;omega)
 ·refine hg.block x h2 (fun e=>?_);obtain⟨n,ho⟩:=ho;rcases ho.2 with⟨rfl,_⟩|⟨g',cap,cur,rfl,hbg,hg',r⟩
  ·cases e
  ·injection e with e
   subst e;exact h3 _ hg'⟩
end
theorem gA! {P:Program}{w:World}{ops:Array Oper}{rest:List Oper}{o:Oper}{a:Act}{Q:Exit->Act->World->Prop}{t e:TypeId}{size bytes:Nat}(E:oi! P t e size bytes)
  (hg:o.guard=none) (s x:Operand) (hop:o.op=Op.call {callee:=Callee.builtin Builtin.append,args:=#[s,x],argTypes:=#[t,t]})
  {B:Nat} {v:Value} {xs:List Value} (hs:a.eval s=v) (hown:Own w B e size v xs) {T:Nat->Prop} {y:Value} {news:List Value} (hx:a.eval x=y) (hy:Sl T w size y news) (h1:∀u∈news,u.oneCell'=true)
  (hlen:xs.length+news.length<=9223372036854775807) (hbytes:(xs.length+news.length)*bytes<=140737488355328) (hB:B<=w.heap.size)
  (K:∀v' w',Own w' B e size v' (xs++news)->Below B w w'->w.grownBy w' v.ownBlock->wpList P ops Q rest (a.put o.dst v') w'):wpList P ops Q (o::rest) a w :=
 wpList_plain hg fun _K' hK'=>mx! E s x hop hs hown hx hy h1 hlen hbytes hB fun v' w' h2 h3 h4=>hK' _ _ (K v' w' h2 h3 h4)
def bx! (t:TyS):Bool:=decide (t.rels.length<=16)&&t.rels.all fun r=>decide (r.2.sz<=32)
def cc! (ts:List TyS):Bool:=decide (ts.length<=16)&&ts.all bx!
def aK! (ts:List TyS):Bool:=decide ((ts.map (·.name)).Nodup)&&ts.all fun t=>decide ((t.rels.map (·.1)).Nodup)
def nt! (ts:List TyS)(j:Nat):Prop:=∀m (hm:m<ts.length)(hj:j<ts.length),m<j->ts[m].name≠ts[j].name
def bZ! (ts:List TyS):Bool:=ts.all fun t=>t.rels.all fun r=>r.2.named ts t
theorem cw! {ts:List TyS}(h:aK! ts=true) {i:Nat}(hi:i<ts.length):nt! ts i/\((ts[i].rels.map (·.1)).Nodup):=by
 unfold aK! at h;rw[v0!,u1!,u8!]at h;refine⟨fun m hm hj hmj he=>?_,of_decide_eq_true (h.2 _ (n5! hi))⟩;have:=(x3!.1 h.1) m i (by simpa using hm) (by simpa using hi) hmj;simp only[List.getElem_map]at this;exact this he
theorem mz! {ts:List TyS}(h:∀j (hj:j<ts.length),nt! ts j/\((ts[j].rels.map (·.1)).Nodup)):aK! ts=true:=by
 unfold aK!;rw[v0!,u1!,u8!];refine⟨x3!.2 fun m j hm hj hmj=>?_,fun x hx=>?_⟩
 ·simp only[List.getElem_map];exact(h j (by simpa using hj)).1 m (by simpa using hm) (by simpa using hj) hmj
 ·obtain⟨j,hj,rfl⟩:=u0! hx;exact v2! (h j hj).2
def oa! (l:List (ByteArray × RT))(j:Nat):Prop:=∀m (hm:m<l.length)(hj:j<l.length),m<j->l[m].1≠l[j].1
theorem mc! {l:List (ByteArray × RT)}(h:(l.map (·.1)).Nodup)(j:Nat):oa! l j:=fun m hm hj hmj he=>by
 have:=(x3!.1 h) m j (by simpa using hm) (by simpa using hj) hmj;simp only[List.getElem_map]at this;exact this he
def chk06 (ts:List TyS):Int:=if bj! ts then(if cc! ts then(if aK! ts then(if bZ! ts then 0 else 2)else 3)else 10)else 9
abbrev RV:=RT × Value
def rvV (x:RV):Value:=rV x.1 x.2
abbrev WV:=List ByteArray × Value
def wvV (x:WV):Value:=x.2
def txs (l:List ByteArray):List Value:=l.map Value.string
theorem mA! (l:List ByteArray):∀u∈txs l,u.oneCell'=true:=by
 intro u hu;obtain⟨s,_,rfl⟩:=u6!.1 hu;rfl
theorem ae! (l:List ByteArray):(txs l).length=l.length:=by simp[txs]
theorem bg! (a b:List ByteArray):txs (a++b)=txs a++txs b:=by simp[txs]
theorem gJ!:oi! prog 169 9 1 16:=oi!.mk' Tryz.underlying169 (show _=some (some (.string ByteArray.empty),1,16)by kernel_rfl) rfl (by decide)
def aR! (n:ByteArray)(l:List (ByteArray × RT)):List (R2 × RT):=l.map fun r=>(⟨n,r.1⟩,r.2)
def ab! (ts:List TyS):List (R2 × RT):=ts.flatMap fun t=>aR! t.name t.rels
def aG! (P:List (R2 × RT))(n:ByteArray):List ByteArray:=(P.filter fun x=>decide (x.1.r=n)).map (·.1.t)
def optL (l:List ByteArray):Option (List ByteArray):=if l=[]then none else some l
theorem gF! (P:List (R2 × RT))(x:R2 × RT)(n:ByteArray):aG! (P++[x]) n=if x.1.r=n then aG! P n++[x.1.t]else aG! P n:=by
 unfold aG!;rw[List.filter_append,v9!];by_cases h:x.1.r=n
 ·simp[h]
 ·simp[h]
theorem bz! (a b:List TyS):ab! (a++b)=ab! a++ab! b:=x9!
theorem gR! {l:List TyS}{i:Nat}(hi:i<l.length):ab! (l.take (i+1))=ab! (l.take i)++aR! l[i].name l[i].rels:=by
 rw[n2! hi,bz!];simp[ab!]
theorem gQ! {n:ByteArray}{l:List (ByteArray × RT)}{i:Nat}(hi:i<l.length):aR! n (l.take (i+1))=aR! n (l.take i)++[(⟨n,l[i].1⟩,l[i].2)]:=by
 rw[n2! hi];simp only[aR!,v9!,v8!,List.map_nil]
structure WhRows (w:World)(B:Nat)(lw:List (ByteArray × WV)):Prop where
 rows:∀x∈lw,x.2.1≠[]/\Own w B 9 1 x.2.2 (txs x.2.1)
 apart:∀x∈lw,∀y∈lw,x.1≠y.1->x.2.2.ownBlock≠y.2.2.ownBlock
def BkR (S:Nat->Prop)(w:World)(b1:Nat)(P:List (R2 × RT)):Prop :=
 ∃lr:List (R2 × RV),Mp prog 121 r2V rvV w b1 lr/\lr.map (fun x=>(x.1,x.2.1))=P/\∀x∈lr,RTAt S w x.2.1 x.2.2
def BkW (w:World)(B b3:Nat)(P:List (R2 × RT)):Prop :=
 ∃lw:List (ByteArray × WV),Mp prog 9 Value.string wvV w b3 lw/\WhRows w B lw/\∀n,(lookA lw n).map (·.1)=optL (aG! P n)
theorem Own.notMap {w:World}{B:Nat}{e:TypeId}{sz:Nat}{v:Value}{xs:List Value}(h:Own w B e sz v xs) {b:Nat}(hb:∀cs t fr,w.heap[b]?≠some (.cells cs t fr)):∀g,v.ownBlock=some g->g≠b:=by
 intro g hg he;obtain⟨n,h⟩:=h;rcases h.2 with⟨rfl,_⟩|⟨g',cap,cur,rfl,hbg,hg',r⟩
 ·cases hg
 ·injection hg with hg
  subst hg he;exact hb _ _ _ hg'
theorem Mp.notCells {P:Program}{k:TypeId}{κ α:Type}{kv:κ->Value}{ev:α->Value}{w:World}{b:Nat}{l:List (κ × α)}(h:Mp P k kv ev w b l):∀cs t fr,w.heap[b]?≠some (.cells cs t fr):=by
 obtain⟨es,a0,hb,_⟩:=h;intro cs t fr h;rw[hb]at h;cases h
theorem ig! {w:World}{B:Nat}{e:TypeId}{v:Value}{l:List ByteArray}(h:Own w B e 1 v (txs l))(hl:l≠[]):∃g,v.ownBlock=some g:=by
 obtain⟨n,h⟩:=h;rcases h.2 with⟨rfl,rfl⟩|⟨g',cap,cur,rfl,hbg,hg',r⟩
 ·have:=h.1;rw[ae!]at this;exact absurd (x0! (by omega)) hl
 ·exact⟨g',rfl⟩
theorem WhRows.keep {w w':World}{B:Nat}{lw:List (ByteArray × WV)}(h:WhRows w B lw)(hs:∀x,B<=x->x<w.heap.size->(∃cs,w.heap[x]?=some (.cells cs 9 (0,0)))->w'.heap[x]?=w.heap[x]?):WhRows w' B lw :=
 ⟨fun x hx=>⟨(h.rows x hx).1,(h.rows x hx).2.keepB fun g hg=>by
  have ho:=(h.rows x hx).2;have hb:=ho.block g hg;refine hs g hb.1 hb.2 ?_;obtain⟨n,ho⟩:=ho;rcases ho.2 with⟨h0,_⟩|⟨g',cap,cur,h0,hbg,hg',r⟩
  ·rw[h0]at hg;cases hg
  ·rw[h0]at hg;injection hg with hg
   subst hg;exact⟨_,hg'⟩⟩,h.apart⟩
theorem cS! {κ α:Type} [DecidableEq κ] (a:κ)(y:α)(x:κ × α):∀ {l:List (κ × α)},(l.map (·.1)).Nodup->x∈putA l a y->x=(a,y)\/(x∈l/\x.1≠a)
 | [],_,h=>by simp[putA]at h;exact .inl h
 | p::r,hn,h=>by
  simp only[v8!,List.nodup_cons]at hn;unfold putA at h;split at h
  ·rename_i e
   rcases v7!.1 h with h | h
   ·exact .inl h
   ·exact .inr ⟨by simp[h],fun e2=>hn.1 (by rw[e,<-e2];exact u6!.2 ⟨x,h,rfl⟩)⟩
  ·rename_i e
   rcases v7!.1 h with h | h
   ·exact .inr ⟨by simp[h],h▸e⟩
   ·rcases cS! a y x hn.2 h with h | h
    ·exact .inl h
    ·exact .inr ⟨by simp[h.1],h.2⟩
theorem WhRows.put {w w1 w2 w3:World}{B b3:Nat}{lw:List (ByteArray × WV)}(h:WhRows w B lw) {n:ByteArray}{names:List ByteArray}{v v':Value}(hl:(lookA lw n=some (names,v))\/(lookA lw n=none/\names=[]/\v= .slice none 0 0))
  (h1:Below w.heap.size w w1) (h2:w1.grownBy w2 v.ownBlock) {tn:ByteArray} (ho:Own w2 B 9 1 v' (txs (names++[tn]))) (hw:∀g,v'.ownBlock=some g->v.ownBlock=some g\/w1.heap.size<=g)
  (hm:Mp prog 9 Value.string wvV w b3 lw) (hm2:Mp prog 9 Value.string wvV w2 b3 lw) (ht:ot! w2 w3 b3):WhRows w3 B (putA lw n (names++[tn],v')):=by
 have b:=hm.nodup
 have c:∀x∈lw,x.1≠n->∀g,x.2.2.ownBlock=some g->v.ownBlock≠some g:=fun x hx hne g d e=>by
  rcases hl with hl | ⟨_,_,rfl⟩
  ·exact h.apart x hx _ (aB! hl) hne (d.trans e.symm)
  ·cases e
 have lt:∀x∈lw,∀g,x.2.2.ownBlock=some g->g<w.heap.size:=fun x hx g d=>((h.rows x hx).2.block g d).2;refine⟨fun x hx=>?_,fun x hx y hy hne=>?_⟩
 ·rcases cS! _ _ _ b hx with rfl | ⟨hx,hxn⟩
  ·exact⟨by simp,ho.keepB fun g d=>ht.kept.block g (ho.notMap hm2.notCells g d)⟩
  ·have hr:=(h.rows x hx).2;have a0:=hr.below h1;refine⟨(h.rows x hx).1,a0.keepB fun g d=>?_⟩;have a2:=lt x hx g d;have a1:=h1.size;refine(ht.kept.block g ?_).trans (h2.block g (by omega) fun e=>c x hx hxn g d e.symm);intro e;subst e;exact hr.notMap hm.notCells g d rfl
 ·rcases cS! _ _ _ b hx with rfl | ⟨hx,hxn⟩ <;> rcases cS! _ _ _ b hy with rfl | ⟨hy,hyn⟩
  ·exact absurd rfl hne
  ·intro e;obtain⟨g,d⟩:=ig! ho (by simp);have a:y.2.2.ownBlock=some g:=e.symm.trans d;rcases hw g d with h3 | h3
   ·exact c y hy hyn g a h3
   ·have:=lt y hy g a;have:=h1.size;omega
  ·intro e;obtain⟨g,d⟩:=ig! ho (by simp);have a:x.2.2.ownBlock=some g:=e.trans d;rcases hw g d with h3 | h3
   ·exact c x hx hxn g a h3
   ·have:=lt x hx g a;have:=h1.size;omega
  ·exact h.apart x hx y hy hne
section
variable {S : Nat -> Prop} {w w' : World} {B b1 b3 : Nat} {P : List (R2 × RT)}
theorem BkR.lt (h:BkR S w b1 P):b1<w.heap.size:=by
 obtain⟨lr,h1,_⟩:=h;exact h1.lt
theorem BkR.notCells (h:BkR S w b1 P):∀cs t fr,w.heap[b1]?≠some (.cells cs t fr):=by
 obtain⟨lr,h1,_⟩:=h;exact h1.notCells
theorem BkR.same (h:BkR S w b1 P)(hb:w'.heap[b1]?=w.heap[b1]?)(hs:Same S w w'):BkR S w' b1 P:=by
 obtain⟨lr,h1,h2,h3⟩:=h;exact⟨lr,h1.same hb,h2,fun x hx=>(h3 x hx).same hs⟩
theorem BkR.up (h:BkR (· < w.heap.size) w b1 P)(hb:Below w.heap.size w w'):BkR (· < w'.heap.size) w' b1 P:=by
 obtain⟨lr,h1,h2,h3⟩:=h;exact⟨lr,h1.below hb,h2,fun x hx=>(h3 x hx).up hb⟩
theorem BkW.lt (h:BkW w B b3 P):b3<w.heap.size:=by
 obtain⟨lw,h1,_⟩:=h;exact h1.lt
theorem BkW.keep (h:BkW w B b3 P)(hb:w'.heap[b3]?=w.heap[b3]?)(hs:∀x,B<=x->x<w.heap.size->(∃cs,w.heap[x]?=some (.cells cs 9 (0,0)))->w'.heap[x]?=w.heap[x]?):BkW w' B b3 P:=by
 obtain⟨lw,h1,h2,h3⟩:=h;exact⟨lw,h1.same hb,h2.keep hs,h3⟩
theorem BkW.up (h:BkW w B b3 P)(hb:Below w.heap.size w w'):BkW w' B b3 P:=h.keep (hb.block _ h.lt) fun x _ hx _=>hb.block x hx
theorem BkW.turned (h:BkW w B b3 P) {b:Nat}(ht:ot! w w' b)(hb:b3≠b)(hc:∀cs t fr,w.heap[b]?≠some (.cells cs t fr)):BkW w' B b3 P :=
 h.keep (ht.kept.block _ hb) fun x _ _ hx=>ht.kept.block x fun e=>by
  obtain⟨cs,hx⟩:=hx;exact hc _ _ _ (e▸hx)
theorem cY! {α β:Type}{f:α->β}{k:R2}:∀ {l:List (R2 × α)}{P:List (R2 × β)},l.map (fun x=>(x.1,f x.2))=P->(lookA l k).map f=lookA P k
 | [],P,h=>by subst h;rfl
 | x::l,P,h=>by
  subst h;simp only[v8!,lookA];split
  ·rfl
  ·exact cY! rfl
theorem BkR.look (h:BkR S w b1 P)(k:R2)(hk:k.Ok):∃z:RV,(Instr.lookup 225 (.map (some b1)) (r2V k) true).run prog w= .ok (.tuple #[rvV z,.bool (lookA P k).isSome]) w/\RTAt S w z.1 z.2/\(∀r,lookA P k=some r->z.1=r)/\(lookA P k=none->z=(.mk 0 ByteArray.empty ByteArray.empty [],.slice none 0 0)):=by
 obtain⟨lr,h1,h2,h3⟩:=h;have b:=cY! (f:=fun x:RV=>x.1) (k:=k) h2;have a:=h1.look refK bB! Tryz.underlying225 (Tryz.zeroValue106 w) true (bA! k hk);cases hlk:lookA lr k with
 | none =>
  rw[hlk]at b a;refine⟨(.mk 0 ByteArray.empty ByteArray.empty [],.slice none 0 0),?_,?_,?_,fun _=>rfl⟩
  ·rw[a,<-b];rfl
  ·exact(RTAt.iff _ _).2 ⟨[],rfl,by simp,Sl.nil _ _ _⟩
  ·intro r hr;rw[<-b]at hr;cases hr
 | some x =>
  rw[hlk]at b a;refine⟨x,?_,h3 _ (aB! hlk),?_,?_⟩
  ·rw[a,<-b];rfl
  ·intro r hr;rw[<-b]at hr;injection hr
  ·intro hr;rw[<-b]at hr;cases hr
theorem BkR.store (h:BkR S w b1 P) {k:R2}(hk:k.Ok) {r:RT}{pv:Value}(hr:RTAt S w r pv)(hS:∀x,S x->x≠b1)(hn:lookA P k=none) :
  ∃w',(Instr.mapUpdate 225 (.map (some b1)) (r2V k) (rV r pv)).run prog w= .ok () w'/\BkR S w' b1 (P++[(k,r)])/\ot! w w' b1:=by
 obtain⟨lr,h1,h2,h3⟩:=h;obtain⟨w',a,hM,hT⟩:=h1.store refK bB! Tryz.underlying225 (bA! k hk) ((r,pv):RV);have hl:=cY! (f:=fun x:RV=>x.1) (k:=k) h2;rw[hn]at hl;have a0:lookA lr k=none:=by cases hlk:lookA lr k with | none=>rfl | some x=>rw[hlk]at hl;cases hl
 rw[bb! (aq!.1 a0)]at hM;refine⟨w',a,⟨_,hM,by rw[v9!,h2];rfl,fun x hx=>?_⟩,hT⟩;have hs:Same S w w':=fun x hx=>hT.kept.block x (hS x hx);rcases u3!.1 hx with hx | hx
 ·exact(h3 x hx).same hs
 ·obtain rfl:=n9!.1 hx;exact hr.same hs
theorem BkW.look (h:BkW w B b3 P)(n:ByteArray)(hn:n.size<=maxLen):∃v,(Instr.lookup 227 (.map (some b3)) (.string n) false).run prog w= .ok v w/\Own w B 9 1 v (txs (aG! P n))/\∃lw,Mp prog 9 Value.string wvV w b3 lw/\WhRows w B lw/\(∀n,(lookA lw n).map (·.1)=optL (aG! P n))/\(lookA lw n=some (aG! P n,v)\/(lookA lw n=none/\aG! P n=[]/\v= .slice none 0 0)):=by
 obtain⟨lw,h1,h2,h3⟩:=h;have c:=h3 n;have a:=h1.look strK by! Tryz.underlying227 (Tryz.zeroValue169 w) false (cx! n hn);cases hlk:lookA lw n with
 | none =>
  rw[hlk]at c a
  have b:aG! P n=[]:=by
   unfold optL at c;split at c
   ·assumption
   ·cases c
  exact⟨.slice none 0 0,a,by rw[b];exact Own.nil _ _ _ _,lw,h1,h2,h3,.inr ⟨hlk,b,rfl⟩⟩
 | some x =>
  rw[hlk]at c a
  have b:x.1=aG! P n:=by
   unfold optL at c;split at c
   ·cases c
   ·injection c
  have hm:=h2.rows _ (aB! hlk);refine⟨x.2,a,by rw[<-b];exact hm.2,lw,h1,h2,h3,.inl ?_⟩;rw[hlk,<-b]
theorem BkW.put {w1 w2:World}{lw:List (ByteArray × WV)}{k:R2}{r:RT}{v v':Value}(hM:Mp prog 9 Value.string wvV w b3 lw)(hR:WhRows w B lw)(hL:∀n,(lookA lw n).map (·.1)=optL (aG! P n))
  (hl:lookA lw k.r=some (aG! P k.r,v)\/(lookA lw k.r=none/\aG! P k.r=[]/\v= .slice none 0 0)) (h1:Below w.heap.size w w1) (h2:w1.grownBy w2 v.ownBlock) (ho0:Own w B 9 1 v (txs (aG! P k.r))) (ho:Own w2 B 9 1 v' (txs (aG! P k.r++[k.t])))
  (hw:∀g,v'.ownBlock=some g->v.ownBlock=some g\/w1.heap.size<=g) (hk:k.r.size<=maxLen) :
  ∃w',(Instr.mapUpdate 227 (.map (some b3)) (.string k.r) v').run prog w2= .ok () w'/\BkW w' B b3 (P++[(k,r)])/\ot! w2 w' b3:=by
 have b:=hM.below h1;have c:Mp prog 9 Value.string wvV w2 b3 lw:=b.same (h2.block b3 b.lt (fun e=>((ho0.below h1).notMap b.notCells) b3 e.symm rfl));obtain⟨w',a,a0,hT⟩:=c.store strK by! Tryz.underlying227 (cx! k.r hk) ((aG! P k.r++[k.t],v'):WV);refine⟨w',a,⟨_,a0,hR.put (names:=aG! P k.r) (v:=v) ?_ h1 h2 ho hw hM c hT,fun n=>?_⟩,hT⟩
 ·rcases hl with hl | ⟨h3,h4,h5⟩
  ·exact .inl hl
  ·exact .inr ⟨h3,h4,h5⟩
 ·rw[cu!,gF!];by_cases e:k.r=n
  ·rw[if_pos e,if_pos e];subst e;unfold optL;rw[if_neg (by simp)];rfl
  ·rw[if_neg e,if_neg e];exact hL n
end
def ahead (ops:Array Oper):Nat->Nat->Nat->Bool
 | 0,_,_=>false
 | f+1,i,j=>match ops[j]? with
  | some o=>o.after.any fun e=>Region.binds .any e&&(e.on == i||ahead ops f i e.on)
  | none=>false
def oh! (ops:Array Oper)(l:Array Bool):Prop :=
 ∀j o,ops[j]?=some o->l.getD j false=true->∀e∈o.after,Region.binds .any e=true->l.getD e.on false=true
theorem bR! {ops:Array Oper}{l:Array Bool}(hc:oh! ops l):∀(f i j:Nat),ahead ops f i j=true ->
  (∀o,ops[j]?=some o->∀e∈o.after,Region.binds .any e=true->l.getD e.on false=true)->l.getD i false=true
 | 0,_,_,h,_=>by simp[ahead]at h
 | f+1,i,j,h,hl=>by
  unfold ahead at h;cases ho:ops[j]? with
  | none=>rw[ho]at h;simp at h
  | some o =>
   rw[ho]at h;simp only[Array.any_eq_true',v0!,Bool.or_eq_true,beq_iff_eq]at h;obtain⟨e,he,hb,h⟩:=h;have h1:=hl o ho e he hb;rcases h with h | h
   ·exact h▸h1
   ·exact bR! hc f i e.on h fun o' ho' e' he' hb'=>hc _ o' ho' h1 e' he' hb'
theorem oh!.set {ops:Array Oper}{l:Array Bool}(hc:oh! ops l) {j:Nat}(hj:j∈Region.ready .any ops l):oh! ops (l.setIfInBounds j true):=by
 intro k o ho hk e he hb;refine getD_set_true ?_;by_cases hkj:k=j
 ·subst hkj;obtain⟨_,o',b,a⟩:=mem_ready.1 hj;rw[ho]at b;cases b;exact a e he hb
 ·rw[getD_set_ne false (Ne.symm hkj)]at hk;exact hc k o ho hk e he hb
theorem oh!.start (ops:Array Oper)(n:Nat):oh! ops (Array.replicate n false):=by
 intro j o _ hj;simp only[Array.getD_eq_getD_getElem?,Array.getElem?_replicate]at hj;split at hj <;> simp at hj
section
variable {P : Program} {ops : Array Oper} {Q : Exit -> Act -> World -> Prop} {S : World -> Prop} {L : Nat}
def gE! (P:Program)(ops:Array Oper)(Q:Exit->Act->World->Prop)(S:World->Prop)(L:Nat):Nat->Array Bool->Act->World->Prop
 | 0,l,a,w=>Region.ready .any ops l=[]/\Q .normal a w
 | f+1,l,a,w=>(Region.ready .any ops l=[]->Q .normal a w) /\
   ∀i∈Region.ready .any ops l,wpOp P ops Q i (fun a' w'=>(i≠L->S w')/\gE! P ops Q S L f (l.setIfInBounds i true) a' w') a w
theorem ew!:∀(f:Nat)(l:Array Bool)(a:Act)(w:World),gE! P ops Q S L f l a w->wpAny P .any ops Q f l a w
 | 0,_,_,_,h=>h
 | f+1,_,_,_,h=>⟨h.1,fun i hi=>wpOp_mono (fun a' w' k=>ew! f _ a' w' k.2) (h.2 i hi)⟩
theorem dp! {l:Array Bool}{a:Act}{w:World}(hr:Region.ready .any ops l=[])(h:Q .normal a w):∀f,gE! P ops Q S L f l a w
 | 0=>⟨hr,h⟩
 | _+1=>⟨fun _=>h,by rw[hr];simp⟩
theorem cQ! {l:Array Bool}{i:Nat}(h:l.getD i true=false)(k:l.getD i false=true):False:=by
 rcases Nat.lt_or_ge i l.size with h' | h'
 ·simp[h']at h k;rw[h]at k;cases k
 ·simp[Array.getElem?_eq_none h']at k
theorem gD! {i:Nat}{oi:Oper}{v:Value}(hi:ops[i]?=some oi)(hsel:Region.noSelect ops=true)
  (hQ:∀c a w,Q (.panic c) (Act.put a oi.dst v) w->Q (.panic c) a w) {n:Nat} (hL:ahead ops n i L=true) :
  ∀(f:Nat) (l:Array Bool) (a:Act) (w:World),oh! ops l ->
   (∀j oj,ops[j]?=some oj->j≠i->l.getD j true=false->(∀e∈oj.after,Region.binds .any e=true->e.on≠i)->oi.apart ops oj=true) ->
   i∈Region.ready .any ops l->YieldsIf P ops S oi v a->S w->gE! P ops Q S L f (l.setIfInBounds i true) (a.put oi.dst v) w->gE! P ops Q S L (f+1) l a w:=by
 intro f;induction f with
 | zero =>
  intro l a w _ _ hr hy hS H;refine⟨fun h=>(by rw[h]at hr;cases hr),fun j hj=>?_⟩;by_cases hji:j=i
  ·subst hji;exact hy.wpOp hi hS ⟨fun _=>hS,H⟩
  ·have:=ready_mono hj hji;rw[H.1]at this;cases this
 | succ f ih =>
  intro l a w hc hfree hr hy hS H;refine⟨fun h=>(by rw[h]at hr;cases hr),fun j hj=>?_⟩;by_cases hji:j=i
  ·subst hji;exact hy.wpOp hi hS ⟨fun _=>hS,H⟩
  ·obtain⟨p,oj,q,g⟩:=mem_ready.1 hj;have d:=(mem_ready.1 hr).1
   have a0:j≠L:=by
    intro e;subst e;exact cQ! d (bR! hc n i j hL fun o ho e he hb=>by rw[q]at ho;cases ho;exact g e he hb)
   have r:∀e∈oj.after,Region.binds .any e=true->e.on≠i:=fun e he hb heq=>cQ! d (heq▸g e he hb);have h2:=wpOp_putIf q (hfree j oj q hji p r) (fun cs b=>Region.noSelect_spec hsel i oi cs b hi) (fun cs b=>Region.noSelect_spec hsel j oj cs b q) hQ hy (H.2 j (ready_mono hj hji));refine wpOp_mono (fun a' w' k=>⟨k.2.1,ih (l.setIfInBounds j true) a' w' (hc.set hj) (fun m om hom hmi hun hno=>?_) (ready_mono hr (Ne.symm hji)) k.1 (k.2.1 a0) ?_⟩) h2
   ·refine hfree m om hom hmi ?_ hno;by_cases hjm:j=m
    ·exact hjm▸p
    ·rwa[getD_set_ne true hjm]at hun
   ·rw[Array.setIfInBounds_comm _ _ hji];exact k.2.2
def WalkL (P:Program)(ops:Array Oper)(Q:Exit->Act->World->Prop)(S:World->Prop)(L:Nat):Nat->Array Bool->Act->World->Prop
 | 0,l,a,w=>Region.ready .any ops l=[]/\Q .normal a w
 | f+1,l,a,w=>(Region.ready .any ops l=[]/\Q .normal a w) \/
   (∃i o v,ops[i]?=some o/\Region.free .any ops l i=true/\(Region.ready .any ops l).contains i=true/\ahead ops ops.size i L=true/\YieldsIf P ops S o v a/\WalkL P ops Q S L f (l.setIfInBounds i true) (a.put o.dst v) w) \/
   (Region.ready .any ops l≠[]/\∀i∈Region.ready .any ops l,∃o,ops[i]?=some o/\∀K':Act->World->Prop,Shut (∀a' w',S w'->WalkL P ops Q S L f (l.setIfInBounds i true) a' w'->K' a' w') ->
    if Region.wanted o (yielded ops a.tmps)=true then Oper.wp P o a w K' Q else K' (a.put o.dst undef) w) \/
   (Region.ready .any ops l=[L]/\Region.ready .any ops (l.setIfInBounds L true)=[]/\∃o,ops[L]?=some o/\Region.wanted o (yielded ops a.tmps)=true/\∀K':Act->World->Prop,Shut (∀a' w',Q .normal a' w'->K' a' w')->Oper.wp P o a w K' Q)
theorem cm! (hns:Region.noSelect ops=true)(hQ:∀c a d v w,Q (.panic c) (Act.put a d v) w->Q (.panic c) a w) :
  ∀(f:Nat) (l:Array Bool) (a:Act) (w:World),oh! ops l->S w->WalkL P ops Q S L f l a w->gE! P ops Q S L f l a w
 | 0,_,_,_,_,_,h=>h
 | f+1,l,a,w,hc,hs,h=>by
  rcases h with⟨h1,h2⟩|⟨i,o,v,ho,hf,hr,hL,hy,h⟩|⟨hne,h⟩|⟨h1,h2,o,ho,hw,h⟩
  ·exact dp! h1 h2 _
  ·exact gD! ho hns (fun c a w=>hQ c a _ _ w) hL f l a w hc (Region.free_spec ho hf) (by simpa using hr) hy hs (cm! hns hQ f _ _ w (hc.set (by simpa using hr)) hs h)
  ·refine⟨fun e=>absurd e hne,fun i hi=>?_⟩;obtain⟨o,ho,hst⟩:=h i hi;exact wpOp_step ho (fun K' hK=>hst K' (fun a' w' he hw=>hK a' w' ⟨fun _=>he,cm! hns hQ f _ a' w' (hc.set hi) he hw⟩))
  ·refine⟨fun e=>(by rw[e]at h1;exact absurd h1.symm (List.cons_ne_nil _ _)),fun i hi=>?_⟩;rw[h1]at hi;obtain rfl:i=L:=by simpa using hi
   exact wpOp_step ho (fun K' hK=>by rw[if_pos hw];exact h K' (fun a' w' hq=>hK a' w' ⟨fun e=>absurd rfl e,dp! h2 hq _⟩))
theorem ah! {id:Nat}{a:Act}{w:World}(L:Nat)(S:World->Prop)(hS:S w.drew)(hm:P.follows .mixedOrders=true)(hns:Region.noSelect ops=true)(hQ:∀c a d v w,Q (.panic c) (Act.put a d v) w->Q (.panic c) a w)
  (h:WalkL P ops Q S L ops.size (Array.replicate ops.size false) a w.drew):(Code.region id ops true).wp P Q a w :=
 wp_region_any hm (ew! _ _ _ _ (cm! hns hQ _ _ a w.drew (oh!.start _ _) hS h))
theorem WalkL.take {f:Nat}{l:Array Bool}{a:Act}{w:World}(i:Nat)(o:Oper)(v:Value)(ho:ops[i]?=some o)(hf:Region.free .any ops l i=true)(hr:(Region.ready .any ops l).contains i=true)(hL:ahead ops ops.size i L=true)
  (hw:Region.wanted o (yielded ops a.tmps)=true) (hy:∀W,S W->(execOp a.eval o).run P W= .ok (.value v) W) (h:WalkL P ops Q S L f (l.setIfInBounds i true) (a.put o.dst v) w):WalkL P ops Q S L (f+1) l a w :=
 .inr (.inl ⟨i,o,v,ho,hf,hr,hL,.inl ⟨hw,hy⟩,h⟩)
def TkL (P:Program)(ops:Array Oper)(Q:Exit->Act->World->Prop)(S:World->Prop)(L:Nat):List Nat->Nat->Array Bool->Act->World->Prop
 | [],f,l,a,w=>WalkL P ops Q S L f l a w
 | i::is,f,l,a,w=>∃g,f=g+1/\∃o v,ops[i]?=some o/\Region.free .any ops l i=true/\(Region.ready .any ops l).contains i=true/\ahead ops ops.size i L=true/\Region.wanted o (yielded ops a.tmps)=true/\(∀W,S W->(execOp a.eval o).run P W= .ok (.value v) W)/\TkL P ops Q S L is g (l.setIfInBounds i true) (a.put o.dst v) w
theorem WalkL.tk (is:List Nat):∀ {f:Nat}{l:Array Bool}{a:Act}{w:World},TkL P ops Q S L is f l a w->WalkL P ops Q S L f l a w:=by
 induction is with
 | nil=>exact fun h=>h
 | cons i is ih =>
  rintro f l a w ⟨g,rfl,o,v,ho,hf,hr,hL,hw,hy,h⟩;exact WalkL.take i o v ho hf hr hL hw hy (ih h)
theorem TkL.c {f:Nat}{l:Array Bool}{a:Act}{w:World}{i:Nat}{is:List Nat}(o:Oper)(v:Value)(ho:ops[i]?=some o)(hf:Region.free .any ops l i=true)(hr:(Region.ready .any ops l).contains i=true)(hL:ahead ops ops.size i L=true)
  (hw:Region.wanted o (yielded ops a.tmps)=true) (hy:∀W,S W->(execOp a.eval o).run P W= .ok (.value v) W) (h:TkL P ops Q S L is f (l.setIfInBounds i true) (a.put o.dst v) w):TkL P ops Q S L (i::is) (f+1) l a w :=
 ⟨f,rfl,o,v,ho,hf,hr,hL,hw,hy,h⟩
theorem TkL.n {f:Nat}{l:Array Bool}{a:Act}{w:World}(h:WalkL P ops Q S L f l a w):TkL P ops Q S L [] f l a w:=h
def MadeL (P:Program)(ops:Array Oper)(Q:Exit->Act->World->Prop)(S:World->Prop)(L f:Nat)(l:Array Bool)(a:Act)(w:World)(i:Nat):Prop :=
 ∃o,ops[i]?=some o/\Region.wanted o (yielded ops a.tmps)=true/\∀K':Act->World->Prop,Shut (∀a' w',S w'->WalkL P ops Q S L f (l.setIfInBounds i true) a' w'->K' a' w')->Oper.wp P o a w K' Q
theorem WalkL.one {f:Nat}{l:Array Bool}{a:Act}{w:World}(i:Nat)(hr:Region.ready .any ops l=[i])(h:MadeL P ops Q S L f l a w i):WalkL P ops Q S L (f+1) l a w:=by
 refine .inr (.inr (.inl ⟨by rw[hr];simp,fun j hj=>?_⟩));rw[hr]at hj;obtain rfl:j=i:=by simpa using hj
 obtain⟨o,ho,hw,h⟩:=h;exact⟨o,ho,fun K hK=>by rw[if_pos hw];exact h K hK⟩
theorem WalkL.last {f:Nat}{l:Array Bool}{a:Act}{w:World}(hr:Region.ready .any ops l=[L])(hr':Region.ready .any ops (l.setIfInBounds L true)=[])
  (h:∃o,ops[L]?=some o/\Region.wanted o (yielded ops a.tmps)=true/\∀K':Act->World->Prop,Shut (∀a' w',Q .normal a' w'->K' a' w')->Oper.wp P o a w K' Q):WalkL P ops Q S L (f+1) l a w :=
 .inr (.inr (.inr ⟨hr,hr',h⟩))
end
theorem l! {P : Program}{ops : Array Oper}{Q : Exit -> Act -> World -> Prop}{S : World -> Prop}{L : Nat}{f : Nat}{l : Array Bool}{a : Act}{w : World}{i : Nat}{is : List Nat}{o : Oper}{v : Value}{G : Prop}(h : G) (ho : ops[i]? = some o := by simp only[gA,gS,gZ];rfl) (hf : Region.free .any ops l i = true := by kernel_rfl) (hr : (Region.ready .any ops l).contains i = true := by kernel_rfl) (hL : ahead ops ops.size i L = true := by kernel_rfl) (hw : Region.wanted o (yielded ops a.tmps) = true := by rfl) (hy : ∀W,S W->(execOp a.eval o).run P W=.ok (.value v) W := by intro W hW;go_simp;try with_reducible rfl) (hG : TkL P ops Q S L is f (l.setIfInBounds i true) (a.put o.dst v) w = G := by simp only[Act.put,pA,pZ,pS];rfl) : TkL P ops Q S L (i :: is) (f + 1) l a w := ⟨f, rfl, o, v, ho, hf, hr, hL, hw, hy, Eq.mpr hG h⟩
theorem oL! {P : Program}{ops : Array Oper}{Q : Exit -> Act -> World -> Prop}{S : World -> Prop}{L : Nat}{f : Nat}{l : Array Bool}{a : Act}{w : World}(i : Nat) (h : MadeL P ops Q S L f l a w i) (hr : Region.ready .any ops l = [i] := by kernel_rfl) : WalkL P ops Q S L (f + 1) l a w := WalkL.one i hr h
def M3 (b1 b2 b3 x:Nat):Prop:=x=b1\/x=b2\/x=b3
def tyL (ts:List TyS):List (ByteArray × Bool):=ts.map fun t=>(t.name,true)
theorem lh! {l:List TyS}{i:Nat}(hi:i<l.length):tyL (l.take (i+1))=tyL (l.take i)++[(l[i].name,true)]:=by
 rw[n2! hi];simp only[tyL,v9!,v8!,List.map_nil]
theorem jJ! (ts:List TyS)(i:Nat):(ab! (ts.take i)).length<=(ab! ts).length:=by
 conv=>rhs;rw[<-x6! i ts,bz!,u4!]
 omega
theorem js! {ts:List TyS}(h:aK! ts=true) {i:Nat}(hi:i<ts.length):∀p∈tyL (ts.take i),p.1≠ts[i].name:=by
 intro p hp e;obtain⟨t,ht,rfl⟩:=u6!.1 hp;obtain⟨m,hm,rfl⟩:=u0! ht;rw[x4!]at hm;rw[List.getElem_take]at e;exact(cw! h hi).1 m (by omega) hi (by omega) e
theorem jK! {ts:List TyS}(h:aK! ts=true) {i:Nat}(hi:i<ts.length):∀j (hj:j<ts[i].rels.length),lookA (ab! (ts.take i)++aR! ts[i].name (ts[i].rels.take j)) ⟨ts[i].name,ts[i].rels[j].1⟩=none:=by
 intro j hj;refine aq!.2 fun p a e=>?_;rcases u3!.1 a with a | a
 ·obtain⟨t,ht,a⟩:=List.mem_flatMap.1 a;obtain⟨r,hr,rfl⟩:=u6!.1 a;obtain⟨m,hm,rfl⟩:=u0! ht;rw[x4!]at hm;injection e with e1 e2
  rw[List.getElem_take]at e1;exact(cw! h hi).1 m (by omega) hi (by omega) e1
 ·obtain⟨r,hr,rfl⟩:=u6!.1 a;injection e with e1 e2
  obtain⟨m,hm,rfl⟩:=u0! hr;rw[x4!]at hm;rw[List.getElem_take]at e2;exact mc! (cw! h hi).2 j m (by omega) hj (by omega) e2
theorem Same.sub {S:Nat->Prop}{B:Nat}(hS:∀x,S x->x<B) {a b:World}(h:Below B a b):Same S a b:=fun x hx=>h.block x (hS x hx)
structure BkO (S:Nat->Prop)(B:Nat)(w:World)(b1 b2 b3:Nat)(ts:List TyS):Prop where
 R:BkR S w b1 (ab! ts)
 T:Mp prog 9 Value.string bV w b2 (tyL ts)
 W:BkW w B b3 (ab! ts)
 lo:B<=b1/\B<=b2/\B<=b3/\b1≠b2/\b1≠b3/\b2≠b3
theorem ii! {S:Nat->Prop}(ts:List TyS)(tv:Value)(w:World)(hS:∀x,S x->x<w.heap.size)(h:ou! S w ts tv)(hok:∀t∈ts,t.Ok)(hu:aK! ts=true)(hsz:(ab! ts).length<=1099511627776) :
  Calls prog 131 #[.agg #[tv]] w fun e w'=>∃b1 b2 b3,e= .returned (.agg #[.map (some b1),.map (some b2),.map (some b3)])/\BkO S w.heap.size w' b1 b2 b3 ts/\Below w.heap.size w w':=by
 obtain⟨ao,c,rfl,ci,cl,L⟩:=h.rows;have HC:=h! L;have bP:=h! hok;have HU:=h! hu;have c5:=h! hsz;have bZ:=(Blk.made w #[.slice ao ts.length c] 26).cells;have ck:=@run_makeMap prog;clear h L hok hu hsz;go_enter func131,ntmps131
 go_wp2_with fail
 obtain⟨w1,aE⟩:=e! (w.alloc (.cells #[.slice ao ts.length c] 26));rw[<-aE];obtain⟨w2,O⟩:=e! (w1.alloc (.cells #[.map none,.map none,.map none] 229));rw[<-O];obtain⟨w3,ab⟩:=e! (w2.alloc (.map #[] 0));rw[<-ab];obtain⟨w4,a2⟩:=e! (w3.alloc (.map #[] 0));rw[<-a2];obtain⟨w5,ae⟩:=e! (w4.alloc (.map #[] 0));rw[<-ae];obtain⟨bc,b6⟩:=e! (w.heap.size+1+1+1+1+1);obtain⟨b3,aJ⟩:=e! (w.heap.size+1+1+1+1);obtain⟨b2,b8⟩:=e! (w.heap.size+1+1+1);obtain⟨b1,aN⟩:=e! (w.heap.size+1+1);obtain⟨rc,aW⟩:=e! (w.heap.size+1);rw[<-b6,<-aJ,<-b8,<-aN,<-aW];obtain⟨w6,aC⟩:=e! (w5.alloc (.cells #[.map (some b1),.map (some b2),.map (some b3)] 229));rw[<-aC];have e1:w1.heap.size=w.heap.size+1:=by rw[aE];simp
 have e2:w2.heap.size=w.heap.size+1+1:=by rw[O];simp[e1]
 have e3:w3.heap.size=w.heap.size+1+1+1:=by rw[ab];simp[e2]
 have e4:w4.heap.size=w.heap.size+1+1+1+1:=by rw[a2];simp[e3]
 have e5:w5.heap.size=w.heap.size+1+1+1+1+1:=by rw[ae];simp[e4]
 have bq:Ext w w1:=xa! aE
 have bG:Ext w1 w2:=xa! O
 have aO:Ext w2 w3:=xa! ab
 have aF:Ext w3 w4:=xa! a2
 have al:Ext w4 w5:=xa! ae
 have Z:Ext w5 w6:=xa! aC
 have bh:Blk w2 rc #[.map none,.map none,.map none] 229:=by rw[aW,O,<-e1];exact Blk.made _ _ _
 have bJ:Mp prog 121 r2V rvV w3 b1 []:=by rw[aN,ab,<-e2];exact Mp.made _
 have bB:Mp prog 9 Value.string bV w4 b2 []:=by rw[b8,a2,<-e3];exact Mp.made _
 have bC:Mp prog 9 Value.string wvV w5 b3 []:=by rw[aJ,ae,<-e4];exact Mp.made _
 have bl:Blk w6 bc #[.map (some b1),.map (some b2),.map (some b3)] 229:=by rw[b6,aC,<-e5];exact Blk.made _ _ _
 have cf:Hid (w.heap.size<=rc):=h! (by omega);have HD:=h! (show w.heap.size<=b1/\w.heap.size<=b2/\w.heap.size<=b3/\b1≠b2/\b1≠b3/\b2≠b3/\¬ M3 b1 b2 b3 rc/\¬ M3 b1 b2 b3 bc/\rc≠bc from by unfold M3;omega);have ca:=h! (bh.below (aO.trans (aF.trans (al.trans Z))));have bH:=h! bl;have HR:Hid (BkR S w6 b1 []):=h! ⟨[],bJ.below (aF.trans (al.trans Z)),rfl,by simp⟩;have HM:=h! (bB.below (al.trans Z));have HW:Hid (BkW w6 w.heap.size b3 []):=h! ⟨[],bC.below Z,⟨by simp,by simp⟩,fun n=>rfl⟩;have HX:Hid (Below w.heap.size w w6):=h! (bq.trans (bG.trans (aO.trans (aF.trans (al.trans Z)))));clear bh bJ bB bC bl bq bG aO aF al Z e1 e2 e3 e4 e5 aE O ab a2 ae aC b6 aN b8 aJ aW bZ;go_loopw [18] (fun ii wr=>∃i:Nat,i<=ts.length/\ii= .int .i64 i/\BkR S wr b1 (ab! (ts.take i))/\Mp prog 9 Value.string bV wr b2 (tyL (ts.take i))/\BkW wr w.heap.size b3 (ab! (ts.take i))/\oo! 9 (M3 b1 b2 b3) w.heap.size w6 wr) (fun ii _=>ts.length-(intOf ii).toNat)
 case atStart=>exact⟨0,by omega,rfl,HR.out,HM.out,HW.out,Kept.refl _ _⟩
 case round =>
  obtain⟨i,hi,rfl,hr,hm,hw,hq⟩:=hrel;have a0:=h! hr;have aq:=h! hm;have aB:=h! hw;have av:=h! hq;clear HR HM HW hr hm hw;by_cases hlt:i<ts.length
  ·have f:Below w.heap.size w wr:=HX.out.trans hq.below;obtain⟨bb,Q,bM,aT,hb,c0,c1,y⟩:=HC.out i hlt;cases aT;have d0:=(f.cell (p:=⟨bb,Q+i*2,none⟩) (hS _ hb)).trans c0;have d1:=(f.cell (p:=⟨bb,Q+i*2+1,none⟩) (hS _ hb)).trans c1;have aP:=bP.out _ (n5! hlt);have aV:=h! (gR! hlt);have bN:=h! (lh! hlt);have c6:=h! (jK! HU.out hlt);have c8:=h! (jJ! ts (i+1));have bS:=h! hlt;have bm:=h! (js! HU.out hlt);generalize ts[i]=t at *;obtain⟨tn,o⟩:=t;dsimp only at *;obtain⟨bs,aZ⟩:=aP;dsimp only at bs aZ;have aw:=h! (show tn.size<=maxLen from by unfold maxLen;omega);have bX:=h! aZ;obtain⟨aG,ay,rfl,ce,bQ,B⟩:=y.rows;have bU:=h! B;obtain⟨bM,cd⟩:=e! (Value.slice aG o.length ay);have hea:Ext wr (wr.alloc (.cells #[.string tn,.slice aG o.length ay] 176)):=Ext.alloc _ _;have bK:=h! (Blk.made wr #[.string tn,.slice aG o.length ay] 176);have ch:=bK.out.cells;have aa:=h! ((av.out.box bH.out (by decide) HD.out.2.2.2.2.2.2.2.1).below hea);have b7:=aa.out.cells;have cj:Hid (w.heap.size<=(wr.alloc (.cells #[.string tn,.slice aG o.length ay] 176)).heap.size):=h! (n6! f.size hea.size);have cg:=h! (oo!.next hq (oo!.of (e:=9) (M:=M3 b1 b2 b3) hea f.size))
   have bf:=h! (show ¬ M3 b1 b2 b3 wr.heap.size from fun h=>by
    have h1:=a0.out.lt;have h2:=aq.out.lt;have h3:=aB.out.lt;rcases h with h | h | h <;> omega)
   have bR:=h! (a0.out.same (hea.block _ a0.out.lt) (Same.sub hS (hea.mono f.size)));have bT:=h! (aB.out.up hea);have aA:=aq.out.below hea;have E:=aA.look strK by! Tryz.underlying226 (Tryz.zeroValue4 _) false (cx! tn aw.out);rw[aq!.2 bm.out]at E;obtain⟨wT,Y,ba,U⟩:=aA.store strK by! Tryz.underlying226 (cx! tn aw.out) true;rw[bb! bm.out]at ba;unfold lookV at E;unfold bV at E Y;have bu:=h! (oo!.next cg.out (oo!.turned U (.inr (.inl rfl)) HD.out.2.1));have T:=h! (U.kept.blk bK.out (fun e=>bf.out (.inr (.inl e))));have c7:=T.out.cells;have a3:=h! (U.kept.blk aa.out (fun e=>HD.out.2.2.2.2.2.2.2.1 (.inr (.inl e))));have bF:=h! (bR.out.same (U.kept.block _ HD.out.2.2.2.1) (Same.sub hS (U.below HD.out.2.1)));have bj:=h! (bT.out.turned U (fun e=>HD.out.2.2.2.2.2.1 e.symm) aA.notCells);have bw:=h! ba;clear ba U aA c0 c1 y B f hq aZ bs;go_wp2_with fail
   clear E Y ch b7 d0 d1 c7 hlt hea;generalize wr.heap.size=tb at *;go_loopw [34] (fun jj wr=>∃j:Nat,j<=o.length/\jj= .int .i64 j/\BkR S wr b1 (ab! (ts.take i)++aR! tn (o.take j))/\Mp prog 9 Value.string bV wr b2 (tyL (ts.take i)++[(tn,true)])/\BkW wr w.heap.size b3 (ab! (ts.take i)++aR! tn (o.take j))/\oo! 9 (M3 b1 b2 b3) w.heap.size wT wr) (fun jj _=>o.length-(intOf jj).toNat)
   case atStart=>exact⟨0,by omega,rfl,by rw[List.take_zero];simpa [aR!] using bF.out,bw.out,by rw[List.take_zero];simpa [aR!] using bj.out,Kept.refl _ _⟩
   case round =>
    obtain⟨j,hj,rfl,hr,hm,hw,aD⟩:=hrel;have X:=h! hr;have aM:=h! hm;have aH:=h! hw;have au:=h! aD;clear bF bw bj hr hm hw;by_cases hlt:j<o.length
    ·have f:Below w.heap.size w wr:=HX.out.trans (bu.out.below.trans aD.below);obtain⟨bb,Q,pv,aT,hb,c0,c1,c2,c3,c4,y⟩:=bU.out j hlt;cases aT;have d0:=(f.cell (p:=⟨bb,Q+j*5,none⟩) (hS _ hb)).trans c0;have d1:=(f.cell (p:=⟨bb,Q+j*5+1,none⟩) (hS _ hb)).trans c1;have d2:=(f.cell (p:=⟨bb,Q+j*5+2,none⟩) (hS _ hb)).trans c2;have d3:=(f.cell (p:=⟨bb,Q+j*5+3,none⟩) (hS _ hb)).trans c3;have d4:=(f.cell (p:=⟨bb,Q+j*5+4,none⟩) (hS _ hb)).trans c4;obtain⟨ar,az,rfl,-⟩:=y.rows;have ag:=bX.out _ (n5! hlt);have bo:=h! (gQ! (n:=tn) hlt);have b0:=h! (c6.out j hlt);have c9:=h! hlt
     have aU:=h! (show(ab! (ts.take i)++aR! tn (o.take j)).length<=1099511627776 from by
      have h1:=c8.out;have h2:=c5.out;rw[aV.out,u4!]at h1;have h3:(aR! tn (o.take j)).length<=(aR! tn o).length:=by simp only[aR!,x1!,x4!];omega
      rw[u4!];omega)
     generalize o[j]=x at *;obtain⟨xn,p⟩:=x;dsimp only at *;have a1:=h! (show xn.size<=maxLen from by have:=ag.1;unfold maxLen;omega)
     have bY:=h! (show(aG! (ab! (ts.take i)++aR! tn (o.take j)) xn).length<=1099511627776 from by
      have:=aU.out;unfold aG!;rw[x1!];exact n6! (x8! _ _) this)
     have br:=h! (y.same (Same.sub hS f));clear c0 c1 c2 c3 c4 y ag hb;obtain⟨wa,ax⟩:=e! (wr.alloc (.cells #[.string xn,.int .i64 p.k,.string p.a,.string p.b,.slice ar p.ps.length az] 181));obtain⟨wb,aX⟩:=e! (wa.alloc (.cells #[.string tn,.string xn] 121));obtain⟨wc,bA⟩:=e! (wb.alloc (.cells #[.int .i64 0,.string ByteArray.empty,.string ByteArray.empty,.slice none 0 0] 106));have s:Ext wr wa:=xa! ax
     have q:Ext wa wb:=xa! aX
     have A:Ext wb wc:=xa! bA
     have ea:wa.heap.size=wr.heap.size+1:=by rw[ax];simp
     have G:=h! (show Blk wa wr.heap.size #[.string xn,.int .i64 p.k,.string p.a,.string p.b,.slice ar p.ps.length az] 181 from bm! ax);have a9:=h! (show Blk wb (wr.heap.size+1) #[.string tn,.string xn] 121 from by rw[aX,<-ea];exact Blk.made _ _ _);have a8:=h! (au.out.box T.out (by decide) bf.out);have af:=h! (au.out.box a3.out (by decide) HD.out.2.2.2.2.2.2.2.1);have t1:=(a8.out.below s).cells;have t2:=(a8.out.below (s.trans q)).cells;have k2:=(af.out.below (s.trans q)).cells;have k3:=(af.out.below (s.trans (q.trans A))).cells;have r1:=G.out.cells;have r2:=(G.out.below q).cells;have r3:=(G.out.below (q.trans A)).cells;have f2:=a9.out.cells;have f3:=(a9.out.below A).cells;have bI:=X.out.same ((s.trans q).block _ X.out.lt) (Same.sub hS ((s.trans q).mono f.size));obtain⟨z,E,-,-,hz⟩:=bI.look ⟨tn,xn⟩ ⟨aw.out,a1.out⟩;rw[b0.out]at E;rw[hz b0.out]at E;unfold rvV rV r2V at E;dsimp only[RT.k,RT.a,RT.b,Option.isSome]at E;have aY:=X.out.same ((s.trans (q.trans A)).block _ X.out.lt) (Same.sub hS ((s.trans (q.trans A)).mono f.size));obtain⟨w4,Y,bp,V⟩:=aY.store (k:=⟨tn,xn⟩) ⟨aw.out,a1.out⟩ (br.out.same (Same.sub hS ((s.trans (q.trans A)).mono f.size))) (fun x hx e=>by have:=HD.out.1;have:=hS x hx;omega) b0.out;unfold rV r2V at Y;dsimp only at Y;have bk:w.heap.size<=wc.heap.size:=n6! f.size (s.trans (q.trans A)).size;have bW:=h! (show w.heap.size<=w4.heap.size from by rw[V.size];exact bk);have bd:=h! (oo!.next au.out (oo!.next (oo!.of (e:=9) (M:=M3 b1 b2 b3) (s.trans (q.trans A)) f.size) (oo!.turned V (.inl rfl) HD.out.1)))
     have bO:=h! (show ¬ M3 b1 b2 b3 wr.heap.size from fun h=>by
      have h1:=X.out.lt;have h2:=aM.out.lt;have h3:=aH.out.lt;rcases h with h | h | h <;> omega)
     have a7:=h! (bd.out.box a3.out (by decide) HD.out.2.2.2.2.2.2.2.1);have ai:=h! (bd.out.box T.out (by decide) bf.out);have ak:=h! (V.kept.blk (G.out.below (q.trans A)) (fun e=>bO.out (.inl e)));have aL:=h! ((aH.out.up (s.trans (q.trans A))).turned V (fun e=>HD.out.2.2.2.2.1 e.symm) aY.notCells);have aI:=h! bp;have bg:=h! ((aM.out.below (s.trans (q.trans A))).kept V.kept (fun e=>HD.out.2.2.2.1 e.symm));have t4:=ai.out.cells;have r4:=ak.out.cells;have k4:=a7.out.cells;clear bI aY bp V bk hz aD br ea s q A;subst bA aX ax;go_wp2_with fail
     clear t1 t2 k2 k3 r1 r2 r3 f2 f3 E Y d0 d1 d2 d3 d4;generalize wr.heap.size=rb at *;obtain⟨wd,J⟩:=e! w4.drew;have I:Blk wd bc #[.map (some b1),.map (some b2),.map (some b3)] 229:=by rw[J];exact a7.out.drew
     have C:=(show Blk w4.drew tb _ _ from ai.out.drew);rw[<-J]at C;have H:Blk wd rb #[.string xn,.int .i64 p.k,.string p.a,.string p.b,.slice ar p.ps.length az] 181:=by rw[J];exact ak.out.drew
     have a5:=aL.out.up (show Below w4.heap.size w4 wd from by rw[J];exact(Below.refl _ _).drew);have aj:oo! 9 (· = b3) w.heap.size w4 wd:=by rw[J];exact(Kept.refl _ _).drew
     have ah:w.heap.size<=wd.heap.size:=by rw[J];exact bW.out
     obtain⟨v,-,N,lw,hM,hR,hL,hl⟩:=a5.look xn a1.out;have an:∀g,v.ownBlock=some g->g≠b3:=N.notMap hM.notCells;have a4:∀g,v.ownBlock=some g->g≠bc:=N.notBlk I (by decide);have ap:∀g,v.ownBlock=some g->g≠tb:=N.notBlk C (by decide);have ad:∀g,v.ownBlock=some g->g≠rb:=N.notBlk H (by decide);refine ah! 13 (Kept (fun x=>x<wd.heap.size/\v.ownBlock≠some x) wd) (by rw[<-J];exact Kept.refl _ _) (by kernel_rfl) (by kernel_rfl) (fun _ _ d _ _ h=>by cases d <;> exact h) ?_;rw[<-J];clear J;have h1:∀W,Kept (fun x=>x<wd.heap.size/\v.ownBlock≠some x) wd W->∀i,W.cell? ⟨bc,i,none⟩=(#[.map (some b1),.map (some b2),.map (some b3)]:Array Value)[i]?:=fun W h=>(h.blk I ⟨I.lt,fun e=>a4 _ e rfl⟩).cells;have h2:∀W,Kept (fun x=>x<wd.heap.size/\v.ownBlock≠some x) wd W->W.cell? ⟨tb,0,none⟩=some (.string tn):=fun W h=>(h.blk C ⟨C.lt,fun e=>ap _ e rfl⟩).cells 0;have h3:∀W,Kept (fun x=>x<wd.heap.size/\v.ownBlock≠some x) wd W->∀i,W.cell? ⟨rb,i,none⟩=(#[.string xn,.int .i64 p.k,.string p.a,.string p.b,.slice ar p.ps.length az]:Array Value)[i]?:=fun W h=>(h.blk H ⟨H.lt,fun e=>ad _ e rfl⟩).cells
     have h4:∀W,Kept (fun x=>x<wd.heap.size/\v.ownBlock≠some x) wd W->(Instr.lookup 227 (.map (some b3)) (.string xn) false).run prog W= .ok v W:=fun W h=>by
      have:=(hM.same (h.block b3 ⟨hM.lt,fun e=>an _ e rfl⟩)).look strK by! Tryz.underlying227 (Tryz.zeroValue169 W) false (cx! xn a1.out);rw[this];rcases hl with hl | ⟨hl,_,rfl⟩ <;> rw[hl] <;> rfl
     (refine WalkL.tk [0,1,2,3,4,5,6,7,8,9,10] ?_;(iterate 11 (refine l! ?_));refine TkL.n ?_)
     clear h1 h2 h3 h4;refine oL! 11 ?_;refine b! ?_;intro K hK;go_simp;have a6:Below wd.heap.size wd (wd.alloc (.cells #[.string tn] 9)):=(Below.refl _ _).alloc (n0! _) _;refine hK.out _ _ ((Kept.refl _ _).alloc (fun x hx=>hx.1) _) ?_;clear hK;refine oL! 12 ?_;refine b! ?_;intro K hK;have aR:(aG! (ab! (ts.take i)++aR! tn (o.take j)) xn).length<=1099511627776:=by have:=bY.out;exact this
     refine aP! gJ! (.tmp 65) (.tmp 68) rfl rfl (N.below a6) (m:=1) (news:=txs [tn]) rfl rfl (fun j u hu=>?_) (mA! _) (by rw[ae!,ae!];simp only[u7!,v6!];omega) (by rw[ae!,ae!];simp only[u7!,v6!];omega) (by simp;omega) (fun v2 w2 hown2 O hg2=>?_)
     ·rw[Addr.add_lit,cell_of_row _ wd.heap.size (0+j) #[.string tn] 9 (0,0) (heap_alloc_new wd _),Nat.zero_add];simpa [txs] using hu
     have bt:Kept (fun x=>x<wd.heap.size/\v.ownBlock≠some x) wd w2:=⟨hg2.os.trans rfl,hg2.tape.trans rfl,hg2.output.trans rfl,n6! (by simp) hg2.size,fun x hx=>(hg2.block x (by have:=hx.1;simp;omega) (fun e=>hx.2 e.symm)).trans (Below.heap_alloc wd _ x hx.1)⟩;have bD:oo! 9 (· = b3) w.heap.size w4 w2:=oo!.next aj (oo!.next (oo!.of a6 ah) (oo!.grown (N.below a6) hg2 (by simp;omega)));refine hK.out _ _ bt ?_;clear hK;simp only[Act.put,pA,pZ,pS];rw[<-bg!]at hown2;obtain⟨w7,b5,ac,bx⟩:=BkW.put (k:=⟨tn,xn⟩) (r:=p) hM hR hL hl a6 hg2 N hown2 O a1.out;refine WalkL.last (by kernel_rfl) (by kernel_rfl) ?_;refine b! ?_;intro K hK;go_simp;refine hK.out _ _ ?_;clear hK;have cb:=h! ac;have F:=h! (oo!.next bD (oo!.turned bx rfl HD.out.2.2.1));clear b5 ac bx bD bt hown2 O hg2 a6 aR hM hR hL hl N an a4 ap ad I C H a5 aj ah
     have aQ:=h! (show BkR S w7 b1 (ab! (ts.take i)++aR! tn (o.take (j+1)))from by
      rw[bo.out,<-y6!];exact aI.out.same (F.out.block b1 (.inr ⟨HD.out.2.2.2.2.1,aI.out.lt,fun cs=>aI.out.notCells cs _ _⟩)) (Same.sub hS F.out.below))
     have aK:=h! (bg.out.same (F.out.block b2 (.inr ⟨HD.out.2.2.2.2.2.1,bg.out.lt,fun cs=>bg.out.notCells cs _ _⟩)))
     have aS:=h! (show BkW w7 w.heap.size b3 (ab! (ts.take i)++aR! tn (o.take (j+1)))from by
      rw[bo.out,<-y6!];exact cb.out)
     have b4:=h! (oo!.next bd.out (F.out.mono fun x hx=>by
      rcases hx with hx | ⟨h1,h2⟩
      ·exact .inl hx
      ·exact .inr ⟨fun e=>h1 (.inr (.inr e)),h2⟩))
     have be:=c9.out;clear t4 r4 k4;go_wp2_with fail
     go_roundw
     case rel=>exact⟨j+1,by omega,by go_num,aQ.out,aK.out,aS.out,b4.out⟩
     case measure=>simp[intOf];omega
    ·obtain rfl:j=o.length:=by omega
     have aQ:=h! (show BkR S wr b1 (ab! (ts.take (i+1)))from by have:=X.out;rw[u2!]at this;rw[aV.out];exact this);have aK:=h! (show Mp prog 9 Value.string bV wr b2 (tyL (ts.take (i+1)))from by rw[bN.out];exact aM.out);have aS:=h! (show BkW wr w.heap.size b3 (ab! (ts.take (i+1)))from by have:=aH.out;rw[u2!]at this;rw[aV.out];exact this);have b4:=h! (oo!.next bu.out au.out);have be:=bS.out;clear aD;go_wp2_with fail
     go_roundw
     case rel=>exact⟨i+1,by omega,by go_num,aQ.out,aK.out,aS.out,b4.out⟩
     case measure=>simp[intOf];omega
  ·obtain rfl:i=ts.length:=by omega
   rw[u2!]at a0 aq aB;have D:=h! (av.out.box ca.out (by decide) HD.out.2.2.2.2.2.2.1);have b9:=h! (av.out.box bH.out (by decide) HD.out.2.2.2.2.2.2.2.1);have bi:=HX.out.trans av.out.below;have R:w.heap.size<=rc:=cf.out;have bn:=D.out.set_to 0 (.map (some b1)) rfl;have bE:=bn.set_to 1 (.map (some b2)) rfl;have bz:=bE.set_to 2 (.map (some b3)) rfl;have c1:=b9.out.cells;have c2:=D.out.cells;have f2:=D.out.free;have bL:=h! bz
   have bv:∀x,x≠rc->(((wr.setCell ⟨rc,0,none⟩ (.map (some b1))).setCell ⟨rc,1,none⟩ (.map (some b2))).setCell ⟨rc,2,none⟩ (.map (some b3))).heap[x]?=wr.heap[x]?:=fun x hx=>by
    rw[Below.heap_setCell _ _ _ x hx,Below.heap_setCell _ _ _ x hx,Below.heap_setCell _ _ _ x hx]
   have am:=h! bv;have cc:Hid (Below w.heap.size w (((wr.setCell ⟨rc,0,none⟩ (.map (some b1))).setCell ⟨rc,1,none⟩ (.map (some b2))).setCell ⟨rc,2,none⟩ (.map (some b3)))):=h! (((bi.setCell R _).setCell R _).setCell R _);clear bn bE bz bi bv hq;go_wp2_with fail
   refine bodyPost_ret (results_cell_row rfl _ _ rc 229 #[.map (some b1),.map (some b2),.map (some b3)] (0,0) _ rfl bL.out Tryz.underlying229 rfl (by kernel_rfl)) rfl ⟨b1,b2,b3,rfl,⟨a0.out.same (am.out _ fun e=>HD.out.2.2.2.2.2.2.1 (.inl e.symm)) (fun x hx=>am.out x (by have:=hS x hx;omega)),aq.out.same (am.out _ fun e=>HD.out.2.2.2.2.2.2.1 (.inr (.inl e.symm))),aB.out.keep (am.out _ fun e=>HD.out.2.2.2.2.2.2.1 (.inr (.inr e.symm))) (fun x _ _ hx=>am.out x fun e=>by
    obtain⟨cs,hx⟩:=hx;have:=D.out;rw[e,show wr.heap[rc]?=_ from D.out]at hx;injection hx with hx
    injection hx with _ h2 _
    revert h2
    decide),HD.out.1,HD.out.2.1,HD.out.2.2.1,HD.out.2.2.2.1,HD.out.2.2.2.2.1,HD.out.2.2.2.2.2.1⟩,cc.out⟩
theorem Own.mono {w:World}{B B':Nat}{e:TypeId}{sz:Nat}{v:Value}{xs:List Value}(h:Own w B e sz v xs)(hb:B'<=B):Own w B' e sz v xs:=by
 obtain⟨n,h⟩:=h;refine⟨n,h.1,?_⟩;rcases h.2 with hn | ⟨g,cap,cur,rfl,hbg,r⟩
 ·exact .inl hn
 ·exact .inr ⟨g,cap,cur,rfl,by omega,r⟩
theorem BkW.mono {w:World}{B B' b3:Nat}{P:List (R2 × RT)}(h:BkW w B b3 P)(hb:B'<=B):BkW w B' b3 P:=by
 obtain⟨lw,h1,h2,h3⟩:=h;exact⟨lw,h1,⟨fun x hx=>⟨(h2.rows x hx).1,(h2.rows x hx).2.mono hb⟩,h2.apart⟩,h3⟩
structure Bk (w:World)(b1 b2 b3:Nat)(ts:List TyS):Prop where
 R:BkR (· < w.heap.size) w b1 (ab! ts)
 T:Mp prog 9 Value.string bV w b2 (tyL ts)
 W:BkW w 0 b3 (ab! ts)
theorem Bk.up {w w':World}{b1 b2 b3:Nat}{ts:List TyS}(h:Bk w b1 b2 b3 ts)(hb:Below w.heap.size w w'):Bk w' b1 b2 b3 ts:=⟨h.R.up hb,h.T.below hb,h.W.up hb⟩
theorem BkR.mono {S S':Nat->Prop}{w:World}{b1:Nat}{P:List (R2 × RT)}(h:BkR S w b1 P)(hs:∀x,S x->S' x):BkR S' w b1 P:=by
 obtain⟨lr,h1,h2,h3⟩:=h;exact⟨lr,h1,h2,fun x hx=>(h3 x hx).mono hs⟩
theorem ng! (ts:List TyS)(tv:Value)(w:World)(h:ou! (· < w.heap.size) w ts tv)(hok:∀t∈ts,t.Ok)(hu:aK! ts=true)(hsz:(ab! ts).length<=1099511627776) :
  Calls prog 131 #[.agg #[tv]] w fun e w'=>∃b1 b2 b3,e= .returned (.agg #[.map (some b1),.map (some b2),.map (some b3)])/\Bk w' b1 b2 b3 ts/\Below w.heap.size w w':=by
 refine(ii! ts tv w (fun _ hx=>hx) h hok hu hsz).mono ?_;rintro e w' ⟨b1,b2,b3,rfl,hb,hw⟩;exact⟨b1,b2,b3,rfl,⟨hb.R.mono fun x hx=>n1! hx hw.size,hb.T,hb.W.mono (v1! _)⟩,hw⟩
end Go.Proofs.YtlhaghoajpglaaaGreat
