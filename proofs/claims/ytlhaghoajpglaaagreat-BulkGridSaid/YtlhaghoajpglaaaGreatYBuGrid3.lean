/- Lemmas for the claim, no condition. -/
import Derived.DeepKeys4
import Derived.RangeFuncGives
import Derived.RangeFuncNested
import Derived.RangeFuncLeaves
import Derived.WalkKit
import Derived.OwnWalkIn
import Derived.TacticsInMore
import Derived.RegionIn
import Derived.LoopNIn
import Derived.LoopIn
import Derived.Test.YtlhaghoajpglaaaGreatYBuGrid0
import Derived.Test.YtlhaghoajpglaaaGreatYBuGrid2
import Derived.Test.YtlhaghoajpglaaaGreatYBuGrid1
set_option maxRecDepth 100000
set_option maxHeartbeats 8000000
namespace Go.Proofs.YtlhaghoajpglaaaGreat
open Go Go.RowKit Go.Maps
theorem laidOut:laidOutB Tryz.prog=true:=by kernel_rfl
theorem str_lits (d:Nat)(s:ByteArray)(h:s.size<=maxLen):Tryz.prog.keyLits (d+1) 9 [.string s]=some [.string s.data.toList]:=by
 unfold Program.keyLits;rw[Tryz.underlying9];simp only[h,if_true]
theorem obj_lits (d:Nat)(s u:ByteArray)(h:s.size<=maxLen)(k:u.size<=maxLen):Tryz.prog.keyLits (d+1+1) 30 [.string s,.string u]=some [.string s.data.toList,.string u.data.toList]:=by
 unfold Program.keyLits;rw[Tryz.underlying30];have e1:=str_lits d s h;have e2:=str_lits d u k;have e3:Tryz.prog.cellsOf 30=2:=by kernel_rfl
 have e4:Tryz.prog.cellsOf 9=1:=by kernel_rfl
 simp[e1,e2,e3,e4]
theorem types_many:∃ d,Tryz.prog.types.size=d+1+1+1:=⟨Tryz.prog.types.size-3,by have:3<=Tryz.prog.types.size:=of_decide_eq_true (by kernel_rfl);omega⟩
theorem refK:Keyed Tryz.prog 121:=Keyed.of_law (deep_law_laid laidOut (m:=3) (by decide) (of_decide_eq_true (by kernel_rfl)) (by kernel_rfl) (by kernel_rfl))
theorem r2V_inj (a b:R2)(h:r2V a=r2V b):a=b:=by
 obtain⟨a1,a2⟩:=a;obtain⟨b1,b2⟩:=b;simpa [r2V] using h
def R2.Ok (p:R2):Prop:=p.t.size<=maxLen/\p.r.size<=maxLen
theorem ref_lits (d:Nat)(p:R2)(h:p.Ok):Tryz.prog.keyLits (d+1+1) 121 [.string p.t,.string p.r]=some [.string p.t.data.toList,.string p.r.data.toList]:=by
 unfold Program.keyLits;rw[Tryz.underlying121];have e1:=str_lits d p.t h.1;have e2:=str_lits d p.r h.2;have e3:Tryz.prog.cellsOf 121=2:=by kernel_rfl
 have e4:Tryz.prog.cellsOf 9=1:=by kernel_rfl
 simp[e1,e2,e3,e4]
theorem ref_key (p:R2)(h:p.Ok):∃ q,keyOf Tryz.prog 121 (r2V p)=some q:=by
 obtain⟨d,hd⟩:=types_many;have e:=ref_lits (d+1+1) p h;have e2:(Tryz.prog.keyType 121&&(r2V p).formed Tryz.prog 121)=true:=by kernel_rfl
 have hs:Tryz.prog.types.size+1=d+1+1+1+1:=by omega
 unfold keyOf;rw[Tryz.underlying121];dsimp only;rw[if_pos e2,hs];rw[show(r2V p).cells.toList=[.string p.t,.string p.r]from rfl,e];exact⟨_,rfl⟩
theorem strK:Keyed Tryz.prog 9:=string_keyed Tryz.underlying9
theorem strV_inj (a b:ByteArray)(h:Value.string a=Value.string b):a=b:=by injection h
theorem str_key (s:ByteArray)(h:s.size<=maxLen):∃ q,keyOf Tryz.prog 9 (.string s)=some q:=by
 unfold keyOf;rw[Tryz.underlying9];dsimp only;unfold mapKey;rw[Tryz.underlying9];simp[h]
abbrev bV:Bool->Value:=fun x => .bool x
section
variable {κ α : Type} [DecidableEq κ]
theorem look_put (a:κ)(x:α)(b:κ):∀ l:List (κ × α),lookA (putA l a x) b=if a=b then some x else lookA l b
 | []=>by simp[putA,lookA]
 | p::r=>by
  unfold putA;by_cases h:p.1=a
  ·rw[if_pos h];subst h;by_cases hb:p.1=b
   ·simp[lookA,hb]
   ·simp[lookA,hb]
  ·rw[if_neg h];by_cases hb:p.1=b
   ·subst hb;simp[lookA,Ne.symm h]
   ·simp[lookA,hb,look_put a x b r]
theorem put_keys_mem (a:κ)(x:α)(b:κ × α):∀ {l:List (κ × α)},b∈putA l a x->b=(a,x)\/b∈l
 | [],h=>by simpa [putA] using h
 | p::r,h=>by
  unfold putA at h;split at h
  ·rcases List.mem_cons.1 h with h | h
   ·exact .inl h
   ·exact .inr (by simp[h])
  ·rcases List.mem_cons.1 h with h | h
   ·exact .inr (by simp[h])
   ·rcases put_keys_mem a x b h with h | h
    ·exact .inl h
    ·exact .inr (by simp[h])
end
abbrev Tk (b:Nat) (w w':World):Prop:=Kept (fun x=>x<w.heap.size/\x≠b) w w'
section
variable {b : Nat} {w w' w'' : World}
theorem Tk.refl (b:Nat)(w:World):Tk b w w:=Kept.refl _ _
theorem Tk.next (h:Tk b w w')(k:Tk b w' w''):Tk b w w'':=Kept.trans h (Kept.mono k fun _x hx=>⟨Nat.lt_of_lt_of_le hx.1 h.size,hx.2⟩)
theorem Tk.of (h:Below w.heap.size w w'):Tk b w w':=Below.kept h fun _x hx=>hx.1
theorem Tk.turned (h:Turned w w' b):Tk b w w':=h.kept.mono fun _x hx=>hx.2
theorem Tk.box (h:Tk b w w') {x:Nat} {cs:Array Value} {t:TypeId} (hx:Blk w x cs t)(hb:x≠b):Blk w' x cs t:=Kept.blk h hx ⟨hx.lt,hb⟩
theorem Tk.below (h:Tk b w w') {B:Nat} (h1:B<=w.heap.size)(h2:B<=b):Below B w w':=Kept.below h fun x hx=>⟨by omega,by omega⟩
end
end Go.Proofs.YtlhaghoajpglaaaGreat
namespace Go.Proofs.YtlhaghoajpglaaaGreat
open Go Go.RowKit
attribute [local go_sem] Oper.semAt_some
theorem wpListIn_own {F:Fence} {n:Nat} {P:Program} {w:World} {ops:Array Oper} {rest:List Oper} {o:Oper} {a:Act} {Q:Exit->Act->World->Prop} {t e:TypeId} {size bytes:Nat} (E:ElemT P t e size bytes)
  (hg:o.guard=none) (s x:Operand) (hop:o.op=Op.call {callee:=Callee.builtin Builtin.append,args:=#[s,x],argTypes:=#[t,t]})
  {B:Nat} {v:Value} {xs:List Value} (hs:a.eval s=v) (hown:Own w B e size v xs) {ad:Addr} {m c:Nat} {news:List Value} (hx:a.eval x = .slice (some ad) m c) (hn:news.length=m*size)
  (hc:∀ j u,news[j]?=some u->w.cell? (ad.add j)=some u) (h1:∀ u∈news,u.oneCell'=true)
  (hlen:xs.length+news.length<=9223372036854775807) (hbytes:(xs.length+news.length)*bytes<=140737488355328) (hB:B<=w.heap.size)
  (K:∀ v' w',Own w' B e size v' (xs++news)->(∀ g,v'.ownBlock=some g->v.ownBlock=some g\/w.heap.size<=g)->w.grownBy w' v.ownBlock->wpListIn F n P ops Q rest (a.put o.dst v') w'):wpListIn F n P ops Q (o::rest) a w:=by
 obtain⟨hund,⟨i,z,hi,hz,h4,h5,h6⟩,hpos⟩:=E;obtain⟨k,hown⟩:=hown;have e1:∀ k l:Nat,k<=l*size->l*size<=k->l<=k:=fun k l _ hb=>Nat.le_trans (Nat.le_mul_of_pos_right l hpos) hb;have hnl:k<=xs.length:=e1 _ _ (Nat.le_of_eq hown.1) (Nat.le_of_eq hown.1.symm);have hml:m<=news.length:=e1 _ _ (Nat.le_of_eq hn) (Nat.le_of_eq hn.symm);have hb47:(k+m)*bytes<=140737488355328:=Nat.le_trans (Nat.mul_le_mul_right _ (by omega)) hbytes;subst h4;subst h5;refine wpListIn_plain hg fun K' hK'=>?_;obtain⟨v',w',hrun,r1,r2,_⟩:=run_append_own (P:=P) w B t o.type e i z i.size i.bytes hund hi hz rfl rfl h6 hpos v k xs hown ad m c news hn hc h1 (by unfold maxLen;omega) hb47 hB;have r3:=append_where B t o.type e i z hund hi hz v k xs hown ad m c news hn hc h1 (by unfold maxLen;omega) hb47 hrun;unfold Oper.wpIn;refine⟨?_,?_⟩
 ·simp[Oper.about,hop,resolve,Target.leads,Sem.run_pure]
 ·rw[Oper.semAt_plain F _ _ (by rw[hop];intro c hc';cases hc')];simp[execOp,hop,resolve,invoke,builtin,hs,hx,hrun,Result.andThen];exact hK' _ _ (K v' w' ⟨_,r1⟩ r3 r2)
theorem own_ownFrom {β:Type} (B0 Bs:Nat)(t e:TypeId)(sz:Nat)(f:β->List Value)(G:Value->Prop)(B:Nat):OwnFrom B (fun s W=>∃ v,Boxed W Bs t v/\Own W B0 e sz v (f s)/\G v):=by
 rintro s X Y row ⟨v,hv,⟨n,hr⟩,hG⟩ hg hrow;obtain⟨v2,h1,h2,rfl⟩:=(holdsRow_own B0 Bs t e sz (fun _:Unit=>n) (fun _=>f s) (fun _ u=>u=v)) () X Y row ⟨v,hv,hr,rfl⟩ hg (fun r e=>(hrow r e).2);exact⟨v2,h1,⟨n,h2⟩,hG⟩
theorem ownFrom_kept {β:Type} {K:Nat->Prop} {B:Nat} {w0:World} (hK:∀ b,K b->b<w0.heap.size)(hB:w0.heap.size<=B):OwnFrom B (fun(_:β) W=>Kept K w0 W):=fun _ X _ row h hg hr =>
 h.trans ⟨hg.os,hg.tape,hg.output,hg.size,fun b hb=>hg.block b (Nat.lt_of_lt_of_le (hK b hb) h.size) (fun e=>by have h1:=(hr b e.symm).1;have h2:=hK b hb;omega)⟩
theorem boxed3_kept {W W':World} {row:Option Nat} {B:Nat} {cs:Array Value} {t:TypeId} (h:Blk W B cs t)(hg:W.grownBy W' row)(hr:∀ r,row=some r->∃ o:Obj,W.heap[r]?=some o/\o.isCells=false):Blk W' B cs t :=
 (hg.block B h.lt (fun e=>by
  obtain⟨o,ho,hc⟩:=hr B e.symm;rw[show W.heap[B]?=_ from h]at ho;cases ho;cases hc)).trans h
theorem Own.put {W:World} {B0:Nat} {e:TypeId} {sz:Nat} {v:Value} {xs:List Value} (h:Own W B0 e sz v xs) {l:Nat} {o:Obj} (o':Obj)(hl:W.heap[l]?=some o)(ho:o.isCells=false):Own (W.putObj l o') B0 e sz v xs:=by
 obtain⟨n,h⟩:=h;exact⟨n,ownsRow_putObj h o' hl ho⟩
theorem boxed_notOwn {W:World} {B:Nat} {t e:TypeId} {u:Value} (h:Boxed W B t u)(hte:t≠e) {B0 sz:Nat} {v:Value} {xs:List Value} (hr:Own W B0 e sz v xs):some B≠v.ownBlock:=by
 obtain⟨n,hr⟩:=hr;exact h.not_row hte hr
theorem Own.not_cells {W:World} {B0:Nat} {e:TypeId} {sz:Nat} {v:Value} {xs:List Value} (h:Own W B0 e sz v xs) {k:Nat} {o:Obj} (hk:W.heap[k]?=some o)(ho:o.isCells=false):some k≠v.ownBlock:=fun e'=>by
 obtain⟨cur,hc⟩:=h.typed e'.symm;rw[hk]at hc;cases hc;cases ho
theorem keeps_own {W W':World} {B0:Nat} {e:TypeId} {sz:Nat} {v:Value} {xs:List Value} (h:Own W B0 e sz v xs)(hg:W.grownBy W' v.ownBlock)(B:Nat):KeepsFrom B W W' :=
 ⟨hg.size,fun k _ _ hk ho=>(hg.block k (Array.getElem?_eq_some_iff.1 hk).1 (h.not_cells hk ho)).trans hk⟩
theorem keeps_up {W W':World} (h:KeepsFrom 0 W W')(B:Nat):KeepsFrom B W W':=⟨h.size,fun k o _ hk ho=>h.same k o (Nat.zero_le _) hk ho⟩
end Go.Proofs.YtlhaghoajpglaaaGreat
namespace Go.Proofs.YtlhaghoajpglaaaGreat
open Go Go.RowKit Go.Maps
def QK (e:TypeId)(M:Nat->Prop)(B:Nat)(w:World)(x:Nat):Prop:=x<B\/(¬ M x/\x<w.heap.size/\∀ cs,w.heap[x]?≠some (.cells cs e (0,0)))
abbrev QKept (e:TypeId) (M:Nat->Prop) (B:Nat) (w w':World):Prop:=Kept (QK e M B w) w w'
section
variable {e : TypeId} {M : Nat -> Prop} {w w' w'' : World} {B : Nat}
theorem QKept.below (h:QKept e M B w w'):Below B w w':=Kept.below h fun _ hx => .inl hx
theorem QKept.next (h:QKept e M B w w')(k:QKept e M B w' w''):QKept e M B w w'':=Kept.trans h (Kept.mono k fun x hx=>by
 rcases hx with hx | ⟨h1,h2,h3⟩
 ·exact .inl hx
 ·refine .inr ⟨h1,Nat.lt_of_lt_of_le h2 h.size,fun cs=>?_⟩;rw[h.block x (.inr ⟨h1,h2,h3⟩)];exact h3 cs)
theorem QKept.of (h:Below w.heap.size w w')(hB:B<=w.heap.size):QKept e M B w w':=Below.kept h fun x hx=>by
 rcases hx with hx | ⟨_,h2,_⟩
 ·omega
 ·exact h2
theorem QKept.box (h:QKept e M B w w') {x:Nat} {cs:Array Value} {t:TypeId} (hx:Blk w x cs t)(he:t≠e)(hb:¬ M x):Blk w' x cs t:=Kept.blk h hx (.inr ⟨hb,hx.lt,fun cs' h'=>by
 rw[show w.heap[x]?=_ from hx]at h';injection h' with h'
 injection h' with _ h2 _
 exact he h2⟩)
theorem QKept.turned {b:Nat} (h:Turned w w' b)(hb:M b)(hB:B<=b):QKept e M B w w':=h.kept.mono fun x hx=>by
 rcases hx with hx | ⟨h1,_⟩
 ·show x≠b;omega
 ·show x≠b;exact fun e=>h1 (e▸hb)
theorem QKept.grown {v:Value} {sz:Nat} {xs:List Value} (ho:Own w B e sz v xs)(hg:w.grownBy w' v.ownBlock)(hB:B<=w.heap.size):QKept e M B w w':=⟨hg.os,hg.tape,hg.output,hg.size,fun x hx=>by
 rcases hx with hx | ⟨_,h2,h3⟩
 ·exact hg.block x (by omega) (fun e=>by have:=(ho.block x e.symm).1;omega)
 ·refine hg.block x h2 (fun e=>?_);obtain⟨n,ho⟩:=ho;rcases ho.2 with⟨rfl,_⟩ | ⟨g',cap,cur,rfl,hbg,hg',r⟩
  ·cases e
  ·injection e with e
   subst e;exact h3 _ hg'⟩
end
theorem wpList_own2 {P:Program} {w:World} {ops:Array Oper} {rest:List Oper} {o:Oper} {a:Act} {Q:Exit->Act->World->Prop} {t e:TypeId} {size bytes:Nat} (E:ElemT P t e size bytes)
  (hg:o.guard=none) (s x:Operand) (hop:o.op=Op.call {callee:=Callee.builtin Builtin.append,args:=#[s,x],argTypes:=#[t,t]})
  {B:Nat} {v:Value} {xs:List Value} (hs:a.eval s=v) (hown:Own w B e size v xs) {T:Nat->Prop} {y:Value} {news:List Value} (hx:a.eval x=y) (hy:Sl T w size y news) (h1:∀ u∈news,u.oneCell'=true)
  (hlen:xs.length+news.length<=9223372036854775807) (hbytes:(xs.length+news.length)*bytes<=140737488355328) (hB:B<=w.heap.size)
  (K:∀ v' w',Own w' B e size v' (xs++news)->Below B w w'->w.grownBy w' v.ownBlock->wpList P ops Q rest (a.put o.dst v') w'):wpList P ops Q (o::rest) a w :=
 wpList_plain hg fun _K' hK'=>wp_own E s x hop hs hown hx hy h1 hlen hbytes hB fun v' w' h2 h3 h4=>hK' _ _ (K v' w' h2 h3 h4)
end Go.Proofs.YtlhaghoajpglaaaGreat
namespace Go.Proofs.YtlhaghoajpglaaaGreat
open Go Go.RowKit
def tyLong (t:TyS):Bool:=decide (t.rels.length<=16)&&t.rels.all fun r=>decide (r.2.sz<=32)
def longOk (ts:List TyS):Bool:=decide (ts.length<=16)&&ts.all tyLong
def uniqOk (ts:List TyS):Bool:=decide ((ts.map (·.name)).Nodup)&&ts.all fun t=>decide ((t.rels.map (·.1)).Nodup)
def freshT (ts:List TyS)(j:Nat):Prop:=∀ m (hm:m<ts.length)(hj:j<ts.length),m<j->ts[m].name≠ts[j].name
def namesOk (ts:List TyS):Bool:=ts.all fun t=>t.rels.all fun r=>r.2.named ts t
theorem uniq_at {ts:List TyS} (h:uniqOk ts=true) {i:Nat} (hi:i<ts.length):freshT ts i/\((ts[i].rels.map (·.1)).Nodup):=by
 unfold uniqOk at h;rw[Bool.and_eq_true,decide_eq_true_eq,List.all_eq_true]at h;refine⟨fun m hm hj hmj he=>?_,of_decide_eq_true (h.2 _ (List.getElem_mem hi))⟩;have:=(List.pairwise_iff_getElem.1 h.1) m i (by simpa using hm) (by simpa using hi) hmj;simp only[List.getElem_map]at this;exact this he
theorem uniq_of {ts:List TyS} (h:∀ j (hj:j<ts.length),freshT ts j/\((ts[j].rels.map (·.1)).Nodup)):uniqOk ts=true:=by
 unfold uniqOk;rw[Bool.and_eq_true,decide_eq_true_eq,List.all_eq_true];refine⟨List.pairwise_iff_getElem.2 fun m j hm hj hmj=>?_,fun x hx=>?_⟩
 ·simp only[List.getElem_map];exact(h j (by simpa using hj)).1 m (by simpa using hm) (by simpa using hj) hmj
 ·obtain⟨j,hj,rfl⟩:=List.getElem_of_mem hx;exact decide_eq_true (h j hj).2
def freshN (l:List (ByteArray × RT))(j:Nat):Prop:=∀ m (hm:m<l.length)(hj:j<l.length),m<j->l[m].1≠l[j].1
theorem fresh_of {l:List (ByteArray × RT)} (h:(l.map (·.1)).Nodup)(j:Nat):freshN l j:=fun m hm hj hmj he=>by
 have:=(List.pairwise_iff_getElem.1 h) m j (by simpa using hm) (by simpa using hj) hmj;simp only[List.getElem_map]at this;exact this he
def chk06 (ts:List TyS):Int:=if printOk ts then(if longOk ts then(if uniqOk ts then(if namesOk ts then 0 else 2)else 3)else 10)else 9
end Go.Proofs.YtlhaghoajpglaaaGreat
namespace Go.Proofs.YtlhaghoajpglaaaGreat
open Go Go.RowKit Go.Maps
abbrev RV:=RT × Value
def rvV (x:RV):Value:=rV x.1 x.2
abbrev WV:=List ByteArray × Value
def wvV (x:WV):Value:=x.2
def txs (l:List ByteArray):List Value:=l.map Value.string
theorem txs_one (l:List ByteArray):∀ u∈txs l,u.oneCell'=true:=by
 intro u hu;obtain⟨s,_,rfl⟩:=List.mem_map.1 hu;rfl
theorem txs_length (l:List ByteArray):(txs l).length=l.length:=by simp[txs]
theorem txs_append (a b:List ByteArray):txs (a++b)=txs a++txs b:=by simp[txs]
theorem textsT:ElemT Tryz.prog 169 9 1 16:=ElemT.mk' Tryz.underlying169 (show _=some (some (.string ByteArray.empty),1,16)by kernel_rfl) rfl (by decide)
def relsOf (n:ByteArray)(l:List (ByteArray × RT)):List (R2 × RT):=l.map fun r=>(⟨n,r.1⟩,r.2)
def refsOf (ts:List TyS):List (R2 × RT):=ts.flatMap fun t=>relsOf t.name t.rels
def whereP (P:List (R2 × RT))(n:ByteArray):List ByteArray:=(P.filter fun x=>decide (x.1.r=n)).map (·.1.t)
def optL (l:List ByteArray):Option (List ByteArray):=if l=[]then none else some l
theorem whereP_snoc (P:List (R2 × RT))(x:R2 × RT)(n:ByteArray):whereP (P++[x]) n=if x.1.r=n then whereP P n++[x.1.t]else whereP P n:=by
 unfold whereP;rw[List.filter_append,List.map_append];by_cases h:x.1.r=n
 ·simp[h]
 ·simp[h]
theorem refsOf_append (a b:List TyS):refsOf (a++b)=refsOf a++refsOf b:=List.flatMap_append
theorem refsOf_take {l:List TyS} {i:Nat} (hi:i<l.length):refsOf (l.take (i+1))=refsOf (l.take i)++relsOf l[i].name l[i].rels:=by
 rw[List.take_succ_eq_append_getElem hi,refsOf_append];simp[refsOf]
theorem relsOf_take {n:ByteArray} {l:List (ByteArray × RT)} {i:Nat} (hi:i<l.length):relsOf n (l.take (i+1))=relsOf n (l.take i)++[(⟨n,l[i].1⟩,l[i].2)]:=by
 rw[List.take_succ_eq_append_getElem hi];simp only[relsOf,List.map_append,List.map_cons,List.map_nil]
structure WhRows (w:World)(B:Nat)(lw:List (ByteArray × WV)):Prop where
 rows:∀ x∈lw,x.2.1≠[]/\Own w B 9 1 x.2.2 (txs x.2.1)
 apart:∀ x∈lw,∀ y∈lw,x.1≠y.1->x.2.2.ownBlock≠y.2.2.ownBlock
def BkR (S:Nat->Prop)(w:World)(b1:Nat)(P:List (R2 × RT)):Prop :=
 ∃ lr:List (R2 × RV),Mp Tryz.prog 121 r2V rvV w b1 lr/\lr.map (fun x=>(x.1,x.2.1))=P/\∀ x∈lr,RTAt S w x.2.1 x.2.2
def BkW (w:World)(B b3:Nat)(P:List (R2 × RT)):Prop :=
 ∃ lw:List (ByteArray × WV),Mp Tryz.prog 9 Value.string wvV w b3 lw/\WhRows w B lw/\∀ n,(lookA lw n).map (·.1)=optL (whereP P n)
theorem Own.notMap {w:World} {B:Nat} {e:TypeId} {sz:Nat} {v:Value} {xs:List Value} (h:Own w B e sz v xs) {b:Nat} (hb:∀ cs t fr,w.heap[b]?≠some (.cells cs t fr)):∀ g,v.ownBlock=some g->g≠b:=by
 intro g hg he;obtain⟨n,h⟩:=h;rcases h.2 with⟨rfl,_⟩ | ⟨g',cap,cur,rfl,hbg,hg',r⟩
 ·cases hg
 ·injection hg with hg
  subst hg he;exact hb _ _ _ hg'
theorem Mp.notCells {P:Program} {k:TypeId} {κ α:Type} {kv:κ->Value} {ev:α->Value} {w:World} {b:Nat} {l:List (κ × α)} (h:Mp P k kv ev w b l):∀ cs t fr,w.heap[b]?≠some (.cells cs t fr):=by
 obtain⟨es,clock,hb,_⟩:=h;intro cs t fr h;rw[hb]at h;cases h
theorem own_some {w:World} {B:Nat} {e:TypeId} {v:Value} {l:List ByteArray} (h:Own w B e 1 v (txs l))(hl:l≠[]):∃ g,v.ownBlock=some g:=by
 obtain⟨n,h⟩:=h;rcases h.2 with⟨rfl,rfl⟩ | ⟨g',cap,cur,rfl,hbg,hg',r⟩
 ·have:=h.1;rw[txs_length]at this;exact absurd (List.eq_nil_of_length_eq_zero (by omega)) hl
 ·exact⟨g',rfl⟩
theorem WhRows.keep {w w':World} {B:Nat} {lw:List (ByteArray × WV)} (h:WhRows w B lw)(hs:∀ x,B<=x->x<w.heap.size->(∃ cs,w.heap[x]?=some (.cells cs 9 (0,0)))->w'.heap[x]?=w.heap[x]?):WhRows w' B lw :=
 ⟨fun x hx=>⟨(h.rows x hx).1,(h.rows x hx).2.keepB fun g hg=>by
  have ho:=(h.rows x hx).2;have hb:=ho.block g hg;refine hs g hb.1 hb.2 ?_;obtain⟨n,ho⟩:=ho;rcases ho.2 with⟨h0,_⟩ | ⟨g',cap,cur,h0,hbg,hg',r⟩
  ·rw[h0]at hg;cases hg
  ·rw[h0]at hg;injection hg with hg
   subst hg;exact⟨_,hg'⟩⟩,h.apart⟩
theorem put_mem {κ α:Type} [DecidableEq κ] (a:κ)(y:α)(x:κ × α):∀ {l:List (κ × α)},(l.map (·.1)).Nodup->x∈putA l a y->x=(a,y)\/(x∈l/\x.1≠a)
 | [],_,h=>by simp[putA]at h;exact .inl h
 | p::r,hn,h=>by
  simp only[List.map_cons,List.nodup_cons]at hn;unfold putA at h;split at h
  ·rename_i e
   rcases List.mem_cons.1 h with h | h
   ·exact .inl h
   ·exact .inr ⟨by simp[h],fun e2=>hn.1 (by rw[e,<- e2];exact List.mem_map.2 ⟨x,h,rfl⟩)⟩
  ·rename_i e
   rcases List.mem_cons.1 h with h | h
   ·exact .inr ⟨by simp[h],h▸e⟩
   ·rcases put_mem a y x hn.2 h with h | h
    ·exact .inl h
    ·exact .inr ⟨by simp[h.1],h.2⟩
theorem WhRows.put {w w1 w2 w3:World} {B b3:Nat} {lw:List (ByteArray × WV)} (h:WhRows w B lw) {n:ByteArray} {names:List ByteArray} {v v':Value} (hl:(lookA lw n=some (names,v))\/(lookA lw n=none/\names=[]/\v = .slice none 0 0))
  (h1:Below w.heap.size w w1) (h2:w1.grownBy w2 v.ownBlock) {tn:ByteArray} (ho:Own w2 B 9 1 v' (txs (names++[tn]))) (hw:∀ g,v'.ownBlock=some g->v.ownBlock=some g\/w1.heap.size<=g)
  (hm:Mp Tryz.prog 9 Value.string wvV w b3 lw) (hm2:Mp Tryz.prog 9 Value.string wvV w2 b3 lw) (ht:Turned w2 w3 b3):WhRows w3 B (putA lw n (names++[tn],v')):=by
 have hnd:=hm.nodup
 have old:∀ x∈lw,x.1≠n->∀ g,x.2.2.ownBlock=some g->v.ownBlock≠some g:=fun x hx hne g hg e=>by
  rcases hl with hl | ⟨_,_,rfl⟩
  ·exact h.apart x hx _ (look_mem hl) hne (hg.trans e.symm)
  ·cases e
 have lt:∀ x∈lw,∀ g,x.2.2.ownBlock=some g->g<w.heap.size:=fun x hx g hg=>((h.rows x hx).2.block g hg).2;refine⟨fun x hx=>?_,fun x hx y hy hne=>?_⟩
 ·rcases put_mem _ _ _ hnd hx with rfl | ⟨hx,hxn⟩
  ·exact⟨by simp,ho.keepB fun g hg=>ht.kept.block g (ho.notMap hm2.notCells g hg)⟩
  ·have hr:=(h.rows x hx).2;have hr1:=hr.below h1;refine⟨(h.rows x hx).1,hr1.keepB fun g hg=>?_⟩;have hg1:=lt x hx g hg;have hs1:=h1.size;refine(ht.kept.block g ?_).trans (h2.block g (by omega) fun e=>old x hx hxn g hg e.symm);intro e;subst e;exact hr.notMap hm.notCells g hg rfl
 ·rcases put_mem _ _ _ hnd hx with rfl | ⟨hx,hxn⟩ <;> rcases put_mem _ _ _ hnd hy with rfl | ⟨hy,hyn⟩
  ·exact absurd rfl hne
  ·intro e;obtain⟨g,hg⟩:=own_some ho (by simp);have hg2:y.2.2.ownBlock=some g:=e.symm.trans hg;rcases hw g hg with h3 | h3
   ·exact old y hy hyn g hg2 h3
   ·have:=lt y hy g hg2;have:=h1.size;omega
  ·intro e;obtain⟨g,hg⟩:=own_some ho (by simp);have hg2:x.2.2.ownBlock=some g:=e.trans hg;rcases hw g hg with h3 | h3
   ·exact old x hx hxn g hg2 h3
   ·have:=lt x hx g hg2;have:=h1.size;omega
  ·exact h.apart x hx y hy hne
section
variable {S : Nat -> Prop} {w w' : World} {B b1 b3 : Nat} {P : List (R2 × RT)}
theorem BkR.lt (h:BkR S w b1 P):b1<w.heap.size:=by
 obtain⟨lr,h1,_⟩:=h;exact h1.lt
theorem BkR.notCells (h:BkR S w b1 P):∀ cs t fr,w.heap[b1]?≠some (.cells cs t fr):=by
 obtain⟨lr,h1,_⟩:=h;exact h1.notCells
theorem BkR.same (h:BkR S w b1 P)(hb:w'.heap[b1]?=w.heap[b1]?)(hs:Same S w w'):BkR S w' b1 P:=by
 obtain⟨lr,h1,h2,h3⟩:=h;exact⟨lr,h1.same hb,h2,fun x hx=>(h3 x hx).same hs⟩
theorem BkR.up (h:BkR (· < w.heap.size) w b1 P)(hb:Below w.heap.size w w'):BkR (· < w'.heap.size) w' b1 P:=by
 obtain⟨lr,h1,h2,h3⟩:=h;exact⟨lr,h1.below hb,h2,fun x hx=>(h3 x hx).up hb⟩
theorem BkW.lt (h:BkW w B b3 P):b3<w.heap.size:=by
 obtain⟨lw,h1,_⟩:=h;exact h1.lt
theorem BkW.keep (h:BkW w B b3 P)(hb:w'.heap[b3]?=w.heap[b3]?)(hs:∀ x,B<=x->x<w.heap.size->(∃ cs,w.heap[x]?=some (.cells cs 9 (0,0)))->w'.heap[x]?=w.heap[x]?):BkW w' B b3 P:=by
 obtain⟨lw,h1,h2,h3⟩:=h;exact⟨lw,h1.same hb,h2.keep hs,h3⟩
theorem BkW.up (h:BkW w B b3 P)(hb:Below w.heap.size w w'):BkW w' B b3 P:=h.keep (hb.block _ h.lt) fun x _ hx _=>hb.block x hx
theorem BkW.turned (h:BkW w B b3 P) {b:Nat} (ht:Turned w w' b)(hb:b3≠b)(hc:∀ cs t fr,w.heap[b]?≠some (.cells cs t fr)):BkW w' B b3 P :=
 h.keep (ht.kept.block _ hb) fun x _ _ hx=>ht.kept.block x fun e=>by
  obtain⟨cs,hx⟩:=hx;exact hc _ _ _ (e▸hx)
theorem pairs_look {α β:Type} {f:α->β} {k:R2}:∀ {l:List (R2 × α)} {P:List (R2 × β)},l.map (fun x=>(x.1,f x.2))=P->(lookA l k).map f=lookA P k
 | [],P,h=>by subst h;rfl
 | x::l,P,h=>by
  subst h;simp only[List.map_cons,lookA];split
  ·rfl
  ·exact pairs_look rfl
theorem BkR.look (h:BkR S w b1 P)(k:R2)(hk:k.Ok):∃ z:RV,(Instr.lookup 225 (.map (some b1)) (r2V k) true).run Tryz.prog w = .ok (.tuple #[rvV z,.bool (lookA P k).isSome]) w/\RTAt S w z.1 z.2/\(∀ r,lookA P k=some r->z.1=r)/\(lookA P k=none->z=(.mk 0 ByteArray.empty ByteArray.empty [],.slice none 0 0)):=by
 obtain⟨lr,h1,h2,h3⟩:=h;have hl:=pairs_look (f:=fun x:RV=>x.1) (k:=k) h2;have hrun:=h1.look refK r2V_inj Tryz.underlying225 (Tryz.zeroValue106 w) true (ref_key k hk);cases hlk:lookA lr k with
 | none =>
  rw[hlk]at hl hrun;refine⟨(.mk 0 ByteArray.empty ByteArray.empty [],.slice none 0 0),?_,?_,?_,fun _=>rfl⟩
  ·rw[hrun,<- hl];rfl
  ·exact(RTAt.iff _ _).2 ⟨[],rfl,by simp,Sl.nil _ _ _⟩
  ·intro r hr;rw[<- hl]at hr;cases hr
 | some x =>
  rw[hlk]at hl hrun;refine⟨x,?_,h3 _ (look_mem hlk),?_,?_⟩
  ·rw[hrun,<- hl];rfl
  ·intro r hr;rw[<- hl]at hr;injection hr
  ·intro hr;rw[<- hl]at hr;cases hr
theorem BkR.store (h:BkR S w b1 P) {k:R2} (hk:k.Ok) {r:RT} {pv:Value} (hr:RTAt S w r pv)(hS:∀ x,S x->x≠b1)(hn:lookA P k=none) :
  ∃ w',(Instr.mapUpdate 225 (.map (some b1)) (r2V k) (rV r pv)).run Tryz.prog w = .ok () w'/\BkR S w' b1 (P++[(k,r)])/\Turned w w' b1:=by
 obtain⟨lr,h1,h2,h3⟩:=h;obtain⟨w',hrun,hM,hT⟩:=h1.store refK r2V_inj Tryz.underlying225 (ref_key k hk) ((r,pv):RV);have hl:=pairs_look (f:=fun x:RV=>x.1) (k:=k) h2;rw[hn]at hl;have hln:lookA lr k=none:=by cases hlk:lookA lr k with | none=>rfl | some x=>rw[hlk]at hl;cases hl
 rw[put_miss (look_none_iff.1 hln)]at hM;refine⟨w',hrun,⟨_,hM,by rw[List.map_append,h2];rfl,fun x hx=>?_⟩,hT⟩;have hs:Same S w w':=fun x hx=>hT.kept.block x (hS x hx);rcases List.mem_append.1 hx with hx | hx
 ·exact(h3 x hx).same hs
 ·obtain rfl:=List.mem_singleton.1 hx;exact hr.same hs
theorem BkW.look (h:BkW w B b3 P)(n:ByteArray)(hn:n.size<=maxLen):∃ v,(Instr.lookup 227 (.map (some b3)) (.string n) false).run Tryz.prog w = .ok v w/\Own w B 9 1 v (txs (whereP P n))/\∃ lw,Mp Tryz.prog 9 Value.string wvV w b3 lw/\WhRows w B lw/\(∀ n,(lookA lw n).map (·.1)=optL (whereP P n))/\(lookA lw n=some (whereP P n,v)\/(lookA lw n=none/\whereP P n=[]/\v = .slice none 0 0)):=by
 obtain⟨lw,h1,h2,h3⟩:=h;have hl:=h3 n;have hrun:=h1.look strK strV_inj Tryz.underlying227 (Tryz.zeroValue169 w) false (str_key n hn);cases hlk:lookA lw n with
 | none =>
  rw[hlk]at hl hrun
  have hw:whereP P n=[]:=by
   unfold optL at hl;split at hl
   ·assumption
   ·cases hl
  exact⟨.slice none 0 0,hrun,by rw[hw];exact Own.nil _ _ _ _,lw,h1,h2,h3,.inr ⟨hlk,hw,rfl⟩⟩
 | some x =>
  rw[hlk]at hl hrun
  have hw:x.1=whereP P n:=by
   unfold optL at hl;split at hl
   ·cases hl
   ·injection hl
  have hm:=h2.rows _ (look_mem hlk);refine⟨x.2,hrun,by rw[<- hw];exact hm.2,lw,h1,h2,h3,.inl ?_⟩;rw[hlk,<- hw]
theorem BkW.put {w1 w2:World} {lw:List (ByteArray × WV)} {k:R2} {r:RT} {v v':Value} (hM:Mp Tryz.prog 9 Value.string wvV w b3 lw)(hR:WhRows w B lw)(hL:∀ n,(lookA lw n).map (·.1)=optL (whereP P n))
  (hl:lookA lw k.r=some (whereP P k.r,v)\/(lookA lw k.r=none/\whereP P k.r=[]/\v = .slice none 0 0)) (h1:Below w.heap.size w w1) (h2:w1.grownBy w2 v.ownBlock) (ho0:Own w B 9 1 v (txs (whereP P k.r))) (ho:Own w2 B 9 1 v' (txs (whereP P k.r++[k.t])))
  (hw:∀ g,v'.ownBlock=some g->v.ownBlock=some g\/w1.heap.size<=g) (hk:k.r.size<=maxLen) :
  ∃ w',(Instr.mapUpdate 227 (.map (some b3)) (.string k.r) v').run Tryz.prog w2 = .ok () w'/\BkW w' B b3 (P++[(k,r)])/\Turned w2 w' b3:=by
 have hm1:=hM.below h1;have hm2:Mp Tryz.prog 9 Value.string wvV w2 b3 lw:=hm1.same (h2.block b3 hm1.lt (fun e=>((ho0.below h1).notMap hm1.notCells) b3 e.symm rfl));obtain⟨w',hrun,hM',hT⟩:=hm2.store strK strV_inj Tryz.underlying227 (str_key k.r hk) ((whereP P k.r++[k.t],v'):WV);refine⟨w',hrun,⟨_,hM',hR.put (names:=whereP P k.r) (v:=v) ?_ h1 h2 ho hw hM hm2 hT,fun n=>?_⟩,hT⟩
 ·rcases hl with hl | ⟨h3,h4,h5⟩
  ·exact .inl hl
  ·exact .inr ⟨h3,h4,h5⟩
 ·rw[look_put,whereP_snoc];by_cases e:k.r=n
  ·rw[if_pos e,if_pos e];subst e;unfold optL;rw[if_neg (by simp)];rfl
  ·rw[if_neg e,if_neg e];exact hL n
end
end Go.Proofs.YtlhaghoajpglaaaGreat
namespace Go.Proofs.YtlhaghoajpglaaaGreat
open Go Go.RowKit
def ahead (ops:Array Oper):Nat->Nat->Nat->Bool
 | 0,_,_=>false
 | f+1,i,j=>match ops[j]? with
  | some o=>o.after.any fun e=>Region.binds .any e&&(e.on == i||ahead ops f i e.on)
  | none=>false
def Closed (ops:Array Oper)(l:Array Bool):Prop :=
 ∀ j o,ops[j]?=some o->l.getD j false=true->∀ e∈o.after,Region.binds .any e=true->l.getD e.on false=true
theorem ahead_listed {ops:Array Oper} {l:Array Bool} (hc:Closed ops l):∀ (f i j:Nat),ahead ops f i j=true ->
  (∀ o,ops[j]?=some o->∀ e∈o.after,Region.binds .any e=true->l.getD e.on false=true)->l.getD i false=true
 | 0,_,_,h,_=>by simp[ahead]at h
 | f+1,i,j,h,hl=>by
  unfold ahead at h;cases ho:ops[j]? with
  | none=>rw[ho]at h;simp at h
  | some o =>
   rw[ho]at h;simp only[Array.any_eq_true',Bool.and_eq_true,Bool.or_eq_true,beq_iff_eq]at h;obtain⟨e,he,hb,h⟩:=h;have h1:=hl o ho e he hb;rcases h with h | h
   ·exact h▸h1
   ·exact ahead_listed hc f i e.on h fun o' ho' e' he' hb'=>hc _ o' ho' h1 e' he' hb'
theorem Closed.set {ops:Array Oper} {l:Array Bool} (hc:Closed ops l) {j:Nat} (hj:j∈Region.ready .any ops l):Closed ops (l.setIfInBounds j true):=by
 intro k o ho hk e he hb;refine getD_set_true ?_;by_cases hkj:k=j
 ·subst hkj;obtain⟨_,o',ho',hall⟩:=mem_ready.1 hj;rw[ho]at ho';cases ho';exact hall e he hb
 ·rw[getD_set_ne false (Ne.symm hkj)]at hk;exact hc k o ho hk e he hb
theorem Closed.start (ops:Array Oper)(n:Nat):Closed ops (Array.replicate n false):=by
 intro j o _ hj;simp only[Array.getD_eq_getD_getElem?,Array.getElem?_replicate]at hj;split at hj <;> simp at hj
section
variable {P : Program} {ops : Array Oper} {Q : Exit -> Act -> World -> Prop} {S : World -> Prop} {L : Nat}
def wpAnyL (P:Program)(ops:Array Oper)(Q:Exit->Act->World->Prop)(S:World->Prop)(L:Nat):Nat->Array Bool->Act->World->Prop
 | 0,l,a,w=>Region.ready .any ops l=[]/\Q .normal a w
 | f+1,l,a,w=>(Region.ready .any ops l=[]->Q .normal a w) /\
   ∀ i∈Region.ready .any ops l,wpOp P ops Q i (fun a' w'=>(i≠L->S w')/\wpAnyL P ops Q S L f (l.setIfInBounds i true) a' w') a w
theorem wpAnyL_any:∀ (f:Nat)(l:Array Bool)(a:Act)(w:World),wpAnyL P ops Q S L f l a w->wpAny P .any ops Q f l a w
 | 0,_,_,_,h=>h
 | f+1,_,_,_,h=>⟨h.1,fun i hi=>wpOp_mono (fun a' w' k=>wpAnyL_any f _ a' w' k.2) (h.2 i hi)⟩
theorem wpAnyL_done {l:Array Bool} {a:Act} {w:World} (hr:Region.ready .any ops l=[])(h:Q .normal a w):∀ f,wpAnyL P ops Q S L f l a w
 | 0=>⟨hr,h⟩
 | _+1=>⟨fun _=>h,by rw[hr];simp⟩
theorem unlisted {l:Array Bool} {i:Nat} (h:l.getD i true=false)(k:l.getD i false=true):False:=by
 rcases Nat.lt_or_ge i l.size with h' | h'
 ·simp[h']at h k;rw[h]at k;cases k
 ·simp[Array.getElem?_eq_none h']at k
theorem wpAnyL_take {i:Nat} {oi:Oper} {v:Value} (hi:ops[i]?=some oi)(hsel:Region.noSelect ops=true)
  (hQ:∀ c a w,Q (.panic c) (Act.put a oi.dst v) w->Q (.panic c) a w) {n:Nat} (hL:ahead ops n i L=true) :
  ∀ (f:Nat) (l:Array Bool) (a:Act) (w:World),Closed ops l ->
   (∀ j oj,ops[j]?=some oj->j≠i->l.getD j true=false->(∀ e∈oj.after,Region.binds .any e=true->e.on≠i)->oi.apart ops oj=true) ->
   i∈Region.ready .any ops l->YieldsIf P ops S oi v a->S w->wpAnyL P ops Q S L f (l.setIfInBounds i true) (a.put oi.dst v) w->wpAnyL P ops Q S L (f+1) l a w:=by
 intro f;induction f with
 | zero =>
  intro l a w _ _ hr hy hS H;refine⟨fun h=>(by rw[h]at hr;cases hr),fun j hj=>?_⟩;by_cases hji:j=i
  ·subst hji;exact hy.wpOp hi hS ⟨fun _=>hS,H⟩
  ·have:=ready_mono hj hji;rw[H.1]at this;cases this
 | succ f ih =>
  intro l a w hc hfree hr hy hS H;refine⟨fun h=>(by rw[h]at hr;cases hr),fun j hj=>?_⟩;by_cases hji:j=i
  ·subst hji;exact hy.wpOp hi hS ⟨fun _=>hS,H⟩
  ·obtain⟨hjun,oj,hoj,hall⟩:=mem_ready.1 hj;have hiun:=(mem_ready.1 hr).1
   have hjL:j≠L:=by
    intro e;subst e;exact unlisted hiun (ahead_listed hc n i j hL fun o ho e he hb=>by rw[hoj]at ho;cases ho;exact hall e he hb)
   have hnot:∀ e∈oj.after,Region.binds .any e=true->e.on≠i:=fun e he hb heq=>unlisted hiun (heq▸hall e he hb);have h2:=wpOp_putIf hoj (hfree j oj hoj hji hjun hnot) (fun cs b=>Region.noSelect_spec hsel i oi cs b hi) (fun cs b=>Region.noSelect_spec hsel j oj cs b hoj) hQ hy (H.2 j (ready_mono hj hji));refine wpOp_mono (fun a' w' k=>⟨k.2.1,ih (l.setIfInBounds j true) a' w' (hc.set hj) (fun m om hom hmi hun hno=>?_) (ready_mono hr (Ne.symm hji)) k.1 (k.2.1 hjL) ?_⟩) h2
   ·refine hfree m om hom hmi ?_ hno;by_cases hjm:j=m
    ·exact hjm▸hjun
    ·rwa[getD_set_ne true hjm]at hun
   ·rw[Array.setIfInBounds_comm _ _ hji];exact k.2.2
def WalkL (P:Program)(ops:Array Oper)(Q:Exit->Act->World->Prop)(S:World->Prop)(L:Nat):Nat->Array Bool->Act->World->Prop
 | 0,l,a,w=>Region.ready .any ops l=[]/\Q .normal a w
 | f+1,l,a,w=>(Region.ready .any ops l=[]/\Q .normal a w) \/
   (∃ i o v,ops[i]?=some o/\Region.free .any ops l i=true/\(Region.ready .any ops l).contains i=true/\ahead ops ops.size i L=true/\YieldsIf P ops S o v a/\WalkL P ops Q S L f (l.setIfInBounds i true) (a.put o.dst v) w) \/
   (Region.ready .any ops l≠[]/\∀ i∈Region.ready .any ops l,∃ o,ops[i]?=some o/\∀ K':Act->World->Prop,Shut (∀ a' w',S w'->WalkL P ops Q S L f (l.setIfInBounds i true) a' w'->K' a' w') ->
    if Region.wanted o (yielded ops a.tmps)=true then Oper.wp P o a w K' Q else K' (a.put o.dst undef) w) \/
   (Region.ready .any ops l=[L]/\Region.ready .any ops (l.setIfInBounds L true)=[]/\∃ o,ops[L]?=some o/\Region.wanted o (yielded ops a.tmps)=true/\∀ K':Act->World->Prop,Shut (∀ a' w',Q .normal a' w'->K' a' w')->Oper.wp P o a w K' Q)
theorem walkL_sound (hns:Region.noSelect ops=true)(hQ:∀ c a d v w,Q (.panic c) (Act.put a d v) w->Q (.panic c) a w) :
  ∀ (f:Nat) (l:Array Bool) (a:Act) (w:World),Closed ops l->S w->WalkL P ops Q S L f l a w->wpAnyL P ops Q S L f l a w
 | 0,_,_,_,_,_,h=>h
 | f+1,l,a,w,hc,hs,h=>by
  rcases h with⟨h1,h2⟩ | ⟨i,o,v,ho,hf,hr,hL,hy,h⟩ | ⟨hne,h⟩ | ⟨h1,h2,o,ho,hw,h⟩
  ·exact wpAnyL_done h1 h2 _
  ·exact wpAnyL_take ho hns (fun c a w=>hQ c a _ _ w) hL f l a w hc (Region.free_spec ho hf) (by simpa using hr) hy hs (walkL_sound hns hQ f _ _ w (hc.set (by simpa using hr)) hs h)
  ·refine⟨fun e=>absurd e hne,fun i hi=>?_⟩;obtain⟨o,ho,hst⟩:=h i hi;exact wpOp_step ho (fun K' hK=>hst K' (fun a' w' he hw=>hK a' w' ⟨fun _=>he,walkL_sound hns hQ f _ a' w' (hc.set hi) he hw⟩))
  ·refine⟨fun e=>(by rw[e]at h1;exact absurd h1.symm (List.cons_ne_nil _ _)),fun i hi=>?_⟩;rw[h1]at hi;obtain rfl:i=L:=by simpa using hi
   exact wpOp_step ho (fun K' hK=>by rw[if_pos hw];exact h K' (fun a' w' hq=>hK a' w' ⟨fun e=>absurd rfl e,wpAnyL_done h2 hq _⟩))
theorem region_walkL {id:Nat} {a:Act} {w:World} (L:Nat)(S:World->Prop)(hS:S w.drew)(hm:P.follows .mixedOrders=true)(hns:Region.noSelect ops=true)(hQ:∀ c a d v w,Q (.panic c) (Act.put a d v) w->Q (.panic c) a w)
  (h:WalkL P ops Q S L ops.size (Array.replicate ops.size false) a w.drew):(Code.region id ops true).wp P Q a w :=
 wp_region_any hm (wpAnyL_any _ _ _ _ (walkL_sound hns hQ _ _ a w.drew (Closed.start _ _) hS h))
theorem WalkL.take {f:Nat} {l:Array Bool} {a:Act} {w:World} (i:Nat)(o:Oper)(v:Value)(ho:ops[i]?=some o)(hf:Region.free .any ops l i=true)(hr:(Region.ready .any ops l).contains i=true)(hL:ahead ops ops.size i L=true)
  (hw:Region.wanted o (yielded ops a.tmps)=true) (hy:∀ W,S W->(execOp a.eval o).run P W = .ok (.value v) W) (h:WalkL P ops Q S L f (l.setIfInBounds i true) (a.put o.dst v) w):WalkL P ops Q S L (f+1) l a w :=
 .inr (.inl ⟨i,o,v,ho,hf,hr,hL,.inl ⟨hw,hy⟩,h⟩)
def TkL (P:Program)(ops:Array Oper)(Q:Exit->Act->World->Prop)(S:World->Prop)(L:Nat):List Nat->Nat->Array Bool->Act->World->Prop
 | [],f,l,a,w=>WalkL P ops Q S L f l a w
 | i::is,f,l,a,w=>∃ g,f=g+1/\∃ o v,ops[i]?=some o/\Region.free .any ops l i=true/\(Region.ready .any ops l).contains i=true/\ahead ops ops.size i L=true/\Region.wanted o (yielded ops a.tmps)=true/\(∀ W,S W->(execOp a.eval o).run P W = .ok (.value v) W)/\TkL P ops Q S L is g (l.setIfInBounds i true) (a.put o.dst v) w
theorem WalkL.tk (is:List Nat):∀ {f:Nat} {l:Array Bool} {a:Act} {w:World},TkL P ops Q S L is f l a w->WalkL P ops Q S L f l a w:=by
 induction is with
 | nil=>exact fun h=>h
 | cons i is ih =>
  rintro f l a w ⟨g,rfl,o,v,ho,hf,hr,hL,hw,hy,h⟩;exact WalkL.take i o v ho hf hr hL hw hy (ih h)
theorem TkL.c {f:Nat} {l:Array Bool} {a:Act} {w:World} {i:Nat} {is:List Nat} (o:Oper)(v:Value)(ho:ops[i]?=some o)(hf:Region.free .any ops l i=true)(hr:(Region.ready .any ops l).contains i=true)(hL:ahead ops ops.size i L=true)
  (hw:Region.wanted o (yielded ops a.tmps)=true) (hy:∀ W,S W->(execOp a.eval o).run P W = .ok (.value v) W) (h:TkL P ops Q S L is f (l.setIfInBounds i true) (a.put o.dst v) w):TkL P ops Q S L (i::is) (f+1) l a w :=
 ⟨f,rfl,o,v,ho,hf,hr,hL,hw,hy,h⟩
theorem TkL.n {f:Nat} {l:Array Bool} {a:Act} {w:World} (h:WalkL P ops Q S L f l a w):TkL P ops Q S L [] f l a w:=h
def MadeL (P:Program)(ops:Array Oper)(Q:Exit->Act->World->Prop)(S:World->Prop)(L f:Nat)(l:Array Bool)(a:Act)(w:World)(i:Nat):Prop :=
 ∃ o,ops[i]?=some o/\Region.wanted o (yielded ops a.tmps)=true/\∀ K':Act->World->Prop,Shut (∀ a' w',S w'->WalkL P ops Q S L f (l.setIfInBounds i true) a' w'->K' a' w')->Oper.wp P o a w K' Q
theorem WalkL.one {f:Nat} {l:Array Bool} {a:Act} {w:World} (i:Nat)(hr:Region.ready .any ops l=[i])(h:MadeL P ops Q S L f l a w i):WalkL P ops Q S L (f+1) l a w:=by
 refine .inr (.inr (.inl ⟨by rw[hr];simp,fun j hj=>?_⟩));rw[hr]at hj;obtain rfl:j=i:=by simpa using hj
 obtain⟨o,ho,hw,h⟩:=h;exact⟨o,ho,fun K hK=>by rw[if_pos hw];exact h K hK⟩
theorem WalkL.last {f:Nat} {l:Array Bool} {a:Act} {w:World} (hr:Region.ready .any ops l=[L])(hr':Region.ready .any ops (l.setIfInBounds L true)=[])
  (h:∃ o,ops[L]?=some o/\Region.wanted o (yielded ops a.tmps)=true/\∀ K':Act->World->Prop,Shut (∀ a' w',Q .normal a' w'->K' a' w')->Oper.wp P o a w K' Q):WalkL P ops Q S L (f+1) l a w :=
 .inr (.inr (.inr ⟨hr,hr',h⟩))
end
theorem l! {P : Program} {ops : Array Oper} {Q : Exit -> Act -> World -> Prop} {S : World -> Prop} {L : Nat} {f : Nat} {l : Array Bool} {a : Act} {w : World} {i : Nat} {is : List Nat} {o : Oper} {v : Value} {G : Prop} (h : G) (ho : ops[i]? = some o := by simp only[gA,gS,gZ];rfl) (hf : Region.free .any ops l i = true := by kernel_rfl) (hr : (Region.ready .any ops l).contains i = true := by kernel_rfl) (hL : ahead ops ops.size i L = true := by kernel_rfl) (hw : Region.wanted o (yielded ops a.tmps) = true := by rfl) (hy : ∀ W,S W->(execOp a.eval o).run P W=.ok (.value v) W := by intro W hW;go_simp;try with_reducible rfl) (hG : TkL P ops Q S L is f (l.setIfInBounds i true) (a.put o.dst v) w = G := by simp only[Act.put,pA,pZ,pS];rfl) : TkL P ops Q S L (i :: is) (f + 1) l a w := ⟨f, rfl, o, v, ho, hf, hr, hL, hw, hy, Eq.mpr hG h⟩
theorem oL! {P : Program} {ops : Array Oper} {Q : Exit -> Act -> World -> Prop} {S : World -> Prop} {L : Nat} {f : Nat} {l : Array Bool} {a : Act} {w : World} (i : Nat) (h : MadeL P ops Q S L f l a w i) (hr : Region.ready .any ops l = [i] := by kernel_rfl) : WalkL P ops Q S L (f + 1) l a w := WalkL.one i hr h
end Go.Proofs.YtlhaghoajpglaaaGreat
namespace Go.Proofs.YtlhaghoajpglaaaGreat
open Go Go.RowKit Go.Maps
def M3 (b1 b2 b3 x:Nat):Prop:=x=b1\/x=b2\/x=b3
def tyL (ts:List TyS):List (ByteArray × Bool):=ts.map fun t=>(t.name,true)
theorem tyL_take {l:List TyS} {i:Nat} (hi:i<l.length):tyL (l.take (i+1))=tyL (l.take i)++[(l[i].name,true)]:=by
 rw[List.take_succ_eq_append_getElem hi];simp only[tyL,List.map_append,List.map_cons,List.map_nil]
theorem refsOf_le (ts:List TyS)(i:Nat):(refsOf (ts.take i)).length<=(refsOf ts).length:=by
 conv=>rhs;rw[<- List.take_append_drop i ts,refsOf_append,List.length_append]
 omega
theorem tyL_fresh {ts:List TyS} (h:uniqOk ts=true) {i:Nat} (hi:i<ts.length):∀ p∈tyL (ts.take i),p.1≠ts[i].name:=by
 intro p hp e;obtain⟨t,ht,rfl⟩:=List.mem_map.1 hp;obtain⟨m,hm,rfl⟩:=List.getElem_of_mem ht;rw[List.length_take]at hm;rw[List.getElem_take]at e;exact(uniq_at h hi).1 m (by omega) hi (by omega) e
theorem ref_fresh {ts:List TyS} (h:uniqOk ts=true) {i:Nat} (hi:i<ts.length):∀ j (hj:j<ts[i].rels.length),lookA (refsOf (ts.take i)++relsOf ts[i].name (ts[i].rels.take j)) ⟨ts[i].name,ts[i].rels[j].1⟩=none:=by
 intro j hj;refine look_none_iff.2 fun p hp e=>?_;rcases List.mem_append.1 hp with hp | hp
 ·obtain⟨t,ht,hp⟩:=List.mem_flatMap.1 hp;obtain⟨r,hr,rfl⟩:=List.mem_map.1 hp;obtain⟨m,hm,rfl⟩:=List.getElem_of_mem ht;rw[List.length_take]at hm;injection e with e1 e2
  rw[List.getElem_take]at e1;exact(uniq_at h hi).1 m (by omega) hi (by omega) e1
 ·obtain⟨r,hr,rfl⟩:=List.mem_map.1 hp;injection e with e1 e2
  obtain⟨m,hm,rfl⟩:=List.getElem_of_mem hr;rw[List.length_take]at hm;rw[List.getElem_take]at e2;exact fresh_of (uniq_at h hi).2 j m (by omega) hj (by omega) e2
theorem Same.sub {S:Nat->Prop} {B:Nat} (hS:∀ x,S x->x<B) {a b:World} (h:Below B a b):Same S a b:=fun x hx=>h.block x (hS x hx)
structure BkO (S:Nat->Prop)(B:Nat)(w:World)(b1 b2 b3:Nat)(ts:List TyS):Prop where
 R:BkR S w b1 (refsOf ts)
 T:Mp Tryz.prog 9 Value.string bV w b2 (tyL ts)
 W:BkW w B b3 (refsOf ts)
 lo:B<=b1/\B<=b2/\B<=b3/\b1≠b2/\b1≠b3/\b2≠b3
theorem open_any {S:Nat->Prop} (ts:List TyS)(tv:Value)(w:World)(hS:∀ x,S x->x<w.heap.size)(h:TysAt S w ts tv)(hok:∀ t∈ts,t.Ok)(hu:uniqOk ts=true)(hsz:(refsOf ts).length<=1099511627776) :
  Calls Tryz.prog 131 #[.agg #[tv]] w fun e w'=>∃ b1 b2 b3,e = .returned (.agg #[.map (some b1),.map (some b2),.map (some b3)])/\BkO S w.heap.size w' b1 b2 b3 ts/\Below w.heap.size w w':=by
 obtain⟨ao,c,rfl,hlc,hcm,hcell⟩:=h.rows;have HC:=h! hcell;have HOK:=h! hok;have HU:=h! hu;have HSZ:=h! hsz;have hs0:=(Blk.made w #[.slice ao ts.length c] 26).cells;have hmm:=@run_makeMap Tryz.prog;clear h hcell hok hu hsz;go_enter Tryz.func131,Tryz.ntmps131
 go_wp2_with fail
 obtain⟨w1,hw1⟩:∃ x,x=w.alloc (.cells #[.slice ao ts.length c] 26):=⟨_,rfl⟩;rw[<- hw1];obtain⟨w2,hw2⟩:∃ x,x=w1.alloc (.cells #[.map none,.map none,.map none] 229):=⟨_,rfl⟩;rw[<- hw2];obtain⟨w3,hw3⟩:∃ x,x=w2.alloc (.map #[] 0):=⟨_,rfl⟩;rw[<- hw3];obtain⟨w4,hw4⟩:∃ x,x=w3.alloc (.map #[] 0):=⟨_,rfl⟩;rw[<- hw4];obtain⟨w5,hw5⟩:∃ x,x=w4.alloc (.map #[] 0):=⟨_,rfl⟩;rw[<- hw5];obtain⟨bc,hbc⟩:∃ x,x=w.heap.size+1+1+1+1+1:=⟨_,rfl⟩;obtain⟨b3,hb3⟩:∃ x,x=w.heap.size+1+1+1+1:=⟨_,rfl⟩;obtain⟨b2,hb2⟩:∃ x,x=w.heap.size+1+1+1:=⟨_,rfl⟩;obtain⟨b1,hb1⟩:∃ x,x=w.heap.size+1+1:=⟨_,rfl⟩;obtain⟨rc,hrc⟩:∃ x,x=w.heap.size+1:=⟨_,rfl⟩;rw[<- hbc,<- hb3,<- hb2,<- hb1,<- hrc];obtain⟨w6,hw6⟩:∃ x,x=w5.alloc (.cells #[.map (some b1),.map (some b2),.map (some b3)] 229):=⟨_,rfl⟩;rw[<- hw6];have e1:w1.heap.size=w.heap.size+1:=by rw[hw1];simp
 have e2:w2.heap.size=w.heap.size+1+1:=by rw[hw2];simp[e1]
 have e3:w3.heap.size=w.heap.size+1+1+1:=by rw[hw3];simp[e2]
 have e4:w4.heap.size=w.heap.size+1+1+1+1:=by rw[hw4];simp[e3]
 have e5:w5.heap.size=w.heap.size+1+1+1+1+1:=by rw[hw5];simp[e4]
 have x01:Ext w w1:=by rw[hw1];exact Ext.alloc _ _
 have x12:Ext w1 w2:=by rw[hw2];exact Ext.alloc _ _
 have x23:Ext w2 w3:=by rw[hw3];exact Ext.alloc _ _
 have x34:Ext w3 w4:=by rw[hw4];exact Ext.alloc _ _
 have x45:Ext w4 w5:=by rw[hw5];exact Ext.alloc _ _
 have x56:Ext w5 w6:=by rw[hw6];exact Ext.alloc _ _
 have hRC:Blk w2 rc #[.map none,.map none,.map none] 229:=by rw[hrc,hw2,<- e1];exact Blk.made _ _ _
 have hM1:Mp Tryz.prog 121 r2V rvV w3 b1 []:=by rw[hb1,hw3,<- e2];exact Mp.made _
 have hM2:Mp Tryz.prog 9 Value.string bV w4 b2 []:=by rw[hb2,hw4,<- e3];exact Mp.made _
 have hM3:Mp Tryz.prog 9 Value.string wvV w5 b3 []:=by rw[hb3,hw5,<- e4];exact Mp.made _
 have hBC:Blk w6 bc #[.map (some b1),.map (some b2),.map (some b3)] 229:=by rw[hbc,hw6,<- e5];exact Blk.made _ _ _
 have HLO:=h! (show w.heap.size<=rc from by omega);have HD:=h! (show w.heap.size<=b1/\w.heap.size<=b2/\w.heap.size<=b3/\b1≠b2/\b1≠b3/\b2≠b3/\¬ M3 b1 b2 b3 rc/\¬ M3 b1 b2 b3 bc/\rc≠bc from by unfold M3;omega);have HRC:=h! (hRC.below (x23.trans (x34.trans (x45.trans x56))));have HBC:=h! hBC;have HR:=h! (show BkR S w6 b1 []from⟨[],hM1.below (x34.trans (x45.trans x56)),rfl,by simp⟩);have HM:=h! (hM2.below (x45.trans x56));have HW:=h! (show BkW w6 w.heap.size b3 []from⟨[],hM3.below x56,⟨by simp,by simp⟩,fun n=>rfl⟩);have HX:=h! (show Below w.heap.size w w6 from x01.trans (x12.trans (x23.trans (x34.trans (x45.trans x56)))));clear hRC hM1 hM2 hM3 hBC x01 x12 x23 x34 x45 x56 e1 e2 e3 e4 e5 hw1 hw2 hw3 hw4 hw5 hw6 hbc hb1 hb2 hb3 hrc hs0;go_loopw [18] (fun ii wr=>∃ i:Nat,i<=ts.length/\ii = .int .i64 i/\BkR S wr b1 (refsOf (ts.take i))/\Mp Tryz.prog 9 Value.string bV wr b2 (tyL (ts.take i))/\BkW wr w.heap.size b3 (refsOf (ts.take i))/\QKept 9 (M3 b1 b2 b3) w.heap.size w6 wr) (fun ii _=>ts.length-(intOf ii).toNat)
 case atStart=>exact⟨0,by omega,rfl,HR.out,HM.out,HW.out,Kept.refl _ _⟩
 case round =>
  obtain⟨i,hi,rfl,hr,hm,hw,hq⟩:=hrel;have HR1:=h! hr;have HM1:=h! hm;have HW1:=h! hw;have HQ1:=h! hq;clear HR HM HW hr hm hw;by_cases hlt:i<ts.length
  ·have hbel:Below w.heap.size w wr:=HX.out.trans hq.below;obtain⟨bb,off,rsv,hbo,hb,c0,c1,hat2⟩:=HC.out i hlt;cases hbo;have d0:=(hbel.cell (p:=⟨bb,off+i*2,none⟩) (hS _ hb)).trans c0;have d1:=(hbel.cell (p:=⟨bb,off+i*2+1,none⟩) (hS _ hb)).trans c1;have HUN:=h! (uniq_at HU.out hlt);have hokt:=HOK.out _ (List.getElem_mem hlt);have HP1:=h! (refsOf_take hlt);have HT1:=h! (tyL_take hlt);have HNF:=h! (ref_fresh HU.out hlt);have HLE:=h! (refsOf_le ts (i+1));have HI1:=h! hlt;have HTF:=h! (tyL_fresh HU.out hlt);generalize ts[i]=t at *;obtain⟨tn,rels⟩:=t;dsimp only at *;obtain⟨hon,hor⟩:=hokt;dsimp only at hon hor;have HKT:=h! (show tn.size<=maxLen from by unfold maxLen;omega);have HOR:=h! hor;obtain⟨ao2,c2',rfl,hlc3,hcm3,hcell3⟩:=hat2.rows;have HC3:=h! hcell3;obtain⟨rsv,hrsv⟩:∃ v,v=Value.slice ao2 rels.length c2':=⟨_,rfl⟩;have hea:Ext wr (wr.alloc (.cells #[.string tn,.slice ao2 rels.length c2'] 176)):=Ext.alloc _ _;have HTB:=h! (Blk.made wr #[.string tn,.slice ao2 rels.length c2'] 176);have hta:=HTB.out.cells;have HBCA:=h! ((HQ1.out.box HBC.out (by decide) HD.out.2.2.2.2.2.2.2.1).below hea);have hbca:=HBCA.out.cells;have HSA:=h! (show w.heap.size<=(wr.alloc (.cells #[.string tn,.slice ao2 rels.length c2'] 176)).heap.size from Nat.le_trans hbel.size hea.size);have HQA:=h! (QKept.next hq (QKept.of (e:=9) (M:=M3 b1 b2 b3) hea hbel.size))
   have HNT:=h! (show ¬ M3 b1 b2 b3 wr.heap.size from fun h=>by
    have h1:=HR1.out.lt;have h2:=HM1.out.lt;have h3:=HW1.out.lt;rcases h with h | h | h <;> omega)
   have HRA:=h! (HR1.out.same (hea.block _ HR1.out.lt) (Same.sub hS (hea.mono hbel.size)));have HWA:=h! (HW1.out.up hea);have hMA:=HM1.out.below hea;have hlk:=hMA.look strK strV_inj Tryz.underlying226 (Tryz.zeroValue4 _) false (str_key tn HKT.out);rw[look_none_iff.2 HTF.out]at hlk;obtain⟨wT,hst,hMT,hTT⟩:=hMA.store strK strV_inj Tryz.underlying226 (str_key tn HKT.out) true;rw[put_miss HTF.out]at hMT;unfold lookV at hlk;unfold bV at hlk hst;have HQT:=h! (QKept.next HQA.out (QKept.turned hTT (.inr (.inl rfl)) HD.out.2.1));have HTBT:=h! (hTT.kept.blk HTB.out (fun e=>HNT.out (.inr (.inl e))));have htt:=HTBT.out.cells;have HBCT:=h! (hTT.kept.blk HBCA.out (fun e=>HD.out.2.2.2.2.2.2.2.1 (.inr (.inl e))));have HRT:=h! (HRA.out.same (hTT.kept.block _ HD.out.2.2.2.1) (Same.sub hS (hTT.below HD.out.2.1)));have HWT:=h! (HWA.out.turned hTT (fun e=>HD.out.2.2.2.2.2.1 e.symm) hMA.notCells);have HMT:=h! hMT;clear hMT hTT hMA c0 c1 hat2 hcell3 hbel hq hor hon;go_wp2_with fail
   clear hlk hst hta hbca d0 d1 htt hlt hea;generalize wr.heap.size=tb at *;go_loopw [34] (fun jj wr=>∃ j:Nat,j<=rels.length/\jj = .int .i64 j/\BkR S wr b1 (refsOf (ts.take i)++relsOf tn (rels.take j))/\Mp Tryz.prog 9 Value.string bV wr b2 (tyL (ts.take i)++[(tn,true)])/\BkW wr w.heap.size b3 (refsOf (ts.take i)++relsOf tn (rels.take j))/\QKept 9 (M3 b1 b2 b3) w.heap.size wT wr) (fun jj _=>rels.length-(intOf jj).toNat)
   case atStart=>exact⟨0,by omega,rfl,by rw[List.take_zero];simpa [relsOf] using HRT.out,HMT.out,by rw[List.take_zero];simpa [relsOf] using HWT.out,Kept.refl _ _⟩
   case round =>
    obtain⟨j,hj,rfl,hr,hm,hw,hqj⟩:=hrel;have HR2:=h! hr;have HM2:=h! hm;have HW2:=h! hw;have HQ2:=h! hqj;clear HRT HMT HWT hr hm hw;by_cases hlt:j<rels.length
    ·have hbel:Below w.heap.size w wr:=HX.out.trans (HQT.out.below.trans hqj.below);obtain⟨bb,off,pv,hbo,hb,c0,c1,c2,c3,c4,hat2⟩:=HC3.out j hlt;cases hbo;have d0:=(hbel.cell (p:=⟨bb,off+j*5,none⟩) (hS _ hb)).trans c0;have d1:=(hbel.cell (p:=⟨bb,off+j*5+1,none⟩) (hS _ hb)).trans c1;have d2:=(hbel.cell (p:=⟨bb,off+j*5+2,none⟩) (hS _ hb)).trans c2;have d3:=(hbel.cell (p:=⟨bb,off+j*5+3,none⟩) (hS _ hb)).trans c3;have d4:=(hbel.cell (p:=⟨bb,off+j*5+4,none⟩) (hS _ hb)).trans c4;obtain⟨ao3,c3',rfl,-⟩:=hat2.rows;have hokr:=HOR.out _ (List.getElem_mem hlt);have HPJ:=h! (relsOf_take (n:=tn) hlt);have HNJ:=h! (HNF.out j hlt);have HJ1:=h! hlt
     have HWL0:=h! (show(refsOf (ts.take i)++relsOf tn (rels.take j)).length<=1099511627776 from by
      have h1:=HLE.out;have h2:=HSZ.out;rw[HP1.out,List.length_append]at h1;have h3:(relsOf tn (rels.take j)).length<=(relsOf tn rels).length:=by simp only[relsOf,List.length_map,List.length_take];omega
      rw[List.length_append];omega)
     generalize rels[j]=x at *;obtain⟨xn,p⟩:=x;dsimp only at *;have HKX:=h! (show xn.size<=maxLen from by have:=hokr.1;unfold maxLen;omega)
     have HWL:=h! (show(whereP (refsOf (ts.take i)++relsOf tn (rels.take j)) xn).length<=1099511627776 from by
      have:=HWL0.out;unfold whereP;rw[List.length_map];exact Nat.le_trans (List.length_filter_le _ _) this)
     have HAT:=h! (hat2.same (Same.sub hS hbel));clear c0 c1 c2 c3 c4 hat2 hokr hb;obtain⟨wa,hwa⟩:∃ x,x=wr.alloc (.cells #[.string xn,.int .i64 p.k,.string p.a,.string p.b,.slice ao3 p.ps.length c3'] 181):=⟨_,rfl⟩;obtain⟨wb,hwb⟩:∃ x,x=wa.alloc (.cells #[.string tn,.string xn] 121):=⟨_,rfl⟩;obtain⟨wc,hwc⟩:∃ x,x=wb.alloc (.cells #[.int .i64 0,.string ByteArray.empty,.string ByteArray.empty,.slice none 0 0] 106):=⟨_,rfl⟩;have xra:Ext wr wa:=by rw[hwa];exact Ext.alloc _ _
     have xab:Ext wa wb:=by rw[hwb];exact Ext.alloc _ _
     have xbc:Ext wb wc:=by rw[hwc];exact Ext.alloc _ _
     have ea:wa.heap.size=wr.heap.size+1:=by rw[hwa];simp
     have HRB0:=h! (show Blk wa wr.heap.size #[.string xn,.int .i64 p.k,.string p.a,.string p.b,.slice ao3 p.ps.length c3'] 181 from by rw[hwa];exact Blk.made _ _ _);have HFB0:=h! (show Blk wb (wr.heap.size+1) #[.string tn,.string xn] 121 from by rw[hwb,<- ea];exact Blk.made _ _ _);have HTBR:=h! (HQ2.out.box HTBT.out (by decide) HNT.out);have HBCR:=h! (HQ2.out.box HBCT.out (by decide) HD.out.2.2.2.2.2.2.2.1);have t1:=(HTBR.out.below xra).cells;have t2:=(HTBR.out.below (xra.trans xab)).cells;have k2:=(HBCR.out.below (xra.trans xab)).cells;have k3:=(HBCR.out.below (xra.trans (xab.trans xbc))).cells;have r1:=HRB0.out.cells;have r2:=(HRB0.out.below xab).cells;have r3:=(HRB0.out.below (xab.trans xbc)).cells;have f2:=HFB0.out.cells;have f3:=(HFB0.out.below xbc).cells;have hRb:=HR2.out.same ((xra.trans xab).block _ HR2.out.lt) (Same.sub hS ((xra.trans xab).mono hbel.size));obtain⟨z,hlk,-,-,hz⟩:=hRb.look ⟨tn,xn⟩ ⟨HKT.out,HKX.out⟩;rw[HNJ.out]at hlk;rw[hz HNJ.out]at hlk;unfold rvV rV r2V at hlk;dsimp only[RT.k,RT.a,RT.b,Option.isSome]at hlk;have hRc:=HR2.out.same ((xra.trans (xab.trans xbc)).block _ HR2.out.lt) (Same.sub hS ((xra.trans (xab.trans xbc)).mono hbel.size));obtain⟨w4,hst,hR4,hT4⟩:=hRc.store (k:=⟨tn,xn⟩) ⟨HKT.out,HKX.out⟩ (HAT.out.same (Same.sub hS ((xra.trans (xab.trans xbc)).mono hbel.size))) (fun x hx e=>by have:=HD.out.1;have:=hS x hx;omega) HNJ.out;unfold rV r2V at hst;dsimp only at hst;have hsc:w.heap.size<=wc.heap.size:=Nat.le_trans hbel.size (xra.trans (xab.trans xbc)).size;have HS4:=h! (show w.heap.size<=w4.heap.size from by rw[hT4.size];exact hsc);have HQ4:=h! (QKept.next HQ2.out (QKept.next (QKept.of (e:=9) (M:=M3 b1 b2 b3) (xra.trans (xab.trans xbc)) hbel.size) (QKept.turned hT4 (.inl rfl) HD.out.1)))
     have HNR:=h! (show ¬ M3 b1 b2 b3 wr.heap.size from fun h=>by
      have h1:=HR2.out.lt;have h2:=HM2.out.lt;have h3:=HW2.out.lt;rcases h with h | h | h <;> omega)
     have HBC4:=h! (HQ4.out.box HBCT.out (by decide) HD.out.2.2.2.2.2.2.2.1);have HTB4:=h! (HQ4.out.box HTBT.out (by decide) HNT.out);have HRB4:=h! (hT4.kept.blk (HRB0.out.below (xab.trans xbc)) (fun e=>HNR.out (.inl e)));have HBW4:=h! ((HW2.out.up (xra.trans (xab.trans xbc))).turned hT4 (fun e=>HD.out.2.2.2.2.1 e.symm) hRc.notCells);have HR4:=h! hR4;have HM4:=h! ((HM2.out.below (xra.trans (xab.trans xbc))).kept hT4.kept (fun e=>HD.out.2.2.2.1 e.symm));have t4:=HTB4.out.cells;have r4:=HRB4.out.cells;have k4:=HBC4.out.cells;clear hRb hRc hR4 hT4 hsc hz hqj HAT ea xra xab xbc;subst hwc hwb hwa;go_wp2_with fail
     clear t1 t2 k2 k3 r1 r2 r3 f2 f3 hlk hst d0 d1 d2 d3 d4;generalize wr.heap.size=rb at *;obtain⟨wd,hwd⟩:∃ wd,wd=w4.drew:=⟨_,rfl⟩;have hbcd:Blk wd bc #[.map (some b1),.map (some b2),.map (some b3)] 229:=by rw[hwd];exact HBC4.out.drew
     have htbd:=(show Blk w4.drew tb _ _ from HTB4.out.drew);rw[<- hwd]at htbd;have hrbd:Blk wd rb #[.string xn,.int .i64 p.k,.string p.a,.string p.b,.slice ao3 p.ps.length c3'] 181:=by rw[hwd];exact HRB4.out.drew
     have hbwd:=HBW4.out.up (show Below w4.heap.size w4 wd from by rw[hwd];exact(Below.refl _ _).drew);have hq4d:QKept 9 (· = b3) w.heap.size w4 wd:=by rw[hwd];exact(Kept.refl _ _).drew
     have hszd:w.heap.size<=wd.heap.size:=by rw[hwd];exact HS4.out
     obtain⟨v,-,hov,lw,hM,hR,hL,hl⟩:=hbwd.look xn HKX.out;have hnb3:∀ g,v.ownBlock=some g->g≠b3:=hov.notMap hM.notCells;have hnbc:∀ g,v.ownBlock=some g->g≠bc:=hov.notBlk hbcd (by decide);have hntb:∀ g,v.ownBlock=some g->g≠tb:=hov.notBlk htbd (by decide);have hnrb:∀ g,v.ownBlock=some g->g≠rb:=hov.notBlk hrbd (by decide);refine region_walkL 13 (Kept (fun x=>x<wd.heap.size/\v.ownBlock≠some x) wd) (by rw[<- hwd];exact Kept.refl _ _) (by kernel_rfl) (by kernel_rfl) (fun _ _ d _ _ h=>by cases d <;> exact h) ?_;rw[<- hwd];clear hwd;have h1:∀ W,Kept (fun x=>x<wd.heap.size/\v.ownBlock≠some x) wd W->∀ i,W.cell? ⟨bc,i,none⟩=(#[.map (some b1),.map (some b2),.map (some b3)]:Array Value)[i]?:=fun W h=>(h.blk hbcd ⟨hbcd.lt,fun e=>hnbc _ e rfl⟩).cells;have h2:∀ W,Kept (fun x=>x<wd.heap.size/\v.ownBlock≠some x) wd W->W.cell? ⟨tb,0,none⟩=some (.string tn):=fun W h=>(h.blk htbd ⟨htbd.lt,fun e=>hntb _ e rfl⟩).cells 0;have h3:∀ W,Kept (fun x=>x<wd.heap.size/\v.ownBlock≠some x) wd W->∀ i,W.cell? ⟨rb,i,none⟩=(#[.string xn,.int .i64 p.k,.string p.a,.string p.b,.slice ao3 p.ps.length c3']:Array Value)[i]?:=fun W h=>(h.blk hrbd ⟨hrbd.lt,fun e=>hnrb _ e rfl⟩).cells
     have h4:∀ W,Kept (fun x=>x<wd.heap.size/\v.ownBlock≠some x) wd W->(Instr.lookup 227 (.map (some b3)) (.string xn) false).run Tryz.prog W = .ok v W:=fun W h=>by
      have:=(hM.same (h.block b3 ⟨hM.lt,fun e=>hnb3 _ e rfl⟩)).look strK strV_inj Tryz.underlying227 (Tryz.zeroValue169 W) false (str_key xn HKX.out);rw[this];rcases hl with hl | ⟨hl,_,rfl⟩ <;> rw[hl] <;> rfl
     (refine WalkL.tk [0,1,2,3,4,5,6,7,8,9,10] ?_;(iterate 11 (refine l! ?_));refine TkL.n ?_)
     clear h1 h2 h3 h4;refine oL! 11 ?_;refine b! ?_;intro K hK;go_simp;have hE1:Below wd.heap.size wd (wd.alloc (.cells #[.string tn] 9)):=(Below.refl _ _).alloc (Nat.le_refl _) _;refine hK.out _ _ ((Kept.refl _ _).alloc (fun x hx=>hx.1) _) ?_;clear hK;refine oL! 12 ?_;refine b! ?_;intro K hK;have hlen:(whereP (refsOf (ts.take i)++relsOf tn (rels.take j)) xn).length<=1099511627776:=by have:=HWL.out;exact this
     refine wp_ownw textsT (.tmp 65) (.tmp 68) rfl rfl (hov.below hE1) (m:=1) (news:=txs [tn]) rfl rfl (fun j u hu=>?_) (txs_one _) (by rw[txs_length,txs_length];simp only[List.length_cons,List.length_nil];omega) (by rw[txs_length,txs_length];simp only[List.length_cons,List.length_nil];omega) (by simp;omega) (fun v2 w2 hown2 hw2 hg2=>?_)
     ·rw[Addr.add_lit,cell_of_row _ wd.heap.size (0+j) #[.string tn] 9 (0,0) (heap_alloc_new wd _),Nat.zero_add];simpa [txs] using hu
     have hkg:Kept (fun x=>x<wd.heap.size/\v.ownBlock≠some x) wd w2:=⟨hg2.os.trans rfl,hg2.tape.trans rfl,hg2.output.trans rfl,Nat.le_trans (by simp) hg2.size,fun x hx=>(hg2.block x (by have:=hx.1;simp;omega) (fun e=>hx.2 e.symm)).trans (Below.heap_alloc wd _ x hx.1)⟩;have hqg:QKept 9 (· = b3) w.heap.size w4 w2:=QKept.next hq4d (QKept.next (QKept.of hE1 hszd) (QKept.grown (hov.below hE1) hg2 (by simp;omega)));refine hK.out _ _ hkg ?_;clear hK;simp only[Act.put,pA,pZ,pS];rw[<- txs_append]at hown2;obtain⟨w7,hrun,hbw7,ht7⟩:=BkW.put (k:=⟨tn,xn⟩) (r:=p) hM hR hL hl hE1 hg2 hov hown2 hw2 HKX.out;refine WalkL.last (by kernel_rfl) (by kernel_rfl) ?_;refine b! ?_;intro K hK;go_simp;refine hK.out _ _ ?_;clear hK;have HW7:=h! hbw7;have HQ47:=h! (QKept.next hqg (QKept.turned ht7 rfl HD.out.2.2.1));clear hrun hbw7 ht7 hqg hkg hown2 hw2 hg2 hE1 hlen hM hR hL hl hov hnb3 hnbc hntb hnrb hbcd htbd hrbd hbwd hq4d hszd
     have HRW:=h! (show BkR S w7 b1 (refsOf (ts.take i)++relsOf tn (rels.take (j+1)))from by
      rw[HPJ.out,<- List.append_assoc];exact HR4.out.same (HQ47.out.block b1 (.inr ⟨HD.out.2.2.2.2.1,HR4.out.lt,fun cs=>HR4.out.notCells cs _ _⟩)) (Same.sub hS HQ47.out.below))
     have HMW:=h! (HM4.out.same (HQ47.out.block b2 (.inr ⟨HD.out.2.2.2.2.2.1,HM4.out.lt,fun cs=>HM4.out.notCells cs _ _⟩)))
     have HWW:=h! (show BkW w7 w.heap.size b3 (refsOf (ts.take i)++relsOf tn (rels.take (j+1)))from by
      rw[HPJ.out,<- List.append_assoc];exact HW7.out)
     have HQW:=h! (QKept.next HQ4.out (HQ47.out.mono fun x hx=>by
      rcases hx with hx | ⟨h1,h2⟩
      ·exact .inl hx
      ·exact .inr ⟨fun e=>h1 (.inr (.inr e)),h2⟩))
     have hlt2:=HJ1.out;clear t4 r4 k4;go_wp2_with fail
     go_roundw
     case rel=>exact⟨j+1,by omega,by go_num,HRW.out,HMW.out,HWW.out,HQW.out⟩
     case measure=>simp[intOf];omega
    ·obtain rfl:j=rels.length:=by omega
     have HRW:=h! (show BkR S wr b1 (refsOf (ts.take (i+1)))from by have:=HR2.out;rw[List.take_length]at this;rw[HP1.out];exact this);have HMW:=h! (show Mp Tryz.prog 9 Value.string bV wr b2 (tyL (ts.take (i+1)))from by rw[HT1.out];exact HM2.out);have HWW:=h! (show BkW wr w.heap.size b3 (refsOf (ts.take (i+1)))from by have:=HW2.out;rw[List.take_length]at this;rw[HP1.out];exact this);have HQW:=h! (QKept.next HQT.out HQ2.out);have hlt2:=HI1.out;clear hqj;go_wp2_with fail
     go_roundw
     case rel=>exact⟨i+1,by omega,by go_num,HRW.out,HMW.out,HWW.out,HQW.out⟩
     case measure=>simp[intOf];omega
  ·obtain rfl:i=ts.length:=by omega
   rw[List.take_length]at HR1 HM1 HW1;have HRC1:=h! (HQ1.out.box HRC.out (by decide) HD.out.2.2.2.2.2.2.1);have HBC1:=h! (HQ1.out.box HBC.out (by decide) HD.out.2.2.2.2.2.2.2.1);have hlo:=HX.out.trans HQ1.out.below;have hrcw:w.heap.size<=rc:=HLO.out;have hs1:=HRC1.out.set_to 0 (.map (some b1)) rfl;have hs2:=hs1.set_to 1 (.map (some b2)) rfl;have hs3:=hs2.set_to 2 (.map (some b3)) rfl;have c1:=HBC1.out.cells;have c2:=HRC1.out.cells;have f2:=HRC1.out.free;have HS3:=h! hs3
   have hne:∀ x,x≠rc->(((wr.setCell ⟨rc,0,none⟩ (.map (some b1))).setCell ⟨rc,1,none⟩ (.map (some b2))).setCell ⟨rc,2,none⟩ (.map (some b3))).heap[x]?=wr.heap[x]?:=fun x hx=>by
    rw[Below.heap_setCell _ _ _ x hx,Below.heap_setCell _ _ _ x hx,Below.heap_setCell _ _ _ x hx]
   have HNE:=h! hne;have HBE:=h! (show Below w.heap.size w (((wr.setCell ⟨rc,0,none⟩ (.map (some b1))).setCell ⟨rc,1,none⟩ (.map (some b2))).setCell ⟨rc,2,none⟩ (.map (some b3)))from((hlo.setCell hrcw _).setCell hrcw _).setCell hrcw _);clear hs1 hs2 hs3 hlo hne hq;go_wp2_with fail
   refine bodyPost_ret (results_cell_row rfl _ _ rc 229 #[.map (some b1),.map (some b2),.map (some b3)] (0,0) _ rfl HS3.out Tryz.underlying229 rfl (by kernel_rfl)) rfl ⟨b1,b2,b3,rfl,⟨HR1.out.same (HNE.out _ fun e=>HD.out.2.2.2.2.2.2.1 (.inl e.symm)) (fun x hx=>HNE.out x (by have:=hS x hx;omega)),HM1.out.same (HNE.out _ fun e=>HD.out.2.2.2.2.2.2.1 (.inr (.inl e.symm))),HW1.out.keep (HNE.out _ fun e=>HD.out.2.2.2.2.2.2.1 (.inr (.inr e.symm))) (fun x _ _ hx=>HNE.out x fun e=>by
    obtain⟨cs,hx⟩:=hx;have:=HRC1.out;rw[e,show wr.heap[rc]?=_ from HRC1.out]at hx;injection hx with hx
    injection hx with _ h2 _
    revert h2
    decide),HD.out.1,HD.out.2.1,HD.out.2.2.1,HD.out.2.2.2.1,HD.out.2.2.2.2.1,HD.out.2.2.2.2.2.1⟩,HBE.out⟩
theorem Own.mono {w:World} {B B':Nat} {e:TypeId} {sz:Nat} {v:Value} {xs:List Value} (h:Own w B e sz v xs)(hb:B'<=B):Own w B' e sz v xs:=by
 obtain⟨n,h⟩:=h;refine⟨n,h.1,?_⟩;rcases h.2 with hn | ⟨g,cap,cur,rfl,hbg,r⟩
 ·exact .inl hn
 ·exact .inr ⟨g,cap,cur,rfl,by omega,r⟩
theorem BkW.mono {w:World} {B B' b3:Nat} {P:List (R2 × RT)} (h:BkW w B b3 P)(hb:B'<=B):BkW w B' b3 P:=by
 obtain⟨lw,h1,h2,h3⟩:=h;exact⟨lw,h1,⟨fun x hx=>⟨(h2.rows x hx).1,(h2.rows x hx).2.mono hb⟩,h2.apart⟩,h3⟩
structure Bk (w:World)(b1 b2 b3:Nat)(ts:List TyS):Prop where
 R:BkR (· < w.heap.size) w b1 (refsOf ts)
 T:Mp Tryz.prog 9 Value.string bV w b2 (tyL ts)
 W:BkW w 0 b3 (refsOf ts)
theorem Bk.up {w w':World} {b1 b2 b3:Nat} {ts:List TyS} (h:Bk w b1 b2 b3 ts)(hb:Below w.heap.size w w'):Bk w' b1 b2 b3 ts:=⟨h.R.up hb,h.T.below hb,h.W.up hb⟩
theorem BkR.mono {S S':Nat->Prop} {w:World} {b1:Nat} {P:List (R2 × RT)} (h:BkR S w b1 P)(hs:∀ x,S x->S' x):BkR S' w b1 P:=by
 obtain⟨lr,h1,h2,h3⟩:=h;exact⟨lr,h1,h2,fun x hx=>(h3 x hx).mono hs⟩
theorem open_bk (ts:List TyS)(tv:Value)(w:World)(h:TysAt (· < w.heap.size) w ts tv)(hok:∀ t∈ts,t.Ok)(hu:uniqOk ts=true)(hsz:(refsOf ts).length<=1099511627776) :
  Calls Tryz.prog 131 #[.agg #[tv]] w fun e w'=>∃ b1 b2 b3,e = .returned (.agg #[.map (some b1),.map (some b2),.map (some b3)])/\Bk w' b1 b2 b3 ts/\Below w.heap.size w w':=by
 refine(open_any ts tv w (fun _ hx=>hx) h hok hu hsz).mono ?_;rintro e w' ⟨b1,b2,b3,rfl,hb,hw⟩;exact⟨b1,b2,b3,rfl,⟨hb.R.mono fun x hx=>Nat.lt_of_lt_of_le hx hw.size,hb.T,hb.W.mono (Nat.zero_le _)⟩,hw⟩
theorem texts_at {S:Nat->Prop} {w:World} {ao:Option Addr} {l:List ByteArray} {c:Nat} (h:Sl S w 1 (.slice ao l.length c) (txs l)):∀ i (hi:i<l.length),∃ b off,ao=some ⟨b,off,none⟩/\S b/\w.cell? ⟨b,off+i,none⟩=some (.string l[i]):=by
 obtain⟨ao',n',c',hv,h1,h2,h3,h4,h5⟩:=h;cases hv;intro i hi;obtain⟨b,off,rfl,hb,hc⟩:=h5 (fun e=>by have:=congrArg List.length e;rw[txs_length]at this;simp only[List.length_nil]at this;omega);exact⟨b,off,rfl,hb,hc i _ (by simp[txs,hi])⟩
theorem indexRF_any (w:World)(ps:List RT)(k:Int)(a b:ByteArray)(pv:Value)(g:Nat)(cap:Array Value)(eg:∀ args W,(callFunc g args).run Tryz.prog W = .ok (.enter g args) W)(q:RT->Bool)(hat:RTAt (· < w.heap.size) w (.mk k a b ps) pv)(hf:∀ i (hi:i<ps.length) W pvi,Below w.heap.size w W->RTAt (· < W.heap.size) W ps[i] pvi->Calls Tryz.prog g (#[rV ps[i] pvi]++cap) W fun e W'=>e = .returned (.bool (q ps[i]))/\Below W.heap.size W W') :
  Calls Tryz.prog 223 #[pv,.func (.func g) #[] cap] w fun e w'=>∃ k:Int,e = .returned (.int .i64 k)/\(0<=k↔ps.any q=true)/\Below w.heap.size w w':=by
 obtain⟨ao,c,rfl,hlc,hcm,hcell⟩:=hat.rows;dsimp only[RT.ps]at hlc hcell;have HC:=h! hcell;have HF:=h! hf;clear hat hcell hf;go_enter Tryz.func223,Tryz.ntmps223
 go_wp2_with fail
 go_loopw [5,8] (fun _ ii wr=>∃ i:Nat,i<=ps.length/\ii = .int .i64 i/\(∀ j (hj:j<ps.length),j<i->q ps[j]=false)/\Below w.heap.size w wr) (fun _ ii _=>ps.length-(intOf ii).toNat)
 case atStart=>exact⟨0,by omega,rfl,fun _ _ h=>absurd h (by omega),Below.refl _ _⟩
 case round =>
  obtain⟨i,hi,rfl,hall,hbel⟩:=hrel;have HALL:=h! hall;clear hall;by_cases hlt:i<ps.length
  ·have HUP:=h! (fun h=>upto_succ (p:=fun j hj=>q ps[j]=false) HALL.out hlt h);have HAN:=h! (fun(h:q ps[i]=true)=>(show ps.any q=true from List.any_eq_true.2 ⟨_,List.getElem_mem hlt,h⟩));obtain⟨bb,off,pv2,hbo,hb,c0,c1,c2,c3,hat2⟩:=HC.out i hlt;cases hbo;have d0:=(hbel.cell (p:=⟨bb,off+i*4,none⟩) hb).trans c0;have d1:=(hbel.cell (p:=⟨bb,off+i*4+1,none⟩) hb).trans c1;have d2:=(hbel.cell (p:=⟨bb,off+i*4+2,none⟩) hb).trans c2;have d3:=(hbel.cell (p:=⟨bb,off+i*4+3,none⟩) hb).trans c3;have HR:=h! (HF.out i hlt wr pv2 hbel (hat2.up hbel));clear c0 c1 c2 c3 hat2 hb;unfold rV at HR;generalize ps[i]=p at *;have HB:=h! hbel;clear hbel;cases hq:q p with
   | true =>
    rw[hq]at HR;have HT:=h! (HAN.out hq);clear HUP HAN hq;go_wp2_with fail
    refine HR.out.mono ?_;rintro e w5 ⟨rfl,hb5⟩;have HBE:=h! (HB.out.trans (hb5.mono HB.out.size));clear HR hb5 d0 d1 d2 d3;go_wp2_with fail
    go_ret
    exact⟨_,rfl,⟨fun _=>HT.out,fun _=>by omega⟩,HBE.out⟩
   | false =>
    rw[hq]at HR;have HN:=h! (HUP.out hq);clear HUP HAN hq;go_wp2_with fail
    refine HR.out.mono ?_;rintro e w5 ⟨rfl,hb5⟩;have HBE:=h! (HB.out.trans (hb5.mono HB.out.size));clear HR hb5 d0 d1 d2 d3;go_wp2_with fail
    go_roundw
    case rel=>exact⟨i+1,by omega,by go_num,HN.out,HBE.out⟩
    case measure=>simp[intOf];omega
  ·obtain rfl:i=ps.length:=by omega
   have HN:=h! (show ¬ ps.any q=true from fun h=>by
    obtain⟨x,hx,hq⟩:=List.any_eq_true.1 h;obtain⟨j,hj,rfl⟩:=List.getElem_of_mem hx;rw[HALL.out j hj hj]at hq;cases hq)
   have HB:=h! hbel;clear hbel;go_wp2_with fail
   go_ret
   exact⟨_,rfl,⟨fun h=>absurd h (by omega),fun h=>absurd h HN.out⟩,HB.out⟩
theorem containsRF_any (w:World)(ps:List RT)(k:Int)(a b:ByteArray)(pv:Value)(g:Nat)(cap:Array Value)(eg:∀ args W,(callFunc g args).run Tryz.prog W = .ok (.enter g args) W)(q:RT->Bool)(hat:RTAt (· < w.heap.size) w (.mk k a b ps) pv)(hf:∀ i (hi:i<ps.length) W pvi,Below w.heap.size w W->RTAt (· < W.heap.size) W ps[i] pvi->Calls Tryz.prog g (#[rV ps[i] pvi]++cap) W fun e W'=>e = .returned (.bool (q ps[i]))/\Below W.heap.size W W') :
  Calls Tryz.prog 175 #[pv,.func (.func g) #[] cap] w fun e w'=>e = .returned (.bool (ps.any q))/\Below w.heap.size w w':=by
 have HI:=h! (indexRF_any w ps k a b pv g cap eg q hat hf);clear hat hf;go_enter Tryz.func175,Tryz.ntmps175
 go_wp2_with fail
 refine HI.out.mono ?_;rintro e w2 ⟨k,rfl,hk,hb⟩;have HK:=h! hk;have HB:=h! hb;clear HI hk hb;by_cases h0:0<=k
 ·have HM:=h! (HK.out.1 h0);go_wp2_with fail
  go_ret
  exact⟨by rw[HM.out];simp[],HB.out⟩
 ·have HM:=h! (show ps.any q=false from by cases h:ps.any q with | false=>rfl | true=>exact absurd (HK.out.2 h) h0);go_wp2_with fail
  go_ret
  exact⟨by rw[HM.out];simp[h0],HB.out⟩
theorem sign_any (c:UInt8)(w:World):Calls Tryz.prog 149 #[.int .u8 (c.toNat:Int)] w fun e w'=>e = .returned (.bool (okc c))/\w'=w:=by
 go_enter Tryz.func149,Tryz.ntmps149
 have HG:=h! (show okc c=decide ((97<=(c.toNat:Int)/\(c.toNat:Int)<=122)\/(48<=(c.toNat:Int)/\(c.toNat:Int)<=57)\/(c.toNat:Int)=95\/(c.toNat:Int)=45)from rfl);generalize okc c=g at *;generalize (c.toNat:Int)=n at *;by_cases a1:(97:Int)<=n
 all_goals by_cases a2:n<=122
 all_goals by_cases a3:(48:Int)<=n
 all_goals by_cases a4:n<=57
 all_goals cases a5:(n == 95)
 all_goals cases a6:(n == 45)
 all_goals try simp only[beq_iff_eq,beq_eq_false_iff_ne,ne_eq]at a5 a6
 all_goals first
  | (exfalso;omega)
  | (have b5:(n == 95)=true:=by rw[beq_iff_eq];exact a5
     have b6:(n == 45)=false:=by rw[beq_eq_false_iff_ne];omega
     go_wp2_with fail
     go_ret
     exact⟨congrArg (fun b=>Ending.returned (Value.bool b)) (HG.out.trans (decide_eq_true (by omega))).symm,rfl⟩)
  | (have b5:(n == 95)=false:=by rw[beq_eq_false_iff_ne];omega
     have b6:(n == 45)=true:=by rw[beq_iff_eq];exact a6
     go_wp2_with fail
     go_ret
     exact⟨congrArg (fun b=>Ending.returned (Value.bool b)) (HG.out.trans (decide_eq_true (by omega))).symm,rfl⟩)
  | (have b5:(n == 95)=false:=by rw[beq_eq_false_iff_ne];omega
     have b6:(n == 45)=false:=by rw[beq_eq_false_iff_ne];omega
     go_wp2_with fail
     go_ret
     first
       | exact⟨congrArg (fun b=>Ending.returned (Value.bool b)) (HG.out.trans (decide_eq_true (by omega))).symm,rfl⟩
       | exact⟨congrArg (fun b=>Ending.returned (Value.bool b)) (HG.out.trans (decide_eq_false (by omega))).symm,rfl⟩)
theorem blank1_any (s:ByteArray)(_hs:s.size<=maxLen)(h2:2<=s.size)(c:UInt8)(hc:s[0]'(by omega)=c)(h32:c≠32)(h9:c≠9)(hr:s.extract 0 2≠⟨#[47,47]⟩)(w:World):Calls Tryz.prog 94 #[.string s] w fun e w'=>e = .returned (.bool false)/\w'=w:=by
 have q1:((c.toNat:Int) != 32)=true:=by
  rw[bne_iff_ne];intro e;exact h32 (UInt8.toNat_inj.1 (by exact_mod_cast e))
 have q2:((c.toNat:Int) != 9)=true:=by
  rw[bne_iff_ne];intro e;exact h9 (UInt8.toNat_inj.1 (by exact_mod_cast e))
 have q3:(1:Int)<(s.size:Int):=by omega
 have q4:0<s.size:=by omega
 have hne:=ba_beq' hr;rw[<- ByteArray.toList_eq,show(⟨#[47,47]⟩:ByteArray).data.toList=[47,47]from rfl]at hne;clear h32 h9 hr;go_enter Tryz.func94,Tryz.ntmps94
 go_wp2_with fail
 go_loopw [3] (fun ii wr=>ii = .int .i64 0/\wr=w) (fun _ _=>0)
 case atStart=>exact⟨rfl,rfl⟩
 case round =>
  obtain⟨rfl,rfl⟩:=hrel;go_wp2_with fail
  go_ret
  exact⟨rfl,rfl⟩
def lnStep (p:List ByteArray × ByteArray)(c:UInt8):List ByteArray × ByteArray:=if c=10 then(p.1++[p.2],⟨#[]⟩)else(p.1,p.2.push c)
def linesD (s:ByteArray):List ByteArray:=let p:=s.data.toList.foldl lnStep ([],⟨#[]⟩);p.1++[p.2]
theorem foldl_take {β:Type} (f:β->UInt8->β)(b:β)(s:ByteArray) {i:Nat} (hi:i<s.size):(s.data.toList.take (i+1)).foldl f b=f ((s.data.toList.take i).foldl f b) s[i]:=by
 rw[List.take_succ_eq_append_getElem (by simpa using hi),List.foldl_append];rfl
theorem push_ext (a s:ByteArray) {i:Nat} (hi:i<s.size):a++s.extract i (i+1)=a.push s[i]:=by
 refine ByteArray.ext ?_;rw[ByteArray.data_append,ByteArray.data_extract,ByteArray.data_push];refine Array.ext' ?_;simp only[Array.toList_append,Array.toList_push,Array.toList_extract];congr 1
 rw[List.extract_eq_take_drop,show i+1-i=1 from by omega,List.drop_eq_getElem_cons (by simpa using hi)];rfl
theorem lines_any (s:ByteArray)(hs:s.size<=65536)(w:World):Calls Tryz.prog 93 #[.string s] w fun e w'=>∃ v,e = .returned v/\Own w' w.heap.size 9 1 v (txs (linesD s))/\Below w.heap.size w w':=by
 have hsz:s.size<=9223372036854775807:=by omega
 have HS:=h! hs;have HD:=h! (show linesD s=(s.data.toList.foldl lnStep ([],⟨#[]⟩)).1++[(s.data.toList.foldl lnStep ([],⟨#[]⟩)).2]from rfl);have HO0:=h! (Own.lit w (Nat.le_refl _) 9 1 1 #[.string ⟨#[]⟩] rfl (by decide) (by decide));have HB0:=h! (show Below w.heap.size w (w.alloc (.cells #[.string ⟨#[]⟩] 9))from Ext.alloc _ _);clear hs;go_enter Tryz.func93,Tryz.ntmps93
 go_wp2_with fail
 go_loopw [3,4] (fun ov ii wr=>∃ (i:Nat) (p:List ByteArray × ByteArray),i<=s.size/\ii = .int .i64 i/\p=(s.data.toList.take i).foldl lnStep ([],⟨#[]⟩)/\Own wr w.heap.size 9 1 ov (txs (p.1++[p.2]))/\Below w.heap.size w wr/\p.1.length<=i/\p.2.size<=i) (fun _ ii _=>s.size-(intOf ii).toNat)
 case atStart=>exact⟨0,([],⟨#[]⟩),by omega,rfl,rfl,HO0.out,HB0.out,Nat.zero_le _,Nat.zero_le _⟩
 case round =>
  obtain⟨i,⟨pre,cur⟩,hi,rfl,hp,hown,hbel,hpl,hcl⟩:=hrel;dsimp only at hown hpl hcl;have HP:=h! hp;have HOW:=h! hown;have HBL:=h! hbel;have HPL:=h! hpl;have HCL:=h! hcl;clear HO0 HB0 hp hpl hcl hbel;by_cases hlt:i<s.size
  ·have HST:=h! (foldl_take lnStep ([],⟨#[]⟩) s hlt);have HPX:=h! (push_ext cur s hlt);have hi1:wrap64 ((i:Int)+1)=((i+1:Nat):Int):=by rw[wrap_in _ (by omega) (by omega)];omega
   by_cases hc:s[i]=10
   ·have HN:=h! (show(pre++[cur],(⟨#[]⟩:ByteArray))=(s.data.toList.take (i+1)).foldl lnStep ([],⟨#[]⟩)from by rw[HST.out,<- HP.out,hc];rfl);clear hown;go_wp2_with (at_builtin;go_must (refine wpList_own_lit textsT rfl (.tmp 16) (.tmp 17) rfl rfl HOW.out rfl rfl (by simp[Value.oneCell']) (by have:=HPL.out;have:=HS.out;rw[txs_length];simp;omega) (by have:=HPL.out;have:=HS.out;rw[txs_length];simp;omega) HBL.out.size ?_);intro v2 w2 hown2 hb2 hgr2)
    have HB2:=h! (HBL.out.trans hb2);have HO2:=h! (show Own w2 w.heap.size 9 1 v2 (txs (pre++[cur]++[⟨#[]⟩]))from by rw[txs_append];exact hown2);clear hown2 hb2 hgr2;go_wp2_with fail
    go_roundw
    case rel=>exact⟨i+1,(pre++[cur],⟨#[]⟩),by omega,by go_num,HN.out,HO2.out,HB2.out,by have:=HPL.out;simp;omega,Nat.zero_le _⟩
    case measure=>simp[intOf];omega
   ·have HN:=h! (show(pre,cur.push s[i])=(s.data.toList.take (i+1)).foldl lnStep ([],⟨#[]⟩)from by rw[HST.out,<- HP.out];unfold lnStep;rw[if_neg hc]);obtain⟨g,c,cs,rfl,hBg,hblk,hlc,hcm,hcell⟩:=hown.lay (by simp[txs]);have hlen:(txs (pre++[cur])).length=pre.length+1:=by rw[txs_length];simp
    have hcl:=hcell pre.length (by omega);rw[hlen]at hlc HOW;rw[hlen];have hcv:(txs (pre++[cur]))[pre.length]'(by omega) = .string cur:=by simp[txs]
    rw[hcv]at hcl;have hce:wr.cell? ⟨g,pre.length,none⟩=some (.string cur):=by rw[hblk.cells];exact hcl
    have HSET:=h! (show(txs (pre++[cur])).set pre.length (.string (cur.push s[i]))=txs (pre++[cur.push s[i]])from by simp[txs])
    have hne:((s[i].toNat:Int) == 10)=false:=by
     rw[beq_eq_false_iff_ne];intro e;exact hc (UInt8.toNat_inj.1 (by exact_mod_cast e))
    have hpx:=HPX.out;have hpl:=HPL.out;clear hcv hcell hown;have HLN:=h! (rfl:pre.length=pre.length);clear HLN hlen;obtain⟨n2,hn2⟩:∃ n2,n2=pre.length:=⟨_,rfl⟩;rw[<- hn2]at HOW HSET hlc hcl hce hpl ⊢;have hw1:wrap64 ((n2:Int)+1-1)=(n2:Int):=by rw[Int.add_sub_cancel];exact wrap_in _ (by omega) (by omega)
    have hw3:IntKind.i64.wrap (n2:Int)=(n2:Int):=IntWalk.i64_in _ (by omega);obtain⟨i1,hi1'⟩:∃ i1,i1=i+1:=⟨_,rfl⟩;rw[<- hi1']at hi1 HN hpx;have HI1:=h! hi1';have hi2:IntKind.i64.wrap ((i:Int)+1)=(i1:Int):=by rw[IntWalk.i64_in _ (by omega)];omega
    have hpos:(0:Int)<(n2:Int)+1:=by omega
    have hlt1:(n2:Int)<(n2:Int)+1:=by omega
    have h0n:(0:Int)<=(n2:Int):=by omega
    have h0i:(0:Int)<=(i:Int):=by omega
    have h1i:(i:Int)<=(i1:Int):=by omega
    have h2i:(i1:Int)<=(s.size:Int):=by omega
    have hA:∀ W,Ext wr W->W.cell? ⟨g,n2,none⟩=some (.string cur):=fun W h=>by
     exact Ext.cell h hce
    have hcat:¬ 9223372036854775807<cur.size+(min i1 s.size-i):=by have:=HCL.out;omega
    clear hn2 hc hi1' hce;go_wp2_with fail
    obtain⟨wd,hwd⟩:∃ x,x=wr.drew:=⟨_,rfl⟩;have hE:Ext wr wd:=by rw[hwd];exact Ext.drew wr
    refine region_walkL 17 (Ext wr) (by rw[<- hwd];exact hE) (by kernel_rfl) (by kernel_rfl) (fun _ _ d _ _ h=>by cases d <;> exact h) ?_;rw[<- hwd];clear hwd;have HST1:=h! ((HOW.out.below hE).set1 n2 (.string (cur.push s[i])));rw[HSET.out]at HST1;have hfr:=(hblk.below hE).free;have hrd:=(hblk.below hE).cells;have HBE:=h! (show Below w.heap.size w (wd.setCell ⟨g,n2,none⟩ (.string (cur.push s[i])))from(HBL.out.trans (hE.mono HBL.out.size)).setCell hBg _);(refine WalkL.tk [0,1,2,3,4,5,6,7,8,9,10,11,12,13,14,15,16] ?_;(iterate 17 (refine l! ?_));refine TkL.n ?_)
    clear hA;refine WalkL.last (by kernel_rfl) (by kernel_rfl) ?_;refine b! ?_;intro K hK;go_simp;refine hK.out _ _ ?_;clear hK hrd hfr hcl;go_wp2_with fail
    go_roundw
    case rel=>exact⟨i1,(pre,cur.push s[i]),by omega,by go_num,HN.out,HST1.out,HBE.out,by have:=HPL.out;have:=HI1.out;dsimp only;omega,by have:=HCL.out;have:=HI1.out;dsimp only;rw[ByteArray.size_push];omega⟩
    case measure=>have:=HI1.out;simp[intOf];omega
  ·obtain rfl:i=s.size:=by omega
   rw[List.take_of_length_le (by simp)]at HP;have HF:=h! (show linesD s=pre++[cur]from by rw[HD.out,<- HP.out]);clear hown;go_wp2_with fail
   go_ret
   exact⟨_,rfl,by rw[HF.out];exact HOW.out,HBL.out⟩
end Go.Proofs.YtlhaghoajpglaaaGreat
