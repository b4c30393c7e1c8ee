/- Lemmas for the claim, no condition. -/
import Derived.Test.YtlhaghoajpglaaaGreatYXMean4
import Derived.Test.YtlhaghoajpglaaaGreatYXMean2
import Derived.Test.YtlhaghoajpglaaaGreatYXMean3
import Derived.Test.YtlhaghoajpglaaaGreatYXMean0
import Derived.Test.YtlhaghoajpglaaaGreatYXMean1
set_option maxRecDepth 100000
set_option maxHeartbeats 2000000
namespace Go.Proofs.YtlhaghoajpglaaaGreat
open Go Go.RowKit
theorem wpList_store {P:Program} {ops:Array Oper} {Q:Exit->Act->World->Prop} {rest:List Oper} {a:Act} {w w':World} {t ty:TypeId} {i j:Nat} {pos} {af} {x v:Value} (hA:a.eval (.tmp i)=x)(hV:a.eval (.tmp j)=v)(hrun:(Instr.storeAt t x v).run P w = .ok () w')(K:wpList P ops Q rest a w'):wpList P ops Q (⟨none,Op.store t (.tmp i) (.tmp j),ty,pos,af,none⟩::rest) a w :=
 wpList_plain rfl fun K' hK'=>by
  unfold Oper.wp;simp[execOp,hA,hV,hrun,Result.andThen];exact hK' _ _ K
theorem Kept.setMany {K:Nat->Prop} {w w':World} (h:Kept K w w') {g:Nat} (hg:¬ K g)(o:Nat)(vs:List Value):Kept K w (w'.setCells g o vs):=by
 obtain⟨h1,h2,h3,h4⟩:=setCells_fields g vs w' o;exact h.trans ⟨h1,h2,h3,Nat.le_of_eq h4.symm,fun b hb=>setCells_other g vs w' o fun e=>hg (e▸hb)⟩
theorem wpList_clear {P:Program} {ops:Array Oper} {Q:Exit->Act->World->Prop} {rest:List Oper} {a:Act} {w w':World} {t ty:TypeId} {i:Nat} {pos} {af} {v r:Value} (hV:a.eval (.tmp i)=v)(hrun:(Builtin.clear_ #[t] ty #[v]).run P w = .ok r w')(K:wpList P ops Q rest (a.put none r) w'):wpList P ops Q (⟨none,Op.call {callee:=Callee.builtin Builtin.clear,args:=#[.tmp i],argTypes:=#[t]},ty,pos,af,none⟩::rest) a w :=
 wpList_plain rfl fun K' hK'=>by
  unfold Oper.wp;simp[execOp,resolve,invoke,builtin,hV,hrun,Result.andThen];exact hK' _ _ K
section
variable {P : Program} {ops : Array Oper} {Q : Exit -> Act -> World -> Prop} {S : World -> Prop} {late : Nat -> Bool}
def wpAnyS (P:Program)(ops:Array Oper)(Q:Exit->Act->World->Prop)(S:World->Prop)(late:Nat->Bool):Nat->Array Bool->Act->World->Prop
 | 0,l,a,w=>Region.ready .any ops l=[]/\Q .normal a w
 | f+1,l,a,w=>(Region.ready .any ops l=[]->Q .normal a w) /\
   ∀ i∈Region.ready .any ops l,wpOp P ops Q i (fun a' w'=>(late i=false->S w')/\wpAnyS P ops Q S late f (l.setIfInBounds i true) a' w') a w
theorem wpAnyS_any:∀ (f:Nat)(l:Array Bool)(a:Act)(w:World),wpAnyS P ops Q S late f l a w->wpAny P .any ops Q f l a w
 | 0,_,_,_,h=>h
 | f+1,_,_,_,h=>⟨h.1,fun i hi=>wpOp_mono (fun a' w' k=>wpAnyS_any f _ a' w' k.2) (h.2 i hi)⟩
def early (ops:Array Oper)(late:Nat->Bool)(i:Nat):Bool:=(List.range ops.size).all fun j=>!late j||ahead ops ops.size i j
theorem wpAnyS_take {i:Nat} {oi:Oper} {v:Value} (hi:ops[i]?=some oi)(hsel:Region.noSelect ops=true)
  (hQ:∀ c a w,Q (.panic c) (Act.put a oi.dst v) w->Q (.panic c) a w) (hL:early ops late i=true) :
  ∀ (f:Nat) (l:Array Bool) (a:Act) (w:World),Closed ops l ->
   (∀ j oj,ops[j]?=some oj->j≠i->l.getD j true=false->(∀ e∈oj.after,Region.binds .any e=true->e.on≠i)->oi.apart ops oj=true) ->
   i∈Region.ready .any ops l->YieldsIf P ops S oi v a->S w->wpAnyS P ops Q S late f (l.setIfInBounds i true) (a.put oi.dst v) w->wpAnyS P ops Q S late (f+1) l a w:=by
 intro f;induction f with
 | zero =>
  intro l a w _ _ hr hy hS H;refine⟨fun h=>(by rw[h]at hr;cases hr),fun j hj=>?_⟩;by_cases hji:j=i
  ·subst hji;exact hy.wpOp hi hS ⟨fun _=>hS,H⟩
  ·have:=ready_mono hj hji;rw[H.1]at this;cases this
 | succ f ih =>
  intro l a w hc hfree hr hy hS H;refine⟨fun h=>(by rw[h]at hr;cases hr),fun j hj=>?_⟩;by_cases hji:j=i
  ·subst hji;exact hy.wpOp hi hS ⟨fun _=>hS,H⟩
  ·obtain⟨hjun,oj,hoj,hall⟩:=mem_ready.1 hj;have hiun:=(mem_ready.1 hr).1
   have hjL:late j=false:=by
    cases hlj:late j with
    | false=>rfl
    | true =>
     have hjs:j<ops.size:=(Array.getElem?_eq_some_iff.1 hoj).1;have ha:=List.all_eq_true.1 hL j (List.mem_range.2 hjs);rw[hlj]at ha;simp only[Bool.not_true,Bool.false_or]at ha;exact(unlisted hiun (ahead_listed hc ops.size i j ha fun o ho e he hb=>by rw[hoj]at ho;cases ho;exact hall e he hb)).elim
   have hnot:∀ e∈oj.after,Region.binds .any e=true->e.on≠i:=fun e he hb heq=>unlisted hiun (heq▸hall e he hb);have h2:=wpOp_putIf hoj (hfree j oj hoj hji hjun hnot) (fun cs b=>Region.noSelect_spec hsel i oi cs b hi) (fun cs b=>Region.noSelect_spec hsel j oj cs b hoj) hQ hy (H.2 j (ready_mono hj hji));refine wpOp_mono (fun a' w' k=>⟨k.2.1,ih (l.setIfInBounds j true) a' w' (hc.set hj) (fun m om hom hmi hun hno=>?_) (ready_mono hr (Ne.symm hji)) k.1 (k.2.1 hjL) ?_⟩) h2
   ·refine hfree m om hom hmi ?_ hno;by_cases hjm:j=m
    ·exact hjm▸hjun
    ·rwa[getD_set_ne true hjm]at hun
   ·rw[Array.setIfInBounds_comm _ _ hji];exact k.2.2
def allLate (ops:Array Oper)(late:Nat->Bool)(l:Array Bool):Bool:=(List.range ops.size).all fun j=>l.getD j false||late j
theorem late_ready {l:Array Bool} (h:allLate ops late l=true) {i:Nat} (hi:i∈Region.ready .any ops l):late i=true:=by
 obtain⟨hun,o,ho,_⟩:=mem_ready.1 hi;have h1:=List.all_eq_true.1 h i (List.mem_range.2 (Array.getElem?_eq_some_iff.1 ho).1);rcases Bool.or_eq_true_iff.1 h1 with h2 | h2
 ·exact(unlisted hun h2).elim
 ·exact h2
theorem late_set {l:Array Bool} (h:allLate ops late l=true)(i:Nat):allLate ops late (l.setIfInBounds i true)=true:=by
 refine List.all_eq_true.2 fun j hj=>?_;rcases Bool.or_eq_true_iff.1 (List.all_eq_true.1 h j hj)with h2 | h2
 ·exact Bool.or_eq_true_iff.2 (.inl (getD_set_true h2))
 ·exact Bool.or_eq_true_iff.2 (.inr h2)
theorem wpAnyS_late:∀ (f:Nat)(l:Array Bool)(a:Act)(w:World),allLate ops late l=true->wpAny P .any ops Q f l a w->wpAnyS P ops Q S late f l a w
 | 0,_,_,_,_,h=>h
 | f+1,l,a,w,hl,h=>⟨h.1,fun i hi=>wpOp_mono (fun a' w' k=>⟨fun e=>(by rw[late_ready hl hi]at e;cases e),wpAnyS_late f _ a' w' (late_set hl i) k⟩) (h.2 i hi)⟩
def WalkS (P:Program)(ops:Array Oper)(Q:Exit->Act->World->Prop)(S:World->Prop)(late:Nat->Bool):Nat->Array Bool->Act->World->Prop
 | 0,l,a,w=>Region.ready .any ops l=[]/\Q .normal a w
 | f+1,l,a,w=>(allLate ops late l=true/\WalkN P ops Q (fun _=>True) (f+1) l a w) \/
   (∃ i o v,ops[i]?=some o/\Region.free .any ops l i=true/\(Region.ready .any ops l).contains i=true/\early ops late i=true/\YieldsIf P ops S o v a/\WalkS P ops Q S late f (l.setIfInBounds i true) (a.put o.dst v) w) \/
   (Region.ready .any ops l≠[]/\∀ i∈Region.ready .any ops l,∃ o,ops[i]?=some o/\∀ K':Act->World->Prop,Shut (∀ a' w',S w'->WalkS P ops Q S late f (l.setIfInBounds i true) a' w'->K' a' w') ->
    if Region.wanted o (yielded ops a.tmps)=true then Oper.wp P o a w K' Q else K' (a.put o.dst undef) w)
theorem walkS_sound (hns:Region.noSelect ops=true)(hQ:∀ c a d v w,Q (.panic c) (Act.put a d v) w->Q (.panic c) a w) :
  ∀ (f:Nat) (l:Array Bool) (a:Act) (w:World),Closed ops l->S w->WalkS P ops Q S late f l a w->wpAnyS P ops Q S late f l a w
 | 0,_,_,_,_,_,h=>h
 | f+1,l,a,w,hc,hs,h=>by
  rcases h with⟨hl,h⟩ | ⟨i,o,v,ho,hf,hr,hL,hy,h⟩ | ⟨hne,h⟩
  ·exact wpAnyS_late _ l a w hl (wpAny_of_held _ _ _ _ (walkN_sound hns hQ _ l a w trivial h))
  ·exact wpAnyS_take ho hns (fun c a w=>hQ c a _ _ w) hL f l a w hc (Region.free_spec ho hf) (by simpa using hr) hy hs (walkS_sound hns hQ f _ _ w (hc.set (by simpa using hr)) hs h)
  ·refine⟨fun e=>absurd e hne,fun i hi=>?_⟩;obtain⟨o,ho,hst⟩:=h i hi;exact wpOp_step ho (fun K' hK=>hst K' (fun a' w' he hw=>hK a' w' ⟨fun _=>he,walkS_sound hns hQ f _ a' w' (hc.set hi) he hw⟩))
theorem region_walkS {id:Nat} {a:Act} {w:World} (late:Nat->Bool)(S:World->Prop)(hS:S w.drew)(hm:P.follows .mixedOrders=true)(hns:Region.noSelect ops=true)(hQ:∀ c a d v w,Q (.panic c) (Act.put a d v) w->Q (.panic c) a w)
  (h:WalkS P ops Q S late ops.size (Array.replicate ops.size false) a w.drew):(Code.region id ops true).wp P Q a w :=
 wp_region_any hm (wpAnyS_any _ _ _ _ (walkS_sound hns hQ _ _ a w.drew (Closed.start _ _) hS h))
theorem WalkS.take {f:Nat} {l:Array Bool} {a:Act} {w:World} (i:Nat)(o:Oper)(v:Value)(ho:ops[i]?=some o)(hf:Region.free .any ops l i=true)(hr:(Region.ready .any ops l).contains i=true)(hL:early ops late i=true)
  (hw:Region.wanted o (yielded ops a.tmps)=true) (hy:∀ W,S W->(execOp a.eval o).run P W = .ok (.value v) W) (h:WalkS P ops Q S late f (l.setIfInBounds i true) (a.put o.dst v) w):WalkS P ops Q S late (f+1) l a w :=
 .inr (.inl ⟨i,o,v,ho,hf,hr,hL,.inl ⟨hw,hy⟩,h⟩)
def TkS (P:Program)(ops:Array Oper)(Q:Exit->Act->World->Prop)(S:World->Prop)(late:Nat->Bool):List Nat->Nat->Array Bool->Act->World->Prop
 | [],f,l,a,w=>WalkS P ops Q S late f l a w
 | i::is,f,l,a,w=>∃ g,f=g+1/\∃ o v,ops[i]?=some o/\Region.free .any ops l i=true/\(Region.ready .any ops l).contains i=true/\early ops late i=true/\Region.wanted o (yielded ops a.tmps)=true/\(∀ W,S W->(execOp a.eval o).run P W = .ok (.value v) W)/\TkS P ops Q S late is g (l.setIfInBounds i true) (a.put o.dst v) w
theorem WalkS.tk (is:List Nat):∀ {f:Nat} {l:Array Bool} {a:Act} {w:World},TkS P ops Q S late is f l a w->WalkS P ops Q S late f l a w:=by
 induction is with
 | nil=>exact fun h=>h
 | cons i is ih =>
  rintro f l a w ⟨g,rfl,o,v,ho,hf,hr,hL,hw,hy,h⟩;exact WalkS.take i o v ho hf hr hL hw hy (ih h)
theorem TkS.c {f:Nat} {l:Array Bool} {a:Act} {w:World} {i:Nat} {is:List Nat} (o:Oper)(v:Value)(ho:ops[i]?=some o)(hf:Region.free .any ops l i=true)(hr:(Region.ready .any ops l).contains i=true)(hL:early ops late i=true)
  (hw:Region.wanted o (yielded ops a.tmps)=true) (hy:∀ W,S W->(execOp a.eval o).run P W = .ok (.value v) W) (h:TkS P ops Q S late is f (l.setIfInBounds i true) (a.put o.dst v) w):TkS P ops Q S late (i::is) (f+1) l a w :=
 ⟨f,rfl,o,v,ho,hf,hr,hL,hw,hy,h⟩
theorem TkS.n {f:Nat} {l:Array Bool} {a:Act} {w:World} (h:WalkS P ops Q S late f l a w):TkS P ops Q S late [] f l a w:=h
def MadeS (P:Program)(ops:Array Oper)(Q:Exit->Act->World->Prop)(S:World->Prop)(late:Nat->Bool)(f:Nat)(l:Array Bool)(a:Act)(w:World)(i:Nat):Prop :=
 ∃ o,ops[i]?=some o/\Region.wanted o (yielded ops a.tmps)=true/\∀ K':Act->World->Prop,Shut (∀ a' w',S w'->WalkS P ops Q S late f (l.setIfInBounds i true) a' w'->K' a' w')->Oper.wp P o a w K' Q
theorem WalkS.one {f:Nat} {l:Array Bool} {a:Act} {w:World} (i:Nat)(hr:Region.ready .any ops l=[i])(h:MadeS P ops Q S late f l a w i):WalkS P ops Q S late (f+1) l a w:=by
 refine .inr (.inr ⟨by rw[hr];simp,fun j hj=>?_⟩);rw[hr]at hj;obtain rfl:j=i:=by simpa using hj
 obtain⟨o,ho,hw,h⟩:=h;exact⟨o,ho,fun K hK=>by rw[if_pos hw];exact h K hK⟩
theorem WalkS.rest {f:Nat} {l:Array Bool} {a:Act} {w:World} (hl:allLate ops late l=true)(h:WalkN P ops Q (fun _=>True) (f+1) l a w):WalkS P ops Q S late (f+1) l a w := .inl ⟨hl,h⟩
end
theorem z! {P : Program} {ops : Array Oper} {Q : Exit -> Act -> World -> Prop} {S : World -> Prop} {late : Nat -> Bool} {f : Nat} {l : Array Bool} {a : Act} {w : World} {i : Nat} {is : List Nat} {o : Oper} {v : Value} {G : Prop} (h : G) (ho : ops[i]? = some o := by simp only[gA,gS,gZ];rfl) (hf : Region.free .any ops l i = true := by kernel_rfl) (hr : (Region.ready .any ops l).contains i = true := by kernel_rfl) (hL : early ops late i = true := by kernel_rfl) (hw : Region.wanted o (yielded ops a.tmps) = true := by rfl) (hy : ∀ W,S W->(execOp a.eval o).run P W=.ok (.value v) W := by intro W hW;go_simp;try with_reducible rfl) (hG : TkS P ops Q S late is f (l.setIfInBounds i true) (a.put o.dst v) w = G := by simp only[Act.put,pA,pZ,pS];rfl) : TkS P ops Q S late (i :: is) (f + 1) l a w := ⟨f, rfl, o, v, ho, hf, hr, hL, hw, hy, Eq.mpr hG h⟩
theorem oS! {P : Program} {ops : Array Oper} {Q : Exit -> Act -> World -> Prop} {S : World -> Prop} {late : Nat -> Bool} {f : Nat} {l : Array Bool} {a : Act} {w : World} (i : Nat) (h : MadeS P ops Q S late f l a w i) (hr : Region.ready .any ops l = [i] := by kernel_rfl) : WalkS P ops Q S late (f + 1) l a w := WalkS.one i hr h
end Go.Proofs.YtlhaghoajpglaaaGreat
namespace Go.Proofs.YtlhaghoajpglaaaGreat
open Go Go.RowKit Go.Maps
theorem wp_store {P:Program} {Q:Exit->Act->World->Prop} {K:Act->World->Prop} {a:Act} {w w':World} {t ty:TypeId} {i j:Nat} {pos} {af} {x v:Value} (hA:a.eval (.tmp i)=x)(hV:a.eval (.tmp j)=v)(hrun:(Instr.storeAt t x v).run P w = .ok () w')(h:K a w'):Oper.wp P ⟨none,Op.store t (.tmp i) (.tmp j),ty,pos,af,none⟩ a w K Q:=by
 unfold Oper.wp;simp[execOp,hA,hV,hrun,Result.andThen];exact h
theorem setL_tail:∀ (zs xs ys:List Value),ys.length=zs.length->setL (xs++ys) xs.length zs=xs++zs
 | [],xs,ys,h=>by
  obtain rfl:ys=[]:=List.length_eq_zero_iff.1 h;rfl
 | z::zs,xs,[],h=>by simp at h
 | z::zs,xs,y::ys,h=>by
  rw[setL,List.set_append_right _ _ (Nat.le_refl _),Nat.sub_self,List.set_cons_zero];have:=setL_tail zs (xs++[z]) ys (by simpa using h);rw[List.length_append,List.append_assoc,List.append_assoc]at this;exact this
theorem Own.tail {w:World} {B:Nat} {e:TypeId} {sz g n c:Nat} {xs ys:List Value} (h:Own w B e sz (.slice (some ⟨g,0,none⟩) n c) (xs++ys))(zs:List Value)(hl:ys.length=zs.length):Own (w.setCells g xs.length zs) B e sz (.slice (some ⟨g,0,none⟩) n c) (xs++zs):=by
 have:=Own.setMany zs xs.length h;rwa[setL_tail zs xs ys hl]at this
theorem Own.tailCells {w:World} {B:Nat} {e:TypeId} {sz g n c:Nat} {xs ys:List Value} (h:Own w B e sz (.slice (some ⟨g,0,none⟩) n c) (xs++ys)):∀ j,j<ys.length->∃ v,w.cell? ⟨g,xs.length+j,none⟩=some v:=fun j hj=>by
 obtain⟨m,h⟩:=h;have hc:=h.cells (g:=g) rfl;have:=hc (xs.length+j) ys[j] (by rw[List.getElem?_append_right (by omega)];simp[hj]);rw[Addr.add_lit,Nat.zero_add]at this;exact⟨_,this⟩
theorem node_store {w:World} {B g n c:Nat} {xs ys:List Value} (h:Own w B 45 6 (.slice (some ⟨g,0,none⟩) n c) (xs++ys))(hl:ys.length=6)(k:Int)(t i r:ByteArray)(a1 a2:Option Addr)(b1 b2 c1 c2:Nat) :
  (Instr.storeAt 45 (.pointer (some ⟨g,xs.length,none⟩)) (.agg #[.int .i64 k,.string t,.string i,.string r,.slice a1 b1 c1,.slice a2 b2 c2])).run Tryz.prog w = .ok () (w.setCells g xs.length [.int .i64 k,.string t,.string i,.string r,.slice a1 b1 c1,.slice a2 b2 c2]):=by
 obtain⟨cur,hcur⟩:=h.typed (g:=g) rfl;have hfr:=Blk.free (show Blk w g cur 45 from hcur)
 have hst:=run_storeCells_cells (P:=Tryz.prog) g xs.length [.int .i64 k,.string t,.string i,.string r,.slice a1 b1 c1,.slice a2 b2 c2] 0 w (by
  intro j hj;obtain⟨v,hv⟩:=h.tailCells j (by rw[hl];exact hj);rw[Nat.add_zero,hv];rfl) (fun j _=>hfr _) (by simp[Value.oneCell'])
 simp only[Nat.add_zero]at hst;simp[Instr.storeAt,Instr.sureAddr,storeVar,Value.cells,Tryz.sizeOf45,hst,Result.andThen]
section
variable {w w3 w6 w8 : World} {lo x n0 g n c : Nat} {k : Int} {p : P3} {subs : List P3} {q : List (NT × NV2)} {sv qv : Value} {y : NT × NV2}
theorem NdAt.put (h:NdAt w lo x k p subs q sv qv)(hx3:Ext w w3)(hg:w3.grownBy w6 qv.ownBlock)(hb:qv.ownBlock=some g\/w3.heap.size<=g)(hk:Kept (fun b=>b≠g/\b≠x) w6 w8)
  (ho:Own w8 lo 45 6 (.slice (some ⟨g,0,none⟩) n c) (q.flatMap nC++nC y)) (hbx:Blk w8 x #[.int .i64 k,.string p.t,.string p.i,.string p.r,sv,.slice (some ⟨g,0,none⟩) n c] 45)
  (hy:NtAt (NS n0 w) w y.1 y.2) (hn0:lo<=n0) (hpv:∀ g,qv.ownBlock=some g->g<n0) (hxl:x<lo) :
  NdAt w8 lo x k p subs (q++[y]) sv (.slice (some ⟨g,0,none⟩) n c)/\Kept (fun b=>b<w.heap.size/\b≠x/\qv.ownBlock≠some b) w w8:=by
 have hz:w.heap.size<=w8.heap.size:=Nat.le_trans hx3.size (Nat.le_trans hg.size hk.size)
 have hkeep:∀ b,b<w.heap.size->b≠x->qv.ownBlock≠some b->w8.heap[b]?=w.heap[b]?:=fun b h1 h2 h3=>by
  have h4:b<w3.heap.size:=Nat.lt_of_lt_of_le h1 hx3.size
  rw[hk.block b ⟨fun e=>by
   subst e;rcases hb with e | e
   ·exact h3 e
   ·omega,h2⟩,hg.block b h4 (fun e=>h3 e.symm),hx3.block b h1]
 refine⟨⟨hbx,?_,?_⟩,hk.os.trans (hg.os.trans hx3.os),hk.tape.trans (hg.tape.trans hx3.tape),hk.output.trans (hg.output.trans hx3.output),hz,fun b h1=>hkeep b h1.1 h1.2.1 h1.2.2⟩
 ·exact h.subs.keepOwn fun g' hg'=>hkeep g' (h.subs.block g' hg').2 (fun e=>by have:=(h.subs.block g' hg').1;omega) (h.subs.apart h.parts.row (by decide) hg')
 ·exact h.parts.add (w3:=w8) (fun b h1 h3=>hkeep b h1.2.1 (fun e=>by have:=h1.1;omega) h3) hz ho (fun g' hg'=>by
   obtain rfl:g=g':=Option.some.inj hg';exact hb.imp id fun e=>Nat.le_trans hx3.size e) hy hn0 hpv
end
theorem addN_any (x lo n0:Nat)(k:Int)(p:P3)(subs:List P3)(q:List (NT × NV2))(sv qv:Value)(y:NT)(yv:NV2)(w:World)(h:NdAt w lo x k p subs q sv qv)(hy:NtAt (NS n0 w) w y yv)(hn0:lo<=n0)(hpv:∀ g,qv.ownBlock=some g->g<n0)(hx:x<lo)(hlo:lo<=w.heap.size)(hq:q.length<=1073741822) :
  Calls Tryz.prog 194 #[nV2 y yv,.pointer (some ⟨x,0,none⟩)] w fun e w'=>e = .returned (.tuple #[])/\∃ qv',NdAt w' lo x k p subs (q++[(y,yv)]) sv qv'/\(∀ g,qv'.ownBlock=some g->qv.ownBlock=some g\/w.heap.size<=g)/\Kept (fun b=>b<w.heap.size/\b≠x/\qv.ownBlock≠some b) w w':=by
 have H:=h! h;have HY:=h! hy;have HN0:=h! hn0;have HPV:=h! hpv;have HX:=h! hx;have HLO:=h! hlo;have HQ:=h! hq;obtain⟨y1,y2⟩:=yv;obtain⟨s1,-⟩:=(NtAt.iff _ _).1 hy;obtain⟨so,sm,sc,rfl,-,-,-⟩:=s1.len;obtain⟨po,pc,rfl,-⟩:=hy.rows;obtain⟨qo,qn,qc,rfl,hqn,-,-⟩:=h.parts.row.sl.len;rw[nCs_length]at hqn;obtain rfl:q.length=qn:=by omega
 have HQ0:=h! (show ∀ g,(Value.slice qo q.length qc).ownBlock=some g->g<w.heap.size from fun g hg=>(h.parts.row.block g hg).2);obtain⟨wq,hwq⟩:∃ z,z=(w.alloc (.cells #[.int .i64 y.k,.string y.p.t,.string y.p.i,.string y.p.r,.slice so sm sc,.slice po y.ps.length pc] 45)).drew:=⟨_,rfl⟩;have QX:=h! (show Ext w wq from by rw[hwq];exact(Ext.alloc _ _).trans (Ext.drew _));have QB:=h! (show Blk wq w.heap.size #[.int .i64 y.k,.string y.p.t,.string y.p.i,.string y.p.r,.slice so sm sc,.slice po y.ps.length pc] 45 from by rw[hwq];exact(Blk.made _ _ _).drew);have QH:=h! (H.out.box.below QX.out);have QR:=h! (H.out.parts.row.below QX.out);have HXW:=h! (show x<w.heap.size from H.out.box.lt);clear h hy hn0 hpv hx hlo hq hqn s1;unfold nV2;dsimp only;go_enter Tryz.func194,Tryz.ntmps194
 go_wp2_with fail
 refine region_walkS (fun j=>decide (6<=j)) (fun W=>Blk W x #[.int .i64 k,.string p.t,.string p.i,.string p.r,sv,.slice qo q.length qc] 45/\Blk W w.heap.size #[.int .i64 y.k,.string y.p.t,.string y.p.i,.string y.p.r,.slice so sm sc,.slice po y.ps.length pc] 45) (by rw[<- hwq];exact⟨QH.out,QB.out⟩) (by kernel_rfl) (by kernel_rfl) (fun _ _ d _ _ h=>by cases d <;> exact h) ?_;rw[<- hwq];clear hwq;have h1:=fun W (h:Blk W x #[.int .i64 k,.string p.t,.string p.i,.string p.r,sv,.slice qo q.length qc] 45/\Blk W w.heap.size #[.int .i64 y.k,.string y.p.t,.string y.p.i,.string y.p.r,.slice so sm sc,.slice po y.ps.length pc] 45)=>h.1.cells;have h2:=fun W (h:Blk W x #[.int .i64 k,.string p.t,.string p.i,.string p.r,sv,.slice qo q.length qc] 45/\Blk W w.heap.size #[.int .i64 y.k,.string y.p.t,.string y.p.i,.string y.p.r,.slice so sm sc,.slice po y.ps.length pc] 45)=>h.2.cells;(refine WalkS.tk [0,1,2,3] ?_;(iterate 4 (refine z! ?_));refine TkS.n ?_)
 clear h1 h2;have hx3:=Ext.alloc wq (.cells #[.int .i64 0,.string ⟨#[]⟩,.string ⟨#[]⟩,.string ⟨#[]⟩,.slice none 0 0,.slice none 0 0] 45);refine oS! 4 ?_;refine b! ?_;intro K hK;go_simp;refine hK.out _ _ ⟨QH.out.below hx3,QB.out.below hx3⟩ ?_;clear hK;refine oS! 5 ?_;refine b! ?_;intro K hK;refine wp_ownw nodesT (.tmp 4) (.tmp 7) rfl rfl (QR.out.below hx3) (m:=1) (news:=[.int .i64 0,.string ⟨#[]⟩,.string ⟨#[]⟩,.string ⟨#[]⟩,.slice none 0 0,.slice none 0 0]) rfl rfl (fun j u hu=>?_) (by simp[Value.oneCell']) (by have:=HQ.out;rw[nCs_length];simp;omega) (by have:=HQ.out;rw[nCs_length];simp;omega) (by have:=HLO.out;have:=QX.out.size;simp;omega) (fun v6 w6 hown6 hb6 hg6=>?_)
 ·rw[Addr.add_lit,cell_of_row _ wq.heap.size (0+j) #[.int .i64 0,.string ⟨#[]⟩,.string ⟨#[]⟩,.string ⟨#[]⟩,.slice none 0 0,.slice none 0 0] 45 (0,0) (heap_alloc_new wq _),Nat.zero_add];simpa using hu
 obtain⟨g,n6,c6,rfl⟩:∃ g n c,v6 = .slice (some ⟨g,0,none⟩) n c:=by
  rcases hown6.shape with⟨_,h⟩ | h
  ·simp at h
  ·exact h
 obtain rfl:n6=q.length+1:=by
  obtain⟨a,b,c,h1,h2,-,-⟩:=hown6.sl.len;cases h1;rw[List.length_append,nCs_length]at h2;simp at h2;omega
 have B6:=h! (show Blk w6 x _ _ from(hg6.block _ (QH.out.below hx3).lt fun e=>by have:=(QR.out.block _ e.symm).1;have:=HX.out;omega).trans (QH.out.below hx3));obtain⟨cur,hcur⟩:=hown6.typed (g:=g) rfl;have HG6:=h! (show Blk w6 g cur 45 from hcur);have HGW:=h! (show g≠x from fun e=>by have:=(hown6.block g rfl).1;have:=HX.out;omega);have HGB:=h! (show(Value.slice qo q.length qc).ownBlock=some g\/(wq.alloc (.cells #[.int .i64 0,.string ⟨#[]⟩,.string ⟨#[]⟩,.string ⟨#[]⟩,.slice none 0 0,.slice none 0 0] 45)).heap.size<=g from hb6 g rfl);have HO6:=h! hown6;have HS6:=h! hg6;have HX3:=h! hx3;have F6:=h! (show Blk w6 w.heap.size _ _ from(hg6.block _ (QB.out.below hx3).lt fun e=>by have:=HQ0.out _ e.symm;omega).trans (QB.out.below hx3));refine hK.out _ _ ⟨B6.out,F6.out⟩ ?_;clear hK hx3 hown6 hb6 hg6 hcur F6;simp only[Act.put,pA,pZ,pS];have hi6:(q.length:Int)<(q.length:Int)+1:=by omega
 have HLN:=h! (show(q.flatMap nC).length=q.length*6 from nCs_length q);refine WalkS.rest (by kernel_rfl) ?_;(refine WalkN.tk [6,8] ?_;(iterate 2 (refine c! ?_));refine TkN.n ?_)
 refine p! 7 9 ?_ ?_
 ·refine b! ?_;intro K hK;have hrun:=node_store HO6.out rfl y.k y.p.t y.p.i y.p.r so po sm y.ps.length sc pc;rw[HLN.out]at hrun;refine wp_store (x := .pointer (some ⟨g,q.length*6,none⟩)) (v := .agg #[.int .i64 y.k,.string y.p.t,.string y.p.i,.string y.p.r,.slice so sm sc,.slice po y.ps.length pc]) (w':=w6.setCells g (q.length*6) [.int .i64 y.k,.string y.p.t,.string y.p.i,.string y.p.r,.slice so sm sc,.slice po y.ps.length pc]) rfl rfl hrun ?_;refine hK.out _ _ trivial ?_;clear hK hrun;have HO7:=h! (HO6.out.tail [.int .i64 y.k,.string y.p.t,.string y.p.i,.string y.p.r,.slice so sm sc,.slice po y.ps.length pc] rfl);rw[HLN.out]at HO7;have HK7:=h! ((Kept.refl (fun b=>b≠g/\b≠x) w6).setMany (g:=g) (fun h=>h.1 rfl) (q.length*6) [.int .i64 y.k,.string y.p.t,.string y.p.i,.string y.p.r,.slice so sm sc,.slice po y.ps.length pc]);have B7:=h! (show Blk (w6.setCells g (q.length*6) [.int .i64 y.k,.string y.p.t,.string y.p.i,.string y.p.r,.slice so sm sc,.slice po y.ps.length pc]) x _ _ from(setCells_other g _ _ _ (Ne.symm HGW.out)).trans B6.out);obtain⟨w7,hw7⟩:∃ z,z=w6.setCells g (q.length*6) [.int .i64 y.k,.string y.p.t,.string y.p.i,.string y.p.r,.slice so sm sc,.slice po y.ps.length pc]:=⟨_,rfl⟩;rw[<- hw7]at HO7 HK7 B7 ⊢;clear hw7;have hbf:=B7.out.free;have hbc:=B7.out.cells;refine o! 9 ?_;refine b! ?_;intro K hK;go_simp;refine hK.out _ _ trivial ?_;clear hK hbf hbc;refine d! ?_;have hfin:=H.out.put (w8:=w7.setCell ⟨x,5,none⟩ (.slice (some ⟨g,0,none⟩) (q.length+1) c6)) (y:=(y,(.slice so sm sc,.slice po y.ps.length pc))) (QX.out.trans HX3.out) HS6.out HGB.out (HK7.out.set (a:=⟨x,5,none⟩) (fun h=>h.2 rfl) _) (HO7.out.keepOwn fun g' hg'=>Below.heap_setCell _ _ _ _ (by obtain rfl:g=g':=Option.some.inj hg';exact HGW.out)) (B7.out.set_to (cs':=#[.int .i64 k,.string p.t,.string p.i,.string p.r,sv,.slice (some ⟨g,0,none⟩) (q.length+1) c6]) 5 (.slice (some ⟨g,0,none⟩) (q.length+1) c6) rfl) HY.out HN0.out HPV.out HX.out;go_end0
  exact⟨rfl,_,hfin.1,fun g' hg'=>by
   obtain rfl:g=g':=Option.some.inj hg';exact HGB.out.imp id fun e=>Nat.le_trans (QX.out.trans HX3.out).size e,hfin.2⟩
 ·refine b! ?_;intro K hK;have hbf:=B6.out.free;have hbc:=B6.out.cells;go_simp;clear hbf hbc;refine hK.out _ _ trivial ?_;clear hK;have B7:=h! (B6.out.set_to (cs':=#[.int .i64 k,.string p.t,.string p.i,.string p.r,sv,.slice (some ⟨g,0,none⟩) (q.length+1) c6]) 5 (.slice (some ⟨g,0,none⟩) (q.length+1) c6) rfl);have HO7:=h! (show Own (w6.setCell ⟨x,5,none⟩ (.slice (some ⟨g,0,none⟩) (q.length+1) c6)) lo 45 6 _ _ from HO6.out.keepOwn fun g' hg'=>Below.heap_setCell _ _ _ _ (by obtain rfl:g=g':=Option.some.inj hg';exact HGW.out));have HK7:=h! ((Kept.refl (fun b=>b≠g/\b≠x) w6).set (a:=⟨x,5,none⟩) (fun h=>h.2 rfl) (.slice (some ⟨g,0,none⟩) (q.length+1) c6));obtain⟨w7,hw7⟩:∃ z,z=w6.setCell ⟨x,5,none⟩ (.slice (some ⟨g,0,none⟩) (q.length+1) c6):=⟨_,rfl⟩;rw[<- hw7]at HO7 HK7 B7 ⊢;clear hw7;refine o! 7 ?_;refine b! ?_;intro K hK;have hrun:=node_store HO7.out rfl y.k y.p.t y.p.i y.p.r so po sm y.ps.length sc pc;rw[HLN.out]at hrun;refine wp_store (x := .pointer (some ⟨g,q.length*6,none⟩)) (v := .agg #[.int .i64 y.k,.string y.p.t,.string y.p.i,.string y.p.r,.slice so sm sc,.slice po y.ps.length pc]) (w':=w7.setCells g (q.length*6) [.int .i64 y.k,.string y.p.t,.string y.p.i,.string y.p.r,.slice so sm sc,.slice po y.ps.length pc]) rfl rfl hrun ?_;refine hK.out _ _ trivial ?_;clear hK hrun;refine d! ?_;have HO8:=HO7.out.tail [.int .i64 y.k,.string y.p.t,.string y.p.i,.string y.p.r,.slice so sm sc,.slice po y.ps.length pc] rfl;rw[HLN.out]at HO8;have hfin:=H.out.put (w8:=w7.setCells g (q.length*6) [.int .i64 y.k,.string y.p.t,.string y.p.i,.string y.p.r,.slice so sm sc,.slice po y.ps.length pc]) (y:=(y,(.slice so sm sc,.slice po y.ps.length pc))) (QX.out.trans HX3.out) HS6.out HGB.out (HK7.out.setMany (g:=g) (fun h=>h.1 rfl) _ _) HO8 (show Blk _ x _ _ from(setCells_other g _ _ _ (Ne.symm HGW.out)).trans B7.out) HY.out HN0.out HPV.out HX.out;go_end0
  exact⟨rfl,_,hfin.1,fun g' hg'=>by
   obtain rfl:g=g':=Option.some.inj hg';exact HGB.out.imp id fun e=>Nat.le_trans (QX.out.trans HX3.out).size e,hfin.2⟩
end Go.Proofs.YtlhaghoajpglaaaGreat
namespace Go.Proofs.YtlhaghoajpglaaaGreat
open Go Go.RowKit
theorem pointsT:ElemT Tryz.prog 59 32 3 48:=ElemT.mk' Tryz.underlying59 (show _=some (some (.agg #[.string ByteArray.empty,.string ByteArray.empty,.string ByteArray.empty]),3,48)by kernel_rfl) rfl (by decide)
theorem subsT:ElemT Tryz.prog 42 33 3 48:=ElemT.mk' Tryz.underlying42 (show _=some (some (.agg #[.string ByteArray.empty,.string ByteArray.empty,.string ByteArray.empty]),3,48)by kernel_rfl) rfl (by decide)
theorem pcs_length (l:List P3):(pcs l).length=3*l.length:=by
 unfold pcs;induction l with
 | nil=>rfl
 | cons a r ih=>rw[List.flatMap_cons,List.length_append,ih,pC_length,List.length_cons];omega
theorem pcs_one (l:List P3):∀ u∈pcs l,u.oneCell'=true:=by
 intro u hu;obtain⟨a,_,ha⟩:=List.mem_flatMap.1 hu;exact pC_one a u ha
theorem pcs_append (a b:List P3):pcs (a++b)=pcs a++pcs b:=List.flatMap_append
theorem pcs_single (a:P3):pcs [a]=pC a:=by simp[pcs]
end Go.Proofs.YtlhaghoajpglaaaGreat
namespace Go.Proofs.YtlhaghoajpglaaaGreat
open Go Go.RowKit Go.Maps
abbrev NLG (κ ι:Type):=List (κ × Nat × List ι)
abbrev nVG {ι:Type}:Nat × List ι->Value:=fun x => .map (some x.1)
abbrev blG {ι:Type} (l:List ι):List (ι × Bool):=l.map fun p=>(p,true)
theorem blG_keys {ι:Type} (l:List ι):(blG l).map (·.1)=l:=by simp[blG,Function.comp_def]
def innG {κ ι:Type} [DecidableEq κ] (l:NLG κ ι)(p:κ):List ι:=match lookA l p with | some x=>x.2 | none => []
structure NestG (P:Program)(ko k:TypeId) {κ ι:Type} (kvo:κ->Value)(kv:ι->Value)(w:World)(b:Nat)(l:NLG κ ι):Prop where
 top:Mp P ko kvo nVG w b l
 inner:∀ x∈l,Mp P k kv bV w x.2.1 (blG x.2.2)
 apart:(b::l.map (·.2.1)).Nodup
def nBG {κ ι:Type} (b:Nat)(l:NLG κ ι):List Nat:=b::l.map (·.2.1)
def mOG {κ ι:Type} [DecidableEq κ] (l:NLG κ ι)(q:κ):Option Nat:=(lookA l q).map (·.1)
theorem Mp.isMap {P:Program} {k:TypeId} {κ α:Type} {kv:κ->Value} {ev:α->Value} {w:World} {b:Nat} {l:List (κ × α)} (h:Mp P k kv ev w b l):∃ es c,w.heap[b]?=some (.map es c):=by
 obtain⟨es,c,h,_⟩:=h;exact⟨es,c,h⟩
theorem Mp.keyed {P:Program} {k:TypeId} {κ α:Type} {kv:κ->Value} {ev:α->Value} {w:World} {b:Nat} {l:List (κ × α)} (h:Mp P k kv ev w b l):∀ p∈l,∃ q,keyOf P k (kv p.1)=some q:=by
 obtain⟨_,_,_,_,_,h⟩:=h;exact h
theorem Mp.pairs {P:Program} {k:TypeId} {κ α:Type} {kv:κ->Value} {ev:α->Value} {w:World} {b:Nat} {l l':List (κ × α)} (h:Mp P k kv ev w b l)(he:l'.map (fun p=>(kv p.1,ev p.2))=l.map fun p=>(kv p.1,ev p.2))(hk:∀ p∈l',∃ q,keyOf P k (kv p.1)=some q):Mp P k kv ev w b l':=by
 obtain⟨es,c,h1,h2,h3,_⟩:=h;exact⟨es,c,h1,h2,h3.trans he.symm,hk⟩
theorem put_ghost {κ α β:Type} [DecidableEq κ] (f:κ × α->β) {a:κ} {x:α} (y:α)(hf:f (a,y)=f (a,x)):∀ {l:List (κ × α)},lookA l a=some x->(putA l a y).map f=l.map f
 | p::r,h=>by
  unfold lookA at h;unfold putA;by_cases hp:p.1=a
  ·rw[if_pos hp]at h ⊢;obtain rfl:p.2=x:=by simpa using h
   subst hp;simp[hf]
  ·rw[if_neg hp]at h ⊢;simp[put_ghost f y hf h]
section
variable {κ ι : Type} {P : Program} {ko k : TypeId} {kvo : κ -> Value} {kv : ι -> Value} {w w' : World} {b : Nat} {l : NLG κ ι}
theorem NestG.isMap (h:NestG P ko k kvo kv w b l):∀ x∈nBG b l,∃ es c,w.heap[x]?=some (.map es c):=by
 intro x hx;rcases List.mem_cons.1 hx with rfl | hx
 ·exact h.top.isMap
 ·obtain⟨e,he,rfl⟩:=List.mem_map.1 hx;exact(h.inner e he).isMap
theorem NestG.lt (h:NestG P ko k kvo kv w b l):∀ x∈nBG b l,x<w.heap.size:=fun x hx=>by
 obtain⟨es,c,hm⟩:=h.isMap x hx;exact(Array.getElem?_eq_some_iff.1 hm).1
theorem NestG.same (h:NestG P ko k kvo kv w b l)(hs:∀ x∈nBG b l,w'.heap[x]?=w.heap[x]?):NestG P ko k kvo kv w' b l :=
 ⟨h.top.same (hs b (by simp[nBG])),fun x hx=>(h.inner x hx).same (hs _ (by simp only[nBG];exact List.mem_cons_of_mem _ (List.mem_map.2 ⟨x,hx,rfl⟩))),h.apart⟩
theorem NestG.below (h:NestG P ko k kvo kv w b l)(hb:Below w.heap.size w w'):NestG P ko k kvo kv w' b l:=h.same fun x hx=>hb.block x (h.lt x hx)
theorem NestG.notBlk (h:NestG P ko k kvo kv w b l) {B:Nat} {cs:Array Value} {t:TypeId} (hB:Blk w B cs t):B∉nBG b l:=fun hx=>by
 obtain⟨es,c,hm⟩:=h.isMap B hx;rw[show w.heap[B]?=_ from hB]at hm;cases hm
variable [DecidableEq κ]
theorem NestG.look (h:NestG P ko k kvo kv w b l)(K:Keyed P ko)(inj:∀ a b,kvo a=kvo b->a=b) {t e:TypeId} (ht:P.underlying t=some (.map ko e))(hz:(zeroValue e).run P w = .ok (.map none) w) {q:κ} (hk:∃ z,keyOf P ko (kvo q)=some z) :
  (Instr.lookup t (.map (some b)) (kvo q) false).run P w = .ok (.map (mOG l q)) w:=by
 rw[h.top.look K inj ht hz false hk];unfold mOG lookV;cases lookA l q <;> rfl
theorem NestG.fresh (h:NestG P ko k kvo kv w b l) {q:κ} {bn:Nat} (hl:lookA l q=none)(hn:Mp P k kv bV w bn (blG []))(hb:bn∉nBG b l)(ht:Turned w w' b)(hm:Mp P ko kvo nVG w' b (putA l q (bn,[]))):NestG P ko k kvo kv w' b (putA l q (bn,[])):=by
 have hap:=h.apart;rw[put_miss (look_none_iff.1 hl)]at hm ⊢;refine⟨hm,fun x hx=>?_,?_⟩
 ·rcases List.mem_append.1 hx with hx | hx
  ·refine(h.inner x hx).same (ht.kept.block _ fun e=>?_);rw[List.nodup_cons]at hap;exact hap.1 (e▸List.mem_map.2 ⟨x,hx,rfl⟩)
  ·obtain rfl:x=(q,bn,[]):=by simpa using hx
   exact hn.same (ht.kept.block _ fun e=>hb (by simp[nBG,e]))
 ·rw[List.map_append,<- List.cons_append,List.nodup_append];refine⟨hap,by simp,fun x hx y hy=>?_⟩;obtain rfl:y=bn:=by simpa using hy
  rintro rfl;exact hb hx
theorem fresh_blocksG {q:κ} {bn:Nat} (hl:lookA l q=none):∀ x∈nBG b (putA l q (bn,[])),x∈nBG b l\/x=bn:=by
 rw[put_miss (look_none_iff.1 hl)];intro x hx;simp only[nBG,List.map_append,List.mem_cons,List.mem_append,List.map_cons,List.map_nil,List.not_mem_nil,or_false]at hx ⊢;rcases hx with h | h | h
 ·exact .inl (.inl h)
 ·exact .inl (.inr h)
 ·exact .inr h
theorem NestG.mark (h:NestG P ko k kvo kv w b l) {q:κ} {bi:Nat} {ss ss':List ι} (hl:lookA l q=some (bi,ss))(ht:Turned w w' bi)(hm:Mp P k kv bV w' bi (blG ss')):NestG P ko k kvo kv w' b (putA l q (bi,ss')):=by
 have hmem:=look_mem hl;have hap:=h.apart
 have hbn:b≠bi:=fun e=>by
  rw[List.nodup_cons]at hap;exact hap.1 (e▸List.mem_map.2 ⟨_,hmem,rfl⟩)
 refine⟨?_,fun x hx=>?_,?_⟩
 ·refine Mp.pairs (h.top.same (ht.kept.block _ hbn)) (put_ghost (x:=(bi,ss)) _ (bi,ss') rfl hl) fun x hx=>?_;rcases put_keys_mem _ _ _ hx with rfl | hx
  ·have:=h.top.keyed _ hmem;exact this
  ·exact h.top.keyed _ hx
 ·by_cases hxb:x.2.1=bi
  ·have hnd:(l.map (·.2.1)).Nodup:=(List.nodup_cons.1 hap).2
   have hx2:x=(q,bi,ss'):=by
    have hkn:=h.top.nodup;rw[show putA l q (bi,ss')=l.map (fun e=>if e.1=q then(q,bi,ss')else e)from ?_]at hx
    ·obtain⟨e,he,rfl⟩:=List.mem_map.1 hx;by_cases heq:e.1=q
     ·simp[heq]
     ·simp only[heq,if_false]at hxb ⊢;exfalso
      obtain⟨i,hi,hie⟩:=List.getElem_of_mem he;obtain⟨j,hj,hje⟩:=List.getElem_of_mem hmem
      have hij:i=j:=by
       have h1:(l.map (·.2.1))[i]'(by simpa using hi)=(l.map (·.2.1))[j]'(by simpa using hj):=by simp[hie,hje,hxb]
       have hpw:=List.pairwise_iff_getElem.1 hnd;rcases Nat.lt_trichotomy i j with hlt | heq' | hlt
       ·exact absurd h1 (hpw i j _ _ hlt)
       ·exact heq'
       ·exact absurd h1.symm (hpw j i _ _ hlt)
      subst hij;rw[hie]at hje;exact heq (by rw[hje])
    ·clear hx hxb hnd hap hmem hbn ht hm h;induction l with
     | nil=>simp[lookA]at hl
     | cons e r ih =>
      simp only[List.map_cons,List.nodup_cons]at hkn;unfold lookA at hl;unfold putA;by_cases he:e.1=q
      ·rw[if_pos he,List.map_cons,if_pos he];congr 1
       rw[eq_comm];conv=>rhs;rw[<- List.map_id r]
       refine List.map_congr_left fun y hy=>?_;rw[if_neg (fun hyq=>hkn.1 (by rw[he,<- hyq];exact List.mem_map.2 ⟨y,hy,rfl⟩))];rfl
      ·rw[if_neg he]at hl ⊢;rw[List.map_cons,if_neg he,ih hl hkn.2]
   subst hx2;exact hm
  ·rcases put_keys_mem _ _ _ hx with rfl | hx
   ·exact absurd rfl hxb
   ·exact(h.inner x hx).same (ht.kept.block _ hxb)
 ·rw[put_ghost (x:=(bi,ss)) (fun e:κ × Nat × List ι=>e.2.1) (bi,ss') rfl hl];exact hap
theorem mark_blocksG {q:κ} {bi:Nat} {ss ss':List ι} (hl:lookA l q=some (bi,ss)):nBG b (putA l q (bi,ss'))=nBG b l:=by
 unfold nBG;rw[put_ghost (x:=(bi,ss)) (fun e:κ × Nat × List ι=>e.2.1) (bi,ss') rfl hl]
end
structure O2 where
 t:ByteArray
 i:ByteArray
deriving DecidableEq
def oV (o:O2):Value := .agg #[.string o.t,.string o.i]
theorem oV_inj (a b:O2)(h:oV a=oV b):a=b:=by
 obtain⟨a1,a2⟩:=a;obtain⟨b1,b2⟩:=b;simpa [oV] using h
def O2.Ok (o:O2):Prop:=o.t.size<=maxLen/\o.i.size<=maxLen
theorem objK:Keyed Tryz.prog 30:=Keyed.of_law (deep_law_laid laidOut (m:=3) (by decide) (of_decide_eq_true (by kernel_rfl)) (by kernel_rfl) (by kernel_rfl))
theorem obj_key (o:O2)(h:o.Ok):∃ q,keyOf Tryz.prog 30 (oV o)=some q:=by
 obtain⟨d,hd⟩:=types_many;have e:=obj_lits (d+1+1) o.t o.i h.1 h.2;have e2:(Tryz.prog.keyType 30&&(oV o).formed Tryz.prog 30)=true:=by kernel_rfl
 have hs:Tryz.prog.types.size+1=d+1+1+1+1:=by omega
 unfold keyOf;rw[Tryz.underlying30];dsimp only;rw[if_pos e2,hs];rw[show(oV o).cells.toList=[.string o.t,.string o.i]from rfl,e];exact⟨_,rfl⟩
def P3.obj (p:P3):O2:=⟨p.t,p.i⟩
def subE:Elm P3:=⟨33,3,pC,pC_length,by decide⟩
def pntE:Elm P3:=⟨32,3,pC,pC_length,by decide⟩
def pointsOf (T:List Tup)(s:P3):List P3:=(T.filter fun t=>decide (t.s=s)).map (·.o)
def ObjIn (T:List Tup)(o:O2):Prop:=∃ t∈T,t.o.obj=o\/t.s.obj=o
theorem subsOf_snoc (T:List Tup)(t:Tup)(p:P3):subsOf (T++[t]) p=if t.o=p then subsOf T p++[t.s]else subsOf T p:=by
 unfold subsOf;rw[List.filter_append,List.map_append];by_cases h:t.o=p
 ·simp[h]
 ·simp[h]
theorem pointsOf_snoc (T:List Tup)(t:Tup)(p:P3):pointsOf (T++[t]) p=if t.s=p then pointsOf T p++[t.o]else pointsOf T p:=by
 unfold pointsOf;rw[List.filter_append,List.map_append];by_cases h:t.s=p
 ·simp[h]
 ·simp[h]
abbrev OL:=NLG ByteArray O2
abbrev ONest (w:World) (b:Nat) (l:OL):Prop:=NestG Tryz.prog 9 30 Value.string oV w b l
structure BkOf (w:World)(B b m1 m2 m3:Nat)(l:OL)(T:List Tup):Prop where
 box:Blk w b #[.map (some m1),.map (some m2),.map (some m3)] 149
 subs:MR Tryz.prog 32 pV subE w B m1 (subsOf T)
 pnts:MR Tryz.prog 33 pV pntE w B m2 (pointsOf T)
 objs:ONest w m3 l
 ne:m1≠m2/\m1∉nBG m3 l/\m2∉nBG m3 l
 what:∀ typ o,o∈innG l typ↔o.t=typ/\ObjIn T o
def BookAt (w:World)(b:Nat)(T:List Tup):Prop:=∃ B m1 m2 m3 l,BkOf w B b m1 m2 m3 l T
section
variable {w w' : World} {B b m1 m2 m3 : Nat} {l : OL} {T : List Tup}
theorem BkOf.ext (h:BkOf w B b m1 m2 m3 l T)(hx:Ext w w'):BkOf w' B b m1 m2 m3 l T:=⟨h.box.below hx,h.subs.up hx,h.pnts.up hx,h.objs.below hx,h.ne,h.what⟩
theorem BookAt.ext (h:BookAt w b T)(hx:Ext w w'):BookAt w' b T:=by
 obtain⟨B,m1,m2,m3,l,h⟩:=h;exact⟨B,m1,m2,m3,l,h.ext hx⟩
end
theorem cloneU_own {S:Nat->Prop} (v:Value)(bs:List P3)(w:World)(hSw:∀ b,S b->b<w.heap.size)(h:Sl S w 3 v (pcs bs))(hl:bs.length<=1073741824) :
  Calls Tryz.prog 317 #[v] w fun e w'=>∃ v',e = .returned v'/\Own w' w.heap.size 33 3 v' (pcs bs)/\Ext w w':=by
 have HS:=h! h;have HL:=h! hl;obtain⟨ao,n,c,rfl,hn,hnc,hcm,hnil,-⟩:=h;rw[pcs_length]at hn;obtain rfl:n=bs.length:=by omega
 rcases ao with _ | ad
 ·obtain rfl:c=0:=hnil rfl;obtain rfl:bs=[]:=List.eq_nil_of_length_eq_zero (by omega);simp only[List.length_nil]at *;have hq:∀ W,(binOp BinOp.eql 42 (.slice none 0 0) (.slice none 0 0)).run Tryz.prog W = .ok (.bool true) W:=fun _=>by kernel_rfl
  go_enter Tryz.func317,Tryz.ntmps317
  go_wp2_with fail
  go_ret
  exact⟨_,rfl,Own.nil _ _ _ _,Ext.refl _⟩
 ·have hq:∀ W,(binOp BinOp.eql 42 (.slice (some ad) bs.length c) (.slice none 0 0)).run Tryz.prog W = .ok (.bool false) W:=fun _=>by kernel_rfl
  have HO:=h! (Own.made w (Nat.le_refl _) 33 3);have HX:=h! (Ext.alloc w (.cells #[] 33));have HS1:=h! (HS.out.same (w':=w.alloc (.cells #[] 33)) ((Same.below HX.out).mono hSw));go_enter Tryz.func317,Tryz.ntmps317
  go_wp2_with (at_builtin;go_must (refine wpList_own2 subsT rfl (.tmp 5) (.tmp 6) rfl rfl HO.out rfl HS1.out (pcs_one _) (by have:=HL.out;rw[pcs_length];simp only[List.length_nil];omega) (by have:=HL.out;rw[pcs_length];simp only[List.length_nil];omega) (by simp) ?_;intro v5 w5 hown5 hb5 _;have HF:=h! (show Own w5 w.heap.size 33 3 v5 (pcs bs)from by rw[List.nil_append]at hown5;exact hown5);have HX5:=h! (show Ext w w5 from Below.trans HX.out hb5);obtain⟨ao5,n5,c5,rfl,-,-,-⟩:=hown5.sl.len;clear hown5 hb5))
  go_ret
  exact⟨_,rfl,HF.out,HX5.out⟩
theorem Own.low {w:World} {B B':Nat} {e:TypeId} {sz:Nat} {v:Value} {xs:List Value} (h:Own w B e sz v xs)(hb:B'<=B):Own w B' e sz v xs:=by
 obtain⟨n,h⟩:=h;refine⟨n,h.1,?_⟩;rcases h.2 with hn | ⟨g,cap,cur,rfl,hbg,r⟩
 ·exact .inl hn
 ·exact .inr ⟨g,cap,cur,rfl,by omega,r⟩
theorem MR.lookE {P:Program} {k:TypeId} {κ ι:Type} [DecidableEq κ] {kv:κ->Value} {E:Elm ι} {w:World} {B b:Nat} {f:κ->List ι} (h:MR P k kv E w B b f)(K:Keyed P k)(inj:∀ a b,kv a=kv b->a=b) {t e:TypeId} (ht:P.underlying t=some (.map k e))(hz:∀ W,(zeroValue e).run P W = .ok (.slice none 0 0) W) {n:κ} (hn:∃ q,keyOf P k (kv n)=some q) :
  ∃ v,(∀ W,Ext w W->(Instr.lookup t (.map (some b)) (kv n) false).run P W = .ok v W)/\Own w B E.e E.sz v ((f n).flatMap E.enc):=by
 obtain⟨v,_,ho,lw,hM,_,_,hl⟩:=h.look K inj ht (hz w) hn;refine⟨v,fun W hW=>?_,ho⟩;rw[(hM.below hW).look K inj ht (hz W) false hn];rcases hl with hl | ⟨hl,-,rfl⟩ <;> rw[hl] <;> rfl
theorem bookSubs_any (b:Nat)(T:List Tup)(p:P3)(w:World)(hp:p.Ok)(h:BookAt w b T)(hl:(subsOf T p).length<=1073741824) :
  Calls Tryz.prog 316 #[.pointer (some ⟨b,0,none⟩),pV p] w fun e w'=>∃ v,e = .returned (.tuple #[v,.int .i64 0])/\Own w' w.heap.size 33 3 v (pcs (subsOf T p))/\Ext w w':=by
 obtain⟨B,m1,m2,m3,l,h⟩:=h;have HL:=h! hl;have HK:=h! (point_key p hp);have HS0:=h! h.subs;have HB0:=h! h.box;generalize hsl:subsOf T p=sl at *;have HSL:=h! hsl;clear hsl;obtain⟨pt,pi,pr⟩:=p;have hx1:=Ext.alloc w (.cells #[.string pt,.string pi,.string pr] 32);have HP1:=h! (Blk.made w #[.string pt,.string pi,.string pr] 32);have HX1:=h! hx1;clear hx1 h hp hl;unfold pV;dsimp only;go_enter Tryz.func316,Tryz.ntmps316
 go_wp2_with fail
 obtain⟨wd,hwd⟩:∃ wd,wd=(w.alloc (.cells #[.string pt,.string pi,.string pr] 32)).drew:=⟨_,rfl⟩;have HPd:=h! (show Blk wd w.heap.size #[.string pt,.string pi,.string pr] 32 from by rw[hwd];exact HP1.out.drew);have HXd:=h! (show Ext w wd from by rw[hwd];exact HX1.out.trans (Ext.drew _));refine r! (Ext wd) (by rw[<- hwd];exact Ext.refl _) ?_;rw[<- hwd];clear hwd HP1 HX1;have h1:=fun W (h:Ext wd W)=>((HB0.out.below HXd.out).below h).cells;have h2:=fun W (h:Ext wd W)=>(HPd.out.below h).cells;obtain⟨v,hlook,hv⟩:=(HS0.out.up HXd.out).lookE pointK pV_inj Tryz.underlying145 Tryz.zeroValue42 HK.out;have HV:=h! (show Own wd B 33 3 v (pcs sl)from by rw[<- HSL.out];exact hv);unfold pV at hlook;dsimp only at hlook;clear hv;(refine WalkN.tk [0,1,2,3,4,5] ?_;(iterate 6 (refine c! ?_));refine TkN.n ?_)
 clear h1 h2 hlook;refine o! 6 ?_;refine b! ?_;intro K hK;go_simp;refine(cloneU_own v sl wd (fun x hx=>hx.2) HV.out.sl HL.out).mono ?_;rintro e w2 ⟨v2,rfl,ho2,hx2⟩;have HO2:=h! ho2;have HX2:=h! hx2;refine hK.out _ _ hx2 ?_;clear hK hx2;obtain⟨ao,n,c,rfl,-,-,-⟩:=ho2.sl.len;clear ho2;(refine WalkN.tk [7,8] ?_;(iterate 2 (refine c! ?_));refine TkN.n ?_)
 refine d! ?_;go_wp2_with fail
 go_ret2
 exact⟨_,rfl,HO2.out.low (HXd.out.size),HXd.out.trans HX2.out⟩
abbrev bkV (b:Nat):Value := .iface 49 (.pointer (some ⟨b,0,none⟩))
abbrev BdC (tv fi sm:Value) (L e:Int):Array Value:=#[tv,fi,sm,.int .i64 L,.int .i64 e]
theorem Kept.same_ext {w w':World} {B:Nat} {cs:Array Value} {e:TypeId} (h:Kept (· ≠ B) w w')(hb:Blk w B cs e)(hb':Blk w' B cs e):Ext w w' :=
 ⟨h.os,h.tape,h.output,h.size,fun b _=>by
  by_cases e:b=B
  ·subst e;exact(show w'.heap[b]?=_ from hb').trans (show w.heap[b]?=_ from hb).symm
  ·exact h.block b e⟩
theorem stopE_any (bp:Nat)(tv fi sm:Value)(L x:Int)(w:World)(h:Blk w bp (BdC tv fi sm L 0) 143) :
  Calls Tryz.prog 193 #[.pointer (some ⟨bp,0,none⟩),.int .i64 x] w fun e w'=>e = .returned (.tuple #[])/\Blk w' bp (BdC tv fi sm L x) 143/\Kept (· ≠ bp) w w':=by
 have H:=h! h;have hc:=h.cells;have hf:=h.free;clear h;unfold BdC at *;go_enter Tryz.func193,Tryz.ntmps193
 go_wp2_with fail
 have h2:=H.out.set_to (cs':=#[tv,fi,sm,.int .i64 L,.int .i64 x]) 4 (.int .i64 x) rfl;have h3:=(Kept.refl (· ≠ bp) w).set (a:=⟨bp,4,none⟩) (fun h=>h rfl) (.int .i64 x);go_end0
 exact⟨rfl,h2,h3⟩
theorem count_any (bp:Nat)(tv fi sm:Value)(L:Int)(w:World)(h:Blk w bp (BdC tv fi sm L 0) 143)(h0:0<=L)(h1:L<=1000000) :
  Calls Tryz.prog 134 #[.pointer (some ⟨bp,0,none⟩)] w fun e w'=>e = .returned (.bool (decide (0<L)))/\Blk w' bp (BdC tv fi sm (L-1) (if 0<L then 0 else 10)) 143/\Kept (· ≠ bp) w w':=by
 have H:=h! h;have hc:=h.cells;have hf:=h.free;have hw:wrap64 (L-1)=L-1:=by unfold wrap64;omega
 have HS:=h! (H.out.set_to (cs':=BdC tv fi sm (L-1) 0) 3 (.int .i64 (L-1)) rfl);have HK:=h! ((Kept.refl (· ≠ bp) w).set (a:=⟨bp,3,none⟩) (fun h=>h rfl) (.int .i64 (L-1)));clear h;unfold BdC at hc;by_cases hl:0<L
 ·have hlt:¬ (L-1<0):=by omega
  rw[if_pos hl,decide_eq_true hl];clear h0 h1;go_enter Tryz.func134,Tryz.ntmps134
  go_wp2_with fail
  go_ret
  exact⟨rfl,HS.out,HK.out⟩
 ·have hlt:L-1<0:=by omega
  rw[if_neg hl,decide_eq_false hl];have HST:=h! (stopE_any bp tv fi sm (L-1) 10 _ HS.out);clear h0 h1;go_enter Tryz.func134,Tryz.ntmps134
  go_wp2_with fail
  refine HST.out.mono ?_;rintro e w2 ⟨rfl,hb2,hk2⟩;have HB2:=h! hb2;have hc2:=hb2.cells;have HK2:=h! (HK.out.trans hk2);clear hb2 hk2 hc hf;unfold BdC at hc2;go_wp2_with fail
  go_ret
  exact⟨rfl,HB2.out,HK2.out⟩
theorem esubs_any (bp b:Nat)(tv sm:Value)(L:Int)(T:List Tup)(p:P3)(w:World)(hp:p.Ok)(h:Blk w bp (BdC tv (bkV b) sm L 0) 143)(hb:BookAt w b T)(hl:(subsOf T p).length<=1073741824) :
  Calls Tryz.prog 195 #[.pointer (some ⟨bp,0,none⟩),pV p] w fun e w'=>∃ v,e = .returned v/\Own w' w.heap.size 33 3 v (pcs (subsOf T p))/\Ext w w':=by
 have HL:=h! hl;have HOK:=h! hp;have HSB:=h! (fun W (hW:Ext w W)=>bookSubs_any b T p W hp (hb.ext hW) hl);generalize hsl:subsOf T p=sl at *;obtain⟨pt,pi,pr⟩:=p;have hx1:=Ext.alloc w (.cells #[.string pt,.string pi,.string pr] 32);have HB1:=h! (h.below hx1);have HP1:=h! (Blk.made w #[.string pt,.string pi,.string pr] 32);have HX1:=h! hx1;clear hx1 h hb hp hl hsl;unfold pV at *;dsimp only at *;go_enter Tryz.func195,Tryz.ntmps195
 go_wp2_with fail
 obtain⟨wd,hwd⟩:∃ wd,wd=(w.alloc (.cells #[.string pt,.string pi,.string pr] 32)).drew:=⟨_,rfl⟩;have HBd:=h! (show Blk wd bp _ _ from by rw[hwd];exact HB1.out.drew);have HPd:=h! (show Blk wd w.heap.size #[.string pt,.string pi,.string pr] 32 from by rw[hwd];exact HP1.out.drew);have HXd:=h! (show Ext w wd from by rw[hwd];exact HX1.out.trans (Ext.drew _));refine r! (Ext wd) (by rw[<- hwd];exact Ext.refl _) ?_;rw[<- hwd];clear hwd HP1 HX1 HB1;have h1:=fun W (h:Ext wd W)=>(HBd.out.below h).cells;have h2:=fun W (h:Ext wd W)=>(HPd.out.below h).cells;(refine WalkN.tk [0,1,2,3,4] ?_;(iterate 5 (refine c! ?_));refine TkN.n ?_)
 clear h1 h2;refine o! 5 ?_;refine b! ?_;intro K hK;go_simp;refine(HSB.out wd HXd.out).mono ?_;rintro e w2 ⟨v2,rfl,ho2,hx2⟩;have HO2:=h! ho2;have HX2:=h! hx2;refine hK.out _ _ hx2 ?_;clear hK hx2;obtain⟨ao,n,c,rfl,-,-,-⟩:=ho2.sl.len;clear ho2;(refine WalkN.tk [6,7,8,9,10] ?_;(iterate 5 (refine c! ?_));refine TkN.n ?_)
 refine d! ?_;have HB2:=h! (HBd.out.below HX2.out);have HST:=h! (stopE_any bp _ _ _ L 0 w2 HB2.out);have HO3:=h! (HO2.out.low HXd.out.size);have HX3:=h! (HXd.out.trans HX2.out);clear HO2 HX2 HBd HPd HXd;go_wp2_with fail
 refine HST.out.mono ?_;rintro e w3 ⟨rfl,hb3,hk3⟩;have HX4:=h! (hk3.same_ext HB2.out hb3);clear hb3 hk3;go_wp2_with fail
 go_ret
 exact⟨_,rfl,HO3.out.below HX4.out,Ext.trans HX3.out HX4.out⟩
theorem isEmpty_ba (b:ByteArray):b.toList.isEmpty=decide (b=⟨#[]⟩):=by
 by_cases h:b=⟨#[]⟩
 ·subst h;simp[ByteArray.toList_eq]
 ·rw[decide_eq_false h];cases hb:b.toList.isEmpty with
  | false=>rfl
  | true =>
   refine absurd ?_ h;rw[List.isEmpty_iff,ByteArray.toList_eq]at hb;obtain⟨⟨d⟩⟩:=b;simp only at hb;subst hb;rfl
def usetF (s:P3):P3:=s
def viaF (b:ByteArray)(s:P3):P3:=⟨s.t,s.i,b⟩
def selF (ok:P3->Bool)(f:P3->P3)(l:List P3):List P3:=(l.filter ok).map f
theorem setsOf_sel (l:List P3):setsOf l=selF (fun s=>decide (s.r≠⟨#[]⟩)) usetF l:=by
 unfold setsOf selF;rw[show(usetF:P3->P3)=id from rfl,List.map_id]
theorem viaOf_sel (b:ByteArray)(l:List P3):viaOf b l=selF (fun s=>decide (s.r=⟨#[]⟩)) (viaF b) l:=rfl
theorem selF_yes {ok:P3->Bool} {f:P3->P3} {l:List P3} {i:Nat} (hi:i<l.length)(h:ok l[i]=true):selF ok f (l.take (i+1))=selF ok f (l.take i)++[f l[i]]:=by
 unfold selF;rw[List.take_succ_eq_append_getElem hi,List.filter_append,List.map_append];simp[h]
theorem selF_no {ok:P3->Bool} {f:P3->P3} {l:List P3} {i:Nat} (hi:i<l.length)(h:ok l[i]=false):selF ok f (l.take (i+1))=selF ok f (l.take i):=by
 unfold selF;rw[List.take_succ_eq_append_getElem hi,List.filter_append];simp[h]
theorem selF_len (ok:P3->Bool)(f:P3->P3)(l:List P3):(selF ok f l).length<=l.length:=by
 unfold selF;rw[List.length_map];exact List.length_filter_le _ _
theorem putP_len (ps:List P3)(p:P3):(putP ps p).length<=ps.length+1:=by
 unfold putP;split
 ·omega
 ·simp
theorem refsD_len2:∀ (l ps:List P3)(out:List Int),(refsD ps out l).2.length<=ps.length+l.length
 | [],ps,_=>by simp[refsD]
 | p::l,ps,out=>by
  rw[refsD];have h1:=refsD_len2 l (putP ps p) (if (numD ps p:Int)∈out then out else out++[(numD ps p:Int)]);have h2:=putP_len ps p;rw[List.length_cons];omega
theorem refsD_len1:∀ (l ps:List P3)(out:List Int),(refsD ps out l).1.length<=out.length+l.length
 | [],ps,_=>by simp[refsD]
 | p::l,ps,out=>by
  rw[refsD];have h1:=refsD_len1 l (putP ps p) (if (numD ps p:Int)∈out then out else out++[(numD ps p:Int)])
  have h2:(if (numD ps p:Int)∈out then out else out++[(numD ps p:Int)]).length<=out.length+1:=by
   split
   ·omega
   ·simp
  rw[List.length_cons];omega
theorem formsT:ElemT Tryz.prog 94 128 4 80:=ElemT.mk' Tryz.underlying94 (show _=some (some (.agg #[.int .i64 0,.slice none 0 0,.slice none 0 0,.slice none 0 0]),4,80)by kernel_rfl) rfl (by decide)
theorem fCs_length (q:List (FT × FV3)):(q.flatMap fC).length=q.length*4:=by rw[flat_length fC_length]
theorem Blk.put4 {w:World} {B:Nat} {a b c d:Value} {e:TypeId} (h:Blk w B #[a,b,c,d] e)(x0 x1 x2 x3:Value):Blk ((((w.setCell ⟨B,0,none⟩ x0).setCell ⟨B,1,none⟩ x1).setCell ⟨B,2,none⟩ x2).setCell ⟨B,3,none⟩ x3) B #[x0,x1,x2,x3] e:=(((h.set_to (cs':=#[x0,b,c,d]) 0 x0 rfl).set_to (cs':=#[x0,x1,c,d]) 1 x1 rfl).set_to (cs':=#[x0,x1,x2,d]) 2 x2 rfl).set_to 3 x3 rfl
theorem Own.lit1 (w:World) {B:Nat} (hB:B<=w.heap.size)(e:TypeId)(x:Value):Own (w.alloc (.cells #[x] e)) B e 1 (.slice (some ⟨w.heap.size,0,none⟩) 1 1) [x] :=
 ⟨1,by simp,.inr ⟨w.heap.size,1,#[x],rfl,hB,heap_alloc_new w _,Nat.le_refl _,by unfold maxLen;omega,by simp,by simp⟩⟩
theorem headF_len (T:List Tup)(p:P3)(k:Int)(a b:ByteArray)(ps:List P3):(headF T p k a b ps).2.2.length<=ps.length+(T.length+1):=by
 have hs:∀ q,(subsOf T q).length<=T.length:=fun q=>by
  unfold subsOf;rw[List.length_map];exact List.length_filter_le _ _
 unfold headF;split
 ·have h1:=refsD_len2 (setsOf (subsOf T p)) ps [];have h2:=selF_len (fun s=>decide (s.r≠⟨#[]⟩)) usetF (subsOf T p);rw[<- setsOf_sel]at h2;have h3:=hs p;simp only;omega
 ·split
  ·have:=putP_len ps ⟨p.t,p.i,a⟩;simp only;omega
  ·split
   ·have h1:=refsD_len2 (viaOf b (subsOf T ⟨p.t,p.i,a⟩)) ps [];have h2:=selF_len (fun s=>decide (s.r=⟨#[]⟩)) (viaF b) (subsOf T ⟨p.t,p.i,a⟩);rw[<- viaOf_sel]at h2;have h3:=hs ⟨p.t,p.i,a⟩;simp only;omega
   ·simp only;omega
theorem formD_len (T:List Tup)(p:P3)(r:RT):∀ ps:List P3,(formD T p r ps).2.length<=ps.length+r.sz*(T.length+1):=by
 induction r using RT.ind with
 | h r ih =>
  intro ps;rw[formD_eq,RT.sz_eq]
  have:∀ (l:List RT) (qs:List P3),(∀ x∈l,x∈r.ps)->(formsD T p l qs).2.length<=qs.length+szL l*(T.length+1):=by
   intro l;induction l with
   | nil=>intro qs _;simp[formsD]
   | cons x l ihl =>
    intro qs hx;rw[formsD,szL];have h1:=ihl (formD T p x qs).2 fun y hy=>hx y (List.mem_cons_of_mem _ hy);have h2:=ih x (hx x (by simp)) qs;rw[Nat.add_mul];simp only;omega
  have h1:=this r.ps (headF T p r.k r.a r.b ps).2.2 fun _ h=>h;have h2:=headF_len T p r.k r.a r.b ps;rw[Nat.add_mul];simp only;omega
theorem formsD_len (T:List Tup)(p:P3):∀ (l:List RT)(qs:List P3),(formsD T p l qs).2.length<=qs.length+szL l*(T.length+1)
 | [],qs=>by simp[formsD]
 | x::l,qs=>by
  rw[formsD,szL];have h1:=formsD_len T p l (formD T p x qs).2;have h2:=formD_len T p x qs;rw[Nat.add_mul];simp only;omega
theorem szL_many:∀ l:List RT,l.length<=szL l
 | []=>by simp[szL]
 | r::l=>by
  have:=szL_many l;have h:=r.sz_eq;rw[szL,List.length_cons];omega
theorem szL_take_le:∀ (l:List RT)(i:Nat),szL (l.take i)<=szL l
 | [],i=>by simp
 | r::l,0=>by simp[szL]
 | r::l,i+1=>by
  have:=szL_take_le l i;rw[List.take_succ_cons,szL,szL];omega
theorem form_room {T:List Tup} {p:P3} {k:Int} {a b:ByteArray} {parts:List RT} {ps:List P3} {N:Nat} (h:ps.length+(RT.mk k a b parts).sz*(T.length+1)<=N)(i:Nat)(hi:i<parts.length):(formsD T p (parts.take i) (headF T p k a b ps).2.2).2.length+parts[i].sz*(T.length+1)<=N:=by
 rw[RT.sz_eq]at h;have h1:=formsD_len T p (parts.take i) (headF T p k a b ps).2.2;have h2:=headF_len T p k a b ps;have h3:=szL_take hi;have h4:=szL_take_le parts (i+1);have h5:szL (parts.take (i+1))*(T.length+1)<=szL parts*(T.length+1):=Nat.mul_le_mul_right _ h4;rw[h3,Nat.add_mul]at h5;rw[Nat.add_mul]at h;simp only[RT.ps]at h;omega
structure FmAt (w:World)(lo x:Nat)(k:Int)(subs:List P3)(refs:List Int)(q:List (FT × FV3))(sv rv qv:Value):Prop where
 box:Blk w x #[.int .i64 k,sv,rv,qv] 128
 subs:Own w lo 33 3 sv (pcs subs)
 refs:Own w lo 3 1 rv (ic refs)
 parts:FRow lo w q qv
section
variable {w w' : World} {lo x wp am B : Nat} {k : Int} {subs : List P3} {refs : List Int} {q : List (FT × FV3)} {sv rv qv tv fi sm pv fv pv' : Value} {ps : List P3}
theorem FmAt.ext (h:FmAt w lo x k subs refs q sv rv qv)(hx:Ext w w'):FmAt w' lo x k subs refs q sv rv qv:=⟨h.box.below hx,h.subs.below hx,h.refs.below hx,h.parts.ext hx⟩
theorem FmAt.add {w2 w3 w4:World} {y:FT × FV3} {v':Value} {n0:Nat} (h:FmAt w2 lo x k subs refs q sv rv qv)(hx3:Ext w2 w3)(hg:w3.grownBy w4 qv.ownBlock)(ho:Own w4 lo 128 4 v' (q.flatMap fC++fC y))
  (hb:∀ g,v'.ownBlock=some g->qv.ownBlock=some g\/w3.heap.size<=g) (hy:FTAt (FS n0 w2) w2 y.1 y.2) (hn0:lo<=n0) (hpv:∀ g,qv.ownBlock=some g->g<n0) (hxl:x<lo):FmAt (w4.setCell ⟨x,3,none⟩ v') lo x k subs refs (q++[y]) sv rv v':=by
 have hb4:Blk w4 x #[.int .i64 k,sv,rv,qv] 128:=(hg.block x (h.box.below hx3).lt fun e=>by have:=(h.parts.row.block x e.symm).1;omega).trans (h.box.below hx3);have hq3:=h.parts.row.below hx3;refine⟨hb4.set_to 3 v' rfl,?_,?_,?_⟩
 ·exact Own.setBox (x:=x) ((h.subs.below hx3).keepOwn fun g hgs=>hg.block g ((h.subs.below hx3).block g hgs).2 fun e=>(h.subs.below hx3).apart hq3 (by decide) hgs e.symm) hb4 (by decide) _
 ·exact Own.setBox (x:=x) ((h.refs.below hx3).keepOwn fun g hgs=>hg.block g ((h.refs.below hx3).block g hgs).2 fun e=>(h.refs.below hx3).apart hq3 (by decide) hgs e.symm) hb4 (by decide) _
 ·refine FRow.above (h.parts.add (w3:=w4) (fun b h1 h2=>(hg.block b (Nat.lt_of_lt_of_le h1 hx3.size) fun e=>h2 e.symm).trans (hx3.block b h1)) (Nat.le_trans hx3.size hg.size) ho (fun g hg'=>(hb g hg').imp id fun e=>Nat.le_trans hx3.size e) hy hn0 hpv) (fun b hb _=>Below.heap_setCell _ _ _ b (by show b≠x;omega)) (by simp)
theorem FmAt.setSubs {s2:List P3} {sv':Value} (h:FmAt w lo x k subs refs q sv rv qv)(hs:Own w lo 33 3 sv' (pcs s2))(hx:x<lo):FmAt (w.setCell ⟨x,1,none⟩ sv') lo x k s2 refs q sv' rv qv :=
 ⟨h.box.set_to 1 sv' rfl,hs.setBox (x:=x) h.box (by decide) _,h.refs.setBox (x:=x) h.box (by decide) _,FRow.above h.parts (fun b hb _=>Below.heap_setCell _ _ _ b (by show b≠x;omega)) (by simp)⟩
theorem FmAt.setRefs {r2:List Int} {rv':Value} (h:FmAt w lo x k subs refs q sv rv qv)(hs:Own w lo 3 1 rv' (ic r2))(hx:x<lo):FmAt (w.setCell ⟨x,2,none⟩ rv') lo x k subs r2 q sv rv' qv :=
 ⟨h.box.set_to 2 rv' rfl,h.subs.setBox (x:=x) h.box (by decide) _,hs.setBox (x:=x) h.box (by decide) _,FRow.above h.parts (fun b hb _=>Below.heap_setCell _ _ _ b (by show b≠x;omega)) (by simp)⟩
theorem formsD_len1 (T:List Tup)(p:P3):∀ (l:List RT)(qs:List P3),(formsD T p l qs).1.length=l.length
 | [],qs=>rfl
 | x::l,qs=>by rw[formsD,List.length_cons,List.length_cons,formsD_len1 T p l]
theorem FmAt.done {r:FT} (h:FmAt w lo x k subs refs q sv rv qv)(hr:r = .mk k subs refs (q.map (·.1)))(hs:∀ b,lo<=b->b<w.heap.size->w'.heap[b]?=w.heap[b]?)(hz:w.heap.size<=w'.heap.size):FTAt (FS lo w') w' r (sv,rv,qv):=by
 have hsame:Same (FS lo w) w w':=fun b hb=>hs b hb.1 hb.2.1;have hmono:∀ b,FS lo w b->FS lo w' b:=fun b hb=>⟨hb.1,Nat.lt_of_lt_of_le hb.2.1 hz,fun cs=>by rw[hs b hb.1 hb.2.1];exact hb.2.2 cs⟩;refine(FTAt.iff _ _).2 ?_;subst hr;refine⟨((h.subs.fs (by decide)).same hsame).mono hmono,((h.refs.fs (by decide)).same hsame).mono hmono,q,rfl,fun y hy=>?_,((h.parts.row.fs (by decide)).same hsame).mono hmono⟩;exact(((h.parts.parts y hy).mono fun b hb=>hb.1).same hsame).mono hmono
end
end Go.Proofs.YtlhaghoajpglaaaGreat
namespace Go.Proofs.YtlhaghoajpglaaaGreat
open Go Go.RowKit
theorem kept_freeze {K:Nat->Prop} {w w':World} (h:Kept K w w') {p:Addr} (hp:¬ K p.block)(n:Nat):Kept K w (w'.freeze p n):=by
 have hb:=Lib.below_freeze (B:=0) (Below.refl 0 w') (p:=p) (Nat.zero_le _) n;refine h.trans ⟨hb.os,hb.tape,hb.output,hb.size,fun x hx=>?_⟩;have hne:x≠p.block:=fun e=>hp (e▸hx);unfold World.freeze;split
 ·rfl
 ·simp only[Array.getElem?_modify];rw[if_neg (Ne.symm hne)]
theorem wname_any {B b:Nat} {text:ByteArray} {odd:Bool} {w:World} (s:ByteArray)(h:WrB w B b text odd)(hlen:text.size+s.size<=140737488355328)(hpos:0<text.size)(hs:s.size<=maxLen)(hBw:B<=w.heap.size) :
  Calls Tryz.prog 189 #[.pointer (some ⟨b,0,none⟩),.string s] w fun e w'=>e = .returned (.tuple #[])/\WrB w' B b (text++s) (odd||!ownB s)/\WKept B b w w':=by
 have HN:=h! (isName_any s hs w);obtain⟨hc,hf⟩:=h.odd2;have hB:=h.1;have HB:=h! hB;have HW:=h! (fun o=>writeString_any s (h.flag o) hlen (by omega) (by simpa using hBw));have HK:=h! (fun v=>WKept.flag (w:=w) hB v);clear h hlen hpos hs hBw;cases odd with
 | true =>
  go_enter Tryz.func189,Tryz.ntmps189
  go_wp2_with fail
  refine(HW.out true).mono ?_;rintro e w2 ⟨rfl,hw,hk⟩;have HF:=h! hw;have HE:=h! (WKept.next (HK.out _) hk);clear HW hw hk hc hf HN;go_wp2_with fail
  go_end0
  exact⟨rfl,by rw[Bool.true_or];exact HF.out,HE.out⟩
 | false =>
  cases hn:isNm s with
  | false =>
   rw[hn]at HN;have HV:=h! (show(false||!ownB s)=true from by rw[ownB,hn];rfl);clear hn;go_enter Tryz.func189,Tryz.ntmps189
   go_wp2_with fail
   refine HN.out.mono ?_;rintro e w1 ⟨rfl,h1⟩;have h2:=h1.symm;subst h2;clear h1 HN;go_wp2_with fail
   refine(HW.out true).mono ?_;rintro e w2 ⟨rfl,hw,hk⟩;have HF:=h! hw;have HE:=h! (WKept.next (HK.out _) hk);clear HW hw hk hc hf;go_wp2_with fail
   go_end0
   exact⟨rfl,by rw[HV.out];exact HF.out,HE.out⟩
  | true =>
   rw[hn]at HN;by_cases he:s=⟨#[116,104,105,115]⟩
   ·have HV:=h! (show(false||!ownB s)=true from by rw[ownB,he];simp);subst he;clear hn;go_enter Tryz.func189,Tryz.ntmps189
    go_wp2_with fail
    refine HN.out.mono ?_;rintro e w1 ⟨rfl,h1⟩;have h2:=h1.symm;subst h2;clear h1 HN;go_wp2_with fail
    refine(HW.out true).mono ?_;rintro e w2 ⟨rfl,hw,hk⟩;have HF:=h! hw;have HE:=h! (WKept.next (HK.out _) hk);clear HW hw hk hc hf;go_wp2_with fail
    go_end0
    exact⟨rfl,by rw[HV.out];exact HF.out,HE.out⟩
   ·have HV:=h! (show(false||!ownB s)=false from by rw[ownB,hn];simp[he]);have hne:=ba_beq' he;rw[<- ByteArray.toList_eq,show(⟨#[116,104,105,115]⟩:ByteArray).data.toList=[116,104,105,115]from rfl]at hne;clear hn he;go_enter Tryz.func189,Tryz.ntmps189
    go_wp2_with fail
    refine HN.out.mono ?_;rintro e w1 ⟨rfl,h1⟩;have h2:=h1.symm;subst h2;clear h1 HN;go_wp2_with fail
    refine(HW.out false).mono ?_;rintro e w2 ⟨rfl,hw,hk⟩;have HF:=h! hw;have HE:=h! (WKept.next (HK.out _) hk);clear HW hw hk hc hf;go_wp2_with fail
    go_end0
    exact⟨rfl,by rw[HV.out];exact HF.out,HE.out⟩
theorem wstring_any {B b:Nat} {text:ByteArray} {odd:Bool} {w:World} (h:WrB w B b text odd) :
  Calls Tryz.prog 191 #[.pointer (some ⟨b,0,none⟩)] w fun e w'=>e = .returned (.string text)/\Below B w w':=by
 obtain⟨hB,p,v,hp,hbk,hown,hnil⟩:=h;have hUSn:∀ (W:World) (q:Option Addr),(Builtin.unsafeString_ #[340,3] 9 #[.pointer q,.int .i64 0]).run Tryz.prog W = .ok (.string .empty) W:=fun W q=>Lib.run_unsafeString_none W 340 3 9 q;by_cases hs:text.size=0
 ·obtain rfl:=hnil hs;obtain rfl:=ba_size_eq hs;have c1:w.drew.cell? ⟨b,1,none⟩=some (.slice none 0 0):=hbk.drew.cells 1;have hSD:(Builtin.unsafeSliceData_ #[22] 340 #[.slice none 0 0]).run Tryz.prog w.drew = .ok (.pointer none) w.drew:=rfl;clear hbk hown hnil hs hp;go_enter Tryz.func191,Tryz.ntmps191
  go_wp2_with fail
  obtain⟨wd,hwd⟩:∃ wd,wd=w.drew:=⟨_,rfl⟩;rw[<- hwd]at c1 hSD;have hbd:Below B w wd:=by rw[hwd];exact(Below.refl _ _).drew
  refine r! (fun W=>Kept (fun x=>x=b) wd W/\Below B w W) (by rw[<- hwd];exact⟨Kept.refl _ _,hbd⟩) ?_;rw[<- hwd];have HBD:=h! hbd;have h1:∀ W,(Kept (fun x=>x=b) wd W/\Below B w W)->W.cell? ⟨b,1,none⟩=some (.slice none 0 0):=fun W h=>(World.cell?_of_block (h.1.block b rfl)).trans c1;clear hwd c1 hbd;(refine WalkN.tk [0,1,2,3,5,6,7,8,9] ?_;(iterate 9 (refine c! ?_));refine TkN.n ?_)
  refine o! 4 ?_;refine b! ?_;intro K hK;go_simp;refine hK.out _ _ ⟨Kept.refl _ _,HBD.out⟩ ?_;clear hK;try simp only[Act.put,pA,pZ,pS]
  refine o! 10 ?_;refine b! ?_;intro K hK;go_simp;have hfin:=HBD.out;refine hK.out _ _ ⟨Kept.refl _ _,HBD.out⟩ ?_;clear hK;try simp only[Act.put,pA,pZ,pS]
  refine t! 11 ?_
  refine d! ?_;have HF:=h! hfin;clear h1 hfin;go_wp2_with fail
  go_ret
  exact⟨rfl,HF.out⟩
 ·obtain⟨n,hown⟩:=hown;have hl:(Lib.strCells text).length=text.size:=Lib.strCells_length text;have hn:n=text.size:=by have:=hown.1;omega
  subst hn
  obtain⟨g,cap,cur,rfl,hbg,hg,hnc,hcm,hcs,htake⟩:∃ g cap cur,v = .slice (some ⟨g,0,none⟩) text.size cap/\B<=g/\w.heap[g]?=some (.cells cur 5 (0,0))/\text.size<=cap/\cap<=maxLen/\cur.size=cap*1/\cur.toList.take (text.size*1)=Lib.strCells text:=by
   rcases hown.2 with⟨_,hz⟩ | ⟨g,cap,cur,hv,r⟩
   ·exact absurd hz hs
   ·exact⟨g,cap,cur,hv,r⟩
  have c1:w.drew.cell? ⟨b,1,none⟩=some (.slice (some ⟨g,0,none⟩) text.size cap):=hbk.drew.cells 1
  have hSD:(Builtin.unsafeSliceData_ #[22] 340 #[.slice (some ⟨g,0,none⟩) text.size cap]).run Tryz.prog w.drew = .ok (.pointer (some ⟨g,0,none⟩)) w.drew :=
   Lib.run_unsafeSliceData_row _ _ _ _ _ _ (by omega)
  have htx:text=⟨text.data.toList.toArray⟩:=rfl;have hlen:text.data.toList.length=text.size:=rfl
  have hUS:∀ wd,wd=w.drew->(Builtin.unsafeString_ #[340,3] 9 #[.pointer (some ⟨g,0,none⟩),.int .i64 text.size]).run Tryz.prog wd = .ok (.string text) (wd.freeze ⟨g,0,none⟩ text.size):=by
   rintro wd rfl
   have:=Lib.run_unsafeString_row (P:=Tryz.prog) w.drew 340 3 9 5 Tryz.underlying340 (by kernel_rfl) g cur.size (by have hg':w.drew.heap[g]?=some (.cells cur 5 (0,0)):=hg;simp[World.shape?,hg']) text.data.toList (by intro e;rw[e]at hlen;simp at hlen;omega) (by omega) (by unfold maxLen at hcm;omega) (fun j x hx=>by
    have:=hown.cells (g:=g) rfl j (.int .u8 x.toNat) (by simp only[Lib.strCells,List.getElem?_map,hx,Option.map_some]);exact this)
   rw[hlen]at this;exact this
  have HGB:=h! (show g≠b from(show Own w B 5 1 (.slice (some ⟨g,0,none⟩) text.size cap) (Lib.strCells text)from⟨_,hown⟩).notBlk hbk (by decide) g rfl);clear hbk hown hnil hp hcs htake hg hlen htx hl hs hUSn;go_enter Tryz.func191,Tryz.ntmps191
  go_wp2_with fail
  obtain⟨wd,hwd⟩:∃ wd,wd=w.drew:=⟨_,rfl⟩;rw[<- hwd]at c1 hSD;have hUS:=hUS wd hwd;have hbd:Below B w wd:=by rw[hwd];exact(Below.refl _ _).drew
  refine r! (fun W=>Kept (fun x=>x=b) wd W/\Below B w W) (by rw[<- hwd];exact⟨Kept.refl _ _,hbd⟩) ?_;rw[<- hwd];have HBD:=h! hbd;have h1:∀ W,(Kept (fun x=>x=b) wd W/\Below B w W)->W.cell? ⟨b,1,none⟩=some (.slice (some ⟨g,0,none⟩) text.size cap):=fun W h=>(World.cell?_of_block (h.1.block b rfl)).trans c1;clear hwd c1 hbd;(refine WalkN.tk [0,1,2,3,5,6,7,8,9] ?_;(iterate 9 (refine c! ?_));refine TkN.n ?_)
  refine o! 4 ?_;refine b! ?_;intro K hK;go_simp;refine hK.out _ _ ⟨Kept.refl _ _,HBD.out⟩ ?_;clear hK;try simp only[Act.put,pA,pZ,pS]
  refine o! 10 ?_;refine b! ?_;intro K hK;go_simp;have hfin:Below B w (wd.freeze ⟨g,0,none⟩ text.size):=Lib.below_freeze HBD.out (p:=⟨g,0,none⟩) hbg _;refine hK.out _ _ ⟨kept_freeze (Kept.refl _ _) (fun e=>HGB.out e) _,hfin⟩ ?_;clear hK;try simp only[Act.put,pA,pZ,pS]
  refine t! 11 ?_
  refine d! ?_;have HF:=h! hfin;clear h1 hfin;go_wp2_with fail
  go_ret
  exact⟨rfl,HF.out⟩
def WRes (B wb:Nat)(w:World)(text:ByteArray)(ok:Bool)(add:ByteArray)(wt:Nat)(e:Ending)(w':World):Prop :=
 e = .returned (.tuple #[])/\∃ text',WrB w' B wb text' (!ok)/\text.size<=text'.size/\text'.size<=text.size+wt/\(ok=true->text'=text++add)/\WKept B wb w w'
theorem WRes.bad {B wb:Nat} {w w':World} {text add:ByteArray} {wt:Nat} (h:WrB w' B wb text true)(hk:WKept B wb w w'):WRes B wb w text false add wt (.returned (.tuple #[])) w' :=
 ⟨rfl,text,h,Nat.le_refl _,Nat.le_add_right _ _,(fun h=>by cases h),hk⟩
theorem wrule_odd {B wb:Nat} {text:ByteArray} {w:World} (k:Int)(ra rb:ByteArray)(n:Nat)(ao:Option Addr)(c:Nat)(d:Int)(h:WrB w B wb text true)(hBw:B<=w.heap.size) :
  Calls Tryz.prog 190 #[.pointer (some ⟨wb,0,none⟩),.agg #[.int .i64 k,.string ra,.string rb,.slice ao n c],.int .i64 d] w fun e w'=>e = .returned (.tuple #[])/\WrB w' B wb text true/\WKept B wb w w':=by
 have HW0:=h! h;have HB:=h! h.1;have HBW:=h! hBw;have HNE:=h! (show w.heap.size≠wb from by have:=h.lt;omega);clear h hBw;by_cases k4:k=4
 ·subst k4;have HX:=h! (Blk.made w #[.int .i64 4,.string ra,.string rb,.slice ao n c] 106);have HX1:=h! (HX.out.other (a:=⟨wb,2,none⟩) HNE.out (.bool true));have HX2:=h! (HX1.out.other (a:=⟨wb,2,none⟩) HNE.out (.bool true));have HW1:=h! ((HW0.out.up ((Below.refl _ w).alloc (Nat.le_refl _) (.cells #[.int .i64 4,.string ra,.string rb,.slice ao n c] 106))).flag true);have HW2:=h! (HW1.out.flag true);have HK2:=h! (WKept.next (WKept.next (WKept.of ((Below.refl _ w).alloc (Nat.le_refl _) (.cells #[.int .i64 4,.string ra,.string rb,.slice ao n c] 106)) HBW.out) (WKept.flag (b:=wb) HB.out (.bool true))) (WKept.flag (b:=wb) HB.out (.bool true)));have x0:=HX.out.cells;have x1:=HX1.out.cells;have x2:=HX2.out.cells;obtain⟨e0,f0⟩:=(HW0.out.up ((Below.refl _ w).alloc (Nat.le_refl _) (.cells #[.int .i64 4,.string ra,.string rb,.slice ao n c] 106))).odd2;obtain⟨e1,f1⟩:=HW1.out.odd2;obtain⟨e2,f2⟩:=HW2.out.odd2;go_enter Tryz.func190,Tryz.ntmps190
  go_wp2_with fail
  (try simp only[Exit.inBlock,Exit.then])
  refine bodyPost_ret (results_none rfl _ _ _) rfl ?_;exact⟨rfl,HW2.out,HK2.out⟩
 by_cases k5:k=5
 ·subst k5;have HX:=h! (Blk.made w #[.int .i64 5,.string ra,.string rb,.slice ao n c] 106);have HX1:=h! (HX.out.other (a:=⟨wb,2,none⟩) HNE.out (.bool true));have HX2:=h! (HX1.out.other (a:=⟨wb,2,none⟩) HNE.out (.bool true));have HW1:=h! ((HW0.out.up ((Below.refl _ w).alloc (Nat.le_refl _) (.cells #[.int .i64 5,.string ra,.string rb,.slice ao n c] 106))).flag true);have HW2:=h! (HW1.out.flag true);have HK2:=h! (WKept.next (WKept.next (WKept.of ((Below.refl _ w).alloc (Nat.le_refl _) (.cells #[.int .i64 5,.string ra,.string rb,.slice ao n c] 106)) HBW.out) (WKept.flag (b:=wb) HB.out (.bool true))) (WKept.flag (b:=wb) HB.out (.bool true)));have x0:=HX.out.cells;have x1:=HX1.out.cells;have x2:=HX2.out.cells;obtain⟨e0,f0⟩:=(HW0.out.up ((Below.refl _ w).alloc (Nat.le_refl _) (.cells #[.int .i64 5,.string ra,.string rb,.slice ao n c] 106))).odd2;obtain⟨e1,f1⟩:=HW1.out.odd2;obtain⟨e2,f2⟩:=HW2.out.odd2;go_enter Tryz.func190,Tryz.ntmps190
  go_wp2_with fail
  (try simp only[Exit.inBlock,Exit.then])
  refine bodyPost_ret (results_none rfl _ _ _) rfl ?_;exact⟨rfl,HW2.out,HK2.out⟩
 have q4:(k == 4)=false:=by rw[beq_eq_false_iff_ne];exact k4
 have q5:(k == 5)=false:=by rw[beq_eq_false_iff_ne];exact k5
 clear k4 k5;have HX:=h! (Blk.made w #[.int .i64 k,.string ra,.string rb,.slice ao n c] 106);have HX1:=h! (HX.out.other (a:=⟨wb,2,none⟩) HNE.out (.bool true));have HX2:=h! (HX1.out.other (a:=⟨wb,2,none⟩) HNE.out (.bool true));have HW1:=h! ((HW0.out.up ((Below.refl _ w).alloc (Nat.le_refl _) (.cells #[.int .i64 k,.string ra,.string rb,.slice ao n c] 106))).flag true);have HW2:=h! (HW1.out.flag true);have HK2:=h! (WKept.next (WKept.next (WKept.of ((Below.refl _ w).alloc (Nat.le_refl _) (.cells #[.int .i64 k,.string ra,.string rb,.slice ao n c] 106)) HBW.out) (WKept.flag (b:=wb) HB.out (.bool true))) (WKept.flag (b:=wb) HB.out (.bool true)));have x0:=HX.out.cells;have x1:=HX1.out.cells;have x2:=HX2.out.cells;obtain⟨e0,f0⟩:=(HW0.out.up ((Below.refl _ w).alloc (Nat.le_refl _) (.cells #[.int .i64 k,.string ra,.string rb,.slice ao n c] 106))).odd2;obtain⟨e1,f1⟩:=HW1.out.odd2;obtain⟨e2,f2⟩:=HW2.out.odd2;go_enter Tryz.func190,Tryz.ntmps190
 go_wp2_with fail
 (try simp only[Exit.inBlock,Exit.then])
 refine bodyPost_ret (results_none rfl _ _ _) rfl ?_;exact⟨rfl,HW2.out,HK2.out⟩
theorem wrule_k {B wb:Nat} {text:ByteArray} {w:World} (k:Int)(ra rb:ByteArray)(n:Nat)(ao:Option Addr)(c:Nat)(d:Int)(h:WrB w B wb text false)(hBw:B<=w.heap.size)(q1:(k == 1)=false)(q2:(k == 2)=false)(q3:(k == 3)=false)(q4:(k == 4)=false)(q5:(k == 5)=false) :
  Calls Tryz.prog 190 #[.pointer (some ⟨wb,0,none⟩),.agg #[.int .i64 k,.string ra,.string rb,.slice ao n c],.int .i64 d] w (WRes B wb w text (false) (⟨#[]⟩) (10+ra.size+rb.size)):=by
 have HW0:=h! h;have HB:=h! h.1;have HBW:=h! hBw;have HNE:=h! (show w.heap.size≠wb from by have:=h.lt;omega);clear h hBw;have q2n:(k != 2)=true:=by rw[bne,q2];rfl
 have q3n:(k != 3)=true:=by rw[bne,q3];rfl
 by_cases hlp:0<n
 ·have hpI:(0:Int)<(n:Int):=by omega
  clear hlp;have HX:=h! (Blk.made w #[.int .i64 k,.string ra,.string rb,.slice ao n c] 106);have HX1:=h! (HX.out.other (a:=⟨wb,2,none⟩) HNE.out (.bool true));have HX2:=h! (HX1.out.other (a:=⟨wb,2,none⟩) HNE.out (.bool true));have HW1:=h! ((HW0.out.up ((Below.refl _ w).alloc (Nat.le_refl _) (.cells #[.int .i64 k,.string ra,.string rb,.slice ao n c] 106))).flag true);have HW2:=h! (HW1.out.flag true);have HK2:=h! (WKept.next (WKept.next (WKept.of ((Below.refl _ w).alloc (Nat.le_refl _) (.cells #[.int .i64 k,.string ra,.string rb,.slice ao n c] 106)) HBW.out) (WKept.flag (b:=wb) HB.out (.bool true))) (WKept.flag (b:=wb) HB.out (.bool true)));have x0:=HX.out.cells;have x1:=HX1.out.cells;have x2:=HX2.out.cells;obtain⟨e0,f0⟩:=(HW0.out.up ((Below.refl _ w).alloc (Nat.le_refl _) (.cells #[.int .i64 k,.string ra,.string rb,.slice ao n c] 106))).odd2;obtain⟨e1,f1⟩:=HW1.out.odd2;obtain⟨e2,f2⟩:=HW2.out.odd2;go_enter Tryz.func190,Tryz.ntmps190
  go_wp2_with fail
  (try simp only[Exit.inBlock,Exit.then])
  refine bodyPost_ret (results_none rfl _ _ _) rfl ?_;exact WRes.bad HW2.out HK2.out
 ·obtain rfl:n=0:=by omega
  clear hlp;by_cases hnrb:rb.size=0
  ·obtain rfl:=ba_size_eq hnrb;clear hnrb;by_cases hnra:ra.size=0
   ·obtain rfl:=ba_size_eq hnra;clear hnra;have HX:=h! (Blk.made w #[.int .i64 k,.string ⟨#[]⟩,.string ⟨#[]⟩,.slice ao 0 c] 106);have HX1:=h! (HX.out.other (a:=⟨wb,2,none⟩) HNE.out (.bool false));have HX2:=h! (HX1.out.other (a:=⟨wb,2,none⟩) HNE.out (.bool false));have HW1:=h! ((HW0.out.up ((Below.refl _ w).alloc (Nat.le_refl _) (.cells #[.int .i64 k,.string ⟨#[]⟩,.string ⟨#[]⟩,.slice ao 0 c] 106))).flag false);have HW2:=h! (HW1.out.flag false);have HW3:=h! (HW2.out.flag true);have HK3:=h! (WKept.next (WKept.next (WKept.next (WKept.of ((Below.refl _ w).alloc (Nat.le_refl _) (.cells #[.int .i64 k,.string ⟨#[]⟩,.string ⟨#[]⟩,.slice ao 0 c] 106)) HBW.out) (WKept.flag (b:=wb) HB.out (.bool false))) (WKept.flag (b:=wb) HB.out (.bool false))) (WKept.flag (b:=wb) HB.out (.bool true)));have x0:=HX.out.cells;have x1:=HX1.out.cells;have x2:=HX2.out.cells;obtain⟨e0,f0⟩:=(HW0.out.up ((Below.refl _ w).alloc (Nat.le_refl _) (.cells #[.int .i64 k,.string ⟨#[]⟩,.string ⟨#[]⟩,.slice ao 0 c] 106))).odd2;obtain⟨e1,f1⟩:=HW1.out.odd2;obtain⟨e2,f2⟩:=HW2.out.odd2;go_enter Tryz.func190,Tryz.ntmps190
    go_wp2_with fail
    go_end0
    exact WRes.bad HW3.out HK3.out
   ·have hnera:=ba_size_ne hnra;clear hnra;have HX:=h! (Blk.made w #[.int .i64 k,.string ra,.string ⟨#[]⟩,.slice ao 0 c] 106);have HX1:=h! (HX.out.other (a:=⟨wb,2,none⟩) HNE.out (.bool false));have HX2:=h! (HX1.out.other (a:=⟨wb,2,none⟩) HNE.out (.bool true));have HW1:=h! ((HW0.out.up ((Below.refl _ w).alloc (Nat.le_refl _) (.cells #[.int .i64 k,.string ra,.string ⟨#[]⟩,.slice ao 0 c] 106))).flag false);have HW2:=h! (HW1.out.flag true);have HK2:=h! (WKept.next (WKept.next (WKept.of ((Below.refl _ w).alloc (Nat.le_refl _) (.cells #[.int .i64 k,.string ra,.string ⟨#[]⟩,.slice ao 0 c] 106)) HBW.out) (WKept.flag (b:=wb) HB.out (.bool false))) (WKept.flag (b:=wb) HB.out (.bool true)));have x0:=HX.out.cells;have x1:=HX1.out.cells;have x2:=HX2.out.cells;obtain⟨e0,f0⟩:=(HW0.out.up ((Below.refl _ w).alloc (Nat.le_refl _) (.cells #[.int .i64 k,.string ra,.string ⟨#[]⟩,.slice ao 0 c] 106))).odd2;obtain⟨e1,f1⟩:=HW1.out.odd2;obtain⟨e2,f2⟩:=HW2.out.odd2;go_enter Tryz.func190,Tryz.ntmps190
    go_wp2_with fail
    (try simp only[Exit.inBlock,Exit.then])
    refine bodyPost_ret (results_none rfl _ _ _) rfl ?_;exact WRes.bad HW2.out HK2.out
  ·have hnerb:=ba_size_ne hnrb;clear hnrb;have HX:=h! (Blk.made w #[.int .i64 k,.string ra,.string rb,.slice ao 0 c] 106);have HX1:=h! (HX.out.other (a:=⟨wb,2,none⟩) HNE.out (.bool false));have HX2:=h! (HX1.out.other (a:=⟨wb,2,none⟩) HNE.out (.bool true));have HW1:=h! ((HW0.out.up ((Below.refl _ w).alloc (Nat.le_refl _) (.cells #[.int .i64 k,.string ra,.string rb,.slice ao 0 c] 106))).flag false);have HW2:=h! (HW1.out.flag true);have HK2:=h! (WKept.next (WKept.next (WKept.of ((Below.refl _ w).alloc (Nat.le_refl _) (.cells #[.int .i64 k,.string ra,.string rb,.slice ao 0 c] 106)) HBW.out) (WKept.flag (b:=wb) HB.out (.bool false))) (WKept.flag (b:=wb) HB.out (.bool true)));have x0:=HX.out.cells;have x1:=HX1.out.cells;have x2:=HX2.out.cells;obtain⟨e0,f0⟩:=(HW0.out.up ((Below.refl _ w).alloc (Nat.le_refl _) (.cells #[.int .i64 k,.string ra,.string rb,.slice ao 0 c] 106))).odd2;obtain⟨e1,f1⟩:=HW1.out.odd2;obtain⟨e2,f2⟩:=HW2.out.odd2;go_enter Tryz.func190,Tryz.ntmps190
   go_wp2_with fail
   (try simp only[Exit.inBlock,Exit.then])
   refine bodyPost_ret (results_none rfl _ _ _) rfl ?_;exact WRes.bad HW2.out HK2.out
end Go.Proofs.YtlhaghoajpglaaaGreat
