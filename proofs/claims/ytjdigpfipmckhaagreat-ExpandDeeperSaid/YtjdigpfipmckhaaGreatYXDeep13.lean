/- Lemmas for the claim, no condition. -/
import GoSem.PinnedTables
import Derived.Deep.DeepHandedRow
import Derived.Lib.SmallJoins
import Derived.Test.YtjdigpfipmckhaaGreatYXDeep12
import Derived.Test.YtjdigpfipmckhaaGreatYXDeep5
import Derived.Test.YtjdigpfipmckhaaGreatYXDeep11
import Derived.Test.YtjdigpfipmckhaaGreatYXDeep4
import Derived.Test.YtjdigpfipmckhaaGreatYXDeep2
import Derived.Test.YtjdigpfipmckhaaGreatYXDeep1
import Derived.Test.YtjdigpfipmckhaaGreatYXDeep3
import Derived.Test.YtjdigpfipmckhaaGreatYXDeep0
import Derived.Test.YtjdigpfipmckhaaGreatYXDeep9
import Derived.Test.YtjdigpfipmckhaaGreatYXDeep10
import Derived.Test.YtjdigpfipmckhaaGreatYXDeep8
namespace Go.Proofs.YtjdigpfipmckhaaGreat
open Go Go.RowKit Go.Maps Go.ChangeMaps Go.WideElems
section
variable {κ ι : Type}
theorem MRows.put2 [DecidableEq κ] {P:Program} {k:TypeId} {kv:κ->Value} {E:Elm ι} {w w1 w2 w3:World} {B b3:Nat} {lw:List (κ × RwV ι)} (h:MRows E w B lw) {n:κ} {names:List ι} {v v':Value} (hl:(lookA lw n=some (names,v))\/(lookA lw n=none/\names=[]/\v = .slice none 0 0))
  (h1:∀ x,x<w.heap.size->x≠b3->w1.heap[x]?=w.heap[x]?) (h1s:w.heap.size<=w1.heap.size) (h2:w1.grownBy w2 v.ownBlock) {tn:ι} (ho:Own w2 B E.e E.sz v' ((names++[tn]).flatMap E.enc)) (hw:∀ g,v'.ownBlock=some g->v.ownBlock=some g\/w1.heap.size<=g)
  (hm:Mp P k kv rwV w b3 lw) (hnc:∀ cs t fr,w2.heap[b3]?≠some (.cells cs t fr)) (ht:Turned w2 w3 b3):MRows E w3 B (putA lw n (names++[tn],v')):=by
 have hnd:=hm.nodup
 have old:∀ x∈lw,x.1≠n->∀ g,x.2.2.ownBlock=some g->v.ownBlock≠some g:=fun x hx hne g hg e=>by
  rcases hl with hl | ⟨_,_,rfl⟩
  ·exact h.apart x hx _ (look_mem hl) hne (hg.trans e.symm)
  ·cases e
 have lt:∀ x∈lw,∀ g,x.2.2.ownBlock=some g->g<w.heap.size:=fun x hx g hg=>((h.rows x hx).2.block g hg).2;refine⟨fun x hx=>?_,fun x hx y hy hne=>?_⟩
 ·rcases put_mem _ _ _ hnd hx with rfl | ⟨hx,hxn⟩
  ·exact⟨by simp,ho.keepB fun g hg=>ht.kept.block g (ho.notMap hnc g hg)⟩
  ·have hr:=(h.rows x hx).2;refine⟨(h.rows x hx).1,hr.keepB fun g hg=>?_⟩;have hg1:=lt x hx g hg;have hgb:=hr.notMap hm.notCells g hg;exact(ht.kept.block g hgb).trans ((h2.block g (by omega) fun e=>old x hx hxn g hg e.symm).trans (h1 g hg1 hgb))
 ·rcases put_mem _ _ _ hnd hx with rfl | ⟨hx,hxn⟩ <;> rcases put_mem _ _ _ hnd hy with rfl | ⟨hy,hyn⟩
  ·exact absurd rfl hne
  ·intro e;obtain⟨g,hg⟩:=own_someE ho (by simp);have hg2:y.2.2.ownBlock=some g:=e.symm.trans hg;rcases hw g hg with h3 | h3
   ·exact old y hy hyn g hg2 h3
   ·have:=lt y hy g hg2;omega
  ·intro e;obtain⟨g,hg⟩:=own_someE ho (by simp);have hg2:x.2.2.ownBlock=some g:=e.trans hg;rcases hw g hg with h3 | h3
   ·exact old x hx hxn g hg2 h3
   ·have:=lt x hx g hg2;omega
  ·exact h.apart x hx y hy hne
theorem MR.entry [DecidableEq κ] {P:Program} {k t e:TypeId} {kv:κ->Value} {E:Elm ι} {w:World} {B b:Nat} {f:κ->List ι} (h:MR P k kv E w B b f)(K:Keyed P k)(inj:∀ a b,kv a=kv b->a=b)(ht:P.underlying t=some (.map k e))(hz:∀ w,(zeroValue e).run P w = .ok (.slice none 0 0) w) {n:κ} (hn:∃ q,keyOf P k (kv n)=some q) :
  ∃ es1 c1 st v,(∀ a,a=b->(Instr.mapEntry t (.map (some a)) (kv n)).run P w = .ok (.tuple #[v,goInt st]) (setBlock w b (.map es1 c1)))/\Own w B E.e E.sz v ((f n).flatMap E.enc)/\Own (setBlock w b (.map es1 c1)) B E.e E.sz v ((f n).flatMap E.enc)/\(∀ g,v.ownBlock=some g->g≠b) /\
   ∀ (w2:World) (v':Value) (x:ι),(setBlock w b (.map es1 c1)).grownBy w2 v.ownBlock->Own w2 B E.e E.sz v' ((f n++[x]).flatMap E.enc)->(∀ g,v'.ownBlock=some g->v.ownBlock=some g\/(setBlock w b (.map es1 c1)).heap.size<=g) ->
    ∃ w3,(Instr.entryStore t (.map (some b)) (goInt st) v').run P w2 = .ok () w3/\MR P k kv E w3 B b (fun m=>if n=m then f m++[x]else f m)/\Turned w2 w3 b:=by
 obtain⟨lw,hM,hR,hL⟩:=h;obtain⟨es1,c1,st,h1,h2⟩:=hM.entry K inj ht (hz w) hn;have hl:=hL n
 have hv:∃ v,lookV false (.slice none 0 0) rwV (lookA lw n)=v/\Own w B E.e E.sz v ((f n).flatMap E.enc)/\(lookA lw n=some (f n,v)\/(lookA lw n=none/\f n=[]/\v = .slice none 0 0)):=by
  cases hlk:lookA lw n with
  | none =>
   rw[hlk]at hl
   have hw:f n=[]:=by
    unfold optR at hl;split at hl
    ·next h=>exact List.isEmpty_iff.1 h
    ·cases hl
   exact⟨_,rfl,by rw[hw];exact Own.nil _ _ _ _,.inr ⟨rfl,hw,rfl⟩⟩
  | some x =>
   rw[hlk]at hl
   have hw:x.1=f n:=by
    unfold optR at hl;split at hl
    ·cases hl
    ·injection hl
   refine⟨_,rfl,by rw[<- hw];exact(hR.rows _ (look_mem hlk)).2,.inl ?_⟩;rw[<- hw];rfl
 obtain⟨v,hve,hvo,hvl⟩:=hv;rw[hve]at h1;have hsz:(setBlock w b (.map es1 c1)).heap.size=w.heap.size:=setBlock_size _ _ _;have hnb:=hvo.notMap hM.notCells;obtain⟨o0,ho0⟩:∃ o,w.heap[b]?=some o:=⟨w.heap[b]'hM.lt,Array.getElem?_eq_getElem _⟩;have hat:(setBlock w b (.map es1 c1)).heap[b]?=some (.map es1 c1):=setBlock_at ho0;refine⟨es1,c1,st,v,fun a ha=>by rw[ha];exact h1,hvo,hvo.keepB fun g hg=>setBlock_block w b g _ (hnb g hg),hnb,fun w2 v' x hg ho hwh=>?_⟩;have hw2:w2.heap[b]?=some (.map es1 c1):=(hg.block b (by rw[hsz];exact hM.lt) fun e=>hnb b e.symm rfl).trans hat;obtain⟨w3,hrun,hM3,hT⟩:=h2 w2 (f n++[x],v') hw2;refine⟨w3,hrun,⟨_,hM3,MRows.put2 (w1:=setBlock w b (.map es1 c1)) hR (names:=f n) (v:=v) hvl (fun y _ hy=>setBlock_block w b y _ hy) (Nat.le_of_eq hsz.symm) hg ho hwh hM (fun cs t fr=>by rw[hw2];simp) hT,fun m=>?_⟩,hT⟩;rw[look_put];show _=optR (if n=m then f m++[x]else f m)
 by_cases e:n=m
 ·rw[if_pos e,if_pos e];subst e;unfold optR;rw[if_neg (by simp)];rfl
 ·rw[if_neg e,if_neg e];exact hL m
end
structure NbI (w0 w:World)(b m1 m2 m3:Nat)(l:OL)(Ts Tp:List Tup)(sv:Value)(s:List Tup):Prop where
 box:Blk w b #[.map (some m1),.map (some m2),.map (some m3)] 123
 subs:MR Tryz.prog 30 pV subE w w0.heap.size m1 (subsOf Ts)
 pnts:MR Tryz.prog 63 pV pntE w w0.heap.size m2 (pointsOf Tp)
 objs:ONest w m3 l
 row:Own w w0.heap.size 104 6 sv (tuCs s)
 ne:m1≠m2/\m1∉nBG m3 l/\m2∉nBG m3 l
 lo:w0.heap.size<=m1/\w0.heap.size<=m2/\∀ x∈nBG m3 l,w0.heap.size<=x
 low:Below w0.heap.size w0 w
section
variable {w0 w w' w1 w2 : World} {b m1 m2 m3 : Nat} {l : OL} {Ts Tp s : List Tup} {sv : Value}
theorem NbI.ext (h:NbI w0 w b m1 m2 m3 l Ts Tp sv s)(hx:Ext w w'):NbI w0 w' b m1 m2 m3 l Ts Tp sv s :=
 ⟨h.box.below hx,h.subs.up hx,h.pnts.up hx,h.objs.below hx,h.row.below hx,h.ne,h.lo,h.low.trans (hx.mono h.low.size)⟩
structure Onl (w w':World)(c:Nat)(v:Value):Prop where
 os:w'.os=w.os
 tape:w'.tape=w.tape
 output:w'.output=w.output
 size:w.heap.size<=w'.heap.size
 block:∀ x,x<w.heap.size->x≠c->v.ownBlock≠some x->w'.heap[x]?=w.heap[x]?
theorem onl_of {c:Nat} {v:Value} {o:Obj} {w1 w2:World} (hg:(setBlock w c o).grownBy w1 v.ownBlock)(ht:Turned w1 w2 c):Onl w w2 c v :=
 have h0:Turned w (setBlock w c o) c:=⟨o,rfl⟩
 ⟨ht.kept.os.trans (hg.os.trans h0.kept.os),ht.kept.tape.trans (hg.tape.trans h0.kept.tape),ht.kept.output.trans (hg.output.trans h0.kept.output),by rw[ht.size,<- h0.size];exact hg.size,fun x hx hc hv=>(ht.kept.block x hc).trans ((hg.block x (by rw[h0.size];exact hx) fun e=>hv e.symm).trans (h0.kept.block x hc))⟩
theorem Onl.blk {c B sz:Nat} {v:Value} {e t:TypeId} {xs:List Value} {x:Nat} {cs:Array Value} (h:Onl w w' c v)(ho:Own w B e sz v xs)(hx:Blk w x cs t)(hne:t≠e)(hc:x≠c):Blk w' x cs t :=
 (h.block x hx.lt hc fun hv=>by
  obtain⟨c2,h2⟩:=ho.typed hv;rw[show w.heap[x]?=_ from hx]at h2;exact hne (by injection Option.some.inj h2)).trans hx
theorem Onl.low {c B:Nat} {v:Value} (h:Onl w w' c v)(hc:B<=c)(hv:∀ g,v.ownBlock=some g->B<=g)(hl:Below B w0 w)(hB:B<=w.heap.size):Below B w0 w' :=
 hl.trans ⟨h.os,h.tape,h.output,h.size,fun x hx=>h.block x (by omega) (by omega) fun e=>by have:=hv x e;omega⟩
theorem NbI.sub (h:NbI w0 w b m1 m2 m3 l Ts Tp sv s) {v:Value} {xs:List Value} (ho:Own w w0.heap.size 63 3 v xs)(hc:Onl w w' m1 v) {t:Tup} (hm:MR Tryz.prog 30 pV subE w' w0.heap.size m1 (fun m=>if t.o=m then subsOf Ts m++[t.s]else subsOf Ts m)):NbI w0 w' b m1 m2 m3 l (Ts++[t]) Tp sv s:=by
 have ap:∀ x cs e,w.heap[x]?=some (.cells cs e (0,0))->e≠63->v.ownBlock≠some x:=fun x cs e hx he hv=>by
  obtain⟨c2,h2⟩:=ho.typed hv;rw[hx]at h2;exact he (by injection Option.some.inj h2)
 have nm:∀ x,(∃ es c,w.heap[x]?=some (.map es c))->v.ownBlock≠some x:=fun x hx hv=>by
  obtain⟨c2,h2⟩:=ho.typed hv;obtain⟨es,c,h3⟩:=hx;rw[h3]at h2;cases h2
 have bx:∀ x cs e fr,w.heap[x]?=some (.cells cs e fr)->x≠m1:=fun x cs e fr hx hm=>h.subs.notCells _ _ _ (hm▸hx);refine⟨(hc.block b h.box.lt (bx b _ _ _ h.box) (ap b _ _ h.box (by decide))).trans h.box,hm.congr fun n=>(subsOf_snoc Ts t n).symm,h.pnts.keep (hc.block m2 h.pnts.lt (Ne.symm h.ne.1) (nm m2 ?_)) fun x _ hl hx=>?_,h.objs.same fun x hx=>hc.block x (h.objs.lt x hx) (fun e=>h.ne.2.1 (e▸hx)) (nm x (h.objs.isMap x hx)),h.row.keepOwn fun g hg=>?_,h.ne,h.lo,?_⟩
 ·obtain⟨lw,h1,_⟩:=h.pnts;exact h1.isMap
 ·obtain⟨cs,hx⟩:=hx;exact hc.block x hl (bx x _ _ _ hx) (ap x _ _ hx (by decide))
 ·obtain⟨cur,h2⟩:=h.row.typed hg;exact hc.block g (h.row.block g hg).2 (bx g _ _ _ h2) (ap g _ _ h2 (by decide))
 ·exact hc.low h.lo.1 (fun g hg=>(ho.block g hg).1) h.low h.low.size
theorem NbI.pnt (h:NbI w0 w b m1 m2 m3 l Ts Tp sv s) {v:Value} {xs:List Value} (ho:Own w w0.heap.size 30 3 v xs)(hc:Onl w w' m2 v) {t:Tup} (hm:MR Tryz.prog 63 pV pntE w' w0.heap.size m2 (fun m=>if t.s=m then pointsOf Tp m++[t.o]else pointsOf Tp m)):NbI w0 w' b m1 m2 m3 l Ts (Tp++[t]) sv s:=by
 have ap:∀ x cs e,w.heap[x]?=some (.cells cs e (0,0))->e≠30->v.ownBlock≠some x:=fun x cs e hx he hv=>by
  obtain⟨c2,h2⟩:=ho.typed hv;rw[hx]at h2;exact he (by injection Option.some.inj h2)
 have nm:∀ x,(∃ es c,w.heap[x]?=some (.map es c))->v.ownBlock≠some x:=fun x hx hv=>by
  obtain⟨c2,h2⟩:=ho.typed hv;obtain⟨es,c,h3⟩:=hx;rw[h3]at h2;cases h2
 have bx:∀ x cs e fr,w.heap[x]?=some (.cells cs e fr)->x≠m2:=fun x cs e fr hx hm=>h.pnts.notCells _ _ _ (hm▸hx);refine⟨(hc.block b h.box.lt (bx b _ _ _ h.box) (ap b _ _ h.box (by decide))).trans h.box,h.subs.keep (hc.block m1 h.subs.lt h.ne.1 (nm m1 ?_)) fun x _ hl hx=>?_,hm.congr fun n=>(pointsOf_snoc Tp t n).symm,h.objs.same fun x hx=>hc.block x (h.objs.lt x hx) (fun e=>h.ne.2.2 (e▸hx)) (nm x (h.objs.isMap x hx)),h.row.keepOwn fun g hg=>?_,h.ne,h.lo,?_⟩
 ·obtain⟨lw,h1,_⟩:=h.subs;exact h1.isMap
 ·obtain⟨cs,hx⟩:=hx;exact hc.block x hl (bx x _ _ _ hx) (ap x _ _ hx (by decide))
 ·obtain⟨cur,h2⟩:=h.row.typed hg;exact hc.block g (h.row.block g hg).2 (bx g _ _ _ h2) (ap g _ _ h2 (by decide))
 ·exact hc.low h.lo.2.1 (fun g hg=>(ho.block g hg).1) h.low h.low.size
theorem NbI.obj (h:NbI w0 w b m1 m2 m3 l Ts Tp sv s) {c:Nat} (hc:Turned w w' c)(hcm:c∈nBG m3 l) {l':OL} (hm:ONest w' m3 l')(hl:∀ x∈nBG m3 l',x∈nBG m3 l\/(w0.heap.size<=x/\x≠m1/\x≠m2)):NbI w0 w' b m1 m2 m3 l' Ts Tp sv s:=by
 obtain⟨es,k,hcc⟩:=h.objs.isMap c hcm;have hnc:∀ cs t fr,w.heap[c]?≠some (.cells cs t fr):=fun cs t fr=>by rw[hcc];simp
 refine⟨hc.kept.blk h.box fun e=>hnc _ _ _ (e▸h.box),h.subs.turned hc (fun e=>h.ne.2.1 (e▸hcm)) hnc,h.pnts.turned hc (fun e=>h.ne.2.2 (e▸hcm)) hnc,hm,h.row.keepOwn fun g hg=>hc.kept.block g fun e=>?_,⟨h.ne.1,fun hx=>?_,fun hx=>?_⟩,⟨h.lo.1,h.lo.2.1,fun x hx=>?_⟩,h.low.trans (hc.below (h.lo.2.2 c hcm))⟩
 ·obtain⟨cur,h2⟩:=h.row.typed hg;exact hnc _ _ _ (e▸h2)
 ·rcases hl _ hx with h1 | h1
  ·exact h.ne.2.1 h1
  ·exact h1.2.1 rfl
 ·rcases hl _ hx with h1 | h1
  ·exact h.ne.2.2 h1
  ·exact h1.2.2 rfl
 ·rcases hl x hx with h1 | h1
  ·exact h.lo.2.2 x h1
  ·exact h1.1
end
theorem mapO_nil (x:Option Nat)(W:World):(binOp BinOp.eql 131 (.map x) (.map none)).run Tryz.prog W = .ok (.bool x.isNone) W:=by
 have h:(Op.equal 131 (.map x) (.map none)).run Tryz.prog W = .ok x.isNone W:=run_equalIn_map_nil W 9999 _ _ _ x Tryz.underlying131;simp[binOp,h,Result.andThen]
theorem objs_at (a b c d:ByteArray)(W:World):(Instr.index 130 (.agg #[.string a,.string b,.string c,.string d]) (.int .i64 0)).run Tryz.prog W = .ok (.agg #[.string a,.string b]) W/\(Instr.index 130 (.agg #[.string a,.string b,.string c,.string d]) (.int .i64 1)).run Tryz.prog W = .ok (.agg #[.string c,.string d]) W:=⟨by kernel_rfl,by kernel_rfl⟩
theorem put_blG {ι:Type} [DecidableEq ι] (l:List ι)(a:ι):putA (blG l) a true=blG (if a∈l then l else l++[a]):=by
 split
 ·next h =>
  induction l with
  | nil=>simp at h
  | cons x r ih =>
   simp only[blG,List.map_cons,putA]at *;by_cases e:x=a
   ·subst e;simp
   ·rw[if_neg e,ih (by simpa [Ne.symm e] using h)]
 ·next h =>
  rw[put_miss (fun p hp e=>h (by obtain⟨x,hx,rfl⟩:=List.mem_map.1 hp;exact e▸hx))];simp[blG]
theorem innG_put {κ ι:Type} [DecidableEq κ] (l:NLG κ ι)(q x:κ)(b:Nat)(ss:List ι):innG (putA l q (b,ss)) x=if q=x then ss else innG l x:=by
 unfold innG;rw[look_put];by_cases e:q=x
 ·rw[if_pos e,if_pos e]
 ·rw[if_neg e,if_neg e]
theorem innG_some {κ ι:Type} [DecidableEq κ] {l:NLG κ ι} {q:κ} {b:Nat} {ss:List ι} (h:lookA l q=some (b,ss)):innG l q=ss:=by unfold innG;rw[h]
theorem innG_none {κ ι:Type} [DecidableEq κ] {l:NLG κ ι} {q:κ} (h:lookA l q=none):innG l q=[]:=by unfold innG;rw[h]
def ObjJ (T:List Tup)(t:Tup)(j:Nat)(o:O2):Prop:=ObjIn T o\/(1<=j/\o=t.o.obj)\/(2<=j/\o=t.s.obj)
def What (l:OL)(Q:O2->Prop):Prop:=∀ typ o,o∈innG l typ↔o.t=typ/\Q o
theorem What.congr {l:OL} {Q Q':O2->Prop} (h:What l Q)(e:∀ o,Q o↔Q' o):What l Q':=fun typ o=>by rw[h typ o,e o]
theorem What.fresh {l:OL} {Q:O2->Prop} {q:ByteArray} (h:What l Q)(hl:lookA l q=none)(b:Nat):What (putA l q (b,[])) Q:=fun typ o=>by
 rw[<- h typ o,innG_put];by_cases e:q=typ
 ·subst e;rw[if_pos rfl,innG_none hl]
 ·rw[if_neg e]
theorem What.mark {l:OL} {Q:O2->Prop} {q:O2} (h:What l Q) {b:Nat} {ss:List O2} (hl:lookA l q.t=some (b,ss)):What (putA l q.t (b,if q∈ss then ss else ss++[q])) (fun o=>Q o\/o=q):=fun typ o=>by
 rw[innG_put];have hs:=h q.t;rw[innG_some hl]at hs;by_cases e:q.t=typ
 ·subst e;rw[if_pos rfl]
  have h1:o∈(if q∈ss then ss else ss++[q])↔o∈ss\/o=q:=by
   split
   ·next hq=>exact⟨.inl,fun h=>h.elim id fun e=>e▸hq⟩
   ·simp
  rw[h1,hs o];constructor
  ·rintro(⟨h1,h2⟩ | rfl)
   ·exact⟨h1,.inl h2⟩
   ·exact⟨rfl,.inr rfl⟩
  ·rintro⟨h1,h2 | rfl⟩
   ·exact .inl ⟨h1,h2⟩
   ·exact .inr rfl
 ·rw[if_neg e,h typ o];constructor
  ·rintro⟨h1,h2⟩;exact⟨h1,.inl h2⟩
  ·rintro⟨h1,h2 | rfl⟩
   ·exact⟨h1,h2⟩
   ·exact absurd h1 e
theorem objJ_step (T:List Tup)(t:Tup)(o:O2):(ObjJ T t 1 o↔ObjJ T t 0 o\/o=t.o.obj)/\(ObjJ T t 2 o↔ObjJ T t 1 o\/o=t.s.obj)/\(ObjJ T t 0 o↔ObjIn T o)/\(ObjJ T t 2 o↔ObjIn (T++[t]) o):=by
 unfold ObjJ;refine⟨by simp,by simp[or_assoc],by simp,?_⟩;unfold ObjIn;simp only[List.mem_append,List.mem_singleton,Nat.le_refl,true_and];constructor
 ·rintro(⟨x,hx,h⟩ | h | h)
  ·exact⟨x,.inl hx,h⟩
  ·exact⟨t,.inr rfl,.inl h.2.symm⟩
  ·exact⟨t,.inr rfl,.inr h.symm⟩
 ·rintro⟨x,hx | rfl,h⟩
  ·exact .inl ⟨x,hx,h⟩
  ·exact .inr (h.imp (fun e=>⟨by omega,e.symm⟩) Eq.symm)
theorem filter_take {α:Type} (p:α->Bool) {l:List α} {i:Nat} (h:i<l.length):(l.take (i+1)).filter p=(l.take i).filter p++if p l[i]then [l[i]]else []:=by
 rw[List.take_succ_eq_append_getElem h,List.filter_append];congr 1
 cases e:p l[i] <;> simp[e]
set_option maxRecDepth 100000 in
set_option maxHeartbeats 4000000 in
theorem newBook_any (l:List Tup)(v:Value)(w:World)(h:Sl (· < w.heap.size) w 6 v (tuCs l))(hl:l.length<=1000000)(hok:∀ t∈l,t.Ok) :
  Calls Tryz.prog 16 #[v] w fun e w'=>∃ b T,e = .returned (.pointer (some ⟨b,0,none⟩))/\SetT l T/\BookAt w' b T/\Below w.heap.size w w':=by
 obtain⟨ao,n,c,rfl,hn,hnc,hcm⟩:=h.len;obtain rfl:n=l.length:=by rw[tuCs_length]at hn;omega
 have HL:=h! hl;have HOK:=h! hok;have HS:=h! h;have hmm:=@run_makeMap Tryz.prog;clear h hl hok hn;go_enter Tryz.func16,Tryz.ntmps16
 go_wp2_with fail
 obtain⟨w1,hw1⟩:∃ x,x=w.alloc (.map #[] 0):=⟨_,rfl⟩;rw[<- hw1];obtain⟨w2,hw2⟩:∃ x,x=w1.alloc (.map #[] 0):=⟨_,rfl⟩;rw[<- hw2];obtain⟨w3,hw3⟩:∃ x,x=w2.alloc (.map #[] 0):=⟨_,rfl⟩;rw[<- hw3];obtain⟨bc,hbc⟩:∃ x,x=w.heap.size+1+1+1:=⟨_,rfl⟩;obtain⟨m3,hm3⟩:∃ x,x=w.heap.size+1+1:=⟨_,rfl⟩;obtain⟨m2,hm2⟩:∃ x,x=w.heap.size+1:=⟨_,rfl⟩;rw[<- hbc,<- hm3,<- hm2];obtain⟨w4,hw4⟩:∃ x,x=w3.alloc (.cells #[.map (some w.heap.size),.map (some m2),.map (some m3)] 123):=⟨_,rfl⟩;rw[<- hw4];have e1:w1.heap.size=m2:=by rw[hw1,hm2];simp
 have e2:w2.heap.size=m3:=by rw[hw2,hm3];simp[e1,hm2]
 have e3:w3.heap.size=bc:=by rw[hw3,hbc];simp[e2,hm3]
 have x01:Ext w w1:=by rw[hw1];exact Ext.alloc _ _
 have x12:Ext w1 w2:=by rw[hw2];exact Ext.alloc _ _
 have x23:Ext w2 w3:=by rw[hw3];exact Ext.alloc _ _
 have x34:Ext w3 w4:=by rw[hw4];exact Ext.alloc _ _
 have hbox:Blk w4 bc #[.map (some w.heap.size),.map (some m2),.map (some m3)] 123:=by rw[hw4,<- e3];exact Blk.made _ _ _
 have hM1:MR Tryz.prog 30 pV subE w4 w.heap.size w.heap.size (subsOf []):=MR.up (by rw[hw1];exact MR.made _ _) (x12.trans (x23.trans x34));have hM2:MR Tryz.prog 63 pV pntE w4 w.heap.size m2 (pointsOf []):=MR.up (w:=w2) (by rw[hw2,<- e1];exact MR.made _ _) (x23.trans x34);have hM3:ONest w4 m3 []:=NestG.below (w:=w3) ⟨by rw[hw3,<- e2];exact Mp.made _,(fun x hx=>by cases hx),by simp⟩ x34;have HB:=h! hbox;have HM:=h! (And.intro hM1 (And.intro hM2 hM3));have HX:=h! (x01.trans (x12.trans (x23.trans x34)));have HN:=h! (show w.heap.size<=m2/\w.heap.size<=m3/\w.heap.size≠m2/\w.heap.size≠m3/\m2≠m3 from by omega);clear hw1 hw2 hw3 hw4 e1 e2 e3 x01 x12 x23 x34 hbox hM1 hM2 hM3 hbc hm3 hm2 w1 w2 w3;refine(valuesT_any ao l.length c w4).mono ?_;rintro e w5 ⟨rfl,hw5⟩;have HX5:=h! (show Ext w4 w5 from by rw[hw5];exact Ext.alloc _ _);have HP:=h! (sortedT_any w5 w4.heap.size ao c l (by have:=HL.out;omega) (by rw[hw5];simp) (by rw[hw5];exact(Blk.made w4 _ _).cells 0) ((HS.out.same (Same.below (HX.out.trans HX5.out))).mono fun x hx=>Nat.lt_of_lt_of_le hx (HX.out.trans HX5.out).size));clear hw5;go_wp2_with fail
 refine HP.out.mono ?_;rintro e w6 ⟨v6,s0,rfl,hperm,hsort,hown6,hx56⟩;have HSET:=h! (set_of hperm hsort)
 have HDL:=h! (show(dd s0).length<=1000000 from by
  have h1:=HL.out
  have h2:(dd s0).length<=s0.length:=by
   have:=(nodup_leR (u:=s0) (UpT.nodup (dd_up hsort)) fun x hx=>(dd_mem s0 x).1 hx);exact this
  rw[hperm.length_eq]at h2;omega)
 have HDOK:=h! (show ∀ t∈dd s0,t.Ok from fun t ht=>HOK.out t (hperm.mem_iff.1 ((dd_mem s0 t).1 ht)));have HC:=h! (compactT_any v6 s0 w6 hown6 (by have:=HL.out;rw[hperm.length_eq];omega));have HO6:=h! hown6;have HX6:=h! (HX5.out.trans hx56);clear HP hperm hsort hown6 hx56;go_wp2_with fail
 refine HC.out.mono ?_;rintro e w7 ⟨v7,rfl,hown7,hk7⟩;have HX7:=h! (show Ext w4 w7 from(Below.trans HX6.out (Kept.below (B:=w4.heap.size) hk7 fun b hb=>⟨Nat.lt_of_lt_of_le hb HX6.out.size,fun e=>by have:=(HO6.out.block b e).1;have:=HX5.out.size;omega⟩)));have HO7:=h! (show Own w7 w.heap.size 104 6 v7 (tuCs (dd s0))from hown7.low (Nat.le_trans HX.out.size HX5.out.size));clear HC HO6 HX6 hown7 hk7;generalize dd s0=s at *;obtain⟨a7,n7,c7,rfl,hn7,-,-⟩:=HO7.out.sl.len;obtain rfl:n7=s.length:=by rw[tuCs_length]at hn7;omega
 clear hn7;have HI:=h! (show NbI w w7 bc w.heap.size m2 m3 [] [] [] (.slice a7 s.length c7) s from⟨HB.out.below HX7.out,HM.out.1.up HX7.out,HM.out.2.1.up HX7.out,HM.out.2.2.below HX7.out,HO7.out,⟨HN.out.2.2.1,by simp[nBG];exact HN.out.2.2.2.1,by simp[nBG];exact HN.out.2.2.2.2⟩,⟨Nat.le_refl _,HN.out.1,by simp[nBG];exact HN.out.2.1⟩,HX.out.trans HX7.out⟩);clear HB HM HO7 HX7 HX5 HOK HS HL HX;go_wp2_with fail
 go_loopw [20] (fun ii wr=>∃ (i:Nat) (lb:OL),i<=s.length/\ii = .int .i64 i/\NbI w wr bc w.heap.size m2 m3 lb ((s.take i).filter fun t=>chkT t) ((s.take i).filter fun t=>chkT t) (.slice a7 s.length c7) s/\What lb (ObjIn ((s.take i).filter fun t=>chkT t))) (fun ii _=>s.length-(intOf ii).toNat)
 case atStart=>exact⟨0,[],by omega,rfl,HI.out,fun typ o=>by simp[innG,lookA,ObjIn]⟩
 case round =>
  obtain⟨i,lb,hi,rfl,hnb,hwhat⟩:=hrel;have HNB:=h! hnb;have HWH:=h! hwhat;clear HI hnb hwhat;by_cases hlt:i<s.length
  ·have HTK:=h! (filter_take (fun t=>chkT t) hlt);have HXK:=HDOK.out _ (List.getElem_mem hlt);have HLT:=h! hlt
   obtain⟨g,rfl⟩:∃ g,a7=some ⟨g,0,none⟩:=by
    rcases HNB.out.row.shape with⟨h1,_⟩ | ⟨g,n,c,h1⟩
    ·injection h1 with _ h1 _;omega
    ·exact⟨g,by injection h1⟩
   obtain⟨d0,d1,d2,d3,d4,d5⟩:=HNB.out.row.tupAt i hlt;have HWI:=h! (show wrap64 ((i:Int)+1)=((i+1:Nat):Int)from by have:=HDL.out;unfold wrap64;omega);have HTL:=h! (show((s.take i).filter fun t=>chkT t).length<=1000000 from Nat.le_trans (List.length_filter_le _ _) (by rw[List.length_take];have:=HDL.out;omega));generalize s[i]=x at *;generalize hT:(s.take i).filter (fun t=>chkT t)=T at *;obtain⟨⟨ot,oi,or_⟩,⟨st,si,sr⟩⟩:=x;have HOK:=h! HXK;clear HXK hT;have HTB:=h! (Blk.made wr #[.string ot,.string oi,.string or_,.string st,.string si,.string sr] 104);have ht:=HTB.out.cells;have HX1:=h! (Ext.alloc wr (.cells #[.string ot,.string oi,.string or_,.string st,.string si,.string sr] 104));have HCK:=h! (check_any ⟨⟨ot,oi,or_⟩,⟨st,si,sr⟩⟩ HOK.out (wr.alloc (.cells #[.string ot,.string oi,.string or_,.string st,.string si,.string sr] 104)));unfold tV at HCK;dsimp only at HCK d0 d1 d2 d3 d4 d5;have hli:(i:Int)<(s.length:Int):=by omega
   clear hlt;go_wp2_with fail
   clear d0 d1 d2 d3 d4 d5 ht hli;refine HCK.out.mono ?_;rintro e w2 ⟨rfl,hb2⟩;have HX2:=h! (Ext.trans HX1.out hb2);have HTB2:=h! (HTB.out.below hb2);clear HCK hb2 HTB HX1;generalize wr.heap.size=tb at *;rcases hck:chkT ⟨⟨ot,oi,or_⟩,⟨st,si,sr⟩⟩with _ | _
   ·have hcn:chkN ⟨⟨ot,oi,or_⟩,⟨st,si,sr⟩⟩=2:=by simp[chkN,hck]
    have HT2:=h! (show(s.take (i+1)).filter (fun t=>chkT t)=T from by rw[HTK.out,hck];simp);rw[hcn];clear hcn hck HTK;go_wp2_with fail
    go_roundw
    case rel=>exact⟨i+1,lb,by have:=HLT.out;omega,by rw[HWI.out],by rw[HT2.out];exact HNB.out.ext HX2.out,by rw[HT2.out];exact HWH.out⟩
    case measure=>have:=HLT.out;rw[HWI.out];simp[intOf];omega
   ·have hcn:chkN ⟨⟨ot,oi,or_⟩,⟨st,si,sr⟩⟩=0:=by simp[chkN,hck]
    have HT2:=h! (show(s.take (i+1)).filter (fun t=>chkT t)=T++[⟨⟨ot,oi,or_⟩,⟨st,si,sr⟩⟩]from by rw[HTK.out,hck];simp);rw[hcn];clear hcn hck HTK;have ht2:=HTB2.out.cells;have HX3:=h! (Ext.alloc w2 (.cells #[.string ot,.string oi,.string or_] 30));have HPB:=h! (Blk.made w2 #[.string ot,.string oi,.string or_] 30);have HN3:=h! ((HNB.out.ext HX2.out).ext HX3.out);have HTB3:=h! (HTB2.out.below HX3.out);go_wp2_with fail
    clear ht2 HTB2 HX2 HNB;obtain⟨w3,hw3⟩:∃ y,y=w2.alloc (.cells #[.string ot,.string oi,.string or_] 30):=⟨_,rfl⟩;rw[<- hw3]at HPB HN3 HTB3 ⊢;generalize w2.heap.size=pb at *;clear hw3 HX3;obtain⟨wd,hwd⟩:∃ y:World,y=World.drew w3:=⟨_,rfl⟩;have DX:=h! (show Ext w3 wd from by rw[hwd];exact Ext.drew _);have DN:=h! (HN3.out.ext DX.out);have DT:=h! (HTB3.out.below DX.out);have DP:=h! (HPB.out.below DX.out);refine region_walkS (fun j=>decide (8<=j)) (Ext wd) (by rw[<- hwd];exact Ext.refl _) (by kernel_rfl) (by kernel_rfl) (fun _ _ d _ _ h=>by cases d <;> exact h) ?_;rw[<- hwd];clear hwd HN3 HTB3 HPB DX;have h1:=fun W (hW:Ext wd W)=>(DN.out.box.below hW).cells;have h2:=fun W (hW:Ext wd W)=>(DT.out.below hW).cells;have h3:=fun W (hW:Ext wd W)=>(DP.out.below hW).cells;(refine WalkS.tk [0,1,2,3,4,5,6] ?_;(iterate 7 ((refine TkS.c _ ?_ (by simp only[gA,gS,gZ];rfl) (by kernel_rfl) (by kernel_rfl) (by kernel_rfl) (by rfl) (fun W hW=>?_) ?_;rotate_left;· (go_simp;try with_reducible rfl));simp only[Act.put,pA,pZ,pS]));refine TkS.n ?_)
    clear h1 h2 h3;refine WalkS.one 7 (by kernel_rfl) ?_;refine⟨_,(by simp only[gA,gS,gZ];rfl),by rfl,fun K hK=>?_⟩;go_simp;refine hK.out _ _ (Ext.alloc _ _) ?_;clear hK;refine WalkS.rest (by kernel_rfl) ?_;have EX:=h! (Ext.alloc wd (.cells #[.string st,.string si,.string sr] 63));have EL:=h! (Blk.made wd #[.string st,.string si,.string sr] 63);obtain⟨we,hwe⟩:∃ y,y=wd.alloc (.cells #[.string st,.string si,.string sr] 63):=⟨_,rfl⟩;rw[<- hwe]at EX EL ⊢;clear hwe;have EN:=h! (DN.out.ext EX.out);obtain⟨es1,c1,stt,v,hme,hvo,hvs,hvb,hput⟩:=EN.out.subs.entry pointK pV_inj Tryz.underlying119 Tryz.zeroValue52 (point_key ⟨ot,oi,or_⟩ HOK.out.1);have hme2:=hme _ rfl;unfold pV at hme2;dsimp only at hme2;have hlen:=HTL.out;have hsl:(subsOf T ⟨ot,oi,or_⟩).length<=T.length:=by unfold subsOf;rw[List.length_map];exact List.length_filter_le _ _
    have HSL:=h! (show(subE.enc ⟨st,si,sr⟩).length=3/\(List.flatMap subE.enc (subsOf T ⟨ot,oi,or_⟩)).length<=3000000 from⟨rfl,by rw[flat_len];show _*3<=_;omega⟩);have HNE:=h! (show wd.heap.size≠w.heap.size from fun e=>EN.out.subs.notCells _ _ _ (e▸EL.out));clear hlen hsl hme;refine WalkN.one 8 (by kernel_rfl) ?_;refine⟨_,(by simp only[gA,gS,gZ];rfl),by rfl,fun K hK=>?_⟩;go_simp;refine hK.out _ _ trivial ?_;clear hK hme2;(refine WalkN.tk [9,11] ?_;(iterate 2 ((refine TkN.c _ ?_ (by simp only[gA,gS,gZ];rfl) (by kernel_rfl) (by kernel_rfl) (by rfl) (fun W hW=>?_) ?_;rotate_left;· (go_simp;try with_reducible rfl));simp only[Act.put,pA,pZ,pS]));refine TkN.n ?_)
    refine WalkN.one 10 (by kernel_rfl) ?_;refine⟨_,(by simp only[gA,gS,gZ];rfl),by rfl,fun K hK=>?_⟩;refine wp_ownw subsT (.tmp 37) (.tmp 40) rfl rfl hvs (m:=1) (news:=subE.enc ⟨st,si,sr⟩) rfl rfl (fun j u hu=>?_) (fun u hu=>pC_one _ u hu) (by have:=HSL.out.1;have:=HSL.out.2;omega) (by have:=HSL.out.1;have:=HSL.out.2;omega) (by rw[setBlock_size];exact EN.out.low.size) (fun v2 w9 hown9 hwh9 hg9=>?_)
    ·rw[Addr.add_lit,Nat.zero_add,show(setBlock we w.heap.size (.map es1 c1)).cell? _=we.cell? _ from World.cell?_of_block (setBlock_block we _ _ _ HNE.out),EL.out.cells];simpa [subE,pC] using hu
    refine hK.out _ _ trivial ?_;clear hK;simp only[Act.put,pA,pZ,pS];obtain⟨wa,hrun,hmr,hta⟩:=hput w9 v2 ⟨st,si,sr⟩ hg9 (by rw[List.flatMap_append,List.flatMap_cons,List.flatMap_nil,List.append_nil];exact hown9) hwh9;unfold goInt at hrun;have OA:=onl_of hg9 hta;have AN:=h! (EN.out.sub (t:=⟨⟨ot,oi,or_⟩,⟨st,si,sr⟩⟩) hvo OA hmr);have AT:=h! (OA.blk hvo (DT.out.below EX.out) (by decide) (fun e=>EN.out.subs.notCells _ _ _ (e▸DT.out.below EX.out)));have AP:=h! (OA.blk hvo (DP.out.below EX.out) (by decide) (fun e=>EN.out.subs.notCells _ _ _ (e▸DP.out.below EX.out)));clear hown9 hwh9 hg9 hmr hta OA hput hvo hvs hvb EN EL EX DN DT DP HSL HNE;refine WalkN.one 12 (by kernel_rfl) ?_;refine⟨_,(by simp only[gA,gS,gZ];rfl),by rfl,fun K hK=>?_⟩;go_simp;refine hK.out _ _ trivial ?_;clear hK hrun;refine WalkN.done (by kernel_rfl) ?_;generalize wd.heap.size=nwd at *;clear we wd w9;go_wp2_with fail
    obtain⟨wd,hwd⟩:∃ y:World,y=World.drew wa:=⟨_,rfl⟩;have DX:=h! (show Ext wa wd from by rw[hwd];exact Ext.drew _);have DN:=h! (AN.out.ext DX.out);have DT:=h! (AT.out.below DX.out);have DP:=h! (AP.out.below DX.out);refine region_walkS (fun j=>decide (8<=j)) (Ext wd) (by rw[<- hwd];exact Ext.refl _) (by kernel_rfl) (by kernel_rfl) (fun _ _ d _ _ h=>by cases d <;> exact h) ?_;rw[<- hwd];clear hwd AN AT AP DX;have h1:=fun W (hW:Ext wd W)=>(DN.out.box.below hW).cells;have h2:=fun W (hW:Ext wd W)=>(DT.out.below hW).cells;have h3:=fun W (hW:Ext wd W)=>(DP.out.below hW).cells;(refine WalkS.tk [0,1,2,3,4,5,6] ?_;(iterate 7 ((refine TkS.c _ ?_ (by simp only[gA,gS,gZ];rfl) (by kernel_rfl) (by kernel_rfl) (by kernel_rfl) (by rfl) (fun W hW=>?_) ?_;rotate_left;· (go_simp;try with_reducible rfl));simp only[Act.put,pA,pZ,pS]));refine TkS.n ?_)
    clear h1 h2 h3;refine WalkS.one 7 (by kernel_rfl) ?_;refine⟨_,(by simp only[gA,gS,gZ];rfl),by rfl,fun K hK=>?_⟩;go_simp;refine hK.out _ _ (Ext.alloc _ _) ?_;clear hK;refine WalkS.rest (by kernel_rfl) ?_;have EX:=h! (Ext.alloc wd (.cells #[.string ot,.string oi,.string or_] 30));have EL:=h! (Blk.made wd #[.string ot,.string oi,.string or_] 30);obtain⟨we,hwe⟩:∃ y,y=wd.alloc (.cells #[.string ot,.string oi,.string or_] 30):=⟨_,rfl⟩;rw[<- hwe]at EX EL ⊢;clear hwe;have EN:=h! (DN.out.ext EX.out);obtain⟨es1,c1,stt,v,hme,hvo,hvs,hvb,hput⟩:=EN.out.pnts.entry subK pV_inj Tryz.underlying120 Tryz.zeroValue34 (sub_key ⟨st,si,sr⟩ HOK.out.2);have hme2:=hme _ rfl;unfold pV at hme2;dsimp only at hme2;have hlen:=HTL.out;have hsl:(pointsOf T ⟨st,si,sr⟩).length<=T.length:=by unfold pointsOf;rw[List.length_map];exact List.length_filter_le _ _
    have HSL:=h! (show(pntE.enc ⟨ot,oi,or_⟩).length=3/\(List.flatMap pntE.enc (pointsOf T ⟨st,si,sr⟩)).length<=3000000 from⟨rfl,by rw[flat_len];show _*3<=_;omega⟩);have HNE:=h! (show wd.heap.size≠m2 from fun e=>EN.out.pnts.notCells _ _ _ (e▸EL.out));clear hlen hsl hme;refine WalkN.one 8 (by kernel_rfl) ?_;refine⟨_,(by simp only[gA,gS,gZ];rfl),by rfl,fun K hK=>?_⟩;go_simp;refine hK.out _ _ trivial ?_;clear hK hme2;(refine WalkN.tk [9,11] ?_;(iterate 2 ((refine TkN.c _ ?_ (by simp only[gA,gS,gZ];rfl) (by kernel_rfl) (by kernel_rfl) (by rfl) (fun W hW=>?_) ?_;rotate_left;· (go_simp;try with_reducible rfl));simp only[Act.put,pA,pZ,pS]));refine TkN.n ?_)
    refine WalkN.one 10 (by kernel_rfl) ?_;refine⟨_,(by simp only[gA,gS,gZ];rfl),by rfl,fun K hK=>?_⟩;refine wp_ownw pointsT (.tmp 50) (.tmp 52) rfl rfl hvs (m:=1) (news:=pntE.enc ⟨ot,oi,or_⟩) rfl rfl (fun j u hu=>?_) (fun u hu=>pC_one _ u hu) (by have:=HSL.out.1;have:=HSL.out.2;omega) (by have:=HSL.out.1;have:=HSL.out.2;omega) (by rw[setBlock_size];exact EN.out.low.size) (fun v2 w9 hown9 hwh9 hg9=>?_)
    ·rw[Addr.add_lit,Nat.zero_add,show(setBlock we m2 (.map es1 c1)).cell? _=we.cell? _ from World.cell?_of_block (setBlock_block we _ _ _ HNE.out),EL.out.cells];simpa [pntE,pC] using hu
    refine hK.out _ _ trivial ?_;clear hK;simp only[Act.put,pA,pZ,pS];obtain⟨wb,hrun,hmr,hta⟩:=hput w9 v2 ⟨ot,oi,or_⟩ hg9 (by rw[List.flatMap_append,List.flatMap_cons,List.flatMap_nil,List.append_nil];exact hown9) hwh9;unfold goInt at hrun;have OA:=onl_of hg9 hta;have BN:=h! (EN.out.pnt (t:=⟨⟨ot,oi,or_⟩,⟨st,si,sr⟩⟩) hvo OA hmr);have BT:=h! (OA.blk hvo (DT.out.below EX.out) (by decide) (fun e=>EN.out.pnts.notCells _ _ _ (e▸DT.out.below EX.out)));clear hown9 hwh9 hg9 hmr hta OA hput hvo hvs hvb EN EL EX DN DT DP HSL HNE;refine WalkN.one 12 (by kernel_rfl) ?_;refine⟨_,(by simp only[gA,gS,gZ];rfl),by rfl,fun K hK=>?_⟩;go_simp;refine hK.out _ _ trivial ?_;clear hK hrun;refine WalkN.done (by kernel_rfl) ?_;generalize wd.heap.size=nwd at *;clear we wd w9;have bt:=BT.out.cells;go_wp2_with fail
    clear bt;go_loopw [62] (fun jj wr=>∃ (j:Nat) (lb:OL),j<=2/\jj = .int .i64 j/\NbI w wr bc w.heap.size m2 m3 lb (T++[⟨⟨ot,oi,or_⟩,⟨st,si,sr⟩⟩]) (T++[⟨⟨ot,oi,or_⟩,⟨st,si,sr⟩⟩]) (.slice (some ⟨g,0,none⟩) s.length c7) s/\What lb (ObjJ T ⟨⟨ot,oi,or_⟩,⟨st,si,sr⟩⟩ j)) (fun jj _=>2-(intOf jj).toNat)
    case atStart=>exact⟨0,lb,by omega,rfl,BN.out,HWH.out.congr fun o=>(objJ_step T _ o).2.2.1.symm⟩
    case round =>
     obtain⟨j,lb2,hj,rfl,hnb,hwh⟩:=hrel;have JN:=h! hnb;have JW:=h! hwh;clear hnb hwh BN HWH BT;by_cases hlt:j<2
     ·obtain⟨o,hok,hix,hstep⟩:∃ o:O2,o.Ok/\(∀ W,(Instr.index 130 (.agg #[.string ot,.string oi,.string st,.string si]) (.int .i64 j)).run Tryz.prog W = .ok (.agg #[.string o.t,.string o.i]) W)/\∀ y,ObjJ T ⟨⟨ot,oi,or_⟩,⟨st,si,sr⟩⟩ (j+1) y↔ObjJ T ⟨⟨ot,oi,or_⟩,⟨st,si,sr⟩⟩ j y\/y=o:=by
       have:j=0\/j=1:=by omega
       rcases this with rfl | rfl
       ·exact⟨⟨ot,oi⟩,⟨HOK.out.1.1,HOK.out.1.2.1⟩,fun W=>(objs_at ot oi st si W).1,fun y=>(objJ_step T _ y).1⟩
       ·exact⟨⟨st,si⟩,⟨HOK.out.2.1,HOK.out.2.2.1⟩,fun W=>(objs_at ot oi st si W).2,fun y=>(objJ_step T _ y).2.1⟩
      obtain⟨o1,o2⟩:=o;have OOK:=h! hok;have OST:=h! hstep;have OWI:=h! (show wrap64 ((j:Int)+1)=((j+1:Nat):Int)from by unfold wrap64;omega);have OLT:=h! hlt;have hji:(j:Int)<2:=by omega
      dsimp only at hix;clear hok hstep hlt;go_wp2_with fail
      clear hix hji;obtain⟨wd,hwd⟩:∃ y:World,y=World.drew (wr.alloc (.cells #[.string o1,.string o2] 28)):=⟨_,rfl⟩;have QX:Ext wr wd:=by rw[hwd];exact(Ext.alloc _ _).trans (Ext.drew _)
      have QN:=h! (JN.out.ext QX);have QO:=h! (show Blk wd wr.heap.size #[.string o1,.string o2] 28 from by rw[hwd];exact(Blk.made wr _ _).drew);refine region_walkN (Ext wd) (by rw[<- hwd];exact Ext.refl _) (by kernel_rfl) (by kernel_rfl) (fun _ _ d _ _ h=>by cases d <;> exact h) ?_;rw[<- hwd];clear hwd QX JN;generalize wr.heap.size=ob at *;have h1:=fun W (hW:Ext wd W)=>(QN.out.box.below hW).cells;have h2:=fun W (hW:Ext wd W)=>(QO.out.below hW).cells;have h3:=fun W (hW:Ext wd W)=>(QN.out.ext hW).objs.look strK strV_inj Tryz.underlying121 (Tryz.zeroValue131 W) (str_key o1 OOK.out.1);have h4:=mapO_nil;(refine WalkN.tk [0,1,2,3,4,5,6,7] ?_;(iterate 8 ((refine TkN.c _ ?_ (by simp only[gA,gS,gZ];rfl) (by kernel_rfl) (by kernel_rfl) (by rfl) (fun W hW=>?_) ?_;rotate_left;· (go_simp;try with_reducible rfl));simp only[Act.put,pA,pZ,pS]));refine TkN.n ?_)
      refine WalkN.done (by kernel_rfl) ?_;clear h1 h2 h3 h4;rcases hlk:lookA lb2 o1 with _ | ⟨bi,ss⟩
      case' none =>
       have hmn:(mOG lb2 o1).isNone=true:=by unfold mOG;rw[hlk];rfl
       rw[hmn];go_wp2_with fail
       obtain⟨wq,hwq⟩:∃ y:World,y=World.drew wd:=⟨_,rfl⟩;have QX:Ext wd wq:=by rw[hwq];exact Ext.drew _
       have PN:=h! (QN.out.ext QX);have PO:=h! (QO.out.below QX);refine region_walkL 7 (Ext wq) (by rw[<- hwq];exact Ext.refl _) (by kernel_rfl) (by kernel_rfl) (fun _ _ d _ _ h=>by cases d <;> exact h) ?_;rw[<- hwq];clear hwq QX QN QO;have h1:=fun W (hW:Ext wq W)=>(PN.out.box.below hW).cells;have h2:=fun W (hW:Ext wq W)=>(PO.out.below hW).cells;(refine WalkL.tk [0,1,2,3,4,5] ?_;(iterate 6 ((refine TkL.c _ ?_ (by simp only[gA,gS,gZ];rfl) (by kernel_rfl) (by kernel_rfl) (by kernel_rfl) (by rfl) (fun W hW=>?_) ?_;rotate_left;· (go_simp;try with_reducible rfl));simp only[Act.put,pA,pZ,pS]));refine TkL.n ?_)
       clear h1 h2;refine WalkL.one 6 (by kernel_rfl) ?_;refine⟨_,(by simp only[gA,gS,gZ];rfl),by rfl,fun K hK=>?_⟩;go_simp;refine hK.out _ _ (Ext.alloc _ _) ?_;clear hK;obtain⟨we,hwe⟩:∃ y,y=wq.alloc (.map #[] 0):=⟨_,rfl⟩;have EX:Ext wq we:=by rw[hwe];exact Ext.alloc _ _
       have EN:=h! (PN.out.ext EX);have EO:=h! (PO.out.below EX);have EM:=h! (show Mp Tryz.prog 28 oV bV we wq.heap.size (blG [])from by rw[hwe];exact Mp.made _);have EF:=h! (show wq.heap.size∉nBG m3 lb2/\wq.heap.size≠w.heap.size/\wq.heap.size≠m2 from⟨fun h=>Nat.lt_irrefl _ (PN.out.objs.lt _ h),fun h=>Nat.lt_irrefl _ (h▸PN.out.subs.lt),fun h=>Nat.lt_irrefl _ (h▸PN.out.pnts.lt)⟩);have EB:=h! PN.out.low.size;rw[<- hwe];clear hwe EX PN PO;generalize wq.heap.size=bn at *;obtain⟨wf,hrun,hM5,hT5⟩:=EN.out.objs.top.store strK strV_inj Tryz.underlying121 (str_key o1 OOK.out.1) (bn,[]);have RN:=h! (EN.out.obj hT5 (by simp[nBG]) (EN.out.objs.fresh hlk EM.out EF.out.1 hT5 hM5) (fun x hx=>(fresh_blocksG hlk x hx).imp id fun e=>by subst e;exact⟨EB.out,EF.out.2.1,EF.out.2.2⟩));have RO:=h! (hT5.kept.blk EO.out fun e=>EN.out.objs.notBlk EO.out (by rw[e];simp[nBG]));have RW:=h! (JW.out.fresh hlk bn);have RL:=h! (show lookA (putA lb2 o1 (bn,[])) o1=some (bn,[])from by rw[look_put,if_pos rfl]);clear hM5 hT5 EN EO EM EF EB;refine WalkL.last (by kernel_rfl) (by kernel_rfl) ?_;refine⟨_,(by simp only[gA,gS,gZ];rfl),by rfl,fun K hK=>?_⟩;go_simp;refine hK.out _ _ ?_;clear hK hrun hlk hmn;have RF:=h! (show ∃ lb3 bi ss,lookA lb3 o1=some (bi,ss)/\NbI w wf bc w.heap.size m2 m3 lb3 (T++[⟨⟨ot,oi,or_⟩,⟨st,si,sr⟩⟩]) (T++[⟨⟨ot,oi,or_⟩,⟨st,si,sr⟩⟩]) (.slice (some ⟨g,0,none⟩) s.length c7) s/\Blk wf ob #[.string o1,.string o2] 28/\What lb3 (ObjJ T ⟨⟨ot,oi,or_⟩,⟨st,si,sr⟩⟩ j)from⟨_,_,_,RL.out,RN.out,RO.out,RW.out⟩);clear RL RN RO RW JW;go_wp2_with fail
       clear wd wq we;generalize wf=wx at *
      case' some =>
       have hmn:(mOG lb2 o1).isNone=false:=by unfold mOG;rw[hlk];rfl
       rw[hmn];have RF:=h! (show ∃ lb3 bi ss,lookA lb3 o1=some (bi,ss)/\NbI w wd bc w.heap.size m2 m3 lb3 (T++[⟨⟨ot,oi,or_⟩,⟨st,si,sr⟩⟩]) (T++[⟨⟨ot,oi,or_⟩,⟨st,si,sr⟩⟩]) (.slice (some ⟨g,0,none⟩) s.length c7) s/\Blk wd ob #[.string o1,.string o2] 28/\What lb3 (ObjJ T ⟨⟨ot,oi,or_⟩,⟨st,si,sr⟩⟩ j)from⟨_,_,_,hlk,QN.out,QO.out,JW.out⟩);clear QN QO JW hlk;go_wp2_with fail
       generalize wd=wx at *
      all_goals
       obtain⟨lb3,bi,ss,hlk,hn3,ho3,hw3⟩:=RF.out;have SW:=h! hw3;have SL:=h! hlk;obtain⟨wq,hwq⟩:∃ y:World,y=World.drew wx:=⟨_,rfl⟩;have QX:Ext wx wq:=by rw[hwq];exact Ext.drew _
       have PN:=h! (hn3.ext QX);have PO:=h! (ho3.below QX);refine region_walkL 8 (Ext wq) (by rw[<- hwq];exact Ext.refl _) (by kernel_rfl) (by kernel_rfl) (fun _ _ d _ _ h=>by cases d <;> exact h) ?_;rw[<- hwq];clear hwq QX hn3 ho3 hw3 RF;have h1:=fun W (hW:Ext wq W)=>(PN.out.box.below hW).cells;have h2:=fun W (hW:Ext wq W)=>(PO.out.below hW).cells
       have h3:=fun W (hW:Ext wq W)=>show(Instr.lookup 121 (.map (some m3)) (.string o1) false).run Tryz.prog W = .ok (.map (some bi)) W from by
        have:=(PN.out.ext hW).objs.look strK strV_inj Tryz.underlying121 (Tryz.zeroValue131 W) (str_key o1 OOK.out.1);rwa[show mOG lb3 o1=some bi from by unfold mOG;rw[SL.out];rfl]at this
       clear hlk;(refine WalkL.tk [0,1,2,3,4,5,6,7] ?_;(iterate 8 ((refine TkL.c _ ?_ (by simp only[gA,gS,gZ];rfl) (by kernel_rfl) (by kernel_rfl) (by kernel_rfl) (by rfl) (fun W hW=>?_) ?_;rotate_left;· (go_simp;try with_reducible rfl));simp only[Act.put,pA,pZ,pS]));refine TkL.n ?_)
       clear h1 h2 h3;obtain⟨wf,hrun,hM5,hT5⟩:=(PN.out.objs.inner _ (look_mem SL.out)).store objK oV_inj Tryz.underlying131 (obj_key ⟨o1,o2⟩ OOK.out) true;rw[put_blG]at hM5;dsimp only at hrun hT5 hM5;have hbi:bi∈nBG m3 lb3:=List.mem_cons_of_mem _ (List.mem_map.2 ⟨_,look_mem SL.out,rfl⟩);have RN:=h! (PN.out.obj hT5 hbi (PN.out.objs.mark SL.out hT5 hM5) (fun x hx => .inl (by rw[mark_blocksG SL.out]at hx;exact hx)));have RW:=h! ((What.mark (q:=⟨o1,o2⟩) SW.out SL.out).congr fun y=>(OST.out y).symm);clear hM5 hT5 hbi PN PO SW SL;unfold oV bV at hrun;dsimp only at hrun;refine WalkL.last (by kernel_rfl) (by kernel_rfl) ?_;refine⟨_,(by simp only[gA,gS,gZ];rfl),by rfl,fun K hK=>?_⟩;go_simp;refine hK.out _ _ ?_;clear hK hrun;go_wp2_with fail
       go_roundw
       case rel=>exact⟨j+1,_,by have:=OLT.out;omega,by first | rw[OWI.out] | go_num,RN.out,RW.out⟩
       case measure=>have:=OLT.out;(try rw[OWI.out]);simp[intOf];omega
     ·obtain rfl:j=2:=by omega
      have JJ:=h! (JW.out.congr fun o=>(objJ_step T _ o).2.2.2);have hji:¬ (((2:Nat):Int)<2):=by omega
      clear JW hlt;go_wp2_with fail
      go_roundw
      case rel=>exact⟨i+1,lb2,by have:=HLT.out;omega,by rw[HWI.out],by rw[HT2.out];exact JN.out,by rw[HT2.out];exact JJ.out⟩
      case measure=>have:=HLT.out;rw[HWI.out];simp[intOf];omega
  ·obtain rfl:i=s.length:=by omega
   rw[List.take_length]at HNB HWH;go_wp2_with fail
   go_ret
   exact⟨bc,_,rfl,HSET.out,⟨w.heap.size,w.heap.size,m2,m3,lb,HNB.out.box,HNB.out.subs,HNB.out.pnts,HNB.out.objs,HNB.out.ne,HWH.out⟩,HNB.out.low⟩
end Go.Proofs.YtjdigpfipmckhaaGreat
namespace Go.Proofs.YtjdigpfipmckhaaGreat
open Go Go.RowKit Go.Maps
theorem set_ex (l:List Tup):∃ T,SetT l T:=by
 have htr:∀ a b c:Tup,(!ltT b a)=true->(!ltT c b)=true->(!ltT c a)=true:=fun a b c h k=>by
  rw[Bool.not_eq_true']at *;have:=swoC.ntrans c b a;simp only[lt_cmpC]at this;exact this k h
 have hto:∀ a b:Tup,(!ltT b a||!ltT a b)=true:=fun a b=>by
  cases h:ltT b a with
  | false=>rfl
  | true =>
   cases k:ltT a b with
   | false=>rfl
   | true =>
    have:=swoC.trans a b a;simp only[lt_cmpC]at this;have h3:=this k h;have h4:=swoC.irrefl a;rw[lt_cmpC]at h4;rw[h4]at h3;cases h3
 refine⟨_,set_of (List.mergeSort_perm l fun a b=>!ltT b a) ?_⟩;have:=List.pairwise_mergeSort (le:=fun a b=>!ltT b a) htr hto l;exact this.imp fun {a b} h=>by simpa using h
theorem bookT_any {l T:List Tup} (hT:SetT l T)(v:Value)(w:World)(h:Sl (· < w.heap.size) w 6 v (tuCs l))(hl:l.length<=1000000)(hok:∀ t∈l,t.Ok) :
  Calls Tryz.prog 16 #[v] w fun e w'=>∃ b,e = .returned (.pointer (some ⟨b,0,none⟩))/\BookAt w' b T/\Ext w w':=by
 refine(newBook_any l v w h hl hok).mono ?_;rintro e w' ⟨b,U,rfl,hU,hb,hx⟩;obtain rfl:=hT.uniq hU;exact⟨b,rfl,hb,hx⟩
def WalkP (ts:List TyS)(T:List Tup)(shut:List R2)(p:P3)(most:Int)(ok long:Value)(ps:List P3)(fs:List FT)(ev:Value):Prop :=
 (∃ n,WalkEnd ts T shut p most n/\ps=(walkN ts T shut p n).1/\fs=(walkN ts T shut p n).2/\ev=ok)\/(WalkLong ts T shut p most/\ps=[]/\fs=[]/\ev=long)
def nt0:NT := .mk 0 ⟨⟨#[]⟩,⟨#[]⟩,⟨#[]⟩⟩ [] []
def NSaid (P:NT->Value->Prop)(w:World)(e:Ending)(w':World):Prop :=
 Ext w w'/\∃ (n:NT) (so:Option Addr) (sc:Nat) (qo:Option Addr) (qc:Nat) (ev:Value),P n ev/\e = .returned (.tuple #[.agg #[.int .i64 n.k,.string n.p.t,.string n.p.i,.string n.p.r,.slice so n.subs.length sc,.slice qo n.ps.length qc],ev]) /\
  NtAt (fun x=>w.heap.size<=x/\x<w'.heap.size) w' n (.slice so n.subs.length sc,.slice qo n.ps.length qc)
def JoinN {β:Type} (wd:World)(P:NT->Value->Prop)(A:Nat->β->Nat->Option Addr->Nat->Option Addr->Nat->NT->Value->Act)(e:Exit)(a:Act)(W:World):Prop :=
 e = .normal/\∃ (gk:Nat) (bk:β) (bg:Nat) (so:Option Addr) (sc:Nat) (qo:Option Addr) (qc:Nat) (n:NT) (ev:Value),a=A gk bk bg so sc qo qc n ev/\P n ev/\Ext wd W/\wd.heap.size<=bg /\
  Blk W bg #[.int .i64 n.k,.string n.p.t,.string n.p.i,.string n.p.r,.slice so n.subs.length sc,.slice qo n.ps.length qc] 55/\NtAt (fun x=>x≠bg/\wd.heap.size<=x/\x<W.heap.size) W n (.slice so n.subs.length sc,.slice qo n.ps.length qc)
theorem NtAt.zero (S:Nat->Prop)(w:World):NtAt S w nt0 (.slice none 0 0,.slice none 0 0) :=
 (NtAt.iff _ _).2 ⟨Sl.nil _ _ _,[],rfl,(fun x hx=>by cases hx),Sl.nil _ _ _⟩
theorem NSaid.zero {P:NT->Value->Prop} {w w':World} {ev:Value} (hx:Ext w w')(h:P nt0 ev):NSaid P w (.returned (.tuple #[.agg #[.int .i64 0,.string ⟨#[]⟩,.string ⟨#[]⟩,.string ⟨#[]⟩,.slice none 0 0,.slice none 0 0],ev])) w' :=
 ⟨hx,nt0,none,0,none,0,ev,h,rfl,NtAt.zero _ _⟩
def TreeP (ts:List TyS)(T:List Tup)(shut:List R2)(p:P3)(d:Nat)(most:Int)(ok long:Value)(n:NT)(ev:Value):Prop :=
 (((treeE ts T shut d p).sz:Int)<=most/\n=treeE ts T shut d p/\ev=ok)\/(most<((treeE ts T shut d p).sz:Int)/\n=nt0/\ev=long)
structure TreeArg (ts:List TyS)(T:List Tup)(shut:List R2)(p:P3):Prop where
 ok:∀ t∈ts,t.Ok
 chk:chk06 ts=0
 sb:schB ts<=549755813888
 sz:∀ t∈ts,∀ r∈t.rels,r.2.sz<=1000000
 names:(namesOf ts).length<=1099511627776
 refs:(refsOf ts).length<=1099511627776
 shutOk:∀ r∈shut,r.Ok
 pok:p.Ok
 subs:∀ t∈T,t.s.Ok
 nodup:T.Nodup
 len:T.length<=1000000
 rok:∀ x∈refsOf ts,x.2.Ok
theorem treeG_any (ts:List TyS)(tv:Value)(b:Nat)(T:List Tup)(shut:List R2)(sv:Value)(p:P3)(d:Nat)(most:Int)(w:World)(h:TysAt (· < w.heap.size) w ts tv)(ha:TreeArg ts T shut p)
  (hbk:BookAt w b T) (hsv:Sl (· < w.heap.size) w 2 sv (shut.flatMap r2C)) (hd:d<=8) (hm:most<=1000000) :
  Calls Tryz.prog 26 #[.agg #[tv],bkV b,sv,pV p,.int .i64 d,.int .i64 most] w (NSaid (TreeP ts T shut p d most (.int .i64 0) (.int .i64 10)) w):=by
 refine(tree_any ts tv b T shut sv p d most w h ha.ok ha.chk ha.sb ha.sz ha.names ha.refs hbk hsv ha.shutOk ha.pok ha.subs ha.nodup ha.len ha.rok hd hm).mono ?_;rintro e w' ⟨hx,⟨hz,a,b,rfl,hn⟩ | ⟨hz,rfl⟩⟩
 ·obtain⟨so,sc,qo,qc,e⟩:=hn.shape;cases e;exact⟨hx,_,so,sc,qo,qc,_,.inl ⟨hz,rfl,rfl⟩,rfl,hn.mono fun x hx=>⟨hx.1,hx.2.1⟩⟩
 ·exact NSaid.zero hx (.inr ⟨hz,rfl,rfl⟩)
structure Ins (l:List R2)(r:R2)(l':List R2):Prop where
 up:UpR l'
 mem:∀ x,x∈l'↔x=r\/x∈l
structure PutI (l:List R2)(r:R2)(i:Nat)(d:Bool)(o:List R2):Prop where
 len:o.length<=i+1
 up:UpR o
 mem:∀ x,x∈o↔(d=true/\x=r)\/x∈l.take i
 lt:∀ x∈o,∀ y∈l.drop i,ltR x y=true
 nd:d=false->∀ x∈o,ltR x r=true
theorem UpR.snoc {o:List R2} {x:R2} (h:UpR o)(hx:∀ y∈o,ltR y x=true):UpR (o++[x]) :=
 List.pairwise_append.2 ⟨h,List.pairwise_singleton _ _,fun a ha b hb=>by obtain rfl:=List.mem_singleton.1 hb;exact hx a ha⟩
theorem PutI.start {l:List R2} (r:R2):PutI l r 0 false []:=⟨Nat.zero_le _,List.Pairwise.nil,fun x=>by simp,fun x hx=>(by cases hx),fun _ x hx=>(by cases hx)⟩
theorem PutI.fin {l:List R2} {r:R2} {d:Bool} {o:List R2} (h:PutI l r l.length d o)(hd:d=true):Ins l r o:=⟨h.up,fun x=>by rw[h.mem x,List.take_length];simp[hd]⟩
theorem UpR.nodup {l:List R2} (h:UpR l):l.Nodup:=List.Pairwise.imp (fun h e=>by subst e;rw[ltR_irr]at h;cases h) h
structure BI (ts:List TyS)(N0:Nat)(L A:List R2)(ch:Bool)(pr:List (R2 × RT)):Prop where
 upL:UpR L
 upA:UpR A
 least:LeastP ts L
 subA:∀ x∈A,x∈(refsOf ts).map (·.1)
 len0:N0<=L.length
 more:ch=true->N0<L.length
 done:∀ p∈pr,p.1∈A/\(ch=false->p.2.pcan (refsOf ts) L p.1.t=true->p.1∈L)
theorem BI.lenL {ts:List TyS} {N0:Nat} {L A:List R2} {ch:Bool} {pr:List (R2 × RT)} (h:BI ts N0 L A ch pr):L.length<=(refsOf ts).length:=h.least.len h.upL.nodup
theorem BI.start {ts:List TyS} {L A:List R2} (hL:UpR L)(hA:UpR A)(hl:LeastP ts L)(hs:∀ x∈A,x∈(refsOf ts).map (·.1)):BI ts L.length L A false [] :=
 ⟨hL,hA,hl,hs,Nat.le_refl _,fun h=>(by cases h),fun p hp=>(by cases hp)⟩
structure UpOf (o X:List R2):Prop where
 up:UpR o
 mem:∀ x,x∈o↔x∈X
theorem UpOf.nil:UpOf [] []:=⟨List.Pairwise.nil,fun _=>Iff.rfl⟩
theorem UpOf.put {o X o':List R2} {r:R2} (h:UpOf o X)(hi:Ins o r o'):UpOf o' (X++[r]):=⟨hi.up,fun x=>by rw[hi.mem,h.mem,List.mem_append,List.mem_singleton,or_comm]⟩
theorem UpOf.len {o X:List R2} (h:UpOf o X):o.length<=X.length:=nodup_le h.up.nodup fun x hx=>(h.mem x).1 hx
structure CD (ts:List TyS)(r:R2)(o pr o2:List R2):Prop where
 up:UpR o2
 sub:∀ x∈o,x∈o2
 re:∀ x∈o2,ReachP ts r x
 done:∀ x∈pr,∀ y∈needsP ts x,y∈o2
theorem CD.start {ts:List TyS} {r:R2} {o:List R2} (hu:UpR o)(hr:∀ x∈o,ReachP ts r x):CD ts r o [] o:=⟨hu,fun _ h=>h,hr,fun x hx=>(by cases hx)⟩
theorem CD.put {ts:List TyS} {r y:R2} {o pr o2 o3:List R2} (h:CD ts r o pr o2)(hi:Ins o2 y o3)(hy:ReachP ts r y):CD ts r o pr o3 :=
 ⟨hi.up,fun x hx=>(hi.mem x).2 (.inr (h.sub x hx)),fun x hx=>by
  rcases (hi.mem x).1 hx with rfl | hx
  ·exact hy
  ·exact h.re x hx,fun x hx z hz=>(hi.mem z).2 (.inr (h.done x hx z hz))⟩
theorem CD.len {ts:List TyS} {r:R2} {o pr o2:List R2} (h:CD ts r o pr o2):o2.length<=(univP ts r).length:=nodup_le h.up.nodup fun x hx=>reach_univ (h.re x hx)
theorem CD.fin {ts:List TyS} {r:R2} {o o2:List R2} (h:CD ts r o o o2)(hu:UpR o)(hr:r∈o)(hl:o2.length=o.length)(x:R2):x∈o2↔ReachP ts r x:=by
 have hb:∀ y∈o2,y∈o:=fun y hy=>by
  by_cases hyo:y∈o
  ·exact hyo
  ·have:=nodup_le (l:=y::o) (u:=o2) (List.nodup_cons.2 ⟨hyo,hu.nodup⟩) fun z hz=>by
    rcases List.mem_cons.1 hz with rfl | hz
    ·exact hy
    ·exact h.sub z hz
   simp at this;omega
 refine⟨h.re x,fun hx=>?_⟩;induction hx with
 | self=>exact h.sub r hr
 | step _ h2 ih=>exact h.done _ (hb _ ih) _ h2
theorem chk_long {ts:List TyS} (h:chk06 ts=0):longOk ts=true:=by
 unfold chk06 at h;split at h
 ·split at h
  ·assumption
  ·cases h
 ·cases h
theorem long_small {ts:List TyS} (h:longOk ts=true):ts.length<=16/\∀ t∈ts,t.rels.length<=16/\∀ r∈t.rels,r.2.sz<=32:=by
 unfold longOk at h;rw[Bool.and_eq_true,decide_eq_true_eq,List.all_eq_true]at h;refine⟨h.1,fun t ht=>?_⟩;have h2:=h.2 t ht;unfold tyLong at h2;rw[Bool.and_eq_true,decide_eq_true_eq,List.all_eq_true]at h2;exact⟨h2.1,fun r hr=>by simpa using h2.2 r hr⟩
theorem long_refs {ts:List TyS} (h:longOk ts=true):(refsOf ts).length<=256:=by
 obtain⟨h1,h2⟩:=long_small h;have:=flat_le (fun t:TyS=>relsOf t.name t.rels) 16 ts fun t ht=>by unfold relsOf;rw[List.length_map];exact(h2 t ht).1
 unfold refsOf;omega
end Go.Proofs.YtjdigpfipmckhaaGreat
namespace Go.Proofs.YtjdigpfipmckhaaGreat
open Go Go.RowKit Go.ChangeShapes Go.WideShapes Go.ChangeAt
def bc (l:List UInt8):List Value:=l.map fun c => .int .u8 c.toNat
theorem bc_length (a:List UInt8):(bc a).length=a.length:=by simp[bc]
theorem bytes_at {S:Nat->Prop} {w:World} {ao:Option Addr} {l:List UInt8} {c:Nat} (h:Sl S w 1 (.slice ao l.length c) (bc l)):∀ i (hi:i<l.length),∃ b off,ao=some ⟨b,off,none⟩/\S b/\w.cell? ⟨b,off+i,none⟩=some (.int .u8 l[i].toNat):=by
 obtain⟨ao',n',c',hv,h1,h2,h3,h4,h5⟩:=h;cases hv;intro i hi;obtain⟨b,off,rfl,hb,hc⟩:=h5 (fun e=>by have:=congrArg List.length e;rw[bc_length]at this;simp only[List.length_nil]at this;omega);exact⟨b,off,rfl,hb,hc i _ (by simp[bc,hi])⟩
section
variable {H : Type} {enc : TypeId × Value -> H} {W : World} {base : Nat} {v : Value} {d : DataW H} {ps : List MemPlace}
set_option maxRecDepth 100000 in
theorem open_bytesV (hok:Value.okWide Tryz.prog W .any base 62 v)(h:DataW.Trod enc Tryz.prog W 0 (fun _=>true) true 62 v d ps):∃ l:List UInt8,Sl (· < W.heap.size) W 1 v (bc l):=by
 obtain⟨xs,elems,fuel,hs,hl,he,_⟩:=open_sl Tryz.underlying62 (okWide_slice Tryz.underlying62 hok) h;rw[show Tryz.prog.cellsOf 5=1 from by kernel_rfl]at hs hl he
 have hall:∀ i (hi:i<xs.length),∃ c:UInt8,xs[i] = .int .u8 c.toNat:=by
  intro i hi;have hie:i<elems.length:=by omega
  have:=he i elems[i] (by simp[hie]);rw[Nat.mul_one,show(xs.drop i).take 1=[xs[i]]from by rw[List.drop_eq_getElem_cons hi];rfl]at this;obtain⟨n,e1,_,hw⟩:=DataW.trod_int Tryz.underlying5 this;have hb:=bounds_u8 hw;refine⟨UInt8.ofNat n.toNat,?_⟩;have e2:xs[i] = .int .u8 n:=by simpa using e1
  rw[e2];congr 1
  have:(UInt8.ofNat n.toNat).toNat=n.toNat:=by simp;omega
  rw[this];omega
 refine⟨xs.map fun x=>match x with | .int _ n=>UInt8.ofNat n.toNat | _=>0,?_⟩
 have:bc (xs.map fun x=>match x with | .int _ n=>UInt8.ofNat n.toNat | _=>0)=xs:=by
  apply List.ext_getElem
  ·simp[bc]
  ·intro i h1 h2;obtain⟨c,hc⟩:=hall i h2;simp[bc,hc]
 rw[this];exact hs
set_option maxRecDepth 100000 in
theorem open_u8V (hok:Value.okWide Tryz.prog W .any base 5 v)(h:DataW.Trod enc Tryz.prog W 0 (fun _=>true) true 5 v d ps):∃ q:Nat,v = .int .u8 q/\q<256:=by
 obtain⟨x,rfl,_,_,wx⟩:=open_int Tryz.underlying5 hok h;have hb:=bounds_u8 wx;exact⟨x.toNat,by congr 1;omega,by omega⟩
end
end Go.Proofs.YtjdigpfipmckhaaGreat
namespace Go.Proofs.YtjdigpfipmckhaaGreat
open Go Go.RowKit Go.Maps
def Tp (w:World)(tp:Nat):Prop:=∃ (bv:Value)(l:List UInt8)(n:Nat),n<=l.length/\Sl (· < tp) w 1 bv (bc l)/\Blk w tp #[bv,.int .i64 n] 71
abbrev KT (tp:Nat) (w w':World):Prop:=Kept (fun b=>b<w.heap.size/\b≠tp) w w'
theorem KT.trans {tp:Nat} {w w' w'':World} (h:KT tp w w')(k:KT tp w' w''):KT tp w w'':=Kept.trans h (Kept.mono k fun _b hb=>⟨Nat.lt_of_lt_of_le hb.1 h.size,hb.2⟩)
theorem KT.of {tp:Nat} {w w':World} (h:Ext w w'):KT tp w w':=Below.kept h fun _b hb=>hb.1
theorem Tp.ext {w w':World} {tp:Nat} (h:Tp w tp)(hb:Ext w w'):Tp w' tp:=by
 obtain⟨bv,l,n,hn,hs,hB⟩:=h;exact⟨bv,l,n,hn,hs.same ((Same.below hb).mono fun b h=>Nat.lt_trans h hB.lt),hB.below hb⟩
theorem Tp.lt {w:World} {tp:Nat} (h:Tp w tp):tp<w.heap.size:=by
 obtain⟨bv,l,n,hn,hs,hB⟩:=h;exact hB.lt
theorem KT.same {tp:Nat} {w w':World} {S:Nat->Prop} (h:KT tp w w')(hS:∀ b,S b->b<w.heap.size/\b≠tp):Same S w w':=fun b hb=>h.block b (hS b hb)
theorem KT.blk {tp:Nat} {w w':World} (h:KT tp w w') {B:Nat} {cs:Array Value} {e:TypeId} (hB:Blk w B cs e)(hn:B≠tp):Blk w' B cs e:=Kept.blk h hB ⟨hB.lt,hn⟩
set_option maxRecDepth 100000 in
set_option maxHeartbeats 600000 in
theorem next_any (tp:Nat)(n:Int)(w:World)(h:Tp w tp)(hn:1<=n)(hm:n<=1000000):Calls Tryz.prog 136 #[.pointer (some ⟨tp,0,none⟩),.int .i64 n] w fun e w'=>∃ k:Nat,e = .returned (.int .i64 k)/\(k:Int)<n/\Tp w' tp/\KT tp w w':=by
 obtain⟨bv,l,m,hml,hs,hB⟩:=h;obtain⟨ao,ln,c,rfl,hln,hlc,hcm⟩:=hs.len;rw[bc_length,Nat.mul_one]at hln;subst hln;have HS:=h! hs;have HB:=h! hB;have HM:=h! hm;have HML:=h! hml;clear hs hB hm;by_cases h2:n<2
 ·have HN:=h! hn;have hn2:decide (n<2)=true:=decide_eq_true h2;go_enter Tryz.func136,Tryz.ntmps136
  go_wp2_with fail
  refine region_walkN (Ext w) (Ext.drew w) (by kernel_rfl) (by kernel_rfl) (fun _ _ d _ _ h=>by cases d <;> exact h) ?_;(refine WalkN.tk [0,1,2] ?_;(iterate 3 ((refine TkN.c _ ?_ (by simp only[gA,gS,gZ];rfl) (by kernel_rfl) (by kernel_rfl) (by rfl) (fun W hW=>?_) ?_;rotate_left;· (go_simp;try with_reducible rfl));simp only[Act.put,pA,pZ,pS]));refine TkN.n ?_)
  (refine WalkN.skip 3 _ (by simp only[gA,gS,gZ];rfl) (by kernel_rfl) (by kernel_rfl) (by rfl) ?_;simp only[Act.put,pA,pZ,pS]);(refine WalkN.skip 4 _ (by simp only[gA,gS,gZ];rfl) (by kernel_rfl) (by kernel_rfl) (by rfl) ?_;simp only[Act.put,pA,pZ,pS]);(refine WalkN.skip 5 _ (by simp only[gA,gS,gZ];rfl) (by kernel_rfl) (by kernel_rfl) (by rfl) ?_;simp only[Act.put,pA,pZ,pS]);(refine WalkN.skip 6 _ (by simp only[gA,gS,gZ];rfl) (by kernel_rfl) (by kernel_rfl) (by rfl) ?_;simp only[Act.put,pA,pZ,pS]);(refine WalkN.skip 7 _ (by simp only[gA,gS,gZ];rfl) (by kernel_rfl) (by kernel_rfl) (by rfl) ?_;simp only[Act.put,pA,pZ,pS]);(refine WalkN.skip 8 _ (by simp only[gA,gS,gZ];rfl) (by kernel_rfl) (by kernel_rfl) (by rfl) ?_;simp only[Act.put,pA,pZ,pS]);(refine WalkN.skip 9 _ (by simp only[gA,gS,gZ];rfl) (by kernel_rfl) (by kernel_rfl) (by rfl) ?_;simp only[Act.put,pA,pZ,pS]);(refine WalkN.skip 10 _ (by simp only[gA,gS,gZ];rfl) (by kernel_rfl) (by kernel_rfl) (by rfl) ?_;simp only[Act.put,pA,pZ,pS]);(refine WalkN.skip 11 _ (by simp only[gA,gS,gZ];rfl) (by kernel_rfl) (by kernel_rfl) (by rfl) ?_;simp only[Act.put,pA,pZ,pS]);(refine WalkN.skip 12 _ (by simp only[gA,gS,gZ];rfl) (by kernel_rfl) (by kernel_rfl) (by rfl) ?_;simp only[Act.put,pA,pZ,pS])
  ((refine WalkN.take 13 _ ?_ (by simp only[gA,gS,gZ];rfl) (by kernel_rfl) (by kernel_rfl) (by rfl) (fun W hW=>?_) ?_;rotate_left;· (go_simp;try with_reducible rfl));simp only[Act.put,pA,pZ,pS])
  refine WalkN.done (by kernel_rfl) ?_;go_wp2_with fail
  go_ret
  exact⟨0,rfl,by have:=HN.out;omega,⟨_,l,m,HML.out,HS.out.same ((Same.below (Ext.drew w)).mono fun b h=>Nat.lt_trans h HB.out.lt),HB.out.below (Ext.drew w)⟩,KT.of (Ext.drew w)⟩
 ·have hn2:decide (n<2)=false:=decide_eq_false h2;have HN2:=h! h2;have a0:∀ W,Ext w W->W.cell? ⟨tp,0,none⟩=some (.slice ao l.length c):=fun W h=>by rw[(HB.out.below h).cells];rfl
  have a1:∀ W,Ext w W->W.cell? ⟨tp,1,none⟩=some (.int .i64 m):=fun W h=>by rw[(HB.out.below h).cells];rfl
  clear h2;by_cases hlt:m<l.length
  ·have hge:decide ((l.length:Int)<=(m:Int))=false:=decide_eq_false (by omega);have hge2:¬ (l.length:Int)<=(m:Int):=by omega
   go_enter Tryz.func136,Tryz.ntmps136
   go_wp2_with fail
   refine region_walkN (Ext w) (Ext.drew w) (by kernel_rfl) (by kernel_rfl) (fun _ _ d _ _ h=>by cases d <;> exact h) ?_;(refine WalkN.tk [0,1,2,3,4,5,6,7,8,9,10,11,12,13] ?_;(iterate 14 ((refine TkN.c _ ?_ (by simp only[gA,gS,gZ];rfl) (by kernel_rfl) (by kernel_rfl) (by rfl) (fun W hW=>?_) ?_;rotate_left;· (go_simp;try with_reducible rfl));simp only[Act.put,pA,pZ,pS]));refine TkN.n ?_)
   refine WalkN.done (by kernel_rfl) ?_;have c1:=a1 _ (Ext.drew w);have hf1:=(HB.out.below (Ext.drew w)).free;have hw1:wrap64 ((m:Int)+1)=((m+1:Nat):Int):=by rw[wrap_in _ (by omega) (by omega)];omega
   obtain⟨bb,off,rfl,hb,hcl⟩:=bytes_at HS.out m hlt;generalize hq:l[m]=q at *;clear a0 a1;have HD:=h! (HB.out.below (Ext.drew w));have HSD:=h! (HS.out.same ((Same.below (Ext.drew w)).mono fun b h=>Nat.lt_trans h HB.out.lt));go_wp2_with fail
   obtain⟨w2,hw2⟩:∃ x,x=(w.setCell ⟨tp,1,none⟩ (.int .i64 ((m:Int)+1))).drew:=⟨_,rfl⟩;rw[<- hw2];have H2:=h! (show Blk w2 tp #[.slice (some ⟨bb,off,none⟩) l.length c,.int .i64 ((m+1:Nat):Int)] 71 from by rw[hw2];exact(HB.out.set_to 1 _ (by simp)).drew);have HK2:=h! (show KT tp w w2 from by rw[hw2];exact((Kept.refl _ _).set (fun h=>h.2 rfl) _).drew);have hcl2:=(World.cell?_of_block (a:=⟨bb,off+m,none⟩) (HK2.out.block bb ⟨Nat.lt_trans hb HB.out.lt,by omega⟩)).trans hcl;have HS2:=h! (HS.out.same (HK2.out.same (S:=(· < tp)) fun b (h:b<tp)=>⟨Nat.lt_trans h HB.out.lt,by omega⟩));have HTW:=h! (show Tp w2 tp from⟨_,l,m+1,hlt,HS2.out,H2.out⟩);have b0:∀ W,Ext w2 W->W.cell? ⟨tp,0,none⟩=some (.slice (some ⟨bb,off,none⟩) l.length c):=fun W h=>by rw[(H2.out.below h).cells];rfl
   have b1:∀ W,Ext w2 W->W.cell? ⟨tp,1,none⟩=some (.int .i64 ((m+1:Nat):Int)):=fun W h=>by rw[(H2.out.below h).cells];rfl
   have b2:∀ W,Ext w2 W->W.cell? ⟨bb,off+m,none⟩=some (.int .u8 q.toNat):=fun W h=>Ext.cell h (a:=⟨bb,off+m,none⟩) hcl2;have hs1:IntKind.i64.wrap (m:Int)=(m:Int):=IntWalk.i64_in _ (by omega);have hs2:(0:Int)<=(m:Int):=by omega
   have hs3:(m:Int)<(l.length:Int):=by omega
   obtain⟨n',rfl⟩:∃ n':Nat,n=n':=⟨n.toNat,by omega⟩
   have hmod:(q.toNat:Int).tmod (n':Int)=((q.toNat % n':Nat):Int):=by
    rw[Int.tmod_eq_emod_of_nonneg (by omega)];simp
   have hkl:=Nat.mod_lt q.toNat (show 0<n' from by omega);have hn0:¬ n'=0:=by omega
   have hq0:=q.toNat_lt;generalize q.toNat=qn at *;have hqw:IntKind.i64.wrap (qn:Int)=(qn:Int):=IntWalk.i64_in _ (by omega);generalize hk:qn % n'=k at *;have HKL:=h! hkl;clear hw2 c1 hf1 hw1 hcl hcl2 hb hq hk hkl;refine region_walkN (Ext w2) (Ext.drew w2) (by kernel_rfl) (by kernel_rfl) (fun _ _ d _ _ h=>by cases d <;> exact h) ?_;(refine WalkN.tk [0,1,2,3,4,5,6,7,8,9,10,11,12,13,14] ?_;(iterate 15 ((refine TkN.c _ ?_ (by simp only[gA,gS,gZ];rfl) (by kernel_rfl) (by kernel_rfl) (by rfl) (fun W hW=>?_) ?_;rotate_left;· (go_simp;try with_reducible rfl));simp only[Act.put,pA,pZ,pS]));refine TkN.n ?_)
   refine WalkN.done (by kernel_rfl) ?_;clear b0 b1 b2;go_wp2_with fail
   go_ret
   exact⟨k,rfl,by have:=HKL.out;omega,HTW.out.ext (Ext.drew w2),KT.trans HK2.out (KT.of (Ext.drew w2))⟩
  ·have hge:decide ((l.length:Int)<=(m:Int))=true:=decide_eq_true (by omega);have hge2:(l.length:Int)<=(m:Int):=by omega
   go_enter Tryz.func136,Tryz.ntmps136
   go_wp2_with fail
   refine region_walkN (Ext w) (Ext.drew w) (by kernel_rfl) (by kernel_rfl) (fun _ _ d _ _ h=>by cases d <;> exact h) ?_;(refine WalkN.tk [0,1,2,3,4,5,6,7,8,9,10,11,12,13] ?_;(iterate 14 ((refine TkN.c _ ?_ (by simp only[gA,gS,gZ];rfl) (by kernel_rfl) (by kernel_rfl) (by rfl) (fun W hW=>?_) ?_;rotate_left;· (go_simp;try with_reducible rfl));simp only[Act.put,pA,pZ,pS]));refine TkN.n ?_)
   refine WalkN.done (by kernel_rfl) ?_;clear a0 a1;go_wp2_with fail
   go_ret
   exact⟨0,rfl,by have:=HN2.out;omega,⟨_,l,m,HML.out,HS.out.same ((Same.below (Ext.drew w)).mono fun b h=>Nat.lt_trans h HB.out.lt),HB.out.below (Ext.drew w)⟩,KT.of (Ext.drew w)⟩
def nmV:ByteArray:=⟨#[118,105,101,119,101,114]⟩
def nmO:ByteArray:=⟨#[111,119,110,101,114]⟩
def nmP:ByteArray:=⟨#[112,97,114,101,110,116]⟩
def nmM:ByteArray:=⟨#[109,101,109,98,101,114]⟩
def relNs:List ByteArray:=[nmV,nmO,nmP,nmM]
set_option maxRecDepth 100000 in
set_option maxHeartbeats 600000 in
theorem mkRels_any (w:World):Calls Tryz.prog 137 #[] w fun e w'=>e = .returned (.slice (some ⟨w.heap.size,0,none⟩) 4 4)/\Blk w' w.heap.size #[.string nmV,.string nmO,.string nmP,.string nmM] 9/\Ext w w':=by
 go_enter Tryz.func137,Tryz.ntmps137
 go_wp2_with fail
 go_ret
 exact⟨rfl,Blk.made _ _ _,Ext.alloc _ _⟩
def LeafR (own:List ByteArray)(r:RT):Prop:=r = .mk 1 ⟨#[]⟩ ⟨#[]⟩ []\/(∃ a∈own,r = .mk 2 a ⟨#[]⟩ [])\/∃ a∈own,∃ b∈relNs.take 2,r = .mk 3 a b []
def GoodR (own:List ByteArray):Nat->RT->Prop
 | 0,r=>LeafR own r
 | d+1,r=>LeafR own r\/∃ k ps,r = .mk k ⟨#[]⟩ ⟨#[]⟩ ps/\(k=4\/k=5)/\(ps.length=2\/ps.length=3)/\∀ p∈ps,GoodR own d p/\p.k≠k
theorem GoodR.leaf {own:List ByteArray} {r:RT} (h:LeafR own r):∀ d,GoodR own d r
 | 0=>h
 | _+1 => .inl h
theorem LeafR.k {own:List ByteArray} {r:RT} (h:LeafR own r):r.k≠0/\r.k≠4/\r.k≠5:=by
 rcases h with rfl | ⟨a,_,rfl⟩ | ⟨a,_,b,_,rfl⟩ <;> simp[RT.k]
theorem LeafR.ps {own:List ByteArray} {r:RT} (h:LeafR own r):r.ps=[]:=by
 rcases h with rfl | ⟨a,_,rfl⟩ | ⟨a,_,b,_,rfl⟩ <;> rfl
theorem RTAt.leaf' (S:Nat->Prop)(w:World) {r:RT} (h:r.ps=[]):RTAt S w r (.slice none 0 0):=(RTAt.iff _ _).2 ⟨[],by rw[h];rfl,by simp,Sl.nil _ _ _⟩
structure MkI (own:List ByteArray)(d:Nat)(kk:Int)(rp:Nat)(w:World)(q:List (RT × Value))(pv:Value):Prop where
 box:Blk w rp #[.int .i64 kk,.string ⟨#[]⟩,.string ⟨#[]⟩,pv] 98
 row:Own w (rp+1) 98 4 pv (q.flatMap rC)
 parts:∀ x∈q,RTAt (fun b=>(rp+1<=b/\b<w.heap.size)/\pv.ownBlock≠some b) w x.1 x.2
 good:∀ x∈q,GoodR own d x.1/\x.1.k≠kk
theorem MkI.keep {own:List ByteArray} {d:Nat} {kk:Int} {rp tp:Nat} {w w':World} {q:List (RT × Value)} {pv:Value} (h:MkI own d kk rp w q pv)(hk:KT tp w w')(ht:tp<rp):MkI own d kk rp w' q pv :=
 ⟨hk.blk h.box (by omega),h.row.keepOwn fun g hg=>hk.block g ⟨(h.row.block g hg).2,by have:=(h.row.block g hg).1;omega⟩,
  fun x hx=>((h.parts x hx).same fun b hb=>hk.block b ⟨hb.1.2,by have:=hb.1.1;omega⟩).mono fun b hb=>⟨⟨hb.1.1,Nat.lt_of_lt_of_le hb.1.2 hk.size⟩,hb.2⟩,h.good⟩
theorem MkI.add {own:List ByteArray} {d:Nat} {kk:Int} {rp n0:Nat} {w w7:World} {q:List (RT × Value)} {pv v7 v5:Value} {r:RT} (h:MkI own d kk rp w q pv)(hk:∀ b,b<w.heap.size->pv.ownBlock≠some b->w7.heap[b]?=w.heap[b]?)(hz:w.heap.size<=w7.heap.size)
  (ho:Own w7 (rp+1) 98 4 v7 (q.flatMap rC++rC (r,v5))) (hb:∀ g,v7.ownBlock=some g->pv.ownBlock=some g\/w.heap.size<=g) (hr:RTAt (fun b=>n0<=b/\b<w.heap.size) w r v5) (hn0:rp+1<=n0) (hpv:∀ g,pv.ownBlock=some g->g<n0) (hg:GoodR own d r/\r.k≠kk) :
  MkI own d kk rp (w7.setCell ⟨rp,3,none⟩ v7) (q++[(r,v5)]) v7:=by
 have hne:pv.ownBlock≠some rp:=fun e=>by have:=(h.row.block rp e).1;omega
 have hs:Same (fun b=>(rp+1<=b/\b<w.heap.size)/\pv.ownBlock≠some b) w (w7.setCell ⟨rp,3,none⟩ v7):=fun b hb'=>(Below.heap_setCell w7 _ _ b (by have:=hb'.1.1;show b≠rp;omega)).trans (hk b hb'.1.2 hb'.2)
 have hm:∀ b,((rp+1<=b/\b<w.heap.size)/\pv.ownBlock≠some b)->((rp+1<=b/\b<(w7.setCell ⟨rp,3,none⟩ v7).heap.size)/\v7.ownBlock≠some b):=fun b hb'=>⟨⟨hb'.1.1,by simp;exact Nat.lt_of_lt_of_le hb'.1.2 hz⟩,fun e=>by
  rcases hb b e with e | e
  ·exact hb'.2 e
  ·have:=hb'.1.2;omega⟩
 refine⟨?_,?_,fun x hx=>?_,fun x hx=>?_⟩
 ·have hb7:Blk w7 rp #[.int .i64 kk,.string ⟨#[]⟩,.string ⟨#[]⟩,pv] 98:=(hk rp h.box.lt hne).trans h.box;exact hb7.set_to 3 _ rfl
 ·rw[List.flatMap_append];exact(show Own w7 (rp+1) 98 4 v7 (q.flatMap rC++[(r,v5)].flatMap rC)from by simpa using ho).keepOwn fun g hg=>Below.heap_setCell _ _ _ _ (by have:=(ho.block g hg).1;show g≠rp;omega)
 ·rcases List.mem_append.1 hx with hx | hx
  ·exact((h.parts x hx).same hs).mono hm
  ·obtain rfl:=List.mem_singleton.1 hx;have h2:∀ b,(n0<=b/\b<w.heap.size)->((rp+1<=b/\b<w.heap.size)/\pv.ownBlock≠some b):=fun b hb'=>⟨⟨Nat.le_trans hn0 hb'.1,hb'.2⟩,fun e=>by have:=hpv b e;omega⟩;exact((hr.mono h2).same hs).mono hm
 ·rcases List.mem_append.1 hx with hx | hx
  ·exact h.good x hx
  ·obtain rfl:=List.mem_singleton.1 hx;exact hg
theorem Tp.kept {w w':World} {tp:Nat} {K:Nat->Prop} (h:Tp w tp)(hk:Kept K w w')(hK:∀ b,b<=tp->K b):Tp w' tp:=by
 obtain⟨bv,l,n,hn,hs,hB⟩:=h;exact⟨bv,l,n,hn,hs.same fun b hb=>hk.block b (hK b (Nat.le_of_lt hb)),hk.blk hB (hK tp (Nat.le_refl _))⟩
theorem Blk.set4 {w:World} {B:Nat} {a b c d:Value} {e:TypeId} (h:Blk w B #[a,b,c,d] e)(x0 x1 x2 x3:Value):Blk ((((w.setCell ⟨B,0,none⟩ x0).setCell ⟨B,1,none⟩ x1).setCell ⟨B,2,none⟩ x2).setCell ⟨B,3,none⟩ x3) B #[x0,x1,x2,x3] e :=
 (((h.set_to (cs':=#[x0,b,c,d]) 0 x0 rfl).set_to (cs':=#[x0,x1,c,d]) 1 x1 rfl).set_to (cs':=#[x0,x1,x2,d]) 2 x2 rfl).set_to (cs':=#[x0,x1,x2,x3]) 3 x3 rfl
theorem Kept.set4 {K:Nat->Prop} {w w':World} {B:Nat} (h:Kept K w w')(hk:¬ K B)(x0 x1 x2 x3:Value):Kept K w ((((w'.setCell ⟨B,0,none⟩ x0).setCell ⟨B,1,none⟩ x1).setCell ⟨B,2,none⟩ x2).setCell ⟨B,3,none⟩ x3):=(((h.set hk x0).set hk x1).set hk x2).set hk x3
theorem Tp.set4 {w:World} {tp B:Nat} (h:Tp w tp)(_hB:B<w.heap.size)(hn:tp<B)(x0 x1 x2 x3:Value):Tp ((((w.setCell ⟨B,0,none⟩ x0).setCell ⟨B,1,none⟩ x1).setCell ⟨B,2,none⟩ x2).setCell ⟨B,3,none⟩ x3) tp :=
 h.kept (K:=fun b=>b≠B) ((Kept.refl _ w).set4 (fun h=>h rfl) x0 x1 x2 x3) fun b hb=>by omega
set_option maxRecDepth 100000 in
set_option maxHeartbeats 600000 in
theorem mkRule_any (own:List ByteArray)(hol:1<=own.length/\own.length<=4)(d:Nat):∀ (nt:Int)(tp:Nat)(ov:Value)(w:World),Tp w tp->Sl (fun b=>b<w.heap.size/\b≠tp) w 1 ov (txs own)->d<=1000->(nt=0\/nt=4\/nt=5) ->
  Calls Tryz.prog 138 #[.pointer (some ⟨tp,0,none⟩),ov,.int .i64 d,.int .i64 nt] w fun e w'=>∃ (r:RT) (pv:Value),e = .returned (rV r pv)/\GoodR own d r/\r.k≠nt/\RTAt (fun b=>w.heap.size<=b/\b<w'.heap.size) w' r pv/\Tp w' tp/\KT tp w w':=by
 have HOL:=h! hol;clear hol;induction d using Nat.strongRecOn with
 | ind d ih =>
 intro nt tp ov w htp hov hd hnt;obtain⟨ao,ln,c,rfl,hln,-,-⟩:=hov.len;rw[txs_length,Nat.mul_one]at hln;subst hln;have HOV:=h! hov;have HTP:=h! htp;have HNT:=h! hnt;have HD:=h! hd;have HLT:=h! htp.lt;have x01:=Ext.alloc w (.cells #[.int .i64 0,.string ⟨#[]⟩,.string ⟨#[]⟩,.slice none 0 0] 98);have HR0:=h! (Blk.made w #[.int .i64 0,.string ⟨#[]⟩,.string ⟨#[]⟩,.slice none 0 0] 98);have HX01:=h! x01;have HNX:=h! (next_any tp 8 _ (htp.ext x01) (by decide) (by decide));clear hov htp hnt hd x01;go_enter Tryz.func138,Tryz.ntmps138
 go_wp2_with fail
 refine HNX.out.mono ?_;rintro e w1 ⟨k,rfl,hk,htp1,hkt1⟩;have w1HT:=h! htp1;have w1HK:=h! (KT.trans (KT.of HX01.out) hkt1);have w1HR:=h! (hkt1.blk HR0.out (by have:=HLT.out;omega));have HZ1:=h! (show w.heap.size<w1.heap.size from w1HR.out.lt);have hr1:=w1HR.out.cells;have hf1:=w1HR.out.free;clear htp1 hkt1 HNX HX01 HR0 HTP;have h8:k=0\/k=1\/k=2\/k=3\/k=4\/k=5\/6<=k:=by omega
 rcases h8 with rfl | rfl | rfl | rfl | rfl | rfl | h6
 ·clear hk;go_wp2_with fail
  refine bodyPost_ret (results_cell_row rfl _ _ w.heap.size 98 #[.int .i64 1,.string ⟨#[]⟩,.string ⟨#[]⟩,.slice none 0 0] (0,0) _ rfl (w1HR.out.set4 _ _ _ _) Tryz.underlying98 rfl (by kernel_rfl)) rfl ?_;exact⟨.mk 1 ⟨#[]⟩ ⟨#[]⟩ [],.slice none 0 0,rfl,GoodR.leaf (.inl rfl) _,by have:=HNT.out;have:=(show LeafR own (.mk 1 ⟨#[]⟩ ⟨#[]⟩ [])from .inl rfl).k;omega,RTAt.leaf' _ _ rfl,w1HT.out.set4 w1HR.out.lt (by have:=HLT.out;omega) _ _ _ _,w1HK.out.set4 (fun h=>Nat.lt_irrefl _ h.1) _ _ _ _⟩
 ·clear hk;go_wp2_with fail
  refine bodyPost_ret (results_cell_row rfl _ _ w.heap.size 98 #[.int .i64 1,.string ⟨#[]⟩,.string ⟨#[]⟩,.slice none 0 0] (0,0) _ rfl (w1HR.out.set4 _ _ _ _) Tryz.underlying98 rfl (by kernel_rfl)) rfl ?_;exact⟨.mk 1 ⟨#[]⟩ ⟨#[]⟩ [],.slice none 0 0,rfl,GoodR.leaf (.inl rfl) _,by have:=HNT.out;have:=(show LeafR own (.mk 1 ⟨#[]⟩ ⟨#[]⟩ [])from .inl rfl).k;omega,RTAt.leaf' _ _ rfl,w1HT.out.set4 w1HR.out.lt (by have:=HLT.out;omega) _ _ _ _,w1HK.out.set4 (fun h=>Nat.lt_irrefl _ h.1) _ _ _ _⟩
 ·clear hk;go_wp2_with fail
  refine bodyPost_ret (results_cell_row rfl _ _ w.heap.size 98 #[.int .i64 1,.string ⟨#[]⟩,.string ⟨#[]⟩,.slice none 0 0] (0,0) _ rfl (w1HR.out.set4 _ _ _ _) Tryz.underlying98 rfl (by kernel_rfl)) rfl ?_;exact⟨.mk 1 ⟨#[]⟩ ⟨#[]⟩ [],.slice none 0 0,rfl,GoodR.leaf (.inl rfl) _,by have:=HNT.out;have:=(show LeafR own (.mk 1 ⟨#[]⟩ ⟨#[]⟩ [])from .inl rfl).k;omega,RTAt.leaf' _ _ rfl,w1HT.out.set4 w1HR.out.lt (by have:=HLT.out;omega) _ _ _ _,w1HK.out.set4 (fun h=>Nat.lt_irrefl _ h.1) _ _ _ _⟩
 ·clear hk;have HNX2:=h! (next_any tp own.length w1 w1HT.out (by have:=HOL.out;omega) (by have:=HOL.out;omega));go_wp2_with fail
  refine HNX2.out.mono ?_;rintro e w2 ⟨k2,rfl,hk2,htp2,hkt2⟩;have w2HT:=h! htp2;have w2HK:=h! (KT.trans w1HK.out hkt2);have w2HR:=h! (hkt2.blk w1HR.out (by have:=HLT.out;omega));have hr2:=w2HR.out.cells;have hf2:=w2HR.out.free;have hk2l:k2<own.length:=by omega
  obtain⟨bo,oo,rfl,hbo,hco⟩:=texts_at HOV.out k2 hk2l;have hco2:=(World.cell?_of_block (a:=⟨bo,oo+k2,none⟩) (w2HK.out.block bo hbo)).trans hco;have HAM:=h! (List.getElem_mem hk2l);generalize own[k2]=nm at *;clear htp2 hkt2 HNX2 hr1 hf1 hco hbo;go_wp2_with fail
  refine bodyPost_ret (results_cell_row rfl _ _ w.heap.size 98 #[.int .i64 2,.string nm,.string ⟨#[]⟩,.slice none 0 0] (0,0) _ rfl (w2HR.out.set4 _ _ _ _) Tryz.underlying98 rfl (by kernel_rfl)) rfl ?_;exact⟨.mk 2 nm ⟨#[]⟩ [],.slice none 0 0,rfl,GoodR.leaf (.inr (.inl ⟨nm,HAM.out,rfl⟩)) _,by have:=HNT.out;have:=(show LeafR own (.mk 2 nm ⟨#[]⟩ [])from .inr (.inl ⟨nm,HAM.out,rfl⟩)).k;omega,RTAt.leaf' _ _ rfl,w2HT.out.set4 w2HR.out.lt (by have:=HLT.out;omega) _ _ _ _,w2HK.out.set4 (fun h=>Nat.lt_irrefl _ h.1) _ _ _ _⟩
 ·clear hk;have HNX2:=h! (fun W (h:Tp W tp)=>next_any tp own.length W h (by have:=HOL.out;omega) (by have:=HOL.out;omega));go_wp2_with fail
  obtain⟨wd,hwd⟩:∃ wd,wd=w1.drew:=⟨_,rfl⟩;have hE:Ext w1 wd:=by rw[hwd];exact Ext.drew w1
  have wdHT:=h! (w1HT.out.ext hE);have wdHK:=h! (KT.trans w1HK.out (KT.of hE));have wdHR:=h! (w1HR.out.below hE);refine region_walkL 13 (Kept (fun b=>b<wd.heap.size/\b≠tp) wd) (by rw[<- hwd];exact Kept.refl _ _) (by kernel_rfl) (by kernel_rfl) (fun _ _ d _ _ h=>by cases d <;> exact h) ?_;rw[<- hwd];clear hwd hE hr1 hf1;(refine WalkL.tk [0,1,2,3,8] ?_;(iterate 5 ((refine TkL.c _ ?_ (by simp only[gA,gS,gZ];rfl) (by kernel_rfl) (by kernel_rfl) (by kernel_rfl) (by rfl) (fun W hW=>?_) ?_;rotate_left;· (go_simp;try with_reducible rfl));simp only[Act.put,pA,pZ,pS]));refine TkL.n ?_)
  refine WalkL.one 4 (by kernel_rfl) ?_;refine⟨_,(by simp only[gA,gS,gZ];rfl),by rfl,fun K hK=>?_⟩;go_simp;refine(HNX2.out wd wdHT.out).mono ?_;rintro e w2 ⟨k2,rfl,hk2,htp2,hkt2⟩;refine hK.out _ _ hkt2 ?_;clear hK;have hk2l:k2<own.length:=by omega
  obtain⟨bo,oo,rfl,hbo,hco⟩:=texts_at HOV.out k2 hk2l;have hcoW:∀ W,Kept (fun b=>b<wd.heap.size/\b≠tp) wd W->W.cell? ⟨bo,oo+k2,none⟩=some (.string own[k2]):=fun W hW=>(World.cell?_of_block (a:=⟨bo,oo+k2,none⟩) ((hW.block bo ⟨Nat.lt_of_lt_of_le hbo.1 wdHK.out.size,hbo.2⟩).trans (wdHK.out.block bo hbo))).trans hco;have HAM:=h! (List.getElem_mem hk2l);generalize own[k2]=nm at *;clear hco;(refine WalkL.tk [5,6] ?_;(iterate 2 ((refine TkL.c _ ?_ (by simp only[gA,gS,gZ];rfl) (by kernel_rfl) (by kernel_rfl) (by kernel_rfl) (by rfl) (fun W hW=>?_) ?_;rotate_left;· (go_simp;try with_reducible rfl));simp only[Act.put,pA,pZ,pS]));refine TkL.n ?_)
  refine WalkL.one 7 (by kernel_rfl) ?_;refine⟨_,(by simp only[gA,gS,gZ];rfl),by rfl,fun K hK=>?_⟩;go_simp;refine(mkRels_any w2).mono ?_;rintro e w3 ⟨rfl,hrb,hb3⟩;have hkt3:=KT.trans hkt2 (KT.of hb3);refine hK.out _ _ hkt3 ?_;have HZ2:=h! (show wd.heap.size<=w2.heap.size from hkt2.size);clear hK hkt2;refine WalkL.one 9 (by kernel_rfl) ?_;refine⟨_,(by simp only[gA,gS,gZ];rfl),by rfl,fun K hK=>?_⟩;go_simp;refine(next_any tp 2 w3 (htp2.ext hb3) (by decide) (by decide)).mono ?_;rintro e w4 ⟨k4,rfl,hk4,htp4,hkt4⟩;have hk24:=KT.trans hkt3 hkt4;refine hK.out _ _ hk24 ?_;clear hK hkt3;have HRB4:=h! (hkt4.blk hrb (by have:=htp2.lt;omega));have w4HT:=h! htp4;have w4HK:=h! (KT.trans wdHK.out hk24);have w4HR:=h! (hk24.blk wdHR.out (by have:=HLT.out;omega));have HZ4:=h! (show w2.heap.size<w4.heap.size from HRB4.out.lt)
  obtain⟨nm2,hn2,hcl4⟩:∃ nm2:ByteArray,nm2∈relNs.take 2/\w4.cell? ⟨w2.heap.size,k4,none⟩=some (.string nm2):=by
   obtain rfl | rfl:k4=0\/k4=1:=by omega
   ·exact⟨nmV,by simp[relNs],by rw[HRB4.out.cells];rfl⟩
   ·exact⟨nmO,by simp[relNs],by rw[HRB4.out.cells];rfl⟩
  have HN2:=h! hn2;have w4r:=w4HR.out.cells;have w4f:=w4HR.out.free;have h04:(0:Int)<=(k4:Int):=by omega
  have h44:(k4:Int)<4:=by omega
  clear hn2 htp4 hkt4 htp2 hrb hb3 hk4 hk2 HNX2;((refine WalkL.take 10 _ ?_ (by simp only[gA,gS,gZ];rfl) (by kernel_rfl) (by kernel_rfl) (by kernel_rfl) (by rfl) (fun W hW=>?_) ?_;rotate_left;· (go_simp;try with_reducible rfl));simp only[Act.put,pA,pZ,pS])
  refine WalkL.one 11 (by kernel_rfl) ?_;refine⟨_,(by simp only[gA,gS,gZ];rfl),by rfl,fun K hK=>?_⟩;go_simp;refine hK.out _ _ hk24 ?_;clear hK;((refine WalkL.take 12 _ ?_ (by simp only[gA,gS,gZ];rfl) (by kernel_rfl) (by kernel_rfl) (by kernel_rfl) (by rfl) (fun W hW=>?_) ?_;rotate_left;· (go_simp;try with_reducible rfl));simp only[Act.put,pA,pZ,pS])
  refine WalkL.last (by kernel_rfl) (by kernel_rfl) ?_;refine⟨_,(by simp only[gA,gS,gZ];rfl),by rfl,fun K hK=>?_⟩;go_simp;refine hK.out _ _ ?_;clear hK hcl4 hk24 hcoW;go_wp2_with fail
  refine bodyPost_ret (results_cell_row rfl _ _ w.heap.size 98 #[.int .i64 3,.string nm,.string nm2,.slice none 0 0] (0,0) _ rfl (w4HR.out.set4 _ _ _ _) Tryz.underlying98 rfl (by kernel_rfl)) rfl ?_;exact⟨.mk 3 nm nm2 [],.slice none 0 0,rfl,GoodR.leaf (.inr (.inr ⟨nm,HAM.out,nm2,HN2.out,rfl⟩)) _,by have:=HNT.out;have:=(show LeafR own (.mk 3 nm nm2 [])from .inr (.inr ⟨nm,HAM.out,nm2,HN2.out,rfl⟩)).k;omega,RTAt.leaf' _ _ rfl,w4HT.out.set4 w4HR.out.lt (by have:=HLT.out;omega) _ _ _ _,w4HK.out.set4 (fun h=>Nat.lt_irrefl _ h.1) _ _ _ _⟩
 ·clear hk;have HNX2:=h! (fun W (h:Tp W tp)=>next_any tp own.length W h (by have:=HOL.out;omega) (by have:=HOL.out;omega));go_wp2_with fail
  obtain⟨wd,hwd⟩:∃ wd,wd=w1.drew:=⟨_,rfl⟩;have hE:Ext w1 wd:=by rw[hwd];exact Ext.drew w1
  have wdHT:=h! (w1HT.out.ext hE);have wdHK:=h! (KT.trans w1HK.out (KT.of hE));have wdHR:=h! (w1HR.out.below hE);refine region_walkL 13 (Kept (fun b=>b<wd.heap.size/\b≠tp) wd) (by rw[<- hwd];exact Kept.refl _ _) (by kernel_rfl) (by kernel_rfl) (fun _ _ d _ _ h=>by cases d <;> exact h) ?_;rw[<- hwd];clear hwd hE hr1 hf1;(refine WalkL.tk [0,1,2,3,8] ?_;(iterate 5 ((refine TkL.c _ ?_ (by simp only[gA,gS,gZ];rfl) (by kernel_rfl) (by kernel_rfl) (by kernel_rfl) (by rfl) (fun W hW=>?_) ?_;rotate_left;· (go_simp;try with_reducible rfl));simp only[Act.put,pA,pZ,pS]));refine TkL.n ?_)
  refine WalkL.one 4 (by kernel_rfl) ?_;refine⟨_,(by simp only[gA,gS,gZ];rfl),by rfl,fun K hK=>?_⟩;go_simp;refine(HNX2.out wd wdHT.out).mono ?_;rintro e w2 ⟨k2,rfl,hk2,htp2,hkt2⟩;refine hK.out _ _ hkt2 ?_;clear hK;have hk2l:k2<own.length:=by omega
  obtain⟨bo,oo,rfl,hbo,hco⟩:=texts_at HOV.out k2 hk2l;have hcoW:∀ W,Kept (fun b=>b<wd.heap.size/\b≠tp) wd W->W.cell? ⟨bo,oo+k2,none⟩=some (.string own[k2]):=fun W hW=>(World.cell?_of_block (a:=⟨bo,oo+k2,none⟩) ((hW.block bo ⟨Nat.lt_of_lt_of_le hbo.1 wdHK.out.size,hbo.2⟩).trans (wdHK.out.block bo hbo))).trans hco;have HAM:=h! (List.getElem_mem hk2l);generalize own[k2]=nm at *;clear hco;(refine WalkL.tk [5,6] ?_;(iterate 2 ((refine TkL.c _ ?_ (by simp only[gA,gS,gZ];rfl) (by kernel_rfl) (by kernel_rfl) (by kernel_rfl) (by rfl) (fun W hW=>?_) ?_;rotate_left;· (go_simp;try with_reducible rfl));simp only[Act.put,pA,pZ,pS]));refine TkL.n ?_)
  refine WalkL.one 7 (by kernel_rfl) ?_;refine⟨_,(by simp only[gA,gS,gZ];rfl),by rfl,fun K hK=>?_⟩;go_simp;refine(mkRels_any w2).mono ?_;rintro e w3 ⟨rfl,hrb,hb3⟩;have hkt3:=KT.trans hkt2 (KT.of hb3);refine hK.out _ _ hkt3 ?_;have HZ2:=h! (show wd.heap.size<=w2.heap.size from hkt2.size);clear hK hkt2;refine WalkL.one 9 (by kernel_rfl) ?_;refine⟨_,(by simp only[gA,gS,gZ];rfl),by rfl,fun K hK=>?_⟩;go_simp;refine(next_any tp 2 w3 (htp2.ext hb3) (by decide) (by decide)).mono ?_;rintro e w4 ⟨k4,rfl,hk4,htp4,hkt4⟩;have hk24:=KT.trans hkt3 hkt4;refine hK.out _ _ hk24 ?_;clear hK hkt3;have HRB4:=h! (hkt4.blk hrb (by have:=htp2.lt;omega));have w4HT:=h! htp4;have w4HK:=h! (KT.trans wdHK.out hk24);have w4HR:=h! (hk24.blk wdHR.out (by have:=HLT.out;omega));have HZ4:=h! (show w2.heap.size<w4.heap.size from HRB4.out.lt)
  obtain⟨nm2,hn2,hcl4⟩:∃ nm2:ByteArray,nm2∈relNs.take 2/\w4.cell? ⟨w2.heap.size,k4,none⟩=some (.string nm2):=by
   obtain rfl | rfl:k4=0\/k4=1:=by omega
   ·exact⟨nmV,by simp[relNs],by rw[HRB4.out.cells];rfl⟩
   ·exact⟨nmO,by simp[relNs],by rw[HRB4.out.cells];rfl⟩
  have HN2:=h! hn2;have w4r:=w4HR.out.cells;have w4f:=w4HR.out.free;have h04:(0:Int)<=(k4:Int):=by omega
  have h44:(k4:Int)<4:=by omega
  clear hn2 htp4 hkt4 htp2 hrb hb3 hk4 hk2 HNX2;((refine WalkL.take 10 _ ?_ (by simp only[gA,gS,gZ];rfl) (by kernel_rfl) (by kernel_rfl) (by kernel_rfl) (by rfl) (fun W hW=>?_) ?_;rotate_left;· (go_simp;try with_reducible rfl));simp only[Act.put,pA,pZ,pS])
  refine WalkL.one 11 (by kernel_rfl) ?_;refine⟨_,(by simp only[gA,gS,gZ];rfl),by rfl,fun K hK=>?_⟩;go_simp;refine hK.out _ _ hk24 ?_;clear hK;((refine WalkL.take 12 _ ?_ (by simp only[gA,gS,gZ];rfl) (by kernel_rfl) (by kernel_rfl) (by kernel_rfl) (by rfl) (fun W hW=>?_) ?_;rotate_left;· (go_simp;try with_reducible rfl));simp only[Act.put,pA,pZ,pS])
  refine WalkL.last (by kernel_rfl) (by kernel_rfl) ?_;refine⟨_,(by simp only[gA,gS,gZ];rfl),by rfl,fun K hK=>?_⟩;go_simp;refine hK.out _ _ ?_;clear hK hcl4 hk24 hcoW;go_wp2_with fail
  refine bodyPost_ret (results_cell_row rfl _ _ w.heap.size 98 #[.int .i64 3,.string nm,.string nm2,.slice none 0 0] (0,0) _ rfl (w4HR.out.set4 _ _ _ _) Tryz.underlying98 rfl (by kernel_rfl)) rfl ?_;exact⟨.mk 3 nm nm2 [],.slice none 0 0,rfl,GoodR.leaf (.inr (.inr ⟨nm,HAM.out,nm2,HN2.out,rfl⟩)) _,by have:=HNT.out;have:=(show LeafR own (.mk 3 nm nm2 [])from .inr (.inr ⟨nm,HAM.out,nm2,HN2.out,rfl⟩)).k;omega,RTAt.leaf' _ _ rfl,w4HT.out.set4 w4HR.out.lt (by have:=HLT.out;omega) _ _ _ _,w4HK.out.set4 (fun h=>Nat.lt_irrefl _ h.1) _ _ _ _⟩
 ·cases d with
  | zero =>
   obtain rfl | rfl:k=6\/k=7:=by omega
   ·clear hk h6;go_wp2_with fail
    refine bodyPost_ret (results_cell_row rfl _ _ w.heap.size 98 #[.int .i64 1,.string ⟨#[]⟩,.string ⟨#[]⟩,.slice none 0 0] (0,0) _ rfl (w1HR.out.set4 _ _ _ _) Tryz.underlying98 rfl (by kernel_rfl)) rfl ?_;exact⟨.mk 1 ⟨#[]⟩ ⟨#[]⟩ [],.slice none 0 0,rfl,GoodR.leaf (.inl rfl) _,by have:=HNT.out;have:=(show LeafR own (.mk 1 ⟨#[]⟩ ⟨#[]⟩ [])from .inl rfl).k;omega,RTAt.leaf' _ _ rfl,w1HT.out.set4 w1HR.out.lt (by have:=HLT.out;omega) _ _ _ _,w1HK.out.set4 (fun h=>Nat.lt_irrefl _ h.1) _ _ _ _⟩
   ·clear hk h6;go_wp2_with fail
    refine bodyPost_ret (results_cell_row rfl _ _ w.heap.size 98 #[.int .i64 1,.string ⟨#[]⟩,.string ⟨#[]⟩,.slice none 0 0] (0,0) _ rfl (w1HR.out.set4 _ _ _ _) Tryz.underlying98 rfl (by kernel_rfl)) rfl ?_;exact⟨.mk 1 ⟨#[]⟩ ⟨#[]⟩ [],.slice none 0 0,rfl,GoodR.leaf (.inl rfl) _,by have:=HNT.out;have:=(show LeafR own (.mk 1 ⟨#[]⟩ ⟨#[]⟩ [])from .inl rfl).k;omega,RTAt.leaf' _ _ rfl,w1HT.out.set4 w1HR.out.lt (by have:=HLT.out;omega) _ _ _ _,w1HK.out.set4 (fun h=>Nat.lt_irrefl _ h.1) _ _ _ _⟩
  | succ d =>
   have HIH:=h! (ih d (Nat.lt_succ_self d));clear ih;have hd0:(0:Int)<((d+1:Nat):Int):=by omega
   obtain rfl | rfl:k=6\/k=7:=by omega
   ·clear hk h6;by_cases hq:nt=4
    ·subst hq;go_wp2_with fail
     clear hr1 hf1;obtain⟨wa,hwa⟩:∃ x,x=w1.alloc (.cells #[.int .i64 4,.int .i64 5] 3):=⟨_,rfl⟩;obtain⟨wb,hwb⟩:∃ x,x=wa.alloc (.cells #[.int .i64 5,.string ⟨#[]⟩,.string ⟨#[]⟩,.slice none 0 0] 98):=⟨_,rfl⟩;have ea:wa.heap.size=w1.heap.size+1:=by rw[hwa];simp
     have xa:Ext w1 wa:=by rw[hwa];exact Ext.alloc _ _
     have xb:Ext wa wb:=by rw[hwb];exact Ext.alloc _ _
     have HRP:=h! (show Blk wb (w1.heap.size+1) #[.int .i64 5,.string ⟨#[]⟩,.string ⟨#[]⟩,.slice none 0 0] 98 from by rw[hwb,<- ea];exact Blk.made _ _ _);have wbHT:=h! (w1HT.out.ext (xa.trans xb));have wbHK:=h! (KT.trans w1HK.out (KT.of (xa.trans xb)));have wbHR:=h! (w1HR.out.below (xa.trans xb));have HNX2:=h! (next_any tp 2 wb wbHT.out (by decide) (by decide));rw[<- ea]at HRP;generalize wa.heap.size=rp at *;rw[<- ea];have wbHL:=h! (show w.heap.size<rp/\tp<w.heap.size from⟨by have:=HZ1.out;omega,HLT.out⟩);have wbHM:=h! (show MkI own d 5 rp wb [] (.slice none 0 0)from⟨HRP.out,Own.nil _ _ _ _,by simp,by simp⟩);subst hwb hwa;clear ea xa xb HRP w1HT w1HK w1HR HZ1;refine HNX2.out.mono ?_;clear HNX2;rintro e w2 ⟨k3,rfl,hk3,htp2,hkt2⟩;have w2HM:=h! (wbHM.out.keep hkt2 (by have:=wbHL.out;omega));have w2HR:=h! (hkt2.blk wbHR.out (by have:=wbHL.out;omega));have w2HK:=h! (KT.trans wbHK.out hkt2);have w2HT:=h! htp2;clear wbHM wbHR wbHK wbHT htp2 hkt2;have hw3:IntKind.i64.wrap (2+(k3:Int))=((2+k3:Nat):Int):=by rw[IntWalk.i64_in _ (by omega)];omega
     have hw3':wrap64 (2+(k3:Int))=((2+k3:Nat):Int):=by rw[wrap_in _ (by omega) (by omega)];omega
     go_wp2_with fail
     clear hw3 hw3';generalize hN:2+k3=N at *;have HN:=h! (show N=2\/N=3 from by omega);have HNE:=h! hN;clear hN hk3 hd0;go_loopw [12] (fun iv wr=>∃ (n:Nat) (q:List (RT × Value)) (pv:Value),iv = .int .i64 n/\q.length+n=N/\MkI own d 5 rp wr q pv/\Blk wr w.heap.size #[.int .i64 0,.string ⟨#[]⟩,.string ⟨#[]⟩,.slice none 0 0] 98/\Tp wr tp/\KT tp w wr) (fun iv _=>(intOf iv).toNat)
     case atStart=>exact⟨N,[],_,by rw[<- HNE.out];simp,by simp,w2HM.out,w2HR.out,w2HT.out,w2HK.out⟩
     case round =>
      obtain⟨n,q,pv,rfl,hqn,hm,hrb,htp,hkt⟩:=hrel;have HQN:=h! hqn;have wrHM:=h! hm;have wrHR:=h! hrb;have wrHT:=h! htp;have wrHK:=h! hkt;clear hqn w2HM w2HR w2HT w2HK;by_cases hn:n=0
      ·subst hn;obtain⟨aov,kv,cv,rfl,-,-,-⟩:=hm.row.sl.len;have hp1:=hm.box.cells;have hb1:=hrb.cells;have hbf:=hrb.free;clear hm hrb htp hkt;go_wp2_with fail
       clear hp1 hb1 hbf;refine bodyPost_ret (results_cell_row rfl _ _ w.heap.size 98 #[.int .i64 5,.string ⟨#[]⟩,.string ⟨#[]⟩,.slice aov kv cv] (0,0) _ rfl (wrHR.out.set4 _ _ _ _) Tryz.underlying98 rfl (by kernel_rfl)) rfl ?_;have hks:Kept (fun b=>b≠w.heap.size) wr _:=(Kept.refl _ wr).set4 (B:=w.heap.size) (fun h=>h rfl) (.int .i64 5) (.string ⟨#[]⟩) (.string ⟨#[]⟩) (.slice aov kv cv);refine⟨.mk 5 ⟨#[]⟩ ⟨#[]⟩ (q.map (·.1)),.slice aov kv cv,rfl,.inr ⟨5,q.map (·.1),rfl,by decide,by have:=HQN.out;have:=HN.out;rw[List.length_map];omega,fun p hp=>?_⟩,(by show(5:Int)≠4;decide),(RTAt.iff _ _).2 ⟨q,rfl,fun x hx=>?_,?_⟩,wrHT.out.set4 wrHR.out.lt (by have:=wbHL.out;omega) _ _ _ _,wrHK.out.set4 (fun h=>Nat.lt_irrefl _ h.1) _ _ _ _⟩
       ·obtain⟨x,hx,rfl⟩:=List.mem_map.1 hp;exact wrHM.out.good x hx
       ·exact((wrHM.out.parts x hx).same fun b hb=>hks.block b (by have:=hb.1.1;have:=wbHL.out;show b≠w.heap.size;omega)).mono fun b hb=>⟨by have:=hb.1.1;have:=wbHL.out;omega,Nat.lt_of_lt_of_le hb.1.2 hks.size⟩
       ·exact(wrHM.out.row.sl.same fun b hb=>hks.block b (by have:=hb.1;have:=wbHL.out;show b≠w.heap.size;omega)).mono fun b hb=>⟨by have:=hb.1;have:=wbHL.out;omega,Nat.lt_of_lt_of_le hb.2 hks.size⟩
      ·have HNN:=h! hn;have hgt:(0:Int)<(n:Int):=by omega
       have HPO:=h! (fun g (e:pv.ownBlock=some g)=>hm.row.block g e);obtain⟨aov,kv,cv,rfl,-,-,-⟩:=hm.row.sl.len;have hp1:=hm.box.cells 3;clear hm hrb htp hkt hn;go_wp2_with fail
       obtain⟨wd,hwd⟩:∃ wd,wd=wr.drew:=⟨_,rfl⟩;have hE:Ext wr wd:=by rw[hwd];exact Ext.drew wr
       have wdHT:=h! (wrHT.out.ext hE);have wdHK:=h! (KT.trans wrHK.out (KT.of hE));have wdHR:=h! (wrHR.out.below hE);have wdHM:=h! (wrHM.out.keep (KT.of (tp:=tp) hE) (by have:=wbHL.out;omega));have wdHZ:=h! (show rp<wd.heap.size/\wr.heap.size<=wd.heap.size from⟨wdHM.out.box.lt,hE.size⟩)
       have hA:∀ W,Kept (fun b=>b<wd.heap.size/\b≠tp/\Value.ownBlock (.slice aov kv cv)≠some b) wd W->W.cell? ⟨rp,3,none⟩=some (.slice aov kv cv):=fun W hW =>
        (World.cell?_of_block (a:=⟨rp,3,none⟩) (hW.block rp ⟨wdHZ.out.1,by have:=wbHL.out;omega,fun e=>by have:=(HPO.out rp e).1;omega⟩)).trans (wdHM.out.box.cells 3)
       have hdw:IntKind.i64.wrap ((d:Int)+1-1)=(d:Int):=by rw[Int.add_sub_cancel];exact IntWalk.i64_in _ (by have:=HD.out;omega)
       have hdw':IntKind.i64.wrap (d:Int)=(d:Int):=IntWalk.i64_in _ (by have:=HD.out;omega);have HCALL:=h! (HIH.out 5 tp (.slice ao own.length c) wd wdHT.out ((HOV.out.same fun b hb=>wdHK.out.block b hb).mono fun b hb=>⟨Nat.lt_of_lt_of_le hb.1 wdHK.out.size,hb.2⟩) (by have:=HD.out;omega) (by decide));refine region_walkL 11 (Kept (fun b=>b<wd.heap.size/\b≠tp/\Value.ownBlock (.slice aov kv cv)≠some b) wd) (by rw[<- hwd];exact Kept.refl _ _) (by kernel_rfl) (by kernel_rfl) (fun _ _ d _ _ h=>by cases d <;> exact h) ?_;rw[<- hwd];clear hwd hE hp1;(refine WalkL.tk [0,1,2,3,4,5,6] ?_;(iterate 7 ((refine TkL.c _ ?_ (by simp only[gA,gS,gZ];rfl) (by kernel_rfl) (by kernel_rfl) (by kernel_rfl) (by rfl) (fun W hW=>?_) ?_;rotate_left;· (go_simp;try with_reducible rfl));simp only[Act.put,pA,pZ,pS]));refine TkL.n ?_)
       refine WalkL.one 7 (by kernel_rfl) ?_;refine⟨_,(by simp only[gA,gS,gZ];rfl),by rfl,fun K hK=>?_⟩;go_simp;refine HCALL.out.mono ?_;rintro e w5 ⟨r5,v5,rfl,hg5,hk5,hat5,htp5,hkt5⟩;have hkc5:Kept (fun b=>b<wd.heap.size/\b≠tp/\Value.ownBlock (.slice aov kv cv)≠some b) wd w5:=Kept.mono hkt5 fun b hb=>⟨hb.1,hb.2.1⟩;refine hK.out _ _ hkc5 ?_;obtain⟨ao5,c5,rfl,-,-,-⟩:=hat5.rows;have w5HM:=h! (wdHM.out.keep hkt5 (by have:=wbHL.out;omega));have w5HT:=h! htp5;have w5HK:=h! (KT.trans wdHK.out hkt5);have w5HR:=h! (hkt5.blk wdHR.out (by have:=wbHL.out;omega));have H5:=h! (And.intro hg5 (And.intro hk5 hat5));have H5S:=h! hkt5.size;clear hK hg5 hk5 hat5 htp5 hkt5 HCALL;unfold rV;refine WalkL.one 8 (by kernel_rfl) ?_;refine⟨_,(by simp only[gA,gS,gZ];rfl),by rfl,fun K hK=>?_⟩;go_simp;have x56:=Ext.alloc w5 (.cells #[.int .i64 r5.k,.string r5.a,.string r5.b,.slice ao5 r5.ps.length c5] 98);have hkc6:=hkc5.trans (Kept.mono (KT.of (tp:=tp) x56) fun b (hb:b<wd.heap.size/\b≠tp/\_)=>⟨Nat.lt_of_lt_of_le hb.1 hkc5.size,hb.2.1⟩);refine hK.out _ _ hkc6 ?_;clear hK;refine WalkL.one 9 (by kernel_rfl) ?_;refine⟨_,(by simp only[gA,gS,gZ];rfl),by rfl,fun K hK=>?_⟩;refine wp_ownw ruleT (.tmp 41) (.tmp 48) rfl rfl (w5HM.out.row.below x56) rfl (m:=1) (news:=[.int .i64 r5.k,.string r5.a,.string r5.b,.slice ao5 r5.ps.length c5]) rfl (fun j u hu=>?_) (by simp[Value.oneCell']) (by have:=HQN.out;have:=HN.out;rw[flat_length rC_length];simp;omega) (by have:=HQN.out;have:=HN.out;rw[flat_length rC_length];simp;omega) (by have:=wdHZ.out;have:=H5S.out;simp;omega) (fun v7 w7 hown7 hb7 hgr7=>?_)
       ·rw[Addr.add_lit,cell_of_row _ w5.heap.size (0+j) #[.int .i64 r5.k,.string r5.a,.string r5.b,.slice ao5 r5.ps.length c5] 98 (0,0) (heap_alloc_new w5 _)];simpa using hu
       have hk57:∀ b,b<w5.heap.size->Value.ownBlock (.slice aov kv cv)≠some b->w7.heap[b]?=w5.heap[b]?:=fun b h1 h2=>(hgr7.block b (by simp;omega) (fun e=>h2 e.symm)).trans (x56.block b h1);have hz57:w5.heap.size<=w7.heap.size:=Nat.le_trans x56.size hgr7.size;have hb57:∀ g,v7.ownBlock=some g->Value.ownBlock (.slice aov kv cv)=some g\/w5.heap.size<=g:=fun g hg=>(hb7 g hg).imp id (fun h=>by simp at h;omega);have hk57':Kept (fun b=>b<w5.heap.size/\Value.ownBlock (.slice aov kv cv)≠some b) w5 w7:=⟨hgr7.os.trans x56.os,hgr7.tape.trans x56.tape,hgr7.output.trans x56.output,hz57,fun b hb=>hk57 b hb.1 hb.2⟩;have hkc7:=hkc5.trans (hk57'.mono fun b (hb:b<wd.heap.size/\b≠tp/\_)=>⟨Nat.lt_of_lt_of_le hb.1 hkc5.size,hb.2.2⟩);refine hK.out _ _ hkc7 ?_;clear hK hA;simp only[Act.put,pA,pZ,pS];have HADD:=h! (w5HM.out.add (n0:=wd.heap.size) (r:=r5) (v5 := .slice ao5 r5.ps.length c5) hk57 hz57 hown7 hb57 H5.out.2.2 wdHZ.out.1 (fun g hg=>Nat.lt_of_lt_of_le (HPO.out g hg).2 wdHZ.out.2) ⟨H5.out.1,H5.out.2.1⟩);have HLOW:=h! (show Kept (fun b=>b<rp) w5 (w7.setCell ⟨rp,3,none⟩ v7)from(hk57'.mono fun b (hb:b<rp)=>⟨by have:=wdHZ.out;have:=H5S.out;omega,fun e=>by have:=(HPO.out b e).1;omega⟩).set (fun h=>Nat.lt_irrefl _ h) _);have hrp7:Blk w7 rp #[.int .i64 5,.string ⟨#[]⟩,.string ⟨#[]⟩,.slice aov kv cv] 98:=(hk57 rp (by have:=wdHZ.out;have:=H5S.out;omega) (fun e=>by have:=(HPO.out rp e).1;omega)).trans w5HM.out.box;obtain⟨ao7,k7,c7,rfl,-,-,-⟩:=hown7.sl.len;have f7:=hrp7.free;have g7:=hrp7.cells 3;have hdn:IntKind.i64.wrap ((n:Int)-1)=((n-1:Nat):Int):=by rw[IntWalk.i64_in _ (by have:=HQN.out;have:=HN.out;omega)];omega
       have hdn':wrap64 ((n:Int)-1)=((n-1:Nat):Int):=by rw[wrap_in _ (by omega) (by have:=HQN.out;have:=HN.out;omega)];omega
       clear hkc5 hkc6 hk57 hz57 hb57 hk57' hown7 hb7 hgr7 hrp7 x56;((refine WalkL.take 10 _ ?_ (by simp only[gA,gS,gZ];rfl) (by kernel_rfl) (by kernel_rfl) (by kernel_rfl) (by rfl) (fun W hW=>?_) ?_;rotate_left;· (go_simp;try with_reducible rfl));simp only[Act.put,pA,pZ,pS])
       refine WalkL.last (by kernel_rfl) (by kernel_rfl) ?_;refine⟨_,(by simp only[gA,gS,gZ];rfl),by rfl,fun K hK=>?_⟩;go_simp;refine hK.out _ _ ?_;clear hK hkc7 f7 g7;generalize w7.setCell ⟨rp,3,none⟩ (.slice ao7 k7 c7)=w8 at *;go_wp2_with fail
       go_roundw
       case rel=>exact⟨n-1,_,_,rfl,by have:=HQN.out;have:=HNN.out;rw[List.length_append];simp only[List.length_cons,List.length_nil];omega,HADD.out,HLOW.out.blk w5HR.out (by have:=wbHL.out;show w.heap.size<rp;omega),w5HT.out.kept HLOW.out (fun b hb=>by have:=wbHL.out;show b<rp;omega),Kept.trans w5HK.out (HLOW.out.mono fun b (hb:b<w.heap.size/\b≠tp)=>by have:=wbHL.out;have:=hb.1;show b<rp;omega)⟩
       case measure=>have:=HNN.out;simp[intOf];omega
    ·have hq1:((4:Int) == nt)=false:=by rw[beq_eq_false_iff_ne];omega
     have HQ:=h! hq;clear hq;go_wp2_with fail
     clear hr1 hf1;obtain⟨wa,hwa⟩:∃ x,x=w1.alloc (.cells #[.int .i64 4,.int .i64 5] 3):=⟨_,rfl⟩;obtain⟨wb,hwb⟩:∃ x,x=wa.alloc (.cells #[.int .i64 4,.string ⟨#[]⟩,.string ⟨#[]⟩,.slice none 0 0] 98):=⟨_,rfl⟩;have ea:wa.heap.size=w1.heap.size+1:=by rw[hwa];simp
     have xa:Ext w1 wa:=by rw[hwa];exact Ext.alloc _ _
     have xb:Ext wa wb:=by rw[hwb];exact Ext.alloc _ _
     have HRP:=h! (show Blk wb (w1.heap.size+1) #[.int .i64 4,.string ⟨#[]⟩,.string ⟨#[]⟩,.slice none 0 0] 98 from by rw[hwb,<- ea];exact Blk.made _ _ _);have wbHT:=h! (w1HT.out.ext (xa.trans xb));have wbHK:=h! (KT.trans w1HK.out (KT.of (xa.trans xb)));have wbHR:=h! (w1HR.out.below (xa.trans xb));have HNX2:=h! (next_any tp 2 wb wbHT.out (by decide) (by decide));rw[<- ea]at HRP;generalize wa.heap.size=rp at *;rw[<- ea];have wbHL:=h! (show w.heap.size<rp/\tp<w.heap.size from⟨by have:=HZ1.out;omega,HLT.out⟩);have wbHM:=h! (show MkI own d 4 rp wb [] (.slice none 0 0)from⟨HRP.out,Own.nil _ _ _ _,by simp,by simp⟩);subst hwb hwa;clear ea xa xb HRP w1HT w1HK w1HR HZ1;refine HNX2.out.mono ?_;clear HNX2;rintro e w2 ⟨k3,rfl,hk3,htp2,hkt2⟩;have w2HM:=h! (wbHM.out.keep hkt2 (by have:=wbHL.out;omega));have w2HR:=h! (hkt2.blk wbHR.out (by have:=wbHL.out;omega));have w2HK:=h! (KT.trans wbHK.out hkt2);have w2HT:=h! htp2;clear wbHM wbHR wbHK wbHT htp2 hkt2;have hw3:IntKind.i64.wrap (2+(k3:Int))=((2+k3:Nat):Int):=by rw[IntWalk.i64_in _ (by omega)];omega
     have hw3':wrap64 (2+(k3:Int))=((2+k3:Nat):Int):=by rw[wrap_in _ (by omega) (by omega)];omega
     go_wp2_with fail
     clear hw3 hw3';generalize hN:2+k3=N at *;have HN:=h! (show N=2\/N=3 from by omega);have HNE:=h! hN;clear hN hk3 hd0;go_loopw [12] (fun iv wr=>∃ (n:Nat) (q:List (RT × Value)) (pv:Value),iv = .int .i64 n/\q.length+n=N/\MkI own d 4 rp wr q pv/\Blk wr w.heap.size #[.int .i64 0,.string ⟨#[]⟩,.string ⟨#[]⟩,.slice none 0 0] 98/\Tp wr tp/\KT tp w wr) (fun iv _=>(intOf iv).toNat)
     case atStart=>exact⟨N,[],_,by rw[<- HNE.out];simp,by simp,w2HM.out,w2HR.out,w2HT.out,w2HK.out⟩
     case round =>
      obtain⟨n,q,pv,rfl,hqn,hm,hrb,htp,hkt⟩:=hrel;have HQN:=h! hqn;have wrHM:=h! hm;have wrHR:=h! hrb;have wrHT:=h! htp;have wrHK:=h! hkt;clear hqn w2HM w2HR w2HT w2HK;by_cases hn:n=0
      ·subst hn;obtain⟨aov,kv,cv,rfl,-,-,-⟩:=hm.row.sl.len;have hp1:=hm.box.cells;have hb1:=hrb.cells;have hbf:=hrb.free;clear hm hrb htp hkt;go_wp2_with fail
       clear hp1 hb1 hbf;refine bodyPost_ret (results_cell_row rfl _ _ w.heap.size 98 #[.int .i64 4,.string ⟨#[]⟩,.string ⟨#[]⟩,.slice aov kv cv] (0,0) _ rfl (wrHR.out.set4 _ _ _ _) Tryz.underlying98 rfl (by kernel_rfl)) rfl ?_;have hks:Kept (fun b=>b≠w.heap.size) wr _:=(Kept.refl _ wr).set4 (B:=w.heap.size) (fun h=>h rfl) (.int .i64 4) (.string ⟨#[]⟩) (.string ⟨#[]⟩) (.slice aov kv cv);refine⟨.mk 4 ⟨#[]⟩ ⟨#[]⟩ (q.map (·.1)),.slice aov kv cv,rfl,.inr ⟨4,q.map (·.1),rfl,by decide,by have:=HQN.out;have:=HN.out;rw[List.length_map];omega,fun p hp=>?_⟩,(fun e=>HQ.out e.symm),(RTAt.iff _ _).2 ⟨q,rfl,fun x hx=>?_,?_⟩,wrHT.out.set4 wrHR.out.lt (by have:=wbHL.out;omega) _ _ _ _,wrHK.out.set4 (fun h=>Nat.lt_irrefl _ h.1) _ _ _ _⟩
       ·obtain⟨x,hx,rfl⟩:=List.mem_map.1 hp;exact wrHM.out.good x hx
       ·exact((wrHM.out.parts x hx).same fun b hb=>hks.block b (by have:=hb.1.1;have:=wbHL.out;show b≠w.heap.size;omega)).mono fun b hb=>⟨by have:=hb.1.1;have:=wbHL.out;omega,Nat.lt_of_lt_of_le hb.1.2 hks.size⟩
       ·exact(wrHM.out.row.sl.same fun b hb=>hks.block b (by have:=hb.1;have:=wbHL.out;show b≠w.heap.size;omega)).mono fun b hb=>⟨by have:=hb.1;have:=wbHL.out;omega,Nat.lt_of_lt_of_le hb.2 hks.size⟩
      ·have HNN:=h! hn;have hgt:(0:Int)<(n:Int):=by omega
       have HPO:=h! (fun g (e:pv.ownBlock=some g)=>hm.row.block g e);obtain⟨aov,kv,cv,rfl,-,-,-⟩:=hm.row.sl.len;have hp1:=hm.box.cells 3;clear hm hrb htp hkt hn;go_wp2_with fail
       obtain⟨wd,hwd⟩:∃ wd,wd=wr.drew:=⟨_,rfl⟩;have hE:Ext wr wd:=by rw[hwd];exact Ext.drew wr
       have wdHT:=h! (wrHT.out.ext hE);have wdHK:=h! (KT.trans wrHK.out (KT.of hE));have wdHR:=h! (wrHR.out.below hE);have wdHM:=h! (wrHM.out.keep (KT.of (tp:=tp) hE) (by have:=wbHL.out;omega));have wdHZ:=h! (show rp<wd.heap.size/\wr.heap.size<=wd.heap.size from⟨wdHM.out.box.lt,hE.size⟩)
       have hA:∀ W,Kept (fun b=>b<wd.heap.size/\b≠tp/\Value.ownBlock (.slice aov kv cv)≠some b) wd W->W.cell? ⟨rp,3,none⟩=some (.slice aov kv cv):=fun W hW =>
        (World.cell?_of_block (a:=⟨rp,3,none⟩) (hW.block rp ⟨wdHZ.out.1,by have:=wbHL.out;omega,fun e=>by have:=(HPO.out rp e).1;omega⟩)).trans (wdHM.out.box.cells 3)
       have hdw:IntKind.i64.wrap ((d:Int)+1-1)=(d:Int):=by rw[Int.add_sub_cancel];exact IntWalk.i64_in _ (by have:=HD.out;omega)
       have hdw':IntKind.i64.wrap (d:Int)=(d:Int):=IntWalk.i64_in _ (by have:=HD.out;omega);have HCALL:=h! (HIH.out 4 tp (.slice ao own.length c) wd wdHT.out ((HOV.out.same fun b hb=>wdHK.out.block b hb).mono fun b hb=>⟨Nat.lt_of_lt_of_le hb.1 wdHK.out.size,hb.2⟩) (by have:=HD.out;omega) (by decide));refine region_walkL 11 (Kept (fun b=>b<wd.heap.size/\b≠tp/\Value.ownBlock (.slice aov kv cv)≠some b) wd) (by rw[<- hwd];exact Kept.refl _ _) (by kernel_rfl) (by kernel_rfl) (fun _ _ d _ _ h=>by cases d <;> exact h) ?_;rw[<- hwd];clear hwd hE hp1;(refine WalkL.tk [0,1,2,3,4,5,6] ?_;(iterate 7 ((refine TkL.c _ ?_ (by simp only[gA,gS,gZ];rfl) (by kernel_rfl) (by kernel_rfl) (by kernel_rfl) (by rfl) (fun W hW=>?_) ?_;rotate_left;· (go_simp;try with_reducible rfl));simp only[Act.put,pA,pZ,pS]));refine TkL.n ?_)
       refine WalkL.one 7 (by kernel_rfl) ?_;refine⟨_,(by simp only[gA,gS,gZ];rfl),by rfl,fun K hK=>?_⟩;go_simp;refine HCALL.out.mono ?_;rintro e w5 ⟨r5,v5,rfl,hg5,hk5,hat5,htp5,hkt5⟩;have hkc5:Kept (fun b=>b<wd.heap.size/\b≠tp/\Value.ownBlock (.slice aov kv cv)≠some b) wd w5:=Kept.mono hkt5 fun b hb=>⟨hb.1,hb.2.1⟩;refine hK.out _ _ hkc5 ?_;obtain⟨ao5,c5,rfl,-,-,-⟩:=hat5.rows;have w5HM:=h! (wdHM.out.keep hkt5 (by have:=wbHL.out;omega));have w5HT:=h! htp5;have w5HK:=h! (KT.trans wdHK.out hkt5);have w5HR:=h! (hkt5.blk wdHR.out (by have:=wbHL.out;omega));have H5:=h! (And.intro hg5 (And.intro hk5 hat5));have H5S:=h! hkt5.size;clear hK hg5 hk5 hat5 htp5 hkt5 HCALL;unfold rV;refine WalkL.one 8 (by kernel_rfl) ?_;refine⟨_,(by simp only[gA,gS,gZ];rfl),by rfl,fun K hK=>?_⟩;go_simp;have x56:=Ext.alloc w5 (.cells #[.int .i64 r5.k,.string r5.a,.string r5.b,.slice ao5 r5.ps.length c5] 98);have hkc6:=hkc5.trans (Kept.mono (KT.of (tp:=tp) x56) fun b (hb:b<wd.heap.size/\b≠tp/\_)=>⟨Nat.lt_of_lt_of_le hb.1 hkc5.size,hb.2.1⟩);refine hK.out _ _ hkc6 ?_;clear hK;refine WalkL.one 9 (by kernel_rfl) ?_;refine⟨_,(by simp only[gA,gS,gZ];rfl),by rfl,fun K hK=>?_⟩;refine wp_ownw ruleT (.tmp 41) (.tmp 48) rfl rfl (w5HM.out.row.below x56) rfl (m:=1) (news:=[.int .i64 r5.k,.string r5.a,.string r5.b,.slice ao5 r5.ps.length c5]) rfl (fun j u hu=>?_) (by simp[Value.oneCell']) (by have:=HQN.out;have:=HN.out;rw[flat_length rC_length];simp;omega) (by have:=HQN.out;have:=HN.out;rw[flat_length rC_length];simp;omega) (by have:=wdHZ.out;have:=H5S.out;simp;omega) (fun v7 w7 hown7 hb7 hgr7=>?_)
       ·rw[Addr.add_lit,cell_of_row _ w5.heap.size (0+j) #[.int .i64 r5.k,.string r5.a,.string r5.b,.slice ao5 r5.ps.length c5] 98 (0,0) (heap_alloc_new w5 _)];simpa using hu
       have hk57:∀ b,b<w5.heap.size->Value.ownBlock (.slice aov kv cv)≠some b->w7.heap[b]?=w5.heap[b]?:=fun b h1 h2=>(hgr7.block b (by simp;omega) (fun e=>h2 e.symm)).trans (x56.block b h1);have hz57:w5.heap.size<=w7.heap.size:=Nat.le_trans x56.size hgr7.size;have hb57:∀ g,v7.ownBlock=some g->Value.ownBlock (.slice aov kv cv)=some g\/w5.heap.size<=g:=fun g hg=>(hb7 g hg).imp id (fun h=>by simp at h;omega);have hk57':Kept (fun b=>b<w5.heap.size/\Value.ownBlock (.slice aov kv cv)≠some b) w5 w7:=⟨hgr7.os.trans x56.os,hgr7.tape.trans x56.tape,hgr7.output.trans x56.output,hz57,fun b hb=>hk57 b hb.1 hb.2⟩;have hkc7:=hkc5.trans (hk57'.mono fun b (hb:b<wd.heap.size/\b≠tp/\_)=>⟨Nat.lt_of_lt_of_le hb.1 hkc5.size,hb.2.2⟩);refine hK.out _ _ hkc7 ?_;clear hK hA;simp only[Act.put,pA,pZ,pS];have HADD:=h! (w5HM.out.add (n0:=wd.heap.size) (r:=r5) (v5 := .slice ao5 r5.ps.length c5) hk57 hz57 hown7 hb57 H5.out.2.2 wdHZ.out.1 (fun g hg=>Nat.lt_of_lt_of_le (HPO.out g hg).2 wdHZ.out.2) ⟨H5.out.1,H5.out.2.1⟩);have HLOW:=h! (show Kept (fun b=>b<rp) w5 (w7.setCell ⟨rp,3,none⟩ v7)from(hk57'.mono fun b (hb:b<rp)=>⟨by have:=wdHZ.out;have:=H5S.out;omega,fun e=>by have:=(HPO.out b e).1;omega⟩).set (fun h=>Nat.lt_irrefl _ h) _);have hrp7:Blk w7 rp #[.int .i64 4,.string ⟨#[]⟩,.string ⟨#[]⟩,.slice aov kv cv] 98:=(hk57 rp (by have:=wdHZ.out;have:=H5S.out;omega) (fun e=>by have:=(HPO.out rp e).1;omega)).trans w5HM.out.box;obtain⟨ao7,k7,c7,rfl,-,-,-⟩:=hown7.sl.len;have f7:=hrp7.free;have g7:=hrp7.cells 3;have hdn:IntKind.i64.wrap ((n:Int)-1)=((n-1:Nat):Int):=by rw[IntWalk.i64_in _ (by have:=HQN.out;have:=HN.out;omega)];omega
       have hdn':wrap64 ((n:Int)-1)=((n-1:Nat):Int):=by rw[wrap_in _ (by omega) (by have:=HQN.out;have:=HN.out;omega)];omega
       clear hkc5 hkc6 hk57 hz57 hb57 hk57' hown7 hb7 hgr7 hrp7 x56;((refine WalkL.take 10 _ ?_ (by simp only[gA,gS,gZ];rfl) (by kernel_rfl) (by kernel_rfl) (by kernel_rfl) (by rfl) (fun W hW=>?_) ?_;rotate_left;· (go_simp;try with_reducible rfl));simp only[Act.put,pA,pZ,pS])
       refine WalkL.last (by kernel_rfl) (by kernel_rfl) ?_;refine⟨_,(by simp only[gA,gS,gZ];rfl),by rfl,fun K hK=>?_⟩;go_simp;refine hK.out _ _ ?_;clear hK hkc7 f7 g7;generalize w7.setCell ⟨rp,3,none⟩ (.slice ao7 k7 c7)=w8 at *;go_wp2_with fail
       go_roundw
       case rel=>exact⟨n-1,_,_,rfl,by have:=HQN.out;have:=HNN.out;rw[List.length_append];simp only[List.length_cons,List.length_nil];omega,HADD.out,HLOW.out.blk w5HR.out (by have:=wbHL.out;show w.heap.size<rp;omega),w5HT.out.kept HLOW.out (fun b hb=>by have:=wbHL.out;show b<rp;omega),Kept.trans w5HK.out (HLOW.out.mono fun b (hb:b<w.heap.size/\b≠tp)=>by have:=wbHL.out;have:=hb.1;show b<rp;omega)⟩
       case measure=>have:=HNN.out;simp[intOf];omega
   ·clear hk h6;by_cases hq:nt=5
    ·subst hq;go_wp2_with fail
     clear hr1 hf1;obtain⟨wa,hwa⟩:∃ x,x=w1.alloc (.cells #[.int .i64 4,.int .i64 5] 3):=⟨_,rfl⟩;obtain⟨wb,hwb⟩:∃ x,x=wa.alloc (.cells #[.int .i64 4,.string ⟨#[]⟩,.string ⟨#[]⟩,.slice none 0 0] 98):=⟨_,rfl⟩;have ea:wa.heap.size=w1.heap.size+1:=by rw[hwa];simp
     have xa:Ext w1 wa:=by rw[hwa];exact Ext.alloc _ _
     have xb:Ext wa wb:=by rw[hwb];exact Ext.alloc _ _
     have HRP:=h! (show Blk wb (w1.heap.size+1) #[.int .i64 4,.string ⟨#[]⟩,.string ⟨#[]⟩,.slice none 0 0] 98 from by rw[hwb,<- ea];exact Blk.made _ _ _);have wbHT:=h! (w1HT.out.ext (xa.trans xb));have wbHK:=h! (KT.trans w1HK.out (KT.of (xa.trans xb)));have wbHR:=h! (w1HR.out.below (xa.trans xb));have HNX2:=h! (next_any tp 2 wb wbHT.out (by decide) (by decide));rw[<- ea]at HRP;generalize wa.heap.size=rp at *;rw[<- ea];have wbHL:=h! (show w.heap.size<rp/\tp<w.heap.size from⟨by have:=HZ1.out;omega,HLT.out⟩);have wbHM:=h! (show MkI own d 4 rp wb [] (.slice none 0 0)from⟨HRP.out,Own.nil _ _ _ _,by simp,by simp⟩);subst hwb hwa;clear ea xa xb HRP w1HT w1HK w1HR HZ1;refine HNX2.out.mono ?_;clear HNX2;rintro e w2 ⟨k3,rfl,hk3,htp2,hkt2⟩;have w2HM:=h! (wbHM.out.keep hkt2 (by have:=wbHL.out;omega));have w2HR:=h! (hkt2.blk wbHR.out (by have:=wbHL.out;omega));have w2HK:=h! (KT.trans wbHK.out hkt2);have w2HT:=h! htp2;clear wbHM wbHR wbHK wbHT htp2 hkt2;have hw3:IntKind.i64.wrap (2+(k3:Int))=((2+k3:Nat):Int):=by rw[IntWalk.i64_in _ (by omega)];omega
     have hw3':wrap64 (2+(k3:Int))=((2+k3:Nat):Int):=by rw[wrap_in _ (by omega) (by omega)];omega
     go_wp2_with fail
     clear hw3 hw3';generalize hN:2+k3=N at *;have HN:=h! (show N=2\/N=3 from by omega);have HNE:=h! hN;clear hN hk3 hd0;go_loopw [12] (fun iv wr=>∃ (n:Nat) (q:List (RT × Value)) (pv:Value),iv = .int .i64 n/\q.length+n=N/\MkI own d 4 rp wr q pv/\Blk wr w.heap.size #[.int .i64 0,.string ⟨#[]⟩,.string ⟨#[]⟩,.slice none 0 0] 98/\Tp wr tp/\KT tp w wr) (fun iv _=>(intOf iv).toNat)
     case atStart=>exact⟨N,[],_,by rw[<- HNE.out];simp,by simp,w2HM.out,w2HR.out,w2HT.out,w2HK.out⟩
     case round =>
      obtain⟨n,q,pv,rfl,hqn,hm,hrb,htp,hkt⟩:=hrel;have HQN:=h! hqn;have wrHM:=h! hm;have wrHR:=h! hrb;have wrHT:=h! htp;have wrHK:=h! hkt;clear hqn w2HM w2HR w2HT w2HK;by_cases hn:n=0
      ·subst hn;obtain⟨aov,kv,cv,rfl,-,-,-⟩:=hm.row.sl.len;have hp1:=hm.box.cells;have hb1:=hrb.cells;have hbf:=hrb.free;clear hm hrb htp hkt;go_wp2_with fail
       clear hp1 hb1 hbf;refine bodyPost_ret (results_cell_row rfl _ _ w.heap.size 98 #[.int .i64 4,.string ⟨#[]⟩,.string ⟨#[]⟩,.slice aov kv cv] (0,0) _ rfl (wrHR.out.set4 _ _ _ _) Tryz.underlying98 rfl (by kernel_rfl)) rfl ?_;have hks:Kept (fun b=>b≠w.heap.size) wr _:=(Kept.refl _ wr).set4 (B:=w.heap.size) (fun h=>h rfl) (.int .i64 4) (.string ⟨#[]⟩) (.string ⟨#[]⟩) (.slice aov kv cv);refine⟨.mk 4 ⟨#[]⟩ ⟨#[]⟩ (q.map (·.1)),.slice aov kv cv,rfl,.inr ⟨4,q.map (·.1),rfl,by decide,by have:=HQN.out;have:=HN.out;rw[List.length_map];omega,fun p hp=>?_⟩,(by show(4:Int)≠5;decide),(RTAt.iff _ _).2 ⟨q,rfl,fun x hx=>?_,?_⟩,wrHT.out.set4 wrHR.out.lt (by have:=wbHL.out;omega) _ _ _ _,wrHK.out.set4 (fun h=>Nat.lt_irrefl _ h.1) _ _ _ _⟩
       ·obtain⟨x,hx,rfl⟩:=List.mem_map.1 hp;exact wrHM.out.good x hx
       ·exact((wrHM.out.parts x hx).same fun b hb=>hks.block b (by have:=hb.1.1;have:=wbHL.out;show b≠w.heap.size;omega)).mono fun b hb=>⟨by have:=hb.1.1;have:=wbHL.out;omega,Nat.lt_of_lt_of_le hb.1.2 hks.size⟩
       ·exact(wrHM.out.row.sl.same fun b hb=>hks.block b (by have:=hb.1;have:=wbHL.out;show b≠w.heap.size;omega)).mono fun b hb=>⟨by have:=hb.1;have:=wbHL.out;omega,Nat.lt_of_lt_of_le hb.2 hks.size⟩
      ·have HNN:=h! hn;have hgt:(0:Int)<(n:Int):=by omega
       have HPO:=h! (fun g (e:pv.ownBlock=some g)=>hm.row.block g e);obtain⟨aov,kv,cv,rfl,-,-,-⟩:=hm.row.sl.len;have hp1:=hm.box.cells 3;clear hm hrb htp hkt hn;go_wp2_with fail
       obtain⟨wd,hwd⟩:∃ wd,wd=wr.drew:=⟨_,rfl⟩;have hE:Ext wr wd:=by rw[hwd];exact Ext.drew wr
       have wdHT:=h! (wrHT.out.ext hE);have wdHK:=h! (KT.trans wrHK.out (KT.of hE));have wdHR:=h! (wrHR.out.below hE);have wdHM:=h! (wrHM.out.keep (KT.of (tp:=tp) hE) (by have:=wbHL.out;omega));have wdHZ:=h! (show rp<wd.heap.size/\wr.heap.size<=wd.heap.size from⟨wdHM.out.box.lt,hE.size⟩)
       have hA:∀ W,Kept (fun b=>b<wd.heap.size/\b≠tp/\Value.ownBlock (.slice aov kv cv)≠some b) wd W->W.cell? ⟨rp,3,none⟩=some (.slice aov kv cv):=fun W hW =>
        (World.cell?_of_block (a:=⟨rp,3,none⟩) (hW.block rp ⟨wdHZ.out.1,by have:=wbHL.out;omega,fun e=>by have:=(HPO.out rp e).1;omega⟩)).trans (wdHM.out.box.cells 3)
       have hdw:IntKind.i64.wrap ((d:Int)+1-1)=(d:Int):=by rw[Int.add_sub_cancel];exact IntWalk.i64_in _ (by have:=HD.out;omega)
       have hdw':IntKind.i64.wrap (d:Int)=(d:Int):=IntWalk.i64_in _ (by have:=HD.out;omega);have HCALL:=h! (HIH.out 4 tp (.slice ao own.length c) wd wdHT.out ((HOV.out.same fun b hb=>wdHK.out.block b hb).mono fun b hb=>⟨Nat.lt_of_lt_of_le hb.1 wdHK.out.size,hb.2⟩) (by have:=HD.out;omega) (by decide));refine region_walkL 11 (Kept (fun b=>b<wd.heap.size/\b≠tp/\Value.ownBlock (.slice aov kv cv)≠some b) wd) (by rw[<- hwd];exact Kept.refl _ _) (by kernel_rfl) (by kernel_rfl) (fun _ _ d _ _ h=>by cases d <;> exact h) ?_;rw[<- hwd];clear hwd hE hp1;(refine WalkL.tk [0,1,2,3,4,5,6] ?_;(iterate 7 ((refine TkL.c _ ?_ (by simp only[gA,gS,gZ];rfl) (by kernel_rfl) (by kernel_rfl) (by kernel_rfl) (by rfl) (fun W hW=>?_) ?_;rotate_left;· (go_simp;try with_reducible rfl));simp only[Act.put,pA,pZ,pS]));refine TkL.n ?_)
       refine WalkL.one 7 (by kernel_rfl) ?_;refine⟨_,(by simp only[gA,gS,gZ];rfl),by rfl,fun K hK=>?_⟩;go_simp;refine HCALL.out.mono ?_;rintro e w5 ⟨r5,v5,rfl,hg5,hk5,hat5,htp5,hkt5⟩;have hkc5:Kept (fun b=>b<wd.heap.size/\b≠tp/\Value.ownBlock (.slice aov kv cv)≠some b) wd w5:=Kept.mono hkt5 fun b hb=>⟨hb.1,hb.2.1⟩;refine hK.out _ _ hkc5 ?_;obtain⟨ao5,c5,rfl,-,-,-⟩:=hat5.rows;have w5HM:=h! (wdHM.out.keep hkt5 (by have:=wbHL.out;omega));have w5HT:=h! htp5;have w5HK:=h! (KT.trans wdHK.out hkt5);have w5HR:=h! (hkt5.blk wdHR.out (by have:=wbHL.out;omega));have H5:=h! (And.intro hg5 (And.intro hk5 hat5));have H5S:=h! hkt5.size;clear hK hg5 hk5 hat5 htp5 hkt5 HCALL;unfold rV;refine WalkL.one 8 (by kernel_rfl) ?_;refine⟨_,(by simp only[gA,gS,gZ];rfl),by rfl,fun K hK=>?_⟩;go_simp;have x56:=Ext.alloc w5 (.cells #[.int .i64 r5.k,.string r5.a,.string r5.b,.slice ao5 r5.ps.length c5] 98);have hkc6:=hkc5.trans (Kept.mono (KT.of (tp:=tp) x56) fun b (hb:b<wd.heap.size/\b≠tp/\_)=>⟨Nat.lt_of_lt_of_le hb.1 hkc5.size,hb.2.1⟩);refine hK.out _ _ hkc6 ?_;clear hK;refine WalkL.one 9 (by kernel_rfl) ?_;refine⟨_,(by simp only[gA,gS,gZ];rfl),by rfl,fun K hK=>?_⟩;refine wp_ownw ruleT (.tmp 41) (.tmp 48) rfl rfl (w5HM.out.row.below x56) rfl (m:=1) (news:=[.int .i64 r5.k,.string r5.a,.string r5.b,.slice ao5 r5.ps.length c5]) rfl (fun j u hu=>?_) (by simp[Value.oneCell']) (by have:=HQN.out;have:=HN.out;rw[flat_length rC_length];simp;omega) (by have:=HQN.out;have:=HN.out;rw[flat_length rC_length];simp;omega) (by have:=wdHZ.out;have:=H5S.out;simp;omega) (fun v7 w7 hown7 hb7 hgr7=>?_)
       ·rw[Addr.add_lit,cell_of_row _ w5.heap.size (0+j) #[.int .i64 r5.k,.string r5.a,.string r5.b,.slice ao5 r5.ps.length c5] 98 (0,0) (heap_alloc_new w5 _)];simpa using hu
       have hk57:∀ b,b<w5.heap.size->Value.ownBlock (.slice aov kv cv)≠some b->w7.heap[b]?=w5.heap[b]?:=fun b h1 h2=>(hgr7.block b (by simp;omega) (fun e=>h2 e.symm)).trans (x56.block b h1);have hz57:w5.heap.size<=w7.heap.size:=Nat.le_trans x56.size hgr7.size;have hb57:∀ g,v7.ownBlock=some g->Value.ownBlock (.slice aov kv cv)=some g\/w5.heap.size<=g:=fun g hg=>(hb7 g hg).imp id (fun h=>by simp at h;omega);have hk57':Kept (fun b=>b<w5.heap.size/\Value.ownBlock (.slice aov kv cv)≠some b) w5 w7:=⟨hgr7.os.trans x56.os,hgr7.tape.trans x56.tape,hgr7.output.trans x56.output,hz57,fun b hb=>hk57 b hb.1 hb.2⟩;have hkc7:=hkc5.trans (hk57'.mono fun b (hb:b<wd.heap.size/\b≠tp/\_)=>⟨Nat.lt_of_lt_of_le hb.1 hkc5.size,hb.2.2⟩);refine hK.out _ _ hkc7 ?_;clear hK hA;simp only[Act.put,pA,pZ,pS];have HADD:=h! (w5HM.out.add (n0:=wd.heap.size) (r:=r5) (v5 := .slice ao5 r5.ps.length c5) hk57 hz57 hown7 hb57 H5.out.2.2 wdHZ.out.1 (fun g hg=>Nat.lt_of_lt_of_le (HPO.out g hg).2 wdHZ.out.2) ⟨H5.out.1,H5.out.2.1⟩);have HLOW:=h! (show Kept (fun b=>b<rp) w5 (w7.setCell ⟨rp,3,none⟩ v7)from(hk57'.mono fun b (hb:b<rp)=>⟨by have:=wdHZ.out;have:=H5S.out;omega,fun e=>by have:=(HPO.out b e).1;omega⟩).set (fun h=>Nat.lt_irrefl _ h) _);have hrp7:Blk w7 rp #[.int .i64 4,.string ⟨#[]⟩,.string ⟨#[]⟩,.slice aov kv cv] 98:=(hk57 rp (by have:=wdHZ.out;have:=H5S.out;omega) (fun e=>by have:=(HPO.out rp e).1;omega)).trans w5HM.out.box;obtain⟨ao7,k7,c7,rfl,-,-,-⟩:=hown7.sl.len;have f7:=hrp7.free;have g7:=hrp7.cells 3;have hdn:IntKind.i64.wrap ((n:Int)-1)=((n-1:Nat):Int):=by rw[IntWalk.i64_in _ (by have:=HQN.out;have:=HN.out;omega)];omega
       have hdn':wrap64 ((n:Int)-1)=((n-1:Nat):Int):=by rw[wrap_in _ (by omega) (by have:=HQN.out;have:=HN.out;omega)];omega
       clear hkc5 hkc6 hk57 hz57 hb57 hk57' hown7 hb7 hgr7 hrp7 x56;((refine WalkL.take 10 _ ?_ (by simp only[gA,gS,gZ];rfl) (by kernel_rfl) (by kernel_rfl) (by kernel_rfl) (by rfl) (fun W hW=>?_) ?_;rotate_left;· (go_simp;try with_reducible rfl));simp only[Act.put,pA,pZ,pS])
       refine WalkL.last (by kernel_rfl) (by kernel_rfl) ?_;refine⟨_,(by simp only[gA,gS,gZ];rfl),by rfl,fun K hK=>?_⟩;go_simp;refine hK.out _ _ ?_;clear hK hkc7 f7 g7;generalize w7.setCell ⟨rp,3,none⟩ (.slice ao7 k7 c7)=w8 at *;go_wp2_with fail
       go_roundw
       case rel=>exact⟨n-1,_,_,rfl,by have:=HQN.out;have:=HNN.out;rw[List.length_append];simp only[List.length_cons,List.length_nil];omega,HADD.out,HLOW.out.blk w5HR.out (by have:=wbHL.out;show w.heap.size<rp;omega),w5HT.out.kept HLOW.out (fun b hb=>by have:=wbHL.out;show b<rp;omega),Kept.trans w5HK.out (HLOW.out.mono fun b (hb:b<w.heap.size/\b≠tp)=>by have:=wbHL.out;have:=hb.1;show b<rp;omega)⟩
       case measure=>have:=HNN.out;simp[intOf];omega
    ·have hq1:((5:Int) == nt)=false:=by rw[beq_eq_false_iff_ne];omega
     have HQ:=h! hq;clear hq;go_wp2_with fail
     clear hr1 hf1;obtain⟨wa,hwa⟩:∃ x,x=w1.alloc (.cells #[.int .i64 4,.int .i64 5] 3):=⟨_,rfl⟩;obtain⟨wb,hwb⟩:∃ x,x=wa.alloc (.cells #[.int .i64 5,.string ⟨#[]⟩,.string ⟨#[]⟩,.slice none 0 0] 98):=⟨_,rfl⟩;have ea:wa.heap.size=w1.heap.size+1:=by rw[hwa];simp
     have xa:Ext w1 wa:=by rw[hwa];exact Ext.alloc _ _
     have xb:Ext wa wb:=by rw[hwb];exact Ext.alloc _ _
     have HRP:=h! (show Blk wb (w1.heap.size+1) #[.int .i64 5,.string ⟨#[]⟩,.string ⟨#[]⟩,.slice none 0 0] 98 from by rw[hwb,<- ea];exact Blk.made _ _ _);have wbHT:=h! (w1HT.out.ext (xa.trans xb));have wbHK:=h! (KT.trans w1HK.out (KT.of (xa.trans xb)));have wbHR:=h! (w1HR.out.below (xa.trans xb));have HNX2:=h! (next_any tp 2 wb wbHT.out (by decide) (by decide));rw[<- ea]at HRP;generalize wa.heap.size=rp at *;rw[<- ea];have wbHL:=h! (show w.heap.size<rp/\tp<w.heap.size from⟨by have:=HZ1.out;omega,HLT.out⟩);have wbHM:=h! (show MkI own d 5 rp wb [] (.slice none 0 0)from⟨HRP.out,Own.nil _ _ _ _,by simp,by simp⟩);subst hwb hwa;clear ea xa xb HRP w1HT w1HK w1HR HZ1;refine HNX2.out.mono ?_;clear HNX2;rintro e w2 ⟨k3,rfl,hk3,htp2,hkt2⟩;have w2HM:=h! (wbHM.out.keep hkt2 (by have:=wbHL.out;omega));have w2HR:=h! (hkt2.blk wbHR.out (by have:=wbHL.out;omega));have w2HK:=h! (KT.trans wbHK.out hkt2);have w2HT:=h! htp2;clear wbHM wbHR wbHK wbHT htp2 hkt2;have hw3:IntKind.i64.wrap (2+(k3:Int))=((2+k3:Nat):Int):=by rw[IntWalk.i64_in _ (by omega)];omega
     have hw3':wrap64 (2+(k3:Int))=((2+k3:Nat):Int):=by rw[wrap_in _ (by omega) (by omega)];omega
     go_wp2_with fail
     clear hw3 hw3';generalize hN:2+k3=N at *;have HN:=h! (show N=2\/N=3 from by omega);have HNE:=h! hN;clear hN hk3 hd0;go_loopw [12] (fun iv wr=>∃ (n:Nat) (q:List (RT × Value)) (pv:Value),iv = .int .i64 n/\q.length+n=N/\MkI own d 5 rp wr q pv/\Blk wr w.heap.size #[.int .i64 0,.string ⟨#[]⟩,.string ⟨#[]⟩,.slice none 0 0] 98/\Tp wr tp/\KT tp w wr) (fun iv _=>(intOf iv).toNat)
     case atStart=>exact⟨N,[],_,by rw[<- HNE.out];simp,by simp,w2HM.out,w2HR.out,w2HT.out,w2HK.out⟩
     case round =>
      obtain⟨n,q,pv,rfl,hqn,hm,hrb,htp,hkt⟩:=hrel;have HQN:=h! hqn;have wrHM:=h! hm;have wrHR:=h! hrb;have wrHT:=h! htp;have wrHK:=h! hkt;clear hqn w2HM w2HR w2HT w2HK;by_cases hn:n=0
      ·subst hn;obtain⟨aov,kv,cv,rfl,-,-,-⟩:=hm.row.sl.len;have hp1:=hm.box.cells;have hb1:=hrb.cells;have hbf:=hrb.free;clear hm hrb htp hkt;go_wp2_with fail
       clear hp1 hb1 hbf;refine bodyPost_ret (results_cell_row rfl _ _ w.heap.size 98 #[.int .i64 5,.string ⟨#[]⟩,.string ⟨#[]⟩,.slice aov kv cv] (0,0) _ rfl (wrHR.out.set4 _ _ _ _) Tryz.underlying98 rfl (by kernel_rfl)) rfl ?_;have hks:Kept (fun b=>b≠w.heap.size) wr _:=(Kept.refl _ wr).set4 (B:=w.heap.size) (fun h=>h rfl) (.int .i64 5) (.string ⟨#[]⟩) (.string ⟨#[]⟩) (.slice aov kv cv);refine⟨.mk 5 ⟨#[]⟩ ⟨#[]⟩ (q.map (·.1)),.slice aov kv cv,rfl,.inr ⟨5,q.map (·.1),rfl,by decide,by have:=HQN.out;have:=HN.out;rw[List.length_map];omega,fun p hp=>?_⟩,(fun e=>HQ.out e.symm),(RTAt.iff _ _).2 ⟨q,rfl,fun x hx=>?_,?_⟩,wrHT.out.set4 wrHR.out.lt (by have:=wbHL.out;omega) _ _ _ _,wrHK.out.set4 (fun h=>Nat.lt_irrefl _ h.1) _ _ _ _⟩
       ·obtain⟨x,hx,rfl⟩:=List.mem_map.1 hp;exact wrHM.out.good x hx
       ·exact((wrHM.out.parts x hx).same fun b hb=>hks.block b (by have:=hb.1.1;have:=wbHL.out;show b≠w.heap.size;omega)).mono fun b hb=>⟨by have:=hb.1.1;have:=wbHL.out;omega,Nat.lt_of_lt_of_le hb.1.2 hks.size⟩
       ·exact(wrHM.out.row.sl.same fun b hb=>hks.block b (by have:=hb.1;have:=wbHL.out;show b≠w.heap.size;omega)).mono fun b hb=>⟨by have:=hb.1;have:=wbHL.out;omega,Nat.lt_of_lt_of_le hb.2 hks.size⟩
      ·have HNN:=h! hn;have hgt:(0:Int)<(n:Int):=by omega
       have HPO:=h! (fun g (e:pv.ownBlock=some g)=>hm.row.block g e);obtain⟨aov,kv,cv,rfl,-,-,-⟩:=hm.row.sl.len;have hp1:=hm.box.cells 3;clear hm hrb htp hkt hn;go_wp2_with fail
       obtain⟨wd,hwd⟩:∃ wd,wd=wr.drew:=⟨_,rfl⟩;have hE:Ext wr wd:=by rw[hwd];exact Ext.drew wr
       have wdHT:=h! (wrHT.out.ext hE);have wdHK:=h! (KT.trans wrHK.out (KT.of hE));have wdHR:=h! (wrHR.out.below hE);have wdHM:=h! (wrHM.out.keep (KT.of (tp:=tp) hE) (by have:=wbHL.out;omega));have wdHZ:=h! (show rp<wd.heap.size/\wr.heap.size<=wd.heap.size from⟨wdHM.out.box.lt,hE.size⟩)
       have hA:∀ W,Kept (fun b=>b<wd.heap.size/\b≠tp/\Value.ownBlock (.slice aov kv cv)≠some b) wd W->W.cell? ⟨rp,3,none⟩=some (.slice aov kv cv):=fun W hW =>
        (World.cell?_of_block (a:=⟨rp,3,none⟩) (hW.block rp ⟨wdHZ.out.1,by have:=wbHL.out;omega,fun e=>by have:=(HPO.out rp e).1;omega⟩)).trans (wdHM.out.box.cells 3)
       have hdw:IntKind.i64.wrap ((d:Int)+1-1)=(d:Int):=by rw[Int.add_sub_cancel];exact IntWalk.i64_in _ (by have:=HD.out;omega)
       have hdw':IntKind.i64.wrap (d:Int)=(d:Int):=IntWalk.i64_in _ (by have:=HD.out;omega);have HCALL:=h! (HIH.out 5 tp (.slice ao own.length c) wd wdHT.out ((HOV.out.same fun b hb=>wdHK.out.block b hb).mono fun b hb=>⟨Nat.lt_of_lt_of_le hb.1 wdHK.out.size,hb.2⟩) (by have:=HD.out;omega) (by decide));refine region_walkL 11 (Kept (fun b=>b<wd.heap.size/\b≠tp/\Value.ownBlock (.slice aov kv cv)≠some b) wd) (by rw[<- hwd];exact Kept.refl _ _) (by kernel_rfl) (by kernel_rfl) (fun _ _ d _ _ h=>by cases d <;> exact h) ?_;rw[<- hwd];clear hwd hE hp1;(refine WalkL.tk [0,1,2,3,4,5,6] ?_;(iterate 7 ((refine TkL.c _ ?_ (by simp only[gA,gS,gZ];rfl) (by kernel_rfl) (by kernel_rfl) (by kernel_rfl) (by rfl) (fun W hW=>?_) ?_;rotate_left;· (go_simp;try with_reducible rfl));simp only[Act.put,pA,pZ,pS]));refine TkL.n ?_)
       refine WalkL.one 7 (by kernel_rfl) ?_;refine⟨_,(by simp only[gA,gS,gZ];rfl),by rfl,fun K hK=>?_⟩;go_simp;refine HCALL.out.mono ?_;rintro e w5 ⟨r5,v5,rfl,hg5,hk5,hat5,htp5,hkt5⟩;have hkc5:Kept (fun b=>b<wd.heap.size/\b≠tp/\Value.ownBlock (.slice aov kv cv)≠some b) wd w5:=Kept.mono hkt5 fun b hb=>⟨hb.1,hb.2.1⟩;refine hK.out _ _ hkc5 ?_;obtain⟨ao5,c5,rfl,-,-,-⟩:=hat5.rows;have w5HM:=h! (wdHM.out.keep hkt5 (by have:=wbHL.out;omega));have w5HT:=h! htp5;have w5HK:=h! (KT.trans wdHK.out hkt5);have w5HR:=h! (hkt5.blk wdHR.out (by have:=wbHL.out;omega));have H5:=h! (And.intro hg5 (And.intro hk5 hat5));have H5S:=h! hkt5.size;clear hK hg5 hk5 hat5 htp5 hkt5 HCALL;unfold rV;refine WalkL.one 8 (by kernel_rfl) ?_;refine⟨_,(by simp only[gA,gS,gZ];rfl),by rfl,fun K hK=>?_⟩;go_simp;have x56:=Ext.alloc w5 (.cells #[.int .i64 r5.k,.string r5.a,.string r5.b,.slice ao5 r5.ps.length c5] 98);have hkc6:=hkc5.trans (Kept.mono (KT.of (tp:=tp) x56) fun b (hb:b<wd.heap.size/\b≠tp/\_)=>⟨Nat.lt_of_lt_of_le hb.1 hkc5.size,hb.2.1⟩);refine hK.out _ _ hkc6 ?_;clear hK;refine WalkL.one 9 (by kernel_rfl) ?_;refine⟨_,(by simp only[gA,gS,gZ];rfl),by rfl,fun K hK=>?_⟩;refine wp_ownw ruleT (.tmp 41) (.tmp 48) rfl rfl (w5HM.out.row.below x56) rfl (m:=1) (news:=[.int .i64 r5.k,.string r5.a,.string r5.b,.slice ao5 r5.ps.length c5]) rfl (fun j u hu=>?_) (by simp[Value.oneCell']) (by have:=HQN.out;have:=HN.out;rw[flat_length rC_length];simp;omega) (by have:=HQN.out;have:=HN.out;rw[flat_length rC_length];simp;omega) (by have:=wdHZ.out;have:=H5S.out;simp;omega) (fun v7 w7 hown7 hb7 hgr7=>?_)
       ·rw[Addr.add_lit,cell_of_row _ w5.heap.size (0+j) #[.int .i64 r5.k,.string r5.a,.string r5.b,.slice ao5 r5.ps.length c5] 98 (0,0) (heap_alloc_new w5 _)];simpa using hu
       have hk57:∀ b,b<w5.heap.size->Value.ownBlock (.slice aov kv cv)≠some b->w7.heap[b]?=w5.heap[b]?:=fun b h1 h2=>(hgr7.block b (by simp;omega) (fun e=>h2 e.symm)).trans (x56.block b h1);have hz57:w5.heap.size<=w7.heap.size:=Nat.le_trans x56.size hgr7.size;have hb57:∀ g,v7.ownBlock=some g->Value.ownBlock (.slice aov kv cv)=some g\/w5.heap.size<=g:=fun g hg=>(hb7 g hg).imp id (fun h=>by simp at h;omega);have hk57':Kept (fun b=>b<w5.heap.size/\Value.ownBlock (.slice aov kv cv)≠some b) w5 w7:=⟨hgr7.os.trans x56.os,hgr7.tape.trans x56.tape,hgr7.output.trans x56.output,hz57,fun b hb=>hk57 b hb.1 hb.2⟩;have hkc7:=hkc5.trans (hk57'.mono fun b (hb:b<wd.heap.size/\b≠tp/\_)=>⟨Nat.lt_of_lt_of_le hb.1 hkc5.size,hb.2.2⟩);refine hK.out _ _ hkc7 ?_;clear hK hA;simp only[Act.put,pA,pZ,pS];have HADD:=h! (w5HM.out.add (n0:=wd.heap.size) (r:=r5) (v5 := .slice ao5 r5.ps.length c5) hk57 hz57 hown7 hb57 H5.out.2.2 wdHZ.out.1 (fun g hg=>Nat.lt_of_lt_of_le (HPO.out g hg).2 wdHZ.out.2) ⟨H5.out.1,H5.out.2.1⟩);have HLOW:=h! (show Kept (fun b=>b<rp) w5 (w7.setCell ⟨rp,3,none⟩ v7)from(hk57'.mono fun b (hb:b<rp)=>⟨by have:=wdHZ.out;have:=H5S.out;omega,fun e=>by have:=(HPO.out b e).1;omega⟩).set (fun h=>Nat.lt_irrefl _ h) _);have hrp7:Blk w7 rp #[.int .i64 5,.string ⟨#[]⟩,.string ⟨#[]⟩,.slice aov kv cv] 98:=(hk57 rp (by have:=wdHZ.out;have:=H5S.out;omega) (fun e=>by have:=(HPO.out rp e).1;omega)).trans w5HM.out.box;obtain⟨ao7,k7,c7,rfl,-,-,-⟩:=hown7.sl.len;have f7:=hrp7.free;have g7:=hrp7.cells 3;have hdn:IntKind.i64.wrap ((n:Int)-1)=((n-1:Nat):Int):=by rw[IntWalk.i64_in _ (by have:=HQN.out;have:=HN.out;omega)];omega
       have hdn':wrap64 ((n:Int)-1)=((n-1:Nat):Int):=by rw[wrap_in _ (by omega) (by have:=HQN.out;have:=HN.out;omega)];omega
       clear hkc5 hkc6 hk57 hz57 hb57 hk57' hown7 hb7 hgr7 hrp7 x56;((refine WalkL.take 10 _ ?_ (by simp only[gA,gS,gZ];rfl) (by kernel_rfl) (by kernel_rfl) (by kernel_rfl) (by rfl) (fun W hW=>?_) ?_;rotate_left;· (go_simp;try with_reducible rfl));simp only[Act.put,pA,pZ,pS])
       refine WalkL.last (by kernel_rfl) (by kernel_rfl) ?_;refine⟨_,(by simp only[gA,gS,gZ];rfl),by rfl,fun K hK=>?_⟩;go_simp;refine hK.out _ _ ?_;clear hK hkc7 f7 g7;generalize w7.setCell ⟨rp,3,none⟩ (.slice ao7 k7 c7)=w8 at *;go_wp2_with fail
       go_roundw
       case rel=>exact⟨n-1,_,_,rfl,by have:=HQN.out;have:=HNN.out;rw[List.length_append];simp only[List.length_cons,List.length_nil];omega,HADD.out,HLOW.out.blk w5HR.out (by have:=wbHL.out;show w.heap.size<rp;omega),w5HT.out.kept HLOW.out (fun b hb=>by have:=wbHL.out;show b<rp;omega),Kept.trans w5HK.out (HLOW.out.mono fun b (hb:b<w.heap.size/\b≠tp)=>by have:=wbHL.out;have:=hb.1;show b<rp;omega)⟩
       case measure=>have:=HNN.out;simp[intOf];omega
end Go.Proofs.YtjdigpfipmckhaaGreat
