/- Lemmas for the claim, no condition. -/
import Derived.Laws.EntriesVeiled
import Derived.Test.YtlhaghoajpglaaaGreatYXMean9
import Derived.Test.YtlhaghoajpglaaaGreatYXMean7
import Derived.Test.YtlhaghoajpglaaaGreatYXMean1
import Derived.Test.YtlhaghoajpglaaaGreatYXMean5
import Derived.Test.YtlhaghoajpglaaaGreatYXMean8
import Derived.Test.YtlhaghoajpglaaaGreatYXMean0
set_option maxRecDepth 100000
set_option maxHeartbeats 1000000
namespace Go.Proofs.YtlhaghoajpglaaaGreat
open Go Go.RowKit Go.Maps
theorem chk_uniq {ts:List TyS} (h:chk06 ts=0):uniqOk ts=true:=by
 unfold chk06 at h;split at h
 ·split at h
  ·split at h
   ·assumption
   ·cases h
  ·cases h
 ·cases h
def shutM (l:List R2):List (R2 × Bool):=l.foldl (fun m r=>putA m r true) []
theorem shutM_snoc (l:List R2)(r:R2):shutM (l++[r])=putA (shutM l) r true:=by simp[shutM,List.foldl_append]
theorem look_shut (r:R2)(l:List R2):lookA (shutM l) r=if r∈l then some true else none:=by
 suffices h:∀ n,∀ l:List R2,l.length=n->lookA (shutM l) r=if r∈l then some true else none from h _ l rfl
 intro n;induction n with
 | zero=>intro l h;rw[List.eq_nil_of_length_eq_zero h];rfl
 | succ n ih =>
  intro l h;rcases List.eq_nil_or_concat l with rfl | ⟨l',x,rfl⟩
  ·simp at h
  ·rw[List.concat_eq_append]at h ⊢;rw[shutM_snoc,look_put,ih l' (by simpa using h)];by_cases e:x=r
   ·subst e;simp
   ·have e2:¬ r=x:=fun h=>e h.symm;simp[e,e2]
theorem shut_take {l:List R2} {i:Nat} (hi:i<l.length):shutM (l.take (i+1))=putA (shutM (l.take i)) l[i] true:=by
 rw[List.take_succ_eq_append_getElem hi,shutM_snoc]
structure WalkIn (ts:List TyS)(T:List Tup)(shut:List R2)(p:P3)(N:Nat):Prop where
 okp:∀ n,∀ x∈(walkN ts T shut p n).1,x.Ok
 few:∀ n,(walkN ts T shut p n).1.length<=N
 room:∀ x∈refsOf ts,x.2.sz*(T.length+1)+N<=1073741824
 nmax:N<=1073741823
 rok:∀ x∈refsOf ts,x.2.Ok
 tok:∀ t∈T,t.s.Ok
 tlen:T.length<=1000000
theorem Own.setAtR {w:World} {B:Nat} {e:TypeId} {sz:Nat} {g n c:Nat} {xs:List Value} (h:Own w B e sz (.slice (some ⟨g,0,none⟩) n c) xs)(i:Nat)(u:Value):Own (w.setCell ⟨g,i,none⟩ u) B e sz (.slice (some ⟨g,0,none⟩) n c) (xs.set i u):=by
 obtain⟨m,h⟩:=h;rcases h.2 with⟨hv,rfl⟩ | ⟨g',cap,cur,hv,hbg,hg,hnc,hcm,hcs,htake⟩
 ·cases hv
 ·cases hv;refine⟨n,by rw[List.length_set];exact h.1,.inr ⟨g,c,cur.setIfInBounds i u,rfl,hbg,heap_setCell_same w g i cur e u hg,hnc,hcm,by simpa using hcs,?_⟩⟩;rw[Array.toList_setIfInBounds,<- htake,List.take_set]
theorem set_four (xs:List Value)(a b c d p q r s:Value) {k:Nat} (hk:k=xs.length):((((xs++[p,q,r,s]).set k a).set (k+1) b).set (k+2) c).set (k+3) d=xs++[a,b,c,d]:=by
 subst hk;rw[List.set_append_right _ _ (Nat.le_refl _)];rw[List.set_append_right _ _ (by omega)];rw[List.set_append_right _ _ (by omega)];rw[List.set_append_right _ _ (by omega)];simp
theorem four_cells {w:World} {B:Nat} {e:TypeId} {sz:Nat} {g n c:Nat} {xs:List Value} {p q r s:Value} (h:Own w B e sz (.slice (some ⟨g,0,none⟩) n c) (xs++[p,q,r,s])) {k:Nat} (hk:k=xs.length):w.cell? ⟨g,k,none⟩=some p/\w.cell? ⟨g,k+1,none⟩=some q/\w.cell? ⟨g,k+2,none⟩=some r/\w.cell? ⟨g,k+3,none⟩=some s:=by
 obtain⟨m,h⟩:=h;have hc:=h.cells (g:=g) rfl;subst hk
 have hh:∀ j u,[p,q,r,s][j]?=some u->w.cell? ⟨g,xs.length+j,none⟩=some u:=fun j u hu=>by
  have:=hc (xs.length+j) u (by rw[List.getElem?_append_right (by omega)];simpa using hu);rwa[Addr.add_lit,Nat.zero_add]at this
 exact⟨hh 0 p rfl,hh 1 q rfl,hh 2 r rfl,hh 3 s rfl⟩
def World.setForm (w:World)(g k:Nat)(a b c d:Value):World:=(((w.setCell ⟨g,k,none⟩ a).setCell ⟨g,k+1,none⟩ b).setCell ⟨g,k+2,none⟩ c).setCell ⟨g,k+3,none⟩ d
theorem setForm_other (w:World)(g k:Nat)(a b c d:Value) {x:Nat} (hx:x≠g):(World.setForm w g k a b c d).heap[x]?=w.heap[x]?:=by
 unfold World.setForm;rw[Below.heap_setCell _ _ _ x hx,Below.heap_setCell _ _ _ x hx,Below.heap_setCell _ _ _ x hx,Below.heap_setCell _ _ _ x hx]
theorem setForm_size (w:World)(g k:Nat)(a b c d:Value):(World.setForm w g k a b c d).heap.size=w.heap.size:=by
 unfold World.setForm;simp
theorem Own.setForm {w:World} {B:Nat} {e:TypeId} {sz:Nat} {g n c:Nat} {xs:List Value} {p q r s:Value} (h:Own w B e sz (.slice (some ⟨g,0,none⟩) n c) (xs++[p,q,r,s])) {k:Nat} (hk:k=xs.length)(x0 x1 x2 x3:Value):Own (World.setForm w g k x0 x1 x2 x3) B e sz (.slice (some ⟨g,0,none⟩) n c) (xs++[x0,x1,x2,x3]):=by
 have:=(((h.setAtR k x0).setAtR (k+1) x1).setAtR (k+2) x2).setAtR (k+3) x3;rwa[set_four _ _ _ _ _ _ _ _ _ hk]at this
def EndE (t:NT)(L:Int)(nt:NT)(L' e':Int):Prop:=((t.sz:Int)<=L->nt=t/\L'=L-t.sz/\e'=0)/\(L<t.sz->e'=10)
def EndL (A:List NT)(L:Int)(l:List NT)(L' e':Int):Prop:=((nszL A:Int)<=L->l=A/\L'=L-nszL A/\e'=0)/\(L<nszL A->e'=10)
section
variable {A M l : List NT} {L L1 L2 e1 e2 : Int} {t nt : NT}
theorem EndL.nil (h:0<=L):EndL [] L [] L 0:=⟨fun _=>by simp[nszL],fun h2=>by simp[nszL]at h2;omega⟩
theorem EndL.zero (h:EndL A L l L1 0):l=A/\L1=L-nszL A/\(nszL A:Int)<=L:=by
 by_cases hl:(nszL A:Int)<=L
 ·exact⟨(h.1 hl).1,(h.1 hl).2.1,hl⟩
 ·have:=h.2 (by omega);omega
theorem EndL.one (h:EndL A L l L1 e1):e1=0\/e1=10:=by
 by_cases hl:(nszL A:Int)<=L
 ·exact .inl (h.1 hl).2.2
 ·exact .inr (h.2 (by omega))
theorem EndL.more (h:EndL A L l L1 10)(M:List NT):EndL (A++M) L l L1 10:=by
 have hl:L<nszL A:=by
  refine Decidable.byContradiction fun hn=>?_;have:=(h.1 (by omega)).2.2;omega
 refine⟨fun h2=>?_,fun _=>rfl⟩;rw[nszL_append]at h2;omega
theorem EndL.snoc (h:EndL A L l L1 0)(k:EndE t L1 nt L2 e2):EndL (A++[t]) L (l++[nt]) L2 e2:=by
 obtain⟨rfl,rfl,h3⟩:=h.zero;unfold EndL;rw[nszL_append,nszL_one];refine⟨fun h4=>?_,fun h4=>k.2 (by omega)⟩;obtain⟨rfl,h5,h6⟩:=k.1 (by omega);exact⟨rfl,by omega,h6⟩
theorem EndL.node {k:Int} {p:P3} {s:List P3} (h:EndL A (L-1) l L1 e1):EndE (.mk k p s A) L (.mk k p s l) L1 e1:=by
 unfold EndE;rw[NT.sz];refine⟨fun h4=>?_,fun h4=>h.2 (by omega)⟩;obtain⟨rfl,h5,h6⟩:=h.1 (by omega);exact⟨rfl,by omega,h6⟩
theorem EndE.long (h:L<t.sz):EndE t L nt L1 10:=⟨fun h2=>by omega,fun _=>rfl⟩
end
structure RuAt (w0 w wr:World)(bp lo:Nat)(tv fi sm:Value)(k:Int)(p:P3)(rc:Array Value)(A:List NT)(L:Int)(sb:List P3)(q:List (NT × NV2))(sv qv:Value)(L1 e1:Int):Prop where
 nd:NdAt wr lo (w.heap.size+3) k p sb q sv qv
 bx:Blk wr w.heap.size #[.string p.t,.string p.i,.string p.r] 32
 br:Blk wr (w.heap.size+1) rc 106
 bo:Blk wr (w.heap.size+2) #[.int .i64 0,.string ⟨#[]⟩,.string ⟨#[]⟩,.string ⟨#[]⟩,.slice none 0 0,.slice none 0 0] 45
 bd:Blk wr bp (BdC tv fi sm L1 e1) 143
 ext:Ext w0 wr
 kept:Kept (fun b=>b<w.heap.size/\b≠bp) w wr
 low:w.heap.size+4<=lo
 size:lo<=wr.heap.size
 fin:EndL A L (q.map (·.1)) L1 e1
section
variable {w0 w wr w2 w3 : World} {bp lo lo' : Nat} {tv fi sm sv qv qv' : Value} {k : Int} {p : P3} {rc : Array Value} {A : List NT} {L L1 e1 L2 e2 : Int} {sb : List P3} {q : List (NT × NV2)} {t nt : NT} {v2 : NV2}
theorem RuAt.up (h:RuAt w0 w wr bp lo tv fi sm k p rc A L sb q sv qv L1 e1)(hx:Ext wr w2):RuAt w0 w w2 bp lo tv fi sm k p rc A L sb q sv qv L1 e1 :=
 ⟨h.nd.ext hx,h.bx.below hx,h.br.below hx,h.bo.below hx,h.bd.below hx,Ext.trans h.ext hx,h.kept.trans (Below.kept hx fun b hb=>by have:=h.size;have:=h.low;omega),h.low,Nat.le_trans h.size hx.size,h.fin⟩
theorem RuAt.turned (h:RuAt w0 w wr bp lo tv fi sm k p rc A L sb q sv qv L1 e1)(hbp:bp<w.heap.size)(hw0:w0.heap.size=bp) {dm:Nat} (hk:Kept (· ≠ dm) wr w2)(h1:w.heap.size+4<=dm)(h2:dm<lo):RuAt w0 w w2 bp lo tv fi sm k p rc A L sb q sv qv L1 e1 :=
 ⟨h.nd.above (fun b h3=>hk.block b (by have:=h3.1;omega)) (hk.block _ (by omega)) hk.size,(hk.block _ (by omega)).trans h.bx,(hk.block _ (by omega)).trans h.br,(hk.block _ (by omega)).trans h.bo,(hk.block _ (by omega)).trans h.bd,
  ⟨hk.os.trans h.ext.os,hk.tape.trans h.ext.tape,hk.output.trans h.ext.output,Nat.le_trans h.ext.size hk.size,fun b hb=>(hk.block b (by omega)).trans (h.ext.block b hb)⟩,h.kept.trans (hk.mono fun b hb=>by omega),h.low,Nat.le_trans h.size hk.size,h.fin⟩
theorem RuAt.raise (h:RuAt w0 w wr bp lo tv fi sm k p rc A L [] [] (.slice none 0 0) (.slice none 0 0) L1 e1)(h1:lo<=lo')(h2:lo'<=wr.heap.size):RuAt w0 w wr bp lo' tv fi sm k p rc A L [] [] (.slice none 0 0) (.slice none 0 0) L1 e1 :=
 ⟨⟨h.nd.box,Own.nil _ _ _ _,NRow.nil _ _⟩,h.bx,h.br,h.bo,h.bd,h.ext,h.kept,Nat.le_trans h.low h1,h2,h.fin⟩
theorem RuAt.subs (h:RuAt w0 w wr bp lo tv fi sm k p rc A L sb q sv qv L1 e1)(hbp:bp<w.heap.size)(hw0:w0.heap.size=bp) {s2:List P3} {sv':Value} (hs:Own wr lo 33 3 sv' (pcs s2)):RuAt w0 w (wr.setCell ⟨w.heap.size+3,4,none⟩ sv') bp lo tv fi sm k p rc A L s2 q sv' qv L1 e1:=by
 have hl:=h.low;have hb:∀ b,b≠w.heap.size+3->(wr.setCell ⟨w.heap.size+3,4,none⟩ sv').heap[b]?=wr.heap[b]?:=fun b hb=>Below.heap_setCell _ _ _ b hb
 exact⟨h.nd.setSubs hs (by omega),(hb _ (by omega)).trans h.bx,(hb _ (by omega)).trans h.br,(hb _ (by omega)).trans h.bo,(hb _ (by omega)).trans h.bd,
  ⟨h.ext.os,h.ext.tape,h.ext.output,by simpa using h.ext.size,fun b hb'=>(hb b (by omega)).trans (h.ext.block b hb')⟩,h.kept.set (a:=⟨w.heap.size+3,4,none⟩) (fun h=>by have:=h.1;simp at this;omega) _,hl,by simpa using h.size,h.fin⟩
theorem RuAt.mid (h:RuAt w0 w wr bp lo tv fi sm k p rc A L sb q sv qv L1 e1)(hbp:bp<w.heap.size)(hk:Kept (fun b=>b<wr.heap.size/\b≠bp) wr w2):NdAt w2 lo (w.heap.size+3) k p sb q sv qv :=
 h.nd.above (fun b h1=>hk.block b ⟨h1.2.1,by have:=h1.1;have:=h.low;omega⟩) (hk.block _ ⟨h.nd.box.lt,by omega⟩) hk.size
theorem RuAt.step (h:RuAt w0 w wr bp lo tv fi sm k p rc A L sb q sv qv L1 0)(hbp:bp<w.heap.size)(hw0:w0.heap.size=bp)(hk:Kept (fun b=>b<wr.heap.size/\b≠bp) wr w2)(hd:Blk w2 bp (BdC tv fi sm L2 e2) 143)(hE:EndE t L1 nt L2 e2)
  (hn:NdAt w3 lo (w.heap.size+3) k p sb (q++[(nt,v2)]) sv qv') (hk3:Kept (fun b=>b<w2.heap.size/\b≠w.heap.size+3/\qv.ownBlock≠some b) w2 w3):RuAt w0 w w3 bp lo tv fi sm k p rc (A++[t]) L sb (q++[(nt,v2)]) sv qv' L2 e2:=by
 have hl:=h.low;have hb:∀ b,b<wr.heap.size->b≠bp->b<w.heap.size+3->w3.heap[b]?=wr.heap[b]?:=fun b h1 h2 h3=>(hk3.block b ⟨Nat.lt_of_lt_of_le h1 hk.size,by omega,fun e=>by have:=(h.nd.parts.row.block b e).1;omega⟩).trans (hk.block b ⟨h1,h2⟩);refine⟨hn,(hb _ h.bx.lt (by omega) (by omega)).trans h.bx,(hb _ h.br.lt (by omega) (by omega)).trans h.br,(hb _ h.bo.lt (by omega) (by omega)).trans h.bo,?_,?_,?_,hl,Nat.le_trans h.size (Nat.le_trans hk.size hk3.size),?_⟩
 ·exact(hk3.block bp ⟨hd.lt,by omega,fun e=>by have:=(h.nd.parts.row.block bp e).1;omega⟩).trans hd
 ·exact⟨(hk3.os.trans hk.os).trans h.ext.os,(hk3.tape.trans hk.tape).trans h.ext.tape,(hk3.output.trans hk.output).trans h.ext.output,Nat.le_trans h.ext.size (Nat.le_trans hk.size hk3.size),fun b hb'=>(hb b (by have:=h.size;omega) (by omega) (by omega)).trans (h.ext.block b hb')⟩
 ·exact⟨(hk3.os.trans hk.os).trans h.kept.os,(hk3.tape.trans hk.tape).trans h.kept.tape,(hk3.output.trans hk.output).trans h.kept.output,Nat.le_trans h.kept.size (Nat.le_trans hk.size hk3.size),fun b hb'=>(hb b (by have:=h.size;omega) hb'.2 (by omega)).trans (h.kept.block b hb')⟩
 ·rw[List.map_append];exact h.fin.snoc hE
theorem RuAt.stays (_h:RuAt w0 w wr bp lo tv fi sm k p rc A L sb q sv qv L1 e1)(hbp:bp<w.heap.size)(hk:Kept (fun b=>b<wr.heap.size/\b≠bp) wr w2)(hk3:Kept (fun b=>b<w2.heap.size/\b≠w.heap.size+3/\qv.ownBlock≠some b) w2 w3) {b:Nat} (hb:w.heap.size+4<=b)(hbl:b<wr.heap.size)(hq:qv.ownBlock≠some b):w3.heap[b]?=wr.heap[b]? :=
 (hk3.block b ⟨Nat.lt_of_lt_of_le hbl hk.size,by omega,hq⟩).trans (hk.block b ⟨hbl,by omega⟩)
end
structure BdSt (w0:World)(bp b ash:Nat)(ts:List TyS)(tv:Value)(T:List Tup)(shut:List R2):Prop where
 bp:w0.heap.size=bp
 ty:TysAt (· < w0.heap.size) w0 ts tv
 bk:BookAt w0 b T
 sh:Mp Tryz.prog 121 r2V bV w0 ash (shutM shut)
 ok:∀ t∈ts,t.Ok
 un:uniqOk ts=true
 ln:(refsOf ts).length<=1099511627776
 sub:∀ t∈T,t.s.Ok
 nd:T.Nodup
 few:T.length<=1000000
theorem subsOf_few (T:List Tup)(p:P3):(subsOf T p).length<=T.length:=by
 unfold subsOf;rw[List.length_map];exact List.length_filter_le _ _
theorem subsOf_nd {T:List Tup} (h:T.Nodup)(p:P3):(subsOf T p).Nodup:=by
 unfold subsOf;refine List.pairwise_map.2 ((h.filter _).imp_of_mem ?_);intro a b ha hb hne e;rw[List.mem_filter]at ha hb;refine hne ?_;obtain⟨o1,s1⟩:=a;obtain⟨o2,s2⟩:=b;have h1:o1=p:=by simpa using ha.2
 have h2:o2=p:=by simpa using hb.2
 have h3:s1=s2:=e;rw[h1,h2,h3]
def doneL (l:List P3):List (O2 × Bool):=(l.filter fun s=>decide (s.r=⟨#[]⟩)).map fun s=>(s.obj,true)
theorem doneL_snoc (l:List P3)(s:P3):doneL (l++[s])=if s.r=⟨#[]⟩then doneL l++[(s.obj,true)]else doneL l:=by
 unfold doneL;rw[List.filter_append,List.map_append];by_cases h:s.r=⟨#[]⟩
 ·rw[if_pos h];simp[h]
 ·rw[if_neg h];simp[h]
theorem done_new {l:List P3} {s:P3} (h:s∉l)(hr:s.r=⟨#[]⟩):∀ x∈doneL l,x.1≠s.obj:=fun x hx e=>by
 unfold doneL at hx;obtain⟨y,hy,rfl⟩:=List.mem_map.1 hx;rw[List.mem_filter]at hy;have h1:y.r=⟨#[]⟩:=by simpa using hy.2
 refine h ?_;obtain⟨a,b,c⟩:=s;obtain⟨a',b',c'⟩:=y;simp only[P3.obj,O2.mk.injEq]at e;simp only at h1 hr;rw[hr,<- e.1,<- e.2,<- h1];exact hy.1
theorem viaOf_snoc (b:ByteArray)(l:List P3)(s:P3):viaOf b (l++[s])=if s.r=⟨#[]⟩then viaOf b l++[⟨s.t,s.i,b⟩]else viaOf b l:=by
 unfold viaOf;rw[List.filter_append,List.map_append];by_cases h:s.r=⟨#[]⟩
 ·rw[if_pos h];simp[h]
 ·rw[if_neg h];simp[h]
theorem look_done {w:World} {dm:Nat} {dl:List (O2 × Bool)} (h:Mp Tryz.prog 30 oV bV w dm dl)(t i:ByteArray)(ht:t.size<=maxLen)(hi:i.size<=maxLen) :
  ∃ x:Bool,(Instr.lookup 157 (.map (some dm)) (.agg #[.string t,.string i]) false).run Tryz.prog w = .ok (.bool x) w/\((∀ y∈dl,y.1≠(⟨t,i⟩:O2))->x=false):=by
 have hl:=h.look objK (fun _ _=>oV_inj _ _) Tryz.underlying157 (Tryz.zeroValue4 w) false (obj_key ⟨t,i⟩ ⟨ht,hi⟩);cases hx:lookA dl (⟨t,i⟩:O2) with
 | none =>
  rw[hx]at hl;exact⟨false,hl,fun _=>rfl⟩
 | some x =>
  rw[hx]at hl;refine⟨x,hl,fun hy=>?_⟩;rw[look_miss hy]at hx;cases hx
def TreeSaid (bp:Nat)(tv fi sm:Value)(t:NT)(L:Int)(w:World)(e:Ending)(w':World):Prop :=
 ∃ nt v2 L' e',e = .returned (nV2 nt v2)/\NtAt (NS w.heap.size w') w' nt v2/\Blk w' bp (BdC tv fi sm L' e') 143/\Kept (fun b=>b<w.heap.size/\b≠bp) w w'/\EndE t L nt L' e'
def PointLaw (w0:World)(bp b ash:Nat)(ts:List TyS)(tv:Value)(T:List Tup)(shut:List R2)(d:Nat):Prop :=
 ∀ (p:P3) (L:Int) (w:World),p.Ok->Ext w0 w->Blk w bp (BdC tv (bkV b) (.map (some ash)) L 0) 143->0<=L->L<=1000000 ->
  Calls Tryz.prog 75 #[.pointer (some ⟨bp,0,none⟩),pV p,.int .i64 d] w (TreeSaid bp tv (bkV b) (.map (some ash)) (treeE ts T shut d p) L w)
theorem Blk.setN6 {w:World} {B:Nat} {a b c d e f:Value} {t:TypeId} (h:Blk w B #[a,b,c,d,e,f] t)(x0 x1 x2 x3 x4 x5:Value):Blk ((((((w.setCell ⟨B,0,none⟩ x0).setCell ⟨B,1,none⟩ x1).setCell ⟨B,2,none⟩ x2).setCell ⟨B,3,none⟩ x3).setCell ⟨B,4,none⟩ x4).setCell ⟨B,5,none⟩ x5) B #[x0,x1,x2,x3,x4,x5] t:=(((((h.set_to (cs':=#[x0,b,c,d,e,f]) 0 x0 rfl).set_to (cs':=#[x0,x1,c,d,e,f]) 1 x1 rfl).set_to (cs':=#[x0,x1,x2,d,e,f]) 2 x2 rfl).set_to (cs':=#[x0,x1,x2,x3,e,f]) 3 x3 rfl).set_to (cs':=#[x0,x1,x2,x3,x4,f]) 4 x4 rfl).set_to 5 x5 rfl
theorem put6_other {w:World} {B:Nat} (x0 x1 x2 x3 x4 x5:Value) {y:Nat} (h:y≠B):((((((w.setCell ⟨B,0,none⟩ x0).setCell ⟨B,1,none⟩ x1).setCell ⟨B,2,none⟩ x2).setCell ⟨B,3,none⟩ x3).setCell ⟨B,4,none⟩ x4).setCell ⟨B,5,none⟩ x5).heap[y]?=w.heap[y]?:=by
 rw[Below.heap_setCell _ _ _ y h,Below.heap_setCell _ _ _ y h,Below.heap_setCell _ _ _ y h,Below.heap_setCell _ _ _ y h,Below.heap_setCell _ _ _ y h,Below.heap_setCell _ _ _ y h]
theorem nodup_take {α:Type} {l:List α} (h:l.Nodup) {i:Nat} (hi:i<l.length):l[i]∉l.take i:=fun hm=>by
 obtain⟨j,hj,e⟩:=List.mem_take_iff_getElem.1 hm;exact List.pairwise_iff_getElem.1 h j i (by omega) hi (by omega) e
theorem RuAt.done {w0 w wr:World} {bp lo:Nat} {tv fi sm sv qv:Value} {k:Int} {p:P3} {rc:Array Value} {A:List NT} {L L1 e1:Int} {sb:List P3} {q:List (NT × NV2)} {t:NT} {L0:Int} (h:RuAt w0 w wr bp lo tv fi sm k p rc A L sb q sv qv L1 e1)(hbp:bp<w.heap.size)(hE:EndE t L0 (.mk k p sb (q.map (·.1))) L1 e1)(x0 x1 x2 x3 x4 x5:Value) :
  TreeSaid bp tv fi sm t L0 w (.returned (nV2 (.mk k p sb (q.map (·.1))) (sv,qv))) ((((((wr.setCell ⟨w.heap.size+2,0,none⟩ x0).setCell ⟨w.heap.size+2,1,none⟩ x1).setCell ⟨w.heap.size+2,2,none⟩ x2).setCell ⟨w.heap.size+2,3,none⟩ x3).setCell ⟨w.heap.size+2,4,none⟩ x4).setCell ⟨w.heap.size+2,5,none⟩ x5):=by
 have hlow:=h.low;refine⟨_,_,L1,e1,rfl,?_,(put6_other _ _ _ _ _ _ (by omega)).trans h.bd,?_,hE⟩
 ·exact h.nd.done rfl (fun b h1=>put6_other _ _ _ _ _ _ (by have:=h1.1;omega)) (by simp) (by omega)
 ·have hn:¬ ((fun b=>b<w.heap.size/\b≠bp) (w.heap.size+2)):=fun h=>by have:=h.1;omega
  exact(((((h.kept.set (a:=⟨w.heap.size+2,0,none⟩) hn x0).set (a:=⟨w.heap.size+2,1,none⟩) hn x1).set (a:=⟨w.heap.size+2,2,none⟩) hn x2).set (a:=⟨w.heap.size+2,3,none⟩) hn x3).set (a:=⟨w.heap.size+2,4,none⟩) hn x4).set (a:=⟨w.heap.size+2,5,none⟩) hn x5
theorem erule_any (w0:World)(bp b ash:Nat)(ts:List TyS)(tv:Value)(T:List Tup)(shut:List R2)(HS:BdSt w0 bp b ash ts tv T shut)(d:Nat)(hd:d<=1000)(hP:PointLaw w0 bp b ash ts tv T shut d)(p:P3)(hp:p.Ok)(r:RT):∀ (rpv:Value)(L:Int)(w:World),r.Ok->RTAt (· < w0.heap.size) w0 r rpv->Ext w0 w->Blk w bp (BdC tv (bkV b) (.map (some ash)) L 0) 143->0<=L->L<=1000000 ->
  Calls Tryz.prog 135 #[.pointer (some ⟨bp,0,none⟩),pV p,rV r rpv,.int .i64 ((d:Int)+1)] w (TreeSaid bp tv (bkV b) (.map (some ash)) (ruleE T (treeE ts T shut d) p r) L w):=by
 have HST:=h! HS;have HPL:=h! hP;have HPO:=h! hp;have HDW:=h! (show wrap64 ((d:Int)+1-1)=(d:Int)from by unfold wrap64;omega);have HDW2:=h! (show wrap64 (d:Int)=(d:Int)from by unfold wrap64;omega);clear HS hP hp hd;obtain⟨pt,pi,pr⟩:=p;induction r using RT.ind with
 | h r ih =>
 intro rpv L w hro hat hx hbd h0 h1;have HROK:=h! ((RT.ok_iff r).1 hro);obtain⟨k,ra,rb,parts⟩:=r;dsimp only[RT.k,RT.a,RT.b,RT.ps]at ih HROK;have HTE:=h! (ruleE_mk T (treeE ts T shut d) ⟨pt,pi,pr⟩ k ra rb parts);have HIH:=h! ih;have HRT:=h! hat;have HBP:=h! (show bp<w.heap.size from hbd.lt);have HL0:=h! h0;have HL1:=h! h1;generalize ruleE T (treeE ts T shut d) ⟨pt,pi,pr⟩ (RT.mk k ra rb parts)=te at *;obtain⟨ao,c,rfl,hlc,hcm,-⟩:=hat.rows;dsimp only[RT.ps]at hlc hcm ⊢;obtain⟨wa,hwa⟩:∃ x,x=w.alloc (.cells #[.string pt,.string pi,.string pr] 32):=⟨_,rfl⟩;obtain⟨wc,hwc⟩:∃ x,x=wa.alloc (.cells #[.int .i64 k,.string ra,.string rb,.slice ao parts.length c] 106):=⟨_,rfl⟩;obtain⟨wd,hwd⟩:∃ x,x=wc.alloc (.cells #[.int .i64 0,.string ⟨#[]⟩,.string ⟨#[]⟩,.string ⟨#[]⟩,.slice none 0 0,.slice none 0 0] 45):=⟨_,rfl⟩;obtain⟨we,hwe⟩:∃ x,x=wd.alloc (.cells #[.int .i64 k,.string pt,.string pi,.string pr,.slice none 0 0,.slice none 0 0] 45):=⟨_,rfl⟩;have ea:wa.heap.size=w.heap.size+1:=by rw[hwa];simp
 have ec:wc.heap.size=w.heap.size+2:=by rw[hwc];simp[ea]
 have ed:wd.heap.size=w.heap.size+3:=by rw[hwd];simp[ec]
 have ee:we.heap.size=w.heap.size+4:=by rw[hwe];simp[ed]
 have xa:Ext w wa:=by rw[hwa];exact Ext.alloc _ _
 have xc:Ext wa wc:=by rw[hwc];exact Ext.alloc _ _
 have xd:Ext wc wd:=by rw[hwd];exact Ext.alloc _ _
 have xe:Ext wd we:=by rw[hwe];exact Ext.alloc _ _
 have EX:Ext w we:=xa.trans (xc.trans (xd.trans xe));have EN:=h! (show NdAt we (w.heap.size+4) (w.heap.size+3) k ⟨pt,pi,pr⟩ [] [] (.slice none 0 0) (.slice none 0 0)from⟨by rw[hwe,<- ed];exact Blk.made _ _ _,Own.nil _ _ _ _,NRow.nil _ _⟩);have EP:=h! (show Blk we w.heap.size #[.string pt,.string pi,.string pr] 32 from Blk.below (by rw[hwa];exact Blk.made _ _ _) (xc.trans (xd.trans xe)));have ER:=h! (show Blk we (w.heap.size+1) #[.int .i64 k,.string ra,.string rb,.slice ao parts.length c] 106 from Blk.below (by rw[hwc,<- ea];exact Blk.made _ _ _) (xd.trans xe));have EO:=h! (show Blk we (w.heap.size+2) #[.int .i64 0,.string ⟨#[]⟩,.string ⟨#[]⟩,.string ⟨#[]⟩,.slice none 0 0,.slice none 0 0] 45 from Blk.below (by rw[hwd,<- ec];exact Blk.made _ _ _) xe);have HCT:=h! (count_any bp tv (bkV b) (.map (some ash)) L we (hbd.below EX) h0 h1);have EXX:=h! EX;have EZ:=h! ee;have HX:=h! hx;clear ea ec ed ee xa xc xd xe EX ih hro hat hx hbd h0 h1;subst hwe hwd hwc hwa;unfold pV rV;dsimp only[RT.k,RT.a,RT.b,RT.ps];have hmf:∀ (fn:Fn) (first cap:Array Value) (W:World),(Instr.makeFunc fn first cap).run Tryz.prog W = .ok (.func fn first cap) W:=fun _ _ _ _=>rfl;have hep:=EP.out.cells;have her:=ER.out.cells;go_enter Tryz.func135,Tryz.ntmps135
 go_wp2_with fail
 obtain⟨we,hwe⟩:∃ x,x=(((w.alloc (.cells #[.string pt,.string pi,.string pr] 32)).alloc (.cells #[.int .i64 k,.string ra,.string rb,.slice ao parts.length c] 106)).alloc (.cells #[.int .i64 0,.string ⟨#[]⟩,.string ⟨#[]⟩,.string ⟨#[]⟩,.slice none 0 0,.slice none 0 0] 45)).alloc (.cells #[.int .i64 k,.string pt,.string pi,.string pr,.slice none 0 0,.slice none 0 0] 45):=⟨_,rfl⟩;rw[<- hwe]at EN EP ER EO EXX EZ HCT ⊢;clear hwe hep her;refine HCT.out.mono ?_;rintro e wf ⟨rfl,hbf,hkf⟩
 have FU:=h! (fun(L1 e1:Int) (hL:Blk wf bp (BdC tv (bkV b) (.map (some ash)) L1 e1) 143) (hE:EndL [] (L-1) [] L1 e1)=>show RuAt w0 w wf bp (w.heap.size+4) tv (bkV b) (.map (some ash)) k ⟨pt,pi,pr⟩ #[.int .i64 k,.string ra,.string rb,.slice ao parts.length c] [] (L-1) [] [] (.slice none 0 0) (.slice none 0 0) L1 e1 from by
  have hb:=HBP.out;have hz:=EZ.out;have hkb:∀ b,b≠bp->wf.heap[b]?=we.heap[b]?:=hkf.block;have hb0:=HST.out.bp;exact⟨EN.out.above (fun b h1=>hkb b (by have:=h1.1;omega)) (hkb _ (by omega)) hkf.size,(hkb _ (by omega)).trans EP.out,(hkb _ (by omega)).trans ER.out,(hkb _ (by omega)).trans EO.out,hL,⟨hkf.os.trans (Ext.trans HX.out EXX.out).os,hkf.tape.trans (Ext.trans HX.out EXX.out).tape,hkf.output.trans (Ext.trans HX.out EXX.out).output,Nat.le_trans (Ext.trans HX.out EXX.out).size hkf.size,fun b hb=>(hkb b (by omega)).trans ((Ext.trans HX.out EXX.out).block b hb)⟩,(Below.kept EXX.out fun b hb=>hb.1).trans (hkf.mono fun b hb=>hb.2),Nat.le_refl _,by have:=hkf.size;omega,hE⟩)
 by_cases hl:0<L
 rotate_left
 ·rw[if_neg hl]at hbf;rw[decide_eq_false hl];have HFF:=h! (FU.out _ _ hbf ⟨fun h=>by simp[nszL]at h;omega,fun _=>rfl⟩);have HE:=h! (EndE.long (t:=te) (L:=L) (nt := .mk k ⟨pt,pi,pr⟩ [] []) (L1:=L-1) (by have:=te.sz_pos;omega));clear FU hbf hkf HCT hl;have hc3:=HFF.out.nd.box.cells;have hc2:=HFF.out.bo.cells;have hz2:=HFF.out.bo.free;go_wp2_with fail
  clear hc3 hc2 hz2;refine bodyPost_ret (results_cell_row rfl _ _ (w.heap.size+2) 45 _ (0,0) _ rfl (HFF.out.bo.setN6 _ _ _ _ _ _) Tryz.underlying45 rfl (by kernel_rfl)) rfl ?_;exact HFF.out.done HBP.out HE.out _ _ _ _ _ _
 rw[if_pos hl]at hbf;rw[decide_eq_true hl];have FF:=h! (FU.out _ _ hbf (EndL.nil (by omega)));have HLP:=h! hl;clear FU hbf hkf HCT hl
 have four:Hid (k=1)\/Hid (k=2)\/Hid (k=3)\/Hid (k≠1/\k≠2/\k≠3):=by
  by_cases h1:k=1
  ·exact .inl h1
  ·by_cases h2:k=2
   ·exact .inr (.inl h2)
   ·by_cases h3:k=3
    ·exact .inr (.inr (.inl h3))
    ·exact .inr (.inr (.inr ⟨h1,h2,h3⟩))
 rcases four with HK | HK | HK | HK
 case' inl =>
  have q1:(k == 1)=true:=by rw[HK.out];rfl
  have HSB:=h! (esubs_any bp b tv (.map (some ash)) (L-1) T ⟨pt,pi,pr⟩ wf HPO.out FF.out.bd (HST.out.bk.ext FF.out.ext) (by have:=HST.out.few;have:=subsOf_few T ⟨pt,pi,pr⟩;omega));have HSU0:=h! (show(if k=1 then subsOf T ⟨pt,pi,pr⟩else [])=subsOf T ⟨pt,pi,pr⟩from by rw[if_pos HK.out]);have hpp:=FF.out.bx.cells;have hrc:=FF.out.br.cells;unfold pV at HSB;dsimp only at HSB;go_wp2_with fail
  clear hpp hrc;refine HSB.out.mono ?_;rintro e w2 ⟨v2,rfl,ho2,hx2⟩;generalize subsOf T ⟨pt,pi,pr⟩=sb at *;obtain⟨so,sn,sc,rfl,-,-,-⟩:=ho2.sl.len;have F2:=h! (FF.out.up hx2);have F3:=h! (F2.out.subs HBP.out HST.out.bp (ho2.low (B':=w.heap.size+4) FF.out.size));have HSU:=h! HSU0.out;have hbf:=F2.out.nd.box.cells;have hbz:=F2.out.nd.box.free;have hrr:=F3.out.br.cells;clear HSB ho2 hx2 FF F2 HSU0;go_wp2_with fail
  clear hbf hbz hrr q1;obtain⟨wl,hwl⟩:∃ x,x=w2.setCell ⟨w.heap.size+3,4,none⟩ (.slice so sn sc):=⟨_,rfl⟩;obtain⟨H,hH⟩:∃ H,H=headE T (treeE ts T shut d) ⟨pt,pi,pr⟩ k ra rb:=⟨_,rfl⟩
  have GU:=h! (show ∃ (lo:Nat) (q0:List (NT × NV2)) (qv0:Value) (L1 e1:Int),RuAt w0 w wl bp lo tv (bkV b) (.map (some ash)) k ⟨pt,pi,pr⟩ #[.int .i64 k,.string ra,.string rb,.slice ao parts.length c] H (L-1) sb q0 (.slice so sn sc) qv0 L1 e1 from by
   have h1:H=[]:=by rw[hH];unfold headE;rw[if_neg (by rw[HK.out];decide),if_neg (by rw[HK.out];decide)]
   rw[hwl,h1];exact⟨_,_,_,_,_,F3.out⟩)
  rw[<- hwl];have HH:=h! hH;clear F3 hwl hH
 case' inr.inl =>
  have q1:(k == 1)=false:=by rw[HK.out];rfl
  have q2:(k == 2)=true:=by rw[HK.out];rfl
  have HPT:=h! (HPL.out ⟨pt,pi,ra⟩ (L-1) wf ⟨HPO.out.1,HPO.out.2.1,by have:=HROK.out.2.1;show ra.size<=maxLen;unfold maxLen;omega⟩ FF.out.ext FF.out.bd (by have:=HLP.out;omega) (by have:=HL1.out;omega));generalize hte:treeE ts T shut d ⟨pt,pi,ra⟩=te2 at HPT;have HTE2:=h! hte;have hpp:=FF.out.bx.cells;have hrr:=FF.out.br.cells;have hdw:=HDW.out;have hdw2:=HDW2.out;unfold pV at HPT;dsimp only at HPT;clear hte;go_wp2_with fail
  clear hpp hrr hdw hdw2;refine HPT.out.mono ?_;rintro e w2 ⟨nt,v2,L2,e2,rfl,hnt,hbd2,hk2,hE2⟩;have HAD:=h! (addN_any (w.heap.size+3) (w.heap.size+4) wf.heap.size k ⟨pt,pi,pr⟩ [] [] (.slice none 0 0) (.slice none 0 0) nt v2 w2 (FF.out.mid HBP.out hk2) hnt (by have:=FF.out.size;omega) (fun g hg=>by have:=(FF.out.nd.parts.row.block g hg).2;omega) (by have:=FF.out.low;omega) (Nat.le_trans FF.out.size hk2.size) (by simp));unfold nV2 at *;have HK2:=h! hk2;have HB2:=h! hbd2;have HE2:=h! hE2;clear hnt hbd2 hk2 hE2 HPT;go_wp2_with fail
  refine HAD.out.mono ?_;rintro e w3 ⟨rfl,qv3,hnd3,-,hk3⟩;have SU:=h! (FF.out.step HBP.out HST.out.bp HK2.out HB2.out HE2.out hnd3 hk3);have hrr:=SU.out.br.cells;clear hnd3 hk3 HAD FF HK2 HB2 HE2;go_wp2_with fail
  clear hrr q1 q2;obtain⟨so,sn,sc,hs⟩:∃ (so:Option Addr) (sn sc:Nat),Value.slice so sn sc = .slice none 0 0:=⟨_,_,_,rfl⟩;obtain⟨sb,hsb⟩:∃ sb:List P3,sb=[]:=⟨_,rfl⟩;have HSU:=h! (show(if k=1 then subsOf T ⟨pt,pi,pr⟩else [])=sb from by rw[if_neg (by rw[HK.out];decide),hsb]);rw[<- hs,<- hsb]at SU;clear hs hsb;obtain⟨wl,hwl⟩:∃ x,x=w3:=⟨_,rfl⟩;obtain⟨H,hH⟩:∃ H,H=headE T (treeE ts T shut d) ⟨pt,pi,pr⟩ k ra rb:=⟨_,rfl⟩
  have GU:=h! (show ∃ (lo:Nat) (q0:List (NT × NV2)) (qv0:Value) (L1 e1:Int),RuAt w0 w wl bp lo tv (bkV b) (.map (some ash)) k ⟨pt,pi,pr⟩ #[.int .i64 k,.string ra,.string rb,.slice ao parts.length c] H (L-1) sb q0 (.slice so sn sc) qv0 L1 e1 from by
   have h1:H=[]++[te2]:=by rw[hH];unfold headE;rw[if_pos HK.out,HTE2.out];rfl
   rw[hwl,h1];exact⟨_,_,_,_,_,SU.out⟩)
  rw[<- hwl];have HH:=h! hH;clear SU hwl hH
 case' inr.inr.inl =>
  have q1:(k == 1)=false:=by rw[HK.out];rfl
  have q2:(k == 2)=false:=by rw[HK.out];rfl
  have q3:(k == 3)=true:=by rw[HK.out];rfl
  have HZF:=h! (show w.heap.size+4<=wf.heap.size from FF.out.size);have FM:=h! ((FF.out.up (Ext.alloc wf (.map #[] 0))).raise (lo':=wf.heap.size+1) (by have:=FF.out.size;omega) (by simp));have MM:=h! (show Mp Tryz.prog 30 oV bV (wf.alloc (.map #[] 0)) wf.heap.size ([]:List (O2 × Bool))from Mp.made wf);have HSB:=h! (esubs_any bp b tv (.map (some ash)) (L-1) T ⟨pt,pi,ra⟩ (wf.alloc (.map #[] 0)) ⟨HPO.out.1,HPO.out.2.1,by have:=HROK.out.2.1;show ra.size<=maxLen;unfold maxLen;omega⟩ FM.out.bd (HST.out.bk.ext FM.out.ext) (by have:=HST.out.few;have:=subsOf_few T ⟨pt,pi,ra⟩;omega));have HSND:=h! (subsOf_nd HST.out.nd ⟨pt,pi,ra⟩);have HSLN:=h! (subsOf_few T ⟨pt,pi,ra⟩)
  have HSOK:=h! (show ∀ s∈subsOf T ⟨pt,pi,ra⟩,s.Ok from fun s hs=>by
   obtain⟨t,ht,-,rfl⟩:=subsOf_mem hs;exact HST.out.sub t ht)
  have HFEW:=h! HST.out.few;have hpp:=FM.out.bx.cells;have hrr:=FM.out.br.cells;have hmm:=@run_makeMap Tryz.prog;have hrc:=FF.out.br.cells;unfold pV at HSB;dsimp only at HSB;clear FF;go_wp2_with fail
  clear hpp hrr hmm hrc;refine HSB.out.mono ?_;rintro e w2 ⟨v2,rfl,ho2,hx2⟩;generalize hsv:subsOf T ⟨pt,pi,ra⟩=sv at *;have HSV:=h! hsv;obtain⟨vo,vn,vc,rfl,hvn,-,-⟩:=ho2.sl.len;rw[pcs_length]at hvn;obtain rfl:vn=sv.length:=by omega
  have F2:=h! (FM.out.up hx2);have M2:=h! (MM.out.below hx2);have OW2:=h! (show Own w2 (wf.heap.size+1) 33 3 (.slice vo sv.length vc) (pcs sv)from ho2.low (by simp));clear HSB ho2 hx2 FM MM hvn hsv;go_wp2_with fail
  go_loopw [60] (fun iv wr=>∃ (i:Nat) (q:List (NT × NV2)) (qv:Value) (L1 e1:Int) (dl:List (O2 × Bool)),i<=sv.length/\iv = .int .i64 i/\RuAt w0 w wr bp (wf.heap.size+1) tv (bkV b) (.map (some ash)) k ⟨pt,pi,pr⟩ #[.int .i64 k,.string ra,.string rb,.slice ao parts.length c] ((viaOf rb (sv.take i)).map (treeE ts T shut d)) (L-1) [] q (.slice none 0 0) qv L1 e1/\Own wr (wf.heap.size+1) 33 3 (.slice vo sv.length vc) (pcs sv)/\Mp Tryz.prog 30 oV bV wr wf.heap.size dl/\(e1=0->dl=doneL (sv.take i))) (fun iv _=>sv.length-(intOf iv).toNat)
  case atStart=>exact⟨0,[],.slice none 0 0,L-1,0,[],Nat.zero_le _,rfl,F2.out,OW2.out,M2.out,fun _=>rfl⟩
  case' round =>
   obtain⟨i,q,qv,L1,e1,dl,hi,rfl,hru,hov,hmp,hdl⟩:=hrel;have RU:=h! hru;have RO:=h! hov;have RM:=h! hmp;have RD:=h! hdl;clear F2 M2 OW2 hru hov hmp hdl;by_cases hlt:i<sv.length
   ·obtain⟨ao',c',he',-,-,hcell⟩:=Sl.rows pC_length (by decide) (show Sl _ wr 3 (.slice vo sv.length vc) (sv.flatMap pC)from RO.out.sl);cases he';obtain⟨bq,oq,rfl,-,hcell⟩:=hcell (by omega);have hck:=hcell i hlt
    have HTV:=h! (show(viaOf rb (sv.take (i+1))).map (treeE ts T shut d)=if sv[i].r=⟨#[]⟩then(viaOf rb (sv.take i)).map (treeE ts T shut d)++[treeE ts T shut d ⟨sv[i].t,sv[i].i,rb⟩]else(viaOf rb (sv.take i)).map (treeE ts T shut d)from by
     rw[List.take_succ_eq_append_getElem hlt,viaOf_snoc];by_cases h:sv[i].r=⟨#[]⟩
     ·rw[if_pos h,if_pos h,List.map_append];rfl
     ·rw[if_neg h,if_neg h])
    have HTD:=h! (show doneL (sv.take (i+1))=if sv[i].r=⟨#[]⟩then doneL (sv.take i)++[(sv[i].obj,true)]else doneL (sv.take i)from by rw[List.take_succ_eq_append_getElem hlt,doneL_snoc]);have HNW:=h! (nodup_take HSND.out hlt);have HOI:=h! (HSOK.out sv[i] (List.getElem_mem hlt));generalize sv[i]=s at *;have HLTI:=h! hlt;have HWI:=h! (show wrap64 ((i:Int)+1)=((i+1:Nat):Int)from by have:=HSLN.out;have:=HFEW.out;unfold wrap64;omega);generalize (viaOf rb (sv.take i)).map (treeE ts T shut d)=A at *;obtain⟨st,si,sr⟩:=s;dsimp only at HTV HTD;have d0:wr.cell? ⟨bq,oq+i*3,none⟩=some (.string st):=hck 0 _ rfl;have d1:wr.cell? ⟨bq,oq+i*3+1,none⟩=some (.string si):=hck 1 _ rfl;have d2:wr.cell? ⟨bq,oq+i*3+2,none⟩=some (.string sr):=hck 2 _ rfl;have hli:(i:Int)<(sv.length:Int):=by omega
    have hx1:=Ext.alloc wr (.cells #[.string st,.string si,.string sr] 33);have XU:=h! (RU.out.up hx1);have XO:=h! (RO.out.below hx1);have XM:=h! (RM.out.below hx1);have XB:=h! (show Blk (wr.alloc (.cells #[.string st,.string si,.string sr] 33)) wr.heap.size #[.string st,.string si,.string sr] 33 from Blk.made _ _ _);have XS:=h! (show(wr.alloc (.cells #[.string st,.string si,.string sr] 33)).heap.size=wr.heap.size+1 from by simp);have hb:=XU.out.bd.cells;have hs:=XB.out.cells;unfold BdC at hb;have hse:=isEmpty_ba sr;clear hlt hi hck hcell hx1 RU RO RM;by_cases he:sr=⟨#[]⟩
    rotate_left
    ·rw[decide_eq_false he]at hse;rw[if_neg he]at HTV HTD;clear he;go_wp2_with fail
     clear hb hs d0 d1 d2 hse;go_roundw
     case rel=>exact⟨i+1,q,qv,L1,e1,dl,HLTI.out,by first | rw[HWI.out] | go_num,by rw[HTV.out];exact XU.out,XO.out,XM.out,fun h=>by rw[HTD.out];exact RD.out h⟩
     case measure=>have:=HLTI.out;(try rw[HWI.out]);simp[intOf];omega
    subst he;rw[if_pos rfl]at HTV HTD;rw[decide_eq_true rfl]at hse;obtain⟨x,hlk,hx⟩:=look_done XM.out st si HOI.out.1 HOI.out.2.1;rcases XU.out.fin.one with he | he
    rotate_left
    ·subst he;have HX:=h! hx;clear hx;cases x with
     | false =>
      go_wp2_with fail
      clear hb hs d0 d1 d2 hse hlk;go_roundw
      case rel=>exact⟨i+1,q,qv,L1,10,dl,HLTI.out,by first | rw[HWI.out] | go_num,by rw[HTV.out];exact⟨XU.out.nd,XU.out.bx,XU.out.br,XU.out.bo,XU.out.bd,XU.out.ext,XU.out.kept,XU.out.low,XU.out.size,XU.out.fin.more _⟩,XO.out,XM.out,fun h=>by omega⟩
      case measure=>have:=HLTI.out;(try rw[HWI.out]);simp[intOf];omega
     | true =>
      go_wp2_with fail
      clear hb hs d0 d1 d2 hse hlk;go_roundw
      case rel=>exact⟨i+1,q,qv,L1,10,dl,HLTI.out,by first | rw[HWI.out] | go_num,by rw[HTV.out];exact⟨XU.out.nd,XU.out.bx,XU.out.br,XU.out.bo,XU.out.bd,XU.out.ext,XU.out.kept,XU.out.low,XU.out.size,XU.out.fin.more _⟩,XO.out,XM.out,fun h=>by omega⟩
      case measure=>have:=HLTI.out;(try rw[HWI.out]);simp[intOf];omega
    subst he;obtain rfl:=hx (by rw[RD.out rfl];exact done_new HNW.out rfl);obtain⟨w5,hrun,hM5,hT5⟩:=XM.out.store objK (fun _ _=>oV_inj _ _) Tryz.underlying157 (obj_key ⟨st,si⟩ ⟨HOI.out.1,HOI.out.2.1⟩) true;have YU:=h! (XU.out.turned HBP.out HST.out.bp hT5.kept HZF.out (Nat.lt_succ_self _));have YO:=h! (XO.out.keepOwn (w':=w5) fun g hg=>hT5.kept.block g (by have:=(XO.out.block g hg).1;omega))
    have YM:=h! (show Mp Tryz.prog 30 oV bV w5 wf.heap.size (doneL (sv.take (i+1)))from by
     rw[HTD.out,<- RD.out rfl];rw[put_miss (by rw[RD.out rfl];exact done_new HNW.out rfl)]at hM5;exact hM5)
    have YB:=h! (show Blk w5 wr.heap.size #[.string st,.string si,.string ⟨#[]⟩] 33 from(hT5.kept.block _ (by have:=XU.out.size;have:=XS.out;omega)).trans XB.out);have YS:=h! (show w5.heap.size=wr.heap.size+1 from hT5.size.trans XS.out);have HZ:=h! YU.out.fin.zero;have HPT:=h! (HPL.out ⟨st,si,rb⟩ L1 w5 ⟨HOI.out.1,HOI.out.2.1,by have:=HROK.out.2.2.1;show rb.size<=maxLen;unfold maxLen;omega⟩ YU.out.ext YU.out.bd (by have:=HZ.out.2.1;have:=HZ.out.2.2;omega) (by have:=HZ.out.2.1;have:=HL1.out;omega));generalize treeE ts T shut d ⟨st,si,rb⟩=te2 at *;have ys:=YB.out.cells;have yr:=YU.out.br.cells;have hdw:=HDW.out;have hdw2:=HDW2.out;unfold pV at HPT;unfold oV bV at hrun;dsimp only at HPT hrun;clear hM5 hT5 XO XM XB XU;go_wp2_with fail
    clear ys yr hdw hdw2 hrun hb hs d0 d1 d2 hse hlk;refine HPT.out.mono ?_;rintro e w2 ⟨nt,v2,L2,e2,rfl,hnt,hbd2,hk2,hE2⟩
    have HAD:=h! (addN_any (w.heap.size+3) (wf.heap.size+1) w5.heap.size k ⟨pt,pi,pr⟩ [] q (.slice none 0 0) qv nt v2 w2 (YU.out.mid HBP.out hk2) hnt (by have:=YU.out.size;omega) (fun g hg=>by have:=(YU.out.nd.parts.row.block g hg).2;omega) (by have:=YU.out.low;omega) (Nat.le_trans YU.out.size hk2.size) (by
     have h1:=HZ.out.2.2;have h2:=nszL_many A;rw[<- HZ.out.1,List.length_map]at h2;have h3:=HL1.out;rw[HZ.out.1]at h2;omega))
    unfold nV2 at *;have HK2:=h! hk2;have HB2:=h! hbd2;have HE2:=h! hE2;clear hnt hbd2 hk2 hE2 HPT;go_wp2_with fail
    refine HAD.out.mono ?_;rintro e w3 ⟨rfl,qv3,hnd3,-,hk3⟩;have SU:=h! (YU.out.step HBP.out HST.out.bp HK2.out HB2.out HE2.out hnd3 hk3);have SO:=h! (YO.out.keepOwn (w':=w3) fun g hg=>YU.out.stays HBP.out HK2.out hk3 (by have:=(YO.out.block g hg).1;have:=HZF.out;omega) (YO.out.block g hg).2 (YO.out.apart YU.out.nd.parts.row (by decide) hg));have SM:=h! (YM.out.same (w':=w3) (YU.out.stays HBP.out HK2.out hk3 HZF.out YM.out.lt (YU.out.nd.parts.row.notMap YM.out.notCells _ · rfl)));clear hnd3 hk3 HAD YU YO YM YB HK2 HB2 HE2;go_wp2_with fail
    go_roundw
    case rel=>exact⟨i+1,_,qv3,L2,e2,_,HLTI.out,by first | rw[HWI.out] | go_num,by rw[HTV.out];exact SU.out,SO.out,SM.out,fun _=>rfl⟩
    case measure=>have:=HLTI.out;(try rw[HWI.out]);simp[intOf];omega
   obtain rfl:i=sv.length:=by omega
   have HTA:=h! (show sv.take sv.length=sv from List.take_length);rw[HTA.out]at RU;have hrr:=RU.out.br.cells;clear hlt hi RO RM RD;go_wp2_with fail
   clear hrr q1 q2 q3;obtain⟨so,sn,sc,hs⟩:∃ (so:Option Addr) (sn sc:Nat),Value.slice so sn sc = .slice none 0 0:=⟨_,_,_,rfl⟩;obtain⟨sb,hsb⟩:∃ sb:List P3,sb=[]:=⟨_,rfl⟩;have HSU:=h! (show(if k=1 then subsOf T ⟨pt,pi,pr⟩else [])=sb from by rw[if_neg (by rw[HK.out];decide),hsb]);rw[<- hs,<- hsb]at RU;clear hs hsb;obtain⟨wl,hwl⟩:∃ x,x=wr:=⟨_,rfl⟩;obtain⟨H,hH⟩:∃ H,H=headE T (treeE ts T shut d) ⟨pt,pi,pr⟩ k ra rb:=⟨_,rfl⟩
   have GU:=h! (show ∃ (lo:Nat) (q0:List (NT × NV2)) (qv0:Value) (L1 e1:Int),RuAt w0 w wl bp lo tv (bkV b) (.map (some ash)) k ⟨pt,pi,pr⟩ #[.int .i64 k,.string ra,.string rb,.slice ao parts.length c] H (L-1) sb q0 (.slice so sn sc) qv0 L1 e1 from by
    have h1:H=(viaOf rb sv).map (treeE ts T shut d):=by rw[hH];unfold headE;rw[if_neg (by rw[HK.out];decide),if_pos HK.out,HSV.out]
    rw[hwl,h1];exact⟨_,_,_,_,_,RU.out⟩)
   rw[<- hwl];have HH:=h! hH;clear RU hwl hH;clear HSND HSLN HSOK HFEW HZF HTA HSV
 case' inr.inr.inr =>
  have q1:(k == 1)=false:=by rw[beq_eq_false_iff_ne];exact HK.out.1
  have q2:(k == 2)=false:=by rw[beq_eq_false_iff_ne];exact HK.out.2.1
  have q3:(k == 3)=false:=by rw[beq_eq_false_iff_ne];exact HK.out.2.2
  have hrc:=FF.out.br.cells;go_wp2_with fail
  clear hrc q1 q2 q3;obtain⟨wl,hwl⟩:∃ x,x=wf:=⟨_,rfl⟩;obtain⟨so,sn,sc,hs⟩:∃ (so:Option Addr) (sn sc:Nat),Value.slice so sn sc = .slice none 0 0:=⟨_,_,_,rfl⟩;obtain⟨sb,hsb⟩:∃ sb:List P3,sb=[]:=⟨_,rfl⟩;obtain⟨q0,qv0,L1,e1,rfl,rfl,rfl,rfl⟩:∃ (q0:List (NT × NV2)) (qv0:Value) (L1 e1:Int),q0=[]/\qv0 = .slice none 0 0/\L1=L-1/\e1=0:=⟨_,_,_,_,rfl,rfl,rfl,rfl⟩;have HSU:=h! (show(if k=1 then subsOf T ⟨pt,pi,pr⟩else [])=sb from by rw[if_neg HK.out.1,hsb]);obtain⟨H,hH⟩:∃ H,H=headE T (treeE ts T shut d) ⟨pt,pi,pr⟩ k ra rb:=⟨_,rfl⟩
  have GU:=h! (show ∃ (lo:Nat) (q0:List (NT × NV2)) (qv0:Value) (L1 e1:Int),RuAt w0 w wl bp lo tv (bkV b) (.map (some ash)) k ⟨pt,pi,pr⟩ #[.int .i64 k,.string ra,.string rb,.slice ao parts.length c] H (L-1) sb q0 (.slice so sn sc) qv0 L1 e1 from by
   have h1:H=[]:=by rw[hH];unfold headE;rw[if_neg HK.out.2.1,if_neg HK.out.2.2]
   rw[hwl,hs,hsb,h1];exact⟨_,_,_,_,_,FF.out⟩)
  rw[<- hwl];have HH:=h! hH;clear FF hwl hs hsb hH
 all_goals
  obtain⟨lo,q0,qv0,L10,e10,hgu⟩:=GU.out;have GV:=h! hgu;have HPC:=h! (show parts.length<=9223372036854775807 from Nat.le_trans hlc hcm);clear hgu GU hlc hcm hmf;go_loopw [99] (fun iv wr=>∃ (i:Nat) (q:List (NT × NV2)) (qv:Value) (L1 e1:Int),i<=parts.length/\iv = .int .i64 i/\RuAt w0 w wr bp lo tv (bkV b) (.map (some ash)) k ⟨pt,pi,pr⟩ #[.int .i64 k,.string ra,.string rb,.slice ao parts.length c] (H++(parts.take i).map (ruleE T (treeE ts T shut d) ⟨pt,pi,pr⟩)) (L-1) sb q (.slice so sn sc) qv L1 e1) (fun iv _=>parts.length-(intOf iv).toNat)
  case atStart=>exact⟨0,q0,qv0,L10,e10,Nat.zero_le _,rfl,by rw[List.take_zero,List.map_nil,List.append_nil];exact GV.out⟩
  case round =>
   obtain⟨i,q,qv,L1,e1,hi,rfl,hru⟩:=hrel;have RU:=h! hru;clear GV hru;by_cases hlt:i<parts.length
   ·obtain⟨ao',c',he',-,-,hcell⟩:=(HRT.out.same (w':=wr) fun x hx=>RU.out.ext.block x hx).rows;cases he';obtain⟨bq,oq,pq,rfl,hbq,d0,d1,d2,d3,hpat⟩:=hcell i hlt;dsimp only[RT.ps]at d0 d1 d2 d3 hpat;have HLTI:=h! hlt;have HWI:=h! (show wrap64 ((i:Int)+1)=((i+1:Nat):Int)from by have:=HPC.out;unfold wrap64;omega);have HTK:=h! (show(parts.take (i+1)).map (ruleE T (treeE ts T shut d) ⟨pt,pi,pr⟩)=(parts.take i).map (ruleE T (treeE ts T shut d) ⟨pt,pi,pr⟩)++[ruleE T (treeE ts T shut d) ⟨pt,pi,pr⟩ parts[i]]from by rw[List.take_succ_eq_append_getElem hlt,List.map_append];rfl);have HII:=h! (HIH.out parts[i] (List.getElem_mem hlt));have HOI:=h! (HROK.out.2.2.2 parts[i] (List.getElem_mem hlt));have HPA:=h! (show RTAt (· < w0.heap.size) w0 parts[i] pq from hpat.same fun x hx=>(RU.out.ext.block x hx).symm);generalize parts[i]=x at *;obtain⟨xo,xc,rfl,-⟩:=hpat.rows;generalize (parts.take i).map (ruleE T (treeE ts T shut d) ⟨pt,pi,pr⟩)=A at *;have hli:(i:Int)<(parts.length:Int):=by omega
    have XU:=h! (RU.out.up (Ext.alloc wr (.cells #[.int .i64 x.k,.string x.a,.string x.b,.slice xo x.ps.length xc] 106)));have XB:=h! (show Blk (wr.alloc (.cells #[.int .i64 x.k,.string x.a,.string x.b,.slice xo x.ps.length xc] 106)) wr.heap.size #[.int .i64 x.k,.string x.a,.string x.b,.slice xo x.ps.length xc] 106 from Blk.made _ _ _);have XS:=h! (show(wr.alloc (.cells #[.int .i64 x.k,.string x.a,.string x.b,.slice xo x.ps.length xc] 106)).heap.size=wr.heap.size+1 from by simp);have hb:=XU.out.bd.cells;have hp:=XU.out.bx.cells;unfold BdC at hb;clear hlt hi hbq hpat hcell RU;rcases XU.out.fin.one with he | he
    ·subst he;have HZ:=h! XU.out.fin.zero;have HRC:=h! (HII.out (.slice xo x.ps.length xc) L1 _ HOI.out HPA.out XU.out.ext XU.out.bd (by have:=HZ.out.2.1;have:=HZ.out.2.2;omega) (by have:=HZ.out.2.1;have:=HL1.out;omega));unfold pV rV at HRC;dsimp only at HRC;clear HII HOI HPA;go_wp2_with fail
     clear hb hp d0 d1 d2 d3;refine HRC.out.mono ?_;rintro e w2 ⟨nt,v2,L2,e2,rfl,hnt,hbd2,hk2,hE2⟩
     have HAD:=h! (addN_any (w.heap.size+3) lo (wr.heap.size+1) k ⟨pt,pi,pr⟩ sb q (.slice so sn sc) qv nt v2 w2 (XU.out.mid HBP.out hk2) (by rw[<- XS.out];exact hnt) (by have:=XU.out.size;have:=XS.out;omega) (fun g hg=>by have:=(XU.out.nd.parts.row.block g hg).2;have:=XS.out;omega) (by have:=XU.out.low;omega) (Nat.le_trans XU.out.size hk2.size) (by
      have h1:=HZ.out.2.2;have h2:=nszL_many (H++A);rw[<- HZ.out.1,List.length_map]at h2;have h3:=HL1.out;rw[HZ.out.1]at h2;omega))
     unfold nV2 at *;have HK2:=h! hk2;have HB2:=h! hbd2;have HE2:=h! hE2;clear hnt hbd2 hk2 hE2 HRC XB;go_wp2_with fail
     refine HAD.out.mono ?_;rintro e w3 ⟨rfl,qv3,hnd3,-,hk3⟩;have SU:=h! (XU.out.step HBP.out HST.out.bp HK2.out HB2.out HE2.out hnd3 hk3);clear hnd3 hk3 HAD XU HK2 HB2 HE2;go_wp2_with fail
     go_roundw
     case rel=>exact⟨i+1,_,qv3,L2,e2,HLTI.out,by first | rw[HWI.out] | go_num,by rw[HTK.out,<- List.append_assoc];exact SU.out⟩
     case measure=>have:=HLTI.out;(try rw[HWI.out]);simp[intOf];omega
    ·subst he;have SU:=h! (XU.out);clear HII HOI HPA XU XB;go_wp2_with fail
     clear hb hp d0 d1 d2 d3;go_roundw
     case rel=>exact⟨i+1,q,qv,L1,10,HLTI.out,by first | rw[HWI.out] | go_num,by
      rw[HTK.out,<- List.append_assoc];exact⟨SU.out.nd,SU.out.bx,SU.out.br,SU.out.bo,SU.out.bd,SU.out.ext,SU.out.kept,SU.out.low,SU.out.size,SU.out.fin.more _⟩⟩
     case measure=>have:=HLTI.out;(try rw[HWI.out]);simp[intOf];omega
   ·obtain rfl:i=parts.length:=by omega
    have HTA:=h! (show parts.take parts.length=parts from List.take_length);rw[HTA.out]at RU
    have HE:=h! (show EndE te L (.mk k ⟨pt,pi,pr⟩ sb (q.map (·.1))) L1 e1 from by
     rw[HTE.out,HSU.out,<- HH.out];exact RU.out.fin.node)
    clear hlt hi;obtain⟨qo,qn,qc,rfl,-,-,-⟩:=RU.out.nd.parts.row.sl.len;have hc3:=RU.out.nd.box.cells;have hc2:=RU.out.bo.cells;have hz2:=RU.out.bo.free;go_wp2_with fail
    clear hc3 hc2 hz2;refine bodyPost_ret (results_cell_row rfl _ _ (w.heap.size+2) 45 _ (0,0) _ rfl (RU.out.bo.setN6 _ _ _ _ _ _) Tryz.underlying45 rfl (by kernel_rfl)) rfl ?_;exact RU.out.done HBP.out HE.out _ _ _ _ _ _
end Go.Proofs.YtlhaghoajpglaaaGreat
namespace Go.Proofs.YtlhaghoajpglaaaGreat
open Go Go.RowKit
def J4 {α0 α1 α2 α3:Type} (F:α0->α1->α2->α3->World->Prop)(A:α0->α1->α2->α3->Act)(e:Exit)(a:Act)(W:World):Prop:=e = .normal/\∃ (x0:α0)(x1:α1)(x2:α2)(x3:α3),a=A x0 x1 x2 x3/\F x0 x1 x2 x3 W
def J5 {α0 α1 α2 α3 α4:Type} (F:α0->α1->α2->α3->α4->World->Prop)(A:α0->α1->α2->α3->α4->Act)(e:Exit)(a:Act)(W:World):Prop:=e = .normal/\∃ (x0:α0)(x1:α1)(x2:α2)(x3:α3)(x4:α4),a=A x0 x1 x2 x3 x4/\F x0 x1 x2 x3 x4 W
def J7 {α0 α1 α2 α3 α4 α5 α6:Type} (F:α0->α1->α2->α3->α4->α5->α6->World->Prop)(A:α0->α1->α2->α3->α4->α5->α6->Act)(e:Exit)(a:Act)(W:World):Prop:=e = .normal/\∃ (x0:α0)(x1:α1)(x2:α2)(x3:α3)(x4:α4)(x5:α5)(x6:α6),a=A x0 x1 x2 x3 x4 x5 x6/\F x0 x1 x2 x3 x4 x5 x6 W
end Go.Proofs.YtlhaghoajpglaaaGreat
namespace Go.Proofs.YtlhaghoajpglaaaGreat
open Go Go.RowKit Go.Maps
theorem nt_leaf (S:Nat->Prop)(w:World)(k:Int)(p:P3):NtAt S w (.mk k p [] []) (.slice none 0 0,.slice none 0 0):=(NtAt.iff _ _).2 ⟨Sl.nil _ _ _,[],rfl,(fun x hx=>by cases hx),Sl.nil _ _ _⟩
section
variable {bp x : Nat} {tv fi sm : Value} {t : NT} {L L' e' : Int} {w w1 w2 : World}
theorem leaf_said {k:Int} {p:P3} (hb:Blk w2 bp (BdC tv fi sm L' e') 143)(hk:Kept (fun b=>b<w.heap.size/\b≠bp) w w2)(hx:w.heap.size<=x)(hbp:bp<w.heap.size)(hE:EndE t L (.mk k p [] []) L' e')(x0 x1 x2 x3 x4 x5:Value) :
  TreeSaid bp tv fi sm t L w (.returned (.agg #[.int .i64 k,.string p.t,.string p.i,.string p.r,.slice none 0 0,.slice none 0 0])) ((((((w2.setCell ⟨x,0,none⟩ x0).setCell ⟨x,1,none⟩ x1).setCell ⟨x,2,none⟩ x2).setCell ⟨x,3,none⟩ x3).setCell ⟨x,4,none⟩ x4).setCell ⟨x,5,none⟩ x5):=by
 have hn:¬ ((fun b=>b<w.heap.size/\b≠bp) x):=fun h=>by have:=h.1;omega
 exact⟨_,_,L',e',rfl,nt_leaf _ _ k p,(put6_other _ _ _ _ _ _ (by omega)).trans hb,(((((hk.set (a:=⟨x,0,none⟩) hn x0).set (a:=⟨x,1,none⟩) hn x1).set (a:=⟨x,2,none⟩) hn x2).set (a:=⟨x,3,none⟩) hn x3).set (a:=⟨x,4,none⟩) hn x4).set (a:=⟨x,5,none⟩) hn x5,hE⟩
theorem box_said {nt:NT} {v2:NV2} (ha:NtAt (NS w1.heap.size w2) w2 nt v2)(hb:Blk w2 bp (BdC tv fi sm L' e') 143)(hk2:Kept (fun b=>b<w1.heap.size/\b≠bp) w1 w2)(hE:EndE t L nt L' e')(hk:Kept (fun b=>b<w.heap.size/\b≠bp) w w1)(hx:w.heap.size<=x)(hx1:x<w1.heap.size)(hbp:bp<w.heap.size)(x0 x1 x2 x3 x4 x5:Value) :
  TreeSaid bp tv fi sm t L w (.returned (nV2 nt v2)) ((((((w2.setCell ⟨x,0,none⟩ x0).setCell ⟨x,1,none⟩ x1).setCell ⟨x,2,none⟩ x2).setCell ⟨x,3,none⟩ x3).setCell ⟨x,4,none⟩ x4).setCell ⟨x,5,none⟩ x5):=by
 have hn:¬ ((fun b=>b<w.heap.size/\b≠bp) x):=fun h=>by have:=h.1;omega
 refine⟨nt,v2,L',e',rfl,?_,(put6_other _ _ _ _ _ _ (by omega)).trans hb,((((((hk.trans (hk2.mono fun b hb=>⟨Nat.lt_of_lt_of_le hb.1 hk.size,hb.2⟩)).set (a:=⟨x,0,none⟩) hn x0).set (a:=⟨x,1,none⟩) hn x1).set (a:=⟨x,2,none⟩) hn x2).set (a:=⟨x,3,none⟩) hn x3).set (a:=⟨x,4,none⟩) hn x4).set (a:=⟨x,5,none⟩) hn x5,hE⟩;exact(ha.same fun b hb=>put6_other _ _ _ _ _ _ (by have:=hb.1;omega)).mono fun b hb=>hb.keep (put6_other _ _ _ _ _ _ (by have:=hb.1;omega)) hk.size (by simp)
end
theorem ruleOf_look {ts:List TyS} {shut:List R2} {p:P3} {r:RT} (h:lookA (refsOf ts) ⟨p.t,p.r⟩=some r)(hs:(⟨p.t,p.r⟩:R2)∉shut):ruleOf ts shut p=some r:=by unfold ruleOf;rw[if_neg hs,h]
theorem ruleOf_not {ts:List TyS} {shut:List R2} {p:P3} (h:lookA (refsOf ts) ⟨p.t,p.r⟩=none):ruleOf ts shut p=none:=by unfold ruleOf;split <;> first | rfl | exact h
theorem ruleOf_shut {ts:List TyS} {shut:List R2} {p:P3} (hs:(⟨p.t,p.r⟩:R2)∈shut):ruleOf ts shut p=none:=by unfold ruleOf;rw[if_pos hs]
theorem point_step (w0:World)(bp b ash:Nat)(ts:List TyS)(tv:Value)(T:List Tup)(shut:List R2)(HS:BdSt w0 bp b ash ts tv T shut)(hrs:∀ x∈refsOf ts,x.2.Ok)(d:Nat)(hd:d<=1000)(te:P3->NT)(hte:(d=0/\∀ p,te p = .mk 0 p [] [])\/(∃ d',d=d'+1/\PointLaw w0 bp b ash ts tv T shut d'/\∀ p,te p=treeE ts T shut d p))
  (p:P3) (L:Int) (w:World) (hp:p.Ok) (hx:Ext w0 w) (hbd:Blk w bp (BdC tv (bkV b) (.map (some ash)) L 0) 143) (h0:0<=L) (h1:L<=1000000) :
  Calls Tryz.prog 75 #[.pointer (some ⟨bp,0,none⟩),pV p,.int .i64 d] w (TreeSaid bp tv (bkV b) (.map (some ash)) (te p) L w):=by
 have HST:=h! HS;have HPO:=h! hp;have HX:=h! hx;have HBP:=h! (show bp<w.heap.size from hbd.lt);have HL0:=h! h0;have HL1:=h! h1;have HTE:=h! hte;have HRS:=h! hrs;have HD:=h! hd;obtain⟨pt,pi,pr⟩:=p;obtain⟨wa,hwa⟩:∃ x,x=w.alloc (.cells #[.string pt,.string pi,.string pr] 32):=⟨_,rfl⟩;obtain⟨we,hwe⟩:∃ x,x=wa.alloc (.cells #[.int .i64 0,.string ⟨#[]⟩,.string ⟨#[]⟩,.string ⟨#[]⟩,.slice none 0 0,.slice none 0 0] 45):=⟨_,rfl⟩;have ea:wa.heap.size=w.heap.size+1:=by rw[hwa];simp
 have ee:we.heap.size=w.heap.size+2:=by rw[hwe];simp[ea]
 have xa:Ext w wa:=by rw[hwa];exact Ext.alloc _ _
 have xe:Ext wa we:=by rw[hwe];exact Ext.alloc _ _
 have EXX:=h! (show Ext w we from xa.trans xe);have EP:=h! (show Blk we w.heap.size #[.string pt,.string pi,.string pr] 32 from Blk.below (by rw[hwa];exact Blk.made _ _ _) xe);have EO:=h! (show Blk we (w.heap.size+1) #[.int .i64 0,.string ⟨#[]⟩,.string ⟨#[]⟩,.string ⟨#[]⟩,.slice none 0 0,.slice none 0 0] 45 from by rw[hwe,<- ea];exact Blk.made _ _ _);have EB:=h! (hbd.below EXX.out);have EZ:=h! ee;clear HS hp hx hbd h0 h1 hte hrs hd ea ee xa xe;subst hwe hwa;unfold pV;dsimp only;go_enter Tryz.func75,Tryz.ntmps75
 go_wp2_with fail
 obtain⟨we,hwe⟩:∃ x,x=(w.alloc (.cells #[.string pt,.string pi,.string pr] 32)).alloc (.cells #[.int .i64 0,.string ⟨#[]⟩,.string ⟨#[]⟩,.string ⟨#[]⟩,.slice none 0 0,.slice none 0 0] 45):=⟨_,rfl⟩;rw[<- hwe]at EXX EP EO EB EZ ⊢;clear hwe;obtain⟨wd,hwd⟩:∃ wd,Hid (wd=we.drew):=⟨_,h! rfl⟩;have hxd:=h! (show Ext we wd from by rw[hwd.out];exact Ext.drew _);apply Code.wp_mono (Q:=J4 (fun(zr:RT) (zo:Option Addr) (zc:Nat) (bo:Nat) W=>wd.heap.size<=bo/\Ext wd W/\Blk W bo #[.int .i64 zr.k,.string zr.a,.string zr.b,.slice zo zr.ps.length zc] 106/\RTAt (· < w0.heap.size) W zr (.slice zo zr.ps.length zc)/\(∀ r,lookA (refsOf ts) ⟨pt,pr⟩=some r->zr=r)) _) ?rest1 ?reg1
 case reg1 =>
  refine region_walkN (Ext wd) (by rw[<- hwd.out];exact Ext.refl _) (by kernel_rfl) (by kernel_rfl) (fun _ _ d _ _ h=>by cases h.1) ?_;rw[<- hwd.out];have hs:∀ W,Ext wd W->∀ i,W.cell? ⟨bp,i,none⟩=(BdC tv (bkV b) (.map (some ash)) L 0)[i]?:=fun W h=>((EB.out.below hxd.out).below h).cells;have hp:∀ W,Ext wd W->∀ i,W.cell? ⟨w.heap.size,i,none⟩=(#[.string pt,.string pi,.string pr]:Array Value)[i]?:=fun W h=>((EP.out.below hxd.out).below h).cells;unfold BdC at hs;have HFD:=h! (fun W (hW:Ext wd W)=>findS_any (S:=(· < w0.heap.size)) ts tv pt pr W (fun y hy=>Nat.lt_of_lt_of_le hy (Ext.trans (Ext.trans (Ext.trans HX.out EXX.out) hxd.out) hW).size) (HST.out.ty.same fun y hy=>(Ext.trans (Ext.trans (Ext.trans HX.out EXX.out) hxd.out) hW).block y hy) HST.out.ok HST.out.un HST.out.ln HPO.out.1 HPO.out.2.2);(refine WalkN.tk [0,1,2,3,4,5,6,7,8] ?_;(iterate 9 (refine c! ?_));refine TkN.n ?_)
  clear hs hp;refine p! 9 13 ?_ ?_
  ·refine b! ?_;intro K hK;go_simp;refine(HFD.out wd (Ext.refl wd)).mono ?_;rintro e w5 ⟨⟨zr,zv⟩,rfl,hza,hz1,-,hx5⟩;have hza:RTAt (· < w0.heap.size) w5 zr zv:=hza;obtain⟨zo,zc,rfl,-⟩:=hza.rows;dsimp only at hz1;unfold rvV rV;dsimp only;have hX5:Ext wd w5:=Ext.trans (Ext.refl wd) hx5;refine hK.out _ _ hX5 ?_;clear hK;(refine WalkN.tk [10,11,12] ?_;(iterate 3 (refine c! ?_));refine TkN.n ?_)
   refine o! 13 ?_;refine b! ?_;intro K hK;go_simp;obtain⟨bo,hbo⟩:∃ x,x=w5.heap.size:=⟨_,rfl⟩;rw[<- hbo];have hA5:=Ext.alloc w5 (.cells #[.int .i64 0,.string ⟨#[]⟩,.string ⟨#[]⟩,.slice none 0 0] 106);have hO5:Blk (w5.alloc (.cells #[.int .i64 0,.string ⟨#[]⟩,.string ⟨#[]⟩,.slice none 0 0] 106)) bo #[.int .i64 0,.string ⟨#[]⟩,.string ⟨#[]⟩,.slice none 0 0] 106:=by rw[hbo];exact Blk.made _ _ _
   have hG5:wd.heap.size<=bo:=by rw[hbo];exact hX5.size
   have hX7:=Ext.trans hX5 hA5;have hZ5:=hza.same fun y hy=>hA5.block y (Nat.lt_of_lt_of_le hy (Ext.trans (Ext.trans (Ext.trans HX.out EXX.out) hxd.out) hX5).size);refine hK.out _ _ hX7 ?_;clear hK hbo hza;generalize w5.alloc (.cells #[.int .i64 0,.string ⟨#[]⟩,.string ⟨#[]⟩,.slice none 0 0] 106)=w7 at *;refine o! 14 ?_;refine b! ?_;intro K hK;have hbc:=hO5.cells;have hbf:=hO5.free;go_simp;clear hbc hbf;have hB6:=hO5.put4 (.int .i64 zr.k) (.string zr.a) (.string zr.b) (.slice zo zr.ps.length zc);have hX6:Ext wd ((((w7.setCell ⟨bo,0,none⟩ (.int .i64 zr.k)).setCell ⟨bo,1,none⟩ (.string zr.a)).setCell ⟨bo,2,none⟩ (.string zr.b)).setCell ⟨bo,3,none⟩ (.slice zo zr.ps.length zc)):=Below.setCell (Below.setCell (Below.setCell (Below.setCell hX7 (p:=⟨bo,0,none⟩) hG5 _) (p:=⟨bo,1,none⟩) hG5 _) (p:=⟨bo,2,none⟩) hG5 _) (p:=⟨bo,3,none⟩) hG5 _
   have hA6:=hZ5.same (w':=((((w7.setCell ⟨bo,0,none⟩ (.int .i64 zr.k)).setCell ⟨bo,1,none⟩ (.string zr.a)).setCell ⟨bo,2,none⟩ (.string zr.b)).setCell ⟨bo,3,none⟩ (.slice zo zr.ps.length zc))) fun y hy=>by
    have:=hG5;have:=(Ext.trans (Ext.trans HX.out EXX.out) hxd.out).size;rw[Below.heap_setCell _ _ _ y (by show y≠bo;omega),Below.heap_setCell _ _ _ y (by show y≠bo;omega),Below.heap_setCell _ _ _ y (by show y≠bo;omega),Below.heap_setCell _ _ _ y (by show y≠bo;omega)]
   refine hK.out _ _ hX6 ?_;clear hK;refine t! 15 ?_
   refine d! ?_;exact⟨rfl,zr,zo,zc,bo,rfl,hG5,hX6,hB6,hA6,hz1⟩
  ·refine b! ?_;intro K hK;go_simp;obtain⟨bo,hbo⟩:∃ x,x=wd.heap.size:=⟨_,rfl⟩;rw[<- hbo];have hA4:=Ext.alloc wd (.cells #[.int .i64 0,.string ⟨#[]⟩,.string ⟨#[]⟩,.slice none 0 0] 106);have hO4:Blk (wd.alloc (.cells #[.int .i64 0,.string ⟨#[]⟩,.string ⟨#[]⟩,.slice none 0 0] 106)) bo #[.int .i64 0,.string ⟨#[]⟩,.string ⟨#[]⟩,.slice none 0 0] 106:=by rw[hbo];exact Blk.made _ _ _
   have hG5:wd.heap.size<=bo:=by rw[hbo];exact Nat.le_refl _
   refine hK.out _ _ hA4 ?_;clear hK hbo;generalize wd.alloc (.cells #[.int .i64 0,.string ⟨#[]⟩,.string ⟨#[]⟩,.slice none 0 0] 106)=w4 at *;refine o! 9 ?_;refine b! ?_;intro K hK;go_simp;refine(HFD.out w4 hA4).mono ?_;rintro e w5 ⟨⟨zr,zv⟩,rfl,hza,hz1,-,hx5⟩;have hza:RTAt (· < w0.heap.size) w5 zr zv:=hza;obtain⟨zo,zc,rfl,-⟩:=hza.rows;dsimp only at hz1;unfold rvV rV;dsimp only;have hX5:Ext wd w5:=Ext.trans hA4 hx5;refine hK.out _ _ hX5 ?_;clear hK;(refine WalkN.tk [10,11,12] ?_;(iterate 3 (refine c! ?_));refine TkN.n ?_)
   have hO5:=hO4.below hx5;refine o! 14 ?_;refine b! ?_;intro K hK;have hbc:=hO5.cells;have hbf:=hO5.free;go_simp;clear hbc hbf;have hB6:=hO5.put4 (.int .i64 zr.k) (.string zr.a) (.string zr.b) (.slice zo zr.ps.length zc);have hX6:Ext wd ((((w5.setCell ⟨bo,0,none⟩ (.int .i64 zr.k)).setCell ⟨bo,1,none⟩ (.string zr.a)).setCell ⟨bo,2,none⟩ (.string zr.b)).setCell ⟨bo,3,none⟩ (.slice zo zr.ps.length zc)):=Below.setCell (Below.setCell (Below.setCell (Below.setCell hX5 (p:=⟨bo,0,none⟩) hG5 _) (p:=⟨bo,1,none⟩) hG5 _) (p:=⟨bo,2,none⟩) hG5 _) (p:=⟨bo,3,none⟩) hG5 _
   have hA6:=hza.same (w':=((((w5.setCell ⟨bo,0,none⟩ (.int .i64 zr.k)).setCell ⟨bo,1,none⟩ (.string zr.a)).setCell ⟨bo,2,none⟩ (.string zr.b)).setCell ⟨bo,3,none⟩ (.slice zo zr.ps.length zc))) fun y hy=>by
    have:=hG5;have:=(Ext.trans (Ext.trans HX.out EXX.out) hxd.out).size;rw[Below.heap_setCell _ _ _ y (by show y≠bo;omega),Below.heap_setCell _ _ _ y (by show y≠bo;omega),Below.heap_setCell _ _ _ y (by show y≠bo;omega),Below.heap_setCell _ _ _ y (by show y≠bo;omega)]
   refine hK.out _ _ hX6 ?_;clear hK;refine t! 15 ?_
   refine d! ?_;exact⟨rfl,zr,zo,zc,bo,rfl,hG5,hX6,hB6,hA6,hz1⟩
 rintro e _ W1 ⟨rfl,zr,zo,zc,bo,rfl,hbo,hX,hB,hA,hz1⟩;dsimp only at hB hA hz1 ⊢;have EX1:=h! (show Ext we W1 from Ext.trans hxd.out hX);have HZA:=h! hA;have HZ1:=h! hz1;have HBO:=h! hB;have HGE:=h! (show we.heap.size<=bo from Nat.le_trans hxd.out.size hbo);have HCT:=h! (count_any bp tv (bkV b) (.map (some ash)) L W1 (EB.out.below EX1.out) HL0.out HL1.out);clear hbo hX hB hA hz1 hxd hwd;rcases HTE.out with hte | ⟨d',hd',hP,hte⟩
 ·obtain⟨rfl,hte⟩:=hte;have HT0:=h! hte;clear hte HTE HZ1;go_wp2_with fail
  refine HCT.out.mono ?_;rintro e w2 ⟨rfl,hb2,hk2⟩;have P2:=h! (show Blk w2 w.heap.size _ _ from(hk2.block _ (by have:=HBP.out;omega)).trans (EP.out.below EX1.out));have O2':=h! (show Blk w2 (w.heap.size+1) _ _ from(hk2.block _ (by have:=HBP.out;omega)).trans (EO.out.below EX1.out));have K2:=h! (show Kept (fun b=>b<w.heap.size/\b≠bp) w w2 from(Below.kept (Ext.trans EXX.out EX1.out) fun b hb=>hb.1).trans (hk2.mono fun b hb=>hb.2));have B2:=h! hb2;have p2:=P2.out.cells;have o2:=O2'.out.cells;have f2:=O2'.out.free;clear hb2 hk2 HCT;go_wp2_with fail
  clear p2 o2 f2;refine bodyPost_ret (results_cell_row rfl _ _ (w.heap.size+1) 45 _ (0,0) _ rfl (O2'.out.setN6 _ _ _ _ _ _) Tryz.underlying45 rfl (by kernel_rfl)) rfl ?_;refine leaf_said (k:=0) (p:=⟨pt,pi,pr⟩) B2.out K2.out (by omega) HBP.out ?_ _ _ _ _ _ _;rw[HT0.out];have hL0:=HL0.out;have hsz:(NT.mk 0 ⟨pt,pi,pr⟩ [] []).sz=1:=by rw[NT.sz,nszL]
  unfold EndE;rw[hsz];exact⟨fun h=>⟨rfl,rfl,if_pos (by omega)⟩,fun h=>if_neg (by omega)⟩
 ·subst hd';have HPL:=h! hP;have HT1:=h! hte;have hdz:((d':Int)+1 == 0)=false:=by rw[beq_eq_false_iff_ne];omega
  clear hP hte HTE
  have tri:Hid (lookA (refsOf ts) ⟨pt,pr⟩=none)\/(∃ r,Hid (lookA (refsOf ts) ⟨pt,pr⟩=some r/\(⟨pt,pr⟩:R2)∈shut))\/(∃ r,Hid (lookA (refsOf ts) ⟨pt,pr⟩=some r/\¬ (⟨pt,pr⟩:R2)∈shut)):=by
   cases hL:lookA (refsOf ts) ⟨pt,pr⟩ with
   | none=>exact .inl rfl
   | some r =>
    by_cases hsh:(⟨pt,pr⟩:R2)∈shut
    ·exact .inr (.inl ⟨r,rfl,hsh⟩)
    ·exact .inr (.inr ⟨r,rfl,hsh⟩)
  clear HCT;rcases tri with hL | ⟨r,hL⟩ | ⟨r,hL⟩
  ·have EX0:=EX1;rw[hL.out];dsimp only[Option.isSome];go_wp2_with fail
   obtain⟨wd,hwd⟩:∃ wd,Hid (wd=W1.drew):=⟨_,h! rfl⟩;have hxd:=h! (show Ext W1 wd from by rw[hwd.out];exact Ext.drew _);have EX1:=h! (show Ext we wd from Ext.trans EX1.out hxd.out);have HBO:=h! (HBO.out.below hxd.out);have HX1:=h! (show Ext w0 wd from Ext.trans HX.out (Ext.trans EXX.out EX1.out));have HZA:=h! (HZA.out.same fun y hy=>hxd.out.block y (Nat.lt_of_lt_of_le hy (Ext.trans HX.out (Ext.trans EXX.out EX0.out)).size));refine r! (Ext wd) (by rw[<- hwd.out];exact Ext.refl _) ?_;rw[<- hwd.out];clear hwd hxd hdz;(refine WalkN.tk [0,1,2] ?_;(iterate 3 (refine c! ?_));refine TkN.n ?_)
   refine k! 3 ?_;refine k! 4 ?_;refine k! 5 ?_;refine k! 6 ?_;refine k! 7 ?_;refine k! 8 ?_;refine k! 9 ?_;refine k! 10 ?_;refine k! 11 ?_;refine k! 12 ?_;refine k! 13 ?_
   (refine WalkN.tk [14,15] ?_;(iterate 2 (refine c! ?_));refine TkN.n ?_)
   refine d! ?_;have HCT:=h! (count_any bp tv (bkV b) (.map (some ash)) L wd (EB.out.below EX1.out) HL0.out HL1.out);have HTT:=h! (show te ⟨pt,pi,pr⟩ = .mk 4 ⟨pt,pi,pr⟩ [] []from by rw[HT1.out,treeE,ruleOf_not hL.out]);go_wp2_with fail
   refine HCT.out.mono ?_;rintro e w2 ⟨rfl,hb2,hk2⟩;have P2:=h! (show Blk w2 w.heap.size _ _ from(hk2.block _ (by have:=HBP.out;omega)).trans (EP.out.below EX1.out));have O2':=h! (show Blk w2 (w.heap.size+1) _ _ from(hk2.block _ (by have:=HBP.out;omega)).trans (EO.out.below EX1.out));have K2:=h! (show Kept (fun b=>b<w.heap.size/\b≠bp) w w2 from(Below.kept (Ext.trans EXX.out EX1.out) fun b hb=>hb.1).trans (hk2.mono fun b hb=>hb.2));have B2:=h! hb2;have p2:=P2.out.cells;have o2:=O2'.out.cells;have f2:=O2'.out.free;clear hb2 hk2 HCT;go_wp2_with fail
   clear p2 o2 f2;refine bodyPost_ret (results_cell_row rfl _ _ (w.heap.size+1) 45 _ (0,0) _ rfl (O2'.out.setN6 _ _ _ _ _ _) Tryz.underlying45 rfl (by kernel_rfl)) rfl ?_;refine leaf_said (k:=4) (p:=⟨pt,pi,pr⟩) B2.out K2.out (by omega) HBP.out ?_ _ _ _ _ _ _;rw[HTT.out];have hL0:=HL0.out;have hsz:(NT.mk 4 ⟨pt,pi,pr⟩ [] []).sz=1:=by rw[NT.sz,nszL]
   unfold EndE;rw[hsz];exact⟨fun h=>⟨rfl,rfl,if_pos (by omega)⟩,fun h=>if_neg (by omega)⟩
  ·have EX0:=EX1;rw[hL.out.1];dsimp only[Option.isSome];go_wp2_with fail
   obtain⟨wd,hwd⟩:∃ wd,Hid (wd=W1.drew):=⟨_,h! rfl⟩;have hxd:=h! (show Ext W1 wd from by rw[hwd.out];exact Ext.drew _);have EX1:=h! (show Ext we wd from Ext.trans EX1.out hxd.out);have HBO:=h! (HBO.out.below hxd.out);have HX1:=h! (show Ext w0 wd from Ext.trans HX.out (Ext.trans EXX.out EX1.out));have HZA:=h! (HZA.out.same fun y hy=>hxd.out.block y (Nat.lt_of_lt_of_le hy (Ext.trans HX.out (Ext.trans EXX.out EX0.out)).size));refine r! (Ext wd) (by rw[<- hwd.out];exact Ext.refl _) ?_;rw[<- hwd.out];clear hwd hxd hdz;have hs:∀ W,Ext wd W->∀ i,W.cell? ⟨bp,i,none⟩=(BdC tv (bkV b) (.map (some ash)) L 0)[i]?:=fun W h=>((EB.out.below EX1.out).below h).cells;have hp:∀ W,Ext wd W->∀ i,W.cell? ⟨w.heap.size,i,none⟩=(#[.string pt,.string pi,.string pr]:Array Value)[i]?:=fun W h=>((EP.out.below EX1.out).below h).cells
   have hlk:∀ W,Ext wd W->(Instr.lookup 141 (.map (some ash)) (.agg #[.string pt,.string pr]) false).run Tryz.prog W = .ok (.bool true) W:=fun W h=>by
    have h1:=(HST.out.sh.below (Ext.trans HX1.out h)).look refK r2V_inj Tryz.underlying141 (Tryz.zeroValue4 W) false (ref_key ⟨pt,pr⟩ ⟨HPO.out.1,HPO.out.2.2⟩);rw[look_shut,if_pos hL.out.2]at h1;exact h1
   unfold BdC at hs;(refine WalkN.tk [0,1,2,3,4,5,6,7,8,9,10,11,12,13,14,15] ?_;(iterate 16 (refine c! ?_));refine TkN.n ?_)
   refine d! ?_;clear hs hp hlk;have HCT:=h! (count_any bp tv (bkV b) (.map (some ash)) L wd (EB.out.below EX1.out) HL0.out HL1.out);have HTT:=h! (show te ⟨pt,pi,pr⟩ = .mk 4 ⟨pt,pi,pr⟩ [] []from by rw[HT1.out,treeE,ruleOf_shut hL.out.2]);go_wp2_with fail
   refine HCT.out.mono ?_;rintro e w2 ⟨rfl,hb2,hk2⟩;have P2:=h! (show Blk w2 w.heap.size _ _ from(hk2.block _ (by have:=HBP.out;omega)).trans (EP.out.below EX1.out));have O2':=h! (show Blk w2 (w.heap.size+1) _ _ from(hk2.block _ (by have:=HBP.out;omega)).trans (EO.out.below EX1.out));have K2:=h! (show Kept (fun b=>b<w.heap.size/\b≠bp) w w2 from(Below.kept (Ext.trans EXX.out EX1.out) fun b hb=>hb.1).trans (hk2.mono fun b hb=>hb.2));have B2:=h! hb2;have p2:=P2.out.cells;have o2:=O2'.out.cells;have f2:=O2'.out.free;clear hb2 hk2 HCT;go_wp2_with fail
   clear p2 o2 f2;refine bodyPost_ret (results_cell_row rfl _ _ (w.heap.size+1) 45 _ (0,0) _ rfl (O2'.out.setN6 _ _ _ _ _ _) Tryz.underlying45 rfl (by kernel_rfl)) rfl ?_;refine leaf_said (k:=4) (p:=⟨pt,pi,pr⟩) B2.out K2.out (by omega) HBP.out ?_ _ _ _ _ _ _;rw[HTT.out];have hL0:=HL0.out;have hsz:(NT.mk 4 ⟨pt,pi,pr⟩ [] []).sz=1:=by rw[NT.sz,nszL]
   unfold EndE;rw[hsz];exact⟨fun h=>⟨rfl,rfl,if_pos (by omega)⟩,fun h=>if_neg (by omega)⟩
  ·have EX0:=EX1;rw[hL.out.1];dsimp only[Option.isSome];go_wp2_with fail
   obtain⟨wd,hwd⟩:∃ wd,Hid (wd=W1.drew):=⟨_,h! rfl⟩;have hxd:=h! (show Ext W1 wd from by rw[hwd.out];exact Ext.drew _);have EX1:=h! (show Ext we wd from Ext.trans EX1.out hxd.out);have HBO:=h! (HBO.out.below hxd.out);have HX1:=h! (show Ext w0 wd from Ext.trans HX.out (Ext.trans EXX.out EX1.out));have HZA:=h! (HZA.out.same fun y hy=>hxd.out.block y (Nat.lt_of_lt_of_le hy (Ext.trans HX.out (Ext.trans EXX.out EX0.out)).size));refine r! (Ext wd) (by rw[<- hwd.out];exact Ext.refl _) ?_;rw[<- hwd.out];clear hwd hxd hdz;have hs:∀ W,Ext wd W->∀ i,W.cell? ⟨bp,i,none⟩=(BdC tv (bkV b) (.map (some ash)) L 0)[i]?:=fun W h=>((EB.out.below EX1.out).below h).cells;have hp:∀ W,Ext wd W->∀ i,W.cell? ⟨w.heap.size,i,none⟩=(#[.string pt,.string pi,.string pr]:Array Value)[i]?:=fun W h=>((EP.out.below EX1.out).below h).cells
   have hlk:∀ W,Ext wd W->(Instr.lookup 141 (.map (some ash)) (.agg #[.string pt,.string pr]) false).run Tryz.prog W = .ok (.bool false) W:=fun W h=>by
    have h1:=(HST.out.sh.below (Ext.trans HX1.out h)).look refK r2V_inj Tryz.underlying141 (Tryz.zeroValue4 W) false (ref_key ⟨pt,pr⟩ ⟨HPO.out.1,HPO.out.2.2⟩);rw[look_shut,if_neg hL.out.2]at h1;exact h1
   unfold BdC at hs;(refine WalkN.tk [0,1,2,3,4,5,6,7,8,9,10,11,12,13,14,15] ?_;(iterate 16 (refine c! ?_));refine TkN.n ?_)
   refine d! ?_;clear hs hp hlk;have HRE:zr=r:=HZ1.out r hL.out.1;subst HRE;have HTT:=h! (show te ⟨pt,pi,pr⟩=ruleE T (treeE ts T shut d') ⟨pt,pi,pr⟩ zr from by rw[HT1.out,treeE,ruleOf_look hL.out.1 hL.out.2]);have HRU:=h! (erule_any w0 bp b ash ts tv T shut HST.out d' (by have:=HD.out;omega) HPL.out ⟨pt,pi,pr⟩ HPO.out zr (.slice zo zr.ps.length zc) L wd (HRS.out _ (look_mem hL.out.1)) (HZA.out.same fun y hy=>(HX1.out.block y hy).symm) HX1.out (EB.out.below EX1.out) HL0.out HL1.out);unfold pV rV at HRU;dsimp only at HRU;have p1:=(EP.out.below EX1.out).cells;have r1:=HBO.out.cells;go_wp2_with fail
   clear p1 r1;refine HRU.out.mono ?_;rintro e w2 ⟨nt,v2,L2,e2,rfl,hnt,hbd2,hk2,hE2⟩;have P2:=h! (show Blk w2 (w.heap.size+1) _ _ from(hk2.block _ ⟨(EO.out.below EX1.out).lt,by have:=HBP.out;omega⟩).trans (EO.out.below EX1.out));have o2:=P2.out.cells;have f2:=P2.out.free;obtain⟨v1,v2⟩:=v2;obtain⟨s1,-⟩:=(NtAt.iff _ _).1 hnt;obtain⟨so,sm,sc,rfl,-,-,-⟩:=s1.len;obtain⟨po,pc,rfl,-⟩:=hnt.rows;have N2:=h! hnt;have B2:=h! hbd2;have K2:=h! hk2;have E2:=h! hE2;unfold nV2;dsimp only;clear hnt hbd2 hk2 hE2 HRU s1;go_wp2_with fail
   clear o2 f2;refine bodyPost_ret (results_cell_row rfl _ _ (w.heap.size+1) 45 _ (0,0) _ rfl (P2.out.setN6 _ _ _ _ _ _) Tryz.underlying45 rfl (by kernel_rfl)) rfl ?_;rw[HTT.out];exact box_said N2.out B2.out K2.out E2.out (Below.kept (Ext.trans EXX.out EX1.out) fun b hb=>hb.1) (by omega) (EO.out.below EX1.out).lt HBP.out _ _ _ _ _ _
theorem point_any {w0:World} {bp b ash:Nat} {ts:List TyS} {tv:Value} {T:List Tup} {shut:List R2} (HS:BdSt w0 bp b ash ts tv T shut)(hrs:∀ x∈refsOf ts,x.2.Ok):∀ d,d<=1000->PointLaw w0 bp b ash ts tv T shut d
 | 0,_=>fun p L w hp hx hbd h0 h1=>by
  have:=point_step w0 bp b ash ts tv T shut HS hrs 0 (by omega) (treeE ts T shut 0) (.inl ⟨rfl,fun p=>by rw[treeE]⟩) p L w hp hx hbd h0 h1;exact this
 | d+1,hd=>fun p L w hp hx hbd h0 h1=>point_step w0 bp b ash ts tv T shut HS hrs (d+1) hd (treeE ts T shut (d+1)) (.inr ⟨d,rfl,point_any HS hrs d (by omega),fun _=>rfl⟩) p L w hp hx hbd h0 h1
end Go.Proofs.YtlhaghoajpglaaaGreat
