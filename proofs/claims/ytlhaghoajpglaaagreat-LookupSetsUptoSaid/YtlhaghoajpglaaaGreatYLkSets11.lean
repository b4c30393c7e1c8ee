/- Lemmas for the claim, no condition. -/
import Derived.RangeFuncGives
import Derived.RangeFuncNested
import Derived.RangeFuncLeaves
import Derived.WalkKit
import Derived.OwnWalkIn
import Derived.TacticsInMore
import Derived.RegionIn
import Derived.LoopNIn
import Derived.LoopIn
import Derived.Shelf.Small.Strs
import Derived.Shelf.LaysM
import Derived.Lib.SliceRun
import Derived.Test.YtlhaghoajpglaaaGreatYLkSets6
import Derived.Test.YtlhaghoajpglaaaGreatYLkSets0
import Derived.Test.YtlhaghoajpglaaaGreatYLkSets2
import Derived.Test.YtlhaghoajpglaaaGreatYLkSets1
import Derived.Test.YtlhaghoajpglaaaGreatYLkSets3
set_option maxRecDepth 100000
set_option maxHeartbeats 8000000
namespace Go.Proofs.YtlhaghoajpglaaaGreat
open Go Go.RowKit
attribute [local go_sem] Oper.semAt_some
theorem tu_len (l:List Tup):(tuCs l).length=l.length*6:=tuCs_length l
theorem tu_app (a:List Tup)(b:List Tup):tuCs (a++b)=tuCs a++tuCs b:=tuCs_append a b
theorem tu_sing (x:Tup):tuCs [x]=tuC x:=by simp[tuCs]
theorem cells_litT (w:World)(a b c d e f:Value)(t:TypeId):∀ j u,[a,b,c,d,e,f][j]?=some u->(w.alloc (.cells #[a,b,c,d,e,f] t)).cell? ((⟨w.heap.size,0,none⟩:Addr).add j)=some u:=fun j u hu=>by
 rw[Addr.add_lit,cell_of_row _ w.heap.size (0+j) #[a,b,c,d,e,f] t (0,0) (heap_alloc_new w _),Nat.zero_add];simpa using hu
theorem appT_in (F:Fence)(n:Nat)(h45:F.fn 196)(hro:F.round=none)(hn:2<=n)(g:Nat)(lb:Array Value)(hFg:F.fn g)(eg:∀ args w,(callFunc g args).run Tryz.prog w = .ok (.enter g args) w)
  (S Sp:List Tup->Prop) (N:Nat) (w:World) (hN:N<=137438953472) (hseq:SeqStopsK F (n-1) Tryz.prog g lb (fun x=>#[tV x]) (Below w.heap.size) S Sp N w) :
  CallsIn F n Tryz.prog 196 #[.slice none 0 0,.func (.func g) #[] lb] w fun e w'=>∃ (v':Value) (ss:List Tup),e = .returned v'/\S ss/\Own w' w.heap.size 67 6 v' (tuCs ss)/\Ext w w':=by
 have h1:1<=n:=by omega
 refine callsIn_of_wp_marks Tryz.func196 rfl h45 ?_ hro;simp only[Tryz.ntmps196,List.size_toArray,List.length_cons,List.length_nil,Nat.reduceAdd,Nat.reduceSub,Array.replicate_succ,Array.replicate_zero,List.push_toArray,List.append_toArray,List.nil_append,List.cons_append];gi_wp2
 have bS:=Boxed.new w 27 (.slice none 0 0);have hw0:Below w.heap.size w (w.alloc (.cells #[.slice none 0 0] 27)):=(Below.refl _ w).alloc (Nat.le_refl _) _;have hsz:(w.alloc (.cells #[.slice none 0 0] 27)).heap.size=w.heap.size+1:=by simp
 have hk0:KeepsFrom 0 w (w.alloc (.cells #[.slice none 0 0] 27)):=(KeepsOthers.alloc _ _).from _;obtain⟨W0,hW0⟩:∃ W0,w.alloc (.cells #[.slice none 0 0] 27)=W0:=⟨_,rfl⟩;rw[hW0]at bS hw0 hsz hk0 ⊢;clear hW0
 refine wpIn_rangeFunc_ownH hro h1 (gf:=g) (lb:=lb) rfl hFg eg hseq belowK_t (belowK_b (n₀:=w.heap.size) (by omega)) hw0 (fun _=>rfl)
  (fun pre W=>(∃ v',Boxed W w.heap.size 27 v'/\Own W w.heap.size 67 6 v' (tuCs pre)/\(∀ g,v'.ownBlock=some g->(Value.slice none 0 0).ownBlock=some g\/w.heap.size<=g))/\(Kept (fun b=>b<w.heap.size/\(Value.slice none 0 0).ownBlock≠some b) w W/\KeepsFrom 0 w W))
  (fun _ _ _=>False)
  (OwnFrom.and (own_ownFrom w.heap.size w.heap.size 27 67 6 (fun pre=>tuCs pre) (fun v'=>∀ g,v'.ownBlock=some g->(Value.slice none 0 0).ownBlock=some g\/w.heap.size<=g) _) (OwnFrom.and (ownFrom_kept (fun b hb=>hb.1) (by omega)) (ownFrom_keepsFrom (by omega))))
  (fun _ _ _ _ _ hs _ _=>hs)
  ⟨⟨_,bS,Own.nil _ _ _ _,fun g hg => .inl hg⟩,Below.kept hw0 (fun b hb=>hb.1),hk0⟩
  (fun x a' W=>∃ Bx,w.heap.size<Bx/\Blk W Bx #[.string x.o.t,.string x.o.i,.string x.o.r,.string x.s.t,.string x.s.i,.string x.s.r] 67/\a' = {tmps:=#[.slice none 0 0,.func (.func g) #[] lb,.pointer (some ⟨w.heap.size,0,none⟩),undef,.slice none 0 0,.pointer (some ⟨Bx,0,none⟩),.func (.func g) #[] lb,tV x,undef,undef,undef,undef,undef],defers:=[]})
  (fun x a' _ X Y row hs hg hr=>by obtain⟨Bx,h1,h2,h3⟩:=hs;exact⟨Bx,h1,boxed3_kept h2 hg (fun r e=>(hr r e).2),h3⟩)
  ?assign ?body ?done ?stop
 case assign =>
  rintro l2 pre ⟨⟨xa,xb,xc⟩,⟨xd,xe,xf⟩⟩ W K ⟨⟨v',bS1,hO1,hG1⟩,hB1,hK1⟩ hK;dsimp only[tV];gi_wp2
  refine hK _ _ ((KeepsOthers.alloc _ _).from _) ((Below.refl _ _).alloc hB1.size _) ⟨⟨v',bS1.alloc _,hO1.below ((Below.refl _ _).alloc (Nat.le_refl _) _),hG1⟩,hB1.alloc (fun b hb=>Nat.lt_of_lt_of_le hb.1 hB1.size) _,hK1.trans ((KeepsOthers.alloc _ _).from _)⟩ ⟨W.heap.size,bS1.lt,Blk.made W _ _,rfl⟩
 case body =>
  rintro l2 pre ⟨⟨xa,xb,xc⟩,⟨xd,xe,xf⟩⟩ a' W hl ⟨r,hr⟩ ⟨⟨v',bS1,hO1,hG1⟩,hB1,hK1⟩ ⟨Bx,hBx,bX,rfl⟩ hlt;have cS:=bS1.cell;have cX:=bX.cells;have hwl:=hB1.size;have hpl:(tuCs pre).length=pre.length*6:=tu_len pre;have hbb:(pre.length*6+6)*96<=140737488355328:=by omega
  gi_wp2_with (first
   | (gi_at_builtin;go_loud (
      refine wpListIn_own tupT rfl _ _ rfl rfl (hO1.below ((Below.refl _ _).alloc (Nat.le_refl _) _)) (ad:=⟨W.heap.size,0,none⟩) (m:=1) (c:=1) (news:=[.string xa,.string xb,.string xc,.string xd,.string xe,.string xf]) rfl rfl (cells_litT _ _ _ _ _ _ _ _) (by intro u hu;simp only[List.mem_cons,List.not_mem_nil,or_false]at hu;rcases hu with rfl | rfl | rfl | rfl | rfl | rfl <;> rfl) (by simp only[List.length_cons,List.length_nil];omega) (by simp only[List.length_cons,List.length_nil];rw[hpl];exact hbb) (by simp;omega) ?_;intro v2 w2 hO2 hG2 hg2
      obtain⟨g2,n2,c2,rfl⟩:∃ g2 n2 c2,v2 = .slice (some ⟨g2,0,none⟩) n2 c2:=by
        rcases hO2.shape with⟨_,h⟩ | h
        · exact absurd h (by simp)
        · exact h
      have bS2:=(bS1.alloc (.cells #[.string xa,.string xb,.string xc,.string xd,.string xe,.string xf] 67)).kept hg2 (boxed_notOwn (bS1.alloc _) (by decide) (hO1.below ((Below.refl _ _).alloc (Nat.le_refl _) (.cells #[.string xa,.string xb,.string xc,.string xd,.string xe,.string xf] 67))));have cS2:=bS2.cell;have fS2:=bS2.frozen))
   | gi_in)
  have hKa:KeepsFrom 0 W (W.alloc (.cells #[.string xa,.string xb,.string xc,.string xd,.string xe,.string xf] 67)):=(KeepsOthers.alloc _ _).from _;have hKb:=hKa.trans (keeps_own (hO1.below ((Below.refl _ _).alloc (Nat.le_refl _) (.cells #[.string xa,.string xb,.string xc,.string xd,.string xe,.string xf] 67))) hg2 0);have hKc:KeepsFrom 0 W (w2.setCell ⟨w.heap.size,0,none⟩ (.slice (some ⟨g2,0,none⟩) n2 c2)):=hKb.trans ((KeepsOthers.setCell _ _ _).from _)
  have hlow:Below w.heap.size W (w2.setCell ⟨w.heap.size,0,none⟩ (.slice (some ⟨g2,0,none⟩) n2 c2)):=(((Below.refl _ W).alloc hwl _).grown hg2 (by simp;omega) (fun g hg=>by
   rcases hG1 g hg with h | h
   ·cases h
   ·exact h)).setCell (Nat.le_refl _) _
  refine⟨keeps_up hKc _,hlow,⟨⟨_,bS2.set _,?_,fun g hg=>?_⟩,?_,hK1.trans hKc⟩⟩
  ·have:=hO2.keepOwn (w':=w2.setCell ⟨w.heap.size,0,none⟩ (.slice (some ⟨g2,0,none⟩) n2 c2)) (fun g hg=>Below.heap_setCell _ _ _ g (fun e=>boxed_notOwn bS2 (by decide) hO2 (by rw[hg,e])));rw[tu_app pre,tu_sing];exact this
  ·rcases hG2 g hg with h | h
   ·exact hG1 g h
   ·exact .inr (by have:=hB1.size;simp at h;omega)
  ·have hk2:Kept (fun b=>b<w.heap.size/\(Value.slice none 0 0).ownBlock≠some b) (W.alloc (.cells #[.string xa,.string xb,.string xc,.string xd,.string xe,.string xf] 67)) w2:=⟨hg2.os,hg2.tape,hg2.output,hg2.size,fun b hb=>hg2.block b (by have:=hB1.size;have:=hb.1;simp;omega) (fun e=>by
    rcases hG1 b e.symm with h | h
    ·exact hb.2 h
    ·have:=hb.1;omega)⟩
   exact((hB1.alloc (fun b hb=>Nat.lt_of_lt_of_le hb.1 hB1.size) _).trans hk2).set (a:=⟨w.heap.size,0,none⟩) (fun h=>Nat.lt_irrefl _ h.1) _
 case done =>
  rintro D ys W hD hS ⟨⟨v',bS1,hO1,_⟩,hB1,hK1⟩ hK;have cS:=bS1.cell
  obtain⟨ao',k',c',rfl⟩:∃ ao k c,v' = .slice ao k c:=by
   rcases hO1.shape with⟨rfl,_⟩ | ⟨g,n,c,rfl⟩
   ·exact⟨_,_,_,rfl⟩
   ·exact⟨_,_,_,rfl⟩
  gi_wp2
  refine⟨by simp,.inl ⟨_,_,rfl,run_takeDeferred hK,?_⟩⟩;refine⟨_,results_tmp rfl _ _ _,_,ys,rfl,hS,hO1.put _ hK rfl,⟨hB1.os,hB1.tape,hB1.output,by have:=hB1.size;simpa using this,fun b hb=>(World.putObj_heap_other (fun e=>by omega)).trans (hB1.block b ⟨hb,fun e=>by cases e⟩)⟩⟩
 case stop =>
  rintro D c pre W _ _ h _;exact h.elim
attribute [local go_sem] Oper.semAt_some
theorem grown_alloc (w:World)(o:Obj):w.grownBy (w.alloc o) none:=⟨rfl,rfl,rfl,by simp,fun b hb _=>Below.heap_alloc w o b hb⟩
theorem valsT_in (F:Fence)(n:Nat)(hf:F.fn 138)(hro:F.round=none)(hn:1<=n)(l Bs n₀ B0:Nat)(ao:Option Addr)(cap:Nat)(zs:List Tup)(hl:zs.length<=1099511627776)(J Jx:List Tup->World->Prop)(hA:AbidesFrom B0 J)
  (hY:∀ pre x W,J pre W->pre.length<zs.length->YieldAt F (n-1) Tryz.prog l #[tV x] W fun e W' =>
   (e = .returned (.bool true)/\J (pre++[x]) W'/\Below n₀ W W')\/(e = .returned (.bool false)/\Jx (pre++[x]) W'))
  (W:World) (hn0:n₀<=W.heap.size) (hBs:W.cell? ⟨Bs,0,none⟩=some (.slice ao zs.length cap)) (hc:Sl (· < n₀) W 6 (.slice ao zs.length cap) (zs.flatMap tuC)) (h0:J [] W) :
  CallsIn F n Tryz.prog 138 #[.func (.yield l) #[] #[],.pointer (some ⟨Bs,0,none⟩)] W fun e W'=>(∃ v,e = .returned v) /\
   ((∃ ys,ys=zs/\J ys W')\/(∃ pre,pre <+: zs/\Jx pre W')):=by
 refine callsIn_of_wp Tryz.func138 rfl hf ?_ hro;simp only[Tryz.ntmps138,List.size_toArray,List.length_cons,List.length_nil,Nat.reduceAdd,Nat.reduceSub,Array.replicate_succ,Array.replicate_zero,List.push_toArray,List.append_toArray,List.nil_append,List.cons_append];gi_wp2
 gi_loopw [7] (fun i wr=>∃ k:Nat,k<=zs.length/\i = .int .i64 k/\J (zs.take k) wr/\Below n₀ W wr)
  (fun i _=>zs.length-(intOf i).toNat)
 case atStart=>exact⟨0,Nat.zero_le _,rfl,h0,Below.refl _ _⟩
 case round =>
  obtain⟨k,hk,rfl,hJs,hnx⟩:=hrel;by_cases hlt:k<zs.length
  ·obtain⟨ao',c',he',-,-,hcell⟩:=Sl.rows tuC_length (by decide) (hc.same (w':=wr) fun x hx=>hnx.block x hx);cases he';obtain⟨bq,oq,rfl,-,hcell⟩:=hcell (by omega);have hck:=hcell k hlt;have hts:=List.take_succ_eq_append_getElem hlt;have hpl:(zs.take k).length<zs.length:=by rw[List.length_take];omega
   have hpre:zs.take (k+1) <+: zs:=List.take_prefix _ _;generalize zs[k]=x at *;obtain⟨⟨xa,xb,xc⟩,⟨xd,xe,xf⟩⟩:=x;have c0:wr.cell? ⟨bq,oq+k*6,none⟩=some (.string xa):=hck 0 _ rfl;have c1:wr.cell? ⟨bq,oq+k*6+1,none⟩=some (.string xb):=hck 1 _ rfl;have c2:wr.cell? ⟨bq,oq+k*6+2,none⟩=some (.string xc):=hck 2 _ rfl;have c3:wr.cell? ⟨bq,oq+k*6+3,none⟩=some (.string xd):=hck 3 _ rfl;have c4:wr.cell? ⟨bq,oq+k*6+4,none⟩=some (.string xe):=hck 4 _ rfl;have c5:wr.cell? ⟨bq,oq+k*6+5,none⟩=some (.string xf):=hck 5 _ rfl;have hJ1:=hA _ _ _ none hJs (grown_alloc wr (.cells #[.string xa,.string xb,.string xc,.string xd,.string xe,.string xf] 67)) (fun r e=>by cases e);have hb1:Below n₀ wr (wr.alloc (.cells #[.string xa,.string xb,.string xc,.string xd,.string xe,.string xf] 67)):=(Below.refl _ _).alloc (Nat.le_trans hn0 hnx.size) _;obtain⟨fn,tmps,assign,body,hy,hR⟩:=hY _ ⟨⟨xa,xb,xc⟩,⟨xd,xe,xf⟩⟩ _ hJ1 hpl;try unfold tV at hy
   try dsimp only at hy
   clear hck hcell;gi_wp2
   refine hR.mono ?_;rintro e W3 (⟨rfl,hJ3,hk3⟩ | ⟨rfl,hJx3⟩)
   ·gi_wp2
    go_roundw
    case rel=>exact⟨k+1,by omega,by go_num,by rw[hts];exact hJ3,hnx.trans (hb1.trans hk3)⟩
    case measure=>simp[intOf];omega
   ·gi_wp2
    refine bodyPost_ret (results_none rfl _ _ _) rfl ?_;exact⟨⟨_,rfl⟩,.inr ⟨_,hpre,by rw[hts];exact hJx3⟩⟩
  ·obtain rfl:k=zs.length:=by omega
   gi_wp2
   go_end0
   exact⟨⟨_,rfl⟩,.inl ⟨_,List.take_length,hJs⟩⟩
theorem valsT_seq (F:Fence)(n:Nat)(hf:F.fn 138)(hro:F.round=none)(hn:1<=n)(Bs:Nat)(ao:Option Addr)(cap:Nat)(zs:List Tup)(hl:zs.length<=1099511627776)(w:World)(hBs:Bs<w.heap.size)
  (hc:w.cell? ⟨Bs,0,none⟩=some (.slice ao zs.length cap)) (hS:Sl (· < w.heap.size) w 6 (.slice ao zs.length cap) (zs.flatMap tuC)) :
  SeqStopsK F n Tryz.prog 138 #[.pointer (some ⟨Bs,0,none⟩)] (fun x:Tup=>#[tV x]) (Below w.heap.size) (fun ys=>ys=zs) (fun pre=>pre <+: zs) zs.length w:=fun l J Jx W hW hA _ hY h0 =>
 (valsT_in F n hf hro hn l Bs w.heap.size W.heap.size ao cap zs hl J Jx hA hY W hW.size ((hW.cell (p:=⟨Bs,0,none⟩) hBs).trans hc) (hS.same fun x hx=>hW.block x hx) h0).mono fun _ _ h=>h
theorem valuesT_any (ao:Option Addr)(k cap:Nat)(w:World):Calls Tryz.prog 77 #[.slice ao k cap] w fun e w'=>e = .returned (.func (.func 138) #[] #[.pointer (some ⟨w.heap.size,0,none⟩)])/\w'=w.alloc (.cells #[.slice ao k cap] 27):=by
 go_enter Tryz.func77,Tryz.ntmps77
 go_wp2
 go_ret
 exact⟨rfl,rfl⟩
theorem collectT_any (w:World)(Bs:Nat)(ao:Option Addr)(cap:Nat)(zs:List Tup)(hl:zs.length<=137438953472)(hBs:Bs<w.heap.size)(hc:w.cell? ⟨Bs,0,none⟩=some (.slice ao zs.length cap))(hS:Sl (· < w.heap.size) w 6 (.slice ao zs.length cap) (zs.flatMap tuC)) :
  Calls Tryz.prog 136 #[.func (.func 138) #[] #[.pointer (some ⟨Bs,0,none⟩)]] w fun e w'=>∃ v',e = .returned v'/\Own w' w.heap.size 67 6 v' (tuCs zs)/\Ext w w':=by
 have HP:=h! (callsIn_wide.1 (appT_in Fence.wide 3 trivial rfl (by omega) 138 _ trivial (enters_of Tryz.func138 (by kernel_rfl) rfl) _ _ zs.length w hl (valsT_seq Fence.wide 2 trivial rfl (by omega) Bs ao cap zs (by omega) w hBs hc hS)));clear hS hc;go_enter Tryz.func136,Tryz.ntmps136
 go_wp2_with fail
 refine HP.out.mono ?_;rintro e w1 ⟨v,ss,rfl,rfl,ho,hx⟩;go_wp2
 go_ret
 exact⟨v,rfl,ho,hx⟩
def ltT (a b:Tup):Bool:=if a.o=b.o then ltP a.s b.s else ltP a.o b.o
def cmpT (a b:Tup):Int:=if ltT a b then -1 else if a=b then 0 else 1
theorem ltP_ne {a b:P3} (h:ltP a b=true):a≠b:=fun e=>by subst e;rw[ltP_irr]at h;cases h
theorem ltT_irr (a:Tup):ltT a a=false:=by simp[ltT,ltP_irr]
theorem ltT_total {a b:Tup} (h:ltT a b=false)(hne:a≠b):ltT b a=true:=by
 unfold ltT at *;by_cases h1:a.o=b.o
 ·rw[if_pos h1]at h;rw[if_pos h1.symm];refine ltP_total h fun h2=>hne ?_;cases a;cases b;simp_all
 ·rw[if_neg h1]at h;rw[if_neg (Ne.symm h1)];exact ltP_total h h1
theorem ltT_trans {a b c:Tup} (h:ltT a b=true)(k:ltT b c=true):ltT a c=true:=by
 unfold ltT at *;by_cases h1:a.o=b.o <;> by_cases k1:b.o=c.o
 ·rw[if_pos h1]at h;rw[if_pos k1]at k;rw[if_pos (h1.trans k1)];exact ltP_trans h k
 ·rw[if_neg k1]at k;rw[if_neg (h1▸k1),h1];exact k
 ·rw[if_neg h1]at h;rw[if_neg (k1▸h1),<- k1];exact h
 ·rw[if_neg h1]at h;rw[if_neg k1]at k;have:=ltP_trans h k;rw[if_neg (ltP_ne this)];exact this
theorem lt_cmpT (a b:Tup):Go.Proofs.ltOf cmpT a b=ltT a b:=by
 unfold Go.Proofs.ltOf cmpT;cases h:ltT a b with
 | true=>simp
 | false =>
  simp only[Bool.false_eq_true,if_false];split <;> simp
theorem swoT:Go.Sort.SWO (Go.Proofs.ltOf cmpT) where
 irrefl x:=by rw[lt_cmpT];exact ltT_irr x
 trans x y z h k:=by rw[lt_cmpT]at *;exact ltT_trans h k
 ntrans x y z h k:=by
  rw[lt_cmpT]at *;cases hxz:ltT x z with
  | false=>rfl
  | true =>
   by_cases e1:x=y
   ·subst e1;rw[hxz]at k;cases k
   ·have h1:=ltT_total h e1;have h2:=ltT_trans h1 hxz;rw[h2]at k;cases k
def UpT (l:List Tup):Prop:=l.Pairwise fun a b=>ltT a b=true
theorem UpT.nodup {l:List Tup} (h:UpT l):l.Nodup:=h.imp fun {a b} hab e=>by subst e;rw[ltT_irr]at hab;cases hab
theorem UpT.uniq:∀ {l m:List Tup},UpT l->UpT m->(∀ t,t∈l↔t∈m)->l=m
 | [],[],_,_,_=>rfl
 | [],b::m,_,_,h=>by have:=(h b).2 (by simp);cases this
 | a::l,[],_,_,h=>by have:=(h a).1 (by simp);cases this
 | a::l,b::m,hl,hm,h=>by
  have hl1:=List.pairwise_cons.1 hl;have hm1:=List.pairwise_cons.1 hm
  have hab:a=b:=by
   rcases List.mem_cons.1 ((h a).1 (by simp))with e | e
   ·exact e
   ·rcases List.mem_cons.1 ((h b).2 (by simp))with e2 | e2
    ·exact e2.symm
    ·have h1:=hm1.1 a e;have h2:=hl1.1 b e2;have:=ltT_trans h1 h2;rw[ltT_irr]at this;cases this
  subst hab;congr 1
  refine UpT.uniq hl1.2 hm1.2 fun t=>⟨fun ht=>?_,fun ht=>?_⟩
  ·rcases List.mem_cons.1 ((h t).1 (List.mem_cons_of_mem _ ht))with e | e
   ·subst e;have:=hl1.1 t ht;rw[ltT_irr]at this;cases this
   ·exact e
  ·rcases List.mem_cons.1 ((h t).2 (List.mem_cons_of_mem _ ht))with e | e
   ·subst e;have:=hm1.1 t ht;rw[ltT_irr]at this;cases this
   ·exact e
theorem UpT.filter {l:List Tup} (h:UpT l)(p:Tup->Bool):UpT (l.filter p):=List.Pairwise.filter _ h
structure SetT (l T:List Tup):Prop where
 up:UpT T
 mem:∀ t,t∈T↔t∈l/\chkT t=true
theorem SetT.uniq {l T U:List Tup} (h:SetT l T)(k:SetT l U):T=U:=h.up.uniq k.up fun t=>(h.mem t).trans (k.mem t).symm
end Go.Proofs.YtlhaghoajpglaaaGreat
namespace Go.Proofs.YtlhaghoajpglaaaGreat
open Go Go.RowKit Go.Shelf
theorem Gr.fields {w w':World} (h:Gr w w'):w'.tape=w.tape/\w'.os=w.os/\w'.output=w.output/\w.drawn<=w'.drawn:=by
 obtain⟨q,os,rfl⟩:=h;exact⟨rfl,rfl,rfl,by simp[Sort.grow,World.drewN]⟩
theorem Gr.of {w w':World} (ht:w'.tape=w.tape)(ho:w'.os=w.os)(hp:w'.output=w.output)(hd:w.drawn<=w'.drawn)(hz:w.heap.size<=w'.heap.size)(hk:∀ k,k<w.heap.size->w'.heap[k]?=w.heap[k]?):Gr w w':=by
 refine⟨w'.drawn-w.drawn,w'.heap.extract w.heap.size w'.heap.size,?_⟩
 have hh:w'.heap=w.heap++w'.heap.extract w.heap.size w'.heap.size:=by
  apply Array.ext_getElem?;intro i;by_cases hi:i<w.heap.size
  ·rw[hk i hi,Array.getElem?_append_left hi]
  ·rw[Array.getElem?_append_right (by omega),Array.getElem?_extract];by_cases h2:i<w'.heap.size
   ·rw[if_pos (by omega)];congr 1
    omega
   ·rw[if_neg (by omega)];exact Array.getElem?_eq_none (by omega)
 obtain⟨h1,t1,d1,o1,p1⟩:=w';simp only at ht ho hp hd hh;subst ht ho hp;simp only[Sort.grow,World.drewN];congr 1
 omega
theorem Gr.next {a b c:World} (h:Gr a b)(k:Gr b c):Gr a c:=by
 have h1:=h.fields;have k1:=k.fields;have h2:=h.below;have k2:=k.below;refine Gr.of (k1.1.trans h1.1) (k1.2.1.trans h1.2.1) (k1.2.2.1.trans h1.2.2.1) (Nat.le_trans h1.2.2.2 k1.2.2.2) (Nat.le_trans h2.size k2.size) fun j hj=>(k2.block j (Nat.lt_of_lt_of_le hj h2.size)).trans (h2.block j hj)
theorem Gr.set {w w':World} (h:Gr w w') {x i:Nat} (hx:w.heap.size<=x)(v:Value):Gr w (w'.setCell ⟨x,i,none⟩ v):=by
 have h1:=h.fields;have h2:=h.below;exact Gr.of h1.1 h1.2.1 h1.2.2.1 h1.2.2.2 (by have:=h2.size;simpa using this) fun j hj=>(Below.heap_setCell _ _ _ j (by show j≠x;omega)).trans (h2.block j hj)
def Tryz.lays106_ren:Go.Shelf.Ren:=⟨fun | 106=>140 | 213=>199 | 265=>242 | n=>n,fun | 9=>9 | 3=>3 | n=>n,fun | n=>n⟩
theorem Tryz.lays106:Go.Proofs.Lays.n106 Tryz.prog Tryz.lays106_ren := {
 mixed:=by kernel_rfl
 f106:=Tryz.func140.trans (congrArg some (by kernel_rfl))
 f213:=Tryz.func199.trans (congrArg some (by kernel_rfl))
 f265:=Tryz.func242.trans (congrArg some (by kernel_rfl))
 t3:=Tryz.underlying3
 a3:=Tryz.isAgg3
 z3:=Tryz.sizeOf3
 v3:=Tryz.zeroValue3
 t9:=Tryz.underlying9
 a9:=Tryz.isAgg9
 z9:=Tryz.sizeOf9
 v9:=Tryz.zeroValue9}
theorem compareS_any (a b:ByteArray)(w:World):Calls Tryz.prog 140 #[.string a,.string b] w fun e w'=>e = .returned (.int .i64 (Lib.compareBytes a.data.toList b.data.toList))/\w'=w:=Any.strings_Compare Tryz.lays106 a b w
theorem region_to {P:Program} {c:Code} {Q:Exit->Act->World->Prop} {a:Act} {w:World} (R:Act->World->Prop)(h1:c.wp P (fun e a' w'=>e = .normal/\R a' w') a w)(h2:∀ a' w',R a' w'->Q .normal a' w'):c.wp P Q a w :=
 Code.wp_mono (fun e a' w' h=>by
  obtain⟨rfl,h⟩:=h;exact h2 a' w' h) h1
end Go.Proofs.YtlhaghoajpglaaaGreat
namespace Go.Proofs.YtlhaghoajpglaaaGreat
open Go Go.RowKit
theorem cmpL_eq:∀ l m:List UInt8,Lib.compareBytes l m=if l<m then -1 else if l=m then 0 else 1
 | [],[]=>by simp[Lib.compareBytes]
 | [],_::_=>by simp[Lib.compareBytes]
 | _::_,[]=>by simp[Lib.compareBytes]
 | a::l,b::m=>by
  rw[Lib.compareBytes,cmpL_eq l m];by_cases h:a<b
  ·rw[if_pos h,if_pos (List.cons_lt_cons_iff.2 (.inl h))]
  ·rw[if_neg h];by_cases h2:b<a
   ·have hne:¬ a=b:=fun e=>by rw[e]at h2;exact UInt8.lt_irrefl _ h2
    have h3:¬ (a::l)<(b::m):=fun h4=>by
     rcases List.cons_lt_cons_iff.1 h4 with h5 | ⟨h5,_⟩
     ·exact h h5
     ·exact hne h5
    rw[if_pos h2,if_neg h3,if_neg (by simp[hne])]
   ·have e:a=b:=UInt8.le_antisymm (UInt8.not_lt.1 h2) (UInt8.not_lt.1 h);subst e;rw[if_neg h2];have h3:(a::l)<(a::m)↔l<m:=by rw[List.cons_lt_cons_iff];simp[UInt8.lt_irrefl]
    by_cases h4:l<m
    ·rw[if_pos h4,if_pos (h3.2 h4)]
    ·rw[if_neg h4,if_neg (fun h5=>h4 (h3.1 h5))];simp
theorem cB_cmpS (a b:ByteArray):Lib.compareBytes a.data.toList b.data.toList=cmpS a b:=by
 rw[cmpL_eq];unfold cmpS
 have h1:(ltS a b=true)↔a.data.toList<b.data.toList:=by
  unfold ltS;rw[ByteArray.toList_eq,ByteArray.toList_eq,bytesLess_eq];simp
 have h2:a.data.toList=b.data.toList↔a=b:=⟨fun h=>by
  obtain⟨⟨x⟩⟩:=a;obtain⟨⟨y⟩⟩:=b;simp only at h;rw[h],fun h=>by rw[h]⟩
 simp only[h1,h2]
def tp (a:Tup):Nat->ByteArray
 | 0=>a.o.t
 | 1=>a.o.i
 | 2=>a.o.r
 | 3=>a.s.t
 | 4=>a.s.i
 | _=>a.s.r
def cL (a b:Tup):List Int:=[cmpS a.o.t b.o.t,cmpS a.o.i b.o.i,cmpS a.o.r b.o.r,cmpS a.s.t b.s.t,cmpS a.s.i b.s.i,cmpS a.s.r b.s.r]
def cmpC (a b:Tup):Int:=orL (cL a b)
theorem cL_at (a b:Tup):∀ i (h:i<(cL a b).length),(cL a b)[i]=cmpS (tp a i) (tp b i)
 | 0,_=>rfl
 | 1,_=>rfl
 | 2,_=>rfl
 | 3,_=>rfl
 | 4,_=>rfl
 | 5,_=>rfl
 | _+6,h=>absurd h (by simp[cL])
theorem cmpC_eq (a b:Tup):cmpC a b=if a.o=b.o then ordP a.s b.s else ordP a.o b.o:=by
 obtain⟨⟨a1,a2,a3⟩,⟨a4,a5,a6⟩⟩:=a;obtain⟨⟨b1,b2,b3⟩,⟨b4,b5,b6⟩⟩:=b;simp only[cmpC,cL,ordP,orL,P3.mk.injEq,cmpS_zero];by_cases h1:a1=b1 <;> by_cases h2:a2=b2 <;> by_cases h3:a3=b3 <;> simp[h1,h2,h3]
theorem lt_cmpC (a b:Tup):Go.Proofs.ltOf cmpC a b=ltT a b:=by
 unfold ltT
 have e:Go.Proofs.ltOf cmpC a b=if a.o=b.o then Go.Proofs.ltOf ordP a.s b.s else Go.Proofs.ltOf ordP a.o b.o:=by
  unfold Go.Proofs.ltOf;rw[cmpC_eq];split <;> rfl
 rw[e,lt_ordP,lt_ordP]
theorem swoC:Go.Sort.SWO (Go.Proofs.ltOf cmpC):=by
 have:Go.Proofs.ltOf cmpC=Go.Proofs.ltOf cmpT:=funext fun a=>funext fun b=>by rw[lt_cmpC,lt_cmpT]
 rw[this];exact swoT
theorem cmpC_self (a:Tup):cmpC a a=0:=by
 have h:∀ x:ByteArray,cmpS x x=0:=fun x=>(cmpS_zero x x).2 rfl;simp[cmpC,cL,orL,h]
theorem cmpC_first {a b:Tup} {i:Nat} (hi:i<6)(h0:∀ j,j<i->cmpS (tp a j) (tp b j)=0)(h1:cmpS (tp a i) (tp b i)≠0):cmpC a b=cmpS (tp a i) (tp b i):=by
 have hl:i<(cL a b).length:=hi;unfold cmpC;rw[orL_drop (i:=i) fun j hj hji=>by rw[cL_at];exact h0 j hji];rw[List.drop_eq_getElem_cons hl,orL,cL_at,if_neg h1]
theorem cmpC_none {a b:Tup} (h0:∀ j,j<6->cmpS (tp a j) (tp b j)=0):cmpC a b=0:=by
 unfold cmpC;rw[orL_drop (i:=6) fun j hj hji=>by rw[cL_at];exact h0 j hji];rfl
def tpC (a:Tup):Array Value:=#[.string a.o.t,.string a.o.i,.string a.o.r,.string a.s.t,.string a.s.i,.string a.s.r]
theorem tpC_at (a:Tup):∀ i,i<6->(tpC a)[i]?=some (.string (tp a i))
 | 0,_=>rfl
 | 1,_=>rfl
 | 2,_=>rfl
 | 3,_=>rfl
 | 4,_=>rfl
 | 5,_=>rfl
 | _+6,h=>absurd h (by omega)
theorem tup_eq (a b:Tup)(W:World):(binOp BinOp.eql 67 (tV a) (tV b)).run Tryz.prog W = .ok (.bool (decide (a=b))) W:=by
 obtain⟨⟨a1,a2,a3⟩,⟨a4,a5,a6⟩⟩:=a;obtain⟨⟨b1,b2,b3⟩,⟨b4,b5,b6⟩⟩:=b;unfold tV;dsimp only;go_simp;simp only[ba_toList];by_cases h1:a1=b1
 ·by_cases h2:a2=b2
  ·by_cases h3:a3=b3
   ·by_cases h4:a4=b4
    ·by_cases h5:a5=b5
     ·by_cases h6:a6=b6 <;> simp[h1,h2,h3,h4,h5,h6]
     ·simp[h1,h2,h3,h4,h5]
    ·simp[h1,h2,h3,h4]
   ·simp[h1,h2,h3]
  ·simp[h1,h2]
 ·simp[h1]
def zr6:Array Value:=#[.string ⟨#[]⟩,.string ⟨#[]⟩,.string ⟨#[]⟩,.string ⟨#[]⟩,.string ⟨#[]⟩,.string ⟨#[]⟩]
section
variable {w w' : World} {B B' : Nat} {e : TypeId} {cs : Array Value}
theorem Blk.put6 (h:Blk w B zr6 e)(x0 x1 x2 x3 x4 x5:Value):Blk ((((((w.setCell ⟨B,0,none⟩ x0).setCell ⟨B,1,none⟩ x1).setCell ⟨B,2,none⟩ x2).setCell ⟨B,3,none⟩ x3).setCell ⟨B,4,none⟩ x4).setCell ⟨B,5,none⟩ x5) B #[x0,x1,x2,x3,x4,x5] e :=
 (((((h.set_to 0 x0 rfl).set_to 1 x1 rfl).set_to 2 x2 rfl).set_to 3 x3 rfl).set_to 4 x4 rfl).set_to 5 x5 rfl
theorem Blk.away6 (h:Blk w B cs e)(hne:B≠B')(x0 x1 x2 x3 x4 x5:Value):Blk ((((((w.setCell ⟨B',0,none⟩ x0).setCell ⟨B',1,none⟩ x1).setCell ⟨B',2,none⟩ x2).setCell ⟨B',3,none⟩ x3).setCell ⟨B',4,none⟩ x4).setCell ⟨B',5,none⟩ x5) B cs e :=
 (((((h.other (a:=⟨B',0,none⟩) hne x0).other (a:=⟨B',1,none⟩) hne x1).other (a:=⟨B',2,none⟩) hne x2).other (a:=⟨B',3,none⟩) hne x3).other (a:=⟨B',4,none⟩) hne x4).other (a:=⟨B',5,none⟩) hne x5
theorem gr_set6 (h:Gr w w')(hB:w.heap.size<=B)(x0 x1 x2 x3 x4 x5:Value):Gr w ((((((w'.setCell ⟨B,0,none⟩ x0).setCell ⟨B,1,none⟩ x1).setCell ⟨B,2,none⟩ x2).setCell ⟨B,3,none⟩ x3).setCell ⟨B,4,none⟩ x4).setCell ⟨B,5,none⟩ x5) :=
 (((((h.set hB x0).set hB x1).set hB x2).set hB x3).set hB x4).set hB x5
end
theorem ofG_any (t:Tup)(w:World):Calls Tryz.prog 139 #[tV t] w fun e w'=>e = .returned (tV t)/\Gr w w':=by
 obtain⟨⟨ot,oi,or_⟩,⟨st,si,sr⟩⟩:=t;have hb:=(Blk.made w #[.string ot,.string oi,.string or_,.string st,.string si,.string sr] 67);have h1:Gr w (w.alloc (.cells #[.string ot,.string oi,.string or_,.string st,.string si,.string sr] 67)):=(Gr.refl _).alloc _;unfold tV;dsimp only;go_enter Tryz.func139,Tryz.ntmps139
 go_wp2_with fail
 refine bodyPost_ret (results_cell_row rfl _ _ (w.heap.size+1) 237 #[.string ot,.string oi,.string or_,.string st,.string si,.string sr] (0,0) _ rfl ?_ Tryz.underlying237 rfl (by kernel_rfl)) rfl ⟨rfl,h1.alloc _⟩;have:=heap_alloc_new (w.alloc (.cells #[.string ot,.string oi,.string or_,.string st,.string si,.string sr] 67)) (.cells #[.string ot,.string oi,.string or_,.string st,.string si,.string sr] 237);rwa[World.size_alloc]at this
theorem cmpTup_any (a b:Tup)(w:World):Calls Tryz.prog 78 #[tV a,tV b] w fun e w'=>e = .returned (.int .i64 (cmpC a b))/\Gr w w':=by
 have hg1:Gr w ((w.alloc (.cells (tpC a) 67)).alloc (.cells (tpC b) 67)):=((Gr.refl _).alloc _).alloc _;have HG1:=h! hg1;have HA1:=h! ((Blk.made w (tpC a) 67).alloc (.cells (tpC b) 67));have HB1:=h! (Blk.made' (w:=w.alloc (.cells (tpC a) 67)) (B:=w.heap.size+1) (by simp) (tpC b) 67);clear hg1;by_cases hab:a=b
 ·subst hab;have HZ:=h! (cmpC_self a);obtain⟨⟨a1,a2,a3⟩,⟨a4,a5,a6⟩⟩:=a;unfold tpC at HG1 HA1 HB1;dsimp only at HG1 HA1 HB1;have ha:=HA1.out.cells;have hb:=HB1.out.cells;unfold tV;dsimp only
  have hq:∀ W,(binOp BinOp.eql 67 (.agg #[.string a1,.string a2,.string a3,.string a4,.string a5,.string a6]) (.agg #[.string a1,.string a2,.string a3,.string a4,.string a5,.string a6])).run Tryz.prog W = .ok (.bool true) W:=fun W=>by
   have h:=tup_eq ⟨⟨a1,a2,a3⟩,⟨a4,a5,a6⟩⟩ ⟨⟨a1,a2,a3⟩,⟨a4,a5,a6⟩⟩ W;rw[decide_eq_true rfl]at h;exact h
  go_enter Tryz.func78,Tryz.ntmps78
  go_wp2_with fail
  go_ret
  exact⟨by rw[HZ.out];rfl,HG1.out⟩
 ·have HF:=h! (fun i (h6:i<6) (h0:∀ j,j<i->cmpS (tp a j) (tp b j)=0) (h1:cmpS (tp a i) (tp b i)≠0)=>cmpC_first h6 h0 h1);have HN:=h! (fun(h0:∀ j,j<6->cmpS (tp a j) (tp b j)=0)=>cmpC_none h0);have HTA:=h! (tpC_at a);have HTB:=h! (tpC_at b);generalize cmpC a b=cab at *;generalize hta:tp a=ta at *;generalize htb:tp b=tb at *;clear hta htb
  have hqn:∀ W,(binOp BinOp.eql 67 (tV a) (tV b)).run Tryz.prog W = .ok (.bool false) W:=fun W=>by
   have h:=tup_eq a b W;rwa[decide_eq_false hab]at h
  clear hab;obtain⟨⟨a1,a2,a3⟩,⟨a4,a5,a6⟩⟩:=a;obtain⟨⟨b1,b2,b3⟩,⟨b4,b5,b6⟩⟩:=b;unfold tpC at *;dsimp only at HG1 HA1 HB1 HTA HTB;have ha:=HA1.out.cells;have hb:=HB1.out.cells;unfold tV at hqn ⊢;dsimp only at hqn ⊢;go_enter Tryz.func78,Tryz.ntmps78
  go_wp2_with fail
  clear ha hb hqn;refine region_to (fun a' W=>∃ x y,a' = {tmps:=#[.agg #[.string a1,.string a2,.string a3,.string a4,.string a5,.string a6],.agg #[.string b1,.string b2,.string b3,.string b4,.string b5,.string b6],.pointer (some ⟨w.heap.size,0,none⟩),.pointer (some ⟨w.heap.size+1,0,none⟩),.int .i64 0,.pointer (some ⟨x,0,none⟩),.pointer (some ⟨y,0,none⟩),undef,undef,.agg #[.string a1,.string a2,.string a3,.string a4,.string a5,.string a6],.agg #[.string b1,.string b2,.string b3,.string b4,.string b5,.string b6],.bool false,.agg #[.string a1,.string a2,.string a3,.string a4,.string a5,.string a6],.agg #[.string a1,.string a2,.string a3,.string a4,.string a5,.string a6],.agg #[.string b1,.string b2,.string b3,.string b4,.string b5,.string b6],.agg #[.string b1,.string b2,.string b3,.string b4,.string b5,.string b6],undef,undef,undef,undef,undef,undef,undef,undef,undef,undef,undef,undef,undef,undef],defers:=[]}/\Blk W x #[.string a1,.string a2,.string a3,.string a4,.string a5,.string a6] 237/\Blk W y #[.string b1,.string b2,.string b3,.string b4,.string b5,.string b6] 237/\Gr w W) ?_ ?_
  ·obtain⟨wd,hwd⟩:∃ y,y=((w.alloc (.cells #[.string a1,.string a2,.string a3,.string a4,.string a5,.string a6] 67)).alloc (.cells #[.string b1,.string b2,.string b3,.string b4,.string b5,.string b6] 67)).drew:=⟨_,rfl⟩;have hE:=h! (show Gr w wd from by rw[hwd];exact HG1.out.drew);have hAd:=h! (show Blk wd w.heap.size _ _ from by rw[hwd];exact HA1.out.drew);have hBd:=h! (show Blk wd (w.heap.size+1) _ _ from by rw[hwd];exact HB1.out.drew);refine region_walkN (Gr wd) (by rw[<- hwd];exact Gr.refl _) (by kernel_rfl) (by kernel_rfl) (fun _ _ d _ _ h=>absurd h.1 (fun e=>by cases e)) ?_;rw[<- hwd];clear hwd HG1 HA1 HB1;have h1:=fun W (h:Gr wd W)=>(hAd.out.below h.below).cells;have h2:=fun W (h:Gr wd W)=>(hBd.out.below h.below).cells;(refine WalkN.tk [0,2] ?_;(iterate 2 (refine c! ?_));refine TkN.n ?_)
   clear h1 h2;have hE0:=hE;have hE:=h! (Gr.refl wd);refine WalkN.three 1 4 5 (by kernel_rfl) ?_ ?_ ?_;refine b! ?_;intro K hK;go_simp;refine(ofG_any ⟨⟨a1,a2,a3⟩,⟨a4,a5,a6⟩⟩ wd).mono ?_;rintro e u1 ⟨rfl,hg0⟩;refine hK.out _ _ (hE.out.next hg0) ?_;clear hK;unfold tV;dsimp only;have hE:=h! (hE.out.next hg0);clear hg0;refine WalkN.three 3 4 5 (by kernel_rfl) ?_ ?_ ?_;refine b! ?_;intro K hK;go_simp;refine(ofG_any ⟨⟨b1,b2,b3⟩,⟨b4,b5,b6⟩⟩ u1).mono ?_;rintro e u2 ⟨rfl,hg1⟩;refine hK.out _ _ (hE.out.next hg1) ?_;clear hK;unfold tV;dsimp only;have hE:=h! (hE.out.next hg1);clear hg1;refine p! 4 5 ?_ ?_;refine b! ?_;intro K hK;go_simp;refine hK.out _ _ (hE.out.alloc (.cells zr6 237)) ?_;clear hK;have hx2:=Ext.alloc u2 (.cells zr6 237);have hA0:=Blk.made u2 zr6 237;have hps2:=hE.out.below.size;have hE:=h! (hE.out.alloc (.cells zr6 237));clear hx2;unfold zr6 at *;generalize u2.alloc (.cells #[.string ⟨#[]⟩,.string ⟨#[]⟩,.string ⟨#[]⟩,.string ⟨#[]⟩,.string ⟨#[]⟩,.string ⟨#[]⟩] 237)=u3 at *;generalize hpe2:u2.heap.size=pa at *;have hpa:=h! (show wd.heap.size<=pa from by first | exact Nat.le_of_eq hpe2 | exact hps2);clear hpe2 hps2;have hA:=h! hA0;clear hA0;refine o! 5 ?_;refine b! ?_;intro K hK;go_simp;refine hK.out _ _ (hE.out.alloc (.cells zr6 237)) ?_;clear hK;have hx3:=Ext.alloc u3 (.cells zr6 237);have hne:=h! (show pa≠u3.heap.size from Nat.ne_of_lt hA.out.lt);have hA:=h! (hA.out.below hx3);have hB0:=Blk.made u3 zr6 237;have hps3:=hE.out.below.size;have hE:=h! (hE.out.alloc (.cells zr6 237));clear hx3;unfold zr6 at *;generalize u3.alloc (.cells #[.string ⟨#[]⟩,.string ⟨#[]⟩,.string ⟨#[]⟩,.string ⟨#[]⟩,.string ⟨#[]⟩,.string ⟨#[]⟩] 237)=u4 at *;generalize hpe3:u3.heap.size=pb at *;have hpb:=h! (show wd.heap.size<=pb from by first | exact Nat.le_of_eq hpe3 | exact hps3);clear hpe3 hps3;have hB:=h! hB0;clear hB0;rotate_left
   refine b! ?_;intro K hK;go_simp;refine hK.out _ _ (hE.out.alloc (.cells zr6 237)) ?_;clear hK;have hx2:=Ext.alloc u2 (.cells zr6 237);have hB0:=Blk.made u2 zr6 237;have hps2:=hE.out.below.size;have hE:=h! (hE.out.alloc (.cells zr6 237));clear hx2;unfold zr6 at *;generalize u2.alloc (.cells #[.string ⟨#[]⟩,.string ⟨#[]⟩,.string ⟨#[]⟩,.string ⟨#[]⟩,.string ⟨#[]⟩,.string ⟨#[]⟩] 237)=u3 at *;generalize hpe2:u2.heap.size=pb at *;have hpb:=h! (show wd.heap.size<=pb from by first | exact Nat.le_of_eq hpe2 | exact hps2);clear hpe2 hps2;have hB:=h! hB0;clear hB0;refine o! 4 ?_;refine b! ?_;intro K hK;go_simp;refine hK.out _ _ (hE.out.alloc (.cells zr6 237)) ?_;clear hK;have hx3:=Ext.alloc u3 (.cells zr6 237);have hne:=h! (show u3.heap.size≠pb from fun e=>Nat.lt_irrefl _ (e▸hB.out.lt));have hB:=h! (hB.out.below hx3);have hA0:=Blk.made u3 zr6 237;have hps3:=hE.out.below.size;have hE:=h! (hE.out.alloc (.cells zr6 237));clear hx3;unfold zr6 at *;generalize u3.alloc (.cells #[.string ⟨#[]⟩,.string ⟨#[]⟩,.string ⟨#[]⟩,.string ⟨#[]⟩,.string ⟨#[]⟩,.string ⟨#[]⟩] 237)=u4 at *;generalize hpe3:u3.heap.size=pa at *;have hpa:=h! (show wd.heap.size<=pa from by first | exact Nat.le_of_eq hpe3 | exact hps3);clear hpe3 hps3;have hA:=h! hA0;clear hA0;rotate_left
   refine b! ?_;intro K hK;go_simp;refine hK.out _ _ (hE.out.alloc (.cells zr6 237)) ?_;clear hK;have hx1:=Ext.alloc u1 (.cells zr6 237);have hA0:=Blk.made u1 zr6 237;have hps1:=hE.out.below.size;have hE:=h! (hE.out.alloc (.cells zr6 237));clear hx1;unfold zr6 at *;generalize u1.alloc (.cells #[.string ⟨#[]⟩,.string ⟨#[]⟩,.string ⟨#[]⟩,.string ⟨#[]⟩,.string ⟨#[]⟩,.string ⟨#[]⟩] 237)=u2 at *;generalize hpe1:u1.heap.size=pa at *;have hpa:=h! (show wd.heap.size<=pa from by first | exact Nat.le_of_eq hpe1 | exact hps1);clear hpe1 hps1;have hA:=h! hA0;clear hA0;refine p! 3 5 ?_ ?_;refine b! ?_;intro K hK;go_simp;refine(ofG_any ⟨⟨b1,b2,b3⟩,⟨b4,b5,b6⟩⟩ u2).mono ?_;rintro e u3 ⟨rfl,hg2⟩;refine hK.out _ _ (hE.out.next hg2) ?_;clear hK;unfold tV;dsimp only;have hA:=h! (hA.out.below hg2.below);have hE:=h! (hE.out.next hg2);clear hg2;refine o! 5 ?_;refine b! ?_;intro K hK;go_simp;refine hK.out _ _ (hE.out.alloc (.cells zr6 237)) ?_;clear hK;have hx3:=Ext.alloc u3 (.cells zr6 237);have hne:=h! (show pa≠u3.heap.size from Nat.ne_of_lt hA.out.lt);have hA:=h! (hA.out.below hx3);have hB0:=Blk.made u3 zr6 237;have hps3:=hE.out.below.size;have hE:=h! (hE.out.alloc (.cells zr6 237));clear hx3;unfold zr6 at *;generalize u3.alloc (.cells #[.string ⟨#[]⟩,.string ⟨#[]⟩,.string ⟨#[]⟩,.string ⟨#[]⟩,.string ⟨#[]⟩,.string ⟨#[]⟩] 237)=u4 at *;generalize hpe3:u3.heap.size=pb at *;have hpb:=h! (show wd.heap.size<=pb from by first | exact Nat.le_of_eq hpe3 | exact hps3);clear hpe3 hps3;have hB:=h! hB0;clear hB0;rotate_left
   refine b! ?_;intro K hK;go_simp;refine hK.out _ _ (hE.out.alloc (.cells zr6 237)) ?_;clear hK;have hx2:=Ext.alloc u2 (.cells zr6 237);have hne:=h! (show pa≠u2.heap.size from Nat.ne_of_lt hA.out.lt);have hA:=h! (hA.out.below hx2);have hB0:=Blk.made u2 zr6 237;have hps2:=hE.out.below.size;have hE:=h! (hE.out.alloc (.cells zr6 237));clear hx2;unfold zr6 at *;generalize u2.alloc (.cells #[.string ⟨#[]⟩,.string ⟨#[]⟩,.string ⟨#[]⟩,.string ⟨#[]⟩,.string ⟨#[]⟩,.string ⟨#[]⟩] 237)=u3 at *;generalize hpe2:u2.heap.size=pb at *;have hpb:=h! (show wd.heap.size<=pb from by first | exact Nat.le_of_eq hpe2 | exact hps2);clear hpe2 hps2;have hB:=h! hB0;clear hB0;refine o! 3 ?_;refine b! ?_;intro K hK;go_simp;refine(ofG_any ⟨⟨b1,b2,b3⟩,⟨b4,b5,b6⟩⟩ u3).mono ?_;rintro e u4 ⟨rfl,hg3⟩;refine hK.out _ _ (hE.out.next hg3) ?_;clear hK;unfold tV;dsimp only;have hA:=h! (hA.out.below hg3.below);have hB:=h! (hB.out.below hg3.below);have hE:=h! (hE.out.next hg3);clear hg3;rotate_left
   refine b! ?_;intro K hK;go_simp;refine hK.out _ _ (hE.out.alloc (.cells zr6 237)) ?_;clear hK;have hx1:=Ext.alloc u1 (.cells zr6 237);have hB0:=Blk.made u1 zr6 237;have hps1:=hE.out.below.size;have hE:=h! (hE.out.alloc (.cells zr6 237));clear hx1;unfold zr6 at *;generalize u1.alloc (.cells #[.string ⟨#[]⟩,.string ⟨#[]⟩,.string ⟨#[]⟩,.string ⟨#[]⟩,.string ⟨#[]⟩,.string ⟨#[]⟩] 237)=u2 at *;generalize hpe1:u1.heap.size=pb at *;have hpb:=h! (show wd.heap.size<=pb from by first | exact Nat.le_of_eq hpe1 | exact hps1);clear hpe1 hps1;have hB:=h! hB0;clear hB0;refine p! 3 4 ?_ ?_;refine b! ?_;intro K hK;go_simp;refine(ofG_any ⟨⟨b1,b2,b3⟩,⟨b4,b5,b6⟩⟩ u2).mono ?_;rintro e u3 ⟨rfl,hg2⟩;refine hK.out _ _ (hE.out.next hg2) ?_;clear hK;unfold tV;dsimp only;have hB:=h! (hB.out.below hg2.below);have hE:=h! (hE.out.next hg2);clear hg2;refine o! 4 ?_;refine b! ?_;intro K hK;go_simp;refine hK.out _ _ (hE.out.alloc (.cells zr6 237)) ?_;clear hK;have hx3:=Ext.alloc u3 (.cells zr6 237);have hne:=h! (show u3.heap.size≠pb from fun e=>Nat.lt_irrefl _ (e▸hB.out.lt));have hB:=h! (hB.out.below hx3);have hA0:=Blk.made u3 zr6 237;have hps3:=hE.out.below.size;have hE:=h! (hE.out.alloc (.cells zr6 237));clear hx3;unfold zr6 at *;generalize u3.alloc (.cells #[.string ⟨#[]⟩,.string ⟨#[]⟩,.string ⟨#[]⟩,.string ⟨#[]⟩,.string ⟨#[]⟩,.string ⟨#[]⟩] 237)=u4 at *;generalize hpe3:u3.heap.size=pa at *;have hpa:=h! (show wd.heap.size<=pa from by first | exact Nat.le_of_eq hpe3 | exact hps3);clear hpe3 hps3;have hA:=h! hA0;clear hA0;rotate_left
   refine b! ?_;intro K hK;go_simp;refine hK.out _ _ (hE.out.alloc (.cells zr6 237)) ?_;clear hK;have hx2:=Ext.alloc u2 (.cells zr6 237);have hne:=h! (show u2.heap.size≠pb from fun e=>Nat.lt_irrefl _ (e▸hB.out.lt));have hB:=h! (hB.out.below hx2);have hA0:=Blk.made u2 zr6 237;have hps2:=hE.out.below.size;have hE:=h! (hE.out.alloc (.cells zr6 237));clear hx2;unfold zr6 at *;generalize u2.alloc (.cells #[.string ⟨#[]⟩,.string ⟨#[]⟩,.string ⟨#[]⟩,.string ⟨#[]⟩,.string ⟨#[]⟩,.string ⟨#[]⟩] 237)=u3 at *;generalize hpe2:u2.heap.size=pa at *;have hpa:=h! (show wd.heap.size<=pa from by first | exact Nat.le_of_eq hpe2 | exact hps2);clear hpe2 hps2;have hA:=h! hA0;clear hA0;refine o! 3 ?_;refine b! ?_;intro K hK;go_simp;refine(ofG_any ⟨⟨b1,b2,b3⟩,⟨b4,b5,b6⟩⟩ u3).mono ?_;rintro e u4 ⟨rfl,hg3⟩;refine hK.out _ _ (hE.out.next hg3) ?_;clear hK;unfold tV;dsimp only;have hA:=h! (hA.out.below hg3.below);have hB:=h! (hB.out.below hg3.below);have hE:=h! (hE.out.next hg3);clear hg3;rotate_left
   refine b! ?_;intro K hK;go_simp;refine hK.out _ _ (hE.out.alloc (.cells zr6 237)) ?_;clear hK;have hx0:=Ext.alloc wd (.cells zr6 237);have hA0:=Blk.made wd zr6 237;have hps0:=hE.out.below.size;have hE:=h! (hE.out.alloc (.cells zr6 237));clear hx0;unfold zr6 at *;generalize wd.alloc (.cells #[.string ⟨#[]⟩,.string ⟨#[]⟩,.string ⟨#[]⟩,.string ⟨#[]⟩,.string ⟨#[]⟩,.string ⟨#[]⟩] 237)=u1 at *;generalize hpe0:wd.heap.size=pa at *;have hpa:=h! (show wd.heap.size<=pa from by first | exact Nat.le_of_eq hpe0 | exact hps0);clear hpe0 hps0;have hA:=h! hA0;clear hA0;refine p! 1 5 ?_ ?_;refine b! ?_;intro K hK;go_simp;refine(ofG_any ⟨⟨a1,a2,a3⟩,⟨a4,a5,a6⟩⟩ u1).mono ?_;rintro e u2 ⟨rfl,hg1⟩;refine hK.out _ _ (hE.out.next hg1) ?_;clear hK;unfold tV;dsimp only;have hA:=h! (hA.out.below hg1.below);have hE:=h! (hE.out.next hg1);clear hg1;refine p! 3 5 ?_ ?_;refine b! ?_;intro K hK;go_simp;refine(ofG_any ⟨⟨b1,b2,b3⟩,⟨b4,b5,b6⟩⟩ u2).mono ?_;rintro e u3 ⟨rfl,hg2⟩;refine hK.out _ _ (hE.out.next hg2) ?_;clear hK;unfold tV;dsimp only;have hA:=h! (hA.out.below hg2.below);have hE:=h! (hE.out.next hg2);clear hg2;refine o! 5 ?_;refine b! ?_;intro K hK;go_simp;refine hK.out _ _ (hE.out.alloc (.cells zr6 237)) ?_;clear hK;have hx3:=Ext.alloc u3 (.cells zr6 237);have hne:=h! (show pa≠u3.heap.size from Nat.ne_of_lt hA.out.lt);have hA:=h! (hA.out.below hx3);have hB0:=Blk.made u3 zr6 237;have hps3:=hE.out.below.size;have hE:=h! (hE.out.alloc (.cells zr6 237));clear hx3;unfold zr6 at *;generalize u3.alloc (.cells #[.string ⟨#[]⟩,.string ⟨#[]⟩,.string ⟨#[]⟩,.string ⟨#[]⟩,.string ⟨#[]⟩,.string ⟨#[]⟩] 237)=u4 at *;generalize hpe3:u3.heap.size=pb at *;have hpb:=h! (show wd.heap.size<=pb from by first | exact Nat.le_of_eq hpe3 | exact hps3);clear hpe3 hps3;have hB:=h! hB0;clear hB0;rotate_left
   refine b! ?_;intro K hK;go_simp;refine hK.out _ _ (hE.out.alloc (.cells zr6 237)) ?_;clear hK;have hx2:=Ext.alloc u2 (.cells zr6 237);have hne:=h! (show pa≠u2.heap.size from Nat.ne_of_lt hA.out.lt);have hA:=h! (hA.out.below hx2);have hB0:=Blk.made u2 zr6 237;have hps2:=hE.out.below.size;have hE:=h! (hE.out.alloc (.cells zr6 237));clear hx2;unfold zr6 at *;generalize u2.alloc (.cells #[.string ⟨#[]⟩,.string ⟨#[]⟩,.string ⟨#[]⟩,.string ⟨#[]⟩,.string ⟨#[]⟩,.string ⟨#[]⟩] 237)=u3 at *;generalize hpe2:u2.heap.size=pb at *;have hpb:=h! (show wd.heap.size<=pb from by first | exact Nat.le_of_eq hpe2 | exact hps2);clear hpe2 hps2;have hB:=h! hB0;clear hB0;refine o! 3 ?_;refine b! ?_;intro K hK;go_simp;refine(ofG_any ⟨⟨b1,b2,b3⟩,⟨b4,b5,b6⟩⟩ u3).mono ?_;rintro e u4 ⟨rfl,hg3⟩;refine hK.out _ _ (hE.out.next hg3) ?_;clear hK;unfold tV;dsimp only;have hA:=h! (hA.out.below hg3.below);have hB:=h! (hB.out.below hg3.below);have hE:=h! (hE.out.next hg3);clear hg3;rotate_left
   refine b! ?_;intro K hK;go_simp;refine hK.out _ _ (hE.out.alloc (.cells zr6 237)) ?_;clear hK;have hx1:=Ext.alloc u1 (.cells zr6 237);have hne:=h! (show pa≠u1.heap.size from Nat.ne_of_lt hA.out.lt);have hA:=h! (hA.out.below hx1);have hB0:=Blk.made u1 zr6 237;have hps1:=hE.out.below.size;have hE:=h! (hE.out.alloc (.cells zr6 237));clear hx1;unfold zr6 at *;generalize u1.alloc (.cells #[.string ⟨#[]⟩,.string ⟨#[]⟩,.string ⟨#[]⟩,.string ⟨#[]⟩,.string ⟨#[]⟩,.string ⟨#[]⟩] 237)=u2 at *;generalize hpe1:u1.heap.size=pb at *;have hpb:=h! (show wd.heap.size<=pb from by first | exact Nat.le_of_eq hpe1 | exact hps1);clear hpe1 hps1;have hB:=h! hB0;clear hB0;refine o! 1 ?_;refine b! ?_;intro K hK;go_simp;refine(ofG_any ⟨⟨a1,a2,a3⟩,⟨a4,a5,a6⟩⟩ u2).mono ?_;rintro e u3 ⟨rfl,hg2⟩;refine hK.out _ _ (hE.out.next hg2) ?_;clear hK;unfold tV;dsimp only;have hA:=h! (hA.out.below hg2.below);have hB:=h! (hB.out.below hg2.below);have hE:=h! (hE.out.next hg2);clear hg2;refine o! 3 ?_;refine b! ?_;intro K hK;go_simp;refine(ofG_any ⟨⟨b1,b2,b3⟩,⟨b4,b5,b6⟩⟩ u3).mono ?_;rintro e u4 ⟨rfl,hg3⟩;refine hK.out _ _ (hE.out.next hg3) ?_;clear hK;unfold tV;dsimp only;have hA:=h! (hA.out.below hg3.below);have hB:=h! (hB.out.below hg3.below);have hE:=h! (hE.out.next hg3);clear hg3;rotate_left
   refine b! ?_;intro K hK;go_simp;refine hK.out _ _ (hE.out.alloc (.cells zr6 237)) ?_;clear hK;have hx0:=Ext.alloc wd (.cells zr6 237);have hB0:=Blk.made wd zr6 237;have hps0:=hE.out.below.size;have hE:=h! (hE.out.alloc (.cells zr6 237));clear hx0;unfold zr6 at *;generalize wd.alloc (.cells #[.string ⟨#[]⟩,.string ⟨#[]⟩,.string ⟨#[]⟩,.string ⟨#[]⟩,.string ⟨#[]⟩,.string ⟨#[]⟩] 237)=u1 at *;generalize hpe0:wd.heap.size=pb at *;have hpb:=h! (show wd.heap.size<=pb from by first | exact Nat.le_of_eq hpe0 | exact hps0);clear hpe0 hps0;have hB:=h! hB0;clear hB0;refine p! 1 4 ?_ ?_;refine b! ?_;intro K hK;go_simp;refine(ofG_any ⟨⟨a1,a2,a3⟩,⟨a4,a5,a6⟩⟩ u1).mono ?_;rintro e u2 ⟨rfl,hg1⟩;refine hK.out _ _ (hE.out.next hg1) ?_;clear hK;unfold tV;dsimp only;have hB:=h! (hB.out.below hg1.below);have hE:=h! (hE.out.next hg1);clear hg1;refine p! 3 4 ?_ ?_;refine b! ?_;intro K hK;go_simp;refine(ofG_any ⟨⟨b1,b2,b3⟩,⟨b4,b5,b6⟩⟩ u2).mono ?_;rintro e u3 ⟨rfl,hg2⟩;refine hK.out _ _ (hE.out.next hg2) ?_;clear hK;unfold tV;dsimp only;have hB:=h! (hB.out.below hg2.below);have hE:=h! (hE.out.next hg2);clear hg2;refine o! 4 ?_;refine b! ?_;intro K hK;go_simp;refine hK.out _ _ (hE.out.alloc (.cells zr6 237)) ?_;clear hK;have hx3:=Ext.alloc u3 (.cells zr6 237);have hne:=h! (show u3.heap.size≠pb from fun e=>Nat.lt_irrefl _ (e▸hB.out.lt));have hB:=h! (hB.out.below hx3);have hA0:=Blk.made u3 zr6 237;have hps3:=hE.out.below.size;have hE:=h! (hE.out.alloc (.cells zr6 237));clear hx3;unfold zr6 at *;generalize u3.alloc (.cells #[.string ⟨#[]⟩,.string ⟨#[]⟩,.string ⟨#[]⟩,.string ⟨#[]⟩,.string ⟨#[]⟩,.string ⟨#[]⟩] 237)=u4 at *;generalize hpe3:u3.heap.size=pa at *;have hpa:=h! (show wd.heap.size<=pa from by first | exact Nat.le_of_eq hpe3 | exact hps3);clear hpe3 hps3;have hA:=h! hA0;clear hA0;rotate_left
   refine b! ?_;intro K hK;go_simp;refine hK.out _ _ (hE.out.alloc (.cells zr6 237)) ?_;clear hK;have hx2:=Ext.alloc u2 (.cells zr6 237);have hne:=h! (show u2.heap.size≠pb from fun e=>Nat.lt_irrefl _ (e▸hB.out.lt));have hB:=h! (hB.out.below hx2);have hA0:=Blk.made u2 zr6 237;have hps2:=hE.out.below.size;have hE:=h! (hE.out.alloc (.cells zr6 237));clear hx2;unfold zr6 at *;generalize u2.alloc (.cells #[.string ⟨#[]⟩,.string ⟨#[]⟩,.string ⟨#[]⟩,.string ⟨#[]⟩,.string ⟨#[]⟩,.string ⟨#[]⟩] 237)=u3 at *;generalize hpe2:u2.heap.size=pa at *;have hpa:=h! (show wd.heap.size<=pa from by first | exact Nat.le_of_eq hpe2 | exact hps2);clear hpe2 hps2;have hA:=h! hA0;clear hA0;refine o! 3 ?_;refine b! ?_;intro K hK;go_simp;refine(ofG_any ⟨⟨b1,b2,b3⟩,⟨b4,b5,b6⟩⟩ u3).mono ?_;rintro e u4 ⟨rfl,hg3⟩;refine hK.out _ _ (hE.out.next hg3) ?_;clear hK;unfold tV;dsimp only;have hA:=h! (hA.out.below hg3.below);have hB:=h! (hB.out.below hg3.below);have hE:=h! (hE.out.next hg3);clear hg3;rotate_left
   refine b! ?_;intro K hK;go_simp;refine hK.out _ _ (hE.out.alloc (.cells zr6 237)) ?_;clear hK;have hx1:=Ext.alloc u1 (.cells zr6 237);have hne:=h! (show u1.heap.size≠pb from fun e=>Nat.lt_irrefl _ (e▸hB.out.lt));have hB:=h! (hB.out.below hx1);have hA0:=Blk.made u1 zr6 237;have hps1:=hE.out.below.size;have hE:=h! (hE.out.alloc (.cells zr6 237));clear hx1;unfold zr6 at *;generalize u1.alloc (.cells #[.string ⟨#[]⟩,.string ⟨#[]⟩,.string ⟨#[]⟩,.string ⟨#[]⟩,.string ⟨#[]⟩,.string ⟨#[]⟩] 237)=u2 at *;generalize hpe1:u1.heap.size=pa at *;have hpa:=h! (show wd.heap.size<=pa from by first | exact Nat.le_of_eq hpe1 | exact hps1);clear hpe1 hps1;have hA:=h! hA0;clear hA0;refine o! 1 ?_;refine b! ?_;intro K hK;go_simp;refine(ofG_any ⟨⟨a1,a2,a3⟩,⟨a4,a5,a6⟩⟩ u2).mono ?_;rintro e u3 ⟨rfl,hg2⟩;refine hK.out _ _ (hE.out.next hg2) ?_;clear hK;unfold tV;dsimp only;have hA:=h! (hA.out.below hg2.below);have hB:=h! (hB.out.below hg2.below);have hE:=h! (hE.out.next hg2);clear hg2;refine o! 3 ?_;refine b! ?_;intro K hK;go_simp;refine(ofG_any ⟨⟨b1,b2,b3⟩,⟨b4,b5,b6⟩⟩ u3).mono ?_;rintro e u4 ⟨rfl,hg3⟩;refine hK.out _ _ (hE.out.next hg3) ?_;clear hK;unfold tV;dsimp only;have hA:=h! (hA.out.below hg3.below);have hB:=h! (hB.out.below hg3.below);have hE:=h! (hE.out.next hg3);clear hg3;rotate_left
   all_goals
    refine o! 6 ?_;refine b! ?_;intro K hK;have hbf:=hA.out.cells;have hbz:=hA.out.free;go_simp;clear hbf hbz;refine hK.out _ _ (gr_set6 hE.out hpa.out _ _ _ _ _ _) ?_;clear hK;have hE:=h! (gr_set6 hE.out hpa.out (.string a1) (.string a2) (.string a3) (.string a4) (.string a5) (.string a6));have hA0:=hA.out.put6 (.string a1) (.string a2) (.string a3) (.string a4) (.string a5) (.string a6);have hB0:=hB.out.away6 (B':=pa) (Ne.symm hne.out) (.string a1) (.string a2) (.string a3) (.string a4) (.string a5) (.string a6);generalize ((((((u4.setCell ⟨pa,0,none⟩ (.string a1)).setCell ⟨pa,1,none⟩ (.string a2)).setCell ⟨pa,2,none⟩ (.string a3)).setCell ⟨pa,3,none⟩ (.string a4)).setCell ⟨pa,4,none⟩ (.string a5)).setCell ⟨pa,5,none⟩ (.string a6))=u5 at *;have hA:=h! hA0;have hB:=h! hB0;clear hA0 hB0;refine o! 7 ?_;refine b! ?_;intro K hK;have hbf:=hB.out.cells;have hbz:=hB.out.free;go_simp;clear hbf hbz;refine hK.out _ _ (gr_set6 hE.out hpb.out _ _ _ _ _ _) ?_;clear hK;have hE:=h! (gr_set6 hE.out hpb.out (.string b1) (.string b2) (.string b3) (.string b4) (.string b5) (.string b6));have hB0:=hB.out.put6 (.string b1) (.string b2) (.string b3) (.string b4) (.string b5) (.string b6);have hA0:=hA.out.away6 (B':=pb) hne.out (.string b1) (.string b2) (.string b3) (.string b4) (.string b5) (.string b6);generalize ((((((u5.setCell ⟨pb,0,none⟩ (.string b1)).setCell ⟨pb,1,none⟩ (.string b2)).setCell ⟨pb,2,none⟩ (.string b3)).setCell ⟨pb,3,none⟩ (.string b4)).setCell ⟨pb,4,none⟩ (.string b5)).setCell ⟨pb,5,none⟩ (.string b6))=u6 at *;have hA:=h! hA0;have hB:=h! hB0;clear hA0 hB0;refine d! ?_;exact⟨rfl,pa,pb,rfl,hA.out,hB.out,hE0.out.next hE.out⟩
  ·rintro a' W ⟨x,y,rfl,hA,hB,hG⟩;have HA:=h! hA;have HB:=h! hB;have HG:=h! hG;clear hA hB hG HG1 HA1 HB1;go_wp2_with fail
   go_loopw [7,8,16] (fun _ _ iv wr=>∃ i:Nat,i<=6/\iv = .int .i64 i/\(∀ j,j<i->cmpS (ta j) (tb j)=0)/\Blk wr x #[.string a1,.string a2,.string a3,.string a4,.string a5,.string a6] 237/\Blk wr y #[.string b1,.string b2,.string b3,.string b4,.string b5,.string b6] 237/\Gr w wr) (fun _ _ iv _=>6-(intOf iv).toNat)
   case atStart=>exact⟨0,Nat.zero_le _,rfl,(fun j h=>absurd h (Nat.not_lt_zero j)),HA.out,HB.out,HG.out⟩
   case round =>
    obtain⟨i,hi,rfl,hall,hA,hB,hG⟩:=hrel;have HALL:=h! hall;have RA:=h! hA;have RB:=h! hB;have RG:=h! hG;clear HA HB HG hall hA hB hG;by_cases hlt:i<6
    ·have HLT:=h! hlt;have hia:=HTA.out i hlt;have hib:=HTB.out i hlt;have hi6:(i:Int)<6:=by omega
     have hi0:(0:Int)<=(i:Int):=by omega
     have HFI:=h! (HF.out i hlt HALL.out)
     have HNX:=h! (show cmpS (ta i) (tb i)=0->∀ j,j<i+1->cmpS (ta j) (tb j)=0 from fun h0 j hj=>by
      rcases Nat.lt_succ_iff_lt_or_eq.1 hj with h | rfl
      ·exact HALL.out j h
      ·exact h0)
     generalize ta i=sa at *;generalize tb i=sb at *;clear hlt hi;go_wp2_with fail
     obtain⟨wd,hwd⟩:∃ wd:World,wd=wr.drew:=⟨_,rfl⟩;have DG:=h! (show Gr w wd from by rw[hwd];exact RG.out.drew);have DA:=h! (show Blk wd x _ _ from by rw[hwd];exact RA.out.drew);have DB:=h! (show Blk wd y _ _ from by rw[hwd];exact RB.out.drew);refine r! (Ext wd) (by rw[<- hwd];exact Ext.refl _) ?_;rw[<- hwd];clear hwd RA RB RG;have h1:∀ W,Ext wd W->W.cell? ⟨x,i,none⟩=some (.string sa):=fun W h=>((DA.out.below h).cells i).trans hia;have h2:∀ W,Ext wd W->W.cell? ⟨y,i,none⟩=some (.string sb):=fun W h=>((DB.out.below h).cells i).trans hib;(refine WalkN.tk [0,1,2,3,4,5] ?_;(iterate 6 (refine c! ?_));refine TkN.n ?_)
     clear h1 h2 hia hib;refine o! 6 ?_;refine b! ?_;intro K hK;go_simp;refine(compareS_any sa sb wd).mono ?_;rintro e w2 ⟨rfl,rfl⟩;rw[cB_cmpS];refine hK.out _ _ (Ext.refl _) ?_;clear hK;refine t! 7 ?_
     refine d! ?_;by_cases hz:cmpS sa sb=0
     ·have HZ:=h! (HNX.out hz);rw[hz];clear hz;go_wp2_with fail
      go_roundw
      case rel=>exact⟨i+1,HLT.out,by go_num,HZ.out,DA.out,DB.out,DG.out⟩
      case measure=>have:=HLT.out;simp[intOf];omega
     ·have HZ:=h! (HFI.out hz);generalize cmpS sa sb=cz at *;have hcz:(cz != 0)=true:=by simpa using hz
      go_wp2_with fail
      go_ret
      exact⟨by rw[HZ.out];rfl,DG.out⟩
    ·obtain rfl:i=6:=by omega
     have HZ:=h! (HN.out HALL.out);go_wp2_with fail
     go_ret
     exact⟨by rw[HZ.out];rfl,RG.out⟩
theorem tuC_one (x:Tup):∀ u∈tuC x,u.oneCell'=true:=by
 intro u hu;simp only[tuC,List.mem_cons,List.not_mem_nil,or_false]at hu;rcases hu with rfl | rfl | rfl | rfl | rfl | rfl <;> rfl
theorem sortT_any {w:World} {B:Nat} {v:Value} {l:List Tup} (h:Own w B 67 6 v (tuCs l))(hl:l.length<4611686018427387904) :
  Calls Tryz.prog 137 #[v,.func (.func 78) #[] #[]] w fun e w'=>e = .returned (.tuple #[])/\∃ l':List Tup,l'.Perm l/\(l'.Pairwise fun a b=>ltT b a=false)/\Own w' B 67 6 v (tuCs l')/\Kept (fun b=>b<w.heap.size/\v.ownBlock≠some b) w w':=by
 refine Calls.mono (sort_own Tryz.sortT tuC 6 tuC_length (by decide) tuC_one Tryz.isAgg67 Tryz.sizeOf67 cmpC swoC 78 #[] (enters_of Tryz.func78 (by kernel_rfl) rfl) (fun W x y=>cmpTup_any x y W) h hl) ?_;rintro e w' ⟨rfl,l',hp,hs,ho,hk⟩;exact⟨rfl,l',hp,hs.imp fun {a b} h=>by rw[<- lt_cmpC];exact h,ho,hk⟩
theorem sortedT_any (w:World)(Bs:Nat)(ao:Option Addr)(cap:Nat)(zs:List Tup)(hl:zs.length<=137438953472)(hBs:Bs<w.heap.size)(hc:w.cell? ⟨Bs,0,none⟩=some (.slice ao zs.length cap))(hS:Sl (· < w.heap.size) w 6 (.slice ao zs.length cap) (zs.flatMap tuC)) :
  Calls Tryz.prog 76 #[.func (.func 138) #[] #[.pointer (some ⟨Bs,0,none⟩)],.func (.func 78) #[] #[]] w fun e w'=>∃ (v':Value) (l:List Tup),e = .returned v'/\l.Perm zs/\(l.Pairwise fun a b=>ltT b a=false)/\Own w' w.heap.size 67 6 v' (tuCs l)/\Ext w w':=by
 have HP:=h! (collectT_any w Bs ao cap zs hl hBs hc hS);clear hS hc;go_enter Tryz.func76,Tryz.ntmps76
 go_wp2_with fail
 refine HP.out.mono ?_;rintro e w1 ⟨v,rfl,ho,hb⟩;have HP2:=h! (sortT_any ho (by omega));go_wp2_with fail
 refine HP2.out.mono ?_;rintro e w2 ⟨rfl,l',hp',hu,ho',hk'⟩;go_wp2
 go_ret
 exact⟨v,l',rfl,hp',hu,ho',Below.trans (show Below w.heap.size w w1 from hb) (Kept.below (B:=w.heap.size) hk' fun b hb'=>⟨Nat.lt_of_lt_of_le hb' hb.size,fun e=>by have:=(ho.block b e).1;omega⟩)⟩
def ddN (l:List Tup):Nat->List Tup
 | 0 => []
 | m+1=>ddN l m++(if m=0\/l[m]?≠l[m-1]? then l[m]?.toList else [])
def dd (l:List Tup):List Tup:=ddN l l.length
theorem ddN_mem (l:List Tup)(x:Tup):∀ m,x∈ddN l m↔∃ j,j<m/\l[j]?=some x:=by
 intro m;induction m with
 | zero=>simp[ddN]
 | succ m ih =>
  rw[ddN,List.mem_append,ih];constructor
  ·rintro(⟨j,hj,h⟩ | h)
   ·exact⟨j,by omega,h⟩
   ·split at h
    ·exact⟨m,Nat.lt_succ_self m,by simpa using h⟩
    ·cases h
  ·rintro⟨j,hj,h⟩;by_cases hjm:j<m
   ·exact .inl ⟨j,hjm,h⟩
   ·obtain rfl:j=m:=by omega
    by_cases hc:j=0\/l[j]?≠l[j-1]?
    ·rw[if_pos hc];exact .inr (by simp[h])
    ·left
     have h0:j≠0:=fun e=>hc (.inl e);have h1:l[j]?=l[j-1]?:=Classical.byContradiction fun e=>hc (.inr e);exact⟨j-1,by omega,by rw[<- h1];exact h⟩
theorem dd_mem (l:List Tup)(x:Tup):x∈dd l↔x∈l:=by
 unfold dd;rw[ddN_mem,List.mem_iff_getElem?];constructor
 ·rintro⟨j,_,h⟩;exact⟨j,h⟩
 ·rintro⟨j,h⟩;exact⟨j,(List.getElem?_eq_some_iff.1 h).1,h⟩
theorem ddN_up (l:List Tup)(hs:l.Pairwise fun a b=>ltT b a=false):∀ m,m<=l.length->UpT (ddN l m)
 | 0,_=>List.Pairwise.nil
 | m+1,hm=>by
  have ih:=ddN_up l hs m (by omega);rw[ddN];split
  ·next hc =>
   have hlm:l[m]?=some l[m]:=List.getElem?_eq_getElem (by omega);rw[hlm];unfold UpT;rw[List.pairwise_append];refine⟨ih,by simp,fun x hx y hy=>?_⟩;obtain rfl:y=l[m]:=by simpa using hy
   obtain⟨j,hj,hjx⟩:=(ddN_mem l x m).1 hx;obtain⟨hjl,rfl⟩:=List.getElem?_eq_some_iff.1 hjx;have hp:=fun(a b:Nat) (ha:a<l.length) (hb:b<l.length) (hab:a<b)=>List.pairwise_iff_getElem.1 hs a b ha hb hab;have h1:=hp j m hjl (by omega) hj;cases h2:ltT l[j] l[m] with
   | true=>rfl
   | false =>
    exfalso
    have heq:l[j]=l[m]:=Classical.byContradiction fun e=>by
     have:=ltT_total h2 e;rw[this]at h1;cases h1
    have hm0:m≠0:=by omega
    rcases hc with hc | hc
    ·exact hm0 hc
    ·apply hc;have hl1:l[m-1]?=some (l[m-1]'(by omega)):=List.getElem?_eq_getElem _;rw[hlm,hl1];congr 1
     by_cases hj1:j=m-1
     ·subst hj1;exact heq.symm
     ·have h3:=hp j (m-1) hjl (by omega) (by omega);have h4:=hp (m-1) m (by omega) (by omega) (by omega);refine Classical.byContradiction fun e=>?_
      have h5:ltT (l[m-1]'(by omega)) l[j]=true:=by
       have h6:ltT l[j] (l[m-1]'(by omega))=false:=by rw[heq];exact h4
       exact ltT_total h6 (fun e2=>e (by rw[<- heq,e2]))
      rw[h5]at h3;cases h3
  ·simpa using ih
theorem dd_up {l:List Tup} (hs:l.Pairwise fun a b=>ltT b a=false):UpT (dd l):=ddN_up l hs _ (Nat.le_refl _)
theorem ddN_same (l:List Tup):∀ m,m<=l.length->(∀ j,0<j->j<m->l[j]?≠l[j-1]?)->ddN l m=l.take m
 | 0,_,_=>by simp[ddN]
 | m+1,hm,h=>by
  rw[ddN,ddN_same l m (by omega) fun j h0 h1=>h j h0 (by omega),List.take_add_one];congr 1
  rw[if_pos];by_cases h0:m=0
  ·exact .inl h0
  ·exact .inr (h m (by omega) (by omega))
theorem set_of {l s:List Tup} (hp:s.Perm l)(hs:s.Pairwise fun a b=>ltT b a=false):SetT l ((dd s).filter fun t=>chkT t) :=
 ⟨(dd_up hs).filter _,fun t=>by rw[List.mem_filter,dd_mem,hp.mem_iff]⟩
theorem Own.setAtT {w:World} {B:Nat} {e:TypeId} {sz:Nat} {g n c:Nat} {xs:List Value} (h:Own w B e sz (.slice (some ⟨g,0,none⟩) n c) xs)(i:Nat)(u:Value):Own (w.setCell ⟨g,i,none⟩ u) B e sz (.slice (some ⟨g,0,none⟩) n c) (xs.set i u):=by
 obtain⟨m,h⟩:=h;rcases h.2 with⟨hv,rfl⟩ | ⟨g',cap,cur,hv,hbg,hg,hnc,hcm,hcs,htake⟩
 ·cases hv
 ·cases hv;refine⟨n,by rw[List.length_set];exact h.1,.inr ⟨g,c,cur.setIfInBounds i u,rfl,hbg,heap_setCell_same w g i cur e u hg,hnc,hcm,by simpa using hcs,?_⟩⟩;rw[Array.toList_setIfInBounds,<- htake,List.take_set]
def setL (xs:List Value):Nat->List Value->List Value
 | _,[]=>xs
 | o,v::r=>setL (xs.set o v) (o+1) r
theorem setL_take:∀ (vs:List Value)(xs:List Value)(o m:Nat),m<=o->(setL xs o vs).take m=xs.take m
 | [],_,_,_,_=>rfl
 | v::r,xs,o,m,h=>by
  rw[setL,setL_take r (xs.set o v) (o+1) m (by omega),List.take_set_of_le h]
theorem Own.setMany {B:Nat} {e:TypeId} {sz:Nat} {g n c:Nat}:∀ (vs:List Value) {w:World} {xs:List Value} (o:Nat),Own w B e sz (.slice (some ⟨g,0,none⟩) n c) xs->Own (w.setCells g o vs) B e sz (.slice (some ⟨g,0,none⟩) n c) (setL xs o vs)
 | [],_,_,_,h=>h
 | v::r,w,xs,o,h=>by
  rw[World.setCells,setL];exact Own.setMany r (o+1) (h.setAtT o v)
theorem setCells_other (g:Nat):∀ (vs:List Value)(w:World)(o:Nat) {x:Nat},x≠g->(w.setCells g o vs).heap[x]?=w.heap[x]?
 | [],_,_,_,_=>rfl
 | v::r,w,o,x,h=>by
  rw[World.setCells,setCells_other g r _ _ h,Below.heap_setCell _ _ _ x h]
theorem setCells_fields (g:Nat):∀ (vs:List Value)(w:World)(o:Nat),(w.setCells g o vs).os=w.os/\(w.setCells g o vs).tape=w.tape/\(w.setCells g o vs).output=w.output/\(w.setCells g o vs).heap.size=w.heap.size
 | [],_,_=>⟨rfl,rfl,rfl,rfl⟩
 | v::r,w,o=>by
  obtain⟨h1,h2,h3,h4⟩:=setCells_fields g r (w.setCell ⟨g,o,none⟩ v) (o+1);rw[World.setCells];exact⟨h1,h2,h3,by rw[h4];simp⟩
theorem Own.cutT {w:World} {B:Nat} {e:TypeId} {sz:Nat} {g n c:Nat} {xs:List Value} (h:Own w B e sz (.slice (some ⟨g,0,none⟩) n c) xs) {k:Nat} (hk:k<=n):Own w B e sz (.slice (some ⟨g,0,none⟩) k c) (xs.take (k*sz)):=by
 obtain⟨m,h⟩:=h;rcases h.2 with⟨hv,rfl⟩ | ⟨g',cap,cur,hv,hbg,hg,hnc,hcm,hcs,htake⟩
 ·cases hv
 ·cases hv;have hl:=h.1;have hks:k*sz<=n*sz:=Nat.mul_le_mul_right _ hk;refine⟨k,by rw[List.length_take];omega,.inr ⟨g,c,cur,rfl,hbg,hg,by omega,hcm,hcs,?_⟩⟩;rw[<- htake,List.take_take,Nat.min_eq_left hks]
theorem tuCs_take (l:List Tup)(k:Nat):(tuCs l).take (k*6)=tuCs (l.take k):=by
 induction l generalizing k with
 | nil=>simp[tuCs]
 | cons x l ih =>
  cases k with
  | zero=>simp[tuCs]
  | succ k =>
   have:tuCs (x::l)=tuC x++tuCs l:=by simp[tuCs]
   rw[this,show(k+1)*6=(tuC x).length+k*6 by rw[tuC_length];omega,List.take_length_add_append,ih,List.take_succ_cons];simp[tuCs]
theorem tuCs_set (l:List Tup)(k:Nat)(x:Tup)(hk:k<l.length):((((((tuCs l).set (k*6) (.string x.o.t)).set (k*6+1) (.string x.o.i)).set (k*6+2) (.string x.o.r)).set (k*6+3) (.string x.s.t)).set (k*6+4) (.string x.s.i)).set (k*6+5) (.string x.s.r)=tuCs (l.set k x):=by
 induction l generalizing k with
 | nil=>simp at hk
 | cons y l ih =>
  have e:∀ (z:Tup) (m:List Tup),tuCs (z::m) = .string z.o.t :: .string z.o.i :: .string z.o.r :: .string z.s.t :: .string z.s.i :: .string z.s.r::tuCs m:=fun z m=>by simp[tuCs,tuC]
  cases k with
  | zero=>rw[List.set_cons_zero,e,e];rfl
  | succ k =>
   rw[List.set_cons_succ,e,e,<- ih k (by simpa using hk)];have h1:(k+1)*6=k*6+6:=by omega
   rw[h1];simp only[show ∀ a,k*6+6+a=k*6+a+6 from fun a=>by omega,List.set_cons_succ]
theorem Own.setTup {w:World} {B:Nat} {g n c:Nat} {l:List Tup} (h:Own w B 67 6 (.slice (some ⟨g,0,none⟩) n c) (tuCs l))(k:Nat)(x:Tup)(hk:k<l.length):Own ((((((w.setCell ⟨g,k*6,none⟩ (.string x.o.t)).setCell ⟨g,k*6+1,none⟩ (.string x.o.i)).setCell ⟨g,k*6+2,none⟩ (.string x.o.r)).setCell ⟨g,k*6+3,none⟩ (.string x.s.t)).setCell ⟨g,k*6+4,none⟩ (.string x.s.i)).setCell ⟨g,k*6+5,none⟩ (.string x.s.r)) B 67 6 (.slice (some ⟨g,0,none⟩) n c) (tuCs (l.set k x)):=by
 rw[<- tuCs_set l k x hk];exact(((((h.setAtT _ _).setAtT _ _).setAtT _ _).setAtT _ _).setAtT _ _).setAtT _ _
theorem Own.tupAt {w:World} {B:Nat} {g n c:Nat} {l:List Tup} (h:Own w B 67 6 (.slice (some ⟨g,0,none⟩) n c) (tuCs l))(k:Nat)(hk:k<l.length):w.cell? ⟨g,k*6,none⟩=some (.string l[k].o.t)/\w.cell? ⟨g,k*6+1,none⟩=some (.string l[k].o.i)/\w.cell? ⟨g,k*6+2,none⟩=some (.string l[k].o.r)/\w.cell? ⟨g,k*6+3,none⟩=some (.string l[k].s.t)/\w.cell? ⟨g,k*6+4,none⟩=some (.string l[k].s.i)/\w.cell? ⟨g,k*6+5,none⟩=some (.string l[k].s.r):=by
 obtain⟨ao,c',he,-,-,hcell⟩:=Sl.rows tuC_length (by decide) (show Sl _ w 6 _ (l.flatMap tuC)from h.sl);cases he;obtain⟨b,off,he2,-,hcell⟩:=hcell (by omega);cases he2;have hc:=hcell k hk;refine⟨?_,?_,?_,?_,?_,?_⟩
 ·have:=hc 0 _ rfl;simpa using this
 ·have:=hc 1 _ rfl;simpa using this
 ·have:=hc 2 _ rfl;simpa using this
 ·have:=hc 3 _ rfl;simpa using this
 ·have:=hc 4 _ rfl;simpa using this
 ·have:=hc 5 _ rfl;simpa using this
theorem clearT {w:World} {B:Nat} {g n c:Nat} {R:List Tup} (h:Own w B 67 6 (.slice (some ⟨g,0,none⟩) n c) (tuCs R))(hn:n=R.length)(q:Nat)(hq:q<n)(ty:TypeId)(c':Nat) :
  ∃ vs,(Builtin.clear_ #[27] ty #[.slice (some ⟨g,q*6,none⟩) (n-q) c']).run Tryz.prog w = .ok (.tuple #[]) (w.setCells g (q*6) vs):=by
 obtain⟨cur,hcur⟩:=h.typed (g:=g) rfl;have hfr:=Blk.free (show Blk w g cur 67 from hcur);obtain⟨N,ho⟩:=h;have hcells:=ho.cells (g:=g) rfl;have hz:=Tryz.zeroValue67;refine⟨(Builtin.zeroCells (Value.agg #[.string ⟨#[]⟩,.string ⟨#[]⟩,.string ⟨#[]⟩,.string ⟨#[]⟩,.string ⟨#[]⟩,.string ⟨#[]⟩]).cells (n-q)).toList,?_⟩
 have hlen:(Builtin.zeroCells (Value.agg #[.string ⟨#[]⟩,.string ⟨#[]⟩,.string ⟨#[]⟩,.string ⟨#[]⟩,.string ⟨#[]⟩,.string ⟨#[]⟩]).cells (n-q)).toList.length=(n-q)*6:=by
  simp[Builtin.zeroCells,Value.cells]
 have hst:=run_storeCells_cells (P:=Tryz.prog) g (q*6) (Builtin.zeroCells (Value.agg #[.string ⟨#[]⟩,.string ⟨#[]⟩,.string ⟨#[]⟩,.string ⟨#[]⟩,.string ⟨#[]⟩,.string ⟨#[]⟩]).cells (n-q)).toList 0 w
  (fun j hj=>by
   rw[hlen]at hj;have hjl:q*6+j<(tuCs R).length:=by rw[tuCs_length];omega
   have:=hcells (q*6+j) _ (List.getElem?_eq_getElem hjl);rw[Addr.add_lit,Nat.zero_add]at this;simp only[Nat.add_zero];rw[this];rfl)
  (fun j hj=>hfr _)
  (by
   intro v hv;simp only[Builtin.zeroCells,Value.cells,Array.toList_map,Array.toList_range,List.mem_map,List.mem_range]at hv;obtain⟨i,hi,rfl⟩:=hv;have:i % 6<6:=Nat.mod_lt _ (by decide);match i % 6,this with
   | 0,_=>rfl
   | 1,_=>rfl
   | 2,_=>rfl
   | 3,_=>rfl
   | 4,_=>rfl
   | 5,_=>rfl)
 simp only[Nat.add_zero]at hst;obtain⟨m,hm⟩:∃ m,n-q=m+1:=⟨n-q-1,by omega⟩;rw[hm]at hst ⊢;simp[Builtin.clear_,run_underlying Tryz.underlying27,hz,hst]
end Go.Proofs.YtlhaghoajpglaaaGreat
