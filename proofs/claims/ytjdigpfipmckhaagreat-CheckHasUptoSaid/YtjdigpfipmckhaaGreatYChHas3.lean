/- Lemmas for the claim, no condition. -/
import Derived.Lib.Hide
import Derived.Sort.Walk0
import Derived.Shelf.SlSortCmp.WholeK
import Derived.Shelf.SlSortCmp.NoneTotal
import Derived.Ground.SlsfProg
import Derived.Test.YtjdigpfipmckhaaGreatProg
import Derived.Test.YtjdigpfipmckhaaGreatYChHas1
import Derived.Test.YtjdigpfipmckhaaGreatYChHas0
import Derived.Test.YtjdigpfipmckhaaGreatYChHas2
namespace Go.Proofs.YtjdigpfipmckhaaGreat
structure P3 where
 t:ByteArray
 i:ByteArray
 r:ByteArray
deriving DecidableEq
structure Tup where
 o:P3
 s:P3
deriving DecidableEq
instance:Inhabited P3:=⟨⟨ByteArray.empty,ByteArray.empty,ByteArray.empty⟩⟩
instance:Inhabited Tup:=⟨⟨default,default⟩⟩
def P3.isSet (p:P3):Prop:=p.r.size≠0
instance (p:P3):Decidable p.isSet:=by unfold P3.isSet;infer_instance
inductive Reach (U:P3->P3->Prop) (p:P3):P3->Prop
 | refl:Reach U p p
 | tail {x r:P3}:Reach U p x->U x r->Reach U p r
theorem Reach.mono {U U':P3->P3->Prop} (h:∀ a b,U a b->U' a b) {p x:P3} (hr:Reach U p x):Reach U' p x:=by
 induction hr with
 | refl=>exact .refl
 | tail _ hu ih=>exact .tail ih (h _ _ hu)
end Go.Proofs.YtjdigpfipmckhaaGreat
namespace Go.Proofs.YtjdigpfipmckhaaGreat
open Go Go.RowKit
def tV (t:Tup):Value := .agg #[.string t.o.t,.string t.o.i,.string t.o.r,.string t.s.t,.string t.s.i,.string t.s.r]
def P3.Ok (p:P3):Prop:=p.t.size<=maxLen/\p.i.size<=maxLen/\p.r.size<=maxLen
def Tup.Ok (t:Tup):Prop:=t.o.Ok/\t.s.Ok
def chkT (t:Tup):Bool:=isNm t.o.t&&isNm t.o.i&&isNm t.o.r&&isNm t.s.t&&isNm t.s.i&&(isNm t.s.r||decide (t.s.r.size=0))
def chkN (t:Tup):Int:=if chkT t then 0 else 2
set_option maxRecDepth 100000 in
set_option maxHeartbeats 1600000 in
theorem of_any (t:Tup)(w:World):Calls Tryz.prog 114 #[tV t] w fun e w'=>e = .returned (tV t)/\Below w.heap.size w w':=by
 obtain⟨⟨ot,oi,or_⟩,⟨st,si,sr⟩⟩:=t;have hb:=(Blk.made w #[.string ot,.string oi,.string or_,.string st,.string si,.string sr] 104);have h1:Below w.heap.size w (w.alloc (.cells #[.string ot,.string oi,.string or_,.string st,.string si,.string sr] 104)):=(Below.refl _ _).alloc (Nat.le_refl _) _;unfold tV;dsimp only;go_enter Tryz.func114,Tryz.ntmps114
 go_wp2_with fail
 refine bodyPost_ret (results_cell_row rfl _ _ (w.heap.size+1) 195 #[.string ot,.string oi,.string or_,.string st,.string si,.string sr] (0,0) _ rfl ?_ Tryz.underlying195 rfl (by kernel_rfl)) rfl ⟨rfl,h1.alloc h1.size _⟩;have:=heap_alloc_new (w.alloc (.cells #[.string ot,.string oi,.string or_,.string st,.string si,.string sr] 104)) (.cells #[.string ot,.string oi,.string or_,.string st,.string si,.string sr] 195);rwa[World.size_alloc]at this
theorem parts_at (a b c d e f:ByteArray)(W:World) :
  (Instr.index 195 (.agg #[.string a,.string b,.string c,.string d,.string e,.string f]) (.int .i64 0)).run Tryz.prog W = .ok (.string a) W /\
  (Instr.index 195 (.agg #[.string a,.string b,.string c,.string d,.string e,.string f]) (.int .i64 1)).run Tryz.prog W = .ok (.string b) W /\
  (Instr.index 195 (.agg #[.string a,.string b,.string c,.string d,.string e,.string f]) (.int .i64 2)).run Tryz.prog W = .ok (.string c) W /\
  (Instr.index 195 (.agg #[.string a,.string b,.string c,.string d,.string e,.string f]) (.int .i64 3)).run Tryz.prog W = .ok (.string d) W /\
  (Instr.index 195 (.agg #[.string a,.string b,.string c,.string d,.string e,.string f]) (.int .i64 4)).run Tryz.prog W = .ok (.string e) W /\
  (Instr.index 195 (.agg #[.string a,.string b,.string c,.string d,.string e,.string f]) (.int .i64 5)).run Tryz.prog W = .ok (.string f) W :=
 ⟨by kernel_rfl,by kernel_rfl,by kernel_rfl,by kernel_rfl,by kernel_rfl,by kernel_rfl⟩
set_option maxRecDepth 100000 in
set_option maxHeartbeats 3200000 in
theorem check_any (t:Tup)(ht:t.Ok)(w:World):Calls Tryz.prog 59 #[tV t] w fun e w'=>e = .returned (.int .i64 (chkN t))/\Below w.heap.size w w':=by
 obtain⟨⟨ot,oi,or_⟩,⟨st,si,sr⟩⟩:=t;have HOK:=h! ht;clear ht;have hb1:=(Blk.made w #[.string ot,.string oi,.string or_,.string st,.string si,.string sr] 104).cells;have HE:=h! (show Below w.heap.size w (w.alloc (.cells #[.string ot,.string oi,.string or_,.string st,.string si,.string sr] 104))from(Below.refl _ _).alloc (Nat.le_refl _) _);have HOF:=h! (of_any ⟨⟨ot,oi,or_⟩,⟨st,si,sr⟩⟩ (w.alloc (.cells #[.string ot,.string oi,.string or_,.string st,.string si,.string sr] 104)));unfold tV at HOF ⊢;dsimp only at HOF ⊢;unfold Tup.Ok P3.Ok at HOK;dsimp only at HOK;go_enter Tryz.func59,Tryz.ntmps59
 go_wp2_with fail
 refine HOF.out.mono ?_;rintro e w2 ⟨rfl,hb2⟩;have HBW:=h! (HE.out.trans (hb2.mono HE.out.size));clear HE HOF hb2 hb1;obtain⟨p0,p1,p2,p3,p4,p5⟩:=parts_at ot oi or_ st si sr w2;go_wp2_with fail
 refine wp_loop_rounds 7 ?_;rw[rounds_succ];go_wp2_with fail
 refine(isName_any ot HOK.out.1.1 _).mono ?_;rintro e w' ⟨rfl,rfl⟩;rcases hb0:isNm ot with _ | _
 ·have HB:=h! hb0;clear hb0;go_wp2_with fail
  go_ret
  exact⟨congrArg (fun n=>Ending.returned (.int .i64 n)) (show(2:Int)=chkN ⟨⟨ot,oi,or_⟩,⟨st,si,sr⟩⟩from by simp[chkN,chkT,HB.out]),HBW.out⟩
 have HB0:=h! hb0;clear hb0;go_wp2_with fail
 rw[rounds_succ];go_wp2_with fail
 refine(isName_any oi HOK.out.1.2.1 _).mono ?_;rintro e w' ⟨rfl,rfl⟩;rcases hb1:isNm oi with _ | _
 ·have HB:=h! hb1;clear hb1;go_wp2_with fail
  go_ret
  exact⟨congrArg (fun n=>Ending.returned (.int .i64 n)) (show(2:Int)=chkN ⟨⟨ot,oi,or_⟩,⟨st,si,sr⟩⟩from by simp[chkN,chkT,HB.out]),HBW.out⟩
 have HB1:=h! hb1;clear hb1;go_wp2_with fail
 rw[rounds_succ];go_wp2_with fail
 refine(isName_any or_ HOK.out.1.2.2 _).mono ?_;rintro e w' ⟨rfl,rfl⟩;rcases hb2:isNm or_ with _ | _
 ·have HB:=h! hb2;clear hb2;go_wp2_with fail
  go_ret
  exact⟨congrArg (fun n=>Ending.returned (.int .i64 n)) (show(2:Int)=chkN ⟨⟨ot,oi,or_⟩,⟨st,si,sr⟩⟩from by simp[chkN,chkT,HB.out]),HBW.out⟩
 have HB2:=h! hb2;clear hb2;go_wp2_with fail
 rw[rounds_succ];go_wp2_with fail
 refine(isName_any st HOK.out.2.1 _).mono ?_;rintro e w' ⟨rfl,rfl⟩;rcases hb3:isNm st with _ | _
 ·have HB:=h! hb3;clear hb3;go_wp2_with fail
  go_ret
  exact⟨congrArg (fun n=>Ending.returned (.int .i64 n)) (show(2:Int)=chkN ⟨⟨ot,oi,or_⟩,⟨st,si,sr⟩⟩from by simp[chkN,chkT,HB.out]),HBW.out⟩
 have HB3:=h! hb3;clear hb3;go_wp2_with fail
 rw[rounds_succ];go_wp2_with fail
 refine(isName_any si HOK.out.2.2.1 _).mono ?_;rintro e w' ⟨rfl,rfl⟩;rcases hb4:isNm si with _ | _
 ·have HB:=h! hb4;clear hb4;go_wp2_with fail
  go_ret
  exact⟨congrArg (fun n=>Ending.returned (.int .i64 n)) (show(2:Int)=chkN ⟨⟨ot,oi,or_⟩,⟨st,si,sr⟩⟩from by simp[chkN,chkT,HB.out]),HBW.out⟩
 have HB4:=h! hb4;clear hb4;go_wp2_with fail
 rw[rounds_succ];go_wp2_with fail
 refine(isName_any sr HOK.out.2.2.2 _).mono ?_;rintro e w' ⟨rfl,rfl⟩;rcases hb5:isNm sr with _ | _
 ·have HB5:=h! hb5;clear hb5;by_cases h0:sr.size=0
  ·obtain rfl:=ba_size_eq h0;clear h0;go_wp2_with fail
   rw[rounds_succ];go_wp2_with fail
   go_ret
   exact⟨congrArg (fun n=>Ending.returned (.int .i64 n)) (show(0:Int)=chkN ⟨⟨ot,oi,or_⟩,⟨st,si,⟨#[]⟩⟩⟩from by simp[chkN,chkT,HB0.out,HB1.out,HB2.out,HB3.out,HB4.out,show(ByteArray.mk #[]).size=0 from rfl]),HBW.out⟩
  ·have hne:=ba_size_ne h0;have H0:=h! h0;clear h0;go_wp2_with fail
   go_ret
   exact⟨congrArg (fun n=>Ending.returned (.int .i64 n)) (show(2:Int)=chkN ⟨⟨ot,oi,or_⟩,⟨st,si,sr⟩⟩from by simp[chkN,chkT,HB5.out,H0.out]),HBW.out⟩
 ·have HB5:=h! hb5;clear hb5;go_wp2_with fail
  rw[rounds_succ];go_wp2_with fail
  go_ret
  exact⟨congrArg (fun n=>Ending.returned (.int .i64 n)) (show(0:Int)=chkN ⟨⟨ot,oi,or_⟩,⟨st,si,sr⟩⟩from by simp[chkN,chkT,HB0.out,HB1.out,HB2.out,HB3.out,HB4.out,HB5.out]),HBW.out⟩
set_option maxRecDepth 100000 in
set_option maxHeartbeats 1600000 in
theorem parts_any (t:Tup)(w:World):Calls Tryz.prog 50 #[tV t] w fun e w'=>e = .returned (.slice (some ⟨w.heap.size+1,0,none⟩) 6 6) /\
  Blk w' (w.heap.size+1) #[.string t.o.t,.string t.o.i,.string t.o.r,.string t.s.t,.string t.s.i,.string t.s.r] 9/\Below w.heap.size w w':=by
 obtain⟨⟨ot,oi,or_⟩,⟨st,si,sr⟩⟩:=t;have hb:=(Blk.made w #[.string ot,.string oi,.string or_,.string st,.string si,.string sr] 104);have h1:Below w.heap.size w (w.alloc (.cells #[.string ot,.string oi,.string or_,.string st,.string si,.string sr] 104)):=(Below.refl _ _).alloc (Nat.le_refl _) _;unfold tV;dsimp only;go_enter Tryz.func50,Tryz.ntmps50
 go_wp2_with fail
 go_ret
 refine⟨rfl,?_,h1.alloc h1.size _⟩;have:=heap_alloc_new (w.alloc (.cells #[.string ot,.string oi,.string or_,.string st,.string si,.string sr] 104)) (.cells #[.string ot,.string oi,.string or_,.string st,.string si,.string sr] 9);rwa[World.size_alloc]at this
set_option maxRecDepth 100000 in
set_option maxHeartbeats 3200000 in
theorem refCheck_any (t:Tup)(ht:t.Ok)(w:World):Calls Tryz.prog 64 #[tV t] w fun e w'=>e = .returned (.int .i64 (chkN t))/\Below w.heap.size w w':=by
 obtain⟨⟨ot,oi,or_⟩,⟨st,si,sr⟩⟩:=t;have HOK:=h! ht;clear ht;have hb1:=(Blk.made w #[.string ot,.string oi,.string or_,.string st,.string si,.string sr] 104).cells;have HE:=h! (show Below w.heap.size w (w.alloc (.cells #[.string ot,.string oi,.string or_,.string st,.string si,.string sr] 104))from(Below.refl _ _).alloc (Nat.le_refl _) _);have HOF:=h! (parts_any ⟨⟨ot,oi,or_⟩,⟨st,si,sr⟩⟩ (w.alloc (.cells #[.string ot,.string oi,.string or_,.string st,.string si,.string sr] 104)));unfold tV at HOF ⊢;dsimp only at HOF ⊢;unfold Tup.Ok P3.Ok at HOK;dsimp only at HOK;go_enter Tryz.func64,Tryz.ntmps64
 go_wp2_with fail
 refine HOF.out.mono ?_;rintro e w2 ⟨rfl,hP,hb2⟩;have HBW:=h! (HE.out.trans (hb2.mono HE.out.size));clear HE HOF hb2 hb1;have cP:=hP.cells;simp only[World.size_alloc]at cP ⊢;go_wp2_with fail
 refine wp_loop_rounds 7 ?_;rw[rounds_succ];go_wp2_with fail
 refine(refName_any ot HOK.out.1.1 _).mono ?_;rintro e w' ⟨rfl,rfl⟩;rcases hb0:isNm ot with _ | _
 ·have HB:=h! hb0;clear hb0;go_wp2_with fail
  go_ret
  exact⟨congrArg (fun n=>Ending.returned (.int .i64 n)) (show(2:Int)=chkN ⟨⟨ot,oi,or_⟩,⟨st,si,sr⟩⟩from by simp[chkN,chkT,HB.out]),HBW.out⟩
 have HB0:=h! hb0;clear hb0;go_wp2_with fail
 rw[rounds_succ];go_wp2_with fail
 refine(refName_any oi HOK.out.1.2.1 _).mono ?_;rintro e w' ⟨rfl,rfl⟩;rcases hb1:isNm oi with _ | _
 ·have HB:=h! hb1;clear hb1;go_wp2_with fail
  go_ret
  exact⟨congrArg (fun n=>Ending.returned (.int .i64 n)) (show(2:Int)=chkN ⟨⟨ot,oi,or_⟩,⟨st,si,sr⟩⟩from by simp[chkN,chkT,HB.out]),HBW.out⟩
 have HB1:=h! hb1;clear hb1;go_wp2_with fail
 rw[rounds_succ];go_wp2_with fail
 refine(refName_any or_ HOK.out.1.2.2 _).mono ?_;rintro e w' ⟨rfl,rfl⟩;rcases hb2:isNm or_ with _ | _
 ·have HB:=h! hb2;clear hb2;go_wp2_with fail
  go_ret
  exact⟨congrArg (fun n=>Ending.returned (.int .i64 n)) (show(2:Int)=chkN ⟨⟨ot,oi,or_⟩,⟨st,si,sr⟩⟩from by simp[chkN,chkT,HB.out]),HBW.out⟩
 have HB2:=h! hb2;clear hb2;go_wp2_with fail
 rw[rounds_succ];go_wp2_with fail
 refine(refName_any st HOK.out.2.1 _).mono ?_;rintro e w' ⟨rfl,rfl⟩;rcases hb3:isNm st with _ | _
 ·have HB:=h! hb3;clear hb3;go_wp2_with fail
  go_ret
  exact⟨congrArg (fun n=>Ending.returned (.int .i64 n)) (show(2:Int)=chkN ⟨⟨ot,oi,or_⟩,⟨st,si,sr⟩⟩from by simp[chkN,chkT,HB.out]),HBW.out⟩
 have HB3:=h! hb3;clear hb3;go_wp2_with fail
 rw[rounds_succ];go_wp2_with fail
 refine(refName_any si HOK.out.2.2.1 _).mono ?_;rintro e w' ⟨rfl,rfl⟩;rcases hb4:isNm si with _ | _
 ·have HB:=h! hb4;clear hb4;go_wp2_with fail
  go_ret
  exact⟨congrArg (fun n=>Ending.returned (.int .i64 n)) (show(2:Int)=chkN ⟨⟨ot,oi,or_⟩,⟨st,si,sr⟩⟩from by simp[chkN,chkT,HB.out]),HBW.out⟩
 have HB4:=h! hb4;clear hb4;go_wp2_with fail
 rw[rounds_succ];go_wp2_with fail
 refine(refName_any sr HOK.out.2.2.2 _).mono ?_;rintro e w' ⟨rfl,rfl⟩;rcases hb5:isNm sr with _ | _
 ·have HB5:=h! hb5;clear hb5;by_cases h0:sr.size=0
  ·obtain rfl:=ba_size_eq h0;clear h0;go_wp2_with fail
   rw[rounds_succ];go_wp2_with fail
   go_ret
   exact⟨congrArg (fun n=>Ending.returned (.int .i64 n)) (show(0:Int)=chkN ⟨⟨ot,oi,or_⟩,⟨st,si,⟨#[]⟩⟩⟩from by simp[chkN,chkT,HB0.out,HB1.out,HB2.out,HB3.out,HB4.out,show(ByteArray.mk #[]).size=0 from rfl]),HBW.out⟩
  ·have hne:=ba_size_ne h0;have H0:=h! h0;clear h0;go_wp2_with fail
   go_ret
   exact⟨congrArg (fun n=>Ending.returned (.int .i64 n)) (show(2:Int)=chkN ⟨⟨ot,oi,or_⟩,⟨st,si,sr⟩⟩from by simp[chkN,chkT,HB5.out,H0.out]),HBW.out⟩
 ·have HB5:=h! hb5;clear hb5;go_wp2_with fail
  rw[rounds_succ];go_wp2_with fail
  go_ret
  exact⟨congrArg (fun n=>Ending.returned (.int .i64 n)) (show(0:Int)=chkN ⟨⟨ot,oi,or_⟩,⟨st,si,sr⟩⟩from by simp[chkN,chkT,HB0.out,HB1.out,HB2.out,HB3.out,HB4.out,HB5.out]),HBW.out⟩
def subsOf (T:List Tup)(p:P3):List P3:=(T.filter fun t=>decide (t.o=p)).map (·.s)
inductive FT where
 | mk (k:Int) (subs:List P3) (refs:List Int) (ps:List FT)
def FT.k:FT->Int | .mk k _ _ _=>k
def FT.subs:FT->List P3 | .mk _ s _ _=>s
def FT.refs:FT->List Int | .mk _ _ r _=>r
def FT.ps:FT->List FT | .mk _ _ _ ps=>ps
def FT.zero:FT := .mk 0 [] [] []
instance:Inhabited FT:=⟨FT.zero⟩
mutual
def FT.sz:FT->Nat | .mk _ _ _ ps=>1+fszL ps
def fszL:List FT->Nat | []=>0 | r::rs=>r.sz+fszL rs
end
theorem fszL_mem {p:FT}:∀ {ps:List FT},p∈ps->p.sz<=fszL ps
 | r::rs,h=>by
  rw[fszL];rcases List.mem_cons.1 h with rfl | h
  ·omega
  ·have:=fszL_mem h;omega
theorem FT.sz_lt {r p:FT} (h:p∈r.ps):p.sz<r.sz:=by
 obtain⟨k,a,b,ps⟩:=r;have:=fszL_mem (show p∈ps from h);rw[FT.sz];omega
theorem FT.ind {Q:FT->Prop} (h:∀ r,(∀ p∈r.ps,Q p)->Q r)(r:FT):Q r:=by
 generalize hn:r.sz=n;induction n using Nat.strongRecOn generalizing r with
 | ind n ih=>exact h r fun p hp=>ih p.sz (by have:=FT.sz_lt hp;omega) p rfl
def numD (ps:List P3)(p:P3):Nat:=ps.findIdx fun x=>decide (x=p)
def putP (ps:List P3)(p:P3):List P3:=if p∈ps then ps else ps++[p]
def refsD:List P3->List Int->List P3->List Int × List P3
 | ps,out,[]=>(out,ps)
 | ps,out,p::l=>refsD (putP ps p) (if (numD ps p:Int)∈out then out else out++[(numD ps p:Int)]) l
theorem refsD_snoc:∀ (l:List P3)(ps:List P3)(out:List Int)(p:P3),refsD ps out (l++[p])=(if (numD (refsD ps out l).2 p:Int)∈(refsD ps out l).1 then(refsD ps out l).1 else(refsD ps out l).1++[(numD (refsD ps out l).2 p:Int)],putP (refsD ps out l).2 p)
 | [],ps,out,p=>rfl
 | x::l,ps,out,p=>by rw[List.cons_append,refsD,refsD,refsD_snoc l]
def setsOf (l:List P3):List P3:=l.filter fun s=>decide (s.r≠⟨#[]⟩)
def viaOf (b:ByteArray)(l:List P3):List P3:=(l.filter fun s=>decide (s.r=⟨#[]⟩)).map fun s=>⟨s.t,s.i,b⟩
def headF (T:List Tup)(p:P3)(k:Int)(a b:ByteArray)(ps:List P3):List P3 × List Int × List P3 :=
 if k=1 then(subsOf T p,refsD ps [] (setsOf (subsOf T p)))
 else if k=2 then([],[(numD ps ⟨p.t,p.i,a⟩:Int)],putP ps ⟨p.t,p.i,a⟩)
 else if k=3 then([],refsD ps [] (viaOf b (subsOf T ⟨p.t,p.i,a⟩)))
 else([],[],ps)
mutual
def formD (T:List Tup)(p:P3):RT->List P3->FT × List P3
 | .mk k a b parts,ps=>(.mk k (headF T p k a b ps).1 (headF T p k a b ps).2.1 (formsD T p parts (headF T p k a b ps).2.2).1,(formsD T p parts (headF T p k a b ps).2.2).2)
def formsD (T:List Tup)(p:P3):List RT->List P3->List FT × List P3
 | [],ps=>([],ps)
 | r::rs,ps=>((formD T p r ps).1::(formsD T p rs (formD T p r ps).2).1,(formsD T p rs (formD T p r ps).2).2)
end
theorem formD_eq (T:List Tup)(p:P3)(r:RT)(ps:List P3):formD T p r ps=(.mk r.k (headF T p r.k r.a r.b ps).1 (headF T p r.k r.a r.b ps).2.1 (formsD T p r.ps (headF T p r.k r.a r.b ps).2.2).1,(formsD T p r.ps (headF T p r.k r.a r.b ps).2.2).2):=by
 obtain⟨k,a,b,parts⟩:=r;rw[formD];rfl
theorem formsD_snoc (T:List Tup)(p:P3):∀ (rs:List RT)(r:RT)(ps:List P3),formsD T p (rs++[r]) ps=((formsD T p rs ps).1++[(formD T p r (formsD T p rs ps).2).1],(formD T p r (formsD T p rs ps).2).2)
 | [],r,ps=>by simp[formsD]
 | x::rs,r,ps=>by rw[List.cons_append,formsD,formsD_snoc T p rs r,formsD];rfl
theorem formsD_take (T:List Tup)(p:P3)(rs:List RT)(ps:List P3)(i:Nat)(h:i<rs.length):formsD T p (rs.take (i+1)) ps=((formsD T p (rs.take i) ps).1++[(formD T p rs[i] (formsD T p (rs.take i) ps).2).1],(formD T p rs[i] (formsD T p (rs.take i) ps).2).2):=by
 rw[List.take_succ_eq_append_getElem h,formsD_snoc]
def ruleOf (ts:List TyS)(shut:List R2)(p:P3):Option RT:=if (⟨p.t,p.r⟩:R2)∈shut then none else lookA (refsOf ts) ⟨p.t,p.r⟩
def stepG (ts:List TyS)(T:List Tup)(shut:List R2)(p:P3)(ps:List P3):FT × List P3 :=
 match ruleOf ts shut p with
 | some r=>formD T p r ps
 | none=>(FT.zero,ps)
def walkN (ts:List TyS)(T:List Tup)(shut:List R2)(p:P3):Nat->List P3 × List FT
 | 0=>([p],[])
 | n+1=>((stepG ts T shut ((walkN ts T shut p n).1.getD n p) (walkN ts T shut p n).1).2,(walkN ts T shut p n).2++[(stepG ts T shut ((walkN ts T shut p n).1.getD n p) (walkN ts T shut p n).1).1])
/-! What stays true of the points. -/
theorem putP_pre (ps:List P3)(p:P3):ps <+: putP ps p:=by
 unfold putP;split
 ·exact List.prefix_refl _
 ·exact List.prefix_append _ _
theorem putP_mem (ps:List P3)(p x:P3):x∈putP ps p↔x∈ps\/x=p:=by
 unfold putP;split
 ·next h=>exact⟨.inl,fun h2=>h2.elim id fun e=>e▸h⟩
 ·simp
theorem putP_nodup {ps:List P3} (h:ps.Nodup)(p:P3):(putP ps p).Nodup:=by
 unfold putP;split
 ·exact h
 ·next hn =>
  rw[List.nodup_append];refine⟨h,by simp,fun a ha b hb=>?_⟩;rw[List.mem_singleton.1 hb];exact fun e=>hn (e▸ha)
theorem refsD_pre:∀ (l:List P3)(ps:List P3)(out:List Int),ps <+: (refsD ps out l).2
 | [],ps,_=>List.prefix_refl _
 | p::l,ps,out=>by rw[refsD];exact(putP_pre ps p).trans (refsD_pre l _ _)
theorem refsD_mem:∀ (l:List P3)(ps:List P3)(out:List Int)(x:P3),x∈(refsD ps out l).2↔x∈ps\/x∈l
 | [],ps,_,x=>by simp[refsD]
 | p::l,ps,out,x=>by
  rw[refsD,refsD_mem l,putP_mem,List.mem_cons];constructor
  ·rintro((h | h) | h)
   ·exact .inl h
   ·exact .inr (.inl h)
   ·exact .inr (.inr h)
  ·rintro(h | h | h)
   ·exact .inl (.inl h)
   ·exact .inl (.inr h)
   ·exact .inr h
theorem refsD_nodup:∀ (l:List P3)(ps:List P3)(out:List Int),ps.Nodup->(refsD ps out l).2.Nodup
 | [],_,_,h=>h
 | p::l,ps,out,h=>by rw[refsD];exact refsD_nodup l _ _ (putP_nodup h p)
theorem headF_pre (T:List Tup)(p:P3)(k:Int)(a b:ByteArray)(ps:List P3):ps <+: (headF T p k a b ps).2.2:=by
 unfold headF;split
 ·exact refsD_pre _ _ _
 ·split
  ·exact putP_pre _ _
  ·split
   ·exact refsD_pre _ _ _
   ·exact List.prefix_refl _
theorem headF_nodup (T:List Tup)(p:P3)(k:Int)(a b:ByteArray) {ps:List P3} (h:ps.Nodup):(headF T p k a b ps).2.2.Nodup:=by
 unfold headF;split
 ·exact refsD_nodup _ _ _ h
 ·split
  ·exact putP_nodup h _
  ·split
   ·exact refsD_nodup _ _ _ h
   ·exact h
theorem formD_pre (T:List Tup)(p:P3)(r:RT):∀ ps:List P3,ps <+: (formD T p r ps).2:=by
 induction r using RT.ind with
 | h r ih =>
  intro ps;rw[formD_eq]
  have:∀ (l:List RT) (qs:List P3),(∀ x∈l,x∈r.ps)->qs <+: (formsD T p l qs).2:=by
   intro l;induction l with
   | nil=>intro qs _;exact List.prefix_refl _
   | cons x l ihl=>intro qs hx;rw[formsD];exact(ih x (hx x (by simp)) qs).trans (ihl _ fun y hy=>hx y (List.mem_cons_of_mem _ hy))
  exact(headF_pre T p r.k r.a r.b ps).trans (this r.ps _ fun _ h=>h)
theorem formD_nodup (T:List Tup)(p:P3)(r:RT):∀ {ps:List P3},ps.Nodup->(formD T p r ps).2.Nodup:=by
 induction r using RT.ind with
 | h r ih =>
  intro ps h;rw[formD_eq]
  have:∀ (l:List RT) (qs:List P3),(∀ x∈l,x∈r.ps)->qs.Nodup->(formsD T p l qs).2.Nodup:=by
   intro l;induction l with
   | nil=>intro qs _ h;exact h
   | cons x l ihl=>intro qs hx h;rw[formsD];exact ihl _ (fun y hy=>hx y (List.mem_cons_of_mem _ hy)) (ih x (hx x (by simp)) h)
  exact this r.ps _ (fun _ h=>h) (headF_nodup T p r.k r.a r.b h)
theorem stepG_pre (ts:List TyS)(T:List Tup)(shut:List R2)(p:P3)(ps:List P3):ps <+: (stepG ts T shut p ps).2:=by
 unfold stepG;split
 ·exact formD_pre _ _ _ _
 ·exact List.prefix_refl _
theorem stepG_nodup (ts:List TyS)(T:List Tup)(shut:List R2)(p:P3) {ps:List P3} (h:ps.Nodup):(stepG ts T shut p ps).2.Nodup:=by
 unfold stepG;split
 ·exact formD_nodup _ _ _ h
 ·exact h
theorem walkN_nodup (ts:List TyS)(T:List Tup)(shut:List R2)(p:P3):∀ n,(walkN ts T shut p n).1.Nodup
 | 0=>by simp[walkN]
 | n+1=>by rw[walkN];exact stepG_nodup _ _ _ _ (walkN_nodup ts T shut p n)
theorem walkN_pre (ts:List TyS)(T:List Tup)(shut:List R2)(p:P3):∀ n m,n<=m->(walkN ts T shut p n).1 <+: (walkN ts T shut p m).1
 | n,0,h=>by
  obtain rfl:n=0:=by omega
  exact List.prefix_refl _
 | n,m+1,h=>by
  by_cases e:n=m+1
  ·subst e;exact List.prefix_refl _
  ·refine(walkN_pre ts T shut p n m (by omega)).trans ?_;rw[walkN];exact stepG_pre _ _ _ _ _
theorem walkN_forms (ts:List TyS)(T:List Tup)(shut:List R2)(p:P3):∀ n,(walkN ts T shut p n).2.length=n
 | 0=>rfl
 | n+1=>by rw[walkN];simp[walkN_forms ts T shut p n]
/-! All points lie in one finite list. -/
mutual
def RT.nms:RT->List ByteArray | .mk _ a b ps=>a::b::nmsL ps
def nmsL:List RT->List ByteArray | [] => [] | r::rs=>r.nms++nmsL rs
end
theorem RT.nms_eq (r:RT):r.nms=r.a::r.b::nmsL r.ps:=by
 obtain⟨k,a,b,ps⟩:=r;rw[RT.nms];rfl
theorem nmsL_mem {r:RT}:∀ {l:List RT},r∈l->∀ n∈r.nms,n∈nmsL l
 | x::l,h,n,hn=>by
  rw[nmsL,List.mem_append];rcases List.mem_cons.1 h with rfl | h
  ·exact .inl hn
  ·exact .inr (nmsL_mem h n hn)
def InU (O:List (ByteArray × ByteArray))(N:List ByteArray)(x:P3):Prop:=(x.t,x.i)∈O/\x.r∈N
structure OkU (T:List Tup)(O:List (ByteArray × ByteArray))(N:List ByteArray):Prop where
 objs:∀ t∈T,(t.s.t,t.s.i)∈O
 rels:∀ t∈T,t.s.r∈N
theorem subsOf_mem {T:List Tup} {p x:P3} (h:x∈subsOf T p):∃ t∈T,t.o=p/\t.s=x:=by
 unfold subsOf at h;obtain⟨t,ht,rfl⟩:=List.mem_map.1 h;rw[List.mem_filter]at ht;exact⟨t,ht.1,by simpa using ht.2,rfl⟩
theorem headF_in {T:List Tup} {O:List (ByteArray × ByteArray)} {N:List ByteArray} (h:OkU T O N) {p:P3} (hp:(p.t,p.i)∈O) {k:Int} {a b:ByteArray} (ha:a∈N)(hb:b∈N) {ps:List P3} (hs:∀ x∈ps,InU O N x):∀ x∈(headF T p k a b ps).2.2,InU O N x:=by
 unfold headF;split
 ·intro x hx;rcases (refsD_mem _ _ _ x).1 hx with hx | hx
  ·exact hs x hx
  ·unfold setsOf at hx;rw[List.mem_filter]at hx;obtain⟨t,ht,_,rfl⟩:=subsOf_mem hx.1;exact⟨h.objs t ht,h.rels t ht⟩
 ·split
  ·intro x hx;rcases (putP_mem _ _ x).1 hx with hx | rfl
   ·exact hs x hx
   ·exact⟨hp,ha⟩
  ·split
   ·intro x hx;rcases (refsD_mem _ _ _ x).1 hx with hx | hx
    ·exact hs x hx
    ·unfold viaOf at hx;obtain⟨y,hy,rfl⟩:=List.mem_map.1 hx;rw[List.mem_filter]at hy;obtain⟨t,ht,_,rfl⟩:=subsOf_mem hy.1;exact⟨h.objs t ht,hb⟩
   ·exact hs
theorem formD_in {T:List Tup} {O:List (ByteArray × ByteArray)} {N:List ByteArray} (h:OkU T O N) {p:P3} (hp:(p.t,p.i)∈O)(r:RT):(∀ n∈r.nms,n∈N)->∀ {ps:List P3},(∀ x∈ps,InU O N x)->∀ x∈(formD T p r ps).2,InU O N x:=by
 induction r using RT.ind with
 | h r ih =>
  intro hn ps hs;rw[formD_eq];rw[RT.nms_eq]at hn
  have:∀ (l:List RT) (qs:List P3),(∀ x∈l,x∈r.ps)->(∀ x∈qs,InU O N x)->∀ x∈(formsD T p l qs).2,InU O N x:=by
   intro l;induction l with
   | nil=>intro qs _ h;exact h
   | cons y l ihl =>
    intro qs hx hq;rw[formsD];exact ihl _ (fun z hz=>hx z (List.mem_cons_of_mem _ hz)) (ih y (hx y (by simp)) (fun n hn'=>hn n (List.mem_cons_of_mem _ (List.mem_cons_of_mem _ (nmsL_mem (hx y (by simp)) n hn')))) hq)
  exact this r.ps _ (fun _ h=>h) (headF_in h hp (hn _ (by simp)) (hn _ (by simp)) hs)
def NmU (ts:List TyS)(N:List ByteArray):Prop:=∀ x∈refsOf ts,∀ n∈x.2.nms,n∈N
theorem stepG_in {ts:List TyS} {T:List Tup} {O:List (ByteArray × ByteArray)} {N:List ByteArray} (h:OkU T O N)(hN:NmU ts N)(shut:List R2) {p:P3} (hp:InU O N p) {ps:List P3} (hs:∀ x∈ps,InU O N x):∀ x∈(stepG ts T shut p ps).2,InU O N x:=by
 unfold stepG;split
 ·next r hr =>
  refine formD_in h hp.1 r ?_ hs;unfold ruleOf at hr;split at hr
  ·cases hr
  ·exact hN _ (look_mem hr)
 ·exact hs
theorem walkN_in {ts:List TyS} {T:List Tup} {O:List (ByteArray × ByteArray)} {N:List ByteArray} (h:OkU T O N)(hN:NmU ts N)(shut:List R2) {p:P3} (hp:InU O N p):∀ n,∀ x∈(walkN ts T shut p n).1,InU O N x
 | 0=>by
  intro x hx;rw[walkN]at hx;rw[List.mem_singleton.1 hx];exact hp
 | n+1=>by
  have ih:=walkN_in h hN shut hp n;rw[walkN];refine stepG_in h hN shut ?_ ih;rw[List.getD_eq_getElem?_getD];cases e:(walkN ts T shut p n).1[n]? with
  | none=>exact hp
  | some y=>exact ih y (List.mem_of_getElem? e)
theorem nodup_leR {α:Type}:∀ {l u:List α},l.Nodup->(∀ x∈l,x∈u)->l.length<=u.length
 | [],_,_,_=>Nat.zero_le _
 | a::l,u,hn,hs=>by
  obtain⟨p,q,rfl⟩:=List.append_of_mem (hs a List.mem_cons_self);rw[List.nodup_cons]at hn
  have h1:=nodup_leR (l:=l) (u:=p++q) hn.2 fun x hx=>by
   have h2:=hs x (List.mem_cons_of_mem _ hx);rcases List.mem_append.1 h2 with h3 | h3
   ·exact List.mem_append_left _ h3
   ·rcases List.mem_cons.1 h3 with h3 | h3
    ·subst h3;exact absurd hx hn.1
    ·exact List.mem_append_right _ h3
  simp only[List.length_cons,List.length_append]at h1 ⊢;omega
theorem inU_few {O:List (ByteArray × ByteArray)} {N:List ByteArray} {l:List P3} (hn:l.Nodup)(h:∀ x∈l,InU O N x):l.length<=O.length*N.length:=by
 have h1:∀ x∈l,x∈O.flatMap fun o=>N.map fun r=>(⟨o.1,o.2,r⟩:P3):=fun x hx=>by
  obtain⟨h2,h3⟩:=h x hx;exact List.mem_flatMap.2 ⟨_,h2,List.mem_map.2 ⟨_,h3,rfl⟩⟩
 refine Nat.le_trans (nodup_leR hn h1) (Nat.le_of_eq ?_);clear h h1 hn;induction O with
 | nil=>simp
 | cons o O ih=>rw[List.flatMap_cons,List.length_append,ih,List.length_map,List.length_cons,Nat.add_mul];omega
/-! How the walk ends. -/
def WalkAt (ts:List TyS)(T:List Tup)(shut:List R2)(p:P3)(most:Int)(n:Nat):Prop:=∀ m,m<n->m<(walkN ts T shut p m).1.length/\((walkN ts T shut p m).1.length:Int)<=most
def WalkEnd (ts:List TyS)(T:List Tup)(shut:List R2)(p:P3)(most:Int)(n:Nat):Prop:=WalkAt ts T shut p most n/\n=(walkN ts T shut p n).1.length
def WalkLong (ts:List TyS)(T:List Tup)(shut:List R2)(p:P3)(most:Int):Prop:=∃ n,WalkAt ts T shut p most n/\n<(walkN ts T shut p n).1.length/\most<((walkN ts T shut p n).1.length:Int)
theorem WalkEnd.uniq {ts:List TyS} {T:List Tup} {shut:List R2} {p:P3} {most most':Int} {n m:Nat} (h:WalkEnd ts T shut p most n)(k:WalkEnd ts T shut p most' m):n=m:=by
 rcases Nat.lt_trichotomy n m with hlt | h2 | hlt
 ·have:=(k.1 n hlt).1;have:=h.2;omega
 ·exact h2
 ·have:=(h.1 m hlt).1;have:=k.2;omega
theorem walk_mono (ts:List TyS)(T:List Tup)(shut:List R2)(p:P3) {n m:Nat} (h:n<=m):(walkN ts T shut p n).1.length<=(walkN ts T shut p m).1.length:=(walkN_pre ts T shut p n m h).length_le
theorem WalkEnd.notLong {ts:List TyS} {T:List Tup} {shut:List R2} {p:P3} {most:Int} {n:Nat} (h:WalkEnd ts T shut p most n):¬ WalkLong ts T shut p most:=by
 rintro⟨m,h1,h2,h3⟩;rcases Nat.lt_trichotomy n m with hlt | rfl | hlt
 ·have:=(h1 n hlt).1;have:=h.2;omega
 ·have:=h.2;omega
 ·have:=(h.1 m hlt).2;omega
theorem WalkEnd.more {ts:List TyS} {T:List Tup} {shut:List R2} {p:P3} {most most':Int} {n:Nat} (h:WalkEnd ts T shut p most n)(hm:((walkN ts T shut p n).1.length:Int)<=most'):WalkEnd ts T shut p most' n :=
 ⟨fun m hmn=>⟨(h.1 m hmn).1,by have:=walk_mono ts T shut p (Nat.le_of_lt hmn);omega⟩,h.2⟩
def ic (l:List Int):List Value:=l.map fun n => .int .i64 n
theorem ic_append (a b:List Int):ic (a++b)=ic a++ic b:=by simp[ic]
theorem ic_length (a:List Int):(ic a).length=a.length:=by simp[ic]
theorem ic_one (l:List Int):∀ u∈ic l,u.oneCell'=true:=by
 intro u hu;obtain⟨s,_,rfl⟩:=List.mem_map.1 hu;rfl
theorem intsT:ElemT Tryz.prog 87 3 1 8:=ElemT.mk' Tryz.underlying87 (show _=some (some (.int .i64 0),1,8)by kernel_rfl) rfl (by decide)
theorem Sl.ints {S:Nat->Prop} {w:World} {v:Value} {l:List Int} (h:Sl S w 1 v (ic l)):∃ ao c,v = .slice ao l.length c/\l.length<=c/\c<=9223372036854775807/\∀ j,(hj:j<l.length)->∃ b off,ao=some ⟨b,off,none⟩/\S b/\w.cell? ⟨b,off+j,none⟩=some (.int .i64 l[j]):=by
 obtain⟨ao,n,c,rfl,h1,h2,h3,h4,h5⟩:=h;rw[ic_length,Nat.mul_one]at h1;subst h1;refine⟨ao,c,rfl,h2,by have e:maxLen=9223372036854775807:=rfl;omega,fun j hj=>?_⟩;obtain⟨b,off,rfl,hb,hc⟩:=h5 (by intro e;have:=congrArg List.length e;rw[ic_length,List.length_nil]at this;omega);exact⟨b,off,rfl,hb,hc j _ (by simp[ic,hj])⟩
def ltS (a b:ByteArray):Bool:=Op.bytesLess a.toList b.toList
theorem ltS_iff (a b:ByteArray):ltS a b=decide (a.data.toList<b.data.toList):=by
 unfold ltS;rw[ByteArray.toList_eq,ByteArray.toList_eq];exact bytesLess_eq _ _
theorem ltS_irr (a:ByteArray):ltS a a=false:=by
 rw[ltS_iff];simp[List.lt_irrefl]
theorem ltS_trans {a b c:ByteArray} (h:ltS a b=true)(k:ltS b c=true):ltS a c=true:=by
 rw[ltS_iff]at *;simp only[decide_eq_true_eq]at *;exact List.lt_trans h k
theorem ltS_total {a b:ByteArray} (h:ltS a b=false)(hne:a≠b):ltS b a=true:=by
 rw[ltS_iff]at *;simp only[decide_eq_true_eq,decide_eq_false_iff_not]at *;have h1:b.data.toList<=a.data.toList:=List.not_lt.1 h;rcases List.le_iff_lt_or_eq.1 h1 with h2 | h2
 ·exact h2
 ·exact absurd (ByteArray.ext (by rw[<- Array.toList_inj];exact h2.symm)) hne
def cmpS (a b:ByteArray):Int:=if ltS a b then -1 else if a=b then 0 else 1
theorem cmpS_zero (a b:ByteArray):cmpS a b=0↔a=b:=by
 unfold cmpS;by_cases h:a=b
 ·subst h;simp[ltS_irr]
 ·cases ltS a b <;> simp[h]
theorem cmpS_neg (a b:ByteArray):cmpS a b<0↔ltS a b=true:=by
 unfold cmpS;cases h:ltS a b with
 | true=>simp
 | false=>by_cases e:a=b <;> simp[e]
def orL:List Int->Int
 | []=>0
 | a::l=>if a=0 then orL l else a
theorem orL_drop {l:List Int}:∀ {i:Nat},(∀ j (hj:j<l.length),j<i->l[j]=0)->orL l=orL (l.drop i):=by
 induction l with
 | nil=>intro i _;simp[orL]
 | cons a l ih =>
  intro i h;cases i with
  | zero=>rfl
  | succ i =>
   have h0:=h 0 (by simp) (by omega);simp only[List.getElem_cons_zero]at h0;rw[orL,if_pos h0,List.drop_succ_cons];refine ih fun j hj hji=>?_;have h1:=h (j+1) (by simpa using hj) (by omega);rwa[List.getElem_cons_succ]at h1
end Go.Proofs.YtjdigpfipmckhaaGreat
namespace Go.Proofs.YtjdigpfipmckhaaGreat
open Go Go.RowKit Go.Sort Go.Shelf
theorem flatK_list {α:Type} [Inhabited α] {enc:α->List Value} {k:Nat} (hk:∀ x,(enc x).length=k)(hpos:0<k)(d:Array α):(flatK enc k d).toList=d.toList.flatMap enc:=by
 apply List.ext_getElem?;intro t;by_cases ht:t<d.size*k
 ·have h1:t / k<d.size:=(Nat.div_lt_iff_lt_mul hpos).2 ht;have h2:t % k<k:=Nat.mod_lt _ hpos;have h3:t=t / k*k+t % k:=by rw[Nat.mul_comm];exact(Nat.div_add_mod t k).symm
  have e1:(flatK enc k d).toList[t]?=some (flatK enc k d)[t]!:=by
   rw[getElem!_pos _ t (by simpa using ht)];simp[ht]
  rw[e1,get_flatK enc k d t ht];conv=>rhs;rw[h3]
  rw[flat_get hk d.toList (t / k) (by simpa using h1) (t % k) h2,getElem!_pos d (t / k) h1,getElem!_pos _ (t % k) (by rw[hk];exact h2),List.getElem?_eq_getElem (by rw[hk];exact h2)];simp
 ·rw[List.getElem?_eq_none (by simp;omega),List.getElem?_eq_none (by rw[flat_length hk];simp;omega)]
theorem sort_own {P:Program} {ρ:Ren} (L:SlLaysF0.n6 P ρ) {α:Type} [Inhabited α] (enc:α->List Value)(k:Nat)(hk:∀ x,(enc x).length=k)(hpos:0<k)(h1:∀ x,∀ v∈enc x,v.oneCell'=true)
  (aE:∀ w,(isAgg (ρ.t 24)).run P w = .ok true w) (zE:∀ w,(Go.sizeOf (ρ.t 24)).run P w = .ok k w) (cf:α->α->Int) (hO:SWO (ltOf cf)) (g:Nat) (cb:Array Value)
  (eg:∀ args w,(callFunc g args).run P w = .ok (.enter g args) w) (hcmp:∀ (W:World) x y,Calls P g (#[.agg (enc x).toArray,.agg (enc y).toArray]++cb) W fun e w'=>e = .returned (.int .i64 (cf x y))/\Gr W w')
  {w:World} {B:Nat} {T:TypeId} {v:Value} {l:List α} (h:Own w B T k v (l.flatMap enc)) (hl:l.length<4611686018427387904) :
  Calls P (ρ.f 6) #[v,.func (.func g) #[] cb] w fun e w'=>e = .returned (.tuple #[])/\∃ l':List α,l'.Perm l/\(l'.Pairwise fun a b=>ltOf cf b a=false)/\Own w' B T k v (l'.flatMap enc)/\Kept (fun b=>b<w.heap.size/\v.ownBlock≠some b) w w':=by
 obtain⟨n,hlen,hrow⟩:=h;rw[flat_length hk]at hlen;obtain rfl:l.length=n:=Nat.eq_of_mul_eq_mul_right hpos hlen;by_cases h0:l=[]
 ·subst h0
  have hv:∃ p c,v = .slice p 0 c:=by
   rcases hrow with⟨rfl,_⟩ | ⟨b,cap,cur,rfl,_⟩
   ·exact⟨_,_,rfl⟩
   ·exact⟨_,_,rfl⟩
  have hown:Own w B T k v (([]:List α).flatMap enc):=⟨0,by simp,hrow⟩;obtain⟨p,c,rfl⟩:=hv;refine(AnyF.slices_SortFunc_none L p c _ w).mono ?_;rintro e w' ⟨rfl,rfl⟩;exact⟨rfl,[],List.Perm.refl _,List.Pairwise.nil,hown,Kept.refl _ _⟩
 ·have hl0:0<l.length:=List.length_pos_iff.2 h0;rcases hrow with⟨rfl,hx⟩ | ⟨b,cap,cur,rfl,hB,hb,hnc,hcm,hcs,htake⟩
  ·exfalso
   omega
  ·have hblt:b<w.heap.size:=(Array.getElem?_eq_some_iff.1 hb).1;have hnk:l.length*k<=cur.size:=by rw[hcs];exact Nat.mul_le_mul_right k hnc
   have hcur:∀ j,j<l.length*k->cur[j]?=some (flatK enc k l.toArray)[j]!:=fun j hj=>by
    have e1:(cur.toList.take (l.length*k))[j]?=cur[j]?:=by rw[List.getElem?_take,if_pos hj];simp
    rw[<- e1,htake];have e2:=flatK_list hk hpos l.toArray;simp only at e2;rw[<- e2,getElem!_pos _ j (by simpa using hj)];simp[hj]
   have hH:HoldsK enc k w b 0 l.toArray:=fun j hj=>by
    rw[size_flatK]at hj;have hj':j<l.length*k:=by simpa using hj
    refine⟨?_,frozen_of_row w b (0+j) cur T hb⟩;rw[cell_of_row w b (0+j) cur T (0,0) hb,Nat.zero_add];exact hcur j hj'
   have hcl:CmpLays P g cb enc k cf b 0 l.toArray.size w:=fun m os dk _ x y=>(hcmp _ x y).mono fun _ _ ⟨he,hg⟩=>⟨he,hg⟩;have hc:=AnyQ.slices_SortFunc L k aE zE enc hk h1 cf hO g cb b 0 cap l.toArray w eg hcl hH hblt (by simpa using hl);simp only[List.size_toArray]at hc;refine hc.mono ?_;rintro e w' ⟨rfl,d',m,os,hp,hs,rfl⟩;obtain⟨hp1,_,hp2⟩:=hp;have hp1':d'.size=l.length:=by simpa using hp1
   have hperm:d'.toList.Perm l:=by
    have e1:(d'.extract 0 l.length).toList=d'.toList:=by rw[<- hp1'];simp
    have e2:(l.toArray.extract 0 l.length).toList=l:=by simp
    rw[e1,e2]at hp2;exact hp2
   refine⟨rfl,d'.toList,hperm,?_,⟨d'.toList.length,?_,.inr ⟨b,cap,putCells id 0 (flatK enc k d') cur,?_,hB,?_,?_,hcm,?_,?_⟩⟩,?_⟩
   ·refine List.pairwise_iff_getElem.2 fun i j hi hj hij=>?_;have hi':i<d'.size:=by simpa using hi
    have hj':j<d'.size:=by simpa using hj
    have:=hs i j (Nat.zero_le _) hij (by omega);rwa[getElem!_pos d' j hj',getElem!_pos d' i hi']at this
   ·rw[flat_length hk]
   ·simp[hp1']
   ·simp only[sortWorldK,putRowK,putRow,mapBlock,grow,heap_ahead];rw[Array.getElem?_append_left (by simpa using hblt),Array.getElem?_modify,if_pos rfl,hb];rfl
   ·simp[hp1',hnc]
   ·simp[putCells,hcs]
   ·rw[show d'.toList.length*k=(flatK enc k d').size from by simp];rw[<- flatK_list hk hpos d'];apply List.ext_getElem?;intro t;rw[List.getElem?_take];split
    ·rename_i ht
     have ht':t<d'.size*k:=by simpa using ht
     have htc:t<cur.size:=by rw[hp1']at ht';omega
     simp only[putCells,Array.getElem?_toList,Array.getElem?_mapIdx];rw[Array.getElem?_eq_getElem htc];simp only[Option.map_some,Nat.zero_le,true_and,Nat.zero_add,Nat.sub_zero,id];rw[if_pos ht,getElem!_pos _ t ht,Array.getElem?_eq_getElem ht]
    ·rename_i ht
     rw[List.getElem?_eq_none (by simpa using ht)]
   ·refine⟨rfl,rfl,rfl,by simp[sortWorldK,putRowK,grow],fun c hc=>?_⟩;have hne:c≠b:=fun e=>hc.2 (by subst e;rfl);simp only[sortWorldK,putRowK,putRow,mapBlock,grow,heap_ahead];rw[Array.getElem?_append_left (by simpa using hc.1),Array.getElem?_modify,if_neg (Ne.symm hne)]
end Go.Proofs.YtjdigpfipmckhaaGreat
namespace Go.Proofs.YtjdigpfipmckhaaGreat
open Go Go.RowKit
theorem ltS_ne {a b:ByteArray} (h:ltS a b=true):a≠b:=by
 rintro rfl;rw[ltS_irr]at h;cases h
def ltR (a b:R2):Bool:=if a.t=b.t then ltS a.r b.r else ltS a.t b.t
theorem ltR_irr (a:R2):ltR a a=false:=by simp[ltR,ltS_irr]
def pC (p:P3):List Value:=[.string p.t,.string p.i,.string p.r]
def pV (p:P3):Value := .agg #[.string p.t,.string p.i,.string p.r]
theorem pC_length (p:P3):(pC p).length=3:=rfl
theorem pC_one (p:P3):∀ u∈pC p,u.oneCell'=true:=by
 intro u hu;simp only[pC,List.mem_cons,List.not_mem_nil,or_false]at hu;rcases hu with rfl | rfl | rfl <;> rfl
def pcs (l:List P3):List Value:=l.flatMap pC
def ordP (a b:P3):Int:=orL [cmpS a.t b.t,cmpS a.i b.i,cmpS a.r b.r]
def ltP (a b:P3):Bool:=if a.t=b.t then(if a.i=b.i then ltS a.r b.r else ltS a.i b.i)else ltS a.t b.t
theorem lt_ordP (a b:P3):Go.Proofs.ltOf ordP a b=ltP a b:=by
 unfold Go.Proofs.ltOf ordP ltP;rw[Bool.eq_iff_iff,decide_eq_true_eq];simp only[orL,cmpS_zero];by_cases h1:a.t=b.t
 ·simp only[h1,if_true];by_cases h2:a.i=b.i
  ·simp only[h2,if_true];by_cases h3:a.r=b.r
   ·simp[h3,ltS_irr]
   ·simp only[h3,if_false];exact cmpS_neg _ _
  ·simp only[h2,if_false];exact cmpS_neg _ _
 ·simp only[h1,if_false];exact cmpS_neg _ _
theorem ltP_irr (a:P3):ltP a a=false:=by simp[ltP,ltS_irr]
theorem ltP_total {a b:P3} (h:ltP a b=false)(hne:a≠b):ltP b a=true:=by
 unfold ltP at *;by_cases h1:a.t=b.t
 ·rw[if_pos h1]at h;rw[if_pos h1.symm];by_cases h2:a.i=b.i
  ·rw[if_pos h2]at h;rw[if_pos h2.symm];refine ltS_total h fun h3=>hne ?_;cases a;cases b;simp_all
  ·rw[if_neg h2]at h;rw[if_neg (Ne.symm h2)];exact ltS_total h h2
 ·rw[if_neg h1]at h;rw[if_neg (Ne.symm h1)];exact ltS_total h h1
theorem ltP_trans {a b c:P3} (h:ltP a b=true)(k:ltP b c=true):ltP a c=true:=by
 unfold ltP at *;by_cases h1:a.t=b.t <;> by_cases k1:b.t=c.t
 ·rw[if_pos h1]at h;rw[if_pos k1]at k;rw[if_pos (h1.trans k1)];by_cases h2:a.i=b.i <;> by_cases k2:b.i=c.i
  ·rw[if_pos h2]at h;rw[if_pos k2]at k;rw[if_pos (h2.trans k2)];exact ltS_trans h k
  ·rw[if_neg k2]at k;rw[if_neg (h2▸k2),h2];exact k
  ·rw[if_neg h2]at h;rw[if_neg (k2▸h2),<- k2];exact h
  ·rw[if_neg h2]at h;rw[if_neg k2]at k;have:=ltS_trans h k;rw[if_neg (ltS_ne this)];exact this
 ·rw[if_neg k1]at k;rw[if_neg (h1▸k1),h1];exact k
 ·rw[if_neg h1]at h;rw[if_neg (k1▸h1),<- k1];exact h
 ·rw[if_neg h1]at h;rw[if_neg k1]at k;have:=ltS_trans h k;rw[if_neg (ltS_ne this)];exact this
abbrev FV3:=Value × Value × Value
def fC (x:FT × FV3):List Value:=[.int .i64 x.1.k,x.2.1,x.2.2.1,x.2.2.2]
theorem fC_length (x:FT × FV3):(fC x).length=4:=rfl
mutual
def FTAt (S:Nat->Prop)(w:World):FT->FV3->Prop
 | .mk _ subs refs ps,v=>Sl S w 3 v.1 (pcs subs)/\Sl S w 1 v.2.1 (ic refs)/\∃ l:List FV3,FTsAt S w ps l/\Sl S w 4 v.2.2 ((ps.zip l).flatMap fC)
def FTsAt (S:Nat->Prop)(w:World):List FT->List FV3->Prop
 | [],l=>l=[]
 | r::rs,l=>∃ pv l',l=pv::l'/\FTAt S w r pv/\FTsAt S w rs l'
end
theorem ftsAt_zip {S:Nat->Prop} {w:World}:∀ {ps:List FT} {l:List FV3},FTsAt S w ps l->(ps.zip l).map (·.1)=ps/\∀ x∈ps.zip l,FTAt S w x.1 x.2
 | [],l,h=>by rw[FTsAt]at h;subst h;simp
 | r::rs,l,h=>by
  rw[FTsAt]at h;obtain⟨pv,l',rfl,h1,h2⟩:=h;obtain⟨h3,h4⟩:=ftsAt_zip h2;refine⟨by rw[List.zip_cons_cons,List.map_cons,h3],fun x hx=>?_⟩;rw[List.zip_cons_cons]at hx;rcases List.mem_cons.1 hx with rfl | hx
  ·exact h1
  ·exact h4 x hx
theorem ftsAt_of {S:Nat->Prop} {w:World}:∀ {q:List (FT × FV3)},(∀ x∈q,FTAt S w x.1 x.2)->FTsAt S w (q.map (·.1)) (q.map (·.2))
 | [],_=>by rw[List.map_nil,List.map_nil,FTsAt]
 | x::q,h=>by
  rw[List.map_cons,List.map_cons,FTsAt];exact⟨x.2,_,rfl,h x List.mem_cons_self,ftsAt_of fun y hy=>h y (List.mem_cons_of_mem _ hy)⟩
theorem FTAt.iff {S:Nat->Prop} {w:World} (r:FT)(v:FV3):FTAt S w r v↔Sl S w 3 v.1 (pcs r.subs)/\Sl S w 1 v.2.1 (ic r.refs)/\∃ q:List (FT × FV3),q.map (·.1)=r.ps/\(∀ x∈q,FTAt S w x.1 x.2)/\Sl S w 4 v.2.2 (q.flatMap fC):=by
 obtain⟨k,subs,refs,ps⟩:=r;rw[FTAt];constructor
 ·rintro⟨h1,h2,l,h3,h4⟩;exact⟨h1,h2,_,(ftsAt_zip h3).1,(ftsAt_zip h3).2,h4⟩
 ·rintro⟨h1,h2,q,h3,h4,h5⟩;refine⟨h1,h2,q.map (·.2),?_,?_⟩
  ·have:=ftsAt_of h4;rwa[h3]at this
  ·rw[show ps=q.map (·.1)from h3.symm,zip_maps];exact h5
theorem FTAt.same {S:Nat->Prop} {w w':World} {r:FT} {v:FV3} (h:FTAt S w r v)(hs:Same S w w'):FTAt S w' r v:=by
 induction r using FT.ind generalizing v with
 | h r ih =>
  obtain⟨h1,h2,q,h3,h4,h5⟩:=(FTAt.iff r v).1 h;exact(FTAt.iff r v).2 ⟨h1.same hs,h2.same hs,q,h3,fun x hx=>ih x.1 (by rw[<- h3];exact List.mem_map_of_mem hx) (h4 x hx),h5.same hs⟩
theorem FTAt.mono {S S':Nat->Prop} {w:World} {r:FT} {v:FV3} (h:FTAt S w r v)(hs:∀ b,S b->S' b):FTAt S' w r v:=by
 induction r using FT.ind generalizing v with
 | h r ih =>
  obtain⟨h1,h2,q,h3,h4,h5⟩:=(FTAt.iff r v).1 h;exact(FTAt.iff r v).2 ⟨h1.mono hs,h2.mono hs,q,h3,fun x hx=>ih x.1 (by rw[<- h3];exact List.mem_map_of_mem hx) (h4 x hx),h5.mono hs⟩
theorem FTAt.up {w w':World} {r:FT} {v:FV3} (h:FTAt (· < w.heap.size) w r v)(hb:Below w.heap.size w w'):FTAt (· < w'.heap.size) w' r v :=
 (h.same (Same.below hb)).mono fun _ h=>Nat.lt_of_lt_of_le h hb.size
theorem FTAt.rows {S:Nat->Prop} {w:World} {r:FT} {v:FV3} (h:FTAt S w r v) :
  ∃ ao c,v.2.2 = .slice ao r.ps.length c/\r.ps.length<=c/\c<=9223372036854775807/\∀ i (hi:i<r.ps.length),∃ b off pv,ao=some ⟨b,off,none⟩/\S b /\
   w.cell? ⟨b,off+i*4,none⟩=some (.int .i64 r.ps[i].k)/\w.cell? ⟨b,off+i*4+1,none⟩=some pv.1/\w.cell? ⟨b,off+i*4+2,none⟩=some pv.2.1/\w.cell? ⟨b,off+i*4+3,none⟩=some pv.2.2/\FTAt S w r.ps[i] pv:=by
 obtain⟨-,-,q,h1,h2,h3⟩:=(FTAt.iff r v).1 h;have hlen:q.length=r.ps.length:=by rw[<- h1,List.length_map]
 obtain⟨ao,c,e,h4,h5,hc⟩:=Sl.rows fC_length (by decide) h3;refine⟨ao,c,by rw[e,hlen],by omega,h5,fun i hi=>?_⟩;have hiq:i<q.length:=by omega
 obtain⟨b,off,rfl,hb,hc⟩:=hc (by omega);have hget:r.ps[i]=q[i].1:=by simp only[<- h1,List.getElem_map]
 rw[hget];exact⟨b,off,q[i].2,rfl,hb,hc i hiq 0 _ rfl,hc i hiq 1 _ rfl,hc i hiq 2 _ rfl,hc i hiq 3 _ rfl,h2 _ (List.getElem_mem hiq)⟩
def fV (r:FT)(v:FV3):Value := .agg #[.int .i64 r.k,v.1,v.2.1,v.2.2]
theorem pointsT:ElemT Tryz.prog 34 30 3 48:=ElemT.mk' Tryz.underlying34 (show _=some (some (.agg #[.string ByteArray.empty,.string ByteArray.empty,.string ByteArray.empty]),3,48)by kernel_rfl) rfl (by decide)
theorem subsT:ElemT Tryz.prog 52 63 3 48:=ElemT.mk' Tryz.underlying52 (show _=some (some (.agg #[.string ByteArray.empty,.string ByteArray.empty,.string ByteArray.empty]),3,48)by kernel_rfl) rfl (by decide)
theorem pcs_length (l:List P3):(pcs l).length=3*l.length:=by
 unfold pcs;induction l with
 | nil=>rfl
 | cons a r ih=>rw[List.flatMap_cons,List.length_append,ih,pC_length,List.length_cons];omega
theorem pcs_one (l:List P3):∀ u∈pcs l,u.oneCell'=true:=by
 intro u hu;obtain⟨a,_,ha⟩:=List.mem_flatMap.1 hu;exact pC_one a u ha
theorem pcs_append (a b:List P3):pcs (a++b)=pcs a++pcs b:=List.flatMap_append
theorem pcs_single (a:P3):pcs [a]=pC a:=by simp[pcs]
end Go.Proofs.YtjdigpfipmckhaaGreat
namespace Go.Proofs.YtjdigpfipmckhaaGreat
open Go Go.RowKit Go.Maps
def tuC (t:Tup):List Value:=[.string t.o.t,.string t.o.i,.string t.o.r,.string t.s.t,.string t.s.i,.string t.s.r]
def tuCs (l:List Tup):List Value:=l.flatMap tuC
theorem tuC_length (t:Tup):(tuC t).length=6:=rfl
theorem tuCs_length (l:List Tup):(tuCs l).length=l.length*6:=flat_length tuC_length l
theorem tuCs_append (a b:List Tup):tuCs (a++b)=tuCs a++tuCs b:=by unfold tuCs;rw[List.flatMap_append]
theorem tupT:ElemT Tryz.prog 25 104 6 96:=ElemT.mk' Tryz.underlying25 (show _=some (some (.agg #[.string ByteArray.empty,.string ByteArray.empty,.string ByteArray.empty,.string ByteArray.empty,.string ByteArray.empty,.string ByteArray.empty]),6,96)by kernel_rfl) rfl (by decide)
theorem tups_rows {S:Nat->Prop} {w:World} {v:Value} {l:List Tup} (h:Sl S w 6 v (tuCs l)) :
  ∃ ao c,v = .slice ao l.length c/\l.length<=c/\c<=9223372036854775807/\∀ i (hi:i<l.length),∃ b off,ao=some ⟨b,off,none⟩/\S b/\w.cell? ⟨b,off+i*6,none⟩=some (.string l[i].o.t)/\w.cell? ⟨b,off+i*6+1,none⟩=some (.string l[i].o.i)/\w.cell? ⟨b,off+i*6+2,none⟩=some (.string l[i].o.r) /\
   w.cell? ⟨b,off+i*6+3,none⟩=some (.string l[i].s.t)/\w.cell? ⟨b,off+i*6+4,none⟩=some (.string l[i].s.i)/\w.cell? ⟨b,off+i*6+5,none⟩=some (.string l[i].s.r):=by
 obtain⟨ao,c,rfl,h1,h2,hc⟩:=Sl.rows tuC_length (by decide) (show Sl S w 6 v (l.flatMap tuC)from h);refine⟨ao,c,rfl,h1,h2,fun i hi=>?_⟩;obtain⟨b,off,rfl,hb,hc⟩:=hc (by omega);exact⟨b,off,rfl,hb,hc i hi 0 _ rfl,hc i hi 1 _ rfl,hc i hi 2 _ rfl,hc i hi 3 _ rfl,hc i hi 4 _ rfl,hc i hi 5 _ rfl⟩
theorem tup_neq (a b:Tup)(W:World):(binOp BinOp.neq 104 (tV a) (tV b)).run Tryz.prog W = .ok (.bool (decide (a≠b))) W:=by
 obtain⟨⟨a1,a2,a3⟩,⟨a4,a5,a6⟩⟩:=a;obtain⟨⟨b1,b2,b3⟩,⟨b4,b5,b6⟩⟩:=b;unfold tV;dsimp only;go_simp;simp only[ba_toList];by_cases h1:a1=b1
 ·by_cases h2:a2=b2
  ·by_cases h3:a3=b3
   ·by_cases h4:a4=b4
    ·by_cases h5:a5=b5
     ·by_cases h6:a6=b6 <;> simp[h1,h2,h3,h4,h5,h6]
     ·simp[h1,h2,h3,h4,h5]
    ·simp[h1,h2,h3,h4]
   ·simp[h1,h2,h3]
  ·simp[h1,h2]
 ·simp[h1]
end Go.Proofs.YtjdigpfipmckhaaGreat
namespace Go.Proofs.YtjdigpfipmckhaaGreat
open Go Go.RowKit
def ahead (ops:Array Oper):Nat->Nat->Nat->Bool
 | 0,_,_=>false
 | f+1,i,j=>match ops[j]? with
  | some o=>o.after.any fun e=>Region.binds .any e&&(e.on == i||ahead ops f i e.on)
  | none=>false
def Closed (ops:Array Oper)(l:Array Bool):Prop :=
 ∀ j o,ops[j]?=some o->l.getD j false=true->∀ e∈o.after,Region.binds .any e=true->l.getD e.on false=true
theorem ahead_listed {ops:Array Oper} {l:Array Bool} (hc:Closed ops l):∀ (f i j:Nat),ahead ops f i j=true ->
  (∀ o,ops[j]?=some o->∀ e∈o.after,Region.binds .any e=true->l.getD e.on false=true)->l.getD i false=true
 | 0,_,_,h,_=>by simp[ahead]at h
 | f+1,i,j,h,hl=>by
  unfold ahead at h;cases ho:ops[j]? with
  | none=>rw[ho]at h;simp at h
  | some o =>
   rw[ho]at h;simp only[Array.any_eq_true',Bool.and_eq_true,Bool.or_eq_true,beq_iff_eq]at h;obtain⟨e,he,hb,h⟩:=h;have h1:=hl o ho e he hb;rcases h with h | h
   ·exact h▸h1
   ·exact ahead_listed hc f i e.on h fun o' ho' e' he' hb'=>hc _ o' ho' h1 e' he' hb'
theorem Closed.set {ops:Array Oper} {l:Array Bool} (hc:Closed ops l) {j:Nat} (hj:j∈Region.ready .any ops l):Closed ops (l.setIfInBounds j true):=by
 intro k o ho hk e he hb;refine getD_set_true ?_;by_cases hkj:k=j
 ·subst hkj;obtain⟨_,o',ho',hall⟩:=mem_ready.1 hj;rw[ho]at ho';cases ho';exact hall e he hb
 ·rw[getD_set_ne false (Ne.symm hkj)]at hk;exact hc k o ho hk e he hb
theorem Closed.start (ops:Array Oper)(n:Nat):Closed ops (Array.replicate n false):=by
 intro j o _ hj;simp only[Array.getD_eq_getD_getElem?,Array.getElem?_replicate]at hj;split at hj <;> simp at hj
section
variable {P : Program} {ops : Array Oper} {Q : Exit -> Act -> World -> Prop} {S : World -> Prop} {L : Nat}
def wpAnyL (P:Program)(ops:Array Oper)(Q:Exit->Act->World->Prop)(S:World->Prop)(L:Nat):Nat->Array Bool->Act->World->Prop
 | 0,l,a,w=>Region.ready .any ops l=[]/\Q .normal a w
 | f+1,l,a,w=>(Region.ready .any ops l=[]->Q .normal a w) /\
   ∀ i∈Region.ready .any ops l,wpOp P ops Q i (fun a' w'=>(i≠L->S w')/\wpAnyL P ops Q S L f (l.setIfInBounds i true) a' w') a w
theorem wpAnyL_any:∀ (f:Nat)(l:Array Bool)(a:Act)(w:World),wpAnyL P ops Q S L f l a w->wpAny P .any ops Q f l a w
 | 0,_,_,_,h=>h
 | f+1,_,_,_,h=>⟨h.1,fun i hi=>wpOp_mono (fun a' w' k=>wpAnyL_any f _ a' w' k.2) (h.2 i hi)⟩
theorem wpAnyL_done {l:Array Bool} {a:Act} {w:World} (hr:Region.ready .any ops l=[])(h:Q .normal a w):∀ f,wpAnyL P ops Q S L f l a w
 | 0=>⟨hr,h⟩
 | _+1=>⟨fun _=>h,by rw[hr];simp⟩
theorem unlisted {l:Array Bool} {i:Nat} (h:l.getD i true=false)(k:l.getD i false=true):False:=by
 rcases Nat.lt_or_ge i l.size with h' | h'
 ·simp[h']at h k;rw[h]at k;cases k
 ·simp[Array.getElem?_eq_none h']at k
theorem wpAnyL_take {i:Nat} {oi:Oper} {v:Value} (hi:ops[i]?=some oi)(hsel:Region.noSelect ops=true)
  (hQ:∀ c a w,Q (.panic c) (Act.put a oi.dst v) w->Q (.panic c) a w) {n:Nat} (hL:ahead ops n i L=true) :
  ∀ (f:Nat) (l:Array Bool) (a:Act) (w:World),Closed ops l ->
   (∀ j oj,ops[j]?=some oj->j≠i->l.getD j true=false->(∀ e∈oj.after,Region.binds .any e=true->e.on≠i)->oi.apart ops oj=true) ->
   i∈Region.ready .any ops l->YieldsIf P ops S oi v a->S w->wpAnyL P ops Q S L f (l.setIfInBounds i true) (a.put oi.dst v) w->wpAnyL P ops Q S L (f+1) l a w:=by
 intro f;induction f with
 | zero =>
  intro l a w _ _ hr hy hS H;refine⟨fun h=>(by rw[h]at hr;cases hr),fun j hj=>?_⟩;by_cases hji:j=i
  ·subst hji;exact hy.wpOp hi hS ⟨fun _=>hS,H⟩
  ·have:=ready_mono hj hji;rw[H.1]at this;cases this
 | succ f ih =>
  intro l a w hc hfree hr hy hS H;refine⟨fun h=>(by rw[h]at hr;cases hr),fun j hj=>?_⟩;by_cases hji:j=i
  ·subst hji;exact hy.wpOp hi hS ⟨fun _=>hS,H⟩
  ·obtain⟨hjun,oj,hoj,hall⟩:=mem_ready.1 hj;have hiun:=(mem_ready.1 hr).1
   have hjL:j≠L:=by
    intro e;subst e;exact unlisted hiun (ahead_listed hc n i j hL fun o ho e he hb=>by rw[hoj]at ho;cases ho;exact hall e he hb)
   have hnot:∀ e∈oj.after,Region.binds .any e=true->e.on≠i:=fun e he hb heq=>unlisted hiun (heq▸hall e he hb);have h2:=wpOp_putIf hoj (hfree j oj hoj hji hjun hnot) (fun cs b=>Region.noSelect_spec hsel i oi cs b hi) (fun cs b=>Region.noSelect_spec hsel j oj cs b hoj) hQ hy (H.2 j (ready_mono hj hji));refine wpOp_mono (fun a' w' k=>⟨k.2.1,ih (l.setIfInBounds j true) a' w' (hc.set hj) (fun m om hom hmi hun hno=>?_) (ready_mono hr (Ne.symm hji)) k.1 (k.2.1 hjL) ?_⟩) h2
   ·refine hfree m om hom hmi ?_ hno;by_cases hjm:j=m
    ·exact hjm▸hjun
    ·rwa[getD_set_ne true hjm]at hun
   ·rw[Array.setIfInBounds_comm _ _ hji];exact k.2.2
def WalkL (P:Program)(ops:Array Oper)(Q:Exit->Act->World->Prop)(S:World->Prop)(L:Nat):Nat->Array Bool->Act->World->Prop
 | 0,l,a,w=>Region.ready .any ops l=[]/\Q .normal a w
 | f+1,l,a,w=>(Region.ready .any ops l=[]/\Q .normal a w) \/
   (∃ i o v,ops[i]?=some o/\Region.free .any ops l i=true/\(Region.ready .any ops l).contains i=true/\ahead ops ops.size i L=true/\YieldsIf P ops S o v a/\WalkL P ops Q S L f (l.setIfInBounds i true) (a.put o.dst v) w) \/
   (Region.ready .any ops l≠[]/\∀ i∈Region.ready .any ops l,∃ o,ops[i]?=some o/\∀ K':Act->World->Prop,Shut (∀ a' w',S w'->WalkL P ops Q S L f (l.setIfInBounds i true) a' w'->K' a' w') ->
    if Region.wanted o (yielded ops a.tmps)=true then Oper.wp P o a w K' Q else K' (a.put o.dst undef) w) \/
   (Region.ready .any ops l=[L]/\Region.ready .any ops (l.setIfInBounds L true)=[]/\∃ o,ops[L]?=some o/\Region.wanted o (yielded ops a.tmps)=true/\∀ K':Act->World->Prop,Shut (∀ a' w',Q .normal a' w'->K' a' w')->Oper.wp P o a w K' Q)
theorem walkL_sound (hns:Region.noSelect ops=true)(hQ:∀ c a d v w,Q (.panic c) (Act.put a d v) w->Q (.panic c) a w) :
  ∀ (f:Nat) (l:Array Bool) (a:Act) (w:World),Closed ops l->S w->WalkL P ops Q S L f l a w->wpAnyL P ops Q S L f l a w
 | 0,_,_,_,_,_,h=>h
 | f+1,l,a,w,hc,hs,h=>by
  rcases h with⟨h1,h2⟩ | ⟨i,o,v,ho,hf,hr,hL,hy,h⟩ | ⟨hne,h⟩ | ⟨h1,h2,o,ho,hw,h⟩
  ·exact wpAnyL_done h1 h2 _
  ·exact wpAnyL_take ho hns (fun c a w=>hQ c a _ _ w) hL f l a w hc (Region.free_spec ho hf) (by simpa using hr) hy hs (walkL_sound hns hQ f _ _ w (hc.set (by simpa using hr)) hs h)
  ·refine⟨fun e=>absurd e hne,fun i hi=>?_⟩;obtain⟨o,ho,hst⟩:=h i hi;exact wpOp_step ho (fun K' hK=>hst K' (fun a' w' he hw=>hK a' w' ⟨fun _=>he,walkL_sound hns hQ f _ a' w' (hc.set hi) he hw⟩))
  ·refine⟨fun e=>(by rw[e]at h1;exact absurd h1.symm (List.cons_ne_nil _ _)),fun i hi=>?_⟩;rw[h1]at hi;obtain rfl:i=L:=by simpa using hi
   exact wpOp_step ho (fun K' hK=>by rw[if_pos hw];exact h K' (fun a' w' hq=>hK a' w' ⟨fun e=>absurd rfl e,wpAnyL_done h2 hq _⟩))
theorem region_walkL {id:Nat} {a:Act} {w:World} (L:Nat)(S:World->Prop)(hS:S w.drew)(hm:P.follows .mixedOrders=true)(hns:Region.noSelect ops=true)(hQ:∀ c a d v w,Q (.panic c) (Act.put a d v) w->Q (.panic c) a w)
  (h:WalkL P ops Q S L ops.size (Array.replicate ops.size false) a w.drew):(Code.region id ops true).wp P Q a w :=
 wp_region_any hm (wpAnyL_any _ _ _ _ (walkL_sound hns hQ _ _ a w.drew (Closed.start _ _) hS h))
theorem WalkL.take {f:Nat} {l:Array Bool} {a:Act} {w:World} (i:Nat)(o:Oper)(v:Value)(ho:ops[i]?=some o)(hf:Region.free .any ops l i=true)(hr:(Region.ready .any ops l).contains i=true)(hL:ahead ops ops.size i L=true)
  (hw:Region.wanted o (yielded ops a.tmps)=true) (hy:∀ W,S W->(execOp a.eval o).run P W = .ok (.value v) W) (h:WalkL P ops Q S L f (l.setIfInBounds i true) (a.put o.dst v) w):WalkL P ops Q S L (f+1) l a w :=
 .inr (.inl ⟨i,o,v,ho,hf,hr,hL,.inl ⟨hw,hy⟩,h⟩)
def TkL (P:Program)(ops:Array Oper)(Q:Exit->Act->World->Prop)(S:World->Prop)(L:Nat):List Nat->Nat->Array Bool->Act->World->Prop
 | [],f,l,a,w=>WalkL P ops Q S L f l a w
 | i::is,f,l,a,w=>∃ g,f=g+1/\∃ o v,ops[i]?=some o/\Region.free .any ops l i=true/\(Region.ready .any ops l).contains i=true/\ahead ops ops.size i L=true/\Region.wanted o (yielded ops a.tmps)=true/\(∀ W,S W->(execOp a.eval o).run P W = .ok (.value v) W)/\TkL P ops Q S L is g (l.setIfInBounds i true) (a.put o.dst v) w
theorem WalkL.tk (is:List Nat):∀ {f:Nat} {l:Array Bool} {a:Act} {w:World},TkL P ops Q S L is f l a w->WalkL P ops Q S L f l a w:=by
 induction is with
 | nil=>exact fun h=>h
 | cons i is ih =>
  rintro f l a w ⟨g,rfl,o,v,ho,hf,hr,hL,hw,hy,h⟩;exact WalkL.take i o v ho hf hr hL hw hy (ih h)
theorem TkL.c {f:Nat} {l:Array Bool} {a:Act} {w:World} {i:Nat} {is:List Nat} (o:Oper)(v:Value)(ho:ops[i]?=some o)(hf:Region.free .any ops l i=true)(hr:(Region.ready .any ops l).contains i=true)(hL:ahead ops ops.size i L=true)
  (hw:Region.wanted o (yielded ops a.tmps)=true) (hy:∀ W,S W->(execOp a.eval o).run P W = .ok (.value v) W) (h:TkL P ops Q S L is f (l.setIfInBounds i true) (a.put o.dst v) w):TkL P ops Q S L (i::is) (f+1) l a w :=
 ⟨f,rfl,o,v,ho,hf,hr,hL,hw,hy,h⟩
theorem TkL.n {f:Nat} {l:Array Bool} {a:Act} {w:World} (h:WalkL P ops Q S L f l a w):TkL P ops Q S L [] f l a w:=h
def MadeL (P:Program)(ops:Array Oper)(Q:Exit->Act->World->Prop)(S:World->Prop)(L f:Nat)(l:Array Bool)(a:Act)(w:World)(i:Nat):Prop :=
 ∃ o,ops[i]?=some o/\Region.wanted o (yielded ops a.tmps)=true/\∀ K':Act->World->Prop,Shut (∀ a' w',S w'->WalkL P ops Q S L f (l.setIfInBounds i true) a' w'->K' a' w')->Oper.wp P o a w K' Q
theorem WalkL.one {f:Nat} {l:Array Bool} {a:Act} {w:World} (i:Nat)(hr:Region.ready .any ops l=[i])(h:MadeL P ops Q S L f l a w i):WalkL P ops Q S L (f+1) l a w:=by
 refine .inr (.inr (.inl ⟨by rw[hr];simp,fun j hj=>?_⟩));rw[hr]at hj;obtain rfl:j=i:=by simpa using hj
 obtain⟨o,ho,hw,h⟩:=h;exact⟨o,ho,fun K hK=>by rw[if_pos hw];exact h K hK⟩
theorem WalkL.last {f:Nat} {l:Array Bool} {a:Act} {w:World} (hr:Region.ready .any ops l=[L])(hr':Region.ready .any ops (l.setIfInBounds L true)=[])
  (h:∃ o,ops[L]?=some o/\Region.wanted o (yielded ops a.tmps)=true/\∀ K':Act->World->Prop,Shut (∀ a' w',Q .normal a' w'->K' a' w')->Oper.wp P o a w K' Q):WalkL P ops Q S L (f+1) l a w :=
 .inr (.inr (.inr ⟨hr,hr',h⟩))
end
end Go.Proofs.YtjdigpfipmckhaaGreat
namespace Go.Proofs
open Go.Shelf
def Tryz.sortT_ren:Go.Shelf.Ren:=⟨fun | 6=>112 | 15=>147 | 14=>159 | 28=>178 | 29=>179 | 20=>184 | 21=>185 | 22=>186 | 23=>187 | 24=>188 | 25=>189 | 26=>190 | 27=>191 | 46=>209 | 47=>203 | 48=>204 | 49=>210 | 50=>211 | 57=>216 | n=>n,fun | 22=>25 | 24=>104 | 25=>128 | 3=>3 | 39=>225 | 0=>0 | 53=>265 | 55=>267 | 4=>4 | 46=>258 | 45=>257 | 50=>187 | 5=>5 | 9=>9 | 66=>282 | 70=>286 | 76=>294 | 77=>295 | n=>n,fun | n=>n⟩
theorem Tryz.sortT:Go.Proofs.SlLaysF0.n6 Tryz.prog Tryz.sortT_ren := {
 mixed:=by kernel_rfl
 f6:=⟨Tryz.f112.name,by decide,Tryz.func112.trans (congrArg some (by kernel_rfl))⟩
 f14:=⟨Tryz.f159.name,by decide,Tryz.func159.trans (congrArg some (by kernel_rfl))⟩
 f15:=Tryz.func147.trans (congrArg some (by kernel_rfl))
 f20:=⟨Tryz.f184.name,by decide,Tryz.func184.trans (congrArg some (by kernel_rfl))⟩
 f21:=⟨Tryz.f185.name,by decide,Tryz.func185.trans (congrArg some (by kernel_rfl))⟩
 f22:=⟨Tryz.f186.name,by decide,Tryz.func186.trans (congrArg some (by kernel_rfl))⟩
 f23:=⟨Tryz.f187.name,by decide,Tryz.func187.trans (congrArg some (by kernel_rfl))⟩
 f24:=⟨Tryz.f188.name,by decide,Tryz.func188.trans (congrArg some (by kernel_rfl))⟩
 f25:=⟨Tryz.f189.name,by decide,Tryz.func189.trans (congrArg some (by kernel_rfl))⟩
 f26:=⟨Tryz.f190.name,by decide,Tryz.func190.trans (congrArg some (by kernel_rfl))⟩
 f27:=⟨Tryz.f191.name,by decide,Tryz.func191.trans (congrArg some (by kernel_rfl))⟩
 f28:=Tryz.func178.trans (congrArg some (by kernel_rfl))
 f29:=Tryz.func179.trans (congrArg some (by kernel_rfl))
 f46:=⟨Tryz.f209.name,by decide,Tryz.func209.trans (congrArg some (by kernel_rfl))⟩
 f47:=Tryz.func203.trans (congrArg some (by kernel_rfl))
 f48:=Tryz.func204.trans (congrArg some (by kernel_rfl))
 f49:=⟨Tryz.f210.name,by decide,Tryz.func210.trans (congrArg some (by kernel_rfl))⟩
 f50:=⟨Tryz.f211.name,by decide,Tryz.func211.trans (congrArg some (by kernel_rfl))⟩
 f57:=⟨Tryz.f216.name,by decide,Tryz.func216.trans (congrArg some (by kernel_rfl))⟩
 t0:=Tryz.underlying0
 a0:=Tryz.isAgg0
 z0:=Tryz.sizeOf0
 v0:=Tryz.zeroValue0
 t3:=Tryz.underlying3
 a3:=Tryz.isAgg3
 z3:=Tryz.sizeOf3
 v3:=Tryz.zeroValue3
 t4:=Tryz.underlying4
 a4:=Tryz.isAgg4
 z4:=Tryz.sizeOf4
 v4:=Tryz.zeroValue4
 t5:=Tryz.underlying5
 a5:=Tryz.isAgg5
 z5:=Tryz.sizeOf5
 v5:=Tryz.zeroValue5
 t9:=Tryz.underlying9
 a9:=Tryz.isAgg9
 z9:=Tryz.sizeOf9
 v9:=Tryz.zeroValue9
 t22:=Tryz.underlying25
 a22:=Tryz.isAgg25
 z22:=Tryz.sizeOf25
 v22:=Tryz.zeroValue25
 t25:=Tryz.underlying128
 a25:=Tryz.isAgg128
 z25:=Tryz.sizeOf128
 v25:=Tryz.zeroValue128
 t39:=Tryz.underlying225
 a39:=Tryz.isAgg225
 z39:=Tryz.sizeOf225
 v39:=Tryz.zeroValue225
 t45:=Tryz.underlying257
 a45:=Tryz.isAgg257
 z45:=Tryz.sizeOf257
 v45:=Tryz.zeroValue257
 t46:=Tryz.underlying258
 a46:=Tryz.isAgg258
 z46:=Tryz.sizeOf258
 v46:=Tryz.zeroValue258
 t50:=Tryz.underlying187
 a50:=Tryz.isAgg187
 z50:=Tryz.sizeOf187
 v50:=Tryz.zeroValue187
 t53:=Tryz.underlying265
 a53:=Tryz.isAgg265
 z53:=Tryz.sizeOf265
 v53:=Tryz.zeroValue265
 t55:=Tryz.underlying267
 a55:=Tryz.isAgg267
 z55:=Tryz.sizeOf267
 v55:=Tryz.zeroValue267
 t66:=Tryz.underlying282
 a66:=Tryz.isAgg282
 z66:=Tryz.sizeOf282
 v66:=Tryz.zeroValue282
 t70:=Tryz.underlying286
 a70:=Tryz.isAgg286
 z70:=Tryz.sizeOf286
 v70:=Tryz.zeroValue286
 t76:=Tryz.underlying294
 a76:=Tryz.isAgg294
 z76:=Tryz.sizeOf294
 v76:=Tryz.zeroValue294
 t77:=Tryz.underlying295
 a77:=Tryz.isAgg295
 z77:=Tryz.sizeOf295
 v77:=Tryz.zeroValue295}
end Go.Proofs
namespace Go.Proofs.YtjdigpfipmckhaaGreat
open Go Go.RowKit Go.Maps
theorem p3_neq (a b:P3)(W:World):(binOp BinOp.neq 30 (pV a) (pV b)).run Tryz.prog W = .ok (.bool (decide (a≠b))) W:=by
 obtain⟨a1,a2,a3⟩:=a;obtain⟨b1,b2,b3⟩:=b;unfold pV;dsimp only;go_simp;simp only[ba_toList];by_cases h1:a1=b1 <;> by_cases h2:a2=b2 <;> by_cases h3:a3=b3 <;> simp[h1,h2,h3]
theorem p3_eql (a b:P3)(W:World):(binOp BinOp.eql 30 (pV a) (pV b)).run Tryz.prog W = .ok (.bool (decide (a=b))) W:=by
 obtain⟨a1,a2,a3⟩:=a;obtain⟨b1,b2,b3⟩:=b;unfold pV;dsimp only;go_simp;simp only[ba_toList];by_cases h1:a1=b1 <;> by_cases h2:a2=b2 <;> by_cases h3:a3=b3 <;> simp[h1,h2,h3]
theorem sub_eql (a b:P3)(W:World):(binOp BinOp.eql 63 (pV a) (pV b)).run Tryz.prog W = .ok (.bool (decide (a=b))) W:=by
 obtain⟨a1,a2,a3⟩:=a;obtain⟨b1,b2,b3⟩:=b;unfold pV;dsimp only;go_simp;simp only[ba_toList];by_cases h1:a1=b1 <;> by_cases h2:a2=b2 <;> by_cases h3:a3=b3 <;> simp[h1,h2,h3]
theorem ints_at {S:Nat->Prop} {w:World} {ao:Option Addr} {l:List Int} {c:Nat} (h:Sl S w 1 (.slice ao l.length c) (ic l)):∀ i (hi:i<l.length),∃ b off,ao=some ⟨b,off,none⟩/\S b/\w.cell? ⟨b,off+i,none⟩=some (.int .i64 l[i]):=by
 obtain⟨ao',n',c',hv,h1,h2,h3,h4,h5⟩:=h;cases hv;intro i hi;obtain⟨b,off,rfl,hb,hc⟩:=h5 (fun e=>by have:=congrArg List.length e;rw[ic_length]at this;simp only[List.length_nil]at this;omega);exact⟨b,off,rfl,hb,hc i _ (by simp[ic,hi])⟩
set_option maxRecDepth 100000 in
set_option maxHeartbeats 2000000 in
theorem indexIF_any (w:World)(ps:List Int)(pv:Value)(g:Nat)(cap:Array Value)(eg:∀ args W,(callFunc g args).run Tryz.prog W = .ok (.enter g args) W)(q:Int->Bool)(hat:Sl (· < w.heap.size) w 1 pv (ic ps))(hf:∀ i (hi:i<ps.length) W,Below w.heap.size w W->Calls Tryz.prog g (#[.int .i64 ps[i]]++cap) W fun e W'=>e = .returned (.bool (q ps[i]))/\Below W.heap.size W W') :
  Calls Tryz.prog 148 #[pv,.func (.func g) #[] cap] w fun e w'=>∃ k:Int,e = .returned (.int .i64 k)/\(0<=k↔ps.any q=true)/\Below w.heap.size w w':=by
 obtain⟨ao,n,c,rfl,hn,hlc,hcm⟩:=hat.len;rw[ic_length,Nat.mul_one]at hn;subst hn;have HC:=h! (ints_at hat);have HF:=h! hf;clear hat hf;go_enter Tryz.func148,Tryz.ntmps148
 go_wp2_with fail
 go_loopw [5,8] (fun _ ii wr=>∃ i:Nat,i<=ps.length/\ii = .int .i64 i/\(∀ j (hj:j<ps.length),j<i->q ps[j]=false)/\Below w.heap.size w wr) (fun _ ii _=>ps.length-(intOf ii).toNat)
 case atStart=>exact⟨0,by omega,rfl,fun _ _ h=>absurd h (by omega),Below.refl _ _⟩
 case round =>
  obtain⟨i,hi,rfl,hall,hbel⟩:=hrel;have HALL:=h! hall;clear hall;by_cases hlt:i<ps.length
  ·have HUP:=h! (fun h=>upto_succ (p:=fun j hj=>q ps[j]=false) HALL.out hlt h);have HAN:=h! (fun(h:q ps[i]=true)=>(show ps.any q=true from List.any_eq_true.2 ⟨_,List.getElem_mem hlt,h⟩));obtain⟨bb,off,hbo,hb,c0⟩:=HC.out i hlt;cases hbo;have d0:=(hbel.cell (p:=⟨bb,off+i,none⟩) hb).trans c0;have HR:=h! (HF.out i hlt wr hbel);clear c0 hb;generalize ps[i]=p at *;have HB:=h! hbel;clear hbel;cases hq:q p with
   | true =>
    rw[hq]at HR;have HT:=h! (HAN.out hq);clear HUP HAN hq;go_wp2_with fail
    refine HR.out.mono ?_;rintro e w5 ⟨rfl,hb5⟩;have HBE:=h! (HB.out.trans (hb5.mono HB.out.size));clear HR hb5 d0;go_wp2_with fail
    go_ret
    exact⟨_,rfl,⟨fun _=>HT.out,fun _=>by omega⟩,HBE.out⟩
   | false =>
    rw[hq]at HR;have HN:=h! (HUP.out hq);clear HUP HAN hq;go_wp2_with fail
    refine HR.out.mono ?_;rintro e w5 ⟨rfl,hb5⟩;have HBE:=h! (HB.out.trans (hb5.mono HB.out.size));clear HR hb5 d0;go_wp2_with fail
    go_roundw
    case rel=>exact⟨i+1,by omega,by go_num,HN.out,HBE.out⟩
    case measure=>simp[intOf];omega
  ·obtain rfl:i=ps.length:=by omega
   have HN:=h! (show ¬ ps.any q=true from fun h=>by
    obtain⟨x,hx,hq⟩:=List.any_eq_true.1 h;obtain⟨j,hj,rfl⟩:=List.getElem_of_mem hx;rw[HALL.out j hj hj]at hq;cases hq)
   have HB:=h! hbel;clear hbel;go_wp2_with fail
   go_ret
   exact⟨_,rfl,⟨fun h=>absurd h (by omega),fun h=>absurd h HN.out⟩,HB.out⟩
set_option maxRecDepth 100000 in
set_option maxHeartbeats 2000000 in
theorem containsIF_any (w:World)(ps:List Int)(pv:Value)(g:Nat)(cap:Array Value)(eg:∀ args W,(callFunc g args).run Tryz.prog W = .ok (.enter g args) W)(q:Int->Bool)(hat:Sl (· < w.heap.size) w 1 pv (ic ps))(hf:∀ i (hi:i<ps.length) W,Below w.heap.size w W->Calls Tryz.prog g (#[.int .i64 ps[i]]++cap) W fun e W'=>e = .returned (.bool (q ps[i]))/\Below W.heap.size W W') :
  Calls Tryz.prog 97 #[pv,.func (.func g) #[] cap] w fun e w'=>e = .returned (.bool (ps.any q))/\Below w.heap.size w w':=by
 have HI:=h! (indexIF_any w ps pv g cap eg q hat hf);clear hat hf;go_enter Tryz.func97,Tryz.ntmps97
 go_wp2_with fail
 refine HI.out.mono ?_;rintro e w2 ⟨k,rfl,hk,hb⟩;have HK:=h! hk;have HB:=h! hb;clear HI hk hb;by_cases h0:0<=k
 ·have HM:=h! (HK.out.1 h0);go_wp2_with fail
  go_ret
  exact⟨by rw[HM.out];simp[h0],HB.out⟩
 ·have HM:=h! (show ps.any q=false from by cases h:ps.any q with | false=>rfl | true=>exact absurd (HK.out.2 h) h0);go_wp2_with fail
  go_ret
  exact⟨by rw[HM.out];simp[h0],HB.out⟩
set_option maxRecDepth 100000 in
set_option maxHeartbeats 2000000 in
theorem indexFF_any (w:World)(ps:List FT)(k:Int)(sa:List P3)(sb:List Int)(pv:FV3)(g:Nat)(cap:Array Value)(eg:∀ args W,(callFunc g args).run Tryz.prog W = .ok (.enter g args) W)(q:FT->Bool)(hat:FTAt (· < w.heap.size) w (.mk k sa sb ps) pv)(hf:∀ i (hi:i<ps.length) W pvi,Below w.heap.size w W->FTAt (· < W.heap.size) W ps[i] pvi->Calls Tryz.prog g (#[fV ps[i] pvi]++cap) W fun e W'=>e = .returned (.bool (q ps[i]))/\Below W.heap.size W W') :
  Calls Tryz.prog 150 #[pv.2.2,.func (.func g) #[] cap] w fun e w'=>∃ k:Int,e = .returned (.int .i64 k)/\(0<=k↔ps.any q=true)/\Below w.heap.size w w':=by
 obtain⟨pv1,pv2,pv3⟩:=pv;obtain⟨ao,c,he,hlc,hcm,hcell⟩:=hat.rows;dsimp only[FT.ps]at he hlc hcell ⊢;subst he;have HC:=h! hcell;have HF:=h! hf;clear hat hcell hf;go_enter Tryz.func150,Tryz.ntmps150
 go_wp2_with fail
 go_loopw [5,8] (fun _ ii wr=>∃ i:Nat,i<=ps.length/\ii = .int .i64 i/\(∀ j (hj:j<ps.length),j<i->q ps[j]=false)/\Below w.heap.size w wr) (fun _ ii _=>ps.length-(intOf ii).toNat)
 case atStart=>exact⟨0,by omega,rfl,fun _ _ h=>absurd h (by omega),Below.refl _ _⟩
 case round =>
  obtain⟨i,hi,rfl,hall,hbel⟩:=hrel;have HALL:=h! hall;clear hall;by_cases hlt:i<ps.length
  ·have HUP:=h! (fun h=>upto_succ (p:=fun j hj=>q ps[j]=false) HALL.out hlt h);have HAN:=h! (fun(h:q ps[i]=true)=>(show ps.any q=true from List.any_eq_true.2 ⟨_,List.getElem_mem hlt,h⟩));obtain⟨bb,off,⟨e1,e2,e3⟩,hbo,hb,c0,c1,c2,c3,hat2⟩:=HC.out i hlt;cases hbo;dsimp only at c1 c2 c3;have d0:=(hbel.cell (p:=⟨bb,off+i*4,none⟩) hb).trans c0;have d1:=(hbel.cell (p:=⟨bb,off+i*4+1,none⟩) hb).trans c1;have d2:=(hbel.cell (p:=⟨bb,off+i*4+2,none⟩) hb).trans c2;have d3:=(hbel.cell (p:=⟨bb,off+i*4+3,none⟩) hb).trans c3;have HR:=h! (HF.out i hlt wr (e1,e2,e3) hbel (hat2.up hbel));clear c0 c1 c2 c3 hat2 hb;unfold fV at HR;dsimp only at HR;generalize ps[i]=p at *;have HB:=h! hbel;clear hbel;cases hq:q p with
   | true =>
    rw[hq]at HR;have HT:=h! (HAN.out hq);clear HUP HAN hq;go_wp2_with fail
    refine HR.out.mono ?_;rintro e w5 ⟨rfl,hb5⟩;have HBE:=h! (HB.out.trans (hb5.mono HB.out.size));clear HR hb5 d0 d1 d2 d3;go_wp2_with fail
    go_ret
    exact⟨_,rfl,⟨fun _=>HT.out,fun _=>by omega⟩,HBE.out⟩
   | false =>
    rw[hq]at HR;have HN:=h! (HUP.out hq);clear HUP HAN hq;go_wp2_with fail
    refine HR.out.mono ?_;rintro e w5 ⟨rfl,hb5⟩;have HBE:=h! (HB.out.trans (hb5.mono HB.out.size));clear HR hb5 d0 d1 d2 d3;go_wp2_with fail
    go_roundw
    case rel=>exact⟨i+1,by omega,by go_num,HN.out,HBE.out⟩
    case measure=>simp[intOf];omega
  ·obtain rfl:i=ps.length:=by omega
   have HN:=h! (show ¬ ps.any q=true from fun h=>by
    obtain⟨x,hx,hq⟩:=List.any_eq_true.1 h;obtain⟨j,hj,rfl⟩:=List.getElem_of_mem hx;rw[HALL.out j hj hj]at hq;cases hq)
   have HB:=h! hbel;clear hbel;go_wp2_with fail
   go_ret
   exact⟨_,rfl,⟨fun h=>absurd h (by omega),fun h=>absurd h HN.out⟩,HB.out⟩
set_option maxRecDepth 100000 in
set_option maxHeartbeats 2000000 in
theorem containsFF_any (w:World)(ps:List FT)(k:Int)(sa:List P3)(sb:List Int)(pv:FV3)(g:Nat)(cap:Array Value)(eg:∀ args W,(callFunc g args).run Tryz.prog W = .ok (.enter g args) W)(q:FT->Bool)(hat:FTAt (· < w.heap.size) w (.mk k sa sb ps) pv)(hf:∀ i (hi:i<ps.length) W pvi,Below w.heap.size w W->FTAt (· < W.heap.size) W ps[i] pvi->Calls Tryz.prog g (#[fV ps[i] pvi]++cap) W fun e W'=>e = .returned (.bool (q ps[i]))/\Below W.heap.size W W') :
  Calls Tryz.prog 101 #[pv.2.2,.func (.func g) #[] cap] w fun e w'=>e = .returned (.bool (ps.any q))/\Below w.heap.size w w':=by
 have HI:=h! (indexFF_any w ps k sa sb pv g cap eg q hat hf);clear hat hf;go_enter Tryz.func101,Tryz.ntmps101
 go_wp2_with fail
 refine HI.out.mono ?_;rintro e w2 ⟨k,rfl,hk,hb⟩;have HK:=h! hk;have HB:=h! hb;clear HI hk hb;by_cases h0:0<=k
 ·have HM:=h! (HK.out.1 h0);go_wp2_with fail
  go_ret
  exact⟨by rw[HM.out];simp[h0],HB.out⟩
 ·have HM:=h! (show ps.any q=false from by cases h:ps.any q with | false=>rfl | true=>exact absurd (HK.out.2 h) h0);go_wp2_with fail
  go_ret
  exact⟨by rw[HM.out];simp[h0],HB.out⟩
set_option maxRecDepth 100000 in
set_option maxHeartbeats 2000000 in
theorem indexS_any (v:Value)(l:List P3)(k:P3)(w:World)(h:Sl (· < w.heap.size) w 3 v (pcs l)) :
  Calls Tryz.prog 149 #[v,pV k] w fun e w'=>(∃ i:Int,e = .returned (.int .i64 i)/\(0<=i↔k∈l))/\Below w.heap.size w w':=by
 obtain⟨ao,c,rfl,hlc,hcm,hc⟩:=Sl.rows pC_length (by decide) (show Sl (· < w.heap.size) w 3 v (l.flatMap pC)from h);have HC:=h! hc;clear hc h;obtain⟨w2,hw2⟩:∃ x,x=w.alloc (.cells #[.string k.t,.string k.i,.string k.r] 63):=⟨_,rfl⟩;have e2:w2.heap.size=w.heap.size+1:=by rw[hw2];simp
 have KB:=h! (show Blk w2 w.heap.size #[.string k.t,.string k.i,.string k.r] 63 from by rw[hw2];exact Blk.made _ _ _);have X2:=h! (show Ext w w2 from by rw[hw2];exact Ext.alloc _ _);unfold pV;go_enter Tryz.func149,Tryz.ntmps149
 go_wp2_with fail
 rw[<- hw2];clear hw2 e2;go_loopw [5,8] (fun _ iv wr=>∃ i:Nat,i<=l.length/\iv = .int .i64 i/\(∀ j (hj:j<l.length),j<i->l[j]≠k)/\Ext w2 wr) (fun _ iv _=>l.length-(intOf iv).toNat)
 case atStart=>exact⟨0,Nat.zero_le _,rfl,(fun _ _ h=>absurd h (Nat.not_lt_zero _)),Ext.refl _⟩
 case round =>
  obtain⟨i,hi,rfl,hall,hx⟩:=hrel;have HALL:=h! hall;have HX:=h! hx;clear hall hx;by_cases hlt:i<l.length
  ·obtain⟨b,off,rfl,hb,hcl⟩:=HC.out (by omega);have G:=h! (fun W (hW:Ext wr W)=>show ∀ (o:Nat) v,(pC l[i])[o]?=some v->W.cell? ⟨b,off+i*3+o,none⟩=some v from fun o v ho=>(X2.out.trans (HX.out.trans hW)).cell (hcl i hlt o v ho));have hli:(i:Int)<(l.length:Int):=by omega
   have HLT:=h! hlt;have HUP:=h! (fun(h:l[i]≠k)=>upto_succ (p:=fun j hj=>l[j]≠k) HALL.out hlt h);have HMM:=h! (fun(h:l[i]=k)=>(show k∈l from h▸List.getElem_mem hlt));generalize l[i]=x at *;clear hlt hb hcl;go_wp2_with fail
   obtain⟨wd,hwd⟩:∃ z:World,z=World.drew wr:=⟨_,rfl⟩;have DX:=h! (show Ext wr wd from by rw[hwd];exact Ext.drew _);refine region_walkN (Ext wd) (by rw[<- hwd];exact Ext.refl _) (by kernel_rfl) (by kernel_rfl) (fun _ _ d _ _ h=>by cases d <;> exact h) ?_;rw[<- hwd];clear hwd;have h0:∀ W,Ext wd W->W.cell? ⟨b,off+i*3,none⟩=some (.string x.t):=fun W h=>G.out W (DX.out.trans h) 0 _ rfl;have h1:=fun W (h:Ext wd W)=>G.out W (DX.out.trans h) 1 _ rfl;have h2:=fun W (h:Ext wd W)=>G.out W (DX.out.trans h) 2 _ rfl;have h3:=fun W (h:Ext wd W)=>(KB.out.below (HX.out.trans (DX.out.trans h))).cells;have h4:=fun W=>sub_eql k x W;unfold pV at h4;have HQ:∃ bq,Hid (decide (k=x)=bq):=⟨_,h! rfl⟩;obtain⟨bq,HQ⟩:=HQ;rw[HQ.out]at h4;(refine WalkN.tk [0,1,2,3,4,5] ?_;(iterate 6 ((refine TkN.c _ ?_ (by simp only[gA,gS,gZ];rfl) (by kernel_rfl) (by kernel_rfl) (by rfl) (fun W hW=>?_) ?_;rotate_left;· (go_simp;try with_reducible rfl));simp only[Act.put,pA,pZ,pS]));refine TkN.n ?_)
   refine WalkN.done (by kernel_rfl) ?_;clear h0 h1 h2 h3 h4 hli;cases bq with
   | true =>
    have HM:=h! (HMM.out (of_decide_eq_true HQ.out).symm);have HE:=h! (show Below w.heap.size w wd from X2.out.trans (HX.out.trans DX.out));clear HUP HMM HQ;go_wp2_with fail
    go_ret
    exact⟨⟨_,rfl,⟨fun _=>HM.out,fun _=>by omega⟩⟩,HE.out⟩
   | false =>
    have HN:=h! (HUP.out fun e=>of_decide_eq_false HQ.out e.symm);have HWI:=h! (show wrap64 ((i:Int)+1)=((i+1:Nat):Int)from by have:=HLT.out;unfold wrap64;omega);clear HUP HMM HQ;go_wp2_with fail
    go_roundw
    case rel=>exact⟨i+1,HLT.out,by first | rw[HWI.out] | go_num,HN.out,HX.out.trans DX.out⟩
    case measure=>have:=HLT.out;(try rw[HWI.out]);simp[intOf];omega
  ·obtain rfl:i=l.length:=by omega
   have HN:=h! (show k∉l from fun hk=>by obtain⟨j,hj,e⟩:=List.getElem_of_mem hk;exact HALL.out j hj hj e);have HE:=h! (show Below w.heap.size w wr from X2.out.trans HX.out);go_wp2_with fail
   go_ret
   exact⟨⟨_,rfl,⟨fun h=>absurd h (by decide),fun h=>absurd h HN.out⟩⟩,HE.out⟩
set_option maxRecDepth 100000 in
theorem containsS_any (v:Value)(l:List P3)(k:P3)(w:World)(h:Sl (· < w.heap.size) w 3 v (pcs l)) :
  Calls Tryz.prog 100 #[v,pV k] w fun e w'=>e = .returned (.bool (decide (k∈l)))/\Below w.heap.size w w':=by
 obtain⟨w2,hw2⟩:∃ x,x=w.alloc (.cells #[.string k.t,.string k.i,.string k.r] 63):=⟨_,rfl⟩;have KB:=h! (show Blk w2 w.heap.size #[.string k.t,.string k.i,.string k.r] 63 from by rw[hw2];exact Blk.made _ _ _);have X2:=h! (show Ext w w2 from by rw[hw2];exact Ext.alloc _ _);have HI:=h! (indexS_any v l k w2 ((h.same (Same.below X2.out)).mono fun _ h=>Nat.lt_of_lt_of_le h X2.out.size));obtain⟨ao,c,rfl,-⟩:=Sl.rows pC_length (by decide) (show Sl (· < w.heap.size) w 3 v (l.flatMap pC)from h);clear h;unfold pV at HI ⊢;go_enter Tryz.func100,Tryz.ntmps100
 go_wp2_with fail
 rw[<- hw2];clear hw2;have hk:=KB.out.cells;go_wp2_with fail
 refine HI.out.mono ?_;rintro e w1 ⟨⟨i,rfl,hi⟩,hb⟩;have HB:=h! (show Below w.heap.size w w1 from Ext.trans X2.out hb);clear hk hb;by_cases hk:k∈l
 ·have h0:=hi.2 hk;clear hi;go_wp2_with fail
  go_ret
  exact⟨by rw[decide_eq_true hk];simp[h0],HB.out⟩
 ·have h0:¬ (0<=i):=fun h=>hk (hi.1 h);have hd:decide (0<=i)=false:=decide_eq_false h0;clear hi h0;go_wp2_with fail
  go_ret
  exact⟨by rw[decide_eq_false hk];rfl,HB.out⟩
end Go.Proofs.YtjdigpfipmckhaaGreat
