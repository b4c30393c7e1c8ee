/- Lemmas for the claim, no condition. -/
import Derived.Test.YtlhaghoajpglaaaGreatRows
import GoSem.PinnedTables
import Derived.Deep.DeepHandedRow
import Derived.Lib.SmallJoins
import Derived.Test.YtlhaghoajpglaaaGreatYPrMore5
import Derived.ProofKit
set_option maxRecDepth 100000
set_option maxHeartbeats 4000000
namespace Go.Proofs.YtlhaghoajpglaaaGreat
structure P3 where
 t:ByteArray
 i:ByteArray
 r:ByteArray
deriving DecidableEq
structure Tup where
 o:P3
 s:P3
deriving DecidableEq
instance:Inhabited P3:=⟨⟨ByteArray.empty,ByteArray.empty,ByteArray.empty⟩⟩
instance:Inhabited Tup:=⟨⟨default,default⟩⟩
def P3.isSet (p:P3):Prop:=p.r.size≠0
instance (p:P3):Decidable p.isSet:=by unfold P3.isSet;infer_instance
end Go.Proofs.YtlhaghoajpglaaaGreat
namespace Go.Proofs.YtlhaghoajpglaaaGreat
open Go Go.RowKit Go.Proofs.Tryz
def tV (t:Tup):Value := .agg #[.string t.o.t,.string t.o.i,.string t.o.r,.string t.s.t,.string t.s.i,.string t.s.r]
def P3.Ok (p:P3):Prop:=p.t.size<=maxLen/\p.i.size<=maxLen/\p.r.size<=maxLen
def Tup.Ok (t:Tup):Prop:=t.o.Ok/\t.s.Ok
def chkT (t:Tup):Bool:=isNm t.o.t&&isNm t.o.i&&isNm t.o.r&&isNm t.s.t&&isNm t.s.i&&(isNm t.s.r||decide (t.s.r.size=0))
def chkN (t:Tup):Int:=if chkT t then 0 else 2
theorem nT! (t:Tup)(w:World):Calls prog 139 #[tV t] w fun e w'=>e= .returned (tV t)/\Below w.heap.size w w':=by
 obtain⟨⟨b,d,a⟩,⟨st,si,c⟩⟩:=t;have hb:=(Blk.made w #[.string b,.string d,.string a,.string st,.string si,.string c] 67);have h1:Below w.heap.size w (w.alloc (.cells #[.string b,.string d,.string a,.string st,.string si,.string c] 67)):=(Below.refl _ _).alloc (n0! _) _;unfold tV;dsimp only;go_enter func139,ntmps139
 go_wp2_with fail
 refine bodyPost_ret (results_cell_row rfl _ _ (w.heap.size+1) 237 #[.string b,.string d,.string a,.string st,.string si,.string c] (0,0) _ rfl ?_ Tryz.underlying237 rfl (by kernel_rfl)) rfl ⟨rfl,h1.alloc h1.size _⟩;have:=heap_alloc_new (w.alloc (.cells #[.string b,.string d,.string a,.string st,.string si,.string c] 67)) (.cells #[.string b,.string d,.string a,.string st,.string si,.string c] 237);rwa[World.size_alloc]at this
theorem lC! (a b c d e f:ByteArray)(W:World) :
  (Instr.index 237 (.agg #[.string a,.string b,.string c,.string d,.string e,.string f]) (.int .i64 0)).run prog W= .ok (.string a) W /\
  (Instr.index 237 (.agg #[.string a,.string b,.string c,.string d,.string e,.string f]) (.int .i64 1)).run prog W= .ok (.string b) W /\
  (Instr.index 237 (.agg #[.string a,.string b,.string c,.string d,.string e,.string f]) (.int .i64 2)).run prog W= .ok (.string c) W /\
  (Instr.index 237 (.agg #[.string a,.string b,.string c,.string d,.string e,.string f]) (.int .i64 3)).run prog W= .ok (.string d) W /\
  (Instr.index 237 (.agg #[.string a,.string b,.string c,.string d,.string e,.string f]) (.int .i64 4)).run prog W= .ok (.string e) W /\
  (Instr.index 237 (.agg #[.string a,.string b,.string c,.string d,.string e,.string f]) (.int .i64 5)).run prog W= .ok (.string f) W :=
 ⟨by kernel_rfl,by kernel_rfl,by kernel_rfl,by kernel_rfl,by kernel_rfl,by kernel_rfl⟩
theorem kv! (t:Tup)(ht:t.Ok)(w:World):Calls prog 80 #[tV t] w fun e w'=>e= .returned (.int .i64 (chkN t))/\Below w.heap.size w w':=by
 obtain⟨⟨q,s,a⟩,⟨st,si,p⟩⟩:=t;have b:=h! ht;clear ht;have f:=(Blk.made w #[.string q,.string s,.string a,.string st,.string si,.string p] 67).cells;have HE:Hid (Below w.heap.size w (w.alloc (.cells #[.string q,.string s,.string a,.string st,.string si,.string p] 67))):=h! ((Below.refl _ _).alloc (n0! _) _);have g:=h! (nT! ⟨⟨q,s,a⟩,⟨st,si,p⟩⟩ (w.alloc (.cells #[.string q,.string s,.string a,.string st,.string si,.string p] 67)));unfold tV at g ⊢;dsimp only at g ⊢;unfold Tup.Ok P3.Ok at b;dsimp only at b;go_enter func80,ntmps80
 go_wp2_with fail
 refine g.out.mono ?_;rintro e w2 ⟨rfl,d⟩;have c:=h! (HE.out.trans (d.mono HE.out.size));clear HE g d f;obtain⟨p0,p1,p2,p3,p4,p5⟩:=lC! q s a st si p w2;go_wp2_with fail
 refine wp_loop_rounds 7 ?_;rw[rounds_succ];go_wp2_with fail
 refine(bc! q b.out.1.1 _).mono ?_;rintro e w' ⟨rfl,rfl⟩;rcases hb0:isNm q with _ | _
 ·have r:=h! hb0;clear hb0;go_wp2_with fail
  go_ret
  exact⟨congrArg (fun n=>Ending.returned (.int .i64 n)) (show(2:Int)=chkN ⟨⟨q,s,a⟩,⟨st,si,p⟩⟩from by simp[chkN,chkT,r.out]),c.out⟩
 have m:=h! hb0;clear hb0;go_wp2_with fail
 rw[rounds_succ];go_wp2_with fail
 refine(bc! s b.out.1.2.1 _).mono ?_;rintro e w' ⟨rfl,rfl⟩;rcases f:isNm s with _ | _
 ·have r:=h! f;clear f;go_wp2_with fail
  go_ret
  exact⟨congrArg (fun n=>Ending.returned (.int .i64 n)) (show(2:Int)=chkN ⟨⟨q,s,a⟩,⟨st,si,p⟩⟩from by simp[chkN,chkT,r.out]),c.out⟩
 have o:=h! f;clear f;go_wp2_with fail
 rw[rounds_succ];go_wp2_with fail
 refine(bc! a b.out.1.2.2 _).mono ?_;rintro e w' ⟨rfl,rfl⟩;rcases d:isNm a with _ | _
 ·have r:=h! d;clear d;go_wp2_with fail
  go_ret
  exact⟨congrArg (fun n=>Ending.returned (.int .i64 n)) (show(2:Int)=chkN ⟨⟨q,s,a⟩,⟨st,si,p⟩⟩from by simp[chkN,chkT,r.out]),c.out⟩
 have k:=h! d;clear d;go_wp2_with fail
 rw[rounds_succ];go_wp2_with fail
 refine(bc! st b.out.2.1 _).mono ?_;rintro e w' ⟨rfl,rfl⟩;rcases hb3:isNm st with _ | _
 ·have r:=h! hb3;clear hb3;go_wp2_with fail
  go_ret
  exact⟨congrArg (fun n=>Ending.returned (.int .i64 n)) (show(2:Int)=chkN ⟨⟨q,s,a⟩,⟨st,si,p⟩⟩from by simp[chkN,chkT,r.out]),c.out⟩
 have l:=h! hb3;clear hb3;go_wp2_with fail
 rw[rounds_succ];go_wp2_with fail
 refine(bc! si b.out.2.2.1 _).mono ?_;rintro e w' ⟨rfl,rfl⟩;rcases hb4:isNm si with _ | _
 ·have r:=h! hb4;clear hb4;go_wp2_with fail
  go_ret
  exact⟨congrArg (fun n=>Ending.returned (.int .i64 n)) (show(2:Int)=chkN ⟨⟨q,s,a⟩,⟨st,si,p⟩⟩from by simp[chkN,chkT,r.out]),c.out⟩
 have j:=h! hb4;clear hb4;go_wp2_with fail
 rw[rounds_succ];go_wp2_with fail
 refine(bc! p b.out.2.2.2 _).mono ?_;rintro e w' ⟨rfl,rfl⟩;rcases hb5:isNm p with _ | _
 ·have i:=h! hb5;clear hb5;by_cases h0:p.size=0
  ·obtain rfl:=ag! h0;clear h0;go_wp2_with fail
   rw[rounds_succ];go_wp2_with fail
   go_ret
   exact⟨congrArg (fun n=>Ending.returned (.int .i64 n)) (show(0:Int)=chkN ⟨⟨q,s,a⟩,⟨st,si,⟨#[]⟩⟩⟩from by simp[chkN,chkT,m.out,o.out,k.out,l.out,j.out,show(ByteArray.mk #[]).size=0 from rfl]),c.out⟩
  ·have a0:=ao! h0;have H0:=h! h0;clear h0;go_wp2_with fail
   go_ret
   exact⟨congrArg (fun n=>Ending.returned (.int .i64 n)) (show(2:Int)=chkN ⟨⟨q,s,a⟩,⟨st,si,p⟩⟩from by simp[chkN,chkT,i.out,H0.out]),c.out⟩
 ·have i:=h! hb5;clear hb5;go_wp2_with fail
  rw[rounds_succ];go_wp2_with fail
  go_ret
  exact⟨congrArg (fun n=>Ending.returned (.int .i64 n)) (show(0:Int)=chkN ⟨⟨q,s,a⟩,⟨st,si,p⟩⟩from by simp[chkN,chkT,m.out,o.out,k.out,l.out,j.out,i.out]),c.out⟩
theorem jO! (t:Tup)(w:World):Calls prog 100 #[tV t] w fun e w'=>e= .returned (.slice (some ⟨w.heap.size+1,0,none⟩) 6 6) /\
  Blk w' (w.heap.size+1) #[.string t.o.t,.string t.o.i,.string t.o.r,.string t.s.t,.string t.s.i,.string t.s.r] 9/\Below w.heap.size w w':=by
 obtain⟨⟨b,d,a⟩,⟨st,si,c⟩⟩:=t;have hb:=(Blk.made w #[.string b,.string d,.string a,.string st,.string si,.string c] 67);have h1:Below w.heap.size w (w.alloc (.cells #[.string b,.string d,.string a,.string st,.string si,.string c] 67)):=(Below.refl _ _).alloc (n0! _) _;unfold tV;dsimp only;go_enter func100,ntmps100
 go_wp2_with fail
 go_ret
 refine⟨rfl,?_,h1.alloc h1.size _⟩;have:=heap_alloc_new (w.alloc (.cells #[.string b,.string d,.string a,.string st,.string si,.string c] 67)) (.cells #[.string b,.string d,.string a,.string st,.string si,.string c] 9);rwa[World.size_alloc]at this
theorem fs! (t:Tup)(ht:t.Ok)(w:World):Calls prog 108 #[tV t] w fun e w'=>e= .returned (.int .i64 (chkN t))/\Below w.heap.size w w':=by
 obtain⟨⟨q,s,a⟩,⟨st,si,p⟩⟩:=t;have b:=h! ht;clear ht;have f:=(Blk.made w #[.string q,.string s,.string a,.string st,.string si,.string p] 67).cells;have HE:Hid (Below w.heap.size w (w.alloc (.cells #[.string q,.string s,.string a,.string st,.string si,.string p] 67))):=h! ((Below.refl _ _).alloc (n0! _) _);have g:=h! (jO! ⟨⟨q,s,a⟩,⟨st,si,p⟩⟩ (w.alloc (.cells #[.string q,.string s,.string a,.string st,.string si,.string p] 67)));unfold tV at g ⊢;dsimp only at g ⊢;unfold Tup.Ok P3.Ok at b;dsimp only at b;go_enter func108,ntmps108
 go_wp2_with fail
 refine g.out.mono ?_;rintro e w2 ⟨rfl,hP,d⟩;have c:=h! (HE.out.trans (d.mono HE.out.size));clear HE g d f;have cP:=hP.cells;simp only[World.size_alloc]at cP ⊢;go_wp2_with fail
 refine wp_loop_rounds 7 ?_;rw[rounds_succ];go_wp2_with fail
 refine(az! q b.out.1.1 _).mono ?_;rintro e w' ⟨rfl,rfl⟩;rcases hb0:isNm q with _ | _
 ·have r:=h! hb0;clear hb0;go_wp2_with fail
  go_ret
  exact⟨congrArg (fun n=>Ending.returned (.int .i64 n)) (show(2:Int)=chkN ⟨⟨q,s,a⟩,⟨st,si,p⟩⟩from by simp[chkN,chkT,r.out]),c.out⟩
 have m:=h! hb0;clear hb0;go_wp2_with fail
 rw[rounds_succ];go_wp2_with fail
 refine(az! s b.out.1.2.1 _).mono ?_;rintro e w' ⟨rfl,rfl⟩;rcases f:isNm s with _ | _
 ·have r:=h! f;clear f;go_wp2_with fail
  go_ret
  exact⟨congrArg (fun n=>Ending.returned (.int .i64 n)) (show(2:Int)=chkN ⟨⟨q,s,a⟩,⟨st,si,p⟩⟩from by simp[chkN,chkT,r.out]),c.out⟩
 have o:=h! f;clear f;go_wp2_with fail
 rw[rounds_succ];go_wp2_with fail
 refine(az! a b.out.1.2.2 _).mono ?_;rintro e w' ⟨rfl,rfl⟩;rcases d:isNm a with _ | _
 ·have r:=h! d;clear d;go_wp2_with fail
  go_ret
  exact⟨congrArg (fun n=>Ending.returned (.int .i64 n)) (show(2:Int)=chkN ⟨⟨q,s,a⟩,⟨st,si,p⟩⟩from by simp[chkN,chkT,r.out]),c.out⟩
 have k:=h! d;clear d;go_wp2_with fail
 rw[rounds_succ];go_wp2_with fail
 refine(az! st b.out.2.1 _).mono ?_;rintro e w' ⟨rfl,rfl⟩;rcases hb3:isNm st with _ | _
 ·have r:=h! hb3;clear hb3;go_wp2_with fail
  go_ret
  exact⟨congrArg (fun n=>Ending.returned (.int .i64 n)) (show(2:Int)=chkN ⟨⟨q,s,a⟩,⟨st,si,p⟩⟩from by simp[chkN,chkT,r.out]),c.out⟩
 have l:=h! hb3;clear hb3;go_wp2_with fail
 rw[rounds_succ];go_wp2_with fail
 refine(az! si b.out.2.2.1 _).mono ?_;rintro e w' ⟨rfl,rfl⟩;rcases hb4:isNm si with _ | _
 ·have r:=h! hb4;clear hb4;go_wp2_with fail
  go_ret
  exact⟨congrArg (fun n=>Ending.returned (.int .i64 n)) (show(2:Int)=chkN ⟨⟨q,s,a⟩,⟨st,si,p⟩⟩from by simp[chkN,chkT,r.out]),c.out⟩
 have j:=h! hb4;clear hb4;go_wp2_with fail
 rw[rounds_succ];go_wp2_with fail
 refine(az! p b.out.2.2.2 _).mono ?_;rintro e w' ⟨rfl,rfl⟩;rcases hb5:isNm p with _ | _
 ·have i:=h! hb5;clear hb5;by_cases h0:p.size=0
  ·obtain rfl:=ag! h0;clear h0;go_wp2_with fail
   rw[rounds_succ];go_wp2_with fail
   go_ret
   exact⟨congrArg (fun n=>Ending.returned (.int .i64 n)) (show(0:Int)=chkN ⟨⟨q,s,a⟩,⟨st,si,⟨#[]⟩⟩⟩from by simp[chkN,chkT,m.out,o.out,k.out,l.out,j.out,show(ByteArray.mk #[]).size=0 from rfl]),c.out⟩
  ·have a0:=ao! h0;have H0:=h! h0;clear h0;go_wp2_with fail
   go_ret
   exact⟨congrArg (fun n=>Ending.returned (.int .i64 n)) (show(2:Int)=chkN ⟨⟨q,s,a⟩,⟨st,si,p⟩⟩from by simp[chkN,chkT,i.out,H0.out]),c.out⟩
 ·have i:=h! hb5;clear hb5;go_wp2_with fail
  rw[rounds_succ];go_wp2_with fail
  go_ret
  exact⟨congrArg (fun n=>Ending.returned (.int .i64 n)) (show(0:Int)=chkN ⟨⟨q,s,a⟩,⟨st,si,p⟩⟩from by simp[chkN,chkT,m.out,o.out,k.out,l.out,j.out,i.out]),c.out⟩
end Go.Proofs.YtlhaghoajpglaaaGreat
namespace Go.Proofs.YtlhaghoajpglaaaGreat
open Go Go.RowKit Go.Maps Go.Shelf Go.Proofs.Tryz
def tyIn (ts:List TyS)(n:ByteArray):Bool:=ts.any fun t=>decide (t.name=n)
def wrM (ts:List TyS)(t:Tup):Int:=if (lookA (ab! ts) ⟨t.o.t,t.o.r⟩).isSome&&(tyIn ts t.s.t&&(decide (t.s.r.size=0)||(lookA (ab! ts) ⟨t.s.t,t.s.r⟩).isSome))then(if ((lookA (ab! ts) ⟨t.o.t,t.o.r⟩).getD (.mk 0 ByteArray.empty ByteArray.empty [])).this then 0 else 9)else 4
def wrN (ts:List TyS)(t:Tup):Int:=if chkT t then wrM ts t else 2
theorem ik! {α:Type}:∀ {l u:List α},l.Nodup->(∀x∈l,x∈u)->l.length<=u.length
 | [],_,_,_=>v1! _
 | a::l,u,hn,hs=>by
  obtain⟨p,q,rfl⟩:=List.append_of_mem (hs a y4!);rw[List.nodup_cons]at hn
  have h1:=ik! (l:=l) (u:=p++q) hn.2 fun x hx=>by
   have h2:=hs x (u9! _ hx);rcases u3!.1 h2 with h3 | h3
   ·exact List.mem_append_left _ h3
   ·rcases v7!.1 h3 with h3 | h3
    ·subst h3;exact absurd hx hn.1
    ·exact List.mem_append_right _ h3
  simp only[u7!,u4!]at h1 ⊢;omega
theorem kT! {α β:Type}(f:α->List β)(D:Nat):∀l:List α,(∀x∈l,(f x).length<=D)->(l.flatMap f).length<=l.length*D
 | [],_=>by simp
 | a::l,h=>by
  rw[y5!,u4!,u7!,Nat.add_mul];have h1:=h a y4!;have h2:=kT! f D l fun x hx=>h x (u9! _ hx);omega
mutual
def RT.pcan (P:List (R2 × RT))(S:List R2)(typ:ByteArray):RT->Bool
 | .mk k a b ps=>if k=1 then true else if k=2 then decide ((⟨typ,a⟩:R2)∈S)else if k=3 then decide ((⟨typ,a⟩:R2)∈S)&&(aG! P b).any fun n=>decide ((⟨n,b⟩:R2)∈S)else if k=4 then pcanN P S typ ps||decide (ps.length=0)else pcanL P S typ ps
def pcanN (P:List (R2 × RT))(S:List R2)(typ:ByteArray):List RT->Bool | []=>false | r::rs=>r.pcan P S typ||pcanN P S typ rs
def pcanL (P:List (R2 × RT))(S:List R2)(typ:ByteArray):List RT->Bool | []=>true | r::rs=>r.pcan P S typ&&pcanL P S typ rs
end
def nJ! (ts:List TyS)(S:List R2):Prop:=∀x r,(x,r)∈ab! ts->r.pcan (ab! ts) S x.t=true->x∈S
structure oe! (ts:List TyS)(S:List R2):Prop where
 sub:∀x∈S,x∈(ab! ts).map (·.1)
 least:∀T,nJ! ts T->∀x∈S,x∈T
end Go.Proofs.YtlhaghoajpglaaaGreat
namespace Go.Proofs.YtlhaghoajpglaaaGreat
open Go Go.Maps Go.RowKit Go.Proofs.Tryz
def docB:ByteArray:=⟨#[100,111,99]⟩
def lnOkB (s:ByteArray)(it:PIt):Bool:=decide (s.size<=65536)&&(decide (2<=s.size)&&(!(s.data.toList.head? == some 32)&&(!(s.data.toList.head? == some 9)&&(!(decide (s.extract 0 2=⟨#[47,47]⟩))&&(s.data.toList.all gT!&&decide (toksD s=it.toks))))))
theorem no! {s:ByteArray}{it:PIt}(h:lnOkB s it=true):LnOk s it:=by
 unfold lnOkB at h;simp only[v0!,u1!,Bool.not_eq_true',decide_eq_false_iff_not]at h;obtain⟨h1,h2,h3,h4,h5,h6,h7⟩:=h
 have a:∀hp:0<s.size,s.data.toList.head?=some s[0]:=fun hp=>by
  rw[List.head?_eq_getElem?,n4! (by simpa using hp)];rfl
 refine⟨h1,h2,fun hp=>⟨fun e=>?_,fun e=>?_⟩,h5,fun j hj=>?_,h7⟩
 ·rw[a hp,e]at h3;exact absurd h3 (by decide)
 ·rw[a hp,e]at h4;exact absurd h4 (by decide)
 ·rw[u8!]at h6
  exact h6 _ (by
   have:s[j]=s.data.toList[j]'(by simpa using hj):=rfl;rw[this];exact n5! _)
theorem lO! {ls:List ByteArray}{its:List PIt}(h:(ls.zip its).all (fun p=>lnOkB p.1 p.2)=true):∀i (hi:i<its.length)(hj:i<ls.length),LnOk ls[i] its[i]:=fun i hi hj=>by
 rw[u8!]at h;have hz:i<(ls.zip its).length:=by rw[List.length_zip];omega
 have:=h _ (n5! hz);rw[List.getElem_zip]at this;exact no! this
def PIt.fitB:PIt->Bool
 | .ty n=>isNm n&&decide (n≠⟨#[116,104,105,115]⟩)
 | .rel n x ys=>isNm n&&(decide (n≠⟨#[116,104,105,115]⟩)&&(decide (n≠⟨#[116,121,112,101]⟩)&&((x::ys).all isNm&&decide (ys.length<=100000))))
theorem nv! {its:List PIt}(h:its.all PIt.fitB=true):∀it∈its,it.Fit:=fun it hit=>by
 rw[u8!]at h;have:=h it hit;cases it with
 | ty n =>
  simp only[PIt.fitB,v0!,u1!]at this;exact this
 | rel n x ys =>
  simp only[PIt.fitB,v0!,u1!]at this;obtain⟨h1,h2,h3,h4,h5⟩:=this;exact⟨h1,h2,h3,fun z hz=>(u8!.1 h4) z hz,h5⟩
structure Ch where
 kind:Int
 ref:R2
deriving DecidableEq
instance:Inhabited Ch:=⟨⟨0,⟨ByteArray.empty,ByteArray.empty⟩⟩⟩
theorem Blk.set2D {w:World}{B:Nat}{a b:Value}{e:TypeId}(h:Blk w B #[a,b] e)(x0 x1:Value):Blk ((w.setCell ⟨B,0,none⟩ x0).setCell ⟨B,1,none⟩ x1) B #[x0,x1] e:=(h.set_to (cs':=#[x0,b]) 0 x0 rfl).set_to (cs':=#[x0,x1]) 1 x1 rfl
end Go.Proofs.YtlhaghoajpglaaaGreat
namespace Go.Proofs.YtlhaghoajpglaaaGreat
open Go Go.RowKit Go.Maps Go.Shelf Go.Proofs.Tryz
theorem jF! {l:List (ByteArray × RT)}(n:ByteArray) {rel:ByteArray}{i:Nat}(hi:i<l.length)(hr:l[i].1=rel)(hb:∀j (hj:j<l.length),j<i->l[j].1≠rel):lookA (aR! n l) ⟨n,rel⟩=some l[i].2:=by
 induction l generalizing i with
 | nil=>simp at hi
 | cons x l ih =>
  unfold aR!;rw[v8!,lookA];cases i with
  | zero=>rw[if_pos (by simpa using congrArg (R2.mk n) hr)];rfl
  | succ i =>
   have h0:=hb 0 (by simp) (by omega);rw[if_neg (by intro e;injection e with _ e;exact h0 e)]
   exact ih (by simpa using hi) (by simpa using hr) fun j hj hji=>by
    have:=hb (j+1) (by simpa using hj) (by omega);simpa using this
theorem RTAt.nil (S:Nat->Prop)(w:World)(k:Int)(a b:ByteArray):RTAt S w (.mk k a b []) (.slice none 0 0):=(RTAt.iff _ _).2 ⟨[],rfl,by simp,Sl.nil _ _ _⟩
theorem lN! {a b:List (R2 × RT)}{k:R2}(h:lookA a k=none):lookA (a++b) k=lookA b k:=by
 induction a with
 | nil=>rfl
 | cons x a ih =>
  rw[x2!,lookA];rw[lookA]at h;split at h
  ·cases h
  ·rename_i hn
   rw[if_neg hn];exact ih h
theorem eQ! {a b:List (R2 × RT)}{k:R2}{r:RT}(h:lookA a k=some r):lookA (a++b) k=some r:=by
 induction a with
 | nil=>cases h
 | cons x a ih =>
  rw[x2!,lookA];rw[lookA]at h;split at h
  ·rename_i hp
   rw[if_pos hp];exact h
  ·rename_i hn
   rw[if_neg hn];exact ih h
theorem hR! {ts:List TyS}{i:Nat}{ty rel:ByteArray}(hb:∀j (hj:j<ts.length),j<i->ts[j].name≠ty):lookA (ab! (ts.take i)) ⟨ty,rel⟩=none:=by
 refine aq!.2 fun p hp e=>?_;obtain⟨t,ht,hp⟩:=List.mem_flatMap.1 hp;obtain⟨r,hr,rfl⟩:=u6!.1 hp;obtain⟨m,hm,rfl⟩:=u0! ht;rw[x4!]at hm;rw[List.getElem_take]at e;injection e with e1 _
 exact hb m (by omega) (by omega) e1
theorem hQ! {ts:List TyS}{i:Nat}(hi:i<ts.length):ab! ts=ab! (ts.take i)++(aR! ts[i].name ts[i].rels++ab! (ts.drop (i+1))):=by
 conv=>lhs;rw[<-x6! i ts,bz!,List.drop_eq_getElem_cons hi]
 rfl
theorem ly! {ts:List TyS}{i k:Nat}{ty rel:ByteArray}(hi:i<ts.length)(hn:ts[i].name=ty)(hb:∀j (hj:j<ts.length),j<i->ts[j].name≠ty)(hk:k<ts[i].rels.length)(hr:ts[i].rels[k].1=rel)(hb2:∀j (hj:j<ts[i].rels.length),j<k->ts[i].rels[j].1≠rel):lookA (ab! ts) ⟨ty,rel⟩=some ts[i].rels[k].2:=by
 rw[hQ! hi,lN! (hR! hb)];refine eQ! ?_;rw[<-hn];exact jF! _ hk hr hb2
theorem jI! {ts:List TyS}(hu:aK! ts=true) {i:Nat}{ty rel:ByteArray}(hi:i<ts.length)(hn:ts[i].name=ty)(hb2:∀j (hj:j<ts[i].rels.length),ts[i].rels[j].1≠rel):lookA (ab! ts) ⟨ty,rel⟩=none:=by
 refine aq!.2 fun p hp e=>?_;obtain⟨t,ht,r,hr,rfl⟩:=aM!.1 hp;injection e with e1 e2
 obtain rfl:=kz! hu ht (n5! hi) (e1.trans hn.symm);obtain⟨m,hm,rfl⟩:=u0! hr;exact hb2 m hm e2
theorem lx! {ts:List TyS}{ty rel:ByteArray}(hb:∀j (hj:j<ts.length),ts[j].name≠ty):lookA (ab! ts) ⟨ty,rel⟩=none:=by
 have:=hR! (ts:=ts) (i:=ts.length) (rel:=rel) fun j hj _=>hb j hj;rwa[u2!]at this
theorem fd! (ts:List TyS)(tv:Value)(ty rel:ByteArray)(w:World)(h:ou! (· < w.heap.size) w ts tv)(hu:aK! ts=true) :
  Calls prog 110 #[.agg #[tv],.string ty,.string rel] w fun e w'=>∃z:RV,e= .returned (.tuple #[rvV z,.bool (lookA (ab! ts) ⟨ty,rel⟩).isSome])/\RTAt (· < w'.heap.size) w' z.1 z.2/\(∀r,lookA (ab! ts) ⟨ty,rel⟩=some r->z.1=r)/\(lookA (ab! ts) ⟨ty,rel⟩=none->z=(.mk 0 ByteArray.empty ByteArray.empty [],.slice none 0 0))/\Below w.heap.size w w':=by
 obtain⟨ao,c,rfl,am,aq,A⟩:=h.rows;have HC:=h! A;have HU:=h! hu;obtain⟨w1,X⟩:=e! (w.alloc (.cells #[.slice ao ts.length c] 26));obtain⟨w2,K⟩:=e! (w1.alloc (.cells #[.int .i64 0,.string ⟨#[]⟩,.string ⟨#[]⟩,.slice none 0 0] 106));have e1:w1.heap.size=w.heap.size+1:=by rw[X];simp
 have ad:Ext w w1:=xa! X
 have a8:Ext w1 w2:=xa! K
 have s:=(show Blk w2 w.heap.size #[.slice ao ts.length c] 26 from Blk.below (bm! X) a8).cells;have HR:=h! (show Blk w2 (w.heap.size+1) #[.int .i64 0,.string ⟨#[]⟩,.string ⟨#[]⟩,.slice none 0 0] 106 from by rw[K,<-e1];exact Blk.made _ _ _);have a6:Hid (Below w.heap.size w w2):=h! (ad.trans a8);subst K X;clear h A hu e1 ad a8;go_enter func110,ntmps110
 go_wp2_with fail
 obtain⟨w2,K⟩:=e! ((w.alloc (.cells #[.slice ao ts.length c] 26)).alloc (.cells #[.int .i64 0,.string ⟨#[]⟩,.string ⟨#[]⟩,.slice none 0 0] 106));rw[<-K]at HR a6 ⊢;clear K s;obtain⟨br,a9⟩:=e! (w.heap.size+1);rw[<-a9]at HR ⊢;have f:Hid (w.heap.size<=br):=h! (by omega);clear a9;go_loopw [15] (fun ii wr=>∃i:Nat,i<=ts.length/\ii= .int .i64 i/\(∀j (hj:j<ts.length),j<i->ts[j].name≠ty)/\Blk wr br #[.int .i64 0,.string ⟨#[]⟩,.string ⟨#[]⟩,.slice none 0 0] 106/\Below w.heap.size w wr) (fun ii _=>ts.length-(intOf ii).toNat)
 case atStart=>exact⟨0,by omega,rfl,fun _ _ h=>absurd h (by omega),HR.out,a6.out⟩
 case round =>
  rename World=>wo
  obtain⟨i,hi,rfl,R,o,d⟩:=hrel;have E:=h! R;have T:=h! o;have ak:=h! d;clear HR a6 R o;by_cases hlt:i<ts.length
  ·have a4:=fun h=>h! (aH! (p:=fun j hj=>ts[j].name≠ty) E.out hlt h);have n:=fun(h:ts[i].name=ty)=>h! (fun(t:∀j (hj:j<ts[i].rels.length),ts[i].rels[j].1≠rel)=>jI! HU.out hlt h t);have I:=fun(h:ts[i].name=ty)=>h! (fun k hk hr t=>ly! (k:=k) (rel:=rel) hlt h E.out hk hr t);obtain⟨b,af,ap,a5,hb,c0,c1,O⟩:=HC.out i hlt;cases a5;have d0:=(d.cell (p:=⟨b,af+i*2,none⟩) hb).trans c0;have d1:=(d.cell (p:=⟨b,af+i*2+1,none⟩) hb).trans c1;obtain⟨a1,U,rfl,ah,al,g⟩:=O.rows;have ai:=h! g;have ab:=d.alloc d.size (.cells #[.string ts[i].name,.slice a1 ts[i].rels.length U] 176);have Z:=h! ab;have V:=h! (T.out.below (Ext.alloc wo (.cells #[.string ts[i].name,.slice a1 ts[i].rels.length U] 176)));have ac:=(Blk.made wo #[.string ts[i].name,.slice a1 ts[i].rels.length U] 176).cells;clear c0 c1 O g ab d;generalize ts[i]=x at *;obtain⟨xn,l⟩:=x;dsimp only at *;by_cases he:xn=ty
   ·have HM:=n he;have HH:=I he;subst he;clear a4 n I;go_wp2_with fail
    obtain⟨wq,aa⟩:=e! (wo.alloc (.cells #[.string xn,.slice a1 l.length U] 176));rw[<-aa]at Z V ⊢;clear aa ac d0 d1;go_loopw [26] (fun kk wr=>∃k:Nat,k<=l.length/\kk= .int .i64 k/\(∀j (hj:j<l.length),j<k->l[j].1≠rel)/\Blk wr br #[.int .i64 0,.string ⟨#[]⟩,.string ⟨#[]⟩,.slice none 0 0] 106/\Below w.heap.size w wr) (fun kk _=>l.length-(intOf kk).toNat)
    case atStart=>exact⟨0,by omega,rfl,fun _ _ h=>absurd h (by omega),V.out,Z.out⟩
    case round =>
     obtain⟨k,hk,rfl,D,o,d⟩:=hrel;have q:=h! D;have Q:=h! o;have a7:=h! d;clear V Z D o;by_cases hlt2:k<l.length
     ·have G:=fun h=>h! (aH! (p:=fun j hj=>l[j].1≠rel) q.out hlt2 h);have F:=fun(h:l[k].1=rel)=>h! (HH.out k hlt2 h q.out);obtain⟨b2,m,an,a5,t,c0,c1,c2,c3,c4,H⟩:=ai.out k hlt2;cases a5;have d0:=(d.cell (p:=⟨b2,m+k*5,none⟩) t).trans c0;have d1:=(d.cell (p:=⟨b2,m+k*5+1,none⟩) t).trans c1;have d2:=(d.cell (p:=⟨b2,m+k*5+2,none⟩) t).trans c2;have d3:=(d.cell (p:=⟨b2,m+k*5+3,none⟩) t).trans c3;have d4:=(d.cell (p:=⟨b2,m+k*5+4,none⟩) t).trans c4;obtain⟨J,L,rfl,-⟩:=H.rows;obtain⟨wx,Y⟩:=e! (wr.alloc (.cells #[.string l[k].1,.int .i64 l[k].2.k,.string l[k].2.a,.string l[k].2.b,.slice J l[k].2.ps.length L] 181));have a2:Ext wr wx:=xa! Y
      have ac:=(show Blk wx wr.heap.size #[.string l[k].1,.int .i64 l[k].2.k,.string l[k].2.a,.string l[k].2.b,.slice J l[k].2.ps.length L] 181 from bm! Y).cells;have a0:=h! (Q.out.below a2);have ag:Hid (Below w.heap.size w wx):=h! (a7.out.trans (a2.mono a7.out.size));have aj:=h! H;have ae:br≠wr.heap.size:=by have:=Q.out.lt;omega
      clear c0 c1 c2 c3 c4 H a2 d;generalize l[k]=y at *;obtain⟨yn,p⟩:=y;dsimp only at *;by_cases he2:yn=rel
      ·have HF:=F he2;subst he2;have r3:=a0.out.cells;have f3:=a0.out.free;have u:=a0.out.set_to 0 (.int .i64 p.k) rfl;have s:=u.set_to 1 (.string p.a) rfl;have C:=s.set_to 2 (.string p.b) rfl;have B:=C.set_to 3 (.slice J p.ps.length L) rfl;have N:=h! B;have M:Hid (Below w.heap.size w ((((wx.setCell ⟨br,0,none⟩ (.int .i64 p.k)).setCell ⟨br,1,none⟩ (.string p.a)).setCell ⟨br,2,none⟩ (.string p.b)).setCell ⟨br,3,none⟩ (.slice J p.ps.length L))):=h! ((((ag.out.setCell f.out _).setCell f.out _).setCell f.out _).setCell f.out _);clear u s C B G F;subst Y;go_wp2_with fail
       refine bodyPost_ret (v := .tuple #[.agg #[.int .i64 p.k,.string p.a,.string p.b,.slice J p.ps.length L],.bool true]) ?_ rfl ⟨(p,.slice J p.ps.length L),?_,?_,fun r hr=>?_,fun hr=>?_,M.out⟩
       ·rw[results_cell_tmp rfl];have hl:=run_loadVar_row (P:=prog) _ br _ 106 _ _ _ N.out Tryz.underlying106 rfl (by kernel_rfl);simp[asAddr,hl,Result.andThen]
       ·unfold rvV rV;rw[HF.out];rfl
       ·exact aj.out.up M.out
       ·rw[HF.out]at hr;cases hr;rfl
       ·rw[HF.out]at hr;cases hr
      ·have HN:=G he2;have a3:=aV! he2;rw[<-u5!,<-u5!]at a3;clear G F he2;subst Y;go_wp2_with fail
       go_roundw
       case rel=>exact⟨k+1,by omega,by go_num,HN.out,a0.out,ag.out⟩
       case measure=>simp[intOf];omega
     ·obtain rfl:k=l.length:=by omega
      have HF:=h! (HM.out fun j hj=>q.out j hj hj);have r3:=Q.out.cells;have f3:=Q.out.free;have u:=Q.out.set_to 0 (.int .i64 0) rfl;have s:=u.set_to 1 (.string ⟨#[]⟩) rfl;have C:=s.set_to 2 (.string ⟨#[]⟩) rfl;have B:=C.set_to 3 (.slice none 0 0) rfl;have N:=h! B;have M:Hid (Below w.heap.size w ((((wr.setCell ⟨br,0,none⟩ (.int .i64 0)).setCell ⟨br,1,none⟩ (.string ⟨#[]⟩)).setCell ⟨br,2,none⟩ (.string ⟨#[]⟩)).setCell ⟨br,3,none⟩ (.slice none 0 0))):=h! ((((a7.out.setCell f.out _).setCell f.out _).setCell f.out _).setCell f.out _);clear u s C B d;go_wp2_with fail
      refine bodyPost_ret (v := .tuple #[.agg #[.int .i64 0,.string ⟨#[]⟩,.string ⟨#[]⟩,.slice none 0 0],.bool false]) ?_ rfl ⟨(.mk 0 ByteArray.empty ByteArray.empty [],.slice none 0 0),?_,?_,fun r hr=>?_,fun hr=>rfl,M.out⟩
      ·rw[results_cell_tmp rfl];have hl:=run_loadVar_row (P:=prog) _ br _ 106 _ _ _ N.out Tryz.underlying106 rfl (by kernel_rfl);simp[asAddr,hl,Result.andThen]
      ·rw[HF.out];rfl
      ·exact RTAt.nil _ _ _ _ _
      ·rw[HF.out]at hr;cases hr
   ·have HN:=a4 he;have ae:=aV! he;rw[<-u5!,<-u5!]at ae;clear a4 n I he;go_wp2_with fail
    go_roundw
    case rel=>exact⟨i+1,by omega,by go_num,HN.out,V.out,Z.out⟩
    case measure=>simp[intOf];omega
  ·obtain rfl:i=ts.length:=by omega
   have HF:=h! (lx! (rel:=rel) fun j hj=>E.out j hj hj);have r3:=T.out.cells;have f3:=T.out.free;have u:=T.out.set_to 0 (.int .i64 0) rfl;have s:=u.set_to 1 (.string ⟨#[]⟩) rfl;have C:=s.set_to 2 (.string ⟨#[]⟩) rfl;have B:=C.set_to 3 (.slice none 0 0) rfl;have N:=h! B;have M:Hid (Below w.heap.size w ((((wo.setCell ⟨br,0,none⟩ (.int .i64 0)).setCell ⟨br,1,none⟩ (.string ⟨#[]⟩)).setCell ⟨br,2,none⟩ (.string ⟨#[]⟩)).setCell ⟨br,3,none⟩ (.slice none 0 0))):=h! ((((ak.out.setCell f.out _).setCell f.out _).setCell f.out _).setCell f.out _);clear u s C B d;go_wp2_with fail
   refine bodyPost_ret (v := .tuple #[.agg #[.int .i64 0,.string ⟨#[]⟩,.string ⟨#[]⟩,.slice none 0 0],.bool false]) ?_ rfl ⟨(.mk 0 ByteArray.empty ByteArray.empty [],.slice none 0 0),?_,?_,fun r hr=>?_,fun hr=>rfl,M.out⟩
   ·rw[results_cell_tmp rfl];have hl:=run_loadVar_row (P:=prog) _ br _ 106 _ _ _ N.out Tryz.underlying106 rfl (by kernel_rfl);simp[asAddr,hl,Result.andThen]
   ·rw[HF.out];rfl
   ·exact RTAt.nil _ _ _ _ _
   ·rw[HF.out]at hr;cases hr
theorem jt! {ts:List TyS}{i:Nat}(hi:i<ts.length)(n:ByteArray):tyIn (ts.take (i+1)) n=(tyIn (ts.take i) n||decide (ts[i].name=n)):=by
 unfold tyIn;rw[n2! hi,List.any_append];simp
theorem fi! (ts:List TyS)(tv:Value)(t:Tup)(w:World)(h:ou! (· < w.heap.size) w ts tv)(hu:aK! ts=true)(ht:t.Ok) :
  Calls prog 128 #[.agg #[tv],tV t] w fun e w'=>e= .returned (.int .i64 (wrN ts t))/\Below w.heap.size w w':=by
 obtain⟨⟨ot,oi,d⟩,⟨st,si,sr⟩⟩:=t;obtain⟨ao,c,rfl,aq,av,n⟩:=h.rows;have HC:=h! n;have ae:Ext w ((w.alloc (.cells #[.slice ao ts.length c] 26)).alloc (.cells #[.string ot,.string oi,.string d,.string st,.string si,.string sr] 67)):=(Ext.alloc _ _).trans (Ext.alloc _ _);have HX:=h! ae;have M:=h! (fs! ⟨⟨ot,oi,d⟩,⟨st,si,sr⟩⟩ ht ((w.alloc (.cells #[.slice ao ts.length c] 26)).alloc (.cells #[.string ot,.string oi,.string d,.string st,.string si,.string sr] 67)));have HS:=h! ((Blk.made w #[.slice ao ts.length c] 26).alloc (.cells #[.string ot,.string oi,.string d,.string st,.string si,.string sr] 67));have HT:=h! (Blk.made' (w:=w.alloc (.cells #[.slice ao ts.length c] 26)) (B:=w.heap.size+1) (by simp) #[.string ot,.string oi,.string d,.string st,.string si,.string sr] 67);have ag:=h! h;have HU:=h! hu;have hS:=HS.out.cells;have hT:=HT.out.cells;have X:Hid (wrN ts ⟨⟨ot,oi,d⟩,⟨st,si,sr⟩⟩=if chkT ⟨⟨ot,oi,d⟩,⟨st,si,sr⟩⟩then wrM ts ⟨⟨ot,oi,d⟩,⟨st,si,sr⟩⟩else 2):=h! rfl;unfold tV at M;unfold tV;dsimp only at M ⊢;clear h hu ht ae n;go_enter func128,ntmps128
 go_wp2_with fail
 refine M.out.mono ?_;rintro e w2 ⟨rfl,J⟩;have I:Hid (Below w.heap.size w w2):=h! (Ext.trans HX.out J);have a6:=h! (HS.out.below J);have ad:=h! (HT.out.below J);have s2:=a6.out.cells;have t2:=ad.out.cells;clear M hS hT J;unfold chkN;cases hck:chkT ⟨⟨ot,oi,d⟩,⟨st,si,sr⟩⟩ with
 | false =>
  have HF:=h! (show wrN ts ⟨⟨ot,oi,d⟩,⟨st,si,sr⟩⟩=2 from by rw[X.out,hck];rfl);rw[show(if false=true then(0:Int)else 2)=2 from rfl];clear hck;go_wp2_with fail
  go_ret
  exact⟨by rw[HF.out];rfl,I.out⟩
 | true =>
 have HW:=h! (show wrN ts ⟨⟨ot,oi,d⟩,⟨st,si,sr⟩⟩=wrM ts ⟨⟨ot,oi,d⟩,⟨st,si,sr⟩⟩from by rw[X.out,hck];rfl);rw[show(if true=true then(0:Int)else 2)=0 from rfl];have HO:=h! (fd! ts (.slice ao ts.length c) ot d w2 (ag.out.up I.out) HU.out);clear hck X;go_wp2_with fail
 refine HO.out.mono ?_;rintro e w3 ⟨z,rfl,q,a2,an,u⟩;have a8:Hid (Below w.heap.size w w3):=h! (I.out.trans (u.mono I.out.size));obtain⟨zo,zc,T,-⟩:=q.rows;have aa:=h! a2;generalize hokk:(lookA (ab! ts) ⟨ot,d⟩).isSome=ok at *;have f:=h! hokk;unfold rvV rV;rw[T];obtain⟨w4,v⟩:=e! (w3.alloc (.cells #[.int .i64 z.1.k,.string z.1.a,.string z.1.b,.slice zo z.1.ps.length zc] 106));have H:Ext w3 w4:=xa! v
 have O:=h! (a6.out.below (u.trans (Below.mono H u.size)));have V:=h! (ad.out.below (u.trans (Below.mono H u.size)));have a0:=h! (show Blk w4 w3.heap.size #[.int .i64 z.1.k,.string z.1.a,.string z.1.b,.slice zo z.1.ps.length zc] 106 from bm! v);have a1:=h! (q.up H);have Q:Hid (Below w.heap.size w w4):=h! (a8.out.trans (H.mono a8.out.size));have s4:=O.out.cells;clear HO u q a2 an hokk s2 t2 H;subst v;go_wp2_with fail
 obtain⟨w4,v⟩:=e! (w3.alloc (.cells #[.int .i64 z.1.k,.string z.1.a,.string z.1.b,.slice zo z.1.ps.length zc] 106));rw[<-v]at O V a0 a1 Q ⊢;clear v s4;generalize w3.heap.size=br at *;go_loopw [8,31] (fun ov ii wr=>∃(i:Nat) (o:Bool),i<=ts.length/\ii= .int .i64 i/\ov= .bool o/\o=tyIn (ts.take i) st/\Below w4.heap.size w4 wr) (fun _ ii _=>ts.length-(intOf ii).toNat)
 case atStart=>exact⟨0,false,by omega,rfl,rfl,rfl,Below.refl _ _⟩
 case round =>
  obtain⟨i,o,hi,rfl,rfl,ho,j⟩:=hrel;have HO:=h! ho;have m:=h! (Q.out.trans (j.mono Q.out.size));clear ho;by_cases hlt:i<ts.length
  ·have U:=h! (jt! hlt st);obtain⟨b,a7,au,ai,hb,c0,c1,E⟩:=HC.out i hlt;cases ai;have d0:=(m.out.cell (p:=⟨b,a7+i*2,none⟩) hb).trans c0;have d1:=(m.out.cell (p:=⟨b,a7+i*2+1,none⟩) hb).trans c1;obtain⟨Y,R,rfl,ah,ak,s⟩:=E.rows;have xa:Ext wr (wr.alloc (.cells #[.string ts[i].name,.slice Y ts[i].rels.length R] 176)):=Ext.alloc _ _;have K:Hid (Below w4.heap.size w4 (wr.alloc (.cells #[.string ts[i].name,.slice Y ts[i].rels.length R] 176))):=h! (j.trans (xa.mono j.size));have ta:=(V.out.below K.out).cells;have ar:=(Blk.made wr #[.string ts[i].name,.slice Y ts[i].rels.length R] 176).cells;clear c0 c1 E s j xa;generalize ts[i]=x at *;obtain⟨xn,l⟩:=x;dsimp only at *;cases o with
   | true =>
    have HN:=h! (show true=tyIn (ts.take (i+1)) st from by rw[U.out,<-HO.out];rfl);go_wp2_with fail
    go_roundw
    case rel=>exact⟨i+1,true,by omega,by go_num,rfl,HN.out,K.out⟩
    case measure=>simp[intOf];omega
   | false =>
    by_cases he:xn=st
    ·have HN:=h! (show true=tyIn (ts.take (i+1)) st from by rw[U.out,he];simp);subst he;go_wp2_with fail
     go_roundw
     case rel=>exact⟨i+1,true,by omega,by go_num,rfl,HN.out,K.out⟩
     case measure=>simp[intOf];omega
    ·have HN:=h! (show false=tyIn (ts.take (i+1)) st from by rw[U.out,<-HO.out];simp[he]);have aj:=aV! he;rw[<-u5!,<-u5!]at aj;clear he;go_wp2_with fail
     go_roundw
     case rel=>exact⟨i+1,false,by omega,by go_num,rfl,HN.out,K.out⟩
     case measure=>simp[intOf];omega
  ·obtain rfl:i=ts.length:=by omega
   rw[u2!]at HO;have al:=h! (V.out.below j);have L:=h! (O.out.below j);have af:=h! (a0.out.below j);have a5:=h! (a1.out.up j);have tr:=al.out.cells;have a4:=L.out.cells;have rr:=af.out.cells;clear j L;by_cases hsr:sr.size=0
   ·obtain rfl:=ag! hsr;clear hsr;cases ok with
    | false =>
     have HF:=h! (show wrN ts ⟨⟨ot,oi,d⟩,⟨st,si,⟨#[]⟩⟩⟩=4 from by
      rw[HW.out];unfold wrM;dsimp only;rw[f.out];rfl)
     go_wp2_with fail
     go_ret
     exact⟨by rw[HF.out];rfl,m.out⟩
    | true =>
    cases o with
    | false =>
     have HF:=h! (show wrN ts ⟨⟨ot,oi,d⟩,⟨st,si,⟨#[]⟩⟩⟩=4 from by
      rw[HW.out];unfold wrM;dsimp only;rw[f.out,<-HO.out];rfl)
     go_wp2_with fail
     go_ret
     exact⟨by rw[HF.out];rfl,m.out⟩
    | true =>
     have g:=h! (ey! z.1 z.2 wr a5.out);unfold rV at g;rw[T]at g
     have HM:=h! (show wrN ts ⟨⟨ot,oi,d⟩,⟨st,si,⟨#[]⟩⟩⟩=if z.1.this then 0 else 9 from by
      rw[HW.out];unfold wrM;dsimp only;rw[f.out,<-HO.out];obtain⟨r,hr⟩:=Option.isSome_iff_exists.1 f.out;rw[hr,aa.out r hr];rfl)
     go_wp2_with fail
     refine g.out.mono ?_;rintro e w9 ⟨rfl,D⟩;have G:=h! (m.out.trans (D.mono m.out.size));clear g D tr a4 rr;cases hth:z.1.this with
     | true =>
      have HF:=h! (HM.out.trans (by rw[hth];rfl:_=(0:Int)));clear hth;go_wp2_with fail
      go_ret
      exact⟨by rw[HF.out];rfl,G.out⟩
     | false =>
      have HF:=h! (HM.out.trans (by rw[hth];rfl:_=(9:Int)));clear hth;go_wp2_with fail
      go_ret
      exact⟨by rw[HF.out];rfl,G.out⟩
   have a3:=ao! hsr;have L:=h! hsr;have ac:=h! (fd! ts (.slice ao ts.length c) st sr wr (ag.out.up m.out) HU.out);clear hsr;go_wp2_with fail
   refine ac.out.mono ?_;rintro e w5 ⟨y,rfl,C,-,-,N⟩;obtain⟨yo,yc,am,-⟩:=C.rows;generalize hsub:(lookA (ab! ts) ⟨st,sr⟩).isSome=sub at *;have F:=h! hsub;unfold rvV rV;rw[am];obtain⟨w6,ab⟩:=e! (w5.alloc (.cells #[.int .i64 y.1.k,.string y.1.a,.string y.1.b,.slice yo y.1.ps.length yc] 106));have a9:Ext w5 w6:=xa! ab
   have Z:Hid (Below wr.heap.size wr w6):=h! (N.trans (a9.mono N.size));have A:=h! (m.out.trans (Z.out.mono m.out.size));have ap:=h! (a5.out.up Z.out);have r6:=(af.out.below Z.out).cells;clear ac hsub C a9 N tr a4 rr;subst ab;cases ok with
   | false =>
    cases o with
    | false =>
     have HF:=h! (show wrN ts ⟨⟨ot,oi,d⟩,⟨st,si,sr⟩⟩=4 from by
      rw[HW.out];unfold wrM;dsimp only;rw[f.out];rfl)
     go_wp2_with fail
     go_ret
     exact⟨by rw[HF.out];rfl,A.out⟩
    | true =>
     have HF:=h! (show wrN ts ⟨⟨ot,oi,d⟩,⟨st,si,sr⟩⟩=4 from by
      rw[HW.out];unfold wrM;dsimp only;rw[f.out];rfl)
     go_wp2_with fail
     go_ret
     exact⟨by rw[HF.out];rfl,A.out⟩
   | true =>
   cases o with
   | false =>
    have HF:=h! (show wrN ts ⟨⟨ot,oi,d⟩,⟨st,si,sr⟩⟩=4 from by
     rw[HW.out];unfold wrM;dsimp only;rw[f.out,<-HO.out];rfl)
    go_wp2_with fail
    go_ret
    exact⟨by rw[HF.out];rfl,A.out⟩
   | true =>
   cases sub with
   | false =>
    have HF:=h! (show wrN ts ⟨⟨ot,oi,d⟩,⟨st,si,sr⟩⟩=4 from by
     rw[HW.out];unfold wrM;dsimp only;rw[f.out,<-HO.out,F.out];simp[L.out])
    go_wp2_with fail
    go_ret
    exact⟨by rw[HF.out];rfl,A.out⟩
   | true =>
    have g:=h! (ey! z.1 z.2 _ ap.out);unfold rV at g;rw[T]at g
    have HM:=h! (show wrN ts ⟨⟨ot,oi,d⟩,⟨st,si,sr⟩⟩=if z.1.this then 0 else 9 from by
     rw[HW.out];unfold wrM;dsimp only;rw[f.out,<-HO.out,F.out];obtain⟨r,hr⟩:=Option.isSome_iff_exists.1 f.out;rw[hr,aa.out r hr];simp)
    go_wp2_with fail
    refine g.out.mono ?_;rintro e w9 ⟨rfl,D⟩;have G:=h! (A.out.trans (D.mono A.out.size));clear g D r6;cases hth:z.1.this with
    | true =>
     have HF:=h! (HM.out.trans (by rw[hth];rfl:_=(0:Int)));clear hth;go_wp2_with fail
     go_ret
     exact⟨by rw[HF.out];rfl,G.out⟩
    | false =>
     have HF:=h! (HM.out.trans (by rw[hth];rfl:_=(9:Int)));clear hth;go_wp2_with fail
     go_ret
     exact⟨by rw[HF.out];rfl,G.out⟩
end Go.Proofs.YtlhaghoajpglaaaGreat
namespace Go.Proofs.YtlhaghoajpglaaaGreat
open Go Go.RowKit Go.Maps Go.Proofs.Tryz
structure BI (ts:List TyS)(N0:Nat)(L A:List R2)(ch:Bool)(pr:List (R2 × RT)):Prop where
 upL:UpR L
 upA:UpR A
 least:oe! ts L
 subA:∀x∈A,x∈(ab! ts).map (·.1)
 len0:N0<=L.length
 more:ch=true->N0<L.length
 done:∀p∈pr,p.1∈A/\(ch=false->p.2.pcan (ab! ts) L p.1.t=true->p.1∈L)
end Go.Proofs.YtlhaghoajpglaaaGreat
namespace Go.Proofs.YtlhaghoajpglaaaGreat
open Go Go.RowKit Go.ChangeShapes Go.WideShapes Go.ChangeAt Go.Proofs.Tryz
section
variable {H : Type} {enc : TypeId × Value -> H} {P : Program} {w : World}
theorem jW! {α β:Type}{f:α->Option β}:∀ {l:List α}{r:List β},l.mapM f=some r->r.length=l.length/\∀(i:Nat)(x:α),l[i]?=some x->f x=r[i]?:=by
 intro l;induction l with
 | nil=>intro r h;simp at h;subst h;exact⟨rfl,by simp⟩
 | cons a l ih =>
  intro r h;simp only[List.mapM_cons,Option.bind_eq_bind,Option.bind_eq_some_iff,Option.pure_def,Option.some.injEq]at h;obtain⟨b,hb,bs,a0,rfl⟩:=h;obtain⟨h1,h2⟩:=ih a0;refine⟨by simp[h1],fun i x hx=>?_⟩;cases i with
  | zero=>simp at hx;subst hx;simpa using hb
  | succ i=>simp at hx ⊢;exact h2 i x hx
theorem dk! (a:Addr)(x y:Nat):(a.add x).add y=a.add (x+y):=by
 by_cases hx:x=0
 ·subst hx;simp[Addr.add]
 ·by_cases hy:y=0
  ·subst hy;simp[Addr.add]
  ·simp[Addr.add,hx,hy,Nat.add_assoc]
theorem gw! {base:Nat}{a:Addr}{n:Nat}{cs:List Value}(h:w.cells? base a n=some cs):cs.length=n/\∀j,j<n->w.cell? (a.add j)=cs[j]?:=by
 unfold World.cells? at h;split at h
 ·obtain⟨h1,h2⟩:=jW! h;refine⟨by simpa using h1,fun j hj=>h2 j j (by simp[hj])⟩
 ·cases h
theorem nf! {t e:TypeId}{v:Value}{d:DataW H}{ps:List MemPlace}(ht:P.underlying t=some (.slice e))(hv:∃a len cap,v= .slice a len cap)(h:DataW.Trod enc P w 0 (fun _=>true) true t v d ps) :
  ∃(xs:List Value) (elems:List (DataW H × List MemPlace)) (fuel:Nat),Sl (· < w.heap.size) w (P.cellsOf e) v xs/\xs.length=elems.length*P.cellsOf e /\
   (∀i y,elems[i]?=some y->DataW.trod enc P w 0 (fun _=>true) true fuel e ((xs.drop (i*P.cellsOf e)).take (P.cellsOf e))=some y) /\
   (d= .nil/\elems=[]\/∃rest,d= .slice (elems.map (·.1)) rest):=by
 obtain⟨a0,l,g,rfl⟩:=hv;obtain⟨fuel,hf⟩:=h;rcases DataW.trod_slice ht hf with⟨hcs,hx⟩|⟨a,len,cap,elems,rest,n,hfu,hcs,hx,_,hlc,hcm,hlen,hel,_⟩
 ·have hv:Value.slice a0 l g= .slice none 0 0:=by simpa [Value.cells] using hcs
  rw[hv];simp only[Prod.mk.injEq]at hx;exact⟨[],[],0,Sl.nil _ w _,by simp,by simp,.inl ⟨hx.1,rfl⟩⟩
 ·have hv:Value.slice a0 l g= .slice (some a) len cap:=by simpa [Value.cells] using hcs
  rw[hv];generalize hk:P.cellsOf e=k at *
  have f:∀i,i<len->∃I y,w.cells? 0 (a.add (i*k)) k=some I/\elems[i]?=some y/\DataW.trod enc P w 0 (fun _=>true) true n e I=some y:=by
   intro i F;have h1:=hel i F;obtain⟨y,D⟩:∃y,elems[i]?=some y:=⟨_,n4! (by omega)⟩;rw[D]at h1;obtain⟨I,c,o⟩:=Option.bind_eq_some_iff.1 h1;exact⟨I,y,c,D,o⟩
  -- the cells, one by one
  obtain⟨xs,p,C⟩:∃xs:List Value,xs.length=len*k/\∀i j,i<len->j<k->w.cell? (a.add (i*k+j))=xs[i*k+j]?:=by
   refine⟨(List.range (len*k)).map fun m=>(w.cell? (a.add m)).getD undef,by simp,fun i j F hj=>?_⟩
   have hm:i*k+j<len*k:=by
    have:=y7! k (show i+1<=len from F);rw[Nat.add_mul]at this;omega
   obtain⟨I,y,c,_,_⟩:=f i F;obtain⟨a1,q⟩:=gw! c;have h2:=q j hj;rw[dk!]at h2;rw[h2,n4! (by omega)];simp[hm,h2,n4! (show j<I.length by omega)]
  have z:∀m u,xs[m]?=some u->w.cell? (a.add m)=some u:=by
   intro m u G;have B:m<len*k:=by rw[<-p];exact(y3!.1 G).1
   have r:0<k:=by
    apply Nat.pos_of_ne_zero;intro E;rw[E]at B;omega
   have a3:=Nat.div_add_mod m k;have F:m / k<len:=(Nat.div_lt_iff_lt_mul r).2 B;have:=C (m / k) (m % k) F (Nat.mod_lt _ r);rw[Nat.mul_comm,a3]at this;rw[this,G]
  refine⟨xs,elems,n,⟨some a,len,cap,rfl,p,hlc,hcm,fun h=>(by cases h),fun hne=>?_⟩,by rw[p,hlen],fun i y D=>?_,.inr ⟨rest.map (·.1),?_⟩⟩
  ·obtain⟨u,G⟩:∃u,xs[0]?=some u:=by
    cases xs with
    | nil=>exact absurd rfl hne
    | cons x _=>exact⟨x,rfl⟩
   have E:=z 0 u G;obtain⟨b,a2,s⟩:=a
   have hs:s=none:=by
    cases s with
    | none=>rfl
    | some s =>
     exfalso
     simp only[Addr.add,World.cell?]at E;split at E <;> simp at E
   subst hs;have hb:=World.block_lt_of_cell? w _ E;rw[Addr.add_lit]at hb;exact⟨b,a2,rfl,hb,fun j u G=>by have:=z j u G;rwa[Addr.add_lit]at this⟩
  ·have F:i<len:=by rw[<-hlen];exact(y3!.1 D).1
   obtain⟨I,y',c,A,o⟩:=f i F;obtain rfl:y=y':=by rw[D]at A;exact v5! A
   obtain⟨a1,q⟩:=gw! c
   have:(xs.drop (i*k)).take k=I:=by
    apply List.ext_getElem?;intro j;rw[List.getElem?_take];split
    ·rename_i hj
     rw[List.getElem?_drop,<-C i j F hj,<-q j hj,dk!]
    ·rename_i hj
     rw[y0! (by omega)]
   rw[this];exact o
  ·simp only[Prod.mk.injEq]at hx;exact hx.1
theorem ex! {ts:List TypeId}(hl:laidOutB P=true) {W W':World}(hb:Below W.heap.size W W') :
  ∀ {vs:List Value} {ds:List (DataW H)} {ps:List MemPlace},(∀t∈ts,P.readableRec t=true/\t<P.types.size)->(∀x∈ps,x.block<W.heap.size) ->
   DataW.TrodAll enc P W 0 (fun _=>true) true ts vs ds ps->DataW.TrodAll enc P W' 0 (fun b=>decide (b<W.heap.size)) true ts vs ds ps:=by
 induction ts with
 | nil =>
  intro vs ds ps _ _ h;cases vs <;> cases ds <;> simp_all [DataW.TrodAll]
 | cons t ts ih =>
  intro vs ds ps hr hlt h;obtain⟨v,a0,d,a1,p,q,rfl,rfl,rfl,h1,h2⟩:=trodAll_cons h;exact trodAll_cons_mk (Below.trod hl (hr t (by simp)).1 (hr t (by simp)).2 h1 hb (fun x hx=>hlt x (by simp[hx]))) (ih (fun t ht=>hr t (by simp[ht])) (fun x hx=>hlt x (by simp[hx])) h2)
theorem law_post {f:Func}{s:ChangeSpec}{W W':World}{args:Array Value}{ds gs:List (DataW H)}{before:List MemPlace}{tb:TypeId}
  (hW:DataW.Whole enc P f.params.toList s.vars false W args.toList ds gs before) (hvars:s.vars=[]) (hres:f.resultTypes=#[tb]) (htb:P.underlying tb=some .bool)
  (hfn:(s.fn H (ds++gs)).results=[.lit (.bool true)]) (hfa:(s.fn H (ds++gs)).args=ds) (hfv:(s.fn H (ds++gs)).vars=[])
  (hl:laidOutB P=true) (hr:(f.params.toList.all fun t=>P.readableRec t&&decide (t<P.types.size))=true) (hb:Below W.heap.size W W') :
  s.post enc P f false true false false W args (.bool true) W':=by
 have a1:=hW.lt;have a0:=hW;obtain⟨p,q,hA,hV,rfl,_,_⟩:=hW;rw[hvars]at hV;refine⟨ds,gs,p++q,[],p,[],a0,?_,?_,?_,hb.frame _,fun h=>by cases h⟩
 ·rw[hfn,hres];exact trodAll_mk1 (shut_bool htb true)
 ·rw[hfa];refine ex! hl hb (fun t ht=>?_) (fun x hx=>a1 x (by simp[hx])) hA;have:=u8!.1 hr t ht;simpa using this
 ·rw[hfv,hvars];rfl
end
section
variable {H : Type} {enc : TypeId × Value -> H} {P : Program} {w : World}
end
mutual
def RT.bk:RT->Nat | .mk _ a b ps=>5+a.size+b.size+bkL ps
def bkL:List RT->Nat | []=>0 | r::rs=>r.bk+bkL rs
end
def relBk (x:ByteArray × RT):Nat:=2+x.1.size+x.2.bk
def sumN {α:Type}(f:α->Nat):List α->Nat | []=>0 | x::l=>f x+sumN f l
theorem dK! (x:ByteArray × RT):relBk x=2+x.1.size+x.2.bk:=rfl
def tyBk (t:TyS):Nat:=2+t.name.size+sumN relBk t.rels
theorem fQ! (t:TyS):tyBk t=2+t.name.size+sumN relBk t.rels:=rfl
theorem nF! (l:List RT):bkL l=sumN RT.bk l:=by
 induction l with
 | nil=>rfl
 | cons x l ih=>rw[bkL,sumN,ih]
theorem fl! {α:Type}(f:α->Nat) {a:α}:∀ {l:List α},a∈l->f a<=sumN f l
 | x::l,h=>by
  rw[sumN];rcases v7!.1 h with rfl | h
  ·omega
  ·have:=fl! f h;omega
section
variable {H : Type} {enc : TypeId × Value -> H} {W : World} {base : Nat} {v : Value} {d : DataW H} {ps : List MemPlace}
def schBk (ts:List TyS):Nat:=sumN tyBk ts
end
theorem sz_bk (r:RT):5*r.sz<=r.bk/\5+r.a.size+r.b.size<=r.bk:=by
 induction r using RT.ind with
 | h r ih =>
  obtain⟨k,a,b,c⟩:=r
  have:5*szL c<=bkL c:=by
   have hh:∀p∈c,5*p.sz<=p.bk:=fun p hp=>(ih p hp).1;clear ih;induction c with
   | nil=>simp[szL,bkL]
   | cons x c ih =>
    rw[szL,bkL];have h1:=hh x y4!;have h2:=ih fun p hp=>hh p (u9! _ hp);omega
  rw[RT.sz,RT.bk];refine⟨by omega,?_⟩;show 5+a.size+b.size<=_
  omega
theorem mU! (l:List (ByteArray × RT)):l.length<=sumN relBk l:=by
 induction l with
 | nil=>simp
 | cons x l ih=>rw[sumN,u7!];have:=dK! x;omega
theorem dU! (ts:List TyS):(am! ts).length<=schBk ts/\(ab! ts).length<=schBk ts:=by
 induction ts with
 | nil=>exact⟨v1! _,v1! _⟩
 | cons t ts ih =>
  have h1:=mU! t.rels;unfold schBk am! ab! at ih ⊢;rw[y5!,y5!,u4!,u4!,sumN];have h2:(aR! t.name t.rels).length=t.rels.length:=by unfold aR!;rw[x1!]
  have h3:(iq! t).length<=t.rels.length+1:=by unfold iq!;simp
  have:=fQ! t;omega
theorem mM! {ts:List TyS}(h:schBk ts<=1048576):∀t∈ts,∀r∈t.rels,r.2.sz<=1000000:=fun t ht r hr=>by
 have h1:=fl! tyBk ht;have h2:=fl! relBk hr;have h3:=(sz_bk r.2).1;unfold schBk at h;have h4:=fQ! t;have h5:=dK! r;omega
theorem wt_bk (r:RT):r.wt+8<=4*r.bk:=by
 induction r using RT.ind with
 | h r ih =>
  obtain⟨k,a,b,c⟩:=r
  have:wtL c<=4*bkL c:=by
   have hh:∀p∈c,p.wt+8<=4*p.bk:=fun p hp=>ih p hp;clear ih;induction c with
   | nil=>simp[wtL,bkL]
   | cons x c ih =>
    rw[wtL,bkL];have h1:=hh x y4!;have h2:=ih fun p hp=>hh p (u9! _ hp);omega
  rw[RT.wt,RT.bk];omega
theorem mW! (l:List (ByteArray × RT)):relB l<=5*sumN relBk l:=by
 induction l with
 | nil=>simp[relB]
 | cons x l ih =>
  rw[relB,sumN];have:=wt_bk x.2;have:=dK! x;omega
theorem kD! (ts:List TyS):schB ts<=5*schBk ts:=by
 induction ts with
 | nil=>simp[schB]
 | cons t ts ih =>
  rw[schB];have:=mW! t.rels;unfold schBk at ih ⊢;rw[sumN];have:=fQ! t;omega
end Go.Proofs.YtlhaghoajpglaaaGreat
namespace Go.Proofs.YtlhaghoajpglaaaGreat
open Go Go.RowKit Go.Maps Go.Proofs.Tryz
theorem dg! {ts:List TyS}(h:chk06 ts=0):aK! ts=true:=by
 unfold chk06 at h;split at h
 ·split at h
  ·split at h
   ·assumption
   ·cases h
  ·cases h
 ·cases h
theorem en! {ts:List TyS}(h:chk06 ts=0):cc! ts=true:=by
 unfold chk06 at h;split at h
 ·split at h
  ·assumption
  ·cases h
 ·cases h
theorem iy! {ts:List TyS}(h:cc! ts=true):ts.length<=16/\∀t∈ts,t.rels.length<=16/\∀r∈t.rels,r.2.sz<=32:=by
 unfold cc! at h;rw[v0!,u1!,u8!]at h;refine⟨h.1,fun t ht=>?_⟩;have a:=h.2 t ht;unfold bx! at a;rw[v0!,u1!,u8!]at a;exact⟨a.1,fun r hr=>by simpa using a.2 r hr⟩
theorem gn! {ts:List TyS}(h:cc! ts=true):(ab! ts).length<=256:=by
 obtain⟨h1,h2⟩:=iy! h;have:=kT! (fun t:TyS=>aR! t.name t.rels) 16 ts fun t ht=>by unfold aR!;rw[x1!];exact(h2 t ht).1
 unfold ab!;omega
theorem cA! {a b:ByteArray}(h:a.toList=b.toList):a=b:=by
 rw[u5!,u5!]at h;exact ByteArray.ext (by rw[<-Array.toList_inj];exact h)
theorem lB! {l m:List RT}(hl:l.length=m.length)(h:∀i (h1:i<l.length)(h2:i<m.length),l[i]=m[i]):l=m:=List.ext_getElem hl h
end Go.Proofs.YtlhaghoajpglaaaGreat
namespace Go.Proofs.YtlhaghoajpglaaaGreat
open Go Go.RowKit Go.ChangeShapes Go.WideShapes Go.ChangeAt Go.Proofs.Tryz
def bc (l:List UInt8):List Value:=l.map fun c => .int .u8 c.toNat
theorem ep! (a:List UInt8):(bc a).length=a.length:=by simp[bc]
theorem mk! {S:Nat->Prop}{w:World}{ao:Option Addr}{l:List UInt8}{c:Nat}(h:Sl S w 1 (.slice ao l.length c) (bc l)):∀i (hi:i<l.length),∃b off,ao=some ⟨b,off,none⟩/\S b/\w.cell? ⟨b,off+i,none⟩=some (.int .u8 l[i].toNat):=by
 obtain⟨a0,n',c',hv,h1,h2,h3,h4,h5⟩:=h;cases hv;intro i hi;obtain⟨b,off,rfl,hb,hc⟩:=h5 (fun e=>by have:=congrArg List.length e;rw[ep!]at this;simp only[v6!]at this;omega);exact⟨b,off,rfl,hb,hc i _ (by simp[bc,hi])⟩
section
variable {H : Type} {enc : TypeId × Value -> H} {W : World} {base : Nat} {v : Value} {d : DataW H} {ps : List MemPlace}
theorem open_bytesV (hok:Value.okWide prog W .any base 22 v)(h:DataW.Trod enc prog W 0 (fun _=>true) true 22 v d ps):∃l:List UInt8,Sl (· < W.heap.size) W 1 v (bc l):=by
 obtain⟨e,a,a1,hs,hl,he,_⟩:=nf! Tryz.underlying22 (okWide_slice Tryz.underlying22 hok) h;rw[show prog.cellsOf 5=1 from by kernel_rfl]at hs hl he
 have b:∀i (hi:i<e.length),∃c:UInt8,e[i]= .int .u8 c.toNat:=by
  intro i hi;have a0:i<a.length:=by omega
  have:=he i a[i] (by simp[a0]);rw[Nat.mul_one,show(e.drop i).take 1=[e[i]]from by rw[List.drop_eq_getElem_cons hi];rfl]at this;obtain⟨n,e1,_,hw⟩:=DataW.trod_int Tryz.underlying5 this;have hb:=bounds_u8 hw;refine⟨UInt8.ofNat n.toNat,?_⟩;have e2:e[i]= .int .u8 n:=by simpa using e1
  rw[e2];congr 1
  have:(UInt8.ofNat n.toNat).toNat=n.toNat:=by simp;omega
  rw[this];omega
 refine⟨e.map fun x=>match x with | .int _ n=>UInt8.ofNat n.toNat | _=>0,?_⟩
 have:bc (e.map fun x=>match x with | .int _ n=>UInt8.ofNat n.toNat | _=>0)=e:=by
  apply List.ext_getElem
  ·simp[bc]
  ·intro i h1 h2;obtain⟨c,hc⟩:=b i h2;simp[bc,hc]
 rw[this];exact hs
theorem open_u8V (hok:Value.okWide prog W .any base 5 v)(h:DataW.Trod enc prog W 0 (fun _=>true) true 5 v d ps):∃q:Nat,v= .int .u8 q/\q<256:=by
 obtain⟨x,rfl,_,_,wx⟩:=open_int Tryz.underlying5 hok h;have hb:=bounds_u8 wx;exact⟨x.toNat,by congr 1;omega,by omega⟩
end
end Go.Proofs.YtlhaghoajpglaaaGreat
namespace Go.Proofs.YtlhaghoajpglaaaGreat
open Go Go.RowKit Go.Maps Go.Proofs.Tryz
def Tp (w:World)(tp:Nat):Prop:=∃(bv:Value)(l:List UInt8)(n:Nat),n<=l.length/\Sl (· < tp) w 1 bv (bc l)/\Blk w tp #[bv,.int .i64 n] 41
abbrev KT (tp:Nat) (w w':World):Prop:=Kept (fun b=>b<w.heap.size/\b≠tp) w w'
theorem KT.trans {tp:Nat}{w w' w'':World}(h:KT tp w w')(k:KT tp w' w''):KT tp w w'':=Kept.trans h (Kept.mono k fun _b hb=>⟨n1! hb.1 h.size,hb.2⟩)
theorem KT.of {tp:Nat}{w w':World}(h:Ext w w'):KT tp w w':=Below.kept h fun _b hb=>hb.1
theorem Tp.ext {w w':World}{tp:Nat}(h:Tp w tp)(hb:Ext w w'):Tp w' tp:=by
 obtain⟨bv,l,n,hn,hs,hB⟩:=h;exact⟨bv,l,n,hn,hs.same ((Same.below hb).mono fun b h=>Nat.lt_trans h hB.lt),hB.below hb⟩
theorem Tp.lt {w:World}{tp:Nat}(h:Tp w tp):tp<w.heap.size:=by
 obtain⟨bv,l,n,hn,hs,hB⟩:=h;exact hB.lt
theorem KT.same {tp:Nat}{w w':World}{S:Nat->Prop}(h:KT tp w w')(hS:∀b,S b->b<w.heap.size/\b≠tp):Same S w w':=fun b hb=>h.block b (hS b hb)
theorem KT.blk {tp:Nat}{w w':World}(h:KT tp w w') {B:Nat}{cs:Array Value}{e:TypeId}(hB:Blk w B cs e)(hn:B≠tp):Blk w' B cs e:=Kept.blk h hB ⟨hB.lt,hn⟩
theorem af! (tp:Nat)(n:Int)(w:World)(h:Tp w tp)(hn:1<=n)(_hm:n<=1000000):Calls prog 106 #[.pointer (some ⟨tp,0,none⟩),.int .i64 n] w fun e w'=>∃k:Nat,e= .returned (.int .i64 k)/\(k:Int)<n/\Tp w' tp/\KT tp w w':=by
 obtain⟨bv,l,m,a6,hs,hB⟩:=h;obtain⟨ao,ln,c,rfl,u,ad,af⟩:=hs.len;rw[ep!,Nat.mul_one]at u;subst u;have A:=h! hs;have z:=h! hB;have s:=h! a6;clear hs hB _hm;by_cases h2:n<2
 ·have HN:=h! hn;have a4:decide (n<2)=true:=v2! h2;go_enter func106,ntmps106
  go_wp2_with fail
  refine al! (Ext w) (Ext.drew w) (by kernel_rfl) (by kernel_rfl) (fun _ _ d _ _ h=>by cases d <;> exact h) ?_;(refine WalkN.tk [0,1,2] ?_;(iterate 3 (refine c! ?_));refine TkN.n ?_)
  refine k! 3 ?_;refine k! 4 ?_;refine k! 5 ?_;refine k! 6 ?_;refine k! 7 ?_;refine k! 8 ?_;refine k! 9 ?_;refine k! 10 ?_;refine k! 11 ?_;refine k! 12 ?_
  refine t! 13 ?_
  refine d! ?_;go_wp2_with fail
  go_ret
  exact⟨0,rfl,by have:=HN.out;omega,⟨_,l,m,s.out,A.out.same ((Same.below (Ext.drew w)).mono fun b h=>Nat.lt_trans h z.out.lt),z.out.below (Ext.drew w)⟩,KT.of (Ext.drew w)⟩
 ·have a4:decide (n<2)=false:=v3! h2;have a9:=h! h2;have a0:∀W,Ext w W->W.cell? ⟨tp,0,none⟩=some (.slice ao l.length c):=fun W h=>by rw[(z.out.below h).cells];rfl
  have a1:∀W,Ext w W->W.cell? ⟨tp,1,none⟩=some (.int .i64 m):=fun W h=>by rw[(z.out.below h).cells];rfl
  clear h2;by_cases hlt:m<l.length
  ·have a5:decide ((l.length:Int)<=(m:Int))=false:=v3! (by omega);have o:¬ (l.length:Int)<=(m:Int):=by omega
   go_enter func106,ntmps106
   go_wp2_with fail
   refine al! (Ext w) (Ext.drew w) (by kernel_rfl) (by kernel_rfl) (fun _ _ d _ _ h=>by cases d <;> exact h) ?_;(refine WalkN.tk [0,1,2,3,4,5,6,7,8,9,10,11,12,13] ?_;(iterate 14 (refine c! ?_));refine TkN.n ?_)
   refine d! ?_;have c1:=a1 _ (Ext.drew w);have a8:=(z.out.below (Ext.drew w)).free;have a2:wrap64 ((m:Int)+1)=((m+1:Nat):Int):=by rw[aL! _ (by omega) (by omega)];omega
   obtain⟨x,f,rfl,hb,p⟩:=mk! A.out m hlt;generalize hq:l[m]=q at *;clear a0 a1;go_wp2_with fail
   obtain⟨v,i⟩:=e! ((w.setCell ⟨tp,1,none⟩ (.int .i64 ((m:Int)+1))).drew);rw[<-i];have H2:=h! (show Blk v tp #[.slice (some ⟨x,f,none⟩) l.length c,.int .i64 ((m+1:Nat):Int)] 41 from by rw[i];exact(z.out.set_to 1 _ (by simp)).drew);have j:=h! (show KT tp w v from by rw[i];exact((Kept.refl _ _).set (fun h=>h.2 rfl) _).drew);have g:=(World.cell?_of_block (a:=⟨x,f+m,none⟩) (j.out.block x ⟨Nat.lt_trans hb z.out.lt,by omega⟩)).trans p;have aa:=h! (A.out.same (j.out.same (S:=(· < tp)) fun b (h:b<tp)=>⟨Nat.lt_trans h z.out.lt,by omega⟩));have ab:Hid (Tp v tp):=h! ⟨_,l,m+1,hlt,aa.out,H2.out⟩;have b0:∀W,Ext v W->W.cell? ⟨tp,0,none⟩=some (.slice (some ⟨x,f,none⟩) l.length c):=fun W h=>by rw[(H2.out.below h).cells];rfl
   have b1:∀W,Ext v W->W.cell? ⟨tp,1,none⟩=some (.int .i64 ((m+1:Nat):Int)):=fun W h=>by rw[(H2.out.below h).cells];rfl
   have b2:∀W,Ext v W->W.cell? ⟨x,f+m,none⟩=some (.int .u8 q.toNat):=fun W h=>Ext.cell h (a:=⟨x,f+m,none⟩) g;have aj:IntKind.i64.wrap (m:Int)=(m:Int):=IntWalk.i64_in _ (by omega);have ah:(0:Int)<=(m:Int):=by omega
   have ae:(m:Int)<(l.length:Int):=by omega
   obtain⟨y,rfl⟩:∃y:Nat,n=y:=⟨n.toNat,by omega⟩
   have a7:(q.toNat:Int).tmod (y:Int)=((q.toNat % y:Nat):Int):=by
    rw[Int.tmod_eq_emod_of_nonneg (by omega)];simp
   have r:=Nat.mod_lt q.toNat (show 0<y from by omega);have ag:¬ y=0:=by omega
   have ac:=q.toNat_lt;generalize q.toNat=qn at *;have ai:IntKind.i64.wrap (qn:Int)=(qn:Int):=IntWalk.i64_in _ (by omega);generalize hk:qn % y=k at *;have a3:=h! r;clear i c1 a8 a2 p g hb hq hk r;refine al! (Ext v) (Ext.drew v) (by kernel_rfl) (by kernel_rfl) (fun _ _ d _ _ h=>by cases d <;> exact h) ?_;(refine WalkN.tk [0,1,2,3,4,5,6,7,8,9,10,11,12,13,14] ?_;(iterate 15 (refine c! ?_));refine TkN.n ?_)
   refine d! ?_;clear b0 b1 b2;go_wp2_with fail
   go_ret
   exact⟨k,rfl,by have:=a3.out;omega,ab.out.ext (Ext.drew v),KT.trans j.out (KT.of (Ext.drew v))⟩
  ·have a5:decide ((l.length:Int)<=(m:Int))=true:=v2! (by omega);have o:(l.length:Int)<=(m:Int):=by omega
   go_enter func106,ntmps106
   go_wp2_with fail
   refine al! (Ext w) (Ext.drew w) (by kernel_rfl) (by kernel_rfl) (fun _ _ d _ _ h=>by cases d <;> exact h) ?_;(refine WalkN.tk [0,1,2,3,4,5,6,7,8,9,10,11,12,13] ?_;(iterate 14 (refine c! ?_));refine TkN.n ?_)
   refine d! ?_;clear a0 a1;go_wp2_with fail
   go_ret
   exact⟨0,rfl,by have:=a9.out;omega,⟨_,l,m,s.out,A.out.same ((Same.below (Ext.drew w)).mono fun b h=>Nat.lt_trans h z.out.lt),z.out.below (Ext.drew w)⟩,KT.of (Ext.drew w)⟩
def nmV:ByteArray:=⟨#[118,105,101,119,101,114]⟩
def nmO:ByteArray:=⟨#[111,119,110,101,114]⟩
def nmP:ByteArray:=⟨#[112,97,114,101,110,116]⟩
def nmM:ByteArray:=⟨#[109,101,109,98,101,114]⟩
def relNs:List ByteArray:=[nmV,nmO,nmP,nmM]
theorem dc! (w:World):Calls prog 125 #[] w fun e w'=>e= .returned (.slice (some ⟨w.heap.size,0,none⟩) 4 4)/\Blk w' w.heap.size #[.string nmV,.string nmO,.string nmP,.string nmM] 9/\Ext w w':=by
 go_enter func125,ntmps125
 go_wp2_with fail
 go_ret
 exact⟨rfl,Blk.made _ _ _,Ext.alloc _ _⟩
def ol! (own:List ByteArray)(r:RT):Prop:=r= .mk 1 ⟨#[]⟩ ⟨#[]⟩ []\/(∃a∈own,r= .mk 2 a ⟨#[]⟩ [])\/∃a∈own,∃b∈relNs.take 2,r= .mk 3 a b []
def ok! (own:List ByteArray):Nat->RT->Prop
 | 0,r=>ol! own r
 | d+1,r=>ol! own r\/∃k ps,r= .mk k ⟨#[]⟩ ⟨#[]⟩ ps/\(k=4\/k=5)/\(ps.length=2\/ps.length=3)/\∀p∈ps,ok! own d p/\p.k≠k
theorem ok!.leaf {own:List ByteArray}{r:RT}(h:ol! own r):∀d,ok! own d r
 | 0=>h
 | _+1 => .inl h
theorem ol!.k {own:List ByteArray}{r:RT}(h:ol! own r):r.k≠0/\r.k≠4/\r.k≠5:=by
 rcases h with rfl | ⟨a,_,rfl⟩|⟨a,_,b,_,rfl⟩ <;> simp[RT.k]
theorem RTAt.leaf' (S:Nat->Prop)(w:World) {r:RT}(h:r.ps=[]):RTAt S w r (.slice none 0 0):=(RTAt.iff _ _).2 ⟨[],by rw[h];rfl,by simp,Sl.nil _ _ _⟩
structure MkI (own:List ByteArray)(d:Nat)(kk:Int)(rp:Nat)(w:World)(q:List (RT × Value))(pv:Value):Prop where
 box:Blk w rp #[.int .i64 kk,.string ⟨#[]⟩,.string ⟨#[]⟩,pv] 106
 row:Own w (rp+1) 106 4 pv (q.flatMap rC)
 parts:∀x∈q,RTAt (fun b=>(rp+1<=b/\b<w.heap.size)/\pv.ownBlock≠some b) w x.1 x.2
 good:∀x∈q,ok! own d x.1/\x.1.k≠kk
theorem MkI.keep {own:List ByteArray}{d:Nat}{kk:Int}{rp tp:Nat}{w w':World}{q:List (RT × Value)}{pv:Value}(h:MkI own d kk rp w q pv)(hk:KT tp w w')(ht:tp<rp):MkI own d kk rp w' q pv :=
 ⟨hk.blk h.box (by omega),h.row.keepOwn fun g hg=>hk.block g ⟨(h.row.block g hg).2,by have:=(h.row.block g hg).1;omega⟩,
  fun x hx=>((h.parts x hx).same fun b hb=>hk.block b ⟨hb.1.2,by have:=hb.1.1;omega⟩).mono fun b hb=>⟨⟨hb.1.1,n1! hb.1.2 hk.size⟩,hb.2⟩,h.good⟩
theorem MkI.add {own:List ByteArray}{d:Nat}{kk:Int}{rp n0:Nat}{w w7:World}{q:List (RT × Value)}{pv v7 v5:Value}{r:RT}(h:MkI own d kk rp w q pv)(hk:∀b,b<w.heap.size->pv.ownBlock≠some b->w7.heap[b]?=w.heap[b]?)(hz:w.heap.size<=w7.heap.size)
  (ho:Own w7 (rp+1) 106 4 v7 (q.flatMap rC++rC (r,v5))) (hb:∀g,v7.ownBlock=some g->pv.ownBlock=some g\/w.heap.size<=g) (hr:RTAt (fun b=>n0<=b/\b<w.heap.size) w r v5) (hn0:rp+1<=n0) (hpv:∀g,pv.ownBlock=some g->g<n0) (hg:ok! own d r/\r.k≠kk) :
  MkI own d kk rp (w7.setCell ⟨rp,3,none⟩ v7) (q++[(r,v5)]) v7:=by
 have a1:pv.ownBlock≠some rp:=fun e=>by have:=(h.row.block rp e).1;omega
 have hs:Same (fun b=>(rp+1<=b/\b<w.heap.size)/\pv.ownBlock≠some b) w (w7.setCell ⟨rp,3,none⟩ v7):=fun b hb'=>(Below.heap_setCell w7 _ _ b (by have:=hb'.1.1;show b≠rp;omega)).trans (hk b hb'.1.2 hb'.2)
 have hm:∀b,((rp+1<=b/\b<w.heap.size)/\pv.ownBlock≠some b)->((rp+1<=b/\b<(w7.setCell ⟨rp,3,none⟩ v7).heap.size)/\v7.ownBlock≠some b):=fun b hb'=>⟨⟨hb'.1.1,by simp;exact n1! hb'.1.2 hz⟩,fun e=>by
  rcases hb b e with e | e
  ·exact hb'.2 e
  ·have:=hb'.1.2;omega⟩
 refine⟨?_,?_,fun x hx=>?_,fun x hx=>?_⟩
 ·have a0:Blk w7 rp #[.int .i64 kk,.string ⟨#[]⟩,.string ⟨#[]⟩,pv] 106:=(hk rp h.box.lt a1).trans h.box;exact a0.set_to 3 _ rfl
 ·rw[x9!];exact(show Own w7 (rp+1) 106 4 v7 (q.flatMap rC++[(r,v5)].flatMap rC)from by simpa using ho).keepOwn fun g hg=>Below.heap_setCell _ _ _ _ (by have:=(ho.block g hg).1;show g≠rp;omega)
 ·rcases u3!.1 hx with hx | hx
  ·exact((h.parts x hx).same hs).mono hm
  ·obtain rfl:=n9!.1 hx;have h2:∀b,(n0<=b/\b<w.heap.size)->((rp+1<=b/\b<w.heap.size)/\pv.ownBlock≠some b):=fun b hb'=>⟨⟨n6! hn0 hb'.1,hb'.2⟩,fun e=>by have:=hpv b e;omega⟩;exact((hr.mono h2).same hs).mono hm
 ·rcases u3!.1 hx with hx | hx
  ·exact h.good x hx
  ·obtain rfl:=n9!.1 hx;exact hg
theorem Tp.kept {w w':World}{tp:Nat}{K:Nat->Prop}(h:Tp w tp)(hk:Kept K w w')(hK:∀b,b<=tp->K b):Tp w' tp:=by
 obtain⟨bv,l,n,hn,hs,hB⟩:=h;exact⟨bv,l,n,hn,hs.same fun b hb=>hk.block b (hK b (Nat.le_of_lt hb)),hk.blk hB (hK tp (n0! _))⟩
theorem Blk.set4 {w:World}{B:Nat}{a b c d:Value}{e:TypeId}(h:Blk w B #[a,b,c,d] e)(x0 x1 x2 x3:Value):Blk ((((w.setCell ⟨B,0,none⟩ x0).setCell ⟨B,1,none⟩ x1).setCell ⟨B,2,none⟩ x2).setCell ⟨B,3,none⟩ x3) B #[x0,x1,x2,x3] e :=
 (((h.set_to (cs':=#[x0,b,c,d]) 0 x0 rfl).set_to (cs':=#[x0,x1,c,d]) 1 x1 rfl).set_to (cs':=#[x0,x1,x2,d]) 2 x2 rfl).set_to (cs':=#[x0,x1,x2,x3]) 3 x3 rfl
theorem Kept.set4 {K:Nat->Prop}{w w':World}{B:Nat}(h:Kept K w w')(hk:¬ K B)(x0 x1 x2 x3:Value):Kept K w ((((w'.setCell ⟨B,0,none⟩ x0).setCell ⟨B,1,none⟩ x1).setCell ⟨B,2,none⟩ x2).setCell ⟨B,3,none⟩ x3):=(((h.set hk x0).set hk x1).set hk x2).set hk x3
theorem Tp.set4 {w:World}{tp B:Nat}(h:Tp w tp)(_hB:B<w.heap.size)(hn:tp<B)(x0 x1 x2 x3:Value):Tp ((((w.setCell ⟨B,0,none⟩ x0).setCell ⟨B,1,none⟩ x1).setCell ⟨B,2,none⟩ x2).setCell ⟨B,3,none⟩ x3) tp :=
 h.kept (K:=fun b=>b≠B) ((Kept.refl _ w).set4 (fun h=>h rfl) x0 x1 x2 x3) fun b hb=>by omega
theorem iu! (own:List ByteArray)(hol:1<=own.length/\own.length<=4)(d:Nat):∀(nt:Int)(tp:Nat)(ov:Value)(w:World),Tp w tp->Sl (fun b=>b<w.heap.size/\b≠tp) w 1 ov (txs own)->d<=1000->(nt=0\/nt=4\/nt=5) ->
  Calls prog 126 #[.pointer (some ⟨tp,0,none⟩),ov,.int .i64 d,.int .i64 nt] w fun e w'=>∃(r:RT) (pv:Value),e= .returned (rV r pv)/\ok! own d r/\r.k≠nt/\RTAt (fun b=>w.heap.size<=b/\b<w'.heap.size) w' r pv/\Tp w' tp/\KT tp w w':=by
 have b2:=h! hol;clear hol;induction d using Nat.strongRecOn with
 | ind d ih =>
 intro nt tp ov w af hov hd hnt;obtain⟨ao,ln,c,rfl,bg,-,-⟩:=hov.len;rw[ae!,Nat.mul_one]at bg;subst bg;have aP:=h! hov;have bm:=h! af;have aM:=h! hnt;have HD:=h! hd;have am:=h! af.lt;have bc:=Ext.alloc w (.cells #[.int .i64 0,.string ⟨#[]⟩,.string ⟨#[]⟩,.slice none 0 0] 106);have bf:=h! (Blk.made w #[.int .i64 0,.string ⟨#[]⟩,.string ⟨#[]⟩,.slice none 0 0] 106);have b3:=h! bc;have bh:=h! (af! tp 8 _ (af.ext bc) (by decide) (by decide));clear hov af hnt hd bc;go_enter func126,ntmps126
 go_wp2_with fail
 refine bh.out.mono ?_;rintro e w1 ⟨k,rfl,hk,b4,aU⟩;have H:=h! b4;have J:=h! (KT.trans (KT.of b3.out) aU);have y:=h! (aU.blk bf.out (by have:=am.out;omega));have aL:Hid (w.heap.size<w1.heap.size):=h! y.out.lt;have aZ:=y.out.cells;have aQ:=y.out.free;clear b4 aU bh b3 bf bm;have h8:k=0\/k=1\/k=2\/k=3\/k=4\/k=5\/6<=k:=by omega
 rcases h8 with rfl | rfl | rfl | rfl | rfl | rfl | h6
 ·clear hk;go_wp2_with fail
  refine bodyPost_ret (results_cell_row rfl _ _ w.heap.size 106 #[.int .i64 1,.string ⟨#[]⟩,.string ⟨#[]⟩,.slice none 0 0] (0,0) _ rfl (y.out.set4 _ _ _ _) Tryz.underlying106 rfl (by kernel_rfl)) rfl ?_;exact⟨.mk 1 ⟨#[]⟩ ⟨#[]⟩ [],.slice none 0 0,rfl,ok!.leaf (.inl rfl) _,by have:=aM.out;have:=(show ol! own (.mk 1 ⟨#[]⟩ ⟨#[]⟩ [])from .inl rfl).k;omega,RTAt.leaf' _ _ rfl,H.out.set4 y.out.lt (by have:=am.out;omega) _ _ _ _,J.out.set4 (fun h=>Nat.lt_irrefl _ h.1) _ _ _ _⟩
 ·clear hk;go_wp2_with fail
  refine bodyPost_ret (results_cell_row rfl _ _ w.heap.size 106 #[.int .i64 1,.string ⟨#[]⟩,.string ⟨#[]⟩,.slice none 0 0] (0,0) _ rfl (y.out.set4 _ _ _ _) Tryz.underlying106 rfl (by kernel_rfl)) rfl ?_;exact⟨.mk 1 ⟨#[]⟩ ⟨#[]⟩ [],.slice none 0 0,rfl,ok!.leaf (.inl rfl) _,by have:=aM.out;have:=(show ol! own (.mk 1 ⟨#[]⟩ ⟨#[]⟩ [])from .inl rfl).k;omega,RTAt.leaf' _ _ rfl,H.out.set4 y.out.lt (by have:=am.out;omega) _ _ _ _,J.out.set4 (fun h=>Nat.lt_irrefl _ h.1) _ _ _ _⟩
 ·clear hk;go_wp2_with fail
  refine bodyPost_ret (results_cell_row rfl _ _ w.heap.size 106 #[.int .i64 1,.string ⟨#[]⟩,.string ⟨#[]⟩,.slice none 0 0] (0,0) _ rfl (y.out.set4 _ _ _ _) Tryz.underlying106 rfl (by kernel_rfl)) rfl ?_;exact⟨.mk 1 ⟨#[]⟩ ⟨#[]⟩ [],.slice none 0 0,rfl,ok!.leaf (.inl rfl) _,by have:=aM.out;have:=(show ol! own (.mk 1 ⟨#[]⟩ ⟨#[]⟩ [])from .inl rfl).k;omega,RTAt.leaf' _ _ rfl,H.out.set4 y.out.lt (by have:=am.out;omega) _ _ _ _,J.out.set4 (fun h=>Nat.lt_irrefl _ h.1) _ _ _ _⟩
 ·clear hk;have C:=h! (af! tp own.length w1 H.out (by have:=b2.out;omega) (by have:=b2.out;omega));go_wp2_with fail
  refine C.out.mono ?_;rintro e w2 ⟨k2,rfl,b9,A,i⟩;have Z:=h! A;have Y:=h! (KT.trans J.out i);have I:=h! (i.blk y.out (by have:=am.out;omega));have bs:=I.out.cells;have bt:=I.out.free;have ak:k2<own.length:=by omega
  obtain⟨bo,oo,rfl,aI,aK⟩:=bo! aP.out k2 ak;have bl:=(World.cell?_of_block (a:=⟨bo,oo+k2,none⟩) (Y.out.block bo aI)).trans aK;have aJ:=h! (n5! ak);generalize own[k2]=nm at *;clear A i C aZ aQ aK aI;go_wp2_with fail
  refine bodyPost_ret (results_cell_row rfl _ _ w.heap.size 106 #[.int .i64 2,.string nm,.string ⟨#[]⟩,.slice none 0 0] (0,0) _ rfl (I.out.set4 _ _ _ _) Tryz.underlying106 rfl (by kernel_rfl)) rfl ?_;exact⟨.mk 2 nm ⟨#[]⟩ [],.slice none 0 0,rfl,ok!.leaf (.inr (.inl ⟨nm,aJ.out,rfl⟩)) _,by have:=aM.out;have:=(show ol! own (.mk 2 nm ⟨#[]⟩ [])from .inr (.inl ⟨nm,aJ.out,rfl⟩)).k;omega,RTAt.leaf' _ _ rfl,Z.out.set4 I.out.lt (by have:=am.out;omega) _ _ _ _,Y.out.set4 (fun h=>Nat.lt_irrefl _ h.1) _ _ _ _⟩
 ·clear hk;have C:=h! (fun W (h:Tp W tp)=>af! tp own.length W h (by have:=b2.out;omega) (by have:=b2.out;omega));go_wp2_with fail
  obtain⟨wd,X⟩:=e! w1.drew;have hE:Ext w1 wd:=by rw[X];exact Ext.drew w1
  have a2:=h! (H.out.ext hE);have z:=h! (KT.trans J.out (KT.of hE));have a3:=h! (y.out.below hE);refine ah! 13 (Kept (fun b=>b<wd.heap.size/\b≠tp) wd) (by rw[<-X];exact Kept.refl _ _) (by kernel_rfl) (by kernel_rfl) (fun _ _ d _ _ h=>by cases d <;> exact h) ?_;rw[<-X];clear X hE aZ aQ;(refine WalkL.tk [0,1,2,3,8] ?_;(iterate 5 (refine l! ?_));refine TkL.n ?_)
  refine oL! 4 ?_;refine b! ?_;intro K hK;go_simp;refine(C.out wd a2.out).mono ?_;rintro e w2 ⟨k2,rfl,b9,A,i⟩;refine hK.out _ _ i ?_;clear hK;have ak:k2<own.length:=by omega
  obtain⟨bo,oo,rfl,aI,aK⟩:=bo! aP.out k2 ak;have aN:∀W,Kept (fun b=>b<wd.heap.size/\b≠tp) wd W->W.cell? ⟨bo,oo+k2,none⟩=some (.string own[k2]):=fun W hW=>(World.cell?_of_block (a:=⟨bo,oo+k2,none⟩) ((hW.block bo ⟨n1! aI.1 z.out.size,aI.2⟩).trans (z.out.block bo aI))).trans aK;have aJ:=h! (n5! ak);generalize own[k2]=nm at *;clear aK;(refine WalkL.tk [5,6] ?_;(iterate 2 (refine l! ?_));refine TkL.n ?_)
  refine oL! 7 ?_;refine b! ?_;intro K hK;go_simp;refine(dc! w2).mono ?_;rintro e w3 ⟨rfl,V,aO⟩;have az:=KT.trans i (KT.of aO);refine hK.out _ _ az ?_;have bj:Hid (wd.heap.size<=w2.heap.size):=h! i.size;clear hK i;refine oL! 9 ?_;refine b! ?_;intro K hK;go_simp;refine(af! tp 2 w3 (A.ext aO) (by decide) (by decide)).mono ?_;rintro e w4 ⟨k4,rfl,ba,aH,aq⟩;have aa:=KT.trans az aq;refine hK.out _ _ aa ?_;clear hK az;have aC:=h! (aq.blk V (by have:=A.lt;omega));have aT:=h! aH;have aW:=h! (KT.trans z.out aa);have ai:=h! (aa.blk a3.out (by have:=am.out;omega));have bk:Hid (w2.heap.size<w4.heap.size):=h! aC.out.lt
  obtain⟨al,b6,b0⟩:∃al:ByteArray,al∈relNs.take 2/\w4.cell? ⟨w2.heap.size,k4,none⟩=some (.string al):=by
   obtain rfl | rfl:k4=0\/k4=1:=by omega
   ·exact⟨nmV,by simp[relNs],by rw[aC.out.cells];rfl⟩
   ·exact⟨nmO,by simp[relNs],by rw[aC.out.cells];rfl⟩
  have b5:=h! b6;have bp:=ai.out.cells;have bq:=ai.out.free;have bi:(0:Int)<=(k4:Int):=by omega
  have br:(k4:Int)<4:=by omega
  clear b6 aH aq A V aO ba b9 C;((refine WalkL.take 10 _ ?_ (by simp only[gA,gS,gZ];rfl) (by kernel_rfl) (by kernel_rfl) (by kernel_rfl) (by rfl) (fun W hW=>?_) ?_;rotate_left;· (go_simp;try with_reducible rfl));simp only[Act.put,pA,pZ,pS])
  refine oL! 11 ?_;refine b! ?_;intro K hK;go_simp;refine hK.out _ _ aa ?_;clear hK;((refine WalkL.take 12 _ ?_ (by simp only[gA,gS,gZ];rfl) (by kernel_rfl) (by kernel_rfl) (by kernel_rfl) (by rfl) (fun W hW=>?_) ?_;rotate_left;· (go_simp;try with_reducible rfl));simp only[Act.put,pA,pZ,pS])
  refine WalkL.last (by kernel_rfl) (by kernel_rfl) ?_;refine b! ?_;intro K hK;go_simp;refine hK.out _ _ ?_;clear hK b0 aa aN;go_wp2_with fail
  refine bodyPost_ret (results_cell_row rfl _ _ w.heap.size 106 #[.int .i64 3,.string nm,.string al,.slice none 0 0] (0,0) _ rfl (ai.out.set4 _ _ _ _) Tryz.underlying106 rfl (by kernel_rfl)) rfl ?_;exact⟨.mk 3 nm al [],.slice none 0 0,rfl,ok!.leaf (.inr (.inr ⟨nm,aJ.out,al,b5.out,rfl⟩)) _,by have:=aM.out;have:=(show ol! own (.mk 3 nm al [])from .inr (.inr ⟨nm,aJ.out,al,b5.out,rfl⟩)).k;omega,RTAt.leaf' _ _ rfl,aT.out.set4 ai.out.lt (by have:=am.out;omega) _ _ _ _,aW.out.set4 (fun h=>Nat.lt_irrefl _ h.1) _ _ _ _⟩
 ·clear hk;have C:=h! (fun W (h:Tp W tp)=>af! tp own.length W h (by have:=b2.out;omega) (by have:=b2.out;omega));go_wp2_with fail
  obtain⟨wd,X⟩:=e! w1.drew;have hE:Ext w1 wd:=by rw[X];exact Ext.drew w1
  have a2:=h! (H.out.ext hE);have z:=h! (KT.trans J.out (KT.of hE));have a3:=h! (y.out.below hE);refine ah! 13 (Kept (fun b=>b<wd.heap.size/\b≠tp) wd) (by rw[<-X];exact Kept.refl _ _) (by kernel_rfl) (by kernel_rfl) (fun _ _ d _ _ h=>by cases d <;> exact h) ?_;rw[<-X];clear X hE aZ aQ;(refine WalkL.tk [0,1,2,3,8] ?_;(iterate 5 (refine l! ?_));refine TkL.n ?_)
  refine oL! 4 ?_;refine b! ?_;intro K hK;go_simp;refine(C.out wd a2.out).mono ?_;rintro e w2 ⟨k2,rfl,b9,A,i⟩;refine hK.out _ _ i ?_;clear hK;have ak:k2<own.length:=by omega
  obtain⟨bo,oo,rfl,aI,aK⟩:=bo! aP.out k2 ak;have aN:∀W,Kept (fun b=>b<wd.heap.size/\b≠tp) wd W->W.cell? ⟨bo,oo+k2,none⟩=some (.string own[k2]):=fun W hW=>(World.cell?_of_block (a:=⟨bo,oo+k2,none⟩) ((hW.block bo ⟨n1! aI.1 z.out.size,aI.2⟩).trans (z.out.block bo aI))).trans aK;have aJ:=h! (n5! ak);generalize own[k2]=nm at *;clear aK;(refine WalkL.tk [5,6] ?_;(iterate 2 (refine l! ?_));refine TkL.n ?_)
  refine oL! 7 ?_;refine b! ?_;intro K hK;go_simp;refine(dc! w2).mono ?_;rintro e w3 ⟨rfl,V,aO⟩;have az:=KT.trans i (KT.of aO);refine hK.out _ _ az ?_;have bj:Hid (wd.heap.size<=w2.heap.size):=h! i.size;clear hK i;refine oL! 9 ?_;refine b! ?_;intro K hK;go_simp;refine(af! tp 2 w3 (A.ext aO) (by decide) (by decide)).mono ?_;rintro e w4 ⟨k4,rfl,ba,aH,aq⟩;have aa:=KT.trans az aq;refine hK.out _ _ aa ?_;clear hK az;have aC:=h! (aq.blk V (by have:=A.lt;omega));have aT:=h! aH;have aW:=h! (KT.trans z.out aa);have ai:=h! (aa.blk a3.out (by have:=am.out;omega));have bk:Hid (w2.heap.size<w4.heap.size):=h! aC.out.lt
  obtain⟨al,b6,b0⟩:∃al:ByteArray,al∈relNs.take 2/\w4.cell? ⟨w2.heap.size,k4,none⟩=some (.string al):=by
   obtain rfl | rfl:k4=0\/k4=1:=by omega
   ·exact⟨nmV,by simp[relNs],by rw[aC.out.cells];rfl⟩
   ·exact⟨nmO,by simp[relNs],by rw[aC.out.cells];rfl⟩
  have b5:=h! b6;have bp:=ai.out.cells;have bq:=ai.out.free;have bi:(0:Int)<=(k4:Int):=by omega
  have br:(k4:Int)<4:=by omega
  clear b6 aH aq A V aO ba b9 C;((refine WalkL.take 10 _ ?_ (by simp only[gA,gS,gZ];rfl) (by kernel_rfl) (by kernel_rfl) (by kernel_rfl) (by rfl) (fun W hW=>?_) ?_;rotate_left;· (go_simp;try with_reducible rfl));simp only[Act.put,pA,pZ,pS])
  refine oL! 11 ?_;refine b! ?_;intro K hK;go_simp;refine hK.out _ _ aa ?_;clear hK;((refine WalkL.take 12 _ ?_ (by simp only[gA,gS,gZ];rfl) (by kernel_rfl) (by kernel_rfl) (by kernel_rfl) (by rfl) (fun W hW=>?_) ?_;rotate_left;· (go_simp;try with_reducible rfl));simp only[Act.put,pA,pZ,pS])
  refine WalkL.last (by kernel_rfl) (by kernel_rfl) ?_;refine b! ?_;intro K hK;go_simp;refine hK.out _ _ ?_;clear hK b0 aa aN;go_wp2_with fail
  refine bodyPost_ret (results_cell_row rfl _ _ w.heap.size 106 #[.int .i64 3,.string nm,.string al,.slice none 0 0] (0,0) _ rfl (ai.out.set4 _ _ _ _) Tryz.underlying106 rfl (by kernel_rfl)) rfl ?_;exact⟨.mk 3 nm al [],.slice none 0 0,rfl,ok!.leaf (.inr (.inr ⟨nm,aJ.out,al,b5.out,rfl⟩)) _,by have:=aM.out;have:=(show ol! own (.mk 3 nm al [])from .inr (.inr ⟨nm,aJ.out,al,b5.out,rfl⟩)).k;omega,RTAt.leaf' _ _ rfl,aT.out.set4 ai.out.lt (by have:=am.out;omega) _ _ _ _,aW.out.set4 (fun h=>Nat.lt_irrefl _ h.1) _ _ _ _⟩
 ·cases d with
  | zero =>
   obtain rfl | rfl:k=6\/k=7:=by omega
   ·clear hk h6;go_wp2_with fail
    refine bodyPost_ret (results_cell_row rfl _ _ w.heap.size 106 #[.int .i64 1,.string ⟨#[]⟩,.string ⟨#[]⟩,.slice none 0 0] (0,0) _ rfl (y.out.set4 _ _ _ _) Tryz.underlying106 rfl (by kernel_rfl)) rfl ?_;exact⟨.mk 1 ⟨#[]⟩ ⟨#[]⟩ [],.slice none 0 0,rfl,ok!.leaf (.inl rfl) _,by have:=aM.out;have:=(show ol! own (.mk 1 ⟨#[]⟩ ⟨#[]⟩ [])from .inl rfl).k;omega,RTAt.leaf' _ _ rfl,H.out.set4 y.out.lt (by have:=am.out;omega) _ _ _ _,J.out.set4 (fun h=>Nat.lt_irrefl _ h.1) _ _ _ _⟩
   ·clear hk h6;go_wp2_with fail
    refine bodyPost_ret (results_cell_row rfl _ _ w.heap.size 106 #[.int .i64 1,.string ⟨#[]⟩,.string ⟨#[]⟩,.slice none 0 0] (0,0) _ rfl (y.out.set4 _ _ _ _) Tryz.underlying106 rfl (by kernel_rfl)) rfl ?_;exact⟨.mk 1 ⟨#[]⟩ ⟨#[]⟩ [],.slice none 0 0,rfl,ok!.leaf (.inl rfl) _,by have:=aM.out;have:=(show ol! own (.mk 1 ⟨#[]⟩ ⟨#[]⟩ [])from .inl rfl).k;omega,RTAt.leaf' _ _ rfl,H.out.set4 y.out.lt (by have:=am.out;omega) _ _ _ _,J.out.set4 (fun h=>Nat.lt_irrefl _ h.1) _ _ _ _⟩
  | succ d =>
   have b8:=h! (ih d (Nat.lt_succ_self d));clear ih;have b7:(0:Int)<((d+1:Nat):Int):=by omega
   obtain rfl | rfl:k=6\/k=7:=by omega
   ·clear hk h6;by_cases hq:nt=4
    ·subst hq;go_wp2_with fail
     clear aZ aQ;obtain⟨wa,au⟩:=e! (w1.alloc (.cells #[.int .i64 4,.int .i64 5] 3));obtain⟨wb,av⟩:=e! (wa.alloc (.cells #[.int .i64 5,.string ⟨#[]⟩,.string ⟨#[]⟩,.slice none 0 0] 106));have ea:wa.heap.size=w1.heap.size+1:=by rw[au];simp
     have xa:Ext w1 wa:=xa! au
     have xb:Ext wa wb:=xa! av
     have an:=h! (show Blk wb (w1.heap.size+1) #[.int .i64 5,.string ⟨#[]⟩,.string ⟨#[]⟩,.slice none 0 0] 106 from by rw[av,<-ea];exact Blk.made _ _ _);have a1:=h! (H.out.ext (xa.trans xb));have ad:=h! (KT.trans J.out (KT.of (xa.trans xb)));have ab:=h! (y.out.below (xa.trans xb));have C:=h! (af! tp 2 wb a1.out (by decide) (by decide));rw[<-ea]at an;generalize wa.heap.size=rp at *;rw[<-ea];have f:=h! (show w.heap.size<rp/\tp<w.heap.size from⟨by have:=aL.out;omega,am.out⟩);have a7:Hid (MkI own d 5 rp wb [] (.slice none 0 0)):=h! ⟨an.out,Own.nil _ _ _ _,by simp,by simp⟩;subst av au;clear ea xa xb an H J y aL;refine C.out.mono ?_;clear C;rintro e w2 ⟨k3,rfl,aY,A,i⟩;have ac:=h! (a7.out.keep i (by have:=f.out;omega));have I:=h! (i.blk ab.out (by have:=f.out;omega));have Y:=h! (KT.trans ad.out i);have Z:=h! A;clear a7 ab ad a1 A i;have aX:IntKind.i64.wrap (2+(k3:Int))=((2+k3:Nat):Int):=by rw[IntWalk.i64_in _ (by omega)];omega
     have hw3':wrap64 (2+(k3:Int))=((2+k3:Nat):Int):=by rw[aL! _ (by omega) (by omega)];omega
     go_wp2_with fail
     clear aX hw3';generalize hN:2+k3=N at *;have HN:Hid (N=2\/N=3):=h! (by omega);have b1:=h! hN;clear hN aY b7;go_loopw [12] (fun iv wr=>∃(n:Nat) (q:List (RT × Value)) (pv:Value),iv= .int .i64 n/\q.length+n=N/\MkI own d 5 rp wr q pv/\Blk wr w.heap.size #[.int .i64 0,.string ⟨#[]⟩,.string ⟨#[]⟩,.slice none 0 0] 106/\Tp wr tp/\KT tp w wr) (fun iv _=>(intOf iv).toNat)
     case atStart=>exact⟨N,[],_,by rw[<-b1.out];simp,by simp,ac.out,I.out,Z.out,Y.out⟩
     case round =>
      obtain⟨n,q,pv,rfl,aD,hm,V,af,aw⟩:=hrel;have a0:=h! aD;have E:=h! hm;have U:=h! V;have a8:=h! af;have a4:=h! aw;clear aD ac I Z Y;by_cases hn:n=0
      ·subst hn;obtain⟨v,kv,cv,rfl,-,-,-⟩:=hm.row.sl.len;have ay:=hm.box.cells;have aR:=V.cells;have aV:=V.free;clear hm V af aw;go_wp2_with fail
       clear ay aR aV;refine bodyPost_ret (results_cell_row rfl _ _ w.heap.size 106 #[.int .i64 5,.string ⟨#[]⟩,.string ⟨#[]⟩,.slice v kv cv] (0,0) _ rfl (U.out.set4 _ _ _ _) Tryz.underlying106 rfl (by kernel_rfl)) rfl ?_;have ah:Kept (fun b=>b≠w.heap.size) wr _:=(Kept.refl _ wr).set4 (B:=w.heap.size) (fun h=>h rfl) (.int .i64 5) (.string ⟨#[]⟩) (.string ⟨#[]⟩) (.slice v kv cv);refine⟨.mk 5 ⟨#[]⟩ ⟨#[]⟩ (q.map (·.1)),.slice v kv cv,rfl,.inr ⟨5,q.map (·.1),rfl,by decide,by have:=a0.out;have:=HN.out;rw[x1!];omega,fun p hp=>?_⟩,(by show(5:Int)≠4;decide),(RTAt.iff _ _).2 ⟨q,rfl,fun x hx=>?_,?_⟩,a8.out.set4 U.out.lt (by have:=f.out;omega) _ _ _ _,a4.out.set4 (fun h=>Nat.lt_irrefl _ h.1) _ _ _ _⟩
       ·obtain⟨x,hx,rfl⟩:=u6!.1 hp;exact E.out.good x hx
       ·exact((E.out.parts x hx).same fun b hb=>ah.block b (by have:=hb.1.1;have:=f.out;show b≠w.heap.size;omega)).mono fun b hb=>⟨by have:=hb.1.1;have:=f.out;omega,n1! hb.1.2 ah.size⟩
       ·exact(E.out.row.sl.same fun b hb=>ah.block b (by have:=hb.1;have:=f.out;show b≠w.heap.size;omega)).mono fun b hb=>⟨by have:=hb.1;have:=f.out;omega,n1! hb.2 ah.size⟩
      ·have aG:=h! hn;have be:(0:Int)<(n:Int):=by omega
       have ag:=h! (fun g (e:pv.ownBlock=some g)=>hm.row.block g e);obtain⟨v,kv,cv,rfl,-,-,-⟩:=hm.row.sl.len;have ay:=hm.box.cells 3;clear hm V af aw hn;go_wp2_with fail
       obtain⟨wd,X⟩:=e! wr.drew;have hE:Ext wr wd:=by rw[X];exact Ext.drew wr
       have a2:=h! (a8.out.ext hE);have z:=h! (KT.trans a4.out (KT.of hE));have a3:=h! (U.out.below hE);have M:=h! (E.out.keep (KT.of (tp:=tp) hE) (by have:=f.out;omega));have t:Hid (rp<wd.heap.size/\wr.heap.size<=wd.heap.size):=h! ⟨M.out.box.lt,hE.size⟩
       have hA:∀W,Kept (fun b=>b<wd.heap.size/\b≠tp/\Value.ownBlock (.slice v kv cv)≠some b) wd W->W.cell? ⟨rp,3,none⟩=some (.slice v kv cv):=fun W hW =>
        (World.cell?_of_block (a:=⟨rp,3,none⟩) (hW.block rp ⟨t.out.1,by have:=f.out;omega,fun e=>by have:=(ag.out rp e).1;omega⟩)).trans (M.out.box.cells 3)
       have bd:IntKind.i64.wrap ((d:Int)+1-1)=(d:Int):=by rw[Int.add_sub_cancel];exact IntWalk.i64_in _ (by have:=HD.out;omega)
       have hdw':IntKind.i64.wrap (d:Int)=(d:Int):=IntWalk.i64_in _ (by have:=HD.out;omega);have G:=h! (b8.out 5 tp (.slice ao own.length c) wd a2.out ((aP.out.same fun b hb=>z.out.block b hb).mono fun b hb=>⟨n1! hb.1 z.out.size,hb.2⟩) (by have:=HD.out;omega) (by decide));refine ah! 11 (Kept (fun b=>b<wd.heap.size/\b≠tp/\Value.ownBlock (.slice v kv cv)≠some b) wd) (by rw[<-X];exact Kept.refl _ _) (by kernel_rfl) (by kernel_rfl) (fun _ _ d _ _ h=>by cases d <;> exact h) ?_;rw[<-X];clear X hE ay;(refine WalkL.tk [0,1,2,3,4,5,6] ?_;(iterate 7 (refine l! ?_));refine TkL.n ?_)
       refine oL! 7 ?_;refine b! ?_;intro K hK;go_simp;refine G.out.mono ?_;rintro e w5 ⟨r5,v5,rfl,aE,aF,Q,a5,o⟩;have s:Kept (fun b=>b<wd.heap.size/\b≠tp/\Value.ownBlock (.slice v kv cv)≠some b) wd w5:=Kept.mono o fun b hb=>⟨hb.1,hb.2.1⟩;refine hK.out _ _ s ?_;obtain⟨aj,c5,rfl,-,-,-⟩:=Q.rows;have T:=h! (M.out.keep o (by have:=f.out;omega));have ar:=h! a5;have aB:=h! (KT.trans z.out o);have aA:=h! (o.blk a3.out (by have:=f.out;omega));have H5:=h! (And.intro aE (And.intro aF Q));have ap:=h! o.size;clear hK aE aF Q a5 o G;unfold rV;refine oL! 8 ?_;refine b! ?_;intro K hK;go_simp;have F:=Ext.alloc w5 (.cells #[.int .i64 r5.k,.string r5.a,.string r5.b,.slice aj r5.ps.length c5] 106);have a6:=s.trans (Kept.mono (KT.of (tp:=tp) F) fun b (hb:b<wd.heap.size/\b≠tp/\_)=>⟨n1! hb.1 s.size,hb.2.1⟩);refine hK.out _ _ a6 ?_;clear hK;refine oL! 9 ?_;refine b! ?_;intro K hK;refine aP! ruleT (.tmp 41) (.tmp 48) rfl rfl (T.out.row.below F) rfl (m:=1) (news:=[.int .i64 r5.k,.string r5.a,.string r5.b,.slice aj r5.ps.length c5]) rfl (fun j u hu=>?_) (by simp[Value.oneCell']) (by have:=a0.out;have:=HN.out;rw[ac! aO!];simp;omega) (by have:=a0.out;have:=HN.out;rw[ac! aO!];simp;omega) (by have:=t.out;have:=ap.out;simp;omega) (fun v7 w7 hown7 hb7 hgr7=>?_)
       ·rw[Addr.add_lit,cell_of_row _ w5.heap.size (0+j) #[.int .i64 r5.k,.string r5.a,.string r5.b,.slice aj r5.ps.length c5] 106 (0,0) (heap_alloc_new w5 _)];simpa using hu
       have D:∀b,b<w5.heap.size->Value.ownBlock (.slice v kv cv)≠some b->w7.heap[b]?=w5.heap[b]?:=fun b h1 h2=>(hgr7.block b (by simp;omega) (fun e=>h2 e.symm)).trans (F.block b h1);have R:w5.heap.size<=w7.heap.size:=n6! F.size hgr7.size;have a9:∀g,v7.ownBlock=some g->Value.ownBlock (.slice v kv cv)=some g\/w5.heap.size<=g:=fun g hg=>(hb7 g hg).imp id (fun h=>by simp at h;omega);have hk57':Kept (fun b=>b<w5.heap.size/\Value.ownBlock (.slice v kv cv)≠some b) w5 w7:=⟨hgr7.os.trans F.os,hgr7.tape.trans F.tape,hgr7.output.trans F.output,R,fun b hb=>D b hb.1 hb.2⟩;have ae:=s.trans (hk57'.mono fun b (hb:b<wd.heap.size/\b≠tp/\_)=>⟨n1! hb.1 s.size,hb.2.2⟩);refine hK.out _ _ ae ?_;clear hK hA;simp only[Act.put,pA,pZ,pS];have ax:=h! (T.out.add (n0:=wd.heap.size) (r:=r5) (v5 := .slice aj r5.ps.length c5) D R hown7 a9 H5.out.2.2 t.out.1 (fun g hg=>n1! (ag.out g hg).2 t.out.2) ⟨H5.out.1,H5.out.2.1⟩);have O:=h! (show Kept (fun b=>b<rp) w5 (w7.setCell ⟨rp,3,none⟩ v7)from(hk57'.mono fun b (hb:b<rp)=>⟨by have:=t.out;have:=ap.out;omega,fun e=>by have:=(ag.out b e).1;omega⟩).set (fun h=>Nat.lt_irrefl _ h) _);have L:Blk w7 rp #[.int .i64 5,.string ⟨#[]⟩,.string ⟨#[]⟩,.slice v kv cv] 106:=(D rp (by have:=t.out;have:=ap.out;omega) (fun e=>by have:=(ag.out rp e).1;omega)).trans T.out.box;obtain⟨aS,k7,c7,rfl,-,-,-⟩:=hown7.sl.len;have f7:=L.free;have g7:=L.cells 3;have bb:IntKind.i64.wrap ((n:Int)-1)=((n-1:Nat):Int):=by rw[IntWalk.i64_in _ (by have:=a0.out;have:=HN.out;omega)];omega
       have hdn':wrap64 ((n:Int)-1)=((n-1:Nat):Int):=by rw[aL! _ (by omega) (by have:=a0.out;have:=HN.out;omega)];omega
       clear s a6 D R a9 hk57' hown7 hb7 hgr7 L F;((refine WalkL.take 10 _ ?_ (by simp only[gA,gS,gZ];rfl) (by kernel_rfl) (by kernel_rfl) (by kernel_rfl) (by rfl) (fun W hW=>?_) ?_;rotate_left;· (go_simp;try with_reducible rfl));simp only[Act.put,pA,pZ,pS])
       refine WalkL.last (by kernel_rfl) (by kernel_rfl) ?_;refine b! ?_;intro K hK;go_simp;refine hK.out _ _ ?_;clear hK ae f7 g7;generalize w7.setCell ⟨rp,3,none⟩ (.slice aS k7 c7)=w8 at *;go_wp2_with fail
       go_roundw
       case rel=>exact⟨n-1,_,_,rfl,by have:=a0.out;have:=aG.out;rw[u4!];simp only[u7!,v6!];omega,ax.out,O.out.blk aA.out (by have:=f.out;show w.heap.size<rp;omega),ar.out.kept O.out (fun b hb=>by have:=f.out;show b<rp;omega),Kept.trans aB.out (O.out.mono fun b (hb:b<w.heap.size/\b≠tp)=>by have:=f.out;have:=hb.1;show b<rp;omega)⟩
       case measure=>have:=aG.out;simp[intOf];omega
    ·have bn:((4:Int) == nt)=false:=by rw[n7!];omega
     have HQ:=h! hq;clear hq;go_wp2_with fail
     clear aZ aQ;obtain⟨wa,au⟩:=e! (w1.alloc (.cells #[.int .i64 4,.int .i64 5] 3));obtain⟨wb,av⟩:=e! (wa.alloc (.cells #[.int .i64 4,.string ⟨#[]⟩,.string ⟨#[]⟩,.slice none 0 0] 106));have ea:wa.heap.size=w1.heap.size+1:=by rw[au];simp
     have xa:Ext w1 wa:=xa! au
     have xb:Ext wa wb:=xa! av
     have an:=h! (show Blk wb (w1.heap.size+1) #[.int .i64 4,.string ⟨#[]⟩,.string ⟨#[]⟩,.slice none 0 0] 106 from by rw[av,<-ea];exact Blk.made _ _ _);have a1:=h! (H.out.ext (xa.trans xb));have ad:=h! (KT.trans J.out (KT.of (xa.trans xb)));have ab:=h! (y.out.below (xa.trans xb));have C:=h! (af! tp 2 wb a1.out (by decide) (by decide));rw[<-ea]at an;generalize wa.heap.size=rp at *;rw[<-ea];have f:=h! (show w.heap.size<rp/\tp<w.heap.size from⟨by have:=aL.out;omega,am.out⟩);have a7:Hid (MkI own d 4 rp wb [] (.slice none 0 0)):=h! ⟨an.out,Own.nil _ _ _ _,by simp,by simp⟩;subst av au;clear ea xa xb an H J y aL;refine C.out.mono ?_;clear C;rintro e w2 ⟨k3,rfl,aY,A,i⟩;have ac:=h! (a7.out.keep i (by have:=f.out;omega));have I:=h! (i.blk ab.out (by have:=f.out;omega));have Y:=h! (KT.trans ad.out i);have Z:=h! A;clear a7 ab ad a1 A i;have aX:IntKind.i64.wrap (2+(k3:Int))=((2+k3:Nat):Int):=by rw[IntWalk.i64_in _ (by omega)];omega
     have hw3':wrap64 (2+(k3:Int))=((2+k3:Nat):Int):=by rw[aL! _ (by omega) (by omega)];omega
     go_wp2_with fail
     clear aX hw3';generalize hN:2+k3=N at *;have HN:Hid (N=2\/N=3):=h! (by omega);have b1:=h! hN;clear hN aY b7;go_loopw [12] (fun iv wr=>∃(n:Nat) (q:List (RT × Value)) (pv:Value),iv= .int .i64 n/\q.length+n=N/\MkI own d 4 rp wr q pv/\Blk wr w.heap.size #[.int .i64 0,.string ⟨#[]⟩,.string ⟨#[]⟩,.slice none 0 0] 106/\Tp wr tp/\KT tp w wr) (fun iv _=>(intOf iv).toNat)
     case atStart=>exact⟨N,[],_,by rw[<-b1.out];simp,by simp,ac.out,I.out,Z.out,Y.out⟩
     case round =>
      obtain⟨n,q,pv,rfl,aD,hm,V,af,aw⟩:=hrel;have a0:=h! aD;have E:=h! hm;have U:=h! V;have a8:=h! af;have a4:=h! aw;clear aD ac I Z Y;by_cases hn:n=0
      ·subst hn;obtain⟨v,kv,cv,rfl,-,-,-⟩:=hm.row.sl.len;have ay:=hm.box.cells;have aR:=V.cells;have aV:=V.free;clear hm V af aw;go_wp2_with fail
       clear ay aR aV;refine bodyPost_ret (results_cell_row rfl _ _ w.heap.size 106 #[.int .i64 4,.string ⟨#[]⟩,.string ⟨#[]⟩,.slice v kv cv] (0,0) _ rfl (U.out.set4 _ _ _ _) Tryz.underlying106 rfl (by kernel_rfl)) rfl ?_;have ah:Kept (fun b=>b≠w.heap.size) wr _:=(Kept.refl _ wr).set4 (B:=w.heap.size) (fun h=>h rfl) (.int .i64 4) (.string ⟨#[]⟩) (.string ⟨#[]⟩) (.slice v kv cv);refine⟨.mk 4 ⟨#[]⟩ ⟨#[]⟩ (q.map (·.1)),.slice v kv cv,rfl,.inr ⟨4,q.map (·.1),rfl,by decide,by have:=a0.out;have:=HN.out;rw[x1!];omega,fun p hp=>?_⟩,(fun e=>HQ.out e.symm),(RTAt.iff _ _).2 ⟨q,rfl,fun x hx=>?_,?_⟩,a8.out.set4 U.out.lt (by have:=f.out;omega) _ _ _ _,a4.out.set4 (fun h=>Nat.lt_irrefl _ h.1) _ _ _ _⟩
       ·obtain⟨x,hx,rfl⟩:=u6!.1 hp;exact E.out.good x hx
       ·exact((E.out.parts x hx).same fun b hb=>ah.block b (by have:=hb.1.1;have:=f.out;show b≠w.heap.size;omega)).mono fun b hb=>⟨by have:=hb.1.1;have:=f.out;omega,n1! hb.1.2 ah.size⟩
       ·exact(E.out.row.sl.same fun b hb=>ah.block b (by have:=hb.1;have:=f.out;show b≠w.heap.size;omega)).mono fun b hb=>⟨by have:=hb.1;have:=f.out;omega,n1! hb.2 ah.size⟩
      ·have aG:=h! hn;have be:(0:Int)<(n:Int):=by omega
       have ag:=h! (fun g (e:pv.ownBlock=some g)=>hm.row.block g e);obtain⟨v,kv,cv,rfl,-,-,-⟩:=hm.row.sl.len;have ay:=hm.box.cells 3;clear hm V af aw hn;go_wp2_with fail
       obtain⟨wd,X⟩:=e! wr.drew;have hE:Ext wr wd:=by rw[X];exact Ext.drew wr
       have a2:=h! (a8.out.ext hE);have z:=h! (KT.trans a4.out (KT.of hE));have a3:=h! (U.out.below hE);have M:=h! (E.out.keep (KT.of (tp:=tp) hE) (by have:=f.out;omega));have t:Hid (rp<wd.heap.size/\wr.heap.size<=wd.heap.size):=h! ⟨M.out.box.lt,hE.size⟩
       have hA:∀W,Kept (fun b=>b<wd.heap.size/\b≠tp/\Value.ownBlock (.slice v kv cv)≠some b) wd W->W.cell? ⟨rp,3,none⟩=some (.slice v kv cv):=fun W hW =>
        (World.cell?_of_block (a:=⟨rp,3,none⟩) (hW.block rp ⟨t.out.1,by have:=f.out;omega,fun e=>by have:=(ag.out rp e).1;omega⟩)).trans (M.out.box.cells 3)
       have bd:IntKind.i64.wrap ((d:Int)+1-1)=(d:Int):=by rw[Int.add_sub_cancel];exact IntWalk.i64_in _ (by have:=HD.out;omega)
       have hdw':IntKind.i64.wrap (d:Int)=(d:Int):=IntWalk.i64_in _ (by have:=HD.out;omega);have G:=h! (b8.out 4 tp (.slice ao own.length c) wd a2.out ((aP.out.same fun b hb=>z.out.block b hb).mono fun b hb=>⟨n1! hb.1 z.out.size,hb.2⟩) (by have:=HD.out;omega) (by decide));refine ah! 11 (Kept (fun b=>b<wd.heap.size/\b≠tp/\Value.ownBlock (.slice v kv cv)≠some b) wd) (by rw[<-X];exact Kept.refl _ _) (by kernel_rfl) (by kernel_rfl) (fun _ _ d _ _ h=>by cases d <;> exact h) ?_;rw[<-X];clear X hE ay;(refine WalkL.tk [0,1,2,3,4,5,6] ?_;(iterate 7 (refine l! ?_));refine TkL.n ?_)
       refine oL! 7 ?_;refine b! ?_;intro K hK;go_simp;refine G.out.mono ?_;rintro e w5 ⟨r5,v5,rfl,aE,aF,Q,a5,o⟩;have s:Kept (fun b=>b<wd.heap.size/\b≠tp/\Value.ownBlock (.slice v kv cv)≠some b) wd w5:=Kept.mono o fun b hb=>⟨hb.1,hb.2.1⟩;refine hK.out _ _ s ?_;obtain⟨aj,c5,rfl,-,-,-⟩:=Q.rows;have T:=h! (M.out.keep o (by have:=f.out;omega));have ar:=h! a5;have aB:=h! (KT.trans z.out o);have aA:=h! (o.blk a3.out (by have:=f.out;omega));have H5:=h! (And.intro aE (And.intro aF Q));have ap:=h! o.size;clear hK aE aF Q a5 o G;unfold rV;refine oL! 8 ?_;refine b! ?_;intro K hK;go_simp;have F:=Ext.alloc w5 (.cells #[.int .i64 r5.k,.string r5.a,.string r5.b,.slice aj r5.ps.length c5] 106);have a6:=s.trans (Kept.mono (KT.of (tp:=tp) F) fun b (hb:b<wd.heap.size/\b≠tp/\_)=>⟨n1! hb.1 s.size,hb.2.1⟩);refine hK.out _ _ a6 ?_;clear hK;refine oL! 9 ?_;refine b! ?_;intro K hK;refine aP! ruleT (.tmp 41) (.tmp 48) rfl rfl (T.out.row.below F) rfl (m:=1) (news:=[.int .i64 r5.k,.string r5.a,.string r5.b,.slice aj r5.ps.length c5]) rfl (fun j u hu=>?_) (by simp[Value.oneCell']) (by have:=a0.out;have:=HN.out;rw[ac! aO!];simp;omega) (by have:=a0.out;have:=HN.out;rw[ac! aO!];simp;omega) (by have:=t.out;have:=ap.out;simp;omega) (fun v7 w7 hown7 hb7 hgr7=>?_)
       ·rw[Addr.add_lit,cell_of_row _ w5.heap.size (0+j) #[.int .i64 r5.k,.string r5.a,.string r5.b,.slice aj r5.ps.length c5] 106 (0,0) (heap_alloc_new w5 _)];simpa using hu
       have D:∀b,b<w5.heap.size->Value.ownBlock (.slice v kv cv)≠some b->w7.heap[b]?=w5.heap[b]?:=fun b h1 h2=>(hgr7.block b (by simp;omega) (fun e=>h2 e.symm)).trans (F.block b h1);have R:w5.heap.size<=w7.heap.size:=n6! F.size hgr7.size;have a9:∀g,v7.ownBlock=some g->Value.ownBlock (.slice v kv cv)=some g\/w5.heap.size<=g:=fun g hg=>(hb7 g hg).imp id (fun h=>by simp at h;omega);have hk57':Kept (fun b=>b<w5.heap.size/\Value.ownBlock (.slice v kv cv)≠some b) w5 w7:=⟨hgr7.os.trans F.os,hgr7.tape.trans F.tape,hgr7.output.trans F.output,R,fun b hb=>D b hb.1 hb.2⟩;have ae:=s.trans (hk57'.mono fun b (hb:b<wd.heap.size/\b≠tp/\_)=>⟨n1! hb.1 s.size,hb.2.2⟩);refine hK.out _ _ ae ?_;clear hK hA;simp only[Act.put,pA,pZ,pS];have ax:=h! (T.out.add (n0:=wd.heap.size) (r:=r5) (v5 := .slice aj r5.ps.length c5) D R hown7 a9 H5.out.2.2 t.out.1 (fun g hg=>n1! (ag.out g hg).2 t.out.2) ⟨H5.out.1,H5.out.2.1⟩);have O:=h! (show Kept (fun b=>b<rp) w5 (w7.setCell ⟨rp,3,none⟩ v7)from(hk57'.mono fun b (hb:b<rp)=>⟨by have:=t.out;have:=ap.out;omega,fun e=>by have:=(ag.out b e).1;omega⟩).set (fun h=>Nat.lt_irrefl _ h) _);have L:Blk w7 rp #[.int .i64 4,.string ⟨#[]⟩,.string ⟨#[]⟩,.slice v kv cv] 106:=(D rp (by have:=t.out;have:=ap.out;omega) (fun e=>by have:=(ag.out rp e).1;omega)).trans T.out.box;obtain⟨aS,k7,c7,rfl,-,-,-⟩:=hown7.sl.len;have f7:=L.free;have g7:=L.cells 3;have bb:IntKind.i64.wrap ((n:Int)-1)=((n-1:Nat):Int):=by rw[IntWalk.i64_in _ (by have:=a0.out;have:=HN.out;omega)];omega
       have hdn':wrap64 ((n:Int)-1)=((n-1:Nat):Int):=by rw[aL! _ (by omega) (by have:=a0.out;have:=HN.out;omega)];omega
       clear s a6 D R a9 hk57' hown7 hb7 hgr7 L F;((refine WalkL.take 10 _ ?_ (by simp only[gA,gS,gZ];rfl) (by kernel_rfl) (by kernel_rfl) (by kernel_rfl) (by rfl) (fun W hW=>?_) ?_;rotate_left;· (go_simp;try with_reducible rfl));simp only[Act.put,pA,pZ,pS])
       refine WalkL.last (by kernel_rfl) (by kernel_rfl) ?_;refine b! ?_;intro K hK;go_simp;refine hK.out _ _ ?_;clear hK ae f7 g7;generalize w7.setCell ⟨rp,3,none⟩ (.slice aS k7 c7)=w8 at *;go_wp2_with fail
       go_roundw
       case rel=>exact⟨n-1,_,_,rfl,by have:=a0.out;have:=aG.out;rw[u4!];simp only[u7!,v6!];omega,ax.out,O.out.blk aA.out (by have:=f.out;show w.heap.size<rp;omega),ar.out.kept O.out (fun b hb=>by have:=f.out;show b<rp;omega),Kept.trans aB.out (O.out.mono fun b (hb:b<w.heap.size/\b≠tp)=>by have:=f.out;have:=hb.1;show b<rp;omega)⟩
       case measure=>have:=aG.out;simp[intOf];omega
   ·clear hk h6;by_cases hq:nt=5
    ·subst hq;go_wp2_with fail
     clear aZ aQ;obtain⟨wa,au⟩:=e! (w1.alloc (.cells #[.int .i64 4,.int .i64 5] 3));obtain⟨wb,av⟩:=e! (wa.alloc (.cells #[.int .i64 4,.string ⟨#[]⟩,.string ⟨#[]⟩,.slice none 0 0] 106));have ea:wa.heap.size=w1.heap.size+1:=by rw[au];simp
     have xa:Ext w1 wa:=xa! au
     have xb:Ext wa wb:=xa! av
     have an:=h! (show Blk wb (w1.heap.size+1) #[.int .i64 4,.string ⟨#[]⟩,.string ⟨#[]⟩,.slice none 0 0] 106 from by rw[av,<-ea];exact Blk.made _ _ _);have a1:=h! (H.out.ext (xa.trans xb));have ad:=h! (KT.trans J.out (KT.of (xa.trans xb)));have ab:=h! (y.out.below (xa.trans xb));have C:=h! (af! tp 2 wb a1.out (by decide) (by decide));rw[<-ea]at an;generalize wa.heap.size=rp at *;rw[<-ea];have f:=h! (show w.heap.size<rp/\tp<w.heap.size from⟨by have:=aL.out;omega,am.out⟩);have a7:Hid (MkI own d 4 rp wb [] (.slice none 0 0)):=h! ⟨an.out,Own.nil _ _ _ _,by simp,by simp⟩;subst av au;clear ea xa xb an H J y aL;refine C.out.mono ?_;clear C;rintro e w2 ⟨k3,rfl,aY,A,i⟩;have ac:=h! (a7.out.keep i (by have:=f.out;omega));have I:=h! (i.blk ab.out (by have:=f.out;omega));have Y:=h! (KT.trans ad.out i);have Z:=h! A;clear a7 ab ad a1 A i;have aX:IntKind.i64.wrap (2+(k3:Int))=((2+k3:Nat):Int):=by rw[IntWalk.i64_in _ (by omega)];omega
     have hw3':wrap64 (2+(k3:Int))=((2+k3:Nat):Int):=by rw[aL! _ (by omega) (by omega)];omega
     go_wp2_with fail
     clear aX hw3';generalize hN:2+k3=N at *;have HN:Hid (N=2\/N=3):=h! (by omega);have b1:=h! hN;clear hN aY b7;go_loopw [12] (fun iv wr=>∃(n:Nat) (q:List (RT × Value)) (pv:Value),iv= .int .i64 n/\q.length+n=N/\MkI own d 4 rp wr q pv/\Blk wr w.heap.size #[.int .i64 0,.string ⟨#[]⟩,.string ⟨#[]⟩,.slice none 0 0] 106/\Tp wr tp/\KT tp w wr) (fun iv _=>(intOf iv).toNat)
     case atStart=>exact⟨N,[],_,by rw[<-b1.out];simp,by simp,ac.out,I.out,Z.out,Y.out⟩
     case round =>
      obtain⟨n,q,pv,rfl,aD,hm,V,af,aw⟩:=hrel;have a0:=h! aD;have E:=h! hm;have U:=h! V;have a8:=h! af;have a4:=h! aw;clear aD ac I Z Y;by_cases hn:n=0
      ·subst hn;obtain⟨v,kv,cv,rfl,-,-,-⟩:=hm.row.sl.len;have ay:=hm.box.cells;have aR:=V.cells;have aV:=V.free;clear hm V af aw;go_wp2_with fail
       clear ay aR aV;refine bodyPost_ret (results_cell_row rfl _ _ w.heap.size 106 #[.int .i64 4,.string ⟨#[]⟩,.string ⟨#[]⟩,.slice v kv cv] (0,0) _ rfl (U.out.set4 _ _ _ _) Tryz.underlying106 rfl (by kernel_rfl)) rfl ?_;have ah:Kept (fun b=>b≠w.heap.size) wr _:=(Kept.refl _ wr).set4 (B:=w.heap.size) (fun h=>h rfl) (.int .i64 4) (.string ⟨#[]⟩) (.string ⟨#[]⟩) (.slice v kv cv);refine⟨.mk 4 ⟨#[]⟩ ⟨#[]⟩ (q.map (·.1)),.slice v kv cv,rfl,.inr ⟨4,q.map (·.1),rfl,by decide,by have:=a0.out;have:=HN.out;rw[x1!];omega,fun p hp=>?_⟩,(by show(4:Int)≠5;decide),(RTAt.iff _ _).2 ⟨q,rfl,fun x hx=>?_,?_⟩,a8.out.set4 U.out.lt (by have:=f.out;omega) _ _ _ _,a4.out.set4 (fun h=>Nat.lt_irrefl _ h.1) _ _ _ _⟩
       ·obtain⟨x,hx,rfl⟩:=u6!.1 hp;exact E.out.good x hx
       ·exact((E.out.parts x hx).same fun b hb=>ah.block b (by have:=hb.1.1;have:=f.out;show b≠w.heap.size;omega)).mono fun b hb=>⟨by have:=hb.1.1;have:=f.out;omega,n1! hb.1.2 ah.size⟩
       ·exact(E.out.row.sl.same fun b hb=>ah.block b (by have:=hb.1;have:=f.out;show b≠w.heap.size;omega)).mono fun b hb=>⟨by have:=hb.1;have:=f.out;omega,n1! hb.2 ah.size⟩
      ·have aG:=h! hn;have be:(0:Int)<(n:Int):=by omega
       have ag:=h! (fun g (e:pv.ownBlock=some g)=>hm.row.block g e);obtain⟨v,kv,cv,rfl,-,-,-⟩:=hm.row.sl.len;have ay:=hm.box.cells 3;clear hm V af aw hn;go_wp2_with fail
       obtain⟨wd,X⟩:=e! wr.drew;have hE:Ext wr wd:=by rw[X];exact Ext.drew wr
       have a2:=h! (a8.out.ext hE);have z:=h! (KT.trans a4.out (KT.of hE));have a3:=h! (U.out.below hE);have M:=h! (E.out.keep (KT.of (tp:=tp) hE) (by have:=f.out;omega));have t:Hid (rp<wd.heap.size/\wr.heap.size<=wd.heap.size):=h! ⟨M.out.box.lt,hE.size⟩
       have hA:∀W,Kept (fun b=>b<wd.heap.size/\b≠tp/\Value.ownBlock (.slice v kv cv)≠some b) wd W->W.cell? ⟨rp,3,none⟩=some (.slice v kv cv):=fun W hW =>
        (World.cell?_of_block (a:=⟨rp,3,none⟩) (hW.block rp ⟨t.out.1,by have:=f.out;omega,fun e=>by have:=(ag.out rp e).1;omega⟩)).trans (M.out.box.cells 3)
       have bd:IntKind.i64.wrap ((d:Int)+1-1)=(d:Int):=by rw[Int.add_sub_cancel];exact IntWalk.i64_in _ (by have:=HD.out;omega)
       have hdw':IntKind.i64.wrap (d:Int)=(d:Int):=IntWalk.i64_in _ (by have:=HD.out;omega);have G:=h! (b8.out 4 tp (.slice ao own.length c) wd a2.out ((aP.out.same fun b hb=>z.out.block b hb).mono fun b hb=>⟨n1! hb.1 z.out.size,hb.2⟩) (by have:=HD.out;omega) (by decide));refine ah! 11 (Kept (fun b=>b<wd.heap.size/\b≠tp/\Value.ownBlock (.slice v kv cv)≠some b) wd) (by rw[<-X];exact Kept.refl _ _) (by kernel_rfl) (by kernel_rfl) (fun _ _ d _ _ h=>by cases d <;> exact h) ?_;rw[<-X];clear X hE ay;(refine WalkL.tk [0,1,2,3,4,5,6] ?_;(iterate 7 (refine l! ?_));refine TkL.n ?_)
       refine oL! 7 ?_;refine b! ?_;intro K hK;go_simp;refine G.out.mono ?_;rintro e w5 ⟨r5,v5,rfl,aE,aF,Q,a5,o⟩;have s:Kept (fun b=>b<wd.heap.size/\b≠tp/\Value.ownBlock (.slice v kv cv)≠some b) wd w5:=Kept.mono o fun b hb=>⟨hb.1,hb.2.1⟩;refine hK.out _ _ s ?_;obtain⟨aj,c5,rfl,-,-,-⟩:=Q.rows;have T:=h! (M.out.keep o (by have:=f.out;omega));have ar:=h! a5;have aB:=h! (KT.trans z.out o);have aA:=h! (o.blk a3.out (by have:=f.out;omega));have H5:=h! (And.intro aE (And.intro aF Q));have ap:=h! o.size;clear hK aE aF Q a5 o G;unfold rV;refine oL! 8 ?_;refine b! ?_;intro K hK;go_simp;have F:=Ext.alloc w5 (.cells #[.int .i64 r5.k,.string r5.a,.string r5.b,.slice aj r5.ps.length c5] 106);have a6:=s.trans (Kept.mono (KT.of (tp:=tp) F) fun b (hb:b<wd.heap.size/\b≠tp/\_)=>⟨n1! hb.1 s.size,hb.2.1⟩);refine hK.out _ _ a6 ?_;clear hK;refine oL! 9 ?_;refine b! ?_;intro K hK;refine aP! ruleT (.tmp 41) (.tmp 48) rfl rfl (T.out.row.below F) rfl (m:=1) (news:=[.int .i64 r5.k,.string r5.a,.string r5.b,.slice aj r5.ps.length c5]) rfl (fun j u hu=>?_) (by simp[Value.oneCell']) (by have:=a0.out;have:=HN.out;rw[ac! aO!];simp;omega) (by have:=a0.out;have:=HN.out;rw[ac! aO!];simp;omega) (by have:=t.out;have:=ap.out;simp;omega) (fun v7 w7 hown7 hb7 hgr7=>?_)
       ·rw[Addr.add_lit,cell_of_row _ w5.heap.size (0+j) #[.int .i64 r5.k,.string r5.a,.string r5.b,.slice aj r5.ps.length c5] 106 (0,0) (heap_alloc_new w5 _)];simpa using hu
       have D:∀b,b<w5.heap.size->Value.ownBlock (.slice v kv cv)≠some b->w7.heap[b]?=w5.heap[b]?:=fun b h1 h2=>(hgr7.block b (by simp;omega) (fun e=>h2 e.symm)).trans (F.block b h1);have R:w5.heap.size<=w7.heap.size:=n6! F.size hgr7.size;have a9:∀g,v7.ownBlock=some g->Value.ownBlock (.slice v kv cv)=some g\/w5.heap.size<=g:=fun g hg=>(hb7 g hg).imp id (fun h=>by simp at h;omega);have hk57':Kept (fun b=>b<w5.heap.size/\Value.ownBlock (.slice v kv cv)≠some b) w5 w7:=⟨hgr7.os.trans F.os,hgr7.tape.trans F.tape,hgr7.output.trans F.output,R,fun b hb=>D b hb.1 hb.2⟩;have ae:=s.trans (hk57'.mono fun b (hb:b<wd.heap.size/\b≠tp/\_)=>⟨n1! hb.1 s.size,hb.2.2⟩);refine hK.out _ _ ae ?_;clear hK hA;simp only[Act.put,pA,pZ,pS];have ax:=h! (T.out.add (n0:=wd.heap.size) (r:=r5) (v5 := .slice aj r5.ps.length c5) D R hown7 a9 H5.out.2.2 t.out.1 (fun g hg=>n1! (ag.out g hg).2 t.out.2) ⟨H5.out.1,H5.out.2.1⟩);have O:=h! (show Kept (fun b=>b<rp) w5 (w7.setCell ⟨rp,3,none⟩ v7)from(hk57'.mono fun b (hb:b<rp)=>⟨by have:=t.out;have:=ap.out;omega,fun e=>by have:=(ag.out b e).1;omega⟩).set (fun h=>Nat.lt_irrefl _ h) _);have L:Blk w7 rp #[.int .i64 4,.string ⟨#[]⟩,.string ⟨#[]⟩,.slice v kv cv] 106:=(D rp (by have:=t.out;have:=ap.out;omega) (fun e=>by have:=(ag.out rp e).1;omega)).trans T.out.box;obtain⟨aS,k7,c7,rfl,-,-,-⟩:=hown7.sl.len;have f7:=L.free;have g7:=L.cells 3;have bb:IntKind.i64.wrap ((n:Int)-1)=((n-1:Nat):Int):=by rw[IntWalk.i64_in _ (by have:=a0.out;have:=HN.out;omega)];omega
       have hdn':wrap64 ((n:Int)-1)=((n-1:Nat):Int):=by rw[aL! _ (by omega) (by have:=a0.out;have:=HN.out;omega)];omega
       clear s a6 D R a9 hk57' hown7 hb7 hgr7 L F;((refine WalkL.take 10 _ ?_ (by simp only[gA,gS,gZ];rfl) (by kernel_rfl) (by kernel_rfl) (by kernel_rfl) (by rfl) (fun W hW=>?_) ?_;rotate_left;· (go_simp;try with_reducible rfl));simp only[Act.put,pA,pZ,pS])
       refine WalkL.last (by kernel_rfl) (by kernel_rfl) ?_;refine b! ?_;intro K hK;go_simp;refine hK.out _ _ ?_;clear hK ae f7 g7;generalize w7.setCell ⟨rp,3,none⟩ (.slice aS k7 c7)=w8 at *;go_wp2_with fail
       go_roundw
       case rel=>exact⟨n-1,_,_,rfl,by have:=a0.out;have:=aG.out;rw[u4!];simp only[u7!,v6!];omega,ax.out,O.out.blk aA.out (by have:=f.out;show w.heap.size<rp;omega),ar.out.kept O.out (fun b hb=>by have:=f.out;show b<rp;omega),Kept.trans aB.out (O.out.mono fun b (hb:b<w.heap.size/\b≠tp)=>by have:=f.out;have:=hb.1;show b<rp;omega)⟩
       case measure=>have:=aG.out;simp[intOf];omega
    ·have bn:((5:Int) == nt)=false:=by rw[n7!];omega
     have HQ:=h! hq;clear hq;go_wp2_with fail
     clear aZ aQ;obtain⟨wa,au⟩:=e! (w1.alloc (.cells #[.int .i64 4,.int .i64 5] 3));obtain⟨wb,av⟩:=e! (wa.alloc (.cells #[.int .i64 5,.string ⟨#[]⟩,.string ⟨#[]⟩,.slice none 0 0] 106));have ea:wa.heap.size=w1.heap.size+1:=by rw[au];simp
     have xa:Ext w1 wa:=xa! au
     have xb:Ext wa wb:=xa! av
     have an:=h! (show Blk wb (w1.heap.size+1) #[.int .i64 5,.string ⟨#[]⟩,.string ⟨#[]⟩,.slice none 0 0] 106 from by rw[av,<-ea];exact Blk.made _ _ _);have a1:=h! (H.out.ext (xa.trans xb));have ad:=h! (KT.trans J.out (KT.of (xa.trans xb)));have ab:=h! (y.out.below (xa.trans xb));have C:=h! (af! tp 2 wb a1.out (by decide) (by decide));rw[<-ea]at an;generalize wa.heap.size=rp at *;rw[<-ea];have f:=h! (show w.heap.size<rp/\tp<w.heap.size from⟨by have:=aL.out;omega,am.out⟩);have a7:Hid (MkI own d 5 rp wb [] (.slice none 0 0)):=h! ⟨an.out,Own.nil _ _ _ _,by simp,by simp⟩;subst av au;clear ea xa xb an H J y aL;refine C.out.mono ?_;clear C;rintro e w2 ⟨k3,rfl,aY,A,i⟩;have ac:=h! (a7.out.keep i (by have:=f.out;omega));have I:=h! (i.blk ab.out (by have:=f.out;omega));have Y:=h! (KT.trans ad.out i);have Z:=h! A;clear a7 ab ad a1 A i;have aX:IntKind.i64.wrap (2+(k3:Int))=((2+k3:Nat):Int):=by rw[IntWalk.i64_in _ (by omega)];omega
     have hw3':wrap64 (2+(k3:Int))=((2+k3:Nat):Int):=by rw[aL! _ (by omega) (by omega)];omega
     go_wp2_with fail
     clear aX hw3';generalize hN:2+k3=N at *;have HN:Hid (N=2\/N=3):=h! (by omega);have b1:=h! hN;clear hN aY b7;go_loopw [12] (fun iv wr=>∃(n:Nat) (q:List (RT × Value)) (pv:Value),iv= .int .i64 n/\q.length+n=N/\MkI own d 5 rp wr q pv/\Blk wr w.heap.size #[.int .i64 0,.string ⟨#[]⟩,.string ⟨#[]⟩,.slice none 0 0] 106/\Tp wr tp/\KT tp w wr) (fun iv _=>(intOf iv).toNat)
     case atStart=>exact⟨N,[],_,by rw[<-b1.out];simp,by simp,ac.out,I.out,Z.out,Y.out⟩
     case round =>
      obtain⟨n,q,pv,rfl,aD,hm,V,af,aw⟩:=hrel;have a0:=h! aD;have E:=h! hm;have U:=h! V;have a8:=h! af;have a4:=h! aw;clear aD ac I Z Y;by_cases hn:n=0
      ·subst hn;obtain⟨v,kv,cv,rfl,-,-,-⟩:=hm.row.sl.len;have ay:=hm.box.cells;have aR:=V.cells;have aV:=V.free;clear hm V af aw;go_wp2_with fail
       clear ay aR aV;refine bodyPost_ret (results_cell_row rfl _ _ w.heap.size 106 #[.int .i64 5,.string ⟨#[]⟩,.string ⟨#[]⟩,.slice v kv cv] (0,0) _ rfl (U.out.set4 _ _ _ _) Tryz.underlying106 rfl (by kernel_rfl)) rfl ?_;have ah:Kept (fun b=>b≠w.heap.size) wr _:=(Kept.refl _ wr).set4 (B:=w.heap.size) (fun h=>h rfl) (.int .i64 5) (.string ⟨#[]⟩) (.string ⟨#[]⟩) (.slice v kv cv);refine⟨.mk 5 ⟨#[]⟩ ⟨#[]⟩ (q.map (·.1)),.slice v kv cv,rfl,.inr ⟨5,q.map (·.1),rfl,by decide,by have:=a0.out;have:=HN.out;rw[x1!];omega,fun p hp=>?_⟩,(fun e=>HQ.out e.symm),(RTAt.iff _ _).2 ⟨q,rfl,fun x hx=>?_,?_⟩,a8.out.set4 U.out.lt (by have:=f.out;omega) _ _ _ _,a4.out.set4 (fun h=>Nat.lt_irrefl _ h.1) _ _ _ _⟩
       ·obtain⟨x,hx,rfl⟩:=u6!.1 hp;exact E.out.good x hx
       ·exact((E.out.parts x hx).same fun b hb=>ah.block b (by have:=hb.1.1;have:=f.out;show b≠w.heap.size;omega)).mono fun b hb=>⟨by have:=hb.1.1;have:=f.out;omega,n1! hb.1.2 ah.size⟩
       ·exact(E.out.row.sl.same fun b hb=>ah.block b (by have:=hb.1;have:=f.out;show b≠w.heap.size;omega)).mono fun b hb=>⟨by have:=hb.1;have:=f.out;omega,n1! hb.2 ah.size⟩
      ·have aG:=h! hn;have be:(0:Int)<(n:Int):=by omega
       have ag:=h! (fun g (e:pv.ownBlock=some g)=>hm.row.block g e);obtain⟨v,kv,cv,rfl,-,-,-⟩:=hm.row.sl.len;have ay:=hm.box.cells 3;clear hm V af aw hn;go_wp2_with fail
       obtain⟨wd,X⟩:=e! wr.drew;have hE:Ext wr wd:=by rw[X];exact Ext.drew wr
       have a2:=h! (a8.out.ext hE);have z:=h! (KT.trans a4.out (KT.of hE));have a3:=h! (U.out.below hE);have M:=h! (E.out.keep (KT.of (tp:=tp) hE) (by have:=f.out;omega));have t:Hid (rp<wd.heap.size/\wr.heap.size<=wd.heap.size):=h! ⟨M.out.box.lt,hE.size⟩
       have hA:∀W,Kept (fun b=>b<wd.heap.size/\b≠tp/\Value.ownBlock (.slice v kv cv)≠some b) wd W->W.cell? ⟨rp,3,none⟩=some (.slice v kv cv):=fun W hW =>
        (World.cell?_of_block (a:=⟨rp,3,none⟩) (hW.block rp ⟨t.out.1,by have:=f.out;omega,fun e=>by have:=(ag.out rp e).1;omega⟩)).trans (M.out.box.cells 3)
       have bd:IntKind.i64.wrap ((d:Int)+1-1)=(d:Int):=by rw[Int.add_sub_cancel];exact IntWalk.i64_in _ (by have:=HD.out;omega)
       have hdw':IntKind.i64.wrap (d:Int)=(d:Int):=IntWalk.i64_in _ (by have:=HD.out;omega);have G:=h! (b8.out 5 tp (.slice ao own.length c) wd a2.out ((aP.out.same fun b hb=>z.out.block b hb).mono fun b hb=>⟨n1! hb.1 z.out.size,hb.2⟩) (by have:=HD.out;omega) (by decide));refine ah! 11 (Kept (fun b=>b<wd.heap.size/\b≠tp/\Value.ownBlock (.slice v kv cv)≠some b) wd) (by rw[<-X];exact Kept.refl _ _) (by kernel_rfl) (by kernel_rfl) (fun _ _ d _ _ h=>by cases d <;> exact h) ?_;rw[<-X];clear X hE ay;(refine WalkL.tk [0,1,2,3,4,5,6] ?_;(iterate 7 (refine l! ?_));refine TkL.n ?_)
       refine oL! 7 ?_;refine b! ?_;intro K hK;go_simp;refine G.out.mono ?_;rintro e w5 ⟨r5,v5,rfl,aE,aF,Q,a5,o⟩;have s:Kept (fun b=>b<wd.heap.size/\b≠tp/\Value.ownBlock (.slice v kv cv)≠some b) wd w5:=Kept.mono o fun b hb=>⟨hb.1,hb.2.1⟩;refine hK.out _ _ s ?_;obtain⟨aj,c5,rfl,-,-,-⟩:=Q.rows;have T:=h! (M.out.keep o (by have:=f.out;omega));have ar:=h! a5;have aB:=h! (KT.trans z.out o);have aA:=h! (o.blk a3.out (by have:=f.out;omega));have H5:=h! (And.intro aE (And.intro aF Q));have ap:=h! o.size;clear hK aE aF Q a5 o G;unfold rV;refine oL! 8 ?_;refine b! ?_;intro K hK;go_simp;have F:=Ext.alloc w5 (.cells #[.int .i64 r5.k,.string r5.a,.string r5.b,.slice aj r5.ps.length c5] 106);have a6:=s.trans (Kept.mono (KT.of (tp:=tp) F) fun b (hb:b<wd.heap.size/\b≠tp/\_)=>⟨n1! hb.1 s.size,hb.2.1⟩);refine hK.out _ _ a6 ?_;clear hK;refine oL! 9 ?_;refine b! ?_;intro K hK;refine aP! ruleT (.tmp 41) (.tmp 48) rfl rfl (T.out.row.below F) rfl (m:=1) (news:=[.int .i64 r5.k,.string r5.a,.string r5.b,.slice aj r5.ps.length c5]) rfl (fun j u hu=>?_) (by simp[Value.oneCell']) (by have:=a0.out;have:=HN.out;rw[ac! aO!];simp;omega) (by have:=a0.out;have:=HN.out;rw[ac! aO!];simp;omega) (by have:=t.out;have:=ap.out;simp;omega) (fun v7 w7 hown7 hb7 hgr7=>?_)
       ·rw[Addr.add_lit,cell_of_row _ w5.heap.size (0+j) #[.int .i64 r5.k,.string r5.a,.string r5.b,.slice aj r5.ps.length c5] 106 (0,0) (heap_alloc_new w5 _)];simpa using hu
       have D:∀b,b<w5.heap.size->Value.ownBlock (.slice v kv cv)≠some b->w7.heap[b]?=w5.heap[b]?:=fun b h1 h2=>(hgr7.block b (by simp;omega) (fun e=>h2 e.symm)).trans (F.block b h1);have R:w5.heap.size<=w7.heap.size:=n6! F.size hgr7.size;have a9:∀g,v7.ownBlock=some g->Value.ownBlock (.slice v kv cv)=some g\/w5.heap.size<=g:=fun g hg=>(hb7 g hg).imp id (fun h=>by simp at h;omega);have hk57':Kept (fun b=>b<w5.heap.size/\Value.ownBlock (.slice v kv cv)≠some b) w5 w7:=⟨hgr7.os.trans F.os,hgr7.tape.trans F.tape,hgr7.output.trans F.output,R,fun b hb=>D b hb.1 hb.2⟩;have ae:=s.trans (hk57'.mono fun b (hb:b<wd.heap.size/\b≠tp/\_)=>⟨n1! hb.1 s.size,hb.2.2⟩);refine hK.out _ _ ae ?_;clear hK hA;simp only[Act.put,pA,pZ,pS];have ax:=h! (T.out.add (n0:=wd.heap.size) (r:=r5) (v5 := .slice aj r5.ps.length c5) D R hown7 a9 H5.out.2.2 t.out.1 (fun g hg=>n1! (ag.out g hg).2 t.out.2) ⟨H5.out.1,H5.out.2.1⟩);have O:=h! (show Kept (fun b=>b<rp) w5 (w7.setCell ⟨rp,3,none⟩ v7)from(hk57'.mono fun b (hb:b<rp)=>⟨by have:=t.out;have:=ap.out;omega,fun e=>by have:=(ag.out b e).1;omega⟩).set (fun h=>Nat.lt_irrefl _ h) _);have L:Blk w7 rp #[.int .i64 5,.string ⟨#[]⟩,.string ⟨#[]⟩,.slice v kv cv] 106:=(D rp (by have:=t.out;have:=ap.out;omega) (fun e=>by have:=(ag.out rp e).1;omega)).trans T.out.box;obtain⟨aS,k7,c7,rfl,-,-,-⟩:=hown7.sl.len;have f7:=L.free;have g7:=L.cells 3;have bb:IntKind.i64.wrap ((n:Int)-1)=((n-1:Nat):Int):=by rw[IntWalk.i64_in _ (by have:=a0.out;have:=HN.out;omega)];omega
       have hdn':wrap64 ((n:Int)-1)=((n-1:Nat):Int):=by rw[aL! _ (by omega) (by have:=a0.out;have:=HN.out;omega)];omega
       clear s a6 D R a9 hk57' hown7 hb7 hgr7 L F;((refine WalkL.take 10 _ ?_ (by simp only[gA,gS,gZ];rfl) (by kernel_rfl) (by kernel_rfl) (by kernel_rfl) (by rfl) (fun W hW=>?_) ?_;rotate_left;· (go_simp;try with_reducible rfl));simp only[Act.put,pA,pZ,pS])
       refine WalkL.last (by kernel_rfl) (by kernel_rfl) ?_;refine b! ?_;intro K hK;go_simp;refine hK.out _ _ ?_;clear hK ae f7 g7;generalize w7.setCell ⟨rp,3,none⟩ (.slice aS k7 c7)=w8 at *;go_wp2_with fail
       go_roundw
       case rel=>exact⟨n-1,_,_,rfl,by have:=a0.out;have:=aG.out;rw[u4!];simp only[u7!,v6!];omega,ax.out,O.out.blk aA.out (by have:=f.out;show w.heap.size<rp;omega),ar.out.kept O.out (fun b hb=>by have:=f.out;show b<rp;omega),Kept.trans aB.out (O.out.mono fun b (hb:b<w.heap.size/\b≠tp)=>by have:=f.out;have:=hb.1;show b<rp;omega)⟩
       case measure=>have:=aG.out;simp[intOf];omega
end Go.Proofs.YtlhaghoajpglaaaGreat
