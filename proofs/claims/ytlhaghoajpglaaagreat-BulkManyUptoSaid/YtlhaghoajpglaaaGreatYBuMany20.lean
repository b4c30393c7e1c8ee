/- Lemmas for the claim, no condition. -/
import Derived.Test.YtlhaghoajpglaaaGreatYBuMany19
import Derived.Test.YtlhaghoajpglaaaGreatYBuMany14
import Derived.Test.YtlhaghoajpglaaaGreatYBuMany15
import Derived.Test.YtlhaghoajpglaaaGreatYBuMany0
import Derived.Test.YtlhaghoajpglaaaGreatYBuMany4
import Derived.Test.YtlhaghoajpglaaaGreatYBuMany1
set_option maxRecDepth 100000
set_option maxHeartbeats 8000000
namespace Go.Proofs.YtlhaghoajpglaaaGreat
open Go Go.RowKit Go.Maps
structure MArg (w W:World)(ts:List TyS)(tv:Value)(l:List Tup)(lv:Value)(shut:List R2)(sv:Value)(aq:List AQ)(av:Value):Prop where
 X:Ext w W
 S:Blk W w.heap.size #[tv] 26
 Y:TysAt (· < W.heap.size) W ts tv
 L:Sl (· < W.heap.size) W 6 lv (tuCs l)
 V:Sl (· < W.heap.size) W 2 sv (shut.flatMap r2C)
 A:Sl (· < W.heap.size) W 6 av (aq.flatMap aqC)
theorem MArg.up {w W W':World} {ts:List TyS} {tv:Value} {l:List Tup} {lv:Value} {shut:List R2} {sv:Value} {aq:List AQ} {av:Value} (h:MArg w W ts tv l lv shut sv aq av)(hx:Ext W W'):MArg w W' ts tv l lv shut sv aq av :=
 ⟨Ext.trans h.X hx,h.S.below hx,h.Y.up hx,(h.L.same (Same.below hx)).mono fun _ hb=>Nat.lt_of_lt_of_le hb hx.size,(h.V.same (Same.below hx)).mono fun _ hb=>Nat.lt_of_lt_of_le hb hx.size,(h.A.same (Same.below hx)).mono fun _ hb=>Nat.lt_of_lt_of_le hb hx.size⟩
theorem manyLaw_any (ts:List TyS)(tv:Value)(l:List Tup)(lv:Value)(shut:List R2)(sv:Value)(aq:List AQ)(av:Value)(most:Int)(w:World)(h:TysAt (· < w.heap.size) w ts tv)(hbk:schBk ts<=1048576)(hok:∀ t∈ts,t.Ok)
  (hl:Sl (· < w.heap.size) w 6 lv (tuCs l)) (hlo:∀ t∈l,t.Ok) (hsv:Sl (· < w.heap.size) w 2 sv (shut.flatMap r2C)) (hso:∀ r∈shut,r.Ok) (hav:Sl (· < w.heap.size) w 6 av (aq.flatMap aqC)) (hao:∀ a∈aq,a.1.Ok/\a.2.Ok) :
  Calls Tryz.prog 6 #[.agg #[tv],lv,sv,av,.int .i64 most] w fun e w'=>e = .returned (.bool true)/\Ext w w':=by
 have HBK:=h! hbk;have HOK:=h! hok;have HLO:=h! hlo;have HSO:=h! hso;have HAO:=h! hao;have HSA:=h! (show SchArg ts from⟨hok,by have:=schB_bk ts;omega,sz_sch hbk,by have:=(names_bk ts).1;omega,by have:=(names_bk ts).2;omega⟩);obtain⟨aot,ct,rfl,-,-,-⟩:=h.rows;obtain⟨aos,cs,rfl,-⟩:=Sl.rows r2C_length (by decide) hsv;obtain⟨aoa,ca,rfl,-⟩:=Sl.rows aqC_length (by decide) hav;obtain⟨wa,hwa⟩:∃ x,x=w.alloc (.cells #[.slice aot ts.length ct] 26):=⟨_,rfl⟩;have xa:Ext w wa:=by rw[hwa];exact Ext.alloc _ _
 have HW:=h! (show MArg w wa ts (.slice aot ts.length ct) l lv shut (.slice aos shut.length cs) aq (.slice aoa aq.length ca) from
  ⟨xa,by rw[hwa];exact Blk.made _ _ _,h.up xa,(hl.same (Same.below xa)).mono fun _ hb=>Nat.lt_of_lt_of_le hb xa.size,(hsv.same (Same.below xa)).mono fun _ hb=>Nat.lt_of_lt_of_le hb xa.size,(hav.same (Same.below xa)).mono fun _ hb=>Nat.lt_of_lt_of_le hb xa.size⟩)
 have HF:=h! (fixed32_any wa);clear h hbk hok hl hlo hsv hso hav hao xa;go_enter Tryz.func6,Tryz.ntmps6
 go_wp2_with fail
 rw[<- hwa];clear hwa;refine HF.out.mono ?_;rintro e w1 ⟨rfl,hb1⟩;have HW1:=h! (HW.out.up hb1);have s1:=HW1.out.S.cells;have HFE:=h! (few05_any ts _ w1 HW1.out.Y HOK.out);clear hb1 HF HW;cases hfe:fewT ts 200 with
 | false =>
  rw[hfe]at HFE;go_wp2_with fail
  refine HFE.out.mono ?_;rintro e w2 ⟨rfl,hb2⟩;go_wp2_with fail
  go_ret
  exact⟨rfl,Ext.trans HW1.out.X hb2⟩
 | true =>
  rw[hfe]at HFE;clear hfe;go_wp2_with fail
  refine HFE.out.mono ?_;rintro e w2 ⟨rfl,hb2⟩;have HW2:=h! (HW1.out.up hb2);have HFL:=h! (few32_any lv l w2 HW2.out.L);clear hb2 HFE s1 HW1;cases hfl:fewL l with
  | false =>
   rw[hfl]at HFL;go_wp2_with fail
   refine HFL.out.mono ?_;rintro e w3 ⟨rfl,hb3⟩;go_wp2_with fail
   go_ret
   exact⟨rfl,Ext.trans HW2.out.X hb3⟩
  | true =>
   rw[hfl]at HFL;have HLL:=h! (fewL_len hfl);clear hfl;go_wp2_with fail
   refine HFL.out.mono ?_;rintro e w3 ⟨rfl,hb3⟩;have HW:=h! (HW2.out.up hb3);clear hb3 HFL HW2;by_cases hsl:(20:Int)<(shut.length:Int)
   ·go_wp2_with fail
    go_ret
    exact⟨rfl,HW.out.X⟩
   by_cases hal:(12:Int)<(aq.length:Int)
   ·go_wp2_with fail
    go_ret
    exact⟨rfl,HW.out.X⟩
   have HSL:=h! (show shut.length<=20 from by omega);have HAL:=h! (show aq.length<=12 from by omega);obtain⟨T,hT⟩:=set_ex l;have HST:=h! hT;have HTL:=h! (show T.length<=40 from by have:=hT.len;have:=HLL.out;omega);clear hT;by_cases hck:chk06 ts=0
   rotate_left
   ·have HCK:=h! hck;obtain⟨q,hq,hq0,hq1⟩:∃ q:Int,Hid (q=chk06 ts)/\(q != 0)=true/\(q == q)=true:=⟨_,h! rfl,by simpa using hck,by simp⟩;have HQ0:=h! hq0;clear hck;go_wp2_with fail
    obtain⟨wd,hwd⟩:∃ wd,Hid (wd=w3.drew):=⟨_,h! rfl⟩;have hxd:=h! (show Ext w3 wd from by rw[hwd.out];exact Ext.drew _);refine r! (Ext wd) (by rw[<- hwd.out];exact Ext.refl _) ?_;rw[<- hwd.out];have HW:=h! (HW.out.up hxd.out);clear hwd hxd;have hs:∀ W,Ext wd W->∀ i,W.cell? ⟨w.heap.size,i,none⟩=(#[.slice aot ts.length ct]:Array Value)[i]?:=fun W h=>(HW.out.S.below h).cells;(refine WalkN.tk [0,1,4,5,6] ?_;(iterate 5 (refine c! ?_));refine TkN.n ?_)
    clear hs;have HNB:=h! (bookT_any HST.out lv wd HW.out.L (by have:=HLL.out;omega) HLO.out);refine o! 2 ?_;refine b! ?_;intro K hK;go_simp;refine HNB.out.mono ?_;rintro e w4 ⟨bk,rfl,hbk,hb4⟩;refine hK.out _ _ hb4 ?_;clear hK HNB;have HW4:=h! (HW.out.up hb4);have HH:=h! (manyN_any ts (.slice aot ts.length ct) (bkV bk) (.slice aos shut.length cs) (.slice aoa aq.length ca) (.int .i64 most) q HQ0.out w4 HW4.out.Y fun W hx=>by rw[hq.out];exact bstartE_any ts _ _ _ _ W (HW4.out.Y.up hx) HSA.out HCK.out);clear hbk;refine t! 3 ?_
    refine o! 7 ?_;refine b! ?_;intro K hK;go_simp;refine HH.out.mono ?_;rintro e w5 ⟨rfl,hx5⟩;refine hK.out _ _ (Ext.trans hb4 hx5) ?_;clear hK HH;have HW:=h! (HW4.out.up hx5);clear hb4 hx5 HW4;(refine WalkN.tk [8,9,10,11,12] ?_;(iterate 5 (refine c! ?_));refine TkN.n ?_)
    refine d! ?_;have HC6:=h! (check06_any ts _ w5 HW.out.Y HOK.out (by have:=schW_bk ts;have:=HBK.out;omega));rw[<- hq.out]at HC6;have s1:=HW.out.S.cells;go_wp2_with fail
    refine HC6.out.mono ?_;rintro e w6 ⟨rfl,hb6⟩;have HW:=h! (HW.out.up hb6);clear hb6 s1 HC6;go_wp2_with fail
    go_ret
    exact⟨rfl,HW.out.X⟩
   ·have HCK:=h! hck;have HHA:=h! (fun(a:AQ) (ha:a∈aq)=>HasArg.of (T:=T) (shut:=shut) (p:=a.1) hck HOK.out (by have:=schB_bk ts;have:=HBK.out;omega) (by have:=(names_bk ts).1;have:=HBK.out;omega) (by have:=(names_bk ts).2;have:=HBK.out;omega) (by have:=HTL.out;omega) (fun t ht=>HLO.out t ((HST.out.mem t).1 ht).1) (HAO.out a ha).1 HSO.out);clear hck;go_wp2_with fail
    obtain⟨wd,hwd⟩:∃ wd,Hid (wd=w3.drew):=⟨_,h! rfl⟩;have hxd:=h! (show Ext w3 wd from by rw[hwd.out];exact Ext.drew _);refine r! (Ext wd) (by rw[<- hwd.out];exact Ext.refl _) ?_;rw[<- hwd.out];have HW:=h! (HW.out.up hxd.out);clear hwd hxd;have hs:∀ W,Ext wd W->∀ i,W.cell? ⟨w.heap.size,i,none⟩=(#[.slice aot ts.length ct]:Array Value)[i]?:=fun W h=>(HW.out.S.below h).cells;(refine WalkN.tk [0,1,4,5,6] ?_;(iterate 5 (refine c! ?_));refine TkN.n ?_)
    clear hs;have HNB:=h! (bookT_any HST.out lv wd HW.out.L (by have:=HLL.out;omega) HLO.out);refine o! 2 ?_;refine b! ?_;intro K hK;go_simp;refine HNB.out.mono ?_;rintro e w4 ⟨bk,rfl,hbk,hb4⟩;refine hK.out _ _ hb4 ?_;clear hK HNB;have HW4:=h! (HW.out.up hb4);have HH:=h! (many_any ts (.slice aot ts.length ct) bk T shut (.slice aos shut.length cs) aq (.slice aoa aq.length ca) most w4 ⟨HW4.out.Y,hbk,HW4.out.V⟩ HSA.out HCK.out HW4.out.A (fun a ha=>⟨HHA.out a ha,HAO.out a ha⟩) (by have:=HAL.out;omega));clear hbk;refine t! 3 ?_
    refine o! 7 ?_;refine b! ?_;intro K hK;go_simp;refine HH.out.mono ?_;rintro e w5 ⟨⟨v5,⟨hal5,rfl,ho5⟩ | ⟨hlong,rfl,rfl⟩⟩,hx5⟩
    case' inl =>
     have HE:=h! hal5;have HR:=h! (ho5.sl.mono (T:=(· < w5.heap.size)) fun _ hb=>hb.2);obtain⟨vo,vn,vc,rfl,-,-,-⟩:=ho5.sl.len;clear hal5 ho5;refine hK.out _ _ (Ext.trans hb4 hx5) ?_;clear hK HH;have HW:=h! (HW4.out.up hx5);clear hb4 hx5 HW4;(refine WalkN.tk [8,9,10,11,12] ?_;(iterate 5 (refine c! ?_));refine TkN.n ?_)
     refine d! ?_;have HC6:=h! (check06_any ts _ w5 HW.out.Y HOK.out (by have:=schW_bk ts;have:=HBK.out;omega));rw[HCK.out]at HC6;have s1:=HW.out.S.cells;go_wp2_with fail
     refine HC6.out.mono ?_;rintro e w6 ⟨rfl,hb6⟩;have HW:=h! (HW.out.up hb6);have HR:=h! ((HR.out.same (Same.below hb6)).mono (T:=(· < w6.heap.size)) fun _ hb=>Nat.lt_of_lt_of_le hb (Ext.size hb6));clear hb6 s1 HC6;have s1:=HW.out.S.cells;have HD:=h! (many32_any ts (.slice aot ts.length ct) l lv T shut (.slice aos shut.length cs) aq (.slice aoa aq.length ca) most w6 HW.out.Y HCK.out HST.out HW.out.L HLO.out HLL.out HW.out.V (by have:=HSL.out;omega) HW.out.A (fun a ha=>(HHA.out a ha).wk) (by have:=HAL.out;omega));go_wp2_with fail
     clear s1;refine HD.out.mono ?_;rintro e w7 ⟨⟨-,v7,rfl,ho7⟩ | ⟨⟨a,ha,hlg⟩,-⟩,hx7⟩
     case' inr=>exact absurd hlg (HE.out a ha).choose_spec.notLong
     have HX7:=h! (HW.out.up hx7).X;have HR1:=h! ((HR.out.same (Same.below hx7)).mono (T:=(· < w7.heap.size)) fun _ hb=>Nat.lt_of_lt_of_le hb (Ext.size hx7));have HR2:=h! (ho7.sl.mono (T:=(· < w7.heap.size)) fun _ hb=>hb.2);obtain⟨zo,zn,zc,rfl,-,-,-⟩:=ho7.sl.len;have HSM:=h! (same32_any _ _ _ w7 HR1.out HR2.out);clear ho7 hx7 HD;go_wp2_with fail
     refine HSM.out.mono ?_;rintro e w8 ⟨rfl,hx8⟩;have HX8:=h! (Ext.trans HX7.out hx8);clear hx8 HSM;go_wp2_with fail
     go_ret
     exact⟨rfl,HX8.out⟩
    case' inr =>
     have HLG:=h! hlong;clear hlong;refine hK.out _ _ (Ext.trans hb4 hx5) ?_;clear hK HH;have HW:=h! (HW4.out.up hx5);clear hb4 hx5 HW4;(refine WalkN.tk [8,9,10,11,12] ?_;(iterate 5 (refine c! ?_));refine TkN.n ?_)
     refine d! ?_;have HC6:=h! (check06_any ts _ w5 HW.out.Y HOK.out (by have:=schW_bk ts;have:=HBK.out;omega));rw[HCK.out]at HC6;have s1:=HW.out.S.cells;go_wp2_with fail
     refine HC6.out.mono ?_;rintro e w6 ⟨rfl,hb6⟩;have HW:=h! (HW.out.up hb6);clear hb6 s1 HC6;have s1:=HW.out.S.cells;have HD:=h! (many32_any ts (.slice aot ts.length ct) l lv T shut (.slice aos shut.length cs) aq (.slice aoa aq.length ca) most w6 HW.out.Y HCK.out HST.out HW.out.L HLO.out HLL.out HW.out.V (by have:=HSL.out;omega) HW.out.A (fun a ha=>(HHA.out a ha).wk) (by have:=HAL.out;omega));go_wp2_with fail
     clear s1;refine HD.out.mono ?_;rintro e w7 ⟨⟨hal7,-⟩ | ⟨-,rfl⟩,hx7⟩
     case' inl=>obtain⟨a,ha,hlg⟩:=HLG.out;exact absurd hlg (hal7 a ha).choose_spec.notLong
     have HX7:=h! (HW.out.up hx7).X;clear hx7 HD;go_wp2_with fail
     go_ret
     exact⟨rfl,HX7.out⟩
end Go.Proofs.YtlhaghoajpglaaaGreat
namespace Go.Proofs.YtlhaghoajpglaaaGreat
open Go Go.RowKit Go.ChangeShapes Go.WideShapes Go.ChangeAt
def pC4 (p:P3):List Value:=[.string p.t,.string p.i,.string p.r]
def tC4 (t:Tup):List Value:=[.string t.o.t,.string t.o.i,.string t.o.r,.string t.s.t,.string t.s.i,.string t.s.r]
section
variable {H : Type} {enc : TypeId × Value -> H} {W : World} {base : Nat} {v : Value} {d : DataW H} {ps : List MemPlace}
theorem open_obj_cells {fuel:Nat} {cs:List Value} {y:DataW H × List MemPlace} (hy:DataW.trod enc Tryz.prog W 0 (fun _=>true) true fuel 30 cs=some y):∃ a b:ByteArray,cs=[.string a,.string b]/\a.size<=maxLen/\b.size<=maxLen:=by
 obtain⟨xs,n,_,_,hl,hlen,hf⟩:=DataW.trod_struct Tryz.underlying30 hy;rw[show Tryz.prog.cellsOf 30=2 from by kernel_rfl]at hl
 obtain⟨c0,c1,rfl⟩:∃ c0 c1,cs=[c0,c1]:=by
  match cs,hl with
  | [c0,c1],_=>exact⟨c0,c1,rfl⟩
 have h0:=hf 0 _ rfl;have h1:=hf 1 _ rfl
 obtain⟨y0,y1,rfl⟩:∃ y0 y1,xs=[y0,y1]:=by
  match xs,hlen with
  | [y0,y1],_=>exact⟨y0,y1,rfl⟩
 obtain⟨a,e0,_,wa⟩:=DataW.trod_string Tryz.underlying9 h0;obtain⟨b,e1,_,wb⟩:=DataW.trod_string Tryz.underlying9 h1;have k1:Tryz.prog.cellsOf 9=1:=by kernel_rfl
 simp[k1]at e0 e1;subst e0 e1;exact⟨a,b,rfl,wa,wb⟩
theorem open_sub_cells {fuel:Nat} {cs:List Value} {y:DataW H × List MemPlace} (hy:DataW.trod enc Tryz.prog W 0 (fun _=>true) true fuel 33 cs=some y):∃ p:P3,cs=pC4 p/\p.Ok:=by
 obtain⟨xs,n,_,_,hl,hlen,hf⟩:=DataW.trod_struct Tryz.underlying33 hy;rw[show Tryz.prog.cellsOf 33=3 from by kernel_rfl]at hl
 obtain⟨c0,c1,c2,rfl⟩:∃ c0 c1 c2,cs=[c0,c1,c2]:=by
  match cs,hl with
  | [c0,c1,c2],_=>exact⟨c0,c1,c2,rfl⟩
 have h0:=hf 0 _ rfl;have h1:=hf 1 _ rfl
 obtain⟨y0,y1,rfl⟩:∃ y0 y1,xs=[y0,y1]:=by
  match xs,hlen with
  | [y0,y1],_=>exact⟨y0,y1,rfl⟩
 have k0:Tryz.prog.cellsOf 30=2:=by kernel_rfl
 have k1:Tryz.prog.cellsOf 9=1:=by kernel_rfl
 obtain⟨a,b,e0,wa,wb⟩:=open_obj_cells h0;obtain⟨c,e1,_,wc⟩:=DataW.trod_string Tryz.underlying9 h1;simp[k0]at e0;simp[k1]at e1;obtain⟨rfl,rfl⟩:=e0;subst e1;exact⟨⟨a,b,c⟩,rfl,wa,wb,wc⟩
theorem open_tup_cells {fuel:Nat} {cs:List Value} {y:DataW H × List MemPlace} (hy:DataW.trod enc Tryz.prog W 0 (fun _=>true) true fuel 67 cs=some y):∃ t:Tup,cs=tC4 t/\t.Ok:=by
 obtain⟨xs,n,_,_,hl,hlen,hf⟩:=DataW.trod_struct Tryz.underlying67 hy;rw[show Tryz.prog.cellsOf 67=6 from by kernel_rfl]at hl
 obtain⟨c0,c1,c2,c3,c4,c5,rfl⟩:∃ c0 c1 c2 c3 c4 c5,cs=[c0,c1,c2,c3,c4,c5]:=by
  match cs,hl with
  | [c0,c1,c2,c3,c4,c5],_=>exact⟨c0,c1,c2,c3,c4,c5,rfl⟩
 have h0:=hf 0 _ rfl;have h1:=hf 1 _ rfl;have h2:=hf 2 _ rfl
 obtain⟨y0,y1,y2,rfl⟩:∃ y0 y1 y2,xs=[y0,y1,y2]:=by
  match xs,hlen with
  | [y0,y1,y2],_=>exact⟨y0,y1,y2,rfl⟩
 have k0:Tryz.prog.cellsOf 30=2:=by kernel_rfl
 have k1:Tryz.prog.cellsOf 9=1:=by kernel_rfl
 have k2:Tryz.prog.cellsOf 33=3:=by kernel_rfl
 obtain⟨a,b,e0,wa,wb⟩:=open_obj_cells h0;obtain⟨c,e1,_,wc⟩:=DataW.trod_string Tryz.underlying9 h1;obtain⟨p,e2,wp⟩:=open_sub_cells h2;simp[k0]at e0;simp[k1]at e1;simp[k2,pC4]at e2;obtain⟨rfl,rfl⟩:=e0;obtain⟨rfl,rfl,rfl⟩:=e2;subst e1;exact⟨⟨⟨a,b,c⟩,p⟩,rfl,⟨wa,wb,wc⟩,wp⟩
end
theorem open_rowsT {H:Type} {enc:TypeId × Value->H} {P:Program} {w:World} {α:Type} (ec:α->List Value)(Q:α->Prop) {t e:TypeId} {v:Value} {d:DataW H} {ps:List MemPlace} {sz:Nat}
  (ht:P.underlying t=some (.slice e)) (hsz:P.cellsOf e=sz) (hv:∃ a len cap,v = .slice a len cap) (h:DataW.Trod enc P w 0 (fun _=>true) true t v d ps)
  (hel:∀ fuel cs y,DataW.trod enc P w 0 (fun _=>true) true fuel e cs=some y->∃ a,cs=ec a/\Q a):∃ l:List α,Sl (· < w.heap.size) w sz v (l.flatMap ec)/\∀ a∈l,Q a:=by
 obtain⟨xs,elems,fuel,hs,hl,he,_⟩:=open_sl ht hv h;rw[hsz]at hs hl he
 have main:∀ n,n<=elems.length->∃ l:List α,xs.take (n*sz)=l.flatMap ec/\∀ a∈l,Q a:=by
  intro n;induction n with
  | zero=>intro _;exact⟨[],by simp,by simp⟩
  | succ n ih =>
   intro hn;obtain⟨l,hl1,hl2⟩:=ih (by omega);obtain⟨a,ha,hq⟩:=hel _ _ _ (he n elems[n] (List.getElem?_eq_getElem (by omega)));refine⟨l++[a],?_,fun b hb=>?_⟩
   ·rw[Nat.add_mul,Nat.one_mul,List.take_add,hl1,ha,List.flatMap_append];simp
   ·rcases List.mem_append.1 hb with hb | hb
    ·exact hl2 b hb
    ·obtain rfl:b=a:=by simpa using hb
     exact hq
 obtain⟨l,hl1,hl2⟩:=main elems.length (Nat.le_refl _);rw[<- hl,List.take_length]at hl1;exact⟨l,hl1▸hs,hl2⟩
theorem tuCs_flat (l:List Tup):l.flatMap tC4=tuCs l:=by
 induction l with
 | nil=>rfl
 | cons a l ih=>rw[List.flatMap_cons,ih];rfl
theorem open_tupsV {H:Type} {enc:TypeId × Value->H} {W:World} {base:Nat} {v:Value} {d:DataW H} {ps:List MemPlace} (hok:Value.okWide Tryz.prog W .any base 27 v)(h:DataW.Trod enc Tryz.prog W 0 (fun _=>true) true 27 v d ps):∃ l:List Tup,Sl (· < W.heap.size) W 6 v (tuCs l)/\∀ t∈l,t.Ok:=by
 obtain⟨l,h1,h2⟩:=open_rowsT tC4 Tup.Ok Tryz.underlying27 (by kernel_rfl) (okWide_slice Tryz.underlying27 hok) h (fun fuel cs y hy=>open_tup_cells hy);exact⟨l,tuCs_flat l▸h1,h2⟩
section
variable {H : Type} {enc : TypeId × Value -> H} {W : World} {base : Nat} {v : Value} {d : DataW H} {ps : List MemPlace}
theorem open_ref_cells {fuel:Nat} {cs:List Value} {y:DataW H × List MemPlace} (hy:DataW.trod enc Tryz.prog W 0 (fun _=>true) true fuel 121 cs=some y):∃ a b:ByteArray,cs=[.string a,.string b]/\a.size<=maxLen/\b.size<=maxLen:=by
 obtain⟨xs,n,_,_,hl,hlen,hf⟩:=DataW.trod_struct Tryz.underlying121 hy;rw[show Tryz.prog.cellsOf 121=2 from by kernel_rfl]at hl
 obtain⟨c0,c1,rfl⟩:∃ c0 c1,cs=[c0,c1]:=by
  match cs,hl with
  | [c0,c1],_=>exact⟨c0,c1,rfl⟩
 have h0:=hf 0 _ rfl;have h1:=hf 1 _ rfl
 obtain⟨y0,y1,rfl⟩:∃ y0 y1,xs=[y0,y1]:=by
  match xs,hlen with
  | [y0,y1],_=>exact⟨y0,y1,rfl⟩
 obtain⟨a,e0,_,wa⟩:=DataW.trod_string Tryz.underlying9 h0;obtain⟨b,e1,_,wb⟩:=DataW.trod_string Tryz.underlying9 h1;have k1:Tryz.prog.cellsOf 9=1:=by kernel_rfl
 simp[k1]at e0 e1;subst e0 e1;exact⟨a,b,rfl,wa,wb⟩
end
section
variable {H : Type} {enc : TypeId × Value -> H} {W : World} {base : Nat} {v : Value} {d : DataW H} {ps : List MemPlace}
theorem open_point_cells {fuel:Nat} {cs:List Value} {y:DataW H × List MemPlace} (hy:DataW.trod enc Tryz.prog W 0 (fun _=>true) true fuel 32 cs=some y):∃ p:P3,cs=pC4 p/\p.Ok:=by
 obtain⟨xs,n,_,_,hl,hlen,hf⟩:=DataW.trod_struct Tryz.underlying32 hy;rw[show Tryz.prog.cellsOf 32=3 from by kernel_rfl]at hl
 obtain⟨c0,c1,c2,rfl⟩:∃ c0 c1 c2,cs=[c0,c1,c2]:=by
  match cs,hl with
  | [c0,c1,c2],_=>exact⟨c0,c1,c2,rfl⟩
 have h0:=hf 0 _ rfl;have h1:=hf 1 _ rfl
 obtain⟨y0,y1,rfl⟩:∃ y0 y1,xs=[y0,y1]:=by
  match xs,hlen with
  | [y0,y1],_=>exact⟨y0,y1,rfl⟩
 have k0:Tryz.prog.cellsOf 30=2:=by kernel_rfl
 have k1:Tryz.prog.cellsOf 9=1:=by kernel_rfl
 obtain⟨a,b,e0,wa,wb⟩:=open_obj_cells h0;obtain⟨c,e1,_,wc⟩:=DataW.trod_string Tryz.underlying9 h1;simp[k0]at e0;simp[k1]at e1;obtain⟨rfl,rfl⟩:=e0;subst e1;exact⟨⟨a,b,c⟩,rfl,wa,wb,wc⟩
theorem open_refsV (hok:Value.okWide Tryz.prog W .any base 28 v)(h:DataW.Trod enc Tryz.prog W 0 (fun _=>true) true 28 v d ps):∃ l:List R2,Sl (· < W.heap.size) W 2 v (l.flatMap r2C)/\∀ r∈l,r.Ok :=
 open_rowsT r2C R2.Ok Tryz.underlying28 (by kernel_rfl) (okWide_slice Tryz.underlying28 hok) h (fun fuel cs y hy=>by
  obtain⟨a,b,rfl,ha,hb⟩:=open_ref_cells hy;exact⟨⟨a,b⟩,rfl,ha,hb⟩)
theorem open_intV (hok:Value.okWide Tryz.prog W .any base 3 v)(h:DataW.Trod enc Tryz.prog W 0 (fun _=>true) true 3 v d ps):∃ n:Int,v = .int .i64 n:=by
 obtain⟨x,rfl,_⟩:=open_int Tryz.underlying3 hok h;exact⟨x,rfl⟩
end
section
variable {H : Type} {enc : TypeId × Value -> H} {W : World} {base : Nat} {v : Value} {d : DataW H} {ps : List MemPlace}
theorem open_ask_cells {fuel:Nat} {cs:List Value} {y:DataW H × List MemPlace} (hy:DataW.trod enc Tryz.prog W 0 (fun _=>true) true fuel 35 cs=some y):∃ a:AQ,cs=aqC a/\(a.1.Ok/\a.2.Ok):=by
 obtain⟨xs,n,_,_,hl,hlen,hf⟩:=DataW.trod_struct Tryz.underlying35 hy;rw[show Tryz.prog.cellsOf 35=6 from by kernel_rfl]at hl
 obtain⟨c0,c1,c2,c3,c4,c5,rfl⟩:∃ c0 c1 c2 c3 c4 c5,cs=[c0,c1,c2,c3,c4,c5]:=by
  match cs,hl with
  | [c0,c1,c2,c3,c4,c5],_=>exact⟨c0,c1,c2,c3,c4,c5,rfl⟩
 have h0:=hf 0 _ rfl;have h1:=hf 1 _ rfl
 obtain⟨y0,y1,rfl⟩:∃ y0 y1,xs=[y0,y1]:=by
  match xs,hlen with
  | [y0,y1],_=>exact⟨y0,y1,rfl⟩
 have k0:Tryz.prog.cellsOf 32=3:=by kernel_rfl
 have k1:Tryz.prog.cellsOf 33=3:=by kernel_rfl
 obtain⟨p,e0,hp⟩:=open_point_cells h0;obtain⟨s,e1,hs⟩:=open_sub_cells h1;simp[k0,pC4]at e0;simp[k1,pC4]at e1;obtain⟨rfl,rfl,rfl⟩:=e0;obtain⟨rfl,rfl,rfl⟩:=e1;exact⟨(p,s),rfl,hp,hs⟩
theorem open_asksV (hok:Value.okWide Tryz.prog W .any base 71 v)(h:DataW.Trod enc Tryz.prog W 0 (fun _=>true) true 71 v d ps):∃ l:List AQ,Sl (· < W.heap.size) W 6 v (l.flatMap aqC)/\∀ a∈l,a.1.Ok/\a.2.Ok :=
 open_rowsT aqC (fun a=>a.1.Ok/\a.2.Ok) Tryz.underlying71 (by kernel_rfl) (okWide_slice Tryz.underlying71 hok) h (fun fuel cs y hy=>open_ask_cells hy)
end
end Go.Proofs.YtlhaghoajpglaaaGreat
