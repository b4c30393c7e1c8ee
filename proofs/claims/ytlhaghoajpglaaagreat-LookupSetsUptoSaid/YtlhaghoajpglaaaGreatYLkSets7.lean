/- Lemmas for the claim, no condition. -/
import Derived.Test.YtlhaghoajpglaaaGreatYLkSets0
import Derived.Test.YtlhaghoajpglaaaGreatYLkSets6
import Derived.Test.YtlhaghoajpglaaaGreatYLkSets2
set_option maxRecDepth 100000
set_option maxHeartbeats 8000000
namespace Go.Proofs.YtlhaghoajpglaaaGreat
open Go Go.RowKit Go.Maps
theorem cloneU_own {S:Nat->Prop} (v:Value)(bs:List P3)(w:World)(hSw:∀ b,S b->b<w.heap.size)(h:Sl S w 3 v (pcs bs))(hl:bs.length<=1073741824) :
  Calls Tryz.prog 317 #[v] w fun e w'=>∃ v',e = .returned v'/\Own w' w.heap.size 33 3 v' (pcs bs)/\Ext w w':=by
 have HS:=h! h;have HL:=h! hl;obtain⟨ao,n,c,rfl,hn,hnc,hcm,hnil,-⟩:=h;rw[pcs_length]at hn;obtain rfl:n=bs.length:=by omega
 rcases ao with _ | ad
 ·obtain rfl:c=0:=hnil rfl;obtain rfl:bs=[]:=List.eq_nil_of_length_eq_zero (by omega);simp only[List.length_nil]at *;have hq:∀ W,(binOp BinOp.eql 42 (.slice none 0 0) (.slice none 0 0)).run Tryz.prog W = .ok (.bool true) W:=fun _=>by kernel_rfl
  go_enter Tryz.func317,Tryz.ntmps317
  go_wp2_with fail
  go_ret
  exact⟨_,rfl,Own.nil _ _ _ _,Ext.refl _⟩
 ·have hq:∀ W,(binOp BinOp.eql 42 (.slice (some ad) bs.length c) (.slice none 0 0)).run Tryz.prog W = .ok (.bool false) W:=fun _=>by kernel_rfl
  have HO:=h! (Own.made w (Nat.le_refl _) 33 3);have HX:=h! (Ext.alloc w (.cells #[] 33));have HS1:=h! (HS.out.same (w':=w.alloc (.cells #[] 33)) ((Same.below HX.out).mono hSw));go_enter Tryz.func317,Tryz.ntmps317
  go_wp2_with (at_builtin;go_must (refine wpList_own2 subsT rfl (.tmp 5) (.tmp 6) rfl rfl HO.out rfl HS1.out (pcs_one _) (by have:=HL.out;rw[pcs_length];simp only[List.length_nil];omega) (by have:=HL.out;rw[pcs_length];simp only[List.length_nil];omega) (by simp) ?_;intro v5 w5 hown5 hb5 _;have HF:=h! (show Own w5 w.heap.size 33 3 v5 (pcs bs)from by rw[List.nil_append]at hown5;exact hown5);have HX5:=h! (show Ext w w5 from Below.trans HX.out hb5);obtain⟨ao5,n5,c5,rfl,-,-,-⟩:=hown5.sl.len;clear hown5 hb5))
  go_ret
  exact⟨_,rfl,HF.out,HX5.out⟩
theorem Own.low {w:World} {B B':Nat} {e:TypeId} {sz:Nat} {v:Value} {xs:List Value} (h:Own w B e sz v xs)(hb:B'<=B):Own w B' e sz v xs:=by
 obtain⟨n,h⟩:=h;refine⟨n,h.1,?_⟩;rcases h.2 with hn | ⟨g,cap,cur,rfl,hbg,r⟩
 ·exact .inl hn
 ·exact .inr ⟨g,cap,cur,rfl,by omega,r⟩
theorem Ext.sameSet {w w2:World} {B i:Nat} {cs:Array Value} {e:TypeId} {v:Value} (h:Ext w w2)(hb:Blk w2 B cs e)(hi:cs.setIfInBounds i v=cs):Ext w (w2.setCell ⟨B,i,none⟩ v) :=
 ⟨h.os,h.tape,h.output,by have:=h.size;simpa using this,fun b hl=>by
  by_cases hbB:b=B
  ·subst hbB;rw[show(w2.setCell ⟨b,i,none⟩ v).heap[b]?=_ from hb.set_to i v hi,<- h.block b hl];exact hb.symm
  ·exact(Below.heap_setCell _ _ _ b hbB).trans (h.block b hl)⟩
theorem MR.lookE {P:Program} {k:TypeId} {κ ι:Type} [DecidableEq κ] {kv:κ->Value} {E:Elm ι} {w:World} {B b:Nat} {f:κ->List ι} (h:MR P k kv E w B b f)(K:Keyed P k)(inj:∀ a b,kv a=kv b->a=b) {t e:TypeId} (ht:P.underlying t=some (.map k e))(hz:∀ W,(zeroValue e).run P W = .ok (.slice none 0 0) W) {n:κ} (hn:∃ q,keyOf P k (kv n)=some q) :
  ∃ v,(∀ W,Ext w W->(Instr.lookup t (.map (some b)) (kv n) false).run P W = .ok v W)/\Own w B E.e E.sz v ((f n).flatMap E.enc):=by
 obtain⟨v,_,ho,lw,hM,_,_,hl⟩:=h.look K inj ht (hz w) hn;refine⟨v,fun W hW=>?_,ho⟩;rw[(hM.below hW).look K inj ht (hz W) false hn];rcases hl with hl | ⟨hl,-,rfl⟩ <;> rw[hl] <;> rfl
theorem bookSubs_any (b:Nat)(T:List Tup)(p:P3)(w:World)(hp:p.Ok)(h:BookAt w b T)(hl:(subsOf T p).length<=1073741824) :
  Calls Tryz.prog 316 #[.pointer (some ⟨b,0,none⟩),pV p] w fun e w'=>∃ v,e = .returned (.tuple #[v,.int .i64 0])/\Own w' w.heap.size 33 3 v (pcs (subsOf T p))/\Ext w w':=by
 obtain⟨B,m1,m2,m3,l,h⟩:=h;have HL:=h! hl;have HK:=h! (point_key p hp);have HS0:=h! h.subs;have HB0:=h! h.box;generalize hsl:subsOf T p=sl at *;have HSL:=h! hsl;clear hsl;obtain⟨pt,pi,pr⟩:=p;have hx1:=Ext.alloc w (.cells #[.string pt,.string pi,.string pr] 32);have HP1:=h! (Blk.made w #[.string pt,.string pi,.string pr] 32);have HX1:=h! hx1;clear hx1 h hp hl;unfold pV;dsimp only;go_enter Tryz.func316,Tryz.ntmps316
 go_wp2_with fail
 obtain⟨wd,hwd⟩:∃ wd,wd=(w.alloc (.cells #[.string pt,.string pi,.string pr] 32)).drew:=⟨_,rfl⟩;have HPd:=h! (show Blk wd w.heap.size #[.string pt,.string pi,.string pr] 32 from by rw[hwd];exact HP1.out.drew);have HXd:=h! (show Ext w wd from by rw[hwd];exact HX1.out.trans (Ext.drew _));refine r! (Ext wd) (by rw[<- hwd];exact Ext.refl _) ?_;rw[<- hwd];clear hwd HP1 HX1;have h1:=fun W (h:Ext wd W)=>((HB0.out.below HXd.out).below h).cells;have h2:=fun W (h:Ext wd W)=>(HPd.out.below h).cells;obtain⟨v,hlook,hv⟩:=(HS0.out.up HXd.out).lookE pointK pV_inj Tryz.underlying145 Tryz.zeroValue42 HK.out;have HV:=h! (show Own wd B 33 3 v (pcs sl)from by rw[<- HSL.out];exact hv);unfold pV at hlook;dsimp only at hlook;clear hv;(refine WalkN.tk [0,1,2,3,4,5] ?_;(iterate 6 (refine c! ?_));refine TkN.n ?_)
 clear h1 h2 hlook;refine o! 6 ?_;refine b! ?_;intro K hK;go_simp;refine(cloneU_own v sl wd (fun x hx=>hx.2) HV.out.sl HL.out).mono ?_;rintro e w2 ⟨v2,rfl,ho2,hx2⟩;have HO2:=h! ho2;have HX2:=h! hx2;refine hK.out _ _ hx2 ?_;clear hK hx2;obtain⟨ao,n,c,rfl,-,-,-⟩:=ho2.sl.len;clear ho2;(refine WalkN.tk [7,8] ?_;(iterate 2 (refine c! ?_));refine TkN.n ?_)
 refine d! ?_;go_wp2_with fail
 go_ret2
 exact⟨_,rfl,HO2.out.low (HXd.out.size),HXd.out.trans HX2.out⟩
abbrev bkV (b:Nat):Value := .iface 49 (.pointer (some ⟨b,0,none⟩))
theorem wsubs_any (wp am B b:Nat)(tv sm pv fv:Value)(T:List Tup)(ps:List P3)(p:P3)(w:World)(hp:p.Ok)(h:WkAt w wp am B tv (bkV b) sm ps pv fv)(hb:BookAt w b T)(hl:(subsOf T p).length<=1073741824) :
  Calls Tryz.prog 204 #[.pointer (some ⟨wp,0,none⟩),pV p] w fun e w'=>∃ v,e = .returned v/\Own w' w.heap.size 33 3 v (pcs (subsOf T p))/\Ext w w':=by
 have HL:=h! hl;have HOK:=h! hp;have HSB:=h! (fun W (hW:Ext w W)=>bookSubs_any b T p W hp (hb.ext hW) hl);generalize hsl:subsOf T p=sl at *;obtain⟨pt,pi,pr⟩:=p;have hx1:=Ext.alloc w (.cells #[.string pt,.string pi,.string pr] 32);have HB1:=h! (h.box.below hx1);have HP1:=h! (Blk.made w #[.string pt,.string pi,.string pr] 32);have HX1:=h! hx1;clear hx1 h hb hp hl hsl;unfold pV at *;dsimp only at *;go_enter Tryz.func204,Tryz.ntmps204
 go_wp2_with fail
 obtain⟨wd,hwd⟩:∃ wd,wd=(w.alloc (.cells #[.string pt,.string pi,.string pr] 32)).drew:=⟨_,rfl⟩;have HBd:=h! (show Blk wd wp _ _ from by rw[hwd];exact HB1.out.drew);have HPd:=h! (show Blk wd w.heap.size #[.string pt,.string pi,.string pr] 32 from by rw[hwd];exact HP1.out.drew);have HXd:=h! (show Ext w wd from by rw[hwd];exact HX1.out.trans (Ext.drew _));refine r! (Ext wd) (by rw[<- hwd];exact Ext.refl _) ?_;rw[<- hwd];clear hwd HP1 HX1 HB1;have h1:=fun W (h:Ext wd W)=>(HBd.out.below h).cells;have h2:=fun W (h:Ext wd W)=>(HPd.out.below h).cells;(refine WalkN.tk [0,1,2,3,4] ?_;(iterate 5 (refine c! ?_));refine TkN.n ?_)
 clear h1 h2;refine o! 5 ?_;refine b! ?_;intro K hK;go_simp;refine(HSB.out wd HXd.out).mono ?_;rintro e w2 ⟨v2,rfl,ho2,hx2⟩;have HO2:=h! ho2;have HX2:=h! hx2;refine hK.out _ _ hx2 ?_;clear hK hx2;obtain⟨ao,n,c,rfl,-,-,-⟩:=ho2.sl.len;clear ho2;(refine WalkN.tk [6,7,8,9,10] ?_;(iterate 5 (refine c! ?_));refine TkN.n ?_)
 refine d! ?_;have HB2:=h! (HBd.out.below HX2.out);have hb2:=HB2.out.cells;have hz2:=HB2.out.free;have HXE:=h! ((HXd.out.trans HX2.out).sameSet (i:=6) (v := .int .i64 0) HB2.out rfl)
 have HOE:=h! ((HO2.out.low HXd.out.size).keepOwn (w':=w2.setCell ⟨wp,6,none⟩ (.int .i64 0)) fun g hg=>Below.heap_setCell _ _ _ g fun e=>by
  obtain⟨cur,h3⟩:=HO2.out.typed hg;have h4:=HB2.out;rw[show g=wp from e]at h3;rw[show w2.heap[wp]?=_ from h4]at h3;injection h3 with h3
  injection h3 with _ h3 _
  exact absurd h3 (by decide))
 clear HO2 HX2 HBd HPd;go_wp2_with fail
 go_ret
 exact⟨_,rfl,HOE.out,HXE.out⟩
theorem Blk.set3 {w:World} {B:Nat} {a b c:Value} {e:TypeId} (h:Blk w B #[a,b,c] e)(x0 x1 x2:Value):Blk (((w.setCell ⟨B,0,none⟩ x0).setCell ⟨B,1,none⟩ x1).setCell ⟨B,2,none⟩ x2) B #[x0,x1,x2] e:=((h.set_to (cs':=#[x0,b,c]) 0 x0 rfl).set_to (cs':=#[x0,x1,c]) 1 x1 rfl).set_to 2 x2 rfl
theorem isEmpty_ba (b:ByteArray):b.toList.isEmpty=decide (b=⟨#[]⟩):=by
 by_cases h:b=⟨#[]⟩
 ·subst h;simp[ByteArray.toList_eq]
 ·rw[decide_eq_false h];cases hb:b.toList.isEmpty with
  | false=>rfl
  | true =>
   refine absurd ?_ h;rw[List.isEmpty_iff,ByteArray.toList_eq]at hb;obtain⟨⟨d⟩⟩:=b;simp only at hb;subst hb;rfl
def usetF (s:P3):P3:=s
def viaF (b:ByteArray)(s:P3):P3:=⟨s.t,s.i,b⟩
theorem userset_any (s:P3)(w:World):Calls Tryz.prog 206 #[pV s] w fun e w'=>e = .returned (.tuple #[pV (usetF s),.bool (decide (s.r≠⟨#[]⟩))])/\Ext w w':=by
 obtain⟨st,si,sr⟩:=s;have hx1:Ext w ((w.alloc (.cells #[.string st,.string si,.string sr] 33)).alloc (.cells #[.string ⟨#[]⟩,.string ⟨#[]⟩,.string ⟨#[]⟩] 32)):=(Ext.alloc w _).trans (Ext.alloc _ _);have HS1:=h! ((Blk.made w #[.string st,.string si,.string sr] 33).alloc (.cells #[.string ⟨#[]⟩,.string ⟨#[]⟩,.string ⟨#[]⟩] 32));have HP1:=h! (Blk.made' (w:=w.alloc (.cells #[.string st,.string si,.string sr] 33)) (B:=w.heap.size+1) (by simp) #[.string ⟨#[]⟩,.string ⟨#[]⟩,.string ⟨#[]⟩] 32);have HX1:=h! hx1;clear hx1;unfold pV usetF;dsimp only;go_enter Tryz.func206,Tryz.ntmps206
 go_wp2_with fail
 obtain⟨wd,hwd⟩:∃ wd,wd=((w.alloc (.cells #[.string st,.string si,.string sr] 33)).alloc (.cells #[.string ⟨#[]⟩,.string ⟨#[]⟩,.string ⟨#[]⟩] 32)).drew:=⟨_,rfl⟩;have HSd:=h! (show Blk wd w.heap.size _ _ from by rw[hwd];exact HS1.out.drew);have HPd:=h! (show Blk wd (w.heap.size+1) _ _ from by rw[hwd];exact HP1.out.drew);have HXd:=h! (show Ext w wd from by rw[hwd];exact HX1.out.trans (Ext.drew _));refine r! (Kept (· ≠ w.heap.size+1) wd) (by rw[<- hwd];exact Kept.refl _ _) ?_;rw[<- hwd];clear hwd HS1 HP1 HX1;have h1:=fun W (h:Kept (· ≠ w.heap.size+1) wd W)=>(h.blk HSd.out (by show w.heap.size≠w.heap.size+1;omega)).cells;(refine WalkN.tk [0,1,2,3,4,5,6,7] ?_;(iterate 8 (refine c! ?_));refine TkN.n ?_)
 have hbf:=HPd.out.cells;have hbz:=HPd.out.free;refine o! 8 ?_;refine b! ?_;intro K hK;go_simp;refine hK.out _ _ ((((Kept.refl _ wd).set (fun h=>h rfl) _).set (fun h=>h rfl) _).set (fun h=>h rfl) _) ?_;clear hK hbf hbz;have HPe:=h! (HPd.out.set3 (.string st) (.string si) (.string sr));have HXe:=h! (show Below w.heap.size w _ from(((HXd.out:Below _ _ _).setCell (by show w.heap.size<=w.heap.size+1;omega) (.string st) (p:=⟨w.heap.size+1,0,none⟩)).setCell (by show w.heap.size<=w.heap.size+1;omega) (.string si) (p:=⟨w.heap.size+1,1,none⟩)).setCell (by show w.heap.size<=w.heap.size+1;omega) (.string sr) (p:=⟨w.heap.size+1,2,none⟩));refine t! 9 ?_
 refine d! ?_;clear h1;go_wp2_with fail
 refine bodyPost_ret (v := .tuple #[.agg #[.string st,.string si,.string sr],.bool _]) ?_ rfl ⟨rfl,HXe.out⟩;rw[results_cell_tmp rfl];have hl:=run_loadVar_row (P:=Tryz.prog) _ (w.heap.size+1) _ 32 _ _ _ HPe.out Tryz.underlying32 rfl (by kernel_rfl);simp[asAddr,hl,Result.andThen,isEmpty_ba]
theorem form1_any (rb:Nat)(k:Int)(a b:ByteArray)(pv:Value)(s:P3)(w:World)(hr:Blk w rb #[.int .i64 k,.string a,.string b,pv] 106):Calls Tryz.prog 207 #[pV s,.pointer (some ⟨rb,0,none⟩)] w fun e w'=>e = .returned (.tuple #[pV (viaF b s),.bool (decide (s.r=⟨#[]⟩))])/\Ext w w':=by
 obtain⟨st,si,sr⟩:=s;have hx1:Ext w ((w.alloc (.cells #[.string st,.string si,.string sr] 33)).alloc (.cells #[.string ⟨#[]⟩,.string ⟨#[]⟩,.string ⟨#[]⟩] 32)):=(Ext.alloc w _).trans (Ext.alloc _ _);have HS1:=h! ((Blk.made w #[.string st,.string si,.string sr] 33).alloc (.cells #[.string ⟨#[]⟩,.string ⟨#[]⟩,.string ⟨#[]⟩] 32));have HP1:=h! (Blk.made' (w:=w.alloc (.cells #[.string st,.string si,.string sr] 33)) (B:=w.heap.size+1) (by simp) #[.string ⟨#[]⟩,.string ⟨#[]⟩,.string ⟨#[]⟩] 32);have HX1:=h! hx1;have HR1:=h! (hr.below hx1);have HRL:=h! hr.lt;clear hx1 hr;unfold pV viaF;dsimp only;go_enter Tryz.func207,Tryz.ntmps207
 go_wp2_with fail
 obtain⟨wd,hwd⟩:∃ wd,wd=((w.alloc (.cells #[.string st,.string si,.string sr] 33)).alloc (.cells #[.string ⟨#[]⟩,.string ⟨#[]⟩,.string ⟨#[]⟩] 32)).drew:=⟨_,rfl⟩;have HSd:=h! (show Blk wd w.heap.size _ _ from by rw[hwd];exact HS1.out.drew);have HRd:=h! (show Blk wd rb _ _ from by rw[hwd];exact HR1.out.drew);have HPd:=h! (show Blk wd (w.heap.size+1) _ _ from by rw[hwd];exact HP1.out.drew);have HXd:=h! (show Ext w wd from by rw[hwd];exact HX1.out.trans (Ext.drew _));refine r! (Kept (· ≠ w.heap.size+1) wd) (by rw[<- hwd];exact Kept.refl _ _) ?_;rw[<- hwd];clear hwd HS1 HP1 HX1 HR1;have h1:=fun W (h:Kept (· ≠ w.heap.size+1) wd W)=>(h.blk HSd.out (by show w.heap.size≠w.heap.size+1;omega)).cells;have h2:=fun W (h:Kept (· ≠ w.heap.size+1) wd W)=>(h.blk HRd.out (by show rb≠w.heap.size+1;have:=HRL.out;omega)).cells;(refine WalkN.tk [0,1,2,3,4,5,6,7] ?_;(iterate 8 (refine c! ?_));refine TkN.n ?_)
 have hbf:=HPd.out.cells;have hbz:=HPd.out.free;refine o! 8 ?_;refine b! ?_;intro K hK;go_simp;refine hK.out _ _ ((((Kept.refl _ wd).set (fun h=>h rfl) _).set (fun h=>h rfl) _).set (fun h=>h rfl) _) ?_;clear hK hbf hbz;have HPe:=h! (HPd.out.set3 (.string st) (.string si) (.string b));have HXe:=h! (show Below w.heap.size w _ from(((HXd.out:Below _ _ _).setCell (by show w.heap.size<=w.heap.size+1;omega) (.string st) (p:=⟨w.heap.size+1,0,none⟩)).setCell (by show w.heap.size<=w.heap.size+1;omega) (.string si) (p:=⟨w.heap.size+1,1,none⟩)).setCell (by show w.heap.size<=w.heap.size+1;omega) (.string b) (p:=⟨w.heap.size+1,2,none⟩));refine t! 9 ?_
 refine d! ?_;clear h1 h2;go_wp2_with fail
 refine bodyPost_ret (v := .tuple #[.agg #[.string st,.string si,.string b],.bool _]) ?_ rfl ⟨rfl,HXe.out⟩;rw[results_cell_tmp rfl];have hl:=run_loadVar_row (P:=Tryz.prog) _ (w.heap.size+1) _ 32 _ _ _ HPe.out Tryz.underlying32 rfl (by kernel_rfl);simp[asAddr,hl,Result.andThen,isEmpty_ba]
def selF (ok:P3->Bool)(f:P3->P3)(l:List P3):List P3:=(l.filter ok).map f
theorem setsOf_sel (l:List P3):setsOf l=selF (fun s=>decide (s.r≠⟨#[]⟩)) usetF l:=by
 unfold setsOf selF;rw[show(usetF:P3->P3)=id from rfl,List.map_id]
theorem viaOf_sel (b:ByteArray)(l:List P3):viaOf b l=selF (fun s=>decide (s.r=⟨#[]⟩)) (viaF b) l:=rfl
theorem selF_yes {ok:P3->Bool} {f:P3->P3} {l:List P3} {i:Nat} (hi:i<l.length)(h:ok l[i]=true):selF ok f (l.take (i+1))=selF ok f (l.take i)++[f l[i]]:=by
 unfold selF;rw[List.take_succ_eq_append_getElem hi,List.filter_append,List.map_append];simp[h]
theorem selF_no {ok:P3->Bool} {f:P3->P3} {l:List P3} {i:Nat} (hi:i<l.length)(h:ok l[i]=false):selF ok f (l.take (i+1))=selF ok f (l.take i):=by
 unfold selF;rw[List.take_succ_eq_append_getElem hi,List.filter_append];simp[h]
theorem selF_len (ok:P3->Bool)(f:P3->P3)(l:List P3):(selF ok f l).length<=l.length:=by
 unfold selF;rw[List.length_map];exact List.length_filter_le _ _
theorem putP_len (ps:List P3)(p:P3):(putP ps p).length<=ps.length+1:=by
 unfold putP;split
 ·omega
 ·simp
theorem refsD_len2:∀ (l ps:List P3)(out:List Int),(refsD ps out l).2.length<=ps.length+l.length
 | [],ps,_=>by simp[refsD]
 | p::l,ps,out=>by
  rw[refsD];have h1:=refsD_len2 l (putP ps p) (if (numD ps p:Int)∈out then out else out++[(numD ps p:Int)]);have h2:=putP_len ps p;rw[List.length_cons];omega
theorem refsD_len1:∀ (l ps:List P3)(out:List Int),(refsD ps out l).1.length<=out.length+l.length
 | [],ps,_=>by simp[refsD]
 | p::l,ps,out=>by
  rw[refsD];have h1:=refsD_len1 l (putP ps p) (if (numD ps p:Int)∈out then out else out++[(numD ps p:Int)])
  have h2:(if (numD ps p:Int)∈out then out else out++[(numD ps p:Int)]).length<=out.length+1:=by
   split
   ·omega
   ·simp
  rw[List.length_cons];omega
theorem refs_any (wp am B:Nat)(tv fi sm pv fv:Value)(ps:List P3)(S:Nat->Prop)(lv:Value)(l:List P3)(g:Nat)(cap:Array Value)(eg:∀ args W,(callFunc g args).run Tryz.prog W = .ok (.enter g args) W)(f:P3->P3)(ok:P3->Bool)(w:World)(h:WkAt w wp am B tv fi sm ps pv fv)(hB:B<=wp/\B<=am)
  (hl:Sl S w 3 lv (pcs l)) (hS:∀ b,S b->KX wp am w pv b) (hok:∀ s∈l,(f s).Ok) (hf:∀ s∈l,∀ W,Kept (KX wp am w pv) w W->Calls Tryz.prog g (#[pV s]++cap) W fun e W'=>e = .returned (.tuple #[pV (f s),.bool (ok s)])/\Ext W W') (hn:ps.length+l.length<=1073741824) :
  Calls Tryz.prog 205 #[.pointer (some ⟨wp,0,none⟩),lv,.func (.func g) #[] cap] w fun e w'=>∃ v pv',e = .returned v/\Own w' w.heap.size 3 1 v (ic (refsD ps [] (selF ok f l)).1)/\WkAt w' wp am B tv fi sm (refsD ps [] (selF ok f l)).2 pv' fv/\Fine wp am w w' pv pv':=by
 have HBB:=h! hB;have HB0:=h! (show B<=w.heap.size from by have:=h.box.lt;omega);have HOK:=h! hok;have HF:=h! hf;have HN:=h! hn;have HSL:=h! hl;have HS:=h! hS;have HW:=h! h;obtain⟨ao,c,rfl,hlc,hcm,-⟩:=Sl.rows pC_length (by decide) (show Sl S w 3 lv (l.flatMap pC)from hl);clear hB hok hf hn hl hS h;go_enter Tryz.func205,Tryz.ntmps205
 go_wp2_with fail
 go_loopw [7,15] (fun ov iv wr=>∃ (i:Nat) (pv':Value),i<=l.length/\iv = .int .i64 i/\Own wr w.heap.size 3 1 ov (ic (refsD ps [] (selF ok f (l.take i))).1)/\WkAt wr wp am B tv fi sm (refsD ps [] (selF ok f (l.take i))).2 pv' fv/\Fine wp am w wr pv pv') (fun _ iv _=>l.length-(intOf iv).toNat)
 case atStart=>exact⟨0,pv,Nat.zero_le _,rfl,Own.nil _ _ _ _,HW.out,Fine.of _ _ _ (Ext.refl _)⟩
 case round =>
  obtain⟨i,pv',hi,rfl,hown,hwk,hpk⟩:=hrel;have HOWN:=h! hown;have HWK:=h! hwk;have HPK:=h! hpk;clear hown hwk hpk;by_cases hlt:i<l.length
  ·obtain⟨ao',c',he',-,-,hcell⟩:=Sl.rows pC_length (by decide) (show Sl S wr 3 (.slice ao l.length c) (l.flatMap pC)from HSL.out.same fun b hb=>HPK.out.kept.block b (HS.out b hb));cases he';obtain⟨b,off,rfl,-,hcell⟩:=hcell (by omega);have hck:=hcell i hlt;clear hcell;have HYES:=h! (selF_yes (ok:=ok) (f:=f) hlt);have HNO:=h! (selF_no (ok:=ok) (f:=f) hlt);have HFS:=h! (HF.out l[i] (List.getElem_mem hlt));have HOKS:=h! (HOK.out l[i] (List.getElem_mem hlt));have HTK:=h! (show(selF ok f (l.take i)).length<=i from Nat.le_trans (selF_len _ _ _) (by rw[List.length_take];omega));have HL2:=h! (refsD_len2 (selF ok f (l.take i)) ps []);have HL1:=h! (refsD_len1 (selF ok f (l.take i)) ps []);have HSN:=h! (fun p=>refsD_snoc (selF ok f (l.take i)) ps [] p);generalize selF ok f (l.take i)=sl at *;have HLT:=h! hlt;generalize l[i]=s at *;generalize hq:f s=q at *;generalize hr:refsD ps [] sl=r at *;obtain⟨ro,rp⟩:=r;dsimp only at HOWN HWK HL1 HL2 HSN;obtain⟨st,si,sr⟩:=s;obtain⟨qt,qi,qr⟩:=q;have c0:wr.cell? ⟨b,off+i*3,none⟩=some (.string st):=hck 0 _ rfl;have c1:=hck 1 _ rfl;have c2:=hck 2 _ rfl;have HRD:=h! hr;clear hck hr hq;have hx1:=Ext.alloc wr (.cells #[.string st,.string si,.string sr] 33);have HX1:=h! hx1;have HCF:=h! (HFS.out _ (HPK.out.trans (Fine.of _ _ _ hx1)).kept);clear hx1 HFS;unfold pV at HCF;dsimp only at HCF;cases hokq:ok ⟨st,si,sr⟩ with
   | false =>
    rw[hokq]at HCF HNO HYES;have HNO2:=h! (HNO.out rfl);clear HYES HNO hokq;go_wp2_with fail
    refine HCF.out.mono ?_;rintro e w2 ⟨rfl,hx2⟩;have HX2:=h! (show Ext wr w2 from HX1.out.trans hx2);have HX3:=h! (Ext.alloc w2 (.cells #[.string qt,.string qi,.string qr] 32));clear HCF hx2 c0 c1 c2;go_wp2_with fail
    go_roundw
    case rel=>exact⟨i+1,pv',HLT.out,by go_num,by rw[HNO2.out,HRD.out];exact HOWN.out.below (HX2.out.trans HX3.out),by rw[HNO2.out,HRD.out];exact HWK.out.ext (HX2.out.trans HX3.out),HPK.out.trans (Fine.of _ _ _ (HX2.out.trans HX3.out))⟩
    case measure=>have:=HLT.out;simp[intOf];omega
   | true =>
    rw[hokq]at HCF HNO HYES;have HYE2:=h! (HYES.out rfl);clear HYES HNO hokq;go_wp2_with fail
    refine HCF.out.mono ?_;rintro e w2 ⟨rfl,hx2⟩;have HX2:=h! (show Ext wr w2 from HX1.out.trans hx2);have HX3:=h! (Ext.alloc w2 (.cells #[.string qt,.string qi,.string qr] 32));have HP3:=h! (Blk.made w2 #[.string qt,.string qi,.string qr] 32);obtain⟨w3,hw3⟩:∃ w3,w3=w2.alloc (.cells #[.string qt,.string qi,.string qr] 32):=⟨_,rfl⟩;have HNB:=h! (number_any wp am B tv fi sm pv' fv rp ⟨qt,qi,qr⟩ w3 HOKS.out (by rw[hw3];exact HWK.out.ext (HX2.out.trans HX3.out)) HBB.out (by have:=HL2.out;have:=HTK.out;have:=HN.out;have:=HLT.out;omega));have HO3:=h! (show Own w3 w.heap.size 3 1 u7 (ic ro)from by rw[hw3];exact HOWN.out.below (HX2.out.trans HX3.out));have HNM3:=h! (show WkAt w3 wp am B tv fi sm rp pv' fv from by rw[hw3];exact HWK.out.ext (HX2.out.trans HX3.out));have HPK3:=h! (show Fine wp am w w3 pv pv' from by rw[hw3];exact HPK.out.trans (Fine.of _ _ _ (HX2.out.trans HX3.out)));subst hw3;clear HCF hx2 c0 c1 c2;unfold pV at HNB;dsimp only at HNB;go_wp2_with fail
    refine HNB.out.mono ?_;rintro e w4 ⟨pv4,rfl,hwk4,hpk4⟩;have HWK4:=h! hwk4;have HO4:=h! (hpk4.row HNM3.out HO3.out (by decide) (by decide));have HPK4:=h! (HPK3.out.trans hpk4);have HCI:=h! (containsI_any u7 ro (numD rp ⟨qt,qi,qr⟩:Nat) w4 HO4.out.sl);have HSNQ:=h! (HSN.out ⟨qt,qi,qr⟩);clear HNB hwk4 hpk4 HO3 HNM3 HPK3 HX2 HX3 HP3;generalize numD rp ⟨qt,qi,qr⟩=nu at *;obtain⟨ao2,n2,c2,rfl,hn2,-,-⟩:=HO4.out.sl.len;by_cases hm:(nu:Int)∈ro
    ·rw[if_pos hm]at HSNQ;rw[decide_eq_true hm]at HCI;clear hm;go_wp2_with fail
     refine HCI.out.mono ?_;rintro e w5 ⟨rfl,rfl⟩;go_wp2_with fail
     go_roundw
     case rel=>exact⟨i+1,pv4,HLT.out,by go_num,by rw[HYE2.out,HSNQ.out];exact HO4.out,by rw[HYE2.out,HSNQ.out];exact HWK4.out,HPK4.out⟩
     case measure=>have:=HLT.out;simp[intOf];omega
    ·rw[if_neg hm]at HSNQ;rw[decide_eq_false hm]at HCI;clear hm;go_wp2_with fail
     refine HCI.out.mono ?_;rintro e w5 ⟨rfl,rfl⟩;have HX5:=h! (Ext.alloc w5 (.cells #[.int .i64 nu] 3));clear HCI;go_wp2_with (at_builtin;go_must (refine wpList_ownw intsT rfl (.tmp 34) (.tmp 36) rfl rfl (HO4.out.below HX5.out) rfl (m:=1) (news:=[.int .i64 nu]) rfl (by intro j u hu;rw[Addr.add_lit,cell_of_row _ w5.heap.size (0+j) #[.int .i64 nu] 3 (0,0) (heap_alloc_new w5 _)];simpa using hu) (by simp[Value.oneCell']) (by have:=HL1.out;have:=HTK.out;have:=HN.out;have:=HLT.out;rw[ic_length];simp at *;omega) (by have:=HL1.out;have:=HTK.out;have:=HN.out;have:=HLT.out;rw[ic_length];simp at *;omega) (by have:=HPK4.out.size;have:=HX5.out.size;omega) ?_;intro v6 w6 hown6 hb6 hg6;have HO6:=h! (show Own w6 w.heap.size 3 1 v6 (ic (ro++[(nu:Int)]))from by rw[ic_append];exact hown6);have HWK6:=h! ((HWK4.out.ext HX5.out).grown (HO4.out.below HX5.out) (by decide) (by decide) hg6);have HPK6:=h! ((HPK4.out.trans (Fine.of _ _ _ HX5.out)).own (HO4.out.below HX5.out) hg6);clear hown6 hb6 hg6))
     go_roundw
     case rel=>exact⟨i+1,pv4,HLT.out,by go_num,by rw[HYE2.out,HSNQ.out];exact HO6.out,by rw[HYE2.out,HSNQ.out];exact HWK6.out,HPK6.out⟩
     case measure=>have:=HLT.out;simp[intOf];omega
  ·obtain rfl:i=l.length:=by omega
   have HTA:=h! (show l.take l.length=l from List.take_length);rw[HTA.out]at HOWN HWK;obtain⟨ao2,n2,c2,rfl,-,-,-⟩:=HOWN.out.sl.len;go_wp2_with fail
   go_ret
   exact⟨_,pv',rfl,HOWN.out,HWK.out,HPK.out⟩
theorem formsT:ElemT Tryz.prog 94 128 4 80:=ElemT.mk' Tryz.underlying94 (show _=some (some (.agg #[.int .i64 0,.slice none 0 0,.slice none 0 0,.slice none 0 0]),4,80)by kernel_rfl) rfl (by decide)
theorem fCs_length (q:List (FT × FV3)):(q.flatMap fC).length=q.length*4:=by rw[flat_length fC_length]
theorem Blk.put4 {w:World} {B:Nat} {a b c d:Value} {e:TypeId} (h:Blk w B #[a,b,c,d] e)(x0 x1 x2 x3:Value):Blk ((((w.setCell ⟨B,0,none⟩ x0).setCell ⟨B,1,none⟩ x1).setCell ⟨B,2,none⟩ x2).setCell ⟨B,3,none⟩ x3) B #[x0,x1,x2,x3] e:=(((h.set_to (cs':=#[x0,b,c,d]) 0 x0 rfl).set_to (cs':=#[x0,x1,c,d]) 1 x1 rfl).set_to (cs':=#[x0,x1,x2,d]) 2 x2 rfl).set_to 3 x3 rfl
theorem Own.lit1 (w:World) {B:Nat} (hB:B<=w.heap.size)(e:TypeId)(x:Value):Own (w.alloc (.cells #[x] e)) B e 1 (.slice (some ⟨w.heap.size,0,none⟩) 1 1) [x] :=
 ⟨1,by simp,.inr ⟨w.heap.size,1,#[x],rfl,hB,heap_alloc_new w _,Nat.le_refl _,by unfold maxLen;omega,by simp,by simp⟩⟩
theorem headF_len (T:List Tup)(p:P3)(k:Int)(a b:ByteArray)(ps:List P3):(headF T p k a b ps).2.2.length<=ps.length+(T.length+1):=by
 have hs:∀ q,(subsOf T q).length<=T.length:=fun q=>by
  unfold subsOf;rw[List.length_map];exact List.length_filter_le _ _
 unfold headF;split
 ·have h1:=refsD_len2 (setsOf (subsOf T p)) ps [];have h2:=selF_len (fun s=>decide (s.r≠⟨#[]⟩)) usetF (subsOf T p);rw[<- setsOf_sel]at h2;have h3:=hs p;simp only;omega
 ·split
  ·have:=putP_len ps ⟨p.t,p.i,a⟩;simp only;omega
  ·split
   ·have h1:=refsD_len2 (viaOf b (subsOf T ⟨p.t,p.i,a⟩)) ps [];have h2:=selF_len (fun s=>decide (s.r=⟨#[]⟩)) (viaF b) (subsOf T ⟨p.t,p.i,a⟩);rw[<- viaOf_sel]at h2;have h3:=hs ⟨p.t,p.i,a⟩;simp only;omega
   ·simp only;omega
theorem formD_len (T:List Tup)(p:P3)(r:RT):∀ ps:List P3,(formD T p r ps).2.length<=ps.length+r.sz*(T.length+1):=by
 induction r using RT.ind with
 | h r ih =>
  intro ps;rw[formD_eq,RT.sz_eq]
  have:∀ (l:List RT) (qs:List P3),(∀ x∈l,x∈r.ps)->(formsD T p l qs).2.length<=qs.length+szL l*(T.length+1):=by
   intro l;induction l with
   | nil=>intro qs _;simp[formsD]
   | cons x l ihl =>
    intro qs hx;rw[formsD,szL];have h1:=ihl (formD T p x qs).2 fun y hy=>hx y (List.mem_cons_of_mem _ hy);have h2:=ih x (hx x (by simp)) qs;rw[Nat.add_mul];simp only;omega
  have h1:=this r.ps (headF T p r.k r.a r.b ps).2.2 fun _ h=>h;have h2:=headF_len T p r.k r.a r.b ps;rw[Nat.add_mul];simp only;omega
theorem formsD_len (T:List Tup)(p:P3):∀ (l:List RT)(qs:List P3),(formsD T p l qs).2.length<=qs.length+szL l*(T.length+1)
 | [],qs=>by simp[formsD]
 | x::l,qs=>by
  rw[formsD,szL];have h1:=formsD_len T p l (formD T p x qs).2;have h2:=formD_len T p x qs;rw[Nat.add_mul];simp only;omega
theorem szL_many:∀ l:List RT,l.length<=szL l
 | []=>by simp[szL]
 | r::l=>by
  have:=szL_many l;have h:=r.sz_eq;rw[szL,List.length_cons];omega
theorem szL_take_le:∀ (l:List RT)(i:Nat),szL (l.take i)<=szL l
 | [],i=>by simp
 | r::l,0=>by simp[szL]
 | r::l,i+1=>by
  have:=szL_take_le l i;rw[List.take_succ_cons,szL,szL];omega
theorem form_room {T:List Tup} {p:P3} {k:Int} {a b:ByteArray} {parts:List RT} {ps:List P3} {N:Nat} (h:ps.length+(RT.mk k a b parts).sz*(T.length+1)<=N)(i:Nat)(hi:i<parts.length):(formsD T p (parts.take i) (headF T p k a b ps).2.2).2.length+parts[i].sz*(T.length+1)<=N:=by
 rw[RT.sz_eq]at h;have h1:=formsD_len T p (parts.take i) (headF T p k a b ps).2.2;have h2:=headF_len T p k a b ps;have h3:=szL_take hi;have h4:=szL_take_le parts (i+1);have h5:szL (parts.take (i+1))*(T.length+1)<=szL parts*(T.length+1):=Nat.mul_le_mul_right _ h4;rw[h3,Nat.add_mul]at h5;rw[Nat.add_mul]at h;simp only[RT.ps]at h;omega
structure FmAt (w:World)(lo x:Nat)(k:Int)(subs:List P3)(refs:List Int)(q:List (FT × FV3))(sv rv qv:Value):Prop where
 box:Blk w x #[.int .i64 k,sv,rv,qv] 128
 subs:Own w lo 33 3 sv (pcs subs)
 refs:Own w lo 3 1 rv (ic refs)
 parts:FRow lo w q qv
section
variable {w w' : World} {lo x wp am B : Nat} {k : Int} {subs : List P3} {refs : List Int} {q : List (FT × FV3)} {sv rv qv tv fi sm pv fv pv' : Value} {ps : List P3}
theorem FmAt.fine (h:FmAt w lo x k subs refs q sv rv qv)(hw:WkAt w wp am B tv fi sm ps pv fv)(hf:Fine wp am w w' pv pv')(hB:B<=wp/\B<=am)(hM:wp<lo/\am<lo):FmAt w' lo x k subs refs q sv rv qv :=
 ⟨hf.blk hw h.box (by decide) (by decide),hf.row hw h.subs (by decide) (by decide),hf.row hw h.refs (by decide) (by decide),h.parts.keep (hf.pk hw hB) fun x hx=>by
  rcases hx with rfl | rfl
  ·exact hM.1
  ·exact hM.2⟩
theorem FmAt.ext (h:FmAt w lo x k subs refs q sv rv qv)(hx:Ext w w'):FmAt w' lo x k subs refs q sv rv qv:=⟨h.box.below hx,h.subs.below hx,h.refs.below hx,h.parts.ext hx⟩
theorem FmAt.add {w2 w3 w4:World} {y:FT × FV3} {v':Value} {n0:Nat} (h:FmAt w2 lo x k subs refs q sv rv qv)(hx3:Ext w2 w3)(hg:w3.grownBy w4 qv.ownBlock)(ho:Own w4 lo 128 4 v' (q.flatMap fC++fC y))
  (hb:∀ g,v'.ownBlock=some g->qv.ownBlock=some g\/w3.heap.size<=g) (hy:FTAt (FS n0 w2) w2 y.1 y.2) (hn0:lo<=n0) (hpv:∀ g,qv.ownBlock=some g->g<n0) (hxl:x<lo):FmAt (w4.setCell ⟨x,3,none⟩ v') lo x k subs refs (q++[y]) sv rv v':=by
 have hb4:Blk w4 x #[.int .i64 k,sv,rv,qv] 128:=(hg.block x (h.box.below hx3).lt fun e=>by have:=(h.parts.row.block x e.symm).1;omega).trans (h.box.below hx3);have hq3:=h.parts.row.below hx3;refine⟨hb4.set_to 3 v' rfl,?_,?_,?_⟩
 ·exact Own.setBox (x:=x) ((h.subs.below hx3).keepOwn fun g hgs=>hg.block g ((h.subs.below hx3).block g hgs).2 fun e=>(h.subs.below hx3).apart hq3 (by decide) hgs e.symm) hb4 (by decide) _
 ·exact Own.setBox (x:=x) ((h.refs.below hx3).keepOwn fun g hgs=>hg.block g ((h.refs.below hx3).block g hgs).2 fun e=>(h.refs.below hx3).apart hq3 (by decide) hgs e.symm) hb4 (by decide) _
 ·refine FRow.above (h.parts.add (w3:=w4) (fun b h1 h2=>(hg.block b (Nat.lt_of_lt_of_le h1 hx3.size) fun e=>h2 e.symm).trans (hx3.block b h1)) (Nat.le_trans hx3.size hg.size) ho (fun g hg'=>(hb g hg').imp id fun e=>Nat.le_trans hx3.size e) hy hn0 hpv) (fun b hb _=>Below.heap_setCell _ _ _ b (by show b≠x;omega)) (by simp)
theorem FmAt.setSubs {s2:List P3} {sv':Value} (h:FmAt w lo x k subs refs q sv rv qv)(hs:Own w lo 33 3 sv' (pcs s2))(hx:x<lo):FmAt (w.setCell ⟨x,1,none⟩ sv') lo x k s2 refs q sv' rv qv :=
 ⟨h.box.set_to 1 sv' rfl,hs.setBox (x:=x) h.box (by decide) _,h.refs.setBox (x:=x) h.box (by decide) _,FRow.above h.parts (fun b hb _=>Below.heap_setCell _ _ _ b (by show b≠x;omega)) (by simp)⟩
theorem FmAt.setRefs {r2:List Int} {rv':Value} (h:FmAt w lo x k subs refs q sv rv qv)(hs:Own w lo 3 1 rv' (ic r2))(hx:x<lo):FmAt (w.setCell ⟨x,2,none⟩ rv') lo x k subs r2 q sv rv' qv :=
 ⟨h.box.set_to 2 rv' rfl,h.subs.setBox (x:=x) h.box (by decide) _,hs.setBox (x:=x) h.box (by decide) _,FRow.above h.parts (fun b hb _=>Below.heap_setCell _ _ _ b (by show b≠x;omega)) (by simp)⟩
theorem formsD_len1 (T:List Tup)(p:P3):∀ (l:List RT)(qs:List P3),(formsD T p l qs).1.length=l.length
 | [],qs=>rfl
 | x::l,qs=>by rw[formsD,List.length_cons,List.length_cons,formsD_len1 T p l]
theorem FmAt.done {r:FT} (h:FmAt w lo x k subs refs q sv rv qv)(hr:r = .mk k subs refs (q.map (·.1)))(hs:∀ b,lo<=b->b<w.heap.size->w'.heap[b]?=w.heap[b]?)(hz:w.heap.size<=w'.heap.size):FTAt (FS lo w') w' r (sv,rv,qv):=by
 have hsame:Same (FS lo w) w w':=fun b hb=>hs b hb.1 hb.2.1;have hmono:∀ b,FS lo w b->FS lo w' b:=fun b hb=>⟨hb.1,Nat.lt_of_lt_of_le hb.2.1 hz,fun cs=>by rw[hs b hb.1 hb.2.1];exact hb.2.2 cs⟩;refine(FTAt.iff _ _).2 ?_;subst hr;refine⟨((h.subs.fs (by decide)).same hsame).mono hmono,((h.refs.fs (by decide)).same hsame).mono hmono,q,rfl,fun y hy=>?_,((h.parts.row.fs (by decide)).same hsame).mono hmono⟩;exact(((h.parts.parts y hy).mono fun b hb=>hb.1).same hsame).mono hmono
end
theorem form_any (wp am B b:Nat)(tv sm fv:Value)(T:List Tup)(p:P3)(wb:World)(hp:p.Ok)(hT:∀ t∈T,t.s.Ok)(hTl:T.length<=1000000)(hB:B<=wp/\B<=am)(hbk:BookAt wb b T)(hwb:wb.heap.size<=B)(r:RT):∀ (pv rpv:Value)(ps:List P3)(w:World),r.Ok->RTAt (· < B) w r rpv->Below B wb w->WkAt w wp am B tv (bkV b) sm ps pv fv->ps.length+r.sz*(T.length+1)<=1073741824 ->
  Calls Tryz.prog 152 #[.pointer (some ⟨wp,0,none⟩),pV p,rV r rpv] w fun e w'=>∃ v3 pv',e = .returned (fV (formD T p r ps).1 v3)/\FTAt (FS w.heap.size w') w' (formD T p r ps).1 v3/\WkAt w' wp am B tv (bkV b) sm (formD T p r ps).2 pv' fv/\Fine wp am w w' pv pv':=by
 have HPO:=h! hp;have HTO:=h! hT;have HTL:=h! hTl;have HB:=h! hB;have HBK:=h! (fun W (h:Below B wb W)=>hbk.ext (h.mono hwb));clear hp hT hTl hB hbk hwb;obtain⟨pt,pi,pr⟩:=p;induction r using RT.ind with
 | h r ih =>
 intro pv rpv ps w hro hat hbw hwk hlen;have HFD:=h! (formD_eq T ⟨pt,pi,pr⟩ r ps);have HRO:=h! r.ok_iff;have HROK:=h! ((RT.ok_iff r).1 hro);obtain⟨k,ra,rb,parts⟩:=r;dsimp only[RT.k,RT.a,RT.b,RT.ps]at HFD ih HROK;have HIH:=h! ih;have HRT:=h! hat;have HBW:=h! hbw;have HLEN:=h! hlen;have HROOM:=h! (form_room (p:=⟨pt,pi,pr⟩) hlen)
 have HSUBL:=h! (show ∀ q,(subsOf T q).length<=T.length from fun q=>by
  unfold subsOf;rw[List.length_map];exact List.length_filter_le _ _)
 have HSUBO:=h! (show ∀ q,∀ s∈subsOf T q,s.Ok from fun q s hs=>by
  obtain⟨t,ht,-,rfl⟩:=subsOf_mem hs;exact HTO.out t ht)
 have HLT:=h! (show wp<w.heap.size/\am<w.heap.size from⟨hwk.box.lt,hwk.num.lt⟩)
 have HPSL:=h! (show ps.length+(T.length+1)<=1073741824 from by
  have h1:=(RT.mk k ra rb parts).sz_eq;rw[h1,Nat.add_mul]at hlen;omega)
 obtain⟨ao,c,rfl,hlc,hcm,-⟩:=hat.rows;dsimp only[RT.ps]at hlc hcm ⊢;obtain⟨wa,hwa⟩:∃ x,x=w.alloc (.cells #[.string pt,.string pi,.string pr] 32):=⟨_,rfl⟩;obtain⟨wc,hwc⟩:∃ x,x=wa.alloc (.cells #[.int .i64 k,.string ra,.string rb,.slice ao parts.length c] 106):=⟨_,rfl⟩;obtain⟨wd,hwd⟩:∃ x,x=wc.alloc (.cells #[.int .i64 0,.slice none 0 0,.slice none 0 0,.slice none 0 0] 128):=⟨_,rfl⟩;obtain⟨we,hwe⟩:∃ x,x=wd.alloc (.cells #[.int .i64 k,.slice none 0 0,.slice none 0 0,.slice none 0 0] 128):=⟨_,rfl⟩;have ea:wa.heap.size=w.heap.size+1:=by rw[hwa];simp
 have ec:wc.heap.size=w.heap.size+2:=by rw[hwc];simp[ea]
 have ed:wd.heap.size=w.heap.size+3:=by rw[hwd];simp[ec]
 have ee:we.heap.size=w.heap.size+4:=by rw[hwe];simp[ed]
 have xa:Ext w wa:=by rw[hwa];exact Ext.alloc _ _
 have xc:Ext wa wc:=by rw[hwc];exact Ext.alloc _ _
 have xd:Ext wc wd:=by rw[hwd];exact Ext.alloc _ _
 have xe:Ext wd we:=by rw[hwe];exact Ext.alloc _ _
 have EZ:=h! ee;have EX:=h! (show Ext w we from xa.trans (xc.trans (xd.trans xe)));have EP:=h! (show Blk we w.heap.size #[.string pt,.string pi,.string pr] 32 from Blk.below (by rw[hwa];exact Blk.made _ _ _) (xc.trans (xd.trans xe)));have ER:=h! (show Blk we (w.heap.size+1) #[.int .i64 k,.string ra,.string rb,.slice ao parts.length c] 106 from Blk.below (by rw[hwc,<- ea];exact Blk.made _ _ _) (xd.trans xe));have EO:=h! (show Blk we (w.heap.size+2) #[.int .i64 0,.slice none 0 0,.slice none 0 0,.slice none 0 0] 128 from Blk.below (by rw[hwd,<- ec];exact Blk.made _ _ _) xe);have EF:=h! (show FmAt we (w.heap.size+4) (w.heap.size+3) k [] [] [] (.slice none 0 0) (.slice none 0 0) (.slice none 0 0)from⟨by rw[hwe,<- ed];exact Blk.made _ _ _,Own.nil _ _ _ _,Own.nil _ _ _ _,FRow.nil _ _⟩);have EW:=h! (hwk.ext EX.out);have EB:=h! (show Below B wb we from hbw.trans (EX.out.mono (by have:=hwk.box.lt;have:=HB.out.1;omega)));have HPVB:=h! (fun g hg=>hwk.pts.block g hg);clear ea ec ed ee xa xc xd xe ih hro hat hbw hwk hlen;subst hwe hwd hwc hwa;unfold pV rV;dsimp only[RT.k,RT.a,RT.b,RT.ps]
 have four:Hid (k=1)\/Hid (k=2)\/Hid (k=3)\/Hid (k≠1/\k≠2/\k≠3):=by
  by_cases h1:k=1
  ·exact .inl h1
  ·by_cases h2:k=2
   ·exact .inr (.inl h2)
   ·by_cases h3:k=3
    ·exact .inr (.inr (.inl h3))
    ·exact .inr (.inr (.inr ⟨h1,h2,h3⟩))
 rcases four with HK | HK | HK | HK
 case' inl =>
  have q1:(k == 1)=true:=by rw[HK.out];rfl
  have hpp:=EP.out.cells;go_enter Tryz.func152,Tryz.ntmps152
  go_wp2_with fail
  clear hpp;obtain⟨we,hwe⟩:∃ x,x=(((w.alloc (.cells #[.string pt,.string pi,.string pr] 32)).alloc (.cells #[.int .i64 k,.string ra,.string rb,.slice ao parts.length c] 106)).alloc (.cells #[.int .i64 0,.slice none 0 0,.slice none 0 0,.slice none 0 0] 128)).alloc (.cells #[.int .i64 k,.slice none 0 0,.slice none 0 0,.slice none 0 0] 128):=⟨_,rfl⟩;rw[<- hwe]at EX EP ER EO EF EW EB EZ ⊢;clear hwe;have HSB:=h! (wsubs_any wp am B b tv sm pv fv T ps ⟨pt,pi,pr⟩ we HPO.out EW.out (HBK.out we EB.out) (Nat.le_trans (HSUBL.out _) (by have:=HTL.out;omega)));refine HSB.out.mono ?_;rintro e w2 ⟨v2,rfl,ho2,hx2⟩;have HSO:=h! (HSUBO.out ⟨pt,pi,pr⟩);have HSL:=h! (HSUBL.out ⟨pt,pi,pr⟩);generalize hsb:subsOf T ⟨pt,pi,pr⟩=sb at *;obtain⟨so,sn,sc,rfl,-,-,-⟩:=ho2.sl.len;have F2:=h! (EF.out.ext hx2);have W2:=h! (EW.out.ext hx2);have P2:=h! (EP.out.below hx2);have O2:=h! (EO.out.below hx2);have R2:=h! (ER.out.below hx2);have S2:=h! (ho2.low (B':=w.heap.size+4) (Nat.le_of_eq EZ.out.symm));have X2:=h! (show Ext w w2 from EX.out.trans hx2);have B2:=h! (show Below B wb w2 from EB.out.trans (hx2.mono (by have:=EZ.out;have:=HB.out.1;have:=HLT.out.1;omega)));have Z2:=h! (show w.heap.size+4<=w2.heap.size from by have:=EZ.out;have:=hx2.size;omega);clear HSB ho2 hx2 EF EW EP EO ER EB EX EZ;have hbf:=F2.out.box.cells;have hbz:=F2.out.box.free;have F3:=h! (F2.out.setSubs S2.out (by omega));have W3:=h! (W2.out.setBox (i:=1) F2.out.box (by decide) (by decide) (.slice so sn sc));have S3:=h! (S2.out.setBox (i:=1) F2.out.box (by decide) (.slice so sn sc));have P3:=h! (P2.out.other (a:=⟨w.heap.size+3,1,none⟩) (by show w.heap.size≠w.heap.size+3;omega) (.slice so sn sc));have O3:=h! (O2.out.other (a:=⟨w.heap.size+3,1,none⟩) (by show w.heap.size+2≠w.heap.size+3;omega) (.slice so sn sc));have R3:=h! (R2.out.other (a:=⟨w.heap.size+3,1,none⟩) (by show w.heap.size+1≠w.heap.size+3;omega) (.slice so sn sc));have N3:=h! ((Fine.of wp am pv X2.out).set (x:=w.heap.size+3) (i:=1) (by omega) (.slice so sn sc));have B3:=h! (show Below B wb (w2.setCell ⟨w.heap.size+3,1,none⟩ (.slice so sn sc))from B2.out.setCell (by have:=HB.out.1;have:=HLT.out.1;show B<=w.heap.size+3;omega) _);have Z3:=h! (show w.heap.size+4<=(w2.setCell ⟨w.heap.size+3,1,none⟩ (.slice so sn sc)).heap.size from by simpa using Z2.out);have hbc:=F3.out.box.cells;have HRF:=h! (refs_any wp am B tv (bkV b) sm pv fv ps (KX wp am (w2.setCell ⟨w.heap.size+3,1,none⟩ (.slice so sn sc)) pv) (.slice so sn sc) sb 206 #[] (enters_of Tryz.func206 (by kernel_rfl) rfl) usetF (fun s=>decide (s.r≠⟨#[]⟩)) (w2.setCell ⟨w.heap.size+3,1,none⟩ (.slice so sn sc)) W3.out HB.out (W3.out.sl S3.out (by decide) (by decide)) (fun _ h=>h) (fun s hs=>HSO.out s hs) (fun s _ W _=>userset_any s W) (by have:=HSL.out;have:=HPSL.out;omega));generalize hR:refsD ps [] (selF (fun s=>decide (s.r≠⟨#[]⟩)) usetF sb)=R at *;obtain⟨ro,rp⟩:=R;dsimp only at HRF;clear F2 W2 P2 O2 R2 S2 X2 B2 Z2;have HH:=h! (show headF T ⟨pt,pi,pr⟩ k ra rb ps=(sb,ro,rp)from by unfold headF;rw[if_pos HK.out,hsb,setsOf_sel,hR]);go_wp2_with fail
  refine HRF.out.mono ?_;clear hbf hbz hbc hsb hR;rintro e w4 ⟨v4,pv4,rfl,ho4,hwk4,hfn4⟩;obtain⟨ro4,rn4,rc4,rfl,-,-,-⟩:=ho4.sl.len;have F4:=h! (F3.out.fine W3.out hfn4 HB.out ⟨by have:=HLT.out.1;omega,by have:=HLT.out.2;omega⟩);have P4:=h! (show Blk w4 w.heap.size _ _ from(hfn4.kept.block _ ⟨P3.out.lt,by have:=HLT.out.1;omega,by have:=HLT.out.2;omega,fun e=>absurd (HPVB.out _ e).2 (Nat.lt_irrefl _)⟩).trans P3.out);have O4:=h! (hfn4.blk W3.out O3.out (by decide) (by decide));have R4:=h! (hfn4.blk W3.out R3.out (by decide) (by decide));have S4:=h! (ho4.low (B':=w.heap.size+4) Z3.out);have N4:=h! (N3.out.trans hfn4);have B4:=h! (show Below B wb w4 from B3.out.trans (hfn4.pk W3.out HB.out).below);have Z4:=h! (show w.heap.size+4<=w4.heap.size from Nat.le_trans Z3.out hfn4.size);have FPW:=h! (show ∀ g,pv4.ownBlock=some g->pv.ownBlock=some g\/w.heap.size+4<=g from fun g hg=>(hfn4.wher g hg).imp id fun e=>Nat.le_trans Z3.out e);have W4:=h! hwk4;clear HRF ho4 hwk4 hfn4 F3 W3 P3 O3 R3 N3 B3 Z3;have hbf:=F4.out.box.cells;have hbz:=F4.out.box.free;have FM:=h! (F4.out.setRefs S4.out (by omega));have FW:=h! (W4.out.setBox (i:=2) F4.out.box (by decide) (by decide) (.slice ro4 rn4 rc4));have FP:=h! (P4.out.other (a:=⟨w.heap.size+3,2,none⟩) (by show w.heap.size≠w.heap.size+3;omega) (.slice ro4 rn4 rc4));have FO:=h! (O4.out.other (a:=⟨w.heap.size+3,2,none⟩) (by show w.heap.size+2≠w.heap.size+3;omega) (.slice ro4 rn4 rc4));have FR:=h! (R4.out.other (a:=⟨w.heap.size+3,2,none⟩) (by show w.heap.size+1≠w.heap.size+3;omega) (.slice ro4 rn4 rc4));have FN:=h! (N4.out.set (x:=w.heap.size+3) (i:=2) (by omega) (.slice ro4 rn4 rc4));have FB:=h! (show Below B wb (w4.setCell ⟨w.heap.size+3,2,none⟩ (.slice ro4 rn4 rc4))from B4.out.setCell (by have:=HB.out.1;have:=HLT.out.1;show B<=w.heap.size+3;omega) _);have FZ:=h! (show w.heap.size+4<=(w4.setCell ⟨w.heap.size+3,2,none⟩ (.slice ro4 rn4 rc4)).heap.size from by simpa using Z4.out);clear F4 W4 P4 O4 R4 S4 N4 B4 Z4;have hrc:=FR.out.cells;go_wp2_with fail
  clear hrc hbf hbz;obtain⟨wl,hwl⟩:∃ x,x=w4.setCell ⟨w.heap.size+3,2,none⟩ (.slice ro4 rn4 rc4):=⟨_,rfl⟩;rw[<- hwl]at FM FW FP FO FR FN FB FZ ⊢;clear hwl
 case' inr.inl =>
  have q1:(k == 1)=false:=by rw[HK.out];rfl
  have q2:(k == 2)=true:=by rw[HK.out];rfl
  have hrr:=ER.out.cells;have hpp:=EP.out.cells;go_enter Tryz.func152,Tryz.ntmps152
  go_wp2_with fail
  clear hrr hpp;obtain⟨we,hwe⟩:∃ x,x=(((w.alloc (.cells #[.string pt,.string pi,.string pr] 32)).alloc (.cells #[.int .i64 k,.string ra,.string rb,.slice ao parts.length c] 106)).alloc (.cells #[.int .i64 0,.slice none 0 0,.slice none 0 0,.slice none 0 0] 128)).alloc (.cells #[.int .i64 k,.slice none 0 0,.slice none 0 0,.slice none 0 0] 128):=⟨_,rfl⟩;rw[<- hwe]at EX EP ER EO EF EW EB EZ ⊢;clear hwe;have HNB:=h! (number_any wp am B tv (bkV b) sm pv fv ps ⟨pt,pi,ra⟩ we ⟨HPO.out.1,HPO.out.2.1,by have:=HROK.out.2.1;show ra.size<=maxLen;unfold maxLen;omega⟩ EW.out HB.out (by have:=HPSL.out;omega));have HH:=h! (show headF T ⟨pt,pi,pr⟩ k ra rb ps=([],[(numD ps ⟨pt,pi,ra⟩:Int)],putP ps ⟨pt,pi,ra⟩)from by unfold headF;rw[if_neg (by rw[HK.out];decide),if_pos HK.out]);refine HNB.out.mono ?_;rintro e w3 ⟨pv4,rfl,hwk3,hfn3⟩;generalize numD ps ⟨pt,pi,ra⟩=nu at *;generalize putP ps ⟨pt,pi,ra⟩=rp at *;have Z3:=h! (show w.heap.size+4<=w3.heap.size from by have:=EZ.out;have:=hfn3.size;omega);have hx4:=Ext.alloc w3 (.cells #[.int .i64 nu] 3);have F4:=h! ((EF.out.fine EW.out hfn3 HB.out ⟨by have:=HLT.out.1;omega,by have:=HLT.out.2;omega⟩).ext hx4);have P4:=h! ((show Blk w3 w.heap.size _ _ from(hfn3.kept.block _ ⟨EP.out.lt,by have:=HLT.out.1;omega,by have:=HLT.out.2;omega,fun e=>absurd (HPVB.out _ e).2 (Nat.lt_irrefl _)⟩).trans EP.out).below hx4);have O4:=h! ((hfn3.blk EW.out EO.out (by decide) (by decide)).below hx4);have R4:=h! ((hfn3.blk EW.out ER.out (by decide) (by decide)).below hx4);have S4:=h! (show Own _ (w.heap.size+4) 3 1 _ (ic [(nu:Int)])from Own.lit1 w3 Z3.out 3 (.int .i64 nu));have N4:=h! (((Fine.of wp am pv EX.out).trans hfn3).trans (Fine.of _ _ _ hx4));have B4:=h! (show Below B wb _ from(EB.out.trans (hfn3.pk EW.out HB.out).below).trans (hx4.mono (by have:=Z3.out;have:=HB.out.1;have:=HLT.out.1;omega)));have FPW:=h! (show ∀ g,pv4.ownBlock=some g->pv.ownBlock=some g\/w.heap.size+4<=g from fun g hg=>(hfn3.wher g hg).imp id fun e=>by have:=EZ.out;omega);have W4:=h! (hwk3.ext hx4);have Z4:=h! (show w.heap.size+4<=(w3.alloc (.cells #[.int .i64 nu] 3)).heap.size from Nat.le_trans Z3.out hx4.size);clear HNB hwk3 hfn3 EF EW EP EO ER EB EX EZ hx4;have hbf:=F4.out.box.cells;have hbz:=F4.out.box.free;have FM:=h! (F4.out.setRefs S4.out (by omega));have FW:=h! (W4.out.setBox (i:=2) F4.out.box (by decide) (by decide) (.slice (some ⟨w3.heap.size,0,none⟩) 1 1));have FP:=h! (P4.out.other (a:=⟨w.heap.size+3,2,none⟩) (by show w.heap.size≠w.heap.size+3;omega) (.slice (some ⟨w3.heap.size,0,none⟩) 1 1));have FO:=h! (O4.out.other (a:=⟨w.heap.size+3,2,none⟩) (by show w.heap.size+2≠w.heap.size+3;omega) (.slice (some ⟨w3.heap.size,0,none⟩) 1 1));have FR:=h! (R4.out.other (a:=⟨w.heap.size+3,2,none⟩) (by show w.heap.size+1≠w.heap.size+3;omega) (.slice (some ⟨w3.heap.size,0,none⟩) 1 1));have FN:=h! (N4.out.set (x:=w.heap.size+3) (i:=2) (by omega) (.slice (some ⟨w3.heap.size,0,none⟩) 1 1));have FB:=h! (B4.out.setCell (p:=⟨w.heap.size+3,2,none⟩) (by have:=HB.out.1;have:=HLT.out.1;show B<=w.heap.size+3;omega) (.slice (some ⟨w3.heap.size,0,none⟩) 1 1));have FZ:=h! (show w.heap.size+4<=((w3.alloc (.cells #[.int .i64 nu] 3)).setCell ⟨w.heap.size+3,2,none⟩ (.slice (some ⟨w3.heap.size,0,none⟩) 1 1)).heap.size from by simpa using Z4.out);clear F4 W4 P4 O4 R4 S4 N4 B4 Z4 Z3;have hrc:=FR.out.cells;go_wp2_with fail
  clear hrc hbf hbz;obtain⟨wl,hwl⟩:∃ x,x=(w3.alloc (.cells #[.int .i64 nu] 3)).setCell ⟨w.heap.size+3,2,none⟩ (.slice (some ⟨w3.heap.size,0,none⟩) 1 1):=⟨_,rfl⟩;rw[<- hwl]at FM FW FP FO FR FN FB FZ ⊢;clear hwl;obtain⟨ro4,rn4,rc4,hr⟩:∃ (a:Option Addr) (b c:Nat),Value.slice a b c = .slice (some ⟨w3.heap.size,0,none⟩) 1 1:=⟨_,_,_,rfl⟩;rw[<- hr]at FM;clear hr;obtain⟨ro,hro⟩:∃ ro:List Int,ro=[(nu:Int)]:=⟨_,rfl⟩;rw[<- hro]at FM HH;clear hro;obtain⟨so,sn,sc,hs⟩:∃ (so:Option Addr) (sn sc:Nat),Value.slice so sn sc = .slice none 0 0:=⟨_,_,_,rfl⟩;obtain⟨sb,hsb⟩:∃ sb:List P3,sb=[]:=⟨_,rfl⟩;have FM:=h! (show FmAt wl (w.heap.size+4) (w.heap.size+3) k sb ro [] (.slice so sn sc) (.slice ro4 rn4 rc4) (.slice none 0 0)from by rw[hs,hsb];exact FM.out);have HH:=h! (show headF T ⟨pt,pi,pr⟩ k ra rb ps=(sb,ro,rp)from by rw[hsb];exact HH.out);clear hs hsb
 case' inr.inr.inl =>
  have q1:(k == 1)=false:=by rw[HK.out];rfl
  have q2:(k == 2)=false:=by rw[HK.out];rfl
  have q3:(k == 3)=true:=by rw[HK.out];rfl
  have hrr:=ER.out.cells;have hpp:=EP.out.cells;go_enter Tryz.func152,Tryz.ntmps152
  go_wp2_with fail
  clear hrr hpp;obtain⟨we,hwe⟩:∃ x,x=(((w.alloc (.cells #[.string pt,.string pi,.string pr] 32)).alloc (.cells #[.int .i64 k,.string ra,.string rb,.slice ao parts.length c] 106)).alloc (.cells #[.int .i64 0,.slice none 0 0,.slice none 0 0,.slice none 0 0] 128)).alloc (.cells #[.int .i64 k,.slice none 0 0,.slice none 0 0,.slice none 0 0] 128):=⟨_,rfl⟩;rw[<- hwe]at EX EP ER EO EF EW EB EZ ⊢;clear hwe;have HSB:=h! (wsubs_any wp am B b tv sm pv fv T ps ⟨pt,pi,ra⟩ we ⟨HPO.out.1,HPO.out.2.1,by have:=HROK.out.2.1;show ra.size<=maxLen;unfold maxLen;omega⟩ EW.out (HBK.out we EB.out) (Nat.le_trans (HSUBL.out _) (by have:=HTL.out;omega)));refine HSB.out.mono ?_;rintro e w2 ⟨v2,rfl,ho2,hx2⟩;have HSO:=h! (HSUBO.out ⟨pt,pi,ra⟩);have HSL:=h! (HSUBL.out ⟨pt,pi,ra⟩);generalize hsb:subsOf T ⟨pt,pi,ra⟩=sb at *;obtain⟨so,sn,sc,rfl,-,-,-⟩:=ho2.sl.len;have F2:=h! (EF.out.ext hx2);have W2:=h! (EW.out.ext hx2);have P2:=h! (EP.out.below hx2);have O2:=h! (EO.out.below hx2);have R2:=h! (ER.out.below hx2);have S2:=h! (ho2.low (B':=w.heap.size+4) (Nat.le_of_eq EZ.out.symm));have X2:=h! (show Ext w w2 from EX.out.trans hx2);have B2:=h! (show Below B wb w2 from EB.out.trans (hx2.mono (by have:=EZ.out;have:=HB.out.1;have:=HLT.out.1;omega)));have Z2:=h! (show w.heap.size+4<=w2.heap.size from by have:=EZ.out;have:=hx2.size;omega);clear HSB ho2 hx2 EF EW EP EO ER EB EX EZ;have F3:=F2;have W3:=W2;have S3:=S2;have P3:=P2;have O3:=O2;have R3:=R2;have N3:=h! (Fine.of wp am pv X2.out);have B3:=B2;have Z3:=Z2;have HRF:=h! (refs_any wp am B tv (bkV b) sm pv fv ps (KX wp am (w2) pv) (.slice so sn sc) sb 207 #[.pointer (some ⟨w.heap.size+1,0,none⟩)] (enters_of Tryz.func207 (by kernel_rfl) rfl) (viaF rb) (fun s=>decide (s.r=⟨#[]⟩)) (w2) W3.out HB.out (W3.out.sl S3.out (by decide) (by decide)) (fun _ h=>h) (fun s hs=>⟨(HSO.out s hs).1,(HSO.out s hs).2.1,by have:=HROK.out.2.2.1;show rb.size<=maxLen;unfold maxLen;omega⟩) (fun s _ W hW=>form1_any _ _ _ _ _ s W ((hW.block _ (W3.out.un R3.out (by decide) (by decide))).trans R3.out)) (by have:=HSL.out;have:=HPSL.out;omega));generalize hR:refsD ps [] (selF (fun s=>decide (s.r=⟨#[]⟩)) (viaF rb) sb)=R at *;obtain⟨ro,rp⟩:=R;dsimp only at HRF;clear F2 W2 P2 O2 R2 S2 X2 B2 Z2;have HH:=h! (show headF T ⟨pt,pi,pr⟩ k ra rb ps=([],ro,rp)from by unfold headF;rw[if_neg (by rw[HK.out];decide),if_neg (by rw[HK.out];decide),if_pos HK.out,hsb,viaOf_sel,hR]);go_wp2_with fail
  refine HRF.out.mono ?_;clear hsb hR;rintro e w4 ⟨v4,pv4,rfl,ho4,hwk4,hfn4⟩;obtain⟨ro4,rn4,rc4,rfl,-,-,-⟩:=ho4.sl.len;have F4:=h! (F3.out.fine W3.out hfn4 HB.out ⟨by have:=HLT.out.1;omega,by have:=HLT.out.2;omega⟩);have P4:=h! (show Blk w4 w.heap.size _ _ from(hfn4.kept.block _ ⟨P3.out.lt,by have:=HLT.out.1;omega,by have:=HLT.out.2;omega,fun e=>absurd (HPVB.out _ e).2 (Nat.lt_irrefl _)⟩).trans P3.out);have O4:=h! (hfn4.blk W3.out O3.out (by decide) (by decide));have R4:=h! (hfn4.blk W3.out R3.out (by decide) (by decide));have S4:=h! (ho4.low (B':=w.heap.size+4) Z3.out);have N4:=h! (N3.out.trans hfn4);have B4:=h! (show Below B wb w4 from B3.out.trans (hfn4.pk W3.out HB.out).below);have Z4:=h! (show w.heap.size+4<=w4.heap.size from Nat.le_trans Z3.out hfn4.size);have FPW:=h! (show ∀ g,pv4.ownBlock=some g->pv.ownBlock=some g\/w.heap.size+4<=g from fun g hg=>(hfn4.wher g hg).imp id fun e=>Nat.le_trans Z3.out e);have W4:=h! hwk4;clear HRF ho4 hwk4 hfn4 F3 W3 P3 O3 R3 N3 B3 Z3;have hbf:=F4.out.box.cells;have hbz:=F4.out.box.free;have FM:=h! (F4.out.setRefs S4.out (by omega));have FW:=h! (W4.out.setBox (i:=2) F4.out.box (by decide) (by decide) (.slice ro4 rn4 rc4));have FP:=h! (P4.out.other (a:=⟨w.heap.size+3,2,none⟩) (by show w.heap.size≠w.heap.size+3;omega) (.slice ro4 rn4 rc4));have FO:=h! (O4.out.other (a:=⟨w.heap.size+3,2,none⟩) (by show w.heap.size+2≠w.heap.size+3;omega) (.slice ro4 rn4 rc4));have FR:=h! (R4.out.other (a:=⟨w.heap.size+3,2,none⟩) (by show w.heap.size+1≠w.heap.size+3;omega) (.slice ro4 rn4 rc4));have FN:=h! (N4.out.set (x:=w.heap.size+3) (i:=2) (by omega) (.slice ro4 rn4 rc4));have FB:=h! (show Below B wb (w4.setCell ⟨w.heap.size+3,2,none⟩ (.slice ro4 rn4 rc4))from B4.out.setCell (by have:=HB.out.1;have:=HLT.out.1;show B<=w.heap.size+3;omega) _);have FZ:=h! (show w.heap.size+4<=(w4.setCell ⟨w.heap.size+3,2,none⟩ (.slice ro4 rn4 rc4)).heap.size from by simpa using Z4.out);clear F4 W4 P4 O4 R4 S4 N4 B4 Z4;have hrc:=FR.out.cells;go_wp2_with fail
  clear hrc hbf hbz;obtain⟨wl,hwl⟩:∃ x,x=w4.setCell ⟨w.heap.size+3,2,none⟩ (.slice ro4 rn4 rc4):=⟨_,rfl⟩;rw[<- hwl]at FM FW FP FO FR FN FB FZ ⊢;clear hwl;obtain⟨so,sn,sc,hs⟩:∃ (so:Option Addr) (sn sc:Nat),Value.slice so sn sc = .slice none 0 0:=⟨_,_,_,rfl⟩;obtain⟨sb,hsb⟩:∃ sb:List P3,sb=[]:=⟨_,rfl⟩;have FM:=h! (show FmAt wl (w.heap.size+4) (w.heap.size+3) k sb ro [] (.slice so sn sc) (.slice ro4 rn4 rc4) (.slice none 0 0)from by rw[hs,hsb];exact FM.out);have HH:=h! (show headF T ⟨pt,pi,pr⟩ k ra rb ps=(sb,ro,rp)from by rw[hsb];exact HH.out);clear hs hsb
 case' inr.inr.inr =>
  have q1:(k == 1)=false:=by rw[beq_eq_false_iff_ne];exact HK.out.1
  have q2:(k == 2)=false:=by rw[beq_eq_false_iff_ne];exact HK.out.2.1
  have q3:(k == 3)=false:=by rw[beq_eq_false_iff_ne];exact HK.out.2.2
  have hrc:=ER.out.cells;go_enter Tryz.func152,Tryz.ntmps152
  go_wp2_with fail
  clear hrc;obtain⟨we,hwe⟩:∃ x,x=(((w.alloc (.cells #[.string pt,.string pi,.string pr] 32)).alloc (.cells #[.int .i64 k,.string ra,.string rb,.slice ao parts.length c] 106)).alloc (.cells #[.int .i64 0,.slice none 0 0,.slice none 0 0,.slice none 0 0] 128)).alloc (.cells #[.int .i64 k,.slice none 0 0,.slice none 0 0,.slice none 0 0] 128):=⟨_,rfl⟩;rw[<- hwe]at EX EP ER EO EF EW EB EZ ⊢;clear hwe;have HH:=h! (show headF T ⟨pt,pi,pr⟩ k ra rb ps=([],[],ps)from by unfold headF;rw[if_neg HK.out.1,if_neg HK.out.2.1,if_neg HK.out.2.2]);have FM:=EF;have FW:=EW;have FP:=EP;have FO:=EO;have FR:=ER;have FB:=EB;have FZ:=h! (Nat.le_of_eq EZ.out.symm);have FN:=h! (Fine.of wp am pv EX.out);have FPW:=h! (show ∀ g,pv.ownBlock=some g->pv.ownBlock=some g\/w.heap.size+4<=g from fun g hg => .inl hg);clear EF EW EP EO ER EB EX EZ;obtain⟨wl,hwl⟩:∃ x,x=we:=⟨_,rfl⟩;rw[<- hwl]at FM FW FP FO FR FN FB FZ ⊢;clear hwl;obtain⟨ro4,rn4,rc4,hr⟩:∃ (a:Option Addr) (b c:Nat),Value.slice a b c = .slice none 0 0:=⟨_,_,_,rfl⟩;obtain⟨ro,rp,pv4,hro,hrp,hpv⟩:∃ (ro:List Int) (rp:List P3) (pv4:Value),ro=[]/\rp=ps/\pv4=pv:=⟨_,_,_,rfl,rfl,rfl⟩;have FM:=h! (show FmAt wl (w.heap.size+4) (w.heap.size+3) k [] ro [] (.slice none 0 0) (.slice ro4 rn4 rc4) (.slice none 0 0)from by rw[hr,hro];exact FM.out);have HH:=h! (show headF T ⟨pt,pi,pr⟩ k ra rb ps=([],ro,rp)from by rw[hro,hrp];exact HH.out);have FW:=h! (show WkAt wl wp am B tv (bkV b) sm rp pv4 fv from by rw[hrp,hpv];exact FW.out);have FN:=h! (show Fine wp am w wl pv pv4 from by rw[hpv];exact FN.out);have FPW:=h! (show ∀ g,pv4.ownBlock=some g->pv.ownBlock=some g\/w.heap.size+4<=g from by rw[hpv];exact FPW.out);clear hr hro hrp hpv;obtain⟨so,sn,sc,hs⟩:∃ (so:Option Addr) (sn sc:Nat),Value.slice so sn sc = .slice none 0 0:=⟨_,_,_,rfl⟩;obtain⟨sb,hsb⟩:∃ sb:List P3,sb=[]:=⟨_,rfl⟩;have FM:=h! (show FmAt wl (w.heap.size+4) (w.heap.size+3) k sb ro [] (.slice so sn sc) (.slice ro4 rn4 rc4) (.slice none 0 0)from by rw[hs,hsb];exact FM.out);have HH:=h! (show headF T ⟨pt,pi,pr⟩ k ra rb ps=(sb,ro,rp)from by rw[hsb];exact HH.out);clear hs hsb
 all_goals
  have HSP:=h! (fun i=>formsD_take T ⟨pt,pi,pr⟩ parts rp i)
  have HRM:=h! (show ∀ i (hi:i<parts.length),(formsD T ⟨pt,pi,pr⟩ (parts.take i) rp).2.length+parts[i].sz*(T.length+1)<=1073741824 from fun i hi=>by
   have:=HROOM.out i hi;rw[HH.out]at this;exact this)
  go_loopw [53] (fun iv wr=>∃ (i:Nat) (q:List (FT × FV3)) (qv pv':Value),i<=parts.length/\iv = .int .i64 i/\q.map (·.1)=(formsD T ⟨pt,pi,pr⟩ (parts.take i) rp).1/\FmAt wr (w.heap.size+4) (w.heap.size+3) k sb ro q (.slice so sn sc) (.slice ro4 rn4 rc4) qv/\WkAt wr wp am B tv (bkV b) sm (formsD T ⟨pt,pi,pr⟩ (parts.take i) rp).2 pv' fv/\Blk wr w.heap.size #[.string pt,.string pi,.string pr] 32/\Blk wr (w.heap.size+2) #[.int .i64 0,.slice none 0 0,.slice none 0 0,.slice none 0 0] 128/\Fine wp am w wr pv pv'/\Below B wb wr/\(∀ g,pv'.ownBlock=some g->pv.ownBlock=some g\/w.heap.size+4<=g)/\w.heap.size+4<=wr.heap.size) (fun iv _=>parts.length-(intOf iv).toNat)
  case atStart=>exact⟨0,[],.slice none 0 0,pv4,Nat.zero_le _,rfl,rfl,FM.out,FW.out,FP.out,FO.out,FN.out,FB.out,FPW.out,FZ.out⟩
  case round =>
   obtain⟨i,q,qv,pv',hi,rfl,hq,hfm,hwk,hbp,hbo,hfn,hbw,hpw,hfz⟩:=hrel;have RPW:=h! hpw;have RFM:=h! hfm;have RW:=h! hwk;have RP:=h! hbp;have RO:=h! hbo;have RN:=h! hfn;have RB:=h! hbw;have RQ:=h! hq;have RFZ:=h! (show w.heap.size+4<=wr.heap.size from hfz);clear FM FW FP FO FN FB FPW FZ FR hfz hfm hwk hbp hbo hfn hbw hq hpw;by_cases hlt:i<parts.length
   ·obtain⟨ao',c',he',-,-,hcell⟩:=(HRT.out.same (w':=wr) fun x hx=>(RN.out.kept.block x ⟨Nat.lt_of_lt_of_le hx (by have:=HB.out.1;have:=HLT.out.1;omega),by have:=HB.out.1;omega,by have:=HB.out.2;omega,fun e=>by have:=(HPVB.out x e).1;omega⟩)).rows;cases he';obtain⟨bq,oq,pq,rfl,hbq,d0,d1,d2,d3,hpat⟩:=hcell i hlt;dsimp only[RT.ps]at d0 d1 d2 d3 hpat;have HLTI:=h! hlt;have HST:=h! (HSP.out i hlt);have HRI:=h! (HRM.out i hlt);have HII:=h! (HIH.out parts[i] (List.getElem_mem hlt));have HOI:=h! (HROK.out.2.2.2 parts[i] (List.getElem_mem hlt))
    have HQL:=h! (show q.length=i from by
     have:=congrArg List.length RQ.out;rw[List.length_map]at this;rw[this];rw[formsD_len1,List.length_take];omega)
    have HPL:=h! (show parts.length<=1073741824 from by
     have h1:=szL_many parts;have h2:=(RT.mk k ra rb parts).sz_eq;have h3:=HLEN.out;rw[h2,Nat.add_mul]at h3;have h4:szL parts*1<=szL parts*(T.length+1):=Nat.mul_le_mul_left _ (by omega);simp only[RT.ps]at h3;omega)
    generalize parts[i]=x at *;obtain⟨xo,xc,rfl,-⟩:=hpat.rows;generalize hfd:formsD T ⟨pt,pi,pr⟩ (parts.take i) rp=fd at *;obtain⟨ff,fp⟩:=fd;dsimp only at RQ RW HST HRI;clear hlt hi hfd hbq;go_wp2_with fail
    obtain⟨wo,hwo⟩:∃ wo:World,wo=wr:=⟨_,rfl⟩;subst hwo;have hx1:=Ext.alloc wo (.cells #[.int .i64 x.k,.string x.a,.string x.b,.slice xo x.ps.length xc] 106);obtain⟨wd,hwd⟩:∃ wd,wd=(wo.alloc (.cells #[.int .i64 x.k,.string x.a,.string x.b,.slice xo x.ps.length xc] 106)).drew:=⟨_,rfl⟩;have DX:=h! (show Ext wo wd from by rw[hwd];exact hx1.trans (Ext.drew _));have DT:=h! (show Blk wd wo.heap.size #[.int .i64 x.k,.string x.a,.string x.b,.slice xo x.ps.length xc] 106 from by rw[hwd];exact(Blk.made _ _ _).drew);have DZ:=h! (show wo.heap.size<wd.heap.size from DT.out.lt);have DP:=h! (RP.out.below DX.out);have DFM:=h! (RFM.out.ext DX.out);have DW:=h! (RW.out.ext DX.out);have DO:=h! (RO.out.below DX.out);have DN:=h! (RN.out.trans (Fine.of _ _ _ DX.out));have DB:=h! (show Below B wb wd from RB.out.trans (DX.out.mono (by have:=HB.out.1;have:=HLT.out.1;have:=RN.out.size;omega)));have DA:=h! (hpat.same fun y hy=>DX.out.block y (by have:=HB.out.1;have:=HLT.out.1;have:=RN.out.size;omega));have DQ:=h! (fun g hg=>(RFM.out.parts.row.block g hg).2);have DS:=h! RN.out.size;have EXZ:=h! (show w.heap.size+4<=wo.heap.size from RFZ.out);refine region_walkL 9 (fun W=>Blk W w.heap.size #[.string pt,.string pi,.string pr] 32/\Blk W (w.heap.size+3) #[.int .i64 k,(.slice so sn sc),(.slice ro4 rn4 rc4),qv] 128/\Blk W wo.heap.size #[.int .i64 x.k,.string x.a,.string x.b,.slice xo x.ps.length xc] 106) (by rw[<- hwd];exact⟨DP.out,DFM.out.box,DT.out⟩) (by kernel_rfl) (by kernel_rfl) (fun _ _ d _ _ h=>by cases d <;> exact h) ?_;rw[<- hwd];clear hwd hx1 RFM RW RP RO RN RB hpat d0 d1 d2 d3;obtain⟨qo,qn,qc,rfl,hqn,-,-⟩:=DFM.out.parts.row.sl.len;have h1:=fun W (h:Blk W w.heap.size #[.string pt,.string pi,.string pr] 32/\Blk W (w.heap.size+3) #[.int .i64 k,(.slice so sn sc),(.slice ro4 rn4 rc4),.slice qo qn qc] 128/\Blk W wo.heap.size #[.int .i64 x.k,.string x.a,.string x.b,.slice xo x.ps.length xc] 106)=>h.1.cells;have h2:=fun W (h:Blk W w.heap.size #[.string pt,.string pi,.string pr] 32/\Blk W (w.heap.size+3) #[.int .i64 k,(.slice so sn sc),(.slice ro4 rn4 rc4),.slice qo qn qc] 128/\Blk W wo.heap.size #[.int .i64 x.k,.string x.a,.string x.b,.slice xo x.ps.length xc] 106)=>h.2.1.cells;have h3:=fun W (h:Blk W w.heap.size #[.string pt,.string pi,.string pr] 32/\Blk W (w.heap.size+3) #[.int .i64 k,(.slice so sn sc),(.slice ro4 rn4 rc4),.slice qo qn qc] 128/\Blk W wo.heap.size #[.int .i64 x.k,.string x.a,.string x.b,.slice xo x.ps.length xc] 106)=>h.2.2.cells;(refine WalkL.tk [0,1,2,3,4] ?_;(iterate 5 (refine l! ?_));refine TkL.n ?_)
    refine oL! 5 ?_;refine b! ?_;intro K hK;go_simp;refine(HII.out pv' (.slice xo x.ps.length xc) fp wd HOI.out DA.out DB.out DW.out HRI.out).mono ?_;rintro e w2 ⟨v3,pv2,rfl,hat2,hwk2,hfn2⟩
    have TP:=h! (show Blk w2 w.heap.size _ _ from(hfn2.kept.block _ ⟨DP.out.lt,by have:=HLT.out.1;omega,by have:=HLT.out.2;omega,fun e=>by
     rcases RPW.out _ e with e2 | e2
     ·exact absurd (HPVB.out _ e2).2 (Nat.lt_irrefl _)
     ·omega⟩).trans DP.out)
    have TFM:=h! (DFM.out.fine DW.out hfn2 HB.out ⟨by have:=HLT.out.1;omega,by have:=HLT.out.2;omega⟩);have TT:=h! (hfn2.blk DW.out DT.out (by decide) (by decide));have TO:=h! (hfn2.blk DW.out DO.out (by decide) (by decide));have TN:=h! (DN.out.trans hfn2);have TB:=h! (show Below B wb w2 from DB.out.trans (hfn2.pk DW.out HB.out).below);have TA:=h! hat2;have TW:=h! hwk2;have TZ:=h! hfn2.size
    have TPW:=h! (show ∀ g,pv2.ownBlock=some g->pv.ownBlock=some g\/w.heap.size+4<=g from fun g hg=>by
     rcases hfn2.wher g hg with e | e
     ·exact RPW.out g e
     ·exact .inr (by have:=DZ.out;have:=DS.out;have:=EXZ.out;omega))
    refine hK.out _ _ ⟨TP.out,TFM.out.box,TT.out⟩ ?_;clear hK hat2 hwk2 hfn2 DP DFM DT DO DN DB DA DW;generalize hfx:formD T ⟨pt,pi,pr⟩ x fp=fx at *;obtain⟨fx,fxp⟩:=fx;obtain⟨v1,v2,v4⟩:=v3;unfold fV at *;dsimp only at TA TW HST ⊢;obtain⟨s1,s2,-⟩:=(FTAt.iff _ _).1 TA.out;obtain⟨x1,y1,z1,rfl,-,-,-⟩:=s1.len;obtain⟨x2,y2,z2,rfl,-,-,-⟩:=s2.len;obtain⟨x4,z4,rfl,-⟩:=TA.out.rows;clear s1 s2;have hx3:=Ext.alloc w2 (.cells #[.int .i64 fx.k,.slice x1 y1 z1,.slice x2 y2 z2,.slice x4 fx.ps.length z4] 128);refine oL! 6 ?_;refine b! ?_;intro K hK;go_simp;refine hK.out _ _ ⟨TP.out.below hx3,TFM.out.box.below hx3,TT.out.below hx3⟩ ?_;clear hK;refine oL! 7 ?_;refine b! ?_;intro K hK;refine wp_ownw formsT (.tmp 58) (.tmp 63) rfl rfl (TFM.out.parts.row.below hx3) (m:=1) (news:=fC (fx,(.slice x1 y1 z1,.slice x2 y2 z2,.slice x4 fx.ps.length z4))) rfl rfl (fun j u hu=>?_) (by simp[fC,Value.oneCell']) (by have:=HQL.out;have:=HPL.out;have:=HLTI.out;rw[fCs_length,fC_length];omega) (by have:=HQL.out;have:=HPL.out;have:=HLTI.out;rw[fCs_length,fC_length];omega) (by have:=DZ.out;have:=TZ.out;have:=EXZ.out;simp;omega) (fun v5 w5 hown5 hb5 hg5=>?_)
    ·rw[Addr.add_lit,cell_of_row _ w2.heap.size (0+j) #[.int .i64 fx.k,.slice x1 y1 z1,.slice x2 y2 z2,.slice x4 fx.ps.length z4] 128 (0,0) (heap_alloc_new w2 _),Nat.zero_add];simpa [fC] using hu
    have hq3:=TFM.out.parts.row.below hx3
    have VB:∀ {y:Nat} {cs:Array Value} {t:TypeId},Blk w2 y cs t->y<w.heap.size+4\/t≠128->Blk w5 y cs t:=fun {y cs t} hb hyt=>(hg5.block y (hb.below hx3).lt fun e=>by
     have e':=e.symm;rcases hyt with hy | ht
     ·have:=(TFM.out.parts.row.block y e').1;omega
     ·obtain⟨cc,hc⟩:=TFM.out.parts.row.typed e';rw[show w2.heap[y]?=_ from hb]at hc;injection hc with hc
      injection hc with _ hc _
      exact ht hc).trans (hb.below hx3)
    have UP:=h! (VB TP.out (.inl (by omega)));have UF:=h! (VB TFM.out.box (.inl (by omega)));have UT:=h! (VB TT.out (.inr (by decide)));have UO:=h! (VB TO.out (.inl (by omega)));have UW:=h! ((TW.out.ext hx3).grown hq3 (by decide) (by decide) hg5);have UZ:=h! (show w2.heap.size<=w5.heap.size from Nat.le_trans hx3.size hg5.size);have UK:=h! (show Below (w.heap.size+4) w2 w5 from(hx3.mono (by have:=DZ.out;have:=TZ.out;have:=DS.out;have:=EXZ.out;omega)).trans ⟨hg5.os,hg5.tape,hg5.output,hg5.size,fun y hy=>hg5.block y (by have:=DZ.out;have:=TZ.out;have:=DS.out;have:=EXZ.out;simp;omega) fun e=>by have:=(TFM.out.parts.row.block y e.symm).1;omega⟩);have UFM:=h! (TFM.out.add hx3 hg5 hown5 hb5 TA.out (by have:=DZ.out;have:=DS.out;have:=EXZ.out;omega) (fun g hg=>Nat.lt_trans (DQ.out g hg) DZ.out) (by omega));have hn5:=hown5.sl.len;obtain⟨o5,n5,c5,rfl,-,-,-⟩:=hn5;refine hK.out _ _ ⟨UP.out,UF.out,UT.out⟩ ?_;clear hK hx3 hq3 VB hown5 hb5 hg5;simp only[Act.put,pA,pZ,pS];((refine WalkL.take 8 _ ?_ (by simp only[gA,gS,gZ];rfl) (by kernel_rfl) (by kernel_rfl) (by kernel_rfl) (by rfl) (fun W hW=>?_) ?_;rotate_left;· (go_simp;try with_reducible rfl));simp only[Act.put,pA,pZ,pS])
    clear h1 h2 h3;have hbf:=UF.out.cells;have hbz:=UF.out.free;refine WalkL.last (by kernel_rfl) (by kernel_rfl) ?_;refine b! ?_;intro K hK;go_simp;refine hK.out _ _ ?_;clear hK hbf hbz;have WN:=h! (show Fine wp am w (w5.setCell ⟨w.heap.size+3,3,none⟩ (.slice o5 n5 c5)) pv pv2 from⟨(TN.out.kept.trans (Below.kept UK.out fun y (hy:KX wp am w pv y)=>by have:=hy.1;show y<w.heap.size+4;omega)).set (fun h=>by have h1:w.heap.size+3<w.heap.size:=h.1;omega) _,TN.out.wher⟩);have WW:=h! (UW.out.setBox (i:=3) UF.out (by decide) (by decide) (.slice o5 n5 c5));have WP:=h! (UP.out.other (a:=⟨w.heap.size+3,3,none⟩) (by show w.heap.size≠w.heap.size+3;omega) (.slice o5 n5 c5));have WO:=h! (UO.out.other (a:=⟨w.heap.size+3,3,none⟩) (by show w.heap.size+2≠w.heap.size+3;omega) (.slice o5 n5 c5));have WB:=h! (show Below B wb (w5.setCell ⟨w.heap.size+3,3,none⟩ (.slice o5 n5 c5))from(TB.out.trans (UK.out.mono (by have:=HB.out.1;have:=HLT.out.1;omega))).setCell (by have:=HB.out.1;have:=HLT.out.1;show B<=w.heap.size+3;omega) _);clear TP TFM TT TO TN TB TW UP UF UT UO UW UK DX;go_wp2_with fail
    go_roundw
    case rel=>exact⟨i+1,_,_,pv2,HLTI.out,by go_num,by rw[HST.out,List.map_append,RQ.out];rfl,UFM.out,by rw[HST.out];exact WW.out,WP.out,WO.out,WN.out,WB.out,TPW.out,by have:=DZ.out;have:=TZ.out;have:=UZ.out;have:=EXZ.out;simp;omega⟩
    case measure=>have:=HLTI.out;simp[intOf];omega
   ·obtain rfl:i=parts.length:=by omega
    have HTA:=h! (show parts.take parts.length=parts from List.take_length);rw[HTA.out]at RQ RW;obtain⟨qo,qn,qc,rfl,-,-,-⟩:=RFM.out.parts.row.sl.len;have hc3:=RFM.out.box.cells;have hc2:=RO.out.cells;have hz2:=RO.out.free;go_wp2_with fail
    clear hc3 hc2 hz2;have ZS:∀ y,y≠w.heap.size+2->((((wr.setCell ⟨w.heap.size+2,0,none⟩ (.int .i64 k)).setCell ⟨w.heap.size+2,1,none⟩ (.slice so sn sc)).setCell ⟨w.heap.size+2,2,none⟩ (.slice ro4 rn4 rc4)).setCell ⟨w.heap.size+2,3,none⟩ (.slice qo qn qc)).heap[y]?=wr.heap[y]?:=fun y hy=>by rw[Below.heap_setCell _ _ _ y hy,Below.heap_setCell _ _ _ y hy,Below.heap_setCell _ _ _ y hy,Below.heap_setCell _ _ _ y hy]
    have ZW:=RW.out.un RO.out (by decide) (by decide);refine bodyPost_ret (results_cell_row rfl _ _ (w.heap.size+2) 128 #[.int .i64 k,(.slice so sn sc),(.slice ro4 rn4 rc4),.slice qo qn qc] (0,0) _ rfl (RO.out.put4 _ _ _ _) Tryz.underlying128 rfl (by kernel_rfl)) rfl ?_;refine⟨((.slice so sn sc),(.slice ro4 rn4 rc4),.slice qo qn qc),pv',by rw[HFD.out];rfl,?_,?_,(((RN.out.set (by omega) _).set (by omega) _).set (by omega) _).set (by omega) _⟩
    ·refine(RFM.out.done (by rw[HFD.out,HH.out,RQ.out]) (fun y hy _=>ZS y (by omega)) (by simp)).mono fun y hy=>hy.mono (by omega)
    ·rw[HFD.out,HH.out];exact RW.out.same (ZS _ fun e=>ZW.2.1 e.symm) (ZS _ fun e=>ZW.2.2.1 e.symm) fun g hg=>ZS _ fun e=>ZW.2.2.2 (by rw[hg,e])
end Go.Proofs.YtlhaghoajpglaaaGreat
