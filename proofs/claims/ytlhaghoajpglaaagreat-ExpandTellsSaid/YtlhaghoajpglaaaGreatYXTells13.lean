/- Lemmas for the claim, no condition. -/
import Derived.Test.YtlhaghoajpglaaaGreatYXTells0
import Derived.Test.YtlhaghoajpglaaaGreatYXTells12
import Derived.Test.YtlhaghoajpglaaaGreatYXTells8
import Derived.Test.YtlhaghoajpglaaaGreatYXTells1
import Derived.Test.YtlhaghoajpglaaaGreatYXTells9
import Derived.Test.YtlhaghoajpglaaaGreatYXTells3
import Derived.Test.YtlhaghoajpglaaaGreatYXTells10
namespace Go.Proofs.YtlhaghoajpglaaaGreat
open Go Go.RowKit Go.Maps
set_option maxRecDepth 100000 in
set_option maxHeartbeats 2000000 in
theorem tellsLaw_any (n:NT)(v:NV2)(w:World)(h:NtAt (· < w.heap.size) w n v)(hok:n.Ok) :
  Calls Tryz.prog 4 #[nV2 n v] w fun e w'=>e = .returned (.bool true)/\Ext w w':=by
 obtain⟨a1,c1,a4,c4,rfl⟩:=h.shape;obtain⟨wa,hwa⟩:∃ y,y=w.alloc (.cells #[.int .i64 n.k,.string n.p.t,.string n.p.i,.string n.p.r,.slice a1 n.subs.length c1,.slice a4 n.ps.length c4] 45):=⟨_,rfl⟩;have XA:=h! (show Ext w wa from by rw[hwa];exact Ext.alloc _ _);have BA:=h! (fun W (hW:Ext wa W)=>(show Blk wa w.heap.size #[.int .i64 n.k,.string n.p.t,.string n.p.i,.string n.p.r,.slice a1 n.subs.length c1,.slice a4 n.ps.length c4] 45 from by rw[hwa];exact Blk.made _ _ _).below hW);have HN:=h! (fun W (hW:Ext wa W)=>(h.up XA.out).up hW);have HF:=h! (fixed28_any wa);have HOK:=h! hok;clear h hok;unfold nV2;dsimp only;subst hwa;go_enter Tryz.func4,Tryz.ntmps4
 go_wp2_with fail
 obtain⟨wa,hwa⟩:∃ y,y=w.alloc (.cells #[.int .i64 n.k,.string n.p.t,.string n.p.i,.string n.p.r,.slice a1 n.subs.length c1,.slice a4 n.ps.length c4] 45):=⟨_,rfl⟩;rw[<- hwa]at HF BA HN XA ⊢;clear hwa;refine HF.out.mono ?_;rintro e w1 ⟨rfl,hb1⟩;have X1:=h! (show Ext wa w1 from hb1);have b1:=(BA.out w1 X1.out).cells;have HFE:=h! (fewN_any n (.slice a1 n.subs.length c1,.slice a4 n.ps.length c4) 200 w1 (HN.out w1 X1.out) (by decide) (by decide));unfold nV2 at HFE;clear hb1 HF;go_wp2_with fail
 clear b1;refine HFE.out.mono ?_;rintro e w2 ⟨q,rfl,hq1,hq2,hq3,hx2⟩;have X2:=h! (show Ext wa w2 from X1.out.trans hx2);clear hx2 HFE;by_cases hq:q<0
 ·clear hq1 hq2 hq3;go_wp2_with fail
  go_ret
  exact⟨rfl,XA.out.trans X2.out⟩
 have HT:=h! (show n.tot<=200 from by have:=hq3 (by omega);omega);have HTB:=h! (tot_bound n);clear hq1 hq2 hq3;go_wp2_with fail
 clear hq;obtain⟨wd,hwd⟩:∃ wd,Hid (wd=w2.drew):=⟨_,h! rfl⟩;have hxd:=h! (show Ext w2 wd from by rw[hwd.out];exact Ext.drew _);have XD:=h! (X2.out.trans hxd.out);refine region_walkN (Ext wd) (by rw[<- hwd.out];exact Ext.refl _) (by kernel_rfl) (by kernel_rfl) (fun _ _ d _ _ h=>by cases d <;> exact h) ?_;rw[<- hwd.out];clear hwd hxd;have hp:∀ W,Ext wd W->∀ i,W.cell? ⟨w.heap.size,i,none⟩=(#[.int .i64 n.k,.string n.p.t,.string n.p.i,.string n.p.r,.slice a1 n.subs.length c1,.slice a4 n.ps.length c4]:Array Value)[i]?:=fun W h=>(BA.out W (XD.out.trans h)).cells;have HN':=h! (fun W (hW:Ext wd W)=>HN.out W (XD.out.trans hW));(refine WalkN.tk [0,2] ?_;(iterate 2 ((refine TkN.c _ ?_ (by simp only[gA,gS,gZ];rfl) (by kernel_rfl) (by kernel_rfl) (by rfl) (fun W hW=>?_) ?_;rotate_left;· (go_simp;try with_reducible rfl));simp only[Act.put,pA,pZ,pS]));refine TkN.n ?_)
 refine WalkN.one 1 (by kernel_rfl) ?_;refine⟨_,(by simp only[gA,gS,gZ];rfl),by rfl,fun K hK=>?_⟩;go_simp;have HC1:=h! (esize_any n (.slice a1 n.subs.length c1,.slice a4 n.ps.length c4) wd (HN'.out _ (Ext.refl _)) (by have:=HT.out;have:=HTB.out;omega));unfold nV2 at HC1;refine HC1.out.mono ?_;rintro e u1 ⟨rfl,hx⟩;have E1:=h! hx;refine hK.out _ _ E1.out ?_;clear hK hx HC1;refine WalkN.one 3 (by kernel_rfl) ?_;refine⟨_,(by simp only[gA,gS,gZ];rfl),by rfl,fun K hK=>?_⟩;go_simp;have HC1:=h! (sizeN_any n (.slice a1 n.subs.length c1,.slice a4 n.ps.length c4) u1 (HN'.out _ E1.out) (by have:=HT.out;have:=HTB.out;omega));unfold nV2 at HC1;refine HC1.out.mono ?_;rintro e u2 ⟨rfl,hx⟩;have E2:=h! (E1.out.trans hx);refine hK.out _ _ E2.out ?_;clear hK hx HC1 E1;(refine WalkN.tk [4,5,6,8] ?_;(iterate 4 ((refine TkN.c _ ?_ (by simp only[gA,gS,gZ];rfl) (by kernel_rfl) (by kernel_rfl) (by rfl) (fun W hW=>?_) ?_;rotate_left;· (go_simp;try with_reducible rfl));simp only[Act.put,pA,pZ,pS]));refine TkN.n ?_)
 refine WalkN.one 7 (by kernel_rfl) ?_;refine⟨_,(by simp only[gA,gS,gZ];rfl),by rfl,fun K hK=>?_⟩;go_simp;have HC1:=h! (eleaves_any n (.slice a1 n.subs.length c1,.slice a4 n.ps.length c4) u2 (HN'.out _ E2.out) (by have:=HT.out;have:=HTB.out;omega) (by have:=HT.out;have:=HTB.out;omega) HOK.out);unfold nV2 at HC1;refine HC1.out.mono ?_;rintro e u3 ⟨v3,l3,rfl,hup,hm,ho,hx⟩;have E3:=h! (E2.out.trans hx);have S3:=h! ho.slU;have M3:=h! (And.intro hup hm);refine hK.out _ _ E3.out ?_;clear hK hx HC1 E2 hup hm ho;refine WalkN.one 9 (by kernel_rfl) ?_;refine⟨_,(by simp only[gA,gS,gZ];rfl),by rfl,fun K hK=>?_⟩;go_simp;have HC1:=h! (dleaves_any n (.slice a1 n.subs.length c1,.slice a4 n.ps.length c4) u3 (HN'.out _ E3.out) (by have:=HT.out;have:=HTB.out;omega));unfold nV2 at HC1;refine HC1.out.mono ?_;rintro e u4 ⟨v4,l4,rfl,hup,hm,ho,hx⟩;have E4:=h! (E3.out.trans hx);obtain rfl:l4=l3:=upP_unique hup M3.out.1 fun q=>(hm q).trans (M3.out.2 q).symm;have S4:=h! ho;have S3:=h! (S3.out.up hx);refine hK.out _ _ E4.out ?_;clear hK hx HC1 E3 hup hm ho M3;refine WalkN.one 10 (by kernel_rfl) ?_;refine⟨_,(by simp only[gA,gS,gZ];rfl),by rfl,fun K hK=>?_⟩;go_simp;have HC1:=h! (sameS_any v3 v4 l4 u4 S3.out S4.out);refine HC1.out.mono ?_;rintro e u5 ⟨rfl,hx⟩;have E5:=h! (E4.out.trans hx);refine hK.out _ _ E5.out ?_;clear hK hx HC1 E4 S3 S4;(refine WalkN.tk [11,12,13,15] ?_;(iterate 4 ((refine TkN.c _ ?_ (by simp only[gA,gS,gZ];rfl) (by kernel_rfl) (by kernel_rfl) (by rfl) (fun W hW=>?_) ?_;rotate_left;· (go_simp;try with_reducible rfl));simp only[Act.put,pA,pZ,pS]));refine TkN.n ?_)
 refine WalkN.one 14 (by kernel_rfl) ?_;refine⟨_,(by simp only[gA,gS,gZ];rfl),by rfl,fun K hK=>?_⟩;go_simp;have HC1:=h! (ecuts_any n (.slice a1 n.subs.length c1,.slice a4 n.ps.length c4) u5 (HN'.out _ E5.out) (by have:=HT.out;have:=HTB.out;omega) HOK.out);unfold nV2 at HC1;refine HC1.out.mono ?_;rintro e u6 ⟨v6,l6,rfl,hup,hm,ho,hx⟩;have E6:=h! (E5.out.trans hx);have S3:=h! ho.slU;have M3:=h! (And.intro hup hm);refine hK.out _ _ E6.out ?_;clear hK hx HC1 E5 hup hm ho;refine WalkN.one 16 (by kernel_rfl) ?_;refine⟨_,(by simp only[gA,gS,gZ];rfl),by rfl,fun K hK=>?_⟩;go_simp;have HC1:=h! (dcuts_any n (.slice a1 n.subs.length c1,.slice a4 n.ps.length c4) u6 (HN'.out _ E6.out) (by have:=HT.out;have:=HTB.out;omega));unfold nV2 at HC1;refine HC1.out.mono ?_;rintro e u7 ⟨v7,l7,rfl,hup,hm,ho,hx⟩;have E7:=h! (E6.out.trans hx);obtain rfl:l7=l6:=upP_unique hup M3.out.1 fun q=>(hm q).trans (M3.out.2 q).symm;have S4:=h! ho;have S3:=h! (S3.out.up hx);refine hK.out _ _ E7.out ?_;clear hK hx HC1 E6 hup hm ho M3 hp;refine WalkN.one 17 (by kernel_rfl) ?_;refine⟨_,(by simp only[gA,gS,gZ];rfl),by rfl,fun K hK=>?_⟩;go_simp;have HC1:=h! (sameP_any v6 v7 l7 u7 S3.out S4.out);refine HC1.out.mono ?_;rintro e u8 ⟨rfl,hx⟩;have E8:=h! (E7.out.trans hx);refine hK.out _ _ E8.out ?_;clear hK hx HC1 E7 S3 S4;(refine WalkN.tk [18,19] ?_;(iterate 2 ((refine TkN.c _ ?_ (by simp only[gA,gS,gZ];rfl) (by kernel_rfl) (by kernel_rfl) (by rfl) (fun W hW=>?_) ?_;rotate_left;· (go_simp;try with_reducible rfl));simp only[Act.put,pA,pZ,pS]));refine TkN.n ?_)
 refine WalkN.done (by kernel_rfl) ?_;go_wp2
 go_ret
 exact⟨rfl,XA.out.trans (XD.out.trans E8.out)⟩
end Go.Proofs.YtlhaghoajpglaaaGreat
namespace Go.Proofs.YtlhaghoajpglaaaGreat
open Go Go.RowKit Go.ChangeShapes Go.WideShapes Go.ChangeAt
def pC4 (p:P3):List Value:=[.string p.t,.string p.i,.string p.r]
section
variable {H : Type} {enc : TypeId × Value -> H} {W : World} {base : Nat} {v : Value} {d : DataW H} {ps : List MemPlace}
set_option maxRecDepth 100000 in
theorem open_obj_cells {fuel:Nat} {cs:List Value} {y:DataW H × List MemPlace} (hy:DataW.trod enc Tryz.prog W 0 (fun _=>true) true fuel 30 cs=some y):∃ a b:ByteArray,cs=[.string a,.string b]/\a.size<=maxLen/\b.size<=maxLen:=by
 obtain⟨xs,n,_,_,hl,hlen,hf⟩:=DataW.trod_struct Tryz.underlying30 hy;rw[show Tryz.prog.cellsOf 30=2 from by kernel_rfl]at hl
 obtain⟨c0,c1,rfl⟩:∃ c0 c1,cs=[c0,c1]:=by
  match cs,hl with
  | [c0,c1],_=>exact⟨c0,c1,rfl⟩
 have h0:=hf 0 _ rfl;have h1:=hf 1 _ rfl
 obtain⟨y0,y1,rfl⟩:∃ y0 y1,xs=[y0,y1]:=by
  match xs,hlen with
  | [y0,y1],_=>exact⟨y0,y1,rfl⟩
 obtain⟨a,e0,_,wa⟩:=DataW.trod_string Tryz.underlying9 h0;obtain⟨b,e1,_,wb⟩:=DataW.trod_string Tryz.underlying9 h1;have k1:Tryz.prog.cellsOf 9=1:=by kernel_rfl
 simp[k1]at e0 e1;subst e0 e1;exact⟨a,b,rfl,wa,wb⟩
set_option maxRecDepth 100000 in
theorem open_sub_cells {fuel:Nat} {cs:List Value} {y:DataW H × List MemPlace} (hy:DataW.trod enc Tryz.prog W 0 (fun _=>true) true fuel 33 cs=some y):∃ p:P3,cs=pC4 p/\p.Ok:=by
 obtain⟨xs,n,_,_,hl,hlen,hf⟩:=DataW.trod_struct Tryz.underlying33 hy;rw[show Tryz.prog.cellsOf 33=3 from by kernel_rfl]at hl
 obtain⟨c0,c1,c2,rfl⟩:∃ c0 c1 c2,cs=[c0,c1,c2]:=by
  match cs,hl with
  | [c0,c1,c2],_=>exact⟨c0,c1,c2,rfl⟩
 have h0:=hf 0 _ rfl;have h1:=hf 1 _ rfl
 obtain⟨y0,y1,rfl⟩:∃ y0 y1,xs=[y0,y1]:=by
  match xs,hlen with
  | [y0,y1],_=>exact⟨y0,y1,rfl⟩
 have k0:Tryz.prog.cellsOf 30=2:=by kernel_rfl
 have k1:Tryz.prog.cellsOf 9=1:=by kernel_rfl
 obtain⟨a,b,e0,wa,wb⟩:=open_obj_cells h0;obtain⟨c,e1,_,wc⟩:=DataW.trod_string Tryz.underlying9 h1;simp[k0]at e0;simp[k1]at e1;obtain⟨rfl,rfl⟩:=e0;subst e1;exact⟨⟨a,b,c⟩,rfl,wa,wb,wc⟩
end
end Go.Proofs.YtlhaghoajpglaaaGreat
namespace Go.Proofs.YtlhaghoajpglaaaGreat
open Go Go.RowKit Go.Maps
mutual
def FT.bk:FT->Nat | .mk _ subs refs ps=>1+subs.length+refs.length+bkF ps
def bkF:List FT->Nat | []=>0 | r::rs=>r.bk+bkF rs
end
end Go.Proofs.YtlhaghoajpglaaaGreat
namespace Go.Proofs.YtlhaghoajpglaaaGreat
open Go Go.RowKit Go.ChangeShapes Go.WideShapes Go.ChangeAt
section
variable {H : Type} {enc : TypeId × Value -> H} {W : World} {base : Nat} {v : Value} {d : DataW H} {ps : List MemPlace}
def NodeQ (W:World)(x:NT × NV2):Prop:=NtAt (· < W.heap.size) W x.1 x.2/\x.1.Ok
theorem NT.Ok.mk' {k:Int} {p:P3} {subs:List P3} {ps:List NT} (hp:p.Ok)(hs:∀ s∈subs,s.Ok)(h:∀ x∈ps,x.Ok):(NT.mk k p subs ps).Ok:=by
 intro m hm;rw[NT.pre]at hm;rcases List.mem_cons.1 hm with rfl | hm
 ·exact⟨hp,hs⟩
 ·obtain⟨x,hx,hm⟩:=preL_mem.1 hm;exact h x hx m hm
set_option maxRecDepth 100000 in
theorem open_node_cells (fuel:Nat):∀ {cs:List Value} {y:DataW H × List MemPlace},DataW.trod enc Tryz.prog W 0 (fun _=>true) true fuel 45 cs=some y->∃ x:NT × NV2,cs=nC x/\NodeQ W x:=by
 induction fuel using Nat.strongRecOn with
 | ind fuel ih =>
 intro cs y hy;obtain⟨xs,n,hfn,hyx,hl,hlen,hf⟩:=DataW.trod_struct Tryz.underlying45 hy;rw[show Tryz.prog.cellsOf 45=6 from by kernel_rfl]at hl
 obtain⟨c0,c1,c2,c3,c4,c5,rfl⟩:∃ c0 c1 c2 c3 c4 c5,cs=[c0,c1,c2,c3,c4,c5]:=by
  match cs,hl with
  | [c0,c1,c2,c3,c4,c5],_=>exact⟨c0,c1,c2,c3,c4,c5,rfl⟩
 have h0:=hf 0 _ rfl;have h1:=hf 1 _ rfl;have h2:=hf 2 _ rfl;have h3:=hf 3 _ rfl;have h4:=hf 4 _ rfl
 obtain⟨y0,y1,y2,y3,y4,rfl⟩:∃ y0 y1 y2 y3 y4,xs=[y0,y1,y2,y3,y4]:=by
  match xs,hlen with
  | [y0,y1,y2,y3,y4],_=>exact⟨y0,y1,y2,y3,y4,rfl⟩
 have k0:Tryz.prog.cellsOf 3=1:=by kernel_rfl
 have k1:Tryz.prog.cellsOf 30=2:=by kernel_rfl
 have k2:Tryz.prog.cellsOf 9=1:=by kernel_rfl
 have k3:Tryz.prog.cellsOf 42=1:=by kernel_rfl
 have k4:Tryz.prog.cellsOf 43=1:=by kernel_rfl
 obtain⟨k,e0,d0,w0⟩:=DataW.trod_int Tryz.underlying3 h0;obtain⟨a,b,e1,wa,wb⟩:=open_obj_cells h1;obtain⟨c,e2,_,wc⟩:=DataW.trod_string Tryz.underlying9 h2;simp[k0]at e0;simp[k1]at e1;simp[k2]at e2;obtain⟨rfl,rfl⟩:=e1;subst e0 e2;have h3':DataW.trod enc Tryz.prog W 0 (fun _=>true) true n 42 [c4]=some y3:=by simpa [k0,k1,k2,k3] using h3
 have h4':DataW.trod enc Tryz.prog W 0 (fun _=>true) true n 43 [c5]=some y4:=by simpa [k0,k1,k2,k3,k4] using h4
 obtain⟨l1,hs1,hq1,hd1⟩:=open_rowsB pC (fun p _=>p.Ok) Tryz.underlying42 (show _=3 by kernel_rfl) h3' (fun fuel' hlt cs y hy=>open_sub_cells hy);obtain⟨l,hs,hq,hd⟩:=open_rowsB nC (fun x _=>NodeQ W x) Tryz.underlying43 (show _=6 by kernel_rfl) h4' (fun fuel' hlt cs y hy=>ih fuel' (by omega) hy);refine⟨(.mk k ⟨a,b,c⟩ (l1.map Prod.fst) (l.map fun x:(NT × NV2) × DataW H=>x.1.1),(c4,c5)),rfl,(NtAt.iff _ _).2 ⟨hs1,l.map (·.1),by simp[NT.ps,List.map_map],fun x hx=>?_,hs⟩,NT.Ok.mk' ⟨wa,wb,wc⟩ (fun s hs=>?_) fun x hx=>?_⟩
 ·obtain⟨p,hp,rfl⟩:=List.mem_map.1 hx;exact(hq p hp).1
 ·obtain⟨p,hp,rfl⟩:=List.mem_map.1 hs;exact hq1 p hp
 ·obtain⟨p,hp,rfl⟩:=List.mem_map.1 hx;exact(hq p hp).2
set_option maxRecDepth 100000 in
theorem open_nodeV (hok:Value.okWide Tryz.prog W .any base 45 v)(h:DataW.Trod enc Tryz.prog W 0 (fun _=>true) true 45 v d ps):∃ (n:NT)(u:NV2),v=nV2 n u/\NtAt (· < W.heap.size) W n u/\n.Ok:=by
 obtain⟨ca,rfl,_⟩:=okWide_struct Tryz.underlying45 hok;obtain⟨fuel,hy⟩:=h;obtain⟨x,hc,hx⟩:=open_node_cells fuel hy;exact⟨x.1,x.2,congrArg Value.agg (Array.toList_inj.1 hc),hx⟩
end
end Go.Proofs.YtlhaghoajpglaaaGreat
