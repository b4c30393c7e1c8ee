/- Lemmas for the claim, no condition. -/
import Derived.Test.YtlhaghoajpglaaaGreatYPrMore9
import Derived.Test.YtlhaghoajpglaaaGreatYPrMore9
set_option maxRecDepth 100000
set_option maxHeartbeats 8000000
namespace Go.Proofs.YtlhaghoajpglaaaGreat
open Go Go.RowKit Go.Maps Go.Proofs.Tryz
structure O2 where
 t:ByteArray
 i:ByteArray
deriving DecidableEq
def oV (o:O2):Value := .agg #[.string o.t,.string o.i]
theorem nU! (a b:O2)(h:oV a=oV b):a=b:=by
 obtain⟨a1,a2⟩:=a;obtain⟨b1,b2⟩:=b;simpa [oV] using h
def O2.Ok (o:O2):Prop:=o.t.size<=maxLen/\o.i.size<=maxLen
theorem objK:Keyed prog 30:=Keyed.of_law (deep_law_laid eS! (m:=3) (by decide) (of_decide_eq_true (by kernel_rfl)) (by kernel_rfl) (by kernel_rfl))
theorem nj! (o:O2)(h:o.Ok):∃q,keyOf prog 30 (oV o)=some q:=by
 obtain⟨d,hd⟩:=bw!;have e:=fx! (d+1+1) o.t o.i h.1 h.2;have e2:(prog.keyType 30&&(oV o).formed prog 30)=true:=by kernel_rfl
 have hs:prog.types.size+1=d+1+1+1+1:=by omega
 unfold keyOf;rw[Tryz.underlying30];dsimp only;rw[if_pos e2,hs];rw[show(oV o).cells.toList=[.string o.t,.string o.i]from rfl,e];exact⟨_,rfl⟩
def P3.obj (p:P3):O2:=⟨p.t,p.i⟩
def subE:Elm P3:=⟨33,3,pC,au!,by decide⟩
def pntE:Elm P3:=⟨32,3,pC,au!,by decide⟩
def aT! (T:List Tup)(s:P3):List P3:=(T.filter fun t=>decide (t.s=s)).map (·.o)
def ObjIn (T:List Tup)(o:O2):Prop:=∃t∈T,t.o.obj=o\/t.s.obj=o
theorem gM! (T:List Tup)(t:Tup)(p:P3):ai! (T++[t]) p=if t.o=p then ai! T p++[t.s]else ai! T p:=by
 unfold ai!;rw[List.filter_append,v9!];by_cases h:t.o=p
 ·simp[h]
 ·simp[h]
theorem eN! (T:List Tup)(t:Tup)(p:P3):aT! (T++[t]) p=if t.s=p then aT! T p++[t.o]else aT! T p:=by
 unfold aT!;rw[List.filter_append,v9!];by_cases h:t.s=p
 ·simp[h]
 ·simp[h]
abbrev OL:=NLG ByteArray O2
abbrev ONest (w:World) (b:Nat) (l:OL):Prop:=on! prog 9 30 Value.string oV w b l
structure BkOf (w:World)(B b m1 m2 m3:Nat)(l:OL)(T:List Tup):Prop where
 box:Blk w b #[.map (some m1),.map (some m2),.map (some m3)] 149
 subs:MR prog 32 pV subE w B m1 (ai! T)
 pnts:MR prog 33 pV pntE w B m2 (aT! T)
 objs:ONest w m3 l
 ne:m1≠m2/\m1∉nBG m3 l/\m2∉nBG m3 l
 what:∀typ o,o∈innG l typ↔o.t=typ/\ObjIn T o
def of! (w:World)(b:Nat)(T:List Tup):Prop:=∃B m1 m2 m3 l,BkOf w B b m1 m2 m3 l T
section
variable {w w' : World} {B b m1 m2 m3 : Nat} {l : OL} {T : List Tup}
theorem BkOf.ext (h:BkOf w B b m1 m2 m3 l T)(hx:Ext w w'):BkOf w' B b m1 m2 m3 l T:=⟨h.box.below hx,h.subs.up hx,h.pnts.up hx,h.objs.below hx,h.ne,h.what⟩
theorem of!.ext (h:of! w b T)(hx:Ext w w'):of! w' b T:=by
 obtain⟨B,m1,m2,m3,l,h⟩:=h;exact⟨B,m1,m2,m3,l,h.ext hx⟩
end
theorem ja! {S:Nat->Prop}(v:Value)(bs:List P3)(w:World)(hSw:∀b,S b->b<w.heap.size)(h:Sl S w 3 v (pcs bs))(hl:bs.length<=1073741824) :
  Calls prog 317 #[v] w fun e w'=>∃v',e= .returned v'/\Own w' w.heap.size 33 3 v' (pcs bs)/\Ext w w':=by
 have HS:=h! h;have HL:=h! hl;obtain⟨ao,n,c,rfl,hn,a2,a3,a,-⟩:=h;rw[aS!]at hn;obtain rfl:n=bs.length:=by omega
 rcases ao with _ | ad
 ·obtain rfl:c=0:=a rfl;obtain rfl:bs=[]:=x0! (by omega);simp only[v6!]at *;have hq:∀W,(binOp BinOp.eql 42 (.slice none 0 0) (.slice none 0 0)).run prog W= .ok (.bool true) W:=fun _=>by kernel_rfl
  go_enter func317,ntmps317
  go_wp2_with fail
  go_ret
  exact⟨_,rfl,Own.nil _ _ _ _,Ext.refl _⟩
 ·have hq:∀W,(binOp BinOp.eql 42 (.slice (some ad) bs.length c) (.slice none 0 0)).run prog W= .ok (.bool false) W:=fun _=>by kernel_rfl
  have HO:=h! (Own.made w (n0! _) 33 3);have HX:=h! (Ext.alloc w (.cells #[] 33));have a0:=h! (HS.out.same (w':=w.alloc (.cells #[] 33)) ((Same.below HX.out).mono hSw));go_enter func317,ntmps317
  go_wp2_with (at_builtin;go_must (refine gA! subsT rfl (.tmp 5) (.tmp 6) rfl rfl HO.out rfl a0.out (nd! _) (by have:=HL.out;rw[aS!];simp only[v6!];omega) (by have:=HL.out;rw[aS!];simp only[v6!];omega) (by simp) ?_;intro v5 w5 hown5 hb5 _;have HF:=h! (show Own w5 w.heap.size 33 3 v5 (pcs bs)from by rw[y2!]at hown5;exact hown5);have a1:Hid (Ext w w5):=h! (Below.trans HX.out hb5);obtain⟨a4,n5,c5,rfl,-,-,-⟩:=hown5.sl.len;clear hown5 hb5))
  go_ret
  exact⟨_,rfl,HF.out,a1.out⟩
theorem Own.low {w:World}{B B':Nat}{e:TypeId}{sz:Nat}{v:Value}{xs:List Value}(h:Own w B e sz v xs)(hb:B'<=B):Own w B' e sz v xs:=by
 obtain⟨n,h⟩:=h;refine⟨n,h.1,?_⟩;rcases h.2 with hn | ⟨g,cap,cur,rfl,hbg,r⟩
 ·exact .inl hn
 ·exact .inr ⟨g,cap,cur,rfl,by omega,r⟩
theorem Ext.sameSet {w w2:World}{B i:Nat}{cs:Array Value}{e:TypeId}{v:Value}(h:Ext w w2)(hb:Blk w2 B cs e)(hi:cs.setIfInBounds i v=cs):Ext w (w2.setCell ⟨B,i,none⟩ v) :=
 ⟨h.os,h.tape,h.output,by have:=h.size;simpa using this,fun b hl=>by
  by_cases hbB:b=B
  ·subst hbB;rw[show(w2.setCell ⟨b,i,none⟩ v).heap[b]?=_ from hb.set_to i v hi,<-h.block b hl];exact hb.symm
  ·exact(Below.heap_setCell _ _ _ b hbB).trans (h.block b hl)⟩
theorem MR.lookE {P:Program}{k:TypeId}{κ ι:Type} [DecidableEq κ] {kv:κ->Value}{E:Elm ι}{w:World}{B b:Nat}{f:κ->List ι}(h:MR P k kv E w B b f)(K:Keyed P k)(inj:∀a b,kv a=kv b->a=b) {t e:TypeId}(ht:P.underlying t=some (.map k e))(hz:∀W,(zeroValue e).run P W= .ok (.slice none 0 0) W) {n:κ}(hn:∃q,keyOf P k (kv n)=some q) :
  ∃v,(∀W,Ext w W->(Instr.lookup t (.map (some b)) (kv n) false).run P W= .ok v W)/\Own w B E.e E.sz v ((f n).flatMap E.enc):=by
 obtain⟨v,_,ho,lw,hM,_,_,c⟩:=h.look K inj ht (hz w) hn;refine⟨v,fun W hW=>?_,ho⟩;rw[(hM.below hW).look K inj ht (hz W) false hn];rcases c with c | ⟨c,-,rfl⟩ <;> rw[c] <;> rfl
theorem di! (b:Nat)(T:List Tup)(p:P3)(w:World)(hp:p.Ok)(h:of! w b T)(hl:(ai! T p).length<=1073741824) :
  Calls prog 316 #[.pointer (some ⟨b,0,none⟩),pV p] w fun e w'=>∃v,e= .returned (.tuple #[v,.int .i64 0])/\Own w' w.heap.size 33 3 v (pcs (ai! T p))/\Ext w w':=by
 obtain⟨B,m1,m2,m3,l,h⟩:=h;have HL:=h! hl;have HK:=h! (dO! p hp);have a3:=h! h.subs;have a4:=h! h.box;generalize hsl:ai! T p=sl at *;have a0:=h! hsl;clear hsl;obtain⟨s,t,r⟩:=p;have m:=Ext.alloc w (.cells #[.string s,.string t,.string r] 32);have k:=h! (Blk.made w #[.string s,.string t,.string r] 32);have o:=h! m;clear m h hp hl;unfold pV;dsimp only;go_enter func316,ntmps316
 go_wp2_with fail
 obtain⟨q,g⟩:=e! ((w.alloc (.cells #[.string s,.string t,.string r] 32)).drew);have a2:=h! (show Blk q w.heap.size #[.string s,.string t,.string r] 32 from by rw[g];exact k.out.drew);have f:=h! (show Ext w q from by rw[g];exact o.out.trans (Ext.drew _));refine re! g ?_;clear g k o;have h1:=fun W (h:Ext q W)=>((a4.out.below f.out).below h).cells;have h2:=fun W (h:Ext q W)=>(a2.out.below h).cells;obtain⟨v,a,hv⟩:=(a3.out.up f.out).lookE jN! if! Tryz.underlying145 Tryz.zeroValue42 HK.out;have HV:=h! (show Own q B 33 3 v (pcs sl)from by rw[<-a0.out];exact hv);unfold pV at a;dsimp only at a;clear hv;(refine WalkN.tk [0,1,2,3,4,5] ?_;(iterate 6 (refine c! ?_));refine TkN.n ?_)
 clear h1 h2 a;refine ob! 6 ?_;intro K hK;go_simp;refine(ja! v sl q (fun x hx=>hx.2) HV.out.sl HL.out).mono ?_;rintro e w2 ⟨v2,rfl,i,j⟩;have a1:=h! i;have a5:=h! j;refine hK.out _ _ j ?_;clear hK j;obtain⟨ao,n,c,rfl,-,-,-⟩:=i.sl.len;clear i;(refine WalkN.tk [7,8] ?_;(iterate 2 (refine c! ?_));refine TkN.n ?_)
 refine d! ?_;go_wp2_with fail
 go_ret2
 exact⟨_,rfl,a1.out.low (f.out.size),f.out.trans a5.out⟩
abbrev bkV (b:Nat):Value := .iface 49 (.pointer (some ⟨b,0,none⟩))
theorem fM! (wp am B b:Nat)(tv sm pv fv:Value)(T:List Tup)(ps:List P3)(p:P3)(w:World)(hp:p.Ok)(h:WkAt w wp am B tv (bkV b) sm ps pv fv)(hb:of! w b T)(hl:(ai! T p).length<=1073741824) :
  Calls prog 204 #[.pointer (some ⟨wp,0,none⟩),pV p] w fun e w'=>∃v,e= .returned v/\Own w' w.heap.size 33 3 v (pcs (ai! T p))/\Ext w w':=by
 have HL:=h! hl;have a2:=h! (fun W (hW:Ext w W)=>di! b T p W hp (hb.ext hW) hl);generalize hsl:ai! T p=sl at *;obtain⟨A,D,z⟩:=p;have l:=Ext.alloc w (.cells #[.string A,.string D,.string z] 32);have u:=h! (h.box.below l);have t:=h! (Blk.made w #[.string A,.string D,.string z] 32);have x:=h! l;clear l h hb hp hl hsl;unfold pV at *;dsimp only at *;go_enter func204,ntmps204
 go_wp2_with fail
 obtain⟨y,a⟩:=e! ((w.alloc (.cells #[.string A,.string D,.string z] 32)).drew);have k:=h! (show Blk y wp _ _ from by rw[a];exact u.out.drew);have s:=h! (show Blk y w.heap.size #[.string A,.string D,.string z] 32 from by rw[a];exact t.out.drew);have m:=h! (show Ext w y from by rw[a];exact x.out.trans (Ext.drew _));refine re! a ?_;clear a t x u;have h1:=fun W (h:Ext y W)=>(k.out.below h).cells;have h2:=fun W (h:Ext y W)=>(s.out.below h).cells;(refine WalkN.tk [0,1,2,3,4] ?_;(iterate 5 (refine c! ?_));refine TkN.n ?_)
 clear h1 h2;refine ob! 5 ?_;intro K hK;go_simp;refine(a2.out y m.out).mono ?_;rintro e w2 ⟨v2,rfl,o,q⟩;have j:=h! o;have r:=h! q;refine hK.out _ _ q ?_;clear hK q;obtain⟨ao,n,c,rfl,-,-,-⟩:=o.sl.len;clear o;(refine WalkN.tk [6,7,8,9,10] ?_;(iterate 5 (refine c! ?_));refine TkN.n ?_)
 refine d! ?_;have f:=h! (k.out.below r.out);have a5:=f.out.cells;have a3:=f.out.free;have a0:=h! ((m.out.trans r.out).sameSet (i:=6) (v := .int .i64 0) f.out rfl)
 have a1:=h! ((j.out.low m.out.size).keepOwn (w':=w2.setCell ⟨wp,6,none⟩ (.int .i64 0)) fun g hg=>Below.heap_setCell _ _ _ g fun e=>by
  obtain⟨a4,C⟩:=j.out.typed hg;have h4:=f.out;rw[show g=wp from e]at C;rw[show w2.heap[wp]?=_ from h4]at C;injection C with C
  injection C with _ C _
  exact absurd C (by decide))
 clear j r k s;go_wp2_with fail
 go_ret
 exact⟨_,rfl,a1.out,a0.out⟩
theorem Blk.set3 {w:World}{B:Nat}{a b c:Value}{e:TypeId}(h:Blk w B #[a,b,c] e)(x0 x1 x2:Value):Blk (((w.setCell ⟨B,0,none⟩ x0).setCell ⟨B,1,none⟩ x1).setCell ⟨B,2,none⟩ x2) B #[x0,x1,x2] e:=((h.set_to (cs':=#[x0,b,c]) 0 x0 rfl).set_to (cs':=#[x0,x1,c]) 1 x1 rfl).set_to 2 x2 rfl
theorem ce! (b:ByteArray):b.toList.isEmpty=decide (b=⟨#[]⟩):=by
 by_cases h:b=⟨#[]⟩
 ·subst h;simp[u5!]
 ·rw[v3! h];cases hb:b.toList.isEmpty with
  | false=>rfl
  | true =>
   refine absurd ?_ h;rw[List.isEmpty_iff,u5!]at hb;obtain⟨⟨d⟩⟩:=b;simp only at hb;subst hb;rfl
def usetF (s:P3):P3:=s
def viaF (b:ByteArray)(s:P3):P3:=⟨s.t,s.i,b⟩
theorem gI! (s:P3)(w:World):Calls prog 206 #[pV s] w fun e w'=>e= .returned (.tuple #[pV (usetF s),.bool (decide (s.r≠⟨#[]⟩))])/\Ext w w':=by
 obtain⟨st,si,l⟩:=s;have j:Ext w ((w.alloc (.cells #[.string st,.string si,.string l] 33)).alloc (.cells #[.string ⟨#[]⟩,.string ⟨#[]⟩,.string ⟨#[]⟩] 32)):=(Ext.alloc w _).trans (Ext.alloc _ _);have g:=h! ((Blk.made w #[.string st,.string si,.string l] 33).alloc (.cells #[.string ⟨#[]⟩,.string ⟨#[]⟩,.string ⟨#[]⟩] 32));have i:=h! (Blk.made' (w:=w.alloc (.cells #[.string st,.string si,.string l] 33)) (B:=w.heap.size+1) (by simp) #[.string ⟨#[]⟩,.string ⟨#[]⟩,.string ⟨#[]⟩] 32);have f:=h! j;clear j;unfold pV usetF;dsimp only;go_enter func206,ntmps206
 go_wp2_with fail
 obtain⟨k,a⟩:=e! (((w.alloc (.cells #[.string st,.string si,.string l] 33)).alloc (.cells #[.string ⟨#[]⟩,.string ⟨#[]⟩,.string ⟨#[]⟩] 32)).drew);have a3:=h! (show Blk k w.heap.size _ _ from by rw[a];exact g.out.drew);have b:=h! (show Blk k (w.heap.size+1) _ _ from by rw[a];exact i.out.drew);have a1:=h! (show Ext w k from by rw[a];exact f.out.trans (Ext.drew _));refine r! (Kept (· ≠ w.heap.size+1) k) (by rw[<-a];exact Kept.refl _ _) ?_;rw[<-a];clear a g i f;have h1:=fun W (h:Kept (· ≠ w.heap.size+1) k W)=>(h.blk a3.out (by show w.heap.size≠w.heap.size+1;omega)).cells;(refine WalkN.tk [0,1,2,3,4,5,6,7] ?_;(iterate 8 (refine c! ?_));refine TkN.n ?_)
 have a2:=b.out.cells;have a4:=b.out.free;refine ob! 8 ?_;intro K hK;go_simp;refine hK.out _ _ ((((Kept.refl _ k).set (fun h=>h rfl) _).set (fun h=>h rfl) _).set (fun h=>h rfl) _) ?_;clear hK a2 a4;have a0:=h! (b.out.set3 (.string st) (.string si) (.string l));have a5:=h! (show Below w.heap.size w _ from(((a1.out:Below _ _ _).setCell (by show w.heap.size<=w.heap.size+1;omega) (.string st) (p:=⟨w.heap.size+1,0,none⟩)).setCell (by show w.heap.size<=w.heap.size+1;omega) (.string si) (p:=⟨w.heap.size+1,1,none⟩)).setCell (by show w.heap.size<=w.heap.size+1;omega) (.string l) (p:=⟨w.heap.size+1,2,none⟩));refine t! 9 ?_
 refine d! ?_;clear h1;go_wp2_with fail
 refine bodyPost_ret (v := .tuple #[.agg #[.string st,.string si,.string l],.bool _]) ?_ rfl ⟨rfl,a5.out⟩;rw[results_cell_tmp rfl];have hl:=run_loadVar_row (P:=prog) _ (w.heap.size+1) _ 32 _ _ _ a0.out Tryz.underlying32 rfl (by kernel_rfl);simp[asAddr,hl,Result.andThen,ce!]
theorem km! (rb:Nat)(k:Int)(a b:ByteArray)(pv:Value)(s:P3)(w:World)(hr:Blk w rb #[.int .i64 k,.string a,.string b,pv] 106):Calls prog 207 #[pV s,.pointer (some ⟨rb,0,none⟩)] w fun e w'=>e= .returned (.tuple #[pV (viaF b s),.bool (decide (s.r=⟨#[]⟩))])/\Ext w w':=by
 obtain⟨st,si,q⟩:=s;have i:Ext w ((w.alloc (.cells #[.string st,.string si,.string q] 33)).alloc (.cells #[.string ⟨#[]⟩,.string ⟨#[]⟩,.string ⟨#[]⟩] 32)):=(Ext.alloc w _).trans (Ext.alloc _ _);have l:=h! ((Blk.made w #[.string st,.string si,.string q] 33).alloc (.cells #[.string ⟨#[]⟩,.string ⟨#[]⟩,.string ⟨#[]⟩] 32));have m:=h! (Blk.made' (w:=w.alloc (.cells #[.string st,.string si,.string q] 33)) (B:=w.heap.size+1) (by simp) #[.string ⟨#[]⟩,.string ⟨#[]⟩,.string ⟨#[]⟩] 32);have o:=h! i;have j:=h! (hr.below i);have a0:=h! hr.lt;clear i hr;unfold pV viaF;dsimp only;go_enter func207,ntmps207
 go_wp2_with fail
 obtain⟨u,f⟩:=e! (((w.alloc (.cells #[.string st,.string si,.string q] 33)).alloc (.cells #[.string ⟨#[]⟩,.string ⟨#[]⟩,.string ⟨#[]⟩] 32)).drew);have a6:=h! (show Blk u w.heap.size _ _ from by rw[f];exact l.out.drew);have a7:=h! (show Blk u rb _ _ from by rw[f];exact j.out.drew);have g:=h! (show Blk u (w.heap.size+1) _ _ from by rw[f];exact m.out.drew);have a4:=h! (show Ext w u from by rw[f];exact o.out.trans (Ext.drew _));refine r! (Kept (· ≠ w.heap.size+1) u) (by rw[<-f];exact Kept.refl _ _) ?_;rw[<-f];clear f l m o j;have h1:=fun W (h:Kept (· ≠ w.heap.size+1) u W)=>(h.blk a6.out (by show w.heap.size≠w.heap.size+1;omega)).cells;have h2:=fun W (h:Kept (· ≠ w.heap.size+1) u W)=>(h.blk a7.out (by show rb≠w.heap.size+1;have:=a0.out;omega)).cells;(refine WalkN.tk [0,1,2,3,4,5,6,7] ?_;(iterate 8 (refine c! ?_));refine TkN.n ?_)
 have a2:=g.out.cells;have a1:=g.out.free;refine ob! 8 ?_;intro K hK;go_simp;refine hK.out _ _ ((((Kept.refl _ u).set (fun h=>h rfl) _).set (fun h=>h rfl) _).set (fun h=>h rfl) _) ?_;clear hK a2 a1;have a3:=h! (g.out.set3 (.string st) (.string si) (.string b));have a5:=h! (show Below w.heap.size w _ from(((a4.out:Below _ _ _).setCell (by show w.heap.size<=w.heap.size+1;omega) (.string st) (p:=⟨w.heap.size+1,0,none⟩)).setCell (by show w.heap.size<=w.heap.size+1;omega) (.string si) (p:=⟨w.heap.size+1,1,none⟩)).setCell (by show w.heap.size<=w.heap.size+1;omega) (.string b) (p:=⟨w.heap.size+1,2,none⟩));refine t! 9 ?_
 refine d! ?_;clear h1 h2;go_wp2_with fail
 refine bodyPost_ret (v := .tuple #[.agg #[.string st,.string si,.string b],.bool _]) ?_ rfl ⟨rfl,a5.out⟩;rw[results_cell_tmp rfl];have hl:=run_loadVar_row (P:=prog) _ (w.heap.size+1) _ 32 _ _ _ a3.out Tryz.underlying32 rfl (by kernel_rfl);simp[asAddr,hl,Result.andThen,ce!]
def selF (ok:P3->Bool)(f:P3->P3)(l:List P3):List P3:=(l.filter ok).map f
theorem eG! (l:List P3):bM! l=selF (fun s=>decide (s.r≠⟨#[]⟩)) usetF l:=by
 unfold bM! selF;rw[show(usetF:P3->P3)=id from rfl,List.map_id]
theorem fN! (b:ByteArray)(l:List P3):viaOf b l=selF (fun s=>decide (s.r=⟨#[]⟩)) (viaF b) l:=rfl
theorem ls! {ok:P3->Bool}{f:P3->P3}{l:List P3}{i:Nat}(hi:i<l.length)(h:ok l[i]=true):selF ok f (l.take (i+1))=selF ok f (l.take i)++[f l[i]]:=by
 unfold selF;rw[n2! hi,List.filter_append,v9!];simp[h]
theorem mQ! {ok:P3->Bool}{f:P3->P3}{l:List P3}{i:Nat}(hi:i<l.length)(h:ok l[i]=false):selF ok f (l.take (i+1))=selF ok f (l.take i):=by
 unfold selF;rw[n2! hi,List.filter_append];simp[h]
theorem fq! (ok:P3->Bool)(f:P3->P3)(l:List P3):(selF ok f l).length<=l.length:=by
 unfold selF;rw[x1!];exact x8! _ _
theorem hV! (ps:List P3)(p:P3):(putP ps p).length<=ps.length+1:=by
 unfold putP;split
 ·omega
 ·simp
theorem bW!:∀(l ps:List P3)(out:List Int),(refsD ps out l).2.length<=ps.length+l.length
 | [],ps,_=>by simp[refsD]
 | p::l,ps,out=>by
  rw[refsD];have h1:=bW! l (putP ps p) (if (numD ps p:Int)∈out then out else out++[(numD ps p:Int)]);have h2:=hV! ps p;rw[u7!];omega
theorem bX!:∀(l ps:List P3)(out:List Int),(refsD ps out l).1.length<=out.length+l.length
 | [],ps,_=>by simp[refsD]
 | p::l,ps,out=>by
  rw[refsD];have h1:=bX! l (putP ps p) (if (numD ps p:Int)∈out then out else out++[(numD ps p:Int)])
  have h2:(if (numD ps p:Int)∈out then out else out++[(numD ps p:Int)]).length<=out.length+1:=by
   split
   ·omega
   ·simp
  rw[u7!];omega
theorem hS! (wp am B:Nat)(tv fi sm pv fv:Value)(ps:List P3)(S:Nat->Prop)(lv:Value)(l:List P3)(g:Nat)(cap:Array Value)(eg:∀args W,(callFunc g args).run prog W= .ok (.enter g args) W)(f:P3->P3)(ok:P3->Bool)(w:World)(h:WkAt w wp am B tv fi sm ps pv fv)(hB:B<=wp/\B<=am)
  (hl:Sl S w 3 lv (pcs l)) (hS:∀b,S b->KX wp am w pv b) (hok:∀s∈l,(f s).Ok) (hf:∀s∈l,∀W,Kept (KX wp am w pv) w W->Calls prog g (#[pV s]++cap) W fun e W'=>e= .returned (.tuple #[pV (f s),.bool (ok s)])/\Ext W W') (hn:ps.length+l.length<=1073741824) :
  Calls prog 205 #[.pointer (some ⟨wp,0,none⟩),lv,.func (.func g) #[] cap] w fun e w'=>∃v pv',e= .returned v/\Own w' w.heap.size 3 1 v (ic (refsD ps [] (selF ok f l)).1)/\WkAt w' wp am B tv fi sm (refsD ps [] (selF ok f l)).2 pv' fv/\Fine wp am w w' pv pv':=by
 have ad:=h! hB;have af:=h! hok;have HF:=h! hf;have HN:=h! hn;have ab:=h! hl;have HS:=h! hS;have HW:=h! h;obtain⟨ao,c,rfl,ak,ap,-⟩:=Sl.rows au! (by decide) (show Sl S w 3 lv (l.flatMap pC)from hl);clear hB hok hf hn hl hS h;go_enter func205,ntmps205
 go_wp2_with fail
 go_loopw [7,15] (fun ov iv wr=>∃(i:Nat) (pv':Value),i<=l.length/\iv= .int .i64 i/\Own wr w.heap.size 3 1 ov (ic (refsD ps [] (selF ok f (l.take i))).1)/\WkAt wr wp am B tv fi sm (refsD ps [] (selF ok f (l.take i))).2 pv' fv/\Fine wp am w wr pv pv') (fun _ iv _=>l.length-(intOf iv).toNat)
 case atStart=>exact⟨0,pv,v1! _,rfl,Own.nil _ _ _ _,HW.out,Fine.of _ _ _ (Ext.refl _)⟩
 case round =>
  obtain⟨i,pv',hi,rfl,R,a4,a3⟩:=hrel;have d:=h! R;have D:=h! a4;have J:=h! a3;clear R a4 a3;by_cases hlt:i<l.length
  ·obtain⟨an,c',aj,-,-,a⟩:=Sl.rows au! (by decide) (show Sl S wr 3 (.slice ao l.length c) (l.flatMap pC)from ab.out.same fun b hb=>J.out.kept.block b (HS.out b hb));cases aj;obtain⟨b,ac,rfl,-,a⟩:=a (by omega);have T:=a i hlt;clear a;have n:=h! (ls! (ok:=ok) (f:=f) hlt);have Q:=h! (mQ! (ok:=ok) (f:=f) hlt);have a6:=h! (HF.out l[i] (n5! hlt));have Z:=h! (af.out l[i] (n5! hlt));have V:=h! (show(selF ok f (l.take i)).length<=i from n6! (fq! _ _ _) (by rw[x4!];omega));have aa:=h! (bW! (selF ok f (l.take i)) ps []);have a1:=h! (bX! (selF ok f (l.take i)) ps []);have a8:=h! (fun p=>eK! (selF ok f (l.take i)) ps [] p);generalize selF ok f (l.take i)=sl at *;have t:=h! hlt;generalize l[i]=s at *;generalize hq:f s=q at *;generalize hr:refsD ps [] sl=r at *;obtain⟨ro,rp⟩:=r;dsimp only at d D a1 aa a8;obtain⟨st,si,sr⟩:=s;obtain⟨qt,qi,qr⟩:=q;have c0:wr.cell? ⟨b,ac+i*3,none⟩=some (.string st):=T 0 _ rfl;have c1:=T 1 _ rfl;have c2:=T 2 _ rfl;have a5:=h! hr;clear T hr hq;have Y:=Ext.alloc wr (.cells #[.string st,.string si,.string sr] 33);have a7:=h! Y;have z:=h! (a6.out _ (J.out.trans (Fine.of _ _ _ Y)).kept);clear Y a6;unfold pV at z;dsimp only at z;cases hokq:ok ⟨st,si,sr⟩ with
   | false =>
    rw[hokq]at z Q n;have I:=h! (Q.out rfl);clear n Q hokq;go_wp2_with fail
    refine z.out.mono ?_;rintro e w2 ⟨rfl,N⟩;have y:Hid (Ext wr w2):=h! (a7.out.trans N);have x:=h! (Ext.alloc w2 (.cells #[.string qt,.string qi,.string qr] 32));clear z N c0 c1 c2;go_wp2_with fail
    go_roundw
    case rel=>exact⟨i+1,pv',t.out,by go_num,by rw[I.out,a5.out];exact d.out.below (y.out.trans x.out),by rw[I.out,a5.out];exact D.out.ext (y.out.trans x.out),J.out.trans (Fine.of _ _ _ (y.out.trans x.out))⟩
    case measure=>have:=t.out;simp[intOf];omega
   | true =>
    rw[hokq]at z Q n;have o:=h! (n.out rfl);clear n Q hokq;go_wp2_with fail
    refine z.out.mono ?_;rintro e w2 ⟨rfl,N⟩;have y:Hid (Ext wr w2):=h! (a7.out.trans N);have x:=h! (Ext.alloc w2 (.cells #[.string qt,.string qi,.string qr] 32));have ae:=h! (Blk.made w2 #[.string qt,.string qi,.string qr] 32);obtain⟨w3,O⟩:=e! (w2.alloc (.cells #[.string qt,.string qi,.string qr] 32));have U:=h! (db! wp am B tv fi sm pv' fv rp ⟨qt,qi,qr⟩ w3 Z.out (by rw[O];exact D.out.ext (y.out.trans x.out)) ad.out (by have:=aa.out;have:=V.out;have:=HN.out;have:=t.out;omega));have a9:=h! (show Own w3 w.heap.size 3 1 u7 (ic ro)from by rw[O];exact d.out.below (y.out.trans x.out));have M:=h! (show WkAt w3 wp am B tv fi sm rp pv' fv from by rw[O];exact D.out.ext (y.out.trans x.out));have H:=h! (show Fine wp am w w3 pv pv' from by rw[O];exact J.out.trans (Fine.of _ _ _ (y.out.trans x.out)));subst O;clear z N c0 c1 c2;unfold pV at U;dsimp only at U;go_wp2_with fail
    refine U.out.mono ?_;rintro e w4 ⟨a2,rfl,L,C⟩;have G:=h! L;have F:=h! (C.row M.out a9.out (by decide) (by decide));have A:=h! (H.out.trans C);have K:=h! (ff! u7 ro (numD rp ⟨qt,qi,qr⟩:Nat) w4 F.out.sl);have k:=h! (a8.out ⟨qt,qi,qr⟩);clear U L C a9 M H y x ae;generalize numD rp ⟨qt,qi,qr⟩=nu at *;obtain⟨ah,n2,c2,rfl,al,-,-⟩:=F.out.sl.len;by_cases hm:(nu:Int)∈ro
    ·rw[if_pos hm]at k;rw[v2! hm]at K;clear hm;go_wp2_with fail
     refine K.out.mono ?_;rintro e w5 ⟨rfl,rfl⟩;go_wp2_with fail
     go_roundw
     case rel=>exact⟨i+1,a2,t.out,by go_num,by rw[o.out,k.out];exact F.out,by rw[o.out,k.out];exact G.out,A.out⟩
     case measure=>have:=t.out;simp[intOf];omega
    ·rw[if_neg hm]at k;rw[v3! hm]at K;clear hm;go_wp2_with fail
     refine K.out.mono ?_;rintro e w5 ⟨rfl,rfl⟩;have E:=h! (Ext.alloc w5 (.cells #[.int .i64 nu] 3));clear K;go_wp2_with (at_builtin;go_must (refine aW! intsT rfl (.tmp 34) (.tmp 36) rfl rfl (F.out.below E.out) rfl (m:=1) (news:=[.int .i64 nu]) rfl (by intro j u hu;rw[Addr.add_lit,cell_of_row _ w5.heap.size (0+j) #[.int .i64 nu] 3 (0,0) (heap_alloc_new w5 _)];simpa using hu) (by simp[Value.oneCell']) (by have:=a1.out;have:=V.out;have:=HN.out;have:=t.out;rw[ad!];simp at *;omega) (by have:=a1.out;have:=V.out;have:=HN.out;have:=t.out;rw[ad!];simp at *;omega) (by have:=A.out.size;have:=E.out.size;omega) ?_;intro v6 w6 hown6 hb6 hg6;have ag:=h! (show Own w6 w.heap.size 3 1 v6 (ic (ro++[(nu:Int)]))from by rw[cJ!];exact hown6);have X:=h! ((G.out.ext E.out).grown (F.out.below E.out) (by decide) (by decide) hg6);have a0:=h! ((A.out.trans (Fine.of _ _ _ E.out)).own (F.out.below E.out) hg6);clear hown6 hb6 hg6))
     go_roundw
     case rel=>exact⟨i+1,a2,t.out,by go_num,by rw[o.out,k.out];exact ag.out,by rw[o.out,k.out];exact X.out,a0.out⟩
     case measure=>have:=t.out;simp[intOf];omega
  ·obtain rfl:i=l.length:=by omega
   have ai:Hid (l.take l.length=l):=h! (u2!);rw[ai.out]at d D;obtain⟨ah,n2,c2,rfl,-,-,-⟩:=d.out.sl.len;go_wp2_with fail
   go_ret
   exact⟨_,pv',rfl,d.out,D.out,J.out⟩
theorem nu!:oi! prog 94 128 4 80:=oi!.mk' Tryz.underlying94 (show _=some (some (.agg #[.int .i64 0,.slice none 0 0,.slice none 0 0,.slice none 0 0]),4,80)by kernel_rfl) rfl (by decide)
theorem as! (q:List (FT × FV3)):(q.flatMap fC).length=q.length*4:=by rw[ac! cf!]
theorem Blk.put4 {w:World}{B:Nat}{a b c d:Value}{e:TypeId}(h:Blk w B #[a,b,c,d] e)(x0 x1 x2 x3:Value):Blk ((((w.setCell ⟨B,0,none⟩ x0).setCell ⟨B,1,none⟩ x1).setCell ⟨B,2,none⟩ x2).setCell ⟨B,3,none⟩ x3) B #[x0,x1,x2,x3] e:=(((h.set_to (cs':=#[x0,b,c,d]) 0 x0 rfl).set_to (cs':=#[x0,x1,c,d]) 1 x1 rfl).set_to (cs':=#[x0,x1,x2,d]) 2 x2 rfl).set_to 3 x3 rfl
theorem Own.lit1 (w:World) {B:Nat}(hB:B<=w.heap.size)(e:TypeId)(x:Value):Own (w.alloc (.cells #[x] e)) B e 1 (.slice (some ⟨w.heap.size,0,none⟩) 1 1) [x] :=
 ⟨1,by simp,.inr ⟨w.heap.size,1,#[x],rfl,hB,heap_alloc_new w _,n0! _,by unfold maxLen;omega,by simp,by simp⟩⟩
theorem gr! (T:List Tup)(p:P3)(k:Int)(a b:ByteArray)(ps:List P3):(headF T p k a b ps).2.2.length<=ps.length+(T.length+1):=by
 have hs:∀q,(ai! T q).length<=T.length:=fun q=>by
  unfold ai!;rw[x1!];exact x8! _ _
 unfold headF;split
 ·have h1:=bW! (bM! (ai! T p)) ps [];have h2:=fq! (fun s=>decide (s.r≠⟨#[]⟩)) usetF (ai! T p);rw[<-eG!]at h2;have h3:=hs p;simp only;omega
 ·split
  ·have:=hV! ps ⟨p.t,p.i,a⟩;simp only;omega
  ·split
   ·have h1:=bW! (viaOf b (ai! T ⟨p.t,p.i,a⟩)) ps [];have h2:=fq! (fun s=>decide (s.r=⟨#[]⟩)) (viaF b) (ai! T ⟨p.t,p.i,a⟩);rw[<-fN!]at h2;have h3:=hs ⟨p.t,p.i,a⟩;simp only;omega
   ·simp only;omega
theorem kl! (T:List Tup)(p:P3)(r:RT):∀ps:List P3,(formD T p r ps).2.length<=ps.length+r.sz*(T.length+1):=by
 induction r using RT.ind with
 | h r ih =>
  intro ps;rw[bF!,RT.sz_eq]
  have:∀(l:List RT) (qs:List P3),(∀x∈l,x∈r.ps)->(ap! T p l qs).2.length<=qs.length+szL l*(T.length+1):=by
   intro l;induction l with
   | nil=>intro qs _;simp[ap!]
   | cons x l ihl =>
    intro qs hx;rw[ap!,szL];have h1:=ihl (formD T p x qs).2 fun y hy=>hx y (u9! _ hy);have h2:=ih x (hx x (by simp)) qs;rw[Nat.add_mul];simp only;omega
  have h1:=this r.ps (headF T p r.k r.a r.b ps).2.2 fun _ h=>h;have h2:=gr! T p r.k r.a r.b ps;rw[Nat.add_mul];simp only;omega
theorem eY! (T:List Tup)(p:P3):∀(l:List RT)(qs:List P3),(ap! T p l qs).2.length<=qs.length+szL l*(T.length+1)
 | [],qs=>by simp[ap!]
 | x::l,qs=>by
  rw[ap!,szL];have h1:=eY! T p l (formD T p x qs).2;have h2:=kl! T p x qs;rw[Nat.add_mul];simp only;omega
theorem dG!:∀l:List RT,l.length<=szL l
 | []=>by simp[szL]
 | r::l=>by
  have:=dG! l;have h:=r.sz_eq;rw[szL,u7!];omega
theorem dt!:∀(l:List RT)(i:Nat),szL (l.take i)<=szL l
 | [],i=>by simp
 | r::l,0=>by simp[szL]
 | r::l,i+1=>by
  have:=dt! l i;rw[List.take_succ_cons,szL,szL];omega
theorem kk! {T:List Tup}{p:P3}{k:Int}{a b:ByteArray}{parts:List RT}{ps:List P3}{N:Nat}(h:ps.length+(RT.mk k a b parts).sz*(T.length+1)<=N)(i:Nat)(hi:i<parts.length):(ap! T p (parts.take i) (headF T p k a b ps).2.2).2.length+parts[i].sz*(T.length+1)<=N:=by
 rw[RT.sz_eq]at h;have h1:=eY! T p (parts.take i) (headF T p k a b ps).2.2;have h2:=gr! T p k a b ps;have h3:=hB! hi;have h4:=dt! parts (i+1);have h5:szL (parts.take (i+1))*(T.length+1)<=szL parts*(T.length+1):=y7! _ h4;rw[h3,Nat.add_mul]at h5;rw[Nat.add_mul]at h;simp only[RT.ps]at h;omega
structure FmAt (w:World)(lo x:Nat)(k:Int)(subs:List P3)(refs:List Int)(q:List (FT × FV3))(sv rv qv:Value):Prop where
 box:Blk w x #[.int .i64 k,sv,rv,qv] 128
 subs:Own w lo 33 3 sv (pcs subs)
 refs:Own w lo 3 1 rv (ic refs)
 parts:FRow lo w q qv
section
variable {w w' : World} {lo x wp am B : Nat} {k : Int} {subs : List P3} {refs : List Int} {q : List (FT × FV3)} {sv rv qv tv fi sm pv fv pv' : Value} {ps : List P3}
theorem FmAt.fine (h:FmAt w lo x k subs refs q sv rv qv)(hw:WkAt w wp am B tv fi sm ps pv fv)(hf:Fine wp am w w' pv pv')(hB:B<=wp/\B<=am)(hM:wp<lo/\am<lo):FmAt w' lo x k subs refs q sv rv qv :=
 ⟨hf.blk hw h.box (by decide) (by decide),hf.row hw h.subs (by decide) (by decide),hf.row hw h.refs (by decide) (by decide),h.parts.keep (hf.pk hw hB) fun x hx=>by
  rcases hx with rfl | rfl
  ·exact hM.1
  ·exact hM.2⟩
theorem FmAt.ext (h:FmAt w lo x k subs refs q sv rv qv)(hx:Ext w w'):FmAt w' lo x k subs refs q sv rv qv:=⟨h.box.below hx,h.subs.below hx,h.refs.below hx,h.parts.ext hx⟩
theorem FmAt.add {w2 w3 w4:World}{y:FT × FV3}{v':Value}{n0:Nat}(h:FmAt w2 lo x k subs refs q sv rv qv)(hx3:Ext w2 w3)(hg:w3.grownBy w4 qv.ownBlock)(ho:Own w4 lo 128 4 v' (q.flatMap fC++fC y))
  (hb:∀g,v'.ownBlock=some g->qv.ownBlock=some g\/w3.heap.size<=g) (hy:FTAt (FS n0 w2) w2 y.1 y.2) (hn0:lo<=n0) (hpv:∀g,qv.ownBlock=some g->g<n0) (hxl:x<lo):FmAt (w4.setCell ⟨x,3,none⟩ v') lo x k subs refs (q++[y]) sv rv v':=by
 have a:Blk w4 x #[.int .i64 k,sv,rv,qv] 128:=(hg.block x (h.box.below hx3).lt fun e=>by have:=(h.parts.row.block x e.symm).1;omega).trans (h.box.below hx3);have c:=h.parts.row.below hx3;refine⟨a.set_to 3 v' rfl,?_,?_,?_⟩
 ·exact Own.setBox (x:=x) ((h.subs.below hx3).keepOwn fun g hgs=>hg.block g ((h.subs.below hx3).block g hgs).2 fun e=>(h.subs.below hx3).apart c (by decide) hgs e.symm) a (by decide) _
 ·exact Own.setBox (x:=x) ((h.refs.below hx3).keepOwn fun g hgs=>hg.block g ((h.refs.below hx3).block g hgs).2 fun e=>(h.refs.below hx3).apart c (by decide) hgs e.symm) a (by decide) _
 ·refine FRow.above (h.parts.add (w3:=w4) (fun b h1 h2=>(hg.block b (n1! h1 hx3.size) fun e=>h2 e.symm).trans (hx3.block b h1)) (n6! hx3.size hg.size) ho (fun g hg'=>(hb g hg').imp id fun e=>n6! hx3.size e) hy hn0 hpv) (fun b hb _=>Below.heap_setCell _ _ _ b (by show b≠x;omega)) (by simp)
theorem FmAt.setSubs {s2:List P3}{sv':Value}(h:FmAt w lo x k subs refs q sv rv qv)(hs:Own w lo 33 3 sv' (pcs s2))(hx:x<lo):FmAt (w.setCell ⟨x,1,none⟩ sv') lo x k s2 refs q sv' rv qv :=
 ⟨h.box.set_to 1 sv' rfl,hs.setBox (x:=x) h.box (by decide) _,h.refs.setBox (x:=x) h.box (by decide) _,FRow.above h.parts (fun b hb _=>Below.heap_setCell _ _ _ b (by show b≠x;omega)) (by simp)⟩
theorem FmAt.setRefs {r2:List Int}{rv':Value}(h:FmAt w lo x k subs refs q sv rv qv)(hs:Own w lo 3 1 rv' (ic r2))(hx:x<lo):FmAt (w.setCell ⟨x,2,none⟩ rv') lo x k subs r2 q sv rv' qv :=
 ⟨h.box.set_to 2 rv' rfl,h.subs.setBox (x:=x) h.box (by decide) _,hs.setBox (x:=x) h.box (by decide) _,FRow.above h.parts (fun b hb _=>Below.heap_setCell _ _ _ b (by show b≠x;omega)) (by simp)⟩
theorem dA! (T:List Tup)(p:P3):∀(l:List RT)(qs:List P3),(ap! T p l qs).1.length=l.length
 | [],qs=>rfl
 | x::l,qs=>by rw[ap!,u7!,u7!,dA! T p l]
theorem FmAt.done {r:FT}(h:FmAt w lo x k subs refs q sv rv qv)(hr:r= .mk k subs refs (q.map (·.1)))(hs:∀b,lo<=b->b<w.heap.size->w'.heap[b]?=w.heap[b]?)(hz:w.heap.size<=w'.heap.size):FTAt (FS lo w') w' r (sv,rv,qv):=by
 have a:Same (FS lo w) w w':=fun b hb=>hs b hb.1 hb.2.1;have c:∀b,FS lo w b->FS lo w' b:=fun b hb=>⟨hb.1,n1! hb.2.1 hz,fun cs=>by rw[hs b hb.1 hb.2.1];exact hb.2.2 cs⟩;refine(FTAt.iff _ _).2 ?_;subst hr;refine⟨((h.subs.fs (by decide)).same a).mono c,((h.refs.fs (by decide)).same a).mono c,q,rfl,fun y hy=>?_,((h.parts.row.fs (by decide)).same a).mono c⟩;exact(((h.parts.parts y hy).mono fun b hb=>hb.1).same a).mono c
end
theorem md! (wp am B b:Nat)(tv sm fv:Value)(T:List Tup)(p:P3)(wb:World)(hp:p.Ok)(hT:∀t∈T,t.s.Ok)(hTl:T.length<=1000000)(hB:B<=wp/\B<=am)(hbk:of! wb b T)(hwb:wb.heap.size<=B)(r:RT):∀(pv rpv:Value)(ps:List P3)(w:World),r.Ok->RTAt (· < B) w r rpv->Below B wb w->WkAt w wp am B tv (bkV b) sm ps pv fv->ps.length+r.sz*(T.length+1)<=1073741824 ->
  Calls prog 152 #[.pointer (some ⟨wp,0,none⟩),pV p,rV r rpv] w fun e w'=>∃v3 pv',e= .returned (fV (formD T p r ps).1 v3)/\FTAt (FS w.heap.size w') w' (formD T p r ps).1 v3/\WkAt w' wp am B tv (bkV b) sm (formD T p r ps).2 pv' fv/\Fine wp am w w' pv pv':=by
 have ae:=h! hp;have b1:=h! hT;have aG:=h! hTl;have HB:=h! hB;have aF:=h! (fun W (h:Below B wb W)=>hbk.ext (h.mono hwb));clear hp hT hTl hB hbk hwb;obtain⟨pt,pi,pr⟩:=p;induction r using RT.ind with
 | h r ih =>
 intro pv rpv ps w a1 hat ah a0 hlen;have aq:=h! (bF! T ⟨pt,pi,pr⟩ r ps);have J:=h! ((RT.ok_iff r).1 a1);obtain⟨k,ra,rb,parts⟩:=r;dsimp only[RT.k,RT.a,RT.b,RT.ps]at aq ih J;have aY:=h! ih;have b7:=h! hat;have aw:=h! hlen;have ab:=h! (kk! (p:=⟨pt,pi,pr⟩) hlen)
 have G:=h! (show ∀q,(ai! T q).length<=T.length from fun q=>by
  unfold ai!;rw[x1!];exact x8! _ _)
 have a2:=h! (show ∀q,∀s∈ai! T q,s.Ok from fun q s hs=>by
  obtain⟨t,ht,-,rfl⟩:=bT! hs;exact b1.out t ht)
 have A:Hid (wp<w.heap.size/\am<w.heap.size):=h! ⟨a0.box.lt,a0.num.lt⟩
 have a6:=h! (show ps.length+(T.length+1)<=1073741824 from by
  have h1:=(RT.mk k ra rb parts).sz_eq;rw[h1,Nat.add_mul]at hlen;omega)
 obtain⟨ao,c,rfl,aR,b8,-⟩:=hat.rows;dsimp only[RT.ps]at aR b8 ⊢;obtain⟨wa,an⟩:=e! (w.alloc (.cells #[.string pt,.string pi,.string pr] 32));obtain⟨wc,ap⟩:=e! (wa.alloc (.cells #[.int .i64 k,.string ra,.string rb,.slice ao parts.length c] 106));obtain⟨wd,Q⟩:=e! (wc.alloc (.cells #[.int .i64 0,.slice none 0 0,.slice none 0 0,.slice none 0 0] 128));obtain⟨we,F⟩:=e! (wd.alloc (.cells #[.int .i64 k,.slice none 0 0,.slice none 0 0,.slice none 0 0] 128));have ea:wa.heap.size=w.heap.size+1:=by rw[an];simp
 have ec:wc.heap.size=w.heap.size+2:=by rw[ap];simp[ea]
 have ed:wd.heap.size=w.heap.size+3:=by rw[Q];simp[ec]
 have ee:we.heap.size=w.heap.size+4:=by rw[F];simp[ed]
 have xa:Ext w wa:=xa! an
 have xc:Ext wa wc:=xa! ap
 have xd:Ext wc wd:=xa! Q
 have xe:Ext wd we:=xa! F
 have EZ:=h! ee;have EX:Hid (Ext w we):=h! (xa.trans (xc.trans (xd.trans xe)));have EP:=h! (show Blk we w.heap.size #[.string pt,.string pi,.string pr] 32 from Blk.below (bm! an) (xc.trans (xd.trans xe)));have ER:=h! (show Blk we (w.heap.size+1) #[.int .i64 k,.string ra,.string rb,.slice ao parts.length c] 106 from Blk.below (by rw[ap,<-ea];exact Blk.made _ _ _) (xd.trans xe));have EO:=h! (show Blk we (w.heap.size+2) #[.int .i64 0,.slice none 0 0,.slice none 0 0,.slice none 0 0] 128 from Blk.below (by rw[Q,<-ec];exact Blk.made _ _ _) xe);have EF:=h! (show FmAt we (w.heap.size+4) (w.heap.size+3) k [] [] [] (.slice none 0 0) (.slice none 0 0) (.slice none 0 0)from⟨by rw[F,<-ed];exact Blk.made _ _ _,Own.nil _ _ _ _,Own.nil _ _ _ _,FRow.nil _ _⟩);have EW:=h! (a0.ext EX.out);have EB:=h! (show Below B wb we from ah.trans (EX.out.mono (by have:=a0.box.lt;have:=HB.out.1;omega)));have M:=h! (fun g hg=>a0.pts.block g hg);clear ea ec ed ee xa xc xd xe ih a1 hat ah a0 hlen;subst F Q ap an;unfold pV rV;dsimp only[RT.k,RT.a,RT.b,RT.ps]
 have av:Hid (k=1)\/Hid (k=2)\/Hid (k=3)\/Hid (k≠1/\k≠2/\k≠3):=by
  by_cases h1:k=1
  ·exact .inl h1
  ·by_cases h2:k=2
   ·exact .inr (.inl h2)
   ·by_cases h3:k=3
    ·exact .inr (.inr (.inl h3))
    ·exact .inr (.inr (.inr ⟨h1,h2,h3⟩))
 rcases av with HK | HK | HK | HK
 case' inl =>
  have q1:(k == 1)=true:=by rw[HK.out];rfl
  have ac:=EP.out.cells;go_enter func152,ntmps152
  go_wp2_with fail
  clear ac;obtain⟨we,F⟩:=e! ((((w.alloc (.cells #[.string pt,.string pi,.string pr] 32)).alloc (.cells #[.int .i64 k,.string ra,.string rb,.slice ao parts.length c] 106)).alloc (.cells #[.int .i64 0,.slice none 0 0,.slice none 0 0,.slice none 0 0] 128)).alloc (.cells #[.int .i64 k,.slice none 0 0,.slice none 0 0,.slice none 0 0] 128));rw[<-F]at EX EP ER EO EF EW EB EZ ⊢;clear F;have aj:=h! (fM! wp am B b tv sm pv fv T ps ⟨pt,pi,pr⟩ we ae.out EW.out (aF.out we EB.out) (n6! (G.out _) (by have:=aG.out;omega)));refine aj.out.mono ?_;rintro e w2 ⟨v2,rfl,a4,C⟩;have au:=h! (a2.out ⟨pt,pi,pr⟩);have ay:=h! (G.out ⟨pt,pi,pr⟩);generalize hsb:ai! T ⟨pt,pi,pr⟩=sb at *;obtain⟨so,sn,sc,rfl,-,-,-⟩:=a4.sl.len;have F2:=h! (EF.out.ext C);have W2:=h! (EW.out.ext C);have P2:=h! (EP.out.below C);have O2:=h! (EO.out.below C);have R2:=h! (ER.out.below C);have S2:=h! (a4.low (B':=w.heap.size+4) (v4! EZ.out.symm));have X2:Hid (Ext w w2):=h! (EX.out.trans C);have B2:=h! (show Below B wb w2 from EB.out.trans (C.mono (by have:=EZ.out;have:=HB.out.1;have:=A.out.1;omega)));have Z2:=h! (show w.heap.size+4<=w2.heap.size from by have:=EZ.out;have:=C.size;omega);clear aj a4 C EF EW EP EO ER EB EX EZ;have X:=F2.out.box.cells;have Z:=F2.out.box.free;have F3:=h! (F2.out.setSubs S2.out (by omega));have W3:=h! (W2.out.setBox (i:=1) F2.out.box (by decide) (by decide) (.slice so sn sc));have S3:=h! (S2.out.setBox (i:=1) F2.out.box (by decide) (.slice so sn sc));have P3:=h! (P2.out.other (a:=⟨w.heap.size+3,1,none⟩) (by show w.heap.size≠w.heap.size+3;omega) (.slice so sn sc));have O3:=h! (O2.out.other (a:=⟨w.heap.size+3,1,none⟩) (by show w.heap.size+2≠w.heap.size+3;omega) (.slice so sn sc));have R3:=h! (R2.out.other (a:=⟨w.heap.size+3,1,none⟩) (by show w.heap.size+1≠w.heap.size+3;omega) (.slice so sn sc));have N3:=h! ((Fine.of wp am pv X2.out).set (x:=w.heap.size+3) (i:=1) (by omega) (.slice so sn sc));have B3:=h! (show Below B wb (w2.setCell ⟨w.heap.size+3,1,none⟩ (.slice so sn sc))from B2.out.setCell (by have:=HB.out.1;have:=A.out.1;show B<=w.heap.size+3;omega) _);have Z3:Hid (w.heap.size+4<=(w2.setCell ⟨w.heap.size+3,1,none⟩ (.slice so sn sc)).heap.size):=h! (by simpa using Z2.out);have b2:=F3.out.box.cells;have a5:=h! (hS! wp am B tv (bkV b) sm pv fv ps (KX wp am (w2.setCell ⟨w.heap.size+3,1,none⟩ (.slice so sn sc)) pv) (.slice so sn sc) sb 206 #[] (enters_of func206 (by kernel_rfl) rfl) usetF (fun s=>decide (s.r≠⟨#[]⟩)) (w2.setCell ⟨w.heap.size+3,1,none⟩ (.slice so sn sc)) W3.out HB.out (W3.out.sl S3.out (by decide) (by decide)) (fun _ h=>h) (fun s hs=>au.out s hs) (fun s _ W _=>gI! s W) (by have:=ay.out;have:=a6.out;omega));generalize hR:refsD ps [] (selF (fun s=>decide (s.r≠⟨#[]⟩)) usetF sb)=R at *;obtain⟨ro,rp⟩:=R;dsimp only at a5;clear F2 W2 P2 O2 R2 S2 X2 B2 Z2;have HH:=h! (show headF T ⟨pt,pi,pr⟩ k ra rb ps=(sb,ro,rp)from by unfold headF;rw[if_pos HK.out,hsb,eG!,hR]);go_wp2_with fail
  refine a5.out.mono ?_;clear X Z b2 hsb hR;rintro e w4 ⟨v4,H,rfl,a8,N,f⟩;obtain⟨z,o,v,rfl,-,-,-⟩:=a8.sl.len;have F4:=h! (F3.out.fine W3.out f HB.out ⟨by have:=A.out.1;omega,by have:=A.out.2;omega⟩);have P4:=h! (show Blk w4 w.heap.size _ _ from(f.kept.block _ ⟨P3.out.lt,by have:=A.out.1;omega,by have:=A.out.2;omega,fun e=>absurd (M.out _ e).2 (Nat.lt_irrefl _)⟩).trans P3.out);have O4:=h! (f.blk W3.out O3.out (by decide) (by decide));have R4:=h! (f.blk W3.out R3.out (by decide) (by decide));have S4:=h! (a8.low (B':=w.heap.size+4) Z3.out);have N4:=h! (N3.out.trans f);have B4:Hid (Below B wb w4):=h! (B3.out.trans (f.pk W3.out HB.out).below);have Z4:Hid (w.heap.size+4<=w4.heap.size):=h! (n6! Z3.out f.size);have a7:Hid (∀g,H.ownBlock=some g->pv.ownBlock=some g\/w.heap.size+4<=g):=h! (fun g hg=>(f.wher g hg).imp id fun e=>n6! Z3.out e);have W4:=h! N;clear a5 a8 N f F3 W3 P3 O3 R3 N3 B3 Z3;have X:=F4.out.box.cells;have Z:=F4.out.box.free;have FM:=h! (F4.out.setRefs S4.out (by omega));have FW:=h! (W4.out.setBox (i:=2) F4.out.box (by decide) (by decide) (.slice z o v));have FP:=h! (P4.out.other (a:=⟨w.heap.size+3,2,none⟩) (by show w.heap.size≠w.heap.size+3;omega) (.slice z o v));have FO:=h! (O4.out.other (a:=⟨w.heap.size+3,2,none⟩) (by show w.heap.size+2≠w.heap.size+3;omega) (.slice z o v));have FR:=h! (R4.out.other (a:=⟨w.heap.size+3,2,none⟩) (by show w.heap.size+1≠w.heap.size+3;omega) (.slice z o v));have FN:=h! (N4.out.set (x:=w.heap.size+3) (i:=2) (by omega) (.slice z o v));have FB:=h! (show Below B wb (w4.setCell ⟨w.heap.size+3,2,none⟩ (.slice z o v))from B4.out.setCell (by have:=HB.out.1;have:=A.out.1;show B<=w.heap.size+3;omega) _);have FZ:Hid (w.heap.size+4<=(w4.setCell ⟨w.heap.size+3,2,none⟩ (.slice z o v)).heap.size):=h! (by simpa using Z4.out);clear F4 W4 P4 O4 R4 S4 N4 B4 Z4;have a3:=FR.out.cells;go_wp2_with fail
  clear a3 X Z;obtain⟨wl,L⟩:=e! (w4.setCell ⟨w.heap.size+3,2,none⟩ (.slice z o v));rw[<-L]at FM FW FP FO FR FN FB FZ ⊢;clear L
 case' inr.inl =>
  have q1:(k == 1)=false:=by rw[HK.out];rfl
  have q2:(k == 2)=true:=by rw[HK.out];rfl
  have ax:=ER.out.cells;have ac:=EP.out.cells;go_enter func152,ntmps152
  go_wp2_with fail
  clear ax ac;obtain⟨we,F⟩:=e! ((((w.alloc (.cells #[.string pt,.string pi,.string pr] 32)).alloc (.cells #[.int .i64 k,.string ra,.string rb,.slice ao parts.length c] 106)).alloc (.cells #[.int .i64 0,.slice none 0 0,.slice none 0 0,.slice none 0 0] 128)).alloc (.cells #[.int .i64 k,.slice none 0 0,.slice none 0 0,.slice none 0 0] 128));rw[<-F]at EX EP ER EO EF EW EB EZ ⊢;clear F;have aJ:=h! (db! wp am B tv (bkV b) sm pv fv ps ⟨pt,pi,ra⟩ we ⟨ae.out.1,ae.out.2.1,by have:=J.out.2.1;show ra.size<=maxLen;unfold maxLen;omega⟩ EW.out HB.out (by have:=a6.out;omega));have HH:=h! (show headF T ⟨pt,pi,pr⟩ k ra rb ps=([],[(numD ps ⟨pt,pi,ra⟩:Int)],putP ps ⟨pt,pi,ra⟩)from by unfold headF;rw[if_neg (by rw[HK.out];decide),if_pos HK.out]);refine aJ.out.mono ?_;rintro e w3 ⟨H,rfl,ag,E⟩;generalize numD ps ⟨pt,pi,ra⟩=nu at *;generalize putP ps ⟨pt,pi,ra⟩=rp at *;have Z3:=h! (show w.heap.size+4<=w3.heap.size from by have:=EZ.out;have:=E.size;omega);have Y:=Ext.alloc w3 (.cells #[.int .i64 nu] 3);have F4:=h! ((EF.out.fine EW.out E HB.out ⟨by have:=A.out.1;omega,by have:=A.out.2;omega⟩).ext Y);have P4:=h! ((show Blk w3 w.heap.size _ _ from(E.kept.block _ ⟨EP.out.lt,by have:=A.out.1;omega,by have:=A.out.2;omega,fun e=>absurd (M.out _ e).2 (Nat.lt_irrefl _)⟩).trans EP.out).below Y);have O4:=h! ((E.blk EW.out EO.out (by decide) (by decide)).below Y);have R4:=h! ((E.blk EW.out ER.out (by decide) (by decide)).below Y);have S4:Hid (Own _ (w.heap.size+4) 3 1 _ (ic [(nu:Int)])):=h! (Own.lit1 w3 Z3.out 3 (.int .i64 nu));have N4:=h! (((Fine.of wp am pv EX.out).trans E).trans (Fine.of _ _ _ Y));have B4:=h! (show Below B wb _ from(EB.out.trans (E.pk EW.out HB.out).below).trans (Y.mono (by have:=Z3.out;have:=HB.out.1;have:=A.out.1;omega)));have a7:=h! (show ∀g,H.ownBlock=some g->pv.ownBlock=some g\/w.heap.size+4<=g from fun g hg=>(E.wher g hg).imp id fun e=>by have:=EZ.out;omega);have W4:=h! (ag.ext Y);have Z4:Hid (w.heap.size+4<=(w3.alloc (.cells #[.int .i64 nu] 3)).heap.size):=h! (n6! Z3.out Y.size);clear aJ ag E EF EW EP EO ER EB EX EZ Y;have X:=F4.out.box.cells;have Z:=F4.out.box.free;have FM:=h! (F4.out.setRefs S4.out (by omega));have FW:=h! (W4.out.setBox (i:=2) F4.out.box (by decide) (by decide) (.slice (some ⟨w3.heap.size,0,none⟩) 1 1));have FP:=h! (P4.out.other (a:=⟨w.heap.size+3,2,none⟩) (by show w.heap.size≠w.heap.size+3;omega) (.slice (some ⟨w3.heap.size,0,none⟩) 1 1));have FO:=h! (O4.out.other (a:=⟨w.heap.size+3,2,none⟩) (by show w.heap.size+2≠w.heap.size+3;omega) (.slice (some ⟨w3.heap.size,0,none⟩) 1 1));have FR:=h! (R4.out.other (a:=⟨w.heap.size+3,2,none⟩) (by show w.heap.size+1≠w.heap.size+3;omega) (.slice (some ⟨w3.heap.size,0,none⟩) 1 1));have FN:=h! (N4.out.set (x:=w.heap.size+3) (i:=2) (by omega) (.slice (some ⟨w3.heap.size,0,none⟩) 1 1));have FB:=h! (B4.out.setCell (p:=⟨w.heap.size+3,2,none⟩) (by have:=HB.out.1;have:=A.out.1;show B<=w.heap.size+3;omega) (.slice (some ⟨w3.heap.size,0,none⟩) 1 1));have FZ:Hid (w.heap.size+4<=((w3.alloc (.cells #[.int .i64 nu] 3)).setCell ⟨w.heap.size+3,2,none⟩ (.slice (some ⟨w3.heap.size,0,none⟩) 1 1)).heap.size):=h! (by simpa using Z4.out);clear F4 W4 P4 O4 R4 S4 N4 B4 Z4 Z3;have a3:=FR.out.cells;go_wp2_with fail
  clear a3 X Z;obtain⟨wl,L⟩:=e! ((w3.alloc (.cells #[.int .i64 nu] 3)).setCell ⟨w.heap.size+3,2,none⟩ (.slice (some ⟨w3.heap.size,0,none⟩) 1 1));rw[<-L]at FM FW FP FO FR FN FB FZ ⊢;clear L;obtain⟨z,o,v,hr⟩:∃(a:Option Addr) (b c:Nat),Value.slice a b c= .slice (some ⟨w3.heap.size,0,none⟩) 1 1:=⟨_,_,_,rfl⟩;rw[<-hr]at FM;clear hr;obtain⟨ro,a1⟩:∃ro:List Int,ro=[(nu:Int)]:=⟨_,rfl⟩;rw[<-a1]at FM HH;clear a1;obtain⟨so,sn,sc,hs⟩:∃(so:Option Addr) (sn sc:Nat),Value.slice so sn sc= .slice none 0 0:=⟨_,_,_,rfl⟩;obtain⟨sb,hsb⟩:∃sb:List P3,sb=[]:=⟨_,rfl⟩;have FM:=h! (show FmAt wl (w.heap.size+4) (w.heap.size+3) k sb ro [] (.slice so sn sc) (.slice z o v) (.slice none 0 0)from by rw[hs,hsb];exact FM.out);have HH:=h! (show headF T ⟨pt,pi,pr⟩ k ra rb ps=(sb,ro,rp)from by rw[hsb];exact HH.out);clear hs hsb
 case' inr.inr.inl =>
  have q1:(k == 1)=false:=by rw[HK.out];rfl
  have q2:(k == 2)=false:=by rw[HK.out];rfl
  have q3:(k == 3)=true:=by rw[HK.out];rfl
  have ax:=ER.out.cells;have ac:=EP.out.cells;go_enter func152,ntmps152
  go_wp2_with fail
  clear ax ac;obtain⟨we,F⟩:=e! ((((w.alloc (.cells #[.string pt,.string pi,.string pr] 32)).alloc (.cells #[.int .i64 k,.string ra,.string rb,.slice ao parts.length c] 106)).alloc (.cells #[.int .i64 0,.slice none 0 0,.slice none 0 0,.slice none 0 0] 128)).alloc (.cells #[.int .i64 k,.slice none 0 0,.slice none 0 0,.slice none 0 0] 128));rw[<-F]at EX EP ER EO EF EW EB EZ ⊢;clear F;have aj:=h! (fM! wp am B b tv sm pv fv T ps ⟨pt,pi,ra⟩ we ⟨ae.out.1,ae.out.2.1,by have:=J.out.2.1;show ra.size<=maxLen;unfold maxLen;omega⟩ EW.out (aF.out we EB.out) (n6! (G.out _) (by have:=aG.out;omega)));refine aj.out.mono ?_;rintro e w2 ⟨v2,rfl,a4,C⟩;have au:=h! (a2.out ⟨pt,pi,ra⟩);have ay:=h! (G.out ⟨pt,pi,ra⟩);generalize hsb:ai! T ⟨pt,pi,ra⟩=sb at *;obtain⟨so,sn,sc,rfl,-,-,-⟩:=a4.sl.len;have F2:=h! (EF.out.ext C);have W2:=h! (EW.out.ext C);have P2:=h! (EP.out.below C);have O2:=h! (EO.out.below C);have R2:=h! (ER.out.below C);have S2:=h! (a4.low (B':=w.heap.size+4) (v4! EZ.out.symm));have X2:Hid (Ext w w2):=h! (EX.out.trans C);have B2:=h! (show Below B wb w2 from EB.out.trans (C.mono (by have:=EZ.out;have:=HB.out.1;have:=A.out.1;omega)));have Z2:=h! (show w.heap.size+4<=w2.heap.size from by have:=EZ.out;have:=C.size;omega);clear aj a4 C EF EW EP EO ER EB EX EZ;have F3:=F2;have W3:=W2;have S3:=S2;have P3:=P2;have O3:=O2;have R3:=R2;have N3:=h! (Fine.of wp am pv X2.out);have B3:=B2;have Z3:=Z2;have a5:=h! (hS! wp am B tv (bkV b) sm pv fv ps (KX wp am (w2) pv) (.slice so sn sc) sb 207 #[.pointer (some ⟨w.heap.size+1,0,none⟩)] (enters_of func207 (by kernel_rfl) rfl) (viaF rb) (fun s=>decide (s.r=⟨#[]⟩)) (w2) W3.out HB.out (W3.out.sl S3.out (by decide) (by decide)) (fun _ h=>h) (fun s hs=>⟨(au.out s hs).1,(au.out s hs).2.1,by have:=J.out.2.2.1;show rb.size<=maxLen;unfold maxLen;omega⟩) (fun s _ W hW=>km! _ _ _ _ _ s W ((hW.block _ (W3.out.un R3.out (by decide) (by decide))).trans R3.out)) (by have:=ay.out;have:=a6.out;omega));generalize hR:refsD ps [] (selF (fun s=>decide (s.r=⟨#[]⟩)) (viaF rb) sb)=R at *;obtain⟨ro,rp⟩:=R;dsimp only at a5;clear F2 W2 P2 O2 R2 S2 X2 B2 Z2;have HH:=h! (show headF T ⟨pt,pi,pr⟩ k ra rb ps=([],ro,rp)from by unfold headF;rw[if_neg (by rw[HK.out];decide),if_neg (by rw[HK.out];decide),if_pos HK.out,hsb,fN!,hR]);go_wp2_with fail
  refine a5.out.mono ?_;clear hsb hR;rintro e w4 ⟨v4,H,rfl,a8,N,f⟩;obtain⟨z,o,v,rfl,-,-,-⟩:=a8.sl.len;have F4:=h! (F3.out.fine W3.out f HB.out ⟨by have:=A.out.1;omega,by have:=A.out.2;omega⟩);have P4:=h! (show Blk w4 w.heap.size _ _ from(f.kept.block _ ⟨P3.out.lt,by have:=A.out.1;omega,by have:=A.out.2;omega,fun e=>absurd (M.out _ e).2 (Nat.lt_irrefl _)⟩).trans P3.out);have O4:=h! (f.blk W3.out O3.out (by decide) (by decide));have R4:=h! (f.blk W3.out R3.out (by decide) (by decide));have S4:=h! (a8.low (B':=w.heap.size+4) Z3.out);have N4:=h! (N3.out.trans f);have B4:Hid (Below B wb w4):=h! (B3.out.trans (f.pk W3.out HB.out).below);have Z4:Hid (w.heap.size+4<=w4.heap.size):=h! (n6! Z3.out f.size);have a7:Hid (∀g,H.ownBlock=some g->pv.ownBlock=some g\/w.heap.size+4<=g):=h! (fun g hg=>(f.wher g hg).imp id fun e=>n6! Z3.out e);have W4:=h! N;clear a5 a8 N f F3 W3 P3 O3 R3 N3 B3 Z3;have X:=F4.out.box.cells;have Z:=F4.out.box.free;have FM:=h! (F4.out.setRefs S4.out (by omega));have FW:=h! (W4.out.setBox (i:=2) F4.out.box (by decide) (by decide) (.slice z o v));have FP:=h! (P4.out.other (a:=⟨w.heap.size+3,2,none⟩) (by show w.heap.size≠w.heap.size+3;omega) (.slice z o v));have FO:=h! (O4.out.other (a:=⟨w.heap.size+3,2,none⟩) (by show w.heap.size+2≠w.heap.size+3;omega) (.slice z o v));have FR:=h! (R4.out.other (a:=⟨w.heap.size+3,2,none⟩) (by show w.heap.size+1≠w.heap.size+3;omega) (.slice z o v));have FN:=h! (N4.out.set (x:=w.heap.size+3) (i:=2) (by omega) (.slice z o v));have FB:=h! (show Below B wb (w4.setCell ⟨w.heap.size+3,2,none⟩ (.slice z o v))from B4.out.setCell (by have:=HB.out.1;have:=A.out.1;show B<=w.heap.size+3;omega) _);have FZ:Hid (w.heap.size+4<=(w4.setCell ⟨w.heap.size+3,2,none⟩ (.slice z o v)).heap.size):=h! (by simpa using Z4.out);clear F4 W4 P4 O4 R4 S4 N4 B4 Z4;have a3:=FR.out.cells;go_wp2_with fail
  clear a3 X Z;obtain⟨wl,L⟩:=e! (w4.setCell ⟨w.heap.size+3,2,none⟩ (.slice z o v));rw[<-L]at FM FW FP FO FR FN FB FZ ⊢;clear L;obtain⟨so,sn,sc,hs⟩:∃(so:Option Addr) (sn sc:Nat),Value.slice so sn sc= .slice none 0 0:=⟨_,_,_,rfl⟩;obtain⟨sb,hsb⟩:∃sb:List P3,sb=[]:=⟨_,rfl⟩;have FM:=h! (show FmAt wl (w.heap.size+4) (w.heap.size+3) k sb ro [] (.slice so sn sc) (.slice z o v) (.slice none 0 0)from by rw[hs,hsb];exact FM.out);have HH:=h! (show headF T ⟨pt,pi,pr⟩ k ra rb ps=(sb,ro,rp)from by rw[hsb];exact HH.out);clear hs hsb
 case' inr.inr.inr =>
  have q1:(k == 1)=false:=by rw[n7!];exact HK.out.1
  have q2:(k == 2)=false:=by rw[n7!];exact HK.out.2.1
  have q3:(k == 3)=false:=by rw[n7!];exact HK.out.2.2
  have a3:=ER.out.cells;go_enter func152,ntmps152
  go_wp2_with fail
  clear a3;obtain⟨we,F⟩:=e! ((((w.alloc (.cells #[.string pt,.string pi,.string pr] 32)).alloc (.cells #[.int .i64 k,.string ra,.string rb,.slice ao parts.length c] 106)).alloc (.cells #[.int .i64 0,.slice none 0 0,.slice none 0 0,.slice none 0 0] 128)).alloc (.cells #[.int .i64 k,.slice none 0 0,.slice none 0 0,.slice none 0 0] 128));rw[<-F]at EX EP ER EO EF EW EB EZ ⊢;clear F;have HH:=h! (show headF T ⟨pt,pi,pr⟩ k ra rb ps=([],[],ps)from by unfold headF;rw[if_neg HK.out.1,if_neg HK.out.2.1,if_neg HK.out.2.2]);have FM:=EF;have FW:=EW;have FP:=EP;have FO:=EO;have FR:=ER;have FB:=EB;have FZ:=h! (v4! EZ.out.symm);have FN:=h! (Fine.of wp am pv EX.out);have a7:Hid (∀g,pv.ownBlock=some g->pv.ownBlock=some g\/w.heap.size+4<=g):=h! (fun g hg => .inl hg);clear EF EW EP EO ER EB EX EZ;obtain⟨wl,L⟩:=e! we;rw[<-L]at FM FW FP FO FR FN FB FZ ⊢;clear L;obtain⟨z,o,v,hr⟩:∃(a:Option Addr) (b c:Nat),Value.slice a b c= .slice none 0 0:=⟨_,_,_,rfl⟩;obtain⟨ro,rp,H,a1,aA,al⟩:∃(ro:List Int) (rp:List P3) (H:Value),ro=[]/\rp=ps/\H=pv:=⟨_,_,_,rfl,rfl,rfl⟩;have FM:=h! (show FmAt wl (w.heap.size+4) (w.heap.size+3) k [] ro [] (.slice none 0 0) (.slice z o v) (.slice none 0 0)from by rw[hr,a1];exact FM.out);have HH:=h! (show headF T ⟨pt,pi,pr⟩ k ra rb ps=([],ro,rp)from by rw[a1,aA];exact HH.out);have FW:=h! (show WkAt wl wp am B tv (bkV b) sm rp H fv from by rw[aA,al];exact FW.out);have FN:=h! (show Fine wp am w wl pv H from by rw[al];exact FN.out);have a7:=h! (show ∀g,H.ownBlock=some g->pv.ownBlock=some g\/w.heap.size+4<=g from by rw[al];exact a7.out);clear hr a1 aA al;obtain⟨so,sn,sc,hs⟩:∃(so:Option Addr) (sn sc:Nat),Value.slice so sn sc= .slice none 0 0:=⟨_,_,_,rfl⟩;obtain⟨sb,hsb⟩:∃sb:List P3,sb=[]:=⟨_,rfl⟩;have FM:=h! (show FmAt wl (w.heap.size+4) (w.heap.size+3) k sb ro [] (.slice so sn sc) (.slice z o v) (.slice none 0 0)from by rw[hs,hsb];exact FM.out);have HH:=h! (show headF T ⟨pt,pi,pr⟩ k ra rb ps=(sb,ro,rp)from by rw[hsb];exact HH.out);clear hs hsb
 all_goals
  have b9:=h! (fun i=>hj! T ⟨pt,pi,pr⟩ parts rp i)
  have b3:=h! (show ∀i (hi:i<parts.length),(ap! T ⟨pt,pi,pr⟩ (parts.take i) rp).2.length+parts[i].sz*(T.length+1)<=1073741824 from fun i hi=>by
   have:=ab.out i hi;rw[HH.out]at this;exact this)
  go_loopw [53] (fun iv wr=>∃(i:Nat) (q:List (FT × FV3)) (qv pv':Value),i<=parts.length/\iv= .int .i64 i/\q.map (·.1)=(ap! T ⟨pt,pi,pr⟩ (parts.take i) rp).1/\FmAt wr (w.heap.size+4) (w.heap.size+3) k sb ro q (.slice so sn sc) (.slice z o v) qv/\WkAt wr wp am B tv (bkV b) sm (ap! T ⟨pt,pi,pr⟩ (parts.take i) rp).2 pv' fv/\Blk wr w.heap.size #[.string pt,.string pi,.string pr] 32/\Blk wr (w.heap.size+2) #[.int .i64 0,.slice none 0 0,.slice none 0 0,.slice none 0 0] 128/\Fine wp am w wr pv pv'/\Below B wb wr/\(∀g,pv'.ownBlock=some g->pv.ownBlock=some g\/w.heap.size+4<=g)/\w.heap.size+4<=wr.heap.size) (fun iv _=>parts.length-(intOf iv).toNat)
  case atStart=>exact⟨0,[],.slice none 0 0,H,v1! _,rfl,rfl,FM.out,FW.out,FP.out,FO.out,FN.out,FB.out,a7.out,FZ.out⟩
  case round =>
   obtain⟨i,q,qv,pv',hi,rfl,hq,aC,a0,aM,aI,aE,ah,aD,aH⟩:=hrel;have aL:=h! aD;have a9:=h! aC;have RW:=h! a0;have RP:=h! aM;have RO:=h! aI;have RN:=h! aE;have RB:=h! ah;have RQ:=h! hq;have aT:Hid (w.heap.size+4<=wr.heap.size):=h! aH;clear FM FW FP FO FN FB a7 FZ FR aH aC a0 aM aI aE ah hq aD;by_cases hlt:i<parts.length
   ·obtain⟨bb,c',b6,-,-,ad⟩:=(b7.out.same (w':=wr) fun x hx=>(RN.out.kept.block x ⟨n1! hx (by have:=HB.out.1;have:=A.out.1;omega),by have:=HB.out.1;omega,by have:=HB.out.2;omega,fun e=>by have:=(M.out x e).1;omega⟩)).rows;cases b6;obtain⟨bq,oq,pq,rfl,aU,d0,d1,d2,d3,V⟩:=ad i hlt;dsimp only[RT.ps]at d0 d1 d2 d3 V;have U:=h! hlt;have ar:=h! (b9.out i hlt);have aK:=h! (b3.out i hlt);have aV:=h! (aY.out parts[i] (n5! hlt));have b4:=h! (J.out.2.2.2 parts[i] (n5! hlt))
    have aO:=h! (show q.length=i from by
     have:=congrArg List.length RQ.out;rw[x1!]at this;rw[this];rw[dA!,x4!];omega)
    have aB:=h! (show parts.length<=1073741824 from by
     have h1:=dG! parts;have h2:=(RT.mk k ra rb parts).sz_eq;have h3:=aw.out;rw[h2,Nat.add_mul]at h3;have h4:szL parts*1<=szL parts*(T.length+1):=Nat.mul_le_mul_left _ (by omega);simp only[RT.ps]at h3;omega)
    generalize parts[i]=x at *;obtain⟨xo,xc,rfl,-⟩:=V.rows;generalize hfd:ap! T ⟨pt,pi,pr⟩ (parts.take i) rp=fd at *;obtain⟨ff,fp⟩:=fd;dsimp only at RQ RW ar aK;clear hlt hi hfd aU;go_wp2_with fail
    obtain⟨wo,aW⟩:=e! wr;subst aW;have aN:=Ext.alloc wo (.cells #[.int .i64 x.k,.string x.a,.string x.b,.slice xo x.ps.length xc] 106);obtain⟨wd,Q⟩:=e! ((wo.alloc (.cells #[.int .i64 x.k,.string x.a,.string x.b,.slice xo x.ps.length xc] 106)).drew);have DX:=h! (show Ext wo wd from by rw[Q];exact aN.trans (Ext.drew _));have DT:=h! (show Blk wd wo.heap.size #[.int .i64 x.k,.string x.a,.string x.b,.slice xo x.ps.length xc] 106 from by rw[Q];exact(Blk.made _ _ _).drew);have DZ:Hid (wo.heap.size<wd.heap.size):=h! DT.out.lt;have DP:=h! (RP.out.below DX.out);have ak:=h! (a9.out.ext DX.out);have DW:=h! (RW.out.ext DX.out);have DO:=h! (RO.out.below DX.out);have DN:=h! (RN.out.trans (Fine.of _ _ _ DX.out));have DB:=h! (show Below B wb wd from RB.out.trans (DX.out.mono (by have:=HB.out.1;have:=A.out.1;have:=RN.out.size;omega)));have DA:=h! (V.same fun y hy=>DX.out.block y (by have:=HB.out.1;have:=A.out.1;have:=RN.out.size;omega));have DQ:=h! (fun g hg=>(a9.out.parts.row.block g hg).2);have DS:=h! RN.out.size;have aa:Hid (w.heap.size+4<=wo.heap.size):=h! aT.out;refine ah! 9 (fun W=>Blk W w.heap.size #[.string pt,.string pi,.string pr] 32/\Blk W (w.heap.size+3) #[.int .i64 k,(.slice so sn sc),(.slice z o v),qv] 128/\Blk W wo.heap.size #[.int .i64 x.k,.string x.a,.string x.b,.slice xo x.ps.length xc] 106) (by rw[<-Q];exact⟨DP.out,ak.out.box,DT.out⟩) (by kernel_rfl) (by kernel_rfl) (fun _ _ d _ _ h=>by cases d <;> exact h) ?_;rw[<-Q];clear Q aN a9 RW RP RO RN RB V d0 d1 d2 d3;obtain⟨qo,qn,qc,rfl,bc,-,-⟩:=ak.out.parts.row.sl.len;have h1:=fun W (h:Blk W w.heap.size #[.string pt,.string pi,.string pr] 32/\Blk W (w.heap.size+3) #[.int .i64 k,(.slice so sn sc),(.slice z o v),.slice qo qn qc] 128/\Blk W wo.heap.size #[.int .i64 x.k,.string x.a,.string x.b,.slice xo x.ps.length xc] 106)=>h.1.cells;have h2:=fun W (h:Blk W w.heap.size #[.string pt,.string pi,.string pr] 32/\Blk W (w.heap.size+3) #[.int .i64 k,(.slice so sn sc),(.slice z o v),.slice qo qn qc] 128/\Blk W wo.heap.size #[.int .i64 x.k,.string x.a,.string x.b,.slice xo x.ps.length xc] 106)=>h.2.1.cells;have h3:=fun W (h:Blk W w.heap.size #[.string pt,.string pi,.string pr] 32/\Blk W (w.heap.size+3) #[.int .i64 k,(.slice so sn sc),(.slice z o v),.slice qo qn qc] 128/\Blk W wo.heap.size #[.int .i64 x.k,.string x.a,.string x.b,.slice xo x.ps.length xc] 106)=>h.2.2.cells;(refine WalkL.tk [0,1,2,3,4] ?_;(iterate 5 (refine l! ?_));refine TkL.n ?_)
    refine oL! 5 ?_;refine b! ?_;intro K hK;go_simp;refine(aV.out pv' (.slice xo x.ps.length xc) fp wd b4.out DA.out DB.out DW.out aK.out).mono ?_;rintro e w2 ⟨v3,az,rfl,af,ai,D⟩
    have TP:=h! (show Blk w2 w.heap.size _ _ from(D.kept.block _ ⟨DP.out.lt,by have:=A.out.1;omega,by have:=A.out.2;omega,fun e=>by
     rcases aL.out _ e with e2 | e2
     ·exact absurd (M.out _ e2).2 (Nat.lt_irrefl _)
     ·omega⟩).trans DP.out)
    have O:=h! (ak.out.fine DW.out D HB.out ⟨by have:=A.out.1;omega,by have:=A.out.2;omega⟩);have TT:=h! (D.blk DW.out DT.out (by decide) (by decide));have TO:=h! (D.blk DW.out DO.out (by decide) (by decide));have TN:=h! (DN.out.trans D);have TB:Hid (Below B wb w2):=h! (DB.out.trans (D.pk DW.out HB.out).below);have TA:=h! af;have TW:=h! ai;have TZ:=h! D.size
    have ba:=h! (show ∀g,az.ownBlock=some g->pv.ownBlock=some g\/w.heap.size+4<=g from fun g hg=>by
     rcases D.wher g hg with e | e
     ·exact aL.out g e
     ·exact .inr (by have:=DZ.out;have:=DS.out;have:=aa.out;omega))
    refine hK.out _ _ ⟨TP.out,O.out.box,TT.out⟩ ?_;clear hK af ai D DP ak DT DO DN DB DA DW;generalize hfx:formD T ⟨pt,pi,pr⟩ x fp=fx at *;obtain⟨fx,bd⟩:=fx;obtain⟨v1,v2,v4⟩:=v3;unfold fV at *;dsimp only at TA TW ar ⊢;obtain⟨s1,s2,-⟩:=(FTAt.iff _ _).1 TA.out;obtain⟨x1,y1,z1,rfl,-,-,-⟩:=s1.len;obtain⟨x2,y2,z2,rfl,-,-,-⟩:=s2.len;obtain⟨x4,z4,rfl,-⟩:=TA.out.rows;clear s1 s2;have I:=Ext.alloc w2 (.cells #[.int .i64 fx.k,.slice x1 y1 z1,.slice x2 y2 z2,.slice x4 fx.ps.length z4] 128);refine oL! 6 ?_;refine b! ?_;intro K hK;go_simp;refine hK.out _ _ ⟨TP.out.below I,O.out.box.below I,TT.out.below I⟩ ?_;clear hK;refine oL! 7 ?_;refine b! ?_;intro K hK;refine aP! nu! (.tmp 58) (.tmp 63) rfl rfl (O.out.parts.row.below I) (m:=1) (news:=fC (fx,(.slice x1 y1 z1,.slice x2 y2 z2,.slice x4 fx.ps.length z4))) rfl rfl (fun j u hu=>?_) (by simp[fC,Value.oneCell']) (by have:=aO.out;have:=aB.out;have:=U.out;rw[as!,cf!];omega) (by have:=aO.out;have:=aB.out;have:=U.out;rw[as!,cf!];omega) (by have:=DZ.out;have:=TZ.out;have:=aa.out;simp;omega) (fun v5 w5 hown5 hb5 hg5=>?_)
    ·rw[Addr.add_lit,cell_of_row _ w2.heap.size (0+j) #[.int .i64 fx.k,.slice x1 y1 z1,.slice x2 y2 z2,.slice x4 fx.ps.length z4] 128 (0,0) (heap_alloc_new w2 _),Nat.zero_add];simpa [fC] using hu
    have aP:=O.out.parts.row.below I
    have VB:∀ {y:Nat} {cs:Array Value} {t:TypeId},Blk w2 y cs t->y<w.heap.size+4\/t≠128->Blk w5 y cs t:=fun {y cs t} hb hyt=>(hg5.block y (hb.below I).lt fun e=>by
     have e':=e.symm;rcases hyt with hy | ht
     ·have:=(O.out.parts.row.block y e').1;omega
     ·obtain⟨cc,hc⟩:=O.out.parts.row.typed e';rw[show w2.heap[y]?=_ from hb]at hc;injection hc with hc
      injection hc with _ hc _
      exact ht hc).trans (hb.below I)
    have UP:=h! (VB TP.out (.inl (by omega)));have UF:=h! (VB O.out.box (.inl (by omega)));have UT:=h! (VB TT.out (.inr (by decide)));have UO:=h! (VB TO.out (.inl (by omega)));have UW:=h! ((TW.out.ext I).grown aP (by decide) (by decide) hg5);have UZ:Hid (w2.heap.size<=w5.heap.size):=h! (n6! I.size hg5.size);have UK:=h! (show Below (w.heap.size+4) w2 w5 from(I.mono (by have:=DZ.out;have:=TZ.out;have:=DS.out;have:=aa.out;omega)).trans ⟨hg5.os,hg5.tape,hg5.output,hg5.size,fun y hy=>hg5.block y (by have:=DZ.out;have:=TZ.out;have:=DS.out;have:=aa.out;simp;omega) fun e=>by have:=(O.out.parts.row.block y e.symm).1;omega⟩);have aX:=h! (O.out.add I hg5 hown5 hb5 TA.out (by have:=DZ.out;have:=DS.out;have:=aa.out;omega) (fun g hg=>Nat.lt_trans (DQ.out g hg) DZ.out) (by omega));have b0:=hown5.sl.len;obtain⟨o5,n5,c5,rfl,-,-,-⟩:=b0;refine hK.out _ _ ⟨UP.out,UF.out,UT.out⟩ ?_;clear hK I aP VB hown5 hb5 hg5;simp only[Act.put,pA,pZ,pS];((refine WalkL.take 8 _ ?_ (by simp only[gA,gS,gZ];rfl) (by kernel_rfl) (by kernel_rfl) (by kernel_rfl) (by rfl) (fun W hW=>?_) ?_;rotate_left;· (go_simp;try with_reducible rfl));simp only[Act.put,pA,pZ,pS])
    clear h1 h2 h3;have X:=UF.out.cells;have Z:=UF.out.free;refine WalkL.last (by kernel_rfl) (by kernel_rfl) ?_;refine b! ?_;intro K hK;go_simp;refine hK.out _ _ ?_;clear hK X Z;have WN:=h! (show Fine wp am w (w5.setCell ⟨w.heap.size+3,3,none⟩ (.slice o5 n5 c5)) pv az from⟨(TN.out.kept.trans (Below.kept UK.out fun y (hy:KX wp am w pv y)=>by have:=hy.1;show y<w.heap.size+4;omega)).set (fun h=>by have h1:w.heap.size+3<w.heap.size:=h.1;omega) _,TN.out.wher⟩);have WW:=h! (UW.out.setBox (i:=3) UF.out (by decide) (by decide) (.slice o5 n5 c5));have WP:=h! (UP.out.other (a:=⟨w.heap.size+3,3,none⟩) (by show w.heap.size≠w.heap.size+3;omega) (.slice o5 n5 c5));have WO:=h! (UO.out.other (a:=⟨w.heap.size+3,3,none⟩) (by show w.heap.size+2≠w.heap.size+3;omega) (.slice o5 n5 c5));have WB:=h! (show Below B wb (w5.setCell ⟨w.heap.size+3,3,none⟩ (.slice o5 n5 c5))from(TB.out.trans (UK.out.mono (by have:=HB.out.1;have:=A.out.1;omega))).setCell (by have:=HB.out.1;have:=A.out.1;show B<=w.heap.size+3;omega) _);clear TP O TT TO TN TB TW UP UF UT UO UW UK DX;go_wp2_with fail
    go_roundw
    case rel=>exact⟨i+1,_,_,az,U.out,by go_num,by rw[ar.out,v9!,RQ.out];rfl,aX.out,by rw[ar.out];exact WW.out,WP.out,WO.out,WN.out,WB.out,ba.out,by have:=DZ.out;have:=TZ.out;have:=UZ.out;have:=aa.out;simp;omega⟩
    case measure=>have:=U.out;simp[intOf];omega
   ·obtain rfl:i=parts.length:=by omega
    have b5:Hid (parts.take parts.length=parts):=h! (u2!);rw[b5.out]at RQ RW;obtain⟨qo,qn,qc,rfl,-,-,-⟩:=a9.out.parts.row.sl.len;have aS:=a9.out.box.cells;have aZ:=RO.out.cells;have aQ:=RO.out.free;go_wp2_with fail
    clear aS aZ aQ;have ZS:∀y,y≠w.heap.size+2->((((wr.setCell ⟨w.heap.size+2,0,none⟩ (.int .i64 k)).setCell ⟨w.heap.size+2,1,none⟩ (.slice so sn sc)).setCell ⟨w.heap.size+2,2,none⟩ (.slice z o v)).setCell ⟨w.heap.size+2,3,none⟩ (.slice qo qn qc)).heap[y]?=wr.heap[y]?:=fun y hy=>by rw[Below.heap_setCell _ _ _ y hy,Below.heap_setCell _ _ _ y hy,Below.heap_setCell _ _ _ y hy,Below.heap_setCell _ _ _ y hy]
    have ZW:=RW.out.un RO.out (by decide) (by decide);refine bodyPost_ret (results_cell_row rfl _ _ (w.heap.size+2) 128 #[.int .i64 k,(.slice so sn sc),(.slice z o v),.slice qo qn qc] (0,0) _ rfl (RO.out.put4 _ _ _ _) Tryz.underlying128 rfl (by kernel_rfl)) rfl ?_;refine⟨((.slice so sn sc),(.slice z o v),.slice qo qn qc),pv',by rw[aq.out];rfl,?_,?_,(((RN.out.set (by omega) _).set (by omega) _).set (by omega) _).set (by omega) _⟩
    ·refine(a9.out.done (by rw[aq.out,HH.out,RQ.out]) (fun y hy _=>ZS y (by omega)) (by simp)).mono fun y hy=>hy.mono (by omega)
    ·rw[aq.out,HH.out];exact RW.out.same (ZS _ fun e=>ZW.2.1 e.symm) (ZS _ fun e=>ZW.2.2.1 e.symm) fun g hg=>ZS _ fun e=>ZW.2.2.2 (by rw[hg,e])
end Go.Proofs.YtlhaghoajpglaaaGreat
