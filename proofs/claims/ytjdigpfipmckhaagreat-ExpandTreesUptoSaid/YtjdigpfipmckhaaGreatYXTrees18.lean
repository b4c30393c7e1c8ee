/- Lemmas for the claim, no condition. -/
import Derived.Test.YtjdigpfipmckhaaGreatYXTrees10
import Derived.Test.YtjdigpfipmckhaaGreatYXTrees3
import Derived.Test.YtjdigpfipmckhaaGreatYXTrees4
import Derived.Test.YtjdigpfipmckhaaGreatYXTrees1
namespace Go.Proofs.YtjdigpfipmckhaaGreat
open Go Go.RowKit Go.ChangeShapes Go.WideShapes Go.ChangeAt
def pC4 (p:P3):List Value:=[.string p.t,.string p.i,.string p.r]
def tC4 (t:Tup):List Value:=[.string t.o.t,.string t.o.i,.string t.o.r,.string t.s.t,.string t.s.i,.string t.s.r]
section
variable {H : Type} {enc : TypeId × Value -> H} {W : World} {base : Nat} {v : Value} {d : DataW H} {ps : List MemPlace}
set_option maxRecDepth 100000 in
theorem open_obj_cells {fuel:Nat} {cs:List Value} {y:DataW H × List MemPlace} (hy:DataW.trod enc Tryz.prog W 0 (fun _=>true) true fuel 28 cs=some y):∃ a b:ByteArray,cs=[.string a,.string b]/\a.size<=maxLen/\b.size<=maxLen:=by
 obtain⟨xs,n,_,_,hl,hlen,hf⟩:=DataW.trod_struct Tryz.underlying28 hy;rw[show Tryz.prog.cellsOf 28=2 from by kernel_rfl]at hl
 obtain⟨c0,c1,rfl⟩:∃ c0 c1,cs=[c0,c1]:=by
  match cs,hl with
  | [c0,c1],_=>exact⟨c0,c1,rfl⟩
 have h0:=hf 0 _ rfl;have h1:=hf 1 _ rfl
 obtain⟨y0,y1,rfl⟩:∃ y0 y1,xs=[y0,y1]:=by
  match xs,hlen with
  | [y0,y1],_=>exact⟨y0,y1,rfl⟩
 obtain⟨a,e0,_,wa⟩:=DataW.trod_string Tryz.underlying9 h0;obtain⟨b,e1,_,wb⟩:=DataW.trod_string Tryz.underlying9 h1;have k1:Tryz.prog.cellsOf 9=1:=by kernel_rfl
 simp[k1]at e0 e1;subst e0 e1;exact⟨a,b,rfl,wa,wb⟩
set_option maxRecDepth 100000 in
theorem open_sub_cells {fuel:Nat} {cs:List Value} {y:DataW H × List MemPlace} (hy:DataW.trod enc Tryz.prog W 0 (fun _=>true) true fuel 63 cs=some y):∃ p:P3,cs=pC4 p/\p.Ok:=by
 obtain⟨xs,n,_,_,hl,hlen,hf⟩:=DataW.trod_struct Tryz.underlying63 hy;rw[show Tryz.prog.cellsOf 63=3 from by kernel_rfl]at hl
 obtain⟨c0,c1,c2,rfl⟩:∃ c0 c1 c2,cs=[c0,c1,c2]:=by
  match cs,hl with
  | [c0,c1,c2],_=>exact⟨c0,c1,c2,rfl⟩
 have h0:=hf 0 _ rfl;have h1:=hf 1 _ rfl
 obtain⟨y0,y1,rfl⟩:∃ y0 y1,xs=[y0,y1]:=by
  match xs,hlen with
  | [y0,y1],_=>exact⟨y0,y1,rfl⟩
 have k0:Tryz.prog.cellsOf 28=2:=by kernel_rfl
 have k1:Tryz.prog.cellsOf 9=1:=by kernel_rfl
 obtain⟨a,b,e0,wa,wb⟩:=open_obj_cells h0;obtain⟨c,e1,_,wc⟩:=DataW.trod_string Tryz.underlying9 h1;simp[k0]at e0;simp[k1]at e1;obtain⟨rfl,rfl⟩:=e0;subst e1;exact⟨⟨a,b,c⟩,rfl,wa,wb,wc⟩
set_option maxRecDepth 100000 in
theorem open_tup_cells {fuel:Nat} {cs:List Value} {y:DataW H × List MemPlace} (hy:DataW.trod enc Tryz.prog W 0 (fun _=>true) true fuel 104 cs=some y):∃ t:Tup,cs=tC4 t/\t.Ok:=by
 obtain⟨xs,n,_,_,hl,hlen,hf⟩:=DataW.trod_struct Tryz.underlying104 hy;rw[show Tryz.prog.cellsOf 104=6 from by kernel_rfl]at hl
 obtain⟨c0,c1,c2,c3,c4,c5,rfl⟩:∃ c0 c1 c2 c3 c4 c5,cs=[c0,c1,c2,c3,c4,c5]:=by
  match cs,hl with
  | [c0,c1,c2,c3,c4,c5],_=>exact⟨c0,c1,c2,c3,c4,c5,rfl⟩
 have h0:=hf 0 _ rfl;have h1:=hf 1 _ rfl;have h2:=hf 2 _ rfl
 obtain⟨y0,y1,y2,rfl⟩:∃ y0 y1 y2,xs=[y0,y1,y2]:=by
  match xs,hlen with
  | [y0,y1,y2],_=>exact⟨y0,y1,y2,rfl⟩
 have k0:Tryz.prog.cellsOf 28=2:=by kernel_rfl
 have k1:Tryz.prog.cellsOf 9=1:=by kernel_rfl
 have k2:Tryz.prog.cellsOf 63=3:=by kernel_rfl
 obtain⟨a,b,e0,wa,wb⟩:=open_obj_cells h0;obtain⟨c,e1,_,wc⟩:=DataW.trod_string Tryz.underlying9 h1;obtain⟨p,e2,wp⟩:=open_sub_cells h2;simp[k0]at e0;simp[k1]at e1;simp[k2,pC4]at e2;obtain⟨rfl,rfl⟩:=e0;obtain⟨rfl,rfl,rfl⟩:=e2;subst e1;exact⟨⟨⟨a,b,c⟩,p⟩,rfl,⟨wa,wb,wc⟩,wp⟩
end
theorem open_rowsT {H:Type} {enc:TypeId × Value->H} {P:Program} {w:World} {α:Type} (ec:α->List Value)(Q:α->Prop) {t e:TypeId} {v:Value} {d:DataW H} {ps:List MemPlace} {sz:Nat}
  (ht:P.underlying t=some (.slice e)) (hsz:P.cellsOf e=sz) (hv:∃ a len cap,v = .slice a len cap) (h:DataW.Trod enc P w 0 (fun _=>true) true t v d ps)
  (hel:∀ fuel cs y,DataW.trod enc P w 0 (fun _=>true) true fuel e cs=some y->∃ a,cs=ec a/\Q a):∃ l:List α,Sl (· < w.heap.size) w sz v (l.flatMap ec)/\∀ a∈l,Q a:=by
 obtain⟨xs,elems,fuel,hs,hl,he,_⟩:=open_sl ht hv h;rw[hsz]at hs hl he
 have main:∀ n,n<=elems.length->∃ l:List α,xs.take (n*sz)=l.flatMap ec/\∀ a∈l,Q a:=by
  intro n;induction n with
  | zero=>intro _;exact⟨[],by simp,by simp⟩
  | succ n ih =>
   intro hn;obtain⟨l,hl1,hl2⟩:=ih (by omega);obtain⟨a,ha,hq⟩:=hel _ _ _ (he n elems[n] (List.getElem?_eq_getElem (by omega)));refine⟨l++[a],?_,fun b hb=>?_⟩
   ·rw[Nat.add_mul,Nat.one_mul,List.take_add,hl1,ha,List.flatMap_append];simp
   ·rcases List.mem_append.1 hb with hb | hb
    ·exact hl2 b hb
    ·obtain rfl:b=a:=by simpa using hb
     exact hq
 obtain⟨l,hl1,hl2⟩:=main elems.length (Nat.le_refl _);rw[<- hl,List.take_length]at hl1;exact⟨l,hl1▸hs,hl2⟩
theorem tuCs_flat (l:List Tup):l.flatMap tC4=tuCs l:=by
 induction l with
 | nil=>rfl
 | cons a l ih=>rw[List.flatMap_cons,ih];rfl
set_option maxRecDepth 100000 in
theorem open_tupsV {H:Type} {enc:TypeId × Value->H} {W:World} {base:Nat} {v:Value} {d:DataW H} {ps:List MemPlace} (hok:Value.okWide Tryz.prog W .any base 25 v)(h:DataW.Trod enc Tryz.prog W 0 (fun _=>true) true 25 v d ps):∃ l:List Tup,Sl (· < W.heap.size) W 6 v (tuCs l)/\∀ t∈l,t.Ok:=by
 obtain⟨l,h1,h2⟩:=open_rowsT tC4 Tup.Ok Tryz.underlying25 (by kernel_rfl) (okWide_slice Tryz.underlying25 hok) h (fun fuel cs y hy=>open_tup_cells hy);exact⟨l,tuCs_flat l▸h1,h2⟩
section
variable {H : Type} {enc : TypeId × Value -> H} {W : World} {base : Nat} {v : Value} {d : DataW H} {ps : List MemPlace}
set_option maxRecDepth 100000 in
theorem open_ref_cells {fuel:Nat} {cs:List Value} {y:DataW H × List MemPlace} (hy:DataW.trod enc Tryz.prog W 0 (fun _=>true) true fuel 102 cs=some y):∃ a b:ByteArray,cs=[.string a,.string b]/\a.size<=maxLen/\b.size<=maxLen:=by
 obtain⟨xs,n,_,_,hl,hlen,hf⟩:=DataW.trod_struct Tryz.underlying102 hy;rw[show Tryz.prog.cellsOf 102=2 from by kernel_rfl]at hl
 obtain⟨c0,c1,rfl⟩:∃ c0 c1,cs=[c0,c1]:=by
  match cs,hl with
  | [c0,c1],_=>exact⟨c0,c1,rfl⟩
 have h0:=hf 0 _ rfl;have h1:=hf 1 _ rfl
 obtain⟨y0,y1,rfl⟩:∃ y0 y1,xs=[y0,y1]:=by
  match xs,hlen with
  | [y0,y1],_=>exact⟨y0,y1,rfl⟩
 obtain⟨a,e0,_,wa⟩:=DataW.trod_string Tryz.underlying9 h0;obtain⟨b,e1,_,wb⟩:=DataW.trod_string Tryz.underlying9 h1;have k1:Tryz.prog.cellsOf 9=1:=by kernel_rfl
 simp[k1]at e0 e1;subst e0 e1;exact⟨a,b,rfl,wa,wb⟩
end
section
variable {H : Type} {enc : TypeId × Value -> H} {W : World} {base : Nat} {v : Value} {d : DataW H} {ps : List MemPlace}
set_option maxRecDepth 100000 in
theorem open_point_cells {fuel:Nat} {cs:List Value} {y:DataW H × List MemPlace} (hy:DataW.trod enc Tryz.prog W 0 (fun _=>true) true fuel 30 cs=some y):∃ p:P3,cs=pC4 p/\p.Ok:=by
 obtain⟨xs,n,_,_,hl,hlen,hf⟩:=DataW.trod_struct Tryz.underlying30 hy;rw[show Tryz.prog.cellsOf 30=3 from by kernel_rfl]at hl
 obtain⟨c0,c1,c2,rfl⟩:∃ c0 c1 c2,cs=[c0,c1,c2]:=by
  match cs,hl with
  | [c0,c1,c2],_=>exact⟨c0,c1,c2,rfl⟩
 have h0:=hf 0 _ rfl;have h1:=hf 1 _ rfl
 obtain⟨y0,y1,rfl⟩:∃ y0 y1,xs=[y0,y1]:=by
  match xs,hlen with
  | [y0,y1],_=>exact⟨y0,y1,rfl⟩
 have k0:Tryz.prog.cellsOf 28=2:=by kernel_rfl
 have k1:Tryz.prog.cellsOf 9=1:=by kernel_rfl
 obtain⟨a,b,e0,wa,wb⟩:=open_obj_cells h0;obtain⟨c,e1,_,wc⟩:=DataW.trod_string Tryz.underlying9 h1;simp[k0]at e0;simp[k1]at e1;obtain⟨rfl,rfl⟩:=e0;subst e1;exact⟨⟨a,b,c⟩,rfl,wa,wb,wc⟩
set_option maxRecDepth 100000 in
theorem open_pointV (hok:Value.okWide Tryz.prog W .any base 30 v)(h:DataW.Trod enc Tryz.prog W 0 (fun _=>true) true 30 v d ps):∃ p:P3,v=pV p/\p.Ok:=by
 obtain⟨ca,rfl,_⟩:=okWide_struct Tryz.underlying30 hok;obtain⟨fuel,hy⟩:=h;obtain⟨t,hc,ht⟩:=open_point_cells hy;exact⟨t,congrArg Value.agg (Array.toList_inj.1 hc),ht⟩
set_option maxRecDepth 100000 in
theorem open_refsV (hok:Value.okWide Tryz.prog W .any base 26 v)(h:DataW.Trod enc Tryz.prog W 0 (fun _=>true) true 26 v d ps):∃ l:List R2,Sl (· < W.heap.size) W 2 v (l.flatMap r2C)/\∀ r∈l,r.Ok :=
 open_rowsT r2C R2.Ok Tryz.underlying26 (by kernel_rfl) (okWide_slice Tryz.underlying26 hok) h (fun fuel cs y hy=>by
  obtain⟨a,b,rfl,ha,hb⟩:=open_ref_cells hy;exact⟨⟨a,b⟩,rfl,ha,hb⟩)
set_option maxRecDepth 100000 in
theorem open_intV (hok:Value.okWide Tryz.prog W .any base 3 v)(h:DataW.Trod enc Tryz.prog W 0 (fun _=>true) true 3 v d ps):∃ n:Int,v = .int .i64 n:=by
 obtain⟨x,rfl,_⟩:=open_int Tryz.underlying3 hok h;exact⟨x,rfl⟩
end
end Go.Proofs.YtjdigpfipmckhaaGreat
