/- Lemmas for the claim, no condition. -/
import Derived.ProofKit
import Derived.OpenShut
import Derived.Test.YtlhaghoajpglaaaGreatRows
import Derived.SizedLaws
import GoSem.PinnedTables
import Derived.Deep.DeepHandedRow
import Derived.Lib.SmallJoins
import Derived.Test.YtlhaghoajpglaaaGreatYBuGrid5
import Derived.Test.YtlhaghoajpglaaaGreatYBuGrid0
import Derived.Test.YtlhaghoajpglaaaGreatYBuGrid2
import Derived.Test.YtlhaghoajpglaaaGreatYBuGrid1
import Derived.Test.YtlhaghoajpglaaaGreatYBuGrid4
set_option maxRecDepth 100000
set_option maxHeartbeats 4000000
namespace Go.Proofs.YtlhaghoajpglaaaGreat
open Go Go.RowKit Go.Maps Go.Shelf
theorem tyIn_take {ts:List TyS} {i:Nat} (hi:i<ts.length)(n:ByteArray):tyIn (ts.take (i+1)) n=(tyIn (ts.take i) n||decide (ts[i].name=n)):=by
 unfold tyIn;rw[List.take_succ_eq_append_getElem hi,List.any_append];simp
theorem writes06_any (ts:List TyS)(tv:Value)(t:Tup)(w:World)(h:TysAt (· < w.heap.size) w ts tv)(hu:uniqOk ts=true)(ht:t.Ok) :
  Calls Tryz.prog 128 #[.agg #[tv],tV t] w fun e w'=>e = .returned (.int .i64 (wrN ts t))/\Below w.heap.size w w':=by
 obtain⟨⟨ot,oi,or_⟩,⟨st,si,sr⟩⟩:=t;obtain⟨ao,c,rfl,hlc,hcm,hcell⟩:=h.rows;have HC:=h! hcell;have hx1:Ext w ((w.alloc (.cells #[.slice ao ts.length c] 26)).alloc (.cells #[.string ot,.string oi,.string or_,.string st,.string si,.string sr] 67)):=(Ext.alloc _ _).trans (Ext.alloc _ _);have HX:=h! hx1;have HCK:=h! (refCheck_any ⟨⟨ot,oi,or_⟩,⟨st,si,sr⟩⟩ ht ((w.alloc (.cells #[.slice ao ts.length c] 26)).alloc (.cells #[.string ot,.string oi,.string or_,.string st,.string si,.string sr] 67)));have HS:=h! ((Blk.made w #[.slice ao ts.length c] 26).alloc (.cells #[.string ot,.string oi,.string or_,.string st,.string si,.string sr] 67));have HT:=h! (Blk.made' (w:=w.alloc (.cells #[.slice ao ts.length c] 26)) (B:=w.heap.size+1) (by simp) #[.string ot,.string oi,.string or_,.string st,.string si,.string sr] 67);have HTS:=h! h;have HU:=h! hu;have hS:=HS.out.cells;have hT:=HT.out.cells;have HW0:=h! (show wrN ts ⟨⟨ot,oi,or_⟩,⟨st,si,sr⟩⟩=if chkT ⟨⟨ot,oi,or_⟩,⟨st,si,sr⟩⟩then wrM ts ⟨⟨ot,oi,or_⟩,⟨st,si,sr⟩⟩else 2 from rfl);unfold tV at HCK;unfold tV;dsimp only at HCK ⊢;clear h hu ht hx1 hcell;go_enter Tryz.func128,Tryz.ntmps128
 go_wp2_with fail
 refine HCK.out.mono ?_;rintro e w2 ⟨rfl,hb2⟩;have HB2:=h! (show Below w.heap.size w w2 from Ext.trans HX.out hb2);have HS2:=h! (HS.out.below hb2);have HT2:=h! (HT.out.below hb2);have s2:=HS2.out.cells;have t2:=HT2.out.cells;clear HCK hS hT hb2;unfold chkN;cases hck:chkT ⟨⟨ot,oi,or_⟩,⟨st,si,sr⟩⟩ with
 | false =>
  have HF:=h! (show wrN ts ⟨⟨ot,oi,or_⟩,⟨st,si,sr⟩⟩=2 from by rw[HW0.out,hck];rfl);rw[show(if false=true then(0:Int)else 2)=2 from rfl];clear hck;go_wp2_with fail
  go_ret
  exact⟨by rw[HF.out];rfl,HB2.out⟩
 | true =>
 have HW:=h! (show wrN ts ⟨⟨ot,oi,or_⟩,⟨st,si,sr⟩⟩=wrM ts ⟨⟨ot,oi,or_⟩,⟨st,si,sr⟩⟩from by rw[HW0.out,hck];rfl);rw[show(if true=true then(0:Int)else 2)=0 from rfl];have HO:=h! (find06_any ts (.slice ao ts.length c) ot or_ w2 (HTS.out.up HB2.out) HU.out);clear hck HW0;go_wp2_with fail
 refine HO.out.mono ?_;rintro e w3 ⟨z,rfl,hzat,hz1,hz0,hb3⟩;have HB3:=h! (show Below w.heap.size w w3 from HB2.out.trans (hb3.mono HB2.out.size));obtain⟨zo,zc,hzv,-⟩:=hzat.rows;have HZ1:=h! hz1;have HZA:=h! hzat;generalize hokk:(lookA (refsOf ts) ⟨ot,or_⟩).isSome=ok at *;have HOKK:=h! hokk;unfold rvV rV;rw[hzv];obtain⟨w4,hw4⟩:∃ x,x=w3.alloc (.cells #[.int .i64 z.1.k,.string z.1.a,.string z.1.b,.slice zo z.1.ps.length zc] 106):=⟨_,rfl⟩;have x34:Ext w3 w4:=by rw[hw4];exact Ext.alloc _ _
 have HS4:=h! (HS2.out.below (hb3.trans (Below.mono x34 hb3.size)));have HT4:=h! (HT2.out.below (hb3.trans (Below.mono x34 hb3.size)));have HR4:=h! (show Blk w4 w3.heap.size #[.int .i64 z.1.k,.string z.1.a,.string z.1.b,.slice zo z.1.ps.length zc] 106 from by rw[hw4];exact Blk.made _ _ _);have HZ4:=h! (hzat.up x34);have HB4:=h! (show Below w.heap.size w w4 from HB3.out.trans (x34.mono HB3.out.size));have s4:=HS4.out.cells;clear HO hb3 hzat hz1 hz0 hokk s2 t2 x34;subst hw4;go_wp2_with fail
 obtain⟨w4,hw4⟩:∃ x,x=w3.alloc (.cells #[.int .i64 z.1.k,.string z.1.a,.string z.1.b,.slice zo z.1.ps.length zc] 106):=⟨_,rfl⟩;rw[<- hw4]at HS4 HT4 HR4 HZ4 HB4 ⊢;clear hw4 s4;generalize w3.heap.size=br at *;go_loopw [8,31] (fun ov ii wr=>∃ (i:Nat) (o:Bool),i<=ts.length/\ii = .int .i64 i/\ov = .bool o/\o=tyIn (ts.take i) st/\Below w4.heap.size w4 wr) (fun _ ii _=>ts.length-(intOf ii).toNat)
 case atStart=>exact⟨0,false,by omega,rfl,rfl,rfl,Below.refl _ _⟩
 case round =>
  obtain⟨i,o,hi,rfl,rfl,ho,hbel⟩:=hrel;have HO:=h! ho;have HBL:=h! hbel;have HBW:=h! (HB4.out.trans (hbel.mono HB4.out.size));clear ho;by_cases hlt:i<ts.length
  ·have HOS:=h! (tyIn_take hlt st);obtain⟨b,off,pv2,hbo,hb,c0,c1,hat2⟩:=HC.out i hlt;cases hbo;have d0:=(HBW.out.cell (p:=⟨b,off+i*2,none⟩) hb).trans c0;have d1:=(HBW.out.cell (p:=⟨b,off+i*2+1,none⟩) hb).trans c1;obtain⟨ao2,c2',rfl,hlc2,hcm2,hcell2⟩:=hat2.rows;have xa:Ext wr (wr.alloc (.cells #[.string ts[i].name,.slice ao2 ts[i].rels.length c2'] 176)):=Ext.alloc _ _;have HXA:=h! (show Below w4.heap.size w4 (wr.alloc (.cells #[.string ts[i].name,.slice ao2 ts[i].rels.length c2'] 176))from hbel.trans (xa.mono hbel.size));have ta:=(HT4.out.below HXA.out).cells;have hbx:=(Blk.made wr #[.string ts[i].name,.slice ao2 ts[i].rels.length c2'] 176).cells;clear c0 c1 hat2 hcell2 hbel xa;generalize ts[i]=x at *;obtain⟨xn,l⟩:=x;dsimp only at *;cases o with
   | true =>
    have HN:=h! (show true=tyIn (ts.take (i+1)) st from by rw[HOS.out,<- HO.out];rfl);go_wp2_with fail
    go_roundw
    case rel=>exact⟨i+1,true,by omega,by go_num,rfl,HN.out,HXA.out⟩
    case measure=>simp[intOf];omega
   | false =>
    by_cases he:xn=st
    ·have HN:=h! (show true=tyIn (ts.take (i+1)) st from by rw[HOS.out,he];simp);subst he;go_wp2_with fail
     go_roundw
     case rel=>exact⟨i+1,true,by omega,by go_num,rfl,HN.out,HXA.out⟩
     case measure=>simp[intOf];omega
    ·have HN:=h! (show false=tyIn (ts.take (i+1)) st from by rw[HOS.out,<- HO.out];simp[he]);have hne:=ba_beq' he;rw[<- ByteArray.toList_eq,<- ByteArray.toList_eq]at hne;clear he;go_wp2_with fail
     go_roundw
     case rel=>exact⟨i+1,false,by omega,by go_num,rfl,HN.out,HXA.out⟩
     case measure=>simp[intOf];omega
  ·obtain rfl:i=ts.length:=by omega
   rw[List.take_length]at HO;have HTR:=h! (HT4.out.below hbel);have HSR:=h! (HS4.out.below hbel);have HRR:=h! (HR4.out.below hbel);have HZR:=h! (HZ4.out.up hbel);have tr:=HTR.out.cells;have sr2:=HSR.out.cells;have rr:=HRR.out.cells;clear hbel HSR;by_cases hsr:sr.size=0
   ·obtain rfl:=ba_size_eq hsr;clear hsr;cases ok with
    | false =>
     have HF:=h! (show wrN ts ⟨⟨ot,oi,or_⟩,⟨st,si,⟨#[]⟩⟩⟩=4 from by
      rw[HW.out];unfold wrM;dsimp only;rw[HOKK.out];rfl)
     go_wp2_with fail
     go_ret
     exact⟨by rw[HF.out];rfl,HBW.out⟩
    | true =>
    cases o with
    | false =>
     have HF:=h! (show wrN ts ⟨⟨ot,oi,or_⟩,⟨st,si,⟨#[]⟩⟩⟩=4 from by
      rw[HW.out];unfold wrM;dsimp only;rw[HOKK.out,<- HO.out];rfl)
     go_wp2_with fail
     go_ret
     exact⟨by rw[HF.out];rfl,HBW.out⟩
    | true =>
     have HTHC:=h! (this06_any z.1 z.2 wr HZR.out);unfold rV at HTHC;rw[hzv]at HTHC
     have HM:=h! (show wrN ts ⟨⟨ot,oi,or_⟩,⟨st,si,⟨#[]⟩⟩⟩=if z.1.this then 0 else 9 from by
      rw[HW.out];unfold wrM;dsimp only;rw[HOKK.out,<- HO.out];obtain⟨r,hr⟩:=Option.isSome_iff_exists.1 HOKK.out;rw[hr,HZ1.out r hr];rfl)
     go_wp2_with fail
     refine HTHC.out.mono ?_;rintro e w9 ⟨rfl,hb9⟩;have HBE:=h! (HBW.out.trans (hb9.mono HBW.out.size));clear HTHC hb9 tr sr2 rr;cases hth:z.1.this with
     | true =>
      have HF:=h! (HM.out.trans (by rw[hth];rfl:_=(0:Int)));clear hth;go_wp2_with fail
      go_ret
      exact⟨by rw[HF.out];rfl,HBE.out⟩
     | false =>
      have HF:=h! (HM.out.trans (by rw[hth];rfl:_=(9:Int)));clear hth;go_wp2_with fail
      go_ret
      exact⟨by rw[HF.out];rfl,HBE.out⟩
   have hnesr:=ba_size_ne hsr;have HSR:=h! hsr;have HOF:=h! (find06_any ts (.slice ao ts.length c) st sr wr (HTS.out.up HBW.out) HU.out);clear hsr;go_wp2_with fail
   refine HOF.out.mono ?_;rintro e w5 ⟨y,rfl,hyat,-,-,hb5⟩;obtain⟨yo,yc,hyv,-⟩:=hyat.rows;generalize hsub:(lookA (refsOf ts) ⟨st,sr⟩).isSome=sub at *;have HSUB:=h! hsub;unfold rvV rV;rw[hyv];obtain⟨w6,hw6⟩:∃ x,x=w5.alloc (.cells #[.int .i64 y.1.k,.string y.1.a,.string y.1.b,.slice yo y.1.ps.length yc] 106):=⟨_,rfl⟩;have x56:Ext w5 w6:=by rw[hw6];exact Ext.alloc _ _
   have HB5:=h! (show Below wr.heap.size wr w6 from hb5.trans (x56.mono hb5.size));have HB6:=h! (HBW.out.trans (HB5.out.mono HBW.out.size));have HZ6:=h! (HZR.out.up HB5.out);have r6:=(HRR.out.below HB5.out).cells;clear HOF hsub hyat x56 hb5 tr sr2 rr;subst hw6;cases ok with
   | false =>
    cases o with
    | false =>
     have HF:=h! (show wrN ts ⟨⟨ot,oi,or_⟩,⟨st,si,sr⟩⟩=4 from by
      rw[HW.out];unfold wrM;dsimp only;rw[HOKK.out];rfl)
     go_wp2_with fail
     go_ret
     exact⟨by rw[HF.out];rfl,HB6.out⟩
    | true =>
     have HF:=h! (show wrN ts ⟨⟨ot,oi,or_⟩,⟨st,si,sr⟩⟩=4 from by
      rw[HW.out];unfold wrM;dsimp only;rw[HOKK.out];rfl)
     go_wp2_with fail
     go_ret
     exact⟨by rw[HF.out];rfl,HB6.out⟩
   | true =>
   cases o with
   | false =>
    have HF:=h! (show wrN ts ⟨⟨ot,oi,or_⟩,⟨st,si,sr⟩⟩=4 from by
     rw[HW.out];unfold wrM;dsimp only;rw[HOKK.out,<- HO.out];rfl)
    go_wp2_with fail
    go_ret
    exact⟨by rw[HF.out];rfl,HB6.out⟩
   | true =>
   cases sub with
   | false =>
    have HF:=h! (show wrN ts ⟨⟨ot,oi,or_⟩,⟨st,si,sr⟩⟩=4 from by
     rw[HW.out];unfold wrM;dsimp only;rw[HOKK.out,<- HO.out,HSUB.out];simp[HSR.out])
    go_wp2_with fail
    go_ret
    exact⟨by rw[HF.out];rfl,HB6.out⟩
   | true =>
    have HTHC:=h! (this06_any z.1 z.2 _ HZ6.out);unfold rV at HTHC;rw[hzv]at HTHC
    have HM:=h! (show wrN ts ⟨⟨ot,oi,or_⟩,⟨st,si,sr⟩⟩=if z.1.this then 0 else 9 from by
     rw[HW.out];unfold wrM;dsimp only;rw[HOKK.out,<- HO.out,HSUB.out];obtain⟨r,hr⟩:=Option.isSome_iff_exists.1 HOKK.out;rw[hr,HZ1.out r hr];simp)
    go_wp2_with fail
    refine HTHC.out.mono ?_;rintro e w9 ⟨rfl,hb9⟩;have HBE:=h! (HB6.out.trans (hb9.mono HB6.out.size));clear HTHC hb9 r6;cases hth:z.1.this with
    | true =>
     have HF:=h! (HM.out.trans (by rw[hth];rfl:_=(0:Int)));clear hth;go_wp2_with fail
     go_ret
     exact⟨by rw[HF.out];rfl,HBE.out⟩
    | false =>
     have HF:=h! (HM.out.trans (by rw[hth];rfl:_=(9:Int)));clear hth;go_wp2_with fail
     go_ret
     exact⟨by rw[HF.out];rfl,HBE.out⟩
end Go.Proofs.YtlhaghoajpglaaaGreat
namespace Go.Proofs.YtlhaghoajpglaaaGreat
open Go Go.RowKit Go.Maps
structure BI (ts:List TyS)(N0:Nat)(L A:List R2)(ch:Bool)(pr:List (R2 × RT)):Prop where
 upL:UpR L
 upA:UpR A
 least:LeastP ts L
 subA:∀ x∈A,x∈(refsOf ts).map (·.1)
 len0:N0<=L.length
 more:ch=true->N0<L.length
 done:∀ p∈pr,p.1∈A/\(ch=false->p.2.pcan (refsOf ts) L p.1.t=true->p.1∈L)
end Go.Proofs.YtlhaghoajpglaaaGreat
namespace Go.Proofs.YtlhaghoajpglaaaGreat
open Go Go.RowKit Go.ChangeShapes Go.WideShapes Go.ChangeAt
section
variable {H : Type} {enc : TypeId × Value -> H} {P : Program} {w : World}
theorem mapM_some {α β:Type} {f:α->Option β}:∀ {l:List α} {r:List β},l.mapM f=some r->r.length=l.length/\∀ (i:Nat)(x:α),l[i]?=some x->f x=r[i]?:=by
 intro l;induction l with
 | nil=>intro r h;simp at h;subst h;exact⟨rfl,by simp⟩
 | cons a l ih =>
  intro r h;simp only[List.mapM_cons,Option.bind_eq_bind,Option.bind_eq_some_iff,Option.pure_def,Option.some.injEq]at h;obtain⟨b,hb,bs,hbs,rfl⟩:=h;obtain⟨h1,h2⟩:=ih hbs;refine⟨by simp[h1],fun i x hx=>?_⟩;cases i with
  | zero=>simp at hx;subst hx;simpa using hb
  | succ i=>simp at hx ⊢;exact h2 i x hx
theorem addr_add_add (a:Addr)(x y:Nat):(a.add x).add y=a.add (x+y):=by
 by_cases hx:x=0
 ·subst hx;simp[Addr.add]
 ·by_cases hy:y=0
  ·subst hy;simp[Addr.add]
  ·simp[Addr.add,hx,hy,Nat.add_assoc]
theorem cells_get {base:Nat} {a:Addr} {n:Nat} {cs:List Value} (h:w.cells? base a n=some cs):cs.length=n/\∀ j,j<n->w.cell? (a.add j)=cs[j]?:=by
 unfold World.cells? at h;split at h
 ·obtain⟨h1,h2⟩:=mapM_some h;refine⟨by simpa using h1,fun j hj=>h2 j j (by simp[hj])⟩
 ·cases h
theorem open_sl {t e:TypeId} {v:Value} {d:DataW H} {ps:List MemPlace} (ht:P.underlying t=some (.slice e))(hv:∃ a len cap,v = .slice a len cap)(h:DataW.Trod enc P w 0 (fun _=>true) true t v d ps) :
  ∃ (xs:List Value) (elems:List (DataW H × List MemPlace)) (fuel:Nat),Sl (· < w.heap.size) w (P.cellsOf e) v xs/\xs.length=elems.length*P.cellsOf e /\
   (∀ i y,elems[i]?=some y->DataW.trod enc P w 0 (fun _=>true) true fuel e ((xs.drop (i*P.cellsOf e)).take (P.cellsOf e))=some y) /\
   (d = .nil/\elems=[]\/∃ rest,d = .slice (elems.map (·.1)) rest):=by
 obtain⟨a0,len0,cap0,rfl⟩:=hv;obtain⟨fuel,hf⟩:=h;rcases DataW.trod_slice ht hf with⟨hcs,hx⟩ | ⟨a,len,cap,elems,rest,n,hfu,hcs,hx,_,hlc,hcm,hlen,hel,_⟩
 ·have hv:Value.slice a0 len0 cap0 = .slice none 0 0:=by simpa [Value.cells] using hcs
  rw[hv];simp only[Prod.mk.injEq]at hx;exact⟨[],[],0,Sl.nil _ w _,by simp,by simp,.inl ⟨hx.1,rfl⟩⟩
 ·have hv:Value.slice a0 len0 cap0 = .slice (some a) len cap:=by simpa [Value.cells] using hcs
  rw[hv];generalize hk:P.cellsOf e=k at *
  have hget:∀ i,i<len->∃ cs y,w.cells? 0 (a.add (i*k)) k=some cs/\elems[i]?=some y/\DataW.trod enc P w 0 (fun _=>true) true n e cs=some y:=by
   intro i hi;have h1:=hel i hi;obtain⟨y,hy⟩:∃ y,elems[i]?=some y:=⟨_,List.getElem?_eq_getElem (by omega)⟩;rw[hy]at h1;obtain⟨cs,hc1,hc2⟩:=Option.bind_eq_some_iff.1 h1;exact⟨cs,y,hc1,hy,hc2⟩
  -- the cells, one by one
  obtain⟨xs,hxl,hxs⟩:∃ xs:List Value,xs.length=len*k/\∀ i j,i<len->j<k->w.cell? (a.add (i*k+j))=xs[i*k+j]?:=by
   refine⟨(List.range (len*k)).map fun m=>(w.cell? (a.add m)).getD undef,by simp,fun i j hi hj=>?_⟩
   have hm:i*k+j<len*k:=by
    have:=Nat.mul_le_mul_right k (show i+1<=len from hi);rw[Nat.add_mul]at this;omega
   obtain⟨cs,y,hc1,_,_⟩:=hget i hi;obtain⟨hcl,hcc⟩:=cells_get hc1;have h2:=hcc j hj;rw[addr_add_add]at h2;rw[h2,List.getElem?_eq_getElem (by omega)];simp[hm,h2,List.getElem?_eq_getElem (show j<cs.length by omega)]
  have hxm:∀ m u,xs[m]?=some u->w.cell? (a.add m)=some u:=by
   intro m u hu;have hml:m<len*k:=by rw[<- hxl];exact(List.getElem?_eq_some_iff.1 hu).1
   have hk0:0<k:=by
    apply Nat.pos_of_ne_zero;intro h0;rw[h0]at hml;omega
   have hdm:=Nat.div_add_mod m k;have hi:m / k<len:=(Nat.div_lt_iff_lt_mul hk0).2 hml;have:=hxs (m / k) (m % k) hi (Nat.mod_lt _ hk0);rw[Nat.mul_comm,hdm]at this;rw[this,hu]
  refine⟨xs,elems,n,⟨some a,len,cap,rfl,hxl,hlc,hcm,fun h=>(by cases h),fun hne=>?_⟩,by rw[hxl,hlen],fun i y hy=>?_,.inr ⟨rest.map (·.1),?_⟩⟩
  ·obtain⟨u,hu⟩:∃ u,xs[0]?=some u:=by
    cases xs with
    | nil=>exact absurd rfl hne
    | cons x _=>exact⟨x,rfl⟩
   have h0:=hxm 0 u hu;obtain⟨b,off,s⟩:=a
   have hs:s=none:=by
    cases s with
    | none=>rfl
    | some s =>
     exfalso
     simp only[Addr.add,World.cell?]at h0;split at h0 <;> simp at h0
   subst hs;have hb:=World.block_lt_of_cell? w _ h0;rw[Addr.add_lit]at hb;exact⟨b,off,rfl,hb,fun j u hu=>by have:=hxm j u hu;rwa[Addr.add_lit]at this⟩
  ·have hi:i<len:=by rw[<- hlen];exact(List.getElem?_eq_some_iff.1 hy).1
   obtain⟨cs,y',hc1,hy',hc2⟩:=hget i hi;obtain rfl:y=y':=by rw[hy]at hy';exact Option.some.inj hy'
   obtain⟨hcl,hcc⟩:=cells_get hc1
   have:(xs.drop (i*k)).take k=cs:=by
    apply List.ext_getElem?;intro j;rw[List.getElem?_take];split
    ·rename_i hj
     rw[List.getElem?_drop,<- hxs i j hi hj,<- hcc j hj,addr_add_add]
    ·rename_i hj
     rw[List.getElem?_eq_none (by omega)]
   rw[this];exact hc2
  ·simp only[Prod.mk.injEq]at hx;exact hx.1
theorem trodAll_stays {ts:List TypeId} (hl:laidOutB P=true) {W W':World} (hb:Below W.heap.size W W') :
  ∀ {vs:List Value} {ds:List (DataW H)} {ps:List MemPlace},(∀ t∈ts,P.readableRec t=true/\t<P.types.size)->(∀ x∈ps,x.block<W.heap.size) ->
   DataW.TrodAll enc P W 0 (fun _=>true) true ts vs ds ps->DataW.TrodAll enc P W' 0 (fun b=>decide (b<W.heap.size)) true ts vs ds ps:=by
 induction ts with
 | nil =>
  intro vs ds ps _ _ h;cases vs <;> cases ds <;> simp_all [DataW.TrodAll]
 | cons t ts ih =>
  intro vs ds ps hr hlt h;obtain⟨v,vs',d,ds',p,q,rfl,rfl,rfl,h1,h2⟩:=trodAll_cons h;exact trodAll_cons_mk (Below.trod hl (hr t (by simp)).1 (hr t (by simp)).2 h1 hb (fun x hx=>hlt x (by simp[hx]))) (ih (fun t ht=>hr t (by simp[ht])) (fun x hx=>hlt x (by simp[hx])) h2)
theorem law_post {f:Func} {s:ChangeSpec} {W W':World} {args:Array Value} {ds gs:List (DataW H)} {before:List MemPlace} {tb:TypeId}
  (hW:DataW.Whole enc P f.params.toList s.vars false W args.toList ds gs before) (hvars:s.vars=[]) (hres:f.resultTypes=#[tb]) (htb:P.underlying tb=some .bool)
  (hfn:(s.fn H (ds++gs)).results=[.lit (.bool true)]) (hfa:(s.fn H (ds++gs)).args=ds) (hfv:(s.fn H (ds++gs)).vars=[])
  (hl:laidOutB P=true) (hr:(f.params.toList.all fun t=>P.readableRec t&&decide (t<P.types.size))=true) (hb:Below W.heap.size W W') :
  s.post enc P f false true false false W args (.bool true) W':=by
 have hlt:=hW.lt;have hW0:=hW;obtain⟨p,q,hA,hV,rfl,_,_⟩:=hW;rw[hvars]at hV;refine⟨ds,gs,p++q,[],p,[],hW0,?_,?_,?_,hb.frame _,fun h=>by cases h⟩
 ·rw[hfn,hres];exact trodAll_mk1 (shut_bool htb true)
 ·rw[hfa];refine trodAll_stays hl hb (fun t ht=>?_) (fun x hx=>hlt x (by simp[hx])) hA;have:=List.all_eq_true.1 hr t ht;simpa using this
 ·rw[hfv,hvars];rfl
end
section
variable {H : Type} {enc : TypeId × Value -> H} {P : Program} {w : World}
end
mutual
def RT.bk:RT->Nat | .mk _ a b ps=>5+a.size+b.size+bkL ps
def bkL:List RT->Nat | []=>0 | r::rs=>r.bk+bkL rs
end
def relBk (x:ByteArray × RT):Nat:=2+x.1.size+x.2.bk
def sumN {α:Type} (f:α->Nat):List α->Nat | []=>0 | x::l=>f x+sumN f l
theorem relBk_eq (x:ByteArray × RT):relBk x=2+x.1.size+x.2.bk:=rfl
def tyBk (t:TyS):Nat:=2+t.name.size+sumN relBk t.rels
theorem tyBk_eq (t:TyS):tyBk t=2+t.name.size+sumN relBk t.rels:=rfl
theorem bkL_sum (l:List RT):bkL l=sumN RT.bk l:=by
 induction l with
 | nil=>rfl
 | cons x l ih=>rw[bkL,sumN,ih]
theorem sumN_mem {α:Type} (f:α->Nat) {a:α}:∀ {l:List α},a∈l->f a<=sumN f l
 | x::l,h=>by
  rw[sumN];rcases List.mem_cons.1 h with rfl | h
  ·omega
  ·have:=sumN_mem f h;omega
section
variable {H : Type} {enc : TypeId × Value -> H} {W : World} {base : Nat} {v : Value} {d : DataW H} {ps : List MemPlace}
def schBk (ts:List TyS):Nat:=sumN tyBk ts
end
theorem sz_bk (r:RT):5*r.sz<=r.bk/\5+r.a.size+r.b.size<=r.bk:=by
 induction r using RT.ind with
 | h r ih =>
  obtain⟨k,a,b,ps⟩:=r
  have:5*szL ps<=bkL ps:=by
   have hh:∀ p∈ps,5*p.sz<=p.bk:=fun p hp=>(ih p hp).1;clear ih;induction ps with
   | nil=>simp[szL,bkL]
   | cons x ps ih =>
    rw[szL,bkL];have h1:=hh x List.mem_cons_self;have h2:=ih fun p hp=>hh p (List.mem_cons_of_mem _ hp);omega
  rw[RT.sz,RT.bk];refine⟨by omega,?_⟩;show 5+a.size+b.size<=_
  omega
theorem rels_bk (l:List (ByteArray × RT)):l.length<=sumN relBk l:=by
 induction l with
 | nil=>simp
 | cons x l ih=>rw[sumN,List.length_cons];have:=relBk_eq x;omega
theorem names_bk (ts:List TyS):(namesOf ts).length<=schBk ts/\(refsOf ts).length<=schBk ts:=by
 induction ts with
 | nil=>exact⟨Nat.zero_le _,Nat.zero_le _⟩
 | cons t ts ih =>
  have h1:=rels_bk t.rels;unfold schBk namesOf refsOf at ih ⊢;rw[List.flatMap_cons,List.flatMap_cons,List.length_append,List.length_append,sumN];have h2:(relsOf t.name t.rels).length=t.rels.length:=by unfold relsOf;rw[List.length_map]
  have h3:(namesT t).length<=t.rels.length+1:=by unfold namesT;simp
  have:=tyBk_eq t;omega
theorem sz_sch {ts:List TyS} (h:schBk ts<=1048576):∀ t∈ts,∀ r∈t.rels,r.2.sz<=1000000:=fun t ht r hr=>by
 have h1:=sumN_mem tyBk ht;have h2:=sumN_mem relBk hr;have h3:=(sz_bk r.2).1;unfold schBk at h;have h4:=tyBk_eq t;have h5:=relBk_eq r;omega
theorem wt_bk (r:RT):r.wt+8<=4*r.bk:=by
 induction r using RT.ind with
 | h r ih =>
  obtain⟨k,a,b,ps⟩:=r
  have:wtL ps<=4*bkL ps:=by
   have hh:∀ p∈ps,p.wt+8<=4*p.bk:=fun p hp=>ih p hp;clear ih;induction ps with
   | nil=>simp[wtL,bkL]
   | cons x ps ih =>
    rw[wtL,bkL];have h1:=hh x List.mem_cons_self;have h2:=ih fun p hp=>hh p (List.mem_cons_of_mem _ hp);omega
  rw[RT.wt,RT.bk];omega
theorem relB_bk (l:List (ByteArray × RT)):relB l<=5*sumN relBk l:=by
 induction l with
 | nil=>simp[relB]
 | cons x l ih =>
  rw[relB,sumN];have:=wt_bk x.2;have:=relBk_eq x;omega
theorem schB_bk (ts:List TyS):schB ts<=5*schBk ts:=by
 induction ts with
 | nil=>simp[schB]
 | cons t ts ih =>
  rw[schB];have:=relB_bk t.rels;unfold schBk at ih ⊢;rw[sumN];have:=tyBk_eq t;omega
end Go.Proofs.YtlhaghoajpglaaaGreat
namespace Go.Proofs.YtlhaghoajpglaaaGreat
open Go Go.RowKit Go.Maps
theorem chk_uniq {ts:List TyS} (h:chk06 ts=0):uniqOk ts=true:=by
 unfold chk06 at h;split at h
 ·split at h
  ·split at h
   ·assumption
   ·cases h
  ·cases h
 ·cases h
theorem chk_long {ts:List TyS} (h:chk06 ts=0):longOk ts=true:=by
 unfold chk06 at h;split at h
 ·split at h
  ·assumption
  ·cases h
 ·cases h
theorem long_small {ts:List TyS} (h:longOk ts=true):ts.length<=16/\∀ t∈ts,t.rels.length<=16/\∀ r∈t.rels,r.2.sz<=32:=by
 unfold longOk at h;rw[Bool.and_eq_true,decide_eq_true_eq,List.all_eq_true]at h;refine⟨h.1,fun t ht=>?_⟩;have h2:=h.2 t ht;unfold tyLong at h2;rw[Bool.and_eq_true,decide_eq_true_eq,List.all_eq_true]at h2;exact⟨h2.1,fun r hr=>by simpa using h2.2 r hr⟩
theorem long_refs {ts:List TyS} (h:longOk ts=true):(refsOf ts).length<=256:=by
 obtain⟨h1,h2⟩:=long_small h;have:=flat_le (fun t:TyS=>relsOf t.name t.rels) 16 ts fun t ht=>by unfold relsOf;rw[List.length_map];exact(h2 t ht).1
 unfold refsOf;omega
end Go.Proofs.YtlhaghoajpglaaaGreat
namespace Go.Proofs.YtlhaghoajpglaaaGreat
open Go Go.RowKit Go.ChangeShapes Go.WideShapes Go.ChangeAt
def bc (l:List UInt8):List Value:=l.map fun c => .int .u8 c.toNat
theorem bc_length (a:List UInt8):(bc a).length=a.length:=by simp[bc]
theorem bytes_at {S:Nat->Prop} {w:World} {ao:Option Addr} {l:List UInt8} {c:Nat} (h:Sl S w 1 (.slice ao l.length c) (bc l)):∀ i (hi:i<l.length),∃ b off,ao=some ⟨b,off,none⟩/\S b/\w.cell? ⟨b,off+i,none⟩=some (.int .u8 l[i].toNat):=by
 obtain⟨ao',n',c',hv,h1,h2,h3,h4,h5⟩:=h;cases hv;intro i hi;obtain⟨b,off,rfl,hb,hc⟩:=h5 (fun e=>by have:=congrArg List.length e;rw[bc_length]at this;simp only[List.length_nil]at this;omega);exact⟨b,off,rfl,hb,hc i _ (by simp[bc,hi])⟩
section
variable {H : Type} {enc : TypeId × Value -> H} {W : World} {base : Nat} {v : Value} {d : DataW H} {ps : List MemPlace}
theorem open_bytesV (hok:Value.okWide Tryz.prog W .any base 22 v)(h:DataW.Trod enc Tryz.prog W 0 (fun _=>true) true 22 v d ps):∃ l:List UInt8,Sl (· < W.heap.size) W 1 v (bc l):=by
 obtain⟨xs,elems,fuel,hs,hl,he,_⟩:=open_sl Tryz.underlying22 (okWide_slice Tryz.underlying22 hok) h;rw[show Tryz.prog.cellsOf 5=1 from by kernel_rfl]at hs hl he
 have hall:∀ i (hi:i<xs.length),∃ c:UInt8,xs[i] = .int .u8 c.toNat:=by
  intro i hi;have hie:i<elems.length:=by omega
  have:=he i elems[i] (by simp[hie]);rw[Nat.mul_one,show(xs.drop i).take 1=[xs[i]]from by rw[List.drop_eq_getElem_cons hi];rfl]at this;obtain⟨n,e1,_,hw⟩:=DataW.trod_int Tryz.underlying5 this;have hb:=bounds_u8 hw;refine⟨UInt8.ofNat n.toNat,?_⟩;have e2:xs[i] = .int .u8 n:=by simpa using e1
  rw[e2];congr 1
  have:(UInt8.ofNat n.toNat).toNat=n.toNat:=by simp;omega
  rw[this];omega
 refine⟨xs.map fun x=>match x with | .int _ n=>UInt8.ofNat n.toNat | _=>0,?_⟩
 have:bc (xs.map fun x=>match x with | .int _ n=>UInt8.ofNat n.toNat | _=>0)=xs:=by
  apply List.ext_getElem
  ·simp[bc]
  ·intro i h1 h2;obtain⟨c,hc⟩:=hall i h2;simp[bc,hc]
 rw[this];exact hs
end
end Go.Proofs.YtlhaghoajpglaaaGreat
namespace Go.Proofs.YtlhaghoajpglaaaGreat
open Go Go.RowKit Go.Maps
def Tp (w:World)(tp:Nat):Prop:=∃ (bv:Value)(l:List UInt8)(n:Nat),n<=l.length/\Sl (· < tp) w 1 bv (bc l)/\Blk w tp #[bv,.int .i64 n] 41
abbrev KT (tp:Nat) (w w':World):Prop:=Kept (fun b=>b<w.heap.size/\b≠tp) w w'
theorem KT.trans {tp:Nat} {w w' w'':World} (h:KT tp w w')(k:KT tp w' w''):KT tp w w'':=Kept.trans h (Kept.mono k fun _b hb=>⟨Nat.lt_of_lt_of_le hb.1 h.size,hb.2⟩)
theorem KT.of {tp:Nat} {w w':World} (h:Ext w w'):KT tp w w':=Below.kept h fun _b hb=>hb.1
theorem Tp.ext {w w':World} {tp:Nat} (h:Tp w tp)(hb:Ext w w'):Tp w' tp:=by
 obtain⟨bv,l,n,hn,hs,hB⟩:=h;exact⟨bv,l,n,hn,hs.same ((Same.below hb).mono fun b h=>Nat.lt_trans h hB.lt),hB.below hb⟩
theorem Tp.lt {w:World} {tp:Nat} (h:Tp w tp):tp<w.heap.size:=by
 obtain⟨bv,l,n,hn,hs,hB⟩:=h;exact hB.lt
theorem KT.same {tp:Nat} {w w':World} {S:Nat->Prop} (h:KT tp w w')(hS:∀ b,S b->b<w.heap.size/\b≠tp):Same S w w':=fun b hb=>h.block b (hS b hb)
theorem KT.blk {tp:Nat} {w w':World} (h:KT tp w w') {B:Nat} {cs:Array Value} {e:TypeId} (hB:Blk w B cs e)(hn:B≠tp):Blk w' B cs e:=Kept.blk h hB ⟨hB.lt,hn⟩
theorem next_any (tp:Nat)(n:Int)(w:World)(h:Tp w tp)(hn:1<=n)(hm:n<=1000000):Calls Tryz.prog 106 #[.pointer (some ⟨tp,0,none⟩),.int .i64 n] w fun e w'=>∃ k:Nat,e = .returned (.int .i64 k)/\(k:Int)<n/\Tp w' tp/\KT tp w w':=by
 obtain⟨bv,l,m,hml,hs,hB⟩:=h;obtain⟨ao,ln,c,rfl,hln,hlc,hcm⟩:=hs.len;rw[bc_length,Nat.mul_one]at hln;subst hln;have HS:=h! hs;have HB:=h! hB;have HM:=h! hm;have HML:=h! hml;clear hs hB hm;by_cases h2:n<2
 ·have HN:=h! hn;have hn2:decide (n<2)=true:=decide_eq_true h2;go_enter Tryz.func106,Tryz.ntmps106
  go_wp2_with fail
  refine region_walkN (Ext w) (Ext.drew w) (by kernel_rfl) (by kernel_rfl) (fun _ _ d _ _ h=>by cases d <;> exact h) ?_;(refine WalkN.tk [0,1,2] ?_;(iterate 3 (refine c! ?_));refine TkN.n ?_)
  refine k! 3 ?_;refine k! 4 ?_;refine k! 5 ?_;refine k! 6 ?_;refine k! 7 ?_;refine k! 8 ?_;refine k! 9 ?_;refine k! 10 ?_;refine k! 11 ?_;refine k! 12 ?_
  refine t! 13 ?_
  refine d! ?_;go_wp2_with fail
  go_ret
  exact⟨0,rfl,by have:=HN.out;omega,⟨_,l,m,HML.out,HS.out.same ((Same.below (Ext.drew w)).mono fun b h=>Nat.lt_trans h HB.out.lt),HB.out.below (Ext.drew w)⟩,KT.of (Ext.drew w)⟩
 ·have hn2:decide (n<2)=false:=decide_eq_false h2;have HN2:=h! h2;have a0:∀ W,Ext w W->W.cell? ⟨tp,0,none⟩=some (.slice ao l.length c):=fun W h=>by rw[(HB.out.below h).cells];rfl
  have a1:∀ W,Ext w W->W.cell? ⟨tp,1,none⟩=some (.int .i64 m):=fun W h=>by rw[(HB.out.below h).cells];rfl
  clear h2;by_cases hlt:m<l.length
  ·have hge:decide ((l.length:Int)<=(m:Int))=false:=decide_eq_false (by omega);have hge2:¬ (l.length:Int)<=(m:Int):=by omega
   go_enter Tryz.func106,Tryz.ntmps106
   go_wp2_with fail
   refine region_walkN (Ext w) (Ext.drew w) (by kernel_rfl) (by kernel_rfl) (fun _ _ d _ _ h=>by cases d <;> exact h) ?_;(refine WalkN.tk [0,1,2,3,4,5,6,7,8,9,10,11,12,13] ?_;(iterate 14 (refine c! ?_));refine TkN.n ?_)
   refine d! ?_;have c1:=a1 _ (Ext.drew w);have hf1:=(HB.out.below (Ext.drew w)).free;have hw1:wrap64 ((m:Int)+1)=((m+1:Nat):Int):=by rw[wrap_in _ (by omega) (by omega)];omega
   obtain⟨bb,off,rfl,hb,hcl⟩:=bytes_at HS.out m hlt;generalize hq:l[m]=q at *;clear a0 a1;have HD:=h! (HB.out.below (Ext.drew w));have HSD:=h! (HS.out.same ((Same.below (Ext.drew w)).mono fun b h=>Nat.lt_trans h HB.out.lt));go_wp2_with fail
   obtain⟨w2,hw2⟩:∃ x,x=(w.setCell ⟨tp,1,none⟩ (.int .i64 ((m:Int)+1))).drew:=⟨_,rfl⟩;rw[<- hw2];have H2:=h! (show Blk w2 tp #[.slice (some ⟨bb,off,none⟩) l.length c,.int .i64 ((m+1:Nat):Int)] 41 from by rw[hw2];exact(HB.out.set_to 1 _ (by simp)).drew);have HK2:=h! (show KT tp w w2 from by rw[hw2];exact((Kept.refl _ _).set (fun h=>h.2 rfl) _).drew);have hcl2:=(World.cell?_of_block (a:=⟨bb,off+m,none⟩) (HK2.out.block bb ⟨Nat.lt_trans hb HB.out.lt,by omega⟩)).trans hcl;have HS2:=h! (HS.out.same (HK2.out.same (S:=(· < tp)) fun b (h:b<tp)=>⟨Nat.lt_trans h HB.out.lt,by omega⟩));have HTW:=h! (show Tp w2 tp from⟨_,l,m+1,hlt,HS2.out,H2.out⟩);have b0:∀ W,Ext w2 W->W.cell? ⟨tp,0,none⟩=some (.slice (some ⟨bb,off,none⟩) l.length c):=fun W h=>by rw[(H2.out.below h).cells];rfl
   have b1:∀ W,Ext w2 W->W.cell? ⟨tp,1,none⟩=some (.int .i64 ((m+1:Nat):Int)):=fun W h=>by rw[(H2.out.below h).cells];rfl
   have b2:∀ W,Ext w2 W->W.cell? ⟨bb,off+m,none⟩=some (.int .u8 q.toNat):=fun W h=>Ext.cell h (a:=⟨bb,off+m,none⟩) hcl2;have hs1:IntKind.i64.wrap (m:Int)=(m:Int):=IntWalk.i64_in _ (by omega);have hs2:(0:Int)<=(m:Int):=by omega
   have hs3:(m:Int)<(l.length:Int):=by omega
   obtain⟨n',rfl⟩:∃ n':Nat,n=n':=⟨n.toNat,by omega⟩
   have hmod:(q.toNat:Int).tmod (n':Int)=((q.toNat % n':Nat):Int):=by
    rw[Int.tmod_eq_emod_of_nonneg (by omega)];simp
   have hkl:=Nat.mod_lt q.toNat (show 0<n' from by omega);have hn0:¬ n'=0:=by omega
   have hq0:=q.toNat_lt;generalize q.toNat=qn at *;have hqw:IntKind.i64.wrap (qn:Int)=(qn:Int):=IntWalk.i64_in _ (by omega);generalize hk:qn % n'=k at *;have HKL:=h! hkl;clear hw2 c1 hf1 hw1 hcl hcl2 hb hq hk hkl;refine region_walkN (Ext w2) (Ext.drew w2) (by kernel_rfl) (by kernel_rfl) (fun _ _ d _ _ h=>by cases d <;> exact h) ?_;(refine WalkN.tk [0,1,2,3,4,5,6,7,8,9,10,11,12,13,14] ?_;(iterate 15 (refine c! ?_));refine TkN.n ?_)
   refine d! ?_;clear b0 b1 b2;go_wp2_with fail
   go_ret
   exact⟨k,rfl,by have:=HKL.out;omega,HTW.out.ext (Ext.drew w2),KT.trans HK2.out (KT.of (Ext.drew w2))⟩
  ·have hge:decide ((l.length:Int)<=(m:Int))=true:=decide_eq_true (by omega);have hge2:(l.length:Int)<=(m:Int):=by omega
   go_enter Tryz.func106,Tryz.ntmps106
   go_wp2_with fail
   refine region_walkN (Ext w) (Ext.drew w) (by kernel_rfl) (by kernel_rfl) (fun _ _ d _ _ h=>by cases d <;> exact h) ?_;(refine WalkN.tk [0,1,2,3,4,5,6,7,8,9,10,11,12,13] ?_;(iterate 14 (refine c! ?_));refine TkN.n ?_)
   refine d! ?_;clear a0 a1;go_wp2_with fail
   go_ret
   exact⟨0,rfl,by have:=HN2.out;omega,⟨_,l,m,HML.out,HS.out.same ((Same.below (Ext.drew w)).mono fun b h=>Nat.lt_trans h HB.out.lt),HB.out.below (Ext.drew w)⟩,KT.of (Ext.drew w)⟩
def nmV:ByteArray:=⟨#[118,105,101,119,101,114]⟩
def nmO:ByteArray:=⟨#[111,119,110,101,114]⟩
def nmP:ByteArray:=⟨#[112,97,114,101,110,116]⟩
def nmM:ByteArray:=⟨#[109,101,109,98,101,114]⟩
def relNs:List ByteArray:=[nmV,nmO,nmP,nmM]
theorem mkRels_any (w:World):Calls Tryz.prog 125 #[] w fun e w'=>e = .returned (.slice (some ⟨w.heap.size,0,none⟩) 4 4)/\Blk w' w.heap.size #[.string nmV,.string nmO,.string nmP,.string nmM] 9/\Ext w w':=by
 go_enter Tryz.func125,Tryz.ntmps125
 go_wp2_with fail
 go_ret
 exact⟨rfl,Blk.made _ _ _,Ext.alloc _ _⟩
def LeafR (own:List ByteArray)(r:RT):Prop:=r = .mk 1 ⟨#[]⟩ ⟨#[]⟩ []\/(∃ a∈own,r = .mk 2 a ⟨#[]⟩ [])\/∃ a∈own,∃ b∈relNs.take 2,r = .mk 3 a b []
def GoodR (own:List ByteArray):Nat->RT->Prop
 | 0,r=>LeafR own r
 | d+1,r=>LeafR own r\/∃ k ps,r = .mk k ⟨#[]⟩ ⟨#[]⟩ ps/\(k=4\/k=5)/\(ps.length=2\/ps.length=3)/\∀ p∈ps,GoodR own d p/\p.k≠k
theorem GoodR.leaf {own:List ByteArray} {r:RT} (h:LeafR own r):∀ d,GoodR own d r
 | 0=>h
 | _+1 => .inl h
theorem LeafR.k {own:List ByteArray} {r:RT} (h:LeafR own r):r.k≠0/\r.k≠4/\r.k≠5:=by
 rcases h with rfl | ⟨a,_,rfl⟩ | ⟨a,_,b,_,rfl⟩ <;> simp[RT.k]
theorem RTAt.leaf' (S:Nat->Prop)(w:World) {r:RT} (h:r.ps=[]):RTAt S w r (.slice none 0 0):=(RTAt.iff _ _).2 ⟨[],by rw[h];rfl,by simp,Sl.nil _ _ _⟩
structure MkI (own:List ByteArray)(d:Nat)(kk:Int)(rp:Nat)(w:World)(q:List (RT × Value))(pv:Value):Prop where
 box:Blk w rp #[.int .i64 kk,.string ⟨#[]⟩,.string ⟨#[]⟩,pv] 106
 row:Own w (rp+1) 106 4 pv (q.flatMap rC)
 parts:∀ x∈q,RTAt (fun b=>(rp+1<=b/\b<w.heap.size)/\pv.ownBlock≠some b) w x.1 x.2
 good:∀ x∈q,GoodR own d x.1/\x.1.k≠kk
theorem MkI.keep {own:List ByteArray} {d:Nat} {kk:Int} {rp tp:Nat} {w w':World} {q:List (RT × Value)} {pv:Value} (h:MkI own d kk rp w q pv)(hk:KT tp w w')(ht:tp<rp):MkI own d kk rp w' q pv :=
 ⟨hk.blk h.box (by omega),h.row.keepOwn fun g hg=>hk.block g ⟨(h.row.block g hg).2,by have:=(h.row.block g hg).1;omega⟩,
  fun x hx=>((h.parts x hx).same fun b hb=>hk.block b ⟨hb.1.2,by have:=hb.1.1;omega⟩).mono fun b hb=>⟨⟨hb.1.1,Nat.lt_of_lt_of_le hb.1.2 hk.size⟩,hb.2⟩,h.good⟩
theorem MkI.add {own:List ByteArray} {d:Nat} {kk:Int} {rp n0:Nat} {w w7:World} {q:List (RT × Value)} {pv v7 v5:Value} {r:RT} (h:MkI own d kk rp w q pv)(hk:∀ b,b<w.heap.size->pv.ownBlock≠some b->w7.heap[b]?=w.heap[b]?)(hz:w.heap.size<=w7.heap.size)
  (ho:Own w7 (rp+1) 106 4 v7 (q.flatMap rC++rC (r,v5))) (hb:∀ g,v7.ownBlock=some g->pv.ownBlock=some g\/w.heap.size<=g) (hr:RTAt (fun b=>n0<=b/\b<w.heap.size) w r v5) (hn0:rp+1<=n0) (hpv:∀ g,pv.ownBlock=some g->g<n0) (hg:GoodR own d r/\r.k≠kk) :
  MkI own d kk rp (w7.setCell ⟨rp,3,none⟩ v7) (q++[(r,v5)]) v7:=by
 have hne:pv.ownBlock≠some rp:=fun e=>by have:=(h.row.block rp e).1;omega
 have hs:Same (fun b=>(rp+1<=b/\b<w.heap.size)/\pv.ownBlock≠some b) w (w7.setCell ⟨rp,3,none⟩ v7):=fun b hb'=>(Below.heap_setCell w7 _ _ b (by have:=hb'.1.1;show b≠rp;omega)).trans (hk b hb'.1.2 hb'.2)
 have hm:∀ b,((rp+1<=b/\b<w.heap.size)/\pv.ownBlock≠some b)->((rp+1<=b/\b<(w7.setCell ⟨rp,3,none⟩ v7).heap.size)/\v7.ownBlock≠some b):=fun b hb'=>⟨⟨hb'.1.1,by simp;exact Nat.lt_of_lt_of_le hb'.1.2 hz⟩,fun e=>by
  rcases hb b e with e | e
  ·exact hb'.2 e
  ·have:=hb'.1.2;omega⟩
 refine⟨?_,?_,fun x hx=>?_,fun x hx=>?_⟩
 ·have hb7:Blk w7 rp #[.int .i64 kk,.string ⟨#[]⟩,.string ⟨#[]⟩,pv] 106:=(hk rp h.box.lt hne).trans h.box;exact hb7.set_to 3 _ rfl
 ·rw[List.flatMap_append];exact(show Own w7 (rp+1) 106 4 v7 (q.flatMap rC++[(r,v5)].flatMap rC)from by simpa using ho).keepOwn fun g hg=>Below.heap_setCell _ _ _ _ (by have:=(ho.block g hg).1;show g≠rp;omega)
 ·rcases List.mem_append.1 hx with hx | hx
  ·exact((h.parts x hx).same hs).mono hm
  ·obtain rfl:=List.mem_singleton.1 hx;have h2:∀ b,(n0<=b/\b<w.heap.size)->((rp+1<=b/\b<w.heap.size)/\pv.ownBlock≠some b):=fun b hb'=>⟨⟨Nat.le_trans hn0 hb'.1,hb'.2⟩,fun e=>by have:=hpv b e;omega⟩;exact((hr.mono h2).same hs).mono hm
 ·rcases List.mem_append.1 hx with hx | hx
  ·exact h.good x hx
  ·obtain rfl:=List.mem_singleton.1 hx;exact hg
theorem Tp.kept {w w':World} {tp:Nat} {K:Nat->Prop} (h:Tp w tp)(hk:Kept K w w')(hK:∀ b,b<=tp->K b):Tp w' tp:=by
 obtain⟨bv,l,n,hn,hs,hB⟩:=h;exact⟨bv,l,n,hn,hs.same fun b hb=>hk.block b (hK b (Nat.le_of_lt hb)),hk.blk hB (hK tp (Nat.le_refl _))⟩
theorem Blk.set4 {w:World} {B:Nat} {a b c d:Value} {e:TypeId} (h:Blk w B #[a,b,c,d] e)(x0 x1 x2 x3:Value):Blk ((((w.setCell ⟨B,0,none⟩ x0).setCell ⟨B,1,none⟩ x1).setCell ⟨B,2,none⟩ x2).setCell ⟨B,3,none⟩ x3) B #[x0,x1,x2,x3] e :=
 (((h.set_to (cs':=#[x0,b,c,d]) 0 x0 rfl).set_to (cs':=#[x0,x1,c,d]) 1 x1 rfl).set_to (cs':=#[x0,x1,x2,d]) 2 x2 rfl).set_to (cs':=#[x0,x1,x2,x3]) 3 x3 rfl
theorem Kept.set4 {K:Nat->Prop} {w w':World} {B:Nat} (h:Kept K w w')(hk:¬ K B)(x0 x1 x2 x3:Value):Kept K w ((((w'.setCell ⟨B,0,none⟩ x0).setCell ⟨B,1,none⟩ x1).setCell ⟨B,2,none⟩ x2).setCell ⟨B,3,none⟩ x3):=(((h.set hk x0).set hk x1).set hk x2).set hk x3
theorem Tp.set4 {w:World} {tp B:Nat} (h:Tp w tp)(_hB:B<w.heap.size)(hn:tp<B)(x0 x1 x2 x3:Value):Tp ((((w.setCell ⟨B,0,none⟩ x0).setCell ⟨B,1,none⟩ x1).setCell ⟨B,2,none⟩ x2).setCell ⟨B,3,none⟩ x3) tp :=
 h.kept (K:=fun b=>b≠B) ((Kept.refl _ w).set4 (fun h=>h rfl) x0 x1 x2 x3) fun b hb=>by omega
theorem mkRule_any (own:List ByteArray)(hol:1<=own.length/\own.length<=4)(d:Nat):∀ (nt:Int)(tp:Nat)(ov:Value)(w:World),Tp w tp->Sl (fun b=>b<w.heap.size/\b≠tp) w 1 ov (txs own)->d<=1000->(nt=0\/nt=4\/nt=5) ->
  Calls Tryz.prog 126 #[.pointer (some ⟨tp,0,none⟩),ov,.int .i64 d,.int .i64 nt] w fun e w'=>∃ (r:RT) (pv:Value),e = .returned (rV r pv)/\GoodR own d r/\r.k≠nt/\RTAt (fun b=>w.heap.size<=b/\b<w'.heap.size) w' r pv/\Tp w' tp/\KT tp w w':=by
 have HOL:=h! hol;clear hol;induction d using Nat.strongRecOn with
 | ind d ih =>
 intro nt tp ov w htp hov hd hnt;obtain⟨ao,ln,c,rfl,hln,-,-⟩:=hov.len;rw[txs_length,Nat.mul_one]at hln;subst hln;have HOV:=h! hov;have HTP:=h! htp;have HNT:=h! hnt;have HD:=h! hd;have HLT:=h! htp.lt;have x01:=Ext.alloc w (.cells #[.int .i64 0,.string ⟨#[]⟩,.string ⟨#[]⟩,.slice none 0 0] 106);have HR0:=h! (Blk.made w #[.int .i64 0,.string ⟨#[]⟩,.string ⟨#[]⟩,.slice none 0 0] 106);have HX01:=h! x01;have HNX:=h! (next_any tp 8 _ (htp.ext x01) (by decide) (by decide));clear hov htp hnt hd x01;go_enter Tryz.func126,Tryz.ntmps126
 go_wp2_with fail
 refine HNX.out.mono ?_;rintro e w1 ⟨k,rfl,hk,htp1,hkt1⟩;have w1HT:=h! htp1;have w1HK:=h! (KT.trans (KT.of HX01.out) hkt1);have w1HR:=h! (hkt1.blk HR0.out (by have:=HLT.out;omega));have HZ1:=h! (show w.heap.size<w1.heap.size from w1HR.out.lt);have hr1:=w1HR.out.cells;have hf1:=w1HR.out.free;clear htp1 hkt1 HNX HX01 HR0 HTP;have h8:k=0\/k=1\/k=2\/k=3\/k=4\/k=5\/6<=k:=by omega
 rcases h8 with rfl | rfl | rfl | rfl | rfl | rfl | h6
 ·clear hk;go_wp2_with fail
  refine bodyPost_ret (results_cell_row rfl _ _ w.heap.size 106 #[.int .i64 1,.string ⟨#[]⟩,.string ⟨#[]⟩,.slice none 0 0] (0,0) _ rfl (w1HR.out.set4 _ _ _ _) Tryz.underlying106 rfl (by kernel_rfl)) rfl ?_;exact⟨.mk 1 ⟨#[]⟩ ⟨#[]⟩ [],.slice none 0 0,rfl,GoodR.leaf (.inl rfl) _,by have:=HNT.out;have:=(show LeafR own (.mk 1 ⟨#[]⟩ ⟨#[]⟩ [])from .inl rfl).k;omega,RTAt.leaf' _ _ rfl,w1HT.out.set4 w1HR.out.lt (by have:=HLT.out;omega) _ _ _ _,w1HK.out.set4 (fun h=>Nat.lt_irrefl _ h.1) _ _ _ _⟩
 ·clear hk;go_wp2_with fail
  refine bodyPost_ret (results_cell_row rfl _ _ w.heap.size 106 #[.int .i64 1,.string ⟨#[]⟩,.string ⟨#[]⟩,.slice none 0 0] (0,0) _ rfl (w1HR.out.set4 _ _ _ _) Tryz.underlying106 rfl (by kernel_rfl)) rfl ?_;exact⟨.mk 1 ⟨#[]⟩ ⟨#[]⟩ [],.slice none 0 0,rfl,GoodR.leaf (.inl rfl) _,by have:=HNT.out;have:=(show LeafR own (.mk 1 ⟨#[]⟩ ⟨#[]⟩ [])from .inl rfl).k;omega,RTAt.leaf' _ _ rfl,w1HT.out.set4 w1HR.out.lt (by have:=HLT.out;omega) _ _ _ _,w1HK.out.set4 (fun h=>Nat.lt_irrefl _ h.1) _ _ _ _⟩
 ·clear hk;go_wp2_with fail
  refine bodyPost_ret (results_cell_row rfl _ _ w.heap.size 106 #[.int .i64 1,.string ⟨#[]⟩,.string ⟨#[]⟩,.slice none 0 0] (0,0) _ rfl (w1HR.out.set4 _ _ _ _) Tryz.underlying106 rfl (by kernel_rfl)) rfl ?_;exact⟨.mk 1 ⟨#[]⟩ ⟨#[]⟩ [],.slice none 0 0,rfl,GoodR.leaf (.inl rfl) _,by have:=HNT.out;have:=(show LeafR own (.mk 1 ⟨#[]⟩ ⟨#[]⟩ [])from .inl rfl).k;omega,RTAt.leaf' _ _ rfl,w1HT.out.set4 w1HR.out.lt (by have:=HLT.out;omega) _ _ _ _,w1HK.out.set4 (fun h=>Nat.lt_irrefl _ h.1) _ _ _ _⟩
 ·clear hk;have HNX2:=h! (next_any tp own.length w1 w1HT.out (by have:=HOL.out;omega) (by have:=HOL.out;omega));go_wp2_with fail
  refine HNX2.out.mono ?_;rintro e w2 ⟨k2,rfl,hk2,htp2,hkt2⟩;have w2HT:=h! htp2;have w2HK:=h! (KT.trans w1HK.out hkt2);have w2HR:=h! (hkt2.blk w1HR.out (by have:=HLT.out;omega));have hr2:=w2HR.out.cells;have hf2:=w2HR.out.free;have hk2l:k2<own.length:=by omega
  obtain⟨bo,oo,rfl,hbo,hco⟩:=texts_at HOV.out k2 hk2l;have hco2:=(World.cell?_of_block (a:=⟨bo,oo+k2,none⟩) (w2HK.out.block bo hbo)).trans hco;have HAM:=h! (List.getElem_mem hk2l);generalize own[k2]=nm at *;clear htp2 hkt2 HNX2 hr1 hf1 hco hbo;go_wp2_with fail
  refine bodyPost_ret (results_cell_row rfl _ _ w.heap.size 106 #[.int .i64 2,.string nm,.string ⟨#[]⟩,.slice none 0 0] (0,0) _ rfl (w2HR.out.set4 _ _ _ _) Tryz.underlying106 rfl (by kernel_rfl)) rfl ?_;exact⟨.mk 2 nm ⟨#[]⟩ [],.slice none 0 0,rfl,GoodR.leaf (.inr (.inl ⟨nm,HAM.out,rfl⟩)) _,by have:=HNT.out;have:=(show LeafR own (.mk 2 nm ⟨#[]⟩ [])from .inr (.inl ⟨nm,HAM.out,rfl⟩)).k;omega,RTAt.leaf' _ _ rfl,w2HT.out.set4 w2HR.out.lt (by have:=HLT.out;omega) _ _ _ _,w2HK.out.set4 (fun h=>Nat.lt_irrefl _ h.1) _ _ _ _⟩
 ·clear hk;have HNX2:=h! (fun W (h:Tp W tp)=>next_any tp own.length W h (by have:=HOL.out;omega) (by have:=HOL.out;omega));go_wp2_with fail
  obtain⟨wd,hwd⟩:∃ wd,wd=w1.drew:=⟨_,rfl⟩;have hE:Ext w1 wd:=by rw[hwd];exact Ext.drew w1
  have wdHT:=h! (w1HT.out.ext hE);have wdHK:=h! (KT.trans w1HK.out (KT.of hE));have wdHR:=h! (w1HR.out.below hE);refine region_walkL 13 (Kept (fun b=>b<wd.heap.size/\b≠tp) wd) (by rw[<- hwd];exact Kept.refl _ _) (by kernel_rfl) (by kernel_rfl) (fun _ _ d _ _ h=>by cases d <;> exact h) ?_;rw[<- hwd];clear hwd hE hr1 hf1;(refine WalkL.tk [0,1,2,3,8] ?_;(iterate 5 (refine l! ?_));refine TkL.n ?_)
  refine oL! 4 ?_;refine b! ?_;intro K hK;go_simp;refine(HNX2.out wd wdHT.out).mono ?_;rintro e w2 ⟨k2,rfl,hk2,htp2,hkt2⟩;refine hK.out _ _ hkt2 ?_;clear hK;have hk2l:k2<own.length:=by omega
  obtain⟨bo,oo,rfl,hbo,hco⟩:=texts_at HOV.out k2 hk2l;have hcoW:∀ W,Kept (fun b=>b<wd.heap.size/\b≠tp) wd W->W.cell? ⟨bo,oo+k2,none⟩=some (.string own[k2]):=fun W hW=>(World.cell?_of_block (a:=⟨bo,oo+k2,none⟩) ((hW.block bo ⟨Nat.lt_of_lt_of_le hbo.1 wdHK.out.size,hbo.2⟩).trans (wdHK.out.block bo hbo))).trans hco;have HAM:=h! (List.getElem_mem hk2l);generalize own[k2]=nm at *;clear hco;(refine WalkL.tk [5,6] ?_;(iterate 2 (refine l! ?_));refine TkL.n ?_)
  refine oL! 7 ?_;refine b! ?_;intro K hK;go_simp;refine(mkRels_any w2).mono ?_;rintro e w3 ⟨rfl,hrb,hb3⟩;have hkt3:=KT.trans hkt2 (KT.of hb3);refine hK.out _ _ hkt3 ?_;have HZ2:=h! (show wd.heap.size<=w2.heap.size from hkt2.size);clear hK hkt2;refine oL! 9 ?_;refine b! ?_;intro K hK;go_simp;refine(next_any tp 2 w3 (htp2.ext hb3) (by decide) (by decide)).mono ?_;rintro e w4 ⟨k4,rfl,hk4,htp4,hkt4⟩;have hk24:=KT.trans hkt3 hkt4;refine hK.out _ _ hk24 ?_;clear hK hkt3;have HRB4:=h! (hkt4.blk hrb (by have:=htp2.lt;omega));have w4HT:=h! htp4;have w4HK:=h! (KT.trans wdHK.out hk24);have w4HR:=h! (hk24.blk wdHR.out (by have:=HLT.out;omega));have HZ4:=h! (show w2.heap.size<w4.heap.size from HRB4.out.lt)
  obtain⟨nm2,hn2,hcl4⟩:∃ nm2:ByteArray,nm2∈relNs.take 2/\w4.cell? ⟨w2.heap.size,k4,none⟩=some (.string nm2):=by
   obtain rfl | rfl:k4=0\/k4=1:=by omega
   ·exact⟨nmV,by simp[relNs],by rw[HRB4.out.cells];rfl⟩
   ·exact⟨nmO,by simp[relNs],by rw[HRB4.out.cells];rfl⟩
  have HN2:=h! hn2;have w4r:=w4HR.out.cells;have w4f:=w4HR.out.free;have h04:(0:Int)<=(k4:Int):=by omega
  have h44:(k4:Int)<4:=by omega
  clear hn2 htp4 hkt4 htp2 hrb hb3 hk4 hk2 HNX2;((refine WalkL.take 10 _ ?_ (by simp only[gA,gS,gZ];rfl) (by kernel_rfl) (by kernel_rfl) (by kernel_rfl) (by rfl) (fun W hW=>?_) ?_;rotate_left;· (go_simp;try with_reducible rfl));simp only[Act.put,pA,pZ,pS])
  refine oL! 11 ?_;refine b! ?_;intro K hK;go_simp;refine hK.out _ _ hk24 ?_;clear hK;((refine WalkL.take 12 _ ?_ (by simp only[gA,gS,gZ];rfl) (by kernel_rfl) (by kernel_rfl) (by kernel_rfl) (by rfl) (fun W hW=>?_) ?_;rotate_left;· (go_simp;try with_reducible rfl));simp only[Act.put,pA,pZ,pS])
  refine WalkL.last (by kernel_rfl) (by kernel_rfl) ?_;refine b! ?_;intro K hK;go_simp;refine hK.out _ _ ?_;clear hK hcl4 hk24 hcoW;go_wp2_with fail
  refine bodyPost_ret (results_cell_row rfl _ _ w.heap.size 106 #[.int .i64 3,.string nm,.string nm2,.slice none 0 0] (0,0) _ rfl (w4HR.out.set4 _ _ _ _) Tryz.underlying106 rfl (by kernel_rfl)) rfl ?_;exact⟨.mk 3 nm nm2 [],.slice none 0 0,rfl,GoodR.leaf (.inr (.inr ⟨nm,HAM.out,nm2,HN2.out,rfl⟩)) _,by have:=HNT.out;have:=(show LeafR own (.mk 3 nm nm2 [])from .inr (.inr ⟨nm,HAM.out,nm2,HN2.out,rfl⟩)).k;omega,RTAt.leaf' _ _ rfl,w4HT.out.set4 w4HR.out.lt (by have:=HLT.out;omega) _ _ _ _,w4HK.out.set4 (fun h=>Nat.lt_irrefl _ h.1) _ _ _ _⟩
 ·clear hk;have HNX2:=h! (fun W (h:Tp W tp)=>next_any tp own.length W h (by have:=HOL.out;omega) (by have:=HOL.out;omega));go_wp2_with fail
  obtain⟨wd,hwd⟩:∃ wd,wd=w1.drew:=⟨_,rfl⟩;have hE:Ext w1 wd:=by rw[hwd];exact Ext.drew w1
  have wdHT:=h! (w1HT.out.ext hE);have wdHK:=h! (KT.trans w1HK.out (KT.of hE));have wdHR:=h! (w1HR.out.below hE);refine region_walkL 13 (Kept (fun b=>b<wd.heap.size/\b≠tp) wd) (by rw[<- hwd];exact Kept.refl _ _) (by kernel_rfl) (by kernel_rfl) (fun _ _ d _ _ h=>by cases d <;> exact h) ?_;rw[<- hwd];clear hwd hE hr1 hf1;(refine WalkL.tk [0,1,2,3,8] ?_;(iterate 5 (refine l! ?_));refine TkL.n ?_)
  refine oL! 4 ?_;refine b! ?_;intro K hK;go_simp;refine(HNX2.out wd wdHT.out).mono ?_;rintro e w2 ⟨k2,rfl,hk2,htp2,hkt2⟩;refine hK.out _ _ hkt2 ?_;clear hK;have hk2l:k2<own.length:=by omega
  obtain⟨bo,oo,rfl,hbo,hco⟩:=texts_at HOV.out k2 hk2l;have hcoW:∀ W,Kept (fun b=>b<wd.heap.size/\b≠tp) wd W->W.cell? ⟨bo,oo+k2,none⟩=some (.string own[k2]):=fun W hW=>(World.cell?_of_block (a:=⟨bo,oo+k2,none⟩) ((hW.block bo ⟨Nat.lt_of_lt_of_le hbo.1 wdHK.out.size,hbo.2⟩).trans (wdHK.out.block bo hbo))).trans hco;have HAM:=h! (List.getElem_mem hk2l);generalize own[k2]=nm at *;clear hco;(refine WalkL.tk [5,6] ?_;(iterate 2 (refine l! ?_));refine TkL.n ?_)
  refine oL! 7 ?_;refine b! ?_;intro K hK;go_simp;refine(mkRels_any w2).mono ?_;rintro e w3 ⟨rfl,hrb,hb3⟩;have hkt3:=KT.trans hkt2 (KT.of hb3);refine hK.out _ _ hkt3 ?_;have HZ2:=h! (show wd.heap.size<=w2.heap.size from hkt2.size);clear hK hkt2;refine oL! 9 ?_;refine b! ?_;intro K hK;go_simp;refine(next_any tp 2 w3 (htp2.ext hb3) (by decide) (by decide)).mono ?_;rintro e w4 ⟨k4,rfl,hk4,htp4,hkt4⟩;have hk24:=KT.trans hkt3 hkt4;refine hK.out _ _ hk24 ?_;clear hK hkt3;have HRB4:=h! (hkt4.blk hrb (by have:=htp2.lt;omega));have w4HT:=h! htp4;have w4HK:=h! (KT.trans wdHK.out hk24);have w4HR:=h! (hk24.blk wdHR.out (by have:=HLT.out;omega));have HZ4:=h! (show w2.heap.size<w4.heap.size from HRB4.out.lt)
  obtain⟨nm2,hn2,hcl4⟩:∃ nm2:ByteArray,nm2∈relNs.take 2/\w4.cell? ⟨w2.heap.size,k4,none⟩=some (.string nm2):=by
   obtain rfl | rfl:k4=0\/k4=1:=by omega
   ·exact⟨nmV,by simp[relNs],by rw[HRB4.out.cells];rfl⟩
   ·exact⟨nmO,by simp[relNs],by rw[HRB4.out.cells];rfl⟩
  have HN2:=h! hn2;have w4r:=w4HR.out.cells;have w4f:=w4HR.out.free;have h04:(0:Int)<=(k4:Int):=by omega
  have h44:(k4:Int)<4:=by omega
  clear hn2 htp4 hkt4 htp2 hrb hb3 hk4 hk2 HNX2;((refine WalkL.take 10 _ ?_ (by simp only[gA,gS,gZ];rfl) (by kernel_rfl) (by kernel_rfl) (by kernel_rfl) (by rfl) (fun W hW=>?_) ?_;rotate_left;· (go_simp;try with_reducible rfl));simp only[Act.put,pA,pZ,pS])
  refine oL! 11 ?_;refine b! ?_;intro K hK;go_simp;refine hK.out _ _ hk24 ?_;clear hK;((refine WalkL.take 12 _ ?_ (by simp only[gA,gS,gZ];rfl) (by kernel_rfl) (by kernel_rfl) (by kernel_rfl) (by rfl) (fun W hW=>?_) ?_;rotate_left;· (go_simp;try with_reducible rfl));simp only[Act.put,pA,pZ,pS])
  refine WalkL.last (by kernel_rfl) (by kernel_rfl) ?_;refine b! ?_;intro K hK;go_simp;refine hK.out _ _ ?_;clear hK hcl4 hk24 hcoW;go_wp2_with fail
  refine bodyPost_ret (results_cell_row rfl _ _ w.heap.size 106 #[.int .i64 3,.string nm,.string nm2,.slice none 0 0] (0,0) _ rfl (w4HR.out.set4 _ _ _ _) Tryz.underlying106 rfl (by kernel_rfl)) rfl ?_;exact⟨.mk 3 nm nm2 [],.slice none 0 0,rfl,GoodR.leaf (.inr (.inr ⟨nm,HAM.out,nm2,HN2.out,rfl⟩)) _,by have:=HNT.out;have:=(show LeafR own (.mk 3 nm nm2 [])from .inr (.inr ⟨nm,HAM.out,nm2,HN2.out,rfl⟩)).k;omega,RTAt.leaf' _ _ rfl,w4HT.out.set4 w4HR.out.lt (by have:=HLT.out;omega) _ _ _ _,w4HK.out.set4 (fun h=>Nat.lt_irrefl _ h.1) _ _ _ _⟩
 ·cases d with
  | zero =>
   obtain rfl | rfl:k=6\/k=7:=by omega
   ·clear hk h6;go_wp2_with fail
    refine bodyPost_ret (results_cell_row rfl _ _ w.heap.size 106 #[.int .i64 1,.string ⟨#[]⟩,.string ⟨#[]⟩,.slice none 0 0] (0,0) _ rfl (w1HR.out.set4 _ _ _ _) Tryz.underlying106 rfl (by kernel_rfl)) rfl ?_;exact⟨.mk 1 ⟨#[]⟩ ⟨#[]⟩ [],.slice none 0 0,rfl,GoodR.leaf (.inl rfl) _,by have:=HNT.out;have:=(show LeafR own (.mk 1 ⟨#[]⟩ ⟨#[]⟩ [])from .inl rfl).k;omega,RTAt.leaf' _ _ rfl,w1HT.out.set4 w1HR.out.lt (by have:=HLT.out;omega) _ _ _ _,w1HK.out.set4 (fun h=>Nat.lt_irrefl _ h.1) _ _ _ _⟩
   ·clear hk h6;go_wp2_with fail
    refine bodyPost_ret (results_cell_row rfl _ _ w.heap.size 106 #[.int .i64 1,.string ⟨#[]⟩,.string ⟨#[]⟩,.slice none 0 0] (0,0) _ rfl (w1HR.out.set4 _ _ _ _) Tryz.underlying106 rfl (by kernel_rfl)) rfl ?_;exact⟨.mk 1 ⟨#[]⟩ ⟨#[]⟩ [],.slice none 0 0,rfl,GoodR.leaf (.inl rfl) _,by have:=HNT.out;have:=(show LeafR own (.mk 1 ⟨#[]⟩ ⟨#[]⟩ [])from .inl rfl).k;omega,RTAt.leaf' _ _ rfl,w1HT.out.set4 w1HR.out.lt (by have:=HLT.out;omega) _ _ _ _,w1HK.out.set4 (fun h=>Nat.lt_irrefl _ h.1) _ _ _ _⟩
  | succ d =>
   have HIH:=h! (ih d (Nat.lt_succ_self d));clear ih;have hd0:(0:Int)<((d+1:Nat):Int):=by omega
   obtain rfl | rfl:k=6\/k=7:=by omega
   ·clear hk h6;by_cases hq:nt=4
    ·subst hq;go_wp2_with fail
     clear hr1 hf1;obtain⟨wa,hwa⟩:∃ x,x=w1.alloc (.cells #[.int .i64 4,.int .i64 5] 3):=⟨_,rfl⟩;obtain⟨wb,hwb⟩:∃ x,x=wa.alloc (.cells #[.int .i64 5,.string ⟨#[]⟩,.string ⟨#[]⟩,.slice none 0 0] 106):=⟨_,rfl⟩;have ea:wa.heap.size=w1.heap.size+1:=by rw[hwa];simp
     have xa:Ext w1 wa:=by rw[hwa];exact Ext.alloc _ _
     have xb:Ext wa wb:=by rw[hwb];exact Ext.alloc _ _
     have HRP:=h! (show Blk wb (w1.heap.size+1) #[.int .i64 5,.string ⟨#[]⟩,.string ⟨#[]⟩,.slice none 0 0] 106 from by rw[hwb,<- ea];exact Blk.made _ _ _);have wbHT:=h! (w1HT.out.ext (xa.trans xb));have wbHK:=h! (KT.trans w1HK.out (KT.of (xa.trans xb)));have wbHR:=h! (w1HR.out.below (xa.trans xb));have HNX2:=h! (next_any tp 2 wb wbHT.out (by decide) (by decide));rw[<- ea]at HRP;generalize wa.heap.size=rp at *;rw[<- ea];have wbHL:=h! (show w.heap.size<rp/\tp<w.heap.size from⟨by have:=HZ1.out;omega,HLT.out⟩);have wbHM:=h! (show MkI own d 5 rp wb [] (.slice none 0 0)from⟨HRP.out,Own.nil _ _ _ _,by simp,by simp⟩);subst hwb hwa;clear ea xa xb HRP w1HT w1HK w1HR HZ1;refine HNX2.out.mono ?_;clear HNX2;rintro e w2 ⟨k3,rfl,hk3,htp2,hkt2⟩;have w2HM:=h! (wbHM.out.keep hkt2 (by have:=wbHL.out;omega));have w2HR:=h! (hkt2.blk wbHR.out (by have:=wbHL.out;omega));have w2HK:=h! (KT.trans wbHK.out hkt2);have w2HT:=h! htp2;clear wbHM wbHR wbHK wbHT htp2 hkt2;have hw3:IntKind.i64.wrap (2+(k3:Int))=((2+k3:Nat):Int):=by rw[IntWalk.i64_in _ (by omega)];omega
     have hw3':wrap64 (2+(k3:Int))=((2+k3:Nat):Int):=by rw[wrap_in _ (by omega) (by omega)];omega
     go_wp2_with fail
     clear hw3 hw3';generalize hN:2+k3=N at *;have HN:=h! (show N=2\/N=3 from by omega);have HNE:=h! hN;clear hN hk3 hd0;go_loopw [12] (fun iv wr=>∃ (n:Nat) (q:List (RT × Value)) (pv:Value),iv = .int .i64 n/\q.length+n=N/\MkI own d 5 rp wr q pv/\Blk wr w.heap.size #[.int .i64 0,.string ⟨#[]⟩,.string ⟨#[]⟩,.slice none 0 0] 106/\Tp wr tp/\KT tp w wr) (fun iv _=>(intOf iv).toNat)
     case atStart=>exact⟨N,[],_,by rw[<- HNE.out];simp,by simp,w2HM.out,w2HR.out,w2HT.out,w2HK.out⟩
     case round =>
      obtain⟨n,q,pv,rfl,hqn,hm,hrb,htp,hkt⟩:=hrel;have HQN:=h! hqn;have wrHM:=h! hm;have wrHR:=h! hrb;have wrHT:=h! htp;have wrHK:=h! hkt;clear hqn w2HM w2HR w2HT w2HK;by_cases hn:n=0
      ·subst hn;obtain⟨aov,kv,cv,rfl,-,-,-⟩:=hm.row.sl.len;have hp1:=hm.box.cells;have hb1:=hrb.cells;have hbf:=hrb.free;clear hm hrb htp hkt;go_wp2_with fail
       clear hp1 hb1 hbf;refine bodyPost_ret (results_cell_row rfl _ _ w.heap.size 106 #[.int .i64 5,.string ⟨#[]⟩,.string ⟨#[]⟩,.slice aov kv cv] (0,0) _ rfl (wrHR.out.set4 _ _ _ _) Tryz.underlying106 rfl (by kernel_rfl)) rfl ?_;have hks:Kept (fun b=>b≠w.heap.size) wr _:=(Kept.refl _ wr).set4 (B:=w.heap.size) (fun h=>h rfl) (.int .i64 5) (.string ⟨#[]⟩) (.string ⟨#[]⟩) (.slice aov kv cv);refine⟨.mk 5 ⟨#[]⟩ ⟨#[]⟩ (q.map (·.1)),.slice aov kv cv,rfl,.inr ⟨5,q.map (·.1),rfl,by decide,by have:=HQN.out;have:=HN.out;rw[List.length_map];omega,fun p hp=>?_⟩,(by show(5:Int)≠4;decide),(RTAt.iff _ _).2 ⟨q,rfl,fun x hx=>?_,?_⟩,wrHT.out.set4 wrHR.out.lt (by have:=wbHL.out;omega) _ _ _ _,wrHK.out.set4 (fun h=>Nat.lt_irrefl _ h.1) _ _ _ _⟩
       ·obtain⟨x,hx,rfl⟩:=List.mem_map.1 hp;exact wrHM.out.good x hx
       ·exact((wrHM.out.parts x hx).same fun b hb=>hks.block b (by have:=hb.1.1;have:=wbHL.out;show b≠w.heap.size;omega)).mono fun b hb=>⟨by have:=hb.1.1;have:=wbHL.out;omega,Nat.lt_of_lt_of_le hb.1.2 hks.size⟩
       ·exact(wrHM.out.row.sl.same fun b hb=>hks.block b (by have:=hb.1;have:=wbHL.out;show b≠w.heap.size;omega)).mono fun b hb=>⟨by have:=hb.1;have:=wbHL.out;omega,Nat.lt_of_lt_of_le hb.2 hks.size⟩
      ·have HNN:=h! hn;have hgt:(0:Int)<(n:Int):=by omega
       have HPO:=h! (fun g (e:pv.ownBlock=some g)=>hm.row.block g e);obtain⟨aov,kv,cv,rfl,-,-,-⟩:=hm.row.sl.len;have hp1:=hm.box.cells 3;clear hm hrb htp hkt hn;go_wp2_with fail
       obtain⟨wd,hwd⟩:∃ wd,wd=wr.drew:=⟨_,rfl⟩;have hE:Ext wr wd:=by rw[hwd];exact Ext.drew wr
       have wdHT:=h! (wrHT.out.ext hE);have wdHK:=h! (KT.trans wrHK.out (KT.of hE));have wdHR:=h! (wrHR.out.below hE);have wdHM:=h! (wrHM.out.keep (KT.of (tp:=tp) hE) (by have:=wbHL.out;omega));have wdHZ:=h! (show rp<wd.heap.size/\wr.heap.size<=wd.heap.size from⟨wdHM.out.box.lt,hE.size⟩)
       have hA:∀ W,Kept (fun b=>b<wd.heap.size/\b≠tp/\Value.ownBlock (.slice aov kv cv)≠some b) wd W->W.cell? ⟨rp,3,none⟩=some (.slice aov kv cv):=fun W hW =>
        (World.cell?_of_block (a:=⟨rp,3,none⟩) (hW.block rp ⟨wdHZ.out.1,by have:=wbHL.out;omega,fun e=>by have:=(HPO.out rp e).1;omega⟩)).trans (wdHM.out.box.cells 3)
       have hdw:IntKind.i64.wrap ((d:Int)+1-1)=(d:Int):=by rw[Int.add_sub_cancel];exact IntWalk.i64_in _ (by have:=HD.out;omega)
       have hdw':IntKind.i64.wrap (d:Int)=(d:Int):=IntWalk.i64_in _ (by have:=HD.out;omega);have HCALL:=h! (HIH.out 5 tp (.slice ao own.length c) wd wdHT.out ((HOV.out.same fun b hb=>wdHK.out.block b hb).mono fun b hb=>⟨Nat.lt_of_lt_of_le hb.1 wdHK.out.size,hb.2⟩) (by have:=HD.out;omega) (by decide));refine region_walkL 11 (Kept (fun b=>b<wd.heap.size/\b≠tp/\Value.ownBlock (.slice aov kv cv)≠some b) wd) (by rw[<- hwd];exact Kept.refl _ _) (by kernel_rfl) (by kernel_rfl) (fun _ _ d _ _ h=>by cases d <;> exact h) ?_;rw[<- hwd];clear hwd hE hp1;(refine WalkL.tk [0,1,2,3,4,5,6] ?_;(iterate 7 (refine l! ?_));refine TkL.n ?_)
       refine oL! 7 ?_;refine b! ?_;intro K hK;go_simp;refine HCALL.out.mono ?_;rintro e w5 ⟨r5,v5,rfl,hg5,hk5,hat5,htp5,hkt5⟩;have hkc5:Kept (fun b=>b<wd.heap.size/\b≠tp/\Value.ownBlock (.slice aov kv cv)≠some b) wd w5:=Kept.mono hkt5 fun b hb=>⟨hb.1,hb.2.1⟩;refine hK.out _ _ hkc5 ?_;obtain⟨ao5,c5,rfl,-,-,-⟩:=hat5.rows;have w5HM:=h! (wdHM.out.keep hkt5 (by have:=wbHL.out;omega));have w5HT:=h! htp5;have w5HK:=h! (KT.trans wdHK.out hkt5);have w5HR:=h! (hkt5.blk wdHR.out (by have:=wbHL.out;omega));have H5:=h! (And.intro hg5 (And.intro hk5 hat5));have H5S:=h! hkt5.size;clear hK hg5 hk5 hat5 htp5 hkt5 HCALL;unfold rV;refine oL! 8 ?_;refine b! ?_;intro K hK;go_simp;have x56:=Ext.alloc w5 (.cells #[.int .i64 r5.k,.string r5.a,.string r5.b,.slice ao5 r5.ps.length c5] 106);have hkc6:=hkc5.trans (Kept.mono (KT.of (tp:=tp) x56) fun b (hb:b<wd.heap.size/\b≠tp/\_)=>⟨Nat.lt_of_lt_of_le hb.1 hkc5.size,hb.2.1⟩);refine hK.out _ _ hkc6 ?_;clear hK;refine oL! 9 ?_;refine b! ?_;intro K hK;refine wp_ownw ruleT (.tmp 41) (.tmp 48) rfl rfl (w5HM.out.row.below x56) rfl (m:=1) (news:=[.int .i64 r5.k,.string r5.a,.string r5.b,.slice ao5 r5.ps.length c5]) rfl (fun j u hu=>?_) (by simp[Value.oneCell']) (by have:=HQN.out;have:=HN.out;rw[flat_length rC_length];simp;omega) (by have:=HQN.out;have:=HN.out;rw[flat_length rC_length];simp;omega) (by have:=wdHZ.out;have:=H5S.out;simp;omega) (fun v7 w7 hown7 hb7 hgr7=>?_)
       ·rw[Addr.add_lit,cell_of_row _ w5.heap.size (0+j) #[.int .i64 r5.k,.string r5.a,.string r5.b,.slice ao5 r5.ps.length c5] 106 (0,0) (heap_alloc_new w5 _)];simpa using hu
       have hk57:∀ b,b<w5.heap.size->Value.ownBlock (.slice aov kv cv)≠some b->w7.heap[b]?=w5.heap[b]?:=fun b h1 h2=>(hgr7.block b (by simp;omega) (fun e=>h2 e.symm)).trans (x56.block b h1);have hz57:w5.heap.size<=w7.heap.size:=Nat.le_trans x56.size hgr7.size;have hb57:∀ g,v7.ownBlock=some g->Value.ownBlock (.slice aov kv cv)=some g\/w5.heap.size<=g:=fun g hg=>(hb7 g hg).imp id (fun h=>by simp at h;omega);have hk57':Kept (fun b=>b<w5.heap.size/\Value.ownBlock (.slice aov kv cv)≠some b) w5 w7:=⟨hgr7.os.trans x56.os,hgr7.tape.trans x56.tape,hgr7.output.trans x56.output,hz57,fun b hb=>hk57 b hb.1 hb.2⟩;have hkc7:=hkc5.trans (hk57'.mono fun b (hb:b<wd.heap.size/\b≠tp/\_)=>⟨Nat.lt_of_lt_of_le hb.1 hkc5.size,hb.2.2⟩);refine hK.out _ _ hkc7 ?_;clear hK hA;simp only[Act.put,pA,pZ,pS];have HADD:=h! (w5HM.out.add (n0:=wd.heap.size) (r:=r5) (v5 := .slice ao5 r5.ps.length c5) hk57 hz57 hown7 hb57 H5.out.2.2 wdHZ.out.1 (fun g hg=>Nat.lt_of_lt_of_le (HPO.out g hg).2 wdHZ.out.2) ⟨H5.out.1,H5.out.2.1⟩);have HLOW:=h! (show Kept (fun b=>b<rp) w5 (w7.setCell ⟨rp,3,none⟩ v7)from(hk57'.mono fun b (hb:b<rp)=>⟨by have:=wdHZ.out;have:=H5S.out;omega,fun e=>by have:=(HPO.out b e).1;omega⟩).set (fun h=>Nat.lt_irrefl _ h) _);have hrp7:Blk w7 rp #[.int .i64 5,.string ⟨#[]⟩,.string ⟨#[]⟩,.slice aov kv cv] 106:=(hk57 rp (by have:=wdHZ.out;have:=H5S.out;omega) (fun e=>by have:=(HPO.out rp e).1;omega)).trans w5HM.out.box;obtain⟨ao7,k7,c7,rfl,-,-,-⟩:=hown7.sl.len;have f7:=hrp7.free;have g7:=hrp7.cells 3;have hdn:IntKind.i64.wrap ((n:Int)-1)=((n-1:Nat):Int):=by rw[IntWalk.i64_in _ (by have:=HQN.out;have:=HN.out;omega)];omega
       have hdn':wrap64 ((n:Int)-1)=((n-1:Nat):Int):=by rw[wrap_in _ (by omega) (by have:=HQN.out;have:=HN.out;omega)];omega
       clear hkc5 hkc6 hk57 hz57 hb57 hk57' hown7 hb7 hgr7 hrp7 x56;((refine WalkL.take 10 _ ?_ (by simp only[gA,gS,gZ];rfl) (by kernel_rfl) (by kernel_rfl) (by kernel_rfl) (by rfl) (fun W hW=>?_) ?_;rotate_left;· (go_simp;try with_reducible rfl));simp only[Act.put,pA,pZ,pS])
       refine WalkL.last (by kernel_rfl) (by kernel_rfl) ?_;refine b! ?_;intro K hK;go_simp;refine hK.out _ _ ?_;clear hK hkc7 f7 g7;generalize w7.setCell ⟨rp,3,none⟩ (.slice ao7 k7 c7)=w8 at *;go_wp2_with fail
       go_roundw
       case rel=>exact⟨n-1,_,_,rfl,by have:=HQN.out;have:=HNN.out;rw[List.length_append];simp only[List.length_cons,List.length_nil];omega,HADD.out,HLOW.out.blk w5HR.out (by have:=wbHL.out;show w.heap.size<rp;omega),w5HT.out.kept HLOW.out (fun b hb=>by have:=wbHL.out;show b<rp;omega),Kept.trans w5HK.out (HLOW.out.mono fun b (hb:b<w.heap.size/\b≠tp)=>by have:=wbHL.out;have:=hb.1;show b<rp;omega)⟩
       case measure=>have:=HNN.out;simp[intOf];omega
    ·have hq1:((4:Int) == nt)=false:=by rw[beq_eq_false_iff_ne];omega
     have HQ:=h! hq;clear hq;go_wp2_with fail
     clear hr1 hf1;obtain⟨wa,hwa⟩:∃ x,x=w1.alloc (.cells #[.int .i64 4,.int .i64 5] 3):=⟨_,rfl⟩;obtain⟨wb,hwb⟩:∃ x,x=wa.alloc (.cells #[.int .i64 4,.string ⟨#[]⟩,.string ⟨#[]⟩,.slice none 0 0] 106):=⟨_,rfl⟩;have ea:wa.heap.size=w1.heap.size+1:=by rw[hwa];simp
     have xa:Ext w1 wa:=by rw[hwa];exact Ext.alloc _ _
     have xb:Ext wa wb:=by rw[hwb];exact Ext.alloc _ _
     have HRP:=h! (show Blk wb (w1.heap.size+1) #[.int .i64 4,.string ⟨#[]⟩,.string ⟨#[]⟩,.slice none 0 0] 106 from by rw[hwb,<- ea];exact Blk.made _ _ _);have wbHT:=h! (w1HT.out.ext (xa.trans xb));have wbHK:=h! (KT.trans w1HK.out (KT.of (xa.trans xb)));have wbHR:=h! (w1HR.out.below (xa.trans xb));have HNX2:=h! (next_any tp 2 wb wbHT.out (by decide) (by decide));rw[<- ea]at HRP;generalize wa.heap.size=rp at *;rw[<- ea];have wbHL:=h! (show w.heap.size<rp/\tp<w.heap.size from⟨by have:=HZ1.out;omega,HLT.out⟩);have wbHM:=h! (show MkI own d 4 rp wb [] (.slice none 0 0)from⟨HRP.out,Own.nil _ _ _ _,by simp,by simp⟩);subst hwb hwa;clear ea xa xb HRP w1HT w1HK w1HR HZ1;refine HNX2.out.mono ?_;clear HNX2;rintro e w2 ⟨k3,rfl,hk3,htp2,hkt2⟩;have w2HM:=h! (wbHM.out.keep hkt2 (by have:=wbHL.out;omega));have w2HR:=h! (hkt2.blk wbHR.out (by have:=wbHL.out;omega));have w2HK:=h! (KT.trans wbHK.out hkt2);have w2HT:=h! htp2;clear wbHM wbHR wbHK wbHT htp2 hkt2;have hw3:IntKind.i64.wrap (2+(k3:Int))=((2+k3:Nat):Int):=by rw[IntWalk.i64_in _ (by omega)];omega
     have hw3':wrap64 (2+(k3:Int))=((2+k3:Nat):Int):=by rw[wrap_in _ (by omega) (by omega)];omega
     go_wp2_with fail
     clear hw3 hw3';generalize hN:2+k3=N at *;have HN:=h! (show N=2\/N=3 from by omega);have HNE:=h! hN;clear hN hk3 hd0;go_loopw [12] (fun iv wr=>∃ (n:Nat) (q:List (RT × Value)) (pv:Value),iv = .int .i64 n/\q.length+n=N/\MkI own d 4 rp wr q pv/\Blk wr w.heap.size #[.int .i64 0,.string ⟨#[]⟩,.string ⟨#[]⟩,.slice none 0 0] 106/\Tp wr tp/\KT tp w wr) (fun iv _=>(intOf iv).toNat)
     case atStart=>exact⟨N,[],_,by rw[<- HNE.out];simp,by simp,w2HM.out,w2HR.out,w2HT.out,w2HK.out⟩
     case round =>
      obtain⟨n,q,pv,rfl,hqn,hm,hrb,htp,hkt⟩:=hrel;have HQN:=h! hqn;have wrHM:=h! hm;have wrHR:=h! hrb;have wrHT:=h! htp;have wrHK:=h! hkt;clear hqn w2HM w2HR w2HT w2HK;by_cases hn:n=0
      ·subst hn;obtain⟨aov,kv,cv,rfl,-,-,-⟩:=hm.row.sl.len;have hp1:=hm.box.cells;have hb1:=hrb.cells;have hbf:=hrb.free;clear hm hrb htp hkt;go_wp2_with fail
       clear hp1 hb1 hbf;refine bodyPost_ret (results_cell_row rfl _ _ w.heap.size 106 #[.int .i64 4,.string ⟨#[]⟩,.string ⟨#[]⟩,.slice aov kv cv] (0,0) _ rfl (wrHR.out.set4 _ _ _ _) Tryz.underlying106 rfl (by kernel_rfl)) rfl ?_;have hks:Kept (fun b=>b≠w.heap.size) wr _:=(Kept.refl _ wr).set4 (B:=w.heap.size) (fun h=>h rfl) (.int .i64 4) (.string ⟨#[]⟩) (.string ⟨#[]⟩) (.slice aov kv cv);refine⟨.mk 4 ⟨#[]⟩ ⟨#[]⟩ (q.map (·.1)),.slice aov kv cv,rfl,.inr ⟨4,q.map (·.1),rfl,by decide,by have:=HQN.out;have:=HN.out;rw[List.length_map];omega,fun p hp=>?_⟩,(fun e=>HQ.out e.symm),(RTAt.iff _ _).2 ⟨q,rfl,fun x hx=>?_,?_⟩,wrHT.out.set4 wrHR.out.lt (by have:=wbHL.out;omega) _ _ _ _,wrHK.out.set4 (fun h=>Nat.lt_irrefl _ h.1) _ _ _ _⟩
       ·obtain⟨x,hx,rfl⟩:=List.mem_map.1 hp;exact wrHM.out.good x hx
       ·exact((wrHM.out.parts x hx).same fun b hb=>hks.block b (by have:=hb.1.1;have:=wbHL.out;show b≠w.heap.size;omega)).mono fun b hb=>⟨by have:=hb.1.1;have:=wbHL.out;omega,Nat.lt_of_lt_of_le hb.1.2 hks.size⟩
       ·exact(wrHM.out.row.sl.same fun b hb=>hks.block b (by have:=hb.1;have:=wbHL.out;show b≠w.heap.size;omega)).mono fun b hb=>⟨by have:=hb.1;have:=wbHL.out;omega,Nat.lt_of_lt_of_le hb.2 hks.size⟩
      ·have HNN:=h! hn;have hgt:(0:Int)<(n:Int):=by omega
       have HPO:=h! (fun g (e:pv.ownBlock=some g)=>hm.row.block g e);obtain⟨aov,kv,cv,rfl,-,-,-⟩:=hm.row.sl.len;have hp1:=hm.box.cells 3;clear hm hrb htp hkt hn;go_wp2_with fail
       obtain⟨wd,hwd⟩:∃ wd,wd=wr.drew:=⟨_,rfl⟩;have hE:Ext wr wd:=by rw[hwd];exact Ext.drew wr
       have wdHT:=h! (wrHT.out.ext hE);have wdHK:=h! (KT.trans wrHK.out (KT.of hE));have wdHR:=h! (wrHR.out.below hE);have wdHM:=h! (wrHM.out.keep (KT.of (tp:=tp) hE) (by have:=wbHL.out;omega));have wdHZ:=h! (show rp<wd.heap.size/\wr.heap.size<=wd.heap.size from⟨wdHM.out.box.lt,hE.size⟩)
       have hA:∀ W,Kept (fun b=>b<wd.heap.size/\b≠tp/\Value.ownBlock (.slice aov kv cv)≠some b) wd W->W.cell? ⟨rp,3,none⟩=some (.slice aov kv cv):=fun W hW =>
        (World.cell?_of_block (a:=⟨rp,3,none⟩) (hW.block rp ⟨wdHZ.out.1,by have:=wbHL.out;omega,fun e=>by have:=(HPO.out rp e).1;omega⟩)).trans (wdHM.out.box.cells 3)
       have hdw:IntKind.i64.wrap ((d:Int)+1-1)=(d:Int):=by rw[Int.add_sub_cancel];exact IntWalk.i64_in _ (by have:=HD.out;omega)
       have hdw':IntKind.i64.wrap (d:Int)=(d:Int):=IntWalk.i64_in _ (by have:=HD.out;omega);have HCALL:=h! (HIH.out 4 tp (.slice ao own.length c) wd wdHT.out ((HOV.out.same fun b hb=>wdHK.out.block b hb).mono fun b hb=>⟨Nat.lt_of_lt_of_le hb.1 wdHK.out.size,hb.2⟩) (by have:=HD.out;omega) (by decide));refine region_walkL 11 (Kept (fun b=>b<wd.heap.size/\b≠tp/\Value.ownBlock (.slice aov kv cv)≠some b) wd) (by rw[<- hwd];exact Kept.refl _ _) (by kernel_rfl) (by kernel_rfl) (fun _ _ d _ _ h=>by cases d <;> exact h) ?_;rw[<- hwd];clear hwd hE hp1;(refine WalkL.tk [0,1,2,3,4,5,6] ?_;(iterate 7 (refine l! ?_));refine TkL.n ?_)
       refine oL! 7 ?_;refine b! ?_;intro K hK;go_simp;refine HCALL.out.mono ?_;rintro e w5 ⟨r5,v5,rfl,hg5,hk5,hat5,htp5,hkt5⟩;have hkc5:Kept (fun b=>b<wd.heap.size/\b≠tp/\Value.ownBlock (.slice aov kv cv)≠some b) wd w5:=Kept.mono hkt5 fun b hb=>⟨hb.1,hb.2.1⟩;refine hK.out _ _ hkc5 ?_;obtain⟨ao5,c5,rfl,-,-,-⟩:=hat5.rows;have w5HM:=h! (wdHM.out.keep hkt5 (by have:=wbHL.out;omega));have w5HT:=h! htp5;have w5HK:=h! (KT.trans wdHK.out hkt5);have w5HR:=h! (hkt5.blk wdHR.out (by have:=wbHL.out;omega));have H5:=h! (And.intro hg5 (And.intro hk5 hat5));have H5S:=h! hkt5.size;clear hK hg5 hk5 hat5 htp5 hkt5 HCALL;unfold rV;refine oL! 8 ?_;refine b! ?_;intro K hK;go_simp;have x56:=Ext.alloc w5 (.cells #[.int .i64 r5.k,.string r5.a,.string r5.b,.slice ao5 r5.ps.length c5] 106);have hkc6:=hkc5.trans (Kept.mono (KT.of (tp:=tp) x56) fun b (hb:b<wd.heap.size/\b≠tp/\_)=>⟨Nat.lt_of_lt_of_le hb.1 hkc5.size,hb.2.1⟩);refine hK.out _ _ hkc6 ?_;clear hK;refine oL! 9 ?_;refine b! ?_;intro K hK;refine wp_ownw ruleT (.tmp 41) (.tmp 48) rfl rfl (w5HM.out.row.below x56) rfl (m:=1) (news:=[.int .i64 r5.k,.string r5.a,.string r5.b,.slice ao5 r5.ps.length c5]) rfl (fun j u hu=>?_) (by simp[Value.oneCell']) (by have:=HQN.out;have:=HN.out;rw[flat_length rC_length];simp;omega) (by have:=HQN.out;have:=HN.out;rw[flat_length rC_length];simp;omega) (by have:=wdHZ.out;have:=H5S.out;simp;omega) (fun v7 w7 hown7 hb7 hgr7=>?_)
       ·rw[Addr.add_lit,cell_of_row _ w5.heap.size (0+j) #[.int .i64 r5.k,.string r5.a,.string r5.b,.slice ao5 r5.ps.length c5] 106 (0,0) (heap_alloc_new w5 _)];simpa using hu
       have hk57:∀ b,b<w5.heap.size->Value.ownBlock (.slice aov kv cv)≠some b->w7.heap[b]?=w5.heap[b]?:=fun b h1 h2=>(hgr7.block b (by simp;omega) (fun e=>h2 e.symm)).trans (x56.block b h1);have hz57:w5.heap.size<=w7.heap.size:=Nat.le_trans x56.size hgr7.size;have hb57:∀ g,v7.ownBlock=some g->Value.ownBlock (.slice aov kv cv)=some g\/w5.heap.size<=g:=fun g hg=>(hb7 g hg).imp id (fun h=>by simp at h;omega);have hk57':Kept (fun b=>b<w5.heap.size/\Value.ownBlock (.slice aov kv cv)≠some b) w5 w7:=⟨hgr7.os.trans x56.os,hgr7.tape.trans x56.tape,hgr7.output.trans x56.output,hz57,fun b hb=>hk57 b hb.1 hb.2⟩;have hkc7:=hkc5.trans (hk57'.mono fun b (hb:b<wd.heap.size/\b≠tp/\_)=>⟨Nat.lt_of_lt_of_le hb.1 hkc5.size,hb.2.2⟩);refine hK.out _ _ hkc7 ?_;clear hK hA;simp only[Act.put,pA,pZ,pS];have HADD:=h! (w5HM.out.add (n0:=wd.heap.size) (r:=r5) (v5 := .slice ao5 r5.ps.length c5) hk57 hz57 hown7 hb57 H5.out.2.2 wdHZ.out.1 (fun g hg=>Nat.lt_of_lt_of_le (HPO.out g hg).2 wdHZ.out.2) ⟨H5.out.1,H5.out.2.1⟩);have HLOW:=h! (show Kept (fun b=>b<rp) w5 (w7.setCell ⟨rp,3,none⟩ v7)from(hk57'.mono fun b (hb:b<rp)=>⟨by have:=wdHZ.out;have:=H5S.out;omega,fun e=>by have:=(HPO.out b e).1;omega⟩).set (fun h=>Nat.lt_irrefl _ h) _);have hrp7:Blk w7 rp #[.int .i64 4,.string ⟨#[]⟩,.string ⟨#[]⟩,.slice aov kv cv] 106:=(hk57 rp (by have:=wdHZ.out;have:=H5S.out;omega) (fun e=>by have:=(HPO.out rp e).1;omega)).trans w5HM.out.box;obtain⟨ao7,k7,c7,rfl,-,-,-⟩:=hown7.sl.len;have f7:=hrp7.free;have g7:=hrp7.cells 3;have hdn:IntKind.i64.wrap ((n:Int)-1)=((n-1:Nat):Int):=by rw[IntWalk.i64_in _ (by have:=HQN.out;have:=HN.out;omega)];omega
       have hdn':wrap64 ((n:Int)-1)=((n-1:Nat):Int):=by rw[wrap_in _ (by omega) (by have:=HQN.out;have:=HN.out;omega)];omega
       clear hkc5 hkc6 hk57 hz57 hb57 hk57' hown7 hb7 hgr7 hrp7 x56;((refine WalkL.take 10 _ ?_ (by simp only[gA,gS,gZ];rfl) (by kernel_rfl) (by kernel_rfl) (by kernel_rfl) (by rfl) (fun W hW=>?_) ?_;rotate_left;· (go_simp;try with_reducible rfl));simp only[Act.put,pA,pZ,pS])
       refine WalkL.last (by kernel_rfl) (by kernel_rfl) ?_;refine b! ?_;intro K hK;go_simp;refine hK.out _ _ ?_;clear hK hkc7 f7 g7;generalize w7.setCell ⟨rp,3,none⟩ (.slice ao7 k7 c7)=w8 at *;go_wp2_with fail
       go_roundw
       case rel=>exact⟨n-1,_,_,rfl,by have:=HQN.out;have:=HNN.out;rw[List.length_append];simp only[List.length_cons,List.length_nil];omega,HADD.out,HLOW.out.blk w5HR.out (by have:=wbHL.out;show w.heap.size<rp;omega),w5HT.out.kept HLOW.out (fun b hb=>by have:=wbHL.out;show b<rp;omega),Kept.trans w5HK.out (HLOW.out.mono fun b (hb:b<w.heap.size/\b≠tp)=>by have:=wbHL.out;have:=hb.1;show b<rp;omega)⟩
       case measure=>have:=HNN.out;simp[intOf];omega
   ·clear hk h6;by_cases hq:nt=5
    ·subst hq;go_wp2_with fail
     clear hr1 hf1;obtain⟨wa,hwa⟩:∃ x,x=w1.alloc (.cells #[.int .i64 4,.int .i64 5] 3):=⟨_,rfl⟩;obtain⟨wb,hwb⟩:∃ x,x=wa.alloc (.cells #[.int .i64 4,.string ⟨#[]⟩,.string ⟨#[]⟩,.slice none 0 0] 106):=⟨_,rfl⟩;have ea:wa.heap.size=w1.heap.size+1:=by rw[hwa];simp
     have xa:Ext w1 wa:=by rw[hwa];exact Ext.alloc _ _
     have xb:Ext wa wb:=by rw[hwb];exact Ext.alloc _ _
     have HRP:=h! (show Blk wb (w1.heap.size+1) #[.int .i64 4,.string ⟨#[]⟩,.string ⟨#[]⟩,.slice none 0 0] 106 from by rw[hwb,<- ea];exact Blk.made _ _ _);have wbHT:=h! (w1HT.out.ext (xa.trans xb));have wbHK:=h! (KT.trans w1HK.out (KT.of (xa.trans xb)));have wbHR:=h! (w1HR.out.below (xa.trans xb));have HNX2:=h! (next_any tp 2 wb wbHT.out (by decide) (by decide));rw[<- ea]at HRP;generalize wa.heap.size=rp at *;rw[<- ea];have wbHL:=h! (show w.heap.size<rp/\tp<w.heap.size from⟨by have:=HZ1.out;omega,HLT.out⟩);have wbHM:=h! (show MkI own d 4 rp wb [] (.slice none 0 0)from⟨HRP.out,Own.nil _ _ _ _,by simp,by simp⟩);subst hwb hwa;clear ea xa xb HRP w1HT w1HK w1HR HZ1;refine HNX2.out.mono ?_;clear HNX2;rintro e w2 ⟨k3,rfl,hk3,htp2,hkt2⟩;have w2HM:=h! (wbHM.out.keep hkt2 (by have:=wbHL.out;omega));have w2HR:=h! (hkt2.blk wbHR.out (by have:=wbHL.out;omega));have w2HK:=h! (KT.trans wbHK.out hkt2);have w2HT:=h! htp2;clear wbHM wbHR wbHK wbHT htp2 hkt2;have hw3:IntKind.i64.wrap (2+(k3:Int))=((2+k3:Nat):Int):=by rw[IntWalk.i64_in _ (by omega)];omega
     have hw3':wrap64 (2+(k3:Int))=((2+k3:Nat):Int):=by rw[wrap_in _ (by omega) (by omega)];omega
     go_wp2_with fail
     clear hw3 hw3';generalize hN:2+k3=N at *;have HN:=h! (show N=2\/N=3 from by omega);have HNE:=h! hN;clear hN hk3 hd0;go_loopw [12] (fun iv wr=>∃ (n:Nat) (q:List (RT × Value)) (pv:Value),iv = .int .i64 n/\q.length+n=N/\MkI own d 4 rp wr q pv/\Blk wr w.heap.size #[.int .i64 0,.string ⟨#[]⟩,.string ⟨#[]⟩,.slice none 0 0] 106/\Tp wr tp/\KT tp w wr) (fun iv _=>(intOf iv).toNat)
     case atStart=>exact⟨N,[],_,by rw[<- HNE.out];simp,by simp,w2HM.out,w2HR.out,w2HT.out,w2HK.out⟩
     case round =>
      obtain⟨n,q,pv,rfl,hqn,hm,hrb,htp,hkt⟩:=hrel;have HQN:=h! hqn;have wrHM:=h! hm;have wrHR:=h! hrb;have wrHT:=h! htp;have wrHK:=h! hkt;clear hqn w2HM w2HR w2HT w2HK;by_cases hn:n=0
      ·subst hn;obtain⟨aov,kv,cv,rfl,-,-,-⟩:=hm.row.sl.len;have hp1:=hm.box.cells;have hb1:=hrb.cells;have hbf:=hrb.free;clear hm hrb htp hkt;go_wp2_with fail
       clear hp1 hb1 hbf;refine bodyPost_ret (results_cell_row rfl _ _ w.heap.size 106 #[.int .i64 4,.string ⟨#[]⟩,.string ⟨#[]⟩,.slice aov kv cv] (0,0) _ rfl (wrHR.out.set4 _ _ _ _) Tryz.underlying106 rfl (by kernel_rfl)) rfl ?_;have hks:Kept (fun b=>b≠w.heap.size) wr _:=(Kept.refl _ wr).set4 (B:=w.heap.size) (fun h=>h rfl) (.int .i64 4) (.string ⟨#[]⟩) (.string ⟨#[]⟩) (.slice aov kv cv);refine⟨.mk 4 ⟨#[]⟩ ⟨#[]⟩ (q.map (·.1)),.slice aov kv cv,rfl,.inr ⟨4,q.map (·.1),rfl,by decide,by have:=HQN.out;have:=HN.out;rw[List.length_map];omega,fun p hp=>?_⟩,(by show(4:Int)≠5;decide),(RTAt.iff _ _).2 ⟨q,rfl,fun x hx=>?_,?_⟩,wrHT.out.set4 wrHR.out.lt (by have:=wbHL.out;omega) _ _ _ _,wrHK.out.set4 (fun h=>Nat.lt_irrefl _ h.1) _ _ _ _⟩
       ·obtain⟨x,hx,rfl⟩:=List.mem_map.1 hp;exact wrHM.out.good x hx
       ·exact((wrHM.out.parts x hx).same fun b hb=>hks.block b (by have:=hb.1.1;have:=wbHL.out;show b≠w.heap.size;omega)).mono fun b hb=>⟨by have:=hb.1.1;have:=wbHL.out;omega,Nat.lt_of_lt_of_le hb.1.2 hks.size⟩
       ·exact(wrHM.out.row.sl.same fun b hb=>hks.block b (by have:=hb.1;have:=wbHL.out;show b≠w.heap.size;omega)).mono fun b hb=>⟨by have:=hb.1;have:=wbHL.out;omega,Nat.lt_of_lt_of_le hb.2 hks.size⟩
      ·have HNN:=h! hn;have hgt:(0:Int)<(n:Int):=by omega
       have HPO:=h! (fun g (e:pv.ownBlock=some g)=>hm.row.block g e);obtain⟨aov,kv,cv,rfl,-,-,-⟩:=hm.row.sl.len;have hp1:=hm.box.cells 3;clear hm hrb htp hkt hn;go_wp2_with fail
       obtain⟨wd,hwd⟩:∃ wd,wd=wr.drew:=⟨_,rfl⟩;have hE:Ext wr wd:=by rw[hwd];exact Ext.drew wr
       have wdHT:=h! (wrHT.out.ext hE);have wdHK:=h! (KT.trans wrHK.out (KT.of hE));have wdHR:=h! (wrHR.out.below hE);have wdHM:=h! (wrHM.out.keep (KT.of (tp:=tp) hE) (by have:=wbHL.out;omega));have wdHZ:=h! (show rp<wd.heap.size/\wr.heap.size<=wd.heap.size from⟨wdHM.out.box.lt,hE.size⟩)
       have hA:∀ W,Kept (fun b=>b<wd.heap.size/\b≠tp/\Value.ownBlock (.slice aov kv cv)≠some b) wd W->W.cell? ⟨rp,3,none⟩=some (.slice aov kv cv):=fun W hW =>
        (World.cell?_of_block (a:=⟨rp,3,none⟩) (hW.block rp ⟨wdHZ.out.1,by have:=wbHL.out;omega,fun e=>by have:=(HPO.out rp e).1;omega⟩)).trans (wdHM.out.box.cells 3)
       have hdw:IntKind.i64.wrap ((d:Int)+1-1)=(d:Int):=by rw[Int.add_sub_cancel];exact IntWalk.i64_in _ (by have:=HD.out;omega)
       have hdw':IntKind.i64.wrap (d:Int)=(d:Int):=IntWalk.i64_in _ (by have:=HD.out;omega);have HCALL:=h! (HIH.out 4 tp (.slice ao own.length c) wd wdHT.out ((HOV.out.same fun b hb=>wdHK.out.block b hb).mono fun b hb=>⟨Nat.lt_of_lt_of_le hb.1 wdHK.out.size,hb.2⟩) (by have:=HD.out;omega) (by decide));refine region_walkL 11 (Kept (fun b=>b<wd.heap.size/\b≠tp/\Value.ownBlock (.slice aov kv cv)≠some b) wd) (by rw[<- hwd];exact Kept.refl _ _) (by kernel_rfl) (by kernel_rfl) (fun _ _ d _ _ h=>by cases d <;> exact h) ?_;rw[<- hwd];clear hwd hE hp1;(refine WalkL.tk [0,1,2,3,4,5,6] ?_;(iterate 7 (refine l! ?_));refine TkL.n ?_)
       refine oL! 7 ?_;refine b! ?_;intro K hK;go_simp;refine HCALL.out.mono ?_;rintro e w5 ⟨r5,v5,rfl,hg5,hk5,hat5,htp5,hkt5⟩;have hkc5:Kept (fun b=>b<wd.heap.size/\b≠tp/\Value.ownBlock (.slice aov kv cv)≠some b) wd w5:=Kept.mono hkt5 fun b hb=>⟨hb.1,hb.2.1⟩;refine hK.out _ _ hkc5 ?_;obtain⟨ao5,c5,rfl,-,-,-⟩:=hat5.rows;have w5HM:=h! (wdHM.out.keep hkt5 (by have:=wbHL.out;omega));have w5HT:=h! htp5;have w5HK:=h! (KT.trans wdHK.out hkt5);have w5HR:=h! (hkt5.blk wdHR.out (by have:=wbHL.out;omega));have H5:=h! (And.intro hg5 (And.intro hk5 hat5));have H5S:=h! hkt5.size;clear hK hg5 hk5 hat5 htp5 hkt5 HCALL;unfold rV;refine oL! 8 ?_;refine b! ?_;intro K hK;go_simp;have x56:=Ext.alloc w5 (.cells #[.int .i64 r5.k,.string r5.a,.string r5.b,.slice ao5 r5.ps.length c5] 106);have hkc6:=hkc5.trans (Kept.mono (KT.of (tp:=tp) x56) fun b (hb:b<wd.heap.size/\b≠tp/\_)=>⟨Nat.lt_of_lt_of_le hb.1 hkc5.size,hb.2.1⟩);refine hK.out _ _ hkc6 ?_;clear hK;refine oL! 9 ?_;refine b! ?_;intro K hK;refine wp_ownw ruleT (.tmp 41) (.tmp 48) rfl rfl (w5HM.out.row.below x56) rfl (m:=1) (news:=[.int .i64 r5.k,.string r5.a,.string r5.b,.slice ao5 r5.ps.length c5]) rfl (fun j u hu=>?_) (by simp[Value.oneCell']) (by have:=HQN.out;have:=HN.out;rw[flat_length rC_length];simp;omega) (by have:=HQN.out;have:=HN.out;rw[flat_length rC_length];simp;omega) (by have:=wdHZ.out;have:=H5S.out;simp;omega) (fun v7 w7 hown7 hb7 hgr7=>?_)
       ·rw[Addr.add_lit,cell_of_row _ w5.heap.size (0+j) #[.int .i64 r5.k,.string r5.a,.string r5.b,.slice ao5 r5.ps.length c5] 106 (0,0) (heap_alloc_new w5 _)];simpa using hu
       have hk57:∀ b,b<w5.heap.size->Value.ownBlock (.slice aov kv cv)≠some b->w7.heap[b]?=w5.heap[b]?:=fun b h1 h2=>(hgr7.block b (by simp;omega) (fun e=>h2 e.symm)).trans (x56.block b h1);have hz57:w5.heap.size<=w7.heap.size:=Nat.le_trans x56.size hgr7.size;have hb57:∀ g,v7.ownBlock=some g->Value.ownBlock (.slice aov kv cv)=some g\/w5.heap.size<=g:=fun g hg=>(hb7 g hg).imp id (fun h=>by simp at h;omega);have hk57':Kept (fun b=>b<w5.heap.size/\Value.ownBlock (.slice aov kv cv)≠some b) w5 w7:=⟨hgr7.os.trans x56.os,hgr7.tape.trans x56.tape,hgr7.output.trans x56.output,hz57,fun b hb=>hk57 b hb.1 hb.2⟩;have hkc7:=hkc5.trans (hk57'.mono fun b (hb:b<wd.heap.size/\b≠tp/\_)=>⟨Nat.lt_of_lt_of_le hb.1 hkc5.size,hb.2.2⟩);refine hK.out _ _ hkc7 ?_;clear hK hA;simp only[Act.put,pA,pZ,pS];have HADD:=h! (w5HM.out.add (n0:=wd.heap.size) (r:=r5) (v5 := .slice ao5 r5.ps.length c5) hk57 hz57 hown7 hb57 H5.out.2.2 wdHZ.out.1 (fun g hg=>Nat.lt_of_lt_of_le (HPO.out g hg).2 wdHZ.out.2) ⟨H5.out.1,H5.out.2.1⟩);have HLOW:=h! (show Kept (fun b=>b<rp) w5 (w7.setCell ⟨rp,3,none⟩ v7)from(hk57'.mono fun b (hb:b<rp)=>⟨by have:=wdHZ.out;have:=H5S.out;omega,fun e=>by have:=(HPO.out b e).1;omega⟩).set (fun h=>Nat.lt_irrefl _ h) _);have hrp7:Blk w7 rp #[.int .i64 4,.string ⟨#[]⟩,.string ⟨#[]⟩,.slice aov kv cv] 106:=(hk57 rp (by have:=wdHZ.out;have:=H5S.out;omega) (fun e=>by have:=(HPO.out rp e).1;omega)).trans w5HM.out.box;obtain⟨ao7,k7,c7,rfl,-,-,-⟩:=hown7.sl.len;have f7:=hrp7.free;have g7:=hrp7.cells 3;have hdn:IntKind.i64.wrap ((n:Int)-1)=((n-1:Nat):Int):=by rw[IntWalk.i64_in _ (by have:=HQN.out;have:=HN.out;omega)];omega
       have hdn':wrap64 ((n:Int)-1)=((n-1:Nat):Int):=by rw[wrap_in _ (by omega) (by have:=HQN.out;have:=HN.out;omega)];omega
       clear hkc5 hkc6 hk57 hz57 hb57 hk57' hown7 hb7 hgr7 hrp7 x56;((refine WalkL.take 10 _ ?_ (by simp only[gA,gS,gZ];rfl) (by kernel_rfl) (by kernel_rfl) (by kernel_rfl) (by rfl) (fun W hW=>?_) ?_;rotate_left;· (go_simp;try with_reducible rfl));simp only[Act.put,pA,pZ,pS])
       refine WalkL.last (by kernel_rfl) (by kernel_rfl) ?_;refine b! ?_;intro K hK;go_simp;refine hK.out _ _ ?_;clear hK hkc7 f7 g7;generalize w7.setCell ⟨rp,3,none⟩ (.slice ao7 k7 c7)=w8 at *;go_wp2_with fail
       go_roundw
       case rel=>exact⟨n-1,_,_,rfl,by have:=HQN.out;have:=HNN.out;rw[List.length_append];simp only[List.length_cons,List.length_nil];omega,HADD.out,HLOW.out.blk w5HR.out (by have:=wbHL.out;show w.heap.size<rp;omega),w5HT.out.kept HLOW.out (fun b hb=>by have:=wbHL.out;show b<rp;omega),Kept.trans w5HK.out (HLOW.out.mono fun b (hb:b<w.heap.size/\b≠tp)=>by have:=wbHL.out;have:=hb.1;show b<rp;omega)⟩
       case measure=>have:=HNN.out;simp[intOf];omega
    ·have hq1:((5:Int) == nt)=false:=by rw[beq_eq_false_iff_ne];omega
     have HQ:=h! hq;clear hq;go_wp2_with fail
     clear hr1 hf1;obtain⟨wa,hwa⟩:∃ x,x=w1.alloc (.cells #[.int .i64 4,.int .i64 5] 3):=⟨_,rfl⟩;obtain⟨wb,hwb⟩:∃ x,x=wa.alloc (.cells #[.int .i64 5,.string ⟨#[]⟩,.string ⟨#[]⟩,.slice none 0 0] 106):=⟨_,rfl⟩;have ea:wa.heap.size=w1.heap.size+1:=by rw[hwa];simp
     have xa:Ext w1 wa:=by rw[hwa];exact Ext.alloc _ _
     have xb:Ext wa wb:=by rw[hwb];exact Ext.alloc _ _
     have HRP:=h! (show Blk wb (w1.heap.size+1) #[.int .i64 5,.string ⟨#[]⟩,.string ⟨#[]⟩,.slice none 0 0] 106 from by rw[hwb,<- ea];exact Blk.made _ _ _);have wbHT:=h! (w1HT.out.ext (xa.trans xb));have wbHK:=h! (KT.trans w1HK.out (KT.of (xa.trans xb)));have wbHR:=h! (w1HR.out.below (xa.trans xb));have HNX2:=h! (next_any tp 2 wb wbHT.out (by decide) (by decide));rw[<- ea]at HRP;generalize wa.heap.size=rp at *;rw[<- ea];have wbHL:=h! (show w.heap.size<rp/\tp<w.heap.size from⟨by have:=HZ1.out;omega,HLT.out⟩);have wbHM:=h! (show MkI own d 5 rp wb [] (.slice none 0 0)from⟨HRP.out,Own.nil _ _ _ _,by simp,by simp⟩);subst hwb hwa;clear ea xa xb HRP w1HT w1HK w1HR HZ1;refine HNX2.out.mono ?_;clear HNX2;rintro e w2 ⟨k3,rfl,hk3,htp2,hkt2⟩;have w2HM:=h! (wbHM.out.keep hkt2 (by have:=wbHL.out;omega));have w2HR:=h! (hkt2.blk wbHR.out (by have:=wbHL.out;omega));have w2HK:=h! (KT.trans wbHK.out hkt2);have w2HT:=h! htp2;clear wbHM wbHR wbHK wbHT htp2 hkt2;have hw3:IntKind.i64.wrap (2+(k3:Int))=((2+k3:Nat):Int):=by rw[IntWalk.i64_in _ (by omega)];omega
     have hw3':wrap64 (2+(k3:Int))=((2+k3:Nat):Int):=by rw[wrap_in _ (by omega) (by omega)];omega
     go_wp2_with fail
     clear hw3 hw3';generalize hN:2+k3=N at *;have HN:=h! (show N=2\/N=3 from by omega);have HNE:=h! hN;clear hN hk3 hd0;go_loopw [12] (fun iv wr=>∃ (n:Nat) (q:List (RT × Value)) (pv:Value),iv = .int .i64 n/\q.length+n=N/\MkI own d 5 rp wr q pv/\Blk wr w.heap.size #[.int .i64 0,.string ⟨#[]⟩,.string ⟨#[]⟩,.slice none 0 0] 106/\Tp wr tp/\KT tp w wr) (fun iv _=>(intOf iv).toNat)
     case atStart=>exact⟨N,[],_,by rw[<- HNE.out];simp,by simp,w2HM.out,w2HR.out,w2HT.out,w2HK.out⟩
     case round =>
      obtain⟨n,q,pv,rfl,hqn,hm,hrb,htp,hkt⟩:=hrel;have HQN:=h! hqn;have wrHM:=h! hm;have wrHR:=h! hrb;have wrHT:=h! htp;have wrHK:=h! hkt;clear hqn w2HM w2HR w2HT w2HK;by_cases hn:n=0
      ·subst hn;obtain⟨aov,kv,cv,rfl,-,-,-⟩:=hm.row.sl.len;have hp1:=hm.box.cells;have hb1:=hrb.cells;have hbf:=hrb.free;clear hm hrb htp hkt;go_wp2_with fail
       clear hp1 hb1 hbf;refine bodyPost_ret (results_cell_row rfl _ _ w.heap.size 106 #[.int .i64 5,.string ⟨#[]⟩,.string ⟨#[]⟩,.slice aov kv cv] (0,0) _ rfl (wrHR.out.set4 _ _ _ _) Tryz.underlying106 rfl (by kernel_rfl)) rfl ?_;have hks:Kept (fun b=>b≠w.heap.size) wr _:=(Kept.refl _ wr).set4 (B:=w.heap.size) (fun h=>h rfl) (.int .i64 5) (.string ⟨#[]⟩) (.string ⟨#[]⟩) (.slice aov kv cv);refine⟨.mk 5 ⟨#[]⟩ ⟨#[]⟩ (q.map (·.1)),.slice aov kv cv,rfl,.inr ⟨5,q.map (·.1),rfl,by decide,by have:=HQN.out;have:=HN.out;rw[List.length_map];omega,fun p hp=>?_⟩,(fun e=>HQ.out e.symm),(RTAt.iff _ _).2 ⟨q,rfl,fun x hx=>?_,?_⟩,wrHT.out.set4 wrHR.out.lt (by have:=wbHL.out;omega) _ _ _ _,wrHK.out.set4 (fun h=>Nat.lt_irrefl _ h.1) _ _ _ _⟩
       ·obtain⟨x,hx,rfl⟩:=List.mem_map.1 hp;exact wrHM.out.good x hx
       ·exact((wrHM.out.parts x hx).same fun b hb=>hks.block b (by have:=hb.1.1;have:=wbHL.out;show b≠w.heap.size;omega)).mono fun b hb=>⟨by have:=hb.1.1;have:=wbHL.out;omega,Nat.lt_of_lt_of_le hb.1.2 hks.size⟩
       ·exact(wrHM.out.row.sl.same fun b hb=>hks.block b (by have:=hb.1;have:=wbHL.out;show b≠w.heap.size;omega)).mono fun b hb=>⟨by have:=hb.1;have:=wbHL.out;omega,Nat.lt_of_lt_of_le hb.2 hks.size⟩
      ·have HNN:=h! hn;have hgt:(0:Int)<(n:Int):=by omega
       have HPO:=h! (fun g (e:pv.ownBlock=some g)=>hm.row.block g e);obtain⟨aov,kv,cv,rfl,-,-,-⟩:=hm.row.sl.len;have hp1:=hm.box.cells 3;clear hm hrb htp hkt hn;go_wp2_with fail
       obtain⟨wd,hwd⟩:∃ wd,wd=wr.drew:=⟨_,rfl⟩;have hE:Ext wr wd:=by rw[hwd];exact Ext.drew wr
       have wdHT:=h! (wrHT.out.ext hE);have wdHK:=h! (KT.trans wrHK.out (KT.of hE));have wdHR:=h! (wrHR.out.below hE);have wdHM:=h! (wrHM.out.keep (KT.of (tp:=tp) hE) (by have:=wbHL.out;omega));have wdHZ:=h! (show rp<wd.heap.size/\wr.heap.size<=wd.heap.size from⟨wdHM.out.box.lt,hE.size⟩)
       have hA:∀ W,Kept (fun b=>b<wd.heap.size/\b≠tp/\Value.ownBlock (.slice aov kv cv)≠some b) wd W->W.cell? ⟨rp,3,none⟩=some (.slice aov kv cv):=fun W hW =>
        (World.cell?_of_block (a:=⟨rp,3,none⟩) (hW.block rp ⟨wdHZ.out.1,by have:=wbHL.out;omega,fun e=>by have:=(HPO.out rp e).1;omega⟩)).trans (wdHM.out.box.cells 3)
       have hdw:IntKind.i64.wrap ((d:Int)+1-1)=(d:Int):=by rw[Int.add_sub_cancel];exact IntWalk.i64_in _ (by have:=HD.out;omega)
       have hdw':IntKind.i64.wrap (d:Int)=(d:Int):=IntWalk.i64_in _ (by have:=HD.out;omega);have HCALL:=h! (HIH.out 5 tp (.slice ao own.length c) wd wdHT.out ((HOV.out.same fun b hb=>wdHK.out.block b hb).mono fun b hb=>⟨Nat.lt_of_lt_of_le hb.1 wdHK.out.size,hb.2⟩) (by have:=HD.out;omega) (by decide));refine region_walkL 11 (Kept (fun b=>b<wd.heap.size/\b≠tp/\Value.ownBlock (.slice aov kv cv)≠some b) wd) (by rw[<- hwd];exact Kept.refl _ _) (by kernel_rfl) (by kernel_rfl) (fun _ _ d _ _ h=>by cases d <;> exact h) ?_;rw[<- hwd];clear hwd hE hp1;(refine WalkL.tk [0,1,2,3,4,5,6] ?_;(iterate 7 (refine l! ?_));refine TkL.n ?_)
       refine oL! 7 ?_;refine b! ?_;intro K hK;go_simp;refine HCALL.out.mono ?_;rintro e w5 ⟨r5,v5,rfl,hg5,hk5,hat5,htp5,hkt5⟩;have hkc5:Kept (fun b=>b<wd.heap.size/\b≠tp/\Value.ownBlock (.slice aov kv cv)≠some b) wd w5:=Kept.mono hkt5 fun b hb=>⟨hb.1,hb.2.1⟩;refine hK.out _ _ hkc5 ?_;obtain⟨ao5,c5,rfl,-,-,-⟩:=hat5.rows;have w5HM:=h! (wdHM.out.keep hkt5 (by have:=wbHL.out;omega));have w5HT:=h! htp5;have w5HK:=h! (KT.trans wdHK.out hkt5);have w5HR:=h! (hkt5.blk wdHR.out (by have:=wbHL.out;omega));have H5:=h! (And.intro hg5 (And.intro hk5 hat5));have H5S:=h! hkt5.size;clear hK hg5 hk5 hat5 htp5 hkt5 HCALL;unfold rV;refine oL! 8 ?_;refine b! ?_;intro K hK;go_simp;have x56:=Ext.alloc w5 (.cells #[.int .i64 r5.k,.string r5.a,.string r5.b,.slice ao5 r5.ps.length c5] 106);have hkc6:=hkc5.trans (Kept.mono (KT.of (tp:=tp) x56) fun b (hb:b<wd.heap.size/\b≠tp/\_)=>⟨Nat.lt_of_lt_of_le hb.1 hkc5.size,hb.2.1⟩);refine hK.out _ _ hkc6 ?_;clear hK;refine oL! 9 ?_;refine b! ?_;intro K hK;refine wp_ownw ruleT (.tmp 41) (.tmp 48) rfl rfl (w5HM.out.row.below x56) rfl (m:=1) (news:=[.int .i64 r5.k,.string r5.a,.string r5.b,.slice ao5 r5.ps.length c5]) rfl (fun j u hu=>?_) (by simp[Value.oneCell']) (by have:=HQN.out;have:=HN.out;rw[flat_length rC_length];simp;omega) (by have:=HQN.out;have:=HN.out;rw[flat_length rC_length];simp;omega) (by have:=wdHZ.out;have:=H5S.out;simp;omega) (fun v7 w7 hown7 hb7 hgr7=>?_)
       ·rw[Addr.add_lit,cell_of_row _ w5.heap.size (0+j) #[.int .i64 r5.k,.string r5.a,.string r5.b,.slice ao5 r5.ps.length c5] 106 (0,0) (heap_alloc_new w5 _)];simpa using hu
       have hk57:∀ b,b<w5.heap.size->Value.ownBlock (.slice aov kv cv)≠some b->w7.heap[b]?=w5.heap[b]?:=fun b h1 h2=>(hgr7.block b (by simp;omega) (fun e=>h2 e.symm)).trans (x56.block b h1);have hz57:w5.heap.size<=w7.heap.size:=Nat.le_trans x56.size hgr7.size;have hb57:∀ g,v7.ownBlock=some g->Value.ownBlock (.slice aov kv cv)=some g\/w5.heap.size<=g:=fun g hg=>(hb7 g hg).imp id (fun h=>by simp at h;omega);have hk57':Kept (fun b=>b<w5.heap.size/\Value.ownBlock (.slice aov kv cv)≠some b) w5 w7:=⟨hgr7.os.trans x56.os,hgr7.tape.trans x56.tape,hgr7.output.trans x56.output,hz57,fun b hb=>hk57 b hb.1 hb.2⟩;have hkc7:=hkc5.trans (hk57'.mono fun b (hb:b<wd.heap.size/\b≠tp/\_)=>⟨Nat.lt_of_lt_of_le hb.1 hkc5.size,hb.2.2⟩);refine hK.out _ _ hkc7 ?_;clear hK hA;simp only[Act.put,pA,pZ,pS];have HADD:=h! (w5HM.out.add (n0:=wd.heap.size) (r:=r5) (v5 := .slice ao5 r5.ps.length c5) hk57 hz57 hown7 hb57 H5.out.2.2 wdHZ.out.1 (fun g hg=>Nat.lt_of_lt_of_le (HPO.out g hg).2 wdHZ.out.2) ⟨H5.out.1,H5.out.2.1⟩);have HLOW:=h! (show Kept (fun b=>b<rp) w5 (w7.setCell ⟨rp,3,none⟩ v7)from(hk57'.mono fun b (hb:b<rp)=>⟨by have:=wdHZ.out;have:=H5S.out;omega,fun e=>by have:=(HPO.out b e).1;omega⟩).set (fun h=>Nat.lt_irrefl _ h) _);have hrp7:Blk w7 rp #[.int .i64 5,.string ⟨#[]⟩,.string ⟨#[]⟩,.slice aov kv cv] 106:=(hk57 rp (by have:=wdHZ.out;have:=H5S.out;omega) (fun e=>by have:=(HPO.out rp e).1;omega)).trans w5HM.out.box;obtain⟨ao7,k7,c7,rfl,-,-,-⟩:=hown7.sl.len;have f7:=hrp7.free;have g7:=hrp7.cells 3;have hdn:IntKind.i64.wrap ((n:Int)-1)=((n-1:Nat):Int):=by rw[IntWalk.i64_in _ (by have:=HQN.out;have:=HN.out;omega)];omega
       have hdn':wrap64 ((n:Int)-1)=((n-1:Nat):Int):=by rw[wrap_in _ (by omega) (by have:=HQN.out;have:=HN.out;omega)];omega
       clear hkc5 hkc6 hk57 hz57 hb57 hk57' hown7 hb7 hgr7 hrp7 x56;((refine WalkL.take 10 _ ?_ (by simp only[gA,gS,gZ];rfl) (by kernel_rfl) (by kernel_rfl) (by kernel_rfl) (by rfl) (fun W hW=>?_) ?_;rotate_left;· (go_simp;try with_reducible rfl));simp only[Act.put,pA,pZ,pS])
       refine WalkL.last (by kernel_rfl) (by kernel_rfl) ?_;refine b! ?_;intro K hK;go_simp;refine hK.out _ _ ?_;clear hK hkc7 f7 g7;generalize w7.setCell ⟨rp,3,none⟩ (.slice ao7 k7 c7)=w8 at *;go_wp2_with fail
       go_roundw
       case rel=>exact⟨n-1,_,_,rfl,by have:=HQN.out;have:=HNN.out;rw[List.length_append];simp only[List.length_cons,List.length_nil];omega,HADD.out,HLOW.out.blk w5HR.out (by have:=wbHL.out;show w.heap.size<rp;omega),w5HT.out.kept HLOW.out (fun b hb=>by have:=wbHL.out;show b<rp;omega),Kept.trans w5HK.out (HLOW.out.mono fun b (hb:b<w.heap.size/\b≠tp)=>by have:=wbHL.out;have:=hb.1;show b<rp;omega)⟩
       case measure=>have:=HNN.out;simp[intOf];omega
end Go.Proofs.YtlhaghoajpglaaaGreat
