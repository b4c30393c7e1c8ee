/- Lemmas for the claim, no condition. -/
import Derived.RangeFuncGives
import Derived.RangeFuncNested
import Derived.RangeFuncLeaves
import Derived.WalkKit
import Derived.OwnWalkIn
import Derived.TacticsInMore
import Derived.RegionIn
import Derived.LoopNIn
import Derived.LoopIn
import Derived.Sort.MapsRangeIn
import Derived.Sort.KeysCollected
import Derived.Laws.EntriesVeiled
import Derived.Shelf.Abstract
import Derived.Lib.Hide
import Derived.Test.YtlhaghoajpglaaaGreatYBuGrid0
import Derived.Test.YtlhaghoajpglaaaGreatYBuGrid3
import Derived.Test.YtlhaghoajpglaaaGreatYBuGrid2
import Derived.Test.YtlhaghoajpglaaaGreatYBuGrid1
import Derived.Test.YtlhaghoajpglaaaGreatYBuGrid4
set_option maxRecDepth 100000
set_option maxHeartbeats 8000000
namespace Go.Proofs.YtlhaghoajpglaaaGreat
open Go Go.RowKit
def UpR (l:List R2):Prop:=l.Pairwise fun a b=>ltR a b=true
attribute [local go_sem] Oper.semAt_some
theorem refsT:ElemT Tryz.prog 28 121 2 32:=ElemT.mk' Tryz.underlying28 (show _=some (some (.agg #[.string ByteArray.empty,.string ByteArray.empty]),2,32)by kernel_rfl) rfl (by decide)
theorem r2cs_single (a:R2):r2cs [a]=r2C a:=by simp[r2cs]
end Go.Proofs.YtlhaghoajpglaaaGreat
namespace Go.Proofs.YtlhaghoajpglaaaGreat
open Go Go.RowKit Go.Maps
abbrev blR (l:List R2):List (R2 × Bool):=l.map fun p=>(p,true)
theorem put_blR (l:List R2)(a:R2)(h:a∉l):putA (blR l) a true=blR (l++[a]):=by
 rw[put_miss (fun p hp e=>h (by obtain⟨x,hx,rfl⟩:=List.mem_map.1 hp;exact e▸hx))];simp[blR]
theorem put_blR_in (l:List R2)(a:R2)(h:a∈l):putA (blR l) a true=blR l:=by
 induction l with
 | nil=>simp at h
 | cons x r ih =>
  simp only[blR,List.map_cons,putA]at *;by_cases e:x=a
  ·subst e;simp
  ·rw[if_neg e];rw[ih (by simpa [Ne.symm e] using h)]
end Go.Proofs.YtlhaghoajpglaaaGreat
namespace Go.Proofs.YtlhaghoajpglaaaGreat
open Go Go.RowKit Go.Maps Go.Shelf
mutual
def RT.pnamed (P:List (R2 × RT))(typ:ByteArray):RT->Bool
 | .mk k a b ps=>if k=2 then(lookA P ⟨typ,a⟩).isSome else if k=3 then(lookA P ⟨typ,a⟩).isSome&&decide (0<(whereP P b).length)else pnamedL P typ ps
def pnamedL (P:List (R2 × RT))(typ:ByteArray):List RT->Bool | []=>true | r::rs=>r.pnamed P typ&&pnamedL P typ rs
end
theorem pnamedL_eq (P:List (R2 × RT))(typ:ByteArray):∀ l:List RT,pnamedL P typ l=l.all fun r=>r.pnamed P typ
 | []=>rfl
 | r::rs=>by rw[pnamedL,List.all_cons,pnamedL_eq P typ rs]
theorem named1_any {b1 b2 b3:Nat} {typ:ByteArray} (p:RT)(pv:Value)(X Y:Nat)(w:World)(g:Bool)(hX:Blk w X #[.map (some b1),.map (some b2),.map (some b3)] 229)(hY:Blk w Y #[.string typ] 9)(hat:RTAt (· < w.heap.size) w p pv)
  (h:Calls Tryz.prog 132 #[.agg #[.map (some b1),.map (some b2),.map (some b3)],.string typ,rV p pv] (w.alloc (.cells #[.int .i64 p.k,.string p.a,.string p.b,pv] 106)) fun e w'=>e = .returned (.bool g)/\Below w.heap.size w w') :
  Calls Tryz.prog 192 #[rV p pv,.pointer (some ⟨X,0,none⟩),.pointer (some ⟨Y,0,none⟩)] w fun e w'=>e = .returned (.bool (!g))/\Below w.heap.size w w':=by
 have HC:=h! h;obtain⟨ao,c,rfl,-⟩:=hat.rows;have hb:=(Blk.made w #[.int .i64 p.k,.string p.a,.string p.b,.slice ao p.ps.length c] 106).cells;have hx:=(hX.alloc (.cells #[.int .i64 p.k,.string p.a,.string p.b,.slice ao p.ps.length c] 106)).cells;have hy:=(hY.alloc (.cells #[.int .i64 p.k,.string p.a,.string p.b,.slice ao p.ps.length c] 106)).cells;clear h hX hY hat;unfold rV at HC ⊢;go_enter Tryz.func192,Tryz.ntmps192
 go_wp2_with fail
 refine HC.out.mono ?_;rintro e w2 ⟨rfl,hb2⟩;have HB:=h! hb2;clear HC hb hx hy hb2;go_wp2_with fail
 go_ret
 exact⟨rfl,HB.out⟩
theorem pnamed_any {b1 b2 b3:Nat} {ts:List TyS} (typ:ByteArray)(htyp:typ.size<=maxLen)(r:RT):∀ (pv:Value)(w:World),Bk w b1 b2 b3 ts->RTAt (· < w.heap.size) w r pv->r.Ok ->
  Calls Tryz.prog 132 #[.agg #[.map (some b1),.map (some b2),.map (some b3)],.string typ,rV r pv] w fun e w'=>e = .returned (.bool (r.pnamed (refsOf ts) typ))/\Below w.heap.size w w':=by
 induction r using RT.ind with
 | h r ih =>
 intro pv w hbk hat hok;obtain⟨-,hoa,hob,hop⟩:=r.ok_iff.1 hok;obtain⟨k,ra,rb,ps⟩:=r;obtain⟨ao,c,rfl,-⟩:=hat.rows;dsimp only[RT.k,RT.a,RT.b,RT.ps]at hoa hob hop ih;have IH:=h! ih;have HOP:=h! hop;have HRA:=h! (show ra.size<=maxLen from by unfold maxLen;omega);have HRB:=h! (show rb.size<=maxLen from by unfold maxLen;omega);unfold rV;dsimp only[RT.k,RT.a,RT.b,RT.ps];clear ih hop hoa hob hok;by_cases k2:k=2
 ·subst k2;have HE:=h! (show(RT.mk 2 ra rb ps).pnamed (refsOf ts) typ=(lookA (refsOf ts) ⟨typ,ra⟩).isSome from by rw[RT.pnamed];rfl);obtain⟨wx,hwx⟩:∃ x,x=w.alloc (.cells #[.map (some b1),.map (some b2),.map (some b3)] 229):=⟨_,rfl⟩;obtain⟨wy,hwy⟩:∃ x,x=wx.alloc (.cells #[.string typ] 9):=⟨_,rfl⟩;obtain⟨wz,hwz⟩:∃ x,x=wy.alloc (.cells #[.int .i64 2,.string ra,.string rb,.slice ao ps.length c] 106):=⟨_,rfl⟩;have ex:wx.heap.size=w.heap.size+1:=by rw[hwx];simp
  have ey:wy.heap.size=w.heap.size+1+1:=by rw[hwy];simp[ex]
  have xwx:Ext w wx:=by rw[hwx];exact Ext.alloc _ _
  have xxy:Ext wx wy:=by rw[hwy];exact Ext.alloc _ _
  have xyz:Ext wy wz:=by rw[hwz];exact Ext.alloc _ _
  have HX:=h! (show Blk wz w.heap.size #[.map (some b1),.map (some b2),.map (some b3)] 229 from Blk.below (by rw[hwx];exact Blk.made _ _ _) (xxy.trans xyz));have HY:=h! (show Blk wz (w.heap.size+1) #[.string typ] 9 from Blk.below (by rw[hwy,<- ex];exact Blk.made _ _ _) xyz);have HZ:=h! (show Blk wz (w.heap.size+1+1) #[.int .i64 2,.string ra,.string rb,.slice ao ps.length c] 106 from by rw[hwz,<- ey];exact Blk.made _ _ _);have XWZ:=h! (show Below w.heap.size w wz from xwx.trans (xxy.trans xyz));have HBK:=h! (hbk.up XWZ.out);obtain⟨z,hlk,hzat,-,-⟩:=HBK.out.R.look ⟨typ,ra⟩ ⟨htyp,HRA.out⟩;obtain⟨zo,zc,hzv,-⟩:=hzat.rows;generalize hok:(lookA (refsOf ts) ⟨typ,ra⟩).isSome=ok at *;unfold rvV rV r2V at hlk;dsimp only at hlk;rw[hzv]at hlk;have h4:Ext wz (wz.alloc (.cells #[.int .i64 z.1.k,.string z.1.a,.string z.1.b,.slice zo z.1.ps.length zc] 106)):=Ext.alloc _ _;have x3:=HX.out.cells;have y3:=HY.out.cells;have z3:=HZ.out.cells;have x4:=(HX.out.below h4).cells;have z4:=(HZ.out.below h4).cells;have HB4:=h! (show Below w.heap.size w (wz.alloc (.cells #[.int .i64 z.1.k,.string z.1.a,.string z.1.b,.slice zo z.1.ps.length zc] 106))from Ext.trans XWZ.out h4);have HBK4:=h! (HBK.out.up h4);clear hbk hzat hzv hat ex ey xwx xxy xyz h4;subst hwz hwy hwx;go_enter Tryz.func132,Tryz.ntmps132
  go_wp2_with fail
  go_ret
  exact⟨by rw[HE.out];simp,HB4.out⟩
 by_cases k3:k=3
 ·subst k3;have HE:=h! (show(RT.mk 3 ra rb ps).pnamed (refsOf ts) typ=((lookA (refsOf ts) ⟨typ,ra⟩).isSome&&decide (0<(whereP (refsOf ts) rb).length))from by rw[RT.pnamed];rfl);clear k2;obtain⟨wx,hwx⟩:∃ x,x=w.alloc (.cells #[.map (some b1),.map (some b2),.map (some b3)] 229):=⟨_,rfl⟩;obtain⟨wy,hwy⟩:∃ x,x=wx.alloc (.cells #[.string typ] 9):=⟨_,rfl⟩;obtain⟨wz,hwz⟩:∃ x,x=wy.alloc (.cells #[.int .i64 3,.string ra,.string rb,.slice ao ps.length c] 106):=⟨_,rfl⟩;have ex:wx.heap.size=w.heap.size+1:=by rw[hwx];simp
  have ey:wy.heap.size=w.heap.size+1+1:=by rw[hwy];simp[ex]
  have xwx:Ext w wx:=by rw[hwx];exact Ext.alloc _ _
  have xxy:Ext wx wy:=by rw[hwy];exact Ext.alloc _ _
  have xyz:Ext wy wz:=by rw[hwz];exact Ext.alloc _ _
  have HX:=h! (show Blk wz w.heap.size #[.map (some b1),.map (some b2),.map (some b3)] 229 from Blk.below (by rw[hwx];exact Blk.made _ _ _) (xxy.trans xyz));have HY:=h! (show Blk wz (w.heap.size+1) #[.string typ] 9 from Blk.below (by rw[hwy,<- ex];exact Blk.made _ _ _) xyz);have HZ:=h! (show Blk wz (w.heap.size+1+1) #[.int .i64 3,.string ra,.string rb,.slice ao ps.length c] 106 from by rw[hwz,<- ey];exact Blk.made _ _ _);have XWZ:=h! (show Below w.heap.size w wz from xwx.trans (xxy.trans xyz));have HBK:=h! (hbk.up XWZ.out);obtain⟨z,hlk,hzat,-,-⟩:=HBK.out.R.look ⟨typ,ra⟩ ⟨htyp,HRA.out⟩;obtain⟨zo,zc,hzv,-⟩:=hzat.rows;generalize hok:(lookA (refsOf ts) ⟨typ,ra⟩).isSome=ok at *;unfold rvV rV r2V at hlk;dsimp only at hlk;rw[hzv]at hlk;have h4:Ext wz (wz.alloc (.cells #[.int .i64 z.1.k,.string z.1.a,.string z.1.b,.slice zo z.1.ps.length zc] 106)):=Ext.alloc _ _;have x3:=HX.out.cells;have y3:=HY.out.cells;have z3:=HZ.out.cells;have x4:=(HX.out.below h4).cells;have z4:=(HZ.out.below h4).cells;have HB4:=h! (show Below w.heap.size w (wz.alloc (.cells #[.int .i64 z.1.k,.string z.1.a,.string z.1.b,.slice zo z.1.ps.length zc] 106))from Ext.trans XWZ.out h4);have HBK4:=h! (HBK.out.up h4);obtain⟨v,hlw,hov,-⟩:=HBK4.out.W.look rb HRB.out;obtain⟨vo,vn,vc,rfl,hvn,-,-⟩:=hov.sl.len;rw[txs_length,Nat.mul_one]at hvn;subst hvn;clear hov;clear hbk hzat hzv hat ex ey xwx xxy xyz h4;subst hwz hwy hwx;cases ok with
  | false =>
   go_enter Tryz.func132,Tryz.ntmps132
   go_wp2_with fail
   go_ret
   exact⟨by rw[HE.out];simp,HB4.out⟩
  | true =>
   by_cases hp:0<(whereP (refsOf ts) rb).length
   ·have hpI:(0:Int)<((whereP (refsOf ts) rb).length:Int):=by omega
    have HP:=h! hp;clear hp;go_enter Tryz.func132,Tryz.ntmps132
    go_wp2_with fail
    go_ret
    exact⟨by rw[HE.out,decide_eq_true HP.out];simp,HB4.out⟩
   ·have hpI:¬ ((0:Int)<((whereP (refsOf ts) rb).length:Int)):=by omega
    have HP:=h! hp;clear hp;go_enter Tryz.func132,Tryz.ntmps132
    go_wp2_with fail
    go_ret
    exact⟨by rw[HE.out,decide_eq_false HP.out];simp,HB4.out⟩
 have q2:(k == 2)=false:=by rw[beq_eq_false_iff_ne];exact k2
 have q3:(k == 3)=false:=by rw[beq_eq_false_iff_ne];exact k3
 have HE:=h! (show(RT.mk k ra rb ps).pnamed (refsOf ts) typ=ps.all fun r=>r.pnamed (refsOf ts) typ from by rw[RT.pnamed,if_neg k2,if_neg k3,pnamedL_eq]);clear k2 k3;obtain⟨wx,hwx⟩:∃ x,x=w.alloc (.cells #[.map (some b1),.map (some b2),.map (some b3)] 229):=⟨_,rfl⟩;obtain⟨wy,hwy⟩:∃ x,x=wx.alloc (.cells #[.string typ] 9):=⟨_,rfl⟩;obtain⟨wz,hwz⟩:∃ x,x=wy.alloc (.cells #[.int .i64 k,.string ra,.string rb,.slice ao ps.length c] 106):=⟨_,rfl⟩;have ex:wx.heap.size=w.heap.size+1:=by rw[hwx];simp
 have ey:wy.heap.size=w.heap.size+1+1:=by rw[hwy];simp[ex]
 have xwx:Ext w wx:=by rw[hwx];exact Ext.alloc _ _
 have xxy:Ext wx wy:=by rw[hwy];exact Ext.alloc _ _
 have xyz:Ext wy wz:=by rw[hwz];exact Ext.alloc _ _
 have HX:=h! (show Blk wz w.heap.size #[.map (some b1),.map (some b2),.map (some b3)] 229 from Blk.below (by rw[hwx];exact Blk.made _ _ _) (xxy.trans xyz));have HY:=h! (show Blk wz (w.heap.size+1) #[.string typ] 9 from Blk.below (by rw[hwy,<- ex];exact Blk.made _ _ _) xyz);have HZ:=h! (show Blk wz (w.heap.size+1+1) #[.int .i64 k,.string ra,.string rb,.slice ao ps.length c] 106 from by rw[hwz,<- ey];exact Blk.made _ _ _);have XWZ:=h! (show Below w.heap.size w wz from xwx.trans (xxy.trans xyz));have HBK:=h! (hbk.up XWZ.out);obtain⟨z,hlk,hzat,-,-⟩:=HBK.out.R.look ⟨typ,ra⟩ ⟨htyp,HRA.out⟩;obtain⟨zo,zc,hzv,-⟩:=hzat.rows;generalize hok:(lookA (refsOf ts) ⟨typ,ra⟩).isSome=ok at *;unfold rvV rV r2V at hlk;dsimp only at hlk;rw[hzv]at hlk;have h4:Ext wz (wz.alloc (.cells #[.int .i64 z.1.k,.string z.1.a,.string z.1.b,.slice zo z.1.ps.length zc] 106)):=Ext.alloc _ _;have x3:=HX.out.cells;have y3:=HY.out.cells;have z3:=HZ.out.cells;have x4:=(HX.out.below h4).cells;have z4:=(HZ.out.below h4).cells;have HB4:=h! (show Below w.heap.size w (wz.alloc (.cells #[.int .i64 z.1.k,.string z.1.a,.string z.1.b,.slice zo z.1.ps.length zc] 106))from Ext.trans XWZ.out h4);have HBK4:=h! (HBK.out.up h4);have hmf:∀ (fn:Fn) (first cap:Array Value) (W:World),(Instr.makeFunc fn first cap).run Tryz.prog W = .ok (.func fn first cap) W:=fun _ _ _ _=>rfl
 have HCF:=h! (containsRF_any _ ps k ra rb _ 192 #[.pointer (some ⟨w.heap.size,0,none⟩),.pointer (some ⟨w.heap.size+1,0,none⟩)] (enters_of Tryz.func192 (by kernel_rfl) rfl) (fun p=>!p.pnamed (refsOf ts) typ) (hat.up HB4.out) (fun i hi W pvi hW hati=>named1_any ps[i] pvi _ _ W _ ((HX.out.below h4).below hW) ((HY.out.below h4).below hW) hati
  ((IH.out ps[i] (List.getElem_mem hi) pvi _ ((HBK4.out.up hW).up (Ext.alloc _ _)) (hati.up (Ext.alloc _ _)) (HOP.out _ (List.getElem_mem hi))).mono fun e w' hr=>⟨hr.1,Ext.trans (Ext.alloc _ _) hr.2⟩)))
 clear hbk hzat hzv hat ex ey xwx xxy xyz h4;subst hwz hwy hwx;go_enter Tryz.func132,Tryz.ntmps132
 go_wp2_with fail
 refine HCF.out.mono ?_;rintro e w5 ⟨rfl,hb5⟩;have HBE:=h! (HB4.out.trans (hb5.mono HB4.out.size));clear HCF hb5 x3 y3 z3 x4 z4 hlk;go_wp2_with fail
 go_ret
 exact⟨by rw[HE.out,List.not_any_eq_all_not];simp,HBE.out⟩
end Go.Proofs.YtlhaghoajpglaaaGreat
namespace Go.Proofs.YtlhaghoajpglaaaGreat
open Go Go.RowKit Go.Maps
def namesT (t:TyS):List R2:=⟨t.name,ByteArray.empty⟩::t.rels.map fun r=>⟨t.name,r.1⟩
def namesOf (ts:List TyS):List R2:=ts.flatMap namesT
theorem namesOf_take {l:List TyS} {i:Nat} (hi:i<l.length):namesOf (l.take (i+1))=namesOf (l.take i)++namesT l[i]:=by
 rw[List.take_succ_eq_append_getElem hi];simp only[namesOf,List.flatMap_append,List.flatMap_cons,List.flatMap_nil,List.append_nil]
theorem own_ne {s:ByteArray} (h:ownB s=true):s≠ByteArray.empty:=by
 rintro rfl;revert h
 decide
theorem names_nodup {ts:List TyS} (hp:printOk ts=true):(namesOf ts).Nodup↔uniqOk ts=true:=by
 have hown:∀ t∈ts,∀ r∈t.rels,r.1≠ByteArray.empty:=fun t ht r hr=>by
  have h1:=List.all_eq_true.1 hp t ht;unfold tyOk at h1;rw[Bool.and_eq_true]at h1;have h2:=List.all_eq_true.1 h1.2 r hr;unfold relOk at h2;simp only[Bool.and_eq_true]at h2;exact own_ne h2.1.2
 constructor
 ·intro h;refine uniq_of fun j hj=>⟨fun m hm _ hmj he=>?_,?_⟩
  ·have h1:=List.pairwise_iff_getElem.1 (List.pairwise_flatMap.1 h).2 m j hm hj hmj;exact h1 ⟨ts[m].name,ByteArray.empty⟩ List.mem_cons_self ⟨ts[j].name,ByteArray.empty⟩ List.mem_cons_self (by rw[he])
  ·have h1:=(List.pairwise_flatMap.1 h).1 ts[j] (List.getElem_mem hj);have h2:=(List.nodup_cons.1 (show(namesT ts[j]).Nodup from h1)).2;refine List.Pairwise.map _ ?_ (List.Pairwise.of_map _ (R:=fun a b:ByteArray × RT=>a.1≠b.1) ?_ h2)
   ·exact fun a b h=>h
   ·exact fun a b hne e=>hne (by rw[e])
 ·intro h;refine List.pairwise_flatMap.2 ⟨fun t ht=>?_,List.pairwise_iff_getElem.2 fun m j hm hj hmj=>?_⟩
  ·obtain⟨j,hj,rfl⟩:=List.getElem_of_mem ht;refine List.nodup_cons.2 ⟨fun hm=>?_,?_⟩
   ·obtain⟨r,hr,he⟩:=List.mem_map.1 hm;injection he with _ he
    exact hown _ ht r hr he
   ·have h1:=(uniq_at h hj).2;refine List.Pairwise.map _ ?_ (List.Pairwise.of_map _ (R:=fun a b:ByteArray × RT=>a.1≠b.1) (fun a b h=>h) h1);exact fun a b hne e=>hne (by injection e)
  ·intro x hx y hy e;subst e;have h1:=(uniq_at h hj).1 m hm hj hmj
   have n1:x.t=ts[m].name:=by
    rcases List.mem_cons.1 hx with rfl | hx
    ·rfl
    ·obtain⟨r,_,rfl⟩:=List.mem_map.1 hx;rfl
   have n2:x.t=ts[j].name:=by
    rcases List.mem_cons.1 hy with rfl | hy
    ·rfl
    ·obtain⟨r,_,rfl⟩:=List.mem_map.1 hy;rfl
   exact h1 (n1.symm.trans n2)
structure NamesI (L N:List R2):Prop where
 mem:∀ x,x∈N↔x∈L
 le:N.length<=L.length
 eq:N.length=L.length↔L.Nodup
theorem NamesI.nil:NamesI [] []:=⟨fun _=>Iff.rfl,Nat.le_refl _,by simp⟩
def addR (N:List R2)(x:R2):List R2:=if x∈N then N else N++[x]
theorem addR_len (N:List R2)(x:R2):(addR N x).length<=N.length+1:=by
 unfold addR;split <;> simp
theorem addR_mem (N:List R2)(x y:R2):y∈addR N x↔y∈N\/y=x:=by
 unfold addR;split
 ·rename_i h
  exact⟨.inl,fun hy=>hy.elim id fun e=>e▸h⟩
 ·simp
theorem put_addR (N:List R2)(x:R2):putA (blR N) x true=blR (addR N x):=by
 unfold addR;split
 ·rename_i h;exact put_blR_in N x h
 ·rename_i h;exact put_blR N x h
theorem NamesI.step {L N:List R2} (h:NamesI L N)(x:R2):NamesI (L++[x]) (addR N x):=by
 refine⟨fun y=>by rw[addR_mem,h.mem,List.mem_append,List.mem_singleton],?_,?_⟩
 ·have:=addR_len N x;have:=h.le;simp;omega
 ·unfold addR;split
  ·rename_i hx
   have h1:=h.le;have h2:=(h.mem x).1 hx;rw[List.length_append,List.nodup_append];simp only[List.length_cons,List.length_nil];constructor
   ·omega
   ·rintro⟨_,_,h3⟩;exact absurd rfl (h3 x h2 x (by simp))
  ·rename_i hx
   have h2:¬ x∈L:=fun h3=>hx ((h.mem x).2 h3);rw[List.length_append,List.length_append,List.nodup_append];simp only[List.length_cons,List.length_nil];constructor
   ·intro h3;refine⟨h.eq.1 (by omega),by simp,fun a ha b hb=>?_⟩;obtain rfl:=List.mem_singleton.1 hb;exact fun e=>h2 (e▸ha)
   ·rintro⟨h3,_,_⟩;have:=h.eq.2 h3;omega
theorem NamesI.lt {L N:List R2} (h:NamesI L N):N.length<L.length↔¬ L.Nodup:=by
 rw[<- h.eq];have:=h.le;omega
theorem refs_mem {ts:List TyS} {p:R2 × RT}:p∈refsOf ts↔∃ t∈ts,∃ r∈t.rels,p=(⟨t.name,r.1⟩,r.2):=by
 unfold refsOf relsOf;rw[List.mem_flatMap];constructor
 ·rintro⟨t,ht,hp⟩;obtain⟨r,hr,rfl⟩:=List.mem_map.1 hp;exact⟨t,ht,r,hr,rfl⟩
 ·rintro⟨t,ht,r,hr,rfl⟩;exact⟨t,ht,List.mem_map.2 ⟨r,hr,rfl⟩⟩
theorem uniq_eq {ts:List TyS} (h:uniqOk ts=true) {t u:TyS} (ht:t∈ts)(hu:u∈ts)(he:t.name=u.name):t=u:=by
 obtain⟨i,hi,rfl⟩:=List.getElem_of_mem ht;obtain⟨j,hj,rfl⟩:=List.getElem_of_mem hu;rcases Nat.lt_trichotomy i j with h1 | h1 | h1
 ·exact absurd he ((uniq_at h hj).1 i hi hj h1)
 ·subst h1;rfl
 ·exact absurd he.symm ((uniq_at h hi).1 j hj hi h1)
theorem look_has {ts:List TyS} (h:uniqOk ts=true) {t:TyS} (ht:t∈ts)(a:ByteArray):(lookA (refsOf ts) ⟨t.name,a⟩).isSome=hasT t a:=by
 cases hl:lookA (refsOf ts) ⟨t.name,a⟩ with
 | none =>
  have h1:=look_none_iff.1 hl;symm
  show hasT t a=false
  unfold hasT;rw[List.any_eq_false];intro r hr he;have he:r.1=a:=of_decide_eq_true he;exact h1 _ (refs_mem.2 ⟨t,ht,r,hr,rfl⟩) (by rw[he])
 | some x =>
  obtain⟨u,hu,r,hr,e⟩:=refs_mem.1 (look_mem hl);injection e with e1 e2
  injection e1 with e3 e4
  obtain rfl:=uniq_eq h ht hu e3;symm
  show hasT t a=true
  unfold hasT;exact List.any_eq_true.2 ⟨r,hr,decide_eq_true e4.symm⟩
theorem where_any (ts:List TyS)(b:ByteArray):decide (0<(whereP (refsOf ts) b).length)=anyT ts b:=by
 rw[Bool.eq_iff_iff,decide_eq_true_eq];unfold whereP anyT;rw[List.length_map,List.any_eq_true];constructor
 ·intro h;obtain⟨x,hx⟩:=List.exists_mem_of_length_pos h;rw[List.mem_filter,decide_eq_true_eq]at hx;obtain⟨u,hu,r,hr,rfl⟩:=refs_mem.1 hx.1;exact⟨u,hu,List.any_eq_true.2 ⟨r,hr,decide_eq_true hx.2⟩⟩
 ·rintro⟨u,hu,h⟩;obtain⟨r,hr,he⟩:=List.any_eq_true.1 h;exact List.length_pos_of_mem (List.mem_filter.2 ⟨refs_mem.2 ⟨u,hu,r,hr,rfl⟩,he⟩)
theorem textOk_leaf {k:Int} {a b:ByteArray} {ps:List RT} {d:Nat} (h:(RT.mk k a b ps).textOk d=true)(hk:k=2\/k=3):ps=[]:=by
 rw[RT.textOk]at h;rcases hk with rfl | rfl
 ·simp only[Int.reduceEq,if_false,if_true,Bool.and_eq_true,decide_eq_true_eq]at h;exact List.eq_nil_of_length_eq_zero h.2
 ·simp only[Int.reduceEq,if_false,if_true,Bool.and_eq_true,decide_eq_true_eq]at h;exact List.eq_nil_of_length_eq_zero h.2
theorem textOk_parts {k:Int} {a b:ByteArray} {ps:List RT} {d:Nat} (h:(RT.mk k a b ps).textOk d=true):∀ p∈ps,∃ d',p.textOk d'=true:=by
 intro p hp;by_cases h4:k=4\/k=5
 ·have hn:k≠1/\k≠2/\k≠3:=by omega
  rw[RT.textOk,if_neg hn.1,if_neg hn.2.1,if_neg hn.2.2,if_pos h4,textL_eq,Bool.and_eq_true]at h;have h1:=List.all_eq_true.1 h.2 p hp;unfold goodP at h1;rw[Bool.and_eq_true]at h1;exact⟨_,h1.2⟩
 ·exfalso
  have hnil:ps=[]:=by
   rw[RT.textOk]at h;by_cases k1:k=1
   ·subst k1;simp only[if_true,Bool.and_eq_true,decide_eq_true_eq]at h;exact List.eq_nil_of_length_eq_zero h.2
   ·by_cases k2:k=2
    ·subst k2;simp only[Int.reduceEq,if_false,if_true,Bool.and_eq_true,decide_eq_true_eq]at h;exact List.eq_nil_of_length_eq_zero h.2
    ·by_cases k3:k=3
     ·subst k3;simp only[Int.reduceEq,if_false,if_true,Bool.and_eq_true,decide_eq_true_eq]at h;exact List.eq_nil_of_length_eq_zero h.2
     ·rw[if_neg k1,if_neg k2,if_neg k3,if_neg h4]at h;cases h
  rw[hnil]at hp;cases hp
theorem named_eq2 {ts:List TyS} (h:uniqOk ts=true) {t:TyS} (ht:t∈ts)(r:RT):∀ d,r.textOk d=true->r.pnamed (refsOf ts) t.name=r.named ts t:=by
 induction r using RT.ind with
 | h r ih =>
  intro d hd;obtain⟨k,a,b,ps⟩:=r;dsimp only[RT.ps]at ih;rw[RT.pnamed,RT.named,pnamedL_eq,namedL_eq];unfold headOk;by_cases k2:k=2
  ·subst k2;obtain rfl:=textOk_leaf hd (.inl rfl);rw[if_pos rfl,look_has h ht];simp
  ·by_cases k3:k=3
   ·subst k3;obtain rfl:=textOk_leaf hd (.inr rfl);rw[if_neg k2,if_pos rfl,look_has h ht,where_any];simp
   ·rw[if_neg k2,if_neg k3];have e2:(k == 2)=false:=by rw[beq_eq_false_iff_ne];exact k2
    have e3:(k == 3)=false:=by rw[beq_eq_false_iff_ne];exact k3
    rw[e2,e3];simp only[Bool.false_and,Bool.or_false,Bool.not_false,Bool.true_and];rw[Bool.eq_iff_iff,List.all_eq_true,List.all_eq_true];constructor <;> intro hall p hp
    ·obtain⟨d',hd'⟩:=textOk_parts hd p hp;rw[<- ih p hp d' hd'];exact hall p hp
    ·obtain⟨d',hd'⟩:=textOk_parts hd p hp;rw[ih p hp d' hd'];exact hall p hp
theorem rel_text {ts:List TyS} (hp:printOk ts=true) {t:TyS} (ht:t∈ts) {r:ByteArray × RT} (hr:r∈t.rels):r.2.textOk 0=true:=by
 have h1:=List.all_eq_true.1 hp t ht;unfold tyOk at h1;rw[Bool.and_eq_true]at h1;have h2:=List.all_eq_true.1 h1.2 r hr;unfold relOk at h2;simp only[Bool.and_eq_true]at h2;exact h2.1.1
theorem names_all {ts:List TyS} (hp:printOk ts=true)(hu:uniqOk ts=true):(∀ x∈refsOf ts,x.2.pnamed (refsOf ts) x.1.t=true)↔namesOk ts=true:=by
 unfold namesOk;rw[List.all_eq_true];constructor
 ·intro h t ht;rw[List.all_eq_true];intro r hr;rw[<- named_eq2 hu ht r.2 0 (rel_text hp ht hr)];exact h _ (refs_mem.2 ⟨t,ht,r,hr,rfl⟩)
 ·intro h x hx;obtain⟨t,ht,r,hr,rfl⟩:=refs_mem.1 hx;dsimp only;rw[named_eq2 hu ht r.2 0 (rel_text hp ht hr)];exact List.all_eq_true.1 (h t ht) r hr
def nmsP (n:ByteArray)(l:List (ByteArray × RT)):List R2:=⟨n,ByteArray.empty⟩::l.map fun r=>⟨n,r.1⟩
theorem nmsP_take {n:ByteArray} {l:List (ByteArray × RT)} {i:Nat} (hi:i<l.length):nmsP n (l.take (i+1))=nmsP n (l.take i)++[⟨n,l[i].1⟩]:=by
 rw[List.take_succ_eq_append_getElem hi];simp only[nmsP,List.map_append,List.map_cons,List.map_nil,List.cons_append]
theorem nmsP_length (n:ByteArray)(l:List (ByteArray × RT)):(nmsP n l).length=1+l.length:=by simp[nmsP];omega
theorem namesOf_le (ts:List TyS)(i:Nat):(namesOf (ts.take i)).length<=(namesOf ts).length:=by
 conv=>rhs;rw[<- List.take_append_drop i ts]
 simp only[namesOf,List.flatMap_append,List.length_append];omega
theorem checkP_any (ts:List TyS)(tv:Value)(w:World)(h:TysAt (· < w.heap.size) w ts tv)(hok:∀ t∈ts,t.Ok)(hsB:schB ts<=549755813888)(hsz:∀ t∈ts,∀ r∈t.rels,r.2.sz<=1000000)(hln:(namesOf ts).length<=1099511627776)(hlr:(refsOf ts).length<=1099511627776) :
  Calls Tryz.prog 74 #[.agg #[tv]] w fun e w'=>e = .returned (.int .i64 (chk06 ts))/\Below w.heap.size w w':=by
 have hb0:Below w.heap.size w (w.alloc (.cells #[tv] 26)):=(Below.refl _ _).alloc (Nat.le_refl _) _;have HPR:=h! (wprint_any ts tv _ (h.up hb0) hsB);have HTS:=h! h;have HOK:=h! hok;have HSZ:=h! hsz;have HLN:=h! hln;have HLR:=h! hlr;obtain⟨ao,c,rfl,hlc,hcm,hcell⟩:=h.rows;have HC:=h! hcell;have hS0:=Blk.made w #[.slice ao ts.length c] 26;have hs0:=hS0.cells;have HS0:=h! hS0;have HB0:=h! hb0;have hmm:=@run_makeMap Tryz.prog;have HG:=h! (show chk06 ts=if printOk ts then(if longOk ts then(if uniqOk ts then(if namesOk ts then 0 else 2)else 3)else 10)else 9 from rfl);generalize chk06 ts=g at *;clear h hcell hok hsB hsz hS0 hb0 hln hlr;go_enter Tryz.func74,Tryz.ntmps74
 go_wp2_with fail
 refine HPR.out.mono ?_;rintro e w2 ⟨rfl,hb2⟩;have HB2:=h! (HB0.out.trans (hb2.mono HB0.out.size));have HS2:=h! (HS0.out.below hb2);clear HPR hb2 hs0;cases hp:printOk ts with
 | false =>
  have HF:=h! (show g=9 from by rw[HG.out,hp];rfl);rw[show prN false=9 from rfl];clear hp;go_wp2_with fail
  go_ret
  exact⟨by rw[HF.out];rfl,HB2.out⟩
 | true =>
  rw[show prN true=0 from rfl];have HP:=h! hp;clear hp;have s3:=(HS2.out.alloc (.map #[] 0)).cells;go_wp2_with fail
  obtain⟨w3,hw3⟩:∃ x,x=w2.alloc (.map #[] 0):=⟨_,rfl⟩;rw[<- hw3]at s3 ⊢;obtain⟨bn,hbn⟩:∃ x,x=w2.heap.size:=⟨_,rfl⟩;rw[<- hbn];have x23:Ext w2 w3:=by rw[hw3];exact Ext.alloc _ _
  have HM0:=h! (show Mp Tryz.prog 121 r2V bV w3 bn (blR [])from by rw[hw3,hbn];exact Mp.made _);have HBN:=h! (show w.heap.size<=bn from by rw[hbn];exact HB2.out.size);have HB3:=h! (show Below w.heap.size w w3 from HB2.out.trans (Below.mono x23 HB2.out.size));have HS3:=h! (HS2.out.below x23);have HNS:=h! (show w.heap.size≠bn from by have:=HS2.out.lt;omega);clear hw3 x23 hbn s3;obtain⟨c16,hc16⟩:∃ x,x=decide (ts.length<=16):=⟨_,rfl⟩;rw[show(decide ((16:Int)<(ts.length:Int)))=!c16 from by rw[hc16];by_cases h:ts.length<=16 <;> simp[h] <;> omega];have HC16:=h! hc16;clear hc16;go_loopw [6,7,30] (fun av lv ii wr=>∃ (i:Nat) (N:List R2) (o:Bool),i<=ts.length/\ii = .int .i64 i/\av = .int .i64 (((namesOf (ts.take i)).length:Nat):Int)/\lv = .bool o/\o=!(c16&&(ts.take i).all tyLong)/\Mp Tryz.prog 121 r2V bV wr bn (blR N)/\NamesI (namesOf (ts.take i)) N/\Tk bn w3 wr) (fun _ _ ii _=>ts.length-(intOf ii).toNat)
  case atStart=>exact⟨0,[],!c16,by omega,rfl,rfl,rfl,by simp,HM0.out,NamesI.nil,Tk.refl _ _⟩
  case round =>
   obtain⟨i,N,o,hi,rfl,rfl,rfl,ho,hm,hn,htk⟩:=hrel;have HO:=h! ho;have HM:=h! hm;have HN:=h! hn;have HTK:=h! htk;clear HM0 ho hm hn;by_cases hlt:i<ts.length
   ·have hbel:Below w.heap.size w wr:=HB3.out.trans (htk.below HB3.out.size HBN.out);obtain⟨bb,off,rsv,hbo,hb,c0,c1,hat2⟩:=HC.out i hlt;cases hbo;have d0:=(hbel.cell (p:=⟨bb,off+i*2,none⟩) hb).trans c0;have d1:=(hbel.cell (p:=⟨bb,off+i*2+1,none⟩) hb).trans c1;have hokt:=HOK.out _ (List.getElem_mem hlt);have HSZT:=h! (HSZ.out _ (List.getElem_mem hlt));have HNT:=h! (namesOf_take hlt);have HLE:=h! (namesOf_le ts (i+1));have HI1:=h! hlt;generalize hti:ts[i]=t at *;have HTI:=h! hti;obtain⟨tn,rels⟩:=t;dsimp only at *;obtain⟨hon,hor⟩:=hokt;dsimp only at hon hor;have HNT:=h! (show namesOf (ts.take (i+1))=namesOf (ts.take i)++nmsP tn rels from HNT.out);have HKT:=h! (show tn.size<=maxLen from by unfold maxLen;omega);have HORT:=h! hor;obtain⟨ao2,c2',rfl,hlc3,hcm3,hcell3⟩:=hat2.rows;have HC3:=h! hcell3;have hea:Ext wr (wr.alloc (.cells #[.string tn,.slice ao2 rels.length c2'] 176)):=Ext.alloc _ _;have HTA0:=h! (Blk.made wr #[.string tn,.slice ao2 rels.length c2'] 176);have hta:=HTA0.out.cells;have HNTB:=h! (show wr.heap.size≠bn from by have:=HM.out.lt;omega);obtain⟨w4,hst,hM4,hT4⟩:=(HM.out.below hea).store refK r2V_inj Tryz.underlying141 (ref_key ⟨tn,ByteArray.empty⟩ ⟨HKT.out,by show ByteArray.empty.size<=maxLen;exact Nat.zero_le _⟩) true;rw[put_addR]at hM4;unfold r2V bV at hst;dsimp only at hst;rw[show(ByteArray.empty:ByteArray)=⟨#[]⟩from rfl]at hst;have HM4:=h! hM4;have HTK4:=h! (Tk.next htk (Tk.next (Tk.of hea) (Tk.turned hT4)));have HTA:=h! ((Tk.turned hT4).box HTA0.out HNTB.out);have ht4:=HTA.out.cells;have HB4:=h! (HB3.out.trans (HTK4.out.below HB3.out.size HBN.out));have HN4:=h! (show NamesI (namesOf (ts.take i)++nmsP tn (rels.take 0)) (addR N ⟨tn,ByteArray.empty⟩)from by rw[List.take_zero];exact HN.out.step _)
    have hal:(namesOf (ts.take i)).length+(1+rels.length)<=1099511627776:=by
     have h1:=HLE.out;have h2:=HLN.out;rw[HNT.out,List.length_append,nmsP_length]at h1;omega
    have hw1:wrap64 (1+(rels.length:Int))=1+(rels.length:Int):=wrap_in _ (by omega) (by omega);have hw2:wrap64 (((namesOf (ts.take i)).length:Int)+(1+(rels.length:Int)))=((namesOf (ts.take i)).length:Int)+(1+(rels.length:Int)):=wrap_in _ (by omega) (by omega);have HW2:=h! hw2;clear c0 c1 hat2 hcell3 hbel htk hor hon hM4 hT4 hea hti hal;have HNT2:=h! HNTB.out;cases o with
    | true =>
     obtain⟨g1,hg1⟩:∃ g1,g1=(c16&&(ts.take i).all tyLong&&decide (rels.length<=16)):=⟨_,rfl⟩;have HG1:=h! hg1
     have HOT:=h! (show true=!g1 from by
      rw[hg1];have:=HO.out;revert this
      cases c16 <;> cases (ts.take i).all tyLong <;> simp)
     clear hg1;go_wp2_with fail
     clear hta ht4 hst d0 d1 hw1 hw2 hlt;generalize wr.heap.size=tb at *;go_loopw [7,54] (fun lv jj wr=>∃ (j:Nat) (N:List R2) (o:Bool),j<=rels.length/\jj = .int .i64 j/\lv = .bool o/\o=!(g1&&(rels.take j).all fun r=>decide (r.2.sz<=32))/\Mp Tryz.prog 121 r2V bV wr bn (blR N)/\NamesI (namesOf (ts.take i)++nmsP tn (rels.take j)) N/\Tk bn w4 wr) (fun _ jj _=>rels.length-(intOf jj).toNat)
     case atStart=>exact⟨0,addR N ⟨tn,ByteArray.empty⟩,true,by omega,rfl,rfl,by rw[List.take_zero];first | (simp;done) | (simpa using HOT.out),HM4.out,HN4.out,Tk.refl _ _⟩
     case round =>
      obtain⟨j,N,o,hj,rfl,rfl,ho,hm,hn,htk⟩:=hrel;have HOR:=h! ho;have HMR:=h! hm;have HNI:=h! hn;have HTKR:=h! htk;clear HM4 HN4 ho hm hn;by_cases hlt:j<rels.length
      ·have hbel:Below w.heap.size w wr:=HB4.out.trans (htk.below HB4.out.size HBN.out);have HOR1:=HORT.out _ (List.getElem_mem hlt);have hsz1:=HSZT.out _ (List.getElem_mem hlt);have HJ1:=h! hlt;have HNP:=h! (nmsP_take (n:=tn) hlt);have HJS:=h! (show((rels.take (j+1)).all fun r=>decide (r.2.sz<=32))=((rels.take j).all (fun r=>decide (r.2.sz<=32))&&decide (rels[j].2.sz<=32))from by rw[List.take_succ_eq_append_getElem hlt,List.all_append];simp only[List.all_cons,List.all_nil,Bool.and_true];rfl);obtain⟨bb,off,pv,hbo,hb,c0,c1,c2,c3,c4,hat2⟩:=HC3.out j hlt;cases hbo;have d0:=(hbel.cell (p:=⟨bb,off+j*5,none⟩) hb).trans c0;have d1:=(hbel.cell (p:=⟨bb,off+j*5+1,none⟩) hb).trans c1;have d2:=(hbel.cell (p:=⟨bb,off+j*5+2,none⟩) hb).trans c2;have d3:=(hbel.cell (p:=⟨bb,off+j*5+3,none⟩) hb).trans c3;have d4:=(hbel.cell (p:=⟨bb,off+j*5+4,none⟩) hb).trans c4;obtain⟨ao3,c3',rfl,-⟩:=hat2.rows;generalize rels[j]=x at *;obtain⟨xn,p⟩:=x;dsimp only at *;have HKX:=h! (show xn.size<=maxLen from by have:=HOR1.1;unfold maxLen;omega);have hea:Ext wr (wr.alloc (.cells #[.string xn,.int .i64 p.k,.string p.a,.string p.b,.slice ao3 p.ps.length c3'] 181)):=Ext.alloc _ _;have HRB:=h! (Blk.made wr #[.string xn,.int .i64 p.k,.string p.a,.string p.b,.slice ao3 p.ps.length c3'] 181);have hbx:=HRB.out.cells;have HSZ4:=h! (sizeR_any p _ _ (RTAt.mono (hat2.same (Same.below (hbel.trans (hea.mono hbel.size)))) (fun x hx=>Nat.lt_of_lt_of_le hx (Nat.le_trans hbel.size hea.size))) hsz1);unfold rV at HSZ4;clear c0 c1 c2 c3 c4 hat2 hb htk hbel HOR1 hsz1 hlt;cases o with
       | true =>
        have HXE:=h! (show Ext wr (wr.alloc (.cells #[.string xn,.int .i64 p.k,.string p.a,.string p.b,.slice ao3 p.ps.length c3'] 181))from hea);obtain⟨w6,hst,hM6,hT6⟩:=(HMR.out.below HXE.out).store refK r2V_inj Tryz.underlying141 (ref_key ⟨tn,xn⟩ ⟨HKT.out,HKX.out⟩) true;rw[put_addR]at hM6;unfold r2V bV at hst;dsimp only at hst;have HM6:=h! hM6;have HTK6:=h! (Tk.next HTKR.out (Tk.next (Tk.of HXE.out) (Tk.turned hT6)));have r5:=HRB.out.cells;have t5:=((HTKR.out.box HTA.out HNT2.out).below HXE.out).cells;clear hM6 hT6
        have HO6:=h! (show true=!(g1&&(rels.take (j+1)).all fun r=>decide (r.2.sz<=32))from by
         rw[HJS.out];have:=HOR.out;revert this
         cases g1 <;> cases (rels.take j).all fun r=>decide (r.2.sz<=32) <;> simp)
        have HN6:=h! (show NamesI (namesOf (ts.take i)++nmsP tn (rels.take (j+1))) (addR N ⟨tn,xn⟩)from by
         rw[HNP.out,<- List.append_assoc];exact HNI.out.step _)
        have hlt2:=HJ1.out;clear HXE;go_wp2_with fail
        clear r5 t5 hst d0 d1 d2 d3 d4;go_roundw
        case rel=>exact⟨j+1,addR N ⟨tn,xn⟩,true,by omega,by go_num,rfl,HO6.out,HM6.out,HN6.out,HTK6.out⟩
        case measure=>simp[intOf];omega
       | false =>
        go_wp2_with fail
        refine HSZ4.out.mono ?_;rintro e w5 ⟨rfl,hb5⟩;have HB5:=h! hb5;clear HSZ4 hb5;have HXE:=h! (show Ext wr w5 from Ext.trans hea HB5.out);obtain⟨w6,hst,hM6,hT6⟩:=(HMR.out.below HXE.out).store refK r2V_inj Tryz.underlying141 (ref_key ⟨tn,xn⟩ ⟨HKT.out,HKX.out⟩) true;rw[put_addR]at hM6;unfold r2V bV at hst;dsimp only at hst;have HM6:=h! hM6;have HTK6:=h! (Tk.next HTKR.out (Tk.next (Tk.of HXE.out) (Tk.turned hT6)));have r5:=(HRB.out.below HB5.out).cells;have t5:=((HTKR.out.box HTA.out HNT2.out).below HXE.out).cells;clear hM6 hT6
        have HO6:=h! (show(decide ((32:Int)<(p.sz:Int)))=!(g1&&(rels.take (j+1)).all fun r=>decide (r.2.sz<=32))from by
         rw[HJS.out];have:=HOR.out;rw[show(decide ((32:Int)<(p.sz:Int)))=!decide (p.sz<=32)from by by_cases h:p.sz<=32 <;> simp[h] <;> omega];revert this
         cases g1 <;> cases (rels.take j).all fun r=>decide (r.2.sz<=32) <;> simp)
        have HN6:=h! (show NamesI (namesOf (ts.take i)++nmsP tn (rels.take (j+1))) (addR N ⟨tn,xn⟩)from by
         rw[HNP.out,<- List.append_assoc];exact HNI.out.step _)
        have hlt2:=HJ1.out;clear HXE;go_wp2_with fail
        clear r5 t5 hst d0 d1 d2 d3 d4;go_roundw
        case rel=>exact⟨j+1,addR N ⟨tn,xn⟩,(decide ((32:Int)<(p.sz:Int))),by omega,by go_num,rfl,HO6.out,HM6.out,HN6.out,HTK6.out⟩
        case measure=>simp[intOf];omega
      ·obtain rfl:j=rels.length:=by omega
       rw[List.take_length]at HOR HNI
       have HOE:=h! (show o=!(c16&&(ts.take (i+1)).all tyLong)from by
        have he:ts[i]'HI1.out=⟨tn,rels⟩:=HTI.out;rw[HOR.out,HG1.out,List.take_succ_eq_append_getElem HI1.out,List.all_append,he];show _=!(c16&&((ts.take i).all tyLong&&(tyLong ⟨tn,rels⟩&&true)))
        unfold tyLong;dsimp only;simp only[Bool.and_assoc,Bool.and_true])
       have HNE:=h! (show NamesI (namesOf (ts.take (i+1))) N from by rw[HNT.out];exact HNI.out)
       have HAE:=h! (show Value.int .i64 (wrap64 (((namesOf (ts.take i)).length:Int)+(1+(rels.length:Int)))) = .int .i64 (((namesOf (ts.take (i+1))).length:Nat):Int)from by
        have e:(((namesOf (ts.take i)).length:Int)+(1+(rels.length:Int)))=(((namesOf (ts.take (i+1))).length:Nat):Int):=by
         rw[HNT.out,List.length_append,nmsP_length];omega
        rw[HW2.out,e])
       have HTE:=h! (Tk.next HTK4.out htk);have hlt2:=HI1.out;clear htk;go_wp2_with fail
       go_roundw
       case rel=>exact⟨i+1,N,o,by omega,by go_num,HAE.out,rfl,HOE.out,HMR.out,HNE.out,HTE.out⟩
       case measure=>simp[intOf];omega
    | false =>
     obtain⟨g1,hg1⟩:∃ g1,g1=(c16&&(ts.take i).all tyLong&&decide (rels.length<=16)):=⟨_,rfl⟩;have HG1:=h! hg1
     have HOT:=h! (show(decide ((16:Int)<(rels.length:Int)))=!g1 from by
      rw[hg1];have:=HO.out;revert this
      rw[show(decide ((16:Int)<(rels.length:Int)))=!decide (rels.length<=16)from by by_cases h:rels.length<=16 <;> simp[h] <;> omega];cases c16 <;> cases (ts.take i).all tyLong <;> simp)
     clear hg1;go_wp2_with fail
     clear hta ht4 hst d0 d1 hw1 hw2 hlt;rw[HOT.out];have HOT:=h! (show(!g1)=!g1 from rfl);generalize wr.heap.size=tb at *;go_loopw [7,54] (fun lv jj wr=>∃ (j:Nat) (N:List R2) (o:Bool),j<=rels.length/\jj = .int .i64 j/\lv = .bool o/\o=!(g1&&(rels.take j).all fun r=>decide (r.2.sz<=32))/\Mp Tryz.prog 121 r2V bV wr bn (blR N)/\NamesI (namesOf (ts.take i)++nmsP tn (rels.take j)) N/\Tk bn w4 wr) (fun _ jj _=>rels.length-(intOf jj).toNat)
     case atStart=>exact⟨0,addR N ⟨tn,ByteArray.empty⟩,!g1,by omega,rfl,rfl,by rw[List.take_zero];first | (simp;done) | (simpa using HOT.out),HM4.out,HN4.out,Tk.refl _ _⟩
     case round =>
      obtain⟨j,N,o,hj,rfl,rfl,ho,hm,hn,htk⟩:=hrel;have HOR:=h! ho;have HMR:=h! hm;have HNI:=h! hn;have HTKR:=h! htk;clear HM4 HN4 ho hm hn;by_cases hlt:j<rels.length
      ·have hbel:Below w.heap.size w wr:=HB4.out.trans (htk.below HB4.out.size HBN.out);have HOR1:=HORT.out _ (List.getElem_mem hlt);have hsz1:=HSZT.out _ (List.getElem_mem hlt);have HJ1:=h! hlt;have HNP:=h! (nmsP_take (n:=tn) hlt);have HJS:=h! (show((rels.take (j+1)).all fun r=>decide (r.2.sz<=32))=((rels.take j).all (fun r=>decide (r.2.sz<=32))&&decide (rels[j].2.sz<=32))from by rw[List.take_succ_eq_append_getElem hlt,List.all_append];simp only[List.all_cons,List.all_nil,Bool.and_true];rfl);obtain⟨bb,off,pv,hbo,hb,c0,c1,c2,c3,c4,hat2⟩:=HC3.out j hlt;cases hbo;have d0:=(hbel.cell (p:=⟨bb,off+j*5,none⟩) hb).trans c0;have d1:=(hbel.cell (p:=⟨bb,off+j*5+1,none⟩) hb).trans c1;have d2:=(hbel.cell (p:=⟨bb,off+j*5+2,none⟩) hb).trans c2;have d3:=(hbel.cell (p:=⟨bb,off+j*5+3,none⟩) hb).trans c3;have d4:=(hbel.cell (p:=⟨bb,off+j*5+4,none⟩) hb).trans c4;obtain⟨ao3,c3',rfl,-⟩:=hat2.rows;generalize rels[j]=x at *;obtain⟨xn,p⟩:=x;dsimp only at *;have HKX:=h! (show xn.size<=maxLen from by have:=HOR1.1;unfold maxLen;omega);have hea:Ext wr (wr.alloc (.cells #[.string xn,.int .i64 p.k,.string p.a,.string p.b,.slice ao3 p.ps.length c3'] 181)):=Ext.alloc _ _;have HRB:=h! (Blk.made wr #[.string xn,.int .i64 p.k,.string p.a,.string p.b,.slice ao3 p.ps.length c3'] 181);have hbx:=HRB.out.cells;have HSZ4:=h! (sizeR_any p _ _ (RTAt.mono (hat2.same (Same.below (hbel.trans (hea.mono hbel.size)))) (fun x hx=>Nat.lt_of_lt_of_le hx (Nat.le_trans hbel.size hea.size))) hsz1);unfold rV at HSZ4;clear c0 c1 c2 c3 c4 hat2 hb htk hbel HOR1 hsz1 hlt;cases o with
       | true =>
        have HXE:=h! (show Ext wr (wr.alloc (.cells #[.string xn,.int .i64 p.k,.string p.a,.string p.b,.slice ao3 p.ps.length c3'] 181))from hea);obtain⟨w6,hst,hM6,hT6⟩:=(HMR.out.below HXE.out).store refK r2V_inj Tryz.underlying141 (ref_key ⟨tn,xn⟩ ⟨HKT.out,HKX.out⟩) true;rw[put_addR]at hM6;unfold r2V bV at hst;dsimp only at hst;have HM6:=h! hM6;have HTK6:=h! (Tk.next HTKR.out (Tk.next (Tk.of HXE.out) (Tk.turned hT6)));have r5:=HRB.out.cells;have t5:=((HTKR.out.box HTA.out HNT2.out).below HXE.out).cells;clear hM6 hT6
        have HO6:=h! (show true=!(g1&&(rels.take (j+1)).all fun r=>decide (r.2.sz<=32))from by
         rw[HJS.out];have:=HOR.out;revert this
         cases g1 <;> cases (rels.take j).all fun r=>decide (r.2.sz<=32) <;> simp)
        have HN6:=h! (show NamesI (namesOf (ts.take i)++nmsP tn (rels.take (j+1))) (addR N ⟨tn,xn⟩)from by
         rw[HNP.out,<- List.append_assoc];exact HNI.out.step _)
        have hlt2:=HJ1.out;clear HXE;go_wp2_with fail
        clear r5 t5 hst d0 d1 d2 d3 d4;go_roundw
        case rel=>exact⟨j+1,addR N ⟨tn,xn⟩,true,by omega,by go_num,rfl,HO6.out,HM6.out,HN6.out,HTK6.out⟩
        case measure=>simp[intOf];omega
       | false =>
        go_wp2_with fail
        refine HSZ4.out.mono ?_;rintro e w5 ⟨rfl,hb5⟩;have HB5:=h! hb5;clear HSZ4 hb5;have HXE:=h! (show Ext wr w5 from Ext.trans hea HB5.out);obtain⟨w6,hst,hM6,hT6⟩:=(HMR.out.below HXE.out).store refK r2V_inj Tryz.underlying141 (ref_key ⟨tn,xn⟩ ⟨HKT.out,HKX.out⟩) true;rw[put_addR]at hM6;unfold r2V bV at hst;dsimp only at hst;have HM6:=h! hM6;have HTK6:=h! (Tk.next HTKR.out (Tk.next (Tk.of HXE.out) (Tk.turned hT6)));have r5:=(HRB.out.below HB5.out).cells;have t5:=((HTKR.out.box HTA.out HNT2.out).below HXE.out).cells;clear hM6 hT6
        have HO6:=h! (show(decide ((32:Int)<(p.sz:Int)))=!(g1&&(rels.take (j+1)).all fun r=>decide (r.2.sz<=32))from by
         rw[HJS.out];have:=HOR.out;rw[show(decide ((32:Int)<(p.sz:Int)))=!decide (p.sz<=32)from by by_cases h:p.sz<=32 <;> simp[h] <;> omega];revert this
         cases g1 <;> cases (rels.take j).all fun r=>decide (r.2.sz<=32) <;> simp)
        have HN6:=h! (show NamesI (namesOf (ts.take i)++nmsP tn (rels.take (j+1))) (addR N ⟨tn,xn⟩)from by
         rw[HNP.out,<- List.append_assoc];exact HNI.out.step _)
        have hlt2:=HJ1.out;clear HXE;go_wp2_with fail
        clear r5 t5 hst d0 d1 d2 d3 d4;go_roundw
        case rel=>exact⟨j+1,addR N ⟨tn,xn⟩,(decide ((32:Int)<(p.sz:Int))),by omega,by go_num,rfl,HO6.out,HM6.out,HN6.out,HTK6.out⟩
        case measure=>simp[intOf];omega
      ·obtain rfl:j=rels.length:=by omega
       rw[List.take_length]at HOR HNI
       have HOE:=h! (show o=!(c16&&(ts.take (i+1)).all tyLong)from by
        have he:ts[i]'HI1.out=⟨tn,rels⟩:=HTI.out;rw[HOR.out,HG1.out,List.take_succ_eq_append_getElem HI1.out,List.all_append,he];show _=!(c16&&((ts.take i).all tyLong&&(tyLong ⟨tn,rels⟩&&true)))
        unfold tyLong;dsimp only;simp only[Bool.and_assoc,Bool.and_true])
       have HNE:=h! (show NamesI (namesOf (ts.take (i+1))) N from by rw[HNT.out];exact HNI.out)
       have HAE:=h! (show Value.int .i64 (wrap64 (((namesOf (ts.take i)).length:Int)+(1+(rels.length:Int)))) = .int .i64 (((namesOf (ts.take (i+1))).length:Nat):Int)from by
        have e:(((namesOf (ts.take i)).length:Int)+(1+(rels.length:Int)))=(((namesOf (ts.take (i+1))).length:Nat):Int):=by
         rw[HNT.out,List.length_append,nmsP_length];omega
        rw[HW2.out,e])
       have HTE:=h! (Tk.next HTK4.out htk);have hlt2:=HI1.out;clear htk;go_wp2_with fail
       go_roundw
       case rel=>exact⟨i+1,N,o,by omega,by go_num,HAE.out,rfl,HOE.out,HMR.out,HNE.out,HTE.out⟩
       case measure=>simp[intOf];omega
   ·obtain rfl:i=ts.length:=by omega
    rw[List.take_length]at HO HN;have hlg:longOk ts=!o:=by rw[HO.out,HC16.out];unfold longOk;simp
    have HB4:=h! (HB3.out.trans (htk.below HB3.out.size HBN.out));have HG2:=h! (show g=if longOk ts then(if uniqOk ts then(if namesOk ts then 0 else 2)else 3)else 10 from by rw[HG.out,if_pos HP.out]);have HST:=h! (htk.box HS3.out HNS.out);have hmlen:=HM.out.len Tryz.underlying141;have hbl:(blR N).length=N.length:=by simp[blR]
    rw[hbl]at hmlen;have HNL:=h! HN.out.lt;have HOB:=h! (fun(hu:uniqOk ts=true)=>open_bk ts _ wr (HTS.out.up HB4.out) HOK.out hu HLR.out);have s4:=HST.out.cells;clear htk hbl;cases o with
    | true =>
     have HF:=h! (show g=10 from by rw[HG2.out,hlg];rfl);clear hlg;go_wp2_with fail
     go_ret
     exact⟨by rw[HF.out];rfl,HB4.out⟩
    | false =>
     have HG3:=h! (show g=if uniqOk ts then(if namesOk ts then 0 else 2)else 3 from by rw[HG2.out,hlg];rfl);clear hlg;by_cases hnd:(namesOf ts).Nodup
     rotate_left
     ·have HF:=h! (show g=3 from by rw[HG3.out,if_neg (fun h=>hnd ((names_nodup HP.out).2 h))]);have hlt:(N.length:Int)<((namesOf ts).length:Int):=by have:=HNL.out.2 hnd;omega
      clear hnd;go_wp2_with fail
      go_ret
      exact⟨by rw[HF.out];rfl,HB4.out⟩
     have hu:=(names_nodup HP.out).1 hnd;have HU:=h! hu;have HG4:=h! (show g=if namesOk ts then 0 else 2 from by rw[HG3.out,if_pos hu])
     have hge:¬ ((N.length:Int)<((namesOf ts).length:Int)):=by
      have:¬ N.length<(namesOf ts).length:=fun h=>HNL.out.1 h hnd;omega
     have HOB2:=h! (HOB.out hu);clear hnd hu HOB;go_wp2_with fail
     refine HOB2.out.mono ?_;rintro e w5 ⟨b1,b2,b3,rfl,hbk,hb5⟩;have HBK0:=h! hbk;have HB5:=h! (HB4.out.trans (hb5.mono HB4.out.size));obtain⟨w6,hw6⟩:∃ x,x=w5.alloc (.cells #[.map (some b1),.map (some b2),.map (some b3)] 229):=⟨_,rfl⟩;have x56:Ext w5 w6:=by rw[hw6];exact Ext.alloc _ _
     have HBC:=h! (show Blk w6 w5.heap.size #[.map (some b1),.map (some b2),.map (some b3)] 229 from by rw[hw6];exact Blk.made _ _ _);have HBK:=h! (hbk.up x56);have HB6:=h! (show Below w.heap.size w w6 from HB5.out.trans (x56.mono HB5.out.size));obtain⟨lr,hM,hLP,hLA⟩:=HBK.out.R;have HLP:=h! hLP;have HLA:=h! hLA;have c6:=HBC.out.cells;subst hw6;clear HOB2 hbk hb5 x56 hLP hLA s4 hmlen hge;go_wp2_with (at_range;go_must (refine wpList_mp_range _ rfl _ 225 rfl Tryz.underlying225 rfl hM ?_);intro wR hRg hbR hszR)
     try go_frame
     have HRG0:=h! hRg;have HBR:=h! hbR;clear c6 hM hRg hbR hszR;obtain⟨w6,hw6⟩:∃ x,x=w5.alloc (.cells #[.map (some b1),.map (some b2),.map (some b3)] 229):=⟨_,rfl⟩;rw[<- hw6]at HBC HBK HB6 HLA HRG0 HBR ⊢;clear hw6;obtain⟨nR,hnR⟩:∃ nR,nR=w6.heap.size:=⟨_,rfl⟩;rw[<- hnR]at HRG0 ⊢;have HNRL:=h! (show w6.heap.size<=nR from by omega);clear hnR;generalize w5.heap.size=bc at *;go_loopw [85] (fun _ wr=>∃ rem:List (R2 × RV),Rng Tryz.prog 121 r2V rvV wr b1 nR lr rem/\(∀ x∈lr,x∈rem\/x.2.1.pnamed (refsOf ts) x.1.t=true)/\(∀ x∈rem,x∈lr)/\Below w6.heap.size w6 wr) (fun _ wr=>wr.rangeLeft b1 nR)
     case atStart=>exact⟨lr,HRG0.out,fun x hx => .inl hx,fun x hx=>hx,HBR.out⟩
     case round =>
      obtain⟨rem,hRg,hall,hsub,hbel⟩:=hrel;have HALL:=h! hall;have HSUB:=h! hsub;have HBL:=h! hbel;clear HRG0 HBR hall hsub hbel;go_wp2_with (at_next;go_must (refine wpList_mp_next _ rfl _ rfl rfl hRg ?_ ?_))
      ·intro hrem;subst hrem
       have HF:=h! (show g=0 from by
        rw[HG4.out,if_pos];refine(names_all HP.out HU.out).1 fun x hx=>?_;rw[<- HLP.out]at hx;obtain⟨y,hy,rfl⟩:=List.mem_map.1 hx;rcases HALL.out y hy with h | h
        ·cases h
        ·exact h)
       have HBE:=h! (HB6.out.trans (HBL.out.mono HB6.out.size));clear hRg;go_wp2_with fail
       go_ret
       exact⟨by rw[HF.out];rfl,HBE.out⟩
      ·rintro pre ⟨kt,kr⟩ p pv post w7 hrem hRg2 hk2 hs2 hen;have hum:((⟨kt,kr⟩,(p,pv)):R2 × RV)∈lr:=HSUB.out _ (by rw[hrem];simp);have hup:(⟨⟨kt,kr⟩,p⟩:R2 × RT)∈refsOf ts:=by rw[<- HLP.out];exact List.mem_map.2 ⟨_,hum,rfl⟩
       obtain⟨t,ht,r,hr,he⟩:=refs_mem.1 hup;have hok1:=HOK.out t ht;have hok2:=hok1.2 r hr;have hkt:kt.size<=maxLen:=by injection he with e1 e2;injection e1 with e3 e4;rw[e3];have:=hok1.1;unfold maxLen;omega
       have hpo:p.Ok:=by injection he with e1 e2;rw[e2];exact hok2.2
       have hb7:Below w6.heap.size w6 w7:=HBL.out.trans (Kept.below hk2 fun x hx=>by have:=HNRL.out;show x≠nR;omega);have hat7:=(HLA.out _ hum).up hb7;dsimp only at hat7;obtain⟨ao3,c3',rfl,-⟩:=hat7.rows;have HB7:=h! hb7;obtain⟨w8,hw8⟩:∃ x,x=w7.alloc (.cells #[.string kt,.string kr] 121):=⟨_,rfl⟩;obtain⟨w9,hw9⟩:∃ x,x=w8.alloc (.cells #[.int .i64 p.k,.string p.a,.string p.b,.slice ao3 p.ps.length c3'] 106):=⟨_,rfl⟩;have e8:w8.heap.size=w7.heap.size+1:=by rw[hw8];simp
       have x78:Ext w7 w8:=by rw[hw8];exact Ext.alloc _ _
       have x89:Ext w8 w9:=by rw[hw9];exact Ext.alloc _ _
       have k9:=(show Blk w9 w7.heap.size #[.string kt,.string kr] 121 from Blk.below (by rw[hw8];exact Blk.made _ _ _) x89).cells;have r9:=(show Blk w9 (w7.heap.size+1) #[.int .i64 p.k,.string p.a,.string p.b,.slice ao3 p.ps.length c3'] 106 from by rw[hw9,<- e8];exact Blk.made _ _ _).cells;have HB9:=h! (show Below w6.heap.size w6 w9 from hb7.trans ((x78.trans x89).mono hb7.size));have b9:=(HBC.out.below HB9.out).cells;have HNM:=h! (pnamed_any kt hkt p _ w9 (HBK.out.up HB9.out) (hat7.up (x78.trans x89)) hpo);have HRG9:=h! (hRg2.below (x78.trans x89));have HREM:=h! hrem;have hrl:wr.rangeLeft b1 nR=rem.length:=hRg.left_eq;have HRL:=h! hrl;unfold r2V rvV rV at hen;unfold rV at HNM;dsimp only at hen;subst hw9 hw8;clear hum hup ht hr he hok1 hok2 hkt hpo hb7 hat7 e8 x78 x89 hRg2 hRg hk2 hs2 hrl;cases hpn:p.pnamed (refsOf ts) kt with
       | false =>
        rw[hpn]at HNM
        have HF:=h! (show g=2 from by
         rw[HG4.out,if_neg];intro h;have h1:=(names_all HP.out HU.out).2 h (⟨kt,kr⟩,p) (by rw[<- HLP.out];exact List.mem_map.2 ⟨((⟨kt,kr⟩,(p,.slice ao3 p.ps.length c3')):R2 × RV),HSUB.out _ (by rw[hrem];simp),rfl⟩);dsimp only at h1;rw[hpn]at h1;cases h1)
        clear hrem hpn;go_wp2_with fail
        refine HNM.out.mono ?_;rintro e wa ⟨rfl,hba⟩;have HBE:=h! (HB6.out.trans ((HB9.out.trans (hba.mono HB9.out.size)).mono HB6.out.size));clear HNM hba k9 r9 b9 hen;go_wp2_with fail
        go_ret
        exact⟨by rw[HF.out];rfl,HBE.out⟩
       | true =>
        rw[hpn]at HNM;have HPN:=h! hpn;clear hrem hpn;go_wp2_with fail
        refine HNM.out.mono ?_;rintro e wa ⟨rfl,hba⟩;have hRa:=HRG9.out.below hba;have HRA:=h! hRa;have HBE:=h! (HB9.out.trans (hba.mono HB9.out.size));clear HNM hba k9 r9 b9 hen hRa;go_wp2_with fail
        go_roundw
        case rel =>
         refine⟨pre++post,HRA.out,fun x hx=>?_,fun x hx=>HSUB.out x (by rw[HREM.out];rcases List.mem_append.1 hx with h | h <;> simp[h]),HBE.out⟩;rcases HALL.out x hx with h | h
         ·rw[HREM.out]at h;rcases List.mem_append.1 h with h | h
          ·exact .inl (List.mem_append_left _ h)
          ·rcases List.mem_cons.1 h with rfl | h
           ·exact .inr HPN.out
           ·exact .inl (List.mem_append_right _ h)
         ·exact .inr h
        case measure=>rw[HRA.out.left_eq,HRL.out,HREM.out];simp
end Go.Proofs.YtlhaghoajpglaaaGreat
namespace Go.Proofs.YtlhaghoajpglaaaGreat
structure P3 where
 t:ByteArray
 i:ByteArray
 r:ByteArray
deriving DecidableEq
structure Tup where
 o:P3
 s:P3
deriving DecidableEq
instance:Inhabited P3:=⟨⟨ByteArray.empty,ByteArray.empty,ByteArray.empty⟩⟩
instance:Inhabited Tup:=⟨⟨default,default⟩⟩
def P3.isSet (p:P3):Prop:=p.r.size≠0
instance (p:P3):Decidable p.isSet:=by unfold P3.isSet;infer_instance
end Go.Proofs.YtlhaghoajpglaaaGreat
namespace Go.Proofs.YtlhaghoajpglaaaGreat
open Go Go.RowKit
def tV (t:Tup):Value := .agg #[.string t.o.t,.string t.o.i,.string t.o.r,.string t.s.t,.string t.s.i,.string t.s.r]
def P3.Ok (p:P3):Prop:=p.t.size<=maxLen/\p.i.size<=maxLen/\p.r.size<=maxLen
def Tup.Ok (t:Tup):Prop:=t.o.Ok/\t.s.Ok
def chkT (t:Tup):Bool:=isNm t.o.t&&isNm t.o.i&&isNm t.o.r&&isNm t.s.t&&isNm t.s.i&&(isNm t.s.r||decide (t.s.r.size=0))
def chkN (t:Tup):Int:=if chkT t then 0 else 2
theorem of_any (t:Tup)(w:World):Calls Tryz.prog 139 #[tV t] w fun e w'=>e = .returned (tV t)/\Below w.heap.size w w':=by
 obtain⟨⟨ot,oi,or_⟩,⟨st,si,sr⟩⟩:=t;have hb:=(Blk.made w #[.string ot,.string oi,.string or_,.string st,.string si,.string sr] 67);have h1:Below w.heap.size w (w.alloc (.cells #[.string ot,.string oi,.string or_,.string st,.string si,.string sr] 67)):=(Below.refl _ _).alloc (Nat.le_refl _) _;unfold tV;dsimp only;go_enter Tryz.func139,Tryz.ntmps139
 go_wp2_with fail
 refine bodyPost_ret (results_cell_row rfl _ _ (w.heap.size+1) 237 #[.string ot,.string oi,.string or_,.string st,.string si,.string sr] (0,0) _ rfl ?_ Tryz.underlying237 rfl (by kernel_rfl)) rfl ⟨rfl,h1.alloc h1.size _⟩;have:=heap_alloc_new (w.alloc (.cells #[.string ot,.string oi,.string or_,.string st,.string si,.string sr] 67)) (.cells #[.string ot,.string oi,.string or_,.string st,.string si,.string sr] 237);rwa[World.size_alloc]at this
theorem parts_at (a b c d e f:ByteArray)(W:World) :
  (Instr.index 237 (.agg #[.string a,.string b,.string c,.string d,.string e,.string f]) (.int .i64 0)).run Tryz.prog W = .ok (.string a) W /\
  (Instr.index 237 (.agg #[.string a,.string b,.string c,.string d,.string e,.string f]) (.int .i64 1)).run Tryz.prog W = .ok (.string b) W /\
  (Instr.index 237 (.agg #[.string a,.string b,.string c,.string d,.string e,.string f]) (.int .i64 2)).run Tryz.prog W = .ok (.string c) W /\
  (Instr.index 237 (.agg #[.string a,.string b,.string c,.string d,.string e,.string f]) (.int .i64 3)).run Tryz.prog W = .ok (.string d) W /\
  (Instr.index 237 (.agg #[.string a,.string b,.string c,.string d,.string e,.string f]) (.int .i64 4)).run Tryz.prog W = .ok (.string e) W /\
  (Instr.index 237 (.agg #[.string a,.string b,.string c,.string d,.string e,.string f]) (.int .i64 5)).run Tryz.prog W = .ok (.string f) W :=
 ⟨by kernel_rfl,by kernel_rfl,by kernel_rfl,by kernel_rfl,by kernel_rfl,by kernel_rfl⟩
theorem check_any (t:Tup)(ht:t.Ok)(w:World):Calls Tryz.prog 80 #[tV t] w fun e w'=>e = .returned (.int .i64 (chkN t))/\Below w.heap.size w w':=by
 obtain⟨⟨ot,oi,or_⟩,⟨st,si,sr⟩⟩:=t;have HOK:=h! ht;clear ht;have hb1:=(Blk.made w #[.string ot,.string oi,.string or_,.string st,.string si,.string sr] 67).cells;have HE:=h! (show Below w.heap.size w (w.alloc (.cells #[.string ot,.string oi,.string or_,.string st,.string si,.string sr] 67))from(Below.refl _ _).alloc (Nat.le_refl _) _);have HOF:=h! (of_any ⟨⟨ot,oi,or_⟩,⟨st,si,sr⟩⟩ (w.alloc (.cells #[.string ot,.string oi,.string or_,.string st,.string si,.string sr] 67)));unfold tV at HOF ⊢;dsimp only at HOF ⊢;unfold Tup.Ok P3.Ok at HOK;dsimp only at HOK;go_enter Tryz.func80,Tryz.ntmps80
 go_wp2_with fail
 refine HOF.out.mono ?_;rintro e w2 ⟨rfl,hb2⟩;have HBW:=h! (HE.out.trans (hb2.mono HE.out.size));clear HE HOF hb2 hb1;obtain⟨p0,p1,p2,p3,p4,p5⟩:=parts_at ot oi or_ st si sr w2;go_wp2_with fail
 refine wp_loop_rounds 7 ?_;rw[rounds_succ];go_wp2_with fail
 refine(isName_any ot HOK.out.1.1 _).mono ?_;rintro e w' ⟨rfl,rfl⟩;rcases hb0:isNm ot with _ | _
 ·have HB:=h! hb0;clear hb0;go_wp2_with fail
  go_ret
  exact⟨congrArg (fun n=>Ending.returned (.int .i64 n)) (show(2:Int)=chkN ⟨⟨ot,oi,or_⟩,⟨st,si,sr⟩⟩from by simp[chkN,chkT,HB.out]),HBW.out⟩
 have HB0:=h! hb0;clear hb0;go_wp2_with fail
 rw[rounds_succ];go_wp2_with fail
 refine(isName_any oi HOK.out.1.2.1 _).mono ?_;rintro e w' ⟨rfl,rfl⟩;rcases hb1:isNm oi with _ | _
 ·have HB:=h! hb1;clear hb1;go_wp2_with fail
  go_ret
  exact⟨congrArg (fun n=>Ending.returned (.int .i64 n)) (show(2:Int)=chkN ⟨⟨ot,oi,or_⟩,⟨st,si,sr⟩⟩from by simp[chkN,chkT,HB.out]),HBW.out⟩
 have HB1:=h! hb1;clear hb1;go_wp2_with fail
 rw[rounds_succ];go_wp2_with fail
 refine(isName_any or_ HOK.out.1.2.2 _).mono ?_;rintro e w' ⟨rfl,rfl⟩;rcases hb2:isNm or_ with _ | _
 ·have HB:=h! hb2;clear hb2;go_wp2_with fail
  go_ret
  exact⟨congrArg (fun n=>Ending.returned (.int .i64 n)) (show(2:Int)=chkN ⟨⟨ot,oi,or_⟩,⟨st,si,sr⟩⟩from by simp[chkN,chkT,HB.out]),HBW.out⟩
 have HB2:=h! hb2;clear hb2;go_wp2_with fail
 rw[rounds_succ];go_wp2_with fail
 refine(isName_any st HOK.out.2.1 _).mono ?_;rintro e w' ⟨rfl,rfl⟩;rcases hb3:isNm st with _ | _
 ·have HB:=h! hb3;clear hb3;go_wp2_with fail
  go_ret
  exact⟨congrArg (fun n=>Ending.returned (.int .i64 n)) (show(2:Int)=chkN ⟨⟨ot,oi,or_⟩,⟨st,si,sr⟩⟩from by simp[chkN,chkT,HB.out]),HBW.out⟩
 have HB3:=h! hb3;clear hb3;go_wp2_with fail
 rw[rounds_succ];go_wp2_with fail
 refine(isName_any si HOK.out.2.2.1 _).mono ?_;rintro e w' ⟨rfl,rfl⟩;rcases hb4:isNm si with _ | _
 ·have HB:=h! hb4;clear hb4;go_wp2_with fail
  go_ret
  exact⟨congrArg (fun n=>Ending.returned (.int .i64 n)) (show(2:Int)=chkN ⟨⟨ot,oi,or_⟩,⟨st,si,sr⟩⟩from by simp[chkN,chkT,HB.out]),HBW.out⟩
 have HB4:=h! hb4;clear hb4;go_wp2_with fail
 rw[rounds_succ];go_wp2_with fail
 refine(isName_any sr HOK.out.2.2.2 _).mono ?_;rintro e w' ⟨rfl,rfl⟩;rcases hb5:isNm sr with _ | _
 ·have HB5:=h! hb5;clear hb5;by_cases h0:sr.size=0
  ·obtain rfl:=ba_size_eq h0;clear h0;go_wp2_with fail
   rw[rounds_succ];go_wp2_with fail
   go_ret
   exact⟨congrArg (fun n=>Ending.returned (.int .i64 n)) (show(0:Int)=chkN ⟨⟨ot,oi,or_⟩,⟨st,si,⟨#[]⟩⟩⟩from by simp[chkN,chkT,HB0.out,HB1.out,HB2.out,HB3.out,HB4.out,show(ByteArray.mk #[]).size=0 from rfl]),HBW.out⟩
  ·have hne:=ba_size_ne h0;have H0:=h! h0;clear h0;go_wp2_with fail
   go_ret
   exact⟨congrArg (fun n=>Ending.returned (.int .i64 n)) (show(2:Int)=chkN ⟨⟨ot,oi,or_⟩,⟨st,si,sr⟩⟩from by simp[chkN,chkT,HB5.out,H0.out]),HBW.out⟩
 ·have HB5:=h! hb5;clear hb5;go_wp2_with fail
  rw[rounds_succ];go_wp2_with fail
  go_ret
  exact⟨congrArg (fun n=>Ending.returned (.int .i64 n)) (show(0:Int)=chkN ⟨⟨ot,oi,or_⟩,⟨st,si,sr⟩⟩from by simp[chkN,chkT,HB0.out,HB1.out,HB2.out,HB3.out,HB4.out,HB5.out]),HBW.out⟩
theorem parts_any (t:Tup)(w:World):Calls Tryz.prog 100 #[tV t] w fun e w'=>e = .returned (.slice (some ⟨w.heap.size+1,0,none⟩) 6 6) /\
  Blk w' (w.heap.size+1) #[.string t.o.t,.string t.o.i,.string t.o.r,.string t.s.t,.string t.s.i,.string t.s.r] 9/\Below w.heap.size w w':=by
 obtain⟨⟨ot,oi,or_⟩,⟨st,si,sr⟩⟩:=t;have hb:=(Blk.made w #[.string ot,.string oi,.string or_,.string st,.string si,.string sr] 67);have h1:Below w.heap.size w (w.alloc (.cells #[.string ot,.string oi,.string or_,.string st,.string si,.string sr] 67)):=(Below.refl _ _).alloc (Nat.le_refl _) _;unfold tV;dsimp only;go_enter Tryz.func100,Tryz.ntmps100
 go_wp2_with fail
 go_ret
 refine⟨rfl,?_,h1.alloc h1.size _⟩;have:=heap_alloc_new (w.alloc (.cells #[.string ot,.string oi,.string or_,.string st,.string si,.string sr] 67)) (.cells #[.string ot,.string oi,.string or_,.string st,.string si,.string sr] 9);rwa[World.size_alloc]at this
theorem refCheck_any (t:Tup)(ht:t.Ok)(w:World):Calls Tryz.prog 108 #[tV t] w fun e w'=>e = .returned (.int .i64 (chkN t))/\Below w.heap.size w w':=by
 obtain⟨⟨ot,oi,or_⟩,⟨st,si,sr⟩⟩:=t;have HOK:=h! ht;clear ht;have hb1:=(Blk.made w #[.string ot,.string oi,.string or_,.string st,.string si,.string sr] 67).cells;have HE:=h! (show Below w.heap.size w (w.alloc (.cells #[.string ot,.string oi,.string or_,.string st,.string si,.string sr] 67))from(Below.refl _ _).alloc (Nat.le_refl _) _);have HOF:=h! (parts_any ⟨⟨ot,oi,or_⟩,⟨st,si,sr⟩⟩ (w.alloc (.cells #[.string ot,.string oi,.string or_,.string st,.string si,.string sr] 67)));unfold tV at HOF ⊢;dsimp only at HOF ⊢;unfold Tup.Ok P3.Ok at HOK;dsimp only at HOK;go_enter Tryz.func108,Tryz.ntmps108
 go_wp2_with fail
 refine HOF.out.mono ?_;rintro e w2 ⟨rfl,hP,hb2⟩;have HBW:=h! (HE.out.trans (hb2.mono HE.out.size));clear HE HOF hb2 hb1;have cP:=hP.cells;simp only[World.size_alloc]at cP ⊢;go_wp2_with fail
 refine wp_loop_rounds 7 ?_;rw[rounds_succ];go_wp2_with fail
 refine(refName_any ot HOK.out.1.1 _).mono ?_;rintro e w' ⟨rfl,rfl⟩;rcases hb0:isNm ot with _ | _
 ·have HB:=h! hb0;clear hb0;go_wp2_with fail
  go_ret
  exact⟨congrArg (fun n=>Ending.returned (.int .i64 n)) (show(2:Int)=chkN ⟨⟨ot,oi,or_⟩,⟨st,si,sr⟩⟩from by simp[chkN,chkT,HB.out]),HBW.out⟩
 have HB0:=h! hb0;clear hb0;go_wp2_with fail
 rw[rounds_succ];go_wp2_with fail
 refine(refName_any oi HOK.out.1.2.1 _).mono ?_;rintro e w' ⟨rfl,rfl⟩;rcases hb1:isNm oi with _ | _
 ·have HB:=h! hb1;clear hb1;go_wp2_with fail
  go_ret
  exact⟨congrArg (fun n=>Ending.returned (.int .i64 n)) (show(2:Int)=chkN ⟨⟨ot,oi,or_⟩,⟨st,si,sr⟩⟩from by simp[chkN,chkT,HB.out]),HBW.out⟩
 have HB1:=h! hb1;clear hb1;go_wp2_with fail
 rw[rounds_succ];go_wp2_with fail
 refine(refName_any or_ HOK.out.1.2.2 _).mono ?_;rintro e w' ⟨rfl,rfl⟩;rcases hb2:isNm or_ with _ | _
 ·have HB:=h! hb2;clear hb2;go_wp2_with fail
  go_ret
  exact⟨congrArg (fun n=>Ending.returned (.int .i64 n)) (show(2:Int)=chkN ⟨⟨ot,oi,or_⟩,⟨st,si,sr⟩⟩from by simp[chkN,chkT,HB.out]),HBW.out⟩
 have HB2:=h! hb2;clear hb2;go_wp2_with fail
 rw[rounds_succ];go_wp2_with fail
 refine(refName_any st HOK.out.2.1 _).mono ?_;rintro e w' ⟨rfl,rfl⟩;rcases hb3:isNm st with _ | _
 ·have HB:=h! hb3;clear hb3;go_wp2_with fail
  go_ret
  exact⟨congrArg (fun n=>Ending.returned (.int .i64 n)) (show(2:Int)=chkN ⟨⟨ot,oi,or_⟩,⟨st,si,sr⟩⟩from by simp[chkN,chkT,HB.out]),HBW.out⟩
 have HB3:=h! hb3;clear hb3;go_wp2_with fail
 rw[rounds_succ];go_wp2_with fail
 refine(refName_any si HOK.out.2.2.1 _).mono ?_;rintro e w' ⟨rfl,rfl⟩;rcases hb4:isNm si with _ | _
 ·have HB:=h! hb4;clear hb4;go_wp2_with fail
  go_ret
  exact⟨congrArg (fun n=>Ending.returned (.int .i64 n)) (show(2:Int)=chkN ⟨⟨ot,oi,or_⟩,⟨st,si,sr⟩⟩from by simp[chkN,chkT,HB.out]),HBW.out⟩
 have HB4:=h! hb4;clear hb4;go_wp2_with fail
 rw[rounds_succ];go_wp2_with fail
 refine(refName_any sr HOK.out.2.2.2 _).mono ?_;rintro e w' ⟨rfl,rfl⟩;rcases hb5:isNm sr with _ | _
 ·have HB5:=h! hb5;clear hb5;by_cases h0:sr.size=0
  ·obtain rfl:=ba_size_eq h0;clear h0;go_wp2_with fail
   rw[rounds_succ];go_wp2_with fail
   go_ret
   exact⟨congrArg (fun n=>Ending.returned (.int .i64 n)) (show(0:Int)=chkN ⟨⟨ot,oi,or_⟩,⟨st,si,⟨#[]⟩⟩⟩from by simp[chkN,chkT,HB0.out,HB1.out,HB2.out,HB3.out,HB4.out,show(ByteArray.mk #[]).size=0 from rfl]),HBW.out⟩
  ·have hne:=ba_size_ne h0;have H0:=h! h0;clear h0;go_wp2_with fail
   go_ret
   exact⟨congrArg (fun n=>Ending.returned (.int .i64 n)) (show(2:Int)=chkN ⟨⟨ot,oi,or_⟩,⟨st,si,sr⟩⟩from by simp[chkN,chkT,HB5.out,H0.out]),HBW.out⟩
 ·have HB5:=h! hb5;clear hb5;go_wp2_with fail
  rw[rounds_succ];go_wp2_with fail
  go_ret
  exact⟨congrArg (fun n=>Ending.returned (.int .i64 n)) (show(0:Int)=chkN ⟨⟨ot,oi,or_⟩,⟨st,si,sr⟩⟩from by simp[chkN,chkT,HB0.out,HB1.out,HB2.out,HB3.out,HB4.out,HB5.out]),HBW.out⟩
end Go.Proofs.YtlhaghoajpglaaaGreat
namespace Go.Proofs.YtlhaghoajpglaaaGreat
open Go Go.RowKit Go.Maps Go.Shelf
def tyIn (ts:List TyS)(n:ByteArray):Bool:=ts.any fun t=>decide (t.name=n)
def wrM (ts:List TyS)(t:Tup):Int:=if (lookA (refsOf ts) ⟨t.o.t,t.o.r⟩).isSome&&(tyIn ts t.s.t&&(decide (t.s.r.size=0)||(lookA (refsOf ts) ⟨t.s.t,t.s.r⟩).isSome))then(if ((lookA (refsOf ts) ⟨t.o.t,t.o.r⟩).getD (.mk 0 ByteArray.empty ByteArray.empty [])).this then 0 else 9)else 4
def wrN (ts:List TyS)(t:Tup):Int:=if chkT t then wrM ts t else 2
theorem flat_le {α β:Type} (f:α->List β)(D:Nat):∀ l:List α,(∀ x∈l,(f x).length<=D)->(l.flatMap f).length<=l.length*D
 | [],_=>by simp
 | a::l,h=>by
  rw[List.flatMap_cons,List.length_append,List.length_cons,Nat.add_mul];have h1:=h a List.mem_cons_self;have h2:=flat_le f D l fun x hx=>h x (List.mem_cons_of_mem _ hx);omega
mutual
def RT.pcan (P:List (R2 × RT))(S:List R2)(typ:ByteArray):RT->Bool
 | .mk k a b ps=>if k=1 then true else if k=2 then decide ((⟨typ,a⟩:R2)∈S)else if k=3 then decide ((⟨typ,a⟩:R2)∈S)&&(whereP P b).any fun n=>decide ((⟨n,b⟩:R2)∈S)else if k=4 then pcanN P S typ ps||decide (ps.length=0)else pcanL P S typ ps
def pcanN (P:List (R2 × RT))(S:List R2)(typ:ByteArray):List RT->Bool | []=>false | r::rs=>r.pcan P S typ||pcanN P S typ rs
def pcanL (P:List (R2 × RT))(S:List R2)(typ:ByteArray):List RT->Bool | []=>true | r::rs=>r.pcan P S typ&&pcanL P S typ rs
end
def ClosedP (ts:List TyS)(S:List R2):Prop:=∀ x r,(x,r)∈refsOf ts->r.pcan (refsOf ts) S x.t=true->x∈S
structure LeastP (ts:List TyS)(S:List R2):Prop where
 sub:∀ x∈S,x∈(refsOf ts).map (·.1)
 least:∀ T,ClosedP ts T->∀ x∈S,x∈T
end Go.Proofs.YtlhaghoajpglaaaGreat
namespace Go.Proofs.YtlhaghoajpglaaaGreat
open Go Go.RowKit Go.Maps
def docB:ByteArray:=⟨#[100,111,99]⟩
def lnOkB (s:ByteArray)(it:PIt):Bool:=decide (s.size<=65536)&&(decide (2<=s.size)&&(!(s.data.toList.head? == some 32)&&(!(s.data.toList.head? == some 9)&&(!(decide (s.extract 0 2=⟨#[47,47]⟩))&&(s.data.toList.all plainC&&decide (toksD s=it.toks))))))
theorem lnOk_of {s:ByteArray} {it:PIt} (h:lnOkB s it=true):LnOk s it:=by
 unfold lnOkB at h;simp only[Bool.and_eq_true,decide_eq_true_eq,Bool.not_eq_true',decide_eq_false_iff_not]at h;obtain⟨h1,h2,h3,h4,h5,h6,h7⟩:=h
 have hhd:∀ hp:0<s.size,s.data.toList.head?=some s[0]:=fun hp=>by
  rw[List.head?_eq_getElem?,List.getElem?_eq_getElem (by simpa using hp)];rfl
 refine⟨h1,h2,fun hp=>⟨fun e=>?_,fun e=>?_⟩,h5,fun j hj=>?_,h7⟩
 ·rw[hhd hp,e]at h3;exact absurd h3 (by decide)
 ·rw[hhd hp,e]at h4;exact absurd h4 (by decide)
 ·rw[List.all_eq_true]at h6
  exact h6 _ (by
   have:s[j]=s.data.toList[j]'(by simpa using hj):=rfl;rw[this];exact List.getElem_mem _)
theorem lnsOk_of {ls:List ByteArray} {its:List PIt} (h:(ls.zip its).all (fun p=>lnOkB p.1 p.2)=true):∀ i (hi:i<its.length)(hj:i<ls.length),LnOk ls[i] its[i]:=fun i hi hj=>by
 rw[List.all_eq_true]at h;have hz:i<(ls.zip its).length:=by rw[List.length_zip];omega
 have:=h _ (List.getElem_mem hz);rw[List.getElem_zip]at this;exact lnOk_of this
def PIt.fitB:PIt->Bool
 | .ty n=>isNm n&&decide (n≠⟨#[116,104,105,115]⟩)
 | .rel n x ys=>isNm n&&(decide (n≠⟨#[116,104,105,115]⟩)&&(decide (n≠⟨#[116,121,112,101]⟩)&&((x::ys).all isNm&&decide (ys.length<=100000))))
theorem fits_of {its:List PIt} (h:its.all PIt.fitB=true):∀ it∈its,it.Fit:=fun it hit=>by
 rw[List.all_eq_true]at h;have:=h it hit;cases it with
 | ty n =>
  simp only[PIt.fitB,Bool.and_eq_true,decide_eq_true_eq]at this;exact this
 | rel n x ys =>
  simp only[PIt.fitB,Bool.and_eq_true,decide_eq_true_eq]at this;obtain⟨h1,h2,h3,h4,h5⟩:=this;exact⟨h1,h2,h3,fun z hz=>(List.all_eq_true.1 h4) z hz,h5⟩
end Go.Proofs.YtlhaghoajpglaaaGreat
namespace Go.Proofs.YtlhaghoajpglaaaGreat
open Go Go.RowKit
structure Ch where
 kind:Int
 ref:R2
deriving DecidableEq
instance:Inhabited Ch:=⟨⟨0,⟨ByteArray.empty,ByteArray.empty⟩⟩⟩
end Go.Proofs.YtlhaghoajpglaaaGreat
namespace Go.Proofs.YtlhaghoajpglaaaGreat
open Go Go.RowKit Go.Maps
theorem Blk.set2D {w:World} {B:Nat} {a b:Value} {e:TypeId} (h:Blk w B #[a,b] e)(x0 x1:Value):Blk ((w.setCell ⟨B,0,none⟩ x0).setCell ⟨B,1,none⟩ x1) B #[x0,x1] e:=(h.set_to (cs':=#[x0,b]) 0 x0 rfl).set_to (cs':=#[x0,x1]) 1 x1 rfl
end Go.Proofs.YtlhaghoajpglaaaGreat
namespace Go.Proofs.YtlhaghoajpglaaaGreat
open Go Go.RowKit Go.Maps Go.Shelf
theorem rels_look {l:List (ByteArray × RT)} (n:ByteArray) {rel:ByteArray} {i:Nat} (hi:i<l.length)(hr:l[i].1=rel)(hb:∀ j (hj:j<l.length),j<i->l[j].1≠rel):lookA (relsOf n l) ⟨n,rel⟩=some l[i].2:=by
 induction l generalizing i with
 | nil=>simp at hi
 | cons x l ih =>
  unfold relsOf;rw[List.map_cons,lookA];cases i with
  | zero=>rw[if_pos (by simpa using congrArg (R2.mk n) hr)];rfl
  | succ i =>
   have h0:=hb 0 (by simp) (by omega);rw[if_neg (by intro e;injection e with _ e;exact h0 e)]
   exact ih (by simpa using hi) (by simpa using hr) fun j hj hji=>by
    have:=hb (j+1) (by simpa using hj) (by omega);simpa using this
theorem RTAt.nil (S:Nat->Prop)(w:World)(k:Int)(a b:ByteArray):RTAt S w (.mk k a b []) (.slice none 0 0):=(RTAt.iff _ _).2 ⟨[],rfl,by simp,Sl.nil _ _ _⟩
theorem look_app {a b:List (R2 × RT)} {k:R2} (h:lookA a k=none):lookA (a++b) k=lookA b k:=by
 induction a with
 | nil=>rfl
 | cons x a ih =>
  rw[List.cons_append,lookA];rw[lookA]at h;split at h
  ·cases h
  ·rename_i hn
   rw[if_neg hn];exact ih h
theorem look_app_some {a b:List (R2 × RT)} {k:R2} {r:RT} (h:lookA a k=some r):lookA (a++b) k=some r:=by
 induction a with
 | nil=>cases h
 | cons x a ih =>
  rw[List.cons_append,lookA];rw[lookA]at h;split at h
  ·rename_i hp
   rw[if_pos hp];exact h
  ·rename_i hn
   rw[if_neg hn];exact ih h
theorem refs_pre {ts:List TyS} {i:Nat} {ty rel:ByteArray} (hb:∀ j (hj:j<ts.length),j<i->ts[j].name≠ty):lookA (refsOf (ts.take i)) ⟨ty,rel⟩=none:=by
 refine look_none_iff.2 fun p hp e=>?_;obtain⟨t,ht,hp⟩:=List.mem_flatMap.1 hp;obtain⟨r,hr,rfl⟩:=List.mem_map.1 hp;obtain⟨m,hm,rfl⟩:=List.getElem_of_mem ht;rw[List.length_take]at hm;rw[List.getElem_take]at e;injection e with e1 _
 exact hb m (by omega) (by omega) e1
theorem refs_split {ts:List TyS} {i:Nat} (hi:i<ts.length):refsOf ts=refsOf (ts.take i)++(relsOf ts[i].name ts[i].rels++refsOf (ts.drop (i+1))):=by
 conv=>lhs;rw[<- List.take_append_drop i ts,refsOf_append,List.drop_eq_getElem_cons hi]
 rfl
theorem refs_hit {ts:List TyS} {i k:Nat} {ty rel:ByteArray} (hi:i<ts.length)(hn:ts[i].name=ty)(hb:∀ j (hj:j<ts.length),j<i->ts[j].name≠ty)(hk:k<ts[i].rels.length)(hr:ts[i].rels[k].1=rel)(hb2:∀ j (hj:j<ts[i].rels.length),j<k->ts[i].rels[j].1≠rel):lookA (refsOf ts) ⟨ty,rel⟩=some ts[i].rels[k].2:=by
 rw[refs_split hi,look_app (refs_pre hb)];refine look_app_some ?_;rw[<- hn];exact rels_look _ hk hr hb2
theorem refs_miss {ts:List TyS} (hu:uniqOk ts=true) {i:Nat} {ty rel:ByteArray} (hi:i<ts.length)(hn:ts[i].name=ty)(hb2:∀ j (hj:j<ts[i].rels.length),ts[i].rels[j].1≠rel):lookA (refsOf ts) ⟨ty,rel⟩=none:=by
 refine look_none_iff.2 fun p hp e=>?_;obtain⟨t,ht,r,hr,rfl⟩:=refs_mem.1 hp;injection e with e1 e2
 obtain rfl:=uniq_eq hu ht (List.getElem_mem hi) (e1.trans hn.symm);obtain⟨m,hm,rfl⟩:=List.getElem_of_mem hr;exact hb2 m hm e2
theorem refs_out {ts:List TyS} {ty rel:ByteArray} (hb:∀ j (hj:j<ts.length),ts[j].name≠ty):lookA (refsOf ts) ⟨ty,rel⟩=none:=by
 have:=refs_pre (ts:=ts) (i:=ts.length) (rel:=rel) fun j hj _=>hb j hj;rwa[List.take_length]at this
theorem find06_any (ts:List TyS)(tv:Value)(ty rel:ByteArray)(w:World)(h:TysAt (· < w.heap.size) w ts tv)(hu:uniqOk ts=true) :
  Calls Tryz.prog 110 #[.agg #[tv],.string ty,.string rel] w fun e w'=>∃ z:RV,e = .returned (.tuple #[rvV z,.bool (lookA (refsOf ts) ⟨ty,rel⟩).isSome])/\RTAt (· < w'.heap.size) w' z.1 z.2/\(∀ r,lookA (refsOf ts) ⟨ty,rel⟩=some r->z.1=r)/\(lookA (refsOf ts) ⟨ty,rel⟩=none->z=(.mk 0 ByteArray.empty ByteArray.empty [],.slice none 0 0))/\Below w.heap.size w w':=by
 obtain⟨ao,c,rfl,hlc,hcm,hcell⟩:=h.rows;have HC:=h! hcell;have HU:=h! hu;obtain⟨w1,hw1⟩:∃ x,x=w.alloc (.cells #[.slice ao ts.length c] 26):=⟨_,rfl⟩;obtain⟨w2,hw2⟩:∃ x,x=w1.alloc (.cells #[.int .i64 0,.string ⟨#[]⟩,.string ⟨#[]⟩,.slice none 0 0] 106):=⟨_,rfl⟩;have e1:w1.heap.size=w.heap.size+1:=by rw[hw1];simp
 have x01:Ext w w1:=by rw[hw1];exact Ext.alloc _ _
 have x12:Ext w1 w2:=by rw[hw2];exact Ext.alloc _ _
 have hs2:=(show Blk w2 w.heap.size #[.slice ao ts.length c] 26 from Blk.below (by rw[hw1];exact Blk.made _ _ _) x12).cells;have HR:=h! (show Blk w2 (w.heap.size+1) #[.int .i64 0,.string ⟨#[]⟩,.string ⟨#[]⟩,.slice none 0 0] 106 from by rw[hw2,<- e1];exact Blk.made _ _ _);have HB2:=h! (show Below w.heap.size w w2 from x01.trans x12);subst hw2 hw1;clear h hcell hu e1 x01 x12;go_enter Tryz.func110,Tryz.ntmps110
 go_wp2_with fail
 obtain⟨w2,hw2⟩:∃ x,x=(w.alloc (.cells #[.slice ao ts.length c] 26)).alloc (.cells #[.int .i64 0,.string ⟨#[]⟩,.string ⟨#[]⟩,.slice none 0 0] 106):=⟨_,rfl⟩;rw[<- hw2]at HR HB2 ⊢;clear hw2 hs2;obtain⟨br,hbr⟩:∃ x,x=w.heap.size+1:=⟨_,rfl⟩;rw[<- hbr]at HR ⊢;have HBR:=h! (show w.heap.size<=br from by omega);clear hbr;go_loopw [15] (fun ii wr=>∃ i:Nat,i<=ts.length/\ii = .int .i64 i/\(∀ j (hj:j<ts.length),j<i->ts[j].name≠ty)/\Blk wr br #[.int .i64 0,.string ⟨#[]⟩,.string ⟨#[]⟩,.slice none 0 0] 106/\Below w.heap.size w wr) (fun ii _=>ts.length-(intOf ii).toNat)
 case atStart=>exact⟨0,by omega,rfl,fun _ _ h=>absurd h (by omega),HR.out,HB2.out⟩
 case round =>
  rename World=>wo
  obtain⟨i,hi,rfl,hall,hblk,hbel⟩:=hrel;have HALL:=h! hall;have HRO:=h! hblk;have HBO:=h! hbel;clear HR HB2 hall hblk;by_cases hlt:i<ts.length
  ·have HUP:=fun h=>h! (upto_succ (p:=fun j hj=>ts[j].name≠ty) HALL.out hlt h);have HMISS:=fun(h:ts[i].name=ty)=>h! (fun(hb2:∀ j (hj:j<ts[i].rels.length),ts[i].rels[j].1≠rel)=>refs_miss HU.out hlt h hb2);have HHIT:=fun(h:ts[i].name=ty)=>h! (fun k hk hr hb2=>refs_hit (k:=k) (rel:=rel) hlt h HALL.out hk hr hb2);obtain⟨b,off,pv2,hbo,hb,c0,c1,hat2⟩:=HC.out i hlt;cases hbo;have d0:=(hbel.cell (p:=⟨b,off+i*2,none⟩) hb).trans c0;have d1:=(hbel.cell (p:=⟨b,off+i*2+1,none⟩) hb).trans c1;obtain⟨ao2,c2',rfl,hlc2,hcm2,hcell2⟩:=hat2.rows;have HC2:=h! hcell2;have hb1:=hbel.alloc hbel.size (.cells #[.string ts[i].name,.slice ao2 ts[i].rels.length c2'] 176);have HB1:=h! hb1;have HRT:=h! (HRO.out.below (Ext.alloc wo (.cells #[.string ts[i].name,.slice ao2 ts[i].rels.length c2'] 176)));have hbx:=(Blk.made wo #[.string ts[i].name,.slice ao2 ts[i].rels.length c2'] 176).cells;clear c0 c1 hat2 hcell2 hb1 hbel;generalize ts[i]=x at *;obtain⟨xn,l⟩:=x;dsimp only at *;by_cases he:xn=ty
   ·have HM:=HMISS he;have HH:=HHIT he;subst he;clear HUP HMISS HHIT;go_wp2_with fail
    obtain⟨wq,hwq⟩:∃ x,x=wo.alloc (.cells #[.string xn,.slice ao2 l.length c2'] 176):=⟨_,rfl⟩;rw[<- hwq]at HB1 HRT ⊢;clear hwq hbx d0 d1;go_loopw [26] (fun kk wr=>∃ k:Nat,k<=l.length/\kk = .int .i64 k/\(∀ j (hj:j<l.length),j<k->l[j].1≠rel)/\Blk wr br #[.int .i64 0,.string ⟨#[]⟩,.string ⟨#[]⟩,.slice none 0 0] 106/\Below w.heap.size w wr) (fun kk _=>l.length-(intOf kk).toNat)
    case atStart=>exact⟨0,by omega,rfl,fun _ _ h=>absurd h (by omega),HRT.out,HB1.out⟩
    case round =>
     obtain⟨k,hk,rfl,hall2,hblk,hbel⟩:=hrel;have HALL2:=h! hall2;have HRR:=h! hblk;have HBQ:=h! hbel;clear HRT HB1 hall2 hblk;by_cases hlt2:k<l.length
     ·have HUP2:=fun h=>h! (upto_succ (p:=fun j hj=>l[j].1≠rel) HALL2.out hlt2 h);have HFND:=fun(h:l[k].1=rel)=>h! (HH.out k hlt2 h HALL2.out);obtain⟨b2,off2,pv3,hbo,hb2,c0,c1,c2,c3,c4,hat3⟩:=HC2.out k hlt2;cases hbo;have d0:=(hbel.cell (p:=⟨b2,off2+k*5,none⟩) hb2).trans c0;have d1:=(hbel.cell (p:=⟨b2,off2+k*5+1,none⟩) hb2).trans c1;have d2:=(hbel.cell (p:=⟨b2,off2+k*5+2,none⟩) hb2).trans c2;have d3:=(hbel.cell (p:=⟨b2,off2+k*5+3,none⟩) hb2).trans c3;have d4:=(hbel.cell (p:=⟨b2,off2+k*5+4,none⟩) hb2).trans c4;obtain⟨ao3,c3',rfl,-⟩:=hat3.rows;obtain⟨wx,hwx⟩:∃ x,x=wr.alloc (.cells #[.string l[k].1,.int .i64 l[k].2.k,.string l[k].2.a,.string l[k].2.b,.slice ao3 l[k].2.ps.length c3'] 181):=⟨_,rfl⟩;have xrx:Ext wr wx:=by rw[hwx];exact Ext.alloc _ _
      have hbx:=(show Blk wx wr.heap.size #[.string l[k].1,.int .i64 l[k].2.k,.string l[k].2.a,.string l[k].2.b,.slice ao3 l[k].2.ps.length c3'] 181 from by rw[hwx];exact Blk.made _ _ _).cells;have HRX:=h! (HRR.out.below xrx);have HBX:=h! (show Below w.heap.size w wx from HBQ.out.trans (xrx.mono HBQ.out.size));have HAT:=h! hat3;have hne:br≠wr.heap.size:=by have:=HRR.out.lt;omega
      clear c0 c1 c2 c3 c4 hat3 xrx hbel;generalize l[k]=y at *;obtain⟨yn,p⟩:=y;dsimp only at *;by_cases he2:yn=rel
      ·have HF:=HFND he2;subst he2;have r3:=HRX.out.cells;have f3:=HRX.out.free;have hs1:=HRX.out.set_to 0 (.int .i64 p.k) rfl;have hs2:=hs1.set_to 1 (.string p.a) rfl;have hs3:=hs2.set_to 2 (.string p.b) rfl;have hs4:=hs3.set_to 3 (.slice ao3 p.ps.length c3') rfl;have HS4:=h! hs4;have HBE:=h! (show Below w.heap.size w ((((wx.setCell ⟨br,0,none⟩ (.int .i64 p.k)).setCell ⟨br,1,none⟩ (.string p.a)).setCell ⟨br,2,none⟩ (.string p.b)).setCell ⟨br,3,none⟩ (.slice ao3 p.ps.length c3'))from(((HBX.out.setCell HBR.out _).setCell HBR.out _).setCell HBR.out _).setCell HBR.out _);clear hs1 hs2 hs3 hs4 HUP2 HFND;subst hwx;go_wp2_with fail
       refine bodyPost_ret (v := .tuple #[.agg #[.int .i64 p.k,.string p.a,.string p.b,.slice ao3 p.ps.length c3'],.bool true]) ?_ rfl ⟨(p,.slice ao3 p.ps.length c3'),?_,?_,fun r hr=>?_,fun hr=>?_,HBE.out⟩
       ·rw[results_cell_tmp rfl];have hl:=run_loadVar_row (P:=Tryz.prog) _ br _ 106 _ _ _ HS4.out Tryz.underlying106 rfl (by kernel_rfl);simp[asAddr,hl,Result.andThen]
       ·unfold rvV rV;rw[HF.out];rfl
       ·exact HAT.out.up HBE.out
       ·rw[HF.out]at hr;cases hr;rfl
       ·rw[HF.out]at hr;cases hr
      ·have HN:=HUP2 he2;have hne2:=ba_beq' he2;rw[<- ByteArray.toList_eq,<- ByteArray.toList_eq]at hne2;clear HUP2 HFND he2;subst hwx;go_wp2_with fail
       go_roundw
       case rel=>exact⟨k+1,by omega,by go_num,HN.out,HRX.out,HBX.out⟩
       case measure=>simp[intOf];omega
     ·obtain rfl:k=l.length:=by omega
      have HF:=h! (HM.out fun j hj=>HALL2.out j hj hj);have r3:=HRR.out.cells;have f3:=HRR.out.free;have hs1:=HRR.out.set_to 0 (.int .i64 0) rfl;have hs2:=hs1.set_to 1 (.string ⟨#[]⟩) rfl;have hs3:=hs2.set_to 2 (.string ⟨#[]⟩) rfl;have hs4:=hs3.set_to 3 (.slice none 0 0) rfl;have HS4:=h! hs4;have HBE:=h! (show Below w.heap.size w ((((wr.setCell ⟨br,0,none⟩ (.int .i64 0)).setCell ⟨br,1,none⟩ (.string ⟨#[]⟩)).setCell ⟨br,2,none⟩ (.string ⟨#[]⟩)).setCell ⟨br,3,none⟩ (.slice none 0 0))from(((HBQ.out.setCell HBR.out _).setCell HBR.out _).setCell HBR.out _).setCell HBR.out _);clear hs1 hs2 hs3 hs4 hbel;go_wp2_with fail
      refine bodyPost_ret (v := .tuple #[.agg #[.int .i64 0,.string ⟨#[]⟩,.string ⟨#[]⟩,.slice none 0 0],.bool false]) ?_ rfl ⟨(.mk 0 ByteArray.empty ByteArray.empty [],.slice none 0 0),?_,?_,fun r hr=>?_,fun hr=>rfl,HBE.out⟩
      ·rw[results_cell_tmp rfl];have hl:=run_loadVar_row (P:=Tryz.prog) _ br _ 106 _ _ _ HS4.out Tryz.underlying106 rfl (by kernel_rfl);simp[asAddr,hl,Result.andThen]
      ·rw[HF.out];rfl
      ·exact RTAt.nil _ _ _ _ _
      ·rw[HF.out]at hr;cases hr
   ·have HN:=HUP he;have hne:=ba_beq' he;rw[<- ByteArray.toList_eq,<- ByteArray.toList_eq]at hne;clear HUP HMISS HHIT he;go_wp2_with fail
    go_roundw
    case rel=>exact⟨i+1,by omega,by go_num,HN.out,HRT.out,HB1.out⟩
    case measure=>simp[intOf];omega
  ·obtain rfl:i=ts.length:=by omega
   have HF:=h! (refs_out (rel:=rel) fun j hj=>HALL.out j hj hj);have r3:=HRO.out.cells;have f3:=HRO.out.free;have hs1:=HRO.out.set_to 0 (.int .i64 0) rfl;have hs2:=hs1.set_to 1 (.string ⟨#[]⟩) rfl;have hs3:=hs2.set_to 2 (.string ⟨#[]⟩) rfl;have hs4:=hs3.set_to 3 (.slice none 0 0) rfl;have HS4:=h! hs4;have HBE:=h! (show Below w.heap.size w ((((wo.setCell ⟨br,0,none⟩ (.int .i64 0)).setCell ⟨br,1,none⟩ (.string ⟨#[]⟩)).setCell ⟨br,2,none⟩ (.string ⟨#[]⟩)).setCell ⟨br,3,none⟩ (.slice none 0 0))from(((HBO.out.setCell HBR.out _).setCell HBR.out _).setCell HBR.out _).setCell HBR.out _);clear hs1 hs2 hs3 hs4 hbel;go_wp2_with fail
   refine bodyPost_ret (v := .tuple #[.agg #[.int .i64 0,.string ⟨#[]⟩,.string ⟨#[]⟩,.slice none 0 0],.bool false]) ?_ rfl ⟨(.mk 0 ByteArray.empty ByteArray.empty [],.slice none 0 0),?_,?_,fun r hr=>?_,fun hr=>rfl,HBE.out⟩
   ·rw[results_cell_tmp rfl];have hl:=run_loadVar_row (P:=Tryz.prog) _ br _ 106 _ _ _ HS4.out Tryz.underlying106 rfl (by kernel_rfl);simp[asAddr,hl,Result.andThen]
   ·rw[HF.out];rfl
   ·exact RTAt.nil _ _ _ _ _
   ·rw[HF.out]at hr;cases hr
end Go.Proofs.YtlhaghoajpglaaaGreat
