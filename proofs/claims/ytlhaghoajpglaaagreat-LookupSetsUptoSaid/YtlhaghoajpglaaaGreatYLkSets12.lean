/- Lemmas for the claim, no condition. -/
import Derived.WideKeyEntry
import Derived.Test.YtlhaghoajpglaaaGreatYLkSets11
import Derived.Test.YtlhaghoajpglaaaGreatYLkSets0
import Derived.Test.YtlhaghoajpglaaaGreatYLkSets2
import Derived.Test.YtlhaghoajpglaaaGreatYLkSets7
import Derived.Test.YtlhaghoajpglaaaGreatYLkSets8
import Derived.Test.YtlhaghoajpglaaaGreatYLkSets10
import Derived.Test.YtlhaghoajpglaaaGreatYLkSets1
import Derived.Test.YtlhaghoajpglaaaGreatYLkSets6
set_option maxRecDepth 100000
set_option maxHeartbeats 4000000
namespace Go.Proofs.YtlhaghoajpglaaaGreat
open Go Go.RowKit
theorem wpList_store {P:Program} {ops:Array Oper} {Q:Exit->Act->World->Prop} {rest:List Oper} {a:Act} {w w':World} {t ty:TypeId} {i j:Nat} {pos} {af} {x v:Value} (hA:a.eval (.tmp i)=x)(hV:a.eval (.tmp j)=v)(hrun:(Instr.storeAt t x v).run P w = .ok () w')(K:wpList P ops Q rest a w'):wpList P ops Q (⟨none,Op.store t (.tmp i) (.tmp j),ty,pos,af,none⟩::rest) a w :=
 wpList_plain rfl fun K' hK'=>by
  unfold Oper.wp;simp[execOp,hA,hV,hrun,Result.andThen];exact hK' _ _ K
theorem Kept.setMany {K:Nat->Prop} {w w':World} (h:Kept K w w') {g:Nat} (hg:¬ K g)(o:Nat)(vs:List Value):Kept K w (w'.setCells g o vs):=by
 obtain⟨h1,h2,h3,h4⟩:=setCells_fields g vs w' o;exact h.trans ⟨h1,h2,h3,Nat.le_of_eq h4.symm,fun b hb=>setCells_other g vs w' o fun e=>hg (e▸hb)⟩
theorem wpList_clear {P:Program} {ops:Array Oper} {Q:Exit->Act->World->Prop} {rest:List Oper} {a:Act} {w w':World} {t ty:TypeId} {i:Nat} {pos} {af} {v r:Value} (hV:a.eval (.tmp i)=v)(hrun:(Builtin.clear_ #[t] ty #[v]).run P w = .ok r w')(K:wpList P ops Q rest (a.put none r) w'):wpList P ops Q (⟨none,Op.call {callee:=Callee.builtin Builtin.clear,args:=#[.tmp i],argTypes:=#[t]},ty,pos,af,none⟩::rest) a w :=
 wpList_plain rfl fun K' hK'=>by
  unfold Oper.wp;simp[execOp,resolve,invoke,builtin,hV,hrun,Result.andThen];exact hK' _ _ K
theorem dd_short {l:List Tup} (h:l.length<2):dd l=l:=by
 unfold dd;rw[ddN_same l _ (Nat.le_refl _) fun j h0 h1=>by omega,List.take_length]
theorem compactT_any {B:Nat} (v:Value)(l:List Tup)(w:World)(h:Own w B 67 6 v (tuCs l))(hl:l.length<=1099511627776) :
  Calls Tryz.prog 79 #[v] w fun e w'=>∃ v',e = .returned v'/\Own w' B 67 6 v' (tuCs (dd l))/\Kept (fun b=>b<w.heap.size/\v.ownBlock≠some b) w w':=by
 obtain⟨ao,n,c,rfl,hn,hnc,hcm⟩:=h.sl.len;obtain rfl:n=l.length:=by rw[tuCs_length]at hn;omega
 have HL:=h! hl;have HO:=h! h;have hsh:=h.shape;clear h hn;by_cases hlt:l.length<2
 ·have HD:=h! (dd_short hlt);have hi:(l.length:Int)<2:=by omega
  go_enter Tryz.func79,Tryz.ntmps79
  go_wp2_with fail
  go_ret
  exact⟨_,rfl,by rw[HD.out];exact HO.out,Kept.refl _ _⟩
 have hi:¬ ((l.length:Int)<2):=by omega
 obtain⟨g,rfl⟩:∃ g,ao=some ⟨g,0,none⟩:=by
  rcases hsh with⟨h,_⟩ | ⟨g,n,c,h⟩
  ·injection h with _ h _
   omega
  ·exact⟨g,by injection h⟩
 clear hsh;have H2:=h! (show 2<=l.length from by omega);go_enter Tryz.func79,Tryz.ntmps79
 go_wp2_with fail
 clear hi hlt;go_loopw [3] (fun kv wr=>∃ m:Nat,kv = .int .i64 ((m+1:Nat):Int)/\m+1<=l.length/\(∀ j,0<j->j<m+1->l[j]?≠l[j-1]?)/\Own wr B 67 6 (.slice (some ⟨g,0,none⟩) l.length c) (tuCs l)/\Kept (fun b=>b<w.heap.size/\(Value.slice (some ⟨g,0,none⟩) l.length c).ownBlock≠some b) w wr) (fun kv _=>l.length-(intOf kv).toNat)
 case atStart=>exact⟨0,rfl,by have:=H2.out;omega,(fun j h0 h1=>by omega),HO.out,Kept.refl _ _⟩
 case round =>
  obtain⟨m,rfl,hm,hne,ho,hk⟩:=hrel;have RO:=h! ho;have RK:=h! hk;have RN:=h! hne;have hll:=HL.out;clear HO ho hk hne;by_cases hlt:m+1<l.length
  ·have HLT:=h! hlt;have hl0:m<l.length:=by omega
   have HNX:=h! (show l[m+1]≠l[m]->∀ j,0<j->j<m+2->l[j]?≠l[j-1]? from fun he j h0 h1=>by
    by_cases hj:j<m+1
    ·exact RN.out j h0 hj
    ·obtain rfl:j=m+1:=by omega
     rw[Nat.add_sub_cancel,List.getElem?_eq_getElem hlt,List.getElem?_eq_getElem hl0];exact fun e=>he (by injection e))
   have HEQ:=h! (show l[m+1]=l[m]->l.take (m+1)=ddN l (m+2)from fun he=>by
    rw[ddN,if_neg (by
     rintro(h | h)
     ·omega
     ·apply h;rw[Nat.add_sub_cancel,List.getElem?_eq_getElem hlt,List.getElem?_eq_getElem hl0];exact congrArg some he),List.append_nil,ddN_same l (m+1) hm RN.out])
   go_wp2_with fail
   obtain⟨wd,hwd⟩:∃ y:World,y=wr.drew:=⟨_,rfl⟩;have DO:=h! (show Own wd B 67 6 (.slice (some ⟨g,0,none⟩) l.length c) (tuCs l)from by rw[hwd];exact RO.out.below (Ext.drew _));have DK:=h! (show Kept (fun b=>b<w.heap.size/\(Value.slice (some ⟨g,0,none⟩) l.length c).ownBlock≠some b) w wd from by rw[hwd];exact RK.out.drew);refine r! (Ext wd) (by rw[<- hwd];exact Ext.refl _) ?_;rw[<- hwd];clear hwd RO RK;have k0:=fun W (hW:Ext wd W)=>((DO.out.below hW).tupAt (m+1) hlt).1;have k1:=fun W (hW:Ext wd W)=>((DO.out.below hW).tupAt (m+1) hlt).2.1;have k2:=fun W (hW:Ext wd W)=>((DO.out.below hW).tupAt (m+1) hlt).2.2.1;have k3:=fun W (hW:Ext wd W)=>((DO.out.below hW).tupAt (m+1) hlt).2.2.2.1;have k4:=fun W (hW:Ext wd W)=>((DO.out.below hW).tupAt (m+1) hlt).2.2.2.2.1;have k5:=fun W (hW:Ext wd W)=>((DO.out.below hW).tupAt (m+1) hlt).2.2.2.2.2;have j0:=fun W (hW:Ext wd W)=>((DO.out.below hW).tupAt m hl0).1;have j1:=fun W (hW:Ext wd W)=>((DO.out.below hW).tupAt m hl0).2.1;have j2:=fun W (hW:Ext wd W)=>((DO.out.below hW).tupAt m hl0).2.2.1;have j3:=fun W (hW:Ext wd W)=>((DO.out.below hW).tupAt m hl0).2.2.2.1;have j4:=fun W (hW:Ext wd W)=>((DO.out.below hW).tupAt m hl0).2.2.2.2.1;have j5:=fun W (hW:Ext wd W)=>((DO.out.below hW).tupAt m hl0).2.2.2.2.2;have hq:=fun W=>tup_eq l[m+1] l[m] W;generalize l[m+1]=x at *;generalize l[m]=y at *;have hw1:IntKind.i64.wrap (m:Int)=(m:Int):=IntWalk.i64_in _ (by omega);have hi1:(m:Int)<(l.length:Int):=by omega
   have hi2:((m:Int)+1)<(l.length:Int):=by omega
   have hi3:(0:Int)<=(m:Int)+1:=by omega
   by_cases he:x=y
   ·have HE2:=h! (HEQ.out he);subst he
    have hqt:∀ W,(binOp BinOp.eql 67 (tV x) (tV x)).run Tryz.prog W = .ok (.bool true) W:=fun W=>by
     have:=hq W;rwa[decide_eq_true rfl]at this
    clear hq HEQ HNX;obtain⟨⟨x1,x2,x3⟩,⟨x4,x5,x6⟩⟩:=x;unfold tV at hqt;dsimp only at hqt k0 k1 k2 k3 k4 k5 j0 j1 j2 j3 j4 j5;(refine WalkN.tk [0,1,2,3,4,5,6,7,8,9] ?_;(iterate 10 (refine c! ?_));refine TkN.n ?_)
    refine d! ?_;clear k0 k1 k2 k3 k4 k5 j0 j1 j2 j3 j4 j5 hqt hw1;have hi4:((m:Int)+1)<=(l.length:Int):=by omega
    have hi5:m+1<=l.length:=hm;go_wp2_with fail
    clear hi1 hi2 hi3 hi4 hi5;go_loopw [3,5] (fun kv jv wr=>∃ (q a:Nat) (R:List Tup),kv = .int .i64 q/\jv = .int .i64 ((a+1:Nat):Int)/\q<=m+1+a/\1<=q/\m+1+a+1<=l.length/\R.length=l.length/\R.take q=ddN l (m+1+a+1)/\(∀ j,m+1+a<=j->R[j]?=l[j]?)/\Own wr B 67 6 (.slice (some ⟨g,0,none⟩) l.length c) (tuCs R)/\Kept (fun b=>b<w.heap.size/\(Value.slice (some ⟨g,0,none⟩) l.length c).ownBlock≠some b) w wr) (fun _ jv _=>l.length-(intOf jv).toNat)
    case atStart=>exact⟨m+1,0,l,rfl,rfl,by omega,by omega,by have:=HLT.out;omega,rfl,HE2.out,(fun _ _=>rfl),DO.out,DK.out⟩
    case round =>
     obtain⟨q,a,R,rfl,rfl,hqp,hq1,hpl,hRl,hRt,hRj,ho2,hk2⟩:=hrel;have QO:=h! ho2;have QK2:=h! hk2;have QL:=h! hRl;have QT:=h! hRt;have QJ:=h! hRj;have QP:=h! (And.intro hqp (And.intro hq1 hpl));clear DO DK ho2 hk2 hRl hRt hRj hqp hq1 HE2;by_cases hlt2:m+1+a+1<l.length
     ·have HLT2:=h! hlt2;have hRp:m+1+a+1<R.length:=by rw[QL.out];exact hlt2
      have hRq:m+1+a<R.length:=by omega
      have hx:R[m+1+a+1]?=l[m+1+a+1]?:=QJ.out _ (by omega);have hy:R[m+1+a]?=l[m+1+a]?:=QJ.out _ (by omega);rw[List.getElem?_eq_getElem hRp]at hx;rw[List.getElem?_eq_getElem hRq]at hy
      have HDN:=h! (show ddN l (m+1+a+1+1)=ddN l (m+1+a+1)++(if R[m+1+a+1]≠R[m+1+a]then [R[m+1+a+1]]else [])from by
       rw[ddN,Nat.add_sub_cancel,<- hx,<- hy];congr 1
       by_cases he:R[m+1+a+1]=R[m+1+a]
       ·rw [if_neg (by rintro (h | h); · omega
                       · exact h (congrArg some he)),if_neg (fun h=>h he)]
       ·rw[if_pos (.inr fun h=>he (by injection h)),if_pos he];rfl)
      clear hx hy;have hii:((a:Int)+1)<((l.length-(m+1):Nat):Int):=by omega
      go_wp2_with fail
      obtain⟨wd,hwd⟩:∃ y:World,y=wr.drew:=⟨_,rfl⟩;have DO:=h! (show Own wd B 67 6 (.slice (some ⟨g,0,none⟩) l.length c) (tuCs R)from by rw[hwd];exact QO.out.below (Ext.drew _));have DK:=h! (show Kept (fun b=>b<w.heap.size/\(Value.slice (some ⟨g,0,none⟩) l.length c).ownBlock≠some b) w wd from by rw[hwd];exact QK2.out.drew);refine r! (Ext wd) (by rw[<- hwd];exact Ext.refl _) ?_;rw[<- hwd];clear hwd QO QK2;have hs1:(m+1+a+1)*6=(m+1)*6+(a+1)*6:=by omega
      have hs2:(m+1+a)*6=(m+1)*6+a*6:=by omega
      have KA:=fun W (hW:Ext wd W)=>(DO.out.below hW).tupAt (m+1+a+1) hRp;have JA:=fun W (hW:Ext wd W)=>(DO.out.below hW).tupAt (m+1+a) hRq;simp only[hs1]at KA;simp only[hs2]at JA;have KB:=h! (DO.out.tupAt (m+1+a+1) hRp);rw[hs1]at KB;have k0:=fun W hW=>(KA W hW).1;have k1:=fun W hW=>(KA W hW).2.1;have k2:=fun W hW=>(KA W hW).2.2.1;have k3:=fun W hW=>(KA W hW).2.2.2.1;have k4:=fun W hW=>(KA W hW).2.2.2.2.1;have k5:=fun W hW=>(KA W hW).2.2.2.2.2;have j0:=fun W hW=>(JA W hW).1;have j1:=fun W hW=>(JA W hW).2.1;have j2:=fun W hW=>(JA W hW).2.2.1;have j3:=fun W hW=>(JA W hW).2.2.2.1;have j4:=fun W hW=>(JA W hW).2.2.2.2.1;have j5:=fun W hW=>(JA W hW).2.2.2.2.2;clear KA JA hs1 hs2;have hq:=fun W=>tup_neq R[m+1+a+1] R[m+1+a] W;have HSET:=h! (fun w' (ho:Own w' B 67 6 (.slice (some ⟨g,0,none⟩) l.length c) (tuCs R))=>ho.setTup q R[m+1+a+1] (by have:=QP.out.1;omega))
      have HTK:=h! (show(R.set q R[m+1+a+1]).take (q+1)=R.take q++[R[m+1+a+1]]from by
       have hql:q<R.length:=by have:=QP.out.1;omega
       rw[List.take_succ_eq_append_getElem (by simpa using hql),List.getElem_set_self,List.take_set_of_le (Nat.le_refl q)])
      have HJ2:=h! (show ∀ j,m+1+(a+1)<=j->(R.set q R[m+1+a+1])[j]?=l[j]? from fun j hj=>by
       rw[List.getElem?_set_ne (by have:=QP.out.1;omega)];exact QJ.out j (by omega))
      have hgen:∃ x,x=R[m+1+a+1]:=⟨_,rfl⟩;generalize R[m+1+a+1]=x at *;generalize R[m+1+a]=y at *;have hw1:IntKind.i64.wrap (a:Int)=(a:Int):=IntWalk.i64_in _ (by omega);have hi1:(a:Int)<((l.length-(m+1):Nat):Int):=by omega
      have hi3:(0:Int)<=(a:Int)+1:=by omega
      have hqp:=QP.out.1;have hq1:=QP.out.2.1;by_cases he:x=y
      ·have HD2:=h! (show ddN l (m+1+a+1+1)=ddN l (m+1+a+1)from by rw[HDN.out,if_neg (fun h=>h he),List.append_nil]);subst he
       have hqt:∀ W,(binOp BinOp.neq 67 (tV x) (tV x)).run Tryz.prog W = .ok (.bool false) W:=fun W=>by
        have:=hq W;rwa[decide_eq_false (fun h=>h rfl)]at this
       clear hq HDN HSET HTK HJ2 KB hgen;obtain⟨⟨x1,x2,x3⟩,⟨x4,x5,x6⟩⟩:=x;unfold tV at hqt;dsimp only at hqt k0 k1 k2 k3 k4 k5 j0 j1 j2 j3 j4 j5;(refine WalkN.tk [0,1,2,3,4,5,6,7,8,9] ?_;(iterate 10 (refine c! ?_));refine TkN.n ?_)
       refine d! ?_;clear k0 k1 k2 k3 k4 k5 j0 j1 j2 j3 j4 j5 hqt hw1 hi1 hi3 hii;go_wp2_with fail
       go_roundw
       case rel=>exact⟨q,a+1,R,rfl,by go_num,by omega,hq1,by have:=HLT2.out;omega,QL.out,by rw[QT.out];exact HD2.out.symm,(fun j hj=>QJ.out j (by omega)),DO.out,DK.out⟩
       case measure=>have:=HLT2.out;simp[intOf];omega
      ·have HD2:=h! (show ddN l (m+1+a+1+1)=ddN l (m+1+a+1)++[x]from by rw[HDN.out,if_pos he])
       have hqt:∀ W,(binOp BinOp.neq 67 (tV x) (tV y)).run Tryz.prog W = .ok (.bool true) W:=fun W=>by
        have:=hq W;rwa[decide_eq_true he]at this
       clear hq HDN hgen he;obtain⟨⟨x1,x2,x3⟩,⟨x4,x5,x6⟩⟩:=x;obtain⟨⟨y1,y2,y3⟩,⟨y4,y5,y6⟩⟩:=y;unfold tV at hqt;dsimp only at hqt k0 k1 k2 k3 k4 k5 j0 j1 j2 j3 j4 j5 KB HSET;(refine WalkN.tk [0,1,2,3,4,5,6,7,8,9] ?_;(iterate 10 (refine c! ?_));refine TkN.n ?_)
       refine d! ?_;clear k0 k1 k2 k3 k4 k5 j0 j1 j2 j3 j4 j5 hqt hw1;obtain⟨b0,b1,b2,b3,b4,b5⟩:=KB.out;obtain⟨cur,hcur⟩:=DO.out.typed (g:=g) rfl;have hfr:=Blk.free (show Blk wd g cur 67 from hcur);obtain⟨d0,d1,d2,d3,d4,d5⟩:=DO.out.tupAt q (by rw[QL.out];omega);have hqi:(q:Int)<(l.length:Int):=by omega
       have hqi0:(0:Int)<=(q:Int):=by omega
       have hst:=run_storeCells_cells (P:=Tryz.prog) g (q*6) [.string x1,.string x2,.string x3,.string x4,.string x5,.string x6] 0 wd (by
        intro j hj;simp only[List.length_cons,List.length_nil]at hj;match j,hj with
        | 0,_=>rw[show q*6+0+0=q*6 from rfl,d0];rfl
        | 1,_=>rw[show q*6+0+1=q*6+1 from rfl,d1];rfl
        | 2,_=>rw[show q*6+0+2=q*6+2 from rfl,d2];rfl
        | 3,_=>rw[show q*6+0+3=q*6+3 from rfl,d3];rfl
        | 4,_=>rw[show q*6+0+4=q*6+4 from rfl,d4];rfl
        | 5,_=>rw[show q*6+0+5=q*6+5 from rfl,d5];rfl) (fun j _=>hfr _) (by simp[Value.oneCell'])
       simp only[Nat.add_zero]at hst;clear d0 d1 d2 d3 d4 d5 hfr hcur
       have hrun:(Instr.storeAt 67 (.pointer (some ⟨g,q*6,none⟩)) (.agg #[.string x1,.string x2,.string x3,.string x4,.string x5,.string x6])).run Tryz.prog wd = .ok () (wd.setCells g (q*6) [.string x1,.string x2,.string x3,.string x4,.string x5,.string x6]):=by
        simp[Instr.storeAt,Instr.sureAddr,storeVar,Value.cells,Tryz.sizeOf67,hst,Result.andThen]
       have hsc:wd.setCells g (q*6) [.string x1,.string x2,.string x3,.string x4,.string x5,.string x6]=(((((wd.setCell ⟨g,q*6,none⟩ (.string x1)).setCell ⟨g,q*6+1,none⟩ (.string x2)).setCell ⟨g,q*6+2,none⟩ (.string x3)).setCell ⟨g,q*6+3,none⟩ (.string x4)).setCell ⟨g,q*6+4,none⟩ (.string x5)).setCell ⟨g,q*6+5,none⟩ (.string x6):=by simp only[World.setCells,Nat.add_assoc,Nat.reduceAdd]
       obtain⟨w8,hw8⟩:∃ y,y=wd.setCells g (q*6) [.string x1,.string x2,.string x3,.string x4,.string x5,.string x6]:=⟨_,rfl⟩;rw[<- hw8]at hrun;have HO8:=h! (show Own w8 B 67 6 (.slice (some ⟨g,0,none⟩) l.length c) (tuCs (R.set q ⟨⟨x1,x2,x3⟩,⟨x4,x5,x6⟩⟩))from by rw[hw8,hsc];exact HSET.out _ DO.out);have HK8:=h! (show Kept (fun b=>b<w.heap.size/\(Value.slice (some ⟨g,0,none⟩) l.length c).ownBlock≠some b) w w8 from by rw[hw8];exact DK.out.setMany (g:=g) (fun h=>h.2 rfl) _ _);clear hst hsc hw8 HSET;go_wp2_with ((with_reducible refine wpList_store (x := .pointer (some ⟨g,q*6,none⟩)) (v := .agg #[.string x1,.string x2,.string x3,.string x4,.string x5,.string x6]) (w':=w8) ?hA ?hV ?hR ?hK);(case hA=>rfl);(case hV=>rfl);(case hR=>exact hrun);clear b0 b1 b2 b3 b4 b5 hqi hqi0 hi1 hi3 hii hrun DO DK)
       go_roundw
       case rel=>exact⟨q+1,a+1,R.set q ⟨⟨x1,x2,x3⟩,⟨x4,x5,x6⟩⟩,by go_num,by go_num,by omega,by omega,by have:=HLT2.out;omega,by rw[List.length_set];exact QL.out,by rw[HTK.out,QT.out];exact HD2.out.symm,HJ2.out,HO8.out,HK8.out⟩
       case measure=>have:=HLT2.out;simp[intOf];omega
     ·have hpe:m+1+a+1=l.length:=by omega
      rw[hpe]at QT;have hii:¬ (((a:Int)+1)<((l.length-(m+1):Nat):Int)):=by omega
      have hqp:=QP.out.1;have hql:q<l.length:=by omega
      have hqi:(q:Int)<=(l.length:Int):=by omega
      have hqi0:(0:Int)<=(q:Int):=by omega
      have hqc:q<=c:=by omega
      have hcq:¬ (c=q):=by omega
      obtain⟨vs,hcl⟩:=clearT QO.out QL.out.symm q hql 0 (c-q);obtain⟨w8,hw8⟩:∃ y,y=wr.setCells g (q*6) vs:=⟨_,rfl⟩;rw[<- hw8]at hcl
      have HO8:=h! (show Own w8 B 67 6 (.slice (some ⟨g,0,none⟩) q c) (tuCs (dd l))from by
       have h1:=(Own.setMany vs (q*6) QO.out).cutT (k:=q) (Nat.le_of_lt hql);rw[setL_take _ _ _ _ (Nat.le_refl _),tuCs_take,QT.out]at h1;rw[hw8];exact h1)
      have HK8:=h! (show Kept (fun b=>b<w.heap.size/\(Value.slice (some ⟨g,0,none⟩) l.length c).ownBlock≠some b) w w8 from by rw[hw8];exact QK2.out.setMany (g:=g) (fun h=>h.2 rfl) _ _);clear hw8 hqp hlt2 QO QK2 QT hpe;go_wp2_with ((with_reducible refine wpList_clear (v := .slice (some ⟨g,q*6,none⟩) (l.length-q) (c-q)) (w':=w8) (r := .tuple #[]) ?hV ?hR ?hK);(case hV=>rfl);(case hR=>exact hcl);clear hcl)
      go_ret
      exact⟨_,rfl,HO8.out,HK8.out⟩
   ·have HN2:=h! (HNX.out he)
    have hqf:∀ W,(binOp BinOp.eql 67 (tV x) (tV y)).run Tryz.prog W = .ok (.bool false) W:=fun W=>by
     have:=hq W;rwa[decide_eq_false he]at this
    clear hq HEQ HNX he;obtain⟨⟨x1,x2,x3⟩,⟨x4,x5,x6⟩⟩:=x;obtain⟨⟨y1,y2,y3⟩,⟨y4,y5,y6⟩⟩:=y;unfold tV at hqf;dsimp only at hqf k0 k1 k2 k3 k4 k5 j0 j1 j2 j3 j4 j5;(refine WalkN.tk [0,1,2,3,4,5,6,7,8,9] ?_;(iterate 10 (refine c! ?_));refine TkN.n ?_)
    refine d! ?_;clear k0 k1 k2 k3 k4 k5 j0 j1 j2 j3 j4 j5 hqf hw1 hi1 hi2 hi3;go_wp2_with fail
    go_roundw
    case rel=>exact⟨m+1,by go_num,by have:=HLT.out;omega,HN2.out,DO.out,DK.out⟩
    case measure=>have:=HLT.out;simp[intOf];omega
  ·obtain hlen:m+1=l.length:=by omega
   have HD:=h! (show dd l=l from by
    unfold dd;rw[ddN_same l _ (Nat.le_refl _) fun j h0 h1=>RN.out j h0 (by omega),List.take_length])
   go_wp2_with fail
   go_ret
   exact⟨_,rfl,by rw[HD.out];exact RO.out,RK.out⟩
end Go.Proofs.YtlhaghoajpglaaaGreat
namespace Go.Proofs.YtlhaghoajpglaaaGreat
open Go Go.RowKit Go.Maps Go.ChangeMaps Go.WideElems
theorem Mp.entry {P:Program} {k t e:TypeId} {κ α:Type} {kv:κ->Value} {ev:α->Value} {w:World} {b:Nat} {l:List (κ × α)} [DecidableEq κ] (h:Mp P k kv ev w b l)(K:Keyed P k)(inj:∀ a b,kv a=kv b->a=b)(ht:P.underlying t=some (.map k e)) {z:Value} (hz:(zeroValue e).run P w = .ok z w) {a:κ} (hk:∃ q,keyOf P k (kv a)=some q) :
  ∃ es1 c1 st,(Instr.mapEntry t (.map (some b)) (kv a)).run P w = .ok (.tuple #[lookV false z ev (lookA l a),goInt st]) (setBlock w b (.map es1 c1)) /\
   ∀ (w2:World) (x:α),w2.heap[b]?=some (.map es1 c1)->∃ w3,(Instr.entryStore t (.map (some b)) (goInt st) (ev x)).run P w2 = .ok () w3/\Mp P k kv ev w3 b (putA l a x)/\Turned w2 w3 b:=by
 have hst:=fun x=>h.store K inj ht hk x;have hlk:=h.look K inj ht hz false hk;obtain⟨es,clock,hb,hs,hm,hok⟩:=h;obtain⟨s1,s2,s3⟩:=hs;obtain⟨q,hq⟩:=hk
 have fin:∀ (es1:Array MapEntry) (c1 st:Nat) (w2:World) (x:α) (es':Array MapEntry) (c':Nat),w2.heap[b]?=some (.map es1 c1)->(Instr.entryStore t (.map (some b)) (goInt st) (ev x)).run P w2 = .ok () (setBlock w2 b (.map es' c')) ->
   (Instr.mapUpdate t (.map (some b)) (kv a) (ev x)).run P w = .ok () (setBlock w b (.map es' c'))->∃ w3,(Instr.entryStore t (.map (some b)) (goInt st) (ev x)).run P w2 = .ok () w3/\Mp P k kv ev w3 b (putA l a x)/\Turned w2 w3 b:=by
  intro es1 c1 st w2 x es' c' hw2 h1 h2;refine⟨_,h1,?_,_,rfl⟩;obtain⟨w',h3,h4,-⟩:=hst x;rw[h2]at h3;injection h3 with _ h3
  subst h3;exact h4.same (by rw[setBlock_at hw2,setBlock_at hb])
 rcases K.find w hq es.toList (pairs_ok hm hok)with⟨h1,h2⟩ | ⟨j,e0,h1,h2,h3⟩
 ·have hl:lookA l a=none:=look_miss (pairs_no hm h2);refine⟨es.push ⟨kv a,z,clock⟩,clock+1,clock,?_,fun w2 x hw2=>?_⟩
  ·rw[hl];simp[Instr.mapEntry,run_underlying ht,MapKept.run_getObj_map hb,K.check w false hq,h1,hz,MapKept.run_setObj_map _ hb,Result.andThen,setBlock,lookV]
  ·refine fin _ _ _ w2 x (es.push ⟨kv a,ev x,clock⟩) (clock+1) hw2 ?_ ?_
   ·have hidx:(es.push ⟨kv a,z,clock⟩).findIdx? (fun e=>((e.born:Nat):Int) == ((clock:Nat):Int))=some es.size:=by
     rw[findIdx_arr]
     exact findIdx_born (l:=(es.push ⟨kv a,z,clock⟩).toList) (j:=es.size) (e0:=⟨kv a,z,clock⟩) (by
      simp only[Array.toList_push,List.map_append,List.map_cons,List.map_nil];refine List.nodup_append.2 ⟨s2,by simp,fun a ha c hc e1=>?_⟩;simp only[List.mem_singleton]at hc;obtain⟨x,hx,rfl⟩:=List.mem_map.1 ha;have:=s1 x hx;omega) (by simp)
    have hmod:(es.push ⟨kv a,z,clock⟩).modify es.size (fun e => {e with val:=ev x})=es.push ⟨kv a,ev x,clock⟩:=by
     apply Array.ext';rw[Array.toList_modify,Array.toList_push,Array.toList_push,<- Array.length_toList,modify_last]
    simp[Instr.entryStore,MapKept.run_getObj_map hw2,asInt,asIntOf,goInt,hidx,hmod,MapKept.run_setObj_map _ hw2,Result.andThen,setBlock]
   ·simp[Instr.mapUpdate,run_underlying ht,MapKept.run_getObj_map hb,K.check w false hq,h1,MapKept.run_setObj_map _ hb,Result.andThen,setBlock]
 ·have hj:es[j]?=some e0:=by simpa using h2
  have hsame:es.modify j (fun e => {e with key:=kv a})=es:=by
   apply Array.ext';rw[Array.toList_modify,modify_eq_set _ _ _ _ h2];have:({e0 with key:=kv a}:MapEntry)=e0:=by rw[<- h3]
   rw[this];exact set_self _ _ _ h2
  refine⟨es,clock,e0.born,?_,fun w2 x hw2=>?_⟩
  ·have hv:lookV false z ev (lookA l a)=e0.val:=by
    have:(Instr.lookup t (.map (some b)) (kv a) false).run P w = .ok e0.val w:=by
     simp[Instr.lookup,run_underlying ht,MapKept.run_getObj_map hb,K.check w _ hq,h1,Result.andThen]
    rw[hlk]at this;injection this
   rw[hv];simp[Instr.mapEntry,run_underlying ht,MapKept.run_getObj_map hb,K.check w false hq,h1,hj,h3,K.stays w hq,hsame,MapKept.run_setObj_map _ hb,Result.andThen,setBlock]
  ·refine fin _ _ _ w2 x (es.modify j (fun e' => {e' with key:=kv a,val:=ev x})) clock hw2 ?_ ?_
   ·have hidx:es.findIdx? (fun e=>((e.born:Nat):Int) == ((e0.born:Nat):Int))=some j:=by
     rw[findIdx_arr];exact findIdx_born s2 h2
    have hmod:es.modify j (fun e => {e with val:=ev x})=es.modify j (fun e' => {e' with key:=kv a,val:=ev x}):=by
     apply Array.ext';rw[Array.toList_modify,Array.toList_modify,modify_eq_set _ _ _ _ h2,modify_eq_set _ _ _ _ h2,<- h3]
    simp[Instr.entryStore,MapKept.run_getObj_map hw2,asInt,asIntOf,goInt,hidx,hmod,MapKept.run_setObj_map _ hw2,Result.andThen,setBlock]
   ·simp[Instr.mapUpdate,run_underlying ht,MapKept.run_getObj_map hb,K.check w false hq,h1,hj,h3,K.stays w hq,MapKept.run_setObj_map _ hb,Result.andThen,setBlock]
section
variable {κ ι : Type}
theorem MRows.put2 [DecidableEq κ] {P:Program} {k:TypeId} {kv:κ->Value} {E:Elm ι} {w w1 w2 w3:World} {B b3:Nat} {lw:List (κ × RwV ι)} (h:MRows E w B lw) {n:κ} {names:List ι} {v v':Value} (hl:(lookA lw n=some (names,v))\/(lookA lw n=none/\names=[]/\v = .slice none 0 0))
  (h1:∀ x,x<w.heap.size->x≠b3->w1.heap[x]?=w.heap[x]?) (h1s:w.heap.size<=w1.heap.size) (h2:w1.grownBy w2 v.ownBlock) {tn:ι} (ho:Own w2 B E.e E.sz v' ((names++[tn]).flatMap E.enc)) (hw:∀ g,v'.ownBlock=some g->v.ownBlock=some g\/w1.heap.size<=g)
  (hm:Mp P k kv rwV w b3 lw) (hnc:∀ cs t fr,w2.heap[b3]?≠some (.cells cs t fr)) (ht:Turned w2 w3 b3):MRows E w3 B (putA lw n (names++[tn],v')):=by
 have hnd:=hm.nodup
 have old:∀ x∈lw,x.1≠n->∀ g,x.2.2.ownBlock=some g->v.ownBlock≠some g:=fun x hx hne g hg e=>by
  rcases hl with hl | ⟨_,_,rfl⟩
  ·exact h.apart x hx _ (look_mem hl) hne (hg.trans e.symm)
  ·cases e
 have lt:∀ x∈lw,∀ g,x.2.2.ownBlock=some g->g<w.heap.size:=fun x hx g hg=>((h.rows x hx).2.block g hg).2;refine⟨fun x hx=>?_,fun x hx y hy hne=>?_⟩
 ·rcases put_mem _ _ _ hnd hx with rfl | ⟨hx,hxn⟩
  ·exact⟨by simp,ho.keepB fun g hg=>ht.kept.block g (ho.notMap hnc g hg)⟩
  ·have hr:=(h.rows x hx).2;refine⟨(h.rows x hx).1,hr.keepB fun g hg=>?_⟩;have hg1:=lt x hx g hg;have hgb:=hr.notMap hm.notCells g hg;exact(ht.kept.block g hgb).trans ((h2.block g (by omega) fun e=>old x hx hxn g hg e.symm).trans (h1 g hg1 hgb))
 ·rcases put_mem _ _ _ hnd hx with rfl | ⟨hx,hxn⟩ <;> rcases put_mem _ _ _ hnd hy with rfl | ⟨hy,hyn⟩
  ·exact absurd rfl hne
  ·intro e;obtain⟨g,hg⟩:=own_someE ho (by simp);have hg2:y.2.2.ownBlock=some g:=e.symm.trans hg;rcases hw g hg with h3 | h3
   ·exact old y hy hyn g hg2 h3
   ·have:=lt y hy g hg2;omega
  ·intro e;obtain⟨g,hg⟩:=own_someE ho (by simp);have hg2:x.2.2.ownBlock=some g:=e.trans hg;rcases hw g hg with h3 | h3
   ·exact old x hx hxn g hg2 h3
   ·have:=lt x hx g hg2;omega
  ·exact h.apart x hx y hy hne
theorem MR.entry [DecidableEq κ] {P:Program} {k t e:TypeId} {kv:κ->Value} {E:Elm ι} {w:World} {B b:Nat} {f:κ->List ι} (h:MR P k kv E w B b f)(K:Keyed P k)(inj:∀ a b,kv a=kv b->a=b)(ht:P.underlying t=some (.map k e))(hz:∀ w,(zeroValue e).run P w = .ok (.slice none 0 0) w) {n:κ} (hn:∃ q,keyOf P k (kv n)=some q) :
  ∃ es1 c1 st v,(∀ a,a=b->(Instr.mapEntry t (.map (some a)) (kv n)).run P w = .ok (.tuple #[v,goInt st]) (setBlock w b (.map es1 c1)))/\Own w B E.e E.sz v ((f n).flatMap E.enc)/\Own (setBlock w b (.map es1 c1)) B E.e E.sz v ((f n).flatMap E.enc)/\(∀ g,v.ownBlock=some g->g≠b) /\
   ∀ (w2:World) (v':Value) (x:ι),(setBlock w b (.map es1 c1)).grownBy w2 v.ownBlock->Own w2 B E.e E.sz v' ((f n++[x]).flatMap E.enc)->(∀ g,v'.ownBlock=some g->v.ownBlock=some g\/(setBlock w b (.map es1 c1)).heap.size<=g) ->
    ∃ w3,(Instr.entryStore t (.map (some b)) (goInt st) v').run P w2 = .ok () w3/\MR P k kv E w3 B b (fun m=>if n=m then f m++[x]else f m)/\Turned w2 w3 b:=by
 obtain⟨lw,hM,hR,hL⟩:=h;obtain⟨es1,c1,st,h1,h2⟩:=hM.entry K inj ht (hz w) hn;have hl:=hL n
 have hv:∃ v,lookV false (.slice none 0 0) rwV (lookA lw n)=v/\Own w B E.e E.sz v ((f n).flatMap E.enc)/\(lookA lw n=some (f n,v)\/(lookA lw n=none/\f n=[]/\v = .slice none 0 0)):=by
  cases hlk:lookA lw n with
  | none =>
   rw[hlk]at hl
   have hw:f n=[]:=by
    unfold optR at hl;split at hl
    ·next h=>exact List.isEmpty_iff.1 h
    ·cases hl
   exact⟨_,rfl,by rw[hw];exact Own.nil _ _ _ _,.inr ⟨rfl,hw,rfl⟩⟩
  | some x =>
   rw[hlk]at hl
   have hw:x.1=f n:=by
    unfold optR at hl;split at hl
    ·cases hl
    ·injection hl
   refine⟨_,rfl,by rw[<- hw];exact(hR.rows _ (look_mem hlk)).2,.inl ?_⟩;rw[<- hw];rfl
 obtain⟨v,hve,hvo,hvl⟩:=hv;rw[hve]at h1;have hsz:(setBlock w b (.map es1 c1)).heap.size=w.heap.size:=setBlock_size _ _ _;have hnb:=hvo.notMap hM.notCells;obtain⟨o0,ho0⟩:∃ o,w.heap[b]?=some o:=⟨w.heap[b]'hM.lt,Array.getElem?_eq_getElem _⟩;have hat:(setBlock w b (.map es1 c1)).heap[b]?=some (.map es1 c1):=setBlock_at ho0;refine⟨es1,c1,st,v,fun a ha=>by rw[ha];exact h1,hvo,hvo.keepB fun g hg=>setBlock_block w b g _ (hnb g hg),hnb,fun w2 v' x hg ho hwh=>?_⟩;have hw2:w2.heap[b]?=some (.map es1 c1):=(hg.block b (by rw[hsz];exact hM.lt) fun e=>hnb b e.symm rfl).trans hat;obtain⟨w3,hrun,hM3,hT⟩:=h2 w2 (f n++[x],v') hw2;refine⟨w3,hrun,⟨_,hM3,MRows.put2 (w1:=setBlock w b (.map es1 c1)) hR (names:=f n) (v:=v) hvl (fun y _ hy=>setBlock_block w b y _ hy) (Nat.le_of_eq hsz.symm) hg ho hwh hM (fun cs t fr=>by rw[hw2];simp) hT,fun m=>?_⟩,hT⟩;rw[look_put];show _=optR (if n=m then f m++[x]else f m)
 by_cases e:n=m
 ·rw[if_pos e,if_pos e];subst e;unfold optR;rw[if_neg (by simp)];rfl
 ·rw[if_neg e,if_neg e];exact hL m
end
structure NbI (w0 w:World)(b m1 m2 m3:Nat)(l:OL)(Ts Tp:List Tup)(sv:Value)(s:List Tup):Prop where
 box:Blk w b #[.map (some m1),.map (some m2),.map (some m3)] 149
 subs:MR Tryz.prog 32 pV subE w w0.heap.size m1 (subsOf Ts)
 pnts:MR Tryz.prog 33 pV pntE w w0.heap.size m2 (pointsOf Tp)
 objs:ONest w m3 l
 row:Own w w0.heap.size 67 6 sv (tuCs s)
 ne:m1≠m2/\m1∉nBG m3 l/\m2∉nBG m3 l
 lo:w0.heap.size<=m1/\w0.heap.size<=m2/\∀ x∈nBG m3 l,w0.heap.size<=x
 low:Below w0.heap.size w0 w
section
variable {w0 w w' w1 w2 : World} {b m1 m2 m3 : Nat} {l : OL} {Ts Tp s : List Tup} {sv : Value}
theorem NbI.ext (h:NbI w0 w b m1 m2 m3 l Ts Tp sv s)(hx:Ext w w'):NbI w0 w' b m1 m2 m3 l Ts Tp sv s :=
 ⟨h.box.below hx,h.subs.up hx,h.pnts.up hx,h.objs.below hx,h.row.below hx,h.ne,h.lo,h.low.trans (hx.mono h.low.size)⟩
structure Onl (w w':World)(c:Nat)(v:Value):Prop where
 os:w'.os=w.os
 tape:w'.tape=w.tape
 output:w'.output=w.output
 size:w.heap.size<=w'.heap.size
 block:∀ x,x<w.heap.size->x≠c->v.ownBlock≠some x->w'.heap[x]?=w.heap[x]?
theorem onl_of {c:Nat} {v:Value} {o:Obj} {w1 w2:World} (hg:(setBlock w c o).grownBy w1 v.ownBlock)(ht:Turned w1 w2 c):Onl w w2 c v :=
 have h0:Turned w (setBlock w c o) c:=⟨o,rfl⟩
 ⟨ht.kept.os.trans (hg.os.trans h0.kept.os),ht.kept.tape.trans (hg.tape.trans h0.kept.tape),ht.kept.output.trans (hg.output.trans h0.kept.output),by rw[ht.size,<- h0.size];exact hg.size,fun x hx hc hv=>(ht.kept.block x hc).trans ((hg.block x (by rw[h0.size];exact hx) fun e=>hv e.symm).trans (h0.kept.block x hc))⟩
theorem Onl.blk {c B sz:Nat} {v:Value} {e t:TypeId} {xs:List Value} {x:Nat} {cs:Array Value} (h:Onl w w' c v)(ho:Own w B e sz v xs)(hx:Blk w x cs t)(hne:t≠e)(hc:x≠c):Blk w' x cs t :=
 (h.block x hx.lt hc fun hv=>by
  obtain⟨c2,h2⟩:=ho.typed hv;rw[show w.heap[x]?=_ from hx]at h2;exact hne (by injection Option.some.inj h2)).trans hx
theorem Onl.low {c B:Nat} {v:Value} (h:Onl w w' c v)(hc:B<=c)(hv:∀ g,v.ownBlock=some g->B<=g)(hl:Below B w0 w)(hB:B<=w.heap.size):Below B w0 w' :=
 hl.trans ⟨h.os,h.tape,h.output,h.size,fun x hx=>h.block x (by omega) (by omega) fun e=>by have:=hv x e;omega⟩
theorem NbI.sub (h:NbI w0 w b m1 m2 m3 l Ts Tp sv s) {v:Value} {xs:List Value} (ho:Own w w0.heap.size 33 3 v xs)(hc:Onl w w' m1 v) {t:Tup} (hm:MR Tryz.prog 32 pV subE w' w0.heap.size m1 (fun m=>if t.o=m then subsOf Ts m++[t.s]else subsOf Ts m)):NbI w0 w' b m1 m2 m3 l (Ts++[t]) Tp sv s:=by
 have ap:∀ x cs e,w.heap[x]?=some (.cells cs e (0,0))->e≠33->v.ownBlock≠some x:=fun x cs e hx he hv=>by
  obtain⟨c2,h2⟩:=ho.typed hv;rw[hx]at h2;exact he (by injection Option.some.inj h2)
 have nm:∀ x,(∃ es c,w.heap[x]?=some (.map es c))->v.ownBlock≠some x:=fun x hx hv=>by
  obtain⟨c2,h2⟩:=ho.typed hv;obtain⟨es,c,h3⟩:=hx;rw[h3]at h2;cases h2
 have bx:∀ x cs e fr,w.heap[x]?=some (.cells cs e fr)->x≠m1:=fun x cs e fr hx hm=>h.subs.notCells _ _ _ (hm▸hx);refine⟨(hc.block b h.box.lt (bx b _ _ _ h.box) (ap b _ _ h.box (by decide))).trans h.box,hm.congr fun n=>(subsOf_snoc Ts t n).symm,h.pnts.keep (hc.block m2 h.pnts.lt (Ne.symm h.ne.1) (nm m2 ?_)) fun x _ hl hx=>?_,h.objs.same fun x hx=>hc.block x (h.objs.lt x hx) (fun e=>h.ne.2.1 (e▸hx)) (nm x (h.objs.isMap x hx)),h.row.keepOwn fun g hg=>?_,h.ne,h.lo,?_⟩
 ·obtain⟨lw,h1,_⟩:=h.pnts;exact h1.isMap
 ·obtain⟨cs,hx⟩:=hx;exact hc.block x hl (bx x _ _ _ hx) (ap x _ _ hx (by decide))
 ·obtain⟨cur,h2⟩:=h.row.typed hg;exact hc.block g (h.row.block g hg).2 (bx g _ _ _ h2) (ap g _ _ h2 (by decide))
 ·exact hc.low h.lo.1 (fun g hg=>(ho.block g hg).1) h.low h.low.size
theorem NbI.pnt (h:NbI w0 w b m1 m2 m3 l Ts Tp sv s) {v:Value} {xs:List Value} (ho:Own w w0.heap.size 32 3 v xs)(hc:Onl w w' m2 v) {t:Tup} (hm:MR Tryz.prog 33 pV pntE w' w0.heap.size m2 (fun m=>if t.s=m then pointsOf Tp m++[t.o]else pointsOf Tp m)):NbI w0 w' b m1 m2 m3 l Ts (Tp++[t]) sv s:=by
 have ap:∀ x cs e,w.heap[x]?=some (.cells cs e (0,0))->e≠32->v.ownBlock≠some x:=fun x cs e hx he hv=>by
  obtain⟨c2,h2⟩:=ho.typed hv;rw[hx]at h2;exact he (by injection Option.some.inj h2)
 have nm:∀ x,(∃ es c,w.heap[x]?=some (.map es c))->v.ownBlock≠some x:=fun x hx hv=>by
  obtain⟨c2,h2⟩:=ho.typed hv;obtain⟨es,c,h3⟩:=hx;rw[h3]at h2;cases h2
 have bx:∀ x cs e fr,w.heap[x]?=some (.cells cs e fr)->x≠m2:=fun x cs e fr hx hm=>h.pnts.notCells _ _ _ (hm▸hx);refine⟨(hc.block b h.box.lt (bx b _ _ _ h.box) (ap b _ _ h.box (by decide))).trans h.box,h.subs.keep (hc.block m1 h.subs.lt h.ne.1 (nm m1 ?_)) fun x _ hl hx=>?_,hm.congr fun n=>(pointsOf_snoc Tp t n).symm,h.objs.same fun x hx=>hc.block x (h.objs.lt x hx) (fun e=>h.ne.2.2 (e▸hx)) (nm x (h.objs.isMap x hx)),h.row.keepOwn fun g hg=>?_,h.ne,h.lo,?_⟩
 ·obtain⟨lw,h1,_⟩:=h.subs;exact h1.isMap
 ·obtain⟨cs,hx⟩:=hx;exact hc.block x hl (bx x _ _ _ hx) (ap x _ _ hx (by decide))
 ·obtain⟨cur,h2⟩:=h.row.typed hg;exact hc.block g (h.row.block g hg).2 (bx g _ _ _ h2) (ap g _ _ h2 (by decide))
 ·exact hc.low h.lo.2.1 (fun g hg=>(ho.block g hg).1) h.low h.low.size
theorem NbI.obj (h:NbI w0 w b m1 m2 m3 l Ts Tp sv s) {c:Nat} (hc:Turned w w' c)(hcm:c∈nBG m3 l) {l':OL} (hm:ONest w' m3 l')(hl:∀ x∈nBG m3 l',x∈nBG m3 l\/(w0.heap.size<=x/\x≠m1/\x≠m2)):NbI w0 w' b m1 m2 m3 l' Ts Tp sv s:=by
 obtain⟨es,k,hcc⟩:=h.objs.isMap c hcm;have hnc:∀ cs t fr,w.heap[c]?≠some (.cells cs t fr):=fun cs t fr=>by rw[hcc];simp
 refine⟨hc.kept.blk h.box fun e=>hnc _ _ _ (e▸h.box),h.subs.turned hc (fun e=>h.ne.2.1 (e▸hcm)) hnc,h.pnts.turned hc (fun e=>h.ne.2.2 (e▸hcm)) hnc,hm,h.row.keepOwn fun g hg=>hc.kept.block g fun e=>?_,⟨h.ne.1,fun hx=>?_,fun hx=>?_⟩,⟨h.lo.1,h.lo.2.1,fun x hx=>?_⟩,h.low.trans (hc.below (h.lo.2.2 c hcm))⟩
 ·obtain⟨cur,h2⟩:=h.row.typed hg;exact hnc _ _ _ (e▸h2)
 ·rcases hl _ hx with h1 | h1
  ·exact h.ne.2.1 h1
  ·exact h1.2.1 rfl
 ·rcases hl _ hx with h1 | h1
  ·exact h.ne.2.2 h1
  ·exact h1.2.2 rfl
 ·rcases hl x hx with h1 | h1
  ·exact h.lo.2.2 x h1
  ·exact h1.1
end
theorem mapO_nil (x:Option Nat)(W:World):(binOp BinOp.eql 157 (.map x) (.map none)).run Tryz.prog W = .ok (.bool x.isNone) W:=by
 have h:(Op.equal 157 (.map x) (.map none)).run Tryz.prog W = .ok x.isNone W:=run_equalIn_map_nil W 9999 _ _ _ x Tryz.underlying157;simp[binOp,h,Result.andThen]
theorem objs_at (a b c d:ByteArray)(W:World):(Instr.index 156 (.agg #[.string a,.string b,.string c,.string d]) (.int .i64 0)).run Tryz.prog W = .ok (.agg #[.string a,.string b]) W/\(Instr.index 156 (.agg #[.string a,.string b,.string c,.string d]) (.int .i64 1)).run Tryz.prog W = .ok (.agg #[.string c,.string d]) W:=⟨by kernel_rfl,by kernel_rfl⟩
theorem put_blG {ι:Type} [DecidableEq ι] (l:List ι)(a:ι):putA (blG l) a true=blG (if a∈l then l else l++[a]):=by
 split
 ·next h =>
  induction l with
  | nil=>simp at h
  | cons x r ih =>
   simp only[blG,List.map_cons,putA]at *;by_cases e:x=a
   ·subst e;simp
   ·rw[if_neg e,ih (by simpa [Ne.symm e] using h)]
 ·next h =>
  rw[put_miss (fun p hp e=>h (by obtain⟨x,hx,rfl⟩:=List.mem_map.1 hp;exact e▸hx))];simp[blG]
theorem innG_put {κ ι:Type} [DecidableEq κ] (l:NLG κ ι)(q x:κ)(b:Nat)(ss:List ι):innG (putA l q (b,ss)) x=if q=x then ss else innG l x:=by
 unfold innG;rw[look_put];by_cases e:q=x
 ·rw[if_pos e,if_pos e]
 ·rw[if_neg e,if_neg e]
theorem innG_some {κ ι:Type} [DecidableEq κ] {l:NLG κ ι} {q:κ} {b:Nat} {ss:List ι} (h:lookA l q=some (b,ss)):innG l q=ss:=by unfold innG;rw[h]
theorem innG_none {κ ι:Type} [DecidableEq κ] {l:NLG κ ι} {q:κ} (h:lookA l q=none):innG l q=[]:=by unfold innG;rw[h]
def ObjJ (T:List Tup)(t:Tup)(j:Nat)(o:O2):Prop:=ObjIn T o\/(1<=j/\o=t.o.obj)\/(2<=j/\o=t.s.obj)
def What (l:OL)(Q:O2->Prop):Prop:=∀ typ o,o∈innG l typ↔o.t=typ/\Q o
theorem What.congr {l:OL} {Q Q':O2->Prop} (h:What l Q)(e:∀ o,Q o↔Q' o):What l Q':=fun typ o=>by rw[h typ o,e o]
theorem What.fresh {l:OL} {Q:O2->Prop} {q:ByteArray} (h:What l Q)(hl:lookA l q=none)(b:Nat):What (putA l q (b,[])) Q:=fun typ o=>by
 rw[<- h typ o,innG_put];by_cases e:q=typ
 ·subst e;rw[if_pos rfl,innG_none hl]
 ·rw[if_neg e]
theorem What.mark {l:OL} {Q:O2->Prop} {q:O2} (h:What l Q) {b:Nat} {ss:List O2} (hl:lookA l q.t=some (b,ss)):What (putA l q.t (b,if q∈ss then ss else ss++[q])) (fun o=>Q o\/o=q):=fun typ o=>by
 rw[innG_put];have hs:=h q.t;rw[innG_some hl]at hs;by_cases e:q.t=typ
 ·subst e;rw[if_pos rfl]
  have h1:o∈(if q∈ss then ss else ss++[q])↔o∈ss\/o=q:=by
   split
   ·next hq=>exact⟨.inl,fun h=>h.elim id fun e=>e▸hq⟩
   ·simp
  rw[h1,hs o];constructor
  ·rintro(⟨h1,h2⟩ | rfl)
   ·exact⟨h1,.inl h2⟩
   ·exact⟨rfl,.inr rfl⟩
  ·rintro⟨h1,h2 | rfl⟩
   ·exact .inl ⟨h1,h2⟩
   ·exact .inr rfl
 ·rw[if_neg e,h typ o];constructor
  ·rintro⟨h1,h2⟩;exact⟨h1,.inl h2⟩
  ·rintro⟨h1,h2 | rfl⟩
   ·exact⟨h1,h2⟩
   ·exact absurd h1 e
theorem objJ_step (T:List Tup)(t:Tup)(o:O2):(ObjJ T t 1 o↔ObjJ T t 0 o\/o=t.o.obj)/\(ObjJ T t 2 o↔ObjJ T t 1 o\/o=t.s.obj)/\(ObjJ T t 0 o↔ObjIn T o)/\(ObjJ T t 2 o↔ObjIn (T++[t]) o):=by
 unfold ObjJ;refine⟨by simp,by simp[or_assoc],by simp,?_⟩;unfold ObjIn;simp only[List.mem_append,List.mem_singleton,Nat.le_refl,true_and];constructor
 ·rintro(⟨x,hx,h⟩ | h | h)
  ·exact⟨x,.inl hx,h⟩
  ·exact⟨t,.inr rfl,.inl h.2.symm⟩
  ·exact⟨t,.inr rfl,.inr h.symm⟩
 ·rintro⟨x,hx | rfl,h⟩
  ·exact .inl ⟨x,hx,h⟩
  ·exact .inr (h.imp (fun e=>⟨by omega,e.symm⟩) Eq.symm)
theorem filter_take {α:Type} (p:α->Bool) {l:List α} {i:Nat} (h:i<l.length):(l.take (i+1)).filter p=(l.take i).filter p++if p l[i]then [l[i]]else []:=by
 rw[List.take_succ_eq_append_getElem h,List.filter_append];congr 1
 cases e:p l[i] <;> simp[e]
theorem newBook_any (l:List Tup)(v:Value)(w:World)(h:Sl (· < w.heap.size) w 6 v (tuCs l))(hl:l.length<=1000000)(hok:∀ t∈l,t.Ok) :
  Calls Tryz.prog 20 #[v] w fun e w'=>∃ b T,e = .returned (.pointer (some ⟨b,0,none⟩))/\SetT l T/\BookAt w' b T/\Below w.heap.size w w':=by
 obtain⟨ao,n,c,rfl,hn,hnc,hcm⟩:=h.len;obtain rfl:n=l.length:=by rw[tuCs_length]at hn;omega
 have HL:=h! hl;have HOK:=h! hok;have HS:=h! h;have hmm:=@run_makeMap Tryz.prog;clear h hl hok hn;go_enter Tryz.func20,Tryz.ntmps20
 go_wp2_with fail
 obtain⟨w1,hw1⟩:∃ x,x=w.alloc (.map #[] 0):=⟨_,rfl⟩;rw[<- hw1];obtain⟨w2,hw2⟩:∃ x,x=w1.alloc (.map #[] 0):=⟨_,rfl⟩;rw[<- hw2];obtain⟨w3,hw3⟩:∃ x,x=w2.alloc (.map #[] 0):=⟨_,rfl⟩;rw[<- hw3];obtain⟨bc,hbc⟩:∃ x,x=w.heap.size+1+1+1:=⟨_,rfl⟩;obtain⟨m3,hm3⟩:∃ x,x=w.heap.size+1+1:=⟨_,rfl⟩;obtain⟨m2,hm2⟩:∃ x,x=w.heap.size+1:=⟨_,rfl⟩;rw[<- hbc,<- hm3,<- hm2];obtain⟨w4,hw4⟩:∃ x,x=w3.alloc (.cells #[.map (some w.heap.size),.map (some m2),.map (some m3)] 149):=⟨_,rfl⟩;rw[<- hw4];have e1:w1.heap.size=m2:=by rw[hw1,hm2];simp
 have e2:w2.heap.size=m3:=by rw[hw2,hm3];simp[e1,hm2]
 have e3:w3.heap.size=bc:=by rw[hw3,hbc];simp[e2,hm3]
 have x01:Ext w w1:=by rw[hw1];exact Ext.alloc _ _
 have x12:Ext w1 w2:=by rw[hw2];exact Ext.alloc _ _
 have x23:Ext w2 w3:=by rw[hw3];exact Ext.alloc _ _
 have x34:Ext w3 w4:=by rw[hw4];exact Ext.alloc _ _
 have hbox:Blk w4 bc #[.map (some w.heap.size),.map (some m2),.map (some m3)] 149:=by rw[hw4,<- e3];exact Blk.made _ _ _
 have hM1:MR Tryz.prog 32 pV subE w4 w.heap.size w.heap.size (subsOf []):=MR.up (by rw[hw1];exact MR.made _ _) (x12.trans (x23.trans x34));have hM2:MR Tryz.prog 33 pV pntE w4 w.heap.size m2 (pointsOf []):=MR.up (w:=w2) (by rw[hw2,<- e1];exact MR.made _ _) (x23.trans x34);have hM3:ONest w4 m3 []:=NestG.below (w:=w3) ⟨by rw[hw3,<- e2];exact Mp.made _,(fun x hx=>by cases hx),by simp⟩ x34;have HB:=h! hbox;have HM:=h! (And.intro hM1 (And.intro hM2 hM3));have HX:=h! (x01.trans (x12.trans (x23.trans x34)));have HN:=h! (show w.heap.size<=m2/\w.heap.size<=m3/\w.heap.size≠m2/\w.heap.size≠m3/\m2≠m3 from by omega);clear hw1 hw2 hw3 hw4 e1 e2 e3 x01 x12 x23 x34 hbox hM1 hM2 hM3 hbc hm3 hm2 w1 w2 w3;refine(valuesT_any ao l.length c w4).mono ?_;rintro e w5 ⟨rfl,hw5⟩;have HX5:=h! (show Ext w4 w5 from by rw[hw5];exact Ext.alloc _ _);have HP:=h! (sortedT_any w5 w4.heap.size ao c l (by have:=HL.out;omega) (by rw[hw5];simp) (by rw[hw5];exact(Blk.made w4 _ _).cells 0) ((HS.out.same (Same.below (HX.out.trans HX5.out))).mono fun x hx=>Nat.lt_of_lt_of_le hx (HX.out.trans HX5.out).size));clear hw5;go_wp2_with fail
 refine HP.out.mono ?_;rintro e w6 ⟨v6,s0,rfl,hperm,hsort,hown6,hx56⟩;have HSET:=h! (set_of hperm hsort)
 have HDL:=h! (show(dd s0).length<=1000000 from by
  have h1:=HL.out
  have h2:(dd s0).length<=s0.length:=by
   have:=(nodup_leR (u:=s0) (UpT.nodup (dd_up hsort)) fun x hx=>(dd_mem s0 x).1 hx);exact this
  rw[hperm.length_eq]at h2;omega)
 have HDOK:=h! (show ∀ t∈dd s0,t.Ok from fun t ht=>HOK.out t (hperm.mem_iff.1 ((dd_mem s0 t).1 ht)));have HC:=h! (compactT_any v6 s0 w6 hown6 (by have:=HL.out;rw[hperm.length_eq];omega));have HO6:=h! hown6;have HX6:=h! (HX5.out.trans hx56);clear HP hperm hsort hown6 hx56;go_wp2_with fail
 refine HC.out.mono ?_;rintro e w7 ⟨v7,rfl,hown7,hk7⟩;have HX7:=h! (show Ext w4 w7 from(Below.trans HX6.out (Kept.below (B:=w4.heap.size) hk7 fun b hb=>⟨Nat.lt_of_lt_of_le hb HX6.out.size,fun e=>by have:=(HO6.out.block b e).1;have:=HX5.out.size;omega⟩)));have HO7:=h! (show Own w7 w.heap.size 67 6 v7 (tuCs (dd s0))from hown7.low (Nat.le_trans HX.out.size HX5.out.size));clear HC HO6 HX6 hown7 hk7;generalize dd s0=s at *;obtain⟨a7,n7,c7,rfl,hn7,-,-⟩:=HO7.out.sl.len;obtain rfl:n7=s.length:=by rw[tuCs_length]at hn7;omega
 clear hn7;have HI:=h! (show NbI w w7 bc w.heap.size m2 m3 [] [] [] (.slice a7 s.length c7) s from⟨HB.out.below HX7.out,HM.out.1.up HX7.out,HM.out.2.1.up HX7.out,HM.out.2.2.below HX7.out,HO7.out,⟨HN.out.2.2.1,by simp[nBG];exact HN.out.2.2.2.1,by simp[nBG];exact HN.out.2.2.2.2⟩,⟨Nat.le_refl _,HN.out.1,by simp[nBG];exact HN.out.2.1⟩,HX.out.trans HX7.out⟩);clear HB HM HO7 HX7 HX5 HOK HS HL HX;go_wp2_with fail
 go_loopw [20] (fun ii wr=>∃ (i:Nat) (lb:OL),i<=s.length/\ii = .int .i64 i/\NbI w wr bc w.heap.size m2 m3 lb ((s.take i).filter fun t=>chkT t) ((s.take i).filter fun t=>chkT t) (.slice a7 s.length c7) s/\What lb (ObjIn ((s.take i).filter fun t=>chkT t))) (fun ii _=>s.length-(intOf ii).toNat)
 case atStart=>exact⟨0,[],by omega,rfl,HI.out,fun typ o=>by simp[innG,lookA,ObjIn]⟩
 case round =>
  obtain⟨i,lb,hi,rfl,hnb,hwhat⟩:=hrel;have HNB:=h! hnb;have HWH:=h! hwhat;clear HI hnb hwhat;by_cases hlt:i<s.length
  ·have HTK:=h! (filter_take (fun t=>chkT t) hlt);have HXK:=HDOK.out _ (List.getElem_mem hlt);have HLT:=h! hlt
   obtain⟨g,rfl⟩:∃ g,a7=some ⟨g,0,none⟩:=by
    rcases HNB.out.row.shape with⟨h1,_⟩ | ⟨g,n,c,h1⟩
    ·injection h1 with _ h1 _;omega
    ·exact⟨g,by injection h1⟩
   obtain⟨d0,d1,d2,d3,d4,d5⟩:=HNB.out.row.tupAt i hlt;have HWI:=h! (show wrap64 ((i:Int)+1)=((i+1:Nat):Int)from by have:=HDL.out;unfold wrap64;omega);have HTL:=h! (show((s.take i).filter fun t=>chkT t).length<=1000000 from Nat.le_trans (List.length_filter_le _ _) (by rw[List.length_take];have:=HDL.out;omega));generalize s[i]=x at *;generalize hT:(s.take i).filter (fun t=>chkT t)=T at *;obtain⟨⟨ot,oi,or_⟩,⟨st,si,sr⟩⟩:=x;have HOK:=h! HXK;clear HXK hT;have HTB:=h! (Blk.made wr #[.string ot,.string oi,.string or_,.string st,.string si,.string sr] 67);have ht:=HTB.out.cells;have HX1:=h! (Ext.alloc wr (.cells #[.string ot,.string oi,.string or_,.string st,.string si,.string sr] 67));have HCK:=h! (check_any ⟨⟨ot,oi,or_⟩,⟨st,si,sr⟩⟩ HOK.out (wr.alloc (.cells #[.string ot,.string oi,.string or_,.string st,.string si,.string sr] 67)));unfold tV at HCK;dsimp only at HCK d0 d1 d2 d3 d4 d5;have hli:(i:Int)<(s.length:Int):=by omega
   clear hlt;go_wp2_with fail
   clear d0 d1 d2 d3 d4 d5 ht hli;refine HCK.out.mono ?_;rintro e w2 ⟨rfl,hb2⟩;have HX2:=h! (Ext.trans HX1.out hb2);have HTB2:=h! (HTB.out.below hb2);clear HCK hb2 HTB HX1;generalize wr.heap.size=tb at *;rcases hck:chkT ⟨⟨ot,oi,or_⟩,⟨st,si,sr⟩⟩with _ | _
   ·have hcn:chkN ⟨⟨ot,oi,or_⟩,⟨st,si,sr⟩⟩=2:=by simp[chkN,hck]
    have HT2:=h! (show(s.take (i+1)).filter (fun t=>chkT t)=T from by rw[HTK.out,hck];simp);rw[hcn];clear hcn hck HTK;go_wp2_with fail
    go_roundw
    case rel=>exact⟨i+1,lb,by have:=HLT.out;omega,by rw[HWI.out],by rw[HT2.out];exact HNB.out.ext HX2.out,by rw[HT2.out];exact HWH.out⟩
    case measure=>have:=HLT.out;rw[HWI.out];simp[intOf];omega
   ·have hcn:chkN ⟨⟨ot,oi,or_⟩,⟨st,si,sr⟩⟩=0:=by simp[chkN,hck]
    have HT2:=h! (show(s.take (i+1)).filter (fun t=>chkT t)=T++[⟨⟨ot,oi,or_⟩,⟨st,si,sr⟩⟩]from by rw[HTK.out,hck];simp);rw[hcn];clear hcn hck HTK;have ht2:=HTB2.out.cells;have HX3:=h! (Ext.alloc w2 (.cells #[.string ot,.string oi,.string or_] 32));have HPB:=h! (Blk.made w2 #[.string ot,.string oi,.string or_] 32);have HN3:=h! ((HNB.out.ext HX2.out).ext HX3.out);have HTB3:=h! (HTB2.out.below HX3.out);go_wp2_with fail
    clear ht2 HTB2 HX2 HNB;obtain⟨w3,hw3⟩:∃ y,y=w2.alloc (.cells #[.string ot,.string oi,.string or_] 32):=⟨_,rfl⟩;rw[<- hw3]at HPB HN3 HTB3 ⊢;generalize w2.heap.size=pb at *;clear hw3 HX3;obtain⟨wd,hwd⟩:∃ y:World,y=World.drew w3:=⟨_,rfl⟩;have DX:=h! (show Ext w3 wd from by rw[hwd];exact Ext.drew _);have DN:=h! (HN3.out.ext DX.out);have DT:=h! (HTB3.out.below DX.out);have DP:=h! (HPB.out.below DX.out);refine region_walkS (fun j=>decide (8<=j)) (Ext wd) (by rw[<- hwd];exact Ext.refl _) (by kernel_rfl) (by kernel_rfl) (fun _ _ d _ _ h=>by cases d <;> exact h) ?_;rw[<- hwd];clear hwd HN3 HTB3 HPB DX;have h1:=fun W (hW:Ext wd W)=>(DN.out.box.below hW).cells;have h2:=fun W (hW:Ext wd W)=>(DT.out.below hW).cells;have h3:=fun W (hW:Ext wd W)=>(DP.out.below hW).cells;(refine WalkS.tk [0,1,2,3,4,5,6] ?_;(iterate 7 (refine z! ?_));refine TkS.n ?_)
    clear h1 h2 h3;refine oS! 7 ?_;refine b! ?_;intro K hK;go_simp;refine hK.out _ _ (Ext.alloc _ _) ?_;clear hK;refine WalkS.rest (by kernel_rfl) ?_;have EX:=h! (Ext.alloc wd (.cells #[.string st,.string si,.string sr] 33));have EL:=h! (Blk.made wd #[.string st,.string si,.string sr] 33);obtain⟨we,hwe⟩:∃ y,y=wd.alloc (.cells #[.string st,.string si,.string sr] 33):=⟨_,rfl⟩;rw[<- hwe]at EX EL ⊢;clear hwe;have EN:=h! (DN.out.ext EX.out);obtain⟨es1,c1,stt,v,hme,hvo,hvs,hvb,hput⟩:=EN.out.subs.entry pointK pV_inj Tryz.underlying145 Tryz.zeroValue42 (point_key ⟨ot,oi,or_⟩ HOK.out.1);have hme2:=hme _ rfl;unfold pV at hme2;dsimp only at hme2;have hlen:=HTL.out;have hsl:(subsOf T ⟨ot,oi,or_⟩).length<=T.length:=by unfold subsOf;rw[List.length_map];exact List.length_filter_le _ _
    have HSL:=h! (show(subE.enc ⟨st,si,sr⟩).length=3/\(List.flatMap subE.enc (subsOf T ⟨ot,oi,or_⟩)).length<=3000000 from⟨rfl,by rw[flat_len];show _*3<=_;omega⟩);have HNE:=h! (show wd.heap.size≠w.heap.size from fun e=>EN.out.subs.notCells _ _ _ (e▸EL.out));clear hlen hsl hme;refine o! 8 ?_;refine b! ?_;intro K hK;go_simp;refine hK.out _ _ trivial ?_;clear hK hme2;(refine WalkN.tk [9,11] ?_;(iterate 2 (refine c! ?_));refine TkN.n ?_)
    refine o! 10 ?_;refine b! ?_;intro K hK;refine wp_ownw subsT (.tmp 37) (.tmp 40) rfl rfl hvs (m:=1) (news:=subE.enc ⟨st,si,sr⟩) rfl rfl (fun j u hu=>?_) (fun u hu=>pC_one _ u hu) (by have:=HSL.out.1;have:=HSL.out.2;omega) (by have:=HSL.out.1;have:=HSL.out.2;omega) (by rw[setBlock_size];exact EN.out.low.size) (fun v2 w9 hown9 hwh9 hg9=>?_)
    ·rw[Addr.add_lit,Nat.zero_add,show(setBlock we w.heap.size (.map es1 c1)).cell? _=we.cell? _ from World.cell?_of_block (setBlock_block we _ _ _ HNE.out),EL.out.cells];simpa [subE,pC] using hu
    refine hK.out _ _ trivial ?_;clear hK;simp only[Act.put,pA,pZ,pS];obtain⟨wa,hrun,hmr,hta⟩:=hput w9 v2 ⟨st,si,sr⟩ hg9 (by rw[List.flatMap_append,List.flatMap_cons,List.flatMap_nil,List.append_nil];exact hown9) hwh9;unfold goInt at hrun;have OA:=onl_of hg9 hta;have AN:=h! (EN.out.sub (t:=⟨⟨ot,oi,or_⟩,⟨st,si,sr⟩⟩) hvo OA hmr);have AT:=h! (OA.blk hvo (DT.out.below EX.out) (by decide) (fun e=>EN.out.subs.notCells _ _ _ (e▸DT.out.below EX.out)));have AP:=h! (OA.blk hvo (DP.out.below EX.out) (by decide) (fun e=>EN.out.subs.notCells _ _ _ (e▸DP.out.below EX.out)));clear hown9 hwh9 hg9 hmr hta OA hput hvo hvs hvb EN EL EX DN DT DP HSL HNE;refine o! 12 ?_;refine b! ?_;intro K hK;go_simp;refine hK.out _ _ trivial ?_;clear hK hrun;refine d! ?_;generalize wd.heap.size=nwd at *;clear we wd w9;go_wp2_with fail
    obtain⟨wd,hwd⟩:∃ y:World,y=World.drew wa:=⟨_,rfl⟩;have DX:=h! (show Ext wa wd from by rw[hwd];exact Ext.drew _);have DN:=h! (AN.out.ext DX.out);have DT:=h! (AT.out.below DX.out);have DP:=h! (AP.out.below DX.out);refine region_walkS (fun j=>decide (8<=j)) (Ext wd) (by rw[<- hwd];exact Ext.refl _) (by kernel_rfl) (by kernel_rfl) (fun _ _ d _ _ h=>by cases d <;> exact h) ?_;rw[<- hwd];clear hwd AN AT AP DX;have h1:=fun W (hW:Ext wd W)=>(DN.out.box.below hW).cells;have h2:=fun W (hW:Ext wd W)=>(DT.out.below hW).cells;have h3:=fun W (hW:Ext wd W)=>(DP.out.below hW).cells;(refine WalkS.tk [0,1,2,3,4,5,6] ?_;(iterate 7 (refine z! ?_));refine TkS.n ?_)
    clear h1 h2 h3;refine oS! 7 ?_;refine b! ?_;intro K hK;go_simp;refine hK.out _ _ (Ext.alloc _ _) ?_;clear hK;refine WalkS.rest (by kernel_rfl) ?_;have EX:=h! (Ext.alloc wd (.cells #[.string ot,.string oi,.string or_] 32));have EL:=h! (Blk.made wd #[.string ot,.string oi,.string or_] 32);obtain⟨we,hwe⟩:∃ y,y=wd.alloc (.cells #[.string ot,.string oi,.string or_] 32):=⟨_,rfl⟩;rw[<- hwe]at EX EL ⊢;clear hwe;have EN:=h! (DN.out.ext EX.out);obtain⟨es1,c1,stt,v,hme,hvo,hvs,hvb,hput⟩:=EN.out.pnts.entry subK pV_inj Tryz.underlying146 Tryz.zeroValue59 (sub_key ⟨st,si,sr⟩ HOK.out.2);have hme2:=hme _ rfl;unfold pV at hme2;dsimp only at hme2;have hlen:=HTL.out;have hsl:(pointsOf T ⟨st,si,sr⟩).length<=T.length:=by unfold pointsOf;rw[List.length_map];exact List.length_filter_le _ _
    have HSL:=h! (show(pntE.enc ⟨ot,oi,or_⟩).length=3/\(List.flatMap pntE.enc (pointsOf T ⟨st,si,sr⟩)).length<=3000000 from⟨rfl,by rw[flat_len];show _*3<=_;omega⟩);have HNE:=h! (show wd.heap.size≠m2 from fun e=>EN.out.pnts.notCells _ _ _ (e▸EL.out));clear hlen hsl hme;refine o! 8 ?_;refine b! ?_;intro K hK;go_simp;refine hK.out _ _ trivial ?_;clear hK hme2;(refine WalkN.tk [9,11] ?_;(iterate 2 (refine c! ?_));refine TkN.n ?_)
    refine o! 10 ?_;refine b! ?_;intro K hK;refine wp_ownw pointsT (.tmp 50) (.tmp 52) rfl rfl hvs (m:=1) (news:=pntE.enc ⟨ot,oi,or_⟩) rfl rfl (fun j u hu=>?_) (fun u hu=>pC_one _ u hu) (by have:=HSL.out.1;have:=HSL.out.2;omega) (by have:=HSL.out.1;have:=HSL.out.2;omega) (by rw[setBlock_size];exact EN.out.low.size) (fun v2 w9 hown9 hwh9 hg9=>?_)
    ·rw[Addr.add_lit,Nat.zero_add,show(setBlock we m2 (.map es1 c1)).cell? _=we.cell? _ from World.cell?_of_block (setBlock_block we _ _ _ HNE.out),EL.out.cells];simpa [pntE,pC] using hu
    refine hK.out _ _ trivial ?_;clear hK;simp only[Act.put,pA,pZ,pS];obtain⟨wb,hrun,hmr,hta⟩:=hput w9 v2 ⟨ot,oi,or_⟩ hg9 (by rw[List.flatMap_append,List.flatMap_cons,List.flatMap_nil,List.append_nil];exact hown9) hwh9;unfold goInt at hrun;have OA:=onl_of hg9 hta;have BN:=h! (EN.out.pnt (t:=⟨⟨ot,oi,or_⟩,⟨st,si,sr⟩⟩) hvo OA hmr);have BT:=h! (OA.blk hvo (DT.out.below EX.out) (by decide) (fun e=>EN.out.pnts.notCells _ _ _ (e▸DT.out.below EX.out)));clear hown9 hwh9 hg9 hmr hta OA hput hvo hvs hvb EN EL EX DN DT DP HSL HNE;refine o! 12 ?_;refine b! ?_;intro K hK;go_simp;refine hK.out _ _ trivial ?_;clear hK hrun;refine d! ?_;generalize wd.heap.size=nwd at *;clear we wd w9;have bt:=BT.out.cells;go_wp2_with fail
    clear bt;go_loopw [62] (fun jj wr=>∃ (j:Nat) (lb:OL),j<=2/\jj = .int .i64 j/\NbI w wr bc w.heap.size m2 m3 lb (T++[⟨⟨ot,oi,or_⟩,⟨st,si,sr⟩⟩]) (T++[⟨⟨ot,oi,or_⟩,⟨st,si,sr⟩⟩]) (.slice (some ⟨g,0,none⟩) s.length c7) s/\What lb (ObjJ T ⟨⟨ot,oi,or_⟩,⟨st,si,sr⟩⟩ j)) (fun jj _=>2-(intOf jj).toNat)
    case atStart=>exact⟨0,lb,by omega,rfl,BN.out,HWH.out.congr fun o=>(objJ_step T _ o).2.2.1.symm⟩
    case round =>
     obtain⟨j,lb2,hj,rfl,hnb,hwh⟩:=hrel;have JN:=h! hnb;have JW:=h! hwh;clear hnb hwh BN HWH BT;by_cases hlt:j<2
     ·obtain⟨o,hok,hix,hstep⟩:∃ o:O2,o.Ok/\(∀ W,(Instr.index 156 (.agg #[.string ot,.string oi,.string st,.string si]) (.int .i64 j)).run Tryz.prog W = .ok (.agg #[.string o.t,.string o.i]) W)/\∀ y,ObjJ T ⟨⟨ot,oi,or_⟩,⟨st,si,sr⟩⟩ (j+1) y↔ObjJ T ⟨⟨ot,oi,or_⟩,⟨st,si,sr⟩⟩ j y\/y=o:=by
       have:j=0\/j=1:=by omega
       rcases this with rfl | rfl
       ·exact⟨⟨ot,oi⟩,⟨HOK.out.1.1,HOK.out.1.2.1⟩,fun W=>(objs_at ot oi st si W).1,fun y=>(objJ_step T _ y).1⟩
       ·exact⟨⟨st,si⟩,⟨HOK.out.2.1,HOK.out.2.2.1⟩,fun W=>(objs_at ot oi st si W).2,fun y=>(objJ_step T _ y).2.1⟩
      obtain⟨o1,o2⟩:=o;have OOK:=h! hok;have OST:=h! hstep;have OWI:=h! (show wrap64 ((j:Int)+1)=((j+1:Nat):Int)from by unfold wrap64;omega);have OLT:=h! hlt;have hji:(j:Int)<2:=by omega
      dsimp only at hix;clear hok hstep hlt;go_wp2_with fail
      clear hix hji;obtain⟨wd,hwd⟩:∃ y:World,y=World.drew (wr.alloc (.cells #[.string o1,.string o2] 30)):=⟨_,rfl⟩;have QX:Ext wr wd:=by rw[hwd];exact(Ext.alloc _ _).trans (Ext.drew _)
      have QN:=h! (JN.out.ext QX);have QO:=h! (show Blk wd wr.heap.size #[.string o1,.string o2] 30 from by rw[hwd];exact(Blk.made wr _ _).drew);refine r! (Ext wd) (by rw[<- hwd];exact Ext.refl _) ?_;rw[<- hwd];clear hwd QX JN;generalize wr.heap.size=ob at *;have h1:=fun W (hW:Ext wd W)=>(QN.out.box.below hW).cells;have h2:=fun W (hW:Ext wd W)=>(QO.out.below hW).cells;have h3:=fun W (hW:Ext wd W)=>(QN.out.ext hW).objs.look strK strV_inj Tryz.underlying147 (Tryz.zeroValue157 W) (str_key o1 OOK.out.1);have h4:=mapO_nil;(refine WalkN.tk [0,1,2,3,4,5,6,7] ?_;(iterate 8 (refine c! ?_));refine TkN.n ?_)
      refine d! ?_;clear h1 h2 h3 h4;rcases hlk:lookA lb2 o1 with _ | ⟨bi,ss⟩
      case' none =>
       have hmn:(mOG lb2 o1).isNone=true:=by unfold mOG;rw[hlk];rfl
       rw[hmn];go_wp2_with fail
       obtain⟨wq,hwq⟩:∃ y:World,y=World.drew wd:=⟨_,rfl⟩;have QX:Ext wd wq:=by rw[hwq];exact Ext.drew _
       have PN:=h! (QN.out.ext QX);have PO:=h! (QO.out.below QX);refine region_walkL 7 (Ext wq) (by rw[<- hwq];exact Ext.refl _) (by kernel_rfl) (by kernel_rfl) (fun _ _ d _ _ h=>by cases d <;> exact h) ?_;rw[<- hwq];clear hwq QX QN QO;have h1:=fun W (hW:Ext wq W)=>(PN.out.box.below hW).cells;have h2:=fun W (hW:Ext wq W)=>(PO.out.below hW).cells;(refine WalkL.tk [0,1,2,3,4,5] ?_;(iterate 6 (refine l! ?_));refine TkL.n ?_)
       clear h1 h2;refine oL! 6 ?_;refine b! ?_;intro K hK;go_simp;refine hK.out _ _ (Ext.alloc _ _) ?_;clear hK;obtain⟨we,hwe⟩:∃ y,y=wq.alloc (.map #[] 0):=⟨_,rfl⟩;have EX:Ext wq we:=by rw[hwe];exact Ext.alloc _ _
       have EN:=h! (PN.out.ext EX);have EO:=h! (PO.out.below EX);have EM:=h! (show Mp Tryz.prog 30 oV bV we wq.heap.size (blG [])from by rw[hwe];exact Mp.made _);have EF:=h! (show wq.heap.size∉nBG m3 lb2/\wq.heap.size≠w.heap.size/\wq.heap.size≠m2 from⟨fun h=>Nat.lt_irrefl _ (PN.out.objs.lt _ h),fun h=>Nat.lt_irrefl _ (h▸PN.out.subs.lt),fun h=>Nat.lt_irrefl _ (h▸PN.out.pnts.lt)⟩);have EB:=h! PN.out.low.size;rw[<- hwe];clear hwe EX PN PO;generalize wq.heap.size=bn at *;obtain⟨wf,hrun,hM5,hT5⟩:=EN.out.objs.top.store strK strV_inj Tryz.underlying147 (str_key o1 OOK.out.1) (bn,[]);have RN:=h! (EN.out.obj hT5 (by simp[nBG]) (EN.out.objs.fresh hlk EM.out EF.out.1 hT5 hM5) (fun x hx=>(fresh_blocksG hlk x hx).imp id fun e=>by subst e;exact⟨EB.out,EF.out.2.1,EF.out.2.2⟩));have RO:=h! (hT5.kept.blk EO.out fun e=>EN.out.objs.notBlk EO.out (by rw[e];simp[nBG]));have RW:=h! (JW.out.fresh hlk bn);have RL:=h! (show lookA (putA lb2 o1 (bn,[])) o1=some (bn,[])from by rw[look_put,if_pos rfl]);clear hM5 hT5 EN EO EM EF EB;refine WalkL.last (by kernel_rfl) (by kernel_rfl) ?_;refine b! ?_;intro K hK;go_simp;refine hK.out _ _ ?_;clear hK hrun hlk hmn;have RF:=h! (show ∃ lb3 bi ss,lookA lb3 o1=some (bi,ss)/\NbI w wf bc w.heap.size m2 m3 lb3 (T++[⟨⟨ot,oi,or_⟩,⟨st,si,sr⟩⟩]) (T++[⟨⟨ot,oi,or_⟩,⟨st,si,sr⟩⟩]) (.slice (some ⟨g,0,none⟩) s.length c7) s/\Blk wf ob #[.string o1,.string o2] 30/\What lb3 (ObjJ T ⟨⟨ot,oi,or_⟩,⟨st,si,sr⟩⟩ j)from⟨_,_,_,RL.out,RN.out,RO.out,RW.out⟩);clear RL RN RO RW JW;go_wp2_with fail
       clear wd wq we;generalize wf=wx at *
      case' some =>
       have hmn:(mOG lb2 o1).isNone=false:=by unfold mOG;rw[hlk];rfl
       rw[hmn];have RF:=h! (show ∃ lb3 bi ss,lookA lb3 o1=some (bi,ss)/\NbI w wd bc w.heap.size m2 m3 lb3 (T++[⟨⟨ot,oi,or_⟩,⟨st,si,sr⟩⟩]) (T++[⟨⟨ot,oi,or_⟩,⟨st,si,sr⟩⟩]) (.slice (some ⟨g,0,none⟩) s.length c7) s/\Blk wd ob #[.string o1,.string o2] 30/\What lb3 (ObjJ T ⟨⟨ot,oi,or_⟩,⟨st,si,sr⟩⟩ j)from⟨_,_,_,hlk,QN.out,QO.out,JW.out⟩);clear QN QO JW hlk;go_wp2_with fail
       generalize wd=wx at *
      all_goals
       obtain⟨lb3,bi,ss,hlk,hn3,ho3,hw3⟩:=RF.out;have SW:=h! hw3;have SL:=h! hlk;obtain⟨wq,hwq⟩:∃ y:World,y=World.drew wx:=⟨_,rfl⟩;have QX:Ext wx wq:=by rw[hwq];exact Ext.drew _
       have PN:=h! (hn3.ext QX);have PO:=h! (ho3.below QX);refine region_walkL 8 (Ext wq) (by rw[<- hwq];exact Ext.refl _) (by kernel_rfl) (by kernel_rfl) (fun _ _ d _ _ h=>by cases d <;> exact h) ?_;rw[<- hwq];clear hwq QX hn3 ho3 hw3 RF;have h1:=fun W (hW:Ext wq W)=>(PN.out.box.below hW).cells;have h2:=fun W (hW:Ext wq W)=>(PO.out.below hW).cells
       have h3:=fun W (hW:Ext wq W)=>show(Instr.lookup 147 (.map (some m3)) (.string o1) false).run Tryz.prog W = .ok (.map (some bi)) W from by
        have:=(PN.out.ext hW).objs.look strK strV_inj Tryz.underlying147 (Tryz.zeroValue157 W) (str_key o1 OOK.out.1);rwa[show mOG lb3 o1=some bi from by unfold mOG;rw[SL.out];rfl]at this
       clear hlk;(refine WalkL.tk [0,1,2,3,4,5,6,7] ?_;(iterate 8 (refine l! ?_));refine TkL.n ?_)
       clear h1 h2 h3;obtain⟨wf,hrun,hM5,hT5⟩:=(PN.out.objs.inner _ (look_mem SL.out)).store objK oV_inj Tryz.underlying157 (obj_key ⟨o1,o2⟩ OOK.out) true;rw[put_blG]at hM5;dsimp only at hrun hT5 hM5;have hbi:bi∈nBG m3 lb3:=List.mem_cons_of_mem _ (List.mem_map.2 ⟨_,look_mem SL.out,rfl⟩);have RN:=h! (PN.out.obj hT5 hbi (PN.out.objs.mark SL.out hT5 hM5) (fun x hx => .inl (by rw[mark_blocksG SL.out]at hx;exact hx)));have RW:=h! ((What.mark (q:=⟨o1,o2⟩) SW.out SL.out).congr fun y=>(OST.out y).symm);clear hM5 hT5 hbi PN PO SW SL;unfold oV bV at hrun;dsimp only at hrun;refine WalkL.last (by kernel_rfl) (by kernel_rfl) ?_;refine b! ?_;intro K hK;go_simp;refine hK.out _ _ ?_;clear hK hrun;go_wp2_with fail
       go_roundw
       case rel=>exact⟨j+1,_,by have:=OLT.out;omega,by first | rw[OWI.out] | go_num,RN.out,RW.out⟩
       case measure=>have:=OLT.out;(try rw[OWI.out]);simp[intOf];omega
     ·obtain rfl:j=2:=by omega
      have JJ:=h! (JW.out.congr fun o=>(objJ_step T _ o).2.2.2);have hji:¬ (((2:Nat):Int)<2):=by omega
      clear JW hlt;go_wp2_with fail
      go_roundw
      case rel=>exact⟨i+1,lb2,by have:=HLT.out;omega,by rw[HWI.out],by rw[HT2.out];exact JN.out,by rw[HT2.out];exact JJ.out⟩
      case measure=>have:=HLT.out;rw[HWI.out];simp[intOf];omega
  ·obtain rfl:i=s.length:=by omega
   rw[List.take_length]at HNB HWH;go_wp2_with fail
   go_ret
   exact⟨bc,_,rfl,HSET.out,⟨w.heap.size,w.heap.size,m2,m3,lb,HNB.out.box,HNB.out.subs,HNB.out.pnts,HNB.out.objs,HNB.out.ne,HWH.out⟩,HNB.out.low⟩
end Go.Proofs.YtlhaghoajpglaaaGreat
namespace Go.Proofs.YtlhaghoajpglaaaGreat
open Go Go.RowKit Go.Maps
def GSaid (P:List P3->List FT->Value->Prop)(w:World)(e:Ending)(w':World):Prop :=
 Ext w w'/\∃ (ps:List P3) (fs:List FT) (po:Option Addr) (pc:Nat) (fo:Option Addr) (fc:Nat) (ev:Value),P ps fs ev/\e = .returned (.tuple #[.agg #[.slice po ps.length pc,.slice fo fs.length fc],ev]) /\
  GrAt (fun x=>w.heap.size<=x/\x<w'.heap.size) w' ps fs (.slice po ps.length pc) (.slice fo fs.length fc)
theorem GrAt.shape {S:Nat->Prop} {w:World} {ps:List P3} {fs:List FT} {pv fv:Value} (h:GrAt S w ps fs pv fv):∃ po pc fo fc,pv = .slice po ps.length pc/\fv = .slice fo fs.length fc:=by
 obtain⟨h1,q,h2,h3,h4⟩:=h;obtain⟨po,pc,rfl,-⟩:=Sl.rows pC_length (by decide) (show Sl _ w 3 pv (ps.flatMap pC)from h1);obtain⟨fo,fc,rfl,-⟩:=Sl.rows fC_length (by decide) h4;exact⟨po,pc,fo,fc,rfl,by rw[<- h2,List.length_map]⟩
theorem GrAt.nul (S:Nat->Prop)(w:World):GrAt S w [] [] (.slice none 0 0) (.slice none 0 0):=⟨Sl.nil _ _ _,[],rfl,(fun x hx=>by cases hx),Sl.nil _ _ _⟩
theorem bookT_any {l T:List Tup} (hT:SetT l T)(v:Value)(w:World)(h:Sl (· < w.heap.size) w 6 v (tuCs l))(hl:l.length<=1000000)(hok:∀ t∈l,t.Ok) :
  Calls Tryz.prog 20 #[v] w fun e w'=>∃ b,e = .returned (.pointer (some ⟨b,0,none⟩))/\BookAt w' b T/\Ext w w':=by
 refine(newBook_any l v w h hl hok).mono ?_;rintro e w' ⟨b,U,rfl,hU,hb,hx⟩;obtain rfl:=hT.uniq hU;exact⟨b,rfl,hb,hx⟩
def WalkP (ts:List TyS)(T:List Tup)(shut:List R2)(p:P3)(most:Int)(ok long:Value)(ps:List P3)(fs:List FT)(ev:Value):Prop :=
 (∃ n,WalkEnd ts T shut p most n/\ps=(walkN ts T shut p n).1/\fs=(walkN ts T shut p n).2/\ev=ok)\/(WalkLong ts T shut p most/\ps=[]/\fs=[]/\ev=long)
theorem walkG_any (ts:List TyS)(tv:Value)(b:Nat)(T:List Tup)(shut:List R2)(sv:Value)(p:P3)(most:Int)(N:Nat)(w:World)(h:TysAt (· < w.heap.size) w ts tv)(hok:∀ t∈ts,t.Ok)(hc:chk06 ts=0)(hsB:schB ts<=549755813888)(hsz:∀ t∈ts,∀ r∈t.rels,r.2.sz<=1000000)(hln:(namesOf ts).length<=1099511627776)(hlr:(refsOf ts).length<=1099511627776)
  (hbk:BookAt w b T) (hsv:Sl (· < w.heap.size) w 2 sv (shut.flatMap r2C)) (hso:∀ r∈shut,r.Ok) (hin:WalkIn ts T shut p N) :
  Calls Tryz.prog 98 #[.agg #[tv],bkV b,sv,pV p,.int .i64 most] w (GSaid (WalkP ts T shut p most (.int .i64 0) (.int .i64 10)) w):=by
 refine(walkW_any ts tv b T shut sv p most N w h hok hc hsB hsz hln hlr hbk hsv hso hin).mono ?_;rintro e w' ⟨hx,⟨n,pv,fv,he,rfl,hg⟩ | ⟨hlong,rfl⟩⟩
 ·obtain⟨po,pc,fo,fc,rfl,rfl⟩:=hg.shape;exact⟨hx,_,_,po,pc,fo,fc,_,.inl ⟨n,he,rfl,rfl,rfl⟩,rfl,hg⟩
 ·exact⟨hx,[],[],none,0,none,0,_,.inr ⟨hlong,rfl,rfl,rfl⟩,rfl,GrAt.nul _ _⟩
theorem setsT:ElemT Tryz.prog 211 210 1 8:=ElemT.mk' Tryz.underlying211 (show _=some (some (.map none),1,8)by kernel_rfl) rfl (by decide)
theorem grForm {S:Nat->Prop} {w:World} {ps:List P3} {fs:List FT} {pv:Value} {fo:Option Addr} {n fc:Nat} (h:GrAt S w ps fs pv (.slice fo n fc)) {i:Nat} (hi:i<fs.length) :
  ∃ b off a1 c1 a2 c2 a4 c4,fo=some ⟨b,off,none⟩/\S b/\FTAt S w fs[i] (.slice a1 fs[i].subs.length c1,.slice a2 fs[i].refs.length c2,.slice a4 fs[i].ps.length c4) /\
   w.cell? ⟨b,off+i*4,none⟩=some (.int .i64 fs[i].k)/\w.cell? ⟨b,off+i*4+1,none⟩=some (.slice a1 fs[i].subs.length c1)/\w.cell? ⟨b,off+i*4+2,none⟩=some (.slice a2 fs[i].refs.length c2)/\w.cell? ⟨b,off+i*4+3,none⟩=some (.slice a4 fs[i].ps.length c4):=by
 obtain⟨-,q,h2,h3,h4⟩:=h;subst h2;rw[List.length_map]at hi;obtain⟨_,_,e,-,-,hc⟩:=Sl.rows fC_length (by decide) h4;obtain⟨b,off,rfl,hb,hc⟩:=hc (by omega);cases e;have hf:=h3 _ (List.getElem_mem hi);obtain⟨a1,c1,a2,c2,a4,c4,hv⟩:=hf.shape;have k0:=hc i hi 0 _ rfl;have k1:=hc i hi 1 _ rfl;have k2:=hc i hi 2 _ rfl;have k3:=hc i hi 3 _ rfl;rw[List.getElem_map];rw[hv]at hf k1 k2 k3;exact⟨b,off,a1,c1,a2,c2,a4,c4,rfl,hb,hf,k0,k1,k2,k3⟩
theorem grLen {S:Nat->Prop} {w:World} {ps:List P3} {fs:List FT} {pv fv:Value} (h:GrAt S w ps fs pv fv):fs.length<=9223372036854775807:=by
 obtain⟨-,q,h2,-,h4⟩:=h;obtain⟨_,c,-,h6,h7,-⟩:=Sl.rows fC_length (by decide) h4;rw[<- h2,List.length_map];omega
structure LkG (w0 w:World)(gb sp:Nat)(pv fv:Value)(typ:ByteArray)(iv:Value)(ms:List Nat)(ma:Nat):Prop where
 bel:Below w0.heap.size w0 w
 hi:w0.heap.size<=gb/\w0.heap.size<=sp/\gb≠sp
 mlo:w0.heap.size<=ma/\∀ m∈ms,w0.heap.size<=m
 gr:Blk w gb #[pv,fv] 96
 box:Blk w sp #[pv,fv,.string typ,iv,.map (some ma)] 284
 row:Own w w0.heap.size 210 1 iv (msC ms)
 emp:∀ m∈ms,OS w m []
 nodup:ms.Nodup
 alls:OS w ma []
 ne:ma∉ms
section
variable {w0 w w3 : World} {gb sp ma : Nat} {pv fv iv iv' : Value} {typ : ByteArray} {ms : List Nat}
theorem LkG.ext (h:LkG w0 w gb sp pv fv typ iv ms ma)(hx:Ext w w3):LkG w0 w3 gb sp pv fv typ iv ms ma:=⟨h.bel.trans (Below.mono hx h.bel.size),h.hi,h.mlo,h.gr.below hx,h.box.below hx,h.row.below hx,fun m hm=>(h.emp m hm).below hx,h.nodup,h.alls.below hx,h.ne⟩
theorem Own.blkG {w w3:World} {B sz b:Nat} {e e2:TypeId} {v:Value} {xs:List Value} {cs:Array Value} (h:Own w B e sz v xs)(hb:Blk w b cs e2)(hne:e≠e2)(hg:w.grownBy w3 v.ownBlock):Blk w3 b cs e2:=(hg.block b hb.lt fun e3=>by
  obtain⟨c,hc⟩:=h.typed e3.symm;rw[show w.heap[b]?=_ from hb]at hc;injection hc with hc
  injection hc with _ hc _
  exact hne hc.symm).trans hb
theorem LkG.add {w2:World} {m:Nat} (h:LkG w0 w2 gb sp pv fv typ iv ms ma)(hm:OS w2 m [])(hn:m∉ms)(hma:ma≠m)(hlo:w0.heap.size<=m)(hg:w2.grownBy w3 iv.ownBlock)(ho:Own w3 w0.heap.size 210 1 iv' (msC ms++[.map (some m)])) :
  LkG w0 (w3.setCell ⟨sp,3,none⟩ iv') gb sp pv fv typ iv' (ms++[m]) ma:=by
 have hmap:∀ x A,OS w2 x A->OS (w3.setCell ⟨sp,3,none⟩ iv') x A:=fun x A hx=>hx.same (by
  have hne:x≠sp:=fun e=>hx.notCells _ _ _ (show w2.heap[x]?=_ from by rw[e];exact h.box);rw[Below.heap_setCell _ _ _ _ hne];exact hg.block x hx.lt fun e=>h.row.notMap hx.notCells x e.symm rfl)
 have hb3:=h.row.blkG h.box (by decide) hg;have hg3:=h.row.blkG h.gr (by decide) hg;have hbb:Below w0.heap.size w0 w3:=grown_below h.bel h.row hg (by have:=h.hi;have:=h.box.lt;omega);refine⟨Below.setCell hbb (p:=⟨sp,3,none⟩) h.hi.2.1 _,h.hi,⟨h.mlo.1,fun x hx=>(List.mem_append.1 hx).elim (h.mlo.2 x) fun e=>by rw[List.mem_singleton.1 e];exact hlo⟩,(Below.heap_setCell _ _ _ _ h.hi.2.2).trans hg3,hb3.set_to 3 iv' rfl,?_,fun x hx=>?_,?_,hmap ma [] h.alls,?_⟩
 ·have:msC (ms++[m])=msC ms++[.map (some m)]:=by simp[msC]
  rw[this];refine ho.keepOwn fun g hg2=>Below.heap_setCell _ _ _ _ fun e=>?_;obtain⟨c,hc⟩:=ho.typed hg2;rw[show g=sp from e,show w3.heap[sp]?=_ from hb3]at hc;injection hc with hc
  injection hc with _ hc _
  exact absurd hc (by decide)
 ·rcases List.mem_append.1 hx with hx | hx
  ·exact hmap x [] (h.emp x hx)
  ·rw[List.mem_singleton.1 hx];exact hmap m [] hm
 ·rw[List.nodup_append];exact⟨h.nodup,by simp,fun a ha b hb e=>by rw[List.mem_singleton.1 hb]at e;exact hn (e▸ha)⟩
 ·rw[List.mem_append,List.mem_singleton];exact fun e=>e.elim h.ne hma
theorem LkG.done (h:LkG w0 w gb sp pv fv typ iv ms ma):LkS w sp pv fv typ iv ms ma (List.replicate ms.length []) [] :=
 ⟨h.box,h.row.slFo fun g hg=>⟨(h.row.block g hg).2,h.row.notMap h.alls.notCells g hg,fun hm=>h.row.notMap (h.emp g hm).notCells g hg rfl⟩,
  ⟨by simp,fun i h1 h2=>by rw[List.getElem_replicate];exact h.emp _ (List.getElem_mem h1),h.nodup⟩,h.alls,h.ne⟩
end
structure LkW (w0 w:World)(gb sp:Nat)(pv fv:Value)(typ:ByteArray)(iv:Value)(ms:List Nat)(ma:Nat)(L:List (List O2))(all:List O2):Prop where
 bel:Below w0.heap.size w0 w
 mlo:w0.heap.size<=ma/\∀ m∈ms,w0.heap.size<=m
 gr:Blk w gb #[pv,fv] 96
 s:LkS w sp pv fv typ iv ms ma L all
section
variable {w0 w w' : World} {gb sp ma : Nat} {pv fv iv : Value} {typ : ByteArray} {ms : List Nat} {L L' : List (List O2)} {all all' : List O2}
theorem LkG.work (h:LkG w0 w gb sp pv fv typ iv ms ma):LkW w0 w gb sp pv fv typ iv ms ma (List.replicate ms.length []) []:=⟨h.bel,h.mlo,h.gr,h.done⟩
theorem LkW.ext (h:LkW w0 w gb sp pv fv typ iv ms ma L all)(hx:Ext w w'):LkW w0 w' gb sp pv fv typ iv ms ma L all:=⟨h.bel.trans (Below.mono hx h.bel.size),h.mlo,h.gr.below hx,h.s.ext hx⟩
theorem LkW.tk (h:LkW w0 w gb sp pv fv typ iv ms ma L all) {c:Nat} (hc:w0.heap.size<=c)(hm:∀ cs t fr,w.heap[c]?≠some (.cells cs t fr))(hk:Tk c w w')(hs:LkS w' sp pv fv typ iv ms ma L' all'):LkW w0 w' gb sp pv fv typ iv ms ma L' all' :=
 ⟨h.bel.trans (Kept.below hk fun b hb=>⟨Nat.lt_of_lt_of_le hb h.bel.size,by omega⟩),h.mlo,hk.box h.gr fun e=>hm _ _ _ (e▸h.gr),hs⟩
theorem LkW.inAll (h:LkW w0 w gb sp pv fv typ iv ms ma L all)(hk:Tk ma w w')(hs:LkS w' sp pv fv typ iv ms ma L all'):LkW w0 w' gb sp pv fv typ iv ms ma L all':=h.tk h.mlo.1 h.s.alls.notCells hk hs
theorem LkW.setAt (h:LkW w0 w gb sp pv fv typ iv ms ma L all) {i:Nat} (hi:i<ms.length)(hk:Tk ms[i] w w') {A:List O2} (ha:OS w' ms[i] A):LkW w0 w' gb sp pv fv typ iv ms ma (L.set i A) all :=
 h.tk (h.mlo.2 _ (List.getElem_mem hi)) (h.s.mem.sets i hi (by rw[<- h.s.mem.len];exact hi)).notCells hk (h.s.setAt hi hk ha)
end
theorem os_len {w:World} {m:Nat} {A:List O2} (h:OS w m A):(Builtin.len_ #[210] 3 #[.map (some m)]).run Tryz.prog w = .ok (.int .i64 A.length) w:=by
 have:=Mp.len h Tryz.underlying210 3;rwa[show(blG A).length=A.length from by simp[blG]]at this
theorem fill_min (a b:Nat):(min (a:Int) b)=((min a b:Nat):Int):=by omega
def flgV:Value->Nat | .bool true=>1 | _=>0
def LkQ (w0 w:World)(gb sp:Nat)(pv fv:Value)(typ:ByteArray)(iv:Value)(ms:List Nat)(ma:Nat)(fs:List FT)(n:Nat)(all:List O2)(L:List (List O2)):Prop :=
 LkW w0 w gb sp pv fv typ iv ms ma L all/\LkAt fs n all L/\∀ l∈L,l.Nodup
theorem LkM.nd {w:World} {ms:List Nat} {L:List (List O2)} (h:LkM w ms L):∀ l∈L,l.Nodup:=fun l hl=>by
 obtain⟨i,hi,rfl⟩:=List.getElem_of_mem hl;exact OS.nodup (h.sets i (by rw[h.len];exact hi) hi)
theorem oS_self {s:P3} (h:s.r=⟨#[]⟩):oS s.obj=s:=by
 obtain⟨a,b,c⟩:=s;dsimp only at h;subst h;rfl
theorem kno_all {typ:ByteArray} {all:List O2} {fs:List FT} (hm:∀ o,o∈all↔SbI typ (thsL fs) o):∀ f∈fs,Kno typ all f:=fun f hf s hs hr ht =>
 (hm s.obj).2 ⟨thsL_mem.2 ⟨f,hf,by rw[oS_self hr];exact hs⟩,ht⟩
def SolS (w0 w:World)(ps:List P3)(fs:List FT)(typ:ByteArray)(iv:Value):Prop :=
 ∃ ms L,Sl (fun b=>b<w.heap.size/\b∉ms) w 1 iv (msC ms)/\LkM w ms L/\L.length=ps.length/\(∀ l∈L,∀ o∈l,SbI typ (thsL fs) o) /\
  (∀ o,SbI typ (thsL fs) o->∀ i,i<ps.length->(o∈L.getD i []↔0<(solveR fs (oS o) ps.length).getD i 0))/\Below w0.heap.size w0 w
end Go.Proofs.YtlhaghoajpglaaaGreat
