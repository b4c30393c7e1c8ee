/- Lemmas for the claim, no condition. -/
import Derived.WideKeyEntry
import Derived.Test.YtlhaghoajpglaaaGreatYPrMore12
import Derived.Test.YtlhaghoajpglaaaGreatYPrMore11
import Derived.WideKeyEntry
set_option maxRecDepth 100000
set_option maxHeartbeats 4000000
namespace Go.Proofs.YtlhaghoajpglaaaGreat
open Go Go.RowKit Go.Proofs.Tryz
theorem oc! {w:World}{B:Nat}{g n c:Nat}{R:List Tup}(h:Own w B 67 6 (.slice (some ⟨g,0,none⟩) n c) (tuCs R))(hn:n=R.length)(q:Nat)(hq:q<n)(ty:TypeId)(c':Nat) :
  ∃vs,(Builtin.clear_ #[27] ty #[.slice (some ⟨g,q*6,none⟩) (n-q) c']).run prog w= .ok (.tuple #[]) (w.setCells g (q*6) vs):=by
 obtain⟨a0,e⟩:=h.typed (g:=g) rfl;have a1:=Blk.free (show Blk w g a0 67 from e);obtain⟨N,ho⟩:=h;have a:=ho.cells (g:=g) rfl;have hz:=Tryz.zeroValue67;refine⟨(Builtin.zeroCells (Value.agg #[.string ⟨#[]⟩,.string ⟨#[]⟩,.string ⟨#[]⟩,.string ⟨#[]⟩,.string ⟨#[]⟩,.string ⟨#[]⟩]).cells (n-q)).toList,?_⟩
 have d:(Builtin.zeroCells (Value.agg #[.string ⟨#[]⟩,.string ⟨#[]⟩,.string ⟨#[]⟩,.string ⟨#[]⟩,.string ⟨#[]⟩,.string ⟨#[]⟩]).cells (n-q)).toList.length=(n-q)*6:=by
  simp[Builtin.zeroCells,Value.cells]
 have b:=run_storeCells_cells (P:=prog) g (q*6) (Builtin.zeroCells (Value.agg #[.string ⟨#[]⟩,.string ⟨#[]⟩,.string ⟨#[]⟩,.string ⟨#[]⟩,.string ⟨#[]⟩,.string ⟨#[]⟩]).cells (n-q)).toList 0 w
  (fun j hj=>by
   rw[d]at hj;have a2:q*6+j<(tuCs R).length:=by rw[aw!];omega
   have:=a (q*6+j) _ (n4! a2);rw[Addr.add_lit,Nat.zero_add]at this;simp only[Nat.add_zero];rw[this];rfl)
  (fun j hj=>a1 _)
  (by
   intro v hv;simp only[Builtin.zeroCells,Value.cells,Array.toList_map,Array.toList_range,u6!,List.mem_range]at hv;obtain⟨i,hi,rfl⟩:=hv;have:i % 6<6:=Nat.mod_lt _ (by decide);match i % 6,this with
   | 0,_=>rfl
   | 1,_=>rfl
   | 2,_=>rfl
   | 3,_=>rfl
   | 4,_=>rfl
   | 5,_=>rfl)
 simp only[Nat.add_zero]at b;obtain⟨m,hm⟩:∃m,n-q=m+1:=⟨n-q-1,by omega⟩;rw[hm]at b ⊢;simp[Builtin.clear_,run_underlying Tryz.underlying27,hz,b]
theorem cO! {P:Program}{ops:Array Oper}{Q:Exit->Act->World->Prop}{rest:List Oper}{a:Act}{w w':World}{t ty:TypeId}{i j:Nat}{pos}{af}{x v:Value}(hA:a.eval (.tmp i)=x)(hV:a.eval (.tmp j)=v)(hrun:(Instr.storeAt t x v).run P w= .ok () w')(K:wpList P ops Q rest a w'):wpList P ops Q (⟨none,Op.store t (.tmp i) (.tmp j),ty,pos,af,none⟩::rest) a w :=
 wpList_plain rfl fun K' hK'=>by
  unfold Oper.wp;simp[execOp,hA,hV,hrun,Result.andThen];exact hK' _ _ K
theorem Kept.setMany {K:Nat->Prop}{w w':World}(h:Kept K w w') {g:Nat}(hg:¬ K g)(o:Nat)(vs:List Value):Kept K w (w'.setCells g o vs):=by
 obtain⟨h1,h2,h3,h4⟩:=bf! g vs w' o;exact h.trans ⟨h1,h2,h3,v4! h4.symm,fun b hb=>bq! g vs w' o fun e=>hg (e▸hb)⟩
theorem bK! {P:Program}{ops:Array Oper}{Q:Exit->Act->World->Prop}{rest:List Oper}{a:Act}{w w':World}{t ty:TypeId}{i:Nat}{pos}{af}{v r:Value}(hV:a.eval (.tmp i)=v)(hrun:(Builtin.clear_ #[t] ty #[v]).run P w= .ok r w')(K:wpList P ops Q rest (a.put none r) w'):wpList P ops Q (⟨none,Op.call {callee:=Callee.builtin Builtin.clear,args:=#[.tmp i],argTypes:=#[t]},ty,pos,af,none⟩::rest) a w :=
 wpList_plain rfl fun K' hK'=>by
  unfold Oper.wp;simp[execOp,resolve,invoke,builtin,hV,hrun,Result.andThen];exact hK' _ _ K
theorem mh! {l:List Tup}(h:l.length<2):dd l=l:=by
 unfold dd;rw[ei! l _ (n0! _) fun j h0 h1=>by omega,u2!]
theorem fH! {B:Nat}(v:Value)(l:List Tup)(w:World)(h:Own w B 67 6 v (tuCs l))(hl:l.length<=1099511627776) :
  Calls prog 79 #[v] w fun e w'=>∃v',e= .returned v'/\Own w' B 67 6 v' (tuCs (dd l))/\Kept (fun b=>b<w.heap.size/\v.ownBlock≠some b) w w':=by
 obtain⟨ao,n,c,rfl,hn,au,av⟩:=h.sl.len;obtain rfl:n=l.length:=by rw[aw!]at hn;omega
 have HL:=h! hl;have HO:=h! h;have ad:=h.shape;clear h hn;by_cases hlt:l.length<2
 ·have HD:=h! (mh! hlt);have hi:(l.length:Int)<2:=by omega
  go_enter func79,ntmps79
  go_wp2_with fail
  go_ret
  exact⟨_,rfl,by rw[HD.out];exact HO.out,Kept.refl _ _⟩
 have hi:¬ ((l.length:Int)<2):=by omega
 obtain⟨g,rfl⟩:∃g,ao=some ⟨g,0,none⟩:=by
  rcases ad with⟨h,_⟩|⟨g,n,c,h⟩
  ·injection h with _ h _
   omega
  ·exact⟨g,by injection h⟩
 clear ad;have H2:Hid (2<=l.length):=h! (by omega);go_enter func79,ntmps79
 go_wp2_with fail
 clear hi hlt;go_loopw [3] (fun kv wr=>∃m:Nat,kv= .int .i64 ((m+1:Nat):Int)/\m+1<=l.length/\(∀j,0<j->j<m+1->l[j]?≠l[j-1]?)/\Own wr B 67 6 (.slice (some ⟨g,0,none⟩) l.length c) (tuCs l)/\Kept (fun b=>b<w.heap.size/\(Value.slice (some ⟨g,0,none⟩) l.length c).ownBlock≠some b) w wr) (fun kv _=>l.length-(intOf kv).toNat)
 case atStart=>exact⟨0,rfl,by have:=H2.out;omega,(fun j h0 h1=>by omega),HO.out,Kept.refl _ _⟩
 case round =>
  obtain⟨m,rfl,hm,ab,ho,hk⟩:=hrel;have RO:=h! ho;have RK:=h! hk;have RN:=h! ab;have ar:=HL.out;clear HO ho hk ab;by_cases hlt:m+1<l.length
  ·have T:=h! hlt;have t:m<l.length:=by omega
   have Y:=h! (show l[m+1]≠l[m]->∀j,0<j->j<m+2->l[j]?≠l[j-1]? from fun he j h0 h1=>by
    by_cases hj:j<m+1
    ·exact RN.out j h0 hj
    ·obtain rfl:j=m+1:=by omega
     rw[Nat.add_sub_cancel,n4! hlt,n4! t];exact fun e=>he (by injection e))
   have L:=h! (show l[m+1]=l[m]->l.take (m+1)=ddN l (m+2)from fun he=>by
    rw[ddN,if_neg (by
     rintro(h | h)
     ·omega
     ·apply h;rw[Nat.add_sub_cancel,n4! hlt,n4! t];exact congrArg some he),List.append_nil,ei! l (m+1) hm RN.out])
   go_wp2_with fail
   obtain⟨wd,p⟩:=e! wr.drew;have DO:=h! (show Own wd B 67 6 (.slice (some ⟨g,0,none⟩) l.length c) (tuCs l)from by rw[p];exact RO.out.below (Ext.drew _));have DK:=h! (show Kept (fun b=>b<w.heap.size/\(Value.slice (some ⟨g,0,none⟩) l.length c).ownBlock≠some b) w wd from by rw[p];exact RK.out.drew);refine re! p ?_;clear p RO RK;have k0:=fun W (hW:Ext wd W)=>((DO.out.below hW).tupAt (m+1) hlt).1;have k1:=fun W (hW:Ext wd W)=>((DO.out.below hW).tupAt (m+1) hlt).2.1;have k2:=fun W (hW:Ext wd W)=>((DO.out.below hW).tupAt (m+1) hlt).2.2.1;have k3:=fun W (hW:Ext wd W)=>((DO.out.below hW).tupAt (m+1) hlt).2.2.2.1;have k4:=fun W (hW:Ext wd W)=>((DO.out.below hW).tupAt (m+1) hlt).2.2.2.2.1;have k5:=fun W (hW:Ext wd W)=>((DO.out.below hW).tupAt (m+1) hlt).2.2.2.2.2;have j0:=fun W (hW:Ext wd W)=>((DO.out.below hW).tupAt m t).1;have j1:=fun W (hW:Ext wd W)=>((DO.out.below hW).tupAt m t).2.1;have j2:=fun W (hW:Ext wd W)=>((DO.out.below hW).tupAt m t).2.2.1;have j3:=fun W (hW:Ext wd W)=>((DO.out.below hW).tupAt m t).2.2.2.1;have j4:=fun W (hW:Ext wd W)=>((DO.out.below hW).tupAt m t).2.2.2.2.1;have j5:=fun W (hW:Ext wd W)=>((DO.out.below hW).tupAt m t).2.2.2.2.2;have hq:=fun W=>lj! l[m+1] l[m] W;generalize l[m+1]=x at *;generalize l[m]=y at *;have E:IntKind.i64.wrap (m:Int)=(m:Int):=IntWalk.i64_in _ (by omega);have F:(m:Int)<(l.length:Int):=by omega
   have a6:((m:Int)+1)<(l.length:Int):=by omega
   have z:(0:Int)<=(m:Int)+1:=by omega
   by_cases he:x=y
   ·have ah:=h! (L.out he);subst he
    have f:∀W,(binOp BinOp.eql 67 (tV x) (tV x)).run prog W= .ok (.bool true) W:=fun W=>by
     have:=hq W;rwa[v2! rfl]at this
    clear hq L Y;obtain⟨⟨x1,x2,x3⟩,⟨x4,x5,x6⟩⟩:=x;unfold tV at f;dsimp only at f k0 k1 k2 k3 k4 k5 j0 j1 j2 j3 j4 j5;(refine WalkN.tk [0,1,2,3,4,5,6,7,8,9] ?_;(iterate 10 (refine c! ?_));refine TkN.n ?_)
    refine d! ?_;clear k0 k1 k2 k3 k4 k5 j0 j1 j2 j3 j4 j5 f E;have ai:((m:Int)+1)<=(l.length:Int):=by omega
    have al:m+1<=l.length:=hm;go_wp2_with fail
    clear F a6 z ai al;go_loopw [3,5] (fun kv jv wr=>∃(q a:Nat) (R:List Tup),kv= .int .i64 q/\jv= .int .i64 ((a+1:Nat):Int)/\q<=m+1+a/\1<=q/\m+1+a+1<=l.length/\R.length=l.length/\R.take q=ddN l (m+1+a+1)/\(∀j,m+1+a<=j->R[j]?=l[j]?)/\Own wr B 67 6 (.slice (some ⟨g,0,none⟩) l.length c) (tuCs R)/\Kept (fun b=>b<w.heap.size/\(Value.slice (some ⟨g,0,none⟩) l.length c).ownBlock≠some b) w wr) (fun _ jv _=>l.length-(intOf jv).toNat)
    case atStart=>exact⟨m+1,0,l,rfl,rfl,by omega,by omega,by have:=T.out;omega,rfl,ah.out,(fun _ _=>rfl),DO.out,DK.out⟩
    case round =>
     obtain⟨q,a,R,rfl,rfl,G,K,an,a5,a3,a9,aa,af⟩:=hrel;have QO:=h! aa;have J:=h! af;have QL:=h! a5;have QT:=h! a3;have QJ:=h! a9;have QP:=h! (And.intro G (And.intro K an));clear DO DK aa af a5 a3 a9 G K ah;by_cases hlt2:m+1+a+1<l.length
     ·have o:=h! hlt2;have N:m+1+a+1<R.length:=by rw[QL.out];exact hlt2
      have a2:m+1+a<R.length:=by omega
      have hx:R[m+1+a+1]?=l[m+1+a+1]?:=QJ.out _ (by omega);have hy:R[m+1+a]?=l[m+1+a]?:=QJ.out _ (by omega);rw[n4! N]at hx;rw[n4! a2]at hy
      have I:=h! (show ddN l (m+1+a+1+1)=ddN l (m+1+a+1)++(if R[m+1+a+1]≠R[m+1+a]then [R[m+1+a+1]]else [])from by
       rw[ddN,Nat.add_sub_cancel,<-hx,<-hy];congr 1
       by_cases he:R[m+1+a+1]=R[m+1+a]
       ·rw [if_neg (by rintro (h | h); · omega
                       · exact h (congrArg some he)),if_neg (fun h=>h he)]
       ·rw[if_pos (.inr fun h=>he (by injection h)),if_pos he];rfl)
      clear hx hy;have a0:((a:Int)+1)<((l.length-(m+1):Nat):Int):=by omega
      go_wp2_with fail
      obtain⟨wd,p⟩:=e! wr.drew;have DO:=h! (show Own wd B 67 6 (.slice (some ⟨g,0,none⟩) l.length c) (tuCs R)from by rw[p];exact QO.out.below (Ext.drew _));have DK:=h! (show Kept (fun b=>b<w.heap.size/\(Value.slice (some ⟨g,0,none⟩) l.length c).ownBlock≠some b) w wd from by rw[p];exact J.out.drew);refine re! p ?_;clear p QO J;have O:(m+1+a+1)*6=(m+1)*6+(a+1)*6:=by omega
      have ag:(m+1+a)*6=(m+1)*6+a*6:=by omega
      have KA:=fun W (hW:Ext wd W)=>(DO.out.below hW).tupAt (m+1+a+1) N;have JA:=fun W (hW:Ext wd W)=>(DO.out.below hW).tupAt (m+1+a) a2;simp only[O]at KA;simp only[ag]at JA;have KB:=h! (DO.out.tupAt (m+1+a+1) N);rw[O]at KB;have k0:=fun W hW=>(KA W hW).1;have k1:=fun W hW=>(KA W hW).2.1;have k2:=fun W hW=>(KA W hW).2.2.1;have k3:=fun W hW=>(KA W hW).2.2.2.1;have k4:=fun W hW=>(KA W hW).2.2.2.2.1;have k5:=fun W hW=>(KA W hW).2.2.2.2.2;have j0:=fun W hW=>(JA W hW).1;have j1:=fun W hW=>(JA W hW).2.1;have j2:=fun W hW=>(JA W hW).2.2.1;have j3:=fun W hW=>(JA W hW).2.2.2.1;have j4:=fun W hW=>(JA W hW).2.2.2.2.1;have j5:=fun W hW=>(JA W hW).2.2.2.2.2;clear KA JA O ag;have hq:=fun W=>mB! R[m+1+a+1] R[m+1+a] W;have s:=h! (fun w' (ho:Own w' B 67 6 (.slice (some ⟨g,0,none⟩) l.length c) (tuCs R))=>ho.setTup q R[m+1+a+1] (by have:=QP.out.1;omega))
      have a8:=h! (show(R.set q R[m+1+a+1]).take (q+1)=R.take q++[R[m+1+a+1]]from by
       have H:q<R.length:=by have:=QP.out.1;omega
       rw[n2! (by simpa using H),List.getElem_set_self,List.take_set_of_le (n0! q)])
      have a1:=h! (show ∀j,m+1+(a+1)<=j->(R.set q R[m+1+a+1])[j]?=l[j]? from fun j hj=>by
       rw[List.getElem?_set_ne (by have:=QP.out.1;omega)];exact QJ.out j (by omega))
      have A:∃x,x=R[m+1+a+1]:=⟨_,rfl⟩;generalize R[m+1+a+1]=x at *;generalize R[m+1+a]=y at *;have E:IntKind.i64.wrap (a:Int)=(a:Int):=IntWalk.i64_in _ (by omega);have F:(a:Int)<((l.length-(m+1):Nat):Int):=by omega
      have z:(0:Int)<=(a:Int)+1:=by omega
      have G:=QP.out.1;have K:=QP.out.2.1;by_cases he:x=y
      ·have U:Hid (ddN l (m+1+a+1+1)=ddN l (m+1+a+1)):=h! (by rw[I.out,if_neg (fun h=>h he),List.append_nil]);subst he
       have f:∀W,(binOp BinOp.neq 67 (tV x) (tV x)).run prog W= .ok (.bool false) W:=fun W=>by
        have:=hq W;rwa[v3! (fun h=>h rfl)]at this
       clear hq I s a8 a1 KB A;obtain⟨⟨x1,x2,x3⟩,⟨x4,x5,x6⟩⟩:=x;unfold tV at f;dsimp only at f k0 k1 k2 k3 k4 k5 j0 j1 j2 j3 j4 j5;(refine WalkN.tk [0,1,2,3,4,5,6,7,8,9] ?_;(iterate 10 (refine c! ?_));refine TkN.n ?_)
       refine d! ?_;clear k0 k1 k2 k3 k4 k5 j0 j1 j2 j3 j4 j5 f E F z a0;go_wp2_with fail
       go_roundw
       case rel=>exact⟨q,a+1,R,rfl,by go_num,by omega,K,by have:=o.out;omega,QL.out,by rw[QT.out];exact U.out.symm,(fun j hj=>QJ.out j (by omega)),DO.out,DK.out⟩
       case measure=>have:=o.out;simp[intOf];omega
      ·have U:Hid (ddN l (m+1+a+1+1)=ddN l (m+1+a+1)++[x]):=h! (by rw[I.out,if_pos he])
       have f:∀W,(binOp BinOp.neq 67 (tV x) (tV y)).run prog W= .ok (.bool true) W:=fun W=>by
        have:=hq W;rwa[v2! he]at this
       clear hq I A he;obtain⟨⟨x1,x2,x3⟩,⟨x4,x5,x6⟩⟩:=x;obtain⟨⟨y1,y2,y3⟩,⟨y4,y5,y6⟩⟩:=y;unfold tV at f;dsimp only at f k0 k1 k2 k3 k4 k5 j0 j1 j2 j3 j4 j5 KB s;(refine WalkN.tk [0,1,2,3,4,5,6,7,8,9] ?_;(iterate 10 (refine c! ?_));refine TkN.n ?_)
       refine d! ?_;clear k0 k1 k2 k3 k4 k5 j0 j1 j2 j3 j4 j5 f E;obtain⟨b0,b1,b2,b3,b4,b5⟩:=KB.out;obtain⟨ak,C⟩:=DO.out.typed (g:=g) rfl;have a7:=Blk.free (show Blk wd g ak 67 from C);obtain⟨d0,d1,d2,d3,d4,d5⟩:=DO.out.tupAt q (by rw[QL.out];omega);have ac:(q:Int)<(l.length:Int):=by omega
       have D:(0:Int)<=(q:Int):=by omega
       have V:=run_storeCells_cells (P:=prog) g (q*6) [.string x1,.string x2,.string x3,.string x4,.string x5,.string x6] 0 wd (by
        intro j hj;simp only[u7!,v6!]at hj;match j,hj with
        | 0,_=>rw[show q*6+0+0=q*6 from rfl,d0];rfl
        | 1,_=>rw[show q*6+0+1=q*6+1 from rfl,d1];rfl
        | 2,_=>rw[show q*6+0+2=q*6+2 from rfl,d2];rfl
        | 3,_=>rw[show q*6+0+3=q*6+3 from rfl,d3];rfl
        | 4,_=>rw[show q*6+0+4=q*6+4 from rfl,d4];rfl
        | 5,_=>rw[show q*6+0+5=q*6+5 from rfl,d5];rfl) (fun j _=>a7 _) (by simp[Value.oneCell'])
       simp only[Nat.add_zero]at V;clear d0 d1 d2 d3 d4 d5 a7 C
       have u:(Instr.storeAt 67 (.pointer (some ⟨g,q*6,none⟩)) (.agg #[.string x1,.string x2,.string x3,.string x4,.string x5,.string x6])).run prog wd= .ok () (wd.setCells g (q*6) [.string x1,.string x2,.string x3,.string x4,.string x5,.string x6]):=by
        simp[Instr.storeAt,Instr.sureAddr,storeVar,Value.cells,Tryz.sizeOf67,V,Result.andThen]
       have a4:wd.setCells g (q*6) [.string x1,.string x2,.string x3,.string x4,.string x5,.string x6]=(((((wd.setCell ⟨g,q*6,none⟩ (.string x1)).setCell ⟨g,q*6+1,none⟩ (.string x2)).setCell ⟨g,q*6+2,none⟩ (.string x3)).setCell ⟨g,q*6+3,none⟩ (.string x4)).setCell ⟨g,q*6+4,none⟩ (.string x5)).setCell ⟨g,q*6+5,none⟩ (.string x6):=by simp only[World.setCells,Nat.add_assoc,Nat.reduceAdd]
       obtain⟨w8,i⟩:=e! (wd.setCells g (q*6) [.string x1,.string x2,.string x3,.string x4,.string x5,.string x6]);rw[<-i]at u;have X:=h! (show Own w8 B 67 6 (.slice (some ⟨g,0,none⟩) l.length c) (tuCs (R.set q ⟨⟨x1,x2,x3⟩,⟨x4,x5,x6⟩⟩))from by rw[i,a4];exact s.out _ DO.out);have Z:=h! (show Kept (fun b=>b<w.heap.size/\(Value.slice (some ⟨g,0,none⟩) l.length c).ownBlock≠some b) w w8 from by rw[i];exact DK.out.setMany (g:=g) (fun h=>h.2 rfl) _ _);clear V a4 i s;go_wp2_with ((with_reducible refine cO! (x := .pointer (some ⟨g,q*6,none⟩)) (v := .agg #[.string x1,.string x2,.string x3,.string x4,.string x5,.string x6]) (w':=w8) ?hA ?hV ?hR ?hK);(case hA=>rfl);(case hV=>rfl);(case hR=>exact u);clear b0 b1 b2 b3 b4 b5 ac D F z a0 u DO DK)
       go_roundw
       case rel=>exact⟨q+1,a+1,R.set q ⟨⟨x1,x2,x3⟩,⟨x4,x5,x6⟩⟩,by go_num,by go_num,by omega,by omega,by have:=o.out;omega,by rw[List.length_set];exact QL.out,by rw[a8.out,QT.out];exact U.out.symm,a1.out,X.out,Z.out⟩
       case measure=>have:=o.out;simp[intOf];omega
     ·have ae:m+1+a+1=l.length:=by omega
      rw[ae]at QT;have a0:¬ (((a:Int)+1)<((l.length-(m+1):Nat):Int)):=by omega
      have G:=QP.out.1;have H:q<l.length:=by omega
      have ac:(q:Int)<=(l.length:Int):=by omega
      have D:(0:Int)<=(q:Int):=by omega
      have ap:q<=c:=by omega
      have aq:¬ (c=q):=by omega
      obtain⟨vs,Q⟩:=oc! QO.out QL.out.symm q H 0 (c-q);obtain⟨w8,i⟩:=e! (wr.setCells g (q*6) vs);rw[<-i]at Q
      have X:=h! (show Own w8 B 67 6 (.slice (some ⟨g,0,none⟩) q c) (tuCs (dd l))from by
       have h1:=(Own.setMany vs (q*6) QO.out).cutT (k:=q) (Nat.le_of_lt H);rw[dI! _ _ _ _ (n0! _),fR!,QT.out]at h1;rw[i];exact h1)
      have Z:=h! (show Kept (fun b=>b<w.heap.size/\(Value.slice (some ⟨g,0,none⟩) l.length c).ownBlock≠some b) w w8 from by rw[i];exact J.out.setMany (g:=g) (fun h=>h.2 rfl) _ _);clear i G hlt2 QO J QT ae;go_wp2_with ((with_reducible refine bK! (v := .slice (some ⟨g,q*6,none⟩) (l.length-q) (c-q)) (w':=w8) (r := .tuple #[]) ?hV ?hR ?hK);(case hV=>rfl);(case hR=>exact Q);clear Q)
      go_ret
      exact⟨_,rfl,X.out,Z.out⟩
   ·have am:=h! (Y.out he)
    have M:∀W,(binOp BinOp.eql 67 (tV x) (tV y)).run prog W= .ok (.bool false) W:=fun W=>by
     have:=hq W;rwa[v3! he]at this
    clear hq L Y he;obtain⟨⟨x1,x2,x3⟩,⟨x4,x5,x6⟩⟩:=x;obtain⟨⟨y1,y2,y3⟩,⟨y4,y5,y6⟩⟩:=y;unfold tV at M;dsimp only at M k0 k1 k2 k3 k4 k5 j0 j1 j2 j3 j4 j5;(refine WalkN.tk [0,1,2,3,4,5,6,7,8,9] ?_;(iterate 10 (refine c! ?_));refine TkN.n ?_)
    refine d! ?_;clear k0 k1 k2 k3 k4 k5 j0 j1 j2 j3 j4 j5 M E F a6 z;go_wp2_with fail
    go_roundw
    case rel=>exact⟨m+1,by go_num,by have:=T.out;omega,am.out,DO.out,DK.out⟩
    case measure=>have:=T.out;simp[intOf];omega
  ·obtain aj:m+1=l.length:=by omega
   have HD:=h! (show dd l=l from by
    unfold dd;rw[ei! l _ (n0! _) fun j h0 h1=>RN.out j h0 (by omega),u2!])
   go_wp2_with fail
   go_ret
   exact⟨_,rfl,by rw[HD.out];exact RO.out,RK.out⟩
end Go.Proofs.YtlhaghoajpglaaaGreat
namespace Go.Proofs.YtlhaghoajpglaaaGreat
open Go Go.RowKit Go.Maps Go.ChangeMaps Go.WideElems Go.Proofs.Tryz
theorem Mp.entry {P:Program}{k t e:TypeId}{κ α:Type}{kv:κ->Value}{ev:α->Value}{w:World}{b:Nat}{l:List (κ × α)} [DecidableEq κ] (h:Mp P k kv ev w b l)(K:Keyed P k)(inj:∀a b,kv a=kv b->a=b)(ht:P.underlying t=some (.map k e)) {z:Value}(hz:(zeroValue e).run P w= .ok z w) {a:κ}(hk:∃q,keyOf P k (kv a)=some q) :
  ∃es1 c1 st,(Instr.mapEntry t (.map (some b)) (kv a)).run P w= .ok (.tuple #[lookV false z ev (lookA l a),goInt st]) (setBlock w b (.map es1 c1)) /\
   ∀(w2:World) (x:α),w2.heap[b]?=some (.map es1 c1)->∃w3,(Instr.entryStore t (.map (some b)) (goInt st) (ev x)).run P w2= .ok () w3/\Mp P k kv ev w3 b (putA l a x)/\ot! w2 w3 b:=by
 have a2:=fun x=>h.store K inj ht hk x;have a1:=h.look K inj ht hz false hk;obtain⟨m,d,o,hs,hm,a0⟩:=h;obtain⟨s1,s2,s3⟩:=hs;obtain⟨q,n⟩:=hk
 have fin:∀(es1:Array MapEntry) (c1 st:Nat) (w2:World) (x:α) (es':Array MapEntry) (c':Nat),w2.heap[b]?=some (.map es1 c1)->(Instr.entryStore t (.map (some b)) (goInt st) (ev x)).run P w2= .ok () (setBlock w2 b (.map es' c')) ->
   (Instr.mapUpdate t (.map (some b)) (kv a) (ev x)).run P w= .ok () (setBlock w b (.map es' c'))->∃w3,(Instr.entryStore t (.map (some b)) (goInt st) (ev x)).run P w2= .ok () w3/\Mp P k kv ev w3 b (putA l a x)/\ot! w2 w3 b:=by
  intro es1 c1 st w2 x es' c' hw2 h1 h2;refine⟨_,h1,?_,_,rfl⟩;obtain⟨w',p,h4,-⟩:=a2 x;rw[h2]at p;injection p with _ p
  subst p;exact h4.same (by rw[aY! hw2,aY! o])
 rcases K.find w n m.toList (fu! hm a0)with⟨h1,h2⟩|⟨j,e0,h1,h2,p⟩
 ·have hl:lookA l a=none:=ea! (dP! hm h2);refine⟨m.push ⟨kv a,z,d⟩,d+1,d,?_,fun w2 x hw2=>?_⟩
  ·rw[hl];simp[Instr.mapEntry,run_underlying ht,MapKept.run_getObj_map o,K.check w false n,h1,hz,MapKept.run_setObj_map _ o,Result.andThen,setBlock,lookV]
  ·refine fin _ _ _ w2 x (m.push ⟨kv a,ev x,d⟩) (d+1) hw2 ?_ ?_
   ·have g:(m.push ⟨kv a,z,d⟩).findIdx? (fun e=>((e.born:Nat):Int) == ((d:Nat):Int))=some m.size:=by
     rw[findIdx_arr]
     exact findIdx_born (l:=(m.push ⟨kv a,z,d⟩).toList) (j:=m.size) (e0:=⟨kv a,z,d⟩) (by
      simp only[Array.toList_push,v9!,v8!,List.map_nil];refine List.nodup_append.2 ⟨s2,by simp,fun a ha c hc e1=>?_⟩;simp only[n9!]at hc;obtain⟨x,hx,rfl⟩:=u6!.1 ha;have:=s1 x hx;omega) (by simp)
    have f:(m.push ⟨kv a,z,d⟩).modify m.size (fun e => {e with val:=ev x})=m.push ⟨kv a,ev x,d⟩:=by
     apply Array.ext';rw[Array.toList_modify,Array.toList_push,Array.toList_push,<-Array.length_toList,modify_last]
    simp[Instr.entryStore,MapKept.run_getObj_map hw2,asInt,asIntOf,goInt,g,f,MapKept.run_setObj_map _ hw2,Result.andThen,setBlock]
   ·simp[Instr.mapUpdate,run_underlying ht,MapKept.run_getObj_map o,K.check w false n,h1,MapKept.run_setObj_map _ o,Result.andThen,setBlock]
 ·have hj:m[j]?=some e0:=by simpa using h2
  have i:m.modify j (fun e => {e with key:=kv a})=m:=by
   apply Array.ext';rw[Array.toList_modify,modify_eq_set _ _ _ _ h2];have:({e0 with key:=kv a}:MapEntry)=e0:=by rw[<-p]
   rw[this];exact set_self _ _ _ h2
  refine⟨m,d,e0.born,?_,fun w2 x hw2=>?_⟩
  ·have hv:lookV false z ev (lookA l a)=e0.val:=by
    have:(Instr.lookup t (.map (some b)) (kv a) false).run P w= .ok e0.val w:=by
     simp[Instr.lookup,run_underlying ht,MapKept.run_getObj_map o,K.check w _ n,h1,Result.andThen]
    rw[a1]at this;injection this
   rw[hv];simp[Instr.mapEntry,run_underlying ht,MapKept.run_getObj_map o,K.check w false n,h1,hj,p,K.stays w n,i,MapKept.run_setObj_map _ o,Result.andThen,setBlock]
  ·refine fin _ _ _ w2 x (m.modify j (fun e' => {e' with key:=kv a,val:=ev x})) d hw2 ?_ ?_
   ·have g:m.findIdx? (fun e=>((e.born:Nat):Int) == ((e0.born:Nat):Int))=some j:=by
     rw[findIdx_arr];exact findIdx_born s2 h2
    have f:m.modify j (fun e => {e with val:=ev x})=m.modify j (fun e' => {e' with key:=kv a,val:=ev x}):=by
     apply Array.ext';rw[Array.toList_modify,Array.toList_modify,modify_eq_set _ _ _ _ h2,modify_eq_set _ _ _ _ h2,<-p]
    simp[Instr.entryStore,MapKept.run_getObj_map hw2,asInt,asIntOf,goInt,g,f,MapKept.run_setObj_map _ hw2,Result.andThen,setBlock]
   ·simp[Instr.mapUpdate,run_underlying ht,MapKept.run_getObj_map o,K.check w false n,h1,hj,p,K.stays w n,MapKept.run_setObj_map _ o,Result.andThen,setBlock]
section
variable {κ ι : Type}
theorem MRows.put2 [DecidableEq κ] {P:Program}{k:TypeId}{kv:κ->Value}{E:Elm ι}{w w1 w2 w3:World}{B b3:Nat}{lw:List (κ × RwV ι)}(h:MRows E w B lw) {n:κ}{names:List ι}{v v':Value}(hl:(lookA lw n=some (names,v))\/(lookA lw n=none/\names=[]/\v= .slice none 0 0))
  (h1:∀x,x<w.heap.size->x≠b3->w1.heap[x]?=w.heap[x]?) (h1s:w.heap.size<=w1.heap.size) (h2:w1.grownBy w2 v.ownBlock) {tn:ι} (ho:Own w2 B E.e E.sz v' ((names++[tn]).flatMap E.enc)) (hw:∀g,v'.ownBlock=some g->v.ownBlock=some g\/w1.heap.size<=g)
  (hm:Mp P k kv rwV w b3 lw) (hnc:∀cs t fr,w2.heap[b3]?≠some (.cells cs t fr)) (ht:ot! w2 w3 b3):MRows E w3 B (putA lw n (names++[tn],v')):=by
 have b:=hm.nodup
 have c:∀x∈lw,x.1≠n->∀g,x.2.2.ownBlock=some g->v.ownBlock≠some g:=fun x hx hne g f e=>by
  rcases hl with hl | ⟨_,_,rfl⟩
  ·exact h.apart x hx _ (aB! hl) hne (f.trans e.symm)
  ·cases e
 have lt:∀x∈lw,∀g,x.2.2.ownBlock=some g->g<w.heap.size:=fun x hx g f=>((h.rows x hx).2.block g f).2;refine⟨fun x hx=>?_,fun x hx y hy hne=>?_⟩
 ·rcases cS! _ _ _ b hx with rfl | ⟨hx,hxn⟩
  ·exact⟨by simp,ho.keepB fun g f=>ht.kept.block g (ho.notMap hnc g f)⟩
  ·have hr:=(h.rows x hx).2;refine⟨(h.rows x hx).1,hr.keepB fun g f=>?_⟩;have a0:=lt x hx g f;have d:=hr.notMap hm.notCells g f;exact(ht.kept.block g d).trans ((h2.block g (by omega) fun e=>c x hx hxn g f e.symm).trans (h1 g a0 d))
 ·rcases cS! _ _ _ b hx with rfl | ⟨hx,hxn⟩ <;> rcases cS! _ _ _ b hy with rfl | ⟨hy,hyn⟩
  ·exact absurd rfl hne
  ·intro e;obtain⟨g,f⟩:=ga! ho (by simp);have a:y.2.2.ownBlock=some g:=e.symm.trans f;rcases hw g f with h3 | h3
   ·exact c y hy hyn g a h3
   ·have:=lt y hy g a;omega
  ·intro e;obtain⟨g,f⟩:=ga! ho (by simp);have a:x.2.2.ownBlock=some g:=e.trans f;rcases hw g f with h3 | h3
   ·exact c x hx hxn g a h3
   ·have:=lt x hx g a;omega
  ·exact h.apart x hx y hy hne
theorem MR.entry [DecidableEq κ] {P:Program}{k t e:TypeId}{kv:κ->Value}{E:Elm ι}{w:World}{B b:Nat}{f:κ->List ι}(h:MR P k kv E w B b f)(K:Keyed P k)(inj:∀a b,kv a=kv b->a=b)(ht:P.underlying t=some (.map k e))(hz:∀w,(zeroValue e).run P w= .ok (.slice none 0 0) w) {n:κ}(hn:∃q,keyOf P k (kv n)=some q) :
  ∃es1 c1 st v,(∀a,a=b->(Instr.mapEntry t (.map (some a)) (kv n)).run P w= .ok (.tuple #[v,goInt st]) (setBlock w b (.map es1 c1)))/\Own w B E.e E.sz v ((f n).flatMap E.enc)/\Own (setBlock w b (.map es1 c1)) B E.e E.sz v ((f n).flatMap E.enc)/\(∀g,v.ownBlock=some g->g≠b) /\
   ∀(w2:World) (v':Value) (x:ι),(setBlock w b (.map es1 c1)).grownBy w2 v.ownBlock->Own w2 B E.e E.sz v' ((f n++[x]).flatMap E.enc)->(∀g,v'.ownBlock=some g->v.ownBlock=some g\/(setBlock w b (.map es1 c1)).heap.size<=g) ->
    ∃w3,(Instr.entryStore t (.map (some b)) (goInt st) v').run P w2= .ok () w3/\MR P k kv E w3 B b (fun m=>if n=m then f m++[x]else f m)/\ot! w2 w3 b:=by
 obtain⟨p,s,hR,hL⟩:=h;obtain⟨es1,c1,st,h1,h2⟩:=s.entry K inj ht (hz w) hn;have u:=hL n
 have hv:∃v,lookV false (.slice none 0 0) rwV (lookA p n)=v/\Own w B E.e E.sz v ((f n).flatMap E.enc)/\(lookA p n=some (f n,v)\/(lookA p n=none/\f n=[]/\v= .slice none 0 0)):=by
  cases hlk:lookA p n with
  | none =>
   rw[hlk]at u
   have r:f n=[]:=by
    unfold optR at u;split at u
    ·next h=>exact List.isEmpty_iff.1 h
    ·cases u
   exact⟨_,rfl,by rw[r];exact Own.nil _ _ _ _,.inr ⟨rfl,r,rfl⟩⟩
  | some x =>
   rw[hlk]at u
   have r:x.1=f n:=by
    unfold optR at u;split at u
    ·cases u
    ·injection u
   refine⟨_,rfl,by rw[<-r];exact(hR.rows _ (aB! hlk)).2,.inl ?_⟩;rw[<-r];rfl
 obtain⟨v,a4,d,a3⟩:=hv;rw[a4]at h1;have j:(setBlock w b (.map es1 c1)).heap.size=w.heap.size:=aD! _ _ _;have i:=d.notMap s.notCells;obtain⟨o0,a2⟩:∃o,w.heap[b]?=some o:=⟨w.heap[b]'s.lt,Array.getElem?_eq_getElem _⟩;have a0:(setBlock w b (.map es1 c1)).heap[b]?=some (.map es1 c1):=aY! a2;refine⟨es1,c1,st,v,fun a ha=>by rw[ha];exact h1,d,d.keepB fun g hg=>ax! w b g _ (i g hg),i,fun w2 v' x hg ho hwh=>?_⟩;have l:w2.heap[b]?=some (.map es1 c1):=(hg.block b (by rw[j];exact s.lt) fun e=>i b e.symm rfl).trans a0;obtain⟨w3,c,a1,hT⟩:=h2 w2 (f n++[x],v') l;refine⟨w3,c,⟨_,a1,MRows.put2 (w1:=setBlock w b (.map es1 c1)) hR (names:=f n) (v:=v) a3 (fun y _ hy=>ax! w b y _ hy) (v4! j.symm) hg ho hwh s (fun cs t fr=>by rw[l];simp) hT,fun m=>?_⟩,hT⟩;rw[cu!];show _=optR (if n=m then f m++[x]else f m)
 by_cases e:n=m
 ·rw[if_pos e,if_pos e];subst e;unfold optR;rw[if_neg (by simp)];rfl
 ·rw[if_neg e,if_neg e];exact hL m
end
structure NbI (w0 w:World)(b m1 m2 m3:Nat)(l:OL)(Ts Tp:List Tup)(sv:Value)(s:List Tup):Prop where
 box:Blk w b #[.map (some m1),.map (some m2),.map (some m3)] 149
 subs:MR prog 32 pV subE w w0.heap.size m1 (ai! Ts)
 pnts:MR prog 33 pV pntE w w0.heap.size m2 (aT! Tp)
 objs:ONest w m3 l
 row:Own w w0.heap.size 67 6 sv (tuCs s)
 ne:m1≠m2/\m1∉nBG m3 l/\m2∉nBG m3 l
 lo:w0.heap.size<=m1/\w0.heap.size<=m2/\∀x∈nBG m3 l,w0.heap.size<=x
 low:Below w0.heap.size w0 w
section
variable {w0 w w' w1 w2 : World} {b m1 m2 m3 : Nat} {l : OL} {Ts Tp s : List Tup} {sv : Value}
theorem NbI.ext (h:NbI w0 w b m1 m2 m3 l Ts Tp sv s)(hx:Ext w w'):NbI w0 w' b m1 m2 m3 l Ts Tp sv s :=
 ⟨h.box.below hx,h.subs.up hx,h.pnts.up hx,h.objs.below hx,h.row.below hx,h.ne,h.lo,h.low.trans (hx.mono h.low.size)⟩
structure Onl (w w':World)(c:Nat)(v:Value):Prop where
 os:w'.os=w.os
 tape:w'.tape=w.tape
 output:w'.output=w.output
 size:w.heap.size<=w'.heap.size
 block:∀x,x<w.heap.size->x≠c->v.ownBlock≠some x->w'.heap[x]?=w.heap[x]?
theorem nh! {c:Nat}{v:Value}{o:Obj}{w1 w2:World}(hg:(setBlock w c o).grownBy w1 v.ownBlock)(ht:ot! w1 w2 c):Onl w w2 c v :=
 have h0:ot! w (setBlock w c o) c:=⟨o,rfl⟩
 ⟨ht.kept.os.trans (hg.os.trans h0.kept.os),ht.kept.tape.trans (hg.tape.trans h0.kept.tape),ht.kept.output.trans (hg.output.trans h0.kept.output),by rw[ht.size,<-h0.size];exact hg.size,fun x hx hc hv=>(ht.kept.block x hc).trans ((hg.block x (by rw[h0.size];exact hx) fun e=>hv e.symm).trans (h0.kept.block x hc))⟩
theorem Onl.blk {c B sz:Nat}{v:Value}{e t:TypeId}{xs:List Value}{x:Nat}{cs:Array Value}(h:Onl w w' c v)(ho:Own w B e sz v xs)(hx:Blk w x cs t)(hne:t≠e)(hc:x≠c):Blk w' x cs t :=
 (h.block x hx.lt hc fun hv=>by
  obtain⟨c2,h2⟩:=ho.typed hv;rw[show w.heap[x]?=_ from hx]at h2;exact hne (by injection v5! h2)).trans hx
theorem Onl.low {c B:Nat}{v:Value}(h:Onl w w' c v)(hc:B<=c)(hv:∀g,v.ownBlock=some g->B<=g)(hl:Below B w0 w)(hB:B<=w.heap.size):Below B w0 w' :=
 hl.trans ⟨h.os,h.tape,h.output,h.size,fun x hx=>h.block x (by omega) (by omega) fun e=>by have:=hv x e;omega⟩
theorem NbI.sub (h:NbI w0 w b m1 m2 m3 l Ts Tp sv s) {v:Value}{xs:List Value}(ho:Own w w0.heap.size 33 3 v xs)(hc:Onl w w' m1 v) {t:Tup}(hm:MR prog 32 pV subE w' w0.heap.size m1 (fun m=>if t.o=m then ai! Ts m++[t.s]else ai! Ts m)):NbI w0 w' b m1 m2 m3 l (Ts++[t]) Tp sv s:=by
 have ap:∀x f e,w.heap[x]?=some (.cells f e (0,0))->e≠33->v.ownBlock≠some x:=fun x f e a he hv=>by
  obtain⟨c2,d⟩:=ho.typed hv;rw[a]at d;exact he (by injection v5! d)
 have nm:∀x,(∃es c,w.heap[x]?=some (.map es c))->v.ownBlock≠some x:=fun x a hv=>by
  obtain⟨c2,d⟩:=ho.typed hv;obtain⟨es,c,h3⟩:=a;rw[h3]at d;cases d
 have bx:∀x f e fr,w.heap[x]?=some (.cells f e fr)->x≠m1:=fun x f e fr a hm=>h.subs.notCells _ _ _ (hm▸a);refine⟨(hc.block b h.box.lt (bx b _ _ _ h.box) (ap b _ _ h.box (by decide))).trans h.box,hm.congr fun n=>(gM! Ts t n).symm,h.pnts.keep (hc.block m2 h.pnts.lt (Ne.symm h.ne.1) (nm m2 ?_)) fun x _ hl a=>?_,h.objs.same fun x a=>hc.block x (h.objs.lt x a) (fun e=>h.ne.2.1 (e▸a)) (nm x (h.objs.isMap x a)),h.row.keepOwn fun g hg=>?_,h.ne,h.lo,?_⟩
 ·obtain⟨lw,h1,_⟩:=h.pnts;exact h1.isMap
 ·obtain⟨f,a⟩:=a;exact hc.block x hl (bx x _ _ _ a) (ap x _ _ a (by decide))
 ·obtain⟨a0,d⟩:=h.row.typed hg;exact hc.block g (h.row.block g hg).2 (bx g _ _ _ d) (ap g _ _ d (by decide))
 ·exact hc.low h.lo.1 (fun g hg=>(ho.block g hg).1) h.low h.low.size
theorem NbI.pnt (h:NbI w0 w b m1 m2 m3 l Ts Tp sv s) {v:Value}{xs:List Value}(ho:Own w w0.heap.size 32 3 v xs)(hc:Onl w w' m2 v) {t:Tup}(hm:MR prog 33 pV pntE w' w0.heap.size m2 (fun m=>if t.s=m then aT! Tp m++[t.o]else aT! Tp m)):NbI w0 w' b m1 m2 m3 l Ts (Tp++[t]) sv s:=by
 have ap:∀x f e,w.heap[x]?=some (.cells f e (0,0))->e≠32->v.ownBlock≠some x:=fun x f e a he hv=>by
  obtain⟨c2,d⟩:=ho.typed hv;rw[a]at d;exact he (by injection v5! d)
 have nm:∀x,(∃es c,w.heap[x]?=some (.map es c))->v.ownBlock≠some x:=fun x a hv=>by
  obtain⟨c2,d⟩:=ho.typed hv;obtain⟨es,c,h3⟩:=a;rw[h3]at d;cases d
 have bx:∀x f e fr,w.heap[x]?=some (.cells f e fr)->x≠m2:=fun x f e fr a hm=>h.pnts.notCells _ _ _ (hm▸a);refine⟨(hc.block b h.box.lt (bx b _ _ _ h.box) (ap b _ _ h.box (by decide))).trans h.box,h.subs.keep (hc.block m1 h.subs.lt h.ne.1 (nm m1 ?_)) fun x _ hl a=>?_,hm.congr fun n=>(eN! Tp t n).symm,h.objs.same fun x a=>hc.block x (h.objs.lt x a) (fun e=>h.ne.2.2 (e▸a)) (nm x (h.objs.isMap x a)),h.row.keepOwn fun g hg=>?_,h.ne,h.lo,?_⟩
 ·obtain⟨lw,h1,_⟩:=h.subs;exact h1.isMap
 ·obtain⟨f,a⟩:=a;exact hc.block x hl (bx x _ _ _ a) (ap x _ _ a (by decide))
 ·obtain⟨a0,d⟩:=h.row.typed hg;exact hc.block g (h.row.block g hg).2 (bx g _ _ _ d) (ap g _ _ d (by decide))
 ·exact hc.low h.lo.2.1 (fun g hg=>(ho.block g hg).1) h.low h.low.size
theorem NbI.obj (h:NbI w0 w b m1 m2 m3 l Ts Tp sv s) {c:Nat}(hc:ot! w w' c)(hcm:c∈nBG m3 l) {l':OL}(hm:ONest w' m3 l')(hl:∀x∈nBG m3 l',x∈nBG m3 l\/(w0.heap.size<=x/\x≠m1/\x≠m2)):NbI w0 w' b m1 m2 m3 l' Ts Tp sv s:=by
 obtain⟨es,k,a0⟩:=h.objs.isMap c hcm;have a:∀cs t fr,w.heap[c]?≠some (.cells cs t fr):=fun cs t fr=>by rw[a0];simp
 refine⟨hc.kept.blk h.box fun e=>a _ _ _ (e▸h.box),h.subs.turned hc (fun e=>h.ne.2.1 (e▸hcm)) a,h.pnts.turned hc (fun e=>h.ne.2.2 (e▸hcm)) a,hm,h.row.keepOwn fun g hg=>hc.kept.block g fun e=>?_,⟨h.ne.1,fun hx=>?_,fun hx=>?_⟩,⟨h.lo.1,h.lo.2.1,fun x hx=>?_⟩,h.low.trans (hc.below (h.lo.2.2 c hcm))⟩
 ·obtain⟨a1,h2⟩:=h.row.typed hg;exact a _ _ _ (e▸h2)
 ·rcases hl _ hx with h1 | h1
  ·exact h.ne.2.1 h1
  ·exact h1.2.1 rfl
 ·rcases hl _ hx with h1 | h1
  ·exact h.ne.2.2 h1
  ·exact h1.2.2 rfl
 ·rcases hl x hx with h1 | h1
  ·exact h.lo.2.2 x h1
  ·exact h1.1
end
theorem lM! (x:Option Nat)(W:World):(binOp BinOp.eql 157 (.map x) (.map none)).run prog W= .ok (.bool x.isNone) W:=by
 have h:(Op.equal 157 (.map x) (.map none)).run prog W= .ok x.isNone W:=run_equalIn_map_nil W 9999 _ _ _ x Tryz.underlying157;simp[binOp,h,Result.andThen]
theorem kJ! (a b c d:ByteArray)(W:World):(Instr.index 156 (.agg #[.string a,.string b,.string c,.string d]) (.int .i64 0)).run prog W= .ok (.agg #[.string a,.string b]) W/\(Instr.index 156 (.agg #[.string a,.string b,.string c,.string d]) (.int .i64 1)).run prog W= .ok (.agg #[.string c,.string d]) W:=⟨by kernel_rfl,by kernel_rfl⟩
theorem na! {ι:Type} [DecidableEq ι] (l:List ι)(a:ι):putA (blG l) a true=blG (if a∈l then l else l++[a]):=by
 split
 ·next h =>
  induction l with
  | nil=>simp at h
  | cons x r ih =>
   simp only[blG,v8!,putA]at *;by_cases e:x=a
   ·subst e;simp
   ·rw[if_neg e,ih (by simpa [Ne.symm e] using h)]
 ·next h =>
  rw[bb! (fun p hp e=>h (by obtain⟨x,hx,rfl⟩:=u6!.1 hp;exact e▸hx))];simp[blG]
theorem iG! {κ ι:Type} [DecidableEq κ] (l:NLG κ ι)(q x:κ)(b:Nat)(ss:List ι):innG (putA l q (b,ss)) x=if q=x then ss else innG l x:=by
 unfold innG;rw[cu!];by_cases e:q=x
 ·rw[if_pos e,if_pos e]
 ·rw[if_neg e,if_neg e]
theorem kc! {κ ι:Type} [DecidableEq κ] {l:NLG κ ι}{q:κ}{b:Nat}{ss:List ι}(h:lookA l q=some (b,ss)):innG l q=ss:=by unfold innG;rw[h]
theorem kd! {κ ι:Type} [DecidableEq κ] {l:NLG κ ι}{q:κ}(h:lookA l q=none):innG l q=[]:=by unfold innG;rw[h]
def ObjJ (T:List Tup)(t:Tup)(j:Nat)(o:O2):Prop:=ObjIn T o\/(1<=j/\o=t.o.obj)\/(2<=j/\o=t.s.obj)
def What (l:OL)(Q:O2->Prop):Prop:=∀typ o,o∈innG l typ↔o.t=typ/\Q o
theorem What.congr {l:OL}{Q Q':O2->Prop}(h:What l Q)(e:∀o,Q o↔Q' o):What l Q':=fun typ o=>by rw[h typ o,e o]
theorem What.fresh {l:OL}{Q:O2->Prop}{q:ByteArray}(h:What l Q)(hl:lookA l q=none)(b:Nat):What (putA l q (b,[])) Q:=fun typ o=>by
 rw[<-h typ o,iG!];by_cases e:q=typ
 ·subst e;rw[if_pos rfl,kd! hl]
 ·rw[if_neg e]
theorem What.mark {l:OL}{Q:O2->Prop}{q:O2}(h:What l Q) {b:Nat}{ss:List O2}(hl:lookA l q.t=some (b,ss)):What (putA l q.t (b,if q∈ss then ss else ss++[q])) (fun o=>Q o\/o=q):=fun typ o=>by
 rw[iG!];have hs:=h q.t;rw[kc! hl]at hs;by_cases e:q.t=typ
 ·subst e;rw[if_pos rfl]
  have h1:o∈(if q∈ss then ss else ss++[q])↔o∈ss\/o=q:=by
   split
   ·next hq=>exact⟨.inl,fun h=>h.elim id fun e=>e▸hq⟩
   ·simp
  rw[h1,hs o];constructor
  ·rintro(⟨h1,a⟩ | rfl)
   ·exact⟨h1,.inl a⟩
   ·exact⟨rfl,.inr rfl⟩
  ·rintro⟨h1,a | rfl⟩
   ·exact .inl ⟨h1,a⟩
   ·exact .inr rfl
 ·rw[if_neg e,h typ o];constructor
  ·rintro⟨h1,a⟩;exact⟨h1,.inl a⟩
  ·rintro⟨h1,a | rfl⟩
   ·exact⟨h1,a⟩
   ·exact absurd h1 e
theorem cH! (T:List Tup)(t:Tup)(o:O2):(ObjJ T t 1 o↔ObjJ T t 0 o\/o=t.o.obj)/\(ObjJ T t 2 o↔ObjJ T t 1 o\/o=t.s.obj)/\(ObjJ T t 0 o↔ObjIn T o)/\(ObjJ T t 2 o↔ObjIn (T++[t]) o):=by
 unfold ObjJ;refine⟨by simp,by simp[or_assoc],by simp,?_⟩;unfold ObjIn;simp only[u3!,n9!,n0!,true_and];constructor
 ·rintro(⟨x,hx,h⟩ | h | h)
  ·exact⟨x,.inl hx,h⟩
  ·exact⟨t,.inr rfl,.inl h.2.symm⟩
  ·exact⟨t,.inr rfl,.inr h.symm⟩
 ·rintro⟨x,hx | rfl,h⟩
  ·exact .inl ⟨x,hx,h⟩
  ·exact .inr (h.imp (fun e=>⟨by omega,e.symm⟩) Eq.symm)
theorem hn! {α:Type}(p:α->Bool) {l:List α}{i:Nat}(h:i<l.length):(l.take (i+1)).filter p=(l.take i).filter p++if p l[i]then [l[i]]else []:=by
 rw[n2! h,List.filter_append];congr 1
 cases e:p l[i] <;> simp[e]
theorem ct! (l:List Tup)(v:Value)(w:World)(h:Sl (· < w.heap.size) w 6 v (tuCs l))(hl:l.length<=1000000)(hok:∀t∈l,t.Ok) :
  Calls prog 20 #[v] w fun e w'=>∃b T,e= .returned (.pointer (some ⟨b,0,none⟩))/\SetT l T/\of! w' b T/\Below w.heap.size w w':=by
 obtain⟨ao,n,c,rfl,hn,b9,ba⟩:=h.len;obtain rfl:n=l.length:=by rw[aw!]at hn;omega
 have HL:=h! hl;have I:=h! hok;have HS:=h! h;have b8:=@run_makeMap prog;clear h hl hok hn;go_enter func20,ntmps20
 go_wp2_with fail
 obtain⟨w1,ad⟩:=e! (w.alloc (.map #[] 0));rw[<-ad];obtain⟨w2,a8⟩:=e! (w1.alloc (.map #[] 0));rw[<-a8];obtain⟨w3,G⟩:=e! (w2.alloc (.map #[] 0));rw[<-G];obtain⟨bc,aA⟩:=e! (w.heap.size+1+1+1);obtain⟨m3,aq⟩:=e! (w.heap.size+1+1);obtain⟨m2,av⟩:=e! (w.heap.size+1);rw[<-aA,<-aq,<-av];obtain⟨w4,ai⟩:=e! (w3.alloc (.cells #[.map (some w.heap.size),.map (some m2),.map (some m3)] 149));rw[<-ai];have e1:w1.heap.size=m2:=by rw[ad,av];simp
 have e2:w2.heap.size=m3:=by rw[a8,aq];simp[e1,av]
 have e3:w3.heap.size=bc:=by rw[G,aA];simp[e2,aq]
 have aM:Ext w w1:=xa! ad
 have aG:Ext w1 w2:=xa! a8
 have ak:Ext w2 w3:=xa! G
 have af:Ext w3 w4:=xa! ai
 have ab:Blk w4 bc #[.map (some w.heap.size),.map (some m2),.map (some m3)] 149:=by rw[ai,<-e3];exact Blk.made _ _ _
 have b1:MR prog 32 pV subE w4 w.heap.size w.heap.size (ai! []):=MR.up (by rw[ad];exact MR.made _ _) (aG.trans (ak.trans af));have aR:MR prog 33 pV pntE w4 w.heap.size m2 (aT! []):=MR.up (w:=w2) (by rw[a8,<-e1];exact MR.made _ _) (ak.trans af);have aS:ONest w4 m3 []:=on!.below (w:=w3) ⟨by rw[G,<-e2];exact Mp.made _,(fun x hx=>by cases hx),by simp⟩ af;have HB:=h! ab;have HM:=h! (And.intro b1 (And.intro aR aS));have HX:=h! (aM.trans (aG.trans (ak.trans af)));have HN:Hid (w.heap.size<=m2/\w.heap.size<=m3/\w.heap.size≠m2/\w.heap.size≠m3/\m2≠m3):=h! (by omega);clear ad a8 G ai e1 e2 e3 aM aG ak af ab b1 aR aS aA aq av w1 w2 w3;refine(gH! ao l.length c w4).mono ?_;rintro e w5 ⟨rfl,ap⟩;have a0:=h! (show Ext w4 w5 from xa! ap);have HP:=h! (gO! w5 w4.heap.size ao c l (by have:=HL.out;omega) (by rw[ap];simp) (by rw[ap];exact(Blk.made w4 _ _).cells 0) ((HS.out.same (Same.below (HX.out.trans a0.out))).mono fun x hx=>n1! hx (HX.out.trans a0.out).size));clear ap;go_wp2_with fail
 refine HP.out.mono ?_;rintro e w6 ⟨v6,s0,rfl,k,D,C,a5⟩;have aF:=h! (nQ! k D)
 have aP:=h! (show(dd s0).length<=1000000 from by
  have h1:=HL.out
  have h2:(dd s0).length<=s0.length:=by
   have:=(cI! (u:=s0) (UpT.nodup (dd_up D)) fun x hx=>(mi! s0 x).1 hx);exact this
  rw[k.length_eq]at h2;omega)
 have aH:Hid (∀t∈dd s0,t.Ok):=h! (fun t ht=>I.out t (k.mem_iff.1 ((mi! s0 t).1 ht)));have HC:=h! (fH! v6 s0 w6 C (by have:=HL.out;rw[k.length_eq];omega));have aU:=h! C;have aB:=h! (a0.out.trans a5);clear HP k D C a5;go_wp2_with fail
 refine HC.out.mono ?_;rintro e w7 ⟨v7,rfl,O,b0⟩;have a2:=h! (show Ext w4 w7 from(Below.trans aB.out (Kept.below (B:=w4.heap.size) b0 fun b hb=>⟨n1! hb aB.out.size,fun e=>by have:=(aU.out.block b e).1;have:=a0.out.size;omega⟩)));have aC:Hid (Own w7 w.heap.size 67 6 v7 (tuCs (dd s0))):=h! (O.low (n6! HX.out.size a0.out.size));clear HC aU aB O b0;generalize dd s0=s at *;obtain⟨a7,n7,c7,rfl,aX,-,-⟩:=aC.out.sl.len;obtain rfl:n7=s.length:=by rw[aw!]at aX;omega
 clear aX;have HI:=h! (show NbI w w7 bc w.heap.size m2 m3 [] [] [] (.slice a7 s.length c7) s from⟨HB.out.below a2.out,HM.out.1.up a2.out,HM.out.2.1.up a2.out,HM.out.2.2.below a2.out,aC.out,⟨HN.out.2.2.1,by simp[nBG];exact HN.out.2.2.2.1,by simp[nBG];exact HN.out.2.2.2.2⟩,⟨n0! _,HN.out.1,by simp[nBG];exact HN.out.2.1⟩,HX.out.trans a2.out⟩);clear HB HM aC a2 a0 I HS HL HX;go_wp2_with fail
 go_loopw [20] (fun ii wr=>∃(i:Nat) (lb:OL),i<=s.length/\ii= .int .i64 i/\NbI w wr bc w.heap.size m2 m3 lb ((s.take i).filter fun t=>chkT t) ((s.take i).filter fun t=>chkT t) (.slice a7 s.length c7) s/\What lb (ObjIn ((s.take i).filter fun t=>chkT t))) (fun ii _=>s.length-(intOf ii).toNat)
 case atStart=>exact⟨0,[],by omega,rfl,HI.out,fun typ o=>by simp[innG,lookA,ObjIn]⟩
 case round =>
  obtain⟨i,lb,hi,rfl,ac,U⟩:=hrel;have A:=h! ac;have aa:=h! U;clear HI ac U;by_cases hlt:i<s.length
  ·have am:=h! (hn! (fun t=>chkT t) hlt);have aT:=aH.out _ (n5! hlt);have al:=h! hlt
   obtain⟨g,rfl⟩:∃g,a7=some ⟨g,0,none⟩:=by
    rcases A.out.row.shape with⟨h1,_⟩|⟨g,n,c,h1⟩
    ·injection h1 with _ h1 _;omega
    ·exact⟨g,by injection h1⟩
   obtain⟨d0,d1,d2,d3,d4,d5⟩:=A.out.row.tupAt i hlt;have an:=h! (show wrap64 ((i:Int)+1)=((i+1:Nat):Int)from by have:=aP.out;unfold wrap64;omega);have aN:=h! (show((s.take i).filter fun t=>chkT t).length<=1000000 from n6! (x8! _ _) (by rw[x4!];have:=aP.out;omega));generalize s[i]=x at *;generalize hT:(s.take i).filter (fun t=>chkT t)=T at *;obtain⟨⟨ot,oi,a⟩,⟨st,si,sr⟩⟩:=x;have I:=h! aT;clear aT hT;have aI:=h! (Blk.made wr #[.string ot,.string oi,.string a,.string st,.string si,.string sr] 67);have ht:=aI.out.cells;have aL:=h! (Ext.alloc wr (.cells #[.string ot,.string oi,.string a,.string st,.string si,.string sr] 67));have ar:=h! (kv! ⟨⟨ot,oi,a⟩,⟨st,si,sr⟩⟩ I.out (wr.alloc (.cells #[.string ot,.string oi,.string a,.string st,.string si,.string sr] 67)));unfold tV at ar;dsimp only at ar d0 d1 d2 d3 d4 d5;have b6:(i:Int)<(s.length:Int):=by omega
   clear hlt;go_wp2_with fail
   clear d0 d1 d2 d3 d4 d5 ht b6;refine ar.out.mono ?_;rintro e w2 ⟨rfl,aD⟩;have ax:=h! (Ext.trans aL.out aD);have V:=h! (aI.out.below aD);clear ar aD aI aL;generalize wr.heap.size=tb at *;rcases hck:chkT ⟨⟨ot,oi,a⟩,⟨st,si,sr⟩⟩with _ | _
   ·have a6:chkN ⟨⟨ot,oi,a⟩,⟨st,si,sr⟩⟩=2:=by simp[chkN,hck]
    have ae:=h! (show(s.take (i+1)).filter (fun t=>chkT t)=T from by rw[am.out,hck];simp);rw[a6];clear a6 hck am;go_wp2_with fail
    go_roundw
    case rel=>exact⟨i+1,lb,by have:=al.out;omega,by rw[an.out],by rw[ae.out];exact A.out.ext ax.out,by rw[ae.out];exact aa.out⟩
    case measure=>have:=al.out;rw[an.out];simp[intOf];omega
   ·have a6:chkN ⟨⟨ot,oi,a⟩,⟨st,si,sr⟩⟩=0:=by simp[chkN,hck]
    have ae:=h! (show(s.take (i+1)).filter (fun t=>chkT t)=T++[⟨⟨ot,oi,a⟩,⟨st,si,sr⟩⟩]from by rw[am.out,hck];simp);rw[a6];clear a6 hck am;have b7:=V.out.cells;have aJ:=h! (Ext.alloc w2 (.cells #[.string ot,.string oi,.string a] 32));have ay:=h! (Blk.made w2 #[.string ot,.string oi,.string a] 32);have az:=h! ((A.out.ext ax.out).ext aJ.out);have Y:=h! (V.out.below aJ.out);go_wp2_with fail
    clear b7 V ax A;obtain⟨w3,G⟩:=e! (w2.alloc (.cells #[.string ot,.string oi,.string a] 32));rw[<-G]at ay az Y ⊢;generalize w2.heap.size=pb at *;clear G aJ;obtain⟨wd,r⟩:=e! (World.drew w3);have DX:=h! (show Ext w3 wd from xd! r);have DN:=h! (az.out.ext DX.out);have DT:=h! (Y.out.below DX.out);have DP:=h! (ay.out.below DX.out);refine av! (fun j=>decide (8<=j)) (Ext wd) (by rw[<-r];exact Ext.refl _) (by kernel_rfl) (by kernel_rfl) (fun _ _ d _ _ h=>by cases d <;> exact h) ?_;rw[<-r];clear r az Y ay DX;have h1:=fun W (hW:Ext wd W)=>(DN.out.box.below hW).cells;have h2:=fun W (hW:Ext wd W)=>(DT.out.below hW).cells;have h3:=fun W (hW:Ext wd W)=>(DP.out.below hW).cells;(refine WalkS.tk [0,1,2,3,4,5,6] ?_;(iterate 7 (refine z! ?_));refine TkS.n ?_)
    clear h1 h2 h3;refine oS! 7 ?_;refine b! ?_;intro K hK;go_simp;refine hK.out _ _ (Ext.alloc _ _) ?_;clear hK;refine WalkS.rest (by kernel_rfl) ?_;have EX:=h! (Ext.alloc wd (.cells #[.string st,.string si,.string sr] 33));have EL:=h! (Blk.made wd #[.string st,.string si,.string sr] 33);obtain⟨we,L⟩:=e! (wd.alloc (.cells #[.string st,.string si,.string sr] 33));rw[<-L]at EX EL ⊢;clear L;have EN:=h! (DN.out.ext EX.out);obtain⟨aE,c1,b5,v,a9,R,a3,aw,F⟩:=EN.out.subs.entry jN! if! Tryz.underlying145 Tryz.zeroValue42 (dO! ⟨ot,oi,a⟩ I.out.1);have p:=a9 _ rfl;unfold pV at p;dsimp only at p;have X:=aN.out;have aK:(ai! T ⟨ot,oi,a⟩).length<=T.length:=by unfold ai!;rw[x1!];exact x8! _ _
    have H:=h! (show(subE.enc ⟨st,si,sr⟩).length=3/\(List.flatMap subE.enc (ai! T ⟨ot,oi,a⟩)).length<=3000000 from⟨rfl,by rw[ef!];show _*3<=_;omega⟩);have ag:Hid (wd.heap.size≠w.heap.size):=h! (fun e=>EN.out.subs.notCells _ _ _ (e▸EL.out));clear X aK a9;refine ob! 8 ?_;intro K hK;go_simp;refine hK.out _ _ trivial ?_;clear hK p;(refine WalkN.tk [9,11] ?_;(iterate 2 (refine c! ?_));refine TkN.n ?_)
    refine ob! 10 ?_;intro K hK;refine aP! subsT (.tmp 37) (.tmp 40) rfl rfl a3 (m:=1) (news:=subE.enc ⟨st,si,sr⟩) rfl rfl (fun j u hu=>?_) (fun u hu=>jQ! _ u hu) (by have:=H.out.1;have:=H.out.2;omega) (by have:=H.out.1;have:=H.out.2;omega) (by rw[aD!];exact EN.out.low.size) (fun v2 w9 hown9 hwh9 hg9=>?_)
    ·rw[Addr.add_lit,Nat.zero_add,show(setBlock we w.heap.size (.map aE c1)).cell? _=we.cell? _ from World.cell?_of_block (ax! we _ _ _ ag.out),EL.out.cells];simpa [subE,pC] using hu
    refine hK.out _ _ trivial ?_;clear hK;simp only[Act.put,pA,pZ,pS];obtain⟨wa,f,a4,ah⟩:=F w9 v2 ⟨st,si,sr⟩ hg9 (by rw[x9!,y5!,List.flatMap_nil,List.append_nil];exact hown9) hwh9;unfold goInt at f;have OA:=nh! hg9 ah;have AN:=h! (EN.out.sub (t:=⟨⟨ot,oi,a⟩,⟨st,si,sr⟩⟩) R OA a4);have AT:=h! (OA.blk R (DT.out.below EX.out) (by decide) (fun e=>EN.out.subs.notCells _ _ _ (e▸DT.out.below EX.out)));have AP:=h! (OA.blk R (DP.out.below EX.out) (by decide) (fun e=>EN.out.subs.notCells _ _ _ (e▸DP.out.below EX.out)));clear hown9 hwh9 hg9 a4 ah OA F R a3 aw EN EL EX DN DT DP H ag;refine ob! 12 ?_;intro K hK;go_simp;refine hK.out _ _ trivial ?_;clear hK f;refine d! ?_;generalize wd.heap.size=nwd at *;clear we wd w9;go_wp2_with fail
    obtain⟨wd,r⟩:=e! (World.drew wa);have DX:=h! (show Ext wa wd from xd! r);have DN:=h! (AN.out.ext DX.out);have DT:=h! (AT.out.below DX.out);have DP:=h! (AP.out.below DX.out);refine av! (fun j=>decide (8<=j)) (Ext wd) (by rw[<-r];exact Ext.refl _) (by kernel_rfl) (by kernel_rfl) (fun _ _ d _ _ h=>by cases d <;> exact h) ?_;rw[<-r];clear r AN AT AP DX;have h1:=fun W (hW:Ext wd W)=>(DN.out.box.below hW).cells;have h2:=fun W (hW:Ext wd W)=>(DT.out.below hW).cells;have h3:=fun W (hW:Ext wd W)=>(DP.out.below hW).cells;(refine WalkS.tk [0,1,2,3,4,5,6] ?_;(iterate 7 (refine z! ?_));refine TkS.n ?_)
    clear h1 h2 h3;refine oS! 7 ?_;refine b! ?_;intro K hK;go_simp;refine hK.out _ _ (Ext.alloc _ _) ?_;clear hK;refine WalkS.rest (by kernel_rfl) ?_;have EX:=h! (Ext.alloc wd (.cells #[.string ot,.string oi,.string a] 32));have EL:=h! (Blk.made wd #[.string ot,.string oi,.string a] 32);obtain⟨we,L⟩:=e! (wd.alloc (.cells #[.string ot,.string oi,.string a] 32));rw[<-L]at EX EL ⊢;clear L;have EN:=h! (DN.out.ext EX.out);obtain⟨aE,c1,b5,v,a9,R,a3,aw,F⟩:=EN.out.pnts.entry subK if! Tryz.underlying146 Tryz.zeroValue59 (mO! ⟨st,si,sr⟩ I.out.2);have p:=a9 _ rfl;unfold pV at p;dsimp only at p;have X:=aN.out;have aK:(aT! T ⟨st,si,sr⟩).length<=T.length:=by unfold aT!;rw[x1!];exact x8! _ _
    have H:=h! (show(pntE.enc ⟨ot,oi,a⟩).length=3/\(List.flatMap pntE.enc (aT! T ⟨st,si,sr⟩)).length<=3000000 from⟨rfl,by rw[ef!];show _*3<=_;omega⟩);have ag:Hid (wd.heap.size≠m2):=h! (fun e=>EN.out.pnts.notCells _ _ _ (e▸EL.out));clear X aK a9;refine ob! 8 ?_;intro K hK;go_simp;refine hK.out _ _ trivial ?_;clear hK p;(refine WalkN.tk [9,11] ?_;(iterate 2 (refine c! ?_));refine TkN.n ?_)
    refine ob! 10 ?_;intro K hK;refine aP! kG! (.tmp 50) (.tmp 52) rfl rfl a3 (m:=1) (news:=pntE.enc ⟨ot,oi,a⟩) rfl rfl (fun j u hu=>?_) (fun u hu=>jQ! _ u hu) (by have:=H.out.1;have:=H.out.2;omega) (by have:=H.out.1;have:=H.out.2;omega) (by rw[aD!];exact EN.out.low.size) (fun v2 w9 hown9 hwh9 hg9=>?_)
    ·rw[Addr.add_lit,Nat.zero_add,show(setBlock we m2 (.map aE c1)).cell? _=we.cell? _ from World.cell?_of_block (ax! we _ _ _ ag.out),EL.out.cells];simpa [pntE,pC] using hu
    refine hK.out _ _ trivial ?_;clear hK;simp only[Act.put,pA,pZ,pS];obtain⟨wb,f,a4,ah⟩:=F w9 v2 ⟨ot,oi,a⟩ hg9 (by rw[x9!,y5!,List.flatMap_nil,List.append_nil];exact hown9) hwh9;unfold goInt at f;have OA:=nh! hg9 ah;have BN:=h! (EN.out.pnt (t:=⟨⟨ot,oi,a⟩,⟨st,si,sr⟩⟩) R OA a4);have BT:=h! (OA.blk R (DT.out.below EX.out) (by decide) (fun e=>EN.out.pnts.notCells _ _ _ (e▸DT.out.below EX.out)));clear hown9 hwh9 hg9 a4 ah OA F R a3 aw EN EL EX DN DT DP H ag;refine ob! 12 ?_;intro K hK;go_simp;refine hK.out _ _ trivial ?_;clear hK f;refine d! ?_;generalize wd.heap.size=nwd at *;clear we wd w9;have bt:=BT.out.cells;go_wp2_with fail
    clear bt;go_loopw [62] (fun jj wr=>∃(j:Nat) (lb:OL),j<=2/\jj= .int .i64 j/\NbI w wr bc w.heap.size m2 m3 lb (T++[⟨⟨ot,oi,a⟩,⟨st,si,sr⟩⟩]) (T++[⟨⟨ot,oi,a⟩,⟨st,si,sr⟩⟩]) (.slice (some ⟨g,0,none⟩) s.length c7) s/\What lb (ObjJ T ⟨⟨ot,oi,a⟩,⟨st,si,sr⟩⟩ j)) (fun jj _=>2-(intOf jj).toNat)
    case atStart=>exact⟨0,lb,by omega,rfl,BN.out,aa.out.congr fun o=>(cH! T _ o).2.2.1.symm⟩
    case round =>
     obtain⟨j,a1,hj,rfl,ac,b2⟩:=hrel;have JN:=h! ac;have JW:=h! b2;clear ac b2 BN aa BT;by_cases hlt:j<2
     ·obtain⟨o,hok,aZ,Q⟩:∃o:O2,o.Ok/\(∀W,(Instr.index 156 (.agg #[.string ot,.string oi,.string st,.string si]) (.int .i64 j)).run prog W= .ok (.agg #[.string o.t,.string o.i]) W)/\∀y,ObjJ T ⟨⟨ot,oi,a⟩,⟨st,si,sr⟩⟩ (j+1) y↔ObjJ T ⟨⟨ot,oi,a⟩,⟨st,si,sr⟩⟩ j y\/y=o:=by
       have:j=0\/j=1:=by omega
       rcases this with rfl | rfl
       ·exact⟨⟨ot,oi⟩,⟨I.out.1.1,I.out.1.2.1⟩,fun W=>(kJ! ot oi st si W).1,fun y=>(cH! T _ y).1⟩
       ·exact⟨⟨st,si⟩,⟨I.out.2.1,I.out.2.2.1⟩,fun W=>(kJ! ot oi st si W).2,fun y=>(cH! T _ y).2.1⟩
      obtain⟨o1,o2⟩:=o;have au:=h! hok;have b4:=h! Q;have b3:=h! (show wrap64 ((j:Int)+1)=((j+1:Nat):Int)from by unfold wrap64;omega);have aQ:=h! hlt;have aO:(j:Int)<2:=by omega
      dsimp only at aZ;clear hok Q hlt;go_wp2_with fail
      clear aZ aO;obtain⟨wd,r⟩:=e! (World.drew (wr.alloc (.cells #[.string o1,.string o2] 30)));have QX:Ext wr wd:=by rw[r];exact(Ext.alloc _ _).trans (Ext.drew _)
      have QN:=h! (JN.out.ext QX);have QO:=h! (show Blk wd wr.heap.size #[.string o1,.string o2] 30 from by rw[r];exact(Blk.made wr _ _).drew);refine re! r ?_;clear r QX JN;generalize wr.heap.size=ob at *;have h1:=fun W (hW:Ext wd W)=>(QN.out.box.below hW).cells;have h2:=fun W (hW:Ext wd W)=>(QO.out.below hW).cells;have h3:=fun W (hW:Ext wd W)=>(QN.out.ext hW).objs.look strK by! Tryz.underlying147 (Tryz.zeroValue157 W) (cx! o1 au.out.1);have h4:=lM!;(refine WalkN.tk [0,1,2,3,4,5,6,7] ?_;(iterate 8 (refine c! ?_));refine TkN.n ?_)
      refine d! ?_;clear h1 h2 h3 h4;rcases E:lookA a1 o1 with _ | ⟨bi,ss⟩
      case' none =>
       have aj:(mOG a1 o1).isNone=true:=by unfold mOG;rw[E];rfl
       rw[aj];go_wp2_with fail
       obtain⟨wq,M⟩:=e! (World.drew wd);have QX:Ext wd wq:=xd! M
       have PN:=h! (QN.out.ext QX);have PO:=h! (QO.out.below QX);refine ah! 7 (Ext wq) (by rw[<-M];exact Ext.refl _) (by kernel_rfl) (by kernel_rfl) (fun _ _ d _ _ h=>by cases d <;> exact h) ?_;rw[<-M];clear M QX QN QO;have h1:=fun W (hW:Ext wq W)=>(PN.out.box.below hW).cells;have h2:=fun W (hW:Ext wq W)=>(PO.out.below hW).cells;(refine WalkL.tk [0,1,2,3,4,5] ?_;(iterate 6 (refine l! ?_));refine TkL.n ?_)
       clear h1 h2;refine oL! 6 ?_;refine b! ?_;intro K hK;go_simp;refine hK.out _ _ (Ext.alloc _ _) ?_;clear hK;obtain⟨we,L⟩:=e! (wq.alloc (.map #[] 0));have EX:Ext wq we:=xa! L
       have EN:=h! (PN.out.ext EX);have EO:=h! (PO.out.below EX);have EM:=h! (show Mp prog 30 oV bV we wq.heap.size (blG [])from by rw[L];exact Mp.made _);have EF:Hid (wq.heap.size∉nBG m3 a1/\wq.heap.size≠w.heap.size/\wq.heap.size≠m2):=h! ⟨fun h=>Nat.lt_irrefl _ (PN.out.objs.lt _ h),fun h=>Nat.lt_irrefl _ (h▸PN.out.subs.lt),fun h=>Nat.lt_irrefl _ (h▸PN.out.pnts.lt)⟩;have EB:=h! PN.out.low.size;rw[<-L];clear L EX PN PO;generalize wq.heap.size=bn at *;obtain⟨wf,f,Z,N⟩:=EN.out.objs.top.store strK by! Tryz.underlying147 (cx! o1 au.out.1) (bn,[]);have RN:=h! (EN.out.obj N (by simp[nBG]) (EN.out.objs.fresh E EM.out EF.out.1 N Z) (fun x hx=>(eW! E x hx).imp id fun e=>by subst e;exact⟨EB.out,EF.out.2.1,EF.out.2.2⟩));have RO:=h! (N.kept.blk EO.out fun e=>EN.out.objs.notBlk EO.out (by rw[e];simp[nBG]));have RW:=h! (JW.out.fresh E bn);have RL:Hid (lookA (putA a1 o1 (bn,[])) o1=some (bn,[])):=h! (by rw[cu!,if_pos rfl]);clear Z N EN EO EM EF EB;refine WalkL.last (by kernel_rfl) (by kernel_rfl) ?_;refine b! ?_;intro K hK;go_simp;refine hK.out _ _ ?_;clear hK f E aj;have RF:Hid (∃J bi ss,lookA J o1=some (bi,ss)/\NbI w wf bc w.heap.size m2 m3 J (T++[⟨⟨ot,oi,a⟩,⟨st,si,sr⟩⟩]) (T++[⟨⟨ot,oi,a⟩,⟨st,si,sr⟩⟩]) (.slice (some ⟨g,0,none⟩) s.length c7) s/\Blk wf ob #[.string o1,.string o2] 30/\What J (ObjJ T ⟨⟨ot,oi,a⟩,⟨st,si,sr⟩⟩ j)):=h! ⟨_,_,_,RL.out,RN.out,RO.out,RW.out⟩;clear RL RN RO RW JW;go_wp2_with fail
       clear wd wq we;generalize wf=wx at *
      case' some =>
       have aj:(mOG a1 o1).isNone=false:=by unfold mOG;rw[E];rfl
       rw[aj];have RF:Hid (∃J bi ss,lookA J o1=some (bi,ss)/\NbI w wd bc w.heap.size m2 m3 J (T++[⟨⟨ot,oi,a⟩,⟨st,si,sr⟩⟩]) (T++[⟨⟨ot,oi,a⟩,⟨st,si,sr⟩⟩]) (.slice (some ⟨g,0,none⟩) s.length c7) s/\Blk wd ob #[.string o1,.string o2] 30/\What J (ObjJ T ⟨⟨ot,oi,a⟩,⟨st,si,sr⟩⟩ j)):=h! ⟨_,_,_,E,QN.out,QO.out,JW.out⟩;clear QN QO JW E;go_wp2_with fail
       generalize wd=wx at *
      all_goals
       obtain⟨J,bi,ss,E,aW,aY,G⟩:=RF.out;have SW:=h! G;have SL:=h! E;obtain⟨wq,M⟩:=e! (World.drew wx);have QX:Ext wx wq:=xd! M
       have PN:=h! (aW.ext QX);have PO:=h! (aY.below QX);refine ah! 8 (Ext wq) (by rw[<-M];exact Ext.refl _) (by kernel_rfl) (by kernel_rfl) (fun _ _ d _ _ h=>by cases d <;> exact h) ?_;rw[<-M];clear M QX aW aY G RF;have h1:=fun W (hW:Ext wq W)=>(PN.out.box.below hW).cells;have h2:=fun W (hW:Ext wq W)=>(PO.out.below hW).cells
       have h3:=fun W (hW:Ext wq W)=>show(Instr.lookup 147 (.map (some m3)) (.string o1) false).run prog W= .ok (.map (some bi)) W from by
        have:=(PN.out.ext hW).objs.look strK by! Tryz.underlying147 (Tryz.zeroValue157 W) (cx! o1 au.out.1);rwa[show mOG J o1=some bi from by unfold mOG;rw[SL.out];rfl]at this
       clear E;(refine WalkL.tk [0,1,2,3,4,5,6,7] ?_;(iterate 8 (refine l! ?_));refine TkL.n ?_)
       clear h1 h2 h3;obtain⟨wf,f,Z,N⟩:=(PN.out.objs.inner _ (aB! SL.out)).store objK nU! Tryz.underlying157 (nj! ⟨o1,o2⟩ au.out) true;rw[na!]at Z;dsimp only at f N Z;have aV:bi∈nBG m3 J:=u9! _ (u6!.2 ⟨_,aB! SL.out,rfl⟩);have RN:=h! (PN.out.obj N aV (PN.out.objs.mark SL.out N Z) (fun x hx => .inl (by rw[fB! SL.out]at hx;exact hx)));have RW:=h! ((What.mark (q:=⟨o1,o2⟩) SW.out SL.out).congr fun y=>(b4.out y).symm);clear Z N aV PN PO SW SL;unfold oV bV at f;dsimp only at f;refine WalkL.last (by kernel_rfl) (by kernel_rfl) ?_;refine b! ?_;intro K hK;go_simp;refine hK.out _ _ ?_;clear hK f;go_wp2_with fail
       go_roundw
       case rel=>exact⟨j+1,_,by have:=aQ.out;omega,by first | rw[b3.out] | go_num,RN.out,RW.out⟩
       case measure=>have:=aQ.out;(try rw[b3.out]);simp[intOf];omega
     ·obtain rfl:j=2:=by omega
      have JJ:=h! (JW.out.congr fun o=>(cH! T _ o).2.2.2);have aO:¬ (((2:Nat):Int)<2):=by omega
      clear JW hlt;go_wp2_with fail
      go_roundw
      case rel=>exact⟨i+1,a1,by have:=al.out;omega,by rw[an.out],by rw[ae.out];exact JN.out,by rw[ae.out];exact JJ.out⟩
      case measure=>have:=al.out;rw[an.out];simp[intOf];omega
  ·obtain rfl:i=s.length:=by omega
   rw[u2!]at A aa;go_wp2_with fail
   go_ret
   exact⟨bc,_,rfl,aF.out,⟨w.heap.size,w.heap.size,m2,m3,lb,A.out.box,A.out.subs,A.out.pnts,A.out.objs,A.out.ne,aa.out⟩,A.out.low⟩
end Go.Proofs.YtlhaghoajpglaaaGreat
namespace Go.Proofs.YtlhaghoajpglaaaGreat
open Go Go.RowKit Go.Maps Go.Proofs.Tryz
theorem kx! {l T:List Tup}(hT:SetT l T)(v:Value)(w:World)(h:Sl (· < w.heap.size) w 6 v (tuCs l))(hl:l.length<=1000000)(hok:∀t∈l,t.Ok) :
  Calls prog 20 #[v] w fun e w'=>∃b,e= .returned (.pointer (some ⟨b,0,none⟩))/\of! w' b T/\Ext w w':=by
 refine(ct! l v w h hl hok).mono ?_;rintro e w' ⟨b,U,rfl,hU,hb,hx⟩;obtain rfl:=hT.uniq hU;exact⟨b,rfl,hb,hx⟩
theorem fW!:∀n∈relNs,ownB n=true/\n≠(⟨#[116,121,112,101]⟩:ByteArray)/\n.size<=6:=by
 intro n hn;have h:(relNs.all fun n=>ownB n&&decide (n≠(⟨#[116,121,112,101]⟩:ByteArray))&&decide (n.size<=6))=true:=by kernel_rfl
 have:=u8!.1 h n hn;simp only[v0!,u1!]at this;exact⟨this.1.1,this.1.2,this.2⟩
theorem nK!:∀n∈tyNs,ownB n=true/\n.size<=6:=by
 intro n hn;have h:(tyNs.all fun n=>ownB n&&decide (n.size<=6))=true:=by kernel_rfl
 have:=u8!.1 h n hn;simp only[v0!,u1!]at this;exact this
theorem rel_nodup:relNs.Nodup:=of_decide_eq_true (by kernel_rfl)
theorem ty_nodup:tyNs.Nodup:=of_decide_eq_true (by kernel_rfl)
structure oj! (ts:List TyS)(t:TyS)(d n m:Nat)(r:RT):Prop where
 text:∀k,k+d<=8->r.textOk k=true
 sz:r.sz<=n
 bk:r.bk<=m
 ok:r.Ok
 named:r.named ts t=true
theorem eC! {α:Type}(f:α->Nat)(D:Nat):∀l:List α,(∀x∈l,f x<=D)->sumN f l<=l.length*D
 | [],_=>by simp[sumN]
 | a::l,h=>by
  rw[sumN,u7!,Nat.add_mul,Nat.one_mul];have:=eC! f D l fun x hx=>h x (u9! _ hx);have:=h a y4!;omega
theorem mN! (l:List RT):szL l=sumN RT.sz l:=by
 induction l with
 | nil=>rfl
 | cons x l ih=>rw[szL,sumN,ih]
theorem oj!.leaf {ts:List TyS}{t:TyS}{own:List ByteArray}(hs:∀n∈own,n∈relNs)(hh:∀n∈own,hasT t n=true)(ha:∀n∈relNs.take 2,anyT ts n=true)(d:Nat) {r:RT}(h:ol! own r):oj! ts t d 1 17 r:=by
 have c:(⟨#[]⟩:ByteArray).size=0:=rfl;rcases h with rfl | ⟨a,h1,rfl⟩|⟨a,h1,b,h2,rfl⟩
 ·refine⟨fun k _=>?_,?_,?_,?_,?_⟩
  ·rw[RT.textOk];rfl
  ·rw[RT.sz];simp[szL]
  ·rw[RT.bk,bkL,c];omega
  ·rw[RT.Ok,okL,c];exact⟨by omega,by omega,by omega,trivial⟩
  ·rw[RT.named];simp[fz!,fC!]
 ·obtain⟨o1,o2,o3⟩:=fW! a (hs a h1);refine⟨fun k _=>?_,?_,?_,?_,?_⟩
  ·rw[RT.textOk,if_neg (by decide),if_pos rfl,o1];rfl
  ·rw[RT.sz];simp[szL]
  ·rw[RT.bk,bkL,c];omega
  ·rw[RT.Ok,okL,c];exact⟨by omega,by omega,by omega,trivial⟩
  ·rw[RT.named];simp[fz!,fC!,hh a h1]
 ·obtain⟨o1,o2,o3⟩:=fW! a (hs a h1);obtain⟨p1,p2,p3⟩:=fW! b (List.take_subset 2 relNs h2);refine⟨fun k _=>?_,?_,?_,?_,?_⟩
  ·rw[RT.textOk,if_neg (by decide),if_neg (by decide),if_pos rfl,o1,p1];rfl
  ·rw[RT.sz];simp[szL]
  ·rw[RT.bk,bkL];omega
  ·rw[RT.Ok,okL];exact⟨by omega,by omega,by omega,trivial⟩
  ·rw[RT.named];simp[fz!,fC!,hh a h1,ha b h2]
theorem oj!.group {ts:List TyS}{t:TyS}{d n m:Nat}{k:Int}(hk:k=4\/k=5) {ps:List RT}(hl:2<=ps.length/\ps.length<=3)(h:∀p∈ps,oj! ts t d n m p/\p.k≠k):oj! ts t (d+1) (1+3*n) (5+3*m) (.mk k ⟨#[]⟩ ⟨#[]⟩ ps):=by
 refine⟨fun j hj=>?_,?_,?_,?_,?_⟩
 ·rw[RT.textOk,if_neg (by omega),if_neg (by omega),if_neg (by omega),if_pos hk,v2! hl.1,be!]
  have:ps.all (goodP k j)=true:=u8!.2 fun p hp=>by
   have hi:bv! k p.k j<=j+1:=by unfold bv!;split <;> omega
   unfold goodP;rw[v2! (h p hp).2,v2! (show bv! k p.k j<=8 by omega),(h p hp).1.text _ (by omega)];rfl
  rw[this];rfl
 ·rw[RT.sz,mN!];have:=eC! RT.sz n ps fun p hp=>(h p hp).1.sz;have:=y7! n hl.2;omega
 ·rw[RT.bk,nF!];have:=eC! RT.bk m ps fun p hp=>(h p hp).1.bk;have:=y7! m hl.2;have h0:(⟨#[]⟩:ByteArray).size=0:=rfl;omega
 ·rw[RT.Ok];have h0:(⟨#[]⟩:ByteArray).size=0:=rfl;exact⟨by omega,by omega,by omega,gc!.2 fun p hp=>(h p hp).1.ok⟩
 ·rw[RT.named,dV!]
  have h1:fC! ts t k ⟨#[]⟩ ⟨#[]⟩=true:=by
   unfold fC!;rcases hk with rfl | rfl <;> rfl
  rw[h1,Bool.true_and];exact u8!.2 fun p hp=>(h p hp).1.named
theorem oj!.mono {ts:List TyS}{t:TyS}{d n m d' n' m':Nat}{r:RT}(h:oj! ts t d n m r)(hd:d<=d')(hn:n<=n')(hm:m<=m'):oj! ts t d' n' m' r:=⟨fun k hk=>h.text k (by omega),n6! h.sz hn,n6! h.bk hm,h.ok,h.named⟩
section
variable {ts : List TyS} {t : TyS} {own : List ByteArray} (hs : ∀n ∈ own, n ∈ relNs) (hh : ∀n ∈ own, hasT t n = true) (ha : ∀n ∈ relNs.take 2, anyT ts n = true)
include hs hh ha
theorem ok!.fine0 {r:RT}(h:ok! own 0 r):oj! ts t 0 1 17 r:=oj!.leaf hs hh ha 0 h
theorem ok!.fine1 {r:RT}(h:ok! own 1 r):oj! ts t 1 4 56 r:=by
 rcases h with h | ⟨k,ps,rfl,hk,hl,hp⟩
 ·exact(oj!.leaf hs hh ha 1 h).mono (by omega) (by omega) (by omega)
 ·exact(oj!.group hk (by omega) fun p hx=>⟨ok!.fine0 hs hh ha (hp p hx).1,(hp p hx).2⟩).mono (by omega) (by omega) (by omega)
theorem ok!.fine2 {r:RT}(h:ok! own 2 r):oj! ts t 2 13 173 r:=by
 rcases h with h | ⟨k,ps,rfl,hk,hl,hp⟩
 ·exact(oj!.leaf hs hh ha 2 h).mono (by omega) (by omega) (by omega)
 ·exact(oj!.group hk (by omega) fun p hx=>⟨ok!.fine1 hs hh ha (hp p hx).1,(hp p hx).2⟩).mono (by omega) (by omega) (by omega)
theorem TopR.fine {r:RT}(h:TopR own r):oj! ts t 3 32 524 r/\r.sz<=15:=by
 rcases h with h | ⟨r0,h0,hk,rfl⟩
 ·have:=ok!.fine2 hs hh ha h;exact⟨this.mono (by omega) (by omega) (by omega),n6! this.sz (by omega)⟩
 ·have h2:=ok!.fine2 hs hh ha h0;have h1:=(oj!.leaf hs hh ha 2 (r := .mk 1 ⟨#[]⟩ ⟨#[]⟩ []) (.inl rfl))
  have a:(RT.mk 4 ⟨#[]⟩ ⟨#[]⟩ [.mk 1 ⟨#[]⟩ ⟨#[]⟩ [],r0]).sz<=15:=by
   rw[RT.sz,szL,szL,szL];have:=h1.sz;have:=h2.sz;omega
  have:=oj!.group (ts:=ts) (t:=t) (k:=4) (.inl rfl) (ps:=[.mk 1 ⟨#[]⟩ ⟨#[]⟩ [],r0]) (by simp) (d:=2) (n:=13) (m:=173) fun p hp=>by
   simp only[v7!,List.not_mem_nil,or_false]at hp;rcases hp with rfl | rfl
   ·exact⟨h1.mono (by omega) (by omega) (by omega),by simp[RT.k]⟩
   ·exact⟨h2,hk⟩
  exact⟨⟨this.text,n6! a (by omega),n6! this.bk (by omega),this.ok,this.named⟩,a⟩
end
structure FineS (ts:List TyS):Prop where
 chk:chk06 ts=0
 ok:∀t∈ts,t.Ok
 bk:schBk ts<=10000
 two:2<=ts.length/\ts.length<=3
 rels:∀t∈ts,2<=t.rels.length/\t.rels.length<=4
theorem GoodS.fine {ts:List TyS}(h:GoodS ts):FineS ts:=by
 obtain⟨hl,l,hg⟩:=h
 have i:∀n∈relNs.take 2,anyT ts n=true:=fun n hn2=>by
  have h0:0<ts.length:=by omega
  obtain⟨m,j,a1,k,_⟩:=hg ts[0] (n5! h0);refine x5!.2 ⟨ts[0],n5! h0,?_⟩
  have:n∈ts[0].rels.map (·.1):=by
   rw[k];exact List.take_subset_take_left relNs j hn2
  obtain⟨x,hx,rfl⟩:=u6!.1 this;exact x5!.2 ⟨x,hx,v2! rfl⟩
 have a:∀t∈ts,(∀n∈t.rels.map (·.1),n∈relNs)/\(t.rels.map (·.1)).Nodup/\(2<=t.rels.length/\t.rels.length<=4)/\∀r∈t.rels,oj! ts t 3 32 524 r.2/\r.2.sz<=15:=fun t ht=>by
  obtain⟨m,j,a1,k,hp⟩:=hg t ht
  have a0:t.rels.length=m:=by
   have:=congrArg List.length k;rw[x1!,x4!]at this;have h4:relNs.length=4:=rfl;omega
  refine⟨fun n l=>by rw[k]at l;exact List.take_subset m relNs l,by rw[k];exact rel_nodup.sublist (List.take_sublist m relNs),by omega,fun r hr'=>?_⟩;refine TopR.fine (own:=relNs.take m) (fun n l=>List.take_subset m relNs l) (fun n l=>?_) i (hp r hr');rw[<-k]at l;obtain⟨x,hx,rfl⟩:=u6!.1 l;exact x5!.2 ⟨x,hx,v2! rfl⟩
 have g:∀t∈ts,ownB t.name=true/\t.name.size<=6:=fun t ht=>nK! _ (by
  have:t.name∈ts.map (·.name):=List.mem_map_of_mem ht;rw[l]at this;exact List.take_subset _ _ this)
 have f:∀t∈ts,∀r∈t.rels,ownB r.1=true/\r.1≠(⟨#[116,121,112,101]⟩:ByteArray)/\r.1.size<=6:=fun t ht r k=>fW! _ ((a t ht).1 _ (List.mem_map_of_mem k))
 have c:bj! ts=true:=u8!.2 fun t ht=>by
  unfold tyOk;rw[(g t ht).1,Bool.true_and];refine u8!.2 fun r k=>?_;unfold relOk;rw[((a t ht).2.2.2 r k).1.text 0 (by omega),(f t ht r k).1,v2! (f t ht r k).2.1];rfl
 have d:cc! ts=true:=by
  unfold cc!;rw[v2! (show ts.length<=16 by omega),Bool.true_and];refine u8!.2 fun t ht=>?_;unfold bx!;rw[v2! (show t.rels.length<=16 by have:=(a t ht).2.2.1.2;omega),Bool.true_and];exact u8!.2 fun r k=>v2! ((a t ht).2.2.2 r k).1.sz
 have e:aK! ts=true:=by
  unfold aK!;rw[l,v2! (ty_nodup.sublist (List.take_sublist _ _)),Bool.true_and];exact u8!.2 fun t ht=>v2! (a t ht).2.1
 have b:bZ! ts=true:=by
  unfold bZ!;exact u8!.2 fun t ht=>u8!.2 fun r k=>((a t ht).2.2.2 r k).1.named
 refine⟨by unfold chk06;rw[c,d,e,b];rfl,fun t ht=>⟨by have:=(g t ht).2;omega,fun r k=>⟨by have:=(f t ht r k).2.2;omega,((a t ht).2.2.2 r k).1.ok⟩⟩,?_,by omega,fun t ht=>(a t ht).2.2.1⟩;unfold schBk
 have h1:=eC! tyBk 2136 ts fun t ht=>by
  rw[fQ!]
  have:=eC! relBk 532 t.rels fun r k=>by
   rw[dK!];have:=(f t ht r k).2.2;have:=((a t ht).2.2.2 r k).1.bk;omega
  have:=(a t ht).2.2.1.2;have:=(g t ht).2;have:=y7! 532 (a t ht).2.2.1.2;omega
 have:=y7! 2136 (show ts.length<=3 by omega);omega
end Go.Proofs.YtlhaghoajpglaaaGreat
