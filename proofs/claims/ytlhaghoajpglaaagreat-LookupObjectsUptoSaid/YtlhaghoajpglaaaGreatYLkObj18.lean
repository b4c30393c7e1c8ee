/- Lemmas for the claim, no condition. -/
import Derived.Test.YtlhaghoajpglaaaGreatYLkObj17
import Derived.Deep.RegionHeld
set_option maxRecDepth 100000
set_option maxHeartbeats 8000000
namespace Go.Proofs.YtlhaghoajpglaaaGreat
open Go Go.Maps Go.RowKit Go.Proofs.Tryz
theorem pc! (bs:List Bool)(iv:Value)(b:Nat)(x:Int)(w:World)(hb:Blk w b #[iv] 74)(hi:Sl (· < w.heap.size) w 1 iv (boC bs)) :
  Calls prog 255 (#[.int .i64 x]++#[.pointer (some ⟨b,0,none⟩)]) w fun e w'=>e= .returned (.bool (inAt bs x))/\Below w.heap.size w w':=by
 obtain⟨ai,ci,rfl,c,a,f⟩:=dV! hi;have hB:=hb.cells;clear hi;rw[show(#[.int .i64 x]++#[.pointer (some ⟨b,0,none⟩)]:Array Value)=#[.int .i64 x,.pointer (some ⟨b,0,none⟩)]from rfl];go_enter func255,ntmps255
 by_cases h0:0<=x
 ·obtain⟨m,rfl⟩:=Int.eq_ofNat_of_zero_le h0;by_cases hm:m<bs.length
  ·obtain⟨bb,bo,rfl,-,a1⟩:=f m hm
   have d:=h! (show inAt bs (m:Int)=bs[m]from by
    unfold inAt;rw[Int.toNat_natCast,n8!,n4! hm];simp)
   have a0:(m:Int)<(bs.length:Int):=by omega
   generalize bs[m]=y at *;clear hm f c a;go_wp2_with fail
   go_ret
   exact⟨by rw[d.out];try rfl,Below.refl _ _⟩
  ·have a0:¬ (m:Int)<(bs.length:Int):=by omega
   have d:=h! (show inAt bs (m:Int)=false from by
    unfold inAt;rw[Int.toNat_natCast,n8!,y0! (by omega)];simp)
   clear hm f c a;go_wp2_with fail
   go_ret
   exact⟨by rw[d.out];try rfl,Below.refl _ _⟩
 ·have d:=h! (show inAt bs x=false from by unfold inAt;simp[h0]);clear f c a;go_wp2_with fail
  go_ret
  exact⟨by rw[d.out];try rfl,Below.refl _ _⟩
theorem iG! (bs:List Bool)(r:FT)(iv:Value)(v:FV3)(b c:Nat)(w:World)(hf:Blk w b #[.int .i64 r.k,v.1,v.2.1,v.2.2] 128)(hb:Blk w c #[iv] 74)(hat:FTAt (· < w.heap.size) w r v)(hi:Sl (· < w.heap.size) w 1 iv (boC bs)) :
  Calls prog 253 #[.pointer (some ⟨b,0,none⟩),.pointer (some ⟨c,0,none⟩)] w fun e w'=>e= .returned (.bool (r.refs.any (inAt bs)))/\Below w.heap.size w w':=by
 have HC:=h! (eV! w r.refs v.2.1 255 #[.pointer (some ⟨c,0,none⟩)] (enters_of func255 (by kernel_rfl) rfl) (inAt bs) ((FTAt.iff _ _).1 hat).2.1 fun i hi' W hW=>pc! bs iv c _ W (hb.below hW) ((hi.same (Same.below hW)).mono fun _ h=>n1! h hW.size));obtain⟨a1,c1,a2,c2,a4,c4,rfl⟩:=hat.shape;have a0:∀(fn:Fn) (first cap:Array Value) (W:World),(Instr.makeFunc fn first cap).run prog W= .ok (.func fn first cap) W:=fun _ _ _ _=>rfl;have hA:=hf.cells;dsimp only at hA HC;clear hat hi hf hb;go_enter func253,ntmps253
 go_wp2_with fail
 refine HC.out.mono ?_;rintro e w2 ⟨rfl,hb⟩;have HB:=h! hb;clear hA HC hb;go_wp2_with fail
 go_ret
 exact⟨rfl,HB.out⟩
theorem jd! (s:P3)(bs:List Bool)(p:FT)(iv:Value)(v:FV3)(b c:Nat)(w:World)(hs:Blk w b #[.string s.t,.string s.i,.string s.r] 33)(hb:Blk w c #[iv] 74)(hat:FTAt (· < w.heap.size) w p v)(hi:Sl (· < w.heap.size) w 1 iv (boC bs))
  (ih:∀W,Below w.heap.size w W->Calls prog 212 #[fV p v,pV s,iv] W fun e w'=>e= .returned (.bool (holdF s bs p))/\Below W.heap.size W w') :
  Calls prog 256 #[fV p v,.pointer (some ⟨b,0,none⟩),.pointer (some ⟨c,0,none⟩)] w fun e w'=>e= .returned (.bool (holdF s bs p))/\Below w.heap.size w w':=by
 obtain⟨a1,c1,a2,c2,a4,c4,rfl⟩:=hat.shape;obtain⟨ai,ci,rfl,-⟩:=dV! hi;unfold fV pV at ih;unfold fV;dsimp only at ih ⊢;have a:=h! (Ext.alloc w (.cells #[.int .i64 p.k,.slice a1 p.subs.length c1,.slice a2 p.refs.length c2,.slice a4 p.ps.length c4] 128));have HC:=h! (ih _ a.out);have a0:=(Blk.made w #[.int .i64 p.k,.slice a1 p.subs.length c1,.slice a2 p.refs.length c2,.slice a4 p.ps.length c4] 128).cells;have hS:=(hs.below a.out).cells;have hB:=(hb.below a.out).cells;clear hat hi hs hb ih;go_enter func256,ntmps256
 go_wp2_with fail
 refine HC.out.mono ?_;rintro e w2 ⟨rfl,hb⟩;have HB:Hid (Below w.heap.size w w2):=h! (Ext.trans a.out hb);clear a0 hS hB HC hb;go_wp2_with fail
 go_ret
 exact⟨rfl,HB.out⟩
abbrev hvF (b c:Nat):Value := .func (.func 256) #[] #[.pointer (some ⟨b,0,none⟩),.pointer (some ⟨c,0,none⟩)]
theorem jn! (s:P3)(bs:List Bool)(p:FT)(iv:Value)(v:FV3)(b c d:Nat)(w:World)(hs:Blk w b #[.string s.t,.string s.i,.string s.r] 33)(hb:Blk w c #[iv] 74)(hd:Blk w d #[hvF b c] 330)(hat:FTAt (· < w.heap.size) w p v)(hi:Sl (· < w.heap.size) w 1 iv (boC bs))
  (ih:∀W,Below w.heap.size w W->Calls prog 212 #[fV p v,pV s,iv] W fun e w'=>e= .returned (.bool (holdF s bs p))/\Below W.heap.size W w') :
  Calls prog 258 #[fV p v,.pointer (some ⟨d,0,none⟩)] w fun e w'=>e= .returned (.bool (!holdF s bs p))/\Below w.heap.size w w':=by
 have a:=h! (Ext.alloc w (.cells #[.int .i64 p.k,v.1,v.2.1,v.2.2] 128));have f:=h! (jd! s bs p iv v b c _ (hs.below a.out) (hb.below a.out) (hat.up a.out) ((hi.same (Same.below a.out)).mono fun _ h=>n1! h a.out.size) fun W hW=>ih W (Ext.trans a.out hW));obtain⟨a1,c1,a2,c2,a4,c4,rfl⟩:=hat.shape;have a0:=(Blk.made w #[.int .i64 p.k,.slice a1 p.subs.length c1,.slice a2 p.refs.length c2,.slice a4 p.ps.length c4] 128).cells;have hD:=(hd.below a.out).cells;have eg:=enters_of func256 (by kernel_rfl) rfl;unfold fV at f ⊢;dsimp only at f hD ⊢;clear hat hi hs hb hd ih;go_enter func258,ntmps258
 go_wp2_with fail
 refine f.out.mono ?_;rintro e w2 ⟨rfl,hb⟩;have HB:Hid (Below w.heap.size w w2):=h! (Ext.trans a.out hb);clear a0 hD f hb;go_wp2_with fail
 go_ret
 exact⟨rfl,HB.out⟩
theorem jT! (s:P3)(bs:List Bool)(r:FT):∀(iv:Value)(v:FV3)(w:World),FTAt (· < w.heap.size) w r v->Sl (· < w.heap.size) w 1 iv (boC bs) ->
  Calls prog 212 #[fV r v,pV s,iv] w fun e w'=>e= .returned (.bool (holdF s bs r))/\Below w.heap.size w w':=by
 induction r using FT.ind with
 | h r ih =>
 intro iv v w h hi;have H0:=h! h;have I0:=h! hi;have m:=h! ih;obtain⟨H,n,q,L,Q,U,rfl⟩:=h.shape;obtain⟨A,I,rfl,-⟩:=dV! hi;obtain⟨k,subs,refs,a⟩:=r;clear ih h hi;unfold fV pV;dsimp only[FT.k,FT.subs,FT.refs,FT.ps]at m H0 ⊢;obtain⟨o,j⟩:=e! (w.alloc (.cells #[.int .i64 k,.slice H subs.length n,.slice q refs.length L,.slice Q a.length U] 128));obtain⟨B,g⟩:=e! (o.alloc (.cells #[.string s.t,.string s.i,.string s.r] 33));obtain⟨K,f⟩:=e! (B.alloc (.cells #[.slice A bs.length I] 74));obtain⟨C,l⟩:=e! (K.alloc (.cells #[hvF (w.heap.size+1) (w.heap.size+1+1)] 330));have ea:o.heap.size=w.heap.size+1:=by rw[j];simp
 have eb:B.heap.size=w.heap.size+1+1:=by rw[g];simp[ea]
 have ec:K.heap.size=w.heap.size+1+1+1:=by rw[f];simp[eb]
 have xa:Ext w o:=xa! j
 have xb:Ext o B:=xa! g
 have V:Ext B K:=xa! f
 have u:Ext K C:=xa! l
 have O:Hid (Ext w C):=h! (xa.trans (xb.trans (V.trans u)));have BA:=h! (show Blk C w.heap.size #[.int .i64 k,.slice H subs.length n,.slice q refs.length L,.slice Q a.length U] 128 from Blk.below (bm! j) (xb.trans (V.trans u)));have BS:=h! (show Blk C (w.heap.size+1) #[.string s.t,.string s.i,.string s.r] 33 from Blk.below (by rw[g,<-ea];exact Blk.made _ _ _) (V.trans u));have M:=h! (show Blk C (w.heap.size+1+1) #[.slice A bs.length I] 74 from Blk.below (by rw[f,<-eb];exact Blk.made _ _ _) u);have BF:=h! (show Blk C (w.heap.size+1+1+1) #[hvF (w.heap.size+1) (w.heap.size+1+1)] 330 from by rw[l,<-ec];exact Blk.made _ _ _);have D:=h! (H0.out.up O.out);have y:Hid (Sl (· < C.heap.size) C 1 (.slice A bs.length I) (boC bs)):=h! ((I0.out.same (Same.below O.out)).mono fun _ h=>n1! h O.out.size);have b:=h! (bJ! s bs k subs refs a);have a3:∀(fn:Fn) (first cap:Array Value) (W:World),(Instr.makeFunc fn first cap).run prog W= .ok (.func fn first cap) W:=fun _ _ _ _=>rfl;have R:=BA.out.cells;have T:=BS.out.cells;have z:=M.out.cells;have J:=BF.out.cells;have eg:=enters_of func253 (by kernel_rfl) rfl;clear ea eb ec xa xb V u;subst l f g j;by_cases k1:k=1
 case' pos =>
  subst k1;rw[if_pos rfl]at b;have F:=h! (fK! _ subs s _ ((FTAt.iff _ _).1 D.out).1);unfold pV at F;dsimp only at F;go_enter func212,ntmps212
  go_wp2_with fail
  refine F.out.mono ?_;rintro e w5 ⟨rfl,d⟩;have X5:Hid (Below w.heap.size w w5):=h! (Ext.trans O.out d);have E:=h! (iG! bs (.mk 1 subs refs a) (.slice A bs.length I) (.slice H subs.length n,.slice q refs.length L,.slice Q a.length U) w.heap.size (w.heap.size+1+1) w5 (BA.out.below d) (M.out.below d) (D.out.up d) ((y.out.same (Same.below d)).mono fun _ h=>n1! h d.size));dsimp only[FT.refs]at E;clear R T z J F d;by_cases hm:s∈subs
  ·rw[v2! hm]at b ⊢;clear E;go_wp2_with fail
   go_ret
   exact⟨by rw[b.out];rfl,X5.out⟩
  ·rw[v3! hm]at b ⊢;go_wp2_with fail
   refine E.out.mono ?_;rintro e G ⟨rfl,c⟩;have x:Hid (Below w.heap.size w G):=h! (Ext.trans X5.out c);clear E c;go_wp2_with fail
   go_ret
   exact⟨by rw[b.out];rfl,x.out⟩
 case' neg =>
  rw[if_neg k1]at b;have b1:(k == 1)=false:=by rw[n7!];exact k1
  clear k1;have E:=h! (iG! bs (.mk k subs refs a) (.slice A bs.length I) (.slice H subs.length n,.slice q refs.length L,.slice Q a.length U) w.heap.size (w.heap.size+1+1) _ BA.out M.out D.out y.out);dsimp only[FT.refs]at E;by_cases k23:k=2\/k=3
  ·rw[if_pos k23]at b
   have a0:(k == 2)=true\/(k == 2)=false/\(k == 3)=true:=by
    rcases k23 with rfl | rfl <;> simp
   clear k23;rcases a0 with hk | ⟨hk,hk3⟩
   all_goals
    go_enter func212,ntmps212
    go_wp2_with fail
    refine E.out.mono ?_;rintro e G ⟨rfl,c⟩;have x:Hid (Below w.heap.size w G):=h! (Ext.trans O.out c);clear E c R T z J;go_wp2_with fail
    go_ret
    exact⟨by rw[b.out];try rfl,x.out⟩
  ·rw[if_neg k23]at b;have b2:(k == 2)=false:=by rw[n7!];exact fun e=>k23 (.inl e)
   have b3:(k == 3)=false:=by rw[n7!];exact fun e=>k23 (.inr e)
   clear k23 E eg;have HP:=h! (fun i (hi:i<a.length) W (pvi:FV3) (hW:Below _ _ W) (hat:FTAt (· < W.heap.size) W a[i] pvi)=>jd! s bs a[i] (.slice A bs.length I) pvi (w.heap.size+1) (w.heap.size+1+1) W (BS.out.below hW) (M.out.below hW) hat ((y.out.same (Same.below hW)).mono fun _ h=>n1! h hW.size) fun W2 hW2=>m.out a[i] (n5! hi) (.slice A bs.length I) pvi W2 (hat.up hW2) ((y.out.same (Same.below (Ext.trans hW hW2))).mono fun _ h=>n1! h (n6! hW.size hW2.size)));have N:=h! (fun i (hi:i<a.length) W (pvi:FV3) (hW:Below _ _ W) (hat:FTAt (· < W.heap.size) W a[i] pvi)=>jn! s bs a[i] (.slice A bs.length I) pvi (w.heap.size+1) (w.heap.size+1+1) (w.heap.size+1+1+1) W (BS.out.below hW) (M.out.below hW) (BF.out.below hW) hat ((y.out.same (Same.below hW)).mono fun _ h=>n1! h hW.size) fun W2 hW2=>m.out a[i] (n5! hi) (.slice A bs.length I) pvi W2 (hat.up hW2) ((y.out.same (Same.below (Ext.trans hW hW2))).mono fun _ h=>n1! h (n6! hW.size hW2.size)));by_cases k4:k=4
   ·subst k4;rw[if_pos rfl]at b;clear b1 b2 b3 N;have F:=h! (cF! _ a 4 subs refs (.slice H subs.length n,.slice q refs.length L,.slice Q a.length U) 256 #[.pointer (some ⟨w.heap.size+1,0,none⟩),.pointer (some ⟨w.heap.size+1+1,0,none⟩)] (enters_of func256 (by kernel_rfl) rfl) (holdF s bs) D.out HP.out);dsimp only at F;clear HP;go_enter func212,ntmps212
    go_wp2_with fail
    refine F.out.mono ?_;rintro e G ⟨rfl,c⟩;have x:Hid (Below w.heap.size w G):=h! (Ext.trans O.out c);clear F c R T z J;go_wp2_with fail
    go_ret
    exact⟨by rw[b.out];try rfl,x.out⟩
   ·rw[if_neg k4]at b;have b4:(k == 4)=false:=by rw[n7!];exact k4
    clear k4 HP;by_cases k5:k=5
    ·subst k5;rw[if_pos rfl]at b;clear b1 b2 b3 b4;have F:=h! (cF! _ a 5 subs refs (.slice H subs.length n,.slice q refs.length L,.slice Q a.length U) 258 #[.pointer (some ⟨w.heap.size+1+1+1,0,none⟩)] (enters_of func258 (by kernel_rfl) rfl) (fun p=>!holdF s bs p) D.out N.out);dsimp only at F;clear N;go_enter func212,ntmps212
     go_wp2_with fail
     refine F.out.mono ?_;rintro e G ⟨rfl,c⟩;have x:Hid (Below w.heap.size w G):=h! (Ext.trans O.out c);clear F c R T z J;go_wp2_with fail
     go_ret
     exact⟨by rw[b.out,List.all_eq_not_any_not];try rfl,x.out⟩
    ·rw[if_neg k5]at b;have b5:(k == 5)=false:=by rw[n7!];exact k5
     clear k5 N;go_enter func212,ntmps212
     go_wp2_with fail
     go_ret
     exact⟨by rw[b.out];try rfl,O.out⟩
theorem nH!:(prog.info? 3).map (fun i=>(i.zero,i.size,i.bytes))=some (some (.int .i64 0),1,8):=by kernel_rfl
theorem mh!:(prog.info? 4).map (fun i=>(i.zero,i.size,i.bytes))=some (some (.bool false),1,1):=by kernel_rfl
theorem makeI (n:Nat)(h:n<=100000000):∀W,(Instr.makeSlice 107 (.int .i64 (n:Int)) (.int .i64 (n:Int))).run prog W= .ok (.slice (some ⟨W.heap.size,0,none⟩) n n) (W.alloc (.cells (madeCells #[.int .i64 0] n) 3)):=by
 intro W;obtain⟨i,hi,a⟩:=Option.map_eq_some_iff.1 nH!;simp only[Prod.mk.injEq]at a;obtain⟨hz,hs,hb⟩:=a;have:=run_make (P:=prog) W 107 3 i (.int .i64 0) Tryz.underlying107 hi hz .i64 .i64 n n (by omega) (by omega) (by rw[hb];omega) (by omega);rw[this,hs,Nat.mul_one];rfl
theorem makeB (n:Nat)(h:n<=100000000):∀W,(Instr.makeSlice 74 (.int .i64 (n:Int)) (.int .i64 (n:Int))).run prog W= .ok (.slice (some ⟨W.heap.size,0,none⟩) n n) (W.alloc (.cells (madeCells #[.bool false] n) 4)):=by
 intro W;obtain⟨i,hi,a⟩:=Option.map_eq_some_iff.1 mh!;simp only[Prod.mk.injEq]at a;obtain⟨hz,hs,hb⟩:=a;have:=run_make (P:=prog) W 74 4 i (.bool false) Tryz.underlying74 hi hz .i64 .i64 n n (by omega) (by omega) (by rw[hb];omega) (by omega);rw[this,hs,Nat.mul_one];rfl
theorem Own.made1 (w:World)(n:Nat)(h:n<=100000000)(e:TypeId)(z:Value):Own (w.alloc (.cells (madeCells #[z] n) e)) w.heap.size e 1 (.slice (some ⟨w.heap.size,0,none⟩) n n) (List.replicate n z):=by
 refine⟨n,by rw[List.length_replicate];omega,.inr ⟨w.heap.size,n,_,rfl,n0! _,heap_alloc_new w _,n0! _,by unfold maxLen;omega,by rw[size_madeCells];omega,?_⟩⟩;apply List.ext_getElem?;intro j;rw[List.getElem?_take];by_cases hj:j<n
 ·rw[if_pos (by omega)];simp[madeCells,hj,Nat.mod_one]
 ·rw[if_neg (by omega)];simp[show n<=j by omega]
theorem Own.cellAt {w:World}{B:Nat}{e:TypeId}{g n c:Nat}{xs:List Value}(h:Own w B e 1 (.slice (some ⟨g,0,none⟩) n c) xs):xs.length=n/\B<=g/\∃cs,Blk w g cs e/\∀i (hi:i<xs.length),w.cell? ⟨g,i,none⟩=some xs[i]:=by
 obtain⟨m,h⟩:=h;rcases h.2 with⟨hv,rfl⟩|⟨g',cap,cur,hv,hbg,hg,hnc,hcm,hcs,htake⟩
 ·cases hv
 ·cases hv;have hl:=h.1;rw[Nat.mul_one]at hl htake;refine⟨hl,hbg,cur,hg,fun i hi=>?_⟩;have h1:=congrArg (fun l:List Value=>l[i]?) htake;rw[List.getElem?_take_of_lt (by omega),n4! hi]at h1;rw[(show Blk w g cur e from hg).cells i];simpa using h1
structure SolI (lo gi go n:Nat)(w0 w:World)(L:List Bool)(R:List Int):Prop where
 below:Below lo w0 w
 inn:Own w lo 4 1 (.slice (some ⟨gi,0,none⟩) n n) (boC L)
 out:Own w lo 3 1 (.slice (some ⟨go,0,none⟩) n n) (ic R)
section
variable {lo gi go n : Nat} {w0 w w' : World} {L : List Bool} {R : List Int}
theorem SolI.ne (h:SolI lo gi go n w0 w L R):gi≠go:=fun e=>by
 subst e;exact h.inn.apart h.out (by decide) rfl rfl
theorem SolI.keep (h:SolI lo gi go n w0 w L R)(hb:Below w.heap.size w w')(hl:lo<=w.heap.size):SolI lo gi go n w0 w' L R :=
 ⟨h.below.trans (hb.mono hl),h.inn.below hb,h.out.below hb⟩
theorem SolI.setIn (h:SolI lo gi go n w0 w L R)(k:Nat):SolI lo gi go n w0 (w.setCell ⟨gi,k,none⟩ (.bool true)) (L.set k true) R :=
 ⟨Below.setCell h.below (h.inn.block gi rfl).1 _,by have:=h.inn.set1 k (.bool true);rw[show(boC L).set k (.bool true)=boC (L.set k true)from by unfold boC;rw[List.map_set]]at this;exact this,
  h.out.keepOwn fun g hg=>Below.heap_setCell _ _ _ _ fun e=>h.ne (by have:go=g:=v5! hg;rw[this];exact e.symm)⟩
theorem SolI.setOut (h:SolI lo gi go n w0 w L R)(k:Nat)(x:Int):SolI lo gi go n w0 (w.setCell ⟨go,k,none⟩ (.int .i64 x)) L (R.set k x) :=
 ⟨Below.setCell h.below (h.out.block go rfl).1 _,h.inn.keepOwn fun g hg=>Below.heap_setCell _ _ _ _ fun e=>h.ne (by have:gi=g:=v5! hg;rw[this];exact e),
  by have:=h.out.set1 k (.int .i64 x);rw[show(ic R).set k (.int .i64 x)=ic (R.set k x)from by unfold ic;rw[List.map_set]]at this;exact this⟩
end
def frN (fs:List FT)(s:P3)(n r i:Nat):List Int:=((List.range i).filter fun j=>newS fs s (inN fs s n r) j).map fun(j:Nat)=>(j:Int)
theorem nP! (fs:List FT)(s:P3)(n r i:Nat):frN fs s n r (i+1)=if newS fs s (inN fs s n r) i=true then frN fs s n r i++[(i:Int)]else frN fs s n r i:=by
 unfold frN;rw[List.range_succ,List.filter_append,v9!];by_cases h:newS fs s (inN fs s n r) i=true <;> simp[h]
theorem hi! (fs:List FT)(s:P3)(n r i:Nat):(frN fs s n r i).length<=i:=by
 unfold frN;rw[x1!];have:=x8! (fun j=>newS fs s (inN fs s n r) j) (List.range i);rwa[List.length_range]at this
theorem mD! (fs:List FT)(s:P3)(n r:Nat):∀x∈frN fs s n r n,∃i:Nat,x=(i:Int)/\i<n/\newS fs s (inN fs s n r) i=true:=fun x hx=>by
 unfold frN at hx;obtain⟨j,hj,rfl⟩:=u6!.1 hx;rw[List.mem_filter,List.mem_range]at hj;exact⟨j,rfl,hj.1,hj.2⟩
theorem pg! (fs:List FT)(s:P3)(n r:Nat):∀i:Nat,i<n->((i:Int)∈frN fs s n r n↔newS fs s (inN fs s n r) i=true):=fun i hi=>by
 refine⟨fun h=>?_,fun h=>u6!.2 ⟨i,List.mem_filter.2 ⟨List.mem_range.2 hi,h⟩,rfl⟩⟩;obtain⟨j,e,-,hj⟩:=mD! fs s n r _ h;rw[show i=j by omega];exact hj
theorem fw! {fs:List FT}{s:P3}{l:List Bool}{i:Nat}(h:i<l.length)(hi:l[i]=true):newS fs s l i=false:=by
 unfold newS;rw[n8!,n4! h,Option.getD_some,hi];rfl
theorem jr! {fs:List FT}{s:P3}{l:List Bool}{i:Nat}(h:fs.length<=i):newS fs s l i=false:=by
 unfold newS;rw[y0! h];simp
theorem gU! {fs:List FT}{s:P3}{l:List Bool}{i:Nat}(h:i<l.length)(hi:l[i]=false)(hf:i<fs.length):newS fs s l i=holdF s l fs[i]:=by
 unfold newS;rw[n8!,n4! h,Option.getD_some,hi,n4! hf];rfl
theorem GrAt.rows {S:Nat->Prop}{w:World}{ps:List P3}{fs:List FT}{pv fv:Value}(h:GrAt S w ps fs pv fv):∃ap cp af cf,pv= .slice ap ps.length cp/\fv= .slice af fs.length cf/\ps.length<=cp/\fs.length<=cf/\cp<=9223372036854775807/\cf<=9223372036854775807 /\
  ∀i (hi:i<fs.length),∃b off,∃u:FV3,af=some ⟨b,off,none⟩/\S b/\w.cell? ⟨b,off+i*4,none⟩=some (.int .i64 fs[i].k)/\w.cell? ⟨b,off+i*4+1,none⟩=some u.1/\w.cell? ⟨b,off+i*4+2,none⟩=some u.2.1/\w.cell? ⟨b,off+i*4+3,none⟩=some u.2.2/\FTAt S w fs[i] u:=by
 obtain⟨h1,q,h2,h3,h4⟩:=h;obtain⟨ap,cp,e1,a0,a2,-⟩:=Sl.rows aj! (by decide) (show Sl S w 3 pv (ps.flatMap pC)from h1);obtain⟨af,cf,e2,a3,a1,d⟩:=Sl.rows aS! (by decide) h4;have hl:q.length=fs.length:=by rw[<-h2,x1!]
 refine⟨ap,cp,af,cf,e1,by rw[e2,hl],a0,by omega,a2,a1,fun i hi=>?_⟩;have a:i<q.length:=by omega
 obtain⟨b,off,rfl,hb,d⟩:=d (by omega);have c:fs[i]=q[i].1:=by simp only[<-h2,List.getElem_map]
 rw[c];exact⟨b,off,q[i].2,rfl,hb,d i a 0 _ rfl,d i a 1 _ rfl,d i a 2 _ rfl,d i a 3 _ rfl,h3 _ (n5! a)⟩
theorem hL! (s:P3)(ps:List P3)(fs:List FT)(pv fv:Value)(w:World)(h:GrAt (· < w.heap.size) w ps fs pv fv)(hnm:ps.length<=1000000) :
  Calls prog 81 #[.agg #[pv,fv],pV s] w fun e w'=>(∃v,e= .returned v/\Own w' w.heap.size 3 1 v (ic (aX! fs s ps.length)))/\Below w.heap.size w w':=by
 have H0:=h! h;obtain⟨ap,cp,af,cf,rfl,rfl,ag,aU,b7,aZ,-⟩:=h.rows;have I:=h! hnm;have bh:Hid (fs.length<=9223372036854775807):=h! (by omega);have aH:=h! (makeI ps.length (by omega));have ay:=h! (makeB ps.length (by omega));have aK:=h! (fun W=>Own.made1 W ps.length (by omega) 3 (.int .i64 0));have aD:=h! (fun W=>Own.made1 W ps.length (by omega) 4 (.bool false));clear h ag aU b7 aZ hnm;generalize hnn:ps.length=n at *;unfold pV;obtain⟨wa,E⟩:=e! (w.alloc (.cells #[.slice ap n cp,.slice af fs.length cf] 96));obtain⟨wb,D⟩:=e! (wa.alloc (.cells #[.string s.t,.string s.i,.string s.r] 33));have ea:wa.heap.size=w.heap.size+1:=by rw[E];simp
 have eb:wb.heap.size=w.heap.size+2:=by rw[D];simp[ea]
 have xa:Ext w wa:=xa! E
 have xb:Ext wa wb:=xa! D
 have XB:=h! (xa.trans xb);have BG:=h! (show Blk wb w.heap.size #[.slice ap n cp,.slice af fs.length cf] 96 from Blk.below (bm! E) xb);have BS:=h! (show Blk wb (w.heap.size+1) #[.string s.t,.string s.i,.string s.r] 33 from by rw[D,<-ea];exact Blk.made _ _ _);obtain⟨wc,G⟩:=e! (wb.alloc (.cells (madeCells #[.int .i64 0] n) 3));obtain⟨we,a1⟩:=e! (wc.alloc (.cells (madeCells #[.bool false] n) 4));have ec:wc.heap.size=wb.heap.size+1:=by rw[G];simp
 have xc:Ext wb wc:=xa! G
 have xe:Ext wc we:=xa! a1
 have ST:=h! (show SolI wb.heap.size wc.heap.size wb.heap.size n wb we (inN fs s n 0) (outN fs s n 0)from⟨xc.trans xe,by
   have:=aD.out wc;rw[<-a1]at this;obtain⟨m,h1,h2⟩:=this;rcases h2 with⟨h2,_⟩|⟨g',cap,cur,hv,hbg,hg,hr⟩
   ·cases h2
   ·refine⟨m,?_,.inr ⟨g',cap,cur,hv,by omega,hg,?_⟩⟩
    ·rw[aW!,inN,List.length_replicate];rw[List.length_replicate]at h1;exact h1
    ·rw[show boC (inN fs s n 0)=List.replicate n (.bool false)from by simp[boC,inN]];exact hr,by
   have:=(aK.out wb);rw[<-G]at this;rw[show ic (outN fs s n 0)=List.replicate n (.int .i64 0)from by simp[ic,outN]];exact this.below xe⟩)
 have EX:=h! (xc.trans xe);have EB:=h! eb;have EC:=h! ec;have hA:=BG.out.cells;have al:=(BG.out.below xc).cells;have b0:=aH.out;have ba:=ay.out;clear ea eb xa xb xc xe ec aH ay aK aD;rw[D,E]at hA;rw[G,D,E]at al;go_enter func81,ntmps81
 go_wp2_with fail
 rw[<-E,<-D,<-G,<-a1];clear hA al b0 ba E D G a1;obtain⟨gi,au⟩:=e! (w.heap.size+1+1+1);obtain⟨lo,aw⟩:=e! (w.heap.size+1+1);have a2:Hid (w.heap.size+2=lo):=h! (by omega);rw[show wb.heap.size=lo by rw[EB.out];omega,show wc.heap.size=gi by rw[EC.out,EB.out];omega]at ST;rw[<-au,<-aw];have aQ:=h! (show wb.heap.size=lo by rw[EB.out];omega);have RI:=h! (fun W (hW:Below lo wb W)=>show Blk W w.heap.size #[.slice ap n cp,.slice af fs.length cf] 96 from(hW.block _ (by have:=a2.out;omega)).trans BG.out);have RJ:=h! (fun W (hW:Below lo wb W)=>show Blk W (w.heap.size+1) #[.string s.t,.string s.i,.string s.r] 33 from(hW.block _ (by have:=a2.out;omega)).trans BS.out);have RK:=h! (fun W (hW:Below lo wb W)=>show Below w.heap.size w W from Below.trans XB.out (hW.mono (by have:=a2.out;omega)));have RR:=h! (fun W (hW:Below lo wb W)=>show GrAt (· < W.heap.size) W ps fs (.slice ap n cp) (.slice af fs.length cf)from H0.out.up (RK.out W hW));clear aw au EB EC BG BS H0 EX;go_loopw [7] (fun rv wr=>∃r:Nat,rv= .int .i64 ((r+1:Nat):Int)/\r<=cntT (inN fs s n r)/\lo<=wr.heap.size/\SolI lo gi lo n wb wr (inN fs s n r) (outN fs s n r)) (fun rv _=>n+1-(intOf rv).toNat)
 case atStart=>exact⟨0,rfl,v1! _,by have:=ST.out.below.size;have:=aQ.out;omega,ST.out⟩
 case round =>
  obtain⟨r,rfl,ae,aJ,J⟩:=hrel;have RS:=h! J;have ax:=h! ae;have aY:Hid (r<=n):=h! (n6! ae (ko! _ _ _ _));have aa:=h! aJ;obtain⟨w4,an⟩:=e! wr;obtain⟨B,M⟩:=e! w4.heap.size;obtain⟨rz,ai⟩:∃z:Int,z=((r+1:Nat):Int):=⟨_,rfl⟩;rw[<-an]at RS aa ⊢;rw[<-ai];have a5:=h! ai;have a:=h! M;have hG:=(RI.out w4 RS.out.below).cells;clear ae aJ J ST an M ai;go_wp2_with fail
  clear hG;go_loopw [8,25] (fun qv iv wr=>∃i:Nat,i<=n/\iv= .int .i64 i/\Own wr B 3 1 qv (ic (frN fs s n r i))/\Below B w4 wr) (fun _ iv _=>n-(intOf iv).toNat)
  case atStart=>exact⟨0,v1! _,rfl,Own.nil _ _ _ _,Below.refl _ _⟩
  case round =>
   obtain⟨i,hi,rfl,ab,Z⟩:=hrel;have RF:=h! ab;have o:=h! Z;obtain⟨aR,fm,fc,rfl,-⟩:=ab.sl.len;have A:=h! (show SolI lo gi lo n wb wr (inN fs s n r) (outN fs s n r)from RS.out.keep (by rw[a.out]at Z;exact Z) aa.out);clear ab Z;by_cases hlt:i<n
   ·have f:=h! hlt;have q:=h! (show wrap64 ((i:Int)+1)=((i+1:Nat):Int)from by have:=I.out;unfold wrap64;omega);have C:=h! (nP! fs s n r i);have a6:(inN fs s n r).length=n:=ai! r;obtain⟨-,-,cs,-,a3⟩:=A.out.inn.cellAt
    have c1:wr.cell? ⟨gi,i,none⟩=some (.bool ((inN fs s n r)[i]'(by omega))):=by
     have:=a3 i (by rw[aW!];omega);rw[this];simp[boC]
    have RG:=h! (RI.out wr A.out.below);have aT:=h! (RJ.out wr A.out.below);have ah:(i:Int)<(n:Int):=by omega
    cases hin:((inN fs s n r)[i]'(by omega)) with
    | true =>
     have Y:=fw! (fs:=fs) (s:=s) (l:=inN fs s n r) (i:=i) (by omega) hin;rw[Y,if_neg (by decide)]at C;rw[hin]at c1;clear Y hin a3 a6 hlt;go_wp2_with fail
     obtain⟨wd,p⟩:=e! (World.drew wr);have DX:=h! (show Ext wr wd from xd! p);refine re! p ?_;clear p;have g1:=fun W (h:Ext wd W)=>Ext.cell (DX.out.trans h) c1;have hG:=fun W (h:Ext wd W)=>(RG.out.below (DX.out.trans h)).cells;(refine WalkN.tk [0,1,2,3,4,5] ?_;(iterate 6 (refine c! ?_));refine TkN.n ?_)
     refine k! 6 ?_;refine k! 7 ?_;refine k! 8 ?_;refine k! 9 ?_;refine k! 10 ?_
     (refine WalkN.tk [11,12] ?_;(iterate 2 (refine c! ?_));refine TkN.n ?_)
     refine k! 13 ?_;refine k! 14 ?_;refine k! 15 ?_;refine k! 16 ?_;refine k! 17 ?_;refine k! 18 ?_;refine k! 19 ?_;refine k! 20 ?_
     refine t! 21 ?_
     refine d! ?_;clear g1 hG c1 ah;go_wp2_with fail
     go_roundw
     case rel=>exact⟨i+1,f.out,by first | rw[q.out] | go_num,by rw[C.out];exact RF.out.below DX.out,o.out.trans (DX.out.mono (by have:=o.out.size;have:=a.out;omega))⟩
     case measure=>have:=f.out;(try rw[q.out]);simp[intOf];omega
    | false =>
     rw[hin]at c1;by_cases hf:i<fs.length
     ·have Y:=gU! (fs:=fs) (s:=s) (l:=inN fs s n r) (i:=i) (by omega) hin hf;obtain⟨bg,bq,bk,bn,e1,e2,-,-,-,-,O⟩:=(RR.out wr A.out.below).rows;cases e2;obtain⟨p1,q1,u,rfl,ag,k0,k1,k2,k3,hu⟩:=O i hf;have a7:(i:Int)<(fs.length:Int):=by omega
      have HU:=h! hu;have HI:Hid (Sl (· < wr.heap.size) wr 1 (.slice (some ⟨gi,0,none⟩) n n) (boC (inN fs s n r))):=h! (A.out.inn.sl.mono fun _ h=>h.2);rw[Y]at C;generalize fs[i]=x at *;obtain⟨l1,m1,l2,m2,l4,m4,rfl⟩:=hu.shape;dsimp only at k0 k1 k2 k3;clear hu ag O a3 Y hin a6 hlt hf e1;go_wp2_with fail
      obtain⟨wd,p⟩:=e! (World.drew wr);have DX:=h! (show Ext wr wd from xd! p);refine re! p ?_;clear p;have g1:=fun W (h:Ext wd W)=>Ext.cell (DX.out.trans h) c1;have hG:=fun W (h:Ext wd W)=>(RG.out.below (DX.out.trans h)).cells;have hS:=fun W (h:Ext wd W)=>(aT.out.below (DX.out.trans h)).cells;have j0:=fun W (h:Ext wd W)=>Ext.cell (DX.out.trans h) k0;have j1:=fun W (h:Ext wd W)=>Ext.cell (DX.out.trans h) k1;have j2:=fun W (h:Ext wd W)=>Ext.cell (DX.out.trans h) k2;have j3:=fun W (h:Ext wd W)=>Ext.cell (DX.out.trans h) k3;(refine WalkN.tk [0,1,2,3,4,5,6,7,8,9,10,11,12,13,14,15,16,17,18,19] ?_;(iterate 20 (refine c! ?_));refine TkN.n ?_)
      clear g1 hG hS j0 j1 j2 j3 k0 k1 k2 k3 c1;have a4:=h! (jV! s (inN fs s n r) x (.slice (some ⟨gi,0,none⟩) n n) _ wd (HU.out.up DX.out) ((HI.out.same (Same.below DX.out)).mono fun _ h=>n1! h DX.out.size));unfold fV pV at a4;dsimp only at a4;refine ob! 20 ?_;intro K hK;go_simp;refine a4.out.mono ?_;rintro e w5 ⟨rfl,a8⟩;refine hK.out _ _ a8 ?_;clear hK a4;have X5:Hid (Ext wr w5):=h! (DX.out.trans a8);clear a8;refine t! 21 ?_
      refine d! ?_;clear ah a7;cases hq:holdF s (inN fs s n r) x with
      | true =>
       rw[hq,if_pos rfl]at C;have aE:=h! (RF.out.below X5.out);have H:=h! (show Below B w4 w5 from o.out.trans (X5.out.mono (by have:=o.out.size;have:=a.out;omega)));clear hq;have N:=h! (Ext.alloc w5 (.cells #[.int .i64 (i:Int)] 3));go_wp2_with (at_builtin;go_must (refine aE! intsT rfl (.tmp 50) (.tmp 52) rfl rfl (aE.out.below N.out) rfl (m:=1) (news:=[.int .i64 (i:Int)]) rfl (by intro j u hu;rw[Addr.add_lit,cell_of_row _ w5.heap.size (0+j) #[.int .i64 (i:Int)] 3 (0,0) (heap_alloc_new w5 _)];simpa using hu) (by simp[Value.oneCell']) (by have:=I.out;have:=f.out;have:=hi! fs s n r i;have:=a.out;have:=H.out.size;rw[ad!];simp at *;omega) (by have:=I.out;have:=f.out;have:=hi! fs s n r i;have:=a.out;have:=H.out.size;rw[ad!];simp at *;omega) (by have:=I.out;have:=f.out;have:=hi! fs s n r i;have:=a.out;have:=H.out.size;have:=N.out.size;omega) ?_;intro v6 w6 hown6 hb6 hg6;have bc:=h! (show Own w6 B 3 1 v6 (ic (frN fs s n r (i+1)))from by rw[C.out,bN!];exact hown6);have b9:=h! (show Below B w4 w6 from be! (H.out.trans (N.out.mono (by have:=H.out.size;have:=a.out;omega))) (aE.out.below N.out) hg6 (by have:=H.out.size;have:=N.out.size;have:=a.out;omega));clear hown6 hb6 hg6))
       go_roundw
       case rel=>exact⟨i+1,f.out,by first | rw[q.out] | go_num,bc.out,b9.out⟩
       case measure=>have:=f.out;(try rw[q.out]);simp[intOf];omega
      | false =>
       rw[hq,if_neg (by decide)]at C;clear hq;go_wp2_with fail
       go_roundw
       case rel=>exact⟨i+1,f.out,by first | rw[q.out] | go_num,by rw[C.out];exact RF.out.below X5.out,o.out.trans (X5.out.mono (by have:=o.out.size;have:=a.out;omega))⟩
       case measure=>have:=f.out;(try rw[q.out]);simp[intOf];omega
     ·rw[jr! (by omega),if_neg (by decide)]at C;have a7:¬ (i:Int)<(fs.length:Int):=by omega
      clear a3 hin a6 hlt hf;go_wp2_with fail
      obtain⟨wd,p⟩:=e! (World.drew wr);have DX:=h! (show Ext wr wd from xd! p);refine re! p ?_;clear p;have g1:=fun W (h:Ext wd W)=>Ext.cell (DX.out.trans h) c1;have hG:=fun W (h:Ext wd W)=>(RG.out.below (DX.out.trans h)).cells;have a0:decide (i<fs.length)=false:=v3! (by omega);(refine WalkN.tk [0,1,2,3,4,5,6,7,8,9,10,11,12] ?_;(iterate 13 (refine c! ?_));refine TkN.n ?_)
      refine k! 13 ?_;refine k! 14 ?_;refine k! 15 ?_;refine k! 16 ?_;refine k! 17 ?_;refine k! 18 ?_;refine k! 19 ?_;refine k! 20 ?_
      refine t! 21 ?_
      refine d! ?_;clear g1 hG c1 ah a7 a0;go_wp2_with fail
      go_roundw
      case rel=>exact⟨i+1,f.out,by first | rw[q.out] | go_num,by rw[C.out];exact RF.out.below DX.out,o.out.trans (DX.out.mono (by have:=o.out.size;have:=a.out;omega))⟩
      case measure=>have:=f.out;(try rw[q.out]);simp[intOf];omega
   ·obtain rfl:i=n:=by omega
    have aA:=h! (pg! fs s i r);have Q:=h! (mD! fs s i r);have aW:=h! (hi! fs s i r i);generalize frN fs s i r i=F at *;obtain⟨b5,bj,bi,b6,a0,-,-⟩:=RF.out.sl.len;cases b6;rw[ad!,Nat.mul_one]at a0;subst a0;clear hlt hi;by_cases h0:F=[]
    ·subst h0
     have b4:=h! (show outN fs s i r=aX! fs s i from mG! fun j hj=>by
      have:=aA.out j hj;simpa using this)
     have a9:=A.out.out;rw[b4.out]at a9;have ac:=h! a9;have aO:=h! (RK.out wr A.out.below);clear a9;go_wp2_with fail
     go_ret
     exact⟨⟨_,rfl,by
      obtain⟨m,h1,h2⟩:=ac.out;rcases h2 with⟨h2,_⟩|⟨g',cap,cur,hv,hbg,hg,hr⟩
      ·cases h2
      ·exact⟨m,h1,.inr ⟨g',cap,cur,hv,by have:=a2.out;omega,hg,hr⟩⟩⟩,aO.out⟩
    ·have aG:Hid (0<F.length):=h! (List.length_pos_iff.2 h0);have aP:((F.length:Int) == 0)=false:=by rw[n7!];have:=aG.out;omega
     have aB:=h! (show cntT (inN fs s i r)<cntT (inN fs s i (r+1))from by
      obtain⟨j,-,hj,hn⟩:=Q.out F[0] (n5! aG.out);exact km! hj hn)
     clear h0;go_wp2_with fail
     clear aP;obtain⟨w7,aq⟩:=e! wr;rw[<-aq]at RF A o ⊢;clear aq;have b3:=h! (RF.out.sl.ints);go_loopw [61] (fun jv wr=>∃(j:Nat) (L:List Bool) (R:List Int),j<=F.length/\jv= .int .i64 j/\InvR fs s i r F j L R/\SolI lo gi lo i wb wr L R/\Own wr B 3 1 (.slice aR F.length fc) (ic F)/\B<=wr.heap.size) (fun jv _=>F.length-(intOf jv).toNat)
     case atStart=>exact⟨0,_,_,v1! _,rfl,InvR.start fs s i r F,A.out,RF.out,n6! (v4! a.out) (by rw[a.out]at o;exact o.out.size)⟩
     case round =>
      obtain⟨j,L,R,hj,rfl,X,J,az,aI⟩:=hrel;have HI:=h! X;have HS:=h! J;have HO:=h! az;have HZ:=h! aI;clear X J az aI b3;by_cases hlt:j<F.length
      ·have f:=h! hlt;obtain⟨aV,bo,aX,-,-,T⟩:=HO.out.sl.ints;cases aX;obtain⟨b,bb,rfl,ar,c0⟩:=T j hlt;obtain⟨k,hk,b8,V⟩:=Q.out F[j] (n5! hlt);have ao:=h! (HI.out.step hlt (by omega) (by omega));have q:=h! (show wrap64 ((j:Int)+1)=((j+1:Nat):Int)from by have:=aW.out;have:=I.out;unfold wrap64;omega);replace c0:=c0.trans (congrArg (fun z=>some (Value.int .i64 z)) hk);rw[show F[j].toNat=k by omega,<-a5.out]at ao;have be:(j:Int)<(F.length:Int):=by omega
       have bf:(k:Int)<(i:Int):=by omega
       obtain⟨aC,ad,bm,aL,aN⟩:=HS.out.inn.cellAt;obtain⟨aS,U,bl,aF,aj⟩:=HS.out.out.cellAt;obtain⟨y1,d1⟩:∃y,wr.cell? ⟨gi,k,none⟩=some y:=⟨_,aN k (by omega)⟩;obtain⟨y2,d2⟩:∃y,wr.cell? ⟨lo,k,none⟩=some y:=⟨_,aj k (by omega)⟩;have f1:=aL.free;have f2:=aF.free;have S2:=h! ((HS.out.setOut k rz).setIn k);obtain⟨-,-,bp,ak,aM⟩:=(HS.out.setOut k rz).inn.cellAt;obtain⟨y3,d3⟩:∃y,(wr.setCell ⟨lo,k,none⟩ (.int .i64 rz)).cell? ⟨gi,k,none⟩=some y:=⟨_,aM k (by rw[aW!];rw[aW!]at aC;omega)⟩;have f3:=ak.free
       have am:=h! (show b≠lo/\b≠gi from by
        have:=a.out;have h1:=(HS.out.inn.block gi rfl).2;have h2:=(RS.out.inn.block gi rfl).2;have h3:=(RS.out.out.block lo rfl).2;have h4:=ar.1;omega)
       have b1:=h! (show Own ((wr.setCell ⟨lo,k,none⟩ (.int .i64 rz)).setCell ⟨gi,k,none⟩ (.bool true)) B 3 1 (.slice (some ⟨b,bb,none⟩) F.length fc) (ic F)from HO.out.keepOwn fun g hg=>by
        obtain rfl:b=g:=v5! hg;rw[Below.heap_setCell _ _ _ _ fun e=>am.out.2 e,Below.heap_setCell _ _ _ _ fun e=>am.out.1 e])
       have b2:Hid (B<=((wr.setCell ⟨lo,k,none⟩ (.int .i64 rz)).setCell ⟨gi,k,none⟩ (.bool true)).heap.size):=h! (by simpa using HZ.out);clear T ar hk b8 V aN aj aM aL aF ak aC aS hlt ad U;go_wp2_with fail
       go_roundw
       case rel=>exact⟨j+1,_,_,f.out,by first | rw[q.out] | go_num,ao.out,S2.out,b1.out,b2.out⟩
       case measure=>have:=f.out;(try rw[q.out]);simp[intOf];omega
      ·obtain rfl:j=F.length:=by omega
       obtain⟨rfl,rfl⟩:=HI.out.done aA.out;have av:=h! (show wrap64 (rz+1)=((r+1+1:Nat):Int)from by have:=a5.out;have:=aY.out;have:=I.out;unfold wrap64;omega);have bd:=h! (show r+1<=i from by have:=aB.out;have:=ax.out;have:=ko! fs s i (r+1);omega);clear hlt hj;go_wp2_with fail
       go_roundw
       case rel=>exact⟨r+1,by first | rw[av.out] | go_num,by have:=aB.out;have:=ax.out;omega,by have:=HZ.out;have:=aa.out;have:=a.out;omega,HS.out⟩
       case measure=>have:=bd.out;have:=a5.out;(try rw[av.out]);simp[intOf];omega
def NoInt (w:World)(b:Nat):Prop:=∀cs fr,w.heap[b]?≠some (.cells cs 3 fr)/\w.heap[b]?≠some (.cells cs 107 fr)
abbrev UK (lo:Nat) (A:Nat->Prop) (w w':World):Prop:=Kept (fun b=>b<w.heap.size/\(b<lo\/A b\/NoInt w b)) w w'
section
variable {lo : Nat} {A : Nat -> Prop} {w w' w'' : World}
theorem UK.refl (lo:Nat)(A:Nat->Prop)(w:World):UK lo A w w:=Kept.refl _ _
theorem UK.of (h:Ext w w'):UK lo A w w':=Below.kept h fun _ hb=>hb.1
theorem UK.next (h:UK lo A w w')(k:UK lo A w' w''):UK lo A w w'':=Kept.trans h (Kept.mono k fun b hb=>⟨n1! hb.1 h.size,by
 rcases hb.2 with h1 | h1 | h1
 ·exact .inl h1
 ·exact .inr (.inl h1)
 ·exact .inr (.inr fun cs fr=>by rw[h.block b ⟨hb.1,.inr (.inr h1)⟩];exact h1 cs fr)⟩)
theorem UK.low (h:UK lo A w w')(hl:lo<=w.heap.size):Same (· < lo) w w':=fun b hb=>h.block b ⟨n1! hb hl,.inl hb⟩
theorem UK.blk (h:UK lo A w w') {b:Nat}{cs:Array Value}{t:TypeId}(hb:Blk w b cs t)(h1:t≠3)(h2:t≠107):Blk w' b cs t :=
 (h.block b ⟨hb.lt,.inr (.inr fun cs' fr=>⟨fun e=>by
  rw[show w.heap[b]?=_ from hb]at e;injection e with e
  injection e with _ e _
  exact h1 e,fun e=>by
  rw[show w.heap[b]?=_ from hb]at e;injection e with e
  injection e with _ e _
  exact h2 e⟩)⟩).trans hb
theorem UK.blkA (h:UK lo A w w') {b:Nat}{cs:Array Value}{t:TypeId}(hb:Blk w b cs t)(h1:A b):Blk w' b cs t:=(h.block b ⟨hb.lt,.inr (.inl h1)⟩).trans hb
end
theorem FTAt.lowUp {lo:Nat}{A:Nat->Prop}{w w':World}{r:FT}{v:FV3}(h:FTAt (· < lo) w r v)(hk:UK lo A w w')(hl:lo<=w.heap.size):FTAt (· < lo) w' r v:=h.same (hk.low hl)
theorem ln! (g:Nat)(cap:Array Value)(eg:∀args W,(callFunc g args).run prog W= .ok (.enter g args) W)(lo N:Nat)(A:Nat->Prop)(Inv:List Int->World->Prop)
  (hx:∀ks W W',Inv ks W->Ext W W'->Inv ks W') (hdo:∀ks k W,Inv ks W->lo<=W.heap.size->ks.length<N->Calls prog g (#[.int .i64 k]++cap) W fun e W'=>e= .returned (.tuple #[])/\Inv (ks++[k]) W'/\UK lo A W W') (f:FT) :
  ∀(v:FV3) (ks:List Int) (w:World),FTAt (· < lo) w f v->lo<=w.heap.size->Inv ks w->ks.length+f.named.length<=N ->
  Calls prog 208 #[fV f v,.func (.func g) #[] cap] w fun e w'=>e= .returned (.tuple #[])/\Inv (ks++f.named) w'/\UK lo A w w':=by
 induction f using FT.ind with
 | h f ih =>
 intro v ks w h hlo hinv hN;obtain⟨a1,c1,a2,c2,a4,c4,rfl⟩:=h.shape;obtain⟨k,subs,refs,a⟩:=f;rw[FT.named_eq,u4!]at hN;rw[FT.named_eq];have K:=h! ih;have H1:=h! h;have a3:=h! hdo;have F:=h! hx;have HN:=h! hN;have C:=h! hlo;clear ih h hdo hx hN hlo;unfold fV;dsimp only[FT.k,FT.subs,FT.refs,FT.ps]at K H1 HN ⊢;obtain⟨L,m⟩:=e! (w.alloc (.cells #[.int .i64 k,.slice a1 subs.length c1,.slice a2 refs.length c2,.slice a4 a.length c4] 128));have Q:=h! (show Ext w L from xa! m);have BA:=h! (show Blk L w.heap.size #[.int .i64 k,.slice a1 subs.length c1,.slice a2 refs.length c2,.slice a4 a.length c4] 128 from bm! m);have D:=h! (F.out ks w L hinv Q.out);have F1:=h! (fun W (hW:UK lo A L W)=>H1.out.lowUp (UK.next (UK.of Q.out) hW) C.out);have FB:=h! (fun W (hW:UK lo A L W)=>hW.blk BA.out (by decide) (by decide));have FL:=h! (fun W (hW:UK lo A L W)=>show lo<=W.heap.size from n6! C.out (n6! Q.out.size hW.size));clear hinv H1;have M:=BA.out.cells;clear BA;rw[m]at M;go_enter func208,ntmps208
 go_wp2_with fail
 clear M;rw[<-m];clear m;go_loopw [11] (fun iv wr=>∃i:Nat,i<=refs.length/\iv= .int .i64 i/\Inv (ks++refs.take i) wr/\UK lo A L wr) (fun iv _=>refs.length-(intOf iv).toNat)
 case atStart=>exact⟨0,v1! _,rfl,by simpa using D.out,UK.refl _ _ _⟩
 case round =>
  obtain⟨i,hi,rfl,p,O⟩:=hrel;have R:=h! p;have X:=h! O;clear p O D;by_cases hlt:i<refs.length
  ·have j:=h! hlt;have r:=h! (n2! hlt);obtain⟨-,V,-⟩:=(FTAt.iff _ _).1 (F1.out wr X.out);obtain⟨p1,q1,rfl,y,E⟩:=Sl.int_at V hlt;dsimp only[FT.refs]at E;have a5:(i:Int)<(refs.length:Int):=by omega
   have q:=h! (show wrap64 ((i:Int)+1)=((i+1:Nat):Int)from by
    obtain⟨_,n,c,he,h1,V,h3⟩:=V.len;cases he;unfold wrap64;omega)
   have b:=h! (a3.out (ks++refs.take i) refs[i] wr R.out (FL.out wr X.out) (by have:=HN.out;rw[u4!,x4!];omega));generalize refs[i]=x at *;clear hlt y V;go_wp2_with fail
   refine b.out.mono ?_;rintro e U ⟨rfl,o,l⟩;have B:=h! (show Inv (ks++refs.take (i+1)) U from by rw[r.out,<-y6!];exact o);have s:Hid (UK lo A L U):=h! (UK.next X.out l);clear o l b E;go_wp2_with fail
   go_roundw
   case rel=>exact⟨i+1,j.out,by first | rw[q.out] | go_num,B.out,s.out⟩
   case measure=>have:=j.out;(try rw[q.out]);simp[intOf];omega
  ·obtain rfl:i=refs.length:=by omega
   rw[u2!]at R;have M:=(FB.out wr X.out).cells;clear hlt hi;go_wp2_with fail
   clear M;obtain⟨w4,G⟩:=e! wr;rw[<-G]at R X ⊢;clear G;go_loopw [22] (fun iv wr=>∃i:Nat,i<=a.length/\iv= .int .i64 i/\Inv (ks++refs++nmdL (a.take i)) wr/\UK lo A L wr) (fun iv _=>a.length-(intOf iv).toNat)
   case atStart=>exact⟨0,v1! _,rfl,by simpa [nmdL] using R.out,X.out⟩
   case round =>
    obtain⟨i,hi,rfl,p,O⟩:=hrel;have t:=h! p;have d:=h! O;clear p O;by_cases hlt:i<a.length
    ·have j:=h! hlt;have r:=h! (eK! hlt)
     have a7:=h! (show(nmdL (a.take i)).length+a[i].named.length<=(nmdL a).length from by
      have h1:nmdL a=nmdL (a.take (i+1))++nmdL (a.drop (i+1)):=by rw[<-bs!,x6!]
      rw[h1,r.out];simp only[u4!];omega)
     obtain⟨a8,g1,J,H,I,z⟩:=(F1.out wr d.out).rows;dsimp only[FT.ps]at J H I z;cases J;obtain⟨p1,q1,u,rfl,y,e0,e1,e2,e3,hu⟩:=z i hlt;have a6:=h! (K.out a[i] (n5! hlt));have q:=h! (show wrap64 ((i:Int)+1)=((i+1:Nat):Int)from by unfold wrap64;omega);have a5:(i:Int)<(a.length:Int):=by omega
     generalize a[i]=x at *;obtain⟨l1,m1,l2,m2,l4,m4,rfl⟩:=hu.shape;have T:=h! (Ext.alloc wr (.cells #[.int .i64 x.k,.slice l1 x.subs.length m1,.slice l2 x.refs.length m2,.slice l4 x.ps.length m4] 128));have b:=h! (a6.out _ (ks++refs++nmdL (a.take i)) _ (hu.lowUp (UK.of (A:=A) T.out) (FL.out wr d.out)) (n6! (FL.out wr d.out) T.out.size) (F.out _ _ _ t.out T.out) (by have:=HN.out;have:=a7.out;simp only[u4!];omega));unfold fV at b;dsimp only at e0 e1 e2 e3 b;have a0:=(Blk.made wr #[.int .i64 x.k,.slice l1 x.subs.length m1,.slice l2 x.refs.length m2,.slice l4 x.ps.length m4] 128).cells;clear hlt z hu y H I;go_wp2_with fail
     refine b.out.mono ?_;rintro e U ⟨rfl,o,l⟩;have B:=h! (show Inv (ks++refs++nmdL (a.take (i+1))) U from by rw[r.out,<-y6!];exact o);have s:Hid (UK lo A L U):=h! (UK.next d.out (UK.next (UK.of T.out) l));clear o l a0 b e0 e1 e2 e3;go_wp2_with fail
     go_roundw
     case rel=>exact⟨i+1,j.out,by first | rw[q.out] | go_num,B.out,s.out⟩
     case measure=>have:=j.out;(try rw[q.out]);simp[intOf];omega
    ·obtain rfl:i=a.length:=by omega
     rw[u2!,y6!]at t;have XE:Hid (UK lo A w wr):=h! (UK.next (UK.of Q.out) d.out);go_wp2_with fail
     go_end0
     exact⟨rfl,t.out,XE.out⟩
structure UsAt (w:World)(lo ub n:Nat)(A:Nat->Prop)(U:List (List Int))(vs:List Value):Prop where
 arr:Own w lo 107 1 (.slice (some ⟨ub,0,none⟩) n n) vs
 vlen:vs.length=n
 ulen:U.length=n
 row:∀k v,vs[k]?=some v->Own w lo 3 1 v (ic (U.getD k []))
 apart:∀(j k:Nat) (v u:Value) (g:Nat),j≠k->vs[j]?=some v->vs[k]?=some u->v.ownBlock=some g->u.ownBlock≠some g
 off:∀(k:Nat) (v:Value) (g:Nat),vs[k]?=some v->v.ownBlock=some g->¬ A g
section
variable {w w' w2 : World} {lo ub n k : Nat} {A : Nat -> Prop} {U : List (List Int)} {vs : List Value} {v v2 : Value} {x : Int}
theorem UsAt.ext (h:UsAt w lo ub n A U vs)(hx:Ext w w'):UsAt w' lo ub n A U vs :=
 ⟨h.arr.below hx,h.vlen,h.ulen,fun k v hv=>(h.row k v hv).below hx,h.apart,h.off⟩
theorem UsAt.add (h:UsAt w lo ub n A U vs)(hk:k<n)(hv:vs[k]?=some v)(ho:Own w2 lo 3 1 v2 (ic (U.getD k []++[x])))(hw:∀g,v2.ownBlock=some g->v.ownBlock=some g\/w.heap.size<=g)(hg:w.grownBy w2 v.ownBlock)(hA:∀b,A b->b<w.heap.size)(hub:¬ A ub) :
  UsAt (w2.setCell ⟨ub,k,none⟩ v2) lo ub n A (U.set k (U.getD k []++[x])) (vs.set k v2)/\UK lo A w (w2.setCell ⟨ub,k,none⟩ v2):=by
 have hr:=h.row k v hv;have i:Own w2 lo 107 1 (.slice (some ⟨ub,0,none⟩) n n) vs:=h.arr.aside hr (by decide) hg
 have a0:∀g,v2.ownBlock=some g->g≠ub:=fun g hg2 e=>by
  subst e;exact ho.apart i (by decide) hg2 rfl
 have c:∀b,b≠ub->(w2.setCell ⟨ub,k,none⟩ v2).heap[b]?=w2.heap[b]?:=fun b hb=>Below.heap_setCell _ _ _ _ hb
 have a:∀j u,j≠k->vs[j]?=some u->∀g,u.ownBlock=some g->g<w.heap.size/\g≠ub/\v.ownBlock≠some g:=fun j u hj hu g hg2=>by
  have p:=(h.row j u hu);refine⟨(p.block g hg2).2,fun e=>?_,fun e=>h.apart k j v u g (Ne.symm hj) hv hu e hg2⟩;subst e;exact p.apart h.arr (by decide) hg2 rfl
 refine⟨⟨i.set1 k v2,by rw[List.length_set];exact h.vlen,by rw[List.length_set];exact h.ulen,fun j u hu=>?_,fun j l u u' g hjl hu hu' hg2=>?_,fun j u g hu hg2=>?_⟩,?_⟩
 ·rw[dP!,h.ulen];by_cases hj:j=k
  ·subst hj;rw[List.getElem?_set_self (by rw[h.vlen];exact hk)]at hu;obtain rfl:=v5! hu;rw[if_pos ⟨rfl,hk⟩];exact ho.keepOwn fun g hg2=>c g (a0 g hg2)
  ·rw[List.getElem?_set_ne (Ne.symm hj)]at hu;rw[if_neg fun e=>hj e.1]
   exact(h.row j u hu).keepOwn fun g hg2=>by
    obtain⟨p,o,m⟩:=a j u hj hu g hg2;rw[c g o];exact hg.block g p (fun e=>m e.symm)
 ·by_cases hj:j=k
  ·subst hj;rw[List.getElem?_set_self (by rw[h.vlen];exact hk)]at hu;obtain rfl:=v5! hu;rw[List.getElem?_set_ne hjl]at hu';intro e;obtain⟨p,o,m⟩:=a l u' (Ne.symm hjl) hu' g e;rcases hw g hg2 with h4 | h4
   ·exact m h4
   ·omega
  ·rw[List.getElem?_set_ne (Ne.symm hj)]at hu;obtain⟨p,o,m⟩:=a j u hj hu g hg2;by_cases hl:l=k
   ·subst hl;rw[List.getElem?_set_self (by rw[h.vlen];exact hk)]at hu';obtain rfl:=v5! hu';intro e;rcases hw g e with h4 | h4
    ·exact m h4
    ·omega
   ·rw[List.getElem?_set_ne (Ne.symm hl)]at hu';exact h.apart j l u u' g hjl hu hu' hg2
 ·by_cases hj:j=k
  ·subst hj;rw[List.getElem?_set_self (by rw[h.vlen];exact hk)]at hu;obtain rfl:=v5! hu;intro hAg;rcases hw g hg2 with h4 | h4
   ·exact h.off j v g hv h4 hAg
   ·have:=hA g hAg;omega
  ·rw[List.getElem?_set_ne (Ne.symm hj)]at hu;exact h.off j u g hu hg2
 ·refine⟨hg.os,hg.tape,hg.output,by simpa using hg.size,fun b hb=>?_⟩;obtain⟨a1,f⟩:=hb
  have p:b≠ub:=fun e=>by
   subst e;rcases f with o | o | o
   ·have:=(h.arr.block b rfl).1;omega
   ·exact hub o
   ·obtain⟨d,m⟩:=h.arr.typed (g:=b) rfl;exact(o d (0,0)).2 m
  rw[c b p];refine hg.block b a1 fun e=>?_;rcases f with o | o | o
  ·have:=(hr.block b e.symm).1;omega
  ·exact h.off k v b hv e.symm o
  ·obtain⟨d,m⟩:=hr.typed e.symm;exact(o d (0,0)).1 m
end
def noteU (n i:Nat)(k:Int)(U:List (List Int)):List (List Int):=if i<n/\0<=k/\k<(n:Int)then U.set k.toNat (U.getD k.toNat []++[(i:Int)])else U
theorem nu! (lo ub n i ib nb sb sp:Nat)(A:Nat->Prop)(k:Int)(U:List (List Int))(vs:List Value)(c0 c1 c2 c3 c4 c5 c6:Value)(w:World)(hib:Blk w ib #[.int .i64 (i:Int)] 3)(hnb:Blk w nb #[.int .i64 (n:Int)] 3)(hsb:Blk w sb #[.pointer (some ⟨sp,0,none⟩)] 254)
  (hsp:Blk w sp #[c0,c1,c2,c3,c4,c5,c6,.slice (some ⟨ub,0,none⟩) n n] 259) (h:UsAt w lo ub n A U vs) (hAi:A ib/\A nb) (hA:∀b,A b->b<w.heap.size) (hub:¬ A ub) (hlo:lo<=w.heap.size) (hlen:∀k,(U.getD k []).length<=2000000000000) :
  Calls prog 209 #[.int .i64 k,.pointer (some ⟨ib,0,none⟩),.pointer (some ⟨nb,0,none⟩),.pointer (some ⟨sb,0,none⟩)] w fun e w'=>e= .returned (.tuple #[])/\(∃vs',UsAt w' lo ub n A (noteU n i k U) vs')/\UK lo A w w':=by
 have O:=h! h;have h1:=hib.cells;have h2:=hnb.cells;have a9:=h! hib;have a1:=h! hsb;have a3:=h! hsp;have ab:=h! hAi;have a5:=h! hA;have a6:=h! hub;have a0:=h! hlo;have aa:=h! hlen;clear h hib hnb hsb hsp hAi hA hub hlo hlen;by_cases hc:i<n/\0<=k/\k<(n:Int)
 ·have q:=h! (show noteU n i k U=U.set k.toNat (U.getD k.toNat []++[(i:Int)])from by unfold noteU;rw[if_pos hc]);obtain⟨hin,hk0,a8⟩:=hc;obtain⟨m,rfl⟩:=Int.eq_ofNat_of_zero_le hk0;rw[Int.toNat_natCast]at q;have J:(i:Int)<(n:Int):=by omega
  have D:m<n:=by omega
  have p:=h! D;obtain⟨v,hv⟩:∃v,vs[m]?=some v:=⟨_,n4! (by rw[O.out.vlen];exact D)⟩;have M:=h! hv;have HR:=h! (O.out.row m v hv);obtain⟨c,L,Q,rfl,H,-,-⟩:=HR.out.sl.len;rw[ad!,Nat.mul_one]at H;have F:=h! (show(U.getD m []).length<=2000000000000 from aa.out m);clear hv hin H D;go_enter func209,ntmps209
  go_wp2_with fail
  obtain⟨T,y⟩:=e! (World.drew w);have R:=h! (show Ext w T from xd! y);refine as! 16 (Kept (fun x=>x<T.heap.size/\Value.ownBlock (.slice c L Q)≠some x) T) (by rw[<-y];exact Kept.refl _ _) (by kernel_rfl) (by kernel_rfl) (fun _ _ d _ _ h=>by cases d <;> exact h) ?_;rw[<-y];clear y h1 h2;have UD:=h! (O.out.ext R.out);have I:=h! (HR.out.below R.out)
  have z:=h! (show ∀b cs t,Blk T b cs t->t≠3->Value.ownBlock (.slice c L Q)≠some b from fun b cs t hb ht e=>by
   obtain⟨ag,N⟩:=I.out.typed e;rw[show T.heap[b]?=_ from hb]at N;injection N with N
   injection N with _ N _
   exact ht N)
  have g:=a1.out.below R.out;have a:=a3.out.below R.out;have o:=a9.out.below R.out;obtain⟨s,a4,ad,f,C⟩:=UD.out.arr.cellAt;have h1:=fun W (h:Kept (fun x=>x<T.heap.size/\Value.ownBlock (.slice c L Q)≠some x) T W)=>(h.blk g ⟨g.lt,z.out _ _ _ g (by decide)⟩).cells;have h2:=fun W (h:Kept (fun x=>x<T.heap.size/\Value.ownBlock (.slice c L Q)≠some x) T W)=>(h.blk a ⟨a.lt,z.out _ _ _ a (by decide)⟩).cells;have N:=fun W (h:Kept (fun x=>x<T.heap.size/\Value.ownBlock (.slice c L Q)≠some x) T W)=>(h.blk o ⟨o.lt,fun e=>UD.out.off m _ ib M.out e ab.out.1⟩).cells
  have h4:∀W,Kept (fun x=>x<T.heap.size/\Value.ownBlock (.slice c L Q)≠some x) T W->W.cell? ⟨ub,m,none⟩=some (.slice c L Q):=fun W h=>by
   have h5:=h.blk f ⟨f.lt,z.out _ _ _ f (by decide)⟩;have h6:=C m (by rw[s];exact p.out);rw[h5.cells m,<-f.cells m,h6];have:=M.out;rw[n4! (by rw[s];exact p.out)]at this;exact this
  have ae:(m:Int)<(n:Int):=by have:=p.out;omega
  (refine WalkL.tk [0,1,2,3,4,5,6,7,8,9,10,11,12] ?_;(iterate 13 (refine l! ?_));refine TkL.n ?_)
  clear h1 h2 N h4;have r:Ext T (T.alloc (.cells #[.int .i64 (i:Int)] 3)):=Ext.alloc _ _;refine oL! 13 ?_;refine b! ?_;intro K hK;go_simp;refine hK.out _ _ ((Kept.refl _ _).alloc (fun x hx=>hx.1) _) ?_;clear hK;refine oL! 14 ?_;refine b! ?_;intro K hK;refine bD! intsT (.tmp 28) (.tmp 30) rfl rfl (I.out.below r) (m:=1) (news:=[.int .i64 (i:Int)]) rfl rfl (fun j u hu=>?_) (by simp[Value.oneCell']) (by have:=F.out;rw[ad!];simp at *;omega) (by have:=F.out;rw[ad!];simp at *;omega) (by have:=a0.out;have:=R.out.size;simp;omega) (fun v2 w2 hown2 hw2 hg2=>?_)
  ·rw[Addr.add_lit,cell_of_row _ T.heap.size (0+j) #[.int .i64 (i:Int)] 3 (0,0) (heap_alloc_new T _),Nat.zero_add];simpa using hu
  have E:Kept (fun x=>x<T.heap.size/\Value.ownBlock (.slice c L Q)≠some x) T w2:=⟨hg2.os.trans rfl,hg2.tape.trans rfl,hg2.output.trans rfl,n6! (by simp) hg2.size,fun x hx=>(hg2.block x (by have:=hx.1;simp;omega) (fun e=>hx.2 e.symm)).trans (Below.heap_alloc T _ x hx.1)⟩;have G:=h! ((UD.out.ext r).add (x:=(i:Int)) p.out M.out (by rw[bN!];exact hown2) hw2 hg2 (fun b hb=>n1! (a5.out b hb) (n6! R.out.size r.size)) a6.out);have ac:=h! (UK.next (UK.of (lo:=lo) (A:=A) R.out) (UK.next (UK.of r) G.out.2));have B:=E.blk f ⟨f.lt,z.out _ _ _ f (by decide)⟩;refine hK.out _ _ E ?_;clear hK;simp only[Act.put,pA,pZ,pS];obtain⟨o2,n2,af,rfl,-,-,-⟩:=hown2.sl.len
  have a2:w2.cell? ⟨ub,m,none⟩=some (.slice c L Q):=by
   rw[B.cells m,<-f.cells m,C m (by rw[s];exact p.out)];have:=M.out;rw[n4! (by rw[s];exact p.out)]at this;exact this
  have a7:=B.free;clear E hown2 hw2 hg2 r B f C s a4 g a o;((refine WalkL.take 15 _ ?_ (by simp only[gA,gS,gZ];rfl) (by kernel_rfl) (by kernel_rfl) (by kernel_rfl) (by rfl) (fun W hW=>?_) ?_;rotate_left;· (go_simp;try with_reducible rfl));simp only[Act.put,pA,pZ,pS])
  refine WalkL.last (by kernel_rfl) (by kernel_rfl) ?_;refine b! ?_;intro K hK;go_simp;refine hK.out _ _ ?_;clear hK a2 a7;go_end0
  exact⟨rfl,⟨_,by rw[q.out];exact G.out.1⟩,ac.out⟩
 ·have q:=h! (show noteU n i k U=U from by unfold noteU;rw[if_neg hc]);go_enter func209,ntmps209
  by_cases hin:i<n
  ·have J:(i:Int)<(n:Int):=by omega
   by_cases hk0:0<=k
   ·have a8:¬ k<(n:Int):=fun h=>hc ⟨hin,hk0,h⟩;clear hc hin;go_wp2_with fail
    go_end0
    exact⟨rfl,⟨vs,by rw[q.out];exact O.out⟩,UK.refl _ _ _⟩
   ·clear hc hin;go_wp2_with fail
    go_end0
    exact⟨rfl,⟨vs,by rw[q.out];exact O.out⟩,UK.refl _ _ _⟩
  ·have J:¬ (i:Int)<(n:Int):=by omega
   clear hc hin;go_wp2_with fail
   go_end0
   exact⟨rfl,⟨vs,by rw[q.out];exact O.out⟩,UK.refl _ _ _⟩
def J5 {α0 α1 α2 α3 α4:Type}(F:α0->α1->α2->α3->α4->World->Prop)(A:α0->α1->α2->α3->α4->Act)(e:Exit)(a:Act)(W:World):Prop:=e= .normal/\∃(x0:α0)(x1:α1)(x2:α2)(x3:α3)(x4:α4),a=A x0 x1 x2 x3 x4/\F x0 x1 x2 x3 x4 W
theorem WalkN.four {P:Program}{ops:Array Oper}{Q:Exit->Act->World->Prop}{S:World->Prop}{f:Nat}{l:Array Bool}{a:Act}{w:World}(i j m q:Nat)(hr:Region.ready .any ops l=[i,j,m,q])(h:MadeN P ops Q S f l a w i)(h':MadeN P ops Q S f l a w j)(h'':MadeN P ops Q S f l a w m)(h3:MadeN P ops Q S f l a w q):WalkN P ops Q S (f+1) l a w:=by
 refine .inr (.inr ⟨by rw[hr];simp,fun k hk=>?_⟩);rw[hr]at hk;have:k=i\/k=j\/k=m\/k=q:=by simpa using hk
 rcases this with rfl | rfl | rfl | rfl
 ·obtain⟨o,b,c,h⟩:=h;exact⟨o,b,fun K hK=>by rw[if_pos c];exact h K hK⟩
 ·obtain⟨o,b,c,h⟩:=h';exact⟨o,b,fun K hK=>by rw[if_pos c];exact h K hK⟩
 ·obtain⟨o,b,c,h⟩:=h'';exact⟨o,b,fun K hK=>by rw[if_pos c];exact h K hK⟩
 ·obtain⟨o,b,c,h⟩:=h3;exact⟨o,b,fun K hK=>by rw[if_pos c];exact h K hK⟩
theorem js! (n:Nat)(hn:n<=1000000) {lo:Nat}{wd w:World}(hl:lo<=wd.heap.size)(hE:Ext wd w)(e:TypeId)(z:Value):∃g w',w.heap.size=g/\w.alloc (.cells (madeCells #[z] n) e)=w'/\Ext w w'/\Ext wd w'/\Own w' lo e 1 (.slice (some ⟨g,0,none⟩) n n) (List.replicate n z) :=
 ⟨_,_,rfl,rfl,Ext.alloc _ _,hE.trans (Ext.alloc _ _),by
  have hl:=n6! hl hE.size;obtain⟨m,h1,h2⟩:=Own.made1 w n (by omega) e z;rcases h2 with⟨h2,_⟩|⟨g',cap,cur,hv,hbg,hg,hr⟩
  ·cases h2
  ·exact⟨m,h1,.inr ⟨g',cap,cur,hv,n6! hl hbg,hg,hr⟩⟩⟩
theorem mz! {wd w:World}(hE:Ext wd w)(cs:Array Value)(e:TypeId):∃g w',w.heap.size=g/\w.alloc (.cells cs e)=w'/\Ext w w'/\Ext wd w'/\wd.heap.size<=g/\Blk w' g cs e:=⟨_,_,rfl,rfl,Ext.alloc _ _,hE.trans (Ext.alloc _ _),hE.size,Blk.made _ _ _⟩
theorem St11 {wd w:World}{g:Nat}(h:Ext wd w)(hg:wd.heap.size<=g)(u:Value):Ext wd (w.setCell ⟨g,0,none⟩ u):=Below.setCell h hg u
theorem makeS (n:Nat)(h:n<=1000000):∀W,(Instr.makeSlice 257 (.int .i64 (n:Int)) (.int .i64 (n:Int))).run prog W= .ok (.slice (some ⟨W.heap.size,0,none⟩) n n) (W.alloc (.cells (madeCells #[.slice none 0 0] n) 107)):=by
 intro W;obtain⟨i,hi,a⟩:=Option.map_eq_some_iff.1 (show(prog.info? 107).map (fun i=>(i.zero,i.size,i.bytes))=some (some (.slice none 0 0),1,24)by kernel_rfl);simp only[Prod.mk.injEq]at a;obtain⟨hz,hs,hb⟩:=a;have:=run_make (P:=prog) W 257 107 i (.slice none 0 0) Tryz.underlying257 hi hz .i64 .i64 n n (by omega) (by omega) (by rw[hb];omega) (by omega);rw[this,hs,Nat.mul_one];rfl
structure StE0 (lo n:Nat)(pv fv:Value)(s:P3)(wd w:World)(g3 g5 g7 g9 g10:Nat):Prop where
 ext:Ext wd w
 inn:Own w lo 4 1 (.slice (some ⟨g3,0,none⟩) n n) (List.replicate n (.bool false))
 rnd:Own w lo 3 1 (.slice (some ⟨g5,0,none⟩) n n) (List.replicate n (.int .i64 0))
 use:Own w lo 107 1 (.slice (some ⟨g7,0,none⟩) n n) (List.replicate n (.slice none 0 0))
 box:Blk w g9 #[pv,fv,.string s.t,.string s.i,.string s.r,.slice (some ⟨g3,0,none⟩) n n,.slice (some ⟨g5,0,none⟩) n n,.slice (some ⟨g7,0,none⟩) n n] 259
 ptr:Blk w g10 #[.pointer (some ⟨g9,0,none⟩)] 254
 low:wd.heap.size<=g9
theorem StE {lo n:Nat}{pv fv:Value}{s:P3}{wd w:World}{g3 g5 g7 g9 g10:Nat}(hE:Ext wd w)(hg:wd.heap.size<=g10)(hg9:wd.heap.size<=g9)
  (h3:Own w lo 4 1 (.slice (some ⟨g3,0,none⟩) n n) (List.replicate n (.bool false))) (h5:Own w lo 3 1 (.slice (some ⟨g5,0,none⟩) n n) (List.replicate n (.int .i64 0))) (h7:Own w lo 107 1 (.slice (some ⟨g7,0,none⟩) n n) (List.replicate n (.slice none 0 0)))
  (h9:Blk w g9 #[pv,fv,.string s.t,.string s.i,.string s.r,.slice (some ⟨g3,0,none⟩) n n,.slice (some ⟨g5,0,none⟩) n n,.slice (some ⟨g7,0,none⟩) n n] 259) (h10:Blk w g10 #[.pointer none] 254):StE0 lo n pv fv s wd (w.setCell ⟨g10,0,none⟩ (.pointer (some ⟨g9,0,none⟩))) g3 g5 g7 g9 g10:=by
 have a:∀ {e:TypeId} {v:Value} {xs:List Value},Own w lo e 1 v xs->e≠254->Own (w.setCell ⟨g10,0,none⟩ (.pointer (some ⟨g9,0,none⟩))) lo e 1 v xs:=fun h he=>h.keepOwn fun g hg=>Below.heap_setCell _ _ _ _ fun e2=>by
  obtain⟨a1,b⟩:=h.typed hg;rw[show g=g10 from e2,show w.heap[g10]?=_ from h10]at b;injection b with b
  injection b with _ b _
  exact he b.symm
 refine⟨Below.setCell hE hg _,a h3 (by decide),a h5 (by decide),a h7 (by decide),?_,h10.set_to 0 _ rfl,hg9⟩;refine(Below.heap_setCell _ _ _ _ fun e2=>?_).trans h9;have c:w.heap[g9]?=_:=h9;have a0:w.heap[g10]?=_:=h10;rw[show g9=g10 from e2,a0]at c;injection c with c
 injection c with _ c _
 exact absurd c (by decide)
theorem UK.lessA {lo:Nat}{A A':Nat->Prop}{w w':World}(h:UK lo A' w w')(hA:∀b,A b->A' b):UK lo A w w':=Kept.mono h fun b hb=>⟨hb.1,hb.2.imp id fun h=>h.imp (hA b) id⟩
theorem UK.below {lo:Nat}{A:Nat->Prop}{w w':World}(h:UK lo A w w')(hl:lo<=w.heap.size):Below lo w w':=Kept.below (B:=lo) h fun _b hb=>⟨n1! hb hl,.inl hb⟩
theorem UsAt.fewer {w:World}{lo ub n:Nat}{A A':Nat->Prop}{U:List (List Int)}{vs:List Value}(h:UsAt w lo ub n A U vs)(hA:∀b,A' b->A b):UsAt w lo ub n A' U vs:=⟨h.arr,h.vlen,h.ulen,h.row,h.apart,fun k v g hv hg ha=>h.off k v g hv hg (hA g ha)⟩
theorem UsAt.avoid {w:World}{lo ub n:Nat}{A A':Nat->Prop}{U:List (List Int)}{vs:List Value}(h:UsAt w lo ub n A U vs)(hA:∀b,A' b->A b\/w.heap.size<=b):UsAt w lo ub n A' U vs:=⟨h.arr,h.vlen,h.ulen,h.row,h.apart,fun k v g hv hg ha=>by
 rcases hA g ha with h1 | h1
 ·exact h.off k v g hv hg h1
 ·have:=((h.row k v hv).block g hg).2;omega⟩
theorem UsAt.start {w:World}{lo ub n:Nat}(A:Nat->Prop)(h:Own w lo 107 1 (.slice (some ⟨ub,0,none⟩) n n) (List.replicate n (.slice none 0 0))):UsAt w lo ub n A (List.replicate n []) (List.replicate n (.slice none 0 0)) where
 arr:=h
 vlen:=List.length_replicate
 ulen:=List.length_replicate
 row k v hv:=by
  rw[List.getElem?_replicate]at hv;split at hv
  ·obtain rfl:=v5! hv;rw[show(List.replicate n ([]:List Int)).getD k []=[]from by rw[n8!,List.getElem?_replicate];split <;> rfl];exact Own.nil _ _ _ _
  ·cases hv
 apart j k v u g _ hv _ hg:=by
  rw[List.getElem?_replicate]at hv;split at hv
  ·obtain rfl:=v5! hv;cases hg
  ·cases hv
 off k v g hv hg:=by
  rw[List.getElem?_replicate]at hv;split at hv
  ·obtain rfl:=v5! hv;cases hg
  ·cases hv
theorem mo!:∀(U:List (List Int))(k:Nat)(x:Int),k<U.length->((U.set k (U.getD k []++[x])).map List.length).sum=(U.map List.length).sum+1
 | a::U,0,x,_=>by simp;omega
 | a::U,k+1,x,h=>by
  have ih:=mo! U k x (by simpa using h);simp only[List.set_cons_succ,v8!,List.sum_cons,List.getD_cons_succ]at ih ⊢;omega
theorem jB!:∀(U:List (List Int))(k:Nat),(U.getD k []).length<=(U.map List.length).sum
 | [],k=>by simp
 | a::U,0=>by simp
 | a::U,k+1=>by
  have:=jB! U k;simp only[v8!,List.sum_cons,List.getD_cons_succ];omega
structure UsTo (fs:List FT)(n i:Nat)(ks:List Int)(U:List (List Int)):Prop where
 len:U.length=n
 mem:∀k:Nat,k<n->∀x:Int,x∈U.getD k []↔(∃j:Nat,∃hf:j<fs.length,j<i/\x=(j:Int)/\j<n/\(k:Int)∈fs[j].named)\/(x=(i:Int)/\i<n/\(k:Int)∈ks)
 sum:(U.map List.length).sum<=(nmdL (fs.take i)).length+ks.length
theorem UsTo.start (fs:List FT)(n:Nat):UsTo fs n 0 [] (List.replicate n []):=by
 have h:∀k:Nat,(List.replicate n ([]:List Int)).getD k []=[]:=fun k=>by rw[n8!,List.getElem?_replicate];split <;> rfl
 exact⟨List.length_replicate,fun k hk x=>by rw[h];simp,by rw[List.map_replicate];simp⟩
theorem UsTo.note {fs:List FT}{n i:Nat}{ks:List Int}{U:List (List Int)}(h:UsTo fs n i ks U)(k:Int):UsTo fs n i (ks++[k]) (noteU n i k U):=by
 unfold noteU;split
 ·next hc =>
  obtain⟨h1,h2,a⟩:=hc;refine⟨by rw[List.length_set];exact h.len,fun m hm x=>?_,?_⟩
  ·rw[dP!,h.len];by_cases e:m=k.toNat
   ·have hk:(m:Int)=k:=by omega
    rw[if_pos ⟨e,by omega⟩,u3!,n9!,<-e,h.mem m hm x];simp only[u3!,n9!,hk,or_true,and_true];constructor
    ·rintro((h | h) | h)
     ·exact .inl h
     ·exact .inr ⟨h.1,h.2.1⟩
     ·exact .inr ⟨h,h1⟩
    ·rintro(h | h)
     ·exact .inl (.inl h)
     ·exact .inr h.1
   ·have hk:¬ (m:Int)=k:=by omega
    rw[if_neg fun h=>e h.1,h.mem m hm x];simp only[u3!,n9!,hk,or_false]
  ·rw[mo! _ _ _ (by rw[h.len];omega)];have h4:=h.sum;simp only[u4!,List.length_singleton];omega
 ·next hc =>
  refine⟨h.len,fun m hm x=>?_,?_⟩
  ·rw[h.mem m hm x];constructor
   ·rintro(h | h)
    ·exact .inl h
    ·exact .inr ⟨h.1,h.2.1,List.mem_append_left _ h.2.2⟩
   ·rintro(h | ⟨h1,h2,a⟩)
    ·exact .inl h
    ·rcases u3!.1 a with a | a
     ·exact .inr ⟨h1,h2,a⟩
     ·have:=n9!.1 a;exact absurd ⟨h2,by omega,by omega⟩ hc
  ·have h5:=h.sum;simp only[u4!,List.length_singleton];omega
theorem UsTo.next {fs:List FT}{n i:Nat}{U:List (List Int)}(hi:i<fs.length)(h:UsTo fs n i fs[i].named U):UsTo fs n (i+1) [] U:=by
 refine⟨h.len,fun m hm x=>?_,?_⟩
 ·rw[h.mem m hm x];constructor
  ·rintro(⟨j,hf,h1,h2⟩|⟨h1,h2,h3⟩)
   ·exact .inl ⟨j,hf,by omega,h2⟩
   ·exact .inl ⟨i,hi,by omega,h1,h2,h3⟩
  ·rintro(⟨j,hf,h1,h2,h3,h4⟩|⟨_,_,h⟩)
   ·by_cases e:j=i
    ·subst e;exact .inr ⟨h2,h3,h4⟩
    ·exact .inl ⟨j,hf,by omega,h2,h3,h4⟩
   ·cases h
 ·rw[eK! hi,u4!];have:=h.sum;simp only[v6!];omega
theorem UsTo.done {fs:List FT}{n:Nat}{U:List (List Int)}(h:UsTo fs n fs.length [] U):UsOf fs n U:=fun k hk x=>by
 rw[h.mem k hk x];constructor
 ·rintro(⟨j,hf,_,h1,h2,h3⟩|⟨_,_,h⟩)
  ·exact⟨j,hf,h1,h2,h3⟩
  ·cases h
 ·rintro⟨j,hf,h1,h2,h3⟩;exact .inl ⟨j,hf,hf,h1,h2,h3⟩
structure StAt (w:World)(lo sp gi gr ub n:Nat)(pv fv:Value)(s:P3)(L:List Bool)(R:List Int)(U:List (List Int))(vs:List Value):Prop where
 box:Blk w sp #[pv,fv,.string s.t,.string s.i,.string s.r,.slice (some ⟨gi,0,none⟩) n n,.slice (some ⟨gr,0,none⟩) n n,.slice (some ⟨ub,0,none⟩) n n] 259
 inn:Own w lo 4 1 (.slice (some ⟨gi,0,none⟩) n n) (boC L)
 rnd:Own w lo 3 1 (.slice (some ⟨gr,0,none⟩) n n) (ic R)
 use:UsAt w lo ub n (fun b=>b=gr) U vs
theorem kU! (s:P3)(ps:List P3)(fs:List FT)(pv fv:Value)(w:World)(h:GrAt (· < w.heap.size) w ps fs pv fv)(hnm:ps.length<=1000000)(hfm:fs.length<=1000000)(hnn:(nmdL fs).length<=1000000000000) :
  Calls prog 153 #[.agg #[pv,fv],pV s] w fun e w'=>(∃sp gi gr ub U vs,e= .returned (.pointer (some ⟨sp,0,none⟩))/\w.heap.size<=sp/\StAt w' w.heap.size sp gi gr ub ps.length pv fv s (inN fs s ps.length 0) (outN fs s ps.length 0) U vs/\UsTo fs ps.length fs.length [] U)/\Below w.heap.size w w':=by
 have H0:=h! h;obtain⟨ap,cp,af,cf,e1,e2,-,-,-,-,-⟩:=h.rows;have X:=h! hnm;have ah:=h! hfm;have a1:=h! hnn;have ai:=makeI ps.length (by omega);have ab:=makeB ps.length (by omega);have am:=makeS ps.length (by omega);clear h hnm hfm hnn;generalize hn:ps.length=n at *;unfold pV;obtain⟨wa,C⟩:=e! (w.alloc (.cells #[pv,fv] 96));obtain⟨wb,D⟩:=e! (wa.alloc (.cells #[.string s.t,.string s.i,.string s.r] 33));obtain⟨wc,F⟩:=e! (wb.alloc (.cells #[.int .i64 (n:Int)] 3));have ea:wa.heap.size=w.heap.size+1:=by rw[C];simp
 have eb:wb.heap.size=w.heap.size+1+1:=by rw[D];simp[ea]
 have ec:wc.heap.size=w.heap.size+1+1+1:=by rw[F];simp[eb]
 have xa:Ext w wa:=xa! C
 have xb:Ext wa wb:=xa! D
 have xc:Ext wb wc:=xa! F
 have XC:Hid (Ext w wc):=h! (xa.trans (xb.trans xc));have BG:=h! (show Blk wc w.heap.size #[pv,fv] 96 from Blk.below (bm! C) (xb.trans xc));have BS:=h! (show Blk wc (w.heap.size+1) #[.string s.t,.string s.i,.string s.r] 33 from Blk.below (by rw[D,<-ea];exact Blk.made _ _ _) xc);have BN:=h! (show Blk wc (w.heap.size+1+1) #[.int .i64 (n:Int)] 3 from by rw[F,<-eb];exact Blk.made _ _ _);have EC:=h! ec;have hA:=(show Blk wb w.heap.size #[pv,fv] 96 from Blk.below (bm! C) xb).cells;clear ea eb ec xa xb xc;rw[D,C]at hA;subst e1 e2;go_enter func153,ntmps153
 go_wp2_with fail
 rw[<-C,<-D,<-F];clear hA C D F;obtain⟨lo,z⟩:∃y,Hid (y=w.heap.size):=⟨_,h! rfl⟩;obtain⟨pv,a0⟩:∃y,Hid (y=Value.slice ap n cp):=⟨_,h! rfl⟩;obtain⟨fv,a7⟩:∃y,Hid (y=Value.slice af fs.length cf):=⟨_,h! rfl⟩;obtain⟨wd,M⟩:∃wd,Hid (wd=wc.drew):=⟨_,h! rfl⟩;have v:=h! (show Ext wc wd from xd! M.out);have L:=h! (show lo<=wd.heap.size from by rw[z.out];exact n6! XC.out.size v.out.size);apply Code.wp_mono (Q:=J5 (fun(g3 g5 g7 g9 l:Nat) W=>StE0 lo n pv fv s wd W g3 g5 g7 g9 l) _) ?rest ?reg
 case reg =>
  have hE:Ext wd wd:=Ext.refl wd;refine bZ! (Ext wd) (by rw[<-M.out];exact Ext.refl _) (by kernel_rfl) (by kernel_rfl) (fun _ _ d _ _ h=>by cases h.1) ?_;rw[<-M.out];have h1:=fun W (h:Ext wd W)=>(BG.out.below (v.out.trans h)).cells;have h2:=fun W (h:Ext wd W)=>(BS.out.below (v.out.trans h)).cells;have h3:=fun W (h:Ext wd W)=>(BN.out.below (v.out.trans h)).cells;rw[<-a0.out,<-a7.out]at h1;(refine WalkN.tk [0,1,2,4,6] ?_;(iterate 5 (refine c! ?_));refine TkN.n ?_)
  clear h1 h2 h3;have N3:=h! (fun W (hE:Ext wd W)=>js! n X.out L.out hE 4 (.bool false));have N5:=h! (fun W (hE:Ext wd W)=>js! n X.out L.out hE 3 (.int .i64 0));have N7:=h! (fun W (hE:Ext wd W)=>js! n X.out L.out hE 107 (.slice none 0 0));have q:=h! (fun W (hE:Ext wd W)=>mz! hE #[.pointer none] 254);have N9:=h! (fun g3 g5 g7 W (hE:Ext wd W)=>mz! hE #[pv,fv,.string s.t,.string s.i,.string s.r,.slice (some ⟨g3,0,none⟩) n n,.slice (some ⟨g5,0,none⟩) n n,.slice (some ⟨g7,0,none⟩) n n] 259);refine WalkN.four 3 5 7 10 (by kernel_rfl) ?_ ?_ ?_ ?_;refine b! ?_;intro K hK;go_simp;obtain⟨g3,u1,e1,e2,hx,hE,H3⟩:=N3.out _ hE;rw[e2,e1];refine hK.out _ _ hE ?_;clear hK e1 e2;clear hx;refine WalkN.three 5 7 10 (by kernel_rfl) ?_ ?_ ?_;refine b! ?_;intro K hK;go_simp;obtain⟨g5,u2,e1,e2,hx,hE,H5⟩:=N5.out _ hE;rw[e2,e1];refine hK.out _ _ hE ?_;clear hK e1 e2;have H3:=H3.below hx;clear hx;refine p! 7 10 ?_ ?_;refine b! ?_;intro K hK;go_simp;obtain⟨g7,u3,e1,e2,hx,hE,H7⟩:=N7.out _ hE;rw[e2,e1];refine hK.out _ _ hE ?_;clear hK e1 e2;have H3:=H3.below hx;have H5:=H5.below hx;clear hx;refine t! 8 ?_
  refine p! 9 10 ?_ ?_;refine b! ?_;intro K hK;go_simp;obtain⟨g9,u4,e1,e2,hx,hE,j,H9⟩:=N9.out g3 g5 g7 _ hE;rw[e2,e1];refine hK.out _ _ hE ?_;clear hK e1 e2;have H3:=H3.below hx;have H5:=H5.below hx;have H7:=H7.below hx;clear hx;refine ob! 10 ?_;intro K hK;go_simp;obtain⟨l,u5,e1,e2,hx,hE,f,a⟩:=q.out _ hE;rw[e2,e1];refine hK.out _ _ hE ?_;clear hK e1 e2;have H3:=H3.below hx;have H5:=H5.below hx;have H7:=H7.below hx;have H9:=H9.below hx;clear hx;rotate_left
  refine b! ?_;intro K hK;go_simp;obtain⟨l,u4,e1,e2,hx,hE,f,a⟩:=q.out _ hE;rw[e2,e1];refine hK.out _ _ hE ?_;clear hK e1 e2;have H3:=H3.below hx;have H5:=H5.below hx;have H7:=H7.below hx;clear hx;refine ob! 9 ?_;intro K hK;go_simp;obtain⟨g9,u5,e1,e2,hx,hE,j,H9⟩:=N9.out g3 g5 g7 _ hE;rw[e2,e1];refine hK.out _ _ hE ?_;clear hK e1 e2;have H3:=H3.below hx;have H5:=H5.below hx;have H7:=H7.below hx;have a:=a.below hx;clear hx;rotate_left
  refine b! ?_;intro K hK;go_simp;obtain⟨l,u3,e1,e2,hx,hE,f,a⟩:=q.out _ hE;rw[e2,e1];refine hK.out _ _ hE ?_;clear hK e1 e2;have H3:=H3.below hx;have H5:=H5.below hx;clear hx;refine ob! 7 ?_;intro K hK;go_simp;obtain⟨g7,u4,e1,e2,hx,hE,H7⟩:=N7.out _ hE;rw[e2,e1];refine hK.out _ _ hE ?_;clear hK e1 e2;have H3:=H3.below hx;have H5:=H5.below hx;have a:=a.below hx;clear hx;refine t! 8 ?_
  refine ob! 9 ?_;intro K hK;go_simp;obtain⟨g9,u5,e1,e2,hx,hE,j,H9⟩:=N9.out g3 g5 g7 _ hE;rw[e2,e1];refine hK.out _ _ hE ?_;clear hK e1 e2;have H3:=H3.below hx;have H5:=H5.below hx;have H7:=H7.below hx;have a:=a.below hx;clear hx;rotate_left
  refine b! ?_;intro K hK;go_simp;obtain⟨g7,u2,e1,e2,hx,hE,H7⟩:=N7.out _ hE;rw[e2,e1];refine hK.out _ _ hE ?_;clear hK e1 e2;have H3:=H3.below hx;clear hx;refine p! 5 10 ?_ ?_;refine b! ?_;intro K hK;go_simp;obtain⟨g5,u3,e1,e2,hx,hE,H5⟩:=N5.out _ hE;rw[e2,e1];refine hK.out _ _ hE ?_;clear hK e1 e2;have H3:=H3.below hx;have H7:=H7.below hx;clear hx;refine t! 8 ?_
  refine p! 9 10 ?_ ?_;refine b! ?_;intro K hK;go_simp;obtain⟨g9,u4,e1,e2,hx,hE,j,H9⟩:=N9.out g3 g5 g7 _ hE;rw[e2,e1];refine hK.out _ _ hE ?_;clear hK e1 e2;have H3:=H3.below hx;have H5:=H5.below hx;have H7:=H7.below hx;clear hx;refine ob! 10 ?_;intro K hK;go_simp;obtain⟨l,u5,e1,e2,hx,hE,f,a⟩:=q.out _ hE;rw[e2,e1];refine hK.out _ _ hE ?_;clear hK e1 e2;have H3:=H3.below hx;have H5:=H5.below hx;have H7:=H7.below hx;have H9:=H9.below hx;clear hx;rotate_left
  refine b! ?_;intro K hK;go_simp;obtain⟨l,u4,e1,e2,hx,hE,f,a⟩:=q.out _ hE;rw[e2,e1];refine hK.out _ _ hE ?_;clear hK e1 e2;have H3:=H3.below hx;have H5:=H5.below hx;have H7:=H7.below hx;clear hx;refine ob! 9 ?_;intro K hK;go_simp;obtain⟨g9,u5,e1,e2,hx,hE,j,H9⟩:=N9.out g3 g5 g7 _ hE;rw[e2,e1];refine hK.out _ _ hE ?_;clear hK e1 e2;have H3:=H3.below hx;have H5:=H5.below hx;have H7:=H7.below hx;have a:=a.below hx;clear hx;rotate_left
  refine b! ?_;intro K hK;go_simp;obtain⟨l,u3,e1,e2,hx,hE,f,a⟩:=q.out _ hE;rw[e2,e1];refine hK.out _ _ hE ?_;clear hK e1 e2;have H3:=H3.below hx;have H7:=H7.below hx;clear hx;refine ob! 5 ?_;intro K hK;go_simp;obtain⟨g5,u4,e1,e2,hx,hE,H5⟩:=N5.out _ hE;rw[e2,e1];refine hK.out _ _ hE ?_;clear hK e1 e2;have H3:=H3.below hx;have H7:=H7.below hx;have a:=a.below hx;clear hx;refine t! 8 ?_
  refine ob! 9 ?_;intro K hK;go_simp;obtain⟨g9,u5,e1,e2,hx,hE,j,H9⟩:=N9.out g3 g5 g7 _ hE;rw[e2,e1];refine hK.out _ _ hE ?_;clear hK e1 e2;have H3:=H3.below hx;have H5:=H5.below hx;have H7:=H7.below hx;have a:=a.below hx;clear hx;rotate_left
  refine b! ?_;intro K hK;go_simp;obtain⟨l,u2,e1,e2,hx,hE,f,a⟩:=q.out _ hE;rw[e2,e1];refine hK.out _ _ hE ?_;clear hK e1 e2;have H3:=H3.below hx;clear hx;refine p! 5 7 ?_ ?_;refine b! ?_;intro K hK;go_simp;obtain⟨g5,u3,e1,e2,hx,hE,H5⟩:=N5.out _ hE;rw[e2,e1];refine hK.out _ _ hE ?_;clear hK e1 e2;have H3:=H3.below hx;have a:=a.below hx;clear hx;refine ob! 7 ?_;intro K hK;go_simp;obtain⟨g7,u4,e1,e2,hx,hE,H7⟩:=N7.out _ hE;rw[e2,e1];refine hK.out _ _ hE ?_;clear hK e1 e2;have H3:=H3.below hx;have H5:=H5.below hx;have a:=a.below hx;clear hx;refine t! 8 ?_
  refine ob! 9 ?_;intro K hK;go_simp;obtain⟨g9,u5,e1,e2,hx,hE,j,H9⟩:=N9.out g3 g5 g7 _ hE;rw[e2,e1];refine hK.out _ _ hE ?_;clear hK e1 e2;have H3:=H3.below hx;have H5:=H5.below hx;have H7:=H7.below hx;have a:=a.below hx;clear hx;rotate_left
  refine b! ?_;intro K hK;go_simp;obtain⟨g7,u3,e1,e2,hx,hE,H7⟩:=N7.out _ hE;rw[e2,e1];refine hK.out _ _ hE ?_;clear hK e1 e2;have H3:=H3.below hx;have a:=a.below hx;clear hx;refine ob! 5 ?_;intro K hK;go_simp;obtain⟨g5,u4,e1,e2,hx,hE,H5⟩:=N5.out _ hE;rw[e2,e1];refine hK.out _ _ hE ?_;clear hK e1 e2;have H3:=H3.below hx;have H7:=H7.below hx;have a:=a.below hx;clear hx;refine t! 8 ?_
  refine ob! 9 ?_;intro K hK;go_simp;obtain⟨g9,u5,e1,e2,hx,hE,j,H9⟩:=N9.out g3 g5 g7 _ hE;rw[e2,e1];refine hK.out _ _ hE ?_;clear hK e1 e2;have H3:=H3.below hx;have H5:=H5.below hx;have H7:=H7.below hx;have a:=a.below hx;clear hx;rotate_left
  refine b! ?_;intro K hK;go_simp;obtain⟨g5,u1,e1,e2,hx,hE,H5⟩:=N5.out _ hE;rw[e2,e1];refine hK.out _ _ hE ?_;clear hK e1 e2;clear hx;refine WalkN.three 3 7 10 (by kernel_rfl) ?_ ?_ ?_;refine b! ?_;intro K hK;go_simp;obtain⟨g3,u2,e1,e2,hx,hE,H3⟩:=N3.out _ hE;rw[e2,e1];refine hK.out _ _ hE ?_;clear hK e1 e2;have H5:=H5.below hx;clear hx;refine p! 7 10 ?_ ?_;refine b! ?_;intro K hK;go_simp;obtain⟨g7,u3,e1,e2,hx,hE,H7⟩:=N7.out _ hE;rw[e2,e1];refine hK.out _ _ hE ?_;clear hK e1 e2;have H3:=H3.below hx;have H5:=H5.below hx;clear hx;refine t! 8 ?_
  refine p! 9 10 ?_ ?_;refine b! ?_;intro K hK;go_simp;obtain⟨g9,u4,e1,e2,hx,hE,j,H9⟩:=N9.out g3 g5 g7 _ hE;rw[e2,e1];refine hK.out _ _ hE ?_;clear hK e1 e2;have H3:=H3.below hx;have H5:=H5.below hx;have H7:=H7.below hx;clear hx;refine ob! 10 ?_;intro K hK;go_simp;obtain⟨l,u5,e1,e2,hx,hE,f,a⟩:=q.out _ hE;rw[e2,e1];refine hK.out _ _ hE ?_;clear hK e1 e2;have H3:=H3.below hx;have H5:=H5.below hx;have H7:=H7.below hx;have H9:=H9.below hx;clear hx;rotate_left
  refine b! ?_;intro K hK;go_simp;obtain⟨l,u4,e1,e2,hx,hE,f,a⟩:=q.out _ hE;rw[e2,e1];refine hK.out _ _ hE ?_;clear hK e1 e2;have H3:=H3.below hx;have H5:=H5.below hx;have H7:=H7.below hx;clear hx;refine ob! 9 ?_;intro K hK;go_simp;obtain⟨g9,u5,e1,e2,hx,hE,j,H9⟩:=N9.out g3 g5 g7 _ hE;rw[e2,e1];refine hK.out _ _ hE ?_;clear hK e1 e2;have H3:=H3.below hx;have H5:=H5.below hx;have H7:=H7.below hx;have a:=a.below hx;clear hx;rotate_left
  refine b! ?_;intro K hK;go_simp;obtain⟨l,u3,e1,e2,hx,hE,f,a⟩:=q.out _ hE;rw[e2,e1];refine hK.out _ _ hE ?_;clear hK e1 e2;have H3:=H3.below hx;have H5:=H5.below hx;clear hx;refine ob! 7 ?_;intro K hK;go_simp;obtain⟨g7,u4,e1,e2,hx,hE,H7⟩:=N7.out _ hE;rw[e2,e1];refine hK.out _ _ hE ?_;clear hK e1 e2;have H3:=H3.below hx;have H5:=H5.below hx;have a:=a.below hx;clear hx;refine t! 8 ?_
  refine ob! 9 ?_;intro K hK;go_simp;obtain⟨g9,u5,e1,e2,hx,hE,j,H9⟩:=N9.out g3 g5 g7 _ hE;rw[e2,e1];refine hK.out _ _ hE ?_;clear hK e1 e2;have H3:=H3.below hx;have H5:=H5.below hx;have H7:=H7.below hx;have a:=a.below hx;clear hx;rotate_left
  refine b! ?_;intro K hK;go_simp;obtain⟨g7,u2,e1,e2,hx,hE,H7⟩:=N7.out _ hE;rw[e2,e1];refine hK.out _ _ hE ?_;clear hK e1 e2;have H5:=H5.below hx;clear hx;refine p! 3 10 ?_ ?_;refine b! ?_;intro K hK;go_simp;obtain⟨g3,u3,e1,e2,hx,hE,H3⟩:=N3.out _ hE;rw[e2,e1];refine hK.out _ _ hE ?_;clear hK e1 e2;have H5:=H5.below hx;have H7:=H7.below hx;clear hx;refine t! 8 ?_
  refine p! 9 10 ?_ ?_;refine b! ?_;intro K hK;go_simp;obtain⟨g9,u4,e1,e2,hx,hE,j,H9⟩:=N9.out g3 g5 g7 _ hE;rw[e2,e1];refine hK.out _ _ hE ?_;clear hK e1 e2;have H3:=H3.below hx;have H5:=H5.below hx;have H7:=H7.below hx;clear hx;refine ob! 10 ?_;intro K hK;go_simp;obtain⟨l,u5,e1,e2,hx,hE,f,a⟩:=q.out _ hE;rw[e2,e1];refine hK.out _ _ hE ?_;clear hK e1 e2;have H3:=H3.below hx;have H5:=H5.below hx;have H7:=H7.below hx;have H9:=H9.below hx;clear hx;rotate_left
  refine b! ?_;intro K hK;go_simp;obtain⟨l,u4,e1,e2,hx,hE,f,a⟩:=q.out _ hE;rw[e2,e1];refine hK.out _ _ hE ?_;clear hK e1 e2;have H3:=H3.below hx;have H5:=H5.below hx;have H7:=H7.below hx;clear hx;refine ob! 9 ?_;intro K hK;go_simp;obtain⟨g9,u5,e1,e2,hx,hE,j,H9⟩:=N9.out g3 g5 g7 _ hE;rw[e2,e1];refine hK.out _ _ hE ?_;clear hK e1 e2;have H3:=H3.below hx;have H5:=H5.below hx;have H7:=H7.below hx;have a:=a.below hx;clear hx;rotate_left
  refine b! ?_;intro K hK;go_simp;obtain⟨l,u3,e1,e2,hx,hE,f,a⟩:=q.out _ hE;rw[e2,e1];refine hK.out _ _ hE ?_;clear hK e1 e2;have H5:=H5.below hx;have H7:=H7.below hx;clear hx;refine ob! 3 ?_;intro K hK;go_simp;obtain⟨g3,u4,e1,e2,hx,hE,H3⟩:=N3.out _ hE;rw[e2,e1];refine hK.out _ _ hE ?_;clear hK e1 e2;have H5:=H5.below hx;have H7:=H7.below hx;have a:=a.below hx;clear hx;refine t! 8 ?_
  refine ob! 9 ?_;intro K hK;go_simp;obtain⟨g9,u5,e1,e2,hx,hE,j,H9⟩:=N9.out g3 g5 g7 _ hE;rw[e2,e1];refine hK.out _ _ hE ?_;clear hK e1 e2;have H3:=H3.below hx;have H5:=H5.below hx;have H7:=H7.below hx;have a:=a.below hx;clear hx;rotate_left
  refine b! ?_;intro K hK;go_simp;obtain⟨l,u2,e1,e2,hx,hE,f,a⟩:=q.out _ hE;rw[e2,e1];refine hK.out _ _ hE ?_;clear hK e1 e2;have H5:=H5.below hx;clear hx;refine p! 3 7 ?_ ?_;refine b! ?_;intro K hK;go_simp;obtain⟨g3,u3,e1,e2,hx,hE,H3⟩:=N3.out _ hE;rw[e2,e1];refine hK.out _ _ hE ?_;clear hK e1 e2;have H5:=H5.below hx;have a:=a.below hx;clear hx;refine ob! 7 ?_;intro K hK;go_simp;obtain⟨g7,u4,e1,e2,hx,hE,H7⟩:=N7.out _ hE;rw[e2,e1];refine hK.out _ _ hE ?_;clear hK e1 e2;have H3:=H3.below hx;have H5:=H5.below hx;have a:=a.below hx;clear hx;refine t! 8 ?_
  refine ob! 9 ?_;intro K hK;go_simp;obtain⟨g9,u5,e1,e2,hx,hE,j,H9⟩:=N9.out g3 g5 g7 _ hE;rw[e2,e1];refine hK.out _ _ hE ?_;clear hK e1 e2;have H3:=H3.below hx;have H5:=H5.below hx;have H7:=H7.below hx;have a:=a.below hx;clear hx;rotate_left
  refine b! ?_;intro K hK;go_simp;obtain⟨g7,u3,e1,e2,hx,hE,H7⟩:=N7.out _ hE;rw[e2,e1];refine hK.out _ _ hE ?_;clear hK e1 e2;have H5:=H5.below hx;have a:=a.below hx;clear hx;refine ob! 3 ?_;intro K hK;go_simp;obtain⟨g3,u4,e1,e2,hx,hE,H3⟩:=N3.out _ hE;rw[e2,e1];refine hK.out _ _ hE ?_;clear hK e1 e2;have H5:=H5.below hx;have H7:=H7.below hx;have a:=a.below hx;clear hx;refine t! 8 ?_
  refine ob! 9 ?_;intro K hK;go_simp;obtain⟨g9,u5,e1,e2,hx,hE,j,H9⟩:=N9.out g3 g5 g7 _ hE;rw[e2,e1];refine hK.out _ _ hE ?_;clear hK e1 e2;have H3:=H3.below hx;have H5:=H5.below hx;have H7:=H7.below hx;have a:=a.below hx;clear hx;rotate_left
  refine b! ?_;intro K hK;go_simp;obtain⟨g7,u1,e1,e2,hx,hE,H7⟩:=N7.out _ hE;rw[e2,e1];refine hK.out _ _ hE ?_;clear hK e1 e2;clear hx;refine WalkN.three 3 5 10 (by kernel_rfl) ?_ ?_ ?_;refine b! ?_;intro K hK;go_simp;obtain⟨g3,u2,e1,e2,hx,hE,H3⟩:=N3.out _ hE;rw[e2,e1];refine hK.out _ _ hE ?_;clear hK e1 e2;have H7:=H7.below hx;clear hx;refine p! 5 10 ?_ ?_;refine b! ?_;intro K hK;go_simp;obtain⟨g5,u3,e1,e2,hx,hE,H5⟩:=N5.out _ hE;rw[e2,e1];refine hK.out _ _ hE ?_;clear hK e1 e2;have H3:=H3.below hx;have H7:=H7.below hx;clear hx;refine t! 8 ?_
  refine p! 9 10 ?_ ?_;refine b! ?_;intro K hK;go_simp;obtain⟨g9,u4,e1,e2,hx,hE,j,H9⟩:=N9.out g3 g5 g7 _ hE;rw[e2,e1];refine hK.out _ _ hE ?_;clear hK e1 e2;have H3:=H3.below hx;have H5:=H5.below hx;have H7:=H7.below hx;clear hx;refine ob! 10 ?_;intro K hK;go_simp;obtain⟨l,u5,e1,e2,hx,hE,f,a⟩:=q.out _ hE;rw[e2,e1];refine hK.out _ _ hE ?_;clear hK e1 e2;have H3:=H3.below hx;have H5:=H5.below hx;have H7:=H7.below hx;have H9:=H9.below hx;clear hx;rotate_left
  refine b! ?_;intro K hK;go_simp;obtain⟨l,u4,e1,e2,hx,hE,f,a⟩:=q.out _ hE;rw[e2,e1];refine hK.out _ _ hE ?_;clear hK e1 e2;have H3:=H3.below hx;have H5:=H5.below hx;have H7:=H7.below hx;clear hx;refine ob! 9 ?_;intro K hK;go_simp;obtain⟨g9,u5,e1,e2,hx,hE,j,H9⟩:=N9.out g3 g5 g7 _ hE;rw[e2,e1];refine hK.out _ _ hE ?_;clear hK e1 e2;have H3:=H3.below hx;have H5:=H5.below hx;have H7:=H7.below hx;have a:=a.below hx;clear hx;rotate_left
  refine b! ?_;intro K hK;go_simp;obtain⟨l,u3,e1,e2,hx,hE,f,a⟩:=q.out _ hE;rw[e2,e1];refine hK.out _ _ hE ?_;clear hK e1 e2;have H3:=H3.below hx;have H7:=H7.below hx;clear hx;refine ob! 5 ?_;intro K hK;go_simp;obtain⟨g5,u4,e1,e2,hx,hE,H5⟩:=N5.out _ hE;rw[e2,e1];refine hK.out _ _ hE ?_;clear hK e1 e2;have H3:=H3.below hx;have H7:=H7.below hx;have a:=a.below hx;clear hx;refine t! 8 ?_
  refine ob! 9 ?_;intro K hK;go_simp;obtain⟨g9,u5,e1,e2,hx,hE,j,H9⟩:=N9.out g3 g5 g7 _ hE;rw[e2,e1];refine hK.out _ _ hE ?_;clear hK e1 e2;have H3:=H3.below hx;have H5:=H5.below hx;have H7:=H7.below hx;have a:=a.below hx;clear hx;rotate_left
  refine b! ?_;intro K hK;go_simp;obtain⟨g5,u2,e1,e2,hx,hE,H5⟩:=N5.out _ hE;rw[e2,e1];refine hK.out _ _ hE ?_;clear hK e1 e2;have H7:=H7.below hx;clear hx;refine p! 3 10 ?_ ?_;refine b! ?_;intro K hK;go_simp;obtain⟨g3,u3,e1,e2,hx,hE,H3⟩:=N3.out _ hE;rw[e2,e1];refine hK.out _ _ hE ?_;clear hK e1 e2;have H5:=H5.below hx;have H7:=H7.below hx;clear hx;refine t! 8 ?_
  refine p! 9 10 ?_ ?_;refine b! ?_;intro K hK;go_simp;obtain⟨g9,u4,e1,e2,hx,hE,j,H9⟩:=N9.out g3 g5 g7 _ hE;rw[e2,e1];refine hK.out _ _ hE ?_;clear hK e1 e2;have H3:=H3.below hx;have H5:=H5.below hx;have H7:=H7.below hx;clear hx;refine ob! 10 ?_;intro K hK;go_simp;obtain⟨l,u5,e1,e2,hx,hE,f,a⟩:=q.out _ hE;rw[e2,e1];refine hK.out _ _ hE ?_;clear hK e1 e2;have H3:=H3.below hx;have H5:=H5.below hx;have H7:=H7.below hx;have H9:=H9.below hx;clear hx;rotate_left
  refine b! ?_;intro K hK;go_simp;obtain⟨l,u4,e1,e2,hx,hE,f,a⟩:=q.out _ hE;rw[e2,e1];refine hK.out _ _ hE ?_;clear hK e1 e2;have H3:=H3.below hx;have H5:=H5.below hx;have H7:=H7.below hx;clear hx;refine ob! 9 ?_;intro K hK;go_simp;obtain⟨g9,u5,e1,e2,hx,hE,j,H9⟩:=N9.out g3 g5 g7 _ hE;rw[e2,e1];refine hK.out _ _ hE ?_;clear hK e1 e2;have H3:=H3.below hx;have H5:=H5.below hx;have H7:=H7.below hx;have a:=a.below hx;clear hx;rotate_left
  refine b! ?_;intro K hK;go_simp;obtain⟨l,u3,e1,e2,hx,hE,f,a⟩:=q.out _ hE;rw[e2,e1];refine hK.out _ _ hE ?_;clear hK e1 e2;have H5:=H5.below hx;have H7:=H7.below hx;clear hx;refine ob! 3 ?_;intro K hK;go_simp;obtain⟨g3,u4,e1,e2,hx,hE,H3⟩:=N3.out _ hE;rw[e2,e1];refine hK.out _ _ hE ?_;clear hK e1 e2;have H5:=H5.below hx;have H7:=H7.below hx;have a:=a.below hx;clear hx;refine t! 8 ?_
  refine ob! 9 ?_;intro K hK;go_simp;obtain⟨g9,u5,e1,e2,hx,hE,j,H9⟩:=N9.out g3 g5 g7 _ hE;rw[e2,e1];refine hK.out _ _ hE ?_;clear hK e1 e2;have H3:=H3.below hx;have H5:=H5.below hx;have H7:=H7.below hx;have a:=a.below hx;clear hx;rotate_left
  refine b! ?_;intro K hK;go_simp;obtain⟨l,u2,e1,e2,hx,hE,f,a⟩:=q.out _ hE;rw[e2,e1];refine hK.out _ _ hE ?_;clear hK e1 e2;have H7:=H7.below hx;clear hx;refine p! 3 5 ?_ ?_;refine b! ?_;intro K hK;go_simp;obtain⟨g3,u3,e1,e2,hx,hE,H3⟩:=N3.out _ hE;rw[e2,e1];refine hK.out _ _ hE ?_;clear hK e1 e2;have H7:=H7.below hx;have a:=a.below hx;clear hx;refine ob! 5 ?_;intro K hK;go_simp;obtain⟨g5,u4,e1,e2,hx,hE,H5⟩:=N5.out _ hE;rw[e2,e1];refine hK.out _ _ hE ?_;clear hK e1 e2;have H3:=H3.below hx;have H7:=H7.below hx;have a:=a.below hx;clear hx;refine t! 8 ?_
  refine ob! 9 ?_;intro K hK;go_simp;obtain⟨g9,u5,e1,e2,hx,hE,j,H9⟩:=N9.out g3 g5 g7 _ hE;rw[e2,e1];refine hK.out _ _ hE ?_;clear hK e1 e2;have H3:=H3.below hx;have H5:=H5.below hx;have H7:=H7.below hx;have a:=a.below hx;clear hx;rotate_left
  refine b! ?_;intro K hK;go_simp;obtain⟨g5,u3,e1,e2,hx,hE,H5⟩:=N5.out _ hE;rw[e2,e1];refine hK.out _ _ hE ?_;clear hK e1 e2;have H7:=H7.below hx;have a:=a.below hx;clear hx;refine ob! 3 ?_;intro K hK;go_simp;obtain⟨g3,u4,e1,e2,hx,hE,H3⟩:=N3.out _ hE;rw[e2,e1];refine hK.out _ _ hE ?_;clear hK e1 e2;have H5:=H5.below hx;have H7:=H7.below hx;have a:=a.below hx;clear hx;refine t! 8 ?_
  refine ob! 9 ?_;intro K hK;go_simp;obtain⟨g9,u5,e1,e2,hx,hE,j,H9⟩:=N9.out g3 g5 g7 _ hE;rw[e2,e1];refine hK.out _ _ hE ?_;clear hK e1 e2;have H3:=H3.below hx;have H5:=H5.below hx;have H7:=H7.below hx;have a:=a.below hx;clear hx;rotate_left
  refine b! ?_;intro K hK;go_simp;obtain⟨l,u1,e1,e2,hx,hE,f,a⟩:=q.out _ hE;rw[e2,e1];refine hK.out _ _ hE ?_;clear hK e1 e2;clear hx;refine WalkN.three 3 5 7 (by kernel_rfl) ?_ ?_ ?_;refine b! ?_;intro K hK;go_simp;obtain⟨g3,u2,e1,e2,hx,hE,H3⟩:=N3.out _ hE;rw[e2,e1];refine hK.out _ _ hE ?_;clear hK e1 e2;have a:=a.below hx;clear hx;refine p! 5 7 ?_ ?_;refine b! ?_;intro K hK;go_simp;obtain⟨g5,u3,e1,e2,hx,hE,H5⟩:=N5.out _ hE;rw[e2,e1];refine hK.out _ _ hE ?_;clear hK e1 e2;have H3:=H3.below hx;have a:=a.below hx;clear hx;refine ob! 7 ?_;intro K hK;go_simp;obtain⟨g7,u4,e1,e2,hx,hE,H7⟩:=N7.out _ hE;rw[e2,e1];refine hK.out _ _ hE ?_;clear hK e1 e2;have H3:=H3.below hx;have H5:=H5.below hx;have a:=a.below hx;clear hx;refine t! 8 ?_
  refine ob! 9 ?_;intro K hK;go_simp;obtain⟨g9,u5,e1,e2,hx,hE,j,H9⟩:=N9.out g3 g5 g7 _ hE;rw[e2,e1];refine hK.out _ _ hE ?_;clear hK e1 e2;have H3:=H3.below hx;have H5:=H5.below hx;have H7:=H7.below hx;have a:=a.below hx;clear hx;rotate_left
  refine b! ?_;intro K hK;go_simp;obtain⟨g7,u3,e1,e2,hx,hE,H7⟩:=N7.out _ hE;rw[e2,e1];refine hK.out _ _ hE ?_;clear hK e1 e2;have H3:=H3.below hx;have a:=a.below hx;clear hx;refine ob! 5 ?_;intro K hK;go_simp;obtain⟨g5,u4,e1,e2,hx,hE,H5⟩:=N5.out _ hE;rw[e2,e1];refine hK.out _ _ hE ?_;clear hK e1 e2;have H3:=H3.below hx;have H7:=H7.below hx;have a:=a.below hx;clear hx;refine t! 8 ?_
  refine ob! 9 ?_;intro K hK;go_simp;obtain⟨g9,u5,e1,e2,hx,hE,j,H9⟩:=N9.out g3 g5 g7 _ hE;rw[e2,e1];refine hK.out _ _ hE ?_;clear hK e1 e2;have H3:=H3.below hx;have H5:=H5.below hx;have H7:=H7.below hx;have a:=a.below hx;clear hx;rotate_left
  refine b! ?_;intro K hK;go_simp;obtain⟨g5,u2,e1,e2,hx,hE,H5⟩:=N5.out _ hE;rw[e2,e1];refine hK.out _ _ hE ?_;clear hK e1 e2;have a:=a.below hx;clear hx;refine p! 3 7 ?_ ?_;refine b! ?_;intro K hK;go_simp;obtain⟨g3,u3,e1,e2,hx,hE,H3⟩:=N3.out _ hE;rw[e2,e1];refine hK.out _ _ hE ?_;clear hK e1 e2;have H5:=H5.below hx;have a:=a.below hx;clear hx;refine ob! 7 ?_;intro K hK;go_simp;obtain⟨g7,u4,e1,e2,hx,hE,H7⟩:=N7.out _ hE;rw[e2,e1];refine hK.out _ _ hE ?_;clear hK e1 e2;have H3:=H3.below hx;have H5:=H5.below hx;have a:=a.below hx;clear hx;refine t! 8 ?_
  refine ob! 9 ?_;intro K hK;go_simp;obtain⟨g9,u5,e1,e2,hx,hE,j,H9⟩:=N9.out g3 g5 g7 _ hE;rw[e2,e1];refine hK.out _ _ hE ?_;clear hK e1 e2;have H3:=H3.below hx;have H5:=H5.below hx;have H7:=H7.below hx;have a:=a.below hx;clear hx;rotate_left
  refine b! ?_;intro K hK;go_simp;obtain⟨g7,u3,e1,e2,hx,hE,H7⟩:=N7.out _ hE;rw[e2,e1];refine hK.out _ _ hE ?_;clear hK e1 e2;have H5:=H5.below hx;have a:=a.below hx;clear hx;refine ob! 3 ?_;intro K hK;go_simp;obtain⟨g3,u4,e1,e2,hx,hE,H3⟩:=N3.out _ hE;rw[e2,e1];refine hK.out _ _ hE ?_;clear hK e1 e2;have H5:=H5.below hx;have H7:=H7.below hx;have a:=a.below hx;clear hx;refine t! 8 ?_
  refine ob! 9 ?_;intro K hK;go_simp;obtain⟨g9,u5,e1,e2,hx,hE,j,H9⟩:=N9.out g3 g5 g7 _ hE;rw[e2,e1];refine hK.out _ _ hE ?_;clear hK e1 e2;have H3:=H3.below hx;have H5:=H5.below hx;have H7:=H7.below hx;have a:=a.below hx;clear hx;rotate_left
  refine b! ?_;intro K hK;go_simp;obtain⟨g7,u2,e1,e2,hx,hE,H7⟩:=N7.out _ hE;rw[e2,e1];refine hK.out _ _ hE ?_;clear hK e1 e2;have a:=a.below hx;clear hx;refine p! 3 5 ?_ ?_;refine b! ?_;intro K hK;go_simp;obtain⟨g3,u3,e1,e2,hx,hE,H3⟩:=N3.out _ hE;rw[e2,e1];refine hK.out _ _ hE ?_;clear hK e1 e2;have H7:=H7.below hx;have a:=a.below hx;clear hx;refine ob! 5 ?_;intro K hK;go_simp;obtain⟨g5,u4,e1,e2,hx,hE,H5⟩:=N5.out _ hE;rw[e2,e1];refine hK.out _ _ hE ?_;clear hK e1 e2;have H3:=H3.below hx;have H7:=H7.below hx;have a:=a.below hx;clear hx;refine t! 8 ?_
  refine ob! 9 ?_;intro K hK;go_simp;obtain⟨g9,u5,e1,e2,hx,hE,j,H9⟩:=N9.out g3 g5 g7 _ hE;rw[e2,e1];refine hK.out _ _ hE ?_;clear hK e1 e2;have H3:=H3.below hx;have H5:=H5.below hx;have H7:=H7.below hx;have a:=a.below hx;clear hx;rotate_left
  refine b! ?_;intro K hK;go_simp;obtain⟨g5,u3,e1,e2,hx,hE,H5⟩:=N5.out _ hE;rw[e2,e1];refine hK.out _ _ hE ?_;clear hK e1 e2;have H7:=H7.below hx;have a:=a.below hx;clear hx;refine ob! 3 ?_;intro K hK;go_simp;obtain⟨g3,u4,e1,e2,hx,hE,H3⟩:=N3.out _ hE;rw[e2,e1];refine hK.out _ _ hE ?_;clear hK e1 e2;have H5:=H5.below hx;have H7:=H7.below hx;have a:=a.below hx;clear hx;refine t! 8 ?_
  refine ob! 9 ?_;intro K hK;go_simp;obtain⟨g9,u5,e1,e2,hx,hE,j,H9⟩:=N9.out g3 g5 g7 _ hE;rw[e2,e1];refine hK.out _ _ hE ?_;clear hK e1 e2;have H3:=H3.below hx;have H5:=H5.below hx;have H7:=H7.below hx;have a:=a.below hx;clear hx;rotate_left
  all_goals
   refine o! 11 ?_;have V:=a.cells;have R:=a.free;refine b! ?_;intro K hK;go_simp;refine hK.out _ _ (St11 hE f _) ?_;clear hK V R;refine d! ?_;exact⟨rfl,g3,g5,g7,g9,l,rfl,StE hE f j H3 H5 H7 H9 a⟩
 rintro e _ W1 ⟨rfl,g3,g5,g7,g9,l,rfl,J⟩;dsimp only;have ST:=h! J;have X1:Hid (Ext wc W1):=h! (v.out.trans J.ext);have GB:=h! (BG.out.below X1.out);have NB:=h! (BN.out.below X1.out);have XW:Hid (Ext w W1):=h! (XC.out.trans X1.out);have hA:=GB.out.cells;have j:=h! (show w.heap.size<=g9 from by have:=J.low;have:=XC.out.size;have:=v.out.size;omega);have al:=h! (show w.heap.size+1+1<W1.heap.size from by have:=X1.out.size;have:=EC.out;omega);clear ai ab am J M v L XC BG BS BN;go_wp2_with fail
 clear hA;obtain⟨A,E⟩:∃A:Nat->Prop,Hid (A=fun b=>b=w.heap.size+1+1\/b=g5):=⟨_,h! rfl⟩
 have ak:=h! (show ∀b,A b->b<W1.heap.size from fun b hb=>by
  rw[E.out]at hb;rcases hb with rfl | rfl
  ·exact al.out
  ·exact(ST.out.rnd.block _ rfl).2)
 have ag:=h! (show ¬ A g7 from fun hb=>by
  rw[E.out]at hb;obtain⟨c1,h1⟩:=ST.out.use.typed (g:=g7) rfl;rcases hb with rfl | rfl
  ·rw[show W1.heap[_]?=_ from NB.out]at h1;injection h1 with h1
   injection h1 with _ h1 _
   exact absurd h1 (by decide)
  ·exact ST.out.rnd.apart ST.out.use (by decide) (g:=g7) rfl rfl)
 have RR:=h! (fun W (hW:UK lo A W1 W)=>show GrAt (· < lo) W ps fs (.slice ap n cp) (.slice af fs.length cf)from by
  have h1:=H0.out.same (w':=W1) (fun b hb=>XW.out.block b hb);rw[<-z.out]at h1;exact h1.same (hW.low (by rw[z.out];exact XW.out.size)))
 have RL:=h! (fun W (hW:UK lo A W1 W)=>show lo<=W.heap.size from by rw[z.out];exact n6! XW.out.size hW.size);have RN:=h! (fun W (hW:UK lo A W1 W)=>hW.blkA NB.out (by rw[E.out];exact .inl rfl));have RP:=h! (fun W (hW:UK lo A W1 W)=>hW.blk ST.out.ptr (by decide) (by decide));have RS:=h! (fun W (hW:UK lo A W1 W)=>hW.blk ST.out.box (by decide) (by decide));have RA:=h! (fun W (hW:UK lo A W1 W) b (hb:A b)=>n1! (ak.out b hb) hW.size);have a9:=h! (UsAt.start A ST.out.use);go_loopw [25] (fun iv wr=>∃(i:Nat) (U:List (List Int)) (vs:List Value),i<=fs.length/\iv= .int .i64 i/\UsAt wr lo g7 n A U vs/\UsTo fs n i [] U/\UK lo A W1 wr) (fun iv _=>fs.length-(intOf iv).toNat)
 case atStart=>exact⟨0,_,_,v1! _,rfl,a9.out,UsTo.start fs n,UK.refl _ _ _⟩
 case round =>
  obtain⟨i,U,vs,hi,rfl,hu,ht,hk⟩:=hrel;have US:=h! hu;have UT:=h! ht;have RK:=h! hk;clear hu ht hk a9;by_cases hlt:i<fs.length
  ·have a2:=h! hlt;have au:=h! (fun U'=>UsTo.next (n:=n) (U:=U') hlt)
   have a4:=h! (show(nmdL (fs.take i)).length+fs[i].named.length<=(nmdL fs).length from by
    have h1:nmdL fs=nmdL (fs.take (i+1))++nmdL (fs.drop (i+1)):=by rw[<-bs!,x6!]
    rw[h1,eK! hlt];simp only[u4!];omega)
   have a8:=h! (show wrap64 ((i:Int)+1)=((i+1:Nat):Int)from by have:=ah.out;unfold wrap64;omega);obtain⟨aw,aA,ax,ay,e1,e2,-,-,-,-,G⟩:=(RR.out wr RK.out).rows;cases e2;obtain⟨p1,q1,u,rfl,ar,k0,k1,k2,k3,hu⟩:=G i hlt;have az:(i:Int)<(fs.length:Int):=by omega
   generalize fs[i]=x at *;obtain⟨l1,m1,l2,m2,l4,m4,rfl⟩:=hu.shape;have HF:=h! hu;dsimp only at k0 k1 k2 k3;clear hu ar G e1 hlt;obtain⟨wq,I⟩:∃y,Hid (y=(wr.alloc (.cells #[.int .i64 (i:Int)] 3)).alloc (.cells #[.int .i64 x.k,.slice l1 x.subs.length m1,.slice l2 x.refs.length m2,.slice l4 x.ps.length m4] 128)):=⟨_,h! rfl⟩;have XQ:=h! (show Ext wr wq from by rw[I.out];exact(Ext.alloc _ _).trans (Ext.alloc _ _));have BI:=h! (show Blk wq wr.heap.size #[.int .i64 (i:Int)] 3 from by rw[I.out];exact(Blk.made _ _ _).below (Ext.alloc _ _));obtain⟨A',B⟩:∃A':Nat->Prop,Hid (A'=fun b=>A b\/b=wr.heap.size):=⟨_,h! rfl⟩;have a6:=h! (show ∀b,A b->A' b from fun b hb=>by rw[B.out];exact .inl hb);have H:=h! (fun W (hW:UK lo A' wq W)=>show UK lo A W1 W from UK.next RK.out (UK.next (UK.of XQ.out) (hW.lessA a6.out)))
   have aq:=h! (show ¬ A' g7 from by
    rw[B.out];rintro(h1 | h1)
    ·exact ag.out h1
    ·have:=(US.out.arr.block g7 rfl).2;omega)
   have a5:=h! (show UsAt wq lo g7 n A' U vs from(US.out.avoid (A':=A') fun b hb=>by rw[B.out]at hb;rcases hb with hb | hb;exact .inl hb;exact .inr (v4! hb.symm)).ext XQ.out)
   have N:=h! (ln! 209 #[.pointer (some ⟨wr.heap.size,0,none⟩),.pointer (some ⟨w.heap.size+1+1,0,none⟩),.pointer (some ⟨l,0,none⟩)] (enters_of func209 (by kernel_rfl) rfl) lo 1000000000000 A'
    (fun ks W=>UK lo A' wq W/\∃U vs,UsAt W lo g7 n A' U vs/\UsTo fs n i ks U) (fun ks W W' h hx=>⟨UK.next h.1 (UK.of hx),by obtain⟨_,U,vs,h1,h2⟩:=h;exact⟨U,vs,h1.ext hx,h2⟩⟩)
    (fun ks k W h hlW hkl=>by
     obtain⟨hk,U2,av,an,Z⟩:=h
     refine(nu! lo g7 n i wr.heap.size (w.heap.size+1+1) l g9 A' k U2 av _ _ _ _ _ _ _ W (hk.blkA BI.out (by rw[B.out];exact .inr rfl)) (RN.out W (H.out W hk)) (RP.out W (H.out W hk)) (RS.out W (H.out W hk)) an ⟨by rw[B.out];exact .inr rfl,by rw[B.out,E.out];exact .inl (.inl rfl)⟩ (fun b hb=>by
      rw[B.out]at hb;rcases hb with hb | hb
      ·exact RA.out W (H.out W hk) b hb
      ·have h1:=BI.out.lt;have h2:=hk.size;omega) aq.out hlW (fun m=>by have:=jB! U2 m;have:=Z.sum;have:=a4.out;have:=a1.out;omega)).mono ?_
     rintro e W' ⟨rfl,⟨vs',hu'⟩,hk'⟩;exact⟨rfl,⟨UK.next hk hk',_,vs',hu',Z.note k⟩,hk'⟩)
    x (.slice l1 x.subs.length m1,.slice l2 x.refs.length m2,.slice l4 x.ps.length m4) [] wq (HF.out.lowUp (UK.of (A:=A) XQ.out) (RL.out wr RK.out)) (n6! (RL.out wr RK.out) XQ.out.size) ⟨UK.refl _ _ _,U,vs,a5.out,UT.out⟩ (by have:=a4.out;have:=a1.out;simp only[v6!];omega))
   unfold fV at N;dsimp only at N;go_wp2_with fail
   rw[<-I.out];clear I;refine N.out.mono ?_;rintro e w5 ⟨rfl,⟨a3,U5,ae,Y,O⟩,-⟩;rw[y2!]at O;have aa:=h! (au.out U5 O);have ac:=h! (Y.fewer a6.out);have ao:=h! (H.out w5 a3);clear Y O a3 N a5 k0 k1 k2 k3;go_wp2_with fail
   go_roundw
   case rel=>exact⟨i+1,U5,ae,a2.out,by first | rw[a8.out] | go_num,ac.out,aa.out,ao.out⟩
   case measure=>have:=a2.out;(try rw[a8.out]);simp[intOf];omega
  ·obtain rfl:i=fs.length:=by omega
   have hp:=(RP.out wr RK.out).cells
   have aj:=h! (show StAt wr lo g9 g3 g5 g7 n pv fv s (inN fs s n 0) (outN fs s n 0) U vs from {
    box:=RS.out wr RK.out
    inn:=by
     rw[show boC (inN fs s n 0)=List.replicate n (.bool false)from by simp[boC,inN]]
     exact ST.out.inn.keepOwn fun g hg=>by
      obtain⟨T,h1⟩:=ST.out.inn.typed hg;exact(RK.out.blk (show Blk W1 g T 4 from h1) (by decide) (by decide)).trans h1.symm
    rnd:=by
     rw[show ic (outN fs s n 0)=List.replicate n (.int .i64 0)from by simp[ic,outN]]
     exact ST.out.rnd.keepOwn fun g hg=>by
      obtain⟨T,h1⟩:=ST.out.rnd.typed hg;exact(RK.out.blkA (show Blk W1 g T 3 from h1) (by rw[E.out];exact .inr (v5! hg).symm)).trans h1.symm
    use:=US.out.fewer fun b hb=>by rw[E.out];exact .inr hb})
   have ad:=h! (show Below w.heap.size w wr from Below.trans XW.out (by
    have:=RK.out.below (by rw[z.out];exact XW.out.size);rwa[z.out]at this))
   go_wp2_with fail
   go_ret
   exact⟨⟨g9,g3,g5,g7,U,vs,rfl,j.out,by rw[<-z.out,<-a0.out,<-a7.out];exact aj.out,UT.out⟩,ad.out⟩
end Go.Proofs.YtlhaghoajpglaaaGreat
