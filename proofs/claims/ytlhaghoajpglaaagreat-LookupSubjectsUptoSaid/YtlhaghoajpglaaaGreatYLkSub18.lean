/- Lemmas for the claim, no condition. -/
import Derived.Test.YtlhaghoajpglaaaGreatYLkSub17
import Derived.Deep.RegionHeld
set_option maxRecDepth 100000
set_option maxHeartbeats 8000000
namespace Go.Proofs.YtlhaghoajpglaaaGreat
open Go Go.Maps Go.RowKit Go.Proofs.Tryz
theorem pg! (bs:List Bool)(iv:Value)(b:Nat)(x:Int)(w:World)(hb:Blk w b #[iv] 74)(hi:Sl (· < w.heap.size) w 1 iv (boC bs)) :
  Calls prog 255 (#[.int .i64 x]++#[.pointer (some ⟨b,0,none⟩)]) w fun e w'=>e= .returned (.bool (inAt bs x))/\Below w.heap.size w w':=by
 obtain⟨ai,ci,rfl,c,a,f⟩:=dU! hi;have hB:=hb.cells;clear hi;rw[show(#[.int .i64 x]++#[.pointer (some ⟨b,0,none⟩)]:Array Value)=#[.int .i64 x,.pointer (some ⟨b,0,none⟩)]from rfl];go_enter func255,ntmps255
 by_cases h0:0<=x
 ·obtain⟨m,rfl⟩:=Int.eq_ofNat_of_zero_le h0;by_cases hm:m<bs.length
  ·obtain⟨bb,bo,rfl,-,a1⟩:=f m hm
   have d:=h! (show inAt bs (m:Int)=bs[m]from by
    unfold inAt;rw[Int.toNat_natCast,n8!,n4! hm];simp)
   have a0:(m:Int)<(bs.length:Int):=by omega
   generalize bs[m]=y at *;clear hm f c a;go_wp2_with fail
   go_ret
   exact⟨by rw[d.out];try rfl,Below.refl _ _⟩
  ·have a0:¬ (m:Int)<(bs.length:Int):=by omega
   have d:=h! (show inAt bs (m:Int)=false from by
    unfold inAt;rw[Int.toNat_natCast,n8!,y0! (by omega)];simp)
   clear hm f c a;go_wp2_with fail
   go_ret
   exact⟨by rw[d.out];try rfl,Below.refl _ _⟩
 ·have d:=h! (show inAt bs x=false from by unfold inAt;simp[h0]);clear f c a;go_wp2_with fail
  go_ret
  exact⟨by rw[d.out];try rfl,Below.refl _ _⟩
theorem iF! (bs:List Bool)(r:FT)(iv:Value)(v:FV3)(b c:Nat)(w:World)(hf:Blk w b #[.int .i64 r.k,v.1,v.2.1,v.2.2] 128)(hb:Blk w c #[iv] 74)(hat:FTAt (· < w.heap.size) w r v)(hi:Sl (· < w.heap.size) w 1 iv (boC bs)) :
  Calls prog 253 #[.pointer (some ⟨b,0,none⟩),.pointer (some ⟨c,0,none⟩)] w fun e w'=>e= .returned (.bool (r.refs.any (inAt bs)))/\Below w.heap.size w w':=by
 have HC:=h! (eW! w r.refs v.2.1 255 #[.pointer (some ⟨c,0,none⟩)] (enters_of func255 (by kernel_rfl) rfl) (inAt bs) ((FTAt.iff _ _).1 hat).2.1 fun i hi' W hW=>pg! bs iv c _ W (hb.below hW) ((hi.same (Same.below hW)).mono fun _ h=>n1! h hW.size));obtain⟨a1,c1,a2,c2,a4,c4,rfl⟩:=hat.shape;have a0:∀(fn:Fn) (first cap:Array Value) (W:World),(Instr.makeFunc fn first cap).run prog W= .ok (.func fn first cap) W:=fun _ _ _ _=>rfl;have hA:=hf.cells;dsimp only at hA HC;clear hat hi hf hb;go_enter func253,ntmps253
 go_wp2_with fail
 refine HC.out.mono ?_;rintro e w2 ⟨rfl,hb⟩;have HB:=h! hb;clear hA HC hb;go_wp2_with fail
 go_ret
 exact⟨rfl,HB.out⟩
theorem jb! (s:P3)(bs:List Bool)(p:FT)(iv:Value)(v:FV3)(b c:Nat)(w:World)(hs:Blk w b #[.string s.t,.string s.i,.string s.r] 33)(hb:Blk w c #[iv] 74)(hat:FTAt (· < w.heap.size) w p v)(hi:Sl (· < w.heap.size) w 1 iv (boC bs))
  (ih:∀W,Below w.heap.size w W->Calls prog 212 #[fV p v,pV s,iv] W fun e w'=>e= .returned (.bool (holdF s bs p))/\Below W.heap.size W w') :
  Calls prog 256 #[fV p v,.pointer (some ⟨b,0,none⟩),.pointer (some ⟨c,0,none⟩)] w fun e w'=>e= .returned (.bool (holdF s bs p))/\Below w.heap.size w w':=by
 obtain⟨a1,c1,a2,c2,a4,c4,rfl⟩:=hat.shape;obtain⟨ai,ci,rfl,-⟩:=dU! hi;unfold fV pV at ih;unfold fV;dsimp only at ih ⊢;have a:=h! (Ext.alloc w (.cells #[.int .i64 p.k,.slice a1 p.subs.length c1,.slice a2 p.refs.length c2,.slice a4 p.ps.length c4] 128));have HC:=h! (ih _ a.out);have a0:=(Blk.made w #[.int .i64 p.k,.slice a1 p.subs.length c1,.slice a2 p.refs.length c2,.slice a4 p.ps.length c4] 128).cells;have hS:=(hs.below a.out).cells;have hB:=(hb.below a.out).cells;clear hat hi hs hb ih;go_enter func256,ntmps256
 go_wp2_with fail
 refine HC.out.mono ?_;rintro e w2 ⟨rfl,hb⟩;have HB:Hid (Below w.heap.size w w2):=h! (Ext.trans a.out hb);clear a0 hS hB HC hb;go_wp2_with fail
 go_ret
 exact⟨rfl,HB.out⟩
abbrev hvF (b c:Nat):Value := .func (.func 256) #[] #[.pointer (some ⟨b,0,none⟩),.pointer (some ⟨c,0,none⟩)]
theorem jl! (s:P3)(bs:List Bool)(p:FT)(iv:Value)(v:FV3)(b c d:Nat)(w:World)(hs:Blk w b #[.string s.t,.string s.i,.string s.r] 33)(hb:Blk w c #[iv] 74)(hd:Blk w d #[hvF b c] 330)(hat:FTAt (· < w.heap.size) w p v)(hi:Sl (· < w.heap.size) w 1 iv (boC bs))
  (ih:∀W,Below w.heap.size w W->Calls prog 212 #[fV p v,pV s,iv] W fun e w'=>e= .returned (.bool (holdF s bs p))/\Below W.heap.size W w') :
  Calls prog 258 #[fV p v,.pointer (some ⟨d,0,none⟩)] w fun e w'=>e= .returned (.bool (!holdF s bs p))/\Below w.heap.size w w':=by
 have f:=h! (Ext.alloc w (.cells #[.int .i64 p.k,v.1,v.2.1,v.2.2] 128));have a:=h! (jb! s bs p iv v b c _ (hs.below f.out) (hb.below f.out) (hat.up f.out) ((hi.same (Same.below f.out)).mono fun _ h=>n1! h f.out.size) fun W hW=>ih W (Ext.trans f.out hW));obtain⟨a1,c1,a2,c2,a4,c4,rfl⟩:=hat.shape;have a0:=(Blk.made w #[.int .i64 p.k,.slice a1 p.subs.length c1,.slice a2 p.refs.length c2,.slice a4 p.ps.length c4] 128).cells;have hD:=(hd.below f.out).cells;have eg:=enters_of func256 (by kernel_rfl) rfl;unfold fV at a ⊢;dsimp only at a hD ⊢;clear hat hi hs hb hd ih;go_enter func258,ntmps258
 go_wp2_with fail
 refine a.out.mono ?_;rintro e w2 ⟨rfl,hb⟩;have HB:Hid (Below w.heap.size w w2):=h! (Ext.trans f.out hb);clear a0 hD a hb;go_wp2_with fail
 go_ret
 exact⟨rfl,HB.out⟩
theorem jS! (s:P3)(bs:List Bool)(r:FT):∀(iv:Value)(v:FV3)(w:World),FTAt (· < w.heap.size) w r v->Sl (· < w.heap.size) w 1 iv (boC bs) ->
  Calls prog 212 #[fV r v,pV s,iv] w fun e w'=>e= .returned (.bool (holdF s bs r))/\Below w.heap.size w w':=by
 induction r using FT.ind with
 | h r ih =>
 intro iv v w h hi;have H0:=h! h;have I0:=h! hi;have m:=h! ih;obtain⟨z,N,I,Q,U,x,rfl⟩:=h.shape;obtain⟨C,F,rfl,-⟩:=dU! hi;obtain⟨k,subs,refs,a⟩:=r;clear ih h hi;unfold fV pV;dsimp only[FT.k,FT.subs,FT.refs,FT.ps]at m H0 ⊢;obtain⟨O,j⟩:=e! (w.alloc (.cells #[.int .i64 k,.slice z subs.length N,.slice I refs.length Q,.slice U a.length x] 128));obtain⟨q,f⟩:=e! (O.alloc (.cells #[.string s.t,.string s.i,.string s.r] 33));obtain⟨y,g⟩:=e! (q.alloc (.cells #[.slice C bs.length F] 74));obtain⟨u,l⟩:=e! (y.alloc (.cells #[hvF (w.heap.size+1) (w.heap.size+1+1)] 330));have ea:O.heap.size=w.heap.size+1:=by rw[j];simp
 have eb:q.heap.size=w.heap.size+1+1:=by rw[f];simp[ea]
 have ec:y.heap.size=w.heap.size+1+1+1:=by rw[g];simp[eb]
 have xa:Ext w O:=xa! j
 have xb:Ext O q:=xa! f
 have J:Ext q y:=xa! g
 have H:Ext y u:=xa! l
 have n:Hid (Ext w u):=h! (xa.trans (xb.trans (J.trans H)));have BA:=h! (show Blk u w.heap.size #[.int .i64 k,.slice z subs.length N,.slice I refs.length Q,.slice U a.length x] 128 from Blk.below (bm! j) (xb.trans (J.trans H)));have BS:=h! (show Blk u (w.heap.size+1) #[.string s.t,.string s.i,.string s.r] 33 from Blk.below (by rw[f,<-ea];exact Blk.made _ _ _) (J.trans H));have K:=h! (show Blk u (w.heap.size+1+1) #[.slice C bs.length F] 74 from Blk.below (by rw[g,<-eb];exact Blk.made _ _ _) H);have BF:=h! (show Blk u (w.heap.size+1+1+1) #[hvF (w.heap.size+1) (w.heap.size+1+1)] 330 from by rw[l,<-ec];exact Blk.made _ _ _);have B:=h! (H0.out.up n.out);have R:Hid (Sl (· < u.heap.size) u 1 (.slice C bs.length F) (boC bs)):=h! ((I0.out.same (Same.below n.out)).mono fun _ h=>n1! h n.out.size);have b:=h! (bK! s bs k subs refs a);have a3:∀(fn:Fn) (first cap:Array Value) (W:World),(Instr.makeFunc fn first cap).run prog W= .ok (.func fn first cap) W:=fun _ _ _ _=>rfl;have A:=BA.out.cells;have D:=BS.out.cells;have E:=K.out.cells;have T:=BF.out.cells;have eg:=enters_of func253 (by kernel_rfl) rfl;clear ea eb ec xa xb J H;subst l g f j;by_cases k1:k=1
 case' pos =>
  subst k1;rw[if_pos rfl]at b;have M:=h! (fN! _ subs s _ ((FTAt.iff _ _).1 B.out).1);unfold pV at M;dsimp only at M;go_enter func212,ntmps212
  go_wp2_with fail
  refine M.out.mono ?_;rintro e w5 ⟨rfl,d⟩;have X5:Hid (Below w.heap.size w w5):=h! (Ext.trans n.out d);have G:=h! (iF! bs (.mk 1 subs refs a) (.slice C bs.length F) (.slice z subs.length N,.slice I refs.length Q,.slice U a.length x) w.heap.size (w.heap.size+1+1) w5 (BA.out.below d) (K.out.below d) (B.out.up d) ((R.out.same (Same.below d)).mono fun _ h=>n1! h d.size));dsimp only[FT.refs]at G;clear A D E T M d;by_cases hm:s∈subs
  ·rw[v2! hm]at b ⊢;clear G;go_wp2_with fail
   go_ret
   exact⟨by rw[b.out];rfl,X5.out⟩
  ·rw[v3! hm]at b ⊢;go_wp2_with fail
   refine G.out.mono ?_;rintro e V ⟨rfl,c⟩;have o:Hid (Below w.heap.size w V):=h! (Ext.trans X5.out c);clear G c;go_wp2_with fail
   go_ret
   exact⟨by rw[b.out];rfl,o.out⟩
 case' neg =>
  rw[if_neg k1]at b;have b1:(k == 1)=false:=by rw[n7!];exact k1
  clear k1;have G:=h! (iF! bs (.mk k subs refs a) (.slice C bs.length F) (.slice z subs.length N,.slice I refs.length Q,.slice U a.length x) w.heap.size (w.heap.size+1+1) _ BA.out K.out B.out R.out);dsimp only[FT.refs]at G;by_cases k23:k=2\/k=3
  ·rw[if_pos k23]at b
   have a0:(k == 2)=true\/(k == 2)=false/\(k == 3)=true:=by
    rcases k23 with rfl | rfl <;> simp
   clear k23;rcases a0 with hk | ⟨hk,hk3⟩
   all_goals
    go_enter func212,ntmps212
    go_wp2_with fail
    refine G.out.mono ?_;rintro e V ⟨rfl,c⟩;have o:Hid (Below w.heap.size w V):=h! (Ext.trans n.out c);clear G c A D E T;go_wp2_with fail
    go_ret
    exact⟨by rw[b.out];try rfl,o.out⟩
  ·rw[if_neg k23]at b;have b2:(k == 2)=false:=by rw[n7!];exact fun e=>k23 (.inl e)
   have b3:(k == 3)=false:=by rw[n7!];exact fun e=>k23 (.inr e)
   clear k23 G eg;have HP:=h! (fun i (hi:i<a.length) W (pvi:FV3) (hW:Below _ _ W) (hat:FTAt (· < W.heap.size) W a[i] pvi)=>jb! s bs a[i] (.slice C bs.length F) pvi (w.heap.size+1) (w.heap.size+1+1) W (BS.out.below hW) (K.out.below hW) hat ((R.out.same (Same.below hW)).mono fun _ h=>n1! h hW.size) fun W2 hW2=>m.out a[i] (n5! hi) (.slice C bs.length F) pvi W2 (hat.up hW2) ((R.out.same (Same.below (Ext.trans hW hW2))).mono fun _ h=>n1! h (n6! hW.size hW2.size)));have L:=h! (fun i (hi:i<a.length) W (pvi:FV3) (hW:Below _ _ W) (hat:FTAt (· < W.heap.size) W a[i] pvi)=>jl! s bs a[i] (.slice C bs.length F) pvi (w.heap.size+1) (w.heap.size+1+1) (w.heap.size+1+1+1) W (BS.out.below hW) (K.out.below hW) (BF.out.below hW) hat ((R.out.same (Same.below hW)).mono fun _ h=>n1! h hW.size) fun W2 hW2=>m.out a[i] (n5! hi) (.slice C bs.length F) pvi W2 (hat.up hW2) ((R.out.same (Same.below (Ext.trans hW hW2))).mono fun _ h=>n1! h (n6! hW.size hW2.size)));by_cases k4:k=4
   ·subst k4;rw[if_pos rfl]at b;clear b1 b2 b3 L;have M:=h! (cE! _ a 4 subs refs (.slice z subs.length N,.slice I refs.length Q,.slice U a.length x) 256 #[.pointer (some ⟨w.heap.size+1,0,none⟩),.pointer (some ⟨w.heap.size+1+1,0,none⟩)] (enters_of func256 (by kernel_rfl) rfl) (holdF s bs) B.out HP.out);dsimp only at M;clear HP;go_enter func212,ntmps212
    go_wp2_with fail
    refine M.out.mono ?_;rintro e V ⟨rfl,c⟩;have o:Hid (Below w.heap.size w V):=h! (Ext.trans n.out c);clear M c A D E T;go_wp2_with fail
    go_ret
    exact⟨by rw[b.out];try rfl,o.out⟩
   ·rw[if_neg k4]at b;have b4:(k == 4)=false:=by rw[n7!];exact k4
    clear k4 HP;by_cases k5:k=5
    ·subst k5;rw[if_pos rfl]at b;clear b1 b2 b3 b4;have M:=h! (cE! _ a 5 subs refs (.slice z subs.length N,.slice I refs.length Q,.slice U a.length x) 258 #[.pointer (some ⟨w.heap.size+1+1+1,0,none⟩)] (enters_of func258 (by kernel_rfl) rfl) (fun p=>!holdF s bs p) B.out L.out);dsimp only at M;clear L;go_enter func212,ntmps212
     go_wp2_with fail
     refine M.out.mono ?_;rintro e V ⟨rfl,c⟩;have o:Hid (Below w.heap.size w V):=h! (Ext.trans n.out c);clear M c A D E T;go_wp2_with fail
     go_ret
     exact⟨by rw[b.out,List.all_eq_not_any_not];try rfl,o.out⟩
    ·rw[if_neg k5]at b;have b5:(k == 5)=false:=by rw[n7!];exact k5
     clear k5 L;go_enter func212,ntmps212
     go_wp2_with fail
     go_ret
     exact⟨by rw[b.out];try rfl,n.out⟩
theorem nL!:(prog.info? 3).map (fun i=>(i.zero,i.size,i.bytes))=some (some (.int .i64 0),1,8):=by kernel_rfl
theorem ml!:(prog.info? 4).map (fun i=>(i.zero,i.size,i.bytes))=some (some (.bool false),1,1):=by kernel_rfl
theorem makeI (n:Nat)(h:n<=100000000):∀W,(Instr.makeSlice 107 (.int .i64 (n:Int)) (.int .i64 (n:Int))).run prog W= .ok (.slice (some ⟨W.heap.size,0,none⟩) n n) (W.alloc (.cells (madeCells #[.int .i64 0] n) 3)):=by
 intro W;obtain⟨i,hi,a⟩:=Option.map_eq_some_iff.1 nL!;simp only[Prod.mk.injEq]at a;obtain⟨hz,hs,hb⟩:=a;have:=run_make (P:=prog) W 107 3 i (.int .i64 0) Tryz.underlying107 hi hz .i64 .i64 n n (by omega) (by omega) (by rw[hb];omega) (by omega);rw[this,hs,Nat.mul_one];rfl
theorem makeB (n:Nat)(h:n<=100000000):∀W,(Instr.makeSlice 74 (.int .i64 (n:Int)) (.int .i64 (n:Int))).run prog W= .ok (.slice (some ⟨W.heap.size,0,none⟩) n n) (W.alloc (.cells (madeCells #[.bool false] n) 4)):=by
 intro W;obtain⟨i,hi,a⟩:=Option.map_eq_some_iff.1 ml!;simp only[Prod.mk.injEq]at a;obtain⟨hz,hs,hb⟩:=a;have:=run_make (P:=prog) W 74 4 i (.bool false) Tryz.underlying74 hi hz .i64 .i64 n n (by omega) (by omega) (by rw[hb];omega) (by omega);rw[this,hs,Nat.mul_one];rfl
theorem Own.made1 (w:World)(n:Nat)(h:n<=100000000)(e:TypeId)(z:Value):Own (w.alloc (.cells (madeCells #[z] n) e)) w.heap.size e 1 (.slice (some ⟨w.heap.size,0,none⟩) n n) (List.replicate n z):=by
 refine⟨n,by rw[List.length_replicate];omega,.inr ⟨w.heap.size,n,_,rfl,n0! _,heap_alloc_new w _,n0! _,by unfold maxLen;omega,by rw[size_madeCells];omega,?_⟩⟩;apply List.ext_getElem?;intro j;rw[List.getElem?_take];by_cases hj:j<n
 ·rw[if_pos (by omega)];simp[madeCells,hj,Nat.mod_one]
 ·rw[if_neg (by omega)];simp[show n<=j by omega]
theorem Own.cellAt {w:World}{B:Nat}{e:TypeId}{g n c:Nat}{xs:List Value}(h:Own w B e 1 (.slice (some ⟨g,0,none⟩) n c) xs):xs.length=n/\B<=g/\∃cs,Blk w g cs e/\∀i (hi:i<xs.length),w.cell? ⟨g,i,none⟩=some xs[i]:=by
 obtain⟨m,h⟩:=h;rcases h.2 with⟨hv,rfl⟩|⟨g',cap,cur,hv,hbg,hg,hnc,hcm,hcs,htake⟩
 ·cases hv
 ·cases hv;have hl:=h.1;rw[Nat.mul_one]at hl htake;refine⟨hl,hbg,cur,hg,fun i hi=>?_⟩;have h1:=congrArg (fun l:List Value=>l[i]?) htake;rw[List.getElem?_take_of_lt (by omega),n4! hi]at h1;rw[(show Blk w g cur e from hg).cells i];simpa using h1
structure SolI (lo gi go n:Nat)(w0 w:World)(L:List Bool)(R:List Int):Prop where
 below:Below lo w0 w
 inn:Own w lo 4 1 (.slice (some ⟨gi,0,none⟩) n n) (boC L)
 out:Own w lo 3 1 (.slice (some ⟨go,0,none⟩) n n) (ic R)
section
variable {lo gi go n : Nat} {w0 w w' : World} {L : List Bool} {R : List Int}
theorem SolI.ne (h:SolI lo gi go n w0 w L R):gi≠go:=fun e=>by
 subst e;exact h.inn.apart h.out (by decide) rfl rfl
theorem SolI.keep (h:SolI lo gi go n w0 w L R)(hb:Below w.heap.size w w')(hl:lo<=w.heap.size):SolI lo gi go n w0 w' L R :=
 ⟨h.below.trans (hb.mono hl),h.inn.below hb,h.out.below hb⟩
theorem SolI.setIn (h:SolI lo gi go n w0 w L R)(k:Nat):SolI lo gi go n w0 (w.setCell ⟨gi,k,none⟩ (.bool true)) (L.set k true) R :=
 ⟨Below.setCell h.below (h.inn.block gi rfl).1 _,by have:=h.inn.set1 k (.bool true);rw[show(boC L).set k (.bool true)=boC (L.set k true)from by unfold boC;rw[List.map_set]]at this;exact this,
  h.out.keepOwn fun g hg=>Below.heap_setCell _ _ _ _ fun e=>h.ne (by have:go=g:=v5! hg;rw[this];exact e.symm)⟩
theorem SolI.setOut (h:SolI lo gi go n w0 w L R)(k:Nat)(x:Int):SolI lo gi go n w0 (w.setCell ⟨go,k,none⟩ (.int .i64 x)) L (R.set k x) :=
 ⟨Below.setCell h.below (h.out.block go rfl).1 _,h.inn.keepOwn fun g hg=>Below.heap_setCell _ _ _ _ fun e=>h.ne (by have:gi=g:=v5! hg;rw[this];exact e),
  by have:=h.out.set1 k (.int .i64 x);rw[show(ic R).set k (.int .i64 x)=ic (R.set k x)from by unfold ic;rw[List.map_set]]at this;exact this⟩
end
def frN (fs:List FT)(s:P3)(n r i:Nat):List Int:=((List.range i).filter fun j=>newS fs s (inN fs s n r) j).map fun(j:Nat)=>(j:Int)
theorem nS! (fs:List FT)(s:P3)(n r i:Nat):frN fs s n r (i+1)=if newS fs s (inN fs s n r) i=true then frN fs s n r i++[(i:Int)]else frN fs s n r i:=by
 unfold frN;rw[List.range_succ,List.filter_append,v9!];by_cases h:newS fs s (inN fs s n r) i=true <;> simp[h]
theorem hi! (fs:List FT)(s:P3)(n r i:Nat):(frN fs s n r i).length<=i:=by
 unfold frN;rw[x1!];have:=x8! (fun j=>newS fs s (inN fs s n r) j) (List.range i);rwa[List.length_range]at this
theorem mI! (fs:List FT)(s:P3)(n r:Nat):∀x∈frN fs s n r n,∃i:Nat,x=(i:Int)/\i<n/\newS fs s (inN fs s n r) i=true:=fun x hx=>by
 unfold frN at hx;obtain⟨j,hj,rfl⟩:=u6!.1 hx;rw[List.mem_filter,List.mem_range]at hj;exact⟨j,rfl,hj.1,hj.2⟩
theorem pk! (fs:List FT)(s:P3)(n r:Nat):∀i:Nat,i<n->((i:Int)∈frN fs s n r n↔newS fs s (inN fs s n r) i=true):=fun i hi=>by
 refine⟨fun h=>?_,fun h=>u6!.2 ⟨i,List.mem_filter.2 ⟨List.mem_range.2 hi,h⟩,rfl⟩⟩;obtain⟨j,e,-,hj⟩:=mI! fs s n r _ h;rw[show i=j by omega];exact hj
theorem fz! {fs:List FT}{s:P3}{l:List Bool}{i:Nat}(h:i<l.length)(hi:l[i]=true):newS fs s l i=false:=by
 unfold newS;rw[n8!,n4! h,Option.getD_some,hi];rfl
theorem jp! {fs:List FT}{s:P3}{l:List Bool}{i:Nat}(h:fs.length<=i):newS fs s l i=false:=by
 unfold newS;rw[y0! h];simp
theorem gU! {fs:List FT}{s:P3}{l:List Bool}{i:Nat}(h:i<l.length)(hi:l[i]=false)(hf:i<fs.length):newS fs s l i=holdF s l fs[i]:=by
 unfold newS;rw[n8!,n4! h,Option.getD_some,hi,n4! hf];rfl
theorem GrAt.rows {S:Nat->Prop}{w:World}{ps:List P3}{fs:List FT}{pv fv:Value}(h:GrAt S w ps fs pv fv):∃ap cp af cf,pv= .slice ap ps.length cp/\fv= .slice af fs.length cf/\ps.length<=cp/\fs.length<=cf/\cp<=9223372036854775807/\cf<=9223372036854775807 /\
  ∀i (hi:i<fs.length),∃b off,∃u:FV3,af=some ⟨b,off,none⟩/\S b/\w.cell? ⟨b,off+i*4,none⟩=some (.int .i64 fs[i].k)/\w.cell? ⟨b,off+i*4+1,none⟩=some u.1/\w.cell? ⟨b,off+i*4+2,none⟩=some u.2.1/\w.cell? ⟨b,off+i*4+3,none⟩=some u.2.2/\FTAt S w fs[i] u:=by
 obtain⟨h1,q,h2,h3,h4⟩:=h;obtain⟨ap,cp,e1,a0,a1,-⟩:=Sl.rows aj! (by decide) (show Sl S w 3 pv (ps.flatMap pC)from h1);obtain⟨af,cf,e2,a3,a2,d⟩:=Sl.rows aT! (by decide) h4;have hl:q.length=fs.length:=by rw[<-h2,x1!]
 refine⟨ap,cp,af,cf,e1,by rw[e2,hl],a0,by omega,a1,a2,fun i hi=>?_⟩;have a:i<q.length:=by omega
 obtain⟨b,off,rfl,hb,d⟩:=d (by omega);have c:fs[i]=q[i].1:=by simp only[<-h2,List.getElem_map]
 rw[c];exact⟨b,off,q[i].2,rfl,hb,d i a 0 _ rfl,d i a 1 _ rfl,d i a 2 _ rfl,d i a 3 _ rfl,h3 _ (n5! a)⟩
theorem hK! (s:P3)(ps:List P3)(fs:List FT)(pv fv:Value)(w:World)(h:GrAt (· < w.heap.size) w ps fs pv fv)(hnm:ps.length<=1000000) :
  Calls prog 81 #[.agg #[pv,fv],pV s] w fun e w'=>(∃v,e= .returned v/\Own w' w.heap.size 3 1 v (ic (aR! fs s ps.length)))/\Below w.heap.size w w':=by
 have H0:=h! h;obtain⟨ap,cp,af,cf,rfl,rfl,a6,bb,aO,aQ,-⟩:=h.rows;have H:=h! hnm;have bn:Hid (fs.length<=9223372036854775807):=h! (by omega);have aN:=h! (makeI ps.length (by omega));have am:=h! (makeB ps.length (by omega));have aK:=h! (fun W=>Own.made1 W ps.length (by omega) 3 (.int .i64 0));have aG:=h! (fun W=>Own.made1 W ps.length (by omega) 4 (.bool false));clear h a6 bb aO aQ hnm;generalize hnn:ps.length=n at *;unfold pV;obtain⟨wa,E⟩:=e! (w.alloc (.cells #[.slice ap n cp,.slice af fs.length cf] 96));obtain⟨wb,D⟩:=e! (wa.alloc (.cells #[.string s.t,.string s.i,.string s.r] 33));have ea:wa.heap.size=w.heap.size+1:=by rw[E];simp
 have eb:wb.heap.size=w.heap.size+2:=by rw[D];simp[ea]
 have xa:Ext w wa:=xa! E
 have xb:Ext wa wb:=xa! D
 have XB:=h! (xa.trans xb);have BG:=h! (show Blk wb w.heap.size #[.slice ap n cp,.slice af fs.length cf] 96 from Blk.below (bm! E) xb);have BS:=h! (show Blk wb (w.heap.size+1) #[.string s.t,.string s.i,.string s.r] 33 from by rw[D,<-ea];exact Blk.made _ _ _);obtain⟨wc,I⟩:=e! (wb.alloc (.cells (madeCells #[.int .i64 0] n) 3));obtain⟨we,a3⟩:=e! (wc.alloc (.cells (madeCells #[.bool false] n) 4));have ec:wc.heap.size=wb.heap.size+1:=by rw[I];simp
 have xc:Ext wb wc:=xa! I
 have xe:Ext wc we:=xa! a3
 have ST:=h! (show SolI wb.heap.size wc.heap.size wb.heap.size n wb we (inN fs s n 0) (outN fs s n 0)from⟨xc.trans xe,by
   have:=aG.out wc;rw[<-a3]at this;obtain⟨m,h1,h2⟩:=this;rcases h2 with⟨h2,_⟩|⟨g',cap,cur,hv,hbg,hg,hr⟩
   ·cases h2
   ·refine⟨m,?_,.inr ⟨g',cap,cur,hv,by omega,hg,?_⟩⟩
    ·rw[aX!,inN,List.length_replicate];rw[List.length_replicate]at h1;exact h1
    ·rw[show boC (inN fs s n 0)=List.replicate n (.bool false)from by simp[boC,inN]];exact hr,by
   have:=(aK.out wb);rw[<-I]at this;rw[show ic (outN fs s n 0)=List.replicate n (.int .i64 0)from by simp[ic,outN]];exact this.below xe⟩)
 have EX:=h! (xc.trans xe);have EB:=h! eb;have EC:=h! ec;have hA:=BG.out.cells;have az:=(BG.out.below xc).cells;have b0:=aN.out;have b5:=am.out;clear ea eb xa xb xc xe ec aN am aK aG;rw[D,E]at hA;rw[I,D,E]at az;go_enter func81,ntmps81
 go_wp2_with fail
 rw[<-E,<-D,<-I,<-a3];clear hA az b0 b5 E D I a3;obtain⟨gi,aD⟩:=e! (w.heap.size+1+1+1);obtain⟨lo,aB⟩:=e! (w.heap.size+1+1);have a4:Hid (w.heap.size+2=lo):=h! (by omega);rw[show wb.heap.size=lo by rw[EB.out];omega,show wc.heap.size=gi by rw[EC.out,EB.out];omega]at ST;rw[<-aD,<-aB];have aT:=h! (show wb.heap.size=lo by rw[EB.out];omega);have RI:=h! (fun W (hW:Below lo wb W)=>show Blk W w.heap.size #[.slice ap n cp,.slice af fs.length cf] 96 from(hW.block _ (by have:=a4.out;omega)).trans BG.out);have RJ:=h! (fun W (hW:Below lo wb W)=>show Blk W (w.heap.size+1) #[.string s.t,.string s.i,.string s.r] 33 from(hW.block _ (by have:=a4.out;omega)).trans BS.out);have RK:=h! (fun W (hW:Below lo wb W)=>show Below w.heap.size w W from Below.trans XB.out (hW.mono (by have:=a4.out;omega)));have RR:=h! (fun W (hW:Below lo wb W)=>show GrAt (· < W.heap.size) W ps fs (.slice ap n cp) (.slice af fs.length cf)from H0.out.up (RK.out W hW));clear aB aD EB EC BG BS H0 EX;go_loopw [7] (fun rv wr=>∃r:Nat,rv= .int .i64 ((r+1:Nat):Int)/\r<=cntT (inN fs s n r)/\lo<=wr.heap.size/\SolI lo gi lo n wb wr (inN fs s n r) (outN fs s n r)) (fun rv _=>n+1-(intOf rv).toNat)
 case atStart=>exact⟨0,rfl,v1! _,by have:=ST.out.below.size;have:=aT.out;omega,ST.out⟩
 case round =>
  obtain⟨r,rfl,a5,au,J⟩:=hrel;have RS:=h! J;have aL:=h! a5;have b2:Hid (r<=n):=h! (n6! a5 (ko! _ _ _ _));have ag:=h! au;obtain⟨w4,ao⟩:=e! wr;obtain⟨A,T⟩:=e! w4.heap.size;obtain⟨rz,ad⟩:∃z:Int,z=((r+1:Nat):Int):=⟨_,rfl⟩;rw[<-ao]at RS ag ⊢;rw[<-ad];have ac:=h! ad;have f:=h! T;have hG:=(RI.out w4 RS.out.below).cells;clear a5 au J ST ao T ad;go_wp2_with fail
  clear hG;go_loopw [8,25] (fun qv iv wr=>∃i:Nat,i<=n/\iv= .int .i64 i/\Own wr A 3 1 qv (ic (frN fs s n r i))/\Below A w4 wr) (fun _ iv _=>n-(intOf iv).toNat)
  case atStart=>exact⟨0,v1! _,rfl,Own.nil _ _ _ _,Below.refl _ _⟩
  case round =>
   obtain⟨i,hi,rfl,ah,a1⟩:=hrel;have RF:=h! ah;have p:=h! a1;obtain⟨b1,fm,fc,rfl,-⟩:=ah.sl.len;have C:=h! (show SolI lo gi lo n wb wr (inN fs s n r) (outN fs s n r)from RS.out.keep (by rw[f.out]at a1;exact a1) ag.out);clear ah a1;by_cases hlt:i<n
   ·have a:=h! hlt;have q:=h! (show wrap64 ((i:Int)+1)=((i+1:Nat):Int)from by have:=H.out;unfold wrap64;omega);have B:=h! (nS! fs s n r i);have ae:(inN fs s n r).length=n:=ai! r;obtain⟨-,-,cs,-,a2⟩:=C.out.inn.cellAt
    have c1:wr.cell? ⟨gi,i,none⟩=some (.bool ((inN fs s n r)[i]'(by omega))):=by
     have:=a2 i (by rw[aX!];omega);rw[this];simp[boC]
    have RG:=h! (RI.out wr C.out.below);have b9:=h! (RJ.out wr C.out.below);have a9:(i:Int)<(n:Int):=by omega
    cases hin:((inN fs s n r)[i]'(by omega)) with
    | true =>
     have X:=fz! (fs:=fs) (s:=s) (l:=inN fs s n r) (i:=i) (by omega) hin;rw[X,if_neg (by decide)]at B;rw[hin]at c1;clear X hin a2 ae hlt;go_wp2_with fail
     obtain⟨wd,o⟩:=e! (World.drew wr);have DX:=h! (show Ext wr wd from xd! o);refine re! o ?_;clear o;have g1:=fun W (h:Ext wd W)=>Ext.cell (DX.out.trans h) c1;have hG:=fun W (h:Ext wd W)=>(RG.out.below (DX.out.trans h)).cells;(refine WalkN.tk [0,1,2,3,4,5] ?_;(iterate 6 (refine c! ?_));refine TkN.n ?_)
     refine k! 6 ?_;refine k! 7 ?_;refine k! 8 ?_;refine k! 9 ?_;refine k! 10 ?_
     (refine WalkN.tk [11,12] ?_;(iterate 2 (refine c! ?_));refine TkN.n ?_)
     refine k! 13 ?_;refine k! 14 ?_;refine k! 15 ?_;refine k! 16 ?_;refine k! 17 ?_;refine k! 18 ?_;refine k! 19 ?_;refine k! 20 ?_
     refine t! 21 ?_
     refine d! ?_;clear g1 hG c1 a9;go_wp2_with fail
     go_roundw
     case rel=>exact⟨i+1,a.out,by first | rw[q.out] | go_num,by rw[B.out];exact RF.out.below DX.out,p.out.trans (DX.out.mono (by have:=p.out.size;have:=f.out;omega))⟩
     case measure=>have:=a.out;(try rw[q.out]);simp[intOf];omega
    | false =>
     rw[hin]at c1;by_cases hf:i<fs.length
     ·have X:=gU! (fs:=fs) (s:=s) (l:=inN fs s n r) (i:=i) (by omega) hin hf;obtain⟨bp,bg,bk,bo,e1,e2,-,-,-,-,M⟩:=(RR.out wr C.out.below).rows;cases e2;obtain⟨p1,q1,u,rfl,a6,k0,k1,k2,k3,hu⟩:=M i hf;have a8:(i:Int)<(fs.length:Int):=by omega
      have HU:=h! hu;have HI:Hid (Sl (· < wr.heap.size) wr 1 (.slice (some ⟨gi,0,none⟩) n n) (boC (inN fs s n r))):=h! (C.out.inn.sl.mono fun _ h=>h.2);rw[X]at B;generalize fs[i]=x at *;obtain⟨l1,m1,l2,m2,l4,m4,rfl⟩:=hu.shape;dsimp only at k0 k1 k2 k3;clear hu a6 M a2 X hin ae hlt hf e1;go_wp2_with fail
      obtain⟨wd,o⟩:=e! (World.drew wr);have DX:=h! (show Ext wr wd from xd! o);refine re! o ?_;clear o;have g1:=fun W (h:Ext wd W)=>Ext.cell (DX.out.trans h) c1;have hG:=fun W (h:Ext wd W)=>(RG.out.below (DX.out.trans h)).cells;have hS:=fun W (h:Ext wd W)=>(b9.out.below (DX.out.trans h)).cells;have j0:=fun W (h:Ext wd W)=>Ext.cell (DX.out.trans h) k0;have j1:=fun W (h:Ext wd W)=>Ext.cell (DX.out.trans h) k1;have j2:=fun W (h:Ext wd W)=>Ext.cell (DX.out.trans h) k2;have j3:=fun W (h:Ext wd W)=>Ext.cell (DX.out.trans h) k3;(refine WalkN.tk [0,1,2,3,4,5,6,7,8,9,10,11,12,13,14,15,16,17,18,19] ?_;(iterate 20 (refine c! ?_));refine TkN.n ?_)
      clear g1 hG hS j0 j1 j2 j3 k0 k1 k2 k3 c1;have a0:=h! (jU! s (inN fs s n r) x (.slice (some ⟨gi,0,none⟩) n n) _ wd (HU.out.up DX.out) ((HI.out.same (Same.below DX.out)).mono fun _ h=>n1! h DX.out.size));unfold fV pV at a0;dsimp only at a0;refine ob! 20 ?_;intro K hK;go_simp;refine a0.out.mono ?_;rintro e w5 ⟨rfl,ai⟩;refine hK.out _ _ ai ?_;clear hK a0;have X5:Hid (Ext wr w5):=h! (DX.out.trans ai);clear ai;refine t! 21 ?_
      refine d! ?_;clear a9 a8;cases hq:holdF s (inN fs s n r) x with
      | true =>
       rw[hq,if_pos rfl]at B;have aI:=h! (RF.out.below X5.out);have G:=h! (show Below A w4 w5 from p.out.trans (X5.out.mono (by have:=p.out.size;have:=f.out;omega)));clear hq;have U:=h! (Ext.alloc w5 (.cells #[.int .i64 (i:Int)] 3));go_wp2_with (at_builtin;go_must (refine aE! intsT rfl (.tmp 50) (.tmp 52) rfl rfl (aI.out.below U.out) rfl (m:=1) (news:=[.int .i64 (i:Int)]) rfl (by intro j u hu;rw[Addr.add_lit,cell_of_row _ w5.heap.size (0+j) #[.int .i64 (i:Int)] 3 (0,0) (heap_alloc_new w5 _)];simpa using hu) (by simp[Value.oneCell']) (by have:=H.out;have:=a.out;have:=hi! fs s n r i;have:=f.out;have:=G.out.size;rw[ad!];simp at *;omega) (by have:=H.out;have:=a.out;have:=hi! fs s n r i;have:=f.out;have:=G.out.size;rw[ad!];simp at *;omega) (by have:=H.out;have:=a.out;have:=hi! fs s n r i;have:=f.out;have:=G.out.size;have:=U.out.size;omega) ?_;intro v6 w6 hown6 hb6 hg6;have bd:=h! (show Own w6 A 3 1 v6 (ic (frN fs s n r (i+1)))from by rw[B.out,bO!];exact hown6);have bc:=h! (show Below A w4 w6 from be! (G.out.trans (U.out.mono (by have:=G.out.size;have:=f.out;omega))) (aI.out.below U.out) hg6 (by have:=G.out.size;have:=U.out.size;have:=f.out;omega));clear hown6 hb6 hg6))
       go_roundw
       case rel=>exact⟨i+1,a.out,by first | rw[q.out] | go_num,bd.out,bc.out⟩
       case measure=>have:=a.out;(try rw[q.out]);simp[intOf];omega
      | false =>
       rw[hq,if_neg (by decide)]at B;clear hq;go_wp2_with fail
       go_roundw
       case rel=>exact⟨i+1,a.out,by first | rw[q.out] | go_num,by rw[B.out];exact RF.out.below X5.out,p.out.trans (X5.out.mono (by have:=p.out.size;have:=f.out;omega))⟩
       case measure=>have:=a.out;(try rw[q.out]);simp[intOf];omega
     ·rw[jp! (by omega),if_neg (by decide)]at B;have a8:¬ (i:Int)<(fs.length:Int):=by omega
      clear a2 hin ae hlt hf;go_wp2_with fail
      obtain⟨wd,o⟩:=e! (World.drew wr);have DX:=h! (show Ext wr wd from xd! o);refine re! o ?_;clear o;have g1:=fun W (h:Ext wd W)=>Ext.cell (DX.out.trans h) c1;have hG:=fun W (h:Ext wd W)=>(RG.out.below (DX.out.trans h)).cells;have Z:decide (i<fs.length)=false:=v3! (by omega);(refine WalkN.tk [0,1,2,3,4,5,6,7,8,9,10,11,12] ?_;(iterate 13 (refine c! ?_));refine TkN.n ?_)
      refine k! 13 ?_;refine k! 14 ?_;refine k! 15 ?_;refine k! 16 ?_;refine k! 17 ?_;refine k! 18 ?_;refine k! 19 ?_;refine k! 20 ?_
      refine t! 21 ?_
      refine d! ?_;clear g1 hG c1 a9 a8 Z;go_wp2_with fail
      go_roundw
      case rel=>exact⟨i+1,a.out,by first | rw[q.out] | go_num,by rw[B.out];exact RF.out.below DX.out,p.out.trans (DX.out.mono (by have:=p.out.size;have:=f.out;omega))⟩
      case measure=>have:=a.out;(try rw[q.out]);simp[intOf];omega
   ·obtain rfl:i=n:=by omega
    have al:=h! (pk! fs s i r);have Q:=h! (mI! fs s i r);have aU:=h! (hi! fs s i r i);generalize frN fs s i r i=F at *;obtain⟨aW,bj,bl,aX,Z,-,-⟩:=RF.out.sl.len;cases aX;rw[ad!,Nat.mul_one]at Z;subst Z;clear hlt hi;by_cases h0:F=[]
    ·subst h0
     have aZ:=h! (show outN fs s i r=aR! fs s i from mL! fun j hj=>by
      have:=al.out j hj;simpa using this)
     have aa:=C.out.out;rw[aZ.out]at aa;have a7:=h! aa;have b3:=h! (RK.out wr C.out.below);clear aa;go_wp2_with fail
     go_ret
     exact⟨⟨_,rfl,by
      obtain⟨m,h1,h2⟩:=a7.out;rcases h2 with⟨h2,_⟩|⟨g',cap,cur,hv,hbg,hg,hr⟩
      ·cases h2
      ·exact⟨m,h1,.inr ⟨g',cap,cur,hv,by have:=a4.out;omega,hg,hr⟩⟩⟩,b3.out⟩
    ·have aw:Hid (0<F.length):=h! (List.length_pos_iff.2 h0);have aR:((F.length:Int) == 0)=false:=by rw[n7!];have:=aw.out;omega
     have aE:=h! (show cntT (inN fs s i r)<cntT (inN fs s i (r+1))from by
      obtain⟨j,-,hj,hn⟩:=Q.out F[0] (n5! aw.out);exact km! hj hn)
     clear h0;go_wp2_with fail
     clear aR;obtain⟨w7,ay⟩:=e! wr;rw[<-ay]at RF C p ⊢;clear ay;have b4:=h! (RF.out.sl.ints);go_loopw [61] (fun jv wr=>∃(j:Nat) (L:List Bool) (R:List Int),j<=F.length/\jv= .int .i64 j/\InvR fs s i r F j L R/\SolI lo gi lo i wb wr L R/\Own wr A 3 1 (.slice b1 F.length fc) (ic F)/\A<=wr.heap.size) (fun jv _=>F.length-(intOf jv).toNat)
     case atStart=>exact⟨0,_,_,v1! _,rfl,InvR.start fs s i r F,C.out,RF.out,n6! (v4! f.out) (by rw[f.out]at p;exact p.out.size)⟩
     case round =>
      obtain⟨j,L,R,hj,rfl,Y,J,ax,aF⟩:=hrel;have HI:=h! Y;have HS:=h! J;have HO:=h! ax;have HZ:=h! aF;clear Y J ax aF b4;by_cases hlt:j<F.length
      ·have a:=h! hlt;obtain⟨aY,bq,aS,-,-,O⟩:=HO.out.sl.ints;cases aS;obtain⟨b,b7,rfl,aq,c0⟩:=O j hlt;obtain⟨k,hk,b6,V⟩:=Q.out F[j] (n5! hlt);have aH:=h! (HI.out.step hlt (by omega) (by omega));have q:=h! (show wrap64 ((j:Int)+1)=((j+1:Nat):Int)from by have:=aU.out;have:=H.out;unfold wrap64;omega);replace c0:=c0.trans (congrArg (fun z=>some (Value.int .i64 z)) hk);rw[show F[j].toNat=k by omega,<-ac.out]at aH;have bh:(j:Int)<(F.length:Int):=by omega
       have bi:(k:Int)<(i:Int):=by omega
       obtain⟨aA,ab,bf,ar,ak⟩:=HS.out.inn.cellAt;obtain⟨aP,N,be,aM,aC⟩:=HS.out.out.cellAt;obtain⟨y1,d1⟩:∃y,wr.cell? ⟨gi,k,none⟩=some y:=⟨_,ak k (by omega)⟩;obtain⟨y2,d2⟩:∃y,wr.cell? ⟨lo,k,none⟩=some y:=⟨_,aC k (by omega)⟩;have f1:=ar.free;have f2:=aM.free;have S2:=h! ((HS.out.setOut k rz).setIn k);obtain⟨-,-,bm,an,aJ⟩:=(HS.out.setOut k rz).inn.cellAt;obtain⟨y3,d3⟩:∃y,(wr.setCell ⟨lo,k,none⟩ (.int .i64 rz)).cell? ⟨gi,k,none⟩=some y:=⟨_,aJ k (by rw[aX!];rw[aX!]at aA;omega)⟩;have f3:=an.free
       have aj:=h! (show b≠lo/\b≠gi from by
        have:=f.out;have h1:=(HS.out.inn.block gi rfl).2;have h2:=(RS.out.inn.block gi rfl).2;have h3:=(RS.out.out.block lo rfl).2;have h4:=aq.1;omega)
       have aV:=h! (show Own ((wr.setCell ⟨lo,k,none⟩ (.int .i64 rz)).setCell ⟨gi,k,none⟩ (.bool true)) A 3 1 (.slice (some ⟨b,b7,none⟩) F.length fc) (ic F)from HO.out.keepOwn fun g hg=>by
        obtain rfl:b=g:=v5! hg;rw[Below.heap_setCell _ _ _ _ fun e=>aj.out.2 e,Below.heap_setCell _ _ _ _ fun e=>aj.out.1 e])
       have ba:Hid (A<=((wr.setCell ⟨lo,k,none⟩ (.int .i64 rz)).setCell ⟨gi,k,none⟩ (.bool true)).heap.size):=h! (by simpa using HZ.out);clear O aq hk b6 V ak aC aJ ar aM an aA aP hlt ab N;go_wp2_with fail
       go_roundw
       case rel=>exact⟨j+1,_,_,a.out,by first | rw[q.out] | go_num,aH.out,S2.out,aV.out,ba.out⟩
       case measure=>have:=a.out;(try rw[q.out]);simp[intOf];omega
      ·obtain rfl:j=F.length:=by omega
       obtain⟨rfl,rfl⟩:=HI.out.done al.out;have av:=h! (show wrap64 (rz+1)=((r+1+1:Nat):Int)from by have:=ac.out;have:=b2.out;have:=H.out;unfold wrap64;omega);have b8:=h! (show r+1<=i from by have:=aE.out;have:=aL.out;have:=ko! fs s i (r+1);omega);clear hlt hj;go_wp2_with fail
       go_roundw
       case rel=>exact⟨r+1,by first | rw[av.out] | go_num,by have:=aE.out;have:=aL.out;omega,by have:=HZ.out;have:=ag.out;have:=f.out;omega,HS.out⟩
       case measure=>have:=b8.out;have:=ac.out;(try rw[av.out]);simp[intOf];omega
def NoInt (w:World)(b:Nat):Prop:=∀cs fr,w.heap[b]?≠some (.cells cs 3 fr)/\w.heap[b]?≠some (.cells cs 107 fr)
abbrev UK (lo:Nat) (A:Nat->Prop) (w w':World):Prop:=Kept (fun b=>b<w.heap.size/\(b<lo\/A b\/NoInt w b)) w w'
section
variable {lo : Nat} {A : Nat -> Prop} {w w' w'' : World}
theorem UK.refl (lo:Nat)(A:Nat->Prop)(w:World):UK lo A w w:=Kept.refl _ _
theorem UK.of (h:Ext w w'):UK lo A w w':=Below.kept h fun _ hb=>hb.1
theorem UK.next (h:UK lo A w w')(k:UK lo A w' w''):UK lo A w w'':=Kept.trans h (Kept.mono k fun b hb=>⟨n1! hb.1 h.size,by
 rcases hb.2 with h1 | h1 | h1
 ·exact .inl h1
 ·exact .inr (.inl h1)
 ·exact .inr (.inr fun cs fr=>by rw[h.block b ⟨hb.1,.inr (.inr h1)⟩];exact h1 cs fr)⟩)
theorem UK.low (h:UK lo A w w')(hl:lo<=w.heap.size):Same (· < lo) w w':=fun b hb=>h.block b ⟨n1! hb hl,.inl hb⟩
theorem UK.blk (h:UK lo A w w') {b:Nat}{cs:Array Value}{t:TypeId}(hb:Blk w b cs t)(h1:t≠3)(h2:t≠107):Blk w' b cs t :=
 (h.block b ⟨hb.lt,.inr (.inr fun cs' fr=>⟨fun e=>by
  rw[show w.heap[b]?=_ from hb]at e;injection e with e
  injection e with _ e _
  exact h1 e,fun e=>by
  rw[show w.heap[b]?=_ from hb]at e;injection e with e
  injection e with _ e _
  exact h2 e⟩)⟩).trans hb
theorem UK.blkA (h:UK lo A w w') {b:Nat}{cs:Array Value}{t:TypeId}(hb:Blk w b cs t)(h1:A b):Blk w' b cs t:=(h.block b ⟨hb.lt,.inr (.inl h1)⟩).trans hb
end
theorem FTAt.lowUp {lo:Nat}{A:Nat->Prop}{w w':World}{r:FT}{v:FV3}(h:FTAt (· < lo) w r v)(hk:UK lo A w w')(hl:lo<=w.heap.size):FTAt (· < lo) w' r v:=h.same (hk.low hl)
theorem lq! (g:Nat)(cap:Array Value)(eg:∀args W,(callFunc g args).run prog W= .ok (.enter g args) W)(lo N:Nat)(A:Nat->Prop)(Inv:List Int->World->Prop)
  (hx:∀ks W W',Inv ks W->Ext W W'->Inv ks W') (hdo:∀ks k W,Inv ks W->lo<=W.heap.size->ks.length<N->Calls prog g (#[.int .i64 k]++cap) W fun e W'=>e= .returned (.tuple #[])/\Inv (ks++[k]) W'/\UK lo A W W') (f:FT) :
  ∀(v:FV3) (ks:List Int) (w:World),FTAt (· < lo) w f v->lo<=w.heap.size->Inv ks w->ks.length+f.named.length<=N ->
  Calls prog 208 #[fV f v,.func (.func g) #[] cap] w fun e w'=>e= .returned (.tuple #[])/\Inv (ks++f.named) w'/\UK lo A w w':=by
 induction f using FT.ind with
 | h f ih =>
 intro v ks w h hlo hinv hN;obtain⟨a1,c1,a2,c2,a4,c4,rfl⟩:=h.shape;obtain⟨k,subs,refs,a⟩:=f;rw[FT.named_eq,u4!]at hN;rw[FT.named_eq];have I:=h! ih;have H1:=h! h;have a3:=h! hdo;have E:=h! hx;have HN:=h! hN;have D:=h! hlo;clear ih h hdo hx hN hlo;unfold fV;dsimp only[FT.k,FT.subs,FT.refs,FT.ps]at I H1 HN ⊢;obtain⟨T,j⟩:=e! (w.alloc (.cells #[.int .i64 k,.slice a1 subs.length c1,.slice a2 refs.length c2,.slice a4 a.length c4] 128));have R:=h! (show Ext w T from xa! j);have BA:=h! (show Blk T w.heap.size #[.int .i64 k,.slice a1 subs.length c1,.slice a2 refs.length c2,.slice a4 a.length c4] 128 from bm! j);have F:=h! (E.out ks w T hinv R.out);have F1:=h! (fun W (hW:UK lo A T W)=>H1.out.lowUp (UK.next (UK.of R.out) hW) D.out);have FB:=h! (fun W (hW:UK lo A T W)=>hW.blk BA.out (by decide) (by decide));have FL:=h! (fun W (hW:UK lo A T W)=>show lo<=W.heap.size from n6! D.out (n6! R.out.size hW.size));clear hinv H1;have L:=BA.out.cells;clear BA;rw[j]at L;go_enter func208,ntmps208
 go_wp2_with fail
 clear L;rw[<-j];clear j;go_loopw [11] (fun iv wr=>∃i:Nat,i<=refs.length/\iv= .int .i64 i/\Inv (ks++refs.take i) wr/\UK lo A T wr) (fun iv _=>refs.length-(intOf iv).toNat)
 case atStart=>exact⟨0,v1! _,rfl,by simpa using F.out,UK.refl _ _ _⟩
 case round =>
  obtain⟨i,hi,rfl,d,Q⟩:=hrel;have U:=h! d;have X:=h! Q;clear d Q F;by_cases hlt:i<refs.length
  ·have o:=h! hlt;have r:=h! (n2! hlt);obtain⟨-,V,-⟩:=(FTAt.iff _ _).1 (F1.out wr X.out);obtain⟨p1,q1,rfl,z,J⟩:=Sl.int_at V hlt;dsimp only[FT.refs]at J;have a5:(i:Int)<(refs.length:Int):=by omega
   have q:=h! (show wrap64 ((i:Int)+1)=((i+1:Nat):Int)from by
    obtain⟨_,n,c,he,h1,V,h3⟩:=V.len;cases he;unfold wrap64;omega)
   have b:=h! (a3.out (ks++refs.take i) refs[i] wr U.out (FL.out wr X.out) (by have:=HN.out;rw[u4!,x4!];omega));generalize refs[i]=x at *;clear hlt z V;go_wp2_with fail
   refine b.out.mono ?_;rintro e O ⟨rfl,l,p⟩;have B:=h! (show Inv (ks++refs.take (i+1)) O from by rw[r.out,<-y6!];exact l);have s:Hid (UK lo A T O):=h! (UK.next X.out p);clear l p b J;go_wp2_with fail
   go_roundw
   case rel=>exact⟨i+1,o.out,by first | rw[q.out] | go_num,B.out,s.out⟩
   case measure=>have:=o.out;(try rw[q.out]);simp[intOf];omega
  ·obtain rfl:i=refs.length:=by omega
   rw[u2!]at U;have L:=(FB.out wr X.out).cells;clear hlt hi;go_wp2_with fail
   clear L;obtain⟨w4,H⟩:=e! wr;rw[<-H]at U X ⊢;clear H;go_loopw [22] (fun iv wr=>∃i:Nat,i<=a.length/\iv= .int .i64 i/\Inv (ks++refs++nmdL (a.take i)) wr/\UK lo A T wr) (fun iv _=>a.length-(intOf iv).toNat)
   case atStart=>exact⟨0,v1! _,rfl,by simpa [nmdL] using U.out,X.out⟩
   case round =>
    obtain⟨i,hi,rfl,d,Q⟩:=hrel;have y:=h! d;have m:=h! Q;clear d Q;by_cases hlt:i<a.length
    ·have o:=h! hlt;have r:=h! (eK! hlt)
     have a7:=h! (show(nmdL (a.take i)).length+a[i].named.length<=(nmdL a).length from by
      have h1:nmdL a=nmdL (a.take (i+1))++nmdL (a.drop (i+1)):=by rw[<-bs!,x6!]
      rw[h1,r.out];simp only[u4!];omega)
     obtain⟨a8,g1,C,K,G,t⟩:=(F1.out wr m.out).rows;dsimp only[FT.ps]at C K G t;cases C;obtain⟨p1,q1,u,rfl,z,e0,e1,e2,e3,hu⟩:=t i hlt;have a0:=h! (I.out a[i] (n5! hlt));have q:=h! (show wrap64 ((i:Int)+1)=((i+1:Nat):Int)from by unfold wrap64;omega);have a5:(i:Int)<(a.length:Int):=by omega
     generalize a[i]=x at *;obtain⟨l1,m1,l2,m2,l4,m4,rfl⟩:=hu.shape;have M:=h! (Ext.alloc wr (.cells #[.int .i64 x.k,.slice l1 x.subs.length m1,.slice l2 x.refs.length m2,.slice l4 x.ps.length m4] 128));have b:=h! (a0.out _ (ks++refs++nmdL (a.take i)) _ (hu.lowUp (UK.of (A:=A) M.out) (FL.out wr m.out)) (n6! (FL.out wr m.out) M.out.size) (E.out _ _ _ y.out M.out) (by have:=HN.out;have:=a7.out;simp only[u4!];omega));unfold fV at b;dsimp only at e0 e1 e2 e3 b;have a6:=(Blk.made wr #[.int .i64 x.k,.slice l1 x.subs.length m1,.slice l2 x.refs.length m2,.slice l4 x.ps.length m4] 128).cells;clear hlt t hu z K G;go_wp2_with fail
     refine b.out.mono ?_;rintro e O ⟨rfl,l,p⟩;have B:=h! (show Inv (ks++refs++nmdL (a.take (i+1))) O from by rw[r.out,<-y6!];exact l);have s:Hid (UK lo A T O):=h! (UK.next m.out (UK.next (UK.of M.out) p));clear l p a6 b e0 e1 e2 e3;go_wp2_with fail
     go_roundw
     case rel=>exact⟨i+1,o.out,by first | rw[q.out] | go_num,B.out,s.out⟩
     case measure=>have:=o.out;(try rw[q.out]);simp[intOf];omega
    ·obtain rfl:i=a.length:=by omega
     rw[u2!,y6!]at y;have XE:Hid (UK lo A w wr):=h! (UK.next (UK.of R.out) m.out);go_wp2_with fail
     go_end0
     exact⟨rfl,y.out,XE.out⟩
structure UsAt (w:World)(lo ub n:Nat)(A:Nat->Prop)(U:List (List Int))(vs:List Value):Prop where
 arr:Own w lo 107 1 (.slice (some ⟨ub,0,none⟩) n n) vs
 vlen:vs.length=n
 ulen:U.length=n
 row:∀k v,vs[k]?=some v->Own w lo 3 1 v (ic (U.getD k []))
 apart:∀(j k:Nat) (v u:Value) (g:Nat),j≠k->vs[j]?=some v->vs[k]?=some u->v.ownBlock=some g->u.ownBlock≠some g
 off:∀(k:Nat) (v:Value) (g:Nat),vs[k]?=some v->v.ownBlock=some g->¬ A g
section
variable {w w' w2 : World} {lo ub n k : Nat} {A : Nat -> Prop} {U : List (List Int)} {vs : List Value} {v v2 : Value} {x : Int}
theorem UsAt.ext (h:UsAt w lo ub n A U vs)(hx:Ext w w'):UsAt w' lo ub n A U vs :=
 ⟨h.arr.below hx,h.vlen,h.ulen,fun k v hv=>(h.row k v hv).below hx,h.apart,h.off⟩
theorem UsAt.add (h:UsAt w lo ub n A U vs)(hk:k<n)(hv:vs[k]?=some v)(ho:Own w2 lo 3 1 v2 (ic (U.getD k []++[x])))(hw:∀g,v2.ownBlock=some g->v.ownBlock=some g\/w.heap.size<=g)(hg:w.grownBy w2 v.ownBlock)(hA:∀b,A b->b<w.heap.size)(hub:¬ A ub) :
  UsAt (w2.setCell ⟨ub,k,none⟩ v2) lo ub n A (U.set k (U.getD k []++[x])) (vs.set k v2)/\UK lo A w (w2.setCell ⟨ub,k,none⟩ v2):=by
 have hr:=h.row k v hv;have f:Own w2 lo 107 1 (.slice (some ⟨ub,0,none⟩) n n) vs:=h.arr.aside hr (by decide) hg
 have a1:∀g,v2.ownBlock=some g->g≠ub:=fun g hg2 e=>by
  subst e;exact ho.apart f (by decide) hg2 rfl
 have c:∀b,b≠ub->(w2.setCell ⟨ub,k,none⟩ v2).heap[b]?=w2.heap[b]?:=fun b hb=>Below.heap_setCell _ _ _ _ hb
 have a:∀j u,j≠k->vs[j]?=some u->∀g,u.ownBlock=some g->g<w.heap.size/\g≠ub/\v.ownBlock≠some g:=fun j u hj hu g hg2=>by
  have o:=(h.row j u hu);refine⟨(o.block g hg2).2,fun e=>?_,fun e=>h.apart k j v u g (Ne.symm hj) hv hu e hg2⟩;subst e;exact o.apart h.arr (by decide) hg2 rfl
 refine⟨⟨f.set1 k v2,by rw[List.length_set];exact h.vlen,by rw[List.length_set];exact h.ulen,fun j u hu=>?_,fun j l u u' g hjl hu hu' hg2=>?_,fun j u g hu hg2=>?_⟩,?_⟩
 ·rw[dO!,h.ulen];by_cases hj:j=k
  ·subst hj;rw[List.getElem?_set_self (by rw[h.vlen];exact hk)]at hu;obtain rfl:=v5! hu;rw[if_pos ⟨rfl,hk⟩];exact ho.keepOwn fun g hg2=>c g (a1 g hg2)
  ·rw[List.getElem?_set_ne (Ne.symm hj)]at hu;rw[if_neg fun e=>hj e.1]
   exact(h.row j u hu).keepOwn fun g hg2=>by
    obtain⟨o,p,m⟩:=a j u hj hu g hg2;rw[c g p];exact hg.block g o (fun e=>m e.symm)
 ·by_cases hj:j=k
  ·subst hj;rw[List.getElem?_set_self (by rw[h.vlen];exact hk)]at hu;obtain rfl:=v5! hu;rw[List.getElem?_set_ne hjl]at hu';intro e;obtain⟨o,p,m⟩:=a l u' (Ne.symm hjl) hu' g e;rcases hw g hg2 with h4 | h4
   ·exact m h4
   ·omega
  ·rw[List.getElem?_set_ne (Ne.symm hj)]at hu;obtain⟨o,p,m⟩:=a j u hj hu g hg2;by_cases hl:l=k
   ·subst hl;rw[List.getElem?_set_self (by rw[h.vlen];exact hk)]at hu';obtain rfl:=v5! hu';intro e;rcases hw g e with h4 | h4
    ·exact m h4
    ·omega
   ·rw[List.getElem?_set_ne (Ne.symm hl)]at hu';exact h.apart j l u u' g hjl hu hu' hg2
 ·by_cases hj:j=k
  ·subst hj;rw[List.getElem?_set_self (by rw[h.vlen];exact hk)]at hu;obtain rfl:=v5! hu;intro hAg;rcases hw g hg2 with h4 | h4
   ·exact h.off j v g hv h4 hAg
   ·have:=hA g hAg;omega
  ·rw[List.getElem?_set_ne (Ne.symm hj)]at hu;exact h.off j u g hu hg2
 ·refine⟨hg.os,hg.tape,hg.output,by simpa using hg.size,fun b hb=>?_⟩;obtain⟨a0,i⟩:=hb
  have o:b≠ub:=fun e=>by
   subst e;rcases i with p | p | p
   ·have:=(h.arr.block b rfl).1;omega
   ·exact hub p
   ·obtain⟨d,m⟩:=h.arr.typed (g:=b) rfl;exact(p d (0,0)).2 m
  rw[c b o];refine hg.block b a0 fun e=>?_;rcases i with p | p | p
  ·have:=(hr.block b e.symm).1;omega
  ·exact h.off k v b hv e.symm p
  ·obtain⟨d,m⟩:=hr.typed e.symm;exact(p d (0,0)).1 m
end
def noteU (n i:Nat)(k:Int)(U:List (List Int)):List (List Int):=if i<n/\0<=k/\k<(n:Int)then U.set k.toNat (U.getD k.toNat []++[(i:Int)])else U
theorem ny! (lo ub n i ib nb sb sp:Nat)(A:Nat->Prop)(k:Int)(U:List (List Int))(vs:List Value)(c0 c1 c2 c3 c4 c5 c6:Value)(w:World)(hib:Blk w ib #[.int .i64 (i:Int)] 3)(hnb:Blk w nb #[.int .i64 (n:Int)] 3)(hsb:Blk w sb #[.pointer (some ⟨sp,0,none⟩)] 254)
  (hsp:Blk w sp #[c0,c1,c2,c3,c4,c5,c6,.slice (some ⟨ub,0,none⟩) n n] 259) (h:UsAt w lo ub n A U vs) (hAi:A ib/\A nb) (hA:∀b,A b->b<w.heap.size) (hub:¬ A ub) (hlo:lo<=w.heap.size) (hlen:∀k,(U.getD k []).length<=2000000000000) :
  Calls prog 209 #[.int .i64 k,.pointer (some ⟨ib,0,none⟩),.pointer (some ⟨nb,0,none⟩),.pointer (some ⟨sb,0,none⟩)] w fun e w'=>e= .returned (.tuple #[])/\(∃vs',UsAt w' lo ub n A (noteU n i k U) vs')/\UK lo A w w':=by
 have Q:=h! h;have h1:=hib.cells;have h2:=hnb.cells;have a5:=h! hib;have a8:=h! hsb;have a4:=h! hsp;have aa:=h! hAi;have a2:=h! hA;have a7:=h! hub;have a3:=h! hlo;have ab:=h! hlen;clear h hib hnb hsb hsp hAi hA hub hlo hlen;by_cases hc:i<n/\0<=k/\k<(n:Int)
 ·have p:=h! (show noteU n i k U=U.set k.toNat (U.getD k.toNat []++[(i:Int)])from by unfold noteU;rw[if_pos hc]);obtain⟨hin,hk0,a6⟩:=hc;obtain⟨m,rfl⟩:=Int.eq_ofNat_of_zero_le hk0;rw[Int.toNat_natCast]at p;have J:(i:Int)<(n:Int):=by omega
  have B:m<n:=by omega
  have q:=h! B;obtain⟨v,hv⟩:∃v,vs[m]?=some v:=⟨_,n4! (by rw[Q.out.vlen];exact B)⟩;have R:=h! hv;have HR:=h! (Q.out.row m v hv);obtain⟨c,N,O,rfl,F,-,-⟩:=HR.out.sl.len;rw[ad!,Nat.mul_one]at F;have H:=h! (show(U.getD m []).length<=2000000000000 from ab.out m);clear hv hin F B;go_enter func209,ntmps209
  go_wp2_with fail
  obtain⟨T,y⟩:=e! (World.drew w);have M:=h! (show Ext w T from xd! y);refine as! 16 (Kept (fun x=>x<T.heap.size/\Value.ownBlock (.slice c N O)≠some x) T) (by rw[<-y];exact Kept.refl _ _) (by kernel_rfl) (by kernel_rfl) (fun _ _ d _ _ h=>by cases d <;> exact h) ?_;rw[<-y];clear y h1 h2;have UD:=h! (Q.out.ext M.out);have I:=h! (HR.out.below M.out)
  have z:=h! (show ∀b cs t,Blk T b cs t->t≠3->Value.ownBlock (.slice c N O)≠some b from fun b cs t hb ht e=>by
   obtain⟨ae,L⟩:=I.out.typed e;rw[show T.heap[b]?=_ from hb]at L;injection L with L
   injection L with _ L _
   exact ht L)
  have f:=a8.out.below M.out;have g:=a4.out.below M.out;have o:=a5.out.below M.out;obtain⟨r,a0,ag,a,E⟩:=UD.out.arr.cellAt;have h1:=fun W (h:Kept (fun x=>x<T.heap.size/\Value.ownBlock (.slice c N O)≠some x) T W)=>(h.blk f ⟨f.lt,z.out _ _ _ f (by decide)⟩).cells;have h2:=fun W (h:Kept (fun x=>x<T.heap.size/\Value.ownBlock (.slice c N O)≠some x) T W)=>(h.blk g ⟨g.lt,z.out _ _ _ g (by decide)⟩).cells;have L:=fun W (h:Kept (fun x=>x<T.heap.size/\Value.ownBlock (.slice c N O)≠some x) T W)=>(h.blk o ⟨o.lt,fun e=>UD.out.off m _ ib R.out e aa.out.1⟩).cells
  have h4:∀W,Kept (fun x=>x<T.heap.size/\Value.ownBlock (.slice c N O)≠some x) T W->W.cell? ⟨ub,m,none⟩=some (.slice c N O):=fun W h=>by
   have h5:=h.blk a ⟨a.lt,z.out _ _ _ a (by decide)⟩;have h6:=E m (by rw[r];exact q.out);rw[h5.cells m,<-a.cells m,h6];have:=R.out;rw[n4! (by rw[r];exact q.out)]at this;exact this
  have af:(m:Int)<(n:Int):=by have:=q.out;omega
  (refine WalkL.tk [0,1,2,3,4,5,6,7,8,9,10,11,12] ?_;(iterate 13 (refine l! ?_));refine TkL.n ?_)
  clear h1 h2 L h4;have s:Ext T (T.alloc (.cells #[.int .i64 (i:Int)] 3)):=Ext.alloc _ _;refine oL! 13 ?_;refine b! ?_;intro K hK;go_simp;refine hK.out _ _ ((Kept.refl _ _).alloc (fun x hx=>hx.1) _) ?_;clear hK;refine oL! 14 ?_;refine b! ?_;intro K hK;refine bE! intsT (.tmp 28) (.tmp 30) rfl rfl (I.out.below s) (m:=1) (news:=[.int .i64 (i:Int)]) rfl rfl (fun j u hu=>?_) (by simp[Value.oneCell']) (by have:=H.out;rw[ad!];simp at *;omega) (by have:=H.out;rw[ad!];simp at *;omega) (by have:=a3.out;have:=M.out.size;simp;omega) (fun v2 w2 hown2 hw2 hg2=>?_)
  ·rw[Addr.add_lit,cell_of_row _ T.heap.size (0+j) #[.int .i64 (i:Int)] 3 (0,0) (heap_alloc_new T _),Nat.zero_add];simpa using hu
  have C:Kept (fun x=>x<T.heap.size/\Value.ownBlock (.slice c N O)≠some x) T w2:=⟨hg2.os.trans rfl,hg2.tape.trans rfl,hg2.output.trans rfl,n6! (by simp) hg2.size,fun x hx=>(hg2.block x (by have:=hx.1;simp;omega) (fun e=>hx.2 e.symm)).trans (Below.heap_alloc T _ x hx.1)⟩;have G:=h! ((UD.out.ext s).add (x:=(i:Int)) q.out R.out (by rw[bO!];exact hown2) hw2 hg2 (fun b hb=>n1! (a2.out b hb) (n6! M.out.size s.size)) a7.out);have a1:=h! (UK.next (UK.of (lo:=lo) (A:=A) M.out) (UK.next (UK.of s) G.out.2));have D:=C.blk a ⟨a.lt,z.out _ _ _ a (by decide)⟩;refine hK.out _ _ C ?_;clear hK;simp only[Act.put,pA,pZ,pS];obtain⟨o2,n2,ad,rfl,-,-,-⟩:=hown2.sl.len
  have a9:w2.cell? ⟨ub,m,none⟩=some (.slice c N O):=by
   rw[D.cells m,<-a.cells m,E m (by rw[r];exact q.out)];have:=R.out;rw[n4! (by rw[r];exact q.out)]at this;exact this
  have ac:=D.free;clear C hown2 hw2 hg2 s D a E r a0 f g o;((refine WalkL.take 15 _ ?_ (by simp only[gA,gS,gZ];rfl) (by kernel_rfl) (by kernel_rfl) (by kernel_rfl) (by rfl) (fun W hW=>?_) ?_;rotate_left;· (go_simp;try with_reducible rfl));simp only[Act.put,pA,pZ,pS])
  refine WalkL.last (by kernel_rfl) (by kernel_rfl) ?_;refine b! ?_;intro K hK;go_simp;refine hK.out _ _ ?_;clear hK a9 ac;go_end0
  exact⟨rfl,⟨_,by rw[p.out];exact G.out.1⟩,a1.out⟩
 ·have p:=h! (show noteU n i k U=U from by unfold noteU;rw[if_neg hc]);go_enter func209,ntmps209
  by_cases hin:i<n
  ·have J:(i:Int)<(n:Int):=by omega
   by_cases hk0:0<=k
   ·have a6:¬ k<(n:Int):=fun h=>hc ⟨hin,hk0,h⟩;clear hc hin;go_wp2_with fail
    go_end0
    exact⟨rfl,⟨vs,by rw[p.out];exact Q.out⟩,UK.refl _ _ _⟩
   ·clear hc hin;go_wp2_with fail
    go_end0
    exact⟨rfl,⟨vs,by rw[p.out];exact Q.out⟩,UK.refl _ _ _⟩
  ·have J:¬ (i:Int)<(n:Int):=by omega
   clear hc hin;go_wp2_with fail
   go_end0
   exact⟨rfl,⟨vs,by rw[p.out];exact Q.out⟩,UK.refl _ _ _⟩
def J5 {α0 α1 α2 α3 α4:Type}(F:α0->α1->α2->α3->α4->World->Prop)(A:α0->α1->α2->α3->α4->Act)(e:Exit)(a:Act)(W:World):Prop:=e= .normal/\∃(x0:α0)(x1:α1)(x2:α2)(x3:α3)(x4:α4),a=A x0 x1 x2 x3 x4/\F x0 x1 x2 x3 x4 W
theorem WalkN.four {P:Program}{ops:Array Oper}{Q:Exit->Act->World->Prop}{S:World->Prop}{f:Nat}{l:Array Bool}{a:Act}{w:World}(i j m q:Nat)(hr:Region.ready .any ops l=[i,j,m,q])(h:MadeN P ops Q S f l a w i)(h':MadeN P ops Q S f l a w j)(h'':MadeN P ops Q S f l a w m)(h3:MadeN P ops Q S f l a w q):WalkN P ops Q S (f+1) l a w:=by
 refine .inr (.inr ⟨by rw[hr];simp,fun k hk=>?_⟩);rw[hr]at hk;have:k=i\/k=j\/k=m\/k=q:=by simpa using hk
 rcases this with rfl | rfl | rfl | rfl
 ·obtain⟨o,b,c,h⟩:=h;exact⟨o,b,fun K hK=>by rw[if_pos c];exact h K hK⟩
 ·obtain⟨o,b,c,h⟩:=h';exact⟨o,b,fun K hK=>by rw[if_pos c];exact h K hK⟩
 ·obtain⟨o,b,c,h⟩:=h'';exact⟨o,b,fun K hK=>by rw[if_pos c];exact h K hK⟩
 ·obtain⟨o,b,c,h⟩:=h3;exact⟨o,b,fun K hK=>by rw[if_pos c];exact h K hK⟩
theorem jq! (n:Nat)(hn:n<=1000000) {lo:Nat}{wd w:World}(hl:lo<=wd.heap.size)(hE:Ext wd w)(e:TypeId)(z:Value):∃g w',w.heap.size=g/\w.alloc (.cells (madeCells #[z] n) e)=w'/\Ext w w'/\Ext wd w'/\Own w' lo e 1 (.slice (some ⟨g,0,none⟩) n n) (List.replicate n z) :=
 ⟨_,_,rfl,rfl,Ext.alloc _ _,hE.trans (Ext.alloc _ _),by
  have hl:=n6! hl hE.size;obtain⟨m,h1,h2⟩:=Own.made1 w n (by omega) e z;rcases h2 with⟨h2,_⟩|⟨g',cap,cur,hv,hbg,hg,hr⟩
  ·cases h2
  ·exact⟨m,h1,.inr ⟨g',cap,cur,hv,n6! hl hbg,hg,hr⟩⟩⟩
theorem mE! {wd w:World}(hE:Ext wd w)(cs:Array Value)(e:TypeId):∃g w',w.heap.size=g/\w.alloc (.cells cs e)=w'/\Ext w w'/\Ext wd w'/\wd.heap.size<=g/\Blk w' g cs e:=⟨_,_,rfl,rfl,Ext.alloc _ _,hE.trans (Ext.alloc _ _),hE.size,Blk.made _ _ _⟩
theorem St11 {wd w:World}{g:Nat}(h:Ext wd w)(hg:wd.heap.size<=g)(u:Value):Ext wd (w.setCell ⟨g,0,none⟩ u):=Below.setCell h hg u
theorem makeS (n:Nat)(h:n<=1000000):∀W,(Instr.makeSlice 257 (.int .i64 (n:Int)) (.int .i64 (n:Int))).run prog W= .ok (.slice (some ⟨W.heap.size,0,none⟩) n n) (W.alloc (.cells (madeCells #[.slice none 0 0] n) 107)):=by
 intro W;obtain⟨i,hi,a⟩:=Option.map_eq_some_iff.1 (show(prog.info? 107).map (fun i=>(i.zero,i.size,i.bytes))=some (some (.slice none 0 0),1,24)by kernel_rfl);simp only[Prod.mk.injEq]at a;obtain⟨hz,hs,hb⟩:=a;have:=run_make (P:=prog) W 257 107 i (.slice none 0 0) Tryz.underlying257 hi hz .i64 .i64 n n (by omega) (by omega) (by rw[hb];omega) (by omega);rw[this,hs,Nat.mul_one];rfl
structure StE0 (lo n:Nat)(pv fv:Value)(s:P3)(wd w:World)(g3 g5 g7 g9 g10:Nat):Prop where
 ext:Ext wd w
 inn:Own w lo 4 1 (.slice (some ⟨g3,0,none⟩) n n) (List.replicate n (.bool false))
 rnd:Own w lo 3 1 (.slice (some ⟨g5,0,none⟩) n n) (List.replicate n (.int .i64 0))
 use:Own w lo 107 1 (.slice (some ⟨g7,0,none⟩) n n) (List.replicate n (.slice none 0 0))
 box:Blk w g9 #[pv,fv,.string s.t,.string s.i,.string s.r,.slice (some ⟨g3,0,none⟩) n n,.slice (some ⟨g5,0,none⟩) n n,.slice (some ⟨g7,0,none⟩) n n] 259
 ptr:Blk w g10 #[.pointer (some ⟨g9,0,none⟩)] 254
 low:wd.heap.size<=g9
theorem StE {lo n:Nat}{pv fv:Value}{s:P3}{wd w:World}{g3 g5 g7 g9 g10:Nat}(hE:Ext wd w)(hg:wd.heap.size<=g10)(hg9:wd.heap.size<=g9)
  (h3:Own w lo 4 1 (.slice (some ⟨g3,0,none⟩) n n) (List.replicate n (.bool false))) (h5:Own w lo 3 1 (.slice (some ⟨g5,0,none⟩) n n) (List.replicate n (.int .i64 0))) (h7:Own w lo 107 1 (.slice (some ⟨g7,0,none⟩) n n) (List.replicate n (.slice none 0 0)))
  (h9:Blk w g9 #[pv,fv,.string s.t,.string s.i,.string s.r,.slice (some ⟨g3,0,none⟩) n n,.slice (some ⟨g5,0,none⟩) n n,.slice (some ⟨g7,0,none⟩) n n] 259) (h10:Blk w g10 #[.pointer none] 254):StE0 lo n pv fv s wd (w.setCell ⟨g10,0,none⟩ (.pointer (some ⟨g9,0,none⟩))) g3 g5 g7 g9 g10:=by
 have a:∀ {e:TypeId} {v:Value} {xs:List Value},Own w lo e 1 v xs->e≠254->Own (w.setCell ⟨g10,0,none⟩ (.pointer (some ⟨g9,0,none⟩))) lo e 1 v xs:=fun h he=>h.keepOwn fun g hg=>Below.heap_setCell _ _ _ _ fun e2=>by
  obtain⟨a1,c⟩:=h.typed hg;rw[show g=g10 from e2,show w.heap[g10]?=_ from h10]at c;injection c with c
  injection c with _ c _
  exact he c.symm
 refine⟨Below.setCell hE hg _,a h3 (by decide),a h5 (by decide),a h7 (by decide),?_,h10.set_to 0 _ rfl,hg9⟩;refine(Below.heap_setCell _ _ _ _ fun e2=>?_).trans h9;have b:w.heap[g9]?=_:=h9;have a0:w.heap[g10]?=_:=h10;rw[show g9=g10 from e2,a0]at b;injection b with b
 injection b with _ b _
 exact absurd b (by decide)
theorem UK.lessA {lo:Nat}{A A':Nat->Prop}{w w':World}(h:UK lo A' w w')(hA:∀b,A b->A' b):UK lo A w w':=Kept.mono h fun b hb=>⟨hb.1,hb.2.imp id fun h=>h.imp (hA b) id⟩
theorem UK.below {lo:Nat}{A:Nat->Prop}{w w':World}(h:UK lo A w w')(hl:lo<=w.heap.size):Below lo w w':=Kept.below (B:=lo) h fun _b hb=>⟨n1! hb hl,.inl hb⟩
theorem UsAt.fewer {w:World}{lo ub n:Nat}{A A':Nat->Prop}{U:List (List Int)}{vs:List Value}(h:UsAt w lo ub n A U vs)(hA:∀b,A' b->A b):UsAt w lo ub n A' U vs:=⟨h.arr,h.vlen,h.ulen,h.row,h.apart,fun k v g hv hg ha=>h.off k v g hv hg (hA g ha)⟩
theorem UsAt.avoid {w:World}{lo ub n:Nat}{A A':Nat->Prop}{U:List (List Int)}{vs:List Value}(h:UsAt w lo ub n A U vs)(hA:∀b,A' b->A b\/w.heap.size<=b):UsAt w lo ub n A' U vs:=⟨h.arr,h.vlen,h.ulen,h.row,h.apart,fun k v g hv hg ha=>by
 rcases hA g ha with h1 | h1
 ·exact h.off k v g hv hg h1
 ·have:=((h.row k v hv).block g hg).2;omega⟩
theorem UsAt.start {w:World}{lo ub n:Nat}(A:Nat->Prop)(h:Own w lo 107 1 (.slice (some ⟨ub,0,none⟩) n n) (List.replicate n (.slice none 0 0))):UsAt w lo ub n A (List.replicate n []) (List.replicate n (.slice none 0 0)) where
 arr:=h
 vlen:=List.length_replicate
 ulen:=List.length_replicate
 row k v hv:=by
  rw[List.getElem?_replicate]at hv;split at hv
  ·obtain rfl:=v5! hv;rw[show(List.replicate n ([]:List Int)).getD k []=[]from by rw[n8!,List.getElem?_replicate];split <;> rfl];exact Own.nil _ _ _ _
  ·cases hv
 apart j k v u g _ hv _ hg:=by
  rw[List.getElem?_replicate]at hv;split at hv
  ·obtain rfl:=v5! hv;cases hg
  ·cases hv
 off k v g hv hg:=by
  rw[List.getElem?_replicate]at hv;split at hv
  ·obtain rfl:=v5! hv;cases hg
  ·cases hv
theorem ms!:∀(U:List (List Int))(k:Nat)(x:Int),k<U.length->((U.set k (U.getD k []++[x])).map List.length).sum=(U.map List.length).sum+1
 | a::U,0,x,_=>by simp;omega
 | a::U,k+1,x,h=>by
  have ih:=ms! U k x (by simpa using h);simp only[List.set_cons_succ,v8!,List.sum_cons,List.getD_cons_succ]at ih ⊢;omega
theorem jz!:∀(U:List (List Int))(k:Nat),(U.getD k []).length<=(U.map List.length).sum
 | [],k=>by simp
 | a::U,0=>by simp
 | a::U,k+1=>by
  have:=jz! U k;simp only[v8!,List.sum_cons,List.getD_cons_succ];omega
structure UsTo (fs:List FT)(n i:Nat)(ks:List Int)(U:List (List Int)):Prop where
 len:U.length=n
 mem:∀k:Nat,k<n->∀x:Int,x∈U.getD k []↔(∃j:Nat,∃hf:j<fs.length,j<i/\x=(j:Int)/\j<n/\(k:Int)∈fs[j].named)\/(x=(i:Int)/\i<n/\(k:Int)∈ks)
 sum:(U.map List.length).sum<=(nmdL (fs.take i)).length+ks.length
theorem UsTo.start (fs:List FT)(n:Nat):UsTo fs n 0 [] (List.replicate n []):=by
 have h:∀k:Nat,(List.replicate n ([]:List Int)).getD k []=[]:=fun k=>by rw[n8!,List.getElem?_replicate];split <;> rfl
 exact⟨List.length_replicate,fun k hk x=>by rw[h];simp,by rw[List.map_replicate];simp⟩
theorem UsTo.note {fs:List FT}{n i:Nat}{ks:List Int}{U:List (List Int)}(h:UsTo fs n i ks U)(k:Int):UsTo fs n i (ks++[k]) (noteU n i k U):=by
 unfold noteU;split
 ·next hc =>
  obtain⟨h1,h2,a⟩:=hc;refine⟨by rw[List.length_set];exact h.len,fun m hm x=>?_,?_⟩
  ·rw[dO!,h.len];by_cases e:m=k.toNat
   ·have hk:(m:Int)=k:=by omega
    rw[if_pos ⟨e,by omega⟩,u3!,n9!,<-e,h.mem m hm x];simp only[u3!,n9!,hk,or_true,and_true];constructor
    ·rintro((h | h) | h)
     ·exact .inl h
     ·exact .inr ⟨h.1,h.2.1⟩
     ·exact .inr ⟨h,h1⟩
    ·rintro(h | h)
     ·exact .inl (.inl h)
     ·exact .inr h.1
   ·have hk:¬ (m:Int)=k:=by omega
    rw[if_neg fun h=>e h.1,h.mem m hm x];simp only[u3!,n9!,hk,or_false]
  ·rw[ms! _ _ _ (by rw[h.len];omega)];have h4:=h.sum;simp only[u4!,List.length_singleton];omega
 ·next hc =>
  refine⟨h.len,fun m hm x=>?_,?_⟩
  ·rw[h.mem m hm x];constructor
   ·rintro(h | h)
    ·exact .inl h
    ·exact .inr ⟨h.1,h.2.1,List.mem_append_left _ h.2.2⟩
   ·rintro(h | ⟨h1,h2,a⟩)
    ·exact .inl h
    ·rcases u3!.1 a with a | a
     ·exact .inr ⟨h1,h2,a⟩
     ·have:=n9!.1 a;exact absurd ⟨h2,by omega,by omega⟩ hc
  ·have h5:=h.sum;simp only[u4!,List.length_singleton];omega
theorem UsTo.next {fs:List FT}{n i:Nat}{U:List (List Int)}(hi:i<fs.length)(h:UsTo fs n i fs[i].named U):UsTo fs n (i+1) [] U:=by
 refine⟨h.len,fun m hm x=>?_,?_⟩
 ·rw[h.mem m hm x];constructor
  ·rintro(⟨j,hf,h1,h2⟩|⟨h1,h2,h3⟩)
   ·exact .inl ⟨j,hf,by omega,h2⟩
   ·exact .inl ⟨i,hi,by omega,h1,h2,h3⟩
  ·rintro(⟨j,hf,h1,h2,h3,h4⟩|⟨_,_,h⟩)
   ·by_cases e:j=i
    ·subst e;exact .inr ⟨h2,h3,h4⟩
    ·exact .inl ⟨j,hf,by omega,h2,h3,h4⟩
   ·cases h
 ·rw[eK! hi,u4!];have:=h.sum;simp only[v6!];omega
theorem UsTo.done {fs:List FT}{n:Nat}{U:List (List Int)}(h:UsTo fs n fs.length [] U):UsOf fs n U:=fun k hk x=>by
 rw[h.mem k hk x];constructor
 ·rintro(⟨j,hf,_,h1,h2,h3⟩|⟨_,_,h⟩)
  ·exact⟨j,hf,h1,h2,h3⟩
  ·cases h
 ·rintro⟨j,hf,h1,h2,h3⟩;exact .inl ⟨j,hf,hf,h1,h2,h3⟩
structure StAt (w:World)(lo sp gi gr ub n:Nat)(pv fv:Value)(s:P3)(L:List Bool)(R:List Int)(U:List (List Int))(vs:List Value):Prop where
 box:Blk w sp #[pv,fv,.string s.t,.string s.i,.string s.r,.slice (some ⟨gi,0,none⟩) n n,.slice (some ⟨gr,0,none⟩) n n,.slice (some ⟨ub,0,none⟩) n n] 259
 inn:Own w lo 4 1 (.slice (some ⟨gi,0,none⟩) n n) (boC L)
 rnd:Own w lo 3 1 (.slice (some ⟨gr,0,none⟩) n n) (ic R)
 use:UsAt w lo ub n (fun b=>b=gr) U vs
theorem kX! (s:P3)(ps:List P3)(fs:List FT)(pv fv:Value)(w:World)(h:GrAt (· < w.heap.size) w ps fs pv fv)(hnm:ps.length<=1000000)(hfm:fs.length<=1000000)(hnn:(nmdL fs).length<=1000000000000) :
  Calls prog 153 #[.agg #[pv,fv],pV s] w fun e w'=>(∃sp gi gr ub U vs,e= .returned (.pointer (some ⟨sp,0,none⟩))/\w.heap.size<=sp/\StAt w' w.heap.size sp gi gr ub ps.length pv fv s (inN fs s ps.length 0) (outN fs s ps.length 0) U vs/\UsTo fs ps.length fs.length [] U)/\Below w.heap.size w w':=by
 have H0:=h! h;obtain⟨ap,cp,af,cf,e1,e2,-,-,-,-,-⟩:=h.rows;have R:=h! hnm;have aq:=h! hfm;have a5:=h! hnn;have ai:=makeI ps.length (by omega);have an:=makeB ps.length (by omega);have aj:=makeS ps.length (by omega);clear h hnm hfm hnn;generalize hn:ps.length=n at *;unfold pV;obtain⟨wa,C⟩:=e! (w.alloc (.cells #[pv,fv] 96));obtain⟨wb,E⟩:=e! (wa.alloc (.cells #[.string s.t,.string s.i,.string s.r] 33));obtain⟨wc,H⟩:=e! (wb.alloc (.cells #[.int .i64 (n:Int)] 3));have ea:wa.heap.size=w.heap.size+1:=by rw[C];simp
 have eb:wb.heap.size=w.heap.size+1+1:=by rw[E];simp[ea]
 have ec:wc.heap.size=w.heap.size+1+1+1:=by rw[H];simp[eb]
 have xa:Ext w wa:=xa! C
 have xb:Ext wa wb:=xa! E
 have xc:Ext wb wc:=xa! H
 have XC:Hid (Ext w wc):=h! (xa.trans (xb.trans xc));have BG:=h! (show Blk wc w.heap.size #[pv,fv] 96 from Blk.below (bm! C) (xb.trans xc));have BS:=h! (show Blk wc (w.heap.size+1) #[.string s.t,.string s.i,.string s.r] 33 from Blk.below (by rw[E,<-ea];exact Blk.made _ _ _) xc);have BN:=h! (show Blk wc (w.heap.size+1+1) #[.int .i64 (n:Int)] 3 from by rw[H,<-eb];exact Blk.made _ _ _);have EC:=h! ec;have hA:=(show Blk wb w.heap.size #[pv,fv] 96 from Blk.below (bm! C) xb).cells;clear ea eb ec xa xb xc;rw[E,C]at hA;subst e1 e2;go_enter func153,ntmps153
 go_wp2_with fail
 rw[<-C,<-E,<-H];clear hA C E H;obtain⟨lo,z⟩:∃y,Hid (y=w.heap.size):=⟨_,h! rfl⟩;obtain⟨pv,a0⟩:∃y,Hid (y=Value.slice ap n cp):=⟨_,h! rfl⟩;obtain⟨fv,a6⟩:∃y,Hid (y=Value.slice af fs.length cf):=⟨_,h! rfl⟩;obtain⟨wd,N⟩:∃wd,Hid (wd=wc.drew):=⟨_,h! rfl⟩;have B:=h! (show Ext wc wd from xd! N.out);have I:=h! (show lo<=wd.heap.size from by rw[z.out];exact n6! XC.out.size B.out.size);apply Code.wp_mono (Q:=J5 (fun(g3 g5 g7 g9 l:Nat) W=>StE0 lo n pv fv s wd W g3 g5 g7 g9 l) _) ?rest ?reg
 case reg =>
  have hE:Ext wd wd:=Ext.refl wd;refine ca! (Ext wd) (by rw[<-N.out];exact Ext.refl _) (by kernel_rfl) (by kernel_rfl) (fun _ _ d _ _ h=>by cases h.1) ?_;rw[<-N.out];have h1:=fun W (h:Ext wd W)=>(BG.out.below (B.out.trans h)).cells;have h2:=fun W (h:Ext wd W)=>(BS.out.below (B.out.trans h)).cells;have h3:=fun W (h:Ext wd W)=>(BN.out.below (B.out.trans h)).cells;rw[<-a0.out,<-a6.out]at h1;(refine WalkN.tk [0,1,2,4,6] ?_;(iterate 5 (refine c! ?_));refine TkN.n ?_)
  clear h1 h2 h3;have N3:=h! (fun W (hE:Ext wd W)=>jq! n R.out I.out hE 4 (.bool false));have N5:=h! (fun W (hE:Ext wd W)=>jq! n R.out I.out hE 3 (.int .i64 0));have N7:=h! (fun W (hE:Ext wd W)=>jq! n R.out I.out hE 107 (.slice none 0 0));have q:=h! (fun W (hE:Ext wd W)=>mE! hE #[.pointer none] 254);have N9:=h! (fun g3 g5 g7 W (hE:Ext wd W)=>mE! hE #[pv,fv,.string s.t,.string s.i,.string s.r,.slice (some ⟨g3,0,none⟩) n n,.slice (some ⟨g5,0,none⟩) n n,.slice (some ⟨g7,0,none⟩) n n] 259);refine WalkN.four 3 5 7 10 (by kernel_rfl) ?_ ?_ ?_ ?_;refine b! ?_;intro K hK;go_simp;obtain⟨g3,u1,e1,e2,hx,hE,H3⟩:=N3.out _ hE;rw[e2,e1];refine hK.out _ _ hE ?_;clear hK e1 e2;clear hx;refine WalkN.three 5 7 10 (by kernel_rfl) ?_ ?_ ?_;refine b! ?_;intro K hK;go_simp;obtain⟨g5,u2,e1,e2,hx,hE,H5⟩:=N5.out _ hE;rw[e2,e1];refine hK.out _ _ hE ?_;clear hK e1 e2;have H3:=H3.below hx;clear hx;refine p! 7 10 ?_ ?_;refine b! ?_;intro K hK;go_simp;obtain⟨g7,u3,e1,e2,hx,hE,H7⟩:=N7.out _ hE;rw[e2,e1];refine hK.out _ _ hE ?_;clear hK e1 e2;have H3:=H3.below hx;have H5:=H5.below hx;clear hx;refine t! 8 ?_
  refine p! 9 10 ?_ ?_;refine b! ?_;intro K hK;go_simp;obtain⟨g9,u4,e1,e2,hx,hE,j,H9⟩:=N9.out g3 g5 g7 _ hE;rw[e2,e1];refine hK.out _ _ hE ?_;clear hK e1 e2;have H3:=H3.below hx;have H5:=H5.below hx;have H7:=H7.below hx;clear hx;refine ob! 10 ?_;intro K hK;go_simp;obtain⟨l,u5,e1,e2,hx,hE,f,a⟩:=q.out _ hE;rw[e2,e1];refine hK.out _ _ hE ?_;clear hK e1 e2;have H3:=H3.below hx;have H5:=H5.below hx;have H7:=H7.below hx;have H9:=H9.below hx;clear hx;rotate_left
  refine b! ?_;intro K hK;go_simp;obtain⟨l,u4,e1,e2,hx,hE,f,a⟩:=q.out _ hE;rw[e2,e1];refine hK.out _ _ hE ?_;clear hK e1 e2;have H3:=H3.below hx;have H5:=H5.below hx;have H7:=H7.below hx;clear hx;refine ob! 9 ?_;intro K hK;go_simp;obtain⟨g9,u5,e1,e2,hx,hE,j,H9⟩:=N9.out g3 g5 g7 _ hE;rw[e2,e1];refine hK.out _ _ hE ?_;clear hK e1 e2;have H3:=H3.below hx;have H5:=H5.below hx;have H7:=H7.below hx;have a:=a.below hx;clear hx;rotate_left
  refine b! ?_;intro K hK;go_simp;obtain⟨l,u3,e1,e2,hx,hE,f,a⟩:=q.out _ hE;rw[e2,e1];refine hK.out _ _ hE ?_;clear hK e1 e2;have H3:=H3.below hx;have H5:=H5.below hx;clear hx;refine ob! 7 ?_;intro K hK;go_simp;obtain⟨g7,u4,e1,e2,hx,hE,H7⟩:=N7.out _ hE;rw[e2,e1];refine hK.out _ _ hE ?_;clear hK e1 e2;have H3:=H3.below hx;have H5:=H5.below hx;have a:=a.below hx;clear hx;refine t! 8 ?_
  refine ob! 9 ?_;intro K hK;go_simp;obtain⟨g9,u5,e1,e2,hx,hE,j,H9⟩:=N9.out g3 g5 g7 _ hE;rw[e2,e1];refine hK.out _ _ hE ?_;clear hK e1 e2;have H3:=H3.below hx;have H5:=H5.below hx;have H7:=H7.below hx;have a:=a.below hx;clear hx;rotate_left
  refine b! ?_;intro K hK;go_simp;obtain⟨g7,u2,e1,e2,hx,hE,H7⟩:=N7.out _ hE;rw[e2,e1];refine hK.out _ _ hE ?_;clear hK e1 e2;have H3:=H3.below hx;clear hx;refine p! 5 10 ?_ ?_;refine b! ?_;intro K hK;go_simp;obtain⟨g5,u3,e1,e2,hx,hE,H5⟩:=N5.out _ hE;rw[e2,e1];refine hK.out _ _ hE ?_;clear hK e1 e2;have H3:=H3.below hx;have H7:=H7.below hx;clear hx;refine t! 8 ?_
  refine p! 9 10 ?_ ?_;refine b! ?_;intro K hK;go_simp;obtain⟨g9,u4,e1,e2,hx,hE,j,H9⟩:=N9.out g3 g5 g7 _ hE;rw[e2,e1];refine hK.out _ _ hE ?_;clear hK e1 e2;have H3:=H3.below hx;have H5:=H5.below hx;have H7:=H7.below hx;clear hx;refine ob! 10 ?_;intro K hK;go_simp;obtain⟨l,u5,e1,e2,hx,hE,f,a⟩:=q.out _ hE;rw[e2,e1];refine hK.out _ _ hE ?_;clear hK e1 e2;have H3:=H3.below hx;have H5:=H5.below hx;have H7:=H7.below hx;have H9:=H9.below hx;clear hx;rotate_left
  refine b! ?_;intro K hK;go_simp;obtain⟨l,u4,e1,e2,hx,hE,f,a⟩:=q.out _ hE;rw[e2,e1];refine hK.out _ _ hE ?_;clear hK e1 e2;have H3:=H3.below hx;have H5:=H5.below hx;have H7:=H7.below hx;clear hx;refine ob! 9 ?_;intro K hK;go_simp;obtain⟨g9,u5,e1,e2,hx,hE,j,H9⟩:=N9.out g3 g5 g7 _ hE;rw[e2,e1];refine hK.out _ _ hE ?_;clear hK e1 e2;have H3:=H3.below hx;have H5:=H5.below hx;have H7:=H7.below hx;have a:=a.below hx;clear hx;rotate_left
  refine b! ?_;intro K hK;go_simp;obtain⟨l,u3,e1,e2,hx,hE,f,a⟩:=q.out _ hE;rw[e2,e1];refine hK.out _ _ hE ?_;clear hK e1 e2;have H3:=H3.below hx;have H7:=H7.below hx;clear hx;refine ob! 5 ?_;intro K hK;go_simp;obtain⟨g5,u4,e1,e2,hx,hE,H5⟩:=N5.out _ hE;rw[e2,e1];refine hK.out _ _ hE ?_;clear hK e1 e2;have H3:=H3.below hx;have H7:=H7.below hx;have a:=a.below hx;clear hx;refine t! 8 ?_
  refine ob! 9 ?_;intro K hK;go_simp;obtain⟨g9,u5,e1,e2,hx,hE,j,H9⟩:=N9.out g3 g5 g7 _ hE;rw[e2,e1];refine hK.out _ _ hE ?_;clear hK e1 e2;have H3:=H3.below hx;have H5:=H5.below hx;have H7:=H7.below hx;have a:=a.below hx;clear hx;rotate_left
  refine b! ?_;intro K hK;go_simp;obtain⟨l,u2,e1,e2,hx,hE,f,a⟩:=q.out _ hE;rw[e2,e1];refine hK.out _ _ hE ?_;clear hK e1 e2;have H3:=H3.below hx;clear hx;refine p! 5 7 ?_ ?_;refine b! ?_;intro K hK;go_simp;obtain⟨g5,u3,e1,e2,hx,hE,H5⟩:=N5.out _ hE;rw[e2,e1];refine hK.out _ _ hE ?_;clear hK e1 e2;have H3:=H3.below hx;have a:=a.below hx;clear hx;refine ob! 7 ?_;intro K hK;go_simp;obtain⟨g7,u4,e1,e2,hx,hE,H7⟩:=N7.out _ hE;rw[e2,e1];refine hK.out _ _ hE ?_;clear hK e1 e2;have H3:=H3.below hx;have H5:=H5.below hx;have a:=a.below hx;clear hx;refine t! 8 ?_
  refine ob! 9 ?_;intro K hK;go_simp;obtain⟨g9,u5,e1,e2,hx,hE,j,H9⟩:=N9.out g3 g5 g7 _ hE;rw[e2,e1];refine hK.out _ _ hE ?_;clear hK e1 e2;have H3:=H3.below hx;have H5:=H5.below hx;have H7:=H7.below hx;have a:=a.below hx;clear hx;rotate_left
  refine b! ?_;intro K hK;go_simp;obtain⟨g7,u3,e1,e2,hx,hE,H7⟩:=N7.out _ hE;rw[e2,e1];refine hK.out _ _ hE ?_;clear hK e1 e2;have H3:=H3.below hx;have a:=a.below hx;clear hx;refine ob! 5 ?_;intro K hK;go_simp;obtain⟨g5,u4,e1,e2,hx,hE,H5⟩:=N5.out _ hE;rw[e2,e1];refine hK.out _ _ hE ?_;clear hK e1 e2;have H3:=H3.below hx;have H7:=H7.below hx;have a:=a.below hx;clear hx;refine t! 8 ?_
  refine ob! 9 ?_;intro K hK;go_simp;obtain⟨g9,u5,e1,e2,hx,hE,j,H9⟩:=N9.out g3 g5 g7 _ hE;rw[e2,e1];refine hK.out _ _ hE ?_;clear hK e1 e2;have H3:=H3.below hx;have H5:=H5.below hx;have H7:=H7.below hx;have a:=a.below hx;clear hx;rotate_left
  refine b! ?_;intro K hK;go_simp;obtain⟨g5,u1,e1,e2,hx,hE,H5⟩:=N5.out _ hE;rw[e2,e1];refine hK.out _ _ hE ?_;clear hK e1 e2;clear hx;refine WalkN.three 3 7 10 (by kernel_rfl) ?_ ?_ ?_;refine b! ?_;intro K hK;go_simp;obtain⟨g3,u2,e1,e2,hx,hE,H3⟩:=N3.out _ hE;rw[e2,e1];refine hK.out _ _ hE ?_;clear hK e1 e2;have H5:=H5.below hx;clear hx;refine p! 7 10 ?_ ?_;refine b! ?_;intro K hK;go_simp;obtain⟨g7,u3,e1,e2,hx,hE,H7⟩:=N7.out _ hE;rw[e2,e1];refine hK.out _ _ hE ?_;clear hK e1 e2;have H3:=H3.below hx;have H5:=H5.below hx;clear hx;refine t! 8 ?_
  refine p! 9 10 ?_ ?_;refine b! ?_;intro K hK;go_simp;obtain⟨g9,u4,e1,e2,hx,hE,j,H9⟩:=N9.out g3 g5 g7 _ hE;rw[e2,e1];refine hK.out _ _ hE ?_;clear hK e1 e2;have H3:=H3.below hx;have H5:=H5.below hx;have H7:=H7.below hx;clear hx;refine ob! 10 ?_;intro K hK;go_simp;obtain⟨l,u5,e1,e2,hx,hE,f,a⟩:=q.out _ hE;rw[e2,e1];refine hK.out _ _ hE ?_;clear hK e1 e2;have H3:=H3.below hx;have H5:=H5.below hx;have H7:=H7.below hx;have H9:=H9.below hx;clear hx;rotate_left
  refine b! ?_;intro K hK;go_simp;obtain⟨l,u4,e1,e2,hx,hE,f,a⟩:=q.out _ hE;rw[e2,e1];refine hK.out _ _ hE ?_;clear hK e1 e2;have H3:=H3.below hx;have H5:=H5.below hx;have H7:=H7.below hx;clear hx;refine ob! 9 ?_;intro K hK;go_simp;obtain⟨g9,u5,e1,e2,hx,hE,j,H9⟩:=N9.out g3 g5 g7 _ hE;rw[e2,e1];refine hK.out _ _ hE ?_;clear hK e1 e2;have H3:=H3.below hx;have H5:=H5.below hx;have H7:=H7.below hx;have a:=a.below hx;clear hx;rotate_left
  refine b! ?_;intro K hK;go_simp;obtain⟨l,u3,e1,e2,hx,hE,f,a⟩:=q.out _ hE;rw[e2,e1];refine hK.out _ _ hE ?_;clear hK e1 e2;have H3:=H3.below hx;have H5:=H5.below hx;clear hx;refine ob! 7 ?_;intro K hK;go_simp;obtain⟨g7,u4,e1,e2,hx,hE,H7⟩:=N7.out _ hE;rw[e2,e1];refine hK.out _ _ hE ?_;clear hK e1 e2;have H3:=H3.below hx;have H5:=H5.below hx;have a:=a.below hx;clear hx;refine t! 8 ?_
  refine ob! 9 ?_;intro K hK;go_simp;obtain⟨g9,u5,e1,e2,hx,hE,j,H9⟩:=N9.out g3 g5 g7 _ hE;rw[e2,e1];refine hK.out _ _ hE ?_;clear hK e1 e2;have H3:=H3.below hx;have H5:=H5.below hx;have H7:=H7.below hx;have a:=a.below hx;clear hx;rotate_left
  refine b! ?_;intro K hK;go_simp;obtain⟨g7,u2,e1,e2,hx,hE,H7⟩:=N7.out _ hE;rw[e2,e1];refine hK.out _ _ hE ?_;clear hK e1 e2;have H5:=H5.below hx;clear hx;refine p! 3 10 ?_ ?_;refine b! ?_;intro K hK;go_simp;obtain⟨g3,u3,e1,e2,hx,hE,H3⟩:=N3.out _ hE;rw[e2,e1];refine hK.out _ _ hE ?_;clear hK e1 e2;have H5:=H5.below hx;have H7:=H7.below hx;clear hx;refine t! 8 ?_
  refine p! 9 10 ?_ ?_;refine b! ?_;intro K hK;go_simp;obtain⟨g9,u4,e1,e2,hx,hE,j,H9⟩:=N9.out g3 g5 g7 _ hE;rw[e2,e1];refine hK.out _ _ hE ?_;clear hK e1 e2;have H3:=H3.below hx;have H5:=H5.below hx;have H7:=H7.below hx;clear hx;refine ob! 10 ?_;intro K hK;go_simp;obtain⟨l,u5,e1,e2,hx,hE,f,a⟩:=q.out _ hE;rw[e2,e1];refine hK.out _ _ hE ?_;clear hK e1 e2;have H3:=H3.below hx;have H5:=H5.below hx;have H7:=H7.below hx;have H9:=H9.below hx;clear hx;rotate_left
  refine b! ?_;intro K hK;go_simp;obtain⟨l,u4,e1,e2,hx,hE,f,a⟩:=q.out _ hE;rw[e2,e1];refine hK.out _ _ hE ?_;clear hK e1 e2;have H3:=H3.below hx;have H5:=H5.below hx;have H7:=H7.below hx;clear hx;refine ob! 9 ?_;intro K hK;go_simp;obtain⟨g9,u5,e1,e2,hx,hE,j,H9⟩:=N9.out g3 g5 g7 _ hE;rw[e2,e1];refine hK.out _ _ hE ?_;clear hK e1 e2;have H3:=H3.below hx;have H5:=H5.below hx;have H7:=H7.below hx;have a:=a.below hx;clear hx;rotate_left
  refine b! ?_;intro K hK;go_simp;obtain⟨l,u3,e1,e2,hx,hE,f,a⟩:=q.out _ hE;rw[e2,e1];refine hK.out _ _ hE ?_;clear hK e1 e2;have H5:=H5.below hx;have H7:=H7.below hx;clear hx;refine ob! 3 ?_;intro K hK;go_simp;obtain⟨g3,u4,e1,e2,hx,hE,H3⟩:=N3.out _ hE;rw[e2,e1];refine hK.out _ _ hE ?_;clear hK e1 e2;have H5:=H5.below hx;have H7:=H7.below hx;have a:=a.below hx;clear hx;refine t! 8 ?_
  refine ob! 9 ?_;intro K hK;go_simp;obtain⟨g9,u5,e1,e2,hx,hE,j,H9⟩:=N9.out g3 g5 g7 _ hE;rw[e2,e1];refine hK.out _ _ hE ?_;clear hK e1 e2;have H3:=H3.below hx;have H5:=H5.below hx;have H7:=H7.below hx;have a:=a.below hx;clear hx;rotate_left
  refine b! ?_;intro K hK;go_simp;obtain⟨l,u2,e1,e2,hx,hE,f,a⟩:=q.out _ hE;rw[e2,e1];refine hK.out _ _ hE ?_;clear hK e1 e2;have H5:=H5.below hx;clear hx;refine p! 3 7 ?_ ?_;refine b! ?_;intro K hK;go_simp;obtain⟨g3,u3,e1,e2,hx,hE,H3⟩:=N3.out _ hE;rw[e2,e1];refine hK.out _ _ hE ?_;clear hK e1 e2;have H5:=H5.below hx;have a:=a.below hx;clear hx;refine ob! 7 ?_;intro K hK;go_simp;obtain⟨g7,u4,e1,e2,hx,hE,H7⟩:=N7.out _ hE;rw[e2,e1];refine hK.out _ _ hE ?_;clear hK e1 e2;have H3:=H3.below hx;have H5:=H5.below hx;have a:=a.below hx;clear hx;refine t! 8 ?_
  refine ob! 9 ?_;intro K hK;go_simp;obtain⟨g9,u5,e1,e2,hx,hE,j,H9⟩:=N9.out g3 g5 g7 _ hE;rw[e2,e1];refine hK.out _ _ hE ?_;clear hK e1 e2;have H3:=H3.below hx;have H5:=H5.below hx;have H7:=H7.below hx;have a:=a.below hx;clear hx;rotate_left
  refine b! ?_;intro K hK;go_simp;obtain⟨g7,u3,e1,e2,hx,hE,H7⟩:=N7.out _ hE;rw[e2,e1];refine hK.out _ _ hE ?_;clear hK e1 e2;have H5:=H5.below hx;have a:=a.below hx;clear hx;refine ob! 3 ?_;intro K hK;go_simp;obtain⟨g3,u4,e1,e2,hx,hE,H3⟩:=N3.out _ hE;rw[e2,e1];refine hK.out _ _ hE ?_;clear hK e1 e2;have H5:=H5.below hx;have H7:=H7.below hx;have a:=a.below hx;clear hx;refine t! 8 ?_
  refine ob! 9 ?_;intro K hK;go_simp;obtain⟨g9,u5,e1,e2,hx,hE,j,H9⟩:=N9.out g3 g5 g7 _ hE;rw[e2,e1];refine hK.out _ _ hE ?_;clear hK e1 e2;have H3:=H3.below hx;have H5:=H5.below hx;have H7:=H7.below hx;have a:=a.below hx;clear hx;rotate_left
  refine b! ?_;intro K hK;go_simp;obtain⟨g7,u1,e1,e2,hx,hE,H7⟩:=N7.out _ hE;rw[e2,e1];refine hK.out _ _ hE ?_;clear hK e1 e2;clear hx;refine WalkN.three 3 5 10 (by kernel_rfl) ?_ ?_ ?_;refine b! ?_;intro K hK;go_simp;obtain⟨g3,u2,e1,e2,hx,hE,H3⟩:=N3.out _ hE;rw[e2,e1];refine hK.out _ _ hE ?_;clear hK e1 e2;have H7:=H7.below hx;clear hx;refine p! 5 10 ?_ ?_;refine b! ?_;intro K hK;go_simp;obtain⟨g5,u3,e1,e2,hx,hE,H5⟩:=N5.out _ hE;rw[e2,e1];refine hK.out _ _ hE ?_;clear hK e1 e2;have H3:=H3.below hx;have H7:=H7.below hx;clear hx;refine t! 8 ?_
  refine p! 9 10 ?_ ?_;refine b! ?_;intro K hK;go_simp;obtain⟨g9,u4,e1,e2,hx,hE,j,H9⟩:=N9.out g3 g5 g7 _ hE;rw[e2,e1];refine hK.out _ _ hE ?_;clear hK e1 e2;have H3:=H3.below hx;have H5:=H5.below hx;have H7:=H7.below hx;clear hx;refine ob! 10 ?_;intro K hK;go_simp;obtain⟨l,u5,e1,e2,hx,hE,f,a⟩:=q.out _ hE;rw[e2,e1];refine hK.out _ _ hE ?_;clear hK e1 e2;have H3:=H3.below hx;have H5:=H5.below hx;have H7:=H7.below hx;have H9:=H9.below hx;clear hx;rotate_left
  refine b! ?_;intro K hK;go_simp;obtain⟨l,u4,e1,e2,hx,hE,f,a⟩:=q.out _ hE;rw[e2,e1];refine hK.out _ _ hE ?_;clear hK e1 e2;have H3:=H3.below hx;have H5:=H5.below hx;have H7:=H7.below hx;clear hx;refine ob! 9 ?_;intro K hK;go_simp;obtain⟨g9,u5,e1,e2,hx,hE,j,H9⟩:=N9.out g3 g5 g7 _ hE;rw[e2,e1];refine hK.out _ _ hE ?_;clear hK e1 e2;have H3:=H3.below hx;have H5:=H5.below hx;have H7:=H7.below hx;have a:=a.below hx;clear hx;rotate_left
  refine b! ?_;intro K hK;go_simp;obtain⟨l,u3,e1,e2,hx,hE,f,a⟩:=q.out _ hE;rw[e2,e1];refine hK.out _ _ hE ?_;clear hK e1 e2;have H3:=H3.below hx;have H7:=H7.below hx;clear hx;refine ob! 5 ?_;intro K hK;go_simp;obtain⟨g5,u4,e1,e2,hx,hE,H5⟩:=N5.out _ hE;rw[e2,e1];refine hK.out _ _ hE ?_;clear hK e1 e2;have H3:=H3.below hx;have H7:=H7.below hx;have a:=a.below hx;clear hx;refine t! 8 ?_
  refine ob! 9 ?_;intro K hK;go_simp;obtain⟨g9,u5,e1,e2,hx,hE,j,H9⟩:=N9.out g3 g5 g7 _ hE;rw[e2,e1];refine hK.out _ _ hE ?_;clear hK e1 e2;have H3:=H3.below hx;have H5:=H5.below hx;have H7:=H7.below hx;have a:=a.below hx;clear hx;rotate_left
  refine b! ?_;intro K hK;go_simp;obtain⟨g5,u2,e1,e2,hx,hE,H5⟩:=N5.out _ hE;rw[e2,e1];refine hK.out _ _ hE ?_;clear hK e1 e2;have H7:=H7.below hx;clear hx;refine p! 3 10 ?_ ?_;refine b! ?_;intro K hK;go_simp;obtain⟨g3,u3,e1,e2,hx,hE,H3⟩:=N3.out _ hE;rw[e2,e1];refine hK.out _ _ hE ?_;clear hK e1 e2;have H5:=H5.below hx;have H7:=H7.below hx;clear hx;refine t! 8 ?_
  refine p! 9 10 ?_ ?_;refine b! ?_;intro K hK;go_simp;obtain⟨g9,u4,e1,e2,hx,hE,j,H9⟩:=N9.out g3 g5 g7 _ hE;rw[e2,e1];refine hK.out _ _ hE ?_;clear hK e1 e2;have H3:=H3.below hx;have H5:=H5.below hx;have H7:=H7.below hx;clear hx;refine ob! 10 ?_;intro K hK;go_simp;obtain⟨l,u5,e1,e2,hx,hE,f,a⟩:=q.out _ hE;rw[e2,e1];refine hK.out _ _ hE ?_;clear hK e1 e2;have H3:=H3.below hx;have H5:=H5.below hx;have H7:=H7.below hx;have H9:=H9.below hx;clear hx;rotate_left
  refine b! ?_;intro K hK;go_simp;obtain⟨l,u4,e1,e2,hx,hE,f,a⟩:=q.out _ hE;rw[e2,e1];refine hK.out _ _ hE ?_;clear hK e1 e2;have H3:=H3.below hx;have H5:=H5.below hx;have H7:=H7.below hx;clear hx;refine ob! 9 ?_;intro K hK;go_simp;obtain⟨g9,u5,e1,e2,hx,hE,j,H9⟩:=N9.out g3 g5 g7 _ hE;rw[e2,e1];refine hK.out _ _ hE ?_;clear hK e1 e2;have H3:=H3.below hx;have H5:=H5.below hx;have H7:=H7.below hx;have a:=a.below hx;clear hx;rotate_left
  refine b! ?_;intro K hK;go_simp;obtain⟨l,u3,e1,e2,hx,hE,f,a⟩:=q.out _ hE;rw[e2,e1];refine hK.out _ _ hE ?_;clear hK e1 e2;have H5:=H5.below hx;have H7:=H7.below hx;clear hx;refine ob! 3 ?_;intro K hK;go_simp;obtain⟨g3,u4,e1,e2,hx,hE,H3⟩:=N3.out _ hE;rw[e2,e1];refine hK.out _ _ hE ?_;clear hK e1 e2;have H5:=H5.below hx;have H7:=H7.below hx;have a:=a.below hx;clear hx;refine t! 8 ?_
  refine ob! 9 ?_;intro K hK;go_simp;obtain⟨g9,u5,e1,e2,hx,hE,j,H9⟩:=N9.out g3 g5 g7 _ hE;rw[e2,e1];refine hK.out _ _ hE ?_;clear hK e1 e2;have H3:=H3.below hx;have H5:=H5.below hx;have H7:=H7.below hx;have a:=a.below hx;clear hx;rotate_left
  refine b! ?_;intro K hK;go_simp;obtain⟨l,u2,e1,e2,hx,hE,f,a⟩:=q.out _ hE;rw[e2,e1];refine hK.out _ _ hE ?_;clear hK e1 e2;have H7:=H7.below hx;clear hx;refine p! 3 5 ?_ ?_;refine b! ?_;intro K hK;go_simp;obtain⟨g3,u3,e1,e2,hx,hE,H3⟩:=N3.out _ hE;rw[e2,e1];refine hK.out _ _ hE ?_;clear hK e1 e2;have H7:=H7.below hx;have a:=a.below hx;clear hx;refine ob! 5 ?_;intro K hK;go_simp;obtain⟨g5,u4,e1,e2,hx,hE,H5⟩:=N5.out _ hE;rw[e2,e1];refine hK.out _ _ hE ?_;clear hK e1 e2;have H3:=H3.below hx;have H7:=H7.below hx;have a:=a.below hx;clear hx;refine t! 8 ?_
  refine ob! 9 ?_;intro K hK;go_simp;obtain⟨g9,u5,e1,e2,hx,hE,j,H9⟩:=N9.out g3 g5 g7 _ hE;rw[e2,e1];refine hK.out _ _ hE ?_;clear hK e1 e2;have H3:=H3.below hx;have H5:=H5.below hx;have H7:=H7.below hx;have a:=a.below hx;clear hx;rotate_left
  refine b! ?_;intro K hK;go_simp;obtain⟨g5,u3,e1,e2,hx,hE,H5⟩:=N5.out _ hE;rw[e2,e1];refine hK.out _ _ hE ?_;clear hK e1 e2;have H7:=H7.below hx;have a:=a.below hx;clear hx;refine ob! 3 ?_;intro K hK;go_simp;obtain⟨g3,u4,e1,e2,hx,hE,H3⟩:=N3.out _ hE;rw[e2,e1];refine hK.out _ _ hE ?_;clear hK e1 e2;have H5:=H5.below hx;have H7:=H7.below hx;have a:=a.below hx;clear hx;refine t! 8 ?_
  refine ob! 9 ?_;intro K hK;go_simp;obtain⟨g9,u5,e1,e2,hx,hE,j,H9⟩:=N9.out g3 g5 g7 _ hE;rw[e2,e1];refine hK.out _ _ hE ?_;clear hK e1 e2;have H3:=H3.below hx;have H5:=H5.below hx;have H7:=H7.below hx;have a:=a.below hx;clear hx;rotate_left
  refine b! ?_;intro K hK;go_simp;obtain⟨l,u1,e1,e2,hx,hE,f,a⟩:=q.out _ hE;rw[e2,e1];refine hK.out _ _ hE ?_;clear hK e1 e2;clear hx;refine WalkN.three 3 5 7 (by kernel_rfl) ?_ ?_ ?_;refine b! ?_;intro K hK;go_simp;obtain⟨g3,u2,e1,e2,hx,hE,H3⟩:=N3.out _ hE;rw[e2,e1];refine hK.out _ _ hE ?_;clear hK e1 e2;have a:=a.below hx;clear hx;refine p! 5 7 ?_ ?_;refine b! ?_;intro K hK;go_simp;obtain⟨g5,u3,e1,e2,hx,hE,H5⟩:=N5.out _ hE;rw[e2,e1];refine hK.out _ _ hE ?_;clear hK e1 e2;have H3:=H3.below hx;have a:=a.below hx;clear hx;refine ob! 7 ?_;intro K hK;go_simp;obtain⟨g7,u4,e1,e2,hx,hE,H7⟩:=N7.out _ hE;rw[e2,e1];refine hK.out _ _ hE ?_;clear hK e1 e2;have H3:=H3.below hx;have H5:=H5.below hx;have a:=a.below hx;clear hx;refine t! 8 ?_
  refine ob! 9 ?_;intro K hK;go_simp;obtain⟨g9,u5,e1,e2,hx,hE,j,H9⟩:=N9.out g3 g5 g7 _ hE;rw[e2,e1];refine hK.out _ _ hE ?_;clear hK e1 e2;have H3:=H3.below hx;have H5:=H5.below hx;have H7:=H7.below hx;have a:=a.below hx;clear hx;rotate_left
  refine b! ?_;intro K hK;go_simp;obtain⟨g7,u3,e1,e2,hx,hE,H7⟩:=N7.out _ hE;rw[e2,e1];refine hK.out _ _ hE ?_;clear hK e1 e2;have H3:=H3.below hx;have a:=a.below hx;clear hx;refine ob! 5 ?_;intro K hK;go_simp;obtain⟨g5,u4,e1,e2,hx,hE,H5⟩:=N5.out _ hE;rw[e2,e1];refine hK.out _ _ hE ?_;clear hK e1 e2;have H3:=H3.below hx;have H7:=H7.below hx;have a:=a.below hx;clear hx;refine t! 8 ?_
  refine ob! 9 ?_;intro K hK;go_simp;obtain⟨g9,u5,e1,e2,hx,hE,j,H9⟩:=N9.out g3 g5 g7 _ hE;rw[e2,e1];refine hK.out _ _ hE ?_;clear hK e1 e2;have H3:=H3.below hx;have H5:=H5.below hx;have H7:=H7.below hx;have a:=a.below hx;clear hx;rotate_left
  refine b! ?_;intro K hK;go_simp;obtain⟨g5,u2,e1,e2,hx,hE,H5⟩:=N5.out _ hE;rw[e2,e1];refine hK.out _ _ hE ?_;clear hK e1 e2;have a:=a.below hx;clear hx;refine p! 3 7 ?_ ?_;refine b! ?_;intro K hK;go_simp;obtain⟨g3,u3,e1,e2,hx,hE,H3⟩:=N3.out _ hE;rw[e2,e1];refine hK.out _ _ hE ?_;clear hK e1 e2;have H5:=H5.below hx;have a:=a.below hx;clear hx;refine ob! 7 ?_;intro K hK;go_simp;obtain⟨g7,u4,e1,e2,hx,hE,H7⟩:=N7.out _ hE;rw[e2,e1];refine hK.out _ _ hE ?_;clear hK e1 e2;have H3:=H3.below hx;have H5:=H5.below hx;have a:=a.below hx;clear hx;refine t! 8 ?_
  refine ob! 9 ?_;intro K hK;go_simp;obtain⟨g9,u5,e1,e2,hx,hE,j,H9⟩:=N9.out g3 g5 g7 _ hE;rw[e2,e1];refine hK.out _ _ hE ?_;clear hK e1 e2;have H3:=H3.below hx;have H5:=H5.below hx;have H7:=H7.below hx;have a:=a.below hx;clear hx;rotate_left
  refine b! ?_;intro K hK;go_simp;obtain⟨g7,u3,e1,e2,hx,hE,H7⟩:=N7.out _ hE;rw[e2,e1];refine hK.out _ _ hE ?_;clear hK e1 e2;have H5:=H5.below hx;have a:=a.below hx;clear hx;refine ob! 3 ?_;intro K hK;go_simp;obtain⟨g3,u4,e1,e2,hx,hE,H3⟩:=N3.out _ hE;rw[e2,e1];refine hK.out _ _ hE ?_;clear hK e1 e2;have H5:=H5.below hx;have H7:=H7.below hx;have a:=a.below hx;clear hx;refine t! 8 ?_
  refine ob! 9 ?_;intro K hK;go_simp;obtain⟨g9,u5,e1,e2,hx,hE,j,H9⟩:=N9.out g3 g5 g7 _ hE;rw[e2,e1];refine hK.out _ _ hE ?_;clear hK e1 e2;have H3:=H3.below hx;have H5:=H5.below hx;have H7:=H7.below hx;have a:=a.below hx;clear hx;rotate_left
  refine b! ?_;intro K hK;go_simp;obtain⟨g7,u2,e1,e2,hx,hE,H7⟩:=N7.out _ hE;rw[e2,e1];refine hK.out _ _ hE ?_;clear hK e1 e2;have a:=a.below hx;clear hx;refine p! 3 5 ?_ ?_;refine b! ?_;intro K hK;go_simp;obtain⟨g3,u3,e1,e2,hx,hE,H3⟩:=N3.out _ hE;rw[e2,e1];refine hK.out _ _ hE ?_;clear hK e1 e2;have H7:=H7.below hx;have a:=a.below hx;clear hx;refine ob! 5 ?_;intro K hK;go_simp;obtain⟨g5,u4,e1,e2,hx,hE,H5⟩:=N5.out _ hE;rw[e2,e1];refine hK.out _ _ hE ?_;clear hK e1 e2;have H3:=H3.below hx;have H7:=H7.below hx;have a:=a.below hx;clear hx;refine t! 8 ?_
  refine ob! 9 ?_;intro K hK;go_simp;obtain⟨g9,u5,e1,e2,hx,hE,j,H9⟩:=N9.out g3 g5 g7 _ hE;rw[e2,e1];refine hK.out _ _ hE ?_;clear hK e1 e2;have H3:=H3.below hx;have H5:=H5.below hx;have H7:=H7.below hx;have a:=a.below hx;clear hx;rotate_left
  refine b! ?_;intro K hK;go_simp;obtain⟨g5,u3,e1,e2,hx,hE,H5⟩:=N5.out _ hE;rw[e2,e1];refine hK.out _ _ hE ?_;clear hK e1 e2;have H7:=H7.below hx;have a:=a.below hx;clear hx;refine ob! 3 ?_;intro K hK;go_simp;obtain⟨g3,u4,e1,e2,hx,hE,H3⟩:=N3.out _ hE;rw[e2,e1];refine hK.out _ _ hE ?_;clear hK e1 e2;have H5:=H5.below hx;have H7:=H7.below hx;have a:=a.below hx;clear hx;refine t! 8 ?_
  refine ob! 9 ?_;intro K hK;go_simp;obtain⟨g9,u5,e1,e2,hx,hE,j,H9⟩:=N9.out g3 g5 g7 _ hE;rw[e2,e1];refine hK.out _ _ hE ?_;clear hK e1 e2;have H3:=H3.below hx;have H5:=H5.below hx;have H7:=H7.below hx;have a:=a.below hx;clear hx;rotate_left
  all_goals
   refine o! 11 ?_;have T:=a.cells;have X:=a.free;refine b! ?_;intro K hK;go_simp;refine hK.out _ _ (St11 hE f _) ?_;clear hK T X;refine d! ?_;exact⟨rfl,g3,g5,g7,g9,l,rfl,StE hE f j H3 H5 H7 H9 a⟩
 rintro e _ W1 ⟨rfl,g3,g5,g7,g9,l,rfl,J⟩;dsimp only;have ST:=h! J;have X1:Hid (Ext wc W1):=h! (B.out.trans J.ext);have GB:=h! (BG.out.below X1.out);have NB:=h! (BN.out.below X1.out);have XW:Hid (Ext w W1):=h! (XC.out.trans X1.out);have hA:=GB.out.cells;have j:=h! (show w.heap.size<=g9 from by have:=J.low;have:=XC.out.size;have:=B.out.size;omega);have av:=h! (show w.heap.size+1+1<W1.heap.size from by have:=X1.out.size;have:=EC.out;omega);clear ai an aj J N B I XC BG BS BN;go_wp2_with fail
 clear hA;obtain⟨A,D⟩:∃A:Nat->Prop,Hid (A=fun b=>b=w.heap.size+1+1\/b=g5):=⟨_,h! rfl⟩
 have ab:=h! (show ∀b,A b->b<W1.heap.size from fun b hb=>by
  rw[D.out]at hb;rcases hb with rfl | rfl
  ·exact av.out
  ·exact(ST.out.rnd.block _ rfl).2)
 have ao:=h! (show ¬ A g7 from fun hb=>by
  rw[D.out]at hb;obtain⟨c1,h1⟩:=ST.out.use.typed (g:=g7) rfl;rcases hb with rfl | rfl
  ·rw[show W1.heap[_]?=_ from NB.out]at h1;injection h1 with h1
   injection h1 with _ h1 _
   exact absurd h1 (by decide)
  ·exact ST.out.rnd.apart ST.out.use (by decide) (g:=g7) rfl rfl)
 have RR:=h! (fun W (hW:UK lo A W1 W)=>show GrAt (· < lo) W ps fs (.slice ap n cp) (.slice af fs.length cf)from by
  have h1:=H0.out.same (w':=W1) (fun b hb=>XW.out.block b hb);rw[<-z.out]at h1;exact h1.same (hW.low (by rw[z.out];exact XW.out.size)))
 have RL:=h! (fun W (hW:UK lo A W1 W)=>show lo<=W.heap.size from by rw[z.out];exact n6! XW.out.size hW.size);have RN:=h! (fun W (hW:UK lo A W1 W)=>hW.blkA NB.out (by rw[D.out];exact .inl rfl));have RP:=h! (fun W (hW:UK lo A W1 W)=>hW.blk ST.out.ptr (by decide) (by decide));have RS:=h! (fun W (hW:UK lo A W1 W)=>hW.blk ST.out.box (by decide) (by decide));have RA:=h! (fun W (hW:UK lo A W1 W) b (hb:A b)=>n1! (ab.out b hb) hW.size);have a2:=h! (UsAt.start A ST.out.use);go_loopw [25] (fun iv wr=>∃(i:Nat) (U:List (List Int)) (vs:List Value),i<=fs.length/\iv= .int .i64 i/\UsAt wr lo g7 n A U vs/\UsTo fs n i [] U/\UK lo A W1 wr) (fun iv _=>fs.length-(intOf iv).toNat)
 case atStart=>exact⟨0,_,_,v1! _,rfl,a2.out,UsTo.start fs n,UK.refl _ _ _⟩
 case round =>
  obtain⟨i,U,vs,hi,rfl,hu,ht,hk⟩:=hrel;have US:=h! hu;have UT:=h! ht;have RK:=h! hk;clear hu ht hk a2;by_cases hlt:i<fs.length
  ·have Y:=h! hlt;have ac:=h! (fun U'=>UsTo.next (n:=n) (U:=U') hlt)
   have Z:=h! (show(nmdL (fs.take i)).length+fs[i].named.length<=(nmdL fs).length from by
    have h1:nmdL fs=nmdL (fs.take (i+1))++nmdL (fs.drop (i+1)):=by rw[<-bs!,x6!]
    rw[h1,eK! hlt];simp only[u4!];omega)
   have a9:=h! (show wrap64 ((i:Int)+1)=((i+1:Nat):Int)from by have:=aq.out;unfold wrap64;omega);obtain⟨aA,aw,ax,az,e1,e2,-,-,-,-,F⟩:=(RR.out wr RK.out).rows;cases e2;obtain⟨p1,q1,u,rfl,ag,k0,k1,k2,k3,hu⟩:=F i hlt;have ay:(i:Int)<(fs.length:Int):=by omega
   generalize fs[i]=x at *;obtain⟨l1,m1,l2,m2,l4,m4,rfl⟩:=hu.shape;have HF:=h! hu;dsimp only at k0 k1 k2 k3;clear hu ag F e1 hlt;obtain⟨wq,M⟩:∃y,Hid (y=(wr.alloc (.cells #[.int .i64 (i:Int)] 3)).alloc (.cells #[.int .i64 x.k,.slice l1 x.subs.length m1,.slice l2 x.refs.length m2,.slice l4 x.ps.length m4] 128)):=⟨_,h! rfl⟩;have XQ:=h! (show Ext wr wq from by rw[M.out];exact(Ext.alloc _ _).trans (Ext.alloc _ _));have BI:=h! (show Blk wq wr.heap.size #[.int .i64 (i:Int)] 3 from by rw[M.out];exact(Blk.made _ _ _).below (Ext.alloc _ _));obtain⟨A',v⟩:∃A':Nat->Prop,Hid (A'=fun b=>A b\/b=wr.heap.size):=⟨_,h! rfl⟩;have a3:=h! (show ∀b,A b->A' b from fun b hb=>by rw[v.out];exact .inl hb);have G:=h! (fun W (hW:UK lo A' wq W)=>show UK lo A W1 W from UK.next RK.out (UK.next (UK.of XQ.out) (hW.lessA a3.out)))
   have ak:=h! (show ¬ A' g7 from by
    rw[v.out];rintro(h1 | h1)
    ·exact ao.out h1
    ·have:=(US.out.arr.block g7 rfl).2;omega)
   have a7:=h! (show UsAt wq lo g7 n A' U vs from(US.out.avoid (A':=A') fun b hb=>by rw[v.out]at hb;rcases hb with hb | hb;exact .inl hb;exact .inr (v4! hb.symm)).ext XQ.out)
   have L:=h! (lq! 209 #[.pointer (some ⟨wr.heap.size,0,none⟩),.pointer (some ⟨w.heap.size+1+1,0,none⟩),.pointer (some ⟨l,0,none⟩)] (enters_of func209 (by kernel_rfl) rfl) lo 1000000000000 A'
    (fun ks W=>UK lo A' wq W/\∃U vs,UsAt W lo g7 n A' U vs/\UsTo fs n i ks U) (fun ks W W' h hx=>⟨UK.next h.1 (UK.of hx),by obtain⟨_,U,vs,h1,h2⟩:=h;exact⟨U,vs,h1.ext hx,h2⟩⟩)
    (fun ks k W h hlW hkl=>by
     obtain⟨hk,U2,aa,au,a8⟩:=h
     refine(ny! lo g7 n i wr.heap.size (w.heap.size+1+1) l g9 A' k U2 aa _ _ _ _ _ _ _ W (hk.blkA BI.out (by rw[v.out];exact .inr rfl)) (RN.out W (G.out W hk)) (RP.out W (G.out W hk)) (RS.out W (G.out W hk)) au ⟨by rw[v.out];exact .inr rfl,by rw[v.out,D.out];exact .inl (.inl rfl)⟩ (fun b hb=>by
      rw[v.out]at hb;rcases hb with hb | hb
      ·exact RA.out W (G.out W hk) b hb
      ·have h1:=BI.out.lt;have h2:=hk.size;omega) ak.out hlW (fun m=>by have:=jz! U2 m;have:=a8.sum;have:=Z.out;have:=a5.out;omega)).mono ?_
     rintro e W' ⟨rfl,⟨vs',hu'⟩,hk'⟩;exact⟨rfl,⟨UK.next hk hk',_,vs',hu',a8.note k⟩,hk'⟩)
    x (.slice l1 x.subs.length m1,.slice l2 x.refs.length m2,.slice l4 x.ps.length m4) [] wq (HF.out.lowUp (UK.of (A:=A) XQ.out) (RL.out wr RK.out)) (n6! (RL.out wr RK.out) XQ.out.size) ⟨UK.refl _ _ _,U,vs,a7.out,UT.out⟩ (by have:=Z.out;have:=a5.out;simp only[v6!];omega))
   unfold fV at L;dsimp only at L;go_wp2_with fail
   rw[<-M.out];clear M;refine L.out.mono ?_;rintro e w5 ⟨rfl,⟨a1,U5,am,a4,O⟩,-⟩;rw[y2!]at O;have ad:=h! (ac.out U5 O);have ah:=h! (a4.fewer a3.out);have ae:=h! (G.out w5 a1);clear a4 O a1 L a7 k0 k1 k2 k3;go_wp2_with fail
   go_roundw
   case rel=>exact⟨i+1,U5,am,Y.out,by first | rw[a9.out] | go_num,ah.out,ad.out,ae.out⟩
   case measure=>have:=Y.out;(try rw[a9.out]);simp[intOf];omega
  ·obtain rfl:i=fs.length:=by omega
   have hp:=(RP.out wr RK.out).cells
   have ar:=h! (show StAt wr lo g9 g3 g5 g7 n pv fv s (inN fs s n 0) (outN fs s n 0) U vs from {
    box:=RS.out wr RK.out
    inn:=by
     rw[show boC (inN fs s n 0)=List.replicate n (.bool false)from by simp[boC,inN]]
     exact ST.out.inn.keepOwn fun g hg=>by
      obtain⟨V,h1⟩:=ST.out.inn.typed hg;exact(RK.out.blk (show Blk W1 g V 4 from h1) (by decide) (by decide)).trans h1.symm
    rnd:=by
     rw[show ic (outN fs s n 0)=List.replicate n (.int .i64 0)from by simp[ic,outN]]
     exact ST.out.rnd.keepOwn fun g hg=>by
      obtain⟨V,h1⟩:=ST.out.rnd.typed hg;exact(RK.out.blkA (show Blk W1 g V 3 from h1) (by rw[D.out];exact .inr (v5! hg).symm)).trans h1.symm
    use:=US.out.fewer fun b hb=>by rw[D.out];exact .inr hb})
   have al:=h! (show Below w.heap.size w wr from Below.trans XW.out (by
    have:=RK.out.below (by rw[z.out];exact XW.out.size);rwa[z.out]at this))
   go_wp2_with fail
   go_ret
   exact⟨⟨g9,g3,g5,g7,U,vs,rfl,j.out,by rw[<-z.out,<-a0.out,<-a6.out];exact ar.out,UT.out⟩,al.out⟩
end Go.Proofs.YtlhaghoajpglaaaGreat
