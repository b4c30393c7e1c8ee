/- Lemmas for the claim, no condition. -/
import Derived.Test.YtlhaghoajpglaaaGreatYPrMore14
import Derived.Deep.RegionHeld
set_option maxRecDepth 100000
set_option maxHeartbeats 8000000
namespace Go.Proofs.YtlhaghoajpglaaaGreat
open Go Go.RowKit Go.Maps Go.Proofs.Tryz
theorem eo! {S:Nat->Prop}{w:World}{v:Value}{l:List Bool}(h:Sl S w 1 v (boC l)):∃ao c,v= .slice ao l.length c/\l.length<=c/\c<=9223372036854775807/\∀i (hi:i<l.length),∃b off,ao=some ⟨b,off,none⟩/\S b/\w.cell? ⟨b,off+i,none⟩=some (.bool l[i]):=by
 obtain⟨ao,n,c,rfl,h1,h2,h3,h4,h5⟩:=h;rw[ch!,Nat.mul_one]at h1;subst h1;refine⟨ao,c,rfl,h2,by have e:maxLen=9223372036854775807:=rfl;omega,fun i hi=>?_⟩;obtain⟨b,off,rfl,hb,hc⟩:=h5 (fun e=>by have:=congrArg List.length e;rw[ch!]at this;simp only[v6!]at this;omega);exact⟨b,off,rfl,hb,hc i _ (by simp[boC,hi])⟩
theorem ns! (bs:List Bool)(iv:Value)(b:Nat)(x:Int)(w:World)(hb:Blk w b #[iv] 74)(hi:Sl (· < w.heap.size) w 1 iv (boC bs)) :
  Calls prog 255 (#[.int .i64 x]++#[.pointer (some ⟨b,0,none⟩)]) w fun e w'=>e= .returned (.bool (inAt bs x))/\Below w.heap.size w w':=by
 obtain⟨ai,ci,rfl,a,c,d⟩:=eo! hi;have hB:=hb.cells;clear hi;rw[show(#[.int .i64 x]++#[.pointer (some ⟨b,0,none⟩)]:Array Value)=#[.int .i64 x,.pointer (some ⟨b,0,none⟩)]from rfl];go_enter func255,ntmps255
 by_cases h0:0<=x
 ·obtain⟨m,rfl⟩:=Int.eq_ofNat_of_zero_le h0;by_cases hm:m<bs.length
  ·obtain⟨bb,bo,rfl,-,a1⟩:=d m hm
   have f:=h! (show inAt bs (m:Int)=bs[m]from by
    unfold inAt;rw[Int.toNat_natCast,n8!,n4! hm];simp)
   have a0:(m:Int)<(bs.length:Int):=by omega
   generalize bs[m]=y at *;clear hm d a c;go_wp2_with fail
   go_ret
   exact⟨by rw[f.out];try rfl,Below.refl _ _⟩
  ·have a0:¬ (m:Int)<(bs.length:Int):=by omega
   have f:=h! (show inAt bs (m:Int)=false from by
    unfold inAt;rw[Int.toNat_natCast,n8!,y0! (by omega)];simp)
   clear hm d a c;go_wp2_with fail
   go_ret
   exact⟨by rw[f.out];try rfl,Below.refl _ _⟩
 ·have f:=h! (show inAt bs x=false from by unfold inAt;simp[h0]);clear d a c;go_wp2_with fail
  go_ret
  exact⟨by rw[f.out];try rfl,Below.refl _ _⟩
theorem hI! (bs:List Bool)(r:FT)(iv:Value)(v:FV3)(b c:Nat)(w:World)(hf:Blk w b #[.int .i64 r.k,v.1,v.2.1,v.2.2] 128)(hb:Blk w c #[iv] 74)(hat:FTAt (· < w.heap.size) w r v)(hi:Sl (· < w.heap.size) w 1 iv (boC bs)) :
  Calls prog 253 #[.pointer (some ⟨b,0,none⟩),.pointer (some ⟨c,0,none⟩)] w fun e w'=>e= .returned (.bool (r.refs.any (inAt bs)))/\Below w.heap.size w w':=by
 have HC:=h! (ek! w r.refs v.2.1 255 #[.pointer (some ⟨c,0,none⟩)] (enters_of func255 (by kernel_rfl) rfl) (inAt bs) ((FTAt.iff _ _).1 hat).2.1 fun i hi' W hW=>ns! bs iv c _ W (hb.below hW) ((hi.same (Same.below hW)).mono fun _ h=>n1! h hW.size));obtain⟨a1,c1,a2,c2,a4,c4,rfl⟩:=hat.shape;have a0:∀(fn:Fn) (first cap:Array Value) (W:World),(Instr.makeFunc fn first cap).run prog W= .ok (.func fn first cap) W:=fun _ _ _ _=>rfl;have hA:=hf.cells;dsimp only at hA HC;clear hat hi hf hb;go_enter func253,ntmps253
 go_wp2_with fail
 refine HC.out.mono ?_;rintro e w2 ⟨rfl,hb⟩;have HB:=h! hb;clear hA HC hb;go_wp2_with fail
 go_ret
 exact⟨rfl,HB.out⟩
theorem id! (s:P3)(bs:List Bool)(p:FT)(iv:Value)(v:FV3)(b c:Nat)(w:World)(hs:Blk w b #[.string s.t,.string s.i,.string s.r] 33)(hb:Blk w c #[iv] 74)(hat:FTAt (· < w.heap.size) w p v)(hi:Sl (· < w.heap.size) w 1 iv (boC bs))
  (ih:∀W,Below w.heap.size w W->Calls prog 212 #[fV p v,pV s,iv] W fun e w'=>e= .returned (.bool (holdF s bs p))/\Below W.heap.size W w') :
  Calls prog 256 #[fV p v,.pointer (some ⟨b,0,none⟩),.pointer (some ⟨c,0,none⟩)] w fun e w'=>e= .returned (.bool (holdF s bs p))/\Below w.heap.size w w':=by
 obtain⟨a1,c1,a2,c2,a4,c4,rfl⟩:=hat.shape;obtain⟨ai,ci,rfl,-⟩:=eo! hi;unfold fV pV at ih;unfold fV;dsimp only at ih ⊢;have a:=h! (Ext.alloc w (.cells #[.int .i64 p.k,.slice a1 p.subs.length c1,.slice a2 p.refs.length c2,.slice a4 p.ps.length c4] 128));have HC:=h! (ih _ a.out);have a0:=(Blk.made w #[.int .i64 p.k,.slice a1 p.subs.length c1,.slice a2 p.refs.length c2,.slice a4 p.ps.length c4] 128).cells;have hS:=(hs.below a.out).cells;have hB:=(hb.below a.out).cells;clear hat hi hs hb ih;go_enter func256,ntmps256
 go_wp2_with fail
 refine HC.out.mono ?_;rintro e w2 ⟨rfl,hb⟩;have HB:Hid (Below w.heap.size w w2):=h! (Ext.trans a.out hb);clear a0 hS hB HC hb;go_wp2_with fail
 go_ret
 exact⟨rfl,HB.out⟩
abbrev hvF (b c:Nat):Value := .func (.func 256) #[] #[.pointer (some ⟨b,0,none⟩),.pointer (some ⟨c,0,none⟩)]
theorem ij! (s:P3)(bs:List Bool)(p:FT)(iv:Value)(v:FV3)(b c d:Nat)(w:World)(hs:Blk w b #[.string s.t,.string s.i,.string s.r] 33)(hb:Blk w c #[iv] 74)(hd:Blk w d #[hvF b c] 330)(hat:FTAt (· < w.heap.size) w p v)(hi:Sl (· < w.heap.size) w 1 iv (boC bs))
  (ih:∀W,Below w.heap.size w W->Calls prog 212 #[fV p v,pV s,iv] W fun e w'=>e= .returned (.bool (holdF s bs p))/\Below W.heap.size W w') :
  Calls prog 258 #[fV p v,.pointer (some ⟨d,0,none⟩)] w fun e w'=>e= .returned (.bool (!holdF s bs p))/\Below w.heap.size w w':=by
 have f:=h! (Ext.alloc w (.cells #[.int .i64 p.k,v.1,v.2.1,v.2.2] 128));have a:=h! (id! s bs p iv v b c _ (hs.below f.out) (hb.below f.out) (hat.up f.out) ((hi.same (Same.below f.out)).mono fun _ h=>n1! h f.out.size) fun W hW=>ih W (Ext.trans f.out hW));obtain⟨a1,c1,a2,c2,a4,c4,rfl⟩:=hat.shape;have a0:=(Blk.made w #[.int .i64 p.k,.slice a1 p.subs.length c1,.slice a2 p.refs.length c2,.slice a4 p.ps.length c4] 128).cells;have hD:=(hd.below f.out).cells;have eg:=enters_of func256 (by kernel_rfl) rfl;unfold fV at a ⊢;dsimp only at a hD ⊢;clear hat hi hs hb hd ih;go_enter func258,ntmps258
 go_wp2_with fail
 refine a.out.mono ?_;rintro e w2 ⟨rfl,hb⟩;have HB:Hid (Below w.heap.size w w2):=h! (Ext.trans f.out hb);clear a0 hD a hb;go_wp2_with fail
 go_ret
 exact⟨rfl,HB.out⟩
theorem eU! (s:P3)(bs:List Bool)(r:FT):∀(iv:Value)(v:FV3)(w:World),FTAt (· < w.heap.size) w r v->Sl (· < w.heap.size) w 1 iv (boC bs) ->
  Calls prog 212 #[fV r v,pV s,iv] w fun e w'=>e= .returned (.bool (holdF s bs r))/\Below w.heap.size w w':=by
 induction r using FT.ind with
 | h r ih =>
 intro iv v w h hi;have H0:=h! h;have I0:=h! hi;have m:=h! ih;obtain⟨V,G,z,Q,K,I,rfl⟩:=h.shape;obtain⟨R,H,rfl,-⟩:=eo! hi;obtain⟨k,subs,refs,a⟩:=r;clear ih h hi;unfold fV pV;dsimp only[FT.k,FT.subs,FT.refs,FT.ps]at m H0 ⊢;obtain⟨O,g⟩:=e! (w.alloc (.cells #[.int .i64 k,.slice V subs.length G,.slice z refs.length Q,.slice K a.length I] 128));obtain⟨o,j⟩:=e! (O.alloc (.cells #[.string s.t,.string s.i,.string s.r] 33));obtain⟨x,f⟩:=e! (o.alloc (.cells #[.slice R bs.length H] 74));obtain⟨y,l⟩:=e! (x.alloc (.cells #[hvF (w.heap.size+1) (w.heap.size+1+1)] 330));have ea:O.heap.size=w.heap.size+1:=by rw[g];simp
 have eb:o.heap.size=w.heap.size+1+1:=by rw[j];simp[ea]
 have ec:x.heap.size=w.heap.size+1+1+1:=by rw[f];simp[eb]
 have xa:Ext w O:=xa! g
 have xb:Ext O o:=xa! j
 have E:Ext o x:=xa! f
 have D:Ext x y:=xa! l
 have L:Hid (Ext w y):=h! (xa.trans (xb.trans (E.trans D)));have BA:=h! (show Blk y w.heap.size #[.int .i64 k,.slice V subs.length G,.slice z refs.length Q,.slice K a.length I] 128 from Blk.below (bm! g) (xb.trans (E.trans D)));have BS:=h! (show Blk y (w.heap.size+1) #[.string s.t,.string s.i,.string s.r] 33 from Blk.below (by rw[j,<-ea];exact Blk.made _ _ _) (E.trans D));have u:=h! (show Blk y (w.heap.size+1+1) #[.slice R bs.length H] 74 from Blk.below (by rw[f,<-eb];exact Blk.made _ _ _) D);have BF:=h! (show Blk y (w.heap.size+1+1+1) #[hvF (w.heap.size+1) (w.heap.size+1+1)] 330 from by rw[l,<-ec];exact Blk.made _ _ _);have J:=h! (H0.out.up L.out);have M:Hid (Sl (· < y.heap.size) y 1 (.slice R bs.length H) (boC bs)):=h! ((I0.out.same (Same.below L.out)).mono fun _ h=>n1! h L.out.size);have b:=h! (iM! s bs k subs refs a);have a3:∀(fn:Fn) (first cap:Array Value) (W:World),(Instr.makeFunc fn first cap).run prog W= .ok (.func fn first cap) W:=fun _ _ _ _=>rfl;have F:=BA.out.cells;have A:=BS.out.cells;have C:=u.out.cells;have N:=BF.out.cells;have eg:=enters_of func253 (by kernel_rfl) rfl;clear ea eb ec xa xb E D;subst l f j g;by_cases k1:k=1
 case' pos =>
  subst k1;rw[if_pos rfl]at b;have n:=h! (bG! _ subs s _ ((FTAt.iff _ _).1 J.out).1);unfold pV at n;dsimp only at n;go_enter func212,ntmps212
  go_wp2_with fail
  refine n.out.mono ?_;rintro e w5 ⟨rfl,d⟩;have X5:Hid (Below w.heap.size w w5):=h! (Ext.trans L.out d);have T:=h! (hI! bs (.mk 1 subs refs a) (.slice R bs.length H) (.slice V subs.length G,.slice z refs.length Q,.slice K a.length I) w.heap.size (w.heap.size+1+1) w5 (BA.out.below d) (u.out.below d) (J.out.up d) ((M.out.same (Same.below d)).mono fun _ h=>n1! h d.size));dsimp only[FT.refs]at T;clear F A C N n d;by_cases hm:s∈subs
  ·rw[v2! hm]at b ⊢;clear T;go_wp2_with fail
   go_ret
   exact⟨by rw[b.out];rfl,X5.out⟩
  ·rw[v3! hm]at b ⊢;go_wp2_with fail
   refine T.out.mono ?_;rintro e B ⟨rfl,c⟩;have q:Hid (Below w.heap.size w B):=h! (Ext.trans X5.out c);clear T c;go_wp2_with fail
   go_ret
   exact⟨by rw[b.out];rfl,q.out⟩
 case' neg =>
  rw[if_neg k1]at b;have b1:(k == 1)=false:=by rw[n7!];exact k1
  clear k1;have T:=h! (hI! bs (.mk k subs refs a) (.slice R bs.length H) (.slice V subs.length G,.slice z refs.length Q,.slice K a.length I) w.heap.size (w.heap.size+1+1) _ BA.out u.out J.out M.out);dsimp only[FT.refs]at T;by_cases k23:k=2\/k=3
  ·rw[if_pos k23]at b
   have a0:(k == 2)=true\/(k == 2)=false/\(k == 3)=true:=by
    rcases k23 with rfl | rfl <;> simp
   clear k23;rcases a0 with hk | ⟨hk,hk3⟩
   all_goals
    go_enter func212,ntmps212
    go_wp2_with fail
    refine T.out.mono ?_;rintro e B ⟨rfl,c⟩;have q:Hid (Below w.heap.size w B):=h! (Ext.trans L.out c);clear T c F A C N;go_wp2_with fail
    go_ret
    exact⟨by rw[b.out];try rfl,q.out⟩
  ·rw[if_neg k23]at b;have b2:(k == 2)=false:=by rw[n7!];exact fun e=>k23 (.inl e)
   have b3:(k == 3)=false:=by rw[n7!];exact fun e=>k23 (.inr e)
   clear k23 T eg;have HP:=h! (fun i (hi:i<a.length) W (pvi:FV3) (hW:Below _ _ W) (hat:FTAt (· < W.heap.size) W a[i] pvi)=>id! s bs a[i] (.slice R bs.length H) pvi (w.heap.size+1) (w.heap.size+1+1) W (BS.out.below hW) (u.out.below hW) hat ((M.out.same (Same.below hW)).mono fun _ h=>n1! h hW.size) fun W2 hW2=>m.out a[i] (n5! hi) (.slice R bs.length H) pvi W2 (hat.up hW2) ((M.out.same (Same.below (Ext.trans hW hW2))).mono fun _ h=>n1! h (n6! hW.size hW2.size)));have U:=h! (fun i (hi:i<a.length) W (pvi:FV3) (hW:Below _ _ W) (hat:FTAt (· < W.heap.size) W a[i] pvi)=>ij! s bs a[i] (.slice R bs.length H) pvi (w.heap.size+1) (w.heap.size+1+1) (w.heap.size+1+1+1) W (BS.out.below hW) (u.out.below hW) (BF.out.below hW) hat ((M.out.same (Same.below hW)).mono fun _ h=>n1! h hW.size) fun W2 hW2=>m.out a[i] (n5! hi) (.slice R bs.length H) pvi W2 (hat.up hW2) ((M.out.same (Same.below (Ext.trans hW hW2))).mono fun _ h=>n1! h (n6! hW.size hW2.size)));by_cases k4:k=4
   ·subst k4;rw[if_pos rfl]at b;clear b1 b2 b3 U;have n:=h! (cg! _ a 4 subs refs (.slice V subs.length G,.slice z refs.length Q,.slice K a.length I) 256 #[.pointer (some ⟨w.heap.size+1,0,none⟩),.pointer (some ⟨w.heap.size+1+1,0,none⟩)] (enters_of func256 (by kernel_rfl) rfl) (holdF s bs) J.out HP.out);dsimp only at n;clear HP;go_enter func212,ntmps212
    go_wp2_with fail
    refine n.out.mono ?_;rintro e B ⟨rfl,c⟩;have q:Hid (Below w.heap.size w B):=h! (Ext.trans L.out c);clear n c F A C N;go_wp2_with fail
    go_ret
    exact⟨by rw[b.out];try rfl,q.out⟩
   ·rw[if_neg k4]at b;have b4:(k == 4)=false:=by rw[n7!];exact k4
    clear k4 HP;by_cases k5:k=5
    ·subst k5;rw[if_pos rfl]at b;clear b1 b2 b3 b4;have n:=h! (cg! _ a 5 subs refs (.slice V subs.length G,.slice z refs.length Q,.slice K a.length I) 258 #[.pointer (some ⟨w.heap.size+1+1+1,0,none⟩)] (enters_of func258 (by kernel_rfl) rfl) (fun p=>!holdF s bs p) J.out U.out);dsimp only at n;clear U;go_enter func212,ntmps212
     go_wp2_with fail
     refine n.out.mono ?_;rintro e B ⟨rfl,c⟩;have q:Hid (Below w.heap.size w B):=h! (Ext.trans L.out c);clear n c F A C N;go_wp2_with fail
     go_ret
     exact⟨by rw[b.out,List.all_eq_not_any_not];try rfl,q.out⟩
    ·rw[if_neg k5]at b;have b5:(k == 5)=false:=by rw[n7!];exact k5
     clear k5 U;go_enter func212,ntmps212
     go_wp2_with fail
     go_ret
     exact⟨by rw[b.out];try rfl,L.out⟩
theorem lU!:(prog.info? 3).map (fun i=>(i.zero,i.size,i.bytes))=some (some (.int .i64 0),1,8):=by kernel_rfl
theorem kw!:(prog.info? 4).map (fun i=>(i.zero,i.size,i.bytes))=some (some (.bool false),1,1):=by kernel_rfl
theorem makeI (n:Nat)(h:n<=100000000):∀W,(Instr.makeSlice 107 (.int .i64 (n:Int)) (.int .i64 (n:Int))).run prog W= .ok (.slice (some ⟨W.heap.size,0,none⟩) n n) (W.alloc (.cells (madeCells #[.int .i64 0] n) 3)):=by
 intro W;obtain⟨i,hi,a⟩:=Option.map_eq_some_iff.1 lU!;simp only[Prod.mk.injEq]at a;obtain⟨hz,hs,hb⟩:=a;have:=run_make (P:=prog) W 107 3 i (.int .i64 0) Tryz.underlying107 hi hz .i64 .i64 n n (by omega) (by omega) (by rw[hb];omega) (by omega);rw[this,hs,Nat.mul_one];rfl
theorem makeB (n:Nat)(h:n<=100000000):∀W,(Instr.makeSlice 74 (.int .i64 (n:Int)) (.int .i64 (n:Int))).run prog W= .ok (.slice (some ⟨W.heap.size,0,none⟩) n n) (W.alloc (.cells (madeCells #[.bool false] n) 4)):=by
 intro W;obtain⟨i,hi,a⟩:=Option.map_eq_some_iff.1 kw!;simp only[Prod.mk.injEq]at a;obtain⟨hz,hs,hb⟩:=a;have:=run_make (P:=prog) W 74 4 i (.bool false) Tryz.underlying74 hi hz .i64 .i64 n n (by omega) (by omega) (by rw[hb];omega) (by omega);rw[this,hs,Nat.mul_one];rfl
theorem Own.made1 (w:World)(n:Nat)(h:n<=100000000)(e:TypeId)(z:Value):Own (w.alloc (.cells (madeCells #[z] n) e)) w.heap.size e 1 (.slice (some ⟨w.heap.size,0,none⟩) n n) (List.replicate n z):=by
 refine⟨n,by rw[List.length_replicate];omega,.inr ⟨w.heap.size,n,_,rfl,n0! _,heap_alloc_new w _,n0! _,by unfold maxLen;omega,by rw[size_madeCells];omega,?_⟩⟩;apply List.ext_getElem?;intro j;rw[List.getElem?_take];by_cases hj:j<n
 ·rw[if_pos (by omega)];simp[madeCells,hj,Nat.mod_one]
 ·rw[if_neg (by omega)];simp[show n<=j by omega]
theorem Own.cellAt {w:World}{B:Nat}{e:TypeId}{g n c:Nat}{xs:List Value}(h:Own w B e 1 (.slice (some ⟨g,0,none⟩) n c) xs):xs.length=n/\B<=g/\∃cs,Blk w g cs e/\∀i (hi:i<xs.length),w.cell? ⟨g,i,none⟩=some xs[i]:=by
 obtain⟨m,h⟩:=h;rcases h.2 with⟨hv,rfl⟩|⟨g',cap,cur,hv,hbg,hg,hnc,hcm,hcs,htake⟩
 ·cases hv
 ·cases hv;have hl:=h.1;rw[Nat.mul_one]at hl htake;refine⟨hl,hbg,cur,hg,fun i hi=>?_⟩;have h1:=congrArg (fun l:List Value=>l[i]?) htake;rw[List.getElem?_take_of_lt (by omega),n4! hi]at h1;rw[(show Blk w g cur e from hg).cells i];simpa using h1
section
variable {lo gi go n : Nat} {w0 w w' : World} {L : List Bool} {R : List Int}
end
theorem io! {fs:List FT}{s:P3}{l:List Bool}{i:Nat}(h:i<l.length)(hi:l[i]=true):newS fs s l i=false:=by
 unfold newS;rw[n8!,n4! h,Option.getD_some,hi];rfl
theorem lL! {fs:List FT}{s:P3}{l:List Bool}{i:Nat}(h:fs.length<=i):newS fs s l i=false:=by
 unfold newS;rw[y0! h];simp
theorem jR! {fs:List FT}{s:P3}{l:List Bool}{i:Nat}(h:i<l.length)(hi:l[i]=false)(hf:i<fs.length):newS fs s l i=holdF s l fs[i]:=by
 unfold newS;rw[n8!,n4! h,Option.getD_some,hi,n4! hf];rfl
theorem GrAt.rows {S:Nat->Prop}{w:World}{ps:List P3}{fs:List FT}{pv fv:Value}(h:GrAt S w ps fs pv fv):∃ap cp af cf,pv= .slice ap ps.length cp/\fv= .slice af fs.length cf/\ps.length<=cp/\fs.length<=cf/\cp<=9223372036854775807/\cf<=9223372036854775807 /\
  ∀i (hi:i<fs.length),∃b off,∃u:FV3,af=some ⟨b,off,none⟩/\S b/\w.cell? ⟨b,off+i*4,none⟩=some (.int .i64 fs[i].k)/\w.cell? ⟨b,off+i*4+1,none⟩=some u.1/\w.cell? ⟨b,off+i*4+2,none⟩=some u.2.1/\w.cell? ⟨b,off+i*4+3,none⟩=some u.2.2/\FTAt S w fs[i] u:=by
 obtain⟨h1,q,h2,h3,h4⟩:=h;obtain⟨ap,cp,e1,a0,a1,-⟩:=Sl.rows au! (by decide) (show Sl S w 3 pv (ps.flatMap pC)from h1);obtain⟨af,cf,e2,a3,a2,d⟩:=Sl.rows cf! (by decide) h4;have hl:q.length=fs.length:=by rw[<-h2,x1!]
 refine⟨ap,cp,af,cf,e1,by rw[e2,hl],a0,by omega,a1,a2,fun i hi=>?_⟩;have a:i<q.length:=by omega
 obtain⟨b,off,rfl,hb,d⟩:=d (by omega);have c:fs[i]=q[i].1:=by simp only[<-h2,List.getElem_map]
 rw[c];exact⟨b,off,q[i].2,rfl,hb,d i a 0 _ rfl,d i a 1 _ rfl,d i a 2 _ rfl,d i a 3 _ rfl,h3 _ (n5! a)⟩
def NoInt (w:World)(b:Nat):Prop:=∀cs fr,w.heap[b]?≠some (.cells cs 3 fr)/\w.heap[b]?≠some (.cells cs 107 fr)
abbrev UK (lo:Nat) (A:Nat->Prop) (w w':World):Prop:=Kept (fun b=>b<w.heap.size/\(b<lo\/A b\/NoInt w b)) w w'
section
variable {lo : Nat} {A : Nat -> Prop} {w w' w'' : World}
theorem UK.refl (lo:Nat)(A:Nat->Prop)(w:World):UK lo A w w:=Kept.refl _ _
theorem UK.of (h:Ext w w'):UK lo A w w':=Below.kept h fun _ hb=>hb.1
theorem UK.next (h:UK lo A w w')(k:UK lo A w' w''):UK lo A w w'':=Kept.trans h (Kept.mono k fun b hb=>⟨n1! hb.1 h.size,by
 rcases hb.2 with h1 | h1 | h1
 ·exact .inl h1
 ·exact .inr (.inl h1)
 ·exact .inr (.inr fun cs fr=>by rw[h.block b ⟨hb.1,.inr (.inr h1)⟩];exact h1 cs fr)⟩)
theorem UK.low (h:UK lo A w w')(hl:lo<=w.heap.size):Same (· < lo) w w':=fun b hb=>h.block b ⟨n1! hb hl,.inl hb⟩
theorem UK.blk (h:UK lo A w w') {b:Nat}{cs:Array Value}{t:TypeId}(hb:Blk w b cs t)(h1:t≠3)(h2:t≠107):Blk w' b cs t :=
 (h.block b ⟨hb.lt,.inr (.inr fun cs' fr=>⟨fun e=>by
  rw[show w.heap[b]?=_ from hb]at e;injection e with e
  injection e with _ e _
  exact h1 e,fun e=>by
  rw[show w.heap[b]?=_ from hb]at e;injection e with e
  injection e with _ e _
  exact h2 e⟩)⟩).trans hb
theorem UK.blkA (h:UK lo A w w') {b:Nat}{cs:Array Value}{t:TypeId}(hb:Blk w b cs t)(h1:A b):Blk w' b cs t:=(h.block b ⟨hb.lt,.inr (.inl h1)⟩).trans hb
end
theorem FTAt.lowUp {lo:Nat}{A:Nat->Prop}{w w':World}{r:FT}{v:FV3}(h:FTAt (· < lo) w r v)(hk:UK lo A w w')(hl:lo<=w.heap.size):FTAt (· < lo) w' r v:=h.same (hk.low hl)
theorem jS! (g:Nat)(cap:Array Value)(eg:∀args W,(callFunc g args).run prog W= .ok (.enter g args) W)(lo N:Nat)(A:Nat->Prop)(Inv:List Int->World->Prop)
  (hx:∀ks W W',Inv ks W->Ext W W'->Inv ks W') (hdo:∀ks k W,Inv ks W->lo<=W.heap.size->ks.length<N->Calls prog g (#[.int .i64 k]++cap) W fun e W'=>e= .returned (.tuple #[])/\Inv (ks++[k]) W'/\UK lo A W W') (f:FT) :
  ∀(v:FV3) (ks:List Int) (w:World),FTAt (· < lo) w f v->lo<=w.heap.size->Inv ks w->ks.length+f.named.length<=N ->
  Calls prog 208 #[fV f v,.func (.func g) #[] cap] w fun e w'=>e= .returned (.tuple #[])/\Inv (ks++f.named) w'/\UK lo A w w':=by
 induction f using FT.ind with
 | h f ih =>
 intro v ks w h hlo hinv hN;obtain⟨a1,c1,a2,c2,a4,c4,rfl⟩:=h.shape;obtain⟨k,subs,refs,a⟩:=f;rw[FT.named_eq,u4!]at hN;rw[FT.named_eq];have H:=h! ih;have H1:=h! h;have a6:=h! hdo;have I:=h! hx;have HN:=h! hN;have J:=h! hlo;clear ih h hdo hx hN hlo;unfold fV;dsimp only[FT.k,FT.subs,FT.refs,FT.ps]at H H1 HN ⊢;obtain⟨X,p⟩:=e! (w.alloc (.cells #[.int .i64 k,.slice a1 subs.length c1,.slice a2 refs.length c2,.slice a4 a.length c4] 128));have Q:=h! (show Ext w X from xa! p);have BA:=h! (show Blk X w.heap.size #[.int .i64 k,.slice a1 subs.length c1,.slice a2 refs.length c2,.slice a4 a.length c4] 128 from bm! p);have D:=h! (I.out ks w X hinv Q.out);have F1:=h! (fun W (hW:UK lo A X W)=>H1.out.lowUp (UK.next (UK.of Q.out) hW) J.out);have FB:=h! (fun W (hW:UK lo A X W)=>hW.blk BA.out (by decide) (by decide));have FL:=h! (fun W (hW:UK lo A X W)=>show lo<=W.heap.size from n6! J.out (n6! Q.out.size hW.size));clear hinv H1;have O:=BA.out.cells;clear BA;rw[p]at O;go_enter func208,ntmps208
 go_wp2_with fail
 clear O;rw[<-p];clear p;go_loopw [11] (fun iv wr=>∃i:Nat,i<=refs.length/\iv= .int .i64 i/\Inv (ks++refs.take i) wr/\UK lo A X wr) (fun iv _=>refs.length-(intOf iv).toNat)
 case atStart=>exact⟨0,v1! _,rfl,by simpa using D.out,UK.refl _ _ _⟩
 case round =>
  obtain⟨i,hi,rfl,j,M⟩:=hrel;have U:=h! j;have R:=h! M;clear j M D;by_cases hlt:i<refs.length
  ·have d:=h! hlt;have r:=h! (n2! hlt);obtain⟨-,T,-⟩:=(FTAt.iff _ _).1 (F1.out wr R.out);obtain⟨p1,q1,rfl,t,F⟩:=Sl.int_at T hlt;dsimp only[FT.refs]at F;have a3:(i:Int)<(refs.length:Int):=by omega
   have q:=h! (show wrap64 ((i:Int)+1)=((i+1:Nat):Int)from by
    obtain⟨_,n,c,he,h1,T,h3⟩:=T.len;cases he;unfold wrap64;omega)
   have b:=h! (a6.out (ks++refs.take i) refs[i] wr U.out (FL.out wr R.out) (by have:=HN.out;rw[u4!,x4!];omega));generalize refs[i]=x at *;clear hlt t T;go_wp2_with fail
   refine b.out.mono ?_;rintro e V ⟨rfl,l,o⟩;have z:=h! (show Inv (ks++refs.take (i+1)) V from by rw[r.out,<-y6!];exact l);have y:Hid (UK lo A X V):=h! (UK.next R.out o);clear l o b F;go_wp2_with fail
   go_roundw
   case rel=>exact⟨i+1,d.out,by first | rw[q.out] | go_num,z.out,y.out⟩
   case measure=>have:=d.out;(try rw[q.out]);simp[intOf];omega
  ·obtain rfl:i=refs.length:=by omega
   rw[u2!]at U;have O:=(FB.out wr R.out).cells;clear hlt hi;go_wp2_with fail
   clear O;obtain⟨w4,E⟩:=e! wr;rw[<-E]at U R ⊢;clear E;go_loopw [22] (fun iv wr=>∃i:Nat,i<=a.length/\iv= .int .i64 i/\Inv (ks++refs++nmdL (a.take i)) wr/\UK lo A X wr) (fun iv _=>a.length-(intOf iv).toNat)
   case atStart=>exact⟨0,v1! _,rfl,by simpa [nmdL] using U.out,R.out⟩
   case round =>
    obtain⟨i,hi,rfl,j,M⟩:=hrel;have B:=h! j;have m:=h! M;clear j M;by_cases hlt:i<a.length
    ·have d:=h! hlt;have r:=h! (dS! hlt)
     have a7:=h! (show(nmdL (a.take i)).length+a[i].named.length<=(nmdL a).length from by
      have h1:nmdL a=nmdL (a.take (i+1))++nmdL (a.drop (i+1)):=by rw[<-bl!,x6!]
      rw[h1,r.out];simp only[u4!];omega)
     obtain⟨a8,g1,G,C,K,s⟩:=(F1.out wr m.out).rows;dsimp only[FT.ps]at G C K s;cases G;obtain⟨p1,q1,u,rfl,t,e0,e1,e2,e3,hu⟩:=s i hlt;have a5:=h! (H.out a[i] (n5! hlt));have q:=h! (show wrap64 ((i:Int)+1)=((i+1:Nat):Int)from by unfold wrap64;omega);have a3:(i:Int)<(a.length:Int):=by omega
     generalize a[i]=x at *;obtain⟨l1,m1,l2,m2,l4,m4,rfl⟩:=hu.shape;have L:=h! (Ext.alloc wr (.cells #[.int .i64 x.k,.slice l1 x.subs.length m1,.slice l2 x.refs.length m2,.slice l4 x.ps.length m4] 128));have b:=h! (a5.out _ (ks++refs++nmdL (a.take i)) _ (hu.lowUp (UK.of (A:=A) L.out) (FL.out wr m.out)) (n6! (FL.out wr m.out) L.out.size) (I.out _ _ _ B.out L.out) (by have:=HN.out;have:=a7.out;simp only[u4!];omega));unfold fV at b;dsimp only at e0 e1 e2 e3 b;have a0:=(Blk.made wr #[.int .i64 x.k,.slice l1 x.subs.length m1,.slice l2 x.refs.length m2,.slice l4 x.ps.length m4] 128).cells;clear hlt s hu t C K;go_wp2_with fail
     refine b.out.mono ?_;rintro e V ⟨rfl,l,o⟩;have z:=h! (show Inv (ks++refs++nmdL (a.take (i+1))) V from by rw[r.out,<-y6!];exact l);have y:Hid (UK lo A X V):=h! (UK.next m.out (UK.next (UK.of L.out) o));clear l o a0 b e0 e1 e2 e3;go_wp2_with fail
     go_roundw
     case rel=>exact⟨i+1,d.out,by first | rw[q.out] | go_num,z.out,y.out⟩
     case measure=>have:=d.out;(try rw[q.out]);simp[intOf];omega
    ·obtain rfl:i=a.length:=by omega
     rw[u2!,y6!]at B;have XE:Hid (UK lo A w wr):=h! (UK.next (UK.of Q.out) m.out);go_wp2_with fail
     go_end0
     exact⟨rfl,B.out,XE.out⟩
structure UsAt (w:World)(lo ub n:Nat)(A:Nat->Prop)(U:List (List Int))(vs:List Value):Prop where
 arr:Own w lo 107 1 (.slice (some ⟨ub,0,none⟩) n n) vs
 vlen:vs.length=n
 ulen:U.length=n
 row:∀k v,vs[k]?=some v->Own w lo 3 1 v (ic (U.getD k []))
 apart:∀(j k:Nat) (v u:Value) (g:Nat),j≠k->vs[j]?=some v->vs[k]?=some u->v.ownBlock=some g->u.ownBlock≠some g
 off:∀(k:Nat) (v:Value) (g:Nat),vs[k]?=some v->v.ownBlock=some g->¬ A g
section
variable {w w' w2 : World} {lo ub n k : Nat} {A : Nat -> Prop} {U : List (List Int)} {vs : List Value} {v v2 : Value} {x : Int}
theorem UsAt.ext (h:UsAt w lo ub n A U vs)(hx:Ext w w'):UsAt w' lo ub n A U vs :=
 ⟨h.arr.below hx,h.vlen,h.ulen,fun k v hv=>(h.row k v hv).below hx,h.apart,h.off⟩
theorem UsAt.add (h:UsAt w lo ub n A U vs)(hk:k<n)(hv:vs[k]?=some v)(ho:Own w2 lo 3 1 v2 (ic (U.getD k []++[x])))(hw:∀g,v2.ownBlock=some g->v.ownBlock=some g\/w.heap.size<=g)(hg:w.grownBy w2 v.ownBlock)(hA:∀b,A b->b<w.heap.size)(hub:¬ A ub) :
  UsAt (w2.setCell ⟨ub,k,none⟩ v2) lo ub n A (U.set k (U.getD k []++[x])) (vs.set k v2)/\UK lo A w (w2.setCell ⟨ub,k,none⟩ v2):=by
 have hr:=h.row k v hv;have f:Own w2 lo 107 1 (.slice (some ⟨ub,0,none⟩) n n) vs:=h.arr.aside hr (by decide) hg
 have a1:∀g,v2.ownBlock=some g->g≠ub:=fun g hg2 e=>by
  subst e;exact ho.apart f (by decide) hg2 rfl
 have a:∀b,b≠ub->(w2.setCell ⟨ub,k,none⟩ v2).heap[b]?=w2.heap[b]?:=fun b hb=>Below.heap_setCell _ _ _ _ hb
 have c:∀j u,j≠k->vs[j]?=some u->∀g,u.ownBlock=some g->g<w.heap.size/\g≠ub/\v.ownBlock≠some g:=fun j u hj hu g hg2=>by
  have o:=(h.row j u hu);refine⟨(o.block g hg2).2,fun e=>?_,fun e=>h.apart k j v u g (Ne.symm hj) hv hu e hg2⟩;subst e;exact o.apart h.arr (by decide) hg2 rfl
 refine⟨⟨f.set1 k v2,by rw[List.length_set];exact h.vlen,by rw[List.length_set];exact h.ulen,fun j u hu=>?_,fun j l u u' g hjl hu hu' hg2=>?_,fun j u g hu hg2=>?_⟩,?_⟩
 ·rw[ed!,h.ulen];by_cases hj:j=k
  ·subst hj;rw[List.getElem?_set_self (by rw[h.vlen];exact hk)]at hu;obtain rfl:=v5! hu;rw[if_pos ⟨rfl,hk⟩];exact ho.keepOwn fun g hg2=>a g (a1 g hg2)
  ·rw[List.getElem?_set_ne (Ne.symm hj)]at hu;rw[if_neg fun e=>hj e.1]
   exact(h.row j u hu).keepOwn fun g hg2=>by
    obtain⟨o,m,p⟩:=c j u hj hu g hg2;rw[a g m];exact hg.block g o (fun e=>p e.symm)
 ·by_cases hj:j=k
  ·subst hj;rw[List.getElem?_set_self (by rw[h.vlen];exact hk)]at hu;obtain rfl:=v5! hu;rw[List.getElem?_set_ne hjl]at hu';intro e;obtain⟨o,m,p⟩:=c l u' (Ne.symm hjl) hu' g e;rcases hw g hg2 with h4 | h4
   ·exact p h4
   ·omega
  ·rw[List.getElem?_set_ne (Ne.symm hj)]at hu;obtain⟨o,m,p⟩:=c j u hj hu g hg2;by_cases hl:l=k
   ·subst hl;rw[List.getElem?_set_self (by rw[h.vlen];exact hk)]at hu';obtain rfl:=v5! hu';intro e;rcases hw g e with h4 | h4
    ·exact p h4
    ·omega
   ·rw[List.getElem?_set_ne (Ne.symm hl)]at hu';exact h.apart j l u u' g hjl hu hu' hg2
 ·by_cases hj:j=k
  ·subst hj;rw[List.getElem?_set_self (by rw[h.vlen];exact hk)]at hu;obtain rfl:=v5! hu;intro hAg;rcases hw g hg2 with h4 | h4
   ·exact h.off j v g hv h4 hAg
   ·have:=hA g hAg;omega
  ·rw[List.getElem?_set_ne (Ne.symm hj)]at hu;exact h.off j u g hu hg2
 ·refine⟨hg.os,hg.tape,hg.output,by simpa using hg.size,fun b hb=>?_⟩;obtain⟨a0,i⟩:=hb
  have o:b≠ub:=fun e=>by
   subst e;rcases i with m | m | m
   ·have:=(h.arr.block b rfl).1;omega
   ·exact hub m
   ·obtain⟨d,p⟩:=h.arr.typed (g:=b) rfl;exact(m d (0,0)).2 p
  rw[a b o];refine hg.block b a0 fun e=>?_;rcases i with m | m | m
  ·have:=(hr.block b e.symm).1;omega
  ·exact h.off k v b hv e.symm m
  ·obtain⟨d,p⟩:=hr.typed e.symm;exact(m d (0,0)).1 p
end
def noteU (n i:Nat)(k:Int)(U:List (List Int)):List (List Int):=if i<n/\0<=k/\k<(n:Int)then U.set k.toNat (U.getD k.toNat []++[(i:Int)])else U
theorem lF! (lo ub n i ib nb sb sp:Nat)(A:Nat->Prop)(k:Int)(U:List (List Int))(vs:List Value)(c0 c1 c2 c3 c4 c5 c6:Value)(w:World)(hib:Blk w ib #[.int .i64 (i:Int)] 3)(hnb:Blk w nb #[.int .i64 (n:Int)] 3)(hsb:Blk w sb #[.pointer (some ⟨sp,0,none⟩)] 254)
  (hsp:Blk w sp #[c0,c1,c2,c3,c4,c5,c6,.slice (some ⟨ub,0,none⟩) n n] 259) (h:UsAt w lo ub n A U vs) (hAi:A ib/\A nb) (hA:∀b,A b->b<w.heap.size) (hub:¬ A ub) (hlo:lo<=w.heap.size) (hlen:∀k,(U.getD k []).length<=2000000000000) :
  Calls prog 209 #[.int .i64 k,.pointer (some ⟨ib,0,none⟩),.pointer (some ⟨nb,0,none⟩),.pointer (some ⟨sb,0,none⟩)] w fun e w'=>e= .returned (.tuple #[])/\(∃vs',UsAt w' lo ub n A (noteU n i k U) vs')/\UK lo A w w':=by
 have N:=h! h;have h1:=hib.cells;have h2:=hnb.cells;have ac:=h! hib;have ab:=h! hsb;have a7:=h! hsp;have aa:=h! hAi;have a4:=h! hA;have a2:=h! hub;have a8:=h! hlo;have a9:=h! hlen;clear h hib hnb hsb hsp hAi hA hub hlo hlen;by_cases hc:i<n/\0<=k/\k<(n:Int)
 ·have q:=h! (show noteU n i k U=U.set k.toNat (U.getD k.toNat []++[(i:Int)])from by unfold noteU;rw[if_pos hc]);obtain⟨hin,hk0,a1⟩:=hc;obtain⟨m,rfl⟩:=Int.eq_ofNat_of_zero_le hk0;rw[Int.toNat_natCast]at q;have F:(i:Int)<(n:Int):=by omega
  have B:m<n:=by omega
  have p:=h! B;obtain⟨v,hv⟩:∃v,vs[m]?=some v:=⟨_,n4! (by rw[N.out.vlen];exact B)⟩;have R:=h! hv;have HR:=h! (N.out.row m v hv);obtain⟨c,O,T,rfl,I,-,-⟩:=HR.out.sl.len;rw[ad!,Nat.mul_one]at I;have H:=h! (show(U.getD m []).length<=2000000000000 from a9.out m);clear hv hin I B;go_enter func209,ntmps209
  go_wp2_with fail
  obtain⟨M,y⟩:=e! (World.drew w);have L:=h! (show Ext w M from xd! y);refine ah! 16 (Kept (fun x=>x<M.heap.size/\Value.ownBlock (.slice c O T)≠some x) M) (by rw[<-y];exact Kept.refl _ _) (by kernel_rfl) (by kernel_rfl) (fun _ _ d _ _ h=>by cases d <;> exact h) ?_;rw[<-y];clear y h1 h2;have UD:=h! (N.out.ext L.out);have G:=h! (HR.out.below L.out)
  have z:=h! (show ∀b cs t,Blk M b cs t->t≠3->Value.ownBlock (.slice c O T)≠some b from fun b cs t hb ht e=>by
   obtain⟨ae,Q⟩:=G.out.typed e;rw[show M.heap[b]?=_ from hb]at Q;injection Q with Q
   injection Q with _ Q _
   exact ht Q)
  have f:=ab.out.below L.out;have g:=a7.out.below L.out;have o:=ac.out.below L.out;obtain⟨s,a6,af,a,D⟩:=UD.out.arr.cellAt;have h1:=fun W (h:Kept (fun x=>x<M.heap.size/\Value.ownBlock (.slice c O T)≠some x) M W)=>(h.blk f ⟨f.lt,z.out _ _ _ f (by decide)⟩).cells;have h2:=fun W (h:Kept (fun x=>x<M.heap.size/\Value.ownBlock (.slice c O T)≠some x) M W)=>(h.blk g ⟨g.lt,z.out _ _ _ g (by decide)⟩).cells;have Q:=fun W (h:Kept (fun x=>x<M.heap.size/\Value.ownBlock (.slice c O T)≠some x) M W)=>(h.blk o ⟨o.lt,fun e=>UD.out.off m _ ib R.out e aa.out.1⟩).cells
  have h4:∀W,Kept (fun x=>x<M.heap.size/\Value.ownBlock (.slice c O T)≠some x) M W->W.cell? ⟨ub,m,none⟩=some (.slice c O T):=fun W h=>by
   have h5:=h.blk a ⟨a.lt,z.out _ _ _ a (by decide)⟩;have h6:=D m (by rw[s];exact p.out);rw[h5.cells m,<-a.cells m,h6];have:=R.out;rw[n4! (by rw[s];exact p.out)]at this;exact this
  have ad:(m:Int)<(n:Int):=by have:=p.out;omega
  (refine WalkL.tk [0,1,2,3,4,5,6,7,8,9,10,11,12] ?_;(iterate 13 (refine l! ?_));refine TkL.n ?_)
  clear h1 h2 Q h4;have r:Ext M (M.alloc (.cells #[.int .i64 (i:Int)] 3)):=Ext.alloc _ _;refine oL! 13 ?_;refine b! ?_;intro K hK;go_simp;refine hK.out _ _ ((Kept.refl _ _).alloc (fun x hx=>hx.1) _) ?_;clear hK;refine oL! 14 ?_;refine b! ?_;intro K hK;refine aP! intsT (.tmp 28) (.tmp 30) rfl rfl (G.out.below r) (m:=1) (news:=[.int .i64 (i:Int)]) rfl rfl (fun j u hu=>?_) (by simp[Value.oneCell']) (by have:=H.out;rw[ad!];simp at *;omega) (by have:=H.out;rw[ad!];simp at *;omega) (by have:=a8.out;have:=L.out.size;simp;omega) (fun v2 w2 hown2 hw2 hg2=>?_)
  ·rw[Addr.add_lit,cell_of_row _ M.heap.size (0+j) #[.int .i64 (i:Int)] 3 (0,0) (heap_alloc_new M _),Nat.zero_add];simpa using hu
  have C:Kept (fun x=>x<M.heap.size/\Value.ownBlock (.slice c O T)≠some x) M w2:=⟨hg2.os.trans rfl,hg2.tape.trans rfl,hg2.output.trans rfl,n6! (by simp) hg2.size,fun x hx=>(hg2.block x (by have:=hx.1;simp;omega) (fun e=>hx.2 e.symm)).trans (Below.heap_alloc M _ x hx.1)⟩;have J:=h! ((UD.out.ext r).add (x:=(i:Int)) p.out R.out (by rw[cJ!];exact hown2) hw2 hg2 (fun b hb=>n1! (a4.out b hb) (n6! L.out.size r.size)) a2.out);have a5:=h! (UK.next (UK.of (lo:=lo) (A:=A) L.out) (UK.next (UK.of r) J.out.2));have E:=C.blk a ⟨a.lt,z.out _ _ _ a (by decide)⟩;refine hK.out _ _ C ?_;clear hK;simp only[Act.put,pA,pZ,pS];obtain⟨o2,n2,ag,rfl,-,-,-⟩:=hown2.sl.len
  have a3:w2.cell? ⟨ub,m,none⟩=some (.slice c O T):=by
   rw[E.cells m,<-a.cells m,D m (by rw[s];exact p.out)];have:=R.out;rw[n4! (by rw[s];exact p.out)]at this;exact this
  have a0:=E.free;clear C hown2 hw2 hg2 r E a D s a6 f g o;((refine WalkL.take 15 _ ?_ (by simp only[gA,gS,gZ];rfl) (by kernel_rfl) (by kernel_rfl) (by kernel_rfl) (by rfl) (fun W hW=>?_) ?_;rotate_left;· (go_simp;try with_reducible rfl));simp only[Act.put,pA,pZ,pS])
  refine WalkL.last (by kernel_rfl) (by kernel_rfl) ?_;refine b! ?_;intro K hK;go_simp;refine hK.out _ _ ?_;clear hK a3 a0;go_end0
  exact⟨rfl,⟨_,by rw[q.out];exact J.out.1⟩,a5.out⟩
 ·have q:=h! (show noteU n i k U=U from by unfold noteU;rw[if_neg hc]);go_enter func209,ntmps209
  by_cases hin:i<n
  ·have F:(i:Int)<(n:Int):=by omega
   by_cases hk0:0<=k
   ·have a1:¬ k<(n:Int):=fun h=>hc ⟨hin,hk0,h⟩;clear hc hin;go_wp2_with fail
    go_end0
    exact⟨rfl,⟨vs,by rw[q.out];exact N.out⟩,UK.refl _ _ _⟩
   ·clear hc hin;go_wp2_with fail
    go_end0
    exact⟨rfl,⟨vs,by rw[q.out];exact N.out⟩,UK.refl _ _ _⟩
  ·have F:¬ (i:Int)<(n:Int):=by omega
   clear hc hin;go_wp2_with fail
   go_end0
   exact⟨rfl,⟨vs,by rw[q.out];exact N.out⟩,UK.refl _ _ _⟩
theorem WalkN.four {P:Program}{ops:Array Oper}{Q:Exit->Act->World->Prop}{S:World->Prop}{f:Nat}{l:Array Bool}{a:Act}{w:World}(i j m q:Nat)(hr:Region.ready .any ops l=[i,j,m,q])(h:MadeN P ops Q S f l a w i)(h':MadeN P ops Q S f l a w j)(h'':MadeN P ops Q S f l a w m)(h3:MadeN P ops Q S f l a w q):WalkN P ops Q S (f+1) l a w:=by
 refine .inr (.inr ⟨by rw[hr];simp,fun k hk=>?_⟩);rw[hr]at hk;have:k=i\/k=j\/k=m\/k=q:=by simpa using hk
 rcases this with rfl | rfl | rfl | rfl
 ·obtain⟨o,c,b,h⟩:=h;exact⟨o,c,fun K hK=>by rw[if_pos b];exact h K hK⟩
 ·obtain⟨o,c,b,h⟩:=h';exact⟨o,c,fun K hK=>by rw[if_pos b];exact h K hK⟩
 ·obtain⟨o,c,b,h⟩:=h'';exact⟨o,c,fun K hK=>by rw[if_pos b];exact h K hK⟩
 ·obtain⟨o,c,b,h⟩:=h3;exact⟨o,c,fun K hK=>by rw[if_pos b];exact h K hK⟩
theorem ip! (n:Nat)(hn:n<=1000000) {lo:Nat}{wd w:World}(hl:lo<=wd.heap.size)(hE:Ext wd w)(e:TypeId)(z:Value):∃g w',w.heap.size=g/\w.alloc (.cells (madeCells #[z] n) e)=w'/\Ext w w'/\Ext wd w'/\Own w' lo e 1 (.slice (some ⟨g,0,none⟩) n n) (List.replicate n z) :=
 ⟨_,_,rfl,rfl,Ext.alloc _ _,hE.trans (Ext.alloc _ _),by
  have hl:=n6! hl hE.size;obtain⟨m,h1,h2⟩:=Own.made1 w n (by omega) e z;rcases h2 with⟨h2,_⟩|⟨g',cap,cur,hv,hbg,hg,hr⟩
  ·cases h2
  ·exact⟨m,h1,.inr ⟨g',cap,cur,hv,n6! hl hbg,hg,hr⟩⟩⟩
theorem kM! {wd w:World}(hE:Ext wd w)(cs:Array Value)(e:TypeId):∃g w',w.heap.size=g/\w.alloc (.cells cs e)=w'/\Ext w w'/\Ext wd w'/\wd.heap.size<=g/\Blk w' g cs e:=⟨_,_,rfl,rfl,Ext.alloc _ _,hE.trans (Ext.alloc _ _),hE.size,Blk.made _ _ _⟩
theorem St11 {wd w:World}{g:Nat}(h:Ext wd w)(hg:wd.heap.size<=g)(u:Value):Ext wd (w.setCell ⟨g,0,none⟩ u):=Below.setCell h hg u
theorem makeS (n:Nat)(h:n<=1000000):∀W,(Instr.makeSlice 257 (.int .i64 (n:Int)) (.int .i64 (n:Int))).run prog W= .ok (.slice (some ⟨W.heap.size,0,none⟩) n n) (W.alloc (.cells (madeCells #[.slice none 0 0] n) 107)):=by
 intro W;obtain⟨i,hi,a⟩:=Option.map_eq_some_iff.1 (show(prog.info? 107).map (fun i=>(i.zero,i.size,i.bytes))=some (some (.slice none 0 0),1,24)by kernel_rfl);simp only[Prod.mk.injEq]at a;obtain⟨hz,hs,hb⟩:=a;have:=run_make (P:=prog) W 257 107 i (.slice none 0 0) Tryz.underlying257 hi hz .i64 .i64 n n (by omega) (by omega) (by rw[hb];omega) (by omega);rw[this,hs,Nat.mul_one];rfl
structure StE0 (lo n:Nat)(pv fv:Value)(s:P3)(wd w:World)(g3 g5 g7 g9 g10:Nat):Prop where
 ext:Ext wd w
 inn:Own w lo 4 1 (.slice (some ⟨g3,0,none⟩) n n) (List.replicate n (.bool false))
 rnd:Own w lo 3 1 (.slice (some ⟨g5,0,none⟩) n n) (List.replicate n (.int .i64 0))
 use:Own w lo 107 1 (.slice (some ⟨g7,0,none⟩) n n) (List.replicate n (.slice none 0 0))
 box:Blk w g9 #[pv,fv,.string s.t,.string s.i,.string s.r,.slice (some ⟨g3,0,none⟩) n n,.slice (some ⟨g5,0,none⟩) n n,.slice (some ⟨g7,0,none⟩) n n] 259
 ptr:Blk w g10 #[.pointer (some ⟨g9,0,none⟩)] 254
 low:wd.heap.size<=g9
theorem StE {lo n:Nat}{pv fv:Value}{s:P3}{wd w:World}{g3 g5 g7 g9 g10:Nat}(hE:Ext wd w)(hg:wd.heap.size<=g10)(hg9:wd.heap.size<=g9)
  (h3:Own w lo 4 1 (.slice (some ⟨g3,0,none⟩) n n) (List.replicate n (.bool false))) (h5:Own w lo 3 1 (.slice (some ⟨g5,0,none⟩) n n) (List.replicate n (.int .i64 0))) (h7:Own w lo 107 1 (.slice (some ⟨g7,0,none⟩) n n) (List.replicate n (.slice none 0 0)))
  (h9:Blk w g9 #[pv,fv,.string s.t,.string s.i,.string s.r,.slice (some ⟨g3,0,none⟩) n n,.slice (some ⟨g5,0,none⟩) n n,.slice (some ⟨g7,0,none⟩) n n] 259) (h10:Blk w g10 #[.pointer none] 254):StE0 lo n pv fv s wd (w.setCell ⟨g10,0,none⟩ (.pointer (some ⟨g9,0,none⟩))) g3 g5 g7 g9 g10:=by
 have a:∀ {e:TypeId} {v:Value} {xs:List Value},Own w lo e 1 v xs->e≠254->Own (w.setCell ⟨g10,0,none⟩ (.pointer (some ⟨g9,0,none⟩))) lo e 1 v xs:=fun h he=>h.keepOwn fun g hg=>Below.heap_setCell _ _ _ _ fun e2=>by
  obtain⟨a1,b⟩:=h.typed hg;rw[show g=g10 from e2,show w.heap[g10]?=_ from h10]at b;injection b with b
  injection b with _ b _
  exact he b.symm
 refine⟨Below.setCell hE hg _,a h3 (by decide),a h5 (by decide),a h7 (by decide),?_,h10.set_to 0 _ rfl,hg9⟩;refine(Below.heap_setCell _ _ _ _ fun e2=>?_).trans h9;have c:w.heap[g9]?=_:=h9;have a0:w.heap[g10]?=_:=h10;rw[show g9=g10 from e2,a0]at c;injection c with c
 injection c with _ c _
 exact absurd c (by decide)
theorem UK.lessA {lo:Nat}{A A':Nat->Prop}{w w':World}(h:UK lo A' w w')(hA:∀b,A b->A' b):UK lo A w w':=Kept.mono h fun b hb=>⟨hb.1,hb.2.imp id fun h=>h.imp (hA b) id⟩
theorem UK.below {lo:Nat}{A:Nat->Prop}{w w':World}(h:UK lo A w w')(hl:lo<=w.heap.size):Below lo w w':=Kept.below (B:=lo) h fun _b hb=>⟨n1! hb hl,.inl hb⟩
theorem UsAt.fewer {w:World}{lo ub n:Nat}{A A':Nat->Prop}{U:List (List Int)}{vs:List Value}(h:UsAt w lo ub n A U vs)(hA:∀b,A' b->A b):UsAt w lo ub n A' U vs:=⟨h.arr,h.vlen,h.ulen,h.row,h.apart,fun k v g hv hg ha=>h.off k v g hv hg (hA g ha)⟩
theorem UsAt.avoid {w:World}{lo ub n:Nat}{A A':Nat->Prop}{U:List (List Int)}{vs:List Value}(h:UsAt w lo ub n A U vs)(hA:∀b,A' b->A b\/w.heap.size<=b):UsAt w lo ub n A' U vs:=⟨h.arr,h.vlen,h.ulen,h.row,h.apart,fun k v g hv hg ha=>by
 rcases hA g ha with h1 | h1
 ·exact h.off k v g hv hg h1
 ·have:=((h.row k v hv).block g hg).2;omega⟩
theorem UsAt.start {w:World}{lo ub n:Nat}(A:Nat->Prop)(h:Own w lo 107 1 (.slice (some ⟨ub,0,none⟩) n n) (List.replicate n (.slice none 0 0))):UsAt w lo ub n A (List.replicate n []) (List.replicate n (.slice none 0 0)) where
 arr:=h
 vlen:=List.length_replicate
 ulen:=List.length_replicate
 row k v hv:=by
  rw[List.getElem?_replicate]at hv;split at hv
  ·obtain rfl:=v5! hv;rw[show(List.replicate n ([]:List Int)).getD k []=[]from by rw[n8!,List.getElem?_replicate];split <;> rfl];exact Own.nil _ _ _ _
  ·cases hv
 apart j k v u g _ hv _ hg:=by
  rw[List.getElem?_replicate]at hv;split at hv
  ·obtain rfl:=v5! hv;cases hg
  ·cases hv
 off k v g hv hg:=by
  rw[List.getElem?_replicate]at hv;split at hv
  ·obtain rfl:=v5! hv;cases hg
  ·cases hv
theorem kA!:∀(U:List (List Int))(k:Nat)(x:Int),k<U.length->((U.set k (U.getD k []++[x])).map List.length).sum=(U.map List.length).sum+1
 | a::U,0,x,_=>by simp;omega
 | a::U,k+1,x,h=>by
  have ih:=kA! U k x (by simpa using h);simp only[List.set_cons_succ,v8!,List.sum_cons,List.getD_cons_succ]at ih ⊢;omega
theorem iz!:∀(U:List (List Int))(k:Nat),(U.getD k []).length<=(U.map List.length).sum
 | [],k=>by simp
 | a::U,0=>by simp
 | a::U,k+1=>by
  have:=iz! U k;simp only[v8!,List.sum_cons,List.getD_cons_succ];omega
structure UsTo (fs:List FT)(n i:Nat)(ks:List Int)(U:List (List Int)):Prop where
 len:U.length=n
 mem:∀k:Nat,k<n->∀x:Int,x∈U.getD k []↔(∃j:Nat,∃hf:j<fs.length,j<i/\x=(j:Int)/\j<n/\(k:Int)∈fs[j].named)\/(x=(i:Int)/\i<n/\(k:Int)∈ks)
 sum:(U.map List.length).sum<=(nmdL (fs.take i)).length+ks.length
theorem UsTo.start (fs:List FT)(n:Nat):UsTo fs n 0 [] (List.replicate n []):=by
 have h:∀k:Nat,(List.replicate n ([]:List Int)).getD k []=[]:=fun k=>by rw[n8!,List.getElem?_replicate];split <;> rfl
 exact⟨List.length_replicate,fun k hk x=>by rw[h];simp,by rw[List.map_replicate];simp⟩
theorem UsTo.note {fs:List FT}{n i:Nat}{ks:List Int}{U:List (List Int)}(h:UsTo fs n i ks U)(k:Int):UsTo fs n i (ks++[k]) (noteU n i k U):=by
 unfold noteU;split
 ·next hc =>
  obtain⟨h1,h2,a⟩:=hc;refine⟨by rw[List.length_set];exact h.len,fun m hm x=>?_,?_⟩
  ·rw[ed!,h.len];by_cases e:m=k.toNat
   ·have hk:(m:Int)=k:=by omega
    rw[if_pos ⟨e,by omega⟩,u3!,n9!,<-e,h.mem m hm x];simp only[u3!,n9!,hk,or_true,and_true];constructor
    ·rintro((h | h) | h)
     ·exact .inl h
     ·exact .inr ⟨h.1,h.2.1⟩
     ·exact .inr ⟨h,h1⟩
    ·rintro(h | h)
     ·exact .inl (.inl h)
     ·exact .inr h.1
   ·have hk:¬ (m:Int)=k:=by omega
    rw[if_neg fun h=>e h.1,h.mem m hm x];simp only[u3!,n9!,hk,or_false]
  ·rw[kA! _ _ _ (by rw[h.len];omega)];have h4:=h.sum;simp only[u4!,List.length_singleton];omega
 ·next hc =>
  refine⟨h.len,fun m hm x=>?_,?_⟩
  ·rw[h.mem m hm x];constructor
   ·rintro(h | h)
    ·exact .inl h
    ·exact .inr ⟨h.1,h.2.1,List.mem_append_left _ h.2.2⟩
   ·rintro(h | ⟨h1,h2,a⟩)
    ·exact .inl h
    ·rcases u3!.1 a with a | a
     ·exact .inr ⟨h1,h2,a⟩
     ·have:=n9!.1 a;exact absurd ⟨h2,by omega,by omega⟩ hc
  ·have h5:=h.sum;simp only[u4!,List.length_singleton];omega
theorem UsTo.next {fs:List FT}{n i:Nat}{U:List (List Int)}(hi:i<fs.length)(h:UsTo fs n i fs[i].named U):UsTo fs n (i+1) [] U:=by
 refine⟨h.len,fun m hm x=>?_,?_⟩
 ·rw[h.mem m hm x];constructor
  ·rintro(⟨j,hf,h1,h2⟩|⟨h1,h2,h3⟩)
   ·exact .inl ⟨j,hf,by omega,h2⟩
   ·exact .inl ⟨i,hi,by omega,h1,h2,h3⟩
  ·rintro(⟨j,hf,h1,h2,h3,h4⟩|⟨_,_,h⟩)
   ·by_cases e:j=i
    ·subst e;exact .inr ⟨h2,h3,h4⟩
    ·exact .inl ⟨j,hf,by omega,h2,h3,h4⟩
   ·cases h
 ·rw[dS! hi,u4!];have:=h.sum;simp only[v6!];omega
theorem UsTo.done {fs:List FT}{n:Nat}{U:List (List Int)}(h:UsTo fs n fs.length [] U):UsOf fs n U:=fun k hk x=>by
 rw[h.mem k hk x];constructor
 ·rintro(⟨j,hf,_,h1,h2,h3⟩|⟨_,_,h⟩)
  ·exact⟨j,hf,h1,h2,h3⟩
  ·cases h
 ·rintro⟨j,hf,h1,h2,h3⟩;exact .inl ⟨j,hf,hf,h1,h2,h3⟩
structure StAt (w:World)(lo sp gi gr ub n:Nat)(pv fv:Value)(s:P3)(L:List Bool)(R:List Int)(U:List (List Int))(vs:List Value):Prop where
 box:Blk w sp #[pv,fv,.string s.t,.string s.i,.string s.r,.slice (some ⟨gi,0,none⟩) n n,.slice (some ⟨gr,0,none⟩) n n,.slice (some ⟨ub,0,none⟩) n n] 259
 inn:Own w lo 4 1 (.slice (some ⟨gi,0,none⟩) n n) (boC L)
 rnd:Own w lo 3 1 (.slice (some ⟨gr,0,none⟩) n n) (ic R)
 use:UsAt w lo ub n (fun b=>b=gr) U vs
theorem jA! (s:P3)(ps:List P3)(fs:List FT)(pv fv:Value)(w:World)(h:GrAt (· < w.heap.size) w ps fs pv fv)(hnm:ps.length<=1000000)(hfm:fs.length<=1000000)(hnn:(nmdL fs).length<=1000000000000) :
  Calls prog 153 #[.agg #[pv,fv],pV s] w fun e w'=>(∃sp gi gr ub U vs,e= .returned (.pointer (some ⟨sp,0,none⟩))/\w.heap.size<=sp/\StAt w' w.heap.size sp gi gr ub ps.length pv fv s (inN fs s ps.length 0) (outN fs s ps.length 0) U vs/\UsTo fs ps.length fs.length [] U)/\Below w.heap.size w w':=by
 have H0:=h! h;obtain⟨ap,cp,af,cf,e1,e2,-,-,-,-,-⟩:=h.rows;have O:=h! hnm;have aa:=h! hfm;have a9:=h! hnn;have aj:=makeI ps.length (by omega);have ab:=makeB ps.length (by omega);have ag:=makeS ps.length (by omega);clear h hnm hfm hnn;generalize hn:ps.length=n at *;unfold pV;obtain⟨wa,B⟩:=e! (w.alloc (.cells #[pv,fv] 96));obtain⟨wb,E⟩:=e! (wa.alloc (.cells #[.string s.t,.string s.i,.string s.r] 33));obtain⟨wc,G⟩:=e! (wb.alloc (.cells #[.int .i64 (n:Int)] 3));have ea:wa.heap.size=w.heap.size+1:=by rw[B];simp
 have eb:wb.heap.size=w.heap.size+1+1:=by rw[E];simp[ea]
 have ec:wc.heap.size=w.heap.size+1+1+1:=by rw[G];simp[eb]
 have xa:Ext w wa:=xa! B
 have xb:Ext wa wb:=xa! E
 have xc:Ext wb wc:=xa! G
 have XC:Hid (Ext w wc):=h! (xa.trans (xb.trans xc));have BG:=h! (show Blk wc w.heap.size #[pv,fv] 96 from Blk.below (bm! B) (xb.trans xc));have BS:=h! (show Blk wc (w.heap.size+1) #[.string s.t,.string s.i,.string s.r] 33 from Blk.below (by rw[E,<-ea];exact Blk.made _ _ _) xc);have BN:=h! (show Blk wc (w.heap.size+1+1) #[.int .i64 (n:Int)] 3 from by rw[G,<-eb];exact Blk.made _ _ _);have EC:=h! ec;have hA:=(show Blk wb w.heap.size #[pv,fv] 96 from Blk.below (bm! B) xb).cells;clear ea eb ec xa xb xc;rw[E,B]at hA;subst e1 e2;go_enter func153,ntmps153
 go_wp2_with fail
 rw[<-B,<-E,<-G];clear hA B E G;obtain⟨lo,v⟩:∃y,Hid (y=w.heap.size):=⟨_,h! rfl⟩;obtain⟨pv,a0⟩:∃y,Hid (y=Value.slice ap n cp):=⟨_,h! rfl⟩;obtain⟨fv,a6⟩:∃y,Hid (y=Value.slice af fs.length cf):=⟨_,h! rfl⟩;obtain⟨wd,N⟩:∃wd,Hid (wd=wc.drew):=⟨_,h! rfl⟩;have z:=h! (show Ext wc wd from xd! N.out);have J:=h! (show lo<=wd.heap.size from by rw[v.out];exact n6! XC.out.size z.out.size);apply Code.wp_mono (Q:=J5 (fun(g3 g5 g7 g9 l:Nat) W=>StE0 lo n pv fv s wd W g3 g5 g7 g9 l) _) ?rest ?reg
 case reg =>
  have hE:Ext wd wd:=Ext.refl wd;refine al! (Ext wd) (by rw[<-N.out];exact Ext.refl _) (by kernel_rfl) (by kernel_rfl) (fun _ _ d _ _ h=>by cases h.1) ?_;rw[<-N.out];have h1:=fun W (h:Ext wd W)=>(BG.out.below (z.out.trans h)).cells;have h2:=fun W (h:Ext wd W)=>(BS.out.below (z.out.trans h)).cells;have h3:=fun W (h:Ext wd W)=>(BN.out.below (z.out.trans h)).cells;rw[<-a0.out,<-a6.out]at h1;(refine WalkN.tk [0,1,2,4,6] ?_;(iterate 5 (refine c! ?_));refine TkN.n ?_)
  clear h1 h2 h3;have N3:=h! (fun W (hE:Ext wd W)=>ip! n O.out J.out hE 4 (.bool false));have N5:=h! (fun W (hE:Ext wd W)=>ip! n O.out J.out hE 3 (.int .i64 0));have N7:=h! (fun W (hE:Ext wd W)=>ip! n O.out J.out hE 107 (.slice none 0 0));have q:=h! (fun W (hE:Ext wd W)=>kM! hE #[.pointer none] 254);have N9:=h! (fun g3 g5 g7 W (hE:Ext wd W)=>kM! hE #[pv,fv,.string s.t,.string s.i,.string s.r,.slice (some ⟨g3,0,none⟩) n n,.slice (some ⟨g5,0,none⟩) n n,.slice (some ⟨g7,0,none⟩) n n] 259);refine WalkN.four 3 5 7 10 (by kernel_rfl) ?_ ?_ ?_ ?_;refine b! ?_;intro K hK;go_simp;obtain⟨g3,u1,e1,e2,hx,hE,H3⟩:=N3.out _ hE;rw[e2,e1];refine hK.out _ _ hE ?_;clear hK e1 e2;clear hx;refine WalkN.three 5 7 10 (by kernel_rfl) ?_ ?_ ?_;refine b! ?_;intro K hK;go_simp;obtain⟨g5,u2,e1,e2,hx,hE,H5⟩:=N5.out _ hE;rw[e2,e1];refine hK.out _ _ hE ?_;clear hK e1 e2;have H3:=H3.below hx;clear hx;refine p! 7 10 ?_ ?_;refine b! ?_;intro K hK;go_simp;obtain⟨g7,u3,e1,e2,hx,hE,H7⟩:=N7.out _ hE;rw[e2,e1];refine hK.out _ _ hE ?_;clear hK e1 e2;have H3:=H3.below hx;have H5:=H5.below hx;clear hx;refine t! 8 ?_
  refine p! 9 10 ?_ ?_;refine b! ?_;intro K hK;go_simp;obtain⟨g9,u4,e1,e2,hx,hE,j,H9⟩:=N9.out g3 g5 g7 _ hE;rw[e2,e1];refine hK.out _ _ hE ?_;clear hK e1 e2;have H3:=H3.below hx;have H5:=H5.below hx;have H7:=H7.below hx;clear hx;refine ob! 10 ?_;intro K hK;go_simp;obtain⟨l,u5,e1,e2,hx,hE,f,a⟩:=q.out _ hE;rw[e2,e1];refine hK.out _ _ hE ?_;clear hK e1 e2;have H3:=H3.below hx;have H5:=H5.below hx;have H7:=H7.below hx;have H9:=H9.below hx;clear hx;rotate_left
  refine b! ?_;intro K hK;go_simp;obtain⟨l,u4,e1,e2,hx,hE,f,a⟩:=q.out _ hE;rw[e2,e1];refine hK.out _ _ hE ?_;clear hK e1 e2;have H3:=H3.below hx;have H5:=H5.below hx;have H7:=H7.below hx;clear hx;refine ob! 9 ?_;intro K hK;go_simp;obtain⟨g9,u5,e1,e2,hx,hE,j,H9⟩:=N9.out g3 g5 g7 _ hE;rw[e2,e1];refine hK.out _ _ hE ?_;clear hK e1 e2;have H3:=H3.below hx;have H5:=H5.below hx;have H7:=H7.below hx;have a:=a.below hx;clear hx;rotate_left
  refine b! ?_;intro K hK;go_simp;obtain⟨l,u3,e1,e2,hx,hE,f,a⟩:=q.out _ hE;rw[e2,e1];refine hK.out _ _ hE ?_;clear hK e1 e2;have H3:=H3.below hx;have H5:=H5.below hx;clear hx;refine ob! 7 ?_;intro K hK;go_simp;obtain⟨g7,u4,e1,e2,hx,hE,H7⟩:=N7.out _ hE;rw[e2,e1];refine hK.out _ _ hE ?_;clear hK e1 e2;have H3:=H3.below hx;have H5:=H5.below hx;have a:=a.below hx;clear hx;refine t! 8 ?_
  refine ob! 9 ?_;intro K hK;go_simp;obtain⟨g9,u5,e1,e2,hx,hE,j,H9⟩:=N9.out g3 g5 g7 _ hE;rw[e2,e1];refine hK.out _ _ hE ?_;clear hK e1 e2;have H3:=H3.below hx;have H5:=H5.below hx;have H7:=H7.below hx;have a:=a.below hx;clear hx;rotate_left
  refine b! ?_;intro K hK;go_simp;obtain⟨g7,u2,e1,e2,hx,hE,H7⟩:=N7.out _ hE;rw[e2,e1];refine hK.out _ _ hE ?_;clear hK e1 e2;have H3:=H3.below hx;clear hx;refine p! 5 10 ?_ ?_;refine b! ?_;intro K hK;go_simp;obtain⟨g5,u3,e1,e2,hx,hE,H5⟩:=N5.out _ hE;rw[e2,e1];refine hK.out _ _ hE ?_;clear hK e1 e2;have H3:=H3.below hx;have H7:=H7.below hx;clear hx;refine t! 8 ?_
  refine p! 9 10 ?_ ?_;refine b! ?_;intro K hK;go_simp;obtain⟨g9,u4,e1,e2,hx,hE,j,H9⟩:=N9.out g3 g5 g7 _ hE;rw[e2,e1];refine hK.out _ _ hE ?_;clear hK e1 e2;have H3:=H3.below hx;have H5:=H5.below hx;have H7:=H7.below hx;clear hx;refine ob! 10 ?_;intro K hK;go_simp;obtain⟨l,u5,e1,e2,hx,hE,f,a⟩:=q.out _ hE;rw[e2,e1];refine hK.out _ _ hE ?_;clear hK e1 e2;have H3:=H3.below hx;have H5:=H5.below hx;have H7:=H7.below hx;have H9:=H9.below hx;clear hx;rotate_left
  refine b! ?_;intro K hK;go_simp;obtain⟨l,u4,e1,e2,hx,hE,f,a⟩:=q.out _ hE;rw[e2,e1];refine hK.out _ _ hE ?_;clear hK e1 e2;have H3:=H3.below hx;have H5:=H5.below hx;have H7:=H7.below hx;clear hx;refine ob! 9 ?_;intro K hK;go_simp;obtain⟨g9,u5,e1,e2,hx,hE,j,H9⟩:=N9.out g3 g5 g7 _ hE;rw[e2,e1];refine hK.out _ _ hE ?_;clear hK e1 e2;have H3:=H3.below hx;have H5:=H5.below hx;have H7:=H7.below hx;have a:=a.below hx;clear hx;rotate_left
  refine b! ?_;intro K hK;go_simp;obtain⟨l,u3,e1,e2,hx,hE,f,a⟩:=q.out _ hE;rw[e2,e1];refine hK.out _ _ hE ?_;clear hK e1 e2;have H3:=H3.below hx;have H7:=H7.below hx;clear hx;refine ob! 5 ?_;intro K hK;go_simp;obtain⟨g5,u4,e1,e2,hx,hE,H5⟩:=N5.out _ hE;rw[e2,e1];refine hK.out _ _ hE ?_;clear hK e1 e2;have H3:=H3.below hx;have H7:=H7.below hx;have a:=a.below hx;clear hx;refine t! 8 ?_
  refine ob! 9 ?_;intro K hK;go_simp;obtain⟨g9,u5,e1,e2,hx,hE,j,H9⟩:=N9.out g3 g5 g7 _ hE;rw[e2,e1];refine hK.out _ _ hE ?_;clear hK e1 e2;have H3:=H3.below hx;have H5:=H5.below hx;have H7:=H7.below hx;have a:=a.below hx;clear hx;rotate_left
  refine b! ?_;intro K hK;go_simp;obtain⟨l,u2,e1,e2,hx,hE,f,a⟩:=q.out _ hE;rw[e2,e1];refine hK.out _ _ hE ?_;clear hK e1 e2;have H3:=H3.below hx;clear hx;refine p! 5 7 ?_ ?_;refine b! ?_;intro K hK;go_simp;obtain⟨g5,u3,e1,e2,hx,hE,H5⟩:=N5.out _ hE;rw[e2,e1];refine hK.out _ _ hE ?_;clear hK e1 e2;have H3:=H3.below hx;have a:=a.below hx;clear hx;refine ob! 7 ?_;intro K hK;go_simp;obtain⟨g7,u4,e1,e2,hx,hE,H7⟩:=N7.out _ hE;rw[e2,e1];refine hK.out _ _ hE ?_;clear hK e1 e2;have H3:=H3.below hx;have H5:=H5.below hx;have a:=a.below hx;clear hx;refine t! 8 ?_
  refine ob! 9 ?_;intro K hK;go_simp;obtain⟨g9,u5,e1,e2,hx,hE,j,H9⟩:=N9.out g3 g5 g7 _ hE;rw[e2,e1];refine hK.out _ _ hE ?_;clear hK e1 e2;have H3:=H3.below hx;have H5:=H5.below hx;have H7:=H7.below hx;have a:=a.below hx;clear hx;rotate_left
  refine b! ?_;intro K hK;go_simp;obtain⟨g7,u3,e1,e2,hx,hE,H7⟩:=N7.out _ hE;rw[e2,e1];refine hK.out _ _ hE ?_;clear hK e1 e2;have H3:=H3.below hx;have a:=a.below hx;clear hx;refine ob! 5 ?_;intro K hK;go_simp;obtain⟨g5,u4,e1,e2,hx,hE,H5⟩:=N5.out _ hE;rw[e2,e1];refine hK.out _ _ hE ?_;clear hK e1 e2;have H3:=H3.below hx;have H7:=H7.below hx;have a:=a.below hx;clear hx;refine t! 8 ?_
  refine ob! 9 ?_;intro K hK;go_simp;obtain⟨g9,u5,e1,e2,hx,hE,j,H9⟩:=N9.out g3 g5 g7 _ hE;rw[e2,e1];refine hK.out _ _ hE ?_;clear hK e1 e2;have H3:=H3.below hx;have H5:=H5.below hx;have H7:=H7.below hx;have a:=a.below hx;clear hx;rotate_left
  refine b! ?_;intro K hK;go_simp;obtain⟨g5,u1,e1,e2,hx,hE,H5⟩:=N5.out _ hE;rw[e2,e1];refine hK.out _ _ hE ?_;clear hK e1 e2;clear hx;refine WalkN.three 3 7 10 (by kernel_rfl) ?_ ?_ ?_;refine b! ?_;intro K hK;go_simp;obtain⟨g3,u2,e1,e2,hx,hE,H3⟩:=N3.out _ hE;rw[e2,e1];refine hK.out _ _ hE ?_;clear hK e1 e2;have H5:=H5.below hx;clear hx;refine p! 7 10 ?_ ?_;refine b! ?_;intro K hK;go_simp;obtain⟨g7,u3,e1,e2,hx,hE,H7⟩:=N7.out _ hE;rw[e2,e1];refine hK.out _ _ hE ?_;clear hK e1 e2;have H3:=H3.below hx;have H5:=H5.below hx;clear hx;refine t! 8 ?_
  refine p! 9 10 ?_ ?_;refine b! ?_;intro K hK;go_simp;obtain⟨g9,u4,e1,e2,hx,hE,j,H9⟩:=N9.out g3 g5 g7 _ hE;rw[e2,e1];refine hK.out _ _ hE ?_;clear hK e1 e2;have H3:=H3.below hx;have H5:=H5.below hx;have H7:=H7.below hx;clear hx;refine ob! 10 ?_;intro K hK;go_simp;obtain⟨l,u5,e1,e2,hx,hE,f,a⟩:=q.out _ hE;rw[e2,e1];refine hK.out _ _ hE ?_;clear hK e1 e2;have H3:=H3.below hx;have H5:=H5.below hx;have H7:=H7.below hx;have H9:=H9.below hx;clear hx;rotate_left
  refine b! ?_;intro K hK;go_simp;obtain⟨l,u4,e1,e2,hx,hE,f,a⟩:=q.out _ hE;rw[e2,e1];refine hK.out _ _ hE ?_;clear hK e1 e2;have H3:=H3.below hx;have H5:=H5.below hx;have H7:=H7.below hx;clear hx;refine ob! 9 ?_;intro K hK;go_simp;obtain⟨g9,u5,e1,e2,hx,hE,j,H9⟩:=N9.out g3 g5 g7 _ hE;rw[e2,e1];refine hK.out _ _ hE ?_;clear hK e1 e2;have H3:=H3.below hx;have H5:=H5.below hx;have H7:=H7.below hx;have a:=a.below hx;clear hx;rotate_left
  refine b! ?_;intro K hK;go_simp;obtain⟨l,u3,e1,e2,hx,hE,f,a⟩:=q.out _ hE;rw[e2,e1];refine hK.out _ _ hE ?_;clear hK e1 e2;have H3:=H3.below hx;have H5:=H5.below hx;clear hx;refine ob! 7 ?_;intro K hK;go_simp;obtain⟨g7,u4,e1,e2,hx,hE,H7⟩:=N7.out _ hE;rw[e2,e1];refine hK.out _ _ hE ?_;clear hK e1 e2;have H3:=H3.below hx;have H5:=H5.below hx;have a:=a.below hx;clear hx;refine t! 8 ?_
  refine ob! 9 ?_;intro K hK;go_simp;obtain⟨g9,u5,e1,e2,hx,hE,j,H9⟩:=N9.out g3 g5 g7 _ hE;rw[e2,e1];refine hK.out _ _ hE ?_;clear hK e1 e2;have H3:=H3.below hx;have H5:=H5.below hx;have H7:=H7.below hx;have a:=a.below hx;clear hx;rotate_left
  refine b! ?_;intro K hK;go_simp;obtain⟨g7,u2,e1,e2,hx,hE,H7⟩:=N7.out _ hE;rw[e2,e1];refine hK.out _ _ hE ?_;clear hK e1 e2;have H5:=H5.below hx;clear hx;refine p! 3 10 ?_ ?_;refine b! ?_;intro K hK;go_simp;obtain⟨g3,u3,e1,e2,hx,hE,H3⟩:=N3.out _ hE;rw[e2,e1];refine hK.out _ _ hE ?_;clear hK e1 e2;have H5:=H5.below hx;have H7:=H7.below hx;clear hx;refine t! 8 ?_
  refine p! 9 10 ?_ ?_;refine b! ?_;intro K hK;go_simp;obtain⟨g9,u4,e1,e2,hx,hE,j,H9⟩:=N9.out g3 g5 g7 _ hE;rw[e2,e1];refine hK.out _ _ hE ?_;clear hK e1 e2;have H3:=H3.below hx;have H5:=H5.below hx;have H7:=H7.below hx;clear hx;refine ob! 10 ?_;intro K hK;go_simp;obtain⟨l,u5,e1,e2,hx,hE,f,a⟩:=q.out _ hE;rw[e2,e1];refine hK.out _ _ hE ?_;clear hK e1 e2;have H3:=H3.below hx;have H5:=H5.below hx;have H7:=H7.below hx;have H9:=H9.below hx;clear hx;rotate_left
  refine b! ?_;intro K hK;go_simp;obtain⟨l,u4,e1,e2,hx,hE,f,a⟩:=q.out _ hE;rw[e2,e1];refine hK.out _ _ hE ?_;clear hK e1 e2;have H3:=H3.below hx;have H5:=H5.below hx;have H7:=H7.below hx;clear hx;refine ob! 9 ?_;intro K hK;go_simp;obtain⟨g9,u5,e1,e2,hx,hE,j,H9⟩:=N9.out g3 g5 g7 _ hE;rw[e2,e1];refine hK.out _ _ hE ?_;clear hK e1 e2;have H3:=H3.below hx;have H5:=H5.below hx;have H7:=H7.below hx;have a:=a.below hx;clear hx;rotate_left
  refine b! ?_;intro K hK;go_simp;obtain⟨l,u3,e1,e2,hx,hE,f,a⟩:=q.out _ hE;rw[e2,e1];refine hK.out _ _ hE ?_;clear hK e1 e2;have H5:=H5.below hx;have H7:=H7.below hx;clear hx;refine ob! 3 ?_;intro K hK;go_simp;obtain⟨g3,u4,e1,e2,hx,hE,H3⟩:=N3.out _ hE;rw[e2,e1];refine hK.out _ _ hE ?_;clear hK e1 e2;have H5:=H5.below hx;have H7:=H7.below hx;have a:=a.below hx;clear hx;refine t! 8 ?_
  refine ob! 9 ?_;intro K hK;go_simp;obtain⟨g9,u5,e1,e2,hx,hE,j,H9⟩:=N9.out g3 g5 g7 _ hE;rw[e2,e1];refine hK.out _ _ hE ?_;clear hK e1 e2;have H3:=H3.below hx;have H5:=H5.below hx;have H7:=H7.below hx;have a:=a.below hx;clear hx;rotate_left
  refine b! ?_;intro K hK;go_simp;obtain⟨l,u2,e1,e2,hx,hE,f,a⟩:=q.out _ hE;rw[e2,e1];refine hK.out _ _ hE ?_;clear hK e1 e2;have H5:=H5.below hx;clear hx;refine p! 3 7 ?_ ?_;refine b! ?_;intro K hK;go_simp;obtain⟨g3,u3,e1,e2,hx,hE,H3⟩:=N3.out _ hE;rw[e2,e1];refine hK.out _ _ hE ?_;clear hK e1 e2;have H5:=H5.below hx;have a:=a.below hx;clear hx;refine ob! 7 ?_;intro K hK;go_simp;obtain⟨g7,u4,e1,e2,hx,hE,H7⟩:=N7.out _ hE;rw[e2,e1];refine hK.out _ _ hE ?_;clear hK e1 e2;have H3:=H3.below hx;have H5:=H5.below hx;have a:=a.below hx;clear hx;refine t! 8 ?_
  refine ob! 9 ?_;intro K hK;go_simp;obtain⟨g9,u5,e1,e2,hx,hE,j,H9⟩:=N9.out g3 g5 g7 _ hE;rw[e2,e1];refine hK.out _ _ hE ?_;clear hK e1 e2;have H3:=H3.below hx;have H5:=H5.below hx;have H7:=H7.below hx;have a:=a.below hx;clear hx;rotate_left
  refine b! ?_;intro K hK;go_simp;obtain⟨g7,u3,e1,e2,hx,hE,H7⟩:=N7.out _ hE;rw[e2,e1];refine hK.out _ _ hE ?_;clear hK e1 e2;have H5:=H5.below hx;have a:=a.below hx;clear hx;refine ob! 3 ?_;intro K hK;go_simp;obtain⟨g3,u4,e1,e2,hx,hE,H3⟩:=N3.out _ hE;rw[e2,e1];refine hK.out _ _ hE ?_;clear hK e1 e2;have H5:=H5.below hx;have H7:=H7.below hx;have a:=a.below hx;clear hx;refine t! 8 ?_
  refine ob! 9 ?_;intro K hK;go_simp;obtain⟨g9,u5,e1,e2,hx,hE,j,H9⟩:=N9.out g3 g5 g7 _ hE;rw[e2,e1];refine hK.out _ _ hE ?_;clear hK e1 e2;have H3:=H3.below hx;have H5:=H5.below hx;have H7:=H7.below hx;have a:=a.below hx;clear hx;rotate_left
  refine b! ?_;intro K hK;go_simp;obtain⟨g7,u1,e1,e2,hx,hE,H7⟩:=N7.out _ hE;rw[e2,e1];refine hK.out _ _ hE ?_;clear hK e1 e2;clear hx;refine WalkN.three 3 5 10 (by kernel_rfl) ?_ ?_ ?_;refine b! ?_;intro K hK;go_simp;obtain⟨g3,u2,e1,e2,hx,hE,H3⟩:=N3.out _ hE;rw[e2,e1];refine hK.out _ _ hE ?_;clear hK e1 e2;have H7:=H7.below hx;clear hx;refine p! 5 10 ?_ ?_;refine b! ?_;intro K hK;go_simp;obtain⟨g5,u3,e1,e2,hx,hE,H5⟩:=N5.out _ hE;rw[e2,e1];refine hK.out _ _ hE ?_;clear hK e1 e2;have H3:=H3.below hx;have H7:=H7.below hx;clear hx;refine t! 8 ?_
  refine p! 9 10 ?_ ?_;refine b! ?_;intro K hK;go_simp;obtain⟨g9,u4,e1,e2,hx,hE,j,H9⟩:=N9.out g3 g5 g7 _ hE;rw[e2,e1];refine hK.out _ _ hE ?_;clear hK e1 e2;have H3:=H3.below hx;have H5:=H5.below hx;have H7:=H7.below hx;clear hx;refine ob! 10 ?_;intro K hK;go_simp;obtain⟨l,u5,e1,e2,hx,hE,f,a⟩:=q.out _ hE;rw[e2,e1];refine hK.out _ _ hE ?_;clear hK e1 e2;have H3:=H3.below hx;have H5:=H5.below hx;have H7:=H7.below hx;have H9:=H9.below hx;clear hx;rotate_left
  refine b! ?_;intro K hK;go_simp;obtain⟨l,u4,e1,e2,hx,hE,f,a⟩:=q.out _ hE;rw[e2,e1];refine hK.out _ _ hE ?_;clear hK e1 e2;have H3:=H3.below hx;have H5:=H5.below hx;have H7:=H7.below hx;clear hx;refine ob! 9 ?_;intro K hK;go_simp;obtain⟨g9,u5,e1,e2,hx,hE,j,H9⟩:=N9.out g3 g5 g7 _ hE;rw[e2,e1];refine hK.out _ _ hE ?_;clear hK e1 e2;have H3:=H3.below hx;have H5:=H5.below hx;have H7:=H7.below hx;have a:=a.below hx;clear hx;rotate_left
  refine b! ?_;intro K hK;go_simp;obtain⟨l,u3,e1,e2,hx,hE,f,a⟩:=q.out _ hE;rw[e2,e1];refine hK.out _ _ hE ?_;clear hK e1 e2;have H3:=H3.below hx;have H7:=H7.below hx;clear hx;refine ob! 5 ?_;intro K hK;go_simp;obtain⟨g5,u4,e1,e2,hx,hE,H5⟩:=N5.out _ hE;rw[e2,e1];refine hK.out _ _ hE ?_;clear hK e1 e2;have H3:=H3.below hx;have H7:=H7.below hx;have a:=a.below hx;clear hx;refine t! 8 ?_
  refine ob! 9 ?_;intro K hK;go_simp;obtain⟨g9,u5,e1,e2,hx,hE,j,H9⟩:=N9.out g3 g5 g7 _ hE;rw[e2,e1];refine hK.out _ _ hE ?_;clear hK e1 e2;have H3:=H3.below hx;have H5:=H5.below hx;have H7:=H7.below hx;have a:=a.below hx;clear hx;rotate_left
  refine b! ?_;intro K hK;go_simp;obtain⟨g5,u2,e1,e2,hx,hE,H5⟩:=N5.out _ hE;rw[e2,e1];refine hK.out _ _ hE ?_;clear hK e1 e2;have H7:=H7.below hx;clear hx;refine p! 3 10 ?_ ?_;refine b! ?_;intro K hK;go_simp;obtain⟨g3,u3,e1,e2,hx,hE,H3⟩:=N3.out _ hE;rw[e2,e1];refine hK.out _ _ hE ?_;clear hK e1 e2;have H5:=H5.below hx;have H7:=H7.below hx;clear hx;refine t! 8 ?_
  refine p! 9 10 ?_ ?_;refine b! ?_;intro K hK;go_simp;obtain⟨g9,u4,e1,e2,hx,hE,j,H9⟩:=N9.out g3 g5 g7 _ hE;rw[e2,e1];refine hK.out _ _ hE ?_;clear hK e1 e2;have H3:=H3.below hx;have H5:=H5.below hx;have H7:=H7.below hx;clear hx;refine ob! 10 ?_;intro K hK;go_simp;obtain⟨l,u5,e1,e2,hx,hE,f,a⟩:=q.out _ hE;rw[e2,e1];refine hK.out _ _ hE ?_;clear hK e1 e2;have H3:=H3.below hx;have H5:=H5.below hx;have H7:=H7.below hx;have H9:=H9.below hx;clear hx;rotate_left
  refine b! ?_;intro K hK;go_simp;obtain⟨l,u4,e1,e2,hx,hE,f,a⟩:=q.out _ hE;rw[e2,e1];refine hK.out _ _ hE ?_;clear hK e1 e2;have H3:=H3.below hx;have H5:=H5.below hx;have H7:=H7.below hx;clear hx;refine ob! 9 ?_;intro K hK;go_simp;obtain⟨g9,u5,e1,e2,hx,hE,j,H9⟩:=N9.out g3 g5 g7 _ hE;rw[e2,e1];refine hK.out _ _ hE ?_;clear hK e1 e2;have H3:=H3.below hx;have H5:=H5.below hx;have H7:=H7.below hx;have a:=a.below hx;clear hx;rotate_left
  refine b! ?_;intro K hK;go_simp;obtain⟨l,u3,e1,e2,hx,hE,f,a⟩:=q.out _ hE;rw[e2,e1];refine hK.out _ _ hE ?_;clear hK e1 e2;have H5:=H5.below hx;have H7:=H7.below hx;clear hx;refine ob! 3 ?_;intro K hK;go_simp;obtain⟨g3,u4,e1,e2,hx,hE,H3⟩:=N3.out _ hE;rw[e2,e1];refine hK.out _ _ hE ?_;clear hK e1 e2;have H5:=H5.below hx;have H7:=H7.below hx;have a:=a.below hx;clear hx;refine t! 8 ?_
  refine ob! 9 ?_;intro K hK;go_simp;obtain⟨g9,u5,e1,e2,hx,hE,j,H9⟩:=N9.out g3 g5 g7 _ hE;rw[e2,e1];refine hK.out _ _ hE ?_;clear hK e1 e2;have H3:=H3.below hx;have H5:=H5.below hx;have H7:=H7.below hx;have a:=a.below hx;clear hx;rotate_left
  refine b! ?_;intro K hK;go_simp;obtain⟨l,u2,e1,e2,hx,hE,f,a⟩:=q.out _ hE;rw[e2,e1];refine hK.out _ _ hE ?_;clear hK e1 e2;have H7:=H7.below hx;clear hx;refine p! 3 5 ?_ ?_;refine b! ?_;intro K hK;go_simp;obtain⟨g3,u3,e1,e2,hx,hE,H3⟩:=N3.out _ hE;rw[e2,e1];refine hK.out _ _ hE ?_;clear hK e1 e2;have H7:=H7.below hx;have a:=a.below hx;clear hx;refine ob! 5 ?_;intro K hK;go_simp;obtain⟨g5,u4,e1,e2,hx,hE,H5⟩:=N5.out _ hE;rw[e2,e1];refine hK.out _ _ hE ?_;clear hK e1 e2;have H3:=H3.below hx;have H7:=H7.below hx;have a:=a.below hx;clear hx;refine t! 8 ?_
  refine ob! 9 ?_;intro K hK;go_simp;obtain⟨g9,u5,e1,e2,hx,hE,j,H9⟩:=N9.out g3 g5 g7 _ hE;rw[e2,e1];refine hK.out _ _ hE ?_;clear hK e1 e2;have H3:=H3.below hx;have H5:=H5.below hx;have H7:=H7.below hx;have a:=a.below hx;clear hx;rotate_left
  refine b! ?_;intro K hK;go_simp;obtain⟨g5,u3,e1,e2,hx,hE,H5⟩:=N5.out _ hE;rw[e2,e1];refine hK.out _ _ hE ?_;clear hK e1 e2;have H7:=H7.below hx;have a:=a.below hx;clear hx;refine ob! 3 ?_;intro K hK;go_simp;obtain⟨g3,u4,e1,e2,hx,hE,H3⟩:=N3.out _ hE;rw[e2,e1];refine hK.out _ _ hE ?_;clear hK e1 e2;have H5:=H5.below hx;have H7:=H7.below hx;have a:=a.below hx;clear hx;refine t! 8 ?_
  refine ob! 9 ?_;intro K hK;go_simp;obtain⟨g9,u5,e1,e2,hx,hE,j,H9⟩:=N9.out g3 g5 g7 _ hE;rw[e2,e1];refine hK.out _ _ hE ?_;clear hK e1 e2;have H3:=H3.below hx;have H5:=H5.below hx;have H7:=H7.below hx;have a:=a.below hx;clear hx;rotate_left
  refine b! ?_;intro K hK;go_simp;obtain⟨l,u1,e1,e2,hx,hE,f,a⟩:=q.out _ hE;rw[e2,e1];refine hK.out _ _ hE ?_;clear hK e1 e2;clear hx;refine WalkN.three 3 5 7 (by kernel_rfl) ?_ ?_ ?_;refine b! ?_;intro K hK;go_simp;obtain⟨g3,u2,e1,e2,hx,hE,H3⟩:=N3.out _ hE;rw[e2,e1];refine hK.out _ _ hE ?_;clear hK e1 e2;have a:=a.below hx;clear hx;refine p! 5 7 ?_ ?_;refine b! ?_;intro K hK;go_simp;obtain⟨g5,u3,e1,e2,hx,hE,H5⟩:=N5.out _ hE;rw[e2,e1];refine hK.out _ _ hE ?_;clear hK e1 e2;have H3:=H3.below hx;have a:=a.below hx;clear hx;refine ob! 7 ?_;intro K hK;go_simp;obtain⟨g7,u4,e1,e2,hx,hE,H7⟩:=N7.out _ hE;rw[e2,e1];refine hK.out _ _ hE ?_;clear hK e1 e2;have H3:=H3.below hx;have H5:=H5.below hx;have a:=a.below hx;clear hx;refine t! 8 ?_
  refine ob! 9 ?_;intro K hK;go_simp;obtain⟨g9,u5,e1,e2,hx,hE,j,H9⟩:=N9.out g3 g5 g7 _ hE;rw[e2,e1];refine hK.out _ _ hE ?_;clear hK e1 e2;have H3:=H3.below hx;have H5:=H5.below hx;have H7:=H7.below hx;have a:=a.below hx;clear hx;rotate_left
  refine b! ?_;intro K hK;go_simp;obtain⟨g7,u3,e1,e2,hx,hE,H7⟩:=N7.out _ hE;rw[e2,e1];refine hK.out _ _ hE ?_;clear hK e1 e2;have H3:=H3.below hx;have a:=a.below hx;clear hx;refine ob! 5 ?_;intro K hK;go_simp;obtain⟨g5,u4,e1,e2,hx,hE,H5⟩:=N5.out _ hE;rw[e2,e1];refine hK.out _ _ hE ?_;clear hK e1 e2;have H3:=H3.below hx;have H7:=H7.below hx;have a:=a.below hx;clear hx;refine t! 8 ?_
  refine ob! 9 ?_;intro K hK;go_simp;obtain⟨g9,u5,e1,e2,hx,hE,j,H9⟩:=N9.out g3 g5 g7 _ hE;rw[e2,e1];refine hK.out _ _ hE ?_;clear hK e1 e2;have H3:=H3.below hx;have H5:=H5.below hx;have H7:=H7.below hx;have a:=a.below hx;clear hx;rotate_left
  refine b! ?_;intro K hK;go_simp;obtain⟨g5,u2,e1,e2,hx,hE,H5⟩:=N5.out _ hE;rw[e2,e1];refine hK.out _ _ hE ?_;clear hK e1 e2;have a:=a.below hx;clear hx;refine p! 3 7 ?_ ?_;refine b! ?_;intro K hK;go_simp;obtain⟨g3,u3,e1,e2,hx,hE,H3⟩:=N3.out _ hE;rw[e2,e1];refine hK.out _ _ hE ?_;clear hK e1 e2;have H5:=H5.below hx;have a:=a.below hx;clear hx;refine ob! 7 ?_;intro K hK;go_simp;obtain⟨g7,u4,e1,e2,hx,hE,H7⟩:=N7.out _ hE;rw[e2,e1];refine hK.out _ _ hE ?_;clear hK e1 e2;have H3:=H3.below hx;have H5:=H5.below hx;have a:=a.below hx;clear hx;refine t! 8 ?_
  refine ob! 9 ?_;intro K hK;go_simp;obtain⟨g9,u5,e1,e2,hx,hE,j,H9⟩:=N9.out g3 g5 g7 _ hE;rw[e2,e1];refine hK.out _ _ hE ?_;clear hK e1 e2;have H3:=H3.below hx;have H5:=H5.below hx;have H7:=H7.below hx;have a:=a.below hx;clear hx;rotate_left
  refine b! ?_;intro K hK;go_simp;obtain⟨g7,u3,e1,e2,hx,hE,H7⟩:=N7.out _ hE;rw[e2,e1];refine hK.out _ _ hE ?_;clear hK e1 e2;have H5:=H5.below hx;have a:=a.below hx;clear hx;refine ob! 3 ?_;intro K hK;go_simp;obtain⟨g3,u4,e1,e2,hx,hE,H3⟩:=N3.out _ hE;rw[e2,e1];refine hK.out _ _ hE ?_;clear hK e1 e2;have H5:=H5.below hx;have H7:=H7.below hx;have a:=a.below hx;clear hx;refine t! 8 ?_
  refine ob! 9 ?_;intro K hK;go_simp;obtain⟨g9,u5,e1,e2,hx,hE,j,H9⟩:=N9.out g3 g5 g7 _ hE;rw[e2,e1];refine hK.out _ _ hE ?_;clear hK e1 e2;have H3:=H3.below hx;have H5:=H5.below hx;have H7:=H7.below hx;have a:=a.below hx;clear hx;rotate_left
  refine b! ?_;intro K hK;go_simp;obtain⟨g7,u2,e1,e2,hx,hE,H7⟩:=N7.out _ hE;rw[e2,e1];refine hK.out _ _ hE ?_;clear hK e1 e2;have a:=a.below hx;clear hx;refine p! 3 5 ?_ ?_;refine b! ?_;intro K hK;go_simp;obtain⟨g3,u3,e1,e2,hx,hE,H3⟩:=N3.out _ hE;rw[e2,e1];refine hK.out _ _ hE ?_;clear hK e1 e2;have H7:=H7.below hx;have a:=a.below hx;clear hx;refine ob! 5 ?_;intro K hK;go_simp;obtain⟨g5,u4,e1,e2,hx,hE,H5⟩:=N5.out _ hE;rw[e2,e1];refine hK.out _ _ hE ?_;clear hK e1 e2;have H3:=H3.below hx;have H7:=H7.below hx;have a:=a.below hx;clear hx;refine t! 8 ?_
  refine ob! 9 ?_;intro K hK;go_simp;obtain⟨g9,u5,e1,e2,hx,hE,j,H9⟩:=N9.out g3 g5 g7 _ hE;rw[e2,e1];refine hK.out _ _ hE ?_;clear hK e1 e2;have H3:=H3.below hx;have H5:=H5.below hx;have H7:=H7.below hx;have a:=a.below hx;clear hx;rotate_left
  refine b! ?_;intro K hK;go_simp;obtain⟨g5,u3,e1,e2,hx,hE,H5⟩:=N5.out _ hE;rw[e2,e1];refine hK.out _ _ hE ?_;clear hK e1 e2;have H7:=H7.below hx;have a:=a.below hx;clear hx;refine ob! 3 ?_;intro K hK;go_simp;obtain⟨g3,u4,e1,e2,hx,hE,H3⟩:=N3.out _ hE;rw[e2,e1];refine hK.out _ _ hE ?_;clear hK e1 e2;have H5:=H5.below hx;have H7:=H7.below hx;have a:=a.below hx;clear hx;refine t! 8 ?_
  refine ob! 9 ?_;intro K hK;go_simp;obtain⟨g9,u5,e1,e2,hx,hE,j,H9⟩:=N9.out g3 g5 g7 _ hE;rw[e2,e1];refine hK.out _ _ hE ?_;clear hK e1 e2;have H3:=H3.below hx;have H5:=H5.below hx;have H7:=H7.below hx;have a:=a.below hx;clear hx;rotate_left
  all_goals
   refine o! 11 ?_;have V:=a.cells;have T:=a.free;refine b! ?_;intro K hK;go_simp;refine hK.out _ _ (St11 hE f _) ?_;clear hK V T;refine d! ?_;exact⟨rfl,g3,g5,g7,g9,l,rfl,StE hE f j H3 H5 H7 H9 a⟩
 rintro e _ W1 ⟨rfl,g3,g5,g7,g9,l,rfl,L⟩;dsimp only;have ST:=h! L;have X1:Hid (Ext wc W1):=h! (z.out.trans L.ext);have GB:=h! (BG.out.below X1.out);have NB:=h! (BN.out.below X1.out);have XW:Hid (Ext w W1):=h! (XC.out.trans X1.out);have hA:=GB.out.cells;have j:=h! (show w.heap.size<=g9 from by have:=L.low;have:=XC.out.size;have:=z.out.size;omega);have ac:=h! (show w.heap.size+1+1<W1.heap.size from by have:=X1.out.size;have:=EC.out;omega);clear aj ab ag L N z J XC BG BS BN;go_wp2_with fail
 clear hA;obtain⟨A,D⟩:∃A:Nat->Prop,Hid (A=fun b=>b=w.heap.size+1+1\/b=g5):=⟨_,h! rfl⟩
 have au:=h! (show ∀b,A b->b<W1.heap.size from fun b hb=>by
  rw[D.out]at hb;rcases hb with rfl | rfl
  ·exact ac.out
  ·exact(ST.out.rnd.block _ rfl).2)
 have ao:=h! (show ¬ A g7 from fun hb=>by
  rw[D.out]at hb;obtain⟨c1,h1⟩:=ST.out.use.typed (g:=g7) rfl;rcases hb with rfl | rfl
  ·rw[show W1.heap[_]?=_ from NB.out]at h1;injection h1 with h1
   injection h1 with _ h1 _
   exact absurd h1 (by decide)
  ·exact ST.out.rnd.apart ST.out.use (by decide) (g:=g7) rfl rfl)
 have RR:=h! (fun W (hW:UK lo A W1 W)=>show GrAt (· < lo) W ps fs (.slice ap n cp) (.slice af fs.length cf)from by
  have h1:=H0.out.same (w':=W1) (fun b hb=>XW.out.block b hb);rw[<-v.out]at h1;exact h1.same (hW.low (by rw[v.out];exact XW.out.size)))
 have RL:=h! (fun W (hW:UK lo A W1 W)=>show lo<=W.heap.size from by rw[v.out];exact n6! XW.out.size hW.size);have RN:=h! (fun W (hW:UK lo A W1 W)=>hW.blkA NB.out (by rw[D.out];exact .inl rfl));have RP:=h! (fun W (hW:UK lo A W1 W)=>hW.blk ST.out.ptr (by decide) (by decide));have RS:=h! (fun W (hW:UK lo A W1 W)=>hW.blk ST.out.box (by decide) (by decide));have RA:=h! (fun W (hW:UK lo A W1 W) b (hb:A b)=>n1! (au.out b hb) hW.size);have Y:=h! (UsAt.start A ST.out.use);go_loopw [25] (fun iv wr=>∃(i:Nat) (U:List (List Int)) (vs:List Value),i<=fs.length/\iv= .int .i64 i/\UsAt wr lo g7 n A U vs/\UsTo fs n i [] U/\UK lo A W1 wr) (fun iv _=>fs.length-(intOf iv).toNat)
 case atStart=>exact⟨0,_,_,v1! _,rfl,Y.out,UsTo.start fs n,UK.refl _ _ _⟩
 case round =>
  obtain⟨i,U,vs,hi,rfl,hu,ht,hk⟩:=hrel;have US:=h! hu;have UT:=h! ht;have RK:=h! hk;clear hu ht hk Y;by_cases hlt:i<fs.length
  ·have Z:=h! hlt;have aq:=h! (fun U'=>UsTo.next (n:=n) (U:=U') hlt)
   have a8:=h! (show(nmdL (fs.take i)).length+fs[i].named.length<=(nmdL fs).length from by
    have h1:nmdL fs=nmdL (fs.take (i+1))++nmdL (fs.drop (i+1)):=by rw[<-bl!,x6!]
    rw[h1,dS! hlt];simp only[u4!];omega)
   have a1:=h! (show wrap64 ((i:Int)+1)=((i+1:Nat):Int)from by have:=aa.out;unfold wrap64;omega);obtain⟨ax,aA,aw,az,e1,e2,-,-,-,-,H⟩:=(RR.out wr RK.out).rows;cases e2;obtain⟨p1,q1,u,rfl,an,k0,k1,k2,k3,hu⟩:=H i hlt;have ay:(i:Int)<(fs.length:Int):=by omega
   generalize fs[i]=x at *;obtain⟨l1,m1,l2,m2,l4,m4,rfl⟩:=hu.shape;have HF:=h! hu;dsimp only at k0 k1 k2 k3;clear hu an H e1 hlt;obtain⟨wq,I⟩:∃y,Hid (y=(wr.alloc (.cells #[.int .i64 (i:Int)] 3)).alloc (.cells #[.int .i64 x.k,.slice l1 x.subs.length m1,.slice l2 x.refs.length m2,.slice l4 x.ps.length m4] 128)):=⟨_,h! rfl⟩;have XQ:=h! (show Ext wr wq from by rw[I.out];exact(Ext.alloc _ _).trans (Ext.alloc _ _));have BI:=h! (show Blk wq wr.heap.size #[.int .i64 (i:Int)] 3 from by rw[I.out];exact(Blk.made _ _ _).below (Ext.alloc _ _));obtain⟨A',C⟩:∃A':Nat->Prop,Hid (A'=fun b=>A b\/b=wr.heap.size):=⟨_,h! rfl⟩;have a4:=h! (show ∀b,A b->A' b from fun b hb=>by rw[C.out];exact .inl hb);have F:=h! (fun W (hW:UK lo A' wq W)=>show UK lo A W1 W from UK.next RK.out (UK.next (UK.of XQ.out) (hW.lessA a4.out)))
   have av:=h! (show ¬ A' g7 from by
    rw[C.out];rintro(h1 | h1)
    ·exact ao.out h1
    ·have:=(US.out.arr.block g7 rfl).2;omega)
   have a2:=h! (show UsAt wq lo g7 n A' U vs from(US.out.avoid (A':=A') fun b hb=>by rw[C.out]at hb;rcases hb with hb | hb;exact .inl hb;exact .inr (v4! hb.symm)).ext XQ.out)
   have M:=h! (jS! 209 #[.pointer (some ⟨wr.heap.size,0,none⟩),.pointer (some ⟨w.heap.size+1+1,0,none⟩),.pointer (some ⟨l,0,none⟩)] (enters_of func209 (by kernel_rfl) rfl) lo 1000000000000 A'
    (fun ks W=>UK lo A' wq W/\∃U vs,UsAt W lo g7 n A' U vs/\UsTo fs n i ks U) (fun ks W W' h hx=>⟨UK.next h.1 (UK.of hx),by obtain⟨_,U,vs,h1,h2⟩:=h;exact⟨U,vs,h1.ext hx,h2⟩⟩)
    (fun ks k W h hlW hkl=>by
     obtain⟨hk,U2,ah,ai,a5⟩:=h
     refine(lF! lo g7 n i wr.heap.size (w.heap.size+1+1) l g9 A' k U2 ah _ _ _ _ _ _ _ W (hk.blkA BI.out (by rw[C.out];exact .inr rfl)) (RN.out W (F.out W hk)) (RP.out W (F.out W hk)) (RS.out W (F.out W hk)) ai ⟨by rw[C.out];exact .inr rfl,by rw[C.out,D.out];exact .inl (.inl rfl)⟩ (fun b hb=>by
      rw[C.out]at hb;rcases hb with hb | hb
      ·exact RA.out W (F.out W hk) b hb
      ·have h1:=BI.out.lt;have h2:=hk.size;omega) av.out hlW (fun m=>by have:=iz! U2 m;have:=a5.sum;have:=a8.out;have:=a9.out;omega)).mono ?_
     rintro e W' ⟨rfl,⟨vs',hu'⟩,hk'⟩;exact⟨rfl,⟨UK.next hk hk',_,vs',hu',a5.note k⟩,hk'⟩)
    x (.slice l1 x.subs.length m1,.slice l2 x.refs.length m2,.slice l4 x.ps.length m4) [] wq (HF.out.lowUp (UK.of (A:=A) XQ.out) (RL.out wr RK.out)) (n6! (RL.out wr RK.out) XQ.out.size) ⟨UK.refl _ _ _,U,vs,a2.out,UT.out⟩ (by have:=a8.out;have:=a9.out;simp only[v6!];omega))
   unfold fV at M;dsimp only at M;go_wp2_with fail
   rw[<-I.out];clear I;refine M.out.mono ?_;rintro e w5 ⟨rfl,⟨a7,U5,am,a3,R⟩,-⟩;rw[y2!]at R;have ae:=h! (aq.out U5 R);have ad:=h! (a3.fewer a4.out);have al:=h! (F.out w5 a7);clear a3 R a7 M a2 k0 k1 k2 k3;go_wp2_with fail
   go_roundw
   case rel=>exact⟨i+1,U5,am,Z.out,by first | rw[a1.out] | go_num,ad.out,ae.out,al.out⟩
   case measure=>have:=Z.out;(try rw[a1.out]);simp[intOf];omega
  ·obtain rfl:i=fs.length:=by omega
   have hp:=(RP.out wr RK.out).cells
   have ak:=h! (show StAt wr lo g9 g3 g5 g7 n pv fv s (inN fs s n 0) (outN fs s n 0) U vs from {
    box:=RS.out wr RK.out
    inn:=by
     rw[show boC (inN fs s n 0)=List.replicate n (.bool false)from by simp[boC,inN]]
     exact ST.out.inn.keepOwn fun g hg=>by
      obtain⟨X,h1⟩:=ST.out.inn.typed hg;exact(RK.out.blk (show Blk W1 g X 4 from h1) (by decide) (by decide)).trans h1.symm
    rnd:=by
     rw[show ic (outN fs s n 0)=List.replicate n (.int .i64 0)from by simp[ic,outN]]
     exact ST.out.rnd.keepOwn fun g hg=>by
      obtain⟨X,h1⟩:=ST.out.rnd.typed hg;exact(RK.out.blkA (show Blk W1 g X 3 from h1) (by rw[D.out];exact .inr (v5! hg).symm)).trans h1.symm
    use:=US.out.fewer fun b hb=>by rw[D.out];exact .inr hb})
   have ar:=h! (show Below w.heap.size w wr from Below.trans XW.out (by
    have:=RK.out.below (by rw[v.out];exact XW.out.size);rwa[v.out]at this))
   go_wp2_with fail
   go_ret
   exact⟨⟨g9,g3,g5,g7,U,vs,rfl,j.out,by rw[<-v.out,<-a0.out,<-a6.out];exact ak.out,UT.out⟩,ar.out⟩
end Go.Proofs.YtlhaghoajpglaaaGreat
