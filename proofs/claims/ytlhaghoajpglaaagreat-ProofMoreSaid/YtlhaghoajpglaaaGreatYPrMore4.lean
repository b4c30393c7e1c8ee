/- Lemmas for the claim, no condition. -/
import Derived.Test.YtlhaghoajpglaaaGreatYPrMore3
import Derived.Test.YtlhaghoajpglaaaGreatYPrMore3
set_option maxRecDepth 100000
set_option maxHeartbeats 3000000
namespace Go.Proofs.YtlhaghoajpglaaaGreat
open Go Go.RowKit Go.Maps Go.Proofs.Tryz
theorem bo! {S:Nat->Prop}{w:World}{ao:Option Addr}{l:List ByteArray}{c:Nat}(h:Sl S w 1 (.slice ao l.length c) (txs l)):∀i (hi:i<l.length),∃b off,ao=some ⟨b,off,none⟩/\S b/\w.cell? ⟨b,off+i,none⟩=some (.string l[i]):=by
 obtain⟨a0,n',c',hv,h1,h2,h3,h4,h5⟩:=h;cases hv;intro i hi;obtain⟨b,off,rfl,hb,hc⟩:=h5 (fun e=>by have:=congrArg List.length e;rw[ae!]at this;simp only[v6!]at this;omega);exact⟨b,off,rfl,hb,hc i _ (by simp[txs,hi])⟩
theorem hb! (w:World)(ps:List RT)(k:Int)(a b:ByteArray)(pv:Value)(g:Nat)(cap:Array Value)(eg:∀args W,(callFunc g args).run prog W= .ok (.enter g args) W)(q:RT->Bool)(hat:RTAt (· < w.heap.size) w (.mk k a b ps) pv)(hf:∀i (hi:i<ps.length) W pvi,Below w.heap.size w W->RTAt (· < W.heap.size) W ps[i] pvi->Calls prog g (#[rV ps[i] pvi]++cap) W fun e W'=>e= .returned (.bool (q ps[i]))/\Below W.heap.size W W') :
  Calls prog 223 #[pv,.func (.func g) #[] cap] w fun e w'=>∃k:Int,e= .returned (.int .i64 k)/\(0<=k↔ps.any q=true)/\Below w.heap.size w w':=by
 obtain⟨ao,c,rfl,a0,a3,f⟩:=hat.rows;dsimp only[RT.ps]at a0 f;have HC:=h! f;have HF:=h! hf;clear hat f hf;go_enter func223,ntmps223
 go_wp2_with fail
 go_loopw [5,8] (fun _ ii wr=>∃i:Nat,i<=ps.length/\ii= .int .i64 i/\(∀j (hj:j<ps.length),j<i->q ps[j]=false)/\Below w.heap.size w wr) (fun _ ii _=>ps.length-(intOf ii).toNat)
 case atStart=>exact⟨0,by omega,rfl,fun _ _ h=>absurd h (by omega),Below.refl _ _⟩
 case round =>
  obtain⟨i,hi,rfl,n,d⟩:=hrel;have o:=h! n;clear n;by_cases hlt:i<ps.length
  ·have t:=h! (fun h=>aH! (p:=fun j hj=>q ps[j]=false) o.out hlt h);have s:=h! (fun(h:q ps[i]=true)=>(show ps.any q=true from x5!.2 ⟨_,n5! hlt,h⟩));obtain⟨z,r,a2,a1,B,c0,c1,c2,c3,l⟩:=HC.out i hlt;cases a1;have d0:=(d.cell (p:=⟨z,r+i*4,none⟩) B).trans c0;have d1:=(d.cell (p:=⟨z,r+i*4+1,none⟩) B).trans c1;have d2:=(d.cell (p:=⟨z,r+i*4+2,none⟩) B).trans c2;have d3:=(d.cell (p:=⟨z,r+i*4+3,none⟩) B).trans c3;have v:=h! (HF.out i hlt wr a2 d (l.up d));clear c0 c1 c2 c3 l B;unfold rV at v;generalize ps[i]=p at *;have A:=h! d;clear d;cases y:q p with
   | true =>
    rw[y]at v;have HT:=h! (s.out y);clear t s y;go_wp2_with fail
    refine v.out.mono ?_;rintro e w5 ⟨rfl,m⟩;have u:=h! (A.out.trans (m.mono A.out.size));clear v m d0 d1 d2 d3;go_wp2_with fail
    go_ret
    exact⟨_,rfl,⟨fun _=>HT.out,fun _=>by omega⟩,u.out⟩
   | false =>
    rw[y]at v;have HN:=h! (t.out y);clear t s y;go_wp2_with fail
    refine v.out.mono ?_;rintro e w5 ⟨rfl,m⟩;have u:=h! (A.out.trans (m.mono A.out.size));clear v m d0 d1 d2 d3;go_wp2_with fail
    go_roundw
    case rel=>exact⟨i+1,by omega,by go_num,HN.out,u.out⟩
    case measure=>simp[intOf];omega
  ·obtain rfl:i=ps.length:=by omega
   have HN:=h! (show ¬ ps.any q=true from fun h=>by
    obtain⟨x,hx,y⟩:=x5!.1 h;obtain⟨j,hj,rfl⟩:=u0! hx;rw[o.out j hj hj]at y;cases y)
   have A:=h! d;clear d;go_wp2_with fail
   go_ret
   exact⟨_,rfl,⟨fun h=>absurd h (by omega),fun h=>absurd h HN.out⟩,A.out⟩
theorem bs! (w:World)(ps:List RT)(k:Int)(a b:ByteArray)(pv:Value)(g:Nat)(cap:Array Value)(eg:∀args W,(callFunc g args).run prog W= .ok (.enter g args) W)(q:RT->Bool)(hat:RTAt (· < w.heap.size) w (.mk k a b ps) pv)(hf:∀i (hi:i<ps.length) W pvi,Below w.heap.size w W->RTAt (· < W.heap.size) W ps[i] pvi->Calls prog g (#[rV ps[i] pvi]++cap) W fun e W'=>e= .returned (.bool (q ps[i]))/\Below W.heap.size W W') :
  Calls prog 175 #[pv,.func (.func g) #[] cap] w fun e w'=>e= .returned (.bool (ps.any q))/\Below w.heap.size w w':=by
 have HI:=h! (hb! w ps k a b pv g cap eg q hat hf);clear hat hf;go_enter func175,ntmps175
 go_wp2_with fail
 refine HI.out.mono ?_;rintro e w2 ⟨k,rfl,hk,hb⟩;have HK:=h! hk;have HB:=h! hb;clear HI hk hb;by_cases h0:0<=k
 ·have HM:=h! (HK.out.1 h0);go_wp2_with fail
  go_ret
  exact⟨by rw[HM.out];simp[],HB.out⟩
 ·have HM:Hid (ps.any q=false):=h! (by cases h:ps.any q with | false=>rfl | true=>exact absurd (HK.out.2 h) h0);go_wp2_with fail
  go_ret
  exact⟨by rw[HM.out];simp[h0],HB.out⟩
theorem fm! (c:UInt8)(w:World):Calls prog 149 #[.int .u8 (c.toNat:Int)] w fun e w'=>e= .returned (.bool (okc c))/\w'=w:=by
 go_enter func149,ntmps149
 have a:Hid (okc c=decide ((97<=(c.toNat:Int)/\(c.toNat:Int)<=122)\/(48<=(c.toNat:Int)/\(c.toNat:Int)<=57)\/(c.toNat:Int)=95\/(c.toNat:Int)=45)):=h! rfl;generalize okc c=g at *;generalize (c.toNat:Int)=n at *;by_cases a1:(97:Int)<=n
 all_goals by_cases a2:n<=122
 all_goals by_cases a3:(48:Int)<=n
 all_goals by_cases a4:n<=57
 all_goals cases a5:(n == 95)
 all_goals cases a6:(n == 45)
 all_goals try simp only[beq_iff_eq,n7!,ne_eq]at a5 a6
 all_goals first
  | (exfalso;omega)
  | (have b5:(n == 95)=true:=by rw[beq_iff_eq];exact a5
     have b6:(n == 45)=false:=by rw[n7!];omega
     go_wp2_with fail
     go_ret
     exact⟨congrArg (fun b=>Ending.returned (Value.bool b)) (a.out.trans (v2! (by omega))).symm,rfl⟩)
  | (have b5:(n == 95)=false:=by rw[n7!];omega
     have b6:(n == 45)=true:=by rw[beq_iff_eq];exact a6
     go_wp2_with fail
     go_ret
     exact⟨congrArg (fun b=>Ending.returned (Value.bool b)) (a.out.trans (v2! (by omega))).symm,rfl⟩)
  | (have b5:(n == 95)=false:=by rw[n7!];omega
     have b6:(n == 45)=false:=by rw[n7!];omega
     go_wp2_with fail
     go_ret
     first
       | exact⟨congrArg (fun b=>Ending.returned (Value.bool b)) (a.out.trans (v2! (by omega))).symm,rfl⟩
       | exact⟨congrArg (fun b=>Ending.returned (Value.bool b)) (a.out.trans (v3! (by omega))).symm,rfl⟩)
theorem jd! (s:ByteArray)(_hs:s.size<=maxLen)(h2:2<=s.size)(c:UInt8)(hc:s[0]'(by omega)=c)(h32:c≠32)(h9:c≠9)(hr:s.extract 0 2≠⟨#[47,47]⟩)(w:World):Calls prog 94 #[.string s] w fun e w'=>e= .returned (.bool false)/\w'=w:=by
 have q1:((c.toNat:Int) != 32)=true:=by
  rw[bne_iff_ne];intro e;exact h32 (UInt8.toNat_inj.1 (by exact_mod_cast e))
 have q2:((c.toNat:Int) != 9)=true:=by
  rw[bne_iff_ne];intro e;exact h9 (UInt8.toNat_inj.1 (by exact_mod_cast e))
 have q3:(1:Int)<(s.size:Int):=by omega
 have q4:0<s.size:=by omega
 have a0:=aV! hr;rw[<-u5!,show(⟨#[47,47]⟩:ByteArray).data.toList=[47,47]from rfl]at a0;clear h32 h9 hr;go_enter func94,ntmps94
 go_wp2_with fail
 go_loopw [3] (fun ii wr=>ii= .int .i64 0/\wr=w) (fun _ _=>0)
 case atStart=>exact⟨rfl,rfl⟩
 case round =>
  obtain⟨rfl,rfl⟩:=hrel;go_wp2_with fail
  go_ret
  exact⟨rfl,rfl⟩
def eR! (p:List ByteArray × ByteArray)(c:UInt8):List ByteArray × ByteArray:=if c=10 then(p.1++[p.2],⟨#[]⟩)else(p.1,p.2.push c)
def dm! (s:ByteArray):List ByteArray:=let p:=s.data.toList.foldl eR! ([],⟨#[]⟩);p.1++[p.2]
theorem iT! {β:Type}(f:β->UInt8->β)(b:β)(s:ByteArray) {i:Nat}(hi:i<s.size):(s.data.toList.take (i+1)).foldl f b=f ((s.data.toList.take i).foldl f b) s[i]:=by
 rw[n2! (by simpa using hi),List.foldl_append];rfl
theorem lA! (a s:ByteArray) {i:Nat}(hi:i<s.size):a++s.extract i (i+1)=a.push s[i]:=by
 refine ByteArray.ext ?_;rw[ByteArray.data_append,ByteArray.data_extract,ByteArray.data_push];refine Array.ext' ?_;simp only[Array.toList_append,Array.toList_push,Array.toList_extract];congr 1
 rw[List.extract_eq_take_drop,show i+1-i=1 from by omega,List.drop_eq_getElem_cons (by simpa using hi)];rfl
theorem jX! (s:ByteArray)(hs:s.size<=65536)(w:World):Calls prog 93 #[.string s] w fun e w'=>∃v,e= .returned v/\Own w' w.heap.size 9 1 v (txs (dm! s))/\Below w.heap.size w w':=by
 have am:s.size<=9223372036854775807:=by omega
 have HS:=h! hs;have HD:Hid (dm! s=(s.data.toList.foldl eR! ([],⟨#[]⟩)).1++[(s.data.toList.foldl eR! ([],⟨#[]⟩)).2]):=h! rfl;have L:=h! (Own.lit w (n0! _) 9 1 1 #[.string ⟨#[]⟩] rfl (by decide) (by decide));have I:Hid (Below w.heap.size w (w.alloc (.cells #[.string ⟨#[]⟩] 9))):=h! (Ext.alloc _ _);clear hs;go_enter func93,ntmps93
 go_wp2_with fail
 go_loopw [3,4] (fun ov ii wr=>∃(i:Nat) (p:List ByteArray × ByteArray),i<=s.size/\ii= .int .i64 i/\p=(s.data.toList.take i).foldl eR! ([],⟨#[]⟩)/\Own wr w.heap.size 9 1 ov (txs (p.1++[p.2]))/\Below w.heap.size w wr/\p.1.length<=i/\p.2.size<=i) (fun _ ii _=>s.size-(intOf ii).toNat)
 case atStart=>exact⟨0,([],⟨#[]⟩),by omega,rfl,rfl,L.out,I.out,v1! _,v1! _⟩
 case round =>
  obtain⟨i,⟨f,a⟩,hi,rfl,hp,j,x,A,k⟩:=hrel;dsimp only at j A k;have O:=h! hp;have z:=h! j;have t:=h! x;have u:=h! A;have J:=h! k;clear L I hp A k x;by_cases hlt:i<s.size
  ·have M:=h! (iT! eR! ([],⟨#[]⟩) s hlt);have a0:=h! (lA! a s hlt);have a8:wrap64 ((i:Int)+1)=((i+1:Nat):Int):=by rw[aL! _ (by omega) (by omega)];omega
   by_cases hc:s[i]=10
   ·have T:=h! (show(f++[a],(⟨#[]⟩:ByteArray))=(s.data.toList.take (i+1)).foldl eR! ([],⟨#[]⟩)from by rw[M.out,<-O.out,hc];rfl);clear j;go_wp2_with (at_builtin;go_must (refine an! gJ! rfl (.tmp 16) (.tmp 17) rfl rfl z.out rfl rfl (by simp[Value.oneCell']) (by have:=u.out;have:=HS.out;rw[ae!];simp;omega) (by have:=u.out;have:=HS.out;rw[ae!];simp;omega) t.out.size ?_);intro v2 w2 hown2 hb2 hgr2)
    have a4:=h! (t.out.trans hb2);have a1:=h! (show Own w2 w.heap.size 9 1 v2 (txs (f++[a]++[⟨#[]⟩]))from by rw[bg!];exact hown2);clear hown2 hb2 hgr2;go_wp2_with fail
    go_roundw
    case rel=>exact⟨i+1,(f++[a],⟨#[]⟩),by omega,by go_num,T.out,a1.out,a4.out,by have:=u.out;simp;omega,v1! _⟩
    case measure=>simp[intOf];omega
   ·have T:=h! (show(f,a.push s[i])=(s.data.toList.take (i+1)).foldl eR! ([],⟨#[]⟩)from by rw[M.out,<-O.out];unfold eR!;rw[if_neg hc]);obtain⟨g,c,cs,rfl,ab,r,G,ag,m⟩:=j.lay (by simp[txs]);have o:(txs (f++[a])).length=f.length+1:=by rw[ae!];simp
    have k:=m f.length (by omega);rw[o]at G z;rw[o];have F:(txs (f++[a]))[f.length]'(by omega)= .string a:=by simp[txs]
    rw[F]at k;have D:wr.cell? ⟨g,f.length,none⟩=some (.string a):=by rw[r.cells];exact k
    have B:=h! (show(txs (f++[a])).set f.length (.string (a.push s[i]))=txs (f++[a.push s[i]])from by simp[txs])
    have ai:((s[i].toNat:Int) == 10)=false:=by
     rw[n7!];intro e;exact hc (UInt8.toNat_inj.1 (by exact_mod_cast e))
    have a3:=a0.out;have A:=u.out;clear F m j;have a7:=h! (rfl:f.length=f.length);clear a7 o;obtain⟨N,H⟩:=e! f.length;rw[<-H]at z B G k D A ⊢;have ad:wrap64 ((N:Int)+1-1)=(N:Int):=by rw[Int.add_sub_cancel];exact aL! _ (by omega) (by omega)
    have ak:IntKind.i64.wrap (N:Int)=(N:Int):=IntWalk.i64_in _ (by omega);obtain⟨Q,q⟩:=e! (i+1);rw[<-q]at a8 T a3;have E:=h! q;have aj:IntKind.i64.wrap ((i:Int)+1)=(Q:Int):=by rw[IntWalk.i64_in _ (by omega)];omega
    have a5:(0:Int)<(N:Int)+1:=by omega
    have a9:(N:Int)<(N:Int)+1:=by omega
    have ae:(0:Int)<=(N:Int):=by omega
    have ah:(0:Int)<=(i:Int):=by omega
    have al:(i:Int)<=(Q:Int):=by omega
    have af:(Q:Int)<=(s.size:Int):=by omega
    have hA:∀W,Ext wr W->W.cell? ⟨g,N,none⟩=some (.string a):=fun W h=>by
     exact Ext.cell h D
    have a2:¬ 9223372036854775807<a.size+(min Q s.size-i):=by have:=J.out;omega
    clear H hc q D;go_wp2_with fail
    obtain⟨wd,C⟩:=e! wr.drew;have R:Ext wr wd:=by rw[C];exact Ext.drew wr
    refine ah! 17 (Ext wr) (by rw[<-C];exact R) (by kernel_rfl) (by kernel_rfl) (fun _ _ d _ _ h=>by cases d <;> exact h) ?_;rw[<-C];clear C;have y:=h! ((z.out.below R).set1 N (.string (a.push s[i])));rw[B.out]at y;have aa:=(r.below R).free;have a6:=(r.below R).cells;have ac:Hid (Below w.heap.size w (wd.setCell ⟨g,N,none⟩ (.string (a.push s[i])))):=h! ((t.out.trans (R.mono t.out.size)).setCell ab _);(refine WalkL.tk [0,1,2,3,4,5,6,7,8,9,10,11,12,13,14,15,16] ?_;(iterate 17 (refine l! ?_));refine TkL.n ?_)
    clear hA;refine WalkL.last (by kernel_rfl) (by kernel_rfl) ?_;refine b! ?_;intro K hK;go_simp;refine hK.out _ _ ?_;clear hK a6 aa k;go_wp2_with fail
    go_roundw
    case rel=>exact⟨Q,(f,a.push s[i]),by omega,by go_num,T.out,y.out,ac.out,by have:=u.out;have:=E.out;dsimp only;omega,by have:=J.out;have:=E.out;dsimp only;rw[ByteArray.size_push];omega⟩
    case measure=>have:=E.out;simp[intOf];omega
  ·obtain rfl:i=s.size:=by omega
   rw[List.take_of_length_le (by simp)]at O;have HF:Hid (dm! s=f++[a]):=h! (by rw[HD.out,<-O.out]);clear j;go_wp2_with fail
   go_ret
   exact⟨_,rfl,by rw[HF.out];exact z.out,t.out⟩
def isW (c:UInt8):Bool:=decide (97<=c.toNat/\c.toNat<=122)
def gT! (c:UInt8):Bool:=decide (c=32)||(decide (c=61)||(decide (c=124)||isW c))
def wdEnd (s:ByteArray):Nat->Nat->Nat
 | 0,n=>n
 | f+1,n=>if h:n<s.size then if isW s[n]then wdEnd s f (n+1)else n else n
def tokR (s:ByteArray):Nat->Nat->List ByteArray->List ByteArray
 | 0,_,out=>out
 | f+1,i,out=>if h:i<s.size then(if s[i]=32 then tokR s f (i+1) out else if s[i]=61\/s[i]=124 then tokR s f (i+1) (out++[s.extract i (i+1)])else tokR s f (wdEnd s s.size i) (out++[s.extract i (wdEnd s s.size i)]))else out
def toksD (s:ByteArray):List ByteArray:=tokR s s.size 0 []
theorem ll! {s:ByteArray}{f i:Nat}{out:List ByteArray}(h:s.size<=i):tokR s f i out=out:=by
 cases f with
 | zero=>rfl
 | succ f=>rw[tokR,dif_neg (by omega)]
theorem ht! (s:ByteArray):∀(f n:Nat),n<=wdEnd s f n
 | 0,n=>n0! _
 | f+1,n=>by
  rw[wdEnd];split
  ·split
   ·have:=ht! s f (n+1);omega
   ·exact n0! _
  ·exact n0! _
theorem ld! {s:ByteArray}{n:Nat}(h:n<s.size)(hw:isW s[n]=true):n<wdEnd s s.size n:=by
 obtain⟨f,hf⟩:∃f,s.size=f+1:=⟨s.size-1,by omega⟩;rw[hf,wdEnd,dif_pos h,if_pos hw];have:=ht! s f (n+1);omega
theorem iD! {c:UInt8}(h:gT! c=true):okc c=isW c:=by
 unfold gT! at h;simp only[Bool.or_eq_true,u1!]at h;rcases h with rfl | rfl | rfl | h
 ·rfl
 ·rfl
 ·rfl
 ·rw[h];unfold isW at h;have h2:=of_decide_eq_true h;unfold okc;exact v2! (.inl (by omega))
theorem u8_ne {c d:UInt8}(h:c≠d):((c.toNat:Int) == (d.toNat:Int))=false:=by
 rw[n7!];intro e;exact h (UInt8.toNat_inj.1 (by exact_mod_cast e))
theorem hy! (s:ByteArray)(hs:s.size<=65536)(hp:∀j (hj:j<s.size),gT! s[j]=true)(w:World):Calls prog 95 #[.string s] w fun e w'=>∃v,e= .returned (.tuple #[v,.bool true])/\Own w' w.heap.size 9 1 v (txs (toksD s))/\Below w.heap.size w w':=by
 have aa:s.size<=9223372036854775807:=by omega
 have I:=h! hs;have A:=h! hp;have HD:Hid (toksD s=tokR s s.size 0 []):=h! rfl;clear hs hp;go_enter func95,ntmps95
 go_wp2_with fail
 go_loopw [4,5] (fun ov ii wr=>∃(i f:Nat) (out:List ByteArray),i<=s.size/\ii= .int .i64 i/\s.size-i<=f/\tokR s f i out=toksD s/\Own wr w.heap.size 9 1 ov (txs out)/\Below w.heap.size w wr/\out.length<=i) (fun _ ii _=>s.size-(intOf ii).toNat)
 case atStart=>exact⟨0,s.size,[],by omega,rfl,by omega,rfl,Own.nil _ _ _ _,Below.refl _ _,v1! _⟩
 case round =>
  obtain⟨i,f,out,hi,rfl,hf,hr,u,r,C⟩:=hrel;have HR:=h! hr;have q:=h! u;have l:=h! r;have b:=h! C;have J:=h! hf;clear hr u r C hf;by_cases hlt:i<s.size
  ·obtain⟨f,rfl⟩:∃g,f=g+1:=⟨f-1,by have:=J.out;omega⟩;have a:=A.out i hlt;have x:=h! (show(if s[i]=32 then tokR s f (i+1) out else if s[i]=61\/s[i]=124 then tokR s f (i+1) (out++[s.extract i (i+1)])else tokR s f (wdEnd s s.size i) (out++[s.extract i (wdEnd s s.size i)]))=toksD s from by rw[<-HR.out,tokR,dif_pos hlt]);by_cases h32:s[i]=32
   ·have K:Hid (tokR s f (i+1) out=toksD s):=h! (by rw[<-x.out,if_pos h32]);clear a;go_wp2_with fail
    go_roundw
    case rel=>exact⟨i+1,f,out,by omega,by go_num,by have:=J.out;omega,K.out,q.out,l.out,by have:=b.out;omega⟩
    case measure=>simp[intOf];omega
   ·have B:((s[i].toNat:Int) == 32)=false:=u8_ne (d:=32) h32
    have q9:((s[i].toNat:Int) == 9)=false:=u8_ne (d:=9) (by
     intro e;rw[e]at a;exact absurd a (by decide))
    by_cases hsg:s[i]=61\/s[i]=124
    ·have K:Hid (tokR s f (i+1) (out++[s.extract i (i+1)])=toksD s):=h! (by rw[<-x.out,if_neg h32,if_pos hsg]);clear a B q9 h32;rcases hsg with h61 | h124
     ·go_wp2_with (at_builtin;go_must (refine an! gJ! rfl (.tmp 43) (.tmp 49) rfl rfl q.out rfl rfl (by simp[Value.oneCell']) (by have:=b.out;have:=I.out;rw[ae!];simp;omega) (by have:=b.out;have:=I.out;rw[ae!];simp;omega) l.out.size ?_);intro v2 G hown2 hb2 hgr2)
      have o:=h! (l.out.trans hb2);have m:=h! (show Own G w.heap.size 9 1 v2 (txs (out++[s.extract i (i+1)]))from by rw[bg!];exact hown2);clear hown2 hb2 hgr2;go_wp2_with fail
      go_roundw
      case rel=>exact⟨i+1,f,_,by omega,by go_num,by have:=J.out;omega,K.out,m.out,o.out,by have:=b.out;simp;omega⟩
      case measure=>simp[intOf];omega
     ·go_wp2_with (at_builtin;go_must (refine an! gJ! rfl (.tmp 43) (.tmp 49) rfl rfl q.out rfl rfl (by simp[Value.oneCell']) (by have:=b.out;have:=I.out;rw[ae!];simp;omega) (by have:=b.out;have:=I.out;rw[ae!];simp;omega) l.out.size ?_);intro v2 G hown2 hb2 hgr2)
      have o:=h! (l.out.trans hb2);have m:=h! (show Own G w.heap.size 9 1 v2 (txs (out++[s.extract i (i+1)]))from by rw[bg!];exact hown2);clear hown2 hb2 hgr2;go_wp2_with fail
      go_roundw
      case rel=>exact⟨i+1,f,_,by omega,by go_num,by have:=J.out;omega,K.out,m.out,o.out,by have:=b.out;simp;omega⟩
      case measure=>simp[intOf];omega
    ·have H:isW s[i]=true:=by
      unfold gT! at a;simp only[Bool.or_eq_true,u1!]at a;rcases a with h | h | h | h
      ·exact absurd h h32
      ·exact absurd (.inl h) hsg
      ·exact absurd (.inr h) hsg
      ·exact h
     have F:Hid (tokR s f (wdEnd s s.size i) (out++[s.extract i (wdEnd s s.size i)])=toksD s):=h! (by rw[<-x.out,if_neg h32,if_neg hsg]);have z:=h! (ld! hlt H);have a5:((s[i].toNat:Int) == 61)=false:=u8_ne (d:=61) (fun e=>hsg (.inl e));have y:((s[i].toNat:Int) == 124)=false:=u8_ne (d:=124) (fun e=>hsg (.inr e));have a0:((s[i].toNat:Int) == 38)=false:=u8_ne (d:=38) (by intro e;rw[e]at H;exact absurd H (by decide));have a1:((s[i].toNat:Int) == 40)=false:=u8_ne (d:=40) (by intro e;rw[e]at H;exact absurd H (by decide));have a6:((s[i].toNat:Int) == 41)=false:=u8_ne (d:=41) (by intro e;rw[e]at H;exact absurd H (by decide));have E:((s[i].toNat:Int) == 45)=false:=u8_ne (d:=45) (by intro e;rw[e]at H;exact absurd H (by decide));have c:=h! (fm! s[i] wr);rw[iD! a,H]at c;clear a h32 hsg H;go_wp2_with fail
     refine c.out.mono ?_;rintro e G ⟨rfl,rfl⟩;clear c B q9 a5 y a0 a1 a6 E;go_wp2_with fail
     rename World=>wo
     go_loopw [7] (fun nn wr=>∃(n g:Nat),n<=s.size/\nn= .int .i64 n/\s.size-n<=g/\wdEnd s g n=wdEnd s s.size i/\i<=n/\wr=wo) (fun nn _=>s.size-(intOf nn).toNat)
     case atStart=>exact⟨i,s.size,by omega,rfl,by omega,rfl,n0! _,rfl⟩
     case round =>
      obtain⟨n,g,hn,rfl,hg,he,a9,rfl⟩:=hrel;have HE:=h! he;have D:=h! hg;clear he hg;by_cases hln:n<s.size
      ·obtain⟨g,rfl⟩:∃k,g=k+1:=⟨g-1,by have:=D.out;omega⟩;have a:=A.out n hln;cases H:isW s[n] with
       | true =>
        have a8:Hid (wdEnd s g (n+1)=wdEnd s s.size i):=h! (by rw[<-HE.out,wdEnd,dif_pos hln,if_pos H]);have E:((s[n].toNat:Int) == 45)=false:=u8_ne (d:=45) (by intro e;rw[e]at H;exact absurd H (by decide));have c:=h! (fm! s[n] wr);rw[iD! a,H]at c;clear a H;go_wp2_with fail
        refine c.out.mono ?_;rintro e G ⟨rfl,rfl⟩;clear c;go_wp2_with fail
        go_roundw
        case rel=>exact⟨n+1,g,by omega,by go_num,by have:=D.out;omega,a8.out,by omega,trivial⟩
        case measure=>simp[intOf];omega
       | false =>
        have t:=h! (show n=wdEnd s s.size i from by rw[<-HE.out,wdEnd,dif_pos hln,if_neg (by rw[H];simp)]);have c:=h! (fm! s[n] wr);rw[iD! a,H]at c;clear a H;go_wp2_with fail
        refine c.out.mono ?_;rintro e G ⟨rfl,rfl⟩;clear c;have K:=h! (show tokR s f n (out++[s.extract i n])=toksD s from by rw[t.out];exact F.out);have p:=h! (show i<n from by rw[t.out];exact z.out);have a3:(0:Int)<=(i:Int):=by omega
        have a7:(i:Int)<=(n:Int):=by omega
        have a2:(n:Int)<=(s.size:Int):=by omega
        go_wp2_with (at_builtin;go_must (refine an! gJ! rfl (.tmp 112) (.tmp 117) rfl rfl q.out rfl rfl (by simp[Value.oneCell']) (by have:=b.out;have:=I.out;rw[ae!];simp;omega) (by have:=b.out;have:=I.out;rw[ae!];simp;omega) l.out.size ?_);intro v2 G hown2 hb2 hgr2)
        have o:=h! (l.out.trans hb2);have m:=h! (show Own G w.heap.size 9 1 v2 (txs (out++[s.extract i n]))from by rw[bg!];exact hown2);clear hown2 hb2 hgr2;go_wp2_with fail
        go_roundw
        case rel=>exact⟨n,f,_,by omega,by go_num,by have:=J.out;have:=p.out;omega,K.out,m.out,o.out,by have:=b.out;have:=p.out;simp;omega⟩
        case measure=>have:=p.out;simp[intOf];omega
      ·have t:=h! (show n=wdEnd s s.size i from by
        rw[<-HE.out];cases g with
        | zero=>rfl
        | succ g=>rw[wdEnd,dif_neg hln])
       have K:=h! (show tokR s f n (out++[s.extract i n])=toksD s from by rw[t.out];exact F.out);have p:=h! (show i<n from by rw[t.out];exact z.out);have a3:(0:Int)<=(i:Int):=by omega
       have a7:(i:Int)<=(n:Int):=by omega
       have a2:(n:Int)<=(s.size:Int):=by omega
       go_wp2_with (at_builtin;go_must (refine an! gJ! rfl (.tmp 112) (.tmp 117) rfl rfl q.out rfl rfl (by simp[Value.oneCell']) (by have:=b.out;have:=I.out;rw[ae!];simp;omega) (by have:=b.out;have:=I.out;rw[ae!];simp;omega) l.out.size ?_);intro v2 G hown2 hb2 hgr2)
       have o:=h! (l.out.trans hb2);have m:=h! (show Own G w.heap.size 9 1 v2 (txs (out++[s.extract i n]))from by rw[bg!];exact hown2);clear hown2 hb2 hgr2;go_wp2_with fail
       go_roundw
       case rel=>exact⟨n,f,_,by omega,by go_num,by have:=J.out;have:=p.out;omega,K.out,m.out,o.out,by have:=b.out;have:=p.out;simp;omega⟩
       case measure=>have:=p.out;simp[intOf];omega
  ·obtain rfl:i=s.size:=by omega
   have a4:Hid (toksD s=out):=h! (by rw[<-HR.out,ll! (n0! _)]);go_wp2_with fail
   go_ret2
   exact⟨_,rfl,by rw[a4.out];exact q.out,l.out⟩
def leafD (x:ByteArray):RT:=if x=⟨#[116,104,105,115]⟩then .mk 1 ⟨#[]⟩ ⟨#[]⟩ []else .mk 2 x ⟨#[]⟩ []
def cut1 (b off c:Nat):Option Addr:=if c=1 then some ⟨b,off,none⟩else some ⟨b,off+1,none⟩
theorem ak! {fn:Func}{p u v:Tmp}{ty:TypeId}(h:fn.results=#[.cell p ty,.tmp u,.tmp v])(tmps:Array Value)(P:Program)(w:World) :
  (results fn tmps).run P w=((asAddr (tmps.getD p undef)).run P w).andThen fun a w₁=>((loadVar ty a).run P w₁).andThen fun x w₂ => .ok (.tuple #[x,tmps.getD u undef,tmps.getD v undef]) w₂:=by
 simp only[results,h];simp[Sem.run_bind,Result.andThen]
theorem nm_ne {x y:ByteArray}(h:isNm x=true)(hy:isNm y=false):x≠y:=fun e=>by rw[e,hy]at h;cases h
theorem ni! {S:Nat->Prop}(x:ByteArray)(rest:List ByteArray)(v:Value)(w:World)(hSw:∀b,S b->b<w.heap.size)(hx:isNm x=true)(hr:∀h:0<rest.length,rest[0]≠⟨#[45,62]⟩)(h:Sl S w 1 v (txs (x::rest))) :
  Calls prog 203 #[v,.int .i64 0] w fun e w'=>∃v',e= .returned (.tuple #[rV (leafD x) (.slice none 0 0),v',.bool true])/\Sl S w' 1 v' (txs rest)/\Below w.heap.size w w':=by
 obtain⟨ao,n,c,rfl,hn,L,a8⟩:=h.len;rw[ae!,Nat.mul_one]at hn;subst hn;obtain⟨b,j,E,hS,F⟩:=bo! h 0 (by simp);subst E;have HC:=h! (bo! h);have B:=h! hSw;clear hSw
 have o:=h! (show Sl S w 1 (.slice (cut1 b j c) rest.length (c-1)) (txs rest)from by
  have:=h.window (ao':=cut1 b j c) 1 (x::rest).length (by simp) (n0! _) (fun hc=>by unfold cut1;rw[if_neg hc];rfl);rwa[show((txs (x::rest)).drop 1).take ((x::rest).length-1)=txs rest from by rw[show(txs (x::rest)).drop 1=txs rest from rfl];exact List.take_of_length_le (by rw[ae!];simp)]at this)
 have HR:=h! hr;have a:=h! (Blk.made w #[.int .i64 0,.string ⟨#[]⟩,.string ⟨#[]⟩,.slice none 0 0] 106);obtain⟨M,D⟩:=e! (w.alloc (.cells #[.int .i64 0,.string ⟨#[]⟩,.string ⟨#[]⟩,.slice none 0 0] 106));rw[<-D]at a;have C:Ext w M:=xa! D
 have i:=h! C;rw[show(x::rest)[0]=x from rfl,Nat.add_zero]at F;have hA:∀W,Ext w W->W.cell? ⟨b,j,none⟩=some (.string x):=fun W hW=>Ext.cell hW F;have a0:=hA M C;have t:(x::rest).length=rest.length+1:=rfl;rw[t]at L
 have G:=h! (az! x (by
  unfold isNm at hx;simp only[v0!,u1!]at hx;unfold maxLen;omega) M)
 rw[hx]at G;have A:=aV! (nm_ne hx (y:=⟨#[40]⟩) (by decide));rw[<-u5!,show(⟨#[40]⟩:ByteArray).data.toList=[40]from rfl]at A;have r1:=a.out.cells;have f1:=a.out.free;rw[t];clear h hx hr F t;obtain⟨n2,I⟩:=e! rest.length;rw[<-I]at L o ⊢
 have J:=h! (show 1<=n2->∃y,M.cell? ⟨b,j+1,none⟩=some (.string y)/\(y.toList == [45,62])=false from fun h1=>by
  obtain⟨b',a2,E,_,hc⟩:=HC.out 1 (by simp;omega);cases E;refine⟨_,Ext.cell C hc,?_⟩;have:=aV! (HR.out (by omega));rw[u5!];simpa using this)
 clear I C;subst D;have a1:¬ ((n2:Int)+1=0):=by omega
 have a4:(0:Int)<(n2:Int)+1:=by omega
 go_enter func203,ntmps203
 go_wp2_with fail
 refine G.out.mono ?_;rintro e w2 ⟨rfl,rfl⟩;clear G;obtain⟨Q,H⟩:=e! (w.alloc (.cells #[.int .i64 0,.string ⟨#[]⟩,.string ⟨#[]⟩,.slice none 0 0] 106));rw[<-H]at a i r1 f1 a0 J ⊢;clear H;have a6:(1:Int)<=(n2:Int)+1:=by omega
 have a3:(n2:Int)+1<=(c:Int):=by omega
 have a9:(1:Int)<=(c:Int):=by omega
 by_cases h3:(3:Int)<=(n2:Int)+1
 ·obtain⟨y,a7,hy⟩:=J.out (by omega);have a5:(1:Int)<(n2:Int)+1:=by omega
  by_cases ht:x=⟨#[116,104,105,115]⟩
  ·subst ht;have z:Hid (leafD ⟨#[116,104,105,115]⟩= .mk 1 ⟨#[]⟩ ⟨#[]⟩ []):=h! rfl;go_wp2_with fail
   have O:Ext w Q.drew:=i.out.trans (Ext.drew _);obtain⟨N,g⟩:=e! Q.drew;have u:Ext Q N:=by rw[g];exact Ext.drew Q
   refine r! (Ext w) O ?_;rw[<-g]at O ⊢;clear g;have a:=h! (a.out.below u);have i:=h! O;(refine WalkN.tk [0,1] ?_;(iterate 2 (refine c! ?_));refine TkN.n ?_)
   refine WalkN.take 2 _ (.slice (cut1 b j c) n2 (c-1)) (by simp only[gA,gS,gZ];rfl) (by kernel_rfl) (by kernel_rfl) (by rfl) (fun W hW=>?_) ?_
   ·unfold cut1;go_simp;try with_reducible rfl
   simp only[Act.put,pA,pZ,pS];have rd:=a.out.cells;have fd:=a.out.free;have p:=a.out.set_to 0 (.int .i64 1) rfl;have m:=p.set_to 1 (.string ⟨#[]⟩) rfl;have l:=m.set_to 2 (.string ⟨#[]⟩) rfl;have k:=l.set_to 3 (.slice none 0 0) rfl;have q:=h! k;have f:Hid (Ext w ((((N.setCell ⟨w.heap.size,0,none⟩ (.int .i64 1)).setCell ⟨w.heap.size,1,none⟩ (.string ⟨#[]⟩)).setCell ⟨w.heap.size,2,none⟩ (.string ⟨#[]⟩)).setCell ⟨w.heap.size,3,none⟩ (.slice none 0 0))):=h! ((((i.out.setCell (n0! _) _).setCell (n0! _) _).setCell (n0! _) _).setCell (n0! _) _);clear p m l k;refine ob! 3 ?_;intro K hK;go_simp;refine hK.out _ _ f.out ?_;clear hK;have O:=f.out;(refine WalkN.tk [4,5] ?_;(iterate 2 (refine c! ?_));refine TkN.n ?_)
   refine d! ?_;go_wp2_with fail
   refine bodyPost_ret (v := .tuple #[.agg #[.int .i64 1,.string ⟨#[]⟩,.string ⟨#[]⟩,.slice none 0 0],.slice (cut1 b j c) n2 (c-1),.bool true]) ?_ rfl ⟨_,by rw[z.out];rfl,?_,f.out⟩
   ·rw[ak! rfl];have R:=run_loadVar_row (P:=prog) _ w.heap.size _ 106 _ _ _ q.out Tryz.underlying106 rfl (by kernel_rfl);simp[asAddr,R,Result.andThen]
   ·exact o.out.same ((Same.below f.out).mono B.out)
  ·have s:=aV! ht;rw[<-u5!,show(⟨#[116,104,105,115]⟩:ByteArray).data.toList=[116,104,105,115]from rfl]at s;have z:Hid (leafD x= .mk 2 x ⟨#[]⟩ []):=h! (if_neg ht);clear ht;go_wp2_with fail
   have O:Ext w Q.drew:=i.out.trans (Ext.drew _);obtain⟨N,g⟩:=e! Q.drew;have u:Ext Q N:=by rw[g];exact Ext.drew Q
   refine r! (Ext w) O ?_;rw[<-g]at O ⊢;clear g;have a:=h! (a.out.below u);have i:=h! O;(refine WalkN.tk [0,1,2,3,4] ?_;(iterate 5 (refine c! ?_));refine TkN.n ?_)
   refine WalkN.take 5 _ (.slice (cut1 b j c) n2 (c-1)) (by simp only[gA,gS,gZ];rfl) (by kernel_rfl) (by kernel_rfl) (by rfl) (fun W hW=>?_) ?_
   ·unfold cut1;go_simp;try with_reducible rfl
   simp only[Act.put,pA,pZ,pS];have rd:=a.out.cells;have fd:=a.out.free;have p:=a.out.set_to 0 (.int .i64 2) rfl;have m:=p.set_to 1 (.string x) rfl;have l:=m.set_to 2 (.string ⟨#[]⟩) rfl;have k:=l.set_to 3 (.slice none 0 0) rfl;have q:=h! k;have f:Hid (Ext w ((((N.setCell ⟨w.heap.size,0,none⟩ (.int .i64 2)).setCell ⟨w.heap.size,1,none⟩ (.string x)).setCell ⟨w.heap.size,2,none⟩ (.string ⟨#[]⟩)).setCell ⟨w.heap.size,3,none⟩ (.slice none 0 0))):=h! ((((i.out.setCell (n0! _) _).setCell (n0! _) _).setCell (n0! _) _).setCell (n0! _) _);clear p m l k;refine ob! 6 ?_;intro K hK;go_simp;refine hK.out _ _ f.out ?_;clear hK;have O:=f.out;(refine WalkN.tk [7,8] ?_;(iterate 2 (refine c! ?_));refine TkN.n ?_)
   refine d! ?_;go_wp2_with fail
   refine bodyPost_ret (v := .tuple #[.agg #[.int .i64 2,.string x,.string ⟨#[]⟩,.slice none 0 0],.slice (cut1 b j c) n2 (c-1),.bool true]) ?_ rfl ⟨_,by rw[z.out];rfl,?_,f.out⟩
   ·rw[ak! rfl];have R:=run_loadVar_row (P:=prog) _ w.heap.size _ 106 _ _ _ q.out Tryz.underlying106 rfl (by kernel_rfl);simp[asAddr,R,Result.andThen]
   ·exact o.out.same ((Same.below f.out).mono B.out)
 ·skip
  by_cases ht:x=⟨#[116,104,105,115]⟩
  ·subst ht;have z:Hid (leafD ⟨#[116,104,105,115]⟩= .mk 1 ⟨#[]⟩ ⟨#[]⟩ []):=h! rfl;go_wp2_with fail
   have O:Ext w Q.drew:=i.out.trans (Ext.drew _);obtain⟨N,g⟩:=e! Q.drew;have u:Ext Q N:=by rw[g];exact Ext.drew Q
   refine r! (Ext w) O ?_;rw[<-g]at O ⊢;clear g;have a:=h! (a.out.below u);have i:=h! O;(refine WalkN.tk [0,1] ?_;(iterate 2 (refine c! ?_));refine TkN.n ?_)
   refine WalkN.take 2 _ (.slice (cut1 b j c) n2 (c-1)) (by simp only[gA,gS,gZ];rfl) (by kernel_rfl) (by kernel_rfl) (by rfl) (fun W hW=>?_) ?_
   ·unfold cut1;go_simp;try with_reducible rfl
   simp only[Act.put,pA,pZ,pS];have rd:=a.out.cells;have fd:=a.out.free;have p:=a.out.set_to 0 (.int .i64 1) rfl;have m:=p.set_to 1 (.string ⟨#[]⟩) rfl;have l:=m.set_to 2 (.string ⟨#[]⟩) rfl;have k:=l.set_to 3 (.slice none 0 0) rfl;have q:=h! k;have f:Hid (Ext w ((((N.setCell ⟨w.heap.size,0,none⟩ (.int .i64 1)).setCell ⟨w.heap.size,1,none⟩ (.string ⟨#[]⟩)).setCell ⟨w.heap.size,2,none⟩ (.string ⟨#[]⟩)).setCell ⟨w.heap.size,3,none⟩ (.slice none 0 0))):=h! ((((i.out.setCell (n0! _) _).setCell (n0! _) _).setCell (n0! _) _).setCell (n0! _) _);clear p m l k;refine ob! 3 ?_;intro K hK;go_simp;refine hK.out _ _ f.out ?_;clear hK;have O:=f.out;(refine WalkN.tk [4,5] ?_;(iterate 2 (refine c! ?_));refine TkN.n ?_)
   refine d! ?_;go_wp2_with fail
   refine bodyPost_ret (v := .tuple #[.agg #[.int .i64 1,.string ⟨#[]⟩,.string ⟨#[]⟩,.slice none 0 0],.slice (cut1 b j c) n2 (c-1),.bool true]) ?_ rfl ⟨_,by rw[z.out];rfl,?_,f.out⟩
   ·rw[ak! rfl];have R:=run_loadVar_row (P:=prog) _ w.heap.size _ 106 _ _ _ q.out Tryz.underlying106 rfl (by kernel_rfl);simp[asAddr,R,Result.andThen]
   ·exact o.out.same ((Same.below f.out).mono B.out)
  ·have s:=aV! ht;rw[<-u5!,show(⟨#[116,104,105,115]⟩:ByteArray).data.toList=[116,104,105,115]from rfl]at s;have z:Hid (leafD x= .mk 2 x ⟨#[]⟩ []):=h! (if_neg ht);clear ht;go_wp2_with fail
   have O:Ext w Q.drew:=i.out.trans (Ext.drew _);obtain⟨N,g⟩:=e! Q.drew;have u:Ext Q N:=by rw[g];exact Ext.drew Q
   refine r! (Ext w) O ?_;rw[<-g]at O ⊢;clear g;have a:=h! (a.out.below u);have i:=h! O;(refine WalkN.tk [0,1,2,3,4] ?_;(iterate 5 (refine c! ?_));refine TkN.n ?_)
   refine WalkN.take 5 _ (.slice (cut1 b j c) n2 (c-1)) (by simp only[gA,gS,gZ];rfl) (by kernel_rfl) (by kernel_rfl) (by rfl) (fun W hW=>?_) ?_
   ·unfold cut1;go_simp;try with_reducible rfl
   simp only[Act.put,pA,pZ,pS];have rd:=a.out.cells;have fd:=a.out.free;have p:=a.out.set_to 0 (.int .i64 2) rfl;have m:=p.set_to 1 (.string x) rfl;have l:=m.set_to 2 (.string ⟨#[]⟩) rfl;have k:=l.set_to 3 (.slice none 0 0) rfl;have q:=h! k;have f:Hid (Ext w ((((N.setCell ⟨w.heap.size,0,none⟩ (.int .i64 2)).setCell ⟨w.heap.size,1,none⟩ (.string x)).setCell ⟨w.heap.size,2,none⟩ (.string ⟨#[]⟩)).setCell ⟨w.heap.size,3,none⟩ (.slice none 0 0))):=h! ((((i.out.setCell (n0! _) _).setCell (n0! _) _).setCell (n0! _) _).setCell (n0! _) _);clear p m l k;refine ob! 6 ?_;intro K hK;go_simp;refine hK.out _ _ f.out ?_;clear hK;have O:=f.out;(refine WalkN.tk [7,8] ?_;(iterate 2 (refine c! ?_));refine TkN.n ?_)
   refine d! ?_;go_wp2_with fail
   refine bodyPost_ret (v := .tuple #[.agg #[.int .i64 2,.string x,.string ⟨#[]⟩,.slice none 0 0],.slice (cut1 b j c) n2 (c-1),.bool true]) ?_ rfl ⟨_,by rw[z.out];rfl,?_,f.out⟩
   ·rw[ak! rfl];have R:=run_loadVar_row (P:=prog) _ w.heap.size _ 106 _ _ _ q.out Tryz.underlying106 rfl (by kernel_rfl);simp[asAddr,R,Result.andThen]
   ·exact o.out.same ((Same.below f.out).mono B.out)
theorem ruleT:oi! prog 104 106 4 64:=oi!.mk' Tryz.underlying104 (show _=some (some (.agg #[.int .i64 0,.string ByteArray.empty,.string ByteArray.empty,.slice none 0 0]),4,64)by kernel_rfl) rfl (by decide)
theorem iB! (x:ByteArray):((leafD x).k=1\/(leafD x).k=2)/\(leafD x).ps=[]:=by
 unfold leafD;split <;> simp[RT.k,RT.ps]
def leafQ (r:RT):RT × Value:=(r,.slice none 0 0)
def bQ! (l:List RT):List Value:=(l.map leafQ).flatMap rC
theorem aF! (l:List RT):(bQ! l).length=l.length*4:=by
 induction l with
 | nil=>rfl
 | cons x l ih=>simp only[bQ!,v8!,y5!,u4!,u7!]at ih ⊢;rw[ih];simp[rC];omega
theorem cz! (a b:List RT):bQ! (a++b)=bQ! a++bQ! b:=by simp[bQ!]
theorem RTAt.leaf (S:Nat->Prop)(w:World) {r:RT}(h:r.ps=[]):RTAt S w r (.slice none 0 0):=(RTAt.iff _ _).2 ⟨[],by rw[h];rfl,by simp,Sl.nil _ _ _⟩
theorem eb! {S:Nat->Prop}{w:World}{v:Value}{l:List RT}(h:Sl S w 4 v (bQ! l)):∃ao c,v= .slice ao l.length c/\l.length<=c/\c<=9223372036854775807/\∀i (hi:i<l.length),∃b off,ao=some ⟨b,off,none⟩/\S b/\w.cell? ⟨b,off+i*4,none⟩=some (.int .i64 l[i].k)/\w.cell? ⟨b,off+i*4+1,none⟩=some (.string l[i].a)/\w.cell? ⟨b,off+i*4+2,none⟩=some (.string l[i].b)/\w.cell? ⟨b,off+i*4+3,none⟩=some (.slice none 0 0):=by
 obtain⟨ao,c,rfl,h4,h5,hc⟩:=Sl.rows aO! (by decide) h;rw[x1!]at h4 ⊢;refine⟨ao,c,rfl,h4,h5,fun i hi=>?_⟩;obtain⟨b,off,rfl,hb,hc⟩:=hc (by rw[x1!];omega);have hx:(l.map leafQ)[i]'(by rw[x1!];exact hi)=leafQ l[i]:=List.getElem_map _;have d:=hc i (by rw[x1!];exact hi);rw[hx]at d;exact⟨b,off,rfl,hb,d 0 _ rfl,d 1 _ rfl,d 2 _ rfl,d 3 _ rfl⟩
theorem ez! {S:Nat->Prop}{w:World}{ao:Option Addr}{n c:Nat}{l:List ByteArray}(h:Sl S w 1 (.slice ao n c) (txs l))(hl:0<l.length):∃b off,ao=some ⟨b,off,none⟩/\S b/\w.cell? ⟨b,off,none⟩=some (.string l[0]):=by
 obtain⟨a0,n',c',hv,h1,h2,h3,h4,h5⟩:=h;cases hv;obtain⟨b,off,rfl,hb,hc⟩:=h5 (fun e=>by have:=congrArg List.length e;rw[ae!]at this;simp only[v6!]at this;omega);exact⟨b,off,rfl,hb,hc 0 _ (by simp[txs,hl])⟩
theorem fn! {S:Nat->Prop}(x:ByteArray)(rest:List ByteArray)(v:Value)(w:World)(hSw:∀b,S b->b<w.heap.size)(hx:isNm x=true)(hr:∀h:0<rest.length,rest[0]≠⟨#[45,62]⟩/\rest[0]≠⟨#[38]⟩)(h:Sl S w 1 v (txs (x::rest))) :
  Calls prog 150 #[v,.int .i64 0,.string ⟨#[38]⟩,.int .i64 5] w fun e w'=>∃v',e= .returned (.tuple #[rV (leafD x) (.slice none 0 0),v',.bool true])/\Sl S w' 1 v' (txs rest)/\Below w.heap.size w w':=by
 obtain⟨w1,C⟩:=e! (w.alloc (.cells #[.int .i64 0,.string ⟨#[]⟩,.string ⟨#[]⟩,.slice none 0 0] 106));obtain⟨w2,U⟩:=e! (w1.alloc (.cells #[.int .i64 0,.string ⟨#[]⟩,.string ⟨#[]⟩,.slice none 0 0] 106));have e1:w1.heap.size=w.heap.size+1:=by rw[C];simp
 have V:Ext w w1:=xa! C
 have K:Ext w1 w2:=xa! U
 have Z:=h! (show Blk w2 w.heap.size #[.int .i64 0,.string ⟨#[]⟩,.string ⟨#[]⟩,.slice none 0 0] 106 from Blk.below (bm! C) K);have a0:=h! (show Blk w2 (w.heap.size+1) #[.int .i64 0,.string ⟨#[]⟩,.string ⟨#[]⟩,.slice none 0 0] 106 from by rw[U,<-e1];exact Blk.made _ _ _);have B:Hid (Below w.heap.size w w2):=h! (V.trans K);have g:=h! hSw;have G:=h! (ni! (S:=S) x rest v w2 (fun b hb=>n1! (g.out b hb) B.out.size) hx (fun h=>(hr h).1) (h.same ((Same.below B.out).mono g.out)));have HR:=h! hr;have a1:=h! (iB! x);obtain⟨ao,n,c,rfl,hn,ae,ab⟩:=h.len;clear hn hr h hSw;subst U C;clear e1 V K;generalize leafD x=r at *;unfold rV at G ⊢;go_enter func150,ntmps150
 go_wp2_with fail
 go_loopw [0,11] (fun lv pv wr=>lv= .slice ao n c/\pv= .slice none 0 0/\wr=w.alloc (.cells #[.int .i64 0,.string ⟨#[]⟩,.string ⟨#[]⟩,.slice none 0 0] 106)) (fun _ _ _=>0)
 case atStart=>exact⟨rfl,rfl,rfl⟩
 case round =>
  obtain⟨rfl,rfl,rfl⟩:=hrel;go_wp2_with fail
  refine G.out.mono ?_;rintro e w3 ⟨v3,rfl,o,D⟩;have E:=h! (Z.out.below D);have F:=h! (a0.out.below D);have s:=h! (B.out.trans (D.mono B.out.size));have l:=h! o;obtain⟨a5,n3,c3,rfl,J,a4,a8⟩:=o.len;clear D Z a0 B G o;have p3:=F.out.cells;have q3:=F.out.free;obtain⟨br,Y⟩:=e! (w.heap.size+1);rw[<-Y]at F p3 q3 ⊢;rw[ae!,Nat.mul_one]at J;have R:=h! J;have u:=F.out.set_to 0 (.int .i64 r.k) rfl;have t:=u.set_to 1 (.string r.a) rfl;have q:=t.set_to 2 (.string r.b) rfl;have z:=q.set_to 3 (.slice none 0 0) rfl
  have ad:(r.k == 5)=false:=by
   have:=a1.out.1;rw[n7!];omega
  have A:=h! (show Kept (fun b=>S b\/b=w.heap.size) w3 ((((w3.setCell ⟨br,0,none⟩ (.int .i64 r.k)).setCell ⟨br,1,none⟩ (.string r.a)).setCell ⟨br,2,none⟩ (.string r.b)).setCell ⟨br,3,none⟩ (.slice none 0 0))from by
   have d:¬ (S br\/br=w.heap.size):=by
    rintro(h | h)
    ·have:=g.out _ h;omega
    ·omega
   exact((((Kept.refl _ _).set d _).set d _).set d _).set d _)
  have X:Hid (Below w.heap.size w ((((w3.setCell ⟨br,0,none⟩ (.int .i64 r.k)).setCell ⟨br,1,none⟩ (.string r.a)).setCell ⟨br,2,none⟩ (.string r.b)).setCell ⟨br,3,none⟩ (.slice none 0 0))):=h! ((((s.out.setCell (show w.heap.size<=br by omega) _).setCell (show w.heap.size<=br by omega) _).setCell (show w.heap.size<=br by omega) _).setCell (show w.heap.size<=br by omega) _);clear u t q z Y J;by_cases h0:n3=0
  ·subst h0;go_wp2_with (at_builtin;go_must (refine an! ruleT rfl (.tmp 42) (.tmp 44) rfl rfl (Own.nil _ w3.heap.size _ _) (by show Value.slice (some ⟨w3.heap.size,0,none⟩) 1 1=_;simp) rfl (by simp[Value.oneCell']) (by simp) (by simp) (by simp) ?_);intro v4 w4 hown4 hb4 hgr4;have Q:Hid (Own w4 w3.heap.size 106 4 v4 (bQ! [r])):=h! hown4;have j:Hid (Blk w4 w.heap.size #[.int .i64 0,.string ⟨#[]⟩,.string ⟨#[]⟩,.slice none 0 0] 106):=h! ((hb4.block _ E.out.lt).trans (A.out.blk E.out (.inr rfl)));have I:=h! (X.out.trans (hb4.mono s.out.size));have H:=h! (l.out.same (fun b hb=>(hb4.block b (n1! (g.out b hb) s.out.size)).trans (A.out.block b (.inl hb))));obtain⟨a6,c4,rfl,m,L,f⟩:=eb! Q.out.sl;obtain⟨g4,M,rfl,a3,k0,k1,k2,k3⟩:=f 0 (by simp);simp only[Nat.zero_mul,Nat.add_zero,List.getElem_cons_zero]at k0 k1 k2 k3;clear hown4 hb4 hgr4 f m;have r4:=j.out.cells;have f4:=j.out.free)
   have u:=j.out.set_to 0 (.int .i64 r.k) rfl;have t:=u.set_to 1 (.string r.a) rfl;have q:=t.set_to 2 (.string r.b) rfl;have z:=q.set_to 3 (.slice none 0 0) rfl;have T:=setAt (i:=3) (v := .slice none 0 0) (setAt (i:=2) (v := .string r.b) (setAt (i:=1) (v := .string r.a) (setAt (i:=0) (v := .int .i64 r.k) I.out)));have d:¬ S w.heap.size:=fun h=>by have:=g.out _ h;omega
   have O:=((((Kept.refl S w4).set (a:=⟨w.heap.size,0,none⟩) d (.int .i64 r.k)).set (a:=⟨w.heap.size,1,none⟩) d (.string r.a)).set (a:=⟨w.heap.size,2,none⟩) d (.string r.b)).set (a:=⟨w.heap.size,3,none⟩) d (.slice none 0 0);refine bodyPost_ret (v := .tuple #[.agg #[.int .i64 r.k,.string r.a,.string r.b,.slice none 0 0],.slice a5 0 c3,.bool true]) ?_ rfl ⟨_,rfl,H.out.same O.block,T⟩;rw[ak! rfl];have hl:=run_loadVar_row (P:=prog) _ w.heap.size _ 106 _ _ _ z Tryz.underlying106 rfl (by kernel_rfl);simp[asAddr,hl,Result.andThen]
  ·obtain⟨b5,p,rfl,a7,a2⟩:=ez! l.out (by have:=R.out;omega);have a9:=aV! (HR.out (by have:=R.out;omega)).2;rw[<-u5!,show(⟨#[38]⟩:ByteArray).data.toList=[38]from rfl]at a9;have ac:((n3:Int) == 0)=false:=by rw[n7!];omega
   have aa:(0:Int)<(n3:Int):=by omega
   generalize rest[0]'(by have:=R.out;omega)=y at *;go_wp2_with (at_builtin;go_must (refine an! ruleT rfl (.tmp 42) (.tmp 44) rfl rfl (Own.nil _ w3.heap.size _ _) (by show Value.slice (some ⟨w3.heap.size,0,none⟩) 1 1=_;simp) rfl (by simp[Value.oneCell']) (by simp) (by simp) (by simp) ?_);intro v4 w4 hown4 hb4 hgr4;have Q:Hid (Own w4 w3.heap.size 106 4 v4 (bQ! [r])):=h! hown4;have j:Hid (Blk w4 w.heap.size #[.int .i64 0,.string ⟨#[]⟩,.string ⟨#[]⟩,.slice none 0 0] 106):=h! ((hb4.block _ E.out.lt).trans (A.out.blk E.out (.inr rfl)));have I:=h! (X.out.trans (hb4.mono s.out.size));have N:Hid (∀b,S b->w4.heap[b]?=w3.heap[b]?):=h! (fun b hb=>(hb4.block b (n1! (g.out b hb) s.out.size)).trans (A.out.block b (.inl hb)));have H:=h! (l.out.same (fun b hb=>(hb4.block b (n1! (g.out b hb) s.out.size)).trans (A.out.block b (.inl hb))));obtain⟨a6,c4,rfl,m,L,f⟩:=eb! Q.out.sl;obtain⟨g4,M,rfl,a3,k0,k1,k2,k3⟩:=f 0 (by simp);simp only[Nat.zero_mul,Nat.add_zero,List.getElem_cons_zero]at k0 k1 k2 k3;clear hown4 hb4 hgr4 f m;have r4:=j.out.cells;have f4:=j.out.free;have d5:w4.cell? ⟨b5,p,none⟩=some (.string y):=(World.cell?_of_block (a:=⟨b5,p,none⟩) (N.out b5 a7)).trans a2)
   have u:=j.out.set_to 0 (.int .i64 r.k) rfl;have t:=u.set_to 1 (.string r.a) rfl;have q:=t.set_to 2 (.string r.b) rfl;have z:=q.set_to 3 (.slice none 0 0) rfl;have T:=setAt (i:=3) (v := .slice none 0 0) (setAt (i:=2) (v := .string r.b) (setAt (i:=1) (v := .string r.a) (setAt (i:=0) (v := .int .i64 r.k) I.out)));have d:¬ S w.heap.size:=fun h=>by have:=g.out _ h;omega
   have O:=((((Kept.refl S w4).set (a:=⟨w.heap.size,0,none⟩) d (.int .i64 r.k)).set (a:=⟨w.heap.size,1,none⟩) d (.string r.a)).set (a:=⟨w.heap.size,2,none⟩) d (.string r.b)).set (a:=⟨w.heap.size,3,none⟩) d (.slice none 0 0);refine bodyPost_ret (v := .tuple #[.agg #[.int .i64 r.k,.string r.a,.string r.b,.slice none 0 0],.slice (some ⟨b5,p,none⟩) n3 c3,.bool true]) ?_ rfl ⟨_,rfl,H.out.same O.block,T⟩;rw[ak! rfl];have hl:=run_loadVar_row (P:=prog) _ w.heap.size _ 106 _ _ _ z Tryz.underlying106 rfl (by kernel_rfl);simp[asAddr,hl,Result.andThen]
def barT:List ByteArray->List ByteArray
 | [] => []
 | y::ys=>⟨#[124]⟩::y::barT ys
def altT (x:ByteArray)(ys:List ByteArray):List ByteArray:=x::barT ys
def altR (x:ByteArray)(ys:List ByteArray):RT:=if ys=[]then leafD x else .mk 4 ⟨#[]⟩ ⟨#[]⟩ ((x::ys).map leafD)
theorem cv! (ys:List ByteArray):(barT ys).length=2*ys.length:=by
 induction ys with
 | nil=>rfl
 | cons y ys ih=>rw[barT,u7!,u7!,ih,u7!];omega
theorem lP! {l:List ByteArray}{ps qs:List RT}(h:ps++qs=l.map leafD):∀r∈ps,r.ps=[]:=fun r hr=>by
 have:=List.mem_append_left qs hr;rw[h]at this;obtain⟨x,_,rfl⟩:=u6!.1 this;exact(iB! x).2
theorem RTAt.leafs {S:Nat->Prop}{w:World}{v:Value}{ps:List RT}(hp:∀r∈ps,r.ps=[])(h:Sl S w 4 v (bQ! ps))(k:Int)(a b:ByteArray):RTAt S w (.mk k a b ps) v :=
 (RTAt.iff _ _).2 ⟨ps.map leafQ,by rw[List.map_map];exact(List.map_congr_left fun _ _=>rfl).trans (List.map_id _),fun x hx=>by
  obtain⟨r,hr,rfl⟩:=u6!.1 hx;exact RTAt.leaf S w (hp r hr),h⟩
theorem nH! {r:RT}{x:ByteArray}{ys:List ByteArray}(h : [r]=(x::ys).map leafD):altR x ys=r:=by
 cases ys with
 | nil=>unfold altR;rw[if_pos rfl];simpa using h.symm
 | cons y ys=>simp at h
theorem ml! {ps:List RT}{x:ByteArray}{ys:List ByteArray}(h:ps=(x::ys).map leafD)(h2:2<=ps.length):altR x ys= .mk 4 ⟨#[]⟩ ⟨#[]⟩ ps:=by
 cases ys with
 | nil=>subst h;simp at h2
 | cons y ys=>unfold altR;rw[if_neg (by simp),h]
def nP!:Value->Nat | .slice _ n _=>n | _=>0
theorem fo! {S:Nat->Prop}(x0:ByteArray)(ys0:List ByteArray)(v:Value)(w:World)(hSw:∀b,S b->b<w.heap.size)(hx0:∀z∈x0::ys0,isNm z=true)(hl0:ys0.length<=100000)(h:Sl S w 1 v (txs (altT x0 ys0))) :
  Calls prog 150 #[v,.int .i64 0,.string ⟨#[124]⟩,.int .i64 4] w fun e w'=>∃v' pv,e= .returned (.tuple #[rV (altR x0 ys0) pv,v',.bool true])/\Sl S w' 1 v' []/\RTAt (fun b=>w.heap.size<=b/\b<w'.heap.size) w' (altR x0 ys0) pv/\Below w.heap.size w w':=by
 have q:=h! hSw;have aC:=h! hx0;have aL:=h! hl0;have ab:=h! h;have ar:=h! (Blk.made w #[.int .i64 0,.string ⟨#[]⟩,.string ⟨#[]⟩,.slice none 0 0] 106);have aa:=h! (Ext.alloc w (.cells #[.int .i64 0,.string ⟨#[]⟩,.string ⟨#[]⟩,.slice none 0 0] 106));clear hSw hx0 hl0 h;obtain⟨ao,n,c,rfl,-,-,-⟩:=ab.out.len;go_enter func150,ntmps150
 go_wp2_with fail
 go_loopw [0,11] (fun lv pv wr=>∃(ps:List RT) (x:ByteArray) (ys:List ByteArray),(∀z∈x::ys,isNm z=true)/\Sl S wr 1 lv (txs (altT x ys))/\Own wr (w.heap.size+1) 106 4 pv (bQ! ps)/\ps++(x::ys).map leafD=(x0::ys0).map leafD/\Blk wr w.heap.size #[.int .i64 0,.string ⟨#[]⟩,.string ⟨#[]⟩,.slice none 0 0] 106/\Below w.heap.size w wr) (fun lv _ _=>nP! lv)
 case atStart=>exact⟨[],x0,ys0,aC.out,ab.out.same ((Same.below aa.out).mono q.out),Own.nil _ _ _ _,rfl,ar.out,aa.out⟩
 case round =>
  obtain⟨ps,x,ys,ai,ah,af,Z,a6,o⟩:=hrel;have l:=h! Z;have am:=h! ai;obtain⟨aV,n1,c1,rfl,a0,aI,aE⟩:=ah.len;rw[ae!,Nat.mul_one]at a0;have aJ:=h! a0;have I:Ext wr (wr.alloc (.cells #[.int .i64 0,.string ⟨#[]⟩,.string ⟨#[]⟩,.slice none 0 0] 106)):=Ext.alloc _ _;have U:=h! (show ∀b,S b->b<wr.heap.size from fun b hb=>n1! (q.out b hb) o.size)
  have a3:=h! (fn! (S:=S) x (barT ys) _ (wr.alloc (.cells #[.int .i64 0,.string ⟨#[]⟩,.string ⟨#[]⟩,.slice none 0 0] 106)) (fun b hb=>n1! (U.out b hb) I.size) (am.out x y4!) (fun hpos=>by
   cases ys with
   | nil=>exact absurd hpos (by simp[barT])
   | cons y ys=>exact⟨by unfold barT;rw[List.getElem_cons_zero];decide,by unfold barT;rw[List.getElem_cons_zero];decide⟩) (ah.same ((Same.below I).mono U.out)))
  have ap:=h! (a6.below I);have aq:=h! (Blk.made wr #[.int .i64 0,.string ⟨#[]⟩,.string ⟨#[]⟩,.slice none 0 0] 106);have R:=h! (af.below I);have ax:=h! (iB! x);have a4:=h! (show(x::ys).map leafD=leafD x::ys.map leafD from rfl);have Y:=h! (fun g hg=>(af.block g hg).2);have ac:=h! (o.trans (I.mono o.size));have an:Hid (w.heap.size+1<=wr.heap.size):=h! a6.lt
  have A:=h! (show ps.length+1<=100001 from by
   have:=congrArg List.length l.out;have:=aL.out;simp at *;omega)
  clear a0 ah af Z a6 o ai aa ar ab I;unfold rV at a3;generalize leafD x=r at *;go_wp2_with fail
  refine a3.out.mono ?_;rintro e w3 ⟨v3,rfl,B,J⟩;have a9:=h! (ap.out.below J);have N:=h! (aq.out.below J);have aF:=h! (ac.out.trans (J.mono ac.out.size));have p:=h! B;have Q:=R.out.below J;have av:Hid (wr.heap.size<w3.heap.size):=h! N.out.lt;obtain⟨al,n3,c3,rfl,ae,aG,aA⟩:=B.len;rw[ae!,Nat.mul_one,cv!]at ae;have a8:=h! ae;obtain⟨br,aj⟩:=e! wr.heap.size;rw[<-aj]at N an Y av ⊢;have p3:=N.out.cells;have q3:=N.out.free;have a7:=an.out;have F:=N.out.set_to 0 (.int .i64 r.k) rfl;have H:=F.set_to 1 (.string r.a) rfl;have G:=H.set_to 2 (.string r.b) rfl;have T:=G.set_to 3 (.slice none 0 0) rfl
  have aO:(r.k == 4)=false:=by
   have:=ax.out.1;rw[n7!];omega
  have E:=h! (show Kept (fun b=>S b\/b=w.heap.size) w3 ((((w3.setCell ⟨br,0,none⟩ (.int .i64 r.k)).setCell ⟨br,1,none⟩ (.string r.a)).setCell ⟨br,2,none⟩ (.string r.b)).setCell ⟨br,3,none⟩ (.slice none 0 0))from by
   have d:¬ (S br\/br=w.heap.size):=by
    rintro(h | h)
    ·have:=q.out _ h;omega
    ·omega
   exact((((Kept.refl _ _).set d _).set d _).set d _).set d _)
  have ad:Hid (Below w.heap.size w ((((w3.setCell ⟨br,0,none⟩ (.int .i64 r.k)).setCell ⟨br,1,none⟩ (.string r.a)).setCell ⟨br,2,none⟩ (.string r.b)).setCell ⟨br,3,none⟩ (.slice none 0 0))):=h! ((((aF.out.setCell (show w.heap.size<=br by omega) _).setCell (show w.heap.size<=br by omega) _).setCell (show w.heap.size<=br by omega) _).setCell (show w.heap.size<=br by omega) _);have u:=h! (show w.heap.size+1<=(((((w3.setCell ⟨br,0,none⟩ (.int .i64 r.k)).setCell ⟨br,1,none⟩ (.string r.a)).setCell ⟨br,2,none⟩ (.string r.b)).setCell ⟨br,3,none⟩ (.slice none 0 0))).heap.size from by have:=av.out;simp;omega)
  have D:=h! (show Own ((((w3.setCell ⟨br,0,none⟩ (.int .i64 r.k)).setCell ⟨br,1,none⟩ (.string r.a)).setCell ⟨br,2,none⟩ (.string r.b)).setCell ⟨br,3,none⟩ (.slice none 0 0)) (w.heap.size+1) 106 4 u11 (bQ! ps)from by
   have d:∀g,u11.ownBlock=some g->g≠br:=fun g hg e=>by have:=Y.out g hg;omega
   exact Q.keepOwn fun g hg=>by
    have h:=d g hg;rw[Below.heap_setCell _ _ _ _ h,Below.heap_setCell _ _ _ _ h,Below.heap_setCell _ _ _ _ h,Below.heap_setCell _ _ _ _ h])
  clear F H G T aj ae J Q ap aq ac a3 B a7 R;cases ys with
  | nil =>
   obtain rfl:n3=0:=by have:=a8.out;simp at this;omega
   have V:=A.out;by_cases hp0:ps=[]
   ·subst hp0;go_wp2_with (at_builtin;go_must (refine an! ruleT rfl (.tmp 42) (.tmp 44) rfl rfl D.out (by show Value.slice (some ⟨w3.heap.size,0,none⟩) 1 1=_;simp) rfl (by simp[Value.oneCell']) (by have:=A.out;rw[aF!];(try simp);(try omega)) (by have:=A.out;rw[aF!];(try simp);(try omega)) u.out ?_;intro v4 w4 hown4 hb4 hgr4;have t:Hid (Own w4 (w.heap.size+1) 106 4 v4 (bQ! ([r]))):=h! (by exact hown4);have j:Hid (Blk w4 w.heap.size #[.int .i64 0,.string ⟨#[]⟩,.string ⟨#[]⟩,.slice none 0 0] 106):=h! ((hb4.block _ (Nat.lt_succ_self _)).trans (E.out.blk a9.out (.inr rfl)));have M:=h! (ad.out.trans (hb4.mono (Nat.le_succ _)));have f:Hid (∀b,S b->w4.heap[b]?=w3.heap[b]?):=h! (fun b hb=>(hb4.block b (Nat.lt_succ_of_lt (q.out b hb))).trans (E.out.block b (.inl hb)));have L:=h! (p.out.same f.out);obtain⟨s,c4,rfl,C,a5,X⟩:=eb! t.out.sl;obtain⟨g4,aK,rfl,aT,k0,k1,k2,k3⟩:=X 0 (by simp);simp only[Nat.zero_mul,Nat.add_zero,List.getElem_cons_zero]at k0 k1 k2 k3;have r4:=j.out.cells;have f4:=j.out.free;clear X C;clear hown4 hb4 hgr4))
    have K:=h! (show altR x0 ys0=r from nH! (by have:=l.out;rw[a4.out]at this;exact this));have F:=j.out.set_to 0 (.int .i64 r.k) rfl;have H:=F.set_to 1 (.string r.a) rfl;have G:=H.set_to 2 (.string r.b) rfl;have T:=G.set_to 3 (.slice none 0 0) rfl;have ag:=setAt (i:=3) (v := .slice none 0 0) (setAt (i:=2) (v := .string r.b) (setAt (i:=1) (v := .string r.a) (setAt (i:=0) (v := .int .i64 r.k) M.out)));have d:¬ S w.heap.size:=fun h=>by have:=q.out _ h;omega
    have a2:=((((Kept.refl S w4).set (a:=⟨w.heap.size,0,none⟩) d (.int .i64 r.k)).set (a:=⟨w.heap.size,1,none⟩) d (.string r.a)).set (a:=⟨w.heap.size,2,none⟩) d (.string r.b)).set (a:=⟨w.heap.size,3,none⟩) d (.slice none 0 0);have au:=((((Kept.refl (fun x=>w.heap.size+1<=x) w4).set (a:=⟨w.heap.size,0,none⟩) (Nat.not_succ_le_self _) (.int .i64 r.k)).set (a:=⟨w.heap.size,1,none⟩) (Nat.not_succ_le_self _) (.string r.a)).set (a:=⟨w.heap.size,2,none⟩) (Nat.not_succ_le_self _) (.string r.b)).set (a:=⟨w.heap.size,3,none⟩) (Nat.not_succ_le_self _) (.slice none 0 0);refine bodyPost_ret (v := .tuple #[.agg #[.int .i64 r.k,.string r.a,.string r.b,.slice none 0 0],.slice al 0 c3,.bool true]) ?_ rfl ⟨_,.slice none 0 0,by rw[K.out];rfl,?_,?_,ag⟩
    ·rw[ak! rfl];have hl:=run_loadVar_row (P:=prog) _ w.heap.size _ 106 _ _ _ T Tryz.underlying106 rfl (by kernel_rfl);simp[asAddr,hl,Result.andThen]
    ·exact L.out.same a2.block
    ·rw[K.out];exact RTAt.leaf _ _ ax.out.2
   ·have aw:1<=ps.length:=by cases ps with | nil=>exact absurd rfl hp0 | cons _ _=>simp
    have aD:=h! aw;clear hp0 aw V;go_wp2_with (at_builtin;go_must (refine an! ruleT rfl (.tmp 42) (.tmp 44) rfl rfl D.out (by show Value.slice (some ⟨w3.heap.size,0,none⟩) 1 1=_;simp) rfl (by simp[Value.oneCell']) (by have:=A.out;rw[aF!];(try simp);(try omega)) (by have:=A.out;rw[aF!];(try simp);(try omega)) u.out ?_;intro v4 w4 hown4 hb4 hgr4;have t:=h! (show Own w4 (w.heap.size+1) 106 4 v4 (bQ! (ps++[r]))from by rw[cz!];exact hown4);have j:Hid (Blk w4 w.heap.size #[.int .i64 0,.string ⟨#[]⟩,.string ⟨#[]⟩,.slice none 0 0] 106):=h! ((hb4.block _ (Nat.lt_succ_self _)).trans (E.out.blk a9.out (.inr rfl)));have M:=h! (ad.out.trans (hb4.mono (Nat.le_succ _)));have f:Hid (∀b,S b->w4.heap[b]?=w3.heap[b]?):=h! (fun b hb=>(hb4.block b (Nat.lt_succ_of_lt (q.out b hb))).trans (E.out.block b (.inl hb)));have L:=h! (p.out.same f.out);obtain⟨s,c4,rfl,C,a5,-⟩:=eb! t.out.sl;have HM:=h! (show 2<=(ps++[r]).length from by have:=aD.out;simp;omega);have ay:=h! (show ps++[r]=(x0::ys0).map leafD from by have:=l.out;rw[a4.out]at this;exact this);generalize ps++[r]=pr at *;obtain⟨m,hm⟩:=e! pr.length;rw[<-hm]at t HM C ⊢;have aB:=h! hm;have aR:((m:Int) == 1)=false:=(by have:=HM.out;rw[n7!];omega);clear hm;have r4:=j.out.cells;have f4:=j.out.free;clear hown4 hb4 hgr4))
    have K:=h! (show altR x0 ys0= .mk 4 ⟨#[]⟩ ⟨#[]⟩ pr from ml! ay.out (by have:=HM.out;have:=aB.out;omega));have F:=j.out.set_to 0 (.int .i64 4) rfl;have H:=F.set_to 1 (.string ⟨#[]⟩) rfl;have G:=H.set_to 2 (.string ⟨#[]⟩) rfl;have T:=G.set_to 3 (.slice s m c4) rfl;have ag:=setAt (i:=3) (v := .slice s m c4) (setAt (i:=2) (v := .string ⟨#[]⟩) (setAt (i:=1) (v := .string ⟨#[]⟩) (setAt (i:=0) (v := .int .i64 4) M.out)));have d:¬ S w.heap.size:=fun h=>by have:=q.out _ h;omega
    have a2:=((((Kept.refl S w4).set (a:=⟨w.heap.size,0,none⟩) d (.int .i64 4)).set (a:=⟨w.heap.size,1,none⟩) d (.string ⟨#[]⟩)).set (a:=⟨w.heap.size,2,none⟩) d (.string ⟨#[]⟩)).set (a:=⟨w.heap.size,3,none⟩) d (.slice s m c4);have au:=((((Kept.refl (fun x=>w.heap.size+1<=x) w4).set (a:=⟨w.heap.size,0,none⟩) (Nat.not_succ_le_self _) (.int .i64 4)).set (a:=⟨w.heap.size,1,none⟩) (Nat.not_succ_le_self _) (.string ⟨#[]⟩)).set (a:=⟨w.heap.size,2,none⟩) (Nat.not_succ_le_self _) (.string ⟨#[]⟩)).set (a:=⟨w.heap.size,3,none⟩) (Nat.not_succ_le_self _) (.slice s m c4);refine bodyPost_ret (v := .tuple #[.agg #[.int .i64 4,.string ⟨#[]⟩,.string ⟨#[]⟩,.slice s m c4],.slice al 0 c3,.bool true]) ?_ rfl ⟨_,.slice s m c4,by rw[K.out];rfl,?_,?_,ag⟩
    ·rw[ak! rfl];have hl:=run_loadVar_row (P:=prog) _ w.heap.size _ 106 _ _ _ T Tryz.underlying106 rfl (by kernel_rfl);simp[asAddr,hl,Result.andThen]
    ·exact L.out.same a2.block
    ·rw[K.out];refine RTAt.leafs (lP! (qs:=[]) (by rw[List.append_nil];exact ay.out)) ?_ _ _ _;exact(t.out.sl.same (fun b hb=>au.block b hb.1)).mono fun b hb=>⟨Nat.le_of_succ_le hb.1,by simpa using hb.2⟩
  | cons y ys =>
   have ak:2<=n3:=by have:=a8.out;simp at this;omega
   obtain⟨b5,O,rfl,az,a1⟩:=ez! p.out (by unfold barT;simp);rw[show(barT (y::ys))[0]'(by unfold barT;simp)=⟨#[124]⟩from by simp[barT]]at a1;have aN:((n3:Int) == 0)=false:=by rw[n7!];omega
   have a0:(0:Int)<(n3:Int):=by omega
   have aS:(1:Int)<=(n3:Int):=by omega
   have aM:(n3:Int)<=(c3:Int):=by omega
   have aU:(1:Int)<=(c3:Int):=by omega
   have aQ:¬ c3=1:=by omega
   have aP:¬ (c3:Int)=1:=by omega
   have aH:=h! ak;clear ak;go_wp2_with (at_builtin;go_must (refine an! ruleT rfl (.tmp 42) (.tmp 44) rfl rfl D.out (by show Value.slice (some ⟨w3.heap.size,0,none⟩) 1 1=_;simp) rfl (by simp[Value.oneCell']) (by have:=A.out;rw[aF!];(try simp);(try omega)) (by have:=A.out;rw[aF!];(try simp);(try omega)) u.out ?_;intro v4 w4 hown4 hb4 hgr4;have t:=h! (show Own w4 (w.heap.size+1) 106 4 v4 (bQ! (ps++[r]))from by rw[cz!];exact hown4);have j:Hid (Blk w4 w.heap.size #[.int .i64 0,.string ⟨#[]⟩,.string ⟨#[]⟩,.slice none 0 0] 106):=h! ((hb4.block _ (Nat.lt_succ_self _)).trans (E.out.blk a9.out (.inr rfl)));have M:=h! (ad.out.trans (hb4.mono (Nat.le_succ _)));have f:Hid (∀b,S b->w4.heap[b]?=w3.heap[b]?):=h! (fun b hb=>(hb4.block b (Nat.lt_succ_of_lt (q.out b hb))).trans (E.out.block b (.inl hb)));have L:=h! (p.out.same f.out);have d5:w4.cell? ⟨b5,O,none⟩=some (.string ⟨#[124]⟩):=(World.cell?_of_block (a:=⟨b5,O,none⟩) (f.out b5 az)).trans a1;clear a1;clear hown4 hb4 hgr4))
   go_roundw
   case rel =>
    refine⟨ps++[r],y,ys,fun z hz=>am.out z (u9! _ hz),?_,t.out,?_,j.out,M.out⟩
    ·have:=L.out.drop 1 (by have:=aH.out;omega);rwa[show(txs (barT (y::ys))).drop 1=txs (altT y ys)from rfl]at this
    ·rw[<-l.out,a4.out];simp
   case measure =>
    have h1:=aJ.out;have h2:=a8.out;unfold altT at h1;rw[u7!,cv!]at h1;show n3-1<n1
    omega
theorem lt! {S:Nat->Prop}(x0:ByteArray)(ys0:List ByteArray)(v:Value)(w:World)(hSw:∀b,S b->b<w.heap.size)(hx0:∀z∈x0::ys0,isNm z=true)(hl0:ys0.length<=100000)(h:Sl S w 1 v (txs (altT x0 ys0))) :
  Calls prog 97 #[v,.int .i64 0] w fun e w'=>∃v' pv,e= .returned (.tuple #[rV (altR x0 ys0) pv,v',.bool true])/\Sl S w' 1 v' []/\RTAt (fun b=>w.heap.size<=b/\b<w'.heap.size) w' (altR x0 ys0) pv/\Below w.heap.size w w':=by
 have o:=h! hSw;have l:=Ext.alloc w (.cells #[.int .i64 0,.string ⟨#[]⟩,.string ⟨#[]⟩,.slice none 0 0] 106);have u:=h! (Blk.made w #[.int .i64 0,.string ⟨#[]⟩,.string ⟨#[]⟩,.slice none 0 0] 106);have m:=h! (fo! (S:=S) x0 ys0 v (w.alloc (.cells #[.int .i64 0,.string ⟨#[]⟩,.string ⟨#[]⟩,.slice none 0 0] 106)) (fun b hb=>n1! (o.out b hb) l.size) hx0 hl0 (h.same ((Same.below l).mono o.out)));have y:=h! l;obtain⟨ao,n,c,rfl,-,-,-⟩:=h.len;clear hSw hx0 hl0 h l;generalize altR x0 ys0=r at *;unfold rV at m ⊢;go_enter func97,ntmps97
 go_wp2_with fail
 refine m.out.mono ?_;rintro e w3 ⟨v3,pv,rfl,f,d,q⟩;have s:=h! (u.out.below q);have a4:Hid (Below w.heap.size w w3):=h! (y.out.trans q);have p:=h! f;have t:=h! d;have a2:=h! u.out.lt;obtain⟨a5,n3,c3,rfl,-,-,-⟩:=f.len;obtain⟨g,A,rfl,-,-,-⟩:=d.rows;clear q u y m f d;have r3:=s.out.cells;have f3:=s.out.free;go_wp2_with fail
 have a8:=s.out.set_to 0 (.int .i64 r.k) rfl;have a7:=a8.set_to 1 (.string r.a) rfl;have a3:=a7.set_to 2 (.string r.b) rfl;have a0:=a3.set_to 3 (.slice g r.ps.length A) rfl;have a9:=setAt (i:=3) (v := .slice g r.ps.length A) (setAt (i:=2) (v := .string r.b) (setAt (i:=1) (v := .string r.a) (setAt (i:=0) (v := .int .i64 r.k) a4.out)));have j:¬ S w.heap.size:=fun h=>by have:=o.out _ h;omega
 have a6:=((((Kept.refl S w3).set (a:=⟨w.heap.size,0,none⟩) j (.int .i64 r.k)).set (a:=⟨w.heap.size,1,none⟩) j (.string r.a)).set (a:=⟨w.heap.size,2,none⟩) j (.string r.b)).set (a:=⟨w.heap.size,3,none⟩) j (.slice g r.ps.length A);have a1:=((((Kept.refl (fun x=>w.heap.size+1<=x) w3).set (a:=⟨w.heap.size,0,none⟩) (Nat.not_succ_le_self _) (.int .i64 r.k)).set (a:=⟨w.heap.size,1,none⟩) (Nat.not_succ_le_self _) (.string r.a)).set (a:=⟨w.heap.size,2,none⟩) (Nat.not_succ_le_self _) (.string r.b)).set (a:=⟨w.heap.size,3,none⟩) (Nat.not_succ_le_self _) (.slice g r.ps.length A);refine bodyPost_ret (v := .tuple #[.agg #[.int .i64 r.k,.string r.a,.string r.b,.slice g r.ps.length A],.slice a5 n3 c3,.bool true]) ?_ rfl ⟨_,.slice g r.ps.length A,rfl,?_,?_,a9⟩
 ·rw[ak! rfl];have hl:=run_loadVar_row (P:=prog) _ w.heap.size _ 106 _ _ _ a0 Tryz.underlying106 rfl (by kernel_rfl);simp[asAddr,hl,Result.andThen]
 ·exact p.out.same a6.block
 ·have h1:=a2.out;exact(t.out.same fun b hb=>a1.block b (by have:=hb.1;simp at this;omega)).mono fun b hb=>⟨by have:=hb.1;simp at this;omega,by simpa using hb.2⟩
end Go.Proofs.YtlhaghoajpglaaaGreat
