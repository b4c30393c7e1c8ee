/- Lemmas for the claim, no condition. -/
import Derived.Test.YtlhaghoajpglaaaGreatYLkSets3
import Derived.Test.YtlhaghoajpglaaaGreatYLkSets1
import Derived.Test.YtlhaghoajpglaaaGreatYLkSets2
import Derived.Test.YtlhaghoajpglaaaGreatYLkSets0
set_option maxRecDepth 100000
set_option maxHeartbeats 3000000
namespace Go.Proofs.YtlhaghoajpglaaaGreat
open Go Go.RowKit Go.Maps
theorem sign_any (c:UInt8)(w:World):Calls Tryz.prog 149 #[.int .u8 (c.toNat:Int)] w fun e w'=>e = .returned (.bool (okc c))/\w'=w:=by
 go_enter Tryz.func149,Tryz.ntmps149
 have HG:=h! (show okc c=decide ((97<=(c.toNat:Int)/\(c.toNat:Int)<=122)\/(48<=(c.toNat:Int)/\(c.toNat:Int)<=57)\/(c.toNat:Int)=95\/(c.toNat:Int)=45)from rfl);generalize okc c=g at *;generalize (c.toNat:Int)=n at *;by_cases a1:(97:Int)<=n
 all_goals by_cases a2:n<=122
 all_goals by_cases a3:(48:Int)<=n
 all_goals by_cases a4:n<=57
 all_goals cases a5:(n == 95)
 all_goals cases a6:(n == 45)
 all_goals try simp only[beq_iff_eq,beq_eq_false_iff_ne,ne_eq]at a5 a6
 all_goals first
  | (exfalso;omega)
  | (have b5:(n == 95)=true:=by rw[beq_iff_eq];exact a5
     have b6:(n == 45)=false:=by rw[beq_eq_false_iff_ne];omega
     go_wp2_with fail
     go_ret
     exact⟨congrArg (fun b=>Ending.returned (Value.bool b)) (HG.out.trans (decide_eq_true (by omega))).symm,rfl⟩)
  | (have b5:(n == 95)=false:=by rw[beq_eq_false_iff_ne];omega
     have b6:(n == 45)=true:=by rw[beq_iff_eq];exact a6
     go_wp2_with fail
     go_ret
     exact⟨congrArg (fun b=>Ending.returned (Value.bool b)) (HG.out.trans (decide_eq_true (by omega))).symm,rfl⟩)
  | (have b5:(n == 95)=false:=by rw[beq_eq_false_iff_ne];omega
     have b6:(n == 45)=false:=by rw[beq_eq_false_iff_ne];omega
     go_wp2_with fail
     go_ret
     first
       | exact⟨congrArg (fun b=>Ending.returned (Value.bool b)) (HG.out.trans (decide_eq_true (by omega))).symm,rfl⟩
       | exact⟨congrArg (fun b=>Ending.returned (Value.bool b)) (HG.out.trans (decide_eq_false (by omega))).symm,rfl⟩)
theorem blank1_any (s:ByteArray)(_hs:s.size<=maxLen)(h2:2<=s.size)(c:UInt8)(hc:s[0]'(by omega)=c)(h32:c≠32)(h9:c≠9)(hr:s.extract 0 2≠⟨#[47,47]⟩)(w:World):Calls Tryz.prog 94 #[.string s] w fun e w'=>e = .returned (.bool false)/\w'=w:=by
 have q1:((c.toNat:Int) != 32)=true:=by
  rw[bne_iff_ne];intro e;exact h32 (UInt8.toNat_inj.1 (by exact_mod_cast e))
 have q2:((c.toNat:Int) != 9)=true:=by
  rw[bne_iff_ne];intro e;exact h9 (UInt8.toNat_inj.1 (by exact_mod_cast e))
 have q3:(1:Int)<(s.size:Int):=by omega
 have q4:0<s.size:=by omega
 have hne:=ba_beq' hr;rw[<- ByteArray.toList_eq,show(⟨#[47,47]⟩:ByteArray).data.toList=[47,47]from rfl]at hne;clear h32 h9 hr;go_enter Tryz.func94,Tryz.ntmps94
 go_wp2_with fail
 go_loopw [3] (fun ii wr=>ii = .int .i64 0/\wr=w) (fun _ _=>0)
 case atStart=>exact⟨rfl,rfl⟩
 case round =>
  obtain⟨rfl,rfl⟩:=hrel;go_wp2_with fail
  go_ret
  exact⟨rfl,rfl⟩
def lnStep (p:List ByteArray × ByteArray)(c:UInt8):List ByteArray × ByteArray:=if c=10 then(p.1++[p.2],⟨#[]⟩)else(p.1,p.2.push c)
def linesD (s:ByteArray):List ByteArray:=let p:=s.data.toList.foldl lnStep ([],⟨#[]⟩);p.1++[p.2]
theorem foldl_take {β:Type} (f:β->UInt8->β)(b:β)(s:ByteArray) {i:Nat} (hi:i<s.size):(s.data.toList.take (i+1)).foldl f b=f ((s.data.toList.take i).foldl f b) s[i]:=by
 rw[List.take_succ_eq_append_getElem (by simpa using hi),List.foldl_append];rfl
theorem push_ext (a s:ByteArray) {i:Nat} (hi:i<s.size):a++s.extract i (i+1)=a.push s[i]:=by
 refine ByteArray.ext ?_;rw[ByteArray.data_append,ByteArray.data_extract,ByteArray.data_push];refine Array.ext' ?_;simp only[Array.toList_append,Array.toList_push,Array.toList_extract];congr 1
 rw[List.extract_eq_take_drop,show i+1-i=1 from by omega,List.drop_eq_getElem_cons (by simpa using hi)];rfl
theorem lines_any (s:ByteArray)(hs:s.size<=65536)(w:World):Calls Tryz.prog 93 #[.string s] w fun e w'=>∃ v,e = .returned v/\Own w' w.heap.size 9 1 v (txs (linesD s))/\Below w.heap.size w w':=by
 have hsz:s.size<=9223372036854775807:=by omega
 have HS:=h! hs;have HD:=h! (show linesD s=(s.data.toList.foldl lnStep ([],⟨#[]⟩)).1++[(s.data.toList.foldl lnStep ([],⟨#[]⟩)).2]from rfl);have HO0:=h! (Own.lit w (Nat.le_refl _) 9 1 1 #[.string ⟨#[]⟩] rfl (by decide) (by decide));have HB0:=h! (show Below w.heap.size w (w.alloc (.cells #[.string ⟨#[]⟩] 9))from Ext.alloc _ _);clear hs;go_enter Tryz.func93,Tryz.ntmps93
 go_wp2_with fail
 go_loopw [3,4] (fun ov ii wr=>∃ (i:Nat) (p:List ByteArray × ByteArray),i<=s.size/\ii = .int .i64 i/\p=(s.data.toList.take i).foldl lnStep ([],⟨#[]⟩)/\Own wr w.heap.size 9 1 ov (txs (p.1++[p.2]))/\Below w.heap.size w wr/\p.1.length<=i/\p.2.size<=i) (fun _ ii _=>s.size-(intOf ii).toNat)
 case atStart=>exact⟨0,([],⟨#[]⟩),by omega,rfl,rfl,HO0.out,HB0.out,Nat.zero_le _,Nat.zero_le _⟩
 case round =>
  obtain⟨i,⟨pre,cur⟩,hi,rfl,hp,hown,hbel,hpl,hcl⟩:=hrel;dsimp only at hown hpl hcl;have HP:=h! hp;have HOW:=h! hown;have HBL:=h! hbel;have HPL:=h! hpl;have HCL:=h! hcl;clear HO0 HB0 hp hpl hcl hbel;by_cases hlt:i<s.size
  ·have HST:=h! (foldl_take lnStep ([],⟨#[]⟩) s hlt);have HPX:=h! (push_ext cur s hlt);have hi1:wrap64 ((i:Int)+1)=((i+1:Nat):Int):=by rw[wrap_in _ (by omega) (by omega)];omega
   by_cases hc:s[i]=10
   ·have HN:=h! (show(pre++[cur],(⟨#[]⟩:ByteArray))=(s.data.toList.take (i+1)).foldl lnStep ([],⟨#[]⟩)from by rw[HST.out,<- HP.out,hc];rfl);clear hown;go_wp2_with (at_builtin;go_must (refine wpList_own_lit textsT rfl (.tmp 16) (.tmp 17) rfl rfl HOW.out rfl rfl (by simp[Value.oneCell']) (by have:=HPL.out;have:=HS.out;rw[txs_length];simp;omega) (by have:=HPL.out;have:=HS.out;rw[txs_length];simp;omega) HBL.out.size ?_);intro v2 w2 hown2 hb2 hgr2)
    have HB2:=h! (HBL.out.trans hb2);have HO2:=h! (show Own w2 w.heap.size 9 1 v2 (txs (pre++[cur]++[⟨#[]⟩]))from by rw[txs_append];exact hown2);clear hown2 hb2 hgr2;go_wp2_with fail
    go_roundw
    case rel=>exact⟨i+1,(pre++[cur],⟨#[]⟩),by omega,by go_num,HN.out,HO2.out,HB2.out,by have:=HPL.out;simp;omega,Nat.zero_le _⟩
    case measure=>simp[intOf];omega
   ·have HN:=h! (show(pre,cur.push s[i])=(s.data.toList.take (i+1)).foldl lnStep ([],⟨#[]⟩)from by rw[HST.out,<- HP.out];unfold lnStep;rw[if_neg hc]);obtain⟨g,c,cs,rfl,hBg,hblk,hlc,hcm,hcell⟩:=hown.lay (by simp[txs]);have hlen:(txs (pre++[cur])).length=pre.length+1:=by rw[txs_length];simp
    have hcl:=hcell pre.length (by omega);rw[hlen]at hlc HOW;rw[hlen];have hcv:(txs (pre++[cur]))[pre.length]'(by omega) = .string cur:=by simp[txs]
    rw[hcv]at hcl;have hce:wr.cell? ⟨g,pre.length,none⟩=some (.string cur):=by rw[hblk.cells];exact hcl
    have HSET:=h! (show(txs (pre++[cur])).set pre.length (.string (cur.push s[i]))=txs (pre++[cur.push s[i]])from by simp[txs])
    have hne:((s[i].toNat:Int) == 10)=false:=by
     rw[beq_eq_false_iff_ne];intro e;exact hc (UInt8.toNat_inj.1 (by exact_mod_cast e))
    have hpx:=HPX.out;have hpl:=HPL.out;clear hcv hcell hown;have HLN:=h! (rfl:pre.length=pre.length);clear HLN hlen;obtain⟨n2,hn2⟩:∃ n2,n2=pre.length:=⟨_,rfl⟩;rw[<- hn2]at HOW HSET hlc hcl hce hpl ⊢;have hw1:wrap64 ((n2:Int)+1-1)=(n2:Int):=by rw[Int.add_sub_cancel];exact wrap_in _ (by omega) (by omega)
    have hw3:IntKind.i64.wrap (n2:Int)=(n2:Int):=IntWalk.i64_in _ (by omega);obtain⟨i1,hi1'⟩:∃ i1,i1=i+1:=⟨_,rfl⟩;rw[<- hi1']at hi1 HN hpx;have HI1:=h! hi1';have hi2:IntKind.i64.wrap ((i:Int)+1)=(i1:Int):=by rw[IntWalk.i64_in _ (by omega)];omega
    have hpos:(0:Int)<(n2:Int)+1:=by omega
    have hlt1:(n2:Int)<(n2:Int)+1:=by omega
    have h0n:(0:Int)<=(n2:Int):=by omega
    have h0i:(0:Int)<=(i:Int):=by omega
    have h1i:(i:Int)<=(i1:Int):=by omega
    have h2i:(i1:Int)<=(s.size:Int):=by omega
    have hA:∀ W,Ext wr W->W.cell? ⟨g,n2,none⟩=some (.string cur):=fun W h=>by
     exact Ext.cell h hce
    have hcat:¬ 9223372036854775807<cur.size+(min i1 s.size-i):=by have:=HCL.out;omega
    clear hn2 hc hi1' hce;go_wp2_with fail
    obtain⟨wd,hwd⟩:∃ x,x=wr.drew:=⟨_,rfl⟩;have hE:Ext wr wd:=by rw[hwd];exact Ext.drew wr
    refine region_walkL 17 (Ext wr) (by rw[<- hwd];exact hE) (by kernel_rfl) (by kernel_rfl) (fun _ _ d _ _ h=>by cases d <;> exact h) ?_;rw[<- hwd];clear hwd;have HST1:=h! ((HOW.out.below hE).set1 n2 (.string (cur.push s[i])));rw[HSET.out]at HST1;have hfr:=(hblk.below hE).free;have hrd:=(hblk.below hE).cells;have HBE:=h! (show Below w.heap.size w (wd.setCell ⟨g,n2,none⟩ (.string (cur.push s[i])))from(HBL.out.trans (hE.mono HBL.out.size)).setCell hBg _);(refine WalkL.tk [0,1,2,3,4,5,6,7,8,9,10,11,12,13,14,15,16] ?_;(iterate 17 (refine l! ?_));refine TkL.n ?_)
    clear hA;refine WalkL.last (by kernel_rfl) (by kernel_rfl) ?_;refine b! ?_;intro K hK;go_simp;refine hK.out _ _ ?_;clear hK hrd hfr hcl;go_wp2_with fail
    go_roundw
    case rel=>exact⟨i1,(pre,cur.push s[i]),by omega,by go_num,HN.out,HST1.out,HBE.out,by have:=HPL.out;have:=HI1.out;dsimp only;omega,by have:=HCL.out;have:=HI1.out;dsimp only;rw[ByteArray.size_push];omega⟩
    case measure=>have:=HI1.out;simp[intOf];omega
  ·obtain rfl:i=s.size:=by omega
   rw[List.take_of_length_le (by simp)]at HP;have HF:=h! (show linesD s=pre++[cur]from by rw[HD.out,<- HP.out]);clear hown;go_wp2_with fail
   go_ret
   exact⟨_,rfl,by rw[HF.out];exact HOW.out,HBL.out⟩
def isW (c:UInt8):Bool:=decide (97<=c.toNat/\c.toNat<=122)
def plainC (c:UInt8):Bool:=decide (c=32)||(decide (c=61)||(decide (c=124)||isW c))
def wdEnd (s:ByteArray):Nat->Nat->Nat
 | 0,n=>n
 | f+1,n=>if h:n<s.size then if isW s[n]then wdEnd s f (n+1)else n else n
def tokR (s:ByteArray):Nat->Nat->List ByteArray->List ByteArray
 | 0,_,out=>out
 | f+1,i,out=>if h:i<s.size then(if s[i]=32 then tokR s f (i+1) out else if s[i]=61\/s[i]=124 then tokR s f (i+1) (out++[s.extract i (i+1)])else tokR s f (wdEnd s s.size i) (out++[s.extract i (wdEnd s s.size i)]))else out
def toksD (s:ByteArray):List ByteArray:=tokR s s.size 0 []
theorem tokR_end {s:ByteArray} {f i:Nat} {out:List ByteArray} (h:s.size<=i):tokR s f i out=out:=by
 cases f with
 | zero=>rfl
 | succ f=>rw[tokR,dif_neg (by omega)]
theorem wdEnd_ge (s:ByteArray):∀ (f n:Nat),n<=wdEnd s f n
 | 0,n=>Nat.le_refl _
 | f+1,n=>by
  rw[wdEnd];split
  ·split
   ·have:=wdEnd_ge s f (n+1);omega
   ·exact Nat.le_refl _
  ·exact Nat.le_refl _
theorem wdEnd_gt {s:ByteArray} {n:Nat} (h:n<s.size)(hw:isW s[n]=true):n<wdEnd s s.size n:=by
 obtain⟨f,hf⟩:∃ f,s.size=f+1:=⟨s.size-1,by omega⟩;rw[hf,wdEnd,dif_pos h,if_pos hw];have:=wdEnd_ge s f (n+1);omega
theorem isW_okc {c:UInt8} (h:plainC c=true):okc c=isW c:=by
 unfold plainC at h;simp only[Bool.or_eq_true,decide_eq_true_eq]at h;rcases h with rfl | rfl | rfl | h
 ·rfl
 ·rfl
 ·rfl
 ·rw[h];unfold isW at h;have h2:=of_decide_eq_true h;unfold okc;exact decide_eq_true (.inl (by omega))
theorem u8_ne {c d:UInt8} (h:c≠d):((c.toNat:Int) == (d.toNat:Int))=false:=by
 rw[beq_eq_false_iff_ne];intro e;exact h (UInt8.toNat_inj.1 (by exact_mod_cast e))
theorem tokens_any (s:ByteArray)(hs:s.size<=65536)(hp:∀ j (hj:j<s.size),plainC s[j]=true)(w:World):Calls Tryz.prog 95 #[.string s] w fun e w'=>∃ v,e = .returned (.tuple #[v,.bool true])/\Own w' w.heap.size 9 1 v (txs (toksD s))/\Below w.heap.size w w':=by
 have hsz:s.size<=9223372036854775807:=by omega
 have HS:=h! hs;have HPC:=h! hp;have HD:=h! (show toksD s=tokR s s.size 0 []from rfl);clear hs hp;go_enter Tryz.func95,Tryz.ntmps95
 go_wp2_with fail
 go_loopw [4,5] (fun ov ii wr=>∃ (i f:Nat) (out:List ByteArray),i<=s.size/\ii = .int .i64 i/\s.size-i<=f/\tokR s f i out=toksD s/\Own wr w.heap.size 9 1 ov (txs out)/\Below w.heap.size w wr/\out.length<=i) (fun _ ii _=>s.size-(intOf ii).toNat)
 case atStart=>exact⟨0,s.size,[],by omega,rfl,by omega,rfl,Own.nil _ _ _ _,Below.refl _ _,Nat.zero_le _⟩
 case round =>
  obtain⟨i,f,out,hi,rfl,hf,hr,hown,hbel,hol⟩:=hrel;have HR:=h! hr;have HOW:=h! hown;have HBL:=h! hbel;have HOL:=h! hol;have HF:=h! hf;clear hr hown hbel hol hf;by_cases hlt:i<s.size
  ·obtain⟨f,rfl⟩:∃ g,f=g+1:=⟨f-1,by have:=HF.out;omega⟩;have hpc:=HPC.out i hlt;have HR2:=h! (show(if s[i]=32 then tokR s f (i+1) out else if s[i]=61\/s[i]=124 then tokR s f (i+1) (out++[s.extract i (i+1)])else tokR s f (wdEnd s s.size i) (out++[s.extract i (wdEnd s s.size i)]))=toksD s from by rw[<- HR.out,tokR,dif_pos hlt]);by_cases h32:s[i]=32
   ·have HN:=h! (show tokR s f (i+1) out=toksD s from by rw[<- HR2.out,if_pos h32]);clear hpc;go_wp2_with fail
    go_roundw
    case rel=>exact⟨i+1,f,out,by omega,by go_num,by have:=HF.out;omega,HN.out,HOW.out,HBL.out,by have:=HOL.out;omega⟩
    case measure=>simp[intOf];omega
   ·have q32:((s[i].toNat:Int) == 32)=false:=u8_ne (d:=32) h32
    have q9:((s[i].toNat:Int) == 9)=false:=u8_ne (d:=9) (by
     intro e;rw[e]at hpc;exact absurd hpc (by decide))
    by_cases hsg:s[i]=61\/s[i]=124
    ·have HN:=h! (show tokR s f (i+1) (out++[s.extract i (i+1)])=toksD s from by rw[<- HR2.out,if_neg h32,if_pos hsg]);clear hpc q32 q9 h32;rcases hsg with h61 | h124
     ·go_wp2_with (at_builtin;go_must (refine wpList_own_lit textsT rfl (.tmp 43) (.tmp 49) rfl rfl HOW.out rfl rfl (by simp[Value.oneCell']) (by have:=HOL.out;have:=HS.out;rw[txs_length];simp;omega) (by have:=HOL.out;have:=HS.out;rw[txs_length];simp;omega) HBL.out.size ?_);intro v2 w2 hown2 hb2 hgr2)
      have HB2:=h! (HBL.out.trans hb2);have HO2:=h! (show Own w2 w.heap.size 9 1 v2 (txs (out++[s.extract i (i+1)]))from by rw[txs_append];exact hown2);clear hown2 hb2 hgr2;go_wp2_with fail
      go_roundw
      case rel=>exact⟨i+1,f,_,by omega,by go_num,by have:=HF.out;omega,HN.out,HO2.out,HB2.out,by have:=HOL.out;simp;omega⟩
      case measure=>simp[intOf];omega
     ·go_wp2_with (at_builtin;go_must (refine wpList_own_lit textsT rfl (.tmp 43) (.tmp 49) rfl rfl HOW.out rfl rfl (by simp[Value.oneCell']) (by have:=HOL.out;have:=HS.out;rw[txs_length];simp;omega) (by have:=HOL.out;have:=HS.out;rw[txs_length];simp;omega) HBL.out.size ?_);intro v2 w2 hown2 hb2 hgr2)
      have HB2:=h! (HBL.out.trans hb2);have HO2:=h! (show Own w2 w.heap.size 9 1 v2 (txs (out++[s.extract i (i+1)]))from by rw[txs_append];exact hown2);clear hown2 hb2 hgr2;go_wp2_with fail
      go_roundw
      case rel=>exact⟨i+1,f,_,by omega,by go_num,by have:=HF.out;omega,HN.out,HO2.out,HB2.out,by have:=HOL.out;simp;omega⟩
      case measure=>simp[intOf];omega
    ·have hw:isW s[i]=true:=by
      unfold plainC at hpc;simp only[Bool.or_eq_true,decide_eq_true_eq]at hpc;rcases hpc with h | h | h | h
      ·exact absurd h h32
      ·exact absurd (.inl h) hsg
      ·exact absurd (.inr h) hsg
      ·exact h
     have HNX:=h! (show tokR s f (wdEnd s s.size i) (out++[s.extract i (wdEnd s s.size i)])=toksD s from by rw[<- HR2.out,if_neg h32,if_neg hsg]);have HIG:=h! (wdEnd_gt hlt hw);have q61:((s[i].toNat:Int) == 61)=false:=u8_ne (d:=61) (fun e=>hsg (.inl e));have q124:((s[i].toNat:Int) == 124)=false:=u8_ne (d:=124) (fun e=>hsg (.inr e));have q38:((s[i].toNat:Int) == 38)=false:=u8_ne (d:=38) (by intro e;rw[e]at hw;exact absurd hw (by decide));have q40:((s[i].toNat:Int) == 40)=false:=u8_ne (d:=40) (by intro e;rw[e]at hw;exact absurd hw (by decide));have q41:((s[i].toNat:Int) == 41)=false:=u8_ne (d:=41) (by intro e;rw[e]at hw;exact absurd hw (by decide));have q45:((s[i].toNat:Int) == 45)=false:=u8_ne (d:=45) (by intro e;rw[e]at hw;exact absurd hw (by decide));have HSG:=h! (sign_any s[i] wr);rw[isW_okc hpc,hw]at HSG;clear hpc h32 hsg hw;go_wp2_with fail
     refine HSG.out.mono ?_;rintro e w2 ⟨rfl,rfl⟩;clear HSG q32 q9 q61 q124 q38 q40 q41 q45;go_wp2_with fail
     rename World=>wo
     go_loopw [7] (fun nn wr=>∃ (n g:Nat),n<=s.size/\nn = .int .i64 n/\s.size-n<=g/\wdEnd s g n=wdEnd s s.size i/\i<=n/\wr=wo) (fun nn _=>s.size-(intOf nn).toNat)
     case atStart=>exact⟨i,s.size,by omega,rfl,by omega,rfl,Nat.le_refl _,rfl⟩
     case round =>
      obtain⟨n,g,hn,rfl,hg,he,hin,rfl⟩:=hrel;have HE:=h! he;have HGG:=h! hg;clear he hg;by_cases hln:n<s.size
      ·obtain⟨g,rfl⟩:∃ k,g=k+1:=⟨g-1,by have:=HGG.out;omega⟩;have hpc:=HPC.out n hln;cases hw:isW s[n] with
       | true =>
        have HE2:=h! (show wdEnd s g (n+1)=wdEnd s s.size i from by rw[<- HE.out,wdEnd,dif_pos hln,if_pos hw]);have q45:((s[n].toNat:Int) == 45)=false:=u8_ne (d:=45) (by intro e;rw[e]at hw;exact absurd hw (by decide));have HSG:=h! (sign_any s[n] wr);rw[isW_okc hpc,hw]at HSG;clear hpc hw;go_wp2_with fail
        refine HSG.out.mono ?_;rintro e w2 ⟨rfl,rfl⟩;clear HSG;go_wp2_with fail
        go_roundw
        case rel=>exact⟨n+1,g,by omega,by go_num,by have:=HGG.out;omega,HE2.out,by omega,trivial⟩
        case measure=>simp[intOf];omega
       | false =>
        have HEN:=h! (show n=wdEnd s s.size i from by rw[<- HE.out,wdEnd,dif_pos hln,if_neg (by rw[hw];simp)]);have HSG:=h! (sign_any s[n] wr);rw[isW_okc hpc,hw]at HSG;clear hpc hw;go_wp2_with fail
        refine HSG.out.mono ?_;rintro e w2 ⟨rfl,rfl⟩;clear HSG;have HN:=h! (show tokR s f n (out++[s.extract i n])=toksD s from by rw[HEN.out];exact HNX.out);have HGT:=h! (show i<n from by rw[HEN.out];exact HIG.out);have h0i:(0:Int)<=(i:Int):=by omega
        have h1i:(i:Int)<=(n:Int):=by omega
        have h2i:(n:Int)<=(s.size:Int):=by omega
        go_wp2_with (at_builtin;go_must (refine wpList_own_lit textsT rfl (.tmp 112) (.tmp 117) rfl rfl HOW.out rfl rfl (by simp[Value.oneCell']) (by have:=HOL.out;have:=HS.out;rw[txs_length];simp;omega) (by have:=HOL.out;have:=HS.out;rw[txs_length];simp;omega) HBL.out.size ?_);intro v2 w2 hown2 hb2 hgr2)
        have HB2:=h! (HBL.out.trans hb2);have HO2:=h! (show Own w2 w.heap.size 9 1 v2 (txs (out++[s.extract i n]))from by rw[txs_append];exact hown2);clear hown2 hb2 hgr2;go_wp2_with fail
        go_roundw
        case rel=>exact⟨n,f,_,by omega,by go_num,by have:=HF.out;have:=HGT.out;omega,HN.out,HO2.out,HB2.out,by have:=HOL.out;have:=HGT.out;simp;omega⟩
        case measure=>have:=HGT.out;simp[intOf];omega
      ·have HEN:=h! (show n=wdEnd s s.size i from by
        rw[<- HE.out];cases g with
        | zero=>rfl
        | succ g=>rw[wdEnd,dif_neg hln])
       have HN:=h! (show tokR s f n (out++[s.extract i n])=toksD s from by rw[HEN.out];exact HNX.out);have HGT:=h! (show i<n from by rw[HEN.out];exact HIG.out);have h0i:(0:Int)<=(i:Int):=by omega
       have h1i:(i:Int)<=(n:Int):=by omega
       have h2i:(n:Int)<=(s.size:Int):=by omega
       go_wp2_with (at_builtin;go_must (refine wpList_own_lit textsT rfl (.tmp 112) (.tmp 117) rfl rfl HOW.out rfl rfl (by simp[Value.oneCell']) (by have:=HOL.out;have:=HS.out;rw[txs_length];simp;omega) (by have:=HOL.out;have:=HS.out;rw[txs_length];simp;omega) HBL.out.size ?_);intro v2 w2 hown2 hb2 hgr2)
       have HB2:=h! (HBL.out.trans hb2);have HO2:=h! (show Own w2 w.heap.size 9 1 v2 (txs (out++[s.extract i n]))from by rw[txs_append];exact hown2);clear hown2 hb2 hgr2;go_wp2_with fail
       go_roundw
       case rel=>exact⟨n,f,_,by omega,by go_num,by have:=HF.out;have:=HGT.out;omega,HN.out,HO2.out,HB2.out,by have:=HOL.out;have:=HGT.out;simp;omega⟩
       case measure=>have:=HGT.out;simp[intOf];omega
  ·obtain rfl:i=s.size:=by omega
   have HFF:=h! (show toksD s=out from by rw[<- HR.out,tokR_end (Nat.le_refl _)]);go_wp2_with fail
   go_ret2
   exact⟨_,rfl,by rw[HFF.out];exact HOW.out,HBL.out⟩
def leafD (x:ByteArray):RT:=if x=⟨#[116,104,105,115]⟩then .mk 1 ⟨#[]⟩ ⟨#[]⟩ []else .mk 2 x ⟨#[]⟩ []
def cut1 (b off c:Nat):Option Addr:=if c=1 then some ⟨b,off,none⟩else some ⟨b,off+1,none⟩
theorem results_cell_tmp2 {fn:Func} {p u v:Tmp} {ty:TypeId} (h:fn.results=#[.cell p ty,.tmp u,.tmp v])(tmps:Array Value)(P:Program)(w:World) :
  (results fn tmps).run P w=((asAddr (tmps.getD p undef)).run P w).andThen fun a w₁=>((loadVar ty a).run P w₁).andThen fun x w₂ => .ok (.tuple #[x,tmps.getD u undef,tmps.getD v undef]) w₂:=by
 simp only[results,h];simp[Sem.run_bind,Result.andThen]
theorem nm_ne {x y:ByteArray} (h:isNm x=true)(hy:isNm y=false):x≠y:=fun e=>by rw[e,hy]at h;cases h
theorem one_any {S:Nat->Prop} (x:ByteArray)(rest:List ByteArray)(v:Value)(w:World)(hSw:∀ b,S b->b<w.heap.size)(hx:isNm x=true)(hr:∀ h:0<rest.length,rest[0]≠⟨#[45,62]⟩)(h:Sl S w 1 v (txs (x::rest))) :
  Calls Tryz.prog 203 #[v,.int .i64 0] w fun e w'=>∃ v',e = .returned (.tuple #[rV (leafD x) (.slice none 0 0),v',.bool true])/\Sl S w' 1 v' (txs rest)/\Below w.heap.size w w':=by
 obtain⟨ao,n,c,rfl,hn,hnc,hcm⟩:=h.len;rw[txs_length,Nat.mul_one]at hn;subst hn;obtain⟨b,off,hbo,hS,hc0⟩:=texts_at h 0 (by simp);subst hbo;have HC:=h! (texts_at h);have HSW:=h! hSw;clear hSw
 have HWIN:=h! (show Sl S w 1 (.slice (cut1 b off c) rest.length (c-1)) (txs rest)from by
  have:=h.window (ao':=cut1 b off c) 1 (x::rest).length (by simp) (Nat.le_refl _) (fun hc=>by unfold cut1;rw[if_neg hc];rfl);rwa[show((txs (x::rest)).drop 1).take ((x::rest).length-1)=txs rest from by rw[show(txs (x::rest)).drop 1=txs rest from rfl];exact List.take_of_length_le (by rw[txs_length];simp)]at this)
 have HR:=h! hr;have HR0:=h! (Blk.made w #[.int .i64 0,.string ⟨#[]⟩,.string ⟨#[]⟩,.slice none 0 0] 106);obtain⟨w1,hw1⟩:∃ x,x=w.alloc (.cells #[.int .i64 0,.string ⟨#[]⟩,.string ⟨#[]⟩,.slice none 0 0] 106):=⟨_,rfl⟩;rw[<- hw1]at HR0;have x01:Ext w w1:=by rw[hw1];exact Ext.alloc _ _
 have HX1:=h! x01;rw[show(x::rest)[0]=x from rfl,Nat.add_zero]at hc0;have hA:∀ W,Ext w W->W.cell? ⟨b,off,none⟩=some (.string x):=fun W hW=>Ext.cell hW hc0;have hd0:=hA w1 x01;have hlen:(x::rest).length=rest.length+1:=rfl;rw[hlen]at hnc
 have HNM:=h! (refName_any x (by
  unfold isNm at hx;simp only[Bool.and_eq_true,decide_eq_true_eq]at hx;unfold maxLen;omega) w1)
 rw[hx]at HNM;have hne40:=ba_beq' (nm_ne hx (y:=⟨#[40]⟩) (by decide));rw[<- ByteArray.toList_eq,show(⟨#[40]⟩:ByteArray).data.toList=[40]from rfl]at hne40;have r1:=HR0.out.cells;have f1:=HR0.out.free;rw[hlen];clear h hx hr hc0 hlen;obtain⟨n2,hn2⟩:∃ n2,n2=rest.length:=⟨_,rfl⟩;rw[<- hn2]at hnc HWIN ⊢;have HN2:=h! hn2
 have HNX:=h! (show 1<=n2->∃ y,w1.cell? ⟨b,off+1,none⟩=some (.string y)/\(y.toList == [45,62])=false from fun h1=>by
  obtain⟨b',off',hbo,_,hc⟩:=HC.out 1 (by simp;omega);cases hbo;refine⟨_,Ext.cell x01 hc,?_⟩;have:=ba_beq' (HR.out (by omega));rw[ByteArray.toList_eq];simpa using this)
 clear hn2 x01;subst hw1;have hpos:¬ ((n2:Int)+1=0):=by omega
 have hlt0:(0:Int)<(n2:Int)+1:=by omega
 go_enter Tryz.func203,Tryz.ntmps203
 go_wp2_with fail
 refine HNM.out.mono ?_;rintro e w2 ⟨rfl,rfl⟩;clear HNM;obtain⟨wr,hwr⟩:∃ x,x=w.alloc (.cells #[.int .i64 0,.string ⟨#[]⟩,.string ⟨#[]⟩,.slice none 0 0] 106):=⟨_,rfl⟩;rw[<- hwr]at HR0 HX1 r1 f1 hd0 HNX ⊢;clear hwr;have h01:(1:Int)<=(n2:Int)+1:=by omega
 have hnci:(n2:Int)+1<=(c:Int):=by omega
 have h1c:(1:Int)<=(c:Int):=by omega
 by_cases h3:(3:Int)<=(n2:Int)+1
 ·obtain⟨y,hd1,hy⟩:=HNX.out (by omega);have hlt1:(1:Int)<(n2:Int)+1:=by omega
  by_cases ht:x=⟨#[116,104,105,115]⟩
  ·subst ht;have HLF:=h! (show leafD ⟨#[116,104,105,115]⟩ = .mk 1 ⟨#[]⟩ ⟨#[]⟩ []from rfl);go_wp2_with fail
   have hE:Ext w wr.drew:=HX1.out.trans (Ext.drew _);obtain⟨wd,hwd⟩:∃ x,x=wr.drew:=⟨_,rfl⟩;have xrd:Ext wr wd:=by rw[hwd];exact Ext.drew wr
   refine r! (Ext w) hE ?_;rw[<- hwd]at hE ⊢;clear hwd;have HR0:=h! (HR0.out.below xrd);have HX1:=h! hE;(refine WalkN.tk [0,1] ?_;(iterate 2 (refine c! ?_));refine TkN.n ?_)
   refine WalkN.take 2 _ (.slice (cut1 b off c) n2 (c-1)) (by simp only[gA,gS,gZ];rfl) (by kernel_rfl) (by kernel_rfl) (by rfl) (fun W hW=>?_) ?_
   ·unfold cut1;go_simp;try with_reducible rfl
   simp only[Act.put,pA,pZ,pS];have rd:=HR0.out.cells;have fd:=HR0.out.free;have hs1:=HR0.out.set_to 0 (.int .i64 1) rfl;have hs2:=hs1.set_to 1 (.string ⟨#[]⟩) rfl;have hs3:=hs2.set_to 2 (.string ⟨#[]⟩) rfl;have hs4:=hs3.set_to 3 (.slice none 0 0) rfl;have HS4:=h! hs4;have HE4:=h! (show Ext w ((((wd.setCell ⟨w.heap.size,0,none⟩ (.int .i64 1)).setCell ⟨w.heap.size,1,none⟩ (.string ⟨#[]⟩)).setCell ⟨w.heap.size,2,none⟩ (.string ⟨#[]⟩)).setCell ⟨w.heap.size,3,none⟩ (.slice none 0 0))from(((HX1.out.setCell (Nat.le_refl _) _).setCell (Nat.le_refl _) _).setCell (Nat.le_refl _) _).setCell (Nat.le_refl _) _);clear hs1 hs2 hs3 hs4;refine o! 3 ?_;refine b! ?_;intro K hK;go_simp;refine hK.out _ _ HE4.out ?_;clear hK;have hE:=HE4.out;(refine WalkN.tk [4,5] ?_;(iterate 2 (refine c! ?_));refine TkN.n ?_)
   refine d! ?_;go_wp2_with fail
   refine bodyPost_ret (v := .tuple #[.agg #[.int .i64 1,.string ⟨#[]⟩,.string ⟨#[]⟩,.slice none 0 0],.slice (cut1 b off c) n2 (c-1),.bool true]) ?_ rfl ⟨_,by rw[HLF.out];rfl,?_,HE4.out⟩
   ·rw[results_cell_tmp2 rfl];have hl:=run_loadVar_row (P:=Tryz.prog) _ w.heap.size _ 106 _ _ _ HS4.out Tryz.underlying106 rfl (by kernel_rfl);simp[asAddr,hl,Result.andThen]
   ·exact HWIN.out.same ((Same.below HE4.out).mono HSW.out)
  ·have hneT:=ba_beq' ht;rw[<- ByteArray.toList_eq,show(⟨#[116,104,105,115]⟩:ByteArray).data.toList=[116,104,105,115]from rfl]at hneT;have HLF:=h! (show leafD x = .mk 2 x ⟨#[]⟩ []from if_neg ht);clear ht;go_wp2_with fail
   have hE:Ext w wr.drew:=HX1.out.trans (Ext.drew _);obtain⟨wd,hwd⟩:∃ x,x=wr.drew:=⟨_,rfl⟩;have xrd:Ext wr wd:=by rw[hwd];exact Ext.drew wr
   refine r! (Ext w) hE ?_;rw[<- hwd]at hE ⊢;clear hwd;have HR0:=h! (HR0.out.below xrd);have HX1:=h! hE;(refine WalkN.tk [0,1,2,3,4] ?_;(iterate 5 (refine c! ?_));refine TkN.n ?_)
   refine WalkN.take 5 _ (.slice (cut1 b off c) n2 (c-1)) (by simp only[gA,gS,gZ];rfl) (by kernel_rfl) (by kernel_rfl) (by rfl) (fun W hW=>?_) ?_
   ·unfold cut1;go_simp;try with_reducible rfl
   simp only[Act.put,pA,pZ,pS];have rd:=HR0.out.cells;have fd:=HR0.out.free;have hs1:=HR0.out.set_to 0 (.int .i64 2) rfl;have hs2:=hs1.set_to 1 (.string x) rfl;have hs3:=hs2.set_to 2 (.string ⟨#[]⟩) rfl;have hs4:=hs3.set_to 3 (.slice none 0 0) rfl;have HS4:=h! hs4;have HE4:=h! (show Ext w ((((wd.setCell ⟨w.heap.size,0,none⟩ (.int .i64 2)).setCell ⟨w.heap.size,1,none⟩ (.string x)).setCell ⟨w.heap.size,2,none⟩ (.string ⟨#[]⟩)).setCell ⟨w.heap.size,3,none⟩ (.slice none 0 0))from(((HX1.out.setCell (Nat.le_refl _) _).setCell (Nat.le_refl _) _).setCell (Nat.le_refl _) _).setCell (Nat.le_refl _) _);clear hs1 hs2 hs3 hs4;refine o! 6 ?_;refine b! ?_;intro K hK;go_simp;refine hK.out _ _ HE4.out ?_;clear hK;have hE:=HE4.out;(refine WalkN.tk [7,8] ?_;(iterate 2 (refine c! ?_));refine TkN.n ?_)
   refine d! ?_;go_wp2_with fail
   refine bodyPost_ret (v := .tuple #[.agg #[.int .i64 2,.string x,.string ⟨#[]⟩,.slice none 0 0],.slice (cut1 b off c) n2 (c-1),.bool true]) ?_ rfl ⟨_,by rw[HLF.out];rfl,?_,HE4.out⟩
   ·rw[results_cell_tmp2 rfl];have hl:=run_loadVar_row (P:=Tryz.prog) _ w.heap.size _ 106 _ _ _ HS4.out Tryz.underlying106 rfl (by kernel_rfl);simp[asAddr,hl,Result.andThen]
   ·exact HWIN.out.same ((Same.below HE4.out).mono HSW.out)
 ·skip
  by_cases ht:x=⟨#[116,104,105,115]⟩
  ·subst ht;have HLF:=h! (show leafD ⟨#[116,104,105,115]⟩ = .mk 1 ⟨#[]⟩ ⟨#[]⟩ []from rfl);go_wp2_with fail
   have hE:Ext w wr.drew:=HX1.out.trans (Ext.drew _);obtain⟨wd,hwd⟩:∃ x,x=wr.drew:=⟨_,rfl⟩;have xrd:Ext wr wd:=by rw[hwd];exact Ext.drew wr
   refine r! (Ext w) hE ?_;rw[<- hwd]at hE ⊢;clear hwd;have HR0:=h! (HR0.out.below xrd);have HX1:=h! hE;(refine WalkN.tk [0,1] ?_;(iterate 2 (refine c! ?_));refine TkN.n ?_)
   refine WalkN.take 2 _ (.slice (cut1 b off c) n2 (c-1)) (by simp only[gA,gS,gZ];rfl) (by kernel_rfl) (by kernel_rfl) (by rfl) (fun W hW=>?_) ?_
   ·unfold cut1;go_simp;try with_reducible rfl
   simp only[Act.put,pA,pZ,pS];have rd:=HR0.out.cells;have fd:=HR0.out.free;have hs1:=HR0.out.set_to 0 (.int .i64 1) rfl;have hs2:=hs1.set_to 1 (.string ⟨#[]⟩) rfl;have hs3:=hs2.set_to 2 (.string ⟨#[]⟩) rfl;have hs4:=hs3.set_to 3 (.slice none 0 0) rfl;have HS4:=h! hs4;have HE4:=h! (show Ext w ((((wd.setCell ⟨w.heap.size,0,none⟩ (.int .i64 1)).setCell ⟨w.heap.size,1,none⟩ (.string ⟨#[]⟩)).setCell ⟨w.heap.size,2,none⟩ (.string ⟨#[]⟩)).setCell ⟨w.heap.size,3,none⟩ (.slice none 0 0))from(((HX1.out.setCell (Nat.le_refl _) _).setCell (Nat.le_refl _) _).setCell (Nat.le_refl _) _).setCell (Nat.le_refl _) _);clear hs1 hs2 hs3 hs4;refine o! 3 ?_;refine b! ?_;intro K hK;go_simp;refine hK.out _ _ HE4.out ?_;clear hK;have hE:=HE4.out;(refine WalkN.tk [4,5] ?_;(iterate 2 (refine c! ?_));refine TkN.n ?_)
   refine d! ?_;go_wp2_with fail
   refine bodyPost_ret (v := .tuple #[.agg #[.int .i64 1,.string ⟨#[]⟩,.string ⟨#[]⟩,.slice none 0 0],.slice (cut1 b off c) n2 (c-1),.bool true]) ?_ rfl ⟨_,by rw[HLF.out];rfl,?_,HE4.out⟩
   ·rw[results_cell_tmp2 rfl];have hl:=run_loadVar_row (P:=Tryz.prog) _ w.heap.size _ 106 _ _ _ HS4.out Tryz.underlying106 rfl (by kernel_rfl);simp[asAddr,hl,Result.andThen]
   ·exact HWIN.out.same ((Same.below HE4.out).mono HSW.out)
  ·have hneT:=ba_beq' ht;rw[<- ByteArray.toList_eq,show(⟨#[116,104,105,115]⟩:ByteArray).data.toList=[116,104,105,115]from rfl]at hneT;have HLF:=h! (show leafD x = .mk 2 x ⟨#[]⟩ []from if_neg ht);clear ht;go_wp2_with fail
   have hE:Ext w wr.drew:=HX1.out.trans (Ext.drew _);obtain⟨wd,hwd⟩:∃ x,x=wr.drew:=⟨_,rfl⟩;have xrd:Ext wr wd:=by rw[hwd];exact Ext.drew wr
   refine r! (Ext w) hE ?_;rw[<- hwd]at hE ⊢;clear hwd;have HR0:=h! (HR0.out.below xrd);have HX1:=h! hE;(refine WalkN.tk [0,1,2,3,4] ?_;(iterate 5 (refine c! ?_));refine TkN.n ?_)
   refine WalkN.take 5 _ (.slice (cut1 b off c) n2 (c-1)) (by simp only[gA,gS,gZ];rfl) (by kernel_rfl) (by kernel_rfl) (by rfl) (fun W hW=>?_) ?_
   ·unfold cut1;go_simp;try with_reducible rfl
   simp only[Act.put,pA,pZ,pS];have rd:=HR0.out.cells;have fd:=HR0.out.free;have hs1:=HR0.out.set_to 0 (.int .i64 2) rfl;have hs2:=hs1.set_to 1 (.string x) rfl;have hs3:=hs2.set_to 2 (.string ⟨#[]⟩) rfl;have hs4:=hs3.set_to 3 (.slice none 0 0) rfl;have HS4:=h! hs4;have HE4:=h! (show Ext w ((((wd.setCell ⟨w.heap.size,0,none⟩ (.int .i64 2)).setCell ⟨w.heap.size,1,none⟩ (.string x)).setCell ⟨w.heap.size,2,none⟩ (.string ⟨#[]⟩)).setCell ⟨w.heap.size,3,none⟩ (.slice none 0 0))from(((HX1.out.setCell (Nat.le_refl _) _).setCell (Nat.le_refl _) _).setCell (Nat.le_refl _) _).setCell (Nat.le_refl _) _);clear hs1 hs2 hs3 hs4;refine o! 6 ?_;refine b! ?_;intro K hK;go_simp;refine hK.out _ _ HE4.out ?_;clear hK;have hE:=HE4.out;(refine WalkN.tk [7,8] ?_;(iterate 2 (refine c! ?_));refine TkN.n ?_)
   refine d! ?_;go_wp2_with fail
   refine bodyPost_ret (v := .tuple #[.agg #[.int .i64 2,.string x,.string ⟨#[]⟩,.slice none 0 0],.slice (cut1 b off c) n2 (c-1),.bool true]) ?_ rfl ⟨_,by rw[HLF.out];rfl,?_,HE4.out⟩
   ·rw[results_cell_tmp2 rfl];have hl:=run_loadVar_row (P:=Tryz.prog) _ w.heap.size _ 106 _ _ _ HS4.out Tryz.underlying106 rfl (by kernel_rfl);simp[asAddr,hl,Result.andThen]
   ·exact HWIN.out.same ((Same.below HE4.out).mono HSW.out)
theorem ruleT:ElemT Tryz.prog 104 106 4 64:=ElemT.mk' Tryz.underlying104 (show _=some (some (.agg #[.int .i64 0,.string ByteArray.empty,.string ByteArray.empty,.slice none 0 0]),4,64)by kernel_rfl) rfl (by decide)
theorem leafD_k (x:ByteArray):((leafD x).k=1\/(leafD x).k=2)/\(leafD x).ps=[]:=by
 unfold leafD;split <;> simp[RT.k,RT.ps]
def leafQ (r:RT):RT × Value:=(r,.slice none 0 0)
def leafCs (l:List RT):List Value:=(l.map leafQ).flatMap rC
theorem leafCs_length (l:List RT):(leafCs l).length=l.length*4:=by
 induction l with
 | nil=>rfl
 | cons x l ih=>simp only[leafCs,List.map_cons,List.flatMap_cons,List.length_append,List.length_cons]at ih ⊢;rw[ih];simp[rC];omega
theorem leafCs_append (a b:List RT):leafCs (a++b)=leafCs a++leafCs b:=by simp[leafCs]
theorem RTAt.leaf (S:Nat->Prop)(w:World) {r:RT} (h:r.ps=[]):RTAt S w r (.slice none 0 0):=(RTAt.iff _ _).2 ⟨[],by rw[h];rfl,by simp,Sl.nil _ _ _⟩
theorem leafs_at {S:Nat->Prop} {w:World} {v:Value} {l:List RT} (h:Sl S w 4 v (leafCs l)):∃ ao c,v = .slice ao l.length c/\l.length<=c/\c<=9223372036854775807/\∀ i (hi:i<l.length),∃ b off,ao=some ⟨b,off,none⟩/\S b/\w.cell? ⟨b,off+i*4,none⟩=some (.int .i64 l[i].k)/\w.cell? ⟨b,off+i*4+1,none⟩=some (.string l[i].a)/\w.cell? ⟨b,off+i*4+2,none⟩=some (.string l[i].b)/\w.cell? ⟨b,off+i*4+3,none⟩=some (.slice none 0 0):=by
 obtain⟨ao,c,rfl,h4,h5,hc⟩:=Sl.rows rC_length (by decide) h;rw[List.length_map]at h4 ⊢;refine⟨ao,c,rfl,h4,h5,fun i hi=>?_⟩;obtain⟨b,off,rfl,hb,hc⟩:=hc (by rw[List.length_map];omega);have hx:(l.map leafQ)[i]'(by rw[List.length_map];exact hi)=leafQ l[i]:=List.getElem_map _;have hc2:=hc i (by rw[List.length_map];exact hi);rw[hx]at hc2;exact⟨b,off,rfl,hb,hc2 0 _ rfl,hc2 1 _ rfl,hc2 2 _ rfl,hc2 3 _ rfl⟩
theorem text_first {S:Nat->Prop} {w:World} {ao:Option Addr} {n c:Nat} {l:List ByteArray} (h:Sl S w 1 (.slice ao n c) (txs l))(hl:0<l.length):∃ b off,ao=some ⟨b,off,none⟩/\S b/\w.cell? ⟨b,off,none⟩=some (.string l[0]):=by
 obtain⟨ao',n',c',hv,h1,h2,h3,h4,h5⟩:=h;cases hv;obtain⟨b,off,rfl,hb,hc⟩:=h5 (fun e=>by have:=congrArg List.length e;rw[txs_length]at this;simp only[List.length_nil]at this;omega);exact⟨b,off,rfl,hb,hc 0 _ (by simp[txs,hl])⟩
theorem several5_any {S:Nat->Prop} (x:ByteArray)(rest:List ByteArray)(v:Value)(w:World)(hSw:∀ b,S b->b<w.heap.size)(hx:isNm x=true)(hr:∀ h:0<rest.length,rest[0]≠⟨#[45,62]⟩/\rest[0]≠⟨#[38]⟩)(h:Sl S w 1 v (txs (x::rest))) :
  Calls Tryz.prog 150 #[v,.int .i64 0,.string ⟨#[38]⟩,.int .i64 5] w fun e w'=>∃ v',e = .returned (.tuple #[rV (leafD x) (.slice none 0 0),v',.bool true])/\Sl S w' 1 v' (txs rest)/\Below w.heap.size w w':=by
 obtain⟨w1,hw1⟩:∃ z,z=w.alloc (.cells #[.int .i64 0,.string ⟨#[]⟩,.string ⟨#[]⟩,.slice none 0 0] 106):=⟨_,rfl⟩;obtain⟨w2,hw2⟩:∃ z,z=w1.alloc (.cells #[.int .i64 0,.string ⟨#[]⟩,.string ⟨#[]⟩,.slice none 0 0] 106):=⟨_,rfl⟩;have e1:w1.heap.size=w.heap.size+1:=by rw[hw1];simp
 have x01:Ext w w1:=by rw[hw1];exact Ext.alloc _ _
 have x12:Ext w1 w2:=by rw[hw2];exact Ext.alloc _ _
 have HRB:=h! (show Blk w2 w.heap.size #[.int .i64 0,.string ⟨#[]⟩,.string ⟨#[]⟩,.slice none 0 0] 106 from Blk.below (by rw[hw1];exact Blk.made _ _ _) x12);have HPB:=h! (show Blk w2 (w.heap.size+1) #[.int .i64 0,.string ⟨#[]⟩,.string ⟨#[]⟩,.slice none 0 0] 106 from by rw[hw2,<- e1];exact Blk.made _ _ _);have HB2:=h! (show Below w.heap.size w w2 from x01.trans x12);have HSW:=h! hSw;have HON:=h! (one_any (S:=S) x rest v w2 (fun b hb=>Nat.lt_of_lt_of_le (HSW.out b hb) HB2.out.size) hx (fun h=>(hr h).1) (h.same ((Same.below HB2.out).mono HSW.out)));have HR:=h! hr;have HLK:=h! (leafD_k x);have HSL:=h! h;obtain⟨ao,n,c,rfl,hn,hnc,hcm⟩:=h.len;clear hn hr h hSw;subst hw2 hw1;clear e1 x01 x12;generalize leafD x=r at *;unfold rV at HON ⊢;have HCASE:=h! (Nat.eq_zero_or_pos rest.length);go_enter Tryz.func150,Tryz.ntmps150
 go_wp2_with fail
 go_loopw [0,11] (fun lv pv wr=>lv = .slice ao n c/\pv = .slice none 0 0/\wr=w.alloc (.cells #[.int .i64 0,.string ⟨#[]⟩,.string ⟨#[]⟩,.slice none 0 0] 106)) (fun _ _ _=>0)
 case atStart=>exact⟨rfl,rfl,rfl⟩
 case round =>
  obtain⟨rfl,rfl,rfl⟩:=hrel;go_wp2_with fail
  refine HON.out.mono ?_;rintro e w3 ⟨v3,rfl,hsl3,hb3⟩;have HR3:=h! (HRB.out.below hb3);have HP3:=h! (HPB.out.below hb3);have HB3:=h! (HB2.out.trans (hb3.mono HB2.out.size));have HSL3:=h! hsl3;obtain⟨ao3,n3,c3,rfl,hn3,hnc3,hcm3⟩:=hsl3.len;clear hb3 HRB HPB HB2 HON hsl3;have p3:=HP3.out.cells;have q3:=HP3.out.free;obtain⟨br,hbr⟩:∃ z,z=w.heap.size+1:=⟨_,rfl⟩;rw[<- hbr]at HP3 p3 q3 ⊢;have HBR:=h! hbr;rw[txs_length,Nat.mul_one]at hn3;have HN3:=h! hn3;have hs1:=HP3.out.set_to 0 (.int .i64 r.k) rfl;have hs2:=hs1.set_to 1 (.string r.a) rfl;have hs3:=hs2.set_to 2 (.string r.b) rfl;have hs4:=hs3.set_to 3 (.slice none 0 0) rfl;have HP4:=h! hs4
  have hk5:(r.k == 5)=false:=by
   have:=HLK.out.1;rw[beq_eq_false_iff_ne];omega
  have HKB:=h! (show Kept (fun b=>S b\/b=w.heap.size) w3 ((((w3.setCell ⟨br,0,none⟩ (.int .i64 r.k)).setCell ⟨br,1,none⟩ (.string r.a)).setCell ⟨br,2,none⟩ (.string r.b)).setCell ⟨br,3,none⟩ (.slice none 0 0))from by
   have hno:¬ (S br\/br=w.heap.size):=by
    rintro(h | h)
    ·have:=HSW.out _ h;omega
    ·omega
   exact((((Kept.refl _ _).set hno _).set hno _).set hno _).set hno _)
  have HBB:=h! (show Below w.heap.size w ((((w3.setCell ⟨br,0,none⟩ (.int .i64 r.k)).setCell ⟨br,1,none⟩ (.string r.a)).setCell ⟨br,2,none⟩ (.string r.b)).setCell ⟨br,3,none⟩ (.slice none 0 0))from(((HB3.out.setCell (show w.heap.size<=br by omega) _).setCell (show w.heap.size<=br by omega) _).setCell (show w.heap.size<=br by omega) _).setCell (show w.heap.size<=br by omega) _);clear hs1 hs2 hs3 hs4 hbr hn3;by_cases h0:n3=0
  ·subst h0;go_wp2_with (at_builtin;go_must (refine wpList_own_lit ruleT rfl (.tmp 42) (.tmp 44) rfl rfl (Own.nil _ w3.heap.size _ _) (by show Value.slice (some ⟨w3.heap.size,0,none⟩) 1 1=_;simp) rfl (by simp[Value.oneCell']) (by simp) (by simp) (by simp) ?_);intro v4 w4 hown4 hb4 hgr4;have HO4:=h! (show Own w4 w3.heap.size 106 4 v4 (leafCs [r])from hown4);have HR4:=h! (show Blk w4 w.heap.size #[.int .i64 0,.string ⟨#[]⟩,.string ⟨#[]⟩,.slice none 0 0] 106 from(hb4.block _ HR3.out.lt).trans (HKB.out.blk HR3.out (.inr rfl)));have HB4:=h! (HBB.out.trans (hb4.mono HB3.out.size));have HS4:=h! (HSL3.out.same (fun b hb=>(hb4.block b (Nat.lt_of_lt_of_le (HSW.out b hb) HB3.out.size)).trans (HKB.out.block b (.inl hb))));obtain⟨ao4,c4,rfl,hlc4,hcm4,hat4⟩:=leafs_at HO4.out.sl;obtain⟨g4,off4,rfl,hg4,k0,k1,k2,k3⟩:=hat4 0 (by simp);simp only[Nat.zero_mul,Nat.add_zero,List.getElem_cons_zero]at k0 k1 k2 k3;clear hown4 hb4 hgr4 hat4 hlc4;have r4:=HR4.out.cells;have f4:=HR4.out.free)
   have hs1:=HR4.out.set_to 0 (.int .i64 r.k) rfl;have hs2:=hs1.set_to 1 (.string r.a) rfl;have hs3:=hs2.set_to 2 (.string r.b) rfl;have hs4:=hs3.set_to 3 (.slice none 0 0) rfl;have hbe:=setAt (i:=3) (v := .slice none 0 0) (setAt (i:=2) (v := .string r.b) (setAt (i:=1) (v := .string r.a) (setAt (i:=0) (v := .int .i64 r.k) HB4.out)));have hno:¬ S w.heap.size:=fun h=>by have:=HSW.out _ h;omega
   have hkb:=((((Kept.refl S w4).set (a:=⟨w.heap.size,0,none⟩) hno (.int .i64 r.k)).set (a:=⟨w.heap.size,1,none⟩) hno (.string r.a)).set (a:=⟨w.heap.size,2,none⟩) hno (.string r.b)).set (a:=⟨w.heap.size,3,none⟩) hno (.slice none 0 0);refine bodyPost_ret (v := .tuple #[.agg #[.int .i64 r.k,.string r.a,.string r.b,.slice none 0 0],.slice ao3 0 c3,.bool true]) ?_ rfl ⟨_,rfl,HS4.out.same hkb.block,hbe⟩;rw[results_cell_tmp2 rfl];have hl:=run_loadVar_row (P:=Tryz.prog) _ w.heap.size _ 106 _ _ _ hs4 Tryz.underlying106 rfl (by kernel_rfl);simp[asAddr,hl,Result.andThen]
  ·obtain⟨b5,off5,rfl,hb5,hd5⟩:=text_first HSL3.out (by have:=HN3.out;omega);have hne:=ba_beq' (HR.out (by have:=HN3.out;omega)).2;rw[<- ByteArray.toList_eq,show(⟨#[38]⟩:ByteArray).data.toList=[38]from rfl]at hne;have hn0:((n3:Int) == 0)=false:=by rw[beq_eq_false_iff_ne];omega
   have hn1:(0:Int)<(n3:Int):=by omega
   generalize rest[0]'(by have:=HN3.out;omega)=y at *;go_wp2_with (at_builtin;go_must (refine wpList_own_lit ruleT rfl (.tmp 42) (.tmp 44) rfl rfl (Own.nil _ w3.heap.size _ _) (by show Value.slice (some ⟨w3.heap.size,0,none⟩) 1 1=_;simp) rfl (by simp[Value.oneCell']) (by simp) (by simp) (by simp) ?_);intro v4 w4 hown4 hb4 hgr4;have HO4:=h! (show Own w4 w3.heap.size 106 4 v4 (leafCs [r])from hown4);have HR4:=h! (show Blk w4 w.heap.size #[.int .i64 0,.string ⟨#[]⟩,.string ⟨#[]⟩,.slice none 0 0] 106 from(hb4.block _ HR3.out.lt).trans (HKB.out.blk HR3.out (.inr rfl)));have HB4:=h! (HBB.out.trans (hb4.mono HB3.out.size));have HSM4:=h! (show ∀ b,S b->w4.heap[b]?=w3.heap[b]? from fun b hb=>(hb4.block b (Nat.lt_of_lt_of_le (HSW.out b hb) HB3.out.size)).trans (HKB.out.block b (.inl hb)));have HS4:=h! (HSL3.out.same (fun b hb=>(hb4.block b (Nat.lt_of_lt_of_le (HSW.out b hb) HB3.out.size)).trans (HKB.out.block b (.inl hb))));obtain⟨ao4,c4,rfl,hlc4,hcm4,hat4⟩:=leafs_at HO4.out.sl;obtain⟨g4,off4,rfl,hg4,k0,k1,k2,k3⟩:=hat4 0 (by simp);simp only[Nat.zero_mul,Nat.add_zero,List.getElem_cons_zero]at k0 k1 k2 k3;clear hown4 hb4 hgr4 hat4 hlc4;have r4:=HR4.out.cells;have f4:=HR4.out.free;have d5:w4.cell? ⟨b5,off5,none⟩=some (.string y):=(World.cell?_of_block (a:=⟨b5,off5,none⟩) (HSM4.out b5 hb5)).trans hd5)
   have hs1:=HR4.out.set_to 0 (.int .i64 r.k) rfl;have hs2:=hs1.set_to 1 (.string r.a) rfl;have hs3:=hs2.set_to 2 (.string r.b) rfl;have hs4:=hs3.set_to 3 (.slice none 0 0) rfl;have hbe:=setAt (i:=3) (v := .slice none 0 0) (setAt (i:=2) (v := .string r.b) (setAt (i:=1) (v := .string r.a) (setAt (i:=0) (v := .int .i64 r.k) HB4.out)));have hno:¬ S w.heap.size:=fun h=>by have:=HSW.out _ h;omega
   have hkb:=((((Kept.refl S w4).set (a:=⟨w.heap.size,0,none⟩) hno (.int .i64 r.k)).set (a:=⟨w.heap.size,1,none⟩) hno (.string r.a)).set (a:=⟨w.heap.size,2,none⟩) hno (.string r.b)).set (a:=⟨w.heap.size,3,none⟩) hno (.slice none 0 0);refine bodyPost_ret (v := .tuple #[.agg #[.int .i64 r.k,.string r.a,.string r.b,.slice none 0 0],.slice (some ⟨b5,off5,none⟩) n3 c3,.bool true]) ?_ rfl ⟨_,rfl,HS4.out.same hkb.block,hbe⟩;rw[results_cell_tmp2 rfl];have hl:=run_loadVar_row (P:=Tryz.prog) _ w.heap.size _ 106 _ _ _ hs4 Tryz.underlying106 rfl (by kernel_rfl);simp[asAddr,hl,Result.andThen]
def barT:List ByteArray->List ByteArray
 | [] => []
 | y::ys=>⟨#[124]⟩::y::barT ys
def altT (x:ByteArray)(ys:List ByteArray):List ByteArray:=x::barT ys
def altR (x:ByteArray)(ys:List ByteArray):RT:=if ys=[]then leafD x else .mk 4 ⟨#[]⟩ ⟨#[]⟩ ((x::ys).map leafD)
theorem barT_length (ys:List ByteArray):(barT ys).length=2*ys.length:=by
 induction ys with
 | nil=>rfl
 | cons y ys ih=>rw[barT,List.length_cons,List.length_cons,ih,List.length_cons];omega
theorem leafs_ps {l:List ByteArray} {ps qs:List RT} (h:ps++qs=l.map leafD):∀ r∈ps,r.ps=[]:=fun r hr=>by
 have:=List.mem_append_left qs hr;rw[h]at this;obtain⟨x,_,rfl⟩:=List.mem_map.1 this;exact(leafD_k x).2
theorem RTAt.leafs {S:Nat->Prop} {w:World} {v:Value} {ps:List RT} (hp:∀ r∈ps,r.ps=[])(h:Sl S w 4 v (leafCs ps))(k:Int)(a b:ByteArray):RTAt S w (.mk k a b ps) v :=
 (RTAt.iff _ _).2 ⟨ps.map leafQ,by rw[List.map_map];exact(List.map_congr_left fun _ _=>rfl).trans (List.map_id _),fun x hx=>by
  obtain⟨r,hr,rfl⟩:=List.mem_map.1 hx;exact RTAt.leaf S w (hp r hr),h⟩
theorem alt_one {r:RT} {x:ByteArray} {ys:List ByteArray} (h : [r]=(x::ys).map leafD):altR x ys=r:=by
 cases ys with
 | nil=>unfold altR;rw[if_pos rfl];simpa using h.symm
 | cons y ys=>simp at h
theorem alt_more {ps:List RT} {x:ByteArray} {ys:List ByteArray} (h:ps=(x::ys).map leafD)(h2:2<=ps.length):altR x ys = .mk 4 ⟨#[]⟩ ⟨#[]⟩ ps:=by
 cases ys with
 | nil=>subst h;simp at h2
 | cons y ys=>unfold altR;rw[if_neg (by simp),h]
def slcLen:Value->Nat | .slice _ n _=>n | _=>0
theorem several4_any {S:Nat->Prop} (x0:ByteArray)(ys0:List ByteArray)(v:Value)(w:World)(hSw:∀ b,S b->b<w.heap.size)(hx0:∀ z∈x0::ys0,isNm z=true)(hl0:ys0.length<=100000)(h:Sl S w 1 v (txs (altT x0 ys0))) :
  Calls Tryz.prog 150 #[v,.int .i64 0,.string ⟨#[124]⟩,.int .i64 4] w fun e w'=>∃ v' pv,e = .returned (.tuple #[rV (altR x0 ys0) pv,v',.bool true])/\Sl S w' 1 v' []/\RTAt (fun b=>w.heap.size<=b/\b<w'.heap.size) w' (altR x0 ys0) pv/\Below w.heap.size w w':=by
 have HSW:=h! hSw;have HX0:=h! hx0;have HL0:=h! hl0;have HSL:=h! h;have HR0:=h! (Blk.made w #[.int .i64 0,.string ⟨#[]⟩,.string ⟨#[]⟩,.slice none 0 0] 106);have HB0:=h! (Ext.alloc w (.cells #[.int .i64 0,.string ⟨#[]⟩,.string ⟨#[]⟩,.slice none 0 0] 106));clear hSw hx0 hl0 h;obtain⟨ao,n,c,rfl,-,-,-⟩:=HSL.out.len;go_enter Tryz.func150,Tryz.ntmps150
 go_wp2_with fail
 go_loopw [0,11] (fun lv pv wr=>∃ (ps:List RT) (x:ByteArray) (ys:List ByteArray),(∀ z∈x::ys,isNm z=true)/\Sl S wr 1 lv (txs (altT x ys))/\Own wr (w.heap.size+1) 106 4 pv (leafCs ps)/\ps++(x::ys).map leafD=(x0::ys0).map leafD/\Blk wr w.heap.size #[.int .i64 0,.string ⟨#[]⟩,.string ⟨#[]⟩,.slice none 0 0] 106/\Below w.heap.size w wr) (fun lv _ _=>slcLen lv)
 case atStart=>exact⟨[],x0,ys0,HX0.out,HSL.out.same ((Same.below HB0.out).mono HSW.out),Own.nil _ _ _ _,rfl,HR0.out,HB0.out⟩
 case round =>
  obtain⟨ps,x,ys,hnm,hsl,hop,hall,hr0,hbel⟩:=hrel;have HALL:=h! hall;have HNM:=h! hnm;obtain⟨ao1,n1,c1,rfl,hn1,hnc1,hcm1⟩:=hsl.len;rw[txs_length,Nat.mul_one]at hn1;have HN1:=h! hn1;have x12:Ext wr (wr.alloc (.cells #[.int .i64 0,.string ⟨#[]⟩,.string ⟨#[]⟩,.slice none 0 0] 106)):=Ext.alloc _ _;have HSWR:=h! (show ∀ b,S b->b<wr.heap.size from fun b hb=>Nat.lt_of_lt_of_le (HSW.out b hb) hbel.size)
  have HON:=h! (several5_any (S:=S) x (barT ys) _ (wr.alloc (.cells #[.int .i64 0,.string ⟨#[]⟩,.string ⟨#[]⟩,.slice none 0 0] 106)) (fun b hb=>Nat.lt_of_lt_of_le (HSWR.out b hb) x12.size) (HNM.out x List.mem_cons_self) (fun hpos=>by
   cases ys with
   | nil=>exact absurd hpos (by simp[barT])
   | cons y ys=>exact⟨by unfold barT;rw[List.getElem_cons_zero];decide,by unfold barT;rw[List.getElem_cons_zero];decide⟩) (hsl.same ((Same.below x12).mono HSWR.out)))
  have HRB:=h! (hr0.below x12);have HPB:=h! (Blk.made wr #[.int .i64 0,.string ⟨#[]⟩,.string ⟨#[]⟩,.slice none 0 0] 106);have HOPP:=h! (hop.below x12);have HLK:=h! (leafD_k x);have HLT:=h! (show(x::ys).map leafD=leafD x::ys.map leafD from rfl);have HPNE:=h! (fun g hg=>(hop.block g hg).2);have HBX:=h! (hbel.trans (x12.mono hbel.size));have HBR:=h! (show w.heap.size+1<=wr.heap.size from hr0.lt)
  have HPN:=h! (show ps.length+1<=100001 from by
   have:=congrArg List.length HALL.out;have:=HL0.out;simp at *;omega)
  clear hn1 hsl hop hall hr0 hbel hnm HB0 HR0 HSL x12;unfold rV at HON;generalize leafD x=r at *;go_wp2_with fail
  refine HON.out.mono ?_;rintro e w3 ⟨v3,rfl,hsl3,hb3⟩;have HR3:=h! (HRB.out.below hb3);have HP3:=h! (HPB.out.below hb3);have HB3:=h! (HBX.out.trans (hb3.mono HBX.out.size));have HSL3:=h! hsl3;have hop3:=HOPP.out.below hb3;have HSZ:=h! (show wr.heap.size<w3.heap.size from HP3.out.lt);obtain⟨ao3,n3,c3,rfl,hn3,hnc3,hcm3⟩:=hsl3.len;rw[txs_length,Nat.mul_one,barT_length]at hn3;have HN3:=h! hn3;obtain⟨br,hbr⟩:∃ z,z=wr.heap.size:=⟨_,rfl⟩;rw[<- hbr]at HP3 HBR HPNE HSZ ⊢;have p3:=HP3.out.cells;have q3:=HP3.out.free;have hbrw:=HBR.out;have hs1:=HP3.out.set_to 0 (.int .i64 r.k) rfl;have hs2:=hs1.set_to 1 (.string r.a) rfl;have hs3:=hs2.set_to 2 (.string r.b) rfl;have hs4:=hs3.set_to 3 (.slice none 0 0) rfl;have HP4:=h! hs4
  have hk4:(r.k == 4)=false:=by
   have:=HLK.out.1;rw[beq_eq_false_iff_ne];omega
  have HKB:=h! (show Kept (fun b=>S b\/b=w.heap.size) w3 ((((w3.setCell ⟨br,0,none⟩ (.int .i64 r.k)).setCell ⟨br,1,none⟩ (.string r.a)).setCell ⟨br,2,none⟩ (.string r.b)).setCell ⟨br,3,none⟩ (.slice none 0 0))from by
   have hno:¬ (S br\/br=w.heap.size):=by
    rintro(h | h)
    ·have:=HSW.out _ h;omega
    ·omega
   exact((((Kept.refl _ _).set hno _).set hno _).set hno _).set hno _)
  have HBB:=h! (show Below w.heap.size w ((((w3.setCell ⟨br,0,none⟩ (.int .i64 r.k)).setCell ⟨br,1,none⟩ (.string r.a)).setCell ⟨br,2,none⟩ (.string r.b)).setCell ⟨br,3,none⟩ (.slice none 0 0))from(((HB3.out.setCell (show w.heap.size<=br by omega) _).setCell (show w.heap.size<=br by omega) _).setCell (show w.heap.size<=br by omega) _).setCell (show w.heap.size<=br by omega) _);have HSZ3:=h! (show w.heap.size+1<=(((((w3.setCell ⟨br,0,none⟩ (.int .i64 r.k)).setCell ⟨br,1,none⟩ (.string r.a)).setCell ⟨br,2,none⟩ (.string r.b)).setCell ⟨br,3,none⟩ (.slice none 0 0))).heap.size from by have:=HSZ.out;simp;omega)
  have HOP3:=h! (show Own ((((w3.setCell ⟨br,0,none⟩ (.int .i64 r.k)).setCell ⟨br,1,none⟩ (.string r.a)).setCell ⟨br,2,none⟩ (.string r.b)).setCell ⟨br,3,none⟩ (.slice none 0 0)) (w.heap.size+1) 106 4 u11 (leafCs ps)from by
   have hno:∀ g,u11.ownBlock=some g->g≠br:=fun g hg e=>by have:=HPNE.out g hg;omega
   exact hop3.keepOwn fun g hg=>by
    have h:=hno g hg;rw[Below.heap_setCell _ _ _ _ h,Below.heap_setCell _ _ _ _ h,Below.heap_setCell _ _ _ _ h,Below.heap_setCell _ _ _ _ h])
  clear hs1 hs2 hs3 hs4 hbr hn3 hb3 hop3 HRB HPB HBX HON hsl3 hbrw HOPP;cases ys with
  | nil =>
   obtain rfl:n3=0:=by have:=HN3.out;simp at this;omega
   have hlen1:=HPN.out;by_cases hp0:ps=[]
   ·subst hp0;go_wp2_with (at_builtin;go_must (refine wpList_own_lit ruleT rfl (.tmp 42) (.tmp 44) rfl rfl HOP3.out (by show Value.slice (some ⟨w3.heap.size,0,none⟩) 1 1=_;simp) rfl (by simp[Value.oneCell']) (by have:=HPN.out;rw[leafCs_length];(try simp);(try omega)) (by have:=HPN.out;rw[leafCs_length];(try simp);(try omega)) HSZ3.out ?_;intro v4 w4 hown4 hb4 hgr4;have HO4:=h! (show Own w4 (w.heap.size+1) 106 4 v4 (leafCs ([r]))from by exact hown4);have HR4:=h! (show Blk w4 w.heap.size #[.int .i64 0,.string ⟨#[]⟩,.string ⟨#[]⟩,.slice none 0 0] 106 from(hb4.block _ (Nat.lt_succ_self _)).trans (HKB.out.blk HR3.out (.inr rfl)));have HB4:=h! (HBB.out.trans (hb4.mono (Nat.le_succ _)));have HSM4:=h! (show ∀ b,S b->w4.heap[b]?=w3.heap[b]? from fun b hb=>(hb4.block b (Nat.lt_succ_of_lt (HSW.out b hb))).trans (HKB.out.block b (.inl hb)));have HS4:=h! (HSL3.out.same HSM4.out);have HSZ4:=h! (show w.heap.size+1<=w4.heap.size from by have h1:=hb4.size;have h2:=HSZ3.out;omega);obtain⟨ao4,c4,rfl,hlc4,hcm4,hat4⟩:=leafs_at HO4.out.sl;obtain⟨g4,off4,rfl,hg4,k0,k1,k2,k3⟩:=hat4 0 (by simp);simp only[Nat.zero_mul,Nat.add_zero,List.getElem_cons_zero]at k0 k1 k2 k3;have r4:=HR4.out.cells;have f4:=HR4.out.free;clear hat4 hlc4;clear hown4 hb4 hgr4))
    have HAR:=h! (show altR x0 ys0=r from alt_one (by have:=HALL.out;rw[HLT.out]at this;exact this));have HSE:=h! (HS4.out);have hs1:=HR4.out.set_to 0 (.int .i64 r.k) rfl;have hs2:=hs1.set_to 1 (.string r.a) rfl;have hs3:=hs2.set_to 2 (.string r.b) rfl;have hs4:=hs3.set_to 3 (.slice none 0 0) rfl;have hbe:=setAt (i:=3) (v := .slice none 0 0) (setAt (i:=2) (v := .string r.b) (setAt (i:=1) (v := .string r.a) (setAt (i:=0) (v := .int .i64 r.k) HB4.out)));have hno:¬ S w.heap.size:=fun h=>by have:=HSW.out _ h;omega
    have hkb:=((((Kept.refl S w4).set (a:=⟨w.heap.size,0,none⟩) hno (.int .i64 r.k)).set (a:=⟨w.heap.size,1,none⟩) hno (.string r.a)).set (a:=⟨w.heap.size,2,none⟩) hno (.string r.b)).set (a:=⟨w.heap.size,3,none⟩) hno (.slice none 0 0);have hkq:=((((Kept.refl (fun x=>w.heap.size+1<=x) w4).set (a:=⟨w.heap.size,0,none⟩) (Nat.not_succ_le_self _) (.int .i64 r.k)).set (a:=⟨w.heap.size,1,none⟩) (Nat.not_succ_le_self _) (.string r.a)).set (a:=⟨w.heap.size,2,none⟩) (Nat.not_succ_le_self _) (.string r.b)).set (a:=⟨w.heap.size,3,none⟩) (Nat.not_succ_le_self _) (.slice none 0 0);refine bodyPost_ret (v := .tuple #[.agg #[.int .i64 r.k,.string r.a,.string r.b,.slice none 0 0],.slice ao3 0 c3,.bool true]) ?_ rfl ⟨_,.slice none 0 0,by rw[HAR.out];rfl,?_,?_,hbe⟩
    ·rw[results_cell_tmp2 rfl];have hl:=run_loadVar_row (P:=Tryz.prog) _ w.heap.size _ 106 _ _ _ hs4 Tryz.underlying106 rfl (by kernel_rfl);simp[asAddr,hl,Result.andThen]
    ·exact HS4.out.same hkb.block
    ·rw[HAR.out];exact RTAt.leaf _ _ HLK.out.2
   ·have hp1:1<=ps.length:=by cases ps with | nil=>exact absurd rfl hp0 | cons _ _=>simp
    have HP1:=h! hp1;clear hp0 hp1 hlen1;go_wp2_with (at_builtin;go_must (refine wpList_own_lit ruleT rfl (.tmp 42) (.tmp 44) rfl rfl HOP3.out (by show Value.slice (some ⟨w3.heap.size,0,none⟩) 1 1=_;simp) rfl (by simp[Value.oneCell']) (by have:=HPN.out;rw[leafCs_length];(try simp);(try omega)) (by have:=HPN.out;rw[leafCs_length];(try simp);(try omega)) HSZ3.out ?_;intro v4 w4 hown4 hb4 hgr4;have HO4:=h! (show Own w4 (w.heap.size+1) 106 4 v4 (leafCs (ps++[r]))from by rw[leafCs_append];exact hown4);have HR4:=h! (show Blk w4 w.heap.size #[.int .i64 0,.string ⟨#[]⟩,.string ⟨#[]⟩,.slice none 0 0] 106 from(hb4.block _ (Nat.lt_succ_self _)).trans (HKB.out.blk HR3.out (.inr rfl)));have HB4:=h! (HBB.out.trans (hb4.mono (Nat.le_succ _)));have HSM4:=h! (show ∀ b,S b->w4.heap[b]?=w3.heap[b]? from fun b hb=>(hb4.block b (Nat.lt_succ_of_lt (HSW.out b hb))).trans (HKB.out.block b (.inl hb)));have HS4:=h! (HSL3.out.same HSM4.out);have HSZ4:=h! (show w.heap.size+1<=w4.heap.size from by have h1:=hb4.size;have h2:=HSZ3.out;omega);obtain⟨ao4,c4,rfl,hlc4,hcm4,-⟩:=leafs_at HO4.out.sl;have HM:=h! (show 2<=(ps++[r]).length from by have:=HP1.out;simp;omega);have HPS:=h! (show ps++[r]=(x0::ys0).map leafD from by have:=HALL.out;rw[HLT.out]at this;exact this);generalize ps++[r]=pr at *;obtain⟨m,hm⟩:∃ m,m=pr.length:=⟨_,rfl⟩;rw[<- hm]at HO4 HM hlc4 ⊢;have HMM:=h! hm;have hm1:((m:Int) == 1)=false:=(by have:=HM.out;rw[beq_eq_false_iff_ne];omega);clear hm;have r4:=HR4.out.cells;have f4:=HR4.out.free;clear hown4 hb4 hgr4))
    have HAR:=h! (show altR x0 ys0 = .mk 4 ⟨#[]⟩ ⟨#[]⟩ pr from alt_more HPS.out (by have:=HM.out;have:=HMM.out;omega));have hs1:=HR4.out.set_to 0 (.int .i64 4) rfl;have hs2:=hs1.set_to 1 (.string ⟨#[]⟩) rfl;have hs3:=hs2.set_to 2 (.string ⟨#[]⟩) rfl;have hs4:=hs3.set_to 3 (.slice ao4 m c4) rfl;have hbe:=setAt (i:=3) (v := .slice ao4 m c4) (setAt (i:=2) (v := .string ⟨#[]⟩) (setAt (i:=1) (v := .string ⟨#[]⟩) (setAt (i:=0) (v := .int .i64 4) HB4.out)));have hno:¬ S w.heap.size:=fun h=>by have:=HSW.out _ h;omega
    have hkb:=((((Kept.refl S w4).set (a:=⟨w.heap.size,0,none⟩) hno (.int .i64 4)).set (a:=⟨w.heap.size,1,none⟩) hno (.string ⟨#[]⟩)).set (a:=⟨w.heap.size,2,none⟩) hno (.string ⟨#[]⟩)).set (a:=⟨w.heap.size,3,none⟩) hno (.slice ao4 m c4);have hkq:=((((Kept.refl (fun x=>w.heap.size+1<=x) w4).set (a:=⟨w.heap.size,0,none⟩) (Nat.not_succ_le_self _) (.int .i64 4)).set (a:=⟨w.heap.size,1,none⟩) (Nat.not_succ_le_self _) (.string ⟨#[]⟩)).set (a:=⟨w.heap.size,2,none⟩) (Nat.not_succ_le_self _) (.string ⟨#[]⟩)).set (a:=⟨w.heap.size,3,none⟩) (Nat.not_succ_le_self _) (.slice ao4 m c4);refine bodyPost_ret (v := .tuple #[.agg #[.int .i64 4,.string ⟨#[]⟩,.string ⟨#[]⟩,.slice ao4 m c4],.slice ao3 0 c3,.bool true]) ?_ rfl ⟨_,.slice ao4 m c4,by rw[HAR.out];rfl,?_,?_,hbe⟩
    ·rw[results_cell_tmp2 rfl];have hl:=run_loadVar_row (P:=Tryz.prog) _ w.heap.size _ 106 _ _ _ hs4 Tryz.underlying106 rfl (by kernel_rfl);simp[asAddr,hl,Result.andThen]
    ·exact HS4.out.same hkb.block
    ·rw[HAR.out];refine RTAt.leafs (leafs_ps (qs:=[]) (by rw[List.append_nil];exact HPS.out)) ?_ _ _ _;exact(HO4.out.sl.same (fun b hb=>hkq.block b hb.1)).mono fun b hb=>⟨Nat.le_of_succ_le hb.1,by simpa using hb.2⟩
  | cons y ys =>
   have hl3:2<=n3:=by have:=HN3.out;simp at this;omega
   obtain⟨b5,off5,rfl,hb5,hd5⟩:=text_first HSL3.out (by unfold barT;simp);rw[show(barT (y::ys))[0]'(by unfold barT;simp)=⟨#[124]⟩from by simp[barT]]at hd5;have hn0:((n3:Int) == 0)=false:=by rw[beq_eq_false_iff_ne];omega
   have hn1:(0:Int)<(n3:Int):=by omega
   have hn2:(1:Int)<=(n3:Int):=by omega
   have hn3c:(n3:Int)<=(c3:Int):=by omega
   have hn4:(1:Int)<=(c3:Int):=by omega
   have hn5:¬ c3=1:=by omega
   have hn6:¬ (c3:Int)=1:=by omega
   have HLE:=h! hl3;have HC3:=h! hnc3;clear hl3;go_wp2_with (at_builtin;go_must (refine wpList_own_lit ruleT rfl (.tmp 42) (.tmp 44) rfl rfl HOP3.out (by show Value.slice (some ⟨w3.heap.size,0,none⟩) 1 1=_;simp) rfl (by simp[Value.oneCell']) (by have:=HPN.out;rw[leafCs_length];(try simp);(try omega)) (by have:=HPN.out;rw[leafCs_length];(try simp);(try omega)) HSZ3.out ?_;intro v4 w4 hown4 hb4 hgr4;have HO4:=h! (show Own w4 (w.heap.size+1) 106 4 v4 (leafCs (ps++[r]))from by rw[leafCs_append];exact hown4);have HR4:=h! (show Blk w4 w.heap.size #[.int .i64 0,.string ⟨#[]⟩,.string ⟨#[]⟩,.slice none 0 0] 106 from(hb4.block _ (Nat.lt_succ_self _)).trans (HKB.out.blk HR3.out (.inr rfl)));have HB4:=h! (HBB.out.trans (hb4.mono (Nat.le_succ _)));have HSM4:=h! (show ∀ b,S b->w4.heap[b]?=w3.heap[b]? from fun b hb=>(hb4.block b (Nat.lt_succ_of_lt (HSW.out b hb))).trans (HKB.out.block b (.inl hb)));have HS4:=h! (HSL3.out.same HSM4.out);have HSZ4:=h! (show w.heap.size+1<=w4.heap.size from by have h1:=hb4.size;have h2:=HSZ3.out;omega);have d5:w4.cell? ⟨b5,off5,none⟩=some (.string ⟨#[124]⟩):=(World.cell?_of_block (a:=⟨b5,off5,none⟩) (HSM4.out b5 hb5)).trans hd5;clear hd5;clear hown4 hb4 hgr4))
   go_roundw
   case rel =>
    refine⟨ps++[r],y,ys,fun z hz=>HNM.out z (List.mem_cons_of_mem _ hz),?_,HO4.out,?_,HR4.out,HB4.out⟩
    ·have:=HS4.out.drop 1 (by have:=HLE.out;omega);rwa[show(txs (barT (y::ys))).drop 1=txs (altT y ys)from rfl]at this
    ·rw[<- HALL.out,HLT.out];simp
   case measure =>
    have h1:=HN1.out;have h2:=HN3.out;unfold altT at h1;rw[List.length_cons,barT_length]at h1;show n3-1<n1
    omega
theorem rule_any {S:Nat->Prop} (x0:ByteArray)(ys0:List ByteArray)(v:Value)(w:World)(hSw:∀ b,S b->b<w.heap.size)(hx0:∀ z∈x0::ys0,isNm z=true)(hl0:ys0.length<=100000)(h:Sl S w 1 v (txs (altT x0 ys0))) :
  Calls Tryz.prog 97 #[v,.int .i64 0] w fun e w'=>∃ v' pv,e = .returned (.tuple #[rV (altR x0 ys0) pv,v',.bool true])/\Sl S w' 1 v' []/\RTAt (fun b=>w.heap.size<=b/\b<w'.heap.size) w' (altR x0 ys0) pv/\Below w.heap.size w w':=by
 have HSW:=h! hSw;have hb1:=Ext.alloc w (.cells #[.int .i64 0,.string ⟨#[]⟩,.string ⟨#[]⟩,.slice none 0 0] 106);have HR0:=h! (Blk.made w #[.int .i64 0,.string ⟨#[]⟩,.string ⟨#[]⟩,.slice none 0 0] 106);have HSV:=h! (several4_any (S:=S) x0 ys0 v (w.alloc (.cells #[.int .i64 0,.string ⟨#[]⟩,.string ⟨#[]⟩,.slice none 0 0] 106)) (fun b hb=>Nat.lt_of_lt_of_le (HSW.out b hb) hb1.size) hx0 hl0 (h.same ((Same.below hb1).mono HSW.out)));have HB1:=h! hb1;obtain⟨ao,n,c,rfl,-,-,-⟩:=h.len;clear hSw hx0 hl0 h hb1;generalize altR x0 ys0=r at *;unfold rV at HSV ⊢;go_enter Tryz.func97,Tryz.ntmps97
 go_wp2_with fail
 refine HSV.out.mono ?_;rintro e w3 ⟨v3,pv,rfl,hsl3,hat3,hb3⟩;have HR3:=h! (HR0.out.below hb3);have HB3:=h! (show Below w.heap.size w w3 from HB1.out.trans hb3);have HSL3:=h! hsl3;have HAT3:=h! hat3;have HSZ:=h! HR0.out.lt;obtain⟨ao3,n3,c3,rfl,-,-,-⟩:=hsl3.len;obtain⟨ao5,c5,rfl,-,-,-⟩:=hat3.rows;clear hb3 HR0 HB1 HSV hsl3 hat3;have r3:=HR3.out.cells;have f3:=HR3.out.free;go_wp2_with fail
 have hs1:=HR3.out.set_to 0 (.int .i64 r.k) rfl;have hs2:=hs1.set_to 1 (.string r.a) rfl;have hs3:=hs2.set_to 2 (.string r.b) rfl;have hs4:=hs3.set_to 3 (.slice ao5 r.ps.length c5) rfl;have hbe:=setAt (i:=3) (v := .slice ao5 r.ps.length c5) (setAt (i:=2) (v := .string r.b) (setAt (i:=1) (v := .string r.a) (setAt (i:=0) (v := .int .i64 r.k) HB3.out)));have hno:¬ S w.heap.size:=fun h=>by have:=HSW.out _ h;omega
 have hkb:=((((Kept.refl S w3).set (a:=⟨w.heap.size,0,none⟩) hno (.int .i64 r.k)).set (a:=⟨w.heap.size,1,none⟩) hno (.string r.a)).set (a:=⟨w.heap.size,2,none⟩) hno (.string r.b)).set (a:=⟨w.heap.size,3,none⟩) hno (.slice ao5 r.ps.length c5);have hkq:=((((Kept.refl (fun x=>w.heap.size+1<=x) w3).set (a:=⟨w.heap.size,0,none⟩) (Nat.not_succ_le_self _) (.int .i64 r.k)).set (a:=⟨w.heap.size,1,none⟩) (Nat.not_succ_le_self _) (.string r.a)).set (a:=⟨w.heap.size,2,none⟩) (Nat.not_succ_le_self _) (.string r.b)).set (a:=⟨w.heap.size,3,none⟩) (Nat.not_succ_le_self _) (.slice ao5 r.ps.length c5);refine bodyPost_ret (v := .tuple #[.agg #[.int .i64 r.k,.string r.a,.string r.b,.slice ao5 r.ps.length c5],.slice ao3 n3 c3,.bool true]) ?_ rfl ⟨_,.slice ao5 r.ps.length c5,rfl,?_,?_,hbe⟩
 ·rw[results_cell_tmp2 rfl];have hl:=run_loadVar_row (P:=Tryz.prog) _ w.heap.size _ 106 _ _ _ hs4 Tryz.underlying106 rfl (by kernel_rfl);simp[asAddr,hl,Result.andThen]
 ·exact HSL3.out.same hkb.block
 ·have h1:=HSZ.out;exact(HAT3.out.same fun b hb=>hkq.block b (by have:=hb.1;simp at this;omega)).mono fun b hb=>⟨by have:=hb.1;simp at this;omega,by simpa using hb.2⟩
inductive PIt where
 | ty (n:ByteArray)
 | rel (n x:ByteArray) (ys:List ByteArray)
def stepD (ts:List TyS):PIt->List TyS
 | .ty n=>ts++[⟨n,[]⟩]
 | .rel n x ys=>ts.dropLast++(ts.drop (ts.length-1)).map fun t=>⟨t.name,t.rels++[(n,altR x ys)]⟩
theorem stepD_rel (a:List TyS)(t:TyS)(n x:ByteArray)(ys:List ByteArray):stepD (a++[t]) (.rel n x ys)=a++[⟨t.name,t.rels++[(n,altR x ys)]⟩]:=by
 unfold stepD;dsimp only;rw[List.dropLast_concat,List.length_append,List.length_singleton,Nat.add_sub_cancel,List.drop_left];rfl
theorem tysT:ElemT Tryz.prog 24 176 2 40:=ElemT.mk' Tryz.underlying24 (show _=some (some (.agg #[.string ByteArray.empty,.slice none 0 0]),2,40)by kernel_rfl) rfl (by decide)
theorem relsElT:ElemT Tryz.prog 174 181 5 80:=ElemT.mk' Tryz.underlying174 (show _=some (some (.agg #[.string ByteArray.empty,.int .i64 0,.string ByteArray.empty,.string ByteArray.empty,.slice none 0 0]),5,80)by kernel_rfl) (by kernel_rfl) (by decide)
theorem Own.setAt {w:World} {B sz:Nat} {e:TypeId} {g n c:Nat} {xs:List Value} (h:Own w B e sz (.slice (some ⟨g,0,none⟩) n c) xs)(i:Nat)(u:Value):Own (w.setCell ⟨g,i,none⟩ u) B e sz (.slice (some ⟨g,0,none⟩) n c) (xs.set i u):=by
 obtain⟨m,h⟩:=h;rcases h.2 with⟨hv,rfl⟩ | ⟨g',cap,cur,hv,hbg,hg,hnc,hcm,hcs,htake⟩
 ·cases hv
 ·cases hv;have hl:=h.1;refine⟨n,by rw[List.length_set];exact hl,.inr ⟨g,c,cur.setIfInBounds i u,rfl,hbg,heap_setCell_same w g i cur e u hg,hnc,hcm,by simpa using hcs,?_⟩⟩;rw[Array.toList_setIfInBounds,<- htake,List.take_set]
def Fo (w:World)(L:Nat)(tv rv:Value)(b:Nat):Prop:=(L<=b/\b<w.heap.size)/\tv.ownBlock≠some b/\rv.ownBlock≠some b
structure PAt (L:Nat)(w:World)(tv:Value)(pre:List (TyS × Value))(n:ByteArray)(rv:Value)(qr:List ((ByteArray × RT) × Value)):Prop where
 tys:Own w L 176 2 tv ((pre++[((⟨n,qr.map (·.1)⟩:TyS),rv)]).flatMap tyC)
 rels:Own w L 181 5 rv (qr.flatMap relC)
 pr:∀ x∈pre,RelsAt (Fo w L tv rv) w x.1.rels x.2
 rr:∀ x∈qr,RTAt (Fo w L tv rv) w x.1.2 x.2
section
variable {L : Nat} {w w' : World} {tv tv' rv rv' : Value} {pre : List (TyS × Value)} {n : ByteArray} {qr : List ((ByteArray × RT) × Value)}
theorem PAt.keep (h:PAt L w tv pre n rv qr)(hk:∀ b,L<=b->b<w.heap.size->w'.heap[b]?=w.heap[b]?)(hz:w.heap.size<=w'.heap.size):PAt L w' tv pre n rv qr:=by
 have hs:Same (Fo w L tv rv) w w':=fun b hb=>hk b hb.1.1 hb.1.2;have hm:∀ b,Fo w L tv rv b->Fo w' L tv rv b:=fun b hb=>⟨⟨hb.1.1,Nat.lt_of_lt_of_le hb.1.2 hz⟩,hb.2⟩;exact⟨h.tys.keepOwn fun g hg=>hk g (h.tys.block g hg).1 (h.tys.block g hg).2,h.rels.keepOwn fun g hg=>hk g (h.rels.block g hg).1 (h.rels.block g hg).2,fun x hx=>((h.pr x hx).same hs).mono hm,fun x hx=>((h.rr x hx).same hs).mono hm⟩
theorem PAt.ty {m:ByteArray} (h:PAt L w tv pre n rv qr)(hk:∀ b,L<=b->b<w.heap.size->tv.ownBlock≠some b->w'.heap[b]?=w.heap[b]?)(hz:w.heap.size<=w'.heap.size)
  (ho:Own w' L 176 2 tv' ((pre++[((⟨n,qr.map (·.1)⟩:TyS),rv)]).flatMap tyC++[.string m,.slice none 0 0])) (hb:∀ g,tv'.ownBlock=some g->tv.ownBlock=some g\/w.heap.size<=g):PAt L w' tv' (pre++[((⟨n,qr.map (·.1)⟩:TyS),rv)]) m (.slice none 0 0) []:=by
 have hs:Same (Fo w L tv rv) w w':=fun b hb=>hk b hb.1.1 hb.1.2 hb.2.1
 have hm:∀ b,Fo w L tv rv b->Fo w' L tv' (.slice none 0 0) b:=fun b hb'=>⟨⟨hb'.1.1,Nat.lt_of_lt_of_le hb'.1.2 hz⟩,fun e=>by
  rcases hb b e with e | e
  ·exact hb'.2.1 e
  ·have:=hb'.1.2;omega,fun e=>(by cases e)⟩
 have hrg:∀ g,rv.ownBlock=some g->tv.ownBlock≠some g:=fun g hg=>h.rels.apart h.tys (by decide) hg;have hrk:Own w' L 181 5 rv (qr.flatMap relC):=h.rels.keepOwn fun g hg=>hk g (h.rels.block g hg).1 (h.rels.block g hg).2 (hrg g hg);refine⟨by rw[List.flatMap_append];exact ho,Own.nil _ _ _ _,fun x hx=>?_,fun x hx=>(by cases hx)⟩;rcases List.mem_append.1 hx with hx | hx
 ·exact((h.pr x hx).same hs).mono hm
 ·obtain rfl:=List.mem_singleton.1 hx;refine⟨qr,rfl,fun x hx=>((h.rr x hx).same hs).mono hm,hrk.slFo fun g hg=>⟨⟨(hrk.block g hg).1,(hrk.block g hg).2⟩,fun e=>?_,fun e=>(by cases e)⟩⟩;rcases hb g e with e | e
  ·exact hrg g hg e
  ·have:=(h.rels.block g hg).2;omega
theorem PAt.first {m:ByteArray} (ho:Own w' L 176 2 tv' [.string m,.slice none 0 0]):PAt L w' tv' [] m (.slice none 0 0) [] :=
 ⟨ho,Own.nil _ _ _ _,fun x hx=>(by cases hx),fun x hx=>(by cases hx)⟩
theorem PAt.rel {m:ByteArray} {r:RT} {pv:Value} {g k c:Nat} (h:PAt L w (.slice (some ⟨g,0,none⟩) k c) pre n rv qr)(hk:∀ b,L<=b->b<w.heap.size->rv.ownBlock≠some b->w'.heap[b]?=w.heap[b]?)(hz:w.heap.size<=w'.heap.size)
  (ho:Own w' L 181 5 rv' (qr.flatMap relC++relC ((m,r),pv))) (hb:∀ g,rv'.ownBlock=some g->rv.ownBlock=some g\/w.heap.size<=g) (hr:RTAt (Fo w L (.slice (some ⟨g,0,none⟩) k c) rv) w r pv):PAt L (w'.setCell ⟨g,pre.length*2+1,none⟩ rv') (.slice (some ⟨g,0,none⟩) k c) pre n rv' (qr++[((m,r),pv)]):=by
 have hrg:rv.ownBlock≠some g:=fun e=>h.rels.apart h.tys (by decide) e rfl
 have htk:Own w' L 176 2 (.slice (some ⟨g,0,none⟩) k c) ((pre++[((⟨n,qr.map (·.1)⟩:TyS),rv)]).flatMap tyC):=h.tys.keepOwn fun x hx=>by
  cases hx;exact hk g (h.tys.block g rfl).1 (h.tys.block g rfl).2 hrg
 have hrg':rv'.ownBlock≠some g:=fun e=>ho.apart htk (by decide) e rfl
 have hs:Same (Fo w L (.slice (some ⟨g,0,none⟩) k c) rv) w (w'.setCell ⟨g,pre.length*2+1,none⟩ rv'):=fun b hb =>
  (Below.heap_setCell w' _ _ b (fun e=>hb.2.1 (by rw[e];rfl))).trans (hk b hb.1.1 hb.1.2 hb.2.2)
 have hm:∀ b,Fo w L (.slice (some ⟨g,0,none⟩) k c) rv b->Fo (w'.setCell ⟨g,pre.length*2+1,none⟩ rv') L (.slice (some ⟨g,0,none⟩) k c) rv' b:=fun b hb'=>⟨⟨hb'.1.1,by simp;exact Nat.lt_of_lt_of_le hb'.1.2 hz⟩,hb'.2.1,fun e=>by
  rcases hb b e with e | e
  ·exact hb'.2.2 e
  ·have:=hb'.1.2;omega⟩
 refine⟨?_,?_,fun x hx=>((h.pr x hx).same hs).mono hm,fun x hx=>?_⟩
 ·have:=htk.setAt (pre.length*2+1) rv'
  rwa[show((pre++[((⟨n,qr.map (·.1)⟩:TyS),rv)]).flatMap tyC).set (pre.length*2+1) rv'=(pre++[((⟨n,(qr++[((m,r),pv)]).map (·.1)⟩:TyS),rv')]).flatMap tyC from by
   rw[List.flatMap_append,List.flatMap_append,List.set_append_right (h:=by rw[flat_length tyC_length];omega),flat_length tyC_length];rw[Nat.add_sub_cancel_left];rfl]at this
 ·rw[List.flatMap_append];exact(show Own w' L 181 5 rv' (qr.flatMap relC++[((m,r),pv)].flatMap relC)from by simpa using ho).keepOwn fun x hx=>Below.heap_setCell _ _ _ _ fun e=>hrg' (by rw[hx,e])
 ·rcases List.mem_append.1 hx with hx | hx
  ·exact((h.rr x hx).same hs).mono hm
  ·obtain rfl:=List.mem_singleton.1 hx;exact(hr.same hs).mono hm
theorem PAt.tysAt (h:PAt L w tv pre n rv qr):TysAt (fun b=>L<=b/\b<w.heap.size) w (pre.map (·.1)++[⟨n,qr.map (·.1)⟩]) tv:=by
 refine⟨pre++[((⟨n,qr.map (·.1)⟩:TyS),rv)],by simp,fun x hx=>?_,h.tys.sl⟩;rcases List.mem_append.1 hx with hx | hx
 ·exact(h.pr x hx).mono fun b hb=>hb.1
 ·obtain rfl:=List.mem_singleton.1 hx;exact⟨qr,rfl,fun x hx=>(h.rr x hx).mono fun b hb=>hb.1,h.rels.sl⟩
end
end Go.Proofs.YtlhaghoajpglaaaGreat
