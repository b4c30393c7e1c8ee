/- Lemmas for the claim, no condition. -/
import GoSem.PinnedTables
import Derived.Deep.DeepHandedRow
import Derived.Lib.SmallJoins
import Derived.Test.YtlhaghoajpglaaaGreatYXMean12
import Derived.Test.YtlhaghoajpglaaaGreatYXMean14
import Derived.Test.YtlhaghoajpglaaaGreatYXMean13
import Derived.Test.YtlhaghoajpglaaaGreatYXMean3
import Derived.Test.YtlhaghoajpglaaaGreatYXMean0
import Derived.Test.YtlhaghoajpglaaaGreatYXMean1
import Derived.Test.YtlhaghoajpglaaaGreatYXMean9
import Derived.Test.YtlhaghoajpglaaaGreatYXMean10
import Derived.Test.YtlhaghoajpglaaaGreatYXMean8
set_option maxRecDepth 100000
set_option maxHeartbeats 600000
namespace Go.Proofs.YtlhaghoajpglaaaGreat
open Go Go.RowKit Go.Maps
def GSaid (P:List P3->List FT->Value->Prop)(w:World)(e:Ending)(w':World):Prop :=
 Ext w w'/\∃ (ps:List P3) (fs:List FT) (po:Option Addr) (pc:Nat) (fo:Option Addr) (fc:Nat) (ev:Value),P ps fs ev/\e = .returned (.tuple #[.agg #[.slice po ps.length pc,.slice fo fs.length fc],ev]) /\
  GrAt (fun x=>w.heap.size<=x/\x<w'.heap.size) w' ps fs (.slice po ps.length pc) (.slice fo fs.length fc)
def JoinG {β:Type} (wd:World)(P:List P3->List FT->Value->Prop)(A:β->Nat->Option Addr->Nat->Option Addr->Nat->List P3->List FT->Value->Act)(e:Exit)(a:Act)(W:World):Prop :=
 e = .normal/\∃ (bk:β) (bg:Nat) (po:Option Addr) (pc:Nat) (fo:Option Addr) (fc:Nat) (ps:List P3) (fs:List FT) (ev:Value),a=A bk bg po pc fo fc ps fs ev/\P ps fs ev/\Ext wd W/\wd.heap.size<=bg /\
  Blk W bg #[.slice po ps.length pc,.slice fo fs.length fc] 96/\GrAt (fun x=>x≠bg/\wd.heap.size<=x/\x<W.heap.size) W ps fs (.slice po ps.length pc) (.slice fo fs.length fc)
theorem GrAt.shape {S:Nat->Prop} {w:World} {ps:List P3} {fs:List FT} {pv fv:Value} (h:GrAt S w ps fs pv fv):∃ po pc fo fc,pv = .slice po ps.length pc/\fv = .slice fo fs.length fc:=by
 obtain⟨h1,q,h2,h3,h4⟩:=h;obtain⟨po,pc,rfl,-⟩:=Sl.rows pC_length (by decide) (show Sl _ w 3 pv (ps.flatMap pC)from h1);obtain⟨fo,fc,rfl,-⟩:=Sl.rows fC_length (by decide) h4;exact⟨po,pc,fo,fc,rfl,by rw[<- h2,List.length_map]⟩
theorem GrAt.none (S:Nat->Prop)(w:World):GrAt S w [] [] (.slice none 0 0) (.slice none 0 0):=⟨Sl.nil _ _ _,[],rfl,(fun x hx=>by cases hx),Sl.nil _ _ _⟩
theorem set_ex (l:List Tup):∃ T,SetT l T:=by
 have htr:∀ a b c:Tup,(!ltT b a)=true->(!ltT c b)=true->(!ltT c a)=true:=fun a b c h k=>by
  rw[Bool.not_eq_true']at *;have:=swoC.ntrans c b a;simp only[lt_cmpC]at this;exact this k h
 have hto:∀ a b:Tup,(!ltT b a||!ltT a b)=true:=fun a b=>by
  cases h:ltT b a with
  | false=>rfl
  | true =>
   cases k:ltT a b with
   | false=>rfl
   | true =>
    have:=swoC.trans a b a;simp only[lt_cmpC]at this;have h3:=this k h;have h4:=swoC.irrefl a;rw[lt_cmpC]at h4;rw[h4]at h3;cases h3
 refine⟨_,set_of (List.mergeSort_perm l fun a b=>!ltT b a) ?_⟩;have:=List.pairwise_mergeSort (le:=fun a b=>!ltT b a) htr hto l;exact this.imp fun {a b} h=>by simpa using h
theorem bookT_any {l T:List Tup} (hT:SetT l T)(v:Value)(w:World)(h:Sl (· < w.heap.size) w 6 v (tuCs l))(hl:l.length<=1000000)(hok:∀ t∈l,t.Ok) :
  Calls Tryz.prog 20 #[v] w fun e w'=>∃ b,e = .returned (.pointer (some ⟨b,0,none⟩))/\BookAt w' b T/\Ext w w':=by
 refine(newBook_any l v w h hl hok).mono ?_;rintro e w' ⟨b,U,rfl,hU,hb,hx⟩;obtain rfl:=hT.uniq hU;exact⟨b,rfl,hb,hx⟩
theorem setT_any {l T:List Tup} (hT:SetT l T)(v:Value)(w:World)(h:Sl (· < w.heap.size) w 6 v (tuCs l))(hl:l.length<=100000)(hok:∀ t∈l,t.Ok) :
  Calls Tryz.prog 50 #[v] w fun e w'=>∃ v',e = .returned v'/\Sl (· < w'.heap.size) w' 6 v' (tuCs T)/\Ext w w':=by
 refine(set25_any v l w h hl hok).mono ?_;rintro e w' ⟨v',U,rfl,hU,hb,hx⟩;obtain rfl:=hT.uniq hU;exact⟨v',rfl,hb.slU,hx⟩
def WalkP (ts:List TyS)(T:List Tup)(shut:List R2)(p:P3)(most:Int)(ok long:Value)(ps:List P3)(fs:List FT)(ev:Value):Prop :=
 (∃ n,WalkEnd ts T shut p most n/\ps=(walkN ts T shut p n).1/\fs=(walkN ts T shut p n).2/\ev=ok)\/(WalkLong ts T shut p most/\ps=[]/\fs=[]/\ev=long)
theorem walkD_any (ts:List TyS)(tv:Value)(T:List Tup)(setv:Value)(shut:List R2)(sv:Value)(p:P3)(most:Int)(N:Nat)(w:World)(h:TysAt (· < w.heap.size) w ts tv)(hu:uniqOk ts=true)(hset:Sl (· < w.heap.size) w 6 setv (tuCs T))(hsv:Sl (· < w.heap.size) w 2 sv (shut.flatMap r2C))(hsl:shut.length<=1099511627776)(hin:WalkIn ts T shut p N) :
  Calls Tryz.prog 51 #[.agg #[tv],setv,sv,pV p,.int .i64 most] w (GSaid (WalkP ts T shut p most (.bool true) (.bool false)) w):=by
 refine(walk26_any ts tv T setv shut sv p most N w h hu hset hsv hsl hin).mono ?_;rintro e w' ⟨hx,⟨n,pv,fv,he,rfl,hg⟩ | ⟨hlong,rfl⟩⟩
 ·obtain⟨po,pc,fo,fc,rfl,rfl⟩:=hg.shape;exact⟨hx,_,_,po,pc,fo,fc,_,.inl ⟨n,he,rfl,rfl,rfl⟩,rfl,hg⟩
 ·exact⟨hx,[],[],none,0,none,0,_,.inr ⟨hlong,rfl,rfl,rfl⟩,rfl,GrAt.none _ _⟩
def nt0:NT := .mk 0 ⟨⟨#[]⟩,⟨#[]⟩,⟨#[]⟩⟩ [] []
def NSaid (P:NT->Value->Prop)(w:World)(e:Ending)(w':World):Prop :=
 Ext w w'/\∃ (n:NT) (so:Option Addr) (sc:Nat) (qo:Option Addr) (qc:Nat) (ev:Value),P n ev/\e = .returned (.tuple #[.agg #[.int .i64 n.k,.string n.p.t,.string n.p.i,.string n.p.r,.slice so n.subs.length sc,.slice qo n.ps.length qc],ev]) /\
  NtAt (fun x=>w.heap.size<=x/\x<w'.heap.size) w' n (.slice so n.subs.length sc,.slice qo n.ps.length qc)
def JoinN {β:Type} (wd:World)(P:NT->Value->Prop)(A:Nat->β->Nat->Option Addr->Nat->Option Addr->Nat->NT->Value->Act)(e:Exit)(a:Act)(W:World):Prop :=
 e = .normal/\∃ (gk:Nat) (bk:β) (bg:Nat) (so:Option Addr) (sc:Nat) (qo:Option Addr) (qc:Nat) (n:NT) (ev:Value),a=A gk bk bg so sc qo qc n ev/\P n ev/\Ext wd W/\wd.heap.size<=bg /\
  Blk W bg #[.int .i64 n.k,.string n.p.t,.string n.p.i,.string n.p.r,.slice so n.subs.length sc,.slice qo n.ps.length qc] 45/\NtAt (fun x=>x≠bg/\wd.heap.size<=x/\x<W.heap.size) W n (.slice so n.subs.length sc,.slice qo n.ps.length qc)
theorem NtAt.zero (S:Nat->Prop)(w:World):NtAt S w nt0 (.slice none 0 0,.slice none 0 0) :=
 (NtAt.iff _ _).2 ⟨Sl.nil _ _ _,[],rfl,(fun x hx=>by cases hx),Sl.nil _ _ _⟩
theorem NSaid.zero {P:NT->Value->Prop} {w w':World} {ev:Value} (hx:Ext w w')(h:P nt0 ev):NSaid P w (.returned (.tuple #[.agg #[.int .i64 0,.string ⟨#[]⟩,.string ⟨#[]⟩,.string ⟨#[]⟩,.slice none 0 0,.slice none 0 0],ev])) w' :=
 ⟨hx,nt0,none,0,none,0,ev,h,rfl,NtAt.zero _ _⟩
def TreeP (ts:List TyS)(T:List Tup)(shut:List R2)(p:P3)(d:Nat)(most:Int)(ok long:Value)(n:NT)(ev:Value):Prop :=
 (((treeE ts T shut d p).sz:Int)<=most/\n=treeE ts T shut d p/\ev=ok)\/(most<((treeE ts T shut d p).sz:Int)/\n=nt0/\ev=long)
structure TreeArg (ts:List TyS)(T:List Tup)(shut:List R2)(p:P3):Prop where
 ok:∀ t∈ts,t.Ok
 chk:chk06 ts=0
 sb:schB ts<=549755813888
 sz:∀ t∈ts,∀ r∈t.rels,r.2.sz<=1000000
 names:(namesOf ts).length<=1099511627776
 refs:(refsOf ts).length<=1099511627776
 shutOk:∀ r∈shut,r.Ok
 pok:p.Ok
 subs:∀ t∈T,t.s.Ok
 nodup:T.Nodup
 len:T.length<=1000000
 rok:∀ x∈refsOf ts,x.2.Ok
theorem treeG_any (ts:List TyS)(tv:Value)(b:Nat)(T:List Tup)(shut:List R2)(sv:Value)(p:P3)(d:Nat)(most:Int)(w:World)(h:TysAt (· < w.heap.size) w ts tv)(ha:TreeArg ts T shut p)
  (hbk:BookAt w b T) (hsv:Sl (· < w.heap.size) w 2 sv (shut.flatMap r2C)) (hd:d<=8) (hm:most<=1000000) :
  Calls Tryz.prog 19 #[.agg #[tv],bkV b,sv,pV p,.int .i64 d,.int .i64 most] w (NSaid (TreeP ts T shut p d most (.int .i64 0) (.int .i64 10)) w):=by
 refine(tree_any ts tv b T shut sv p d most w h ha.ok ha.chk ha.sb ha.sz ha.names ha.refs hbk hsv ha.shutOk ha.pok ha.subs ha.nodup ha.len ha.rok hd hm).mono ?_;rintro e w' ⟨hx,⟨hz,a,b,rfl,hn⟩ | ⟨hz,rfl⟩⟩
 ·obtain⟨so,sc,qo,qc,e⟩:=hn.shape;cases e;exact⟨hx,_,so,sc,qo,qc,_,.inl ⟨hz,rfl,rfl⟩,rfl,hn.mono fun x hx=>⟨hx.1,hx.2.1⟩⟩
 ·exact NSaid.zero hx (.inr ⟨hz,rfl,rfl⟩)
theorem chk_long {ts:List TyS} (h:chk06 ts=0):longOk ts=true:=by
 unfold chk06 at h;split at h
 ·split at h
  ·assumption
  ·cases h
 ·cases h
theorem long_small {ts:List TyS} (h:longOk ts=true):ts.length<=16/\∀ t∈ts,t.rels.length<=16/\∀ r∈t.rels,r.2.sz<=32:=by
 unfold longOk at h;rw[Bool.and_eq_true,decide_eq_true_eq,List.all_eq_true]at h;refine⟨h.1,fun t ht=>?_⟩;have h2:=h.2 t ht;unfold tyLong at h2;rw[Bool.and_eq_true,decide_eq_true_eq,List.all_eq_true]at h2;exact⟨h2.1,fun r hr=>by simpa using h2.2 r hr⟩
theorem long_refs {ts:List TyS} (h:longOk ts=true):(refsOf ts).length<=256:=by
 obtain⟨h1,h2⟩:=long_small h;have:=flat_le (fun t:TyS=>relsOf t.name t.rels) 16 ts fun t ht=>by unfold relsOf;rw[List.length_map];exact(h2 t ht).1
 unfold refsOf;omega
end Go.Proofs.YtlhaghoajpglaaaGreat
namespace Go.Proofs.YtlhaghoajpglaaaGreat
open Go Go.RowKit Go.ChangeShapes Go.WideShapes Go.ChangeAt
def bc (l:List UInt8):List Value:=l.map fun c => .int .u8 c.toNat
theorem bc_length (a:List UInt8):(bc a).length=a.length:=by simp[bc]
theorem bytes_at {S:Nat->Prop} {w:World} {ao:Option Addr} {l:List UInt8} {c:Nat} (h:Sl S w 1 (.slice ao l.length c) (bc l)):∀ i (hi:i<l.length),∃ b off,ao=some ⟨b,off,none⟩/\S b/\w.cell? ⟨b,off+i,none⟩=some (.int .u8 l[i].toNat):=by
 obtain⟨ao',n',c',hv,h1,h2,h3,h4,h5⟩:=h;cases hv;intro i hi;obtain⟨b,off,rfl,hb,hc⟩:=h5 (fun e=>by have:=congrArg List.length e;rw[bc_length]at this;simp only[List.length_nil]at this;omega);exact⟨b,off,rfl,hb,hc i _ (by simp[bc,hi])⟩
section
variable {H : Type} {enc : TypeId × Value -> H} {W : World} {base : Nat} {v : Value} {d : DataW H} {ps : List MemPlace}
theorem open_bytesV (hok:Value.okWide Tryz.prog W .any base 22 v)(h:DataW.Trod enc Tryz.prog W 0 (fun _=>true) true 22 v d ps):∃ l:List UInt8,Sl (· < W.heap.size) W 1 v (bc l):=by
 obtain⟨xs,elems,fuel,hs,hl,he,_⟩:=open_sl Tryz.underlying22 (okWide_slice Tryz.underlying22 hok) h;rw[show Tryz.prog.cellsOf 5=1 from by kernel_rfl]at hs hl he
 have hall:∀ i (hi:i<xs.length),∃ c:UInt8,xs[i] = .int .u8 c.toNat:=by
  intro i hi;have hie:i<elems.length:=by omega
  have:=he i elems[i] (by simp[hie]);rw[Nat.mul_one,show(xs.drop i).take 1=[xs[i]]from by rw[List.drop_eq_getElem_cons hi];rfl]at this;obtain⟨n,e1,_,hw⟩:=DataW.trod_int Tryz.underlying5 this;have hb:=bounds_u8 hw;refine⟨UInt8.ofNat n.toNat,?_⟩;have e2:xs[i] = .int .u8 n:=by simpa using e1
  rw[e2];congr 1
  have:(UInt8.ofNat n.toNat).toNat=n.toNat:=by simp;omega
  rw[this];omega
 refine⟨xs.map fun x=>match x with | .int _ n=>UInt8.ofNat n.toNat | _=>0,?_⟩
 have:bc (xs.map fun x=>match x with | .int _ n=>UInt8.ofNat n.toNat | _=>0)=xs:=by
  apply List.ext_getElem
  ·simp[bc]
  ·intro i h1 h2;obtain⟨c,hc⟩:=hall i h2;simp[bc,hc]
 rw[this];exact hs
theorem open_u8V (hok:Value.okWide Tryz.prog W .any base 5 v)(h:DataW.Trod enc Tryz.prog W 0 (fun _=>true) true 5 v d ps):∃ q:Nat,v = .int .u8 q/\q<256:=by
 obtain⟨x,rfl,_,_,wx⟩:=open_int Tryz.underlying5 hok h;have hb:=bounds_u8 wx;exact⟨x.toNat,by congr 1;omega,by omega⟩
end
end Go.Proofs.YtlhaghoajpglaaaGreat
namespace Go.Proofs.YtlhaghoajpglaaaGreat
open Go Go.RowKit Go.Maps
def Tp (w:World)(tp:Nat):Prop:=∃ (bv:Value)(l:List UInt8)(n:Nat),n<=l.length/\Sl (· < tp) w 1 bv (bc l)/\Blk w tp #[bv,.int .i64 n] 41
abbrev KT (tp:Nat) (w w':World):Prop:=Kept (fun b=>b<w.heap.size/\b≠tp) w w'
theorem KT.trans {tp:Nat} {w w' w'':World} (h:KT tp w w')(k:KT tp w' w''):KT tp w w'':=Kept.trans h (Kept.mono k fun _b hb=>⟨Nat.lt_of_lt_of_le hb.1 h.size,hb.2⟩)
theorem KT.of {tp:Nat} {w w':World} (h:Ext w w'):KT tp w w':=Below.kept h fun _b hb=>hb.1
theorem Tp.ext {w w':World} {tp:Nat} (h:Tp w tp)(hb:Ext w w'):Tp w' tp:=by
 obtain⟨bv,l,n,hn,hs,hB⟩:=h;exact⟨bv,l,n,hn,hs.same ((Same.below hb).mono fun b h=>Nat.lt_trans h hB.lt),hB.below hb⟩
theorem Tp.lt {w:World} {tp:Nat} (h:Tp w tp):tp<w.heap.size:=by
 obtain⟨bv,l,n,hn,hs,hB⟩:=h;exact hB.lt
theorem KT.same {tp:Nat} {w w':World} {S:Nat->Prop} (h:KT tp w w')(hS:∀ b,S b->b<w.heap.size/\b≠tp):Same S w w':=fun b hb=>h.block b (hS b hb)
theorem KT.blk {tp:Nat} {w w':World} (h:KT tp w w') {B:Nat} {cs:Array Value} {e:TypeId} (hB:Blk w B cs e)(hn:B≠tp):Blk w' B cs e:=Kept.blk h hB ⟨hB.lt,hn⟩
theorem next_any (tp:Nat)(n:Int)(w:World)(h:Tp w tp)(hn:1<=n)(hm:n<=1000000):Calls Tryz.prog 106 #[.pointer (some ⟨tp,0,none⟩),.int .i64 n] w fun e w'=>∃ k:Nat,e = .returned (.int .i64 k)/\(k:Int)<n/\Tp w' tp/\KT tp w w':=by
 obtain⟨bv,l,m,hml,hs,hB⟩:=h;obtain⟨ao,ln,c,rfl,hln,hlc,hcm⟩:=hs.len;rw[bc_length,Nat.mul_one]at hln;subst hln;have HS:=h! hs;have HB:=h! hB;have HM:=h! hm;have HML:=h! hml;clear hs hB hm;by_cases h2:n<2
 ·have HN:=h! hn;have hn2:decide (n<2)=true:=decide_eq_true h2;go_enter Tryz.func106,Tryz.ntmps106
  go_wp2_with fail
  refine region_walkN (Ext w) (Ext.drew w) (by kernel_rfl) (by kernel_rfl) (fun _ _ d _ _ h=>by cases d <;> exact h) ?_;(refine WalkN.tk [0,1,2] ?_;(iterate 3 (refine c! ?_));refine TkN.n ?_)
  refine k! 3 ?_;refine k! 4 ?_;refine k! 5 ?_;refine k! 6 ?_;refine k! 7 ?_;refine k! 8 ?_;refine k! 9 ?_;refine k! 10 ?_;refine k! 11 ?_;refine k! 12 ?_
  refine t! 13 ?_
  refine d! ?_;go_wp2_with fail
  go_ret
  exact⟨0,rfl,by have:=HN.out;omega,⟨_,l,m,HML.out,HS.out.same ((Same.below (Ext.drew w)).mono fun b h=>Nat.lt_trans h HB.out.lt),HB.out.below (Ext.drew w)⟩,KT.of (Ext.drew w)⟩
 ·have hn2:decide (n<2)=false:=decide_eq_false h2;have HN2:=h! h2;have a0:∀ W,Ext w W->W.cell? ⟨tp,0,none⟩=some (.slice ao l.length c):=fun W h=>by rw[(HB.out.below h).cells];rfl
  have a1:∀ W,Ext w W->W.cell? ⟨tp,1,none⟩=some (.int .i64 m):=fun W h=>by rw[(HB.out.below h).cells];rfl
  clear h2;by_cases hlt:m<l.length
  ·have hge:decide ((l.length:Int)<=(m:Int))=false:=decide_eq_false (by omega);have hge2:¬ (l.length:Int)<=(m:Int):=by omega
   go_enter Tryz.func106,Tryz.ntmps106
   go_wp2_with fail
   refine region_walkN (Ext w) (Ext.drew w) (by kernel_rfl) (by kernel_rfl) (fun _ _ d _ _ h=>by cases d <;> exact h) ?_;(refine WalkN.tk [0,1,2,3,4,5,6,7,8,9,10,11,12,13] ?_;(iterate 14 (refine c! ?_));refine TkN.n ?_)
   refine d! ?_;have c1:=a1 _ (Ext.drew w);have hf1:=(HB.out.below (Ext.drew w)).free;have hw1:wrap64 ((m:Int)+1)=((m+1:Nat):Int):=by rw[wrap_in _ (by omega) (by omega)];omega
   obtain⟨bb,off,rfl,hb,hcl⟩:=bytes_at HS.out m hlt;generalize hq:l[m]=q at *;clear a0 a1;have HD:=h! (HB.out.below (Ext.drew w));have HSD:=h! (HS.out.same ((Same.below (Ext.drew w)).mono fun b h=>Nat.lt_trans h HB.out.lt));go_wp2_with fail
   obtain⟨w2,hw2⟩:∃ x,x=(w.setCell ⟨tp,1,none⟩ (.int .i64 ((m:Int)+1))).drew:=⟨_,rfl⟩;rw[<- hw2];have H2:=h! (show Blk w2 tp #[.slice (some ⟨bb,off,none⟩) l.length c,.int .i64 ((m+1:Nat):Int)] 41 from by rw[hw2];exact(HB.out.set_to 1 _ (by simp)).drew);have HK2:=h! (show KT tp w w2 from by rw[hw2];exact((Kept.refl _ _).set (fun h=>h.2 rfl) _).drew);have hcl2:=(World.cell?_of_block (a:=⟨bb,off+m,none⟩) (HK2.out.block bb ⟨Nat.lt_trans hb HB.out.lt,by omega⟩)).trans hcl;have HS2:=h! (HS.out.same (HK2.out.same (S:=(· < tp)) fun b (h:b<tp)=>⟨Nat.lt_trans h HB.out.lt,by omega⟩));have HTW:=h! (show Tp w2 tp from⟨_,l,m+1,hlt,HS2.out,H2.out⟩);have b0:∀ W,Ext w2 W->W.cell? ⟨tp,0,none⟩=some (.slice (some ⟨bb,off,none⟩) l.length c):=fun W h=>by rw[(H2.out.below h).cells];rfl
   have b1:∀ W,Ext w2 W->W.cell? ⟨tp,1,none⟩=some (.int .i64 ((m+1:Nat):Int)):=fun W h=>by rw[(H2.out.below h).cells];rfl
   have b2:∀ W,Ext w2 W->W.cell? ⟨bb,off+m,none⟩=some (.int .u8 q.toNat):=fun W h=>Ext.cell h (a:=⟨bb,off+m,none⟩) hcl2;have hs1:IntKind.i64.wrap (m:Int)=(m:Int):=IntWalk.i64_in _ (by omega);have hs2:(0:Int)<=(m:Int):=by omega
   have hs3:(m:Int)<(l.length:Int):=by omega
   obtain⟨n',rfl⟩:∃ n':Nat,n=n':=⟨n.toNat,by omega⟩
   have hmod:(q.toNat:Int).tmod (n':Int)=((q.toNat % n':Nat):Int):=by
    rw[Int.tmod_eq_emod_of_nonneg (by omega)];simp
   have hkl:=Nat.mod_lt q.toNat (show 0<n' from by omega);have hn0:¬ n'=0:=by omega
   have hq0:=q.toNat_lt;generalize q.toNat=qn at *;have hqw:IntKind.i64.wrap (qn:Int)=(qn:Int):=IntWalk.i64_in _ (by omega);generalize hk:qn % n'=k at *;have HKL:=h! hkl;clear hw2 c1 hf1 hw1 hcl hcl2 hb hq hk hkl;refine region_walkN (Ext w2) (Ext.drew w2) (by kernel_rfl) (by kernel_rfl) (fun _ _ d _ _ h=>by cases d <;> exact h) ?_;(refine WalkN.tk [0,1,2,3,4,5,6,7,8,9,10,11,12,13,14] ?_;(iterate 15 (refine c! ?_));refine TkN.n ?_)
   refine d! ?_;clear b0 b1 b2;go_wp2_with fail
   go_ret
   exact⟨k,rfl,by have:=HKL.out;omega,HTW.out.ext (Ext.drew w2),KT.trans HK2.out (KT.of (Ext.drew w2))⟩
  ·have hge:decide ((l.length:Int)<=(m:Int))=true:=decide_eq_true (by omega);have hge2:(l.length:Int)<=(m:Int):=by omega
   go_enter Tryz.func106,Tryz.ntmps106
   go_wp2_with fail
   refine region_walkN (Ext w) (Ext.drew w) (by kernel_rfl) (by kernel_rfl) (fun _ _ d _ _ h=>by cases d <;> exact h) ?_;(refine WalkN.tk [0,1,2,3,4,5,6,7,8,9,10,11,12,13] ?_;(iterate 14 (refine c! ?_));refine TkN.n ?_)
   refine d! ?_;clear a0 a1;go_wp2_with fail
   go_ret
   exact⟨0,rfl,by have:=HN2.out;omega,⟨_,l,m,HML.out,HS.out.same ((Same.below (Ext.drew w)).mono fun b h=>Nat.lt_trans h HB.out.lt),HB.out.below (Ext.drew w)⟩,KT.of (Ext.drew w)⟩
def nmV:ByteArray:=⟨#[118,105,101,119,101,114]⟩
def nmO:ByteArray:=⟨#[111,119,110,101,114]⟩
def nmP:ByteArray:=⟨#[112,97,114,101,110,116]⟩
def nmM:ByteArray:=⟨#[109,101,109,98,101,114]⟩
def relNs:List ByteArray:=[nmV,nmO,nmP,nmM]
theorem mkRels_any (w:World):Calls Tryz.prog 125 #[] w fun e w'=>e = .returned (.slice (some ⟨w.heap.size,0,none⟩) 4 4)/\Blk w' w.heap.size #[.string nmV,.string nmO,.string nmP,.string nmM] 9/\Ext w w':=by
 go_enter Tryz.func125,Tryz.ntmps125
 go_wp2_with fail
 go_ret
 exact⟨rfl,Blk.made _ _ _,Ext.alloc _ _⟩
def LeafR (own:List ByteArray)(r:RT):Prop:=r = .mk 1 ⟨#[]⟩ ⟨#[]⟩ []\/(∃ a∈own,r = .mk 2 a ⟨#[]⟩ [])\/∃ a∈own,∃ b∈relNs.take 2,r = .mk 3 a b []
def GoodR (own:List ByteArray):Nat->RT->Prop
 | 0,r=>LeafR own r
 | d+1,r=>LeafR own r\/∃ k ps,r = .mk k ⟨#[]⟩ ⟨#[]⟩ ps/\(k=4\/k=5)/\(ps.length=2\/ps.length=3)/\∀ p∈ps,GoodR own d p/\p.k≠k
theorem GoodR.leaf {own:List ByteArray} {r:RT} (h:LeafR own r):∀ d,GoodR own d r
 | 0=>h
 | _+1 => .inl h
theorem LeafR.k {own:List ByteArray} {r:RT} (h:LeafR own r):r.k≠0/\r.k≠4/\r.k≠5:=by
 rcases h with rfl | ⟨a,_,rfl⟩ | ⟨a,_,b,_,rfl⟩ <;> simp[RT.k]
theorem RTAt.leaf' (S:Nat->Prop)(w:World) {r:RT} (h:r.ps=[]):RTAt S w r (.slice none 0 0):=(RTAt.iff _ _).2 ⟨[],by rw[h];rfl,by simp,Sl.nil _ _ _⟩
structure MkI (own:List ByteArray)(d:Nat)(kk:Int)(rp:Nat)(w:World)(q:List (RT × Value))(pv:Value):Prop where
 box:Blk w rp #[.int .i64 kk,.string ⟨#[]⟩,.string ⟨#[]⟩,pv] 106
 row:Own w (rp+1) 106 4 pv (q.flatMap rC)
 parts:∀ x∈q,RTAt (fun b=>(rp+1<=b/\b<w.heap.size)/\pv.ownBlock≠some b) w x.1 x.2
 good:∀ x∈q,GoodR own d x.1/\x.1.k≠kk
theorem MkI.keep {own:List ByteArray} {d:Nat} {kk:Int} {rp tp:Nat} {w w':World} {q:List (RT × Value)} {pv:Value} (h:MkI own d kk rp w q pv)(hk:KT tp w w')(ht:tp<rp):MkI own d kk rp w' q pv :=
 ⟨hk.blk h.box (by omega),h.row.keepOwn fun g hg=>hk.block g ⟨(h.row.block g hg).2,by have:=(h.row.block g hg).1;omega⟩,
  fun x hx=>((h.parts x hx).same fun b hb=>hk.block b ⟨hb.1.2,by have:=hb.1.1;omega⟩).mono fun b hb=>⟨⟨hb.1.1,Nat.lt_of_lt_of_le hb.1.2 hk.size⟩,hb.2⟩,h.good⟩
theorem MkI.add {own:List ByteArray} {d:Nat} {kk:Int} {rp n0:Nat} {w w7:World} {q:List (RT × Value)} {pv v7 v5:Value} {r:RT} (h:MkI own d kk rp w q pv)(hk:∀ b,b<w.heap.size->pv.ownBlock≠some b->w7.heap[b]?=w.heap[b]?)(hz:w.heap.size<=w7.heap.size)
  (ho:Own w7 (rp+1) 106 4 v7 (q.flatMap rC++rC (r,v5))) (hb:∀ g,v7.ownBlock=some g->pv.ownBlock=some g\/w.heap.size<=g) (hr:RTAt (fun b=>n0<=b/\b<w.heap.size) w r v5) (hn0:rp+1<=n0) (hpv:∀ g,pv.ownBlock=some g->g<n0) (hg:GoodR own d r/\r.k≠kk) :
  MkI own d kk rp (w7.setCell ⟨rp,3,none⟩ v7) (q++[(r,v5)]) v7:=by
 have hne:pv.ownBlock≠some rp:=fun e=>by have:=(h.row.block rp e).1;omega
 have hs:Same (fun b=>(rp+1<=b/\b<w.heap.size)/\pv.ownBlock≠some b) w (w7.setCell ⟨rp,3,none⟩ v7):=fun b hb'=>(Below.heap_setCell w7 _ _ b (by have:=hb'.1.1;show b≠rp;omega)).trans (hk b hb'.1.2 hb'.2)
 have hm:∀ b,((rp+1<=b/\b<w.heap.size)/\pv.ownBlock≠some b)->((rp+1<=b/\b<(w7.setCell ⟨rp,3,none⟩ v7).heap.size)/\v7.ownBlock≠some b):=fun b hb'=>⟨⟨hb'.1.1,by simp;exact Nat.lt_of_lt_of_le hb'.1.2 hz⟩,fun e=>by
  rcases hb b e with e | e
  ·exact hb'.2 e
  ·have:=hb'.1.2;omega⟩
 refine⟨?_,?_,fun x hx=>?_,fun x hx=>?_⟩
 ·have hb7:Blk w7 rp #[.int .i64 kk,.string ⟨#[]⟩,.string ⟨#[]⟩,pv] 106:=(hk rp h.box.lt hne).trans h.box;exact hb7.set_to 3 _ rfl
 ·rw[List.flatMap_append];exact(show Own w7 (rp+1) 106 4 v7 (q.flatMap rC++[(r,v5)].flatMap rC)from by simpa using ho).keepOwn fun g hg=>Below.heap_setCell _ _ _ _ (by have:=(ho.block g hg).1;show g≠rp;omega)
 ·rcases List.mem_append.1 hx with hx | hx
  ·exact((h.parts x hx).same hs).mono hm
  ·obtain rfl:=List.mem_singleton.1 hx;have h2:∀ b,(n0<=b/\b<w.heap.size)->((rp+1<=b/\b<w.heap.size)/\pv.ownBlock≠some b):=fun b hb'=>⟨⟨Nat.le_trans hn0 hb'.1,hb'.2⟩,fun e=>by have:=hpv b e;omega⟩;exact((hr.mono h2).same hs).mono hm
 ·rcases List.mem_append.1 hx with hx | hx
  ·exact h.good x hx
  ·obtain rfl:=List.mem_singleton.1 hx;exact hg
theorem Tp.kept {w w':World} {tp:Nat} {K:Nat->Prop} (h:Tp w tp)(hk:Kept K w w')(hK:∀ b,b<=tp->K b):Tp w' tp:=by
 obtain⟨bv,l,n,hn,hs,hB⟩:=h;exact⟨bv,l,n,hn,hs.same fun b hb=>hk.block b (hK b (Nat.le_of_lt hb)),hk.blk hB (hK tp (Nat.le_refl _))⟩
theorem Blk.set4 {w:World} {B:Nat} {a b c d:Value} {e:TypeId} (h:Blk w B #[a,b,c,d] e)(x0 x1 x2 x3:Value):Blk ((((w.setCell ⟨B,0,none⟩ x0).setCell ⟨B,1,none⟩ x1).setCell ⟨B,2,none⟩ x2).setCell ⟨B,3,none⟩ x3) B #[x0,x1,x2,x3] e :=
 (((h.set_to (cs':=#[x0,b,c,d]) 0 x0 rfl).set_to (cs':=#[x0,x1,c,d]) 1 x1 rfl).set_to (cs':=#[x0,x1,x2,d]) 2 x2 rfl).set_to (cs':=#[x0,x1,x2,x3]) 3 x3 rfl
theorem Kept.set4 {K:Nat->Prop} {w w':World} {B:Nat} (h:Kept K w w')(hk:¬ K B)(x0 x1 x2 x3:Value):Kept K w ((((w'.setCell ⟨B,0,none⟩ x0).setCell ⟨B,1,none⟩ x1).setCell ⟨B,2,none⟩ x2).setCell ⟨B,3,none⟩ x3):=(((h.set hk x0).set hk x1).set hk x2).set hk x3
theorem Tp.set4 {w:World} {tp B:Nat} (h:Tp w tp)(_hB:B<w.heap.size)(hn:tp<B)(x0 x1 x2 x3:Value):Tp ((((w.setCell ⟨B,0,none⟩ x0).setCell ⟨B,1,none⟩ x1).setCell ⟨B,2,none⟩ x2).setCell ⟨B,3,none⟩ x3) tp :=
 h.kept (K:=fun b=>b≠B) ((Kept.refl _ w).set4 (fun h=>h rfl) x0 x1 x2 x3) fun b hb=>by omega
theorem mkRule_any (own:List ByteArray)(hol:1<=own.length/\own.length<=4)(d:Nat):∀ (nt:Int)(tp:Nat)(ov:Value)(w:World),Tp w tp->Sl (fun b=>b<w.heap.size/\b≠tp) w 1 ov (txs own)->d<=1000->(nt=0\/nt=4\/nt=5) ->
  Calls Tryz.prog 126 #[.pointer (some ⟨tp,0,none⟩),ov,.int .i64 d,.int .i64 nt] w fun e w'=>∃ (r:RT) (pv:Value),e = .returned (rV r pv)/\GoodR own d r/\r.k≠nt/\RTAt (fun b=>w.heap.size<=b/\b<w'.heap.size) w' r pv/\Tp w' tp/\KT tp w w':=by
 have HOL:=h! hol;clear hol;induction d using Nat.strongRecOn with
 | ind d ih =>
 intro nt tp ov w htp hov hd hnt;obtain⟨ao,ln,c,rfl,hln,-,-⟩:=hov.len;rw[txs_length,Nat.mul_one]at hln;subst hln;have HOV:=h! hov;have HTP:=h! htp;have HNT:=h! hnt;have HD:=h! hd;have HLT:=h! htp.lt;have x01:=Ext.alloc w (.cells #[.int .i64 0,.string ⟨#[]⟩,.string ⟨#[]⟩,.slice none 0 0] 106);have HR0:=h! (Blk.made w #[.int .i64 0,.string ⟨#[]⟩,.string ⟨#[]⟩,.slice none 0 0] 106);have HX01:=h! x01;have HNX:=h! (next_any tp 8 _ (htp.ext x01) (by decide) (by decide));clear hov htp hnt hd x01;go_enter Tryz.func126,Tryz.ntmps126
 go_wp2_with fail
 refine HNX.out.mono ?_;rintro e w1 ⟨k,rfl,hk,htp1,hkt1⟩;have w1HT:=h! htp1;have w1HK:=h! (KT.trans (KT.of HX01.out) hkt1);have w1HR:=h! (hkt1.blk HR0.out (by have:=HLT.out;omega));have HZ1:=h! (show w.heap.size<w1.heap.size from w1HR.out.lt);have hr1:=w1HR.out.cells;have hf1:=w1HR.out.free;clear htp1 hkt1 HNX HX01 HR0 HTP;have h8:k=0\/k=1\/k=2\/k=3\/k=4\/k=5\/6<=k:=by omega
 rcases h8 with rfl | rfl | rfl | rfl | rfl | rfl | h6
 ·clear hk;go_wp2_with fail
  refine bodyPost_ret (results_cell_row rfl _ _ w.heap.size 106 #[.int .i64 1,.string ⟨#[]⟩,.string ⟨#[]⟩,.slice none 0 0] (0,0) _ rfl (w1HR.out.set4 _ _ _ _) Tryz.underlying106 rfl (by kernel_rfl)) rfl ?_;exact⟨.mk 1 ⟨#[]⟩ ⟨#[]⟩ [],.slice none 0 0,rfl,GoodR.leaf (.inl rfl) _,by have:=HNT.out;have:=(show LeafR own (.mk 1 ⟨#[]⟩ ⟨#[]⟩ [])from .inl rfl).k;omega,RTAt.leaf' _ _ rfl,w1HT.out.set4 w1HR.out.lt (by have:=HLT.out;omega) _ _ _ _,w1HK.out.set4 (fun h=>Nat.lt_irrefl _ h.1) _ _ _ _⟩
 ·clear hk;go_wp2_with fail
  refine bodyPost_ret (results_cell_row rfl _ _ w.heap.size 106 #[.int .i64 1,.string ⟨#[]⟩,.string ⟨#[]⟩,.slice none 0 0] (0,0) _ rfl (w1HR.out.set4 _ _ _ _) Tryz.underlying106 rfl (by kernel_rfl)) rfl ?_;exact⟨.mk 1 ⟨#[]⟩ ⟨#[]⟩ [],.slice none 0 0,rfl,GoodR.leaf (.inl rfl) _,by have:=HNT.out;have:=(show LeafR own (.mk 1 ⟨#[]⟩ ⟨#[]⟩ [])from .inl rfl).k;omega,RTAt.leaf' _ _ rfl,w1HT.out.set4 w1HR.out.lt (by have:=HLT.out;omega) _ _ _ _,w1HK.out.set4 (fun h=>Nat.lt_irrefl _ h.1) _ _ _ _⟩
 ·clear hk;go_wp2_with fail
  refine bodyPost_ret (results_cell_row rfl _ _ w.heap.size 106 #[.int .i64 1,.string ⟨#[]⟩,.string ⟨#[]⟩,.slice none 0 0] (0,0) _ rfl (w1HR.out.set4 _ _ _ _) Tryz.underlying106 rfl (by kernel_rfl)) rfl ?_;exact⟨.mk 1 ⟨#[]⟩ ⟨#[]⟩ [],.slice none 0 0,rfl,GoodR.leaf (.inl rfl) _,by have:=HNT.out;have:=(show LeafR own (.mk 1 ⟨#[]⟩ ⟨#[]⟩ [])from .inl rfl).k;omega,RTAt.leaf' _ _ rfl,w1HT.out.set4 w1HR.out.lt (by have:=HLT.out;omega) _ _ _ _,w1HK.out.set4 (fun h=>Nat.lt_irrefl _ h.1) _ _ _ _⟩
 ·clear hk;have HNX2:=h! (next_any tp own.length w1 w1HT.out (by have:=HOL.out;omega) (by have:=HOL.out;omega));go_wp2_with fail
  refine HNX2.out.mono ?_;rintro e w2 ⟨k2,rfl,hk2,htp2,hkt2⟩;have w2HT:=h! htp2;have w2HK:=h! (KT.trans w1HK.out hkt2);have w2HR:=h! (hkt2.blk w1HR.out (by have:=HLT.out;omega));have hr2:=w2HR.out.cells;have hf2:=w2HR.out.free;have hk2l:k2<own.length:=by omega
  obtain⟨bo,oo,rfl,hbo,hco⟩:=texts_at HOV.out k2 hk2l;have hco2:=(World.cell?_of_block (a:=⟨bo,oo+k2,none⟩) (w2HK.out.block bo hbo)).trans hco;have HAM:=h! (List.getElem_mem hk2l);generalize own[k2]=nm at *;clear htp2 hkt2 HNX2 hr1 hf1 hco hbo;go_wp2_with fail
  refine bodyPost_ret (results_cell_row rfl _ _ w.heap.size 106 #[.int .i64 2,.string nm,.string ⟨#[]⟩,.slice none 0 0] (0,0) _ rfl (w2HR.out.set4 _ _ _ _) Tryz.underlying106 rfl (by kernel_rfl)) rfl ?_;exact⟨.mk 2 nm ⟨#[]⟩ [],.slice none 0 0,rfl,GoodR.leaf (.inr (.inl ⟨nm,HAM.out,rfl⟩)) _,by have:=HNT.out;have:=(show LeafR own (.mk 2 nm ⟨#[]⟩ [])from .inr (.inl ⟨nm,HAM.out,rfl⟩)).k;omega,RTAt.leaf' _ _ rfl,w2HT.out.set4 w2HR.out.lt (by have:=HLT.out;omega) _ _ _ _,w2HK.out.set4 (fun h=>Nat.lt_irrefl _ h.1) _ _ _ _⟩
 ·clear hk;have HNX2:=h! (fun W (h:Tp W tp)=>next_any tp own.length W h (by have:=HOL.out;omega) (by have:=HOL.out;omega));go_wp2_with fail
  obtain⟨wd,hwd⟩:∃ wd,wd=w1.drew:=⟨_,rfl⟩;have hE:Ext w1 wd:=by rw[hwd];exact Ext.drew w1
  have wdHT:=h! (w1HT.out.ext hE);have wdHK:=h! (KT.trans w1HK.out (KT.of hE));have wdHR:=h! (w1HR.out.below hE);refine region_walkL 13 (Kept (fun b=>b<wd.heap.size/\b≠tp) wd) (by rw[<- hwd];exact Kept.refl _ _) (by kernel_rfl) (by kernel_rfl) (fun _ _ d _ _ h=>by cases d <;> exact h) ?_;rw[<- hwd];clear hwd hE hr1 hf1;(refine WalkL.tk [0,1,2,3,8] ?_;(iterate 5 (refine l! ?_));refine TkL.n ?_)
  refine oL! 4 ?_;refine b! ?_;intro K hK;go_simp;refine(HNX2.out wd wdHT.out).mono ?_;rintro e w2 ⟨k2,rfl,hk2,htp2,hkt2⟩;refine hK.out _ _ hkt2 ?_;clear hK;have hk2l:k2<own.length:=by omega
  obtain⟨bo,oo,rfl,hbo,hco⟩:=texts_at HOV.out k2 hk2l;have hcoW:∀ W,Kept (fun b=>b<wd.heap.size/\b≠tp) wd W->W.cell? ⟨bo,oo+k2,none⟩=some (.string own[k2]):=fun W hW=>(World.cell?_of_block (a:=⟨bo,oo+k2,none⟩) ((hW.block bo ⟨Nat.lt_of_lt_of_le hbo.1 wdHK.out.size,hbo.2⟩).trans (wdHK.out.block bo hbo))).trans hco;have HAM:=h! (List.getElem_mem hk2l);generalize own[k2]=nm at *;clear hco;(refine WalkL.tk [5,6] ?_;(iterate 2 (refine l! ?_));refine TkL.n ?_)
  refine oL! 7 ?_;refine b! ?_;intro K hK;go_simp;refine(mkRels_any w2).mono ?_;rintro e w3 ⟨rfl,hrb,hb3⟩;have hkt3:=KT.trans hkt2 (KT.of hb3);refine hK.out _ _ hkt3 ?_;have HZ2:=h! (show wd.heap.size<=w2.heap.size from hkt2.size);clear hK hkt2;refine oL! 9 ?_;refine b! ?_;intro K hK;go_simp;refine(next_any tp 2 w3 (htp2.ext hb3) (by decide) (by decide)).mono ?_;rintro e w4 ⟨k4,rfl,hk4,htp4,hkt4⟩;have hk24:=KT.trans hkt3 hkt4;refine hK.out _ _ hk24 ?_;clear hK hkt3;have HRB4:=h! (hkt4.blk hrb (by have:=htp2.lt;omega));have w4HT:=h! htp4;have w4HK:=h! (KT.trans wdHK.out hk24);have w4HR:=h! (hk24.blk wdHR.out (by have:=HLT.out;omega));have HZ4:=h! (show w2.heap.size<w4.heap.size from HRB4.out.lt)
  obtain⟨nm2,hn2,hcl4⟩:∃ nm2:ByteArray,nm2∈relNs.take 2/\w4.cell? ⟨w2.heap.size,k4,none⟩=some (.string nm2):=by
   obtain rfl | rfl:k4=0\/k4=1:=by omega
   ·exact⟨nmV,by simp[relNs],by rw[HRB4.out.cells];rfl⟩
   ·exact⟨nmO,by simp[relNs],by rw[HRB4.out.cells];rfl⟩
  have HN2:=h! hn2;have w4r:=w4HR.out.cells;have w4f:=w4HR.out.free;have h04:(0:Int)<=(k4:Int):=by omega
  have h44:(k4:Int)<4:=by omega
  clear hn2 htp4 hkt4 htp2 hrb hb3 hk4 hk2 HNX2;((refine WalkL.take 10 _ ?_ (by simp only[gA,gS,gZ];rfl) (by kernel_rfl) (by kernel_rfl) (by kernel_rfl) (by rfl) (fun W hW=>?_) ?_;rotate_left;· (go_simp;try with_reducible rfl));simp only[Act.put,pA,pZ,pS])
  refine oL! 11 ?_;refine b! ?_;intro K hK;go_simp;refine hK.out _ _ hk24 ?_;clear hK;((refine WalkL.take 12 _ ?_ (by simp only[gA,gS,gZ];rfl) (by kernel_rfl) (by kernel_rfl) (by kernel_rfl) (by rfl) (fun W hW=>?_) ?_;rotate_left;· (go_simp;try with_reducible rfl));simp only[Act.put,pA,pZ,pS])
  refine WalkL.last (by kernel_rfl) (by kernel_rfl) ?_;refine b! ?_;intro K hK;go_simp;refine hK.out _ _ ?_;clear hK hcl4 hk24 hcoW;go_wp2_with fail
  refine bodyPost_ret (results_cell_row rfl _ _ w.heap.size 106 #[.int .i64 3,.string nm,.string nm2,.slice none 0 0] (0,0) _ rfl (w4HR.out.set4 _ _ _ _) Tryz.underlying106 rfl (by kernel_rfl)) rfl ?_;exact⟨.mk 3 nm nm2 [],.slice none 0 0,rfl,GoodR.leaf (.inr (.inr ⟨nm,HAM.out,nm2,HN2.out,rfl⟩)) _,by have:=HNT.out;have:=(show LeafR own (.mk 3 nm nm2 [])from .inr (.inr ⟨nm,HAM.out,nm2,HN2.out,rfl⟩)).k;omega,RTAt.leaf' _ _ rfl,w4HT.out.set4 w4HR.out.lt (by have:=HLT.out;omega) _ _ _ _,w4HK.out.set4 (fun h=>Nat.lt_irrefl _ h.1) _ _ _ _⟩
 ·clear hk;have HNX2:=h! (fun W (h:Tp W tp)=>next_any tp own.length W h (by have:=HOL.out;omega) (by have:=HOL.out;omega));go_wp2_with fail
  obtain⟨wd,hwd⟩:∃ wd,wd=w1.drew:=⟨_,rfl⟩;have hE:Ext w1 wd:=by rw[hwd];exact Ext.drew w1
  have wdHT:=h! (w1HT.out.ext hE);have wdHK:=h! (KT.trans w1HK.out (KT.of hE));have wdHR:=h! (w1HR.out.below hE);refine region_walkL 13 (Kept (fun b=>b<wd.heap.size/\b≠tp) wd) (by rw[<- hwd];exact Kept.refl _ _) (by kernel_rfl) (by kernel_rfl) (fun _ _ d _ _ h=>by cases d <;> exact h) ?_;rw[<- hwd];clear hwd hE hr1 hf1;(refine WalkL.tk [0,1,2,3,8] ?_;(iterate 5 (refine l! ?_));refine TkL.n ?_)
  refine oL! 4 ?_;refine b! ?_;intro K hK;go_simp;refine(HNX2.out wd wdHT.out).mono ?_;rintro e w2 ⟨k2,rfl,hk2,htp2,hkt2⟩;refine hK.out _ _ hkt2 ?_;clear hK;have hk2l:k2<own.length:=by omega
  obtain⟨bo,oo,rfl,hbo,hco⟩:=texts_at HOV.out k2 hk2l;have hcoW:∀ W,Kept (fun b=>b<wd.heap.size/\b≠tp) wd W->W.cell? ⟨bo,oo+k2,none⟩=some (.string own[k2]):=fun W hW=>(World.cell?_of_block (a:=⟨bo,oo+k2,none⟩) ((hW.block bo ⟨Nat.lt_of_lt_of_le hbo.1 wdHK.out.size,hbo.2⟩).trans (wdHK.out.block bo hbo))).trans hco;have HAM:=h! (List.getElem_mem hk2l);generalize own[k2]=nm at *;clear hco;(refine WalkL.tk [5,6] ?_;(iterate 2 (refine l! ?_));refine TkL.n ?_)
  refine oL! 7 ?_;refine b! ?_;intro K hK;go_simp;refine(mkRels_any w2).mono ?_;rintro e w3 ⟨rfl,hrb,hb3⟩;have hkt3:=KT.trans hkt2 (KT.of hb3);refine hK.out _ _ hkt3 ?_;have HZ2:=h! (show wd.heap.size<=w2.heap.size from hkt2.size);clear hK hkt2;refine oL! 9 ?_;refine b! ?_;intro K hK;go_simp;refine(next_any tp 2 w3 (htp2.ext hb3) (by decide) (by decide)).mono ?_;rintro e w4 ⟨k4,rfl,hk4,htp4,hkt4⟩;have hk24:=KT.trans hkt3 hkt4;refine hK.out _ _ hk24 ?_;clear hK hkt3;have HRB4:=h! (hkt4.blk hrb (by have:=htp2.lt;omega));have w4HT:=h! htp4;have w4HK:=h! (KT.trans wdHK.out hk24);have w4HR:=h! (hk24.blk wdHR.out (by have:=HLT.out;omega));have HZ4:=h! (show w2.heap.size<w4.heap.size from HRB4.out.lt)
  obtain⟨nm2,hn2,hcl4⟩:∃ nm2:ByteArray,nm2∈relNs.take 2/\w4.cell? ⟨w2.heap.size,k4,none⟩=some (.string nm2):=by
   obtain rfl | rfl:k4=0\/k4=1:=by omega
   ·exact⟨nmV,by simp[relNs],by rw[HRB4.out.cells];rfl⟩
   ·exact⟨nmO,by simp[relNs],by rw[HRB4.out.cells];rfl⟩
  have HN2:=h! hn2;have w4r:=w4HR.out.cells;have w4f:=w4HR.out.free;have h04:(0:Int)<=(k4:Int):=by omega
  have h44:(k4:Int)<4:=by omega
  clear hn2 htp4 hkt4 htp2 hrb hb3 hk4 hk2 HNX2;((refine WalkL.take 10 _ ?_ (by simp only[gA,gS,gZ];rfl) (by kernel_rfl) (by kernel_rfl) (by kernel_rfl) (by rfl) (fun W hW=>?_) ?_;rotate_left;· (go_simp;try with_reducible rfl));simp only[Act.put,pA,pZ,pS])
  refine oL! 11 ?_;refine b! ?_;intro K hK;go_simp;refine hK.out _ _ hk24 ?_;clear hK;((refine WalkL.take 12 _ ?_ (by simp only[gA,gS,gZ];rfl) (by kernel_rfl) (by kernel_rfl) (by kernel_rfl) (by rfl) (fun W hW=>?_) ?_;rotate_left;· (go_simp;try with_reducible rfl));simp only[Act.put,pA,pZ,pS])
  refine WalkL.last (by kernel_rfl) (by kernel_rfl) ?_;refine b! ?_;intro K hK;go_simp;refine hK.out _ _ ?_;clear hK hcl4 hk24 hcoW;go_wp2_with fail
  refine bodyPost_ret (results_cell_row rfl _ _ w.heap.size 106 #[.int .i64 3,.string nm,.string nm2,.slice none 0 0] (0,0) _ rfl (w4HR.out.set4 _ _ _ _) Tryz.underlying106 rfl (by kernel_rfl)) rfl ?_;exact⟨.mk 3 nm nm2 [],.slice none 0 0,rfl,GoodR.leaf (.inr (.inr ⟨nm,HAM.out,nm2,HN2.out,rfl⟩)) _,by have:=HNT.out;have:=(show LeafR own (.mk 3 nm nm2 [])from .inr (.inr ⟨nm,HAM.out,nm2,HN2.out,rfl⟩)).k;omega,RTAt.leaf' _ _ rfl,w4HT.out.set4 w4HR.out.lt (by have:=HLT.out;omega) _ _ _ _,w4HK.out.set4 (fun h=>Nat.lt_irrefl _ h.1) _ _ _ _⟩
 ·cases d with
  | zero =>
   obtain rfl | rfl:k=6\/k=7:=by omega
   ·clear hk h6;go_wp2_with fail
    refine bodyPost_ret (results_cell_row rfl _ _ w.heap.size 106 #[.int .i64 1,.string ⟨#[]⟩,.string ⟨#[]⟩,.slice none 0 0] (0,0) _ rfl (w1HR.out.set4 _ _ _ _) Tryz.underlying106 rfl (by kernel_rfl)) rfl ?_;exact⟨.mk 1 ⟨#[]⟩ ⟨#[]⟩ [],.slice none 0 0,rfl,GoodR.leaf (.inl rfl) _,by have:=HNT.out;have:=(show LeafR own (.mk 1 ⟨#[]⟩ ⟨#[]⟩ [])from .inl rfl).k;omega,RTAt.leaf' _ _ rfl,w1HT.out.set4 w1HR.out.lt (by have:=HLT.out;omega) _ _ _ _,w1HK.out.set4 (fun h=>Nat.lt_irrefl _ h.1) _ _ _ _⟩
   ·clear hk h6;go_wp2_with fail
    refine bodyPost_ret (results_cell_row rfl _ _ w.heap.size 106 #[.int .i64 1,.string ⟨#[]⟩,.string ⟨#[]⟩,.slice none 0 0] (0,0) _ rfl (w1HR.out.set4 _ _ _ _) Tryz.underlying106 rfl (by kernel_rfl)) rfl ?_;exact⟨.mk 1 ⟨#[]⟩ ⟨#[]⟩ [],.slice none 0 0,rfl,GoodR.leaf (.inl rfl) _,by have:=HNT.out;have:=(show LeafR own (.mk 1 ⟨#[]⟩ ⟨#[]⟩ [])from .inl rfl).k;omega,RTAt.leaf' _ _ rfl,w1HT.out.set4 w1HR.out.lt (by have:=HLT.out;omega) _ _ _ _,w1HK.out.set4 (fun h=>Nat.lt_irrefl _ h.1) _ _ _ _⟩
  | succ d =>
   have HIH:=h! (ih d (Nat.lt_succ_self d));clear ih;have hd0:(0:Int)<((d+1:Nat):Int):=by omega
   obtain rfl | rfl:k=6\/k=7:=by omega
   ·clear hk h6;by_cases hq:nt=4
    ·subst hq;go_wp2_with fail
     clear hr1 hf1;obtain⟨wa,hwa⟩:∃ x,x=w1.alloc (.cells #[.int .i64 4,.int .i64 5] 3):=⟨_,rfl⟩;obtain⟨wb,hwb⟩:∃ x,x=wa.alloc (.cells #[.int .i64 5,.string ⟨#[]⟩,.string ⟨#[]⟩,.slice none 0 0] 106):=⟨_,rfl⟩;have ea:wa.heap.size=w1.heap.size+1:=by rw[hwa];simp
     have xa:Ext w1 wa:=by rw[hwa];exact Ext.alloc _ _
     have xb:Ext wa wb:=by rw[hwb];exact Ext.alloc _ _
     have HRP:=h! (show Blk wb (w1.heap.size+1) #[.int .i64 5,.string ⟨#[]⟩,.string ⟨#[]⟩,.slice none 0 0] 106 from by rw[hwb,<- ea];exact Blk.made _ _ _);have wbHT:=h! (w1HT.out.ext (xa.trans xb));have wbHK:=h! (KT.trans w1HK.out (KT.of (xa.trans xb)));have wbHR:=h! (w1HR.out.below (xa.trans xb));have HNX2:=h! (next_any tp 2 wb wbHT.out (by decide) (by decide));rw[<- ea]at HRP;generalize wa.heap.size=rp at *;rw[<- ea];have wbHL:=h! (show w.heap.size<rp/\tp<w.heap.size from⟨by have:=HZ1.out;omega,HLT.out⟩);have wbHM:=h! (show MkI own d 5 rp wb [] (.slice none 0 0)from⟨HRP.out,Own.nil _ _ _ _,by simp,by simp⟩);subst hwb hwa;clear ea xa xb HRP w1HT w1HK w1HR HZ1;refine HNX2.out.mono ?_;clear HNX2;rintro e w2 ⟨k3,rfl,hk3,htp2,hkt2⟩;have w2HM:=h! (wbHM.out.keep hkt2 (by have:=wbHL.out;omega));have w2HR:=h! (hkt2.blk wbHR.out (by have:=wbHL.out;omega));have w2HK:=h! (KT.trans wbHK.out hkt2);have w2HT:=h! htp2;clear wbHM wbHR wbHK wbHT htp2 hkt2;have hw3:IntKind.i64.wrap (2+(k3:Int))=((2+k3:Nat):Int):=by rw[IntWalk.i64_in _ (by omega)];omega
     have hw3':wrap64 (2+(k3:Int))=((2+k3:Nat):Int):=by rw[wrap_in _ (by omega) (by omega)];omega
     go_wp2_with fail
     clear hw3 hw3';generalize hN:2+k3=N at *;have HN:=h! (show N=2\/N=3 from by omega);have HNE:=h! hN;clear hN hk3 hd0;go_loopw [12] (fun iv wr=>∃ (n:Nat) (q:List (RT × Value)) (pv:Value),iv = .int .i64 n/\q.length+n=N/\MkI own d 5 rp wr q pv/\Blk wr w.heap.size #[.int .i64 0,.string ⟨#[]⟩,.string ⟨#[]⟩,.slice none 0 0] 106/\Tp wr tp/\KT tp w wr) (fun iv _=>(intOf iv).toNat)
     case atStart=>exact⟨N,[],_,by rw[<- HNE.out];simp,by simp,w2HM.out,w2HR.out,w2HT.out,w2HK.out⟩
     case round =>
      obtain⟨n,q,pv,rfl,hqn,hm,hrb,htp,hkt⟩:=hrel;have HQN:=h! hqn;have wrHM:=h! hm;have wrHR:=h! hrb;have wrHT:=h! htp;have wrHK:=h! hkt;clear hqn w2HM w2HR w2HT w2HK;by_cases hn:n=0
      ·subst hn;obtain⟨aov,kv,cv,rfl,-,-,-⟩:=hm.row.sl.len;have hp1:=hm.box.cells;have hb1:=hrb.cells;have hbf:=hrb.free;clear hm hrb htp hkt;go_wp2_with fail
       clear hp1 hb1 hbf;refine bodyPost_ret (results_cell_row rfl _ _ w.heap.size 106 #[.int .i64 5,.string ⟨#[]⟩,.string ⟨#[]⟩,.slice aov kv cv] (0,0) _ rfl (wrHR.out.set4 _ _ _ _) Tryz.underlying106 rfl (by kernel_rfl)) rfl ?_;have hks:Kept (fun b=>b≠w.heap.size) wr _:=(Kept.refl _ wr).set4 (B:=w.heap.size) (fun h=>h rfl) (.int .i64 5) (.string ⟨#[]⟩) (.string ⟨#[]⟩) (.slice aov kv cv);refine⟨.mk 5 ⟨#[]⟩ ⟨#[]⟩ (q.map (·.1)),.slice aov kv cv,rfl,.inr ⟨5,q.map (·.1),rfl,by decide,by have:=HQN.out;have:=HN.out;rw[List.length_map];omega,fun p hp=>?_⟩,(by show(5:Int)≠4;decide),(RTAt.iff _ _).2 ⟨q,rfl,fun x hx=>?_,?_⟩,wrHT.out.set4 wrHR.out.lt (by have:=wbHL.out;omega) _ _ _ _,wrHK.out.set4 (fun h=>Nat.lt_irrefl _ h.1) _ _ _ _⟩
       ·obtain⟨x,hx,rfl⟩:=List.mem_map.1 hp;exact wrHM.out.good x hx
       ·exact((wrHM.out.parts x hx).same fun b hb=>hks.block b (by have:=hb.1.1;have:=wbHL.out;show b≠w.heap.size;omega)).mono fun b hb=>⟨by have:=hb.1.1;have:=wbHL.out;omega,Nat.lt_of_lt_of_le hb.1.2 hks.size⟩
       ·exact(wrHM.out.row.sl.same fun b hb=>hks.block b (by have:=hb.1;have:=wbHL.out;show b≠w.heap.size;omega)).mono fun b hb=>⟨by have:=hb.1;have:=wbHL.out;omega,Nat.lt_of_lt_of_le hb.2 hks.size⟩
      ·have HNN:=h! hn;have hgt:(0:Int)<(n:Int):=by omega
       have HPO:=h! (fun g (e:pv.ownBlock=some g)=>hm.row.block g e);obtain⟨aov,kv,cv,rfl,-,-,-⟩:=hm.row.sl.len;have hp1:=hm.box.cells 3;clear hm hrb htp hkt hn;go_wp2_with fail
       obtain⟨wd,hwd⟩:∃ wd,wd=wr.drew:=⟨_,rfl⟩;have hE:Ext wr wd:=by rw[hwd];exact Ext.drew wr
       have wdHT:=h! (wrHT.out.ext hE);have wdHK:=h! (KT.trans wrHK.out (KT.of hE));have wdHR:=h! (wrHR.out.below hE);have wdHM:=h! (wrHM.out.keep (KT.of (tp:=tp) hE) (by have:=wbHL.out;omega));have wdHZ:=h! (show rp<wd.heap.size/\wr.heap.size<=wd.heap.size from⟨wdHM.out.box.lt,hE.size⟩)
       have hA:∀ W,Kept (fun b=>b<wd.heap.size/\b≠tp/\Value.ownBlock (.slice aov kv cv)≠some b) wd W->W.cell? ⟨rp,3,none⟩=some (.slice aov kv cv):=fun W hW =>
        (World.cell?_of_block (a:=⟨rp,3,none⟩) (hW.block rp ⟨wdHZ.out.1,by have:=wbHL.out;omega,fun e=>by have:=(HPO.out rp e).1;omega⟩)).trans (wdHM.out.box.cells 3)
       have hdw:IntKind.i64.wrap ((d:Int)+1-1)=(d:Int):=by rw[Int.add_sub_cancel];exact IntWalk.i64_in _ (by have:=HD.out;omega)
       have hdw':IntKind.i64.wrap (d:Int)=(d:Int):=IntWalk.i64_in _ (by have:=HD.out;omega);have HCALL:=h! (HIH.out 5 tp (.slice ao own.length c) wd wdHT.out ((HOV.out.same fun b hb=>wdHK.out.block b hb).mono fun b hb=>⟨Nat.lt_of_lt_of_le hb.1 wdHK.out.size,hb.2⟩) (by have:=HD.out;omega) (by decide));refine region_walkL 11 (Kept (fun b=>b<wd.heap.size/\b≠tp/\Value.ownBlock (.slice aov kv cv)≠some b) wd) (by rw[<- hwd];exact Kept.refl _ _) (by kernel_rfl) (by kernel_rfl) (fun _ _ d _ _ h=>by cases d <;> exact h) ?_;rw[<- hwd];clear hwd hE hp1;(refine WalkL.tk [0,1,2,3,4,5,6] ?_;(iterate 7 (refine l! ?_));refine TkL.n ?_)
       refine oL! 7 ?_;refine b! ?_;intro K hK;go_simp;refine HCALL.out.mono ?_;rintro e w5 ⟨r5,v5,rfl,hg5,hk5,hat5,htp5,hkt5⟩;have hkc5:Kept (fun b=>b<wd.heap.size/\b≠tp/\Value.ownBlock (.slice aov kv cv)≠some b) wd w5:=Kept.mono hkt5 fun b hb=>⟨hb.1,hb.2.1⟩;refine hK.out _ _ hkc5 ?_;obtain⟨ao5,c5,rfl,-,-,-⟩:=hat5.rows;have w5HM:=h! (wdHM.out.keep hkt5 (by have:=wbHL.out;omega));have w5HT:=h! htp5;have w5HK:=h! (KT.trans wdHK.out hkt5);have w5HR:=h! (hkt5.blk wdHR.out (by have:=wbHL.out;omega));have H5:=h! (And.intro hg5 (And.intro hk5 hat5));have H5S:=h! hkt5.size;clear hK hg5 hk5 hat5 htp5 hkt5 HCALL;unfold rV;refine oL! 8 ?_;refine b! ?_;intro K hK;go_simp;have x56:=Ext.alloc w5 (.cells #[.int .i64 r5.k,.string r5.a,.string r5.b,.slice ao5 r5.ps.length c5] 106);have hkc6:=hkc5.trans (Kept.mono (KT.of (tp:=tp) x56) fun b (hb:b<wd.heap.size/\b≠tp/\_)=>⟨Nat.lt_of_lt_of_le hb.1 hkc5.size,hb.2.1⟩);refine hK.out _ _ hkc6 ?_;clear hK;refine oL! 9 ?_;refine b! ?_;intro K hK;refine wp_ownw ruleT (.tmp 41) (.tmp 48) rfl rfl (w5HM.out.row.below x56) rfl (m:=1) (news:=[.int .i64 r5.k,.string r5.a,.string r5.b,.slice ao5 r5.ps.length c5]) rfl (fun j u hu=>?_) (by simp[Value.oneCell']) (by have:=HQN.out;have:=HN.out;rw[flat_length rC_length];simp;omega) (by have:=HQN.out;have:=HN.out;rw[flat_length rC_length];simp;omega) (by have:=wdHZ.out;have:=H5S.out;simp;omega) (fun v7 w7 hown7 hb7 hgr7=>?_)
       ·rw[Addr.add_lit,cell_of_row _ w5.heap.size (0+j) #[.int .i64 r5.k,.string r5.a,.string r5.b,.slice ao5 r5.ps.length c5] 106 (0,0) (heap_alloc_new w5 _)];simpa using hu
       have hk57:∀ b,b<w5.heap.size->Value.ownBlock (.slice aov kv cv)≠some b->w7.heap[b]?=w5.heap[b]?:=fun b h1 h2=>(hgr7.block b (by simp;omega) (fun e=>h2 e.symm)).trans (x56.block b h1);have hz57:w5.heap.size<=w7.heap.size:=Nat.le_trans x56.size hgr7.size;have hb57:∀ g,v7.ownBlock=some g->Value.ownBlock (.slice aov kv cv)=some g\/w5.heap.size<=g:=fun g hg=>(hb7 g hg).imp id (fun h=>by simp at h;omega);have hk57':Kept (fun b=>b<w5.heap.size/\Value.ownBlock (.slice aov kv cv)≠some b) w5 w7:=⟨hgr7.os.trans x56.os,hgr7.tape.trans x56.tape,hgr7.output.trans x56.output,hz57,fun b hb=>hk57 b hb.1 hb.2⟩;have hkc7:=hkc5.trans (hk57'.mono fun b (hb:b<wd.heap.size/\b≠tp/\_)=>⟨Nat.lt_of_lt_of_le hb.1 hkc5.size,hb.2.2⟩);refine hK.out _ _ hkc7 ?_;clear hK hA;simp only[Act.put,pA,pZ,pS];have HADD:=h! (w5HM.out.add (n0:=wd.heap.size) (r:=r5) (v5 := .slice ao5 r5.ps.length c5) hk57 hz57 hown7 hb57 H5.out.2.2 wdHZ.out.1 (fun g hg=>Nat.lt_of_lt_of_le (HPO.out g hg).2 wdHZ.out.2) ⟨H5.out.1,H5.out.2.1⟩);have HLOW:=h! (show Kept (fun b=>b<rp) w5 (w7.setCell ⟨rp,3,none⟩ v7)from(hk57'.mono fun b (hb:b<rp)=>⟨by have:=wdHZ.out;have:=H5S.out;omega,fun e=>by have:=(HPO.out b e).1;omega⟩).set (fun h=>Nat.lt_irrefl _ h) _);have hrp7:Blk w7 rp #[.int .i64 5,.string ⟨#[]⟩,.string ⟨#[]⟩,.slice aov kv cv] 106:=(hk57 rp (by have:=wdHZ.out;have:=H5S.out;omega) (fun e=>by have:=(HPO.out rp e).1;omega)).trans w5HM.out.box;obtain⟨ao7,k7,c7,rfl,-,-,-⟩:=hown7.sl.len;have f7:=hrp7.free;have g7:=hrp7.cells 3;have hdn:IntKind.i64.wrap ((n:Int)-1)=((n-1:Nat):Int):=by rw[IntWalk.i64_in _ (by have:=HQN.out;have:=HN.out;omega)];omega
       have hdn':wrap64 ((n:Int)-1)=((n-1:Nat):Int):=by rw[wrap_in _ (by omega) (by have:=HQN.out;have:=HN.out;omega)];omega
       clear hkc5 hkc6 hk57 hz57 hb57 hk57' hown7 hb7 hgr7 hrp7 x56;((refine WalkL.take 10 _ ?_ (by simp only[gA,gS,gZ];rfl) (by kernel_rfl) (by kernel_rfl) (by kernel_rfl) (by rfl) (fun W hW=>?_) ?_;rotate_left;· (go_simp;try with_reducible rfl));simp only[Act.put,pA,pZ,pS])
       refine WalkL.last (by kernel_rfl) (by kernel_rfl) ?_;refine b! ?_;intro K hK;go_simp;refine hK.out _ _ ?_;clear hK hkc7 f7 g7;generalize w7.setCell ⟨rp,3,none⟩ (.slice ao7 k7 c7)=w8 at *;go_wp2_with fail
       go_roundw
       case rel=>exact⟨n-1,_,_,rfl,by have:=HQN.out;have:=HNN.out;rw[List.length_append];simp only[List.length_cons,List.length_nil];omega,HADD.out,HLOW.out.blk w5HR.out (by have:=wbHL.out;show w.heap.size<rp;omega),w5HT.out.kept HLOW.out (fun b hb=>by have:=wbHL.out;show b<rp;omega),Kept.trans w5HK.out (HLOW.out.mono fun b (hb:b<w.heap.size/\b≠tp)=>by have:=wbHL.out;have:=hb.1;show b<rp;omega)⟩
       case measure=>have:=HNN.out;simp[intOf];omega
    ·have hq1:((4:Int) == nt)=false:=by rw[beq_eq_false_iff_ne];omega
     have HQ:=h! hq;clear hq;go_wp2_with fail
     clear hr1 hf1;obtain⟨wa,hwa⟩:∃ x,x=w1.alloc (.cells #[.int .i64 4,.int .i64 5] 3):=⟨_,rfl⟩;obtain⟨wb,hwb⟩:∃ x,x=wa.alloc (.cells #[.int .i64 4,.string ⟨#[]⟩,.string ⟨#[]⟩,.slice none 0 0] 106):=⟨_,rfl⟩;have ea:wa.heap.size=w1.heap.size+1:=by rw[hwa];simp
     have xa:Ext w1 wa:=by rw[hwa];exact Ext.alloc _ _
     have xb:Ext wa wb:=by rw[hwb];exact Ext.alloc _ _
     have HRP:=h! (show Blk wb (w1.heap.size+1) #[.int .i64 4,.string ⟨#[]⟩,.string ⟨#[]⟩,.slice none 0 0] 106 from by rw[hwb,<- ea];exact Blk.made _ _ _);have wbHT:=h! (w1HT.out.ext (xa.trans xb));have wbHK:=h! (KT.trans w1HK.out (KT.of (xa.trans xb)));have wbHR:=h! (w1HR.out.below (xa.trans xb));have HNX2:=h! (next_any tp 2 wb wbHT.out (by decide) (by decide));rw[<- ea]at HRP;generalize wa.heap.size=rp at *;rw[<- ea];have wbHL:=h! (show w.heap.size<rp/\tp<w.heap.size from⟨by have:=HZ1.out;omega,HLT.out⟩);have wbHM:=h! (show MkI own d 4 rp wb [] (.slice none 0 0)from⟨HRP.out,Own.nil _ _ _ _,by simp,by simp⟩);subst hwb hwa;clear ea xa xb HRP w1HT w1HK w1HR HZ1;refine HNX2.out.mono ?_;clear HNX2;rintro e w2 ⟨k3,rfl,hk3,htp2,hkt2⟩;have w2HM:=h! (wbHM.out.keep hkt2 (by have:=wbHL.out;omega));have w2HR:=h! (hkt2.blk wbHR.out (by have:=wbHL.out;omega));have w2HK:=h! (KT.trans wbHK.out hkt2);have w2HT:=h! htp2;clear wbHM wbHR wbHK wbHT htp2 hkt2;have hw3:IntKind.i64.wrap (2+(k3:Int))=((2+k3:Nat):Int):=by rw[IntWalk.i64_in _ (by omega)];omega
     have hw3':wrap64 (2+(k3:Int))=((2+k3:Nat):Int):=by rw[wrap_in _ (by omega) (by omega)];omega
     go_wp2_with fail
     clear hw3 hw3';generalize hN:2+k3=N at *;have HN:=h! (show N=2\/N=3 from by omega);have HNE:=h! hN;clear hN hk3 hd0;go_loopw [12] (fun iv wr=>∃ (n:Nat) (q:List (RT × Value)) (pv:Value),iv = .int .i64 n/\q.length+n=N/\MkI own d 4 rp wr q pv/\Blk wr w.heap.size #[.int .i64 0,.string ⟨#[]⟩,.string ⟨#[]⟩,.slice none 0 0] 106/\Tp wr tp/\KT tp w wr) (fun iv _=>(intOf iv).toNat)
     case atStart=>exact⟨N,[],_,by rw[<- HNE.out];simp,by simp,w2HM.out,w2HR.out,w2HT.out,w2HK.out⟩
     case round =>
      obtain⟨n,q,pv,rfl,hqn,hm,hrb,htp,hkt⟩:=hrel;have HQN:=h! hqn;have wrHM:=h! hm;have wrHR:=h! hrb;have wrHT:=h! htp;have wrHK:=h! hkt;clear hqn w2HM w2HR w2HT w2HK;by_cases hn:n=0
      ·subst hn;obtain⟨aov,kv,cv,rfl,-,-,-⟩:=hm.row.sl.len;have hp1:=hm.box.cells;have hb1:=hrb.cells;have hbf:=hrb.free;clear hm hrb htp hkt;go_wp2_with fail
       clear hp1 hb1 hbf;refine bodyPost_ret (results_cell_row rfl _ _ w.heap.size 106 #[.int .i64 4,.string ⟨#[]⟩,.string ⟨#[]⟩,.slice aov kv cv] (0,0) _ rfl (wrHR.out.set4 _ _ _ _) Tryz.underlying106 rfl (by kernel_rfl)) rfl ?_;have hks:Kept (fun b=>b≠w.heap.size) wr _:=(Kept.refl _ wr).set4 (B:=w.heap.size) (fun h=>h rfl) (.int .i64 4) (.string ⟨#[]⟩) (.string ⟨#[]⟩) (.slice aov kv cv);refine⟨.mk 4 ⟨#[]⟩ ⟨#[]⟩ (q.map (·.1)),.slice aov kv cv,rfl,.inr ⟨4,q.map (·.1),rfl,by decide,by have:=HQN.out;have:=HN.out;rw[List.length_map];omega,fun p hp=>?_⟩,(fun e=>HQ.out e.symm),(RTAt.iff _ _).2 ⟨q,rfl,fun x hx=>?_,?_⟩,wrHT.out.set4 wrHR.out.lt (by have:=wbHL.out;omega) _ _ _ _,wrHK.out.set4 (fun h=>Nat.lt_irrefl _ h.1) _ _ _ _⟩
       ·obtain⟨x,hx,rfl⟩:=List.mem_map.1 hp;exact wrHM.out.good x hx
       ·exact((wrHM.out.parts x hx).same fun b hb=>hks.block b (by have:=hb.1.1;have:=wbHL.out;show b≠w.heap.size;omega)).mono fun b hb=>⟨by have:=hb.1.1;have:=wbHL.out;omega,Nat.lt_of_lt_of_le hb.1.2 hks.size⟩
       ·exact(wrHM.out.row.sl.same fun b hb=>hks.block b (by have:=hb.1;have:=wbHL.out;show b≠w.heap.size;omega)).mono fun b hb=>⟨by have:=hb.1;have:=wbHL.out;omega,Nat.lt_of_lt_of_le hb.2 hks.size⟩
      ·have HNN:=h! hn;have hgt:(0:Int)<(n:Int):=by omega
       have HPO:=h! (fun g (e:pv.ownBlock=some g)=>hm.row.block g e);obtain⟨aov,kv,cv,rfl,-,-,-⟩:=hm.row.sl.len;have hp1:=hm.box.cells 3;clear hm hrb htp hkt hn;go_wp2_with fail
       obtain⟨wd,hwd⟩:∃ wd,wd=wr.drew:=⟨_,rfl⟩;have hE:Ext wr wd:=by rw[hwd];exact Ext.drew wr
       have wdHT:=h! (wrHT.out.ext hE);have wdHK:=h! (KT.trans wrHK.out (KT.of hE));have wdHR:=h! (wrHR.out.below hE);have wdHM:=h! (wrHM.out.keep (KT.of (tp:=tp) hE) (by have:=wbHL.out;omega));have wdHZ:=h! (show rp<wd.heap.size/\wr.heap.size<=wd.heap.size from⟨wdHM.out.box.lt,hE.size⟩)
       have hA:∀ W,Kept (fun b=>b<wd.heap.size/\b≠tp/\Value.ownBlock (.slice aov kv cv)≠some b) wd W->W.cell? ⟨rp,3,none⟩=some (.slice aov kv cv):=fun W hW =>
        (World.cell?_of_block (a:=⟨rp,3,none⟩) (hW.block rp ⟨wdHZ.out.1,by have:=wbHL.out;omega,fun e=>by have:=(HPO.out rp e).1;omega⟩)).trans (wdHM.out.box.cells 3)
       have hdw:IntKind.i64.wrap ((d:Int)+1-1)=(d:Int):=by rw[Int.add_sub_cancel];exact IntWalk.i64_in _ (by have:=HD.out;omega)
       have hdw':IntKind.i64.wrap (d:Int)=(d:Int):=IntWalk.i64_in _ (by have:=HD.out;omega);have HCALL:=h! (HIH.out 4 tp (.slice ao own.length c) wd wdHT.out ((HOV.out.same fun b hb=>wdHK.out.block b hb).mono fun b hb=>⟨Nat.lt_of_lt_of_le hb.1 wdHK.out.size,hb.2⟩) (by have:=HD.out;omega) (by decide));refine region_walkL 11 (Kept (fun b=>b<wd.heap.size/\b≠tp/\Value.ownBlock (.slice aov kv cv)≠some b) wd) (by rw[<- hwd];exact Kept.refl _ _) (by kernel_rfl) (by kernel_rfl) (fun _ _ d _ _ h=>by cases d <;> exact h) ?_;rw[<- hwd];clear hwd hE hp1;(refine WalkL.tk [0,1,2,3,4,5,6] ?_;(iterate 7 (refine l! ?_));refine TkL.n ?_)
       refine oL! 7 ?_;refine b! ?_;intro K hK;go_simp;refine HCALL.out.mono ?_;rintro e w5 ⟨r5,v5,rfl,hg5,hk5,hat5,htp5,hkt5⟩;have hkc5:Kept (fun b=>b<wd.heap.size/\b≠tp/\Value.ownBlock (.slice aov kv cv)≠some b) wd w5:=Kept.mono hkt5 fun b hb=>⟨hb.1,hb.2.1⟩;refine hK.out _ _ hkc5 ?_;obtain⟨ao5,c5,rfl,-,-,-⟩:=hat5.rows;have w5HM:=h! (wdHM.out.keep hkt5 (by have:=wbHL.out;omega));have w5HT:=h! htp5;have w5HK:=h! (KT.trans wdHK.out hkt5);have w5HR:=h! (hkt5.blk wdHR.out (by have:=wbHL.out;omega));have H5:=h! (And.intro hg5 (And.intro hk5 hat5));have H5S:=h! hkt5.size;clear hK hg5 hk5 hat5 htp5 hkt5 HCALL;unfold rV;refine oL! 8 ?_;refine b! ?_;intro K hK;go_simp;have x56:=Ext.alloc w5 (.cells #[.int .i64 r5.k,.string r5.a,.string r5.b,.slice ao5 r5.ps.length c5] 106);have hkc6:=hkc5.trans (Kept.mono (KT.of (tp:=tp) x56) fun b (hb:b<wd.heap.size/\b≠tp/\_)=>⟨Nat.lt_of_lt_of_le hb.1 hkc5.size,hb.2.1⟩);refine hK.out _ _ hkc6 ?_;clear hK;refine oL! 9 ?_;refine b! ?_;intro K hK;refine wp_ownw ruleT (.tmp 41) (.tmp 48) rfl rfl (w5HM.out.row.below x56) rfl (m:=1) (news:=[.int .i64 r5.k,.string r5.a,.string r5.b,.slice ao5 r5.ps.length c5]) rfl (fun j u hu=>?_) (by simp[Value.oneCell']) (by have:=HQN.out;have:=HN.out;rw[flat_length rC_length];simp;omega) (by have:=HQN.out;have:=HN.out;rw[flat_length rC_length];simp;omega) (by have:=wdHZ.out;have:=H5S.out;simp;omega) (fun v7 w7 hown7 hb7 hgr7=>?_)
       ·rw[Addr.add_lit,cell_of_row _ w5.heap.size (0+j) #[.int .i64 r5.k,.string r5.a,.string r5.b,.slice ao5 r5.ps.length c5] 106 (0,0) (heap_alloc_new w5 _)];simpa using hu
       have hk57:∀ b,b<w5.heap.size->Value.ownBlock (.slice aov kv cv)≠some b->w7.heap[b]?=w5.heap[b]?:=fun b h1 h2=>(hgr7.block b (by simp;omega) (fun e=>h2 e.symm)).trans (x56.block b h1);have hz57:w5.heap.size<=w7.heap.size:=Nat.le_trans x56.size hgr7.size;have hb57:∀ g,v7.ownBlock=some g->Value.ownBlock (.slice aov kv cv)=some g\/w5.heap.size<=g:=fun g hg=>(hb7 g hg).imp id (fun h=>by simp at h;omega);have hk57':Kept (fun b=>b<w5.heap.size/\Value.ownBlock (.slice aov kv cv)≠some b) w5 w7:=⟨hgr7.os.trans x56.os,hgr7.tape.trans x56.tape,hgr7.output.trans x56.output,hz57,fun b hb=>hk57 b hb.1 hb.2⟩;have hkc7:=hkc5.trans (hk57'.mono fun b (hb:b<wd.heap.size/\b≠tp/\_)=>⟨Nat.lt_of_lt_of_le hb.1 hkc5.size,hb.2.2⟩);refine hK.out _ _ hkc7 ?_;clear hK hA;simp only[Act.put,pA,pZ,pS];have HADD:=h! (w5HM.out.add (n0:=wd.heap.size) (r:=r5) (v5 := .slice ao5 r5.ps.length c5) hk57 hz57 hown7 hb57 H5.out.2.2 wdHZ.out.1 (fun g hg=>Nat.lt_of_lt_of_le (HPO.out g hg).2 wdHZ.out.2) ⟨H5.out.1,H5.out.2.1⟩);have HLOW:=h! (show Kept (fun b=>b<rp) w5 (w7.setCell ⟨rp,3,none⟩ v7)from(hk57'.mono fun b (hb:b<rp)=>⟨by have:=wdHZ.out;have:=H5S.out;omega,fun e=>by have:=(HPO.out b e).1;omega⟩).set (fun h=>Nat.lt_irrefl _ h) _);have hrp7:Blk w7 rp #[.int .i64 4,.string ⟨#[]⟩,.string ⟨#[]⟩,.slice aov kv cv] 106:=(hk57 rp (by have:=wdHZ.out;have:=H5S.out;omega) (fun e=>by have:=(HPO.out rp e).1;omega)).trans w5HM.out.box;obtain⟨ao7,k7,c7,rfl,-,-,-⟩:=hown7.sl.len;have f7:=hrp7.free;have g7:=hrp7.cells 3;have hdn:IntKind.i64.wrap ((n:Int)-1)=((n-1:Nat):Int):=by rw[IntWalk.i64_in _ (by have:=HQN.out;have:=HN.out;omega)];omega
       have hdn':wrap64 ((n:Int)-1)=((n-1:Nat):Int):=by rw[wrap_in _ (by omega) (by have:=HQN.out;have:=HN.out;omega)];omega
       clear hkc5 hkc6 hk57 hz57 hb57 hk57' hown7 hb7 hgr7 hrp7 x56;((refine WalkL.take 10 _ ?_ (by simp only[gA,gS,gZ];rfl) (by kernel_rfl) (by kernel_rfl) (by kernel_rfl) (by rfl) (fun W hW=>?_) ?_;rotate_left;· (go_simp;try with_reducible rfl));simp only[Act.put,pA,pZ,pS])
       refine WalkL.last (by kernel_rfl) (by kernel_rfl) ?_;refine b! ?_;intro K hK;go_simp;refine hK.out _ _ ?_;clear hK hkc7 f7 g7;generalize w7.setCell ⟨rp,3,none⟩ (.slice ao7 k7 c7)=w8 at *;go_wp2_with fail
       go_roundw
       case rel=>exact⟨n-1,_,_,rfl,by have:=HQN.out;have:=HNN.out;rw[List.length_append];simp only[List.length_cons,List.length_nil];omega,HADD.out,HLOW.out.blk w5HR.out (by have:=wbHL.out;show w.heap.size<rp;omega),w5HT.out.kept HLOW.out (fun b hb=>by have:=wbHL.out;show b<rp;omega),Kept.trans w5HK.out (HLOW.out.mono fun b (hb:b<w.heap.size/\b≠tp)=>by have:=wbHL.out;have:=hb.1;show b<rp;omega)⟩
       case measure=>have:=HNN.out;simp[intOf];omega
   ·clear hk h6;by_cases hq:nt=5
    ·subst hq;go_wp2_with fail
     clear hr1 hf1;obtain⟨wa,hwa⟩:∃ x,x=w1.alloc (.cells #[.int .i64 4,.int .i64 5] 3):=⟨_,rfl⟩;obtain⟨wb,hwb⟩:∃ x,x=wa.alloc (.cells #[.int .i64 4,.string ⟨#[]⟩,.string ⟨#[]⟩,.slice none 0 0] 106):=⟨_,rfl⟩;have ea:wa.heap.size=w1.heap.size+1:=by rw[hwa];simp
     have xa:Ext w1 wa:=by rw[hwa];exact Ext.alloc _ _
     have xb:Ext wa wb:=by rw[hwb];exact Ext.alloc _ _
     have HRP:=h! (show Blk wb (w1.heap.size+1) #[.int .i64 4,.string ⟨#[]⟩,.string ⟨#[]⟩,.slice none 0 0] 106 from by rw[hwb,<- ea];exact Blk.made _ _ _);have wbHT:=h! (w1HT.out.ext (xa.trans xb));have wbHK:=h! (KT.trans w1HK.out (KT.of (xa.trans xb)));have wbHR:=h! (w1HR.out.below (xa.trans xb));have HNX2:=h! (next_any tp 2 wb wbHT.out (by decide) (by decide));rw[<- ea]at HRP;generalize wa.heap.size=rp at *;rw[<- ea];have wbHL:=h! (show w.heap.size<rp/\tp<w.heap.size from⟨by have:=HZ1.out;omega,HLT.out⟩);have wbHM:=h! (show MkI own d 4 rp wb [] (.slice none 0 0)from⟨HRP.out,Own.nil _ _ _ _,by simp,by simp⟩);subst hwb hwa;clear ea xa xb HRP w1HT w1HK w1HR HZ1;refine HNX2.out.mono ?_;clear HNX2;rintro e w2 ⟨k3,rfl,hk3,htp2,hkt2⟩;have w2HM:=h! (wbHM.out.keep hkt2 (by have:=wbHL.out;omega));have w2HR:=h! (hkt2.blk wbHR.out (by have:=wbHL.out;omega));have w2HK:=h! (KT.trans wbHK.out hkt2);have w2HT:=h! htp2;clear wbHM wbHR wbHK wbHT htp2 hkt2;have hw3:IntKind.i64.wrap (2+(k3:Int))=((2+k3:Nat):Int):=by rw[IntWalk.i64_in _ (by omega)];omega
     have hw3':wrap64 (2+(k3:Int))=((2+k3:Nat):Int):=by rw[wrap_in _ (by omega) (by omega)];omega
     go_wp2_with fail
     clear hw3 hw3';generalize hN:2+k3=N at *;have HN:=h! (show N=2\/N=3 from by omega);have HNE:=h! hN;clear hN hk3 hd0;go_loopw [12] (fun iv wr=>∃ (n:Nat) (q:List (RT × Value)) (pv:Value),iv = .int .i64 n/\q.length+n=N/\MkI own d 4 rp wr q pv/\Blk wr w.heap.size #[.int .i64 0,.string ⟨#[]⟩,.string ⟨#[]⟩,.slice none 0 0] 106/\Tp wr tp/\KT tp w wr) (fun iv _=>(intOf iv).toNat)
     case atStart=>exact⟨N,[],_,by rw[<- HNE.out];simp,by simp,w2HM.out,w2HR.out,w2HT.out,w2HK.out⟩
     case round =>
      obtain⟨n,q,pv,rfl,hqn,hm,hrb,htp,hkt⟩:=hrel;have HQN:=h! hqn;have wrHM:=h! hm;have wrHR:=h! hrb;have wrHT:=h! htp;have wrHK:=h! hkt;clear hqn w2HM w2HR w2HT w2HK;by_cases hn:n=0
      ·subst hn;obtain⟨aov,kv,cv,rfl,-,-,-⟩:=hm.row.sl.len;have hp1:=hm.box.cells;have hb1:=hrb.cells;have hbf:=hrb.free;clear hm hrb htp hkt;go_wp2_with fail
       clear hp1 hb1 hbf;refine bodyPost_ret (results_cell_row rfl _ _ w.heap.size 106 #[.int .i64 4,.string ⟨#[]⟩,.string ⟨#[]⟩,.slice aov kv cv] (0,0) _ rfl (wrHR.out.set4 _ _ _ _) Tryz.underlying106 rfl (by kernel_rfl)) rfl ?_;have hks:Kept (fun b=>b≠w.heap.size) wr _:=(Kept.refl _ wr).set4 (B:=w.heap.size) (fun h=>h rfl) (.int .i64 4) (.string ⟨#[]⟩) (.string ⟨#[]⟩) (.slice aov kv cv);refine⟨.mk 4 ⟨#[]⟩ ⟨#[]⟩ (q.map (·.1)),.slice aov kv cv,rfl,.inr ⟨4,q.map (·.1),rfl,by decide,by have:=HQN.out;have:=HN.out;rw[List.length_map];omega,fun p hp=>?_⟩,(by show(4:Int)≠5;decide),(RTAt.iff _ _).2 ⟨q,rfl,fun x hx=>?_,?_⟩,wrHT.out.set4 wrHR.out.lt (by have:=wbHL.out;omega) _ _ _ _,wrHK.out.set4 (fun h=>Nat.lt_irrefl _ h.1) _ _ _ _⟩
       ·obtain⟨x,hx,rfl⟩:=List.mem_map.1 hp;exact wrHM.out.good x hx
       ·exact((wrHM.out.parts x hx).same fun b hb=>hks.block b (by have:=hb.1.1;have:=wbHL.out;show b≠w.heap.size;omega)).mono fun b hb=>⟨by have:=hb.1.1;have:=wbHL.out;omega,Nat.lt_of_lt_of_le hb.1.2 hks.size⟩
       ·exact(wrHM.out.row.sl.same fun b hb=>hks.block b (by have:=hb.1;have:=wbHL.out;show b≠w.heap.size;omega)).mono fun b hb=>⟨by have:=hb.1;have:=wbHL.out;omega,Nat.lt_of_lt_of_le hb.2 hks.size⟩
      ·have HNN:=h! hn;have hgt:(0:Int)<(n:Int):=by omega
       have HPO:=h! (fun g (e:pv.ownBlock=some g)=>hm.row.block g e);obtain⟨aov,kv,cv,rfl,-,-,-⟩:=hm.row.sl.len;have hp1:=hm.box.cells 3;clear hm hrb htp hkt hn;go_wp2_with fail
       obtain⟨wd,hwd⟩:∃ wd,wd=wr.drew:=⟨_,rfl⟩;have hE:Ext wr wd:=by rw[hwd];exact Ext.drew wr
       have wdHT:=h! (wrHT.out.ext hE);have wdHK:=h! (KT.trans wrHK.out (KT.of hE));have wdHR:=h! (wrHR.out.below hE);have wdHM:=h! (wrHM.out.keep (KT.of (tp:=tp) hE) (by have:=wbHL.out;omega));have wdHZ:=h! (show rp<wd.heap.size/\wr.heap.size<=wd.heap.size from⟨wdHM.out.box.lt,hE.size⟩)
       have hA:∀ W,Kept (fun b=>b<wd.heap.size/\b≠tp/\Value.ownBlock (.slice aov kv cv)≠some b) wd W->W.cell? ⟨rp,3,none⟩=some (.slice aov kv cv):=fun W hW =>
        (World.cell?_of_block (a:=⟨rp,3,none⟩) (hW.block rp ⟨wdHZ.out.1,by have:=wbHL.out;omega,fun e=>by have:=(HPO.out rp e).1;omega⟩)).trans (wdHM.out.box.cells 3)
       have hdw:IntKind.i64.wrap ((d:Int)+1-1)=(d:Int):=by rw[Int.add_sub_cancel];exact IntWalk.i64_in _ (by have:=HD.out;omega)
       have hdw':IntKind.i64.wrap (d:Int)=(d:Int):=IntWalk.i64_in _ (by have:=HD.out;omega);have HCALL:=h! (HIH.out 4 tp (.slice ao own.length c) wd wdHT.out ((HOV.out.same fun b hb=>wdHK.out.block b hb).mono fun b hb=>⟨Nat.lt_of_lt_of_le hb.1 wdHK.out.size,hb.2⟩) (by have:=HD.out;omega) (by decide));refine region_walkL 11 (Kept (fun b=>b<wd.heap.size/\b≠tp/\Value.ownBlock (.slice aov kv cv)≠some b) wd) (by rw[<- hwd];exact Kept.refl _ _) (by kernel_rfl) (by kernel_rfl) (fun _ _ d _ _ h=>by cases d <;> exact h) ?_;rw[<- hwd];clear hwd hE hp1;(refine WalkL.tk [0,1,2,3,4,5,6] ?_;(iterate 7 (refine l! ?_));refine TkL.n ?_)
       refine oL! 7 ?_;refine b! ?_;intro K hK;go_simp;refine HCALL.out.mono ?_;rintro e w5 ⟨r5,v5,rfl,hg5,hk5,hat5,htp5,hkt5⟩;have hkc5:Kept (fun b=>b<wd.heap.size/\b≠tp/\Value.ownBlock (.slice aov kv cv)≠some b) wd w5:=Kept.mono hkt5 fun b hb=>⟨hb.1,hb.2.1⟩;refine hK.out _ _ hkc5 ?_;obtain⟨ao5,c5,rfl,-,-,-⟩:=hat5.rows;have w5HM:=h! (wdHM.out.keep hkt5 (by have:=wbHL.out;omega));have w5HT:=h! htp5;have w5HK:=h! (KT.trans wdHK.out hkt5);have w5HR:=h! (hkt5.blk wdHR.out (by have:=wbHL.out;omega));have H5:=h! (And.intro hg5 (And.intro hk5 hat5));have H5S:=h! hkt5.size;clear hK hg5 hk5 hat5 htp5 hkt5 HCALL;unfold rV;refine oL! 8 ?_;refine b! ?_;intro K hK;go_simp;have x56:=Ext.alloc w5 (.cells #[.int .i64 r5.k,.string r5.a,.string r5.b,.slice ao5 r5.ps.length c5] 106);have hkc6:=hkc5.trans (Kept.mono (KT.of (tp:=tp) x56) fun b (hb:b<wd.heap.size/\b≠tp/\_)=>⟨Nat.lt_of_lt_of_le hb.1 hkc5.size,hb.2.1⟩);refine hK.out _ _ hkc6 ?_;clear hK;refine oL! 9 ?_;refine b! ?_;intro K hK;refine wp_ownw ruleT (.tmp 41) (.tmp 48) rfl rfl (w5HM.out.row.below x56) rfl (m:=1) (news:=[.int .i64 r5.k,.string r5.a,.string r5.b,.slice ao5 r5.ps.length c5]) rfl (fun j u hu=>?_) (by simp[Value.oneCell']) (by have:=HQN.out;have:=HN.out;rw[flat_length rC_length];simp;omega) (by have:=HQN.out;have:=HN.out;rw[flat_length rC_length];simp;omega) (by have:=wdHZ.out;have:=H5S.out;simp;omega) (fun v7 w7 hown7 hb7 hgr7=>?_)
       ·rw[Addr.add_lit,cell_of_row _ w5.heap.size (0+j) #[.int .i64 r5.k,.string r5.a,.string r5.b,.slice ao5 r5.ps.length c5] 106 (0,0) (heap_alloc_new w5 _)];simpa using hu
       have hk57:∀ b,b<w5.heap.size->Value.ownBlock (.slice aov kv cv)≠some b->w7.heap[b]?=w5.heap[b]?:=fun b h1 h2=>(hgr7.block b (by simp;omega) (fun e=>h2 e.symm)).trans (x56.block b h1);have hz57:w5.heap.size<=w7.heap.size:=Nat.le_trans x56.size hgr7.size;have hb57:∀ g,v7.ownBlock=some g->Value.ownBlock (.slice aov kv cv)=some g\/w5.heap.size<=g:=fun g hg=>(hb7 g hg).imp id (fun h=>by simp at h;omega);have hk57':Kept (fun b=>b<w5.heap.size/\Value.ownBlock (.slice aov kv cv)≠some b) w5 w7:=⟨hgr7.os.trans x56.os,hgr7.tape.trans x56.tape,hgr7.output.trans x56.output,hz57,fun b hb=>hk57 b hb.1 hb.2⟩;have hkc7:=hkc5.trans (hk57'.mono fun b (hb:b<wd.heap.size/\b≠tp/\_)=>⟨Nat.lt_of_lt_of_le hb.1 hkc5.size,hb.2.2⟩);refine hK.out _ _ hkc7 ?_;clear hK hA;simp only[Act.put,pA,pZ,pS];have HADD:=h! (w5HM.out.add (n0:=wd.heap.size) (r:=r5) (v5 := .slice ao5 r5.ps.length c5) hk57 hz57 hown7 hb57 H5.out.2.2 wdHZ.out.1 (fun g hg=>Nat.lt_of_lt_of_le (HPO.out g hg).2 wdHZ.out.2) ⟨H5.out.1,H5.out.2.1⟩);have HLOW:=h! (show Kept (fun b=>b<rp) w5 (w7.setCell ⟨rp,3,none⟩ v7)from(hk57'.mono fun b (hb:b<rp)=>⟨by have:=wdHZ.out;have:=H5S.out;omega,fun e=>by have:=(HPO.out b e).1;omega⟩).set (fun h=>Nat.lt_irrefl _ h) _);have hrp7:Blk w7 rp #[.int .i64 4,.string ⟨#[]⟩,.string ⟨#[]⟩,.slice aov kv cv] 106:=(hk57 rp (by have:=wdHZ.out;have:=H5S.out;omega) (fun e=>by have:=(HPO.out rp e).1;omega)).trans w5HM.out.box;obtain⟨ao7,k7,c7,rfl,-,-,-⟩:=hown7.sl.len;have f7:=hrp7.free;have g7:=hrp7.cells 3;have hdn:IntKind.i64.wrap ((n:Int)-1)=((n-1:Nat):Int):=by rw[IntWalk.i64_in _ (by have:=HQN.out;have:=HN.out;omega)];omega
       have hdn':wrap64 ((n:Int)-1)=((n-1:Nat):Int):=by rw[wrap_in _ (by omega) (by have:=HQN.out;have:=HN.out;omega)];omega
       clear hkc5 hkc6 hk57 hz57 hb57 hk57' hown7 hb7 hgr7 hrp7 x56;((refine WalkL.take 10 _ ?_ (by simp only[gA,gS,gZ];rfl) (by kernel_rfl) (by kernel_rfl) (by kernel_rfl) (by rfl) (fun W hW=>?_) ?_;rotate_left;· (go_simp;try with_reducible rfl));simp only[Act.put,pA,pZ,pS])
       refine WalkL.last (by kernel_rfl) (by kernel_rfl) ?_;refine b! ?_;intro K hK;go_simp;refine hK.out _ _ ?_;clear hK hkc7 f7 g7;generalize w7.setCell ⟨rp,3,none⟩ (.slice ao7 k7 c7)=w8 at *;go_wp2_with fail
       go_roundw
       case rel=>exact⟨n-1,_,_,rfl,by have:=HQN.out;have:=HNN.out;rw[List.length_append];simp only[List.length_cons,List.length_nil];omega,HADD.out,HLOW.out.blk w5HR.out (by have:=wbHL.out;show w.heap.size<rp;omega),w5HT.out.kept HLOW.out (fun b hb=>by have:=wbHL.out;show b<rp;omega),Kept.trans w5HK.out (HLOW.out.mono fun b (hb:b<w.heap.size/\b≠tp)=>by have:=wbHL.out;have:=hb.1;show b<rp;omega)⟩
       case measure=>have:=HNN.out;simp[intOf];omega
    ·have hq1:((5:Int) == nt)=false:=by rw[beq_eq_false_iff_ne];omega
     have HQ:=h! hq;clear hq;go_wp2_with fail
     clear hr1 hf1;obtain⟨wa,hwa⟩:∃ x,x=w1.alloc (.cells #[.int .i64 4,.int .i64 5] 3):=⟨_,rfl⟩;obtain⟨wb,hwb⟩:∃ x,x=wa.alloc (.cells #[.int .i64 5,.string ⟨#[]⟩,.string ⟨#[]⟩,.slice none 0 0] 106):=⟨_,rfl⟩;have ea:wa.heap.size=w1.heap.size+1:=by rw[hwa];simp
     have xa:Ext w1 wa:=by rw[hwa];exact Ext.alloc _ _
     have xb:Ext wa wb:=by rw[hwb];exact Ext.alloc _ _
     have HRP:=h! (show Blk wb (w1.heap.size+1) #[.int .i64 5,.string ⟨#[]⟩,.string ⟨#[]⟩,.slice none 0 0] 106 from by rw[hwb,<- ea];exact Blk.made _ _ _);have wbHT:=h! (w1HT.out.ext (xa.trans xb));have wbHK:=h! (KT.trans w1HK.out (KT.of (xa.trans xb)));have wbHR:=h! (w1HR.out.below (xa.trans xb));have HNX2:=h! (next_any tp 2 wb wbHT.out (by decide) (by decide));rw[<- ea]at HRP;generalize wa.heap.size=rp at *;rw[<- ea];have wbHL:=h! (show w.heap.size<rp/\tp<w.heap.size from⟨by have:=HZ1.out;omega,HLT.out⟩);have wbHM:=h! (show MkI own d 5 rp wb [] (.slice none 0 0)from⟨HRP.out,Own.nil _ _ _ _,by simp,by simp⟩);subst hwb hwa;clear ea xa xb HRP w1HT w1HK w1HR HZ1;refine HNX2.out.mono ?_;clear HNX2;rintro e w2 ⟨k3,rfl,hk3,htp2,hkt2⟩;have w2HM:=h! (wbHM.out.keep hkt2 (by have:=wbHL.out;omega));have w2HR:=h! (hkt2.blk wbHR.out (by have:=wbHL.out;omega));have w2HK:=h! (KT.trans wbHK.out hkt2);have w2HT:=h! htp2;clear wbHM wbHR wbHK wbHT htp2 hkt2;have hw3:IntKind.i64.wrap (2+(k3:Int))=((2+k3:Nat):Int):=by rw[IntWalk.i64_in _ (by omega)];omega
     have hw3':wrap64 (2+(k3:Int))=((2+k3:Nat):Int):=by rw[wrap_in _ (by omega) (by omega)];omega
     go_wp2_with fail
     clear hw3 hw3';generalize hN:2+k3=N at *;have HN:=h! (show N=2\/N=3 from by omega);have HNE:=h! hN;clear hN hk3 hd0;go_loopw [12] (fun iv wr=>∃ (n:Nat) (q:List (RT × Value)) (pv:Value),iv = .int .i64 n/\q.length+n=N/\MkI own d 5 rp wr q pv/\Blk wr w.heap.size #[.int .i64 0,.string ⟨#[]⟩,.string ⟨#[]⟩,.slice none 0 0] 106/\Tp wr tp/\KT tp w wr) (fun iv _=>(intOf iv).toNat)
     case atStart=>exact⟨N,[],_,by rw[<- HNE.out];simp,by simp,w2HM.out,w2HR.out,w2HT.out,w2HK.out⟩
     case round =>
      obtain⟨n,q,pv,rfl,hqn,hm,hrb,htp,hkt⟩:=hrel;have HQN:=h! hqn;have wrHM:=h! hm;have wrHR:=h! hrb;have wrHT:=h! htp;have wrHK:=h! hkt;clear hqn w2HM w2HR w2HT w2HK;by_cases hn:n=0
      ·subst hn;obtain⟨aov,kv,cv,rfl,-,-,-⟩:=hm.row.sl.len;have hp1:=hm.box.cells;have hb1:=hrb.cells;have hbf:=hrb.free;clear hm hrb htp hkt;go_wp2_with fail
       clear hp1 hb1 hbf;refine bodyPost_ret (results_cell_row rfl _ _ w.heap.size 106 #[.int .i64 5,.string ⟨#[]⟩,.string ⟨#[]⟩,.slice aov kv cv] (0,0) _ rfl (wrHR.out.set4 _ _ _ _) Tryz.underlying106 rfl (by kernel_rfl)) rfl ?_;have hks:Kept (fun b=>b≠w.heap.size) wr _:=(Kept.refl _ wr).set4 (B:=w.heap.size) (fun h=>h rfl) (.int .i64 5) (.string ⟨#[]⟩) (.string ⟨#[]⟩) (.slice aov kv cv);refine⟨.mk 5 ⟨#[]⟩ ⟨#[]⟩ (q.map (·.1)),.slice aov kv cv,rfl,.inr ⟨5,q.map (·.1),rfl,by decide,by have:=HQN.out;have:=HN.out;rw[List.length_map];omega,fun p hp=>?_⟩,(fun e=>HQ.out e.symm),(RTAt.iff _ _).2 ⟨q,rfl,fun x hx=>?_,?_⟩,wrHT.out.set4 wrHR.out.lt (by have:=wbHL.out;omega) _ _ _ _,wrHK.out.set4 (fun h=>Nat.lt_irrefl _ h.1) _ _ _ _⟩
       ·obtain⟨x,hx,rfl⟩:=List.mem_map.1 hp;exact wrHM.out.good x hx
       ·exact((wrHM.out.parts x hx).same fun b hb=>hks.block b (by have:=hb.1.1;have:=wbHL.out;show b≠w.heap.size;omega)).mono fun b hb=>⟨by have:=hb.1.1;have:=wbHL.out;omega,Nat.lt_of_lt_of_le hb.1.2 hks.size⟩
       ·exact(wrHM.out.row.sl.same fun b hb=>hks.block b (by have:=hb.1;have:=wbHL.out;show b≠w.heap.size;omega)).mono fun b hb=>⟨by have:=hb.1;have:=wbHL.out;omega,Nat.lt_of_lt_of_le hb.2 hks.size⟩
      ·have HNN:=h! hn;have hgt:(0:Int)<(n:Int):=by omega
       have HPO:=h! (fun g (e:pv.ownBlock=some g)=>hm.row.block g e);obtain⟨aov,kv,cv,rfl,-,-,-⟩:=hm.row.sl.len;have hp1:=hm.box.cells 3;clear hm hrb htp hkt hn;go_wp2_with fail
       obtain⟨wd,hwd⟩:∃ wd,wd=wr.drew:=⟨_,rfl⟩;have hE:Ext wr wd:=by rw[hwd];exact Ext.drew wr
       have wdHT:=h! (wrHT.out.ext hE);have wdHK:=h! (KT.trans wrHK.out (KT.of hE));have wdHR:=h! (wrHR.out.below hE);have wdHM:=h! (wrHM.out.keep (KT.of (tp:=tp) hE) (by have:=wbHL.out;omega));have wdHZ:=h! (show rp<wd.heap.size/\wr.heap.size<=wd.heap.size from⟨wdHM.out.box.lt,hE.size⟩)
       have hA:∀ W,Kept (fun b=>b<wd.heap.size/\b≠tp/\Value.ownBlock (.slice aov kv cv)≠some b) wd W->W.cell? ⟨rp,3,none⟩=some (.slice aov kv cv):=fun W hW =>
        (World.cell?_of_block (a:=⟨rp,3,none⟩) (hW.block rp ⟨wdHZ.out.1,by have:=wbHL.out;omega,fun e=>by have:=(HPO.out rp e).1;omega⟩)).trans (wdHM.out.box.cells 3)
       have hdw:IntKind.i64.wrap ((d:Int)+1-1)=(d:Int):=by rw[Int.add_sub_cancel];exact IntWalk.i64_in _ (by have:=HD.out;omega)
       have hdw':IntKind.i64.wrap (d:Int)=(d:Int):=IntWalk.i64_in _ (by have:=HD.out;omega);have HCALL:=h! (HIH.out 5 tp (.slice ao own.length c) wd wdHT.out ((HOV.out.same fun b hb=>wdHK.out.block b hb).mono fun b hb=>⟨Nat.lt_of_lt_of_le hb.1 wdHK.out.size,hb.2⟩) (by have:=HD.out;omega) (by decide));refine region_walkL 11 (Kept (fun b=>b<wd.heap.size/\b≠tp/\Value.ownBlock (.slice aov kv cv)≠some b) wd) (by rw[<- hwd];exact Kept.refl _ _) (by kernel_rfl) (by kernel_rfl) (fun _ _ d _ _ h=>by cases d <;> exact h) ?_;rw[<- hwd];clear hwd hE hp1;(refine WalkL.tk [0,1,2,3,4,5,6] ?_;(iterate 7 (refine l! ?_));refine TkL.n ?_)
       refine oL! 7 ?_;refine b! ?_;intro K hK;go_simp;refine HCALL.out.mono ?_;rintro e w5 ⟨r5,v5,rfl,hg5,hk5,hat5,htp5,hkt5⟩;have hkc5:Kept (fun b=>b<wd.heap.size/\b≠tp/\Value.ownBlock (.slice aov kv cv)≠some b) wd w5:=Kept.mono hkt5 fun b hb=>⟨hb.1,hb.2.1⟩;refine hK.out _ _ hkc5 ?_;obtain⟨ao5,c5,rfl,-,-,-⟩:=hat5.rows;have w5HM:=h! (wdHM.out.keep hkt5 (by have:=wbHL.out;omega));have w5HT:=h! htp5;have w5HK:=h! (KT.trans wdHK.out hkt5);have w5HR:=h! (hkt5.blk wdHR.out (by have:=wbHL.out;omega));have H5:=h! (And.intro hg5 (And.intro hk5 hat5));have H5S:=h! hkt5.size;clear hK hg5 hk5 hat5 htp5 hkt5 HCALL;unfold rV;refine oL! 8 ?_;refine b! ?_;intro K hK;go_simp;have x56:=Ext.alloc w5 (.cells #[.int .i64 r5.k,.string r5.a,.string r5.b,.slice ao5 r5.ps.length c5] 106);have hkc6:=hkc5.trans (Kept.mono (KT.of (tp:=tp) x56) fun b (hb:b<wd.heap.size/\b≠tp/\_)=>⟨Nat.lt_of_lt_of_le hb.1 hkc5.size,hb.2.1⟩);refine hK.out _ _ hkc6 ?_;clear hK;refine oL! 9 ?_;refine b! ?_;intro K hK;refine wp_ownw ruleT (.tmp 41) (.tmp 48) rfl rfl (w5HM.out.row.below x56) rfl (m:=1) (news:=[.int .i64 r5.k,.string r5.a,.string r5.b,.slice ao5 r5.ps.length c5]) rfl (fun j u hu=>?_) (by simp[Value.oneCell']) (by have:=HQN.out;have:=HN.out;rw[flat_length rC_length];simp;omega) (by have:=HQN.out;have:=HN.out;rw[flat_length rC_length];simp;omega) (by have:=wdHZ.out;have:=H5S.out;simp;omega) (fun v7 w7 hown7 hb7 hgr7=>?_)
       ·rw[Addr.add_lit,cell_of_row _ w5.heap.size (0+j) #[.int .i64 r5.k,.string r5.a,.string r5.b,.slice ao5 r5.ps.length c5] 106 (0,0) (heap_alloc_new w5 _)];simpa using hu
       have hk57:∀ b,b<w5.heap.size->Value.ownBlock (.slice aov kv cv)≠some b->w7.heap[b]?=w5.heap[b]?:=fun b h1 h2=>(hgr7.block b (by simp;omega) (fun e=>h2 e.symm)).trans (x56.block b h1);have hz57:w5.heap.size<=w7.heap.size:=Nat.le_trans x56.size hgr7.size;have hb57:∀ g,v7.ownBlock=some g->Value.ownBlock (.slice aov kv cv)=some g\/w5.heap.size<=g:=fun g hg=>(hb7 g hg).imp id (fun h=>by simp at h;omega);have hk57':Kept (fun b=>b<w5.heap.size/\Value.ownBlock (.slice aov kv cv)≠some b) w5 w7:=⟨hgr7.os.trans x56.os,hgr7.tape.trans x56.tape,hgr7.output.trans x56.output,hz57,fun b hb=>hk57 b hb.1 hb.2⟩;have hkc7:=hkc5.trans (hk57'.mono fun b (hb:b<wd.heap.size/\b≠tp/\_)=>⟨Nat.lt_of_lt_of_le hb.1 hkc5.size,hb.2.2⟩);refine hK.out _ _ hkc7 ?_;clear hK hA;simp only[Act.put,pA,pZ,pS];have HADD:=h! (w5HM.out.add (n0:=wd.heap.size) (r:=r5) (v5 := .slice ao5 r5.ps.length c5) hk57 hz57 hown7 hb57 H5.out.2.2 wdHZ.out.1 (fun g hg=>Nat.lt_of_lt_of_le (HPO.out g hg).2 wdHZ.out.2) ⟨H5.out.1,H5.out.2.1⟩);have HLOW:=h! (show Kept (fun b=>b<rp) w5 (w7.setCell ⟨rp,3,none⟩ v7)from(hk57'.mono fun b (hb:b<rp)=>⟨by have:=wdHZ.out;have:=H5S.out;omega,fun e=>by have:=(HPO.out b e).1;omega⟩).set (fun h=>Nat.lt_irrefl _ h) _);have hrp7:Blk w7 rp #[.int .i64 5,.string ⟨#[]⟩,.string ⟨#[]⟩,.slice aov kv cv] 106:=(hk57 rp (by have:=wdHZ.out;have:=H5S.out;omega) (fun e=>by have:=(HPO.out rp e).1;omega)).trans w5HM.out.box;obtain⟨ao7,k7,c7,rfl,-,-,-⟩:=hown7.sl.len;have f7:=hrp7.free;have g7:=hrp7.cells 3;have hdn:IntKind.i64.wrap ((n:Int)-1)=((n-1:Nat):Int):=by rw[IntWalk.i64_in _ (by have:=HQN.out;have:=HN.out;omega)];omega
       have hdn':wrap64 ((n:Int)-1)=((n-1:Nat):Int):=by rw[wrap_in _ (by omega) (by have:=HQN.out;have:=HN.out;omega)];omega
       clear hkc5 hkc6 hk57 hz57 hb57 hk57' hown7 hb7 hgr7 hrp7 x56;((refine WalkL.take 10 _ ?_ (by simp only[gA,gS,gZ];rfl) (by kernel_rfl) (by kernel_rfl) (by kernel_rfl) (by rfl) (fun W hW=>?_) ?_;rotate_left;· (go_simp;try with_reducible rfl));simp only[Act.put,pA,pZ,pS])
       refine WalkL.last (by kernel_rfl) (by kernel_rfl) ?_;refine b! ?_;intro K hK;go_simp;refine hK.out _ _ ?_;clear hK hkc7 f7 g7;generalize w7.setCell ⟨rp,3,none⟩ (.slice ao7 k7 c7)=w8 at *;go_wp2_with fail
       go_roundw
       case rel=>exact⟨n-1,_,_,rfl,by have:=HQN.out;have:=HNN.out;rw[List.length_append];simp only[List.length_cons,List.length_nil];omega,HADD.out,HLOW.out.blk w5HR.out (by have:=wbHL.out;show w.heap.size<rp;omega),w5HT.out.kept HLOW.out (fun b hb=>by have:=wbHL.out;show b<rp;omega),Kept.trans w5HK.out (HLOW.out.mono fun b (hb:b<w.heap.size/\b≠tp)=>by have:=wbHL.out;have:=hb.1;show b<rp;omega)⟩
       case measure=>have:=HNN.out;simp[intOf];omega
end Go.Proofs.YtlhaghoajpglaaaGreat
