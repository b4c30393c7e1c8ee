/- Lemmas for the claim, no condition. -/
import Derived.Test.YtjdigpfipmckhaaGreatYXTrees0
import GoSem.PinnedTables
import Derived.Deep.DeepHandedRow
import Derived.Lib.SmallJoins
import Derived.Test.YtjdigpfipmckhaaGreatYXTrees13
import Derived.Test.YtjdigpfipmckhaaGreatYXTrees12
import Derived.Test.YtjdigpfipmckhaaGreatYXTrees15
import Derived.Test.YtjdigpfipmckhaaGreatYXTrees14
import Derived.Test.YtjdigpfipmckhaaGreatYXTrees4
import Derived.Test.YtjdigpfipmckhaaGreatYXTrees1
import Derived.Test.YtjdigpfipmckhaaGreatYXTrees10
import Derived.Test.YtjdigpfipmckhaaGreatYXTrees11
import Derived.Test.YtjdigpfipmckhaaGreatYXTrees9
import Derived.Test.YtjdigpfipmckhaaGreatYXTrees3
import Derived.Test.YtjdigpfipmckhaaGreatYXTrees8
namespace Go.Proofs.YtjdigpfipmckhaaGreat
open Go Go.RowKit Go.Maps
theorem set_ex (l:List Tup):∃ T,SetT l T:=by
 have htr:∀ a b c:Tup,(!ltT b a)=true->(!ltT c b)=true->(!ltT c a)=true:=fun a b c h k=>by
  rw[Bool.not_eq_true']at *;have:=swoC.ntrans c b a;simp only[lt_cmpC]at this;exact this k h
 have hto:∀ a b:Tup,(!ltT b a||!ltT a b)=true:=fun a b=>by
  cases h:ltT b a with
  | false=>rfl
  | true =>
   cases k:ltT a b with
   | false=>rfl
   | true =>
    have:=swoC.trans a b a;simp only[lt_cmpC]at this;have h3:=this k h;have h4:=swoC.irrefl a;rw[lt_cmpC]at h4;rw[h4]at h3;cases h3
 refine⟨_,set_of (List.mergeSort_perm l fun a b=>!ltT b a) ?_⟩;have:=List.pairwise_mergeSort (le:=fun a b=>!ltT b a) htr hto l;exact this.imp fun {a b} h=>by simpa using h
theorem bookT_any {l T:List Tup} (hT:SetT l T)(v:Value)(w:World)(h:Sl (· < w.heap.size) w 6 v (tuCs l))(hl:l.length<=1000000)(hok:∀ t∈l,t.Ok) :
  Calls Tryz.prog 16 #[v] w fun e w'=>∃ b,e = .returned (.pointer (some ⟨b,0,none⟩))/\BookAt w' b T/\Ext w w':=by
 refine(newBook_any l v w h hl hok).mono ?_;rintro e w' ⟨b,U,rfl,hU,hb,hx⟩;obtain rfl:=hT.uniq hU;exact⟨b,rfl,hb,hx⟩
theorem setT_any {l T:List Tup} (hT:SetT l T)(v:Value)(w:World)(h:Sl (· < w.heap.size) w 6 v (tuCs l))(hl:l.length<=100000)(hok:∀ t∈l,t.Ok) :
  Calls Tryz.prog 19 #[v] w fun e w'=>∃ v',e = .returned v'/\Sl (· < w'.heap.size) w' 6 v' (tuCs T)/\Ext w w':=by
 refine(set25_any v l w h hl hok).mono ?_;rintro e w' ⟨v',U,rfl,hU,hb,hx⟩;obtain rfl:=hT.uniq hU;exact⟨v',rfl,hb.slU,hx⟩
def WalkP (ts:List TyS)(T:List Tup)(shut:List R2)(p:P3)(most:Int)(ok long:Value)(ps:List P3)(fs:List FT)(ev:Value):Prop :=
 (∃ n,WalkEnd ts T shut p most n/\ps=(walkN ts T shut p n).1/\fs=(walkN ts T shut p n).2/\ev=ok)\/(WalkLong ts T shut p most/\ps=[]/\fs=[]/\ev=long)
def nt0:NT := .mk 0 ⟨⟨#[]⟩,⟨#[]⟩,⟨#[]⟩⟩ [] []
def NSaid (P:NT->Value->Prop)(w:World)(e:Ending)(w':World):Prop :=
 Ext w w'/\∃ (n:NT) (so:Option Addr) (sc:Nat) (qo:Option Addr) (qc:Nat) (ev:Value),P n ev/\e = .returned (.tuple #[.agg #[.int .i64 n.k,.string n.p.t,.string n.p.i,.string n.p.r,.slice so n.subs.length sc,.slice qo n.ps.length qc],ev]) /\
  NtAt (fun x=>w.heap.size<=x/\x<w'.heap.size) w' n (.slice so n.subs.length sc,.slice qo n.ps.length qc)
def JoinN {β:Type} (wd:World)(P:NT->Value->Prop)(A:Nat->β->Nat->Option Addr->Nat->Option Addr->Nat->NT->Value->Act)(e:Exit)(a:Act)(W:World):Prop :=
 e = .normal/\∃ (gk:Nat) (bk:β) (bg:Nat) (so:Option Addr) (sc:Nat) (qo:Option Addr) (qc:Nat) (n:NT) (ev:Value),a=A gk bk bg so sc qo qc n ev/\P n ev/\Ext wd W/\wd.heap.size<=bg /\
  Blk W bg #[.int .i64 n.k,.string n.p.t,.string n.p.i,.string n.p.r,.slice so n.subs.length sc,.slice qo n.ps.length qc] 55/\NtAt (fun x=>x≠bg/\wd.heap.size<=x/\x<W.heap.size) W n (.slice so n.subs.length sc,.slice qo n.ps.length qc)
theorem NtAt.zero (S:Nat->Prop)(w:World):NtAt S w nt0 (.slice none 0 0,.slice none 0 0) :=
 (NtAt.iff _ _).2 ⟨Sl.nil _ _ _,[],rfl,(fun x hx=>by cases hx),Sl.nil _ _ _⟩
theorem NSaid.zero {P:NT->Value->Prop} {w w':World} {ev:Value} (hx:Ext w w')(h:P nt0 ev):NSaid P w (.returned (.tuple #[.agg #[.int .i64 0,.string ⟨#[]⟩,.string ⟨#[]⟩,.string ⟨#[]⟩,.slice none 0 0,.slice none 0 0],ev])) w' :=
 ⟨hx,nt0,none,0,none,0,ev,h,rfl,NtAt.zero _ _⟩
def TreeP (ts:List TyS)(T:List Tup)(shut:List R2)(p:P3)(d:Nat)(most:Int)(ok long:Value)(n:NT)(ev:Value):Prop :=
 (((treeE ts T shut d p).sz:Int)<=most/\n=treeE ts T shut d p/\ev=ok)\/(most<((treeE ts T shut d p).sz:Int)/\n=nt0/\ev=long)
structure TreeArg (ts:List TyS)(T:List Tup)(shut:List R2)(p:P3):Prop where
 ok:∀ t∈ts,t.Ok
 chk:chk06 ts=0
 sb:schB ts<=549755813888
 sz:∀ t∈ts,∀ r∈t.rels,r.2.sz<=1000000
 names:(namesOf ts).length<=1099511627776
 refs:(refsOf ts).length<=1099511627776
 shutOk:∀ r∈shut,r.Ok
 pok:p.Ok
 subs:∀ t∈T,t.s.Ok
 nodup:T.Nodup
 len:T.length<=1000000
 rok:∀ x∈refsOf ts,x.2.Ok
theorem treeG_any (ts:List TyS)(tv:Value)(b:Nat)(T:List Tup)(shut:List R2)(sv:Value)(p:P3)(d:Nat)(most:Int)(w:World)(h:TysAt (· < w.heap.size) w ts tv)(ha:TreeArg ts T shut p)
  (hbk:BookAt w b T) (hsv:Sl (· < w.heap.size) w 2 sv (shut.flatMap r2C)) (hd:d<=8) (hm:most<=1000000) :
  Calls Tryz.prog 26 #[.agg #[tv],bkV b,sv,pV p,.int .i64 d,.int .i64 most] w (NSaid (TreeP ts T shut p d most (.int .i64 0) (.int .i64 10)) w):=by
 refine(tree_any ts tv b T shut sv p d most w h ha.ok ha.chk ha.sb ha.sz ha.names ha.refs hbk hsv ha.shutOk ha.pok ha.subs ha.nodup ha.len ha.rok hd hm).mono ?_;rintro e w' ⟨hx,⟨hz,a,b,rfl,hn⟩ | ⟨hz,rfl⟩⟩
 ·obtain⟨so,sc,qo,qc,e⟩:=hn.shape;cases e;exact⟨hx,_,so,sc,qo,qc,_,.inl ⟨hz,rfl,rfl⟩,rfl,hn.mono fun x hx=>⟨hx.1,hx.2.1⟩⟩
 ·exact NSaid.zero hx (.inr ⟨hz,rfl,rfl⟩)
theorem treeD_any (ts:List TyS)(tv:Value)(T:List Tup)(sev:Value)(shut:List R2)(shv:Value)(p:P3)(d:Nat)(most:Int)(w:World)(h:TysAt (· < w.heap.size) w ts tv)(ha:TreeArg ts T shut p)(hse:Sl (· < w.heap.size) w 6 sev (tuCs T))(hsh:Sl (· < w.heap.size) w 2 shv (shut.flatMap r2C))(hS:shut.length<=1000000)(hrs:∀ x∈refsOf ts,x.2.sz<=1000000)(hd:d<=1000)(hm:most<=1000000) :
  Calls Tryz.prog 28 #[.agg #[tv],sev,shv,pV p,.int .i64 d,.int .i64 most] w (NSaid (TreeP ts T shut p d most (.bool true) (.bool false)) w):=by
 refine(tree28_any ts tv T sev shut shv p d most w h hse hsh (chk_uniq ha.chk) ha.nodup ha.len hS hrs hd hm).mono ?_;rintro e w' ⟨hx,⟨hz,a,b,rfl,hn⟩ | ⟨hz,rfl⟩⟩
 ·obtain⟨so,sc,qo,qc,e⟩:=hn.shape;cases e;exact⟨hx,_,so,sc,qo,qc,_,.inl ⟨hz,rfl,rfl⟩,rfl,hn.mono fun x hx=>⟨hx.1,hx.2.1⟩⟩
 ·exact NSaid.zero hx (.inr ⟨hz,rfl,rfl⟩)
def NoneP (c:Int)(n:NT)(ev:Value):Prop:=n=nt0/\ev = .int .i64 c
theorem treeBad_any (ts:List TyS)(tv fv sv:Value)(p:P3)(dv:Value)(most:Int)(w:World)(h:TysAt (· < w.heap.size) w ts tv)(hok:∀ t∈ts,t.Ok)(hc:chk06 ts≠0)(hsB:schB ts<=549755813888)(hsz:∀ t∈ts,∀ r∈t.rels,r.2.sz<=1000000)(hln:(namesOf ts).length<=1099511627776)(hlr:(refsOf ts).length<=1099511627776) :
  Calls Tryz.prog 26 #[.agg #[tv],fv,sv,pV p,dv,.int .i64 most] w (NSaid (NoneP (chk06 ts)) w):=by
 refine(treeB_any ts tv fv sv p dv most w h hok hc hsB hsz hln hlr).mono ?_;rintro e w' ⟨hx,rfl⟩;exact NSaid.zero hx ⟨rfl,rfl⟩
theorem treeOut_any (ts:List TyS)(tv sv:Value)(p:P3)(b:Nat)(d:Int)(hd:d<0\/8<d)(most:Int)(w:World)(h:TysAt (· < w.heap.size) w ts tv)(hok:∀ t∈ts,t.Ok)(hc:chk06 ts=0)(hsB:schB ts<=549755813888)(hsz:∀ t∈ts,∀ r∈t.rels,r.2.sz<=1000000)(hln:(namesOf ts).length<=1099511627776)(hlr:(refsOf ts).length<=1099511627776) :
  Calls Tryz.prog 26 #[.agg #[tv],bkV b,sv,pV p,.int .i64 d,.int .i64 most] w (NSaid (NoneP 1) w):=by
 refine(treeDeep_any ts tv sv p b d hd most w h hok hc hsB hsz hln hlr).mono ?_;rintro e w' ⟨hx,rfl⟩;exact NSaid.zero hx ⟨rfl,rfl⟩
structure Ins (l:List R2)(r:R2)(l':List R2):Prop where
 up:UpR l'
 mem:∀ x,x∈l'↔x=r\/x∈l
structure PutI (l:List R2)(r:R2)(i:Nat)(d:Bool)(o:List R2):Prop where
 len:o.length<=i+1
 up:UpR o
 mem:∀ x,x∈o↔(d=true/\x=r)\/x∈l.take i
 lt:∀ x∈o,∀ y∈l.drop i,ltR x y=true
 nd:d=false->∀ x∈o,ltR x r=true
theorem PutI.start {l:List R2} (r:R2):PutI l r 0 false []:=⟨Nat.zero_le _,List.Pairwise.nil,fun x=>by simp,fun x hx=>(by cases hx),fun _ x hx=>(by cases hx)⟩
theorem UpR.nodup {l:List R2} (h:UpR l):l.Nodup:=List.Pairwise.imp (fun h e=>by subst e;rw[ltR_irr]at h;cases h) h
structure BI (ts:List TyS)(N0:Nat)(L A:List R2)(ch:Bool)(pr:List (R2 × RT)):Prop where
 upL:UpR L
 upA:UpR A
 least:LeastP ts L
 subA:∀ x∈A,x∈(refsOf ts).map (·.1)
 len0:N0<=L.length
 more:ch=true->N0<L.length
 done:∀ p∈pr,p.1∈A/\(ch=false->p.2.pcan (refsOf ts) L p.1.t=true->p.1∈L)
theorem BI.lenL {ts:List TyS} {N0:Nat} {L A:List R2} {ch:Bool} {pr:List (R2 × RT)} (h:BI ts N0 L A ch pr):L.length<=(refsOf ts).length:=h.least.len h.upL.nodup
theorem BI.start {ts:List TyS} {L A:List R2} (hL:UpR L)(hA:UpR A)(hl:LeastP ts L)(hs:∀ x∈A,x∈(refsOf ts).map (·.1)):BI ts L.length L A false [] :=
 ⟨hL,hA,hl,hs,Nat.le_refl _,fun h=>(by cases h),fun p hp=>(by cases hp)⟩
structure UpOf (o X:List R2):Prop where
 up:UpR o
 mem:∀ x,x∈o↔x∈X
theorem UpOf.nil:UpOf [] []:=⟨List.Pairwise.nil,fun _=>Iff.rfl⟩
theorem UpOf.put {o X o':List R2} {r:R2} (h:UpOf o X)(hi:Ins o r o'):UpOf o' (X++[r]):=⟨hi.up,fun x=>by rw[hi.mem,h.mem,List.mem_append,List.mem_singleton,or_comm]⟩
theorem UpOf.len {o X:List R2} (h:UpOf o X):o.length<=X.length:=nodup_le h.up.nodup fun x hx=>(h.mem x).1 hx
structure CD (ts:List TyS)(r:R2)(o pr o2:List R2):Prop where
 up:UpR o2
 sub:∀ x∈o,x∈o2
 re:∀ x∈o2,ReachP ts r x
 done:∀ x∈pr,∀ y∈needsP ts x,y∈o2
theorem CD.start {ts:List TyS} {r:R2} {o:List R2} (hu:UpR o)(hr:∀ x∈o,ReachP ts r x):CD ts r o [] o:=⟨hu,fun _ h=>h,hr,fun x hx=>(by cases hx)⟩
theorem CD.put {ts:List TyS} {r y:R2} {o pr o2 o3:List R2} (h:CD ts r o pr o2)(hi:Ins o2 y o3)(hy:ReachP ts r y):CD ts r o pr o3 :=
 ⟨hi.up,fun x hx=>(hi.mem x).2 (.inr (h.sub x hx)),fun x hx=>by
  rcases (hi.mem x).1 hx with rfl | hx
  ·exact hy
  ·exact h.re x hx,fun x hx z hz=>(hi.mem z).2 (.inr (h.done x hx z hz))⟩
theorem CD.len {ts:List TyS} {r:R2} {o pr o2:List R2} (h:CD ts r o pr o2):o2.length<=(univP ts r).length:=nodup_le h.up.nodup fun x hx=>reach_univ (h.re x hx)
theorem chk_long {ts:List TyS} (h:chk06 ts=0):longOk ts=true:=by
 unfold chk06 at h;split at h
 ·split at h
  ·assumption
  ·cases h
 ·cases h
end Go.Proofs.YtjdigpfipmckhaaGreat
namespace Go.Proofs.YtjdigpfipmckhaaGreat
open Go Go.RowKit Go.ChangeShapes Go.WideShapes Go.ChangeAt
def bc (l:List UInt8):List Value:=l.map fun c => .int .u8 c.toNat
section
variable {H : Type} {enc : TypeId × Value -> H} {W : World} {base : Nat} {v : Value} {d : DataW H} {ps : List MemPlace}
end
end Go.Proofs.YtjdigpfipmckhaaGreat
namespace Go.Proofs.YtjdigpfipmckhaaGreat
open Go Go.RowKit Go.Maps
def Tp (w:World)(tp:Nat):Prop:=∃ (bv:Value)(l:List UInt8)(n:Nat),n<=l.length/\Sl (· < tp) w 1 bv (bc l)/\Blk w tp #[bv,.int .i64 n] 71
abbrev KT (tp:Nat) (w w':World):Prop:=Kept (fun b=>b<w.heap.size/\b≠tp) w w'
theorem KT.trans {tp:Nat} {w w' w'':World} (h:KT tp w w')(k:KT tp w' w''):KT tp w w'':=Kept.trans h (Kept.mono k fun _b hb=>⟨Nat.lt_of_lt_of_le hb.1 h.size,hb.2⟩)
theorem Tp.lt {w:World} {tp:Nat} (h:Tp w tp):tp<w.heap.size:=by
 obtain⟨bv,l,n,hn,hs,hB⟩:=h;exact hB.lt
theorem KT.same {tp:Nat} {w w':World} {S:Nat->Prop} (h:KT tp w w')(hS:∀ b,S b->b<w.heap.size/\b≠tp):Same S w w':=fun b hb=>h.block b (hS b hb)
theorem KT.blk {tp:Nat} {w w':World} (h:KT tp w w') {B:Nat} {cs:Array Value} {e:TypeId} (hB:Blk w B cs e)(hn:B≠tp):Blk w' B cs e:=Kept.blk h hB ⟨hB.lt,hn⟩
def nmV:ByteArray:=⟨#[118,105,101,119,101,114]⟩
def nmO:ByteArray:=⟨#[111,119,110,101,114]⟩
def nmP:ByteArray:=⟨#[112,97,114,101,110,116]⟩
def nmM:ByteArray:=⟨#[109,101,109,98,101,114]⟩
def relNs:List ByteArray:=[nmV,nmO,nmP,nmM]
def LeafR (own:List ByteArray)(r:RT):Prop:=r = .mk 1 ⟨#[]⟩ ⟨#[]⟩ []\/(∃ a∈own,r = .mk 2 a ⟨#[]⟩ [])\/∃ a∈own,∃ b∈relNs.take 2,r = .mk 3 a b []
def GoodR (own:List ByteArray):Nat->RT->Prop
 | 0,r=>LeafR own r
 | d+1,r=>LeafR own r\/∃ k ps,r = .mk k ⟨#[]⟩ ⟨#[]⟩ ps/\(k=4\/k=5)/\(ps.length=2\/ps.length=3)/\∀ p∈ps,GoodR own d p/\p.k≠k
theorem LeafR.k {own:List ByteArray} {r:RT} (h:LeafR own r):r.k≠0/\r.k≠4/\r.k≠5:=by
 rcases h with rfl | ⟨a,_,rfl⟩ | ⟨a,_,b,_,rfl⟩ <;> simp[RT.k]
theorem LeafR.ps {own:List ByteArray} {r:RT} (h:LeafR own r):r.ps=[]:=by
 rcases h with rfl | ⟨a,_,rfl⟩ | ⟨a,_,b,_,rfl⟩ <;> rfl
structure MkI (own:List ByteArray)(d:Nat)(kk:Int)(rp:Nat)(w:World)(q:List (RT × Value))(pv:Value):Prop where
 box:Blk w rp #[.int .i64 kk,.string ⟨#[]⟩,.string ⟨#[]⟩,pv] 98
 row:Own w (rp+1) 98 4 pv (q.flatMap rC)
 parts:∀ x∈q,RTAt (fun b=>(rp+1<=b/\b<w.heap.size)/\pv.ownBlock≠some b) w x.1 x.2
 good:∀ x∈q,GoodR own d x.1/\x.1.k≠kk
theorem MkI.keep {own:List ByteArray} {d:Nat} {kk:Int} {rp tp:Nat} {w w':World} {q:List (RT × Value)} {pv:Value} (h:MkI own d kk rp w q pv)(hk:KT tp w w')(ht:tp<rp):MkI own d kk rp w' q pv :=
 ⟨hk.blk h.box (by omega),h.row.keepOwn fun g hg=>hk.block g ⟨(h.row.block g hg).2,by have:=(h.row.block g hg).1;omega⟩,
  fun x hx=>((h.parts x hx).same fun b hb=>hk.block b ⟨hb.1.2,by have:=hb.1.1;omega⟩).mono fun b hb=>⟨⟨hb.1.1,Nat.lt_of_lt_of_le hb.1.2 hk.size⟩,hb.2⟩,h.good⟩
theorem Tp.kept {w w':World} {tp:Nat} {K:Nat->Prop} (h:Tp w tp)(hk:Kept K w w')(hK:∀ b,b<=tp->K b):Tp w' tp:=by
 obtain⟨bv,l,n,hn,hs,hB⟩:=h;exact⟨bv,l,n,hn,hs.same fun b hb=>hk.block b (hK b (Nat.le_of_lt hb)),hk.blk hB (hK tp (Nat.le_refl _))⟩
structure Box {α:Type} (e ee:TypeId)(sz:Nat)(El:(Nat->Prop)->World->α->Prop)(enc:α->List Value)(rp lo:Nat)(pre:List Value)(w:World)(q:List α)(pv:Value):Prop where
 box:Blk w rp (pre++[pv]).toArray e
 row:Own w lo ee sz pv (q.flatMap enc)
 parts:∀ x∈q,El (fun b=>(lo<=b/\b<w.heap.size)/\pv.ownBlock≠some b) w x
section
variable {α : Type} {e ee : TypeId} {sz : Nat} {El : (Nat -> Prop) -> World -> α -> Prop} {enc : α -> List Value} {rp lo tp n0 : Nat} {pre : List Value} {w w' w7 : World} {q : List α} {pv v7 : Value} {x : α}
theorem Box.keep (hE:∀ {S:Nat->Prop} {w w':World} {x:α},El S w x->Same S w w'->El S w' x)(hM:∀ {S S':Nat->Prop} {w:World} {x:α},El S w x->(∀ b,S b->S' b)->El S' w x)
  (h:Box e ee sz El enc rp lo pre w q pv) (hk:Kept (fun b=>b<w.heap.size/\lo<=b) w w') (hr:w'.heap[rp]?=w.heap[rp]?):Box e ee sz El enc rp lo pre w' q pv :=
 ⟨hr.trans h.box,h.row.keepOwn fun g hg=>hk.block g ⟨(h.row.block g hg).2,(h.row.block g hg).1⟩,
  fun x hx=>hM (hE (h.parts x hx) fun b hb=>hk.block b ⟨hb.1.2,hb.1.1⟩) fun _b hb=>⟨⟨hb.1.1,Nat.lt_of_lt_of_le hb.1.2 hk.size⟩,hb.2⟩⟩
end
def ElR (S:Nat->Prop)(w:World)(x:(ByteArray × RT) × Value):Prop:=RTAt S w x.1.2 x.2
def ElT (S:Nat->Prop)(w:World)(x:TyS × Value):Prop:=RelsAt S w x.1.rels x.2
theorem ElR.same {S:Nat->Prop} {w w':World} {x:(ByteArray × RT) × Value} (h:ElR S w x)(hs:Same S w w'):ElR S w' x:=RTAt.same h hs
theorem ElR.mono {S S':Nat->Prop} {w:World} {x:(ByteArray × RT) × Value} (h:ElR S w x)(hs:∀ b,S b->S' b):ElR S' w x:=RTAt.mono h hs
theorem ElT.same {S:Nat->Prop} {w w':World} {x:TyS × Value} (h:ElT S w x)(hs:Same S w w'):ElT S w' x:=RelsAt.same h hs
theorem ElT.mono {S S':Nat->Prop} {w:World} {x:TyS × Value} (h:ElT S w x)(hs:∀ b,S b->S' b):ElT S' w x:=RelsAt.mono h hs
abbrev TyBox:=Box (α:=(ByteArray × RT) × Value) 95 100 5 ElR relC
abbrev ScBox:=Box (α:=TyS × Value) 24 95 2 ElT tyC
theorem TyBox.keep {rp lo:Nat} {pre:List Value} {w w':World} {q:List ((ByteArray × RT) × Value)} {pv:Value} (h:TyBox rp lo pre w q pv)(hk:Kept (fun b=>b<w.heap.size/\lo<=b) w w')(hr:w'.heap[rp]?=w.heap[rp]?):TyBox rp lo pre w' q pv :=
 Box.keep (El:=ElR) (fun h hs=>h.same hs) (fun h hs=>h.mono hs) h hk hr
theorem ScBox.keep {rp lo:Nat} {pre:List Value} {w w':World} {q:List (TyS × Value)} {pv:Value} (h:ScBox rp lo pre w q pv)(hk:Kept (fun b=>b<w.heap.size/\lo<=b) w w')(hr:w'.heap[rp]?=w.heap[rp]?):ScBox rp lo pre w' q pv :=
 Box.keep (El:=ElT) (fun h hs=>h.same hs) (fun h hs=>h.mono hs) h hk hr
structure FineR (ts:List TyS)(t:TyS)(d n m:Nat)(r:RT):Prop where
 text:∀ k,k+d<=8->r.textOk k=true
 sz:r.sz<=n
 bk:r.bk<=m
 ok:r.Ok
 named:r.named ts t=true
theorem FineR.mono {ts:List TyS} {t:TyS} {d n m d' n' m':Nat} {r:RT} (h:FineR ts t d n m r)(hd:d<=d')(hn:n<=n')(hm:m<=m'):FineR ts t d' n' m' r:=⟨fun k hk=>h.text k (by omega),Nat.le_trans h.sz hn,Nat.le_trans h.bk hm,h.ok,h.named⟩
theorem GoodR.zero {own:List ByteArray} {r:RT}:GoodR own 0 r↔LeafR own r:=Iff.rfl
section
variable {ts : List TyS} {t : TyS} {own : List ByteArray} (hs : ∀ n ∈ own, n ∈ relNs) (hh : ∀ n ∈ own, hasT t n = true) (ha : ∀ n ∈ relNs.take 2, anyT ts n = true)
include hs hh ha
end
theorem refs_sz {ts:List TyS} (h:longOk ts=true):∀ x∈refsOf ts,x.2.sz<=32:=fun x hx=>by
 obtain⟨t,ht,r,hr,rfl⟩:=refs_mem.1 hx;unfold longOk at h;rw[Bool.and_eq_true,List.all_eq_true]at h;have h2:=h.2 t ht;unfold tyLong at h2;rw[Bool.and_eq_true,List.all_eq_true]at h2;simpa using h2.2 r hr
theorem WalkP.done {ts:List TyS} {T:List Tup} {shut:List R2} {p:P3} {most:Int} {ok long:Value} {ps:List P3} {fs:List FT} {ev:Value} (h:WalkP ts T shut p most ok long ps fs ev)(hm:∀ n,((walkN ts T shut p n).1.length:Int)<=most) :
  ∃ n,WalkEnd ts T shut p most n/\ps=(walkN ts T shut p n).1/\fs=(walkN ts T shut p n).2/\ev=ok:=by
 rcases h with h | ⟨⟨n,h1,h2,h3⟩,-⟩
 ·exact h
 ·have:=hm n;omega
def viB:ByteArray:=⟨#[118,105,101,119,101,114]⟩
def usB:ByteArray:=⟨#[117,115,101,114]⟩
def thB:ByteArray:=⟨#[116,104,105,115]⟩
def p0:P3:=⟨⟨#[100,111,99]⟩,⟨#[49]⟩,⟨#[118,105,101,119,101,114]⟩⟩
theorem TreeArg.of {ts:List TyS} {l T:List Tup} {shut:List R2} {p:P3} (hc:chk06 ts=0)(hok:∀ t∈ts,t.Ok)(hb:schB ts<=549755813888)(hn:(namesOf ts).length<=1099511627776)(hr:(refsOf ts).length<=1099511627776)(hT:SetT l T)(hl:T.length<=1000000)(hTo:∀ t∈T,t.Ok)(hp:p.Ok)(hso:∀ r∈shut,r.Ok):TreeArg ts T shut p :=
 have hlg:=chk_long hc;have hsz:∀ x∈refsOf ts,x.2.sz<=32:=fun x hx=>refs_sz hlg x hx
 ⟨hok,hc,hb,fun t ht r hr'=>Nat.le_trans (hsz ⟨⟨t.name,r.1⟩,r.2⟩ (refs_mem.2 ⟨t,ht,r,hr',rfl⟩)) (by decide),hn,hr,hso,hp,fun t ht=>(hTo t ht).2,hT.1.imp (fun {a b} h e=>by
  have h4:=swoC.irrefl a;rw[lt_cmpC]at h4;rw[<- e,h4]at h;cases h),hl,fun x hx=>by
  obtain⟨t,ht,r,hr',rfl⟩:=refs_mem.1 hx;exact((hok t ht).2 r hr').2⟩
def txt28:ByteArray:=⟨#[116,121,112,101,32,100,111,99,10,118,105,101,119,101,114,32,61,32,116,104,105,115,10,116,121,112,101,32,117,115,101,114]⟩
def its28:List PIt:=[.ty docB,.rel viB thB [],.ty usB]
def lns28:List ByteArray:=[⟨#[116,121,112,101,32,100,111,99]⟩,⟨#[118,105,101,119,101,114,32,61,32,116,104,105,115]⟩,⟨#[116,121,112,101,32,117,115,101,114]⟩]
def ts28:List TyS:=[⟨docB,[(viB,.mk 1 ⟨#[]⟩ ⟨#[]⟩ [])]⟩,⟨usB,[]⟩]
theorem lines28:linesD txt28=lns28:=by kernel_rfl
theorem step28:its28.foldl stepD []=ts28:=by kernel_rfl
theorem lnsOk28:(lns28.zip its28).all (fun p=>lnOkB p.1 p.2)=true:=by kernel_rfl
theorem fits28:its28.all PIt.fitB=true:=by kernel_rfl
theorem chk28:chk06 ts28=0:=by kernel_rfl
theorem ok28:∀ t∈ts28,t.Ok:=by
 intro t ht;unfold ts28 at ht;simp only[List.mem_cons,List.not_mem_nil,or_false]at ht;rcases ht with rfl | rfl
 ·refine⟨by decide,fun r hr=>?_⟩;obtain rfl:=List.mem_singleton.1 hr;exact⟨by decide,by simp[RT.Ok,okL];decide⟩
 ·exact⟨by decide,fun r hr=>by cases hr⟩
def p28:P3:=⟨docB,⟨#[49]⟩,viB⟩
def u28:P3:=⟨usB,⟨#[50]⟩,⟨#[]⟩⟩
def l28:List Tup:=[⟨p28,u28⟩]
theorem set28:SetT l28 l28:=⟨List.pairwise_singleton _ _,fun t=>⟨fun h=>⟨h,by
 unfold l28 at h;obtain rfl:=List.mem_singleton.1 h;kernel_rfl⟩,fun h=>h.1⟩⟩
theorem ok28l:∀ t∈l28,t.Ok:=by
 intro t ht;unfold l28 at ht;obtain rfl:=List.mem_singleton.1 ht;exact⟨⟨by decide,by decide,by decide⟩,⟨by decide,by decide,by decide⟩⟩
theorem arg28:TreeArg ts28 l28 [] p28:=TreeArg.of chk28 ok28 (by decide) (by decide) (by decide) set28 (by decide) ok28l ⟨by decide,by decide,by decide⟩ (by simp)
theorem one28:treeE ts28 l28 [] 1 p28 = .mk 1 p28 [u28] []:=by kernel_rfl
theorem cut28:treeE ts28 l28 [] 0 p28 = .mk 0 p28 [] []:=by kernel_rfl
set_option maxRecDepth 100000 in
set_option maxHeartbeats 2000000 in
theorem fixed28_any (w:World):Calls Tryz.prog 24 #[] w fun e w'=>e = .returned (.bool true)/\Below w.heap.size w w':=by
 have HPA:=h! (parse_any txt28 its28 w (by decide) (by rw[lines28];rfl) (by rw[lines28];exact lnsOk_of lnsOk28) (fits_of fits28) (fun _=>⟨docB,rfl⟩) (by decide));rw[step28]at HPA;unfold txt28 at HPA;go_enter Tryz.func24,Tryz.ntmps24
 go_wp2_with fail
 refine HPA.out.mono ?_;rintro e w1 ⟨tv,rfl,hty,hb1⟩;obtain⟨aot,ct,rfl,-,-,-⟩:=hty.rows;rw[show ts28.length=2 from rfl]at *;obtain⟨w2,hw2⟩:∃ y,y=w1.alloc (.cells #[.slice aot 2 ct] 24):=⟨_,rfl⟩;obtain⟨w3,hw3⟩:∃ y,y=w2.alloc (.cells #[.string ⟨#[100,111,99]⟩,.string ⟨#[49]⟩,.string ⟨#[118,105,101,119,101,114]⟩,.string ⟨#[117,115,101,114]⟩,.string ⟨#[50]⟩,.string ⟨#[]⟩] 104):=⟨_,rfl⟩;obtain⟨w4,hw4⟩:∃ y,y=w3.alloc (.cells #[.string ⟨#[100,111,99]⟩,.string ⟨#[49]⟩,.string ⟨#[118,105,101,119,101,114]⟩] 30):=⟨_,rfl⟩;have e2:w2.heap.size=w1.heap.size+1:=by rw[hw2];simp
 have e3:w3.heap.size=w1.heap.size+1+1:=by rw[hw3];simp[e2]
 have x2:Ext w1 w2:=by rw[hw2];exact Ext.alloc _ _
 have x3:Ext w2 w3:=by rw[hw3];exact Ext.alloc _ _
 have x4:Ext w3 w4:=by rw[hw4];exact Ext.alloc _ _
 have X4:=h! (show Ext w1 w4 from x2.trans (x3.trans x4));have HBT:=h! (show Below w.heap.size w w4 from Below.trans hb1 (Below.mono X4.out hb1.size));have HT4:=h! (fun W (hW:Ext w4 W)=>(hty.mono (S':=(· < w1.heap.size)) fun b hb=>hb.2).up (Ext.trans X4.out hW));have HS4:=h! (fun W (hW:Ext w4 W)=>show Blk W w1.heap.size #[.slice aot 2 ct] 24 from Blk.below (by rw[hw2];exact Blk.made _ _ _) (x3.trans (x4.trans hW)));have HU4:=h! (fun W (hW:Ext w4 W)=>show Blk W (w1.heap.size+1) #[.string ⟨#[100,111,99]⟩,.string ⟨#[49]⟩,.string ⟨#[118,105,101,119,101,114]⟩,.string ⟨#[117,115,101,114]⟩,.string ⟨#[50]⟩,.string ⟨#[]⟩] 104 from Blk.below (by rw[hw3,<- e2];exact Blk.made _ _ _) (x4.trans hW));have HP4:=h! (fun W (hW:Ext w4 W)=>show Blk W (w1.heap.size+1+1) #[.string ⟨#[100,111,99]⟩,.string ⟨#[49]⟩,.string ⟨#[118,105,101,119,101,114]⟩] 30 from Blk.below (by rw[hw4,<- e3];exact Blk.made _ _ _) hW);clear hty hb1 HPA e2 e3 x2 x3 x4;subst hw3 hw2;go_wp2_with fail
 rw[<- hw4];clear hw4;generalize w1.heap.size=s1 at *;obtain⟨wd,hwd⟩:∃ wd,Hid (wd=w4.drew):=⟨_,h! rfl⟩;have hxd:=h! (show Ext w4 wd from by rw[hwd.out];exact Ext.drew _);apply Code.wp_mono (Q:=JoinN (β:=Nat) wd (TreeP ts28 l28 [] p28 1 9 (.int .i64 0) (.int .i64 10)) _) ?rest5 ?reg5
 case reg5 =>
  have hE:=h! (Ext.refl wd);refine region_walkN (Ext wd) (by rw[<- hwd.out];exact Ext.refl _) (by kernel_rfl) (by kernel_rfl) (fun _ _ d _ _ h=>by cases h.1) ?_;rw[<- hwd.out];have HNB:=h! (fun W gk (hW:Ext wd W) (hL:Sl (· < W.heap.size) W 6 (.slice (some ⟨gk,0,none⟩) 1 1) (tuCs l28))=>bookT_any set28 (.slice (some ⟨gk,0,none⟩) 1 1) W hL (by decide) ok28l);have HWK:=h! (fun W b (hW:Ext wd W) (hB:BookAt W b l28)=>treeG_any ts28 (.slice aot 2 ct) b l28 [] (.slice none 0 0) p28 1 9 W (HT4.out W (Ext.trans hxd.out hW)) arg28 hB (Sl.nil _ _ _) (by decide) (by decide));have hs:=fun W (h:Ext wd W)=>(HS4.out W (Ext.trans hxd.out h)).cells;have hp:=fun W (h:Ext wd W)=>(HP4.out W (Ext.trans hxd.out h)).cells;have ht:=fun W (h:Ext wd W)=>(HU4.out W (Ext.trans hxd.out h)).cells;unfold pV at HWK;dsimp only[p28,docB,viB]at HWK;(refine WalkN.tk [0,1,5] ?_;(iterate 3 ((refine TkN.c _ ?_ (by simp only[gA,gS,gZ];rfl) (by kernel_rfl) (by kernel_rfl) (by rfl) (fun W hW=>?_) ?_;rotate_left;· (go_simp;try with_reducible rfl));simp only[Act.put,pA,pZ,pS]));refine TkN.n ?_)
  clear hs hp ht;refine WalkN.two 2 10 (by kernel_rfl) ?_ ?_;refine⟨_,(by simp only[gA,gS,gZ];rfl),by rfl,fun K hK=>?_⟩;go_simp;have hA0:=Ext.alloc wd (.cells #[.string ⟨#[100,111,99]⟩,.string ⟨#[49]⟩,.string ⟨#[118,105,101,119,101,114]⟩,.string ⟨#[117,115,101,114]⟩,.string ⟨#[50]⟩,.string ⟨#[]⟩] 104);have hL0:Sl (fun b=>b<(wd.alloc (.cells #[.string ⟨#[100,111,99]⟩,.string ⟨#[49]⟩,.string ⟨#[118,105,101,119,101,114]⟩,.string ⟨#[117,115,101,114]⟩,.string ⟨#[50]⟩,.string ⟨#[]⟩] 104)).heap.size) (wd.alloc (.cells #[.string ⟨#[100,111,99]⟩,.string ⟨#[49]⟩,.string ⟨#[118,105,101,119,101,114]⟩,.string ⟨#[117,115,101,114]⟩,.string ⟨#[50]⟩,.string ⟨#[]⟩] 104)) 6 (.slice (some ⟨wd.heap.size,0,none⟩) 1 1) (tuCs l28):=Sl.made wd _ 6 1 104 _ rfl (by decide) (by simp);have hX0:=Ext.trans hE.out hA0;obtain⟨gk,hgk⟩:∃ x,x=wd.heap.size:=⟨_,rfl⟩;rw[<- hgk]at hL0 ⊢;refine hK.out _ _ hX0 ?_;clear hK hgk;have HL:=h! hL0;have hE:=h! hX0;clear hA0 hL0 hX0;generalize wd.alloc (.cells #[.string ⟨#[100,111,99]⟩,.string ⟨#[49]⟩,.string ⟨#[118,105,101,119,101,114]⟩,.string ⟨#[117,115,101,114]⟩,.string ⟨#[50]⟩,.string ⟨#[]⟩] 104)=u1 at *;refine WalkN.two 3 10 (by kernel_rfl) ?_ ?_;refine⟨_,(by simp only[gA,gS,gZ];rfl),by rfl,fun K hK=>?_⟩;go_simp;refine(HNB.out u1 gk hE.out HL.out).mono ?_;rintro e u2 ⟨bk,rfl,hB1,hx1⟩;have hX1:=Ext.trans hE.out hx1;refine hK.out _ _ hX1 ?_;clear hK;have HBK:=h! hB1;have hE:=h! hX1;clear hx1 hX1 hB1 HL;((refine WalkN.take 4 _ ?_ (by simp only[gA,gS,gZ];rfl) (by kernel_rfl) (by kernel_rfl) (by rfl) (fun W hW=>?_) ?_;rotate_left;· (go_simp;try with_reducible rfl));simp only[Act.put,pA,pZ,pS])
  refine WalkN.two 6 10 (by kernel_rfl) ?_ ?_;refine⟨_,(by simp only[gA,gS,gZ];rfl),by rfl,fun K hK=>?_⟩;go_simp;refine(HWK.out u2 bk hE.out HBK.out).mono ?_;rintro e u3 ⟨hx2,n,so,sc,qo,qc,ev,hP2,rfl,hG2⟩;have hX2:=Ext.trans hE.out hx2;refine hK.out _ _ hX2 ?_;clear hK;have HR:=h! (show NtAt (fun x=>wd.heap.size<=x/\x<u3.heap.size) u3 n (.slice so n.subs.length sc,.slice qo n.ps.length qc)from hG2.mono fun x hx=>⟨Nat.le_trans hE.out.size hx.1,hx.2⟩);have HP:=h! hP2;have HBK:=h! (HBK.out.ext hx2);have hE:=h! hX2;clear hx2 hX2 hP2 hG2;((refine WalkN.take 7 _ ?_ (by simp only[gA,gS,gZ];rfl) (by kernel_rfl) (by kernel_rfl) (by rfl) (fun W hW=>?_) ?_;rotate_left;· (go_simp;try with_reducible rfl));simp only[Act.put,pA,pZ,pS])
  ((refine WalkN.take 8 _ ?_ (by simp only[gA,gS,gZ];rfl) (by kernel_rfl) (by kernel_rfl) (by rfl) (fun W hW=>?_) ?_;rotate_left;· (go_simp;try with_reducible rfl));simp only[Act.put,pA,pZ,pS])
  ((refine WalkN.take 9 _ ?_ (by simp only[gA,gS,gZ];rfl) (by kernel_rfl) (by kernel_rfl) (by rfl) (fun W hW=>?_) ?_;rotate_left;· (go_simp;try with_reducible rfl));simp only[Act.put,pA,pZ,pS])
  refine WalkN.one 10 (by kernel_rfl) ?_;refine⟨_,(by simp only[gA,gS,gZ];rfl),by rfl,fun K hK=>?_⟩;go_simp;obtain⟨bg,hbg⟩:∃ x,x=u3.heap.size:=⟨_,rfl⟩;rw[<- hbg];have hA3:=Ext.alloc u3 (.cells #[.int .i64 0,.string ⟨#[]⟩,.string ⟨#[]⟩,.string ⟨#[]⟩,.slice none 0 0,.slice none 0 0] 55);have hO3:Blk (u3.alloc (.cells #[.int .i64 0,.string ⟨#[]⟩,.string ⟨#[]⟩,.string ⟨#[]⟩,.slice none 0 0,.slice none 0 0] 55)) bg #[.int .i64 0,.string ⟨#[]⟩,.string ⟨#[]⟩,.string ⟨#[]⟩,.slice none 0 0,.slice none 0 0] 55:=by rw[hbg];exact Blk.made _ _ _
  have hX3:=Ext.trans hE.out hA3;have HBG:=h! (show wd.heap.size<=bg from by have:=hE.out.size;omega);have HBK:=h! (HBK.out.ext hA3);have HR:=h! (show NtAt (fun x=>x≠bg/\wd.heap.size<=x/\x<(u3.alloc (.cells #[.int .i64 0,.string ⟨#[]⟩,.string ⟨#[]⟩,.string ⟨#[]⟩,.slice none 0 0,.slice none 0 0] 55)).heap.size) (u3.alloc (.cells #[.int .i64 0,.string ⟨#[]⟩,.string ⟨#[]⟩,.string ⟨#[]⟩,.slice none 0 0,.slice none 0 0] 55)) n (.slice so n.subs.length sc,.slice qo n.ps.length qc)from(HR.out.same fun x hx=>hA3.block x hx.2).mono fun x hx=>⟨fun e=>by have:=hx.2;omega,hx.1,Nat.lt_of_lt_of_le hx.2 hA3.size⟩);refine hK.out _ _ hX3 ?_;clear hK hbg hA3;generalize u3.alloc (.cells #[.int .i64 0,.string ⟨#[]⟩,.string ⟨#[]⟩,.string ⟨#[]⟩,.slice none 0 0,.slice none 0 0] 55)=u4 at *;have hE:=h! hX3;have HG:=h! hO3;clear hO3 hX3;rotate_left
  refine⟨_,(by simp only[gA,gS,gZ];rfl),by rfl,fun K hK=>?_⟩;go_simp;obtain⟨bg,hbg⟩:∃ x,x=u2.heap.size:=⟨_,rfl⟩;rw[<- hbg];have hA2:=Ext.alloc u2 (.cells #[.int .i64 0,.string ⟨#[]⟩,.string ⟨#[]⟩,.string ⟨#[]⟩,.slice none 0 0,.slice none 0 0] 55);have hO2:Blk (u2.alloc (.cells #[.int .i64 0,.string ⟨#[]⟩,.string ⟨#[]⟩,.string ⟨#[]⟩,.slice none 0 0,.slice none 0 0] 55)) bg #[.int .i64 0,.string ⟨#[]⟩,.string ⟨#[]⟩,.string ⟨#[]⟩,.slice none 0 0,.slice none 0 0] 55:=by rw[hbg];exact Blk.made _ _ _
  have hX2:=Ext.trans hE.out hA2;have HBG:=h! (show wd.heap.size<=bg from by have:=hE.out.size;omega);have HBK:=h! (HBK.out.ext hA2);refine hK.out _ _ hX2 ?_;clear hK hbg hA2;generalize u2.alloc (.cells #[.int .i64 0,.string ⟨#[]⟩,.string ⟨#[]⟩,.string ⟨#[]⟩,.slice none 0 0,.slice none 0 0] 55)=u3 at *;have hE:=h! hX2;have HG:=h! hO2;clear hO2 hX2;refine WalkN.one 6 (by kernel_rfl) ?_;refine⟨_,(by simp only[gA,gS,gZ];rfl),by rfl,fun K hK=>?_⟩;go_simp;refine(HWK.out u3 bk hE.out HBK.out).mono ?_;rintro e u4 ⟨hx3,n,so,sc,qo,qc,ev,hP3,rfl,hG3⟩;have hX3:=Ext.trans hE.out hx3;refine hK.out _ _ hX3 ?_;clear hK;have HR:=h! (show NtAt (fun x=>x≠bg/\wd.heap.size<=x/\x<u4.heap.size) u4 n (.slice so n.subs.length sc,.slice qo n.ps.length qc)from hG3.mono fun x hx=>⟨fun e=>by have:=HG.out.lt;have:=hx.1;omega,Nat.le_trans hE.out.size hx.1,hx.2⟩);have HG:=h! (HG.out.below hx3);have HP:=h! hP3;have HBK:=h! (HBK.out.ext hx3);have hE:=h! hX3;clear hx3 hX3 hP3 hG3;((refine WalkN.take 7 _ ?_ (by simp only[gA,gS,gZ];rfl) (by kernel_rfl) (by kernel_rfl) (by rfl) (fun W hW=>?_) ?_;rotate_left;· (go_simp;try with_reducible rfl));simp only[Act.put,pA,pZ,pS])
  ((refine WalkN.take 8 _ ?_ (by simp only[gA,gS,gZ];rfl) (by kernel_rfl) (by kernel_rfl) (by rfl) (fun W hW=>?_) ?_;rotate_left;· (go_simp;try with_reducible rfl));simp only[Act.put,pA,pZ,pS])
  ((refine WalkN.take 9 _ ?_ (by simp only[gA,gS,gZ];rfl) (by kernel_rfl) (by kernel_rfl) (by rfl) (fun W hW=>?_) ?_;rotate_left;· (go_simp;try with_reducible rfl));simp only[Act.put,pA,pZ,pS])
  rotate_left
  refine⟨_,(by simp only[gA,gS,gZ];rfl),by rfl,fun K hK=>?_⟩;go_simp;obtain⟨bg,hbg⟩:∃ x,x=u1.heap.size:=⟨_,rfl⟩;rw[<- hbg];have hA1:=Ext.alloc u1 (.cells #[.int .i64 0,.string ⟨#[]⟩,.string ⟨#[]⟩,.string ⟨#[]⟩,.slice none 0 0,.slice none 0 0] 55);have hO1:Blk (u1.alloc (.cells #[.int .i64 0,.string ⟨#[]⟩,.string ⟨#[]⟩,.string ⟨#[]⟩,.slice none 0 0,.slice none 0 0] 55)) bg #[.int .i64 0,.string ⟨#[]⟩,.string ⟨#[]⟩,.string ⟨#[]⟩,.slice none 0 0,.slice none 0 0] 55:=by rw[hbg];exact Blk.made _ _ _
  have hX1:=Ext.trans hE.out hA1;have HBG:=h! (show wd.heap.size<=bg from by have:=hE.out.size;omega);have HL:=h! (HL.out.up hA1);refine hK.out _ _ hX1 ?_;clear hK hbg hA1;generalize u1.alloc (.cells #[.int .i64 0,.string ⟨#[]⟩,.string ⟨#[]⟩,.string ⟨#[]⟩,.slice none 0 0,.slice none 0 0] 55)=u2 at *;have hE:=h! hX1;have HG:=h! hO1;clear hO1 hX1;refine WalkN.one 3 (by kernel_rfl) ?_;refine⟨_,(by simp only[gA,gS,gZ];rfl),by rfl,fun K hK=>?_⟩;go_simp;refine(HNB.out u2 gk hE.out HL.out).mono ?_;rintro e u3 ⟨bk,rfl,hB2,hx2⟩;have hX2:=Ext.trans hE.out hx2;refine hK.out _ _ hX2 ?_;clear hK;have HBK:=h! hB2;have HG:=h! (HG.out.below hx2);have hE:=h! hX2;clear hx2 hX2 hB2 HL;((refine WalkN.take 4 _ ?_ (by simp only[gA,gS,gZ];rfl) (by kernel_rfl) (by kernel_rfl) (by rfl) (fun W hW=>?_) ?_;rotate_left;· (go_simp;try with_reducible rfl));simp only[Act.put,pA,pZ,pS])
  refine WalkN.one 6 (by kernel_rfl) ?_;refine⟨_,(by simp only[gA,gS,gZ];rfl),by rfl,fun K hK=>?_⟩;go_simp;refine(HWK.out u3 bk hE.out HBK.out).mono ?_;rintro e u4 ⟨hx3,n,so,sc,qo,qc,ev,hP3,rfl,hG3⟩;have hX3:=Ext.trans hE.out hx3;refine hK.out _ _ hX3 ?_;clear hK;have HR:=h! (show NtAt (fun x=>x≠bg/\wd.heap.size<=x/\x<u4.heap.size) u4 n (.slice so n.subs.length sc,.slice qo n.ps.length qc)from hG3.mono fun x hx=>⟨fun e=>by have:=HG.out.lt;have:=hx.1;omega,Nat.le_trans hE.out.size hx.1,hx.2⟩);have HG:=h! (HG.out.below hx3);have HP:=h! hP3;have HBK:=h! (HBK.out.ext hx3);have hE:=h! hX3;clear hx3 hX3 hP3 hG3;((refine WalkN.take 7 _ ?_ (by simp only[gA,gS,gZ];rfl) (by kernel_rfl) (by kernel_rfl) (by rfl) (fun W hW=>?_) ?_;rotate_left;· (go_simp;try with_reducible rfl));simp only[Act.put,pA,pZ,pS])
  ((refine WalkN.take 8 _ ?_ (by simp only[gA,gS,gZ];rfl) (by kernel_rfl) (by kernel_rfl) (by rfl) (fun W hW=>?_) ?_;rotate_left;· (go_simp;try with_reducible rfl));simp only[Act.put,pA,pZ,pS])
  ((refine WalkN.take 9 _ ?_ (by simp only[gA,gS,gZ];rfl) (by kernel_rfl) (by kernel_rfl) (by rfl) (fun W hW=>?_) ?_;rotate_left;· (go_simp;try with_reducible rfl));simp only[Act.put,pA,pZ,pS])
  rotate_left
  refine⟨_,(by simp only[gA,gS,gZ];rfl),by rfl,fun K hK=>?_⟩;go_simp;obtain⟨bg,hbg⟩:∃ x,x=wd.heap.size:=⟨_,rfl⟩;rw[<- hbg];have hA0:=Ext.alloc wd (.cells #[.int .i64 0,.string ⟨#[]⟩,.string ⟨#[]⟩,.string ⟨#[]⟩,.slice none 0 0,.slice none 0 0] 55);have hO0:Blk (wd.alloc (.cells #[.int .i64 0,.string ⟨#[]⟩,.string ⟨#[]⟩,.string ⟨#[]⟩,.slice none 0 0,.slice none 0 0] 55)) bg #[.int .i64 0,.string ⟨#[]⟩,.string ⟨#[]⟩,.string ⟨#[]⟩,.slice none 0 0,.slice none 0 0] 55:=by rw[hbg];exact Blk.made _ _ _
  have hX0:=Ext.trans hE.out hA0;have HBG:=h! (show wd.heap.size<=bg from by have:=hE.out.size;omega);refine hK.out _ _ hX0 ?_;clear hK hbg hA0;generalize wd.alloc (.cells #[.int .i64 0,.string ⟨#[]⟩,.string ⟨#[]⟩,.string ⟨#[]⟩,.slice none 0 0,.slice none 0 0] 55)=u1 at *;have hE:=h! hX0;have HG:=h! hO0;clear hO0 hX0;refine WalkN.one 2 (by kernel_rfl) ?_;refine⟨_,(by simp only[gA,gS,gZ];rfl),by rfl,fun K hK=>?_⟩;go_simp;have hA1:=Ext.alloc u1 (.cells #[.string ⟨#[100,111,99]⟩,.string ⟨#[49]⟩,.string ⟨#[118,105,101,119,101,114]⟩,.string ⟨#[117,115,101,114]⟩,.string ⟨#[50]⟩,.string ⟨#[]⟩] 104);have hL1:Sl (fun b=>b<(u1.alloc (.cells #[.string ⟨#[100,111,99]⟩,.string ⟨#[49]⟩,.string ⟨#[118,105,101,119,101,114]⟩,.string ⟨#[117,115,101,114]⟩,.string ⟨#[50]⟩,.string ⟨#[]⟩] 104)).heap.size) (u1.alloc (.cells #[.string ⟨#[100,111,99]⟩,.string ⟨#[49]⟩,.string ⟨#[118,105,101,119,101,114]⟩,.string ⟨#[117,115,101,114]⟩,.string ⟨#[50]⟩,.string ⟨#[]⟩] 104)) 6 (.slice (some ⟨u1.heap.size,0,none⟩) 1 1) (tuCs l28):=Sl.made u1 _ 6 1 104 _ rfl (by decide) (by simp);have hX1:=Ext.trans hE.out hA1;obtain⟨gk,hgk⟩:∃ x,x=u1.heap.size:=⟨_,rfl⟩;rw[<- hgk]at hL1 ⊢;refine hK.out _ _ hX1 ?_;clear hK hgk;have HG:=h! (HG.out.below hA1);have HL:=h! hL1;have hE:=h! hX1;clear hA1 hL1 hX1;generalize u1.alloc (.cells #[.string ⟨#[100,111,99]⟩,.string ⟨#[49]⟩,.string ⟨#[118,105,101,119,101,114]⟩,.string ⟨#[117,115,101,114]⟩,.string ⟨#[50]⟩,.string ⟨#[]⟩] 104)=u2 at *;refine WalkN.one 3 (by kernel_rfl) ?_;refine⟨_,(by simp only[gA,gS,gZ];rfl),by rfl,fun K hK=>?_⟩;go_simp;refine(HNB.out u2 gk hE.out HL.out).mono ?_;rintro e u3 ⟨bk,rfl,hB2,hx2⟩;have hX2:=Ext.trans hE.out hx2;refine hK.out _ _ hX2 ?_;clear hK;have HBK:=h! hB2;have HG:=h! (HG.out.below hx2);have hE:=h! hX2;clear hx2 hX2 hB2 HL;((refine WalkN.take 4 _ ?_ (by simp only[gA,gS,gZ];rfl) (by kernel_rfl) (by kernel_rfl) (by rfl) (fun W hW=>?_) ?_;rotate_left;· (go_simp;try with_reducible rfl));simp only[Act.put,pA,pZ,pS])
  refine WalkN.one 6 (by kernel_rfl) ?_;refine⟨_,(by simp only[gA,gS,gZ];rfl),by rfl,fun K hK=>?_⟩;go_simp;refine(HWK.out u3 bk hE.out HBK.out).mono ?_;rintro e u4 ⟨hx3,n,so,sc,qo,qc,ev,hP3,rfl,hG3⟩;have hX3:=Ext.trans hE.out hx3;refine hK.out _ _ hX3 ?_;clear hK;have HR:=h! (show NtAt (fun x=>x≠bg/\wd.heap.size<=x/\x<u4.heap.size) u4 n (.slice so n.subs.length sc,.slice qo n.ps.length qc)from hG3.mono fun x hx=>⟨fun e=>by have:=HG.out.lt;have:=hx.1;omega,Nat.le_trans hE.out.size hx.1,hx.2⟩);have HG:=h! (HG.out.below hx3);have HP:=h! hP3;have HBK:=h! (HBK.out.ext hx3);have hE:=h! hX3;clear hx3 hX3 hP3 hG3;((refine WalkN.take 7 _ ?_ (by simp only[gA,gS,gZ];rfl) (by kernel_rfl) (by kernel_rfl) (by rfl) (fun W hW=>?_) ?_;rotate_left;· (go_simp;try with_reducible rfl));simp only[Act.put,pA,pZ,pS])
  ((refine WalkN.take 8 _ ?_ (by simp only[gA,gS,gZ];rfl) (by kernel_rfl) (by kernel_rfl) (by rfl) (fun W hW=>?_) ?_;rotate_left;· (go_simp;try with_reducible rfl));simp only[Act.put,pA,pZ,pS])
  ((refine WalkN.take 9 _ ?_ (by simp only[gA,gS,gZ];rfl) (by kernel_rfl) (by kernel_rfl) (by rfl) (fun W hW=>?_) ?_;rotate_left;· (go_simp;try with_reducible rfl));simp only[Act.put,pA,pZ,pS])
  rotate_left
  all_goals
   refine WalkN.one 11 (by kernel_rfl) ?_;refine⟨_,(by simp only[gA,gS,gZ];rfl),by rfl,fun K hK=>?_⟩;have hg:=HG.out.cells;have hf:=HG.out.free;go_simp;have hS4:=((((((HG.out.set_to (cs':=#[.int .i64 n.k,.string ⟨#[]⟩,.string ⟨#[]⟩,.string ⟨#[]⟩,.slice none 0 0,.slice none 0 0]) 0 (.int .i64 n.k) rfl).set_to (cs':=#[.int .i64 n.k,.string n.p.t,.string ⟨#[]⟩,.string ⟨#[]⟩,.slice none 0 0,.slice none 0 0]) 1 (.string n.p.t) rfl).set_to (cs':=#[.int .i64 n.k,.string n.p.t,.string n.p.i,.string ⟨#[]⟩,.slice none 0 0,.slice none 0 0]) 2 (.string n.p.i) rfl).set_to (cs':=#[.int .i64 n.k,.string n.p.t,.string n.p.i,.string n.p.r,.slice none 0 0,.slice none 0 0]) 3 (.string n.p.r) rfl).set_to (cs':=#[.int .i64 n.k,.string n.p.t,.string n.p.i,.string n.p.r,.slice so n.subs.length sc,.slice none 0 0]) 4 (.slice so n.subs.length sc) rfl).set_to (cs':=#[.int .i64 n.k,.string n.p.t,.string n.p.i,.string n.p.r,.slice so n.subs.length sc,.slice qo n.ps.length qc]) 5 (.slice qo n.ps.length qc) rfl);have hX4:Ext wd ((((((u4.setCell ⟨bg,0,none⟩ (.int .i64 n.k)).setCell ⟨bg,1,none⟩ (.string n.p.t)).setCell ⟨bg,2,none⟩ (.string n.p.i)).setCell ⟨bg,3,none⟩ (.string n.p.r)).setCell ⟨bg,4,none⟩ (.slice so n.subs.length sc)).setCell ⟨bg,5,none⟩ (.slice qo n.ps.length qc)):=Ext.put6 hE.out HBG.out _ _ _ _ _ _;have hR4:=(HR.out.same (w':=((((((u4.setCell ⟨bg,0,none⟩ (.int .i64 n.k)).setCell ⟨bg,1,none⟩ (.string n.p.t)).setCell ⟨bg,2,none⟩ (.string n.p.i)).setCell ⟨bg,3,none⟩ (.string n.p.r)).setCell ⟨bg,4,none⟩ (.slice so n.subs.length sc)).setCell ⟨bg,5,none⟩ (.slice qo n.ps.length qc))) fun x hx=>put6_other _ _ _ _ _ _ hx.1).mono (S':=fun x=>x≠bg/\wd.heap.size<=x/\x<((((((u4.setCell ⟨bg,0,none⟩ (.int .i64 n.k)).setCell ⟨bg,1,none⟩ (.string n.p.t)).setCell ⟨bg,2,none⟩ (.string n.p.i)).setCell ⟨bg,3,none⟩ (.string n.p.r)).setCell ⟨bg,4,none⟩ (.slice so n.subs.length sc)).setCell ⟨bg,5,none⟩ (.slice qo n.ps.length qc)).heap.size) fun x hx=>⟨hx.1,hx.2.1,by simpa using hx.2.2⟩;refine hK.out _ _ hX4 ?_;clear hK hg hf;generalize (((((u4.setCell ⟨bg,0,none⟩ (.int .i64 n.k)).setCell ⟨bg,1,none⟩ (.string n.p.t)).setCell ⟨bg,2,none⟩ (.string n.p.i)).setCell ⟨bg,3,none⟩ (.string n.p.r)).setCell ⟨bg,4,none⟩ (.slice so n.subs.length sc)).setCell ⟨bg,5,none⟩ (.slice qo n.ps.length qc)=u5 at *;((refine WalkN.take 12 _ ?_ (by simp only[gA,gS,gZ];rfl) (by kernel_rfl) (by kernel_rfl) (by rfl) (fun W hW=>?_) ?_;rotate_left;· (go_simp;try with_reducible rfl));simp only[Act.put,pA,pZ,pS])
   refine WalkN.done (by kernel_rfl) ?_;exact⟨rfl,gk,bk,bg,so,sc,qo,qc,n,ev,rfl,HP.out,hX4,HBG.out,hS4,hR4⟩
 rintro e _ W5 ⟨rfl,gk5,bk5,bg5,so5,sc5,qo5,qc5,n5,ev5,rfl,hP,hX,hbg,hblk,hgr⟩;try dsimp only
 have X5:=h! (show Ext w4 W5 from Ext.trans hxd.out hX);rcases hP with⟨-,rfl,rfl⟩ | ⟨hl,-⟩
 case inr=>rw[one28]at hl;exact absurd hl (by decide)
 rw[one28]at hblk hgr;rw[one28];have B5:=h! (show Blk W5 bg5 #[.int .i64 1,.string ⟨#[100,111,99]⟩,.string ⟨#[49]⟩,.string ⟨#[118,105,101,119,101,114]⟩,.slice so5 1 sc5,.slice qo5 0 qc5] 55 from hblk)
 obtain⟨b0,o0,rfl,d0,d1,d2⟩:∃ b o,so5=some ⟨b,o,none⟩/\W5.cell? ⟨b,o,none⟩=some (.string ⟨#[117,115,101,114]⟩)/\W5.cell? ⟨b,o+1,none⟩=some (.string ⟨#[50]⟩)/\W5.cell? ⟨b,o+2,none⟩=some (.string ⟨#[]⟩):=by
  obtain⟨_,_,e,-,-,hc⟩:=Sl.rows pC_length (by decide) (show Sl _ W5 3 (.slice so5 1 sc5) ([u28].flatMap pC)from((NtAt.iff _ _).1 hgr).1);obtain⟨b,o,rfl,-,hc⟩:=hc (by simp);cases e;exact⟨b,o,rfl,by simpa [u28,usB] using hc 0 (by simp) 0 _ rfl,by simpa [u28,usB] using hc 0 (by simp) 1 _ rfl,by simpa [u28,usB] using hc 0 (by simp) 2 _ rfl⟩
 have D5:=h! (And.intro d0 (And.intro d1 d2));clear hX hxd hwd hblk hgr hbg d0 d1 d2;go_wp2_with fail
 obtain⟨wd,hwd⟩:∃ wd,Hid (wd=W5.drew):=⟨_,h! rfl⟩;have hxd:=h! (show Ext W5 wd from by rw[hwd.out];exact Ext.drew _);apply Code.wp_mono (Q:=JoinN (β:=Nat) wd (TreeP ts28 l28 [] p28 0 9 (.int .i64 0) (.int .i64 10)) _) ?rest6 ?reg6
 case reg6 =>
  have hE:=h! (Ext.refl wd);refine region_walkN (Ext wd) (by rw[<- hwd.out];exact Ext.refl _) (by kernel_rfl) (by kernel_rfl) (fun _ _ d _ _ h=>by cases h.1) ?_;rw[<- hwd.out];have HNB:=h! (fun W gk (hW:Ext wd W) (hL:Sl (· < W.heap.size) W 6 (.slice (some ⟨gk,0,none⟩) 1 1) (tuCs l28))=>bookT_any set28 (.slice (some ⟨gk,0,none⟩) 1 1) W hL (by decide) ok28l);have HWK:=h! (fun W b (hW:Ext wd W) (hB:BookAt W b l28)=>treeG_any ts28 (.slice aot 2 ct) b l28 [] (.slice none 0 0) p28 0 9 W (HT4.out W (Ext.trans X5.out (Ext.trans hxd.out hW))) arg28 hB (Sl.nil _ _ _) (by decide) (by decide));have hs:=fun W (h:Ext wd W)=>(HS4.out W (Ext.trans X5.out (Ext.trans hxd.out h))).cells;have hp:=fun W (h:Ext wd W)=>(HP4.out W (Ext.trans X5.out (Ext.trans hxd.out h))).cells;have ht:=fun W (h:Ext wd W)=>(HU4.out W (Ext.trans X5.out (Ext.trans hxd.out h))).cells;unfold pV at HWK;dsimp only[p28,docB,viB]at HWK;(refine WalkN.tk [0,1,5] ?_;(iterate 3 ((refine TkN.c _ ?_ (by simp only[gA,gS,gZ];rfl) (by kernel_rfl) (by kernel_rfl) (by rfl) (fun W hW=>?_) ?_;rotate_left;· (go_simp;try with_reducible rfl));simp only[Act.put,pA,pZ,pS]));refine TkN.n ?_)
  clear hs hp ht;refine WalkN.two 2 10 (by kernel_rfl) ?_ ?_;refine⟨_,(by simp only[gA,gS,gZ];rfl),by rfl,fun K hK=>?_⟩;go_simp;have hA0:=Ext.alloc wd (.cells #[.string ⟨#[100,111,99]⟩,.string ⟨#[49]⟩,.string ⟨#[118,105,101,119,101,114]⟩,.string ⟨#[117,115,101,114]⟩,.string ⟨#[50]⟩,.string ⟨#[]⟩] 104);have hL0:Sl (fun b=>b<(wd.alloc (.cells #[.string ⟨#[100,111,99]⟩,.string ⟨#[49]⟩,.string ⟨#[118,105,101,119,101,114]⟩,.string ⟨#[117,115,101,114]⟩,.string ⟨#[50]⟩,.string ⟨#[]⟩] 104)).heap.size) (wd.alloc (.cells #[.string ⟨#[100,111,99]⟩,.string ⟨#[49]⟩,.string ⟨#[118,105,101,119,101,114]⟩,.string ⟨#[117,115,101,114]⟩,.string ⟨#[50]⟩,.string ⟨#[]⟩] 104)) 6 (.slice (some ⟨wd.heap.size,0,none⟩) 1 1) (tuCs l28):=Sl.made wd _ 6 1 104 _ rfl (by decide) (by simp);have hX0:=Ext.trans hE.out hA0;obtain⟨gk,hgk⟩:∃ x,x=wd.heap.size:=⟨_,rfl⟩;rw[<- hgk]at hL0 ⊢;refine hK.out _ _ hX0 ?_;clear hK hgk;have HL:=h! hL0;have hE:=h! hX0;clear hA0 hL0 hX0;generalize wd.alloc (.cells #[.string ⟨#[100,111,99]⟩,.string ⟨#[49]⟩,.string ⟨#[118,105,101,119,101,114]⟩,.string ⟨#[117,115,101,114]⟩,.string ⟨#[50]⟩,.string ⟨#[]⟩] 104)=u1 at *;refine WalkN.two 3 10 (by kernel_rfl) ?_ ?_;refine⟨_,(by simp only[gA,gS,gZ];rfl),by rfl,fun K hK=>?_⟩;go_simp;refine(HNB.out u1 gk hE.out HL.out).mono ?_;rintro e u2 ⟨bk,rfl,hB1,hx1⟩;have hX1:=Ext.trans hE.out hx1;refine hK.out _ _ hX1 ?_;clear hK;have HBK:=h! hB1;have hE:=h! hX1;clear hx1 hX1 hB1 HL;((refine WalkN.take 4 _ ?_ (by simp only[gA,gS,gZ];rfl) (by kernel_rfl) (by kernel_rfl) (by rfl) (fun W hW=>?_) ?_;rotate_left;· (go_simp;try with_reducible rfl));simp only[Act.put,pA,pZ,pS])
  refine WalkN.two 6 10 (by kernel_rfl) ?_ ?_;refine⟨_,(by simp only[gA,gS,gZ];rfl),by rfl,fun K hK=>?_⟩;go_simp;refine(HWK.out u2 bk hE.out HBK.out).mono ?_;rintro e u3 ⟨hx2,n,so,sc,qo,qc,ev,hP2,rfl,hG2⟩;have hX2:=Ext.trans hE.out hx2;refine hK.out _ _ hX2 ?_;clear hK;have HR:=h! (show NtAt (fun x=>wd.heap.size<=x/\x<u3.heap.size) u3 n (.slice so n.subs.length sc,.slice qo n.ps.length qc)from hG2.mono fun x hx=>⟨Nat.le_trans hE.out.size hx.1,hx.2⟩);have HP:=h! hP2;have HBK:=h! (HBK.out.ext hx2);have hE:=h! hX2;clear hx2 hX2 hP2 hG2;((refine WalkN.take 7 _ ?_ (by simp only[gA,gS,gZ];rfl) (by kernel_rfl) (by kernel_rfl) (by rfl) (fun W hW=>?_) ?_;rotate_left;· (go_simp;try with_reducible rfl));simp only[Act.put,pA,pZ,pS])
  ((refine WalkN.take 8 _ ?_ (by simp only[gA,gS,gZ];rfl) (by kernel_rfl) (by kernel_rfl) (by rfl) (fun W hW=>?_) ?_;rotate_left;· (go_simp;try with_reducible rfl));simp only[Act.put,pA,pZ,pS])
  ((refine WalkN.take 9 _ ?_ (by simp only[gA,gS,gZ];rfl) (by kernel_rfl) (by kernel_rfl) (by rfl) (fun W hW=>?_) ?_;rotate_left;· (go_simp;try with_reducible rfl));simp only[Act.put,pA,pZ,pS])
  refine WalkN.one 10 (by kernel_rfl) ?_;refine⟨_,(by simp only[gA,gS,gZ];rfl),by rfl,fun K hK=>?_⟩;go_simp;obtain⟨bg,hbg⟩:∃ x,x=u3.heap.size:=⟨_,rfl⟩;rw[<- hbg];have hA3:=Ext.alloc u3 (.cells #[.int .i64 0,.string ⟨#[]⟩,.string ⟨#[]⟩,.string ⟨#[]⟩,.slice none 0 0,.slice none 0 0] 55);have hO3:Blk (u3.alloc (.cells #[.int .i64 0,.string ⟨#[]⟩,.string ⟨#[]⟩,.string ⟨#[]⟩,.slice none 0 0,.slice none 0 0] 55)) bg #[.int .i64 0,.string ⟨#[]⟩,.string ⟨#[]⟩,.string ⟨#[]⟩,.slice none 0 0,.slice none 0 0] 55:=by rw[hbg];exact Blk.made _ _ _
  have hX3:=Ext.trans hE.out hA3;have HBG:=h! (show wd.heap.size<=bg from by have:=hE.out.size;omega);have HBK:=h! (HBK.out.ext hA3);have HR:=h! (show NtAt (fun x=>x≠bg/\wd.heap.size<=x/\x<(u3.alloc (.cells #[.int .i64 0,.string ⟨#[]⟩,.string ⟨#[]⟩,.string ⟨#[]⟩,.slice none 0 0,.slice none 0 0] 55)).heap.size) (u3.alloc (.cells #[.int .i64 0,.string ⟨#[]⟩,.string ⟨#[]⟩,.string ⟨#[]⟩,.slice none 0 0,.slice none 0 0] 55)) n (.slice so n.subs.length sc,.slice qo n.ps.length qc)from(HR.out.same fun x hx=>hA3.block x hx.2).mono fun x hx=>⟨fun e=>by have:=hx.2;omega,hx.1,Nat.lt_of_lt_of_le hx.2 hA3.size⟩);refine hK.out _ _ hX3 ?_;clear hK hbg hA3;generalize u3.alloc (.cells #[.int .i64 0,.string ⟨#[]⟩,.string ⟨#[]⟩,.string ⟨#[]⟩,.slice none 0 0,.slice none 0 0] 55)=u4 at *;have hE:=h! hX3;have HG:=h! hO3;clear hO3 hX3;rotate_left
  refine⟨_,(by simp only[gA,gS,gZ];rfl),by rfl,fun K hK=>?_⟩;go_simp;obtain⟨bg,hbg⟩:∃ x,x=u2.heap.size:=⟨_,rfl⟩;rw[<- hbg];have hA2:=Ext.alloc u2 (.cells #[.int .i64 0,.string ⟨#[]⟩,.string ⟨#[]⟩,.string ⟨#[]⟩,.slice none 0 0,.slice none 0 0] 55);have hO2:Blk (u2.alloc (.cells #[.int .i64 0,.string ⟨#[]⟩,.string ⟨#[]⟩,.string ⟨#[]⟩,.slice none 0 0,.slice none 0 0] 55)) bg #[.int .i64 0,.string ⟨#[]⟩,.string ⟨#[]⟩,.string ⟨#[]⟩,.slice none 0 0,.slice none 0 0] 55:=by rw[hbg];exact Blk.made _ _ _
  have hX2:=Ext.trans hE.out hA2;have HBG:=h! (show wd.heap.size<=bg from by have:=hE.out.size;omega);have HBK:=h! (HBK.out.ext hA2);refine hK.out _ _ hX2 ?_;clear hK hbg hA2;generalize u2.alloc (.cells #[.int .i64 0,.string ⟨#[]⟩,.string ⟨#[]⟩,.string ⟨#[]⟩,.slice none 0 0,.slice none 0 0] 55)=u3 at *;have hE:=h! hX2;have HG:=h! hO2;clear hO2 hX2;refine WalkN.one 6 (by kernel_rfl) ?_;refine⟨_,(by simp only[gA,gS,gZ];rfl),by rfl,fun K hK=>?_⟩;go_simp;refine(HWK.out u3 bk hE.out HBK.out).mono ?_;rintro e u4 ⟨hx3,n,so,sc,qo,qc,ev,hP3,rfl,hG3⟩;have hX3:=Ext.trans hE.out hx3;refine hK.out _ _ hX3 ?_;clear hK;have HR:=h! (show NtAt (fun x=>x≠bg/\wd.heap.size<=x/\x<u4.heap.size) u4 n (.slice so n.subs.length sc,.slice qo n.ps.length qc)from hG3.mono fun x hx=>⟨fun e=>by have:=HG.out.lt;have:=hx.1;omega,Nat.le_trans hE.out.size hx.1,hx.2⟩);have HG:=h! (HG.out.below hx3);have HP:=h! hP3;have HBK:=h! (HBK.out.ext hx3);have hE:=h! hX3;clear hx3 hX3 hP3 hG3;((refine WalkN.take 7 _ ?_ (by simp only[gA,gS,gZ];rfl) (by kernel_rfl) (by kernel_rfl) (by rfl) (fun W hW=>?_) ?_;rotate_left;· (go_simp;try with_reducible rfl));simp only[Act.put,pA,pZ,pS])
  ((refine WalkN.take 8 _ ?_ (by simp only[gA,gS,gZ];rfl) (by kernel_rfl) (by kernel_rfl) (by rfl) (fun W hW=>?_) ?_;rotate_left;· (go_simp;try with_reducible rfl));simp only[Act.put,pA,pZ,pS])
  ((refine WalkN.take 9 _ ?_ (by simp only[gA,gS,gZ];rfl) (by kernel_rfl) (by kernel_rfl) (by rfl) (fun W hW=>?_) ?_;rotate_left;· (go_simp;try with_reducible rfl));simp only[Act.put,pA,pZ,pS])
  rotate_left
  refine⟨_,(by simp only[gA,gS,gZ];rfl),by rfl,fun K hK=>?_⟩;go_simp;obtain⟨bg,hbg⟩:∃ x,x=u1.heap.size:=⟨_,rfl⟩;rw[<- hbg];have hA1:=Ext.alloc u1 (.cells #[.int .i64 0,.string ⟨#[]⟩,.string ⟨#[]⟩,.string ⟨#[]⟩,.slice none 0 0,.slice none 0 0] 55);have hO1:Blk (u1.alloc (.cells #[.int .i64 0,.string ⟨#[]⟩,.string ⟨#[]⟩,.string ⟨#[]⟩,.slice none 0 0,.slice none 0 0] 55)) bg #[.int .i64 0,.string ⟨#[]⟩,.string ⟨#[]⟩,.string ⟨#[]⟩,.slice none 0 0,.slice none 0 0] 55:=by rw[hbg];exact Blk.made _ _ _
  have hX1:=Ext.trans hE.out hA1;have HBG:=h! (show wd.heap.size<=bg from by have:=hE.out.size;omega);have HL:=h! (HL.out.up hA1);refine hK.out _ _ hX1 ?_;clear hK hbg hA1;generalize u1.alloc (.cells #[.int .i64 0,.string ⟨#[]⟩,.string ⟨#[]⟩,.string ⟨#[]⟩,.slice none 0 0,.slice none 0 0] 55)=u2 at *;have hE:=h! hX1;have HG:=h! hO1;clear hO1 hX1;refine WalkN.one 3 (by kernel_rfl) ?_;refine⟨_,(by simp only[gA,gS,gZ];rfl),by rfl,fun K hK=>?_⟩;go_simp;refine(HNB.out u2 gk hE.out HL.out).mono ?_;rintro e u3 ⟨bk,rfl,hB2,hx2⟩;have hX2:=Ext.trans hE.out hx2;refine hK.out _ _ hX2 ?_;clear hK;have HBK:=h! hB2;have HG:=h! (HG.out.below hx2);have hE:=h! hX2;clear hx2 hX2 hB2 HL;((refine WalkN.take 4 _ ?_ (by simp only[gA,gS,gZ];rfl) (by kernel_rfl) (by kernel_rfl) (by rfl) (fun W hW=>?_) ?_;rotate_left;· (go_simp;try with_reducible rfl));simp only[Act.put,pA,pZ,pS])
  refine WalkN.one 6 (by kernel_rfl) ?_;refine⟨_,(by simp only[gA,gS,gZ];rfl),by rfl,fun K hK=>?_⟩;go_simp;refine(HWK.out u3 bk hE.out HBK.out).mono ?_;rintro e u4 ⟨hx3,n,so,sc,qo,qc,ev,hP3,rfl,hG3⟩;have hX3:=Ext.trans hE.out hx3;refine hK.out _ _ hX3 ?_;clear hK;have HR:=h! (show NtAt (fun x=>x≠bg/\wd.heap.size<=x/\x<u4.heap.size) u4 n (.slice so n.subs.length sc,.slice qo n.ps.length qc)from hG3.mono fun x hx=>⟨fun e=>by have:=HG.out.lt;have:=hx.1;omega,Nat.le_trans hE.out.size hx.1,hx.2⟩);have HG:=h! (HG.out.below hx3);have HP:=h! hP3;have HBK:=h! (HBK.out.ext hx3);have hE:=h! hX3;clear hx3 hX3 hP3 hG3;((refine WalkN.take 7 _ ?_ (by simp only[gA,gS,gZ];rfl) (by kernel_rfl) (by kernel_rfl) (by rfl) (fun W hW=>?_) ?_;rotate_left;· (go_simp;try with_reducible rfl));simp only[Act.put,pA,pZ,pS])
  ((refine WalkN.take 8 _ ?_ (by simp only[gA,gS,gZ];rfl) (by kernel_rfl) (by kernel_rfl) (by rfl) (fun W hW=>?_) ?_;rotate_left;· (go_simp;try with_reducible rfl));simp only[Act.put,pA,pZ,pS])
  ((refine WalkN.take 9 _ ?_ (by simp only[gA,gS,gZ];rfl) (by kernel_rfl) (by kernel_rfl) (by rfl) (fun W hW=>?_) ?_;rotate_left;· (go_simp;try with_reducible rfl));simp only[Act.put,pA,pZ,pS])
  rotate_left
  refine⟨_,(by simp only[gA,gS,gZ];rfl),by rfl,fun K hK=>?_⟩;go_simp;obtain⟨bg,hbg⟩:∃ x,x=wd.heap.size:=⟨_,rfl⟩;rw[<- hbg];have hA0:=Ext.alloc wd (.cells #[.int .i64 0,.string ⟨#[]⟩,.string ⟨#[]⟩,.string ⟨#[]⟩,.slice none 0 0,.slice none 0 0] 55);have hO0:Blk (wd.alloc (.cells #[.int .i64 0,.string ⟨#[]⟩,.string ⟨#[]⟩,.string ⟨#[]⟩,.slice none 0 0,.slice none 0 0] 55)) bg #[.int .i64 0,.string ⟨#[]⟩,.string ⟨#[]⟩,.string ⟨#[]⟩,.slice none 0 0,.slice none 0 0] 55:=by rw[hbg];exact Blk.made _ _ _
  have hX0:=Ext.trans hE.out hA0;have HBG:=h! (show wd.heap.size<=bg from by have:=hE.out.size;omega);refine hK.out _ _ hX0 ?_;clear hK hbg hA0;generalize wd.alloc (.cells #[.int .i64 0,.string ⟨#[]⟩,.string ⟨#[]⟩,.string ⟨#[]⟩,.slice none 0 0,.slice none 0 0] 55)=u1 at *;have hE:=h! hX0;have HG:=h! hO0;clear hO0 hX0;refine WalkN.one 2 (by kernel_rfl) ?_;refine⟨_,(by simp only[gA,gS,gZ];rfl),by rfl,fun K hK=>?_⟩;go_simp;have hA1:=Ext.alloc u1 (.cells #[.string ⟨#[100,111,99]⟩,.string ⟨#[49]⟩,.string ⟨#[118,105,101,119,101,114]⟩,.string ⟨#[117,115,101,114]⟩,.string ⟨#[50]⟩,.string ⟨#[]⟩] 104);have hL1:Sl (fun b=>b<(u1.alloc (.cells #[.string ⟨#[100,111,99]⟩,.string ⟨#[49]⟩,.string ⟨#[118,105,101,119,101,114]⟩,.string ⟨#[117,115,101,114]⟩,.string ⟨#[50]⟩,.string ⟨#[]⟩] 104)).heap.size) (u1.alloc (.cells #[.string ⟨#[100,111,99]⟩,.string ⟨#[49]⟩,.string ⟨#[118,105,101,119,101,114]⟩,.string ⟨#[117,115,101,114]⟩,.string ⟨#[50]⟩,.string ⟨#[]⟩] 104)) 6 (.slice (some ⟨u1.heap.size,0,none⟩) 1 1) (tuCs l28):=Sl.made u1 _ 6 1 104 _ rfl (by decide) (by simp);have hX1:=Ext.trans hE.out hA1;obtain⟨gk,hgk⟩:∃ x,x=u1.heap.size:=⟨_,rfl⟩;rw[<- hgk]at hL1 ⊢;refine hK.out _ _ hX1 ?_;clear hK hgk;have HG:=h! (HG.out.below hA1);have HL:=h! hL1;have hE:=h! hX1;clear hA1 hL1 hX1;generalize u1.alloc (.cells #[.string ⟨#[100,111,99]⟩,.string ⟨#[49]⟩,.string ⟨#[118,105,101,119,101,114]⟩,.string ⟨#[117,115,101,114]⟩,.string ⟨#[50]⟩,.string ⟨#[]⟩] 104)=u2 at *;refine WalkN.one 3 (by kernel_rfl) ?_;refine⟨_,(by simp only[gA,gS,gZ];rfl),by rfl,fun K hK=>?_⟩;go_simp;refine(HNB.out u2 gk hE.out HL.out).mono ?_;rintro e u3 ⟨bk,rfl,hB2,hx2⟩;have hX2:=Ext.trans hE.out hx2;refine hK.out _ _ hX2 ?_;clear hK;have HBK:=h! hB2;have HG:=h! (HG.out.below hx2);have hE:=h! hX2;clear hx2 hX2 hB2 HL;((refine WalkN.take 4 _ ?_ (by simp only[gA,gS,gZ];rfl) (by kernel_rfl) (by kernel_rfl) (by rfl) (fun W hW=>?_) ?_;rotate_left;· (go_simp;try with_reducible rfl));simp only[Act.put,pA,pZ,pS])
  refine WalkN.one 6 (by kernel_rfl) ?_;refine⟨_,(by simp only[gA,gS,gZ];rfl),by rfl,fun K hK=>?_⟩;go_simp;refine(HWK.out u3 bk hE.out HBK.out).mono ?_;rintro e u4 ⟨hx3,n,so,sc,qo,qc,ev,hP3,rfl,hG3⟩;have hX3:=Ext.trans hE.out hx3;refine hK.out _ _ hX3 ?_;clear hK;have HR:=h! (show NtAt (fun x=>x≠bg/\wd.heap.size<=x/\x<u4.heap.size) u4 n (.slice so n.subs.length sc,.slice qo n.ps.length qc)from hG3.mono fun x hx=>⟨fun e=>by have:=HG.out.lt;have:=hx.1;omega,Nat.le_trans hE.out.size hx.1,hx.2⟩);have HG:=h! (HG.out.below hx3);have HP:=h! hP3;have HBK:=h! (HBK.out.ext hx3);have hE:=h! hX3;clear hx3 hX3 hP3 hG3;((refine WalkN.take 7 _ ?_ (by simp only[gA,gS,gZ];rfl) (by kernel_rfl) (by kernel_rfl) (by rfl) (fun W hW=>?_) ?_;rotate_left;· (go_simp;try with_reducible rfl));simp only[Act.put,pA,pZ,pS])
  ((refine WalkN.take 8 _ ?_ (by simp only[gA,gS,gZ];rfl) (by kernel_rfl) (by kernel_rfl) (by rfl) (fun W hW=>?_) ?_;rotate_left;· (go_simp;try with_reducible rfl));simp only[Act.put,pA,pZ,pS])
  ((refine WalkN.take 9 _ ?_ (by simp only[gA,gS,gZ];rfl) (by kernel_rfl) (by kernel_rfl) (by rfl) (fun W hW=>?_) ?_;rotate_left;· (go_simp;try with_reducible rfl));simp only[Act.put,pA,pZ,pS])
  rotate_left
  all_goals
   refine WalkN.one 11 (by kernel_rfl) ?_;refine⟨_,(by simp only[gA,gS,gZ];rfl),by rfl,fun K hK=>?_⟩;have hg:=HG.out.cells;have hf:=HG.out.free;go_simp;have hS4:=((((((HG.out.set_to (cs':=#[.int .i64 n.k,.string ⟨#[]⟩,.string ⟨#[]⟩,.string ⟨#[]⟩,.slice none 0 0,.slice none 0 0]) 0 (.int .i64 n.k) rfl).set_to (cs':=#[.int .i64 n.k,.string n.p.t,.string ⟨#[]⟩,.string ⟨#[]⟩,.slice none 0 0,.slice none 0 0]) 1 (.string n.p.t) rfl).set_to (cs':=#[.int .i64 n.k,.string n.p.t,.string n.p.i,.string ⟨#[]⟩,.slice none 0 0,.slice none 0 0]) 2 (.string n.p.i) rfl).set_to (cs':=#[.int .i64 n.k,.string n.p.t,.string n.p.i,.string n.p.r,.slice none 0 0,.slice none 0 0]) 3 (.string n.p.r) rfl).set_to (cs':=#[.int .i64 n.k,.string n.p.t,.string n.p.i,.string n.p.r,.slice so n.subs.length sc,.slice none 0 0]) 4 (.slice so n.subs.length sc) rfl).set_to (cs':=#[.int .i64 n.k,.string n.p.t,.string n.p.i,.string n.p.r,.slice so n.subs.length sc,.slice qo n.ps.length qc]) 5 (.slice qo n.ps.length qc) rfl);have hX4:Ext wd ((((((u4.setCell ⟨bg,0,none⟩ (.int .i64 n.k)).setCell ⟨bg,1,none⟩ (.string n.p.t)).setCell ⟨bg,2,none⟩ (.string n.p.i)).setCell ⟨bg,3,none⟩ (.string n.p.r)).setCell ⟨bg,4,none⟩ (.slice so n.subs.length sc)).setCell ⟨bg,5,none⟩ (.slice qo n.ps.length qc)):=Ext.put6 hE.out HBG.out _ _ _ _ _ _;have hR4:=(HR.out.same (w':=((((((u4.setCell ⟨bg,0,none⟩ (.int .i64 n.k)).setCell ⟨bg,1,none⟩ (.string n.p.t)).setCell ⟨bg,2,none⟩ (.string n.p.i)).setCell ⟨bg,3,none⟩ (.string n.p.r)).setCell ⟨bg,4,none⟩ (.slice so n.subs.length sc)).setCell ⟨bg,5,none⟩ (.slice qo n.ps.length qc))) fun x hx=>put6_other _ _ _ _ _ _ hx.1).mono (S':=fun x=>x≠bg/\wd.heap.size<=x/\x<((((((u4.setCell ⟨bg,0,none⟩ (.int .i64 n.k)).setCell ⟨bg,1,none⟩ (.string n.p.t)).setCell ⟨bg,2,none⟩ (.string n.p.i)).setCell ⟨bg,3,none⟩ (.string n.p.r)).setCell ⟨bg,4,none⟩ (.slice so n.subs.length sc)).setCell ⟨bg,5,none⟩ (.slice qo n.ps.length qc)).heap.size) fun x hx=>⟨hx.1,hx.2.1,by simpa using hx.2.2⟩;refine hK.out _ _ hX4 ?_;clear hK hg hf;generalize (((((u4.setCell ⟨bg,0,none⟩ (.int .i64 n.k)).setCell ⟨bg,1,none⟩ (.string n.p.t)).setCell ⟨bg,2,none⟩ (.string n.p.i)).setCell ⟨bg,3,none⟩ (.string n.p.r)).setCell ⟨bg,4,none⟩ (.slice so n.subs.length sc)).setCell ⟨bg,5,none⟩ (.slice qo n.ps.length qc)=u5 at *;((refine WalkN.take 12 _ ?_ (by simp only[gA,gS,gZ];rfl) (by kernel_rfl) (by kernel_rfl) (by rfl) (fun W hW=>?_) ?_;rotate_left;· (go_simp;try with_reducible rfl));simp only[Act.put,pA,pZ,pS])
   refine WalkN.done (by kernel_rfl) ?_;exact⟨rfl,gk,bk,bg,so,sc,qo,qc,n,ev,rfl,HP.out,hX4,HBG.out,hS4,hR4⟩
 rintro e _ W6 ⟨rfl,gk6,bk6,bg6,so6,sc6,qo6,qc6,n6,ev6,rfl,hP,hX,hbg,hblk,hgr⟩;try dsimp only
 have X56:=h! (show Ext W5 W6 from Ext.trans hxd.out hX);rcases hP with⟨-,rfl,rfl⟩ | ⟨hl,-⟩
 case inr=>rw[cut28]at hl;exact absurd hl (by decide)
 rw[cut28]at hblk hgr;rw[cut28];have B6:=h! (show Blk W6 bg6 #[.int .i64 0,.string ⟨#[100,111,99]⟩,.string ⟨#[49]⟩,.string ⟨#[118,105,101,119,101,114]⟩,.slice so6 0 sc6,.slice qo6 0 qc6] 55 from hblk);have N6:=h! (show NtAt (· < W6.heap.size) W6 (.mk 0 p28 [] []) (.slice so6 0 sc6,.slice qo6 0 qc6)from hgr.mono fun x hx=>hx.2.2);have B5:=h! (B5.out.below X56.out);have D5:=h! (And.intro (X56.out.cell D5.out.1) (And.intro (X56.out.cell D5.out.2.1) (X56.out.cell D5.out.2.2)));have X6:=h! (show Ext w4 W6 from Ext.trans X5.out X56.out);clear hX hxd hwd hblk hgr hbg X56 X5;have HNI:=h! (treeNil_any ts28 (.slice aot 2 ct) (.slice none 0 0) p28 (.int .i64 0) 9 W6 (HT4.out W6 X6.out) arg28.ok arg28.chk arg28.sb arg28.sz arg28.names arg28.refs);unfold pV at HNI;dsimp only[p28,docB,viB]at HNI;have hs:=(HS4.out W6 X6.out).cells;have hp:=(HP4.out W6 X6.out).cells;go_wp2_with fail
 refine HNI.out.mono ?_;rintro e W7 ⟨hx7,rfl⟩;obtain⟨W8,hW8⟩:∃ y,y=W7.alloc (.cells #[.int .i64 0,.string ⟨#[]⟩,.string ⟨#[]⟩,.string ⟨#[]⟩,.slice none 0 0,.slice none 0 0] 55):=⟨_,rfl⟩;have x8:Ext W6 W8:=hx7.trans (by rw[hW8];exact Ext.alloc _ _);have x7:Ext W6 W8:=x8;have hu0:=(HU4.out W8 (Ext.trans X6.out x8)).cells;have X8:=h! (show Below w.heap.size w W8 from Below.trans HBT.out (Below.mono (Ext.trans X6.out x8) HBT.out.size));have h5:=fun W (h:Ext W8 W)=>(B5.out.below (Ext.trans x8 h)).cells;have h6:=fun W (h:Ext W8 W)=>(B6.out.below (Ext.trans x8 h)).cells;have hu:=fun W (h:Ext W8 W)=>(HU4.out W (Ext.trans X6.out (Ext.trans x8 h))).cells;have d0:=fun W (h:Ext W8 W)=>(Ext.trans x8 h).cell D5.out.1;have d1:=fun W (h:Ext W8 W)=>(Ext.trans x8 h).cell D5.out.2.1;have d2:=fun W (h:Ext W8 W)=>(Ext.trans x8 h).cell D5.out.2.2
 have HCU:=h! (fun W (h:Ext W8 W)=>show Calls Tryz.prog 38 #[.agg #[.int .i64 0,.string ⟨#[100,111,99]⟩,.string ⟨#[49]⟩,.string ⟨#[118,105,101,119,101,114]⟩,.slice so6 0 sc6,.slice qo6 0 qc6]] W fun e w'=>∃ (v':Value) (l:List P3),e = .returned v'/\UpP l/\(∀ q,q∈l↔q∈(NT.mk 0 p28 [] []).cuts)/\Own w' W.heap.size 30 3 v' (pcs l)/\Ext W w' from
  ecuts_any (.mk 0 p28 [] []) (.slice so6 0 sc6,.slice qo6 0 qc6) W (N6.out.up (Ext.trans x8 h)) (by rw[show(NT.mk 0 p28 [] []).sz=1 from by kernel_rfl];decide) (fun m hm=>by
   rw[show(NT.mk 0 p28 [] []).pre=[.mk 0 p28 [] []]from by kernel_rfl]at hm;obtain rfl:=List.mem_singleton.1 hm;exact⟨⟨by decide,by decide,by decide⟩,fun s hs=>by cases hs⟩))
 have heq:=fun W=>sub_eql u28 u28 W;simp only[decide_true]at heq;unfold pV at heq;dsimp only[u28,usB]at heq;clear hs hp HNI X6 x8 hx7 x7 hu0 B5 D5 B6 N6 HBT HT4 HS4 HU4 HP4;go_wp2_with fail
 try rw[<- hW8]
 refine region_walkN (Ext W8) (Ext.drew _) (by kernel_rfl) (by kernel_rfl) (fun _ _ d _ _ h=>by cases d <;> exact h) ?_;clear hW8;(refine WalkN.tk [0,1,2,3,4,5,6,7,8,9,10,11,12,13,14,15,16,17,18,19,20,21,22,23,24,25,26,27,28,29,30,31,32,33,34,35,36] ?_;(iterate 37 ((refine TkN.c _ ?_ (by simp only[gA,gS,gZ];rfl) (by kernel_rfl) (by kernel_rfl) (by rfl) (fun W hW=>?_) ?_;rotate_left;· (go_simp;try with_reducible rfl));simp only[Act.put,pA,pZ,pS]));refine TkN.n ?_)
 clear h5 h6 hu d0 d1 d2 heq;refine WalkN.one 37 (by kernel_rfl) ?_;refine⟨_,(by simp only[gA,gS,gZ];rfl),by rfl,fun K hK=>?_⟩;go_simp;refine(HCU.out _ (Ext.drew _)).mono ?_;rintro e W9 ⟨v',l,rfl,hup,hm,ho,hx9⟩;obtain rfl:l=[p28]:=upP_unique hup (List.pairwise_singleton _ _) fun q=>by rw[hm q,show(NT.mk 0 p28 [] []).cuts=[p28]from by kernel_rfl]
 obtain⟨ao,n,c,rfl,hn,-,-⟩:=ho.slU.len
 obtain rfl:n=1:=by
  have:(pcs [p28]).length=3:=by kernel_rfl
  omega
 refine hK.out _ _ (Ext.trans (Ext.drew _) hx9) ?_;have XE:=h! (Below.trans X8.out (Below.mono (Ext.trans (Ext.drew _) hx9) X8.out.size));clear hK HCU hup hm ho hn hx9;(refine WalkN.tk [38,39,40,41] ?_;(iterate 4 ((refine TkN.c _ ?_ (by simp only[gA,gS,gZ];rfl) (by kernel_rfl) (by kernel_rfl) (by rfl) (fun W hW=>?_) ?_;rotate_left;· (go_simp;try with_reducible rfl));simp only[Act.put,pA,pZ,pS]));refine TkN.n ?_)
 refine WalkN.done (by kernel_rfl) ?_;go_wp2
 go_ret
 exact⟨rfl,XE.out⟩
theorem tups_rowsF {S:Nat->Prop} {w:World} {v:Value} {l:List Tup} (h:Sl S w 6 v (tuCs l)) :
  ∃ ao c,v = .slice ao l.length c/\l.length<=c/\c<=9223372036854775807/\∀ i (hi:i<l.length),∃ b off,ao=some ⟨b,off,none⟩/\S b /\
   w.cell? ⟨b,off+i*6,none⟩=some (.string l[i].o.t)/\w.cell? ⟨b,off+i*6+1,none⟩=some (.string l[i].o.i)/\w.cell? ⟨b,off+i*6+2,none⟩=some (.string l[i].o.r) /\
   w.cell? ⟨b,off+i*6+3,none⟩=some (.string l[i].s.t)/\w.cell? ⟨b,off+i*6+4,none⟩=some (.string l[i].s.i)/\w.cell? ⟨b,off+i*6+5,none⟩=some (.string l[i].s.r):=by
 obtain⟨ao,c,rfl,h1,h2,hc⟩:=Sl.rows tuC_length (by decide) (show Sl S w 6 v (l.flatMap tuC)from h);refine⟨ao,c,rfl,h1,h2,fun i hi=>?_⟩;obtain⟨b,off,rfl,hb,hc⟩:=hc (by omega);exact⟨b,off,rfl,hb,hc i hi 0 _ rfl,hc i hi 1 _ rfl,hc i hi 2 _ rfl,hc i hi 3 _ rfl,hc i hi 4 _ rfl,hc i hi 5 _ rfl⟩
def shortT (t:Tup):Bool:=decide (t.o.t.size<=100)&&decide (t.o.i.size<=100)&&decide (t.o.r.size<=100)&&decide (t.s.t.size<=100)&&decide (t.s.i.size<=100)&&decide (t.s.r.size<=100)
def fewL (l:List Tup):Bool:=l.all (fun a=>shortT a)&&decide (l.length<=40)
theorem fewL_bad {l:List Tup} {i:Nat} (hi:i<l.length)(h:shortT l[i]=false):fewL l=false:=by
 unfold fewL;rw[Bool.and_eq_false_iff];left
 rw[List.all_eq_false];exact⟨l[i],List.getElem_mem hi,by simp[h]⟩
theorem fewL_end {l:List Tup} (h:∀ j (hj:j<l.length),j<l.length->shortT l[j]=true):fewL l=decide ((l.length:Int)<=40):=by
 unfold fewL;rw[show l.all (fun a=>shortT a)=true from ?_,Bool.true_and]
 ·by_cases h:l.length<=40
  ·rw[decide_eq_true h,decide_eq_true (by omega)]
  ·rw[decide_eq_false h,decide_eq_false (by omega)]
 ·rw[List.all_eq_true];intro x hx;obtain⟨j,hj,rfl⟩:=List.getElem_of_mem hx;exact h j hj hj
theorem fewL_len {l:List Tup} (h:fewL l=true):l.length<=40:=by
 unfold fewL at h;simp only[Bool.and_eq_true,decide_eq_true_eq]at h;exact h.2
set_option maxRecDepth 100000 in
set_option maxHeartbeats 4000000 in
theorem few26_any (v:Value)(l:List Tup)(w:World)(h:Sl (· < w.heap.size) w 6 v (tuCs l)):Calls Tryz.prog 14 #[v] w fun e w'=>e = .returned (.bool (fewL l))/\Below w.heap.size w w':=by
 obtain⟨ao,c,rfl,hlc,hcm,hcell⟩:=tups_rowsF h;have HC:=h! hcell;clear hcell h;go_enter Tryz.func14,Tryz.ntmps14
 go_wp2_with fail
 go_loopw [9] (fun ii wr=>∃ i:Nat,i<=l.length/\ii = .int .i64 i/\(∀ j (hj:j<l.length),j<i->shortT l[j]=true)/\Below w.heap.size w wr) (fun ii _=>l.length-(intOf ii).toNat)
 case atStart=>exact⟨0,by omega,rfl,fun _ _ h=>absurd h (by omega),Below.refl _ _⟩
 case round =>
  obtain⟨i,hi,rfl,hall,hbel⟩:=hrel;have HALL:=h! hall;clear hall;by_cases hlt:i<l.length
  ·obtain⟨b,off,rfl,hb,c1,c2,c3,c4,c5,c6⟩:=HC.out i hlt;have d1:=(hbel.cell (p:=⟨b,off+i*6,none⟩) hb).trans c1;have d2:=(hbel.cell (p:=⟨b,off+i*6+1,none⟩) hb).trans c2;have d3:=(hbel.cell (p:=⟨b,off+i*6+2,none⟩) hb).trans c3;have d4:=(hbel.cell (p:=⟨b,off+i*6+3,none⟩) hb).trans c4;have d5:=(hbel.cell (p:=⟨b,off+i*6+4,none⟩) hb).trans c5;have d6:=(hbel.cell (p:=⟨b,off+i*6+5,none⟩) hb).trans c6;have HF:=h! (fun h=>fewL_bad hlt h);have HN:=h! (fun h=>upto_succ (p:=fun j hj=>shortT l[j]=true) HALL.out hlt h);clear c1 c2 c3 c4 c5 c6 hb;generalize l[i]=a at *;obtain⟨⟨ot,oi,or_⟩,⟨st,si,sr⟩⟩:=a;dsimp only at *;have hb1:=hbel.alloc hbel.size (.cells #[.string ot,.string oi,.string or_,.string st,.string si,.string sr] 104);have hbk:=(Blk.made wr #[.string ot,.string oi,.string or_,.string st,.string si,.string sr] 104).cells;have HP:=h! (parts_any ⟨⟨ot,oi,or_⟩,⟨st,si,sr⟩⟩ (wr.alloc (.cells #[.string ot,.string oi,.string or_,.string st,.string si,.string sr] 104)));unfold tV at HP;dsimp only at HP;have HB1:=h! hb1;clear hb1;go_wp2_with fail
   refine HP.out.mono ?_;rintro e w2 ⟨rfl,hP2,hb2⟩;have cP:=hP2.cells;simp only[World.size_alloc]at cP ⊢;have HBB:=h! (HB1.out.trans (hb2.mono HB1.out.size));clear HP hP2 hb2 HB1 hbk d1 d2 d3 d4 d5 d6;go_wp2_with fail
   refine wp_loop_rounds 7 ?_;rw[rounds_succ];by_cases hs0:ot.size<=100
   rotate_left
   ·have hg:(100:Int)<(ot.size:Int):=by omega
    have HS:=h! hs0;clear hs0;go_wp2_with fail
    go_ret
    exact⟨congrArg (fun b=>Ending.returned (.bool b)) (HF.out (by simp[shortT,HS.out])).symm,HBB.out⟩
   have hg0:(ot.size:Int)<=100:=by omega
   have HS0:=h! hs0;clear hs0;go_wp2_with fail
   rw[rounds_succ];by_cases hs1:oi.size<=100
   rotate_left
   ·have hg:(100:Int)<(oi.size:Int):=by omega
    have HS:=h! hs1;clear hs1;go_wp2_with fail
    go_ret
    exact⟨congrArg (fun b=>Ending.returned (.bool b)) (HF.out (by simp[shortT,HS.out])).symm,HBB.out⟩
   have hg1:(oi.size:Int)<=100:=by omega
   have HS1:=h! hs1;clear hs1;go_wp2_with fail
   rw[rounds_succ];by_cases hs2:or_.size<=100
   rotate_left
   ·have hg:(100:Int)<(or_.size:Int):=by omega
    have HS:=h! hs2;clear hs2;go_wp2_with fail
    go_ret
    exact⟨congrArg (fun b=>Ending.returned (.bool b)) (HF.out (by simp[shortT,HS.out])).symm,HBB.out⟩
   have hg2:(or_.size:Int)<=100:=by omega
   have HS2:=h! hs2;clear hs2;go_wp2_with fail
   rw[rounds_succ];by_cases hs3:st.size<=100
   rotate_left
   ·have hg:(100:Int)<(st.size:Int):=by omega
    have HS:=h! hs3;clear hs3;go_wp2_with fail
    go_ret
    exact⟨congrArg (fun b=>Ending.returned (.bool b)) (HF.out (by simp[shortT,HS.out])).symm,HBB.out⟩
   have hg3:(st.size:Int)<=100:=by omega
   have HS3:=h! hs3;clear hs3;go_wp2_with fail
   rw[rounds_succ];by_cases hs4:si.size<=100
   rotate_left
   ·have hg:(100:Int)<(si.size:Int):=by omega
    have HS:=h! hs4;clear hs4;go_wp2_with fail
    go_ret
    exact⟨congrArg (fun b=>Ending.returned (.bool b)) (HF.out (by simp[shortT,HS.out])).symm,HBB.out⟩
   have hg4:(si.size:Int)<=100:=by omega
   have HS4:=h! hs4;clear hs4;go_wp2_with fail
   rw[rounds_succ];by_cases hs5:sr.size<=100
   rotate_left
   ·have hg:(100:Int)<(sr.size:Int):=by omega
    have HS:=h! hs5;clear hs5;go_wp2_with fail
    go_ret
    exact⟨congrArg (fun b=>Ending.returned (.bool b)) (HF.out (by simp[shortT,HS.out])).symm,HBB.out⟩
   have hg5:(sr.size:Int)<=100:=by omega
   have HS5:=h! hs5;clear hs5;go_wp2_with fail
   rw[rounds_succ];have HH:=h! (HN.out (by simp[shortT,HS0.out,HS1.out,HS2.out,HS3.out,HS4.out,HS5.out]));clear HN HF;go_wp2_with fail
   go_roundw
   case rel=>exact⟨i+1,by omega,by go_num,HH.out,HBB.out⟩
   case measure=>simp[intOf];omega
  ·obtain rfl:i=l.length:=by omega
   have HE:=h! (fewL_end HALL.out);go_wp2_with fail
   go_ret
   exact⟨congrArg (fun b=>Ending.returned (.bool b)) HE.out.symm,hbel⟩
set_option maxRecDepth 100000 in
set_option maxHeartbeats 4000000 in
theorem few28_any (v:Value)(l:List Tup)(w:World)(h:Sl (· < w.heap.size) w 6 v (tuCs l)):Calls Tryz.prog 25 #[v] w fun e w'=>e = .returned (.bool (fewL l))/\Below w.heap.size w w':=by
 obtain⟨ao,c,rfl,hlc,hcm,hcell⟩:=tups_rowsF h;have HC:=h! hcell;clear hcell h;go_enter Tryz.func25,Tryz.ntmps25
 go_wp2_with fail
 go_loopw [9] (fun ii wr=>∃ i:Nat,i<=l.length/\ii = .int .i64 i/\(∀ j (hj:j<l.length),j<i->shortT l[j]=true)/\Below w.heap.size w wr) (fun ii _=>l.length-(intOf ii).toNat)
 case atStart=>exact⟨0,by omega,rfl,fun _ _ h=>absurd h (by omega),Below.refl _ _⟩
 case round =>
  obtain⟨i,hi,rfl,hall,hbel⟩:=hrel;have HALL:=h! hall;clear hall;by_cases hlt:i<l.length
  ·obtain⟨b,off,rfl,hb,c1,c2,c3,c4,c5,c6⟩:=HC.out i hlt;have d1:=(hbel.cell (p:=⟨b,off+i*6,none⟩) hb).trans c1;have d2:=(hbel.cell (p:=⟨b,off+i*6+1,none⟩) hb).trans c2;have d3:=(hbel.cell (p:=⟨b,off+i*6+2,none⟩) hb).trans c3;have d4:=(hbel.cell (p:=⟨b,off+i*6+3,none⟩) hb).trans c4;have d5:=(hbel.cell (p:=⟨b,off+i*6+4,none⟩) hb).trans c5;have d6:=(hbel.cell (p:=⟨b,off+i*6+5,none⟩) hb).trans c6;have HF:=h! (fun h=>fewL_bad hlt h);have HN:=h! (fun h=>upto_succ (p:=fun j hj=>shortT l[j]=true) HALL.out hlt h);clear c1 c2 c3 c4 c5 c6 hb;generalize l[i]=a at *;obtain⟨⟨ot,oi,or_⟩,⟨st,si,sr⟩⟩:=a;dsimp only at *;have hb1:=hbel.alloc hbel.size (.cells #[.string ot,.string oi,.string or_,.string st,.string si,.string sr] 104);have hbk:=(Blk.made wr #[.string ot,.string oi,.string or_,.string st,.string si,.string sr] 104).cells;have HP:=h! (parts_any ⟨⟨ot,oi,or_⟩,⟨st,si,sr⟩⟩ (wr.alloc (.cells #[.string ot,.string oi,.string or_,.string st,.string si,.string sr] 104)));unfold tV at HP;dsimp only at HP;have HB1:=h! hb1;clear hb1;go_wp2_with fail
   refine HP.out.mono ?_;rintro e w2 ⟨rfl,hP2,hb2⟩;have cP:=hP2.cells;simp only[World.size_alloc]at cP ⊢;have HBB:=h! (HB1.out.trans (hb2.mono HB1.out.size));clear HP hP2 hb2 HB1 hbk d1 d2 d3 d4 d5 d6;go_wp2_with fail
   refine wp_loop_rounds 7 ?_;rw[rounds_succ];by_cases hs0:ot.size<=100
   rotate_left
   ·have hg:(100:Int)<(ot.size:Int):=by omega
    have HS:=h! hs0;clear hs0;go_wp2_with fail
    go_ret
    exact⟨congrArg (fun b=>Ending.returned (.bool b)) (HF.out (by simp[shortT,HS.out])).symm,HBB.out⟩
   have hg0:(ot.size:Int)<=100:=by omega
   have HS0:=h! hs0;clear hs0;go_wp2_with fail
   rw[rounds_succ];by_cases hs1:oi.size<=100
   rotate_left
   ·have hg:(100:Int)<(oi.size:Int):=by omega
    have HS:=h! hs1;clear hs1;go_wp2_with fail
    go_ret
    exact⟨congrArg (fun b=>Ending.returned (.bool b)) (HF.out (by simp[shortT,HS.out])).symm,HBB.out⟩
   have hg1:(oi.size:Int)<=100:=by omega
   have HS1:=h! hs1;clear hs1;go_wp2_with fail
   rw[rounds_succ];by_cases hs2:or_.size<=100
   rotate_left
   ·have hg:(100:Int)<(or_.size:Int):=by omega
    have HS:=h! hs2;clear hs2;go_wp2_with fail
    go_ret
    exact⟨congrArg (fun b=>Ending.returned (.bool b)) (HF.out (by simp[shortT,HS.out])).symm,HBB.out⟩
   have hg2:(or_.size:Int)<=100:=by omega
   have HS2:=h! hs2;clear hs2;go_wp2_with fail
   rw[rounds_succ];by_cases hs3:st.size<=100
   rotate_left
   ·have hg:(100:Int)<(st.size:Int):=by omega
    have HS:=h! hs3;clear hs3;go_wp2_with fail
    go_ret
    exact⟨congrArg (fun b=>Ending.returned (.bool b)) (HF.out (by simp[shortT,HS.out])).symm,HBB.out⟩
   have hg3:(st.size:Int)<=100:=by omega
   have HS3:=h! hs3;clear hs3;go_wp2_with fail
   rw[rounds_succ];by_cases hs4:si.size<=100
   rotate_left
   ·have hg:(100:Int)<(si.size:Int):=by omega
    have HS:=h! hs4;clear hs4;go_wp2_with fail
    go_ret
    exact⟨congrArg (fun b=>Ending.returned (.bool b)) (HF.out (by simp[shortT,HS.out])).symm,HBB.out⟩
   have hg4:(si.size:Int)<=100:=by omega
   have HS4:=h! hs4;clear hs4;go_wp2_with fail
   rw[rounds_succ];by_cases hs5:sr.size<=100
   rotate_left
   ·have hg:(100:Int)<(sr.size:Int):=by omega
    have HS:=h! hs5;clear hs5;go_wp2_with fail
    go_ret
    exact⟨congrArg (fun b=>Ending.returned (.bool b)) (HF.out (by simp[shortT,HS.out])).symm,HBB.out⟩
   have hg5:(sr.size:Int)<=100:=by omega
   have HS5:=h! hs5;clear hs5;go_wp2_with fail
   rw[rounds_succ];have HH:=h! (HN.out (by simp[shortT,HS0.out,HS1.out,HS2.out,HS3.out,HS4.out,HS5.out]));clear HN HF;go_wp2_with fail
   go_roundw
   case rel=>exact⟨i+1,by omega,by go_num,HH.out,HBB.out⟩
   case measure=>simp[intOf];omega
  ·obtain rfl:i=l.length:=by omega
   have HE:=h! (fewL_end HALL.out);go_wp2_with fail
   go_ret
   exact⟨congrArg (fun b=>Ending.returned (.bool b)) HE.out.symm,hbel⟩
end Go.Proofs.YtjdigpfipmckhaaGreat
