/- Lemmas for the claim, no condition. -/
import Derived.Test.YtjdigpfipmckhaaGreatYChHas0
import GoSem.PinnedTables
import Derived.Deep.DeepHandedRow
import Derived.Lib.SmallJoins
import Derived.Test.YtjdigpfipmckhaaGreatYChHas10
import Derived.Test.YtjdigpfipmckhaaGreatYChHas1
import Derived.Test.YtjdigpfipmckhaaGreatYChHas14
import Derived.Test.YtjdigpfipmckhaaGreatYChHas15
import Derived.Test.YtjdigpfipmckhaaGreatYChHas13
import Derived.Test.YtjdigpfipmckhaaGreatYChHas18
import Derived.Test.YtjdigpfipmckhaaGreatYChHas12
import Derived.Test.YtjdigpfipmckhaaGreatYChHas3
namespace Go.Proofs.YtjdigpfipmckhaaGreat
open Go Go.RowKit Go.Maps
structure Ins (l:List R2)(r:R2)(l':List R2):Prop where
 up:UpR l'
 mem:∀ x,x∈l'↔x=r\/x∈l
structure PutI (l:List R2)(r:R2)(i:Nat)(d:Bool)(o:List R2):Prop where
 len:o.length<=i+1
 up:UpR o
 mem:∀ x,x∈o↔(d=true/\x=r)\/x∈l.take i
 lt:∀ x∈o,∀ y∈l.drop i,ltR x y=true
 nd:d=false->∀ x∈o,ltR x r=true
theorem PutI.start {l:List R2} (r:R2):PutI l r 0 false []:=⟨Nat.zero_le _,List.Pairwise.nil,fun x=>by simp,fun x hx=>(by cases hx),fun _ x hx=>(by cases hx)⟩
theorem UpR.nodup {l:List R2} (h:UpR l):l.Nodup:=List.Pairwise.imp (fun h e=>by subst e;rw[ltR_irr]at h;cases h) h
structure BI (ts:List TyS)(N0:Nat)(L A:List R2)(ch:Bool)(pr:List (R2 × RT)):Prop where
 upL:UpR L
 upA:UpR A
 least:LeastP ts L
 subA:∀ x∈A,x∈(refsOf ts).map (·.1)
 len0:N0<=L.length
 more:ch=true->N0<L.length
 done:∀ p∈pr,p.1∈A/\(ch=false->p.2.pcan (refsOf ts) L p.1.t=true->p.1∈L)
theorem BI.start {ts:List TyS} {L A:List R2} (hL:UpR L)(hA:UpR A)(hl:LeastP ts L)(hs:∀ x∈A,x∈(refsOf ts).map (·.1)):BI ts L.length L A false [] :=
 ⟨hL,hA,hl,hs,Nat.le_refl _,fun h=>(by cases h),fun p hp=>(by cases hp)⟩
structure UpOf (o X:List R2):Prop where
 up:UpR o
 mem:∀ x,x∈o↔x∈X
theorem UpOf.nil:UpOf [] []:=⟨List.Pairwise.nil,fun _=>Iff.rfl⟩
theorem UpOf.put {o X o':List R2} {r:R2} (h:UpOf o X)(hi:Ins o r o'):UpOf o' (X++[r]):=⟨hi.up,fun x=>by rw[hi.mem,h.mem,List.mem_append,List.mem_singleton,or_comm]⟩
structure CD (ts:List TyS)(r:R2)(o pr o2:List R2):Prop where
 up:UpR o2
 sub:∀ x∈o,x∈o2
 re:∀ x∈o2,ReachP ts r x
 done:∀ x∈pr,∀ y∈needsP ts x,y∈o2
theorem CD.start {ts:List TyS} {r:R2} {o:List R2} (hu:UpR o)(hr:∀ x∈o,ReachP ts r x):CD ts r o [] o:=⟨hu,fun _ h=>h,hr,fun x hx=>(by cases hx)⟩
theorem CD.put {ts:List TyS} {r y:R2} {o pr o2 o3:List R2} (h:CD ts r o pr o2)(hi:Ins o2 y o3)(hy:ReachP ts r y):CD ts r o pr o3 :=
 ⟨hi.up,fun x hx=>(hi.mem x).2 (.inr (h.sub x hx)),fun x hx=>by
  rcases (hi.mem x).1 hx with rfl | hx
  ·exact hy
  ·exact h.re x hx,fun x hx z hz=>(hi.mem z).2 (.inr (h.done x hx z hz))⟩
theorem chk_long {ts:List TyS} (h:chk06 ts=0):longOk ts=true:=by
 unfold chk06 at h;split at h
 ·split at h
  ·assumption
  ·cases h
 ·cases h
theorem long_small {ts:List TyS} (h:longOk ts=true):ts.length<=16/\∀ t∈ts,t.rels.length<=16/\∀ r∈t.rels,r.2.sz<=32:=by
 unfold longOk at h;rw[Bool.and_eq_true,decide_eq_true_eq,List.all_eq_true]at h;refine⟨h.1,fun t ht=>?_⟩;have h2:=h.2 t ht;unfold tyLong at h2;rw[Bool.and_eq_true,decide_eq_true_eq,List.all_eq_true]at h2;exact⟨h2.1,fun r hr=>by simpa using h2.2 r hr⟩
theorem long_refs {ts:List TyS} (h:longOk ts=true):(refsOf ts).length<=256:=by
 obtain⟨h1,h2⟩:=long_small h;have:=flat_le (fun t:TyS=>relsOf t.name t.rels) 16 ts fun t ht=>by unfold relsOf;rw[List.length_map];exact(h2 t ht).1
 unfold refsOf;omega
end Go.Proofs.YtjdigpfipmckhaaGreat
namespace Go.Proofs.YtjdigpfipmckhaaGreat
open Go Go.RowKit Go.ChangeShapes Go.WideShapes Go.ChangeAt
def bc (l:List UInt8):List Value:=l.map fun c => .int .u8 c.toNat
section
variable {H : Type} {enc : TypeId × Value -> H} {W : World} {base : Nat} {v : Value} {d : DataW H} {ps : List MemPlace}
end
end Go.Proofs.YtjdigpfipmckhaaGreat
namespace Go.Proofs.YtjdigpfipmckhaaGreat
open Go Go.RowKit Go.Maps
def Tp (w:World)(tp:Nat):Prop:=∃ (bv:Value)(l:List UInt8)(n:Nat),n<=l.length/\Sl (· < tp) w 1 bv (bc l)/\Blk w tp #[bv,.int .i64 n] 71
abbrev KT (tp:Nat) (w w':World):Prop:=Kept (fun b=>b<w.heap.size/\b≠tp) w w'
theorem KT.trans {tp:Nat} {w w' w'':World} (h:KT tp w w')(k:KT tp w' w''):KT tp w w'':=Kept.trans h (Kept.mono k fun b hb=>⟨Nat.lt_of_lt_of_le hb.1 h.size,hb.2⟩)
theorem Tp.lt {w:World} {tp:Nat} (h:Tp w tp):tp<w.heap.size:=by
 obtain⟨bv,l,n,hn,hs,hB⟩:=h;exact hB.lt
theorem KT.same {tp:Nat} {w w':World} {S:Nat->Prop} (h:KT tp w w')(hS:∀ b,S b->b<w.heap.size/\b≠tp):Same S w w':=fun b hb=>h.block b (hS b hb)
theorem KT.blk {tp:Nat} {w w':World} (h:KT tp w w') {B:Nat} {cs:Array Value} {e:TypeId} (hB:Blk w B cs e)(hn:B≠tp):Blk w' B cs e:=Kept.blk h hB ⟨hB.lt,hn⟩
def nmV:ByteArray:=⟨#[118,105,101,119,101,114]⟩
def nmO:ByteArray:=⟨#[111,119,110,101,114]⟩
def nmP:ByteArray:=⟨#[112,97,114,101,110,116]⟩
def nmM:ByteArray:=⟨#[109,101,109,98,101,114]⟩
def relNs:List ByteArray:=[nmV,nmO,nmP,nmM]
def LeafR (own:List ByteArray)(r:RT):Prop:=r = .mk 1 ⟨#[]⟩ ⟨#[]⟩ []\/(∃ a∈own,r = .mk 2 a ⟨#[]⟩ [])\/∃ a∈own,∃ b∈relNs.take 2,r = .mk 3 a b []
theorem LeafR.k {own:List ByteArray} {r:RT} (h:LeafR own r):r.k≠0/\r.k≠4/\r.k≠5:=by
 rcases h with rfl | ⟨a,_,rfl⟩ | ⟨a,_,b,_,rfl⟩ <;> simp[RT.k]
theorem LeafR.ps {own:List ByteArray} {r:RT} (h:LeafR own r):r.ps=[]:=by
 rcases h with rfl | ⟨a,_,rfl⟩ | ⟨a,_,b,_,rfl⟩ <;> rfl
theorem Tp.kept {w w':World} {tp:Nat} {K:Nat->Prop} (h:Tp w tp)(hk:Kept K w w')(hK:∀ b,b<=tp->K b):Tp w' tp:=by
 obtain⟨bv,l,n,hn,hs,hB⟩:=h;exact⟨bv,l,n,hn,hs.same fun b hb=>hk.block b (hK b (Nat.le_of_lt hb)),hk.blk hB (hK tp (Nat.le_refl _))⟩
section
variable {α : Type} {e ee : TypeId} {sz : Nat} {El : (Nat -> Prop) -> World -> α -> Prop} {enc : α -> List Value} {rp lo tp n0 : Nat} {pre : List Value} {w w' w7 : World} {q : List α} {pv v7 : Value} {x : α}
end
def ElR (S:Nat->Prop)(w:World)(x:(ByteArray × RT) × Value):Prop:=RTAt S w x.1.2 x.2
def ElT (S:Nat->Prop)(w:World)(x:TyS × Value):Prop:=RelsAt S w x.1.rels x.2
theorem ElR.same {S:Nat->Prop} {w w':World} {x:(ByteArray × RT) × Value} (h:ElR S w x)(hs:Same S w w'):ElR S w' x:=RTAt.same h hs
theorem ElR.mono {S S':Nat->Prop} {w:World} {x:(ByteArray × RT) × Value} (h:ElR S w x)(hs:∀ b,S b->S' b):ElR S' w x:=RTAt.mono h hs
theorem ElT.same {S:Nat->Prop} {w w':World} {x:TyS × Value} (h:ElT S w x)(hs:Same S w w'):ElT S w' x:=RelsAt.same h hs
theorem ElT.mono {S S':Nat->Prop} {w:World} {x:TyS × Value} (h:ElT S w x)(hs:∀ b,S b->S' b):ElT S' w x:=RelsAt.mono h hs
structure FineR (ts:List TyS)(t:TyS)(d n m:Nat)(r:RT):Prop where
 text:∀ k,k+d<=8->r.textOk k=true
 sz:r.sz<=n
 bk:r.bk<=m
 ok:r.Ok
 named:r.named ts t=true
theorem FineR.mono {ts:List TyS} {t:TyS} {d n m d' n' m':Nat} {r:RT} (h:FineR ts t d n m r)(hd:d<=d')(hn:n<=n')(hm:m<=m'):FineR ts t d' n' m' r:=⟨fun k hk=>h.text k (by omega),Nat.le_trans h.sz hn,Nat.le_trans h.bk hm,h.ok,h.named⟩
section
variable {ts : List TyS} {t : TyS} {own : List ByteArray} (hs : ∀ n ∈ own, n ∈ relNs) (hh : ∀ n ∈ own, hasT t n = true) (ha : ∀ n ∈ relNs.take 2, anyT ts n = true)
include hs hh ha
end
theorem nms_len (r:RT):r.nms.length<=2*r.sz:=by
 induction r using RT.ind with
 | h r ih =>
  have:∀ l:List RT,(∀ x∈l,x∈r.ps)->(nmsL l).length<=2*szL l:=by
   intro l;induction l with
   | nil=>intro _;simp[nmsL]
   | cons x l ihl =>
    intro hx;rw[nmsL,szL,List.length_append];have h1:=ih x (hx x (by simp));have h2:=ihl fun y hy=>hx y (List.mem_cons_of_mem _ hy);omega
  have h:=this r.ps fun _ h=>h;rw[RT.nms_eq,List.length_cons,List.length_cons];obtain⟨k,a,b,ps⟩:=r;rw[RT.sz];simp only[RT.ps]at h ⊢;omega
theorem nms_ok (r:RT)(h:r.Ok):∀ n∈r.nms,n.size<=maxLen:=by
 induction r using RT.ind with
 | h r ih =>
  obtain⟨k,a,b,ps⟩:=r;rw[RT.Ok]at h;intro n hn;rw[RT.nms_eq]at hn;simp only[RT.a,RT.b,RT.ps,List.mem_cons]at hn;rcases hn with rfl | rfl | hn
  ·exact Nat.le_trans h.2.1 (by decide)
  ·exact Nat.le_trans h.2.2.1 (by decide)
  ·have hp:=okL_mem.1 h.2.2.2
   have:∀ l:List RT,(∀ x∈l,x∈ps)->∀ n∈nmsL l,n.size<=maxLen:=by
    intro l;induction l with
    | nil=>intro _ n hn;simp[nmsL]at hn
    | cons x l ihl =>
     intro hx n hn;rw[nmsL,List.mem_append]at hn;rcases hn with hn | hn
     ·exact ih x (hx x (by simp)) (hp x (hx x (by simp))) n hn
     ·exact ihl (fun y hy=>hx y (List.mem_cons_of_mem _ hy)) n hn
   exact this ps (fun _ h=>h) n hn
def allN (ts:List TyS):List ByteArray:=(refsOf ts).flatMap fun x=>x.2.nms
theorem allN_mem (ts:List TyS):NmU ts (allN ts):=fun x hx n hn=>List.mem_flatMap.2 ⟨x,hx,hn⟩
theorem flatN_len {α β:Type} (f:α->List β)(m:Nat):∀ (l:List α),(∀ x∈l,(f x).length<=m)->(l.flatMap f).length<=l.length*m
 | [],_=>by simp
 | a::l,h=>by
  rw[List.flatMap_cons,List.length_append,List.length_cons,Nat.add_mul];have h1:=h a (by simp);have h2:=flatN_len f m l fun x hx=>h x (List.mem_cons_of_mem _ hx);omega
theorem refs_sz {ts:List TyS} (h:longOk ts=true):∀ x∈refsOf ts,x.2.sz<=32:=fun x hx=>by
 obtain⟨t,ht,r,hr,rfl⟩:=refs_mem.1 hx;unfold longOk at h;rw[Bool.and_eq_true,List.all_eq_true]at h;have h2:=h.2 t ht;unfold tyLong at h2;rw[Bool.and_eq_true,List.all_eq_true]at h2;simpa using h2.2 r hr
theorem refs_ok {ts:List TyS} (h:∀ t∈ts,t.Ok):∀ x∈refsOf ts,x.2.Ok:=fun x hx=>by
 obtain⟨t,ht,r,hr,rfl⟩:=refs_mem.1 hx;exact((h t ht).2 r hr).2
def objU (T:List Tup)(p:P3):List (ByteArray × ByteArray):=(p.t,p.i)::T.map fun t=>(t.s.t,t.s.i)
def namU (N:List ByteArray)(T:List Tup)(p:P3):List ByteArray:=p.r::(T.map fun t=>t.s.r)++N
theorem okU (T:List Tup)(p:P3)(N:List ByteArray):OkU T (objU T p) (namU N T p) where
 objs t ht:=List.mem_cons_of_mem _ (List.mem_map.2 ⟨t,ht,rfl⟩)
 rels t ht:=by unfold namU;rw[List.cons_append];exact List.mem_cons_of_mem _ (List.mem_append_left _ (List.mem_map.2 ⟨t,ht,rfl⟩))
theorem inU_walk {ts:List TyS} (T:List Tup)(shut:List R2)(p:P3) {N:List ByteArray} (hN:NmU ts N)(n:Nat):∀ x∈(walkN ts T shut p n).1,InU (objU T p) (namU N T p) x :=
 walkN_in (okU T p N) (fun x hx m hm=>by unfold namU;rw[List.cons_append];exact List.mem_cons_of_mem _ (List.mem_append_right _ (hN x hx m hm))) shut ⟨by simp[objU],by simp[namU]⟩ n
theorem walk_few {ts:List TyS} (T:List Tup)(shut:List R2)(p:P3) {N:List ByteArray} (hN:NmU ts N)(n:Nat):(walkN ts T shut p n).1.length<=(T.length+1)*(T.length+N.length+1):=by
 have h:=inU_few (walkN_nodup ts T shut p n) (inU_walk T shut p hN n);simp only[objU,namU,List.length_cons,List.length_append,List.length_map]at h;rwa[show T.length+1+N.length=T.length+N.length+1 by omega]at h
theorem walkIn_chk {ts:List TyS} {T:List Tup} (shut:List R2) {p:P3} (hc:longOk ts=true)(hok:∀ t∈ts,t.Ok)(hT:T.length<=100)(hTo:∀ t∈T,t.Ok)(hp:p.Ok):WalkIn ts T shut p 2000000 where
 okp n x hx:=by
  have h:=inU_walk T shut p (allN_mem ts) n x hx
  have hN:∀ m∈allN ts,m.size<=maxLen:=fun m hm=>by
   obtain⟨y,hy,hm⟩:=List.mem_flatMap.1 hm;exact nms_ok _ (refs_ok hok y hy) m hm
  obtain⟨h1,h2⟩:=h
  have hO:x.t.size<=maxLen/\x.i.size<=maxLen:=by
   rcases List.mem_cons.1 h1 with h1 | h1
   ·have e1:=congrArg Prod.fst h1;have e2:=congrArg Prod.snd h1;dsimp only at e1 e2;rw[e1,e2];exact⟨hp.1,hp.2.1⟩
   ·obtain⟨t,ht,e⟩:=List.mem_map.1 h1;have h3:=(hTo t ht).2;have e1:=congrArg Prod.fst e;have e2:=congrArg Prod.snd e;dsimp only at e1 e2;rw[<- e1,<- e2];exact⟨h3.1,h3.2.1⟩
  refine⟨hO.1,hO.2,?_⟩;unfold namU at h2;rw[List.cons_append,List.mem_cons,List.mem_append]at h2;rcases h2 with h2 | h2 | h2
  ·rw[h2];exact hp.2.2
  ·obtain⟨t,ht,e⟩:=List.mem_map.1 h2;rw[<- e];exact(hTo t ht).2.2.2
  ·exact hN _ h2
 few n:=by
  have h:=walk_few T shut p (allN_mem ts) n
  have h2:(allN ts).length<=256*64:=by
   have h3:=flatN_len (fun x:R2 × RT=>x.2.nms) 64 (refsOf ts) fun x hx=>by have:=nms_len x.2;have:=refs_sz hc x hx;omega
   have h4:=long_refs hc;unfold allN;exact Nat.le_trans h3 (Nat.mul_le_mul_right _ h4)
  have h5:(T.length+1)*(T.length+(allN ts).length+1)<=101*(100+256*64+1):=Nat.mul_le_mul (by omega) (by omega);omega
 room x hx:=by
  have h1:=refs_sz hc x hx;have h2:x.2.sz*(T.length+1)<=32*101:=Nat.mul_le_mul h1 (by omega);omega
 nmax:=by omega
 rok:=refs_ok hok
 tok t ht:=(hTo t ht).2
 tlen:=by omega
theorem WalkP.done {ts:List TyS} {T:List Tup} {shut:List R2} {p:P3} {most:Int} {ok long:Value} {ps:List P3} {fs:List FT} {ev:Value} (h:WalkP ts T shut p most ok long ps fs ev)(hm:∀ n,((walkN ts T shut p n).1.length:Int)<=most) :
  ∃ n,WalkEnd ts T shut p most n/\ps=(walkN ts T shut p n).1/\fs=(walkN ts T shut p n).2/\ev=ok:=by
 rcases h with h | ⟨⟨n,h1,h2,h3⟩,-⟩
 ·exact h
 ·have:=hm n;omega
theorem obj_any (a b:ByteArray)(w:World):Calls Tryz.prog 90 #[.string a,.string b] w fun e w'=>e = .returned (.agg #[.string a,.string b])/\Ext w w':=by
 go_enter Tryz.func90,Tryz.ntmps90
 go_wp2_with fail
 exact bodyPost_ret (results_cell_row rfl _ _ w.heap.size 28 #[.string a,.string b] (0,0) _ rfl (heap_alloc_new w _) Tryz.underlying28 rfl (by kernel_rfl)) rfl ⟨rfl,Ext.alloc _ _⟩
theorem HasArg.of {ts:List TyS} {T:List Tup} {shut:List R2} {p:P3} (hc:chk06 ts=0)(hok:∀ t∈ts,t.Ok)(hb:schB ts<=549755813888)(hn:(namesOf ts).length<=1099511627776)(hr:(refsOf ts).length<=1099511627776)(hT:T.length<=41)(hTo:∀ t∈T,t.Ok)(hp:p.Ok)(hso:∀ r∈shut,r.Ok):HasArg ts T shut p:=by
 have hl:=chk_long hc;have hw:=walkIn_chk (T:=T) shut hl hok (by omega) hTo hp;have hsz:∀ t∈ts,∀ r∈t.rels,r.2.sz<=32:=fun t ht r hr'=>refs_sz hl ⟨⟨t.name,r.1⟩,r.2⟩ (refs_mem.2 ⟨t,ht,r,hr',rfl⟩)
 have hN:∀ n,(walkN ts T shut p n).1.length<=1000000:=fun n=>by
  have h:=walk_few T shut p (allN_mem ts) n
  have h2:(allN ts).length<=256*64:=by
   have h3:=flatN_len (fun x:R2 × RT=>x.2.nms) 64 (refsOf ts) fun x hx=>by have:=nms_len x.2;have:=refs_sz hl x hx;omega
   have h4:=long_refs hl;unfold allN;exact Nat.le_trans h3 (Nat.mul_le_mul_right _ h4)
  have h5:(T.length+1)*(T.length+(allN ts).length+1)<=42*(41+256*64+1):=Nat.mul_le_mul (by omega) (by omega);omega
 have hrm:∀ x∈refsOf ts,x.2.sz*(T.length+1)<=32*42:=fun x hx=>Nat.mul_le_mul (refs_sz hl x hx) (by omega)
 exact⟨hok,hc,hb,fun t ht r hr'=>Nat.le_trans (hsz t ht r hr') (by decide),hn,hr,hso,
  ⟨hw.okp,hN,fun x hx=>by have:=hrm x hx;omega,by decide,hw.rok,hw.tok,hw.tlen⟩,fun x hx=>by have:=hrm x hx;omega⟩
def viB:ByteArray:=⟨#[118,105,101,119,101,114]⟩
def meB:ByteArray:=⟨#[109,101,109,98,101,114]⟩
def grB:ByteArray:=⟨#[103,114,111,117,112]⟩
def usB:ByteArray:=⟨#[117,115,101,114]⟩
def thB:ByteArray:=⟨#[116,104,105,115]⟩
def txt27:ByteArray:=⟨#[116,121,112,101,32,100,111,99,10,118,105,101,119,101,114,32,61,32,116,104,105,115,10,116,121,112,101,32,103,114,111,117,112,10,109,101,109,98,101,114,32,61,32,116,104,105,115,10,116,121,112,101,32,117,115,101,114]⟩
def its27:List PIt:=[.ty docB,.rel viB thB [],.ty grB,.rel meB thB [],.ty usB]
def lns27:List ByteArray:=[⟨#[116,121,112,101,32,100,111,99]⟩,⟨#[118,105,101,119,101,114,32,61,32,116,104,105,115]⟩,⟨#[116,121,112,101,32,103,114,111,117,112]⟩,⟨#[109,101,109,98,101,114,32,61,32,116,104,105,115]⟩,⟨#[116,121,112,101,32,117,115,101,114]⟩]
def ts27:List TyS:=[⟨docB,[(viB,.mk 1 ⟨#[]⟩ ⟨#[]⟩ [])]⟩,⟨grB,[(meB,.mk 1 ⟨#[]⟩ ⟨#[]⟩ [])]⟩,⟨usB,[]⟩]
theorem lines27:linesD txt27=lns27:=by kernel_rfl
theorem step27:its27.foldl stepD []=ts27:=by kernel_rfl
theorem lnsOk27:(lns27.zip its27).all (fun p=>lnOkB p.1 p.2)=true:=by kernel_rfl
theorem fits27:its27.all PIt.fitB=true:=by kernel_rfl
theorem chk27:chk06 ts27=0:=by kernel_rfl
theorem ok27:∀ t∈ts27,t.Ok:=by
 intro t ht;unfold ts27 at ht;simp only[List.mem_cons,List.not_mem_nil,or_false]at ht;rcases ht with rfl | rfl | rfl
 ·refine⟨by decide,fun r hr=>?_⟩;obtain rfl:=List.mem_singleton.1 hr;exact⟨by decide,by simp[RT.Ok,okL];decide⟩
 ·refine⟨by decide,fun r hr=>?_⟩;obtain rfl:=List.mem_singleton.1 hr;exact⟨by decide,by simp[RT.Ok,okL];decide⟩
 ·exact⟨by decide,fun r hr=>by cases hr⟩
def p27:P3:=⟨docB,⟨#[49]⟩,viB⟩
def u27:P3:=⟨usB,⟨#[49]⟩,⟨#[]⟩⟩
def v27:P3:=⟨usB,⟨#[50]⟩,⟨#[]⟩⟩
def l27:List Tup:=[⟨p27,⟨grB,⟨#[49]⟩,meB⟩⟩,⟨⟨grB,⟨#[49]⟩,meB⟩,u27⟩]
theorem set27:SetT l27 l27:=⟨List.pairwise_cons.2 ⟨fun y hy=>by obtain rfl:=List.mem_singleton.1 hy;kernel_rfl,List.pairwise_singleton _ _⟩,fun t=>⟨fun h=>⟨h,by
 unfold l27 at h;simp only[List.mem_cons,List.not_mem_nil,or_false]at h;rcases h with rfl | rfl
 ·kernel_rfl
 ·kernel_rfl⟩,fun h=>h.1⟩⟩
theorem ok27l:∀ t∈l27,t.Ok:=by
 intro t ht;unfold l27 at ht;simp only[List.mem_cons,List.not_mem_nil,or_false]at ht;rcases ht with rfl | rfl
 ·exact⟨⟨by decide,by decide,by decide⟩,⟨by decide,by decide,by decide⟩⟩
 ·exact⟨⟨by decide,by decide,by decide⟩,⟨by decide,by decide,by decide⟩⟩
theorem arg27:HasArg ts27 l27 [] p27:=HasArg.of chk27 ok27 (by decide) (by decide) (by decide) (by decide) ok27l ⟨by decide,by decide,by decide⟩ (by simp)
theorem end27:WalkEnd ts27 l27 [] p27 9 2:=by
 have h0:(walkN ts27 l27 [] p27 0).1.length=1:=by kernel_rfl
 have h1:(walkN ts27 l27 [] p27 1).1.length=2:=by kernel_rfl
 have h2:(walkN ts27 l27 [] p27 2).1.length=2:=by kernel_rfl
 refine⟨fun m hm=>?_,h2.symm⟩;obtain rfl | rfl:m=0\/m=1:=by omega
 ·rw[h0];exact⟨by decide,by decide⟩
 ·rw[h1];exact⟨by decide,by decide⟩
theorem yes27:(outN (walkN ts27 l27 [] p27 2).2 u27 2 2).getD 0 0=2:=by kernel_rfl
theorem no27:(outN (walkN ts27 l27 [] p27 2).2 v27 2 2).getD 0 0=0:=by kernel_rfl
theorem said27 {s:P3} {e:Ending} (bb:Bool)(hs:bb=true↔0<(outN (walkN ts27 l27 [] p27 2).2 s 2 2).getD 0 0)(h:HasSaid ts27 l27 [] p27 s 9 e):e = .returned (.tuple #[.bool bb,.int .i64 0]):=by
 rcases h with⟨n,b,hw,rfl,hb⟩ | ⟨hl,-⟩
 ·obtain rfl:=hw.uniq end27
  have:b=bb:=by
   rw[Bool.eq_iff_iff,hb,hs];rfl
  rw[this]
 ·exact absurd hl end27.notLong
theorem has27_any (tv:Value)(s:P3)(bb:Bool)(hs:bb=true↔0<(outN (walkN ts27 l27 [] p27 2).2 s 2 2).getD 0 0)(w:World)(b:Nat)(h:TysAt (· < w.heap.size) w ts27 tv)(hb:BookAt w b l27) :
  Calls Tryz.prog 42 #[.agg #[tv],bkV b,.slice none 0 0,.agg (aC p27 s),.int .i64 9] w fun e w'=>e = .returned (.tuple #[.bool bb,.int .i64 0])/\Ext w w':=by
 refine(hasP_any ts27 tv b l27 [] (.slice none 0 0) p27 s 9 w h arg27 hb (Sl.nil _ _ _)).mono ?_;rintro e w' ⟨hh,hx⟩;exact⟨said27 bb hs hh,hx⟩
theorem yesS:true=true↔0<(outN (walkN ts27 l27 [] p27 2).2 u27 2 2).getD 0 0:=by rw[yes27];decide
theorem noS:false=true↔0<(outN (walkN ts27 l27 [] p27 2).2 v27 2 2).getD 0 0:=by rw[no27];decide
set_option maxRecDepth 100000 in
set_option maxHeartbeats 2000000 in
theorem fixed27_any (w:World):Calls Tryz.prog 40 #[] w fun e w'=>e = .returned (.bool true)/\Below w.heap.size w w':=by
 have HPA:=h! (parse_any txt27 its27 w (by decide) (by rw[lines27];rfl) (by rw[lines27];exact lnsOk_of lnsOk27) (fits_of fits27) (fun _=>⟨docB,rfl⟩) (by decide));rw[step27]at HPA;unfold txt27 at HPA;go_enter Tryz.func40,Tryz.ntmps40
 go_wp2_with fail
 refine HPA.out.mono ?_;rintro e w1 ⟨tv,rfl,hty,hb1⟩;obtain⟨aot,ct,rfl,-,-,-⟩:=hty.rows;rw[show ts27.length=3 from rfl]at *;have HX1:=h! (Ext.alloc w1 (.cells #[.slice aot 3 ct] 24));have HTY:=h! ((hty.mono (S':=(· < w1.heap.size)) fun b hb=>hb.2).up HX1.out);have HB1:=h! (show Below w.heap.size w _ from hb1.trans (HX1.out.mono hb1.size));have HS1:=h! (Blk.made w1 #[.slice aot 3 ct] 24);have HO1:=h! (fun W=>obj_any docB ⟨#[49]⟩ W);have HO2:=h! (fun W=>obj_any grB ⟨#[49]⟩ W);have HO3:=h! (fun W=>obj_any usB ⟨#[49]⟩ W);unfold docB at HO1;unfold grB at HO2;unfold usB at HO3;clear hty hb1 HPA;go_wp2_with fail
 refine(HO1.out _).mono ?_;rintro e w2 ⟨rfl,hx2⟩;go_wp2_with fail
 refine(HO2.out _).mono ?_;rintro e w3 ⟨rfl,hx3⟩;go_wp2_with fail
 refine(HO2.out _).mono ?_;rintro e w4 ⟨rfl,hx4⟩;go_wp2_with fail
 refine(HO3.out _).mono ?_;rintro e w5 ⟨rfl,hx5⟩;have X5:=h! (Ext.trans hx2 (Ext.trans hx3 (Ext.trans hx4 hx5)));clear hx2 hx3 hx4 hx5;have HL5:=h! (show Sl (fun b=>b<(w5.alloc (.cells (tuCs l27).toArray 104)).heap.size) (w5.alloc (.cells (tuCs l27).toArray 104)) 6 (.slice (some ⟨w5.heap.size,0,none⟩) 2 2) (tuCs l27)from Sl.made w5 _ 6 2 104 _ rfl (by decide) (by simp));have X6:=h! (show Ext w5 (w5.alloc (.cells (tuCs l27).toArray 104))from Ext.alloc _ _);go_wp2_with fail
 have hcs:(#[.string ⟨#[100,111,99]⟩,.string ⟨#[49]⟩,.string ⟨#[118,105,101,119,101,114]⟩,.string ⟨#[103,114,111,117,112]⟩,.string ⟨#[49]⟩,.string ⟨#[109,101,109,98,101,114]⟩,.string ⟨#[103,114,111,117,112]⟩,.string ⟨#[49]⟩,.string ⟨#[109,101,109,98,101,114]⟩,.string ⟨#[117,115,101,114]⟩,.string ⟨#[49]⟩,.string ⟨#[]⟩]:Array Value)=(tuCs l27).toArray:=by kernel_rfl
 try rw[hcs]
 clear hcs;obtain⟨w6,hw6⟩:∃ y,y=w5.alloc (.cells (tuCs l27).toArray 104):=⟨_,rfl⟩;rw[<- hw6]at HL5 X6 ⊢;clear hw6;obtain⟨g4,hg4⟩:∃ y,Hid (y=w5.heap.size):=⟨_,h! rfl⟩;rw[<- hg4.out]at HL5 ⊢;refine(HO1.out _).mono ?_;rintro e w7 ⟨rfl,hx7⟩;have X8:=h! (Ext.alloc w7 (.cells #[.string ⟨#[100,111,99]⟩,.string ⟨#[49]⟩,.string ⟨#[118,105,101,119,101,114]⟩] 30));have HP8:=h! (Blk.made w7 #[.string ⟨#[100,111,99]⟩,.string ⟨#[49]⟩,.string ⟨#[118,105,101,119,101,114]⟩] 30);have X68:=h! (Ext.trans hx7 X8.out);clear hx7;go_wp2_with fail
 obtain⟨w8,hw8⟩:∃ y,y=w7.alloc (.cells #[.string ⟨#[100,111,99]⟩,.string ⟨#[49]⟩,.string ⟨#[118,105,101,119,101,114]⟩] 30):=⟨_,rfl⟩;rw[<- hw8]at HP8 X68 ⊢;clear hw8 X8;have X18:=h! (Ext.trans X5.out (Ext.trans X6.out X68.out));have HBT:=h! (show Below w.heap.size w w8 from Below.trans HB1.out (Below.mono X18.out HB1.out.size));have HT4:=h! (fun W (hW:Ext w8 W)=>HTY.out.up (Ext.trans X18.out hW));have HS4:=h! (fun W (hW:Ext w8 W)=>HS1.out.below (Ext.trans X18.out hW));have HP4:=h! (fun W (hW:Ext w8 W)=>HP8.out.below hW);have HL4:=h! (fun W (hW:Ext w8 W)=>show Sl (· < W.heap.size) W 6 (.slice (some ⟨g4,0,none⟩) 2 2) (tuCs l27)from(HL5.out.same (Same.below (Ext.trans X68.out hW))).mono fun _ hb=>Nat.lt_of_lt_of_le hb (Ext.trans X68.out hW).size);clear HX1 HTY HB1 HS1 X5 X6 X68 HL5 HP8 hg4;generalize w1.heap.size=s1 at *;generalize w7.heap.size=s7 at *;obtain⟨wd,hwd⟩:∃ wd,Hid (wd=w8.drew):=⟨_,h! rfl⟩;have hxd:=h! (show Ext w8 wd from by rw[hwd.out];exact Ext.drew _);apply Code.wp_mono (Q:=J1 (fun(bk:Nat) W=>Ext wd W) _) ?rest4 ?reg4
 case reg4 =>
  have hE:=h! (Ext.refl wd);refine region_walkN (Ext wd) (by rw[<- hwd.out];exact Ext.refl _) (by kernel_rfl) (by kernel_rfl) (fun _ _ d _ _ h=>by cases h.1) ?_;rw[<- hwd.out];have HNB:=h! (fun W (hW:Ext wd W)=>bookT_any set27 (.slice (some ⟨g4,0,none⟩) 2 2) W ((HL4.out W (Ext.trans hxd.out hW))) (by decide) ok27l);have HOB:=h! (fun W=>obj_any usB ⟨#[49]⟩ W);have HHS:=h! (fun W b (hW:Ext wd W) (hB:BookAt W b l27)=>has27_any (.slice aot 3 ct) u27 true yesS W b (HT4.out W (Ext.trans hxd.out hW)) hB);have hs:=fun W (h:Ext wd W)=>(HS4.out W (Ext.trans hxd.out h)).cells;have hp:=fun W (h:Ext wd W)=>(HP4.out W (Ext.trans hxd.out h)).cells;unfold aC at HHS;unfold usB at HOB;dsimp only[p27,u27,v27,docB,viB,usB]at HHS;(refine WalkN.tk [0,1,4] ?_;(iterate 3 ((refine TkN.c _ ?_ (by simp only[gA,gS,gZ];rfl) (by kernel_rfl) (by kernel_rfl) (by rfl) (fun W hW=>?_) ?_;rotate_left;· (go_simp;try with_reducible rfl));simp only[Act.put,pA,pZ,pS]));refine TkN.n ?_)
  clear hs hp;refine WalkN.one 2 (by kernel_rfl) ?_;refine⟨_,(by simp only[gA,gS,gZ];rfl),by rfl,fun K hK=>?_⟩;go_simp;refine(HNB.out wd hE.out).mono ?_;rintro e u1 ⟨bk,rfl,hB0,hx0⟩;have hX0:=Ext.trans hE.out hx0;refine hK.out _ _ hX0 ?_;clear hK;have HBK:=h! hB0;clear hB0;have hE:=h! hX0;clear hx0 hX0;((refine WalkN.take 3 _ ?_ (by simp only[gA,gS,gZ];rfl) (by kernel_rfl) (by kernel_rfl) (by rfl) (fun W hW=>?_) ?_;rotate_left;· (go_simp;try with_reducible rfl));simp only[Act.put,pA,pZ,pS])
  refine WalkN.one 5 (by kernel_rfl) ?_;refine⟨_,(by simp only[gA,gS,gZ];rfl),by rfl,fun K hK=>?_⟩;go_simp;refine(HOB.out u1).mono ?_;rintro e u2 ⟨rfl,hx1⟩;have hX1:=Ext.trans hE.out hx1;refine hK.out _ _ hX1 ?_;clear hK;have HBK:=h! (HBK.out.ext hx1);have hE:=h! hX1;clear hx1 hX1;(refine WalkN.tk [6,7] ?_;(iterate 2 ((refine TkN.c _ ?_ (by simp only[gA,gS,gZ];rfl) (by kernel_rfl) (by kernel_rfl) (by rfl) (fun W hW=>?_) ?_;rotate_left;· (go_simp;try with_reducible rfl));simp only[Act.put,pA,pZ,pS]));refine TkN.n ?_)
  refine WalkN.one 8 (by kernel_rfl) ?_;refine⟨_,(by simp only[gA,gS,gZ];rfl),by rfl,fun K hK=>?_⟩;go_simp;refine(HHS.out u2 bk hE.out HBK.out).mono ?_;rintro e u3 ⟨rfl,hx2⟩;have hX2:=Ext.trans hE.out hx2;refine hK.out _ _ hX2 ?_;clear hK;have hE:=h! hX2;clear hx2 hX2;(refine WalkN.tk [9,10,11,12,13] ?_;(iterate 5 ((refine TkN.c _ ?_ (by simp only[gA,gS,gZ];rfl) (by kernel_rfl) (by kernel_rfl) (by rfl) (fun W hW=>?_) ?_;rotate_left;· (go_simp;try with_reducible rfl));simp only[Act.put,pA,pZ,pS]));refine TkN.n ?_)
  refine WalkN.done (by kernel_rfl) ?_;exact⟨rfl,bk,rfl,hE.out⟩
 rintro e _ W4 ⟨rfl,bk4,rfl,hX⟩;dsimp only;have X9:=h! (show Ext w8 W4 from Ext.trans hxd.out hX);clear hX hxd hwd;go_wp2_with fail
 obtain⟨wd,hwd⟩:∃ wd,Hid (wd=W4.drew):=⟨_,h! rfl⟩;have hxd:=h! (show Ext W4 wd from by rw[hwd.out];exact Ext.drew _);apply Code.wp_mono (Q:=J1 (fun(bk:Nat) W=>Ext wd W) _) ?rest5 ?reg5
 case reg5 =>
  have hE:=h! (Ext.refl wd);refine region_walkN (Ext wd) (by rw[<- hwd.out];exact Ext.refl _) (by kernel_rfl) (by kernel_rfl) (fun _ _ d _ _ h=>by cases h.1) ?_;rw[<- hwd.out];have HNB:=h! (fun W (hW:Ext wd W)=>bookT_any set27 (.slice (some ⟨g4,0,none⟩) 2 2) W ((HL4.out W (Ext.trans X9.out (Ext.trans hxd.out hW)))) (by decide) ok27l);have HOB:=h! (fun W=>obj_any usB ⟨#[50]⟩ W);have HHS:=h! (fun W b (hW:Ext wd W) (hB:BookAt W b l27)=>has27_any (.slice aot 3 ct) v27 false noS W b (HT4.out W (Ext.trans X9.out (Ext.trans hxd.out hW))) hB);have hs:=fun W (h:Ext wd W)=>(HS4.out W (Ext.trans X9.out (Ext.trans hxd.out h))).cells;have hp:=fun W (h:Ext wd W)=>(HP4.out W (Ext.trans X9.out (Ext.trans hxd.out h))).cells;unfold aC at HHS;unfold usB at HOB;dsimp only[p27,u27,v27,docB,viB,usB]at HHS;(refine WalkN.tk [0,1,4] ?_;(iterate 3 ((refine TkN.c _ ?_ (by simp only[gA,gS,gZ];rfl) (by kernel_rfl) (by kernel_rfl) (by rfl) (fun W hW=>?_) ?_;rotate_left;· (go_simp;try with_reducible rfl));simp only[Act.put,pA,pZ,pS]));refine TkN.n ?_)
  clear hs hp;refine WalkN.one 2 (by kernel_rfl) ?_;refine⟨_,(by simp only[gA,gS,gZ];rfl),by rfl,fun K hK=>?_⟩;go_simp;refine(HNB.out wd hE.out).mono ?_;rintro e u1 ⟨bk,rfl,hB0,hx0⟩;have hX0:=Ext.trans hE.out hx0;refine hK.out _ _ hX0 ?_;clear hK;have HBK:=h! hB0;clear hB0;have hE:=h! hX0;clear hx0 hX0;((refine WalkN.take 3 _ ?_ (by simp only[gA,gS,gZ];rfl) (by kernel_rfl) (by kernel_rfl) (by rfl) (fun W hW=>?_) ?_;rotate_left;· (go_simp;try with_reducible rfl));simp only[Act.put,pA,pZ,pS])
  refine WalkN.one 5 (by kernel_rfl) ?_;refine⟨_,(by simp only[gA,gS,gZ];rfl),by rfl,fun K hK=>?_⟩;go_simp;refine(HOB.out u1).mono ?_;rintro e u2 ⟨rfl,hx1⟩;have hX1:=Ext.trans hE.out hx1;refine hK.out _ _ hX1 ?_;clear hK;have HBK:=h! (HBK.out.ext hx1);have hE:=h! hX1;clear hx1 hX1;(refine WalkN.tk [6,7] ?_;(iterate 2 ((refine TkN.c _ ?_ (by simp only[gA,gS,gZ];rfl) (by kernel_rfl) (by kernel_rfl) (by rfl) (fun W hW=>?_) ?_;rotate_left;· (go_simp;try with_reducible rfl));simp only[Act.put,pA,pZ,pS]));refine TkN.n ?_)
  refine WalkN.one 8 (by kernel_rfl) ?_;refine⟨_,(by simp only[gA,gS,gZ];rfl),by rfl,fun K hK=>?_⟩;go_simp;refine(HHS.out u2 bk hE.out HBK.out).mono ?_;rintro e u3 ⟨rfl,hx2⟩;have hX2:=Ext.trans hE.out hx2;refine hK.out _ _ hX2 ?_;clear hK;have hE:=h! hX2;clear hx2 hX2;(refine WalkN.tk [9,10,11,12,13] ?_;(iterate 5 ((refine TkN.c _ ?_ (by simp only[gA,gS,gZ];rfl) (by kernel_rfl) (by kernel_rfl) (by rfl) (fun W hW=>?_) ?_;rotate_left;· (go_simp;try with_reducible rfl));simp only[Act.put,pA,pZ,pS]));refine TkN.n ?_)
  refine WalkN.done (by kernel_rfl) ?_;exact⟨rfl,bk,rfl,hE.out⟩
 rintro e _ W5 ⟨rfl,bk5,rfl,hX⟩;dsimp only;have HBE:=h! (show Below w.heap.size w W5 from Below.trans HBT.out (Below.mono (Ext.trans X9.out (Ext.trans hxd.out hX)) HBT.out.size));clear hX hxd hwd;go_wp2_with fail
 go_ret
 exact⟨rfl,HBE.out⟩
theorem tups_rowsF {S:Nat->Prop} {w:World} {v:Value} {l:List Tup} (h:Sl S w 6 v (tuCs l)) :
  ∃ ao c,v = .slice ao l.length c/\l.length<=c/\c<=9223372036854775807/\∀ i (hi:i<l.length),∃ b off,ao=some ⟨b,off,none⟩/\S b /\
   w.cell? ⟨b,off+i*6,none⟩=some (.string l[i].o.t)/\w.cell? ⟨b,off+i*6+1,none⟩=some (.string l[i].o.i)/\w.cell? ⟨b,off+i*6+2,none⟩=some (.string l[i].o.r) /\
   w.cell? ⟨b,off+i*6+3,none⟩=some (.string l[i].s.t)/\w.cell? ⟨b,off+i*6+4,none⟩=some (.string l[i].s.i)/\w.cell? ⟨b,off+i*6+5,none⟩=some (.string l[i].s.r):=by
 obtain⟨ao,c,rfl,h1,h2,hc⟩:=Sl.rows tuC_length (by decide) (show Sl S w 6 v (l.flatMap tuC)from h);refine⟨ao,c,rfl,h1,h2,fun i hi=>?_⟩;obtain⟨b,off,rfl,hb,hc⟩:=hc (by omega);exact⟨b,off,rfl,hb,hc i hi 0 _ rfl,hc i hi 1 _ rfl,hc i hi 2 _ rfl,hc i hi 3 _ rfl,hc i hi 4 _ rfl,hc i hi 5 _ rfl⟩
def shortT (t:Tup):Bool:=decide (t.o.t.size<=100)&&decide (t.o.i.size<=100)&&decide (t.o.r.size<=100)&&decide (t.s.t.size<=100)&&decide (t.s.i.size<=100)&&decide (t.s.r.size<=100)
def fewL (l:List Tup):Bool:=l.all (fun a=>shortT a)&&decide (l.length<=40)
theorem fewL_bad {l:List Tup} {i:Nat} (hi:i<l.length)(h:shortT l[i]=false):fewL l=false:=by
 unfold fewL;rw[Bool.and_eq_false_iff];left
 rw[List.all_eq_false];exact⟨l[i],List.getElem_mem hi,by simp[h]⟩
theorem fewL_end {l:List Tup} (h:∀ j (hj:j<l.length),j<l.length->shortT l[j]=true):fewL l=decide ((l.length:Int)<=40):=by
 unfold fewL;rw[show l.all (fun a=>shortT a)=true from ?_,Bool.true_and]
 ·by_cases h:l.length<=40
  ·rw[decide_eq_true h,decide_eq_true (by omega)]
  ·rw[decide_eq_false h,decide_eq_false (by omega)]
 ·rw[List.all_eq_true];intro x hx;obtain⟨j,hj,rfl⟩:=List.getElem_of_mem hx;exact h j hj hj
theorem fewL_len {l:List Tup} (h:fewL l=true):l.length<=40:=by
 unfold fewL at h;simp only[Bool.and_eq_true,decide_eq_true_eq]at h;exact h.2
set_option maxRecDepth 100000 in
set_option maxHeartbeats 4000000 in
theorem few26_any (v:Value)(l:List Tup)(w:World)(h:Sl (· < w.heap.size) w 6 v (tuCs l)):Calls Tryz.prog 14 #[v] w fun e w'=>e = .returned (.bool (fewL l))/\Below w.heap.size w w':=by
 obtain⟨ao,c,rfl,hlc,hcm,hcell⟩:=tups_rowsF h;have HC:=h! hcell;clear hcell h;go_enter Tryz.func14,Tryz.ntmps14
 go_wp2_with fail
 go_loopw [9] (fun ii wr=>∃ i:Nat,i<=l.length/\ii = .int .i64 i/\(∀ j (hj:j<l.length),j<i->shortT l[j]=true)/\Below w.heap.size w wr) (fun ii _=>l.length-(intOf ii).toNat)
 case atStart=>exact⟨0,by omega,rfl,fun _ _ h=>absurd h (by omega),Below.refl _ _⟩
 case round =>
  obtain⟨i,hi,rfl,hall,hbel⟩:=hrel;have HALL:=h! hall;clear hall;by_cases hlt:i<l.length
  ·obtain⟨b,off,rfl,hb,c1,c2,c3,c4,c5,c6⟩:=HC.out i hlt;have d1:=(hbel.cell (p:=⟨b,off+i*6,none⟩) hb).trans c1;have d2:=(hbel.cell (p:=⟨b,off+i*6+1,none⟩) hb).trans c2;have d3:=(hbel.cell (p:=⟨b,off+i*6+2,none⟩) hb).trans c3;have d4:=(hbel.cell (p:=⟨b,off+i*6+3,none⟩) hb).trans c4;have d5:=(hbel.cell (p:=⟨b,off+i*6+4,none⟩) hb).trans c5;have d6:=(hbel.cell (p:=⟨b,off+i*6+5,none⟩) hb).trans c6;have HF:=h! (fun h=>fewL_bad hlt h);have HN:=h! (fun h=>upto_succ (p:=fun j hj=>shortT l[j]=true) HALL.out hlt h);clear c1 c2 c3 c4 c5 c6 hb;generalize l[i]=a at *;obtain⟨⟨ot,oi,or_⟩,⟨st,si,sr⟩⟩:=a;dsimp only at *;have hb1:=hbel.alloc hbel.size (.cells #[.string ot,.string oi,.string or_,.string st,.string si,.string sr] 104);have hbk:=(Blk.made wr #[.string ot,.string oi,.string or_,.string st,.string si,.string sr] 104).cells;have HP:=h! (parts_any ⟨⟨ot,oi,or_⟩,⟨st,si,sr⟩⟩ (wr.alloc (.cells #[.string ot,.string oi,.string or_,.string st,.string si,.string sr] 104)));unfold tV at HP;dsimp only at HP;have HB1:=h! hb1;clear hb1;go_wp2_with fail
   refine HP.out.mono ?_;rintro e w2 ⟨rfl,hP2,hb2⟩;have cP:=hP2.cells;simp only[World.size_alloc]at cP ⊢;have HBB:=h! (HB1.out.trans (hb2.mono HB1.out.size));clear HP hP2 hb2 HB1 hbk d1 d2 d3 d4 d5 d6;go_wp2_with fail
   refine wp_loop_rounds 7 ?_;rw[rounds_succ];by_cases hs0:ot.size<=100
   rotate_left
   ·have hg:(100:Int)<(ot.size:Int):=by omega
    have HS:=h! hs0;clear hs0;go_wp2_with fail
    go_ret
    exact⟨congrArg (fun b=>Ending.returned (.bool b)) (HF.out (by simp[shortT,HS.out])).symm,HBB.out⟩
   have hg0:(ot.size:Int)<=100:=by omega
   have HS0:=h! hs0;clear hs0;go_wp2_with fail
   rw[rounds_succ];by_cases hs1:oi.size<=100
   rotate_left
   ·have hg:(100:Int)<(oi.size:Int):=by omega
    have HS:=h! hs1;clear hs1;go_wp2_with fail
    go_ret
    exact⟨congrArg (fun b=>Ending.returned (.bool b)) (HF.out (by simp[shortT,HS.out])).symm,HBB.out⟩
   have hg1:(oi.size:Int)<=100:=by omega
   have HS1:=h! hs1;clear hs1;go_wp2_with fail
   rw[rounds_succ];by_cases hs2:or_.size<=100
   rotate_left
   ·have hg:(100:Int)<(or_.size:Int):=by omega
    have HS:=h! hs2;clear hs2;go_wp2_with fail
    go_ret
    exact⟨congrArg (fun b=>Ending.returned (.bool b)) (HF.out (by simp[shortT,HS.out])).symm,HBB.out⟩
   have hg2:(or_.size:Int)<=100:=by omega
   have HS2:=h! hs2;clear hs2;go_wp2_with fail
   rw[rounds_succ];by_cases hs3:st.size<=100
   rotate_left
   ·have hg:(100:Int)<(st.size:Int):=by omega
    have HS:=h! hs3;clear hs3;go_wp2_with fail
    go_ret
    exact⟨congrArg (fun b=>Ending.returned (.bool b)) (HF.out (by simp[shortT,HS.out])).symm,HBB.out⟩
   have hg3:(st.size:Int)<=100:=by omega
   have HS3:=h! hs3;clear hs3;go_wp2_with fail
   rw[rounds_succ];by_cases hs4:si.size<=100
   rotate_left
   ·have hg:(100:Int)<(si.size:Int):=by omega
    have HS:=h! hs4;clear hs4;go_wp2_with fail
    go_ret
    exact⟨congrArg (fun b=>Ending.returned (.bool b)) (HF.out (by simp[shortT,HS.out])).symm,HBB.out⟩
   have hg4:(si.size:Int)<=100:=by omega
   have HS4:=h! hs4;clear hs4;go_wp2_with fail
   rw[rounds_succ];by_cases hs5:sr.size<=100
   rotate_left
   ·have hg:(100:Int)<(sr.size:Int):=by omega
    have HS:=h! hs5;clear hs5;go_wp2_with fail
    go_ret
    exact⟨congrArg (fun b=>Ending.returned (.bool b)) (HF.out (by simp[shortT,HS.out])).symm,HBB.out⟩
   have hg5:(sr.size:Int)<=100:=by omega
   have HS5:=h! hs5;clear hs5;go_wp2_with fail
   rw[rounds_succ];have HH:=h! (HN.out (by simp[shortT,HS0.out,HS1.out,HS2.out,HS3.out,HS4.out,HS5.out]));clear HN HF;go_wp2_with fail
   go_roundw
   case rel=>exact⟨i+1,by omega,by go_num,HH.out,HBB.out⟩
   case measure=>simp[intOf];omega
  ·obtain rfl:i=l.length:=by omega
   have HE:=h! (fewL_end HALL.out);go_wp2_with fail
   go_ret
   exact⟨congrArg (fun b=>Ending.returned (.bool b)) HE.out.symm,hbel⟩
set_option maxRecDepth 100000 in
set_option maxHeartbeats 4000000 in
theorem few27_any (v:Value)(l:List Tup)(w:World)(h:Sl (· < w.heap.size) w 6 v (tuCs l)):Calls Tryz.prog 41 #[v] w fun e w'=>e = .returned (.bool (fewL l))/\Below w.heap.size w w':=by
 obtain⟨ao,c,rfl,hlc,hcm,hcell⟩:=tups_rowsF h;have HC:=h! hcell;clear hcell h;go_enter Tryz.func41,Tryz.ntmps41
 go_wp2_with fail
 go_loopw [9] (fun ii wr=>∃ i:Nat,i<=l.length/\ii = .int .i64 i/\(∀ j (hj:j<l.length),j<i->shortT l[j]=true)/\Below w.heap.size w wr) (fun ii _=>l.length-(intOf ii).toNat)
 case atStart=>exact⟨0,by omega,rfl,fun _ _ h=>absurd h (by omega),Below.refl _ _⟩
 case round =>
  obtain⟨i,hi,rfl,hall,hbel⟩:=hrel;have HALL:=h! hall;clear hall;by_cases hlt:i<l.length
  ·obtain⟨b,off,rfl,hb,c1,c2,c3,c4,c5,c6⟩:=HC.out i hlt;have d1:=(hbel.cell (p:=⟨b,off+i*6,none⟩) hb).trans c1;have d2:=(hbel.cell (p:=⟨b,off+i*6+1,none⟩) hb).trans c2;have d3:=(hbel.cell (p:=⟨b,off+i*6+2,none⟩) hb).trans c3;have d4:=(hbel.cell (p:=⟨b,off+i*6+3,none⟩) hb).trans c4;have d5:=(hbel.cell (p:=⟨b,off+i*6+4,none⟩) hb).trans c5;have d6:=(hbel.cell (p:=⟨b,off+i*6+5,none⟩) hb).trans c6;have HF:=h! (fun h=>fewL_bad hlt h);have HN:=h! (fun h=>upto_succ (p:=fun j hj=>shortT l[j]=true) HALL.out hlt h);clear c1 c2 c3 c4 c5 c6 hb;generalize l[i]=a at *;obtain⟨⟨ot,oi,or_⟩,⟨st,si,sr⟩⟩:=a;dsimp only at *;have hb1:=hbel.alloc hbel.size (.cells #[.string ot,.string oi,.string or_,.string st,.string si,.string sr] 104);have hbk:=(Blk.made wr #[.string ot,.string oi,.string or_,.string st,.string si,.string sr] 104).cells;have HP:=h! (parts_any ⟨⟨ot,oi,or_⟩,⟨st,si,sr⟩⟩ (wr.alloc (.cells #[.string ot,.string oi,.string or_,.string st,.string si,.string sr] 104)));unfold tV at HP;dsimp only at HP;have HB1:=h! hb1;clear hb1;go_wp2_with fail
   refine HP.out.mono ?_;rintro e w2 ⟨rfl,hP2,hb2⟩;have cP:=hP2.cells;simp only[World.size_alloc]at cP ⊢;have HBB:=h! (HB1.out.trans (hb2.mono HB1.out.size));clear HP hP2 hb2 HB1 hbk d1 d2 d3 d4 d5 d6;go_wp2_with fail
   refine wp_loop_rounds 7 ?_;rw[rounds_succ];by_cases hs0:ot.size<=100
   rotate_left
   ·have hg:(100:Int)<(ot.size:Int):=by omega
    have HS:=h! hs0;clear hs0;go_wp2_with fail
    go_ret
    exact⟨congrArg (fun b=>Ending.returned (.bool b)) (HF.out (by simp[shortT,HS.out])).symm,HBB.out⟩
   have hg0:(ot.size:Int)<=100:=by omega
   have HS0:=h! hs0;clear hs0;go_wp2_with fail
   rw[rounds_succ];by_cases hs1:oi.size<=100
   rotate_left
   ·have hg:(100:Int)<(oi.size:Int):=by omega
    have HS:=h! hs1;clear hs1;go_wp2_with fail
    go_ret
    exact⟨congrArg (fun b=>Ending.returned (.bool b)) (HF.out (by simp[shortT,HS.out])).symm,HBB.out⟩
   have hg1:(oi.size:Int)<=100:=by omega
   have HS1:=h! hs1;clear hs1;go_wp2_with fail
   rw[rounds_succ];by_cases hs2:or_.size<=100
   rotate_left
   ·have hg:(100:Int)<(or_.size:Int):=by omega
    have HS:=h! hs2;clear hs2;go_wp2_with fail
    go_ret
    exact⟨congrArg (fun b=>Ending.returned (.bool b)) (HF.out (by simp[shortT,HS.out])).symm,HBB.out⟩
   have hg2:(or_.size:Int)<=100:=by omega
   have HS2:=h! hs2;clear hs2;go_wp2_with fail
   rw[rounds_succ];by_cases hs3:st.size<=100
   rotate_left
   ·have hg:(100:Int)<(st.size:Int):=by omega
    have HS:=h! hs3;clear hs3;go_wp2_with fail
    go_ret
    exact⟨congrArg (fun b=>Ending.returned (.bool b)) (HF.out (by simp[shortT,HS.out])).symm,HBB.out⟩
   have hg3:(st.size:Int)<=100:=by omega
   have HS3:=h! hs3;clear hs3;go_wp2_with fail
   rw[rounds_succ];by_cases hs4:si.size<=100
   rotate_left
   ·have hg:(100:Int)<(si.size:Int):=by omega
    have HS:=h! hs4;clear hs4;go_wp2_with fail
    go_ret
    exact⟨congrArg (fun b=>Ending.returned (.bool b)) (HF.out (by simp[shortT,HS.out])).symm,HBB.out⟩
   have hg4:(si.size:Int)<=100:=by omega
   have HS4:=h! hs4;clear hs4;go_wp2_with fail
   rw[rounds_succ];by_cases hs5:sr.size<=100
   rotate_left
   ·have hg:(100:Int)<(sr.size:Int):=by omega
    have HS:=h! hs5;clear hs5;go_wp2_with fail
    go_ret
    exact⟨congrArg (fun b=>Ending.returned (.bool b)) (HF.out (by simp[shortT,HS.out])).symm,HBB.out⟩
   have hg5:(sr.size:Int)<=100:=by omega
   have HS5:=h! hs5;clear hs5;go_wp2_with fail
   rw[rounds_succ];have HH:=h! (HN.out (by simp[shortT,HS0.out,HS1.out,HS2.out,HS3.out,HS4.out,HS5.out]));clear HN HF;go_wp2_with fail
   go_roundw
   case rel=>exact⟨i+1,by omega,by go_num,HH.out,HBB.out⟩
   case measure=>simp[intOf];omega
  ·obtain rfl:i=l.length:=by omega
   have HE:=h! (fewL_end HALL.out);go_wp2_with fail
   go_ret
   exact⟨congrArg (fun b=>Ending.returned (.bool b)) HE.out.symm,hbel⟩
set_option maxRecDepth 100000 in
set_option maxHeartbeats 6000000 in
theorem hasLaw_any (ts:List TyS)(tv:Value)(l:List Tup)(lv:Value)(shut:List R2)(sv:Value)(p s:P3)(most:Int)(w:World)(h:TysAt (· < w.heap.size) w ts tv)(hbk:schBk ts<=1048576)(hok:∀ t∈ts,t.Ok)
  (hl:Sl (· < w.heap.size) w 6 lv (tuCs l)) (hlo:∀ t∈l,t.Ok) (hsv:Sl (· < w.heap.size) w 2 sv (shut.flatMap r2C)) (hso:∀ r∈shut,r.Ok) (hpo:p.Ok) :
  Calls Tryz.prog 8 #[.agg #[tv],lv,sv,.agg (aC p s),.int .i64 most] w fun e w'=>e = .returned (.bool true)/\Ext w w':=by
 have HBK:=h! hbk;have HOK:=h! hok;have HLO:=h! hlo;have HSO:=h! hso;have HPO:=h! hpo;obtain⟨aot,ct,rfl,-,-,-⟩:=h.rows;obtain⟨aos,cs,rfl,-⟩:=Sl.rows r2C_length (by decide) hsv;obtain⟨wa,hwa⟩:∃ x,x=w.alloc (.cells #[.slice aot ts.length ct] 24):=⟨_,rfl⟩;obtain⟨wb,hwb⟩:∃ x,x=wa.alloc (.cells (aC p s) 65):=⟨_,rfl⟩;have ea:wa.heap.size=w.heap.size+1:=by rw[hwa];simp
 have xa:Ext w wa:=by rw[hwa];exact Ext.alloc _ _
 have xb:Ext wa wb:=by rw[hwb];exact Ext.alloc _ _
 have xx:=xa.trans xb
 have HW:=h! (show AArg w wb w.heap.size (w.heap.size+1) ts (.slice aot ts.length ct) l lv shut (.slice aos shut.length cs) p s from
  ⟨xx,Blk.below (by rw[hwa];exact Blk.made _ _ _) xb,by rw[hwb,<- ea];exact Blk.made _ _ _,h.up xx,(hl.same (Same.below xx)).mono fun _ hb=>Nat.lt_of_lt_of_le hb xx.size,(hsv.same (Same.below xx)).mono fun _ hb=>Nat.lt_of_lt_of_le hb xx.size⟩)
 have HF:=h! (fixed27_any wb);clear h hbk hok hl hlo hsv hso hpo ea xa xb xx;subst hwa;unfold aC;go_enter Tryz.func8,Tryz.ntmps8
 go_wp2_with fail
 rw[show(#[Value.string p.t,.string p.i,.string p.r,.string s.t,.string s.i,.string s.r]:Array Value)=aC p s from rfl];rw[<- hwb];clear hwb;refine HF.out.mono ?_;rintro e w1 ⟨rfl,hb1⟩;have HW1:=h! (HW.out.up hb1);have s1:=HW1.out.S.cells;have HFE:=h! (few05_any ts _ w1 HW1.out.Y HOK.out);clear hb1 HF HW;cases hfe:fewT ts 200 with
 | false =>
  rw[hfe]at HFE;unfold aC;go_wp2_with fail
  refine HFE.out.mono ?_;rintro e w2 ⟨rfl,hb2⟩;go_wp2_with fail
  go_ret
  exact⟨rfl,Ext.trans HW1.out.X hb2⟩
 | true =>
  rw[hfe]at HFE;clear hfe;unfold aC;go_wp2_with fail
  refine HFE.out.mono ?_;rintro e w2 ⟨rfl,hb2⟩;have HW2:=h! (HW1.out.up hb2);have HFL:=h! (few27_any lv l w2 HW2.out.L);clear hb2 HFE s1 HW1;cases hfl:fewL l with
  | false =>
   rw[hfl]at HFL;go_wp2_with fail
   refine HFL.out.mono ?_;rintro e w3 ⟨rfl,hb3⟩;go_wp2_with fail
   go_ret
   exact⟨rfl,Ext.trans HW2.out.X hb3⟩
  | true =>
   rw[hfl]at HFL;have HLL:=h! (fewL_len hfl);clear hfl;go_wp2_with fail
   refine HFL.out.mono ?_;rintro e w3 ⟨rfl,hb3⟩;have HW:=h! (HW2.out.up hb3);clear hb3 HFL HW2;by_cases hsl:(20:Int)<(shut.length:Int)
   ·go_wp2_with fail
    go_ret
    exact⟨rfl,HW.out.X⟩
   have HSL:=h! (show shut.length<=20 from by omega);obtain⟨T,hT⟩:=set_ex l;have HST:=h! hT;clear hT;by_cases hck:chk06 ts=0
   rotate_left
   ·have HCK:=h! hck;clear hck;go_wp2_with fail
    obtain⟨wd,hwd⟩:∃ wd,Hid (wd=w3.drew):=⟨_,h! rfl⟩;have hxd:=h! (show Ext w3 wd from by rw[hwd.out];exact Ext.drew _);refine region_walkN (Ext wd) (by rw[<- hwd.out];exact Ext.refl _) (by kernel_rfl) (by kernel_rfl) (fun _ _ d _ _ h=>by cases d <;> exact h) ?_;rw[<- hwd.out];have HW:=h! (HW.out.up hxd.out);clear hwd hxd;have hs:∀ W,Ext wd W->∀ i,W.cell? ⟨w.heap.size,i,none⟩=(#[.slice aot ts.length ct]:Array Value)[i]?:=fun W h=>(HW.out.S.below h).cells;have hp:∀ W,Ext wd W->∀ i,W.cell? ⟨w.heap.size+1,i,none⟩=(aC p s)[i]?:=fun W h=>(HW.out.P.below h).cells;unfold aC at hp;(refine WalkN.tk [0,1,4,5,6] ?_;(iterate 5 ((refine TkN.c _ ?_ (by simp only[gA,gS,gZ];rfl) (by kernel_rfl) (by kernel_rfl) (by rfl) (fun W hW=>?_) ?_;rotate_left;· (go_simp;try with_reducible rfl));simp only[Act.put,pA,pZ,pS]));refine TkN.n ?_)
    clear hs hp;have HNB:=h! (bookT_any HST.out lv wd HW.out.L (by have:=HLL.out;omega) HLO.out);refine WalkN.one 2 (by kernel_rfl) ?_;refine⟨_,(by simp only[gA,gS,gZ];rfl),by rfl,fun K hK=>?_⟩;go_simp;refine HNB.out.mono ?_;rintro e w4 ⟨bk,rfl,hbk,hb4⟩;refine hK.out _ _ hb4 ?_;clear hK HNB;have HW4:=h! (HW.out.up hb4);have HH:=h! (hasE_any ts (.slice aot ts.length ct) (bkV bk) shut (.slice aos shut.length cs) p s most w4 HW4.out.Y HOK.out HCK.out (by have:=schB_bk ts;have:=HBK.out;omega) (sz_sch HBK.out) (by have:=(names_bk ts).1;have:=HBK.out;omega) (by have:=(names_bk ts).2;have:=HBK.out;omega));unfold aC at HH;clear hbk;((refine WalkN.take 3 _ ?_ (by simp only[gA,gS,gZ];rfl) (by kernel_rfl) (by kernel_rfl) (by rfl) (fun W hW=>?_) ?_;rotate_left;· (go_simp;try with_reducible rfl));simp only[Act.put,pA,pZ,pS])
    refine WalkN.one 7 (by kernel_rfl) ?_;refine⟨_,(by simp only[gA,gS,gZ];rfl),by rfl,fun K hK=>?_⟩;go_simp;refine HH.out.mono ?_;rintro e w5 ⟨rfl,hx5⟩;refine hK.out _ _ (Ext.trans hb4 hx5) ?_;clear hK HH;have HW:=h! (HW4.out.up hx5);clear hb4 hx5 HW4;(refine WalkN.tk [8,9,10,11,12] ?_;(iterate 5 ((refine TkN.c _ ?_ (by simp only[gA,gS,gZ];rfl) (by kernel_rfl) (by kernel_rfl) (by rfl) (fun W hW=>?_) ?_;rotate_left;· (go_simp;try with_reducible rfl));simp only[Act.put,pA,pZ,pS]));refine TkN.n ?_)
    refine WalkN.done (by kernel_rfl) ?_;have HC6:=h! (check06_any ts _ w5 HW.out.Y HOK.out (by have:=schW_bk ts;have:=HBK.out;omega));have s1:=HW.out.S.cells;go_wp2_with fail
    refine HC6.out.mono ?_;rintro e w6 ⟨rfl,hb6⟩;have HW:=h! (HW.out.up hb6);clear hb6 s1 HC6;obtain⟨q,hq,hq0,hq1⟩:∃ q:Int,q=chk06 ts/\(q != 0)=true/\(q == q)=true:=⟨_,rfl,by simpa using HCK.out,by simp⟩;rw[<- hq];clear hq;go_wp2_with fail
    go_ret
    exact⟨rfl,HW.out.X⟩
   ·have HCK:=h! hck;have HHA:=h! (HasArg.of (T:=T) (shut:=shut) (p:=p) hck HOK.out (by have:=schB_bk ts;have:=HBK.out;omega) (by have:=(names_bk ts).1;have:=HBK.out;omega) (by have:=(names_bk ts).2;have:=HBK.out;omega) (by have:=HST.out.len;have:=HLL.out;omega) (fun t ht=>HLO.out t ((HST.out.mem t).1 ht).1) HPO.out HSO.out);clear hck;go_wp2_with fail
    obtain⟨wd,hwd⟩:∃ wd,Hid (wd=w3.drew):=⟨_,h! rfl⟩;have hxd:=h! (show Ext w3 wd from by rw[hwd.out];exact Ext.drew _);refine region_walkN (Ext wd) (by rw[<- hwd.out];exact Ext.refl _) (by kernel_rfl) (by kernel_rfl) (fun _ _ d _ _ h=>by cases d <;> exact h) ?_;rw[<- hwd.out];have HW:=h! (HW.out.up hxd.out);clear hwd hxd;have hs:∀ W,Ext wd W->∀ i,W.cell? ⟨w.heap.size,i,none⟩=(#[.slice aot ts.length ct]:Array Value)[i]?:=fun W h=>(HW.out.S.below h).cells;have hp:∀ W,Ext wd W->∀ i,W.cell? ⟨w.heap.size+1,i,none⟩=(aC p s)[i]?:=fun W h=>(HW.out.P.below h).cells;unfold aC at hp;(refine WalkN.tk [0,1,4,5,6] ?_;(iterate 5 ((refine TkN.c _ ?_ (by simp only[gA,gS,gZ];rfl) (by kernel_rfl) (by kernel_rfl) (by rfl) (fun W hW=>?_) ?_;rotate_left;· (go_simp;try with_reducible rfl));simp only[Act.put,pA,pZ,pS]));refine TkN.n ?_)
    clear hs hp;have HNB:=h! (bookT_any HST.out lv wd HW.out.L (by have:=HLL.out;omega) HLO.out);refine WalkN.one 2 (by kernel_rfl) ?_;refine⟨_,(by simp only[gA,gS,gZ];rfl),by rfl,fun K hK=>?_⟩;go_simp;refine HNB.out.mono ?_;rintro e w4 ⟨bk,rfl,hbk,hb4⟩;refine hK.out _ _ hb4 ?_;clear hK HNB;have HW4:=h! (HW.out.up hb4);have HH:=h! (hasP_any ts (.slice aot ts.length ct) bk T shut (.slice aos shut.length cs) p s most w4 HW4.out.Y HHA.out hbk HW4.out.V);unfold aC at HH;clear hbk;((refine WalkN.take 3 _ ?_ (by simp only[gA,gS,gZ];rfl) (by kernel_rfl) (by kernel_rfl) (by rfl) (fun W hW=>?_) ?_;rotate_left;· (go_simp;try with_reducible rfl));simp only[Act.put,pA,pZ,pS])
    refine WalkN.one 7 (by kernel_rfl) ?_;refine⟨_,(by simp only[gA,gS,gZ];rfl),by rfl,fun K hK=>?_⟩;go_simp;refine HH.out.mono ?_;rintro e w5 ⟨⟨n,b,he,rfl,hd⟩ | ⟨hlong,rfl⟩,hx5⟩
    ·have HE:=h! he;have HD:=h! hd;clear he hd;refine hK.out _ _ (Ext.trans hb4 hx5) ?_;clear hK HH;have HW:=h! (HW4.out.up hx5);clear hb4 hx5 HW4;(refine WalkN.tk [8,9,10,11,12] ?_;(iterate 5 ((refine TkN.c _ ?_ (by simp only[gA,gS,gZ];rfl) (by kernel_rfl) (by kernel_rfl) (by rfl) (fun W hW=>?_) ?_;rotate_left;· (go_simp;try with_reducible rfl));simp only[Act.put,pA,pZ,pS]));refine TkN.n ?_)
     refine WalkN.done (by kernel_rfl) ?_;have HC6:=h! (check06_any ts _ w5 HW.out.Y HOK.out (by have:=schW_bk ts;have:=HBK.out;omega));rw[HCK.out]at HC6;have s1:=HW.out.S.cells;go_wp2_with fail
     refine HC6.out.mono ?_;rintro e w6 ⟨rfl,hb6⟩;have HW:=h! (HW.out.up hb6);clear hb6 s1 HC6;go_wp2_with fail
     obtain⟨wd,hwd⟩:∃ wd,Hid (wd=w6.drew):=⟨_,h! rfl⟩;have hxd:=h! (show Ext w6 wd from by rw[hwd.out];exact Ext.drew _);apply Code.wp_mono (Q:=JoinG (β:=Value) wd (WalkP ts T shut p most (.bool true) (.bool false)) _) ?rest2 ?reg2
     case reg2 =>
      have hE:=h! (Ext.refl wd);refine region_walkN (Ext wd) (by rw[<- hwd.out];exact Ext.refl _) (by kernel_rfl) (by kernel_rfl) (fun _ _ d _ _ h=>by cases h.1) ?_;rw[<- hwd.out];have hs:∀ W,Ext wd W->∀ i,W.cell? ⟨w.heap.size,i,none⟩=(#[.slice aot ts.length ct]:Array Value)[i]?:=fun W h=>((HW.out.up hxd.out).S.below h).cells;have hp:∀ W,Ext wd W->∀ i,W.cell? ⟨w.heap.size+1,i,none⟩=(aC p s)[i]?:=fun W h=>((HW.out.up hxd.out).P.below h).cells;have HNB:=h! (fun W (hW:Ext wd W)=>setT_any HST.out lv W ((HW.out.up hxd.out).up hW).L (by have:=HLL.out;omega) HLO.out);have HWK:=h! (fun W b (hW:Ext wd W) (hB:Sl (· < W.heap.size) W 6 b (tuCs T))=>walkD_any ts _ T b shut _ p most 1000000 W ((HW.out.up hxd.out).up hW).Y (chk_uniq HCK.out) hB ((HW.out.up hxd.out).up hW).V (by have:=HSL.out;omega) HHA.out.wk);unfold aC at hp;unfold pV at HWK;(refine WalkN.tk [0,1,3,4,5,6] ?_;(iterate 6 ((refine TkN.c _ ?_ (by simp only[gA,gS,gZ];rfl) (by kernel_rfl) (by kernel_rfl) (by rfl) (fun W hW=>?_) ?_;rotate_left;· (go_simp;try with_reducible rfl));simp only[Act.put,pA,pZ,pS]));refine TkN.n ?_)
      clear hs hp;refine WalkN.two 2 11 (by kernel_rfl) ?_ ?_;refine⟨_,(by simp only[gA,gS,gZ];rfl),by rfl,fun K hK=>?_⟩;go_simp;refine(HNB.out wd hE.out).mono ?_;rintro e u1 ⟨bk,rfl,hB0,hx0⟩;have hX0:=Ext.trans hE.out hx0;refine hK.out _ _ hX0 ?_;clear hK;have HBK:=h! hB0;have hE:=h! hX0;clear hx0 hX0 hB0;refine WalkN.two 7 11 (by kernel_rfl) ?_ ?_;refine⟨_,(by simp only[gA,gS,gZ];rfl),by rfl,fun K hK=>?_⟩;go_simp;refine(HWK.out u1 bk hE.out HBK.out).mono ?_;rintro e u2 ⟨hx1,ps,fs,po,pc,fo,fc,ev,hP1,rfl,hG1⟩;have hX1:=Ext.trans hE.out hx1;refine hK.out _ _ hX1 ?_;clear hK;have HR:=h! (show GrAt (fun x=>wd.heap.size<=x/\x<u2.heap.size) u2 ps fs (.slice po ps.length pc) (.slice fo fs.length fc)from hG1.mono fun x hx=>⟨Nat.le_trans hE.out.size hx.1,hx.2⟩);have HP:=h! hP1;have HBK:=h! ((HBK.out.same (Same.below hx1)).mono fun x hx=>Nat.lt_of_lt_of_le hx hx1.size);have hE:=h! hX1;clear hx1 hX1 hP1 hG1;((refine WalkN.take 8 _ ?_ (by simp only[gA,gS,gZ];rfl) (by kernel_rfl) (by kernel_rfl) (by rfl) (fun W hW=>?_) ?_;rotate_left;· (go_simp;try with_reducible rfl));simp only[Act.put,pA,pZ,pS])
      ((refine WalkN.take 9 _ ?_ (by simp only[gA,gS,gZ];rfl) (by kernel_rfl) (by kernel_rfl) (by rfl) (fun W hW=>?_) ?_;rotate_left;· (go_simp;try with_reducible rfl));simp only[Act.put,pA,pZ,pS])
      ((refine WalkN.take 10 _ ?_ (by simp only[gA,gS,gZ];rfl) (by kernel_rfl) (by kernel_rfl) (by rfl) (fun W hW=>?_) ?_;rotate_left;· (go_simp;try with_reducible rfl));simp only[Act.put,pA,pZ,pS])
      refine WalkN.one 11 (by kernel_rfl) ?_;refine⟨_,(by simp only[gA,gS,gZ];rfl),by rfl,fun K hK=>?_⟩;go_simp;obtain⟨bg,hbg⟩:∃ x,x=u2.heap.size:=⟨_,rfl⟩;rw[<- hbg];have hA2:=Ext.alloc u2 (.cells #[.slice none 0 0,.slice none 0 0] 37);have hO2:Blk (u2.alloc (.cells #[.slice none 0 0,.slice none 0 0] 37)) bg #[.slice none 0 0,.slice none 0 0] 37:=by rw[hbg];exact Blk.made _ _ _
      have hX2:=Ext.trans hE.out hA2;have HBG:=h! (show wd.heap.size<=bg from by have:=hE.out.size;omega);have HBK:=h! ((HBK.out.same (Same.below hA2)).mono fun x hx=>Nat.lt_of_lt_of_le hx hA2.size);have HR:=h! (show GrAt (fun x=>x≠bg/\wd.heap.size<=x/\x<(u2.alloc (.cells #[.slice none 0 0,.slice none 0 0] 37)).heap.size) (u2.alloc (.cells #[.slice none 0 0,.slice none 0 0] 37)) ps fs (.slice po ps.length pc) (.slice fo fs.length fc)from(HR.out.same fun x hx=>hA2.block x hx.2).mono fun x hx=>⟨fun e=>by have:=hx.2;omega,hx.1,Nat.lt_of_lt_of_le hx.2 hA2.size⟩);refine hK.out _ _ hX2 ?_;clear hK hbg hA2;generalize u2.alloc (.cells #[.slice none 0 0,.slice none 0 0] 37)=u3 at *;have hE:=h! hX2;have HG:=h! hO2;clear hO2 hX2;rotate_left
      refine⟨_,(by simp only[gA,gS,gZ];rfl),by rfl,fun K hK=>?_⟩;go_simp;obtain⟨bg,hbg⟩:∃ x,x=u1.heap.size:=⟨_,rfl⟩;rw[<- hbg];have hA1:=Ext.alloc u1 (.cells #[.slice none 0 0,.slice none 0 0] 37);have hO1:Blk (u1.alloc (.cells #[.slice none 0 0,.slice none 0 0] 37)) bg #[.slice none 0 0,.slice none 0 0] 37:=by rw[hbg];exact Blk.made _ _ _
      have hX1:=Ext.trans hE.out hA1;have HBG:=h! (show wd.heap.size<=bg from by have:=hE.out.size;omega);have HBK:=h! ((HBK.out.same (Same.below hA1)).mono fun x hx=>Nat.lt_of_lt_of_le hx hA1.size);refine hK.out _ _ hX1 ?_;clear hK hbg hA1;generalize u1.alloc (.cells #[.slice none 0 0,.slice none 0 0] 37)=u2 at *;have hE:=h! hX1;have HG:=h! hO1;clear hO1 hX1;refine WalkN.one 7 (by kernel_rfl) ?_;refine⟨_,(by simp only[gA,gS,gZ];rfl),by rfl,fun K hK=>?_⟩;go_simp;refine(HWK.out u2 bk hE.out HBK.out).mono ?_;rintro e u3 ⟨hx2,ps,fs,po,pc,fo,fc,ev,hP2,rfl,hG2⟩;have hX2:=Ext.trans hE.out hx2;refine hK.out _ _ hX2 ?_;clear hK;have HR:=h! (show GrAt (fun x=>x≠bg/\wd.heap.size<=x/\x<u3.heap.size) u3 ps fs (.slice po ps.length pc) (.slice fo fs.length fc)from hG2.mono fun x hx=>⟨fun e=>by have:=HG.out.lt;have:=hx.1;omega,Nat.le_trans hE.out.size hx.1,hx.2⟩);have HG:=h! (HG.out.below hx2);have HP:=h! hP2;have HBK:=h! ((HBK.out.same (Same.below hx2)).mono fun x hx=>Nat.lt_of_lt_of_le hx hx2.size);have hE:=h! hX2;clear hx2 hX2 hP2 hG2;((refine WalkN.take 8 _ ?_ (by simp only[gA,gS,gZ];rfl) (by kernel_rfl) (by kernel_rfl) (by rfl) (fun W hW=>?_) ?_;rotate_left;· (go_simp;try with_reducible rfl));simp only[Act.put,pA,pZ,pS])
      ((refine WalkN.take 9 _ ?_ (by simp only[gA,gS,gZ];rfl) (by kernel_rfl) (by kernel_rfl) (by rfl) (fun W hW=>?_) ?_;rotate_left;· (go_simp;try with_reducible rfl));simp only[Act.put,pA,pZ,pS])
      ((refine WalkN.take 10 _ ?_ (by simp only[gA,gS,gZ];rfl) (by kernel_rfl) (by kernel_rfl) (by rfl) (fun W hW=>?_) ?_;rotate_left;· (go_simp;try with_reducible rfl));simp only[Act.put,pA,pZ,pS])
      rotate_left
      refine⟨_,(by simp only[gA,gS,gZ];rfl),by rfl,fun K hK=>?_⟩;go_simp;obtain⟨bg,hbg⟩:∃ x,x=wd.heap.size:=⟨_,rfl⟩;rw[<- hbg];have hA0:=Ext.alloc wd (.cells #[.slice none 0 0,.slice none 0 0] 37);have hO0:Blk (wd.alloc (.cells #[.slice none 0 0,.slice none 0 0] 37)) bg #[.slice none 0 0,.slice none 0 0] 37:=by rw[hbg];exact Blk.made _ _ _
      have hX0:=Ext.trans hE.out hA0;have HBG:=h! (show wd.heap.size<=bg from by have:=hE.out.size;omega);refine hK.out _ _ hX0 ?_;clear hK hbg hA0;generalize wd.alloc (.cells #[.slice none 0 0,.slice none 0 0] 37)=u1 at *;have hE:=h! hX0;have HG:=h! hO0;clear hO0 hX0;refine WalkN.one 2 (by kernel_rfl) ?_;refine⟨_,(by simp only[gA,gS,gZ];rfl),by rfl,fun K hK=>?_⟩;go_simp;refine(HNB.out u1 hE.out).mono ?_;rintro e u2 ⟨bk,rfl,hB1,hx1⟩;have hX1:=Ext.trans hE.out hx1;refine hK.out _ _ hX1 ?_;clear hK;have HBK:=h! hB1;have HG:=h! (HG.out.below hx1);have hE:=h! hX1;clear hx1 hX1 hB1;refine WalkN.one 7 (by kernel_rfl) ?_;refine⟨_,(by simp only[gA,gS,gZ];rfl),by rfl,fun K hK=>?_⟩;go_simp;refine(HWK.out u2 bk hE.out HBK.out).mono ?_;rintro e u3 ⟨hx2,ps,fs,po,pc,fo,fc,ev,hP2,rfl,hG2⟩;have hX2:=Ext.trans hE.out hx2;refine hK.out _ _ hX2 ?_;clear hK;have HR:=h! (show GrAt (fun x=>x≠bg/\wd.heap.size<=x/\x<u3.heap.size) u3 ps fs (.slice po ps.length pc) (.slice fo fs.length fc)from hG2.mono fun x hx=>⟨fun e=>by have:=HG.out.lt;have:=hx.1;omega,Nat.le_trans hE.out.size hx.1,hx.2⟩);have HG:=h! (HG.out.below hx2);have HP:=h! hP2;have HBK:=h! ((HBK.out.same (Same.below hx2)).mono fun x hx=>Nat.lt_of_lt_of_le hx hx2.size);have hE:=h! hX2;clear hx2 hX2 hP2 hG2;((refine WalkN.take 8 _ ?_ (by simp only[gA,gS,gZ];rfl) (by kernel_rfl) (by kernel_rfl) (by rfl) (fun W hW=>?_) ?_;rotate_left;· (go_simp;try with_reducible rfl));simp only[Act.put,pA,pZ,pS])
      ((refine WalkN.take 9 _ ?_ (by simp only[gA,gS,gZ];rfl) (by kernel_rfl) (by kernel_rfl) (by rfl) (fun W hW=>?_) ?_;rotate_left;· (go_simp;try with_reducible rfl));simp only[Act.put,pA,pZ,pS])
      ((refine WalkN.take 10 _ ?_ (by simp only[gA,gS,gZ];rfl) (by kernel_rfl) (by kernel_rfl) (by rfl) (fun W hW=>?_) ?_;rotate_left;· (go_simp;try with_reducible rfl));simp only[Act.put,pA,pZ,pS])
      rotate_left
      all_goals
       refine WalkN.one 12 (by kernel_rfl) ?_;refine⟨_,(by simp only[gA,gS,gZ];rfl),by rfl,fun K hK=>?_⟩;have hg:=HG.out.cells;have hf:=HG.out.free;go_simp;have hS3:=(HG.out.set_to (cs':=#[.slice po ps.length pc,.slice none 0 0]) 0 (.slice po ps.length pc) rfl).set_to (cs':=#[.slice po ps.length pc,.slice fo fs.length fc]) 1 (.slice fo fs.length fc) rfl;have hX3:Ext wd ((u3.setCell ⟨bg,0,none⟩ (.slice po ps.length pc)).setCell ⟨bg,1,none⟩ (.slice fo fs.length fc)):=Below.setCell (Below.setCell hE.out (p:=⟨bg,0,none⟩) HBG.out _) (p:=⟨bg,1,none⟩) HBG.out _;have hR3:=(HR.out.same (w':=((u3.setCell ⟨bg,0,none⟩ (.slice po ps.length pc)).setCell ⟨bg,1,none⟩ (.slice fo fs.length fc))) fun x hx=>by rw[Below.heap_setCell _ _ _ x hx.1,Below.heap_setCell _ _ _ x hx.1]).mono (T:=fun x=>x≠bg/\wd.heap.size<=x/\x<((u3.setCell ⟨bg,0,none⟩ (.slice po ps.length pc)).setCell ⟨bg,1,none⟩ (.slice fo fs.length fc)).heap.size) fun x hx=>⟨hx.1,hx.2.1,by simpa using hx.2.2⟩;refine hK.out _ _ hX3 ?_;clear hK hg hf;generalize (u3.setCell ⟨bg,0,none⟩ (.slice po ps.length pc)).setCell ⟨bg,1,none⟩ (.slice fo fs.length fc)=u4 at *;((refine WalkN.take 13 _ ?_ (by simp only[gA,gS,gZ];rfl) (by kernel_rfl) (by kernel_rfl) (by rfl) (fun W hW=>?_) ?_;rotate_left;· (go_simp;try with_reducible rfl));simp only[Act.put,pA,pZ,pS])
       refine WalkN.done (by kernel_rfl) ?_;exact⟨rfl,bk,bg,po,pc,fo,fc,ps,fs,ev,rfl,HP.out,hX3,HBG.out,hS3,hR3⟩
     rintro e _ W2 ⟨rfl,bk2,bg2,po2,pc2,fo2,fc2,ps2,fs2,ev2,rfl,hP,hX,hbg,hblk,hgr⟩;dsimp only;have HW:=h! ((HW.out.up hxd.out).up hX);clear hX hbg hblk hgr hxd hwd;rcases hP with⟨n2,he,rfl,rfl,rfl⟩ | ⟨hlong,-⟩
     case inr=>exact absurd hlong HE.out.notLong
     clear he;have HH:=h! (hasD27_any ts (.slice aot ts.length ct) l lv T shut (.slice aos shut.length cs) p s most n W2 HW.out.Y HST.out HW.out.L HLO.out HLL.out HW.out.V HSL.out HHA.out HE.out);have s1:=HW.out.S.cells;have s2:=HW.out.P.cells;unfold aC at HH s2;go_wp2_with fail
     refine HH.out.mono ?_;rintro e w7 ⟨⟨b2,rfl,hb2⟩,hx7⟩;have HX:=h! (HW.out.up hx7).X
     obtain rfl:b=b2:=by
      rw[Bool.eq_iff_iff];exact HD.out.trans hb2.symm
     clear s1 s2 hb2 hx7 HH;cases b <;> (go_wp2_with fail;go_ret;exact⟨rfl,HX.out⟩)
    ·have HLG:=h! hlong;clear hlong;refine hK.out _ _ (Ext.trans hb4 hx5) ?_;clear hK HH;have HW:=h! (HW4.out.up hx5);clear hb4 hx5 HW4;(refine WalkN.tk [8,9,10,11,12] ?_;(iterate 5 ((refine TkN.c _ ?_ (by simp only[gA,gS,gZ];rfl) (by kernel_rfl) (by kernel_rfl) (by rfl) (fun W hW=>?_) ?_;rotate_left;· (go_simp;try with_reducible rfl));simp only[Act.put,pA,pZ,pS]));refine TkN.n ?_)
     refine WalkN.done (by kernel_rfl) ?_;have HC6:=h! (check06_any ts _ w5 HW.out.Y HOK.out (by have:=schW_bk ts;have:=HBK.out;omega));rw[HCK.out]at HC6;have s1:=HW.out.S.cells;go_wp2_with fail
     refine HC6.out.mono ?_;rintro e w6 ⟨rfl,hb6⟩;have HW:=h! (HW.out.up hb6);clear hb6 s1 HC6;go_wp2_with fail
     obtain⟨wd,hwd⟩:∃ wd,Hid (wd=w6.drew):=⟨_,h! rfl⟩;have hxd:=h! (show Ext w6 wd from by rw[hwd.out];exact Ext.drew _);apply Code.wp_mono (Q:=JoinG (β:=Value) wd (WalkP ts T shut p most (.bool true) (.bool false)) _) ?rest3 ?reg3
     case reg3 =>
      have hE:=h! (Ext.refl wd);refine region_walkN (Ext wd) (by rw[<- hwd.out];exact Ext.refl _) (by kernel_rfl) (by kernel_rfl) (fun _ _ d _ _ h=>by cases h.1) ?_;rw[<- hwd.out];have hs:∀ W,Ext wd W->∀ i,W.cell? ⟨w.heap.size,i,none⟩=(#[.slice aot ts.length ct]:Array Value)[i]?:=fun W h=>((HW.out.up hxd.out).S.below h).cells;have hp:∀ W,Ext wd W->∀ i,W.cell? ⟨w.heap.size+1,i,none⟩=(aC p s)[i]?:=fun W h=>((HW.out.up hxd.out).P.below h).cells;have HNB:=h! (fun W (hW:Ext wd W)=>setT_any HST.out lv W ((HW.out.up hxd.out).up hW).L (by have:=HLL.out;omega) HLO.out);have HWK:=h! (fun W b (hW:Ext wd W) (hB:Sl (· < W.heap.size) W 6 b (tuCs T))=>walkD_any ts _ T b shut _ p most 1000000 W ((HW.out.up hxd.out).up hW).Y (chk_uniq HCK.out) hB ((HW.out.up hxd.out).up hW).V (by have:=HSL.out;omega) HHA.out.wk);unfold aC at hp;unfold pV at HWK;(refine WalkN.tk [0,1,3,4,5,6] ?_;(iterate 6 ((refine TkN.c _ ?_ (by simp only[gA,gS,gZ];rfl) (by kernel_rfl) (by kernel_rfl) (by rfl) (fun W hW=>?_) ?_;rotate_left;· (go_simp;try with_reducible rfl));simp only[Act.put,pA,pZ,pS]));refine TkN.n ?_)
      clear hs hp;refine WalkN.two 2 11 (by kernel_rfl) ?_ ?_;refine⟨_,(by simp only[gA,gS,gZ];rfl),by rfl,fun K hK=>?_⟩;go_simp;refine(HNB.out wd hE.out).mono ?_;rintro e u1 ⟨bk,rfl,hB0,hx0⟩;have hX0:=Ext.trans hE.out hx0;refine hK.out _ _ hX0 ?_;clear hK;have HBK:=h! hB0;have hE:=h! hX0;clear hx0 hX0 hB0;refine WalkN.two 7 11 (by kernel_rfl) ?_ ?_;refine⟨_,(by simp only[gA,gS,gZ];rfl),by rfl,fun K hK=>?_⟩;go_simp;refine(HWK.out u1 bk hE.out HBK.out).mono ?_;rintro e u2 ⟨hx1,ps,fs,po,pc,fo,fc,ev,hP1,rfl,hG1⟩;have hX1:=Ext.trans hE.out hx1;refine hK.out _ _ hX1 ?_;clear hK;have HR:=h! (show GrAt (fun x=>wd.heap.size<=x/\x<u2.heap.size) u2 ps fs (.slice po ps.length pc) (.slice fo fs.length fc)from hG1.mono fun x hx=>⟨Nat.le_trans hE.out.size hx.1,hx.2⟩);have HP:=h! hP1;have HBK:=h! ((HBK.out.same (Same.below hx1)).mono fun x hx=>Nat.lt_of_lt_of_le hx hx1.size);have hE:=h! hX1;clear hx1 hX1 hP1 hG1;((refine WalkN.take 8 _ ?_ (by simp only[gA,gS,gZ];rfl) (by kernel_rfl) (by kernel_rfl) (by rfl) (fun W hW=>?_) ?_;rotate_left;· (go_simp;try with_reducible rfl));simp only[Act.put,pA,pZ,pS])
      ((refine WalkN.take 9 _ ?_ (by simp only[gA,gS,gZ];rfl) (by kernel_rfl) (by kernel_rfl) (by rfl) (fun W hW=>?_) ?_;rotate_left;· (go_simp;try with_reducible rfl));simp only[Act.put,pA,pZ,pS])
      ((refine WalkN.take 10 _ ?_ (by simp only[gA,gS,gZ];rfl) (by kernel_rfl) (by kernel_rfl) (by rfl) (fun W hW=>?_) ?_;rotate_left;· (go_simp;try with_reducible rfl));simp only[Act.put,pA,pZ,pS])
      refine WalkN.one 11 (by kernel_rfl) ?_;refine⟨_,(by simp only[gA,gS,gZ];rfl),by rfl,fun K hK=>?_⟩;go_simp;obtain⟨bg,hbg⟩:∃ x,x=u2.heap.size:=⟨_,rfl⟩;rw[<- hbg];have hA2:=Ext.alloc u2 (.cells #[.slice none 0 0,.slice none 0 0] 37);have hO2:Blk (u2.alloc (.cells #[.slice none 0 0,.slice none 0 0] 37)) bg #[.slice none 0 0,.slice none 0 0] 37:=by rw[hbg];exact Blk.made _ _ _
      have hX2:=Ext.trans hE.out hA2;have HBG:=h! (show wd.heap.size<=bg from by have:=hE.out.size;omega);have HBK:=h! ((HBK.out.same (Same.below hA2)).mono fun x hx=>Nat.lt_of_lt_of_le hx hA2.size);have HR:=h! (show GrAt (fun x=>x≠bg/\wd.heap.size<=x/\x<(u2.alloc (.cells #[.slice none 0 0,.slice none 0 0] 37)).heap.size) (u2.alloc (.cells #[.slice none 0 0,.slice none 0 0] 37)) ps fs (.slice po ps.length pc) (.slice fo fs.length fc)from(HR.out.same fun x hx=>hA2.block x hx.2).mono fun x hx=>⟨fun e=>by have:=hx.2;omega,hx.1,Nat.lt_of_lt_of_le hx.2 hA2.size⟩);refine hK.out _ _ hX2 ?_;clear hK hbg hA2;generalize u2.alloc (.cells #[.slice none 0 0,.slice none 0 0] 37)=u3 at *;have hE:=h! hX2;have HG:=h! hO2;clear hO2 hX2;rotate_left
      refine⟨_,(by simp only[gA,gS,gZ];rfl),by rfl,fun K hK=>?_⟩;go_simp;obtain⟨bg,hbg⟩:∃ x,x=u1.heap.size:=⟨_,rfl⟩;rw[<- hbg];have hA1:=Ext.alloc u1 (.cells #[.slice none 0 0,.slice none 0 0] 37);have hO1:Blk (u1.alloc (.cells #[.slice none 0 0,.slice none 0 0] 37)) bg #[.slice none 0 0,.slice none 0 0] 37:=by rw[hbg];exact Blk.made _ _ _
      have hX1:=Ext.trans hE.out hA1;have HBG:=h! (show wd.heap.size<=bg from by have:=hE.out.size;omega);have HBK:=h! ((HBK.out.same (Same.below hA1)).mono fun x hx=>Nat.lt_of_lt_of_le hx hA1.size);refine hK.out _ _ hX1 ?_;clear hK hbg hA1;generalize u1.alloc (.cells #[.slice none 0 0,.slice none 0 0] 37)=u2 at *;have hE:=h! hX1;have HG:=h! hO1;clear hO1 hX1;refine WalkN.one 7 (by kernel_rfl) ?_;refine⟨_,(by simp only[gA,gS,gZ];rfl),by rfl,fun K hK=>?_⟩;go_simp;refine(HWK.out u2 bk hE.out HBK.out).mono ?_;rintro e u3 ⟨hx2,ps,fs,po,pc,fo,fc,ev,hP2,rfl,hG2⟩;have hX2:=Ext.trans hE.out hx2;refine hK.out _ _ hX2 ?_;clear hK;have HR:=h! (show GrAt (fun x=>x≠bg/\wd.heap.size<=x/\x<u3.heap.size) u3 ps fs (.slice po ps.length pc) (.slice fo fs.length fc)from hG2.mono fun x hx=>⟨fun e=>by have:=HG.out.lt;have:=hx.1;omega,Nat.le_trans hE.out.size hx.1,hx.2⟩);have HG:=h! (HG.out.below hx2);have HP:=h! hP2;have HBK:=h! ((HBK.out.same (Same.below hx2)).mono fun x hx=>Nat.lt_of_lt_of_le hx hx2.size);have hE:=h! hX2;clear hx2 hX2 hP2 hG2;((refine WalkN.take 8 _ ?_ (by simp only[gA,gS,gZ];rfl) (by kernel_rfl) (by kernel_rfl) (by rfl) (fun W hW=>?_) ?_;rotate_left;· (go_simp;try with_reducible rfl));simp only[Act.put,pA,pZ,pS])
      ((refine WalkN.take 9 _ ?_ (by simp only[gA,gS,gZ];rfl) (by kernel_rfl) (by kernel_rfl) (by rfl) (fun W hW=>?_) ?_;rotate_left;· (go_simp;try with_reducible rfl));simp only[Act.put,pA,pZ,pS])
      ((refine WalkN.take 10 _ ?_ (by simp only[gA,gS,gZ];rfl) (by kernel_rfl) (by kernel_rfl) (by rfl) (fun W hW=>?_) ?_;rotate_left;· (go_simp;try with_reducible rfl));simp only[Act.put,pA,pZ,pS])
      rotate_left
      refine⟨_,(by simp only[gA,gS,gZ];rfl),by rfl,fun K hK=>?_⟩;go_simp;obtain⟨bg,hbg⟩:∃ x,x=wd.heap.size:=⟨_,rfl⟩;rw[<- hbg];have hA0:=Ext.alloc wd (.cells #[.slice none 0 0,.slice none 0 0] 37);have hO0:Blk (wd.alloc (.cells #[.slice none 0 0,.slice none 0 0] 37)) bg #[.slice none 0 0,.slice none 0 0] 37:=by rw[hbg];exact Blk.made _ _ _
      have hX0:=Ext.trans hE.out hA0;have HBG:=h! (show wd.heap.size<=bg from by have:=hE.out.size;omega);refine hK.out _ _ hX0 ?_;clear hK hbg hA0;generalize wd.alloc (.cells #[.slice none 0 0,.slice none 0 0] 37)=u1 at *;have hE:=h! hX0;have HG:=h! hO0;clear hO0 hX0;refine WalkN.one 2 (by kernel_rfl) ?_;refine⟨_,(by simp only[gA,gS,gZ];rfl),by rfl,fun K hK=>?_⟩;go_simp;refine(HNB.out u1 hE.out).mono ?_;rintro e u2 ⟨bk,rfl,hB1,hx1⟩;have hX1:=Ext.trans hE.out hx1;refine hK.out _ _ hX1 ?_;clear hK;have HBK:=h! hB1;have HG:=h! (HG.out.below hx1);have hE:=h! hX1;clear hx1 hX1 hB1;refine WalkN.one 7 (by kernel_rfl) ?_;refine⟨_,(by simp only[gA,gS,gZ];rfl),by rfl,fun K hK=>?_⟩;go_simp;refine(HWK.out u2 bk hE.out HBK.out).mono ?_;rintro e u3 ⟨hx2,ps,fs,po,pc,fo,fc,ev,hP2,rfl,hG2⟩;have hX2:=Ext.trans hE.out hx2;refine hK.out _ _ hX2 ?_;clear hK;have HR:=h! (show GrAt (fun x=>x≠bg/\wd.heap.size<=x/\x<u3.heap.size) u3 ps fs (.slice po ps.length pc) (.slice fo fs.length fc)from hG2.mono fun x hx=>⟨fun e=>by have:=HG.out.lt;have:=hx.1;omega,Nat.le_trans hE.out.size hx.1,hx.2⟩);have HG:=h! (HG.out.below hx2);have HP:=h! hP2;have HBK:=h! ((HBK.out.same (Same.below hx2)).mono fun x hx=>Nat.lt_of_lt_of_le hx hx2.size);have hE:=h! hX2;clear hx2 hX2 hP2 hG2;((refine WalkN.take 8 _ ?_ (by simp only[gA,gS,gZ];rfl) (by kernel_rfl) (by kernel_rfl) (by rfl) (fun W hW=>?_) ?_;rotate_left;· (go_simp;try with_reducible rfl));simp only[Act.put,pA,pZ,pS])
      ((refine WalkN.take 9 _ ?_ (by simp only[gA,gS,gZ];rfl) (by kernel_rfl) (by kernel_rfl) (by rfl) (fun W hW=>?_) ?_;rotate_left;· (go_simp;try with_reducible rfl));simp only[Act.put,pA,pZ,pS])
      ((refine WalkN.take 10 _ ?_ (by simp only[gA,gS,gZ];rfl) (by kernel_rfl) (by kernel_rfl) (by rfl) (fun W hW=>?_) ?_;rotate_left;· (go_simp;try with_reducible rfl));simp only[Act.put,pA,pZ,pS])
      rotate_left
      all_goals
       refine WalkN.one 12 (by kernel_rfl) ?_;refine⟨_,(by simp only[gA,gS,gZ];rfl),by rfl,fun K hK=>?_⟩;have hg:=HG.out.cells;have hf:=HG.out.free;go_simp;have hS3:=(HG.out.set_to (cs':=#[.slice po ps.length pc,.slice none 0 0]) 0 (.slice po ps.length pc) rfl).set_to (cs':=#[.slice po ps.length pc,.slice fo fs.length fc]) 1 (.slice fo fs.length fc) rfl;have hX3:Ext wd ((u3.setCell ⟨bg,0,none⟩ (.slice po ps.length pc)).setCell ⟨bg,1,none⟩ (.slice fo fs.length fc)):=Below.setCell (Below.setCell hE.out (p:=⟨bg,0,none⟩) HBG.out _) (p:=⟨bg,1,none⟩) HBG.out _;have hR3:=(HR.out.same (w':=((u3.setCell ⟨bg,0,none⟩ (.slice po ps.length pc)).setCell ⟨bg,1,none⟩ (.slice fo fs.length fc))) fun x hx=>by rw[Below.heap_setCell _ _ _ x hx.1,Below.heap_setCell _ _ _ x hx.1]).mono (T:=fun x=>x≠bg/\wd.heap.size<=x/\x<((u3.setCell ⟨bg,0,none⟩ (.slice po ps.length pc)).setCell ⟨bg,1,none⟩ (.slice fo fs.length fc)).heap.size) fun x hx=>⟨hx.1,hx.2.1,by simpa using hx.2.2⟩;refine hK.out _ _ hX3 ?_;clear hK hg hf;generalize (u3.setCell ⟨bg,0,none⟩ (.slice po ps.length pc)).setCell ⟨bg,1,none⟩ (.slice fo fs.length fc)=u4 at *;((refine WalkN.take 13 _ ?_ (by simp only[gA,gS,gZ];rfl) (by kernel_rfl) (by kernel_rfl) (by rfl) (fun W hW=>?_) ?_;rotate_left;· (go_simp;try with_reducible rfl));simp only[Act.put,pA,pZ,pS])
       refine WalkN.done (by kernel_rfl) ?_;exact⟨rfl,bk,bg,po,pc,fo,fc,ps,fs,ev,rfl,HP.out,hX3,HBG.out,hS3,hR3⟩
     rintro e _ W3 ⟨rfl,bk3,bg3,po3,pc3,fo3,fc3,ps3,fs3,ev3,rfl,hP,hX,hbg,hblk,hgr⟩;dsimp only;have HW:=h! ((HW.out.up hxd.out).up hX);clear hX hbg hblk hgr hxd hwd;rcases hP with⟨n2,he,-⟩ | ⟨-,rfl,rfl,rfl⟩
     case inl=>exact absurd HLG.out he.notLong
     have HX:=h! HW.out.X;go_wp2_with fail
     go_ret
     exact⟨rfl,HX.out⟩
end Go.Proofs.YtjdigpfipmckhaaGreat
