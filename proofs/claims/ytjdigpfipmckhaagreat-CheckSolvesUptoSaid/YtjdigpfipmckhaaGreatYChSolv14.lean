/- Lemmas for the claim, no condition. -/
import GoSem.PinnedTables
import Derived.Deep.DeepHandedRow
import Derived.Lib.SmallJoins
import Derived.Test.YtjdigpfipmckhaaGreatYChSolv12
import Derived.Test.YtjdigpfipmckhaaGreatYChSolv4
import Derived.Test.YtjdigpfipmckhaaGreatYChSolv13
import Derived.Test.YtjdigpfipmckhaaGreatYChSolv6
import Derived.Test.YtjdigpfipmckhaaGreatYChSolv1
import Derived.Test.YtjdigpfipmckhaaGreatYChSolv2
import Derived.Test.YtjdigpfipmckhaaGreatYChSolv0
import Derived.Test.YtjdigpfipmckhaaGreatYChSolv7
import Derived.Test.YtjdigpfipmckhaaGreatYChSolv8
import Derived.Test.YtjdigpfipmckhaaGreatYChSolv11
import Derived.Test.YtjdigpfipmckhaaGreatYChSolv10
namespace Go.Proofs.YtjdigpfipmckhaaGreat
open Go Go.RowKit Go.Maps
theorem bookT_any {l T:List Tup} (hT:SetT l T)(v:Value)(w:World)(h:Sl (· < w.heap.size) w 6 v (tuCs l))(hl:l.length<=1000000)(hok:∀ t∈l,t.Ok) :
  Calls Tryz.prog 16 #[v] w fun e w'=>∃ b,e = .returned (.pointer (some ⟨b,0,none⟩))/\BookAt w' b T/\Ext w w':=by
 refine(newBook_any l v w h hl hok).mono ?_;rintro e w' ⟨b,U,rfl,hU,hb,hx⟩;obtain rfl:=hT.uniq hU;exact⟨b,rfl,hb,hx⟩
def WalkP (ts:List TyS)(T:List Tup)(shut:List R2)(p:P3)(most:Int)(ok long:Value)(ps:List P3)(fs:List FT)(ev:Value):Prop :=
 (∃ n,WalkEnd ts T shut p most n/\ps=(walkN ts T shut p n).1/\fs=(walkN ts T shut p n).2/\ev=ok)\/(WalkLong ts T shut p most/\ps=[]/\fs=[]/\ev=long)
structure Ins (l:List R2)(r:R2)(l':List R2):Prop where
 up:UpR l'
 mem:∀ x,x∈l'↔x=r\/x∈l
structure PutI (l:List R2)(r:R2)(i:Nat)(d:Bool)(o:List R2):Prop where
 len:o.length<=i+1
 up:UpR o
 mem:∀ x,x∈o↔(d=true/\x=r)\/x∈l.take i
 lt:∀ x∈o,∀ y∈l.drop i,ltR x y=true
 nd:d=false->∀ x∈o,ltR x r=true
theorem PutI.start {l:List R2} (r:R2):PutI l r 0 false []:=⟨Nat.zero_le _,List.Pairwise.nil,fun x=>by simp,fun x hx=>(by cases hx),fun _ x hx=>(by cases hx)⟩
theorem UpR.nodup {l:List R2} (h:UpR l):l.Nodup:=List.Pairwise.imp (fun h e=>by subst e;rw[ltR_irr]at h;cases h) h
structure BI (ts:List TyS)(N0:Nat)(L A:List R2)(ch:Bool)(pr:List (R2 × RT)):Prop where
 upL:UpR L
 upA:UpR A
 least:LeastP ts L
 subA:∀ x∈A,x∈(refsOf ts).map (·.1)
 len0:N0<=L.length
 more:ch=true->N0<L.length
 done:∀ p∈pr,p.1∈A/\(ch=false->p.2.pcan (refsOf ts) L p.1.t=true->p.1∈L)
theorem BI.start {ts:List TyS} {L A:List R2} (hL:UpR L)(hA:UpR A)(hl:LeastP ts L)(hs:∀ x∈A,x∈(refsOf ts).map (·.1)):BI ts L.length L A false [] :=
 ⟨hL,hA,hl,hs,Nat.le_refl _,fun h=>(by cases h),fun p hp=>(by cases hp)⟩
structure UpOf (o X:List R2):Prop where
 up:UpR o
 mem:∀ x,x∈o↔x∈X
theorem UpOf.nil:UpOf [] []:=⟨List.Pairwise.nil,fun _=>Iff.rfl⟩
theorem UpOf.put {o X o':List R2} {r:R2} (h:UpOf o X)(hi:Ins o r o'):UpOf o' (X++[r]):=⟨hi.up,fun x=>by rw[hi.mem,h.mem,List.mem_append,List.mem_singleton,or_comm]⟩
structure CD (ts:List TyS)(r:R2)(o pr o2:List R2):Prop where
 up:UpR o2
 sub:∀ x∈o,x∈o2
 re:∀ x∈o2,ReachP ts r x
 done:∀ x∈pr,∀ y∈needsP ts x,y∈o2
theorem CD.start {ts:List TyS} {r:R2} {o:List R2} (hu:UpR o)(hr:∀ x∈o,ReachP ts r x):CD ts r o [] o:=⟨hu,fun _ h=>h,hr,fun x hx=>(by cases hx)⟩
theorem CD.put {ts:List TyS} {r y:R2} {o pr o2 o3:List R2} (h:CD ts r o pr o2)(hi:Ins o2 y o3)(hy:ReachP ts r y):CD ts r o pr o3 :=
 ⟨hi.up,fun x hx=>(hi.mem x).2 (.inr (h.sub x hx)),fun x hx=>by
  rcases (hi.mem x).1 hx with rfl | hx
  ·exact hy
  ·exact h.re x hx,fun x hx z hz=>(hi.mem z).2 (.inr (h.done x hx z hz))⟩
theorem chk_long {ts:List TyS} (h:chk06 ts=0):longOk ts=true:=by
 unfold chk06 at h;split at h
 ·split at h
  ·assumption
  ·cases h
 ·cases h
theorem long_small {ts:List TyS} (h:longOk ts=true):ts.length<=16/\∀ t∈ts,t.rels.length<=16/\∀ r∈t.rels,r.2.sz<=32:=by
 unfold longOk at h;rw[Bool.and_eq_true,decide_eq_true_eq,List.all_eq_true]at h;refine⟨h.1,fun t ht=>?_⟩;have h2:=h.2 t ht;unfold tyLong at h2;rw[Bool.and_eq_true,decide_eq_true_eq,List.all_eq_true]at h2;exact⟨h2.1,fun r hr=>by simpa using h2.2 r hr⟩
theorem long_refs {ts:List TyS} (h:longOk ts=true):(refsOf ts).length<=256:=by
 obtain⟨h1,h2⟩:=long_small h;have:=flat_le (fun t:TyS=>relsOf t.name t.rels) 16 ts fun t ht=>by unfold relsOf;rw[List.length_map];exact(h2 t ht).1
 unfold refsOf;omega
end Go.Proofs.YtjdigpfipmckhaaGreat
namespace Go.Proofs.YtjdigpfipmckhaaGreat
open Go Go.RowKit Go.ChangeShapes Go.WideShapes Go.ChangeAt
def bc (l:List UInt8):List Value:=l.map fun c => .int .u8 c.toNat
section
variable {H : Type} {enc : TypeId × Value -> H} {W : World} {base : Nat} {v : Value} {d : DataW H} {ps : List MemPlace}
end
end Go.Proofs.YtjdigpfipmckhaaGreat
namespace Go.Proofs.YtjdigpfipmckhaaGreat
open Go Go.RowKit Go.Maps
def Tp (w:World)(tp:Nat):Prop:=∃ (bv:Value)(l:List UInt8)(n:Nat),n<=l.length/\Sl (· < tp) w 1 bv (bc l)/\Blk w tp #[bv,.int .i64 n] 71
abbrev KT (tp:Nat) (w w':World):Prop:=Kept (fun b=>b<w.heap.size/\b≠tp) w w'
theorem KT.trans {tp:Nat} {w w' w'':World} (h:KT tp w w')(k:KT tp w' w''):KT tp w w'':=Kept.trans h (Kept.mono k fun b hb=>⟨Nat.lt_of_lt_of_le hb.1 h.size,hb.2⟩)
theorem Tp.lt {w:World} {tp:Nat} (h:Tp w tp):tp<w.heap.size:=by
 obtain⟨bv,l,n,hn,hs,hB⟩:=h;exact hB.lt
theorem KT.same {tp:Nat} {w w':World} {S:Nat->Prop} (h:KT tp w w')(hS:∀ b,S b->b<w.heap.size/\b≠tp):Same S w w':=fun b hb=>h.block b (hS b hb)
theorem KT.blk {tp:Nat} {w w':World} (h:KT tp w w') {B:Nat} {cs:Array Value} {e:TypeId} (hB:Blk w B cs e)(hn:B≠tp):Blk w' B cs e:=Kept.blk h hB ⟨hB.lt,hn⟩
def nmV:ByteArray:=⟨#[118,105,101,119,101,114]⟩
def nmO:ByteArray:=⟨#[111,119,110,101,114]⟩
def nmP:ByteArray:=⟨#[112,97,114,101,110,116]⟩
def nmM:ByteArray:=⟨#[109,101,109,98,101,114]⟩
def relNs:List ByteArray:=[nmV,nmO,nmP,nmM]
def LeafR (own:List ByteArray)(r:RT):Prop:=r = .mk 1 ⟨#[]⟩ ⟨#[]⟩ []\/(∃ a∈own,r = .mk 2 a ⟨#[]⟩ [])\/∃ a∈own,∃ b∈relNs.take 2,r = .mk 3 a b []
theorem LeafR.k {own:List ByteArray} {r:RT} (h:LeafR own r):r.k≠0/\r.k≠4/\r.k≠5:=by
 rcases h with rfl | ⟨a,_,rfl⟩ | ⟨a,_,b,_,rfl⟩ <;> simp[RT.k]
theorem LeafR.ps {own:List ByteArray} {r:RT} (h:LeafR own r):r.ps=[]:=by
 rcases h with rfl | ⟨a,_,rfl⟩ | ⟨a,_,b,_,rfl⟩ <;> rfl
theorem Tp.kept {w w':World} {tp:Nat} {K:Nat->Prop} (h:Tp w tp)(hk:Kept K w w')(hK:∀ b,b<=tp->K b):Tp w' tp:=by
 obtain⟨bv,l,n,hn,hs,hB⟩:=h;exact⟨bv,l,n,hn,hs.same fun b hb=>hk.block b (hK b (Nat.le_of_lt hb)),hk.blk hB (hK tp (Nat.le_refl _))⟩
section
variable {α : Type} {e ee : TypeId} {sz : Nat} {El : (Nat -> Prop) -> World -> α -> Prop} {enc : α -> List Value} {rp lo tp n0 : Nat} {pre : List Value} {w w' w7 : World} {q : List α} {pv v7 : Value} {x : α}
end
def ElR (S:Nat->Prop)(w:World)(x:(ByteArray × RT) × Value):Prop:=RTAt S w x.1.2 x.2
def ElT (S:Nat->Prop)(w:World)(x:TyS × Value):Prop:=RelsAt S w x.1.rels x.2
theorem ElR.same {S:Nat->Prop} {w w':World} {x:(ByteArray × RT) × Value} (h:ElR S w x)(hs:Same S w w'):ElR S w' x:=RTAt.same h hs
theorem ElR.mono {S S':Nat->Prop} {w:World} {x:(ByteArray × RT) × Value} (h:ElR S w x)(hs:∀ b,S b->S' b):ElR S' w x:=RTAt.mono h hs
theorem ElT.same {S:Nat->Prop} {w w':World} {x:TyS × Value} (h:ElT S w x)(hs:Same S w w'):ElT S w' x:=RelsAt.same h hs
theorem ElT.mono {S S':Nat->Prop} {w:World} {x:TyS × Value} (h:ElT S w x)(hs:∀ b,S b->S' b):ElT S' w x:=RelsAt.mono h hs
structure FineR (ts:List TyS)(t:TyS)(d n m:Nat)(r:RT):Prop where
 text:∀ k,k+d<=8->r.textOk k=true
 sz:r.sz<=n
 bk:r.bk<=m
 ok:r.Ok
 named:r.named ts t=true
theorem FineR.mono {ts:List TyS} {t:TyS} {d n m d' n' m':Nat} {r:RT} (h:FineR ts t d n m r)(hd:d<=d')(hn:n<=n')(hm:m<=m'):FineR ts t d' n' m' r:=⟨fun k hk=>h.text k (by omega),Nat.le_trans h.sz hn,Nat.le_trans h.bk hm,h.ok,h.named⟩
section
variable {ts : List TyS} {t : TyS} {own : List ByteArray} (hs : ∀ n ∈ own, n ∈ relNs) (hh : ∀ n ∈ own, hasT t n = true) (ha : ∀ n ∈ relNs.take 2, anyT ts n = true)
include hs hh ha
end
theorem nms_len (r:RT):r.nms.length<=2*r.sz:=by
 induction r using RT.ind with
 | h r ih =>
  have:∀ l:List RT,(∀ x∈l,x∈r.ps)->(nmsL l).length<=2*szL l:=by
   intro l;induction l with
   | nil=>intro _;simp[nmsL]
   | cons x l ihl =>
    intro hx;rw[nmsL,szL,List.length_append];have h1:=ih x (hx x (by simp));have h2:=ihl fun y hy=>hx y (List.mem_cons_of_mem _ hy);omega
  have h:=this r.ps fun _ h=>h;rw[RT.nms_eq,List.length_cons,List.length_cons];obtain⟨k,a,b,ps⟩:=r;rw[RT.sz];simp only[RT.ps]at h ⊢;omega
theorem nms_ok (r:RT)(h:r.Ok):∀ n∈r.nms,n.size<=maxLen:=by
 induction r using RT.ind with
 | h r ih =>
  obtain⟨k,a,b,ps⟩:=r;rw[RT.Ok]at h;intro n hn;rw[RT.nms_eq]at hn;simp only[RT.a,RT.b,RT.ps,List.mem_cons]at hn;rcases hn with rfl | rfl | hn
  ·exact Nat.le_trans h.2.1 (by decide)
  ·exact Nat.le_trans h.2.2.1 (by decide)
  ·have hp:=okL_mem.1 h.2.2.2
   have:∀ l:List RT,(∀ x∈l,x∈ps)->∀ n∈nmsL l,n.size<=maxLen:=by
    intro l;induction l with
    | nil=>intro _ n hn;simp[nmsL]at hn
    | cons x l ihl =>
     intro hx n hn;rw[nmsL,List.mem_append]at hn;rcases hn with hn | hn
     ·exact ih x (hx x (by simp)) (hp x (hx x (by simp))) n hn
     ·exact ihl (fun y hy=>hx y (List.mem_cons_of_mem _ hy)) n hn
   exact this ps (fun _ h=>h) n hn
def allN (ts:List TyS):List ByteArray:=(refsOf ts).flatMap fun x=>x.2.nms
theorem allN_mem (ts:List TyS):NmU ts (allN ts):=fun x hx n hn=>List.mem_flatMap.2 ⟨x,hx,hn⟩
theorem flatN_len {α β:Type} (f:α->List β)(m:Nat):∀ (l:List α),(∀ x∈l,(f x).length<=m)->(l.flatMap f).length<=l.length*m
 | [],_=>by simp
 | a::l,h=>by
  rw[List.flatMap_cons,List.length_append,List.length_cons,Nat.add_mul];have h1:=h a (by simp);have h2:=flatN_len f m l fun x hx=>h x (List.mem_cons_of_mem _ hx);omega
theorem refs_sz {ts:List TyS} (h:longOk ts=true):∀ x∈refsOf ts,x.2.sz<=32:=fun x hx=>by
 obtain⟨t,ht,r,hr,rfl⟩:=refs_mem.1 hx;unfold longOk at h;rw[Bool.and_eq_true,List.all_eq_true]at h;have h2:=h.2 t ht;unfold tyLong at h2;rw[Bool.and_eq_true,List.all_eq_true]at h2;simpa using h2.2 r hr
theorem refs_ok {ts:List TyS} (h:∀ t∈ts,t.Ok):∀ x∈refsOf ts,x.2.Ok:=fun x hx=>by
 obtain⟨t,ht,r,hr,rfl⟩:=refs_mem.1 hx;exact((h t ht).2 r hr).2
def objU (T:List Tup)(p:P3):List (ByteArray × ByteArray):=(p.t,p.i)::T.map fun t=>(t.s.t,t.s.i)
def namU (N:List ByteArray)(T:List Tup)(p:P3):List ByteArray:=p.r::(T.map fun t=>t.s.r)++N
theorem okU (T:List Tup)(p:P3)(N:List ByteArray):OkU T (objU T p) (namU N T p) where
 objs t ht:=List.mem_cons_of_mem _ (List.mem_map.2 ⟨t,ht,rfl⟩)
 rels t ht:=by unfold namU;rw[List.cons_append];exact List.mem_cons_of_mem _ (List.mem_append_left _ (List.mem_map.2 ⟨t,ht,rfl⟩))
theorem inU_walk {ts:List TyS} (T:List Tup)(shut:List R2)(p:P3) {N:List ByteArray} (hN:NmU ts N)(n:Nat):∀ x∈(walkN ts T shut p n).1,InU (objU T p) (namU N T p) x :=
 walkN_in (okU T p N) (fun x hx m hm=>by unfold namU;rw[List.cons_append];exact List.mem_cons_of_mem _ (List.mem_append_right _ (hN x hx m hm))) shut ⟨by simp[objU],by simp[namU]⟩ n
theorem walk_few {ts:List TyS} (T:List Tup)(shut:List R2)(p:P3) {N:List ByteArray} (hN:NmU ts N)(n:Nat):(walkN ts T shut p n).1.length<=(T.length+1)*(T.length+N.length+1):=by
 have h:=inU_few (walkN_nodup ts T shut p n) (inU_walk T shut p hN n);simp only[objU,namU,List.length_cons,List.length_append,List.length_map]at h;rwa[show T.length+1+N.length=T.length+N.length+1 by omega]at h
theorem walkIn_chk {ts:List TyS} {T:List Tup} (shut:List R2) {p:P3} (hc:longOk ts=true)(hok:∀ t∈ts,t.Ok)(hT:T.length<=100)(hTo:∀ t∈T,t.Ok)(hp:p.Ok):WalkIn ts T shut p 2000000 where
 okp n x hx:=by
  have h:=inU_walk T shut p (allN_mem ts) n x hx
  have hN:∀ m∈allN ts,m.size<=maxLen:=fun m hm=>by
   obtain⟨y,hy,hm⟩:=List.mem_flatMap.1 hm;exact nms_ok _ (refs_ok hok y hy) m hm
  obtain⟨h1,h2⟩:=h
  have hO:x.t.size<=maxLen/\x.i.size<=maxLen:=by
   rcases List.mem_cons.1 h1 with h1 | h1
   ·have e1:=congrArg Prod.fst h1;have e2:=congrArg Prod.snd h1;dsimp only at e1 e2;rw[e1,e2];exact⟨hp.1,hp.2.1⟩
   ·obtain⟨t,ht,e⟩:=List.mem_map.1 h1;have h3:=(hTo t ht).2;have e1:=congrArg Prod.fst e;have e2:=congrArg Prod.snd e;dsimp only at e1 e2;rw[<- e1,<- e2];exact⟨h3.1,h3.2.1⟩
  refine⟨hO.1,hO.2,?_⟩;unfold namU at h2;rw[List.cons_append,List.mem_cons,List.mem_append]at h2;rcases h2 with h2 | h2 | h2
  ·rw[h2];exact hp.2.2
  ·obtain⟨t,ht,e⟩:=List.mem_map.1 h2;rw[<- e];exact(hTo t ht).2.2.2
  ·exact hN _ h2
 few n:=by
  have h:=walk_few T shut p (allN_mem ts) n
  have h2:(allN ts).length<=256*64:=by
   have h3:=flatN_len (fun x:R2 × RT=>x.2.nms) 64 (refsOf ts) fun x hx=>by have:=nms_len x.2;have:=refs_sz hc x hx;omega
   have h4:=long_refs hc;unfold allN;exact Nat.le_trans h3 (Nat.mul_le_mul_right _ h4)
  have h5:(T.length+1)*(T.length+(allN ts).length+1)<=101*(100+256*64+1):=Nat.mul_le_mul (by omega) (by omega);omega
 room x hx:=by
  have h1:=refs_sz hc x hx;have h2:x.2.sz*(T.length+1)<=32*101:=Nat.mul_le_mul h1 (by omega);omega
 nmax:=by omega
 rok:=refs_ok hok
 tok t ht:=(hTo t ht).2
 tlen:=by omega
theorem WalkP.done {ts:List TyS} {T:List Tup} {shut:List R2} {p:P3} {most:Int} {ok long:Value} {ps:List P3} {fs:List FT} {ev:Value} (h:WalkP ts T shut p most ok long ps fs ev)(hm:∀ n,((walkN ts T shut p n).1.length:Int)<=most) :
  ∃ n,WalkEnd ts T shut p most n/\ps=(walkN ts T shut p n).1/\fs=(walkN ts T shut p n).2/\ev=ok:=by
 rcases h with h | ⟨⟨n,h1,h2,h3⟩,-⟩
 ·exact h
 ·have:=hm n;omega
theorem obj_any (a b:ByteArray)(w:World):Calls Tryz.prog 90 #[.string a,.string b] w fun e w'=>e = .returned (.agg #[.string a,.string b])/\Ext w w':=by
 go_enter Tryz.func90,Tryz.ntmps90
 go_wp2_with fail
 exact bodyPost_ret (results_cell_row rfl _ _ w.heap.size 28 #[.string a,.string b] (0,0) _ rfl (heap_alloc_new w _) Tryz.underlying28 rfl (by kernel_rfl)) rfl ⟨rfl,Ext.alloc _ _⟩
theorem HasArg.of {ts:List TyS} {T:List Tup} {shut:List R2} {p:P3} (hc:chk06 ts=0)(hok:∀ t∈ts,t.Ok)(hb:schB ts<=549755813888)(hn:(namesOf ts).length<=1099511627776)(hr:(refsOf ts).length<=1099511627776)(hT:T.length<=41)(hTo:∀ t∈T,t.Ok)(hp:p.Ok)(hso:∀ r∈shut,r.Ok):HasArg ts T shut p:=by
 have hl:=chk_long hc;have hw:=walkIn_chk (T:=T) shut hl hok (by omega) hTo hp;have hsz:∀ t∈ts,∀ r∈t.rels,r.2.sz<=32:=fun t ht r hr'=>refs_sz hl ⟨⟨t.name,r.1⟩,r.2⟩ (refs_mem.2 ⟨t,ht,r,hr',rfl⟩)
 have hN:∀ n,(walkN ts T shut p n).1.length<=1000000:=fun n=>by
  have h:=walk_few T shut p (allN_mem ts) n
  have h2:(allN ts).length<=256*64:=by
   have h3:=flatN_len (fun x:R2 × RT=>x.2.nms) 64 (refsOf ts) fun x hx=>by have:=nms_len x.2;have:=refs_sz hl x hx;omega
   have h4:=long_refs hl;unfold allN;exact Nat.le_trans h3 (Nat.mul_le_mul_right _ h4)
  have h5:(T.length+1)*(T.length+(allN ts).length+1)<=42*(41+256*64+1):=Nat.mul_le_mul (by omega) (by omega);omega
 have hrm:∀ x∈refsOf ts,x.2.sz*(T.length+1)<=32*42:=fun x hx=>Nat.mul_le_mul (refs_sz hl x hx) (by omega)
 exact⟨hok,hc,hb,fun t ht r hr'=>Nat.le_trans (hsz t ht r hr') (by decide),hn,hr,hso,
  ⟨hw.okp,hN,fun x hx=>by have:=hrm x hx;omega,by decide,hw.rok,hw.tok,hw.tlen⟩,fun x hx=>by have:=hrm x hx;omega⟩
def viB:ByteArray:=⟨#[118,105,101,119,101,114]⟩
def meB:ByteArray:=⟨#[109,101,109,98,101,114]⟩
def grB:ByteArray:=⟨#[103,114,111,117,112]⟩
def usB:ByteArray:=⟨#[117,115,101,114]⟩
def thB:ByteArray:=⟨#[116,104,105,115]⟩
def txt27:ByteArray:=⟨#[116,121,112,101,32,100,111,99,10,118,105,101,119,101,114,32,61,32,116,104,105,115,10,116,121,112,101,32,103,114,111,117,112,10,109,101,109,98,101,114,32,61,32,116,104,105,115,10,116,121,112,101,32,117,115,101,114]⟩
def its27:List PIt:=[.ty docB,.rel viB thB [],.ty grB,.rel meB thB [],.ty usB]
def lns27:List ByteArray:=[⟨#[116,121,112,101,32,100,111,99]⟩,⟨#[118,105,101,119,101,114,32,61,32,116,104,105,115]⟩,⟨#[116,121,112,101,32,103,114,111,117,112]⟩,⟨#[109,101,109,98,101,114,32,61,32,116,104,105,115]⟩,⟨#[116,121,112,101,32,117,115,101,114]⟩]
def ts27:List TyS:=[⟨docB,[(viB,.mk 1 ⟨#[]⟩ ⟨#[]⟩ [])]⟩,⟨grB,[(meB,.mk 1 ⟨#[]⟩ ⟨#[]⟩ [])]⟩,⟨usB,[]⟩]
theorem lines27:linesD txt27=lns27:=by kernel_rfl
theorem step27:its27.foldl stepD []=ts27:=by kernel_rfl
theorem lnsOk27:(lns27.zip its27).all (fun p=>lnOkB p.1 p.2)=true:=by kernel_rfl
theorem fits27:its27.all PIt.fitB=true:=by kernel_rfl
theorem chk27:chk06 ts27=0:=by kernel_rfl
theorem ok27:∀ t∈ts27,t.Ok:=by
 intro t ht;unfold ts27 at ht;simp only[List.mem_cons,List.not_mem_nil,or_false]at ht;rcases ht with rfl | rfl | rfl
 ·refine⟨by decide,fun r hr=>?_⟩;obtain rfl:=List.mem_singleton.1 hr;exact⟨by decide,by simp[RT.Ok,okL];decide⟩
 ·refine⟨by decide,fun r hr=>?_⟩;obtain rfl:=List.mem_singleton.1 hr;exact⟨by decide,by simp[RT.Ok,okL];decide⟩
 ·exact⟨by decide,fun r hr=>by cases hr⟩
def p27:P3:=⟨docB,⟨#[49]⟩,viB⟩
def u27:P3:=⟨usB,⟨#[49]⟩,⟨#[]⟩⟩
def v27:P3:=⟨usB,⟨#[50]⟩,⟨#[]⟩⟩
def l27:List Tup:=[⟨p27,⟨grB,⟨#[49]⟩,meB⟩⟩,⟨⟨grB,⟨#[49]⟩,meB⟩,u27⟩]
theorem set27:SetT l27 l27:=⟨List.pairwise_cons.2 ⟨fun y hy=>by obtain rfl:=List.mem_singleton.1 hy;kernel_rfl,List.pairwise_singleton _ _⟩,fun t=>⟨fun h=>⟨h,by
 unfold l27 at h;simp only[List.mem_cons,List.not_mem_nil,or_false]at h;rcases h with rfl | rfl
 ·kernel_rfl
 ·kernel_rfl⟩,fun h=>h.1⟩⟩
theorem ok27l:∀ t∈l27,t.Ok:=by
 intro t ht;unfold l27 at ht;simp only[List.mem_cons,List.not_mem_nil,or_false]at ht;rcases ht with rfl | rfl
 ·exact⟨⟨by decide,by decide,by decide⟩,⟨by decide,by decide,by decide⟩⟩
 ·exact⟨⟨by decide,by decide,by decide⟩,⟨by decide,by decide,by decide⟩⟩
theorem arg27:HasArg ts27 l27 [] p27:=HasArg.of chk27 ok27 (by decide) (by decide) (by decide) (by decide) ok27l ⟨by decide,by decide,by decide⟩ (by simp)
theorem end27:WalkEnd ts27 l27 [] p27 9 2:=by
 have h0:(walkN ts27 l27 [] p27 0).1.length=1:=by kernel_rfl
 have h1:(walkN ts27 l27 [] p27 1).1.length=2:=by kernel_rfl
 have h2:(walkN ts27 l27 [] p27 2).1.length=2:=by kernel_rfl
 refine⟨fun m hm=>?_,h2.symm⟩;obtain rfl | rfl:m=0\/m=1:=by omega
 ·rw[h0];exact⟨by decide,by decide⟩
 ·rw[h1];exact⟨by decide,by decide⟩
theorem yes27:(outN (walkN ts27 l27 [] p27 2).2 u27 2 2).getD 0 0=2:=by kernel_rfl
theorem no27:(outN (walkN ts27 l27 [] p27 2).2 v27 2 2).getD 0 0=0:=by kernel_rfl
theorem said27 {s:P3} {e:Ending} (bb:Bool)(hs:bb=true↔0<(outN (walkN ts27 l27 [] p27 2).2 s 2 2).getD 0 0)(h:HasSaid ts27 l27 [] p27 s 9 e):e = .returned (.tuple #[.bool bb,.int .i64 0]):=by
 rcases h with⟨n,b,hw,rfl,hb⟩ | ⟨hl,-⟩
 ·obtain rfl:=hw.uniq end27
  have:b=bb:=by
   rw[Bool.eq_iff_iff,hb,hs];rfl
  rw[this]
 ·exact absurd hl end27.notLong
theorem has27_any (tv:Value)(s:P3)(bb:Bool)(hs:bb=true↔0<(outN (walkN ts27 l27 [] p27 2).2 s 2 2).getD 0 0)(w:World)(b:Nat)(h:TysAt (· < w.heap.size) w ts27 tv)(hb:BookAt w b l27) :
  Calls Tryz.prog 42 #[.agg #[tv],bkV b,.slice none 0 0,.agg (aC p27 s),.int .i64 9] w fun e w'=>e = .returned (.tuple #[.bool bb,.int .i64 0])/\Ext w w':=by
 refine(hasP_any ts27 tv b l27 [] (.slice none 0 0) p27 s 9 w h arg27 hb (Sl.nil _ _ _)).mono ?_;rintro e w' ⟨hh,hx⟩;exact⟨said27 bb hs hh,hx⟩
theorem yesS:true=true↔0<(outN (walkN ts27 l27 [] p27 2).2 u27 2 2).getD 0 0:=by rw[yes27];decide
theorem noS:false=true↔0<(outN (walkN ts27 l27 [] p27 2).2 v27 2 2).getD 0 0:=by rw[no27];decide
set_option maxRecDepth 100000 in
set_option maxHeartbeats 2000000 in
theorem fixed27_any (w:World):Calls Tryz.prog 40 #[] w fun e w'=>e = .returned (.bool true)/\Below w.heap.size w w':=by
 have HPA:=h! (parse_any txt27 its27 w (by decide) (by rw[lines27];rfl) (by rw[lines27];exact lnsOk_of lnsOk27) (fits_of fits27) (fun _=>⟨docB,rfl⟩) (by decide));rw[step27]at HPA;unfold txt27 at HPA;go_enter Tryz.func40,Tryz.ntmps40
 go_wp2_with fail
 refine HPA.out.mono ?_;rintro e w1 ⟨tv,rfl,hty,hb1⟩;obtain⟨aot,ct,rfl,-,-,-⟩:=hty.rows;rw[show ts27.length=3 from rfl]at *;have HX1:=h! (Ext.alloc w1 (.cells #[.slice aot 3 ct] 24));have HTY:=h! ((hty.mono (S':=(· < w1.heap.size)) fun b hb=>hb.2).up HX1.out);have HB1:=h! (show Below w.heap.size w _ from hb1.trans (HX1.out.mono hb1.size));have HS1:=h! (Blk.made w1 #[.slice aot 3 ct] 24);have HO1:=h! (fun W=>obj_any docB ⟨#[49]⟩ W);have HO2:=h! (fun W=>obj_any grB ⟨#[49]⟩ W);have HO3:=h! (fun W=>obj_any usB ⟨#[49]⟩ W);unfold docB at HO1;unfold grB at HO2;unfold usB at HO3;clear hty hb1 HPA;go_wp2_with fail
 refine(HO1.out _).mono ?_;rintro e w2 ⟨rfl,hx2⟩;go_wp2_with fail
 refine(HO2.out _).mono ?_;rintro e w3 ⟨rfl,hx3⟩;go_wp2_with fail
 refine(HO2.out _).mono ?_;rintro e w4 ⟨rfl,hx4⟩;go_wp2_with fail
 refine(HO3.out _).mono ?_;rintro e w5 ⟨rfl,hx5⟩;have X5:=h! (Ext.trans hx2 (Ext.trans hx3 (Ext.trans hx4 hx5)));clear hx2 hx3 hx4 hx5;have HL5:=h! (show Sl (fun b=>b<(w5.alloc (.cells (tuCs l27).toArray 104)).heap.size) (w5.alloc (.cells (tuCs l27).toArray 104)) 6 (.slice (some ⟨w5.heap.size,0,none⟩) 2 2) (tuCs l27)from Sl.made w5 _ 6 2 104 _ rfl (by decide) (by simp));have X6:=h! (show Ext w5 (w5.alloc (.cells (tuCs l27).toArray 104))from Ext.alloc _ _);go_wp2_with fail
 have hcs:(#[.string ⟨#[100,111,99]⟩,.string ⟨#[49]⟩,.string ⟨#[118,105,101,119,101,114]⟩,.string ⟨#[103,114,111,117,112]⟩,.string ⟨#[49]⟩,.string ⟨#[109,101,109,98,101,114]⟩,.string ⟨#[103,114,111,117,112]⟩,.string ⟨#[49]⟩,.string ⟨#[109,101,109,98,101,114]⟩,.string ⟨#[117,115,101,114]⟩,.string ⟨#[49]⟩,.string ⟨#[]⟩]:Array Value)=(tuCs l27).toArray:=by kernel_rfl
 try rw[hcs]
 clear hcs;obtain⟨w6,hw6⟩:∃ y,y=w5.alloc (.cells (tuCs l27).toArray 104):=⟨_,rfl⟩;rw[<- hw6]at HL5 X6 ⊢;clear hw6;obtain⟨g4,hg4⟩:∃ y,Hid (y=w5.heap.size):=⟨_,h! rfl⟩;rw[<- hg4.out]at HL5 ⊢;refine(HO1.out _).mono ?_;rintro e w7 ⟨rfl,hx7⟩;have X8:=h! (Ext.alloc w7 (.cells #[.string ⟨#[100,111,99]⟩,.string ⟨#[49]⟩,.string ⟨#[118,105,101,119,101,114]⟩] 30));have HP8:=h! (Blk.made w7 #[.string ⟨#[100,111,99]⟩,.string ⟨#[49]⟩,.string ⟨#[118,105,101,119,101,114]⟩] 30);have X68:=h! (Ext.trans hx7 X8.out);clear hx7;go_wp2_with fail
 obtain⟨w8,hw8⟩:∃ y,y=w7.alloc (.cells #[.string ⟨#[100,111,99]⟩,.string ⟨#[49]⟩,.string ⟨#[118,105,101,119,101,114]⟩] 30):=⟨_,rfl⟩;rw[<- hw8]at HP8 X68 ⊢;clear hw8 X8;have X18:=h! (Ext.trans X5.out (Ext.trans X6.out X68.out));have HBT:=h! (show Below w.heap.size w w8 from Below.trans HB1.out (Below.mono X18.out HB1.out.size));have HT4:=h! (fun W (hW:Ext w8 W)=>HTY.out.up (Ext.trans X18.out hW));have HS4:=h! (fun W (hW:Ext w8 W)=>HS1.out.below (Ext.trans X18.out hW));have HP4:=h! (fun W (hW:Ext w8 W)=>HP8.out.below hW);have HL4:=h! (fun W (hW:Ext w8 W)=>show Sl (· < W.heap.size) W 6 (.slice (some ⟨g4,0,none⟩) 2 2) (tuCs l27)from(HL5.out.same (Same.below (Ext.trans X68.out hW))).mono fun _ hb=>Nat.lt_of_lt_of_le hb (Ext.trans X68.out hW).size);clear HX1 HTY HB1 HS1 X5 X6 X68 HL5 HP8 hg4;generalize w1.heap.size=s1 at *;generalize w7.heap.size=s7 at *;obtain⟨wd,hwd⟩:∃ wd,Hid (wd=w8.drew):=⟨_,h! rfl⟩;have hxd:=h! (show Ext w8 wd from by rw[hwd.out];exact Ext.drew _);apply Code.wp_mono (Q:=J1 (fun(bk:Nat) W=>Ext wd W) _) ?rest4 ?reg4
 case reg4 =>
  have hE:=h! (Ext.refl wd);refine region_walkN (Ext wd) (by rw[<- hwd.out];exact Ext.refl _) (by kernel_rfl) (by kernel_rfl) (fun _ _ d _ _ h=>by cases h.1) ?_;rw[<- hwd.out];have HNB:=h! (fun W (hW:Ext wd W)=>bookT_any set27 (.slice (some ⟨g4,0,none⟩) 2 2) W ((HL4.out W (Ext.trans hxd.out hW))) (by decide) ok27l);have HOB:=h! (fun W=>obj_any usB ⟨#[49]⟩ W);have HHS:=h! (fun W b (hW:Ext wd W) (hB:BookAt W b l27)=>has27_any (.slice aot 3 ct) u27 true yesS W b (HT4.out W (Ext.trans hxd.out hW)) hB);have hs:=fun W (h:Ext wd W)=>(HS4.out W (Ext.trans hxd.out h)).cells;have hp:=fun W (h:Ext wd W)=>(HP4.out W (Ext.trans hxd.out h)).cells;unfold aC at HHS;unfold usB at HOB;dsimp only[p27,u27,v27,docB,viB,usB]at HHS;(refine WalkN.tk [0,1,4] ?_;(iterate 3 ((refine TkN.c _ ?_ (by simp only[gA,gS,gZ];rfl) (by kernel_rfl) (by kernel_rfl) (by rfl) (fun W hW=>?_) ?_;rotate_left;· (go_simp;try with_reducible rfl));simp only[Act.put,pA,pZ,pS]));refine TkN.n ?_)
  clear hs hp;refine WalkN.one 2 (by kernel_rfl) ?_;refine⟨_,(by simp only[gA,gS,gZ];rfl),by rfl,fun K hK=>?_⟩;go_simp;refine(HNB.out wd hE.out).mono ?_;rintro e u1 ⟨bk,rfl,hB0,hx0⟩;have hX0:=Ext.trans hE.out hx0;refine hK.out _ _ hX0 ?_;clear hK;have HBK:=h! hB0;clear hB0;have hE:=h! hX0;clear hx0 hX0;((refine WalkN.take 3 _ ?_ (by simp only[gA,gS,gZ];rfl) (by kernel_rfl) (by kernel_rfl) (by rfl) (fun W hW=>?_) ?_;rotate_left;· (go_simp;try with_reducible rfl));simp only[Act.put,pA,pZ,pS])
  refine WalkN.one 5 (by kernel_rfl) ?_;refine⟨_,(by simp only[gA,gS,gZ];rfl),by rfl,fun K hK=>?_⟩;go_simp;refine(HOB.out u1).mono ?_;rintro e u2 ⟨rfl,hx1⟩;have hX1:=Ext.trans hE.out hx1;refine hK.out _ _ hX1 ?_;clear hK;have HBK:=h! (HBK.out.ext hx1);have hE:=h! hX1;clear hx1 hX1;(refine WalkN.tk [6,7] ?_;(iterate 2 ((refine TkN.c _ ?_ (by simp only[gA,gS,gZ];rfl) (by kernel_rfl) (by kernel_rfl) (by rfl) (fun W hW=>?_) ?_;rotate_left;· (go_simp;try with_reducible rfl));simp only[Act.put,pA,pZ,pS]));refine TkN.n ?_)
  refine WalkN.one 8 (by kernel_rfl) ?_;refine⟨_,(by simp only[gA,gS,gZ];rfl),by rfl,fun K hK=>?_⟩;go_simp;refine(HHS.out u2 bk hE.out HBK.out).mono ?_;rintro e u3 ⟨rfl,hx2⟩;have hX2:=Ext.trans hE.out hx2;refine hK.out _ _ hX2 ?_;clear hK;have hE:=h! hX2;clear hx2 hX2;(refine WalkN.tk [9,10,11,12,13] ?_;(iterate 5 ((refine TkN.c _ ?_ (by simp only[gA,gS,gZ];rfl) (by kernel_rfl) (by kernel_rfl) (by rfl) (fun W hW=>?_) ?_;rotate_left;· (go_simp;try with_reducible rfl));simp only[Act.put,pA,pZ,pS]));refine TkN.n ?_)
  refine WalkN.done (by kernel_rfl) ?_;exact⟨rfl,bk,rfl,hE.out⟩
 rintro e _ W4 ⟨rfl,bk4,rfl,hX⟩;dsimp only;have X9:=h! (show Ext w8 W4 from Ext.trans hxd.out hX);clear hX hxd hwd;go_wp2_with fail
 obtain⟨wd,hwd⟩:∃ wd,Hid (wd=W4.drew):=⟨_,h! rfl⟩;have hxd:=h! (show Ext W4 wd from by rw[hwd.out];exact Ext.drew _);apply Code.wp_mono (Q:=J1 (fun(bk:Nat) W=>Ext wd W) _) ?rest5 ?reg5
 case reg5 =>
  have hE:=h! (Ext.refl wd);refine region_walkN (Ext wd) (by rw[<- hwd.out];exact Ext.refl _) (by kernel_rfl) (by kernel_rfl) (fun _ _ d _ _ h=>by cases h.1) ?_;rw[<- hwd.out];have HNB:=h! (fun W (hW:Ext wd W)=>bookT_any set27 (.slice (some ⟨g4,0,none⟩) 2 2) W ((HL4.out W (Ext.trans X9.out (Ext.trans hxd.out hW)))) (by decide) ok27l);have HOB:=h! (fun W=>obj_any usB ⟨#[50]⟩ W);have HHS:=h! (fun W b (hW:Ext wd W) (hB:BookAt W b l27)=>has27_any (.slice aot 3 ct) v27 false noS W b (HT4.out W (Ext.trans X9.out (Ext.trans hxd.out hW))) hB);have hs:=fun W (h:Ext wd W)=>(HS4.out W (Ext.trans X9.out (Ext.trans hxd.out h))).cells;have hp:=fun W (h:Ext wd W)=>(HP4.out W (Ext.trans X9.out (Ext.trans hxd.out h))).cells;unfold aC at HHS;unfold usB at HOB;dsimp only[p27,u27,v27,docB,viB,usB]at HHS;(refine WalkN.tk [0,1,4] ?_;(iterate 3 ((refine TkN.c _ ?_ (by simp only[gA,gS,gZ];rfl) (by kernel_rfl) (by kernel_rfl) (by rfl) (fun W hW=>?_) ?_;rotate_left;· (go_simp;try with_reducible rfl));simp only[Act.put,pA,pZ,pS]));refine TkN.n ?_)
  clear hs hp;refine WalkN.one 2 (by kernel_rfl) ?_;refine⟨_,(by simp only[gA,gS,gZ];rfl),by rfl,fun K hK=>?_⟩;go_simp;refine(HNB.out wd hE.out).mono ?_;rintro e u1 ⟨bk,rfl,hB0,hx0⟩;have hX0:=Ext.trans hE.out hx0;refine hK.out _ _ hX0 ?_;clear hK;have HBK:=h! hB0;clear hB0;have hE:=h! hX0;clear hx0 hX0;((refine WalkN.take 3 _ ?_ (by simp only[gA,gS,gZ];rfl) (by kernel_rfl) (by kernel_rfl) (by rfl) (fun W hW=>?_) ?_;rotate_left;· (go_simp;try with_reducible rfl));simp only[Act.put,pA,pZ,pS])
  refine WalkN.one 5 (by kernel_rfl) ?_;refine⟨_,(by simp only[gA,gS,gZ];rfl),by rfl,fun K hK=>?_⟩;go_simp;refine(HOB.out u1).mono ?_;rintro e u2 ⟨rfl,hx1⟩;have hX1:=Ext.trans hE.out hx1;refine hK.out _ _ hX1 ?_;clear hK;have HBK:=h! (HBK.out.ext hx1);have hE:=h! hX1;clear hx1 hX1;(refine WalkN.tk [6,7] ?_;(iterate 2 ((refine TkN.c _ ?_ (by simp only[gA,gS,gZ];rfl) (by kernel_rfl) (by kernel_rfl) (by rfl) (fun W hW=>?_) ?_;rotate_left;· (go_simp;try with_reducible rfl));simp only[Act.put,pA,pZ,pS]));refine TkN.n ?_)
  refine WalkN.one 8 (by kernel_rfl) ?_;refine⟨_,(by simp only[gA,gS,gZ];rfl),by rfl,fun K hK=>?_⟩;go_simp;refine(HHS.out u2 bk hE.out HBK.out).mono ?_;rintro e u3 ⟨rfl,hx2⟩;have hX2:=Ext.trans hE.out hx2;refine hK.out _ _ hX2 ?_;clear hK;have hE:=h! hX2;clear hx2 hX2;(refine WalkN.tk [9,10,11,12,13] ?_;(iterate 5 ((refine TkN.c _ ?_ (by simp only[gA,gS,gZ];rfl) (by kernel_rfl) (by kernel_rfl) (by rfl) (fun W hW=>?_) ?_;rotate_left;· (go_simp;try with_reducible rfl));simp only[Act.put,pA,pZ,pS]));refine TkN.n ?_)
  refine WalkN.done (by kernel_rfl) ?_;exact⟨rfl,bk,rfl,hE.out⟩
 rintro e _ W5 ⟨rfl,bk5,rfl,hX⟩;dsimp only;have HBE:=h! (show Below w.heap.size w W5 from Below.trans HBT.out (Below.mono (Ext.trans X9.out (Ext.trans hxd.out hX)) HBT.out.size));clear hX hxd hwd;go_wp2_with fail
 go_ret
 exact⟨rfl,HBE.out⟩
set_option maxRecDepth 100000 in
set_option maxHeartbeats 4000000 in
theorem solvesLaw_any (ps:List P3)(fs:List FT)(pv fv:Value)(s:P3)(bs:List Bool)(iv:Value)(w:World)(h:GrAt (· < w.heap.size) w ps fs pv fv)(hb:bkF fs<=1048576)(hi:Sl (· < w.heap.size) w 1 iv (boC bs)) :
  Calls Tryz.prog 9 #[.agg #[pv,fv],pV s,iv] w fun e w'=>e = .returned (.bool true)/\Below w.heap.size w w':=by
 obtain⟨ap,cp,af,cf,rfl,rfl,-,-,-,-,-⟩:=h.rows;obtain⟨ai,ci,rfl,-,-,-⟩:=bools_at hi;have H1:=h! (fun W (hx:Ext w W)=>h.up hx);have H2:=h! (fun W (hx:Ext w W)=>(hi.same (Same.below hx)).mono fun _ (h:_<w.heap.size)=>Nat.lt_of_lt_of_le h hx.size);have HB0:=h! hb;clear hb h hi;unfold pV;obtain⟨wa,hwa⟩:∃ x,x=w.alloc (.cells #[.slice ap ps.length cp,.slice af fs.length cf] 37):=⟨_,rfl⟩;obtain⟨wb,hwb⟩:∃ x,x=wa.alloc (.cells #[.string s.t,.string s.i,.string s.r] 63):=⟨_,rfl⟩;have ea:wa.heap.size=w.heap.size+1:=by rw[hwa];simp
 have xa:Ext w wa:=by rw[hwa];exact Ext.alloc _ _
 have xb:Ext wa wb:=by rw[hwb];exact Ext.alloc _ _
 have XB:=h! (xa.trans xb);have BA:=h! (show Blk wb w.heap.size #[.slice ap ps.length cp,.slice af fs.length cf] 37 from Blk.below (by rw[hwa];exact Blk.made _ _ _) xb);have BB:=h! (show Blk wb (w.heap.size+1) #[.string s.t,.string s.i,.string s.r] 63 from by rw[hwb,<- ea];exact Blk.made _ _ _);clear ea xa xb;subst hwb hwa;go_enter Tryz.func9,Tryz.ntmps9
 go_wp2_with fail
 obtain⟨w2,hw2⟩:∃ x,x=(w.alloc (.cells #[.slice ap ps.length cp,.slice af fs.length cf] 37)).alloc (.cells #[.string s.t,.string s.i,.string s.r] 63):=⟨_,rfl⟩;rw[<- hw2]at BA BB XB ⊢;clear hw2;refine(fixed27_any w2).mono ?_;rintro e w3 ⟨rfl,hx3⟩;have XB:=h! (XB.out.trans hx3);have BA:=h! (BA.out.below hx3);have BB:=h! (BB.out.below hx3);have hA:=BA.out.cells;clear hx3;go_wp2_with fail
 clear hA;refine(small27_any ps fs _ _ w3 (H1.out _ XB.out) (by have:=HB0.out;omega)).mono ?_;rintro e w4 ⟨⟨sm,rfl,hsm⟩,hx4⟩;have XB:=h! (XB.out.trans hx4);have BA:=h! (BA.out.below hx4);have BB:=h! (BB.out.below hx4);clear hx4;cases sm with
 | false =>
  go_wp2_with fail
  go_ret
  exact⟨rfl,XB.out⟩
 | true =>
 have HLL:=h! (hsm rfl);clear hsm;by_cases hlb:(100:Int)<(bs.length:Int)
 ·go_wp2_with fail
  go_ret
  exact⟨rfl,XB.out⟩
 go_wp2_with fail
 clear hlb
 -- both answers
 obtain⟨wd,hwd⟩:∃ wd,Hid (wd=w4.drew):=⟨_,h! rfl⟩;have hxd:=h! (show Ext w4 wd from by rw[hwd.out];exact Ext.drew _);refine region_walkN (Ext wd) (by rw[<- hwd.out];exact Ext.refl _) (by kernel_rfl) (by kernel_rfl) (fun _ _ d _ _ h=>by cases d <;> exact h) ?_;rw[<- hwd.out];have XB:=h! (XB.out.trans hxd.out);have BA:=h! (BA.out.below hxd.out);have BB:=h! (BB.out.below hxd.out);clear hwd hxd;have hA:=fun W (h:Ext wd W)=>(BA.out.below h).cells;have hB:=fun W (h:Ext wd W)=>(BB.out.below h).cells;(refine WalkN.tk [0,1,3,4] ?_;(iterate 4 ((refine TkN.c _ ?_ (by simp only[gA,gS,gZ];rfl) (by kernel_rfl) (by kernel_rfl) (by rfl) (fun W hW=>?_) ?_;rotate_left;· (go_simp;try with_reducible rfl));simp only[Act.put,pA,pZ,pS]));refine TkN.n ?_)
 clear hA hB;refine WalkN.one 2 (by kernel_rfl) ?_;refine⟨_,(by simp only[gA,gS,gZ];rfl),by rfl,fun K hK=>?_⟩;go_simp;refine(solveP_any s ps fs _ _ wd (H1.out _ XB.out) (by have:=HLL.out;omega) (by have:=HLL.out;omega) (by have h1:=HB0.out;have h2:=bkF_named fs;omega)).mono ?_;rintro e w5 ⟨⟨av,rfl,hoa⟩,hx5⟩;refine hK.out _ _ hx5 ?_;clear hK;have HOA:=h! hoa;have HX5:=h! hx5;clear hoa hx5;refine WalkN.one 5 (by kernel_rfl) ?_;refine⟨_,(by simp only[gA,gS,gZ];rfl),by rfl,fun K hK=>?_⟩;go_simp;refine(solve27_any s ps fs _ _ w5 (H1.out _ (XB.out.trans HX5.out)) (by have:=HLL.out;omega)).mono ?_;rintro e w6 ⟨⟨bv,rfl,hob⟩,hx6⟩;refine hK.out _ _ (HX5.out.trans (hx6.mono HX5.out.size)) ?_;clear hK;have HOB:=h! hob;have HOA:=h! (HOA.out.below hx6);have HX6:=h! (HX5.out.trans (hx6.mono HX5.out.size));clear hob hx6;(refine WalkN.tk [6,7] ?_;(iterate 2 ((refine TkN.c _ ?_ (by simp only[gA,gS,gZ];rfl) (by kernel_rfl) (by kernel_rfl) (by rfl) (fun W hW=>?_) ?_;rotate_left;· (go_simp;try with_reducible rfl));simp only[Act.put,pA,pZ,pS]));refine TkN.n ?_)
 refine WalkN.done (by kernel_rfl) ?_;have HLR:=h! (show(solveR fs s ps.length).length=ps.length from by unfold solveR;rw[outN_length]);have hsa:=HOA.out.sl;have hsb:=HOB.out.sl;obtain⟨ao,an,ac,rfl,hna,-,-⟩:=hsa.len;obtain⟨bo,bn,bc',rfl,hnb,-,-⟩:=hsb.len;rw[ic_length,Nat.mul_one]at hna hnb;subst hna hnb;have HSA:=h! (fun W (hx:Ext w6 W)=>hsa.same (Same.mono (Same.below hx) fun b hb=>hb.2));have HSB:=h! (fun W (hx:Ext w6 W)=>hsb.same (Same.mono (Same.below hx) fun b hb=>hb.2));have XB:=h! (XB.out.trans HX6.out);have BA:=h! (BA.out.below HX6.out);have BB:=h! (BB.out.below HX6.out);clear hsa hsb HOA HOB HX5 HX6;generalize hR:solveR fs s ps.length=R at *;clear hR;go_wp2_with fail
 go_loopw [35] (fun iv wr=>∃ i:Nat,i<=R.length/\iv = .int .i64 i/\Ext w6 wr) (fun iv _=>R.length-(intOf iv).toNat)
 case atStart=>exact⟨0,Nat.zero_le _,rfl,Ext.refl _⟩
 case round =>
  obtain⟨i,hi,rfl,hx⟩:=hrel;have RX:=h! hx;clear hx;by_cases hlt:i<R.length
  ·have HLT:=h! hlt;have HWI:=h! (show wrap64 ((i:Int)+1)=((i+1:Nat):Int)from by have h1:=HLR.out;have h2:=HLL.out;unfold wrap64;omega);have hli:(i:Int)<(R.length:Int):=by omega
   obtain⟨p1,q1,rfl,-,ga⟩:=Sl.int_at (HSA.out wr RX.out) hlt;obtain⟨p2,q2,rfl,-,gb⟩:=Sl.int_at (HSB.out wr RX.out) hlt;generalize R[i]=x at *;clear hlt;go_wp2_with fail
   obtain⟨wd,hwd⟩:∃ wd,Hid (wd=wr.drew):=⟨_,h! rfl⟩;have hxd:=h! (show Ext wr wd from by rw[hwd.out];exact Ext.drew _);refine region_walkN (Ext wd) (by rw[<- hwd.out];exact Ext.refl _) (by kernel_rfl) (by kernel_rfl) (fun _ _ d _ _ h=>by cases d <;> exact h) ?_;rw[<- hwd.out];have RX2:=h! (RX.out.trans hxd.out);have ga':=fun W (h:Ext wd W)=>Ext.cell (hxd.out.trans h) ga;have gb':=fun W (h:Ext wd W)=>Ext.cell (hxd.out.trans h) gb;clear hwd hxd ga gb;(refine WalkN.tk [0,1,2,3,4,5,6,7,8] ?_;(iterate 9 ((refine TkN.c _ ?_ (by simp only[gA,gS,gZ];rfl) (by kernel_rfl) (by kernel_rfl) (by rfl) (fun W hW=>?_) ?_;rotate_left;· (go_simp;try with_reducible rfl));simp only[Act.put,pA,pZ,pS]));refine TkN.n ?_)
   refine WalkN.done (by kernel_rfl) ?_;clear ga' gb';go_wp2_with fail
   go_roundw
   case rel=>exact⟨i+1,HLT.out,by first | rw[HWI.out] | go_num,RX2.out⟩
   case measure=>have:=HLT.out;(try rw[HWI.out]);simp[intOf];omega
  ·obtain rfl:i=R.length:=by omega
   have XB:=h! (XB.out.trans RX.out);have BA:=h! (BA.out.below RX.out);have BB:=h! (BB.out.below RX.out);have hA:=BA.out.cells;clear hlt HSA HSB RX;go_wp2_with fail
   clear hA;obtain⟨w7,hw7⟩:∃ y,y=wr:=⟨_,rfl⟩;rw[<- hw7]at BA BB XB ⊢;clear hw7;go_loopw [51] (fun iv wr=>∃ i:Nat,i<=fs.length/\iv = .int .i64 i/\Ext w7 wr) (fun iv _=>fs.length-(intOf iv).toNat)
   case atStart=>exact⟨0,Nat.zero_le _,rfl,Ext.refl _⟩
   case round =>
    obtain⟨i,hi,rfl,hx⟩:=hrel;have RX:=h! hx;have RR:=h! (H1.out _ (XB.out.trans hx));clear hx;by_cases hlt:i<fs.length
    ·have HLT:=h! hlt;obtain⟨_,_,_,_,e1,e2,-,h3,-,h4,hcell⟩:=RR.out.rows;cases e1;cases e2;obtain⟨b,off,pv,rfl,-,g0,g1,g2,g3,hat⟩:=hcell i hlt;have HWI:=h! (show wrap64 ((i:Int)+1)=((i+1:Nat):Int)from by unfold wrap64;omega);obtain⟨d1,e1,d2,e2,d4,e4,rfl⟩:=hat.shape;have hli:(i:Int)<(fs.length:Int):=by omega
     have X1:=h! (Ext.alloc wr (.cells #[.int .i64 fs[i].k,.slice d1 fs[i].subs.length e1,.slice d2 fs[i].refs.length e2,.slice d4 fs[i].ps.length e4] 90));have HB:=h! (Blk.made wr #[.int .i64 fs[i].k,.slice d1 fs[i].subs.length e1,.slice d2 fs[i].refs.length e2,.slice d4 fs[i].ps.length e4] 90);have HAT:=h! (hat.up X1.out);clear hat hcell h3 h4;generalize fs[i]=q at *;clear hlt;go_wp2_with fail
     clear g0 g1 g2 g3;obtain⟨w8,hw8⟩:∃ y,y=wr.alloc (.cells #[.int .i64 q.k,.slice d1 q.subs.length e1,.slice d2 q.refs.length e2,.slice d4 q.ps.length e4] 90):=⟨_,rfl⟩;rw[<- hw8]at X1 HB HAT ⊢;clear hw8;generalize wr.heap.size=fb at *;obtain⟨wd,hwd⟩:∃ wd,Hid (wd=w8.drew):=⟨_,h! rfl⟩;have hxd:=h! (show Ext w8 wd from by rw[hwd.out];exact Ext.drew _);refine region_walkN (Ext wd) (by rw[<- hwd.out];exact Ext.refl _) (by kernel_rfl) (by kernel_rfl) (fun _ _ d _ _ h=>by cases d <;> exact h) ?_;rw[<- hwd.out];have RX:=h! ((RX.out.trans X1.out).trans hxd.out);have HAT:=h! (HAT.out.up hxd.out);have hB:=fun W (h:Ext wd W)=>(BB.out.below (RX.out.trans h)).cells;have hF:=fun W (h:Ext wd W)=>(HB.out.below (hxd.out.trans h)).cells;have HI:=h! (H2.out _ (XB.out.trans RX.out));clear hwd hxd;(refine WalkN.tk [0,1,2,4,5,6] ?_;(iterate 6 ((refine TkN.c _ ?_ (by simp only[gA,gS,gZ];rfl) (by kernel_rfl) (by kernel_rfl) (by rfl) (fun W hW=>?_) ?_;rotate_left;· (go_simp;try with_reducible rfl));simp only[Act.put,pA,pZ,pS]));refine TkN.n ?_)
     clear hB hF;have HC1:=h! (holdsP_any s bs q _ _ wd HAT.out HI.out);unfold fV pV at HC1;refine WalkN.one 3 (by kernel_rfl) ?_;refine⟨_,(by simp only[gA,gS,gZ];rfl),by rfl,fun K hK=>?_⟩;go_simp;refine HC1.out.mono ?_;rintro e w9 ⟨rfl,hx9⟩;refine hK.out _ _ hx9 ?_;clear hK HC1;have HC2:=h! (hold27_any s bs q _ _ w9 (HAT.out.up hx9) ((HI.out.same (Same.below hx9)).mono fun _ h=>Nat.lt_of_lt_of_le h hx9.size));unfold fV pV at HC2;refine WalkN.one 7 (by kernel_rfl) ?_;refine⟨_,(by simp only[gA,gS,gZ];rfl),by rfl,fun K hK=>?_⟩;go_simp;refine HC2.out.mono ?_;rintro e w10 ⟨rfl,hx10⟩;have HX:=h! (hx9.trans (hx10.mono hx9.size));refine hK.out _ _ HX.out ?_;clear hK HC2;((refine WalkN.take 8 _ ?_ (by simp only[gA,gS,gZ];rfl) (by kernel_rfl) (by kernel_rfl) (by rfl) (fun W hW=>?_) ?_;rotate_left;· (go_simp;try with_reducible rfl));simp only[Act.put,pA,pZ,pS])
     refine WalkN.done (by kernel_rfl) ?_;have RX:=h! (RX.out.trans HX.out);clear hx9 hx10;go_wp2_with fail
     go_roundw
     case rel=>exact⟨i+1,HLT.out,by first | rw[HWI.out] | go_num,RX.out⟩
     case measure=>have:=HLT.out;(try rw[HWI.out]);simp[intOf];omega
    ·obtain rfl:i=fs.length:=by omega
     have HX:=h! (XB.out.trans RX.out);go_wp2_with fail
     go_ret
     exact⟨rfl,HX.out⟩
end Go.Proofs.YtjdigpfipmckhaaGreat
namespace Go.Proofs.YtjdigpfipmckhaaGreat
open Go Go.RowKit Go.ChangeShapes Go.WideShapes Go.ChangeAt
def pC4 (p:P3):List Value:=[.string p.t,.string p.i,.string p.r]
section
variable {H : Type} {enc : TypeId × Value -> H} {W : World} {base : Nat} {v : Value} {d : DataW H} {ps : List MemPlace}
set_option maxRecDepth 100000 in
theorem open_obj_cells {fuel:Nat} {cs:List Value} {y:DataW H × List MemPlace} (hy:DataW.trod enc Tryz.prog W 0 (fun _=>true) true fuel 28 cs=some y):∃ a b:ByteArray,cs=[.string a,.string b]/\a.size<=maxLen/\b.size<=maxLen:=by
 obtain⟨xs,n,_,_,hl,hlen,hf⟩:=DataW.trod_struct Tryz.underlying28 hy;rw[show Tryz.prog.cellsOf 28=2 from by kernel_rfl]at hl
 obtain⟨c0,c1,rfl⟩:∃ c0 c1,cs=[c0,c1]:=by
  match cs,hl with
  | [c0,c1],_=>exact⟨c0,c1,rfl⟩
 have h0:=hf 0 _ rfl;have h1:=hf 1 _ rfl
 obtain⟨y0,y1,rfl⟩:∃ y0 y1,xs=[y0,y1]:=by
  match xs,hlen with
  | [y0,y1],_=>exact⟨y0,y1,rfl⟩
 obtain⟨a,e0,_,wa⟩:=DataW.trod_string Tryz.underlying9 h0;obtain⟨b,e1,_,wb⟩:=DataW.trod_string Tryz.underlying9 h1;have k1:Tryz.prog.cellsOf 9=1:=by kernel_rfl
 simp[k1]at e0 e1;subst e0 e1;exact⟨a,b,rfl,wa,wb⟩
set_option maxRecDepth 100000 in
theorem open_sub_cells {fuel:Nat} {cs:List Value} {y:DataW H × List MemPlace} (hy:DataW.trod enc Tryz.prog W 0 (fun _=>true) true fuel 63 cs=some y):∃ p:P3,cs=pC4 p/\p.Ok:=by
 obtain⟨xs,n,_,_,hl,hlen,hf⟩:=DataW.trod_struct Tryz.underlying63 hy;rw[show Tryz.prog.cellsOf 63=3 from by kernel_rfl]at hl
 obtain⟨c0,c1,c2,rfl⟩:∃ c0 c1 c2,cs=[c0,c1,c2]:=by
  match cs,hl with
  | [c0,c1,c2],_=>exact⟨c0,c1,c2,rfl⟩
 have h0:=hf 0 _ rfl;have h1:=hf 1 _ rfl
 obtain⟨y0,y1,rfl⟩:∃ y0 y1,xs=[y0,y1]:=by
  match xs,hlen with
  | [y0,y1],_=>exact⟨y0,y1,rfl⟩
 have k0:Tryz.prog.cellsOf 28=2:=by kernel_rfl
 have k1:Tryz.prog.cellsOf 9=1:=by kernel_rfl
 obtain⟨a,b,e0,wa,wb⟩:=open_obj_cells h0;obtain⟨c,e1,_,wc⟩:=DataW.trod_string Tryz.underlying9 h1;simp[k0]at e0;simp[k1]at e1;obtain⟨rfl,rfl⟩:=e0;subst e1;exact⟨⟨a,b,c⟩,rfl,wa,wb,wc⟩
end
theorem open_rowsT {H:Type} {enc:TypeId × Value->H} {P:Program} {w:World} {α:Type} (ec:α->List Value)(Q:α->Prop) {t e:TypeId} {v:Value} {d:DataW H} {ps:List MemPlace} {sz:Nat}
  (ht:P.underlying t=some (.slice e)) (hsz:P.cellsOf e=sz) (hv:∃ a len cap,v = .slice a len cap) (h:DataW.Trod enc P w 0 (fun _=>true) true t v d ps)
  (hel:∀ fuel cs y,DataW.trod enc P w 0 (fun _=>true) true fuel e cs=some y->∃ a,cs=ec a/\Q a):∃ l:List α,Sl (· < w.heap.size) w sz v (l.flatMap ec)/\∀ a∈l,Q a:=by
 obtain⟨xs,elems,fuel,hs,hl,he,_⟩:=open_sl ht hv h;rw[hsz]at hs hl he
 have main:∀ n,n<=elems.length->∃ l:List α,xs.take (n*sz)=l.flatMap ec/\∀ a∈l,Q a:=by
  intro n;induction n with
  | zero=>intro _;exact⟨[],by simp,by simp⟩
  | succ n ih =>
   intro hn;obtain⟨l,hl1,hl2⟩:=ih (by omega);obtain⟨a,ha,hq⟩:=hel _ _ _ (he n elems[n] (List.getElem?_eq_getElem (by omega)));refine⟨l++[a],?_,fun b hb=>?_⟩
   ·rw[Nat.add_mul,Nat.one_mul,List.take_add,hl1,ha,List.flatMap_append];simp
   ·rcases List.mem_append.1 hb with hb | hb
    ·exact hl2 b hb
    ·obtain rfl:b=a:=by simpa using hb
     exact hq
 obtain⟨l,hl1,hl2⟩:=main elems.length (Nat.le_refl _);rw[<- hl,List.take_length]at hl1;exact⟨l,hl1▸hs,hl2⟩
section
variable {H : Type} {enc : TypeId × Value -> H} {W : World} {base : Nat} {v : Value} {d : DataW H} {ps : List MemPlace}
set_option maxRecDepth 100000 in
theorem open_point_cells {fuel:Nat} {cs:List Value} {y:DataW H × List MemPlace} (hy:DataW.trod enc Tryz.prog W 0 (fun _=>true) true fuel 30 cs=some y):∃ p:P3,cs=pC4 p/\p.Ok:=by
 obtain⟨xs,n,_,_,hl,hlen,hf⟩:=DataW.trod_struct Tryz.underlying30 hy;rw[show Tryz.prog.cellsOf 30=3 from by kernel_rfl]at hl
 obtain⟨c0,c1,c2,rfl⟩:∃ c0 c1 c2,cs=[c0,c1,c2]:=by
  match cs,hl with
  | [c0,c1,c2],_=>exact⟨c0,c1,c2,rfl⟩
 have h0:=hf 0 _ rfl;have h1:=hf 1 _ rfl
 obtain⟨y0,y1,rfl⟩:∃ y0 y1,xs=[y0,y1]:=by
  match xs,hlen with
  | [y0,y1],_=>exact⟨y0,y1,rfl⟩
 have k0:Tryz.prog.cellsOf 28=2:=by kernel_rfl
 have k1:Tryz.prog.cellsOf 9=1:=by kernel_rfl
 obtain⟨a,b,e0,wa,wb⟩:=open_obj_cells h0;obtain⟨c,e1,_,wc⟩:=DataW.trod_string Tryz.underlying9 h1;simp[k0]at e0;simp[k1]at e1;obtain⟨rfl,rfl⟩:=e0;subst e1;exact⟨⟨a,b,c⟩,rfl,wa,wb,wc⟩
end
theorem flat_single {α β:Type} (f:α->β)(l:List α):l.flatMap (fun x => [f x])=l.map f:=by
 induction l with
 | nil=>rfl
 | cons x l ih=>rw[List.flatMap_cons,ih,List.map_cons];rfl
theorem sumN_one {α:Type} (l:List α):sumN (fun _=>1) l=l.length:=by
 induction l with
 | nil=>rfl
 | cons x l ih=>rw[sumN,ih,List.length_cons];omega
theorem bkF_sum (l:List FT):bkF l=sumN FT.bk l:=by
 induction l with
 | nil=>rfl
 | cons x l ih=>rw[bkF,sumN,ih]
section
variable {H : Type} {enc : TypeId × Value -> H} {W : World} {base : Nat} {v : Value} {d : DataW H} {ps : List MemPlace}
set_option maxRecDepth 100000 in
theorem open_subV (hok:Value.okWide Tryz.prog W .any base 63 v)(h:DataW.Trod enc Tryz.prog W 0 (fun _=>true) true 63 v d ps):∃ p:P3,v=pV p:=by
 obtain⟨ca,rfl,_⟩:=okWide_struct Tryz.underlying63 hok;obtain⟨fuel,hy⟩:=h;obtain⟨t,hc,_⟩:=open_sub_cells hy;exact⟨t,congrArg Value.agg (Array.toList_inj.1 hc)⟩
set_option maxRecDepth 100000 in
theorem open_boolsV (hok:Value.okWide Tryz.prog W .any base 85 v)(h:DataW.Trod enc Tryz.prog W 0 (fun _=>true) true 85 v d ps):∃ l:List Bool,Sl (· < W.heap.size) W 1 v (boC l):=by
 obtain⟨l,hl,-⟩:=open_rowsT (fun b:Bool => [Value.bool b]) (fun _=>True) Tryz.underlying85 (by kernel_rfl) (okWide_slice Tryz.underlying85 hok) h (fun fuel cs y hy=>by
  obtain⟨b,rfl,_⟩:=DataW.trod_bool Tryz.underlying4 hy;exact⟨b,rfl,trivial⟩)
 rw[flat_single]at hl;exact⟨l,hl⟩
def FormQ (W:World)(x:FT × FV3)(d:DataW H):Prop:=FTAt (· < W.heap.size) W x.1 x.2/\x.1.bk<=Rows.uptoBulk d
set_option maxRecDepth 100000 in
theorem open_form_cells (fuel:Nat):∀ {cs:List Value} {y:DataW H × List MemPlace},DataW.trod enc Tryz.prog W 0 (fun _=>true) true fuel 90 cs=some y->∃ x:FT × FV3,cs=fC x/\FormQ W x y.1:=by
 induction fuel using Nat.strongRecOn with
 | ind fuel ih =>
 intro cs y hy;obtain⟨xs,n,hfn,hyx,hl,hlen,hf⟩:=DataW.trod_struct Tryz.underlying90 hy;rw[show Tryz.prog.cellsOf 90=4 from by kernel_rfl]at hl
 obtain⟨c0,c1,c2,c3,rfl⟩:∃ c0 c1 c2 c3,cs=[c0,c1,c2,c3]:=by
  match cs,hl with
  | [c0,c1,c2,c3],_=>exact⟨c0,c1,c2,c3,rfl⟩
 have h0:=hf 0 _ rfl;have h1:=hf 1 _ rfl;have h2:=hf 2 _ rfl;have h3:=hf 3 _ rfl
 obtain⟨y0,y1,y2,y3,rfl⟩:∃ y0 y1 y2 y3,xs=[y0,y1,y2,y3]:=by
  match xs,hlen with
  | [y0,y1,y2,y3],_=>exact⟨y0,y1,y2,y3,rfl⟩
 have k0:Tryz.prog.cellsOf 3=1:=by kernel_rfl
 have k1:Tryz.prog.cellsOf 52=1:=by kernel_rfl
 have k2:Tryz.prog.cellsOf 87=1:=by kernel_rfl
 have k3:Tryz.prog.cellsOf 35=1:=by kernel_rfl
 obtain⟨k,e0,d0,w0⟩:=DataW.trod_int Tryz.underlying3 h0;simp[k0]at e0;subst e0;have h1':DataW.trod enc Tryz.prog W 0 (fun _=>true) true n 52 [c1]=some y1:=by simpa [k0,k1] using h1
 have h2':DataW.trod enc Tryz.prog W 0 (fun _=>true) true n 87 [c2]=some y2:=by simpa [k0,k1,k2] using h2
 have h3':DataW.trod enc Tryz.prog W 0 (fun _=>true) true n 35 [c3]=some y3:=by simpa [k0,k1,k2,k3] using h3
 obtain⟨l1,hs1,hq1,hd1⟩:=open_rowsB pC (fun _ _=>True) Tryz.underlying52 (show _=3 by kernel_rfl) h1' (fun fuel' hlt cs y hy=>by obtain⟨p,hp,_⟩:=open_sub_cells hy;exact⟨p,hp,trivial⟩);obtain⟨l2,hs2,hq2,hd2⟩:=open_rowsB (fun x:Int => [Value.int .i64 x]) (fun _ _=>True) Tryz.underlying87 (show _=1 by kernel_rfl) h2' (fun fuel' hlt cs y hy=>by obtain⟨x,e,_⟩:=DataW.trod_int Tryz.underlying3 hy;exact⟨x,e,trivial⟩);obtain⟨l,hs,hq,hd⟩:=open_rowsB fC (FormQ W) Tryz.underlying35 (show _=4 by kernel_rfl) h3' (fun fuel' hlt cs y hy=>ih fuel' (by omega) hy);rw[flat_single]at hs2;refine⟨(.mk k (l1.map Prod.fst) (l2.map Prod.fst) (l.map fun x:(FT × FV3) × DataW H=>x.1.1),(c1,c2,c3)),rfl,(FTAt.iff _ _).2 ⟨hs1,hs2,l.map (·.1),by simp[FT.ps,List.map_map],fun x hx=>?_,hs⟩,?_⟩
 ·obtain⟨p,hp,rfl⟩:=List.mem_map.1 hx;exact(hq p hp).1
 ·have h4:=bulk_row (f:=fun x:FT × FV3=>x.1.bk) hd fun p hp=>(hq p hp).2;have h5:=bulk_row (f:=fun _:P3=>1) hd1 fun p hp=>bulk_pos _;have h6:=bulk_row (f:=fun _:Int=>1) hd2 fun p hp=>bulk_pos _;rw[sumN_one,List.length_map]at h5 h6;rw[sumN_map FT.bk (fun x:FT × FV3=>x.1),List.map_map]at h4;rw[hyx,d0,FT.bk,bkF_sum];simp only[List.map_cons,List.map_nil,Rows.uptoBulkAll,Rows.uptoBulk];have e:(l.map (·.1.1))=l.map ((fun x:FT × FV3=>x.1) ∘ fun x=>x.1):=rfl;rw[e,List.length_map,List.length_map];omega
set_option maxRecDepth 100000 in
theorem open_graphV (hok:Value.okWide Tryz.prog W .any base 37 v)(h:DataW.Trod enc Tryz.prog W 0 (fun _=>true) true 37 v d ps):∃ (qs:List P3)(fs:List FT)(pv fv:Value),v = .agg #[pv,fv]/\GrAt (· < W.heap.size) W qs fs pv fv/\qs.length+bkF fs<=Rows.uptoBulk d:=by
 obtain⟨ca,rfl,_⟩:=okWide_struct Tryz.underlying37 hok;obtain⟨fuel,hy⟩:=h;obtain⟨xs,n,hfn,hyx,hl,hlen,hf⟩:=DataW.trod_struct Tryz.underlying37 hy;rw[show Tryz.prog.cellsOf 37=2 from by kernel_rfl]at hl
 obtain⟨c0,c1,hc⟩:∃ c0 c1,(Value.agg ca).cells.toList=[c0,c1]:=by
  match (Value.agg ca).cells.toList,hl with
  | [c0,c1],_=>exact⟨c0,c1,rfl⟩
 have h0:=hf 0 _ rfl;have h1:=hf 1 _ rfl
 obtain⟨y0,y1,rfl⟩:∃ y0 y1,xs=[y0,y1]:=by
  match xs,hlen with
  | [y0,y1],_=>exact⟨y0,y1,rfl⟩
 have k0:Tryz.prog.cellsOf 34=1:=by kernel_rfl
 have k1:Tryz.prog.cellsOf 35=1:=by kernel_rfl
 rw[hc]at h0 h1;have h0':DataW.trod enc Tryz.prog W 0 (fun _=>true) true n 34 [c0]=some y0:=by simpa [k0] using h0
 have h1':DataW.trod enc Tryz.prog W 0 (fun _=>true) true n 35 [c1]=some y1:=by simpa [k0,k1] using h1
 obtain⟨l1,hs1,hq1,hd1⟩:=open_rowsB pC (fun _ _=>True) Tryz.underlying34 (show _=3 by kernel_rfl) h0' (fun fuel' hlt cs y hy=>by obtain⟨p,hp,_⟩:=open_point_cells hy;exact⟨p,hp,trivial⟩);obtain⟨l,hs,hq,hd⟩:=open_rowsB fC (FormQ W) Tryz.underlying35 (show _=4 by kernel_rfl) h1' (fun fuel' hlt cs y hy=>open_form_cells _ hy);have h4:=bulk_row (f:=fun x:FT × FV3=>x.1.bk) hd fun p hp=>(hq p hp).2;have h5:=bulk_row (f:=fun _:P3=>1) hd1 fun p hp=>bulk_pos _;rw[sumN_one,List.length_map]at h5;rw[sumN_map FT.bk (fun x:FT × FV3=>x.1),List.map_map]at h4;refine⟨l1.map Prod.fst,l.map ((fun x:FT × FV3=>x.1) ∘ fun x=>x.1),c0,c1,congrArg Value.agg (Array.toList_inj.1 hc),⟨hs1,l.map (·.1),by simp[List.map_map],fun x hx=>?_,hs⟩,?_⟩
 ·obtain⟨p,hp,rfl⟩:=List.mem_map.1 hx;exact(hq p hp).1
 ·have hdd:=congrArg Prod.fst hyx;dsimp only at hdd;rw[hdd,bkF_sum,List.length_map];simp only[List.map_cons,List.map_nil,Rows.uptoBulkAll,Rows.uptoBulk];omega
end
end Go.Proofs.YtjdigpfipmckhaaGreat
