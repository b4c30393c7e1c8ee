/- Lemmas for the claim, no condition. -/
import GoSem.PinnedTables
import Derived.Deep.DeepHandedRow
import Derived.Lib.SmallJoins
import Derived.Test.YtlhaghoajpglaaaGreatRows
import Derived.SizedLaws
import Derived.Test.YtlhaghoajpglaaaGreatYRing11
import Derived.Test.YtlhaghoajpglaaaGreatYRing4
import Derived.Test.YtlhaghoajpglaaaGreatYRing12
import Derived.Test.YtlhaghoajpglaaaGreatYRing5
import Derived.Test.YtlhaghoajpglaaaGreatYRing1
import Derived.Test.YtlhaghoajpglaaaGreatYRing0
import Derived.Test.YtlhaghoajpglaaaGreatYRing2
import Derived.Test.YtlhaghoajpglaaaGreatYRing6
import Derived.Test.YtlhaghoajpglaaaGreatYRing7
import Derived.Test.YtlhaghoajpglaaaGreatYRing10
import Derived.Test.YtlhaghoajpglaaaGreatYRing9
set_option maxRecDepth 100000
set_option maxHeartbeats 4000000
namespace Go.Proofs.YtlhaghoajpglaaaGreat
open Go Go.RowKit Go.Maps
theorem set_ex (l:List Tup):∃ T,SetT l T:=by
 have htr:∀ a b c:Tup,(!ltT b a)=true->(!ltT c b)=true->(!ltT c a)=true:=fun a b c h k=>by
  rw[Bool.not_eq_true']at *;have:=swoC.ntrans c b a;simp only[lt_cmpC]at this;exact this k h
 have hto:∀ a b:Tup,(!ltT b a||!ltT a b)=true:=fun a b=>by
  cases h:ltT b a with
  | false=>rfl
  | true =>
   cases k:ltT a b with
   | false=>rfl
   | true =>
    have:=swoC.trans a b a;simp only[lt_cmpC]at this;have h3:=this k h;have h4:=swoC.irrefl a;rw[lt_cmpC]at h4;rw[h4]at h3;cases h3
 refine⟨_,set_of (List.mergeSort_perm l fun a b=>!ltT b a) ?_⟩;have:=List.pairwise_mergeSort (le:=fun a b=>!ltT b a) htr hto l;exact this.imp fun {a b} h=>by simpa using h
theorem bookT_any {l T:List Tup} (hT:SetT l T)(v:Value)(w:World)(h:Sl (· < w.heap.size) w 6 v (tuCs l))(hl:l.length<=1000000)(hok:∀ t∈l,t.Ok) :
  Calls Tryz.prog 20 #[v] w fun e w'=>∃ b,e = .returned (.pointer (some ⟨b,0,none⟩))/\BookAt w' b T/\Ext w w':=by
 refine(newBook_any l v w h hl hok).mono ?_;rintro e w' ⟨b,U,rfl,hU,hb,hx⟩;obtain rfl:=hT.uniq hU;exact⟨b,rfl,hb,hx⟩
structure BI (ts:List TyS)(N0:Nat)(L A:List R2)(ch:Bool)(pr:List (R2 × RT)):Prop where
 upL:UpR L
 upA:UpR A
 least:LeastP ts L
 subA:∀ x∈A,x∈(refsOf ts).map (·.1)
 len0:N0<=L.length
 more:ch=true->N0<L.length
 done:∀ p∈pr,p.1∈A/\(ch=false->p.2.pcan (refsOf ts) L p.1.t=true->p.1∈L)
theorem chk_long {ts:List TyS} (h:chk06 ts=0):longOk ts=true:=by
 unfold chk06 at h;split at h
 ·split at h
  ·assumption
  ·cases h
 ·cases h
theorem long_small {ts:List TyS} (h:longOk ts=true):ts.length<=16/\∀ t∈ts,t.rels.length<=16/\∀ r∈t.rels,r.2.sz<=32:=by
 unfold longOk at h;rw[Bool.and_eq_true,decide_eq_true_eq,List.all_eq_true]at h;refine⟨h.1,fun t ht=>?_⟩;have h2:=h.2 t ht;unfold tyLong at h2;rw[Bool.and_eq_true,decide_eq_true_eq,List.all_eq_true]at h2;exact⟨h2.1,fun r hr=>by simpa using h2.2 r hr⟩
theorem long_refs {ts:List TyS} (h:longOk ts=true):(refsOf ts).length<=256:=by
 obtain⟨h1,h2⟩:=long_small h;have:=flat_le (fun t:TyS=>relsOf t.name t.rels) 16 ts fun t ht=>by unfold relsOf;rw[List.length_map];exact(h2 t ht).1
 unfold refsOf;omega
end Go.Proofs.YtlhaghoajpglaaaGreat
namespace Go.Proofs.YtlhaghoajpglaaaGreat
open Go Go.RowKit Go.ChangeShapes Go.WideShapes Go.ChangeAt
def bc (l:List UInt8):List Value:=l.map fun c => .int .u8 c.toNat
section
variable {H : Type} {enc : TypeId × Value -> H} {W : World} {base : Nat} {v : Value} {d : DataW H} {ps : List MemPlace}
theorem open_u8V (hok:Value.okWide Tryz.prog W .any base 5 v)(h:DataW.Trod enc Tryz.prog W 0 (fun _=>true) true 5 v d ps):∃ q:Nat,v = .int .u8 q/\q<256:=by
 obtain⟨x,rfl,_,_,wx⟩:=open_int Tryz.underlying5 hok h;have hb:=bounds_u8 wx;exact⟨x.toNat,by congr 1;omega,by omega⟩
end
end Go.Proofs.YtlhaghoajpglaaaGreat
namespace Go.Proofs.YtlhaghoajpglaaaGreat
open Go Go.RowKit Go.Maps
def Tp (w:World)(tp:Nat):Prop:=∃ (bv:Value)(l:List UInt8)(n:Nat),n<=l.length/\Sl (· < tp) w 1 bv (bc l)/\Blk w tp #[bv,.int .i64 n] 41
theorem nms_len (r:RT):r.nms.length<=2*r.sz:=by
 induction r using RT.ind with
 | h r ih =>
  have:∀ l:List RT,(∀ x∈l,x∈r.ps)->(nmsL l).length<=2*szL l:=by
   intro l;induction l with
   | nil=>intro _;simp[nmsL]
   | cons x l ihl =>
    intro hx;rw[nmsL,szL,List.length_append];have h1:=ih x (hx x (by simp));have h2:=ihl fun y hy=>hx y (List.mem_cons_of_mem _ hy);omega
  have h:=this r.ps fun _ h=>h;rw[RT.nms_eq,List.length_cons,List.length_cons];obtain⟨k,a,b,ps⟩:=r;rw[RT.sz];simp only[RT.ps]at h ⊢;omega
theorem nms_ok (r:RT)(h:r.Ok):∀ n∈r.nms,n.size<=maxLen:=by
 induction r using RT.ind with
 | h r ih =>
  obtain⟨k,a,b,ps⟩:=r;rw[RT.Ok]at h;intro n hn;rw[RT.nms_eq]at hn;simp only[RT.a,RT.b,RT.ps,List.mem_cons]at hn;rcases hn with rfl | rfl | hn
  ·exact Nat.le_trans h.2.1 (by decide)
  ·exact Nat.le_trans h.2.2.1 (by decide)
  ·have hp:=okL_mem.1 h.2.2.2
   have:∀ l:List RT,(∀ x∈l,x∈ps)->∀ n∈nmsL l,n.size<=maxLen:=by
    intro l;induction l with
    | nil=>intro _ n hn;simp[nmsL]at hn
    | cons x l ihl =>
     intro hx n hn;rw[nmsL,List.mem_append]at hn;rcases hn with hn | hn
     ·exact ih x (hx x (by simp)) (hp x (hx x (by simp))) n hn
     ·exact ihl (fun y hy=>hx y (List.mem_cons_of_mem _ hy)) n hn
   exact this ps (fun _ h=>h) n hn
def allN (ts:List TyS):List ByteArray:=(refsOf ts).flatMap fun x=>x.2.nms
theorem allN_mem (ts:List TyS):NmU ts (allN ts):=fun x hx _n hn=>List.mem_flatMap.2 ⟨x,hx,hn⟩
theorem flatN_len {α β:Type} (f:α->List β)(m:Nat):∀ (l:List α),(∀ x∈l,(f x).length<=m)->(l.flatMap f).length<=l.length*m
 | [],_=>by simp
 | a::l,h=>by
  rw[List.flatMap_cons,List.length_append,List.length_cons,Nat.add_mul];have h1:=h a (by simp);have h2:=flatN_len f m l fun x hx=>h x (List.mem_cons_of_mem _ hx);omega
theorem refs_sz {ts:List TyS} (h:longOk ts=true):∀ x∈refsOf ts,x.2.sz<=32:=fun x hx=>by
 obtain⟨t,ht,r,hr,rfl⟩:=refs_mem.1 hx;unfold longOk at h;rw[Bool.and_eq_true,List.all_eq_true]at h;have h2:=h.2 t ht;unfold tyLong at h2;rw[Bool.and_eq_true,List.all_eq_true]at h2;simpa using h2.2 r hr
theorem refs_ok {ts:List TyS} (h:∀ t∈ts,t.Ok):∀ x∈refsOf ts,x.2.Ok:=fun x hx=>by
 obtain⟨t,ht,r,hr,rfl⟩:=refs_mem.1 hx;exact((h t ht).2 r hr).2
def objU (T:List Tup)(p:P3):List (ByteArray × ByteArray):=(p.t,p.i)::T.map fun t=>(t.s.t,t.s.i)
def namU (N:List ByteArray)(T:List Tup)(p:P3):List ByteArray:=p.r::(T.map fun t=>t.s.r)++N
theorem okU (T:List Tup)(p:P3)(N:List ByteArray):OkU T (objU T p) (namU N T p) where
 objs t ht:=List.mem_cons_of_mem _ (List.mem_map.2 ⟨t,ht,rfl⟩)
 rels t ht:=by unfold namU;rw[List.cons_append];exact List.mem_cons_of_mem _ (List.mem_append_left _ (List.mem_map.2 ⟨t,ht,rfl⟩))
theorem inU_walk {ts:List TyS} (T:List Tup)(shut:List R2)(p:P3) {N:List ByteArray} (hN:NmU ts N)(n:Nat):∀ x∈(walkN ts T shut p n).1,InU (objU T p) (namU N T p) x :=
 walkN_in (okU T p N) (fun x hx m hm=>by unfold namU;rw[List.cons_append];exact List.mem_cons_of_mem _ (List.mem_append_right _ (hN x hx m hm))) shut ⟨by simp[objU],by simp[namU]⟩ n
theorem walk_few {ts:List TyS} (T:List Tup)(shut:List R2)(p:P3) {N:List ByteArray} (hN:NmU ts N)(n:Nat):(walkN ts T shut p n).1.length<=(T.length+1)*(T.length+N.length+1):=by
 have h:=inU_few (walkN_nodup ts T shut p n) (inU_walk T shut p hN n);simp only[objU,namU,List.length_cons,List.length_append,List.length_map]at h;rwa[show T.length+1+N.length=T.length+N.length+1 by omega]at h
theorem walkIn_chk {ts:List TyS} {T:List Tup} (shut:List R2) {p:P3} (hc:longOk ts=true)(hok:∀ t∈ts,t.Ok)(hT:T.length<=100)(hTo:∀ t∈T,t.Ok)(hp:p.Ok):WalkIn ts T shut p 2000000 where
 okp n x hx:=by
  have h:=inU_walk T shut p (allN_mem ts) n x hx
  have hN:∀ m∈allN ts,m.size<=maxLen:=fun m hm=>by
   obtain⟨y,hy,hm⟩:=List.mem_flatMap.1 hm;exact nms_ok _ (refs_ok hok y hy) m hm
  obtain⟨h1,h2⟩:=h
  have hO:x.t.size<=maxLen/\x.i.size<=maxLen:=by
   rcases List.mem_cons.1 h1 with h1 | h1
   ·have e1:=congrArg Prod.fst h1;have e2:=congrArg Prod.snd h1;dsimp only at e1 e2;rw[e1,e2];exact⟨hp.1,hp.2.1⟩
   ·obtain⟨t,ht,e⟩:=List.mem_map.1 h1;have h3:=(hTo t ht).2;have e1:=congrArg Prod.fst e;have e2:=congrArg Prod.snd e;dsimp only at e1 e2;rw[<- e1,<- e2];exact⟨h3.1,h3.2.1⟩
  refine⟨hO.1,hO.2,?_⟩;unfold namU at h2;rw[List.cons_append,List.mem_cons,List.mem_append]at h2;rcases h2 with h2 | h2 | h2
  ·rw[h2];exact hp.2.2
  ·obtain⟨t,ht,e⟩:=List.mem_map.1 h2;rw[<- e];exact(hTo t ht).2.2.2
  ·exact hN _ h2
 few n:=by
  have h:=walk_few T shut p (allN_mem ts) n
  have h2:(allN ts).length<=256*64:=by
   have h3:=flatN_len (fun x:R2 × RT=>x.2.nms) 64 (refsOf ts) fun x hx=>by have:=nms_len x.2;have:=refs_sz hc x hx;omega
   have h4:=long_refs hc;unfold allN;exact Nat.le_trans h3 (Nat.mul_le_mul_right _ h4)
  have h5:(T.length+1)*(T.length+(allN ts).length+1)<=101*(100+256*64+1):=Nat.mul_le_mul (by omega) (by omega);omega
 room x hx:=by
  have h1:=refs_sz hc x hx;have h2:x.2.sz*(T.length+1)<=32*101:=Nat.mul_le_mul h1 (by omega);omega
 nmax:=by omega
 rok:=refs_ok hok
 tok t ht:=(hTo t ht).2
 tlen:=by omega
theorem obj_any (a b:ByteArray)(w:World):Calls Tryz.prog 34 #[.string a,.string b] w fun e w'=>e = .returned (.agg #[.string a,.string b])/\Ext w w':=by
 go_enter Tryz.func34,Tryz.ntmps34
 go_wp2_with fail
 exact bodyPost_ret (results_cell_row rfl _ _ w.heap.size 30 #[.string a,.string b] (0,0) _ rfl (heap_alloc_new w _) Tryz.underlying30 rfl (by kernel_rfl)) rfl ⟨rfl,Ext.alloc _ _⟩
theorem HasArg.of {ts:List TyS} {T:List Tup} {shut:List R2} {p:P3} (hc:chk06 ts=0)(hok:∀ t∈ts,t.Ok)(hb:schB ts<=549755813888)(hn:(namesOf ts).length<=1099511627776)(hr:(refsOf ts).length<=1099511627776)(hT:T.length<=41)(hTo:∀ t∈T,t.Ok)(hp:p.Ok)(hso:∀ r∈shut,r.Ok):HasArg ts T shut p:=by
 have hl:=chk_long hc;have hw:=walkIn_chk (T:=T) shut hl hok (by omega) hTo hp;have hsz:∀ t∈ts,∀ r∈t.rels,r.2.sz<=32:=fun t ht r hr'=>refs_sz hl ⟨⟨t.name,r.1⟩,r.2⟩ (refs_mem.2 ⟨t,ht,r,hr',rfl⟩)
 have hN:∀ n,(walkN ts T shut p n).1.length<=1000000:=fun n=>by
  have h:=walk_few T shut p (allN_mem ts) n
  have h2:(allN ts).length<=256*64:=by
   have h3:=flatN_len (fun x:R2 × RT=>x.2.nms) 64 (refsOf ts) fun x hx=>by have:=nms_len x.2;have:=refs_sz hl x hx;omega
   have h4:=long_refs hl;unfold allN;exact Nat.le_trans h3 (Nat.mul_le_mul_right _ h4)
  have h5:(T.length+1)*(T.length+(allN ts).length+1)<=42*(41+256*64+1):=Nat.mul_le_mul (by omega) (by omega);omega
 have hrm:∀ x∈refsOf ts,x.2.sz*(T.length+1)<=32*42:=fun x hx=>Nat.mul_le_mul (refs_sz hl x hx) (by omega)
 exact⟨hok,hc,hb,fun t ht r hr'=>Nat.le_trans (hsz t ht r hr') (by decide),hn,hr,hso,
  ⟨hw.okp,hN,fun x hx=>by have:=hrm x hx;omega,by decide,hw.rok,hw.tok,hw.tlen⟩,fun x hx=>by have:=hrm x hx;omega⟩
def viB:ByteArray:=⟨#[118,105,101,119,101,114]⟩
def meB:ByteArray:=⟨#[109,101,109,98,101,114]⟩
def grB:ByteArray:=⟨#[103,114,111,117,112]⟩
def usB:ByteArray:=⟨#[117,115,101,114]⟩
def thB:ByteArray:=⟨#[116,104,105,115]⟩
def txt27:ByteArray:=⟨#[116,121,112,101,32,100,111,99,10,118,105,101,119,101,114,32,61,32,116,104,105,115,10,116,121,112,101,32,103,114,111,117,112,10,109,101,109,98,101,114,32,61,32,116,104,105,115,10,116,121,112,101,32,117,115,101,114]⟩
def its27:List PIt:=[.ty docB,.rel viB thB [],.ty grB,.rel meB thB [],.ty usB]
def lns27:List ByteArray:=[⟨#[116,121,112,101,32,100,111,99]⟩,⟨#[118,105,101,119,101,114,32,61,32,116,104,105,115]⟩,⟨#[116,121,112,101,32,103,114,111,117,112]⟩,⟨#[109,101,109,98,101,114,32,61,32,116,104,105,115]⟩,⟨#[116,121,112,101,32,117,115,101,114]⟩]
def ts27:List TyS:=[⟨docB,[(viB,.mk 1 ⟨#[]⟩ ⟨#[]⟩ [])]⟩,⟨grB,[(meB,.mk 1 ⟨#[]⟩ ⟨#[]⟩ [])]⟩,⟨usB,[]⟩]
theorem lines27:linesD txt27=lns27:=by kernel_rfl
theorem step27:its27.foldl stepD []=ts27:=by kernel_rfl
theorem lnsOk27:(lns27.zip its27).all (fun p=>lnOkB p.1 p.2)=true:=by kernel_rfl
theorem fits27:its27.all PIt.fitB=true:=by kernel_rfl
theorem chk27:chk06 ts27=0:=by kernel_rfl
theorem ok27:∀ t∈ts27,t.Ok:=by
 intro t ht;unfold ts27 at ht;simp only[List.mem_cons,List.not_mem_nil,or_false]at ht;rcases ht with rfl | rfl | rfl
 ·refine⟨by decide,fun r hr=>?_⟩;obtain rfl:=List.mem_singleton.1 hr;exact⟨by decide,by simp[RT.Ok,okL];decide⟩
 ·refine⟨by decide,fun r hr=>?_⟩;obtain rfl:=List.mem_singleton.1 hr;exact⟨by decide,by simp[RT.Ok,okL];decide⟩
 ·exact⟨by decide,fun r hr=>by cases hr⟩
def p27:P3:=⟨docB,⟨#[49]⟩,viB⟩
def u27:P3:=⟨usB,⟨#[49]⟩,⟨#[]⟩⟩
def v27:P3:=⟨usB,⟨#[50]⟩,⟨#[]⟩⟩
def l27:List Tup:=[⟨p27,⟨grB,⟨#[49]⟩,meB⟩⟩,⟨⟨grB,⟨#[49]⟩,meB⟩,u27⟩]
theorem set27:SetT l27 l27:=⟨List.pairwise_cons.2 ⟨fun y hy=>by obtain rfl:=List.mem_singleton.1 hy;kernel_rfl,List.pairwise_singleton _ _⟩,fun t=>⟨fun h=>⟨h,by
 unfold l27 at h;simp only[List.mem_cons,List.not_mem_nil,or_false]at h;rcases h with rfl | rfl
 ·kernel_rfl
 ·kernel_rfl⟩,fun h=>h.1⟩⟩
theorem ok27l:∀ t∈l27,t.Ok:=by
 intro t ht;unfold l27 at ht;simp only[List.mem_cons,List.not_mem_nil,or_false]at ht;rcases ht with rfl | rfl
 ·exact⟨⟨by decide,by decide,by decide⟩,⟨by decide,by decide,by decide⟩⟩
 ·exact⟨⟨by decide,by decide,by decide⟩,⟨by decide,by decide,by decide⟩⟩
theorem arg27:HasArg ts27 l27 [] p27:=HasArg.of chk27 ok27 (by decide) (by decide) (by decide) (by decide) ok27l ⟨by decide,by decide,by decide⟩ (by simp)
theorem end27:WalkEnd ts27 l27 [] p27 9 2:=by
 have h0:(walkN ts27 l27 [] p27 0).1.length=1:=by kernel_rfl
 have h1:(walkN ts27 l27 [] p27 1).1.length=2:=by kernel_rfl
 have h2:(walkN ts27 l27 [] p27 2).1.length=2:=by kernel_rfl
 refine⟨fun m hm=>?_,h2.symm⟩;obtain rfl | rfl:m=0\/m=1:=by omega
 ·rw[h0];exact⟨by decide,by decide⟩
 ·rw[h1];exact⟨by decide,by decide⟩
theorem yes27:(outN (walkN ts27 l27 [] p27 2).2 u27 2 2).getD 0 0=2:=by kernel_rfl
theorem no27:(outN (walkN ts27 l27 [] p27 2).2 v27 2 2).getD 0 0=0:=by kernel_rfl
theorem said27 {s:P3} {e:Ending} (bb:Bool)(hs:bb=true↔0<(outN (walkN ts27 l27 [] p27 2).2 s 2 2).getD 0 0)(h:HasSaid ts27 l27 [] p27 s 9 e):e = .returned (.tuple #[.bool bb,.int .i64 0]):=by
 rcases h with⟨n,b,hw,rfl,hb⟩ | ⟨hl,-⟩
 ·obtain rfl:=hw.uniq end27
  have:b=bb:=by
   rw[Bool.eq_iff_iff,hb,hs];rfl
  rw[this]
 ·exact absurd hl end27.notLong
theorem has27_any (tv:Value)(s:P3)(bb:Bool)(hs:bb=true↔0<(outN (walkN ts27 l27 [] p27 2).2 s 2 2).getD 0 0)(w:World)(b:Nat)(h:TysAt (· < w.heap.size) w ts27 tv)(hb:BookAt w b l27) :
  Calls Tryz.prog 36 #[.agg #[tv],bkV b,.slice none 0 0,.agg (aC p27 s),.int .i64 9] w fun e w'=>e = .returned (.tuple #[.bool bb,.int .i64 0])/\Ext w w':=by
 refine(hasP_any ts27 tv b l27 [] (.slice none 0 0) p27 s 9 w h arg27 hb (Sl.nil _ _ _)).mono ?_;rintro e w' ⟨hh,hx⟩;exact⟨said27 bb hs hh,hx⟩
theorem yesS:true=true↔0<(outN (walkN ts27 l27 [] p27 2).2 u27 2 2).getD 0 0:=by rw[yes27];decide
theorem noS:false=true↔0<(outN (walkN ts27 l27 [] p27 2).2 v27 2 2).getD 0 0:=by rw[no27];decide
theorem fixed27_any (w:World):Calls Tryz.prog 32 #[] w fun e w'=>e = .returned (.bool true)/\Below w.heap.size w w':=by
 have HPA:=h! (parse_any txt27 its27 w (by decide) (by rw[lines27];rfl) (by rw[lines27];exact lnsOk_of lnsOk27) (fits_of fits27) (fun _=>⟨docB,rfl⟩) (by decide));rw[step27]at HPA;unfold txt27 at HPA;go_enter Tryz.func32,Tryz.ntmps32
 go_wp2_with fail
 refine HPA.out.mono ?_;rintro e w1 ⟨tv,rfl,hty,hb1⟩;obtain⟨aot,ct,rfl,-,-,-⟩:=hty.rows;rw[show ts27.length=3 from rfl]at *;have HX1:=h! (Ext.alloc w1 (.cells #[.slice aot 3 ct] 26));have HTY:=h! ((hty.mono (S':=(· < w1.heap.size)) fun b hb=>hb.2).up HX1.out);have HB1:=h! (show Below w.heap.size w _ from hb1.trans (HX1.out.mono hb1.size));have HS1:=h! (Blk.made w1 #[.slice aot 3 ct] 26);have HO1:=h! (fun W=>obj_any docB ⟨#[49]⟩ W);have HO2:=h! (fun W=>obj_any grB ⟨#[49]⟩ W);have HO3:=h! (fun W=>obj_any usB ⟨#[49]⟩ W);unfold docB at HO1;unfold grB at HO2;unfold usB at HO3;clear hty hb1 HPA;go_wp2_with fail
 refine(HO1.out _).mono ?_;rintro e w2 ⟨rfl,hx2⟩;go_wp2_with fail
 refine(HO2.out _).mono ?_;rintro e w3 ⟨rfl,hx3⟩;go_wp2_with fail
 refine(HO2.out _).mono ?_;rintro e w4 ⟨rfl,hx4⟩;go_wp2_with fail
 refine(HO3.out _).mono ?_;rintro e w5 ⟨rfl,hx5⟩;have X5:=h! (Ext.trans hx2 (Ext.trans hx3 (Ext.trans hx4 hx5)));clear hx2 hx3 hx4 hx5;have HL5:=h! (show Sl (fun b=>b<(w5.alloc (.cells (tuCs l27).toArray 67)).heap.size) (w5.alloc (.cells (tuCs l27).toArray 67)) 6 (.slice (some ⟨w5.heap.size,0,none⟩) 2 2) (tuCs l27)from Sl.made w5 _ 6 2 67 _ rfl (by decide) (by simp));have X6:=h! (show Ext w5 (w5.alloc (.cells (tuCs l27).toArray 67))from Ext.alloc _ _);go_wp2_with fail
 have hcs:(#[.string ⟨#[100,111,99]⟩,.string ⟨#[49]⟩,.string ⟨#[118,105,101,119,101,114]⟩,.string ⟨#[103,114,111,117,112]⟩,.string ⟨#[49]⟩,.string ⟨#[109,101,109,98,101,114]⟩,.string ⟨#[103,114,111,117,112]⟩,.string ⟨#[49]⟩,.string ⟨#[109,101,109,98,101,114]⟩,.string ⟨#[117,115,101,114]⟩,.string ⟨#[49]⟩,.string ⟨#[]⟩]:Array Value)=(tuCs l27).toArray:=by kernel_rfl
 try rw[hcs]
 clear hcs;obtain⟨w6,hw6⟩:∃ y,y=w5.alloc (.cells (tuCs l27).toArray 67):=⟨_,rfl⟩;rw[<- hw6]at HL5 X6 ⊢;clear hw6;obtain⟨g4,hg4⟩:∃ y,Hid (y=w5.heap.size):=⟨_,h! rfl⟩;rw[<- hg4.out]at HL5 ⊢;refine(HO1.out _).mono ?_;rintro e w7 ⟨rfl,hx7⟩;have X8:=h! (Ext.alloc w7 (.cells #[.string ⟨#[100,111,99]⟩,.string ⟨#[49]⟩,.string ⟨#[118,105,101,119,101,114]⟩] 32));have HP8:=h! (Blk.made w7 #[.string ⟨#[100,111,99]⟩,.string ⟨#[49]⟩,.string ⟨#[118,105,101,119,101,114]⟩] 32);have X68:=h! (Ext.trans hx7 X8.out);clear hx7;go_wp2_with fail
 obtain⟨w8,hw8⟩:∃ y,y=w7.alloc (.cells #[.string ⟨#[100,111,99]⟩,.string ⟨#[49]⟩,.string ⟨#[118,105,101,119,101,114]⟩] 32):=⟨_,rfl⟩;rw[<- hw8]at HP8 X68 ⊢;clear hw8 X8;have X18:=h! (Ext.trans X5.out (Ext.trans X6.out X68.out));have HBT:=h! (show Below w.heap.size w w8 from Below.trans HB1.out (Below.mono X18.out HB1.out.size));have HT4:=h! (fun W (hW:Ext w8 W)=>HTY.out.up (Ext.trans X18.out hW));have HS4:=h! (fun W (hW:Ext w8 W)=>HS1.out.below (Ext.trans X18.out hW));have HP4:=h! (fun W (hW:Ext w8 W)=>HP8.out.below hW);have HL4:=h! (fun W (hW:Ext w8 W)=>show Sl (· < W.heap.size) W 6 (.slice (some ⟨g4,0,none⟩) 2 2) (tuCs l27)from(HL5.out.same (Same.below (Ext.trans X68.out hW))).mono fun _ hb=>Nat.lt_of_lt_of_le hb (Ext.trans X68.out hW).size);clear HX1 HTY HB1 HS1 X5 X6 X68 HL5 HP8 hg4;generalize w1.heap.size=s1 at *;generalize w7.heap.size=s7 at *;obtain⟨wd,hwd⟩:∃ wd,Hid (wd=w8.drew):=⟨_,h! rfl⟩;have hxd:=h! (show Ext w8 wd from by rw[hwd.out];exact Ext.drew _);apply Code.wp_mono (Q:=J1 (fun(bk:Nat) W=>Ext wd W) _) ?rest4 ?reg4
 case reg4 =>
  have hE:=h! (Ext.refl wd);refine region_walkN (Ext wd) (by rw[<- hwd.out];exact Ext.refl _) (by kernel_rfl) (by kernel_rfl) (fun _ _ d _ _ h=>by cases h.1) ?_;rw[<- hwd.out];have HNB:=h! (fun W (hW:Ext wd W)=>bookT_any set27 (.slice (some ⟨g4,0,none⟩) 2 2) W ((HL4.out W (Ext.trans hxd.out hW))) (by decide) ok27l);have HOB:=h! (fun W=>obj_any usB ⟨#[49]⟩ W);have HHS:=h! (fun W b (hW:Ext wd W) (hB:BookAt W b l27)=>has27_any (.slice aot 3 ct) u27 true yesS W b (HT4.out W (Ext.trans hxd.out hW)) hB);have hs:=fun W (h:Ext wd W)=>(HS4.out W (Ext.trans hxd.out h)).cells;have hp:=fun W (h:Ext wd W)=>(HP4.out W (Ext.trans hxd.out h)).cells;unfold aC at HHS;unfold usB at HOB;dsimp only[p27,u27,v27,docB,viB,usB]at HHS;(refine WalkN.tk [0,1,4] ?_;(iterate 3 (refine c! ?_));refine TkN.n ?_)
  clear hs hp;refine o! 2 ?_;refine b! ?_;intro K hK;go_simp;refine(HNB.out wd hE.out).mono ?_;rintro e u1 ⟨bk,rfl,hB0,hx0⟩;have hX0:=Ext.trans hE.out hx0;refine hK.out _ _ hX0 ?_;clear hK;have HBK:=h! hB0;clear hB0;have hE:=h! hX0;clear hx0 hX0;refine t! 3 ?_
  refine o! 5 ?_;refine b! ?_;intro K hK;go_simp;refine(HOB.out u1).mono ?_;rintro e u2 ⟨rfl,hx1⟩;have hX1:=Ext.trans hE.out hx1;refine hK.out _ _ hX1 ?_;clear hK;have HBK:=h! (HBK.out.ext hx1);have hE:=h! hX1;clear hx1 hX1;(refine WalkN.tk [6,7] ?_;(iterate 2 (refine c! ?_));refine TkN.n ?_)
  refine o! 8 ?_;refine b! ?_;intro K hK;go_simp;refine(HHS.out u2 bk hE.out HBK.out).mono ?_;rintro e u3 ⟨rfl,hx2⟩;have hX2:=Ext.trans hE.out hx2;refine hK.out _ _ hX2 ?_;clear hK;have hE:=h! hX2;clear hx2 hX2;(refine WalkN.tk [9,10,11,12,13] ?_;(iterate 5 (refine c! ?_));refine TkN.n ?_)
  refine d! ?_;exact⟨rfl,bk,rfl,hE.out⟩
 rintro e _ W4 ⟨rfl,bk4,rfl,hX⟩;dsimp only;have X9:=h! (show Ext w8 W4 from Ext.trans hxd.out hX);clear hX hxd hwd;go_wp2_with fail
 obtain⟨wd,hwd⟩:∃ wd,Hid (wd=W4.drew):=⟨_,h! rfl⟩;have hxd:=h! (show Ext W4 wd from by rw[hwd.out];exact Ext.drew _);apply Code.wp_mono (Q:=J1 (fun(bk:Nat) W=>Ext wd W) _) ?rest5 ?reg5
 case reg5 =>
  have hE:=h! (Ext.refl wd);refine region_walkN (Ext wd) (by rw[<- hwd.out];exact Ext.refl _) (by kernel_rfl) (by kernel_rfl) (fun _ _ d _ _ h=>by cases h.1) ?_;rw[<- hwd.out];have HNB:=h! (fun W (hW:Ext wd W)=>bookT_any set27 (.slice (some ⟨g4,0,none⟩) 2 2) W ((HL4.out W (Ext.trans X9.out (Ext.trans hxd.out hW)))) (by decide) ok27l);have HOB:=h! (fun W=>obj_any usB ⟨#[50]⟩ W);have HHS:=h! (fun W b (hW:Ext wd W) (hB:BookAt W b l27)=>has27_any (.slice aot 3 ct) v27 false noS W b (HT4.out W (Ext.trans X9.out (Ext.trans hxd.out hW))) hB);have hs:=fun W (h:Ext wd W)=>(HS4.out W (Ext.trans X9.out (Ext.trans hxd.out h))).cells;have hp:=fun W (h:Ext wd W)=>(HP4.out W (Ext.trans X9.out (Ext.trans hxd.out h))).cells;unfold aC at HHS;unfold usB at HOB;dsimp only[p27,u27,v27,docB,viB,usB]at HHS;(refine WalkN.tk [0,1,4] ?_;(iterate 3 (refine c! ?_));refine TkN.n ?_)
  clear hs hp;refine o! 2 ?_;refine b! ?_;intro K hK;go_simp;refine(HNB.out wd hE.out).mono ?_;rintro e u1 ⟨bk,rfl,hB0,hx0⟩;have hX0:=Ext.trans hE.out hx0;refine hK.out _ _ hX0 ?_;clear hK;have HBK:=h! hB0;clear hB0;have hE:=h! hX0;clear hx0 hX0;refine t! 3 ?_
  refine o! 5 ?_;refine b! ?_;intro K hK;go_simp;refine(HOB.out u1).mono ?_;rintro e u2 ⟨rfl,hx1⟩;have hX1:=Ext.trans hE.out hx1;refine hK.out _ _ hX1 ?_;clear hK;have HBK:=h! (HBK.out.ext hx1);have hE:=h! hX1;clear hx1 hX1;(refine WalkN.tk [6,7] ?_;(iterate 2 (refine c! ?_));refine TkN.n ?_)
  refine o! 8 ?_;refine b! ?_;intro K hK;go_simp;refine(HHS.out u2 bk hE.out HBK.out).mono ?_;rintro e u3 ⟨rfl,hx2⟩;have hX2:=Ext.trans hE.out hx2;refine hK.out _ _ hX2 ?_;clear hK;have hE:=h! hX2;clear hx2 hX2;(refine WalkN.tk [9,10,11,12,13] ?_;(iterate 5 (refine c! ?_));refine TkN.n ?_)
  refine d! ?_;exact⟨rfl,bk,rfl,hE.out⟩
 rintro e _ W5 ⟨rfl,bk5,rfl,hX⟩;dsimp only;have HBE:=h! (show Below w.heap.size w W5 from Below.trans HBT.out (Below.mono (Ext.trans X9.out (Ext.trans hxd.out hX)) HBT.out.size));clear hX hxd hwd;go_wp2_with fail
 go_ret
 exact⟨rfl,HBE.out⟩
end Go.Proofs.YtlhaghoajpglaaaGreat
namespace Go.Proofs.YtlhaghoajpglaaaGreat
open Go Go.RowKit
def nmR (m:Nat):ByteArray:=⟨#[UInt8.ofNat (97+m / 8),UInt8.ofNat (97+m % 8)]⟩
def uR:ByteArray:=⟨#[117]⟩
def vR:ByteArray:=⟨#[118]⟩
def ptR (m:Nat):P3:=⟨grB,nmR m,meB⟩
def suR (x:ByteArray):P3:=⟨usB,x,⟨#[]⟩⟩
def tuR (k i:Nat):Tup:=⟨ptR (i % k),ptR ((i+1) % k)⟩
def ringL (k i:Nat):List Tup:=(List.range i).map (tuR k)
def ringT (k a:Nat):List Tup:=ringL k k++[⟨ptR (a % k),suR uR⟩]
theorem ringL_succ (k i:Nat):ringL k (i+1)=ringL k i++[tuR k i]:=by unfold ringL;rw[List.range_succ,List.map_append];rfl
theorem ringL_len (k i:Nat):(ringL k i).length=i:=by simp[ringL]
theorem nmR_nm:∀ m,m<40->isNm (nmR m)=true:=by decide
theorem ptR_ok (m:Nat):(ptR m).Ok:=⟨by show grB.size<=_;decide,by show(nmR m).size<=_;unfold nmR maxLen;simp[ByteArray.size],by show meB.size<=_;decide⟩
theorem suR_ok {x:ByteArray} (h:x.size<=maxLen):(suR x).Ok:=⟨by show usB.size<=_;decide,h,by show(⟨#[]⟩:ByteArray).size<=_;decide⟩
section
variable {k a : Nat}
theorem ringT_mem {t:Tup}:t∈ringT k a↔(∃ i,i<k/\t=tuR k i)\/t=⟨ptR (a % k),suR uR⟩:=by
 unfold ringT ringL;rw[List.mem_append,List.mem_map,List.mem_singleton];constructor
 ·rintro(⟨i,hi,rfl⟩ | rfl)
  ·exact .inl ⟨i,List.mem_range.1 hi,rfl⟩
  ·exact .inr rfl
 ·rintro(⟨i,hi,rfl⟩ | rfl)
  ·exact .inl ⟨i,List.mem_range.2 hi,rfl⟩
  ·exact .inr rfl
theorem ringT_chk (hk:0<k)(hk2:k<=40):∀ t∈ringT k a,chkT t=true:=fun t ht=>by
 have hm:∀ m,m % k<40:=fun m=>Nat.lt_of_lt_of_le (Nat.mod_lt _ hk) hk2;have h1:isNm grB=true:=by decide
 have h2:isNm meB=true:=by decide
 have h3:isNm usB=true:=by decide
 have h4:isNm uR=true:=by decide
 rcases ringT_mem.1 ht with⟨i,hi,rfl⟩ | rfl
 ·simp[chkT,tuR,ptR,h1,h2,nmR_nm _ (hm i),nmR_nm _ (hm (i+1))]
 ·simp[chkT,ptR,suR,h1,h2,h3,h4,nmR_nm _ (hm a)];exact .inr rfl
theorem ringT_ok:∀ t∈ringT k a,t.Ok:=fun t ht=>by
 rcases ringT_mem.1 ht with⟨i,hi,rfl⟩ | rfl
 ·exact⟨ptR_ok _,ptR_ok _⟩
 ·exact⟨ptR_ok _,suR_ok (by decide)⟩
theorem ringT_len:(ringT k a).length=k+1:=by unfold ringT;rw[List.length_append,ringL_len];rfl
end
def txtR:ByteArray:=⟨#[116,121,112,101,32,103,114,111,117,112,10,109,101,109,98,101,114,32,61,32,116,104,105,115,10,116,121,112,101,32,117,115,101,114]⟩
def itsR:List PIt:=[.ty grB,.rel meB thB [],.ty usB]
def lnsR:List ByteArray:=[⟨#[116,121,112,101,32,103,114,111,117,112]⟩,⟨#[109,101,109,98,101,114,32,61,32,116,104,105,115]⟩,⟨#[116,121,112,101,32,117,115,101,114]⟩]
def tsR:List TyS:=[⟨grB,[(meB,.mk 1 ⟨#[]⟩ ⟨#[]⟩ [])]⟩,⟨usB,[]⟩]
theorem linesR:linesD txtR=lnsR:=by kernel_rfl
theorem stepR:itsR.foldl stepD []=tsR:=by kernel_rfl
theorem lnsOkR:(lnsR.zip itsR).all (fun p=>lnOkB p.1 p.2)=true:=by kernel_rfl
theorem fitsR:itsR.all PIt.fitB=true:=by kernel_rfl
theorem chkR:chk06 tsR=0:=by kernel_rfl
theorem okR:∀ t∈tsR,t.Ok:=by
 intro t ht;unfold tsR at ht;simp only[List.mem_cons,List.not_mem_nil,or_false]at ht;rcases ht with rfl | rfl
 ·refine⟨by decide,fun r hr=>?_⟩;obtain rfl:=List.mem_singleton.1 hr;exact⟨by decide,by simp[RT.Ok,okL];decide⟩
 ·exact⟨by decide,fun r hr=>by cases hr⟩
theorem refsR:refsOf tsR=[(⟨grB,meB⟩,.mk 1 ⟨#[]⟩ ⟨#[]⟩ [])]:=by rfl
theorem ruleR {p:P3} {r:RT} (h:ruleOf tsR [] p=some r):r = .mk 1 ⟨#[]⟩ ⟨#[]⟩ []:=by
 unfold ruleOf at h;rw[if_neg (by simp),refsR]at h;unfold lookA at h;split at h
 ·injection h with h;exact h.symm
 ·cases h
theorem ruleR_pt (m:Nat):ruleOf tsR [] (ptR m)=some (.mk 1 ⟨#[]⟩ ⟨#[]⟩ []):=by
 unfold ruleOf;rw[if_neg (by simp),refsR];rfl
section
variable {k a : Nat} {T : List Tup}
theorem ring_yes (hk:0<k)(hT:∀ t,t∈T↔t∈ringT k a)(m:Nat)(hm:m<k):Den tsR T [] (suR uR) (ptR m):=by
 have main:∀ d i,i<k->(i+d) % k=a % k->Den tsR T [] (suR uR) (ptR i):=by
  intro d;induction d with
  | zero =>
   intro i hi h;rw[Nat.add_zero,Nat.mod_eq_of_lt hi]at h;rw[h];exact Den.said (t:=⟨ptR (a % k),suR uR⟩) ((hT _).2 (ringT_mem.2 (.inr rfl))) (ruleR_pt _) rfl
  | succ d ih =>
   intro i hi h;have h1:=ih ((i+1) % k) (Nat.mod_lt _ hk) (by rw[Nat.mod_add_mod,<- h];congr 1;omega);have h2:=Den.set (ts:=tsR) (shut:=[]) (s:=suR uR) (t:=tuR k i) ((hT _).2 (ringT_mem.2 (.inl ⟨i,hi,rfl⟩))) (ruleR_pt _) rfl (by show meB≠_;decide) h1;rw[show(tuR k i).o=ptR i from by unfold tuR;rw[Nat.mod_eq_of_lt hi]]at h2;exact h2
 refine main (a % k+k-m) m hm ?_;have:m+(a % k+k-m)=a % k+k:=by omega
 rw[this,Nat.add_mod_right,Nat.mod_mod]
theorem ring_no (hT:∀ t∈T,t∈ringT k a)(p:P3):¬ Den tsR T [] (suR vR) p:=by
 rintro⟨n,h⟩;induction n generalizing p with
 | zero=>exact h
 | succ n ih =>
  rcases h with h | ⟨r,hr,h⟩
  ·exact ih p h
  ·obtain rfl:=ruleR hr;rw[holdT_eq,if_pos (show(RT.mk 1 ⟨#[]⟩ ⟨#[]⟩ []).k=1 from rfl)]at h;rcases h with h | ⟨q,_,h⟩
   ·obtain⟨t,ht,_,h2⟩:=subsOf_has.1 h;rcases ringT_mem.1 (hT t ht)with⟨i,_,rfl⟩ | rfl
    ·have:=congrArg P3.t h2;revert this
     show grB≠usB
     decide
    ·have:=congrArg P3.i h2;revert this
     show uR≠vR
     decide
   ·exact ih q h
theorem ring_few (hT:∀ t∈T,t∈ringT k a)(hk:0<k)(hk2:k<=40)(m:Nat)(hm:m<k):¬ WalkLong tsR T [] (ptR m) 100:=by
 rintro⟨n,-,-,h⟩
 have hU:OkU T ((List.range k).map (fun m=>(grB,nmR m))++[(usB,uR)]) [meB,⟨#[]⟩]:=by
  refine⟨fun t ht=>?_,fun t ht=>?_⟩
  ·rcases ringT_mem.1 (hT t ht)with⟨i,_,rfl⟩ | rfl
   ·exact List.mem_append_left _ (List.mem_map.2 ⟨(i+1) % k,List.mem_range.2 (Nat.mod_lt _ hk),rfl⟩)
   ·exact List.mem_append_right _ (List.mem_singleton.2 rfl)
  ·rcases ringT_mem.1 (hT t ht)with⟨i,_,rfl⟩ | rfl
   ·exact List.mem_cons_self
   ·exact List.mem_cons_of_mem _ (List.mem_singleton.2 rfl)
 have hN:NmU tsR [meB,⟨#[]⟩]:=fun x hx n hn=>by
  rw[refsR]at hx;obtain rfl:=List.mem_singleton.1 hx
  have:n=⟨#[]⟩:=by
   simp[RT.nms,nmsL]at hn;exact hn
  rw[this];exact List.mem_cons_of_mem _ (List.mem_singleton.2 rfl)
 have h1:=inU_few (walkN_nodup tsR T [] (ptR m) n) (walkN_in hU hN [] ⟨List.mem_append_left _ (List.mem_map.2 ⟨m,List.mem_range.2 hm,rfl⟩),List.mem_cons_self⟩ n);simp at h1;omega
theorem ring_arg (hT:T.length<=41)(hTo:∀ t∈T,t.Ok)(m:Nat):HasArg tsR T [] (ptR m):=HasArg.of chkR okR (by decide) (by decide) (by decide) hT hTo (ptR_ok m) (by simp)
theorem ring_has (hT:∀ t,t∈T↔t∈ringT k a)(hk:0<k)(hk2:k<=40)(m:Nat)(hm:m<k) {s:P3} {e:Ending} (bb:Bool)(hs:bb=true↔Den tsR T [] s (ptR m))(h:HasSaid tsR T [] (ptR m) s 100 e):e = .returned (.tuple #[.bool bb,.int .i64 0]):=by
 rcases h with⟨n,b,hw,rfl,hb⟩ | ⟨hl,-⟩
 ·have:b=bb:=by
   rw[Bool.eq_iff_iff,hb,hs];exact(hw.den_iff s).symm
  rw[this]
 ·exact absurd hl (ring_few (fun t ht=>(hT t).1 ht) hk hk2 m hm)
end
end Go.Proofs.YtlhaghoajpglaaaGreat
namespace Go.Proofs.YtlhaghoajpglaaaGreat
open Go Go.RowKit Go.Maps
theorem nm_conv (w:World)(m d r:Nat)(hd:d=m / 8)(hr:r=m % 8)(hm:m<40):(convert 22 9 (.slice (some ⟨w.heap.size,0,none⟩) 2 2)).run Tryz.prog (w.alloc (.cells #[.int .u8 (97+(d:Int)),.int .u8 (97+(r:Int))] 5)) = .ok (.string (nmR m)) (w.alloc (.cells #[.int .u8 (97+(d:Int)),.int .u8 (97+(r:Int))] 5)):=by
 have h:=run_convert_bytes_back (P:=Tryz.prog) (w.alloc (.cells #[.int .u8 (97+(d:Int)),.int .u8 (97+(r:Int))] 5)) 22 9 5 ⟨w.heap.size,0,none⟩ 2 [UInt8.ofNat (97+m / 8),UInt8.ofNat (97+m % 8)] Tryz.underlying22 Tryz.underlying5 Tryz.underlying9 (fun j hj=>by
  rw[Addr.add_lit,cell_of_row _ w.heap.size (0+j) _ 5 (0,0) (heap_alloc_new w _)];match j,hj with
  | 0,_=>simp;omega
  | 1,_=>simp;omega)
 exact h
theorem nameR_any (i k:Nat)(hi:i<=1000)(hk:0<k)(hk2:k<=40)(w:World):Calls Tryz.prog 35 #[.int .i64 (i:Int),.int .i64 (k:Int)] w fun e w'=>e = .returned (.string (nmR (i % k)))/\Ext w w':=by
 obtain⟨m,hm⟩:∃ m,m=i % k:=⟨_,rfl⟩;have hm4:m<40:=by rw[hm];exact Nat.lt_of_lt_of_le (Nat.mod_lt _ hk) hk2
 have HM4:=h! hm4;have hmi:(i:Int).tmod (k:Int)=(m:Int):=by rw[Int.tmod_eq_emod_of_nonneg (by omega),hm];simp
 obtain⟨d,hd⟩:∃ d,d=m / 8:=⟨_,rfl⟩;obtain⟨r,hr⟩:∃ r,r=m % 8:=⟨_,rfl⟩;have HDR:=h! (And.intro hd hr);have hmd:(m:Int).tdiv 8=(d:Int):=by rw[Int.tdiv_eq_ediv_of_nonneg (by omega)];omega
 have hmr:(m:Int).tmod 8=(r:Int):=by rw[Int.tmod_eq_emod_of_nonneg (by omega)];omega
 have hmd2:(m:Int) / 8=(d:Int):=by omega
 have hmr2:(m:Int) % 8=(r:Int):=by omega
 have hq1:IntKind.i64.wrap (m:Int)=(m:Int):=IntWalk.i64_in _ (by omega);have hq2:IntKind.i64.wrap (d:Int)=(d:Int):=IntWalk.i64_in _ (by omega);have hq3:IntKind.i64.wrap (r:Int)=(r:Int):=IntWalk.i64_in _ (by omega);have hq4:IntKind.i64.wrap (97+(d:Int))=97+(d:Int):=IntWalk.i64_in _ (by omega);have hq5:IntKind.i64.wrap (97+(r:Int))=97+(r:Int):=IntWalk.i64_in _ (by omega);have hq6:IntKind.u8.wrap (97+(d:Int))=97+(d:Int):=by unfold IntKind.wrap;simp[IntKind.bits];omega
 have hq7:IntKind.u8.wrap (97+(r:Int))=97+(r:Int):=by unfold IntKind.wrap;simp[IntKind.bits];omega
 clear hd hr;rw[<- hm];have hk0:¬ ((k:Int)=0):=by omega
 have hk1:¬ (k=0):=by omega
 clear hm hi hk hk2 hm4;go_enter Tryz.func35,Tryz.ntmps35
 go_wp2_with fail
 obtain⟨wd,hwd⟩:∃ wd,Hid (wd=World.drew w):=⟨_,h! rfl⟩;have hxd:=h! (show Ext w wd from by rw[hwd.out];exact Ext.drew _);refine r! (Ext wd) (by rw[<- hwd.out];exact Ext.refl _) ?_;rw[<- hwd.out];(refine WalkN.tk [0,1,2,3,4,5,6,7,8,9,10,11] ?_;(iterate 12 (refine c! ?_));refine TkN.n ?_)
 clear hmi hmd hmr hmd2 hmr2 hq1 hq2 hq3 hq4 hq5 hq6 hq7 hk0 hk1;have HE0:=Ext.alloc wd (.cells #[.int .u8 (97+(d:Int)),.int .u8 (97+(r:Int))] 5);have hcv:=nm_conv wd m d r HDR.out.1 HDR.out.2 HM4.out;refine o! 12 ?_;refine b! ?_;intro K hK;go_simp;refine hK.out _ _ HE0 ?_;clear hK;refine o! 13 ?_;refine b! ?_;intro K hK;go_simp;refine hK.out _ _ HE0 ?_;clear hK hcv;refine t! 14 ?_
 refine d! ?_;go_wp2_with fail
 go_ret
 exact⟨rfl,Ext.trans hxd.out HE0⟩
theorem ringLaw_any (n at0 ask:Nat)(hn:n<256)(hat:at0<256)(hask:ask<256)(w:World):Calls Tryz.prog 5 #[.int .u8 n,.int .u8 at0,.int .u8 ask] w fun e w'=>e = .returned (.bool true)/\Below w.heap.size w w':=by
 obtain⟨k,hk⟩:∃ k,k=1+n % 40:=⟨_,rfl⟩;have HKP:=h! (show 0<k from by omega);have HK40:=h! (show k<=40 from by omega);have HAT:=h! hat;have HASK:=h! hask;have HF:=h! (fixed27_any w);have h1:(n:Int).tmod 40=((n % 40:Nat):Int):=by rw[Int.tmod_eq_emod_of_nonneg (by omega)];simp
 have h2:IntKind.u8.wrap ((n % 40:Nat):Int)=((n % 40:Nat):Int):=by unfold IntKind.wrap;simp[IntKind.bits];omega
 have h3:IntKind.i64.wrap ((n % 40:Nat):Int)=((n % 40:Nat):Int):=IntWalk.i64_in _ (by omega);have h4:wrap64 (1+((n % 40:Nat):Int))=(k:Int):=by unfold wrap64;omega
 have HK2:=h! (show(1:Int)+(n:Int) % 40=(k:Int)from by omega);clear hk hn hat hask;go_enter Tryz.func5,Tryz.ntmps5
 go_wp2_with fail
 refine HF.out.mono ?_;rintro e w1 ⟨rfl,hb1⟩;have HB0:=h! (show Below w.heap.size w w1 from hb1);have HPA:=h! (parse_any txtR itsR w1 (by decide) (by rw[linesR];rfl) (by rw[linesR];exact lnsOk_of lnsOkR) (fits_of fitsR) (fun _=>⟨grB,rfl⟩) (by decide));rw[stepR]at HPA;unfold txtR at HPA;clear hb1 HF;go_wp2_with fail
 clear h1 h2 h3 h4;refine HPA.out.mono ?_;rintro e w2 ⟨tv,rfl,hty,hb2⟩;obtain⟨aot,ct,rfl,-,-,-⟩:=hty.rows;rw[show tsR.length=2 from rfl]at *;have HX1:=h! (Ext.alloc w2 (.cells #[.slice aot 2 ct] 26));have HTY:=h! ((hty.mono (S':=(· < w2.heap.size)) fun b hb=>hb.2).up HX1.out);have HB1:=h! (show Below w.heap.size w _ from HB0.out.trans (Below.mono (show Ext w1 _ from hb2.trans (HX1.out.mono hb2.size)) HB0.out.size));have HS1:=h! (Blk.made w2 #[.slice aot 2 ct] 26);clear hty hb2 HPA;go_wp2_with fail
 obtain⟨w3,hw3⟩:∃ y,y=w2.alloc (.cells #[.slice aot 2 ct] 26):=⟨_,rfl⟩;rw[<- hw3]at HTY HB1 HS1 ⊢;clear hw3 HX1;generalize w2.heap.size=s1 at *;rw[HK2.out];go_loopw [11,30] (fun lv jv wr=>∃ i:Nat,i<=k/\jv = .int .i64 i/\Own wr w3.heap.size 67 6 lv (tuCs (ringL k i))/\Ext w3 wr) (fun _ jv _=>k-(intOf jv).toNat)
 case atStart=>exact⟨0,Nat.zero_le _,rfl,Own.nil _ _ _ _,Ext.refl _⟩
 case round =>
  obtain⟨i,hi,rfl,ho,hx⟩:=hrel;have O1:=h! ho;have X1:=h! hx;obtain⟨vo,vn,vc,rfl,hvn,-,-⟩:=ho.sl.len;rw[tuCs_length,ringL_len]at hvn;have HVN:=h! (show vn=i from by omega);clear ho hx hvn;by_cases hlt:i<k
  ·have HLT:=h! hlt;have HLE:=h! (show i<=41 from by have:=HK40.out;omega);obtain⟨i1,hi1⟩:∃ i1:Nat,Hid (i1=i+1):=⟨_,h! rfl⟩;have HW1:wrap64 ((i:Int)+1)=(i1:Int):=by have:=HK40.out;have:=hi1.out;unfold wrap64;omega
   have HWI:=h! (show wrap64 ((i:Int)+1)=((i+1:Nat):Int)from by have:=HK40.out;unfold wrap64;omega);have hli:(i:Int)<(k:Int):=by omega
   have HN1:=h! (fun W=>nameR_any i k (by have:=HLE.out;omega) HKP.out HK40.out W);have HN2:=h! (fun W=>nameR_any i1 k (by have:=HLE.out;have:=hi1.out;omega) HKP.out HK40.out W);have HOB:=h! (fun x W=>obj_any grB x W);unfold grB at HOB;clear hlt;go_wp2_with fail
   refine(HN1.out _).mono ?_;rintro e w4 ⟨rfl,hx4⟩;go_wp2_with fail
   refine(HOB.out _ _).mono ?_;rintro e w5 ⟨rfl,hx5⟩;go_wp2_with fail
   refine(HN2.out _).mono ?_;rintro e w6 ⟨rfl,hx6⟩;go_wp2_with fail
   refine(HOB.out _ _).mono ?_;rintro e w7 ⟨rfl,hx7⟩;have X7:=h! (X1.out.trans (hx4.trans (hx5.trans (hx6.trans hx7))));have O7:=h! (O1.out.below (hx4.trans (hx5.trans (hx6.trans hx7))));have X8:=h! (Ext.alloc w7 (.cells ([.string ⟨#[103,114,111,117,112]⟩,.string (nmR (i % k)),.string ⟨#[109,101,109,98,101,114]⟩,.string ⟨#[103,114,111,117,112]⟩,.string (nmR (i1 % k)),.string ⟨#[109,101,109,98,101,114]⟩]:List Value).toArray 67));have O8:=h! (O7.out.below X8.out);have HWL:=h! (show w3.heap.size<=(w7.alloc (.cells ([.string ⟨#[103,114,111,117,112]⟩,.string (nmR (i % k)),.string ⟨#[109,101,109,98,101,114]⟩,.string ⟨#[103,114,111,117,112]⟩,.string (nmR (i1 % k)),.string ⟨#[109,101,109,98,101,114]⟩]:List Value).toArray 67)).heap.size from Nat.le_trans X7.out.size X8.out.size);clear hx4 hx5 hx6 hx7 HW1;go_wp2_with (at_builtin;go_must (refine wpList_ownw tupT rfl _ _ rfl rfl O8.out rfl (m:=1) (news:=[.string ⟨#[103,114,111,117,112]⟩,.string (nmR (i % k)),.string ⟨#[109,101,109,98,101,114]⟩,.string ⟨#[103,114,111,117,112]⟩,.string (nmR (i1 % k)),.string ⟨#[109,101,109,98,101,114]⟩]) rfl (by intro j u hu;rw[Addr.add_lit,cell_of_row _ w7.heap.size (0+j) ([.string ⟨#[103,114,111,117,112]⟩,.string (nmR (i % k)),.string ⟨#[109,101,109,98,101,114]⟩,.string ⟨#[103,114,111,117,112]⟩,.string (nmR (i1 % k)),.string ⟨#[109,101,109,98,101,114]⟩]:List Value).toArray 67 (0,0) (heap_alloc_new w7 _)];simpa using hu) (by simp[Value.oneCell']) (by have:=HLE.out;rw[tuCs_length,ringL_len];simp;omega) (by have:=HLE.out;rw[tuCs_length,ringL_len];simp;omega) (by have:=HWL.out;omega) ?_;intro v8 w8 hown8 hbx8 hg8;have HO8:=h! hown8;have HX8:=h! (grown_below (X7.out.trans X8.out) O8.out hg8 (by have:=HWL.out;omega));clear hown8 hbx8 hg8))
   go_roundw
   case rel=>exact⟨i+1,HLT.out,by first | rw[HWI.out] | go_num,by rw[ringL_succ,show tuCs (ringL k i++[tuR k i])=tuCs (ringL k i)++[.string ⟨#[103,114,111,117,112]⟩,.string (nmR (i % k)),.string ⟨#[109,101,109,98,101,114]⟩,.string ⟨#[103,114,111,117,112]⟩,.string (nmR (i1 % k)),.string ⟨#[109,101,109,98,101,114]⟩]from by rw[hi1.out];simp[tuCs,tuC,tuR,ptR,grB,meB]];exact HO8.out,HX8.out⟩
   case measure=>have:=HLT.out;(try rw[HWI.out]);simp[intOf];omega
  ·obtain rfl:i=k:=by omega
   clear hlt hi;have HLE:=h! (show i<=41 from by have:=HK40.out;omega);have ha1:IntKind.i64.wrap (at0:Int)=(at0:Int):=IntWalk.i64_in _ (by have:=HAT.out;omega);have ha2:IntKind.i64.wrap (ask:Int)=(ask:Int):=IntWalk.i64_in _ (by have:=HASK.out;omega);have ha3:wrap64 (at0:Int)=(at0:Int):=by have:=HAT.out;unfold wrap64;omega
   have ha4:wrap64 (ask:Int)=(ask:Int):=by have:=HASK.out;unfold wrap64;omega
   have HN1:=h! (fun W=>nameR_any at0 i (by have:=HAT.out;omega) HKP.out HK40.out W);have HN2:=h! (fun W=>nameR_any ask i (by have:=HASK.out;omega) HKP.out HK40.out W);have HOB:=h! (fun x W=>obj_any grB x W);have HOU:=h! (fun W=>obj_any usB ⟨#[117]⟩ W);unfold grB at HOB;unfold usB at HOU;go_wp2_with fail
   refine(HN1.out _).mono ?_;rintro e w4 ⟨rfl,hx4⟩;go_wp2_with fail
   refine(HOB.out _ _).mono ?_;rintro e w5 ⟨rfl,hx5⟩;go_wp2_with fail
   refine(HOU.out _).mono ?_;rintro e w7 ⟨rfl,hx7⟩;have X7:=h! (X1.out.trans (hx4.trans (hx5.trans hx7)));have O7:=h! (O1.out.below (hx4.trans (hx5.trans hx7)));have X8:=h! (Ext.alloc w7 (.cells #[.string ⟨#[103,114,111,117,112]⟩,.string (nmR (at0 % i)),.string ⟨#[109,101,109,98,101,114]⟩,.string ⟨#[117,115,101,114]⟩,.string ⟨#[117]⟩,.string ⟨#[]⟩] 67));have O8:=h! (O7.out.below X8.out);have HWL:=h! (show w3.heap.size<=(w7.alloc (.cells #[.string ⟨#[103,114,111,117,112]⟩,.string (nmR (at0 % i)),.string ⟨#[109,101,109,98,101,114]⟩,.string ⟨#[117,115,101,114]⟩,.string ⟨#[117]⟩,.string ⟨#[]⟩] 67)).heap.size from Nat.le_trans X7.out.size X8.out.size);clear hx4 hx5 hx7;go_wp2_with (at_builtin;go_must (refine wpList_ownw tupT rfl _ _ rfl rfl O8.out rfl (m:=1) (news:=[.string ⟨#[103,114,111,117,112]⟩,.string (nmR (at0 % i)),.string ⟨#[109,101,109,98,101,114]⟩,.string ⟨#[117,115,101,114]⟩,.string ⟨#[117]⟩,.string ⟨#[]⟩]) rfl (by intro j u hu;rw[Addr.add_lit,cell_of_row _ w7.heap.size (0+j) ([.string ⟨#[103,114,111,117,112]⟩,.string (nmR (at0 % i)),.string ⟨#[109,101,109,98,101,114]⟩,.string ⟨#[117,115,101,114]⟩,.string ⟨#[117]⟩,.string ⟨#[]⟩]:List Value).toArray 67 (0,0) (heap_alloc_new w7 _)];simpa using hu) (by simp[Value.oneCell']) (by have:=HLE.out;rw[tuCs_length,ringL_len];simp;omega) (by have:=HLE.out;rw[tuCs_length,ringL_len];simp;omega) (by have:=HWL.out;omega) ?_;intro v8 w8 hown8 hbx8 hg8;have HO9:=h! (show Own w8 w3.heap.size 67 6 v8 (tuCs (ringT i at0))from by rw[show tuCs (ringT i at0)=tuCs (ringL i i)++[.string ⟨#[103,114,111,117,112]⟩,.string (nmR (at0 % i)),.string ⟨#[109,101,109,98,101,114]⟩,.string ⟨#[117,115,101,114]⟩,.string ⟨#[117]⟩,.string ⟨#[]⟩]from by simp[ringT,tuCs,tuC,ptR,suR,grB,meB,usB,uR]];exact hown8);have HX8:=h! (grown_below (X7.out.trans X8.out) O8.out hg8 (by have:=HWL.out;omega));obtain⟨vo,vn,vc,rfl,-⟩:=HO9.out.sl.len;clear hown8 hbx8 hg8))
   refine(HN2.out _).mono ?_;rintro e w9 ⟨rfl,hx9⟩;go_wp2_with fail
   refine(HOB.out _ _).mono ?_;rintro e w10 ⟨rfl,hx10⟩;have X10:=h! (hx9.trans hx10);have X11:=h! (Ext.alloc w10 (.cells #[.string ⟨#[103,114,111,117,112]⟩,.string (nmR (ask % i)),.string ⟨#[109,101,109,98,101,114]⟩] 32));have HP11:=h! (Blk.made w10 #[.string ⟨#[103,114,111,117,112]⟩,.string (nmR (ask % i)),.string ⟨#[109,101,109,98,101,114]⟩] 32);clear hx9 hx10 ha1 ha2 ha3 ha4;go_wp2_with fail
   obtain⟨w11,hw11⟩:∃ y,y=w10.alloc (.cells #[.string ⟨#[103,114,111,117,112]⟩,.string (nmR (ask % i)),.string ⟨#[109,101,109,98,101,114]⟩] 32):=⟨_,rfl⟩;rw[<- hw11]at X11 HP11 ⊢;clear hw11;generalize w10.heap.size=s7 at *;have X8B:=h! (X10.out.trans X11.out);have X3B:=h! (show Ext w3 w11 from HX8.out.trans (Below.mono X8B.out HX8.out.size));obtain⟨T,hT⟩:=set_ex (ringT i at0);have HST:=h! hT;have HTM:=h! (show ∀ t,t∈T↔t∈ringT i at0 from fun t=>by rw[hT.mem t];exact⟨fun h=>h.1,fun h=>⟨h,ringT_chk HKP.out HK40.out t h⟩⟩);have HLN:=h! (show(ringT i at0).length<=41 from by rw[ringT_len];have:=HK40.out;omega);have HLO:=h! (show ∀ t∈ringT i at0,t.Ok from ringT_ok);have HAR:=h! (fun m=>ring_arg (T:=T) (Nat.le_trans hT.len HLN.out) (fun t ht=>ringT_ok t ((HTM.out t).1 ht)) m);have HT4:=h! (fun W (hW:Ext w11 W)=>HTY.out.up (Ext.trans X3B.out hW));have HS4:=h! (fun W (hW:Ext w11 W)=>HS1.out.below (Ext.trans X3B.out hW));have HP4:=h! (fun W (hW:Ext w11 W)=>HP11.out.below hW);have HL4:=h! (fun W (hW:Ext w11 W)=>show Sl (· < W.heap.size) W 6 (.slice vo vn vc) (tuCs (ringT i at0))from(HO9.out.sl.same (Same.mono (Same.below (Ext.trans X8B.out hW)) fun b hb=>hb.2)).mono fun _ hb=>Nat.lt_of_lt_of_le hb.2 (Ext.trans X8B.out hW).size);have HBT:=h! (show Below w.heap.size w w11 from HB1.out.trans (Below.mono X3B.out HB1.out.size));clear hT HB1 HTY HS1 HP11 HO9 HX8 X7 O7 X8 O8 O1 X1;obtain⟨wd,hwd⟩:∃ wd,Hid (wd=World.drew w11):=⟨_,h! rfl⟩;have hxd:=h! (show Ext w11 wd from by rw[hwd.out];exact Ext.drew _);apply Code.wp_mono (Q:=J1 (fun(bk:Nat) W=>Ext wd W) _) ?rest1 ?reg1
   case reg1 =>
    have hE:=h! (Ext.refl wd);refine region_walkN (Ext wd) (by rw[<- hwd.out];exact Ext.refl _) (by kernel_rfl) (by kernel_rfl) (fun _ _ d _ _ h=>by cases h.1) ?_;rw[<- hwd.out];have HNB:=h! (fun W (hW:Ext wd W)=>bookT_any HST.out (.slice vo vn vc) W (HL4.out W (Ext.trans hxd.out hW)) (by have:=HLN.out;omega) HLO.out);have HOB:=h! (fun W=>obj_any usB ⟨#[117]⟩ W);have HHS:=h! (fun W b (hW:Ext wd W) (hB:BookAt W b T)=>(hasP_any tsR (.slice aot 2 ct) b T [] (.slice none 0 0) (ptR (ask % i)) (suR ⟨#[117]⟩) 100 W (HT4.out W (Ext.trans hxd.out hW)) (HAR.out (ask % i)) hB (Sl.nil _ _ _)).mono fun e w' h=>(show e = .returned (.tuple #[.bool true,.int .i64 0])/\Ext W w' from⟨ring_has (k:=i) (a:=at0) HTM.out HKP.out HK40.out (ask % i) (Nat.mod_lt _ HKP.out) true (by exact⟨fun _=>ring_yes HKP.out HTM.out _ (Nat.mod_lt _ HKP.out),fun _=>rfl⟩) h.1,h.2⟩));have hs:=fun W (h:Ext wd W)=>(HS4.out W (Ext.trans hxd.out h)).cells;have hp:=fun W (h:Ext wd W)=>(HP4.out W (Ext.trans hxd.out h)).cells;unfold aC at HHS;unfold usB at HOB;dsimp only[ptR,suR,grB,meB,usB]at HHS hp;(refine WalkN.tk [0,1,4] ?_;(iterate 3 (refine c! ?_));refine TkN.n ?_)
    clear hs hp;refine o! 2 ?_;refine b! ?_;intro K hK;go_simp;refine(HNB.out wd hE.out).mono ?_;rintro e u1 ⟨bk,rfl,hB0,hx0⟩;have hX0:=Ext.trans hE.out hx0;refine hK.out _ _ hX0 ?_;clear hK;have HBK:=h! hB0;clear hB0;have hE:=h! hX0;clear hx0 hX0;refine t! 3 ?_
    refine o! 5 ?_;refine b! ?_;intro K hK;go_simp;refine(HOB.out u1).mono ?_;rintro e u2 ⟨rfl,hx1⟩;have hX1:=Ext.trans hE.out hx1;refine hK.out _ _ hX1 ?_;clear hK;have HBK:=h! (HBK.out.ext hx1);have hE:=h! hX1;clear hx1 hX1;(refine WalkN.tk [6,7] ?_;(iterate 2 (refine c! ?_));refine TkN.n ?_)
    refine o! 8 ?_;refine b! ?_;intro K hK;go_simp;refine(HHS.out u2 bk hE.out HBK.out).mono ?_;rintro e u3 ⟨rfl,hx2⟩;have hX2:=Ext.trans hE.out hx2;refine hK.out _ _ hX2 ?_;clear hK;have hE:=h! hX2;clear hx2 hX2;(refine WalkN.tk [9,10,11,12,13] ?_;(iterate 5 (refine c! ?_));refine TkN.n ?_)
    refine d! ?_;exact⟨rfl,bk,rfl,hE.out⟩
   rintro e _ W1 ⟨rfl,bk1,rfl,hX⟩;dsimp only;have X9:=h! (show Ext w11 W1 from Ext.trans hxd.out hX);clear hX hxd hwd;go_wp2_with fail
   obtain⟨wd,hwd⟩:∃ wd,Hid (wd=World.drew W1):=⟨_,h! rfl⟩;have hxd:=h! (show Ext W1 wd from by rw[hwd.out];exact Ext.drew _);apply Code.wp_mono (Q:=J1 (fun(bk:Nat) W=>Ext wd W) _) ?rest2 ?reg2
   case reg2 =>
    have hE:=h! (Ext.refl wd);refine region_walkN (Ext wd) (by rw[<- hwd.out];exact Ext.refl _) (by kernel_rfl) (by kernel_rfl) (fun _ _ d _ _ h=>by cases h.1) ?_;rw[<- hwd.out];have HNB:=h! (fun W (hW:Ext wd W)=>bookT_any HST.out (.slice vo vn vc) W (HL4.out W (Ext.trans X9.out (Ext.trans hxd.out hW))) (by have:=HLN.out;omega) HLO.out);have HOB:=h! (fun W=>obj_any usB ⟨#[118]⟩ W);have HHS:=h! (fun W b (hW:Ext wd W) (hB:BookAt W b T)=>(hasP_any tsR (.slice aot 2 ct) b T [] (.slice none 0 0) (ptR (ask % i)) (suR ⟨#[118]⟩) 100 W (HT4.out W (Ext.trans X9.out (Ext.trans hxd.out hW))) (HAR.out (ask % i)) hB (Sl.nil _ _ _)).mono fun e w' h=>(show e = .returned (.tuple #[.bool false,.int .i64 0])/\Ext W w' from⟨ring_has (k:=i) (a:=at0) HTM.out HKP.out HK40.out (ask % i) (Nat.mod_lt _ HKP.out) false (by exact⟨fun h=>(by cases h),fun h=>absurd h (ring_no (fun t ht=>(HTM.out t).1 ht) _)⟩) h.1,h.2⟩));have hs:=fun W (h:Ext wd W)=>(HS4.out W (Ext.trans X9.out (Ext.trans hxd.out h))).cells;have hp:=fun W (h:Ext wd W)=>(HP4.out W (Ext.trans X9.out (Ext.trans hxd.out h))).cells;unfold aC at HHS;unfold usB at HOB;dsimp only[ptR,suR,grB,meB,usB]at HHS hp;(refine WalkN.tk [0,1,4] ?_;(iterate 3 (refine c! ?_));refine TkN.n ?_)
    clear hs hp;refine o! 2 ?_;refine b! ?_;intro K hK;go_simp;refine(HNB.out wd hE.out).mono ?_;rintro e u1 ⟨bk,rfl,hB0,hx0⟩;have hX0:=Ext.trans hE.out hx0;refine hK.out _ _ hX0 ?_;clear hK;have HBK:=h! hB0;clear hB0;have hE:=h! hX0;clear hx0 hX0;refine t! 3 ?_
    refine o! 5 ?_;refine b! ?_;intro K hK;go_simp;refine(HOB.out u1).mono ?_;rintro e u2 ⟨rfl,hx1⟩;have hX1:=Ext.trans hE.out hx1;refine hK.out _ _ hX1 ?_;clear hK;have HBK:=h! (HBK.out.ext hx1);have hE:=h! hX1;clear hx1 hX1;(refine WalkN.tk [6,7] ?_;(iterate 2 (refine c! ?_));refine TkN.n ?_)
    refine o! 8 ?_;refine b! ?_;intro K hK;go_simp;refine(HHS.out u2 bk hE.out HBK.out).mono ?_;rintro e u3 ⟨rfl,hx2⟩;have hX2:=Ext.trans hE.out hx2;refine hK.out _ _ hX2 ?_;clear hK;have hE:=h! hX2;clear hx2 hX2;(refine WalkN.tk [9,10,11,12,13] ?_;(iterate 5 (refine c! ?_));refine TkN.n ?_)
    refine d! ?_;exact⟨rfl,bk,rfl,hE.out⟩
   rintro e _ W2 ⟨rfl,bk2,rfl,hX⟩;dsimp only;have HBE:=h! (show Below w.heap.size w W2 from Below.trans HBT.out (Below.mono (Ext.trans X9.out (Ext.trans hxd.out hX)) HBT.out.size));clear hX hxd hwd;go_wp2_with fail
   go_ret
   exact⟨rfl,HBE.out⟩
end Go.Proofs.YtlhaghoajpglaaaGreat
