/- Lemmas for the claim, no condition. -/
import GoSem.PinnedTables
import Derived.Deep.DeepHandedRow
import Derived.Lib.SmallJoins
import Derived.Test.YtipddhcfcehcaaaYT24
import Derived.Test.YtipddhcfcehcaaaYT25
import Derived.Test.YtipddhcfcehcaaaYT18
import Derived.Test.YtipddhcfcehcaaaYT19
import Derived.Test.YtipddhcfcehcaaaYT23
import Derived.Test.YtipddhcfcehcaaaYT22
namespace Go.Proofs.Ytipddhcfcehcaaa
open Go Go.RowKit Go.ChangeShapes Go.WideShapes Go.ChangeAt

/-- Bytes as cells. -/
def bc (l : List UInt8) : List Value := l.map fun c => .int .u8 c.toNat
section
variable {H : Type} {enc : TypeId × Value → H} {W : World} {base : Nat} {v : Value} {d : DataW H} {ps : List MemPlace}
end

end Go.Proofs.Ytipddhcfcehcaaa
namespace Go.Proofs.Ytipddhcfcehcaaa
open Go Go.RowKit Go.Maps

/-- A tape: its bytes lie below it. -/
def Tp (w : World) (tp : Nat) : Prop := ∃ (bv : Value) (l : List UInt8) (n : Nat), n ≤ l.length ∧ Sl (· < tp) w 1 bv (bc l) ∧ Blk w tp #[bv, .int .i64 n] 46
/-- Nothing that lay there has turned but the tape. -/
abbrev KT (tp : Nat) (w w' : World) : Prop := Kept (fun b => b < w.heap.size ∧ b ≠ tp) w w'
theorem KT.trans {tp : Nat} {w w' w'' : World} (h : KT tp w w') (k : KT tp w' w'') : KT tp w w'' := Kept.trans h (Kept.mono k fun b hb => ⟨Nat.lt_of_lt_of_le hb.1 h.size, hb.2⟩)
theorem KT.of {tp : Nat} {w w' : World} (h : Ext w w') : KT tp w w' := Below.kept h fun b hb => hb.1
theorem Tp.ext {w w' : World} {tp : Nat} (h : Tp w tp) (hb : Ext w w') : Tp w' tp := by
  obtain ⟨bv, l, n, hn, hs, hB⟩ := h
  exact ⟨bv, l, n, hn, hs.same ((Same.below hb).mono fun b h => Nat.lt_trans h hB.lt), hB.below hb⟩
theorem Tp.lt {w : World} {tp : Nat} (h : Tp w tp) : tp < w.heap.size := by
  obtain ⟨bv, l, n, hn, hs, hB⟩ := h
  exact hB.lt
theorem KT.same {tp : Nat} {w w' : World} {S : Nat → Prop} (h : KT tp w w') (hS : ∀ b, S b → b < w.heap.size ∧ b ≠ tp) : Same S w w' := fun b hb => h.block b (hS b hb)
theorem KT.blk {tp : Nat} {w w' : World} (h : KT tp w w') {B : Nat} {cs : Array Value} {e : TypeId} (hB : Blk w B cs e) (hn : B ≠ tp) : Blk w' B cs e := Kept.blk h hB ⟨hB.lt, hn⟩

end Go.Proofs.Ytipddhcfcehcaaa
namespace Go.Proofs.Ytipddhcfcehcaaa
open Go Go.RowKit Go.Maps

def nmV : ByteArray := ⟨#[118, 105, 101, 119, 101, 114]⟩
def nmO : ByteArray := ⟨#[111, 119, 110, 101, 114]⟩
def nmP : ByteArray := ⟨#[112, 97, 114, 101, 110, 116]⟩
def nmM : ByteArray := ⟨#[109, 101, 109, 98, 101, 114]⟩
def relNs : List ByteArray := [nmV, nmO, nmP, nmM]

/-- A rule without parts, of the names own. -/
def LeafR (own : List ByteArray) (r : RT) : Prop := r = .mk 1 ⟨#[]⟩ ⟨#[]⟩ [] ∨ (∃ a ∈ own, r = .mk 2 a ⟨#[]⟩ []) ∨ ∃ a ∈ own, ∃ b ∈ relNs.take 2, r = .mk 3 a b []
/-- What the tape's rule may be. -/
def GoodR (own : List ByteArray) : Nat → RT → Prop
  | 0, r => LeafR own r
  | d + 1, r => LeafR own r ∨ ∃ k ps, r = .mk k ⟨#[]⟩ ⟨#[]⟩ ps ∧ (k = 4 ∨ k = 5) ∧ (ps.length = 2 ∨ ps.length = 3) ∧ ∀ p ∈ ps, GoodR own d p ∧ p.k ≠ k
theorem GoodR.leaf {own : List ByteArray} {r : RT} (h : LeafR own r) : ∀ d, GoodR own d r
  | 0 => h
  | _ + 1 => .inl h
theorem LeafR.k {own : List ByteArray} {r : RT} (h : LeafR own r) : r.k ≠ 0 ∧ r.k ≠ 4 ∧ r.k ≠ 5 := by
  rcases h with rfl | ⟨a, _, rfl⟩ | ⟨a, _, b, _, rfl⟩ <;> simp [RT.k]
theorem LeafR.ps {own : List ByteArray} {r : RT} (h : LeafR own r) : r.ps = [] := by
  rcases h with rfl | ⟨a, _, rfl⟩ | ⟨a, _, b, _, rfl⟩ <;> rfl
/-- A rule's parts as they come: the rule's own cells at rp, its parts' row behind. -/
structure MkI (own : List ByteArray) (d : Nat) (kk : Int) (rp : Nat) (w : World) (q : List (RT × Value)) (pv : Value) : Prop where
  box : Blk w rp #[.int .i64 kk, .string ⟨#[]⟩, .string ⟨#[]⟩, pv] 72
  row : Own w (rp + 1) 72 4 pv (q.flatMap rC)
  parts : ∀ x ∈ q, RTAt (fun b => (rp + 1 ≤ b ∧ b < w.heap.size) ∧ pv.ownBlock ≠ some b) w x.1 x.2
  good : ∀ x ∈ q, GoodR own d x.1 ∧ x.1.k ≠ kk
theorem MkI.keep {own : List ByteArray} {d : Nat} {kk : Int} {rp tp : Nat} {w w' : World} {q : List (RT × Value)} {pv : Value} (h : MkI own d kk rp w q pv) (hk : KT tp w w') (ht : tp < rp) : MkI own d kk rp w' q pv :=
  ⟨hk.blk h.box (by omega), h.row.keepOwn fun g hg => hk.block g ⟨(h.row.block g hg).2, by have := (h.row.block g hg).1; omega⟩,
    fun x hx => ((h.parts x hx).same fun b hb => hk.block b ⟨hb.1.2, by have := hb.1.1; omega⟩).mono fun b hb => ⟨⟨hb.1.1, Nat.lt_of_lt_of_le hb.1.2 hk.size⟩, hb.2⟩, h.good⟩
theorem MkI.add {own : List ByteArray} {d : Nat} {kk : Int} {rp n0 : Nat} {w w7 : World} {q : List (RT × Value)} {pv v7 v5 : Value} {r : RT} (h : MkI own d kk rp w q pv) (hk : ∀ b, b < w.heap.size → pv.ownBlock ≠ some b → w7.heap[b]? = w.heap[b]?) (hz : w.heap.size ≤ w7.heap.size)
    (ho : Own w7 (rp + 1) 72 4 v7 (q.flatMap rC ++ rC (r, v5))) (hb : ∀ g, v7.ownBlock = some g → pv.ownBlock = some g ∨ w.heap.size ≤ g) (hr : RTAt (fun b => n0 ≤ b ∧ b < w.heap.size) w r v5) (hn0 : rp + 1 ≤ n0) (hpv : ∀ g, pv.ownBlock = some g → g < n0) (hg : GoodR own d r ∧ r.k ≠ kk) :
    MkI own d kk rp (w7.setCell ⟨rp, 3, none⟩ v7) (q ++ [(r, v5)]) v7 := by
  have hne : pv.ownBlock ≠ some rp := fun e => by have := (h.row.block rp e).1; omega
  have hs : Same (fun b => (rp + 1 ≤ b ∧ b < w.heap.size) ∧ pv.ownBlock ≠ some b) w (w7.setCell ⟨rp, 3, none⟩ v7) := fun b hb' => (Below.heap_setCell w7 _ _ b (by have := hb'.1.1; show b ≠ rp; omega)).trans (hk b hb'.1.2 hb'.2)
  have hm : ∀ b, ((rp + 1 ≤ b ∧ b < w.heap.size) ∧ pv.ownBlock ≠ some b) → ((rp + 1 ≤ b ∧ b < (w7.setCell ⟨rp, 3, none⟩ v7).heap.size) ∧ v7.ownBlock ≠ some b) := fun b hb' => ⟨⟨hb'.1.1, by simp; exact Nat.lt_of_lt_of_le hb'.1.2 hz⟩, fun e => by
    rcases hb b e with e | e
    · exact hb'.2 e
    · have := hb'.1.2; omega⟩
  refine ⟨?_, ?_, fun x hx => ?_, fun x hx => ?_⟩
  · have hb7 : Blk w7 rp #[.int .i64 kk, .string ⟨#[]⟩, .string ⟨#[]⟩, pv] 72 := (hk rp h.box.lt hne).trans h.box
    exact hb7.set_to 3 _ rfl
  · rw [List.flatMap_append]
    exact (show Own w7 (rp + 1) 72 4 v7 (q.flatMap rC ++ [(r, v5)].flatMap rC) from by simpa using ho).keepOwn fun g hg => Below.heap_setCell _ _ _ _ (by have := (ho.block g hg).1; show g ≠ rp; omega)
  · rcases List.mem_append.1 hx with hx | hx
    · exact ((h.parts x hx).same hs).mono hm
    · obtain rfl := List.mem_singleton.1 hx
      have h2 : ∀ b, (n0 ≤ b ∧ b < w.heap.size) → ((rp + 1 ≤ b ∧ b < w.heap.size) ∧ pv.ownBlock ≠ some b) := fun b hb' => ⟨⟨Nat.le_trans hn0 hb'.1, hb'.2⟩, fun e => by have := hpv b e; omega⟩
      exact ((hr.mono h2).same hs).mono hm
  · rcases List.mem_append.1 hx with hx | hx
    · exact h.good x hx
    · obtain rfl := List.mem_singleton.1 hx
      exact hg

theorem Tp.kept {w w' : World} {tp : Nat} {K : Nat → Prop} (h : Tp w tp) (hk : Kept K w w') (hK : ∀ b, b ≤ tp → K b) : Tp w' tp := by
  obtain ⟨bv, l, n, hn, hs, hB⟩ := h
  exact ⟨bv, l, n, hn, hs.same fun b hb => hk.block b (hK b (Nat.le_of_lt hb)), hk.blk hB (hK tp (Nat.le_refl _))⟩
/-- A row of four is stored. -/
theorem Blk.set4 {w : World} {B : Nat} {a b c d : Value} {e : TypeId} (h : Blk w B #[a, b, c, d] e) (x0 x1 x2 x3 : Value) : Blk ((((w.setCell ⟨B, 0, none⟩ x0).setCell ⟨B, 1, none⟩ x1).setCell ⟨B, 2, none⟩ x2).setCell ⟨B, 3, none⟩ x3) B #[x0, x1, x2, x3] e :=
  (((h.set_to (cs' := #[x0, b, c, d]) 0 x0 rfl).set_to (cs' := #[x0, x1, c, d]) 1 x1 rfl).set_to (cs' := #[x0, x1, x2, d]) 2 x2 rfl).set_to (cs' := #[x0, x1, x2, x3]) 3 x3 rfl
theorem Kept.set4 {K : Nat → Prop} {w w' : World} {B : Nat} (h : Kept K w w') (hk : ¬ K B) (x0 x1 x2 x3 : Value) : Kept K w ((((w'.setCell ⟨B, 0, none⟩ x0).setCell ⟨B, 1, none⟩ x1).setCell ⟨B, 2, none⟩ x2).setCell ⟨B, 3, none⟩ x3) := (((h.set hk x0).set hk x1).set hk x2).set hk x3
theorem Tp.set4 {w : World} {tp B : Nat} (h : Tp w tp) (_hB : B < w.heap.size) (hn : tp < B) (x0 x1 x2 x3 : Value) : Tp ((((w.setCell ⟨B, 0, none⟩ x0).setCell ⟨B, 1, none⟩ x1).setCell ⟨B, 2, none⟩ x2).setCell ⟨B, 3, none⟩ x3) tp :=
  h.kept (K := fun b => b ≠ B) ((Kept.refl _ w).set4 (fun h => h rfl) x0 x1 x2 x3) fun b hb => by omega

end Go.Proofs.Ytipddhcfcehcaaa
namespace Go.Proofs.Ytipddhcfcehcaaa
open Go Go.RowKit Go.Maps

/-- The law of append to a row of the call's own; where its result lies. -/
theorem wpList_ownw {P : Program} {w : World} {ops : Array Oper} {rest : List Oper} {o : Oper} {a : Act} {Q : Exit → Act → World → Prop} {t e : TypeId} {size bytes : Nat} (E : ElemT P t e size bytes)
    (hg : o.guard = none) (s x : Operand) (hop : o.op = Op.call { callee := Callee.builtin Builtin.append, args := #[s, x], argTypes := #[t, t] })
    {B : Nat} {v : Value} {xs : List Value} (hs : a.eval s = v) (hown : Own w B e size v xs) {ad : Addr} {m c : Nat} {news : List Value} (hx : a.eval x = .slice (some ad) m c) (hn : news.length = m * size)
    (hc : ∀ j u, news[j]? = some u → w.cell? (ad.add j) = some u) (h1 : ∀ u ∈ news, u.oneCell' = true)
    (hlen : xs.length + news.length ≤ 9223372036854775807) (hbytes : (xs.length + news.length) * bytes ≤ 140737488355328) (hB : B ≤ w.heap.size)
    (K : ∀ v' w', Own w' B e size v' (xs ++ news) → (∀ g, v'.ownBlock = some g → v.ownBlock = some g ∨ w.heap.size ≤ g) → w.grownBy w' v.ownBlock → wpList P ops Q rest (a.put o.dst v') w') : wpList P ops Q (o :: rest) a w :=
  wpList_plain hg fun K' hK' => wp_ownw E s x hop hs hown hx hn hc h1 hlen hbytes hB fun v' w' h2 h3 h4 => hK' _ _ (K v' w' h2 h3 h4)

/-- Cells at rp, the last of which is a row that grows; what it holds lies behind lo. -/
structure Box {α : Type} (e ee : TypeId) (sz : Nat) (El : (Nat → Prop) → World → α → Prop) (enc : α → List Value) (rp lo : Nat) (pre : List Value) (w : World) (q : List α) (pv : Value) : Prop where
  box : Blk w rp (pre ++ [pv]).toArray e
  row : Own w lo ee sz pv (q.flatMap enc)
  parts : ∀ x ∈ q, El (fun b => (lo ≤ b ∧ b < w.heap.size) ∧ pv.ownBlock ≠ some b) w x
section
variable {α : Type} {e ee : TypeId} {sz : Nat} {El : (Nat → Prop) → World → α → Prop} {enc : α → List Value} {rp lo tp n0 : Nat} {pre : List Value} {w w' w7 : World} {q : List α} {pv v7 : Value} {x : α}
theorem Box.keep (hE : ∀ {S : Nat → Prop} {w w' : World} {x : α}, El S w x → Same S w w' → El S w' x) (hM : ∀ {S S' : Nat → Prop} {w : World} {x : α}, El S w x → (∀ b, S b → S' b) → El S' w x)
    (h : Box e ee sz El enc rp lo pre w q pv) (hk : Kept (fun b => b < w.heap.size ∧ lo ≤ b) w w') (hr : w'.heap[rp]? = w.heap[rp]?) : Box e ee sz El enc rp lo pre w' q pv :=
  ⟨hr.trans h.box, h.row.keepOwn fun g hg => hk.block g ⟨(h.row.block g hg).2, (h.row.block g hg).1⟩,
    fun x hx => hM (hE (h.parts x hx) fun b hb => hk.block b ⟨hb.1.2, hb.1.1⟩) fun b hb => ⟨⟨hb.1.1, Nat.lt_of_lt_of_le hb.1.2 hk.size⟩, hb.2⟩⟩
theorem Box.add (hE : ∀ {S : Nat → Prop} {w w' : World} {x : α}, El S w x → Same S w w' → El S w' x) (hM : ∀ {S S' : Nat → Prop} {w : World} {x : α}, El S w x → (∀ b, S b → S' b) → El S' w x)
    (h : Box e ee sz El enc rp lo pre w q pv) (hrl : rp < lo) (hk : ∀ b, b < w.heap.size → pv.ownBlock ≠ some b → w7.heap[b]? = w.heap[b]?) (hz : w.heap.size ≤ w7.heap.size)
    (ho : Own w7 lo ee sz v7 (q.flatMap enc ++ enc x)) (hb : ∀ g, v7.ownBlock = some g → pv.ownBlock = some g ∨ w.heap.size ≤ g) (hr : El (fun b => n0 ≤ b ∧ b < w.heap.size) w x) (hn0 : lo ≤ n0) (hpv : ∀ g, pv.ownBlock = some g → g < n0) :
    Box e ee sz El enc rp lo pre (w7.setCell ⟨rp, pre.length, none⟩ v7) (q ++ [x]) v7 := by
  have hne : pv.ownBlock ≠ some rp := fun e => by have := (h.row.block rp e).1; omega
  have hs : Same (fun b => (lo ≤ b ∧ b < w.heap.size) ∧ pv.ownBlock ≠ some b) w (w7.setCell ⟨rp, pre.length, none⟩ v7) := fun b hb' => (Below.heap_setCell w7 _ _ b (by have := hb'.1.1; show b ≠ rp; omega)).trans (hk b hb'.1.2 hb'.2)
  have hm : ∀ b, ((lo ≤ b ∧ b < w.heap.size) ∧ pv.ownBlock ≠ some b) → ((lo ≤ b ∧ b < (w7.setCell ⟨rp, pre.length, none⟩ v7).heap.size) ∧ v7.ownBlock ≠ some b) := fun b hb' => ⟨⟨hb'.1.1, by simp; exact Nat.lt_of_lt_of_le hb'.1.2 hz⟩, fun e => by
    rcases hb b e with e | e
    · exact hb'.2 e
    · have := hb'.1.2; omega⟩
  refine ⟨?_, ?_, fun y hy => ?_⟩
  · have hb7 : Blk w7 rp (pre ++ [pv]).toArray e := (hk rp h.box.lt hne).trans h.box
    exact hb7.set_to pre.length _ (by simp)
  · rw [List.flatMap_append]
    exact (show Own w7 lo ee sz v7 (q.flatMap enc ++ [x].flatMap enc) from by simpa using ho).keepOwn fun g hg => Below.heap_setCell _ _ _ _ (by have := (ho.block g hg).1; show g ≠ rp; omega)
  · rcases List.mem_append.1 hy with hy | hy
    · exact hM (hE (h.parts y hy) hs) hm
    · obtain rfl := List.mem_singleton.1 hy
      have h2 : ∀ b, (n0 ≤ b ∧ b < w.heap.size) → ((lo ≤ b ∧ b < w.heap.size) ∧ pv.ownBlock ≠ some b) := fun b hb' => ⟨⟨Nat.le_trans hn0 hb'.1, hb'.2⟩, fun e => by have := hpv b e; omega⟩
      exact hM (hE (hM hr h2) hs) hm
end
/-- A relation's rule, as it lies. -/
def ElR (S : Nat → Prop) (w : World) (x : (ByteArray × RT) × Value) : Prop := RTAt S w x.1.2 x.2
/-- A type's relations, as they lie. -/
def ElT (S : Nat → Prop) (w : World) (x : TyS × Value) : Prop := RelsAt S w x.1.rels x.2
theorem ElR.same {S : Nat → Prop} {w w' : World} {x : (ByteArray × RT) × Value} (h : ElR S w x) (hs : Same S w w') : ElR S w' x := RTAt.same h hs
theorem ElR.mono {S S' : Nat → Prop} {w : World} {x : (ByteArray × RT) × Value} (h : ElR S w x) (hs : ∀ b, S b → S' b) : ElR S' w x := RTAt.mono h hs
theorem ElT.same {S : Nat → Prop} {w w' : World} {x : TyS × Value} (h : ElT S w x) (hs : Same S w w') : ElT S w' x := RelsAt.same h hs
theorem ElT.mono {S S' : Nat → Prop} {w : World} {x : TyS × Value} (h : ElT S w x) (hs : ∀ b, S b → S' b) : ElT S' w x := RelsAt.mono h hs
abbrev TyBox := Box (α := (ByteArray × RT) × Value) 49 82 5 ElR relC
abbrev ScBox := Box (α := TyS × Value) 24 49 2 ElT tyC
theorem TyBox.keep {rp lo : Nat} {pre : List Value} {w w' : World} {q : List ((ByteArray × RT) × Value)} {pv : Value} (h : TyBox rp lo pre w q pv) (hk : Kept (fun b => b < w.heap.size ∧ lo ≤ b) w w') (hr : w'.heap[rp]? = w.heap[rp]?) : TyBox rp lo pre w' q pv :=
  Box.keep (El := ElR) (fun h hs => h.same hs) (fun h hs => h.mono hs) h hk hr
theorem TyBox.add {rp lo n0 : Nat} {pre : List Value} {w w7 : World} {q : List ((ByteArray × RT) × Value)} {pv v7 : Value} {x : (ByteArray × RT) × Value} (h : TyBox rp lo pre w q pv) (hrl : rp < lo) (hk : ∀ b, b < w.heap.size → pv.ownBlock ≠ some b → w7.heap[b]? = w.heap[b]?) (hz : w.heap.size ≤ w7.heap.size)
    (ho : Own w7 lo 82 5 v7 (q.flatMap relC ++ relC x)) (hb : ∀ g, v7.ownBlock = some g → pv.ownBlock = some g ∨ w.heap.size ≤ g) (hr : ElR (fun b => n0 ≤ b ∧ b < w.heap.size) w x) (hn0 : lo ≤ n0) (hpv : ∀ g, pv.ownBlock = some g → g < n0) :
    TyBox rp lo pre (w7.setCell ⟨rp, pre.length, none⟩ v7) (q ++ [x]) v7 :=
  Box.add (El := ElR) (fun h hs => h.same hs) (fun h hs => h.mono hs) h hrl hk hz ho hb hr hn0 hpv
theorem ScBox.keep {rp lo : Nat} {pre : List Value} {w w' : World} {q : List (TyS × Value)} {pv : Value} (h : ScBox rp lo pre w q pv) (hk : Kept (fun b => b < w.heap.size ∧ lo ≤ b) w w') (hr : w'.heap[rp]? = w.heap[rp]?) : ScBox rp lo pre w' q pv :=
  Box.keep (El := ElT) (fun h hs => h.same hs) (fun h hs => h.mono hs) h hk hr
theorem ScBox.add {rp lo n0 : Nat} {pre : List Value} {w w7 : World} {q : List (TyS × Value)} {pv v7 : Value} {x : TyS × Value} (h : ScBox rp lo pre w q pv) (hrl : rp < lo) (hk : ∀ b, b < w.heap.size → pv.ownBlock ≠ some b → w7.heap[b]? = w.heap[b]?) (hz : w.heap.size ≤ w7.heap.size)
    (ho : Own w7 lo 49 2 v7 (q.flatMap tyC ++ tyC x)) (hb : ∀ g, v7.ownBlock = some g → pv.ownBlock = some g ∨ w.heap.size ≤ g) (hr : ElT (fun b => n0 ≤ b ∧ b < w.heap.size) w x) (hn0 : lo ≤ n0) (hpv : ∀ g, pv.ownBlock = some g → g < n0) :
    ScBox rp lo pre (w7.setCell ⟨rp, pre.length, none⟩ v7) (q ++ [x]) v7 :=
  Box.add (El := ElT) (fun h hs => h.same hs) (fun h hs => h.mono hs) h hrl hk hz ho hb hr hn0 hpv

end Go.Proofs.Ytipddhcfcehcaaa
namespace Go.Proofs.Ytipddhcfcehcaaa
open Go Go.RowKit Go.Maps

/-- True: so that a range over a set is not split. -/
inductive Tr where | tr
def trV (_ : Tr) : Value := .bool true
def trL (ts : List TyS) : List (ByteArray × Tr) := ts.map fun t => (t.name, .tr)
theorem Mp.conv {P : Program} {k : TypeId} {κ α β : Type} {kv : κ → Value} {ev : α → Value} {ev' : β → Value} {w : World} {b : Nat} {l : List (κ × α)} {l' : List (κ × β)} (h : Mp P k kv ev w b l) (he : l.map (fun p => (kv p.1, ev p.2)) = l'.map fun p => (kv p.1, ev' p.2)) (hk : ∀ p ∈ l', ∃ q ∈ l, q.1 = p.1) : Mp P k kv ev' w b l' := by
  obtain ⟨es, clock, hb, hs, hm, hok⟩ := h
  exact ⟨es, clock, hb, hs, hm.trans he, fun p hp => by
    obtain ⟨q, hq, e⟩ := hk p hp
    rw [← e]
    exact hok q hq⟩
/-- Is a type known? -/
def kn (us : List TyS) (n : ByteArray) : Bool := (lookA (tyL us) n).isSome
/-- What one side has, and the other one hasn't: types; relations. -/
def noT (us : List TyS) (k : Int) (l : List (ByteArray × Tr)) : List Ch := (l.filter fun p => !kn us p.1).map fun p => ⟨k, ⟨p.1, ⟨#[]⟩⟩⟩
def noR (us : List TyS) (k : Int) (l : List (R2 × ByteArray)) : List Ch := (l.filter fun p => (lookA (dL (refsOf us)) p.1).isNone && kn us p.1.t).map fun p => ⟨k, p.1⟩
def withoutL (ts us : List TyS) (k : Int) : List Ch := noT us k (trL ts) ++ noR us k (dL (refsOf ts))
theorem noT_snoc (us : List TyS) (k : Int) (l : List (ByteArray × Tr)) (p : ByteArray × Tr) : noT us k (l ++ [p]) = noT us k l ++ if kn us p.1 = true then [] else [⟨k, ⟨p.1, ⟨#[]⟩⟩⟩] := by
  unfold noT
  rw [List.filter_append, List.map_append]
  by_cases h : kn us p.1 = true <;> simp [h]
theorem noR_snoc (us : List TyS) (k : Int) (l : List (R2 × ByteArray)) (p : R2 × ByteArray) : noR us k (l ++ [p]) = noR us k l ++ if ((lookA (dL (refsOf us)) p.1).isNone && kn us p.1.t) = true then [⟨k, p.1⟩] else [] := by
  unfold noR
  rw [List.filter_append, List.map_append]
  by_cases h : ((lookA (dL (refsOf us)) p.1).isNone && kn us p.1.t) = true
  · rw [if_pos h]; simp [h]
  · rw [if_neg h]; simp [h]
theorem noT_le (us : List TyS) (k : Int) (l : List (ByteArray × Tr)) : (noT us k l).length ≤ l.length := by unfold noT; rw [List.length_map]; exact List.length_filter_le _ _
theorem noR_le (us : List TyS) (k : Int) (l : List (R2 × ByteArray)) : (noR us k l).length ≤ l.length := by unfold noR; rw [List.length_map]; exact List.length_filter_le _ _
theorem tyL_look {us : List TyS} {n : ByteArray} : lookA (tyL us) n = if kn us n = true then some true else none := by
  unfold kn
  cases h : lookA (tyL us) n with
  | none => rfl
  | some x =>
    obtain ⟨t, _, e⟩ := List.mem_map.1 (look_mem h)
    injection e with _ e
    rw [← e]; rfl
theorem row_ne {w : World} {B n sz : Nat} {e : TypeId} {v : Value} {xs : List Value} (h : Own w B e sz v xs) (hn : w.heap.size ≤ n) : v.ownBlock ≠ some n := fun e => by have := (h.block n e).2; omega
/-- What is left of a range, and what was met. -/
theorem perm_next {α : Type} {done rem pre post l : List α} {p : α} (h : (done ++ rem).Perm l) (hr : rem = pre ++ p :: post) : ((done ++ [p]) ++ (pre ++ post)).Perm l := by
  refine List.Perm.trans ?_ h
  rw [hr, List.append_assoc]
  refine List.Perm.append_left done ?_
  exact (List.perm_middle (l₁ := pre) (l₂ := post) (a := p)).symm

set_option maxRecDepth 100000 in
set_option maxHeartbeats 1200000 in
theorem without_any (ts us : List TyS) (k : Int) (b1 b2 c1 c2 : Nat) (w : World) (hs : Sd w 0 b1 b2 ts) (hu : Sd w 0 c1 c2 us) (hok : ∀ t ∈ ts, t.Ok) (hsz : ts.length ≤ 2000000 ∧ (refsOf ts).length ≤ 2000000) :
    Calls Try.prog 37 #[.agg #[.map (some b1), .map (some b2)], .agg #[.map (some c1), .map (some c2)], .int .i64 k] w fun e w' => ∃ (v : Value) (cs : List Ch), e = .returned v ∧ cs.Perm (withoutL ts us k) ∧ Own w' w.heap.size 63 3 v (chcs cs) ∧ Ext w w' := by
  have HTO := Lib.hid hok
  have HSZ := Lib.hid hsz
  have HS := Lib.hid hs
  have HU := Lib.hid hu
  obtain ⟨wa, hwa⟩ : ∃ x, x = w.alloc (.cells #[.map (some b1), .map (some b2)] 86) := ⟨_, rfl⟩
  obtain ⟨wb, hwb⟩ : ∃ x, x = wa.alloc (.cells #[.map (some c1), .map (some c2)] 86) := ⟨_, rfl⟩
  have ea : wa.heap.size = w.heap.size + 1 := by rw [hwa]; simp
  have eb : wb.heap.size = w.heap.size + 2 := by rw [hwb]; simp [ea]
  have xa : Ext w wa := by rw [hwa]; exact Ext.alloc _ _
  have xb : Ext wa wb := by rw [hwb]; exact Ext.alloc _ _
  have HXA := Lib.hid (show Blk wb w.heap.size #[.map (some b1), .map (some b2)] 86 from Blk.below (by rw [hwa]; exact Blk.made _ _ _) xb)
  have HYA := Lib.hid (show Blk wb (w.heap.size + 1) #[.map (some c1), .map (some c2)] 86 from by rw [hwb, ← ea]; exact Blk.made _ _ _)
  have HX := Lib.hid (show Ext w wb from xa.trans xb)
  have HSB := Lib.hid (hs.up HX.out)
  have HUB := Lib.hid (hu.up HX.out)
  have HMB := Lib.hid (show b1 < w.heap.size ∧ b2 < w.heap.size ∧ c1 < w.heap.size ∧ c2 < w.heap.size from ⟨hs.T.lt, hs.R.lt, hu.T.lt, hu.R.lt⟩)
  have HEB := Lib.hid eb
  have hMq := (HSB.out.T.conv (ev' := trV) (l' := trL ts) (by unfold tyL trL; rw [List.map_map, List.map_map]; rfl) (fun p hp => by
    obtain ⟨t, ht, rfl⟩ := List.mem_map.1 hp
    exact ⟨(t.name, true), List.mem_map.2 ⟨t, ht, rfl⟩, rfl⟩))
  have x1 := HXA.out.cells
  clear hok hsz hs hu xa xb ea eb
  subst hwb hwa
  go_enter Try.func37, Try.ntmps37
  go_wp2_with (at_range; go_must (refine wpList_mp_range _ rfl _ 83 rfl Try.underlying83 rfl hMq ?_); intro wR hRg hbR hszR)
  try go_frame
  obtain ⟨wb, hwb⟩ : ∃ x, x = (w.alloc (.cells #[.map (some b1), .map (some b2)] 86)).alloc (.cells #[.map (some c1), .map (some c2)] 86) := ⟨_, rfl⟩
  rw [← hwb] at HXA HYA HX HSB HUB HEB hRg hbR hszR ⊢
  clear hwb x1 hMq
  have HRG0 := Lib.hid hRg
  have HBR := Lib.hid (show Ext wb wR from hbR)
  obtain ⟨nR, hnR⟩ : ∃ nR, nR = wb.heap.size := ⟨_, rfl⟩
  have HNR := Lib.hid (show nR = w.heap.size + 2 from by rw [hnR]; exact HEB.out)
  rw [← hnR] at HRG0 hszR ⊢
  have HZR := Lib.hid hszR
  clear hnR hRg hbR hszR HEB
  go_loopw [7] (fun ov wr => ∃ (cs : List Ch) (rem done : List (ByteArray × Tr)), Rng Try.prog 9 Value.string trV wr b1 nR (trL ts) rem ∧ (done ++ rem).Perm (trL ts) ∧ cs.Perm (noT us k done) ∧ Own wr (nR + 1) 63 3 ov (chcs cs) ∧ Below (w.heap.size + 2) wb wr ∧ nR < wr.heap.size) (fun _ wr => wr.rangeLeft b1 nR)
  case atStart => exact ⟨[], trL ts, [], HRG0.out, List.Perm.refl _, List.Perm.refl _, Own.nil _ _ _ _, HBR.out.mono (by have := HXA.out.lt; have := HYA.out.lt; omega), by have := HZR.out; omega⟩
  case round =>
    obtain ⟨cs, rem, done, hRg, hpm, hcs, how, hbl, hnl⟩ := hrel
    have HPM := Lib.hid hpm
    have HCS := Lib.hid hcs
    have HOW := Lib.hid how
    have HBL := Lib.hid hbl
    have HNL := Lib.hid hnl
    have HRG := Lib.hid hRg
    clear HRG0 HBR hpm hcs how hbl hnl
    go_wp2_with (at_next; go_must (refine wpList_mp_next _ rfl _ rfl rfl HRG.out ?_ ?_))
    · intro hrem
      subst hrem
      have HDN := Lib.hid (show done.Perm (trL ts) from by have := HPM.out; rwa [List.append_nil] at this)
      have HP0 := Lib.hid (show cs.Perm (noT us k (trL ts)) from HCS.out.trans ((HDN.out.filter _).map _))
      have hMq := HSB.out.R.same (HBL.out.block b2 (by have := HMB.out; omega))
      have xq := (show Blk wr w.heap.size #[.map (some b1), .map (some b2)] 86 from (HBL.out.block _ (by omega)).trans HXA.out).cells
      clear hRg HRG
      go_wp2_with (at_range; go_must (refine wpList_mp_range _ rfl _ 84 rfl Try.underlying84 rfl hMq ?_); intro wQ hRq hbQ hszQ)
      try go_frame
      obtain ⟨nQ, hnQ⟩ : ∃ nQ, nQ = wr.heap.size := ⟨_, rfl⟩
      have HRQ0 := Lib.hid hRq
      have HBQ := Lib.hid hbQ
      rw [← hnQ] at HRQ0 hszQ ⊢
      have HZQ := Lib.hid hszQ
      have HNQ := Lib.hid (show nR < nQ from by rw [hnQ]; exact HNL.out)
      have HOQ := Lib.hid (HOW.out.below hbQ)
      have HOB := Lib.hid (row_ne HOW.out (Nat.le_of_eq hnQ.symm))
      have HBB := Lib.hid (show Below (w.heap.size + 2) wb wQ from HBL.out.trans (hbQ.mono (by have := HNL.out; have := HNR.out; omega)))
      clear hRq hbQ hszQ hMq xq hnQ HOW HBL HNL HBQ
      rename World => wS
      go_loopw [7] (fun ov wr => ∃ (cs2 : List Ch) (rem done : List (R2 × ByteArray)), Rng Try.prog 61 r2V Value.string wr b2 nQ (dL (refsOf ts)) rem ∧ (done ++ rem).Perm (dL (refsOf ts)) ∧ cs2.Perm (noT us k (trL ts) ++ noR us k done) ∧ Own wr (nR + 1) 63 3 ov (chcs cs2) ∧ ov.ownBlock ≠ some nQ ∧ Below (w.heap.size + 2) wb wr ∧ nQ < wr.heap.size) (fun _ wr => wr.rangeLeft b2 nQ)
      case atStart => exact ⟨cs, dL (refsOf ts), [], HRQ0.out, List.Perm.refl _, by rw [show noR us k [] = [] from rfl, List.append_nil]; exact HP0.out, HOQ.out, HOB.out, HBB.out, by have := HZQ.out; omega⟩
      case round =>
        obtain ⟨cs2, rem, done2, hRg, hpm, hcs, how, hob, hbl, hnl⟩ := hrel
        have HPM2 := Lib.hid hpm
        have HCS2 := Lib.hid hcs
        have HOW2 := Lib.hid how
        have HOB2 := Lib.hid hob
        have HBL2 := Lib.hid hbl
        have HNL2 := Lib.hid hnl
        have HRG := Lib.hid hRg
        clear HRQ0 HOQ HOB HBB hpm hcs how hob hbl hnl
        go_wp2_with (at_next; go_must (refine wpList_mp_next _ rfl _ rfl rfl HRG.out ?_ ?_))
        · intro hrem
          subst hrem
          have HFP := Lib.hid (show cs2.Perm (withoutL ts us k) from HCS2.out.trans (List.Perm.append_left _ (((by have := HPM2.out; rwa [List.append_nil] at this : done2.Perm (dL (refsOf ts))).filter _).map _)))
          clear hRg HRG
          go_wp2_with fail
          go_ret
          exact ⟨_, cs2, rfl, HFP.out, HOW2.out.mono (by have := HNR.out; omega), Below.trans HX.out (HBL2.out.mono (Nat.le_add_right _ 2))⟩
        · rintro pre ⟨kt, kr⟩ tx post w7 hrem hRg2 hk2 hs2 hen
          have HPN := Lib.hid (perm_next HPM2.out hrem)
          have hmem : ((⟨kt, kr⟩, tx) : R2 × ByteArray) ∈ dL (refsOf ts) := (HPM2.out.mem_iff).1 (by rw [hrem]; simp)
          have HKO := Lib.hid (show R2.Ok ⟨kt, kr⟩ from by
            obtain ⟨x, hx, e⟩ := List.mem_map.1 hmem
            injection e with e _
            rw [← e]
            exact (refs_okk HTO.out hx).1)
          have hsn := noR_snoc us k done2 (⟨kt, kr⟩, tx)
          dsimp only at hsn
          have hb7 : Below (w.heap.size + 2) wb w7 := HBL2.out.trans (hk2.below fun b hb => by have := HNR.out; have := HNQ.out; show b ≠ nQ; omega)
          obtain ⟨w8, hw8⟩ : ∃ x, x = w7.alloc (.cells #[.string kt, .string kr] 61) := ⟨_, rfl⟩
          have x78 : Ext w7 w8 := by rw [hw8]; exact Ext.alloc _ _
          have HB8 := Lib.hid (show Below (w.heap.size + 2) wb w8 from hb7.trans (x78.mono (by have := HNR.out; have := HNQ.out; have := HNL2.out; omega)))
          have HK8 := Lib.hid (show Blk w8 w7.heap.size #[.string kt, .string kr] 61 from by rw [hw8]; exact Blk.made _ _ _)
          have HU8 := Lib.hid (HUB.out.T.same (HB8.out.block c1 (by have := HMB.out; omega)))
          have HV8 := Lib.hid (HUB.out.R.same (HB8.out.block c2 (by have := HMB.out; omega)))
          have y8 := (show Blk w8 (w.heap.size + 1) #[.map (some c1), .map (some c2)] 86 from (HB8.out.block _ (by omega)).trans HYA.out).cells
          have k8 := HK8.out.cells
          have hlk := HU8.out.look strK strV_inj Try.underlying83 (Try.zeroValue4 _) false (str_key kt HKO.out.1)
          have hlr := HV8.out.look refK r2V_inj Try.underlying84 (Try.zeroValue9 _) true (ref_key ⟨kt, kr⟩ HKO.out)
          rw [tyL_look] at hlk
          have HOW8 := Lib.hid ((HOW2.out.keepOwn fun g hg => hk2.block g (fun e => HOB2.out (by rw [hg, e]))).below x78)
          have HRL := Lib.hid (show wr.rangeLeft b2 nQ = rem.length from HRG.out.left_eq)
          have HRM := Lib.hid hrem
          have HN8 := Lib.hid (show nQ < w8.heap.size from by have := HNL2.out; have := x78.size; omega)
          have HCL := Lib.hid (show cs2.length ≤ 4000000 from by
            rw [HCS2.out.length_eq, List.length_append]
            have h1 := noT_le us k (trL ts)
            have h3 : (trL ts).length = ts.length := by unfold trL; rw [List.length_map]
            have h5 := noR_le us k done2
            have h6 := HPM2.out.length_eq
            have h7 : (dL (refsOf ts)).length = (refsOf ts).length := by unfold dL; rw [List.length_map]
            have h4 := HSZ.out
            rw [List.length_append] at h6
            omega)
          have HRG8 := Lib.hid (hRg2.below x78)
          unfold r2V at hen hlr
          dsimp only at hen hlr
          clear hRg2 hk2 hs2 hb7 hmem x78 hRg
          cases hlo : lookA (dL (refsOf us)) ⟨kt, kr⟩ with
          | some sx =>
            rw [hlo] at hlr hsn
            have HSN := Lib.hid hsn
            unfold lookV at hlr
            dsimp only at hlr
            clear hsn hlo hlk
            subst hw8
            go_wp2_with fail
            go_roundw
            case rel => exact ⟨cs2, pre ++ post, done2 ++ [(⟨kt, kr⟩, tx)], HRG8.out, HPN.out, by rw [HSN.out]; simpa using HCS2.out, HOW8.out, HOB2.out, HB8.out, HN8.out⟩
            case measure =>
              rw [HRG8.out.left_eq, HRL.out, HRM.out]
              simp only [List.length_append, List.length_cons]
              omega
          | none =>
            rw [hlo] at hlr hsn
            unfold lookV at hlr
            dsimp only at hlr
            cases hkn : kn us kt with
            | false =>
              rw [hkn] at hlk hsn
              have HSN := Lib.hid hsn
              unfold lookV at hlk
              clear hsn hlo hkn
              subst hw8
              go_wp2_with fail
              go_roundw
              case rel => exact ⟨cs2, pre ++ post, done2 ++ [(⟨kt, kr⟩, tx)], HRG8.out, HPN.out, by rw [HSN.out]; simpa using HCS2.out, HOW8.out, HOB2.out, HB8.out, HN8.out⟩
              case measure =>
                rw [HRG8.out.left_eq, HRL.out, HRM.out]
                simp only [List.length_append, List.length_cons]
                omega
            | true =>
              rw [hkn] at hlk hsn
              have HSN := Lib.hid hsn
              unfold lookV bV at hlk
              clear hsn hlo hkn
              have X9 := Lib.hid (Ext.alloc w8 (.cells #[.int .i64 k, .string kt, .string kr] 63))
              subst hw8
              go_wp2_with (at_builtin; go_must (refine wpList_ownw chT rfl (.tmp 54) (.tmp 58) rfl rfl (HOW8.out.below X9.out) rfl (m := 1) (news := [.int .i64 k, .string kt, .string kr]) rfl (by intro j u hu; rw [Addr.add_lit, cell_of_row _ (w7.heap.size + 1) (0 + j) #[.int .i64 k, .string kt, .string kr] 63 (0, 0) (by have h0 := heap_alloc_new (w7.alloc (.cells #[.string kt, .string kr] 61)) (.cells #[.int .i64 k, .string kt, .string kr] 63); simpa using h0)]; simpa using hu) (by simp [Value.oneCell']) (by have := HCL.out; rw [chcs_length]; simp; omega) (by have := HCL.out; rw [chcs_length]; simp; omega) (by have := HN8.out; have := HNQ.out; have := X9.out.size; omega) ?_; intro v5 w5 hown5 hb5 hgr5; have HO5 := Lib.hid (show Own w5 (nR + 1) 63 3 v5 (chcs (cs2 ++ [⟨k, ⟨kt, kr⟩⟩])) from by rw [chcs_append]; exact hown5); have HNB := Lib.hid (show ∀ b, b ≤ nR → b < (w7.alloc (.cells #[.string kt, .string kr] 61)).heap.size → w5.heap[b]? = (w7.alloc (.cells #[.string kt, .string kr] 61)).heap[b]? from fun b h1 h2 => (hgr5.block b (Nat.lt_of_lt_of_le h2 X9.out.size) (fun e => by have := (HOW8.out.block b e.symm).1; omega)).trans (X9.out.block b h2)); have HR5 := Lib.hid (HRG8.out.same (HNB.out b2 (by have := HMB.out; have := HNR.out; omega) (by have := HMB.out; have := HNR.out; have := HNQ.out; have := HN8.out; omega)) ((hgr5.block nQ (Nat.lt_of_lt_of_le HN8.out X9.out.size) (fun e => HOB2.out e.symm)).trans (X9.out.block nQ HN8.out))); have HB5 := Lib.hid (show Below (w.heap.size + 2) wb w5 from HB8.out.trans ⟨hgr5.os.trans X9.out.os, hgr5.tape.trans X9.out.tape, hgr5.output.trans X9.out.output, Nat.le_trans X9.out.size hgr5.size, fun b hb => HNB.out b (by have := HNR.out; omega) (by have := HNR.out; have := HNQ.out; have := HN8.out; omega)⟩); have HN5 := Lib.hid (show nQ < w5.heap.size from Nat.lt_of_lt_of_le HN8.out (Nat.le_trans X9.out.size hgr5.size)); have HOB5 := Lib.hid (show v5.ownBlock ≠ some nQ from fun e => by
                rcases hb5 nQ e with e | e
                · exact HOB2.out e
                · have := HN8.out; have := X9.out.size; omega); clear hown5 hb5 hgr5))
              go_roundw
              case rel => exact ⟨cs2 ++ [⟨k, ⟨kt, kr⟩⟩], pre ++ post, done2 ++ [(⟨kt, kr⟩, tx)], HR5.out, HPN.out, by rw [HSN.out, ← List.append_assoc]; exact HCS2.out.append (by simp), HO5.out, HOB5.out, HB5.out, HN5.out⟩
              case measure =>
                rw [HR5.out.left_eq, HRL.out, HRM.out]
                simp only [List.length_append, List.length_cons]
                omega
    · rintro pre tn tb post w7 hrem hRg2 hk2 hs2 hen
      have HPN := Lib.hid (perm_next HPM.out hrem)
      have hmem : ((tn, tb) : ByteArray × Tr) ∈ trL ts := (HPM.out.mem_iff).1 (by rw [hrem]; simp)
      have HTN := Lib.hid (show tn.size ≤ maxLen from by
        obtain ⟨t, ht, e⟩ := List.mem_map.1 hmem
        injection e with e _
        rw [← e]
        have := (HTO.out t ht).1
        unfold maxLen
        omega)
      have hsn := noT_snoc us k done (tn, tb)
      dsimp only at hsn
      have hb7 : Below (w.heap.size + 2) wb w7 := HBL.out.trans (hk2.below fun b hb => by have := HNR.out; show b ≠ nR; omega)
      have HB7 := Lib.hid hb7
      have HU7 := Lib.hid (HUB.out.T.same (hb7.block c1 (by have := HMB.out; omega)))
      have hy7 := (show Blk w7 (w.heap.size + 1) #[.map (some c1), .map (some c2)] 86 from (hb7.block _ (by omega)).trans HYA.out).cells
      have hlk := HU7.out.look strK strV_inj Try.underlying83 (Try.zeroValue4 _) false (str_key tn HTN.out)
      rw [tyL_look] at hlk
      have HOW7 := Lib.hid (HOW.out.keepOwn fun g hg => hk2.block g (by have := (HOW.out.block g hg).1; omega))
      have HRL := Lib.hid (show wr.rangeLeft b1 nR = rem.length from HRG.out.left_eq)
      have HRM := Lib.hid hrem
      have HN7 := Lib.hid (show nR < w7.heap.size from by rw [hs2]; exact HNL.out)
      have HCL := Lib.hid (show cs.length ≤ 2000000 from by
        rw [HCS.out.length_eq]
        have h1 := noT_le us k done
        have h2 := HPM.out.length_eq
        have h3 : (trL ts).length = ts.length := by unfold trL; rw [List.length_map]
        have h4 := HSZ.out.1
        rw [List.length_append] at h2
        omega)
      have HRG2 := Lib.hid hRg2
      unfold trV at hen
      clear hRg2 hk2 hs2 hb7 hmem
      cases hkn : kn us tn with
      | true =>
        rw [hkn] at hlk hsn
        have HSN := Lib.hid hsn
        unfold lookV bV at hlk
        clear hsn hkn
        go_wp2_with fail
        go_roundw
        case rel => exact ⟨cs, pre ++ post, done ++ [(tn, tb)], HRG2.out, HPN.out, by rw [HSN.out, if_pos rfl, List.append_nil]; exact HCS.out, HOW7.out, HB7.out, HN7.out⟩
        case measure =>
          rw [HRG2.out.left_eq, HRL.out, HRM.out]
          simp only [List.length_append, List.length_cons]
          omega
      | false =>
        rw [hkn] at hlk hsn
        have HSN := Lib.hid hsn
        unfold lookV at hlk
        clear hsn hkn
        go_wp2_with (at_builtin; go_must (refine wpList_own_lit chT rfl (.tmp 24) (.tmp 29) rfl rfl HOW7.out rfl rfl (by simp [Value.oneCell']) (by have := HCL.out; rw [chcs_length]; simp; omega) (by have := HCL.out; rw [chcs_length]; simp; omega) (by have := HN7.out; simp; omega) ?_; intro v5 w5 hown5 hb5 hgr5; have HO5 := Lib.hid (show Own w5 (nR + 1) 63 3 v5 (chcs (cs ++ [⟨k, ⟨tn, ⟨#[]⟩⟩⟩])) from by rw [chcs_append]; exact hown5); have HR5 := Lib.hid (HRG2.out.same (hb5.block b1 (by have := HMB.out; have := HNR.out; omega)) (hb5.block nR (Nat.lt_succ_self _))); have HB5 := Lib.hid (HB7.out.trans (hb5.mono (by have := HNR.out; omega))); have HN5 := Lib.hid (show nR < w5.heap.size from Nat.lt_of_lt_of_le HN7.out hb5.size); clear hown5 hb5 hgr5))
        go_roundw
        case rel => exact ⟨cs ++ [⟨k, ⟨tn, ⟨#[]⟩⟩⟩], pre ++ post, done ++ [(tn, tb)], HR5.out, HPN.out, by rw [HSN.out]; exact HCS.out.append (by simp), HO5.out, HB5.out, HN5.out⟩
        case measure =>
          rw [HR5.out.left_eq, HRL.out, HRM.out]
          simp only [List.length_append, List.length_cons]
          omega

end Go.Proofs.Ytipddhcfcehcaaa
