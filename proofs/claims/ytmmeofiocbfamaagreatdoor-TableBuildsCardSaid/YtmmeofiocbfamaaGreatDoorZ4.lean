/- The contracts of Go's library at this translation, each laid by one application (written by the kit's lay-plain). No condition of their own: lemmas. Plain laws on keys as bytes: what ReplaceAll does to a key's zero bytes and back, and how escaped keys stand in order. The walk of codec.Inner: a key as bytes. No condition: lemmas. -/
import Derived.Shelf.Strings.Builder1
import Derived.Shelf.Strings.Builder2
import Derived.Shelf.Small.Strs
import Derived.Shelf.Small.Wraps
import Derived.Shelf.Strings.BuilderF
import Derived.Shelf.Strings.BuilderK
import Derived.Shelf.Strings.Builder2Cap
import Derived.Shelf.Strings.Search1
import Derived.Shelf.Strings.Search2
import Derived.Shelf.Strings.Search3
import Derived.Shelf.Strings.Count
import Derived.Shelf.LaysM
import Derived.Shelf.Strings.Shaped
import Derived.Shelf.Strings.Prefix
import Derived.Shelf.Strings.Split
import Derived.Shelf.Strings.Replace
import Derived.Shelf.Strings.SplitShaped
import Derived.Shelf.Strings.BuilderCap
import Derived.Ground.Names2Prog
import Derived.Shelf.Slices.Clone
import Derived.Shelf.Slices.CompactS
import Derived.Shelf.Slices.Cells
import Derived.Ground.SlgnProg
import Derived.Shelf.SlicesE.Clone
import Derived.Test.YtmmeofiocbfamaaGreatDoorProg
import Derived.Lib.Replace
import Derived.Test.YtmmeofiocbfamaaGreatDoorZ3
namespace Go.Proofs
open Go.Shelf
def Tryz.lays106_ren : Go.Shelf.Ren := ⟨fun | 106 => 49 | 213 => 77 | 265 => 89 | n => n, fun | 9 => 9 | 3 => 3 | n => n, fun | n => n⟩
theorem Tryz.lays106 : Go.Proofs.Lays.n106 Tryz.prog Tryz.lays106_ren := {
  mixed := by kernel_rfl
  f106 := Tryz.func49.trans (congrArg some (by kernel_rfl))
  f213 := Tryz.func77.trans (congrArg some (by kernel_rfl))
  f265 := Tryz.func89.trans (congrArg some (by kernel_rfl))
  t3 := Tryz.underlying3
  a3 := Tryz.isAgg3
  z3 := Tryz.sizeOf3
  v3 := Tryz.zeroValue3
  t9 := Tryz.underlying9
  a9 := Tryz.isAgg9
  z9 := Tryz.sizeOf9
  v9 := Tryz.zeroValue9 }
open Go.RowKit in
theorem Tryz.strings_Compare (a b : ByteArray) (w : World) :
    Calls Tryz.prog 49 #[.string a, .string b] w fun e w' => e = .returned (.int .i64 (Lib.compareBytes a.data.toList b.data.toList)) ∧ w' = w := Any.strings_Compare Tryz.lays106 a b w
def Tryz.lays104_ren : Go.Shelf.Ren := ⟨fun | 104 => 52 | 211 => 79 | 207 => 90 | n => n, fun | 9 => 9 | 4 => 4 | 24 => 44 | 3 => 3 | n => n, fun | n => n⟩
theorem Tryz.lays104 : Go.Proofs.Lays.n104 Tryz.prog Tryz.lays104_ren := {
  mixed := by kernel_rfl
  f104 := Tryz.func52.trans (congrArg some (by kernel_rfl))
  f207 := Tryz.func90.trans (congrArg some (by kernel_rfl))
  f211 := Tryz.func79.trans (congrArg some (by kernel_rfl))
  t3 := Tryz.underlying3
  a3 := Tryz.isAgg3
  z3 := Tryz.sizeOf3
  v3 := Tryz.zeroValue3
  t4 := Tryz.underlying4
  a4 := Tryz.isAgg4
  z4 := Tryz.sizeOf4
  v4 := Tryz.zeroValue4
  t9 := Tryz.underlying9
  a9 := Tryz.isAgg9
  z9 := Tryz.sizeOf9
  v9 := Tryz.zeroValue9
  t24 := Tryz.underlying44
  a24 := Tryz.isAgg44
  z24 := Tryz.sizeOf44
  v24 := Tryz.zeroValue44 }
open Go.RowKit in
theorem Tryz.strings_CutSuffix (s p : ByteArray) (w : World) (hs : s.size ≤ 9223372036854775807) :
    Calls Tryz.prog 52 #[.string s, .string p] w fun e w' => e = .returned (.tuple #[.string ⟨(Lib.trimSuffix s.data.toList p.data.toList).toArray⟩, .bool (Lib.hasSuffix s.data.toList p.data.toList)]) ∧ w' = w := Any.strings_CutSuffix Tryz.lays104 s p w hs
def Tryz.laysM155_ren : Go.Shelf.Ren := ⟨fun | 155 => 53 | 154 => 80 | 138 => 91 | 165 => 92 | 143 => 93 | 166 => 94 | 197 => 95 | 169 => 96 | 195 => 98 | 218 => 99 | 240 => 100 | 241 => 101 | 219 => 102 | 260 => 103 | 276 => 104 | 277 => 105 | 217 => 106 | 225 => 107 | 224 => 108 | 267 => 109 | 266 => 110 | 314 => 111 | n => n, fun | 9 => 9 | 3 => 3 | 4 => 4 | 72 => 128 | 0 => 0 | 76 => 132 | 105 => 134 | 21 => 21 | 5 => 5 | 70 => 126 | 20 => 20 | 37 => 24 | 75 => 131 | 127 => 140 | 164 => 141 | 46 => 90 | 119 => 143 | 139 => 146 | 138 => 145 | 146 => 147 | 51 => 96 | 80 => 136 | n => n, fun | 1 => 0 | 3 => 1 | 4 => 2 | n => n⟩
theorem Tryz.laysM155 : Go.Proofs.LaysM.n155 Tryz.prog Tryz.laysM155_ren := {
  mixed := by kernel_rfl
  f138 := Tryz.func91.trans (congrArg some (by kernel_rfl))
  f143 := Tryz.func93.trans (congrArg some (by kernel_rfl))
  f154 := Tryz.func80.trans (congrArg some (by kernel_rfl))
  f155 := Tryz.func53.trans (congrArg some (by kernel_rfl))
  f165 := Tryz.func92.trans (congrArg some (by kernel_rfl))
  f166 := Tryz.func94.trans (congrArg some (by kernel_rfl))
  f169 := Tryz.func96.trans (congrArg some (by kernel_rfl))
  f195 := Tryz.func98.trans (congrArg some (by kernel_rfl))
  f197 := Tryz.func95.trans (congrArg some (by kernel_rfl))
  f217 := Tryz.func106.trans (congrArg some (by kernel_rfl))
  f218 := Tryz.func99.trans (congrArg some (by kernel_rfl))
  f219 := Tryz.func102.trans (congrArg some (by kernel_rfl))
  f224 := Tryz.func108.trans (congrArg some (by kernel_rfl))
  f225 := Tryz.func107.trans (congrArg some (by kernel_rfl))
  f240 := Tryz.func100.trans (congrArg some (by kernel_rfl))
  f241 := Tryz.func101.trans (congrArg some (by kernel_rfl))
  f260 := Tryz.func103.trans (congrArg some (by kernel_rfl))
  f266 := Tryz.func110.trans (congrArg some (by kernel_rfl))
  f267 := Tryz.func109.trans (congrArg some (by kernel_rfl))
  f276 := Tryz.func104.trans (congrArg some (by kernel_rfl))
  f277 := Tryz.func105.trans (congrArg some (by kernel_rfl))
  f314 := Tryz.func111.trans (congrArg some (by kernel_rfl))
  t0 := Tryz.underlying0
  a0 := Tryz.isAgg0
  z0 := Tryz.sizeOf0
  v0 := Tryz.zeroValue0
  t3 := Tryz.underlying3
  a3 := Tryz.isAgg3
  z3 := Tryz.sizeOf3
  v3 := Tryz.zeroValue3
  t4 := Tryz.underlying4
  a4 := Tryz.isAgg4
  z4 := Tryz.sizeOf4
  v4 := Tryz.zeroValue4
  t5 := Tryz.underlying5
  a5 := Tryz.isAgg5
  z5 := Tryz.sizeOf5
  v5 := Tryz.zeroValue5
  t9 := Tryz.underlying9
  a9 := Tryz.isAgg9
  z9 := Tryz.sizeOf9
  v9 := Tryz.zeroValue9
  t20 := Tryz.underlying20
  a20 := Tryz.isAgg20
  z20 := Tryz.sizeOf20
  v20 := Tryz.zeroValue20
  t21 := Tryz.underlying21
  a21 := Tryz.isAgg21
  z21 := Tryz.sizeOf21
  v21 := Tryz.zeroValue21
  t37 := Tryz.underlying24
  a37 := Tryz.isAgg24
  z37 := Tryz.sizeOf24
  v37 := Tryz.zeroValue24
  t46 := Tryz.underlying90
  a46 := Tryz.isAgg90
  z46 := Tryz.sizeOf90
  v46 := Tryz.zeroValue90
  t51 := Tryz.underlying96
  a51 := Tryz.isAgg96
  z51 := Tryz.sizeOf96
  v51 := Tryz.zeroValue96
  t70 := Tryz.underlying126
  a70 := Tryz.isAgg126
  z70 := Tryz.sizeOf126
  v70 := Tryz.zeroValue126
  t72 := Tryz.underlying128
  a72 := Tryz.isAgg128
  z72 := Tryz.sizeOf128
  v72 := Tryz.zeroValue128
  t75 := Tryz.underlying131
  a75 := Tryz.isAgg131
  z75 := Tryz.sizeOf131
  v75 := Tryz.zeroValue131
  t76 := Tryz.underlying132
  a76 := Tryz.isAgg132
  z76 := Tryz.sizeOf132
  v76 := Tryz.zeroValue132
  t105 := Tryz.underlying134
  a105 := Tryz.isAgg134
  z105 := Tryz.sizeOf134
  v105 := Tryz.zeroValue134
  t119 := Tryz.underlying143
  a119 := Tryz.isAgg143
  z119 := Tryz.sizeOf143
  t127 := Tryz.underlying140
  a127 := Tryz.isAgg140
  z127 := Tryz.sizeOf140
  v127 := Tryz.zeroValue140
  t138 := Tryz.underlying145
  a138 := Tryz.isAgg145
  z138 := Tryz.sizeOf145
  v138 := Tryz.zeroValue145
  t139 := Tryz.underlying146
  a139 := Tryz.isAgg146
  z139 := Tryz.sizeOf146
  v139 := Tryz.zeroValue146
  t146 := Tryz.underlying147
  a146 := Tryz.isAgg147
  z146 := Tryz.sizeOf147
  v146 := Tryz.zeroValue147
  t164 := Tryz.underlying141
  a164 := Tryz.isAgg141
  z164 := Tryz.sizeOf141
  v164 := Tryz.zeroValue141
  g1 := by kernel_rfl
  g3 := by kernel_rfl
  g4 := by kernel_rfl
  t80 := Tryz.underlying136
  a80 := Tryz.isAgg136
  z80 := Tryz.sizeOf136
  v80 := Tryz.zeroValue136
  i0 := by kernel_rfl
  i3 := by kernel_rfl
  i4 := by kernel_rfl
  i5 := by kernel_rfl
  i9 := by kernel_rfl
  i20 := by kernel_rfl
  i21 := by kernel_rfl
  i37 := by kernel_rfl
  i46 := by kernel_rfl
  i51 := by kernel_rfl
  i70 := by kernel_rfl
  i72 := by kernel_rfl
  i75 := by kernel_rfl
  i76 := by kernel_rfl
  i80 := by kernel_rfl
  i105 := by kernel_rfl
  i127 := by kernel_rfl
  i138 := by kernel_rfl
  i139 := by kernel_rfl
  i146 := by kernel_rfl
  i164 := by kernel_rfl
  m1 := by kernel_rfl
  s1_3 := fun w h => Go.Proofs.cell_of_shapedOpen_int (zero := #[.int .i64 0]) (t := 3) h (of_decide_eq_true (by kernel_rfl)) (by kernel_rfl) rfl (by kernel_rfl) (by kernel_rfl) Tryz.underlying3
  m3 := by kernel_rfl
  m4 := by kernel_rfl }
theorem Tryz.Builder_Extra_M155 : Builder.Extra Tryz.prog Tryz.laysM155_ren := {
  sizeBuilder := by kernel_rfl
  liesBuilder := by kernel_rfl
  t5 := Tryz.underlying5
  a5 := Tryz.isAgg5
  z5 := Tryz.sizeOf5
  v5 := Tryz.zeroValue5
  infoByte := by kernel_rfl
  cellsByte := by kernel_rfl
  sizeByte := by kernel_rfl
  neB5 := by decide }
open Go.RowKit Go.Lib in
theorem Tryz.strings_ReplaceAll_shaped (s old new : ByteArray) (w : World) (h : w.ShapedOpen Tryz.prog) (hs : s.size < 4294967281) (h1 : 1 ≤ old.size) (hlen : s.size + Lib.countB s old * new.size ≤ 140737488355328) :
    Calls Tryz.prog 53 #[.string s, .string old, .string new] w fun e w' =>
      e = .returned (.string ⟨(Lib.replaceAll s.data.toList old.data.toList new.data.toList).toArray⟩) ∧ Below w.heap.size w w' := Any.strings_ReplaceAll_shaped Tryz.laysM155 Tryz.Builder_Extra_M155 s old new w h hs h1 hlen
def Tryz.laysNm216_ren : Go.Shelf.Ren := ⟨fun | 16 => 27 | n => n, fun | 24 => 22 | 9 => 9 | 4 => 4 | n => n, fun | n => n⟩
theorem Tryz.laysNm216 : Go.Proofs.Lays2.n16 Tryz.prog Tryz.laysNm216_ren := {
  mixed := by kernel_rfl
  f16 := Tryz.func27.trans (congrArg some (by kernel_rfl))
  t4 := Tryz.underlying4
  a4 := Tryz.isAgg4
  z4 := Tryz.sizeOf4
  v4 := Tryz.zeroValue4
  t9 := Tryz.underlying9
  a9 := Tryz.isAgg9
  z9 := Tryz.sizeOf9
  v9 := Tryz.zeroValue9
  t24 := Tryz.underlying22
  a24 := Tryz.isAgg22
  z24 := Tryz.sizeOf22
  v24 := Tryz.zeroValue22
  i9 := by kernel_rfl }
open Go.RowKit Go.Lib in
theorem Tryz.slices_Clone_string (b off n c : Nat) (zs : List ByteArray) (w : World) (hz : n ≤ zs.length) (hbig : n * 16 ≤ 140737488355328) (hc : ∀ j, j < zs.length → w.cell? ⟨b, off + j, none⟩ = some (.string (zs.getD j ByteArray.empty))) :
    Calls Tryz.prog 27 #[.slice (some ⟨b, off, none⟩) n c] w fun e w' => ∃ v', e = .returned v' ∧ w'.ownsRow w.heap.size 9 1 v' n ((zs.take n).map (Value.string)) ∧ v' ≠ .slice none 0 0 ∧ Below w.heap.size w w' := Any.slices_Clone_string Tryz.laysNm216 b off n c zs w hz hbig hc
open Go.RowKit Go.Lib in
theorem Tryz.slices_Clone_string_nil (n c : Nat) (w : World) :
    Calls Tryz.prog 27 #[.slice none n c] w fun e w' => e = .returned (.slice none 0 0) ∧ w' = w := Any.slices_Clone_string_nil Tryz.laysNm216 n c w
open Go.RowKit Go.Lib in
theorem Tryz.slices_Clone_string_zero (a : Addr) (c : Nat) (w : World) :
    Calls Tryz.prog 27 #[.slice (some a) 0 c] w fun e w' => ∃ v', e = .returned v' ∧ w'.ownsRow w.heap.size 9 1 v' 0 [] ∧ v' ≠ .slice none 0 0 ∧ Below w.heap.size w w' := Any.slices_Clone_string_zero Tryz.laysNm216 a c w
def Tryz.lays194_ren : Go.Shelf.Ren := ⟨fun | 194 => 26 | n => n, fun | 31 => 22 | 9 => 9 | 3 => 3 | 4 => 4 | 0 => 0 | n => n, fun | n => n⟩
theorem Tryz.lays194 : Go.Proofs.Lays.n194 Tryz.prog Tryz.lays194_ren := {
  mixed := by kernel_rfl
  f194 := Tryz.func26.trans (congrArg some (by kernel_rfl))
  t0 := Tryz.underlying0
  a0 := Tryz.isAgg0
  z0 := Tryz.sizeOf0
  v0 := Tryz.zeroValue0
  t3 := Tryz.underlying3
  a3 := Tryz.isAgg3
  z3 := Tryz.sizeOf3
  v3 := Tryz.zeroValue3
  t4 := Tryz.underlying4
  a4 := Tryz.isAgg4
  z4 := Tryz.sizeOf4
  v4 := Tryz.zeroValue4
  t9 := Tryz.underlying9
  a9 := Tryz.isAgg9
  z9 := Tryz.sizeOf9
  v9 := Tryz.zeroValue9
  t31 := Tryz.underlying22
  a31 := Tryz.isAgg22
  z31 := Tryz.sizeOf22
  v31 := Tryz.zeroValue22 }
open Go.RowKit Go.Lib Go.Sort in
theorem Tryz.slices_Compact_string (blk off cap : Nat) (zs : List (List UInt8)) (w : World) (hH : Holds encStr w blk off zs.toArray) (hsz : zs.length ≤ 9223372036854775807) (hcap : zs.length ≤ cap) :
    Calls Tryz.prog 26 #[.slice (some ⟨blk, off, none⟩) zs.length cap] w fun e w' => e = .returned (.slice (some ⟨blk, off, none⟩) (Lib.compact zs).length cap) ∧ ∃ q, w' = putRow encStr (Sort.ahead w q) blk off (Lib.compact zs ++ List.replicate (zs.length - (Lib.compact zs).length) []).toArray := Any.slices_Compact_string Tryz.lays194 blk off cap zs w hH hsz hcap
open Go.RowKit Go.Lib Go.Sort in
theorem Tryz.slices_Compact_string_empty (a : Option Addr) (cap : Nat) (w : World) :
    Calls Tryz.prog 26 #[.slice a 0 cap] w fun e w' => e = .returned (.slice a 0 cap) ∧ w' = w := Any.slices_Compact_string_empty Tryz.lays194 a cap w
def Tryz.laysSlE041_f27_ren : Go.Shelf.Ren := ⟨fun | 41 => 27 | n => n, fun | 22 => 22 | 23 => 9 | 4 => 4 | n => n, fun | n => n⟩
theorem Tryz.laysSlE041_f27 : Go.Proofs.SlLaysE0.n41 Tryz.prog Tryz.laysSlE041_f27_ren := {
  mixed := by kernel_rfl
  f41 := ⟨Tryz.f27.name, by decide, Tryz.func27.trans (congrArg some (by kernel_rfl))⟩
  t4 := Tryz.underlying4
  a4 := Tryz.isAgg4
  z4 := Tryz.sizeOf4
  v4 := Tryz.zeroValue4
  t22 := Tryz.underlying22
  a22 := Tryz.isAgg22
  z22 := Tryz.sizeOf22
  v22 := Tryz.zeroValue22 }
open Go.RowKit Go.Lib in
theorem Tryz.slices_Clone (i0 : TypeInfo) (z : Value) (size bytes : Nat) (hi : Tryz.prog.info? 9 = some i0) (hz0 : i0.zero = some z) (hz1 : i0.size = size) (hz2 : i0.bytes = bytes) (hzs : z.cells.size = size) (hsz : 0 < size) (z23 : ∀ w, (Go.sizeOf 9).run Tryz.prog w = .ok size w) (b off n c : Nat) (news : List Value) (w : World) (hl : news.length = n * size) (hn : n ≤ maxLen) (hbig : n * bytes ≤ 140737488355328) (hc : ∀ j u, news[j]? = some u → w.cell? ⟨b, off + j, none⟩ = some u) (h1 : ∀ u ∈ news, u.oneCell' = true) :
    Calls Tryz.prog 27 #[.slice (some ⟨b, off, none⟩) n c] w fun e w' => ∃ v', e = .returned v' ∧ w'.ownsRow w.heap.size 9 size v' n news ∧ v' ≠ .slice none 0 0 ∧ Below w.heap.size w w' := AnyE.slices_Clone Tryz.laysSlE041_f27 i0 z size bytes hi hz0 hz1 hz2 hzs hsz z23 b off n c news w hl hn hbig hc h1
open Go.RowKit Go.Lib in
theorem Tryz.slices_Clone_nil (n c : Nat) (w : World) :
    Calls Tryz.prog 27 #[.slice none n c] w fun e w' => e = .returned (.slice none 0 0) ∧ w' = w := AnyE.slices_Clone_nil Tryz.laysSlE041_f27 n c w
end Go.Proofs
namespace Go.Proofs.YtmmeofiocbfamaaGreatDoor
open Go Go.Lib

theorem replaceAll_nil (old new : List UInt8) (h : old ≠ []) : replaceAll [] old new = [] := by
  have hi : index [] old = -1 := by
    unfold index
    cases old with
    | nil => exact absurd rfl h
    | cons a t => rfl
  simp [replaceAll, replace, replaceNum, count_miss hi, replaceK]

theorem replaceAll_hit {s old new : List UInt8} (h : old ≠ []) (hn : old ≠ new) (hp : old.isPrefixOf s = true) : replaceAll s old new = new ++ replaceAll (s.drop old.length) old new := by
  have hi : index s old = 0 := by
    cases s with
    | nil => cases old with
      | nil => exact absurd rfl h
      | cons a t => simp at hp
    | cons b l => unfold index; rw [if_pos hp]
  have hb : ¬ (old == new) = true := by simpa using hn
  have hc := count_hit h (i := 0) hi
  have e := replaceK_hit old new (count (s.drop old.length) old) s 0 hi
  simp only [Nat.zero_add, List.take_zero, List.nil_append] at e hc
  simp only [replaceAll, replace, if_neg hb, replaceNum, show ((-1 : Int) < 0) = True from by simp, true_or, if_true]
  rw [hc, Nat.add_comm 1, e]

theorem replaceAll_miss {c : UInt8} {r old new : List UInt8} (h : old ≠ []) (hn : old ≠ new) (hp : old.isPrefixOf (c :: r) = false) : replaceAll (c :: r) old new = c :: replaceAll r old new := by
  have hb : ¬ (old == new) = true := by simpa using hn
  simp only [replaceAll, replace, if_neg hb, replaceNum, show ((-1 : Int) < 0) = True from by simp, true_or, if_true]
  rcases index_spec r old with ⟨h1, _⟩ | ⟨i, h1, _, _, _⟩
  · have hi : index (c :: r) old = -1 := by unfold index; rw [hp, h1]; rfl
    rw [count_miss hi, count_miss h1]
    rfl
  · have hi : index (c :: r) old = ((i + 1 : Nat) : Int) := by
      unfold index
      rw [hp, h1]
      have : ((i : Int) == -1) = false := by rw [beq_eq_false_iff_ne]; omega
      simp [this]
    have e1 := count_hit h hi
    have e2 := count_hit h h1
    have e3 : (c :: r).drop (i + 1 + old.length) = r.drop (i + old.length) := by rw [show i + 1 + old.length = (i + old.length) + 1 from by omega]; rfl
    rw [e3] at e1
    have e4 : count (c :: r) old = count r old := by omega
    rw [e4, e2, Nat.add_comm 1, replaceK_hit old new _ (c :: r) (i + 1) hi, replaceK_hit old new _ r i h1, e3]
    rfl

/-- A key's bytes, escaped: a zero byte is followed by 255. -/
def esc : List UInt8 → List UInt8
  | [] => []
  | c :: r => if c = 0 then 0 :: 255 :: esc r else c :: esc r

theorem replaceAll_esc : ∀ s : List UInt8, replaceAll s [0] [0, 255] = esc s
  | [] => replaceAll_nil _ _ (by decide)
  | c :: r => by
    by_cases hc : c = 0
    · subst hc
      rw [replaceAll_hit (by decide) (by decide) (by simp)]
      simp [esc, replaceAll_esc r]
    · rw [replaceAll_miss (by decide) (by decide) (by rw [Bool.eq_false_iff]; intro h; simp at h; exact hc h.symm)]
      simp [esc, hc, replaceAll_esc r]

/-- Back: each 0, 255 is 0. -/
def unesc : List UInt8 → List UInt8
  | [] => []
  | [c] => [c]
  | c :: d :: r => if c = 0 ∧ d = 255 then 0 :: unesc r else c :: unesc (d :: r)

theorem replaceAll_unesc : ∀ s : List UInt8, replaceAll s [0, 255] [0] = unesc s
  | [] => replaceAll_nil _ _ (by decide)
  | [c] => by
    rw [replaceAll_miss (by decide) (by decide) (by simp [List.isPrefixOf]), replaceAll_nil _ _ (by decide)]
    rfl
  | c :: d :: r => by
    by_cases hc : c = 0 ∧ d = 255
    · obtain ⟨rfl, rfl⟩ := hc
      rw [replaceAll_hit (by decide) (by decide) (by simp)]
      simp [unesc, replaceAll_unesc r]
    · rw [replaceAll_miss (by decide) (by decide) (by
        rw [Bool.eq_false_iff]
        intro h
        simp at h
        exact hc ⟨h.1.symm, h.2.symm⟩)]
      simp [unesc, hc, replaceAll_unesc (d :: r)]

theorem unesc_esc : ∀ s : List UInt8, unesc (esc s) = s
  | [] => rfl
  | c :: r => by
    by_cases hc : c = 0
    · subst hc
      simp [esc, unesc, unesc_esc r]
    · have ih := unesc_esc r
      simp only [esc, if_neg hc]
      generalize esc r = t at *
      cases t with
      | nil => simp only [unesc] at ih ⊢; rw [← ih]
      | cons d t => simp [unesc, hc, ih]

theorem esc_length (s : List UInt8) : (esc s).length ≤ 2 * s.length := by
  induction s with
  | nil => simp [esc]
  | cons c r ih =>
    by_cases hc : c = 0 <;> simp [esc, hc] <;> omega

theorem esc_append (a b : List UInt8) : esc (a ++ b) = esc a ++ esc b := by
  induction a with
  | nil => rfl
  | cons c r ih => by_cases hc : c = 0 <;> simp [esc, hc, ih]

theorem esc_inj {a b : List UInt8} (h : esc a = esc b) : a = b := by rw [← unesc_esc a, h, unesc_esc b]

theorem unesc_length : ∀ s : List UInt8, (unesc s).length ≤ s.length
  | [] => by simp [unesc]
  | [c] => by simp [unesc]
  | c :: d :: r => by
    have h1 := unesc_length r
    have h2 := unesc_length (d :: r)
    by_cases hc : c = 0 ∧ d = 255
    · simp [unesc, hc]; omega
    · simp only [unesc, if_neg hc, List.length_cons] at h2 ⊢; omega

end Go.Proofs.YtmmeofiocbfamaaGreatDoor
namespace Go.Proofs.YtmmeofiocbfamaaGreatDoor
open Go Go.RowKit

/-- What the library's contracts ask of the world: its own variables are as the program lays them. -/
def Env (w : World) : Prop := w.ShapedOpen Tryz.prog
theorem Env.below {w w' : World} (h : Env w) (hb : Below w.heap.size w w') : Env w' := World.ShapedOpen.keptBut h (hb.frame (fun _ => False)) (fun _ h => h.elim)

theorem bcell {W w1 : World} (hb : Below W.heap.size W w1) : (∀ b o, b < W.heap.size → w1.cell? ⟨b, o, none⟩ = W.cell? ⟨b, o, none⟩) ∧ (∀ b o, b < W.heap.size → w1.frozen? ⟨b, o, none⟩ = W.frozen? ⟨b, o, none⟩) :=
  ⟨fun b o h => hb.cell (p := ⟨b, o, none⟩) h, fun b o h => hb.frozen (p := ⟨b, o, none⟩) h⟩

theorem countB_le' (s : ByteArray) (sep : ByteArray) (h1 : 1 ≤ sep.size) : Lib.countB s sep ≤ s.size := Lib.countB_le sep h1 s.size s (Nat.le_refl _)

theorem esc_call (s : ByteArray) (w : World) (h : Env w) (hs : s.size ≤ 1000000000) :
    Calls Tryz.prog 53 #[.string s, .string ⟨#[0]⟩, .string ⟨#[0, 255]⟩] w fun e w' => e = .returned (.string ⟨(esc s.data.toList).toArray⟩) ∧ Below w.heap.size w w' := by
  have hc := countB_le' s ⟨#[0]⟩ (by decide)
  have := Tryz.strings_ReplaceAll_shaped s ⟨#[0]⟩ ⟨#[0, 255]⟩ w h (by omega) (by decide) (by simp only [show ByteArray.size ⟨#[0, 255]⟩ = 2 from rfl]; omega)
  rwa [show (⟨#[0]⟩ : ByteArray).data.toList = [0] from rfl, show (⟨#[0, 255]⟩ : ByteArray).data.toList = [0, 255] from rfl, replaceAll_esc] at this

theorem unesc_call (s : ByteArray) (w : World) (h : Env w) (hs : s.size ≤ 1000000000) :
    Calls Tryz.prog 53 #[.string s, .string ⟨#[0, 255]⟩, .string ⟨#[0]⟩] w fun e w' => e = .returned (.string ⟨(unesc s.data.toList).toArray⟩) ∧ Below w.heap.size w w' := by
  have hc := countB_le' s ⟨#[0, 255]⟩ (by decide)
  have := Tryz.strings_ReplaceAll_shaped s ⟨#[0, 255]⟩ ⟨#[0]⟩ w h (by omega) (by decide) (by simp only [show ByteArray.size ⟨#[0]⟩ = 1 from rfl]; omega)
  rwa [show (⟨#[0]⟩ : ByteArray).data.toList = [0] from rfl, show (⟨#[0, 255]⟩ : ByteArray).data.toList = [0, 255] from rfl, replaceAll_unesc] at this

/-- The eight bytes of a number, the greatest first. -/
def be8 (m : Nat) : List UInt8 := [UInt8.ofNat (m / 72057594037927936), UInt8.ofNat (m / 281474976710656), UInt8.ofNat (m / 1099511627776), UInt8.ofNat (m / 4294967296),
  UInt8.ofNat (m / 16777216), UInt8.ofNat (m / 65536), UInt8.ofNat (m / 256), UInt8.ofNat m]

/-- 2^64 - 1 - q. -/
def flip64 (q : Nat) : Nat := 18446744073709551615 - q

/-- P2.1: an entry's inner key. -/
def innerB (key : List UInt8) (rev : Nat) (del : Bool) : List UInt8 := esc key ++ [0, 1] ++ (be8 (flip64 rev) ++ [if del then 0 else 1])

theorem u8n (a : Nat) : ((UInt8.ofNat a).toNat : Int) = ((a % 256 : Nat) : Int) := by simp

theorem str9 (W w1 : World) (B m : Nat) (x : Int) (y : UInt8) (hx : (y.toNat : Int) = x) (hB : W.heap.size = B) (e : TypeId)
    (hc : ∀ j, j < 9 → w1.cell? ⟨B, j, none⟩ = (W.alloc (.cells #[.int .u8 ((m : Int) / 72057594037927936 % 256), .int .u8 ((m : Int) / 281474976710656 % 256), .int .u8 ((m : Int) / 1099511627776 % 256), .int .u8 ((m : Int) / 4294967296 % 256),
      .int .u8 ((m : Int) / 16777216 % 256), .int .u8 ((m : Int) / 65536 % 256), .int .u8 ((m : Int) / 256 % 256), .int .u8 ((m : Int) % 256), .int .u8 x] e)).cell? ⟨B, j, none⟩) :
    (convert 24 9 (.slice (some ⟨B, 0, none⟩) 9 9)).run Tryz.prog w1 = .ok (.string ⟨(be8 m ++ [y]).toArray⟩) w1 := by
  refine run_convert_bytes_back (P := Tryz.prog) w1 24 9 5 ⟨B, 0, none⟩ 9 (be8 m ++ [y]) Tryz.underlying24 Tryz.underlying5 Tryz.underlying9 ?_
  intro j hj
  subst hB
  have hj9 : j < 9 := hj
  rw [Addr.add_lit, Nat.zero_add, hc j hj9, cell_of_row _ W.heap.size j _ e (0, 0) (heap_alloc_new W _)]
  match j, hj9 with
  | 0, _ | 1, _ | 2, _ | 3, _ | 4, _ | 5, _ | 6, _ | 7, _ => simp [be8]
  | 8, _ => simp [be8, hx]

theorem str9_drew (W : World) (B m : Nat) (x : Int) (y : UInt8) (hx : (y.toNat : Int) = x) (hB : W.heap.size = B) (e : TypeId) :
    (convert 24 9 (.slice (some ⟨B, 0, none⟩) 9 9)).run Tryz.prog (W.alloc (.cells #[.int .u8 ((m : Int) / 72057594037927936 % 256), .int .u8 ((m : Int) / 281474976710656 % 256), .int .u8 ((m : Int) / 1099511627776 % 256), .int .u8 ((m : Int) / 4294967296 % 256),
      .int .u8 ((m : Int) / 16777216 % 256), .int .u8 ((m : Int) / 65536 % 256), .int .u8 ((m : Int) / 256 % 256), .int .u8 ((m : Int) % 256), .int .u8 x] e)).drew =
      .ok (.string ⟨(be8 m ++ [y]).toArray⟩) (W.alloc (.cells #[.int .u8 ((m : Int) / 72057594037927936 % 256), .int .u8 ((m : Int) / 281474976710656 % 256), .int .u8 ((m : Int) / 1099511627776 % 256), .int .u8 ((m : Int) / 4294967296 % 256),
      .int .u8 ((m : Int) / 16777216 % 256), .int .u8 ((m : Int) / 65536 % 256), .int .u8 ((m : Int) / 256 % 256), .int .u8 ((m : Int) % 256), .int .u8 x] e)).drew :=
  str9 W _ B m x y hx hB e (fun _ _ => rfl)

theorem xor_max (q : Nat) (h : U64 q) : bits BinOp.xor IntKind.u64 IntKind.u64.max (q : Int) = ((flip64 q : Nat) : Int) := by
  have hl := h.lt
  rw [show IntKind.u64.max = ((18446744073709551615 : Nat) : Int) from rfl, u64_xor_nat _ _ (by decide) hl]
  congr 1
  unfold flip64
  have e : (18446744073709551615 : Nat) ^^^ q = (BitVec.allOnes 64 ^^^ BitVec.ofNat 64 q).toNat := by
    rw [BitVec.toNat_xor, BitVec.toNat_allOnes, BitVec.toNat_ofNat, Nat.mod_eq_of_lt (by omega)]
  rw [e, BitVec.allOnes_xor, BitVec.toNat_not, BitVec.toNat_ofNat, Nat.mod_eq_of_lt (by omega)]

/-- An entry as a value. -/
def entV (k : ByteArray) (r : Nat) (d : Bool) : Value := .agg #[.string k, .int .u64 r, .bool d]

/-- It returns a value; nothing that was there has turned. -/
def RetV (v : Value) (w : World) (e : Ending) (w' : World) : Prop := e = .returned v ∧ Below w.heap.size w w'

theorem ba_append (a b : List UInt8) : (⟨a.toArray⟩ : ByteArray) ++ ⟨b.toArray⟩ = ⟨(a ++ b).toArray⟩ := by
  apply ByteArray.ext
  simp

theorem inner_str (key : List UInt8) (r m : Nat) (d : Bool) (y : UInt8) (hm : m = flip64 r) (hy : y = if d then 0 else 1) :
    (⟨(esc key).toArray⟩ : ByteArray) ++ ⟨#[0, 1]⟩ ++ ⟨(be8 m ++ [y]).toArray⟩ = ⟨(innerB key r d).toArray⟩ := by
  subst hm hy
  rw [show (⟨#[0, 1]⟩ : ByteArray) = ⟨[0, 1].toArray⟩ from rfl, ba_append, ba_append]
  rfl

end Go.Proofs.YtmmeofiocbfamaaGreatDoor
