/- The contracts of Go's library at this translation, each laid by one application (written by the kit's lay-plain). No condition of their own: lemmas. Plain laws on keys as bytes: what ReplaceAll does to a key's zero bytes and back, and how escaped keys stand in order. The walk of codec.Inner: a key as bytes. No condition: lemmas. -/
import Derived.Shelf.Strings.Builder1
import Derived.Shelf.Strings.Builder2
import Derived.Shelf.Small.Strs
import Derived.Shelf.Small.Wraps
import Derived.Shelf.Strings.BuilderF
import Derived.Shelf.Strings.BuilderK
import Derived.Shelf.Strings.Builder2Cap
import Derived.Shelf.Strings.Search1
import Derived.Shelf.Strings.Search2
import Derived.Shelf.Strings.Search3
import Derived.Shelf.Strings.Count
import Derived.Shelf.LaysM
import Derived.Shelf.Strings.Shaped
import Derived.Shelf.Strings.Prefix
import Derived.Shelf.Strings.Split
import Derived.Shelf.Strings.Replace
import Derived.Shelf.Strings.SplitShaped
import Derived.Shelf.Strings.BuilderCap
import Derived.Ground.Names2Prog
import Derived.Shelf.Slices.Clone
import Derived.Shelf.Slices.CompactS
import Derived.Shelf.Slices.Cells
import Derived.Ground.SlgnProg
import Derived.Shelf.SlicesE.Clone
import Derived.Test.YtmmeofiocbfamaaDoorProg
import Derived.Lib.Replace
import Derived.Test.YtmmeofiocbfamaaDoorZ3
namespace Go.Proofs
open Go.Shelf
def Tryd.lays106_ren : Go.Shelf.Ren := ⟨fun | 106 => 39 | 213 => 60 | 265 => 71 | n => n, fun | 9 => 9 | 3 => 3 | n => n, fun | n => n⟩
theorem Tryd.lays106 : Go.Proofs.Lays.n106 Tryd.prog Tryd.lays106_ren := {
  mixed := by kernel_rfl
  f106 := Tryd.func39.trans (congrArg some (by kernel_rfl))
  f213 := Tryd.func60.trans (congrArg some (by kernel_rfl))
  f265 := Tryd.func71.trans (congrArg some (by kernel_rfl))
  t3 := Tryd.underlying3
  a3 := Tryd.isAgg3
  z3 := Tryd.sizeOf3
  v3 := Tryd.zeroValue3
  t9 := Tryd.underlying9
  a9 := Tryd.isAgg9
  z9 := Tryd.sizeOf9
  v9 := Tryd.zeroValue9 }
open Go.RowKit in
theorem Tryd.strings_Compare (a b : ByteArray) (w : World) :
    Calls Tryd.prog 39 #[.string a, .string b] w fun e w' => e = .returned (.int .i64 (Lib.compareBytes a.data.toList b.data.toList)) ∧ w' = w := Any.strings_Compare Tryd.lays106 a b w
def Tryd.lays104_ren : Go.Shelf.Ren := ⟨fun | 104 => 42 | 211 => 62 | 207 => 72 | n => n, fun | 9 => 9 | 4 => 4 | 24 => 84 | 3 => 3 | n => n, fun | n => n⟩
theorem Tryd.lays104 : Go.Proofs.Lays.n104 Tryd.prog Tryd.lays104_ren := {
  mixed := by kernel_rfl
  f104 := Tryd.func42.trans (congrArg some (by kernel_rfl))
  f207 := Tryd.func72.trans (congrArg some (by kernel_rfl))
  f211 := Tryd.func62.trans (congrArg some (by kernel_rfl))
  t3 := Tryd.underlying3
  a3 := Tryd.isAgg3
  z3 := Tryd.sizeOf3
  v3 := Tryd.zeroValue3
  t4 := Tryd.underlying4
  a4 := Tryd.isAgg4
  z4 := Tryd.sizeOf4
  v4 := Tryd.zeroValue4
  t9 := Tryd.underlying9
  a9 := Tryd.isAgg9
  z9 := Tryd.sizeOf9
  v9 := Tryd.zeroValue9
  t24 := Tryd.underlying84
  a24 := Tryd.isAgg84
  z24 := Tryd.sizeOf84
  v24 := Tryd.zeroValue84 }
open Go.RowKit in
theorem Tryd.strings_CutSuffix (s p : ByteArray) (w : World) (hs : s.size ≤ 9223372036854775807) :
    Calls Tryd.prog 42 #[.string s, .string p] w fun e w' => e = .returned (.tuple #[.string ⟨(Lib.trimSuffix s.data.toList p.data.toList).toArray⟩, .bool (Lib.hasSuffix s.data.toList p.data.toList)]) ∧ w' = w := Any.strings_CutSuffix Tryd.lays104 s p w hs
def Tryd.laysM155_ren : Go.Shelf.Ren := ⟨fun | 155 => 43 | 154 => 63 | 138 => 73 | 165 => 74 | 143 => 75 | 166 => 76 | 197 => 77 | 169 => 78 | 195 => 79 | 218 => 80 | 240 => 81 | 241 => 82 | 219 => 83 | 260 => 84 | 276 => 85 | 277 => 86 | 217 => 87 | 225 => 88 | 224 => 89 | 267 => 90 | 266 => 91 | 314 => 92 | n => n, fun | 9 => 9 | 3 => 3 | 4 => 4 | 72 => 122 | 0 => 0 | 76 => 126 | 105 => 128 | 21 => 21 | 5 => 5 | 70 => 120 | 20 => 20 | 37 => 24 | 75 => 125 | 127 => 133 | 164 => 134 | 46 => 83 | 119 => 137 | 139 => 140 | 138 => 139 | 146 => 141 | 51 => 91 | 80 => 130 | n => n, fun | 1 => 0 | 3 => 1 | 4 => 2 | n => n⟩
theorem Tryd.laysM155 : Go.Proofs.LaysM.n155 Tryd.prog Tryd.laysM155_ren := {
  mixed := by kernel_rfl
  f138 := Tryd.func73.trans (congrArg some (by kernel_rfl))
  f143 := Tryd.func75.trans (congrArg some (by kernel_rfl))
  f154 := Tryd.func63.trans (congrArg some (by kernel_rfl))
  f155 := Tryd.func43.trans (congrArg some (by kernel_rfl))
  f165 := Tryd.func74.trans (congrArg some (by kernel_rfl))
  f166 := Tryd.func76.trans (congrArg some (by kernel_rfl))
  f169 := Tryd.func78.trans (congrArg some (by kernel_rfl))
  f195 := Tryd.func79.trans (congrArg some (by kernel_rfl))
  f197 := Tryd.func77.trans (congrArg some (by kernel_rfl))
  f217 := Tryd.func87.trans (congrArg some (by kernel_rfl))
  f218 := Tryd.func80.trans (congrArg some (by kernel_rfl))
  f219 := Tryd.func83.trans (congrArg some (by kernel_rfl))
  f224 := Tryd.func89.trans (congrArg some (by kernel_rfl))
  f225 := Tryd.func88.trans (congrArg some (by kernel_rfl))
  f240 := Tryd.func81.trans (congrArg some (by kernel_rfl))
  f241 := Tryd.func82.trans (congrArg some (by kernel_rfl))
  f260 := Tryd.func84.trans (congrArg some (by kernel_rfl))
  f266 := Tryd.func91.trans (congrArg some (by kernel_rfl))
  f267 := Tryd.func90.trans (congrArg some (by kernel_rfl))
  f276 := Tryd.func85.trans (congrArg some (by kernel_rfl))
  f277 := Tryd.func86.trans (congrArg some (by kernel_rfl))
  f314 := Tryd.func92.trans (congrArg some (by kernel_rfl))
  t0 := Tryd.underlying0
  a0 := Tryd.isAgg0
  z0 := Tryd.sizeOf0
  v0 := Tryd.zeroValue0
  t3 := Tryd.underlying3
  a3 := Tryd.isAgg3
  z3 := Tryd.sizeOf3
  v3 := Tryd.zeroValue3
  t4 := Tryd.underlying4
  a4 := Tryd.isAgg4
  z4 := Tryd.sizeOf4
  v4 := Tryd.zeroValue4
  t5 := Tryd.underlying5
  a5 := Tryd.isAgg5
  z5 := Tryd.sizeOf5
  v5 := Tryd.zeroValue5
  t9 := Tryd.underlying9
  a9 := Tryd.isAgg9
  z9 := Tryd.sizeOf9
  v9 := Tryd.zeroValue9
  t20 := Tryd.underlying20
  a20 := Tryd.isAgg20
  z20 := Tryd.sizeOf20
  v20 := Tryd.zeroValue20
  t21 := Tryd.underlying21
  a21 := Tryd.isAgg21
  z21 := Tryd.sizeOf21
  v21 := Tryd.zeroValue21
  t37 := Tryd.underlying24
  a37 := Tryd.isAgg24
  z37 := Tryd.sizeOf24
  v37 := Tryd.zeroValue24
  t46 := Tryd.underlying83
  a46 := Tryd.isAgg83
  z46 := Tryd.sizeOf83
  v46 := Tryd.zeroValue83
  t51 := Tryd.underlying91
  a51 := Tryd.isAgg91
  z51 := Tryd.sizeOf91
  v51 := Tryd.zeroValue91
  t70 := Tryd.underlying120
  a70 := Tryd.isAgg120
  z70 := Tryd.sizeOf120
  v70 := Tryd.zeroValue120
  t72 := Tryd.underlying122
  a72 := Tryd.isAgg122
  z72 := Tryd.sizeOf122
  v72 := Tryd.zeroValue122
  t75 := Tryd.underlying125
  a75 := Tryd.isAgg125
  z75 := Tryd.sizeOf125
  v75 := Tryd.zeroValue125
  t76 := Tryd.underlying126
  a76 := Tryd.isAgg126
  z76 := Tryd.sizeOf126
  v76 := Tryd.zeroValue126
  t105 := Tryd.underlying128
  a105 := Tryd.isAgg128
  z105 := Tryd.sizeOf128
  v105 := Tryd.zeroValue128
  t119 := Tryd.underlying137
  a119 := Tryd.isAgg137
  z119 := Tryd.sizeOf137
  t127 := Tryd.underlying133
  a127 := Tryd.isAgg133
  z127 := Tryd.sizeOf133
  v127 := Tryd.zeroValue133
  t138 := Tryd.underlying139
  a138 := Tryd.isAgg139
  z138 := Tryd.sizeOf139
  v138 := Tryd.zeroValue139
  t139 := Tryd.underlying140
  a139 := Tryd.isAgg140
  z139 := Tryd.sizeOf140
  v139 := Tryd.zeroValue140
  t146 := Tryd.underlying141
  a146 := Tryd.isAgg141
  z146 := Tryd.sizeOf141
  v146 := Tryd.zeroValue141
  t164 := Tryd.underlying134
  a164 := Tryd.isAgg134
  z164 := Tryd.sizeOf134
  v164 := Tryd.zeroValue134
  g1 := by kernel_rfl
  g3 := by kernel_rfl
  g4 := by kernel_rfl
  t80 := Tryd.underlying130
  a80 := Tryd.isAgg130
  z80 := Tryd.sizeOf130
  v80 := Tryd.zeroValue130
  i0 := by kernel_rfl
  i3 := by kernel_rfl
  i4 := by kernel_rfl
  i5 := by kernel_rfl
  i9 := by kernel_rfl
  i20 := by kernel_rfl
  i21 := by kernel_rfl
  i37 := by kernel_rfl
  i46 := by kernel_rfl
  i51 := by kernel_rfl
  i70 := by kernel_rfl
  i72 := by kernel_rfl
  i75 := by kernel_rfl
  i76 := by kernel_rfl
  i80 := by kernel_rfl
  i105 := by kernel_rfl
  i127 := by kernel_rfl
  i138 := by kernel_rfl
  i139 := by kernel_rfl
  i146 := by kernel_rfl
  i164 := by kernel_rfl
  m1 := by kernel_rfl
  s1_3 := fun w h => Go.Proofs.cell_of_shapedOpen_int (zero := #[.int .i64 0]) (t := 3) h (of_decide_eq_true (by kernel_rfl)) (by kernel_rfl) rfl (by kernel_rfl) (by kernel_rfl) Tryd.underlying3
  m3 := by kernel_rfl
  m4 := by kernel_rfl }
theorem Tryd.Builder_Extra_M155 : Builder.Extra Tryd.prog Tryd.laysM155_ren := {
  sizeBuilder := by kernel_rfl
  liesBuilder := by kernel_rfl
  t5 := Tryd.underlying5
  a5 := Tryd.isAgg5
  z5 := Tryd.sizeOf5
  v5 := Tryd.zeroValue5
  infoByte := by kernel_rfl
  cellsByte := by kernel_rfl
  sizeByte := by kernel_rfl
  neB5 := by decide }
open Go.RowKit Go.Lib in
theorem Tryd.strings_ReplaceAll_shaped (s old new : ByteArray) (w : World) (h : w.ShapedOpen Tryd.prog) (hs : s.size < 4294967281) (h1 : 1 ≤ old.size) (hlen : s.size + Lib.countB s old * new.size ≤ 140737488355328) :
    Calls Tryd.prog 43 #[.string s, .string old, .string new] w fun e w' =>
      e = .returned (.string ⟨(Lib.replaceAll s.data.toList old.data.toList new.data.toList).toArray⟩) ∧ Below w.heap.size w w' := Any.strings_ReplaceAll_shaped Tryd.laysM155 Tryd.Builder_Extra_M155 s old new w h hs h1 hlen
def Tryd.laysNm216_ren : Go.Shelf.Ren := ⟨fun | 16 => 25 | n => n, fun | 24 => 26 | 9 => 9 | 4 => 4 | n => n, fun | n => n⟩
theorem Tryd.laysNm216 : Go.Proofs.Lays2.n16 Tryd.prog Tryd.laysNm216_ren := {
  mixed := by kernel_rfl
  f16 := Tryd.func25.trans (congrArg some (by kernel_rfl))
  t4 := Tryd.underlying4
  a4 := Tryd.isAgg4
  z4 := Tryd.sizeOf4
  v4 := Tryd.zeroValue4
  t9 := Tryd.underlying9
  a9 := Tryd.isAgg9
  z9 := Tryd.sizeOf9
  v9 := Tryd.zeroValue9
  t24 := Tryd.underlying26
  a24 := Tryd.isAgg26
  z24 := Tryd.sizeOf26
  v24 := Tryd.zeroValue26
  i9 := by kernel_rfl }
open Go.RowKit Go.Lib in
theorem Tryd.slices_Clone_string (b off n c : Nat) (zs : List ByteArray) (w : World) (hz : n ≤ zs.length) (hbig : n * 16 ≤ 140737488355328) (hc : ∀ j, j < zs.length → w.cell? ⟨b, off + j, none⟩ = some (.string (zs.getD j ByteArray.empty))) :
    Calls Tryd.prog 25 #[.slice (some ⟨b, off, none⟩) n c] w fun e w' => ∃ v', e = .returned v' ∧ w'.ownsRow w.heap.size 9 1 v' n ((zs.take n).map (Value.string)) ∧ v' ≠ .slice none 0 0 ∧ Below w.heap.size w w' := Any.slices_Clone_string Tryd.laysNm216 b off n c zs w hz hbig hc
open Go.RowKit Go.Lib in
theorem Tryd.slices_Clone_string_nil (n c : Nat) (w : World) :
    Calls Tryd.prog 25 #[.slice none n c] w fun e w' => e = .returned (.slice none 0 0) ∧ w' = w := Any.slices_Clone_string_nil Tryd.laysNm216 n c w
open Go.RowKit Go.Lib in
theorem Tryd.slices_Clone_string_zero (a : Addr) (c : Nat) (w : World) :
    Calls Tryd.prog 25 #[.slice (some a) 0 c] w fun e w' => ∃ v', e = .returned v' ∧ w'.ownsRow w.heap.size 9 1 v' 0 [] ∧ v' ≠ .slice none 0 0 ∧ Below w.heap.size w w' := Any.slices_Clone_string_zero Tryd.laysNm216 a c w
def Tryd.lays194_ren : Go.Shelf.Ren := ⟨fun | 194 => 24 | n => n, fun | 31 => 26 | 9 => 9 | 3 => 3 | 4 => 4 | 0 => 0 | n => n, fun | n => n⟩
theorem Tryd.lays194 : Go.Proofs.Lays.n194 Tryd.prog Tryd.lays194_ren := {
  mixed := by kernel_rfl
  f194 := Tryd.func24.trans (congrArg some (by kernel_rfl))
  t0 := Tryd.underlying0
  a0 := Tryd.isAgg0
  z0 := Tryd.sizeOf0
  v0 := Tryd.zeroValue0
  t3 := Tryd.underlying3
  a3 := Tryd.isAgg3
  z3 := Tryd.sizeOf3
  v3 := Tryd.zeroValue3
  t4 := Tryd.underlying4
  a4 := Tryd.isAgg4
  z4 := Tryd.sizeOf4
  v4 := Tryd.zeroValue4
  t9 := Tryd.underlying9
  a9 := Tryd.isAgg9
  z9 := Tryd.sizeOf9
  v9 := Tryd.zeroValue9
  t31 := Tryd.underlying26
  a31 := Tryd.isAgg26
  z31 := Tryd.sizeOf26
  v31 := Tryd.zeroValue26 }
open Go.RowKit Go.Lib Go.Sort in
theorem Tryd.slices_Compact_string (blk off cap : Nat) (zs : List (List UInt8)) (w : World) (hH : Holds encStr w blk off zs.toArray) (hsz : zs.length ≤ 9223372036854775807) (hcap : zs.length ≤ cap) :
    Calls Tryd.prog 24 #[.slice (some ⟨blk, off, none⟩) zs.length cap] w fun e w' => e = .returned (.slice (some ⟨blk, off, none⟩) (Lib.compact zs).length cap) ∧ ∃ q, w' = putRow encStr (Sort.ahead w q) blk off (Lib.compact zs ++ List.replicate (zs.length - (Lib.compact zs).length) []).toArray := Any.slices_Compact_string Tryd.lays194 blk off cap zs w hH hsz hcap
open Go.RowKit Go.Lib Go.Sort in
theorem Tryd.slices_Compact_string_empty (a : Option Addr) (cap : Nat) (w : World) :
    Calls Tryd.prog 24 #[.slice a 0 cap] w fun e w' => e = .returned (.slice a 0 cap) ∧ w' = w := Any.slices_Compact_string_empty Tryd.lays194 a cap w
def Tryd.laysSlE041_f25_ren : Go.Shelf.Ren := ⟨fun | 41 => 25 | n => n, fun | 22 => 26 | 23 => 9 | 4 => 4 | n => n, fun | n => n⟩
theorem Tryd.laysSlE041_f25 : Go.Proofs.SlLaysE0.n41 Tryd.prog Tryd.laysSlE041_f25_ren := {
  mixed := by kernel_rfl
  f41 := ⟨Tryd.f25.name, by decide, Tryd.func25.trans (congrArg some (by kernel_rfl))⟩
  t4 := Tryd.underlying4
  a4 := Tryd.isAgg4
  z4 := Tryd.sizeOf4
  v4 := Tryd.zeroValue4
  t22 := Tryd.underlying26
  a22 := Tryd.isAgg26
  z22 := Tryd.sizeOf26
  v22 := Tryd.zeroValue26 }
open Go.RowKit Go.Lib in
theorem Tryd.slices_Clone (i0 : TypeInfo) (z : Value) (size bytes : Nat) (hi : Tryd.prog.info? 9 = some i0) (hz0 : i0.zero = some z) (hz1 : i0.size = size) (hz2 : i0.bytes = bytes) (hzs : z.cells.size = size) (hsz : 0 < size) (z23 : ∀ w, (Go.sizeOf 9).run Tryd.prog w = .ok size w) (b off n c : Nat) (news : List Value) (w : World) (hl : news.length = n * size) (hn : n ≤ maxLen) (hbig : n * bytes ≤ 140737488355328) (hc : ∀ j u, news[j]? = some u → w.cell? ⟨b, off + j, none⟩ = some u) (h1 : ∀ u ∈ news, u.oneCell' = true) :
    Calls Tryd.prog 25 #[.slice (some ⟨b, off, none⟩) n c] w fun e w' => ∃ v', e = .returned v' ∧ w'.ownsRow w.heap.size 9 size v' n news ∧ v' ≠ .slice none 0 0 ∧ Below w.heap.size w w' := AnyE.slices_Clone Tryd.laysSlE041_f25 i0 z size bytes hi hz0 hz1 hz2 hzs hsz z23 b off n c news w hl hn hbig hc h1
open Go.RowKit Go.Lib in
theorem Tryd.slices_Clone_nil (n c : Nat) (w : World) :
    Calls Tryd.prog 25 #[.slice none n c] w fun e w' => e = .returned (.slice none 0 0) ∧ w' = w := AnyE.slices_Clone_nil Tryd.laysSlE041_f25 n c w
end Go.Proofs
namespace Go.Proofs.YtmmeofiocbfamaaDoor
open Go Go.Lib

theorem replaceAll_nil (old new : List UInt8) (h : old ≠ []) : replaceAll [] old new = [] := by
  have hi : index [] old = -1 := by
    unfold index
    cases old with
    | nil => exact absurd rfl h
    | cons a t => rfl
  simp [replaceAll, replace, replaceNum, count_miss hi, replaceK]

theorem replaceAll_hit {s old new : List UInt8} (h : old ≠ []) (hn : old ≠ new) (hp : old.isPrefixOf s = true) : replaceAll s old new = new ++ replaceAll (s.drop old.length) old new := by
  have hi : index s old = 0 := by
    cases s with
    | nil => cases old with
      | nil => exact absurd rfl h
      | cons a t => simp at hp
    | cons b l => unfold index; rw [if_pos hp]
  have hb : ¬ (old == new) = true := by simpa using hn
  have hc := count_hit h (i := 0) hi
  have e := replaceK_hit old new (count (s.drop old.length) old) s 0 hi
  simp only [Nat.zero_add, List.take_zero, List.nil_append] at e hc
  simp only [replaceAll, replace, if_neg hb, replaceNum, show ((-1 : Int) < 0) = True from by simp, true_or, if_true]
  rw [hc, Nat.add_comm 1, e]

theorem replaceAll_miss {c : UInt8} {r old new : List UInt8} (h : old ≠ []) (hn : old ≠ new) (hp : old.isPrefixOf (c :: r) = false) : replaceAll (c :: r) old new = c :: replaceAll r old new := by
  have hb : ¬ (old == new) = true := by simpa using hn
  simp only [replaceAll, replace, if_neg hb, replaceNum, show ((-1 : Int) < 0) = True from by simp, true_or, if_true]
  rcases index_spec r old with ⟨h1, _⟩ | ⟨i, h1, _, _, _⟩
  · have hi : index (c :: r) old = -1 := by unfold index; rw [hp, h1]; rfl
    rw [count_miss hi, count_miss h1]
    rfl
  · have hi : index (c :: r) old = ((i + 1 : Nat) : Int) := by
      unfold index
      rw [hp, h1]
      have : ((i : Int) == -1) = false := by rw [beq_eq_false_iff_ne]; omega
      simp [this]
    have e1 := count_hit h hi
    have e2 := count_hit h h1
    have e3 : (c :: r).drop (i + 1 + old.length) = r.drop (i + old.length) := by rw [show i + 1 + old.length = (i + old.length) + 1 from by omega]; rfl
    rw [e3] at e1
    have e4 : count (c :: r) old = count r old := by omega
    rw [e4, e2, Nat.add_comm 1, replaceK_hit old new _ (c :: r) (i + 1) hi, replaceK_hit old new _ r i h1, e3]
    rfl

/-- A key's bytes, escaped: a zero byte is followed by 255. -/
def esc : List UInt8 → List UInt8
  | [] => []
  | c :: r => if c = 0 then 0 :: 255 :: esc r else c :: esc r

theorem replaceAll_esc : ∀ s : List UInt8, replaceAll s [0] [0, 255] = esc s
  | [] => replaceAll_nil _ _ (by decide)
  | c :: r => by
    by_cases hc : c = 0
    · subst hc
      rw [replaceAll_hit (by decide) (by decide) (by simp)]
      simp [esc, replaceAll_esc r]
    · rw [replaceAll_miss (by decide) (by decide) (by rw [Bool.eq_false_iff]; intro h; simp at h; exact hc h.symm)]
      simp [esc, hc, replaceAll_esc r]

/-- Back: each 0, 255 is 0. -/
def unesc : List UInt8 → List UInt8
  | [] => []
  | [c] => [c]
  | c :: d :: r => if c = 0 ∧ d = 255 then 0 :: unesc r else c :: unesc (d :: r)

theorem replaceAll_unesc : ∀ s : List UInt8, replaceAll s [0, 255] [0] = unesc s
  | [] => replaceAll_nil _ _ (by decide)
  | [c] => by
    rw [replaceAll_miss (by decide) (by decide) (by simp [List.isPrefixOf]), replaceAll_nil _ _ (by decide)]
    rfl
  | c :: d :: r => by
    by_cases hc : c = 0 ∧ d = 255
    · obtain ⟨rfl, rfl⟩ := hc
      rw [replaceAll_hit (by decide) (by decide) (by simp)]
      simp [unesc, replaceAll_unesc r]
    · rw [replaceAll_miss (by decide) (by decide) (by
        rw [Bool.eq_false_iff]
        intro h
        simp at h
        exact hc ⟨h.1.symm, h.2.symm⟩)]
      simp [unesc, hc, replaceAll_unesc (d :: r)]

theorem unesc_esc : ∀ s : List UInt8, unesc (esc s) = s
  | [] => rfl
  | c :: r => by
    by_cases hc : c = 0
    · subst hc
      simp [esc, unesc, unesc_esc r]
    · have ih := unesc_esc r
      simp only [esc, if_neg hc]
      generalize esc r = t at *
      cases t with
      | nil => simp only [unesc] at ih ⊢; rw [← ih]
      | cons d t => simp [unesc, hc, ih]

theorem esc_length (s : List UInt8) : (esc s).length ≤ 2 * s.length := by
  induction s with
  | nil => simp [esc]
  | cons c r ih =>
    by_cases hc : c = 0 <;> simp [esc, hc] <;> omega

theorem esc_append (a b : List UInt8) : esc (a ++ b) = esc a ++ esc b := by
  induction a with
  | nil => rfl
  | cons c r ih => by_cases hc : c = 0 <;> simp [esc, hc, ih]

theorem esc_inj {a b : List UInt8} (h : esc a = esc b) : a = b := by rw [← unesc_esc a, h, unesc_esc b]

theorem unesc_length : ∀ s : List UInt8, (unesc s).length ≤ s.length
  | [] => by simp [unesc]
  | [c] => by simp [unesc]
  | c :: d :: r => by
    have h1 := unesc_length r
    have h2 := unesc_length (d :: r)
    by_cases hc : c = 0 ∧ d = 255
    · simp [unesc, hc]; omega
    · simp only [unesc, if_neg hc, List.length_cons] at h2 ⊢; omega

end Go.Proofs.YtmmeofiocbfamaaDoor
namespace Go.Proofs.YtmmeofiocbfamaaDoor
open Go Go.RowKit

/-- What the library's contracts ask of the world: its own variables are as the program lays them. -/
def Env (w : World) : Prop := w.ShapedOpen Tryd.prog
theorem Env.below {w w' : World} (h : Env w) (hb : Below w.heap.size w w') : Env w' := World.ShapedOpen.keptBut h (hb.frame (fun _ => False)) (fun _ h => h.elim)

theorem bcell {W w1 : World} (hb : Below W.heap.size W w1) : (∀ b o, b < W.heap.size → w1.cell? ⟨b, o, none⟩ = W.cell? ⟨b, o, none⟩) ∧ (∀ b o, b < W.heap.size → w1.frozen? ⟨b, o, none⟩ = W.frozen? ⟨b, o, none⟩) :=
  ⟨fun b o h => hb.cell (p := ⟨b, o, none⟩) h, fun b o h => hb.frozen (p := ⟨b, o, none⟩) h⟩

theorem countB_le' (s : ByteArray) (sep : ByteArray) (h1 : 1 ≤ sep.size) : Lib.countB s sep ≤ s.size := Lib.countB_le sep h1 s.size s (Nat.le_refl _)

theorem esc_call (s : ByteArray) (w : World) (h : Env w) (hs : s.size ≤ 1000000000) :
    Calls Tryd.prog 43 #[.string s, .string ⟨#[0]⟩, .string ⟨#[0, 255]⟩] w fun e w' => e = .returned (.string ⟨(esc s.data.toList).toArray⟩) ∧ Below w.heap.size w w' := by
  have hc := countB_le' s ⟨#[0]⟩ (by decide)
  have := Tryd.strings_ReplaceAll_shaped s ⟨#[0]⟩ ⟨#[0, 255]⟩ w h (by omega) (by decide) (by simp only [show ByteArray.size ⟨#[0, 255]⟩ = 2 from rfl]; omega)
  rwa [show (⟨#[0]⟩ : ByteArray).data.toList = [0] from rfl, show (⟨#[0, 255]⟩ : ByteArray).data.toList = [0, 255] from rfl, replaceAll_esc] at this

theorem unesc_call (s : ByteArray) (w : World) (h : Env w) (hs : s.size ≤ 1000000000) :
    Calls Tryd.prog 43 #[.string s, .string ⟨#[0, 255]⟩, .string ⟨#[0]⟩] w fun e w' => e = .returned (.string ⟨(unesc s.data.toList).toArray⟩) ∧ Below w.heap.size w w' := by
  have hc := countB_le' s ⟨#[0, 255]⟩ (by decide)
  have := Tryd.strings_ReplaceAll_shaped s ⟨#[0, 255]⟩ ⟨#[0]⟩ w h (by omega) (by decide) (by simp only [show ByteArray.size ⟨#[0]⟩ = 1 from rfl]; omega)
  rwa [show (⟨#[0]⟩ : ByteArray).data.toList = [0] from rfl, show (⟨#[0, 255]⟩ : ByteArray).data.toList = [0, 255] from rfl, replaceAll_unesc] at this

/-- The eight bytes of a number, the greatest first. -/
def be8 (m : Nat) : List UInt8 := [UInt8.ofNat (m / 72057594037927936), UInt8.ofNat (m / 281474976710656), UInt8.ofNat (m / 1099511627776), UInt8.ofNat (m / 4294967296),
  UInt8.ofNat (m / 16777216), UInt8.ofNat (m / 65536), UInt8.ofNat (m / 256), UInt8.ofNat m]

/-- 2^64 - 1 - q. -/
def flip64 (q : Nat) : Nat := 18446744073709551615 - q

/-- P2.1: an entry's inner key. -/
def innerB (key : List UInt8) (rev : Nat) (del : Bool) : List UInt8 := esc key ++ [0, 1] ++ (be8 (flip64 rev) ++ [if del then 0 else 1])

theorem u8n (a : Nat) : ((UInt8.ofNat a).toNat : Int) = ((a % 256 : Nat) : Int) := by simp

theorem str9 (W w1 : World) (B m : Nat) (x : Int) (y : UInt8) (hx : (y.toNat : Int) = x) (hB : W.heap.size = B) (e : TypeId)
    (hc : ∀ j, j < 9 → w1.cell? ⟨B, j, none⟩ = (W.alloc (.cells #[.int .u8 ((m : Int) / 72057594037927936 % 256), .int .u8 ((m : Int) / 281474976710656 % 256), .int .u8 ((m : Int) / 1099511627776 % 256), .int .u8 ((m : Int) / 4294967296 % 256),
      .int .u8 ((m : Int) / 16777216 % 256), .int .u8 ((m : Int) / 65536 % 256), .int .u8 ((m : Int) / 256 % 256), .int .u8 ((m : Int) % 256), .int .u8 x] e)).cell? ⟨B, j, none⟩) :
    (convert 24 9 (.slice (some ⟨B, 0, none⟩) 9 9)).run Tryd.prog w1 = .ok (.string ⟨(be8 m ++ [y]).toArray⟩) w1 := by
  refine run_convert_bytes_back (P := Tryd.prog) w1 24 9 5 ⟨B, 0, none⟩ 9 (be8 m ++ [y]) Tryd.underlying24 Tryd.underlying5 Tryd.underlying9 ?_
  intro j hj
  subst hB
  have hj9 : j < 9 := hj
  rw [Addr.add_lit, Nat.zero_add, hc j hj9, cell_of_row _ W.heap.size j _ e (0, 0) (heap_alloc_new W _)]
  match j, hj9 with
  | 0, _ | 1, _ | 2, _ | 3, _ | 4, _ | 5, _ | 6, _ | 7, _ => simp [be8]
  | 8, _ => simp [be8, hx]

theorem str9_drew (W : World) (B m : Nat) (x : Int) (y : UInt8) (hx : (y.toNat : Int) = x) (hB : W.heap.size = B) (e : TypeId) :
    (convert 24 9 (.slice (some ⟨B, 0, none⟩) 9 9)).run Tryd.prog (W.alloc (.cells #[.int .u8 ((m : Int) / 72057594037927936 % 256), .int .u8 ((m : Int) / 281474976710656 % 256), .int .u8 ((m : Int) / 1099511627776 % 256), .int .u8 ((m : Int) / 4294967296 % 256),
      .int .u8 ((m : Int) / 16777216 % 256), .int .u8 ((m : Int) / 65536 % 256), .int .u8 ((m : Int) / 256 % 256), .int .u8 ((m : Int) % 256), .int .u8 x] e)).drew =
      .ok (.string ⟨(be8 m ++ [y]).toArray⟩) (W.alloc (.cells #[.int .u8 ((m : Int) / 72057594037927936 % 256), .int .u8 ((m : Int) / 281474976710656 % 256), .int .u8 ((m : Int) / 1099511627776 % 256), .int .u8 ((m : Int) / 4294967296 % 256),
      .int .u8 ((m : Int) / 16777216 % 256), .int .u8 ((m : Int) / 65536 % 256), .int .u8 ((m : Int) / 256 % 256), .int .u8 ((m : Int) % 256), .int .u8 x] e)).drew :=
  str9 W _ B m x y hx hB e (fun _ _ => rfl)

theorem xor_max (q : Nat) (h : U64 q) : bits BinOp.xor IntKind.u64 IntKind.u64.max (q : Int) = ((flip64 q : Nat) : Int) := by
  have hl := h.lt
  rw [show IntKind.u64.max = ((18446744073709551615 : Nat) : Int) from rfl, u64_xor_nat _ _ (by decide) hl]
  congr 1
  unfold flip64
  have e : (18446744073709551615 : Nat) ^^^ q = (BitVec.allOnes 64 ^^^ BitVec.ofNat 64 q).toNat := by
    rw [BitVec.toNat_xor, BitVec.toNat_allOnes, BitVec.toNat_ofNat, Nat.mod_eq_of_lt (by omega)]
  rw [e, BitVec.allOnes_xor, BitVec.toNat_not, BitVec.toNat_ofNat, Nat.mod_eq_of_lt (by omega)]

/-- An entry as a value. -/
def entV (k : ByteArray) (r : Nat) (d : Bool) : Value := .agg #[.string k, .int .u64 r, .bool d]

/-- It returns a value; nothing that was there has turned. -/
def RetV (v : Value) (w : World) (e : Ending) (w' : World) : Prop := e = .returned v ∧ Below w.heap.size w w'

theorem ba_append (a b : List UInt8) : (⟨a.toArray⟩ : ByteArray) ++ ⟨b.toArray⟩ = ⟨(a ++ b).toArray⟩ := by
  apply ByteArray.ext
  simp

theorem inner_str (key : List UInt8) (r m : Nat) (d : Bool) (y : UInt8) (hm : m = flip64 r) (hy : y = if d then 0 else 1) :
    (⟨(esc key).toArray⟩ : ByteArray) ++ ⟨#[0, 1]⟩ ++ ⟨(be8 m ++ [y]).toArray⟩ = ⟨(innerB key r d).toArray⟩ := by
  subst hm hy
  rw [show (⟨#[0, 1]⟩ : ByteArray) = ⟨[0, 1].toArray⟩ from rfl, ba_append, ba_append]
  rfl

end Go.Proofs.YtmmeofiocbfamaaDoor
