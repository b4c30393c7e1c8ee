/- The walk of codec.Inner: a key as bytes. No condition: lemmas. -/
import Derived.Test.YtcglegipdlaoiaaDoorCodecB
import Derived.Test.YtcglegipdlaoiaaDoorShelf
import Derived.Test.YtcglegipdlaoiaaDoorPlainKey
namespace Go.Proofs.YtcglegipdlaoiaaDoor
open Go Go.RowKit

/-- What the library's contracts ask of the world: its own variables are as the program lays them. -/
def Env (w : World) : Prop := w.ShapedOpen Tryd.prog
theorem Env.below {w w' : World} (h : Env w) (hb : Below w.heap.size w w') : Env w' := World.ShapedOpen.keptBut h (hb.frame (fun _ => False)) (fun _ h => h.elim)

theorem bcell {W w1 : World} (hb : Below W.heap.size W w1) : (∀ b o, b < W.heap.size → w1.cell? ⟨b, o, none⟩ = W.cell? ⟨b, o, none⟩) ∧ (∀ b o, b < W.heap.size → w1.frozen? ⟨b, o, none⟩ = W.frozen? ⟨b, o, none⟩) :=
  ⟨fun b o h => hb.cell (p := ⟨b, o, none⟩) h, fun b o h => hb.frozen (p := ⟨b, o, none⟩) h⟩

theorem countB_le' (s : ByteArray) (sep : ByteArray) (h1 : 1 ≤ sep.size) : Lib.countB s sep ≤ s.size := Lib.countB_le sep h1 s.size s (Nat.le_refl _)

theorem esc_call (s : ByteArray) (w : World) (h : Env w) (hs : s.size ≤ 1000000000) :
    Calls Tryd.prog 30 #[.string s, .string ⟨#[0]⟩, .string ⟨#[0, 255]⟩] w fun e w' => e = .returned (.string ⟨(esc s.data.toList).toArray⟩) ∧ Below w.heap.size w w' := by
  have hc := countB_le' s ⟨#[0]⟩ (by decide)
  have := Tryd.strings_ReplaceAll_shaped s ⟨#[0]⟩ ⟨#[0, 255]⟩ w h (by omega) (by decide) (by simp only [show ByteArray.size ⟨#[0, 255]⟩ = 2 from rfl]; omega)
  rwa [show (⟨#[0]⟩ : ByteArray).data.toList = [0] from rfl, show (⟨#[0, 255]⟩ : ByteArray).data.toList = [0, 255] from rfl, replaceAll_esc] at this

theorem unesc_call (s : ByteArray) (w : World) (h : Env w) (hs : s.size ≤ 1000000000) :
    Calls Tryd.prog 30 #[.string s, .string ⟨#[0, 255]⟩, .string ⟨#[0]⟩] w fun e w' => e = .returned (.string ⟨(unesc s.data.toList).toArray⟩) ∧ Below w.heap.size w w' := by
  have hc := countB_le' s ⟨#[0, 255]⟩ (by decide)
  have := Tryd.strings_ReplaceAll_shaped s ⟨#[0, 255]⟩ ⟨#[0]⟩ w h (by omega) (by decide) (by simp only [show ByteArray.size ⟨#[0]⟩ = 1 from rfl]; omega)
  rwa [show (⟨#[0]⟩ : ByteArray).data.toList = [0] from rfl, show (⟨#[0, 255]⟩ : ByteArray).data.toList = [0, 255] from rfl, replaceAll_unesc] at this

/-- The eight bytes of a number, the greatest first. -/
def be8 (m : Nat) : List UInt8 := [UInt8.ofNat (m / 72057594037927936), UInt8.ofNat (m / 281474976710656), UInt8.ofNat (m / 1099511627776), UInt8.ofNat (m / 4294967296),
  UInt8.ofNat (m / 16777216), UInt8.ofNat (m / 65536), UInt8.ofNat (m / 256), UInt8.ofNat m]

/-- 2^64 - 1 - q. -/
def flip64 (q : Nat) : Nat := 18446744073709551615 - q

/-- P2.1: an entry's inner key. -/
def innerB (key : List UInt8) (rev : Nat) (del : Bool) : List UInt8 := esc key ++ [0, 1] ++ (be8 (flip64 rev) ++ [if del then 0 else 1])

theorem u8n (a : Nat) : ((UInt8.ofNat a).toNat : Int) = ((a % 256 : Nat) : Int) := by simp

theorem str9 (W w1 : World) (B m : Nat) (x : Int) (y : UInt8) (hx : (y.toNat : Int) = x) (hB : W.heap.size = B) (e : TypeId)
    (hc : ∀ j, j < 9 → w1.cell? ⟨B, j, none⟩ = (W.alloc (.cells #[.int .u8 ((m : Int) / 72057594037927936 % 256), .int .u8 ((m : Int) / 281474976710656 % 256), .int .u8 ((m : Int) / 1099511627776 % 256), .int .u8 ((m : Int) / 4294967296 % 256),
      .int .u8 ((m : Int) / 16777216 % 256), .int .u8 ((m : Int) / 65536 % 256), .int .u8 ((m : Int) / 256 % 256), .int .u8 ((m : Int) % 256), .int .u8 x] e)).cell? ⟨B, j, none⟩) :
    (convert 63 9 (.slice (some ⟨B, 0, none⟩) 9 9)).run Tryd.prog w1 = .ok (.string ⟨(be8 m ++ [y]).toArray⟩) w1 := by
  refine run_convert_bytes_back (P := Tryd.prog) w1 63 9 5 ⟨B, 0, none⟩ 9 (be8 m ++ [y]) Tryd.underlying63 Tryd.underlying5 Tryd.underlying9 ?_
  intro j hj
  subst hB
  have hj9 : j < 9 := hj
  rw [Addr.add_lit, Nat.zero_add, hc j hj9, cell_of_row _ W.heap.size j _ e (0, 0) (heap_alloc_new W _)]
  match j, hj9 with
  | 0, _ | 1, _ | 2, _ | 3, _ | 4, _ | 5, _ | 6, _ | 7, _ => simp [be8]
  | 8, _ => simp [be8, hx]

theorem str9_drew (W : World) (B m : Nat) (x : Int) (y : UInt8) (hx : (y.toNat : Int) = x) (hB : W.heap.size = B) (e : TypeId) :
    (convert 63 9 (.slice (some ⟨B, 0, none⟩) 9 9)).run Tryd.prog (W.alloc (.cells #[.int .u8 ((m : Int) / 72057594037927936 % 256), .int .u8 ((m : Int) / 281474976710656 % 256), .int .u8 ((m : Int) / 1099511627776 % 256), .int .u8 ((m : Int) / 4294967296 % 256),
      .int .u8 ((m : Int) / 16777216 % 256), .int .u8 ((m : Int) / 65536 % 256), .int .u8 ((m : Int) / 256 % 256), .int .u8 ((m : Int) % 256), .int .u8 x] e)).drew =
      .ok (.string ⟨(be8 m ++ [y]).toArray⟩) (W.alloc (.cells #[.int .u8 ((m : Int) / 72057594037927936 % 256), .int .u8 ((m : Int) / 281474976710656 % 256), .int .u8 ((m : Int) / 1099511627776 % 256), .int .u8 ((m : Int) / 4294967296 % 256),
      .int .u8 ((m : Int) / 16777216 % 256), .int .u8 ((m : Int) / 65536 % 256), .int .u8 ((m : Int) / 256 % 256), .int .u8 ((m : Int) % 256), .int .u8 x] e)).drew :=
  str9 W _ B m x y hx hB e (fun _ _ => rfl)

theorem xor_max (q : Nat) (h : U64 q) : bits BinOp.xor IntKind.u64 IntKind.u64.max (q : Int) = ((flip64 q : Nat) : Int) := by
  have hl := h.lt
  rw [show IntKind.u64.max = ((18446744073709551615 : Nat) : Int) from rfl, u64_xor_nat _ _ (by decide) hl]
  congr 1
  unfold flip64
  have e : (18446744073709551615 : Nat) ^^^ q = (BitVec.allOnes 64 ^^^ BitVec.ofNat 64 q).toNat := by
    rw [BitVec.toNat_xor, BitVec.toNat_allOnes, BitVec.toNat_ofNat, Nat.mod_eq_of_lt (by omega)]
  rw [e, BitVec.allOnes_xor, BitVec.toNat_not, BitVec.toNat_ofNat, Nat.mod_eq_of_lt (by omega)]

/-- An entry as a value. -/
def entV (k : ByteArray) (r : Nat) (d : Bool) : Value := .agg #[.string k, .int .u64 r, .bool d]

/-- It returns a value; nothing that was there has turned. -/
def RetV (v : Value) (w : World) (e : Ending) (w' : World) : Prop := e = .returned v ∧ Below w.heap.size w w'

theorem ba_append (a b : List UInt8) : (⟨a.toArray⟩ : ByteArray) ++ ⟨b.toArray⟩ = ⟨(a ++ b).toArray⟩ := by
  apply ByteArray.ext
  simp

theorem inner_str (key : List UInt8) (r m : Nat) (d : Bool) (y : UInt8) (hm : m = flip64 r) (hy : y = if d then 0 else 1) :
    (⟨(esc key).toArray⟩ : ByteArray) ++ ⟨#[0, 1]⟩ ++ ⟨(be8 m ++ [y]).toArray⟩ = ⟨(innerB key r d).toArray⟩ := by
  subst hm hy
  rw [show (⟨#[0, 1]⟩ : ByteArray) = ⟨[0, 1].toArray⟩ from rfl, ba_append, ba_append]
  rfl

set_option maxRecDepth 100000 in
set_option maxHeartbeats 800000 in
theorem inner_any (key : ByteArray) (r : Nat) (d : Bool) (w : World) (hr : U64 r) (henv : Env w) (hk : key.size ≤ 1000000000) :
    Calls Tryd.prog 22 #[entV key r d] w (RetV (.string ⟨(innerB key.data.toList r d).toArray⟩) w) := by
  unfold entV
  have hm := xor_max r hr
  obtain ⟨m, hme⟩ : ∃ m, m = flip64 r := ⟨_, rfl⟩
  rw [← hme] at hm
  have HM := Lib.hid hme
  have hesc : (esc key.data.toList).length ≤ 2000000000 := by have := esc_length key.data.toList; have h2 : key.data.toList.length = key.size := Array.length_toList; omega
  have hbe : (be8 m).length = 8 := rfl
  clear hme
  cases d
  all_goals
    go_enter Tryd.func22, Tryd.ntmps22
    go_wp2
    refine wp_loop_rounds 9 ?_
    iterate 9 (rw [rounds_succ]; go_wp2)
  · have hc0 := str9_drew (w.alloc (Obj.cells #[Value.string key, Value.int IntKind.u64 r, Value.bool false] 29)) (w.heap.size + 1) m 1 1 rfl (by simp) 69
    go_region_with (go_at_call 30; refine (esc_call _ _ (henv.below ((((Below.refl _ _).alloc (Nat.le_refl _) _).alloc (by simp) _).drew)) (by omega)).mono ?_; rintro e w1 ⟨rfl, hb1⟩; have hc1 := str9 (w.alloc (Obj.cells #[Value.string key, Value.int IntKind.u64 r, Value.bool false] 29)) w1 (w.heap.size + 1) m 1 1 rfl (by simp) 69 (fun j _ => hb1.cell (p := ⟨w.heap.size + 1, j, none⟩) (by simp)))
    all_goals (go_wp2; go_ret; refine ⟨congrArg (fun s => Ending.returned (Value.string s)) (inner_str key.data.toList r m false 1 HM.out rfl), ?_⟩; exact ((((Below.refl _ _).alloc (Nat.le_refl _) _).alloc (by simp) _).drew).trans (hb1.mono (by simp; omega)))
  · have hc0 := str9_drew (w.alloc (Obj.cells #[Value.string key, Value.int IntKind.u64 r, Value.bool true] 29)) (w.heap.size + 1) m 0 0 rfl (by simp) 69
    go_region_with (go_at_call 30; refine (esc_call _ _ (henv.below ((((Below.refl _ _).alloc (Nat.le_refl _) _).alloc (by simp) _).drew)) (by omega)).mono ?_; rintro e w1 ⟨rfl, hb1⟩; have hc1 := str9 (w.alloc (Obj.cells #[Value.string key, Value.int IntKind.u64 r, Value.bool true] 29)) w1 (w.heap.size + 1) m 0 0 rfl (by simp) 69 (fun j _ => hb1.cell (p := ⟨w.heap.size + 1, j, none⟩) (by simp)))
    all_goals (go_wp2; go_ret; refine ⟨congrArg (fun s => Ending.returned (Value.string s)) (inner_str key.data.toList r m true 0 HM.out rfl), ?_⟩; exact ((((Below.refl _ _).alloc (Nat.le_refl _) _).alloc (by simp) _).drew).trans (hb1.mono (by simp; omega)))

end Go.Proofs.YtcglegipdlaoiaaDoor
