import Derived.Shelf.Small.Bits
import Derived.Shelf.Strconv.Itoa0
import Derived.Ground.SlgnProg
import Derived.Ground.SlsfProg
import Derived.Shelf.SlSortCmp.Xorshift
import Derived.Shelf.SlicesE.Index
import Derived.Shelf.SlicesE.Compact
import Derived.Test.YtaaijgalminafaaProg
/-
  DERIVED: THE SHELF's CONTRACTS AT THIS DUMP, IN PLAIN WORDS (tools/lay-plain.mjs out of 'TryShelf.lean', which tools/lay-shelf.mjs wrote): THE SAME DECLARATIONS UNDER THE SAME NAMES: 'import', 'namespace', 'open', 'def', 'theorem' AND NOTHING ELSE: no command of the shelf's: FOR A HAND-IN. Each laying: the table of numbers ('.._ren') and one theorem, a field a fact of the dump's own or the kernel's comparison; each contract: ONE APPLICATION.
-/
namespace Go.Proofs
open Go.Shelf
def Try.lays128_ren : Go.Shelf.Ren := ⟨fun | 128 => 62 | n => n, fun | 51 => 25 | 3 => 3 | 4 => 4 | 46 => 101 | 5 => 5 | 9 => 9 | n => n, fun | n => n⟩
theorem Try.lays128 : Go.Proofs.Lays.n128 Try.prog Try.lays128_ren := {
  mixed := by kernel_rfl
  f128 := Try.func62.trans (congrArg some (by kernel_rfl))
  t3 := Try.underlying3
  a3 := Try.isAgg3
  z3 := Try.sizeOf3
  v3 := Try.zeroValue3
  t4 := Try.underlying4
  a4 := Try.isAgg4
  z4 := Try.sizeOf4
  v4 := Try.zeroValue4
  t5 := Try.underlying5
  a5 := Try.isAgg5
  z5 := Try.sizeOf5
  v5 := Try.zeroValue5
  t9 := Try.underlying9
  a9 := Try.isAgg9
  z9 := Try.sizeOf9
  v9 := Try.zeroValue9
  t46 := Try.underlying101
  a46 := Try.isAgg101
  z46 := Try.sizeOf101
  v46 := Try.zeroValue101
  t51 := Try.underlying25
  a51 := Try.isAgg25
  z51 := Try.sizeOf25
  v51 := Try.zeroValue25 }
/-- bits.Len32: "Len32 returns the minimum number of bits required to represent x; the result is 0 for x == 0.": IT RETURNS 'Lib.bitLen x'; the world is as it was. ('h0', 'h1': x is a uint32.) (LAID: no walk: one application.) -/
theorem Try.bits_Len32 (x : Int) (w : World) (h0 : 0 ≤ x) (h1 : x ≤ 4294967295) :
    Calls Try.prog 62 #[.int .u32 x] w fun e w' => e = .returned (.int .i64 (Lib.bitLen x.toNat)) ∧ w' = w := Any.bits_Len32 Try.lays128 x w h0 h1
def Try.lays125_ren : Go.Shelf.Ren := ⟨fun | 125 => 44 | 128 => 62 | 129 => 63 | n => n, fun | 46 => 101 | 3 => 3 | 51 => 25 | 53 => 43 | 4 => 4 | 5 => 5 | 9 => 9 | n => n, fun | n => n⟩
theorem Try.lays125 : Go.Proofs.Lays.n125 Try.prog Try.lays125_ren := {
  mixed := by kernel_rfl
  f125 := Try.func44.trans (congrArg some (by kernel_rfl))
  f128 := Try.func62.trans (congrArg some (by kernel_rfl))
  f129 := Try.func63.trans (congrArg some (by kernel_rfl))
  t3 := Try.underlying3
  a3 := Try.isAgg3
  z3 := Try.sizeOf3
  v3 := Try.zeroValue3
  t4 := Try.underlying4
  a4 := Try.isAgg4
  z4 := Try.sizeOf4
  v4 := Try.zeroValue4
  t5 := Try.underlying5
  a5 := Try.isAgg5
  z5 := Try.sizeOf5
  v5 := Try.zeroValue5
  t9 := Try.underlying9
  a9 := Try.isAgg9
  z9 := Try.sizeOf9
  v9 := Try.zeroValue9
  t46 := Try.underlying101
  a46 := Try.isAgg101
  z46 := Try.sizeOf101
  v46 := Try.zeroValue101
  t51 := Try.underlying25
  a51 := Try.isAgg25
  z51 := Try.sizeOf25
  v51 := Try.zeroValue25
  t53 := Try.underlying43
  a53 := Try.isAgg43
  z53 := Try.sizeOf43
  v53 := Try.zeroValue43 }
/-- bits.Len: "Len returns the minimum number of bits required to represent x; the result is 0 for x == 0.": IT RETURNS 'Lib.bitLen x'; the world is as it was. (A uint has 64 bits in the model.) ITS CALLEE bits.Len64 IS MET BY ITS OWN CONTRACT OFF THE SHELF (lay that first). (LAID: no walk: one application.) -/
theorem Try.bits_Len (x : Int) (w : World) (h0 : 0 ≤ x) (h1 : x ≤ 18446744073709551615) :
    Calls Try.prog 44 #[.int .u64 x] w fun e w' => e = .returned (.int .i64 (Lib.bitLen x.toNat)) ∧ w' = w := Any.bits_Len Try.lays125 x w h0 h1
def Try.lays129_ren : Go.Shelf.Ren := ⟨fun | 129 => 63 | n => n, fun | 53 => 43 | 3 => 3 | 4 => 4 | 46 => 101 | 5 => 5 | 9 => 9 | n => n, fun | n => n⟩
theorem Try.lays129 : Go.Proofs.Lays.n129 Try.prog Try.lays129_ren := {
  mixed := by kernel_rfl
  f129 := Try.func63.trans (congrArg some (by kernel_rfl))
  t3 := Try.underlying3
  a3 := Try.isAgg3
  z3 := Try.sizeOf3
  v3 := Try.zeroValue3
  t4 := Try.underlying4
  a4 := Try.isAgg4
  z4 := Try.sizeOf4
  v4 := Try.zeroValue4
  t5 := Try.underlying5
  a5 := Try.isAgg5
  z5 := Try.sizeOf5
  v5 := Try.zeroValue5
  t9 := Try.underlying9
  a9 := Try.isAgg9
  z9 := Try.sizeOf9
  v9 := Try.zeroValue9
  t46 := Try.underlying101
  a46 := Try.isAgg101
  z46 := Try.sizeOf101
  v46 := Try.zeroValue101
  t53 := Try.underlying43
  a53 := Try.isAgg43
  z53 := Try.sizeOf43
  v53 := Try.zeroValue43 }
/-- bits.Len64: "Len64 returns the minimum number of bits required to represent x; the result is 0 for x == 0.": IT RETURNS 'Lib.bitLen x'; the world is as it was. ('h0', 'h1': x is a uint64.) (LAID: no walk: one application.) -/
theorem Try.bits_Len64 (x : Int) (w : World) (h0 : 0 ≤ x) (h1 : x ≤ 18446744073709551615) :
    Calls Try.prog 63 #[.int .u64 x] w fun e w' => e = .returned (.int .i64 (Lib.bitLen x.toNat)) ∧ w' = w := Any.bits_Len64 Try.lays129 x w h0 h1
def Try.laysSlE29_f45_ren : Go.Shelf.Ren := ⟨fun | 29 => 45 | n => n, fun | 22 => 22 | 23 => 25 | 3 => 3 | 0 => 0 | 4 => 4 | n => n, fun | n => n⟩
theorem Try.laysSlE29_f45 : Go.Proofs.SlLaysE.n29 Try.prog Try.laysSlE29_f45_ren := {
  mixed := by kernel_rfl
  f29 := ⟨Try.f45.name, by decide, Try.func45.trans (congrArg some (by kernel_rfl))⟩
  t0 := Try.underlying0
  a0 := Try.isAgg0
  z0 := Try.sizeOf0
  v0 := Try.zeroValue0
  t3 := Try.underlying3
  a3 := Try.isAgg3
  z3 := Try.sizeOf3
  v3 := Try.zeroValue3
  t4 := Try.underlying4
  a4 := Try.isAgg4
  z4 := Try.sizeOf4
  v4 := Try.zeroValue4
  t22 := Try.underlying22
  a22 := Try.isAgg22
  z22 := Try.sizeOf22
  v22 := Try.zeroValue22
  a23 := Try.isAgg25
  z23 := Try.sizeOf25 }
open Go.Lib in
/-- slices.Index: "Index returns the index of the first occurrence of v in s, or -1 if not present.": IT RETURNS 'Lib.idxBy eq (the elements) v'; the world is as it was. 'zs': what the cells behind the slice's address hold (its spare capacity too, if you have it); 'zs.take n': its elements. (LAID AT THE INSTANCE 'slices.Index[[]uint32,uint32]': no walk: one application.) -/
theorem Try.slices_Index {α : Type} [Inhabited α] (enc : α → Value) (eq : α → α → Bool) (heq : EqlAt Try.prog 25 enc eq) (b off n c : Nat) (zs : List α) (x : α) (w : World) (hz : n ≤ zs.length) (hbig : n ≤ 9223372036854775807) (hc : ∀ j, j < zs.length → w.cell? ⟨b, off + j, none⟩ = some (enc zs[j]!)) :
    Calls Try.prog 45 #[.slice (some ⟨b, off, none⟩) n c, enc x] w fun e w' => e = .returned (.int .i64 (Lib.idxBy eq (zs.take n) x)) ∧ w' = w := AnyE.slices_Index Try.laysSlE29_f45 enc eq heq b off n c zs x w hz hbig hc
open Go.Lib in
/-- The same at a slice of length 0, a nil one too: no cell is known, none is asked for; nothing is asked of '=='. (LAID AT THE INSTANCE 'slices.Index[[]uint32,uint32]': no walk: one application.) -/
theorem Try.slices_Index_empty {α : Type} [Inhabited α] (a : Option Addr) (c : Nat) (xv : Value) (w : World) :
    Calls Try.prog 45 #[.slice a 0 c, xv] w fun e w' => e = .returned (.int .i64 (-1)) ∧ w' = w := AnyE.slices_Index_empty Try.laysSlE29_f45 a c xv w
def Try.laysSlE31_f29_ren : Go.Shelf.Ren := ⟨fun | 31 => 29 | 29 => 45 | n => n, fun | 22 => 22 | 23 => 25 | 4 => 4 | 3 => 3 | 0 => 0 | n => n, fun | n => n⟩
theorem Try.laysSlE31_f29 : Go.Proofs.SlLaysE.n31 Try.prog Try.laysSlE31_f29_ren := {
  mixed := by kernel_rfl
  f29 := ⟨Try.f45.name, by decide, Try.func45.trans (congrArg some (by kernel_rfl))⟩
  f31 := ⟨Try.f29.name, by decide, Try.func29.trans (congrArg some (by kernel_rfl))⟩
  t0 := Try.underlying0
  a0 := Try.isAgg0
  z0 := Try.sizeOf0
  v0 := Try.zeroValue0
  t3 := Try.underlying3
  a3 := Try.isAgg3
  z3 := Try.sizeOf3
  v3 := Try.zeroValue3
  t4 := Try.underlying4
  a4 := Try.isAgg4
  z4 := Try.sizeOf4
  v4 := Try.zeroValue4
  t22 := Try.underlying22
  a22 := Try.isAgg22
  z22 := Try.sizeOf22
  v22 := Try.zeroValue22
  a23 := Try.isAgg25
  z23 := Try.sizeOf25 }
open Go.Lib in
/-- slices.Contains: "Contains reports whether v is present in s.": IT RETURNS 'elements.any (eq v ·)'; the world is as it was. ITS CALLEE slices.Index IS MET BY ITS OWN CONTRACT: no loop is walked here. (LAID AT THE INSTANCE 'slices.Contains[[]uint32,uint32]': no walk: one application.) -/
theorem Try.slices_Contains {α : Type} [Inhabited α] (enc : α → Value) (eq : α → α → Bool) (heq : EqlAt Try.prog 25 enc eq) (b off n c : Nat) (zs : List α) (x : α) (w : World) (hz : n ≤ zs.length) (hbig : n ≤ 9223372036854775807) (hc : ∀ j, j < zs.length → w.cell? ⟨b, off + j, none⟩ = some (enc zs[j]!)) :
    Calls Try.prog 29 #[.slice (some ⟨b, off, none⟩) n c, enc x] w fun e w' => e = .returned (.bool ((zs.take n).any fun y => eq x y)) ∧ w' = w := AnyE.slices_Contains Try.laysSlE31_f29 enc eq heq b off n c zs x w hz hbig hc
open Go.Lib in
/-- The same at a slice of length 0, a nil one too. (LAID AT THE INSTANCE 'slices.Contains[[]uint32,uint32]': no walk: one application.) -/
theorem Try.slices_Contains_empty {α : Type} [Inhabited α] (a : Option Addr) (c : Nat) (xv : Value) (w : World) :
    Calls Try.prog 29 #[.slice a 0 c, xv] w fun e w' => e = .returned (.bool false) ∧ w' = w := AnyE.slices_Contains_empty Try.laysSlE31_f29 a c xv w
def Try.laysSlE43_f28_ren : Go.Shelf.Ren := ⟨fun | 43 => 28 | n => n, fun | 22 => 22 | 23 => 25 | 3 => 3 | 4 => 4 | 0 => 0 | n => n, fun | n => n⟩
theorem Try.laysSlE43_f28 : Go.Proofs.SlLaysE.n43 Try.prog Try.laysSlE43_f28_ren := {
  mixed := by kernel_rfl
  f43 := ⟨Try.f28.name, by decide, Try.func28.trans (congrArg some (by kernel_rfl))⟩
  t0 := Try.underlying0
  a0 := Try.isAgg0
  z0 := Try.sizeOf0
  v0 := Try.zeroValue0
  t3 := Try.underlying3
  a3 := Try.isAgg3
  z3 := Try.sizeOf3
  v3 := Try.zeroValue3
  t4 := Try.underlying4
  a4 := Try.isAgg4
  z4 := Try.sizeOf4
  v4 := Try.zeroValue4
  t22 := Try.underlying22
  a22 := Try.isAgg22
  z22 := Try.sizeOf22
  v22 := Try.zeroValue22
  a23 := Try.isAgg25
  z23 := Try.sizeOf25 }
open Go.RowKit Go.Lib Go.Sort in
/-- slices.Compact: "Compact replaces consecutive runs of equal elements with a single copy. .. Compact zeroes the elements between the new length and the original length.": IT RETURNS THE SLICE CUT TO 'compactUpTo d d.size'; ITS CELLS HOLD THAT, THEN ZERO VALUES up to the old length; the library's two loops are walked. (LAID AT THE INSTANCE 'slices.Compact[[]uint32,uint32]': no walk: one application.) -/
theorem Try.slices_Compact {α : Type} [Inhabited α] [DecidableEq α] (enc : α → Value) (hO : OneCell enc) (heq : EqlAt Try.prog 25 enc (fun x y => decide (x = y))) (hne : NeqAt Try.prog 25 enc (fun x y => decide (x = y))) (zr : α) (v23 : ∀ w, (zeroValue 25).run Try.prog w = .ok (enc zr) w) (blk off cap : Nat) (d : Array α) (w : World) (hH : Holds enc w blk off d) (hsz : d.size ≤ 9223372036854775807) (hcap : d.size ≤ cap) :
    Calls Try.prog 28 #[.slice (some ⟨blk, off, none⟩) d.size cap] w fun e w' => e = .returned (.slice (some ⟨blk, off, none⟩) (compactUpTo d d.size).length cap) ∧ ∃ q, w' = putRow enc (Sort.ahead w q) blk off (compactUpTo d d.size ++ List.replicate (d.size - (compactUpTo d d.size).length) zr).toArray := AnyE.slices_Compact Try.laysSlE43_f28 enc hO heq hne zr v23 blk off cap d w hH hsz hcap
def Try.laysX48_ren : Go.Shelf.Ren := ⟨fun | 48 => 70 | n => n, fun | 76 => 147 | 55 => 43 | 0 => 0 | 66 => 137 | 39 => 101 | n => n, fun | n => n⟩
theorem Try.laysX48 : Go.Proofs.SlLaysF0.n48 Try.prog Try.laysX48_ren := {
  mixed := by kernel_rfl
  f48 := Try.func70.trans (congrArg some (by kernel_rfl))
  t0 := Try.underlying0
  a0 := Try.isAgg0
  z0 := Try.sizeOf0
  v0 := Try.zeroValue0
  t39 := Try.underlying101
  a39 := Try.isAgg101
  z39 := Try.sizeOf101
  v39 := Try.zeroValue101
  t55 := Try.underlying43
  a55 := Try.isAgg43
  z55 := Try.sizeOf43
  v55 := Try.zeroValue43
  t66 := Try.underlying137
  a66 := Try.isAgg137
  z66 := Try.sizeOf137
  v66 := Try.zeroValue137
  t76 := Try.underlying147
  a76 := Try.isAgg147
  z76 := Try.sizeOf147
  v76 := Try.zeroValue147 }
theorem Try.xorshift_Next (rb ro X : Nat) (hX : X < 18446744073709551616) (w : World) (hc : w.cell? ⟨rb, ro, none⟩ = some (.int .u64 X)) (hf : w.frozen? ⟨rb, ro, none⟩ = false) :
    Calls Try.prog 70 #[.pointer (some ⟨rb, ro, none⟩)] w fun e w' => e = .returned (.int .u64 (Sort.xorNextN X : Nat)) ∧ w' = (w.setCell ⟨rb, ro, none⟩ (.int .u64 (Sort.xorNextN X : Nat))).drewN 3 := AnyF.xorshift_Next Try.laysX48 rb ro X hX w hc hf
def Try.laysX47_ren : Go.Shelf.Ren := ⟨fun | 47 => 69 | 15 => 44 | 28 => 62 | 29 => 63 | n => n, fun | 3 => 3 | 39 => 101 | 53 => 25 | 55 => 43 | 4 => 4 | 5 => 5 | 9 => 9 | n => n, fun | n => n⟩
theorem Try.laysX47 : Go.Proofs.SlLaysF0.n47 Try.prog Try.laysX47_ren := {
  mixed := by kernel_rfl
  f15 := Try.func44.trans (congrArg some (by kernel_rfl))
  f28 := Try.func62.trans (congrArg some (by kernel_rfl))
  f29 := Try.func63.trans (congrArg some (by kernel_rfl))
  f47 := Try.func69.trans (congrArg some (by kernel_rfl))
  t3 := Try.underlying3
  a3 := Try.isAgg3
  z3 := Try.sizeOf3
  v3 := Try.zeroValue3
  t4 := Try.underlying4
  a4 := Try.isAgg4
  z4 := Try.sizeOf4
  v4 := Try.zeroValue4
  t5 := Try.underlying5
  a5 := Try.isAgg5
  z5 := Try.sizeOf5
  v5 := Try.zeroValue5
  t9 := Try.underlying9
  a9 := Try.isAgg9
  z9 := Try.sizeOf9
  v9 := Try.zeroValue9
  t39 := Try.underlying101
  a39 := Try.isAgg101
  z39 := Try.sizeOf101
  v39 := Try.zeroValue101
  t53 := Try.underlying25
  a53 := Try.isAgg25
  z53 := Try.sizeOf25
  v53 := Try.zeroValue25
  t55 := Try.underlying43
  a55 := Try.isAgg43
  z55 := Try.sizeOf43
  v55 := Try.zeroValue43 }
theorem Try.nextPowerOfTwo (n : Nat) (hn : n < 4611686018427387904) (w : World) :
    Calls Try.prog 69 #[.int .i64 n] w fun e w' => e = .returned (.int .u64 ((1 <<< Sort.bitsLen n : Nat) : Int)) ∧ w' = w := AnyF.nextPowerOfTwo Try.laysX47 n hn w
end Go.Proofs
