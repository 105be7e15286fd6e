/-
  No cell of these rows narrows 'for every input' (looked for: loops, veiled, ifaces, maps, wideKeys, modest, calm, conditions, laid).
  DERIVED. THE GIVEN ROWS OF THIS SEAT. 8 by the template 'for every input the law returns true; each argument reads behind the call as it read before'; 0 by the template 'total and deterministic' (their statements: YtolhjdhbcggidaaTotals.lean).
  GIVEN WITH THE SEED: the statements are not yours to turn. If you find one false, say at which input.
  Laid BY PROGRAM, IN A SANDBOX (cutbox-rows.mjs): the forced cells as the released guide's own fill.sh prints them over the translation 150593c9a4216aaf… (all of the seat's roots in one cut). By AI agents, Wed Nov 11 2026. No macro, syntax, notation, axiom, sorry.
-/
import Derived.Test.YtolhjdhbcggidaaChecked
import GoSem.Claim
import GoSem.ClaimJoined
import GoSem.ClaimMapViews
import Derived.JoinedTies
import Derived.KernelRfl
namespace Go.Proofs.Ytolhjdhbcggidaa
/- THE CELL 'sum', in the pinned program and in every row, IS THE sha256 OF THE DUMP (.gsa) THAT YtolhjdhbcggidaaProg.lean LOADS. Nothing in Lean hashes anything: it is a label: what it is worth is what the hold of that sum in a sandbox is worth. -/
noncomputable def Try.pinned : Pinned := { name := "ytolhjdhbcggidaa", sum := "150593c9a4216aaf6401de7ad89de6b05037ca3f11c259edf55d2fb27acca762", checked := Try.checked }
namespace Rows
def none {H : Type} : Left H := { results := [], args := [] }

/-- 'lacunalaw02.BitmapUnpacks': WHATEVER THE INPUT: true; the input reads as it did. -/
def bitmapUnpacksSpec : ChangeSpec := { name := "bitmapUnpacks", fn := fun _ => fun
  | [d1, d2] => { results := [.lit (.bool true)], args := [d1, d2] }
  | _ => none }
def bitmapUnpacksRow : OpenClaim := { program := "ytolhjdhbcggidaa", sum := "150593c9a4216aaf6401de7ad89de6b05037ca3f11c259edf55d2fb27acca762", func := "lacuna/lacunalaw02.BitmapUnpacks", spec := "bitmapUnpacks", apart := false }
def BitmapUnpacksSaid : Prop := bitmapUnpacksRow.holds Try.pinned (OpenSpec.ofChange bitmapUnpacksSpec)

/-- ITS FALSE NEIGHBOUR: 'it returns false'. Refute it at one input. -/
def bitmapUnpacksWrong : ChangeSpec := { name := "bitmapUnpacks", fn := fun _ => fun
  | [d1, d2] => { results := [.lit (.bool false)], args := [d1, d2] }
  | _ => none }
def BitmapUnpacksWrongFalsely : Prop := bitmapUnpacksRow.holds Try.pinned (OpenSpec.ofChange bitmapUnpacksWrong)

/-- 'lacunalaw02.BitmapBack': WHATEVER THE INPUT: true; the input reads as it did. -/
def bitmapBackSpec : ChangeSpec := { name := "bitmapBack", fn := fun _ => fun
  | [d1, d2, d3] => { results := [.lit (.bool true)], args := [d1, d2, d3] }
  | _ => none }
def bitmapBackRow : OpenClaim := { program := "ytolhjdhbcggidaa", sum := "150593c9a4216aaf6401de7ad89de6b05037ca3f11c259edf55d2fb27acca762", func := "lacuna/lacunalaw02.BitmapBack", spec := "bitmapBack", apart := false }
def BitmapBackSaid : Prop := bitmapBackRow.holds Try.pinned (OpenSpec.ofChange bitmapBackSpec)

/-- ITS FALSE NEIGHBOUR: 'it returns false'. Refute it at one input. -/
def bitmapBackWrong : ChangeSpec := { name := "bitmapBack", fn := fun _ => fun
  | [d1, d2, d3] => { results := [.lit (.bool false)], args := [d1, d2, d3] }
  | _ => none }
def BitmapBackWrongFalsely : Prop := bitmapBackRow.holds Try.pinned (OpenSpec.ofChange bitmapBackWrong)

/-- 'lacunalaw02.BitmapPacks': WHATEVER THE INPUT: true; the input reads as it did. -/
def bitmapPacksSpec : ChangeSpec := { name := "bitmapPacks", fn := fun _ => fun
  | [d] => { results := [.lit (.bool true)], args := [d] }
  | _ => none }
def bitmapPacksRow : OpenClaim := { program := "ytolhjdhbcggidaa", sum := "150593c9a4216aaf6401de7ad89de6b05037ca3f11c259edf55d2fb27acca762", func := "lacuna/lacunalaw02.BitmapPacks", spec := "bitmapPacks", apart := false }
def BitmapPacksSaid : Prop := bitmapPacksRow.holds Try.pinned (OpenSpec.ofChange bitmapPacksSpec)

/-- ITS FALSE NEIGHBOUR: 'it returns false'. Refute it at one input. -/
def bitmapPacksWrong : ChangeSpec := { name := "bitmapPacks", fn := fun _ => fun
  | [d] => { results := [.lit (.bool false)], args := [d] }
  | _ => none }
def BitmapPacksWrongFalsely : Prop := bitmapPacksRow.holds Try.pinned (OpenSpec.ofChange bitmapPacksWrong)

/-- 'lacunalaw02.BitmapApart': WHATEVER THE INPUT: true; the input reads as it did. -/
def bitmapApartSpec : ChangeSpec := { name := "bitmapApart", fn := fun _ => fun
  | [d1, d2] => { results := [.lit (.bool true)], args := [d1, d2] }
  | _ => none }
def bitmapApartRow : OpenClaim := { program := "ytolhjdhbcggidaa", sum := "150593c9a4216aaf6401de7ad89de6b05037ca3f11c259edf55d2fb27acca762", func := "lacuna/lacunalaw02.BitmapApart", spec := "bitmapApart", apart := false }
def BitmapApartSaid : Prop := bitmapApartRow.holds Try.pinned (OpenSpec.ofChange bitmapApartSpec)

/-- ITS FALSE NEIGHBOUR: 'it returns false'. Refute it at one input. -/
def bitmapApartWrong : ChangeSpec := { name := "bitmapApart", fn := fun _ => fun
  | [d1, d2] => { results := [.lit (.bool false)], args := [d1, d2] }
  | _ => none }
def BitmapApartWrongFalsely : Prop := bitmapApartRow.holds Try.pinned (OpenSpec.ofChange bitmapApartWrong)

/-- 'lacunalaw11.ChunkSplits': WHATEVER THE INPUT: true; the input reads as it did. -/
def chunkSplitsSpec : ChangeSpec := { name := "chunkSplits", fn := fun _ => fun
  | [d1, d2, d3] => { results := [.lit (.bool true)], args := [d1, d2, d3] }
  | _ => none }
def chunkSplitsRow : OpenClaim := { program := "ytolhjdhbcggidaa", sum := "150593c9a4216aaf6401de7ad89de6b05037ca3f11c259edf55d2fb27acca762", func := "lacuna/lacunalaw11.ChunkSplits", spec := "chunkSplits", inPlace := ["internal/abi.NoEscape", "internal/bytealg.MakeNoZero"], unfollowed := true, recurses := true, apart := false }
def ChunkSplitsSaid : Prop := chunkSplitsRow.holds Try.pinned (OpenSpec.ofChange chunkSplitsSpec)

/-- ITS FALSE NEIGHBOUR: 'it returns false'. Refute it at one input. -/
def chunkSplitsWrong : ChangeSpec := { name := "chunkSplits", fn := fun _ => fun
  | [d1, d2, d3] => { results := [.lit (.bool false)], args := [d1, d2, d3] }
  | _ => none }
def ChunkSplitsWrongFalsely : Prop := chunkSplitsRow.holds Try.pinned (OpenSpec.ofChange chunkSplitsWrong)

/-- 'lacunalaw11.ChunkShort': WHATEVER THE INPUT: true; the input reads as it did. -/
def chunkShortSpec : ChangeSpec := { name := "chunkShort", fn := fun _ => fun
  | [d] => { results := [.lit (.bool true)], args := [d] }
  | _ => none }
def chunkShortRow : OpenClaim := { program := "ytolhjdhbcggidaa", sum := "150593c9a4216aaf6401de7ad89de6b05037ca3f11c259edf55d2fb27acca762", func := "lacuna/lacunalaw11.ChunkShort", spec := "chunkShort", inPlace := ["internal/abi.NoEscape", "internal/bytealg.MakeNoZero"], unfollowed := true, recurses := true, apart := false }
def ChunkShortSaid : Prop := chunkShortRow.holds Try.pinned (OpenSpec.ofChange chunkShortSpec)

/-- ITS FALSE NEIGHBOUR: 'it returns false'. Refute it at one input. -/
def chunkShortWrong : ChangeSpec := { name := "chunkShort", fn := fun _ => fun
  | [d] => { results := [.lit (.bool false)], args := [d] }
  | _ => none }
def ChunkShortWrongFalsely : Prop := chunkShortRow.holds Try.pinned (OpenSpec.ofChange chunkShortWrong)

/-- 'lacunalaw11.ChunkJoins': WHATEVER THE INPUT: true; the input reads as it did. -/
def chunkJoinsSpec : ChangeSpec := { name := "chunkJoins", fn := fun _ => fun
  | [d1, d2] => { results := [.lit (.bool true)], args := [d1, d2] }
  | _ => none }
def chunkJoinsRow : OpenClaim := { program := "ytolhjdhbcggidaa", sum := "150593c9a4216aaf6401de7ad89de6b05037ca3f11c259edf55d2fb27acca762", func := "lacuna/lacunalaw11.ChunkJoins", spec := "chunkJoins", inPlace := ["internal/abi.NoEscape", "internal/bytealg.MakeNoZero"], unfollowed := true, recurses := true, apart := false }
def ChunkJoinsSaid : Prop := chunkJoinsRow.holds Try.pinned (OpenSpec.ofChange chunkJoinsSpec)

/-- ITS FALSE NEIGHBOUR: 'it returns false'. Refute it at one input. -/
def chunkJoinsWrong : ChangeSpec := { name := "chunkJoins", fn := fun _ => fun
  | [d1, d2] => { results := [.lit (.bool false)], args := [d1, d2] }
  | _ => none }
def ChunkJoinsWrongFalsely : Prop := chunkJoinsRow.holds Try.pinned (OpenSpec.ofChange chunkJoinsWrong)

/-- 'lacunalaw11.ChunkBack': WHATEVER THE INPUT: true; the input reads as it did. -/
def chunkBackSpec : ChangeSpec := { name := "chunkBack", fn := fun _ => fun
  | [d1, d2] => { results := [.lit (.bool true)], args := [d1, d2] }
  | _ => none }
def chunkBackRow : OpenClaim := { program := "ytolhjdhbcggidaa", sum := "150593c9a4216aaf6401de7ad89de6b05037ca3f11c259edf55d2fb27acca762", func := "lacuna/lacunalaw11.ChunkBack", spec := "chunkBack", inPlace := ["internal/abi.NoEscape", "internal/bytealg.MakeNoZero"], unfollowed := true, recurses := true, apart := false }
def ChunkBackSaid : Prop := chunkBackRow.holds Try.pinned (OpenSpec.ofChange chunkBackSpec)

/-- ITS FALSE NEIGHBOUR: 'it returns false'. Refute it at one input. -/
def chunkBackWrong : ChangeSpec := { name := "chunkBack", fn := fun _ => fun
  | [d1, d2] => { results := [.lit (.bool false)], args := [d1, d2] }
  | _ => none }
def ChunkBackWrongFalsely : Prop := chunkBackRow.holds Try.pinned (OpenSpec.ofChange chunkBackWrong)

/- THE SECOND FORM. 'bulk': how many values and letters a reading holds, each counted each time it is reached (what is shared counts as often as it is met; a slice's spare places count too). A statement '..UptoSaid' is the law's where the arguments, and the package variables that the reading takes, are together of bulk at most 1048576: NARROWER than '..Said'. Prove '..Said' where nothing that the law and all that it calls make is longer than what came in: it says more and counts as full. Else prove '..UptoSaid'. A law counts once. -/
mutual
def uptoBulk {H : Type} : DataW H → Nat
  | .lit (.string bytes) => bytes.length + 1
  | .lit _ => 1
  | .nil => 1
  | .ptr d => uptoBulk d + 1
  | .slice elems spare => uptoBulkAll elems + uptoBulkAll spare + 1
  | .agg parts => uptoBulkAll parts + 1
  | .iface _ d => uptoBulk d + 1
  | .map entries => uptoBulkEntries entries + 1
  | .held _ => 1
def uptoBulkAll {H : Type} : List (DataW H) → Nat
  | [] => 0
  | d :: r => uptoBulk d + uptoBulkAll r
def uptoBulkEntries {H : Type} : List (Lit × DataW H) → Nat
  | [] => 0
  | x :: r => uptoBulkEntry x + uptoBulkEntries r
def uptoBulkEntry {H : Type} : Lit × DataW H → Nat
  | (.string bytes, d) => bytes.length + uptoBulk d + 1
  | (_, d) => uptoBulk d + 1
 end
def uptoSmall : (H : Type) → List (DataW H) → Bool := fun _ ds => decide (uptoBulkAll ds ≤ 1048576)
def OpenSpec.upto (s : _root_.Go.ChangeSpec) : _root_.Go.OpenSpec := { _root_.Go.OpenSpec.ofChange s with cond := some uptoSmall }

/-- 'lacunalaw02.BitmapUnpacks', WHERE WHAT IT READS IS OF BULK AT MOST 1048576: true; the input reads as it did. -/
def bitmapUnpacksUptoRow : OpenClaim := { program := "ytolhjdhbcggidaa", sum := "150593c9a4216aaf6401de7ad89de6b05037ca3f11c259edf55d2fb27acca762", func := "lacuna/lacunalaw02.BitmapUnpacks", spec := "bitmapUnpacks", apart := false, narrowed := true }
def BitmapUnpacksUptoSaid : Prop := bitmapUnpacksUptoRow.holds Try.pinned (OpenSpec.upto bitmapUnpacksSpec)

/-- 'lacunalaw02.BitmapBack', WHERE WHAT IT READS IS OF BULK AT MOST 1048576: true; the input reads as it did. -/
def bitmapBackUptoRow : OpenClaim := { program := "ytolhjdhbcggidaa", sum := "150593c9a4216aaf6401de7ad89de6b05037ca3f11c259edf55d2fb27acca762", func := "lacuna/lacunalaw02.BitmapBack", spec := "bitmapBack", apart := false, narrowed := true }
def BitmapBackUptoSaid : Prop := bitmapBackUptoRow.holds Try.pinned (OpenSpec.upto bitmapBackSpec)

/-- 'lacunalaw02.BitmapPacks', WHERE WHAT IT READS IS OF BULK AT MOST 1048576: true; the input reads as it did. -/
def bitmapPacksUptoRow : OpenClaim := { program := "ytolhjdhbcggidaa", sum := "150593c9a4216aaf6401de7ad89de6b05037ca3f11c259edf55d2fb27acca762", func := "lacuna/lacunalaw02.BitmapPacks", spec := "bitmapPacks", apart := false, narrowed := true }
def BitmapPacksUptoSaid : Prop := bitmapPacksUptoRow.holds Try.pinned (OpenSpec.upto bitmapPacksSpec)

/-- 'lacunalaw02.BitmapApart', WHERE WHAT IT READS IS OF BULK AT MOST 1048576: true; the input reads as it did. -/
def bitmapApartUptoRow : OpenClaim := { program := "ytolhjdhbcggidaa", sum := "150593c9a4216aaf6401de7ad89de6b05037ca3f11c259edf55d2fb27acca762", func := "lacuna/lacunalaw02.BitmapApart", spec := "bitmapApart", apart := false, narrowed := true }
def BitmapApartUptoSaid : Prop := bitmapApartUptoRow.holds Try.pinned (OpenSpec.upto bitmapApartSpec)

/-- 'lacunalaw11.ChunkSplits', WHERE WHAT IT READS IS OF BULK AT MOST 1048576: true; the input reads as it did. -/
def chunkSplitsUptoRow : OpenClaim := { program := "ytolhjdhbcggidaa", sum := "150593c9a4216aaf6401de7ad89de6b05037ca3f11c259edf55d2fb27acca762", func := "lacuna/lacunalaw11.ChunkSplits", spec := "chunkSplits", inPlace := ["internal/abi.NoEscape", "internal/bytealg.MakeNoZero"], unfollowed := true, recurses := true, apart := false, narrowed := true }
def ChunkSplitsUptoSaid : Prop := chunkSplitsUptoRow.holds Try.pinned (OpenSpec.upto chunkSplitsSpec)

/-- 'lacunalaw11.ChunkShort', WHERE WHAT IT READS IS OF BULK AT MOST 1048576: true; the input reads as it did. -/
def chunkShortUptoRow : OpenClaim := { program := "ytolhjdhbcggidaa", sum := "150593c9a4216aaf6401de7ad89de6b05037ca3f11c259edf55d2fb27acca762", func := "lacuna/lacunalaw11.ChunkShort", spec := "chunkShort", inPlace := ["internal/abi.NoEscape", "internal/bytealg.MakeNoZero"], unfollowed := true, recurses := true, apart := false, narrowed := true }
def ChunkShortUptoSaid : Prop := chunkShortUptoRow.holds Try.pinned (OpenSpec.upto chunkShortSpec)

/-- 'lacunalaw11.ChunkJoins', WHERE WHAT IT READS IS OF BULK AT MOST 1048576: true; the input reads as it did. -/
def chunkJoinsUptoRow : OpenClaim := { program := "ytolhjdhbcggidaa", sum := "150593c9a4216aaf6401de7ad89de6b05037ca3f11c259edf55d2fb27acca762", func := "lacuna/lacunalaw11.ChunkJoins", spec := "chunkJoins", inPlace := ["internal/abi.NoEscape", "internal/bytealg.MakeNoZero"], unfollowed := true, recurses := true, apart := false, narrowed := true }
def ChunkJoinsUptoSaid : Prop := chunkJoinsUptoRow.holds Try.pinned (OpenSpec.upto chunkJoinsSpec)

/-- 'lacunalaw11.ChunkBack', WHERE WHAT IT READS IS OF BULK AT MOST 1048576: true; the input reads as it did. -/
def chunkBackUptoRow : OpenClaim := { program := "ytolhjdhbcggidaa", sum := "150593c9a4216aaf6401de7ad89de6b05037ca3f11c259edf55d2fb27acca762", func := "lacuna/lacunalaw11.ChunkBack", spec := "chunkBack", inPlace := ["internal/abi.NoEscape", "internal/bytealg.MakeNoZero"], unfollowed := true, recurses := true, apart := false, narrowed := true }
def ChunkBackUptoSaid : Prop := chunkBackUptoRow.holds Try.pinned (OpenSpec.upto chunkBackSpec)

end Rows
end Go.Proofs.Ytolhjdhbcggidaa
