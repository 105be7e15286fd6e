/-
  No cell of these rows narrows 'for every input' (looked for: loops, veiled, ifaces, maps, wideKeys, modest, calm, conditions, laid).
  DERIVED. THE GIVEN ROWS OF THIS SEAT. 10 by the template 'for every input the law returns true; each argument reads behind the call as it read before'; 0 by the template 'total and deterministic' (their statements: YtcblmcpmdpnlbaaTotals.lean).
  GIVEN WITH THE SEED: the statements are not yours to turn. If you find one false, say at which input.
  Laid BY PROGRAM, IN A SANDBOX (cutbox-rows.mjs): the forced cells as the released guide's own fill.sh prints them over the translation 79dcd35dbbafeab9… (all of the seat's roots in one cut). By AI agents, Wed Nov 11 2026. No macro, syntax, notation, axiom, sorry.
-/
import Derived.Test.YtcblmcpmdpnlbaaChecked
import GoSem.Claim
import GoSem.ClaimJoined
import GoSem.ClaimMapViews
import Derived.JoinedTies
import Derived.KernelRfl
namespace Go.Proofs.Ytcblmcpmdpnlbaa
/- THE CELL 'sum', in the pinned program and in every row, IS THE sha256 OF THE DUMP (.gsa) THAT YtcblmcpmdpnlbaaProg.lean LOADS. Nothing in Lean hashes anything: it is a label: what it is worth is what the hold of that sum in a sandbox is worth. -/
noncomputable def Try.pinned : Pinned := { name := "ytcblmcpmdpnlbaa", sum := "79dcd35dbbafeab90f6483009dc4f55cca842ddf5428bf9c85e49493c6be66c7", checked := Try.checked }
namespace Rows
def none {H : Type} : Left H := { results := [], args := [] }

/-- 'lacunalaw01.PrimPuts': WHATEVER THE INPUT: true; the input reads as it did. -/
def primPutsSpec : ChangeSpec := { name := "primPuts", fn := fun _ => fun
  | [d1, d2, d3] => { results := [.lit (.bool true)], args := [d1, d2, d3] }
  | _ => none }
def primPutsRow : OpenClaim := { program := "ytcblmcpmdpnlbaa", sum := "79dcd35dbbafeab90f6483009dc4f55cca842ddf5428bf9c85e49493c6be66c7", func := "lacuna/lacunalaw01.PrimPuts", spec := "primPuts", apart := false }
def PrimPutsSaid : Prop := primPutsRow.holds Try.pinned (OpenSpec.ofChange primPutsSpec)

/-- ITS FALSE NEIGHBOUR: 'it returns false'. Refute it at one input. -/
def primPutsWrong : ChangeSpec := { name := "primPuts", fn := fun _ => fun
  | [d1, d2, d3] => { results := [.lit (.bool false)], args := [d1, d2, d3] }
  | _ => none }
def PrimPutsWrongFalsely : Prop := primPutsRow.holds Try.pinned (OpenSpec.ofChange primPutsWrong)

/-- 'lacunalaw01.PrimApart': WHATEVER THE INPUT: true; the input reads as it did. -/
def primApartSpec : ChangeSpec := { name := "primApart", fn := fun _ => fun
  | [d1, d2, d3] => { results := [.lit (.bool true)], args := [d1, d2, d3] }
  | _ => none }
def primApartRow : OpenClaim := { program := "ytcblmcpmdpnlbaa", sum := "79dcd35dbbafeab90f6483009dc4f55cca842ddf5428bf9c85e49493c6be66c7", func := "lacuna/lacunalaw01.PrimApart", spec := "primApart", apart := false }
def PrimApartSaid : Prop := primApartRow.holds Try.pinned (OpenSpec.ofChange primApartSpec)

/-- ITS FALSE NEIGHBOUR: 'it returns false'. Refute it at one input. -/
def primApartWrong : ChangeSpec := { name := "primApart", fn := fun _ => fun
  | [d1, d2, d3] => { results := [.lit (.bool false)], args := [d1, d2, d3] }
  | _ => none }
def PrimApartWrongFalsely : Prop := primApartRow.holds Try.pinned (OpenSpec.ofChange primApartWrong)

/-- 'lacunalaw01.PrimLimits': WHATEVER THE INPUT: true; the input reads as it did. -/
def primLimitsSpec : ChangeSpec := { name := "primLimits", fn := fun _ => fun
  | [d1, d2, d3] => { results := [.lit (.bool true)], args := [d1, d2, d3] }
  | _ => none }
def primLimitsRow : OpenClaim := { program := "ytcblmcpmdpnlbaa", sum := "79dcd35dbbafeab90f6483009dc4f55cca842ddf5428bf9c85e49493c6be66c7", func := "lacuna/lacunalaw01.PrimLimits", spec := "primLimits", apart := false }
def PrimLimitsSaid : Prop := primLimitsRow.holds Try.pinned (OpenSpec.ofChange primLimitsSpec)

/-- ITS FALSE NEIGHBOUR: 'it returns false'. Refute it at one input. -/
def primLimitsWrong : ChangeSpec := { name := "primLimits", fn := fun _ => fun
  | [d1, d2, d3] => { results := [.lit (.bool false)], args := [d1, d2, d3] }
  | _ => none }
def PrimLimitsWrongFalsely : Prop := primLimitsRow.holds Try.pinned (OpenSpec.ofChange primLimitsWrong)

/-- 'lacunalaw01.PrimBack': WHATEVER THE INPUT: true; the input reads as it did. -/
def primBackSpec : ChangeSpec := { name := "primBack", fn := fun _ => fun
  | [d1, d2, d3] => { results := [.lit (.bool true)], args := [d1, d2, d3] }
  | _ => none }
def primBackRow : OpenClaim := { program := "ytcblmcpmdpnlbaa", sum := "79dcd35dbbafeab90f6483009dc4f55cca842ddf5428bf9c85e49493c6be66c7", func := "lacuna/lacunalaw01.PrimBack", spec := "primBack", apart := false }
def PrimBackSaid : Prop := primBackRow.holds Try.pinned (OpenSpec.ofChange primBackSpec)

/-- ITS FALSE NEIGHBOUR: 'it returns false'. Refute it at one input. -/
def primBackWrong : ChangeSpec := { name := "primBack", fn := fun _ => fun
  | [d1, d2, d3] => { results := [.lit (.bool false)], args := [d1, d2, d3] }
  | _ => none }
def PrimBackWrongFalsely : Prop := primBackRow.holds Try.pinned (OpenSpec.ofChange primBackWrong)

/-- 'lacunalaw01.PrimGivesUp': WHATEVER THE INPUT: true; the input reads as it did. -/
def primGivesUpSpec : ChangeSpec := { name := "primGivesUp", fn := fun _ => fun
  | [d1, d2, d3] => { results := [.lit (.bool true)], args := [d1, d2, d3] }
  | _ => none }
def primGivesUpRow : OpenClaim := { program := "ytcblmcpmdpnlbaa", sum := "79dcd35dbbafeab90f6483009dc4f55cca842ddf5428bf9c85e49493c6be66c7", func := "lacuna/lacunalaw01.PrimGivesUp", spec := "primGivesUp", apart := false }
def PrimGivesUpSaid : Prop := primGivesUpRow.holds Try.pinned (OpenSpec.ofChange primGivesUpSpec)

/-- ITS FALSE NEIGHBOUR: 'it returns false'. Refute it at one input. -/
def primGivesUpWrong : ChangeSpec := { name := "primGivesUp", fn := fun _ => fun
  | [d1, d2, d3] => { results := [.lit (.bool false)], args := [d1, d2, d3] }
  | _ => none }
def PrimGivesUpWrongFalsely : Prop := primGivesUpRow.holds Try.pinned (OpenSpec.ofChange primGivesUpWrong)

/-- 'lacunalaw01.PrimReads': WHATEVER THE INPUT: true; the input reads as it did. -/
def primReadsSpec : ChangeSpec := { name := "primReads", fn := fun _ => fun
  | [d1, d2] => { results := [.lit (.bool true)], args := [d1, d2] }
  | _ => none }
def primReadsRow : OpenClaim := { program := "ytcblmcpmdpnlbaa", sum := "79dcd35dbbafeab90f6483009dc4f55cca842ddf5428bf9c85e49493c6be66c7", func := "lacuna/lacunalaw01.PrimReads", spec := "primReads", apart := false }
def PrimReadsSaid : Prop := primReadsRow.holds Try.pinned (OpenSpec.ofChange primReadsSpec)

/-- ITS FALSE NEIGHBOUR: 'it returns false'. Refute it at one input. -/
def primReadsWrong : ChangeSpec := { name := "primReads", fn := fun _ => fun
  | [d1, d2] => { results := [.lit (.bool false)], args := [d1, d2] }
  | _ => none }
def PrimReadsWrongFalsely : Prop := primReadsRow.holds Try.pinned (OpenSpec.ofChange primReadsWrong)

/-- 'lacunalaw08.RelOrder': WHATEVER THE INPUT: true; the input reads as it did. -/
def relOrderSpec : ChangeSpec := { name := "relOrder", fn := fun _ => fun
  | [d1, d2, d3] => { results := [.lit (.bool true)], args := [d1, d2, d3] }
  | _ => none }
def relOrderRow : OpenClaim := { program := "ytcblmcpmdpnlbaa", sum := "79dcd35dbbafeab90f6483009dc4f55cca842ddf5428bf9c85e49493c6be66c7", func := "lacuna/lacunalaw08.RelOrder", spec := "relOrder", unfollowed := true, recurses := true, apart := false }
def RelOrderSaid : Prop := relOrderRow.holds Try.pinned (OpenSpec.ofChange relOrderSpec)

/-- ITS FALSE NEIGHBOUR: 'it returns false'. Refute it at one input. -/
def relOrderWrong : ChangeSpec := { name := "relOrder", fn := fun _ => fun
  | [d1, d2, d3] => { results := [.lit (.bool false)], args := [d1, d2, d3] }
  | _ => none }
def RelOrderWrongFalsely : Prop := relOrderRow.holds Try.pinned (OpenSpec.ofChange relOrderWrong)

/-- 'lacunalaw08.RelTells': WHATEVER THE INPUT: true; the input reads as it did. -/
def relTellsSpec : ChangeSpec := { name := "relTells", fn := fun _ => fun
  | [d1, d2] => { results := [.lit (.bool true)], args := [d1, d2] }
  | _ => none }
def relTellsRow : OpenClaim := { program := "ytcblmcpmdpnlbaa", sum := "79dcd35dbbafeab90f6483009dc4f55cca842ddf5428bf9c85e49493c6be66c7", func := "lacuna/lacunalaw08.RelTells", spec := "relTells", unfollowed := true, recurses := true, apart := false }
def RelTellsSaid : Prop := relTellsRow.holds Try.pinned (OpenSpec.ofChange relTellsSpec)

/-- ITS FALSE NEIGHBOUR: 'it returns false'. Refute it at one input. -/
def relTellsWrong : ChangeSpec := { name := "relTells", fn := fun _ => fun
  | [d1, d2] => { results := [.lit (.bool false)], args := [d1, d2] }
  | _ => none }
def RelTellsWrongFalsely : Prop := relTellsRow.holds Try.pinned (OpenSpec.ofChange relTellsWrong)

/-- 'lacunalaw08.RelDecodes': WHATEVER THE INPUT: true; the input reads as it did. -/
def relDecodesSpec : ChangeSpec := { name := "relDecodes", fn := fun _ => fun
  | [d] => { results := [.lit (.bool true)], args := [d] }
  | _ => none }
def relDecodesRow : OpenClaim := { program := "ytcblmcpmdpnlbaa", sum := "79dcd35dbbafeab90f6483009dc4f55cca842ddf5428bf9c85e49493c6be66c7", func := "lacuna/lacunalaw08.RelDecodes", spec := "relDecodes", unfollowed := true, recurses := true, apart := false }
def RelDecodesSaid : Prop := relDecodesRow.holds Try.pinned (OpenSpec.ofChange relDecodesSpec)

/-- ITS FALSE NEIGHBOUR: 'it returns false'. Refute it at one input. -/
def relDecodesWrong : ChangeSpec := { name := "relDecodes", fn := fun _ => fun
  | [d] => { results := [.lit (.bool false)], args := [d] }
  | _ => none }
def RelDecodesWrongFalsely : Prop := relDecodesRow.holds Try.pinned (OpenSpec.ofChange relDecodesWrong)

/-- 'lacunalaw08.RelBack': WHATEVER THE INPUT: true; the input reads as it did. -/
def relBackSpec : ChangeSpec := { name := "relBack", fn := fun _ => fun
  | [d1, d2, d3] => { results := [.lit (.bool true)], args := [d1, d2, d3] }
  | _ => none }
def relBackRow : OpenClaim := { program := "ytcblmcpmdpnlbaa", sum := "79dcd35dbbafeab90f6483009dc4f55cca842ddf5428bf9c85e49493c6be66c7", func := "lacuna/lacunalaw08.RelBack", spec := "relBack", unfollowed := true, recurses := true, apart := false }
def RelBackSaid : Prop := relBackRow.holds Try.pinned (OpenSpec.ofChange relBackSpec)

/-- ITS FALSE NEIGHBOUR: 'it returns false'. Refute it at one input. -/
def relBackWrong : ChangeSpec := { name := "relBack", fn := fun _ => fun
  | [d1, d2, d3] => { results := [.lit (.bool false)], args := [d1, d2, d3] }
  | _ => none }
def RelBackWrongFalsely : Prop := relBackRow.holds Try.pinned (OpenSpec.ofChange relBackWrong)

/- THE SECOND FORM. 'bulk': how many values and letters a reading holds, each counted each time it is reached (what is shared counts as often as it is met; a slice's spare places count too). A statement '..UptoSaid' is the law's where the arguments, and the package variables that the reading takes, are together of bulk at most 1048576: NARROWER than '..Said'. Prove '..Said' where nothing that the law and all that it calls make is longer than what came in: it says more and counts as full. Else prove '..UptoSaid'. A law counts once. -/
mutual
def uptoBulk {H : Type} : DataW H → Nat
  | .lit (.string bytes) => bytes.length + 1
  | .lit _ => 1
  | .nil => 1
  | .ptr d => uptoBulk d + 1
  | .slice elems spare => uptoBulkAll elems + uptoBulkAll spare + 1
  | .agg parts => uptoBulkAll parts + 1
  | .iface _ d => uptoBulk d + 1
  | .map entries => uptoBulkEntries entries + 1
  | .held _ => 1
def uptoBulkAll {H : Type} : List (DataW H) → Nat
  | [] => 0
  | d :: r => uptoBulk d + uptoBulkAll r
def uptoBulkEntries {H : Type} : List (Lit × DataW H) → Nat
  | [] => 0
  | x :: r => uptoBulkEntry x + uptoBulkEntries r
def uptoBulkEntry {H : Type} : Lit × DataW H → Nat
  | (.string bytes, d) => bytes.length + uptoBulk d + 1
  | (_, d) => uptoBulk d + 1
 end
def uptoSmall : (H : Type) → List (DataW H) → Bool := fun _ ds => decide (uptoBulkAll ds ≤ 1048576)
def OpenSpec.upto (s : _root_.Go.ChangeSpec) : _root_.Go.OpenSpec := { _root_.Go.OpenSpec.ofChange s with cond := some uptoSmall }

/-- 'lacunalaw01.PrimPuts', WHERE WHAT IT READS IS OF BULK AT MOST 1048576: true; the input reads as it did. -/
def primPutsUptoRow : OpenClaim := { program := "ytcblmcpmdpnlbaa", sum := "79dcd35dbbafeab90f6483009dc4f55cca842ddf5428bf9c85e49493c6be66c7", func := "lacuna/lacunalaw01.PrimPuts", spec := "primPuts", apart := false, narrowed := true }
def PrimPutsUptoSaid : Prop := primPutsUptoRow.holds Try.pinned (OpenSpec.upto primPutsSpec)

/-- 'lacunalaw01.PrimApart', WHERE WHAT IT READS IS OF BULK AT MOST 1048576: true; the input reads as it did. -/
def primApartUptoRow : OpenClaim := { program := "ytcblmcpmdpnlbaa", sum := "79dcd35dbbafeab90f6483009dc4f55cca842ddf5428bf9c85e49493c6be66c7", func := "lacuna/lacunalaw01.PrimApart", spec := "primApart", apart := false, narrowed := true }
def PrimApartUptoSaid : Prop := primApartUptoRow.holds Try.pinned (OpenSpec.upto primApartSpec)

/-- 'lacunalaw01.PrimLimits', WHERE WHAT IT READS IS OF BULK AT MOST 1048576: true; the input reads as it did. -/
def primLimitsUptoRow : OpenClaim := { program := "ytcblmcpmdpnlbaa", sum := "79dcd35dbbafeab90f6483009dc4f55cca842ddf5428bf9c85e49493c6be66c7", func := "lacuna/lacunalaw01.PrimLimits", spec := "primLimits", apart := false, narrowed := true }
def PrimLimitsUptoSaid : Prop := primLimitsUptoRow.holds Try.pinned (OpenSpec.upto primLimitsSpec)

/-- 'lacunalaw01.PrimBack', WHERE WHAT IT READS IS OF BULK AT MOST 1048576: true; the input reads as it did. -/
def primBackUptoRow : OpenClaim := { program := "ytcblmcpmdpnlbaa", sum := "79dcd35dbbafeab90f6483009dc4f55cca842ddf5428bf9c85e49493c6be66c7", func := "lacuna/lacunalaw01.PrimBack", spec := "primBack", apart := false, narrowed := true }
def PrimBackUptoSaid : Prop := primBackUptoRow.holds Try.pinned (OpenSpec.upto primBackSpec)

/-- 'lacunalaw01.PrimGivesUp', WHERE WHAT IT READS IS OF BULK AT MOST 1048576: true; the input reads as it did. -/
def primGivesUpUptoRow : OpenClaim := { program := "ytcblmcpmdpnlbaa", sum := "79dcd35dbbafeab90f6483009dc4f55cca842ddf5428bf9c85e49493c6be66c7", func := "lacuna/lacunalaw01.PrimGivesUp", spec := "primGivesUp", apart := false, narrowed := true }
def PrimGivesUpUptoSaid : Prop := primGivesUpUptoRow.holds Try.pinned (OpenSpec.upto primGivesUpSpec)

/-- 'lacunalaw01.PrimReads', WHERE WHAT IT READS IS OF BULK AT MOST 1048576: true; the input reads as it did. -/
def primReadsUptoRow : OpenClaim := { program := "ytcblmcpmdpnlbaa", sum := "79dcd35dbbafeab90f6483009dc4f55cca842ddf5428bf9c85e49493c6be66c7", func := "lacuna/lacunalaw01.PrimReads", spec := "primReads", apart := false, narrowed := true }
def PrimReadsUptoSaid : Prop := primReadsUptoRow.holds Try.pinned (OpenSpec.upto primReadsSpec)

/-- 'lacunalaw08.RelOrder', WHERE WHAT IT READS IS OF BULK AT MOST 1048576: true; the input reads as it did. -/
def relOrderUptoRow : OpenClaim := { program := "ytcblmcpmdpnlbaa", sum := "79dcd35dbbafeab90f6483009dc4f55cca842ddf5428bf9c85e49493c6be66c7", func := "lacuna/lacunalaw08.RelOrder", spec := "relOrder", unfollowed := true, recurses := true, apart := false, narrowed := true }
def RelOrderUptoSaid : Prop := relOrderUptoRow.holds Try.pinned (OpenSpec.upto relOrderSpec)

/-- 'lacunalaw08.RelTells', WHERE WHAT IT READS IS OF BULK AT MOST 1048576: true; the input reads as it did. -/
def relTellsUptoRow : OpenClaim := { program := "ytcblmcpmdpnlbaa", sum := "79dcd35dbbafeab90f6483009dc4f55cca842ddf5428bf9c85e49493c6be66c7", func := "lacuna/lacunalaw08.RelTells", spec := "relTells", unfollowed := true, recurses := true, apart := false, narrowed := true }
def RelTellsUptoSaid : Prop := relTellsUptoRow.holds Try.pinned (OpenSpec.upto relTellsSpec)

/-- 'lacunalaw08.RelDecodes', WHERE WHAT IT READS IS OF BULK AT MOST 1048576: true; the input reads as it did. -/
def relDecodesUptoRow : OpenClaim := { program := "ytcblmcpmdpnlbaa", sum := "79dcd35dbbafeab90f6483009dc4f55cca842ddf5428bf9c85e49493c6be66c7", func := "lacuna/lacunalaw08.RelDecodes", spec := "relDecodes", unfollowed := true, recurses := true, apart := false, narrowed := true }
def RelDecodesUptoSaid : Prop := relDecodesUptoRow.holds Try.pinned (OpenSpec.upto relDecodesSpec)

/-- 'lacunalaw08.RelBack', WHERE WHAT IT READS IS OF BULK AT MOST 1048576: true; the input reads as it did. -/
def relBackUptoRow : OpenClaim := { program := "ytcblmcpmdpnlbaa", sum := "79dcd35dbbafeab90f6483009dc4f55cca842ddf5428bf9c85e49493c6be66c7", func := "lacuna/lacunalaw08.RelBack", spec := "relBack", unfollowed := true, recurses := true, apart := false, narrowed := true }
def RelBackUptoSaid : Prop := relBackUptoRow.holds Try.pinned (OpenSpec.upto relBackSpec)

end Rows
end Go.Proofs.Ytcblmcpmdpnlbaa
