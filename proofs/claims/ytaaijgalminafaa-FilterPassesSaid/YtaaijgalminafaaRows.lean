/-
  No cell of these rows narrows 'for every input' (looked for: loops, veiled, ifaces, maps, wideKeys, modest, calm, conditions, laid).
  DERIVED. THE GIVEN ROWS OF THIS SEAT. 4 by the template 'for every input the law returns true; each argument reads behind the call as it read before'; 0 by the template 'total and deterministic' (their statements: YtaaijgalminafaaTotals.lean).
  GIVEN WITH THE SEED: the statements are not yours to turn. If you find one false, say at which input.
  Laid BY PROGRAM, IN A SANDBOX (cutbox-rows.mjs): the forced cells as the released guide's own fill.sh prints them over the translation be0ecf4497c80d37… (all of the seat's roots in one cut). By AI agents, Wed Nov 11 2026. No macro, syntax, notation, axiom, sorry.
-/
import Derived.Test.YtaaijgalminafaaChecked
import GoSem.Claim
import GoSem.ClaimJoined
import GoSem.ClaimMapViews
import Derived.JoinedTies
import Derived.KernelRfl
namespace Go.Proofs.Ytaaijgalminafaa
/- THE CELL 'sum', in the pinned program and in every row, IS THE sha256 OF THE DUMP (.gsa) THAT YtaaijgalminafaaProg.lean LOADS. Nothing in Lean hashes anything: it is a label: what it is worth is what the hold of that sum in a sandbox is worth. -/
noncomputable def Try.pinned : Pinned := { name := "ytaaijgalminafaa", sum := "be0ecf4497c80d3777b1ac5ea4fc64ae2171431f45856948778cc7a451ac0f83", checked := Try.checked }
namespace Rows
def none {H : Type} : Left H := { results := [], args := [] }

/-- 'lacunalaw24.FilterTurns': WHATEVER THE INPUT: true; the input reads as it did. -/
def filterTurnsSpec : ChangeSpec := { name := "filterTurns", fn := fun _ => fun
  | [d1, d2, d3] => { results := [.lit (.bool true)], args := [d1, d2, d3] }
  | _ => none }
def filterTurnsRow : OpenClaim := { program := "ytaaijgalminafaa", sum := "be0ecf4497c80d3777b1ac5ea4fc64ae2171431f45856948778cc7a451ac0f83", func := "lacuna/lacunalaw24.FilterTurns", spec := "filterTurns", unfollowed := true, recurses := true, apart := false }
def FilterTurnsSaid : Prop := filterTurnsRow.holds Try.pinned (OpenSpec.ofChange filterTurnsSpec)

/-- ITS FALSE NEIGHBOUR: 'it returns false'. Refute it at one input. -/
def filterTurnsWrong : ChangeSpec := { name := "filterTurns", fn := fun _ => fun
  | [d1, d2, d3] => { results := [.lit (.bool false)], args := [d1, d2, d3] }
  | _ => none }
def FilterTurnsWrongFalsely : Prop := filterTurnsRow.holds Try.pinned (OpenSpec.ofChange filterTurnsWrong)

/-- 'lacunalaw24.FilterTwice': WHATEVER THE INPUT: true; the input reads as it did. -/
def filterTwiceSpec : ChangeSpec := { name := "filterTwice", fn := fun _ => fun
  | [d1, d2, d3] => { results := [.lit (.bool true)], args := [d1, d2, d3] }
  | _ => none }
def filterTwiceRow : OpenClaim := { program := "ytaaijgalminafaa", sum := "be0ecf4497c80d3777b1ac5ea4fc64ae2171431f45856948778cc7a451ac0f83", func := "lacuna/lacunalaw24.FilterTwice", spec := "filterTwice", inPlace := ["math.Float64frombits", "math.Float64bits"], unfollowed := true, recurses := true, apart := false }
def FilterTwiceSaid : Prop := filterTwiceRow.holds Try.pinned (OpenSpec.ofChange filterTwiceSpec)

/-- ITS FALSE NEIGHBOUR: 'it returns false'. Refute it at one input. -/
def filterTwiceWrong : ChangeSpec := { name := "filterTwice", fn := fun _ => fun
  | [d1, d2, d3] => { results := [.lit (.bool false)], args := [d1, d2, d3] }
  | _ => none }
def FilterTwiceWrongFalsely : Prop := filterTwiceRow.holds Try.pinned (OpenSpec.ofChange filterTwiceWrong)

/-- 'lacunalaw24.FilterPasses': WHATEVER THE INPUT: true; the input reads as it did. -/
def filterPassesSpec : ChangeSpec := { name := "filterPasses", fn := fun _ => fun
  | [d1, d2, d3] => { results := [.lit (.bool true)], args := [d1, d2, d3] }
  | _ => none }
def filterPassesRow : OpenClaim := { program := "ytaaijgalminafaa", sum := "be0ecf4497c80d3777b1ac5ea4fc64ae2171431f45856948778cc7a451ac0f83", func := "lacuna/lacunalaw24.FilterPasses", spec := "filterPasses", inPlace := ["math.Float64frombits", "math.Float64bits"], unfollowed := true, recurses := true, apart := false }
def FilterPassesSaid : Prop := filterPassesRow.holds Try.pinned (OpenSpec.ofChange filterPassesSpec)

/-- ITS FALSE NEIGHBOUR: 'it returns false'. Refute it at one input. -/
def filterPassesWrong : ChangeSpec := { name := "filterPasses", fn := fun _ => fun
  | [d1, d2, d3] => { results := [.lit (.bool false)], args := [d1, d2, d3] }
  | _ => none }
def FilterPassesWrongFalsely : Prop := filterPassesRow.holds Try.pinned (OpenSpec.ofChange filterPassesWrong)

/-- 'lacunalaw24.FilterAnds': WHATEVER THE INPUT: true; the input reads as it did. -/
def filterAndsSpec : ChangeSpec := { name := "filterAnds", fn := fun _ => fun
  | [d1, d2] => { results := [.lit (.bool true)], args := [d1, d2] }
  | _ => none }
def filterAndsRow : OpenClaim := { program := "ytaaijgalminafaa", sum := "be0ecf4497c80d3777b1ac5ea4fc64ae2171431f45856948778cc7a451ac0f83", func := "lacuna/lacunalaw24.FilterAnds", spec := "filterAnds", unfollowed := true, recurses := true, apart := false }
def FilterAndsSaid : Prop := filterAndsRow.holds Try.pinned (OpenSpec.ofChange filterAndsSpec)

/-- ITS FALSE NEIGHBOUR: 'it returns false'. Refute it at one input. -/
def filterAndsWrong : ChangeSpec := { name := "filterAnds", fn := fun _ => fun
  | [d1, d2] => { results := [.lit (.bool false)], args := [d1, d2] }
  | _ => none }
def FilterAndsWrongFalsely : Prop := filterAndsRow.holds Try.pinned (OpenSpec.ofChange filterAndsWrong)

/- THE SECOND FORM. 'bulk': how many values and letters a reading holds, each counted each time it is reached (what is shared counts as often as it is met; a slice's spare places count too). A statement '..UptoSaid' is the law's where the arguments, and the package variables that the reading takes, are together of bulk at most 1048576: NARROWER than '..Said'. Prove '..Said' where nothing that the law and all that it calls make is longer than what came in: it says more and counts as full. Else prove '..UptoSaid'. A law counts once. -/
mutual
def uptoBulk {H : Type} : DataW H → Nat
  | .lit (.string bytes) => bytes.length + 1
  | .lit _ => 1
  | .nil => 1
  | .ptr d => uptoBulk d + 1
  | .slice elems spare => uptoBulkAll elems + uptoBulkAll spare + 1
  | .agg parts => uptoBulkAll parts + 1
  | .iface _ d => uptoBulk d + 1
  | .map entries => uptoBulkEntries entries + 1
  | .held _ => 1
def uptoBulkAll {H : Type} : List (DataW H) → Nat
  | [] => 0
  | d :: r => uptoBulk d + uptoBulkAll r
def uptoBulkEntries {H : Type} : List (Lit × DataW H) → Nat
  | [] => 0
  | x :: r => uptoBulkEntry x + uptoBulkEntries r
def uptoBulkEntry {H : Type} : Lit × DataW H → Nat
  | (.string bytes, d) => bytes.length + uptoBulk d + 1
  | (_, d) => uptoBulk d + 1
 end
def uptoSmall : (H : Type) → List (DataW H) → Bool := fun _ ds => decide (uptoBulkAll ds ≤ 1048576)
def OpenSpec.upto (s : _root_.Go.ChangeSpec) : _root_.Go.OpenSpec := { _root_.Go.OpenSpec.ofChange s with cond := some uptoSmall }

/-- 'lacunalaw24.FilterTurns', WHERE WHAT IT READS IS OF BULK AT MOST 1048576: true; the input reads as it did. -/
def filterTurnsUptoRow : OpenClaim := { program := "ytaaijgalminafaa", sum := "be0ecf4497c80d3777b1ac5ea4fc64ae2171431f45856948778cc7a451ac0f83", func := "lacuna/lacunalaw24.FilterTurns", spec := "filterTurns", unfollowed := true, recurses := true, apart := false, narrowed := true }
def FilterTurnsUptoSaid : Prop := filterTurnsUptoRow.holds Try.pinned (OpenSpec.upto filterTurnsSpec)

/-- 'lacunalaw24.FilterTwice', WHERE WHAT IT READS IS OF BULK AT MOST 1048576: true; the input reads as it did. -/
def filterTwiceUptoRow : OpenClaim := { program := "ytaaijgalminafaa", sum := "be0ecf4497c80d3777b1ac5ea4fc64ae2171431f45856948778cc7a451ac0f83", func := "lacuna/lacunalaw24.FilterTwice", spec := "filterTwice", inPlace := ["math.Float64frombits", "math.Float64bits"], unfollowed := true, recurses := true, apart := false, narrowed := true }
def FilterTwiceUptoSaid : Prop := filterTwiceUptoRow.holds Try.pinned (OpenSpec.upto filterTwiceSpec)

/-- 'lacunalaw24.FilterPasses', WHERE WHAT IT READS IS OF BULK AT MOST 1048576: true; the input reads as it did. -/
def filterPassesUptoRow : OpenClaim := { program := "ytaaijgalminafaa", sum := "be0ecf4497c80d3777b1ac5ea4fc64ae2171431f45856948778cc7a451ac0f83", func := "lacuna/lacunalaw24.FilterPasses", spec := "filterPasses", inPlace := ["math.Float64frombits", "math.Float64bits"], unfollowed := true, recurses := true, apart := false, narrowed := true }
def FilterPassesUptoSaid : Prop := filterPassesUptoRow.holds Try.pinned (OpenSpec.upto filterPassesSpec)

/-- 'lacunalaw24.FilterAnds', WHERE WHAT IT READS IS OF BULK AT MOST 1048576: true; the input reads as it did. -/
def filterAndsUptoRow : OpenClaim := { program := "ytaaijgalminafaa", sum := "be0ecf4497c80d3777b1ac5ea4fc64ae2171431f45856948778cc7a451ac0f83", func := "lacuna/lacunalaw24.FilterAnds", spec := "filterAnds", unfollowed := true, recurses := true, apart := false, narrowed := true }
def FilterAndsUptoSaid : Prop := filterAndsUptoRow.holds Try.pinned (OpenSpec.upto filterAndsSpec)

end Rows
end Go.Proofs.Ytaaijgalminafaa
