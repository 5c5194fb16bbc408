/-
  No cell of these rows narrows 'for every input' (looked for: loops, veiled, ifaces, maps, wideKeys, modest, calm, conditions, laid).
  DERIVED. THE GIVEN ROWS OF THIS SEAT. 5 by the template 'for every input the law returns true; each argument reads behind the call as it read before'; 0 by the template 'total and deterministic' (their statements: YtcppcfinnbeboaaGreatTotals.lean).
  GIVEN WITH THE SEED: the statements are not yours to turn. If you find one false, say at which input.
  Laid BY PROGRAM, IN A SANDBOX (cutbox-rows.mjs): the forced cells as the released guide's own fill.sh prints them over the translation cd9fa622d840d3ec… (all of the seat's roots in one cut). By AI agents, Wed Nov 11 2026. No macro, syntax, notation, axiom, sorry.
-/
import Derived.Test.YtcppcfinnbeboaaGreatChecked
import GoSem.Claim
import GoSem.ClaimJoined
import GoSem.ClaimMapViews
import Derived.JoinedTies
import Derived.KernelRfl
namespace Go.Proofs.YtcppcfinnbeboaaGreat
/- THE CELL 'sum', in the pinned program and in every row, IS THE sha256 OF THE DUMP (.gsa) THAT YtcppcfinnbeboaaGreatProg.lean LOADS. Nothing in Lean hashes anything: it is a label: what it is worth is what the hold of that sum in a sandbox is worth. -/
noncomputable def Tryz.pinned : Pinned := { name := "ytcppcfinnbeboaagreat", sum := "cd9fa622d840d3eca1babb66a7ae9be12ae595bce678148974e9b0d969715bed", checked := Tryz.checked }
namespace Rows
def none {H : Type} : Left H := { results := [], args := [] }

/-- 'civiltimelaw47.DisjunctiveMinimals': WHATEVER THE INPUT: true; the input reads as it did. -/
def disjunctiveMinimalsSpec : ChangeSpec := { name := "disjunctiveMinimals", fn := fun _ => fun
  | [d1, d2] => { results := [.lit (.bool true)], args := [d1, d2] }
  | _ => none }
def disjunctiveMinimalsRow : OpenClaim := { program := "ytcppcfinnbeboaagreat", sum := "cd9fa622d840d3eca1babb66a7ae9be12ae595bce678148974e9b0d969715bed", func := "civiltime/civiltimelaw47.DisjunctiveMinimals", spec := "disjunctiveMinimals", inPlace := ["internal/reflectlite.ValueOf", "internal/reflectlite.Swapper", "(internal/reflectlite.Value).Len"], unfollowed := true, recurses := true, apart := false }
def DisjunctiveMinimalsSaid : Prop := disjunctiveMinimalsRow.holds Tryz.pinned (OpenSpec.ofChange disjunctiveMinimalsSpec)

/-- ITS FALSE NEIGHBOUR: 'it returns false'. Refute it at one input. -/
def disjunctiveMinimalsWrong : ChangeSpec := { name := "disjunctiveMinimals", fn := fun _ => fun
  | [d1, d2] => { results := [.lit (.bool false)], args := [d1, d2] }
  | _ => none }
def DisjunctiveMinimalsWrongFalsely : Prop := disjunctiveMinimalsRow.holds Tryz.pinned (OpenSpec.ofChange disjunctiveMinimalsWrong)

/-- 'civiltimelaw47.DisjunctiveBudgets': WHATEVER THE INPUT: true; the input reads as it did. -/
def disjunctiveBudgetsSpec : ChangeSpec := { name := "disjunctiveBudgets", fn := fun _ => fun
  | [d1, d2, d3, d4] => { results := [.lit (.bool true)], args := [d1, d2, d3, d4] }
  | _ => none }
def disjunctiveBudgetsRow : OpenClaim := { program := "ytcppcfinnbeboaagreat", sum := "cd9fa622d840d3eca1babb66a7ae9be12ae595bce678148974e9b0d969715bed", func := "civiltime/civiltimelaw47.DisjunctiveBudgets", spec := "disjunctiveBudgets", inPlace := ["internal/reflectlite.ValueOf", "internal/reflectlite.Swapper", "(internal/reflectlite.Value).Len"], unfollowed := true, recurses := true, apart := false }
def DisjunctiveBudgetsSaid : Prop := disjunctiveBudgetsRow.holds Tryz.pinned (OpenSpec.ofChange disjunctiveBudgetsSpec)

/-- ITS FALSE NEIGHBOUR: 'it returns false'. Refute it at one input. -/
def disjunctiveBudgetsWrong : ChangeSpec := { name := "disjunctiveBudgets", fn := fun _ => fun
  | [d1, d2, d3, d4] => { results := [.lit (.bool false)], args := [d1, d2, d3, d4] }
  | _ => none }
def DisjunctiveBudgetsWrongFalsely : Prop := disjunctiveBudgetsRow.holds Tryz.pinned (OpenSpec.ofChange disjunctiveBudgetsWrong)

/-- 'civiltimelaw47.DisjunctiveEarliest': WHATEVER THE INPUT: true; the input reads as it did. -/
def disjunctiveEarliestSpec : ChangeSpec := { name := "disjunctiveEarliest", fn := fun _ => fun
  | [d1, d2, d3] => { results := [.lit (.bool true)], args := [d1, d2, d3] }
  | _ => none }
def disjunctiveEarliestRow : OpenClaim := { program := "ytcppcfinnbeboaagreat", sum := "cd9fa622d840d3eca1babb66a7ae9be12ae595bce678148974e9b0d969715bed", func := "civiltime/civiltimelaw47.DisjunctiveEarliest", spec := "disjunctiveEarliest", inPlace := ["internal/reflectlite.ValueOf", "internal/reflectlite.Swapper", "(internal/reflectlite.Value).Len"], unfollowed := true, recurses := true, apart := false }
def DisjunctiveEarliestSaid : Prop := disjunctiveEarliestRow.holds Tryz.pinned (OpenSpec.ofChange disjunctiveEarliestSpec)

/-- ITS FALSE NEIGHBOUR: 'it returns false'. Refute it at one input. -/
def disjunctiveEarliestWrong : ChangeSpec := { name := "disjunctiveEarliest", fn := fun _ => fun
  | [d1, d2, d3] => { results := [.lit (.bool false)], args := [d1, d2, d3] }
  | _ => none }
def DisjunctiveEarliestWrongFalsely : Prop := disjunctiveEarliestRow.holds Tryz.pinned (OpenSpec.ofChange disjunctiveEarliestWrong)

/-- 'civiltimelaw47.DisjunctiveSolves': WHATEVER THE INPUT: true; the input reads as it did. -/
def disjunctiveSolvesSpec : ChangeSpec := { name := "disjunctiveSolves", fn := fun _ => fun
  | [d1, d2, d3] => { results := [.lit (.bool true)], args := [d1, d2, d3] }
  | _ => none }
def disjunctiveSolvesRow : OpenClaim := { program := "ytcppcfinnbeboaagreat", sum := "cd9fa622d840d3eca1babb66a7ae9be12ae595bce678148974e9b0d969715bed", func := "civiltime/civiltimelaw47.DisjunctiveSolves", spec := "disjunctiveSolves", inPlace := ["internal/reflectlite.ValueOf", "internal/reflectlite.Swapper", "(internal/reflectlite.Value).Len"], unfollowed := true, recurses := true, apart := false }
def DisjunctiveSolvesSaid : Prop := disjunctiveSolvesRow.holds Tryz.pinned (OpenSpec.ofChange disjunctiveSolvesSpec)

/-- ITS FALSE NEIGHBOUR: 'it returns false'. Refute it at one input. -/
def disjunctiveSolvesWrong : ChangeSpec := { name := "disjunctiveSolves", fn := fun _ => fun
  | [d1, d2, d3] => { results := [.lit (.bool false)], args := [d1, d2, d3] }
  | _ => none }
def DisjunctiveSolvesWrongFalsely : Prop := disjunctiveSolvesRow.holds Tryz.pinned (OpenSpec.ofChange disjunctiveSolvesWrong)

/-- 'civiltimelaw47.DisjunctiveHidden': WHATEVER THE INPUT: true; the input reads as it did. -/
def disjunctiveHiddenSpec : ChangeSpec := { name := "disjunctiveHidden", fn := fun _ => fun
  | [d1, d2, d3, d4] => { results := [.lit (.bool true)], args := [d1, d2, d3, d4] }
  | _ => none }
def disjunctiveHiddenRow : OpenClaim := { program := "ytcppcfinnbeboaagreat", sum := "cd9fa622d840d3eca1babb66a7ae9be12ae595bce678148974e9b0d969715bed", func := "civiltime/civiltimelaw47.DisjunctiveHidden", spec := "disjunctiveHidden", inPlace := ["internal/reflectlite.ValueOf", "internal/reflectlite.Swapper", "(internal/reflectlite.Value).Len"], unfollowed := true, recurses := true, apart := false }
def DisjunctiveHiddenSaid : Prop := disjunctiveHiddenRow.holds Tryz.pinned (OpenSpec.ofChange disjunctiveHiddenSpec)

/-- ITS FALSE NEIGHBOUR: 'it returns false'. Refute it at one input. -/
def disjunctiveHiddenWrong : ChangeSpec := { name := "disjunctiveHidden", fn := fun _ => fun
  | [d1, d2, d3, d4] => { results := [.lit (.bool false)], args := [d1, d2, d3, d4] }
  | _ => none }
def DisjunctiveHiddenWrongFalsely : Prop := disjunctiveHiddenRow.holds Tryz.pinned (OpenSpec.ofChange disjunctiveHiddenWrong)

/- THE SECOND FORM. 'bulk': how many values and letters a reading holds, each counted each time it is reached (what is shared counts as often as it is met; a slice's spare places count too). A statement '..UptoSaid' is the law's where the arguments, and the package variables that the reading takes, are together of bulk at most 1048576: NARROWER than '..Said'. Prove '..Said' where nothing that the law and all that it calls make is longer than what came in: it says more and counts as full. Else prove '..UptoSaid'. A law counts once. -/
mutual
def uptoBulk {H : Type} : DataW H → Nat
  | .lit (.string bytes) => bytes.length + 1
  | .lit _ => 1
  | .nil => 1
  | .ptr d => uptoBulk d + 1
  | .slice elems spare => uptoBulkAll elems + uptoBulkAll spare + 1
  | .agg parts => uptoBulkAll parts + 1
  | .iface _ d => uptoBulk d + 1
  | .map entries => uptoBulkEntries entries + 1
  | .held _ => 1
def uptoBulkAll {H : Type} : List (DataW H) → Nat
  | [] => 0
  | d :: r => uptoBulk d + uptoBulkAll r
def uptoBulkEntries {H : Type} : List (Lit × DataW H) → Nat
  | [] => 0
  | x :: r => uptoBulkEntry x + uptoBulkEntries r
def uptoBulkEntry {H : Type} : Lit × DataW H → Nat
  | (.string bytes, d) => bytes.length + uptoBulk d + 1
  | (_, d) => uptoBulk d + 1
 end
def uptoSmall : (H : Type) → List (DataW H) → Bool := fun _ ds => decide (uptoBulkAll ds ≤ 1048576)
def OpenSpec.upto (s : _root_.Go.ChangeSpec) : _root_.Go.OpenSpec := { _root_.Go.OpenSpec.ofChange s with cond := some uptoSmall }

/-- 'civiltimelaw47.DisjunctiveMinimals', WHERE WHAT IT READS IS OF BULK AT MOST 1048576: true; the input reads as it did. -/
def disjunctiveMinimalsUptoRow : OpenClaim := { program := "ytcppcfinnbeboaagreat", sum := "cd9fa622d840d3eca1babb66a7ae9be12ae595bce678148974e9b0d969715bed", func := "civiltime/civiltimelaw47.DisjunctiveMinimals", spec := "disjunctiveMinimals", inPlace := ["internal/reflectlite.ValueOf", "internal/reflectlite.Swapper", "(internal/reflectlite.Value).Len"], unfollowed := true, recurses := true, apart := false, narrowed := true }
def DisjunctiveMinimalsUptoSaid : Prop := disjunctiveMinimalsUptoRow.holds Tryz.pinned (OpenSpec.upto disjunctiveMinimalsSpec)

/-- 'civiltimelaw47.DisjunctiveBudgets', WHERE WHAT IT READS IS OF BULK AT MOST 1048576: true; the input reads as it did. -/
def disjunctiveBudgetsUptoRow : OpenClaim := { program := "ytcppcfinnbeboaagreat", sum := "cd9fa622d840d3eca1babb66a7ae9be12ae595bce678148974e9b0d969715bed", func := "civiltime/civiltimelaw47.DisjunctiveBudgets", spec := "disjunctiveBudgets", inPlace := ["internal/reflectlite.ValueOf", "internal/reflectlite.Swapper", "(internal/reflectlite.Value).Len"], unfollowed := true, recurses := true, apart := false, narrowed := true }
def DisjunctiveBudgetsUptoSaid : Prop := disjunctiveBudgetsUptoRow.holds Tryz.pinned (OpenSpec.upto disjunctiveBudgetsSpec)

/-- 'civiltimelaw47.DisjunctiveEarliest', WHERE WHAT IT READS IS OF BULK AT MOST 1048576: true; the input reads as it did. -/
def disjunctiveEarliestUptoRow : OpenClaim := { program := "ytcppcfinnbeboaagreat", sum := "cd9fa622d840d3eca1babb66a7ae9be12ae595bce678148974e9b0d969715bed", func := "civiltime/civiltimelaw47.DisjunctiveEarliest", spec := "disjunctiveEarliest", inPlace := ["internal/reflectlite.ValueOf", "internal/reflectlite.Swapper", "(internal/reflectlite.Value).Len"], unfollowed := true, recurses := true, apart := false, narrowed := true }
def DisjunctiveEarliestUptoSaid : Prop := disjunctiveEarliestUptoRow.holds Tryz.pinned (OpenSpec.upto disjunctiveEarliestSpec)

/-- 'civiltimelaw47.DisjunctiveSolves', WHERE WHAT IT READS IS OF BULK AT MOST 1048576: true; the input reads as it did. -/
def disjunctiveSolvesUptoRow : OpenClaim := { program := "ytcppcfinnbeboaagreat", sum := "cd9fa622d840d3eca1babb66a7ae9be12ae595bce678148974e9b0d969715bed", func := "civiltime/civiltimelaw47.DisjunctiveSolves", spec := "disjunctiveSolves", inPlace := ["internal/reflectlite.ValueOf", "internal/reflectlite.Swapper", "(internal/reflectlite.Value).Len"], unfollowed := true, recurses := true, apart := false, narrowed := true }
def DisjunctiveSolvesUptoSaid : Prop := disjunctiveSolvesUptoRow.holds Tryz.pinned (OpenSpec.upto disjunctiveSolvesSpec)

/-- 'civiltimelaw47.DisjunctiveHidden', WHERE WHAT IT READS IS OF BULK AT MOST 1048576: true; the input reads as it did. -/
def disjunctiveHiddenUptoRow : OpenClaim := { program := "ytcppcfinnbeboaagreat", sum := "cd9fa622d840d3eca1babb66a7ae9be12ae595bce678148974e9b0d969715bed", func := "civiltime/civiltimelaw47.DisjunctiveHidden", spec := "disjunctiveHidden", inPlace := ["internal/reflectlite.ValueOf", "internal/reflectlite.Swapper", "(internal/reflectlite.Value).Len"], unfollowed := true, recurses := true, apart := false, narrowed := true }
def DisjunctiveHiddenUptoSaid : Prop := disjunctiveHiddenUptoRow.holds Tryz.pinned (OpenSpec.upto disjunctiveHiddenSpec)

end Rows
end Go.Proofs.YtcppcfinnbeboaaGreat
