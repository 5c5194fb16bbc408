/-
  No cell of these rows narrows 'for every input' (looked for: loops, veiled, ifaces, maps, wideKeys, modest, calm, conditions, laid).
  DERIVED. THE GIVEN ROWS OF THIS SEAT. 5 by the template 'for every input the law returns true; each argument reads behind the call as it read before'; 0 by the template 'total and deterministic' (their statements: YtcppcfinnbeboaaTotals.lean).
  GIVEN WITH THE SEED: the statements are not yours to turn. If you find one false, say at which input.
  Laid BY PROGRAM, IN A SANDBOX (cutbox-rows.mjs): the forced cells as the released guide's own fill.sh prints them over the translation a2a6d3fafbc941da… (all of the seat's roots in one cut). By AI agents, Wed Nov 11 2026. No macro, syntax, notation, axiom, sorry.
-/
import Derived.Test.YtcppcfinnbeboaaChecked
import GoSem.Claim
import GoSem.ClaimJoined
import GoSem.ClaimMapViews
import Derived.JoinedTies
import Derived.KernelRfl
namespace Go.Proofs.Ytcppcfinnbeboaa
/- THE CELL 'sum', in the pinned program and in every row, IS THE sha256 OF THE DUMP (.gsa) THAT YtcppcfinnbeboaaProg.lean LOADS. Nothing in Lean hashes anything: it is a label: what it is worth is what the hold of that sum in a sandbox is worth. -/
noncomputable def Try.pinned : Pinned := { name := "ytcppcfinnbeboaa", sum := "a2a6d3fafbc941dac5d8a9da36d4c87a9d6e906f81c406f98eedc26af20a756d", checked := Try.checked }
namespace Rows
def none {H : Type} : Left H := { results := [], args := [] }

/-- 'civiltimelaw47.DisjunctiveNarrows': WHATEVER THE INPUT: true; the input reads as it did. -/
def disjunctiveNarrowsSpec : ChangeSpec := { name := "disjunctiveNarrows", fn := fun _ => fun
  | [d1, d2] => { results := [.lit (.bool true)], args := [d1, d2] }
  | _ => none }
def disjunctiveNarrowsRow : OpenClaim := { program := "ytcppcfinnbeboaa", sum := "a2a6d3fafbc941dac5d8a9da36d4c87a9d6e906f81c406f98eedc26af20a756d", func := "civiltime/civiltimelaw47.DisjunctiveNarrows", spec := "disjunctiveNarrows", unfollowed := true, recurses := true, apart := false }
def DisjunctiveNarrowsSaid : Prop := disjunctiveNarrowsRow.holds Try.pinned (OpenSpec.ofChange disjunctiveNarrowsSpec)

/-- ITS FALSE NEIGHBOUR: 'it returns false'. Refute it at one input. -/
def disjunctiveNarrowsWrong : ChangeSpec := { name := "disjunctiveNarrows", fn := fun _ => fun
  | [d1, d2] => { results := [.lit (.bool false)], args := [d1, d2] }
  | _ => none }
def DisjunctiveNarrowsWrongFalsely : Prop := disjunctiveNarrowsRow.holds Try.pinned (OpenSpec.ofChange disjunctiveNarrowsWrong)

/-- 'civiltimelaw47.DisjunctiveHolds': WHATEVER THE INPUT: true; the input reads as it did. -/
def disjunctiveHoldsSpec : ChangeSpec := { name := "disjunctiveHolds", fn := fun _ => fun
  | [d1, d2] => { results := [.lit (.bool true)], args := [d1, d2] }
  | _ => none }
def disjunctiveHoldsRow : OpenClaim := { program := "ytcppcfinnbeboaa", sum := "a2a6d3fafbc941dac5d8a9da36d4c87a9d6e906f81c406f98eedc26af20a756d", func := "civiltime/civiltimelaw47.DisjunctiveHolds", spec := "disjunctiveHolds", unfollowed := true, recurses := true, apart := false }
def DisjunctiveHoldsSaid : Prop := disjunctiveHoldsRow.holds Try.pinned (OpenSpec.ofChange disjunctiveHoldsSpec)

/-- ITS FALSE NEIGHBOUR: 'it returns false'. Refute it at one input. -/
def disjunctiveHoldsWrong : ChangeSpec := { name := "disjunctiveHolds", fn := fun _ => fun
  | [d1, d2] => { results := [.lit (.bool false)], args := [d1, d2] }
  | _ => none }
def DisjunctiveHoldsWrongFalsely : Prop := disjunctiveHoldsRow.holds Try.pinned (OpenSpec.ofChange disjunctiveHoldsWrong)

/-- 'civiltimelaw47.DisjunctiveKept': WHATEVER THE INPUT: true; the input reads as it did. -/
def disjunctiveKeptSpec : ChangeSpec := { name := "disjunctiveKept", fn := fun _ => fun
  | [d1, d2] => { results := [.lit (.bool true)], args := [d1, d2] }
  | _ => none }
def disjunctiveKeptRow : OpenClaim := { program := "ytcppcfinnbeboaa", sum := "a2a6d3fafbc941dac5d8a9da36d4c87a9d6e906f81c406f98eedc26af20a756d", func := "civiltime/civiltimelaw47.DisjunctiveKept", spec := "disjunctiveKept", unfollowed := true, recurses := true, apart := false }
def DisjunctiveKeptSaid : Prop := disjunctiveKeptRow.holds Try.pinned (OpenSpec.ofChange disjunctiveKeptSpec)

/-- ITS FALSE NEIGHBOUR: 'it returns false'. Refute it at one input. -/
def disjunctiveKeptWrong : ChangeSpec := { name := "disjunctiveKept", fn := fun _ => fun
  | [d1, d2] => { results := [.lit (.bool false)], args := [d1, d2] }
  | _ => none }
def DisjunctiveKeptWrongFalsely : Prop := disjunctiveKeptRow.holds Try.pinned (OpenSpec.ofChange disjunctiveKeptWrong)

/-- 'civiltimelaw47.DisjunctiveCounts': WHATEVER THE INPUT: true; the input reads as it did. -/
def disjunctiveCountsSpec : ChangeSpec := { name := "disjunctiveCounts", fn := fun _ => fun
  | [d1, d2, d3, d4] => { results := [.lit (.bool true)], args := [d1, d2, d3, d4] }
  | _ => none }
def disjunctiveCountsRow : OpenClaim := { program := "ytcppcfinnbeboaa", sum := "a2a6d3fafbc941dac5d8a9da36d4c87a9d6e906f81c406f98eedc26af20a756d", func := "civiltime/civiltimelaw47.DisjunctiveCounts", spec := "disjunctiveCounts", unfollowed := true, recurses := true, apart := false }
def DisjunctiveCountsSaid : Prop := disjunctiveCountsRow.holds Try.pinned (OpenSpec.ofChange disjunctiveCountsSpec)

/-- ITS FALSE NEIGHBOUR: 'it returns false'. Refute it at one input. -/
def disjunctiveCountsWrong : ChangeSpec := { name := "disjunctiveCounts", fn := fun _ => fun
  | [d1, d2, d3, d4] => { results := [.lit (.bool false)], args := [d1, d2, d3, d4] }
  | _ => none }
def DisjunctiveCountsWrongFalsely : Prop := disjunctiveCountsRow.holds Try.pinned (OpenSpec.ofChange disjunctiveCountsWrong)

/-- 'civiltimelaw47.DisjunctiveSingle': WHATEVER THE INPUT: true; the input reads as it did. -/
def disjunctiveSingleSpec : ChangeSpec := { name := "disjunctiveSingle", fn := fun _ => fun
  | [d1, d2, d3] => { results := [.lit (.bool true)], args := [d1, d2, d3] }
  | _ => none }
def disjunctiveSingleRow : OpenClaim := { program := "ytcppcfinnbeboaa", sum := "a2a6d3fafbc941dac5d8a9da36d4c87a9d6e906f81c406f98eedc26af20a756d", func := "civiltime/civiltimelaw47.DisjunctiveSingle", spec := "disjunctiveSingle", inPlace := ["internal/reflectlite.ValueOf", "internal/reflectlite.Swapper", "(internal/reflectlite.Value).Len"], unfollowed := true, recurses := true, apart := false }
def DisjunctiveSingleSaid : Prop := disjunctiveSingleRow.holds Try.pinned (OpenSpec.ofChange disjunctiveSingleSpec)

/-- ITS FALSE NEIGHBOUR: 'it returns false'. Refute it at one input. -/
def disjunctiveSingleWrong : ChangeSpec := { name := "disjunctiveSingle", fn := fun _ => fun
  | [d1, d2, d3] => { results := [.lit (.bool false)], args := [d1, d2, d3] }
  | _ => none }
def DisjunctiveSingleWrongFalsely : Prop := disjunctiveSingleRow.holds Try.pinned (OpenSpec.ofChange disjunctiveSingleWrong)

/- THE SECOND FORM. 'bulk': how many values and letters a reading holds, each counted each time it is reached (what is shared counts as often as it is met; a slice's spare places count too). A statement '..UptoSaid' is the law's where the arguments, and the package variables that the reading takes, are together of bulk at most 1048576: NARROWER than '..Said'. Prove '..Said' where nothing that the law and all that it calls make is longer than what came in: it says more and counts as full. Else prove '..UptoSaid'. A law counts once. -/
mutual
def uptoBulk {H : Type} : DataW H → Nat
  | .lit (.string bytes) => bytes.length + 1
  | .lit _ => 1
  | .nil => 1
  | .ptr d => uptoBulk d + 1
  | .slice elems spare => uptoBulkAll elems + uptoBulkAll spare + 1
  | .agg parts => uptoBulkAll parts + 1
  | .iface _ d => uptoBulk d + 1
  | .map entries => uptoBulkEntries entries + 1
  | .held _ => 1
def uptoBulkAll {H : Type} : List (DataW H) → Nat
  | [] => 0
  | d :: r => uptoBulk d + uptoBulkAll r
def uptoBulkEntries {H : Type} : List (Lit × DataW H) → Nat
  | [] => 0
  | x :: r => uptoBulkEntry x + uptoBulkEntries r
def uptoBulkEntry {H : Type} : Lit × DataW H → Nat
  | (.string bytes, d) => bytes.length + uptoBulk d + 1
  | (_, d) => uptoBulk d + 1
 end
def uptoSmall : (H : Type) → List (DataW H) → Bool := fun _ ds => decide (uptoBulkAll ds ≤ 1048576)
def OpenSpec.upto (s : _root_.Go.ChangeSpec) : _root_.Go.OpenSpec := { _root_.Go.OpenSpec.ofChange s with cond := some uptoSmall }

/-- 'civiltimelaw47.DisjunctiveNarrows', WHERE WHAT IT READS IS OF BULK AT MOST 1048576: true; the input reads as it did. -/
def disjunctiveNarrowsUptoRow : OpenClaim := { program := "ytcppcfinnbeboaa", sum := "a2a6d3fafbc941dac5d8a9da36d4c87a9d6e906f81c406f98eedc26af20a756d", func := "civiltime/civiltimelaw47.DisjunctiveNarrows", spec := "disjunctiveNarrows", unfollowed := true, recurses := true, apart := false, narrowed := true }
def DisjunctiveNarrowsUptoSaid : Prop := disjunctiveNarrowsUptoRow.holds Try.pinned (OpenSpec.upto disjunctiveNarrowsSpec)

/-- 'civiltimelaw47.DisjunctiveHolds', WHERE WHAT IT READS IS OF BULK AT MOST 1048576: true; the input reads as it did. -/
def disjunctiveHoldsUptoRow : OpenClaim := { program := "ytcppcfinnbeboaa", sum := "a2a6d3fafbc941dac5d8a9da36d4c87a9d6e906f81c406f98eedc26af20a756d", func := "civiltime/civiltimelaw47.DisjunctiveHolds", spec := "disjunctiveHolds", unfollowed := true, recurses := true, apart := false, narrowed := true }
def DisjunctiveHoldsUptoSaid : Prop := disjunctiveHoldsUptoRow.holds Try.pinned (OpenSpec.upto disjunctiveHoldsSpec)

/-- 'civiltimelaw47.DisjunctiveKept', WHERE WHAT IT READS IS OF BULK AT MOST 1048576: true; the input reads as it did. -/
def disjunctiveKeptUptoRow : OpenClaim := { program := "ytcppcfinnbeboaa", sum := "a2a6d3fafbc941dac5d8a9da36d4c87a9d6e906f81c406f98eedc26af20a756d", func := "civiltime/civiltimelaw47.DisjunctiveKept", spec := "disjunctiveKept", unfollowed := true, recurses := true, apart := false, narrowed := true }
def DisjunctiveKeptUptoSaid : Prop := disjunctiveKeptUptoRow.holds Try.pinned (OpenSpec.upto disjunctiveKeptSpec)

/-- 'civiltimelaw47.DisjunctiveCounts', WHERE WHAT IT READS IS OF BULK AT MOST 1048576: true; the input reads as it did. -/
def disjunctiveCountsUptoRow : OpenClaim := { program := "ytcppcfinnbeboaa", sum := "a2a6d3fafbc941dac5d8a9da36d4c87a9d6e906f81c406f98eedc26af20a756d", func := "civiltime/civiltimelaw47.DisjunctiveCounts", spec := "disjunctiveCounts", unfollowed := true, recurses := true, apart := false, narrowed := true }
def DisjunctiveCountsUptoSaid : Prop := disjunctiveCountsUptoRow.holds Try.pinned (OpenSpec.upto disjunctiveCountsSpec)

/-- 'civiltimelaw47.DisjunctiveSingle', WHERE WHAT IT READS IS OF BULK AT MOST 1048576: true; the input reads as it did. -/
def disjunctiveSingleUptoRow : OpenClaim := { program := "ytcppcfinnbeboaa", sum := "a2a6d3fafbc941dac5d8a9da36d4c87a9d6e906f81c406f98eedc26af20a756d", func := "civiltime/civiltimelaw47.DisjunctiveSingle", spec := "disjunctiveSingle", inPlace := ["internal/reflectlite.ValueOf", "internal/reflectlite.Swapper", "(internal/reflectlite.Value).Len"], unfollowed := true, recurses := true, apart := false, narrowed := true }
def DisjunctiveSingleUptoSaid : Prop := disjunctiveSingleUptoRow.holds Try.pinned (OpenSpec.upto disjunctiveSingleSpec)

end Rows
end Go.Proofs.Ytcppcfinnbeboaa
