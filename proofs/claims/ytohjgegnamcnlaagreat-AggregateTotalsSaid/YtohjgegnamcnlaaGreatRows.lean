/-
  No cell of these rows narrows 'for every input' (looked for: loops, veiled, ifaces, maps, wideKeys, modest, calm, conditions, laid).
  DERIVED. THE GIVEN ROWS OF THIS SEAT. 5 by the template 'for every input the law returns true; each argument reads behind the call as it read before'; 0 by the template 'total and deterministic' (their statements: YtohjgegnamcnlaaGreatTotals.lean).
  GIVEN WITH THE SEED: the statements are not yours to turn. If you find one false, say at which input.
  Laid BY PROGRAM, IN A SANDBOX (cutbox-rows.mjs): the forced cells as the released guide's own fill.sh prints them over the translation b16130dc9654b26e… (all of the seat's roots in one cut). By AI agents, Wed Nov 11 2026. No macro, syntax, notation, axiom, sorry.
-/
import Derived.Test.YtohjgegnamcnlaaGreatChecked
import GoSem.Claim
import GoSem.ClaimJoined
import GoSem.ClaimMapViews
import Derived.JoinedTies
import Derived.KernelRfl
namespace Go.Proofs.YtohjgegnamcnlaaGreat
/- THE CELL 'sum', in the pinned program and in every row, IS THE sha256 OF THE DUMP (.gsa) THAT YtohjgegnamcnlaaGreatProg.lean LOADS. Nothing in Lean hashes anything: it is a label: what it is worth is what the hold of that sum in a sandbox is worth. -/
noncomputable def Tryz.pinned : Pinned := { name := "ytohjgegnamcnlaagreat", sum := "b16130dc9654b26ebedc074bfce0c93175218c017b9e2befea2a1b912704270a", checked := Tryz.checked }
namespace Rows
def none {H : Type} : Left H := { results := [], args := [] }

/-- 'civiltimelaw39.AggregateGroups': WHATEVER THE INPUT: true; the input reads as it did. -/
def aggregateGroupsSpec : ChangeSpec := { name := "aggregateGroups", fn := fun _ => fun
  | [d1, d2, d3, d4] => { results := [.lit (.bool true)], args := [d1, d2, d3, d4] }
  | _ => none }
def aggregateGroupsRow : OpenClaim := { program := "ytohjgegnamcnlaagreat", sum := "b16130dc9654b26ebedc074bfce0c93175218c017b9e2befea2a1b912704270a", func := "civiltime/civiltimelaw39.AggregateGroups", spec := "aggregateGroups", inPlace := ["math/bits.Add64", "math/bits.Sub64"], unfollowed := true, recurses := true, apart := false }
def AggregateGroupsSaid : Prop := aggregateGroupsRow.holds Tryz.pinned (OpenSpec.ofChange aggregateGroupsSpec)

/-- ITS FALSE NEIGHBOUR: 'it returns false'. Refute it at one input. -/
def aggregateGroupsWrong : ChangeSpec := { name := "aggregateGroups", fn := fun _ => fun
  | [d1, d2, d3, d4] => { results := [.lit (.bool false)], args := [d1, d2, d3, d4] }
  | _ => none }
def AggregateGroupsWrongFalsely : Prop := aggregateGroupsRow.holds Tryz.pinned (OpenSpec.ofChange aggregateGroupsWrong)

/-- 'civiltimelaw39.AggregateTotals': WHATEVER THE INPUT: true; the input reads as it did. -/
def aggregateTotalsSpec : ChangeSpec := { name := "aggregateTotals", fn := fun _ => fun
  | [d1, d2, d3] => { results := [.lit (.bool true)], args := [d1, d2, d3] }
  | _ => none }
def aggregateTotalsRow : OpenClaim := { program := "ytohjgegnamcnlaagreat", sum := "b16130dc9654b26ebedc074bfce0c93175218c017b9e2befea2a1b912704270a", func := "civiltime/civiltimelaw39.AggregateTotals", spec := "aggregateTotals", inPlace := ["math/bits.Add64", "math/bits.Sub64"], unfollowed := true, recurses := true, apart := false }
def AggregateTotalsSaid : Prop := aggregateTotalsRow.holds Tryz.pinned (OpenSpec.ofChange aggregateTotalsSpec)

/-- ITS FALSE NEIGHBOUR: 'it returns false'. Refute it at one input. -/
def aggregateTotalsWrong : ChangeSpec := { name := "aggregateTotals", fn := fun _ => fun
  | [d1, d2, d3] => { results := [.lit (.bool false)], args := [d1, d2, d3] }
  | _ => none }
def AggregateTotalsWrongFalsely : Prop := aggregateTotalsRow.holds Tryz.pinned (OpenSpec.ofChange aggregateTotalsWrong)

/-- 'civiltimelaw39.AggregateMoving': WHATEVER THE INPUT: true; the input reads as it did. -/
def aggregateMovingSpec : ChangeSpec := { name := "aggregateMoving", fn := fun _ => fun
  | [d1, d2, d3] => { results := [.lit (.bool true)], args := [d1, d2, d3] }
  | _ => none }
def aggregateMovingRow : OpenClaim := { program := "ytohjgegnamcnlaagreat", sum := "b16130dc9654b26ebedc074bfce0c93175218c017b9e2befea2a1b912704270a", func := "civiltime/civiltimelaw39.AggregateMoving", spec := "aggregateMoving", inPlace := ["math/bits.Add64", "math/bits.Sub64"], unfollowed := true, recurses := true, apart := false }
def AggregateMovingSaid : Prop := aggregateMovingRow.holds Tryz.pinned (OpenSpec.ofChange aggregateMovingSpec)

/-- ITS FALSE NEIGHBOUR: 'it returns false'. Refute it at one input. -/
def aggregateMovingWrong : ChangeSpec := { name := "aggregateMoving", fn := fun _ => fun
  | [d1, d2, d3] => { results := [.lit (.bool false)], args := [d1, d2, d3] }
  | _ => none }
def AggregateMovingWrongFalsely : Prop := aggregateMovingRow.holds Tryz.pinned (OpenSpec.ofChange aggregateMovingWrong)

/-- 'civiltimelaw39.AggregateSteps': WHATEVER THE INPUT: true; the input reads as it did. -/
def aggregateStepsSpec : ChangeSpec := { name := "aggregateSteps", fn := fun _ => fun
  | [d1, d2] => { results := [.lit (.bool true)], args := [d1, d2] }
  | _ => none }
def aggregateStepsRow : OpenClaim := { program := "ytohjgegnamcnlaagreat", sum := "b16130dc9654b26ebedc074bfce0c93175218c017b9e2befea2a1b912704270a", func := "civiltime/civiltimelaw39.AggregateSteps", spec := "aggregateSteps", inPlace := ["math/bits.Add64", "math/bits.Sub64"], unfollowed := true, recurses := true, apart := false }
def AggregateStepsSaid : Prop := aggregateStepsRow.holds Tryz.pinned (OpenSpec.ofChange aggregateStepsSpec)

/-- ITS FALSE NEIGHBOUR: 'it returns false'. Refute it at one input. -/
def aggregateStepsWrong : ChangeSpec := { name := "aggregateSteps", fn := fun _ => fun
  | [d1, d2] => { results := [.lit (.bool false)], args := [d1, d2] }
  | _ => none }
def AggregateStepsWrongFalsely : Prop := aggregateStepsRow.holds Tryz.pinned (OpenSpec.ofChange aggregateStepsWrong)

/-- 'civiltimelaw39.AggregateMost': WHATEVER THE INPUT: true; the input reads as it did. -/
def aggregateMostSpec : ChangeSpec := { name := "aggregateMost", fn := fun _ => fun
  | [d1, d2] => { results := [.lit (.bool true)], args := [d1, d2] }
  | _ => none }
def aggregateMostRow : OpenClaim := { program := "ytohjgegnamcnlaagreat", sum := "b16130dc9654b26ebedc074bfce0c93175218c017b9e2befea2a1b912704270a", func := "civiltime/civiltimelaw39.AggregateMost", spec := "aggregateMost", inPlace := ["math/bits.Add64", "math/bits.Sub64"], unfollowed := true, recurses := true, apart := false }
def AggregateMostSaid : Prop := aggregateMostRow.holds Tryz.pinned (OpenSpec.ofChange aggregateMostSpec)

/-- ITS FALSE NEIGHBOUR: 'it returns false'. Refute it at one input. -/
def aggregateMostWrong : ChangeSpec := { name := "aggregateMost", fn := fun _ => fun
  | [d1, d2] => { results := [.lit (.bool false)], args := [d1, d2] }
  | _ => none }
def AggregateMostWrongFalsely : Prop := aggregateMostRow.holds Tryz.pinned (OpenSpec.ofChange aggregateMostWrong)

/- THE SECOND FORM. 'bulk': how many values and letters a reading holds, each counted each time it is reached (what is shared counts as often as it is met; a slice's spare places count too). A statement '..UptoSaid' is the law's where the arguments, and the package variables that the reading takes, are together of bulk at most 1048576: NARROWER than '..Said'. Prove '..Said' where nothing that the law and all that it calls make is longer than what came in: it says more and counts as full. Else prove '..UptoSaid'. A law counts once. -/
mutual
def uptoBulk {H : Type} : DataW H → Nat
  | .lit (.string bytes) => bytes.length + 1
  | .lit _ => 1
  | .nil => 1
  | .ptr d => uptoBulk d + 1
  | .slice elems spare => uptoBulkAll elems + uptoBulkAll spare + 1
  | .agg parts => uptoBulkAll parts + 1
  | .iface _ d => uptoBulk d + 1
  | .map entries => uptoBulkEntries entries + 1
  | .held _ => 1
def uptoBulkAll {H : Type} : List (DataW H) → Nat
  | [] => 0
  | d :: r => uptoBulk d + uptoBulkAll r
def uptoBulkEntries {H : Type} : List (Lit × DataW H) → Nat
  | [] => 0
  | x :: r => uptoBulkEntry x + uptoBulkEntries r
def uptoBulkEntry {H : Type} : Lit × DataW H → Nat
  | (.string bytes, d) => bytes.length + uptoBulk d + 1
  | (_, d) => uptoBulk d + 1
 end
def uptoSmall : (H : Type) → List (DataW H) → Bool := fun _ ds => decide (uptoBulkAll ds ≤ 1048576)
def OpenSpec.upto (s : _root_.Go.ChangeSpec) : _root_.Go.OpenSpec := { _root_.Go.OpenSpec.ofChange s with cond := some uptoSmall }

/-- 'civiltimelaw39.AggregateGroups', WHERE WHAT IT READS IS OF BULK AT MOST 1048576: true; the input reads as it did. -/
def aggregateGroupsUptoRow : OpenClaim := { program := "ytohjgegnamcnlaagreat", sum := "b16130dc9654b26ebedc074bfce0c93175218c017b9e2befea2a1b912704270a", func := "civiltime/civiltimelaw39.AggregateGroups", spec := "aggregateGroups", inPlace := ["math/bits.Add64", "math/bits.Sub64"], unfollowed := true, recurses := true, apart := false, narrowed := true }
def AggregateGroupsUptoSaid : Prop := aggregateGroupsUptoRow.holds Tryz.pinned (OpenSpec.upto aggregateGroupsSpec)

/-- 'civiltimelaw39.AggregateTotals', WHERE WHAT IT READS IS OF BULK AT MOST 1048576: true; the input reads as it did. -/
def aggregateTotalsUptoRow : OpenClaim := { program := "ytohjgegnamcnlaagreat", sum := "b16130dc9654b26ebedc074bfce0c93175218c017b9e2befea2a1b912704270a", func := "civiltime/civiltimelaw39.AggregateTotals", spec := "aggregateTotals", inPlace := ["math/bits.Add64", "math/bits.Sub64"], unfollowed := true, recurses := true, apart := false, narrowed := true }
def AggregateTotalsUptoSaid : Prop := aggregateTotalsUptoRow.holds Tryz.pinned (OpenSpec.upto aggregateTotalsSpec)

/-- 'civiltimelaw39.AggregateMoving', WHERE WHAT IT READS IS OF BULK AT MOST 1048576: true; the input reads as it did. -/
def aggregateMovingUptoRow : OpenClaim := { program := "ytohjgegnamcnlaagreat", sum := "b16130dc9654b26ebedc074bfce0c93175218c017b9e2befea2a1b912704270a", func := "civiltime/civiltimelaw39.AggregateMoving", spec := "aggregateMoving", inPlace := ["math/bits.Add64", "math/bits.Sub64"], unfollowed := true, recurses := true, apart := false, narrowed := true }
def AggregateMovingUptoSaid : Prop := aggregateMovingUptoRow.holds Tryz.pinned (OpenSpec.upto aggregateMovingSpec)

/-- 'civiltimelaw39.AggregateSteps', WHERE WHAT IT READS IS OF BULK AT MOST 1048576: true; the input reads as it did. -/
def aggregateStepsUptoRow : OpenClaim := { program := "ytohjgegnamcnlaagreat", sum := "b16130dc9654b26ebedc074bfce0c93175218c017b9e2befea2a1b912704270a", func := "civiltime/civiltimelaw39.AggregateSteps", spec := "aggregateSteps", inPlace := ["math/bits.Add64", "math/bits.Sub64"], unfollowed := true, recurses := true, apart := false, narrowed := true }
def AggregateStepsUptoSaid : Prop := aggregateStepsUptoRow.holds Tryz.pinned (OpenSpec.upto aggregateStepsSpec)

/-- 'civiltimelaw39.AggregateMost', WHERE WHAT IT READS IS OF BULK AT MOST 1048576: true; the input reads as it did. -/
def aggregateMostUptoRow : OpenClaim := { program := "ytohjgegnamcnlaagreat", sum := "b16130dc9654b26ebedc074bfce0c93175218c017b9e2befea2a1b912704270a", func := "civiltime/civiltimelaw39.AggregateMost", spec := "aggregateMost", inPlace := ["math/bits.Add64", "math/bits.Sub64"], unfollowed := true, recurses := true, apart := false, narrowed := true }
def AggregateMostUptoSaid : Prop := aggregateMostUptoRow.holds Tryz.pinned (OpenSpec.upto aggregateMostSpec)

end Rows
end Go.Proofs.YtohjgegnamcnlaaGreat
