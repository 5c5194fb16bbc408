/-
  No cell of these rows narrows 'for every input' (looked for: loops, veiled, ifaces, maps, wideKeys, modest, calm, conditions, laid).
  DERIVED. THE GIVEN ROWS OF THIS SEAT. 5 by the template 'for every input the law returns true; each argument reads behind the call as it read before'; 0 by the template 'total and deterministic' (their statements: YtohjgegnamcnlaaTotals.lean).
  GIVEN WITH THE SEED: the statements are not yours to turn. If you find one false, say at which input.
  Laid BY PROGRAM, IN A SANDBOX (cutbox-rows.mjs): the forced cells as the released guide's own fill.sh prints them over the translation fd34acad591dd0f6… (all of the seat's roots in one cut). By AI agents, Wed Nov 11 2026. No macro, syntax, notation, axiom, sorry.
-/
import Derived.Test.YtohjgegnamcnlaaChecked
import GoSem.Claim
import GoSem.ClaimJoined
import GoSem.ClaimMapViews
import Derived.JoinedTies
import Derived.KernelRfl
namespace Go.Proofs.Ytohjgegnamcnlaa
/- THE CELL 'sum', in the pinned program and in every row, IS THE sha256 OF THE DUMP (.gsa) THAT YtohjgegnamcnlaaProg.lean LOADS. Nothing in Lean hashes anything: it is a label: what it is worth is what the hold of that sum in a sandbox is worth. -/
noncomputable def Try.pinned : Pinned := { name := "ytohjgegnamcnlaa", sum := "fd34acad591dd0f62352b43eaadedecfd1c3ffc1d8aedd0235fbf5f93be896b1", checked := Try.checked }
namespace Rows
def none {H : Type} : Left H := { results := [], args := [] }

/-- 'civiltimelaw39.AggregatePointwise': WHATEVER THE INPUT: true; the input reads as it did. -/
def aggregatePointwiseSpec : ChangeSpec := { name := "aggregatePointwise", fn := fun _ => fun
  | [d] => { results := [.lit (.bool true)], args := [d] }
  | _ => none }
def aggregatePointwiseRow : OpenClaim := { program := "ytohjgegnamcnlaa", sum := "fd34acad591dd0f62352b43eaadedecfd1c3ffc1d8aedd0235fbf5f93be896b1", func := "civiltime/civiltimelaw39.AggregatePointwise", spec := "aggregatePointwise", inPlace := ["math/bits.Add64", "math/bits.Sub64"], unfollowed := true, recurses := true, apart := false }
def AggregatePointwiseSaid : Prop := aggregatePointwiseRow.holds Try.pinned (OpenSpec.ofChange aggregatePointwiseSpec)

/-- ITS FALSE NEIGHBOUR: 'it returns false'. Refute it at one input. -/
def aggregatePointwiseWrong : ChangeSpec := { name := "aggregatePointwise", fn := fun _ => fun
  | [d] => { results := [.lit (.bool false)], args := [d] }
  | _ => none }
def AggregatePointwiseWrongFalsely : Prop := aggregatePointwiseRow.holds Try.pinned (OpenSpec.ofChange aggregatePointwiseWrong)

/-- 'civiltimelaw39.AggregateSplits': WHATEVER THE INPUT: true; the input reads as it did. -/
def aggregateSplitsSpec : ChangeSpec := { name := "aggregateSplits", fn := fun _ => fun
  | [d1, d2, d3, d4, d5] => { results := [.lit (.bool true)], args := [d1, d2, d3, d4, d5] }
  | _ => none }
def aggregateSplitsRow : OpenClaim := { program := "ytohjgegnamcnlaa", sum := "fd34acad591dd0f62352b43eaadedecfd1c3ffc1d8aedd0235fbf5f93be896b1", func := "civiltime/civiltimelaw39.AggregateSplits", spec := "aggregateSplits", inPlace := ["math/bits.Add64", "math/bits.Sub64"], unfollowed := true, recurses := true, apart := false }
def AggregateSplitsSaid : Prop := aggregateSplitsRow.holds Try.pinned (OpenSpec.ofChange aggregateSplitsSpec)

/-- ITS FALSE NEIGHBOUR: 'it returns false'. Refute it at one input. -/
def aggregateSplitsWrong : ChangeSpec := { name := "aggregateSplits", fn := fun _ => fun
  | [d1, d2, d3, d4, d5] => { results := [.lit (.bool false)], args := [d1, d2, d3, d4, d5] }
  | _ => none }
def AggregateSplitsWrongFalsely : Prop := aggregateSplitsRow.holds Try.pinned (OpenSpec.ofChange aggregateSplitsWrong)

/-- 'civiltimelaw39.AggregateWindows': WHATEVER THE INPUT: true; the input reads as it did. -/
def aggregateWindowsSpec : ChangeSpec := { name := "aggregateWindows", fn := fun _ => fun
  | [d1, d2, d3, d4] => { results := [.lit (.bool true)], args := [d1, d2, d3, d4] }
  | _ => none }
def aggregateWindowsRow : OpenClaim := { program := "ytohjgegnamcnlaa", sum := "fd34acad591dd0f62352b43eaadedecfd1c3ffc1d8aedd0235fbf5f93be896b1", func := "civiltime/civiltimelaw39.AggregateWindows", spec := "aggregateWindows", inPlace := ["math/bits.Add64", "math/bits.Sub64"], unfollowed := true, recurses := true, apart := false }
def AggregateWindowsSaid : Prop := aggregateWindowsRow.holds Try.pinned (OpenSpec.ofChange aggregateWindowsSpec)

/-- ITS FALSE NEIGHBOUR: 'it returns false'. Refute it at one input. -/
def aggregateWindowsWrong : ChangeSpec := { name := "aggregateWindows", fn := fun _ => fun
  | [d1, d2, d3, d4] => { results := [.lit (.bool false)], args := [d1, d2, d3, d4] }
  | _ => none }
def AggregateWindowsWrongFalsely : Prop := aggregateWindowsRow.holds Try.pinned (OpenSpec.ofChange aggregateWindowsWrong)

/-- 'civiltimelaw39.AggregateTops': WHATEVER THE INPUT: true; the input reads as it did. -/
def aggregateTopsSpec : ChangeSpec := { name := "aggregateTops", fn := fun _ => fun
  | [d1, d2] => { results := [.lit (.bool true)], args := [d1, d2] }
  | _ => none }
def aggregateTopsRow : OpenClaim := { program := "ytohjgegnamcnlaa", sum := "fd34acad591dd0f62352b43eaadedecfd1c3ffc1d8aedd0235fbf5f93be896b1", func := "civiltime/civiltimelaw39.AggregateTops", spec := "aggregateTops", inPlace := ["math/bits.Add64", "math/bits.Sub64"], unfollowed := true, recurses := true, apart := false }
def AggregateTopsSaid : Prop := aggregateTopsRow.holds Try.pinned (OpenSpec.ofChange aggregateTopsSpec)

/-- ITS FALSE NEIGHBOUR: 'it returns false'. Refute it at one input. -/
def aggregateTopsWrong : ChangeSpec := { name := "aggregateTops", fn := fun _ => fun
  | [d1, d2] => { results := [.lit (.bool false)], args := [d1, d2] }
  | _ => none }
def AggregateTopsWrongFalsely : Prop := aggregateTopsRow.holds Try.pinned (OpenSpec.ofChange aggregateTopsWrong)

/-- 'civiltimelaw39.AggregateForm': WHATEVER THE INPUT: true; the input reads as it did. -/
def aggregateFormSpec : ChangeSpec := { name := "aggregateForm", fn := fun _ => fun
  | [d1, d2, d3, d4, d5] => { results := [.lit (.bool true)], args := [d1, d2, d3, d4, d5] }
  | _ => none }
def aggregateFormRow : OpenClaim := { program := "ytohjgegnamcnlaa", sum := "fd34acad591dd0f62352b43eaadedecfd1c3ffc1d8aedd0235fbf5f93be896b1", func := "civiltime/civiltimelaw39.AggregateForm", spec := "aggregateForm", inPlace := ["math/bits.Add64", "math/bits.Sub64"], unfollowed := true, recurses := true, apart := false }
def AggregateFormSaid : Prop := aggregateFormRow.holds Try.pinned (OpenSpec.ofChange aggregateFormSpec)

/-- ITS FALSE NEIGHBOUR: 'it returns false'. Refute it at one input. -/
def aggregateFormWrong : ChangeSpec := { name := "aggregateForm", fn := fun _ => fun
  | [d1, d2, d3, d4, d5] => { results := [.lit (.bool false)], args := [d1, d2, d3, d4, d5] }
  | _ => none }
def AggregateFormWrongFalsely : Prop := aggregateFormRow.holds Try.pinned (OpenSpec.ofChange aggregateFormWrong)

/- THE SECOND FORM. 'bulk': how many values and letters a reading holds, each counted each time it is reached (what is shared counts as often as it is met; a slice's spare places count too). A statement '..UptoSaid' is the law's where the arguments, and the package variables that the reading takes, are together of bulk at most 1048576: NARROWER than '..Said'. Prove '..Said' where nothing that the law and all that it calls make is longer than what came in: it says more and counts as full. Else prove '..UptoSaid'. A law counts once. -/
mutual
def uptoBulk {H : Type} : DataW H → Nat
  | .lit (.string bytes) => bytes.length + 1
  | .lit _ => 1
  | .nil => 1
  | .ptr d => uptoBulk d + 1
  | .slice elems spare => uptoBulkAll elems + uptoBulkAll spare + 1
  | .agg parts => uptoBulkAll parts + 1
  | .iface _ d => uptoBulk d + 1
  | .map entries => uptoBulkEntries entries + 1
  | .held _ => 1
def uptoBulkAll {H : Type} : List (DataW H) → Nat
  | [] => 0
  | d :: r => uptoBulk d + uptoBulkAll r
def uptoBulkEntries {H : Type} : List (Lit × DataW H) → Nat
  | [] => 0
  | x :: r => uptoBulkEntry x + uptoBulkEntries r
def uptoBulkEntry {H : Type} : Lit × DataW H → Nat
  | (.string bytes, d) => bytes.length + uptoBulk d + 1
  | (_, d) => uptoBulk d + 1
 end
def uptoSmall : (H : Type) → List (DataW H) → Bool := fun _ ds => decide (uptoBulkAll ds ≤ 1048576)
def OpenSpec.upto (s : _root_.Go.ChangeSpec) : _root_.Go.OpenSpec := { _root_.Go.OpenSpec.ofChange s with cond := some uptoSmall }

/-- 'civiltimelaw39.AggregatePointwise', WHERE WHAT IT READS IS OF BULK AT MOST 1048576: true; the input reads as it did. -/
def aggregatePointwiseUptoRow : OpenClaim := { program := "ytohjgegnamcnlaa", sum := "fd34acad591dd0f62352b43eaadedecfd1c3ffc1d8aedd0235fbf5f93be896b1", func := "civiltime/civiltimelaw39.AggregatePointwise", spec := "aggregatePointwise", inPlace := ["math/bits.Add64", "math/bits.Sub64"], unfollowed := true, recurses := true, apart := false, narrowed := true }
def AggregatePointwiseUptoSaid : Prop := aggregatePointwiseUptoRow.holds Try.pinned (OpenSpec.upto aggregatePointwiseSpec)

/-- 'civiltimelaw39.AggregateSplits', WHERE WHAT IT READS IS OF BULK AT MOST 1048576: true; the input reads as it did. -/
def aggregateSplitsUptoRow : OpenClaim := { program := "ytohjgegnamcnlaa", sum := "fd34acad591dd0f62352b43eaadedecfd1c3ffc1d8aedd0235fbf5f93be896b1", func := "civiltime/civiltimelaw39.AggregateSplits", spec := "aggregateSplits", inPlace := ["math/bits.Add64", "math/bits.Sub64"], unfollowed := true, recurses := true, apart := false, narrowed := true }
def AggregateSplitsUptoSaid : Prop := aggregateSplitsUptoRow.holds Try.pinned (OpenSpec.upto aggregateSplitsSpec)

/-- 'civiltimelaw39.AggregateWindows', WHERE WHAT IT READS IS OF BULK AT MOST 1048576: true; the input reads as it did. -/
def aggregateWindowsUptoRow : OpenClaim := { program := "ytohjgegnamcnlaa", sum := "fd34acad591dd0f62352b43eaadedecfd1c3ffc1d8aedd0235fbf5f93be896b1", func := "civiltime/civiltimelaw39.AggregateWindows", spec := "aggregateWindows", inPlace := ["math/bits.Add64", "math/bits.Sub64"], unfollowed := true, recurses := true, apart := false, narrowed := true }
def AggregateWindowsUptoSaid : Prop := aggregateWindowsUptoRow.holds Try.pinned (OpenSpec.upto aggregateWindowsSpec)

/-- 'civiltimelaw39.AggregateTops', WHERE WHAT IT READS IS OF BULK AT MOST 1048576: true; the input reads as it did. -/
def aggregateTopsUptoRow : OpenClaim := { program := "ytohjgegnamcnlaa", sum := "fd34acad591dd0f62352b43eaadedecfd1c3ffc1d8aedd0235fbf5f93be896b1", func := "civiltime/civiltimelaw39.AggregateTops", spec := "aggregateTops", inPlace := ["math/bits.Add64", "math/bits.Sub64"], unfollowed := true, recurses := true, apart := false, narrowed := true }
def AggregateTopsUptoSaid : Prop := aggregateTopsUptoRow.holds Try.pinned (OpenSpec.upto aggregateTopsSpec)

/-- 'civiltimelaw39.AggregateForm', WHERE WHAT IT READS IS OF BULK AT MOST 1048576: true; the input reads as it did. -/
def aggregateFormUptoRow : OpenClaim := { program := "ytohjgegnamcnlaa", sum := "fd34acad591dd0f62352b43eaadedecfd1c3ffc1d8aedd0235fbf5f93be896b1", func := "civiltime/civiltimelaw39.AggregateForm", spec := "aggregateForm", inPlace := ["math/bits.Add64", "math/bits.Sub64"], unfollowed := true, recurses := true, apart := false, narrowed := true }
def AggregateFormUptoSaid : Prop := aggregateFormUptoRow.holds Try.pinned (OpenSpec.upto aggregateFormSpec)

end Rows
end Go.Proofs.Ytohjgegnamcnlaa
