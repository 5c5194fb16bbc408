/-
  No cell of these rows narrows 'for every input' (looked for: loops, veiled, ifaces, maps, wideKeys, modest, calm, conditions, laid).
  DERIVED. THE GIVEN ROWS OF THIS SEAT. 10 by the template 'for every input the law returns true; each argument reads behind the call as it read before'; 0 by the template 'total and deterministic' (their statements: YthnikjmdnhlneaaTotals.lean).
  GIVEN WITH THE SEED: the statements are not yours to turn. If you find one false, say at which input.
  Laid BY PROGRAM, IN A SANDBOX (cutbox-rows.mjs): the forced cells as the released guide's own fill.sh prints them over the translation 372aafb6d2752447… (all of the seat's roots in one cut). By AI agents, Wed Nov 11 2026. No macro, syntax, notation, axiom, sorry.
-/
import Derived.Test.YthnikjmdnhlneaaChecked
import GoSem.Claim
import GoSem.ClaimJoined
import GoSem.ClaimMapViews
import Derived.JoinedTies
import Derived.KernelRfl
namespace Go.Proofs.Ythnikjmdnhlneaa
/- THE CELL 'sum', in the pinned program and in every row, IS THE sha256 OF THE DUMP (.gsa) THAT YthnikjmdnhlneaaProg.lean LOADS. Nothing in Lean hashes anything: it is a label: what it is worth is what the hold of that sum in a sandbox is worth. -/
noncomputable def Try.pinned : Pinned := { name := "ythnikjmdnhlneaa", sum := "372aafb6d2752447852bdcdcc0b8bb033d6b65db941b10500218c4b305ba5eb1", checked := Try.checked }
namespace Rows
def none {H : Type} : Left H := { results := [], args := [] }

/-- 'civiltimelaw12.RunsValid': WHATEVER THE INPUT: true; the input reads as it did. -/
def runsValidSpec : ChangeSpec := { name := "runsValid", fn := fun _ => fun
  | [d1, d2] => { results := [.lit (.bool true)], args := [d1, d2] }
  | _ => none }
def runsValidRow : OpenClaim := { program := "ythnikjmdnhlneaa", sum := "372aafb6d2752447852bdcdcc0b8bb033d6b65db941b10500218c4b305ba5eb1", func := "civiltime/civiltimelaw12.RunsValid", spec := "runsValid", unfollowed := true, recurses := true, apart := false }
def RunsValidSaid : Prop := runsValidRow.holds Try.pinned (OpenSpec.ofChange runsValidSpec)

/-- ITS FALSE NEIGHBOUR: 'it returns false'. Refute it at one input. -/
def runsValidWrong : ChangeSpec := { name := "runsValid", fn := fun _ => fun
  | [d1, d2] => { results := [.lit (.bool false)], args := [d1, d2] }
  | _ => none }
def RunsValidWrongFalsely : Prop := runsValidRow.holds Try.pinned (OpenSpec.ofChange runsValidWrong)

/-- 'civiltimelaw12.RunsAlgebra': WHATEVER THE INPUT: true; the input reads as it did. -/
def runsAlgebraSpec : ChangeSpec := { name := "runsAlgebra", fn := fun _ => fun
  | [d1, d2, d3, d4] => { results := [.lit (.bool true)], args := [d1, d2, d3, d4] }
  | _ => none }
def runsAlgebraRow : OpenClaim := { program := "ythnikjmdnhlneaa", sum := "372aafb6d2752447852bdcdcc0b8bb033d6b65db941b10500218c4b305ba5eb1", func := "civiltime/civiltimelaw12.RunsAlgebra", spec := "runsAlgebra", unfollowed := true, recurses := true, apart := false }
def RunsAlgebraSaid : Prop := runsAlgebraRow.holds Try.pinned (OpenSpec.ofChange runsAlgebraSpec)

/-- ITS FALSE NEIGHBOUR: 'it returns false'. Refute it at one input. -/
def runsAlgebraWrong : ChangeSpec := { name := "runsAlgebra", fn := fun _ => fun
  | [d1, d2, d3, d4] => { results := [.lit (.bool false)], args := [d1, d2, d3, d4] }
  | _ => none }
def RunsAlgebraWrongFalsely : Prop := runsAlgebraRow.holds Try.pinned (OpenSpec.ofChange runsAlgebraWrong)

/-- 'civiltimelaw12.RunsMeasures': WHATEVER THE INPUT: true; the input reads as it did. -/
def runsMeasuresSpec : ChangeSpec := { name := "runsMeasures", fn := fun _ => fun
  | [d1, d2, d3] => { results := [.lit (.bool true)], args := [d1, d2, d3] }
  | _ => none }
def runsMeasuresRow : OpenClaim := { program := "ythnikjmdnhlneaa", sum := "372aafb6d2752447852bdcdcc0b8bb033d6b65db941b10500218c4b305ba5eb1", func := "civiltime/civiltimelaw12.RunsMeasures", spec := "runsMeasures", unfollowed := true, recurses := true, apart := false }
def RunsMeasuresSaid : Prop := runsMeasuresRow.holds Try.pinned (OpenSpec.ofChange runsMeasuresSpec)

/-- ITS FALSE NEIGHBOUR: 'it returns false'. Refute it at one input. -/
def runsMeasuresWrong : ChangeSpec := { name := "runsMeasures", fn := fun _ => fun
  | [d1, d2, d3] => { results := [.lit (.bool false)], args := [d1, d2, d3] }
  | _ => none }
def RunsMeasuresWrongFalsely : Prop := runsMeasuresRow.holds Try.pinned (OpenSpec.ofChange runsMeasuresWrong)

/-- 'civiltimelaw12.RunsCounts': WHATEVER THE INPUT: true; the input reads as it did. -/
def runsCountsSpec : ChangeSpec := { name := "runsCounts", fn := fun _ => fun
  | [d1, d2, d3] => { results := [.lit (.bool true)], args := [d1, d2, d3] }
  | _ => none }
def runsCountsRow : OpenClaim := { program := "ythnikjmdnhlneaa", sum := "372aafb6d2752447852bdcdcc0b8bb033d6b65db941b10500218c4b305ba5eb1", func := "civiltime/civiltimelaw12.RunsCounts", spec := "runsCounts", unfollowed := true, recurses := true, apart := false }
def RunsCountsSaid : Prop := runsCountsRow.holds Try.pinned (OpenSpec.ofChange runsCountsSpec)

/-- ITS FALSE NEIGHBOUR: 'it returns false'. Refute it at one input. -/
def runsCountsWrong : ChangeSpec := { name := "runsCounts", fn := fun _ => fun
  | [d1, d2, d3] => { results := [.lit (.bool false)], args := [d1, d2, d3] }
  | _ => none }
def RunsCountsWrongFalsely : Prop := runsCountsRow.holds Try.pinned (OpenSpec.ofChange runsCountsWrong)

/-- 'civiltimelaw12.RunsInverse': WHATEVER THE INPUT: true; the input reads as it did. -/
def runsInverseSpec : ChangeSpec := { name := "runsInverse", fn := fun _ => fun
  | [d1, d2, d3] => { results := [.lit (.bool true)], args := [d1, d2, d3] }
  | _ => none }
def runsInverseRow : OpenClaim := { program := "ythnikjmdnhlneaa", sum := "372aafb6d2752447852bdcdcc0b8bb033d6b65db941b10500218c4b305ba5eb1", func := "civiltime/civiltimelaw12.RunsInverse", spec := "runsInverse", unfollowed := true, recurses := true, apart := false }
def RunsInverseSaid : Prop := runsInverseRow.holds Try.pinned (OpenSpec.ofChange runsInverseSpec)

/-- ITS FALSE NEIGHBOUR: 'it returns false'. Refute it at one input. -/
def runsInverseWrong : ChangeSpec := { name := "runsInverse", fn := fun _ => fun
  | [d1, d2, d3] => { results := [.lit (.bool false)], args := [d1, d2, d3] }
  | _ => none }
def RunsInverseWrongFalsely : Prop := runsInverseRow.holds Try.pinned (OpenSpec.ofChange runsInverseWrong)

/-- 'civiltimelaw12.RunsOperations': WHATEVER THE INPUT: true; the input reads as it did. -/
def runsOperationsSpec : ChangeSpec := { name := "runsOperations", fn := fun _ => fun
  | [d1, d2, d3] => { results := [.lit (.bool true)], args := [d1, d2, d3] }
  | _ => none }
def runsOperationsRow : OpenClaim := { program := "ythnikjmdnhlneaa", sum := "372aafb6d2752447852bdcdcc0b8bb033d6b65db941b10500218c4b305ba5eb1", func := "civiltime/civiltimelaw12.RunsOperations", spec := "runsOperations", unfollowed := true, recurses := true, apart := false }
def RunsOperationsSaid : Prop := runsOperationsRow.holds Try.pinned (OpenSpec.ofChange runsOperationsSpec)

/-- ITS FALSE NEIGHBOUR: 'it returns false'. Refute it at one input. -/
def runsOperationsWrong : ChangeSpec := { name := "runsOperations", fn := fun _ => fun
  | [d1, d2, d3] => { results := [.lit (.bool false)], args := [d1, d2, d3] }
  | _ => none }
def RunsOperationsWrongFalsely : Prop := runsOperationsRow.holds Try.pinned (OpenSpec.ofChange runsOperationsWrong)

/-- 'civiltimelaw12.RunsPoints': WHATEVER THE INPUT: true; the input reads as it did. -/
def runsPointsSpec : ChangeSpec := { name := "runsPoints", fn := fun _ => fun
  | [d1, d2, d3, d4] => { results := [.lit (.bool true)], args := [d1, d2, d3, d4] }
  | _ => none }
def runsPointsRow : OpenClaim := { program := "ythnikjmdnhlneaa", sum := "372aafb6d2752447852bdcdcc0b8bb033d6b65db941b10500218c4b305ba5eb1", func := "civiltime/civiltimelaw12.RunsPoints", spec := "runsPoints", unfollowed := true, recurses := true, apart := false }
def RunsPointsSaid : Prop := runsPointsRow.holds Try.pinned (OpenSpec.ofChange runsPointsSpec)

/-- ITS FALSE NEIGHBOUR: 'it returns false'. Refute it at one input. -/
def runsPointsWrong : ChangeSpec := { name := "runsPoints", fn := fun _ => fun
  | [d1, d2, d3, d4] => { results := [.lit (.bool false)], args := [d1, d2, d3, d4] }
  | _ => none }
def RunsPointsWrongFalsely : Prop := runsPointsRow.holds Try.pinned (OpenSpec.ofChange runsPointsWrong)

/-- 'civiltimelaw12.RunsMoves': WHATEVER THE INPUT: true; the input reads as it did. -/
def runsMovesSpec : ChangeSpec := { name := "runsMoves", fn := fun _ => fun
  | [d1, d2, d3, d4] => { results := [.lit (.bool true)], args := [d1, d2, d3, d4] }
  | _ => none }
def runsMovesRow : OpenClaim := { program := "ythnikjmdnhlneaa", sum := "372aafb6d2752447852bdcdcc0b8bb033d6b65db941b10500218c4b305ba5eb1", func := "civiltime/civiltimelaw12.RunsMoves", spec := "runsMoves", unfollowed := true, recurses := true, apart := false }
def RunsMovesSaid : Prop := runsMovesRow.holds Try.pinned (OpenSpec.ofChange runsMovesSpec)

/-- ITS FALSE NEIGHBOUR: 'it returns false'. Refute it at one input. -/
def runsMovesWrong : ChangeSpec := { name := "runsMoves", fn := fun _ => fun
  | [d1, d2, d3, d4] => { results := [.lit (.bool false)], args := [d1, d2, d3, d4] }
  | _ => none }
def RunsMovesWrongFalsely : Prop := runsMovesRow.holds Try.pinned (OpenSpec.ofChange runsMovesWrong)

/-- 'civiltimelaw12.RunsOf': WHATEVER THE INPUT: true; the input reads as it did. -/
def runsOfSpec : ChangeSpec := { name := "runsOf", fn := fun _ => fun
  | [d] => { results := [.lit (.bool true)], args := [d] }
  | _ => none }
def runsOfRow : OpenClaim := { program := "ythnikjmdnhlneaa", sum := "372aafb6d2752447852bdcdcc0b8bb033d6b65db941b10500218c4b305ba5eb1", func := "civiltime/civiltimelaw12.RunsOf", spec := "runsOf", unfollowed := true, recurses := true, apart := false }
def RunsOfSaid : Prop := runsOfRow.holds Try.pinned (OpenSpec.ofChange runsOfSpec)

/-- ITS FALSE NEIGHBOUR: 'it returns false'. Refute it at one input. -/
def runsOfWrong : ChangeSpec := { name := "runsOf", fn := fun _ => fun
  | [d] => { results := [.lit (.bool false)], args := [d] }
  | _ => none }
def RunsOfWrongFalsely : Prop := runsOfRow.holds Try.pinned (OpenSpec.ofChange runsOfWrong)

/-- 'civiltimelaw12.RunsFull': WHATEVER THE INPUT: true; the input reads as it did. -/
def runsFullSpec : ChangeSpec := { name := "runsFull", fn := fun _ => fun
  | [d1, d2, d3] => { results := [.lit (.bool true)], args := [d1, d2, d3] }
  | _ => none }
def runsFullRow : OpenClaim := { program := "ythnikjmdnhlneaa", sum := "372aafb6d2752447852bdcdcc0b8bb033d6b65db941b10500218c4b305ba5eb1", func := "civiltime/civiltimelaw12.RunsFull", spec := "runsFull", unfollowed := true, recurses := true, apart := false }
def RunsFullSaid : Prop := runsFullRow.holds Try.pinned (OpenSpec.ofChange runsFullSpec)

/-- ITS FALSE NEIGHBOUR: 'it returns false'. Refute it at one input. -/
def runsFullWrong : ChangeSpec := { name := "runsFull", fn := fun _ => fun
  | [d1, d2, d3] => { results := [.lit (.bool false)], args := [d1, d2, d3] }
  | _ => none }
def RunsFullWrongFalsely : Prop := runsFullRow.holds Try.pinned (OpenSpec.ofChange runsFullWrong)

/- THE SECOND FORM. 'bulk': how many values and letters a reading holds, each counted each time it is reached (what is shared counts as often as it is met; a slice's spare places count too). A statement '..UptoSaid' is the law's where the arguments, and the package variables that the reading takes, are together of bulk at most 1048576: NARROWER than '..Said'. Prove '..Said' where nothing that the law and all that it calls make is longer than what came in: it says more and counts as full. Else prove '..UptoSaid'. A law counts once. -/
mutual
def uptoBulk {H : Type} : DataW H → Nat
  | .lit (.string bytes) => bytes.length + 1
  | .lit _ => 1
  | .nil => 1
  | .ptr d => uptoBulk d + 1
  | .slice elems spare => uptoBulkAll elems + uptoBulkAll spare + 1
  | .agg parts => uptoBulkAll parts + 1
  | .iface _ d => uptoBulk d + 1
  | .map entries => uptoBulkEntries entries + 1
  | .held _ => 1
def uptoBulkAll {H : Type} : List (DataW H) → Nat
  | [] => 0
  | d :: r => uptoBulk d + uptoBulkAll r
def uptoBulkEntries {H : Type} : List (Lit × DataW H) → Nat
  | [] => 0
  | x :: r => uptoBulkEntry x + uptoBulkEntries r
def uptoBulkEntry {H : Type} : Lit × DataW H → Nat
  | (.string bytes, d) => bytes.length + uptoBulk d + 1
  | (_, d) => uptoBulk d + 1
 end
def uptoSmall : (H : Type) → List (DataW H) → Bool := fun _ ds => decide (uptoBulkAll ds ≤ 1048576)
def OpenSpec.upto (s : _root_.Go.ChangeSpec) : _root_.Go.OpenSpec := { _root_.Go.OpenSpec.ofChange s with cond := some uptoSmall }

/-- 'civiltimelaw12.RunsValid', WHERE WHAT IT READS IS OF BULK AT MOST 1048576: true; the input reads as it did. -/
def runsValidUptoRow : OpenClaim := { program := "ythnikjmdnhlneaa", sum := "372aafb6d2752447852bdcdcc0b8bb033d6b65db941b10500218c4b305ba5eb1", func := "civiltime/civiltimelaw12.RunsValid", spec := "runsValid", unfollowed := true, recurses := true, apart := false, narrowed := true }
def RunsValidUptoSaid : Prop := runsValidUptoRow.holds Try.pinned (OpenSpec.upto runsValidSpec)

/-- 'civiltimelaw12.RunsAlgebra', WHERE WHAT IT READS IS OF BULK AT MOST 1048576: true; the input reads as it did. -/
def runsAlgebraUptoRow : OpenClaim := { program := "ythnikjmdnhlneaa", sum := "372aafb6d2752447852bdcdcc0b8bb033d6b65db941b10500218c4b305ba5eb1", func := "civiltime/civiltimelaw12.RunsAlgebra", spec := "runsAlgebra", unfollowed := true, recurses := true, apart := false, narrowed := true }
def RunsAlgebraUptoSaid : Prop := runsAlgebraUptoRow.holds Try.pinned (OpenSpec.upto runsAlgebraSpec)

/-- 'civiltimelaw12.RunsMeasures', WHERE WHAT IT READS IS OF BULK AT MOST 1048576: true; the input reads as it did. -/
def runsMeasuresUptoRow : OpenClaim := { program := "ythnikjmdnhlneaa", sum := "372aafb6d2752447852bdcdcc0b8bb033d6b65db941b10500218c4b305ba5eb1", func := "civiltime/civiltimelaw12.RunsMeasures", spec := "runsMeasures", unfollowed := true, recurses := true, apart := false, narrowed := true }
def RunsMeasuresUptoSaid : Prop := runsMeasuresUptoRow.holds Try.pinned (OpenSpec.upto runsMeasuresSpec)

/-- 'civiltimelaw12.RunsCounts', WHERE WHAT IT READS IS OF BULK AT MOST 1048576: true; the input reads as it did. -/
def runsCountsUptoRow : OpenClaim := { program := "ythnikjmdnhlneaa", sum := "372aafb6d2752447852bdcdcc0b8bb033d6b65db941b10500218c4b305ba5eb1", func := "civiltime/civiltimelaw12.RunsCounts", spec := "runsCounts", unfollowed := true, recurses := true, apart := false, narrowed := true }
def RunsCountsUptoSaid : Prop := runsCountsUptoRow.holds Try.pinned (OpenSpec.upto runsCountsSpec)

/-- 'civiltimelaw12.RunsInverse', WHERE WHAT IT READS IS OF BULK AT MOST 1048576: true; the input reads as it did. -/
def runsInverseUptoRow : OpenClaim := { program := "ythnikjmdnhlneaa", sum := "372aafb6d2752447852bdcdcc0b8bb033d6b65db941b10500218c4b305ba5eb1", func := "civiltime/civiltimelaw12.RunsInverse", spec := "runsInverse", unfollowed := true, recurses := true, apart := false, narrowed := true }
def RunsInverseUptoSaid : Prop := runsInverseUptoRow.holds Try.pinned (OpenSpec.upto runsInverseSpec)

/-- 'civiltimelaw12.RunsOperations', WHERE WHAT IT READS IS OF BULK AT MOST 1048576: true; the input reads as it did. -/
def runsOperationsUptoRow : OpenClaim := { program := "ythnikjmdnhlneaa", sum := "372aafb6d2752447852bdcdcc0b8bb033d6b65db941b10500218c4b305ba5eb1", func := "civiltime/civiltimelaw12.RunsOperations", spec := "runsOperations", unfollowed := true, recurses := true, apart := false, narrowed := true }
def RunsOperationsUptoSaid : Prop := runsOperationsUptoRow.holds Try.pinned (OpenSpec.upto runsOperationsSpec)

/-- 'civiltimelaw12.RunsPoints', WHERE WHAT IT READS IS OF BULK AT MOST 1048576: true; the input reads as it did. -/
def runsPointsUptoRow : OpenClaim := { program := "ythnikjmdnhlneaa", sum := "372aafb6d2752447852bdcdcc0b8bb033d6b65db941b10500218c4b305ba5eb1", func := "civiltime/civiltimelaw12.RunsPoints", spec := "runsPoints", unfollowed := true, recurses := true, apart := false, narrowed := true }
def RunsPointsUptoSaid : Prop := runsPointsUptoRow.holds Try.pinned (OpenSpec.upto runsPointsSpec)

/-- 'civiltimelaw12.RunsMoves', WHERE WHAT IT READS IS OF BULK AT MOST 1048576: true; the input reads as it did. -/
def runsMovesUptoRow : OpenClaim := { program := "ythnikjmdnhlneaa", sum := "372aafb6d2752447852bdcdcc0b8bb033d6b65db941b10500218c4b305ba5eb1", func := "civiltime/civiltimelaw12.RunsMoves", spec := "runsMoves", unfollowed := true, recurses := true, apart := false, narrowed := true }
def RunsMovesUptoSaid : Prop := runsMovesUptoRow.holds Try.pinned (OpenSpec.upto runsMovesSpec)

/-- 'civiltimelaw12.RunsOf', WHERE WHAT IT READS IS OF BULK AT MOST 1048576: true; the input reads as it did. -/
def runsOfUptoRow : OpenClaim := { program := "ythnikjmdnhlneaa", sum := "372aafb6d2752447852bdcdcc0b8bb033d6b65db941b10500218c4b305ba5eb1", func := "civiltime/civiltimelaw12.RunsOf", spec := "runsOf", unfollowed := true, recurses := true, apart := false, narrowed := true }
def RunsOfUptoSaid : Prop := runsOfUptoRow.holds Try.pinned (OpenSpec.upto runsOfSpec)

/-- 'civiltimelaw12.RunsFull', WHERE WHAT IT READS IS OF BULK AT MOST 1048576: true; the input reads as it did. -/
def runsFullUptoRow : OpenClaim := { program := "ythnikjmdnhlneaa", sum := "372aafb6d2752447852bdcdcc0b8bb033d6b65db941b10500218c4b305ba5eb1", func := "civiltime/civiltimelaw12.RunsFull", spec := "runsFull", unfollowed := true, recurses := true, apart := false, narrowed := true }
def RunsFullUptoSaid : Prop := runsFullUptoRow.holds Try.pinned (OpenSpec.upto runsFullSpec)

end Rows
end Go.Proofs.Ythnikjmdnhlneaa
