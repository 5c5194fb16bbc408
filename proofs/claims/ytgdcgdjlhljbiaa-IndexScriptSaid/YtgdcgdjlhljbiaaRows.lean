/-
  No cell of these rows narrows 'for every input' (looked for: loops, veiled, ifaces, maps, wideKeys, modest, calm, conditions, laid).
  DERIVED. THE GIVEN ROWS OF THIS SEAT. 9 by the template 'for every input the law returns true; each argument reads behind the call as it read before'; 0 by the template 'total and deterministic' (their statements: YtgdcgdjlhljbiaaTotals.lean).
  GIVEN WITH THE SEED: the statements are not yours to turn. If you find one false, say at which input.
  Laid BY PROGRAM, IN A SANDBOX (cutbox-rows.mjs): the forced cells as the released guide's own fill.sh prints them over the translation 8edb032ab9daee70… (all of the seat's roots in one cut). By AI agents, Wed Nov 11 2026. No macro, syntax, notation, axiom, sorry.
-/
import Derived.Test.YtgdcgdjlhljbiaaChecked
import GoSem.Claim
import GoSem.ClaimJoined
import GoSem.ClaimMapViews
import Derived.JoinedTies
import Derived.KernelRfl
namespace Go.Proofs.Ytgdcgdjlhljbiaa
/- THE CELL 'sum', in the pinned program and in every row, IS THE sha256 OF THE DUMP (.gsa) THAT YtgdcgdjlhljbiaaProg.lean LOADS. Nothing in Lean hashes anything: it is a label: what it is worth is what the hold of that sum in a sandbox is worth. -/
noncomputable def Try.pinned : Pinned := { name := "ytgdcgdjlhljbiaa", sum := "8edb032ab9daee709c3309e395eebe5e83a57cee76eb9c0c800c450c4cd3e96d", checked := Try.checked }
namespace Rows
def none {H : Type} : Left H := { results := [], args := [] }

/-- 'civiltimelaw42.IndexValid': WHATEVER THE INPUT: true; the input reads as it did. -/
def indexValidSpec : ChangeSpec := { name := "indexValid", fn := fun _ => fun
  | [d] => { results := [.lit (.bool true)], args := [d] }
  | _ => none }
def indexValidRow : OpenClaim := { program := "ytgdcgdjlhljbiaa", sum := "8edb032ab9daee709c3309e395eebe5e83a57cee76eb9c0c800c450c4cd3e96d", func := "civiltime/civiltimelaw42.IndexValid", spec := "indexValid", unfollowed := true, recurses := true, apart := false }
def IndexValidSaid : Prop := indexValidRow.holds Try.pinned (OpenSpec.ofChange indexValidSpec)

/-- ITS FALSE NEIGHBOUR: 'it returns false'. Refute it at one input. -/
def indexValidWrong : ChangeSpec := { name := "indexValid", fn := fun _ => fun
  | [d] => { results := [.lit (.bool false)], args := [d] }
  | _ => none }
def IndexValidWrongFalsely : Prop := indexValidRow.holds Try.pinned (OpenSpec.ofChange indexValidWrong)

/-- 'civiltimelaw42.IndexBuilds': WHATEVER THE INPUT: true; the input reads as it did. -/
def indexBuildsSpec : ChangeSpec := { name := "indexBuilds", fn := fun _ => fun
  | [d] => { results := [.lit (.bool true)], args := [d] }
  | _ => none }
def indexBuildsRow : OpenClaim := { program := "ytgdcgdjlhljbiaa", sum := "8edb032ab9daee709c3309e395eebe5e83a57cee76eb9c0c800c450c4cd3e96d", func := "civiltime/civiltimelaw42.IndexBuilds", spec := "indexBuilds", unfollowed := true, recurses := true, apart := false }
def IndexBuildsSaid : Prop := indexBuildsRow.holds Try.pinned (OpenSpec.ofChange indexBuildsSpec)

/-- ITS FALSE NEIGHBOUR: 'it returns false'. Refute it at one input. -/
def indexBuildsWrong : ChangeSpec := { name := "indexBuilds", fn := fun _ => fun
  | [d] => { results := [.lit (.bool false)], args := [d] }
  | _ => none }
def IndexBuildsWrongFalsely : Prop := indexBuildsRow.holds Try.pinned (OpenSpec.ofChange indexBuildsWrong)

/-- 'civiltimelaw42.IndexLeaves': WHATEVER THE INPUT: true; the input reads as it did. -/
def indexLeavesSpec : ChangeSpec := { name := "indexLeaves", fn := fun _ => fun
  | [d1, d2] => { results := [.lit (.bool true)], args := [d1, d2] }
  | _ => none }
def indexLeavesRow : OpenClaim := { program := "ytgdcgdjlhljbiaa", sum := "8edb032ab9daee709c3309e395eebe5e83a57cee76eb9c0c800c450c4cd3e96d", func := "civiltime/civiltimelaw42.IndexLeaves", spec := "indexLeaves", unfollowed := true, recurses := true, apart := false }
def IndexLeavesSaid : Prop := indexLeavesRow.holds Try.pinned (OpenSpec.ofChange indexLeavesSpec)

/-- ITS FALSE NEIGHBOUR: 'it returns false'. Refute it at one input. -/
def indexLeavesWrong : ChangeSpec := { name := "indexLeaves", fn := fun _ => fun
  | [d1, d2] => { results := [.lit (.bool false)], args := [d1, d2] }
  | _ => none }
def IndexLeavesWrongFalsely : Prop := indexLeavesRow.holds Try.pinned (OpenSpec.ofChange indexLeavesWrong)

/-- 'civiltimelaw42.IndexQueries': WHATEVER THE INPUT: true; the input reads as it did. -/
def indexQueriesSpec : ChangeSpec := { name := "indexQueries", fn := fun _ => fun
  | [d1, d2, d3, d4] => { results := [.lit (.bool true)], args := [d1, d2, d3, d4] }
  | _ => none }
def indexQueriesRow : OpenClaim := { program := "ytgdcgdjlhljbiaa", sum := "8edb032ab9daee709c3309e395eebe5e83a57cee76eb9c0c800c450c4cd3e96d", func := "civiltime/civiltimelaw42.IndexQueries", spec := "indexQueries", unfollowed := true, recurses := true, apart := false }
def IndexQueriesSaid : Prop := indexQueriesRow.holds Try.pinned (OpenSpec.ofChange indexQueriesSpec)

/-- ITS FALSE NEIGHBOUR: 'it returns false'. Refute it at one input. -/
def indexQueriesWrong : ChangeSpec := { name := "indexQueries", fn := fun _ => fun
  | [d1, d2, d3, d4] => { results := [.lit (.bool false)], args := [d1, d2, d3, d4] }
  | _ => none }
def IndexQueriesWrongFalsely : Prop := indexQueriesRow.holds Try.pinned (OpenSpec.ofChange indexQueriesWrong)

/-- 'civiltimelaw42.IndexDeletes': WHATEVER THE INPUT: true; the input reads as it did. -/
def indexDeletesSpec : ChangeSpec := { name := "indexDeletes", fn := fun _ => fun
  | [d1, d2, d3] => { results := [.lit (.bool true)], args := [d1, d2, d3] }
  | _ => none }
def indexDeletesRow : OpenClaim := { program := "ytgdcgdjlhljbiaa", sum := "8edb032ab9daee709c3309e395eebe5e83a57cee76eb9c0c800c450c4cd3e96d", func := "civiltime/civiltimelaw42.IndexDeletes", spec := "indexDeletes", unfollowed := true, recurses := true, apart := false }
def IndexDeletesSaid : Prop := indexDeletesRow.holds Try.pinned (OpenSpec.ofChange indexDeletesSpec)

/-- ITS FALSE NEIGHBOUR: 'it returns false'. Refute it at one input. -/
def indexDeletesWrong : ChangeSpec := { name := "indexDeletes", fn := fun _ => fun
  | [d1, d2, d3] => { results := [.lit (.bool false)], args := [d1, d2, d3] }
  | _ => none }
def IndexDeletesWrongFalsely : Prop := indexDeletesRow.holds Try.pinned (OpenSpec.ofChange indexDeletesWrong)

/-- 'civiltimelaw42.IndexInserts': WHATEVER THE INPUT: true; the input reads as it did. -/
def indexInsertsSpec : ChangeSpec := { name := "indexInserts", fn := fun _ => fun
  | [d1, d2, d3] => { results := [.lit (.bool true)], args := [d1, d2, d3] }
  | _ => none }
def indexInsertsRow : OpenClaim := { program := "ytgdcgdjlhljbiaa", sum := "8edb032ab9daee709c3309e395eebe5e83a57cee76eb9c0c800c450c4cd3e96d", func := "civiltime/civiltimelaw42.IndexInserts", spec := "indexInserts", inPlace := ["slices.overlaps[civiltime/index.entry]"], unfollowed := true, recurses := true, apart := false }
def IndexInsertsSaid : Prop := indexInsertsRow.holds Try.pinned (OpenSpec.ofChange indexInsertsSpec)

/-- ITS FALSE NEIGHBOUR: 'it returns false'. Refute it at one input. -/
def indexInsertsWrong : ChangeSpec := { name := "indexInserts", fn := fun _ => fun
  | [d1, d2, d3] => { results := [.lit (.bool false)], args := [d1, d2, d3] }
  | _ => none }
def IndexInsertsWrongFalsely : Prop := indexInsertsRow.holds Try.pinned (OpenSpec.ofChange indexInsertsWrong)

/-- 'civiltimelaw42.IndexOwn': WHATEVER THE INPUT: true; the input reads as it did. -/
def indexOwnSpec : ChangeSpec := { name := "indexOwn", fn := fun _ => fun
  | [d1, d2, d3] => { results := [.lit (.bool true)], args := [d1, d2, d3] }
  | _ => none }
def indexOwnRow : OpenClaim := { program := "ytgdcgdjlhljbiaa", sum := "8edb032ab9daee709c3309e395eebe5e83a57cee76eb9c0c800c450c4cd3e96d", func := "civiltime/civiltimelaw42.IndexOwn", spec := "indexOwn", inPlace := ["slices.overlaps[civiltime/index.entry]"], unfollowed := true, recurses := true, apart := false }
def IndexOwnSaid : Prop := indexOwnRow.holds Try.pinned (OpenSpec.ofChange indexOwnSpec)

/-- ITS FALSE NEIGHBOUR: 'it returns false'. Refute it at one input. -/
def indexOwnWrong : ChangeSpec := { name := "indexOwn", fn := fun _ => fun
  | [d1, d2, d3] => { results := [.lit (.bool false)], args := [d1, d2, d3] }
  | _ => none }
def IndexOwnWrongFalsely : Prop := indexOwnRow.holds Try.pinned (OpenSpec.ofChange indexOwnWrong)

/-- 'civiltimelaw42.IndexScript': WHATEVER THE INPUT: true; the input reads as it did. -/
def indexScriptSpec : ChangeSpec := { name := "indexScript", fn := fun _ => fun
  | [d1, d2] => { results := [.lit (.bool true)], args := [d1, d2] }
  | _ => none }
def indexScriptRow : OpenClaim := { program := "ytgdcgdjlhljbiaa", sum := "8edb032ab9daee709c3309e395eebe5e83a57cee76eb9c0c800c450c4cd3e96d", func := "civiltime/civiltimelaw42.IndexScript", spec := "indexScript", inPlace := ["slices.overlaps[civiltime/index.entry]"], unfollowed := true, recurses := true, apart := false }
def IndexScriptSaid : Prop := indexScriptRow.holds Try.pinned (OpenSpec.ofChange indexScriptSpec)

/-- ITS FALSE NEIGHBOUR: 'it returns false'. Refute it at one input. -/
def indexScriptWrong : ChangeSpec := { name := "indexScript", fn := fun _ => fun
  | [d1, d2] => { results := [.lit (.bool false)], args := [d1, d2] }
  | _ => none }
def IndexScriptWrongFalsely : Prop := indexScriptRow.holds Try.pinned (OpenSpec.ofChange indexScriptWrong)

/-- 'civiltimelaw42.IndexOrder': WHATEVER THE INPUT: true; the input reads as it did. -/
def indexOrderSpec : ChangeSpec := { name := "indexOrder", fn := fun _ => fun
  | [d1, d2] => { results := [.lit (.bool true)], args := [d1, d2] }
  | _ => none }
def indexOrderRow : OpenClaim := { program := "ytgdcgdjlhljbiaa", sum := "8edb032ab9daee709c3309e395eebe5e83a57cee76eb9c0c800c450c4cd3e96d", func := "civiltime/civiltimelaw42.IndexOrder", spec := "indexOrder", inPlace := ["slices.overlaps[civiltime/index.entry]"], unfollowed := true, recurses := true, apart := false }
def IndexOrderSaid : Prop := indexOrderRow.holds Try.pinned (OpenSpec.ofChange indexOrderSpec)

/-- ITS FALSE NEIGHBOUR: 'it returns false'. Refute it at one input. -/
def indexOrderWrong : ChangeSpec := { name := "indexOrder", fn := fun _ => fun
  | [d1, d2] => { results := [.lit (.bool false)], args := [d1, d2] }
  | _ => none }
def IndexOrderWrongFalsely : Prop := indexOrderRow.holds Try.pinned (OpenSpec.ofChange indexOrderWrong)

/- THE SECOND FORM. 'bulk': how many values and letters a reading holds, each counted each time it is reached (what is shared counts as often as it is met; a slice's spare places count too). A statement '..UptoSaid' is the law's where the arguments, and the package variables that the reading takes, are together of bulk at most 1048576: NARROWER than '..Said'. Prove '..Said' where nothing that the law and all that it calls make is longer than what came in: it says more and counts as full. Else prove '..UptoSaid'. A law counts once. -/
mutual
def uptoBulk {H : Type} : DataW H → Nat
  | .lit (.string bytes) => bytes.length + 1
  | .lit _ => 1
  | .nil => 1
  | .ptr d => uptoBulk d + 1
  | .slice elems spare => uptoBulkAll elems + uptoBulkAll spare + 1
  | .agg parts => uptoBulkAll parts + 1
  | .iface _ d => uptoBulk d + 1
  | .map entries => uptoBulkEntries entries + 1
  | .held _ => 1
def uptoBulkAll {H : Type} : List (DataW H) → Nat
  | [] => 0
  | d :: r => uptoBulk d + uptoBulkAll r
def uptoBulkEntries {H : Type} : List (Lit × DataW H) → Nat
  | [] => 0
  | x :: r => uptoBulkEntry x + uptoBulkEntries r
def uptoBulkEntry {H : Type} : Lit × DataW H → Nat
  | (.string bytes, d) => bytes.length + uptoBulk d + 1
  | (_, d) => uptoBulk d + 1
 end
def uptoSmall : (H : Type) → List (DataW H) → Bool := fun _ ds => decide (uptoBulkAll ds ≤ 1048576)
def OpenSpec.upto (s : _root_.Go.ChangeSpec) : _root_.Go.OpenSpec := { _root_.Go.OpenSpec.ofChange s with cond := some uptoSmall }

/-- 'civiltimelaw42.IndexValid', WHERE WHAT IT READS IS OF BULK AT MOST 1048576: true; the input reads as it did. -/
def indexValidUptoRow : OpenClaim := { program := "ytgdcgdjlhljbiaa", sum := "8edb032ab9daee709c3309e395eebe5e83a57cee76eb9c0c800c450c4cd3e96d", func := "civiltime/civiltimelaw42.IndexValid", spec := "indexValid", unfollowed := true, recurses := true, apart := false, narrowed := true }
def IndexValidUptoSaid : Prop := indexValidUptoRow.holds Try.pinned (OpenSpec.upto indexValidSpec)

/-- 'civiltimelaw42.IndexBuilds', WHERE WHAT IT READS IS OF BULK AT MOST 1048576: true; the input reads as it did. -/
def indexBuildsUptoRow : OpenClaim := { program := "ytgdcgdjlhljbiaa", sum := "8edb032ab9daee709c3309e395eebe5e83a57cee76eb9c0c800c450c4cd3e96d", func := "civiltime/civiltimelaw42.IndexBuilds", spec := "indexBuilds", unfollowed := true, recurses := true, apart := false, narrowed := true }
def IndexBuildsUptoSaid : Prop := indexBuildsUptoRow.holds Try.pinned (OpenSpec.upto indexBuildsSpec)

/-- 'civiltimelaw42.IndexLeaves', WHERE WHAT IT READS IS OF BULK AT MOST 1048576: true; the input reads as it did. -/
def indexLeavesUptoRow : OpenClaim := { program := "ytgdcgdjlhljbiaa", sum := "8edb032ab9daee709c3309e395eebe5e83a57cee76eb9c0c800c450c4cd3e96d", func := "civiltime/civiltimelaw42.IndexLeaves", spec := "indexLeaves", unfollowed := true, recurses := true, apart := false, narrowed := true }
def IndexLeavesUptoSaid : Prop := indexLeavesUptoRow.holds Try.pinned (OpenSpec.upto indexLeavesSpec)

/-- 'civiltimelaw42.IndexQueries', WHERE WHAT IT READS IS OF BULK AT MOST 1048576: true; the input reads as it did. -/
def indexQueriesUptoRow : OpenClaim := { program := "ytgdcgdjlhljbiaa", sum := "8edb032ab9daee709c3309e395eebe5e83a57cee76eb9c0c800c450c4cd3e96d", func := "civiltime/civiltimelaw42.IndexQueries", spec := "indexQueries", unfollowed := true, recurses := true, apart := false, narrowed := true }
def IndexQueriesUptoSaid : Prop := indexQueriesUptoRow.holds Try.pinned (OpenSpec.upto indexQueriesSpec)

/-- 'civiltimelaw42.IndexDeletes', WHERE WHAT IT READS IS OF BULK AT MOST 1048576: true; the input reads as it did. -/
def indexDeletesUptoRow : OpenClaim := { program := "ytgdcgdjlhljbiaa", sum := "8edb032ab9daee709c3309e395eebe5e83a57cee76eb9c0c800c450c4cd3e96d", func := "civiltime/civiltimelaw42.IndexDeletes", spec := "indexDeletes", unfollowed := true, recurses := true, apart := false, narrowed := true }
def IndexDeletesUptoSaid : Prop := indexDeletesUptoRow.holds Try.pinned (OpenSpec.upto indexDeletesSpec)

/-- 'civiltimelaw42.IndexInserts', WHERE WHAT IT READS IS OF BULK AT MOST 1048576: true; the input reads as it did. -/
def indexInsertsUptoRow : OpenClaim := { program := "ytgdcgdjlhljbiaa", sum := "8edb032ab9daee709c3309e395eebe5e83a57cee76eb9c0c800c450c4cd3e96d", func := "civiltime/civiltimelaw42.IndexInserts", spec := "indexInserts", inPlace := ["slices.overlaps[civiltime/index.entry]"], unfollowed := true, recurses := true, apart := false, narrowed := true }
def IndexInsertsUptoSaid : Prop := indexInsertsUptoRow.holds Try.pinned (OpenSpec.upto indexInsertsSpec)

/-- 'civiltimelaw42.IndexOwn', WHERE WHAT IT READS IS OF BULK AT MOST 1048576: true; the input reads as it did. -/
def indexOwnUptoRow : OpenClaim := { program := "ytgdcgdjlhljbiaa", sum := "8edb032ab9daee709c3309e395eebe5e83a57cee76eb9c0c800c450c4cd3e96d", func := "civiltime/civiltimelaw42.IndexOwn", spec := "indexOwn", inPlace := ["slices.overlaps[civiltime/index.entry]"], unfollowed := true, recurses := true, apart := false, narrowed := true }
def IndexOwnUptoSaid : Prop := indexOwnUptoRow.holds Try.pinned (OpenSpec.upto indexOwnSpec)

/-- 'civiltimelaw42.IndexScript', WHERE WHAT IT READS IS OF BULK AT MOST 1048576: true; the input reads as it did. -/
def indexScriptUptoRow : OpenClaim := { program := "ytgdcgdjlhljbiaa", sum := "8edb032ab9daee709c3309e395eebe5e83a57cee76eb9c0c800c450c4cd3e96d", func := "civiltime/civiltimelaw42.IndexScript", spec := "indexScript", inPlace := ["slices.overlaps[civiltime/index.entry]"], unfollowed := true, recurses := true, apart := false, narrowed := true }
def IndexScriptUptoSaid : Prop := indexScriptUptoRow.holds Try.pinned (OpenSpec.upto indexScriptSpec)

/-- 'civiltimelaw42.IndexOrder', WHERE WHAT IT READS IS OF BULK AT MOST 1048576: true; the input reads as it did. -/
def indexOrderUptoRow : OpenClaim := { program := "ytgdcgdjlhljbiaa", sum := "8edb032ab9daee709c3309e395eebe5e83a57cee76eb9c0c800c450c4cd3e96d", func := "civiltime/civiltimelaw42.IndexOrder", spec := "indexOrder", inPlace := ["slices.overlaps[civiltime/index.entry]"], unfollowed := true, recurses := true, apart := false, narrowed := true }
def IndexOrderUptoSaid : Prop := indexOrderUptoRow.holds Try.pinned (OpenSpec.upto indexOrderSpec)

end Rows
end Go.Proofs.Ytgdcgdjlhljbiaa
