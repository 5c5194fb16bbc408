/-
  No cell of these rows narrows 'for every input' (looked for: loops, veiled, ifaces, maps, wideKeys, modest, calm, conditions, laid).
  DERIVED. THE GIVEN ROWS OF THIS SEAT. 10 by the template 'for every input the law returns true; each argument reads behind the call as it read before'; 0 by the template 'total and deterministic' (their statements: YtahpcepnagpbdaaTotals.lean).
  GIVEN WITH THE SEED: the statements are not yours to turn. If you find one false, say at which input.
  Laid BY PROGRAM, IN A SANDBOX (cutbox-rows.mjs): the forced cells as the released guide's own fill.sh prints them over the translation 2abebb415901bd4a… (all of the seat's roots in one cut). By AI agents, Wed Nov 11 2026. No macro, syntax, notation, axiom, sorry.
-/
import Derived.Test.YtahpcepnagpbdaaChecked
import GoSem.Claim
import GoSem.ClaimJoined
import GoSem.ClaimMapViews
import Derived.JoinedTies
import Derived.KernelRfl
namespace Go.Proofs.Ytahpcepnagpbdaa
/- THE CELL 'sum', in the pinned program and in every row, IS THE sha256 OF THE DUMP (.gsa) THAT YtahpcepnagpbdaaProg.lean LOADS. Nothing in Lean hashes anything: it is a label: what it is worth is what the hold of that sum in a sandbox is worth. -/
noncomputable def Try.pinned : Pinned := { name := "ytahpcepnagpbdaa", sum := "2abebb415901bd4a4b186be43d695b702f85361136bc892c69974d292901022a", checked := Try.checked }
namespace Rows
def none {H : Type} : Left H := { results := [], args := [] }

/-- 'civiltimelaw44.SweepRooms': WHATEVER THE INPUT: true; the input reads as it did. -/
def sweepRoomsSpec : ChangeSpec := { name := "sweepRooms", fn := fun _ => fun
  | [d] => { results := [.lit (.bool true)], args := [d] }
  | _ => none }
def sweepRoomsRow : OpenClaim := { program := "ytahpcepnagpbdaa", sum := "2abebb415901bd4a4b186be43d695b702f85361136bc892c69974d292901022a", func := "civiltime/civiltimelaw44.SweepRooms", spec := "sweepRooms", unfollowed := true, recurses := true, apart := false }
def SweepRoomsSaid : Prop := sweepRoomsRow.holds Try.pinned (OpenSpec.ofChange sweepRoomsSpec)

/-- ITS FALSE NEIGHBOUR: 'it returns false'. Refute it at one input. -/
def sweepRoomsWrong : ChangeSpec := { name := "sweepRooms", fn := fun _ => fun
  | [d] => { results := [.lit (.bool false)], args := [d] }
  | _ => none }
def SweepRoomsWrongFalsely : Prop := sweepRoomsRow.holds Try.pinned (OpenSpec.ofChange sweepRoomsWrong)

/-- 'civiltimelaw44.SweepFewest': WHATEVER THE INPUT: true; the input reads as it did. -/
def sweepFewestSpec : ChangeSpec := { name := "sweepFewest", fn := fun _ => fun
  | [d] => { results := [.lit (.bool true)], args := [d] }
  | _ => none }
def sweepFewestRow : OpenClaim := { program := "ytahpcepnagpbdaa", sum := "2abebb415901bd4a4b186be43d695b702f85361136bc892c69974d292901022a", func := "civiltime/civiltimelaw44.SweepFewest", spec := "sweepFewest", unfollowed := true, recurses := true, apart := false }
def SweepFewestSaid : Prop := sweepFewestRow.holds Try.pinned (OpenSpec.ofChange sweepFewestSpec)

/-- ITS FALSE NEIGHBOUR: 'it returns false'. Refute it at one input. -/
def sweepFewestWrong : ChangeSpec := { name := "sweepFewest", fn := fun _ => fun
  | [d] => { results := [.lit (.bool false)], args := [d] }
  | _ => none }
def SweepFewestWrongFalsely : Prop := sweepFewestRow.holds Try.pinned (OpenSpec.ofChange sweepFewestWrong)

/-- 'civiltimelaw44.SweepPacks': WHATEVER THE INPUT: true; the input reads as it did. -/
def sweepPacksSpec : ChangeSpec := { name := "sweepPacks", fn := fun _ => fun
  | [d1, d2] => { results := [.lit (.bool true)], args := [d1, d2] }
  | _ => none }
def sweepPacksRow : OpenClaim := { program := "ytahpcepnagpbdaa", sum := "2abebb415901bd4a4b186be43d695b702f85361136bc892c69974d292901022a", func := "civiltime/civiltimelaw44.SweepPacks", spec := "sweepPacks", unfollowed := true, recurses := true, apart := false }
def SweepPacksSaid : Prop := sweepPacksRow.holds Try.pinned (OpenSpec.ofChange sweepPacksSpec)

/-- ITS FALSE NEIGHBOUR: 'it returns false'. Refute it at one input. -/
def sweepPacksWrong : ChangeSpec := { name := "sweepPacks", fn := fun _ => fun
  | [d1, d2] => { results := [.lit (.bool false)], args := [d1, d2] }
  | _ => none }
def SweepPacksWrongFalsely : Prop := sweepPacksRow.holds Try.pinned (OpenSpec.ofChange sweepPacksWrong)

/-- 'civiltimelaw44.SweepMost': WHATEVER THE INPUT: true; the input reads as it did. -/
def sweepMostSpec : ChangeSpec := { name := "sweepMost", fn := fun _ => fun
  | [d1, d2, d3] => { results := [.lit (.bool true)], args := [d1, d2, d3] }
  | _ => none }
def sweepMostRow : OpenClaim := { program := "ytahpcepnagpbdaa", sum := "2abebb415901bd4a4b186be43d695b702f85361136bc892c69974d292901022a", func := "civiltime/civiltimelaw44.SweepMost", spec := "sweepMost", unfollowed := true, recurses := true, apart := false }
def SweepMostSaid : Prop := sweepMostRow.holds Try.pinned (OpenSpec.ofChange sweepMostSpec)

/-- ITS FALSE NEIGHBOUR: 'it returns false'. Refute it at one input. -/
def sweepMostWrong : ChangeSpec := { name := "sweepMost", fn := fun _ => fun
  | [d1, d2, d3] => { results := [.lit (.bool false)], args := [d1, d2, d3] }
  | _ => none }
def SweepMostWrongFalsely : Prop := sweepMostRow.holds Try.pinned (OpenSpec.ofChange sweepMostWrong)

/-- 'civiltimelaw44.SweepNearest': WHATEVER THE INPUT: true; the input reads as it did. -/
def sweepNearestSpec : ChangeSpec := { name := "sweepNearest", fn := fun _ => fun
  | [d1, d2] => { results := [.lit (.bool true)], args := [d1, d2] }
  | _ => none }
def sweepNearestRow : OpenClaim := { program := "ytahpcepnagpbdaa", sum := "2abebb415901bd4a4b186be43d695b702f85361136bc892c69974d292901022a", func := "civiltime/civiltimelaw44.SweepNearest", spec := "sweepNearest", unfollowed := true, recurses := true, apart := false }
def SweepNearestSaid : Prop := sweepNearestRow.holds Try.pinned (OpenSpec.ofChange sweepNearestSpec)

/-- ITS FALSE NEIGHBOUR: 'it returns false'. Refute it at one input. -/
def sweepNearestWrong : ChangeSpec := { name := "sweepNearest", fn := fun _ => fun
  | [d1, d2] => { results := [.lit (.bool false)], args := [d1, d2] }
  | _ => none }
def SweepNearestWrongFalsely : Prop := sweepNearestRow.holds Try.pinned (OpenSpec.ofChange sweepNearestWrong)

/-- 'civiltimelaw44.SweepMany': WHATEVER THE INPUT: true; the input reads as it did. -/
def sweepManySpec : ChangeSpec := { name := "sweepMany", fn := fun _ => fun
  | [d1, d2] => { results := [.lit (.bool true)], args := [d1, d2] }
  | _ => none }
def sweepManyRow : OpenClaim := { program := "ytahpcepnagpbdaa", sum := "2abebb415901bd4a4b186be43d695b702f85361136bc892c69974d292901022a", func := "civiltime/civiltimelaw44.SweepMany", spec := "sweepMany", unfollowed := true, recurses := true, apart := false }
def SweepManySaid : Prop := sweepManyRow.holds Try.pinned (OpenSpec.ofChange sweepManySpec)

/-- ITS FALSE NEIGHBOUR: 'it returns false'. Refute it at one input. -/
def sweepManyWrong : ChangeSpec := { name := "sweepMany", fn := fun _ => fun
  | [d1, d2] => { results := [.lit (.bool false)], args := [d1, d2] }
  | _ => none }
def SweepManyWrongFalsely : Prop := sweepManyRow.holds Try.pinned (OpenSpec.ofChange sweepManyWrong)

/-- 'civiltimelaw44.SweepJoins': WHATEVER THE INPUT: true; the input reads as it did. -/
def sweepJoinsSpec : ChangeSpec := { name := "sweepJoins", fn := fun _ => fun
  | [d1, d2, d3] => { results := [.lit (.bool true)], args := [d1, d2, d3] }
  | _ => none }
def sweepJoinsRow : OpenClaim := { program := "ytahpcepnagpbdaa", sum := "2abebb415901bd4a4b186be43d695b702f85361136bc892c69974d292901022a", func := "civiltime/civiltimelaw44.SweepJoins", spec := "sweepJoins", unfollowed := true, recurses := true, apart := false }
def SweepJoinsSaid : Prop := sweepJoinsRow.holds Try.pinned (OpenSpec.ofChange sweepJoinsSpec)

/-- ITS FALSE NEIGHBOUR: 'it returns false'. Refute it at one input. -/
def sweepJoinsWrong : ChangeSpec := { name := "sweepJoins", fn := fun _ => fun
  | [d1, d2, d3] => { results := [.lit (.bool false)], args := [d1, d2, d3] }
  | _ => none }
def SweepJoinsWrongFalsely : Prop := sweepJoinsRow.holds Try.pinned (OpenSpec.ofChange sweepJoinsWrong)

/-- 'civiltimelaw44.SweepSets': WHATEVER THE INPUT: true; the input reads as it did. -/
def sweepSetsSpec : ChangeSpec := { name := "sweepSets", fn := fun _ => fun
  | [d1, d2, d3] => { results := [.lit (.bool true)], args := [d1, d2, d3] }
  | _ => none }
def sweepSetsRow : OpenClaim := { program := "ytahpcepnagpbdaa", sum := "2abebb415901bd4a4b186be43d695b702f85361136bc892c69974d292901022a", func := "civiltime/civiltimelaw44.SweepSets", spec := "sweepSets", unfollowed := true, recurses := true, apart := false }
def SweepSetsSaid : Prop := sweepSetsRow.holds Try.pinned (OpenSpec.ofChange sweepSetsSpec)

/-- ITS FALSE NEIGHBOUR: 'it returns false'. Refute it at one input. -/
def sweepSetsWrong : ChangeSpec := { name := "sweepSets", fn := fun _ => fun
  | [d1, d2, d3] => { results := [.lit (.bool false)], args := [d1, d2, d3] }
  | _ => none }
def SweepSetsWrongFalsely : Prop := sweepSetsRow.holds Try.pinned (OpenSpec.ofChange sweepSetsWrong)

/-- 'civiltimelaw44.SweepDepths': WHATEVER THE INPUT: true; the input reads as it did. -/
def sweepDepthsSpec : ChangeSpec := { name := "sweepDepths", fn := fun _ => fun
  | [d1, d2] => { results := [.lit (.bool true)], args := [d1, d2] }
  | _ => none }
def sweepDepthsRow : OpenClaim := { program := "ytahpcepnagpbdaa", sum := "2abebb415901bd4a4b186be43d695b702f85361136bc892c69974d292901022a", func := "civiltime/civiltimelaw44.SweepDepths", spec := "sweepDepths", unfollowed := true, recurses := true, apart := false }
def SweepDepthsSaid : Prop := sweepDepthsRow.holds Try.pinned (OpenSpec.ofChange sweepDepthsSpec)

/-- ITS FALSE NEIGHBOUR: 'it returns false'. Refute it at one input. -/
def sweepDepthsWrong : ChangeSpec := { name := "sweepDepths", fn := fun _ => fun
  | [d1, d2] => { results := [.lit (.bool false)], args := [d1, d2] }
  | _ => none }
def SweepDepthsWrongFalsely : Prop := sweepDepthsRow.holds Try.pinned (OpenSpec.ofChange sweepDepthsWrong)

/-- 'civiltimelaw44.SweepFree': WHATEVER THE INPUT: true; the input reads as it did. -/
def sweepFreeSpec : ChangeSpec := { name := "sweepFree", fn := fun _ => fun
  | [d1, d2, d3] => { results := [.lit (.bool true)], args := [d1, d2, d3] }
  | _ => none }
def sweepFreeRow : OpenClaim := { program := "ytahpcepnagpbdaa", sum := "2abebb415901bd4a4b186be43d695b702f85361136bc892c69974d292901022a", func := "civiltime/civiltimelaw44.SweepFree", spec := "sweepFree", unfollowed := true, recurses := true, apart := false }
def SweepFreeSaid : Prop := sweepFreeRow.holds Try.pinned (OpenSpec.ofChange sweepFreeSpec)

/-- ITS FALSE NEIGHBOUR: 'it returns false'. Refute it at one input. -/
def sweepFreeWrong : ChangeSpec := { name := "sweepFree", fn := fun _ => fun
  | [d1, d2, d3] => { results := [.lit (.bool false)], args := [d1, d2, d3] }
  | _ => none }
def SweepFreeWrongFalsely : Prop := sweepFreeRow.holds Try.pinned (OpenSpec.ofChange sweepFreeWrong)

/- THE SECOND FORM. 'bulk': how many values and letters a reading holds, each counted each time it is reached (what is shared counts as often as it is met; a slice's spare places count too). A statement '..UptoSaid' is the law's where the arguments, and the package variables that the reading takes, are together of bulk at most 1048576: NARROWER than '..Said'. Prove '..Said' where nothing that the law and all that it calls make is longer than what came in: it says more and counts as full. Else prove '..UptoSaid'. A law counts once. -/
mutual
def uptoBulk {H : Type} : DataW H → Nat
  | .lit (.string bytes) => bytes.length + 1
  | .lit _ => 1
  | .nil => 1
  | .ptr d => uptoBulk d + 1
  | .slice elems spare => uptoBulkAll elems + uptoBulkAll spare + 1
  | .agg parts => uptoBulkAll parts + 1
  | .iface _ d => uptoBulk d + 1
  | .map entries => uptoBulkEntries entries + 1
  | .held _ => 1
def uptoBulkAll {H : Type} : List (DataW H) → Nat
  | [] => 0
  | d :: r => uptoBulk d + uptoBulkAll r
def uptoBulkEntries {H : Type} : List (Lit × DataW H) → Nat
  | [] => 0
  | x :: r => uptoBulkEntry x + uptoBulkEntries r
def uptoBulkEntry {H : Type} : Lit × DataW H → Nat
  | (.string bytes, d) => bytes.length + uptoBulk d + 1
  | (_, d) => uptoBulk d + 1
 end
def uptoSmall : (H : Type) → List (DataW H) → Bool := fun _ ds => decide (uptoBulkAll ds ≤ 1048576)
def OpenSpec.upto (s : _root_.Go.ChangeSpec) : _root_.Go.OpenSpec := { _root_.Go.OpenSpec.ofChange s with cond := some uptoSmall }

/-- 'civiltimelaw44.SweepRooms', WHERE WHAT IT READS IS OF BULK AT MOST 1048576: true; the input reads as it did. -/
def sweepRoomsUptoRow : OpenClaim := { program := "ytahpcepnagpbdaa", sum := "2abebb415901bd4a4b186be43d695b702f85361136bc892c69974d292901022a", func := "civiltime/civiltimelaw44.SweepRooms", spec := "sweepRooms", unfollowed := true, recurses := true, apart := false, narrowed := true }
def SweepRoomsUptoSaid : Prop := sweepRoomsUptoRow.holds Try.pinned (OpenSpec.upto sweepRoomsSpec)

/-- 'civiltimelaw44.SweepFewest', WHERE WHAT IT READS IS OF BULK AT MOST 1048576: true; the input reads as it did. -/
def sweepFewestUptoRow : OpenClaim := { program := "ytahpcepnagpbdaa", sum := "2abebb415901bd4a4b186be43d695b702f85361136bc892c69974d292901022a", func := "civiltime/civiltimelaw44.SweepFewest", spec := "sweepFewest", unfollowed := true, recurses := true, apart := false, narrowed := true }
def SweepFewestUptoSaid : Prop := sweepFewestUptoRow.holds Try.pinned (OpenSpec.upto sweepFewestSpec)

/-- 'civiltimelaw44.SweepPacks', WHERE WHAT IT READS IS OF BULK AT MOST 1048576: true; the input reads as it did. -/
def sweepPacksUptoRow : OpenClaim := { program := "ytahpcepnagpbdaa", sum := "2abebb415901bd4a4b186be43d695b702f85361136bc892c69974d292901022a", func := "civiltime/civiltimelaw44.SweepPacks", spec := "sweepPacks", unfollowed := true, recurses := true, apart := false, narrowed := true }
def SweepPacksUptoSaid : Prop := sweepPacksUptoRow.holds Try.pinned (OpenSpec.upto sweepPacksSpec)

/-- 'civiltimelaw44.SweepMost', WHERE WHAT IT READS IS OF BULK AT MOST 1048576: true; the input reads as it did. -/
def sweepMostUptoRow : OpenClaim := { program := "ytahpcepnagpbdaa", sum := "2abebb415901bd4a4b186be43d695b702f85361136bc892c69974d292901022a", func := "civiltime/civiltimelaw44.SweepMost", spec := "sweepMost", unfollowed := true, recurses := true, apart := false, narrowed := true }
def SweepMostUptoSaid : Prop := sweepMostUptoRow.holds Try.pinned (OpenSpec.upto sweepMostSpec)

/-- 'civiltimelaw44.SweepNearest', WHERE WHAT IT READS IS OF BULK AT MOST 1048576: true; the input reads as it did. -/
def sweepNearestUptoRow : OpenClaim := { program := "ytahpcepnagpbdaa", sum := "2abebb415901bd4a4b186be43d695b702f85361136bc892c69974d292901022a", func := "civiltime/civiltimelaw44.SweepNearest", spec := "sweepNearest", unfollowed := true, recurses := true, apart := false, narrowed := true }
def SweepNearestUptoSaid : Prop := sweepNearestUptoRow.holds Try.pinned (OpenSpec.upto sweepNearestSpec)

/-- 'civiltimelaw44.SweepMany', WHERE WHAT IT READS IS OF BULK AT MOST 1048576: true; the input reads as it did. -/
def sweepManyUptoRow : OpenClaim := { program := "ytahpcepnagpbdaa", sum := "2abebb415901bd4a4b186be43d695b702f85361136bc892c69974d292901022a", func := "civiltime/civiltimelaw44.SweepMany", spec := "sweepMany", unfollowed := true, recurses := true, apart := false, narrowed := true }
def SweepManyUptoSaid : Prop := sweepManyUptoRow.holds Try.pinned (OpenSpec.upto sweepManySpec)

/-- 'civiltimelaw44.SweepJoins', WHERE WHAT IT READS IS OF BULK AT MOST 1048576: true; the input reads as it did. -/
def sweepJoinsUptoRow : OpenClaim := { program := "ytahpcepnagpbdaa", sum := "2abebb415901bd4a4b186be43d695b702f85361136bc892c69974d292901022a", func := "civiltime/civiltimelaw44.SweepJoins", spec := "sweepJoins", unfollowed := true, recurses := true, apart := false, narrowed := true }
def SweepJoinsUptoSaid : Prop := sweepJoinsUptoRow.holds Try.pinned (OpenSpec.upto sweepJoinsSpec)

/-- 'civiltimelaw44.SweepSets', WHERE WHAT IT READS IS OF BULK AT MOST 1048576: true; the input reads as it did. -/
def sweepSetsUptoRow : OpenClaim := { program := "ytahpcepnagpbdaa", sum := "2abebb415901bd4a4b186be43d695b702f85361136bc892c69974d292901022a", func := "civiltime/civiltimelaw44.SweepSets", spec := "sweepSets", unfollowed := true, recurses := true, apart := false, narrowed := true }
def SweepSetsUptoSaid : Prop := sweepSetsUptoRow.holds Try.pinned (OpenSpec.upto sweepSetsSpec)

/-- 'civiltimelaw44.SweepDepths', WHERE WHAT IT READS IS OF BULK AT MOST 1048576: true; the input reads as it did. -/
def sweepDepthsUptoRow : OpenClaim := { program := "ytahpcepnagpbdaa", sum := "2abebb415901bd4a4b186be43d695b702f85361136bc892c69974d292901022a", func := "civiltime/civiltimelaw44.SweepDepths", spec := "sweepDepths", unfollowed := true, recurses := true, apart := false, narrowed := true }
def SweepDepthsUptoSaid : Prop := sweepDepthsUptoRow.holds Try.pinned (OpenSpec.upto sweepDepthsSpec)

/-- 'civiltimelaw44.SweepFree', WHERE WHAT IT READS IS OF BULK AT MOST 1048576: true; the input reads as it did. -/
def sweepFreeUptoRow : OpenClaim := { program := "ytahpcepnagpbdaa", sum := "2abebb415901bd4a4b186be43d695b702f85361136bc892c69974d292901022a", func := "civiltime/civiltimelaw44.SweepFree", spec := "sweepFree", unfollowed := true, recurses := true, apart := false, narrowed := true }
def SweepFreeUptoSaid : Prop := sweepFreeUptoRow.holds Try.pinned (OpenSpec.upto sweepFreeSpec)

end Rows
end Go.Proofs.Ytahpcepnagpbdaa
