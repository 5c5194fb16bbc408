
/- The walks of law 12's size guard: great answers whether one of some lists has more than 80 spans. -/
import Derived.Test.YtahpcepnagpbdaaRunsA
namespace Go.Proofs.Ytahpcepnagpbdaa
open Go.RowKit

theorem unRet {P : Program} {f : FuncId} {args : Array Value} {w : World} {v : Value} (h : Calls P f args w (Ret w v)) : Calls P f args w fun e w' => e = .returned v ∧ Below w.heap.size w w' := h

/-- A slice whose elements are slices of these lengths. -/
def SlicesIn (w : World) (v : Value) (ns : List Nat) : Prop :=
  ∃ vs : Nat → Value, RowsIn w v ns.length 1 (fun i _ => vs i) ∧ ∀ i, i < ns.length → ∃ A c, vs i = .slice A (ns.getD i 0) c ∧ ns.getD i 0 ≤ 9223372036854775807
theorem SlicesIn.below {w w' : World} {v : Value} {ns : List Nat} (h : SlicesIn w v ns) (hb : Below w.heap.size w w') : SlicesIn w' v ns := by
  obtain ⟨vs, h1, h2⟩ := h
  exact ⟨vs, h1.below hb, h2⟩

def FoundAt (b : Bool) (w : World) (e : Ending) (w' : World) : Prop := ∃ r : Int, e = .returned (.int .i64 r) ∧ decide (0 ≤ r) = b ∧ w = w'
def longAt (ns : List Nat) (i : Nat) : Bool := decide (80 < ns.getD i 0)
def anyLong (ns : List Nat) : Bool := (List.range ns.length).any (longAt ns)

theorem slices_one {w : World} {A : Option Addr} {n c : Nat} {t : TypeId} (b : Nat) (hb : w.heap.size = b) (hn : n ≤ 9223372036854775807) : SlicesIn (w.alloc (.cells #[.slice A n c] t)) (.slice (some ⟨b, 0, none⟩) 1 1) [n] := by
  subst hb
  refine ⟨fun _ => .slice A n c, ⟨_, 1, rfl, Nat.le_refl _, by omega, fun _ => ⟨w.heap.size, 0, rfl, by simp, fun i j hi hj => ?_⟩⟩, fun i hi => ?_⟩
  · obtain rfl : i = 0 := by simpa using hi
    obtain rfl : j = 0 := by omega
    simp
  · obtain rfl : i = 0 := by simpa using hi
    exact ⟨A, c, rfl, hn⟩
theorem slices_two {w : World} {A B : Option Addr} {n c m d : Nat} {t : TypeId} (b : Nat) (hb : w.heap.size = b) (hn : n ≤ 9223372036854775807) (hm : m ≤ 9223372036854775807) :
    SlicesIn (w.alloc (.cells #[.slice A n c, .slice B m d] t)) (.slice (some ⟨b, 0, none⟩) 2 2) [n, m] := by
  subst hb
  refine ⟨fun i => if i = 0 then .slice A n c else .slice B m d, ⟨_, 2, rfl, Nat.le_refl _, by omega, fun _ => ⟨w.heap.size, 0, rfl, by simp, fun i j hi hj => ?_⟩⟩, fun i hi => ?_⟩
  · obtain rfl : j = 0 := by omega
    have hi : i < 2 := by simpa using hi
    rcases (by omega : i = 0 ∨ i = 1) with rfl | rfl <;> simp
  · have hi : i < 2 := by simpa using hi
    rcases (by omega : i = 0 ∨ i = 1) with rfl | rfl
    · exact ⟨A, c, rfl, hn⟩
    · exact ⟨B, d, rfl, hm⟩
end Go.Proofs.Ytahpcepnagpbdaa
