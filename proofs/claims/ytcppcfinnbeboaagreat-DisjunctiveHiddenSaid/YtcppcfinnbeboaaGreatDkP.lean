
/- Law 47: disjunctive.Count. -/
import Derived.Test.YtcppcfinnbeboaaGreatDkO
import Derived.Test.YtcppcfinnbeboaaGreatDkL
import Derived.Test.YtcppcfinnbeboaaGreatDkC
namespace Go.Proofs.YtcppcfinnbeboaaGreat
open Go.RowKit Go.Shelf

/-- A span or a budget that Count refuses. -/
def rangeB (f t most : Int) : Bool := decide (t ≤ f) || !nearB f || !nearB t || decide (most < 1) || decide (1000000 < most)
def CountIs (x c : Int) (w : World) (e : Ending) (w' : World) : Prop := e = .returned (.tuple #[.int .i64 x, .int .i64 c]) ∧ Below w.heap.size w w'
theorem row_ints {w : World} {g n : Nat} {f : Nat → Int} {l : List Int} (h : RowAt w g n f) (hl : l.length = n) (hf : ∀ i, i < n → iv l i = f i) (hn : n ≤ 1000000) : IsInts w (.slice (some ⟨g, 0, none⟩) n n) l := by
  refine ⟨some ⟨g, 0, none⟩, n, by rw [hl], by omega, by omega, fun _ => ⟨g, 0, rfl, h.lt, fun i j hi hj => ?_⟩⟩
  obtain rfl : j = 0 := by omega
  rw [hl] at hi
  have := h.cell i hi
  unfold intCell
  rw [hf i hi]
  simpa using this
/-- What Count answers otherwise. -/
def countX (l : List Cho) (n : Nat) (f t most : Int) : Int × Int :=
  if most.toNat < growN (t - f).toNat most.toNat (n - 1) then (0, 5)
  else if decide (f ≤ 0) && decide (0 < t) then (((cntK l f (t - f).toNat n ((t - f).toNat ^ (n - 1)) : Nat) : Int), 0) else (0, 0)
end Go.Proofs.YtcppcfinnbeboaaGreat
