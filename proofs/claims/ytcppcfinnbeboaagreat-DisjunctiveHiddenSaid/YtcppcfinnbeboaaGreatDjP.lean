/- Law 47: the closed matrix of a network, as the code computes it. No program in sight. -/
import Derived.Test.YtcppcfinnbeboaaGreatDjM
namespace Go.Proofs.YtcppcfinnbeboaaGreat

def noneD : Int := 4398046511104
def addC (a b : Int) : Int := if -9223372036854775808 ≤ a + b ∧ a + b ≤ 9223372036854775807 then a + b else 0
def plusC (a b : Int) : Int := if a = noneD ∨ b = noneD then noneD else addC a b
def cellF (M : Mat) (k i j : Nat) : Mat := upd M i j (min (M i j) (plusC (M i k) (M k j)))
def rowF (M : Mat) (k i : Nat) : Nat → Mat
  | 0 => M
  | j + 1 => cellF (rowF M k i j) k i j
def stageF (M : Mat) (k n : Nat) : Nat → Mat
  | 0 => M
  | i + 1 => rowF (stageF M k n i) k i n
/-- Is an element of the first rows too low? -/
def lowF (M : Mat) (m n : Nat) : Bool := (List.range m).any fun i => (List.range n).any fun j => decide (M i j < -68719476736)
def negF (M : Mat) (n : Nat) : Bool := (List.range n).any fun i => decide (M i i < 0)
def fwTo (M : Mat) (n : Nat) : Nat → Option Mat
  | 0 => some M
  | k + 1 => match fwTo M n k with
    | none => none
    | some N => if lowF (stageF N k n n) n n then none else some (stageF N k n n)
/-- A bound: from, to, at most. -/
abbrev Bnd := Int × Int × Int
def bnd (l : List Bnd) (i : Nat) : Bnd := l.getD i (0, 0, 0)
def openM : Mat := fun i j => if i = j then 0 else noneD
def bindF (M : Mat) (b : Bnd) : Mat := upd M b.1.toNat b.2.1.toNat (min (M b.1.toNat b.2.1.toNat) b.2.2)
def startF (l : List Bnd) : Nat → Mat
  | 0 => openM
  | k + 1 => bindF (startF l k) (bnd l k)
def tightF (n : Nat) (l : List Bnd) : Option Mat :=
  match fwTo (startF l l.length) n n with
  | none => none
  | some M => if negF M n then none else some M
/-- All elements are numbers of the machine. -/
def InI (M : Mat) (n : Nat) : Prop := ∀ i j, i < n → j < n → -9223372036854775808 ≤ M i j ∧ M i j ≤ 9223372036854775807
theorem addC_in (a b : Int) : -9223372036854775808 ≤ addC a b ∧ addC a b ≤ 9223372036854775807 := by unfold addC; split <;> omega
theorem plusC_in (a b : Int) : -9223372036854775808 ≤ plusC a b ∧ plusC a b ≤ 9223372036854775807 := by
  unfold plusC
  split
  · unfold noneD; omega
  · exact addC_in a b
theorem upd_in {M : Mat} {n i j : Nat} {x : Int} (h : InI M n) (hx : -9223372036854775808 ≤ x ∧ x ≤ 9223372036854775807) : InI (upd M i j x) n := fun a b ha hb => by
  unfold upd
  split
  · exact hx
  · exact h a b ha hb
theorem cellF_in {M : Mat} {n k i j : Nat} (h : InI M n) (hi : i < n) (hj : j < n) : InI (cellF M k i j) n :=
  upd_in h (by have := h i j hi hj; have := plusC_in (M i k) (M k j); omega)
theorem rowF_in {M : Mat} {n k i : Nat} (h : InI M n) (hi : i < n) : ∀ j, j ≤ n → InI (rowF M k i j) n
  | 0, _ => h
  | j + 1, hj => cellF_in (rowF_in h hi j (by omega)) hi (by omega)
theorem stageF_in {M : Mat} {n k : Nat} (h : InI M n) : ∀ i, i ≤ n → InI (stageF M k n i) n
  | 0, _ => h
  | i + 1, hi => rowF_in (stageF_in h i (by omega)) (by omega) n (Nat.le_refl _)
theorem any_range_succ (f : Nat → Bool) (k : Nat) : (List.range (k + 1)).any f = ((List.range k).any f || f k) := by rw [List.range_succ, List.any_append]; simp
end Go.Proofs.YtcppcfinnbeboaaGreat
