/- Law 47: a network made around a schedule (plain). -/
import Derived.Test.YtcppcfinnbeboaaGreatDtz
import Derived.Test.YtcppcfinnbeboaaGreatDkK
import Derived.Test.YtcppcfinnbeboaaGreatDjY
namespace Go.Proofs.YtcppcfinnbeboaaGreat
open Go.RowKit Go.Shelf

def hidW (ws : List Int) (m : Nat) : Int := if 2 * m < ws.length then 1 + iv ws (2 * m) else 3
def hidI (N : Nat) (ps : List Int) (m : Nat) : Nat := (iv ps m).toNat % N
def hidD (N : Nat) (ats ps : List Int) (m : Nat) : Int := iv ats (hidI N ps (2 * m + 1)) - iv ats (hidI N ps (2 * m))
def hidR (d w : Int) : Sp := (d - w.tdiv 3, d + w)
def hidO (d w : Int) : Sp := (d + 100, d + 100 + w)
def hidC (N : Nat) (ats ps ws : List Int) (o : Bool) (m : Nat) : Cho :=
  ((hidI N ps (2 * m) : Nat), (hidI N ps (2 * m + 1) : Nat), if o then [hidO (hidD N ats ps m) (hidW ws m), hidR (hidD N ats ps m) (hidW ws m)] else [hidR (hidD N ats ps m) (hidW ws m), hidO (hidD N ats ps m) (hidW ws m)])
def hidL (N : Nat) (ats ps ws : List Int) (o : Bool) (k : Nat) : List Cho := (List.range k).map (hidC N ats ps ws o)
theorem hidL_len (N : Nat) (ats ps ws : List Int) (o : Bool) (k : Nat) : (hidL N ats ps ws o k).length = k := by unfold hidL; simp
theorem hidL_succ (N : Nat) (ats ps ws : List Int) (o : Bool) (k : Nat) : hidL N ats ps ws o (k + 1) = hidL N ats ps ws o k ++ [hidC N ats ps ws o k] := by unfold hidL; rw [List.range_succ, List.map_append]; rfl
theorem hidL_get (N : Nat) (ats ps ws : List Int) (o : Bool) {k i : Nat} (h : i < k) : cho (hidL N ats ps ws o k) i = hidC N ats ps ws o i := by
  rw [← cho_at (by rw [hidL_len]; exact h)]
  unfold hidL
  simp
structure HidOk (N : Nat) (ats ps ws : List Int) : Prop where
  n1 : 1 ≤ N
  n6 : N ≤ 6
  len : ats.length = N
  at_ : ∀ i, i < N → -32768 ≤ iv ats i ∧ iv ats i ≤ 32767
  psb : ∀ i, i < ps.length → 0 ≤ iv ps i ∧ iv ps i ≤ 255
  wsb : ∀ i, i < ws.length → 0 ≤ iv ws i ∧ iv ws i ≤ 255
  p16 : ps.length ≤ 16
  zero : iv ats 0 = 0
section
variable {N : Nat} {ats ps ws : List Int} {o : Bool}
theorem HidOk.wid (h : HidOk N ats ps ws) (m : Nat) : 1 ≤ hidW ws m ∧ hidW ws m ≤ 256 := by
  unfold hidW
  split
  · next e => have := h.wsb _ e; omega
  · omega
theorem HidOk.idx (h : HidOk N ats ps ws) (m : Nat) : hidI N ps m < N := Nat.mod_lt _ h.n1
theorem HidOk.dif (h : HidOk N ats ps ws) (m : Nat) : -65535 ≤ hidD N ats ps m ∧ hidD N ats ps m ≤ 65535 := by
  have h1 := h.at_ _ (h.idx (2 * m + 1))
  have h2 := h.at_ _ (h.idx (2 * m))
  unfold hidD
  omega
theorem w3 {w : Int} (h1 : 1 ≤ w) (h2 : w ≤ 256) : 0 ≤ w.tdiv 3 ∧ w.tdiv 3 ≤ 85 ∧ w.tdiv 3 = ((w.toNat / 3 : Nat) : Int) := by
  obtain ⟨k, rfl⟩ : ∃ k : Nat, w = (k : Int) := ⟨w.toNat, by omega⟩
  have e : (k : Int).tdiv 3 = ((k / 3 : Nat) : Int) := rfl
  rw [e, Int.toNat_natCast]
  omega
theorem spB_of {a b : Int} (h1 : -1073741824 ≤ a) (h2 : a < b) (h3 : b ≤ 1073741824) : spB (a, b) = true := by
  unfold spB nearB
  rw [decide_eq_true h1, decide_eq_true (show a ≤ 1073741824 by omega), decide_eq_true (show -1073741824 ≤ b by omega), decide_eq_true h3, decide_eq_true h2]
  rfl
theorem HidOk.st (h : HidOk N ats ps ws) {k : Nat} (hk : k ≤ 60) : StOk N (hidL N ats ps ws o k) := by
  refine ⟨by rw [hidL_len]; exact hk, fun i hi => ?_⟩
  rw [hidL_len] at hi
  rw [hidL_get _ _ _ _ _ hi]
  have h1 := h.idx (2 * i)
  have h2 := h.idx (2 * i + 1)
  have h3 := h.wid i
  have h4 := h.dif i
  have h5 := w3 h3.1 h3.2
  have hr : spB (hidR (hidD N ats ps i) (hidW ws i)) = true := spB_of (by omega) (by omega) (by omega)
  have ho : spB (hidO (hidD N ats ps i) (hidW ws i)) = true := spB_of (by omega) (by omega) (by omega)
  unfold hidC
  refine ⟨by omega, by simp only; omega, by simp only; omega, by simp only; omega, ?_, ?_, ?_⟩
  · cases o <;> simp
  · cases o <;> simp
  · cases o
    · simp only [Bool.false_eq_true, if_false, List.all_cons, List.all_nil, hr, ho]; rfl
    · simp only [if_true, List.all_cons, List.all_nil, hr, ho]; rfl
theorem HidOk.sat (h : HidOk N ats ps ws) (k : Nat) : SatN (hidL N ats ps ws o k) (iv ats) := fun i hi => by
  rw [hidL_len] at hi
  rw [hidL_get _ _ _ _ _ hi]
  have h3 := h.wid i
  have h5 := w3 h3.1 h3.2
  unfold hidC
  simp only [Int.toNat_natCast]
  show mem _ (hidD N ats ps i) = true
  rw [mem_iff]
  refine ⟨hidR (hidD N ats ps i) (hidW ws i), by cases o <;> simp, ?_, ?_⟩
  · unfold hidR; simp only; omega
  · unfold hidR; simp only; omega
theorem HidOk.size (_ : HidOk N ats ps ws) : ∀ k n, k ≤ n → sizeN (hidL N ats ps ws o n) k = 2 ^ k
  | 0, _, _ => rfl
  | k + 1, n, hk => by
    unfold sizeN
    rw [HidOk.size ‹_› k n (by omega), hidL_get _ _ _ _ _ (show k < n by omega), Nat.pow_succ]
    congr 1
    unfold hidC
    cases o <;> rfl
theorem HidOk.above (h : HidOk N ats ps ws) {k : Nat} (hk : k ≤ 8) : aboveB (hidL N ats ps ws o k) 100000 = false := by
  have h1 := h.size (o := o) k k (Nat.le_refl _)
  have h2 : 2 ^ k ≤ 2 ^ 8 := Nat.pow_le_pow_right (by omega) hk
  refine above_small ?_
  rw [hidL_len, h1]
  omega
theorem holds_sat {N : Nat} {ats : List Int} {l : List Cho} (h : StOk N l) (h1 : 1 ≤ N) (hN : N ≤ 24) (hl : ats.length = N) (h0 : iv ats 0 = 0) (hb : ∀ i, i < N → -32768 ≤ iv ats i ∧ iv ats i ≤ 32767) (hx : SatN l (iv ats)) : holdsB l ats = true := by
  subst hl
  rw [holds_net (stOk_net h h1 hN), decide_eq_true h1, h0, all_sat.2 hx]
  have f : ats.any farB = false := by
    rw [List.any_eq_false]
    intro x hx
    obtain ⟨i, hi, rfl⟩ := List.getElem_of_mem hx
    rw [iv_at47 hi]
    have := hb i hi
    unfold farB
    rw [decide_eq_false (by omega), decide_eq_false (by omega)]
    decide
  rw [f]
  rfl
end
theorem sol_holds9 {N : Nat} {l : List Cho} {P : Mat} (h1 : 1 ≤ N) (hN : N ≤ 24) (hst : StOk N l) (h : SolOk N l P) : holdsB l (schL P N) = true := by
  obtain ⟨a, b, c, d⟩ := sch_ok h1 hN hst h
  have e := stOk_net hst h1 hN
  rw [holds_net (by rw [schL_len]; exact e), schL_len, decide_eq_true h1, c, b]
  have f : (schL P N).any farB = false := by
    rw [List.any_eq_false]
    intro x hx
    have := d x hx
    unfold farB
    rw [decide_eq_false (by omega), decide_eq_false (by omega)]
    decide
  rw [f]
  rfl
end Go.Proofs.YtcppcfinnbeboaaGreat
