/- Law 47: counting schedules: numbers and their digits. No program in sight. -/
import Derived.Test.YtcppcfinnbeboaaGreatDkK
namespace Go.Proofs.YtcppcfinnbeboaaGreat

def digN (L k j : Nat) : Nat := k / L ^ j % L
def rowN (F : Int) (L k i : Nat) : Int := if i = 0 then 0 else F + (digN L k (i - 1) : Int)
def schN (F : Int) (L n k : Nat) : List Int := (List.range n).map (rowN F L k)
def carryN (L k j : Nat) : Prop := ∀ h, h < j → digN L k h = L - 1
section
variable {L k j : Nat}
theorem digN_lt (hL : 0 < L) : digN L k j < L := Nat.mod_lt _ hL
theorem pow_div (k L j : Nat) : k / L ^ (j + 1) = k / L ^ j / L := by rw [Nat.pow_succ, Nat.div_div_eq_div_mul]
theorem carry_div (hL : 0 < L) : ∀ j, carryN L k j → (k + 1) / L ^ j = k / L ^ j + 1
  | 0, _ => by simp
  | j + 1, h => by
    rw [pow_div, pow_div, carry_div hL j fun i hi => h i (by omega)]
    have h1 : k / L ^ j % L = L - 1 := h j (by omega)
    have h2 := Nat.div_add_mod (k / L ^ j) L
    generalize k / L ^ j = K at *
    have h3 : K + 1 = L * (K / L + 1) := by rw [Nat.mul_add, Nat.mul_one]; omega
    rw [h3, Nat.mul_div_cancel_left _ hL]
theorem carry_low (hL : 0 < L) (h : carryN L k j) {i : Nat} (hi : i < j) : digN L (k + 1) i = 0 := by
  unfold digN
  rw [carry_div hL i fun x hx => h x (by omega)]
  have h1 : k / L ^ i % L = L - 1 := h i hi
  have h2 := Nat.div_add_mod (k / L ^ i) L
  generalize k / L ^ i = K at *
  have h3 : K + 1 = L * (K / L + 1) := by rw [Nat.mul_add, Nat.mul_one]; omega
  rw [h3, Nat.mul_mod_right]
theorem carry_at (hL : 0 < L) (h : carryN L k j) (hn : digN L k j ≠ L - 1) : digN L (k + 1) j = digN L k j + 1 := by
  unfold digN at hn ⊢
  rw [carry_div hL j h]
  have h1 := Nat.mod_lt (k / L ^ j) hL
  generalize k / L ^ j = K at *
  rw [Nat.add_mod, Nat.mod_eq_of_lt (a := 1) (by omega), Nat.mod_eq_of_lt (by omega)]
theorem carry_div2 (hL : 0 < L) (h : carryN L k j) (hn : digN L k j ≠ L - 1) : ∀ d, (k + 1) / L ^ (j + 1 + d) = k / L ^ (j + 1 + d)
  | 0 => by
    rw [Nat.add_zero, pow_div, pow_div, carry_div hL j h]
    unfold digN at hn
    have h1 := Nat.mod_lt (k / L ^ j) hL
    have h2 := Nat.div_add_mod (k / L ^ j) L
    generalize k / L ^ j = K at *
    have h3 : K + 1 = (K % L + 1) + L * (K / L) := by omega
    rw [h3, Nat.add_mul_div_left _ _ hL, Nat.div_eq_of_lt (by omega), Nat.zero_add]
  | d + 1 => by rw [← Nat.add_assoc, pow_div, pow_div, carry_div2 hL h hn d]
theorem carry_high (hL : 0 < L) (h : carryN L k j) (hn : digN L k j ≠ L - 1) {i : Nat} (hi : j < i) : digN L (k + 1) i = digN L k i := by
  have := carry_div2 hL h hn (i - (j + 1))
  rw [show j + 1 + (i - (j + 1)) = i from by omega] at this
  unfold digN
  rw [this]
theorem carry_end {m : Nat} (hL : 0 < L) (hk : k < L ^ m) (h : carryN L k m) : k + 1 = L ^ m := by
  have h1 := carry_div hL m h
  rw [Nat.div_eq_of_lt hk] at h1
  have hp : 0 < L ^ m := Nat.pow_pos hL
  have h2 := Nat.div_add_mod (k + 1) (L ^ m)
  rw [h1, Nat.zero_add, Nat.mul_one] at h2
  generalize (k + 1) % L ^ m = r at h2
  omega
theorem digN_zero (i : Nat) : digN L 0 i = 0 := by unfold digN; rw [Nat.zero_div, Nat.zero_mod]
end
/-! ### how many -/
def satK (l : List Cho) (F : Int) (L n k : Nat) : Bool := l.all (satB (schN F L n k))
def cntK (l : List Cho) (F : Int) (L n : Nat) : Nat → Nat
  | 0 => 0
  | k + 1 => cntK l F L n k + (if satK l F L n k then 1 else 0)
theorem cntK_le (l : List Cho) (F : Int) (L n : Nat) : ∀ k, cntK l F L n k ≤ k
  | 0 => Nat.le_refl _
  | k + 1 => by have := cntK_le l F L n k; unfold cntK; split <;> omega
theorem schN_len (F : Int) (L n k : Nat) : (schN F L n k).length = n := by unfold schN; simp
theorem schN_iv (F : Int) (L n k : Nat) {i : Nat} (hi : i < n) : iv (schN F L n k) i = rowN F L k i := by
  rw [← iv_at (by rw [schN_len]; exact hi)]
  unfold schN
  simp
theorem rowN_near {F : Int} {L k i : Nat} (hF : -1073741824 ≤ F) (hT : F + L ≤ 1073741824) (hL : 0 < L) : -1073741824 ≤ rowN F L k i ∧ rowN F L k i ≤ 1073741824 := by
  unfold rowN
  have := digN_lt (k := k) (j := i - 1) hL
  split <;> omega
/-- The number of schedules, as long as it is at most a number. -/
def growN (L most : Nat) : Nat → Nat
  | 0 => 1
  | j + 1 => if growN L most j ≤ most then growN L most j * L else growN L most j
theorem growN_stay {L most : Nat} {i : Nat} (h : most < growN L most i) : ∀ d, growN L most (i + d) = growN L most i
  | 0 => rfl
  | d + 1 => by
    rw [← Nat.add_assoc, growN, growN_stay h d, if_neg (by omega)]
theorem growN_le {L most : Nat} {m i : Nat} (h : growN L most m ≤ most) (hi : i ≤ m) : growN L most i ≤ most := by
  rcases Nat.lt_or_ge most (growN L most i) with h1 | h1
  · have := growN_stay h1 (m - i)
    rw [show i + (m - i) = m from by omega] at this
    omega
  · exact h1
theorem growN_pow {L most : Nat} : ∀ m, growN L most m ≤ most → growN L most m = L ^ m
  | 0, _ => by simp [growN]
  | m + 1, h => by
    have h1 := growN_le h (Nat.le_succ m)
    have h2 := growN_pow m h1
    rw [growN, if_pos h1, h2, Nat.pow_succ]
theorem growN_bd {L most : Nat} (hL : L ≤ 2147483648) (h1 : 1 ≤ most) (h2 : most ≤ 1000000) : ∀ m, growN L most m ≤ 2147483648000000
  | 0 => by simp [growN]
  | m + 1 => by
    rw [growN]
    split
    · rename_i h
      have : growN L most m * L ≤ 1000000 * 2147483648 := Nat.mul_le_mul (by omega) hL
      omega
    · exact growN_bd hL h1 h2 m
end Go.Proofs.YtcppcfinnbeboaaGreat
