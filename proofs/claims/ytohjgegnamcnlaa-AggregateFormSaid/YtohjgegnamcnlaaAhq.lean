/- Law 39: the order of strings, byte by byte. Plain law. -/
import Derived.Test.YtohjgegnamcnlaaAhp
namespace Go.Proofs.Ytohjgegnamcnlaa
open Go.RowKit Go.Shelf

def sgL (a b : List UInt8) : Int := if Op.bytesLess a b then -1 else if Op.bytesLess b a then 1 else 0
theorem sgS_eq (a b : ByteArray) : sgS a b = sgL a.data.toList b.data.toList := rfl
theorem sgL_cons (x : UInt8) (a b : List UInt8) : sgL (x :: a) (x :: b) = sgL a b := by
  simp [sgL, Op.bytesLess]
theorem sgL_ne {x y : UInt8} (a b : List UInt8) (h : x ≠ y) : sgL (x :: a) (y :: b) = sgI (x.toNat : Int) (y.toNat : Int) := by
  have h1 : (x == y) = false := by simpa using h
  have h2 : (y == x) = false := by simpa using fun e : y = x => h e.symm
  have h3 : x.toNat ≠ y.toNat := fun e => h (UInt8.toNat_inj.1 e)
  unfold sgL sgI Op.bytesLess
  simp only [h1, h2, Bool.false_and, Bool.or_false, decide_eq_true_eq, UInt8.lt_iff_toNat_lt]
  by_cases k1 : x.toNat < y.toNat
  · rw [if_pos k1, if_pos (by omega)]
  · rw [if_neg k1, if_pos (by omega), if_neg (by omega), if_pos (by omega)]
theorem sgL_diff : ∀ (a b : List UInt8) (j : Nat) (ha : j < a.length) (hb : j < b.length), (∀ l (h : l < a.length) (h' : l < b.length), l < j → a[l] = b[l]) → a[j] ≠ b[j] → sgL a b = sgI (a[j].toNat : Int) (b[j].toNat : Int)
  | [], _, _, ha, _, _, _ => absurd ha (by simp)
  | _ :: _, [], _, _, hb, _, _ => absurd hb (by simp)
  | x :: a, y :: b, 0, _, _, _, hd => sgL_ne a b hd
  | x :: a, y :: b, j + 1, ha, hb, he, hd => by
    have e0 : x = y := he 0 (by simp) (by simp) (by omega)
    subst e0
    rw [sgL_cons]
    have := sgL_diff a b j (by simpa using ha) (by simpa using hb) (fun l h h' hl => by
      have := he (l + 1) (by simpa using h) (by simpa using h') (by omega)
      simpa using this) (by simpa using hd)
    simpa using this
theorem sgL_end : ∀ (a b : List UInt8), (∀ l (h : l < a.length) (h' : l < b.length), a[l] = b[l]) → sgL a b = sgI (a.length : Int) (b.length : Int)
  | [], [], _ => by simp [sgL, sgI, Op.bytesLess]
  | [], y :: b, _ => by
    unfold sgI
    rw [if_pos (by simp)]
    simp [sgL, Op.bytesLess]
  | x :: a, [], _ => by
    unfold sgI
    rw [if_neg (by simp; omega), if_pos (by simp)]
    simp [sgL, Op.bytesLess]
  | x :: a, y :: b, he => by
    have e0 : x = y := he 0 (by simp) (by simp)
    subst e0
    rw [sgL_cons, sgL_end a b fun l h h' => by
      have := he (l + 1) (by simpa using h) (by simpa using h')
      simpa using this]
    unfold sgI
    simp only [List.length_cons]
    split <;> split <;> (try split) <;> (try split) <;> omega
end Go.Proofs.Ytohjgegnamcnlaa
