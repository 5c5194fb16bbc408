/- Law 39: the reference's sign. -/
import Derived.Test.YtohjgegnamcnlaaAhj
namespace Go.Proofs.Ytohjgegnamcnlaa
open Go.RowKit Go.Shelf

theorem r33sign_c (a b : Int) (w : World) : Calls Try.prog 51 #[.int .i64 a, .int .i64 b] w (Ret w (.int .i64 (sgI a b))) := by
  obtain ⟨R, hR⟩ : ∃ r, r = sgI a b := ⟨_, rfl⟩
  rw [← hR]
  unfold sgI at hR
  cases q1 : decide (a < b)
  · have h1 : ¬ a < b := of_decide_eq_false q1
    cases q2 : decide (b < a)
    · have h2 : ¬ b < a := of_decide_eq_false q2
      have HR : Hid (R = 0) := Lib.hid (by rw [hR]; simp [h1, h2])
      clear hR h1 h2
      go_enter Try.func51, Try.ntmps51
      go_wp2_with fail
      go_ret
      exact ⟨by rw [HR.out]; rfl, Below.refl _ _⟩
    · have h2 : b < a := of_decide_eq_true q2
      have HR : Hid (R = 1) := Lib.hid (by rw [hR]; simp [h1, h2])
      clear hR h1 h2
      go_enter Try.func51, Try.ntmps51
      go_wp2_with fail
      go_ret
      exact ⟨by rw [HR.out]; rfl, Below.refl _ _⟩
  · have h1 : a < b := of_decide_eq_true q1
    have HR : Hid (R = -1) := Lib.hid (by rw [hR]; simp [h1])
    clear hR h1
    go_enter Try.func51, Try.ntmps51
    go_wp2_with fail
    go_ret
    exact ⟨by rw [HR.out]; rfl, Below.refl _ _⟩
end Go.Proofs.Ytohjgegnamcnlaa
