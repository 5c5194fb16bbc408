/- Law 42: great. -/
import Derived.Test.YtgdcgdjlhljbiaaAwk42
namespace Go.Proofs.Ytgdcgdjlhljbiaa
open Go.RowKit

def greatB (N : List Nd) : Bool := decide (200 < N.length) && decide (N.length ≤ 1000)
set_option maxRecDepth 100000 in
theorem great42_c (v : Value) (root : Int) (N : List Nd) (w : World) (hs : IsNodes w v N) : Calls Try.prog 13 #[.agg #[v, .int .i64 root]] w (Ret w (.bool (greatB N))) := by
  obtain ⟨A, c, rfl, hnc, hc⟩ := hs.form
  have hb1 := (Below.refl w.heap.size w).alloc (Nat.le_refl _) (.cells #[.slice A N.length c, .int .i64 root] 24)
  unfold greatB
  by_cases h1 : 200 < N.length
  · have c1 : decide ((200 : Int) < (N.length : Int)) = true := decide_eq_true (by omega)
    have d1 : decide (200 < N.length) = true := decide_eq_true h1
    by_cases h2 : N.length ≤ 1000
    · have c2 : decide ((N.length : Int) ≤ 1000) = true := decide_eq_true (by omega)
      rw [d1, decide_eq_true h2]
      clear h1 h2 d1
      go_enter Try.func13, Try.ntmps13
      go_wp2_with fail
      go_ret
      exact ⟨rfl, hb1⟩
    · have c2 : decide ((N.length : Int) ≤ 1000) = false := decide_eq_false (by omega)
      rw [d1, decide_eq_false h2]
      clear h1 h2 d1
      go_enter Try.func13, Try.ntmps13
      go_wp2_with fail
      go_ret
      exact ⟨rfl, hb1⟩
  · have c1 : decide ((200 : Int) < (N.length : Int)) = false := decide_eq_false (by omega)
    rw [decide_eq_false h1]
    clear h1
    go_enter Try.func13, Try.ntmps13
    go_wp2_with fail
    go_ret
    exact ⟨rfl, hb1⟩
end Go.Proofs.Ytgdcgdjlhljbiaa
