/- Law 47: slices.Repeat of one number. -/
import Derived.Test.YtcppcfinnbeboaaGreatDjR
import Derived.Shelf.Spec.SlicesInsert
namespace Go.Proofs.YtcppcfinnbeboaaGreat
open Go.RowKit Go.Shelf

theorem djTwentyFive {n : Nat} (h : n < 25) : n = 0 ∨ n = 1 ∨ n = 2 ∨ n = 3 ∨ n = 4 ∨ n = 5 ∨ n = 6 ∨ n = 7 ∨ n = 8 ∨ n = 9 ∨ n = 10 ∨ n = 11 ∨ n = 12 ∨ n = 13 ∨ n = 14 ∨ n = 15 ∨ n = 16 ∨ n = 17 ∨ n = 18 ∨ n = 19 ∨ n = 20 ∨ n = 21 ∨ n = 22 ∨ n = 23 ∨ n = 24 := by omega
theorem bitsMul64_c (n : Nat) (hn : n < 25) (w : World) : Calls Tryz.prog 118 #[.int .u64 1, .int .u64 (n : Int)] w fun e w' => e = .returned (.tuple #[.int .u64 0, .int .u64 (n : Int)]) ∧ w' = w := by
  rcases djTwentyFive hn with rfl | rfl | rfl | rfl | rfl | rfl | rfl | rfl | rfl | rfl | rfl | rfl | rfl | rfl | rfl | rfl | rfl | rfl | rfl | rfl | rfl | rfl | rfl | rfl | rfl
  all_goals
    go_enter Tryz.func118, Tryz.ntmps118
    go_wp2_with fail
    go_ret2
    exact ⟨rfl, rfl⟩
theorem bitsMul_c (n : Nat) (hn : n < 25) (w : World) : Calls Tryz.prog 102 #[.int .u64 1, .int .u64 (n : Int)] w fun e w' => e = .returned (.tuple #[.int .u64 0, .int .u64 (n : Int)]) ∧ w' = w := by
  have K := Lib.hid (bitsMul64_c n hn w)
  clear hn
  go_enter Tryz.func102, Tryz.ntmps102
  go_wp2_with fail
  refine K.out.mono ?_
  rintro e w1 ⟨rfl, rfl⟩
  go_wp2_with fail
  go_ret2
  exact ⟨rfl, rfl⟩
end Go.Proofs.YtcppcfinnbeboaaGreat
