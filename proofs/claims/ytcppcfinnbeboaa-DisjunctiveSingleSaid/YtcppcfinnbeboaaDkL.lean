/- Law 47: integer.Mul of two numbers that are not negative, and whose product is a number of the machine. -/
import Derived.Test.YtcppcfinnbeboaaDjR
import Derived.Lib.Mul64
import Derived.Laws.Bits64b
namespace Go.Proofs.Ytcppcfinnbeboaa
open Go.RowKit Go.Shelf Go.Lib

theorem maskN47 (a : Nat) (ha : a < 18446744073709551616) : bits .and .u64 (a : Int) 4294967295 = ((a % 4294967296 : Nat) : Int) := by
  have h := bits_and_u64_nat a 4294967295 ha (by omega)
  have e : a &&& 4294967295 = a % 4294967296 := Nat.and_two_pow_sub_one_eq_mod a 32
  rw [e] at h
  exact h
theorem divN47 (a : Nat) : (a : Int) / 4294967296 = ((a / 4294967296 : Nat) : Int) := by omega
theorem mulN47 (a b : Nat) : (a : Int) * (b : Int) = ((a * b : Nat) : Int) := (Int.natCast_mul a b).symm
theorem addN47 (a b : Nat) : (a : Int) + (b : Int) = ((a + b : Nat) : Int) := (Int.natCast_add a b).symm
theorem wrapN47 (a : Nat) (ha : a < 18446744073709551616) : IntKind.u64.wrap (a : Int) = (a : Int) := by rw [IntKind.wrap_u64]; omega
theorem wrapM47 (a : Nat) : IntKind.u64.wrap (a : Int) = ((a % 18446744073709551616 : Nat) : Int) := by rw [IntKind.wrap_u64]; omega
set_option maxHeartbeats 1000000 in
theorem mul64_c (x y : Nat) (hx : x < 18446744073709551616) (hy : y < 18446744073709551616) (w : World) :
    Calls Try.prog 64 #[.int .u64 x, .int .u64 y] w fun e w' => e = .returned (.tuple #[.int .u64 ((x * y / 18446744073709551616 : Nat) : Int), .int .u64 ((x * y % 18446744073709551616 : Nat) : Int)]) ∧ w' = w := by
  obtain ⟨bd, bt, bw, hhi⟩ := Lib.mul64_hi x y hx hy
  have ba := Lib.half_mul_le (a := x / 4294967296) (b := y / 4294967296) (by omega) (by omega)
  have bb := Lib.half_mul_le (a := x / 4294967296) (b := y % 4294967296) (by omega) (by omega)
  have bc := Lib.half_mul_le (a := x % 4294967296) (b := y / 4294967296) (by omega) (by omega)
  have ba' : x / 4294967296 * (y / 4294967296) < 18446744073709551616 := by omega
  have bb' : x / 4294967296 * (y % 4294967296) < 18446744073709551616 := by omega
  have bc' : x % 4294967296 * (y / 4294967296) < 18446744073709551616 := by omega
  have bh1 : x / 4294967296 * (y / 4294967296) + (x / 4294967296 * (y % 4294967296) + x % 4294967296 * (y % 4294967296) / 4294967296) / 4294967296 < 18446744073709551616 := by omega
  have bh : x / 4294967296 * (y / 4294967296) + (x / 4294967296 * (y % 4294967296) + x % 4294967296 * (y % 4294967296) / 4294967296) / 4294967296 + ((x / 4294967296 * (y % 4294967296) + x % 4294967296 * (y % 4294967296) / 4294967296) % 4294967296 + x % 4294967296 * (y / 4294967296)) / 4294967296 < 18446744073709551616 := by omega
  go_enter Try.func64, Try.ntmps64
  go_wp2
  simp only [maskN47 x hx, maskN47 y hy, divN47, mulN47, addN47, wrapN47 _ bd, wrapN47 _ bb', wrapN47 _ bt, maskN47 _ bt, wrapN47 _ bc', wrapN47 _ bw, wrapN47 _ ba', wrapN47 _ bh1, wrapN47 _ bh, wrapM47 (x * y)]
  rw [hhi]
  go_ret2
  exact ⟨rfl, rfl⟩
theorem insize_c (a : Nat) (ha : a < 9223372036854775808) (w : World) : Calls Try.prog 65 #[.int .i64 (a : Int)] w fun e w' => e = .returned (.int .u64 (a : Int)) ∧ w' = w := by
  have h0 : decide ((a : Int) < 0) = false := decide_eq_false (by omega)
  have h1 : IntKind.u64.wrap (a : Int) = (a : Int) := by rw [IntKind.wrap_u64]; omega
  go_enter Try.func65, Try.ntmps65
  go_wp2_with fail
  go_ret
  exact ⟨rfl, rfl⟩
theorem insigned_c (a : Nat) (ha : a < 9223372036854775808) (w : World) : Calls Try.prog 66 #[.int .u64 (a : Int), .bool false] w fun e w' => e = .returned (.tuple #[.int .i64 (a : Int), .bool true]) ∧ w' = w := by
  have h0 : decide ((a : Int) ≤ 9223372036854775807) = true := decide_eq_true (by omega)
  have h1 : IntKind.i64.wrap (a : Int) = (a : Int) := by rw [IntKind.wrap_i64]; omega
  go_enter Try.func66, Try.ntmps66
  go_wp2_with fail
  go_ret2
  exact ⟨rfl, rfl⟩
theorem inMul_c (a b : Nat) (ha : a < 9223372036854775808) (hb : b < 9223372036854775808) (hab : a * b < 9223372036854775808) (w : World) : Calls Try.prog 43 #[.int .i64 (a : Int), .int .i64 (b : Int)] w fun e w' => e = .returned (.tuple #[.int .i64 ((a * b : Nat) : Int), .int .i64 0]) ∧ w' = w := by
  have K1 := Lib.hid (fun W => insize_c a ha W)
  have K2 := Lib.hid (fun W => insize_c b hb W)
  have h3 := fun W => mul64_c a b (by omega) (by omega) W
  rw [Nat.div_eq_of_lt (by omega), Nat.mod_eq_of_lt (by omega)] at h3
  have K3 := Lib.hid h3
  have K4 := Lib.hid (fun W => insigned_c (a * b) hab W)
  have g0 : decide ((a : Int) < 0) = false := decide_eq_false (by omega)
  have g1 : decide ((b : Int) < 0) = false := decide_eq_false (by omega)
  generalize ((a * b : Nat) : Int) = m at *
  clear h3 hab
  go_enter Try.func43, Try.ntmps43
  go_wp2_with fail
  refine (K1.out _).mono ?_
  rintro e w1 ⟨rfl, rfl⟩
  go_wp2_with fail
  refine (K2.out _).mono ?_
  rintro e w1 ⟨rfl, rfl⟩
  go_wp2_with fail
  refine (K3.out _).mono ?_
  rintro e w1 ⟨rfl, rfl⟩
  go_wp2_with fail
  refine (K4.out _).mono ?_
  rintro e w1 ⟨rfl, rfl⟩
  go_wp2_with fail
  go_ret2
  exact ⟨rfl, rfl⟩
end Go.Proofs.Ytcppcfinnbeboaa
