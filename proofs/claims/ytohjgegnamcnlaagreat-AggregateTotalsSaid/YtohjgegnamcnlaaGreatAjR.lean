/- Law 39: floor quotients and remainders of the reference. -/
import Derived.Test.YtohjgegnamcnlaaGreatZac

namespace Go.Proofs.YtohjgegnamcnlaaGreat
open Go.RowKit Go.Shelf

theorem tdiv_floor {a b : Int} (hb : 0 < b) : (0 ≤ Int.tmod a b → Int.tdiv a b = a / b ∧ Int.tmod a b = a % b) ∧ (Int.tmod a b < 0 → Int.tdiv a b - 1 = a / b ∧ Int.tmod a b + b = a % b) := by
  have h1 := Int.mul_tdiv_add_tmod a b
  have h2 := Int.tmod_lt_of_pos a hb
  have h3 : -b < Int.tmod a b := by
    have := Int.tmod_lt_of_pos (-a) hb
    rw [Int.neg_tmod] at this
    omega
  have h4 := Int.mul_ediv_add_emod a b
  have h5 := Int.emod_nonneg a (show b ≠ 0 by omega)
  have h6 := Int.emod_lt_of_pos a hb
  have key : ∀ q r q' r' : Int, b * q + r = b * q' + r' → 0 ≤ r → r < b → 0 ≤ r' → r' < b → q = q' ∧ r = r' := fun q r q' r' h g1 g2 g3 g4 => by
    have e : q = q' := by
      have e1 : b * (q - q') = r' - r := by rw [Int.mul_sub]; omega
      rcases Int.lt_trichotomy (q - q') 0 with c | c | c
      · have : b * (q - q') ≤ b * (-1) := Int.mul_le_mul_of_nonneg_left (by omega) (by omega)
        omega
      · omega
      · have : b * 1 ≤ b * (q - q') := Int.mul_le_mul_of_nonneg_left (by omega) (by omega)
        omega
    subst e
    omega
  refine ⟨fun h => key _ _ _ _ (by omega) h h2 h5 h6, fun h => key _ _ _ _ ?_ (by omega) (by omega) h5 h6⟩
  rw [Int.mul_sub]
  omega
theorem tmod_zero {a b : Int} (h : Int.tmod a b = 0) (hb : 0 < b) : Int.tdiv a b = a / b ∧ a % b = 0 := by
  obtain ⟨h1, h2⟩ := (tdiv_floor (a := a) hb).1 (by omega)
  exact ⟨h1, by omega⟩
theorem tdiv_bound {a b : Int} (hb : 0 < b) (ha : -9223372036854775808 ≤ a ∧ a ≤ 9223372036854775807) : -9223372036854775808 ≤ Int.tdiv a b ∧ Int.tdiv a b ≤ 9223372036854775807 ∧ -9223372036854775808 ≤ a / b ∧ a / b ≤ 9223372036854775807 := by
  have h1 : -9223372036854775808 ≤ a / b := by
    rw [Int.le_ediv_iff_mul_le hb]
    have : -9223372036854775808 * b ≤ -9223372036854775808 * 1 := by omega
    omega
  have h2 : a / b ≤ 9223372036854775807 := by
    have : a / b < 9223372036854775808 := by
      rw [Int.ediv_lt_iff_lt_mul hb]
      omega
    omega
  have h3 := tdiv_floor (a := a) hb
  have h4 : Int.tdiv a b ≤ 9223372036854775807 := by
    rcases Int.lt_or_le a 0 with c | c
    · have : Int.tdiv a b ≤ 0 := by
        have h5 := Int.tdiv_nonneg (a := -a) (b := b) (by omega) (by omega)
        rw [Int.neg_tdiv] at h5
        omega
      omega
    · rcases Int.lt_or_le (Int.tmod a b) 0 with d | d
      · have := Int.tmod_nonneg b c
        omega
      · rw [(h3.1 d).1]; exact h2
  refine ⟨?_, h4, h1, h2⟩
  rcases Int.lt_or_le (Int.tmod a b) 0 with d | d
  · have := (h3.2 d).1
    omega
  · rw [(h3.1 d).1]; exact h1
set_option maxRecDepth 100000 in
theorem r01Div_c (a b : Int) (w : World) (ha : -9223372036854775808 ≤ a ∧ a ≤ 9223372036854775807) (hb : 0 < b ∧ b ≤ 4611686018427387904) : Calls Tryz.prog 84 #[.int .i64 a, .int .i64 b] w (Ret w (.tuple #[.int .i64 (a / b), .int .i64 (a % b), .int .i64 0])) := by
  have h1 := tdiv_floor (a := a) hb.1
  have h2 := tdiv_bound hb.1 ha
  have hq := Int.tmod_lt_of_pos a hb.1
  have hq2 : -b < Int.tmod a b := by
    have := Int.tmod_lt_of_pos (-a) hb.1
    rw [Int.neg_tmod] at this
    omega
  have g0 : (b == 0) = false := by rw [beq_eq_false_iff_ne]; omega
  have g1 : (b == -1) = false := by rw [beq_eq_false_iff_ne]; omega
  have g2 : ¬ b = 0 := by omega
  have g3 : decide (b < 0) = false := decide_eq_false (by omega)
  have w1 : IntKind.i64.wrap (Int.tdiv a b) = Int.tdiv a b := by rw [IntKind.wrap_i64]; omega
  have w2 : IntKind.i64.wrap (Int.tmod a b) = Int.tmod a b := by rw [IntKind.wrap_i64]; omega
  have w3 : IntKind.i64.wrap (Int.tdiv a b - 1) = if Int.tmod a b < 0 then a / b else IntKind.i64.wrap (Int.tdiv a b - 1) := by
    split
    · rename_i h
      rw [(h1.2 h).1, IntKind.wrap_i64]; omega
    · rfl
  have w4 : IntKind.i64.wrap (Int.tmod a b + b) = Int.tmod a b + b := by rw [IntKind.wrap_i64]; omega
  have hcas : (Int.tmod a b < 0 ∧ Int.tdiv a b - 1 = a / b ∧ Int.tmod a b + b = a % b) ∨ (0 ≤ Int.tmod a b ∧ Int.tdiv a b = a / b ∧ Int.tmod a b = a % b) := by
    rcases Int.lt_or_le (Int.tmod a b) 0 with d | d
    · exact .inl ⟨d, h1.2 d⟩
    · exact .inr ⟨d, h1.1 d⟩
  clear h1 ha
  rcases hcas with ⟨d, e1, e2⟩ | ⟨d, e1, e2⟩
  · rw [← e1, ← e2]
    have n0 : (Int.tmod a b == 0) = false := by rw [beq_eq_false_iff_ne]; omega
    have n1 : (Int.tmod a b != 0) = true := by rw [bne, n0]; rfl
    have n2 : decide (Int.tmod a b < 0) = true := decide_eq_true d
    rw [if_pos d, ← e1] at w3
    clear h2 hq hq2 d e1 e2
    cases n3 : (a == -9223372036854775808)
    all_goals
      go_enter Tryz.func84, Tryz.ntmps84
      go_wp2_with fail
      refine wp_region_below (by kernel_rfl) (by kernel_rfl) ?_
      repeat (go_big_quiet_step (fail))
      refine wpQuiet_nil ?_
      rintro Y1 ⟨⟨_, hbY⟩, rfl⟩
      go_wp2_with fail
      (try simp only [Exit.inBlock, Exit.then])
      refine bodyPost_ret (by simp [results, Tryz.results84, go_sem]; try rfl) rfl ?_
      exact ⟨rfl, hbY⟩
  · rw [← e1, ← e2]
    have n2 : decide (Int.tmod a b < 0) = false := decide_eq_false (by omega)
    clear h2 hq hq2 d e1 e2 w3
    cases n3 : (a == -9223372036854775808) <;> cases n4 : (Int.tmod a b == 0)
    all_goals
      have n5 : (Int.tmod a b != 0) = !(Int.tmod a b == 0) := rfl
      rw [n4] at n5
      go_enter Tryz.func84, Tryz.ntmps84
      go_wp2_with fail
      refine wp_region_below (by kernel_rfl) (by kernel_rfl) ?_
      repeat (go_big_quiet_step (fail))
      refine wpQuiet_nil ?_
      rintro Y1 ⟨⟨_, hbY⟩, rfl⟩
      go_wp2_with fail
      (try simp only [Exit.inBlock, Exit.then])
      refine bodyPost_ret (by simp [results, Tryz.results84, go_sem]; try rfl) rfl ?_
      exact ⟨rfl, hbY⟩
theorem r01Floor_c (a b : Int) (w : World) (ha : -9223372036854775808 ≤ a ∧ a ≤ 9223372036854775807) (hb : 0 < b ∧ b ≤ 4611686018427387904) : Calls Tryz.prog 54 #[.int .i64 a, .int .i64 b] w (Ret w (.int .i64 (a / b))) := by
  have K := Lib.hid (r01Div_c a b w ha hb)
  clear ha hb
  go_enter Tryz.func54, Tryz.ntmps54
  go_wp2_with fail
  refine K.out.mono ?_
  rintro e w1 ⟨rfl, hb1⟩
  go_wp2_with fail
  go_ret
  exact ⟨rfl, hb1⟩
theorem r01Mod_c (a b : Int) (w : World) (ha : -9223372036854775808 ≤ a ∧ a ≤ 9223372036854775807) (hb : 0 < b ∧ b ≤ 4611686018427387904) : Calls Tryz.prog 55 #[.int .i64 a, .int .i64 b] w (Ret w (.int .i64 (a % b))) := by
  have K := Lib.hid (r01Div_c a b w ha hb)
  clear ha hb
  go_enter Tryz.func55, Tryz.ntmps55
  go_wp2_with fail
  refine K.out.mono ?_
  rintro e w1 ⟨rfl, hb1⟩
  go_wp2_with fail
  go_ret
  exact ⟨rfl, hb1⟩
end Go.Proofs.YtohjgegnamcnlaaGreat
