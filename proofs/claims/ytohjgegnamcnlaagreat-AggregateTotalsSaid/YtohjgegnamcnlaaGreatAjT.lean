/- Law 39: the reference's carry. -/
import Derived.Test.YtohjgegnamcnlaaGreatAjR
import Derived.Test.YtohjgegnamcnlaaGreatAjS
namespace Go.Proofs.YtohjgegnamcnlaaGreat
open Go.RowKit Go.Shelf

def carR (K S high low p : Int) : Int × Int := if low + (p - p / K * K) * S < 4611686018427387904 then (high + p / K, low + (p - p / K * K) * S) else (high + p / K + 1, low + (p - p / K * K) * S - 4611686018427387904)
theorem carR_dig {B x high low p K S : Int} (hd : Dig B x high low) (hKS : K * S = 4611686018427387904) (hK : 0 < K) (hS : 0 < S) (hp : -36028797018963968 ≤ p ∧ p ≤ 36028797018963968) (hK2 : 32768 ≤ K) : Dig (B + 1099511627777) (x + p * S) (carR K S high low p).1 (carR K S high low p).2 := by
  obtain ⟨_, _, _, h4, h5⟩ := hd.carry hKS hK hS hp hK2
  unfold carR
  split
  · rename_i q; exact h4 q
  · rename_i q; exact h5 q
set_option maxRecDepth 100000 in
set_option maxHeartbeats 4000000 in
theorem r39carry47 (high low p : Int) (w : World) (hh : -1000000000000000000 ≤ high ∧ high ≤ 1000000000000000000) (hl : 0 ≤ low ∧ low < 4611686018427387904) (hp : -36028797018963968 ≤ p ∧ p ≤ 36028797018963968) : Calls Tryz.prog 56 #[.int .i64 high, .int .i64 low, .int .i64 p, .int .i64 47] w (Ret w (.tuple #[.int .i64 (carR 32768 140737488355328 high low p).1, .int .i64 (carR 32768 140737488355328 high low p).2])) := by
  have hd : Dig high.natAbs (high * 4611686018427387904 + low) high low := by unfold Dig; omega
  obtain ⟨⟨a1, a2⟩, ⟨b1, b2⟩, ⟨c1, c2⟩, _, _⟩ := hd.carry (K := 32768) (S := 140737488355328) (by rfl) (by omega) (by omega) hp (by omega)
  have K := Lib.hid (r01Floor_c p 32768 w (by omega) (by omega))
  have HC : Hid (carR 32768 140737488355328 high low p = if low + (p - p / 32768 * 32768) * 140737488355328 < 4611686018427387904 then (high + p / 32768, low + (p - p / 32768 * 32768) * 140737488355328) else (high + p / 32768 + 1, low + (p - p / 32768 * 32768) * 140737488355328 - 4611686018427387904)) := Lib.hid rfl
  obtain ⟨res, hres⟩ : ∃ r, r = carR 32768 140737488355328 high low p := ⟨_, rfl⟩
  rw [← hres] at HC ⊢
  obtain ⟨q, hq⟩ : ∃ q, q = p / 32768 := ⟨_, rfl⟩
  rw [← hq] at a1 a2 b1 b2 c1 c2 HC K
  have w0 : IntKind.i64.wrap (high + q) = high + q := by rw [IntKind.wrap_i64]; omega
  have w1 : IntKind.i64.wrap (q * 32768) = q * 32768 := by rw [IntKind.wrap_i64]; omega
  have w2 : IntKind.i64.wrap (p - q * 32768) = p - q * 32768 := by rw [IntKind.wrap_i64]; omega
  have w3 : IntKind.i64.wrap ((p - q * 32768) * 140737488355328) = (p - q * 32768) * 140737488355328 := by rw [IntKind.wrap_i64]; omega
  have w4 : IntKind.i64.wrap (low + (p - q * 32768) * 140737488355328) = low + (p - q * 32768) * 140737488355328 := by rw [IntKind.wrap_i64]; omega
  have w5 : IntKind.i64.wrap (low + (p - q * 32768) * 140737488355328 - 4611686018427387904) = if 4611686018427387904 ≤ low + (p - q * 32768) * 140737488355328 then low + (p - q * 32768) * 140737488355328 - 4611686018427387904 else IntKind.i64.wrap (low + (p - q * 32768) * 140737488355328 - 4611686018427387904) := by
    split
    · rw [IntKind.wrap_i64]; omega
    · rfl
  have w6 : IntKind.i64.wrap (high + q + 1) = high + q + 1 := by rw [IntKind.wrap_i64]; omega
  clear hd hh hl hp hq hres a1 a2 b1 b2 c1 c2
  cases q7 : decide (4611686018427387904 ≤ low + (p - q * 32768) * 140737488355328)
  · have HR : Hid (res = (high + q, low + (p - q * 32768) * 140737488355328)) := Lib.hid (by rw [HC.out, if_pos (by have := of_decide_eq_false q7; omega)])
    clear w5
    go_enter Tryz.func56, Tryz.ntmps56
    go_wp2_with fail
    refine K.out.mono ?_
    rintro e X ⟨rfl, hb1⟩
    go_wp2_with fail
    refine wp_region_below (by kernel_rfl) (by kernel_rfl) ?_
    repeat (go_big_quiet_step (fail))
    refine wpQuiet_nil ?_
    rintro Y ⟨⟨_, hbY⟩, rfl⟩
    go_wp2_with fail
    go_ret2
    exact ⟨by rw [HR.out]; rfl, hb1.trans (hbY.mono hb1.size)⟩
  · have hge := of_decide_eq_true q7
    have HR : Hid (res = (high + q + 1, low + (p - q * 32768) * 140737488355328 - 4611686018427387904)) := Lib.hid (by rw [HC.out, if_neg (by omega)])
    rw [if_pos (by omega)] at w5
    clear hge
    go_enter Tryz.func56, Tryz.ntmps56
    go_wp2_with fail
    refine K.out.mono ?_
    rintro e X ⟨rfl, hb1⟩
    go_wp2_with fail
    refine wp_region_below (by kernel_rfl) (by kernel_rfl) ?_
    repeat (go_big_quiet_step (fail))
    refine wpQuiet_nil ?_
    rintro Y ⟨⟨_, hbY⟩, rfl⟩
    go_wp2_with fail
    go_ret2
    exact ⟨by rw [HR.out]; rfl, hb1.trans (hbY.mono hb1.size)⟩
set_option maxRecDepth 100000 in
set_option maxHeartbeats 4000000 in
theorem r39carry31 (high low p : Int) (w : World) (hh : -1000000000000000000 ≤ high ∧ high ≤ 1000000000000000000) (hl : 0 ≤ low ∧ low < 4611686018427387904) (hp : -36028797018963968 ≤ p ∧ p ≤ 36028797018963968) : Calls Tryz.prog 56 #[.int .i64 high, .int .i64 low, .int .i64 p, .int .i64 31] w (Ret w (.tuple #[.int .i64 (carR 2147483648 2147483648 high low p).1, .int .i64 (carR 2147483648 2147483648 high low p).2])) := by
  have hd : Dig high.natAbs (high * 4611686018427387904 + low) high low := by unfold Dig; omega
  obtain ⟨⟨a1, a2⟩, ⟨b1, b2⟩, ⟨c1, c2⟩, _, _⟩ := hd.carry (K := 2147483648) (S := 2147483648) (by rfl) (by omega) (by omega) hp (by omega)
  have K := Lib.hid (r01Floor_c p 2147483648 w (by omega) (by omega))
  have HC : Hid (carR 2147483648 2147483648 high low p = if low + (p - p / 2147483648 * 2147483648) * 2147483648 < 4611686018427387904 then (high + p / 2147483648, low + (p - p / 2147483648 * 2147483648) * 2147483648) else (high + p / 2147483648 + 1, low + (p - p / 2147483648 * 2147483648) * 2147483648 - 4611686018427387904)) := Lib.hid rfl
  obtain ⟨res, hres⟩ : ∃ r, r = carR 2147483648 2147483648 high low p := ⟨_, rfl⟩
  rw [← hres] at HC ⊢
  obtain ⟨q, hq⟩ : ∃ q, q = p / 2147483648 := ⟨_, rfl⟩
  rw [← hq] at a1 a2 b1 b2 c1 c2 HC K
  have w0 : IntKind.i64.wrap (high + q) = high + q := by rw [IntKind.wrap_i64]; omega
  have w1 : IntKind.i64.wrap (q * 2147483648) = q * 2147483648 := by rw [IntKind.wrap_i64]; omega
  have w2 : IntKind.i64.wrap (p - q * 2147483648) = p - q * 2147483648 := by rw [IntKind.wrap_i64]; omega
  have w3 : IntKind.i64.wrap ((p - q * 2147483648) * 2147483648) = (p - q * 2147483648) * 2147483648 := by rw [IntKind.wrap_i64]; omega
  have w4 : IntKind.i64.wrap (low + (p - q * 2147483648) * 2147483648) = low + (p - q * 2147483648) * 2147483648 := by rw [IntKind.wrap_i64]; omega
  have w5 : IntKind.i64.wrap (low + (p - q * 2147483648) * 2147483648 - 4611686018427387904) = if 4611686018427387904 ≤ low + (p - q * 2147483648) * 2147483648 then low + (p - q * 2147483648) * 2147483648 - 4611686018427387904 else IntKind.i64.wrap (low + (p - q * 2147483648) * 2147483648 - 4611686018427387904) := by
    split
    · rw [IntKind.wrap_i64]; omega
    · rfl
  have w6 : IntKind.i64.wrap (high + q + 1) = high + q + 1 := by rw [IntKind.wrap_i64]; omega
  clear hd hh hl hp hq hres a1 a2 b1 b2 c1 c2
  cases q7 : decide (4611686018427387904 ≤ low + (p - q * 2147483648) * 2147483648)
  · have HR : Hid (res = (high + q, low + (p - q * 2147483648) * 2147483648)) := Lib.hid (by rw [HC.out, if_pos (by have := of_decide_eq_false q7; omega)])
    clear w5
    go_enter Tryz.func56, Tryz.ntmps56
    go_wp2_with fail
    refine K.out.mono ?_
    rintro e X ⟨rfl, hb1⟩
    go_wp2_with fail
    refine wp_region_below (by kernel_rfl) (by kernel_rfl) ?_
    repeat (go_big_quiet_step (fail))
    refine wpQuiet_nil ?_
    rintro Y ⟨⟨_, hbY⟩, rfl⟩
    go_wp2_with fail
    go_ret2
    exact ⟨by rw [HR.out]; rfl, hb1.trans (hbY.mono hb1.size)⟩
  · have hge := of_decide_eq_true q7
    have HR : Hid (res = (high + q + 1, low + (p - q * 2147483648) * 2147483648 - 4611686018427387904)) := Lib.hid (by rw [HC.out, if_neg (by omega)])
    rw [if_pos (by omega)] at w5
    clear hge
    go_enter Tryz.func56, Tryz.ntmps56
    go_wp2_with fail
    refine K.out.mono ?_
    rintro e X ⟨rfl, hb1⟩
    go_wp2_with fail
    refine wp_region_below (by kernel_rfl) (by kernel_rfl) ?_
    repeat (go_big_quiet_step (fail))
    refine wpQuiet_nil ?_
    rintro Y ⟨⟨_, hbY⟩, rfl⟩
    go_wp2_with fail
    go_ret2
    exact ⟨by rw [HR.out]; rfl, hb1.trans (hbY.mono hb1.size)⟩
set_option maxRecDepth 100000 in
set_option maxHeartbeats 4000000 in
theorem r39carry15 (high low p : Int) (w : World) (hh : -1000000000000000000 ≤ high ∧ high ≤ 1000000000000000000) (hl : 0 ≤ low ∧ low < 4611686018427387904) (hp : -36028797018963968 ≤ p ∧ p ≤ 36028797018963968) : Calls Tryz.prog 56 #[.int .i64 high, .int .i64 low, .int .i64 p, .int .i64 15] w (Ret w (.tuple #[.int .i64 (carR 140737488355328 32768 high low p).1, .int .i64 (carR 140737488355328 32768 high low p).2])) := by
  have hd : Dig high.natAbs (high * 4611686018427387904 + low) high low := by unfold Dig; omega
  obtain ⟨⟨a1, a2⟩, ⟨b1, b2⟩, ⟨c1, c2⟩, _, _⟩ := hd.carry (K := 140737488355328) (S := 32768) (by rfl) (by omega) (by omega) hp (by omega)
  have K := Lib.hid (r01Floor_c p 140737488355328 w (by omega) (by omega))
  have HC : Hid (carR 140737488355328 32768 high low p = if low + (p - p / 140737488355328 * 140737488355328) * 32768 < 4611686018427387904 then (high + p / 140737488355328, low + (p - p / 140737488355328 * 140737488355328) * 32768) else (high + p / 140737488355328 + 1, low + (p - p / 140737488355328 * 140737488355328) * 32768 - 4611686018427387904)) := Lib.hid rfl
  obtain ⟨res, hres⟩ : ∃ r, r = carR 140737488355328 32768 high low p := ⟨_, rfl⟩
  rw [← hres] at HC ⊢
  obtain ⟨q, hq⟩ : ∃ q, q = p / 140737488355328 := ⟨_, rfl⟩
  rw [← hq] at a1 a2 b1 b2 c1 c2 HC K
  have w0 : IntKind.i64.wrap (high + q) = high + q := by rw [IntKind.wrap_i64]; omega
  have w1 : IntKind.i64.wrap (q * 140737488355328) = q * 140737488355328 := by rw [IntKind.wrap_i64]; omega
  have w2 : IntKind.i64.wrap (p - q * 140737488355328) = p - q * 140737488355328 := by rw [IntKind.wrap_i64]; omega
  have w3 : IntKind.i64.wrap ((p - q * 140737488355328) * 32768) = (p - q * 140737488355328) * 32768 := by rw [IntKind.wrap_i64]; omega
  have w4 : IntKind.i64.wrap (low + (p - q * 140737488355328) * 32768) = low + (p - q * 140737488355328) * 32768 := by rw [IntKind.wrap_i64]; omega
  have w5 : IntKind.i64.wrap (low + (p - q * 140737488355328) * 32768 - 4611686018427387904) = if 4611686018427387904 ≤ low + (p - q * 140737488355328) * 32768 then low + (p - q * 140737488355328) * 32768 - 4611686018427387904 else IntKind.i64.wrap (low + (p - q * 140737488355328) * 32768 - 4611686018427387904) := by
    split
    · rw [IntKind.wrap_i64]; omega
    · rfl
  have w6 : IntKind.i64.wrap (high + q + 1) = high + q + 1 := by rw [IntKind.wrap_i64]; omega
  clear hd hh hl hp hq hres a1 a2 b1 b2 c1 c2
  cases q7 : decide (4611686018427387904 ≤ low + (p - q * 140737488355328) * 32768)
  · have HR : Hid (res = (high + q, low + (p - q * 140737488355328) * 32768)) := Lib.hid (by rw [HC.out, if_pos (by have := of_decide_eq_false q7; omega)])
    clear w5
    go_enter Tryz.func56, Tryz.ntmps56
    go_wp2_with fail
    refine K.out.mono ?_
    rintro e X ⟨rfl, hb1⟩
    go_wp2_with fail
    refine wp_region_below (by kernel_rfl) (by kernel_rfl) ?_
    repeat (go_big_quiet_step (fail))
    refine wpQuiet_nil ?_
    rintro Y ⟨⟨_, hbY⟩, rfl⟩
    go_wp2_with fail
    go_ret2
    exact ⟨by rw [HR.out]; rfl, hb1.trans (hbY.mono hb1.size)⟩
  · have hge := of_decide_eq_true q7
    have HR : Hid (res = (high + q + 1, low + (p - q * 140737488355328) * 32768 - 4611686018427387904)) := Lib.hid (by rw [HC.out, if_neg (by omega)])
    rw [if_pos (by omega)] at w5
    clear hge
    go_enter Tryz.func56, Tryz.ntmps56
    go_wp2_with fail
    refine K.out.mono ?_
    rintro e X ⟨rfl, hb1⟩
    go_wp2_with fail
    refine wp_region_below (by kernel_rfl) (by kernel_rfl) ?_
    repeat (go_big_quiet_step (fail))
    refine wpQuiet_nil ?_
    rintro Y ⟨⟨_, hbY⟩, rfl⟩
    go_wp2_with fail
    go_ret2
    exact ⟨by rw [HR.out]; rfl, hb1.trans (hbY.mono hb1.size)⟩
set_option maxRecDepth 100000 in
set_option maxHeartbeats 4000000 in
theorem r39carry0 (high low p : Int) (w : World) (hh : -1000000000000000000 ≤ high ∧ high ≤ 1000000000000000000) (hl : 0 ≤ low ∧ low < 4611686018427387904) (hp : -36028797018963968 ≤ p ∧ p ≤ 36028797018963968) : Calls Tryz.prog 56 #[.int .i64 high, .int .i64 low, .int .i64 p, .int .i64 0] w (Ret w (.tuple #[.int .i64 (carR 4611686018427387904 1 high low p).1, .int .i64 (carR 4611686018427387904 1 high low p).2])) := by
  have hd : Dig high.natAbs (high * 4611686018427387904 + low) high low := by unfold Dig; omega
  obtain ⟨⟨a1, a2⟩, ⟨b1, b2⟩, ⟨c1, c2⟩, _, _⟩ := hd.carry (K := 4611686018427387904) (S := 1) (by rfl) (by omega) (by omega) hp (by omega)
  have K := Lib.hid (r01Floor_c p 4611686018427387904 w (by omega) (by omega))
  have HC : Hid (carR 4611686018427387904 1 high low p = if low + (p - p / 4611686018427387904 * 4611686018427387904) * 1 < 4611686018427387904 then (high + p / 4611686018427387904, low + (p - p / 4611686018427387904 * 4611686018427387904) * 1) else (high + p / 4611686018427387904 + 1, low + (p - p / 4611686018427387904 * 4611686018427387904) * 1 - 4611686018427387904)) := Lib.hid rfl
  obtain ⟨res, hres⟩ : ∃ r, r = carR 4611686018427387904 1 high low p := ⟨_, rfl⟩
  rw [← hres] at HC ⊢
  obtain ⟨q, hq⟩ : ∃ q, q = p / 4611686018427387904 := ⟨_, rfl⟩
  rw [← hq] at a1 a2 b1 b2 c1 c2 HC K
  have w0 : IntKind.i64.wrap (high + q) = high + q := by rw [IntKind.wrap_i64]; omega
  have w1 : IntKind.i64.wrap (q * 4611686018427387904) = q * 4611686018427387904 := by rw [IntKind.wrap_i64]; omega
  have w2 : IntKind.i64.wrap (p - q * 4611686018427387904) = p - q * 4611686018427387904 := by rw [IntKind.wrap_i64]; omega
  have w3 : IntKind.i64.wrap ((p - q * 4611686018427387904) * 1) = (p - q * 4611686018427387904) * 1 := by rw [IntKind.wrap_i64]; omega
  have w4 : IntKind.i64.wrap (low + (p - q * 4611686018427387904) * 1) = low + (p - q * 4611686018427387904) * 1 := by rw [IntKind.wrap_i64]; omega
  have w5 : IntKind.i64.wrap (low + (p - q * 4611686018427387904) * 1 - 4611686018427387904) = if 4611686018427387904 ≤ low + (p - q * 4611686018427387904) * 1 then low + (p - q * 4611686018427387904) * 1 - 4611686018427387904 else IntKind.i64.wrap (low + (p - q * 4611686018427387904) * 1 - 4611686018427387904) := by
    split
    · rw [IntKind.wrap_i64]; omega
    · rfl
  have w6 : IntKind.i64.wrap (high + q + 1) = high + q + 1 := by rw [IntKind.wrap_i64]; omega
  rw [Int.mul_one] at w3 w4 w5
  clear hd hh hl hp hq hres a1 a2 b1 b2 c1 c2
  cases q7 : decide (4611686018427387904 ≤ low + (p - q * 4611686018427387904))
  · have HR : Hid (res = (high + q, low + (p - q * 4611686018427387904))) := Lib.hid (by rw [HC.out, if_pos (by have := of_decide_eq_false q7; omega)]; rw [Int.mul_one])
    clear w5
    go_enter Tryz.func56, Tryz.ntmps56
    go_wp2_with fail
    refine K.out.mono ?_
    rintro e X ⟨rfl, hb1⟩
    go_wp2_with fail
    refine wp_region_below (by kernel_rfl) (by kernel_rfl) ?_
    repeat (go_big_quiet_step (fail))
    refine wpQuiet_nil ?_
    rintro Y ⟨⟨_, hbY⟩, rfl⟩
    go_wp2_with fail
    go_ret2
    exact ⟨by rw [HR.out]; rfl, hb1.trans (hbY.mono hb1.size)⟩
  · have hge := of_decide_eq_true q7
    have HR : Hid (res = (high + q + 1, low + (p - q * 4611686018427387904) - 4611686018427387904)) := Lib.hid (by rw [HC.out, if_neg (by omega)]; rw [Int.mul_one])
    rw [if_pos (by omega)] at w5
    clear hge
    go_enter Tryz.func56, Tryz.ntmps56
    go_wp2_with fail
    refine K.out.mono ?_
    rintro e X ⟨rfl, hb1⟩
    go_wp2_with fail
    refine wp_region_below (by kernel_rfl) (by kernel_rfl) ?_
    repeat (go_big_quiet_step (fail))
    refine wpQuiet_nil ?_
    rintro Y ⟨⟨_, hbY⟩, rfl⟩
    go_wp2_with fail
    go_ret2
    exact ⟨by rw [HR.out]; rfl, hb1.trans (hbY.mono hb1.size)⟩
end Go.Proofs.YtohjgegnamcnlaaGreat
