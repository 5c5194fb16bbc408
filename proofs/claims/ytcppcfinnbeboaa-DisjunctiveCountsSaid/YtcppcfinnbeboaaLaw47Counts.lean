/- DisjunctiveCounts: Count returns how many schedules with times in a span satisfy the network, or the specified error, as the reference does. No condition. -/
import Derived.Test.YtcppcfinnbeboaaDkQ
import Derived.Test.YtcppcfinnbeboaaDjK
import Derived.Test.YtcppcfinnbeboaaDjO
namespace Go.Proofs.Ytcppcfinnbeboaa
open Go.RowKit Go.Shelf Go.ChangeShapes Go.WideShapes Go.ChangeAt

theorem range_eq (f t most : Int) : rangeB f t most = (decide (t ≤ f) || decide (f < -1073741824) || decide (1073741824 < t) || decide (most < 1) || decide (1000000 < most)) := by
  unfold rangeB nearB
  rw [Bool.eq_iff_iff]
  simp only [Bool.or_eq_true, Bool.not_eq_true', Bool.and_eq_false_iff, decide_eq_true_eq, decide_eq_false_iff_not]
  omega
theorem count_both (N : Nat) (v : Value) (l : List Cho) (f t : Int) (m : Nat) (w : World) (hs : IsChos w v l) (hv : netB (N : Int) l = true) (hr : rangeB f t (m : Int) = false) (hg : growN (t - f).toNat m (N - 1) ≤ m) : (countX l N f t (m : Int)).2 = 0 ∧ Calls Try.prog 19 #[.int .i64 (N : Int), v, .agg #[.int .i64 f, .int .i64 t]] w (CntRet (countX l N f t (m : Int)).1 w) := by
  rw [range_eq] at hr
  simp only [Bool.or_eq_false_iff, decide_eq_false_iff_not] at hr
  obtain ⟨⟨⟨⟨h1, h2⟩, h3⟩, h4⟩, h5⟩ := hr
  unfold countX
  rw [Int.toNat_natCast, if_neg (by omega)]
  cases hz : (decide (f ≤ 0) && decide (0 < t))
  · rw [if_neg (by decide)]
    exact ⟨rfl, r47Count_zero _ v f t w hz⟩
  · rw [if_pos rfl]
    refine ⟨rfl, r47Count_c N v l f t (t - f).toNat _ w hs hv (by omega) (by omega) rfl (by omega) rfl ?_ hz⟩
    rw [← growN_pow _ hg]
    omega
set_option maxRecDepth 100000 in
set_option maxHeartbeats 8000000 in
theorem law47Counts_c (v : Value) (n : Int) (l : List Cho) (f t budget : Int) (w : World) (hs : IsChos w v l) : Calls Try.prog 6 #[.int .i64 n, v, .agg #[.int .i64 f, .int .i64 t], .int .i64 budget] w (Ret w (.bool true)) := by
  have hbA := (Below.refl w.heap.size w).alloc (Nat.le_refl _) (.cells #[.int .i64 f, .int .i64 t] 38)
  have hT := heap_alloc_new w (.cells #[.int .i64 f, .int .i64 t] 38)
  obtain ⟨A, cp, rfl⟩ : ∃ A c, v = .slice A l.length c := by
    obtain ⟨S, h⟩ := hs
    obtain ⟨A, c, h, _⟩ := h.form
    exact ⟨A, c, h⟩
  obtain ⟨W, hW⟩ : ∃ y, y = w.alloc (.cells #[.int .i64 f, .int .i64 t] 38) := ⟨_, rfl⟩
  obtain ⟨b6, hb6⟩ : ∃ y, y = w.heap.size := ⟨_, rfl⟩
  rw [← hW] at hbA hT
  rw [← hb6] at hT
  have FC : Hid (∀ X, Below W.heap.size W X → X.cell? ⟨b6, 0, none⟩ = some (.int .i64 f) ∧ X.cell? ⟨b6, 1, none⟩ = some (.int .i64 t)) := Lib.hid fun X h => by
    have f1 := (h.block _ (blk_lt hT)).trans hT
    exact ⟨blk_get f1 0, blk_get f1 1⟩
  have KF : Hid (∀ X, Below W.heap.size W X → Calls Try.prog 9 #[.slice A l.length cp] X (Ret X (.bool (fewB l)))) := Lib.hid fun X h => few47_c _ l X ((hs.below hbA).below h)
  have KV : Hid (∀ X, Below W.heap.size W X → Calls Try.prog 15 #[.int .i64 n, .slice A l.length cp] X (Ret X (.bool (netB n l)))) := Lib.hid fun X h => r47Valid_c _ _ l X ((hs.below hbA).below h)
  have Hs : Hid (∀ X, Below W.heap.size W X → IsChos X (.slice A l.length cp) l) := Lib.hid fun X h => (hs.below hbA).below h
  have HW := Lib.hid hW; have Hb6 := Lib.hid hb6; have HbA := Lib.hid hbA
  clear hs hW hb6 hbA hT
  cases hf : fewB l
  · rw [hf] at KF
    go_enter Try.func6, Try.ntmps6
    go_wp2_with fail
    rw [← HW.out]
    refine (awake47_c _).mono ?_
    rintro e w1 ⟨rfl, hb1⟩
    go_wp2_with fail
    refine (KF.out _ hb1).mono ?_
    rintro e w2 ⟨rfl, hb2⟩
    have HF := Lib.hid (HbA.out.trans ((hb1.trans (hb2.mono hb1.size)).mono HbA.out.size))
    clear hb2
    go_wp2_with fail
    go_ret
    exact ⟨rfl, HF.out⟩
  rw [hf] at KF
  cases hv : netB n l
  · rw [hv] at KV
    have KC : Hid (∀ X, Below W.heap.size W X → Calls Try.prog 18 #[.int .i64 n, .slice A l.length cp, .agg #[.int .i64 f, .int .i64 t], .int .i64 budget] X (CountIs 0 1 X)) := Lib.hid fun X h => djCount_bad n _ l f t budget X (Hs.out X h) hv
    go_enter Try.func6, Try.ntmps6
    go_wp2_with fail
    rw [← HW.out, ← Hb6.out]
    refine (awake47_c _).mono ?_
    rintro e w1 ⟨rfl, hb1⟩
    go_wp2_with fail
    refine (KF.out _ hb1).mono ?_
    rintro e w2 ⟨rfl, hb2⟩
    have hb2 := hb1.trans (hb2.mono hb1.size)
    go_wp2_with fail
    refine (KV.out _ hb2).mono ?_
    rintro e w3 ⟨rfl, hb3⟩
    have hb3 := hb2.trans (hb3.mono hb2.size)
    obtain ⟨c0, c1⟩ := FC.out _ hb3
    go_wp2_with fail
    refine (KC.out _ hb3).mono ?_
    rintro e w4 ⟨rfl, hb4⟩
    have hb4 := hb3.trans (hb4.mono hb3.size)
    go_wp2_with fail
    refine (KV.out _ hb4).mono ?_
    rintro e w5 ⟨rfl, hb5⟩
    have HF := Lib.hid (HbA.out.trans ((hb4.trans (hb5.mono hb4.size)).mono HbA.out.size))
    clear hb5
    go_wp2_with fail
    go_ret
    exact ⟨rfl, HF.out⟩
  rw [hv] at KV
  have hn : 1 ≤ n ∧ n ≤ 24 := by
    unfold netB at hv
    simp only [Bool.and_eq_true, decide_eq_true_eq] at hv
    omega
  obtain ⟨N, rfl⟩ : ∃ N : Nat, n = (N : Int) := ⟨n.toNat, by omega⟩
  have HN : Hid (1 ≤ N ∧ N ≤ 24) := Lib.hid (by omega)
  clear hn
  cases q1 : decide ((3 : Int) < (N : Int))
  rotate_left
  · have q2 : decide (3 < N) = true := decide_eq_true (by have := of_decide_eq_true q1; omega)
    go_enter Try.func6, Try.ntmps6
    go_wp2_with fail
    rw [← HW.out]
    refine (awake47_c _).mono ?_
    rintro e w1 ⟨rfl, hb1⟩
    go_wp2_with fail
    refine (KF.out _ hb1).mono ?_
    rintro e w2 ⟨rfl, hb2⟩
    have hb2 := hb1.trans (hb2.mono hb1.size)
    go_wp2_with fail
    refine (KV.out _ hb2).mono ?_
    rintro e w3 ⟨rfl, hb3⟩
    have HF := Lib.hid (HbA.out.trans ((hb2.trans (hb3.mono hb2.size)).mono HbA.out.size))
    clear hb3
    go_wp2_with fail
    go_ret
    exact ⟨rfl, HF.out⟩
  have q2 : decide (3 < N) = false := decide_eq_false (by have := of_decide_eq_false q1; omega)
  cases q3 : decide ((10 : Int) < (l.length : Int))
  rotate_left
  · have q4 : decide (10 < l.length) = true := decide_eq_true (by have := of_decide_eq_true q3; omega)
    go_enter Try.func6, Try.ntmps6
    go_wp2_with fail
    rw [← HW.out]
    refine (awake47_c _).mono ?_
    rintro e w1 ⟨rfl, hb1⟩
    go_wp2_with fail
    refine (KF.out _ hb1).mono ?_
    rintro e w2 ⟨rfl, hb2⟩
    have hb2 := hb1.trans (hb2.mono hb1.size)
    go_wp2_with fail
    refine (KV.out _ hb2).mono ?_
    rintro e w3 ⟨rfl, hb3⟩
    have HF := Lib.hid (HbA.out.trans ((hb2.trans (hb3.mono hb2.size)).mono HbA.out.size))
    clear hb3
    go_wp2_with fail
    go_ret
    exact ⟨rfl, HF.out⟩
  have q4 : decide (10 < l.length) = false := decide_eq_false (by have := of_decide_eq_false q3; omega)
  have hre := range_eq f t budget
  cases hr : rangeB f t budget
  rotate_left
  · have KC : Hid (∀ X, Below W.heap.size W X → Calls Try.prog 18 #[.int .i64 (N : Int), .slice A l.length cp, .agg #[.int .i64 f, .int .i64 t], .int .i64 budget] X (CountIs 0 2 X)) := Lib.hid fun X h => djCount_range N _ l f t budget X (Hs.out X h) hv hr
    rw [hr] at hre
    have z0 : IntKind.i64.wrap (-1073741824) = -1073741824 := by rw [IntKind.wrap_i64]; omega
    have Hre := Lib.hid hre
    clear hr hv hre
    go_enter Try.func6, Try.ntmps6
    go_wp2_with fail
    rw [← HW.out, ← Hb6.out]
    refine (awake47_c _).mono ?_
    rintro e w1 ⟨rfl, hb1⟩
    go_wp2_with fail
    refine (KF.out _ hb1).mono ?_
    rintro e w2 ⟨rfl, hb2⟩
    have hb2 := hb1.trans (hb2.mono hb1.size)
    go_wp2_with fail
    refine (KV.out _ hb2).mono ?_
    rintro e w3 ⟨rfl, hb3⟩
    have hb3 := hb2.trans (hb3.mono hb2.size)
    obtain ⟨c0, c1⟩ := FC.out _ hb3
    go_wp2_with fail
    refine (KC.out _ hb3).mono ?_
    rintro e w4 ⟨rfl, hb4⟩
    have hb4 := hb3.trans (hb4.mono hb3.size)
    clear c0 c1 hb1 hb2 hb3
    go_wp2_with fail
    refine (KV.out _ hb4).mono ?_
    rintro e w5 ⟨rfl, hb5⟩
    have hb5 := hb4.trans (hb5.mono hb4.size)
    obtain ⟨c0, c1⟩ := FC.out _ hb5
    have HF := Lib.hid (HbA.out.trans (hb5.mono HbA.out.size))
    clear hb5 hb4
    cases r0 : decide (t ≤ f)
    rotate_left
    · go_wp2_with fail
      go_ret
      exact ⟨rfl, HF.out⟩
    cases r1 : decide (f < -1073741824)
    rotate_left
    · go_wp2_with fail
      go_ret
      exact ⟨rfl, HF.out⟩
    cases r2 : decide (1073741824 < t)
    rotate_left
    · go_wp2_with fail
      go_ret
      exact ⟨rfl, HF.out⟩
    cases r3 : decide (budget < 1)
    rotate_left
    · go_wp2_with fail
      go_ret
      exact ⟨rfl, HF.out⟩
    cases r4 : decide (1000000 < budget)
    rotate_left
    · go_wp2_with fail
      go_ret
      exact ⟨rfl, HF.out⟩
    have hre := Hre.out
    rw [r0, r1, r2, r3, r4] at hre
    cases hre
  rw [hr] at hre
  have hre2 := hre.symm
  simp only [Bool.or_eq_false_iff] at hre2
  obtain ⟨⟨⟨⟨r0, r1⟩, r2⟩, r3⟩, r4⟩ := hre2
  have r0' := of_decide_eq_false r0
  have r1' := of_decide_eq_false r1
  have r2' := of_decide_eq_false r2
  have r3' := of_decide_eq_false r3
  have r4' := of_decide_eq_false r4
  obtain ⟨m, rfl⟩ : ∃ m : Nat, budget = (m : Int) := ⟨budget.toNat, by omega⟩
  have KC : Hid (∀ X, Below W.heap.size W X → Calls Try.prog 18 #[.int .i64 (N : Int), .slice A l.length cp, .agg #[.int .i64 f, .int .i64 t], .int .i64 (m : Int)] X (CountIs (countX l N f t (m : Int)).1 (countX l N f t (m : Int)).2 X)) := Lib.hid fun X h => djCount_c N _ l f t m X (Hs.out X h) hv hr
  obtain ⟨L, hL⟩ : ∃ L, L = (t - f).toNat := ⟨_, rfl⟩
  have HB : Hid (growN L m (N - 1) ≤ m → ∀ X, Below W.heap.size W X → (countX l N f t (m : Int)).2 = 0 ∧ Calls Try.prog 19 #[.int .i64 (N : Int), .slice A l.length cp, .agg #[.int .i64 f, .int .i64 t]] X (CntRet (countX l N f t (m : Int)).1 X)) := Lib.hid fun h X hX => count_both N _ l f t m X (Hs.out X hX) hv hr (by rw [← hL]; exact h)
  have HBig : Hid (m < growN L m (N - 1) → countX l N f t (m : Int) = (0, 5)) := Lib.hid fun h => by
    unfold countX
    rw [← hL, Int.toNat_natCast, if_pos h]
  have HL : Hid (1 ≤ L ∧ L ≤ 2147483648 ∧ f + L = t) := Lib.hid (by omega)
  have Hm : Hid (1 ≤ m ∧ m ≤ 1000000) := Lib.hid (by omega)
  have z0 : IntKind.i64.wrap (-1073741824) = -1073741824 := by rw [IntKind.wrap_i64]; omega
  have z1 : IntKind.i64.wrap (t - f) = (L : Int) := by rw [IntKind.wrap_i64]; have := HL.out; omega
  have z2 : IntKind.i64.wrap ((N : Int) - 1) = ((N - 1 : Nat) : Int) := by rw [IntKind.wrap_i64]; have := HN.out; omega
  obtain ⟨x, c, hxc⟩ : ∃ x c, countX l N f t (m : Int) = (x, c) := ⟨_, _, rfl⟩
  rw [hxc] at KC HB HBig
  have c5 : (c == c) = true := by simp
  have x5 : (x == x) = true := by simp
  clear hre hr r0' r1' r2' r3' r4' hv hL hxc
  go_enter Try.func6, Try.ntmps6
  go_wp2_with fail
  rw [← HW.out, ← Hb6.out]
  refine (awake47_c _).mono ?_
  rintro e w1 ⟨rfl, hb1⟩
  go_wp2_with fail
  refine (KF.out _ hb1).mono ?_
  rintro e w2 ⟨rfl, hb2⟩
  have hb2 := hb1.trans (hb2.mono hb1.size)
  go_wp2_with fail
  refine (KV.out _ hb2).mono ?_
  rintro e w3 ⟨rfl, hb3⟩
  have hb3 := hb2.trans (hb3.mono hb2.size)
  obtain ⟨c0, c1⟩ := FC.out _ hb3
  go_wp2_with fail
  refine (KC.out _ hb3).mono ?_
  rintro e w4 ⟨rfl, hb4⟩
  have hb4 := hb3.trans (hb4.mono hb3.size)
  clear c0 c1 hb1 hb2 hb3
  go_wp2_with fail
  refine (KV.out _ hb4).mono ?_
  rintro e w5 ⟨rfl, hb5⟩
  have hb5 := hb4.trans (hb5.mono hb4.size)
  obtain ⟨c0, c1⟩ := FC.out _ hb5
  have HF := Lib.hid (HbA.out.trans (hb5.mono HbA.out.size))
  have Hb5 := Lib.hid hb5
  clear hb5 hb4
  go_wp2_with fail
  clear r0 r1 r2 r3 r4
  go_loopw [12, 84] (fun s i wr => ∃ j : Nat, i = .int .i64 (j : Int) ∧ j ≤ N - 1 ∧ s = .int .i64 (growN L m j : Nat) ∧ wr = w5) (fun _ i _ => N - (intOf i).toNat)
  case atStart => exact ⟨0, rfl, Nat.zero_le _, rfl, rfl⟩
  case round =>
    obtain ⟨j, rfl, hj, rfl, rfl⟩ := hrel
    rcases Nat.lt_or_ge j (N - 1) with hjl | hjl
    · have j0 : decide ((j : Int) < ((N - 1 : Nat) : Int)) = true := decide_eq_true (by omega)
      have j1 : IntKind.i64.wrap ((j : Int) + 1) = (j : Int) + 1 := by rw [IntKind.wrap_i64]; have := HN.out; omega
      have hgs : growN L m (j + 1) = if growN L m j ≤ m then growN L m j * L else growN L m j := rfl
      have hbd := growN_bd HL.out.2.1 Hm.out.1 Hm.out.2 j
      have Hjl := Lib.hid hjl
      cases k0 : decide (((growN L m j : Nat) : Int) ≤ (m : Int))
      · have k1 : decide (growN L m j ≤ m) = false := decide_eq_false (by have := of_decide_eq_false k0; omega)
        rw [if_neg (by have := of_decide_eq_false k0; omega)] at hgs
        have Hgs := Lib.hid hgs
        clear hgs hbd hjl hj
        go_wp2_with fail
        go_roundw
        case rel => exact ⟨j + 1, by go_num, Hjl.out, by rw [Hgs.out], by trivial⟩
        case measure => have := Hjl.out; simp [intOf]; omega
      · have k1 : decide (growN L m j ≤ m) = true := decide_eq_true (by have := of_decide_eq_true k0; omega)
        have hle : growN L m j * L ≤ 1000000 * 2147483648 := Nat.mul_le_mul (by have := of_decide_eq_true k0; have := Hm.out; omega) HL.out.2.1
        rw [if_pos (by have := of_decide_eq_true k0; omega)] at hgs
        have z3 : IntKind.i64.wrap (((growN L m j : Nat) : Int) * (L : Int)) = ((growN L m j * L : Nat) : Int) := by rw [← Int.natCast_mul, IntKind.wrap_i64]; omega
        have Hgs := Lib.hid hgs
        generalize growN L m j * L = y at *
        clear hgs hbd hjl hj hle
        go_wp2_with fail
        go_roundw
        case rel => exact ⟨j + 1, by go_num, Hjl.out, by rw [Hgs.out], by trivial⟩
        case measure => have := Hjl.out; simp [intOf]; omega
    · obtain rfl : j = N - 1 := by omega
      have j0 : decide (((N - 1 : Nat) : Int) < ((N - 1 : Nat) : Int)) = false := decide_eq_false (by omega)
      clear hj hjl
      cases k0 : decide ((m : Int) < ((growN L m (N - 1) : Nat) : Int))
      rotate_left
      · have k1 : decide (m < growN L m (N - 1)) = true := decide_eq_true (by have := of_decide_eq_true k0; omega)
        have h5 := HBig.out (by have := of_decide_eq_true k0; omega)
        injection h5 with h5 h6
        subst h5 h6
        clear HB HBig KC
        go_wp2_with fail
        go_ret
        exact ⟨rfl, HF.out⟩
      have k1 : decide (m < growN L m (N - 1)) = false := decide_eq_false (by have := of_decide_eq_false k0; omega)
      obtain ⟨h0, KR⟩ := HB.out (by have := of_decide_eq_false k0; omega) _ Hb5.out
      subst h0
      have KR2 := Lib.hid KR
      clear HB HBig KR KC
      cases g0 : decide ((15 : Int) < (L : Int)) <;> cases g1 : decide ((1 : Int) < (N : Int))
      rotate_left 3
      · have g2 : decide (15 < L) = true := decide_eq_true (by have := of_decide_eq_true g0; omega)
        have g3 : decide (1 < N) = true := decide_eq_true (by have := of_decide_eq_true g1; omega)
        go_wp2_with fail
        go_ret
        exact ⟨rfl, HF.out⟩
      · have g2 : decide (15 < L) = false := decide_eq_false (by have := of_decide_eq_false g0; omega)
        go_wp2_with fail
        refine KR2.out.mono ?_
        rintro e w6 ⟨rfl, hb6⟩
        have HF6 := Lib.hid (HF.out.trans (hb6.mono HF.out.size))
        clear hb6
        go_wp2_with fail
        go_ret
        exact ⟨rfl, HF6.out⟩
      · have g2 : decide (15 < L) = false := decide_eq_false (by have := of_decide_eq_false g0; omega)
        go_wp2_with fail
        refine KR2.out.mono ?_
        rintro e w6 ⟨rfl, hb6⟩
        have HF6 := Lib.hid (HF.out.trans (hb6.mono HF.out.size))
        clear hb6
        go_wp2_with fail
        go_ret
        exact ⟨rfl, HF6.out⟩
      · have g2 : decide (15 < L) = true := decide_eq_true (by have := of_decide_eq_true g0; omega)
        have g3 : decide (1 < N) = false := decide_eq_false (by have := of_decide_eq_false g1; omega)
        go_wp2_with fail
        refine KR2.out.mono ?_
        rintro e w6 ⟨rfl, hb6⟩
        have HF6 := Lib.hid (HF.out.trans (hb6.mono HF.out.size))
        clear hb6
        go_wp2_with fail
        go_ret
        exact ⟨rfl, HF6.out⟩

set_option maxRecDepth 100000 in
theorem law47Counts_lifted (os : Os) (started : os.Started) (H : Type) (enc : TypeId × Value → H) :
    ReturnsInHanded {} Try.checked os 6 .any (Rows.disjunctiveCountsSpec.pre6 enc Try.prog Try.f6 Rows.disjunctiveCountsRow.domain false) (Rows.disjunctiveCountsSpec.post enc Try.prog Try.f6 false true false false) := by
  refine returnsInHanded_of_change (C := Try.checked) Try.own started (by kernel_rfl) Try.func6
    (ChangeSpec.witness6 (enc := enc) (C := Try.checked) false ⟨#[], #[.int .i64 0, .slice none 0 0, .agg #[.int .i64 0, .int .i64 0], .int .i64 0], []⟩ 8 (by kernel_rfl) (by kernel_rfl) (by kernel_rfl) (by kernel_rfl)) ?_
  intro W base args ds gs before hval0 hW hcnd _
  have hval : ∀ (j : Nat) t v, Try.f6.params[j]? = some t → args[j]? = some v → Value.okWide Try.prog W .any base t v := hval0
  have hW' := hW
  obtain ⟨p, q, hA0, hV, rfl, hfz, hnd⟩ := hW
  have hA : DataW.TrodAll enc Try.prog W 0 (fun _ => true) true Try.f6.params.toList args.toList ds p := hA0
  have hA1 := hA0
  rw [Try.params6] at hA hval
  obtain ⟨v0, v1, v2, v3, d0, d1, d2, d3, p0, p1, p2, p3, rfl, rfl, hp, h0, h1, h2, h3⟩ := trodAll_four hA
  obtain ⟨rfl, rfl⟩ := trodVars_none hV
  obtain ⟨n, rfl, rfl, rfl, g0⟩ := open_int Try.underlying3 (hval 0 3 v0 rfl rfl) h0
  obtain ⟨l, g1⟩ := open_chos (hval 1 22 v1 rfl rfl) h1
  obtain ⟨s1, s2, rfl, g2⟩ := open_span (hval 2 38 v2 rfl rfl) h2
  obtain ⟨budget, rfl, rfl, rfl, g3⟩ := open_int Try.underlying3 (hval 3 3 v3 rfl rfl) h3
  clear hA0 hval0
  have hlt : ∀ x ∈ p, x.block < W.heap.size := fun x hx => hW'.lt x (by simp [hx])
  refine (law47Counts_c v1 n l s1 s2 budget W g1).mono fun e W' ⟨he, hg⟩ => ?_
  subst he
  exact ⟨_, rfl, post_of_below (pa := p) (pv := []) hW' (fun _ _ _ => trodAll_mk1 (shut_bool Try.underlying4 _))
    (fun sp hsp => trodAll_keep Try.laidOut hg (by kernel_rfl) hA1 hlt (fun x hx => hsp x (by simp [hx])))
    (fun _ _ => rfl) rfl hg (ok_one (by kernel_rfl) rfl (okWide_bool_mk Try.underlying4 _))⟩

theorem law47Counts_holds : Rows.DisjunctiveCountsSaid :=
  OpenClaim.holds_of_wide 6 Try.f6 rfl rfl rfl rfl rfl rfl rfl ⟨rfl, rfl, rfl, rfl, rfl⟩ rfl rfl rfl rfl rfl (by kernel_rfl) Try.func6 (by kernel_rfl)
    (of_decide_eq_true (by kernel_rfl)) (by unfold Func.isWrapper; first | (rw [if_pos (by decide +kernel)]; kernel_rfl) | (rw [if_neg (by decide +kernel)]; exact ⟨rfl, rfl⟩))
    (fun os started H enc _ => law47Counts_lifted os started H enc)
#print axioms law47Counts_holds
end Go.Proofs.Ytcppcfinnbeboaa
