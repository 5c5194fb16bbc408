/- Law 39: the reference's part, keyed, Add. -/
import Derived.Test.YtohjgegnamcnlaaGreatZac
import Derived.Test.YtohjgegnamcnlaaGreatZae
namespace Go.Proofs.YtohjgegnamcnlaaGreat
open Go.RowKit Go.Shelf

set_option maxRecDepth 100000 in
theorem r39part_c (v vk : Value) (r : VRow) (ks : List Int) (w : World) (hs : IsVals w v r) (hk : IsInts w vk ks) (hok : keysIn r.length ks) (hl : ks.length ≤ 100000) : Calls Tryz.prog 44 #[v, vk] w (VRet (pickR r ks) w) := by
  obtain ⟨A1, c1, rfl, hn1, hc1⟩ := hs.form
  obtain ⟨A2, c2, rfl, hn2, hc2⟩ := hk.form
  have Hok := Lib.hid hok; have Hl := Lib.hid hl
  clear hok hl
  go_enter Tryz.func44, Tryz.ntmps44
  go_wp2_with fail
  go_loopw [5, 6] (fun o i wr => ∃ k : Nat, i = .int .i64 (k : Int) ∧ k ≤ ks.length ∧ OwnsV wr w.heap.size o (pickR r (ks.take k)) ∧ Below w.heap.size w wr) (fun _ i _ => ks.length - (intOf i).toNat)
  case atStart => exact ⟨0, rfl, Nat.zero_le _, OwnsV.nil _ _, Below.refl _ _⟩
  case round =>
    obtain ⟨k, rfl, hkl, hown, hb⟩ := hrel
    by_cases hlt : k < ks.length
    · obtain ⟨b2, o2, rfl, hbk2⟩ := hk.addr (by omega)
      have c0 := (hk.below hb).c0 k hlt
      obtain ⟨hp0, hp1⟩ := Hok.out _ (iv_mem' hlt)
      obtain ⟨m, hm⟩ : ∃ m : Nat, iv ks k = (m : Int) := ⟨(iv ks k).toNat, by omega⟩
      have HT : Hid (pickR r (ks.take (k + 1)) = pickR r (ks.take k) ++ [va r m]) := Lib.hid (by
        unfold pickR
        rw [List.take_succ_eq_append_getElem hlt, List.map_append, iv_at hlt, hm]
        simp)
      rw [hm] at c0 hp0 hp1
      have hmr : m < r.length := by omega
      obtain ⟨b1, o1, rfl, hbk1⟩ := hs.addr (by omega)
      have x0 := (hs.below hb).c0 m hmr
      have x1 := (hs.below hb).c1 m hmr
      have x2 := (hs.below hb).c2 m hmr
      have hlen : (pickR r (ks.take k)).length < 900000000 := by
        have := Hl.out
        unfold pickR
        rw [List.length_map, List.length_take]
        omega
      have Hlt := Lib.hid hlt
      generalize pickR r (ks.take k) = L at hown HT hlen
      generalize va r m = x at x0 x1 x2 HT
      clear hm hbk1 hbk2
      go_wp2_with (at_builtin; refine append_val rfl _ _ (by rfl) w.heap.size _ L (by rfl) hown (by rfl) (by rfl) hlen hb.size ?_; intro v4 w4 hown4 hb4 _ _; have hb4 := hb.trans hb4)
      go_roundw
      case rel => exact ⟨k + 1, by go_num, Hlt.out, by rw [HT.out]; exact hown4, hb4⟩
      case measure => have := Hlt.out; simp [intOf]; omega
    · obtain rfl : k = ks.length := by omega
      rw [List.take_length] at hown
      go_wp2_with fail
      go_ret
      exact ⟨_, rfl, hown, hb⟩
theorem keyB_def (n : Nat) (ks : List Int) (i : Nat) : keyB n ks i = ((decide (0 ≤ iv ks i) && decide (iv ks i < (n : Int))) && !hasI (ks.take i) (iv ks i)) := rfl
theorem iv_take {l : List Int} {i j : Nat} (h : j < i) : iv (l.take i) j = iv l j := by
  unfold iv
  simp [h]
theorem has_take {l : List Int} {i j : Nat} (hi : i ≤ l.length) (h : j < i) {x : Int} (e : iv l j = x) : hasI (l.take i) x = true :=
  hasI_yes (i := j) (by rw [List.length_take]; omega) (by rw [iv_take h]; exact e)
theorem has_none {l : List Int} {i : Nat} {x : Int} (h : ∀ j, j < i → iv l j ≠ x) : hasI (l.take i) x = false :=
  hasI_no fun j hj => by
    rw [List.length_take] at hj
    rw [iv_take (by omega)]
    exact h j (by omega)
set_option maxRecDepth 100000 in
set_option maxHeartbeats 4000000 in
theorem r39keyed_c (v : Value) (ks : List Int) (n : Nat) (w : World) (hs : IsInts w v ks) : Calls Tryz.prog 41 #[v, .int .i64 (n : Int)] w (Ret w (.bool (keyedB n ks))) := by
  obtain ⟨A, c, rfl, hnc, hc⟩ := hs.form
  obtain ⟨R, hR⟩ : ∃ r, r = keyedB n ks := ⟨_, rfl⟩
  rw [← hR]
  have HR := Lib.hid hR
  clear hR
  go_enter Tryz.func41, Tryz.ntmps41
  go_wp2_with fail
  go_loopw [5] (fun i X => ∃ k : Nat, i = .int .i64 (k : Int) ∧ k ≤ ks.length ∧ Hid (∀ j, j < k → keyB n ks j = true) ∧ Hid (Below w.heap.size w X)) (fun i _ => ks.length - (intOf i).toNat)
  case atStart => exact ⟨0, rfl, Nat.zero_le _, Lib.hid (fun j hj => absurd hj (by omega)), Lib.hid (Below.refl _ _)⟩
  case round =>
    obtain ⟨k, rfl, hk, HK, HB⟩ := hrel
    rename World => X
    by_cases hlt : k < ks.length
    · obtain ⟨b, off, rfl, hbl⟩ := hs.addr (by omega)
      have c0 := (hs.below HB.out).c0 k hlt
      have hbX : b < X.heap.size := Nat.lt_of_lt_of_le hbl HB.out.size
      have hbad : keyB n ks k = false → R = false := fun h => by rw [HR.out]; exact range_not hlt h
      have hdef := keyB_def n ks k
      have hyes := fun j (h : j < k) e => has_take (x := iv ks k) (Nat.le_of_lt hlt) h e
      have hnone := has_none (l := ks) (i := k) (x := iv ks k)
      obtain ⟨x, hx⟩ : ∃ x, x = iv ks k := ⟨_, rfl⟩
      rw [← hx] at c0 hdef hyes hnone
      have Hbad := Lib.hid hbad; have Hdef := Lib.hid hdef; have Hyes := Lib.hid hyes; have Hnone := Lib.hid hnone; have Hlt := Lib.hid hlt; have Hx := Lib.hid hx
      clear hbad hdef hyes hnone hx
      cases q1 : decide (x < 0)
      rotate_left
      · have HF : Hid (R = false) := Lib.hid (Hbad.out (by rw [Hdef.out, decide_eq_false (show ¬ 0 ≤ x by have := of_decide_eq_true q1; omega)]; rfl))
        go_wp2_with fail
        go_ret
        exact ⟨by rw [HF.out]; rfl, HB.out⟩
      cases q2 : decide ((n : Int) ≤ x)
      rotate_left
      · have HF : Hid (R = false) := Lib.hid (Hbad.out (by rw [Hdef.out, decide_eq_false (show ¬ x < (n : Int) by have := of_decide_eq_true q2; omega), Bool.and_false]; rfl))
        have q3 : decide (x ≥ (n : Int)) = true := q2
        go_wp2_with fail
        go_ret
        exact ⟨by rw [HF.out]; rfl, HB.out⟩
      have q3 : decide (x ≥ (n : Int)) = false := q2
      have HD : Hid (keyB n ks k = !hasI (ks.take k) x) := Lib.hid (by rw [Hdef.out, decide_eq_true (show 0 ≤ x by have := of_decide_eq_false q1; omega), decide_eq_true (show x < (n : Int) by have := of_decide_eq_false q2; omega)]; rfl)
      go_wp2_with fail
      go_loopw [6] (fun i Q => ∃ m : Nat, i = .int .i64 (m : Int) ∧ m ≤ k ∧ Hid (∀ j, j < m → iv ks j ≠ x) ∧ Hid (Below X.heap.size X Q)) (fun i _ => k - (intOf i).toNat)
      case atStart => exact ⟨0, rfl, Nat.zero_le _, Lib.hid (fun j hj => absurd hj (by omega)), Lib.hid (Below.refl _ _)⟩
      case round =>
        obtain ⟨m, rfl, hm, HM, HQ⟩ := hrel
        rename World => Q
        have HBQ : Hid (Below w.heap.size w Q) := Lib.hid (HB.out.trans (HQ.out.mono HB.out.size))
        by_cases hlm : m < k
        · have hmk : m < ks.length := by have := Hlt.out; omega
          have d0 := (hs.below HBQ.out).c0 m hmk
          have d1 := (hs.below HBQ.out).c0 k Hlt.out
          rw [← Hx.out] at d1
          have hbQ : b < Q.heap.size := Nat.lt_of_lt_of_le hbX HQ.out.size
          obtain ⟨y, hy⟩ : ∃ y, y = iv ks m := ⟨_, rfl⟩
          rw [← hy] at d0
          have Hy := Lib.hid hy; have Hlm := Lib.hid hlm
          have e0 := fun z : BW Q => bw_cell z d0 hbQ
          have e1 := fun z : BW Q => bw_cell z d1 hbQ
          clear hy d0 d1 q1 q2 q3
          cases q : (y == x)
          · have HN : Hid (∀ j, j < m + 1 → iv ks j ≠ x) := Lib.hid fun j hj => by
              rcases Nat.lt_or_ge j m with e | e
              · exact HM.out j e
              · obtain rfl : j = m := by omega
                rw [← Hy.out]
                intro e2
                rw [e2] at q
                simp at q
            go_wp2_with fail
            refine wp_region_below (by kernel_rfl) (by kernel_rfl) ?_
            repeat (go_big_quiet_step (fail))
            refine wpQuiet_nil ?_
            rintro Y1 ⟨⟨_, hbY⟩, rfl⟩
            clear e0 e1 q
            go_wp2_with fail
            go_roundw
            case rel => exact ⟨m + 1, by go_num, Hlm.out, HN, Lib.hid (HQ.out.trans (hbY.mono HQ.out.size))⟩
            case measure => have := Hlm.out; simp [intOf]; omega
          · have HF : Hid (R = false) := Lib.hid (Hbad.out (by rw [HD.out, Hyes.out m Hlm.out (by rw [← Hy.out]; exact eq_of_beq q)]; rfl))
            go_wp2_with fail
            refine wp_region_below (by kernel_rfl) (by kernel_rfl) ?_
            repeat (go_big_quiet_step (fail))
            refine wpQuiet_nil ?_
            rintro Y1 ⟨⟨_, hbY⟩, rfl⟩
            clear e0 e1 q
            go_wp2_with fail
            go_ret
            exact ⟨by rw [HF.out]; rfl, HBQ.out.trans (hbY.mono HBQ.out.size)⟩
        · obtain rfl : m = k := by omega
          have HT : Hid (keyB n ks m = true) := Lib.hid (by rw [HD.out, Hnone.out HM.out]; rfl)
          clear q1 q2 q3
          go_wp2_with fail
          go_roundw
          case rel => exact ⟨m + 1, by go_num, Hlt.out, Lib.hid (fun j hj => by
            rcases Nat.lt_or_ge j m with e | e
            · exact HK.out j e
            · obtain rfl : j = m := by omega
              exact HT.out), HBQ⟩
          case measure => have := Hlt.out; simp [intOf]; omega
    · obtain rfl : k = ks.length := by omega
      have HF : Hid (R = true) := Lib.hid (by rw [HR.out]; exact range_all HK.out)
      go_wp2_with fail
      go_ret
      exact ⟨by rw [HF.out]; rfl, HB.out⟩
/-! ### Add -/
def add01 (a b : Int) : Int × Int := if -9223372036854775808 ≤ a + b ∧ a + b ≤ 9223372036854775807 then (a + b, 0) else (0, 9)
theorem add01_in {a b : Int} (h1 : -9223372036854775808 ≤ a + b) (h2 : a + b ≤ 9223372036854775807) : add01 a b = (a + b, 0) := by unfold add01; rw [if_pos ⟨h1, h2⟩]
theorem add01_out {a b : Int} (h : ¬ (-9223372036854775808 ≤ a + b ∧ a + b ≤ 9223372036854775807)) : add01 a b = (0, 9) := by unfold add01; rw [if_neg h]
theorem r01Add_c (a b : Int) (w : World) (ha : -9223372036854775808 ≤ a ∧ a ≤ 9223372036854775807) (hb : -9223372036854775808 ≤ b ∧ b ≤ 9223372036854775807) : Calls Tryz.prog 106 #[.int .i64 a, .int .i64 b] w (Ret w (.tuple #[.int .i64 (add01 a b).1, .int .i64 (add01 a b).2])) := by
  by_cases h1 : -9223372036854775808 ≤ a + b ∧ a + b ≤ 9223372036854775807
  · have hwr : IntKind.i64.wrap (a + b) = a + b := by rw [IntKind.wrap_i64]; omega
    have HA := Lib.hid (add01_in h1.1 h1.2)
    rw [HA.out]
    have hss : decide (a < 0) = decide (b < 0) → decide (a + b < 0) = decide (a < 0) := fun h => by
      rw [decide_eq_decide] at h ⊢
      omega
    have Hss := Lib.hid hss
    clear ha hb h1 hss
    cases p1 : decide (a < 0) <;> cases p2 : decide (b < 0)
    all_goals
      have p3 := fun h => Hss.out h
      rw [p1, p2] at p3
      try (have p4 := p3 rfl)
      clear p3
      go_enter Tryz.func106, Tryz.ntmps106
      go_wp2_with fail
      go_ret2
      exact ⟨rfl, Below.refl _ _⟩
  · have HA := Lib.hid (add01_out h1)
    rw [HA.out]
    have hw : IntKind.i64.wrap (a + b) = if a < 0 then a + b + 18446744073709551616 else a + b - 18446744073709551616 := by
      rw [IntKind.wrap_i64]
      split <;> omega
    by_cases p : a < 0
    · have p1 : decide (a < 0) = true := decide_eq_true p
      have p2 : decide (b < 0) = true := decide_eq_true (by omega)
      rw [if_pos p] at hw
      have p3 : decide (a + b + 18446744073709551616 < 0) = false := decide_eq_false (by omega)
      clear ha hb h1 p
      go_enter Tryz.func106, Tryz.ntmps106
      go_wp2_with fail
      go_ret2
      exact ⟨rfl, Below.refl _ _⟩
    · have p1 : decide (a < 0) = false := decide_eq_false p
      have p2 : decide (b < 0) = false := decide_eq_false (by omega)
      rw [if_neg p] at hw
      have p3 : decide (a + b - 18446744073709551616 < 0) = true := decide_eq_true (by omega)
      clear ha hb h1 p
      go_enter Tryz.func106, Tryz.ntmps106
      go_wp2_with fail
      go_ret2
      exact ⟨rfl, Below.refl _ _⟩
set_option maxRecDepth 100000 in
set_option maxHeartbeats 4000000 in
theorem r39Add_c (v1 v2 : Value) (P M : List Int) (w : World) (h1 : IsInts w v1 P) (h2 : IsInts w v2 M) (hp : ∀ x ∈ P, 0 ≤ x ∧ x ≤ 9223372036854775807) (hm : ∀ x ∈ M, x < 0 ∧ -9223372036854775808 ≤ x) : Calls Tryz.prog 79 #[v1, v2] w (Ret w (.tuple #[.int .i64 (addR P M).1, .bool (addR P M).2])) := by
  obtain ⟨A, c, rfl, hnc, hc⟩ := h1.form
  obtain ⟨B, d, rfl, hnd, hd⟩ := h2.form
  have HS := Lib.hid (AddAt.start hp hm)
  obtain ⟨R, hR⟩ : ∃ r, r = addR P M := ⟨_, rfl⟩
  rw [← hR]
  have HR := Lib.hid hR
  clear hp hm hR
  go_enter Tryz.func79, Tryz.ntmps79
  go_wp2_with fail
  go_loopw [6, 7, 8] (fun s i k X => ∃ (x : Int) (a b : Nat), s = .int .i64 x ∧ i = .int .i64 (a : Int) ∧ k = .int .i64 (b : Int) ∧ Hid (AddAt P M a b x) ∧ Hid (Below w.heap.size w X)) (fun _ i k _ => (P.length - (intOf i).toNat) + (M.length - (intOf k).toNat))
  case atStart => exact ⟨0, 0, 0, rfl, rfl, rfl, HS, Lib.hid (Below.refl _ _)⟩
  case round =>
    obtain ⟨x, a, b, rfl, rfl, rfl, HI, HB⟩ := hrel
    rename World => X
    have hx1 := HI.out.lo; have hx2 := HI.out.up
    have ha := HI.out.hi; have hb := HI.out.hk
    have Hab : Hid (a ≤ P.length ∧ b ≤ M.length) := Lib.hid ⟨ha, hb⟩
    by_cases hpl : a < P.length ∧ (x < 0 ∨ b = M.length)
    · obtain ⟨hap, hcc⟩ := hpl
      obtain ⟨b1, o1, rfl, hb1⟩ := h1.addr (by omega)
      have c0 := (h1.below HB.out).c0 a hap
      obtain ⟨k1, k2⟩ := HI.out.plus hap hcc
      have hy := HI.out.pos _ (iv_mem' hap)
      generalize iv P a = y at c0 k1 k2 hy
      have f1 : decide ((a : Int) < (P.length : Int)) = true := decide_eq_true (by omega)
      have Hap := Lib.hid hap
      by_cases hq : x + y ≤ 9223372036854775807
      · have HA := Lib.hid (k1 hq)
        have K := Lib.hid (r01Add_c x y X (by omega) (by omega))
        rw [add01_in (by omega) hq] at K
        clear k1 k2 hq hy hx1 hx2 ha hb
        rcases hcc with hx0 | hbm
        · have f2 : decide (x < 0) = true := decide_eq_true hx0
          clear hx0
          go_wp2_with fail
          refine K.out.mono ?_
          rintro e X2 ⟨rfl, hb2⟩
          have HB2 := Lib.hid (HB.out.trans (hb2.mono HB.out.size))
          clear hb2
          go_wp2_with fail
          go_roundw
          case rel => exact ⟨x + y, a + 1, b, rfl, by go_num, rfl, HA, HB2⟩
          case measure => have := Hap.out; simp [intOf]; omega
        · have f3 : ((b : Int) == (M.length : Int)) = true := by rw [hbm]; simp
          have f4 : decide ((b : Int) < (M.length : Int)) = false := decide_eq_false (by omega)
          clear hbm
          cases f2 : decide (x < 0)
          all_goals
            go_wp2_with fail
            refine K.out.mono ?_
            rintro e X2 ⟨rfl, hb2⟩
            have HB2 := Lib.hid (HB.out.trans (hb2.mono HB.out.size))
            clear hb2
            go_wp2_with fail
            go_roundw
            case rel => exact ⟨x + y, a + 1, b, rfl, by go_num, rfl, HA, HB2⟩
            case measure => have := Hap.out; simp [intOf]; omega
      · have HF : Hid (R = (0, false)) := Lib.hid (by rw [HR.out]; exact addR_up (k2 hq))
        have K := Lib.hid (r01Add_c x y X (by omega) (by omega))
        rw [add01_out (by omega)] at K
        have f2 : decide (x < 0) = false := decide_eq_false (by omega)
        have hbm : b = M.length := by omega
        have f3 : ((b : Int) == (M.length : Int)) = true := by rw [hbm]; simp
        clear k1 k2 hq hy hx1 hx2 ha hb hcc hbm
        go_wp2_with fail
        refine K.out.mono ?_
        rintro e X2 ⟨rfl, hb2⟩
        have HB2 := Lib.hid (HB.out.trans (hb2.mono HB.out.size))
        clear hb2
        go_wp2_with fail
        go_ret2
        exact ⟨by rw [HF.out]; rfl, HB2.out⟩
    by_cases hbm : b < M.length
    · obtain ⟨b1, o1, rfl, hb1⟩ := h2.addr (by omega)
      have c0 := (h2.below HB.out).c0 b hbm
      obtain ⟨k1, k2⟩ := HI.out.minus hbm (by omega)
      have hy := HI.out.neg _ (iv_mem' hbm)
      generalize iv M b = y at c0 k1 k2 hy
      have Hbm := Lib.hid hbm
      have f3 : ((b : Int) == (M.length : Int)) = false := by rw [beq_eq_false_iff_ne]; omega
      have f4 : decide ((b : Int) < (M.length : Int)) = true := decide_eq_true (by omega)
      by_cases hq : -9223372036854775808 ≤ x + y
      · have HA := Lib.hid (k1 hq)
        have K := Lib.hid (r01Add_c x y X (by omega) (by omega))
        rw [add01_in hq (by omega)] at K
        by_cases hap : a < P.length
        · have f1 : decide ((a : Int) < (P.length : Int)) = true := decide_eq_true (by omega)
          have f2 : decide (x < 0) = false := decide_eq_false (by omega)
          clear k1 k2 hq hy hx1 hx2 ha hb hpl
          go_wp2_with fail
          refine K.out.mono ?_
          rintro e X2 ⟨rfl, hb2⟩
          have HB2 := Lib.hid (HB.out.trans (hb2.mono HB.out.size))
          clear hb2
          go_wp2_with fail
          go_roundw
          case rel => exact ⟨x + y, a, b + 1, rfl, rfl, by go_num, HA, HB2⟩
          case measure => have := Hbm.out; simp [intOf]; omega
        · have f1 : decide ((a : Int) < (P.length : Int)) = false := decide_eq_false (by omega)
          clear k1 k2 hq hy hx1 hx2 ha hb hpl
          go_wp2_with fail
          refine K.out.mono ?_
          rintro e X2 ⟨rfl, hb2⟩
          have HB2 := Lib.hid (HB.out.trans (hb2.mono HB.out.size))
          clear hb2
          go_wp2_with fail
          go_roundw
          case rel => exact ⟨x + y, a, b + 1, rfl, rfl, by go_num, HA, HB2⟩
          case measure => have := Hbm.out; simp [intOf]; omega
      · have HF : Hid (R = (0, false)) := Lib.hid (by rw [HR.out]; exact addR_lo (k2 hq))
        have K := Lib.hid (r01Add_c x y X (by omega) (by omega))
        rw [add01_out (by omega)] at K
        have hx0 : x < 0 := by omega
        have hap : ¬ a < P.length := by omega
        have f1 : decide ((a : Int) < (P.length : Int)) = false := decide_eq_false (by omega)
        clear k1 k2 hq hy hx1 hx2 ha hb hpl hx0
        go_wp2_with fail
        refine K.out.mono ?_
        rintro e X2 ⟨rfl, hb2⟩
        have HB2 := Lib.hid (HB.out.trans (hb2.mono HB.out.size))
        clear hb2
        go_wp2_with fail
        go_ret2
        exact ⟨by rw [HF.out]; rfl, HB2.out⟩
    · obtain rfl : b = M.length := by omega
      obtain rfl : a = P.length := by omega
      have HF : Hid (R = (x, true)) := Lib.hid (by rw [HR.out]; exact addR_done HI.out)
      have f1 : decide ((P.length : Int) < (P.length : Int)) = false := decide_eq_false (by omega)
      have f2 : decide ((M.length : Int) < (M.length : Int)) = false := decide_eq_false (by omega)
      clear hpl hbm hx1 hx2 ha hb
      go_wp2_with fail
      go_ret2
      exact ⟨by rw [HF.out]; rfl, HB.out⟩
end Go.Proofs.YtohjgegnamcnlaaGreat
