/- Law 39: the reference's order of lists of values. -/
import Derived.Test.YtohjgegnamcnlaaGreatZad
namespace Go.Proofs.YtohjgegnamcnlaaGreat
open Go.RowKit Go.Shelf

theorem cmpR_diff : ∀ (a b : VRow) (j : Nat), j < a.length → j < b.length → (∀ l, l < j → va a l = va b l) → cmpV (va a j) (va b j) ≠ 0 → cmpR a b = cmpV (va a j) (va b j)
  | [], _, _, ha, _, _, _ => absurd ha (by simp)
  | _ :: _, [], _, _, hb, _, _ => absurd hb (by simp)
  | x :: a, y :: b, 0, _, _, _, hd => by
    show (if cmpV x y ≠ 0 then cmpV x y else cmpR a b) = cmpV x y
    have hd' : cmpV x y ≠ 0 := hd
    rw [if_pos hd']
  | x :: a, y :: b, j + 1, ha, hb, he, hd => by
    have e0 : x = y := he 0 (by omega)
    show (if cmpV x y ≠ 0 then cmpV x y else cmpR a b) = _
    rw [e0, if_neg (fun h => h ((ordV.eq _ _).2 rfl))]
    exact cmpR_diff a b j (by simpa using ha) (by simpa using hb) (fun l hl => he (l + 1) (by omega)) hd
theorem cmpR_end : ∀ (a b : VRow), (∀ l, l < a.length → l < b.length → va a l = va b l) → cmpR a b = sgI (a.length : Int) (b.length : Int)
  | [], [], _ => by simp [cmpR, cmpL, sgI]
  | [], y :: b, _ => by
    unfold sgI
    rw [if_pos (by simp)]
    rfl
  | x :: a, [], _ => by
    unfold sgI
    rw [if_neg (by simp; omega), if_pos (by simp)]
    rfl
  | x :: a, y :: b, he => by
    have e0 : x = y := he 0 (by simp) (by simp)
    show (if cmpV x y ≠ 0 then cmpV x y else cmpR a b) = _
    rw [e0, if_neg (fun h => h ((ordV.eq _ _).2 rfl)), cmpR_end a b fun l h h' => he (l + 1) (by simpa using h) (by simpa using h')]
    unfold sgI
    simp only [List.length_cons]
    split <;> split <;> (try split) <;> (try split) <;> omega
set_option maxRecDepth 100000 in
theorem r33Order_c (v1 v2 : Value) (a b : VRow) (w : World) (h1 : IsVals w v1 a) (h2 : IsVals w v2 b) (ht : ∀ x ∈ a, x.2.2.size ≤ 1000000000) : Calls Tryz.prog 80 #[v1, v2] w (Ret w (.int .i64 (cmpR a b))) := by
  obtain ⟨R, hR⟩ : ∃ r, r = cmpR a b := ⟨_, rfl⟩
  rw [← hR]
  have HR := Lib.hid hR
  clear hR
  obtain ⟨A1, c1, rfl, hn1, hc1⟩ := h1.form
  obtain ⟨A2, c2, rfl, hn2, hc2⟩ := h2.form
  have KC : Hid (∀ (i : Nat) (Y : World), i < a.length → Calls Tryz.prog 66 #[.agg #[.int .i64 (va a i).1, .int .i64 (va a i).2.1, .string (va a i).2.2], .agg #[.int .i64 (va b i).1, .int .i64 (va b i).2.1, .string (va b i).2.2]] Y (Ret Y (.int .i64 (cmpV (va a i) (va b i))))) := Lib.hid fun i Y hi => r33Compare_c _ _ _ _ _ _ Y (ht _ (va_mem hi))
  clear ht
  go_enter Tryz.func80, Tryz.ntmps80
  go_wp2_with fail
  try go_frame
  go_loopw [5] (fun i X => ∃ j : Nat, i = .int .i64 (j : Int) ∧ j ≤ a.length ∧ j ≤ b.length ∧ Hid (∀ l, l < j → va a l = va b l) ∧ Hid (Below w.heap.size w X)) (fun i _ => a.length - (intOf i).toNat)
  case atStart => exact ⟨0, rfl, Nat.zero_le _, Nat.zero_le _, Lib.hid (fun l hl => absurd hl (by omega)), Lib.hid (Below.refl _ _)⟩
  case round =>
    obtain ⟨j, rfl, ha, hb, HJ, HX⟩ := hrel
    rename World => X
    by_cases hlt : j < a.length ∧ j < b.length
    · obtain ⟨hl1, hl2⟩ := hlt
      have f1 : decide ((j : Int) < (a.length : Int)) = true := decide_eq_true (by omega)
      have f2 : decide ((j : Int) < (b.length : Int)) = true := decide_eq_true (by omega)
      obtain ⟨b1, o1, rfl, hb1⟩ := h1.addr (by omega)
      obtain ⟨b2, o2, rfl, hb2⟩ := h2.addr (by omega)
      have hx1 := h1.below HX.out
      have hx2 := h2.below HX.out
      have hB1 : b1 < X.heap.size := Nat.lt_of_lt_of_le hb1 HX.out.size
      have hB2 : b2 < X.heap.size := Nat.lt_of_lt_of_le hb2 HX.out.size
      have e1 := fun x : BW X => bw_cell x (hx1.c0 j hl1) hB1
      have e2 := fun x : BW X => bw_cell x (hx1.c1 j hl1) hB1
      have e3 := fun x : BW X => bw_cell x (hx1.c2 j hl1) hB1
      have e4 := fun x : BW X => bw_cell x (hx2.c0 j hl2) hB2
      have e5 := fun x : BW X => bw_cell x (hx2.c1 j hl2) hB2
      have e6 := fun x : BW X => bw_cell x (hx2.c2 j hl2) hB2
      have K := Lib.hid fun Y => KC.out j Y hl1
      have HD : Hid (cmpV (va a j) (va b j) ≠ 0 → R = cmpV (va a j) (va b j)) := Lib.hid fun h => by rw [HR.out]; exact cmpR_diff a b j hl1 hl2 HJ.out h
      have HE : Hid (cmpV (va a j) (va b j) = 0 → va a j = va b j) := Lib.hid (ordV.eq _ _).1
      generalize cmpV (va a j) (va b j) = d at K HD HE
      generalize hva : va a j = xa at *
      generalize hvb : va b j = xb at *
      obtain ⟨ka, na, sa⟩ := xa
      obtain ⟨kb, nb, sb⟩ := xb
      have HVa := Lib.hid hva; have HVb := Lib.hid hvb
      simp only at e1 e2 e3 e4 e5 e6 K
      clear hva hvb hx1 hx2
      have hs1 : j < a.length := hl1
      have hs2 : j < b.length := hl2
      go_wp2_with fail
      refine wp_region_below (by kernel_rfl) (by kernel_rfl) ?_
      repeat (go_big_quiet_step ((go_at_call 66; exact calls_bw _ (K.out _))))
      refine wpQuiet_nil ?_
      rintro Y1 ⟨⟨_, hbY⟩, rfl⟩
      have HbY := Lib.hid (HX.out.trans (hbY.mono HX.out.size))
      clear e1 e2 e3 e4 e5 e6 hbY
      cases q : (d == 0)
      · have q2 : (d != 0) = true := by rw [bne, q]; rfl
        have HR2 : Hid (R = d) := Lib.hid (HD.out (by intro e; rw [e] at q; cases q))
        go_wp2_with fail
        go_ret
        exact ⟨by rw [HR2.out]; rfl, HbY.out⟩
      · have q2 : (d != 0) = false := by rw [bne, q]; rfl
        have HJ' : Hid (∀ l, l < j + 1 → va a l = va b l) := Lib.hid fun l hl => by
          rcases Nat.lt_or_ge l j with e | e
          · exact HJ.out l e
          · obtain rfl : l = j := by omega
            rw [HVa.out, HVb.out]
            exact HE.out (eq_of_beq q)
        go_wp2_with fail
        go_roundw
        case rel => exact ⟨j + 1, by go_num, hl1, hl2, HJ', HbY⟩
        case measure => simp [intOf]; omega
    · have HR2 : Hid (R = sgI (a.length : Int) (b.length : Int)) := Lib.hid (by
        rw [HR.out]
        exact cmpR_end a b fun l h h' => HJ.out l (by omega))
      have KS : Hid (∀ Y : World, Calls Tryz.prog 98 #[.int .i64 (a.length : Int), .int .i64 (b.length : Int)] Y (Ret Y (.int .i64 R))) := Lib.hid fun Y => by rw [HR2.out]; exact r33sign_c _ _ Y
      clear HR2
      cases f1 : decide ((j : Int) < (a.length : Int))
      rotate_left
      · have f2 : decide ((j : Int) < (b.length : Int)) = false := decide_eq_false (by have := of_decide_eq_true f1; omega)
        go_wp2_with fail
        all_goals
          refine (KS.out _).mono ?_
          rintro e Y2 ⟨rfl, hbY⟩
          have hbo := HX.out.trans (hbY.mono HX.out.size)
          clear hbY
          go_wp2_with fail
          go_ret
          exact ⟨rfl, hbo⟩
      · go_wp2_with fail
        all_goals
          refine (KS.out _).mono ?_
          rintro e Y2 ⟨rfl, hbY⟩
          have hbo := HX.out.trans (hbY.mono HX.out.size)
          clear hbY
          go_wp2_with fail
          go_ret
          exact ⟨rfl, hbo⟩
end Go.Proofs.YtohjgegnamcnlaaGreat
