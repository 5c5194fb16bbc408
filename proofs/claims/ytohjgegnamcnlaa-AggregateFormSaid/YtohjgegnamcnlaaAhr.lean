/- Law 39: the reference's order of values. -/
import Derived.Test.YtohjgegnamcnlaaAhq
namespace Go.Proofs.Ytohjgegnamcnlaa
open Go.RowKit Go.Shelf

theorem cmpV_kind {k1 n1 k2 n2 : Int} {a b : ByteArray} (h : k1 ≠ k2) : cmpV (k1, n1, a) (k2, n2, b) = sgI k1 k2 := by
  unfold cmpV lexC
  rw [if_pos (fun e => h ((ordI.eq _ _).1 e))]
theorem cmpV_num {k n1 n2 : Int} {a b : ByteArray} (h : n1 ≠ n2) : cmpV (k, n1, a) (k, n2, b) = sgI n1 n2 := by
  unfold cmpV lexC
  rw [if_neg (fun e => e ((ordI.eq _ _).2 rfl))]
  simp only
  rw [if_pos (fun e => h ((ordI.eq _ _).1 e))]
theorem cmpV_text {k n : Int} {a b : ByteArray} : cmpV (k, n, a) (k, n, b) = sgS a b := by
  unfold cmpV lexC
  rw [if_neg (fun e => e ((ordI.eq _ _).2 rfl))]
  simp only
  rw [if_neg (fun e => e ((ordI.eq _ _).2 rfl))]
theorem sgS_diff {a b : ByteArray} {j : Nat} (ha : j < a.size) (hb : j < b.size) (h : ∀ l (h : l < a.size) (h' : l < b.size), l < j → a[l] = b[l]) (hd : a[j] ≠ b[j]) : sgS a b = sgI (a[j].toNat : Int) (b[j].toNat : Int) :=
  sgL_diff a.data.toList b.data.toList j (by simpa using ha) (by simpa using hb) (fun l h1 h2 hl => by
    have := h l (by simpa using h1) (by simpa using h2) hl
    simpa [ByteArray.getElem_eq_getElem_data] using this) (by simpa [ByteArray.getElem_eq_getElem_data] using hd)
theorem sgS_end {a b : ByteArray} (h : ∀ l (h : l < a.size) (h' : l < b.size), a[l] = b[l]) : sgS a b = sgI (a.size : Int) (b.size : Int) := by
  have := sgL_end a.data.toList b.data.toList fun l h1 h2 => by
    have := h l (by simpa using h1) (by simpa using h2)
    simpa [ByteArray.getElem_eq_getElem_data] using this
  rw [sgS_eq]
  simpa using this
set_option maxRecDepth 100000 in
theorem r33Compare_c (k1 n1 k2 n2 : Int) (a b : ByteArray) (w : World) (hsz : a.size ≤ 1000000000) : Calls Try.prog 13 #[.agg #[.int .i64 k1, .int .i64 n1, .string a], .agg #[.int .i64 k2, .int .i64 n2, .string b]] w (Ret w (.int .i64 (cmpV (k1, n1, a) (k2, n2, b)))) := by
  obtain ⟨R, hR⟩ : ∃ r, r = cmpV (k1, n1, a) (k2, n2, b) := ⟨_, rfl⟩
  rw [← hR]
  obtain ⟨W, hW⟩ : ∃ y, y = (w.alloc (.cells #[.int .i64 k1, .int .i64 n1, .string a] 37)).alloc (.cells #[.int .i64 k2, .int .i64 n2, .string b] 37) := ⟨_, rfl⟩
  have hz : (w.alloc (.cells #[.int .i64 k1, .int .i64 n1, .string a] 37)).heap.size = w.heap.size + 1 := by simp
  have hb0 : Below w.heap.size w W := by rw [hW]; exact ((Below.refl _ _).alloc (Nat.le_refl _) _).alloc (by omega) _
  have HW := Lib.hid hW; have HB0 := Lib.hid hb0
  cases q1 : (k1 == k2)
  · have h1 : k1 ≠ k2 := by rw [beq_eq_false_iff_ne] at q1; exact q1
    have HR : Hid (R = sgI k1 k2) := Lib.hid (by rw [hR]; exact cmpV_kind h1)
    have q2 : (k1 != k2) = true := by rw [bne, q1]; rfl
    clear hR h1 hW hb0
    go_enter Try.func13, Try.ntmps13
    go_wp2_with fail
    rw [← HW.out]
    refine (r33sign_c k1 k2 _).mono ?_
    rintro e w2 ⟨rfl, hb2⟩
    have hb := HB0.out.trans (hb2.mono HB0.out.size)
    clear hb2
    go_wp2_with fail
    go_ret
    exact ⟨by rw [HR.out]; rfl, hb⟩
  obtain rfl : k1 = k2 := eq_of_beq q1
  cases q3 : (n1 == n2)
  · have h1 : n1 ≠ n2 := by rw [beq_eq_false_iff_ne] at q3; exact q3
    have HR : Hid (R = sgI n1 n2) := Lib.hid (by rw [hR]; exact cmpV_num h1)
    have q2 : (n1 != n2) = true := by rw [bne, q3]; rfl
    have q4 : (k1 != k1) = false := by simp
    clear hR h1 hW hb0
    go_enter Try.func13, Try.ntmps13
    go_wp2_with fail
    rw [← HW.out]
    refine (r33sign_c n1 n2 _).mono ?_
    rintro e w2 ⟨rfl, hb2⟩
    have hb := HB0.out.trans (hb2.mono HB0.out.size)
    clear hb2
    go_wp2_with fail
    go_ret
    exact ⟨by rw [HR.out]; rfl, hb⟩
  obtain rfl : n1 = n2 := eq_of_beq q3
  have HR : Hid (R = sgS a b) := Lib.hid (by rw [hR]; exact cmpV_text)
  clear hR q1 q3
  have q4 : (k1 != k1) = false := by simp
  have q5 : (n1 != n1) = false := by simp
  have hT1 : W.heap[w.heap.size]? = some (.cells #[.int .i64 k1, .int .i64 n1, .string a] 37 (0, 0)) := by
    rw [hW]
    exact (((Below.refl (w.alloc (.cells #[.int .i64 k1, .int .i64 n1, .string a] 37)).heap.size _).alloc (Nat.le_refl _) _).block w.heap.size (by simp)).trans (heap_alloc_new w _)
  have hT2 : W.heap[w.heap.size + 1]? = some (.cells #[.int .i64 k1, .int .i64 n1, .string b] 37 (0, 0)) := by
    rw [hW]
    have := heap_alloc_new (w.alloc (.cells #[.int .i64 k1, .int .i64 n1, .string a] 37)) (.cells #[.int .i64 k1, .int .i64 n1, .string b] 37)
    rw [hz] at this
    exact this
  have HA : Hid (∀ X, Below W.heap.size W X → X.cell? ⟨w.heap.size, 2, none⟩ = some (.string a)) := Lib.hid fun X h => by
    rw [h.cell (p := ⟨w.heap.size, 2, none⟩) (blk_lt hT1), blk_get hT1 2]; rfl
  have HB : Hid (∀ X, Below W.heap.size W X → X.cell? ⟨w.heap.size + 1, 2, none⟩ = some (.string b)) := Lib.hid fun X h => by
    rw [h.cell (p := ⟨w.heap.size + 1, 2, none⟩) (blk_lt hT2), blk_get hT2 2]; rfl
  have Hl1 := Lib.hid (blk_lt hT1); have Hl2 := Lib.hid (blk_lt hT2)
  clear hT1 hT2 hW hb0 hz
  go_enter Try.func13, Try.ntmps13
  go_wp2_with fail
  rw [← HW.out]
  try go_frame
  go_loopw [5] (fun i X => ∃ j : Nat, i = .int .i64 (j : Int) ∧ j ≤ a.size ∧ j ≤ b.size ∧ Hid (∀ l (h : l < a.size) (h' : l < b.size), l < j → a[l] = b[l]) ∧ Hid (Below W.heap.size W X)) (fun i _ => a.size - (intOf i).toNat)
  case atStart => exact ⟨0, rfl, Nat.zero_le _, Nat.zero_le _, Lib.hid (fun l _ _ hl => absurd hl (by omega)), Lib.hid (Below.refl _ _)⟩
  case round =>
    obtain ⟨j, rfl, ha, hb, HJ, HX⟩ := hrel
    rename World => X
    have x1 := HA.out X HX.out
    have x2 := HB.out X HX.out
    have HbX := Lib.hid (HB0.out.trans (HX.out.mono HB0.out.size))
    by_cases hlt : j < a.size ∧ j < b.size
    · obtain ⟨hl1, hl2⟩ := hlt
      have f1 : decide ((j : Int) < (a.size : Int)) = true := decide_eq_true (by omega)
      have f2 : decide ((j : Int) < (b.size : Int)) = true := decide_eq_true (by omega)
      have e1 := fun x : BW X => bw_cell x x1 (Nat.lt_of_lt_of_le Hl1.out HX.out.size)
      have e2 := fun x : BW X => bw_cell x x2 (Nat.lt_of_lt_of_le Hl2.out HX.out.size)
      obtain ⟨y1, hy1⟩ : ∃ y, y = ((a[j]'hl1).toNat : Int) := ⟨_, rfl⟩
      obtain ⟨y2, hy2⟩ : ∃ y, y = ((b[j]'hl2).toNat : Int) := ⟨_, rfl⟩
      cases q : (((a[j]'hl1).toNat : Int) == ((b[j]'hl2).toNat : Int))
      · have hne : a[j]'hl1 ≠ b[j]'hl2 := fun e => by rw [e] at q; simp at q
        have HR2 : Hid (R = sgI ((a[j]'hl1).toNat : Int) ((b[j]'hl2).toNat : Int)) := Lib.hid (by rw [HR.out]; exact sgS_diff hl1 hl2 HJ.out hne)
        have q2 : (((a[j]'hl1).toNat : Int) != ((b[j]'hl2).toNat : Int)) = true := by rw [bne, q]; rfl
        have w1 : IntKind.i64.wrap ((a[j]'hl1).toNat : Int) = ((a[j]'hl1).toNat : Int) := IntWalk.i64_in _ (by have := (a[j]'hl1).toNat_lt; omega)
        have w2 : IntKind.i64.wrap ((b[j]'hl2).toNat : Int) = ((b[j]'hl2).toNat : Int) := IntWalk.i64_in _ (by have := (b[j]'hl2).toNat_lt; omega)
        have KS : Hid (∀ Y : World, Calls Try.prog 51 #[.int .i64 ((a[j]'hl1).toNat : Int), .int .i64 ((b[j]'hl2).toNat : Int)] Y (Ret Y (.int .i64 R))) := Lib.hid fun Y => by rw [HR2.out]; exact r33sign_c _ _ Y
        go_wp2_with fail
        refine wp_region_below (by kernel_rfl) (by kernel_rfl) ?_
        repeat (go_big_quiet_step (fail))
        refine wpQuiet_nil ?_
        rintro Y1 ⟨⟨_, hbY⟩, rfl⟩
        have z1 := (hbY.cell (p := ⟨w.heap.size, 2, none⟩) (Nat.lt_of_lt_of_le Hl1.out HX.out.size)).trans x1
        have z2 := (hbY.cell (p := ⟨w.heap.size + 1, 2, none⟩) (Nat.lt_of_lt_of_le Hl2.out HX.out.size)).trans x2
        have HbY := Lib.hid (HbX.out.trans (hbY.mono HbX.out.size))
        have Hs1 := Lib.hid (Nat.lt_of_lt_of_le (Nat.lt_of_lt_of_le Hl1.out HX.out.size) hbY.size)
        have Hs2 := Lib.hid (Nat.lt_of_lt_of_le (Nat.lt_of_lt_of_le Hl2.out HX.out.size) hbY.size)
        clear e1 e2 hbY x1 x2
        have e1 := fun x : BW Y1 => bw_cell x z1 Hs1.out
        have e2 := fun x : BW Y1 => bw_cell x z2 Hs2.out
        go_wp2_with fail
        refine wp_region_below (by kernel_rfl) (by kernel_rfl) ?_
        repeat (go_big_quiet_step ((go_at_call 51; exact calls_bw _ (KS.out _))))
        refine wpQuiet_nil ?_
        rintro Y2 ⟨⟨_, hbY⟩, rfl⟩
        have hbo := HbY.out.trans (hbY.mono HbY.out.size)
        clear e1 e2 hbY
        go_wp2_with fail
        go_ret
        exact ⟨rfl, hbo⟩
      · have heq : a[j]'hl1 = b[j]'hl2 := by have := eq_of_beq q; exact UInt8.toNat_inj.1 (by omega)
        have HJ' : Hid (∀ l (h : l < a.size) (h' : l < b.size), l < j + 1 → a[l] = b[l]) := Lib.hid fun l h h' hl => by
          rcases Nat.lt_or_ge l j with e | e
          · exact HJ.out l h h' e
          · obtain rfl : l = j := by omega
            exact heq
        have q2 : (((a[j]'hl1).toNat : Int) != ((b[j]'hl2).toNat : Int)) = false := by rw [bne, q]; rfl
        clear heq
        go_wp2_with fail
        refine wp_region_below (by kernel_rfl) (by kernel_rfl) ?_
        repeat (go_big_quiet_step (fail))
        refine wpQuiet_nil ?_
        rintro Y1 ⟨⟨_, hbY⟩, rfl⟩
        have HbY := Lib.hid (HX.out.trans (hbY.mono HX.out.size))
        clear e1 e2 hbY x1 x2
        go_wp2_with fail
        go_roundw
        case rel => exact ⟨j + 1, by go_num, hl1, hl2, HJ', HbY⟩
        case measure => simp [intOf]; omega
    · have HR2 : Hid (R = sgI (a.size : Int) (b.size : Int)) := Lib.hid (by
        rw [HR.out]
        exact sgS_end fun l h h' => HJ.out l h h' (by omega))
      have KS : Hid (∀ Y : World, Calls Try.prog 51 #[.int .i64 (a.size : Int), .int .i64 (b.size : Int)] Y (Ret Y (.int .i64 R))) := Lib.hid fun Y => by rw [HR2.out]; exact r33sign_c _ _ Y
      clear HR2
      cases f1 : decide ((j : Int) < (a.size : Int))
      rotate_left
      · have f2 : decide ((j : Int) < (b.size : Int)) = false := decide_eq_false (by have := of_decide_eq_true f1; omega)
        go_wp2_with fail
        all_goals
          refine (KS.out _).mono ?_
          rintro e Y2 ⟨rfl, hbY⟩
          have hbo := HbX.out.trans (hbY.mono HbX.out.size)
          clear hbY
          go_wp2_with fail
          go_ret
          exact ⟨rfl, hbo⟩
      · go_wp2_with fail
        all_goals
          refine (KS.out _).mono ?_
          rintro e Y2 ⟨rfl, hbY⟩
          have hbo := HbX.out.trans (hbY.mono HbX.out.size)
          clear hbY
          go_wp2_with fail
          go_ret
          exact ⟨rfl, hbo⟩
end Go.Proofs.Ytohjgegnamcnlaa
