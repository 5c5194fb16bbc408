/- Law 39: the reference's validity of values, rows and facts. -/
import Derived.Test.YtohjgegnamcnlaaGreatAhi
namespace Go.Proofs.YtohjgegnamcnlaaGreat
open Go.RowKit Go.Shelf

set_option maxRecDepth 100000 in
theorem r33Valid_c (k n : Int) (s : ByteArray) (w : World) : Calls Tryz.prog 85 #[.agg #[.int .i64 k, .int .i64 n, .string s]] w (Ret w (.bool (vB (k, n, s)))) := by
  obtain ⟨W, hW⟩ : ∃ y, y = w.alloc (.cells #[.int .i64 k, .int .i64 n, .string s] 51) := ⟨_, rfl⟩
  have hb : Below w.heap.size w W := by rw [hW]; exact (Below.refl _ _).alloc (Nat.le_refl _) _
  have hT : W.heap[w.heap.size]? = some (.cells #[.int .i64 k, .int .i64 n, .string s] 51 (0, 0)) := by rw [hW]; exact heap_alloc_new w _
  have a0 := blk_get hT 0
  have a1 := blk_get hT 1
  have a2 := blk_get hT 2
  simp at a0 a1 a2
  rw [hW] at a0 a1 a2
  have HW := Lib.hid hW; have Hb := Lib.hid hb; have HT := Lib.hid hT
  obtain ⟨R, hR⟩ : ∃ b, b = vB (k, n, s) := ⟨_, rfl⟩
  rw [← hR]
  unfold vB at hR
  simp only at hR
  clear hW hb hT
  by_cases k1 : k = 1
  · rw [if_pos k1] at hR
    have HR := Lib.hid hR
    subst k1
    clear hR
    go_enter Tryz.func85, Tryz.ntmps85
    go_wp2_with fail
    go_ret
    exact ⟨by rw [HR.out]; rfl, (Below.refl _ _).alloc (Nat.le_refl _) _⟩
  rw [if_neg k1] at hR
  have e1 : (k == 1) = false := by rw [beq_eq_false_iff_ne]; exact k1
  by_cases k2 : k = 2
  · rw [if_pos k2] at hR
    subst k2
    cases q1 : (n == 0)
    · have q11 : decide (n = 0) = false := by simpa using q1
      have q10 : (n != 0) = true := by rw [bne, q1]; rfl
      have HR : Hid (R = false) := Lib.hid (by rw [hR, q11]; rfl)
      clear hR q11
      go_enter Tryz.func85, Tryz.ntmps85
      go_wp2_with fail
      go_ret
      exact ⟨by rw [HR.out]; rfl, (Below.refl _ _).alloc (Nat.le_refl _) _⟩
    · have q11 : decide (n = 0) = true := by simpa using q1
      have q10 : (n != 0) = false := by rw [bne, q1]; rfl
      have q2 : decide ((30 : Int) < (s.size : Int)) = !decide (s.size ≤ 30) := by
        by_cases h : s.size ≤ 30
        · rw [decide_eq_true h]; exact decide_eq_false (by omega)
        · rw [decide_eq_false h]; exact decide_eq_true (by omega)
      rw [q11] at hR
      cases q3 : decide (s.size ≤ 30)
      · rw [q3] at q2 hR
        have q2 : decide ((30 : Int) < (s.size : Int)) = true := q2
        have HR : Hid (R = false) := Lib.hid (by rw [hR]; rfl)
        clear hR
        go_enter Tryz.func85, Tryz.ntmps85
        go_wp2_with fail
        go_ret
        exact ⟨by rw [HR.out]; rfl, (Below.refl _ _).alloc (Nat.le_refl _) _⟩
      · rw [q3] at q2 hR
        have q2 : decide ((30 : Int) < (s.size : Int)) = false := q2
        have HR : Hid (R = textB s) := Lib.hid (by rw [hR]; simp)
        have hsz : s.size ≤ 30 := of_decide_eq_true q3
        clear hR q3
        go_enter Tryz.func85, Tryz.ntmps85
        go_wp2_with fail
        rw [← HW.out]
        have hb := Hb.out
        try go_frame
        go_loopw [3] (fun i X => ∃ j : Nat, i = .int .i64 (j : Int) ∧ j ≤ s.size ∧ Hid (∀ l, (h : l < s.size) → l < j → badB (s[l]'h).toNat = false) ∧ Below W.heap.size W X) (fun i _ => s.size - (intOf i).toNat)
        case atStart => exact ⟨0, rfl, Nat.zero_le _, Lib.hid fun l h hl => absurd hl (by omega), Below.refl _ _⟩
        case round =>
          obtain ⟨j, rfl, hj, HJ, hbX⟩ := hrel
          rename World => X
          have a2 := (hbX.cell (p := ⟨w.heap.size, 2, none⟩) (blk_lt HT.out)).trans (blk_get HT.out 2)
          simp at a2
          by_cases hlt : j < s.size
          · have hbo := hb.trans (hbX.mono hb.size)
            have hbad : badB (s[j]'hlt).toNat = true → textB s = false := fun h => by
              unfold textB
              rw [Bool.eq_false_iff]
              intro h2
              have h3 := List.all_eq_true.1 h2 s[j] (by
                have e : s.data.toList[j]'(by simpa using hlt) = s[j] := by simp [ByteArray.getElem_eq_getElem_data]
                rw [← e]
                exact List.getElem_mem _)
              rw [h] at h3
              cases h3
            have hdef : badB (s[j]'hlt).toNat = (decide (((s[j]'hlt).toNat : Int) < 32) || decide ((126 : Int) < ((s[j]'hlt).toNat : Int))) := by
              unfold badB
              congr 1 <;> (rw [decide_eq_decide]; omega)
            have HB := Lib.hid hbad; have HD := Lib.hid hdef
            clear hbad hdef
            cases p1 : decide (((s[j]'hlt).toNat : Int) < 32)
            · cases p2 : decide ((126 : Int) < ((s[j]'hlt).toNat : Int))
              · have HN : Hid (∀ l, (h : l < s.size) → l < j + 1 → badB (s[l]'h).toNat = false) := Lib.hid fun l h hl => by
                  rcases Nat.lt_or_ge l j with e | e
                  · exact HJ.out l h e
                  · obtain rfl : l = j := by omega
                    rw [HD.out, p1, p2]
                    rfl
                go_wp2_with fail
                go_roundw
                case rel => exact ⟨j + 1, by go_num, hlt, HN, hbX⟩
                case measure => simp [intOf]; omega
              · have HF : Hid (R = false) := Lib.hid (by rw [HR.out]; exact HB.out (by rw [HD.out, p2, Bool.or_true]))
                go_wp2_with fail
                go_ret
                exact ⟨by rw [HF.out]; rfl, hbo⟩
            · have HF : Hid (R = false) := Lib.hid (by rw [HR.out]; exact HB.out (by rw [HD.out, p1]; rfl))
              go_wp2_with fail
              go_ret
              exact ⟨by rw [HF.out]; rfl, hbo⟩
          · obtain rfl : j = s.size := by omega
            have HTx : Hid (textB s = true) := Lib.hid (by
              unfold textB
              rw [List.all_eq_true]
              intro x hx
              obtain ⟨l, hl, rfl⟩ := List.getElem_of_mem hx
              have hl2 : l < s.size := by simpa using hl
              have := HJ.out l hl2 hl2
              have e : s.data.toList[l] = s[l] := by simp [ByteArray.getElem_eq_getElem_data]
              rw [e, this]
              rfl)
            have hbo := hb.trans (hbX.mono hb.size)
            go_wp2_with fail
            go_ret
            exact ⟨by rw [HR.out, HTx.out]; rfl, hbo⟩
  rw [if_neg k2] at hR
  have e2 : (k == 2) = false := by rw [beq_eq_false_iff_ne]; exact k2
  by_cases k3 : k = 3
  · rw [if_pos k3] at hR
    subst k3
    cases q1 : s.toList.isEmpty
    · have HR : Hid (R = false) := Lib.hid (by rw [hR, q1]; rfl)
      clear hR
      go_enter Tryz.func85, Tryz.ntmps85
      go_wp2_with fail
      go_ret
      exact ⟨by rw [HR.out]; rfl, (Below.refl _ _).alloc (Nat.le_refl _) _⟩
    · cases q2 : (n == 0)
      · have q22 : decide (n = 0) = false := by simpa using q2
        have HR : Hid (R = (n == 1)) := Lib.hid (by rw [hR, q1, q22]; rfl)
        clear hR q22
        go_enter Tryz.func85, Tryz.ntmps85
        go_wp2_with fail
        go_ret
        exact ⟨by rw [HR.out]; rfl, (Below.refl _ _).alloc (Nat.le_refl _) _⟩
      · have q22 : decide (n = 0) = true := by simpa using q2
        have HR : Hid (R = true) := Lib.hid (by rw [hR, q1, q22]; rfl)
        clear hR q22
        go_enter Tryz.func85, Tryz.ntmps85
        go_wp2_with fail
        go_ret
        exact ⟨by rw [HR.out]; rfl, (Below.refl _ _).alloc (Nat.le_refl _) _⟩
  rw [if_neg k3] at hR
  have e3 : (k == 3) = false := by rw [beq_eq_false_iff_ne]; exact k3
  by_cases k4 : k = 4
  · rw [if_pos k4] at hR
    subst k4
    cases q1 : s.toList.isEmpty
    · have HR : Hid (R = false) := Lib.hid (by rw [hR, q1]; rfl)
      clear hR
      go_enter Tryz.func85, Tryz.ntmps85
      go_wp2_with fail
      go_ret
      exact ⟨by rw [HR.out]; rfl, (Below.refl _ _).alloc (Nat.le_refl _) _⟩
    · cases q2 : decide (-62135596800 ≤ n)
      · have HR : Hid (R = false) := Lib.hid (by rw [hR, q1, q2]; rfl)
        clear hR
        go_enter Tryz.func85, Tryz.ntmps85
        go_wp2_with fail
        go_ret
        exact ⟨by rw [HR.out]; rfl, (Below.refl _ _).alloc (Nat.le_refl _) _⟩
      · have HR : Hid (R = decide (n ≤ 253402300800)) := Lib.hid (by rw [hR, q1, q2]; simp)
        clear hR
        go_enter Tryz.func85, Tryz.ntmps85
        go_wp2_with fail
        go_ret
        exact ⟨by rw [HR.out]; rfl, (Below.refl _ _).alloc (Nat.le_refl _) _⟩
  · rw [if_neg k4] at hR
    have e4 : (k == 4) = false := by rw [beq_eq_false_iff_ne]; exact k4
    have HR := Lib.hid hR
    clear hR
    go_enter Tryz.func85, Tryz.ntmps85
    go_wp2_with fail
    go_ret
    exact ⟨by rw [HR.out]; rfl, (Below.refl _ _).alloc (Nat.le_refl _) _⟩
set_option maxRecDepth 100000 in
theorem r33All_c (v : Value) (l : VRow) (w : World) (hs : IsVals w v l) : Calls Tryz.prog 58 #[v] w (Ret w (.bool (rowB l))) := by
  obtain ⟨A, c, rfl, hnc, hc⟩ := hs.form
  go_enter Tryz.func58, Tryz.ntmps58
  go_wp2_with fail
  go_loopw [3] (fun i X => ∃ k : Nat, i = .int .i64 k ∧ k ≤ l.length ∧ Hid (∀ j, j < k → vB (va l j) = true) ∧ Below w.heap.size w X) (fun i _ => l.length - (intOf i).toNat)
  case atStart => exact ⟨0, rfl, Nat.zero_le _, Lib.hid (fun j hj => absurd hj (by omega)), Below.refl _ _⟩
  case round =>
    obtain ⟨k, rfl, hk, HA, hb⟩ := hrel
    rename World => X
    by_cases hlt : k < l.length
    · obtain ⟨b, off, rfl, hbk⟩ := hs.addr (by omega)
      have c0 := (hs.below hb).c0 k hlt
      have c1 := (hs.below hb).c1 k hlt
      have c2 := (hs.below hb).c2 k hlt
      have hcall := r33Valid_c (va l k).1 (va l k).2.1 (va l k).2.2 X
      have hfd : vB (va l k) = false → rowB l = false := fun h => by
        unfold rowB
        rw [Bool.eq_false_iff]
        intro h2
        have h3 := List.all_eq_true.1 h2 _ (va_mem hlt)
        rw [h] at h3
        cases h3
      have hst : vB (va l k) = true → ∀ j, j < k + 1 → vB (va l j) = true := fun h j hj => by
        rcases Nat.eq_or_lt_of_le (show j ≤ k by omega) with e | e
        · rw [e]; exact h
        · exact HA.out j e
      have ee : ((va l k).1, (va l k).2.1, (va l k).2.2) = va l k := rfl
      rw [ee] at hcall
      generalize vB (va l k) = z at hcall hfd hst
      have Hlt := Lib.hid hlt; have Hb := Lib.hid hb
      clear ee hb hbk
      cases z
      · have Hcall := Lib.hid hcall
        have Hfd := Lib.hid (hfd rfl)
        clear hcall hst hfd
        go_wp2_with fail
        refine Hcall.out.mono ?_
        rintro e w2 ⟨rfl, hb2⟩
        have Hb3 := Lib.hid (Hb.out.trans (hb2.mono Hb.out.size))
        clear hb2
        go_wp2_with fail
        go_ret
        exact ⟨by rw [Hfd.out]; rfl, Hb3.out⟩
      · have Hcall := Lib.hid hcall
        have Hst := Lib.hid (hst rfl)
        clear hcall hst hfd
        go_wp2_with fail
        refine Hcall.out.mono ?_
        rintro e w2 ⟨rfl, hb2⟩
        have Hb3 := Lib.hid (Hb.out.trans (hb2.mono Hb.out.size))
        clear hb2
        go_wp2_with fail
        go_roundw
        case rel => exact ⟨k + 1, by go_num, Hlt.out, Hst, Hb3.out⟩
        case measure => have := Hlt.out; simp [intOf]; omega
    · obtain rfl : k = l.length := by omega
      have Hr : Hid (rowB l = true) := Lib.hid (by
        unfold rowB
        rw [List.all_eq_true]
        intro x hx
        obtain ⟨i, hi, rfl⟩ := List.getElem_of_mem hx
        rw [va_at hi]
        exact HA.out i hi)
      clear HA
      go_wp2_with fail
      go_ret
      exact ⟨by rw [Hr.out]; rfl, hb⟩
set_option maxRecDepth 100000 in
set_option maxHeartbeats 4000000 in
theorem r39Valid_c (v : Value) (F : List Fct) (w : World) (hs : IsFs w v F) : Calls Tryz.prog 18 #[v] w (Ret w (.bool (validF F))) := by
  obtain ⟨S, hs⟩ := hs
  obtain ⟨A, c, rfl, hnc, hc⟩ := hs.form
  cases g0 : decide ((1000 : Int) < (F.length : Int))
  rotate_left
  · rw [show validF F = false from by unfold validF; simp at g0; rw [decide_eq_false (by omega)]; rfl]
    go_enter Tryz.func18, Tryz.ntmps18
    go_wp2_with fail
    go_ret
    exact ⟨rfl, Below.refl _ _⟩
  have hl : F.length ≤ 1000 := by simp at g0; omega
  have HL := Lib.hid hl
  clear hl
  obtain ⟨R, hR⟩ : ∃ R, R = validF F := ⟨_, rfl⟩
  rw [← hR]
  have HR := Lib.hid hR
  clear hR
  go_enter Tryz.func18, Tryz.ntmps18
  go_wp2_with fail
  try go_frame
  go_loopw [3] (fun i X => ∃ k : Nat, i = .int .i64 (k : Int) ∧ k ≤ F.length ∧ Hid (∀ j, j < k → okFct (row0 F) (fc F j) = true) ∧ Below w.heap.size w X) (fun i _ => F.length - (intOf i).toNat)
  case atStart => exact ⟨0, rfl, Nat.zero_le _, Lib.hid fun j hj => absurd hj (by omega), Below.refl _ _⟩
  case round =>
    obtain ⟨k, rfl, hk, HK, hb⟩ := hrel
    rename World => X
    by_cases hlt : k < F.length
    · obtain ⟨b, off, rfl, hbl⟩ := hs.addr (by omega)
      have hF0 : 0 < F.length := by omega
      have hF1 : 1 ≤ F.length := by omega
      obtain ⟨Ar, cr, hSr, hnr, hcr⟩ := (hs.2 k hlt).form
      obtain ⟨A0, q0, hS0, hn0, hc0⟩ := (hs.2 0 hF0).form
      obtain ⟨f, hf⟩ : ∃ f, f = fc F k := ⟨_, rfl⟩
      obtain ⟨r0, hr0e⟩ : ∃ r, r = (fc F 0).1 := ⟨_, rfl⟩
      have HC : Hid (∀ Y, Below w.heap.size w Y → Y.cell? ⟨b, off + k * 3, none⟩ = some (.slice Ar f.1.length cr) ∧ Y.cell? ⟨b, off + k * 3 + 1, none⟩ = some (.int .i64 f.2.1) ∧ Y.cell? ⟨b, off + k * 3 + 2, none⟩ = some (.int .i64 f.2.2) ∧ Y.cell? ⟨b, off, none⟩ = some (.slice A0 r0.length q0) ∧ IsVals Y (.slice Ar f.1.length cr) f.1 ∧ IsVals Y (.slice A0 r0.length q0) r0) := Lib.hid fun Y hY => by
        have hin := hs.below hY
        have c0 := hin.c0 k hlt
        have d0 := hin.c0 0 hF0
        simp only [Nat.zero_mul, Nat.add_zero] at d0
        have hr := hin.2 k hlt
        have hr0 := hin.2 0 hF0
        rw [hSr] at c0 hr
        rw [hS0] at d0 hr0
        rw [hf, hr0e]
        exact ⟨c0, hin.c1 k hlt, hin.c2 k hlt, d0, hr, hr0⟩
      have HS : Hid (okFct (row0 F) (fc F k) = okFct r0 f) := Lib.hid (by rw [hf, hr0e]; rfl)
      rw [← hf] at hnr
      rw [← hr0e] at hn0
      clear hf hr0e hSr hS0
      obtain ⟨r, s, t⟩ := f
      simp only at HC HS hnr
      obtain ⟨c0, c1, c2, d0, hr, hr0⟩ := HC.out X hb
      have KI : Hid (∀ Y, Calls Tryz.prog 53 #[.agg #[.int .i64 s, .int .i64 t]] Y (Ret Y (.bool (spT (s, t))))) := Lib.hid fun Y => r39Span_c (s, t) Y
      have HBd : Hid (∀ Y : World, Below w.heap.size w Y → okFct r0 (r, s, t) = false → R = false ∧ Below w.heap.size w Y) := Lib.hid fun Y hY h => ⟨by rw [HR.out]; exact valid_not hlt (by rw [HS.out]; exact h), hY⟩
      clear hr hr0
      cases q1 : spT (s, t)
      · have hbad : okFct r0 (r, s, t) = false := by unfold okFct; rw [q1]; rfl
        have HB := Lib.hid hbad
        rw [q1] at KI
        clear q1 hbad
        go_wp2_with fail
        refine (KI.out X).mono ?_
        rintro e Y ⟨rfl, hY⟩
        have hbY := hb.trans (hY.mono hb.size)
        clear hY
        go_wp2_with fail
        go_ret
        obtain ⟨e1, e2⟩ := HBd.out _ hbY HB.out
        exact ⟨by rw [e1]; rfl, e2⟩
      have Hq1 := Lib.hid q1
      rw [q1] at KI
      clear q1
      go_wp2_with fail
      refine (KI.out X).mono ?_
      rintro e Y ⟨rfl, hY⟩
      have hbY := hb.trans (hY.mono hb.size)
      obtain ⟨y0, y1, y2, yd, hr, hr0⟩ := HC.out Y hbY
      clear hY c0 c1 c2 d0
      cases q2 : decide ((r.length : Int) < 1)
      rotate_left
      · have HB : Hid (okFct r0 (r, s, t) = false) := Lib.hid (by unfold okFct; rw [Hq1.out]; simp at q2; simp only; rw [decide_eq_false (by omega)]; rfl)
        go_wp2_with fail
        go_ret
        obtain ⟨e1, e2⟩ := HBd.out _ hbY HB.out
        exact ⟨by rw [e1]; rfl, e2⟩
      have HQ2 := Lib.hid q2
      cases q3 : decide ((8 : Int) < (r.length : Int))
      rotate_left
      · have HB : Hid (okFct r0 (r, s, t) = false) := Lib.hid (by unfold okFct; rw [Hq1.out]; simp at q2 q3; simp only; rw [decide_eq_true (by omega), decide_eq_false (by omega)]; rfl)
        go_wp2_with fail
        go_ret
        obtain ⟨e1, e2⟩ := HBd.out _ hbY HB.out
        exact ⟨by rw [e1]; rfl, e2⟩
      have HQ3 := Lib.hid q3
      cases q4 : ((r.length : Int) == (r0.length : Int))
      · have HB : Hid (okFct r0 (r, s, t) = false) := Lib.hid (by unfold okFct; rw [Hq1.out]; simp at q2 q3 q4; simp only; rw [decide_eq_true (by omega), decide_eq_true (by omega), decide_eq_false (by omega)]; rfl)
        have q5 : ((r.length : Int) != (r0.length : Int)) = true := by rw [bne, q4]; rfl
        go_wp2_with fail
        go_ret
        obtain ⟨e1, e2⟩ := HBd.out _ hbY HB.out
        exact ⟨by rw [e1]; rfl, e2⟩
      have HQ4 := Lib.hid q4
      have q5 : ((r.length : Int) != (r0.length : Int)) = false := by rw [bne, q4]; rfl
      have KA := Lib.hid (r33All_c _ r Y hr)
      cases q6 : rowB r
      · have HB : Hid (okFct r0 (r, s, t) = false) := Lib.hid (by
          unfold okFct colsB
          have : (List.range r.length).all (kindB r0 r) = false := by
            rw [Bool.eq_false_iff]
            intro h
            have h2 : rowB r = true := by
              unfold rowB
              rw [List.all_eq_true]
              intro x hx
              obtain ⟨i, hi, rfl⟩ := List.getElem_of_mem hx
              rw [va_at hi]
              have h3 := List.all_eq_true.1 h i (List.mem_range.2 hi)
              unfold kindB at h3
              simp only [Bool.and_eq_true] at h3
              exact h3.1
            rw [q6] at h2
            cases h2
          simp only
          rw [this, Bool.and_false])
        rw [q6] at KA
        clear q6 hr hr0
        go_wp2_with fail
        refine KA.out.mono ?_
        rintro e Z ⟨rfl, hZ⟩
        have hbZ := hbY.trans (hZ.mono hbY.size)
        clear hZ
        go_wp2_with fail
        go_ret
        obtain ⟨e1, e2⟩ := HBd.out _ hbZ HB.out
        exact ⟨by rw [e1]; rfl, e2⟩
      have HQ6 := Lib.hid q6
      rw [q6] at KA
      clear q6 hr hr0
      go_wp2_with fail
      refine KA.out.mono ?_
      rintro e Z ⟨rfl, hZ⟩
      have hbZ := hbY.trans (hZ.mono hbY.size)
      clear hZ y0 y1 y2 yd
      have hlq : r.length = r0.length := by have := beq_iff_eq.1 HQ4.out; omega
      have Hlq := Lib.hid hlq
      clear hlq q2 q3 q4 q5
      go_wp2_with fail
      try go_frame
      go_loopw [5] (fun i Y2 => ∃ m : Nat, i = .int .i64 (m : Int) ∧ m ≤ r.length ∧ Hid (∀ j, j < m → (va r j).1 = (va r0 j).1) ∧ Below w.heap.size w Y2) (fun i _ => r.length - (intOf i).toNat)
      case atStart => exact ⟨0, rfl, Nat.zero_le _, Lib.hid fun j hj => absurd hj (by omega), hbZ⟩
      case round =>
        obtain ⟨m, rfl, hm, HM, hbY2⟩ := hrel
        rename World => Y2
        by_cases hmt : m < r.length
        · obtain ⟨c0, c1, c2, d0, hr, hr0⟩ := HC.out Y2 hbY2
          have hmr0 : m < r0.length := by have := Hlq.out; omega
          obtain ⟨ba, oa, rfl, hba⟩ := hr.addr (by omega)
          obtain ⟨bz, oz, rfl, hbz⟩ := hr0.addr (by omega)
          have k0 := hr.c0 m hmt
          have z0 := hr0.c0 m hmr0
          have HT : Hid (∀ j, j < m + 1 → (va r m).1 = (va r0 m).1 → j < m + 1 → (va r j).1 = (va r0 j).1) := Lib.hid fun j hj h _ => by
            rcases Nat.lt_or_ge j m with e | e
            · exact HM.out j e
            · obtain rfl : j = m := by omega
              exact h
          have HKd : Hid ((va r m).1 ≠ (va r0 m).1 → kindB r0 r m = false) := Lib.hid fun h => by unfold kindB; rw [decide_eq_false h, Bool.and_false]
          generalize (va r m).1 = x at *
          generalize (va r0 m).1 = y at *
          clear hr hr0 c1 c2
          cases p2 : (x == y)
          · have HB : Hid (okFct r0 (r, s, t) = false) := Lib.hid (by
              unfold okFct colsB
              simp only
              rw [range_not hmt (HKd.out (by simpa using p2)), Bool.and_false])
            have p5 : (x != y) = true := by rw [bne, p2]; rfl
            go_wp2_with fail
            go_quiet (fail)
            have hbq : Below w.heap.size w (Y2.drewN nq) := hbY2.trans (below_grow Y2 nq #[] |> fun h => by simpa [Go.Sort.grow_empty] using h.mono hbY2.size)
            clear c0 d0 k0 z0
            go_wp2_with fail
            go_ret
            obtain ⟨e1, e2⟩ := HBd.out _ hbq HB.out
            exact ⟨by rw [e1]; rfl, e2⟩
          · have he : x = y := eq_of_beq p2
            have HE := Lib.hid he
            have p5 : (x != y) = false := by rw [bne, p2]; rfl
            clear he
            go_wp2_with fail
            go_quiet (fail)
            have hbq : Below w.heap.size w (Y2.drewN nq) := hbY2.trans (below_grow Y2 nq #[] |> fun h => by simpa [Go.Sort.grow_empty] using h.mono hbY2.size)
            clear c0 d0 k0 z0
            go_wp2_with fail
            go_roundw
            case rel => exact ⟨m + 1, by go_num, hmt, Lib.hid (fun j hj => HT.out j hj HE.out hj), hbq⟩
            case measure => simp [intOf]; omega
        · obtain rfl : m = r.length := by omega
          have HF : Hid (okFct (row0 F) (fc F k) = true) := Lib.hid (by
            rw [HS.out]
            unfold okFct colsB
            simp only
            have hall : (List.range r.length).all (kindB r0 r) = true := range_all fun i hi => by
              unfold kindB
              rw [decide_eq_true (HM.out i hi), Bool.and_true]
              exact List.all_eq_true.1 HQ6.out _ (va_mem hi)
            rw [hall, Hq1.out]
            have h2 := HQ2.out; have h3 := HQ3.out
            simp at h2 h3
            rw [decide_eq_true (by omega), decide_eq_true (by omega), decide_eq_true Hlq.out]
            rfl)
          go_wp2_with fail
          go_roundw
          case rel => exact ⟨k + 1, by go_num, hlt, Lib.hid (fun j hj => by
            rcases Nat.lt_or_ge j k with e | e
            · exact HK.out j e
            · obtain rfl : j = k := by omega
              exact HF.out), hbY2⟩
          case measure => simp [intOf]; omega
    · obtain rfl : k = F.length := by omega
      have hv := valid_yes HL.out HK.out
      rw [← HR.out] at hv
      subst hv
      go_wp2_with fail
      go_ret
      exact ⟨rfl, hb⟩
end Go.Proofs.YtohjgegnamcnlaaGreat
