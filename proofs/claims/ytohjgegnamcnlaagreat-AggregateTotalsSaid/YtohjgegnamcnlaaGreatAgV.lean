/- Law 39: when a list of facts is valid. -/
import Derived.Test.YtohjgegnamcnlaaGreatZaa
namespace Go.Proofs.YtohjgegnamcnlaaGreat
open Go.RowKit Go.Shelf

def spT (s : Sp) : Bool := decide (-62135596800 ≤ s.1) && decide (s.1 < s.2) && decide (s.2 ≤ 253402300800)
theorem aisSpan_c (s : Sp) (w : World) : Calls Tryz.prog 49 #[.agg #[.int .i64 s.1, .int .i64 s.2]] w (Ret w (.bool (spT s))) := by
  obtain ⟨a, b⟩ := s
  unfold spT
  simp only
  cases h1 : decide (-62135596800 ≤ a) <;> cases h2 : decide (a < b) <;> cases h3 : decide (b ≤ 253402300800)
  all_goals
    have hb := (Below.refl w.heap.size w).alloc (Nat.le_refl _) (.cells #[.int .i64 a, .int .i64 b] 34)
    have Hb := Lib.hid hb; clear hb
    go_enter Tryz.func49, Tryz.ntmps49
    go_wp2_with fail
    go_ret
    exact ⟨rfl, Hb.out⟩
def kindB (r0 r : VRow) (k : Nat) : Bool := vB (va r k) && decide ((va r k).1 = (va r0 k).1)
def colsB (r0 r : VRow) : Bool := (List.range r.length).all (kindB r0 r)
def okFct (r0 : VRow) (f : Fct) : Bool := spT f.2 && decide (1 ≤ f.1.length) && decide (f.1.length ≤ 8) && decide (f.1.length = r0.length) && colsB r0 f.1
def row0 (F : List Fct) : VRow := (fc F 0).1
def validF (F : List Fct) : Bool := decide (F.length ≤ 1000) && F.all (okFct (row0 F))
theorem range_all {n : Nat} {p : Nat → Bool} (h : ∀ i, i < n → p i = true) : (List.range n).all p = true := List.all_eq_true.2 fun i hi => h i (List.mem_range.1 hi)
theorem range_not {n i : Nat} {p : Nat → Bool} (hi : i < n) (h : p i = false) : (List.range n).all p = false := by
  rw [Bool.eq_false_iff]
  intro h2
  have h3 := List.all_eq_true.1 h2 i (List.mem_range.2 hi)
  rw [h] at h3
  cases h3
theorem valid_not {F : List Fct} {i : Nat} (hi : i < F.length) (h : okFct (row0 F) (fc F i) = false) : validF F = false := by
  unfold validF
  have : F.all (okFct (row0 F)) = false := by
    rw [Bool.eq_false_iff]
    intro h2
    have h3 := List.all_eq_true.1 h2 _ (fc_mem hi)
    rw [h] at h3
    cases h3
  rw [this, Bool.and_false]
theorem valid_yes {F : List Fct} (hl : F.length ≤ 1000) (h : ∀ i, i < F.length → okFct (row0 F) (fc F i) = true) : validF F = true := by
  unfold validF
  rw [decide_eq_true hl, Bool.true_and, List.all_eq_true]
  intro x hx
  obtain ⟨i, hi, rfl⟩ := List.getElem_of_mem hx
  rw [fc_at hi]
  exact h i hi
set_option maxRecDepth 100000 in
set_option maxHeartbeats 4000000 in
theorem avalid_c (v : Value) (F : List Fct) (w : World) (hs : IsFs w v F) (hn : F.length < 1000000000) : Calls Tryz.prog 30 #[v] w (Ret w (.bool (validF F))) := by
  obtain ⟨S, hs⟩ := hs
  obtain ⟨A, c, rfl, hnc, hc⟩ := hs.form
  cases g0 : decide ((1000 : Int) < (F.length : Int))
  rotate_left
  · rw [show validF F = false from by unfold validF; simp at g0; rw [decide_eq_false (by omega)]; rfl]
    go_enter Tryz.func30, Tryz.ntmps30
    go_wp2_with fail
    go_ret
    exact ⟨rfl, Below.refl _ _⟩
  have hl : F.length ≤ 1000 := by simp at g0; omega
  have HL := Lib.hid hl
  clear hl hn
  obtain ⟨R, hR⟩ : ∃ R, R = validF F := ⟨_, rfl⟩
  rw [← hR]
  have HR := Lib.hid hR
  clear hR
  go_enter Tryz.func30, Tryz.ntmps30
  go_wp2_with fail
  try go_frame
  go_loopw [12] (fun i X => ∃ k : Nat, i = .int .i64 (k : Int) ∧ k ≤ F.length ∧ Hid (∀ j, j < k → okFct (row0 F) (fc F j) = true) ∧ Below w.heap.size w X) (fun i _ => F.length - (intOf i).toNat)
  case atStart => exact ⟨0, rfl, Nat.zero_le _, Lib.hid fun j hj => absurd hj (by omega), Below.refl _ _⟩
  case round =>
    obtain ⟨k, rfl, hk, HK, hb⟩ := hrel
    rename World => X
    by_cases hlt : k < F.length
    · obtain ⟨b, off, rfl, hbl⟩ := hs.addr (by omega)
      have hin := hs.below hb
      have c0 := hin.c0 k hlt
      have c1 := hin.c1 k hlt
      have c2 := hin.c2 k hlt
      have d0 := hin.c0 0 (by omega)
      simp only [Nat.zero_mul, Nat.add_zero] at d0
      have hr := hin.2 k hlt
      have hr0 := hin.2 0 (by omega)
      obtain ⟨Ar, cr, hSr, hnr, hcr⟩ := hr.form
      obtain ⟨A0, q0, hS0, hn0, hc0⟩ := hr0.form
      rw [hSr] at c0 hr
      rw [hS0] at d0 hr0
      clear hSr hS0
      have hbX : b < X.heap.size := Nat.lt_of_lt_of_le hbl hb.size
      obtain ⟨f, hf⟩ : ∃ f, f = fc F k := ⟨_, rfl⟩
      obtain ⟨r0, hr0e⟩ : ∃ r, r = (fc F 0).1 := ⟨_, rfl⟩
      rw [← hf] at c0 c1 c2 hr hnr
      rw [← hr0e] at d0 hr0 hn0
      have HS : Hid (okFct (row0 F) (fc F k) = okFct r0 f) := Lib.hid (by rw [hf, hr0e]; rfl)
      clear hf hr0e
      go_wp2_with fail
      obtain ⟨r, s, t⟩ := f
      simp only at c0 c1 c2 hr hnr
      have hb3 : Below w.heap.size w (X.alloc (.cells #[.slice Ar r.length cr, .int .i64 s, .int .i64 t] 49)) := hb.alloc hb.size _
      have hd3 := (((Below.refl X.heap.size X).alloc (Nat.le_refl _) (.cells #[.slice Ar r.length cr, .int .i64 s, .int .i64 t] 49)).cell (p := ⟨b, off, none⟩) hbX).trans d0
      have hr3 := hr.below ((Below.refl X.heap.size X).alloc (Nat.le_refl _) (.cells #[.slice Ar r.length cr, .int .i64 s, .int .i64 t] 49))
      have hr03 := hr0.below ((Below.refl X.heap.size X).alloc (Nat.le_refl _) (.cells #[.slice Ar r.length cr, .int .i64 s, .int .i64 t] 49))
      have hbk := heap_alloc_new X (.cells #[.slice Ar r.length cr, .int .i64 s, .int .i64 t] 49)
      have hq3 : X.heap.size < (X.alloc (.cells #[.slice Ar r.length cr, .int .i64 s, .int .i64 t] 49)).heap.size := by simp
      have hb4 : b < (X.alloc (.cells #[.slice Ar r.length cr, .int .i64 s, .int .i64 t] 49)).heap.size := by simp; omega
      generalize X.alloc (.cells #[.slice Ar r.length cr, .int .i64 s, .int .i64 t] 49) = W3 at *
      clear c0 c1 c2 d0 hr hr0 hin
      have e0 := fun x : BW W3 => bw_cell x (blk_get hbk 0) hq3
      have e1 := fun x : BW W3 => bw_cell x (blk_get hbk 1) hq3
      have e2 := fun x : BW W3 => bw_cell x (blk_get hbk 2) hq3
      have e3 := fun x : BW W3 => bw_cell x hd3 hb4
      simp at e0 e1 e2
      have KI : Hid (∀ Y, Calls Tryz.prog 49 #[.agg #[.int .i64 s, .int .i64 t]] Y (Ret Y (.bool (spT (s, t))))) := Lib.hid fun Y => aisSpan_c (s, t) Y
      have Hbk := Lib.hid hbk; have Hd3 := Lib.hid hd3
      clear hbk hd3
      cases q1 : spT (s, t)
      · have HBAD : Hid (R = false) := Lib.hid (by rw [HR.out]; exact valid_not hlt (by rw [HS.out]; unfold okFct; rw [q1]; rfl))
        rw [q1] at KI
        clear q1
        refine wp_region_below (by kernel_rfl) (by kernel_rfl) ?_
        repeat (go_big_quiet_step ((go_at_call 49; exact calls_bw _ (KI.out _))))
        refine wpQuiet_nil ?_
        rintro w5 ⟨⟨_, hb5⟩, rfl⟩
        clear e0 e1 e2 e3
        have Hb5 := Lib.hid (hb3.trans (hb5.mono hb3.size))
        clear hb5
        go_wp2_with fail
        go_ret
        exact ⟨by rw [HBAD.out]; rfl, Hb5.out⟩
      have hq1 := q1
      rw [q1] at KI
      clear q1
      have Hq1 := Lib.hid hq1
      clear hq1
      cases q2 : decide ((r.length : Int) < 1)
      rotate_left
      · have HBAD : Hid (R = false) := Lib.hid (by rw [HR.out]; exact valid_not hlt (by rw [HS.out]; unfold okFct; rw [Hq1.out]; simp at q2; simp only; rw [decide_eq_false (by omega)]; rfl))
        refine wp_region_below (by kernel_rfl) (by kernel_rfl) ?_
        repeat (go_big_quiet_step ((go_at_call 49; exact calls_bw _ (KI.out _))))
        refine wpQuiet_nil ?_
        rintro w5 ⟨⟨_, hb5⟩, rfl⟩
        clear e0 e1 e2 e3
        have Hb5 := Lib.hid (hb3.trans (hb5.mono hb3.size))
        clear hb5
        go_wp2_with fail
        go_ret
        exact ⟨by rw [HBAD.out]; rfl, Hb5.out⟩
      have HQ2 := Lib.hid q2
      cases q3 : decide ((8 : Int) < (r.length : Int))
      rotate_left
      · have HBAD : Hid (R = false) := Lib.hid (by rw [HR.out]; exact valid_not hlt (by rw [HS.out]; unfold okFct; rw [Hq1.out]; simp at q2 q3; simp only; rw [decide_eq_true (by omega), decide_eq_false (by omega)]; rfl))
        refine wp_region_below (by kernel_rfl) (by kernel_rfl) ?_
        repeat (go_big_quiet_step ((go_at_call 49; exact calls_bw _ (KI.out _))))
        refine wpQuiet_nil ?_
        rintro w5 ⟨⟨_, hb5⟩, rfl⟩
        clear e0 e1 e2 e3
        have Hb5 := Lib.hid (hb3.trans (hb5.mono hb3.size))
        clear hb5
        go_wp2_with fail
        go_ret
        exact ⟨by rw [HBAD.out]; rfl, Hb5.out⟩
      have HQ3 := Lib.hid q3
      cases q4 : ((r.length : Int) == (r0.length : Int))
      · have HBAD : Hid (R = false) := Lib.hid (by rw [HR.out]; exact valid_not hlt (by rw [HS.out]; unfold okFct; rw [Hq1.out]; simp at q2 q3 q4; simp only; rw [decide_eq_true (by omega), decide_eq_true (by omega), decide_eq_false (by omega)]; rfl))
        have q5 : ((r.length : Int) != (r0.length : Int)) = true := by rw [bne, q4]; rfl
        refine wp_region_below (by kernel_rfl) (by kernel_rfl) ?_
        repeat (go_big_quiet_step ((go_at_call 49; exact calls_bw _ (KI.out _))))
        refine wpQuiet_nil ?_
        rintro w5 ⟨⟨_, hb5⟩, rfl⟩
        clear e0 e1 e2 e3
        have Hb5 := Lib.hid (hb3.trans (hb5.mono hb3.size))
        clear hb5
        go_wp2_with fail
        go_ret
        exact ⟨by rw [HBAD.out]; rfl, Hb5.out⟩
      have HQ4 := Lib.hid q4
      have q5 : ((r.length : Int) != (r0.length : Int)) = false := by rw [bne, q4]; rfl
      refine wp_region_below (by kernel_rfl) (by kernel_rfl) ?_
      repeat (go_big_quiet_step ((go_at_call 49; exact calls_bw _ (KI.out _))))
      refine wpQuiet_nil ?_
      rintro w5 ⟨⟨_, hb5⟩, rfl⟩
      clear e0 e1 e2 e3 q2 q3 q4 q5
      have hb6 := hb3.trans (hb5.mono hb3.size)
      have c0 := (hb5.cell (p := ⟨X.heap.size, 0, none⟩) hq3).trans (blk_get Hbk.out 0)
      simp at c0
      have d0 := (hb5.cell (p := ⟨b, off, none⟩) hb4).trans Hd3.out
      have hr5 := hr3.below hb5
      have hr05 := hr03.below hb5
      have hq5 : X.heap.size < w5.heap.size := Nat.lt_of_lt_of_le hq3 hb5.size
      have hbq5 : b < w5.heap.size := Nat.lt_of_lt_of_le hb4 hb5.size
      go_wp2_with fail
      have hlq : r.length = r0.length := by have := beq_iff_eq.1 HQ4.out; omega
      try go_frame
      go_loopw [46] (fun i Y => ∃ m : Nat, i = .int .i64 (m : Int) ∧ m ≤ r.length ∧ Hid (∀ j, j < m → kindB r0 r j = true) ∧ Below w5.heap.size w5 Y) (fun i _ => r.length - (intOf i).toNat)
      case atStart => exact ⟨0, rfl, Nat.zero_le _, Lib.hid fun j hj => absurd hj (by omega), Below.refl _ _⟩
      case round =>
        obtain ⟨m, rfl, hm, HM, hbY⟩ := hrel
        rename World => Y
        by_cases hmt : m < r.length
        · obtain ⟨ba, oa, rfl, hba⟩ := hr5.addr (by omega)
          obtain ⟨bz, oz, rfl, hbz⟩ := hr05.addr (by omega)
          have c0 := (hr5.below hbY).c0 m hmt
          have c1 := (hr5.below hbY).c1 m hmt
          have c2 := (hr5.below hbY).c2 m hmt
          have z0 := (hr05.below hbY).c0 m (by omega)
          have d0 := (hbY.cell (p := ⟨b, off, none⟩) hbq5).trans d0
          have HKB : Hid (kindB r0 r m = (vB (va r m) && decide ((va r m).1 = (va r0 m).1))) := Lib.hid rfl
          have hmr0 : m < r0.length := by omega
          obtain ⟨⟨vk, vn, vs⟩, hv⟩ : ∃ v, v = va r m := ⟨_, rfl⟩
          obtain ⟨zk, hz⟩ : ∃ v, v = (va r0 m).1 := ⟨_, rfl⟩
          rw [← hv] at c0 c1 c2 HKB
          rw [← hz] at z0 HKB
          simp only at c0 c1 c2 HKB
          clear hv hz
          go_wp2_with fail
          have hb8 : Below w.heap.size w (Y.alloc (.cells #[.int .i64 vk, .int .i64 vn, .string vs] 51)) := (hb6.trans (hbY.mono hb6.size)).alloc (Nat.le_trans hb6.size hbY.size) _
          have hbA := (Below.refl Y.heap.size Y).alloc (Nat.le_refl _) (.cells #[.int .i64 vk, .int .i64 vn, .string vs] 51)
          have hby : b < Y.heap.size := Nat.lt_of_lt_of_le hbq5 hbY.size
          have hzy : bz < Y.heap.size := Nat.lt_of_lt_of_le hbz hbY.size
          have d1 := (hbA.cell (p := ⟨b, off, none⟩) hby).trans d0
          have z1 := (hbA.cell (p := ⟨bz, oz + m * 3, none⟩) hzy).trans z0
          have hbk := heap_alloc_new Y (.cells #[.int .i64 vk, .int .i64 vn, .string vs] 51)
          have hq8 : Y.heap.size < (Y.alloc (.cells #[.int .i64 vk, .int .i64 vn, .string vs] 51)).heap.size := by simp
          have hby8 : b < (Y.alloc (.cells #[.int .i64 vk, .int .i64 vn, .string vs] 51)).heap.size := by simp; omega
          have hzy8 : bz < (Y.alloc (.cells #[.int .i64 vk, .int .i64 vn, .string vs] 51)).heap.size := by simp; omega
          have HBY8 : Hid (Below w5.heap.size w5 (Y.alloc (.cells #[.int .i64 vk, .int .i64 vn, .string vs] 51))) := Lib.hid (hbY.alloc hbY.size _)
          generalize Y.alloc (.cells #[.int .i64 vk, .int .i64 vn, .string vs] 51) = W8 at *
          clear c0 c1 c2 d0 z0 hbA
          have e0 := fun x : BW W8 => bw_cell x (blk_get hbk 0) hq8
          have e1 := fun x : BW W8 => bw_cell x (blk_get hbk 1) hq8
          have e2 := fun x : BW W8 => bw_cell x (blk_get hbk 2) hq8
          have e3 := fun x : BW W8 => bw_cell x d1 hby8
          have e4 := fun x : BW W8 => bw_cell x z1 hzy8
          have e5 : True := trivial
          simp at e0 e1 e2
          clear hbk d1 z1
          have KV : Hid (∀ Y, Calls Tryz.prog 69 #[.agg #[.int .i64 vk, .int .i64 vn, .string vs]] Y (Ret Y (.bool (vB (vk, vn, vs))))) := Lib.hid fun Y => (vValid_c vk vn vs Y).mono fun _ _ ⟨he, hw⟩ => ⟨he, gw_below hw⟩
          cases p1 : vB (vk, vn, vs)
          · have HBAD : Hid (R = false) := Lib.hid (by rw [HR.out]; exact valid_not hlt (by rw [HS.out]; unfold okFct colsB; simp only; rw [range_not hmt (by rw [HKB.out, p1]; rfl), Bool.and_false]))
            rw [p1] at KV
            clear p1
            refine wp_region_below (by kernel_rfl) (by kernel_rfl) ?_
            repeat (go_big_quiet_step ((go_at_call 69; exact calls_bw _ (KV.out _))))
            refine wpQuiet_nil ?_
            rintro w7 ⟨⟨_, hb7⟩, rfl⟩
            clear e0 e1 e2 e3 e4 e5
            have Hb7 := Lib.hid (hb8.trans (hb7.mono hb8.size))
            clear hb7
            go_wp2_with fail
            go_ret
            exact ⟨by rw [HBAD.out]; rfl, Hb7.out⟩
          have Hp1 := Lib.hid p1
          rw [p1] at KV
          clear p1
          cases p2 : (vk == zk)
          · have HBAD : Hid (R = false) := Lib.hid (by rw [HR.out]; exact valid_not hlt (by rw [HS.out]; unfold okFct colsB; simp only; rw [range_not hmt (by rw [HKB.out, decide_eq_false (by simpa using p2), Bool.and_false]), Bool.and_false]))
            have p5 : (vk != zk) = true := by rw [bne, p2]; rfl
            refine wp_region_below (by kernel_rfl) (by kernel_rfl) ?_
            repeat (go_big_quiet_step ((go_at_call 69; exact calls_bw _ (KV.out _))))
            refine wpQuiet_nil ?_
            rintro w7 ⟨⟨_, hb7⟩, rfl⟩
            clear e0 e1 e2 e3 e4 e5
            have Hb7 := Lib.hid (hb8.trans (hb7.mono hb8.size))
            clear hb7
            go_wp2_with fail
            go_ret
            exact ⟨by rw [HBAD.out]; rfl, Hb7.out⟩
          have HKB2 : Hid (kindB r0 r m = true) := Lib.hid (by rw [HKB.out, Hp1.out, decide_eq_true (by simpa using p2)]; rfl)
          have p5 : (vk != zk) = false := by rw [bne, p2]; rfl
          refine wp_region_below (by kernel_rfl) (by kernel_rfl) ?_
          repeat (go_big_quiet_step ((go_at_call 69; exact calls_bw _ (KV.out _))))
          refine wpQuiet_nil ?_
          rintro w7 ⟨⟨_, hb7⟩, rfl⟩
          clear e0 e1 e2 e3 e4 e5 p2 p5
          have hbY7 := HBY8.out.trans (hb7.mono HBY8.out.size)
          go_wp2_with fail
          go_roundw
          case rel => exact ⟨m + 1, by go_num, hmt, Lib.hid (fun j hj => by
            rcases Nat.lt_or_ge j m with e | e
            · exact HM.out j e
            · obtain rfl : j = m := by omega
              exact HKB2.out), hbY7⟩
          case measure => simp [intOf]; omega
        · obtain rfl : m = r.length := by omega
          have HF : Hid (okFct (row0 F) (fc F k) = true) := Lib.hid (by
            rw [HS.out]
            unfold okFct colsB
            simp only
            rw [range_all HM.out, Hq1.out]
            have h2 := HQ2.out; have h3 := HQ3.out
            simp at h2 h3
            rw [decide_eq_true (by omega), decide_eq_true (by omega), decide_eq_true hlq]
            rfl)
          have hbo := hb6.trans (hbY.mono hb6.size)
          go_wp2_with fail
          go_roundw
          case rel => exact ⟨k + 1, by go_num, hlt, Lib.hid (fun j hj => by
            rcases Nat.lt_or_ge j k with e | e
            · exact HK.out j e
            · obtain rfl : j = k := by omega
              exact HF.out), hbo⟩
          case measure => simp [intOf]; omega
    · obtain rfl : k = F.length := by omega
      have hv := valid_yes HL.out HK.out
      rw [← HR.out] at hv
      subst hv
      go_wp2_with fail
      go_ret
      exact ⟨rfl, hb⟩
/-- aggregate.has -/
def hasB (F : List Fct) (k : Int) : Bool := decide (F.length = 0) || (decide (0 ≤ k) && decide (k < (row0 F).length))
set_option maxRecDepth 100000 in
theorem ahas_c (v : Value) (F : List Fct) (k : Int) (w : World) (hs : IsFs w v F) : Calls Tryz.prog 31 #[v, .int .i64 k] w (Ret w (.bool (hasB F k))) := by
  obtain ⟨S, hs⟩ := hs
  obtain ⟨A, c, rfl, hnc, hc⟩ := hs.form
  unfold hasB
  by_cases h0 : F.length = 0
  · have h1 : ((F.length : Int) == 0) = true := by rw [h0]; rfl
    rw [decide_eq_true h0]
    obtain rfl : F = [] := List.length_eq_zero_iff.1 h0
    clear h0 h1
    go_enter Tryz.func31, Tryz.ntmps31
    go_wp2_with fail
    go_ret
    exact ⟨rfl, Below.refl _ _⟩
  · have h1 : ((F.length : Int) == 0) = false := by simpa using h0
    obtain ⟨b, off, rfl, hbl⟩ := hs.addr (by omega)
    have d0 := hs.c0 0 (by omega)
    simp only [Nat.zero_mul, Nat.add_zero] at d0
    obtain ⟨A0, q0, hS0, hn0, hc0⟩ := (hs.2 0 (by omega)).form
    rw [hS0] at d0
    have hr : (fc F 0).1 = row0 F := rfl
    rw [hr] at d0 hn0
    rw [decide_eq_false h0]
    have hk1 : 1 ≤ F.length := by omega
    have hk2 : 0 < F.length := by omega
    have hk3 : (0 : Int) < (F.length : Int) := by omega
    cases q1 : decide (0 ≤ k) <;> cases q2 : decide (k < ((row0 F).length : Int))
    all_goals
      go_enter Tryz.func31, Tryz.ntmps31
      go_wp2_with fail
      go_ret
      exact ⟨rfl, Below.refl _ _⟩
end Go.Proofs.YtohjgegnamcnlaaGreat
