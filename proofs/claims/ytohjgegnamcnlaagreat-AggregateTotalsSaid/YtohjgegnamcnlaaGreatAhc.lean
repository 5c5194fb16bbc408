/- Law 39: aggregate.Group: the walk. -/
import Derived.Test.YtohjgegnamcnlaaGreatAgI
import Derived.Test.YtohjgegnamcnlaaGreatAhb
namespace Go.Proofs.YtohjgegnamcnlaaGreat
open Go.RowKit Go.Shelf

theorem spec_bad {F : List Fct} {ks : List Int} {fn colI : Int} {w' : World} (h : bad1 F fn colI = true) : GrpSpec F ks fn colI 1 (.slice none 0 0) w' := by unfold GrpSpec; rw [if_pos h]; exact ⟨rfl, rfl⟩
theorem spec_nil {F : List Fct} {ks : List Int} {fn colI : Int} {w' : World} (h : bad1 F fn colI = false) (h0 : F.length = 0) : GrpSpec F ks fn colI 0 (.slice none 0 0) w' := by unfold GrpSpec; rw [if_neg (by rw [h]; decide), if_pos h0]; exact ⟨rfl, rfl⟩
theorem spec_key {F : List Fct} {ks : List Int} {fn colI : Int} {w' : World} (h : bad1 F fn colI = false) (h0 : F.length ≠ 0) (h1 : keyedB (row0 F).length ks = false) : GrpSpec F ks fn colI 1 (.slice none 0 0) w' := by unfold GrpSpec; rw [if_neg (by rw [h]; decide), if_neg h0, if_pos h1]; exact ⟨rfl, rfl⟩
theorem spec_full {F : List Fct} {ks : List Int} {fn colI : Int} {w' : World} (h : bad1 F fn colI = false) (h0 : F.length ≠ 0) (h1 : keyedB (row0 F).length ks = true) (h2 : 8 ≤ ks.length) : GrpSpec F ks fn colI 5 (.slice none 0 0) w' := by unfold GrpSpec; rw [if_neg (by rw [h]; decide), if_neg h0, if_neg (by rw [h1]; decide), if_pos h2]; exact ⟨rfl, rfl⟩
theorem spec_type {F : List Fct} {ks : List Int} {fn colI : Int} {w' : World} (h : bad1 F fn colI = false) (h0 : F.length ≠ 0) (h1 : keyedB (row0 F).length ks = true) (h2 : ¬ 8 ≤ ks.length) (h3 : fn = 2 ∧ (va (row0 F) colI.toNat).1 ≠ 1) : GrpSpec F ks fn colI 13 (.slice none 0 0) w' := by unfold GrpSpec; rw [if_neg (by rw [h]; decide), if_neg h0, if_neg (by rw [h1]; decide), if_neg h2, if_pos h3]; exact ⟨rfl, rfl⟩
theorem spec_out {F : List Fct} {ks : List Int} {fn colI : Int} {c : Int} {v : Value} {w' : World} (h : bad1 F fn colI = false) (h0 : F.length ≠ 0) (h1 : keyedB (row0 F).length ks = true) (h2 : ¬ 8 ≤ ks.length) (h3 : ¬ (fn = 2 ∧ (va (row0 F) colI.toNat).1 ≠ 1)) (ho : GrpOut F ks fn colI c v w') : GrpSpec F ks fn colI c v w' := by unfold GrpSpec; rw [if_neg (by rw [h]; decide), if_neg h0, if_neg (by rw [h1]; decide), if_neg h2, if_neg h3]; exact ho
theorem has_col {F : List Fct} {colI : Int} (h0 : F.length ≠ 0) (h : hasB F colI = true) : 0 ≤ colI ∧ colI < ((row0 F).length : Int) := by
  unfold hasB at h
  rw [decide_eq_false h0, Bool.false_or] at h
  simpa using h
theorem keyed_in {n0 : Nat} {ks : List Int} (h : keyedB n0 ks = true) : keysIn n0 ks := fun k hk => by
  obtain ⟨i, hi, rfl⟩ := List.getElem_of_mem hk
  rw [iv_at hi]
  have := List.all_eq_true.1 h i (List.mem_range.2 hi)
  unfold keyB at this
  simp only [Bool.and_eq_true, decide_eq_true_eq] at this
  exact this.1
/-- What is known of proper arguments. -/
theorem grpE_of {F : List Fct} {S : Nat → Value} {ks : List Int} {fn colI : Int} {w : World} {v vk : Value} (hs : FsIn w v F S) (hk : IsInts w vk ks) (hv : validF F = true) (hm : MachF F) (h0 : F.length ≠ 0) (f1 : decide (fn < 1) = false) (f2 : decide (4 < fn) = false) (hc : (fn == 1) = true ∨ ((fn == 1) = false ∧ hasB F colI = true)) (hky : keyedB (row0 F).length ks = true) (h8 : ¬ 8 ≤ ks.length) :
    GrpE F S (row0 F).length ks fn colI w.heap.size w v vk := by
  obtain ⟨hl, hr⟩ := valid_rows hv
  have h00 : fc F 0 ∈ F := fc_mem (by omega)
  refine ⟨hs, rfl, fun f hf => ⟨valid_ok hv hm f hf, (hr f hf).1.2.2⟩, ?_, hk, keyed_in hky, by omega, ?_, fun h1 => ?_, fun f hf => (spT_ok (hr f hf).2.1).1, hl⟩
  · have := (hr _ h00).1
    exact ⟨by rw [← this.2.2]; exact this.1, by rw [← this.2.2]; exact this.2.1⟩
  · have g1 := of_decide_eq_false f1
    have g2 := of_decide_eq_false f2
    unfold FnOk
    omega
  · rcases hc with e | ⟨_, e⟩
    · exact absurd (eq_of_beq e) h1
    · have := has_col h0 e
      omega
set_option maxRecDepth 100000 in
set_option maxHeartbeats 8000000 in
theorem aGroup_c (v vk : Value) (F : List Fct) (ks : List Int) (fn colI : Int) (w : World) (hs : IsFs w v F) (hk : IsInts w vk ks) (hm : MachF F) (hn : F.length < 1000000000) : Calls Tryz.prog 10 #[v, vk, .int .i64 fn, .int .i64 colI] w (GroupRet F ks fn colI w) := by
  have K1 : Hid (∀ X, Below w.heap.size w X → Calls Tryz.prog 30 #[v] X (Ret X (.bool (validF F)))) := Lib.hid fun X h => avalid_c v F X (hs.below h) hn
  have K2 : Hid (∀ X k, Below w.heap.size w X → Calls Tryz.prog 31 #[v, .int .i64 k] X (Ret X (.bool (hasB F k)))) := Lib.hid fun X k h => ahas_c v F k X (hs.below h)
  obtain ⟨S, hs⟩ := hs
  obtain ⟨A, c, rfl, hnc, hc⟩ := hs.form
  obtain ⟨Ak, ck, rfl, hnk, hck⟩ := hk.form
  obtain ⟨W0, hW0⟩ : ∃ W, W = ((w.alloc (.cells #[.slice Ak ks.length ck] 23)).alloc (.cells #[.int .i64 fn] 3)).alloc (.cells #[.int .i64 colI] 3) := ⟨_, rfl⟩
  have hz1 : (w.alloc (.cells #[.slice Ak ks.length ck] 23)).heap.size = w.heap.size + 1 := by simp
  have hz2 : ((w.alloc (.cells #[.slice Ak ks.length ck] 23)).alloc (.cells #[.int .i64 fn] 3)).heap.size = w.heap.size + 2 := by simp
  have b1 := (Below.refl w.heap.size w).alloc (Nat.le_refl _) (.cells #[.slice Ak ks.length ck] 23)
  have b2 := (Below.refl _ (w.alloc (.cells #[.slice Ak ks.length ck] 23))).alloc (Nat.le_refl _) (.cells #[.int .i64 fn] 3)
  have b3 := (Below.refl _ ((w.alloc (.cells #[.slice Ak ks.length ck] 23)).alloc (.cells #[.int .i64 fn] 3))).alloc (Nat.le_refl _) (.cells #[.int .i64 colI] 3)
  have T0 : BoxAt W0 w.heap.size (.slice Ak ks.length ck) := ⟨23, by
    rw [hW0]
    exact (b3.block _ (by omega)).trans ((b2.block _ (by omega)).trans (heap_alloc_new w _))⟩
  have T1 : BoxAt W0 (w.heap.size + 1) (.int .i64 fn) := ⟨3, by
    rw [hW0]
    refine (b3.block _ (by omega)).trans ?_
    have := heap_alloc_new (w.alloc (.cells #[.slice Ak ks.length ck] 23)) (.cells #[.int .i64 fn] 3)
    rw [hz1] at this
    exact this⟩
  have T2 : BoxAt W0 (w.heap.size + 2) (.int .i64 colI) := ⟨3, by
    rw [hW0]
    have := heap_alloc_new ((w.alloc (.cells #[.slice Ak ks.length ck] 23)).alloc (.cells #[.int .i64 fn] 3)) (.cells #[.int .i64 colI] 3)
    rw [hz2] at this
    exact this⟩
  have hb0 : Below w.heap.size w W0 := by rw [hW0]; exact (b1.trans (b2.mono (by omega))).trans (b3.mono (by omega))
  have hsz0 : w.heap.size + 3 ≤ W0.heap.size := by rw [hW0]; simp
  have HW0 := Lib.hid hW0; have Hm := Lib.hid hm
  clear hW0 b1 b2 b3 hz1 hz2 hm
  have HT0 := Lib.hid T0; have HT1 := Lib.hid T1; have HT2 := Lib.hid T2
  have HB : Hid (∀ X, Below W0.heap.size W0 X → BoxAt X w.heap.size (.slice Ak ks.length ck) ∧ BoxAt X (w.heap.size + 1) (.int .i64 fn) ∧ BoxAt X (w.heap.size + 2) (.int .i64 colI)) := Lib.hid fun X h => ⟨T0.block (h.block _ T0.lt), T1.block (h.block _ T1.lt), T2.block (h.block _ T2.lt)⟩
  clear T0 T1 T2
  go_enter Tryz.func10, Tryz.ntmps10
  go_wp2_with fail
  rw [← HW0.out]
  refine (K1.out _ hb0).mono ?_
  rintro e W1 ⟨rfl, hb1⟩
  have hbw1 := hb0.trans (hb1.mono hb0.size)
  have x0 := (HB.out W1 hb1).1.cell
  have x1 := (HB.out W1 hb1).2.1.cell
  have x2 := (HB.out W1 hb1).2.2.cell
  have x3 : W1.cell? ⟨w.heap.size + 1 + 1, 0, none⟩ = some (.int .i64 colI) := x2
  cases hv : validF F
  · have HBad : Hid (bad1 F fn colI = true) := Lib.hid (by unfold bad1; rw [hv]; rfl)
    go_wp2_with fail
    go_ret2
    exact ⟨_, _, rfl, hbw1, spec_bad HBad.out⟩
  have Hv := Lib.hid hv
  clear hv
  cases f1 : decide (fn < 1)
  rotate_left
  · have HBad : Hid (bad1 F fn colI = true) := Lib.hid (by unfold bad1; rw [f1]; cases validF F <;> rfl)
    go_wp2_with fail
    go_ret2
    exact ⟨_, _, rfl, hbw1, spec_bad HBad.out⟩
  cases f2 : decide (4 < fn)
  rotate_left
  · have HBad : Hid (bad1 F fn colI = true) := Lib.hid (by unfold bad1; rw [f1, f2]; cases validF F <;> rfl)
    go_wp2_with fail
    go_ret2
    exact ⟨_, _, rfl, hbw1, spec_bad HBad.out⟩
  have hcase : ((fn == 1) = false ∧ hasB F colI = false) ∨ ((fn == 1) = true ∨ ((fn == 1) = false ∧ hasB F colI = true)) := by
    cases (fn == 1) <;> cases hasB F colI <;> simp
  rcases hcase with ⟨f3, hh⟩ | hcase
  · have f4 : (fn != 1) = true := by rw [bne, f3]; rfl
    have HBad : Hid (bad1 F fn colI = true) := Lib.hid (by unfold bad1; rw [f3, hh]; simp)
    have K2b := Lib.hid (K2.out W1 colI hbw1)
    rw [hh] at K2b
    clear hh
    go_wp2_with fail
    refine K2b.out.mono ?_
    rintro e W2 ⟨rfl, hb2⟩
    have hbw2 := hbw1.trans (hb2.mono hbw1.size)
    clear hb2
    go_wp2_with fail
    go_ret2
    exact ⟨_, _, rfl, hbw2, spec_bad HBad.out⟩
  have HGood : Hid (bad1 F fn colI = false) := Lib.hid (by unfold bad1; rw [Hv.out, f1, f2]; rcases hcase with f3 | ⟨f3, hh⟩; rw [f3]; rfl; rw [f3, hh]; rfl)
  have HCase := Lib.hid hcase
  have Hf1 := Lib.hid f1; have Hf2 := Lib.hid f2
  by_cases h0 : F.length = 0
  · have H0 := Lib.hid h0
    obtain rfl : F = [] := List.length_eq_zero_iff.1 h0
    clear h0
    rcases hcase with f3 | ⟨f3, hh⟩
    · have f4 : (fn != 1) = false := by rw [bne, f3]; rfl
      go_wp2_with fail
      go_ret2
      exact ⟨_, _, rfl, hbw1, spec_nil HGood.out H0.out⟩
    · have f4 : (fn != 1) = true := by rw [bne, f3]; rfl
      have K2b := Lib.hid (K2.out W1 colI hbw1)
      rw [hh] at K2b
      clear hh
      go_wp2_with fail
      refine K2b.out.mono ?_
      rintro e W2 ⟨rfl, hb2⟩
      have hbw2 := hbw1.trans (hb2.mono hbw1.size)
      clear hb2
      go_wp2_with fail
      go_ret2
      exact ⟨_, _, rfl, hbw2, spec_nil HGood.out H0.out⟩
  have H0 := Lib.hid h0
  have h0b : ((F.length : Int) == 0) = false := by simpa using h0
  clear h0
  rcases hcase with f3 | ⟨f3, hh⟩
  all_goals first
    | (have f4 : (fn != 1) = false := by rw [bne, f3]; rfl
       go_wp2_with fail
       clear f3 f4)
    | (have f4 : (fn != 1) = true := by rw [bne, f3]; rfl
       have K2b := Lib.hid (K2.out W1 colI hbw1)
       rw [hh] at K2b
       clear hh
       go_wp2_with fail
       refine K2b.out.mono ?_
       rintro e W2 ⟨rfl, hb2⟩
       have hbw2 := hbw1.trans (hb2.mono hbw1.size)
       have hb12 := hb1.trans (hb2.mono hb1.size)
       have x0 := (HB.out W2 hb12).1.cell
       clear hb2 hb1 hbw1 f3 f4 x1 x2 x3 K2b
       have hbw1 := hbw2
       have hb1 := hb12
       clear hbw2 hb12
       go_wp2_with fail)
  all_goals
    rename World => Wc
    try go_frame
    go_loopw [40] (fun i X => ∃ k : Nat, i = .int .i64 (k : Int) ∧ k ≤ ks.length ∧ Hid (∀ j, j < k → keyB (row0 F).length ks j = true) ∧ Below w.heap.size w X ∧ Below W0.heap.size W0 X) (fun i _ => ks.length - (intOf i).toNat)
    case atStart => exact ⟨0, rfl, Nat.zero_le _, Lib.hid fun j hj => absurd hj (by omega), hbw1, hb1⟩
    case round =>
      obtain ⟨k, rfl, hkk, HK, hbX, hbX0⟩ := hrel
      rename World => X
      by_cases hlt : k < ks.length
      · obtain ⟨b, off, rfl, hbl⟩ := hk.addr (by omega)
        have c0 := (hk.below hbX).c0 k hlt
        have y0 := (HB.out X hbX0).1.cell
        have HKB : Hid (keyB (row0 F).length ks k = ((decide (0 ≤ iv ks k) && decide (iv ks k < ((row0 F).length : Int))) && !hasI (ks.take k) (iv ks k))) := Lib.hid rfl
        have HHB : Hid (hasB F (iv ks k) = (decide (0 ≤ iv ks k) && decide (iv ks k < ((row0 F).length : Int)))) := Lib.hid (by unfold hasB; rw [decide_eq_false H0.out, Bool.false_or])
        generalize iv ks k = x at *
        have K2b := Lib.hid (K2.out X x hbX)
        have Hlt := Lib.hid hlt
        cases q1 : hasB F x
        · have HBad : Hid (keyedB (row0 F).length ks = false) := Lib.hid (range_not hlt (by rw [HKB.out, ← HHB.out, q1]; rfl))
          rw [q1] at K2b
          clear q1
          go_wp2_with fail
          refine K2b.out.mono ?_
          rintro e X2 ⟨rfl, hb2⟩
          have hbw2 := hbX.trans (hb2.mono hbX.size)
          clear hb2
          go_wp2_with fail
          go_ret2
          exact ⟨_, _, rfl, hbw2, spec_key HGood.out H0.out HBad.out⟩
        · have Hq1 := Lib.hid q1
          rw [q1] at K2b
          clear q1
          go_wp2_with fail
          refine K2b.out.mono ?_
          rintro e X2 ⟨rfl, hb2⟩
          have hbw2 := hbX.trans (hb2.mono hbX.size)
          have hbx2 := hbX0.trans (hb2.mono hbX0.size)
          have y0 := (HB.out X2 hbx2).1.cell
          have KI := Lib.hid (slHasInt_c _ (ks.take k) x X2 (ints_take (hi_rows (hk.below hbw2) k hkk) (by omega)))
          have hkc : k ≤ ck := by omega
          cases q2 : hasI (ks.take k) x
          rotate_left
          · have HBad : Hid (keyedB (row0 F).length ks = false) := Lib.hid (range_not hlt (by rw [HKB.out, q2]; simp))
            rw [q2] at KI
            clear q2 hb2 hlt
            have hlt := Hlt.out
            go_wp2_with fail
            refine KI.out.mono ?_
            rintro e X3 ⟨rfl, rfl⟩
            go_wp2_with fail
            go_ret2
            exact ⟨_, _, rfl, hbw2, spec_key HGood.out H0.out HBad.out⟩
          · have HBG : Hid (keyB (row0 F).length ks k = true) := Lib.hid (by rw [HKB.out, ← HHB.out, Hq1.out, q2]; rfl)
            rw [q2] at KI
            clear q2 hb2
            go_wp2_with fail
            refine KI.out.mono ?_
            rintro e X3 ⟨rfl, rfl⟩
            go_wp2_with fail
            go_roundw
            case rel => exact ⟨k + 1, by go_num, Hlt.out, Lib.hid fun j hj => (by
              rcases Nat.lt_or_ge j k with e | e
              · exact HK.out j e
              · obtain rfl : j = k := by omega
                exact HBG.out), hbw2, hbx2⟩
            case measure => have := Hlt.out; simp [intOf]; omega
      · obtain rfl : k = ks.length := by omega
        have HKY : Hid (keyedB (row0 F).length ks = true) := Lib.hid (range_all HK.out)
        have y0 := (HB.out X hbX0).1.cell
        have y1 := (HB.out X hbX0).2.1.cell
        have y2 := (HB.out X hbX0).2.2.cell
        have y3 : X.cell? ⟨w.heap.size + 1 + 1, 0, none⟩ = some (.int .i64 colI) := y2
        cases q8 : decide ((8 : Int) ≤ (ks.length : Int))
        rotate_left
        · have H8 : Hid (8 ≤ ks.length) := Lib.hid (by simp at q8; omega)
          go_wp2_with fail
          go_ret2
          exact ⟨_, _, rfl, hbX, spec_full HGood.out H0.out HKY.out H8.out⟩
        · have H8 : Hid (¬ 8 ≤ ks.length) := Lib.hid (by simp at q8; omega)
          have hFl := H0.out
          have hn1 : 1 ≤ F.length := by omega
          have hn2 : 0 < F.length := by omega
          have hE := grpE_of (colI := colI) hs hk Hv.out Hm.out H0.out Hf1.out Hf2.out HCase.out HKY.out H8.out
          have HE := Lib.hid hE
          obtain ⟨b, off, rfl, hbl⟩ := hs.addr hn2
          have hin := hs.below hbX
          have d0 := hin.c0 0 hn2
          simp only [Nat.zero_mul, Nat.add_zero] at d0
          obtain ⟨A0, q0, hS0, hq0, hq0c⟩ := (hin.2 0 hn2).form
          have hr0 := hin.2 0 hn2
          rw [hS0] at d0 hr0
          have hrr : (fc F 0).1 = row0 F := rfl
          rw [hrr] at d0 hq0 hr0
          clear hrr hS0 hE hin hFl
          have hk0 : (fn == 2) = false ∨ ((fn == 2) = true ∧ (0 : Int) ≤ colI ∧ colI < ((row0 F).length : Int)) := by
            cases f5 : (fn == 2)
            · exact .inl rfl
            · refine .inr ⟨rfl, ?_⟩
              rcases HCase.out with e | ⟨_, e⟩
              · have e1 := eq_of_beq e
                have e2 := eq_of_beq f5
                omega
              · exact has_col H0.out e
          obtain ⟨kd, hkd⟩ : ∃ k, k = (va (row0 F) colI.toNat).1 := ⟨_, rfl⟩
          have HKd := Lib.hid hkd
          have hz : (fn == 2) = true → ∃ b0 o0, A0 = some ⟨b0, o0, none⟩ ∧ X.cell? ⟨b0, o0 + colI.toNat * 3, none⟩ = some (.int .i64 kd) := fun f5 => by
            rcases hk0 with e | ⟨_, e1, e2⟩
            · rw [f5] at e; cases e
            · obtain ⟨b0, o0, rfl, _⟩ := hr0.addr (by omega)
              exact ⟨b0, o0, rfl, by rw [hkd]; exact hr0.c0 colI.toNat (by omega)⟩
          have hcs : ((fn == 2) = true ∧ (0 : Int) ≤ colI ∧ colI < ((row0 F).length : Int) ∧ (kd == 1) = false) ∨ ((fn == 2) = false ∨ ((fn == 2) = true ∧ (0 : Int) ≤ colI ∧ colI < ((row0 F).length : Int) ∧ (kd == 1) = true)) := by
            rcases hk0 with e | ⟨e, e1, e2⟩
            · exact .inr (.inl e)
            · cases q : (kd == 1)
              · exact .inl ⟨e, e1, e2, rfl⟩
              · exact .inr (.inr ⟨e, e1, e2, rfl⟩)
          clear hkd hk0
          rcases hcs with ⟨f5, g1, g2, g3⟩ | hcs
          · obtain ⟨b0, o0, rfl, z0⟩ := hz f5
            have HT : Hid (fn = 2 ∧ (va (row0 F) colI.toNat).1 ≠ 1) := Lib.hid ⟨eq_of_beq f5, by rw [← HKd.out]; intro e; rw [e] at g3; cases g3⟩
            have g4 : (kd != 1) = true := by rw [bne, g3]; rfl
            have g5 : colI.toNat < (row0 F).length := by omega
            clear hz hr0
            go_wp2_with fail
            go_quiet (fail)
            have hbq : Below w.heap.size w (X.drewN nq) := hbX.trans (below_grow X nq #[] |> fun h => by simpa [Go.Sort.grow_empty] using h.mono hbX.size)
            clear z0 d0 y0 y1 y2 y3
            go_wp2_with fail
            go_ret2
            exact ⟨_, _, rfl, hbq, spec_type HGood.out H0.out HKY.out H8.out HT.out⟩
          have HT : Hid (¬ (fn = 2 ∧ (va (row0 F) colI.toNat).1 ≠ 1)) := Lib.hid (by
            rintro ⟨e, e2⟩
            rcases hcs with f5 | ⟨_, _, _, f6⟩
            · rw [e] at f5; cases f5
            · rw [← HKd.out] at e2
              exact e2 (eq_of_beq f6))
          rcases hcs with f5 | ⟨f5, g1, g2, g3⟩
          all_goals first
            | (obtain ⟨b0, o0, rfl, z0⟩ := hz f5
               have g4 : (kd != 1) = false := by rw [bne, g3]; rfl
               have g5 : colI.toNat < (row0 F).length := by omega
               clear hz hr0
               go_wp2_with fail
               go_quiet (fail)
               clear z0 g1 g2 g3 g4 g5)
            | (clear hz hr0
               go_wp2_with fail
               go_quiet (fail))
          all_goals
            have hbq : Below w.heap.size w (X.drewN nq) := hbX.trans (below_grow X nq #[] |> fun h => by simpa [Go.Sort.grow_empty] using h.mono hbX.size)
            have hbq0 : Below W0.heap.size W0 (X.drewN nq) := hbX0.trans (below_grow X nq #[] |> fun h => by simpa [Go.Sort.grow_empty] using h.mono hbX0.size)
            clear d0 y0 y1 y2 y3
            generalize X.drewN nq = X4 at *
            have hx4 : w.heap.size + 3 ≤ X4.heap.size := by have := hbq0.size; omega
            have KN := Lib.hid (anewTable_c X4)
            go_wp2_with fail
            refine KN.out.mono ?_
            rintro e X5 ⟨p, bv, bs, rfl, hb5, htab⟩
            have HTab := Lib.hid htab
            have hbq5 := hbq.trans (hb5.mono hbq.size)
            have hbq50 := hbq0.trans (hb5.mono hbq0.size)
            have hs45 := hb5.size
            clear hb5 htab
            have hb6 : Below w.heap.size w (X5.alloc (.cells #[.pointer (some ⟨p, 0, none⟩)] 65)) := hbq5.alloc hbq5.size _
            have hb60 : Below W0.heap.size W0 (X5.alloc (.cells #[.pointer (some ⟨p, 0, none⟩)] 65)) := hbq50.alloc hbq50.size _
            have hb65 := (Below.refl X5.heap.size X5).alloc (Nat.le_refl _) (.cells #[.pointer (some ⟨p, 0, none⟩)] 65)
            have hbt : BoxAt (X5.alloc (.cells #[.pointer (some ⟨p, 0, none⟩)] 65)) X5.heap.size (.pointer (some ⟨p, 0, none⟩)) := ⟨65, heap_alloc_new X5 _⟩
            obtain ⟨X6, hX6⟩ : ∃ Y, Y = X5.alloc (.cells #[.pointer (some ⟨p, 0, none⟩)] 65) := ⟨_, rfl⟩
            rw [← hX6] at hb6 hb60 hb65 hbt
            have hz6 : X6.heap.size = X5.heap.size + 1 := by rw [hX6]; simp
            have HX6 := Lib.hid hX6; have HZ6 := Lib.hid hz6
            clear hX6
            have hrv := valid_rows Hv.out
            have hmk := valid_ok Hv.out Hm.out
            have KE := Lib.hid (aeach_c (F := F) (S := S) (base := w.heap.size) (f := 35) (caps := #[.pointer (some ⟨w.heap.size, 0, none⟩), .pointer (some ⟨w.heap.size + 1, 0, none⟩), .pointer (some ⟨w.heap.size + 1 + 1, 0, none⟩), .pointer (some ⟨X5.heap.size, 0, none⟩)])
              (J := fun z1 => GrpJ F ks fn colI w.heap.size X6.heap.size z1 w (.slice Ak ks.length ck) w.heap.size (w.heap.size + 1) (w.heap.size + 1 + 1) X5.heap.size p bv bs) (Fin := fun _ => GrpFin ks fn colI) _ X6 hb6.size
              (fun W h => hs.below (hb6.trans h)) hrv.1 hmk (fun f hf => by have := (hrv.2 f hf).1; omega) (fun f hf => (spT_ok (hrv.2 f hf).2.1).1.2.1) (fun f hf => by
                have h1 := (spT_ok (hrv.2 f hf).2.1).1
                unfold OkSp at h1
                omega) hn2
              (fun z1 hz1 => ⟨fun _ _ => by kernel_rfl, grpJ_keep (Nat.le_refl _) hb6.size (fun b hb => by rcases hb with rfl | rfl | rfl | rfl <;> omega), fun X v js Vs s h1 h2 h3 h4 h5 h6 h7 => agroup1_c HE.out hb6.size hz1 (fun b hb => by rcases hb with rfl | rfl | rfl | rfl <;> omega) X v js Vs s h1 h2 h3 (by obtain ⟨_, h⟩ := h4; exact rj_own h) h5 h6 h7⟩)
              (fun z1 W h1 h2 h3 => ⟨hb6.trans (h3.mono hb6.size), ⟨(HB.out W (hb60.trans (h3.mono hb60.size))).1, (HB.out W (hb60.trans (h3.mono hb60.size))).2.1, (HB.out W (hb60.trans (h3.mono hb60.size))).2.2, hbt.block (h3.block _ hbt.lt)⟩, 0, [], fun _ => undef, fun _ => undef, [], ((HTab.out w.heap.size X6.heap.size z1 (fun _ => undef) (fun _ => undef) hbq.size (by omega)).below hb65).below (h3.mono (by omega)), TabOk.nil, fun a => by simp, by simp, by simp [flatE], by simp⟩))
            clear hrv hmk hb65 hbt
            go_wp2_with fail
            rw [← HX6.out]
            refine KE.out.mono ?_
            rintro e W7 ⟨z1, cc, Vs, hz1, rfl, hb7, hcase⟩
            have hbw7 := hb6.trans hb7
            by_cases hc0 : cc = 0
            · subst hc0
              rw [if_pos rfl] at hcase
              obtain ⟨hvis, ⟨_, hbox, n7, E, U, T, A7, htab7, htok7, hgA7, hn7, hfl7, hne7⟩, hvl⟩ := hcase
              have t7 := hbox.t.cell
              have hprod : F.length * Vs.length ≤ F.length * (2 * F.length) := Nat.mul_le_mul_left _ hvl
              have hpr2 : F.length * (2 * F.length) ≤ 1000 * 2000 := by
                have := (valid_rows Hv.out).1
                exact Nat.mul_le_mul this (by omega)
              have hfl8 : (flatE E).length ≤ F.length * (2 * F.length) := by omega
              have KF := Lib.hid (afacts_c htab7 (by omega) htok7.can)
              have HEk := Lib.hid htab7.eok; have HTk := Lib.hid htok7; have HVis := Lib.hid hvis; have HgA := Lib.hid hgA7; have HNe := Lib.hid hne7; have HFl := Lib.hid hfl8
              clear htab7 htok7 hgA7 hne7 hvis hbox hprod hpr2 hfl8 hn7 hfl7 hvl
              go_wp2_with fail
              refine KF.out.mono ?_
              rintro e W8 ⟨v8, c8, rfl, hb8, hf8⟩
              have hbw8 := hbw7.trans (hb8.mono hbw7.size)
              have hout : GrpOut F ks fn colI c8 v8 W8 := by
                have hnoe := grp_noerr HE.out.fnk HVis.out HNe.out
                refine .inr ⟨hnoe, ?_⟩
                by_cases hbig : 1000 < (flatE E).length
                · rw [if_pos hbig] at hf8
                  obtain ⟨B, hB1, hB2⟩ := sorted_ex (flatE E)
                  exact ⟨B, grp_norm HE.out.fnk HVis.out HgA.out (norm_tab HEk.out HTk.out hB1 hB2), by rw [hB1.length_eq]; exact HFl.out, .inl ⟨by rw [hB1.length_eq]; exact hbig, hf8⟩⟩
                · rw [if_neg hbig] at hf8
                  obtain ⟨e1, B, hB0, hB1, hB2⟩ := hf8
                  exact ⟨B, grp_norm HE.out.fnk HVis.out HgA.out (norm_tab HEk.out HTk.out hB1 hB2), by rw [hB1.length_eq]; exact HFl.out, .inr ⟨by rw [hB1.length_eq]; omega, e1, hB0⟩⟩
              have HO := Lib.hid hout; have HB8 := Lib.hid hbw8
              clear hout hf8 hb8 hbw8
              go_wp2_with fail
              go_ret2
              exact ⟨_, _, rfl, HB8.out, spec_out HGood.out H0.out HKY.out H8.out HT.out HO.out⟩
            · rw [if_neg hc0] at hcase
              obtain ⟨⟨P, hP⟩, rfl, v7, hv7, he7⟩ := hcase
              have HErr := Lib.hid (grp_err HE.out.fnk hP hv7 he7)
              clear hP hv7 he7 hc0
              go_wp2_with fail
              go_ret2
              exact ⟨_, _, rfl, hbw7, spec_out HGood.out H0.out HKY.out H8.out HT.out (.inl ⟨HErr.out, rfl, rfl⟩)⟩
end Go.Proofs.YtohjgegnamcnlaaGreat
