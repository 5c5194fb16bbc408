/- AggregateTops: the rows of Top are rows, have the greatest value in the column, and are all that have it, at each end of a fact. -/
import Derived.Test.YtohjgegnamcnlaaRows
import Derived.Test.YtohjgegnamcnlaaAhk
import Derived.Test.YtohjgegnamcnlaaAhm
import Derived.Test.YtohjgegnamcnlaaAhr
import Derived.Test.YtohjgegnamcnlaaAhv
namespace Go.Proofs.Ytohjgegnamcnlaa
open Go.RowKit Go.Shelf Go.ChangeShapes Go.WideShapes Go.ChangeAt

set_option maxRecDepth 100000 in
theorem tops1_c (v vz : Value) (r r2 : VRow) (k b1 b2 : Nat) (w : World) (hs : IsVals w v r) (h2 : IsVals w vz r2) (hc : BoxAt w b1 (.int .i64 (k : Int))) (hz : w.cell? ⟨b2, 0, none⟩ = some vz) (hzl : b2 < w.heap.size) (hk1 : k < r.length) (hk2 : k < r2.length) (ht : (va r k).2.2.size ≤ 1000000000) :
    Calls Try.prog 27 #[v, .pointer (some ⟨b1, 0, none⟩), .pointer (some ⟨b2, 0, none⟩)] w (Ret w (.bool (decide (0 < cmpV (va r k) (va r2 k))))) := by
  have K := Lib.hid fun Y => r33Compare_c (va r k).1 (va r k).2.1 (va r2 k).1 (va r2 k).2.1 (va r k).2.2 (va r2 k).2.2 Y ht
  obtain ⟨A1, c1, rfl, hn1, hc1⟩ := hs.form
  obtain ⟨A2, c2, rfl, hn2, hc2⟩ := h2.form
  obtain ⟨g1, o1, rfl, hg1⟩ := hs.addr (by omega)
  obtain ⟨g2, o2, rfl, hg2⟩ := h2.addr (by omega)
  have e1 := fun x : BW w => bw_cell x (hs.c0 k hk1) hg1
  have e2 := fun x : BW w => bw_cell x (hs.c1 k hk1) hg1
  have e3 := fun x : BW w => bw_cell x (hs.c2 k hk1) hg1
  have e4 := fun x : BW w => bw_cell x (h2.c0 k hk2) hg2
  have e5 := fun x : BW w => bw_cell x (h2.c1 k hk2) hg2
  have e6 := fun x : BW w => bw_cell x (h2.c2 k hk2) hg2
  have e7 := fun x : BW w => bw_cell x hc.cell hc.lt
  have e8 := fun x : BW w => bw_cell x hz hzl
  have hki : (k : Int) < (r.length : Int) := by omega
  have hki2 : (k : Int) < (r2.length : Int) := by omega
  generalize va r k = xa at *
  generalize va r2 k = xb at *
  obtain ⟨ka, na, sa⟩ := xa
  obtain ⟨kb, nb, sb⟩ := xb
  simp only at e1 e2 e3 e4 e5 e6 K
  generalize cmpV (ka, na, sa) (kb, nb, sb) = d at *
  clear hs h2 hc hz ht
  go_enter Try.func27, Try.ntmps27
  go_wp2_with fail
  refine wp_region_below (by kernel_rfl) (by kernel_rfl) ?_
  repeat (go_big_quiet_step ((go_at_call 13; exact calls_bw _ (K.out _))))
  refine wpQuiet_nil ?_
  rintro Y1 ⟨⟨_, hbY⟩, rfl⟩
  clear e1 e2 e3 e4 e5 e6 e7 e8
  go_wp2_with fail
  go_ret
  exact ⟨rfl, hbY⟩
theorem ent_tops1 : ∀ (args : Array Value) (w : World), Sem.run Try.prog (callFunc 27 args) w = .ok (.enter 27 args) w := fun _ _ => by kernel_rfl
theorem tops2_c (v vz : Value) (r r2 : VRow) (b : Nat) (w : World) (hs : IsVals w v r) (h2 : IsVals w vz r2) (hc : w.cell? ⟨b, 0, none⟩ = some vz) : Calls Try.prog 28 #[v, .pointer (some ⟨b, 0, none⟩)] w (Ret w (.bool (sameR r r2))) := by
  have K := Lib.hid (r33Same_c v vz r r2 w hs h2)
  obtain ⟨A1, c1, rfl, _, _⟩ := hs.form
  obtain ⟨A2, c2, rfl, _, _⟩ := h2.form
  clear hs h2
  go_enter Try.func28, Try.ntmps28
  go_wp2_with fail
  refine K.out.mono ?_
  rintro e w2 ⟨rfl, hb2⟩
  go_wp2_with fail
  go_ret
  exact ⟨rfl, hb2⟩
theorem ent_tops2 : ∀ (args : Array Value) (w : World), Sem.run Try.prog (callFunc 28 args) w = .ok (.enter 28 args) w := fun _ _ => by kernel_rfl
theorem wfu8_39 {n : Int} (h : (Lit.int .u8 n).wf = true) : 0 ≤ n ∧ n ≤ 255 := by
  simp [Lit.wf, IntKind.min, IntKind.max, IntKind.signed, IntKind.bits] at h
  omega
theorem tops_few {F : List Fct} (h : fewF F = true) : F.length ≤ 16 := by
  unfold fewF at h
  simp only [Bool.and_eq_true, decide_eq_true_eq] at h
  exact h.1
theorem tops_has {F : List Fct} {k : Nat} (hk : k < (row0 F).length) : hasB F (k : Int) = true := by
  unfold hasB
  rw [decide_eq_true (show (0 : Int) ≤ (k : Int) by omega), decide_eq_true (show (k : Int) < ((row0 F).length : Int) by omega), Bool.and_true, Bool.or_true]
theorem vB_size {v : Val} (h : vB v = true) : v.2.2.size ≤ 1000000000 := by
  have h0 : (ByteArray.mk #[]).size = 0 := rfl
  rcases vB_kind h with h | h | h | h
  · rw [h.2, h0]; omega
  · omega
  · rw [h.2.1, h0]; omega
  · rw [h.2, h0]; omega
/-- The rows at a time: their length and their texts. -/
theorem at_rows {F : List Fct} (hv : validF F = true) (hm : MachF F) {t : Int} {k : Nat} (hk : k < (row0 F).length) {r : VRow} (hr : r ∈ rowsAt F t) : k < r.length ∧ (va r k).2.2.size ≤ 1000000000 := by
  obtain ⟨f, hf, rfl, _⟩ := rowsAt_mem.1 hr
  have h1 := ((valid_rows hv).2 f hf).1.2.2
  have h2 : k < f.1.length := by rw [h1]; exact hk
  exact ⟨h2, vB_size (valid_ok hv hm f hf _ (va_mem h2)).1⟩
set_option maxRecDepth 100000 in
set_option maxHeartbeats 8000000 in
theorem law39Tops_c (v : Value) (F : List Fct) (col : Int) (W : World) (hs : IsFs W v F) (hm : MachF F) (hc0 : 0 ≤ col ∧ col ≤ 255) : Calls Try.prog 6 #[v, .int .u8 col] W (Ret W (.bool true)) := by
  have KF : Hid (∀ X, Below W.heap.size W X → Calls Try.prog 9 #[v] X (Ret X (.bool (fewF F)))) := Lib.hid fun X h => few39_c v F X (hs.below h)
  have KV : Hid (∀ X, Below W.heap.size W X → Calls Try.prog 10 #[v] X (Ret X (.bool (validF F)))) := Lib.hid fun X h => r39Valid_c v F X (hs.below h)
  have KT : Hid (F.length < 1000000000 → ∀ X colI, Below W.heap.size W X → Calls Try.prog 26 #[v, .int .i64 colI] X (TopRet F colI X)) := Lib.hid fun hn X colI h => aTop_c v F colI X (hs.below h) hm hn
  have KL : Hid (F.length ≤ 1000000 → ∀ X t, Below W.heap.size W X → Calls Try.prog 12 #[v, .int .i64 t] X (AtRet (rowsAt F t) X)) := Lib.hid fun hn X t h => at39_c v F t X (hs.below h) hn
  obtain ⟨S, hs⟩ := hs
  obtain ⟨A, cc, rfl, hnc, hcc⟩ := hs.form
  have KA := Lib.hid (awake39_c W)
  have Hc0 := Lib.hid hc0; have Hm := Lib.hid hm
  clear hm hc0
  go_enter Try.func6, Try.ntmps6
  go_wp2_with fail
  refine KA.out.mono ?_
  rintro e W1 ⟨rfl, hb1⟩
  go_wp2_with fail
  refine (KF.out W1 hb1).mono ?_
  rintro e W2 ⟨rfl, hb2⟩
  have hw2 := hb1.trans (hb2.mono hb1.size)
  clear hb1 hb2
  cases q1 : fewF F
  · go_wp2_with fail
    go_ret
    exact ⟨rfl, hw2⟩
  have Q1 := Lib.hid q1
  clear q1
  cases q2 : decide ((F.length : Int) < 1)
  rotate_left
  · go_wp2_with fail
    go_ret
    exact ⟨rfl, hw2⟩
  have Q2 := Lib.hid q2
  go_wp2_with fail
  refine (KV.out W2 hw2).mono ?_
  rintro e W3 ⟨rfl, hb3⟩
  have hw3 := hw2.trans (hb3.mono hw2.size)
  clear hb3 hw2
  cases q3 : validF F
  · go_wp2_with fail
    go_ret
    exact ⟨rfl, hw3⟩
  have Q3 := Lib.hid q3
  clear q3
  have hn1 : 1 ≤ F.length := by have := of_decide_eq_false q2; omega
  have hn2 : 0 < F.length := hn1
  obtain ⟨bf, off, rfl, hbl⟩ := hs.addr hn2
  obtain ⟨A0, p0, hS0, hq0, hq0c⟩ := (hs.2 0 hn2).form
  have hrr : (fc F 0).1 = row0 F := rfl
  rw [hrr] at hS0 hq0
  have hrl : 1 ≤ (row0 F).length := ((valid_rows Q3.out).2 _ (fc_mem hn2)).1.1
  have z0 : W3.cell? ⟨bf, off, none⟩ = some (.slice A0 (row0 F).length p0) := by
    have h := (hs.below hw3).c0 0 hn2
    simp only [Nat.zero_mul, Nat.add_zero] at h
    rw [hS0] at h
    exact h
  have g0 : IntKind.i64.wrap col = col := by have := Hc0.out; rw [IntKind.wrap_i64]; omega
  obtain ⟨k, hk⟩ : ∃ k : Nat, Int.tmod col ((row0 F).length : Int) = (k : Int) := ⟨(Int.tmod col (row0 F).length).toNat, by
    have := Int.tmod_nonneg ((row0 F).length : Int) Hc0.out.1
    omega⟩
  have hkl : k < (row0 F).length := by
    have := Int.tmod_lt_of_pos col (show (0 : Int) < ((row0 F).length : Int) by omega)
    omega
  have g2 : ¬ ((row0 F).length : Int) = 0 := by omega
  have g3 : ¬ (row0 F).length = 0 := by omega
  obtain ⟨W4, hW4⟩ : ∃ Y, Y = W3.alloc (.cells #[.int .i64 (k : Int)] 3) := ⟨_, rfl⟩
  have hb4 : Below W3.heap.size W3 W4 := by rw [hW4]; exact (Below.refl _ _).alloc (Nat.le_refl _) _
  have hbx : BoxAt W4 W3.heap.size (.int .i64 (k : Int)) := ⟨3, by rw [hW4]; exact heap_alloc_new W3 _⟩
  have HBx : Hid (∀ X, Below W4.heap.size W4 X → BoxAt X W3.heap.size (.int .i64 (k : Int))) := Lib.hid fun X h => hbx.block (h.block _ hbx.lt)
  have y0 := hbx.cell
  have hw4 := hw3.trans (hb4.mono hw3.size)
  have HW4 := Lib.hid hW4
  have Hkl := Lib.hid hkl
  have hn9 : F.length < 1000000000 := by have := tops_few Q1.out; omega
  have KT2 := Lib.hid (KT.out hn9 W4 k hw4)
  clear hW4 hb4 hbx hrr hS0 hq0 hq0c hn9
  go_wp2_with fail
  rw [← HW4.out]
  clear hk g0 g2 g3 z0
  refine KT2.out.mono ?_
  rintro e w5 ⟨v5, c5, rfl, hb5, hsp⟩
  obtain ⟨rfl, B, hB, hBl, hFB⟩ := top_small Q3.out (tops_has Hkl.out) (tops_few Q1.out) hsp
  have HB : Hid (NormOf B (DTop F k)) := Lib.hid hB
  have hw5 := hw4.trans (hb5.mono hw4.size)
  have H05 := Lib.hid hb5
  have KB : Hid (∀ X t, Below w5.heap.size w5 X → Calls Try.prog 12 #[v5, .int .i64 t] X (AtRet (rowsAt B t) X)) := Lib.hid fun X t h => at39_c v5 B t X (hFB.below h) (by omega)
  have KL2 : Hid (∀ X t, Below w5.heap.size w5 X → Calls Try.prog 12 #[.slice (some ⟨bf, off, none⟩) F.length cc, .int .i64 t] X (AtRet (rowsAt F t) X)) := Lib.hid fun X t h => KL.out (by have := tops_few Q1.out; omega) X t (hw5.trans (h.mono hw5.size))
  have HY : Hid (∀ X, Below w5.heap.size w5 X → BoxAt X W3.heap.size (.int .i64 (k : Int))) := Lib.hid fun X h => HBx.out X (H05.out.trans (h.mono H05.out.size))
  have HIn : Hid (∀ X, Below w5.heap.size w5 X → FsIn X (.slice (some ⟨bf, off, none⟩) F.length cc) F S) := Lib.hid fun X h => hs.below (hw5.trans (h.mono hw5.size))
  have HRow : Hid (∀ t (r : VRow), r ∈ rowsAt F t → k < r.length ∧ (va r k).2.2.size ≤ 1000000000) := Lib.hid fun t r hr => at_rows Q3.out Hm.out Hkl.out hr
  have HW5 := Lib.hid hw5
  have hbf : bf < w5.heap.size := Nat.lt_of_lt_of_le hbl hw5.size
  have Hbf := Lib.hid hbf
  have HSp : Hid (∀ j, j < F.length → OkSp (fc F j).2) := Lib.hid fun j hj => (spT_ok ((valid_rows Q3.out).2 _ (fc_mem hj)).2.1).1
  clear hb5 hsp hB hFB hw4 hw3 y0 hbl hs hkl hrl hbf hw5 KT KL KT2 KF KV hBl
  go_wp2_with fail
  try go_frame
  go_loopw [50] (fun i X => ∃ j : Nat, i = .int .i64 (j : Int) ∧ j ≤ F.length ∧ Hid (Below w5.heap.size w5 X)) (fun i _ => F.length - (intOf i).toNat)
  case atStart => exact ⟨0, rfl, Nat.zero_le _, Lib.hid (Below.refl _ _)⟩
  case round =>
    obtain ⟨j, rfl, hj, HB5⟩ := hrel
    rename World => X
    by_cases hlt : j < F.length
    · have hin := HIn.out X HB5.out
      have c0 := hin.c0 j hlt
      have c1 := hin.c1 j hlt
      have c2 := hin.c2 j hlt
      obtain ⟨A1, p1, hS, _, _⟩ := (hin.2 j hlt).form
      rw [hS] at c0
      have hsp := HSp.out j hlt
      obtain ⟨⟨row, ⟨s1, s2⟩⟩, hf⟩ : ∃ f, f = fc F j := ⟨_, rfl⟩
      have hlen : (fc F j).1.length = row.length := by rw [← hf]
      rw [hlen] at c0
      rw [← hf] at c1 c2 hsp
      unfold OkSp at hsp
      simp only at c1 c2 hsp
      have v1 : IntKind.i64.wrap (s2 - 1) = s2 - 1 := IntWalk.i64_in _ (by omega)
      have Hlt := Lib.hid hlt
      obtain ⟨X1, hX1⟩ : ∃ Y, Y = X.alloc (.cells #[.slice A1 row.length p1, .int .i64 s1, .int .i64 s2] 29) := ⟨_, rfl⟩
      have hbA : Below X.heap.size X X1 := by rw [hX1]; exact (Below.refl _ _).alloc (Nat.le_refl _) _
      have hz1 : X1.heap.size = X.heap.size + 1 := by rw [hX1]; simp
      obtain ⟨X2, hX2⟩ : ∃ Y, Y = X1.alloc (.cells #[.int .i64 s1, .int .i64 s2, .int .i64 (s2 - 1)] 3) := ⟨_, rfl⟩
      have hbB : Below X.heap.size X X2 := by rw [hX2]; exact hbA.alloc hbA.size _
      have hts : X2.heap[X.heap.size + 1]? = some (.cells #[.int .i64 s1, .int .i64 s2, .int .i64 (s2 - 1)] 3 (0, 0)) := by
        have := heap_alloc_new X1 (.cells #[.int .i64 s1, .int .i64 s2, .int .i64 (s2 - 1)] 3)
        rw [hX2, ← hz1]; exact this
      have HTs : Hid (∀ Y m, Below X2.heap.size X2 Y → m < 3 → ∃ t : Int, Y.cell? ⟨X.heap.size + 1, m, none⟩ = some (.int .i64 t)) := Lib.hid fun Y m h hm3 => by
        have hb := (h.block _ (blk_lt hts)).trans hts
        rcases (show m = 0 ∨ m = 1 ∨ m = 2 by omega) with rfl | rfl | rfl
        · exact ⟨s1, by rw [blk_get hb 0]; rfl⟩
        · exact ⟨s2, by rw [blk_get hb 1]; rfl⟩
        · exact ⟨s2 - 1, by rw [blk_get hb 2]; rfl⟩
      have HX2 : Hid (X2 = (X.alloc (.cells #[.slice A1 row.length p1, .int .i64 s1, .int .i64 s2] 29)).alloc (.cells #[.int .i64 s1, .int .i64 s2, .int .i64 (s2 - 1)] 3)) := Lib.hid (by rw [hX2, hX1])
      have HBX2 := Lib.hid (HB5.out.trans (hbB.mono HB5.out.size))
      clear hX1 hX2 hS hin hf hlen hbA hbB hts hz1 hsp
      go_wp2_with fail
      rw [← HX2.out]
      clear c0 c1 c2 v1
      try go_frame
      go_loopw [66] (fun i Y => ∃ m : Nat, i = .int .i64 (m : Int) ∧ m ≤ 3 ∧ Hid (Below X2.heap.size X2 Y)) (fun i _ => 3 - (intOf i).toNat)
      case atStart => exact ⟨0, rfl, by omega, Lib.hid (Below.refl _ _)⟩
      case round =>
        obtain ⟨m, rfl, hm3, HBY⟩ := hrel
        rename World => Y
        by_cases hml : m < 3
        · obtain ⟨t, ht⟩ := HTs.out Y m HBY.out hml
          have Hml := Lib.hid hml
          have HWY := Lib.hid (HBX2.out.trans (HBY.out.mono HBX2.out.size))
          have hmi : (m : Int) < 3 := by omega
          go_wp2_with fail
          refine (KL2.out Y t HWY.out).mono ?_
          rintro e Y1 ⟨o1, rfl, ⟨S1, hR1⟩, hb1⟩
          obtain ⟨Ar, cr, rfl, hlr, hcr⟩ := hR1.form
          have HWY1 := Lib.hid (HWY.out.trans (hb1.mono HWY.out.size))
          have HBY1 := Lib.hid (HBY.out.trans (hb1.mono HBY.out.size))
          clear hb1 ht
          go_wp2_with fail
          refine (KB.out Y1 t HWY1.out).mono ?_
          rintro e Y2 ⟨o2, rfl, ⟨S2, hR2⟩, hb2⟩
          obtain ⟨Ar2, cr2, rfl, hlr2, hcr2⟩ := hR2.form
          have HR1 := Lib.hid (hR1.below hb2)
          have HR2 := Lib.hid hR2
          have HWY2 := Lib.hid (HWY1.out.trans (hb2.mono HWY1.out.size))
          have HBY2 := Lib.hid (HBY1.out.trans (hb2.mono HBY1.out.size))
          have HCnt : Hid (topN k (rowsAt F t) (rowsAt F t).length = (rowsAt B t).length) := Lib.hid (by rw [topN_all]; exact top_count HB.out t)
          have HBest : Hid (∀ r ∈ rowsAt F t, topB k (rowsAt F t) r = true → hasR (rowsAt B t) r = true) := Lib.hid fun r hr hb => top_best HB.out hr hb
          have HRw : Hid (∀ r ∈ rowsAt F t, k < r.length ∧ (va r k).2.2.size ≤ 1000000000) := Lib.hid fun r hr => HRow.out t r hr
          clear hb2 hR1 hR2
          generalize rowsAt F t = R at *
          generalize rowsAt B t = R2 at *
          go_wp2_with fail
          try go_frame
          go_loopw [14, 78] (fun n i Z => ∃ q : Nat, n = .int .i64 (topN k R q : Int) ∧ i = .int .i64 (q : Int) ∧ q ≤ R.length ∧ Hid (Below Y2.heap.size Y2 Z)) (fun _ i _ => R.length - (intOf i).toNat)
          case atStart => exact ⟨0, by rw [topN_zero]; rfl, rfl, Nat.zero_le _, Lib.hid (Below.refl _ _)⟩
          case round =>
            obtain ⟨q, rfl, rfl, hq, HBZ⟩ := hrel
            rename World => Z
            by_cases hlq : q < R.length
            · obtain ⟨br, ofr, rfl, hbr⟩ := HR1.out.addr (by omega)
              have hin := HR1.out.below HBZ.out
              have c0 := hin.cell q hlq
              have hvr := hin.2 q hlq
              obtain ⟨Aw, cw, hSw, hlw, hcw⟩ := hvr.form
              have hrm := vr_mem hlq
              have hst := topN_succ (col := k) hlq
              have hle := topN_le k R q
              obtain ⟨row, hrow⟩ : ∃ r, r = vr R q := ⟨_, rfl⟩
              rw [← hrow] at hvr hrm hst hSw
              rw [hSw] at c0 hvr
              generalize topN k R q = n at *
              have hn63 : n + 1 ≤ 9223372036854775807 := by omega
              have hwr : IntKind.i64.wrap ((n : Int) + 1) = (n : Int) + 1 := IntWalk.i64_in _ (by omega)
              obtain ⟨Z1, hZ1⟩ : ∃ Q, Q = Z.alloc (.cells #[.slice Aw row.length cw] 25) := ⟨_, rfl⟩
              have hbZ : Below Z.heap.size Z Z1 := by rw [hZ1]; exact (Below.refl _ _).alloc (Nat.le_refl _) _
              have hbz : Z1.cell? ⟨Z.heap.size, 0, none⟩ = some (.slice Aw row.length cw) := by rw [hZ1]; exact blk_get (heap_alloc_new Z _) 0
              have hzl : Z.heap.size < Z1.heap.size := by rw [hZ1]; simp
              have HZ1 := Lib.hid hZ1
              have hbY := HBZ.out.trans (hbZ.mono HBZ.out.size)
              have hw5Z := HWY2.out.trans (hbY.mono HWY2.out.size)
              have hr1 := hin.below hbZ
              have hv1 := hvr.below hbZ
              have K1 := Lib.hid (slContainsRP (fun o => decide (0 < cmpV (va o k) (va row k))) 27 #[.pointer (some ⟨W3.heap.size, 0, none⟩), .pointer (some ⟨Z.heap.size, 0, none⟩)] ent_tops1 _ R _ Z1 hr1 (fun Q i hQ hi => by
                have h := HRw.out _ (vr_mem hi)
                exact tops1_c _ (.slice Aw row.length cw) (vr R i) row k W3.heap.size Z.heap.size Q ((hr1.below hQ).2 i hi) (hv1.below hQ) (HY.out Q (hw5Z.trans (hQ.mono hw5Z.size))) ((hQ.cell (p := ⟨Z.heap.size, 0, none⟩) hzl).trans hbz) (Nat.lt_of_lt_of_le hzl hQ.size) h.1 (HRw.out _ hrm).1 h.2))
              have htb : topB k R row = !(R.any fun o => decide (0 < cmpV (va o k) (va row k))) := rfl
              have Hlq := Lib.hid hlq
              have HbY := Lib.hid hbY
              cases q1 : R.any fun o => decide (0 < cmpV (va o k) (va row k))
              · rw [q1] at htb K1
                have hbst := HBest.out row hrm htb
                rw [htb] at hst
                have HN : Hid (topN k R (q + 1) = n + 1) := Lib.hid (by rw [hst]; rfl)
                have K2 : Hid (∀ Q, Below Z1.heap.size Z1 Q → Calls Try.prog 17 #[.slice Ar2 R2.length cr2, .func (.func 28) #[] #[.pointer (some ⟨Z.heap.size, 0, none⟩)]] Q (Ret Q (.bool true))) := Lib.hid fun Q hQ => by
                  have hrq := (HR2.out.below hbY).below hQ
                  have := slContainsRP (fun x => decide (x = row)) 28 #[.pointer (some ⟨Z.heap.size, 0, none⟩)] ent_tops2 _ R2 _ Q hrq (fun Q2 i hQ2 hi => tops2_c _ (.slice Aw row.length cw) (vr R2 i) row Z.heap.size Q2 ((hrq.below hQ2).2 i hi) ((hv1.below hQ).below hQ2) ((hQ2.cell (p := ⟨Z.heap.size, 0, none⟩) (Nat.lt_of_lt_of_le hzl hQ.size)).trans ((hQ.cell (p := ⟨Z.heap.size, 0, none⟩) hzl).trans hbz)))
                  have e : (R2.any fun x => decide (x = row)) = true := hbst
                  rw [e] at this
                  exact this
                clear q1 htb hst hbst hrow hSw hvr hin hv1 hr1 hw5Z hbY hbZ hZ1 hle hrm
                go_wp2_with fail
                rw [← HZ1.out]
                refine K1.out.mono ?_
                rintro e Z2 ⟨rfl, hbQ⟩
                have HbQ := Lib.hid hbQ
                clear hbQ
                go_wp2_with fail
                refine (K2.out Z2 HbQ.out).mono ?_
                rintro e Z3 ⟨rfl, hbQ2⟩
                have HbQ2 := Lib.hid (HbQ.out.trans (hbQ2.mono HbQ.out.size))
                clear hbQ2
                go_wp2_with fail
                go_roundw
                case rel => exact ⟨q + 1, by rw [HN.out]; go_num, by go_num, Hlq.out, Lib.hid (HbY.out.trans (HbQ2.out.mono HbY.out.size))⟩
                case measure => have := Hlq.out; simp [intOf]; omega
              · rw [q1] at htb K1
                rw [htb] at hst
                have HN : Hid (topN k R (q + 1) = n) := Lib.hid (by rw [hst]; rfl)
                clear q1 htb hst hrow hSw hvr hin hv1 hr1 hw5Z hbY hbZ hZ1 hle hrm
                go_wp2_with fail
                rw [← HZ1.out]
                refine K1.out.mono ?_
                rintro e Z2 ⟨rfl, hbQ⟩
                have HbQ := Lib.hid hbQ
                clear hbQ
                go_wp2_with fail
                go_roundw
                case rel => exact ⟨q + 1, by rw [HN.out], by go_num, Hlq.out, Lib.hid (HbY.out.trans (HbQ.out.mono HbY.out.size))⟩
                case measure => have := Hlq.out; simp [intOf]; omega
            · obtain rfl : q = R.length := by omega
              rw [HCnt.out]
              have hne : (((R2.length : Int)) != (R2.length : Int)) = false := by simp
              go_wp2_with fail
              go_roundw
              case rel => exact ⟨m + 1, by go_num, Hml.out, Lib.hid (HBY2.out.trans (HBZ.out.mono HBY2.out.size))⟩
              case measure => have := Hml.out; simp [intOf]; omega
        · obtain rfl : m = 3 := by omega
          go_wp2_with fail
          go_roundw
          case rel => exact ⟨j + 1, by go_num, Hlt.out, Lib.hid (HBX2.out.trans (HBY.out.mono HBX2.out.size))⟩
          case measure => have := Hlt.out; simp [intOf]; omega
    · obtain rfl : j = F.length := by omega
      go_wp2_with fail
      go_ret
      exact ⟨rfl, HW5.out.trans (HB5.out.mono HW5.out.size)⟩

set_option maxRecDepth 100000 in
theorem law39Tops_lifted (os : Os) (started : os.Started) (H : Type) (enc : TypeId × Value → H) :
    ReturnsInHanded {} Try.checked os 6 .any (Rows.aggregateTopsSpec.pre6 enc Try.prog Try.f6 Rows.aggregateTopsRow.domain false) (Rows.aggregateTopsSpec.post enc Try.prog Try.f6 false true false false) := by
  refine returnsInHanded_of_change (C := Try.checked) Try.own started (by kernel_rfl) Try.func6
    (ChangeSpec.witness6 (enc := enc) (C := Try.checked) false ⟨#[], #[.slice none 0 0, .int .u8 0], []⟩ 8 (by kernel_rfl) (by kernel_rfl) (by kernel_rfl) (by kernel_rfl)) ?_
  intro W base args ds gs before hval0 hW hcnd _
  have hval : ∀ (j : Nat) t v, Try.f6.params[j]? = some t → args[j]? = some v → Value.okWide Try.prog W .any base t v := hval0
  have hW' := hW
  obtain ⟨p, q, hA0, hV, rfl, hfz, hnd⟩ := hW
  have hA : DataW.TrodAll enc Try.prog W 0 (fun _ => true) true Try.f6.params.toList args.toList ds p := hA0
  have hA1 := hA0
  rw [Try.params6] at hA hval
  obtain ⟨v0, v1, d0, d1, p0, p1, rfl, rfl, hp, h0, h1⟩ := trodAll_two hA
  obtain ⟨rfl, rfl⟩ := trodVars_none hV
  obtain ⟨l, g0, m0⟩ := open_facts (hval 0 22 v0 rfl rfl) h0
  obtain ⟨column, rfl, rfl, rfl, g1⟩ := open_int Try.underlying5 (hval 1 5 v1 rfl rfl) h1
  clear hA0 hval0
  have hlt : ∀ x ∈ p, x.block < W.heap.size := fun x hx => hW'.lt x (by simp [hx])
  refine (law39Tops_c v0 l column W g0 m0 (wfu8_39 g1)).mono fun e W' ⟨he, hg⟩ => ?_
  subst he
  exact ⟨_, rfl, post_of_below (pa := p) (pv := []) hW' (fun _ _ _ => trodAll_mk1 (shut_bool Try.underlying4 _))
    (fun sp hsp => trodAll_keep Try.laidOut hg (by kernel_rfl) hA1 hlt (fun x hx => hsp x (by simp [hx])))
    (fun _ _ => rfl) rfl hg (ok_one (by kernel_rfl) rfl (okWide_bool_mk Try.underlying4 _))⟩

theorem law39Tops_holds : Rows.AggregateTopsSaid :=
  OpenClaim.holds_of_wide 6 Try.f6 rfl rfl rfl rfl rfl rfl rfl ⟨rfl, rfl, rfl, rfl, rfl⟩ rfl rfl rfl rfl rfl (by kernel_rfl) Try.func6 (by kernel_rfl)
    (of_decide_eq_true (by kernel_rfl)) (by unfold Func.isWrapper; first | (rw [if_pos (by decide +kernel)]; kernel_rfl) | (rw [if_neg (by decide +kernel)]; exact ⟨rfl, rfl⟩))
    (fun os started H enc _ => law39Tops_lifted os started H enc)
#print axioms law39Tops_holds
end Go.Proofs.Ytohjgegnamcnlaa
