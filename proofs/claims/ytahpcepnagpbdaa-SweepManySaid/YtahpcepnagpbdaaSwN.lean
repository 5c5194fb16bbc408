/- The relation by the reference, the conditions of a join, the pairs of a join. -/
import Derived.Test.YtahpcepnagpbdaaSwM
namespace Go.Proofs.Ytahpcepnagpbdaa
open Go.RowKit Go.Shelf

set_option maxRecDepth 100000 in
set_option maxHeartbeats 4000000 in
theorem r10Of_c (p q r s : Int) (w : World) (ho : okSpan (p, q) = true) (ho' : okSpan (r, s) = true) : Calls Try.prog 63 #[.agg #[.int .i64 p, .int .i64 q], .agg #[.int .i64 r, .int .i64 s]] w (Ret w (.int .i64 (ofI (p, q) (r, s)))) := by
  have k1 := fun W => r10Valid_c p q W
  have k2 := fun W => r10Valid_c r s W
  rw [ho] at k1
  rw [ho'] at k2
  have K1 := Lib.hid k1; have K2 := Lib.hid k2
  obtain ⟨R, hR⟩ : ∃ R, R = ofI (p, q) (r, s) := ⟨_, rfl⟩
  rw [← hR]
  unfold ofI at hR
  simp only at hR
  have HR := Lib.hid hR
  clear k1 k2 ho ho' hR
  go_enter Try.func63, Try.ntmps63
  go_wp2_with fail
  have hB0 := ((Below.refl w.heap.size w).alloc (Nat.le_refl _) (.cells #[.int .i64 p, .int .i64 q] 31)).alloc (by simp) (.cells #[.int .i64 r, .int .i64 s] 31)
  have x0 : ((w.alloc (.cells #[.int .i64 p, .int .i64 q] 31)).alloc (.cells #[.int .i64 r, .int .i64 s] 31)).cell? ⟨w.heap.size, 0, none⟩ = some (.int .i64 p) := by simp
  have x1 : ((w.alloc (.cells #[.int .i64 p, .int .i64 q] 31)).alloc (.cells #[.int .i64 r, .int .i64 s] 31)).cell? ⟨w.heap.size, 1, none⟩ = some (.int .i64 q) := by simp
  have x2 : ((w.alloc (.cells #[.int .i64 p, .int .i64 q] 31)).alloc (.cells #[.int .i64 r, .int .i64 s] 31)).cell? ⟨w.heap.size + 1, 0, none⟩ = some (.int .i64 r) := by simp
  have x3 : ((w.alloc (.cells #[.int .i64 p, .int .i64 q] 31)).alloc (.cells #[.int .i64 r, .int .i64 s] 31)).cell? ⟨w.heap.size + 1, 1, none⟩ = some (.int .i64 s) := by simp
  have hz : w.heap.size + 1 < ((w.alloc (.cells #[.int .i64 p, .int .i64 q] 31)).alloc (.cells #[.int .i64 r, .int .i64 s] 31)).heap.size := by simp
  generalize (w.alloc (.cells #[.int .i64 p, .int .i64 q] 31)).alloc (.cells #[.int .i64 r, .int .i64 s] 31) = w0 at *
  refine (K1.out _).mono ?_
  rintro e w1 ⟨rfl, hX⟩
  have y2 := (hX.cell (p := ⟨w.heap.size + 1, 0, none⟩) hz).trans x2
  have y3 := (hX.cell (p := ⟨w.heap.size + 1, 1, none⟩) hz).trans x3
  go_wp2_with fail
  refine (K2.out _).mono ?_
  rintro e w2 ⟨rfl, hb⟩
  have hX := hX.trans (hb.mono hX.size)
  have hB2 := hB0.trans (hX.mono hB0.size)
  clear y2 y3
  have y0 := (hX.cell (p := ⟨w.heap.size, 0, none⟩) (Nat.lt_of_succ_lt hz)).trans x0
  have y1 := (hX.cell (p := ⟨w.heap.size, 1, none⟩) (Nat.lt_of_succ_lt hz)).trans x1
  have y2 := (hX.cell (p := ⟨w.heap.size + 1, 0, none⟩) hz).trans x2
  have y3 := (hX.cell (p := ⟨w.heap.size + 1, 1, none⟩) hz).trans x3
  have hR := HR.out
  clear HR
  by_cases a1 : q < r
  · rw [if_pos a1] at hR
    subst hR
    go_wp2
    go_ret
    exact ⟨rfl, hB2⟩
  rw [if_neg a1] at hR
  by_cases a2 : q = r
  · rw [if_pos a2] at hR
    have a2' : (q == r) = true := beq_iff_eq.2 a2
    clear a2
    subst hR
    go_wp2
    go_ret
    exact ⟨rfl, hB2⟩
  rw [if_neg a2] at hR
  have a2' : (q == r) = false := beq_eq_false_iff_ne.2 a2
  clear a2
  by_cases a3 : s < p
  · rw [if_pos a3] at hR
    subst hR
    go_wp2
    go_ret
    exact ⟨rfl, hB2⟩
  rw [if_neg a3] at hR
  by_cases a4 : s = p
  · rw [if_pos a4] at hR
    have a4' : (s == p) = true := beq_iff_eq.2 a4
    clear a4
    subst hR
    go_wp2
    go_ret
    exact ⟨rfl, hB2⟩
  rw [if_neg a4] at hR
  have a4' : (s == p) = false := beq_eq_false_iff_ne.2 a4
  clear a4
  have hc : (q < s ∧ (q == s) = false) ∨ (¬ q < s ∧ q = s ∧ (q == s) = true) ∨ (¬ q < s ∧ ¬ q = s ∧ (q == s) = false) := by
    by_cases h : q < s
    · exact .inl ⟨h, by rw [beq_eq_false_iff_ne]; omega⟩
    · by_cases h' : q = s
      · exact .inr (.inl ⟨h, h', beq_iff_eq.2 h'⟩)
      · exact .inr (.inr ⟨h, h', by rw [beq_eq_false_iff_ne]; exact h'⟩)
  have hd : (p < r ∧ (p == r) = false) ∨ (¬ p < r ∧ p = r ∧ (p == r) = true) ∨ (¬ p < r ∧ ¬ p = r ∧ (p == r) = false) := by
    by_cases h : p < r
    · exact .inl ⟨h, by rw [beq_eq_false_iff_ne]; omega⟩
    · by_cases h' : p = r
      · exact .inr (.inl ⟨h, h', beq_iff_eq.2 h'⟩)
      · exact .inr (.inr ⟨h, h', by rw [beq_eq_false_iff_ne]; exact h'⟩)
  rcases hd with ⟨d1, d3⟩ | ⟨d1, d2, d3⟩ | ⟨d1, d2, d3⟩ <;> rcases hc with ⟨c1, c3⟩ | ⟨c1, c2, c3⟩ | ⟨c1, c2, c3⟩
  · rw [if_pos d1] at hR
    rw [if_pos c1] at hR
    subst hR
    go_wp2
    go_ret
    exact ⟨rfl, hB2⟩
  · rw [if_pos d1] at hR
    rw [if_neg c1, if_pos c2] at hR
    subst hR
    clear c2
    go_wp2
    go_ret
    exact ⟨rfl, hB2⟩
  · rw [if_pos d1] at hR
    rw [if_neg c1, if_neg c2] at hR
    subst hR
    clear c2
    go_wp2
    go_ret
    exact ⟨rfl, hB2⟩
  · rw [if_neg d1, if_pos d2] at hR
    rw [if_pos c1] at hR
    subst hR
    clear d2
    go_wp2
    go_ret
    exact ⟨rfl, hB2⟩
  · rw [if_neg d1, if_pos d2] at hR
    rw [if_neg c1, if_pos c2] at hR
    subst hR
    clear d2
    clear c2
    go_wp2
    go_ret
    exact ⟨rfl, hB2⟩
  · rw [if_neg d1, if_pos d2] at hR
    rw [if_neg c1, if_neg c2] at hR
    subst hR
    clear d2
    clear c2
    go_wp2
    go_ret
    exact ⟨rfl, hB2⟩
  · rw [if_neg d1, if_neg d2] at hR
    rw [if_pos c1] at hR
    subst hR
    clear d2
    go_wp2
    go_ret
    exact ⟨rfl, hB2⟩
  · rw [if_neg d1, if_neg d2] at hR
    rw [if_neg c1, if_pos c2] at hR
    subst hR
    clear d2
    clear c2
    go_wp2
    go_ret
    exact ⟨rfl, hB2⟩
  · rw [if_neg d1, if_neg d2] at hR
    rw [if_neg c1, if_neg c2] at hR
    subst hR
    clear d2
    clear c2
    go_wp2
    go_ret
    exact ⟨rfl, hB2⟩

theorem scommon_c (p q r s : Int) (w : World) : Calls Try.prog 62 #[.agg #[.int .i64 p, .int .i64 q], .agg #[.int .i64 r, .int .i64 s]] w (Ret w (.bool (comSp (p, q) (r, s)))) := by
  by_cases h1 : p < s
  · by_cases h2 : r < q
    · rw [show comSp (p, q) (r, s) = true from by simp [comSp, h1, h2]]
      go_enter Try.func62, Try.ntmps62
      go_wp2
      go_ret
      exact ⟨rfl, by go_grown⟩
    · rw [show comSp (p, q) (r, s) = false from by simp [comSp, h2]]
      go_enter Try.func62, Try.ntmps62
      go_wp2
      go_ret
      exact ⟨rfl, by go_grown⟩
  · rw [show comSp (p, q) (r, s) = false from by simp [comSp, h1]]
    go_enter Try.func62, Try.ntmps62
    go_wp2
    go_ret
    exact ⟨rfl, by go_grown⟩
set_option maxRecDepth 100000 in
theorem sJoin1_c (p q r s set : Int) (g : Nat) (w : World) (hg : g < w.heap.size) (hs : w.cell? ⟨g, 0, none⟩ = some (.int .i64 set)) (ho : okSpan (p, q) = true) (ho' : okSpan (r, s) = true) :
    Calls Try.prog 61 #[.agg #[.int .i64 p, .int .i64 q], .agg #[.int .i64 r, .int .i64 s], .pointer (some ⟨g, 0, none⟩)] w (Ret w (.bool (bitB set (ofI (p, q) (r, s))))) := by
  have KK := Lib.hid (fun W => ivOf_c p q r s W ho ho')
  obtain ⟨hk0, hk1⟩ := ofI_bd (p, q) (r, s)
  generalize ofI (p, q) (r, s) = k at *
  have hgo : ∃ b, b = bitB set k := ⟨_, rfl⟩
  obtain ⟨b, hb⟩ := hgo
  rw [← hb]
  have Hb := Lib.hid hb
  clear hb ho ho'
  have hB0 := ((Below.refl w.heap.size w).alloc (Nat.le_refl _) (.cells #[.int .i64 p, .int .i64 q] 31)).alloc (by simp) (.cells #[.int .i64 r, .int .i64 s] 31)
  have x0 : ((w.alloc (.cells #[.int .i64 p, .int .i64 q] 31)).alloc (.cells #[.int .i64 r, .int .i64 s] 31)).cell? ⟨w.heap.size, 0, none⟩ = some (.int .i64 p) := by simp
  have x1 : ((w.alloc (.cells #[.int .i64 p, .int .i64 q] 31)).alloc (.cells #[.int .i64 r, .int .i64 s] 31)).cell? ⟨w.heap.size, 1, none⟩ = some (.int .i64 q) := by simp
  have x2 : ((w.alloc (.cells #[.int .i64 p, .int .i64 q] 31)).alloc (.cells #[.int .i64 r, .int .i64 s] 31)).cell? ⟨w.heap.size + 1, 0, none⟩ = some (.int .i64 r) := by simp
  have x3 : ((w.alloc (.cells #[.int .i64 p, .int .i64 q] 31)).alloc (.cells #[.int .i64 r, .int .i64 s] 31)).cell? ⟨w.heap.size + 1, 1, none⟩ = some (.int .i64 s) := by simp
  have x4 := (hB0.cell (p := ⟨g, 0, none⟩) hg).trans hs
  have hz : w.heap.size + 1 < ((w.alloc (.cells #[.int .i64 p, .int .i64 q] 31)).alloc (.cells #[.int .i64 r, .int .i64 s] 31)).heap.size := by simp
  have hz2 : g < ((w.alloc (.cells #[.int .i64 p, .int .i64 q] 31)).alloc (.cells #[.int .i64 r, .int .i64 s] 31)).heap.size := Nat.lt_of_lt_of_le hg hB0.size
  go_enter Try.func61, Try.ntmps61
  go_wp2
  generalize (w.alloc (.cells #[.int .i64 p, .int .i64 q] 31)).alloc (.cells #[.int .i64 r, .int .i64 s] 31) = w0 at *
  have f0 := fun X : BW w0 => bw_cell X x0 (Nat.lt_of_succ_lt hz)
  have f1 := fun X : BW w0 => bw_cell X x1 (Nat.lt_of_succ_lt hz)
  have f2 := fun X : BW w0 => bw_cell X x2 hz
  have f3 := fun X : BW w0 => bw_cell X x3 hz
  have f4 := fun X : BW w0 => bw_cell X x4 hz2
  refine wp_region_below (by kernel_rfl) (by kernel_rfl) ?_
  repeat (go_big_quiet_step ((go_at_call 32; exact calls_bw _ (KK.out _))))
  refine wpQuiet_nil ?_
  rintro w2 ⟨⟨_, hb2⟩, rfl⟩
  have hfin := hB0.trans (hb2.mono hB0.size)
  clear f0 f1 f2 f3 f4
  go_wp2
  go_ret
  exact ⟨ret_bool Hb.out.symm, hfin⟩
end Go.Proofs.Ytahpcepnagpbdaa
