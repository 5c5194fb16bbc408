/- Law 42: the relation by the reference (as in law 44) (as in law 44). -/
import Derived.Test.YtgdcgdjlhljbiaaIyA
namespace Go.Proofs.Ytgdcgdjlhljbiaa
open Go.RowKit Go.Shelf

set_option maxRecDepth 100000 in
set_option maxHeartbeats 4000000 in
theorem r10Of_c (p q r s : Int) (w : World) (ho : okSpan (p, q) = true) (ho' : okSpan (r, s) = true) : Calls Try.prog 63 #[.agg #[.int .i64 p, .int .i64 q], .agg #[.int .i64 r, .int .i64 s]] w (Ret w (.int .i64 (ofI (p, q) (r, s)))) := by
  have k1 := fun W => r10Valid_c p q W
  have k2 := fun W => r10Valid_c r s W
  rw [ho] at k1
  rw [ho'] at k2
  have K1 := Lib.hid k1; have K2 := Lib.hid k2
  obtain ⟨R, hR⟩ : ∃ R, R = ofI (p, q) (r, s) := ⟨_, rfl⟩
  rw [← hR]
  unfold ofI at hR
  simp only at hR
  have HR := Lib.hid hR
  clear k1 k2 ho ho' hR
  go_enter Try.func63, Try.ntmps63
  go_wp2_with fail
  have hB0 := ((Below.refl w.heap.size w).alloc (Nat.le_refl _) (.cells #[.int .i64 p, .int .i64 q] 33)).alloc (by simp) (.cells #[.int .i64 r, .int .i64 s] 33)
  have x0 : ((w.alloc (.cells #[.int .i64 p, .int .i64 q] 33)).alloc (.cells #[.int .i64 r, .int .i64 s] 33)).cell? ⟨w.heap.size, 0, none⟩ = some (.int .i64 p) := by simp
  have x1 : ((w.alloc (.cells #[.int .i64 p, .int .i64 q] 33)).alloc (.cells #[.int .i64 r, .int .i64 s] 33)).cell? ⟨w.heap.size, 1, none⟩ = some (.int .i64 q) := by simp
  have x2 : ((w.alloc (.cells #[.int .i64 p, .int .i64 q] 33)).alloc (.cells #[.int .i64 r, .int .i64 s] 33)).cell? ⟨w.heap.size + 1, 0, none⟩ = some (.int .i64 r) := by simp
  have x3 : ((w.alloc (.cells #[.int .i64 p, .int .i64 q] 33)).alloc (.cells #[.int .i64 r, .int .i64 s] 33)).cell? ⟨w.heap.size + 1, 1, none⟩ = some (.int .i64 s) := by simp
  have hz : w.heap.size + 1 < ((w.alloc (.cells #[.int .i64 p, .int .i64 q] 33)).alloc (.cells #[.int .i64 r, .int .i64 s] 33)).heap.size := by simp
  generalize (w.alloc (.cells #[.int .i64 p, .int .i64 q] 33)).alloc (.cells #[.int .i64 r, .int .i64 s] 33) = w0 at *
  refine (K1.out _).mono ?_
  rintro e w1 ⟨rfl, hX⟩
  have y2 := (hX.cell (p := ⟨w.heap.size + 1, 0, none⟩) hz).trans x2
  have y3 := (hX.cell (p := ⟨w.heap.size + 1, 1, none⟩) hz).trans x3
  go_wp2_with fail
  refine (K2.out _).mono ?_
  rintro e w2 ⟨rfl, hb⟩
  have hX := hX.trans (hb.mono hX.size)
  have hB2 := hB0.trans (hX.mono hB0.size)
  clear y2 y3
  have y0 := (hX.cell (p := ⟨w.heap.size, 0, none⟩) (Nat.lt_of_succ_lt hz)).trans x0
  have y1 := (hX.cell (p := ⟨w.heap.size, 1, none⟩) (Nat.lt_of_succ_lt hz)).trans x1
  have y2 := (hX.cell (p := ⟨w.heap.size + 1, 0, none⟩) hz).trans x2
  have y3 := (hX.cell (p := ⟨w.heap.size + 1, 1, none⟩) hz).trans x3
  have hR := HR.out
  clear HR
  by_cases a1 : q < r
  · rw [if_pos a1] at hR
    subst hR
    go_wp2
    go_ret
    exact ⟨rfl, hB2⟩
  rw [if_neg a1] at hR
  by_cases a2 : q = r
  · rw [if_pos a2] at hR
    have a2' : (q == r) = true := beq_iff_eq.2 a2
    clear a2
    subst hR
    go_wp2
    go_ret
    exact ⟨rfl, hB2⟩
  rw [if_neg a2] at hR
  have a2' : (q == r) = false := beq_eq_false_iff_ne.2 a2
  clear a2
  by_cases a3 : s < p
  · rw [if_pos a3] at hR
    subst hR
    go_wp2
    go_ret
    exact ⟨rfl, hB2⟩
  rw [if_neg a3] at hR
  by_cases a4 : s = p
  · rw [if_pos a4] at hR
    have a4' : (s == p) = true := beq_iff_eq.2 a4
    clear a4
    subst hR
    go_wp2
    go_ret
    exact ⟨rfl, hB2⟩
  rw [if_neg a4] at hR
  have a4' : (s == p) = false := beq_eq_false_iff_ne.2 a4
  clear a4
  have hc : (q < s ∧ (q == s) = false) ∨ (¬ q < s ∧ q = s ∧ (q == s) = true) ∨ (¬ q < s ∧ ¬ q = s ∧ (q == s) = false) := by
    by_cases h : q < s
    · exact .inl ⟨h, by rw [beq_eq_false_iff_ne]; omega⟩
    · by_cases h' : q = s
      · exact .inr (.inl ⟨h, h', beq_iff_eq.2 h'⟩)
      · exact .inr (.inr ⟨h, h', by rw [beq_eq_false_iff_ne]; exact h'⟩)
  have hd : (p < r ∧ (p == r) = false) ∨ (¬ p < r ∧ p = r ∧ (p == r) = true) ∨ (¬ p < r ∧ ¬ p = r ∧ (p == r) = false) := by
    by_cases h : p < r
    · exact .inl ⟨h, by rw [beq_eq_false_iff_ne]; omega⟩
    · by_cases h' : p = r
      · exact .inr (.inl ⟨h, h', beq_iff_eq.2 h'⟩)
      · exact .inr (.inr ⟨h, h', by rw [beq_eq_false_iff_ne]; exact h'⟩)
  rcases hd with ⟨d1, d3⟩ | ⟨d1, d2, d3⟩ | ⟨d1, d2, d3⟩ <;> rcases hc with ⟨c1, c3⟩ | ⟨c1, c2, c3⟩ | ⟨c1, c2, c3⟩
  · rw [if_pos d1] at hR
    rw [if_pos c1] at hR
    subst hR
    go_wp2
    go_ret
    exact ⟨rfl, hB2⟩
  · rw [if_pos d1] at hR
    rw [if_neg c1, if_pos c2] at hR
    subst hR
    clear c2
    go_wp2
    go_ret
    exact ⟨rfl, hB2⟩
  · rw [if_pos d1] at hR
    rw [if_neg c1, if_neg c2] at hR
    subst hR
    clear c2
    go_wp2
    go_ret
    exact ⟨rfl, hB2⟩
  · rw [if_neg d1, if_pos d2] at hR
    rw [if_pos c1] at hR
    subst hR
    clear d2
    go_wp2
    go_ret
    exact ⟨rfl, hB2⟩
  · rw [if_neg d1, if_pos d2] at hR
    rw [if_neg c1, if_pos c2] at hR
    subst hR
    clear d2
    clear c2
    go_wp2
    go_ret
    exact ⟨rfl, hB2⟩
  · rw [if_neg d1, if_pos d2] at hR
    rw [if_neg c1, if_neg c2] at hR
    subst hR
    clear d2
    clear c2
    go_wp2
    go_ret
    exact ⟨rfl, hB2⟩
  · rw [if_neg d1, if_neg d2] at hR
    rw [if_pos c1] at hR
    subst hR
    clear d2
    go_wp2
    go_ret
    exact ⟨rfl, hB2⟩
  · rw [if_neg d1, if_neg d2] at hR
    rw [if_neg c1, if_pos c2] at hR
    subst hR
    clear d2
    clear c2
    go_wp2
    go_ret
    exact ⟨rfl, hB2⟩
  · rw [if_neg d1, if_neg d2] at hR
    rw [if_neg c1, if_neg c2] at hR
    subst hR
    clear d2
    clear c2
    go_wp2
    go_ret
    exact ⟨rfl, hB2⟩
end Go.Proofs.Ytgdcgdjlhljbiaa
