/- Law 42: the walk of the reference's Valid. -/
import Derived.Test.YtgdcgdjlhljbiaaIdxG
import Derived.Test.YtgdcgdjlhljbiaaPre
namespace Go.Proofs.Ytgdcgdjlhljbiaa
open Go.RowKit

set_option maxRecDepth 100000 in
theorem r42Before_c (x y : En) (w : World) : Calls Try.prog 49 #[.agg #[.int .i64 x.1, .int .i64 x.2.1, .int .i64 x.2.2], .agg #[.int .i64 y.1, .int .i64 y.2.1, .int .i64 y.2.2]] w (Ret w (.bool (decide (enLt x y)))) := by
  have hb := before_iff x y
  obtain ⟨x0, x1, x2⟩ := x
  obtain ⟨y0, y1, y2⟩ := y
  simp only at hb ⊢
  by_cases h0 : x0 = y0
  · by_cases h1 : x1 = y1
    · subst h0 h1
      simp only [ne_eq, not_true_eq_false, if_false] at hb
      rw [← hb]
      clear hb
      have hb := ((Below.refl w.heap.size w).alloc (Nat.le_refl _) (.cells #[.int .i64 x0, .int .i64 x1, .int .i64 x2] 39)).alloc (by simp) (.cells #[.int .i64 x0, .int .i64 x1, .int .i64 y2] 39)
      go_enter Try.func49, Try.ntmps49
      go_wp2_with fail
      go_ret
      exact ⟨rfl, hb⟩
    · subst h0
      have e1 : (x1 == y1) = false := beq_eq_false_iff_ne.2 h1
      simp only [ne_eq, not_true_eq_false, if_false, h1, not_false_eq_true, if_true] at hb
      rw [← hb]
      clear hb
      have hb := ((Below.refl w.heap.size w).alloc (Nat.le_refl _) (.cells #[.int .i64 x0, .int .i64 x1, .int .i64 x2] 39)).alloc (by simp) (.cells #[.int .i64 x0, .int .i64 y1, .int .i64 y2] 39)
      go_enter Try.func49, Try.ntmps49
      go_wp2_with fail
      go_ret
      exact ⟨rfl, hb⟩
  · have e0 : (x0 == y0) = false := beq_eq_false_iff_ne.2 h0
    simp only [ne_eq, h0, not_false_eq_true, if_true] at hb
    rw [← hb]
    clear hb
    have hb := ((Below.refl w.heap.size w).alloc (Nat.le_refl _) (.cells #[.int .i64 x0, .int .i64 x1, .int .i64 x2] 39)).alloc (by simp) (.cells #[.int .i64 y0, .int .i64 y1, .int .i64 y2] 39)
    go_enter Try.func49, Try.ntmps49
    go_wp2_with fail
    go_ret
    exact ⟨rfl, hb⟩
theorem r42height_c (v : Value) (root i : Int) (N : List Nd) (w : World) (hs : IsNodes w v N) (hi : i < N.length) : Calls Try.prog 47 #[.agg #[v, .int .i64 root], .int .i64 i] w (Ret w (.int .i64 (hOf N i))) := by
  obtain ⟨A, c, rfl, hnc, hc⟩ := hs.form
  have hb := (Below.refl w.heap.size w).alloc (Nat.le_refl _) (.cells #[.slice A N.length c, .int .i64 root] 24)
  by_cases h0 : i < 0
  · have e : hOf N i = 0 := if_pos h0
    rw [e]
    go_enter Try.func47, Try.ntmps47
    go_wp2_with fail
    go_ret
    exact ⟨rfl, hb⟩
  · obtain ⟨k, rfl⟩ : ∃ k : Nat, i = k := ⟨i.toNat, by omega⟩
    have hk : k < N.length := by omega
    have e : hOf N (k : Int) = (nd N k).h := if_neg h0
    rw [e]
    obtain ⟨b0, off, rfl, hb0⟩ := hs.addr (by omega)
    have d6 := (hs.below hb).c6 k hk
    go_enter Try.func47, Try.ntmps47
    go_wp2_with fail
    go_ret
    exact ⟨rfl, hb⟩
end Go.Proofs.Ytgdcgdjlhljbiaa
