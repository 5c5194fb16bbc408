/- Law 42: slices.Equal at nodes. -/
import Derived.Test.YtgdcgdjlhljbiaaGreat42
namespace Go.Proofs.Ytgdcgdjlhljbiaa
open Go.RowKit

theorem nd_neq (a b c d e f g : Int) (w : World) : (binOp .neq 60 (.agg #[.int .i64 a, .int .i64 b, .int .i64 c, .int .i64 d, .int .i64 e, .int .i64 f, .int .i64 g]) (.agg #[.int .i64 a, .int .i64 b, .int .i64 c, .int .i64 d, .int .i64 e, .int .i64 f, .int .i64 g])).run Try.prog w = .ok (.bool false) w := by
  rw [run_neq_struct]
  simp [go_sem]
attribute [local go_sem ↓] nd_neq
set_option maxRecDepth 100000 in
/-- Two slices that read as one list of nodes are equal. -/
theorem slEqualNode_same (v1 v2 : Value) (a : List Nd) (w : World) (h1 : IsNodes w v1 a) (h2 : IsNodes w v2 a) : Calls Try.prog 35 #[v1, v2] w (Ret w (.bool true)) := by
  obtain ⟨A, c, rfl, hnc, hc⟩ := h1.form
  obtain ⟨B, d, rfl, hnd, hd⟩ := h2.form
  go_enter Try.func35, Try.ntmps35
  go_wp2
  go_loopw [13] (fun i wr => ∃ k : Nat, k ≤ a.length ∧ i = .int .i64 k ∧ Below w.heap.size w wr) (fun i _ => a.length - (intOf i).toNat)
  case atStart => exact ⟨0, Nat.zero_le _, rfl, Below.refl _ _⟩
  case round =>
    obtain ⟨k, hk, rfl, hb⟩ := hrel
    by_cases hlt : k < a.length
    · obtain ⟨g, off, rfl, hbk⟩ := h1.addr (by omega)
      obtain ⟨g', off', rfl, hbk'⟩ := h2.addr (by omega)
      go_wp2
      have e0 := fun x : BW wr => ((h1.below hb).below x.2).c0 k hlt
      have e1 := fun x : BW wr => ((h1.below hb).below x.2).c1 k hlt
      have e2 := fun x : BW wr => ((h1.below hb).below x.2).c2 k hlt
      have e3 := fun x : BW wr => ((h1.below hb).below x.2).c3 k hlt
      have e4 := fun x : BW wr => ((h1.below hb).below x.2).c4 k hlt
      have e5 := fun x : BW wr => ((h1.below hb).below x.2).c5 k hlt
      have e6 := fun x : BW wr => ((h1.below hb).below x.2).c6 k hlt
      have f0 := fun x : BW wr => ((h2.below hb).below x.2).c0 k hlt
      have f1 := fun x : BW wr => ((h2.below hb).below x.2).c1 k hlt
      have f2 := fun x : BW wr => ((h2.below hb).below x.2).c2 k hlt
      have f3 := fun x : BW wr => ((h2.below hb).below x.2).c3 k hlt
      have f4 := fun x : BW wr => ((h2.below hb).below x.2).c4 k hlt
      have f5 := fun x : BW wr => ((h2.below hb).below x.2).c5 k hlt
      have f6 := fun x : BW wr => ((h2.below hb).below x.2).c6 k hlt
      refine wp_region_below (by kernel_rfl) (by kernel_rfl) ?_
      repeat (go_big_quiet_step (fail))
      refine wpQuiet_nil ?_
      rintro w2 ⟨⟨_, hb2⟩, rfl⟩
      have hb3 := hb.trans (hb2.mono hb.size)
      clear e0 e1 e2 e3 e4 e5 e6 f0 f1 f2 f3 f4 f5 f6
      go_wp2
      go_roundw
      case rel => exact ⟨k + 1, by omega, by go_num, hb3⟩
      case measure => simp [intOf]; omega
    · obtain rfl : k = a.length := by omega
      go_wp2
      go_ret
      exact ⟨rfl, hb⟩
end Go.Proofs.Ytgdcgdjlhljbiaa
