/- Law 42: the walk of index.compare. -/
import Derived.Test.YtgdcgdjlhljbiaaIdxM
import Derived.Test.YtgdcgdjlhljbiaaPre
namespace Go.Proofs.Ytgdcgdjlhljbiaa
open Go.RowKit Go.Shelf
open Go.Sort (grow SWO PermIn SortedIn Holds)

/-! ### index.compare -/
def enV (x : En) : Value := .agg #[.int .i64 x.1, .int .i64 x.2.1, .int .i64 x.2.2]
def cmpE (x y : En) : Int := orI (cmpI x.1 y.1) (orI (cmpI x.2.1 y.2.1) (cmpI x.2.2 y.2.2))
theorem cmpE_lt (x y : En) : decide (cmpE x y < 0) = decide (enLt x y) := by
  rw [decide_eq_decide]
  unfold cmpE orI cmpI enLt
  repeat' split
  all_goals omega
theorem cmpE_ge (x y : En) : (0 ≤ cmpE x y) ↔ ¬ enLt x y := by
  unfold cmpE orI cmpI enLt
  repeat' split
  all_goals omega
theorem cmpE_eq (x y : En) : cmpE x y = 0 ↔ x = y := by
  obtain ⟨a, b, c⟩ := x
  obtain ⟨d, e, f⟩ := y
  simp only [Prod.mk.injEq]
  unfold cmpE orI cmpI
  simp only
  repeat' split
  all_goals omega
theorem orL_three (a b c : Int) : orL [a, b, c] = orI a (orI b c) := by
  unfold orI
  simp only [orL]
  repeat' split
  all_goals first | rfl | omega
set_option maxRecDepth 100000 in
theorem xcompare_c (x y : En) (w : World) : Calls Try.prog 52 #[enV x, enV y] w (Grown w (.int .i64 (cmpE x y))) := by
  obtain ⟨a0, a1, a2⟩ := x
  obtain ⟨b0, b1, b2⟩ := y
  have hcmp : ∀ x y (W : World), Calls Try.prog 73 #[.int .i64 x, .int .i64 y] W (Grown W (.int .i64 (cmpI x y))) := fun x y W => (cmpCompare_c x y W).mono fun _ _ ⟨he, hw⟩ => ⟨he, hw ▸ grown_same W⟩
  have Hcmp := Lib.hid hcmp; clear hcmp
  obtain ⟨r, hr⟩ : ∃ r, r = cmpE (a0, a1, a2) (b0, b1, b2) := ⟨_, rfl⟩
  rw [← hr]
  have Hr := Lib.hid hr; clear hr
  unfold enV
  go_enter Try.func52, Try.ntmps52
  go_wp2_with fail
  have hgw : ∃ n os, (w.alloc (.cells #[.int .i64 a0, .int .i64 a1, .int .i64 a2] 75)).alloc (.cells #[.int .i64 b0, .int .i64 b1, .int .i64 b2] 75) = grow (w.drewN n) os := grown_trans (grown_alloc _ _) (grown_alloc _ _)
  have x0 : ((w.alloc (.cells #[.int .i64 a0, .int .i64 a1, .int .i64 a2] 75)).alloc (.cells #[.int .i64 b0, .int .i64 b1, .int .i64 b2] 75)).cell? ⟨w.heap.size, 0, none⟩ = some (.int .i64 a0) := by simp
  have x1 : ((w.alloc (.cells #[.int .i64 a0, .int .i64 a1, .int .i64 a2] 75)).alloc (.cells #[.int .i64 b0, .int .i64 b1, .int .i64 b2] 75)).cell? ⟨w.heap.size, 1, none⟩ = some (.int .i64 a1) := by simp
  have x2 : ((w.alloc (.cells #[.int .i64 a0, .int .i64 a1, .int .i64 a2] 75)).alloc (.cells #[.int .i64 b0, .int .i64 b1, .int .i64 b2] 75)).cell? ⟨w.heap.size, 2, none⟩ = some (.int .i64 a2) := by simp
  have y0 : ((w.alloc (.cells #[.int .i64 a0, .int .i64 a1, .int .i64 a2] 75)).alloc (.cells #[.int .i64 b0, .int .i64 b1, .int .i64 b2] 75)).cell? ⟨w.heap.size + 1, 0, none⟩ = some (.int .i64 b0) := by simp
  have y1 : ((w.alloc (.cells #[.int .i64 a0, .int .i64 a1, .int .i64 a2] 75)).alloc (.cells #[.int .i64 b0, .int .i64 b1, .int .i64 b2] 75)).cell? ⟨w.heap.size + 1, 1, none⟩ = some (.int .i64 b1) := by simp
  have y2 : ((w.alloc (.cells #[.int .i64 a0, .int .i64 a1, .int .i64 a2] 75)).alloc (.cells #[.int .i64 b0, .int .i64 b1, .int .i64 b2] 75)).cell? ⟨w.heap.size + 1, 2, none⟩ = some (.int .i64 b2) := by simp
  have hz : w.heap.size + 1 < ((w.alloc (.cells #[.int .i64 a0, .int .i64 a1, .int .i64 a2] 75)).alloc (.cells #[.int .i64 b0, .int .i64 b1, .int .i64 b2] 75)).heap.size := by simp
  generalize ((w.alloc (.cells #[.int .i64 a0, .int .i64 a1, .int .i64 a2] 75)).alloc (.cells #[.int .i64 b0, .int .i64 b1, .int .i64 b2] 75)) = w0 at *
  have e0 := fun x : GW w0 => gw_cell x x0 (Nat.lt_of_succ_lt hz)
  have e1 := fun x : GW w0 => gw_cell x x1 (Nat.lt_of_succ_lt hz)
  have e2 := fun x : GW w0 => gw_cell x x2 (Nat.lt_of_succ_lt hz)
  have e3 := fun x : GW w0 => gw_cell x y0 hz
  have e4 := fun x : GW w0 => gw_cell x y1 hz
  have e5 := fun x : GW w0 => gw_cell x y2 hz
  clear x0 x1 x2 y0 y1 y2
  refine wp_region_grown_tail 19 (by kernel_rfl) (by kernel_rfl) ?_
  simp only [List.take_succ_cons, List.take_zero, List.drop_succ_cons, List.drop_zero]
  repeat (go_big_quiet_step (first | (go_at_call 73; exact calls_gw _ (Hcmp.out _ _ _))))
  refine wpQuiet_nil ?_
  rintro w1 ⟨⟨_, hgr⟩, rfl⟩
  have hr2 : r = orI (cmpI a0 b0) (orI (cmpI a1 b1) (cmpI a2 b2)) := Hr.out
  generalize cmpI a0 b0 = r1 at *
  generalize cmpI a1 b1 = r2 at *
  generalize cmpI a2 b2 = r3 at *
  have Hr2 := Lib.hid hr2; clear hr2 Hr e0 e1 e2 e3 e4 e5
  have Hgr := Lib.hid (grown_trans hgw hgr); clear hgr hgw
  go_wp2_with fail
  refine (cmpOr_c _ [r1, r2, r3] _ (ints_lit w1.heap.size [r1, r2, r3] 3 rfl rfl rfl (by omega))).mono ?_
  rintro e w2 ⟨rfl, rfl⟩
  go_wp2
  go_ret
  exact ⟨ret_int (by rw [orL_three]; exact Hr2.out.symm), grown_trans Hgr.out (grown_alloc _ _)⟩
theorem xcompare_b (x y : En) (w : World) : Calls Try.prog 52 #[enV x, enV y] w (Ret w (.int .i64 (cmpE x y))) := (xcompare_c x y w).mono fun _ _ h => h.ret
end Go.Proofs.Ytgdcgdjlhljbiaa
