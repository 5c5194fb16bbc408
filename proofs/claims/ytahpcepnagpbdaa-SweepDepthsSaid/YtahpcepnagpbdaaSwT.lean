/- The walks of law 44's same at equal lists of facts. -/
import Derived.Test.YtahpcepnagpbdaaSwJ
namespace Go.Proofs.Ytahpcepnagpbdaa
open Go.RowKit Go.Shelf

theorem val_neq (n : Int) (w : World) : (binOp .neq 38 (.agg #[.int .i64 1, .int .i64 n, .string ⟨#[]⟩]) (.agg #[.int .i64 1, .int .i64 n, .string ⟨#[]⟩])).run Try.prog w = .ok (.bool false) w := by
  rw [run_neq_struct]
  simp [go_sem]
theorem span_same (p q : Int) (w : World) : (binOp .eql 31 (.agg #[.int .i64 p, .int .i64 q]) (.agg #[.int .i64 p, .int .i64 q])).run Try.prog w = .ok (.bool true) w := by
  rw [run_eql_struct]
  simp [go_sem]
attribute [local go_sem ↓] val_neq span_same
/-- What lies in a list of one value. -/
def ValAt (w : World) (vb vo vc : Nat) (n : Int) : Prop := 1 ≤ vc ∧ vc ≤ 9223372036854775807 ∧ vb < w.heap.size ∧ w.cell? ⟨vb, vo, none⟩ = some (.int .i64 1) ∧ w.cell? ⟨vb, vo + 1, none⟩ = some (.int .i64 n) ∧ w.cell? ⟨vb, vo + 2, none⟩ = some (.string ⟨#[]⟩)
theorem ValAt.below {w w' : World} {vb vo vc : Nat} {n : Int} (h : ValAt w vb vo vc n) (hb : Below w.heap.size w w') : ValAt w' vb vo vc n := by
  obtain ⟨h1, h2, h3, h4, h5, h6⟩ := h
  exact ⟨h1, h2, Nat.lt_of_lt_of_le h3 hb.size, (hb.cell (p := ⟨vb, vo, none⟩) h3).trans h4, (hb.cell (p := ⟨vb, vo + 1, none⟩) h3).trans h5, (hb.cell (p := ⟨vb, vo + 2, none⟩) h3).trans h6⟩
theorem FactAt.val {w : World} {b off i : Nat} {F : List Dep} {vb vo vc : Nat} (h : FactAt w b off i F vb vo vc) : ValAt w vb vo vc (dn F i) := h.2.2.2
set_option maxRecDepth 100000 in
theorem slEqualValue_c (vb vo vc ub uo uc : Nat) (n : Int) (w : World) (h1 : ValAt w vb vo vc n) (h2 : ValAt w ub uo uc n) :
    Calls Try.prog 67 #[.slice (some ⟨vb, vo, none⟩) 1 vc, .slice (some ⟨ub, uo, none⟩) 1 uc] w (Ret w (.bool true)) := by
  obtain ⟨a1, a2, a3, a4, a5, a6⟩ := h1
  obtain ⟨b1, b2, b3, b4, b5, b6⟩ := h2
  go_enter Try.func67, Try.ntmps67
  go_wp2
  go_loopw [13] (fun i wr => ∃ k : Nat, k ≤ 1 ∧ i = .int .i64 k ∧ Below w.heap.size w wr) (fun i _ => 1 - (intOf i).toNat)
  case atStart => exact ⟨0, by omega, rfl, Below.refl _ _⟩
  case round =>
    obtain ⟨k, hk, rfl, hb⟩ := hrel
    rcases (by omega : k = 0 ∨ k = 1) with rfl | rfl
    · have z1 : vb < wr.heap.size := Nat.lt_of_lt_of_le a3 hb.size
      have z2 : ub < wr.heap.size := Nat.lt_of_lt_of_le b3 hb.size
      have e0 := fun X : BW wr => bw_cell X ((hb.cell (p := ⟨vb, vo, none⟩) a3).trans a4) z1
      have e1 := fun X : BW wr => bw_cell X ((hb.cell (p := ⟨vb, vo + 1, none⟩) a3).trans a5) z1
      have e2 := fun X : BW wr => bw_cell X ((hb.cell (p := ⟨vb, vo + 2, none⟩) a3).trans a6) z1
      have f0 := fun X : BW wr => bw_cell X ((hb.cell (p := ⟨ub, uo, none⟩) b3).trans b4) z2
      have f1 := fun X : BW wr => bw_cell X ((hb.cell (p := ⟨ub, uo + 1, none⟩) b3).trans b5) z2
      have f2 := fun X : BW wr => bw_cell X ((hb.cell (p := ⟨ub, uo + 2, none⟩) b3).trans b6) z2
      go_wp2
      refine wp_region_below (by kernel_rfl) (by kernel_rfl) ?_
      repeat (go_big_quiet_step (fail))
      refine wpQuiet_nil ?_
      rintro w5 ⟨⟨_, hb5⟩, rfl⟩
      have hb6 := hb.trans (hb5.mono hb.size)
      clear e0 e1 e2 f0 f1 f2
      go_wp2
      go_roundw
      case rel => exact ⟨1, by omega, by go_num, hb6⟩
      case measure => simp [intOf]
    · go_wp2
      go_ret
      exact ⟨rfl, hb⟩
set_option maxRecDepth 100000 in
theorem law44same1_c (vb vo vc ub uo uc : Nat) (n p q : Int) (w : World) (h1 : ValAt w vb vo vc n) (h2 : ValAt w ub uo uc n) :
    Calls Try.prog 66 #[.agg #[.slice (some ⟨vb, vo, none⟩) 1 vc, .int .i64 p, .int .i64 q], .agg #[.slice (some ⟨ub, uo, none⟩) 1 uc, .int .i64 p, .int .i64 q]] w (Ret w (.bool true)) := by
  go_enter Try.func66, Try.ntmps66
  go_wp2_with fail
  have hB0 := ((Below.refl w.heap.size w).alloc (Nat.le_refl _) (.cells #[.slice (some ⟨vb, vo, none⟩) 1 vc, .int .i64 p, .int .i64 q] 36)).alloc (by simp) (.cells #[.slice (some ⟨ub, uo, none⟩) 1 uc, .int .i64 p, .int .i64 q] 36)
  have x1 : ((w.alloc (.cells #[.slice (some ⟨vb, vo, none⟩) 1 vc, .int .i64 p, .int .i64 q] 36)).alloc (.cells #[.slice (some ⟨ub, uo, none⟩) 1 uc, .int .i64 p, .int .i64 q] 36)).cell? ⟨w.heap.size, 1, none⟩ = some (.int .i64 p) := by simp
  have x2 : ((w.alloc (.cells #[.slice (some ⟨vb, vo, none⟩) 1 vc, .int .i64 p, .int .i64 q] 36)).alloc (.cells #[.slice (some ⟨ub, uo, none⟩) 1 uc, .int .i64 p, .int .i64 q] 36)).cell? ⟨w.heap.size, 2, none⟩ = some (.int .i64 q) := by simp
  have x3 : ((w.alloc (.cells #[.slice (some ⟨vb, vo, none⟩) 1 vc, .int .i64 p, .int .i64 q] 36)).alloc (.cells #[.slice (some ⟨ub, uo, none⟩) 1 uc, .int .i64 p, .int .i64 q] 36)).cell? ⟨w.heap.size + 1, 1, none⟩ = some (.int .i64 p) := by simp
  have x4 : ((w.alloc (.cells #[.slice (some ⟨vb, vo, none⟩) 1 vc, .int .i64 p, .int .i64 q] 36)).alloc (.cells #[.slice (some ⟨ub, uo, none⟩) 1 uc, .int .i64 p, .int .i64 q] 36)).cell? ⟨w.heap.size + 1, 2, none⟩ = some (.int .i64 q) := by simp
  have hz : w.heap.size + 1 < ((w.alloc (.cells #[.slice (some ⟨vb, vo, none⟩) 1 vc, .int .i64 p, .int .i64 q] 36)).alloc (.cells #[.slice (some ⟨ub, uo, none⟩) 1 uc, .int .i64 p, .int .i64 q] 36)).heap.size := by simp
  generalize (w.alloc (.cells #[.slice (some ⟨vb, vo, none⟩) 1 vc, .int .i64 p, .int .i64 q] 36)).alloc (.cells #[.slice (some ⟨ub, uo, none⟩) 1 uc, .int .i64 p, .int .i64 q] 36) = w0 at *
  refine (slEqualValue_c vb vo vc ub uo uc n _ (h1.below hB0) (h2.below hB0)).mono ?_
  rintro e w1 ⟨rfl, hb⟩
  have hB := hB0.trans (hb.mono hB0.size)
  have y1 := (hb.cell (p := ⟨w.heap.size, 1, none⟩) (Nat.lt_of_succ_lt hz)).trans x1
  have y2 := (hb.cell (p := ⟨w.heap.size, 2, none⟩) (Nat.lt_of_succ_lt hz)).trans x2
  have y3 := (hb.cell (p := ⟨w.heap.size + 1, 1, none⟩) hz).trans x3
  have y4 := (hb.cell (p := ⟨w.heap.size + 1, 2, none⟩) hz).trans x4
  go_wp2
  go_ret
  exact ⟨rfl, hB⟩
theorem ent_law44same1 : ∀ (args : Array Value) (w : World), Sem.run Try.prog (callFunc 66 args) w = .ok (.enter 66 args) w := fun _ _ => by kernel_rfl
set_option maxRecDepth 100000 in
theorem slEqualFuncFact_c (v1 v2 : Value) (F : List Dep) (w : World) (h1 : IsFacts w v1 F) (h2 : IsFacts w v2 F) : Calls Try.prog 65 #[v1, v2, .func (.func 66) #[] #[]] w (Ret w (.bool true)) := by
  obtain ⟨A, c, rfl, hnc, hc⟩ := h1.form
  obtain ⟨B, d, rfl, hnd, hd⟩ := h2.form
  go_enter Try.func65, Try.ntmps65
  go_wp2
  go_loopw [17] (fun i wr => ∃ k : Nat, i = .int .i64 k ∧ k ≤ F.length ∧ Below w.heap.size w wr) (fun i _ => F.length - (intOf i).toNat)
  case atStart => exact ⟨0, rfl, Nat.zero_le _, Below.refl _ _⟩
  case round =>
    obtain ⟨k, rfl, hk, hbw⟩ := hrel
    by_cases hlt : k < F.length
    · obtain ⟨g1, o1, rfl, hg1⟩ := h1.addr (by omega)
      obtain ⟨g2, o2, rfl, hg2⟩ := h2.addr (by omega)
      obtain ⟨vb, vo, vc, hf⟩ := (h1.below hbw).row k hlt
      obtain ⟨ub, uo, uc, hg⟩ := (h2.below hbw).row k hlt
      have hv := hf.val
      have hu := hg.val
      obtain ⟨c0, c1, c2, _⟩ := hf
      obtain ⟨d0, d1, d2, _⟩ := hg
      generalize dn F k = n at *
      generalize df F k = p at *
      generalize dt F k = q at *
      have hal := hbw.alloc hbw.size (.cells #[.slice (some ⟨vb, vo, none⟩) 1 vc, .int .i64 p, .int .i64 q] 36)
      have ha1 := (Below.refl wr.heap.size wr).alloc (Nat.le_refl _) (.cells #[.slice (some ⟨vb, vo, none⟩) 1 vc, .int .i64 p, .int .i64 q] 36)
      have zz : g2 < wr.heap.size := Nat.lt_of_lt_of_le hg2 hbw.size
      have d0' := (ha1.cell (p := ⟨g2, o2 + k * 3, none⟩) zz).trans d0
      have d1' := (ha1.cell (p := ⟨g2, o2 + k * 3 + 1, none⟩) zz).trans d1
      have d2' := (ha1.cell (p := ⟨g2, o2 + k * 3 + 2, none⟩) zz).trans d2
      have hal2 := hal.alloc hal.size (.cells #[.slice (some ⟨ub, uo, none⟩) 1 uc, .int .i64 p, .int .i64 q] 36)
      have ha2 := ha1.alloc ha1.size (.cells #[.slice (some ⟨ub, uo, none⟩) 1 uc, .int .i64 p, .int .i64 q] 36)
      have hcall := law44same1_c vb vo vc ub uo uc n p q _ (hv.below ha2) (hu.below ha2)
      have Hcall := Lib.hid hcall
      clear hcall hv hu
      go_wp2_with fail
      refine Hcall.out.mono ?_
      rintro e w5 ⟨rfl, hb5⟩
      have hfin := hal2.trans (hb5.mono hal2.size)
      clear d0 d1 d2 d0' d1' d2' c0 c1 c2
      go_wp2
      go_roundw
      case rel => exact ⟨k + 1, by go_num, hlt, hfin⟩
      case measure => simp [intOf]; omega
    · obtain rfl : k = F.length := by omega
      go_wp2
      go_ret
      exact ⟨rfl, hbw⟩
theorem law44same_c (v1 v2 : Value) (F : List Dep) (w : World) (h1 : IsFacts w v1 F) (h2 : IsFacts w v2 F) : Calls Try.prog 33 #[v1, v2] w (Ret w (.bool true)) := by
  go_enter Try.func33, Try.ntmps33
  go_wp2_with fail
  refine (slEqualFuncFact_c _ _ F _ h1 h2).mono ?_
  rintro e w1 ⟨rfl, hb⟩
  go_wp2
  go_ret
  exact ⟨rfl, hb⟩
end Go.Proofs.Ytahpcepnagpbdaa
