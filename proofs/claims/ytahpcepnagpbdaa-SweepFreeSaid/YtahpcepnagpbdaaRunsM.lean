
/- The walks of slices.Clone on spans, runs.Move and the reference's Move. -/
import Derived.Test.YtahpcepnagpbdaaRunsY
import Derived.Test.YtahpcepnagpbdaaRunsZ
import Derived.Test.YtahpcepnagpbdaaMove
import Derived.Deep.RegionHeld3
namespace Go.Proofs.Ytahpcepnagpbdaa
open Go.RowKit

theorem eql_nil (a : Option Addr) (n c : Nat) (w : World) : (binOp .eql 22 (.slice a n c) (.slice none 0 0)).run Try.prog w = .ok (.bool a.isNone) w := by
  simp only [binOp]
  simp [run_equal_slice_nil (P := Try.prog) w 22 31 a n c tSpans]
attribute [local go_sem ↓] eql_nil
theorem own_cell {w : World} {base g cap n : Nat} {e : TypeId} {L : List Sp} (h : w.ownsRow base e 2 (.slice (some ⟨g, 0, none⟩) n cap) n (flat L)) (hL : L.length = n) {k : Nat} (hk : k < n) :
    w.cell? ⟨g, k * 2, none⟩ = some (.int .i64 (fr L k)) ∧ w.cell? ⟨g, k * 2 + 1, none⟩ = some (.int .i64 (tt L k)) := by
  rw [h.cellAt (k * 2) (by omega), h.cellAt (k * 2 + 1) (by omega)]
  exact ⟨flat_get L k 0 (by omega) (by omega), flat_get L k 1 (by omega) (by omega)⟩

set_option maxRecDepth 100000 in
theorem slCloneSpan_c (v : Value) (l : List Sp) (w : World) (base : Nat) (hs : IsSpans w v l) (hbase : base ≤ w.heap.size) (hl : l.length ≤ 100000) : Calls Try.prog 71 #[v] w (RetOwn base w l) := by
  obtain ⟨A, c, rfl, hnc, hc⟩ := hs.form
  cases A with
  | none =>
    have hz : l.length = 0 := by
      rcases Nat.eq_zero_or_pos l.length with h | h
      · exact h
      · obtain ⟨b, off, h1, _⟩ := hs.addr h; cases h1
    obtain rfl : l = [] := List.length_eq_zero_iff.1 hz
    go_enter Try.func71, Try.ntmps71
    go_wp2
    go_ret
    exact ⟨_, rfl, own_nil _ _ _ _, Below.refl _ _⟩
  | some ad =>
    go_enter Try.func71, Try.ntmps71
    go_wp2_with (at_builtin; refine append_rows tSpans tSpanInfo rfl (by omega) (by omega) rfl (.tmp 5) (.tmp 6) rfl base _ 0 [] rfl (World.ownsRow_made w #[] 0 hbase (by unfold maxLen; omega) rfl) _ l.length _ rfl (flat l) (flat_length l) (by intro h; cases h) (fun ad had => flat_cells (hs.alloc _) ad had) (flat_one l) (by omega) (Nat.le_trans hbase (by simp)) ?_; intro v3 w1 hown1 hb1)
    go_ret
    refine ⟨v3, rfl, ?_, ((Below.refl base w).alloc hbase _).trans hb1⟩
    simpa using hown1

end Go.Proofs.Ytahpcepnagpbdaa
