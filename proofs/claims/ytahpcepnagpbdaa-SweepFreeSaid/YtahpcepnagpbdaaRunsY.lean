/- The walks of the reference's Add, keep, Combine, full. -/
import Derived.Test.YtahpcepnagpbdaaRunsX
import Derived.StillTailTactics
namespace Go.Proofs.Ytahpcepnagpbdaa
open Go.RowKit

/-- A list of the call's own handed back. -/
def RetOwn (base : Nat) (w : World) (r : List Sp) (e : Ending) (w' : World) : Prop := ∃ v', e = .returned v' ∧ w'.ownsRow base 31 2 v' r.length (flat r) ∧ Below base w w'
theorem own_form {w : World} {base : Nat} {e : TypeId} {v : Value} {r : List Sp} (h : w.ownsRow base e 2 v r.length (flat r)) (hr : 0 < r.length) : ∃ g cap, v = .slice (some ⟨g, 0, none⟩) r.length cap ∧ base ≤ g ∧ g < w.heap.size ∧ r.length ≤ cap ∧ cap ≤ 9223372036854775807 := by
  rcases h.2 with ⟨_, h0⟩ | ⟨g, cap, cur, rfl, hb, hg, hnc, hcm, _⟩
  · omega
  · exact ⟨g, cap, rfl, hb, (Array.getElem?_eq_some_iff.1 hg).1, hnc, by simp only [maxLen] at hcm; omega⟩
theorem flat_last {r : List Sp} {q : Int} (hr : 0 < r.length) : (flat r).set ((r.length - 1) * 2 + 1) (.int .i64 q) = flat (r.take (r.length - 1) ++ [(fr r (r.length - 1), q)]) := by
  have hr' : r = r.take (r.length - 1) ++ [(fr r (r.length - 1), tt r (r.length - 1))] := by
    rw [← sp_at r (r.length - 1) (by omega), ← List.take_succ_eq_append_getElem (by omega), show r.length - 1 + 1 = r.length from by omega, List.take_length]
  rw [flat_snoc]
  conv => lhs; rw [hr', flat_snoc]
  have hl : (flat (r.take (r.length - 1))).length = (r.length - 1) * 2 := by rw [flat_length, List.length_take]; omega
  have hl2 : (r.take (r.length - 1) ++ [(fr r (r.length - 1), tt r (r.length - 1))]).length = r.length := by rw [← hr']
  rw [hl2, List.set_append_right _ _ (by omega), hl, show (r.length - 1) * 2 + 1 - (r.length - 1) * 2 = 1 from by omega]
  rfl
theorem addL_push {r : List Sp} {p q : Int} (h : ¬ (0 < r.length ∧ tt r (r.length - 1) = p)) : addL r (p, q) = r ++ [(p, q)] := by
  unfold addL
  rw [if_neg]
  rintro ⟨h1, h2⟩
  exact h ⟨List.length_pos_iff.2 h1, h2⟩
theorem addL_join {r : List Sp} {p q : Int} (h : 0 < r.length) (h2 : tt r (r.length - 1) = p) : addL r (p, q) = r.take (r.length - 1) ++ [(fr r (r.length - 1), q)] := by
  unfold addL
  rw [if_pos ⟨List.length_pos_iff.1 h, h2⟩]
theorem join_len {r : List Sp} {s : Sp} (h : 0 < r.length) : (r.take (r.length - 1) ++ [s]).length = r.length := by simp; omega

theorem r12Add_c (v : Value) (r : List Sp) (p q : Int) (w : World) (base : Nat) (hown : w.ownsRow base 31 2 v r.length (flat r)) (hbase : base ≤ w.heap.size) (hl : r.length ≤ 100000) :
    Calls Try.prog 98 #[v, .agg #[.int .i64 p, .int .i64 q]] w (RetOwn base w (addL r (p, q))) := by
  have hal := (Below.refl base w).alloc hbase (.cells #[.int .i64 p, .int .i64 q] 31)
  have hown1 := hown.alloc (.cells #[.int .i64 p, .int .i64 q] 31)
  have b0 : (w.alloc (.cells #[.int .i64 p, .int .i64 q] 31)).cell? ⟨w.heap.size, 0, none⟩ = some (.int .i64 p) := by simp
  have b1 : (w.alloc (.cells #[.int .i64 p, .int .i64 q] 31)).cell? ⟨w.heap.size, 1, none⟩ = some (.int .i64 q) := by simp
  have hgt : w.heap.size < (w.alloc (.cells #[.int .i64 p, .int .i64 q] 31)).heap.size := by simp
  by_cases hr : 0 < r.length
  · obtain ⟨g, cap, rfl, hgb, hglt, hcap, hcm⟩ := own_form hown hr
    have hsp := spans_of_own hown1
    cases hp : (tt r (r.length - 1) == p)
    · have Hadd := Lib.hid (addL_push (q := q) (r := r) (p := p) (fun h => by rw [h.2] at hp; simp at hp))
      go_enter Try.func98, Try.ntmps98
      go_wp2_with fail
      generalize w.alloc (.cells #[.int .i64 p, .int .i64 q] 31) = w1 at *
      have e1 := fun x : BW w1 => (hsp.bw x).c1 (r.length - 1) (by omega)
      have e0 := fun x : BW w1 => bw_cell x b0 hgt
      simp only [Nat.zero_add] at e1
      refine wp_region_below (by kernel_rfl) (by kernel_rfl) ?_
      repeat (go_big_quiet_step (fail))
      refine wpQuiet_nil ?_
      rintro w2 ⟨⟨_, hb2⟩, rfl⟩
      have hown2 := own_below hown1 hb2 (Nat.le_refl _)
      have b0 := (hb2.cell (p := ⟨w.heap.size, 0, none⟩) hgt).trans b0
      have b1 := (hb2.cell (p := ⟨w.heap.size, 1, none⟩) hgt).trans b1
      have hB := hal.trans (hb2.mono (Nat.le_trans hbase hal.size))
      clear e0 e1
      go_wp2_with (at_builtin; refine append_span tSpans tSpanInfo (by rfl) (.tmp 29) (.tmp 31) (by rfl) base _ r _ _ (by rfl) hown2 (by rfl) (by omega) (Nat.le_trans hbase hB.size) ?_; intro v3 w3 hown3 hb3; have hB := hB.trans hb3)
      go_ret
      exact ⟨v3, rfl, by rw [Hadd.out]; exact hown3, hB⟩
    · have hp' : tt r (r.length - 1) = p := by simpa using hp
      have Hadd := Lib.hid (addL_join (q := q) hr hp')
      clear hp'
      go_enter Try.func98, Try.ntmps98
      go_wp2_with fail
      generalize w.alloc (.cells #[.int .i64 p, .int .i64 q] 31) = w1 at *
      have e1 := fun x : BW w1 => (hsp.bw x).c1 (r.length - 1) (by omega)
      have e0 := fun x : BW w1 => bw_cell x b0 hgt
      simp only [Nat.zero_add] at e1
      refine wp_region_below (by kernel_rfl) (by kernel_rfl) ?_
      repeat (go_big_quiet_step (fail))
      refine wpQuiet_nil ?_
      rintro w2 ⟨⟨_, hb2⟩, rfl⟩
      have hown2 := own_below hown1 hb2 (Nat.le_refl _)
      have b0 := (hb2.cell (p := ⟨w.heap.size, 0, none⟩) hgt).trans b0
      have b1 := (hb2.cell (p := ⟨w.heap.size, 1, none⟩) hgt).trans b1
      have hB := hal.trans (hb2.mono (Nat.le_trans hbase hal.size))
      clear e0 e1
      have f1 := hown2.frozenAt ((r.length - 1) * 2 + 1)
      have hst := (hown2.stored ((r.length - 1) * 2 + 1) (.int .i64 q)).1
      rw [flat_last hr] at hst
      have hB2 : Below base w (w2.setCell ⟨g, (r.length - 1) * 2 + 1, none⟩ (.int .i64 q)) := hB.setCell hgb _
      have Hst := Lib.hid hst; clear hst
      have HB2 := Lib.hid hB2; clear hB2
      have c1 := (spans_of_own hown2).c1 (r.length - 1) (by omega)
      rw [Nat.zero_add] at c1
      go_wp2
      go_ret
      refine ⟨_, rfl, ?_, HB2.out⟩
      rw [Hadd.out, join_len hr]
      exact Hst.out
  · obtain rfl : r = [] := List.length_eq_zero_iff.1 (by omega)
    obtain ⟨A, cap, rfl⟩ : ∃ A cap, v = .slice A 0 cap := by
      rcases hown.2 with ⟨h, _⟩ | ⟨g, cap, cur, h, _⟩
      · exact ⟨_, _, h⟩
      · exact ⟨_, _, h⟩
    have Hadd := Lib.hid (addL_push (q := q) (r := []) (p := p) (fun h => hr h.1))
    go_enter Try.func98, Try.ntmps98
    go_wp2_with fail
    generalize w.alloc (.cells #[.int .i64 p, .int .i64 q] 31) = w1 at *
    have e0 := fun x : BW w1 => bw_cell x b0 hgt
    refine wp_region_below (by kernel_rfl) (by kernel_rfl) ?_
    repeat (go_big_quiet_step (fail))
    refine wpQuiet_nil ?_
    rintro w2 ⟨⟨_, hb2⟩, rfl⟩
    have hown2 := own_below hown1 hb2 (Nat.le_refl _)
    have b0 := (hb2.cell (p := ⟨w.heap.size, 0, none⟩) hgt).trans b0
    have b1 := (hb2.cell (p := ⟨w.heap.size, 1, none⟩) hgt).trans b1
    have hB := hal.trans (hb2.mono (Nat.le_trans hbase hal.size))
    clear e0
    go_wp2_with (at_builtin; refine append_span tSpans tSpanInfo (by rfl) (.tmp 29) (.tmp 31) (by rfl) base _ [] _ _ (by rfl) hown2 (by rfl) (by simp) (Nat.le_trans hbase hB.size) ?_; intro v3 w3 hown3 hb3; have hB := hB.trans hb3)
    go_ret
    exact ⟨v3, rfl, by rw [Hadd.out]; exact hown3, hB⟩
end Go.Proofs.Ytahpcepnagpbdaa
