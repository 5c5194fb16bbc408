/- The walks of the packages interval (valid spans) and runs (Valid, done, the merge of two canonical lists): each function returns what a plain Lean function says, and makes memory only. -/
import Derived.Test.YtahpcepnagpbdaaProg
import Derived.Test.YtahpcepnagpbdaaRunsS
namespace Go.Proofs.Ytahpcepnagpbdaa
open Go.RowKit

theorem ivline_c (x : Int) (w : World) : Calls Try.prog 91 #[.int .i64 x] w fun e w' => e = .returned (.bool (onLine x)) ∧ w = w' := by
  go_enter Try.func91, Try.ntmps91
  go_wp2
  all_goals go_ret; exact ⟨by simp [onLine]; try omega, rfl⟩
theorem ivValid_c (a b : Int) (w : World) : Calls Try.prog 54 #[.agg #[.int .i64 a, .int .i64 b]] w (Ret w (.bool (okSpan (a, b)))) := by
  go_enter Try.func54, Try.ntmps54
  go_wp2_with (go_at_call 91; refine (ivline_c _ _).mono ?_; rintro e w' ⟨rfl, rfl⟩)
  all_goals
    go_ret
    exact ⟨by simp [okSpan, *], by go_grown⟩

theorem rValid_c (v : Value) (l : List Sp) (w : World) (hs : IsSpans w v l) : Calls Try.prog 75 #[v] w (Ret w (.bool (validB l))) := by
  obtain ⟨A, c, rfl, hnc, hc⟩ := hs.form
  by_cases h2 : 2000 < l.length
  · go_enter Try.func75, Try.ntmps75
    go_wp2
    go_ret
    exact ⟨by simp [validB]; omega, Below.refl _ _⟩
  · go_enter Try.func75, Try.ntmps75
    go_wp2
    go_loopw [10] (fun i wr => ∃ k : Nat, k ≤ l.length ∧ i = .int .i64 k ∧ Hid ((List.range k).all (chk l) = true) ∧ Below w.heap.size w wr) (fun i _ => l.length - (intOf i).toNat)
    case atStart => exact ⟨0, Nat.zero_le _, rfl, rfl, Below.refl _ _⟩
    case round =>
      obtain ⟨k, hk, rfl, Hall, hb⟩ := hrel
      by_cases hlt : k < l.length
      · obtain ⟨b, off, rfl, hbl⟩ := hs.addr (by omega)
        have c1 := (hs.below hb).c0 k hlt
        have c2 := (hs.below hb).c1 k hlt
        go_wp2
        have d1 : (wr.alloc (.cells #[.int .i64 (fr l k), .int .i64 (tt l k)] 31)).cell? ⟨wr.heap.size, 0, none⟩ = some (.int .i64 (fr l k)) := by simp
        have d2 : (wr.alloc (.cells #[.int .i64 (fr l k), .int .i64 (tt l k)] 31)).cell? ⟨wr.heap.size, 1, none⟩ = some (.int .i64 (tt l k)) := by simp
        have d3 : wr.heap.size < (wr.alloc (.cells #[.int .i64 (fr l k), .int .i64 (tt l k)] 31)).heap.size := by simp
        have hb1 : Below w.heap.size w (wr.alloc (.cells #[.int .i64 (fr l k), .int .i64 (tt l k)] 31)) := hb.alloc hb.size _
        generalize wr.alloc (.cells #[.int .i64 (fr l k), .int .i64 (tt l k)] 31) = w1 at *
        have e1 := fun x : BW w1 => bw_cell x d1 d3
        have e2 := fun x : BW w1 => bw_cell x d2 d3
        have e3 : 0 < k → ∀ x : BW w1, x.1.cell? ⟨b, off + (k-1) * 2+1, none⟩ = some (.int .i64 (tt l (k-1))) := fun h0 x => ((hs.below hb1).bw x).c1 (k-1) (by omega)
        have Hstep := Lib.hid (fun h => all_step (f := chk l) Hall.out h)
        have Hno := Lib.hid (fun h => all_fail (f := chk l) hlt h)
        have Hck : Hid (chk l k = (okSpan (fr l k, tt l k) && (k == 0 || decide (tt l (k-1) < fr l k)))) := rfl
        clear c1 c2 d1 d2
        cases ho : okSpan (fr l k, tt l k)
        all_goals
          by_cases h0 : 0 < k
        all_goals
          refine wp_region_below (by kernel_rfl) (by kernel_rfl) ?_
          repeat (go_big_quiet_step ((go_at_call 54; exact calls_bw _ (ivValid_c _ _ _))))
          refine wpQuiet_nil ?_
          rintro _ ⟨⟨w2, hb2⟩, rfl⟩
        all_goals
          have hb3 := hb1.trans (hb2.mono hb1.size)
        all_goals go_wp2
        all_goals first
          | (go_ret
             refine ⟨?_, hb3⟩
             rw [validB, Hno.out (by rw [Hck.out]; simp [*]; try omega)]; simp)
          | (go_roundw
             case rel => exact ⟨k + 1, by omega, by go_num, Hstep.out (by rw [Hck.out]; simp [*]; try omega), hb3⟩
             case measure => simp [intOf]; omega)
      · obtain rfl : k = l.length := by omega
        go_wp2
        go_ret
        exact ⟨by rw [validB, Hall.out]; simp; omega, hb⟩
end Go.Proofs.Ytahpcepnagpbdaa
