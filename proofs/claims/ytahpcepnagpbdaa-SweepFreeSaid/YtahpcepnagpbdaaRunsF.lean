/- The walks of slices.Equal on lists of spans, and of runs.Equal. -/
import Derived.Test.YtahpcepnagpbdaaRunsA
import Derived.Test.YtahpcepnagpbdaaRunsT
namespace Go.Proofs.Ytahpcepnagpbdaa
open Go.RowKit

theorem span_neq (p q r s : Int) (w : World) : (binOp .neq 31 (.agg #[.int .i64 p, .int .i64 q]) (.agg #[.int .i64 r, .int .i64 s])).run Try.prog w = .ok (.bool (!(p == r && q == s))) w := by
  rw [run_neq_struct]
  cases h1 : p == r <;> cases h2 : q == s <;> simp [go_sem, h1, h2]
attribute [local go_sem ↓] span_neq

theorem slEqualSpan_c (v1 v2 : Value) (a b : List Sp) (w : World) (h1 : IsSpans w v1 a) (h2 : IsSpans w v2 b) : Calls Try.prog 76 #[v1, v2] w (Ret w (.bool (sameL a b))) := by
  obtain ⟨A, c, rfl, hnc, hc⟩ := h1.form
  obtain ⟨B, d, rfl, hnd, hd⟩ := h2.form
  by_cases hl : a.length = b.length
  · have hle : ((a.length : Int) == (b.length : Int)) = true := by rw [beq_iff_eq]; omega
    have hle' : ((a.length : Int) != (b.length : Int)) = false := by rw [bne, hle]; rfl
    have hl1 : a.length ≤ b.length := by omega
    have hl2 : b.length ≤ a.length := by omega
    clear hl
    go_enter Try.func76, Try.ntmps76
    go_wp2
    go_loopw [13] (fun i wr => ∃ k : Nat, k ≤ a.length ∧ i = .int .i64 k ∧ Hid (sameL a b = sameL (a.drop k) (b.drop k)) ∧ Below w.heap.size w wr) (fun i _ => a.length - (intOf i).toNat)
    case atStart => exact ⟨0, Nat.zero_le _, rfl, rfl, Below.refl _ _⟩
    case round =>
      obtain ⟨k, hk, rfl, Hs, hb⟩ := hrel
      by_cases hlt : k < a.length
      · obtain ⟨g, off, rfl, hbk⟩ := h1.addr (by omega)
        obtain ⟨g', off', rfl, hbk'⟩ := h2.addr (by omega)
        have hst := sameL_step hlt (show k < b.length by omega)
        have Hst := Lib.hid hst; clear hst
        go_wp2
        have e0 := fun x : BW wr => ((h1.below hb).bw x).c0 k hlt
        have e1 := fun x : BW wr => ((h1.below hb).bw x).c1 k hlt
        have e2 := fun x : BW wr => ((h2.below hb).bw x).c0 k (by omega)
        have e3 := fun x : BW wr => ((h2.below hb).bw x).c1 k (by omega)
        refine wp_region_below (by kernel_rfl) (by kernel_rfl) ?_
        repeat (go_big_quiet_step (fail))
        refine wpQuiet_nil ?_
        rintro _ ⟨⟨w2, hb2⟩, rfl⟩
        have hb3 := hb.trans (hb2.mono hb.size)
        clear e0 e1 e2 e3
        go_wp2
        · have ht : (!fr a k == fr b k) = true ∨ (!tt a k == tt b k) = true := by assumption
          go_ret
          refine ⟨ret_bool ?_, hb3⟩
          rw [Hs.out, Hst.out]
          symm
          rw [Bool.and_eq_false_iff]; left
          rw [decide_eq_false_iff_not]
          rintro ⟨q1, q2⟩
          rw [q1, q2] at ht
          simp at ht
        · have ht : (!fr a k == fr b k) = false ∧ (!tt a k == tt b k) = false := by assumption
          have hp : fr a k = fr b k ∧ tt a k = tt b k := by simpa using ht
          have hres : sameL a b = sameL (a.drop (k + 1)) (b.drop (k + 1)) := by
            rw [Hs.out, Hst.out, decide_eq_true hp]; rfl
          have Hres := Lib.hid hres; clear hres hp
          go_roundw
          case rel => exact ⟨k + 1, by omega, by go_num, Hres.out, hb3⟩
          case measure => simp [intOf]; omega
      · obtain rfl : k = a.length := by omega
        have hres : sameL a b = true := by
          rw [Hs.out, List.drop_length, List.drop_of_length_le (by omega)]; rfl
        have Hres := Lib.hid hres; clear hres
        go_wp2
        go_ret
        exact ⟨ret_bool Hres.out.symm, hb⟩
  · have hres := sameL_len hl
    rw [hres]
    clear hres
    have hle : ((a.length : Int) == (b.length : Int)) = false := by rw [beq_eq_false_iff_ne]; omega
    have hle' : ((a.length : Int) != (b.length : Int)) = true := by rw [bne, hle]; rfl
    clear hl
    go_enter Try.func76, Try.ntmps76
    go_wp2
    go_ret
    exact ⟨rfl, Below.refl _ _⟩

theorem rEqual_c (v1 v2 : Value) (a b : List Sp) (w : World) (h1 : IsSpans w v1 a) (h2 : IsSpans w v2 b) : Calls Try.prog 36 #[v1, v2] w (Ret w (.bool (validB a && validB b && sameL a b))) := by
  cases ha : validB a
  · go_enter Try.func36, Try.ntmps36
    go_wp2_with fail
    refine (rValid_c _ _ _ h1).mono ?_
    rintro e w1 ⟨rfl, hb⟩
    go_wp2
    go_ret
    exact ⟨rfl, hb⟩
  · cases hb : validB b
    · go_enter Try.func36, Try.ntmps36
      go_wp2_with fail
      refine (rValid_c _ _ _ h1).mono ?_
      rintro e w1 ⟨rfl, hb1⟩
      go_wp2_with fail
      refine (rValid_c _ _ _ (h2.below hb1)).mono ?_
      rintro e w2 ⟨rfl, hb2⟩
      go_wp2
      go_ret
      exact ⟨rfl, hb1.trans (hb2.mono hb1.size)⟩
    · go_enter Try.func36, Try.ntmps36
      go_wp2_with fail
      refine (rValid_c _ _ _ h1).mono ?_
      rintro e w1 ⟨rfl, hb1⟩
      go_wp2_with fail
      refine (rValid_c _ _ _ (h2.below hb1)).mono ?_
      rintro e w2 ⟨rfl, hb2⟩
      have hb3 := hb1.trans (hb2.mono hb1.size)
      go_wp2_with fail
      refine (slEqualSpan_c _ _ _ _ _ (h1.below hb3) (h2.below hb3)).mono ?_
      rintro e w3 ⟨rfl, hb4⟩
      go_wp2
      go_ret
      exact ⟨rfl, hb3.trans (hb4.mono hb3.size)⟩
end Go.Proofs.Ytahpcepnagpbdaa
