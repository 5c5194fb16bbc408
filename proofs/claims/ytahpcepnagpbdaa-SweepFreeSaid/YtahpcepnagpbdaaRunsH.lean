
/- The walks of the reference's numbers: Measure, Rank, Nth, Next, Same. -/
import Derived.Test.YtahpcepnagpbdaaRunsG
namespace Go.Proofs.Ytahpcepnagpbdaa
open Go.RowKit

theorem r12Same_c (v1 v2 : Value) (a b : List Sp) (w : World) (h1 : IsSpans w v1 a) (h2 : IsSpans w v2 b) : Calls Try.prog 38 #[v1, v2] w (Ret w (.bool (sameL a b))) := by
  obtain ⟨A, c, rfl, hnc, hc⟩ := h1.form
  obtain ⟨B, d, rfl, hnd, hd⟩ := h2.form
  by_cases hl : a.length = b.length
  · have hle : ((a.length : Int) == (b.length : Int)) = true := by rw [beq_iff_eq]; omega
    have hle' : ((a.length : Int) != (b.length : Int)) = false := by rw [bne, hle]; rfl
    have hl1 : a.length ≤ b.length := by omega
    have hl2 : b.length ≤ a.length := by omega
    clear hl
    go_enter Try.func38, Try.ntmps38
    go_wp2
    go_loopw [5] (fun i wr => ∃ k : Nat, k ≤ a.length ∧ i = .int .i64 k ∧ Hid (sameL a b = sameL (a.drop k) (b.drop k)) ∧ Below w.heap.size w wr) (fun i _ => a.length - (intOf i).toNat)
    case atStart => exact ⟨0, Nat.zero_le _, rfl, rfl, Below.refl _ _⟩
    case round =>
      obtain ⟨k, hk, rfl, Hs, hb⟩ := hrel
      by_cases hlt : k < a.length
      · obtain ⟨g, off, rfl, hbk⟩ := h1.addr (by omega)
        obtain ⟨g', off', rfl, hbk'⟩ := h2.addr (by omega)
        have hst := sameL_step hlt (show k < b.length by omega)
        have Hst := Lib.hid hst; clear hst
        go_wp2
        have e0 := fun x : BW wr => ((h1.below hb).bw x).c0 k hlt
        have e1 := fun x : BW wr => ((h1.below hb).bw x).c1 k hlt
        have e2 := fun x : BW wr => ((h2.below hb).bw x).c0 k (by omega)
        have e3 := fun x : BW wr => ((h2.below hb).bw x).c1 k (by omega)
        cases q1 : (fr a k == fr b k)
        · have q1' : (fr a k != fr b k) = true := by rw [bne, q1]; rfl
          have hres : sameL a b = false := by
            rw [Hs.out, Hst.out, Bool.and_eq_false_iff]; left
            rw [decide_eq_false_iff_not]
            intro h; rw [h.1] at q1; simp at q1
          have Hres := Lib.hid hres; clear hres
          refine wp_region_below (by kernel_rfl) (by kernel_rfl) ?_
          repeat (go_big_quiet_step (fail))
          refine wpQuiet_nil ?_
          rintro _ ⟨⟨w2, hb2⟩, rfl⟩
          have hb3 := hb.trans (hb2.mono hb.size)
          clear e0 e1 e2 e3
          go_wp2
          go_ret
          exact ⟨ret_bool Hres.out.symm, hb3⟩
        · have q1' : (fr a k != fr b k) = false := by rw [bne, q1]; rfl
          cases q2 : (tt a k == tt b k)
          · have q2' : (tt a k != tt b k) = true := by rw [bne, q2]; rfl
            have hres : sameL a b = false := by
              rw [Hs.out, Hst.out, Bool.and_eq_false_iff]; left
              rw [decide_eq_false_iff_not]
              intro h; rw [h.2] at q2; simp at q2
            have Hres := Lib.hid hres; clear hres
            refine wp_region_below (by kernel_rfl) (by kernel_rfl) ?_
            repeat (go_big_quiet_step (fail))
            refine wpQuiet_nil ?_
            rintro _ ⟨⟨w2, hb2⟩, rfl⟩
            have hb3 := hb.trans (hb2.mono hb.size)
            clear e0 e1 e2 e3
            go_wp2
            go_ret
            exact ⟨ret_bool Hres.out.symm, hb3⟩
          · have q2' : (tt a k != tt b k) = false := by rw [bne, q2]; rfl
            have hres : sameL a b = sameL (a.drop (k + 1)) (b.drop (k + 1)) := by
              rw [Hs.out, Hst.out, decide_eq_true ⟨by simpa using q1, by simpa using q2⟩]; rfl
            have Hres := Lib.hid hres; clear hres
            refine wp_region_below (by kernel_rfl) (by kernel_rfl) ?_
            repeat (go_big_quiet_step (fail))
            refine wpQuiet_nil ?_
            rintro _ ⟨⟨w2, hb2⟩, rfl⟩
            have hb3 := hb.trans (hb2.mono hb.size)
            clear e0 e1 e2 e3
            go_wp2
            go_roundw
            case rel => exact ⟨k + 1, by omega, by go_num, Hres.out, hb3⟩
            case measure => simp [intOf]; omega
      · obtain rfl : k = a.length := by omega
        have hres : sameL a b = true := by
          rw [Hs.out, List.drop_length, List.drop_of_length_le (by omega)]; rfl
        have Hres := Lib.hid hres; clear hres
        go_wp2
        go_ret
        exact ⟨ret_bool Hres.out.symm, hb⟩
  · have hres := sameL_len hl
    rw [hres]
    clear hres
    have hle : ((a.length : Int) == (b.length : Int)) = false := by rw [beq_eq_false_iff_ne]; omega
    have hle' : ((a.length : Int) != (b.length : Int)) = true := by rw [bne, hle]; rfl
    clear hl
    go_enter Try.func38, Try.ntmps38
    go_wp2
    go_ret
    exact ⟨rfl, Below.refl _ _⟩
end Go.Proofs.Ytahpcepnagpbdaa
