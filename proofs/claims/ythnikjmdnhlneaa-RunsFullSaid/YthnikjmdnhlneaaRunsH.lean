/- The walks of the reference's numbers: Measure, Rank, Nth, Next, Same. -/
import Derived.Test.YthnikjmdnhlneaaRunsG
namespace Go.Proofs.Ythnikjmdnhlneaa
open Go.RowKit

theorem r12Measure_c (v : Value) (l : List Sp) (w : World) (hs : IsSpans w v l) (hv : validB l = true) : Calls Try.prog 35 #[v] w (Ret w (.int .i64 (measL l))) := by
  have hl := validB_len hv
  obtain ⟨A, c, rfl, hnc, hc⟩ := hs.form
  go_enter Try.func35, Try.ntmps35
  go_wp2
  go_loopw [3, 4] (fun s i wr => ∃ (k : Nat) (S : Int), i = .int .i64 k ∧ s = .int .i64 S ∧ k ≤ l.length ∧ 0 ≤ S ∧ S ≤ 8796093022208 * k ∧ Hid (S + measL (l.drop k) = measL l) ∧ Below w.heap.size w wr) (fun _ i _ => l.length - (intOf i).toNat)
  case atStart => exact ⟨0, 0, rfl, rfl, Nat.zero_le _, by omega, by omega, by show 0 + measL (l.drop 0) = _; simp, Below.refl _ _⟩
  case round =>
    obtain ⟨k, S, rfl, rfl, hk, hS0, hS1, HS, hbw⟩ := hrel
    by_cases hlt : k < l.length
    · obtain ⟨g, off, rfl, hbk⟩ := hs.addr (by omega)
      obtain ⟨o1, o2, o3⟩ := validB_ok hv hlt
      go_wp2
      have e0 := fun x : BW wr => ((hs.below hbw).bw x).c0 k hlt
      have e1 := fun x : BW wr => ((hs.below hbw).bw x).c1 k hlt
      refine wp_region_below (by kernel_rfl) (by kernel_rfl) ?_
      repeat (go_big_quiet_step (fail))
      refine wpQuiet_nil ?_
      rintro _ ⟨⟨w2, hb2⟩, rfl⟩
      have hb3 := hbw.trans (hb2.mono hbw.size)
      clear e0 e1
      go_wp2
      go_roundw
      case rel => exact ⟨k + 1, S + (tt l k - fr l k), by go_num, by go_num, by omega, by omega, by omega, by show _ = _; rw [← HS.out, measL_step hlt]; omega, hb3⟩
      case measure => simp [intOf]; omega
    · obtain rfl : k = l.length := by omega
      have he : S = measL l := by have := HS.out; rw [List.drop_length] at this; simpa [measL] using this
      have He := Lib.hid he; clear he
      go_wp2
      go_ret
      exact ⟨ret_int He.out, hbw⟩

theorem r12Rank_c (v : Value) (l : List Sp) (x : Int) (w : World) (hs : IsSpans w v l) (hv : validB l = true) : Calls Try.prog 36 #[v, .int .i64 x] w (Ret w (.int .i64 (rankL x l))) := by
  have hl := validB_len hv
  obtain ⟨A, c, rfl, hnc, hc⟩ := hs.form
  go_enter Try.func36, Try.ntmps36
  go_wp2
  go_loopw [5, 6] (fun s i wr => ∃ (k : Nat) (S : Int), i = .int .i64 k ∧ s = .int .i64 S ∧ k ≤ l.length ∧ 0 ≤ S ∧ S ≤ 8796093022208 * k ∧ Hid (S + rankL x (l.drop k) = rankL x l) ∧ Below w.heap.size w wr) (fun _ i _ => l.length - (intOf i).toNat)
  case atStart => exact ⟨0, 0, rfl, rfl, Nat.zero_le _, by omega, by omega, by show 0 + rankL x (l.drop 0) = _; simp, Below.refl _ _⟩
  case round =>
    obtain ⟨k, S, rfl, rfl, hk, hS0, hS1, HS, hbw⟩ := hrel
    by_cases hlt : k < l.length
    · obtain ⟨g, off, rfl, hbk⟩ := hs.addr (by omega)
      obtain ⟨o1, o2, o3⟩ := validB_ok hv hlt
      have c0 := (hs.below hbw).c0 k hlt
      have c1 := (hs.below hbw).c1 k hlt
      have hst := rankL_step (x := x) hlt
      by_cases hx : tt l k ≤ x
      · rw [if_pos (by omega), Int.min_eq_left (by omega)] at hst
        have Hst := Lib.hid hst; clear hst
        go_wp2
        have e0 := fun x : BW wr => ((hs.below hbw).bw x).c0 k hlt
        have e1 := fun x : BW wr => ((hs.below hbw).bw x).c1 k hlt
        refine wp_region_below (by kernel_rfl) (by kernel_rfl) ?_
        repeat (go_big_quiet_step (fail))
        refine wpQuiet_nil ?_
        rintro _ ⟨⟨w2, hb2⟩, rfl⟩
        have hb3 := hbw.trans (hb2.mono hbw.size)
        clear e0 e1
        go_wp2
        go_roundw
        case rel => exact ⟨k + 1, S + (tt l k - fr l k), by go_num, by go_num, by omega, by omega, by omega, by show _ = _; rw [← HS.out, Hst.out]; omega, hb3⟩
        case measure => simp [intOf]; omega
      · by_cases hx2 : fr l k < x
        · rw [if_pos hx2, Int.min_eq_right (by omega)] at hst
          have Hst := Lib.hid hst; clear hst
          go_wp2
          go_roundw
          case rel => exact ⟨k + 1, S + (x - fr l k), by go_num, by go_num, by omega, by omega, by omega, by show _ = _; rw [← HS.out, Hst.out]; omega, hbw⟩
          case measure => simp [intOf]; omega
        · rw [if_neg hx2] at hst
          have Hst := Lib.hid hst; clear hst
          go_wp2
          go_roundw
          case rel => exact ⟨k + 1, S, by go_num, by go_num, by omega, by omega, by omega, by show _ = _; rw [← HS.out, Hst.out]; omega, hbw⟩
          case measure => simp [intOf]; omega
    · obtain rfl : k = l.length := by omega
      have he : S = rankL x l := by have := HS.out; rw [List.drop_length] at this; simpa [rankL] using this
      have He := Lib.hid he; clear he
      go_wp2
      go_ret
      exact ⟨ret_int He.out, hbw⟩

theorem r12Next_c (v : Value) (l : List Sp) (x : Int) (w : World) (hs : IsSpans w v l) :
    Calls Try.prog 33 #[v, .int .i64 x] w fun e w' => e = .returned (.tuple #[.int .i64 (nextO (nextL x l)).1, .bool (nextO (nextL x l)).2]) ∧ w = w' := by
  obtain ⟨A, c, rfl, hnc, hc⟩ := hs.form
  go_enter Try.func33, Try.ntmps33
  go_wp2
  go_loop [6] (fun i => ∃ k : Nat, k ≤ l.length ∧ i = .int .i64 k ∧ Hid (nextL x l = nextL x (l.drop k))) (fun i => l.length - (intOf i).toNat)
  case atStart => exact ⟨0, Nat.zero_le _, rfl, rfl⟩
  case round =>
    obtain ⟨k, hk, rfl, Hs⟩ := hrel
    by_cases hlt : k < l.length
    · obtain ⟨b, off, rfl, hbl⟩ := hs.addr (by omega)
      have c1 := hs.c0 k hlt
      have c2 := hs.c1 k hlt
      have hst := nextL_step (x := x) hlt
      by_cases hx1 : x < tt l k
      · rw [if_pos hx1] at hst
        have Hst := Lib.hid hst; clear hst
        by_cases hx2 : x < fr l k
        · go_wp2
          go_ret2
          exact ⟨by rw [Hs.out, Hst.out, Int.max_eq_right (by omega)]; rfl, rfl⟩
        · go_wp2
          go_ret2
          exact ⟨by rw [Hs.out, Hst.out, Int.max_eq_left (by omega)]; rfl, rfl⟩
      · rw [if_neg hx1] at hst
        have Hst := Lib.hid hst; clear hst
        go_wp2
        go_round
        case rel => exact ⟨k + 1, by omega, by go_num, Hs.out.trans Hst.out⟩
        case measure => simp [intOf]; omega
    · obtain rfl : k = l.length := by omega
      go_wp2
      go_ret2
      exact ⟨by rw [Hs.out, List.drop_length]; rfl, rfl⟩

theorem r12Same_c (v1 v2 : Value) (a b : List Sp) (w : World) (h1 : IsSpans w v1 a) (h2 : IsSpans w v2 b) : Calls Try.prog 17 #[v1, v2] w (Ret w (.bool (sameL a b))) := by
  obtain ⟨A, c, rfl, hnc, hc⟩ := h1.form
  obtain ⟨B, d, rfl, hnd, hd⟩ := h2.form
  by_cases hl : a.length = b.length
  · have hle : ((a.length : Int) == (b.length : Int)) = true := by rw [beq_iff_eq]; omega
    have hle' : ((a.length : Int) != (b.length : Int)) = false := by rw [bne, hle]; rfl
    have hl1 : a.length ≤ b.length := by omega
    have hl2 : b.length ≤ a.length := by omega
    clear hl
    go_enter Try.func17, Try.ntmps17
    go_wp2
    go_loopw [5] (fun i wr => ∃ k : Nat, k ≤ a.length ∧ i = .int .i64 k ∧ Hid (sameL a b = sameL (a.drop k) (b.drop k)) ∧ Below w.heap.size w wr) (fun i _ => a.length - (intOf i).toNat)
    case atStart => exact ⟨0, Nat.zero_le _, rfl, rfl, Below.refl _ _⟩
    case round =>
      obtain ⟨k, hk, rfl, Hs, hb⟩ := hrel
      by_cases hlt : k < a.length
      · obtain ⟨g, off, rfl, hbk⟩ := h1.addr (by omega)
        obtain ⟨g', off', rfl, hbk'⟩ := h2.addr (by omega)
        have hst := sameL_step hlt (show k < b.length by omega)
        have Hst := Lib.hid hst; clear hst
        go_wp2
        have e0 := fun x : BW wr => ((h1.below hb).bw x).c0 k hlt
        have e1 := fun x : BW wr => ((h1.below hb).bw x).c1 k hlt
        have e2 := fun x : BW wr => ((h2.below hb).bw x).c0 k (by omega)
        have e3 := fun x : BW wr => ((h2.below hb).bw x).c1 k (by omega)
        cases q1 : (fr a k == fr b k)
        · have q1' : (fr a k != fr b k) = true := by rw [bne, q1]; rfl
          have hres : sameL a b = false := by
            rw [Hs.out, Hst.out, Bool.and_eq_false_iff]; left
            rw [decide_eq_false_iff_not]
            intro h; rw [h.1] at q1; simp at q1
          have Hres := Lib.hid hres; clear hres
          refine wp_region_below (by kernel_rfl) (by kernel_rfl) ?_
          repeat (go_big_quiet_step (fail))
          refine wpQuiet_nil ?_
          rintro _ ⟨⟨w2, hb2⟩, rfl⟩
          have hb3 := hb.trans (hb2.mono hb.size)
          clear e0 e1 e2 e3
          go_wp2
          go_ret
          exact ⟨ret_bool Hres.out.symm, hb3⟩
        · have q1' : (fr a k != fr b k) = false := by rw [bne, q1]; rfl
          cases q2 : (tt a k == tt b k)
          · have q2' : (tt a k != tt b k) = true := by rw [bne, q2]; rfl
            have hres : sameL a b = false := by
              rw [Hs.out, Hst.out, Bool.and_eq_false_iff]; left
              rw [decide_eq_false_iff_not]
              intro h; rw [h.2] at q2; simp at q2
            have Hres := Lib.hid hres; clear hres
            refine wp_region_below (by kernel_rfl) (by kernel_rfl) ?_
            repeat (go_big_quiet_step (fail))
            refine wpQuiet_nil ?_
            rintro _ ⟨⟨w2, hb2⟩, rfl⟩
            have hb3 := hb.trans (hb2.mono hb.size)
            clear e0 e1 e2 e3
            go_wp2
            go_ret
            exact ⟨ret_bool Hres.out.symm, hb3⟩
          · have q2' : (tt a k != tt b k) = false := by rw [bne, q2]; rfl
            have hres : sameL a b = sameL (a.drop (k + 1)) (b.drop (k + 1)) := by
              rw [Hs.out, Hst.out, decide_eq_true ⟨by simpa using q1, by simpa using q2⟩]; rfl
            have Hres := Lib.hid hres; clear hres
            refine wp_region_below (by kernel_rfl) (by kernel_rfl) ?_
            repeat (go_big_quiet_step (fail))
            refine wpQuiet_nil ?_
            rintro _ ⟨⟨w2, hb2⟩, rfl⟩
            have hb3 := hb.trans (hb2.mono hb.size)
            clear e0 e1 e2 e3
            go_wp2
            go_roundw
            case rel => exact ⟨k + 1, by omega, by go_num, Hres.out, hb3⟩
            case measure => simp [intOf]; omega
      · obtain rfl : k = a.length := by omega
        have hres : sameL a b = true := by
          rw [Hs.out, List.drop_length, List.drop_of_length_le (by omega)]; rfl
        have Hres := Lib.hid hres; clear hres
        go_wp2
        go_ret
        exact ⟨ret_bool Hres.out.symm, hb⟩
  · have hres := sameL_len hl
    rw [hres]
    clear hres
    have hle : ((a.length : Int) == (b.length : Int)) = false := by rw [beq_eq_false_iff_ne]; omega
    have hle' : ((a.length : Int) != (b.length : Int)) = true := by rw [bne, hle]; rfl
    clear hl
    go_enter Try.func17, Try.ntmps17
    go_wp2
    go_ret
    exact ⟨rfl, Below.refl _ _⟩
end Go.Proofs.Ythnikjmdnhlneaa
