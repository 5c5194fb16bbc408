/- The walks of the reference's predicates and numbers: Number, Span, Spans, Valid, In, Measure, Rank, Nth, Next, Same. -/
import Derived.Test.YthnikjmdnhlneaaRunsE
import Derived.Test.YthnikjmdnhlneaaRunsF
namespace Go.Proofs.Ythnikjmdnhlneaa
open Go.RowKit

theorem r12Number_c (x : Int) (w : World) : Calls Try.prog 73 #[.int .i64 x] w fun e w' => e = .returned (.bool (onLine x)) ∧ w = w' := by
  go_enter Try.func73, Try.ntmps73
  go_wp2
  all_goals go_ret; exact ⟨by simp [onLine]; try omega, rfl⟩
theorem r12Span_c (a b : Int) (w : World) : Calls Try.prog 59 #[.agg #[.int .i64 a, .int .i64 b]] w (Ret w (.bool (okSpan (a, b)))) := by
  go_enter Try.func59, Try.ntmps59
  go_wp2_with (go_at_call 73; refine (r12Number_c _ _).mono ?_; rintro e w' ⟨rfl, rfl⟩)
  all_goals
    go_ret
    exact ⟨by simp [okSpan, *], by go_grown⟩

def okAt (l : List Sp) (i : Nat) : Bool := okSpan (fr l i, tt l i)
def spansB (l : List Sp) : Bool := (List.range l.length).all (okAt l)
theorem r12Spans_c (v : Value) (l : List Sp) (w : World) (hs : IsSpans w v l) : Calls Try.prog 48 #[v] w (Ret w (.bool (spansB l))) := by
  obtain ⟨A, c, rfl, hnc, hc⟩ := hs.form
  go_enter Try.func48, Try.ntmps48
  go_wp2
  go_loopw [3] (fun i wr => ∃ k : Nat, k ≤ l.length ∧ i = .int .i64 k ∧ Hid ((List.range k).all (okAt l) = true) ∧ Below w.heap.size w wr) (fun i _ => l.length - (intOf i).toNat)
  case atStart => exact ⟨0, Nat.zero_le _, rfl, rfl, Below.refl _ _⟩
  case round =>
    obtain ⟨k, hk, rfl, Hall, hb⟩ := hrel
    by_cases hlt : k < l.length
    · obtain ⟨b, off, rfl, hbl⟩ := hs.addr (by omega)
      have c1 := (hs.below hb).c0 k hlt
      have c2 := (hs.below hb).c1 k hlt
      have Hstep := Lib.hid (fun h => all_step (f := okAt l) Hall.out h)
      have Hno := Lib.hid (fun h => all_fail (f := okAt l) hlt h)
      have hcall := r12Span_c (fr l k) (tt l k) wr
      cases ho : okSpan (fr l k, tt l k)
      all_goals
        rw [ho] at hcall
        have Hcall := Lib.hid hcall; clear hcall
        have ho' : okAt l k = _ := ho
        have Ho := Lib.hid ho'; clear ho ho'
        go_wp2_with fail
        refine Hcall.out.mono ?_
        rintro e w1 ⟨rfl, hb1⟩
        have hb2 := hb.trans (hb1.mono hb.size)
        go_wp2
      · go_ret
        exact ⟨ret_bool (Hno.out Ho.out).symm, hb2⟩
      · go_roundw
        case rel => exact ⟨k + 1, by omega, by go_num, Hstep.out Ho.out, hb2⟩
        case measure => simp [intOf]; omega
    · obtain rfl : k = l.length := by omega
      go_wp2
      go_ret
      exact ⟨ret_bool Hall.out.symm, hb⟩

def gapAt (l : List Sp) (i : Nat) : Bool := i == 0 || decide (tt l (i - 1) < fr l i)
theorem validB_split (l : List Sp) : validB l = (decide (l.length ≤ 2000) && spansB l && (List.range l.length).all (gapAt l)) := by
  have : ∀ k, (List.range k).all (chk l) = ((List.range k).all (okAt l) && (List.range k).all (gapAt l)) := by
    intro k
    induction k with
    | zero => rfl
    | succ k ih =>
      rw [List.range_succ, List.all_append, List.all_append, List.all_append, ih]
      have e : chk l k = (okAt l k && gapAt l k) := rfl
      simp only [List.all_cons, List.all_nil, Bool.and_true, e]
      cases (List.range k).all (okAt l) <;> cases (List.range k).all (gapAt l) <;> cases okAt l k <;> rfl
  unfold validB spansB
  rw [this, Bool.and_assoc]

theorem r12Valid_c (v : Value) (l : List Sp) (w : World) (hs : IsSpans w v l) : Calls Try.prog 15 #[v] w (Ret w (.bool (validB l))) := by
  obtain ⟨A, c, rfl, hnc, hc⟩ := hs.form
  have hsp := validB_split l
  by_cases h2 : 2000 < l.length
  · have hr : validB l = false := by rw [hsp, decide_eq_false (by omega)]; rfl
    rw [hr]
    clear hr hsp
    go_enter Try.func15, Try.ntmps15
    go_wp2
    go_ret
    exact ⟨rfl, Below.refl _ _⟩
  · rw [decide_eq_true (show l.length ≤ 2000 by omega), Bool.true_and] at hsp
    cases h3 : spansB l
    · have hr : validB l = false := by rw [hsp, h3]; rfl
      rw [hr]
      have hcall := r12Spans_c _ l w hs
      rw [h3] at hcall
      have Hcall := Lib.hid hcall
      clear hr hsp hcall h3
      go_enter Try.func15, Try.ntmps15
      go_wp2_with fail
      refine Hcall.out.mono ?_
      rintro e w1 ⟨rfl, hb1⟩
      go_wp2
      go_ret
      exact ⟨rfl, hb1⟩
    · rw [h3, Bool.true_and] at hsp
      have hcall := r12Spans_c _ l w hs
      rw [h3] at hcall
      have Hcall := Lib.hid hcall
      have Hsp := Lib.hid hsp
      clear hsp hcall h3
      go_enter Try.func15, Try.ntmps15
      go_wp2_with fail
      refine Hcall.out.mono ?_
      rintro e w1 ⟨rfl, hb1⟩
      have hs := hs.below hb1
      go_wp2
      go_loopw [3] (fun i wr => ∃ k : Nat, 1 ≤ k ∧ (k ≤ l.length ∨ k = 1) ∧ i = .int .i64 k ∧ Hid ((List.range k).all (gapAt l) = true) ∧ Below w1.heap.size w1 wr) (fun i _ => l.length + 1 - (intOf i).toNat)
      case atStart => exact ⟨1, Nat.le_refl _, .inr rfl, rfl, rfl, Below.refl _ _⟩
      case round =>
        obtain ⟨k, hk1, hk, rfl, Hall, hb⟩ := hrel
        by_cases hlt : k < l.length
        · obtain ⟨b, off, rfl, hbl⟩ := hs.addr (by omega)
          have Hstep := Lib.hid (fun h => all_step (f := gapAt l) Hall.out h)
          have Hno := Lib.hid (fun h => all_fail (f := gapAt l) hlt h)
          have hg : gapAt l k = decide (tt l (k - 1) < fr l k) := by unfold gapAt; rw [show (k == 0) = false from by simp; omega]; rfl
          have Hg := Lib.hid hg; clear hg
          go_wp2
          have e1 := fun x : BW wr => ((hs.below hb).bw x).c1 (k - 1) (by omega)
          have e2 := fun x : BW wr => ((hs.below hb).bw x).c0 k hlt
          refine wp_region_below (by kernel_rfl) (by kernel_rfl) ?_
          repeat (go_big_quiet_step (fail))
          refine wpQuiet_nil ?_
          rintro _ ⟨⟨w2, hb2⟩, rfl⟩
          have hb3 := hb.trans (hb2.mono hb.size)
          clear e1 e2
          by_cases hgap : tt l (k - 1) < fr l k
          · go_wp2
            go_roundw
            case rel => exact ⟨k + 1, by omega, .inl (by omega), by go_num, Hstep.out (by rw [Hg.out]; exact decide_eq_true (by omega)), hb3⟩
            case measure => simp [intOf]; omega
          · go_wp2
            go_ret
            exact ⟨ret_bool (by rw [Hsp.out, Hno.out (by rw [Hg.out]; exact decide_eq_false (by omega))]), hb1.trans (hb3.mono hb1.size)⟩
        · have hend : validB l = true := by
            rw [Hsp.out]
            rcases hk with hk | hk
            · obtain rfl : k = l.length := by omega
              exact Hall.out
            · subst hk
              have h01 : l.length = 0 ∨ l.length = 1 := by omega
              rcases h01 with h01 | h01 <;> rw [h01] <;> rfl
          have Hend := Lib.hid hend; clear hend hk
          go_wp2
          go_ret
          exact ⟨ret_bool Hend.out.symm, hb1.trans (hb.mono hb1.size)⟩

def inAt (x : Int) (l : List Sp) (i : Nat) : Bool := decide (fr l i ≤ x) && decide (x < tt l i)
theorem mem_range (l : List Sp) (x : Int) : mem l x = (List.range l.length).any (inAt x l) := by
  cases h : mem l x
  · symm
    rw [List.any_eq_false]
    intro i hi hc
    have hi : i < l.length := by simpa using hi
    simp only [inAt, Bool.and_eq_true, decide_eq_true_eq] at hc
    have : mem l x = true := mem_iff.2 ⟨_, idx_mem hi, hc.1, hc.2⟩
    rw [h] at this; cases this
  · symm
    rw [List.any_eq_true]
    obtain ⟨s, hs, h1, h2⟩ := mem_iff.1 h
    obtain ⟨i, hi, rfl⟩ := mem_idx hs
    exact ⟨i, by simpa using hi, by simp [inAt]; exact ⟨h1, h2⟩⟩

theorem r12In_c (v : Value) (l : List Sp) (x : Int) (w : World) (hs : IsSpans w v l) : Calls Try.prog 34 #[v, .int .i64 x] w fun e w' => e = .returned (.bool (mem l x)) ∧ w = w' := by
  obtain ⟨A, c, rfl, hnc, hc⟩ := hs.form
  have hm := mem_range l x
  have Hm := Lib.hid hm; clear hm
  go_enter Try.func34, Try.ntmps34
  go_wp2
  go_loop [5] (fun i => ∃ k : Nat, k ≤ l.length ∧ i = .int .i64 k ∧ Hid ((List.range k).any (inAt x l) = false)) (fun i => l.length - (intOf i).toNat)
  case atStart => exact ⟨0, Nat.zero_le _, rfl, rfl⟩
  case round =>
    obtain ⟨k, hk, rfl, Hall⟩ := hrel
    by_cases hlt : k < l.length
    · obtain ⟨b, off, rfl, hbl⟩ := hs.addr (by omega)
      have c1 := hs.c0 k hlt
      have c2 := hs.c1 k hlt
      have Hstep := Lib.hid (fun h => any_step (f := inAt x l) Hall.out h)
      have Hno := Lib.hid (fun h => any_found (f := inAt x l) hlt h)
      have Hat : Hid (inAt x l k = (decide (fr l k ≤ x) && decide (x < tt l k))) := rfl
      by_cases hx1 : fr l k ≤ x
      · by_cases hx2 : x < tt l k
        · go_wp2
          go_ret
          exact ⟨ret_bool (by rw [Hm.out, Hno.out (by rw [Hat.out, decide_eq_true hx1, decide_eq_true hx2]; rfl)]), rfl⟩
        · go_wp2
          go_round
          case rel => exact ⟨k + 1, by omega, by go_num, Hstep.out (by rw [Hat.out, decide_eq_false hx2]; simp)⟩
          case measure => simp [intOf]; omega
      · go_wp2
        go_round
        case rel => exact ⟨k + 1, by omega, by go_num, Hstep.out (by rw [Hat.out, decide_eq_false hx1]; rfl)⟩
        case measure => simp [intOf]; omega
    · obtain rfl : k = l.length := by omega
      go_wp2
      go_ret
      exact ⟨ret_bool (by rw [Hm.out, Hall.out]), rfl⟩
end Go.Proofs.Ythnikjmdnhlneaa
