
/- The walks of the reference's predicates and numbers: Number, Span, Spans, Valid, In, Measure, Rank, Nth, Next, Same. -/
import Derived.Test.YtahpcepnagpbdaaRunsE
import Derived.Test.YtahpcepnagpbdaaRunsF
namespace Go.Proofs.Ytahpcepnagpbdaa
open Go.RowKit

def okAt (l : List Sp) (i : Nat) : Bool := okSpan (fr l i, tt l i)
def spansB (l : List Sp) : Bool := (List.range l.length).all (okAt l)
def gapAt (l : List Sp) (i : Nat) : Bool := i == 0 || decide (tt l (i - 1) < fr l i)
theorem validB_split (l : List Sp) : validB l = (decide (l.length ≤ 2000) && spansB l && (List.range l.length).all (gapAt l)) := by
  have : ∀ k, (List.range k).all (chk l) = ((List.range k).all (okAt l) && (List.range k).all (gapAt l)) := by
    intro k
    induction k with
    | zero => rfl
    | succ k ih =>
      rw [List.range_succ, List.all_append, List.all_append, List.all_append, ih]
      have e : chk l k = (okAt l k && gapAt l k) := rfl
      simp only [List.all_cons, List.all_nil, Bool.and_true, e]
      cases (List.range k).all (okAt l) <;> cases (List.range k).all (gapAt l) <;> cases okAt l k <;> rfl
  unfold validB spansB
  rw [this, Bool.and_assoc]

def inAt (x : Int) (l : List Sp) (i : Nat) : Bool := decide (fr l i ≤ x) && decide (x < tt l i)
theorem mem_range (l : List Sp) (x : Int) : mem l x = (List.range l.length).any (inAt x l) := by
  cases h : mem l x
  · symm
    rw [List.any_eq_false]
    intro i hi hc
    have hi : i < l.length := by simpa using hi
    simp only [inAt, Bool.and_eq_true, decide_eq_true_eq] at hc
    have : mem l x = true := mem_iff.2 ⟨_, idx_mem hi, hc.1, hc.2⟩
    rw [h] at this; cases this
  · symm
    rw [List.any_eq_true]
    obtain ⟨s, hs, h1, h2⟩ := mem_iff.1 h
    obtain ⟨i, hi, rfl⟩ := mem_idx hs
    exact ⟨i, by simpa using hi, by simp [inAt]; exact ⟨h1, h2⟩⟩

theorem r12In_c (v : Value) (l : List Sp) (x : Int) (w : World) (hs : IsSpans w v l) : Calls Try.prog 97 #[v, .int .i64 x] w fun e w' => e = .returned (.bool (mem l x)) ∧ w = w' := by
  obtain ⟨A, c, rfl, hnc, hc⟩ := hs.form
  have hm := mem_range l x
  have Hm := Lib.hid hm; clear hm
  go_enter Try.func97, Try.ntmps97
  go_wp2
  go_loop [5] (fun i => ∃ k : Nat, k ≤ l.length ∧ i = .int .i64 k ∧ Hid ((List.range k).any (inAt x l) = false)) (fun i => l.length - (intOf i).toNat)
  case atStart => exact ⟨0, Nat.zero_le _, rfl, rfl⟩
  case round =>
    obtain ⟨k, hk, rfl, Hall⟩ := hrel
    by_cases hlt : k < l.length
    · obtain ⟨b, off, rfl, hbl⟩ := hs.addr (by omega)
      have c1 := hs.c0 k hlt
      have c2 := hs.c1 k hlt
      have Hstep := Lib.hid (fun h => any_step (f := inAt x l) Hall.out h)
      have Hno := Lib.hid (fun h => any_found (f := inAt x l) hlt h)
      have Hat : Hid (inAt x l k = (decide (fr l k ≤ x) && decide (x < tt l k))) := rfl
      by_cases hx1 : fr l k ≤ x
      · by_cases hx2 : x < tt l k
        · go_wp2
          go_ret
          exact ⟨ret_bool (by rw [Hm.out, Hno.out (by rw [Hat.out, decide_eq_true hx1, decide_eq_true hx2]; rfl)]), rfl⟩
        · go_wp2
          go_round
          case rel => exact ⟨k + 1, by omega, by go_num, Hstep.out (by rw [Hat.out, decide_eq_false hx2]; simp)⟩
          case measure => simp [intOf]; omega
      · go_wp2
        go_round
        case rel => exact ⟨k + 1, by omega, by go_num, Hstep.out (by rw [Hat.out, decide_eq_false hx1]; rfl)⟩
        case measure => simp [intOf]; omega
    · obtain rfl : k = l.length := by omega
      go_wp2
      go_ret
      exact ⟨ret_bool (by rw [Hm.out, Hall.out]), rfl⟩
end Go.Proofs.Ytahpcepnagpbdaa
