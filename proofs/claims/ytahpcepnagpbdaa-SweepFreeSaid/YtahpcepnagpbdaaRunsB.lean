
/- The walk of runs.combine, the merge of two canonical lists, and of the four operations. -/
import Derived.Test.YtahpcepnagpbdaaRunsA
namespace Go.Proofs.Ytahpcepnagpbdaa
open Go.RowKit

theorem rdone_c (v : Value) (l : List Sp) (w : World) (hs : IsSpans w v l) :
    Calls Try.prog 74 #[v] w (RetLE w (if l.length ≤ 2000 then (l, 0) else ([], 5))) := by
  obtain ⟨A, c, rfl, hnc, hc⟩ := hs.form
  by_cases h2 : l.length ≤ 2000
  · rw [if_pos h2]
    go_enter Try.func74, Try.ntmps74
    go_wp2
    go_ret2
    exact ⟨_, rfl, hs, Below.refl _ _⟩
  · rw [if_neg h2]
    go_enter Try.func74, Try.ntmps74
    go_wp2
    go_ret2
    exact ⟨_, rfl, IsSpans.nil, Below.refl _ _⟩

theorem rcombine1_c (v : Value) (l : List Sp) (n : Nat) (w : World) (hs : IsSpans w v l) (hn : n ≤ 2 * l.length) (hl : l.length ≤ 2000) :
    Calls Try.prog 136 #[v, .int .i64 n] w fun e w' => e = .returned (.int .i64 (endAt l n)) ∧ w = w' := by
  obtain ⟨A, c, rfl, hnc, hc⟩ := hs.form
  by_cases h1 : n = 2 * l.length
  · have he : endAt l n = 8796093022208 := by rw [endAt, if_pos h1]
    rw [he]
    clear he
    have h1' : ((n : Int) == 2 * (l.length : Int)) = true := by rw [beq_iff_eq]; omega
    clear h1
    go_enter Try.func136, Try.ntmps136
    go_wp2
    go_ret
    exact ⟨rfl, rfl⟩
  · obtain ⟨b, off, rfl, hbl⟩ := hs.addr (by omega)
    have c1 := hs.c0 (n / 2) (by omega)
    have c2 := hs.c1 (n / 2) (by omega)
    by_cases h2 : n % 2 = 0
    · have he : endAt l n = fr l (n / 2) := by rw [endAt, if_neg h1, if_pos h2]
      rw [he]
      clear he
      have h2' : ((n : Int) % 2 == 0) = true := by rw [beq_iff_eq]; omega
      clear h2
      go_enter Try.func136, Try.ntmps136
      go_wp2
      go_ret
      exact ⟨rfl, rfl⟩
    · have he : endAt l n = tt l (n / 2) := by rw [endAt, if_neg h1, if_neg h2]
      rw [he]
      clear he
      go_enter Try.func136, Try.ntmps136
      go_wp2
      go_ret
      exact ⟨rfl, rfl⟩

theorem rMinus1_c (x y : Bool) (w : World) : Calls Try.prog 119 #[.bool x, .bool y] w fun e w' => e = .returned (.bool (x && !y)) ∧ w = w' := by
  cases x <;> cases y <;> (go_enter Try.func119, Try.ntmps119; go_wp2; go_ret; exact ⟨rfl, rfl⟩)
theorem rcombine_bad (v1 v2 vf : Value) (a b : List Sp) (w : World) (h1 : IsSpans w v1 a) (h2 : IsSpans w v2 b) (h : (validB a && validB b) = false) :
    Calls Try.prog 118 #[v1, v2, vf] w (RetLE w ([], 1)) := by
  cases ha : validB a
  · go_enter Try.func118, Try.ntmps118
    go_wp2_with fail
    refine (rValid_c _ _ _ h1).mono ?_
    rintro e w1 ⟨rfl, hb1⟩
    go_wp2_with fail
    go_ret2
    exact ⟨_, rfl, IsSpans.nil, hb1⟩
  · have hb : validB b = false := by simpa [ha] using h
    go_enter Try.func118, Try.ntmps118
    go_wp2_with fail
    refine (rValid_c _ _ _ h1).mono ?_
    rintro e w1 ⟨rfl, hb1⟩
    go_wp2_with fail
    refine (rValid_c _ _ _ (h2.below hb1)).mono ?_
    rintro e w2 ⟨rfl, hb2⟩
    go_wp2_with fail
    go_ret2
    exact ⟨_, rfl, IsSpans.nil, hb1.trans (hb2.mono hb1.size)⟩
end Go.Proofs.Ytahpcepnagpbdaa
