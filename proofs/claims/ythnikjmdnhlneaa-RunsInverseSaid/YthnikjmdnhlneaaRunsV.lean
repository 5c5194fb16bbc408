/- Nth and Rank are inverse; Next is the element at the rank. Plain laws. -/
import Derived.Test.YthnikjmdnhlneaaRunsU
namespace Go.Proofs.Ythnikjmdnhlneaa

theorem rank_zero {x : Int} : ∀ {l : List Sp}, (∀ t ∈ l, x ≤ t.1) → rankL x l = 0
  | [], _ => rfl
  | s :: l, h => by
    have h1 := h s (by simp)
    have ih := rank_zero (x := x) (l := l) (fun t ht => h t (List.mem_cons_of_mem _ ht))
    simp only [rankL, ih]
    rw [if_neg (by omega)]; rfl
theorem nth_mem : ∀ {l : List Sp} {n y : Int}, Canon l → 0 ≤ n → nthL l n = some y → mem l y = true ∧ rankL y l = n
  | [], _, _, _, _, h => by simp [nthL] at h
  | s :: l, n, y, hc, h0, h => by
    have hs := (canon_head hc).1
    have ht := (canon_head hc).2
    unfold OkSp at hs
    simp only [nthL] at h
    by_cases hn : n < s.2 - s.1
    · rw [if_pos hn] at h
      injection h with h
      subst h
      refine ⟨by rw [mem_cons]; simp; left; omega, ?_⟩
      simp only [rankL]
      rw [rank_zero (fun t hm => by have := ht t hm; omega)]
      split <;> omega
    · rw [if_neg hn] at h
      obtain ⟨h1, h2⟩ := nth_mem (canon_tail hc) (by omega) h
      have h3 := mem_tail hc h1
      refine ⟨by rw [mem_cons, h1, Bool.or_true], ?_⟩
      simp only [rankL, h2]
      rw [if_pos (by omega), Int.min_eq_left (by omega)]; omega
theorem nth_rank (x : Int) : ∀ {l : List Sp}, Canon l → nthL l (rankL x l) = nextL x l
  | [], _ => rfl
  | s :: l, hc => by
    have hs := (canon_head hc).1
    have ht := (canon_head hc).2
    unfold OkSp at hs
    have hr := rank_nonneg x l (canon_tail hc).1
    have er : rankL x (s :: l) = (if s.1 < x then min s.2 x - s.1 else 0) + rankL x l := rfl
    have en : ∀ r, nthL (s :: l) r = if r < s.2 - s.1 then some (s.1 + r) else nthL l (r - (s.2 - s.1)) := fun _ => rfl
    have ex : nextL x (s :: l) = if x < s.2 then some (max x s.1) else nextL x l := rfl
    rw [en, ex]
    by_cases h1 : s.1 < x
    · rw [if_pos h1] at er
      by_cases h2 : x < s.2
      · rw [rank_zero (l := l) (fun t hm => by have := ht t hm; omega), Int.min_eq_right (by omega)] at er
        rw [if_pos h2, if_pos (by omega), Int.max_eq_left (by omega), er]
        congr 1; omega
      · rw [Int.min_eq_left (by omega)] at er
        rw [if_neg h2, if_neg (by omega), ← nth_rank x (canon_tail hc), er]
        congr 1; omega
    · rw [if_neg h1, rank_zero (l := l) (fun t hm => by have := ht t hm; omega)] at er
      rw [if_pos (by omega), if_pos (by omega), Int.max_eq_right (by omega), er]
      congr 1; omega
theorem next_spec {x z : Int} : ∀ {l : List Sp}, Canon l → nextL x l = some z → x ≤ z ∧ mem l x = (z == x)
  | [], _, h => by simp [nextL] at h
  | s :: l, hc, h => by
    have hs := (canon_head hc).1
    have ht := (canon_head hc).2
    unfold OkSp at hs
    simp only [nextL] at h
    rw [mem_cons]
    by_cases h1 : x < s.2
    · rw [if_pos h1] at h
      injection h with h
      have hl : mem l x = false := by
        cases hm : mem l x
        · rfl
        · have := mem_tail hc hm; omega
      refine ⟨by omega, ?_⟩
      rw [hl, Bool.or_false]
      rw [Bool.eq_iff_iff]
      simp
      omega
    · rw [if_neg h1] at h
      obtain ⟨h2, h3⟩ := next_spec (canon_tail hc) h
      refine ⟨h2, ?_⟩
      rw [h3]
      have : decide (x < s.2) = false := decide_eq_false h1
      rw [this, Bool.and_false, Bool.false_or]
theorem next_none {x : Int} : ∀ {l : List Sp}, nextL x l = none → ∀ s ∈ l, s.2 ≤ x
  | [], _ => by simp
  | s :: l, h => by
    simp only [nextL] at h
    by_cases h1 : x < s.2
    · rw [if_pos h1] at h; cases h
    · rw [if_neg h1] at h
      intro t ht
      rcases List.mem_cons.1 ht with rfl | ht
      · omega
      · exact next_none h t ht
end Go.Proofs.Ythnikjmdnhlneaa
