/- Law 42: what the check answers, case by case. Plain law (no program). -/
import Derived.Test.YtgdcgdjlhljbiaaIdxQ
namespace Go.Proofs.Ytgdcgdjlhljbiaa

section
variable {N : List Nd} {fuel : Nat} {i : Int} {s : VSt}
theorem vF_nil (h : i = -1) : visitF N (fuel + 1) i s = ((0, -4398046511104, true), s) := by rw [visitF, if_pos h]
theorem vF_out (h : i ≠ -1) (h1 : i < 0 ∨ (N.length : Int) ≤ i ∨ s.seen.getD i.toNat false = true) : visitF N (fuel + 1) i s = ((0, 0, false), s) := by rw [visitF, if_neg h, if_pos h1]
theorem vF_left {a x : Int} {s1 : VSt} (h : i ≠ -1) (h1 : ¬ (i < 0 ∨ (N.length : Int) ≤ i ∨ s.seen.getD i.toNat false = true)) (hx : visitF N fuel (nd N i.toNat).l { s with seen := s.seen.set i.toNat true } = ((a, x, false), s1)) :
    visitF N (fuel + 1) i s = ((0, 0, false), s1) := by
  rw [visitF, if_neg h, if_neg h1]
  simp only [hx, if_true]
theorem vF_bad {a x : Int} {s1 : VSt} (h : i ≠ -1) (h1 : ¬ (i < 0 ∨ (N.length : Int) ≤ i ∨ s.seen.getD i.toNat false = true)) (hx : visitF N fuel (nd N i.toNat).l { s with seen := s.seen.set i.toNat true } = ((a, x, true), s1))
    (hb : okSpan ((nd N i.toNat).f, (nd N i.toNat).t) = false ∨ (s1.some = true ∧ ¬ enLt s1.last (ent (nd N i.toNat)))) :
    visitF N (fuel + 1) i s = ((0, 0, false), s1) := by
  rw [visitF, if_neg h, if_neg h1]
  simp only [hx]
  rw [if_neg (by simp), if_pos hb]
theorem vF_right {a x b y : Int} {ok : Bool} {s1 s2 : VSt} (h : i ≠ -1) (h1 : ¬ (i < 0 ∨ (N.length : Int) ≤ i ∨ s.seen.getD i.toNat false = true)) (hx : visitF N fuel (nd N i.toNat).l { s with seen := s.seen.set i.toNat true } = ((a, x, true), s1))
    (hb : ¬ (okSpan ((nd N i.toNat).f, (nd N i.toNat).t) = false ∨ (s1.some = true ∧ ¬ enLt s1.last (ent (nd N i.toNat)))))
    (hy : visitF N fuel (nd N i.toNat).r { s1 with last := ent (nd N i.toNat), some := true } = ((b, y, ok), s2))
    (hc : ok = false ∨ (nd N i.toNat).h ≠ 1 + max a b ∨ a - b > 1 ∨ b - a > 1 ∨ (nd N i.toNat).m ≠ max (max x y) (nd N i.toNat).t) :
    visitF N (fuel + 1) i s = ((0, 0, false), s2) := by
  rw [visitF, if_neg h, if_neg h1]
  simp only [hx]
  rw [if_neg (by simp), if_neg hb]
  simp only [hy]
  rw [if_pos hc]
theorem vF_good {a x b y : Int} {s1 s2 : VSt} (h : i ≠ -1) (h1 : ¬ (i < 0 ∨ (N.length : Int) ≤ i ∨ s.seen.getD i.toNat false = true)) (hx : visitF N fuel (nd N i.toNat).l { s with seen := s.seen.set i.toNat true } = ((a, x, true), s1))
    (hb : ¬ (okSpan ((nd N i.toNat).f, (nd N i.toNat).t) = false ∨ (s1.some = true ∧ ¬ enLt s1.last (ent (nd N i.toNat)))))
    (hy : visitF N fuel (nd N i.toNat).r { s1 with last := ent (nd N i.toNat), some := true } = ((b, y, true), s2))
    (hc : ¬ ((nd N i.toNat).h ≠ 1 + max a b ∨ a - b > 1 ∨ b - a > 1 ∨ (nd N i.toNat).m ≠ max (max x y) (nd N i.toNat).t)) :
    visitF N (fuel + 1) i s = (((nd N i.toNat).h, (nd N i.toNat).m, true), s2) := by
  rw [visitF, if_neg h, if_neg h1]
  simp only [hx]
  rw [if_neg (by simp), if_neg hb]
  simp only [hy]
  rw [if_neg (by simpa using hc)]
end
theorem count_set_true {S : List Bool} {i : Nat} (hi : i < S.length) (h : S.getD i false = false) : (S.set i true).count false + 1 = S.count false := by
  induction S generalizing i with
  | nil => simp at hi
  | cons b S ih =>
    cases i with
    | zero =>
      simp at h
      subst h
      simp
    | succ i =>
      have := ih (i := i) (by simpa using hi) (by simpa using h)
      simp only [List.set_cons_succ, List.count_cons]
      omega
theorem visit_keep (N : List Nd) : ∀ (fuel : Nat) (i : Int) (s : VSt), s.seen.length = N.length → (visitF N fuel i s).2.seen.length = N.length ∧ (visitF N fuel i s).2.seen.count false ≤ s.seen.count false := by
  intro fuel
  induction fuel with
  | zero => intro i s h; exact ⟨h, Nat.le_refl _⟩
  | succ fuel ih =>
    intro i s h
    by_cases h0 : i = -1
    · rw [vF_nil h0]; exact ⟨h, Nat.le_refl _⟩
    by_cases h1 : i < 0 ∨ (N.length : Int) ≤ i ∨ s.seen.getD i.toNat false = true
    · rw [vF_out h0 h1]; exact ⟨h, Nat.le_refl _⟩
    have hc := count_set_true (S := s.seen) (i := i.toNat) (by omega) (by
      cases hh : s.seen.getD i.toNat false
      · rfl
      · exact absurd (.inr (.inr hh)) h1)
    rcases hx : visitF N fuel (nd N i.toNat).l { s with seen := s.seen.set i.toNat true } with ⟨⟨a, x, ok⟩, s1⟩
    have k1 := ih (nd N i.toNat).l { s with seen := s.seen.set i.toNat true } (by simpa using h)
    rw [hx] at k1
    have k2 : s1.seen.length = N.length ∧ s1.seen.count false ≤ s.seen.count false := ⟨k1.1, by have := k1.2; simp only at this; omega⟩
    cases ok
    · rw [vF_left h0 h1 hx]; exact k2
    by_cases hb : okSpan ((nd N i.toNat).f, (nd N i.toNat).t) = false ∨ (s1.some = true ∧ ¬ enLt s1.last (ent (nd N i.toNat)))
    · rw [vF_bad h0 h1 hx hb]; exact k2
    rcases hy : visitF N fuel (nd N i.toNat).r { s1 with last := ent (nd N i.toNat), some := true } with ⟨⟨b, y, ok⟩, s2⟩
    have k3 := ih (nd N i.toNat).r { s1 with last := ent (nd N i.toNat), some := true } k2.1
    rw [hy] at k3
    have k4 : s2.seen.length = N.length ∧ s2.seen.count false ≤ s.seen.count false := ⟨k3.1, Nat.le_trans k3.2 k2.2⟩
    by_cases hc : ok = false ∨ (nd N i.toNat).h ≠ 1 + max a b ∨ a - b > 1 ∨ b - a > 1 ∨ (nd N i.toNat).m ≠ max (max x y) (nd N i.toNat).t
    · rw [vF_right h0 h1 hx hb hy hc]; exact k4
    · have hok : ok = true := by cases ok <;> simp_all
      subst hok
      rw [vF_good h0 h1 hx hb hy (fun h => hc (.inr h))]; exact k4
/-- The heights that the check answers are low. -/
theorem visit_low {N : List Nd} (hN : N.length ≤ 1000) {fuel : Nat} {i : Int} {s s' : VSt} {h m : Int} (hl : s.seen.length = N.length) (hv : visitF N fuel i s = ((h, m, true), s')) : 0 ≤ h ∧ h ≤ 14 := by
  obtain ⟨L, hs, _, _, h1, h2, _⟩ := visit_sound N fuel i s h m s' hl hv
  refine sub_low hs ?_
  have := nodup_sub h2 (M := List.range N.length) (fun j hj => List.mem_range.2 (h1 j hj).1)
  simp at this
  omega
end Go.Proofs.Ytgdcgdjlhljbiaa
