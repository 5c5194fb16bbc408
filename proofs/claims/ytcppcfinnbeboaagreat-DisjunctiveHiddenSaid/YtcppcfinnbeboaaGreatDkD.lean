
/- Law 47: the reference's cut: canonical runs between two numbers. -/
import Derived.Test.YtcppcfinnbeboaaGreatDkN
import Derived.Test.YtcppcfinnbeboaaGreatDjI
import Derived.BigQuiet
namespace Go.Proofs.YtcppcfinnbeboaaGreat
open Go.RowKit Go.Shelf

theorem mem_any (l : List Sp) (x : Int) : mem l x = l.any (inSp x) := rfl
/-! ### put -/
/-- The state of put behind k numbers. -/
def PutSt (l : List Int) (x : Int) (k : Nat) (out : List Int) (done : Bool) : Prop :=
  (done = false ∧ out = l.take k ∧ ∀ j, j < k → iv l j < x) ∨ (done = true ∧ ∃ i, i < k ∧ (∀ j, j < i → iv l j < x) ∧ x ≤ iv l i ∧ out = if x < iv l i then l.take i ++ [x] ++ (l.drop i).take (k - i) else l.take k)
theorem take_snoc {l : List Int} {k : Nat} (hk : k < l.length) : l.take k ++ [iv l k] = l.take (k + 1) := by rw [List.take_succ_eq_append_getElem hk, iv_at hk]
section
variable {l out : List Int} {x : Int} {k : Nat}
theorem put_first (h : PutSt l x k out false) (hk : k < l.length) (h1 : x < iv l k) : PutSt l x (k + 1) (out ++ [x] ++ [iv l k]) true := by
  rcases h with ⟨_, rfl, h2⟩ | ⟨h, _⟩
  · refine .inr ⟨rfl, k, by omega, h2, by omega, ?_⟩
    rw [if_pos h1, show k + 1 - k = 1 from by omega]
    congr 1
    rw [List.take_one, List.head?_drop, List.getElem?_eq_getElem hk, iv_at hk]
    rfl
  · cases h
theorem put_there (h : PutSt l x k out false) (hk : k < l.length) (h1 : x ≤ iv l k) (h2 : ¬ x < iv l k) : PutSt l x (k + 1) (out ++ [iv l k]) true := by
  rcases h with ⟨_, rfl, h3⟩ | ⟨h, _⟩
  · refine .inr ⟨rfl, k, by omega, h3, h1, ?_⟩
    rw [if_neg h2, take_snoc hk]
  · cases h
theorem put_low (h : PutSt l x k out false) (hk : k < l.length) (h1 : ¬ x ≤ iv l k) : PutSt l x (k + 1) (out ++ [iv l k]) false := by
  rcases h with ⟨_, rfl, h3⟩ | ⟨h, _⟩
  · refine .inl ⟨rfl, take_snoc hk, fun j hj => ?_⟩
    rcases Nat.lt_or_ge j k with h4 | h4
    · exact h3 j h4
    · obtain rfl : j = k := by omega
      omega
  · cases h
theorem put_on (h : PutSt l x k out true) (hk : k < l.length) : PutSt l x (k + 1) (out ++ [iv l k]) true := by
  rcases h with ⟨h, _⟩ | ⟨_, i, hi, h1, h2, rfl⟩
  · cases h
  · refine .inr ⟨rfl, i, by omega, h1, h2, ?_⟩
    split
    · rw [List.append_assoc (l.take i ++ [x])]
      congr 1
      rw [show k + 1 - i = (k - i) + 1 from by omega, List.take_succ_eq_append_getElem (by simp; omega)]
      congr 2
      rw [List.getElem_drop, ← iv_at hk]
      congr 1
      omega
    · exact take_snoc hk
theorem put_len (h : ∃ d, PutSt l x k out d) : out.length ≤ k + 1 := by
  obtain ⟨d, h⟩ := h
  rcases h with ⟨_, rfl, _⟩ | ⟨_, i, hi, _, _, rfl⟩
  · simp; omega
  · split <;> simp <;> omega
theorem put_done (ha : Asc l) (h : PutSt l x l.length out true) : InsSpec l x out := by
  rcases h with ⟨h, _⟩ | ⟨_, i, hi, h1, h2, rfl⟩
  · cases h
  · split
    · rename_i h3
      rw [List.take_of_length_le (l := l.drop i) (by simp)]
      refine ins_here ha (by omega) h1 fun k hk hkl => ?_
      rcases Nat.eq_or_lt_of_le hk with e | e
      · rw [← e]; exact h3
      · have := asc_lt ha e hkl; omega
    · rw [List.take_length]
      refine ins_same ha ?_
      rw [show x = iv l i from by omega]
      exact iv_mem hi
theorem put_last (ha : Asc l) (h : PutSt l x l.length out false) : InsSpec l x (out ++ [x]) := by
  rcases h with ⟨_, rfl, h1⟩ | ⟨h, _⟩
  · have := ins_here (x := x) ha (Nat.le_refl _) h1 fun k hk hkl => absurd hkl (by omega)
    simpa using this
  · cases h
end
end Go.Proofs.YtcppcfinnbeboaaGreat
