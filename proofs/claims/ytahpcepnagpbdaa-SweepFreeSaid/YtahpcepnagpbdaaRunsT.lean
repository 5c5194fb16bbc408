/- What the queries of runs compute (search, Has, Measure, Rank, Nth, Next, Equal), said of plain lists. No program. -/
import Derived.Test.YtahpcepnagpbdaaRunsP
namespace Go.Proofs.Ytahpcepnagpbdaa

theorem drop_step {l : List Sp} {k : Nat} (hk : k < l.length) : l.drop k = (fr l k, tt l k) :: l.drop (k + 1) := by
  rw [List.drop_eq_getElem_cons hk, sp_at l k hk]

/-- The index of the first span that ends behind x. -/
def IsSearch (l : List Sp) (x : Int) (i : Nat) : Prop := i ≤ l.length ∧ (∀ t, t < i → tt l t ≤ x) ∧ (∀ t, i ≤ t → t < l.length → x < tt l t)
theorem canon_to_mono {l : List Sp} (h : validB l = true) : ∀ (d i : Nat), i + d < l.length → tt l i ≤ tt l (i + d)
  | 0, i, _ => Int.le_refl _
  | d + 1, i, hi => by
    have h1 := canon_to_mono h d i (by omega)
    have h2 := validB_gap h (i := i + d) (by omega)
    have h3 := validB_ok h (i := i + d + 1) (by omega)
    rw [show i + (d + 1) = i + d + 1 from by omega]
    omega
theorem canon_to_le {l : List Sp} (h : validB l = true) {i j : Nat} (hij : i ≤ j) (hj : j < l.length) : tt l i ≤ tt l j := by
  have := canon_to_mono h (j - i) i (by omega)
  rwa [show i + (j - i) = j from by omega] at this
theorem has_eq {l : List Sp} (h : validB l = true) {x : Int} {i : Nat} (hi : IsSearch l x i) : (decide (i < l.length) && decide (fr l i ≤ x)) = mem l x := by
  obtain ⟨h1, h2, h3⟩ := hi
  cases hm : mem l x
  · rw [Bool.and_eq_false_iff]
    by_cases hlt : i < l.length
    · right
      rw [decide_eq_false_iff_not]
      intro hf
      have : mem l x = true := mem_iff.2 ⟨_, idx_mem hlt, hf, h3 i (Nat.le_refl _) hlt⟩
      rw [hm] at this; cases this
    · left; simp; omega
  · obtain ⟨s, hs, ha, hb⟩ := mem_iff.1 hm
    obtain ⟨j, hj, rfl⟩ := mem_idx hs
    simp only at ha hb
    have hij : i ≤ j := by
      rcases Nat.lt_or_ge j i with hlt | hge
      · have := h2 j hlt; omega
      · exact hge
    have hff : fr l i ≤ fr l j := by
      rcases Nat.lt_or_ge i j with hlt | hge
      · have g1 := canon_to_le h (i := i) (j := j - 1) (by omega) (by omega)
        have g2 := validB_gap h (i := j - 1) (by omega)
        have g3 := validB_ok h (i := i) (by omega)
        rw [show j - 1 + 1 = j from by omega] at g2
        omega
      · rw [show i = j from by omega]; exact Int.le_refl _
    simp; omega

def measL : List Sp → Int
  | [] => 0
  | s :: l => (s.2 - s.1) + measL l
def rankL (x : Int) : List Sp → Int
  | [] => 0
  | s :: l => (if s.1 < x then min s.2 x - s.1 else 0) + rankL x l
def nthL : List Sp → Int → Option Int
  | [], _ => none
  | s :: l, n => if n < s.2 - s.1 then some (s.1 + n) else nthL l (n - (s.2 - s.1))
def nextL (x : Int) : List Sp → Option Int
  | [] => none
  | s :: l => if x < s.2 then some (max x s.1) else nextL x l

theorem measL_step {l : List Sp} {k : Nat} (hk : k < l.length) : measL (l.drop k) = (tt l k - fr l k) + measL (l.drop (k + 1)) := by rw [drop_step hk]; rfl
theorem rankL_step {l : List Sp} {k : Nat} {x : Int} (hk : k < l.length) : rankL x (l.drop k) = (if fr l k < x then min (tt l k) x - fr l k else 0) + rankL x (l.drop (k + 1)) := by rw [drop_step hk]; rfl
theorem nthL_step {l : List Sp} {k : Nat} {n : Int} (hk : k < l.length) : nthL (l.drop k) n = if n < tt l k - fr l k then some (fr l k + n) else nthL (l.drop (k + 1)) (n - (tt l k - fr l k)) := by rw [drop_step hk]; rfl
theorem nextL_step {l : List Sp} {k : Nat} {x : Int} (hk : k < l.length) : nextL x (l.drop k) = if x < tt l k then some (max x (fr l k)) else nextL x (l.drop (k + 1)) := by rw [drop_step hk]; rfl
theorem nextL_search {l : List Sp} {x : Int} {i : Nat} (hi : IsSearch l x i) : nextL x l = if i < l.length then some (max x (fr l i)) else none := by
  obtain ⟨h1, h2, h3⟩ := hi
  have : ∀ k, k ≤ i → nextL x l = nextL x (l.drop k) := by
    intro k
    induction k with
    | zero => intro _; rfl
    | succ k ih =>
      intro hk
      rw [ih (by omega), nextL_step (by omega), if_neg]
      have := h2 k (by omega)
      omega
  rw [this i (Nat.le_refl _)]
  by_cases hlt : i < l.length
  · rw [nextL_step hlt, if_pos (h3 i (Nat.le_refl _) hlt), if_pos hlt]
  · rw [if_neg hlt, List.drop_of_length_le (by omega)]; rfl
def nthO : Option Int → Int × Int
  | some y => (y, 0)
  | none => (0, 2)
def nthR (l : List Sp) (n : Int) : Int × Int :=
  if validB l = false then (0, 1) else if n < 0 then (0, 2) else nthO (nthL l n)
def nextO : Option Int → Int × Bool
  | some y => (y, true)
  | none => (0, false)
def nextR (l : List Sp) (x : Int) : Int × Bool :=
  if validB l = false then (0, false) else nextO (nextL x l)
def sameL : List Sp → List Sp → Bool
  | [], [] => true
  | s :: l, t :: m => decide (s = t) && sameL l m
  | _, _ => false
theorem sameL_iff : ∀ l m : List Sp, sameL l m = true ↔ l = m
  | [], [] => by simp [sameL]
  | [], t :: m => by simp [sameL]
  | s :: l, [] => by simp [sameL]
  | s :: l, t :: m => by simp [sameL, sameL_iff l m]
theorem sameL_len : ∀ {l m : List Sp}, l.length ≠ m.length → sameL l m = false := by
  intro l m h
  cases hs : sameL l m
  · rfl
  · rw [sameL_iff] at hs; rw [hs] at h; exact absurd rfl h
theorem sameL_step {l m : List Sp} {k : Nat} (h1 : k < l.length) (h2 : k < m.length) :
    sameL (l.drop k) (m.drop k) = (decide (fr l k = fr m k ∧ tt l k = tt m k) && sameL (l.drop (k + 1)) (m.drop (k + 1))) := by
  rw [drop_step h1, drop_step h2]; simp [sameL]
end Go.Proofs.Ytahpcepnagpbdaa
