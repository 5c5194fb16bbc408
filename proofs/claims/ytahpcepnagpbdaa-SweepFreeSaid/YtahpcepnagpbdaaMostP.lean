/- The earliest packing has the most spans (exchange argument), and is a packing. Plain law. -/
import Derived.Test.YtahpcepnagpbdaaOrd
namespace Go.Proofs.Ytahpcepnagpbdaa

theorem com_false {s t : Sp} (h : comSp s t = false) (_ : s.1 < s.2) (_ : t.1 < t.2) : s.2 ≤ t.1 ∨ t.2 ≤ s.1 := by
  by_cases h1 : s.1 < t.2 <;> by_cases h2 : t.1 < s.2 <;> simp [comSp, h1, h2] at h <;> omega
theorem com_true {s t : Sp} (h : comSp s t = true) : s.1 < t.2 ∧ t.1 < s.2 := by
  by_cases h1 : s.1 < t.2 <;> by_cases h2 : t.1 < s.2 <;> simp [comSp, h1, h2] at h <;> omega
theorem com_comm (s t : Sp) : comSp s t = comSp t s := by unfold comSp; rw [Bool.and_comm]
/-- The last To of a packing. -/
def lastTo (l : List Sp) (P : List Nat) : Int := tt l (P.getD (P.length - 1) 0)
theorem lastTo_snoc (l : List Sp) (P : List Nat) (i : Nat) : lastTo l (P ++ [i]) = tt l i := by simp [lastTo]
theorem pkOk_iff {l : List Sp} {P : List Nat} {i : Nat} : pkOk l P i = true ↔ P.length = 0 ∨ lastTo l P ≤ fr l i := by simp [pkOk, lastTo]
theorem lastTo_mem {l : List Sp} {P : List Nat} (h : 0 < P.length) : ∃ j ∈ P, lastTo l P = tt l j := ⟨P.getD (P.length - 1) 0, by
  rw [List.getD_eq_getElem?_getD, List.getElem?_eq_getElem (by omega)]; simp, rfl⟩
theorem erase_mem_ne {O : List Nat} {i x : Nat} (hn : O.Nodup) (h : x ∈ O.erase i) : x ∈ O ∧ x ≠ i := by
  have := (List.Nodup.mem_erase_iff hn).1 h
  exact ⟨this.2, this.1⟩
theorem pack_most (l : List Sp) : ∀ L : List Nat, L.Pairwise (fun i j => tt l i ≤ tt l j) → (∀ j ∈ L, fr l j < tt l j) → ∀ O : List Nat, O.Nodup → (∀ x ∈ O, x ∈ L) → (∀ x ∈ O, ∀ y ∈ O, x ≠ y → comSp (sp l x) (sp l y) = false) →
    O.length ≤ (packL l L).length ∧ (O.length = (packL l L).length → 0 < O.length → ∃ o ∈ O, lastTo l (packL l L) ≤ tt l o) := by
  refine snocRec ?_ ?_
  · intro _ _ O _ hs _
    have : O = [] := by
      cases O with
      | nil => rfl
      | cons a O => exact absurd (hs a (by simp)) (by simp)
    subst this
    exact ⟨Nat.zero_le _, fun _ h => absurd h (by simp)⟩
  · intro L i ih hp hok O hn hs ha
    rw [List.pairwise_append] at hp
    have hi : ∀ j ∈ L, tt l j ≤ tt l i := fun j hj => hp.2.2 j hj i (by simp)
    have ih' := ih hp.1 (fun j hj => hok j (by simp [hj]))
    rw [packL_snoc, pk]
    by_cases hm : i ∈ O
    · have hn1 : (O.erase i).Nodup := hn.erase i
      have hl1 : (O.erase i).length = O.length - 1 := List.length_erase_of_mem hm
      have hpos : 0 < O.length := List.length_pos_of_mem hm
      have hs1 : ∀ x ∈ O.erase i, x ∈ L := fun x hx => by
        obtain ⟨h1, h2⟩ := erase_mem_ne hn hx
        have := hs x h1
        simp only [List.mem_append, List.mem_singleton] at this
        exact this.resolve_right h2
      obtain ⟨h1, h2⟩ := ih' (O.erase i) hn1 hs1 (fun x hx y hy => ha x (erase_mem_ne hn hx).1 y (erase_mem_ne hn hy).1)
      rw [hl1] at h1 h2
      by_cases hlt : O.length - 1 < (packL l L).length
      · split
        · refine ⟨by simp; omega, fun _ _ => ⟨i, hm, by rw [lastTo_snoc]; exact Int.le_refl _⟩⟩
        · refine ⟨by omega, fun he _ => ⟨i, hm, ?_⟩⟩
          obtain ⟨j, hj, he⟩ := lastTo_mem (l := l) (P := packL l L) (by omega)
          rw [he]
          exact hi j (packL_mem hj)
      · have hk : pkOk l (packL l L) i = true := by
          rw [pkOk_iff]
          by_cases hz : (packL l L).length = 0
          · exact .inl hz
          · obtain ⟨o, ho, hle⟩ := h2 (by omega) (by omega)
            obtain ⟨ho1, ho2⟩ := erase_mem_ne hn ho
            have hc := ha o ho1 i hm ho2
            have h3 := hi o (hs1 o ho)
            have h4 := hok o (by simp [hs1 o ho])
            have h5 := hok i (by simp)
            have h6 := com_false hc h4 h5
            simp only [sp] at h6
            exact .inr (by omega)
        rw [if_pos hk]
        refine ⟨by simp; omega, fun _ _ => ⟨i, hm, by rw [lastTo_snoc]; exact Int.le_refl _⟩⟩
    · have hs1 : ∀ x ∈ O, x ∈ L := fun x hx => by
        have := hs x hx
        simp only [List.mem_append, List.mem_singleton] at this
        exact this.resolve_right (fun e => hm (e ▸ hx))
      obtain ⟨h1, h2⟩ := ih' O hn hs1 ha
      split
      · exact ⟨by simp; omega, fun he => by simp at he; omega⟩
      · exact ⟨h1, h2⟩
/-- The earliest packing is a packing. -/
theorem pack_apart (l : List Sp) : ∀ L : List Nat, L.Pairwise (fun i j => tt l i ≤ tt l j) → (∀ j ∈ L, fr l j < tt l j) → (packL l L).Pairwise (fun i j => tt l i ≤ fr l j) ∧ ∀ j ∈ packL l L, tt l j ≤ lastTo l (packL l L) := by
  refine snocRec ?_ ?_
  · exact fun _ _ => ⟨List.Pairwise.nil, by simp [packL]⟩
  · intro L i ih hp hok
    rw [List.pairwise_append] at hp
    obtain ⟨h1, h2⟩ := ih hp.1 (fun j hj => hok j (by simp [hj]))
    rw [packL_snoc, pk]
    split
    · rename_i hk
      rw [pkOk_iff] at hk
      have h3 : ∀ j ∈ packL l L, tt l j ≤ fr l i := fun j hj => by
        have := h2 j hj
        rcases hk with hk | hk
        · rw [List.length_eq_zero_iff.1 hk] at hj; simp at hj
        · omega
      refine ⟨?_, fun j hj => ?_⟩
      · rw [List.pairwise_append]
        exact ⟨h1, by simp, fun a ha b hb => by rw [List.mem_singleton.1 hb]; exact h3 a ha⟩
      · rw [lastTo_snoc]
        rcases List.mem_append.1 hj with hj | hj
        · have := h3 j hj; have := hok i (by simp); omega
        · rw [List.mem_singleton.1 hj]; exact Int.le_refl _
    · exact ⟨h1, h2⟩
end Go.Proofs.Ytahpcepnagpbdaa
