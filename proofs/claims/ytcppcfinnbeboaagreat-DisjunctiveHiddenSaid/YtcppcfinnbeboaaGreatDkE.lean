
/- Law 47: the reference's cut: canonical runs between two numbers. -/
import Derived.Test.YtcppcfinnbeboaaGreatDkD
namespace Go.Proofs.YtcppcfinnbeboaaGreat
open Go.RowKit Go.Shelf

/-! ### plain -/
theorem addL_ok {r : List Sp} {a b : Int} (hg : r.Pairwise fun s t => s.2 < t.1) (h : ∀ s ∈ r, s.1 < s.2 ∧ s.2 ≤ a) (hab : a < b) : (addL r (a, b)).Pairwise (fun s t => s.2 < t.1) ∧ ∀ s ∈ addL r (a, b), s ∈ r ∨ (s.2 = b ∧ s.1 < b ∧ (s.1 = a ∨ ∃ t ∈ r, s.1 = t.1)) := by
  unfold addL
  split
  · rename_i hc
    have hlen : 0 < r.length := List.length_pos_iff.2 hc.1
    have hmem := idx_mem (l := r) (i := r.length - 1) (by omega)
    have hl := h _ hmem
    have hgap := hg
    have hr' : r = r.take (r.length - 1) ++ [(fr r (r.length - 1), tt r (r.length - 1))] := by
      rw [← sp_at r (r.length - 1) (by omega), ← List.take_succ_eq_append_getElem (by omega), show r.length - 1 + 1 = r.length from by omega, List.take_length]
    rw [hr', List.pairwise_append] at hgap
    have hsub : ∀ s ∈ r.take (r.length - 1), s ∈ r := fun s hs => List.mem_of_mem_take hs
    refine ⟨?_, fun s hs => ?_⟩
    · rw [List.pairwise_append]
      refine ⟨hgap.1, by simp, fun s hs t ht => ?_⟩
      rw [List.mem_singleton] at ht
      subst ht
      exact hgap.2.2 s hs (fr r (r.length - 1), tt r (r.length - 1)) (by simp)
    · rcases List.mem_append.1 hs with h1 | h1
      · exact .inl (hsub s h1)
      · rw [List.mem_singleton] at h1
        subst h1
        simp only at hl
        exact .inr ⟨rfl, by simp only; omega, .inr ⟨_, hmem, rfl⟩⟩
  · rename_i hc
    refine ⟨?_, fun s hs => ?_⟩
    · rw [List.pairwise_append]
      refine ⟨hg, by simp, fun s hs t ht => ?_⟩
      rw [List.mem_singleton] at ht
      subst ht
      have hs2 := h s hs
      simp only
      by_cases e : s.2 = a
      · exfalso
        obtain ⟨k, hk, rfl⟩ := mem_idx hs
        have hne : r ≠ [] := List.ne_nil_of_mem hs
        rcases Nat.lt_or_ge k (r.length - 1) with h4 | h4
        · have h5 := List.pairwise_iff_getElem.1 hg k (r.length - 1) hk (by omega) h4
          rw [sp_at r k hk, sp_at r (r.length - 1) (by omega)] at h5
          have h6 := h _ (idx_mem (l := r) (i := r.length - 1) (by omega))
          simp only at h5 h6 e
          omega
        · obtain rfl : k = r.length - 1 := by omega
          exact hc ⟨hne, e⟩
      · omega
    · rcases List.mem_append.1 hs with h1 | h1
      · exact .inl h1
      · rw [List.mem_singleton] at h1
        subst h1
        exact .inr ⟨rfl, hab, .inl rfl⟩
theorem addL_len (r : List Sp) (s : Sp) : (addL r s).length ≤ r.length + 1 := by
  unfold addL
  split
  · rename_i h
    have := List.length_pos_iff.2 h.1
    rw [List.length_append, List.length_take, List.length_singleton]
    omega
  · simp
structure CutInv (x : List Sp) (lo hi : Int) (E : List Int) (i : Nat) (r : List Sp) : Prop where
  ok : ∀ s ∈ r, s.1 < s.2 ∧ -1073741824 ≤ s.1 ∧ s.2 ≤ 1073741824 ∧ s.2 ≤ iv E i
  gap : r.Pairwise fun s t => s.2 < t.1
  pts : ∀ y, y < iv E i → mem r y = (mem x y && inB lo hi y)
  len : r.length ≤ i
section
variable {x : List Sp} {lo hi : Int} {E : List Int} {i : Nat} {r : List Sp}
theorem asc_low (hE : Asc E) {y : Int} (h : y < iv E 0) : ∀ e ∈ E, y < e := fun e he => by
  obtain ⟨k, hk, rfl⟩ := mem_iv he
  rcases Nat.eq_zero_or_pos k with rfl | hp
  · exact h
  · exact Int.lt_trans h (asc_lt hE hp hk)
theorem cut_zero (hE : Asc E) (hx : ∀ s ∈ x, s.1 ∈ E ∧ s.2 ∈ E) : CutInv x lo hi E 0 [] :=
  ⟨by simp, List.Pairwise.nil, fun y hy => by rw [mem_outside hx (.inl (asc_low hE hy))]; rfl, by simp⟩
theorem inB_iff {lo hi y : Int} : inB lo hi y = true ↔ lo ≤ y ∧ y < hi := by
  unfold inB
  rw [Bool.and_eq_true, decide_eq_true_eq, decide_eq_true_eq]
theorem cut_not (hE : Asc E) (hx : ∀ s ∈ x, s.1 ∈ E ∧ s.2 ∈ E) (h : CutInv x lo hi E i r) (hi1 : i + 1 < E.length) (hg : min (iv E (i + 1)) hi ≤ max (iv E i) lo ∨ mem x (iv E i) = false) : CutInv x lo hi E (i + 1) r := by
  have hlt : iv E i < iv E (i + 1) := asc_lt hE (Nat.lt_succ_self i) hi1
  refine ⟨fun s hs => ⟨(h.ok s hs).1, (h.ok s hs).2.1, (h.ok s hs).2.2.1, by have := (h.ok s hs).2.2.2; omega⟩, h.gap, fun y hy => ?_, by have := h.len; omega⟩
  by_cases hx1 : y < iv E i
  · exact h.pts y hx1
  · have hr : mem r y = false := by
      rw [Bool.eq_false_iff, Ne, mem_iff]
      rintro ⟨s, hs, h1, h2⟩
      have := (h.ok s hs).2.2.2
      omega
    rw [hr]
    symm
    rcases hg with hg | hg
    · rw [Bool.eq_false_iff]
      intro h2
      rw [Bool.and_eq_true, inB_iff] at h2
      omega
    · rw [mem_const hE hx hi1 (by omega) hy, hg, Bool.false_and]
theorem cut_add (hE : Asc E) (hbd : ∀ e ∈ E, -1073741824 ≤ e ∧ e ≤ 1073741824) (hx : ∀ s ∈ x, s.1 ∈ E ∧ s.2 ∈ E) (h : CutInv x lo hi E i r) (hi1 : i + 1 < E.length) (hg : ¬ min (iv E (i + 1)) hi ≤ max (iv E i) lo) (hm : mem x (iv E i) = true) : CutInv x lo hi E (i + 1) (addL r (max (iv E i) lo, min (iv E (i + 1)) hi)) := by
  have hlt : iv E i < iv E (i + 1) := asc_lt hE (Nat.lt_succ_self i) hi1
  have b0 := hbd _ (iv_mem (show i < E.length by omega))
  have b1 := hbd _ (iv_mem hi1)
  obtain ⟨g1, g2⟩ := addL_ok (a := max (iv E i) lo) (b := min (iv E (i + 1)) hi) h.gap (fun s hs => ⟨(h.ok s hs).1, by have := (h.ok s hs).2.2.2; omega⟩) (by omega)
  refine ⟨fun s hs => ?_, g1, fun y hy => ?_, by have := h.len; have := addL_len r (max (iv E i) lo, min (iv E (i + 1)) hi); omega⟩
  · rcases g2 s hs with h1 | ⟨h1, h2, h3⟩
    · have := h.ok s h1
      omega
    · rcases h3 with h3 | ⟨t, ht, h3⟩
      · omega
      · have := h.ok t ht
        omega
  · rw [addL_pts (fun s hs => (h.ok s hs).1) (by omega)]
    by_cases hx1 : y < iv E i
    · rw [h.pts y hx1, decide_eq_false (show ¬ max (iv E i) lo ≤ y by omega)]
      simp
    · have hr : mem r y = false := by
        rw [Bool.eq_false_iff, Ne, mem_iff]
        rintro ⟨s, hs, h1, h2⟩
        have := (h.ok s hs).2.2.2
        omega
      rw [hr, mem_const hE hx hi1 (by omega) hy, hm, Bool.false_or, Bool.true_and, Bool.eq_iff_iff, inB_iff, Bool.and_eq_true, decide_eq_true_eq, decide_eq_true_eq]
      omega
theorem cut_end (hE : Asc E) (hx : ∀ s ∈ x, s.1 ∈ E ∧ s.2 ∈ E) (h : CutInv x lo hi E i r) (h1 : E.length ≤ i + 1) (h2 : i = 0 ∨ i < E.length) : Canon r ∧ ∀ y, mem r y = (mem x y && inB lo hi y) := by
  refine ⟨⟨fun s hs => ?_, h.gap⟩, fun y => ?_⟩
  · have := h.ok s hs
    unfold OkSp
    omega
  · by_cases hy : y < iv E i
    · exact h.pts y hy
    · have hup : ∀ e ∈ E, e ≤ y := fun e he => by
        obtain ⟨k, hk, rfl⟩ := mem_iv he
        rcases Nat.lt_or_ge k i with h4 | h4
        · have := asc_lt hE h4 (by omega); omega
        · obtain rfl : k = i := by omega
          omega
      rw [mem_outside hx (.inr hup), Bool.false_and, Bool.eq_false_iff, Ne, mem_iff]
      rintro ⟨s, hs, h3, h4⟩
      have := (h.ok s hs).2.2.2
      omega
end
theorem ends_near {l : List Sp} {E : List Int} (h : EndsSpec l l.length E) (hl : l.all spB = true) : ∀ e ∈ E, -1073741824 ≤ e ∧ e ≤ 1073741824 := fun e he => by
  obtain ⟨i, hi, _, h1⟩ := (h.mem e).1 he
  have := spB_near (List.all_eq_true.1 hl _ (idx_mem (l := l) (i := i) hi))
  simp only at this
  rcases h1 with rfl | rfl <;> omega
/-! ### the walk -/
theorem own_lower {w : World} {base b size n : Nat} {e : TypeId} {v : Value} {xs : List Value} (h : w.ownsRow base e size v n xs) (hb : b ≤ base) : w.ownsRow b e size v n xs := by
  obtain ⟨h1, h2⟩ := h
  refine ⟨h1, h2.imp id ?_⟩
  rintro ⟨g, cap, cur, hv, hg, r⟩
  exact ⟨g, cap, cur, hv, Nat.le_trans hb hg, r⟩
def CutRet (x : List Sp) (lo hi : Int) (w : World) (e : Ending) (w' : World) : Prop := ∃ r v, (Canon r ∧ ∀ y, mem r y = (mem x y && inB lo hi y)) ∧ e = .returned v ∧ w'.ownsRow w.heap.size 48 2 v r.length (flat r) ∧ r.length ≤ 100 ∧ Below w.heap.size w w'
end Go.Proofs.YtcppcfinnbeboaaGreat
