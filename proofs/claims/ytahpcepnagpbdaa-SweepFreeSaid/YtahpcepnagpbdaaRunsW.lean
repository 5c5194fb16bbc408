/- The reference's way to a result of an operation: all ends ascending, each stretch between two ends kept or not. Plain laws. -/
import Derived.Test.YtahpcepnagpbdaaRunsP
import Derived.Test.YtahpcepnagpbdaaInts
namespace Go.Proofs.Ytahpcepnagpbdaa

/-- An ascending list of numbers; its k-th number. -/
def Asc (E : List Int) : Prop := E.Pairwise (· < ·)
theorem asc_lt {E : List Int} (h : Asc E) {i j : Nat} (hij : i < j) (hj : j < E.length) : iv E i < iv E j := by
  have := List.pairwise_iff_getElem.1 h i j (by omega) hj hij
  rw [iv_at (by omega), iv_at hj] at this; exact this
theorem asc_gap {E : List Int} (h : Asc E) {i : Nat} (hi : i + 1 < E.length) {x : Int} (hx : x ∈ E) : x ≤ iv E i ∨ iv E (i + 1) ≤ x := by
  obtain ⟨k, hk, rfl⟩ := mem_iv hx
  rcases Nat.lt_trichotomy k i with h1 | rfl | h1
  · exact .inl (Int.le_of_lt (asc_lt h h1 (by omega)))
  · exact .inl (Int.le_refl _)
  · rcases Nat.lt_or_ge (i + 1) k with h2 | h2
    · exact .inr (Int.le_of_lt (asc_lt h h2 hk))
    · obtain rfl : k = i + 1 := by omega
      exact .inr (Int.le_refl _)

/-- What insert answers. -/
structure InsSpec (l : List Int) (x : Int) (r : List Int) : Prop where
  asc : Asc r
  mem : ∀ y, y ∈ r ↔ y ∈ l ∨ y = x
  len : r.length ≤ l.length + 1
theorem ins_same {l : List Int} {x : Int} (h : Asc l) (hx : x ∈ l) : InsSpec l x l := ⟨h, fun _ => ⟨.inl, fun h => h.elim id (fun e => e ▸ hx)⟩, Nat.le_succ _⟩
theorem ins_here {l : List Int} {x : Int} {i : Nat} (h : Asc l) (hi : i ≤ l.length) (h1 : ∀ k, k < i → iv l k < x) (h2 : ∀ k, i ≤ k → k < l.length → x < iv l k) : InsSpec l x (l.take i ++ [x] ++ l.drop i) := by
  have e1 : ∀ y ∈ l.take i, y < x := fun y hy => by
    obtain ⟨k, hk, rfl⟩ := List.mem_iff_getElem.1 hy
    have hk' : k < i ∧ k < l.length := by simp at hk; omega
    have := h1 k hk'.1
    rw [← iv_at hk'.2] at this; simpa using this
  have e2 : ∀ y ∈ l.drop i, x < y := fun y hy => by
    obtain ⟨k, hk, rfl⟩ := List.mem_iff_getElem.1 hy
    have hk' : i + k < l.length := by simp at hk; omega
    have := h2 (i + k) (by omega) hk'
    rw [← iv_at hk'] at this; simpa using this
  have h' : (l.take i ++ l.drop i).Pairwise (· < ·) := by rw [List.take_append_drop]; exact h
  rw [List.pairwise_append] at h'
  refine ⟨?_, fun y => ?_, by simp; omega⟩
  · unfold Asc
    rw [List.append_assoc, List.pairwise_append]
    refine ⟨h'.1, ?_, ?_⟩
    · rw [List.singleton_append, List.pairwise_cons]
      exact ⟨e2, h'.2.1⟩
    · intro a ha b hb
      rw [List.singleton_append, List.mem_cons] at hb
      rcases hb with rfl | hb
      · exact e1 a ha
      · exact h'.2.2 a ha b hb
  · conv => rhs; rw [← List.take_append_drop i l]
    simp only [List.mem_append, List.mem_singleton]
    constructor
    · rintro ((h | h) | h)
      · exact .inl (.inl h)
      · exact .inr h
      · exact .inl (.inr h)
    · rintro ((h | h) | h)
      · exact .inl (.inl h)
      · exact .inr h
      · exact .inl (.inr h)

/-- The ends of a list of spans: all of them, ascending. -/
structure EndsSpec (l : List Sp) (k : Nat) (E : List Int) : Prop where
  asc : Asc E
  mem : ∀ y, y ∈ E ↔ ∃ i, i < k ∧ i < l.length ∧ (y = fr l i ∨ y = tt l i)
  len : E.length ≤ 2 * k
theorem ends_zero (l : List Sp) : EndsSpec l 0 [] := ⟨List.Pairwise.nil, fun y => ⟨fun h => absurd h (by simp), fun ⟨i, h, _⟩ => absurd h (by omega)⟩, by simp⟩
theorem ends_step {l : List Sp} {k : Nat} {E E1 E2 : List Int} (h : EndsSpec l k E) (hk : k < l.length) (h1 : InsSpec E (fr l k) E1) (h2 : InsSpec E1 (tt l k) E2) : EndsSpec l (k + 1) E2 := by
  refine ⟨h2.asc, fun y => ?_, by have := h.len; have := h1.len; have := h2.len; omega⟩
  rw [h2.mem, h1.mem, h.mem]
  constructor
  · rintro ((⟨i, ha, hb, hc⟩ | rfl) | rfl)
    · exact ⟨i, by omega, hb, hc⟩
    · exact ⟨k, by omega, hk, .inl rfl⟩
    · exact ⟨k, by omega, hk, .inr rfl⟩
  · rintro ⟨i, ha, hb, hc⟩
    by_cases hi : i < k
    · exact .inl (.inl ⟨i, hi, hb, hc⟩)
    · obtain rfl : i = k := by omega
      rcases hc with rfl | rfl
      · exact .inl (.inr rfl)
      · exact .inr rfl

/-- What Add answers. -/
def addL (r : List Sp) (s : Sp) : List Sp := if r ≠ [] ∧ tt r (r.length - 1) = s.1 then r.take (r.length - 1) ++ [(fr r (r.length - 1), s.2)] else r ++ [s]
/-- The state of Combine behind the i-th of the ends. -/
structure KeepInv (g : Bool → Bool → Bool) (a b : List Sp) (E : List Int) (i : Nat) (r : List Sp) : Prop where
  ok : ∀ s ∈ r, s.1 < s.2 ∧ s.1 ∈ E ∧ s.2 ∈ E ∧ s.2 ≤ iv E i
  gap : r.Pairwise fun s t => s.2 < t.1
  pts : ∀ x, x < iv E i → mem r x = g (mem a x) (mem b x)
  len : r.length ≤ i
theorem mem_const {l : List Sp} {E : List Int} (hE : Asc E) (hin : ∀ s ∈ l, s.1 ∈ E ∧ s.2 ∈ E) {i : Nat} (hi : i + 1 < E.length) {x : Int} (h1 : iv E i ≤ x) (h2 : x < iv E (i + 1)) : mem l x = mem l (iv E i) := by
  rw [Bool.eq_iff_iff, mem_iff, mem_iff]
  constructor
  · rintro ⟨s, hs, h3, h4⟩
    have := asc_gap hE hi (hin s hs).1
    exact ⟨s, hs, by omega, by omega⟩
  · rintro ⟨s, hs, h3, h4⟩
    have := asc_gap hE hi (hin s hs).2
    exact ⟨s, hs, by omega, by omega⟩
theorem mem_outside {l : List Sp} {E : List Int} (hin : ∀ s ∈ l, s.1 ∈ E ∧ s.2 ∈ E) {x : Int} (h : (∀ e ∈ E, x < e) ∨ (∀ e ∈ E, e ≤ x)) : mem l x = false := by
  rw [Bool.eq_false_iff, Ne, mem_iff]
  rintro ⟨s, hs, h1, h2⟩
  rcases h with h | h
  · have := h s.1 (hin s hs).1; omega
  · have := h s.2 (hin s hs).2; omega
theorem keep_zero {g : Bool → Bool → Bool} (h0 : g false false = false) {a b : List Sp} {E : List Int} (hE : Asc E) (ha : ∀ s ∈ a, s.1 ∈ E ∧ s.2 ∈ E) (hb : ∀ s ∈ b, s.1 ∈ E ∧ s.2 ∈ E) : KeepInv g a b E 0 [] := by
  refine ⟨by simp, List.Pairwise.nil, fun x hx => ?_, by simp⟩
  have hlow : ∀ e ∈ E, x < e := fun e he => by
    obtain ⟨k, hk, rfl⟩ := mem_iv he
    rcases Nat.eq_zero_or_pos k with rfl | hp
    · exact hx
    · exact Int.lt_trans hx (asc_lt hE hp hk)
  rw [mem_outside ha (.inl hlow), mem_outside hb (.inl hlow), h0]; rfl
theorem keep_not {g : Bool → Bool → Bool} {a b : List Sp} {E : List Int} {i : Nat} {r : List Sp} (hE : Asc E) (ha : ∀ s ∈ a, s.1 ∈ E ∧ s.2 ∈ E) (hb : ∀ s ∈ b, s.1 ∈ E ∧ s.2 ∈ E)
    (h : KeepInv g a b E i r) (hi : i + 1 < E.length) (hg : g (mem a (iv E i)) (mem b (iv E i)) = false) : KeepInv g a b E (i + 1) r := by
  have hlt : iv E i < iv E (i + 1) := asc_lt hE (Nat.lt_succ_self i) hi
  refine ⟨fun s hs => ⟨(h.ok s hs).1, (h.ok s hs).2.1, (h.ok s hs).2.2.1, by have := (h.ok s hs).2.2.2; omega⟩, h.gap, fun x hx => ?_, by have := h.len; omega⟩
  by_cases hx1 : x < iv E i
  · exact h.pts x hx1
  · rw [mem_const hE ha hi (by omega) hx, mem_const hE hb hi (by omega) hx, hg, Bool.eq_false_iff, Ne, mem_iff]
    rintro ⟨s, hs, h1, h2⟩
    have := (h.ok s hs).2.2.2
    omega
theorem mem_span (p q x : Int) : mem [(p, q)] x = (decide (p ≤ x) && decide (x < q)) := by simp [mem]
theorem addL_pts {r : List Sp} {p q : Int} (hr : ∀ s ∈ r, s.1 < s.2) (hpq : p < q) (x : Int) : mem (addL r (p, q)) x = (mem r x || (decide (p ≤ x) && decide (x < q))) := by
  unfold addL
  split
  · rename_i h
    have hlen : 0 < r.length := List.length_pos_iff.2 h.1
    have hr' : r = r.take (r.length - 1) ++ [(fr r (r.length - 1), tt r (r.length - 1))] := by
      rw [← sp_at r (r.length - 1) (by omega), ← List.take_succ_eq_append_getElem (by omega), show r.length - 1 + 1 = r.length from by omega, List.take_length]
    have h2 := h.2
    have hlast := hr _ (idx_mem (l := r) (i := r.length - 1) (by omega))
    conv => rhs; rw [hr']
    simp only [mem_append, mem_span] at *
    rw [Bool.or_assoc]
    congr 1
    rw [Bool.eq_iff_iff]
    simp only [Bool.and_eq_true, Bool.or_eq_true, decide_eq_true_eq]
    omega
  · simp [mem_append, mem_span]
theorem keep_add {g : Bool → Bool → Bool} {a b : List Sp} {E : List Int} {i : Nat} {r : List Sp} (hE : Asc E) (ha : ∀ s ∈ a, s.1 ∈ E ∧ s.2 ∈ E) (hb : ∀ s ∈ b, s.1 ∈ E ∧ s.2 ∈ E)
    (h : KeepInv g a b E i r) (hi : i + 1 < E.length) (hg : g (mem a (iv E i)) (mem b (iv E i)) = true) : KeepInv g a b E (i + 1) (addL r (iv E i, iv E (i + 1))) := by
  have hlt : iv E i < iv E (i + 1) := asc_lt hE (Nat.lt_succ_self i) hi
  have m0 := iv_mem (show i < E.length by omega)
  have m1 := iv_mem hi
  have hpts : ∀ x, x < iv E (i + 1) → mem (addL r (iv E i, iv E (i + 1))) x = g (mem a x) (mem b x) := fun x hx => by
    rw [addL_pts (fun s hs => (h.ok s hs).1) hlt]
    by_cases hx1 : x < iv E i
    · rw [h.pts x hx1, decide_eq_false (by omega)]; simp
    · rw [mem_const hE ha hi (by omega) hx, mem_const hE hb hi (by omega) hx, hg, decide_eq_true (by omega), decide_eq_true hx]; simp
  revert hpts
  unfold addL
  split
  · intro hpts
    rename_i hc
    have hlen : 0 < r.length := List.length_pos_iff.2 hc.1
    have hmem := idx_mem (l := r) (i := r.length - 1) (by omega)
    have hl := h.ok _ hmem
    have hgap := h.gap
    have hr' : r = r.take (r.length - 1) ++ [(fr r (r.length - 1), tt r (r.length - 1))] := by
      rw [← sp_at r (r.length - 1) (by omega), ← List.take_succ_eq_append_getElem (by omega), show r.length - 1 + 1 = r.length from by omega, List.take_length]
    rw [hr', List.pairwise_append] at hgap
    have hsub : ∀ s ∈ r.take (r.length - 1), s ∈ r := fun s hs => List.mem_of_mem_take hs
    refine ⟨fun s hs => ?_, ?_, hpts, ?_⟩
    · rcases List.mem_append.1 hs with h1 | h1
      · have := h.ok s (hsub s h1)
        exact ⟨this.1, this.2.1, this.2.2.1, by omega⟩
      · rw [List.mem_singleton] at h1
        subst h1
        have h3 := hc.2
        simp only at hl h3 ⊢
        exact ⟨by omega, hl.2.1, m1, Int.le_refl _⟩
    · rw [List.pairwise_append]
      refine ⟨hgap.1, by simp, fun s hs t ht => ?_⟩
      rw [List.mem_singleton] at ht
      subst ht
      have h6 := hgap.2.2 s hs (fr r (r.length - 1), tt r (r.length - 1)) (by simp)
      exact h6
    · have := h.len
      simp; omega
  · intro hpts
    rename_i hc
    refine ⟨fun s hs => ?_, ?_, hpts, ?_⟩
    · rcases List.mem_append.1 hs with h1 | h1
      · have := h.ok s h1
        exact ⟨this.1, this.2.1, this.2.2.1, by omega⟩
      · rw [List.mem_singleton] at h1
        subst h1
        exact ⟨hlt, m0, m1, Int.le_refl _⟩
    · rw [List.pairwise_append]
      refine ⟨h.gap, by simp, fun s hs t ht => ?_⟩
      rw [List.mem_singleton] at ht
      subst ht
      by_cases hne : r = []
      · subst hne; simp at hs
      · have hq : tt r (r.length - 1) ≠ iv E i := fun h3 => hc ⟨hne, h3⟩
        have hlen : 0 < r.length := List.length_pos_iff.2 hne
        have hl := h.ok _ (idx_mem (l := r) (i := r.length - 1) (by omega))
        simp only at hl ⊢
        obtain ⟨k, hk, rfl⟩ := mem_idx hs
        rcases Nat.lt_or_ge k (r.length - 1) with h4 | h4
        · have h5 := List.pairwise_iff_getElem.1 h.gap k (r.length - 1) hk (by omega) h4
          rw [sp_at r k hk, sp_at r (r.length - 1) (by omega)] at h5
          simp only at h5 ⊢
          omega
        · obtain rfl : k = r.length - 1 := by omega
          simp only
          omega
    · have := h.len
      simp; omega
theorem keep_end {g : Bool → Bool → Bool} (h0 : g false false = false) {a b : List Sp} {E : List Int} {i : Nat} {r : List Sp} (hE : Asc E) (ha : ∀ s ∈ a, s.1 ∈ E ∧ s.2 ∈ E) (hb : ∀ s ∈ b, s.1 ∈ E ∧ s.2 ∈ E)
    (hbd : ∀ e ∈ E, -4398046511104 ≤ e ∧ e ≤ 4398046511104) (h : KeepInv g a b E i r) (hi : E.length ≤ i + 1) (hi2 : i = 0 ∨ i < E.length) : Canon r ∧ ∀ x, mem r x = g (mem a x) (mem b x) := by
  refine ⟨⟨fun s hs => ?_, h.gap⟩, fun x => ?_⟩
  · obtain ⟨h1, h2, h3, _⟩ := h.ok s hs
    have := hbd _ h2
    have := hbd _ h3
    unfold OkSp
    omega
  · by_cases hx : x < iv E i
    · exact h.pts x hx
    · have hup : ∀ e ∈ E, e ≤ x := fun e he => by
        obtain ⟨k, hk, rfl⟩ := mem_iv he
        rcases Nat.lt_or_ge k i with h4 | h4
        · have := asc_lt hE h4 (by omega); omega
        · obtain rfl : k = i := by omega
          omega
      rw [mem_outside ha (.inr hup), mem_outside hb (.inr hup), h0]
      exact mem_outside (fun s hs => ⟨(h.ok s hs).2.1, (h.ok s hs).2.2.1⟩) (.inr hup)
end Go.Proofs.Ytahpcepnagpbdaa
