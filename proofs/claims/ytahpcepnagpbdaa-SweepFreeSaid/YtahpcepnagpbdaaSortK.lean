/- slices.SortFunc over a slice of the call's own, elements of k cells: between 'ownsRow' and the sort's own words. No program in sight. -/
import Derived.Test.YtahpcepnagpbdaaBase
import Derived.Shelf.SlSortCmp.WholeK
namespace Go.Proofs.Ytahpcepnagpbdaa
open Go.RowKit Go.Sort

theorem flatMap_len {α : Type} {enc : α → List Value} {k : Nat} (hk : ∀ x, (enc x).length = k) (l : List α) : (l.flatMap enc).length = l.length * k := by
  induction l with
  | nil => simp
  | cons x l ih => rw [List.flatMap_cons, List.length_append, ih, hk, List.length_cons, Nat.add_mul]; omega
theorem flatMap_get {α : Type} {enc : α → List Value} {k : Nat} (hk : ∀ x, (enc x).length = k) (l : List α) : ∀ i j, (hi : i < l.length) → j < k → (l.flatMap enc)[i * k + j]? = (enc l[i])[j]? := by
  induction l with
  | nil => intro i j hi; simp at hi
  | cons x l ih =>
    intro i j hi hj
    rw [List.flatMap_cons]
    cases i with
    | zero => rw [Nat.zero_mul, Nat.zero_add, List.getElem?_append_left (by rw [hk]; exact hj)]; rfl
    | succ i =>
      rw [List.getElem?_append_right (by rw [hk, Nat.add_mul]; omega), hk, show (i + 1) * k + j - k = i * k + j from by rw [Nat.add_mul]; omega]
      exact ih i j (by simpa using hi) hj
theorem flatK_list {α : Type} [Inhabited α] {enc : α → List Value} {k : Nat} (hk : ∀ x, (enc x).length = k) (d : Array α) : (flatK enc k d).toList = d.toList.flatMap enc := by
  apply List.ext_getElem?
  intro t
  by_cases ht : t < d.size * k
  · have k0 : 0 < k := by
      rcases Nat.eq_zero_or_pos k with h | h
      · subst h; simp at ht
      · exact h
    have h1 : t / k < d.size := Nat.div_lt_of_lt_mul (by rw [Nat.mul_comm]; exact ht)
    have h2 := flatMap_get hk d.toList (t / k) (t % k) (by simpa using h1) (Nat.mod_lt _ k0)
    rw [Nat.mul_comm, Nat.div_add_mod] at h2
    rw [h2, Array.getElem?_toList]
    have h3 : (flatK enc k d)[t]? = some (flatK enc k d)[t]! := by
      rw [getElem!_pos (flatK enc k d) t (by rw [size_flatK]; exact ht), Array.getElem?_eq_getElem (by rw [size_flatK]; exact ht)]
    have h4 : t % k < (enc d[t / k]).length := by rw [hk]; exact Nat.mod_lt _ k0
    rw [h3, get_flatK _ _ _ _ ht, getElem!_pos d (t / k) h1, Array.getElem_toList, List.getElem?_eq_getElem h4, getElem!_pos (enc d[t / k]) (t % k) h4]
  · rw [List.getElem?_eq_none (by simp; omega), List.getElem?_eq_none (by rw [flatMap_len hk]; simp; omega)]

section
variable {α : Type} [Inhabited α] {enc : α → List Value} {k : Nat} {w : World} {base g cap n : Nat} {e : TypeId}
theorem holdsK_own (hk : ∀ x, (enc x).length = k) {l : List α} (h : w.ownsRow base e k (.slice (some ⟨g, 0, none⟩) n cap) n (l.flatMap enc)) : HoldsK enc k w g 0 l.toArray ∧ g < w.heap.size ∧ base ≤ g := by
  rcases h.2 with ⟨h0, _⟩ | ⟨g', cap', cur, hv, hb, hh, h1, h2, h3, h4⟩
  · cases h0
  · injection hv with e1 e2 e3
    injection e1 with e1
    injection e1 with e1
    subst e1
    refine ⟨fun j hj => ?_, (Array.getElem?_eq_some_iff.1 hh).1, hb⟩
    rw [size_flatK] at hj
    have hl := h.1
    rw [flatMap_len hk] at hl
    have hj2 : j < n * k := by rw [← hl]; simpa using hj
    refine ⟨?_, by simp [World.frozen?, hh]⟩
    have h5 : (flatK enc k l.toArray)[j]? = some (flatK enc k l.toArray)[j]! := by
      rw [getElem!_pos _ j (by simpa using hj), Array.getElem?_eq_getElem (by simpa using hj)]
    have h6 : cur[j]? = some (flatK enc k l.toArray)[j]! := by
      rw [← h5, ← Array.getElem?_toList, ← Array.getElem?_toList, flatK_list hk, ← h4, List.getElem?_take_of_lt hj2]
    simp only [World.cell?, hh, Nat.zero_add]
    simp only [Option.isSome_none, Bool.false_eq_true, if_false]
    exact h6
theorem own_sorted (hk : ∀ x, (enc x).length = k) {l : List α} (h : w.ownsRow base e k (.slice (some ⟨g, 0, none⟩) n cap) n (l.flatMap enc)) (m : Nat) (os : Array Obj) (d : Array α) (hd : d.size = l.length) :
    (sortWorldK enc k w g 0 m d os).ownsRow base e k (.slice (some ⟨g, 0, none⟩) n cap) n (d.toList.flatMap enc) ∧ Go.RowKit.Below base w (sortWorldK enc k w g 0 m d os) := by
  rcases h.2 with ⟨h0, _⟩ | ⟨g', cap', cur, hv, hb, hh, h1, h2, h3, h4⟩
  · cases h0
  · injection hv with e1 e2 e3
    injection e1 with e1
    injection e1 with e1
    subst e1
    subst e3
    have hl := h.1
    rw [flatMap_len hk] at hl
    have hg : g < w.heap.size := (Array.getElem?_eq_some_iff.1 hh).1
    have hnew : (sortWorldK enc k w g 0 m d os).heap[g]? = some (.cells (putCells id 0 (flatK enc k d) cur) e (0, 0)) := by
      unfold sortWorldK
      rw [heap_grow_old _ _ (by simpa [putRowK, putRow, mapBlock, Sort.ahead] using hg)]
      simp [putRowK, putRow, mapBlock, Sort.ahead, Array.getElem?_modify, hh, onCells]
    refine ⟨⟨by rw [flatMap_len hk]; simp [hd, hl], .inr ⟨g, cap, _, rfl, hb, hnew, h1, h2, by simp [putCells, h3], ?_⟩⟩, ?_⟩
    · have hnk : n * k ≤ cur.size := by rw [h3]; exact Nat.mul_le_mul_right k h1
      rw [← flatK_list hk]
      have hsz : (flatK enc k d).size = n * k := by rw [size_flatK, hd, hl]
      apply List.ext_getElem?
      intro j
      by_cases hj : j < n * k
      · rw [List.getElem?_take_of_lt hj, Array.getElem?_toList, Array.getElem?_toList]
        simp [putCells, hsz, hj, show j < cur.size by omega]
      · rw [List.getElem?_take_eq_none (by omega), List.getElem?_eq_none (by simp only [Array.length_toList]; omega)]
    · refine ⟨rfl, rfl, rfl, ?_, fun i hi => ?_⟩
      · simp [sortWorldK, putRowK, putRow, mapBlock, Sort.ahead]
      · have hi2 : i ≠ g := by omega
        unfold sortWorldK
        rcases Nat.lt_or_ge i w.heap.size with h5 | h5
        · rw [heap_grow_old _ _ (by simpa [putRowK, putRow, mapBlock, Sort.ahead] using h5)]
          simp [putRowK, putRow, mapBlock, Sort.ahead, Array.getElem?_modify, Ne.symm hi2]
        · omega
end
end Go.Proofs.Ytahpcepnagpbdaa
