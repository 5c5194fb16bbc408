/- Own rows whose cells are stored many at once; slices.Delete at rows (the part without the program). -/
import Derived.Test.YtcppcfinnbeboaaGreatPre
import Derived.Laws.IdiomCopy
import Derived.Deep.RegionLaw
namespace Go.Proofs.YtcppcfinnbeboaaGreat
open Go.RowKit

def putAll (cs : Array Value) (o : Nat) : List Value → Array Value
  | [] => cs
  | v :: r => putAll (cs.setIfInBounds o v) (o + 1) r
theorem putAll_size : ∀ (vs : List Value) (cs : Array Value) (o : Nat), (putAll cs o vs).size = cs.size
  | [], _, _ => rfl
  | v :: r, cs, o => by show (putAll (cs.setIfInBounds o v) (o + 1) r).size = _; rw [putAll_size r]; simp
theorem putAll_get : ∀ (vs : List Value) (cs : Array Value) (o j : Nat), o + vs.length ≤ cs.size → (putAll cs o vs)[j]? = if o ≤ j ∧ j < o + vs.length then vs[j - o]? else cs[j]?
  | [], cs, o, j, _ => by
    rw [if_neg (by simp only [List.length_nil]; omega)]
    rfl
  | v :: r, cs, o, j, h => by
    simp only [List.length_cons] at h
    show (putAll (cs.setIfInBounds o v) (o + 1) r)[j]? = _
    rw [putAll_get r _ _ _ (by simp; omega)]
    by_cases h1 : o = j
    · subst h1
      rw [if_neg (by omega), if_pos (by simp only [List.length_cons]; omega)]
      simp [Array.getElem?_setIfInBounds]
      omega
    · by_cases h2 : o + 1 ≤ j ∧ j < o + 1 + r.length
      · rw [if_pos h2, if_pos (by simp only [List.length_cons]; omega), show j - o = (j - (o + 1)) + 1 from by omega, List.getElem?_cons_succ]
      · rw [if_neg h2, if_neg (by simp only [List.length_cons]; omega)]
        rw [Array.getElem?_setIfInBounds, if_neg h1]
theorem setCells_blk {g : Nat} {e : TypeId} : ∀ (vs : List Value) (w : World) (cs : Array Value) (o : Nat), w.heap[g]? = some (.cells cs e (0, 0)) → (w.setCells g o vs).heap[g]? = some (.cells (putAll cs o vs) e (0, 0))
  | [], _, _, _, h => h
  | v :: r, w, cs, o, h => by
    show ((w.setCell ⟨g, o, none⟩ v).setCells g (o + 1) r).heap[g]? = _
    refine setCells_blk r _ _ _ ?_
    simp [World.setCell, Array.getElem?_modify, h]
section
variable {w : World} {base g n cap size k : Nat} {e : TypeId} {xs : List Value}
/-- The block of an own row that has an address. -/
theorem own_blk (h : w.ownsRow base e size (.slice (some ⟨g, 0, none⟩) n cap) n xs) : base ≤ g ∧ xs.length = n * size ∧ n ≤ cap ∧ cap ≤ maxLen ∧ ∃ cur, w.heap[g]? = some (.cells cur e (0, 0)) ∧ cur.size = cap * size ∧ cur.toList.take (n * size) = xs := by
  obtain ⟨h1, h2 | ⟨g', cap', cur, hv, hg, hh, a, b, c, d⟩⟩ := h
  · cases h2.1
  · injection hv with e1 e2 e3
    injection e1 with e1
    injection e1 with e1
    subst e1 e3
    exact ⟨hg, h1, a, b, cur, hh, c, d⟩
theorem own_mk {cur : Array Value} (hg : base ≤ g) (hh : w.heap[g]? = some (.cells cur e (0, 0))) (h1 : n ≤ cap) (h2 : cap ≤ maxLen) (h3 : cur.size = cap * size) (h4 : cur.toList.take (n * size) = xs) : w.ownsRow base e size (.slice (some ⟨g, 0, none⟩) n cap) n xs := by
  refine ⟨?_, .inr ⟨g, cap, cur, rfl, hg, hh, h1, h2, h3, h4⟩⟩
  rw [← h4, List.length_take, Array.length_toList, h3, Nat.min_eq_left (Nat.mul_le_mul_right _ h1)]
/-- Behind the stores of slices.Delete(s, k, k + 1). -/
theorem own_del (h : w.ownsRow base e size (.slice (some ⟨g, 0, none⟩) n cap) n xs) (hk : k < n) {z : List Value} (hz : z.length = size) :
    ((w.setCells g (k * size) (xs.drop ((k + 1) * size))).setCells g ((n - 1) * size) z).ownsRow base e size (.slice (some ⟨g, 0, none⟩) (n - 1) cap) (n - 1) (xs.take (k * size) ++ xs.drop ((k + 1) * size)) := by
  obtain ⟨hg, hl, hc, hm, cur, hh, hs, ht⟩ := own_blk h
  have hk1 : (k + 1) * size ≤ n * size := Nat.mul_le_mul_right _ hk
  have hnc : n * size ≤ cap * size := Nat.mul_le_mul_right _ hc
  have hks : (k + 1) * size = k * size + size := Nat.succ_mul _ _
  have hns : (n - 1) * size + size = n * size := by rw [← Nat.succ_mul]; congr 1; omega
  have hdl : (xs.drop ((k + 1) * size)).length = n * size - (k + 1) * size := by rw [List.length_drop, hl]
  refine own_mk hg (setCells_blk _ _ _ _ (setCells_blk _ _ _ _ hh)) (by omega) hm (by rw [putAll_size, putAll_size, hs]) ?_
  apply List.ext_getElem?
  intro j
  rw [List.getElem?_take]
  have hcur : ∀ i, i < n * size → cur[i]? = xs[i]? := fun i hi => by
    rw [← ht, List.getElem?_take_of_lt hi, Array.getElem?_toList]
  by_cases hj : j < (n - 1) * size
  · rw [if_pos hj, Array.getElem?_toList, putAll_get _ _ _ _ (by rw [putAll_size, hs]; omega), if_neg (by omega), putAll_get _ _ _ _ (by rw [hs, hdl]; omega)]
    by_cases h1 : j < k * size
    · rw [if_neg (by omega), List.getElem?_append_left (by rw [List.length_take, hl]; omega), List.getElem?_take_of_lt h1, hcur j (by omega)]
    · rw [if_pos (by rw [hdl]; omega), List.getElem?_append_right (by rw [List.length_take]; omega), List.length_take, Nat.min_eq_left (by omega)]
  · rw [if_neg hj, List.getElem?_eq_none]
    rw [List.length_append, List.length_take, hdl, hl]
    omega
end
theorem flatMap_take {α : Type} {k : Nat} (f : α → List Value) (hf : ∀ a, (f a).length = k) : ∀ (l : List α) (i : Nat), (l.take i).flatMap f = (l.flatMap f).take (i * k)
  | [], i => by simp
  | a :: l, 0 => by simp
  | a :: l, i + 1 => by
    have e : (i + 1) * k = (f a).length + i * k := by rw [hf, Nat.succ_mul]; omega
    rw [List.take_succ_cons, List.flatMap_cons, List.flatMap_cons, flatMap_take f hf l i, e, List.take_length_add_append]
theorem flatMap_drop {α : Type} {k : Nat} (f : α → List Value) (hf : ∀ a, (f a).length = k) : ∀ (l : List α) (i : Nat), (l.drop i).flatMap f = (l.flatMap f).drop (i * k)
  | [], i => by simp
  | a :: l, 0 => by simp
  | a :: l, i + 1 => by
    have e : (i + 1) * k = (f a).length + i * k := by rw [hf, Nat.succ_mul]; omega
    rw [List.drop_succ_cons, List.flatMap_cons, flatMap_drop f hf l i, e, List.drop_length_add_append]
end Go.Proofs.YtcppcfinnbeboaaGreat
