/- slices.Insert at rows (the part without the program): copy at rows of several cells; what the stores leave. -/
import Derived.Test.YtgdcgdjlhljbiaaIyE
import Derived.Shelf.Spec.SlicesInsertGrow
namespace Go.Proofs.Ytgdcgdjlhljbiaa
open Go.RowKit

theorem run_copy_rows {P : Program} (w : World) (dT sT ty elem : TypeId) (b o dLen dCap : Nat) (a : Addr) (sLen sCap size m : Nat) (cs : List Value)
    (hu : P.underlying dT = some (.slice elem)) (hs : (P.info? elem).map (·.size) = some size) (hm : m = Nat.min sLen dLen) (hn : cs.length = m * size)
    (hsrc : ∀ j v, cs[j]? = some v → w.cell? (a.add j) = some v) (hc : ∀ j, j < cs.length → (w.cell? ⟨b, o + j, none⟩).isSome = true) (hf : ∀ j, j < cs.length → w.frozen? ⟨b, o + j, none⟩ = false) (h1 : ∀ v ∈ cs, v.oneCell' = true) :
    (Builtin.copy_ #[dT, sT] ty #[.slice (some ⟨b, o, none⟩) dLen dCap, .slice (some a) sLen sCap]).run P w = .ok (goInt m) (w.setCells b o cs) := by
  have hl := run_loadCells_list (P := P) w a cs hsrc
  have hst := run_storeCells_cells (P := P) b o cs 0 w (by simpa using hc) (by simpa using hf) h1
  cases hq : P.info? elem with
  | none => simp [hq] at hs
  | some i =>
    have hi : i.size = size := by simpa [hq] using hs
    simp [Builtin.copy_, run_underlying hu, Builtin.lenOf, Builtin.firstCells, sizeOf, typeInfo, hq, hi, ← hm, ← hn, hl, hst]
section
variable {w : World} {base g n cap size k : Nat} {e : TypeId} {xs z : List Value}
theorem own_insA (h : w.ownsRow base e size (.slice (some ⟨g, 0, none⟩) n cap) n xs) (hk : k ≤ n) (hz : z.length = size) (hroom : n + 1 ≤ cap) :
    ((w.setCells g ((k + 1) * size) (xs.drop (k * size))).setCells g (k * size) z).ownsRow base e size (.slice (some ⟨g, 0, none⟩) (n + 1) cap) (n + 1) (xs.take (k * size) ++ z ++ xs.drop (k * size)) := by
  obtain ⟨hg, hl, hc, hm, cur, hh, hs, ht⟩ := own_blk h
  have hk1 : k * size ≤ n * size := Nat.mul_le_mul_right _ hk
  have hnc : n * size ≤ cap * size := Nat.mul_le_mul_right _ hc
  have hrs : (n + 1) * size ≤ cap * size := Nat.mul_le_mul_right _ hroom
  have hks : (k + 1) * size = k * size + size := Nat.succ_mul _ _
  have hns : (n + 1) * size = n * size + size := Nat.succ_mul _ _
  have hdl : (xs.drop (k * size)).length = n * size - k * size := by rw [List.length_drop, hl]
  refine own_mk hg (setCells_blk _ _ _ _ (setCells_blk _ _ _ _ hh)) hroom hm (by rw [putAll_size, putAll_size, hs]) ?_
  apply List.ext_getElem?
  intro j
  rw [List.getElem?_take]
  have hcur : ∀ i, i < n * size → cur[i]? = xs[i]? := fun i hi => by
    rw [← ht, List.getElem?_take_of_lt hi, Array.getElem?_toList]
  have htl : (xs.take (k * size)).length = k * size := by rw [List.length_take, hl]; omega
  by_cases hj : j < (n + 1) * size
  · rw [if_pos hj, Array.getElem?_toList, putAll_get _ _ _ _ (by rw [putAll_size, hs, hz]; omega)]
    by_cases h1 : j < k * size
    · rw [if_neg (by omega), putAll_get _ _ _ _ (by rw [hs, hdl]; omega), if_neg (by omega), List.append_assoc, List.getElem?_append_left (by omega), List.getElem?_take_of_lt h1, hcur j (by omega)]
    · by_cases h2 : j < k * size + size
      · rw [if_pos (by omega), List.append_assoc, List.getElem?_append_right (by omega), htl, List.getElem?_append_left (by omega)]
      · rw [if_neg (by omega), putAll_get _ _ _ _ (by rw [hs, hdl]; omega), if_pos (by rw [hdl]; omega), List.getElem?_append_right (by simp [htl, hz]; omega)]
        congr 1
        simp [htl, hz]; omega
  · rw [if_neg hj, List.getElem?_eq_none]
    rw [List.length_append, List.length_append, htl, hdl, hz]
    omega
theorem own_insB {W : World} {H G : Nat} {ROW : Array Value} (hH : base ≤ H) (hb : W.heap[H]? = some (.cells ROW e (0, 0))) (hG : n + 1 ≤ G) (hGm : G ≤ maxLen) (hR : ROW.size = G * size) (hl : xs.length = n * size) (hk : k ≤ n) (hz : z.length = size)
    (hrow : ∀ j, j < k * size → ROW[j]? = xs[j]?) :
    ((W.setCells H (k * size) z).setCells H ((k + 1) * size) (xs.drop (k * size))).ownsRow base e size (.slice (some ⟨H, 0, none⟩) (n + 1) G) (n + 1) (xs.take (k * size) ++ z ++ xs.drop (k * size)) := by
  have hk1 : k * size ≤ n * size := Nat.mul_le_mul_right _ hk
  have hrs : (n + 1) * size ≤ G * size := Nat.mul_le_mul_right _ hG
  have hks : (k + 1) * size = k * size + size := Nat.succ_mul _ _
  have hns : (n + 1) * size = n * size + size := Nat.succ_mul _ _
  have hdl : (xs.drop (k * size)).length = n * size - k * size := by rw [List.length_drop, hl]
  refine own_mk hH (setCells_blk _ _ _ _ (setCells_blk _ _ _ _ hb)) hG hGm (by rw [putAll_size, putAll_size, hR]) ?_
  apply List.ext_getElem?
  intro j
  rw [List.getElem?_take]
  have htl : (xs.take (k * size)).length = k * size := by rw [List.length_take, hl]; omega
  by_cases hj : j < (n + 1) * size
  · rw [if_pos hj, Array.getElem?_toList, putAll_get _ _ _ _ (by rw [putAll_size, hR, hdl]; omega)]
    by_cases h1 : j < k * size
    · rw [if_neg (by omega), putAll_get _ _ _ _ (by rw [hR, hz]; omega), if_neg (by omega), List.append_assoc, List.getElem?_append_left (by omega), List.getElem?_take_of_lt h1, hrow j h1]
    · by_cases h2 : j < k * size + size
      · rw [if_neg (by omega), putAll_get _ _ _ _ (by rw [hR, hz]; omega), if_pos (by omega), List.append_assoc, List.getElem?_append_right (by omega), htl, List.getElem?_append_left (by omega)]
      · rw [if_pos (by rw [hdl]; omega), List.getElem?_append_right (by simp [htl, hz]; omega)]
        congr 1
        simp [htl, hz]; omega
  · rw [if_neg hj, List.getElem?_eq_none]
    rw [List.length_append, List.length_append, htl, hdl, hz]
    omega
end
end Go.Proofs.Ytgdcgdjlhljbiaa
