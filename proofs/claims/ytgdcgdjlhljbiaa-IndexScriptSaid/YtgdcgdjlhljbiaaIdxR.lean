/- Law 42: counting how often a node is a kid. Plain law (no program). -/
import Derived.Test.YtgdcgdjlhljbiaaIdxQ
namespace Go.Proofs.Ytgdcgdjlhljbiaa

def abv (N : List Nd) (root : Int) (i k : Nat) (j : Nat) : Nat :=
  one01 ((j : Int) = root) + ((List.range i).flatMap (kidsN N)).count j + ((if 1 ≤ k then one01 ((j : Int) = (nd N i).l) else 0) + (if 2 ≤ k then one01 ((j : Int) = (nd N i).r) else 0))
def abvL (N : List Nd) (root : Int) (i k : Nat) : List Nat := (List.range N.length).map (abv N root i k)
theorem abvL_len (N : List Nd) (root : Int) (i k : Nat) : (abvL N root i k).length = N.length := by simp [abvL]
theorem abvL_get {N : List Nd} {root : Int} {i k j : Nat} (hj : j < N.length) : (abvL N root i k).getD j 0 = abv N root i k j := by simp [abvL, hj]
theorem one01_le (p : Prop) [Decidable p] : one01 p ≤ 1 := by unfold one01; split <;> omega
theorem map_set_one {f f' : Nat → Nat} {n c : Nat} (_hc : c < n) (h : ∀ j, f' j = f j + one01 (j = c)) : (List.range n).map f' = ((List.range n).map f).set c (f c + 1) := by
  apply List.ext_getElem
  · simp
  · intro j h1 h2
    simp only [List.length_map, List.length_range] at h1
    rw [List.getElem_set]
    simp only [List.getElem_map, List.getElem_range]
    rw [h j]
    unfold one01
    by_cases e : c = j
    · subst e; simp
    · rw [if_neg (fun h => e h.symm), if_neg e]; simp
theorem abv_start {N : List Nd} {root : Int} (h0 : 0 ≤ root) (h1 : root < N.length) : abvL N root 0 0 = (List.replicate N.length 0).set root.toNat 1 := by
  have h := map_set_one (f := fun _ => 0) (f' := abv N root 0 0) (n := N.length) (c := root.toNat) (by omega) (fun j => by
    have e1 : abv N root 0 0 j = one01 ((j : Int) = root) := by unfold abv; simp
    have e2 : one01 ((j : Int) = root) = one01 (j = root.toNat) := by
      unfold one01
      by_cases e : (j : Int) = root
      · rw [if_pos e, if_pos (show j = root.toNat by omega)]
      · rw [if_neg e, if_neg (show ¬ j = root.toNat by omega)]
    rw [e1, e2]; omega)
  rw [abvL, h]
  congr 1
  rw [List.map_const']; simp
theorem abv_left {N : List Nd} {root : Int} {i : Nat} (h0 : 0 ≤ (nd N i).l) (h1 : (nd N i).l < N.length) : abvL N root i 1 = (abvL N root i 0).set (nd N i).l.toNat (abv N root i 0 (nd N i).l.toNat + 1) :=
  map_set_one (by omega) (fun j => by
    have : one01 ((j : Int) = (nd N i).l) = one01 (j = (nd N i).l.toNat) := by
      unfold one01
      by_cases e : (j : Int) = (nd N i).l
      · rw [if_pos e, if_pos (by omega)]
      · rw [if_neg e, if_neg (by omega)]
    unfold abv
    rw [this]
    simp)
theorem abv_right {N : List Nd} {root : Int} {i : Nat} (h0 : 0 ≤ (nd N i).r) (h1 : (nd N i).r < N.length) : abvL N root i 2 = (abvL N root i 1).set (nd N i).r.toNat (abv N root i 1 (nd N i).r.toNat + 1) :=
  map_set_one (by omega) (fun j => by
    have : one01 ((j : Int) = (nd N i).r) = one01 (j = (nd N i).r.toNat) := by
      unfold one01
      by_cases e : (j : Int) = (nd N i).r
      · rw [if_pos e, if_pos (by omega)]
      · rw [if_neg e, if_neg (by omega)]
    unfold abv
    rw [this]
    simp; omega)
theorem abv_left_no {N : List Nd} {root : Int} {i : Nat} (h0 : (nd N i).l < 0) : abvL N root i 1 = abvL N root i 0 := by
  unfold abvL
  refine List.map_congr_left fun j _ => ?_
  unfold abv one01
  rw [if_neg (show ¬ (j : Int) = (nd N i).l by omega)]; simp
theorem abv_right_no {N : List Nd} {root : Int} {i : Nat} (h0 : (nd N i).r < 0) : abvL N root i 2 = abvL N root i 1 := by
  unfold abvL
  refine List.map_congr_left fun j _ => ?_
  unfold abv one01
  rw [if_neg (show ¬ (j : Int) = (nd N i).r by omega)]; simp
theorem abv_next (N : List Nd) (root : Int) (i : Nat) : abvL N root i 2 = abvL N root (i + 1) 0 := by
  unfold abvL
  refine List.map_congr_left fun j _ => ?_
  unfold abv
  rw [List.range_succ, List.flatMap_append, List.count_append, List.flatMap_singleton, kidsN, count_kids]
  simp; omega
theorem abv_le (N : List Nd) (root : Int) (i k j : Nat) : abv N root i k j ≤ 2 * i + 3 := by
  have h : ∀ i, ((List.range i).flatMap (kidsN N)).count j ≤ 2 * i := by
    intro i
    induction i with
    | zero => simp
    | succ i ih =>
      rw [List.range_succ, List.flatMap_append, List.count_append, List.flatMap_singleton, kidsN, count_kids]
      have h1 := one01_le ((j : Int) = (nd N i).l)
      have h2 := one01_le ((j : Int) = (nd N i).r)
      omega
  have h1 := one01_le ((j : Int) = (nd N i).l)
  have h2 := one01_le ((j : Int) = (nd N i).r)
  have h3 := one01_le ((j : Int) = root)
  have h4 := h i
  unfold abv
  split <;> split <;> omega
theorem abv_all (N : List Nd) (root : Int) (j : Nat) : abv N root N.length 0 j = one01 ((j : Int) = root) + (allKids N).count j := by
  unfold abv allKids; simp
theorem links_made {N : List Nd} {root : Int} (h0 : 0 ≤ root) (h1 : root < N.length) (hr : InR N) (h : ∀ j, j < N.length → abv N root N.length 0 j = 1) : Links N root :=
  ⟨h0, h1, hr, fun j hj => (abv_all N root j).symm.trans (h j hj)⟩
theorem not_valid_abv {N : List Nd} {root : Int} (hn : N.length ≤ 1000) {j : Nat} (hj : j < N.length) (h : abv N root N.length 0 j ≠ 1) : ¬ validT N root := fun hv =>
  h ((abv_all N root j).trans ((links_of_valid hv hn (by omega)).1.one j hj))
theorem not_valid_kid {N : List Nd} {root : Int} (hn : N.length ≤ 1000) {i : Nat} (hi : i < N.length) (h : ¬ ((-1 ≤ (nd N i).l ∧ (nd N i).l < N.length) ∧ (-1 ≤ (nd N i).r ∧ (nd N i).r < N.length))) : ¬ validT N root := fun hv =>
  h ((links_of_valid hv hn (by omega)).1.inr i hi)
theorem not_valid_root {N : List Nd} {root : Int} (hn : N.length ≤ 1000) (h0 : 0 < N.length) (h : root < 0 ∨ (N.length : Int) ≤ root) : ¬ validT N root := fun hv => by
  have := (links_of_valid hv hn h0).1
  have h1 := this.lo
  have h2 := this.hi
  omega
end Go.Proofs.Ytgdcgdjlhljbiaa
