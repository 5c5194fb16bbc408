/- Law 39: what aggregate.Top answers, and the plain law of AggregateTops. -/
import Derived.Test.YtohjgegnamcnlaaGreatZad
namespace Go.Proofs.YtohjgegnamcnlaaGreat
open Go.RowKit Go.Shelf

def TopOut (F : List Fct) (colI c : Int) (v : Value) (w' : World) : Prop :=
  ∃ B, NormOf B (DTop F colI.toNat) ∧ B.length ≤ F.length * (2 * F.length) ∧ ((1000 < B.length ∧ c = 5 ∧ v = .slice none 0 0) ∨ (B.length ≤ 1000 ∧ c = 0 ∧ IsFs w' v B))
def TopSpec (F : List Fct) (colI c : Int) (v : Value) (w' : World) : Prop := if validF F = true ∧ hasB F colI = true then TopOut F colI c v w' else c = 1 ∧ v = .slice none 0 0
def TopRet (F : List Fct) (colI : Int) (w : World) (e : Ending) (w' : World) : Prop := ∃ v c, e = .returned (.tuple #[v, .int .i64 c]) ∧ Below w.heap.size w w' ∧ TopSpec F colI c v w'
theorem topS_bad {F : List Fct} {colI : Int} {w' : World} (h : validF F = false ∨ hasB F colI = false) : TopSpec F colI 1 (.slice none 0 0) w' := by
  unfold TopSpec
  rw [if_neg (by rintro ⟨h1, h2⟩; rcases h with h | h <;> simp_all)]
  exact ⟨rfl, rfl⟩
theorem topS_out {F : List Fct} {colI c : Int} {v : Value} {w' : World} (h1 : validF F = true) (h2 : hasB F colI = true) (h : TopOut F colI c v w') : TopSpec F colI c v w' := by
  unfold TopSpec
  rw [if_pos ⟨h1, h2⟩]
  exact h
theorem top_small {F : List Fct} {colI c : Int} {v : Value} {w' : World} (h1 : validF F = true) (h2 : hasB F colI = true) (hf : F.length ≤ 16) (h : TopSpec F colI c v w') : c = 0 ∧ ∃ B, NormOf B (DTop F colI.toNat) ∧ B.length ≤ 1000 ∧ IsFs w' v B := by
  unfold TopSpec at h
  rw [if_pos ⟨h1, h2⟩] at h
  obtain ⟨B, hB, hl, h⟩ := h
  have h3 : F.length * (2 * F.length) ≤ 16 * 32 := Nat.mul_le_mul hf (by omega)
  rcases h with ⟨h4, _⟩ | ⟨h4, h5, h6⟩
  · omega
  · exact ⟨h5, B, hB, h4, h6⟩
/-- A row is one of the greatest, as the law sees it. -/
def topB (col : Nat) (R : List VRow) (x : VRow) : Bool := !(R.any fun o => decide (0 < cmpV (va o col) (va x col)))
theorem topB_iff {col : Nat} {R : List VRow} {x : VRow} (hx : x ∈ R) : topB col R x = true ↔ TopIn col R x := by
  rw [top_iff hx]
  unfold topB
  simp only [Bool.not_eq_true', List.any_eq_false, decide_eq_true_eq]
theorem top_count {F G : List Fct} {col : Nat} (h : NormOf G (DTop F col)) (t : Int) : ((rowsAt F t).filter (topB col (rowsAt F t))).length = (rowsAt G t).length := by
  refine List.Perm.length_eq ((List.perm_ext_iff_of_nodup ((rowsN_nodup _ _ _).filter _) (rowsN_nodup _ _ _)).2 fun r => ?_)
  rw [List.mem_filter]
  refine Iff.trans ?_ (top_rows h t r).symm
  constructor
  · rintro ⟨h1, h2⟩
    exact (topB_iff h1).1 h2
  · intro h1
    exact ⟨h1.1, (topB_iff h1.1).2 h1⟩
theorem top_best {F G : List Fct} {col : Nat} (h : NormOf G (DTop F col)) {t : Int} {r : VRow} (hr : r ∈ rowsAt F t) (hb : topB col (rowsAt F t) r = true) : hasR (rowsAt G t) r = true := by
  have := (top_rows h t r).2 ((topB_iff hr).1 hb)
  cases q : hasR (rowsAt G t) r
  · exact absurd this (hasR_not.1 q)
  · rfl
/-- The number of the greatest among the first rows. -/
def topN (col : Nat) (R : List VRow) (i : Nat) : Nat := ((R.take i).filter (topB col R)).length
theorem topN_zero (col : Nat) (R : List VRow) : topN col R 0 = 0 := by simp [topN]
theorem topN_succ {col : Nat} {R : List VRow} {i : Nat} (hi : i < R.length) : topN col R (i + 1) = topN col R i + if topB col R (vr R i) = true then 1 else 0 := by
  unfold topN
  rw [List.take_succ_eq_append_getElem hi, vr_at hi, List.filter_append, List.length_append]
  by_cases h : topB col R (vr R i) = true
  · simp [h]
  · simp [h]
theorem topN_le (col : Nat) (R : List VRow) (i : Nat) : topN col R i ≤ i := by
  unfold topN
  refine Nat.le_trans (List.length_filter_le _ _) ?_
  rw [List.length_take]
  exact Nat.min_le_left _ _
theorem topN_all (col : Nat) (R : List VRow) : topN col R R.length = (R.filter (topB col R)).length := by unfold topN; rw [List.take_length]
end Go.Proofs.YtohjgegnamcnlaaGreat
