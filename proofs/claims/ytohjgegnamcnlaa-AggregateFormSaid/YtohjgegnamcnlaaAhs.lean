/- Law 39: the rows with the greatest value over time. Plain law. -/
import Derived.Test.YtohjgegnamcnlaaAhc
namespace Go.Proofs.Ytohjgegnamcnlaa
open Go.RowKit Go.Shelf

/-- x is one of the rows with the greatest value in a column. -/
def TopIn (col : Nat) (R : List VRow) (x : VRow) : Prop := x ∈ R ∧ va x col = (resR 4 col R).1
theorem TopIn.perm {col : Nat} {R R' : List VRow} {x : VRow} (h : R.Perm R') (ht : TopIn col R x) : TopIn col R' x :=
  ⟨h.mem_iff.1 ht.1, by rw [← resR_perm (.inr (.inr (.inr rfl))) h]; exact ht.2⟩
def DTop (F : List Fct) (col : Nat) (r : VRow) (t : Int) : Prop := TopIn col (rowsAt F t) r
def TopA (col : Nat) (Vs : List Vis) (A : List Fct) : Prop := ∀ a, a ∈ A ↔ ∃ v ∈ Vs, v.1 = a.2 ∧ TopIn col v.2 a.1
theorem top_norm {F A G : List Fct} {Vs : List Vis} {col : Nat} (hV : VisOk F Vs fun _ => True) (hA : TopA col Vs A) (hG : NormOf G fun r t => ∃ a ∈ A, a.1 = r ∧ a.2.1 ≤ t ∧ t < a.2.2) : NormOf G (DTop F col) := by
  refine ⟨hG.srt, hG.can, fun r t => ?_⟩
  rw [hG.pts]
  constructor
  · rintro ⟨a, ha, rfl, h1, h2⟩
    obtain ⟨v, hv, e, ho⟩ := (hA a).1 ha
    exact ho.perm (vis_perm hV hv (by rw [e]; exact h1) (by rw [e]; exact h2))
  · intro ho
    obtain ⟨v, hv, h1, h2⟩ := hV.cover t r trivial (rowsAt_mem.1 ho.1)
    exact ⟨(r, v.1), (hA _).2 ⟨v, hv, rfl, TopIn.perm (vis_perm hV hv h1 h2).symm ho⟩, rfl, h1, h2⟩
/-- The rows of Top at a time: those whose value no row's value is beyond. -/
theorem top_rows {F G : List Fct} {col : Nat} (h : NormOf G (DTop F col)) (t : Int) (r : VRow) : r ∈ rowsAt G t ↔ TopIn col (rowsAt F t) r :=
  rowsAt_mem.trans (h.pts r t)
theorem top_iff {R : List VRow} {col : Nat} {x : VRow} (hx : x ∈ R) : TopIn col R x ↔ ∀ r ∈ R, ¬ 0 < cmpV (va r col) (va x col) := by
  have hne : colV R col ≠ [] := fun e => by
    have : va x col ∈ colV R col := List.mem_map.2 ⟨x, hx, rfl⟩
    rw [e] at this
    cases this
  obtain ⟨h1, h2⟩ := best_spec (.inr rfl) hne
  have e : (resR 4 col R).1 = bestV 4 (colV R col) := rfl
  constructor
  · rintro ⟨_, h3⟩ r hr h4
    have h5 := h2 (va r col) (List.mem_map.2 ⟨r, hr, rfl⟩)
    rw [← e, ← h3] at h5
    unfold lev at h5
    have := ordV.anti (va r col) (va x col)
    simp at h5
    omega
  · intro h3
    refine ⟨hx, ?_⟩
    rw [e]
    refine (best_uniq (l := colV R col) (b := va x col) (.inr rfl) (List.mem_map.2 ⟨x, hx, rfl⟩) fun y hy => ?_).symm
    obtain ⟨r, hr, rfl⟩ := List.mem_map.1 hy
    have h5 := h3 r hr
    unfold lev
    have := ordV.anti (va r col) (va x col)
    simp
    omega
end Go.Proofs.Ytohjgegnamcnlaa
