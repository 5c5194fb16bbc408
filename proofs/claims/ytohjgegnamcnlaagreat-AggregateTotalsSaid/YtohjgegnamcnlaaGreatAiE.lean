/- Law 39: the greatest number of rows, and when there are so many. Plain law. -/
import Derived.Test.YtohjgegnamcnlaaGreatAhc
namespace Go.Proofs.YtohjgegnamcnlaaGreat
open Go.RowKit Go.Shelf

/-- The greatest number of rows of some visits. -/
def mostV (Vs : List Vis) : Nat := Vs.foldl (fun n v => max n v.2.length) 0
/-- The spans of the visits with so many rows. -/
def mostL (Vs : List Vis) : List Sp := (Vs.filter fun v => decide (v.2.length = mostV Vs)).map (·.1)
theorem mostV_app (Vs : List Vis) (v : Vis) : mostV (Vs ++ [v]) = max (mostV Vs) v.2.length := by unfold mostV; rw [List.foldl_append]; rfl
theorem mostV_le : ∀ (Vs : List Vis), ∀ v ∈ Vs, v.2.length ≤ mostV Vs := fun Vs => by
  have key : ∀ (l : List Vis) (n : Nat), n ≤ l.foldl (fun n v => max n v.2.length) n ∧ ∀ v ∈ l, v.2.length ≤ l.foldl (fun n v => max n v.2.length) n := fun l => by
    induction l with
    | nil => exact fun n => ⟨Nat.le_refl _, fun v hv => absurd hv (by simp)⟩
    | cons a l ih =>
      intro n
      obtain ⟨h1, h2⟩ := ih (max n a.2.length)
      rw [List.foldl_cons]
      refine ⟨by omega, fun v hv => ?_⟩
      rcases List.mem_cons.1 hv with rfl | h
      · omega
      · exact h2 v h
  exact (key Vs 0).2
theorem mostV_at : ∀ (Vs : List Vis), mostV Vs = 0 ∨ ∃ v ∈ Vs, v.2.length = mostV Vs := fun Vs => by
  have key : ∀ (l : List Vis) (n : Nat), l.foldl (fun n v => max n v.2.length) n = n ∨ ∃ v ∈ l, v.2.length = l.foldl (fun n v => max n v.2.length) n := fun l => by
    induction l with
    | nil => exact fun n => .inl rfl
    | cons a l ih =>
      intro n
      rw [List.foldl_cons]
      rcases ih (max n a.2.length) with h | ⟨v, hv, h⟩
      · rw [h]
        by_cases q : a.2.length ≤ n
        · left; omega
        · right; exact ⟨a, List.mem_cons_self .., by omega⟩
      · right; exact ⟨v, List.mem_cons_of_mem _ hv, h⟩
  exact key Vs 0
theorem mostL_more {Vs : List Vis} {v : Vis} (h : mostV Vs < v.2.length) : mostL (Vs ++ [v]) = [v.1] := by
  unfold mostL
  rw [mostV_app, List.filter_append]
  have e : max (mostV Vs) v.2.length = v.2.length := by omega
  rw [e, List.filter_eq_nil_iff.2 fun x hx => by
    have := mostV_le Vs x hx
    simp
    omega]
  simp
theorem mostL_same {Vs : List Vis} {v : Vis} (h : mostV Vs = v.2.length) : mostL (Vs ++ [v]) = mostL Vs ++ [v.1] := by
  unfold mostL
  rw [mostV_app, List.filter_append]
  have e : max (mostV Vs) v.2.length = v.2.length := by omega
  rw [e, h]
  simp
theorem mostL_less {Vs : List Vis} {v : Vis} (h : v.2.length < mostV Vs) : mostL (Vs ++ [v]) = mostL Vs := by
  unfold mostL
  rw [mostV_app, List.filter_append]
  have e : max (mostV Vs) v.2.length = mostV Vs := by omega
  rw [e]
  have : v.2.length ≠ mostV Vs := by omega
  simp [this]
theorem mostL_len (Vs : List Vis) : (mostL Vs).length ≤ Vs.length := by
  unfold mostL
  rw [List.length_map]
  exact List.length_filter_le _ _
/-- What Most answers for valid facts. -/
structure MostSpec (F : List Fct) (n : Nat) (L : List Sp) : Prop where
  can : Canon L
  le : ∀ t, (rowsAt F t).length ≤ n
  at_ : 0 < n → ∃ t, (rowsAt F t).length = n
  mem : ∀ t, mem L t = true ↔ 0 < n ∧ (rowsAt F t).length = n
theorem MostSpec.unique {F : List Fct} {n k : Nat} {L M : List Sp} (h : MostSpec F n L) (g : MostSpec F k M) : n = k ∧ L = M := by
  have e : n = k := by
    rcases Nat.lt_trichotomy n k with q | q | q
    · obtain ⟨t, ht⟩ := g.at_ (by omega)
      have := h.le t
      omega
    · exact q
    · obtain ⟨t, ht⟩ := h.at_ (by omega)
      have := g.le t
      omega
  subst e
  refine ⟨rfl, canon_ext h.can g.can fun x => ?_⟩
  rw [Bool.eq_iff_iff, h.mem, g.mem]
theorem most_spec {F : List Fct} {Vs : List Vis} {L : List Sp} (hV : VisOk F Vs fun _ => True) (hc : Canon L) (hm : ∀ x, mem L x = mem (mostL Vs) x) : MostSpec F (mostV Vs) L := by
  have hlen : ∀ v ∈ Vs, ∀ t, v.1.1 ≤ t → t < v.1.2 → (rowsAt F t).length = v.2.length := fun v hv t h1 h2 => (vis_perm hV hv h1 h2).length_eq.symm
  have hcov : ∀ t, 0 < (rowsAt F t).length → ∃ v ∈ Vs, v.1.1 ≤ t ∧ t < v.1.2 := fun t ht => by
    obtain ⟨r, hr⟩ := List.exists_mem_of_length_pos ht
    exact hV.cover t r trivial (rowsAt_mem.1 hr)
  refine ⟨hc, fun t => ?_, fun hn => ?_, fun t => ?_⟩
  · rcases Nat.eq_zero_or_pos (rowsAt F t).length with e | e
    · omega
    · obtain ⟨v, hv, h1, h2⟩ := hcov t e
      rw [hlen v hv t h1 h2]
      exact mostV_le Vs v hv
  · rcases mostV_at Vs with e | ⟨v, hv, e⟩
    · omega
    · exact ⟨v.1.1, by rw [hlen v hv _ (Int.le_refl _) (hV.span v hv).1]; exact e⟩
  · rw [hm, mem_iff]
    unfold mostL
    constructor
    · rintro ⟨s, hs, h1, h2⟩
      obtain ⟨v, hv, rfl⟩ := List.mem_map.1 hs
      obtain ⟨hv1, hv2⟩ := List.mem_filter.1 hv
      have e := of_decide_eq_true hv2
      refine ⟨?_, (hlen v hv1 t h1 h2).trans e⟩
      have := (hV.rows v hv1).2.1
      rw [← e]
      exact List.length_pos_iff.2 this
    · rintro ⟨hn, e⟩
      obtain ⟨v, hv, h1, h2⟩ := hcov t (by omega)
      refine ⟨v.1, List.mem_map.2 ⟨v, List.mem_filter.2 ⟨hv, decide_eq_true ?_⟩, rfl⟩, h1, h2⟩
      rw [← hlen v hv t h1 h2]
      exact e
def MostRet (F : List Fct) (w : World) (e : Ending) (w' : World) : Prop := ∃ (v : Value) (n : Nat) (L : List Sp), e = .returned (.tuple #[.int .i64 (n : Int), v]) ∧ IsSpans w' v L ∧ Below w.heap.size w w' ∧ if validF F = true then MostSpec F n L else n = 0 ∧ L = []
end Go.Proofs.YtohjgegnamcnlaaGreat
