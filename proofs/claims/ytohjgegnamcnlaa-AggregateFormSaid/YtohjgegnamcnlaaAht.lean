/- Law 39: the visitor of aggregate.Top. -/
import Derived.Test.YtohjgegnamcnlaaAhs
namespace Go.Proofs.Ytohjgegnamcnlaa
open Go.RowKit Go.Shelf

def TopJ (F : List Fct) (colI : Int) (base zs z1 : Nat) (w0 : World) (bc bt p bv bs : Nat) (Vs : List Vis) (W : World) : Prop :=
  Below base w0 W ∧ (BoxAt W bc (.int .i64 colI) ∧ BoxAt W bt (.pointer (some ⟨p, 0, none⟩))) ∧ ∃ n E U T A, TabAt base zs z1 W p bv bs n E U T ∧ TabOk E A ∧ TopA colI.toNat Vs A ∧ n ≤ F.length * Vs.length ∧ (flatE E).length ≤ n
theorem topJ_keep {F : List Fct} {colI : Int} {base zs z1 : Nat} {w0 : World} {bc bt p bv bs : Nat} (h0 : base ≤ w0.heap.size) (hbz : base ≤ zs) (hx : bc < zs ∧ bt < zs) (Vs : List Vis) (W W' : World)
    (h : TopJ F colI base zs z1 w0 bc bt p bv bs Vs W) (hk : Oz zs z1 W W') : TopJ F colI base zs z1 w0 bc bt p bv bs Vs W' := by
  obtain ⟨h1, ⟨h2, h2'⟩, n, E, U, T, A, h3, h4⟩ := h
  exact ⟨hk.below h1 h0 hbz, ⟨h2.block (hk.oth bc h2.lt (by omega)), h2'.block (hk.oth bt h2'.lt (by omega))⟩, n, E, U, T, A, h3.keep hk hbz, h4⟩
/-- What stands while the rows are added: Y is the world ahead of the loop, g the rows' block. -/
structure FrT (base z1 : Nat) (X Y Z : World) (bv bs g : Nat) (E : List Ent) (T : Nat → Value) : Prop where
  bel : Below base X Z
  hi : ∀ b, X.heap.size ≤ b → b < Y.heap.size → Z.heap[b]? = Y.heap[b]?
  lo : ∀ b, b < z1 → b ≠ bv → b ≠ bs → Z.heap[b]? = X.heap[b]?
  rows : Z.heap[g]? = X.heap[g]?
  own : ∀ j, j < E.length → ∀ b, (T j).ownBlock = some b → (b < X.heap.size ∧ b ≠ g) ∨ Y.heap.size ≤ b
  sz : Y.heap.size ≤ Z.heap.size
/-- The rows added after the first m of a visit. -/
def TopM (F : List Fct) (col : Nat) (js : List Nat) (s : Sp) (A0 : List Fct) (m : Nat) (A : List Fct) : Prop :=
  ∀ a, a ∈ A ↔ a ∈ A0 ∨ ∃ i, i < m ∧ a = ((fc F (js.getD i 0)).1, s) ∧ va (fc F (js.getD i 0)).1 col = (resR 4 col (rowsJ F js)).1
theorem TopM.zero {F : List Fct} {col : Nat} {js : List Nat} {s : Sp} {A0 : List Fct} : TopM F col js s A0 0 A0 := fun a =>
  ⟨.inl, fun h => h.elim id fun ⟨i, hi, _⟩ => absurd hi (by omega)⟩
theorem TopM.skip {F : List Fct} {col : Nat} {js : List Nat} {s : Sp} {A0 A : List Fct} {m : Nat} (h : TopM F col js s A0 m A) (hne : va (fc F (js.getD m 0)).1 col ≠ (resR 4 col (rowsJ F js)).1) : TopM F col js s A0 (m + 1) A := fun a => by
  rw [h a]
  constructor
  · rintro (e | ⟨i, hi, e⟩)
    · exact .inl e
    · exact .inr ⟨i, by omega, e⟩
  · rintro (e | ⟨i, hi, e, e2⟩)
    · exact .inl e
    · rcases Nat.lt_or_ge i m with q | q
      · exact .inr ⟨i, q, e, e2⟩
      · obtain rfl : i = m := by omega
        exact absurd e2 hne
theorem TopM.add {F : List Fct} {col : Nat} {js : List Nat} {s : Sp} {A0 A : List Fct} {m : Nat} (h : TopM F col js s A0 m A) (he : va (fc F (js.getD m 0)).1 col = (resR 4 col (rowsJ F js)).1) : TopM F col js s A0 (m + 1) (A ++ [((fc F (js.getD m 0)).1, s)]) := fun a => by
  rw [List.mem_append, List.mem_singleton, h a]
  constructor
  · rintro ((e | ⟨i, hi, e⟩) | e)
    · exact .inl e
    · exact .inr ⟨i, by omega, e⟩
    · exact .inr ⟨m, by omega, e, he⟩
  · rintro (e | ⟨i, hi, e, e2⟩)
    · exact .inl (.inl e)
    · rcases Nat.lt_or_ge i m with q | q
      · exact .inl (.inr ⟨i, q, e, e2⟩)
      · obtain rfl : i = m := by omega
        exact .inr e
theorem TopM.done {F : List Fct} {col : Nat} {js : List Nat} {s : Sp} {A0 A : List Fct} {Vs : List Vis} (h : TopM F col js s A0 js.length A) (hA : TopA col Vs A0) : TopA col (Vs ++ [(s, rowsJ F js)]) A := fun a => by
  rw [h a, hA a]
  constructor
  · rintro (⟨v, hv, e⟩ | ⟨i, hi, rfl, e⟩)
    · exact ⟨v, List.mem_append_left _ hv, e⟩
    · exact ⟨(s, rowsJ F js), by simp, rfl, List.mem_map.2 ⟨_, getD_mem hi, rfl⟩, e⟩
  · rintro ⟨v, hv, e1, e2⟩
    rcases List.mem_append.1 hv with q | q
    · exact .inl ⟨v, q, e1, e2⟩
    · rw [List.mem_singleton] at q
      subst q
      obtain ⟨e3, e4⟩ := e2
      obtain ⟨j, hj, e5⟩ := List.mem_map.1 e3
      obtain ⟨i, hi, rfl⟩ := List.getElem_of_mem hj
      have e6 : js.getD i 0 = js[i] := by simp [hi]
      refine .inr ⟨i, hi, ?_, ?_⟩
      · rw [e6, e5]; exact Prod.ext rfl e1.symm
      · rw [e6, e5]; exact e4
theorem topM_apart {F : List Fct} {col : Nat} {js : List Nat} {s : Sp} {A0 A : List Fct} {m : Nat} (h : TopM F col js s A0 m A) (hm : m < js.length) (hn : (rowsJ F js).Nodup) (h0 : ∀ a ∈ A0, a.2.2 ≤ s.1) : ∀ a ∈ A, a.1 = (fc F (js.getD m 0)).1 → a.2.2 ≤ s.1 := fun a ha e => by
  rcases (h a).1 ha with q | ⟨i, hi, rfl, _⟩
  · exact h0 a q
  · exfalso
    have hl : (rowsJ F js).length = js.length := by simp [rowsJ]
    have h1 : (rowsJ F js)[i]'(by omega) = (rowsJ F js)[m]'(by omega) := by
      rw [vr_at, vr_at, vr_rowsJ (by omega), vr_rowsJ hm]
      exact e
    have := (List.getElem_inj hn).1 h1
    omega
end Go.Proofs.Ytohjgegnamcnlaa
