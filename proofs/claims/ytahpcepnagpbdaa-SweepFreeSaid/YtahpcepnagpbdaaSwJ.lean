/- Reading facts. -/
import Derived.Test.YtahpcepnagpbdaaSwH
namespace Go.Proofs.Ytahpcepnagpbdaa
open Go.RowKit

def dn (F : List Dep) (i : Nat) : Int := (F.getD i (0, (0, 0))).1
def df (F : List Dep) (i : Nat) : Int := (F.getD i (0, (0, 0))).2.1
def dt (F : List Dep) (i : Nat) : Int := (F.getD i (0, (0, 0))).2.2
theorem dep_at {F : List Dep} {i : Nat} (h : i < F.length) : F[i] = (dn F i, (df F i, dt F i)) := by simp [dn, df, dt, h]
theorem dep_mem {F : List Dep} {i : Nat} (h : i < F.length) : (dn F i, (df F i, dt F i)) ∈ F := by rw [← dep_at h]; exact List.getElem_mem h
theorem dep_take {F : List Dep} {i : Nat} (h : i < F.length) : F.take (i + 1) = F.take i ++ [(dn F i, (df F i, dt F i))] := by rw [List.take_succ_eq_append_getElem h, dep_at h]
theorem IsFacts.addr {w : World} {A : Option Addr} {n c : Nat} {F : List Dep} (h : IsFacts w (.slice A n c) F) (hn : 0 < F.length) : ∃ b off, A = some ⟨b, off, none⟩ ∧ b < w.heap.size := by
  obtain ⟨R, rfl, h2, _⟩ := h
  obtain ⟨A', c', e, _⟩ := h2.form
  injection e with e1 e2 e3
  subst e1 e2 e3
  exact h2.addr (by simpa using hn)
/-- What lies in the i-th row. -/
def FactAt (w : World) (b off i : Nat) (F : List Dep) (vb vo vc : Nat) : Prop :=
  w.cell? ⟨b, off + i * 3, none⟩ = some (.slice (some ⟨vb, vo, none⟩) 1 vc) ∧ w.cell? ⟨b, off + i * 3 + 1, none⟩ = some (.int .i64 (df F i)) ∧ w.cell? ⟨b, off + i * 3 + 2, none⟩ = some (.int .i64 (dt F i)) ∧
  1 ≤ vc ∧ vc ≤ 9223372036854775807 ∧ vb < w.heap.size ∧ w.cell? ⟨vb, vo, none⟩ = some (.int .i64 1) ∧ w.cell? ⟨vb, vo + 1, none⟩ = some (.int .i64 (dn F i)) ∧ w.cell? ⟨vb, vo + 2, none⟩ = some (.string ⟨#[]⟩)
theorem IsFacts.row {w : World} {b off n c : Nat} {F : List Dep} (h : IsFacts w (.slice (some ⟨b, off, none⟩) n c) F) (i : Nat) (hi : i < F.length) : ∃ vb vo vc, FactAt w b off i F vb vo vc := by
  obtain ⟨R, rfl, h2, h3⟩ := h
  obtain ⟨A', c', e, _⟩ := h2.form
  injection e with e1 e2 e3
  subst e1 e2 e3
  have hi' : i < R.length := by simpa using hi
  have c0 := h2.cells i 0 hi' (by omega)
  have c1 := h2.cells i 1 hi' (by omega)
  have c2 := h2.cells i 2 hi' (by omega)
  have hr : R[i] ∈ R := List.getElem_mem hi'
  obtain ⟨vb, ⟨vo, vc, e, h4, h5, h6, h7, h8, h9⟩, _⟩ := h3 _ hr
  refine ⟨vb, vo, vc, ?_, ?_, ?_, h5, h6, h4, h7, ?_, h9⟩
  · rw [show off + i * 3 = off + i * 3 + 0 from rfl, c0, ← e]; simp [factCell, frow, hi']
  · rw [c1]; simp [factCell, frow, hi', df]
  · rw [c2]; simp [factCell, frow, hi', dt]
  · rw [h8]; simp [dn, hi']
theorem rows_ints {w : World} {v : Value} {E : List Int} {n : Nat} (h : IsInts w v E) (hn : E.length = n) : RowsIn w v n 1 (intCell E) := by subst hn; exact h
end Go.Proofs.Ytahpcepnagpbdaa
