/- Law 42: nodes in memory. -/
import Derived.Test.YtgdcgdjlhljbiaaIdxQ
import Derived.Test.YtgdcgdjlhljbiaaPre
namespace Go.Proofs.Ytgdcgdjlhljbiaa
open Go.RowKit

def ndField (n : Nd) (j : Nat) : Int := if j = 0 then n.f else if j = 1 then n.t else if j = 2 then n.v else if j = 3 then n.l else if j = 4 then n.r else if j = 5 then n.m else n.h
def ndCell (N : List Nd) (i j : Nat) : Value := .int .i64 (ndField (nd N i) j)
def IsNodes (w : World) (v : Value) (N : List Nd) : Prop := RowsIn w v N.length 7 (ndCell N)
section
variable {w w' : World} {v : Value} {n c b off : Nat} {A : Option Addr} {N : List Nd}
theorem IsNodes.below (h : IsNodes w v N) (hb : Below w.heap.size w w') : IsNodes w' v N := RowsIn.below h hb
theorem IsNodes.form (h : IsNodes w v N) : ∃ A c, v = .slice A N.length c ∧ N.length ≤ c ∧ c ≤ 9223372036854775807 := RowsIn.form h
theorem IsNodes.addr (h : IsNodes w (.slice A N.length c) N) (hn : 0 < N.length) : ∃ b off, A = some ⟨b, off, none⟩ ∧ b < w.heap.size := RowsIn.addr h hn
theorem IsNodes.c0 (h : IsNodes w (.slice (some ⟨b, off, none⟩) N.length c) N) (i : Nat) (hi : i < N.length) : w.cell? ⟨b, off + i * 7, none⟩ = some (.int .i64 (nd N i).f) := RowsIn.cells h i 0 hi (by omega)
theorem IsNodes.c1 (h : IsNodes w (.slice (some ⟨b, off, none⟩) N.length c) N) (i : Nat) (hi : i < N.length) : w.cell? ⟨b, off + i * 7 + 1, none⟩ = some (.int .i64 (nd N i).t) := RowsIn.cells h i 1 hi (by omega)
theorem IsNodes.c2 (h : IsNodes w (.slice (some ⟨b, off, none⟩) N.length c) N) (i : Nat) (hi : i < N.length) : w.cell? ⟨b, off + i * 7 + 2, none⟩ = some (.int .i64 (nd N i).v) := RowsIn.cells h i 2 hi (by omega)
theorem IsNodes.c3 (h : IsNodes w (.slice (some ⟨b, off, none⟩) N.length c) N) (i : Nat) (hi : i < N.length) : w.cell? ⟨b, off + i * 7 + 3, none⟩ = some (.int .i64 (nd N i).l) := RowsIn.cells h i 3 hi (by omega)
theorem IsNodes.c4 (h : IsNodes w (.slice (some ⟨b, off, none⟩) N.length c) N) (i : Nat) (hi : i < N.length) : w.cell? ⟨b, off + i * 7 + 4, none⟩ = some (.int .i64 (nd N i).r) := RowsIn.cells h i 4 hi (by omega)
theorem IsNodes.c5 (h : IsNodes w (.slice (some ⟨b, off, none⟩) N.length c) N) (i : Nat) (hi : i < N.length) : w.cell? ⟨b, off + i * 7 + 5, none⟩ = some (.int .i64 (nd N i).m) := RowsIn.cells h i 5 hi (by omega)
theorem IsNodes.c6 (h : IsNodes w (.slice (some ⟨b, off, none⟩) N.length c) N) (i : Nat) (hi : i < N.length) : w.cell? ⟨b, off + i * 7 + 6, none⟩ = some (.int .i64 (nd N i).h) := RowsIn.cells h i 6 hi (by omega)
theorem IsNodes.nil : IsNodes w (.slice none 0 0) [] := RowsIn.nil
end
end Go.Proofs.Ytgdcgdjlhljbiaa
