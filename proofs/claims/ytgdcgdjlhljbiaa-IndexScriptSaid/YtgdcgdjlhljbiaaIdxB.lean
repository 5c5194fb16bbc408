/- Law 42: the checker in memory. -/
import Derived.Test.YtgdcgdjlhljbiaaIdxM
namespace Go.Proofs.Ytgdcgdjlhljbiaa
open Go.RowKit

/-- Of what was there only two blocks may have changed. -/
structure Duo (g m : Nat) (w w' : World) : Prop where
  os : w'.os = w.os
  tape : w'.tape = w.tape
  output : w'.output = w.output
  size : w.heap.size ≤ w'.heap.size
  block : ∀ k, k < w.heap.size → k ≠ g → k ≠ m → w'.heap[k]? = w.heap[k]?
theorem Duo.refl (g m : Nat) (w : World) : Duo g m w w := ⟨rfl, rfl, rfl, Nat.le_refl _, fun _ _ _ _ => rfl⟩
theorem Duo.trans {g m : Nat} {a b c : World} (h : Duo g m a b) (k : Duo g m b c) : Duo g m a c :=
  ⟨k.os.trans h.os, k.tape.trans h.tape, k.output.trans h.output, Nat.le_trans h.size k.size, fun i hi h1 h2 => (k.block i (Nat.lt_of_lt_of_le hi h.size) h1 h2).trans (h.block i hi h1 h2)⟩
theorem Duo.of_below {g m : Nat} {w w' : World} (h : Below w.heap.size w w') : Duo g m w w' := ⟨h.os, h.tape, h.output, h.size, fun k hk _ _ => h.block k hk⟩
theorem Duo.setL (g m : Nat) (w : World) (j : Nat) (v : Value) : Duo g m w (w.setCell ⟨g, j, none⟩ v) := ⟨rfl, rfl, rfl, by simp [World.setCell], fun k _ h1 _ => Below.heap_setCell _ _ _ _ h1⟩
theorem Duo.setR (g m : Nat) (w : World) (j : Nat) (v : Value) : Duo g m w (w.setCell ⟨m, j, none⟩ v) := ⟨rfl, rfl, rfl, by simp [World.setCell], fun k _ _ h2 => Below.heap_setCell _ _ _ _ h2⟩
theorem Duo.cell {g m : Nat} {w w' : World} (h : Duo g m w w') {b o : Nat} (hb : b < w.heap.size) (h1 : b ≠ g) (h2 : b ≠ m) : w'.cell? ⟨b, o, none⟩ = w.cell? ⟨b, o, none⟩ := World.cell?_of_block (h.block b hb h1 h2)
theorem Duo.below {g m B : Nat} {w w' : World} (h : Duo g m w w') (h1 : B ≤ g) (h2 : B ≤ m) (h3 : B ≤ w.heap.size) : Below B w w' := ⟨h.os, h.tape, h.output, h.size, fun k hk => h.block k (by omega) (by omega) (by omega)⟩

def chkCells (v : Value) (root : Int) (g : Nat) (s : VSt) : Array Value := #[v, .int .i64 root, .slice (some ⟨g, 0, none⟩) s.seen.length s.seen.length, .int .i64 s.last.1, .int .i64 s.last.2.1, .int .i64 s.last.2.2, .bool s.some]
structure ChkAt (w : World) (B g : Nat) (v : Value) (root : Int) (s : VSt) : Prop where
  ck : w.heap[B]? = some (.cells (chkCells v root g s) 77 (0, 0))
  sn : w.heap[g]? = some (.cells (s.seen.map Value.bool).toArray 4 (0, 0))
section
variable {w w' : World} {B g : Nat} {v : Value} {root : Int} {s : VSt}
theorem lt_of_block {w : World} {k : Nat} {o : Obj} (h : w.heap[k]? = some o) : k < w.heap.size := by
  rcases Nat.lt_or_ge k w.heap.size with h1 | h1
  · exact h1
  · rw [Array.getElem?_eq_none h1] at h; cases h
theorem ChkAt.ltB (h : ChkAt w B g v root s) : B < w.heap.size := lt_of_block h.ck
theorem ChkAt.ltg (h : ChkAt w B g v root s) : g < w.heap.size := lt_of_block h.sn
theorem ChkAt.below (h : ChkAt w B g v root s) (hb : Below w.heap.size w w') : ChkAt w' B g v root s := ⟨(hb.block B h.ltB).trans h.ck, (hb.block g h.ltg).trans h.sn⟩
theorem ChkAt.k0 (h : ChkAt w B g v root s) : w.cell? ⟨B, 0, none⟩ = some v := by simp [World.cell?, h.ck, chkCells]
theorem ChkAt.k1 (h : ChkAt w B g v root s) : w.cell? ⟨B, 1, none⟩ = some (.int .i64 root) := by simp [World.cell?, h.ck, chkCells]
theorem ChkAt.k2 (h : ChkAt w B g v root s) : w.cell? ⟨B, 2, none⟩ = some (.slice (some ⟨g, 0, none⟩) s.seen.length s.seen.length) := by simp [World.cell?, h.ck, chkCells]
theorem ChkAt.k3 (h : ChkAt w B g v root s) : w.cell? ⟨B, 3, none⟩ = some (.int .i64 s.last.1) := by simp [World.cell?, h.ck, chkCells]
theorem ChkAt.k4 (h : ChkAt w B g v root s) : w.cell? ⟨B, 4, none⟩ = some (.int .i64 s.last.2.1) := by simp [World.cell?, h.ck, chkCells]
theorem ChkAt.k5 (h : ChkAt w B g v root s) : w.cell? ⟨B, 5, none⟩ = some (.int .i64 s.last.2.2) := by simp [World.cell?, h.ck, chkCells]
theorem ChkAt.k6 (h : ChkAt w B g v root s) : w.cell? ⟨B, 6, none⟩ = some (.bool s.some) := by simp [World.cell?, h.ck, chkCells]
theorem ChkAt.sc (h : ChkAt w B g v root s) (i : Nat) (hi : i < s.seen.length) : w.cell? ⟨g, i, none⟩ = some (.bool (s.seen.getD i false)) := by
  simp [World.cell?, h.sn, hi]
theorem ChkAt.fB (h : ChkAt w B g v root s) (j : Nat) : w.frozen? ⟨B, j, none⟩ = false := by simp [World.frozen?, h.ck]
theorem ChkAt.fg (h : ChkAt w B g v root s) (j : Nat) : w.frozen? ⟨g, j, none⟩ = false := by simp [World.frozen?, h.sn]
theorem ChkAt.mark (h : ChkAt w B g v root s) (hne : B ≠ g) (i : Nat) : ChkAt (w.setCell ⟨g, i, none⟩ (.bool true)) B g v root { s with seen := s.seen.set i true } := by
  constructor
  · rw [show (w.setCell ⟨g, i, none⟩ (.bool true)).heap[B]? = w.heap[B]? from Below.heap_setCell _ _ _ _ hne, h.ck]
    simp [chkCells]
  · simp [World.setCell, Array.getElem?_modify, h.sn, List.map_set]
theorem ChkAt.put (h : ChkAt w B g v root s) (hne : B ≠ g) (x : En) : ChkAt ((((w.setCell ⟨B, 3, none⟩ (.int .i64 x.1)).setCell ⟨B, 4, none⟩ (.int .i64 x.2.1)).setCell ⟨B, 5, none⟩ (.int .i64 x.2.2)).setCell ⟨B, 6, none⟩ (.bool true)) B g v root { s with last := x, some := true } := by
  constructor
  · simp [World.setCell, Array.getElem?_modify, h.ck, chkCells]
  · rw [Below.heap_setCell _ _ _ _ (Ne.symm hne), Below.heap_setCell _ _ _ _ (Ne.symm hne), Below.heap_setCell _ _ _ _ (Ne.symm hne), Below.heap_setCell _ _ _ _ (Ne.symm hne)]
    exact h.sn
end
end Go.Proofs.Ytgdcgdjlhljbiaa
