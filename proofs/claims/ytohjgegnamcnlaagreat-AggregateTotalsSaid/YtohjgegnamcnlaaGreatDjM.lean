/- Law 47: matrices of numbers in memory. No program in sight. -/
import Derived.Test.YtohjgegnamcnlaaGreatPre
namespace Go.Proofs.YtohjgegnamcnlaaGreat
open Go.RowKit

abbrev Mat := Nat → Nat → Int
def upd (M : Mat) (i j : Nat) (x : Int) : Mat := fun a b => if a = i ∧ b = j then x else M a b
section
variable {w w' : World} {g b n m base : Nat} {f : Nat → Int} {G C : Nat → Nat} {M : Mat}
theorem blk_lt {w : World} {k : Nat} {o : Obj} (h : w.heap[k]? = some o) : k < w.heap.size := (Array.getElem?_eq_some_iff.1 h).1
theorem blk_get {w : World} {b : Nat} {cs : Array Value} {t : TypeId} {r : Nat × Nat} (h : w.heap[b]? = some (.cells cs t r)) (i : Nat) : w.cell? ⟨b, i, none⟩ = cs[i]? := by simp [World.cell?, h]
theorem blk_soft {w : World} {b : Nat} {cs : Array Value} {t : TypeId} (h : w.heap[b]? = some (.cells cs t (0, 0))) (i : Nat) : w.frozen? ⟨b, i, none⟩ = false := by simp [World.frozen?, h]
theorem blk_set {W : World} {b : Nat} {cs : Array Value} {t : TypeId} {r : Nat × Nat} (h : W.heap[b]? = some (.cells cs t r)) (i : Nat) (v : Value) : (W.setCell ⟨b, i, none⟩ v).heap[b]? = some (.cells (cs.setIfInBounds i v) t r) := by
  simp [World.setCell, Array.getElem?_modify, h]
theorem blk_oth {W : World} {b k : Nat} (hne : k ≠ b) (i : Nat) (v : Value) : (W.setCell ⟨b, i, none⟩ v).heap[k]? = W.heap[k]? := Below.heap_setCell W ⟨b, i, none⟩ v k hne
/-- A row of numbers in its own block. -/
def RowAt (w : World) (g n : Nat) (f : Nat → Int) : Prop := ∃ cs : Array Value, w.heap[g]? = some (.cells cs 3 (0, 0)) ∧ n ≤ cs.size ∧ ∀ j, j < n → cs[j]? = some (.int .i64 (f j))
theorem RowAt.block (h : RowAt w g n f) (hb : w'.heap[g]? = w.heap[g]?) : RowAt w' g n f := by
  obtain ⟨cs, h1, h2, h3⟩ := h
  exact ⟨cs, hb.trans h1, h2, h3⟩
theorem RowAt.lt (h : RowAt w g n f) : g < w.heap.size := by obtain ⟨cs, h1, _⟩ := h; exact blk_lt h1
theorem RowAt.below (h : RowAt w g n f) (hb : Below w.heap.size w w') : RowAt w' g n f := h.block (hb.block g h.lt)
theorem RowAt.cell (h : RowAt w g n f) (j : Nat) (hj : j < n) : w.cell? ⟨g, j, none⟩ = some (.int .i64 (f j)) := by
  obtain ⟨cs, h1, _, h3⟩ := h
  rw [blk_get h1, h3 j hj]
theorem RowAt.soft (h : RowAt w g n f) (j : Nat) : w.frozen? ⟨g, j, none⟩ = false := by
  obtain ⟨cs, h1, _⟩ := h
  exact blk_soft h1 j
theorem RowAt.congr {f' : Nat → Int} (h : RowAt w g n f) (he : ∀ j, j < n → f j = f' j) : RowAt w g n f' := by
  obtain ⟨cs, h1, h2, h3⟩ := h
  exact ⟨cs, h1, h2, fun j hj => by rw [h3 j hj, he j hj]⟩
theorem RowAt.set (h : RowAt w g n f) (j : Nat) (hj : j < n) (x : Int) : RowAt (w.setCell ⟨g, j, none⟩ (.int .i64 x)) g n (fun b => if b = j then x else f b) := by
  obtain ⟨cs, h1, h2, h3⟩ := h
  refine ⟨_, blk_set h1 j _, by simpa using h2, fun k hk => ?_⟩
  rw [Array.getElem?_setIfInBounds]
  by_cases e : k = j
  · subst e
    simp
    omega
  · rw [if_neg (fun h => e h.symm)]
    simp only [e, if_false]
    exact h3 k hk
/-- The first m rows of a matrix of n columns: a block of slices, each row a block of its own. -/
structure MatAt (w : World) (base b m n : Nat) (G C : Nat → Nat) (M : Mat) : Prop where
  tab : ∃ cs : Array Value, w.heap[b]? = some (.cells cs 23 (0, 0)) ∧ cs.size = n ∧ ∀ i, i < m → cs[i]? = some (.slice (some ⟨G i, 0, none⟩) n (C i))
  rows : ∀ i, i < m → RowAt w (G i) n (M i)
  inj : ∀ i j, i < m → j < m → G i = G j → i = j
  off : ∀ i, i < m → G i ≠ b
  lob : base ≤ b
  log : ∀ i, i < m → base ≤ G i
  cap : ∀ i, i < m → n ≤ C i ∧ C i ≤ 9223372036854775807
theorem MatAt.lt (h : MatAt w base b m n G C M) : b < w.heap.size := by obtain ⟨cs, h1, _⟩ := h.tab; exact blk_lt h1
theorem MatAt.blocks (h : MatAt w base b m n G C M) (hb : w'.heap[b]? = w.heap[b]?) (hg : ∀ i, i < m → w'.heap[G i]? = w.heap[G i]?) : MatAt w' base b m n G C M := by
  obtain ⟨⟨cs, h1, h2, h3⟩, h4, h5, h6, h7, h8, h9⟩ := h
  exact ⟨⟨cs, hb.trans h1, h2, h3⟩, fun i hi => (h4 i hi).block (hg i hi), h5, h6, h7, h8, h9⟩
theorem MatAt.below (h : MatAt w base b m n G C M) (hb : Below w.heap.size w w') : MatAt w' base b m n G C M :=
  h.blocks (hb.block b h.lt) fun i hi => hb.block _ (h.rows i hi).lt
theorem MatAt.head (h : MatAt w base b m n G C M) (i : Nat) (hi : i < m) : w.cell? ⟨b, i, none⟩ = some (.slice (some ⟨G i, 0, none⟩) n (C i)) := by
  obtain ⟨cs, h1, _, h3⟩ := h.tab
  rw [blk_get h1, h3 i hi]
theorem MatAt.cell (h : MatAt w base b m n G C M) (i j : Nat) (hi : i < m) (hj : j < n) : w.cell? ⟨G i, j, none⟩ = some (.int .i64 (M i j)) := (h.rows i hi).cell j hj
theorem MatAt.soft (h : MatAt w base b m n G C M) (i j : Nat) (hi : i < m) : w.frozen? ⟨G i, j, none⟩ = false := (h.rows i hi).soft j
theorem MatAt.set (h : MatAt w base b m n G C M) (i j : Nat) (hi : i < m) (hj : j < n) (x : Int) : MatAt (w.setCell ⟨G i, j, none⟩ (.int .i64 x)) base b m n G C (upd M i j x) := by
  obtain ⟨⟨cs, h1, h2, h3⟩, h4, h5, h6, h7, h8, h9⟩ := h
  refine ⟨⟨cs, (blk_oth (h6 i hi).symm _ _).trans h1, h2, h3⟩, fun a ha => ?_, h5, h6, h7, h8, h9⟩
  by_cases e : a = i
  · subst e
    refine ((h4 a ha).set j hj x).congr fun b hb => ?_
    unfold upd
    by_cases e2 : b = j
    · rw [if_pos e2, if_pos ⟨rfl, e2⟩]
    · rw [if_neg e2, if_neg (fun h => e2 h.2)]
  · refine ((h4 a ha).block (blk_oth (fun e2 => e (h5 a i ha hi e2)) _ _)).congr fun b hb => ?_
    unfold upd
    rw [if_neg (fun h => e h.1)]
theorem MatAt.congr {M' : Mat} (h : MatAt w base b m n G C M) (he : ∀ i j, i < m → j < n → M i j = M' i j) : MatAt w base b m n G C M' := by
  obtain ⟨h0, h4, h5, h6, h7, h8, h9⟩ := h
  exact ⟨h0, fun i hi => (h4 i hi).congr (he i · hi), h5, h6, h7, h8, h9⟩
/-- A row more. -/
theorem MatAt.add {c : Nat} (h : MatAt w base b m n G C M) (hm : m < n) (hr : RowAt w g n f) (hb : g ≠ b) (hg : ∀ i, i < m → g ≠ G i) (hlo : base ≤ g) (hc : n ≤ c) (hc2 : c ≤ 9223372036854775807) :
    MatAt (w.setCell ⟨b, m, none⟩ (.slice (some ⟨g, 0, none⟩) n c)) base b (m + 1) n (fun i => if i = m then g else G i) (fun i => if i = m then c else C i) (fun i => if i = m then f else M i) := by
  obtain ⟨⟨cs, h1, h2, h3⟩, h4, h5, h6, h7, h8, h9⟩ := h
  refine ⟨⟨_, blk_set h1 m _, by simpa using h2, fun i hi => ?_⟩, fun i hi => ?_, fun i j hi hj e => ?_, fun i hi => ?_, h7, fun i hi => ?_, fun i hi => ?_⟩
  · rw [Array.getElem?_setIfInBounds]
    by_cases e : i = m
    · subst e; simp; omega
    · rw [if_neg (fun h => e h.symm), if_neg e, if_neg e]; exact h3 i (by omega)
  · by_cases e : i = m
    · simp only [e, if_true]; exact hr.block (blk_oth hb _ _)
    · simp only [e, if_false]; exact (h4 i (by omega)).block (blk_oth (h6 i (by omega)) _ _)
  · by_cases e1 : i = m <;> by_cases e2 : j = m
    · omega
    · simp only [e1, e2, if_true, if_false] at e; exact absurd e (hg j (by omega))
    · simp only [e1, e2, if_true, if_false] at e; exact absurd e.symm (hg i (by omega))
    · simp only [e1, e2, if_false] at e; exact h5 i j (by omega) (by omega) e
  · by_cases e : i = m
    · simp only [e, if_true]; exact hb
    · simp only [e, if_false]; exact h6 i (by omega)
  · by_cases e : i = m
    · simp only [e, if_true]; exact hlo
    · simp only [e, if_false]; exact h8 i (by omega)
  · by_cases e : i = m
    · simp only [e, if_true]; exact ⟨hc, hc2⟩
    · simp only [e, if_false]; exact h9 i (by omega)
end
end Go.Proofs.YtohjgegnamcnlaaGreat
