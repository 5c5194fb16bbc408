/- Law 47: lists of choices in memory. No program in sight. -/
import Derived.Test.YtcppcfinnbeboaaGreatDjM
namespace Go.Proofs.YtcppcfinnbeboaaGreat
open Go.RowKit

/-- A choice: its events, its spans. -/
abbrev Cho := Int × Int × List Sp
def cho (L : List Cho) (i : Nat) : Cho := L.getD i (0, 0, [])
theorem cho_at {L : List Cho} {i : Nat} (hi : i < L.length) : L[i] = cho L i := by simp [cho, hi]
theorem cho_mem {L : List Cho} {i : Nat} (hi : i < L.length) : cho L i ∈ L := by rw [← cho_at hi]; exact List.getElem_mem hi
def choCell (L : List Cho) (S : Nat → Value) (i j : Nat) : Value := if j = 2 then S i else .int .i64 (if j = 0 then (cho L i).1 else (cho L i).2.1)
/-- A list of choices; S: the slices of their spans. -/
def ChosIn (w : World) (v : Value) (L : List Cho) (S : Nat → Value) : Prop := RowsIn w v L.length 3 (choCell L S) ∧ ∀ i, i < L.length → IsSpans w (S i) (cho L i).2.2
def IsChos (w : World) (v : Value) (L : List Cho) : Prop := ∃ S, ChosIn w v L S
section
variable {w w' : World} {v : Value} {L : List Cho} {S : Nat → Value} {b off c g : Nat} {A : Option Addr}
theorem ChosIn.below (h : ChosIn w v L S) (hb : Below w.heap.size w w') : ChosIn w' v L S := ⟨h.1.below hb, fun i hi => (h.2 i hi).below hb⟩
theorem IsChos.below (h : IsChos w v L) (hb : Below w.heap.size w w') : IsChos w' v L := by obtain ⟨S, h⟩ := h; exact ⟨S, h.below hb⟩
theorem ChosIn.form (h : ChosIn w v L S) : ∃ A c, v = .slice A L.length c ∧ L.length ≤ c ∧ c ≤ 9223372036854775807 := RowsIn.form h.1
theorem ChosIn.addr (h : ChosIn w (.slice A L.length c) L S) (hn : 0 < L.length) : ∃ b off, A = some ⟨b, off, none⟩ ∧ b < w.heap.size := RowsIn.addr h.1 hn
theorem ChosIn.c0 (h : ChosIn w (.slice (some ⟨b, off, none⟩) L.length c) L S) (i : Nat) (hi : i < L.length) : w.cell? ⟨b, off + i * 3, none⟩ = some (.int .i64 (cho L i).1) := RowsIn.cells h.1 i 0 hi (by omega)
theorem ChosIn.c1 (h : ChosIn w (.slice (some ⟨b, off, none⟩) L.length c) L S) (i : Nat) (hi : i < L.length) : w.cell? ⟨b, off + i * 3 + 1, none⟩ = some (.int .i64 (cho L i).2.1) := RowsIn.cells h.1 i 1 hi (by omega)
theorem ChosIn.c2 (h : ChosIn w (.slice (some ⟨b, off, none⟩) L.length c) L S) (i : Nat) (hi : i < L.length) : w.cell? ⟨b, off + i * 3 + 2, none⟩ = some (S i) := RowsIn.cells h.1 i 2 hi (by omega)
theorem IsChos.nil : IsChos w (.slice none 0 0) [] := ⟨fun _ => undef, RowsIn.nil, fun i hi => absurd hi (by simp)⟩
/-- The block of a slice. -/
def sblk : Value → Option Nat
  | .slice (some a) _ _ => some a.block
  | _ => none
theorem IsSpans.blocks {v : Value} {l : List Sp} (h : IsSpans w v l) (hs : w.heap.size ≤ w'.heap.size) (hb : ∀ b, sblk v = some b → w'.heap[b]? = w.heap[b]?) : IsSpans w' v l := by
  obtain ⟨A, c, rfl, h1, h2, h3⟩ := h
  refine ⟨A, c, rfl, h1, h2, fun hn => ?_⟩
  obtain ⟨b, off, rfl, hlt, hc⟩ := h3 hn
  exact ⟨b, off, rfl, Nat.lt_of_lt_of_le hlt hs, fun i j hi hj => (World.cell?_of_block (hb b rfl)).trans (hc i j hi hj)⟩
/-- The slice lies in memory that is there. -/
theorem IsSpans.blk_lt {v : Value} {l : List Sp} (h : IsSpans w v l) (hn : 0 < l.length) (b : Nat) (hb : sblk v = some b) : b < w.heap.size := by
  obtain ⟨A, c, rfl, h1, h2, h3⟩ := h
  obtain ⟨b', off, rfl, hlt, _⟩ := h3 hn
  have e : b' = b := Option.some.inj hb
  omega
/-- A list of choices in a block of its own, apart from all spans. -/
structure ChosAt (w : World) (g : Nat) (L : List Cho) (S : Nat → Value) : Prop where
  rows : ∃ cs : Array Value, w.heap[g]? = some (.cells cs 31 (0, 0)) ∧ ∀ i j, i < L.length → j < 3 → cs[i * 3 + j]? = some (choCell L S i j)
  spans : ∀ i, i < L.length → IsSpans w (S i) (cho L i).2.2
  off : ∀ i, i < L.length → sblk (S i) ≠ some g
theorem ChosAt.lt (h : ChosAt w g L S) : g < w.heap.size := by obtain ⟨cs, h1, _⟩ := h.rows; exact blk_lt h1
theorem ChosAt.below (h : ChosAt w g L S) (hb : Below w.heap.size w w') : ChosAt w' g L S := by
  obtain ⟨⟨cs, h1, h2⟩, h3, h4⟩ := h
  exact ⟨⟨cs, (hb.block g (_root_.Go.Proofs.YtcppcfinnbeboaaGreat.blk_lt h1)).trans h1, h2⟩, fun i hi => (h3 i hi).below hb, h4⟩
theorem ChosAt.cell (h : ChosAt w g L S) (i j : Nat) (hi : i < L.length) (hj : j < 3) : w.cell? ⟨g, i * 3 + j, none⟩ = some (choCell L S i j) := by
  obtain ⟨cs, h1, h2⟩ := h.rows
  rw [blk_get h1, h2 i j hi hj]
theorem ChosAt.c0 (h : ChosAt w g L S) (i : Nat) (hi : i < L.length) : w.cell? ⟨g, i * 3, none⟩ = some (.int .i64 (cho L i).1) := h.cell i 0 hi (by omega)
theorem ChosAt.c1 (h : ChosAt w g L S) (i : Nat) (hi : i < L.length) : w.cell? ⟨g, i * 3 + 1, none⟩ = some (.int .i64 (cho L i).2.1) := h.cell i 1 hi (by omega)
theorem ChosAt.c2 (h : ChosAt w g L S) (i : Nat) (hi : i < L.length) : w.cell? ⟨g, i * 3 + 2, none⟩ = some (S i) := h.cell i 2 hi (by omega)
theorem ChosAt.soft (h : ChosAt w g L S) (j : Nat) : w.frozen? ⟨g, j, none⟩ = false := by
  obtain ⟨cs, h1, _⟩ := h.rows
  exact blk_soft h1 j
/-- As a slice. -/
theorem ChosAt.chos (h : ChosAt w g L S) {c : Nat} (h1 : L.length ≤ c) (h2 : c ≤ 9223372036854775807) : ChosIn w (.slice (some ⟨g, 0, none⟩) L.length c) L S :=
  ⟨⟨_, _, rfl, h1, h2, fun _ => ⟨g, 0, rfl, h.lt, fun i j hi hj => by rw [Nat.zero_add]; exact h.cell i j hi hj⟩⟩, h.spans⟩
def setC (L : List Cho) (i : Nat) (x : List Sp) : List Cho := L.set i ((cho L i).1, (cho L i).2.1, x)
theorem setC_len (L : List Cho) (i : Nat) (x : List Sp) : (setC L i x).length = L.length := by simp [setC]
theorem setC_get {L : List Cho} {i : Nat} (x : List Sp) (j : Nat) (hi : i < L.length) : cho (setC L i x) j = if j = i then ((cho L i).1, (cho L i).2.1, x) else cho L j := by
  unfold setC
  conv => lhs; unfold cho
  rw [List.getD_eq_getElem?_getD, List.getElem?_set]
  by_cases e : j = i
  · subst e
    rw [if_pos rfl, if_pos rfl, if_pos hi]
    rfl
  · rw [if_neg (fun h => e h.symm), if_neg e]
    unfold cho
    rw [List.getD_eq_getElem?_getD]
/-- A choice's spans replaced. -/
theorem ChosAt.set (h : ChosAt w g L S) (i : Nat) (hi : i < L.length) (x : List Sp) (u : Value) (hu : IsSpans w u x) (ho : sblk u ≠ some g) :
    ChosAt (w.setCell ⟨g, i * 3 + 2, none⟩ u) g (setC L i x) (fun j => if j = i then u else S j) := by
  obtain ⟨⟨cs, h1, h2⟩, h3, h4⟩ := h
  have hsz : (w.setCell ⟨g, i * 3 + 2, none⟩ u).heap.size = w.heap.size := by simp [World.setCell]
  refine ⟨⟨_, blk_set h1 _ _, fun a j ha hj => ?_⟩, fun a ha => ?_, fun a ha => ?_⟩
  · rw [setC_len] at ha
    rw [Array.getElem?_setIfInBounds]
    have h6 := h2 i 2 hi (by omega)
    have h7 : i * 3 + 2 < cs.size := (Array.getElem?_eq_some_iff.1 h6).1
    unfold choCell
    rw [setC_get x a hi]
    by_cases e : i * 3 + 2 = a * 3 + j
    · obtain rfl : j = 2 := by omega
      obtain rfl : a = i := by omega
      simp [h7]
    · rw [if_neg e, h2 a j ha hj]
      unfold choCell
      by_cases ea : a = i
      · subst ea
        have : j ≠ 2 := fun h => e (by rw [h])
        simp [this]
      · simp [ea]
  · rw [setC_len] at ha
    rw [setC_get x a hi]
    by_cases ea : a = i
    · simp only [ea, if_true]
      exact hu.blocks (by omega) fun b hb => blk_oth (fun e => ho (by rw [hb, e])) _ _
    · simp only [ea, if_false]
      exact (h3 a ha).blocks (by omega) fun b hb => blk_oth (fun e => h4 a ha (by rw [hb, e])) _ _
  · rw [setC_len] at ha
    by_cases ea : a = i
    · simp only [ea, if_true]; exact ho
    · simp only [ea, if_false]; exact h4 a ha
end
end Go.Proofs.YtcppcfinnbeboaaGreat
