/- An argument that is a tree reads as a plain list of nodes and a number. -/
import Derived.Test.YtgdcgdjlhljbiaaOpen
import Derived.Test.YtgdcgdjlhljbiaaIdxM
namespace Go.Proofs.Ytgdcgdjlhljbiaa
open Go.RowKit Go.ChangeShapes Go.WideShapes Go.Deep Go.Joins

theorem cells_Node : Try.prog.cellsOf 60 = 7 := by kernel_rfl
theorem under_Node : Try.prog.underlying 60 = some (.struct (Try.prog.fieldsOf 60)) := by kernel_rfl
theorem field_Node0 : ((Try.prog.fieldsOf 60)[0]?).map (fun f => (f.type, f.offset, Try.prog.cellsOf f.type)) = some (33, 0, 2) := by kernel_rfl
theorem field_NodeJ : ∀ j : Nat, 1 ≤ j → j < 6 → ((Try.prog.fieldsOf 60)[j]?).map (fun f => (f.type, f.offset, Try.prog.cellsOf f.type)) = some (3, j + 1, 1) := fun j h1 h2 => by
  rcases (by omega : j = 1 ∨ j = 2 ∨ j = 3 ∨ j = 4 ∨ j = 5) with rfl | rfl | rfl | rfl | rfl <;> kernel_rfl
theorem field_SpanJ : ∀ j : Nat, j < 2 → ((Try.prog.fieldsOf 33)[j]?).map (fun f => (f.type, f.offset, Try.prog.cellsOf f.type)) = some (3, j, 1) := fun j h => by
  rcases (by omega : j = 0 ∨ j = 1) with rfl | rfl <;> kernel_rfl
theorem struct_Tree : Try.prog.underlying 24 = some (.struct #[(Try.prog.fieldsOf 24).getD 0 default, (Try.prog.fieldsOf 24).getD 1 default]) := by kernel_rfl
theorem one_Tree2 : oneCellFields Try.prog #[(Try.prog.fieldsOf 24).getD 0 default, (Try.prog.fieldsOf 24).getD 1 default] = true := by kernel_rfl
theorem type_Tree0 : ((Try.prog.fieldsOf 24).getD 0 default).type = 22 := by kernel_rfl
theorem type_Tree1 : ((Try.prog.fieldsOf 24).getD 1 default).type = 3 := by kernel_rfl
theorem cells_Tree : Try.prog.cellsOf 24 = 2 := by kernel_rfl
section
variable {H : Type} {enc : TypeId × Value → H} {w : World} {base : Nat} {spare : Nat → Bool} {held : Bool}
theorem trod_cell {n : Nat} {cs : List Value} {j : Nat} {y : DataW H × List MemPlace} (h : DataW.trod enc Try.prog w base spare held n 3 ((cs.drop j).take 1) = some y) : ∃ q : Int, cs[j]? = some (.int .i64 q) := by
  obtain ⟨q, e1, _, _⟩ := DataW.trod_int Try.underlying3 h
  refine ⟨q, ?_⟩
  have h2 : ((cs.drop j).take 1)[0]? = some (.int .i64 q) := by rw [e1]; rfl
  rw [List.getElem?_take_of_lt (by omega), List.getElem?_drop] at h2
  simpa using h2
theorem trod_Span {n : Nat} {cs : List Value} {y : DataW H × List MemPlace} (h : DataW.trod enc Try.prog w base spare held n 33 cs = some y) : ∀ j, j < 2 → ∃ q : Int, cs[j]? = some (.int .i64 q) := by
  obtain ⟨ys, n', _, _, _, hyl, hg⟩ := DataW.trod_struct under_Span h
  intro j hj
  obtain ⟨f, hf, he⟩ := Option.map_eq_some_iff.1 (field_SpanJ j hj)
  simp only [Prod.mk.injEq] at he
  have h1 := hg j f hf
  rw [he.1, he.2.1, show Try.prog.cellsOf 3 = 1 from by kernel_rfl] at h1
  have hyl2 : ys.length = 2 := hyl.trans size_Span
  exact trod_cell (h1.trans (List.getElem?_eq_getElem (by omega)))
theorem trod_Node {n : Nat} {cs : List Value} {y : DataW H × List MemPlace} (h : DataW.trod enc Try.prog w base spare held n 60 cs = some y) : ∀ j, j < 7 → ∃ q : Int, cs[j]? = some (.int .i64 q) := by
  obtain ⟨ys, n', _, _, hcl, hyl, hg⟩ := DataW.trod_struct under_Node h
  have hyl2 : ys.length = 6 := hyl.trans (by kernel_rfl)
  intro j hj
  by_cases h2 : j < 2
  · obtain ⟨f, hf, he⟩ := Option.map_eq_some_iff.1 field_Node0
    simp only [Prod.mk.injEq] at he
    have h1 := hg 0 f hf
    rw [he.1, he.2.1, show Try.prog.cellsOf 33 = 2 from by kernel_rfl, List.drop_zero] at h1
    obtain ⟨q, hq⟩ := trod_Span (h1.trans (List.getElem?_eq_getElem (by omega))) j h2
    rw [List.getElem?_take_of_lt h2] at hq
    exact ⟨q, hq⟩
  · obtain ⟨f, hf, he⟩ := Option.map_eq_some_iff.1 (field_NodeJ (j - 1) (by omega) (by omega))
    simp only [Prod.mk.injEq] at he
    have h1 := hg (j - 1) f hf
    rw [he.1, he.2.1, show Try.prog.cellsOf 3 = 1 from by kernel_rfl, show j - 1 + 1 = j from by omega] at h1
    exact trod_cell (h1.trans (List.getElem?_eq_getElem (by omega)))
set_option maxRecDepth 100000 in
theorem open_nodes {fuel : Nat} {c : Value} {y : DataW H × List MemPlace} (hf : DataW.trod enc Try.prog w base spare held fuel 22 [c] = some y) : ∃ N : List Nd, IsNodes w c N := by
  rcases open_slice Try.underlying22 hf with ⟨h0, _⟩ | ⟨a, len, cap, m, n, D, Pl, hcs, hb, hl, hm, hmm, _, hi⟩
  · simp only [List.cons.injEq, and_true] at h0
    subst h0
    exact ⟨[], IsNodes.nil⟩
  · simp only [List.cons.injEq, and_true] at hcs
    subst hcs
    have hlm : len ≤ m := by rw [hmm]; split <;> omega
    have hcell : ∀ i j, i < len → j < 7 → ∃ q : Int, w.cell? (a.add (i * 7 + j)) = some (.int .i64 q) := by
      intro i j hil hj
      obtain ⟨cs', hc, ht'⟩ := hi i (by omega)
      rw [cells_Node] at hc
      obtain ⟨q, hq⟩ := trod_Node ht' j hj
      obtain ⟨_, hcl, hat⟩ := World.cells?_some hc
      have hcell := hat j hj
      exact ⟨q, by rw [← Go.Deep.add_add, hcell, hq]⟩
    have hch : ∀ n, n ≤ len → ∃ N : List Nd, N.length = n ∧ ∀ i, i < n → ∀ j, j < 7 → w.cell? (a.add (i * 7 + j)) = some (ndCell N i j) := by
      intro n
      induction n with
      | zero => intro _; exact ⟨[], rfl, fun i hi => absurd hi (by omega)⟩
      | succ n ih =>
        intro hn
        obtain ⟨N, hll, hlc⟩ := ih (by omega)
        obtain ⟨q0, h0⟩ := hcell n 0 (by omega) (by omega)
        obtain ⟨q1, h1⟩ := hcell n 1 (by omega) (by omega)
        obtain ⟨q2, h2⟩ := hcell n 2 (by omega) (by omega)
        obtain ⟨q3, h3⟩ := hcell n 3 (by omega) (by omega)
        obtain ⟨q4, h4⟩ := hcell n 4 (by omega) (by omega)
        obtain ⟨q5, h5⟩ := hcell n 5 (by omega) (by omega)
        obtain ⟨q6, h6⟩ := hcell n 6 (by omega) (by omega)
        refine ⟨N ++ [⟨q0, q1, q2, q3, q4, q5, q6⟩], by simp [hll], fun i hi j hj => ?_⟩
        rcases Nat.lt_or_ge i n with hin | hin
        · rw [hlc i hin j hj]
          unfold ndCell nd
          rw [List.getD_eq_getElem?_getD, List.getD_eq_getElem?_getD, List.getElem?_append_left (by omega)]
        · obtain rfl : i = n := by omega
          have e : nd (N ++ [(⟨q0, q1, q2, q3, q4, q5, q6⟩ : Nd)]) i = ⟨q0, q1, q2, q3, q4, q5, q6⟩ := by
            unfold nd
            rw [List.getD_eq_getElem?_getD, ← hll, List.getElem?_append_right (Nat.le_refl _)]
            simp
          unfold ndCell
          rw [e]
          rcases (by omega : j = 0 ∨ j = 1 ∨ j = 2 ∨ j = 3 ∨ j = 4 ∨ j = 5 ∨ j = 6) with rfl | rfl | rfl | rfl | rfl | rfl | rfl
          · exact h0
          · exact h1
          · exact h2
          · exact h3
          · exact h4
          · exact h5
          · exact h6
    obtain ⟨N, hll, hlc⟩ := hch len (Nat.le_refl _)
    refine ⟨N, some a, cap, by rw [hll], by omega, by unfold maxLen at hm; exact hm, fun hn => ?_⟩
    obtain ⟨b, off, e1, e2, e3, hlt⟩ := add_form (hlc 0 (by omega) 0 (by omega))
    have ea : a = ⟨b, off, none⟩ := by simpa [Addr.add] using e1
    subst ea
    refine ⟨b, off, rfl, hlt, fun i j hi hj => ?_⟩
    have := hlc i (by omega) j hj
    have ead : ∀ k, (⟨b, off, none⟩ : Addr).add k = ⟨b, off + k, none⟩ := by
      intro k; unfold Addr.add; split
      · rename_i h0; rw [h0]; rfl
      · rfl
    rw [ead] at this
    simpa [Nat.add_assoc] using this
set_option maxRecDepth 100000 in
theorem open_tree {r : Reach} {b0 : Nat} {v : Value} {d : DataW H} {p : List MemPlace} (hv : Value.okWide Try.prog w r b0 24 v) (h : DataW.Trod enc Try.prog w base spare held 24 v d p) :
    ∃ (s : Value) (root : Int) (N : List Nd), v = .agg #[s, .int .i64 root] ∧ IsNodes w s N := by
  obtain ⟨c0, c1, y0, y1, m, rfl, _, _, h0, h1⟩ := open_agg2 struct_Tree one_Tree2 cells_Tree hv h
  rw [type_Tree0] at h0
  rw [type_Tree1] at h1
  obtain ⟨N, hN⟩ := open_nodes h0
  obtain ⟨b, e1, _, wb⟩ := DataW.trod_int Try.underlying3 h1
  simp only [List.cons.injEq, and_true] at e1
  subst e1
  exact ⟨c0, b, N, rfl, hN⟩
end
end Go.Proofs.Ytgdcgdjlhljbiaa
