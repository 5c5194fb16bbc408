/- Law 39: what a given list of numbers reads as. -/
import Derived.Test.YtohjgegnamcnlaaGreatAhk
namespace Go.Proofs.YtohjgegnamcnlaaGreat
open Go.RowKit Go.ChangeShapes Go.WideShapes Go.Deep Go.Joins

section
variable {H : Type} {enc : TypeId × Value → H} {w : World} {base : Nat} {spare : Nat → Bool} {held : Bool}
theorem cells_int39 : Tryz.prog.cellsOf 3 = 1 := by kernel_rfl
set_option maxRecDepth 100000 in
theorem open_ints39 {r : Reach} {b0 : Nat} {v : Value} {d : DataW H} {p : List MemPlace} (hv : Value.okWide Tryz.prog w r b0 23 v) (h : DataW.Trod enc Tryz.prog w base spare held 23 v d p) : ∃ l : List Int, IsInts w v l := by
  obtain ⟨a0, len, cap, rfl⟩ := okWide_slice Tryz.underlying23 hv
  obtain ⟨fuel, hf⟩ := h
  rcases open_slice Tryz.underlying23 hf with ⟨h0, _⟩ | ⟨a, len', cap', m, n, D, Pl, hcs, hb, hl, hm, hmm, _, hi⟩
  · simp only [Value.cells, List.cons.injEq, and_true] at h0
    injection h0 with e1 e2 e3
    subst e1 e2 e3
    exact ⟨[], IsInts.nil⟩
  · simp only [Value.cells, List.cons.injEq, and_true] at hcs
    injection hcs with e1 e2 e3
    subst e1 e2 e3
    have hlm : len ≤ m := by rw [hmm]; split <;> omega
    have hrow : ∀ i, i < len → ∃ q : Int, w.cell? (a.add (i * 1)) = some (.int .i64 q) := by
      intro i hil
      obtain ⟨cs', hc, ht'⟩ := hi i (by omega)
      rw [cells_int39] at hc
      obtain ⟨q, e1, _, _⟩ := DataW.trod_int Tryz.underlying3 ht'
      obtain ⟨_, hcl, hat⟩ := World.cells?_some hc
      have h0 := hat 0 (by omega)
      rw [Go.Deep.add_add, Nat.add_zero] at h0
      exact ⟨q, by rw [h0, e1]; rfl⟩
    have hch : ∀ n, n ≤ len → ∃ l : List Int, l.length = n ∧ ∀ i, i < n → w.cell? (a.add (i * 1)) = some (.int .i64 (iv l i)) := by
      intro n
      induction n with
      | zero => intro _; exact ⟨[], rfl, fun i hi => absurd hi (by omega)⟩
      | succ n ih =>
        intro hn
        obtain ⟨l, hll, hlc⟩ := ih (by omega)
        obtain ⟨q, hq⟩ := hrow n (by omega)
        refine ⟨l ++ [q], by simp [hll], fun i hi => ?_⟩
        rcases Nat.lt_or_ge i n with hin | hin
        · rw [hlc i hin]
          unfold iv
          rw [List.getD_eq_getElem?_getD, List.getD_eq_getElem?_getD, List.getElem?_append_left (by omega)]
        · obtain rfl : i = n := by omega
          have e : iv (l ++ [q]) i = q := by
            unfold iv
            rw [List.getD_eq_getElem?_getD, ← hll, List.getElem?_append_right (Nat.le_refl _)]
            simp
          rw [e]
          exact hq
    obtain ⟨l, hll, hlc⟩ := hch len (Nat.le_refl _)
    refine ⟨l, some a, cap, by rw [hll], by omega, by unfold maxLen at hm; exact hm, fun hn => ?_⟩
    obtain ⟨b, off, e1, e2, e3, hlt⟩ := add_form (hlc 0 (by omega))
    have ea : a = ⟨b, off, none⟩ := by simpa [Addr.add] using e1
    subst ea
    refine ⟨b, off, rfl, hlt, fun i j hi hj => ?_⟩
    obtain rfl : j = 0 := by omega
    have := hlc i (by omega)
    have ead : ∀ k, (⟨b, off, none⟩ : Addr).add k = ⟨b, off + k, none⟩ := by
      intro k; unfold Addr.add; split
      · rename_i h0; rw [h0]; rfl
      · rfl
    rw [ead] at this
    simpa [intCell] using this
end
end Go.Proofs.YtohjgegnamcnlaaGreat
