/- Lists of numbers of any kind: an argument that is one (law 47: Hidden). -/
import Derived.Test.YtcppcfinnbeboaaGreatDjO
namespace Go.Proofs.YtcppcfinnbeboaaGreat
open Go.RowKit Go.ChangeShapes Go.WideShapes Go.Deep Go.Joins

def numCell (q : IntKind) (l : List Int) (i _j : Nat) : Value := .int q (iv l i)
def IsNums (q : IntKind) (w : World) (v : Value) (l : List Int) : Prop := RowsIn w v l.length 1 (numCell q l)
section
variable {w w' : World} {q : IntKind} {v : Value} {l : List Int} {A : Option Addr} {b off c : Nat}
theorem IsNums.below (h : IsNums q w v l) (hb : Below w.heap.size w w') : IsNums q w' v l := RowsIn.below h hb
theorem IsNums.form (h : IsNums q w v l) : ∃ A c, v = .slice A l.length c ∧ l.length ≤ c ∧ c ≤ 9223372036854775807 := RowsIn.form h
theorem IsNums.addr (h : IsNums q w (.slice A l.length c) l) (hn : 0 < l.length) : ∃ b off, A = some ⟨b, off, none⟩ ∧ b < w.heap.size := RowsIn.addr h hn
theorem IsNums.c0 (h : IsNums q w (.slice (some ⟨b, off, none⟩) l.length c) l) (i : Nat) (hi : i < l.length) : w.cell? ⟨b, off + i, none⟩ = some (.int q (iv l i)) := by
  have := RowsIn.cells h i 0 hi (by omega)
  simpa [numCell] using this
end
section
variable {H : Type} {enc : TypeId × Value → H} {w : World} {base : Nat} {spare : Nat → Bool} {held : Bool}
set_option maxRecDepth 100000 in
theorem open_nums {t et : TypeId} {q : IntKind} (ht : Tryz.prog.underlying t = some (.slice et)) (he : Tryz.prog.underlying et = some (.int q)) (hce : Tryz.prog.cellsOf et = 1) {r : Reach} {b0 : Nat} {v : Value} {d : DataW H} {p : List MemPlace} (hv : Value.okWide Tryz.prog w r b0 t v) (h : DataW.Trod enc Tryz.prog w base spare held t v d p) : ∃ l : List Int, IsNums q w v l ∧ ∀ x ∈ l, (Lit.int q x).wf = true := by
  obtain ⟨a0, len, cap, rfl⟩ := okWide_slice ht hv
  obtain ⟨fuel, hf⟩ := h
  rcases open_slice ht hf with ⟨h0, _⟩ | ⟨a, len', cap', m, n, D, Pl, hcs, hb, hl, hm, hmm, _, hi⟩
  · simp only [Value.cells, List.cons.injEq, and_true] at h0
    injection h0 with e1 e2 e3
    subst e1 e2 e3
    exact ⟨[], RowsIn.nil, fun x hx => absurd hx (by simp)⟩
  · simp only [Value.cells, List.cons.injEq, and_true] at hcs
    injection hcs with e1 e2 e3
    subst e1 e2 e3
    have hlm : len ≤ m := by rw [hmm]; split <;> omega
    have hrow : ∀ i, i < len → ∃ x : Int, w.cell? (a.add (i * 1)) = some (.int q x) ∧ (Lit.int q x).wf = true := by
      intro i hil
      obtain ⟨cs', hc, ht'⟩ := hi i (by omega)
      rw [hce] at hc
      obtain ⟨x, e1, _, hw⟩ := DataW.trod_int he ht'
      obtain ⟨_, hcl, hat⟩ := World.cells?_some hc
      have h0 := hat 0 (by omega)
      rw [Go.Deep.add_add, Nat.add_zero] at h0
      exact ⟨x, by rw [h0, e1]; rfl, hw⟩
    have hch : ∀ n, n ≤ len → ∃ l : List Int, l.length = n ∧ (∀ x ∈ l, (Lit.int q x).wf = true) ∧ ∀ i, i < n → w.cell? (a.add (i * 1)) = some (.int q (iv l i)) := by
      intro n
      induction n with
      | zero => intro _; exact ⟨[], rfl, fun x hx => absurd hx (by simp), fun i hi => absurd hi (by omega)⟩
      | succ n ih =>
        intro hn
        obtain ⟨l, hll, hlw, hlc⟩ := ih (by omega)
        obtain ⟨x, hq, hqw⟩ := hrow n (by omega)
        refine ⟨l ++ [x], by simp [hll], fun y hy => ?_, fun i hi => ?_⟩
        · rcases List.mem_append.1 hy with h1 | h1
          · exact hlw y h1
          · rw [List.mem_singleton.1 h1]; exact hqw
        rcases Nat.lt_or_ge i n with hin | hin
        · rw [hlc i hin]
          unfold iv
          rw [List.getD_eq_getElem?_getD, List.getD_eq_getElem?_getD, List.getElem?_append_left (by omega)]
        · obtain rfl : i = n := by omega
          have e : iv (l ++ [x]) i = x := by
            unfold iv
            rw [List.getD_eq_getElem?_getD, ← hll, List.getElem?_append_right (Nat.le_refl _)]
            simp
          rw [e]
          exact hq
    obtain ⟨l, hll, hlw, hlc⟩ := hch len (Nat.le_refl _)
    refine ⟨l, ⟨some a, cap, by rw [hll], by omega, by unfold maxLen at hm; exact hm, fun hn => ?_⟩, hlw⟩
    obtain ⟨b, off, e1, e2, e3, hlt⟩ := add_form (hlc 0 (by omega))
    have ea : a = ⟨b, off, none⟩ := by simpa [Addr.add] using e1
    subst ea
    refine ⟨b, off, rfl, hlt, fun i j hi hj => ?_⟩
    obtain rfl : j = 0 := by omega
    have := hlc i (by omega)
    have ead : ∀ k, (⟨b, off, none⟩ : Addr).add k = ⟨b, off + k, none⟩ := by
      intro k; unfold Addr.add; split
      · rename_i h0; rw [h0]; rfl
      · rfl
    rw [ead] at this
    simpa [numCell] using this
theorem nums_big {t et : TypeId} {q : IntKind} {nb : Nat} (ht : Tryz.prog.underlying t = some (.slice et)) (hnb : Tryz.prog.bytesOf et = nb) {v : Value} {d : DataW H} {p : List MemPlace} {l : List Int} (hl : IsNums q w v l) (h : DataW.Trod enc Tryz.prog w base spare held t v d p) (j : Nat) (ts : List TypeId) (ds : List (DataW H)) (hts : ts[j]? = some t) (hds : ds[j]? = some d)
    (hall : (DataW.weightsEach Tryz.prog ts ds).all (· ≤ reachBytes) = true) : l.length * nb ≤ 140737488351232 := by
  obtain ⟨A0, c0, rfl, _, _⟩ := hl.form
  obtain ⟨fuel, hf⟩ := h
  rcases open_slice ht hf with ⟨e0, _⟩ | ⟨a, len, cap, m', n, D, Pl, hcs, hb, hlc, hm, hmm, hx, hi⟩
  · simp only [Value.cells, List.cons.injEq, and_true] at e0
    injection e0 with _ e3 _
    rw [e3]
    omega
  · simp only [Value.cells, List.cons.injEq, and_true] at hcs
    injection hcs with _ e3 _
    rw [e3]
    have hw : (len + (m' - len)) * Tryz.prog.bytesOf et ∈ DataW.weights Tryz.prog t d := by
      injection hx with hx _
      rw [hx]
      simp only [DataW.weights, ht]
      simp
    have h2 := List.all_eq_true.1 hall _ (DataW.weights_mem_each hts hds _ hw)
    rw [hnb] at h2
    have h3 : (len + (m' - len)) * nb ≤ reachBytes := by simpa using h2
    have h4 : reachBytes = 140737488351232 := by rfl
    rw [h4] at h3
    exact Nat.le_trans (Nat.mul_le_mul_right _ (Nat.le_add_right _ _)) h3
end
end Go.Proofs.YtcppcfinnbeboaaGreat
