/- Law 47: what a given list of choices reads as; a list of numbers. -/
import Derived.Test.YtcppcfinnbeboaaGreatOpen
import Derived.Test.YtcppcfinnbeboaaGreatDjC
namespace Go.Proofs.YtcppcfinnbeboaaGreat
open Go.RowKit Go.ChangeShapes Go.WideShapes Go.Deep Go.Joins

theorem cells_Choice : Tryz.prog.cellsOf 31 = 3 := by kernel_rfl
theorem under_Choice : Tryz.prog.underlying 31 = some (.struct (Tryz.prog.fieldsOf 31)) := by kernel_rfl
theorem field_ChoiceJ : ∀ j : Nat, j < 2 → ((Tryz.prog.fieldsOf 31)[j]?).map (fun f => (f.type, f.offset, Tryz.prog.cellsOf f.type)) = some (3, j, 1) := fun j h => by
  rcases (by omega : j = 0 ∨ j = 1) with rfl | rfl <;> kernel_rfl
theorem field_Choice2 : ((Tryz.prog.fieldsOf 31)[2]?).map (fun f => (f.type, f.offset, Tryz.prog.cellsOf f.type)) = some (29, 2, 1) := by kernel_rfl
section
variable {H : Type} {enc : TypeId × Value → H} {w : World} {base : Nat} {spare : Nat → Bool} {held : Bool}
theorem trod_cellI {n : Nat} {cs : List Value} {j : Nat} {y : DataW H × List MemPlace} (h : DataW.trod enc Tryz.prog w base spare held n 3 ((cs.drop j).take 1) = some y) : ∃ q : Int, cs[j]? = some (.int .i64 q) := by
  obtain ⟨q, e1, _, _⟩ := DataW.trod_int Tryz.underlying3 h
  refine ⟨q, ?_⟩
  have h2 : ((cs.drop j).take 1)[0]? = some (.int .i64 q) := by rw [e1]; rfl
  rw [List.getElem?_take_of_lt (by omega), List.getElem?_drop] at h2
  simpa using h2
set_option maxRecDepth 100000 in
theorem open_spans0 {fuel : Nat} {c : Value} {y : DataW H × List MemPlace} (hf : DataW.trod enc Tryz.prog w base spare held fuel 29 [c] = some y) : ∃ l : List Sp, IsSpans w c l := by
  rcases open_slice Tryz.underlying29 hf with ⟨h0, _⟩ | ⟨a, len, cap, m, n, D, Pl, hcs, hb, hl, hm, hmm, _, hi⟩
  · simp only [List.cons.injEq, and_true] at h0
    subst h0
    exact ⟨[], IsSpans.nil⟩
  · simp only [List.cons.injEq, and_true] at hcs
    subst hcs
    have hlm : len ≤ m := by rw [hmm]; split <;> omega
    have hcell : ∀ i j, i < len → j < 2 → ∃ q : Int, w.cell? (a.add (i * 2 + j)) = some (.int .i64 q) ∧ -9223372036854775808 ≤ q ∧ q ≤ 9223372036854775807 := by
      intro i j hil hj
      obtain ⟨cs', hc, ht'⟩ := hi i (by omega)
      rw [cells_Span] at hc
      obtain ⟨ys, n', hn', hy, hlen, hyl, hg⟩ := DataW.trod_struct under_Span ht'
      obtain ⟨_, hcl, hat⟩ := World.cells?_some hc
      obtain ⟨f, hfj, hft⟩ := Option.map_eq_some_iff.1 (fields_Span j hj)
      obtain ⟨ho, hk⟩ := hone_of one_Span j f hfj
      have hcell := hat j hj
      have hv : cs'[j]? = some (cs'[j]'(by omega)) := List.getElem?_eq_getElem (by omega)
      have h1 := hg j f hfj
      rw [ho, hk] at h1
      have hone' : (cs'.drop j).take 1 = [cs'[j]'(by omega)] := by
        rw [List.drop_eq_getElem_cons (by omega)]
        rfl
      rw [hone', hft] at h1
      have hyl2 : ys.length = 2 := hyl.trans size_Span
      have hys : ys[j]? = some (ys[j]'(by omega)) := List.getElem?_eq_getElem (by omega)
      obtain ⟨q, e1, e2, e3⟩ := DataW.trod_int Tryz.underlying3 (h1.trans hys)
      simp only [List.cons.injEq, and_true] at e1
      refine ⟨q, ?_, ?_⟩
      · rw [← Go.Deep.add_add, hcell, hv, e1]
      · simp [Lit.wf, IntKind.min, IntKind.max, IntKind.signed, IntKind.bits] at e3
        omega
    have hch : ∀ n, n ≤ len → ∃ l : List Sp, l.length = n ∧ ∀ i, i < n → (w.cell? (a.add (i * 2 + 0)) = some (.int .i64 (fr l i)) ∧ w.cell? (a.add (i * 2 + 1)) = some (.int .i64 (tt l i))) ∧
        (-9223372036854775808 ≤ fr l i ∧ fr l i ≤ 9223372036854775807 ∧ -9223372036854775808 ≤ tt l i ∧ tt l i ≤ 9223372036854775807) := by
      intro n
      induction n with
      | zero => intro _; exact ⟨[], rfl, fun i hi => absurd hi (by omega)⟩
      | succ n ih =>
        intro hn
        obtain ⟨l, hll, hlc⟩ := ih (by omega)
        obtain ⟨p, hp, hpb⟩ := hcell n 0 (by omega) (by omega)
        obtain ⟨q, hq, hqb⟩ := hcell n 1 (by omega) (by omega)
        refine ⟨l ++ [(p, q)], by simp [hll], fun i hi => ?_⟩
        rcases Nat.lt_or_ge i n with h1 | h1
        · have := hlc i h1
          have e1 : fr (l ++ [(p, q)]) i = fr l i := by simp [fr, List.getElem?_append_left (show i < l.length by omega)]
          have e2 : tt (l ++ [(p, q)]) i = tt l i := by simp [tt, List.getElem?_append_left (show i < l.length by omega)]
          rw [e1, e2]; exact this
        · obtain rfl : i = n := by omega
          have e1 : fr (l ++ [(p, q)]) i = p := by simp [fr, ← hll]
          have e2 : tt (l ++ [(p, q)]) i = q := by simp [tt, ← hll]
          rw [e1, e2]; exact ⟨⟨hp, hq⟩, hpb.1, hpb.2, hqb.1, hqb.2⟩
    obtain ⟨l, hll, hlc⟩ := hch len (Nat.le_refl _)
    refine ⟨l, ⟨some a, cap, by rw [hll], by omega, by unfold maxLen at hm; exact hm, fun hn => ?_⟩⟩
    obtain ⟨b, off, e1, e2, e3, hlt⟩ := add_form (hlc 0 (by omega)).1.1
    have ea : a = ⟨b, off, none⟩ := by simpa [Addr.add] using e1
    subst ea
    refine ⟨b, off, rfl, hlt, fun i j hi hj => ?_⟩
    have := (hlc i (by omega)).1
    have ead : ∀ k, (⟨b, off, none⟩ : Addr).add k = ⟨b, off + k, none⟩ := by
      intro k; unfold Addr.add; split
      · rename_i h0; rw [h0]; rfl
      · rfl
    rw [ead, ead] at this
    rcases (by omega : j = 0 ∨ j = 1) with rfl | rfl
    · have h1 := this.1; simpa [spanCell, Nat.add_assoc] using h1
    · have h1 := this.2; simpa [spanCell, Nat.add_assoc] using h1
theorem trod_Choice {n : Nat} {cs : List Value} {y : DataW H × List MemPlace} (h : DataW.trod enc Tryz.prog w base spare held n 31 cs = some y) : (∀ j, j < 2 → ∃ q : Int, cs[j]? = some (.int .i64 q)) ∧ ∃ (u : Value) (l : List Sp), cs[2]? = some u ∧ IsSpans w u l := by
  obtain ⟨ys, n', _, _, hcl, hyl, hg⟩ := DataW.trod_struct under_Choice h
  have hyl2 : ys.length = 3 := hyl.trans (by kernel_rfl)
  have hcl2 : cs.length = 3 := hcl.trans (by kernel_rfl)
  refine ⟨fun j hj => ?_, ?_⟩
  · obtain ⟨f, hf, he⟩ := Option.map_eq_some_iff.1 (field_ChoiceJ j hj)
    simp only [Prod.mk.injEq] at he
    have h1 := hg j f hf
    rw [he.1, he.2.1, show Tryz.prog.cellsOf 3 = 1 from by kernel_rfl] at h1
    exact trod_cellI (h1.trans (List.getElem?_eq_getElem (by omega)))
  · obtain ⟨f, hf, he⟩ := Option.map_eq_some_iff.1 field_Choice2
    simp only [Prod.mk.injEq] at he
    have h1 := hg 2 f hf
    rw [he.1, he.2.1, show Tryz.prog.cellsOf 29 = 1 from by kernel_rfl] at h1
    have h2 : (cs.drop 2).take 1 = [cs[2]'(by omega)] := by
      rw [List.drop_eq_getElem_cons (by omega)]
      rfl
    rw [h2] at h1
    obtain ⟨l, hl⟩ := open_spans0 (h1.trans (List.getElem?_eq_getElem (by omega)))
    exact ⟨_, l, List.getElem?_eq_getElem (by omega), hl⟩
set_option maxRecDepth 100000 in
theorem open_chos {r : Reach} {b0 : Nat} {v : Value} {d : DataW H} {p : List MemPlace} (hv : Value.okWide Tryz.prog w r b0 22 v) (h : DataW.Trod enc Tryz.prog w base spare held 22 v d p) : ∃ L : List Cho, IsChos w v L := by
  obtain ⟨a0, len, cap, rfl⟩ := okWide_slice Tryz.underlying22 hv
  obtain ⟨fuel, hf⟩ := h
  rcases open_slice Tryz.underlying22 hf with ⟨h0, _⟩ | ⟨a, len', cap', m, n, D, Pl, hcs, hb, hl, hm, hmm, _, hi⟩
  · simp only [Value.cells, List.cons.injEq, and_true] at h0
    injection h0 with e1 e2 e3
    subst e1 e2 e3
    exact ⟨[], IsChos.nil⟩
  · simp only [Value.cells, List.cons.injEq, and_true] at hcs
    injection hcs with e1 e2 e3
    subst e1 e2 e3
    have hlm : len ≤ m := by rw [hmm]; split <;> omega
    have hrow : ∀ i, i < len → ∃ (x : Cho) (u : Value), w.cell? (a.add (i * 3 + 0)) = some (.int .i64 x.1) ∧ w.cell? (a.add (i * 3 + 1)) = some (.int .i64 x.2.1) ∧ w.cell? (a.add (i * 3 + 2)) = some u ∧ IsSpans w u x.2.2 := by
      intro i hil
      obtain ⟨cs', hc, ht'⟩ := hi i (by omega)
      rw [cells_Choice] at hc
      obtain ⟨h1, u, l, h2, h3⟩ := trod_Choice ht'
      obtain ⟨q0, hq0⟩ := h1 0 (by omega)
      obtain ⟨q1, hq1⟩ := h1 1 (by omega)
      obtain ⟨_, hcl, hat⟩ := World.cells?_some hc
      exact ⟨(q0, q1, l), u, by rw [← Go.Deep.add_add, hat 0 (by omega), hq0], by rw [← Go.Deep.add_add, hat 1 (by omega), hq1], by rw [← Go.Deep.add_add, hat 2 (by omega), h2], h3⟩
    have hch : ∀ n, n ≤ len → ∃ (L : List Cho) (S : Nat → Value), L.length = n ∧ ∀ i, i < n → (∀ j, j < 3 → w.cell? (a.add (i * 3 + j)) = some (choCell L S i j)) ∧ IsSpans w (S i) (cho L i).2.2 := by
      intro n
      induction n with
      | zero => intro _; exact ⟨[], fun _ => undef, rfl, fun i hi => absurd hi (by omega)⟩
      | succ n ih =>
        intro hn
        obtain ⟨L, S, hll, hlc⟩ := ih (by omega)
        obtain ⟨x, u, h0, h1, h2, h3⟩ := hrow n (by omega)
        refine ⟨L ++ [x], fun i => if i = n then u else S i, by simp [hll], fun i hi => ?_⟩
        rcases Nat.lt_or_ge i n with hin | hin
        · have e : cho (L ++ [x]) i = cho L i := by unfold cho; rw [List.getD_eq_getElem?_getD, List.getD_eq_getElem?_getD, List.getElem?_append_left (by omega)]
          have ne : i ≠ n := by omega
          refine ⟨fun j hj => ?_, ?_⟩
          · rw [(hlc i hin).1 j hj]
            unfold choCell
            simp only [e, ne, if_false]
          · rw [e]
            simp only [ne, if_false]
            exact (hlc i hin).2
        · obtain rfl : i = n := by omega
          have e : cho (L ++ [x]) i = x := by
            unfold cho
            rw [List.getD_eq_getElem?_getD, ← hll, List.getElem?_append_right (Nat.le_refl _)]
            simp
          refine ⟨fun j hj => ?_, ?_⟩
          · unfold choCell
            rw [e]
            rcases (by omega : j = 0 ∨ j = 1 ∨ j = 2) with rfl | rfl | rfl
            · simpa using h0
            · simpa using h1
            · simpa using h2
          · rw [e]
            simpa using h3
    obtain ⟨L, S, hll, hlc⟩ := hch len (Nat.le_refl _)
    refine ⟨L, S, ⟨some a, cap, by rw [hll], by omega, by unfold maxLen at hm; exact hm, fun hn => ?_⟩, fun i hi => (hlc i (by omega)).2⟩
    obtain ⟨b, off, e1, e2, e3, hlt⟩ := add_form ((hlc 0 (by omega)).1 0 (by omega))
    have ea : a = ⟨b, off, none⟩ := by simpa [Addr.add] using e1
    subst ea
    refine ⟨b, off, rfl, hlt, fun i j hi hj => ?_⟩
    have := (hlc i (by omega)).1 j hj
    have ead : ∀ k, (⟨b, off, none⟩ : Addr).add k = ⟨b, off + k, none⟩ := by
      intro k; unfold Addr.add; split
      · rename_i h0; rw [h0]; rfl
      · rfl
    rw [ead] at this
    simpa [Nat.add_assoc] using this
theorem cells_int47 : Tryz.prog.cellsOf 3 = 1 := by kernel_rfl
set_option maxRecDepth 100000 in
theorem open_ints {r : Reach} {b0 : Nat} {v : Value} {d : DataW H} {p : List MemPlace} (hv : Value.okWide Tryz.prog w r b0 25 v) (h : DataW.Trod enc Tryz.prog w base spare held 25 v d p) : ∃ l : List Int, IsInts w v l := by
  obtain ⟨a0, len, cap, rfl⟩ := okWide_slice Tryz.underlying25 hv
  obtain ⟨fuel, hf⟩ := h
  rcases open_slice Tryz.underlying25 hf with ⟨h0, _⟩ | ⟨a, len', cap', m, n, D, Pl, hcs, hb, hl, hm, hmm, _, hi⟩
  · simp only [Value.cells, List.cons.injEq, and_true] at h0
    injection h0 with e1 e2 e3
    subst e1 e2 e3
    exact ⟨[], IsInts.nil⟩
  · simp only [Value.cells, List.cons.injEq, and_true] at hcs
    injection hcs with e1 e2 e3
    subst e1 e2 e3
    have hlm : len ≤ m := by rw [hmm]; split <;> omega
    have hrow : ∀ i, i < len → ∃ q : Int, w.cell? (a.add (i * 1)) = some (.int .i64 q) := by
      intro i hil
      obtain ⟨cs', hc, ht'⟩ := hi i (by omega)
      rw [cells_int47] at hc
      obtain ⟨q, e1, _, _⟩ := DataW.trod_int Tryz.underlying3 ht'
      obtain ⟨_, hcl, hat⟩ := World.cells?_some hc
      have h0 := hat 0 (by omega)
      rw [Go.Deep.add_add, Nat.add_zero] at h0
      exact ⟨q, by rw [h0, e1]; rfl⟩
    have hch : ∀ n, n ≤ len → ∃ l : List Int, l.length = n ∧ ∀ i, i < n → w.cell? (a.add (i * 1)) = some (.int .i64 (iv l i)) := by
      intro n
      induction n with
      | zero => intro _; exact ⟨[], rfl, fun i hi => absurd hi (by omega)⟩
      | succ n ih =>
        intro hn
        obtain ⟨l, hll, hlc⟩ := ih (by omega)
        obtain ⟨q, hq⟩ := hrow n (by omega)
        refine ⟨l ++ [q], by simp [hll], fun i hi => ?_⟩
        rcases Nat.lt_or_ge i n with hin | hin
        · rw [hlc i hin]
          unfold iv
          rw [List.getD_eq_getElem?_getD, List.getD_eq_getElem?_getD, List.getElem?_append_left (by omega)]
        · obtain rfl : i = n := by omega
          have e : iv (l ++ [q]) i = q := by
            unfold iv
            rw [List.getD_eq_getElem?_getD, ← hll, List.getElem?_append_right (Nat.le_refl _)]
            simp
          rw [e]
          exact hq
    obtain ⟨l, hll, hlc⟩ := hch len (Nat.le_refl _)
    refine ⟨l, some a, cap, by rw [hll], by omega, by unfold maxLen at hm; exact hm, fun hn => ?_⟩
    obtain ⟨b, off, e1, e2, e3, hlt⟩ := add_form (hlc 0 (by omega))
    have ea : a = ⟨b, off, none⟩ := by simpa [Addr.add] using e1
    subst ea
    refine ⟨b, off, rfl, hlt, fun i j hi hj => ?_⟩
    obtain rfl : j = 0 := by omega
    have := hlc i (by omega)
    have ead : ∀ k, (⟨b, off, none⟩ : Addr).add k = ⟨b, off + k, none⟩ := by
      intro k; unfold Addr.add; split
      · rename_i h0; rw [h0]; rfl
      · rfl
    rw [ead] at this
    simpa [intCell] using this
end
end Go.Proofs.YtcppcfinnbeboaaGreat
