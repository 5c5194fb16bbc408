/- Law 39: what a given list of facts reads as. -/
import Derived.Test.YtohjgegnamcnlaaGreatOpen
import Derived.Test.YtohjgegnamcnlaaGreatAhb
namespace Go.Proofs.YtohjgegnamcnlaaGreat
open Go.RowKit Go.ChangeShapes Go.WideShapes Go.Deep Go.Joins

theorem cells_Value : Tryz.prog.cellsOf 51 = 3 := by kernel_rfl
theorem under_Value : Tryz.prog.underlying 51 = some (.struct (Tryz.prog.fieldsOf 51)) := by kernel_rfl
theorem field_ValueJ : ∀ j : Nat, j < 2 → ((Tryz.prog.fieldsOf 51)[j]?).map (fun f => (f.type, f.offset, Tryz.prog.cellsOf f.type)) = some (3, j, 1) := fun j h => by
  rcases (by omega : j = 0 ∨ j = 1) with rfl | rfl <;> kernel_rfl
theorem field_Value2 : ((Tryz.prog.fieldsOf 51)[2]?).map (fun f => (f.type, f.offset, Tryz.prog.cellsOf f.type)) = some (9, 2, 1) := by kernel_rfl
theorem cells_Fact39 : Tryz.prog.cellsOf 49 = 3 := by kernel_rfl
theorem under_Fact39 : Tryz.prog.underlying 49 = some (.struct (Tryz.prog.fieldsOf 49)) := by kernel_rfl
theorem field_Fact0 : ((Tryz.prog.fieldsOf 49)[0]?).map (fun f => (f.type, f.offset, Tryz.prog.cellsOf f.type)) = some (47, 0, 1) := by kernel_rfl
theorem field_Fact1 : ((Tryz.prog.fieldsOf 49)[1]?).map (fun f => (f.type, f.offset, Tryz.prog.cellsOf f.type)) = some (34, 1, 2) := by kernel_rfl
theorem under_Span39 : Tryz.prog.underlying 34 = some (.struct (Tryz.prog.fieldsOf 34)) := by kernel_rfl
theorem field_SpanJ39 : ∀ j : Nat, j < 2 → ((Tryz.prog.fieldsOf 34)[j]?).map (fun f => (f.type, f.offset, Tryz.prog.cellsOf f.type)) = some (3, j, 1) := fun j h => by
  rcases (by omega : j = 0 ∨ j = 1) with rfl | rfl <;> kernel_rfl
section
variable {H : Type} {enc : TypeId × Value → H} {w : World} {base : Nat} {spare : Nat → Bool} {held : Bool}
theorem trod_cell39 {n : Nat} {cs : List Value} {j : Nat} {y : DataW H × List MemPlace} (h : DataW.trod enc Tryz.prog w base spare held n 3 ((cs.drop j).take 1) = some y) : ∃ q : Int, cs[j]? = some (.int .i64 q) ∧ -9223372036854775808 ≤ q ∧ q ≤ 9223372036854775807 := by
  obtain ⟨q, e1, _, e3⟩ := DataW.trod_int Tryz.underlying3 h
  refine ⟨q, ?_, ?_⟩
  · have h2 : ((cs.drop j).take 1)[0]? = some (.int .i64 q) := by rw [e1]; rfl
    rw [List.getElem?_take_of_lt (by omega), List.getElem?_drop] at h2
    simpa using h2
  · simp [Lit.wf, IntKind.min, IntKind.max, IntKind.signed, IntKind.bits] at e3
    omega
theorem trod_Value {n : Nat} {cs : List Value} {y : DataW H × List MemPlace} (h : DataW.trod enc Tryz.prog w base spare held n 51 cs = some y) : ∃ x : Val, cs[0]? = some (.int .i64 x.1) ∧ cs[1]? = some (.int .i64 x.2.1) ∧ cs[2]? = some (.string x.2.2) ∧ I64 x := by
  obtain ⟨ys, n', _, _, hcl, hyl, hg⟩ := DataW.trod_struct under_Value h
  have hyl2 : ys.length = 3 := hyl.trans (by kernel_rfl)
  have hcl2 : cs.length = 3 := hcl.trans (by kernel_rfl)
  have hint : ∀ j, j < 2 → ∃ q : Int, cs[j]? = some (.int .i64 q) ∧ -9223372036854775808 ≤ q ∧ q ≤ 9223372036854775807 := fun j hj => by
    obtain ⟨f, hf, he⟩ := Option.map_eq_some_iff.1 (field_ValueJ j hj)
    simp only [Prod.mk.injEq] at he
    have h1 := hg j f hf
    rw [he.1, he.2.1, show Tryz.prog.cellsOf 3 = 1 from by kernel_rfl] at h1
    exact trod_cell39 (h1.trans (List.getElem?_eq_getElem (by omega)))
  obtain ⟨k, hk, _⟩ := hint 0 (by omega)
  obtain ⟨m, hm, hmr⟩ := hint 1 (by omega)
  obtain ⟨f, hf, he⟩ := Option.map_eq_some_iff.1 field_Value2
  simp only [Prod.mk.injEq] at he
  have h1 := hg 2 f hf
  rw [he.1, he.2.1, show Tryz.prog.cellsOf 9 = 1 from by kernel_rfl] at h1
  obtain ⟨s, e1, _, _⟩ := DataW.trod_string Tryz.underlying9 (h1.trans (List.getElem?_eq_getElem (by omega)))
  have h2 : ((cs.drop 2).take 1)[0]? = some (.string s) := by rw [e1]; rfl
  rw [List.getElem?_take_of_lt (by omega), List.getElem?_drop] at h2
  exact ⟨(k, m, s), hk, hm, by simpa using h2, hmr⟩
theorem add_lit39 (b off k : Nat) : (⟨b, off, none⟩ : Addr).add k = ⟨b, off + k, none⟩ := by
  unfold Addr.add; split
  · rename_i h0; rw [h0]; rfl
  · rfl
set_option maxRecDepth 100000 in
theorem open_vals0 {fuel : Nat} {c : Value} {y : DataW H × List MemPlace} (hf : DataW.trod enc Tryz.prog w base spare held fuel 47 [c] = some y) : ∃ r : VRow, IsVals w c r ∧ ∀ x ∈ r, I64 x := by
  rcases open_slice Tryz.underlying47 hf with ⟨h0, _⟩ | ⟨a, len, cap, m, n, D, Pl, hcs, hb, hl, hm, hmm, _, hi⟩
  · simp only [List.cons.injEq, and_true] at h0
    subst h0
    exact ⟨[], IsVals.nil, fun x hx => absurd hx (by simp)⟩
  · simp only [List.cons.injEq, and_true] at hcs
    subst hcs
    have hlm : len ≤ m := by rw [hmm]; split <;> omega
    have hrow : ∀ i, i < len → ∃ x : Val, w.cell? (a.add (i * 3 + 0)) = some (.int .i64 x.1) ∧ w.cell? (a.add (i * 3 + 1)) = some (.int .i64 x.2.1) ∧ w.cell? (a.add (i * 3 + 2)) = some (.string x.2.2) ∧ I64 x := by
      intro i hil
      obtain ⟨cs', hc, ht'⟩ := hi i (by omega)
      rw [cells_Value] at hc
      obtain ⟨x, h0, h1, h2, h3⟩ := trod_Value ht'
      obtain ⟨_, hcl, hat⟩ := World.cells?_some hc
      exact ⟨x, by rw [← Go.Deep.add_add, hat 0 (by omega), h0], by rw [← Go.Deep.add_add, hat 1 (by omega), h1], by rw [← Go.Deep.add_add, hat 2 (by omega), h2], h3⟩
    have hch : ∀ n, n ≤ len → ∃ L : VRow, L.length = n ∧ (∀ x ∈ L, I64 x) ∧ ∀ i j, i < n → j < 3 → w.cell? (a.add (i * 3 + j)) = some (valCell L i j) := by
      intro n
      induction n with
      | zero => intro _; exact ⟨[], rfl, fun x hx => absurd hx (by simp), fun i j hi => absurd hi (by omega)⟩
      | succ n ih =>
        intro hn
        obtain ⟨L, hll, hL1, hlc⟩ := ih (by omega)
        obtain ⟨x, h0, h1, h2, h3⟩ := hrow n (by omega)
        refine ⟨L ++ [x], by simp [hll], fun y hy => ?_, fun i j hi hj => ?_⟩
        · rcases List.mem_append.1 hy with e | e
          · exact hL1 y e
          · rw [List.mem_singleton] at e
            rw [e]; exact h3
        · rcases Nat.lt_or_ge i n with hin | hin
          · have e : va (L ++ [x]) i = va L i := by unfold va; rw [List.getD_eq_getElem?_getD, List.getD_eq_getElem?_getD, List.getElem?_append_left (by omega)]
            rw [hlc i j hin hj]
            unfold valCell
            rw [e]
          · obtain rfl : i = n := by omega
            have e : va (L ++ [x]) i = x := by
              unfold va
              rw [List.getD_eq_getElem?_getD, ← hll, List.getElem?_append_right (Nat.le_refl _)]
              simp
            unfold valCell
            rw [e]
            rcases (by omega : j = 0 ∨ j = 1 ∨ j = 2) with rfl | rfl | rfl
            · simpa using h0
            · simpa using h1
            · simpa using h2
    obtain ⟨L, hll, hL1, hlc⟩ := hch len (Nat.le_refl _)
    refine ⟨L, ⟨some a, cap, by rw [hll], by omega, by unfold maxLen at hm; exact hm, fun hn => ?_⟩, hL1⟩
    obtain ⟨b, off, e1, e2, e3, hlt⟩ := add_form (hlc 0 0 (by omega) (by omega))
    have ea : a = ⟨b, off, none⟩ := by simpa [Addr.add] using e1
    subst ea
    refine ⟨b, off, rfl, hlt, fun i j hi hj => ?_⟩
    have := hlc i j (by omega) hj
    rw [add_lit39] at this
    simpa [Nat.add_assoc] using this
theorem trod_Fact39 {n : Nat} {cs : List Value} {y : DataW H × List MemPlace} (h : DataW.trod enc Tryz.prog w base spare held n 49 cs = some y) : ∃ (u : Value) (f : Fct), cs[0]? = some u ∧ cs[1]? = some (.int .i64 f.2.1) ∧ cs[2]? = some (.int .i64 f.2.2) ∧ IsVals w u f.1 ∧ (∀ x ∈ f.1, I64 x) := by
  obtain ⟨ys, n', _, _, hcl, hyl, hg⟩ := DataW.trod_struct under_Fact39 h
  have hyl2 : ys.length = 2 := hyl.trans (by kernel_rfl)
  have hcl2 : cs.length = 3 := hcl.trans (by kernel_rfl)
  obtain ⟨f0, hf0, he0⟩ := Option.map_eq_some_iff.1 field_Fact0
  simp only [Prod.mk.injEq] at he0
  have h1 := hg 0 f0 hf0
  rw [he0.1, he0.2.1, show Tryz.prog.cellsOf 47 = 1 from by kernel_rfl] at h1
  have h2 : (cs.drop 0).take 1 = [cs[0]'(by omega)] := by
    rw [List.drop_eq_getElem_cons (by omega)]
    rfl
  rw [h2] at h1
  obtain ⟨r, hr1, hr2⟩ := open_vals0 (h1.trans (List.getElem?_eq_getElem (by omega)))
  obtain ⟨f1, hf1, he1⟩ := Option.map_eq_some_iff.1 field_Fact1
  simp only [Prod.mk.injEq] at he1
  have h3 := hg 1 f1 hf1
  rw [he1.1, he1.2.1, show Tryz.prog.cellsOf 34 = 2 from by kernel_rfl] at h3
  obtain ⟨zs, n2, _, _, hcl3, hyl3, hg3⟩ := DataW.trod_struct under_Span39 (h3.trans (List.getElem?_eq_getElem (by omega)))
  have hzl : zs.length = 2 := hyl3.trans (by kernel_rfl)
  have hint : ∀ j, j < 2 → ∃ q : Int, ((cs.drop 1).take 2)[j]? = some (.int .i64 q) := fun j hj => by
    obtain ⟨f, hf, he⟩ := Option.map_eq_some_iff.1 (field_SpanJ39 j hj)
    simp only [Prod.mk.injEq] at he
    have h1 := hg3 j f hf
    rw [he.1, he.2.1, show Tryz.prog.cellsOf 3 = 1 from by kernel_rfl] at h1
    obtain ⟨q, hq, _⟩ := trod_cell39 (h1.trans (List.getElem?_eq_getElem (by omega)))
    exact ⟨q, hq⟩
  obtain ⟨p, hp⟩ := hint 0 (by omega)
  obtain ⟨q, hq⟩ := hint 1 (by omega)
  rw [List.getElem?_take_of_lt (by omega), List.getElem?_drop] at hp hq
  exact ⟨_, (r, (p, q)), List.getElem?_eq_getElem (by omega), by simpa using hp, by simpa using hq, hr1, hr2⟩
set_option maxRecDepth 100000 in
theorem open_facts {r : Reach} {b0 : Nat} {v : Value} {d : DataW H} {p : List MemPlace} (hv : Value.okWide Tryz.prog w r b0 22 v) (h : DataW.Trod enc Tryz.prog w base spare held 22 v d p) : ∃ F : List Fct, IsFs w v F ∧ MachF F := by
  obtain ⟨a0, len, cap, rfl⟩ := okWide_slice Tryz.underlying22 hv
  obtain ⟨fuel, hf⟩ := h
  rcases open_slice Tryz.underlying22 hf with ⟨h0, _⟩ | ⟨a, len', cap', m, n, D, Pl, hcs, hb, hl, hm, hmm, _, hi⟩
  · simp only [Value.cells, List.cons.injEq, and_true] at h0
    injection h0 with e1 e2 e3
    subst e1 e2 e3
    exact ⟨[], IsFs.nil, fun f hf => absurd hf (by simp)⟩
  · simp only [Value.cells, List.cons.injEq, and_true] at hcs
    injection hcs with e1 e2 e3
    subst e1 e2 e3
    have hlm : len ≤ m := by rw [hmm]; split <;> omega
    have hrow : ∀ i, i < len → ∃ (u : Value) (f : Fct), w.cell? (a.add (i * 3 + 0)) = some u ∧ w.cell? (a.add (i * 3 + 1)) = some (.int .i64 f.2.1) ∧ w.cell? (a.add (i * 3 + 2)) = some (.int .i64 f.2.2) ∧ IsVals w u f.1 ∧ (∀ x ∈ f.1, I64 x) := by
      intro i hil
      obtain ⟨cs', hc, ht'⟩ := hi i (by omega)
      rw [cells_Fact39] at hc
      obtain ⟨u, f, h0, h1, h2, h3, h4⟩ := trod_Fact39 ht'
      obtain ⟨_, hcl, hat⟩ := World.cells?_some hc
      exact ⟨u, f, by rw [← Go.Deep.add_add, hat 0 (by omega), h0], by rw [← Go.Deep.add_add, hat 1 (by omega), h1], by rw [← Go.Deep.add_add, hat 2 (by omega), h2], h3, h4⟩
    have hch : ∀ n, n ≤ len → ∃ (L : List Fct) (S : Nat → Value), L.length = n ∧ MachF L ∧ ∀ i, i < n → (∀ j, j < 3 → w.cell? (a.add (i * 3 + j)) = some (fcCell L S i j)) ∧ IsVals w (S i) (fc L i).1 := by
      intro n
      induction n with
      | zero => intro _; exact ⟨[], fun _ => undef, rfl, fun f hf => absurd hf (by simp), fun i hi => absurd hi (by omega)⟩
      | succ n ih =>
        intro hn
        obtain ⟨L, S, hll, hLm, hlc⟩ := ih (by omega)
        obtain ⟨u, x, h0, h1, h2, h3, h4⟩ := hrow n (by omega)
        refine ⟨L ++ [x], fun i => if i = n then u else S i, by simp [hll], fun f hf => ?_, fun i hi => ?_⟩
        · rcases List.mem_append.1 hf with e | e
          · exact hLm f e
          · rw [List.mem_singleton] at e
            rw [e]; exact h4
        · rcases Nat.lt_or_ge i n with hin | hin
          · have e : fc (L ++ [x]) i = fc L i := by unfold fc; rw [List.getD_eq_getElem?_getD, List.getD_eq_getElem?_getD, List.getElem?_append_left (by omega)]
            have ne : i ≠ n := by omega
            refine ⟨fun j hj => ?_, ?_⟩
            · rw [(hlc i hin).1 j hj]
              unfold fcCell
              simp only [e, ne, if_false]
            · rw [e]
              simp only [ne, if_false]
              exact (hlc i hin).2
          · obtain rfl : i = n := by omega
            have e : fc (L ++ [x]) i = x := by
              unfold fc
              rw [List.getD_eq_getElem?_getD, ← hll, List.getElem?_append_right (Nat.le_refl _)]
              simp
            refine ⟨fun j hj => ?_, ?_⟩
            · unfold fcCell
              rw [e]
              rcases (by omega : j = 0 ∨ j = 1 ∨ j = 2) with rfl | rfl | rfl
              · simpa using h0
              · simpa using h1
              · simpa using h2
            · rw [e]
              simpa using h3
    obtain ⟨L, S, hll, hLm, hlc⟩ := hch len (Nat.le_refl _)
    refine ⟨L, ⟨S, ⟨some a, cap, by rw [hll], by omega, by unfold maxLen at hm; exact hm, fun hn => ?_⟩, fun i hi => (hlc i (by omega)).2⟩, hLm⟩
    obtain ⟨b, off, e1, e2, e3, hlt⟩ := add_form ((hlc 0 (by omega)).1 0 (by omega))
    have ea : a = ⟨b, off, none⟩ := by simpa [Addr.add] using e1
    subst ea
    refine ⟨b, off, rfl, hlt, fun i j hi hj => ?_⟩
    have := (hlc i (by omega)).1 j hj
    rw [add_lit39] at this
    simpa [Nat.add_assoc] using this
end
end Go.Proofs.YtohjgegnamcnlaaGreat
