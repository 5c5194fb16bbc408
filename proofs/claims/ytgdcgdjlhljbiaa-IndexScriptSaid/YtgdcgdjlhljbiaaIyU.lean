/- Law 42: lists of changes in memory; what a given list of changes reads as. -/
import Derived.Test.YtgdcgdjlhljbiaaIyJ
import Derived.Test.YtgdcgdjlhljbiaaIyE
import Derived.Test.YtgdcgdjlhljbiaaTree
namespace Go.Proofs.Ytgdcgdjlhljbiaa
open Go.RowKit Go.ChangeShapes Go.WideShapes Go.Deep Go.Joins

/-- A change: an entry, and whether it is deleted. -/
abbrev Ch := En × Bool
def ch (L : List Ch) (i : Nat) : Ch := L.getD i ((0, 0, 0), false)
theorem ch_at {L : List Ch} {i : Nat} (hi : i < L.length) : L[i] = ch L i := by simp [ch, hi]
def chCell (L : List Ch) (i j : Nat) : Value := if j = 3 then .bool (ch L i).2 else .int .i64 (if j = 0 then (ch L i).1.1 else if j = 1 then (ch L i).1.2.1 else (ch L i).1.2.2)
def IsChs (w : World) (v : Value) (L : List Ch) : Prop := RowsIn w v L.length 4 (chCell L)
def flatH (L : List Ch) : List Value := L.flatMap fun e => [.int .i64 e.1.1, .int .i64 e.1.2.1, .int .i64 e.1.2.2, .bool e.2]
def OwnsH (w : World) (base : Nat) (t : TypeId) (v : Value) (L : List Ch) : Prop := w.ownsRow base t 4 v L.length (flatH L)
theorem flatH_length (L : List Ch) : (flatH L).length = L.length * 4 := by
  unfold flatH
  induction L with
  | nil => rfl
  | cons s L ih => simp only [List.flatMap_cons, List.length_append, ih, List.length_cons, List.length_nil]; omega
theorem flatH_append (L M : List Ch) : flatH (L ++ M) = flatH L ++ flatH M := by simp [flatH]
theorem flatH_one (L : List Ch) : ∀ u ∈ flatH L, u.oneCell' = true := by
  intro u hu
  unfold flatH at hu
  obtain ⟨e, _, he⟩ := List.mem_flatMap.1 hu
  simp only [List.mem_cons, List.not_mem_nil, or_false] at he
  rcases he with rfl | rfl | rfl | rfl <;> rfl
theorem flatH_get (L : List Ch) : ∀ i j, i < L.length → j < 4 → (flatH L)[i * 4 + j]? = some (chCell L i j) := by
  induction L with
  | nil => intro i j hi; simp at hi
  | cons s L ih =>
    intro i j hi hj
    have e : flatH (s :: L) = .int .i64 s.1.1 :: .int .i64 s.1.2.1 :: .int .i64 s.1.2.2 :: .bool s.2 :: flatH L := by simp [flatH]
    rw [e]
    cases i with
    | zero => rcases (by omega : j = 0 ∨ j = 1 ∨ j = 2 ∨ j = 3) with rfl | rfl | rfl | rfl <;> simp [chCell, ch]
    | succ i =>
      have := ih i j (by simpa using hi) hj
      rw [show (i + 1) * 4 + j = (i * 4 + j) + 1 + 1 + 1 + 1 from by omega]
      simp only [List.getElem?_cons_succ]
      rw [this]
      simp [chCell, ch]
section
variable {w w' : World} {v : Value} {base : Nat} {t : TypeId} {L M : List Ch} {b off c : Nat} {A : Option Addr}
theorem IsChs.below (h : IsChs w v L) (hb : Below w.heap.size w w') : IsChs w' v L := RowsIn.below h hb
theorem IsChs.form (h : IsChs w v L) : ∃ A c, v = .slice A L.length c ∧ L.length ≤ c ∧ c ≤ 9223372036854775807 := RowsIn.form h
theorem IsChs.addr (h : IsChs w (.slice A L.length c) L) (hn : 0 < L.length) : ∃ b off, A = some ⟨b, off, none⟩ ∧ b < w.heap.size := RowsIn.addr h hn
theorem IsChs.c0 (h : IsChs w (.slice (some ⟨b, off, none⟩) L.length c) L) (i : Nat) (hi : i < L.length) : w.cell? ⟨b, off + i * 4, none⟩ = some (.int .i64 (ch L i).1.1) := RowsIn.cells h i 0 hi (by omega)
theorem IsChs.c1 (h : IsChs w (.slice (some ⟨b, off, none⟩) L.length c) L) (i : Nat) (hi : i < L.length) : w.cell? ⟨b, off + i * 4 + 1, none⟩ = some (.int .i64 (ch L i).1.2.1) := RowsIn.cells h i 1 hi (by omega)
theorem IsChs.c2 (h : IsChs w (.slice (some ⟨b, off, none⟩) L.length c) L) (i : Nat) (hi : i < L.length) : w.cell? ⟨b, off + i * 4 + 2, none⟩ = some (.int .i64 (ch L i).1.2.2) := RowsIn.cells h i 2 hi (by omega)
theorem IsChs.c3 (h : IsChs w (.slice (some ⟨b, off, none⟩) L.length c) L) (i : Nat) (hi : i < L.length) : w.cell? ⟨b, off + i * 4 + 3, none⟩ = some (.bool (ch L i).2) := RowsIn.cells h i 3 hi (by omega)
theorem IsChs.nil : IsChs w (.slice none 0 0) [] := RowsIn.nil
theorem OwnsH.below (h : OwnsH w base t v L) (hb : Below w.heap.size w w') : OwnsH w' base t v L := own_below h hb (Nat.le_refl _)
theorem OwnsH.alloc (h : OwnsH w base t v L) (o : Obj) : OwnsH (w.alloc o) base t v L := h.below ((Below.refl _ _).alloc (Nat.le_refl _) o)
theorem OwnsH.mono {b : Nat} (h : OwnsH w base t v L) (hb : b ≤ base) : OwnsH w b t v L := by
  obtain ⟨h1, h2⟩ := h
  refine ⟨h1, h2.imp id ?_⟩
  rintro ⟨g, cap, cur, hv, hg, r⟩
  exact ⟨g, cap, cur, hv, Nat.le_trans hb hg, r⟩
theorem OwnsH.nil : OwnsH w base t (.slice none 0 0) [] := ⟨rfl, .inl ⟨rfl, rfl⟩⟩
theorem OwnsH.ents (h : OwnsH w base t v L) : IsChs w v L := by
  rcases h.2 with ⟨rfl, h0⟩ | ⟨g, cap, cur, rfl, hg, hh, h1, h2, h3, h4⟩
  · have : L = [] := List.eq_nil_of_length_eq_zero h0
    subst this
    exact IsChs.nil
  · refine ⟨_, _, rfl, h1, by unfold maxLen at h2; exact h2, fun hn => ⟨g, 0, rfl, ?_, fun i j hi hj => ?_⟩⟩
    · rcases Nat.lt_or_ge g w.heap.size with hlt | hge
      · exact hlt
      · rw [Array.getElem?_eq_none hge] at hh; cases hh
    · have hc := World.ownsRow.cellAt h (i * 4 + j) (by omega)
      rw [flatH_get L i j hi hj] at hc
      simpa [Nat.add_assoc] using hc
/-- A list's cells, one after the other. -/
theorem IsChs.news (h : IsChs w (.slice A L.length c) L) (ad : Addr) (hA : A = some ad) : ∀ j u, (flatH L)[j]? = some u → w.cell? (ad.add j) = some u := by
  intro j u hu
  have hj : j < L.length * 4 := by
    rcases Nat.lt_or_ge j (L.length * 4) with hj | hj
    · exact hj
    · rw [List.getElem?_eq_none (by rw [flatH_length]; exact hj)] at hu; cases hu
  obtain ⟨b, off, hb, _⟩ := h.addr (by omega)
  rw [hA] at hb h
  injection hb with hb
  subst hb
  have hd : j / 4 < L.length := by omega
  have hm : j % 4 < 4 := Nat.mod_lt _ (by omega)
  have e : j / 4 * 4 + j % 4 = j := by omega
  have h1 := RowsIn.cells h (j / 4) (j % 4) hd hm
  have h2 := flatH_get L (j / 4) (j % 4) hd hm
  rw [e] at h2
  rw [h2] at hu
  rw [← Option.some.inj hu, ← h1]
  have e2 : (⟨b, off, none⟩ : Addr).add j = ⟨b, off + j, none⟩ := by simp [Addr.add]
  rw [e2, Nat.add_assoc off, e]
end
theorem append_chG {P : Program} {tS tE : TypeId} (hS : P.underlying tS = some (.slice tE)) (hE : (P.info? tE).map (fun i => (i.zero, i.size, i.bytes)) = some (some (.agg #[.int .i64 0, .int .i64 0, .int .i64 0, .bool false]), 4, 32))
    {ops : Array Oper} {rest : List Oper} {o : Oper} {a : Act} {Q : Exit → Act → World → Prop} (hgd : o.guard = none) (s x : Operand)
    (ho : o.op = .call { callee := .builtin .append, args := #[s, x], argTypes := #[tS, tS] })
    {w : World} (base : Nat) (v : Value) (l : List Ch) (y : Ch) (hs : a.eval s = v) (hown : OwnsH w base tE v l)
    (hx : a.eval x = .slice (some ⟨w.heap.size, 0, none⟩) 1 1) (hlen : l.length < 900000000) (hbase : base ≤ w.heap.size)
    (h : ∀ v' w', OwnsH w' base tE v' (l ++ [y]) → Below base w w' → (∀ b, b < w.heap.size → v.ownBlock ≠ some b → w'.heap[b]? = w.heap[b]?) → (∀ k, v'.ownBlock = some k → v.ownBlock = some k ∨ w.heap.size ≤ k) → wpList P ops Q rest (a.put o.dst v') w') :
    wpList P ops Q (o :: rest) a (w.alloc (.cells #[.int .i64 y.1.1, .int .i64 y.1.2.1, .int .i64 y.1.2.2, .bool y.2] tE)) := by
  obtain ⟨i, hi, hz, hsz, hby⟩ := info_parts hE
  refine wpList_append_own_at (w.alloc (.cells #[.int .i64 y.1.1, .int .i64 y.1.2.1, .int .i64 y.1.2.2, .bool y.2] tE)) hgd s x tS ho base tE i _ 4 32 hS hi hz hsz hby rfl (by omega) v l.length (flatH l) hs (OwnsH.alloc hown _) ⟨w.heap.size, 0, none⟩ 1 1
    [.int .i64 y.1.1, .int .i64 y.1.2.1, .int .i64 y.1.2.2, .bool y.2] hx rfl ?_ (by simp [Value.oneCell']) (by unfold maxLen; omega) (by omega) (by simp; omega) ?_
  · intro j u hu
    have hj : j < 4 := by
      rcases Nat.lt_or_ge j 4 with hj | hj
      · exact hj
      · rw [List.getElem?_eq_none (by simp; omega)] at hu; cases hu
    have e : (⟨w.heap.size, 0, none⟩ : Addr).add j = ⟨w.heap.size, j, none⟩ := by
      simp [Addr.add]
      exact fun h => h.symm
    rw [e]
    have hn := heap_alloc_new w (.cells #[.int .i64 y.1.1, .int .i64 y.1.2.1, .int .i64 y.1.2.2, .bool y.2] tE)
    simp only [World.cell?, hn]
    simpa using hu
  · intro v' w' hown' hg _ hob
    refine h v' w' ?_ ?_ ?_ ?_
    · unfold OwnsH
      rw [flatH_append, List.length_append]
      simpa [flatH] using hown'
    · refine ((Below.refl base w).alloc hbase _).grown hg (by simp; omega) ?_
      intro k hk
      exact (World.ownsRow.lt hown k hk).1
    · intro b hb hne
      exact (hg.block b (by simp; omega) (fun e => hne e.symm)).trans (((Below.refl w.heap.size w).alloc (Nat.le_refl _) _).block b hb)
    · intro k hk
      rcases hob with h1 | h1
      · exact .inl (h1 ▸ hk)
      · rw [h1] at hk
        have := Option.some.inj hk
        simp at this
        exact .inr (by omega)
theorem OwnsH.kept {w w' : World} {base : Nat} {t : TypeId} {v : Value} {N : List Ch} (h : OwnsH w base t v N) (hk : ∀ g, v.ownBlock = some g → w'.heap[g]? = w.heap[g]?) : OwnsH w' base t v N := by
  refine ⟨h.1, h.2.imp id ?_⟩
  rintro ⟨g, cap, cur, rfl, hg, hh, r⟩
  exact ⟨g, cap, cur, rfl, hg, (hk g rfl).trans hh, r⟩
theorem OwnsH.own {w : World} {base : Nat} {t : TypeId} {v : Value} {N : List Ch} (h : OwnsH w base t v N) (k : Nat) (hk : v.ownBlock = some k) : base ≤ k ∧ k < w.heap.size := World.ownsRow.lt h k hk
theorem own_formH {w : World} {base : Nat} {t : TypeId} {v : Value} {L : List Ch} (h : OwnsH w base t v L) (hr : 0 < L.length) : ∃ g cap, v = .slice (some ⟨g, 0, none⟩) L.length cap ∧ base ≤ g ∧ g < w.heap.size ∧ L.length ≤ cap ∧ cap ≤ 9223372036854775807 := by
  rcases h.2 with ⟨_, h0⟩ | ⟨g, cap, cur, rfl, hb, hg, hnc, hcm, _⟩
  · omega
  · exact ⟨g, cap, rfl, hb, (Array.getElem?_eq_some_iff.1 hg).1, hnc, by simp only [maxLen] at hcm; omega⟩
theorem cells_Change : Try.prog.cellsOf 64 = 4 := by kernel_rfl
theorem under_Change : Try.prog.underlying 64 = some (.struct (Try.prog.fieldsOf 64)) := by kernel_rfl
theorem field_Change0 : ((Try.prog.fieldsOf 64)[0]?).map (fun f => (f.type, f.offset, Try.prog.cellsOf f.type)) = some (33, 0, 2) := by kernel_rfl
theorem field_Change1 : ((Try.prog.fieldsOf 64)[1]?).map (fun f => (f.type, f.offset, Try.prog.cellsOf f.type)) = some (3, 2, 1) := by kernel_rfl
theorem field_Change2 : ((Try.prog.fieldsOf 64)[2]?).map (fun f => (f.type, f.offset, Try.prog.cellsOf f.type)) = some (4, 3, 1) := by kernel_rfl
theorem tChangeInfo : (Try.prog.info? 64).map (fun i => (i.zero, i.size, i.bytes)) = some (some (.agg #[.int .i64 0, .int .i64 0, .int .i64 0, .bool false]), 4, 32) := by kernel_rfl
section
variable {H : Type} {enc : TypeId × Value → H} {w : World} {base : Nat} {spare : Nat → Bool} {held : Bool}
theorem trod_cellB {n : Nat} {cs : List Value} {j : Nat} {y : DataW H × List MemPlace} (h : DataW.trod enc Try.prog w base spare held n 4 ((cs.drop j).take 1) = some y) : ∃ q : Bool, cs[j]? = some (.bool q) := by
  obtain ⟨q, e1, _⟩ := DataW.trod_bool Try.underlying4 h
  refine ⟨q, ?_⟩
  have h2 : ((cs.drop j).take 1)[0]? = some (.bool q) := by rw [e1]; rfl
  rw [List.getElem?_take_of_lt (by omega), List.getElem?_drop] at h2
  simpa using h2
theorem trod_Change {n : Nat} {cs : List Value} {y : DataW H × List MemPlace} (h : DataW.trod enc Try.prog w base spare held n 64 cs = some y) : (∀ j, j < 3 → ∃ q : Int, cs[j]? = some (.int .i64 q)) ∧ ∃ b : Bool, cs[3]? = some (.bool b) := by
  obtain ⟨ys, n', _, _, hcl, hyl, hg⟩ := DataW.trod_struct under_Change h
  have hyl2 : ys.length = 3 := hyl.trans (by kernel_rfl)
  refine ⟨fun j hj => ?_, ?_⟩
  · by_cases h2 : j < 2
    · obtain ⟨f, hf, he⟩ := Option.map_eq_some_iff.1 field_Change0
      simp only [Prod.mk.injEq] at he
      have h1 := hg 0 f hf
      rw [he.1, he.2.1, show Try.prog.cellsOf 33 = 2 from by kernel_rfl, List.drop_zero] at h1
      obtain ⟨q, hq⟩ := trod_Span (h1.trans (List.getElem?_eq_getElem (by omega))) j h2
      rw [List.getElem?_take_of_lt h2] at hq
      exact ⟨q, hq⟩
    · obtain rfl : j = 2 := by omega
      obtain ⟨f, hf, he⟩ := Option.map_eq_some_iff.1 field_Change1
      simp only [Prod.mk.injEq] at he
      have h1 := hg 1 f hf
      rw [he.1, he.2.1, show Try.prog.cellsOf 3 = 1 from by kernel_rfl] at h1
      exact trod_cell (h1.trans (List.getElem?_eq_getElem (by omega)))
  · obtain ⟨f, hf, he⟩ := Option.map_eq_some_iff.1 field_Change2
    simp only [Prod.mk.injEq] at he
    have h1 := hg 2 f hf
    rw [he.1, he.2.1, show Try.prog.cellsOf 4 = 1 from by kernel_rfl] at h1
    exact trod_cellB (h1.trans (List.getElem?_eq_getElem (by omega)))
set_option maxRecDepth 100000 in
theorem open_chs0 {fuel : Nat} {c : Value} {y : DataW H × List MemPlace} (hf : DataW.trod enc Try.prog w base spare held fuel 62 [c] = some y) : ∃ N : List Ch, IsChs w c N := by
  rcases open_slice Try.underlying62 hf with ⟨h0, _⟩ | ⟨a, len, cap, m, n, D, Pl, hcs, hb, hl, hm, hmm, _, hi⟩
  · simp only [List.cons.injEq, and_true] at h0
    subst h0
    exact ⟨[], IsChs.nil⟩
  · simp only [List.cons.injEq, and_true] at hcs
    subst hcs
    have hlm : len ≤ m := by rw [hmm]; split <;> omega
    have hcell : ∀ i j, i < len → j < 3 → ∃ q : Int, w.cell? (a.add (i * 4 + j)) = some (.int .i64 q) := by
      intro i j hil hj
      obtain ⟨cs', hc, ht'⟩ := hi i (by omega)
      rw [cells_Change] at hc
      obtain ⟨q, hq⟩ := (trod_Change ht').1 j hj
      obtain ⟨_, hcl, hat⟩ := World.cells?_some hc
      have hcell := hat j (by omega)
      exact ⟨q, by rw [← Go.Deep.add_add, hcell, hq]⟩
    have hcellB : ∀ i, i < len → ∃ q : Bool, w.cell? (a.add (i * 4 + 3)) = some (.bool q) := by
      intro i hil
      obtain ⟨cs', hc, ht'⟩ := hi i (by omega)
      rw [cells_Change] at hc
      obtain ⟨q, hq⟩ := (trod_Change ht').2
      obtain ⟨_, hcl, hat⟩ := World.cells?_some hc
      have hcell := hat 3 (by omega)
      exact ⟨q, by rw [← Go.Deep.add_add, hcell, hq]⟩
    have hch : ∀ n, n ≤ len → ∃ N : List Ch, N.length = n ∧ ∀ i, i < n → ∀ j, j < 4 → w.cell? (a.add (i * 4 + j)) = some (chCell N i j) := by
      intro n
      induction n with
      | zero => intro _; exact ⟨[], rfl, fun i hi => absurd hi (by omega)⟩
      | succ n ih =>
        intro hn
        obtain ⟨N, hll, hlc⟩ := ih (by omega)
        obtain ⟨q0, h0⟩ := hcell n 0 (by omega) (by omega)
        obtain ⟨q1, h1⟩ := hcell n 1 (by omega) (by omega)
        obtain ⟨q2, h2⟩ := hcell n 2 (by omega) (by omega)
        obtain ⟨q3, h3⟩ := hcellB n (by omega)
        refine ⟨N ++ [((q0, q1, q2), q3)], by simp [hll], fun i hi j hj => ?_⟩
        rcases Nat.lt_or_ge i n with hin | hin
        · rw [hlc i hin j hj]
          unfold chCell ch
          rw [List.getD_eq_getElem?_getD, List.getD_eq_getElem?_getD, List.getElem?_append_left (by omega)]
        · obtain rfl : i = n := by omega
          have e : ch (N ++ [(((q0, q1, q2), q3) : Ch)]) i = ((q0, q1, q2), q3) := by
            unfold ch
            rw [List.getD_eq_getElem?_getD, ← hll, List.getElem?_append_right (Nat.le_refl _)]
            simp
          unfold chCell
          rw [e]
          rcases (by omega : j = 0 ∨ j = 1 ∨ j = 2 ∨ j = 3) with rfl | rfl | rfl | rfl
          · exact h0
          · exact h1
          · exact h2
          · exact h3
    obtain ⟨N, hll, hlc⟩ := hch len (Nat.le_refl _)
    refine ⟨N, some a, cap, by rw [hll], by omega, by unfold maxLen at hm; exact hm, fun hn => ?_⟩
    obtain ⟨b, off, e1, e2, e3, hlt⟩ := add_form (hlc 0 (by omega) 0 (by omega))
    have ea : a = ⟨b, off, none⟩ := by simpa [Addr.add] using e1
    subst ea
    refine ⟨b, off, rfl, hlt, fun i j hi hj => ?_⟩
    have := hlc i (by omega) j hj
    have ead : ∀ k, (⟨b, off, none⟩ : Addr).add k = ⟨b, off + k, none⟩ := by
      intro k; unfold Addr.add; split
      · rename_i h0; rw [h0]; rfl
      · rfl
    rw [ead] at this
    simpa [Nat.add_assoc] using this
set_option maxRecDepth 100000 in
theorem open_chs {r : Reach} {b0 : Nat} {v : Value} {d : DataW H} {p : List MemPlace} (hv : Value.okWide Try.prog w r b0 62 v) (h : DataW.Trod enc Try.prog w base spare held 62 v d p) : ∃ L : List Ch, IsChs w v L := by
  obtain ⟨a0, len, cap, rfl⟩ := okWide_slice Try.underlying62 hv
  obtain ⟨fuel, hf⟩ := h
  exact open_chs0 hf
end
end Go.Proofs.Ytgdcgdjlhljbiaa
