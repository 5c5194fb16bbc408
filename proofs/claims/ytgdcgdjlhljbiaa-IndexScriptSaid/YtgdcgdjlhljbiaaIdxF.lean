/- Law 42: lists of entries in memory. No program in sight. -/
import Derived.Test.YtgdcgdjlhljbiaaIdxP
import Derived.Test.YtgdcgdjlhljbiaaPre
namespace Go.Proofs.Ytgdcgdjlhljbiaa
open Go.RowKit

def entsOf (N : List Nd) (L : List Nat) : List En := L.map fun j => ent (nd N j)
def en (L : List En) (i : Nat) : En := L.getD i (0, 0, 0)
theorem en_at {L : List En} {i : Nat} (hi : i < L.length) : L[i] = en L i := by simp [en, hi]
def entCell (L : List En) (i j : Nat) : Value := .int .i64 (if j = 0 then (en L i).1 else if j = 1 then (en L i).2.1 else (en L i).2.2)
def IsEnts (w : World) (v : Value) (L : List En) : Prop := RowsIn w v L.length 3 (entCell L)
def flatE (L : List En) : List Value := L.flatMap fun e => [.int .i64 e.1, .int .i64 e.2.1, .int .i64 e.2.2]
def OwnsE (w : World) (base : Nat) (t : TypeId) (v : Value) (L : List En) : Prop := w.ownsRow base t 3 v L.length (flatE L)
theorem flatE_length (L : List En) : (flatE L).length = L.length * 3 := by
  unfold flatE
  induction L with
  | nil => rfl
  | cons s L ih => simp only [List.flatMap_cons, List.length_append, ih, List.length_cons, List.length_nil]; omega
theorem flatE_append (L M : List En) : flatE (L ++ M) = flatE L ++ flatE M := by simp [flatE]
theorem flatE_one (L : List En) : ∀ u ∈ flatE L, u.oneCell' = true := by
  intro u hu
  unfold flatE at hu
  obtain ⟨e, _, he⟩ := List.mem_flatMap.1 hu
  simp only [List.mem_cons, List.not_mem_nil, or_false] at he
  rcases he with rfl | rfl | rfl <;> rfl
theorem flatE_get (L : List En) : ∀ i j, i < L.length → j < 3 → (flatE L)[i * 3 + j]? = some (entCell L i j) := by
  induction L with
  | nil => intro i j hi; simp at hi
  | cons s L ih =>
    intro i j hi hj
    have e : flatE (s :: L) = .int .i64 s.1 :: .int .i64 s.2.1 :: .int .i64 s.2.2 :: flatE L := by simp [flatE]
    rw [e]
    cases i with
    | zero => rcases (by omega : j = 0 ∨ j = 1 ∨ j = 2) with rfl | rfl | rfl <;> simp [entCell, en]
    | succ i =>
      have := ih i j (by simpa using hi) hj
      rw [show (i + 1) * 3 + j = (i * 3 + j) + 1 + 1 + 1 from by omega]
      simp only [List.getElem?_cons_succ]
      rw [this]
      simp [entCell, en]
section
variable {w w' : World} {v : Value} {base : Nat} {t : TypeId} {L M : List En} {b off c : Nat} {A : Option Addr}
theorem IsEnts.below (h : IsEnts w v L) (hb : Below w.heap.size w w') : IsEnts w' v L := RowsIn.below h hb
theorem IsEnts.form (h : IsEnts w v L) : ∃ A c, v = .slice A L.length c ∧ L.length ≤ c ∧ c ≤ 9223372036854775807 := RowsIn.form h
theorem IsEnts.addr (h : IsEnts w (.slice A L.length c) L) (hn : 0 < L.length) : ∃ b off, A = some ⟨b, off, none⟩ ∧ b < w.heap.size := RowsIn.addr h hn
theorem IsEnts.c0 (h : IsEnts w (.slice (some ⟨b, off, none⟩) L.length c) L) (i : Nat) (hi : i < L.length) : w.cell? ⟨b, off + i * 3, none⟩ = some (.int .i64 (en L i).1) := RowsIn.cells h i 0 hi (by omega)
theorem IsEnts.c1 (h : IsEnts w (.slice (some ⟨b, off, none⟩) L.length c) L) (i : Nat) (hi : i < L.length) : w.cell? ⟨b, off + i * 3 + 1, none⟩ = some (.int .i64 (en L i).2.1) := RowsIn.cells h i 1 hi (by omega)
theorem IsEnts.c2 (h : IsEnts w (.slice (some ⟨b, off, none⟩) L.length c) L) (i : Nat) (hi : i < L.length) : w.cell? ⟨b, off + i * 3 + 2, none⟩ = some (.int .i64 (en L i).2.2) := RowsIn.cells h i 2 hi (by omega)
theorem IsEnts.nil : IsEnts w (.slice none 0 0) [] := RowsIn.nil
theorem OwnsE.below (h : OwnsE w base t v L) (hb : Below w.heap.size w w') : OwnsE w' base t v L := own_below h hb (Nat.le_refl _)
theorem OwnsE.alloc (h : OwnsE w base t v L) (o : Obj) : OwnsE (w.alloc o) base t v L := h.below ((Below.refl _ _).alloc (Nat.le_refl _) o)
theorem OwnsE.mono {b : Nat} (h : OwnsE w base t v L) (hb : b ≤ base) : OwnsE w b t v L := by
  obtain ⟨h1, h2⟩ := h
  refine ⟨h1, h2.imp id ?_⟩
  rintro ⟨g, cap, cur, hv, hg, r⟩
  exact ⟨g, cap, cur, hv, Nat.le_trans hb hg, r⟩
theorem OwnsE.nil : OwnsE w base t (.slice none 0 0) [] := ⟨rfl, .inl ⟨rfl, rfl⟩⟩
theorem OwnsE.ents (h : OwnsE w base t v L) : IsEnts w v L := by
  rcases h.2 with ⟨rfl, h0⟩ | ⟨g, cap, cur, rfl, hg, hh, h1, h2, h3, h4⟩
  · have : L = [] := List.eq_nil_of_length_eq_zero h0
    subst this
    exact IsEnts.nil
  · refine ⟨_, _, rfl, h1, by unfold maxLen at h2; exact h2, fun hn => ⟨g, 0, rfl, ?_, fun i j hi hj => ?_⟩⟩
    · rcases Nat.lt_or_ge g w.heap.size with hlt | hge
      · exact hlt
      · rw [Array.getElem?_eq_none hge] at hh; cases hh
    · have hc := World.ownsRow.cellAt h (i * 3 + j) (by omega)
      rw [flatE_get L i j hi hj] at hc
      simpa [Nat.add_assoc] using hc
theorem OwnsE.lit (x : En) (w : World) : OwnsE (w.alloc (.cells #[.int .i64 x.1, .int .i64 x.2.1, .int .i64 x.2.2] t)) w.heap.size t (.slice (some ⟨w.heap.size, 0, none⟩) 1 1) [x] :=
  World.ownsRow_lit w #[.int .i64 x.1, .int .i64 x.2.1, .int .i64 x.2.2] 1 (Nat.le_refl _) (by unfold maxLen; omega) rfl
/-- A list's cells, one after the other. -/
theorem IsEnts.news (h : IsEnts w (.slice A L.length c) L) (ad : Addr) (hA : A = some ad) : ∀ j u, (flatE L)[j]? = some u → w.cell? (ad.add j) = some u := by
  intro j u hu
  have hj : j < L.length * 3 := by
    rcases Nat.lt_or_ge j (L.length * 3) with hj | hj
    · exact hj
    · rw [List.getElem?_eq_none (by rw [flatE_length]; exact hj)] at hu; cases hu
  obtain ⟨b, off, hb, _⟩ := h.addr (by omega)
  rw [hA] at hb h
  injection hb with hb
  subst hb
  have hd : j / 3 < L.length := by omega
  have hm : j % 3 < 3 := Nat.mod_lt _ (by omega)
  have e : j / 3 * 3 + j % 3 = j := by omega
  have h1 := RowsIn.cells h (j / 3) (j % 3) hd hm
  have h2 := flatE_get L (j / 3) (j % 3) hd hm
  rw [e] at h2
  rw [h2] at hu
  rw [← Option.some.inj hu, ← h1]
  have e2 : (⟨b, off, none⟩ : Addr).add j = ⟨b, off + j, none⟩ := by simp [Addr.add]
  rw [e2, Nat.add_assoc off, e]
end
/-- append(own, list...) where an operation is met alone. -/
theorem append_ents_wp {P : Program} {tS tE : TypeId} (hS : P.underlying tS = some (.slice tE)) (hE : (P.info? tE).map (fun i => (i.zero, i.size, i.bytes)) = some (some (.agg #[.int .i64 0, .int .i64 0, .int .i64 0]), 3, 24))
    {o : Oper} {a : Act} {K : Act → World → Prop} {Q : Exit → Act → World → Prop} (s x : Operand)
    (ho : o.op = .call { callee := .builtin .append, args := #[s, x], argTypes := #[tS, tS] })
    {w : World} (base : Nat) (v u : Value) (L M : List En) (hs : a.eval s = v) (hx : a.eval x = u) (hown : OwnsE w base tE v L) (hM : IsEnts w u M) (hlen : L.length + M.length < 900000000) (hbase : base ≤ w.heap.size)
    (h : ∀ v' w', OwnsE w' base tE v' (L ++ M) → Below base w w' → K (a.put o.dst v') w') :
    o.wp P a w K Q := by
  obtain ⟨i, hi, hz, hsz, hby⟩ := info_parts hE
  obtain ⟨A, c, rfl, _, _⟩ := hM.form
  cases A with
  | none =>
    have hM0 : M = [] := by
      rcases Nat.eq_zero_or_pos M.length with h0 | h0
      · exact List.eq_nil_of_length_eq_zero h0
      · obtain ⟨b, off, he, _⟩ := hM.addr h0; cases he
    subst hM0
    have hrun := run_append_owned_empty (P := P) (w := w) base tS o.type tE i 3 hS hi v L.length (flatE L) c hown
    unfold Oper.wp execOp
    simp only [List.length_nil] at hx
    simp only [ho, resolve, invoke, builtin, Sem.run_bind, Sem.run_pure, Result.andThen_ok, List.map_toArray, List.map_cons, List.map_nil, hs, hx, hrun]
    exact h v w (by rw [List.append_nil]; exact hown) (Below.refl _ _)
  | some ad =>
    obtain ⟨v', w', hrun, hown', hg, _, _⟩ := run_append_own_at (P := P) w base tS o.type tE i _ 3 24 hS hi hz hsz hby rfl (by omega) v L.length (flatE L) hown ad M.length c (flatE M) (flatE_length M) (hM.news ad rfl) (flatE_one M) (by unfold maxLen; omega) (by omega) hbase
    unfold Oper.wp execOp
    simp only [ho, resolve, invoke, builtin, Sem.run_bind, Sem.run_pure, Result.andThen_ok, List.map_toArray, List.map_cons, List.map_nil, hs, hx, hrun]
    refine h v' w' ?_ ?_
    · unfold OwnsE
      rw [flatE_append, List.length_append]; exact hown'
    · refine (Below.refl base w).grown hg hbase ?_
      intro k hk
      exact (World.ownsRow.lt hown k hk).1
end Go.Proofs.Ytgdcgdjlhljbiaa
