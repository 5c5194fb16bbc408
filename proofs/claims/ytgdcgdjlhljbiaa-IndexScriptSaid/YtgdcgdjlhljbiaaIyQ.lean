/- Law 42: a loop over index.All that collects its entries: the law's closure. -/
import Derived.Test.YtgdcgdjlhljbiaaIyL
import Derived.Maps.OwnIn
namespace Go.Proofs.Ytgdcgdjlhljbiaa
open Go.RowKit Go.Shelf
attribute [local go_sem] Oper.semAt_some

/-- append(own, one entry) within a fence; what it leaves alone. -/
theorem append_entIn {F : Fence} {nF : Nat} {P : Program} {tS tE : TypeId} (hS : P.underlying tS = some (.slice tE)) (hE : (P.info? tE).map (fun i => (i.zero, i.size, i.bytes)) = some (some (.agg #[.int .i64 0, .int .i64 0, .int .i64 0]), 3, 24))
    {ops : Array Oper} {rest : List Oper} {o : Oper} {a : Act} {Q : Exit → Act → World → Prop} (hgd : o.guard = none) (s x : Operand)
    (ho : o.op = .call { callee := .builtin .append, args := #[s, x], argTypes := #[tS, tS] })
    {w : World} (base : Nat) (v : Value) (l : List En) (y : En) (hs : a.eval s = v) (hown : OwnsE w base tE v l)
    (hx : a.eval x = .slice (some ⟨w.heap.size, 0, none⟩) 1 1) (hlen : l.length < 900000000) (hbase : base ≤ w.heap.size)
    (h : ∀ v' w', OwnsE w' base tE v' (l ++ [y]) → Below base w w' → (∀ b, b < w.heap.size → v.ownBlock ≠ some b → w'.heap[b]? = w.heap[b]?) → (∀ k, v'.ownBlock = some k → v.ownBlock = some k ∨ w.heap.size ≤ k) → KeepsOthers w w' → wpListIn F nF P ops Q rest (a.put o.dst v') w') :
    wpListIn F nF P ops Q (o :: rest) a (w.alloc (.cells #[.int .i64 y.1, .int .i64 y.2.1, .int .i64 y.2.2] tE)) := by
  obtain ⟨i, hi, hz, hsz, hby⟩ := info_parts hE
  refine wpListIn_append_own_at (w := w.alloc (.cells #[.int .i64 y.1, .int .i64 y.2.1, .int .i64 y.2.2] tE)) hgd s x tS ho base tE i _ 3 24 hS hi hz hsz hby rfl (by omega) v l.length (flatE l) hs (OwnsE.alloc hown _) ⟨w.heap.size, 0, none⟩ 1 1
    [.int .i64 y.1, .int .i64 y.2.1, .int .i64 y.2.2] hx rfl ?_ (by simp [Value.oneCell']) (by unfold maxLen; omega) (by omega) (by simp; omega) ?_
  · intro j u hu
    have hj : j < 3 := by
      rcases Nat.lt_or_ge j 3 with hj | hj
      · exact hj
      · rw [List.getElem?_eq_none (by simp; omega)] at hu; cases hu
    have e : (⟨w.heap.size, 0, none⟩ : Addr).add j = ⟨w.heap.size, j, none⟩ := by
      simp [Addr.add]
      exact fun h => h.symm
    rw [e]
    have hn := heap_alloc_new w (.cells #[.int .i64 y.1, .int .i64 y.2.1, .int .i64 y.2.2] tE)
    simp only [World.cell?, hn]
    simpa using hu
  · intro v' w' hown' hg _ hob
    refine h v' w' ?_ ?_ ?_ ?_ ?_
    · unfold OwnsE
      rw [flatE_append, List.length_append]
      simpa [flatE] using hown'
    · refine ((Below.refl base w).alloc hbase _).grown hg (by simp; omega) ?_
      intro k hk
      exact (World.ownsRow.lt hown k hk).1
    · intro b hb hne
      exact (hg.block b (by simp; omega) (fun e => hne e.symm)).trans (((Below.refl w.heap.size w).alloc (Nat.le_refl _) _).block b hb)
    · intro k hk
      rcases hob with h1 | h1
      · exact .inl (h1 ▸ hk)
      · rw [h1] at hk
        have := Option.some.inj hk
        simp at this
        exact .inr (by omega)
    · refine (KeepsOthers.alloc w (.cells #[.int .i64 y.1, .int .i64 y.2.1, .int .i64 y.2.2] tE)).trans (KeepsOthers.of_grownBy hg fun j ob hj hjb => ?_)
      obtain ⟨_, h2 | ⟨g, cap, cur, rfl, _, hh, _⟩⟩ := OwnsE.alloc hown (.cells #[.int .i64 y.1, .int .i64 y.2.1, .int .i64 y.2.2] tE)
      · rw [h2.1] at hj; cases hj
      · have : j = g := by simpa [Value.ownBlock] using hj.symm
        subst this
        rw [hh] at hjb
        injection hjb with hjb
        subst hjb
        rfl
/-- A row of entries of one's own abides what turns no cells. -/
theorem OwnsE.other {W W' : World} {row : Option Nat} {base : Nat} {t : TypeId} {v : Value} {l : List En} (h : OwnsE W base t v l) (hg : W.grownBy W' row) (hr : ∀ r, row = some r → ∃ o : Obj, W.heap[r]? = some o ∧ o.isCells = false) : OwnsE W' base t v l := by
  refine h.kept fun g hv => ?_
  obtain ⟨_, h2 | ⟨g', cap, cur, rfl, _, hh, _⟩⟩ := h
  · rw [h2.1] at hv; cases hv
  · have : g = g' := by simpa [Value.ownBlock] using hv.symm
    subst this
    exact grownBy_keeps_cells hg hr hh rfl
/-- The entries that have come lie in the box ca. -/
def InBox (ca : Nat) (t tE : TypeId) (pre : List En) (W : World) : Prop := ∃ v, W.heap[ca]? = some (.cells #[v] t (0, 0)) ∧ OwnsE W (ca + 1) tE v pre
theorem InBox.other {ca : Nat} {t tE : TypeId} {pre : List En} {W W' : World} {row : Option Nat} (h : InBox ca t tE pre W) (hg : W.grownBy W' row) (hr : ∀ r, row = some r → ∃ o : Obj, W.heap[r]? = some o ∧ o.isCells = false) : InBox ca t tE pre W' := by
  obtain ⟨v, hv, ho⟩ := h
  exact ⟨v, (grownBy_keeps_cells hg hr hv rfl).trans hv, ho.other hg hr⟩
theorem InBox.below {ca : Nat} {t tE : TypeId} {pre : List En} {W W' : World} (h : InBox ca t tE pre W) (hb : Below W.heap.size W W') : InBox ca t tE pre W' := by
  obtain ⟨v, hv, ho⟩ := h
  exact ⟨v, (hb.block ca (lt_of_block hv)).trans hv, ho.below hb⟩
theorem InBox.wf {ca : Nat} {t tE : TypeId} {pre : List En} {W : World} (h : InBox ca t tE pre W) : wfBox ca t W := by
  obtain ⟨v, hv, ho⟩ := h
  exact ⟨v, hv, fun k hk => by have := ho.own k hk; omega⟩
/-- The store of the grown list. -/
theorem InBox.grow {ca : Nat} {t tE : TypeId} {pre l : List En} {W W1 : World} {v v' : Value} (hv : W.heap[ca]? = some (.cells #[v] t (0, 0))) (ho : OwnsE W (ca + 1) tE v pre) (h1 : OwnsE W1 (ca + 1) tE v' l) (hsz : W.heap.size ≤ W1.heap.size)
    (hk : ∀ b, b < W.heap.size → v.ownBlock ≠ some b → W1.heap[b]? = W.heap[b]?) (hob : ∀ k, v'.ownBlock = some k → v.ownBlock = some k ∨ W.heap.size ≤ k) :
    InBox ca t tE l (W1.setCell ⟨ca, 0, none⟩ v') ∧ KpW (wfBox ca t) (OBox ca t) W (W1.setCell ⟨ca, 0, none⟩ v') := by
  have hne : v.ownBlock ≠ some ca := fun e => by have := (ho.own ca e).1; omega
  have hc1 : W1.heap[ca]? = some (.cells #[v] t (0, 0)) := (hk ca (lt_of_block hv) hne).trans hv
  refine ⟨⟨v', ?_, h1.kept fun g hg => Below.heap_setCell _ _ _ _ (fun e => ?_)⟩, fun _ => kp_box hv hne hsz hk hob (fun k hk => by have := h1.own k hk; omega)⟩
  · simp [World.setCell, Array.getElem?_modify, hc1]
  · have h5 := (h1.own g hg).1
    simp only at e
    omega
end Go.Proofs.Ytgdcgdjlhljbiaa
