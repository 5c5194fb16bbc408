/- Law 42: own lists of nodes; the walk of grow. -/
import Derived.Test.YtgdcgdjlhljbiaaIdxJ
import Derived.Test.YtgdcgdjlhljbiaaPre
namespace Go.Proofs.Ytgdcgdjlhljbiaa
open Go.RowKit

def ndVals (n : Nd) : List Value := [.int .i64 n.f, .int .i64 n.t, .int .i64 n.v, .int .i64 n.l, .int .i64 n.r, .int .i64 n.m, .int .i64 n.h]
def flatN (N : List Nd) : List Value := N.flatMap ndVals
def OwnsN (w : World) (base : Nat) (v : Value) (N : List Nd) : Prop := w.ownsRow base 60 7 v N.length (flatN N)
theorem flatN_length (L : List Nd) : (flatN L).length = L.length * 7 := by
  unfold flatN
  induction L with
  | nil => rfl
  | cons s L ih => simp only [List.flatMap_cons, List.length_append, ih, List.length_cons, ndVals, List.length_nil]; omega
theorem flatN_append (L M : List Nd) : flatN (L ++ M) = flatN L ++ flatN M := by simp [flatN]
theorem flatN_one (L : List Nd) : ∀ u ∈ flatN L, u.oneCell' = true := by
  intro u hu
  unfold flatN at hu
  obtain ⟨e, _, he⟩ := List.mem_flatMap.1 hu
  simp only [ndVals, List.mem_cons, List.not_mem_nil, or_false] at he
  rcases he with rfl | rfl | rfl | rfl | rfl | rfl | rfl <;> rfl
theorem flatN_get (L : List Nd) : ∀ i j, i < L.length → j < 7 → (flatN L)[i * 7 + j]? = some (ndCell L i j) := by
  induction L with
  | nil => intro i j hi; simp at hi
  | cons s L ih =>
    intro i j hi hj
    have e : flatN (s :: L) = ndVals s ++ flatN L := by simp [flatN]
    rw [e]
    cases i with
    | zero => rcases (by omega : j = 0 ∨ j = 1 ∨ j = 2 ∨ j = 3 ∨ j = 4 ∨ j = 5 ∨ j = 6) with rfl | rfl | rfl | rfl | rfl | rfl | rfl <;> simp [ndCell, nd, ndField, ndVals]
    | succ i =>
      have := ih i j (by simpa using hi) hj
      rw [List.getElem?_append_right (by simp [ndVals]; omega)]
      rw [show (i + 1) * 7 + j - (ndVals s).length = i * 7 + j from by simp [ndVals]; omega, this]
      simp [ndCell, nd]
def setF (n : Nd) (j : Nat) (x : Int) : Nd := ⟨if j = 0 then x else n.f, if j = 1 then x else n.t, if j = 2 then x else n.v, if j = 3 then x else n.l, if j = 4 then x else n.r, if j = 5 then x else n.m, if j = 6 then x else n.h⟩
theorem setF_field (n : Nd) (j k : Nat) (x : Int) (hk : k < 7) : ndField (setF n j x) k = if j = k then x else ndField n k := by
  rcases (by omega : k = 0 ∨ k = 1 ∨ k = 2 ∨ k = 3 ∨ k = 4 ∨ k = 5 ∨ k = 6) with rfl | rfl | rfl | rfl | rfl | rfl | rfl <;> simp [setF, ndField]
theorem flatN_set {N : List Nd} {i j : Nat} (x : Int) (hi : i < N.length) (hj : j < 7) : (flatN N).set (i * 7 + j) (.int .i64 x) = flatN (N.set i (setF (nd N i) j x)) := by
  apply List.ext_getElem?
  intro p
  by_cases hp : p < N.length * 7
  · have hd : p / 7 < N.length := by omega
    have hm : p % 7 < 7 := Nat.mod_lt _ (by omega)
    have e : p / 7 * 7 + p % 7 = p := by omega
    have h2 := flatN_get (N.set i (setF (nd N i) j x)) (p / 7) (p % 7) (by simpa using hd) hm
    have h1 := flatN_get N (p / 7) (p % 7) hd hm
    rw [e] at h1 h2
    rw [h2]
    by_cases hq : i * 7 + j = p
    · rw [← hq, List.getElem?_set_self (by rw [flatN_length]; omega)]
      have e1 : (i * 7 + j) / 7 = i := by omega
      have e2 : (i * 7 + j) % 7 = j := by omega
      rw [e1, e2, ndCell, nd_set_eq hi, setF_field _ _ _ _ hj, if_pos rfl]
    · rw [List.getElem?_set_ne hq, h1]
      unfold ndCell
      by_cases hi2 : p / 7 = i
      · have hne : j ≠ p % 7 := by omega
        rw [hi2, nd_set_eq hi, setF_field _ _ _ _ hm, if_neg hne]
      · rw [nd_set_ne hi2]
  · rw [List.getElem?_eq_none (by rw [List.length_set, flatN_length]; omega), List.getElem?_eq_none (by rw [flatN_length, List.length_set]; omega)]
section
variable {w w' : World} {v : Value} {base : Nat} {N : List Nd}
theorem OwnsN.below (h : OwnsN w base v N) (hb : Below w.heap.size w w') : OwnsN w' base v N := own_below h hb (Nat.le_refl _)
theorem OwnsN.mono {b : Nat} (h : OwnsN w base v N) (hb : b ≤ base) : OwnsN w b v N := by
  obtain ⟨h1, h2⟩ := h
  refine ⟨h1, h2.imp id ?_⟩
  rintro ⟨g, cap, cur, hv, hg, r⟩
  exact ⟨g, cap, cur, hv, Nat.le_trans hb hg, r⟩
theorem OwnsN.nil : OwnsN w base (.slice none 0 0) [] := ⟨rfl, .inl ⟨rfl, rfl⟩⟩
theorem OwnsN.form (h : OwnsN w base v N) (hn : 0 < N.length) : ∃ g cap, v = .slice (some ⟨g, 0, none⟩) N.length cap ∧ base ≤ g ∧ g < w.heap.size ∧ N.length ≤ cap ∧ cap ≤ 9223372036854775807 := by
  rcases h.2 with ⟨_, h0⟩ | ⟨g, cap, cur, rfl, hg, hh, h1, h2, h3, h4⟩
  · omega
  · exact ⟨g, cap, rfl, hg, lt_of_block hh, h1, by unfold maxLen at h2; exact h2⟩
theorem OwnsN.form0 (h : OwnsN w base v N) : ∃ A cap, v = .slice A N.length cap := by
  rcases h.2 with ⟨rfl, h0⟩ | ⟨g, cap, cur, rfl, hg, hh, h1, h2, h3, h4⟩
  · exact ⟨none, 0, by rw [h0]⟩
  · exact ⟨_, _, rfl⟩
theorem OwnsN.cell {g cap : Nat} (h : OwnsN w base (.slice (some ⟨g, 0, none⟩) N.length cap) N) (i j : Nat) (hi : i < N.length) (hj : j < 7) : w.cell? ⟨g, i * 7 + j, none⟩ = some (.int .i64 (ndField (nd N i) j)) := by
  have hc := World.ownsRow.cellAt h (i * 7 + j) (by omega)
  rw [flatN_get N i j hi hj] at hc
  exact hc
theorem OwnsN.nodes (h : OwnsN w base v N) : IsNodes w v N := by
  rcases h.2 with ⟨rfl, h0⟩ | ⟨g, cap, cur, rfl, hg, hh, h1, h2, h3, h4⟩
  · have : N = [] := List.eq_nil_of_length_eq_zero h0
    subst this
    exact IsNodes.nil
  · refine ⟨_, _, rfl, h1, by unfold maxLen at h2; exact h2, fun hn => ⟨g, 0, rfl, lt_of_block hh, fun i j hi hj => ?_⟩⟩
    have hc := OwnsN.cell h i j hi hj
    rw [show (0 + i * 7 + j) = i * 7 + j from by omega]
    exact hc
theorem OwnsN.frozen {g cap : Nat} (h : OwnsN w base (.slice (some ⟨g, 0, none⟩) N.length cap) N) (o : Nat) : w.frozen? ⟨g, o, none⟩ = false := World.ownsRow.frozenAt h o
theorem OwnsN.stored {g cap : Nat} (h : OwnsN w base (.slice (some ⟨g, 0, none⟩) N.length cap) N) (i j : Nat) (x : Int) (hi : i < N.length) (hj : j < 7) : OwnsN (w.setCell ⟨g, i * 7 + j, none⟩ (.int .i64 x)) base (.slice (some ⟨g, 0, none⟩) N.length cap) (N.set i (setF (nd N i) j x)) := by
  have := (World.ownsRow.stored h (i * 7 + j) (.int .i64 x)).1
  rw [flatN_set x hi hj] at this
  unfold OwnsN
  rw [List.length_set]
  exact this
end
theorem append_node_wp {P : Program} {tS : TypeId} (hS : P.underlying tS = some (.slice 60)) (hE : (P.info? 60).map (fun i => (i.zero, i.size, i.bytes)) = some (some (.agg #[.int .i64 0, .int .i64 0, .int .i64 0, .int .i64 0, .int .i64 0, .int .i64 0, .int .i64 0]), 7, 56))
    {o : Oper} {a : Act} {K : Act → World → Prop} {Q : Exit → Act → World → Prop} (s x : Operand)
    (ho : o.op = .call { callee := .builtin .append, args := #[s, x], argTypes := #[tS, tS] })
    {w : World} (base : Nat) (v : Value) (p : Nat) (N : List Nd) (y : Nd) (hs : a.eval s = v) (hx : a.eval x = .slice (some ⟨p, 0, none⟩) 1 1) (hown : OwnsN w base v N) (hp : w.heap[p]? = some (.cells (ndVals y).toArray 60 (0, 0))) (hlen : N.length < 900000000) (hbase : base ≤ w.heap.size)
    (h : ∀ v' w', OwnsN w' base v' (N ++ [y]) → w.grownBy w' v.ownBlock → (v'.ownBlock = v.ownBlock ∨ v'.ownBlock = some w.heap.size) → K (a.put o.dst v') w') :
    o.wp P a w K Q := by
  obtain ⟨i, hi, hz, hsz, hby⟩ := info_parts hE
  obtain ⟨v', w', hrun, hown', hg, _, hob⟩ := run_append_own_at (P := P) w base tS o.type 60 i _ 7 56 hS hi hz hsz hby rfl (by omega) v N.length (flatN N) hown ⟨p, 0, none⟩ 1 1 (ndVals y) rfl (by
    intro j u hu
    have hj : j < 7 := by
      rcases Nat.lt_or_ge j 7 with hj | hj
      · exact hj
      · rw [List.getElem?_eq_none (by simp [ndVals]; omega)] at hu; cases hu
    have e : (⟨p, 0, none⟩ : Addr).add j = ⟨p, j, none⟩ := by
      simp [Addr.add]
      exact fun h => h.symm
    rw [e]
    simp only [World.cell?, hp]
    simpa using hu) (by
    have := flatN_one [y]
    simpa [flatN] using this) (by unfold maxLen; omega) (by omega) hbase
  unfold Oper.wp execOp
  simp only [ho, resolve, invoke, builtin, Sem.run_bind, Sem.run_pure, Result.andThen_ok, List.map_toArray, List.map_cons, List.map_nil, hs, hx, hrun]
  refine h v' w' ?_ hg hob
  unfold OwnsN
  rw [flatN_append, List.length_append]
  simpa [flatN] using hown'
theorem tNodeInfo : (Try.prog.info? 60).map (fun i => (i.zero, i.size, i.bytes)) = some (some (.agg #[.int .i64 0, .int .i64 0, .int .i64 0, .int .i64 0, .int .i64 0, .int .i64 0, .int .i64 0]), 7, 56) := by kernel_rfl
/-- The block of a tree while it grows. -/
def TreeAt (w : World) (B : Nat) (v : Value) : Prop := w.heap[B]? = some (.cells #[v, .int .i64 (-1)] 24 (0, 0))
section
variable {w w' : World} {B : Nat} {v : Value}
theorem TreeAt.lt (h : TreeAt w B v) : B < w.heap.size := lt_of_block h
theorem TreeAt.c0 (h : TreeAt w B v) : w.cell? ⟨B, 0, none⟩ = some v := by unfold TreeAt at h; simp [World.cell?, h]
theorem TreeAt.c1 (h : TreeAt w B v) : w.cell? ⟨B, 1, none⟩ = some (.int .i64 (-1)) := by unfold TreeAt at h; simp [World.cell?, h]
theorem TreeAt.fz (h : TreeAt w B v) (j : Nat) : w.frozen? ⟨B, j, none⟩ = false := by unfold TreeAt at h; simp [World.frozen?, h]
theorem TreeAt.below (h : TreeAt w B v) (hb : Below w.heap.size w w') : TreeAt w' B v := (hb.block B h.lt).trans h
theorem TreeAt.set (h : TreeAt w B v) (u : Value) : TreeAt (w.setCell ⟨B, 0, none⟩ u) B u := by
  unfold TreeAt at *
  simp [World.setCell, Array.getElem?_modify, h]
theorem TreeAt.other (h : TreeAt w B v) {g : Nat} (o : Nat) (u : Value) (hg : B ≠ g) : TreeAt (w.setCell ⟨g, o, none⟩ u) B v := (Below.heap_setCell _ _ _ _ hg).trans h
end
end Go.Proofs.Ytgdcgdjlhljbiaa
