/- Law 47: the search's stack; a copy of the choices with its spans. -/
import Derived.Test.YtcppcfinnbeboaaDsI
import Derived.Test.YtcppcfinnbeboaaDsE
namespace Go.Proofs.Ytcppcfinnbeboaa
open Go.RowKit Go.Shelf

attribute [local go_sem ↓] eql_nilC
def CloneRetS (L : List Cho) (S : Nat → Value) (w : World) (e : Ending) (w' : World) : Prop := ∃ v, e = .returned v ∧ OutAt w' w.heap.size v L S ∧ Below w.heap.size w w'
set_option maxRecDepth 100000 in
theorem slCloneChoice_s (v : Value) (L : List Cho) (S : Nat → Value) (w : World) (hs : ChosIn w v L S) (hl : L.length ≤ 100000) (hpos : ∀ i, i < L.length → 0 < (cho L i).2.2.length) : Calls Try.prog 29 #[v] w (CloneRetS L S w) := by
  obtain ⟨A, c, rfl, hnc, hc⟩ := hs.form
  cases A with
  | none =>
    have hz : L.length = 0 := by
      rcases Nat.eq_zero_or_pos L.length with h | h
      · exact h
      · obtain ⟨b, off, h1, _⟩ := hs.addr h; cases h1
    obtain rfl : L = [] := List.length_eq_zero_iff.1 hz
    clear hs hnc hc hz
    go_enter Try.func29, Try.ntmps29
    go_wp2
    go_ret
    exact ⟨_, rfl, .inl ⟨rfl, none, 0, rfl, by omega⟩, Below.refl _ _⟩
  | some ad =>
    obtain ⟨i, hi, hz, hsz, hby⟩ := info_parts tChoiceInfo
    have hbA := (Below.refl w.heap.size w).alloc (Nat.le_refl _) (.cells #[] 36)
    have hsA := hs.below hbA
    have hone : ∀ u ∈ flatC L S L.length, u.oneCell' = true := fun u hu => by
      unfold flatC at hu
      obtain ⟨k, hk, hu⟩ := List.mem_flatMap.1 hu
      have hk := List.mem_range.1 hk
      obtain ⟨A2, c2, e2, _, _⟩ := (hs.2 k hk).form
      simp only [choCell, List.mem_cons, List.not_mem_nil, or_false] at hu
      rcases hu with rfl | rfl | rfl
      · rfl
      · rfl
      · simp only [if_true]; rw [e2]; rfl
    have hnews : ∀ j u, (flatC L S L.length)[j]? = some u → (w.alloc (.cells #[] 36)).cell? (ad.add j) = some u := fun j u hu => by
      have hj : j < L.length * 3 := by
        rcases Nat.lt_or_ge j (L.length * 3) with h | h
        · exact h
        · rw [List.getElem?_eq_none (by rw [flatC_len]; exact h)] at hu; cases hu
      obtain ⟨b, off, hb, _⟩ := hsA.addr (by omega)
      injection hb with hb
      subst hb
      have h1 := RowsIn.cells hsA.1 (j / 3) (j % 3) (by omega) (by omega)
      have h2 := flatC_get L S L.length (j / 3) (j % 3) (by omega) (by omega)
      rw [show j / 3 * 3 + j % 3 = j from by omega] at h2
      rw [h2] at hu
      rw [← Option.some.inj hu, ← h1]
      have e2 : (⟨b, off, none⟩ : Addr).add j = ⟨b, off + j, none⟩ := by simp [Addr.add]
      rw [e2, Nat.add_assoc off, show j / 3 * 3 + j % 3 = j from by omega]
    have Hone := Lib.hid hone; have Hnews := Lib.hid hnews; have HbA := Lib.hid hbA; have HsA := Lib.hid hsA; have Hs := Lib.hid hs; have Hl := Lib.hid hl
    clear hone hnews hbA hsA hs
    go_enter Try.func29, Try.ntmps29
    go_wp2_with (at_builtin; refine wpList_append_own_at (w := w.alloc (.cells #[] 36)) rfl _ _ 22 rfl w.heap.size 36 i _ 3 40 tChoices hi hz hsz hby rfl (by omega) _ 0 [] rfl (World.ownsRow_made w #[] 0 (Nat.le_refl _) (by unfold maxLen; omega) rfl) ad L.length c (flatC L S L.length) rfl (flatC_len _ _ _) Hnews.out Hone.out (by unfold maxLen; have := Hl.out; omega) (by have := Hl.out; omega) (by simp) ?_; intro v3 w1 hown1 hg1 _ _)
    go_ret
    have hb1 : Below w.heap.size w w1 := HbA.out.grown hg1 (by simp) (fun k hk => by
      have e : some w.heap.size = some k := hk
      injection e with e
      omega)
    refine ⟨v3, rfl, ?_, hb1⟩
    rw [Nat.zero_add, List.nil_append] at hown1
    obtain ⟨h0, h2⟩ := hown1
    rcases h2 with ⟨rfl, h3⟩ | ⟨g, cap, cur, rfl, hg, hh, h4, h5, h6, h7⟩
    · exact .inl ⟨List.length_eq_zero_iff.1 h3, none, 0, rfl, by omega⟩
    · refine .inr ⟨g, cap, rfl, h4, by unfold maxLen at h5; exact h5, hg, ⟨cur, hh, fun i j hi hj => ?_⟩, fun i hi => (Hs.out.2 i hi).below hb1, fun i hi e => ?_⟩
      · have e := flatC_get L S L.length i j hi hj
        rw [← h7, List.getElem?_take_of_lt (by omega), Array.getElem?_toList] at e
        exact e
      · have := (Hs.out.2 i hi).blk_lt (hpos i hi) g e
        omega
/-! ### the stack of levels -/
def flatV (mv : Nat → Value) (nx : Nat → Nat) (d : Nat) : List Value := (List.range d).flatMap fun k => [mv k, .int .i64 (nx k : Int)]
theorem flatV_succ (mv : Nat → Value) (nx : Nat → Nat) (d : Nat) : flatV mv nx (d + 1) = flatV mv nx d ++ [mv d, .int .i64 (nx d : Int)] := by
  unfold flatV
  rw [List.range_succ, List.flatMap_append]
  simp
theorem flatV_len (mv : Nat → Value) (nx : Nat → Nat) : ∀ d, (flatV mv nx d).length = d * 2
  | 0 => rfl
  | d + 1 => by rw [flatV_succ, List.length_append, flatV_len mv nx d]; simp; omega
theorem flatV_get (mv : Nat → Value) (nx : Nat → Nat) : ∀ d k, k < d → (flatV mv nx d)[k * 2]? = some (mv k) ∧ (flatV mv nx d)[k * 2 + 1]? = some (.int .i64 (nx k : Int))
  | 0, k, h => absurd h (by omega)
  | d + 1, k, h => by
    rw [flatV_succ]
    by_cases e : k < d
    · rw [List.getElem?_append_left (by rw [flatV_len]; omega), List.getElem?_append_left (by rw [flatV_len]; omega)]
      exact flatV_get mv nx d k e
    · obtain rfl : k = d := by omega
      rw [List.getElem?_append_right (by rw [flatV_len]; omega), List.getElem?_append_right (by rw [flatV_len]; omega), flatV_len]
      rw [show k * 2 - k * 2 = 0 from by omega, show k * 2 + 1 - k * 2 = 1 from by omega]
      exact ⟨rfl, rfl⟩
theorem flatV_congr (mv mw : Nat → Value) (nx ny : Nat → Nat) : ∀ d, (∀ k, k < d → mv k = mw k ∧ nx k = ny k) → flatV mv nx d = flatV mw ny d
  | 0, _ => rfl
  | d + 1, h => by
    rw [flatV_succ, flatV_succ, flatV_congr mv mw nx ny d fun k hk => h k (by omega), (h d (by omega)).1, (h d (by omega)).2]
/-- The stack: d levels in block g. -/
structure Lv (W : World) (g d cap : Nat) (mv : Nat → Value) (nx : Nat → Nat) : Prop where
  blk : ∃ cs : Array Value, W.heap[g]? = some (.cells cs 109 (0, 0)) ∧ cs.size = cap * 2 ∧ ∀ k, k < d → cs[k * 2]? = some (mv k) ∧ cs[k * 2 + 1]? = some (.int .i64 (nx k : Int))
  hd : d ≤ cap
  hc : cap ≤ maxLen
section
variable {W W' : World} {g d cap : Nat} {mv : Nat → Value} {nx : Nat → Nat}
theorem Lv.lt (h : Lv W g d cap mv nx) : g < W.heap.size := by obtain ⟨cs, h1, _⟩ := h.blk; exact blk_lt h1
theorem Lv.block (h : Lv W g d cap mv nx) (hb : W'.heap[g]? = W.heap[g]?) : Lv W' g d cap mv nx := by
  obtain ⟨⟨cs, h1, h2⟩, h3, h4⟩ := h
  exact ⟨⟨cs, hb.trans h1, h2⟩, h3, h4⟩
theorem Lv.c0 (h : Lv W g d cap mv nx) (k : Nat) (hk : k < d) : W.cell? ⟨g, k * 2, none⟩ = some (mv k) := by
  obtain ⟨cs, h1, h2, h3⟩ := h.blk
  rw [blk_get h1]
  exact (h3 k hk).1
theorem Lv.c1 (h : Lv W g d cap mv nx) (k : Nat) (hk : k < d) : W.cell? ⟨g, k * 2 + 1, none⟩ = some (.int .i64 (nx k : Int)) := by
  obtain ⟨cs, h1, h2, h3⟩ := h.blk
  rw [blk_get h1]
  exact (h3 k hk).2
theorem Lv.soft (h : Lv W g d cap mv nx) (j : Nat) : W.frozen? ⟨g, j, none⟩ = false := by
  obtain ⟨cs, h1, _⟩ := h.blk
  exact blk_soft h1 j
/-- The number of the span that is tried next is stored. -/
theorem Lv.set (h : Lv W g d cap mv nx) (k : Nat) (hk : k < d) (x : Nat) : Lv (W.setCell ⟨g, k * 2 + 1, none⟩ (.int .i64 (x : Int))) g d cap mv (fun i => if i = k then x else nx i) := by
  obtain ⟨⟨cs, h1, h2, h3⟩, h4, h5⟩ := h
  refine ⟨⟨_, blk_set h1 _ _, by simpa using h2, fun i hi => ?_⟩, h4, h5⟩
  obtain ⟨a1, a2⟩ := h3 i hi
  rw [Array.getElem?_setIfInBounds, Array.getElem?_setIfInBounds, if_neg (by omega)]
  refine ⟨a1, ?_⟩
  by_cases e : i = k
  · subst e
    rw [if_pos rfl, if_pos (by omega), if_pos rfl]
  · rw [if_neg (by omega), if_neg e]
    exact a2
theorem Lv.pop (h : Lv W g d cap mv nx) {k : Nat} (hk : k ≤ d) : Lv W g k cap mv nx := by
  obtain ⟨⟨cs, h1, h2, h3⟩, h4, h5⟩ := h
  exact ⟨⟨cs, h1, h2, fun i hi => h3 i (by omega)⟩, by omega, h5⟩
theorem Lv.own (h : Lv W g d cap mv nx) {base : Nat} (hb : base ≤ g) : W.ownsRow base 109 2 (.slice (some ⟨g, 0, none⟩) d cap) d (flatV mv nx d) := by
  obtain ⟨⟨cs, h1, h2, h3⟩, h4, h5⟩ := h
  refine ⟨flatV_len _ _ _, .inr ⟨g, cap, cs, rfl, hb, h1, h4, h5, h2, ?_⟩⟩
  refine List.ext_getElem? fun j => ?_
  by_cases hj : j < d * 2
  · rw [List.getElem?_take_of_lt hj, Array.getElem?_toList]
    obtain ⟨a1, a2⟩ := h3 (j / 2) (by omega)
    obtain ⟨b1, b2⟩ := flatV_get mv nx d (j / 2) (by omega)
    rcases (by omega : j = j / 2 * 2 ∨ j = j / 2 * 2 + 1) with e | e
    · rw [e, a1, b1]
    · rw [e, a2, b2]
  · rw [List.getElem?_eq_none (by rw [List.length_take]; omega), List.getElem?_eq_none (by rw [flatV_len]; omega)]
end
theorem tLevelInfo1 : (Try.prog.info? 109).map (fun i => (i.zero, i.size, i.bytes)) = some (some (.agg #[.slice none 0 0, .int .i64 0]), 2, 32) := by kernel_rfl
set_option maxRecDepth 100000 in
theorem append_lv {ops : Array Oper} {rest : List Oper} {o : Oper} {a : Act} {Q : Exit → Act → World → Prop} (hgd : o.guard = none) (s x : Operand)
    (ho : o.op = .call { callee := .builtin .append, args := #[s, x], argTypes := #[110, 110] })
    {w : World} (base g d cap : Nat) (mv : Nat → Value) (nx : Nat → Nat) (m : Value) (hm : m.oneCell' = true) (hs : a.eval s = .slice (some ⟨g, 0, none⟩) d cap) (hown : Lv w g d cap mv nx) (hbg : base ≤ g)
    (hx : a.eval x = .slice (some ⟨w.heap.size, 0, none⟩) 1 1) (hlen : d < 100000000) (hbase : base ≤ w.heap.size) (hd1 : 1 ≤ d)
    (h : ∀ g' cap' w', Lv w' g' (d + 1) cap' (fun k => if k = d then m else mv k) (fun k => if k = d then 0 else nx k) → Below base w w' → (∀ b, b < w.heap.size → b ≠ g → w'.heap[b]? = w.heap[b]?) → w.heap.size ≤ w'.heap.size → (g' = g ∨ w.heap.size ≤ g') → wpList Try.prog ops Q rest (a.put o.dst (.slice (some ⟨g', 0, none⟩) (d + 1) cap')) w') :
    wpList Try.prog ops Q (o :: rest) a (w.alloc (.cells #[m, .int .i64 0] 109)) := by
  obtain ⟨i, hi, hz, hsz, hby⟩ := info_parts tLevelInfo1
  refine wpList_append_own_at (w.alloc (.cells #[m, .int .i64 0] 109)) hgd s x 110 ho base 109 i _ 2 32 Try.underlying110 hi hz hsz hby rfl (by omega) _ d (flatV mv nx d) hs ((hown.own hbg).alloc _) ⟨w.heap.size, 0, none⟩ 1 1
    [m, .int .i64 0] hx rfl ?_ (fun u hu => by
      simp only [List.mem_cons, List.not_mem_nil, or_false] at hu
      rcases hu with rfl | rfl
      · exact hm
      · rfl) (by unfold maxLen; omega) (by omega) (by simp; omega) ?_
  · intro j q hq
    rcases j with _ | _ | j <;> simp at hq
    · subst hq; simp [Addr.add]
    · subst hq; simp [Addr.add]
  · intro v' w' hown' hg _ hob
    have hsz2 : w.heap.size ≤ w'.heap.size := by have := hg.size; simp at this; omega
    obtain ⟨_, h2⟩ := hown'
    rcases h2 with ⟨_, h0⟩ | ⟨g', cap', cur, rfl, hg', hh, h4, h5, h6, h7⟩
    · omega
    have e : flatV mv nx d ++ [m, .int .i64 0] = flatV (fun k => if k = d then m else mv k) (fun k => if k = d then 0 else nx k) (d + 1) := by
      rw [flatV_succ]
      simp only [if_true]
      rw [flatV_congr mv (fun k => if k = d then m else mv k) nx (fun k => if k = d then 0 else nx k) d fun k hk => ⟨by rw [if_neg (by omega)], by rw [if_neg (by omega)]⟩]
      rfl
    rw [e] at h7
    refine h g' cap' w' ⟨⟨cur, hh, h6, fun k hk => ?_⟩, h4, h5⟩ ?_ (fun b hb hne => ?_) hsz2 ?_
    · obtain ⟨b1, b2⟩ := flatV_get (fun k => if k = d then m else mv k) (fun k => if k = d then 0 else nx k) (d + 1) k hk
      rw [← h7, List.getElem?_take_of_lt (by omega), Array.getElem?_toList] at b1 b2
      exact ⟨b1, b2⟩
    · refine ((Below.refl base w).alloc hbase _).grown hg (by simp; omega) ?_
      intro k hk
      have e : g = k := Option.some.inj hk
      omega
    · exact (hg.block b (by simp; omega) (fun e => hne (Option.some.inj (show some b = some g from e)))).trans (((Below.refl w.heap.size w).alloc (Nat.le_refl _) _).block b hb)
    · rcases hob with e | e
      · exact .inl (Option.some.inj e)
      · have e2 : g' = (w.alloc (.cells #[m, .int .i64 0] 109)).heap.size := Option.some.inj e
        right
        rw [e2, World.size_alloc]
        omega
end Go.Proofs.Ytcppcfinnbeboaa
