/- Texts joined: DsJ, DsK, DsL. -/
import Derived.Test.YtcppcfinnbeboaaGreatDsI
import Derived.Test.YtcppcfinnbeboaaGreatDsy

/- Law 47: the search's stack; a copy of the choices with its spans. -/
namespace Go.Proofs.YtcppcfinnbeboaaGreat
open Go.RowKit Go.Shelf

attribute [local go_sem ↓] eql_nilC
def CloneRetS (L : List Cho) (S : Nat → Value) (w : World) (e : Ending) (w' : World) : Prop := ∃ v, e = .returned v ∧ OutAt w' w.heap.size v L S ∧ Below w.heap.size w w'
set_option maxRecDepth 100000 in
theorem slCloneChoice_s (v : Value) (L : List Cho) (S : Nat → Value) (w : World) (hs : ChosIn w v L S) (hl : L.length ≤ 100000) (hpos : ∀ i, i < L.length → 0 < (cho L i).2.2.length) : Calls Tryz.prog 39 #[v] w (CloneRetS L S w) := by
  obtain ⟨A, c, rfl, hnc, hc⟩ := hs.form
  cases A with
  | none =>
    have hz : L.length = 0 := by
      rcases Nat.eq_zero_or_pos L.length with h | h
      · exact h
      · obtain ⟨b, off, h1, _⟩ := hs.addr h; cases h1
    obtain rfl : L = [] := List.length_eq_zero_iff.1 hz
    clear hs hnc hc hz
    go_enter Tryz.func39, Tryz.ntmps39
    go_wp2
    go_ret
    exact ⟨_, rfl, .inl ⟨rfl, none, 0, rfl, by omega⟩, Below.refl _ _⟩
  | some ad =>
    obtain ⟨i, hi, hz, hsz, hby⟩ := info_parts tChoiceInfo
    have hbA := (Below.refl w.heap.size w).alloc (Nat.le_refl _) (.cells #[] 31)
    have hsA := hs.below hbA
    have hone : ∀ u ∈ flatC L S L.length, u.oneCell' = true := fun u hu => by
      unfold flatC at hu
      obtain ⟨k, hk, hu⟩ := List.mem_flatMap.1 hu
      have hk := List.mem_range.1 hk
      obtain ⟨A2, c2, e2, _, _⟩ := (hs.2 k hk).form
      simp only [choCell, List.mem_cons, List.not_mem_nil, or_false] at hu
      rcases hu with rfl | rfl | rfl
      · rfl
      · rfl
      · simp only [if_true]; rw [e2]; rfl
    have hnews : ∀ j u, (flatC L S L.length)[j]? = some u → (w.alloc (.cells #[] 31)).cell? (ad.add j) = some u := fun j u hu => by
      have hj : j < L.length * 3 := by
        rcases Nat.lt_or_ge j (L.length * 3) with h | h
        · exact h
        · rw [List.getElem?_eq_none (by rw [flatC_len]; exact h)] at hu; cases hu
      obtain ⟨b, off, hb, _⟩ := hsA.addr (by omega)
      injection hb with hb
      subst hb
      have h1 := RowsIn.cells hsA.1 (j / 3) (j % 3) (by omega) (by omega)
      have h2 := flatC_get L S L.length (j / 3) (j % 3) (by omega) (by omega)
      rw [show j / 3 * 3 + j % 3 = j from by omega] at h2
      rw [h2] at hu
      rw [← Option.some.inj hu, ← h1]
      have e2 : (⟨b, off, none⟩ : Addr).add j = ⟨b, off + j, none⟩ := by simp [Addr.add]
      rw [e2, Nat.add_assoc off, show j / 3 * 3 + j % 3 = j from by omega]
    have Hone := Lib.hid hone; have Hnews := Lib.hid hnews; have HbA := Lib.hid hbA; have HsA := Lib.hid hsA; have Hs := Lib.hid hs; have Hl := Lib.hid hl
    clear hone hnews hbA hsA hs
    go_enter Tryz.func39, Tryz.ntmps39
    go_wp2_with (at_builtin; refine wpList_append_own_at (w := w.alloc (.cells #[] 31)) rfl _ _ 22 rfl w.heap.size 31 i _ 3 40 tChoices hi hz hsz hby rfl (by omega) _ 0 [] rfl (World.ownsRow_made w #[] 0 (Nat.le_refl _) (by unfold maxLen; omega) rfl) ad L.length c (flatC L S L.length) rfl (flatC_len _ _ _) Hnews.out Hone.out (by unfold maxLen; have := Hl.out; omega) (by have := Hl.out; omega) (by simp) ?_; intro v3 w1 hown1 hg1 _ _)
    go_ret
    have hb1 : Below w.heap.size w w1 := HbA.out.grown hg1 (by simp) (fun k hk => by
      have e : some w.heap.size = some k := hk
      injection e with e
      omega)
    refine ⟨v3, rfl, ?_, hb1⟩
    rw [Nat.zero_add, List.nil_append] at hown1
    obtain ⟨h0, h2⟩ := hown1
    rcases h2 with ⟨rfl, h3⟩ | ⟨g, cap, cur, rfl, hg, hh, h4, h5, h6, h7⟩
    · exact .inl ⟨List.length_eq_zero_iff.1 h3, none, 0, rfl, by omega⟩
    · refine .inr ⟨g, cap, rfl, h4, by unfold maxLen at h5; exact h5, hg, ⟨cur, hh, fun i j hi hj => ?_⟩, fun i hi => (Hs.out.2 i hi).below hb1, fun i hi e => ?_⟩
      · have e := flatC_get L S L.length i j hi hj
        rw [← h7, List.getElem?_take_of_lt (by omega), Array.getElem?_toList] at e
        exact e
      · have := (Hs.out.2 i hi).blk_lt (hpos i hi) g e
        omega
/-! ### the stack of levels -/
def flatV (mv : Nat → Value) (nx : Nat → Nat) (d : Nat) : List Value := (List.range d).flatMap fun k => [mv k, .int .i64 (nx k : Int)]
theorem flatV_succ (mv : Nat → Value) (nx : Nat → Nat) (d : Nat) : flatV mv nx (d + 1) = flatV mv nx d ++ [mv d, .int .i64 (nx d : Int)] := by
  unfold flatV
  rw [List.range_succ, List.flatMap_append]
  simp
theorem flatV_len (mv : Nat → Value) (nx : Nat → Nat) : ∀ d, (flatV mv nx d).length = d * 2
  | 0 => rfl
  | d + 1 => by rw [flatV_succ, List.length_append, flatV_len mv nx d]; simp; omega
theorem flatV_get (mv : Nat → Value) (nx : Nat → Nat) : ∀ d k, k < d → (flatV mv nx d)[k * 2]? = some (mv k) ∧ (flatV mv nx d)[k * 2 + 1]? = some (.int .i64 (nx k : Int))
  | 0, k, h => absurd h (by omega)
  | d + 1, k, h => by
    rw [flatV_succ]
    by_cases e : k < d
    · rw [List.getElem?_append_left (by rw [flatV_len]; omega), List.getElem?_append_left (by rw [flatV_len]; omega)]
      exact flatV_get mv nx d k e
    · obtain rfl : k = d := by omega
      rw [List.getElem?_append_right (by rw [flatV_len]; omega), List.getElem?_append_right (by rw [flatV_len]; omega), flatV_len]
      rw [show k * 2 - k * 2 = 0 from by omega, show k * 2 + 1 - k * 2 = 1 from by omega]
      exact ⟨rfl, rfl⟩
theorem flatV_congr (mv mw : Nat → Value) (nx ny : Nat → Nat) : ∀ d, (∀ k, k < d → mv k = mw k ∧ nx k = ny k) → flatV mv nx d = flatV mw ny d
  | 0, _ => rfl
  | d + 1, h => by
    rw [flatV_succ, flatV_succ, flatV_congr mv mw nx ny d fun k hk => h k (by omega), (h d (by omega)).1, (h d (by omega)).2]
/-- The stack: d levels in block g. -/
structure Lv (W : World) (g d cap : Nat) (mv : Nat → Value) (nx : Nat → Nat) : Prop where
  blk : ∃ cs : Array Value, W.heap[g]? = some (.cells cs 82 (0, 0)) ∧ cs.size = cap * 2 ∧ ∀ k, k < d → cs[k * 2]? = some (mv k) ∧ cs[k * 2 + 1]? = some (.int .i64 (nx k : Int))
  hd : d ≤ cap
  hc : cap ≤ maxLen
section
variable {W W' : World} {g d cap : Nat} {mv : Nat → Value} {nx : Nat → Nat}
theorem Lv.lt (h : Lv W g d cap mv nx) : g < W.heap.size := by obtain ⟨cs, h1, _⟩ := h.blk; exact blk_lt h1
theorem Lv.block (h : Lv W g d cap mv nx) (hb : W'.heap[g]? = W.heap[g]?) : Lv W' g d cap mv nx := by
  obtain ⟨⟨cs, h1, h2⟩, h3, h4⟩ := h
  exact ⟨⟨cs, hb.trans h1, h2⟩, h3, h4⟩
theorem Lv.c0 (h : Lv W g d cap mv nx) (k : Nat) (hk : k < d) : W.cell? ⟨g, k * 2, none⟩ = some (mv k) := by
  obtain ⟨cs, h1, h2, h3⟩ := h.blk
  rw [blk_get h1]
  exact (h3 k hk).1
theorem Lv.c1 (h : Lv W g d cap mv nx) (k : Nat) (hk : k < d) : W.cell? ⟨g, k * 2 + 1, none⟩ = some (.int .i64 (nx k : Int)) := by
  obtain ⟨cs, h1, h2, h3⟩ := h.blk
  rw [blk_get h1]
  exact (h3 k hk).2
theorem Lv.soft (h : Lv W g d cap mv nx) (j : Nat) : W.frozen? ⟨g, j, none⟩ = false := by
  obtain ⟨cs, h1, _⟩ := h.blk
  exact blk_soft h1 j
/-- The number of the span that is tried next is stored. -/
theorem Lv.set (h : Lv W g d cap mv nx) (k : Nat) (hk : k < d) (x : Nat) : Lv (W.setCell ⟨g, k * 2 + 1, none⟩ (.int .i64 (x : Int))) g d cap mv (fun i => if i = k then x else nx i) := by
  obtain ⟨⟨cs, h1, h2, h3⟩, h4, h5⟩ := h
  refine ⟨⟨_, blk_set h1 _ _, by simpa using h2, fun i hi => ?_⟩, h4, h5⟩
  obtain ⟨a1, a2⟩ := h3 i hi
  rw [Array.getElem?_setIfInBounds, Array.getElem?_setIfInBounds, if_neg (by omega)]
  refine ⟨a1, ?_⟩
  by_cases e : i = k
  · subst e
    rw [if_pos rfl, if_pos (by omega), if_pos rfl]
  · rw [if_neg (by omega), if_neg e]
    exact a2
theorem Lv.pop (h : Lv W g d cap mv nx) {k : Nat} (hk : k ≤ d) : Lv W g k cap mv nx := by
  obtain ⟨⟨cs, h1, h2, h3⟩, h4, h5⟩ := h
  exact ⟨⟨cs, h1, h2, fun i hi => h3 i (by omega)⟩, by omega, h5⟩
theorem Lv.own (h : Lv W g d cap mv nx) {base : Nat} (hb : base ≤ g) : W.ownsRow base 82 2 (.slice (some ⟨g, 0, none⟩) d cap) d (flatV mv nx d) := by
  obtain ⟨⟨cs, h1, h2, h3⟩, h4, h5⟩ := h
  refine ⟨flatV_len _ _ _, .inr ⟨g, cap, cs, rfl, hb, h1, h4, h5, h2, ?_⟩⟩
  refine List.ext_getElem? fun j => ?_
  by_cases hj : j < d * 2
  · rw [List.getElem?_take_of_lt hj, Array.getElem?_toList]
    obtain ⟨a1, a2⟩ := h3 (j / 2) (by omega)
    obtain ⟨b1, b2⟩ := flatV_get mv nx d (j / 2) (by omega)
    rcases (by omega : j = j / 2 * 2 ∨ j = j / 2 * 2 + 1) with e | e
    · rw [e, a1, b1]
    · rw [e, a2, b2]
  · rw [List.getElem?_eq_none (by rw [List.length_take]; omega), List.getElem?_eq_none (by rw [flatV_len]; omega)]
end
theorem tLevelInfo1 : (Tryz.prog.info? 82).map (fun i => (i.zero, i.size, i.bytes)) = some (some (.agg #[.slice none 0 0, .int .i64 0]), 2, 32) := by kernel_rfl
set_option maxRecDepth 100000 in
theorem append_lv {ops : Array Oper} {rest : List Oper} {o : Oper} {a : Act} {Q : Exit → Act → World → Prop} (hgd : o.guard = none) (s x : Operand)
    (ho : o.op = .call { callee := .builtin .append, args := #[s, x], argTypes := #[83, 83] })
    {w : World} (base g d cap : Nat) (mv : Nat → Value) (nx : Nat → Nat) (m : Value) (hm : m.oneCell' = true) (hs : a.eval s = .slice (some ⟨g, 0, none⟩) d cap) (hown : Lv w g d cap mv nx) (hbg : base ≤ g)
    (hx : a.eval x = .slice (some ⟨w.heap.size, 0, none⟩) 1 1) (hlen : d < 100000000) (hbase : base ≤ w.heap.size) (hd1 : 1 ≤ d)
    (h : ∀ g' cap' w', Lv w' g' (d + 1) cap' (fun k => if k = d then m else mv k) (fun k => if k = d then 0 else nx k) → Below base w w' → (∀ b, b < w.heap.size → b ≠ g → w'.heap[b]? = w.heap[b]?) → w.heap.size ≤ w'.heap.size → (g' = g ∨ w.heap.size ≤ g') → wpList Tryz.prog ops Q rest (a.put o.dst (.slice (some ⟨g', 0, none⟩) (d + 1) cap')) w') :
    wpList Tryz.prog ops Q (o :: rest) a (w.alloc (.cells #[m, .int .i64 0] 82)) := by
  obtain ⟨i, hi, hz, hsz, hby⟩ := info_parts tLevelInfo1
  refine wpList_append_own_at (w.alloc (.cells #[m, .int .i64 0] 82)) hgd s x 83 ho base 82 i _ 2 32 Tryz.underlying83 hi hz hsz hby rfl (by omega) _ d (flatV mv nx d) hs ((hown.own hbg).alloc _) ⟨w.heap.size, 0, none⟩ 1 1
    [m, .int .i64 0] hx rfl ?_ (fun u hu => by
      simp only [List.mem_cons, List.not_mem_nil, or_false] at hu
      rcases hu with rfl | rfl
      · exact hm
      · rfl) (by unfold maxLen; omega) (by omega) (by simp; omega) ?_
  · intro j q hq
    rcases j with _ | _ | j <;> simp at hq
    · subst hq; simp [Addr.add]
    · subst hq; simp [Addr.add]
  · intro v' w' hown' hg _ hob
    have hsz2 : w.heap.size ≤ w'.heap.size := by have := hg.size; simp at this; omega
    obtain ⟨_, h2⟩ := hown'
    rcases h2 with ⟨_, h0⟩ | ⟨g', cap', cur, rfl, hg', hh, h4, h5, h6, h7⟩
    · omega
    have e : flatV mv nx d ++ [m, .int .i64 0] = flatV (fun k => if k = d then m else mv k) (fun k => if k = d then 0 else nx k) (d + 1) := by
      rw [flatV_succ]
      simp only [if_true]
      rw [flatV_congr mv (fun k => if k = d then m else mv k) nx (fun k => if k = d then 0 else nx k) d fun k hk => ⟨by rw [if_neg (by omega)], by rw [if_neg (by omega)]⟩]
      rfl
    rw [e] at h7
    refine h g' cap' w' ⟨⟨cur, hh, h6, fun k hk => ?_⟩, h4, h5⟩ ?_ (fun b hb hne => ?_) hsz2 ?_
    · obtain ⟨b1, b2⟩ := flatV_get (fun k => if k = d then m else mv k) (fun k => if k = d then 0 else nx k) (d + 1) k hk
      rw [← h7, List.getElem?_take_of_lt (by omega), Array.getElem?_toList] at b1 b2
      exact ⟨b1, b2⟩
    · refine ((Below.refl base w).alloc hbase _).grown hg (by simp; omega) ?_
      intro k hk
      have e : g = k := Option.some.inj hk
      omega
    · exact (hg.block b (by simp; omega) (fun e => hne (Option.some.inj (show some b = some g from e)))).trans (((Below.refl w.heap.size w).alloc (Nat.le_refl _) _).block b hb)
    · rcases hob with e | e
      · exact .inl (Option.some.inj e)
      · have e2 : g' = (w.alloc (.cells #[m, .int .i64 0] 82)).heap.size := Option.some.inj e
        right
        rw [e2, World.size_alloc]
        omega
end Go.Proofs.YtcppcfinnbeboaaGreat

/- Law 47: the state of the search. -/
namespace Go.Proofs.YtcppcfinnbeboaaGreat
open Go.RowKit Go.Shelf

/-! ### the rounds that are left -/
def wtL : List Cho → Nat
  | [] => 1
  | c :: r => c.2.2.length * (wtL r + 1) + 1
def restV (L : List Cho) (k x : Nat) : Nat := if k < L.length then ((cho L k).2.2.length - x) * (wtL (L.drop (k + 1)) + 1) + 1 else 1
def muV (L : List Cho) (nx : Nat → Nat) : Nat → Nat
  | 0 => 0
  | d + 1 => muV L nx d + restV L d (nx d)
theorem muV_congr (L : List Cho) (nx ny : Nat → Nat) : ∀ d, (∀ k, k < d → nx k = ny k) → muV L nx d = muV L ny d
  | 0, _ => rfl
  | d + 1, h => by
    unfold muV
    rw [muV_congr L nx ny d fun k hk => h k (by omega), h d (by omega)]
theorem rest_pos (L : List Cho) (k x : Nat) : 1 ≤ restV L k x := by
  unfold restV
  split <;> omega
theorem rest_zero (L : List Cho) {k : Nat} (hk : k ≤ L.length) : restV L k 0 = wtL (L.drop k) := by
  unfold restV
  split
  · next h =>
    rw [List.drop_eq_getElem_cons h, cho_at h]
    rfl
  · next h =>
    rw [List.drop_eq_nil_of_le (by omega)]
    rfl
theorem rest_step (L : List Cho) {k x : Nat} (hk : k < L.length) (hx : x < (cho L k).2.2.length) : restV L k x = restV L k (x + 1) + (wtL (L.drop (k + 1)) + 1) := by
  unfold restV
  rw [if_pos hk, if_pos hk, show (cho L k).2.2.length - x = ((cho L k).2.2.length - (x + 1)) + 1 from by omega, Nat.add_mul, Nat.one_mul]
  omega
/-! ### what is known of a matrix on the way -/
def difC (c : Cho) (x : Nat → Int) : Int := x c.2.1.toNat - x c.1.toNat
def PathOk (N : Nat) (L : List Cho) (k : Nat) (bl : List Bnd) (P : Mat) : Prop :=
  bl.all (bndB (N : Int)) = true ∧ tightX N bl = some P ∧ ∀ x, SatL bl x → ∀ i, i < k → mem (cho L i).2.2 (difC (cho L i) x) = true
def MatOk (N : Nat) (L : List Cho) (P : Mat) : Prop := ∃ bl, PathOk N L L.length bl P
def spanJ (c : Cho) (j : Nat) : Sp := (fr c.2.2 j, tt c.2.2 j)
theorem satL_bnd2 (c : Cho) (s : Sp) (x : Nat → Int) : SatL (bnd2 c s) x ↔ s.1 ≤ difC c x ∧ difC c x < s.2 := by
  unfold SatL bnd2 difC
  constructor
  · intro h
    have h1 := h _ (List.mem_cons_self ..)
    have h2 := h _ (List.mem_cons_of_mem _ (List.mem_cons_self ..))
    simp only at h1 h2
    omega
  · intro h b hb
    simp only [List.mem_cons, List.not_mem_nil, or_false] at hb
    rcases hb with rfl | rfl <;> simp only <;> omega
theorem mem_spanJ {c : Cho} {j : Nat} (hj : j < c.2.2.length) {y : Int} (h : (spanJ c j).1 ≤ y ∧ y < (spanJ c j).2) : mem c.2.2 y = true := by
  rw [mem_iff]
  refine ⟨c.2.2[j], List.getElem_mem _, ?_⟩
  have e : c.2.2[j] = spanJ c j := by
    unfold spanJ fr tt
    rw [List.getD_eq_getElem?_getD, List.getElem?_eq_getElem hj]
    rfl
  rw [e]
  exact h
theorem mem_ex {c : Cho} {y : Int} (h : mem c.2.2 y = true) : ∃ j, j < c.2.2.length ∧ (spanJ c j).1 ≤ y ∧ y < (spanJ c j).2 := by
  obtain ⟨s, h1, h2⟩ := mem_iff.1 h
  obtain ⟨j, hj, e⟩ := mem_idx h1
  exact ⟨j, hj, by unfold spanJ; rw [← e]; exact h2⟩
theorem PathOk.push {N : Nat} {L : List Cho} {k : Nat} {bl : List Bnd} {P P2 : Mat} (h : PathOk N L k bl P) (hc : ChoN (N : Int) (cho L k)) {j : Nat} (hj : j < (cho L k).2.2.length) (hs : spB (spanJ (cho L k) j) = true)
    (ht : tightX N (bl ++ bnd2 (cho L k) (spanJ (cho L k) j)) = some P2) : PathOk N L (k + 1) (bl ++ bnd2 (cho L k) (spanJ (cho L k) j)) P2 := by
  obtain ⟨h1, h2, h3⟩ := h
  refine ⟨by rw [List.all_append, h1, bnd2_ok hc hs]; rfl, ht, fun x hx i hi => ?_⟩
  obtain ⟨a, b⟩ := (satL_app _ _ _).1 hx
  by_cases e : i < k
  · exact h3 x a i e
  · obtain rfl : i = k := by omega
    exact mem_spanJ hj ((satL_bnd2 _ _ _).1 b)
/-! ### the state -/
structure Kz (base zs : Nat) (W W' : World) : Prop where
  bel : Below base W W'
  oth : ∀ b, zs ≤ b → b < W.heap.size → W'.heap[b]? = W.heap[b]?
section
variable {base zs : Nat} {W W' W2 : World}
theorem Kz.refl : Kz base zs W W := ⟨Below.refl _ _, fun _ _ _ => rfl⟩
theorem Kz.trans (h : Kz base zs W W') (h2 : Kz base zs W' W2) : Kz base zs W W2 := ⟨h.bel.trans h2.bel, fun b hb hg => (h2.oth b hb (Nat.lt_of_lt_of_le hg h.bel.size)).trans (h.oth b hb hg)⟩
theorem Kz.of (h : Below W.heap.size W W') (hb : base ≤ W.heap.size) : Kz base zs W W' := ⟨h.mono hb, fun b _ hb => h.block b hb⟩
theorem Kz.set (h : Kz base zs W W') {g : Nat} (h1 : W.heap.size ≤ g) (h2 : base ≤ g) (j : Nat) (u : Value) : Kz base zs W (W'.setCell ⟨g, j, none⟩ u) :=
  ⟨h.bel.setCell (p := ⟨g, j, none⟩) h2 u, fun b hb hl => (blk_oth (show b ≠ g by omega) _ _).trans (h.oth b hb hl)⟩
end
/-- What the visitor does. -/
def VisRet (base zs : Nat) (J Dn : List Mat → World → Prop) (vs : List Mat) (X : World) (e : Ending) (w' : World) : Prop := ∃ b, e = .returned (.bool b) ∧ Kz base zs X w' ∧ if b then J vs w' else Dn vs w'
structure Visitor (base zs N : Nat) (f : FuncId) (caps : Array Value) (J Dn : List Mat → World → Prop) : Prop where
  ent : ∀ (args : Array Value) (w : World), Sem.run Tryz.prog (callFunc f args) w = .ok (.enter f args) w
  keep : ∀ vs X X', J vs X → Below zs X X' → J vs X'
  call : ∀ X vm P vs, J vs X → zs ≤ X.heap.size → MatP (zs ≤ ·) X vm N P → Clo N P → Near N 26843545600 P → Calls Tryz.prog f (#[vm] ++ caps) X (VisRet base zs J Dn (vs ++ [P]) X)
/-- A solution that is yet to be met: below a level of the stack. -/
def pendV (N : Nat) (L : List Cho) (nx : Nat → Nat) (PM : Nat → Mat) (k : Nat) (x : Nat → Int) : Prop :=
  SatM N (PM k) x ∧ (k < L.length → ∃ j, nx k ≤ j ∧ j < (cho L k).2.2.length ∧ (spanJ (cho L k) j).1 ≤ difC (cho L k) x ∧ difC (cho L k) x < (spanJ (cho L k) j).2)
structure SStat (base zs N : Nat) (L : List Cho) (W0 : World) (J : List Mat → World → Prop) (T : (Nat → Int) → Prop) (d g cap : Nat) (mv : Nat → Value) (nx : Nat → Nat) (PM : Nat → Mat) (bl : Nat → List Bnd) (vs : List Mat) (W : World) : Prop where
  keep : Kz base zs W0 W
  lv : Lv W g d cap mv nx
  hg : W0.heap.size ≤ g
  d1 : d ≤ L.length + 1
  mats : ∀ k, k < d → MatP (fun b => zs ≤ b ∧ b ≠ g) W (mv k) N (PM k)
  nxl : ∀ k, k < d → k < L.length → nx k ≤ (cho L k).2.2.length
  path : ∀ k, k < d → PathOk N L k (bl k) (PM k)
  vis : ∀ P ∈ vs, MatOk N L P
  j : J vs W
  cov : ∀ x, SatN L x → (∃ P ∈ vs, SatM N P x) ∨ (∃ k, k < d ∧ pendV N L nx PM k x) ∨ T x
def noT : (Nat → Int) → Prop := fun _ => False
section
variable {base zs N : Nat} {L : List Cho} {W0 : World} {J Dn : List Mat → World → Prop} {T : (Nat → Int) → Prop} {d g cap : Nat} {mv : Nat → Value} {nx : Nat → Nat} {PM : Nat → Mat} {bl : Nat → List Bnd} {vs : List Mat} {W W' : World} {f : FuncId} {caps : Array Value}
/-- Memory is made. -/
theorem SStat.below (hV : Visitor base zs N f caps J Dn) (hb0 : base ≤ zs) (hz : zs ≤ W0.heap.size) (h : SStat base zs N L W0 J T d g cap mv nx PM bl vs W) (hb : Below W.heap.size W W') : SStat base zs N L W0 J T d g cap mv nx PM bl vs W' := by
  have hs := h.keep.bel.size
  exact ⟨h.keep.trans (Kz.of hb (by omega)), h.lv.block (hb.block _ h.lv.lt), h.hg, h.d1, fun k hk => (h.mats k hk).below hb, h.nxl, h.path, h.vis, hV.keep _ _ _ h.j (hb.mono (by omega)), h.cov⟩
/-- A leaf is visited and left. -/
theorem SStat.visit (hz : zs ≤ W0.heap.size) (h : SStat base zs N L W0 J noT (d + 1) g cap mv nx PM bl vs W) (hd : d = L.length) (hk : Kz base zs W W') (hj : J (vs ++ [PM d]) W') : SStat base zs N L W0 J noT d g cap mv nx PM bl (vs ++ [PM d]) W' := by
  have hgz := h.hg
  refine ⟨h.keep.trans hk, (h.lv.block (hk.oth _ (by omega) h.lv.lt)).pop (Nat.le_succ d), h.hg, by omega, fun k hk2 => (h.mats k (by omega)).keep hk.bel.size fun b hb hp => hk.oth b hp.1 hb, fun k hk2 => h.nxl k (by omega), fun k hk2 => h.path k (by omega), fun P hP => ?_, hj, fun x hx => ?_⟩
  · rcases List.mem_append.1 hP with h1 | h1
    · exact h.vis P h1
    · rw [List.mem_singleton.1 h1]
      exact ⟨bl d, by have := h.path d (by omega); rw [hd] at this ⊢; exact this⟩
  · rcases h.cov x hx with ⟨P, h1, h2⟩ | ⟨k, h1, h2⟩ | h1
    · exact .inl ⟨P, List.mem_append_left _ h1, h2⟩
    · by_cases e : k < d
      · exact .inr (.inl ⟨k, e, h2⟩)
      · obtain rfl : k = d := by omega
        exact .inl ⟨PM k, List.mem_append_right _ (List.mem_singleton.2 rfl), h2.1⟩
    · exact absurd h1 id
/-- A level whose spans are all tried is left. -/
theorem SStat.pop (h : SStat base zs N L W0 J noT (d + 1) g cap mv nx PM bl vs W) (hd : d < L.length) (hn : (cho L d).2.2.length ≤ nx d) : SStat base zs N L W0 J noT d g cap mv nx PM bl vs W := by
  refine ⟨h.keep, h.lv.pop (Nat.le_succ d), h.hg, by have := h.d1; omega, fun k hk => h.mats k (by omega), fun k hk => h.nxl k (by omega), fun k hk => h.path k (by omega), h.vis, h.j, fun x hx => ?_⟩
  rcases h.cov x hx with h1 | ⟨k, h1, h2⟩ | h1
  · exact .inl h1
  · by_cases e : k < d
    · exact .inr (.inl ⟨k, e, h2⟩)
    · obtain rfl : k = d := by omega
      obtain ⟨j, a, b, _⟩ := h2.2 hd
      omega
  · exact absurd h1 id
/-- The next span is taken. -/
def tryT (N : Nat) (L : List Cho) (PM : Nat → Mat) (d j : Nat) : (Nat → Int) → Prop := fun x => SatM N (PM d) x ∧ (spanJ (cho L d) j).1 ≤ difC (cho L d) x ∧ difC (cho L d) x < (spanJ (cho L d) j).2
def nxS (nx : Nat → Nat) (d : Nat) : Nat → Nat := fun i => if i = d then nx d + 1 else nx i
theorem SStat.take (hV : Visitor base zs N f caps J Dn) (hb0 : base ≤ zs) (hz : zs ≤ W0.heap.size) (h : SStat base zs N L W0 J noT (d + 1) g cap mv nx PM bl vs W) (hd : d < L.length) (hn : nx d < (cho L d).2.2.length) :
    SStat base zs N L W0 J (tryT N L PM d (nx d)) (d + 1) g cap mv (nxS nx d) PM bl vs (W.setCell ⟨g, d * 2 + 1, none⟩ (.int .i64 ((nx d + 1 : Nat) : Int))) := by
  have hgz := h.hg
  refine ⟨h.keep.set h.hg (by omega) _ _, h.lv.set d (by omega) (nx d + 1), h.hg, h.d1, fun k hk => (h.mats k hk).keep (by simp [World.setCell]) fun b hb hp => blk_oth hp.2 _ _, fun k hk hl => ?_, h.path, h.vis, hV.keep _ _ _ h.j ((Below.refl _ _).setCell (p := ⟨g, d * 2 + 1, none⟩) (show zs ≤ g by omega) _), fun x hx => ?_⟩
  · unfold nxS
    by_cases e : k = d
    · rw [if_pos e]; subst e; omega
    · rw [if_neg e]; exact h.nxl k hk hl
  · rcases h.cov x hx with h1 | ⟨k, h1, h2⟩ | h1
    · exact .inl h1
    · by_cases e : k = d
      · subst e
        obtain ⟨j, a, b, c1, c2⟩ := h2.2 hd
        by_cases e2 : j = nx k
        · subst e2
          exact .inr (.inr ⟨h2.1, c1, c2⟩)
        · exact .inr (.inl ⟨k, h1, h2.1, fun _ => ⟨j, by unfold nxS; rw [if_pos rfl]; omega, b, c1, c2⟩⟩)
      · exact .inr (.inl ⟨k, h1, h2.1, fun hl => by unfold nxS; rw [if_neg e]; exact h2.2 hl⟩)
    · exact absurd h1 id
/-- The span leaves nothing. -/
theorem SStat.fail (h1 : 1 ≤ N) (hN : N ≤ 24) (hc : ∀ i, i < L.length → ChoN (N : Int) (cho L i)) {j : Nat} (h : SStat base zs N L W0 J (tryT N L PM d j) (d + 1) g cap mv nx PM bl vs W) (hd : d < L.length) (hs : spB (spanJ (cho L d) j) = true) (ht : tightX N (bl d ++ bnd2 (cho L d) (spanJ (cho L d) j)) = none) : SStat base zs N L W0 J noT (d + 1) g cap mv nx PM bl vs W := by
  refine ⟨h.keep, h.lv, h.hg, h.d1, h.mats, h.nxl, h.path, h.vis, h.j, fun x hx => ?_⟩
  rcases h.cov x hx with a | a | a
  · exact .inl a
  · exact .inr (.inl a)
  · exfalso
    obtain ⟨p1, p2, p3⟩ := h.path d (by omega)
    have hbl : (bl d ++ bnd2 (cho L d) (spanJ (cho L d) j)).all (bndB (N : Int)) = true := by rw [List.all_append, p1, bnd2_ok (hc d hd) hs]; rfl
    refine tightX_none (x := x) hbl ht ((satL_app _ _ _).2 ⟨((tightX_some h1 hN p1 p2).2.2 x).1 a.1, (satL_bnd2 _ _ _).2 a.2⟩)
/-- The span is taken: a level more. -/
theorem SStat.push (hV : Visitor base zs N f caps J Dn) (hb0 : base ≤ zs) (h1 : 1 ≤ N) (hN : N ≤ 24) (hc : ∀ i, i < L.length → ChoN (N : Int) (cho L i)) {j : Nat} {m : Value} {P2 : Mat} {g' cap' : Nat} (h : SStat base zs N L W0 J (tryT N L PM d j) (d + 1) g cap mv nx PM bl vs W) (hd : d < L.length) (hjl : j < (cho L d).2.2.length) (hs : spB (spanJ (cho L d) j) = true) (ht : tightX N (bl d ++ bnd2 (cho L d) (spanJ (cho L d) j)) = some P2)
    (hm : MatP (fun b => zs ≤ b ∧ b ≠ g) W m N P2) (hl : Lv W' g' (d + 2) cap' (fun k => if k = d + 1 then m else mv k) (fun k => if k = d + 1 then 0 else nx k)) (hb : Below zs W W') (hbo : ∀ b, b < W.heap.size → b ≠ g → W'.heap[b]? = W.heap[b]?) (hsz : W.heap.size ≤ W'.heap.size) (hg' : g' = g ∨ W.heap.size ≤ g') :
    SStat base zs N L W0 J noT (d + 2) g' cap' (fun k => if k = d + 1 then m else mv k) (fun k => if k = d + 1 then 0 else nx k) (fun k => if k = d + 1 then P2 else PM k) (fun k => if k = d + 1 then bl d ++ bnd2 (cho L d) (spanJ (cho L d) j) else bl k) vs W' := by
  have hgz := h.hg
  have hs0 := h.keep.bel.size
  have hmk : ∀ {u : Value} {P : Mat}, MatP (fun b => zs ≤ b ∧ b ≠ g) W u N P → MatP (fun b => zs ≤ b ∧ b ≠ g') W' u N P := fun hu => by
    refine ((hu.mono (q := fun b => zs ≤ b ∧ b ≠ g ∧ b ≠ g') fun b hb hp => ⟨hp.1, hp.2, ?_⟩).keep hsz fun b hb hp => hbo b hb hp.2.1).mono fun b _ hp => ⟨hp.1, hp.2.2⟩
    rcases hg' with e | e
    · rw [e]; exact hp.2
    · omega
  refine ⟨⟨h.keep.bel.trans (hb.mono hb0), fun b hb1 hb2 => (hbo b (by omega) (by omega)).trans (h.keep.oth b hb1 hb2)⟩, hl, by rcases hg' with e | e <;> omega, by have := h.d1; omega, fun k hk => ?_, fun k hk hkl => ?_, fun k hk => ?_, h.vis, hV.keep _ _ _ h.j hb, fun x hx => ?_⟩
  · by_cases e : k = d + 1
    · simp only [if_pos e]; exact hmk hm
    · simp only [if_neg e]; exact hmk (h.mats k (by omega))
  · by_cases e : k = d + 1
    · simp only [if_pos e]; exact Nat.zero_le _
    · simp only [if_neg e]; exact h.nxl k (by omega) hkl
  · by_cases e : k = d + 1
    · simp only [if_pos e]; rw [e]; exact (h.path d (by omega)).push (hc d hd) hjl hs ht
    · simp only [if_neg e]; exact h.path k (by omega)
  · rcases h.cov x hx with a | ⟨k, a1, a2⟩ | a
    · exact .inl a
    · refine .inr (.inl ⟨k, by omega, ?_⟩)
      unfold pendV at a2 ⊢
      simp only [if_neg (show ¬ k = d + 1 by omega)]
      exact a2
    · refine .inr (.inl ⟨d + 1, by omega, ?_⟩)
      unfold pendV
      simp only [if_true]
      obtain ⟨p1, p2, p3⟩ := h.path d (by omega)
      have hbl : (bl d ++ bnd2 (cho L d) (spanJ (cho L d) j)).all (bndB (N : Int)) = true := by rw [List.all_append, p1, bnd2_ok (hc d hd) hs]; rfl
      refine ⟨((tightX_some h1 hN hbl ht).2.2 x).2 ((satL_app _ _ _).2 ⟨((tightX_some h1 hN p1 p2).2.2 x).1 a.1, (satL_bnd2 _ _ _).2 a.2⟩), fun hkl => ?_⟩
      obtain ⟨i, b1, b2, b3⟩ := mem_ex (hx (d + 1) hkl)
      exact ⟨i, Nat.zero_le _, b1, b2, b3⟩
end
/-! ### the measure at a step -/
theorem mu_pop (L : List Cho) (nx : Nat → Nat) (d : Nat) : muV L nx d < muV L nx (d + 1) := by
  have := rest_pos L d (nx d)
  show _ < muV L nx d + restV L d (nx d)
  omega
theorem mu_take {L : List Cho} {nx : Nat → Nat} {d : Nat} (hd : d < L.length) (hn : nx d < (cho L d).2.2.length) : muV L nx (d + 1) = muV L (nxS nx d) (d + 1) + (wtL (L.drop (d + 1)) + 1) := by
  show muV L nx d + restV L d (nx d) = muV L (nxS nx d) d + restV L d (nxS nx d d) + _
  rw [muV_congr L (nxS nx d) nx d fun k hk => by unfold nxS; rw [if_neg (by omega)], rest_step L hd hn]
  unfold nxS
  rw [if_pos rfl]
  omega
theorem mu_push {L : List Cho} {nx : Nat → Nat} {d : Nat} (hd : d < L.length) : muV L (fun k => if k = d + 1 then 0 else nx k) (d + 2) = muV L nx (d + 1) + wtL (L.drop (d + 1)) := by
  show muV L (fun k => if k = d + 1 then 0 else nx k) (d + 1) + restV L (d + 1) (if d + 1 = d + 1 then 0 else nx (d + 1)) = _
  rw [muV_congr L (fun k => if k = d + 1 then 0 else nx k) nx (d + 1) fun k hk => by rw [if_neg (by omega)], if_pos rfl, rest_zero L (by omega)]
end Go.Proofs.YtcppcfinnbeboaaGreat

/- Law 47: the search. -/
namespace Go.Proofs.YtcppcfinnbeboaaGreat
open Go.RowKit Go.Shelf

theorem tight_nil {N : Nat} (h1 : 1 ≤ N) (hN : N ≤ 24) : ∃ P, tightX N [] = some P ∧ ∀ i j, i < N → j < N → openM i j = P i j := by
  cases h : tightX N [] with
  | none => exact absurd (satL_nil (fun _ => 0)) (tightX_none (by rfl) h)
  | some P =>
    refine ⟨P, rfl, fun i j hi hj => ?_⟩
    obtain ⟨a, b, c⟩ := tightX_some h1 hN (by rfl) h
    have ho : ∀ i j, openM i j < noneD → i = j := fun i j h => by
      unfold openM at h
      split at h
      · assumption
      · omega
    refine clo_unique (c := 0) (d := 26843545600) ⟨fun i j v _ _ _ h1 h2 => ?_, fun i _ => by unfold openM; rw [if_pos rfl]⟩ (fun i j _ _ => ?_) (Int.le_refl _) a b (by omega) (fun x => ⟨fun _ => (c x).2 (satL_nil x), fun _ i j _ _ h => ?_⟩) hi hj
    · obtain rfl := ho _ _ h1
      obtain rfl := ho _ _ h2
      exact ⟨h1, by unfold openM; simp⟩
    · unfold openM noneD
      split <;> omega
    · obtain rfl := ho _ _ h
      unfold openM
      simp
theorem satN_perm {L l : List Cho} (h : L.Perm l) (x : Nat → Int) : SatN L x ↔ SatN l x := by
  have key : ∀ K : List Cho, SatN K x ↔ ∀ c ∈ K, mem c.2.2 (difC c x) = true := fun K => by
    constructor
    · intro h c hc
      obtain ⟨i, hi, rfl⟩ := List.getElem_of_mem hc
      have := h i hi
      rw [← cho_at hi] at this
      exact this
    · intro h i hi
      rw [← cho_at hi]
      exact h _ (List.getElem_mem _)
  rw [key, key]
  exact ⟨fun a c hc => a c (h.mem_iff.2 hc), fun a c hc => a c (h.mem_iff.1 hc)⟩
theorem perm_cho {L l : List Cho} (h : L.Perm l) {p : Cho → Prop} (hp : ∀ i, i < l.length → p (cho l i)) : ∀ i, i < L.length → p (cho L i) := fun i hi => by
  have h1 : cho L i ∈ L := by rw [← cho_at hi]; exact List.getElem_mem _
  obtain ⟨j, hj, e⟩ := List.getElem_of_mem (h.mem_iff.1 h1)
  rw [← e, cho_at hj]
  exact hp j hj
theorem sizeN_prod (l : List Cho) : ∀ k, k ≤ l.length → sizeN l k = ((l.take k).map fun c => c.2.2.length).foldr (· * ·) 1
  | 0, _ => rfl
  | k + 1, h => by
    have hf : ∀ (a : List Nat) (x : Nat), (a ++ [x]).foldr (· * ·) 1 = a.foldr (· * ·) 1 * x := fun a x => by
      induction a with
      | nil => simp
      | cons y a ih => simp only [List.cons_append, List.foldr_cons, ih, Nat.mul_assoc]
    rw [List.take_succ_eq_append_getElem (by omega), List.map_append, List.map_singleton, hf, ← sizeN_prod l k (by omega), cho_at (by omega)]
    rfl
theorem sizeN_perm {L l : List Cho} (h : L.Perm l) : sizeN L L.length = sizeN l l.length := by
  rw [sizeN_prod L _ (Nat.le_refl _), sizeN_prod l _ (Nat.le_refl _), List.take_length, List.take_length]
  have key : ∀ a b : List Nat, a.Perm b → a.foldr (· * ·) 1 = b.foldr (· * ·) 1 := fun a b hab => by
   induction hab with
   | nil => rfl
   | cons x _ ih => simp only [List.foldr_cons, ih]
   | swap x y l => simp only [List.foldr_cons]; rw [← Nat.mul_assoc, ← Nat.mul_assoc, Nat.mul_comm y x]
   | trans _ _ a b => exact a.trans b
  exact key _ _ (h.map fun c : Cho => c.2.2.length)
def SrtRet47 (Z : Value → List Sp → Prop) (l : List Cho) (o : Value) (base : Nat) (W : World) (e : Ending) (w' : World) : Prop :=
  e = .returned (.tuple #[]) ∧ (∃ L S, L.Perm l ∧ OutAt w' base o L S ∧ ∀ i, i < L.length → Z (S i) (cho L i).2.2) ∧ Below base W w'
theorem sort_all (Z : Value → List Sp → Prop) (l : List Cho) (S : Nat → Value) (o : Value) (B base : Nat) (W : World) (ho : OutAt W base o l S) (hZ : ∀ i, i < l.length → Z (S i) (cho l i).2.2) (hB : W.heap[B]? = some (.cells #[o] 22 (0, 0))) (hb : B < base) (hw : base ≤ W.heap.size) (hl : l.length ≤ 1000) :
    Calls Tryz.prog 51 #[.iface 22 o, .func (.func 52) #[] #[.pointer (some ⟨B, 0, none⟩)]] W (SrtRet47 Z l o base W) := by
  have tiny : l.length ≤ 1 → (∃ A c, o = .slice A l.length c) → Calls Tryz.prog 51 #[.iface 22 o, .func (.func 52) #[] #[.pointer (some ⟨B, 0, none⟩)]] W (SrtRet47 Z l o base W) := fun h1 ⟨A, c, e⟩ => by
    subst e
    refine (slStable_tiny A l.length c B W h1).mono ?_
    rintro e w' ⟨h2, h3⟩
    exact ⟨h2, ⟨l, S, List.Perm.refl _, ho.below h3, hZ⟩, h3.mono hw⟩
  rcases id ho with ⟨rfl, A, c, rfl, hc⟩ | ⟨g, cap, rfl, h2, h3, h4, h5⟩
  · exact tiny (by simp) ⟨A, c, rfl⟩
  · rcases Nat.lt_or_ge 1 l.length with h1 | h1
    · have hI : SrtI Z l base g B cap W := ⟨⟨l, S, List.Perm.refl _, h5, hZ⟩, hB, by omega, hw, h4⟩
      refine (slStable_c Z l base g B cap W h1 hl hI).mono ?_
      rintro e w' ⟨rfl, ⟨⟨L, S', p1, p2, p3⟩, p4, p5, p6, p7⟩, hK⟩
      have hll := p1.length_eq
      exact ⟨rfl, ⟨L, S', p1, .inr ⟨g, cap, by rw [hll], by omega, h3, h4, p2⟩, p3⟩, hK.bel⟩
    · exact tiny h1 ⟨_, _, rfl⟩
/-! ### the search's answer -/
def SolOk (N : Nat) (l : List Cho) (P : Mat) : Prop := ∃ bl, bl.all (bndB (N : Int)) = true ∧ tightX N bl = some P ∧ ∀ x, SatL bl x → SatN l x
def SRet (N : Nat) (l : List Cho) (most : Nat) (J Dn : List Mat → World → Prop) (base : Nat) (w : World) (e : Ending) (w' : World) : Prop :=
  ∃ b vs, e = .returned (.bool b) ∧ Below base w w' ∧ (∀ P ∈ vs, SolOk N l P) ∧
    ((b = true ∧ aboveB l most = true ∧ J vs w') ∨ (b = false ∧ vs ≠ [] ∧ Dn vs w') ∨ (b = false ∧ J vs w' ∧ ∀ x, SatN l x → ∃ P ∈ vs, SatM N P x))
theorem mat_sol {N : Nat} {L l : List Cho} {P : Mat} (hp : L.Perm l) (h : MatOk N L P) : SolOk N l P := by
  obtain ⟨bl, h1, h2, h3⟩ := h
  exact ⟨bl, h1, h2, fun x hx => (satN_perm hp x).1 fun i hi => h3 x hx i hi⟩
end Go.Proofs.YtcppcfinnbeboaaGreat
