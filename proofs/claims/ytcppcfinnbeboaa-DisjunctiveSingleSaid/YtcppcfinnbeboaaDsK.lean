/- Law 47: the state of the search. -/
import Derived.Test.YtcppcfinnbeboaaDsJ
namespace Go.Proofs.Ytcppcfinnbeboaa
open Go.RowKit Go.Shelf

/-! ### the rounds that are left -/
def wtL : List Cho → Nat
  | [] => 1
  | c :: r => c.2.2.length * (wtL r + 1) + 1
def restV (L : List Cho) (k x : Nat) : Nat := if k < L.length then ((cho L k).2.2.length - x) * (wtL (L.drop (k + 1)) + 1) + 1 else 1
def muV (L : List Cho) (nx : Nat → Nat) : Nat → Nat
  | 0 => 0
  | d + 1 => muV L nx d + restV L d (nx d)
theorem muV_congr (L : List Cho) (nx ny : Nat → Nat) : ∀ d, (∀ k, k < d → nx k = ny k) → muV L nx d = muV L ny d
  | 0, _ => rfl
  | d + 1, h => by
    unfold muV
    rw [muV_congr L nx ny d fun k hk => h k (by omega), h d (by omega)]
theorem rest_pos (L : List Cho) (k x : Nat) : 1 ≤ restV L k x := by
  unfold restV
  split <;> omega
theorem rest_zero (L : List Cho) {k : Nat} (hk : k ≤ L.length) : restV L k 0 = wtL (L.drop k) := by
  unfold restV
  split
  · next h =>
    rw [List.drop_eq_getElem_cons h, cho_at h]
    rfl
  · next h =>
    rw [List.drop_eq_nil_of_le (by omega)]
    rfl
theorem rest_step (L : List Cho) {k x : Nat} (hk : k < L.length) (hx : x < (cho L k).2.2.length) : restV L k x = restV L k (x + 1) + (wtL (L.drop (k + 1)) + 1) := by
  unfold restV
  rw [if_pos hk, if_pos hk, show (cho L k).2.2.length - x = ((cho L k).2.2.length - (x + 1)) + 1 from by omega, Nat.add_mul, Nat.one_mul]
  omega
/-! ### what is known of a matrix on the way -/
def difC (c : Cho) (x : Nat → Int) : Int := x c.2.1.toNat - x c.1.toNat
def PathOk (N : Nat) (L : List Cho) (k : Nat) (bl : List Bnd) (P : Mat) : Prop :=
  bl.all (bndB (N : Int)) = true ∧ tightX N bl = some P ∧ ∀ x, SatL bl x → ∀ i, i < k → mem (cho L i).2.2 (difC (cho L i) x) = true
def MatOk (N : Nat) (L : List Cho) (P : Mat) : Prop := ∃ bl, PathOk N L L.length bl P
def spanJ (c : Cho) (j : Nat) : Sp := (fr c.2.2 j, tt c.2.2 j)
theorem satL_bnd2 (c : Cho) (s : Sp) (x : Nat → Int) : SatL (bnd2 c s) x ↔ s.1 ≤ difC c x ∧ difC c x < s.2 := by
  unfold SatL bnd2 difC
  constructor
  · intro h
    have h1 := h _ (List.mem_cons_self ..)
    have h2 := h _ (List.mem_cons_of_mem _ (List.mem_cons_self ..))
    simp only at h1 h2
    omega
  · intro h b hb
    simp only [List.mem_cons, List.not_mem_nil, or_false] at hb
    rcases hb with rfl | rfl <;> simp only <;> omega
theorem mem_spanJ {c : Cho} {j : Nat} (hj : j < c.2.2.length) {y : Int} (h : (spanJ c j).1 ≤ y ∧ y < (spanJ c j).2) : mem c.2.2 y = true := by
  rw [mem_iff]
  refine ⟨c.2.2[j], List.getElem_mem _, ?_⟩
  have e : c.2.2[j] = spanJ c j := by
    unfold spanJ fr tt
    rw [List.getD_eq_getElem?_getD, List.getElem?_eq_getElem hj]
    rfl
  rw [e]
  exact h
theorem mem_ex {c : Cho} {y : Int} (h : mem c.2.2 y = true) : ∃ j, j < c.2.2.length ∧ (spanJ c j).1 ≤ y ∧ y < (spanJ c j).2 := by
  obtain ⟨s, h1, h2⟩ := mem_iff.1 h
  obtain ⟨j, hj, e⟩ := mem_idx h1
  exact ⟨j, hj, by unfold spanJ; rw [← e]; exact h2⟩
theorem PathOk.push {N : Nat} {L : List Cho} {k : Nat} {bl : List Bnd} {P P2 : Mat} (h : PathOk N L k bl P) (hc : ChoN (N : Int) (cho L k)) {j : Nat} (hj : j < (cho L k).2.2.length) (hs : spB (spanJ (cho L k) j) = true)
    (ht : tightX N (bl ++ bnd2 (cho L k) (spanJ (cho L k) j)) = some P2) : PathOk N L (k + 1) (bl ++ bnd2 (cho L k) (spanJ (cho L k) j)) P2 := by
  obtain ⟨h1, h2, h3⟩ := h
  refine ⟨by rw [List.all_append, h1, bnd2_ok hc hs]; rfl, ht, fun x hx i hi => ?_⟩
  obtain ⟨a, b⟩ := (satL_app _ _ _).1 hx
  by_cases e : i < k
  · exact h3 x a i e
  · obtain rfl : i = k := by omega
    exact mem_spanJ hj ((satL_bnd2 _ _ _).1 b)
/-! ### the state -/
structure Kz (base zs : Nat) (W W' : World) : Prop where
  bel : Below base W W'
  oth : ∀ b, zs ≤ b → b < W.heap.size → W'.heap[b]? = W.heap[b]?
section
variable {base zs : Nat} {W W' W2 : World}
theorem Kz.refl : Kz base zs W W := ⟨Below.refl _ _, fun _ _ _ => rfl⟩
theorem Kz.trans (h : Kz base zs W W') (h2 : Kz base zs W' W2) : Kz base zs W W2 := ⟨h.bel.trans h2.bel, fun b hb hg => (h2.oth b hb (Nat.lt_of_lt_of_le hg h.bel.size)).trans (h.oth b hb hg)⟩
theorem Kz.of (h : Below W.heap.size W W') (hb : base ≤ W.heap.size) : Kz base zs W W' := ⟨h.mono hb, fun b _ hb => h.block b hb⟩
theorem Kz.set (h : Kz base zs W W') {g : Nat} (h1 : W.heap.size ≤ g) (h2 : base ≤ g) (j : Nat) (u : Value) : Kz base zs W (W'.setCell ⟨g, j, none⟩ u) :=
  ⟨h.bel.setCell (p := ⟨g, j, none⟩) h2 u, fun b hb hl => (blk_oth (show b ≠ g by omega) _ _).trans (h.oth b hb hl)⟩
end
/-- What the visitor does. -/
def VisRet (base zs : Nat) (J Dn : List Mat → World → Prop) (vs : List Mat) (X : World) (e : Ending) (w' : World) : Prop := ∃ b, e = .returned (.bool b) ∧ Kz base zs X w' ∧ if b then J vs w' else Dn vs w'
structure Visitor (base zs N : Nat) (f : FuncId) (caps : Array Value) (J Dn : List Mat → World → Prop) : Prop where
  ent : ∀ (args : Array Value) (w : World), Sem.run Try.prog (callFunc f args) w = .ok (.enter f args) w
  keep : ∀ vs X X', J vs X → Below zs X X' → J vs X'
  call : ∀ X vm P vs, J vs X → zs ≤ X.heap.size → MatP (zs ≤ ·) X vm N P → Clo N P → Near N 26843545600 P → Calls Try.prog f (#[vm] ++ caps) X (VisRet base zs J Dn (vs ++ [P]) X)
/-- A solution that is yet to be met: below a level of the stack. -/
def pendV (N : Nat) (L : List Cho) (nx : Nat → Nat) (PM : Nat → Mat) (k : Nat) (x : Nat → Int) : Prop :=
  SatM N (PM k) x ∧ (k < L.length → ∃ j, nx k ≤ j ∧ j < (cho L k).2.2.length ∧ (spanJ (cho L k) j).1 ≤ difC (cho L k) x ∧ difC (cho L k) x < (spanJ (cho L k) j).2)
structure SStat (base zs N : Nat) (L : List Cho) (W0 : World) (J : List Mat → World → Prop) (T : (Nat → Int) → Prop) (d g cap : Nat) (mv : Nat → Value) (nx : Nat → Nat) (PM : Nat → Mat) (bl : Nat → List Bnd) (vs : List Mat) (W : World) : Prop where
  keep : Kz base zs W0 W
  lv : Lv W g d cap mv nx
  hg : W0.heap.size ≤ g
  d1 : d ≤ L.length + 1
  mats : ∀ k, k < d → MatP (fun b => zs ≤ b ∧ b ≠ g) W (mv k) N (PM k)
  nxl : ∀ k, k < d → k < L.length → nx k ≤ (cho L k).2.2.length
  path : ∀ k, k < d → PathOk N L k (bl k) (PM k)
  vis : ∀ P ∈ vs, MatOk N L P
  j : J vs W
  cov : ∀ x, SatN L x → (∃ P ∈ vs, SatM N P x) ∨ (∃ k, k < d ∧ pendV N L nx PM k x) ∨ T x
def noT : (Nat → Int) → Prop := fun _ => False
section
variable {base zs N : Nat} {L : List Cho} {W0 : World} {J Dn : List Mat → World → Prop} {T : (Nat → Int) → Prop} {d g cap : Nat} {mv : Nat → Value} {nx : Nat → Nat} {PM : Nat → Mat} {bl : Nat → List Bnd} {vs : List Mat} {W W' : World} {f : FuncId} {caps : Array Value}
/-- Memory is made. -/
theorem SStat.below (hV : Visitor base zs N f caps J Dn) (hb0 : base ≤ zs) (hz : zs ≤ W0.heap.size) (h : SStat base zs N L W0 J T d g cap mv nx PM bl vs W) (hb : Below W.heap.size W W') : SStat base zs N L W0 J T d g cap mv nx PM bl vs W' := by
  have hs := h.keep.bel.size
  exact ⟨h.keep.trans (Kz.of hb (by omega)), h.lv.block (hb.block _ h.lv.lt), h.hg, h.d1, fun k hk => (h.mats k hk).below hb, h.nxl, h.path, h.vis, hV.keep _ _ _ h.j (hb.mono (by omega)), h.cov⟩
/-- A leaf is visited and left. -/
theorem SStat.visit (hz : zs ≤ W0.heap.size) (h : SStat base zs N L W0 J noT (d + 1) g cap mv nx PM bl vs W) (hd : d = L.length) (hk : Kz base zs W W') (hj : J (vs ++ [PM d]) W') : SStat base zs N L W0 J noT d g cap mv nx PM bl (vs ++ [PM d]) W' := by
  have hgz := h.hg
  refine ⟨h.keep.trans hk, (h.lv.block (hk.oth _ (by omega) h.lv.lt)).pop (Nat.le_succ d), h.hg, by omega, fun k hk2 => (h.mats k (by omega)).keep hk.bel.size fun b hb hp => hk.oth b hp.1 hb, fun k hk2 => h.nxl k (by omega), fun k hk2 => h.path k (by omega), fun P hP => ?_, hj, fun x hx => ?_⟩
  · rcases List.mem_append.1 hP with h1 | h1
    · exact h.vis P h1
    · rw [List.mem_singleton.1 h1]
      exact ⟨bl d, by have := h.path d (by omega); rw [hd] at this ⊢; exact this⟩
  · rcases h.cov x hx with ⟨P, h1, h2⟩ | ⟨k, h1, h2⟩ | h1
    · exact .inl ⟨P, List.mem_append_left _ h1, h2⟩
    · by_cases e : k < d
      · exact .inr (.inl ⟨k, e, h2⟩)
      · obtain rfl : k = d := by omega
        exact .inl ⟨PM k, List.mem_append_right _ (List.mem_singleton.2 rfl), h2.1⟩
    · exact absurd h1 id
/-- A level whose spans are all tried is left. -/
theorem SStat.pop (h : SStat base zs N L W0 J noT (d + 1) g cap mv nx PM bl vs W) (hd : d < L.length) (hn : (cho L d).2.2.length ≤ nx d) : SStat base zs N L W0 J noT d g cap mv nx PM bl vs W := by
  refine ⟨h.keep, h.lv.pop (Nat.le_succ d), h.hg, by have := h.d1; omega, fun k hk => h.mats k (by omega), fun k hk => h.nxl k (by omega), fun k hk => h.path k (by omega), h.vis, h.j, fun x hx => ?_⟩
  rcases h.cov x hx with h1 | ⟨k, h1, h2⟩ | h1
  · exact .inl h1
  · by_cases e : k < d
    · exact .inr (.inl ⟨k, e, h2⟩)
    · obtain rfl : k = d := by omega
      obtain ⟨j, a, b, _⟩ := h2.2 hd
      omega
  · exact absurd h1 id
/-- The next span is taken. -/
def tryT (N : Nat) (L : List Cho) (PM : Nat → Mat) (d j : Nat) : (Nat → Int) → Prop := fun x => SatM N (PM d) x ∧ (spanJ (cho L d) j).1 ≤ difC (cho L d) x ∧ difC (cho L d) x < (spanJ (cho L d) j).2
def nxS (nx : Nat → Nat) (d : Nat) : Nat → Nat := fun i => if i = d then nx d + 1 else nx i
theorem SStat.take (hV : Visitor base zs N f caps J Dn) (hb0 : base ≤ zs) (hz : zs ≤ W0.heap.size) (h : SStat base zs N L W0 J noT (d + 1) g cap mv nx PM bl vs W) (hd : d < L.length) (hn : nx d < (cho L d).2.2.length) :
    SStat base zs N L W0 J (tryT N L PM d (nx d)) (d + 1) g cap mv (nxS nx d) PM bl vs (W.setCell ⟨g, d * 2 + 1, none⟩ (.int .i64 ((nx d + 1 : Nat) : Int))) := by
  have hgz := h.hg
  refine ⟨h.keep.set h.hg (by omega) _ _, h.lv.set d (by omega) (nx d + 1), h.hg, h.d1, fun k hk => (h.mats k hk).keep (by simp [World.setCell]) fun b hb hp => blk_oth hp.2 _ _, fun k hk hl => ?_, h.path, h.vis, hV.keep _ _ _ h.j ((Below.refl _ _).setCell (p := ⟨g, d * 2 + 1, none⟩) (show zs ≤ g by omega) _), fun x hx => ?_⟩
  · unfold nxS
    by_cases e : k = d
    · rw [if_pos e]; subst e; omega
    · rw [if_neg e]; exact h.nxl k hk hl
  · rcases h.cov x hx with h1 | ⟨k, h1, h2⟩ | h1
    · exact .inl h1
    · by_cases e : k = d
      · subst e
        obtain ⟨j, a, b, c1, c2⟩ := h2.2 hd
        by_cases e2 : j = nx k
        · subst e2
          exact .inr (.inr ⟨h2.1, c1, c2⟩)
        · exact .inr (.inl ⟨k, h1, h2.1, fun _ => ⟨j, by unfold nxS; rw [if_pos rfl]; omega, b, c1, c2⟩⟩)
      · exact .inr (.inl ⟨k, h1, h2.1, fun hl => by unfold nxS; rw [if_neg e]; exact h2.2 hl⟩)
    · exact absurd h1 id
/-- The span leaves nothing. -/
theorem SStat.fail (h1 : 1 ≤ N) (hN : N ≤ 24) (hc : ∀ i, i < L.length → ChoN (N : Int) (cho L i)) {j : Nat} (h : SStat base zs N L W0 J (tryT N L PM d j) (d + 1) g cap mv nx PM bl vs W) (hd : d < L.length) (hs : spB (spanJ (cho L d) j) = true) (ht : tightX N (bl d ++ bnd2 (cho L d) (spanJ (cho L d) j)) = none) : SStat base zs N L W0 J noT (d + 1) g cap mv nx PM bl vs W := by
  refine ⟨h.keep, h.lv, h.hg, h.d1, h.mats, h.nxl, h.path, h.vis, h.j, fun x hx => ?_⟩
  rcases h.cov x hx with a | a | a
  · exact .inl a
  · exact .inr (.inl a)
  · exfalso
    obtain ⟨p1, p2, p3⟩ := h.path d (by omega)
    have hbl : (bl d ++ bnd2 (cho L d) (spanJ (cho L d) j)).all (bndB (N : Int)) = true := by rw [List.all_append, p1, bnd2_ok (hc d hd) hs]; rfl
    refine tightX_none (x := x) hbl ht ((satL_app _ _ _).2 ⟨((tightX_some h1 hN p1 p2).2.2 x).1 a.1, (satL_bnd2 _ _ _).2 a.2⟩)
/-- The span is taken: a level more. -/
theorem SStat.push (hV : Visitor base zs N f caps J Dn) (hb0 : base ≤ zs) (h1 : 1 ≤ N) (hN : N ≤ 24) (hc : ∀ i, i < L.length → ChoN (N : Int) (cho L i)) {j : Nat} {m : Value} {P2 : Mat} {g' cap' : Nat} (h : SStat base zs N L W0 J (tryT N L PM d j) (d + 1) g cap mv nx PM bl vs W) (hd : d < L.length) (hjl : j < (cho L d).2.2.length) (hs : spB (spanJ (cho L d) j) = true) (ht : tightX N (bl d ++ bnd2 (cho L d) (spanJ (cho L d) j)) = some P2)
    (hm : MatP (fun b => zs ≤ b ∧ b ≠ g) W m N P2) (hl : Lv W' g' (d + 2) cap' (fun k => if k = d + 1 then m else mv k) (fun k => if k = d + 1 then 0 else nx k)) (hb : Below zs W W') (hbo : ∀ b, b < W.heap.size → b ≠ g → W'.heap[b]? = W.heap[b]?) (hsz : W.heap.size ≤ W'.heap.size) (hg' : g' = g ∨ W.heap.size ≤ g') :
    SStat base zs N L W0 J noT (d + 2) g' cap' (fun k => if k = d + 1 then m else mv k) (fun k => if k = d + 1 then 0 else nx k) (fun k => if k = d + 1 then P2 else PM k) (fun k => if k = d + 1 then bl d ++ bnd2 (cho L d) (spanJ (cho L d) j) else bl k) vs W' := by
  have hgz := h.hg
  have hs0 := h.keep.bel.size
  have hmk : ∀ {u : Value} {P : Mat}, MatP (fun b => zs ≤ b ∧ b ≠ g) W u N P → MatP (fun b => zs ≤ b ∧ b ≠ g') W' u N P := fun hu => by
    refine ((hu.mono (q := fun b => zs ≤ b ∧ b ≠ g ∧ b ≠ g') fun b hb hp => ⟨hp.1, hp.2, ?_⟩).keep hsz fun b hb hp => hbo b hb hp.2.1).mono fun b _ hp => ⟨hp.1, hp.2.2⟩
    rcases hg' with e | e
    · rw [e]; exact hp.2
    · omega
  refine ⟨⟨h.keep.bel.trans (hb.mono hb0), fun b hb1 hb2 => (hbo b (by omega) (by omega)).trans (h.keep.oth b hb1 hb2)⟩, hl, by rcases hg' with e | e <;> omega, by have := h.d1; omega, fun k hk => ?_, fun k hk hkl => ?_, fun k hk => ?_, h.vis, hV.keep _ _ _ h.j hb, fun x hx => ?_⟩
  · by_cases e : k = d + 1
    · simp only [if_pos e]; exact hmk hm
    · simp only [if_neg e]; exact hmk (h.mats k (by omega))
  · by_cases e : k = d + 1
    · simp only [if_pos e]; exact Nat.zero_le _
    · simp only [if_neg e]; exact h.nxl k (by omega) hkl
  · by_cases e : k = d + 1
    · simp only [if_pos e]; rw [e]; exact (h.path d (by omega)).push (hc d hd) hjl hs ht
    · simp only [if_neg e]; exact h.path k (by omega)
  · rcases h.cov x hx with a | ⟨k, a1, a2⟩ | a
    · exact .inl a
    · refine .inr (.inl ⟨k, by omega, ?_⟩)
      unfold pendV at a2 ⊢
      simp only [if_neg (show ¬ k = d + 1 by omega)]
      exact a2
    · refine .inr (.inl ⟨d + 1, by omega, ?_⟩)
      unfold pendV
      simp only [if_true]
      obtain ⟨p1, p2, p3⟩ := h.path d (by omega)
      have hbl : (bl d ++ bnd2 (cho L d) (spanJ (cho L d) j)).all (bndB (N : Int)) = true := by rw [List.all_append, p1, bnd2_ok (hc d hd) hs]; rfl
      refine ⟨((tightX_some h1 hN hbl ht).2.2 x).2 ((satL_app _ _ _).2 ⟨((tightX_some h1 hN p1 p2).2.2 x).1 a.1, (satL_bnd2 _ _ _).2 a.2⟩), fun hkl => ?_⟩
      obtain ⟨i, b1, b2, b3⟩ := mem_ex (hx (d + 1) hkl)
      exact ⟨i, Nat.zero_le _, b1, b2, b3⟩
end
/-! ### the measure at a step -/
theorem mu_pop (L : List Cho) (nx : Nat → Nat) (d : Nat) : muV L nx d < muV L nx (d + 1) := by
  have := rest_pos L d (nx d)
  show _ < muV L nx d + restV L d (nx d)
  omega
theorem mu_take {L : List Cho} {nx : Nat → Nat} {d : Nat} (hd : d < L.length) (hn : nx d < (cho L d).2.2.length) : muV L nx (d + 1) = muV L (nxS nx d) (d + 1) + (wtL (L.drop (d + 1)) + 1) := by
  show muV L nx d + restV L d (nx d) = muV L (nxS nx d) d + restV L d (nxS nx d d) + _
  rw [muV_congr L (nxS nx d) nx d fun k hk => by unfold nxS; rw [if_neg (by omega)], rest_step L hd hn]
  unfold nxS
  rw [if_pos rfl]
  omega
theorem mu_push {L : List Cho} {nx : Nat → Nat} {d : Nat} (hd : d < L.length) : muV L (fun k => if k = d + 1 then 0 else nx k) (d + 2) = muV L nx (d + 1) + wtL (L.drop (d + 1)) := by
  show muV L (fun k => if k = d + 1 then 0 else nx k) (d + 1) + restV L (d + 1) (if d + 1 = d + 1 then 0 else nx (d + 1)) = _
  rw [muV_congr L (fun k => if k = d + 1 then 0 else nx k) nx (d + 1) fun k hk => by rw [if_neg (by omega)], if_pos rfl, rest_zero L (by omega)]
end Go.Proofs.Ytcppcfinnbeboaa
