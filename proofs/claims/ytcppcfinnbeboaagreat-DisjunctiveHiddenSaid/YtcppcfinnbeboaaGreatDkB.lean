/- Law 47: closed matrices: the times that they allow; a bound more. No program in sight. -/
import Derived.Test.YtcppcfinnbeboaaGreatDkA
import Derived.Test.YtcppcfinnbeboaaGreatDjU
namespace Go.Proofs.YtcppcfinnbeboaaGreat

/-- The times satisfy the bounds of a matrix. -/
def SatM (n : Nat) (M : Mat) (x : Nat → Int) : Prop := ∀ i j, i < n → j < n → M i j < noneD → x j - x i ≤ M i j
structure Clo (n : Nat) (M : Mat) : Prop where
  tri : ∀ i j v, i < n → j < n → v < n → M i v < noneD → M v j < noneD → M i j < noneD ∧ M i j ≤ M i v + M v j
  dia : ∀ i, i < n → M i i = 0
def schT (M : Mat) (j : Nat) : Nat → Int
  | 0 => 0
  | i + 1 => min (schT M j i) (M i j)
theorem schT_cases (M : Mat) (a : Nat) : ∀ m, schT M a m = 0 ∨ ∃ v, v < m ∧ schT M a m = M v a ∧ M v a < 0
  | 0 => .inl rfl
  | m + 1 => by
    unfold schT
    rcases Int.lt_or_le (M m a) (schT M a m) with h | h
    · rcases schT_cases M a m with e | ⟨v, _, _, h3⟩
      · exact .inr ⟨m, by omega, by omega, by omega⟩
      · exact .inr ⟨m, by omega, by omega, by omega⟩
    · rcases schT_cases M a m with e | ⟨v, h1, h2, h3⟩
      · exact .inl (by omega)
      · exact .inr ⟨v, by omega, by omega, h3⟩
theorem schT_le (M : Mat) (a : Nat) : ∀ m, schT M a m ≤ 0 ∧ ∀ v, v < m → schT M a m ≤ M v a
  | 0 => ⟨Int.le_refl _, fun v hv => absurd hv (by omega)⟩
  | m + 1 => by
    obtain ⟨h1, h2⟩ := schT_le M a m
    unfold schT
    refine ⟨by omega, fun v hv => ?_⟩
    rcases Nat.lt_or_ge v m with h | h
    · have := h2 v h; omega
    · obtain rfl : v = m := by omega
      omega
section
variable {n : Nat} {M M' : Mat} {c d : Int}
theorem sch_sat (h : Clo n M) : SatM n M (fun j => schT M j n) := fun a b ha hb hf => by
  have hb2 := (schT_le M b n).2
  show schT M b n - schT M a n ≤ M a b
  rcases schT_cases M a n with e | ⟨v, hv, e1, e2⟩
  · have := hb2 a ha
    omega
  · have h1 := h.tri v b a hv hb ha (by unfold noneD; omega) hf
    have := hb2 v hv
    omega
/-- Times at which an element is attained; behind all times, where there is no bound. -/
theorem clo_exact (h : Clo n M) (hn : Near n c M) (hc : 0 ≤ c) {i : Nat} (hi : i < n) (K : Int) (hK : 0 ≤ K) : ∃ x, SatM n M x ∧ ∀ j, j < n → (M i j < noneD → x j - x i = M i j) ∧ (¬ M i j < noneD → K ≤ x j - x i) := by
  have hy : ∀ a, a < n → -c ≤ schT M a n ∧ schT M a n ≤ 0 := fun a ha => by
    refine ⟨?_, (schT_le M a n).1⟩
    rcases schT_cases M a n with e | ⟨v, hv, e1, e2⟩
    · omega
    · have := (hn v a hv ha).2 (by unfold noneD; omega)
      omega
  have hs := sch_sat h
  have hii : M i i < noneD := by rw [h.dia i hi]; decide
  refine ⟨fun v => if M i v < noneD then M i v else K + 3 * c + schT M v n, fun a b ha hb hf => ?_, fun j hj => ⟨fun hf => ?_, fun hf => ?_⟩⟩
  · show (if M i b < noneD then M i b else K + 3 * c + schT M b n) - (if M i a < noneD then M i a else K + 3 * c + schT M a n) ≤ M a b
    by_cases e1 : M i a < noneD
    · have h1 := h.tri i b a hi hb ha e1 hf
      rw [if_pos e1, if_pos h1.1]
      omega
    · rw [if_neg e1]
      by_cases e2 : M i b < noneD
      · rw [if_pos e2]
        have h1 := (hn i b hi hb).2 e2
        have h2 := (hn a b ha hb).2 hf
        have h3 := hy a ha
        omega
      · rw [if_neg e2]
        have : schT M b n - schT M a n ≤ M a b := hs a b ha hb hf
        omega
  · show (if M i j < noneD then M i j else K + 3 * c + schT M j n) - (if M i i < noneD then M i i else K + 3 * c + schT M i n) = M i j
    rw [if_pos hf, if_pos hii, h.dia i hi]
    omega
  · show K ≤ (if M i j < noneD then M i j else K + 3 * c + schT M j n) - (if M i i < noneD then M i i else K + 3 * c + schT M i n)
    rw [if_neg hf, if_pos hii, h.dia i hi]
    have := hy j hj
    omega
theorem clo_le (h : Clo n M) (hn : Near n c M) (hc : 0 ≤ c) (hs : ∀ x, SatM n M x → SatM n M' x) {i j : Nat} (hi : i < n) (hj : j < n) (hf : M' i j < noneD) : M i j < noneD ∧ M i j ≤ M' i j := by
  obtain ⟨x, hx, hx2⟩ := clo_exact h hn hc hi (noneD + 1) (by decide)
  have h1 := hs x hx i j hi hj hf
  obtain ⟨h2, h3⟩ := hx2 j hj
  by_cases e : M i j < noneD
  · have := h2 e
    exact ⟨e, by omega⟩
  · have := h3 e
    omega
/-- Two closed matrices that allow the same times are the same. -/
theorem clo_unique (h : Clo n M) (hn : Near n c M) (hc : 0 ≤ c) (h' : Clo n M') (hn' : Near n d M') (hd : 0 ≤ d) (hs : ∀ x, SatM n M x ↔ SatM n M' x) {i j : Nat} (hi : i < n) (hj : j < n) : M i j = M' i j := by
  have h1 := clo_le h hn hc (fun x => (hs x).1) hi hj
  have h2 := clo_le h' hn' hd (fun x => (hs x).2) hi hj
  have h3 := (hn i j hi hj).1
  have h4 := (hn' i j hi hj).1
  by_cases e1 : M i j < noneD
  · have := h2 e1; have := h1 this.1; omega
  · by_cases e2 : M' i j < noneD
    · exact absurd (h1 e2).1 e1
    · omega
end
/-! ### What the rounds give -/
section
variable {n : Nat} {W M : Mat} {x : Nat → Int}
theorem satM_cell (h : SatM n M x) {k i j : Nat} (hk : k < n) (hi : i < n) (hj : j < n) : SatM n (cellX M k i j) x := by
  unfold cellX
  split
  · rename_i e
    intro a b ha hb hf
    unfold upd at hf ⊢
    by_cases e2 : a = i ∧ b = j
    · rw [if_pos e2] at hf ⊢
      obtain ⟨rfl, rfl⟩ := e2
      have h1 := h a k ha hk e.1
      have h2 := h k b hk hb e.2
      rcases Int.lt_or_le (M a b) noneD with h3 | h3
      · have := h a b ha hb h3; omega
      · omega
    · rw [if_neg e2] at hf ⊢
      exact h a b ha hb hf
  · exact h
theorem satM_row (h : SatM n M x) {k i : Nat} (hk : k < n) (hi : i < n) : ∀ m, m ≤ n → SatM n (rowX M k i m) x
  | 0, _ => h
  | m + 1, hm => satM_cell (satM_row h hk hi m (by omega)) hk hi (by omega)
theorem satM_stage (h : SatM n M x) {k : Nat} (hk : k < n) : ∀ m, m ≤ n → SatM n (stageX M k n m) x
  | 0, _ => h
  | m + 1, hm => satM_row (satM_stage h hk m (by omega)) hk (by omega) n (Nat.le_refl _)
theorem fwX_sat (h : SatM n W x) : ∀ k M, k ≤ n → fwX W n k = some M → SatM n M x := by
  intro k
  induction k with
  | zero => intro M _ hM; cases hM; exact h
  | succ k ih =>
    intro M hk hM
    rw [fwX_succ] at hM
    cases hN : fwX W n k with
    | none => rw [hN] at hM; cases hM
    | some N =>
      rw [hN] at hM
      simp only at hM
      split at hM
      · cases hM
      · cases hM
        exact satM_stage (ih N (by omega) hN) (by omega) n (Nat.le_refl _)
theorem fwX_no (h : fwX W n n = none) : ¬ SatM n W x := fun hs => by
  obtain ⟨k, N, hk, hN, hneg⟩ := fwX_none_at n h
  obtain ⟨i, hi, h2⟩ := negF_ex hneg
  have h3 := satM_stage (fwX_sat hs k N (by omega) hN) hk n (Nat.le_refl _) i i hi hi (by unfold noneD; omega)
  omega
theorem fwX_clo (hW : Mod n W) (h1 : 1 ≤ n) (hn : n ≤ 24) (hd : ∀ i, i < n → W i i ≤ 0) (h : fwX W n n = some M) : Clo n M ∧ Near n 26843545600 M ∧ ∀ x, SatM n M x ↔ SatM n W x := by
  rcases fwX_inv hW hn hd n M (Nat.le_refl _) h with ⟨h2, _⟩ | h2
  · omega
  · refine ⟨⟨fun i j v hi hj hv => h2.clo i j v hi hj hv, h2.dia⟩, h2.near hW (Nat.le_refl _) hn, fun x => ⟨fun hs i j hi hj hf => ?_, fun hs => fwX_sat hs n M (Nat.le_refl _) h⟩⟩
    have h3 := h2.le i j
    have := hs i j hi hj (by omega)
    omega
end
/-! ### Lists of bounds -/
def SatL (l : List Bnd) (x : Nat → Int) : Prop := ∀ b ∈ l, x b.2.1.toNat - x b.1.toNat ≤ b.2.2
theorem satL_nil (x : Nat → Int) : SatL [] x := fun _ h => by cases h
theorem satL_app (l m : List Bnd) (x : Nat → Int) : SatL (l ++ m) x ↔ SatL l x ∧ SatL m x := by
  unfold SatL
  simp only [List.mem_append]
  exact ⟨fun h => ⟨fun b hb => h b (.inl hb), fun b hb => h b (.inr hb)⟩, fun h b hb => hb.elim (h.1 b) (h.2 b)⟩
theorem satL_one (b : Bnd) (x : Nat → Int) : SatL [b] x ↔ x b.2.1.toNat - x b.1.toNat ≤ b.2.2 := by
  unfold SatL
  simp
theorem bndB_iff {n : Int} {b : Bnd} : bndB n b = true ↔ 0 ≤ b.1 ∧ b.1 < n ∧ 0 ≤ b.2.1 ∧ b.2.1 < n ∧ -1073741824 ≤ b.2.2 ∧ b.2.2 ≤ 1073741824 := by
  unfold bndB
  simp only [Bool.and_eq_true, decide_eq_true_eq]
  omega
section
variable {n : Nat} {l : List Bnd} {x : Nat → Int}
theorem satM_bind {M : Mat} {b : Bnd} (hb : bndB (n : Int) b = true) : SatM n (bindF M b) x ↔ SatM n M x ∧ x b.2.1.toNat - x b.1.toNat ≤ b.2.2 := by
  obtain ⟨b1, b2, b3, b4, b5, b6⟩ := bndB_iff.1 hb
  have hI : b.1.toNat < n := by omega
  have hJ : b.2.1.toNat < n := by omega
  refine ⟨fun h => ⟨fun i j hi hj hf => ?_, ?_⟩, fun ⟨h, h2⟩ i j hi hj hf => ?_⟩
  · have h1 := h i j hi hj
    unfold bindF upd at h1
    by_cases e : i = b.1.toNat ∧ j = b.2.1.toNat
    · rw [if_pos e, ← e.1, ← e.2] at h1
      have := h1 (by omega)
      omega
    · rw [if_neg e] at h1
      exact h1 hf
  · have h1 := h _ _ hI hJ
    unfold bindF upd at h1
    rw [if_pos ⟨rfl, rfl⟩] at h1
    have := h1 (by unfold noneD; omega)
    omega
  · unfold bindF upd at hf ⊢
    by_cases e : i = b.1.toNat ∧ j = b.2.1.toNat
    · rw [if_pos e] at hf ⊢
      rw [← e.1, ← e.2] at hf h2 ⊢
      rcases Int.lt_or_le (M i j) noneD with h3 | h3
      · have := h i j hi hj h3; omega
      · omega
    · rw [if_neg e] at hf ⊢
      exact h i j hi hj hf
theorem satM_start (h : l.all (bndB (n : Int)) = true) : ∀ k, k ≤ l.length → (SatM n (startF l k) x ↔ SatL (l.take k) x)
  | 0, _ => by
    refine ⟨fun _ => satL_nil x, fun _ i j hi hj hf => ?_⟩
    unfold startF openM at hf ⊢
    split at hf
    · rename_i e; rw [if_pos e, e]; omega
    · exact absurd hf (by decide)
  | k + 1, hk => by
    have hb := List.all_eq_true.1 h (bnd l k) (by rw [← bnd_at (show k < l.length by omega)]; exact List.getElem_mem _)
    rw [startF, satM_bind hb, satM_start h k (by omega), List.take_succ_eq_append_getElem (by omega), satL_app, satL_one, bnd_at]
theorem start_mod (h : l.all (bndB (n : Int)) = true) : Mod n (startF l l.length) ∧ ∀ i, startF l l.length i i ≤ 0 :=
  startF_mod l (fun i hi => by
    have hb := List.all_eq_true.1 h (bnd l i) (by rw [← bnd_at hi]; exact List.getElem_mem _)
    exact (bndB_iff.1 hb).2.2.2.2) l.length (Nat.le_refl _)
theorem tightX_some {M : Mat} (h1 : 1 ≤ n) (hn : n ≤ 24) (hl : l.all (bndB (n : Int)) = true) (h : tightX n l = some M) : Clo n M ∧ Near n 26843545600 M ∧ ∀ x, SatM n M x ↔ SatL l x := by
  obtain ⟨m1, m2⟩ := start_mod hl
  obtain ⟨h2, h3, h4⟩ := fwX_clo m1 h1 hn (fun i _ => m2 i) h
  refine ⟨h2, h3, fun x => ?_⟩
  rw [h4 x, satM_start hl _ (Nat.le_refl _), List.take_length]
theorem tightX_none (hl : l.all (bndB (n : Int)) = true) (h : tightX n l = none) : ¬ SatL l x := fun hs => by
  refine fwX_no h (x := x) ?_
  rw [satM_start hl _ (Nat.le_refl _), List.take_length]
  exact hs
theorem tightX_ex {M : Mat} (h1 : 1 ≤ n) (hn : n ≤ 24) (hl : l.all (bndB (n : Int)) = true) (h : tightX n l = some M) : ∃ x, SatL l x := by
  obtain ⟨h2, _, h4⟩ := tightX_some h1 hn hl h
  exact ⟨_, (h4 _).1 (sch_sat h2)⟩
/-- The same bounds in another order. -/
theorem tightX_same {m : List Bnd} {M M' : Mat} (h1 : 1 ≤ n) (hn : n ≤ 24) (hl : l.all (bndB (n : Int)) = true) (hm : m.all (bndB (n : Int)) = true) (h : tightX n l = some M) (h' : tightX n m = some M') (hs : ∀ x, SatL l x ↔ SatL m x) {i j : Nat} (hi : i < n) (hj : j < n) : M i j = M' i j := by
  obtain ⟨a1, a2, a3⟩ := tightX_some h1 hn hl h
  obtain ⟨b1, b2, b3⟩ := tightX_some h1 hn hm h'
  exact clo_unique a1 a2 (by decide) b1 b2 (by decide) (fun x => by rw [a3, b3, hs]) hi hj
end
/-! ### A bound more -/
def addM (M : Mat) (b : Bnd) : Mat := fun i j => min (M i j) (plusC (plusC (M i b.1.toNat) b.2.2) (M b.2.1.toNat j))
theorem plusC_fin {a b : Int} (ha : a ≤ 1000000000000 ∧ -1000000000000 ≤ a) (hb : b ≤ 1000000000000 ∧ -1000000000000 ≤ b) : plusC a b = a + b := by
  unfold plusC addC noneD
  rw [if_neg (by omega), if_pos (by omega)]
theorem plusC_none {a b : Int} (h : a = noneD ∨ b = noneD) : plusC a b = noneD := by
  unfold plusC
  rw [if_pos h]
section
variable {n : Nat} {M : Mat} {b : Bnd} {x : Nat → Int}
theorem addM_via (hn : Near n 26843545600 M) (hb : bndB (n : Int) b = true) {i j : Nat} (hi : i < n) (hj : j < n) :
    (M i b.1.toNat < noneD ∧ M b.2.1.toNat j < noneD ∧ plusC (plusC (M i b.1.toNat) b.2.2) (M b.2.1.toNat j) = M i b.1.toNat + b.2.2 + M b.2.1.toNat j) ∨ (¬ (M i b.1.toNat < noneD ∧ M b.2.1.toNat j < noneD) ∧ plusC (plusC (M i b.1.toNat) b.2.2) (M b.2.1.toNat j) = noneD) := by
  obtain ⟨b1, b2, b3, b4, b5, b6⟩ := bndB_iff.1 hb
  have h1 := hn i b.1.toNat hi (by omega)
  have h2 := hn b.2.1.toNat j (by omega) hj
  by_cases e1 : M i b.1.toNat < noneD
  · have f1 := h1.2 e1
    rw [plusC_fin (a := M i b.1.toNat) (by omega) (by omega)]
    by_cases e2 : M b.2.1.toNat j < noneD
    · have f2 := h2.2 e2
      rw [plusC_fin (by omega) (by omega)]
      exact .inl ⟨e1, e2, rfl⟩
    · exact .inr ⟨fun h => e2 h.2, plusC_none (.inr (by omega))⟩
  · rw [plusC_none (a := M i b.1.toNat) (.inl (by omega)), plusC_none (.inl rfl)]
    exact .inr ⟨fun h => e1 h.1, rfl⟩
theorem addM_bad (hn : Near n 26843545600 M) (hb : bndB (n : Int) b = true) (h : plusC (M b.2.1.toNat b.1.toNat) b.2.2 < 0) : ¬ (SatM n M x ∧ x b.2.1.toNat - x b.1.toNat ≤ b.2.2) := fun ⟨h1, h2⟩ => by
  obtain ⟨b1, b2, b3, b4, b5, b6⟩ := bndB_iff.1 hb
  have h3 := hn b.2.1.toNat b.1.toNat (by omega) (by omega)
  by_cases e : M b.2.1.toNat b.1.toNat < noneD
  · have f := h3.2 e
    rw [plusC_fin (by omega) (by omega)] at h
    have := h1 _ _ (by omega) (by omega) e
    omega
  · rw [plusC_none (.inl (by omega))] at h
    exact absurd h (by decide)
theorem addM_fin (hn : Near n 26843545600 M) (hb : bndB (n : Int) b = true) {i j : Nat} (hi : i < n) (hj : j < n) (hf : addM M b i j < noneD) : (M i j < noneD ∧ addM M b i j = M i j) ∨ (M i b.1.toNat < noneD ∧ M b.2.1.toNat j < noneD ∧ addM M b i j = M i b.1.toNat + b.2.2 + M b.2.1.toNat j) := by
  unfold addM at hf ⊢
  rcases addM_via hn hb hi hj with ⟨h1, h2, h3⟩ | ⟨h1, h3⟩
  · rw [h3] at hf ⊢
    rcases Int.lt_or_le (M i j) (M i b.1.toNat + b.2.2 + M b.2.1.toNat j) with h | h
    · exact .inl ⟨by omega, by omega⟩
    · exact .inr ⟨h1, h2, by omega⟩
  · rw [h3] at hf ⊢
    exact .inl ⟨by omega, by omega⟩
theorem addM_ge (hn : Near n 26843545600 M) (hb : bndB (n : Int) b = true) {i j : Nat} (hi : i < n) (hj : j < n) (h1 : M i b.1.toNat < noneD) (h2 : M b.2.1.toNat j < noneD) : addM M b i j < noneD ∧ addM M b i j ≤ M i b.1.toNat + b.2.2 + M b.2.1.toNat j := by
  obtain ⟨b1, b2, b3, b4, b5, b6⟩ := bndB_iff.1 hb
  unfold addM
  rcases addM_via hn hb hi hj with ⟨_, _, h3⟩ | ⟨h3, _⟩
  · rw [h3]
    have := (hn i b.1.toNat hi (by omega)).2 h1
    have := (hn b.2.1.toNat j (by omega) hj).2 h2
    unfold noneD
    omega
  · exact absurd ⟨h1, h2⟩ h3
theorem addM_le (i j : Nat) : addM M b i j ≤ M i j := by unfold addM; omega
theorem addM_clo (hM : Clo n M) (hn : Near n 26843545600 M) (hb : bndB (n : Int) b = true) (h : ¬ plusC (M b.2.1.toNat b.1.toNat) b.2.2 < 0) : Clo n (addM M b) ∧ Near n 100000000000 (addM M b) ∧ ∀ x, SatM n (addM M b) x ↔ SatM n M x ∧ x b.2.1.toNat - x b.1.toNat ≤ b.2.2 := by
  obtain ⟨b1, b2, b3, b4, b5, b6⟩ := bndB_iff.1 hb
  have hI : b.1.toNat < n := by omega
  have hJ : b.2.1.toNat < n := by omega
  have hJI : M b.2.1.toNat b.1.toNat < noneD → 0 ≤ M b.2.1.toNat b.1.toNat + b.2.2 := fun e => by
    have f := (hn _ _ hJ hI).2 e
    rw [plusC_fin (by omega) (by omega)] at h
    omega
  have hnr : Near n 100000000000 (addM M b) := fun i j hi hj => by
    have h1 := hn i j hi hj
    have h2 := addM_le (M := M) (b := b) i j
    refine ⟨by omega, fun hf => ?_⟩
    rcases addM_fin hn hb hi hj hf with ⟨f1, e1⟩ | ⟨f1, f2, e1⟩
    · have := h1.2 f1; omega
    · have := (hn i _ hi hI).2 f1; have := (hn _ j hJ hj).2 f2; omega
  refine ⟨⟨fun i j v hi hj hv hiv hvj => ?_, fun i hi => ?_⟩, hnr, fun x => ⟨fun hs => ⟨fun i j hi hj hf => ?_, ?_⟩, fun ⟨hs, hs2⟩ i j hi hj hf => ?_⟩⟩
  · have hle := addM_le (M := M) (b := b) i j
    rcases addM_fin hn hb hi hv hiv with ⟨f1, e1⟩ | ⟨f1, f2, e1⟩ <;> rcases addM_fin hn hb hv hj hvj with ⟨f3, e3⟩ | ⟨f3, f4, e3⟩
    · have c := hM.tri i j v hi hj hv f1 f3
      omega
    · have c := hM.tri i _ v hi hI hv f1 f3
      have g := addM_ge hn hb hi hj c.1 f4
      omega
    · have c := hM.tri _ j v hJ hj hv f2 f3
      have g := addM_ge hn hb hi hj f1 c.1
      omega
    · have c := hM.tri _ _ v hJ hI hv f2 f3
      have g := addM_ge hn hb hi hj f1 f4
      have := hJI c.1
      omega
  · have h1 := hM.dia i hi
    have h2 := addM_le (M := M) (b := b) i i
    rcases addM_fin hn hb hi hi (by unfold noneD; omega) with ⟨f1, e1⟩ | ⟨f1, f2, e1⟩
    · omega
    · have c := hM.tri _ _ i hJ hI hi f2 f1
      have := hJI c.1
      omega
  · have := addM_le (M := M) (b := b) i j
    have := hs i j hi hj (by omega)
    omega
  · have h1 := hM.dia _ hI
    have h2 := hM.dia _ hJ
    have g := addM_ge hn hb hI hJ (by rw [h1]; decide) (by rw [h2]; decide)
    have := hs _ _ hI hJ g.1
    omega
  · rcases addM_fin hn hb hi hj hf with ⟨f1, e1⟩ | ⟨f1, f2, e1⟩
    · have := hs i j hi hj f1; omega
    · have := hs i _ hi hI f1
      have := hs _ j hJ hj f2
      omega
/-- A closed matrix with a bound more is the closed matrix of the bounds with this one. -/
theorem tightX_add {l : List Bnd} (h1 : 1 ≤ n) (h24 : n ≤ 24) (hl : l.all (bndB (n : Int)) = true) (hb : bndB (n : Int) b = true) {N : Mat} (hN : tightX n l = some N) (hM : ∀ i j, i < n → j < n → M i j = N i j) :
    (plusC (M b.2.1.toNat b.1.toNat) b.2.2 < 0 → tightX n (l ++ [b]) = none) ∧ (¬ plusC (M b.2.1.toNat b.1.toNat) b.2.2 < 0 → ∃ N', tightX n (l ++ [b]) = some N' ∧ ∀ i j, i < n → j < n → addM M b i j = N' i j) := by
  obtain ⟨b1, b2, b3, b4, b5, b6⟩ := bndB_iff.1 hb
  have hI : b.1.toNat < n := by omega
  have hJ : b.2.1.toNat < n := by omega
  obtain ⟨c1, c2, c3⟩ := tightX_some h1 h24 hl hN
  have hlb : (l ++ [b]).all (bndB (n : Int)) = true := by rw [List.all_append, hl]; simp [hb]
  rw [hM _ _ hJ hI]
  refine ⟨fun h => ?_, fun h => ?_⟩
  · cases hT : tightX n (l ++ [b]) with
    | none => rfl
    | some N' =>
      exfalso
      obtain ⟨x, hx⟩ := tightX_ex h1 h24 hlb hT
      rw [satL_app, satL_one, ← c3] at hx
      exact addM_bad c2 hb h hx
  · obtain ⟨d1, d2, d3⟩ := addM_clo c1 c2 hb h
    cases hT : tightX n (l ++ [b]) with
    | none =>
      exfalso
      have h3 := (d3 _).1 (sch_sat d1)
      refine tightX_none hlb hT (x := fun j => schT (addM N b) j n) ?_
      rw [satL_app, satL_one, ← c3]
      exact h3
    | some N' =>
      refine ⟨N', rfl, fun i j hi hj => ?_⟩
      obtain ⟨e1, e2, e3⟩ := tightX_some h1 h24 hlb hT
      have h4 : addM M b i j = addM N b i j := by unfold addM; rw [hM i j hi hj, hM i _ hi hI, hM _ j hJ hj]
      rw [h4]
      refine clo_unique d1 d2 (by decide) e1 e2 (by decide) (fun x => ?_) hi hj
      rw [d3, e3, satL_app, satL_one, c3]
end
end Go.Proofs.YtcppcfinnbeboaaGreat
