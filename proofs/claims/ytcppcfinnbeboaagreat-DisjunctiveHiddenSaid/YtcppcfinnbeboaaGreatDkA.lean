/- Law 47: shortest distances: what the rounds compute, exactly. No program in sight. -/
import Derived.Test.YtcppcfinnbeboaaGreatDjP
namespace Go.Proofs.YtcppcfinnbeboaaGreat

/-! ### Exact rounds -/
def cellX (M : Mat) (k i j : Nat) : Mat := if M i k < noneD ∧ M k j < noneD then upd M i j (min (M i j) (M i k + M k j)) else M
def rowX (M : Mat) (k i : Nat) : Nat → Mat
  | 0 => M
  | j + 1 => cellX (rowX M k i j) k i j
def stageX (M : Mat) (k n : Nat) : Nat → Mat
  | 0 => M
  | i + 1 => rowX (stageX M k n i) k i n
def fwX (M : Mat) (n : Nat) : Nat → Option Mat
  | 0 => some M
  | k + 1 => match fwX M n k with
    | none => none
    | some N => if negF (stageX N k n n) n then none else some (stageX N k n n)
def tightX (n : Nat) (l : List Bnd) : Option Mat := fwX (startF l l.length) n n
theorem upd_same {M : Mat} (i j : Nat) : upd M i j (M i j) = M := by
  funext a b
  unfold upd
  split
  · rename_i h; rw [h.1, h.2]
  · rfl
theorem upd_le {M : Mat} {i j : Nat} {x : Int} (h : x ≤ M i j) (a b : Nat) : upd M i j x a b ≤ M a b := by
  unfold upd
  split
  · rename_i e; rw [e.1, e.2]; exact h
  · exact Int.le_refl _
theorem cellX_le (M : Mat) (k i j a b : Nat) : cellX M k i j a b ≤ M a b := by
  unfold cellX
  split
  · exact upd_le (by omega) a b
  · exact Int.le_refl _
theorem rowX_le (M : Mat) (k i a b : Nat) : ∀ m, rowX M k i m a b ≤ M a b
  | 0 => Int.le_refl _
  | m + 1 => Int.le_trans (cellX_le _ _ _ _ _ _) (rowX_le M k i a b m)
theorem stageX_le (M : Mat) (k n a b : Nat) : ∀ m, stageX M k n m a b ≤ M a b
  | 0 => Int.le_refl _
  | m + 1 => Int.le_trans (rowX_le _ _ _ _ _ _) (stageX_le M k n a b m)
theorem cellF_le (M : Mat) (k i j a b : Nat) : cellF M k i j a b ≤ M a b := upd_le (by omega) a b
theorem rowF_le (M : Mat) (k i a b : Nat) : ∀ m, rowF M k i m a b ≤ M a b
  | 0 => Int.le_refl _
  | m + 1 => Int.le_trans (cellF_le _ _ _ _ _ _) (rowF_le M k i a b m)
theorem stageF_le (M : Mat) (k n a b : Nat) : ∀ m, stageF M k n m a b ≤ M a b
  | 0 => Int.le_refl _
  | m + 1 => Int.le_trans (rowF_le _ _ _ _ _ _) (stageF_le M k n a b m)
theorem fwX_succ (M : Mat) (n k : Nat) : fwX M n (k + 1) = (match fwX M n k with | none => none | some N => if negF (stageX N k n n) n then none else some (stageX N k n n)) := rfl
theorem fwTo_succ (M : Mat) (n k : Nat) : fwTo M n (k + 1) = (match fwTo M n k with | none => none | some N => if lowF (stageF N k n n) n n then none else some (stageF N k n n)) := rfl
theorem fwX_le {W M : Mat} {n : Nat} : ∀ k, fwX W n k = some M → ∀ a b, M a b ≤ W a b := by
  intro k
  induction k generalizing M with
  | zero => intro h a b; cases h; exact Int.le_refl _
  | succ k ih =>
    intro h a b
    rw [fwX_succ] at h
    cases hN : fwX W n k with
    | none => rw [hN] at h; cases h
    | some N =>
      rw [hN] at h
      simp only at h
      split at h
      · cases h
      · cases h
        exact Int.le_trans (stageX_le _ _ _ _ _ _) (ih hN a b)
theorem fwTo_le {W M : Mat} {n : Nat} : ∀ k, fwTo W n k = some M → ∀ a b, M a b ≤ W a b := by
  intro k
  induction k generalizing M with
  | zero => intro h a b; cases h; exact Int.le_refl _
  | succ k ih =>
    intro h a b
    rw [fwTo_succ] at h
    cases hN : fwTo W n k with
    | none => rw [hN] at h; cases h
    | some N =>
      rw [hN] at h
      simp only at h
      split at h
      · cases h
      · cases h
        exact Int.le_trans (stageF_le _ _ _ _ _ _) (ih hN a b)
/-! ### A round at a matrix without a negative diagonal -/
def parX (M : Mat) (k : Nat) : Mat := fun i j => if M i k < noneD ∧ M k j < noneD then min (M i j) (M i k + M k j) else M i j
theorem parX_col {M : Mat} {k : Nat} (h0 : M k k = 0) (i : Nat) : parX M k i k = M i k := by
  unfold parX; rw [h0]; split <;> omega
theorem parX_row {M : Mat} {k : Nat} (h0 : M k k = 0) (j : Nat) : parX M k k j = M k j := by
  unfold parX; rw [h0]; split <;> omega
theorem rowX_get {M : Mat} {k : Nat} (h0 : M k k = 0) (i : Nat) : ∀ m, rowX M k i m = fun a b => if a = i ∧ b < m then parX M k a b else M a b
  | 0 => by funext a b; rw [if_neg (by omega)]; rfl
  | m + 1 => by
    rw [rowX, rowX_get h0 i m]
    have e1 : (fun a b => if a = i ∧ b < m then parX M k a b else M a b) i k = M i k := by
      show (if i = i ∧ k < m then parX M k i k else M i k) = M i k
      rw [parX_col h0]; split <;> rfl
    have e2 : (fun a b => if a = i ∧ b < m then parX M k a b else M a b) k m = M k m := by
      show (if k = i ∧ m < m then parX M k k m else M k m) = M k m
      rw [if_neg (by omega)]
    have e3 : (fun a b => if a = i ∧ b < m then parX M k a b else M a b) i m = M i m := by
      show (if i = i ∧ m < m then parX M k i m else M i m) = M i m
      rw [if_neg (by omega)]
    unfold cellX
    rw [e1, e2, e3]
    funext a b
    by_cases h : M i k < noneD ∧ M k m < noneD
    · rw [if_pos h]
      unfold upd
      by_cases e : a = i ∧ b = m
      · obtain ⟨rfl, rfl⟩ := e
        rw [if_pos ⟨rfl, rfl⟩, if_pos ⟨rfl, by omega⟩]
        unfold parX
        rw [if_pos h]
      · rw [if_neg e]
        show (if a = i ∧ b < m then parX M k a b else M a b) = _
        by_cases e2 : a = i ∧ b < m
        · rw [if_pos e2, if_pos ⟨e2.1, by omega⟩]
        · rw [if_neg e2, if_neg (by omega)]
    · rw [if_neg h]
      show (if a = i ∧ b < m then parX M k a b else M a b) = _
      by_cases e : a = i ∧ b = m
      · obtain ⟨rfl, rfl⟩ := e
        rw [if_neg (by omega), if_pos ⟨rfl, by omega⟩]
        unfold parX
        rw [if_neg h]
      · by_cases e2 : a = i ∧ b < m
        · rw [if_pos e2, if_pos ⟨e2.1, by omega⟩]
        · rw [if_neg e2, if_neg (by omega)]
theorem stageX_get {M : Mat} {k : Nat} (h0 : M k k = 0) (n : Nat) : ∀ m, stageX M k n m = fun a b => if a < m ∧ b < n then parX M k a b else M a b
  | 0 => by funext a b; rw [if_neg (by omega)]; rfl
  | m + 1 => by
    rw [stageX, stageX_get h0 n m]
    have ek : (fun a b => if a < m ∧ b < n then parX M k a b else M a b) k k = 0 := by
      show (if k < m ∧ k < n then parX M k k k else M k k) = 0
      rw [parX_col h0, h0]; split <;> rfl
    rw [rowX_get ek]
    funext a b
    by_cases e : a = m ∧ b < n
    · obtain ⟨rfl, hb⟩ := e
      rw [if_pos ⟨rfl, hb⟩, if_pos ⟨by omega, hb⟩]
      have e1 : (fun a' b => if a' < a ∧ b < n then parX M k a' b else M a' b) a k = M a k := by
        show (if a < a ∧ k < n then parX M k a k else M a k) = M a k
        rw [if_neg (by omega)]
      have e2 : (fun a' b => if a' < a ∧ b < n then parX M k a' b else M a' b) k b = M k b := by
        show (if k < a ∧ b < n then parX M k k b else M k b) = M k b
        rw [parX_row h0]; split <;> rfl
      have e3 : (fun a' b => if a' < a ∧ b < n then parX M k a' b else M a' b) a b = M a b := by
        show (if a < a ∧ b < n then parX M k a b else M a b) = M a b
        rw [if_neg (by omega)]
      unfold parX
      unfold parX at e1 e2 e3
      rw [e1, e2, e3]
    · rw [if_neg e]
      show (if a < m ∧ b < n then parX M k a b else M a b) = _
      by_cases e2 : a < m ∧ b < n
      · rw [if_pos e2, if_pos ⟨by omega, e2.2⟩]
      · rw [if_neg e2, if_neg (by omega)]
theorem negF_true {M : Mat} {n i : Nat} (hi : i < n) (h : M i i < 0) : negF M n = true := by
  unfold negF
  rw [List.any_eq_true]
  exact ⟨i, List.mem_range.2 hi, decide_eq_true h⟩
theorem negF_false {M : Mat} {n : Nat} (h : negF M n = false) (i : Nat) (hi : i < n) : 0 ≤ M i i := by
  rcases Int.lt_or_le (M i i) 0 with h2 | h2
  · rw [negF_true hi h2] at h; cases h
  · exact h2
theorem negF_ex {M : Mat} {n : Nat} (h : negF M n = true) : ∃ i, i < n ∧ M i i < 0 := by
  unfold negF at h
  rw [List.any_eq_true] at h
  obtain ⟨i, hi, h2⟩ := h
  exact ⟨i, List.mem_range.1 hi, of_decide_eq_true h2⟩
/-! ### Walks -/
def wsum (W : Mat) : Nat → List Nat → Nat → Int
  | i, [], j => W i j
  | i, v :: p, j => W i v + wsum W v p j
def wfin (W : Mat) : Nat → List Nat → Nat → Prop
  | i, [], j => W i j < noneD
  | i, v :: p, j => W i v < noneD ∧ wfin W v p j
theorem wsum_app (W : Mat) (v : Nat) (q : List Nat) (j : Nat) : ∀ p i, wsum W i (p ++ v :: q) j = wsum W i p v + wsum W v q j
  | [], i => rfl
  | u :: p, i => by
    rw [List.cons_append, wsum, wsum, wsum_app W v q j p u]
    omega
theorem wfin_app (W : Mat) (v : Nat) (q : List Nat) (j : Nat) : ∀ p i, wfin W i (p ++ v :: q) j ↔ wfin W i p v ∧ wfin W v q j
  | [], i => Iff.rfl
  | u :: p, i => by
    rw [List.cons_append, wfin, wfin, wfin_app W v q j p u]
    exact ⟨fun h => ⟨⟨h.1, h.2.1⟩, h.2.2⟩, fun h => ⟨h.1.1, h.1.2, h.2⟩⟩
/-- The elements of a matrix are none, or moderate. -/
def Mod (n : Nat) (W : Mat) : Prop := ∀ i j, i < n → j < n → W i j = noneD ∨ -1073741824 ≤ W i j ∧ W i j ≤ 1073741824
theorem wsum_bnd {n : Nat} {W : Mat} (hW : Mod n W) {j : Nat} (hj : j < n) : ∀ p i, i < n → (∀ v ∈ p, v < n) → wfin W i p j → -(((p.length : Int) + 1) * 1073741824) ≤ wsum W i p j ∧ wsum W i p j ≤ ((p.length : Int) + 1) * 1073741824
  | [], i, hi, _, hf => by
    have := hW i j hi hj
    unfold wfin at hf
    unfold wsum
    simp only [List.length_nil]
    unfold noneD at *
    omega
  | u :: p, i, hi, hp, hf => by
    unfold wfin at hf
    have hu := hp u (by simp)
    have h1 := wsum_bnd hW hj p u hu (fun v hv => hp v (by simp [hv])) hf.2
    have h2 := hW i u hi hu
    have h3 := hf.1
    unfold wsum
    simp only [List.length_cons]
    unfold noneD at *
    push_cast
    omega
theorem dup_split : ∀ p : List Nat, ¬ p.Nodup → ∃ v a b c, p = a ++ v :: (b ++ v :: c)
  | [], h => absurd List.nodup_nil h
  | u :: p, h => by
    by_cases hu : u ∈ p
    · obtain ⟨b, c, rfl⟩ := List.append_of_mem hu
      exact ⟨u, [], b, c, rfl⟩
    · by_cases hp : p.Nodup
      · exact absurd (List.nodup_cons.2 ⟨hu, hp⟩) h
      · obtain ⟨v, a, b, c, rfl⟩ := dup_split p hp
        exact ⟨v, u :: a, b, c, rfl⟩
theorem nodup_short : ∀ (k : Nat) (l : List Nat), l.Nodup → (∀ v ∈ l, v < k) → l.length ≤ k
  | 0, l, _, h => by
    cases l with
    | nil => exact Nat.le_refl _
    | cons a l => exact absurd (h a (by simp)) (by omega)
  | k + 1, l, hn, h => by
    have h1 := nodup_short k (l.erase k) (hn.erase k) fun v hv => by
      have h2 := (hn.mem_erase_iff).1 hv
      have := h v h2.2
      omega
    have h2 := List.length_erase (a := k) (l := l)
    split at h2 <;> omega
/-! ### What holds behind the first rounds -/
structure FwInv (n k : Nat) (W M : Mat) : Prop where
  clo : ∀ i j v, i < n → j < n → v < k → M i v < noneD → M v j < noneD → M i j < noneD ∧ M i j ≤ M i v + M v j
  wal : ∀ i j, i < n → j < n → M i j < noneD → ∃ p : List Nat, (∀ v ∈ p, v < k) ∧ wfin W i p j ∧ wsum W i p j = M i j
  le : ∀ i j, M i j ≤ W i j
  dia : ∀ i, i < n → M i i = 0
section
variable {n k : Nat} {W M : Mat}
theorem FwInv.walk (h : FwInv n k W M) (hk : k ≤ n) {j : Nat} (hj : j < n) : ∀ p i, i < n → (∀ v ∈ p, v < k) → wfin W i p j → M i j < noneD ∧ M i j ≤ wsum W i p j
  | [], i, hi, _, hf => by
    have := h.le i j
    unfold wfin at hf
    unfold wsum
    omega
  | u :: p, i, hi, hp, hf => by
    unfold wfin at hf
    have hu := hp u (by simp)
    have h1 := FwInv.walk h hk hj p u (by omega) (fun v hv => hp v (by simp [hv])) hf.2
    have h2 := h.le i u
    have h3 := h.clo i j u hi hj hu (by omega) h1.1
    unfold wsum
    omega
theorem FwInv.short (h : FwInv n k W M) (hk : k ≤ n) {i j : Nat} : ∀ m (p : List Nat), p.length ≤ m → (∀ v ∈ p, v < k) → wfin W i p j → ∃ q : List Nat, q.Nodup ∧ (∀ v ∈ q, v < k) ∧ wfin W i q j ∧ wsum W i q j ≤ wsum W i p j
  | 0, p, hm, hp, hf => by
    have : p = [] := List.length_eq_zero_iff.1 (by omega)
    subst this
    exact ⟨[], List.nodup_nil, hp, hf, Int.le_refl _⟩
  | m + 1, p, hm, hp, hf => by
    by_cases hn : p.Nodup
    · exact ⟨p, hn, hp, hf, Int.le_refl _⟩
    · obtain ⟨v, a, b, c, rfl⟩ := dup_split p hn
      rw [wfin_app, wfin_app] at hf
      have hv := hp v (by simp)
      have hl := (h.walk hk (j := v) (by omega) b v (by omega) (fun x hx => hp x (by simp [hx])) hf.2.1).2
      rw [h.dia v (by omega)] at hl
      obtain ⟨q, h1, h2, h3, h4⟩ := FwInv.short h hk m (a ++ v :: c) (by simp at hm ⊢; omega) (fun x hx => hp x (by
        simp at hx ⊢
        rcases hx with hx | hx | hx
        · exact .inl hx
        · exact .inr (.inl hx)
        · exact .inr (.inr (.inr (.inr hx))))) ((wfin_app _ _ _ _ _ _).2 ⟨hf.1, hf.2.2⟩)
      refine ⟨q, h1, h2, h3, ?_⟩
      rw [wsum_app] at h4
      rw [wsum_app, wsum_app]
      omega
theorem FwInv.bnd (h : FwInv n k W M) (hW : Mod n W) (hk : k ≤ n) (hn : n ≤ 24) {i j : Nat} (hi : i < n) (hj : j < n) (hf : M i j < noneD) : -26843545600 ≤ M i j ∧ M i j ≤ 26843545600 := by
  obtain ⟨p, h1, h2, h3⟩ := h.wal i j hi hj hf
  obtain ⟨q, q1, q2, q3, q4⟩ := h.short hk p.length p (Nat.le_refl _) h1 h2
  have q5 := h.walk hk hj q i hi q2 q3
  have q6 := wsum_bnd hW hj q i hi (fun v hv => by have := q2 v hv; omega) q3
  have q7 := nodup_short k q q1 q2
  have : (q.length : Int) ≤ 24 := by omega
  omega
theorem FwInv.top (h : FwInv n k W M) (hW : Mod n W) {i j : Nat} (hi : i < n) (hj : j < n) : M i j ≤ noneD := by
  have := h.le i j
  have := hW i j hi hj
  unfold noneD at *
  omega
theorem FwInv.zero (_ : Mod n W) (hd : ∀ i, i < n → W i i = 0) : FwInv n 0 W W :=
  ⟨fun _ _ v _ _ hv => absurd hv (by omega), fun i j _ _ hf => ⟨[], by simp, hf, rfl⟩, fun _ _ => Int.le_refl _, hd⟩
theorem parX_fin {i j : Nat} (h : parX M k i j < noneD) : M i j < noneD ∧ M i j = parX M k i j ∨ M i k < noneD ∧ M k j < noneD ∧ M i k + M k j = parX M k i j := by
  unfold parX at h ⊢
  split
  · rename_i h2
    rw [if_pos h2] at h
    rcases Int.le_total (M i j) (M i k + M k j) with h3 | h3
    · exact .inl ⟨by omega, by omega⟩
    · exact .inr ⟨h2.1, h2.2, by omega⟩
  · rename_i h2
    rw [if_neg h2] at h
    exact .inl ⟨h, rfl⟩
theorem FwInv.succ (h : FwInv n k W M) (hW : Mod n W) (hk : k < n) (hn : n ≤ 24) (hd : ∀ i, i < n → 0 ≤ parX M k i i) : FwInv n (k + 1) W (fun a b => if a < n ∧ b < n then parX M k a b else M a b) := by
  have h0 := h.dia k hk
  have hb := fun {i j : Nat} (hi : i < n) (hj : j < n) (hf : M i j < noneD) => h.bnd hW (by omega) hn hi hj hf
  have hple : ∀ i j, parX M k i j ≤ M i j := fun i j => by unfold parX; split <;> omega
  have hpvia : ∀ i j, M i k < noneD → M k j < noneD → parX M k i j ≤ M i k + M k j := fun i j h1 h2 => by unfold parX; rw [if_pos ⟨h1, h2⟩]; omega
  refine ⟨fun i j v hi hj hv => ?_, fun i j hi hj => ?_, fun i j => ?_, fun i hi => ?_⟩
  · have hvn : v < n := by omega
    simp only [hi, hj, hvn, and_self, if_true]
    intro hiv hvj
    have hkey : ∀ x : Int, parX M k i j ≤ x → x ≤ 214748364800 → x ≤ parX M k i v + parX M k v j → parX M k i j < noneD ∧ parX M k i j ≤ parX M k i v + parX M k v j := fun x h1 h2 h3 => by unfold noneD; omega
    rcases Nat.lt_or_ge v k with hvk | hvk
    · rcases parX_fin hiv with ⟨f1, e1⟩ | ⟨f1, f2, e1⟩ <;> rcases parX_fin hvj with ⟨f3, e3⟩ | ⟨f3, f4, e3⟩
      · have c := h.clo i j v hi hj hvk f1 f3
        have := hple i j
        have := hb hi hj c.1
        exact hkey (M i j) (by omega) (by omega) (by omega)
      · have c := h.clo i k v hi hk hvk f1 f3
        have := hpvia i j c.1 f4
        have := hb hi hk c.1; have := hb hk hj f4
        exact hkey (M i k + M k j) (by omega) (by omega) (by omega)
      · have c := h.clo k j v hk hj hvk f2 f3
        have := hpvia i j f1 c.1
        have := hb hi hk f1; have := hb hk hj c.1
        exact hkey (M i k + M k j) (by omega) (by omega) (by omega)
      · have c := h.clo k k v hk hk hvk f2 f3
        have := hpvia i j f1 f4
        have := hb hi hk f1; have := hb hk hj f4
        exact hkey (M i k + M k j) (by omega) (by omega) (by omega)
    · obtain rfl : v = k := by omega
      rw [parX_col h0] at hiv ⊢
      rw [parX_row h0] at hvj ⊢
      have := hpvia i j hiv hvj
      have := hb hi hk hiv; have := hb hk hj hvj
      unfold noneD
      omega
  · simp only [hi, hj, and_self, if_true]
    intro hf
    rcases parX_fin hf with ⟨f1, e1⟩ | ⟨f1, f2, e1⟩
    · obtain ⟨p, h1, h2, h3⟩ := h.wal i j hi hj f1
      exact ⟨p, fun v hv => by have := h1 v hv; omega, h2, by omega⟩
    · obtain ⟨p, h1, h2, h3⟩ := h.wal i k hi hk f1
      obtain ⟨q, q1, q2, q3⟩ := h.wal k j hk hj f2
      refine ⟨p ++ k :: q, fun v hv => ?_, (wfin_app _ _ _ _ _ _).2 ⟨h2, q2⟩, by rw [wsum_app]; omega⟩
      rcases List.mem_append.1 hv with hv | hv
      · have := h1 v hv; omega
      · rcases List.mem_cons.1 hv with hv | hv
        · omega
        · have := q1 v hv; omega
  · show (if i < n ∧ j < n then parX M k i j else M i j) ≤ W i j
    have := h.le i j
    have := hple i j
    split <;> omega
  · simp only [hi, and_self, if_true]
    have := hd i hi
    have := hple i i
    have := h.dia i hi
    omega
theorem fwX_inv (hW : Mod n W) (hn : n ≤ 24) (hd : ∀ i, i < n → W i i ≤ 0) : ∀ k M, k ≤ n → fwX W n k = some M → (k = 0 ∧ M = W) ∨ FwInv n k W M := by
  intro k
  induction k with
  | zero => intro M _ h; cases h; exact .inl ⟨rfl, rfl⟩
  | succ k ih =>
    intro M hk h
    right
    rw [fwX_succ] at h
    cases hN : fwX W n k with
    | none => rw [hN] at h; cases h
    | some N =>
      rw [hN] at h
      simp only at h
      split at h
      · cases h
      · rename_i hng
        cases h
        have hng := Bool.eq_false_iff.2 hng
        have hI : FwInv n k W N := by
          rcases ih N (by omega) hN with ⟨rfl, rfl⟩ | h
          · refine FwInv.zero hW fun i hi => ?_
            have h1 := negF_false hng i hi
            have h2 := stageX_le N 0 n i i n
            have := hd i hi
            omega
          · exact h
        have h0 := hI.dia k (by omega)
        rw [stageX_get h0] at hng ⊢
        refine hI.succ hW (by omega) hn fun i hi => ?_
        have := negF_false hng i hi
        simpa only [hi, and_self, if_true] using this
end
/-! ### The code's rounds are exact -/
theorem lowF_false {M : Mat} {m n : Nat} (h : ∀ i j, i < m → j < n → -68719476736 ≤ M i j) : lowF M m n = false := by
  rw [Bool.eq_false_iff]
  intro h2
  unfold lowF at h2
  rw [List.any_eq_true] at h2
  obtain ⟨i, hi, h3⟩ := h2
  rw [List.any_eq_true] at h3
  obtain ⟨j, hj, h4⟩ := h3
  have := h i j (List.mem_range.1 hi) (List.mem_range.1 hj)
  have := of_decide_eq_true h4
  omega
/-- All elements of the first rows and columns are none, or between bounds. -/
def Near (n : Nat) (c : Int) (M : Mat) : Prop := ∀ i j, i < n → j < n → M i j ≤ noneD ∧ (M i j < noneD → -c ≤ M i j ∧ M i j ≤ c)
theorem cellF_X {M : Mat} {n k i j : Nat} (h : Near n 1000000000000 M) (hk : k < n) (hi : i < n) (hj : j < n) : cellF M k i j = cellX M k i j := by
  have h1 := h i k hi hk
  have h2 := h k j hk hj
  have h3 := h i j hi hj
  unfold cellF cellX
  by_cases e : M i k < noneD ∧ M k j < noneD
  · rw [if_pos e]
    have e2 : plusC (M i k) (M k j) = M i k + M k j := by
      unfold plusC addC
      rw [if_neg (by omega), if_pos (by have := h1.2 e.1; have := h2.2 e.2; omega)]
    rw [e2]
  · rw [if_neg e]
    have e2 : plusC (M i k) (M k j) = noneD := by
      unfold plusC
      rw [if_pos (by omega)]
    rw [e2, show min (M i j) noneD = M i j from by omega, upd_same]
theorem stageF_X {n k : Nat} {M : Mat} (h0 : M k k = 0) (h : Near n 100000000000 M) (hk : k < n) : ∀ m, m ≤ n → stageF M k n m = stageX M k n m
  | 0, _ => rfl
  | m + 1, hm => by
    rw [stageF, stageX, stageF_X h0 h hk m (by omega)]
    have hpar : ∀ a b, a < n → b < n → parX M k a b ≤ noneD ∧ (parX M k a b < noneD → -1000000000000 ≤ parX M k a b ∧ parX M k a b ≤ 1000000000000) := fun a b ha hb => by
      have h1 := h a b ha hb; have h2 := h a k ha hk; have h3 := h k b hk hb
      unfold parX
      split
      · rename_i e
        have := h2.2 e.1; have := h3.2 e.2
        refine ⟨by omega, fun _ => ?_⟩
        rcases Int.lt_or_le (M a b) noneD with e3 | e3
        · have := h1.2 e3; omega
        · unfold noneD at *; omega
      · exact ⟨h1.1, fun e => by have := h1.2 e; omega⟩
    have hrow : ∀ q, q ≤ n → rowF (stageX M k n m) k m q = rowX (stageX M k n m) k m q := by
      intro q
      induction q with
      | zero => intro _; rfl
      | succ q ih =>
        intro hq
        rw [rowF, rowX, ih (by omega)]
        refine cellF_X (n := n) ?_ hk (by omega) (by omega)
        intro a b ha hb
        have ek : stageX M k n m k k = 0 := by
          rw [stageX_get h0]
          show (if k < m ∧ k < n then parX M k k k else M k k) = 0
          rw [parX_col h0, h0]; split <;> rfl
        rw [rowX_get ek]
        have hS : ∀ a b, a < n → b < n → stageX M k n m a b = parX M k a b ∨ stageX M k n m a b = M a b := fun a b ha hb => by
          rw [stageX_get h0]
          show (if a < m ∧ b < n then parX M k a b else M a b) = _ ∨ _
          split
          · exact .inl rfl
          · exact .inr (by show (if a < m ∧ b < n then parX M k a b else M a b) = _; rw [if_neg (by assumption)])
        show (if a = m ∧ b < q then parX (stageX M k n m) k a b else stageX M k n m a b) ≤ noneD ∧ ((if a = m ∧ b < q then parX (stageX M k n m) k a b else stageX M k n m a b) < noneD → _ ≤ (if a = m ∧ b < q then parX (stageX M k n m) k a b else stageX M k n m a b) ∧ (if a = m ∧ b < q then parX (stageX M k n m) k a b else stageX M k n m a b) ≤ _)
        have hM := h a b ha hb
        split
        · rename_i e
          obtain ⟨rfl, _⟩ := e
          have e1 : stageX M k n a a k = M a k := by rw [stageX_get h0]; show (if a < a ∧ k < n then parX M k a k else M a k) = M a k; rw [if_neg (by omega)]
          have e2 : stageX M k n a k b = M k b := by
            rw [stageX_get h0]; show (if k < a ∧ b < n then parX M k k b else M k b) = M k b
            rw [parX_row h0]; split <;> rfl
          have e3 : stageX M k n a a b = M a b := by rw [stageX_get h0]; show (if a < a ∧ b < n then parX M k a b else M a b) = M a b; rw [if_neg (by omega)]
          have e4 : parX (stageX M k n a) k a b = parX M k a b := by unfold parX; rw [e1, e2, e3]
          rw [e4]
          exact hpar a b ha hb
        · rcases hS a b ha hb with e | e
          · rw [e]; exact hpar a b ha hb
          · rw [e]; exact ⟨hM.1, fun h => by have := hM.2 h; omega⟩
    exact hrow n (Nat.le_refl _)
section
variable {n : Nat} {W : Mat}
theorem FwInv.near {k : Nat} {M : Mat} (h : FwInv n k W M) (hW : Mod n W) (hk : k ≤ n) (hn : n ≤ 24) : Near n 26843545600 M := fun _ _ hi hj => ⟨h.top hW hi hj, fun hf => h.bnd hW hk hn hi hj hf⟩
theorem Near.wide {c d : Int} {M : Mat} (h : Near n c M) (hc : c ≤ d) : Near n d M := fun i j hi hj => ⟨(h i j hi hj).1, fun hf => by have := (h i j hi hj).2 hf; omega⟩
theorem fwTo_some (hW : Mod n W) (hn : n ≤ 24) (hd : ∀ i, i < n → W i i = 0) : ∀ k M, k ≤ n → fwX W n k = some M → fwTo W n k = some M := by
  intro k
  induction k with
  | zero => intro M _ h; exact h
  | succ k ih =>
    intro M hk h
    have hI2 : FwInv n (k + 1) W M := by
      rcases fwX_inv hW hn (fun i hi => by rw [hd i hi]; exact Int.le_refl _) (k + 1) M hk h with ⟨h2, _⟩ | h2
      · cases h2
      · exact h2
    rw [fwX_succ] at h
    rw [fwTo_succ]
    cases hN : fwX W n k with
    | none => rw [hN] at h; cases h
    | some N =>
      rw [hN] at h
      rw [ih N (by omega) hN]
      simp only at h ⊢
      split at h
      · cases h
      · injection h with h
        have hI : FwInv n k W N := by
          rcases fwX_inv hW hn (fun i hi => by rw [hd i hi]; exact Int.le_refl _) k N (by omega) hN with ⟨rfl, rfl⟩ | h
          · exact FwInv.zero hW hd
          · exact h
        rw [stageF_X (hI.dia k (by omega)) ((hI.near hW (by omega) hn).wide (by omega)) (by omega) n (Nat.le_refl _), h]
        rw [lowF_false fun i j hi hj => ?_]
        · rfl
        · have h3 := hI2.near hW hk hn i j hi hj
          rcases Int.lt_or_le (M i j) noneD with e | e
          · have := h3.2 e; omega
          · unfold noneD at e; omega
theorem fwTo_neg {m : Nat} {W' : Mat} (i : Nat) (hi : i < n) (h : W' i i < 0) : (match fwTo W' n m with | none => none | some M => if negF M n then none else some M) = (none : Option Mat) := by
  cases hM : fwTo W' n m with
  | none => rfl
  | some M =>
    have := fwTo_le m hM i i
    simp only
    rw [negF_true hi (by omega), if_pos rfl]
theorem fwTo_stays {k : Nat} (hk : k ≤ n) (h : ∀ M, fwTo W n k = some M → ∃ i, i < n ∧ M i i < 0) : ∀ m, k ≤ m → ∀ M, fwTo W n m = some M → ∃ i, i < n ∧ M i i < 0 := by
  intro m
  induction m with
  | zero =>
    intro hm M hM
    obtain rfl : k = 0 := by omega
    exact h M hM
  | succ m ih =>
    intro hm M hM
    rcases Nat.lt_or_ge m k with h1 | h1
    · obtain rfl : k = m + 1 := by omega
      exact h M hM
    · rw [fwTo_succ] at hM
      cases hN : fwTo W n m with
      | none => rw [hN] at hM; cases hM
      | some N =>
        rw [hN] at hM
        simp only at hM
        split at hM
        · cases hM
        · cases hM
          obtain ⟨i, hi, h2⟩ := ih h1 N hN
          exact ⟨i, hi, Int.lt_of_le_of_lt (stageF_le _ _ _ _ _ _) h2⟩
theorem fwX_none_at : ∀ m, fwX W n m = none → ∃ k N, k < m ∧ fwX W n k = some N ∧ negF (stageX N k n n) n = true := by
  intro m
  induction m with
  | zero => intro h; cases h
  | succ m ih =>
    intro h
    rw [fwX_succ] at h
    cases hN : fwX W n m with
    | none => obtain ⟨k, N, h1, h2, h3⟩ := ih hN; exact ⟨k, N, by omega, h2, h3⟩
    | some N =>
      rw [hN] at h
      simp only at h
      split at h
      · exact ⟨m, N, by omega, hN, by assumption⟩
      · cases h
theorem fw_same (hW : Mod n W) (hn : n ≤ 24) (hd : ∀ i, i < n → W i i ≤ 0) : (match fwTo W n n with | none => none | some M => if negF M n then none else some M) = fwX W n n := by
  by_cases hz : ∀ i, i < n → W i i = 0
  · cases hX : fwX W n n with
    | some M =>
      rw [fwTo_some hW hn hz n M (Nat.le_refl _) hX]
      simp only
      have hneg : negF M n = false := by
        rw [Bool.eq_false_iff]
        intro h
        obtain ⟨i, hi, h2⟩ := negF_ex h
        rcases fwX_inv hW hn hd n M (Nat.le_refl _) hX with ⟨h3, _⟩ | h3
        · omega
        · have := h3.dia i hi; omega
      rw [hneg]
      rfl
    | none =>
      obtain ⟨k, N, hk, hN, hneg⟩ := fwX_none_at n hX
      have hT := fwTo_some hW hn hz k N (by omega) hN
      have hI : FwInv n k W N := by
        rcases fwX_inv hW hn hd k N (by omega) hN with ⟨rfl, rfl⟩ | h
        · exact FwInv.zero hW hz
        · exact h
      have h1 : ∀ M, fwTo W n (k + 1) = some M → ∃ i, i < n ∧ M i i < 0 := fun M hM => by
        rw [fwTo_succ, hT] at hM
        simp only at hM
        split at hM
        · cases hM
        · cases hM
          rw [stageF_X (hI.dia k hk) ((hI.near hW (by omega) hn).wide (by omega)) hk n (Nat.le_refl _)]
          exact negF_ex hneg
      cases hM : fwTo W n n with
      | none => rfl
      | some M =>
        obtain ⟨i, hi, h2⟩ := fwTo_stays (by omega) h1 n (by omega) M hM
        simp only
        rw [negF_true hi h2, if_pos rfl]
  · have : ∃ i, i < n ∧ W i i < 0 := by
      apply Classical.byContradiction
      intro h
      apply hz
      intro i hi
      have := hd i hi
      rcases Int.lt_or_le (W i i) 0 with h2 | h2
      · exact absurd ⟨i, hi, h2⟩ h
      · omega
    obtain ⟨i, hi, h⟩ := this
    rw [fwTo_neg i hi h]
    cases hX : fwX W n n with
    | none => rfl
    | some M =>
      rcases fwX_inv hW hn hd n M (Nat.le_refl _) hX with ⟨h3, _⟩ | h3
      · omega
      · have := h3.dia i hi
        have := fwX_le n hX i i
        omega
end
/-! ### The beginning -/
theorem startF_mod {n : Nat} (l : List Bnd) (h : ∀ i, i < l.length → -1073741824 ≤ (bnd l i).2.2 ∧ (bnd l i).2.2 ≤ 1073741824) : ∀ k, k ≤ l.length → Mod n (startF l k) ∧ ∀ i, startF l k i i ≤ 0
  | 0, _ => ⟨fun i j _ _ => by unfold startF openM; split <;> omega, fun i => by unfold startF openM; simp⟩
  | k + 1, hk => by
    obtain ⟨h1, h2⟩ := startF_mod (n := n) l h k (by omega)
    have hb := h k (by omega)
    refine ⟨fun i j hi hj => ?_, fun i => ?_⟩
    · unfold startF bindF upd
      split
      · rename_i e
        rw [← e.1, ← e.2]
        have := h1 i j hi hj
        unfold noneD at *
        omega
      · exact h1 i j hi hj
    · unfold startF bindF upd
      split
      · rename_i e
        rw [← e.1, ← e.2]
        have := h2 i
        omega
      · exact h2 i
theorem tightF_X {n : Nat} {l : List Bnd} (hn : n ≤ 24) (h : ∀ i, i < l.length → -1073741824 ≤ (bnd l i).2.2 ∧ (bnd l i).2.2 ≤ 1073741824) : tightF n l = tightX n l := by
  obtain ⟨h1, h2⟩ := startF_mod (n := n) l h l.length (Nat.le_refl _)
  exact fw_same h1 hn fun i _ => h2 i
end Go.Proofs.YtcppcfinnbeboaaGreat
