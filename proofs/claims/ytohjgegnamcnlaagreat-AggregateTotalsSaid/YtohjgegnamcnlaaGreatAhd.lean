/- Law 39: the total. Plain law, and the visitor of Total. -/
import Derived.Test.YtohjgegnamcnlaaGreatAhc
namespace Go.Proofs.YtohjgegnamcnlaaGreat
open Go.RowKit Go.Shelf

/-! ### sums over time -/
/-- The length that two spans have in common. -/
def lenC (s q : Sp) : Int := min s.2 q.2 - max s.1 q.1
def visS (neg : Bool) (q : Sp) (col : Nat) (v : Vis) : Nat := if 0 < lenC v.1 q then sumS (if neg then -(lenC v.1 q) else lenC v.1 q) (colN v.2 col) else 0
def visT (neg : Bool) (q : Sp) (col : Nat) : List Vis → Nat
  | [] => 0
  | v :: l => visS neg q col v + visT neg q col l
theorem visT_append (neg : Bool) (q : Sp) (col : Nat) : ∀ a b : List Vis, visT neg q col (a ++ b) = visT neg q col a + visT neg q col b
  | [], b => by simp [visT]
  | v :: a, b => by
    show visS neg q col v + visT neg q col (a ++ b) = visS neg q col v + visT neg q col a + visT neg q col b
    rw [visT_append neg q col a b]
    omega
theorem addS_len (n t : Int) (ht : 0 < t) : (addS n t : Int) - addS n (-t) = n * t ∧ (addS n t ≤ n.natAbs * t.natAbs) ∧ (addS n (-t) ≤ n.natAbs * t.natAbs) := by
  have e0 : decide (0 < t) = true := decide_eq_true ht
  have e1 : decide (0 < -t) = false := decide_eq_false (by omega)
  have hna : ((-t).natAbs : Nat) = t.natAbs := Int.natAbs_neg t
  have hta : (t.natAbs : Int) = t := by omega
  unfold addS
  rw [e0, e1, hna]
  rcases Int.lt_trichotomy n 0 with h | h | h
  · have h1 : decide (n < 0) = true := decide_eq_true h
    have h2 : decide (n = 0) = false := decide_eq_false (by omega)
    have h3 : (n.natAbs : Int) = -n := by omega
    rw [h1, h2]
    have b1 : ((true == true) || false) = true := rfl
    have b2 : ((true == false) || false) = false := rfl
    rw [b1, b2, if_pos rfl, if_neg (by decide)]
    refine ⟨?_, Nat.zero_le _, Nat.le_refl _⟩
    rw [Int.natCast_mul, hta, h3, Int.neg_mul]
    simp
  · subst h
    simp
  · have h1 : decide (n < 0) = false := decide_eq_false (by omega)
    have h2 : decide (n = 0) = false := decide_eq_false (by omega)
    have h3 : (n.natAbs : Int) = n := by omega
    rw [h1, h2]
    have b1 : ((false == true) || false) = false := rfl
    have b2 : ((false == false) || false) = true := rfl
    rw [b1, b2, if_pos rfl, if_neg (by decide)]
    refine ⟨?_, Nat.le_refl _, Nat.zero_le _⟩
    rw [Int.natCast_mul, hta, h3]
    simp
theorem sumS_len (t : Int) (ht : 0 < t) : ∀ l : List Int, (sumS t l : Int) - sumS (-t) l = sumI l * t
  | [] => by simp [sumS, sumI]
  | n :: l => by
    have h1 := sumS_len t ht l
    have h2 := (addS_len n t ht).1
    show ((addS n t + sumS t l : Nat) : Int) - ((addS n (-t) + sumS (-t) l : Nat) : Int) = (n + sumI l) * t
    rw [Int.add_mul]
    omega
theorem sumS_bound {t : Int} {L : Nat} (ht : 0 < t) (hL : t.natAbs ≤ L) : ∀ l : List Int, (∀ n ∈ l, -9223372036854775808 ≤ n ∧ n ≤ 9223372036854775807) → sumS t l ≤ l.length * (9223372036854775808 * L) ∧ sumS (-t) l ≤ l.length * (9223372036854775808 * L)
  | [], _ => by simp [sumS]
  | n :: l, h => by
    obtain ⟨h1, h1'⟩ := sumS_bound ht hL l fun m hm => h m (by simp [hm])
    have h2 := h n (by simp)
    obtain ⟨_, h3, h4⟩ := addS_len n t ht
    have h5 : n.natAbs * t.natAbs ≤ 9223372036854775808 * L := Nat.mul_le_mul (by omega) hL
    show addS n t + sumS t l ≤ (l.length + 1) * (9223372036854775808 * L) ∧ addS n (-t) + sumS (-t) l ≤ (l.length + 1) * (9223372036854775808 * L)
    rw [Nat.add_mul, Nat.one_mul]
    omega
/-- The rows' sum in a column at a time. -/
def sumAtT (F : List Fct) (col : Nat) (t : Int) : Int := sumI (colN (rowsAt F t) col)
/-- The sum of f at n times from a on. -/
def intg (f : Int → Int) (a : Int) : Nat → Int
  | 0 => 0
  | n + 1 => intg f a n + f (a + n)
def totF (F : List Fct) (col : Nat) (q : Sp) : Int := intg (sumAtT F col) q.1 (q.2 - q.1).toNat
def clipC (v : Sp) (a : Int) (n : Nat) : Int := max 0 (min v.2 (a + n) - max v.1 a)
def visI (col : Nat) (a : Int) (n : Nat) : List Vis → Int
  | [] => 0
  | v :: l => sumI (colN v.2 col) * clipC v.1 a n + visI col a n l
def inS (v : Sp) (t : Int) : Bool := decide (v.1 ≤ t) && decide (t < v.2)
def visP (col : Nat) (t : Int) : List Vis → Int
  | [] => 0
  | v :: l => (if inS v.1 t = true then sumI (colN v.2 col) else 0) + visP col t l
theorem clip_succ (v : Sp) (a : Int) (n : Nat) : clipC v a (n + 1) = clipC v a n + if inS v (a + n) = true then 1 else 0 := by
  unfold clipC inS
  simp only [Bool.and_eq_true, decide_eq_true_eq]
  split <;> omega
theorem visI_succ (col : Nat) (a : Int) (n : Nat) : ∀ l : List Vis, visI col a (n + 1) l = visI col a n l + visP col (a + n) l
  | [] => rfl
  | v :: l => by
    show sumI (colN v.2 col) * clipC v.1 a (n + 1) + visI col a (n + 1) l = sumI (colN v.2 col) * clipC v.1 a n + visI col a n l + ((if inS v.1 (a + n) = true then sumI (colN v.2 col) else 0) + visP col (a + n) l)
    rw [visI_succ col a n l, clip_succ, Int.mul_add]
    split
    · rw [Int.mul_one]; omega
    · rw [Int.mul_zero]; omega
theorem visI_zero (col : Nat) (a : Int) : ∀ l : List Vis, visI col a 0 l = 0
  | [] => rfl
  | v :: l => by
    show sumI (colN v.2 col) * clipC v.1 a 0 + visI col a 0 l = 0
    have : clipC v.1 a 0 = 0 := by unfold clipC; omega
    rw [visI_zero col a l, this, Int.mul_zero]
    rfl
theorem visP_none (col : Nat) (t : Int) : ∀ l : List Vis, (∀ v ∈ l, inS v.1 t = false) → visP col t l = 0
  | [], _ => rfl
  | v :: l, h => by
    show (if inS v.1 t = true then sumI (colN v.2 col) else 0) + visP col t l = 0
    rw [visP_none col t l fun x hx => h x (by simp [hx]), h v (by simp)]
    rfl
theorem visP_one (col : Nat) (t : Int) : ∀ (l : List Vis) (v : Vis), l.Pairwise (fun a b => a.1.2 ≤ b.1.1) → (∀ x ∈ l, x.1.1 < x.1.2) → v ∈ l → inS v.1 t = true → visP col t l = sumI (colN v.2 col)
  | [], v, _, _, h, _ => absurd h (by simp)
  | x :: l, v, hp, hs, hm, ht => by
    obtain ⟨h1, h2⟩ := List.pairwise_cons.1 hp
    have hin : ∀ {a : Sp}, inS a t = true ↔ a.1 ≤ t ∧ t < a.2 := fun {a} => by unfold inS; simp
    show (if inS x.1 t = true then sumI (colN x.2 col) else 0) + visP col t l = _
    rcases List.mem_cons.1 hm with e | e
    · subst e
      rw [if_pos ht, visP_none col t l fun y hy => ?_]
      · omega
      · have := h1 y hy
        have := hin.1 ht
        cases q : inS y.1 t
        · rfl
        · have := hin.1 q
          omega
    · have hx : inS x.1 t = false := by
        have h3 := h1 v e
        have h4 := hin.1 ht
        cases q : inS x.1 t
        · rfl
        · have := hin.1 q
          omega
      rw [hx, visP_one col t l v h2 (fun y hy => hs y (by simp [hy])) e ht]
      simp
theorem visP_sum {F : List Fct} {Vs : List Vis} (hV : VisOk F Vs fun _ => True) (col : Nat) (t : Int) : visP col t Vs = sumAtT F col t := by
  have hin : ∀ {a : Sp}, inS a t = true ↔ a.1 ≤ t ∧ t < a.2 := fun {a} => by unfold inS; simp
  by_cases h : ∃ v ∈ Vs, inS v.1 t = true
  · obtain ⟨v, hv, ht⟩ := h
    rw [visP_one col t Vs v hV.ord (fun x hx => (hV.span x hx).1) hv ht]
    unfold sumAtT
    have := hin.1 ht
    exact sumI_perm ((vis_perm hV hv this.1 this.2).map _)
  · rw [visP_none col t Vs fun v hv => by
      cases q : inS v.1 t
      · rfl
      · exact absurd ⟨v, hv, q⟩ h]
    have : rowsAt F t = [] := by
      rw [List.eq_nil_iff_forall_not_mem]
      intro r hr
      obtain ⟨v, hv, h1, h2⟩ := hV.cover t r trivial (rowsAt_mem.1 hr)
      exact h ⟨v, hv, hin.2 ⟨h1, h2⟩⟩
    unfold sumAtT
    rw [this]
    rfl
theorem visI_intg {F : List Fct} {Vs : List Vis} (hV : VisOk F Vs fun _ => True) (col : Nat) (a : Int) : ∀ n, visI col a n Vs = intg (sumAtT F col) a n
  | 0 => visI_zero col a Vs
  | n + 1 => by
    rw [visI_succ, visI_intg hV col a n, visP_sum hV]
    rfl
theorem visT_diff (q : Sp) (hq : q.1 < q.2) (col : Nat) : ∀ l : List Vis, (visT false q col l : Int) - visT true q col l = visI col q.1 (q.2 - q.1).toNat l
  | [] => rfl
  | v :: l => by
    have h1 := visT_diff q hq col l
    have hn : (q.1 + ((q.2 - q.1).toNat : Int)) = q.2 := by omega
    show ((visS false q col v + visT false q col l : Nat) : Int) - ((visS true q col v + visT true q col l : Nat) : Int) = sumI (colN v.2 col) * clipC v.1 q.1 (q.2 - q.1).toNat + visI col q.1 (q.2 - q.1).toNat l
    have h2 : (visS false q col v : Int) - visS true q col v = sumI (colN v.2 col) * clipC v.1 q.1 (q.2 - q.1).toNat := by
      unfold visS clipC
      rw [hn]
      by_cases hl : 0 < lenC v.1 q
      · rw [if_pos hl, if_pos hl]
        have := sumS_len (lenC v.1 q) hl (colN v.2 col)
        simp only [Bool.false_eq_true, if_false, if_true]
        have e : max 0 (min v.1.2 q.2 - max v.1.1 q.1) = lenC v.1 q := Int.max_eq_right (Int.le_of_lt hl)
        rw [this, e]
      · rw [if_neg hl, if_neg hl]
        have e : max 0 (min v.1.2 q.2 - max v.1.1 q.1) = 0 := Int.max_eq_left (Int.not_lt.1 hl)
        rw [e]
        simp
    omega
theorem tot_res {F : List Fct} {Vs : List Vis} (hV : VisOk F Vs fun _ => True) (q : Sp) (hq : q.1 < q.2) (col : Nat) : lessS (visT false q col Vs) (visT true q col Vs) = if -9223372036854775808 ≤ totF F col q ∧ totF F col q ≤ 9223372036854775807 then (totF F col q, 0) else (0, 9) := by
  unfold lessS
  rw [visT_diff q hq, visI_intg hV]
  rfl
theorem visT_bound (q : Sp) (hq : q.2 - q.1 ≤ 549755813888) (col : Nat) (neg : Bool) : ∀ l : List Vis, (∀ v ∈ l, v.2.length ≤ 1000 ∧ ∀ n ∈ colN v.2 col, -9223372036854775808 ≤ n ∧ n ≤ 9223372036854775807) → visT neg q col l ≤ l.length * (1000 * (9223372036854775808 * 549755813888))
  | [], _ => by simp [visT]
  | v :: l, h => by
    have h1 := visT_bound q hq col neg l fun x hx => h x (by simp [hx])
    obtain ⟨h2, h3⟩ := h v (by simp)
    have h4 : visS neg q col v ≤ 1000 * (9223372036854775808 * 549755813888) := by
      unfold visS
      by_cases hl : 0 < lenC v.1 q
      · rw [if_pos hl]
        have hL : (lenC v.1 q).natAbs ≤ 549755813888 := by unfold lenC at hl ⊢; omega
        obtain ⟨h5, h6⟩ := sumS_bound hl hL (colN v.2 col) h3
        have h7 : (colN v.2 col).length = v.2.length := by simp [colN]
        rw [h7] at h5 h6
        have h8 : v.2.length * (9223372036854775808 * 549755813888) ≤ 1000 * (9223372036854775808 * 549755813888) := Nat.mul_le_mul_right _ h2
        cases neg
        · exact Nat.le_trans h5 h8
        · exact Nat.le_trans h6 h8
      · rw [if_neg hl]
        exact Nat.zero_le _
    show visS neg q col v + visT neg q col l ≤ (l.length + 1) * _
    rw [Nat.add_mul, Nat.one_mul]
    omega
end Go.Proofs.YtohjgegnamcnlaaGreat
