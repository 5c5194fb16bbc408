/- Law 39: plain law of the reference's Total: the products over the normal list, in two digits. -/
import Derived.Test.YtohjgegnamcnlaaGreatAhl
import Derived.Test.YtohjgegnamcnlaaGreatZae
namespace Go.Proofs.YtohjgegnamcnlaaGreat
open Go.RowKit Go.Shelf

/-- The facts of a list, as values on spans: a column's number. -/
def spvC (col : Nat) (A : List Fct) : List SpV := A.map fun f => (f.2, (va f.1 col).2.1)
theorem sP_filter (col : Nat) (t : Int) : ∀ A : List Fct, sP t (spvC col A) = sumI (colN ((A.filter fun f => inS f.2 t).map (·.1)) col)
  | [] => rfl
  | f :: A => by
    have ih := sP_filter col t A
    show (if inS f.2 t = true then (va f.1 col).2.1 else 0) + sP t (spvC col A) = _
    rw [ih, List.filter_cons]
    cases q : inS f.2 t
    · rw [if_neg (by decide), if_neg (by decide)]
      omega
    · rw [if_pos rfl, if_pos rfl]
      rfl
theorem norm_rows {F A : List Fct} (h : NormOf A (ptsF F)) (t : Int) : ((A.filter fun f => inS f.2 t).map (·.1)).Perm (rowsAt F t) := by
  have hin : ∀ {q : Sp}, inS q t = true ↔ q.1 ≤ t ∧ t < q.2 := fun {q} => by unfold inS; simp
  refine (List.perm_ext_iff_of_nodup ?_ (rowsN_nodup _ _ _)).2 fun r => ?_
  · unfold List.Nodup
    rw [List.pairwise_map]
    have h1 := (norm_apart h).filter fun f => inS f.2 t
    refine (List.Pairwise.and_mem.1 h1).imp ?_
    rintro f g ⟨hf, hg, hfg⟩ e
    have k1 := hin.1 (List.mem_filter.1 hf).2
    have k2 := hin.1 (List.mem_filter.1 hg).2
    have := hfg e
    omega
  · show _ ↔ r ∈ rowsAt F t
    rw [show r ∈ rowsAt F t ↔ actF F r t from rowsAt_mem, List.mem_map]
    refine Iff.trans ?_ (h.pts r t)
    constructor
    · rintro ⟨f, hf, e⟩
      obtain ⟨h1, h2⟩ := List.mem_filter.1 hf
      exact ⟨f, h1, e, hin.1 h2⟩
    · rintro ⟨f, hf, e, h1⟩
      exact ⟨f, List.mem_filter.2 ⟨hf, hin.2 h1⟩, e⟩
theorem sP_tot {F A : List Fct} (h : NormOf A (ptsF F)) (col : Nat) (t : Int) : sP t (spvC col A) = sumAtT F col t := by
  rw [sP_filter]
  exact sumI_perm ((norm_rows h t).map _)
theorem sI_tot {F A : List Fct} (h : NormOf A (ptsF F)) (col : Nat) (q : Sp) : sI q.1 (q.2 - q.1).toNat (spvC col A) = totF F col q := by
  rw [sI_intg]
  exact intg_congr (sP_tot h col) _ _
/-- The sum of the first facts' products. -/
def totN (A : List Fct) (col : Nat) (q : Sp) (i : Nat) : Int := sI q.1 (q.2 - q.1).toNat (spvC col (A.take i))
theorem totN_zero (A : List Fct) (col : Nat) (q : Sp) : totN A col q 0 = 0 := by simp [totN, spvC, sI]
theorem totN_succ {A : List Fct} {col : Nat} {q : Sp} {i : Nat} (hi : i < A.length) (hq : q.1 < q.2) :
    totN A col q (i + 1) = totN A col q i + if max (fc A i).2.1 q.1 < min (fc A i).2.2 q.2 then (va (fc A i).1 col).2.1 * (min (fc A i).2.2 q.2 - max (fc A i).2.1 q.1) else 0 := by
  unfold totN
  rw [List.take_succ_eq_append_getElem hi, fc_at hi]
  unfold spvC
  rw [List.map_append, sI_append]
  congr 1
  show (va (fc A i).1 col).2.1 * clipC (fc A i).2 q.1 (q.2 - q.1).toNat + 0 = _
  unfold clipC
  rw [show q.1 + ((q.2 - q.1).toNat : Int) = q.2 by omega, Int.add_zero]
  split
  · rename_i h
    congr 1
    omega
  · rename_i h
    rw [show max 0 (min (fc A i).2.2 q.2 - max (fc A i).2.1 q.1) = 0 by omega, Int.mul_zero]
theorem totN_all {F A : List Fct} (h : NormOf A (ptsF F)) (col : Nat) (q : Sp) : totN A col q A.length = totF F col q := by
  unfold totN
  rw [List.take_length]
  exact sI_tot h col q
/-! ### two digits -/
/-- A number in two digits to the base 2^62; the high one is bounded. -/
def Dig (B x high low : Int) : Prop := x = high * 4611686018427387904 + low ∧ 0 ≤ low ∧ low < 4611686018427387904 ∧ -B ≤ high ∧ high ≤ B
theorem Dig.start : Dig 0 0 0 0 := by unfold Dig; omega
theorem Dig.mono {B C x h l : Int} (hd : Dig B x h l) (hBC : B ≤ C) : Dig C x h l := by unfold Dig at *; omega
/-- One step of carry: K = 2^(62-s), S = 2^s. -/
theorem Dig.carry {B x high low p K S : Int} (hd : Dig B x high low) (hKS : K * S = 4611686018427387904) (hK : 0 < K) (hS : 0 < S) (hp : -36028797018963968 ≤ p ∧ p ≤ 36028797018963968) (hK2 : 32768 ≤ K) :
    (-1099511627776 ≤ p / K ∧ p / K ≤ 1099511627776) ∧ (0 ≤ p - p / K * K ∧ p - p / K * K < K) ∧ (0 ≤ (p - p / K * K) * S ∧ (p - p / K * K) * S < 4611686018427387904) ∧
    (low + (p - p / K * K) * S < 4611686018427387904 → Dig (B + 1099511627777) (x + p * S) (high + p / K) (low + (p - p / K * K) * S)) ∧
    (¬ low + (p - p / K * K) * S < 4611686018427387904 → Dig (B + 1099511627777) (x + p * S) (high + p / K + 1) (low + (p - p / K * K) * S - 4611686018427387904)) := by
  have e1 : p / K * K = p - p % K := by
    have := Int.ediv_mul_add_emod p K
    omega
  have h0 := Int.emod_nonneg p (show K ≠ 0 by omega)
  have h1 := Int.emod_lt_of_pos p hK
  have hq1 : -1099511627776 ≤ p / K := by
    have : -1099511627776 ≤ p / K ↔ -1099511627776 * K ≤ p := Int.le_ediv_iff_mul_le hK
    rw [this]
    omega
  have hq2 : p / K ≤ 1099511627776 := by
    have : p / K < 1099511627777 ↔ p < 1099511627777 * K := Int.ediv_lt_iff_lt_mul hK
    have := this.2 (by omega)
    omega
  have e2 : (p - p / K * K) = p % K := by omega
  rw [e2]
  have h2 : 0 ≤ p % K * S := Int.mul_nonneg h0 (by omega)
  have h3 : p % K * S < 4611686018427387904 := by
    rw [← hKS]
    exact Int.mul_lt_mul_of_pos_right h1 hS
  have e3 : p * S = p / K * 4611686018427387904 + p % K * S := by
    rw [← hKS, ← Int.mul_assoc, ← Int.add_mul, e1]
    congr 1
    omega
  unfold Dig at *
  rw [e3]
  generalize p % K * S = r at *
  generalize p / K = u at *
  refine ⟨⟨hq1, hq2⟩, ⟨h0, h1⟩, ⟨h2, h3⟩, fun hlt => ?_, fun hge => ?_⟩
  · rw [Int.add_mul]
    omega
  · rw [Int.add_mul, Int.add_mul]
    omega
/-- The four parts of a product. -/
theorem prod_parts {v d v1 v0 h x y w : Int} (e1 : v = v1 * 2147483648 + v0) (e2 : v1 = h * 65536 + x) (e3 : v0 = y * 32768 + w) : h * d * 140737488355328 + x * d * 2147483648 + y * d * 32768 + w * d * 1 = v * d := by
  have e : v = h * 140737488355328 + x * 2147483648 + y * 32768 + w := by omega
  rw [e, Int.add_mul, Int.add_mul, Int.add_mul, Int.mul_right_comm h 140737488355328 d, Int.mul_right_comm x 2147483648 d, Int.mul_right_comm y 32768 d, Int.mul_one]
theorem prod_bound {a d : Int} {A D : Nat} (ha : -(A : Int) ≤ a ∧ a ≤ (A : Int)) (hd : 0 ≤ d ∧ d ≤ (D : Int)) : -((A * D : Nat) : Int) ≤ a * d ∧ a * d ≤ ((A * D : Nat) : Int) := by
  have h : (a * d).natAbs ≤ A * D := by
    rw [Int.natAbs_mul]
    exact Nat.mul_le_mul (by omega) (by omega)
  omega
theorem dig_tot {B x high low : Int} (h : Dig B x high low) : totR x = if high < -2 ∨ 1 < high then (0, 9) else (high * 4611686018427387904 + low, 0) := by
  unfold Dig at h
  unfold totR
  by_cases q : high < -2 ∨ 1 < high
  · rw [if_pos q, if_neg (by omega)]
  · rw [if_neg q, if_pos (by omega), h.1]
end Go.Proofs.YtohjgegnamcnlaaGreat
