/- Law 42: plain laws of the queries. -/
import Derived.Test.YtgdcgdjlhljbiaaIyN
import Derived.Test.YtgdcgdjlhljbiaaIyO
import Derived.Test.YtgdcgdjlhljbiaaIyF
namespace Go.Proofs.Ytgdcgdjlhljbiaa
open Go.RowKit

theorem bits_one (x : Nat) (hx : x < 9223372036854775808) : bits .and .i64 (x : Int) 1 = ((x % 2 : Nat) : Int) := by
  have h1 : (BitVec.ofInt 64 (x : Int)).toNat = x := by
    rw [BitVec.ofInt_natCast, BitVec.toNat_ofNat]; exact Nat.mod_eq_of_lt (by omega)
  have h2 : (BitVec.ofInt 64 (1 : Int)).toNat = 1 := by decide
  have h3 := Nat.and_one_is_mod x
  show IntKind.i64.wrap ((BitVec.ofInt 64 (x : Int) &&& BitVec.ofInt 64 (1 : Int)).toNat : Int) = _
  rw [BitVec.toNat_and, h1, h2, h3, IntKind.wrap_i64]
  omega
theorem bitB_nat (n m : Nat) (hn : n ≤ 8191) : bitB (n : Int) (m : Int) = decide (n / 2 ^ m % 2 = 1) := by
  unfold bitB
  rw [show ((n : Int) / 2 ^ ((m : Int)).toNat) = ((n / 2 ^ m : Nat) : Int) from by rw [Int.toNat_natCast, Int.natCast_ediv]; simp]
  rw [bits_one _ (by have := Nat.div_le_self n (2 ^ m); omega)]
  rw [Bool.eq_iff_iff, beq_iff_eq, decide_eq_true_eq]
  omega
theorem bitB_inner {k : Int} (k0 : 0 ≤ k) (k1 : k ≤ 12) : bitB 2044 k = decide (2 ≤ k ∧ k ≤ 10) := by
  obtain ⟨m, rfl⟩ := Int.eq_ofNat_of_zero_le k0
  have := bitB_nat 2044 m (by omega)
  rw [show ((2044 : Nat) : Int) = 2044 from rfl] at this
  rw [this, decide_eq_decide]
  have hm : m ≤ 12 := by omega
  rcases (by omega : m = 0 ∨ m = 1 ∨ m = 2 ∨ m = 3 ∨ m = 4 ∨ m = 5 ∨ m = 6 ∨ m = 7 ∨ m = 8 ∨ m = 9 ∨ m = 10 ∨ m = 11 ∨ m = 12) with rfl | rfl | rfl | rfl | rfl | rfl | rfl | rfl | rfl | rfl | rfl | rfl | rfl <;> decide
def fnd (x : Int) (l : List En) : List Int := (l.filter fun e => decide (e.1 ≤ x) && decide (x < e.2.1)).map (·.2.2)
theorem fnd_len (x : Int) (l : List En) : (fnd x l).length ≤ l.length := by
  unfold fnd; rw [List.length_map]; exact List.length_filter_le _ _
theorem take_snoc {l : List En} {k : Nat} (hk : k < l.length) : l.take (k + 1) = l.take k ++ [en l k] := by
  rw [List.take_succ_eq_append_getElem hk, en_at hk]
theorem fnd_yes {x : Int} {l : List En} {k : Nat} (hk : k < l.length) (h1 : (en l k).1 ≤ x) (h2 : x < (en l k).2.1) : fnd x (l.take (k + 1)) = fnd x (l.take k) ++ [(en l k).2.2] := by
  unfold fnd
  rw [take_snoc hk, List.filter_append, List.map_append, List.filter_cons, decide_eq_true h1, decide_eq_true h2, List.filter_nil]
  rfl
theorem fnd_no {x : Int} {l : List En} {k : Nat} (hk : k < l.length) (h : ¬ ((en l k).1 ≤ x ∧ x < (en l k).2.1)) : fnd x (l.take (k + 1)) = fnd x (l.take k) := by
  have e : (decide ((en l k).1 ≤ x) && decide (x < (en l k).2.1)) = false := by rw [← Bool.decide_and]; exact decide_eq_false h
  unfold fnd
  rw [take_snoc hk, List.filter_append, List.map_append, List.filter_cons, e, List.filter_nil]
  simp
/-- The first entry that begins at x or later: its place, or -1. -/
def atI (x : Int) (l : List En) : Int := if l.findIdx (fun e => decide (x ≤ e.1)) < l.length then (l.findIdx (fun e => decide (x ≤ e.1)) : Int) else -1
theorem atI_lo (x : Int) (l : List En) : -1 ≤ atI x l ∧ atI x l < l.length := by
  unfold atI
  split <;> omega
theorem atI_snoc (x : Int) (l : List En) (e : En) : atI x (l ++ [e]) = if 0 ≤ atI x l then atI x l else if x ≤ e.1 then (l.length : Int) else -1 := by
  unfold atI
  rw [List.findIdx_append]
  by_cases h : l.findIdx (fun e => decide (x ≤ e.1)) < l.length
  · rw [if_pos h, if_pos h, if_pos (by simp; omega), if_pos (by omega)]
  · by_cases h1 : x ≤ e.1
    · have e1 : [e].findIdx (fun e => decide (x ≤ e.1)) = 0 := by simp [List.findIdx_cons, h1]
      simp only [h, e1, h1, if_false, if_true, List.length_append, List.length_singleton]
      rw [if_pos (by omega), if_neg (by omega)]
      simp
    · have e1 : [e].findIdx (fun e => decide (x ≤ e.1)) = 1 := by simp [List.findIdx_cons, h1]
      simp only [h, e1, h1, if_false, List.length_append, List.length_singleton]
      rw [if_neg (by omega), if_neg (by omega)]
theorem atI_keep {x : Int} {l : List En} {k : Nat} (hk : k < l.length) (h : ¬ atI x (l.take k) < 0) : atI x (l.take (k + 1)) = atI x (l.take k) := by
  rw [take_snoc hk, atI_snoc, if_pos (by omega)]
theorem atI_hit {x : Int} {l : List En} {k : Nat} (hk : k < l.length) (h : atI x (l.take k) < 0) (h1 : x ≤ (en l k).1) : atI x (l.take (k + 1)) = k := by
  rw [take_snoc hk, atI_snoc, if_neg (by omega), if_pos h1, List.length_take, Nat.min_eq_left (Nat.le_of_lt hk)]
theorem atI_miss {x : Int} {l : List En} {k : Nat} (hk : k < l.length) (h : atI x (l.take k) < 0) (h1 : ¬ x ≤ (en l k).1) : atI x (l.take (k + 1)) = atI x (l.take k) := by
  have := (atI_lo x (l.take k)).1
  rw [take_snoc hk, atI_snoc, if_neg (by omega), if_neg h1]
  omega
theorem find_atI (x : Int) (l : List En) : l.find? (fun e => decide (x ≤ e.1)) = if 0 ≤ atI x l then some (en l (atI x l).toNat) else none := by
  unfold atI
  by_cases h : l.findIdx (fun e => decide (x ≤ e.1)) < l.length
  · rw [if_pos h, if_pos (by omega), List.find?_eq_some_iff_getElem]
    refine ⟨?_, l.findIdx (fun e => decide (x ≤ e.1)), h, ?_, ?_⟩
    · have := List.findIdx_getElem (w := h)
      simpa [en_at h] using this
    · rw [en_at h]; simp
    · intro j hj
      have := List.not_of_lt_findIdx hj
      simpa using this
  · rw [if_neg h, if_neg (by omega), List.find?_eq_none]
    intro e he
    have h1 : l.findIdx (fun e => decide (x ≤ e.1)) = l.length := by
      have := List.findIdx_le_length (p := fun e : En => decide (x ≤ e.1)) (xs := l); omega
    have := List.findIdx_eq_length.1 h1 e he
    simpa using this
theorem stab_fnd {N : List Nd} {root x : Int} (h : treeB N root = true) : stabL N root x = fnd x (entsT N root) := by
  have hok := entsT_ok (treeB_valid h).2
  unfold stabL
  split
  · unfold overs fnd
    congr 1
    refine List.filter_congr fun e _ => ?_
    unfold ovB
    rw [← Bool.decide_and, ← Bool.decide_and, decide_eq_decide]
    omega
  · rename_i hx
    symm
    unfold fnd
    rw [List.map_eq_nil_iff, List.filter_eq_nil_iff]
    intro e he
    have h1 := (okSpan_iff _).1 (hok e he)
    unfold OkSp at h1
    simp only at h1
    rw [← Bool.decide_and]
    simp only [decide_eq_true_eq]
    intro h2
    exact hx ⟨h, by omega, by omega⟩
theorem ov_rel {p q : Int} {e : En} (he : okSpan (e.1, e.2.1) = true) (hp : okSpan (p, q) = true) : bitB 2044 (ofI (e.1, e.2.1) (p, q)) = ovB p q e := by
  have h1 := (okSpan_iff _).1 he
  have h2 := (okSpan_iff _).1 hp
  unfold OkSp at h1 h2
  simp only at h1 h2
  rw [bitB_inner (ofI_bd _ _).1 (ofI_bd _ _).2]
  unfold ovB
  rw [← Bool.decide_and, decide_eq_decide]
  unfold ofI
  simp only
  repeat' split
  all_goals omega
theorem over_rel {N : List Nd} {root p q : Int} (h : treeB N root = true) (ho : okSpan (p, q) = true) : overL N root p q = relE 2044 p q (entsT N root) := by
  have hok := entsT_ok (treeB_valid h).2
  rw [overL, if_pos ⟨h, ho⟩]
  unfold overs relE
  congr 1
  exact List.filter_congr fun e he => (ov_rel (hok e he) ho).symm
theorem rel_rel {N : List Nd} {root set p q : Int} (h : treeB N root = true) (ho : okSpan (p, q) = true) (hs : setB set = true) : relL N root set p q = relE set p q (entsT N root) := by
  rw [relL, if_pos ⟨h, ho⟩]
  unfold relE holdsB
  rw [hs]
  rfl
theorem rel_bad {N : List Nd} {root set p q : Int} (h : okSpan (p, q) = false ∨ setB set = false) : relL N root set p q = [] := by
  rcases h with h | h
  · rw [relL, if_neg (by rw [h]; simp)]
  · unfold relL
    split
    · unfold holdsB
      rw [h]
      simp
    · rfl
theorem over_bad {N : List Nd} {root p q : Int} (h : okSpan (p, q) = false) : overL N root p q = [] := if_neg (by rw [h]; simp)
end Go.Proofs.Ytgdcgdjlhljbiaa
