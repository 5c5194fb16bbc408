/- Sets of relations: bits, complements, the nine relations with a point in common. Plain laws. -/
import Derived.Test.YtahpcepnagpbdaaSwP
namespace Go.Proofs.Ytahpcepnagpbdaa
open Go.RowKit Go.Shelf

theorem bits_one (x : Nat) (hx : x < 9223372036854775808) : bits .and .i64 (x : Int) 1 = ((x % 2 : Nat) : Int) := by
  have h1 : (BitVec.ofInt 64 (x : Int)).toNat = x := by
    rw [BitVec.ofInt_natCast, BitVec.toNat_ofNat]; exact Nat.mod_eq_of_lt (by omega)
  have h2 : (BitVec.ofInt 64 (1 : Int)).toNat = 1 := by decide
  have h3 := Nat.and_one_is_mod x
  show IntKind.i64.wrap ((BitVec.ofInt 64 (x : Int) &&& BitVec.ofInt 64 (1 : Int)).toNat : Int) = _
  rw [BitVec.toNat_and, h1, h2, h3, IntKind.wrap_i64]
  omega
theorem bitB_nat (n m : Nat) (hn : n ≤ 8191) : bitB (n : Int) (m : Int) = decide (n / 2 ^ m % 2 = 1) := by
  unfold bitB
  rw [show ((n : Int) / 2 ^ ((m : Int)).toNat) = ((n / 2 ^ m : Nat) : Int) from by rw [Int.toNat_natCast, Int.natCast_ediv]; simp]
  rw [bits_one _ (by have := Nat.div_le_self n (2 ^ m); omega)]
  rw [Bool.eq_iff_iff, beq_iff_eq, decide_eq_true_eq]
  omega
theorem bitB_not {set k : Int} (h0 : 0 ≤ set) (h1 : set ≤ 8191) (k0 : 0 ≤ k) (k1 : k ≤ 12) : bitB (8191 - set) k = !bitB set k := by
  obtain ⟨n, rfl⟩ := Int.eq_ofNat_of_zero_le h0
  obtain ⟨m, rfl⟩ := Int.eq_ofNat_of_zero_le k0
  have hn : n ≤ 8191 := by omega
  rw [show (8191 : Int) - (n : Int) = ((8191 - n : Nat) : Int) from by omega, bitB_nat _ _ (by omega), bitB_nat _ _ hn, Bool.eq_iff_iff, Bool.not_eq_true', decide_eq_true_eq, decide_eq_false_iff_not]
  have hm : m ≤ 12 := by omega
  rcases (by omega : m = 0 ∨ m = 1 ∨ m = 2 ∨ m = 3 ∨ m = 4 ∨ m = 5 ∨ m = 6 ∨ m = 7 ∨ m = 8 ∨ m = 9 ∨ m = 10 ∨ m = 11 ∨ m = 12) with rfl | rfl | rfl | rfl | rfl | rfl | rfl | rfl | rfl | rfl | rfl | rfl | rfl <;> simp only [Nat.reducePow] <;> omega
theorem bitB_inner {k : Int} (k0 : 0 ≤ k) (k1 : k ≤ 12) : bitB 2044 k = decide (2 ≤ k ∧ k ≤ 10) := by
  obtain ⟨m, rfl⟩ := Int.eq_ofNat_of_zero_le k0
  have := bitB_nat 2044 m (by omega)
  rw [show ((2044 : Nat) : Int) = 2044 from rfl] at this
  rw [this, decide_eq_decide]
  have hm : m ≤ 12 := by omega
  rcases (by omega : m = 0 ∨ m = 1 ∨ m = 2 ∨ m = 3 ∨ m = 4 ∨ m = 5 ∨ m = 6 ∨ m = 7 ∨ m = 8 ∨ m = 9 ∨ m = 10 ∨ m = 11 ∨ m = 12) with rfl | rfl | rfl | rfl | rfl | rfl | rfl | rfl | rfl | rfl | rfl | rfl | rfl <;> decide
theorem com_ofI {s t : Sp} (hs : s.1 < s.2) (ht : t.1 < t.2) : decide (2 ≤ ofI s t ∧ ofI s t ≤ 10) = comSp s t := by
  unfold comSp
  rw [← Bool.decide_and, decide_eq_decide]
  unfold ofI
  split
  · omega
  split
  · omega
  split
  · omega
  split
  · omega
  repeat' split
  all_goals omega
theorem inner_com {s t : Sp} (hs : s.1 < s.2) (ht : t.1 < t.2) : jf 2044 s t = comSp s t := by
  rw [jf, bitB_inner (ofI_bd s t).1 (ofI_bd s t).2, com_ofI hs ht]
theorem jf_not {set : Int} (h0 : 0 ≤ set) (h1 : set ≤ 8191) (s t : Sp) : jf (8191 - set) s t = !jf set s t := bitB_not h0 h1 (ofI_bd s t).1 (ofI_bd s t).2
theorem rowP_congr {f g : Rel2} {a b : List Sp} {i : Nat} : ∀ {k : Nat}, (∀ j, j < k → f (sp a i) (sp b j) = g (sp a i) (sp b j)) → rowP f a b i k = rowP g a b i k
  | 0, _ => rfl
  | k + 1, h => by
    have ih := rowP_congr (k := k) (fun j hj => h j (by omega))
    have := h k (by omega)
    cases hf : f (sp a i) (sp b k)
    · rw [rowP_no hf, rowP_no (by rw [← this]; exact hf), ih]
    · rw [rowP_yes hf, rowP_yes (by rw [← this]; exact hf), ih]
theorem joinP_congr {f g : Rel2} {a b : List Sp} : ∀ {n : Nat}, (∀ i, i < n → ∀ j, j < b.length → f (sp a i) (sp b j) = g (sp a i) (sp b j)) → joinP f a b n = joinP g a b n
  | 0, _ => rfl
  | n + 1, h => by rw [joinP_succ, joinP_succ, joinP_congr (n := n) (fun i hi => h i (by omega)), rowP_congr (h n (by omega))]
theorem rowP_split {f g : Rel2} {a b : List Sp} {i : Nat} (h : ∀ s t, g s t = !f s t) : ∀ k, (rowP f a b i k).length + (rowP g a b i k).length = k
  | 0 => rfl
  | k + 1 => by
    have ih := rowP_split (f := f) (g := g) (a := a) (b := b) (i := i) h k
    have := h (sp a i) (sp b k)
    cases hf : f (sp a i) (sp b k)
    · rw [rowP_no hf, rowP_yes (by rw [this, hf]; rfl)]; simp; omega
    · rw [rowP_yes hf, rowP_no (by rw [this, hf]; rfl)]; simp; omega
theorem joinP_split {f g : Rel2} {a b : List Sp} (h : ∀ s t, g s t = !f s t) : ∀ n, (joinP f a b n).length + (joinP g a b n).length = n * b.length
  | 0 => by simp [joinP]
  | n + 1 => by
    have ih := joinP_split (f := f) (g := g) (a := a) (b := b) h n
    have := rowP_split (f := f) (g := g) (a := a) (b := b) (i := n) h b.length
    rw [joinP_succ, joinP_succ, List.length_append, List.length_append, Nat.add_mul]
    omega
theorem rowP_mem {f : Rel2} {a b : List Sp} {i k : Nat} {s : Sp} (h : s ∈ rowP f a b i k) : ∃ j, j < k ∧ s = ((i : Int), (j : Int)) ∧ f (sp a i) (sp b j) = true := by
  obtain ⟨j, hj, rfl⟩ := List.mem_map.1 h
  obtain ⟨h1, h2⟩ := List.mem_filter.1 hj
  exact ⟨j, List.mem_range.1 h1, rfl, h2⟩
theorem joinP_mem {f : Rel2} {a b : List Sp} {n : Nat} {s : Sp} (h : s ∈ joinP f a b n) : ∃ i j, i < n ∧ j < b.length ∧ s = ((i : Int), (j : Int)) ∧ f (sp a i) (sp b j) = true := by
  obtain ⟨i, hi, hs⟩ := List.mem_flatMap.1 h
  obtain ⟨j, hj, e, hf⟩ := rowP_mem hs
  exact ⟨i, j, List.mem_range.1 hi, hj, e, hf⟩
end Go.Proofs.Ytahpcepnagpbdaa
