/- Two combs and their union, said of plain lists. No program in sight. -/
import Derived.Test.YthnikjmdnhlneaaOfP
import Derived.Test.YthnikjmdnhlneaaRunsT
namespace Go.Proofs.Ythnikjmdnhlneaa

def combA (n : Int) (p : Nat) : List Sp := (List.range p).map fun i : Nat => (n + 4 * (i : Int), n + 4 * (i : Int) + 1)
def combB (n : Int) (p : Nat) : List Sp := (List.range p).map fun i : Nat => (n + 4 * (i : Int) + 2, n + 4 * (i : Int) + 3)
theorem combA_len (n : Int) (p : Nat) : (combA n p).length = p := by simp [combA]
theorem combB_len (n : Int) (p : Nat) : (combB n p).length = p := by simp [combB]
theorem combA_snoc (n : Int) (k : Nat) : combA n k ++ [(n + 4 * (k : Int), n + 4 * (k : Int) + 1)] = combA n (k + 1) := by simp [combA, List.range_succ]
theorem combB_snoc (n : Int) (k : Nat) : combB n k ++ [(n + 4 * (k : Int) + 2, n + 4 * (k : Int) + 3)] = combB n (k + 1) := by simp [combB, List.range_succ]
theorem combA_mem (n : Int) (p : Nat) (x : Int) : mem (combA n p) x = true ↔ ∃ i : Nat, i < p ∧ x = n + 4 * (i : Int) := by
  rw [mem_iff]
  constructor
  · rintro ⟨s, hs, h1, h2⟩
    obtain ⟨i, hi, rfl⟩ := List.mem_map.1 hs
    exact ⟨i, List.mem_range.1 hi, by simp only at h1 h2; omega⟩
  · rintro ⟨i, hi, rfl⟩
    exact ⟨_, List.mem_map.2 ⟨i, List.mem_range.2 hi, rfl⟩, by simp, by simp only; omega⟩
theorem combB_mem (n : Int) (p : Nat) (x : Int) : mem (combB n p) x = true ↔ ∃ i : Nat, i < p ∧ x = n + 4 * (i : Int) + 2 := by
  rw [mem_iff]
  constructor
  · rintro ⟨s, hs, h1, h2⟩
    obtain ⟨i, hi, rfl⟩ := List.mem_map.1 hs
    exact ⟨i, List.mem_range.1 hi, by simp only at h1 h2; omega⟩
  · rintro ⟨i, hi, rfl⟩
    exact ⟨_, List.mem_map.2 ⟨i, List.mem_range.2 hi, rfl⟩, by simp, by simp only; omega⟩
def mixC (p q j : Nat) : Bool := if j % 2 = 0 then decide (j / 2 < p) else decide (j / 2 < q)
def mixL (n : Int) (p q : Nat) : List Sp := ((List.range (2 * max p q)).filter (mixC p q)).map fun j : Nat => (n + 2 * (j : Int), n + 2 * (j : Int) + 1)
theorem mix_count (p q : Nat) : ∀ m, ((List.range (2 * m)).filter (mixC p q)).length = min p m + min q m
  | 0 => by simp
  | m + 1 => by
    rw [show 2 * (m + 1) = 2 * m + 1 + 1 from by omega, List.range_succ, List.range_succ, List.filter_append, List.filter_append, List.length_append, List.length_append, mix_count p q m]
    have e1 : mixC p q (2 * m) = decide (m < p) := by unfold mixC; rw [if_pos (by omega), show 2 * m / 2 = m from by omega]
    have e2 : mixC p q (2 * m + 1) = decide (m < q) := by unfold mixC; rw [if_neg (by omega), show (2 * m + 1) / 2 = m from by omega]
    simp only [List.filter_cons, List.filter_nil, e1, e2]
    by_cases h1 : m < p <;> by_cases h2 : m < q <;> simp [h1, h2] <;> omega
theorem mix_len (n : Int) (p q : Nat) : (mixL n p q).length = p + q := by
  rw [mixL, List.length_map, mix_count]; omega
theorem mix_canon {n : Int} {p q : Nat} (h1 : -2199023255552 ≤ n) (h2 : n ≤ 2199023255552) (hp : p ≤ 1100) (hq : q ≤ 1100) : Canon (mixL n p q) := by
  refine ⟨fun s hs => ?_, ?_⟩
  · obtain ⟨j, hj, rfl⟩ := List.mem_map.1 hs
    have := List.mem_range.1 (List.mem_filter.1 hj).1
    unfold OkSp
    simp only
    omega
  · unfold mixL
    rw [List.pairwise_map]
    exact (List.Pairwise.filter _ List.pairwise_lt_range).imp fun h => by simp only; omega
theorem mix_mem (n : Int) (p q : Nat) (x : Int) : mem (mixL n p q) x = (mem (combA n p) x || mem (combB n q) x) := by
  rw [Bool.eq_iff_iff, Bool.or_eq_true, combA_mem, combB_mem, mem_iff]
  constructor
  · rintro ⟨s, hs, h1, h2⟩
    obtain ⟨j, hj, rfl⟩ := List.mem_map.1 hs
    have hc := (List.mem_filter.1 hj).2
    simp only at h1 h2
    unfold mixC at hc
    by_cases h : j % 2 = 0
    · rw [if_pos h] at hc; exact .inl ⟨j / 2, of_decide_eq_true hc, by omega⟩
    · rw [if_neg h] at hc; exact .inr ⟨j / 2, of_decide_eq_true hc, by omega⟩
  · rintro (⟨i, hi, rfl⟩ | ⟨i, hi, rfl⟩)
    · refine ⟨_, List.mem_map.2 ⟨2 * i, List.mem_filter.2 ⟨List.mem_range.2 (by omega), ?_⟩, rfl⟩, ?_, ?_⟩
      · unfold mixC; rw [if_pos (by omega)]; simp; omega
      · simp only; omega
      · simp only; omega
    · refine ⟨_, List.mem_map.2 ⟨2 * i + 1, List.mem_filter.2 ⟨List.mem_range.2 (by omega), ?_⟩, rfl⟩, ?_, ?_⟩
      · unfold mixC; rw [if_neg (by omega)]; simp; omega
      · simp only; omega
      · simp only; omega
theorem meas_ones : ∀ l : List Sp, (∀ s ∈ l, s.2 - s.1 = 1) → measL l = l.length
  | [], _ => rfl
  | s :: l, h => by
    have h1 := h s (by simp)
    have h2 := meas_ones l fun t ht => h t (by simp [ht])
    simp only [measL, h2, List.length_cons]
    omega
theorem mix_meas (n : Int) (p q : Nat) : measL (mixL n p q) = (p : Int) + q := by
  rw [meas_ones _ fun s hs => ?_, mix_len]
  · simp
  · obtain ⟨j, _, rfl⟩ := List.mem_map.1 hs
    simp only; omega
theorem combA_canon {n : Int} {p : Nat} (h1 : -2199023255552 ≤ n) (h2 : n ≤ 2199023255552) (hp : p ≤ 1100) : Canon (combA n p) := by
  refine ⟨fun s hs => ?_, ?_⟩
  · obtain ⟨j, hj, rfl⟩ := List.mem_map.1 hs
    have := List.mem_range.1 hj
    unfold OkSp; simp only; omega
  · unfold combA
    rw [List.pairwise_map]
    exact List.pairwise_lt_range.imp fun h => by simp only; omega
theorem combB_canon {n : Int} {p : Nat} (h1 : -2199023255552 ≤ n) (h2 : n ≤ 2199023255552) (hp : p ≤ 1100) : Canon (combB n p) := by
  refine ⟨fun s hs => ?_, ?_⟩
  · obtain ⟨j, hj, rfl⟩ := List.mem_map.1 hs
    have := List.mem_range.1 hj
    unfold OkSp; simp only; omega
  · unfold combB
    rw [List.pairwise_map]
    exact List.pairwise_lt_range.imp fun h => by simp only; omega
theorem full_union {n : Int} {p q : Nat} {r : List Sp × Int} (h1 : -2199023255552 ≤ n) (h2 : n ≤ 2199023255552) (hp : p ≤ 1100) (hq : q ≤ 1100) (h : OpSpec gUnion (combA n p) (combB n q) r) : r = opR (mixL n p q) := by
  have va : validB (combA n p) = true := (validB_iff _).2 ⟨by rw [combA_len]; omega, combA_canon h1 h2 hp⟩
  have vb : validB (combB n q) = true := (validB_iff _).2 ⟨by rw [combB_len]; omega, combB_canon h1 h2 hq⟩
  rw [OpSpec, if_pos (by rw [va, vb]; rfl)] at h
  obtain ⟨l, h3, _, rfl⟩ := h
  rw [canon_ext h3.1 (mix_canon h1 h2 hp hq) fun x => by rw [h3.2, mix_mem]; rfl]
theorem full_of {n : Int} {p q : Nat} {r : List Sp × Int} (h1 : -2199023255552 ≤ n) (h2 : n ≤ 2199023255552) (hp : p ≤ 1100) (hq : q ≤ 1100) (h : OfSpec (combB n q ++ combA n p) r) : r = opR (mixL n p q) := by
  have ho : (combB n q ++ combA n p).all okSpan = true := by
    rw [List.all_eq_true]
    intro s hs
    rcases List.mem_append.1 hs with hs | hs
    · exact (okSpan_iff s).2 ((combB_canon h1 h2 hq).1 s hs)
    · exact (okSpan_iff s).2 ((combA_canon h1 h2 hp).1 s hs)
  rw [OfSpec, if_pos ho] at h
  obtain ⟨m, h3, h4, _, rfl⟩ := h
  rw [canon_ext h3 (mix_canon h1 h2 hp hq) fun x => by rw [h4, mix_mem, mem_append, Bool.or_comm]]
end Go.Proofs.Ythnikjmdnhlneaa
