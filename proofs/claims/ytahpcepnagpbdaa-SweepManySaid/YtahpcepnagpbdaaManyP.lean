/- Rows that touch and nested spans: rooms, depths, joins. Plain laws. -/
import Derived.Test.YtahpcepnagpbdaaFewP
import Derived.Test.YtahpcepnagpbdaaSwI
import Derived.Test.YtahpcepnagpbdaaSwP
namespace Go.Proofs.Ytahpcepnagpbdaa

def rowL (K m : Nat) : List Sp := (List.range m).map fun i : Nat => (((K * i : Nat) : Int), ((K * i + K : Nat) : Int))
def nestL (m : Nat) : List Sp := (List.range m).map fun i : Nat => ((i : Int), 2000)
theorem rowL_len (K m : Nat) : (rowL K m).length = m := by simp [rowL]
theorem nestL_len (m : Nat) : (nestL m).length = m := by simp [nestL]
theorem rowL_succ (K m : Nat) : rowL K (m + 1) = rowL K m ++ [(((K * m : Nat) : Int), ((K * m + K : Nat) : Int))] := by simp [rowL, List.range_succ]
theorem nestL_succ (m : Nat) : nestL (m + 1) = nestL m ++ [((m : Int), 2000)] := by simp [nestL, List.range_succ]
theorem rowL_mem {K m : Nat} {s : Sp} (h : s ∈ rowL K m) : ∃ i, i < m ∧ s = (((K * i : Nat) : Int), ((K * i + K : Nat) : Int)) := by
  obtain ⟨i, hi, rfl⟩ := List.mem_map.1 h
  exact ⟨i, List.mem_range.1 hi, rfl⟩
theorem nestL_mem {m : Nat} {s : Sp} (h : s ∈ nestL m) : ∃ i, i < m ∧ s = ((i : Int), 2000) := by
  obtain ⟨i, hi, rfl⟩ := List.mem_map.1 h
  exact ⟨i, List.mem_range.1 hi, rfl⟩
theorem rowL_ok {K m : Nat} (hK : 1 ≤ K) (hK5 : K ≤ 5) (hm : m ≤ 1002) : (rowL K m).all okSpan = true := by
  rw [List.all_eq_true]
  intro s hs
  obtain ⟨i, hi, rfl⟩ := rowL_mem hs
  rw [okSpan_iff]; unfold OkSp
  have : K * i ≤ 5 * 1002 := Nat.mul_le_mul hK5 (by omega)
  simp only
  omega
theorem nestL_ok {m : Nat} (hm : m ≤ 1002) : (nestL m).all okSpan = true := by
  rw [List.all_eq_true]
  intro s hs
  obtain ⟨i, hi, rfl⟩ := nestL_mem hs
  rw [okSpan_iff]; unfold OkSp
  simp only
  omega
theorem rightB_row {K m : Nat} (hK : 1 ≤ K) (hK5 : K ≤ 5) (hm : m ≤ 1002) : rightB (rowL K m) = decide (m ≤ 1000) := by
  unfold rightB; rw [rowL_len, rowL_ok hK hK5 hm, Bool.and_true]
theorem rightB_nest {m : Nat} (hm : m ≤ 1002) : rightB (nestL m) = decide (m ≤ 1000) := by
  unfold rightB; rw [nestL_len, nestL_ok hm, Bool.and_true]
theorem atS_row {K : Nat} (hK : 1 ≤ K) (x : Int) : ∀ m : Nat, atS (rowL K m) x = if 0 ≤ x ∧ x < ((K * m : Nat) : Int) then 1 else 0
  | 0 => by simp [rowL, atS]
  | m + 1 => by
    rw [rowL_succ, atS_append, atS_row hK x m, Nat.mul_succ]
    simp only [atS]
    generalize K * m = P
    split <;> split <;> split <;> omega
theorem atS_nest (x : Int) (hx : 0 ≤ x) (hx2 : x < 2000) : ∀ m : Nat, atS (nestL m) x = if (m : Int) ≤ x + 1 then (m : Int) else x + 1
  | 0 => by simp [nestL, atS]; omega
  | m + 1 => by
    rw [nestL_succ, atS_append, atS_nest x hx hx2 m]
    simp only [atS]
    split <;> split <;> split <;> omega
theorem atS_nest0 : ∀ m : Nat, atS (nestL m) 2000 = 0
  | 0 => by simp [nestL, atS]
  | m + 1 => by rw [nestL_succ, atS_append, atS_nest0 m]; simp [atS]

def rEnds (K j : Nat) : List Int := (List.range j).map fun i : Nat => ((K * i : Nat) : Int)
theorem rEnds_succ (K j : Nat) : rEnds K (j + 1) = rEnds K j ++ [((K * j : Nat) : Int)] := by simp [rEnds, List.range_succ]
theorem rEnds_asc {K : Nat} (hK : 1 ≤ K) (j : Nat) : Asc (rEnds K j) := by
  unfold Asc rEnds
  rw [List.pairwise_map]
  exact List.pairwise_lt_range.imp fun {a b} h => by
    have := Nat.mul_lt_mul_of_pos_left h (show 0 < K by omega)
    exact Int.ofNat_lt.2 this
theorem row_ends {K m : Nat} (hK : 1 ≤ K) (hm : 1 ≤ m) : IsEnds (rowL K m) (rEnds K (m + 1)) := by
  refine ⟨rEnds_asc hK _, fun x => ?_⟩
  constructor
  · intro h
    obtain ⟨i, hi, rfl⟩ := List.mem_map.1 h
    have hi := List.mem_range.1 hi
    rcases Nat.eq_zero_or_pos i with rfl | hp
    · exact ⟨_, List.mem_map.2 ⟨0, List.mem_range.2 hm, rfl⟩, .inl rfl⟩
    · refine ⟨_, List.mem_map.2 ⟨i - 1, List.mem_range.2 (by omega), rfl⟩, .inr ?_⟩
      show ((K * i : Nat) : Int) = ((K * (i - 1) + K : Nat) : Int)
      rw [← Nat.mul_succ, show (i - 1).succ = i from by omega]
  · rintro ⟨s, hs, h⟩
    obtain ⟨i, hi, rfl⟩ := rowL_mem hs
    rcases h with rfl | rfl
    · exact List.mem_map.2 ⟨i, List.mem_range.2 (by omega), rfl⟩
    · exact List.mem_map.2 ⟨i + 1, List.mem_range.2 (by omega), by rw [Nat.mul_succ]⟩
theorem row_run {K m : Nat} (hK : 1 ≤ K) : ∀ j, j < m → dRun (rowL K m) (rEnds K (j + 1)) = ⟨[], 1, 0⟩
  | 0, h => by
    have h1 : atS (rowL K m) 0 = 1 := by
      rw [atS_row hK, if_pos ⟨Int.le_refl _, by have := Nat.mul_pos hK h; omega⟩]
    have : rEnds K 1 = [0] := by simp [rEnds]
    rw [this]
    show dStep (rowL K m) ⟨[], 0, 0⟩ 0 = _
    rw [dStep, h1]; rfl
  | j + 1, h => by
    have h1 : atS (rowL K m) ((K * (j + 1) : Nat) : Int) = 1 := by
      rw [atS_row hK, if_pos ⟨by omega, by have := Nat.mul_lt_mul_of_pos_left h (show 0 < K by omega); omega⟩]
    rw [rEnds_succ, dRun_snoc, row_run hK j (by omega), dStep, if_pos h1]
theorem row_dep {K m : Nat} {F : List Dep} (hK : 1 ≤ K) (hm : 1 ≤ m) (h : DepRes (rowL K m) F) : F.length = 1 := by
  have e := dep_one h ⟨_, row_ends hK hm, rfl⟩
  obtain ⟨n, rfl⟩ : ∃ n, m = n + 1 := ⟨m - 1, by omega⟩
  rw [e, rEnds_succ, dRun_snoc, row_run hK n (by omega), dStep]
  have h1 : atS (rowL K (n + 1)) ((K * (n + 1) : Nat) : Int) = 0 := by rw [atS_row hK, if_neg (by omega)]
  rw [h1]; rfl
def nEnds (j : Nat) : List Int := (List.range j).map fun i : Nat => (i : Int)
theorem nEnds_succ (j : Nat) : nEnds (j + 1) = nEnds j ++ [(j : Int)] := by simp [nEnds, List.range_succ]
theorem nest_ends {m : Nat} (hm : 1 ≤ m) (hm2 : m ≤ 1002) : IsEnds (nestL m) (nEnds m ++ [2000]) := by
  refine ⟨?_, fun x => ?_⟩
  · unfold Asc nEnds
    rw [List.pairwise_append]
    refine ⟨?_, by simp, fun a ha b hb => ?_⟩
    · rw [List.pairwise_map]
      exact List.pairwise_lt_range.imp fun {a b} h => Int.ofNat_lt.2 h
    · obtain ⟨i, hi, rfl⟩ := List.mem_map.1 ha
      have := List.mem_range.1 hi
      rw [List.mem_singleton.1 hb]; omega
  · constructor
    · intro h
      rcases List.mem_append.1 h with h | h
      · obtain ⟨i, hi, rfl⟩ := List.mem_map.1 h
        exact ⟨_, List.mem_map.2 ⟨i, hi, rfl⟩, .inl rfl⟩
      · exact ⟨_, List.mem_map.2 ⟨0, List.mem_range.2 hm, rfl⟩, .inr (List.mem_singleton.1 h)⟩
    · rintro ⟨s, hs, h⟩
      obtain ⟨i, hi, rfl⟩ := nestL_mem hs
      rcases h with rfl | rfl
      · exact List.mem_append.2 (.inl (List.mem_map.2 ⟨i, List.mem_range.2 hi, rfl⟩))
      · exact List.mem_append.2 (.inr (by simp))
theorem nest_run {m : Nat} (hm : m ≤ 1002) : ∀ j, j < m → (dRun (nestL m) (nEnds (j + 1))).out.length = j ∧ (dRun (nestL m) (nEnds (j + 1))).depth = (j : Int) + 1
  | 0, h => by
    have h1 : atS (nestL m) 0 = 1 := by rw [atS_nest 0 (by omega) (by omega)]; split <;> omega
    have : nEnds 1 = [0] := by simp [nEnds]
    rw [this]
    show (dStep (nestL m) ⟨[], 0, 0⟩ 0).out.length = 0 ∧ (dStep (nestL m) ⟨[], 0, 0⟩ 0).depth = 0 + 1
    rw [dStep, h1]; exact ⟨rfl, rfl⟩
  | j + 1, h => by
    obtain ⟨i1, i2⟩ := nest_run hm j (by omega)
    have h1 : atS (nestL m) ((j + 1 : Nat) : Int) = (j : Int) + 2 := by rw [atS_nest _ (by omega) (by omega)]; split <;> omega
    rw [nEnds_succ, dRun_snoc, dStep, h1, if_neg (by omega)]
    refine ⟨?_, by simp only; omega⟩
    simp only
    rw [if_pos (by omega)]
    simp [i1]
theorem nest_dep {m : Nat} {F : List Dep} (hm : 1 ≤ m) (hm2 : m ≤ 1002) (h : DepRes (nestL m) F) : F.length = m := by
  have e := dep_one h ⟨_, nest_ends hm hm2, rfl⟩
  obtain ⟨n, rfl⟩ : ∃ n, m = n + 1 := ⟨m - 1, by omega⟩
  obtain ⟨i1, i2⟩ := nest_run hm2 n (by omega)
  rw [e, dRun_snoc, dStep, atS_nest0, if_neg (by omega)]
  simp only
  rw [if_pos (by omega)]
  simp [i1]
theorem ok_lt {l : List Sp} (h : l.all okSpan = true) : ∀ s ∈ l, s.1 < s.2 := fun s hs => by
  have := (okSpan_iff s).1 (List.all_eq_true.1 h s hs); unfold OkSp at this; omega
theorem row_rooms {K m : Nat} {R : List Int} {c : Int} (hK : 1 ≤ K) (hK5 : K ≤ 5) (hm : 1 ≤ m) (hm2 : m ≤ 1002) (h : RoomsRes (rowL K m) R c) : c = 1 := by
  have hs := ok_lt (rowL_ok hK hK5 hm2)
  obtain ⟨F, hF⟩ := dep_ex (rowL K m)
  have hf := few_res (fun j hj => hs _ (idx_mem hj)) hs h hF
  have h0 := hf.room 0 (by rw [rowL_len]; omega)
  have h1 := hf.most
  obtain ⟨_, _, h3⟩ := foldl_max F 0
  rw [h1] at h3
  rcases h3 with h3 | ⟨f, hfm, h3⟩
  · omega
  · obtain ⟨_, p, hp⟩ := (dep_nums hs hF).1 f hfm
    rw [atS_row hK] at hp
    split at hp <;> omega
theorem nest_rooms {m : Nat} {R : List Int} {c : Int} (hm2 : m ≤ 1002) (h : RoomsRes (nestL m) R c) : c = m := by
  have hs := ok_lt (nestL_ok hm2)
  obtain ⟨L, A, hL, hA, rfl, rfl⟩ := h
  obtain ⟨h1, h2⟩ := rooms_lt hA
  have hLl : L.length = m := by have := hL.perm.length_eq; rw [List.length_range, nestL_len] at this; exact this
  have h3 := cntR_bd A m (fun p hp => by have := h2 p hp; omega)
  have h4 := depth_rooms hA (fun j hj => hL.perm.mem_iff.2 (List.mem_range.2 hj)) (fun j hj => hs _ (idx_mem hj)) 1999
  rw [atS_nest 1999 (by omega) (by omega)] at h4
  split at h4 <;> omega
theorem rooms_nil {R : List Int} {c : Int} (h : RoomsRes [] R c) : R = [] ∧ c = 0 := rooms_res_one h ⟨[], [], ord_nil _, .nil, rfl, rfl⟩
theorem bitB_all {k : Int} (k0 : 0 ≤ k) (k1 : k ≤ 12) : bitB 8191 k = true := by
  rcases (by omega : k = 0 ∨ k = 1 ∨ k = 2 ∨ k = 3 ∨ k = 4 ∨ k = 5 ∨ k = 6 ∨ k = 7 ∨ k = 8 ∨ k = 9 ∨ k = 10 ∨ k = 11 ∨ k = 12) with rfl | rfl | rfl | rfl | rfl | rfl | rfl | rfl | rfl | rfl | rfl | rfl | rfl <;> decide
theorem rowP_full {a b : List Sp} {i : Nat} : ∀ k, (rowP (jf 8191) a b i k).length = k
  | 0 => rfl
  | k + 1 => by rw [rowP_yes (bitB_all (ofI_bd _ _).1 (ofI_bd _ _).2)]; simp [rowP_full k]
theorem joinP_every (a b : List Sp) : ∀ n, (joinP (jf 8191) a b n).length = n * b.length
  | 0 => by simp [joinP]
  | n + 1 => by rw [joinP_succ, List.length_append, joinP_every a b n, rowP_full, Nat.add_mul]; omega
end Go.Proofs.Ytahpcepnagpbdaa
