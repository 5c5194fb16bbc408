/- Law 42: a tree's height; plain laws of IndexScript. No program in sight. -/
import Derived.Test.YtgdcgdjlhljbiaaIyV
import Derived.Test.YtgdcgdjlhljbiaaIyS
namespace Go.Proofs.Ytgdcgdjlhljbiaa

/-- The least number of nodes of a tree of a height. -/
def mn : Nat → Nat
  | 0 => 0
  | 1 => 1
  | n + 2 => mn (n + 1) + mn n + 1
theorem mn_step (n : Nat) : mn n ≤ mn (n + 1) := by
  match n with
  | 0 => simp [mn]
  | n + 1 => rw [mn]; omega
theorem mn_le {a b : Nat} (h : a ≤ b) : mn a ≤ mn b := by
  induction h with
  | refl => exact Nat.le_refl _
  | step _ ih => exact Nat.le_trans ih (mn_step _)
theorem mn_node {a b : Nat} (h1 : a ≤ b + 1) (h2 : b ≤ a + 1) : mn (1 + max a b) ≤ mn a + 1 + mn b := by
  rcases Nat.le_total a b with h | h
  · rw [Nat.max_eq_right h]
    cases b with
    | zero => simp [mn]
    | succ b =>
      rw [show 1 + (b + 1) = b + 2 from by omega, mn]
      have := mn_le (show b ≤ a by omega)
      omega
  · rw [Nat.max_eq_left h]
    cases a with
    | zero => simp [mn]
    | succ a =>
      rw [show 1 + (a + 1) = a + 2 from by omega, mn]
      have := mn_le (show a ≤ b by omega)
      omega
theorem sub_hgt {N : List Nd} {i : Int} {L : List Nat} {h m : Int} (s : Sub N i L h m) : 0 ≤ h ∧ mn h.toNat ≤ L.length := by
  induction s with
  | nil => exact ⟨by omega, by simp [mn]⟩
  | node hi s1 s2 ho hh h1 h2 hm ih1 ih2 =>
    rename_i i L R a b x y
    rw [hh]
    refine ⟨by omega, ?_⟩
    have e : (1 + max a b).toNat = 1 + max a.toNat b.toNat := by omega
    rw [e, List.length_append, List.length_append, List.length_singleton]
    have := mn_node (a := a.toNat) (b := b.toNat) (by omega) (by omega)
    omega
theorem sub_rt {N : List Nd} {i : Int} {L : List Nat} {h m : Int} (s : Sub N i L h m) : -1 ≤ i ∧ i < N.length ∧ (0 ≤ i → (nd N i.toNat).h = h) := by
  cases s with
  | nil => exact ⟨by omega, by omega, fun h => absurd h (by omega)⟩
  | node hi s1 s2 ho hh h1 h2 hm => exact ⟨by omega, by omega, fun _ => rfl⟩
/-- The root of a small valid tree. -/
theorem tree_root {N : List Nd} {r : Int} (h : treeB N r = true) (hl : N.length ≤ 60) : -1 ≤ r ∧ r < N.length ∧ (0 ≤ r → (nd N r.toNat).h ≤ 8) := by
  obtain ⟨L, hh, m, s, _, e1, _⟩ := entsT_spec (treeB_valid h).2
  obtain ⟨h1, h2⟩ := sub_hgt s
  obtain ⟨h3, h4, h5⟩ := sub_rt s
  refine ⟨h3, h4, fun h0 => ?_⟩
  rw [h5 h0]
  rcases (by omega : hh ≤ 8 ∨ 8 < hh) with h8 | h8
  · exact h8
  · have : mn 9 ≤ mn hh.toNat := mn_le (by omega)
    have e : mn 9 = 88 := rfl
    omega
/-! ### the entries of a list of changes -/
def entsC (L : List Ch) : List En := L.map (·.1)
theorem entsC_len (L : List Ch) : (entsC L).length = L.length := by simp [entsC]
theorem entsC_get {L : List Ch} {i : Nat} (h : i < L.length) : en (entsC L) i = (ch L i).1 := by
  rw [← en_at (by rw [entsC_len]; exact h), ← ch_at h]
  simp [entsC]
theorem entsC_new {L : List Ch} {x : En} (h : ∀ i, i < L.length → (ch L i).1 ≠ x) : x ∉ entsC L := by
  intro hm
  obtain ⟨c, hc, rfl⟩ := List.mem_map.1 hm
  obtain ⟨i, hi, rfl⟩ := List.getElem_of_mem hc
  exact h i hi (by rw [ch_at hi])
theorem entsC_in {L : List Ch} {i : Nat} (h : i < L.length) : (ch L i).1 ∈ entsC L := by
  rw [← ch_at h]
  exact List.mem_map.2 ⟨_, List.getElem_mem _, rfl⟩
theorem entsC_del {L : List Ch} {i : Nat} (h : i < L.length) : (entsC L).Perm ((ch L i).1 :: entsC (L.take i ++ L.drop (i + 1))) := by
  have h2 : L = L.take i ++ (ch L i :: L.drop (i + 1)) := by
    rw [← ch_at h, ← List.drop_eq_getElem_cons h, List.take_append_drop]
  have h3 : (ch L i).1 :: entsC (L.take i ++ L.drop (i + 1)) = entsC (ch L i :: (L.take i ++ L.drop (i + 1))) := rfl
  rw [h3]
  refine List.Perm.map _ ?_
  conv => lhs; rw [h2]
  exact List.perm_middle
theorem entsC_app (L : List Ch) (x : Ch) : (x.1 :: entsC L).Perm (entsC (L ++ [x])) := by
  unfold entsC
  rw [List.map_append]
  exact (List.perm_append_comm (l₁ := [x.1]) (l₂ := L.map (·.1)))
/-- Clamped to the script's numbers. -/
def clampS (x : Int) : Int := max (min x 1000) (-1000)
/-- All entries are spans between the script's numbers. -/
def Low (l : List En) : Prop := ∀ e ∈ l, -1000 ≤ e.1 ∧ e.1 < e.2.1 ∧ e.2.1 ≤ 1000
theorem low_ok {l : List En} (h : Low l) : ∀ e ∈ l, okSpan (e.1, e.2.1) = true := fun e he => by
  have := h e he
  rw [okSpan_iff]
  unfold OkSp
  simp only
  omega
/-- As many entries of the tree are found at a number as there are changes around it. -/
theorem stab_count {N : List Nd} {r x : Int} {L : List Ch} (ht : treeB N r = true) (hp : (entsT N r).Perm (entsC L)) : (stabL N r x).length = (fnd x (entsC L)).length := by
  rw [stab_fnd ht]
  unfold fnd
  rw [List.length_map, List.length_map]
  exact (hp.filter _).length_eq
end Go.Proofs.Ytgdcgdjlhljbiaa
