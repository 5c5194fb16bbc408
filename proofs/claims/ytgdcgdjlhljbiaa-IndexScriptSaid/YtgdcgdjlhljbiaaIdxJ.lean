/- Law 42: the tree that grow makes is balanced. Plain law (no program). -/
import Derived.Test.YtgdcgdjlhljbiaaIdxI
namespace Go.Proofs.Ytgdcgdjlhljbiaa

/-- The height of a tree of n entries. -/
def hgt (n : Nat) : Nat := if n = 0 then 0 else 1 + hgt (n / 2)
  termination_by n
  decreasing_by omega
theorem hgt_zero : hgt 0 = 0 := by rw [hgt]; rfl
theorem hgt_pos {n : Nat} (h : 0 < n) : hgt n = 1 + hgt (n / 2) := by rw [hgt, if_neg (by omega)]
theorem hgt_mono : ∀ (n m : Nat), m ≤ n → hgt m ≤ hgt n := by
  intro n
  induction n using Nat.strongRecOn with
  | ind n ih =>
    intro m hm
    rcases Nat.eq_zero_or_pos m with rfl | h0
    · rw [hgt_zero]; omega
    · rw [hgt_pos h0, hgt_pos (show 0 < n by omega)]
      have := ih (n / 2) (by omega) (m / 2) (by omega)
      omega
theorem hgt_succ : ∀ n : Nat, hgt (n + 1) ≤ hgt n + 1 := by
  intro n
  induction n using Nat.strongRecOn with
  | ind n ih =>
    rcases Nat.eq_zero_or_pos n with rfl | h0
    · rw [hgt_zero, hgt_pos (by omega), show (0 + 1) / 2 = 0 by omega, hgt_zero]; omega
    · rw [hgt_pos (show 0 < n + 1 by omega), hgt_pos h0]
      have h1 := hgt_mono (n / 2 + 1) ((n + 1) / 2) (by omega)
      have h2 := ih (n / 2) (by omega)
      omega
theorem hgt_node {n k : Nat} (h : 0 < n) (hk : k = n / 2) : (hgt n : Int) = 1 + max (hgt k : Int) (hgt (n - (k + 1)) : Int) ∧ (hgt k : Int) - hgt (n - (k + 1)) ≤ 1 ∧ (hgt (n - (k + 1)) : Int) - hgt k ≤ 1 := by
  have h1 := hgt_pos h
  rw [← hk] at h1
  have h2 := hgt_mono k (n - (k + 1)) (by omega)
  have h3 := hgt_mono (n - (k + 1) + 1) k (by omega)
  have h4 := hgt_succ (n - (k + 1))
  omega
theorem sub_congr {N N' : List Nd} {i : Int} {L : List Nat} {h m : Int} (hs : Sub N i L h m) : N.length ≤ N'.length → (∀ j ∈ L, nd N' j = nd N j) → Sub N' i L h m := by
  induction hs with
  | nil => intro _ _; exact .nil
  | @node k L R a b x y hk h1 h2 h3 h4 h5 h6 h7 ih1 ih2 =>
    intro hl heq
    have e := heq k (by simp)
    have s1 := ih1 hl (fun j hj => heq j (by simp [hj]))
    have s2 := ih2 hl (fun j hj => heq j (by simp [hj]))
    rw [← e] at s1 s2 h3 h4 h7 ⊢
    exact .node (by omega) s1 s2 h3 h4 h5 h6 h7
/-- What grow does to a list of nodes: it adds a balanced tree of these entries. -/
structure GrowOk (l : List En) (N N' : List Nd) (r : Int) : Prop where
  len : N'.length = N.length + l.length
  old : ∀ j, j < N.length → nd N' j = nd N j
  sub : ∃ L m, Sub N' r L (hgt l.length) m ∧ entsOf N' L = l ∧ L.Nodup ∧ (∀ j, j ∈ L ↔ N.length ≤ j ∧ j < N'.length)
theorem grow_nil (N : List Nd) : GrowOk [] N N (-1) :=
  ⟨rfl, fun _ _ => rfl, [], _, by rw [List.length_nil, hgt_zero]; exact .nil, rfl, List.nodup_nil, fun j => ⟨fun h => by simp at h, fun h => by omega⟩⟩
theorem nd_snoc_old {N : List Nd} {x : Nd} {j : Nat} (h : j < N.length) : nd (N ++ [x]) j = nd N j := by
  simp [nd, List.getElem?_append_left h]
theorem nd_set_ne {N : List Nd} {x : Nd} {i j : Nat} (h : j ≠ i) : nd (N.set i x) j = nd N j := by
  simp [nd, List.getElem?_set_ne (Ne.symm h)]
theorem nd_set_eq {N : List Nd} {x : Nd} {i : Nat} (h : i < N.length) : nd (N.set i x) i = x := by
  simp [nd, h]
theorem grow_node {l : List En} {N N2 N3 : List Nd} {x0 : Nd} {a b : Int} {k : Nat} (hn : 0 < l.length) (hk : k = l.length / 2) (hok : okSpan ((en l k).1, (en l k).2.1) = true)
    (g1 : GrowOk (l.take k) (N ++ [x0]) N2 a) (g2 : GrowOk (l.drop (k + 1)) N2 N3 b) :
    GrowOk l N (N3.set N.length ⟨(en l k).1, (en l k).2.1, (en l k).2.2, a, b, max (max (mOf N3 a) (mOf N3 b)) (en l k).2.1, 1 + max (hOf N3 a) (hOf N3 b)⟩) (N.length : Int) := by
  have hkl : k < l.length := by omega
  have l1 := g1.len
  have l2 := g2.len
  simp only [List.length_append, List.length_cons, List.length_nil, List.length_take, List.length_drop] at l1 l2
  obtain ⟨L, m1, s1, e1, n1, c1⟩ := g1.sub
  obtain ⟨R, m2, s2, e2, n2, c2⟩ := g2.sub
  simp only [List.length_append, List.length_cons, List.length_nil, List.length_take, List.length_drop] at s1 s2 c1 c2
  rw [show min k l.length = k by omega] at s1 l1
  have hi : N.length < N3.length := by omega
  have s1' := sub_congr s1 (N' := N3) (by omega) (fun j hj => g2.old j ((c1 j).1 hj).2)
  obtain ⟨q1, q2⟩ := sub_hm s1'
  obtain ⟨q3, q4⟩ := sub_hm s2
  have hL : ∀ j ∈ L, j ≠ N.length := fun j hj => by have := (c1 j).1 hj; omega
  have hR : ∀ j ∈ R, j ≠ N.length := fun j hj => by have := (c2 j).1 hj; omega
  obtain ⟨d1, d2, d3⟩ := hgt_node hn hk
  refine ⟨by rw [List.length_set]; omega, fun j hj => ?_, L ++ [N.length] ++ R, max (max (mOf N3 a) (mOf N3 b)) (en l k).2.1, ?_, ?_, ?_, fun j => ?_⟩
  · rw [nd_set_ne (by omega), g2.old j (by omega), g1.old j (by simp; omega), nd_snoc_old hj]
  · have hnode := nd_set_eq (x := (⟨(en l k).1, (en l k).2.1, (en l k).2.2, a, b, max (max (mOf N3 a) (mOf N3 b)) (en l k).2.1, 1 + max (hOf N3 a) (hOf N3 b)⟩ : Nd)) hi
    have t1 := sub_congr s1' (N' := N3.set N.length ⟨(en l k).1, (en l k).2.1, (en l k).2.2, a, b, max (max (mOf N3 a) (mOf N3 b)) (en l k).2.1, 1 + max (hOf N3 a) (hOf N3 b)⟩) (by simp) (fun j hj => nd_set_ne (hL j hj))
    have t2 := sub_congr s2 (N' := N3.set N.length ⟨(en l k).1, (en l k).2.1, (en l k).2.2, a, b, max (max (mOf N3 a) (mOf N3 b)) (en l k).2.1, 1 + max (hOf N3 a) (hOf N3 b)⟩) (by simp) (fun j hj => nd_set_ne (hR j hj))
    generalize N3.set N.length ⟨(en l k).1, (en l k).2.1, (en l k).2.2, a, b, max (max (mOf N3 a) (mOf N3 b)) (en l k).2.1, 1 + max (hOf N3 a) (hOf N3 b)⟩ = N4 at *
    have hi4 : N.length < N4.length := by
      rcases Nat.lt_or_ge N.length N4.length with h | h
      · exact h
      · have hh : nd N4 N.length = ⟨0, 0, 0, 0, 0, 0, 0⟩ := by simp [nd, h]
        rw [hh] at hnode
        have h7 := congrArg Nd.h hnode
        have h8 := (hgt_pos hn)
        simp only at h7
        omega
    have := Sub.node (N := N4) (i := N.length) hi4 (by rw [hnode]; exact t1) (by rw [hnode]; exact t2) (by rw [hnode]; exact hok) (by rw [hnode]; simp only; omega) d2 d3 (by rw [hnode]; simp only; rw [q2, q4])
    rw [hnode] at this
    simp only at this
    rw [← q1, ← q3, ← d1] at this
    exact this
  · unfold entsOf at e1 e2 ⊢
    rw [List.map_append, List.map_append]
    have m1 : L.map (fun j => ent (nd (N3.set N.length ⟨(en l k).1, (en l k).2.1, (en l k).2.2, a, b, max (max (mOf N3 a) (mOf N3 b)) (en l k).2.1, 1 + max (hOf N3 a) (hOf N3 b)⟩) j)) = l.take k := by
      rw [← e1]
      exact List.map_congr_left fun j hj => by rw [nd_set_ne (hL j hj), g2.old j ((c1 j).1 hj).2]
    have m2 : R.map (fun j => ent (nd (N3.set N.length ⟨(en l k).1, (en l k).2.1, (en l k).2.2, a, b, max (max (mOf N3 a) (mOf N3 b)) (en l k).2.1, 1 + max (hOf N3 a) (hOf N3 b)⟩) j)) = l.drop (k + 1) := by
      rw [← e2]
      exact List.map_congr_left fun j hj => by rw [nd_set_ne (hR j hj)]
    rw [m1, m2, List.map_singleton, nd_set_eq hi]
    show l.take k ++ [(en l k)] ++ l.drop (k + 1) = l
    rw [← en_at hkl, List.append_assoc, List.singleton_append, List.getElem_cons_drop, List.take_append_drop]
  · rw [List.append_assoc, List.nodup_append]
    refine ⟨n1, ?_, fun x hx y hy => ?_⟩
    · rw [List.singleton_append, List.nodup_cons]
      exact ⟨fun h => hR _ h rfl, n2⟩
    · have := (c1 x).1 hx
      rcases List.mem_append.1 hy with h | h
      · rw [List.mem_singleton] at h; omega
      · have := (c2 y).1 h; omega
  · rw [List.length_set, List.mem_append, List.mem_append, c1, c2, List.mem_singleton]
    omega
/-- A tree of a list of entries, all its nodes in it. -/
theorem grow_valid {l : List En} {N' : List Nd} {r : Int} (h : GrowOk l [] N' r) (ho : l.Pairwise enLt) : validT N' r := by
  obtain ⟨L, m, s, e, n, c⟩ := h.sub
  exact ⟨L, _, m, s, n, by rw [show (L.map fun i => ent (nd N' i)) = entsOf N' L from rfl, e]; exact ho, fun j hj => (c j).2 ⟨by simp, hj⟩⟩
end Go.Proofs.Ytgdcgdjlhljbiaa
