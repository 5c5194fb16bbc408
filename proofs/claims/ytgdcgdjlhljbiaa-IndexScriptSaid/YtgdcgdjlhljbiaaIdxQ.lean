/- Law 42: the reference's conditions are those of the check. Plain law (no program). -/
import Derived.Test.YtgdcgdjlhljbiaaIdxP
namespace Go.Proofs.Ytgdcgdjlhljbiaa

theorem count_one {L : List Nat} (hn : L.Nodup) {j : Nat} (h : j ∈ L) : L.count j = 1 := by
  have h1 := List.nodup_iff_count.1 hn j
  have h2 := List.count_pos_iff.2 h
  omega
def kids (n : Nd) : List Nat := (if 0 ≤ n.l then [n.l.toNat] else []) ++ (if 0 ≤ n.r then [n.r.toNat] else [])
def kidsN (N : List Nd) (i : Nat) : List Nat := kids (nd N i)
def allKids (N : List Nd) : List Nat := (List.range N.length).flatMap (kidsN N)
def one01 (p : Prop) [Decidable p] : Nat := if p then 1 else 0
theorem count_opt (x : Int) (j : Nat) : (if 0 ≤ x then [x.toNat] else []).count j = one01 ((j : Int) = x) := by
  unfold one01
  by_cases h : 0 ≤ x
  · rw [if_pos h, List.count_singleton]
    by_cases e : (j : Int) = x
    · subst e; simp
    · rw [if_neg e, if_neg]; simp only [beq_iff_eq]; omega
  · rw [if_neg h, if_neg (by omega)]; rfl
theorem count_kids (n : Nd) (j : Nat) : (kids n).count j = one01 ((j : Int) = n.l) + one01 ((j : Int) = n.r) := by
  unfold kids; rw [List.count_append, count_opt, count_opt]
theorem sub_root {N : List Nd} {i : Int} {L : List Nat} {h m : Int} (hs : Sub N i L h m) : -1 ≤ i ∧ i < (N.length : Int) ∧ (0 ≤ i → i.toNat ∈ L) := by
  cases hs with
  | nil => exact ⟨by omega, by omega, fun h => absurd h (by omega)⟩
  | node => exact ⟨by omega, by omega, fun _ => by simp⟩
theorem sub_count {N : List Nd} {i : Int} {L : List Nat} {h m : Int} (hs : Sub N i L h m) (j : Nat) : L.count j = one01 ((j : Int) = i) + (L.flatMap (kidsN N)).count j := by
  induction hs with
  | nil => unfold one01; rw [if_neg (by omega)]; rfl
  | @node k L R a b x y hk h1 h2 _ _ _ _ _ ih1 ih2 =>
    simp only [List.flatMap_append, List.count_append, List.flatMap_cons, List.flatMap_nil, List.append_nil]
    rw [ih1, ih2, kidsN, count_kids, List.count_singleton]
    have : (if k == j then 1 else 0) = one01 ((j : Int) = (k : Int)) := by
      unfold one01
      by_cases e : k = j
      · subst e; simp
      · rw [if_neg (by simpa using e), if_neg (by omega)]
    rw [this]
    omega
theorem sub_lt {N : List Nd} {i : Int} {L : List Nat} {h m : Int} (hs : Sub N i L h m) : ∀ j ∈ L, j < N.length := by
  induction hs with
  | nil => simp
  | @node k L R a b x y hk _ _ _ _ _ _ _ ih1 ih2 =>
    intro j hj
    simp only [List.mem_append, List.mem_singleton] at hj
    rcases hj with (h | rfl) | h
    · exact ih1 j h
    · exact hk
    · exact ih2 j h

/-! ### conditions at each node -/
def hOf (N : List Nd) (i : Int) : Int := if i < 0 then 0 else (nd N i.toNat).h
def mOf (N : List Nd) (i : Int) : Int := if i < 0 then -4398046511104 else (nd N i.toNat).m
structure Loc (N : List Nd) (i : Nat) : Prop where
  sp : okSpan ((nd N i).f, (nd N i).t) = true
  hh : (nd N i).h = max (hOf N (nd N i).l) (hOf N (nd N i).r) + 1
  lo : 1 ≤ (nd N i).h
  hi : (nd N i).h ≤ 20
  d1 : hOf N (nd N i).l - hOf N (nd N i).r ≤ 1
  d2 : hOf N (nd N i).r - hOf N (nd N i).l ≤ 1
  mm : (nd N i).m = max (max (mOf N (nd N i).l) (mOf N (nd N i).r)) (nd N i).t
def InR (N : List Nd) : Prop := ∀ i, i < N.length → (-1 ≤ (nd N i).l ∧ (nd N i).l < N.length) ∧ (-1 ≤ (nd N i).r ∧ (nd N i).r < N.length)
theorem sub_hm {N : List Nd} {i : Int} {L : List Nat} {h m : Int} (hs : Sub N i L h m) : h = hOf N i ∧ m = mOf N i := by
  cases hs with
  | nil => exact ⟨rfl, rfl⟩
  | node => unfold hOf mOf; rw [if_neg (by omega), if_neg (by omega)]; exact ⟨rfl, rfl⟩
theorem sub_loc {N : List Nd} {i : Int} {L : List Nat} {h m : Int} (hs : Sub N i L h m) : L.length ≤ 1000 → ∀ j ∈ L, Loc N j ∧ (-1 ≤ (nd N j).l ∧ (nd N j).l < N.length) ∧ (-1 ≤ (nd N j).r ∧ (nd N j).r < N.length) := by
  induction hs with
  | nil => simp
  | @node k L R a b x y hk h1 h2 h3 h4 h5 h6 h7 ih1 ih2 =>
    intro hl j hj
    have hlen : (L ++ [k] ++ R).length = L.length + 1 + R.length := by simp; omega
    simp only [List.mem_append, List.mem_singleton] at hj
    rcases hj with (h | rfl) | h
    · exact ih1 (by omega) j h
    · have q := sub_low (Sub.node hk h1 h2 h3 h4 h5 h6 h7) hl
      obtain ⟨ea, ex⟩ := sub_hm h1
      obtain ⟨eb, ey⟩ := sub_hm h2
      have ka := sub_height h1
      have kb := sub_height h2
      obtain ⟨na, ea', _⟩ := ka
      obtain ⟨nb, eb', _⟩ := kb
      refine ⟨⟨h3, ?_, ?_, by omega, ?_, ?_, ?_⟩, ⟨(sub_root h1).1, (sub_root h1).2.1⟩, ⟨(sub_root h2).1, (sub_root h2).2.1⟩⟩
      · rw [← ea, ← eb]; omega
      · omega
      · rw [← ea, ← eb]; omega
      · rw [← ea, ← eb]; omega
      · rw [← ex, ← ey]; exact h7
    · exact ih2 (by omega) j h
theorem sub_of_loc {N : List Nd} (hr : InR N) (hl : ∀ i, i < N.length → Loc N i) : ∀ (k : Nat) (i : Int), -1 ≤ i → i < N.length → hOf N i ≤ k → ∃ L, Sub N i L (hOf N i) (mOf N i)
  | k, i, h1, h2, h3 => by
    by_cases hi : i = -1
    · subst hi; exact ⟨[], .nil⟩
    · obtain ⟨j, rfl⟩ := Int.eq_ofNat_of_zero_le (show 0 ≤ i by omega)
      have hj : j < N.length := by omega
      have q := hl j hj
      have e1 : hOf N ((j : Nat) : Int) = (nd N j).h := by unfold hOf; rw [if_neg (by omega)]; rfl
      have e2 : mOf N ((j : Nat) : Int) = (nd N j).m := by unfold mOf; rw [if_neg (by omega)]; rfl
      try simp only [Int.ofNat_eq_natCast] at h3 ⊢
      rw [e1] at h3
      have q1 := q.hh
      have q2 := q.lo
      obtain ⟨n, rfl⟩ : ∃ n, k = n + 1 := ⟨k - 1, by omega⟩
      obtain ⟨⟨r1, r2⟩, r3, r4⟩ := hr j hj
      obtain ⟨L, hL⟩ := sub_of_loc hr hl n _ r1 r2 (by omega)
      obtain ⟨R, hR⟩ := sub_of_loc hr hl n _ r3 r4 (by omega)
      refine ⟨L ++ [j] ++ R, ?_⟩
      rw [e1, e2]
      exact .node hj hL hR q.sp (by omega) q.d1 q.d2 q.mm
/-- All nodes are in the tree, each once. -/
structure Links (N : List Nd) (root : Int) : Prop where
  lo : 0 ≤ root
  hi : root < N.length
  inr : InR N
  one : ∀ j, j < N.length → one01 ((j : Int) = root) + (allKids N).count j = 1
theorem one_of {f : Nat → Nat} : ∀ {n : Nat}, ((List.range n).map f).sum = 1 → ∃ p, p < n ∧ ∀ i, i < n → f i = one01 (i = p)
  | 0, h => by simp at h
  | n + 1, h => by
    rw [List.range_succ, List.map_append, List.sum_append] at h
    simp only [List.map_cons, List.map_nil, List.sum_cons, List.sum_nil, Nat.add_zero] at h
    by_cases h0 : f n = 0
    · obtain ⟨p, hp, hq⟩ := one_of (f := f) (n := n) (by omega)
      refine ⟨p, by omega, fun i hi => ?_⟩
      rcases Nat.lt_or_ge i n with h1 | h1
      · exact hq i h1
      · obtain rfl : i = n := by omega
        unfold one01; rw [h0, if_neg (by omega)]
    · refine ⟨n, by omega, fun i hi => ?_⟩
      rcases Nat.lt_or_ge i n with h1 | h1
      · have hz : ((List.range n).map f).sum = 0 := by omega
        have : f i = 0 := by
          have := List.sum_eq_zero_iff_forall_eq_nat.1 hz (f i) (List.mem_map.2 ⟨i, List.mem_range.2 h1, rfl⟩)
          exact this
        unfold one01; rw [this, if_neg (by omega)]
      · obtain rfl : i = n := by omega
        unfold one01; rw [if_pos rfl]; omega
theorem count_flat (f : Nat → List Nat) (j : Nat) : ∀ L : List Nat, (L.flatMap f).count j = (L.map fun i => (f i).count j).sum
  | [] => rfl
  | x :: L => by rw [List.flatMap_cons, List.count_append, count_flat f j L]; rfl
theorem count_pick (f : Nat → List Nat) (j p : Nat) : ∀ L : List Nat, (∀ i ∈ L, (f i).count j = one01 (i = p)) → (L.flatMap f).count j = L.count p
  | [], _ => rfl
  | x :: L, h => by
    rw [List.flatMap_cons, List.count_append, count_pick f j p L (fun i hi => h i (by simp [hi])), h x (by simp), List.count_cons]
    have : (if x == p then 1 else 0) = one01 (x = p) := by
      unfold one01
      by_cases e : x = p
      · subst e; simp
      · rw [if_neg (by simpa using e), if_neg e]
    rw [this]; omega
theorem links_once {N : List Nd} {root : Int} (hk : Links N root) (hl : ∀ i, i < N.length → Loc N i) {L : List Nat} {h m : Int} (hs : Sub N root L h m) : ∀ (k j : Nat), j < N.length → 20 - (nd N j).h ≤ k → L.count j = 1
  | k, j, hj, hh => by
    have hc := sub_count hs j
    have h1 := hk.one j hj
    by_cases e : (j : Int) = root
    · have e1 : one01 ((j : Int) = root) = 1 := if_pos e
      have h0 : (allKids N).count j = 0 := by omega
      have : (L.flatMap (kidsN N)).count j = 0 := by
        rw [List.count_eq_zero] at h0 ⊢
        intro hm
        obtain ⟨i, hi, hi2⟩ := List.mem_flatMap.1 hm
        exact h0 (List.mem_flatMap.2 ⟨i, List.mem_range.2 (sub_lt hs i hi), hi2⟩)
      omega
    · have e1 : one01 ((j : Int) = root) = 0 := if_neg e
      have h2 : ((List.range N.length).map fun i => (kidsN N i).count j).sum = 1 := by rw [← count_flat]; show (allKids N).count j = 1; omega
      obtain ⟨p, hp, hq⟩ := one_of h2
      have hk1 : j ∈ kidsN N p := by
        rw [← List.count_pos_iff, hq p hp]; unfold one01; rw [if_pos rfl]; omega
      have hlt : (nd N j).h < (nd N p).h := by
        have q := (hl p hp).hh
        have hj2 : (j : Int) = (nd N p).l ∨ (j : Int) = (nd N p).r := by
          have := count_kids (nd N p) j
          rw [show kids (nd N p) = kidsN N p from rfl, hq p hp] at this
          unfold one01 at this
          rw [if_pos rfl] at this
          by_cases c1 : (j : Int) = (nd N p).l
          · exact .inl c1
          · by_cases c2 : (j : Int) = (nd N p).r
            · exact .inr c2
            · rw [if_neg c1, if_neg c2] at this; omega
        have ej : hOf N (j : Int) = (nd N j).h := by unfold hOf; rw [if_neg (by omega)]; rfl
        rcases hj2 with c | c <;> rw [← c, ej] at q <;> omega
      have hp20 := (hl p hp).hi
      obtain ⟨n, rfl⟩ : ∃ n, k = n + 1 := ⟨k - 1, by omega⟩
      have := links_once hk hl hs n p hp (by omega)
      rw [hc, e1, count_pick _ j p L (fun i hi => hq i (sub_lt hs i hi)), this]
theorem valid_of_links {N : List Nd} {root : Int} (hk : Links N root) (hl : ∀ i, i < N.length → Loc N i) : ∃ L, Sub N root L (hOf N root) (mOf N root) ∧ ((L.map fun i => ent (nd N i)).Pairwise enLt → validT N root) := by
  have h0 : hOf N root ≤ (hOf N root).toNat := by omega
  obtain ⟨L, hs⟩ := sub_of_loc hk.inr hl _ root (by have := hk.lo; omega) hk.hi h0
  refine ⟨L, hs, fun ho => ⟨L, _, _, hs, ?_, ho, fun j hj => ?_⟩⟩
  · rw [List.nodup_iff_count]
    intro j
    by_cases hj : j < N.length
    · exact Nat.le_of_eq (links_once hk hl hs _ j hj (Int.self_le_toNat _))
    · rw [List.count_eq_zero.2 (fun hm => hj (sub_lt hs j hm))]; omega
  · rw [← List.count_pos_iff, links_once hk hl hs _ j hj (Int.self_le_toNat _)]; omega
theorem valid_all {N : List Nd} {root : Int} {L : List Nat} {h m : Int} (hs : Sub N root L h m) (hnd : L.Nodup) (hall : ∀ j, j < N.length → j ∈ L) : L.Perm (List.range N.length) := by
  rw [List.perm_iff_count]
  intro j
  by_cases hj : j < N.length
  · rw [count_one hnd (hall j hj), count_one List.nodup_range (List.mem_range.2 hj)]
  · rw [List.count_eq_zero.2 (fun hm => hj (sub_lt hs j hm)), List.count_eq_zero.2 (fun hm => hj (List.mem_range.1 hm))]
theorem links_of_valid {N : List Nd} {root : Int} (h : validT N root) (hn : N.length ≤ 1000) (h0 : 0 < N.length) : Links N root ∧ ∀ i, i < N.length → Loc N i := by
  obtain ⟨L, hh, mm, hs, hnd, _, hall⟩ := h
  have hp := valid_all hs hnd hall
  have hlen : L.length = N.length := by rw [hp.length_eq, List.length_range]
  have hloc := sub_loc hs (by omega)
  have hr := sub_root hs
  have hlo : 0 ≤ root := by
    rcases Int.lt_or_le root 0 with h | h
    · obtain rfl : root = -1 := by omega
      cases hs with
      | nil => simp at hlen; omega
    · exact h
  refine ⟨⟨hlo, hr.2.1, fun i hi => (hloc i (hall i hi)).2, fun j hj => ?_⟩, fun i hi => (hloc i (hall i hi)).1⟩
  have hc := sub_count hs j
  rw [count_one hnd (hall j hj), count_flat, (hp.map _).sum_nat, ← count_flat] at hc
  exact hc.symm
/-- A tree without nodes. -/
theorem valid_nil (root : Int) : validT [] root ↔ root = -1 := by
  constructor
  · rintro ⟨L, h, m, hs, _⟩
    cases hs with
    | nil => rfl
    | node hk => simp at hk
  · rintro rfl
    exact ⟨[], 0, _, .nil, List.nodup_nil, List.Pairwise.nil, fun j hj => by simp at hj⟩

/-! ### the list from the root -/
structure Bfs (N : List Nd) (root : Nat) (B : List Nat) (i : Nat) : Prop where
  le : i ≤ B.length
  head : root ∈ B
  rng : ∀ j ∈ B, j < N.length
  nd : B.Nodup
  par : ∀ j ∈ B, j = root ∨ ∃ p ∈ B.take i, j ∈ kidsN N p
  cl : ∀ p ∈ B.take i, ∀ c ∈ kidsN N p, c ∈ B
theorem bfs_start {N : List Nd} {root : Nat} (h : root < N.length) : Bfs N root [root] 0 :=
  ⟨by simp, by simp, fun j hj => by rw [List.mem_singleton.1 hj]; exact h, by simp, fun j hj => .inl (List.mem_singleton.1 hj), fun p hp => by simp at hp⟩
theorem kid_rng {N : List Nd} (hr : InR N) {p c : Nat} (hp : p < N.length) (h : c ∈ kidsN N p) : c < N.length := by
  obtain ⟨⟨h1, h2⟩, h3, h4⟩ := hr p hp
  unfold kidsN kids at h
  rcases List.mem_append.1 h with h | h
  · by_cases h0 : 0 ≤ (nd N p).l
    · rw [if_pos h0, List.mem_singleton] at h; omega
    · rw [if_neg h0] at h; simp at h
  · by_cases h0 : 0 ≤ (nd N p).r
    · rw [if_pos h0, List.mem_singleton] at h; omega
    · rw [if_neg h0] at h; simp at h
theorem bfs_step {N : List Nd} {root : Nat} {B : List Nat} {i : Nat} (hk : Links N root) (hb : Bfs N root B i) (hi : i < B.length) : Bfs N root (B ++ kidsN N B[i]) (i + 1) := by
  have hp : B[i] < N.length := hb.rng _ (List.getElem_mem hi)
  have once : ∀ {c p q : Nat}, p < N.length → q < N.length → c ∈ kidsN N p → c ∈ kidsN N q → p = q := fun {c p q} hp hq h1 h2 => by
    have hc : c < N.length := kid_rng hk.inr hp h1
    have h3 := hk.one c hc
    have hpos : 0 < (allKids N).count c := List.count_pos_iff.2 (List.mem_flatMap.2 ⟨p, List.mem_range.2 hp, h1⟩)
    have h2' : ((List.range N.length).map fun i => (kidsN N i).count c).sum = 1 := by rw [← count_flat]; show (allKids N).count c = 1; omega
    obtain ⟨r, _, hr⟩ := one_of h2'
    have k1 := hr p hp
    have k2 := hr q hq
    have p1 := List.count_pos_iff.2 h1
    have p2 := List.count_pos_iff.2 h2
    unfold one01 at k1 k2
    by_cases e1 : p = r
    · by_cases e2 : q = r
      · rw [e1, e2]
      · rw [if_neg e2] at k2; omega
    · rw [if_neg e1] at k1; omega
  have hroot : ∀ {p : Nat}, p < N.length → root ∉ kidsN N p := fun {p} hp h => by
    have h3 := hk.one root (by have := hk.hi; omega)
    have e1 : one01 ((root : Int) = (root : Int)) = 1 := if_pos rfl
    have hpos : 0 < (allKids N).count root := List.count_pos_iff.2 (List.mem_flatMap.2 ⟨p, List.mem_range.2 hp, h⟩)
    omega
  have htk : B.take (i + 1) = B.take i ++ [B[i]] := List.take_succ_eq_append_getElem hi
  have htake : (B ++ kidsN N B[i]).take (i + 1) = B.take i ++ [B[i]] := by rw [List.take_append_of_le_length (by omega), htk]
  have hnot : B[i] ∉ B.take i := fun hm => by
    have : (B.take (i + 1)).Nodup := hb.nd.sublist (List.take_sublist _ _)
    rw [htk, List.nodup_append] at this
    exact this.2.2 _ hm _ (by simp) rfl
  refine ⟨by rw [List.length_append]; omega, by simp [hb.head], fun j hj => ?_, ?_, fun j hj => ?_, fun p hpp c hc => ?_⟩
  · rcases List.mem_append.1 hj with h | h
    · exact hb.rng j h
    · exact kid_rng hk.inr hp h
  · rw [List.nodup_append]
    refine ⟨hb.nd, ?_, fun x hx y hy e => ?_⟩
    · rw [List.nodup_iff_count]
      intro c
      by_cases hc : c ∈ kidsN N B[i]
      · have h3 := hk.one c (kid_rng hk.inr hp hc)
        have h2' : ((List.range N.length).map fun i => (kidsN N i).count c).sum = (allKids N).count c := (count_flat _ _ _).symm
        have hpos : 0 < (allKids N).count c := List.count_pos_iff.2 (List.mem_flatMap.2 ⟨_, List.mem_range.2 hp, hc⟩)
        obtain ⟨r, _, hr⟩ := one_of (h2'.trans (by omega))
        have := hr _ hp
        unfold one01 at this
        split at this <;> omega
      · rw [List.count_eq_zero.2 hc]; omega
    · subst e
      rcases hb.par x hx with h | ⟨q, hq, hq2⟩
      · subst h; exact hroot hp hy
      · have := once (hb.rng q (List.mem_of_mem_take hq)) hp hq2 hy
        subst this
        exact hnot hq
  · rw [htake]
    rcases List.mem_append.1 hj with h | h
    · rcases hb.par j h with h | ⟨q, hq, hq2⟩
      · exact .inl h
      · exact .inr ⟨q, List.mem_append.2 (.inl hq), hq2⟩
    · exact .inr ⟨B[i], List.mem_append.2 (.inr (List.mem_singleton.2 rfl)), h⟩
  · rw [htake] at hpp
    rcases List.mem_append.1 hpp with h | h
    · exact List.mem_append.2 (.inl (hb.cl p h c hc))
    · rw [List.mem_singleton.1 h] at hc; exact List.mem_append.2 (.inr hc)
theorem bfs_len {N : List Nd} {root : Nat} {B : List Nat} {i : Nat} (hb : Bfs N root B i) : B.length ≤ N.length := by
  have := nodup_sub hb.nd (M := List.range N.length) (fun j hj => List.mem_range.2 (hb.rng j hj))
  simpa using this
theorem sub_in {N : List Nd} {B : List Nat} (hc : ∀ p ∈ B, ∀ c ∈ kidsN N p, c ∈ B) {i : Int} {L : List Nat} {h m : Int} (hs : Sub N i L h m) : (0 ≤ i → i.toNat ∈ B) → ∀ j ∈ L, j ∈ B := by
  induction hs with
  | nil => simp
  | @node k L R a b x y hk _ _ _ _ _ _ _ ih1 ih2 =>
    intro hi j hj
    have hkB : k ∈ B := hi (by omega)
    simp only [List.mem_append, List.mem_singleton] at hj
    rcases hj with (h | rfl) | h
    · exact ih1 (fun h0 => hc k hkB _ (by unfold kidsN kids; rw [if_pos h0]; simp)) j h
    · exact hkB
    · exact ih2 (fun h0 => hc k hkB _ (by unfold kidsN kids; rw [if_pos h0]; simp)) j h
theorem bfs_all {N : List Nd} {root : Nat} {B : List Nat} (hb : Bfs N root B B.length) (hv : validT N root) : B.length = N.length := by
  obtain ⟨L, h, m, hs, hnd, _, hall⟩ := hv
  have h1 := bfs_len hb
  have h2 : ∀ j ∈ L, j ∈ B := sub_in (fun p hp c hc => hb.cl p (by rw [List.take_length]; exact hp) c hc) hs (fun _ => hb.head)
  have h3 := nodup_sub List.nodup_range (M := B) (L := List.range N.length) (fun j hj => h2 j (hall j (List.mem_range.1 hj)))
  simp at h3
  omega
/-- One after the other, and all in order. -/
theorem adj_pairwise (l : List En) (h : ∀ i, (hi : i + 1 < l.length) → enLt l[i] l[i + 1]) : l.Pairwise enLt := by
  rw [List.pairwise_iff_getElem]
  have key : ∀ d i, (hd : i + d + 1 < l.length) → enLt l[i] l[i + d + 1] := by
    intro d
    induction d with
    | zero => intro i hd; exact h i hd
    | succ d ih => intro i hd; exact enLt_trans (ih i (by omega)) (h (i + d + 1) (by omega))
  intro i j hi hj hij
  have := key (j - i - 1) i (by omega)
  simpa [show i + (j - i - 1) + 1 = j by omega] using this
end Go.Proofs.Ytgdcgdjlhljbiaa
