/- Law 47: narrowing comes to an end, and keeps the times. No program in sight. -/
import Derived.Test.YtcppcfinnbeboaaGreatDkB
import Derived.Test.YtcppcfinnbeboaaGreatDjN
namespace Go.Proofs.YtcppcfinnbeboaaGreat

/-! ### Canonical lists of given numbers -/
theorem runs_ex (f : Int → Bool) (b : Int) (hb : b ≤ 4398046511104) : ∀ m : Nat, -4398046511104 ≤ b - m → ∃ r, Canon r ∧ (∀ s ∈ r, b - m ≤ s.1 ∧ s.2 ≤ b) ∧ ∀ y, mem r y = (decide (b - m ≤ y) && decide (y < b) && f y)
  | 0, _ => ⟨[], canon_nil, fun s hs => absurd hs (by simp), fun y => by
      rw [mem_nil]
      by_cases h : b ≤ y
      · rw [decide_eq_false (show ¬ y < b by omega)]; simp
      · rw [decide_eq_false (show ¬ b - ((0 : Nat) : Int) ≤ y by omega)]; simp⟩
  | m + 1, hm => by
    obtain ⟨r, h1, h2, h3⟩ := runs_ex f b hb m (by omega)
    have hout : ∀ y, y < b - m → mem r y = false := fun y hy => by rw [h3, decide_eq_false (show ¬ b - (m : Int) ≤ y by omega)]; rfl
    have hex : ∀ y, y ≠ b - m - 1 → (decide (b - ((m + 1 : Nat) : Int) ≤ y) && decide (y < b) && f y) = (decide (b - (m : Int) ≤ y) && decide (y < b) && f y) := fun y hy => by
      by_cases h : b - (m : Int) ≤ y
      · rw [decide_eq_true h, decide_eq_true (show b - ((m + 1 : Nat) : Int) ≤ y by omega)]
      · rw [decide_eq_false h, decide_eq_false (show ¬ b - ((m + 1 : Nat) : Int) ≤ y by omega)]
    have hat : (decide (b - ((m + 1 : Nat) : Int) ≤ b - m - 1) && decide (b - m - 1 < b) && f (b - m - 1)) = f (b - m - 1) := by
      rw [decide_eq_true (by omega), decide_eq_true (by omega)]; rfl
    cases hf : f (b - m - 1)
    · refine ⟨r, h1, fun s hs => by have := h2 s hs; omega, fun y => ?_⟩
      by_cases hy : y = b - m - 1
      · subst hy; rw [hat, hf]; exact hout _ (by omega)
      · rw [hex y hy]; exact h3 y
    · cases r with
      | nil =>
        refine ⟨[(b - m - 1, b - m)], canon_snoc (l := []) canon_nil (by unfold OkSp; simp only; omega) (by simp), fun s hs => by rw [List.mem_singleton.1 hs]; simp only; omega, fun y => ?_⟩
        rw [mem_cons, mem_nil, Bool.or_false]
        by_cases hy : y = b - m - 1
        · subst hy; rw [hat, hf]; simp only [Bool.and_eq_true, decide_eq_true_eq]; omega
        · rw [hex y hy, ← h3 y, mem_nil]
          rw [Bool.eq_false_iff]
          intro h
          simp only [Bool.and_eq_true, decide_eq_true_eq] at h
          omega
      | cons s r =>
        obtain ⟨s1, s2⟩ := s
        have hs := h2 (s1, s2) (by simp)
        obtain ⟨hok, hgap⟩ := canon_head h1
        unfold OkSp at hok
        simp only at hs hok hgap
        by_cases hs1 : s1 = b - m
        · subst hs1
          refine ⟨(b - m - 1, s2) :: r, ⟨fun t ht => ?_, ?_⟩, fun t ht => ?_, fun y => ?_⟩
          · rcases List.mem_cons.1 ht with rfl | ht
            · unfold OkSp; simp only; omega
            · exact h1.1 t (by simp [ht])
          · exact List.pairwise_cons.2 ⟨hgap, (List.pairwise_cons.1 h1.2).2⟩
          · rcases List.mem_cons.1 ht with rfl | ht
            · simp only; omega
            · have := h2 t (by simp [ht]); omega
          · by_cases hy : y = b - m - 1
            · subst hy
              rw [hat, hf, mem_cons, decide_eq_true (by simp only; omega), decide_eq_true (by simp only; omega)]
              rfl
            · rw [hex y hy, ← h3 y, mem_cons, mem_cons]
              congr 2
              simp only
              rw [decide_eq_decide]
              omega
        · refine ⟨(b - m - 1, b - m) :: (s1, s2) :: r, ⟨fun t ht => ?_, ?_⟩, fun t ht => ?_, fun y => ?_⟩
          · rcases List.mem_cons.1 ht with rfl | ht
            · unfold OkSp; simp only; omega
            · exact h1.1 t ht
          · refine List.pairwise_cons.2 ⟨fun t ht => ?_, h1.2⟩
            rcases List.mem_cons.1 ht with rfl | ht
            · simp only; omega
            · have := hgap t ht; simp only; omega
          · rcases List.mem_cons.1 ht with rfl | ht
            · simp only; omega
            · have := h2 t ht; omega
          · rw [mem_cons]
            by_cases hy : y = b - m - 1
            · subst hy
              rw [hat, hf, decide_eq_true (by simp only; omega), decide_eq_true (by simp only; omega)]
              rfl
            · rw [hex y hy, ← h3 y]
              have : (decide ((b - (m : Int) - 1, b - (m : Int)).1 ≤ y) && decide (y < (b - (m : Int) - 1, b - (m : Int)).2)) = false := by
                rw [Bool.eq_false_iff]
                intro h
                simp only [Bool.and_eq_true, decide_eq_true_eq] at h
                omega
              rw [this, Bool.false_or]
/-! ### The cut -/
theorem mem_near {x : List Sp} (hx : x.all spB = true) {y : Int} (h : mem x y = true) : -1073741824 ≤ y ∧ y < 1073741824 := by
  obtain ⟨s, hs, h1, h2⟩ := mem_iff.1 h
  have := spB_near (List.all_eq_true.1 hx s hs)
  omega
theorem cutD_spec {x : List Sp} (hx : x.all spB = true) (lo hi : Int) : Canon (cutD x lo hi) ∧ ∀ y, mem (cutD x lo hi) y = (mem x y && inB lo hi y) := by
  obtain ⟨N, hN⟩ : ∃ N : Nat, N = 2147483648 := ⟨_, rfl⟩
  obtain ⟨r, h1, _, h3⟩ := runs_ex (fun y => mem x y && inB lo hi y) 1073741824 (by omega) N (by omega)
  have hm : ∀ y, mem r y = (mem x y && inB lo hi y) := fun y => by
    rw [h3 y]
    cases h : mem x y
    · simp
    · have := mem_near hx h
      rw [decide_eq_true (show (1073741824 : Int) - N ≤ y by omega), decide_eq_true this.2]
      rfl
  rw [cutD_eq h1 hm]
  exact ⟨h1, hm⟩
theorem cutC_spec {n : Nat} {M : Mat} {c : Cho} (hc : ChoN (n : Int) c) (hM : Near n 26843545600 M) : Canon (cutC M c) ∧ ∀ y, mem (cutC M c) y = (mem c.2.2 y && inB (loD M c) (hiD M c) y) := by
  obtain ⟨c1, c2, c3, c4, c5, c6, c7⟩ := hc
  unfold cutC
  split
  · exact cutD_spec c7 _ _
  · rename_i ho
    refine ⟨canon_nil, fun y => ?_⟩
    have h1 := hM c.2.1.toNat c.1.toNat (by omega) (by omega)
    have h2 := hM c.1.toNat c.2.1.toNat (by omega) (by omega)
    rw [okSpan_iff] at ho
    have h3 : hiD M c ≤ loD M c := by
      unfold OkSp at ho
      simp only at ho
      have h4 : -4398046511104 ≤ loD M c := by
        unfold loD; split
        · have := h1.2 (by assumption); omega
        · unfold noneD; omega
      have h5 : hiD M c ≤ 4398046511104 := by
        unfold hiD; split
        · have := h2.2 (by assumption); omega
        · unfold noneD; omega
      omega
    rw [mem_nil]
    unfold inB
    symm
    rw [Bool.eq_false_iff]
    intro h
    simp only [Bool.and_eq_true, decide_eq_true_eq] at h
    omega
/-- A canonical part of some spans, between two numbers, has no more spans. -/
theorem canon_part {x r : List Sp} {lo hi : Int} (hr : Canon r) (hm : ∀ y, mem r y = (mem x y && inB lo hi y)) : r.length ≤ x.length := by
  have hst : ∀ j, j < r.length → ∃ i, i < x.length ∧ fr x i ≤ fr r j ∧ fr r j < tt x i := fun j hj => by
    have h1 := hr.1 _ (idx_mem hj)
    unfold OkSp at h1
    simp only at h1
    have h2 : mem r (fr r j) = true := mem_iff.2 ⟨_, idx_mem hj, Int.le_refl _, h1.2.1⟩
    rw [hm, Bool.and_eq_true] at h2
    obtain ⟨s, hs, h3, h4⟩ := mem_iff.1 h2.1
    obtain ⟨i, hi, rfl⟩ := mem_idx hs
    exact ⟨i, hi, h3, h4⟩
  have hinj : ∀ j j' i, j < j' → j' < r.length → i < x.length → fr x i ≤ fr r j → fr r j' < tt x i → False := fun j j' i hjj hj' hi h1 h2 => by
    have g := List.pairwise_iff_getElem.1 hr.2 j j' (by omega) hj' hjj
    rw [sp_at r j (by omega), sp_at r j' hj'] at g
    simp only at g
    have o1 := hr.1 _ (idx_mem (show j < r.length by omega))
    have o2 := hr.1 _ (idx_mem hj')
    unfold OkSp at o1 o2
    simp only at o1 o2
    -- the number just behind the run j is in x and between lo and hi, but in no run
    have a1 : mem r (fr r j) = true := mem_iff.2 ⟨_, idx_mem (show j < r.length by omega), Int.le_refl _, o1.2.1⟩
    have a2 : mem r (fr r j') = true := mem_iff.2 ⟨_, idx_mem hj', Int.le_refl _, o2.2.1⟩
    rw [hm, Bool.and_eq_true] at a1 a2
    have a3 : mem r (tt r j) = true := by
      rw [hm, Bool.and_eq_true]
      refine ⟨mem_iff.2 ⟨_, idx_mem hi, by simp only; omega, by simp only; omega⟩, ?_⟩
      have b1 := a1.2
      have b2 := a2.2
      unfold inB at b1 b2 ⊢
      simp only [Bool.and_eq_true, decide_eq_true_eq] at b1 b2 ⊢
      omega
    obtain ⟨s, hs, h3, h4⟩ := mem_iff.1 a3
    obtain ⟨q, hq, rfl⟩ := mem_idx hs
    simp only at h3 h4
    rcases Nat.lt_trichotomy q j with h5 | h5 | h5
    · have g := List.pairwise_iff_getElem.1 hr.2 q j hq (by omega) h5
      rw [sp_at r q hq, sp_at r j (by omega)] at g
      simp only at g
      omega
    · subst h5; omega
    · have g := List.pairwise_iff_getElem.1 hr.2 j q (by omega) hq h5
      rw [sp_at r j (by omega), sp_at r q hq] at g
      simp only at g
      omega
  let f : Nat → Nat := fun j => if h : ∃ i, i < x.length ∧ fr x i ≤ fr r j ∧ fr r j < tt x i then h.choose else 0
  have hf : ∀ j, j < r.length → f j < x.length ∧ fr x (f j) ≤ fr r j ∧ fr r j < tt x (f j) := fun j hj => by
    have h := hst j hj
    show (if h : ∃ i, i < x.length ∧ fr x i ≤ fr r j ∧ fr r j < tt x i then h.choose else 0) < _ ∧ _
    simp only [f, dif_pos h]
    exact h.choose_spec
  have hnd : ((List.range r.length).map f).Nodup := by
    unfold List.Nodup
    rw [List.pairwise_map]
    refine List.Pairwise.imp_of_mem (R := fun a b => a < b) (fun {a b} ha hb hab e => ?_) List.pairwise_lt_range
    have ha := List.mem_range.1 ha
    have hb := List.mem_range.1 hb
    have fa := hf a ha
    have fb := hf b hb
    rw [← e] at fb
    exact hinj a b (f a) hab hb fa.1 fa.2.1 fb.2.2
  have := nodup_short x.length _ hnd (fun v hv => by
    obtain ⟨j, hj, rfl⟩ := List.mem_map.1 hv
    exact (hf j (List.mem_range.1 hj)).1)
  simpa using this
theorem part_spB {x r : List Sp} (hx : x.all spB = true) (hr : Canon r) (hm : ∀ y, mem r y = true → mem x y = true) : r.all spB = true := by
  rw [List.all_eq_true]
  intro s hs
  have h1 := hr.1 s hs
  unfold OkSp at h1
  have h2 := mem_near hx (hm s.1 (mem_iff.2 ⟨s, hs, Int.le_refl _, h1.2.1⟩))
  have h3 := mem_near hx (hm (s.2 - 1) (mem_iff.2 ⟨s, hs, by omega, by omega⟩))
  unfold spB nearB
  simp only [Bool.and_eq_true, decide_eq_true_eq]
  omega
/-! ### Matrices of the narrowing -/
theorem loH_le (l : List Sp) : ∀ k i, i < k → loH l k ≤ fr l i
  | 0, i, h => absurd h (by omega)
  | k + 1, i, h => by
    show min (loH l k) (fr l k) ≤ _
    rcases Nat.lt_or_ge i k with h1 | h1
    · have := loH_le l k i h1; omega
    · obtain rfl : i = k := by omega
      omega
theorem hiH_ge (l : List Sp) : ∀ k i, i < k → tt l i ≤ hiH l k
  | 0, i, h => absurd h (by omega)
  | k + 1, i, h => by
    show _ ≤ max (hiH l k) (tt l k)
    rcases Nat.lt_or_ge i k with h1 | h1
    · have := hiH_ge l k i h1; omega
    · obtain rfl : i = k := by omega
      omega
theorem hull2_ok {n : Nat} {c : Cho} (h : ChoN (n : Int) c) : (hull2 c).all (bndB (n : Int)) = true := by
  obtain ⟨h1, h2, h3, h4, h5, h6, h7⟩ := h
  have a := loH_near h7 (by omega) _ (Nat.le_refl _)
  have b := hiH_near h7 (by omega) _ (Nat.le_refl _)
  unfold hull2
  simp only [List.all_cons, List.all_nil, Bool.and_true, Bool.and_eq_true]
  exact ⟨bndB_iff.2 ⟨h1, h2, h3, h4, by simp only; omega, by simp only; omega⟩, bndB_iff.2 ⟨h3, h4, h1, h2, by simp only; omega, by simp only; omega⟩⟩
theorem hullsF_ok {n : Nat} {cs : List Cho} (h : ∀ i, i < cs.length → ChoN (n : Int) (cho cs i)) : ∀ k, k ≤ cs.length → (hullsF cs k).all (bndB (n : Int)) = true
  | 0, _ => rfl
  | k + 1, hk => by rw [hullsF, List.all_append, hullsF_ok h k (by omega), hull2_ok (h k (by omega))]; rfl
theorem bnds_near {n : Int} {l : List Bnd} (h : l.all (bndB n) = true) : ∀ i, i < l.length → -1073741824 ≤ (bnd l i).2.2 ∧ (bnd l i).2.2 ≤ 1073741824 := fun i hi => by
  have hb := List.all_eq_true.1 h (bnd l i) (by rw [← bnd_at hi]; exact List.getElem_mem _)
  exact (bndB_iff.1 hb).2.2.2.2
section
variable {n : Nat} {cs : List Cho}
theorem tight_hulls (hn : n ≤ 24) (h : StOk n cs) : tightF n (hullsF cs cs.length) = tightX n (hullsF cs cs.length) := tightF_X hn (bnds_near (hullsF_ok h.2 _ (Nat.le_refl _)))
theorem hulls_near {M : Mat} (h1 : 1 ≤ n) (hn : n ≤ 24) (h : StOk n cs) (hM : tightF n (hullsF cs cs.length) = some M) : Near n 26843545600 M := by
  rw [tight_hulls hn h] at hM
  exact (tightX_some h1 hn (hullsF_ok h.2 _ (Nat.le_refl _)) hM).2.1
/-! ### Times that satisfy all choices -/
def SatN (cs : List Cho) (x : Nat → Int) : Prop := ∀ i, i < cs.length → mem (cho cs i).2.2 (x (cho cs i).2.1.toNat - x (cho cs i).1.toNat) = true
theorem satN_hulls {x : Nat → Int} (hs : SatN cs x) : ∀ k, k ≤ cs.length → SatL (hullsF cs k) x
  | 0, _ => satL_nil x
  | k + 1, hk => by
    rw [hullsF, satL_app]
    refine ⟨satN_hulls hs k (by omega), ?_⟩
    obtain ⟨s, hs, h1, h2⟩ := mem_iff.1 (hs k (by omega))
    obtain ⟨i, hi, rfl⟩ := mem_idx hs
    have h3 := loH_le (cho cs k).2.2 _ i hi
    have h4 := hiH_ge (cho cs k).2.2 _ i hi
    intro b hb
    unfold hull2 at hb
    simp only [List.mem_cons, List.not_mem_nil, or_false] at hb
    rcases hb with rfl | rfl
    · simp only; omega
    · simp only; omega
/-- A time in the spans of a choice is in the cut. -/
theorem satN_cut {M : Mat} {x : Nat → Int} {c : Cho} (hc : ChoN (n : Int) c) (hn : Near n 26843545600 M) (hx : SatM n M x) (h : mem c.2.2 (x c.2.1.toNat - x c.1.toNat) = true) : mem (cutC M c) (x c.2.1.toNat - x c.1.toNat) = true := by
  rw [(cutC_spec hc hn).2, h, Bool.true_and]
  obtain ⟨c1, c2, c3, c4, c5, c6, c7⟩ := hc
  have h1 := hx c.1.toNat c.2.1.toNat (by omega) (by omega)
  have h2 := hx c.2.1.toNat c.1.toNat (by omega) (by omega)
  have h3 := mem_near c7 h
  unfold inB
  simp only [Bool.and_eq_true, decide_eq_true_eq]
  constructor
  · unfold loD; split
    · have := h2 (by assumption); omega
    · unfold noneD; omega
  · unfold hiD; split
    · have := h1 (by assumption); omega
    · unfold noneD; omega
theorem roundTo_all (M : Mat) (j : Nat) (hj : j < cs.length) : cho (roundTo M cs cs.length) j = ((cho cs j).1, (cho cs j).2.1, cutC M (cho cs j)) := by
  rw [roundTo_get M cs _ (Nat.le_refl _), if_pos hj]
theorem okTo_not {M : Mat} {k i : Nat} (h : okTo M cs k = true) (hi : i < k) : cutC M (cho cs i) ≠ [] := fun e => by
  unfold okTo at h
  have := List.all_eq_true.1 h i (List.mem_range.2 hi)
  simp [e] at this
theorem okTo_of {M : Mat} {k : Nat} (h : ∀ i, i < k → cutC M (cho cs i) ≠ []) : okTo M cs k = true := by
  unfold okTo
  rw [List.all_eq_true]
  intro i hi
  simp [h i (List.mem_range.1 hi)]
theorem nextD_some {r : List Cho} {b : Bool} (h : nextD n cs = some (r, b)) : ∃ M, tightF n (hullsF cs cs.length) = some M ∧ okTo M cs cs.length = true ∧ r = roundTo M cs cs.length ∧ b = chTo M cs cs.length := by
  unfold nextD at h
  split at h
  · cases h
  · rename_i M hM
    split at h
    · rename_i hok
      simp only [Option.some.injEq, Prod.mk.injEq] at h
      exact ⟨M, hM, hok, h.1.symm, h.2.symm⟩
    · cases h
theorem next_ok {r : List Cho} {b : Bool} (h1 : 1 ≤ n) (hn : n ≤ 24) (hs : StOk n cs) (h : nextD n cs = some (r, b)) : StOk n r := by
  obtain ⟨M, hM, hok, rfl, _⟩ := nextD_some h
  have hnr := hulls_near h1 hn hs hM
  refine ⟨by rw [roundTo_len]; exact hs.1, fun i hi => ?_⟩
  rw [roundTo_len] at hi
  rw [roundTo_all M i hi]
  have hc := hs.2 i hi
  obtain ⟨k1, k2⟩ := cutC_spec hc hnr
  have h3 := okTo_not hok hi
  obtain ⟨c1, c2, c3, c4, c5, c6, c7⟩ := hc
  have := canon_part k1 k2
  refine ⟨c1, c2, c3, c4, ?_, by simp only; omega, part_spB c7 k1 fun y hy => ?_⟩
  · exact List.length_pos_iff.2 h3
  · rw [k2, Bool.and_eq_true] at hy
    exact hy.1
/-- A round keeps the times. -/
theorem next_keep {x : Nat → Int} (h1 : 1 ≤ n) (hn : n ≤ 24) (hs : StOk n cs) (hx : SatN cs x) : ∃ r b, nextD n cs = some (r, b) ∧ SatN r x := by
  have hl := satN_hulls hx _ (Nat.le_refl _)
  have hall := hullsF_ok hs.2 _ (Nat.le_refl _)
  cases hM : tightX n (hullsF cs cs.length) with
  | none => exact absurd hl (tightX_none hall hM)
  | some M =>
    obtain ⟨t1, t2, t3⟩ := tightX_some h1 hn hall hM
    have hcut : ∀ i, i < cs.length → mem (cutC M (cho cs i)) (x (cho cs i).2.1.toNat - x (cho cs i).1.toNat) = true := fun i hi => satN_cut (hs.2 i hi) t2 ((t3 x).2 hl) (hx i hi)
    have hok : okTo M cs cs.length = true := okTo_of fun i hi e => by
      have := hcut i hi
      rw [e, mem_nil] at this
      cases this
    refine ⟨roundTo M cs cs.length, chTo M cs cs.length, ?_, fun i hi => ?_⟩
    · unfold nextD
      rw [tight_hulls hn hs, hM]
      simp only
      rw [if_pos hok]
    · rw [roundTo_len] at hi
      rw [roundTo_all M i hi]
      exact hcut i hi
theorem next_back {r : List Cho} {b : Bool} (h1 : 1 ≤ n) (hn : n ≤ 24) (hs : StOk n cs) (h : nextD n cs = some (r, b)) : r.length = cs.length ∧ ∀ i, i < cs.length → (cho r i).1 = (cho cs i).1 ∧ (cho r i).2.1 = (cho cs i).2.1 ∧ Canon (cho r i).2.2 ∧ (cho r i).2.2 ≠ [] ∧ ∀ y, mem (cho r i).2.2 y = true → mem (cho cs i).2.2 y = true := by
  obtain ⟨M, hM, hok, rfl, _⟩ := nextD_some h
  have hnr := hulls_near h1 hn hs hM
  refine ⟨roundTo_len _ _ _, fun i hi => ?_⟩
  rw [roundTo_all M i hi]
  obtain ⟨k1, k2⟩ := cutC_spec (hs.2 i hi) hnr
  refine ⟨rfl, rfl, k1, okTo_not hok hi, fun y hy => ?_⟩
  rw [k2, Bool.and_eq_true] at hy
  exact hy.1
theorem chTo_false {M : Mat} {k : Nat} (h : chTo M cs k = false) (i : Nat) (hi : i < k) : cutC M (cho cs i) = (cho cs i).2.2 := by
  apply Classical.byContradiction
  intro h2
  have : chTo M cs k = true := by
    unfold chTo
    rw [List.any_eq_true]
    exact ⟨i, List.mem_range.2 hi, by simp [h2]⟩
  rw [this] at h
  cases h
theorem chTo_true {M : Mat} {k : Nat} (h : chTo M cs k = true) : ∃ i, i < k ∧ cutC M (cho cs i) ≠ (cho cs i).2.2 := by
  unfold chTo at h
  rw [List.any_eq_true] at h
  obtain ⟨i, hi, h2⟩ := h
  exact ⟨i, List.mem_range.1 hi, by simpa using h2⟩
theorem cho_ext {a b : List Cho} (hl : a.length = b.length) (h : ∀ i, i < a.length → cho a i = cho b i) : a = b := by
  refine List.ext_getElem hl fun i h1 h2 => ?_
  rw [cho_at h1, cho_at h2]
  exact h i h1
/-- The round that changes nothing hands back what it was given. -/
theorem next_fix {r : List Cho} (h : nextD n cs = some (r, false)) : r = cs := by
  obtain ⟨M, hM, hok, rfl, hch⟩ := nextD_some h
  refine cho_ext (roundTo_len _ _ _) fun i hi => ?_
  rw [roundTo_len] at hi
  rw [roundTo_all M i hi, chTo_false hch.symm i hi]
end
/-! ### Narrowing ends -/
section
open Classical
noncomputable def cntN (N : Nat) (x : List Sp) : Nat := (List.range N).countP fun i : Nat => mem x ((i : Int) - 1073741824)
noncomputable def muN (N : Nat) (x : List Sp) : Nat := 2 * cntN N x + (if Canon x then 0 else 1)
noncomputable def muC (N : Nat) (cs : List Cho) : Nat := (cs.map fun c => muN N c.2.2).sum
theorem countP_le {α : Type} {p q : α → Bool} : ∀ l : List α, (∀ a ∈ l, p a = true → q a = true) → l.countP p ≤ l.countP q
  | [], _ => Nat.le_refl _
  | a :: l, h => by
    have ih := countP_le l fun b hb => h b (by simp [hb])
    rw [List.countP_cons, List.countP_cons]
    by_cases hp : p a = true
    · rw [if_pos hp, if_pos (h a (by simp) hp)]; omega
    · rw [if_neg hp]; omega
theorem countP_lt {α : Type} {p q : α → Bool} : ∀ l : List α, (∀ a ∈ l, p a = true → q a = true) → (∃ a ∈ l, p a = false ∧ q a = true) → l.countP p < l.countP q
  | [], _, h => by obtain ⟨a, h, _⟩ := h; cases h
  | a :: l, h, ⟨b, hb, h1, h2⟩ => by
    rw [List.countP_cons, List.countP_cons]
    rcases List.mem_cons.1 hb with rfl | hb
    · have ih := countP_le l fun c hc => h c (by simp [hc])
      rw [if_neg (by rw [h1]; decide), if_pos h2]
      omega
    · have ih := countP_lt l (fun c hc => h c (by simp [hc])) ⟨b, hb, h1, h2⟩
      by_cases hp : p a = true
      · rw [if_pos hp, if_pos (h a (by simp) hp)]; omega
      · rw [if_neg hp]; omega
theorem mu_part {N : Nat} (hN : N = 2147483648) {x r : List Sp} (hx : x.all spB = true) (hr : Canon r) (hm : ∀ y, mem r y = true → mem x y = true) : muN N r ≤ muN N x ∧ (r ≠ x → muN N r < muN N x) := by
  have hle : cntN N r ≤ cntN N x := countP_le _ fun i _ h => hm _ h
  have hr0 : (if Canon r then 0 else 1) = 0 := if_pos hr
  unfold muN
  rw [hr0]
  refine ⟨by omega, fun hne => ?_⟩
  by_cases heq : ∀ y, mem r y = mem x y
  · have hx1 : ¬ Canon x := fun hc => hne (canon_ext hr hc heq)
    rw [if_neg hx1]
    omega
  · have : ∃ y, mem r y = false ∧ mem x y = true := by
      apply Classical.byContradiction
      intro h
      apply heq
      intro y
      cases h1 : mem x y
      · rw [Bool.eq_false_iff]
        intro h2
        rw [hm y h2] at h1
        cases h1
      · cases h2 : mem r y
        · exact absurd ⟨y, h2, h1⟩ h
        · rfl
    obtain ⟨y, h1, h2⟩ := this
    have h3 := mem_near hx h2
    have hlt : cntN N r < cntN N x := by
      refine countP_lt _ (fun i _ h => hm _ h) ⟨(y + 1073741824).toNat, List.mem_range.2 (by omega), ?_⟩
      rw [show (((y + 1073741824).toNat : Nat) : Int) - 1073741824 = y from by omega]
      exact ⟨h1, h2⟩
    omega
theorem sum_le {α : Type} {f g : α → Nat} : ∀ a b : List α, a.length = b.length → (∀ i (h1 : i < a.length) (h2 : i < b.length), f a[i] ≤ g b[i]) → (a.map f).sum ≤ (b.map g).sum
  | [], [], _, _ => Nat.le_refl _
  | [], _ :: _, h, _ => by cases h
  | _ :: _, [], h, _ => by cases h
  | x :: a, y :: b, h, hl => by
    have h0 := hl 0 (by simp) (by simp)
    have ih := sum_le a b (by simpa using h) fun i h1 h2 => hl (i + 1) (by simpa using h1) (by simpa using h2)
    simp only [List.map_cons, List.sum_cons]
    simp only [List.getElem_cons_zero] at h0
    omega
theorem sum_lt {α : Type} {f g : α → Nat} : ∀ a b : List α, a.length = b.length → (∀ i (h1 : i < a.length) (h2 : i < b.length), f a[i] ≤ g b[i]) → (∃ i, ∃ (h1 : i < a.length) (h2 : i < b.length), f a[i] < g b[i]) → (a.map f).sum < (b.map g).sum
  | [], [], _, _, h => by obtain ⟨i, h1, _⟩ := h; exact absurd h1 (by simp)
  | [], _ :: _, h, _, _ => by cases h
  | _ :: _, [], h, _, _ => by cases h
  | x :: a, y :: b, h, hl, ⟨i, h1, h2, h3⟩ => by
    have h0 := hl 0 (by simp) (by simp)
    have hl' : ∀ i (h1 : i < a.length) (h2 : i < b.length), f a[i] ≤ g b[i] := fun i h1 h2 => hl (i + 1) (by simpa using h1) (by simpa using h2)
    simp only [List.map_cons, List.sum_cons]
    simp only [List.getElem_cons_zero] at h0
    cases i with
    | zero =>
      have ih := sum_le a b (by simpa using h) hl'
      simp only [List.getElem_cons_zero] at h3
      omega
    | succ i =>
      have ih := sum_lt a b (by simpa using h) hl' ⟨i, by simpa using h1, by simpa using h2, by simpa using h3⟩
      omega
theorem next_mu {N : Nat} (hN : N = 2147483648) {n : Nat} {cs r : List Cho} (h1 : 1 ≤ n) (hn : n ≤ 24) (hs : StOk n cs) (h : nextD n cs = some (r, true)) : muC N r < muC N cs := by
  obtain ⟨hl, hi⟩ := next_back h1 hn hs h
  obtain ⟨M, hM, hok, hr, hch⟩ := nextD_some h
  obtain ⟨i, hil, hne⟩ := chTo_true hch.symm
  unfold muC
  have hpart : ∀ j, j < cs.length → muN N (cho r j).2.2 ≤ muN N (cho cs j).2.2 ∧ ((cho r j).2.2 ≠ (cho cs j).2.2 → muN N (cho r j).2.2 < muN N (cho cs j).2.2) := fun j hj => by
    obtain ⟨_, _, c3, _, c5⟩ := hi j hj
    exact mu_part hN (hs.2 j hj).2.2.2.2.2.2 c3 c5
  refine sum_lt r cs hl (fun j j1 j2 => ?_) ⟨i, by omega, hil, ?_⟩
  · rw [cho_at j1, cho_at j2]
    exact (hpart j j2).1
  · rw [cho_at (by omega), cho_at hil]
    refine (hpart i hil).2 ?_
    rw [hr, roundTo_all M i hil]
    exact hne
theorem nar_ex' {N : Nat} (hN : N = 2147483648) {n : Nat} (h1 : 1 ≤ n) (hn : n ≤ 24) : ∀ (m : Nat) (cs : List Cho), muC N cs ≤ m → StOk n cs → ∃ k r, Nar n k cs r := by
  intro m
  induction m with
  | zero =>
    intro cs hm hs
    cases h : nextD n cs with
    | none => exact ⟨0, none, .fail hs h⟩
    | some p =>
      obtain ⟨r, b⟩ := p
      cases b
      · exact ⟨0, some r, .fix hs h⟩
      · have := next_mu hN h1 hn hs h; omega
  | succ m ih =>
    intro cs hm hs
    cases h : nextD n cs with
    | none => exact ⟨0, none, .fail hs h⟩
    | some p =>
      obtain ⟨r, b⟩ := p
      cases b
      · exact ⟨0, some r, .fix hs h⟩
      · have := next_mu hN h1 hn hs h
        obtain ⟨k, q, hq⟩ := ih r (by omega) (next_ok h1 hn hs h)
        exact ⟨k + 1, q, .step hs h hq⟩
end
section
variable {n : Nat} {cs : List Cho}
/-- Each network that is valid has a run of the narrowing. -/
theorem nar_run (h1 : 1 ≤ n) (hn : n ≤ 24) (hs : StOk n cs) : ∃ k r, Nar n k cs r := nar_ex' rfl h1 hn _ cs (Nat.le_refl _) hs
/-- What is known of the result. -/
structure Part (n : Nat) (cs out : List Cho) : Prop where
  len : out.length = cs.length
  ok : StOk n out
  fix : nextD n out = some (out, false)
  ev : ∀ i, i < cs.length → (cho out i).1 = (cho cs i).1 ∧ (cho out i).2.1 = (cho cs i).2.1
  ne : ∀ i, i < cs.length → (cho out i).2.2 ≠ []
  sub : ∀ i, i < cs.length → ∀ y, mem (cho out i).2.2 y = true → mem (cho cs i).2.2 y = true
theorem nar_part (h1 : 1 ≤ n) (hn : n ≤ 24) {k : Nat} {r : Option (List Cho)} (h : Nar n k cs r) : ∀ out, r = some out → Part n cs out := by
  induction h with
  | fail _ _ => intro out e; cases e
  | fix hs hx =>
    intro out e
    cases e
    have e2 := next_fix hx
    obtain ⟨b1, b2⟩ := next_back h1 hn hs hx
    refine ⟨b1, next_ok h1 hn hs hx, ?_, fun i hi => ⟨(b2 i hi).1, (b2 i hi).2.1⟩, fun i hi => (b2 i hi).2.2.2.1, fun i hi => (b2 i hi).2.2.2.2⟩
    rw [e2] at hx ⊢
    exact hx
  | step hs hx _ ih =>
    intro out e
    obtain ⟨b1, b2⟩ := next_back h1 hn hs hx
    have p := ih out e
    refine ⟨p.len.trans b1, p.ok, p.fix, fun i hi => ?_, fun i hi => p.ne i (by omega), fun i hi y hy => (b2 i hi).2.2.2.2 y (p.sub i (by omega) y hy)⟩
    have q := p.ev i (by omega)
    have q2 := b2 i hi
    exact ⟨q.1.trans q2.1, q.2.trans q2.2.1⟩
theorem nar_keep (h1 : 1 ≤ n) (hn : n ≤ 24) {k : Nat} {r : Option (List Cho)} (h : Nar n k cs r) {x : Nat → Int} : SatN cs x → ∃ out, r = some out ∧ SatN out x := by
  induction h with
  | fail hs hx =>
    intro hsat
    obtain ⟨r, b, h2, _⟩ := next_keep h1 hn hs hsat
    rw [hx] at h2
    cases h2
  | fix hs hx =>
    intro hsat
    obtain ⟨r, b, h2, h3⟩ := next_keep h1 hn hs hsat
    rw [hx] at h2
    cases h2
    exact ⟨_, rfl, h3⟩
  | step hs hx _ ih =>
    intro hsat
    obtain ⟨r, b, h2, h3⟩ := next_keep h1 hn hs hsat
    rw [hx] at h2
    cases h2
    exact ih h3
theorem part_sat {out : List Cho} (h : Part n cs out) {x : Nat → Int} (hx : SatN out x) : SatN cs x := fun i hi => by
  have := hx i (by rw [h.len]; exact hi)
  rw [(h.ev i hi).1, (h.ev i hi).2] at this
  exact h.sub i hi _ this
end
end Go.Proofs.YtcppcfinnbeboaaGreat
