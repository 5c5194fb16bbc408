/- The merge of two canonical lists (the plain loop of RunsS) yields the canonical list of the numbers that its rule keeps. -/
import Derived.Test.YtahpcepnagpbdaaRunsP
namespace Go.Proofs.Ytahpcepnagpbdaa

/-- The ends of a canonical list ascend. -/
theorem endAt_even {l : List Sp} {n : Nat} (hn : n < 2 * l.length) (h2 : n % 2 = 0) : endAt l n = fr l (n / 2) := by rw [endAt, if_neg (by omega), if_pos h2]
theorem endAt_odd {l : List Sp} {n : Nat} (_hn : n < 2 * l.length) (h2 : n % 2 = 1) : endAt l n = tt l (n / 2) := by rw [endAt, if_neg (by omega), if_neg (by omega)]
theorem endAt_step {l : List Sp} (h : validB l = true) {n : Nat} (hn : n < 2 * l.length) : endAt l n < endAt l (n + 1) := by
  have hok := validB_ok h (i := n / 2) (by omega)
  rcases Nat.mod_two_eq_zero_or_one n with h2 | h2
  · rw [endAt_even hn h2, endAt_odd (by omega) (by omega), show (n + 1) / 2 = n / 2 from by omega]; omega
  · rw [endAt_odd hn h2]
    rcases Nat.lt_or_ge (n + 1) (2 * l.length) with h1 | h1
    · rw [endAt_even h1 (by omega), show (n + 1) / 2 = n / 2 + 1 from by omega]
      exact validB_gap h (by omega)
    · rw [show n + 1 = 2 * l.length from by omega, endAt_top]; omega
theorem endAt_mono {l : List Sp} (h : validB l = true) : ∀ (d n : Nat), n + d ≤ 2 * l.length → endAt l n ≤ endAt l (n + d)
  | 0, n, _ => Int.le_refl _
  | d + 1, n, hn => by
    have h1 := endAt_mono h d n (by omega)
    have h2 := endAt_step h (n := n + d) (by omega)
    rw [show n + (d + 1) = n + d + 1 from by omega]
    omega
theorem endAt_le {l : List Sp} (h : validB l = true) {n m : Nat} (hnm : n ≤ m) (hm : m ≤ 2 * l.length) : endAt l n ≤ endAt l m := by
  have := endAt_mono h (m - n) n (by omega)
  rwa [show n + (m - n) = m from by omega] at this
/-- Between two neighbouring ends a number is in the list if the ends behind it are odd in number. -/
theorem mem_between {l : List Sp} (h : validB l = true) {n : Nat} (hn : n ≤ 2 * l.length) {x : Int} (h1 : 0 < n → endAt l (n - 1) ≤ x) (h2 : x < endAt l n) : mem l x = ((n : Int) % 2 == 1) := by
  rcases Nat.mod_two_eq_zero_or_one n with hp | hp
  · have hr : (((n : Int) % 2 == 1) = false) := by rw [beq_eq_false_iff_ne]; omega
    rw [hr]
    cases hm : mem l x
    · rfl
    · obtain ⟨s, hs, ha, hb⟩ := mem_iff.1 hm
      obtain ⟨i, hi, rfl⟩ := mem_idx hs
      simp only at ha hb
      exfalso
      rcases Nat.lt_or_ge (2 * i) n with hlt | hge
      · have e1 : endAt l (2 * i + 1) = tt l i := by rw [endAt_odd (by omega) (by omega), show (2 * i + 1) / 2 = i from by omega]
        have := endAt_le h (n := 2 * i + 1) (m := n - 1) (by omega) (by omega)
        have := h1 (by omega)
        omega
      · have e1 : endAt l (2 * i) = fr l i := by rw [endAt_even (by omega) (by omega), show (2 * i) / 2 = i from by omega]
        have := endAt_le h (n := n) (m := 2 * i) (by omega) (by omega)
        omega
  · have hr : (((n : Int) % 2 == 1) = true) := by rw [beq_iff_eq]; omega
    rw [hr, mem_iff]
    refine ⟨_, idx_mem (l := l) (i := n / 2) (by omega), ?_, ?_⟩
    · have := h1 (by omega)
      rw [endAt_even (by omega) (by omega), show (n - 1) / 2 = n / 2 from by omega] at this
      exact this
    · rwa [endAt_odd (by omega) hp] at h2

def IsOp (g : Bool → Bool → Bool) (a b r : List Sp) : Prop := Canon r ∧ ∀ x, mem r x = g (mem a x) (mem b x)
theorem isOp_unique {g : Bool → Bool → Bool} {a b r r' : List Sp} (h : IsOp g a b r) (h' : IsOp g a b r') : r = r' :=
  canon_ext h.1 h'.1 fun x => (h.2 x).trans (h'.2 x).symm

/-- The merge's invariant: q is where it stands (the last end that was passed). -/
structure MInv (g : Bool → Bool → Bool) (a b : List Sp) (s : CS) (q : Int) : Prop where
  i : s.i ≤ 2 * a.length
  k : s.k ≤ 2 * b.length
  pa : 0 < s.i → endAt a (s.i - 1) ≤ q
  pb : 0 < s.k → endAt b (s.k - 1) ≤ q
  na : q < endAt a s.i
  nb : q < endAt b s.k
  ins : s.ins = g ((s.i : Int) % 2 == 1) ((s.k : Int) % 2 == 1)
  canon : Canon s.out
  frm : s.ins = true → -4398046511104 ≤ s.frm ∧ s.frm ≤ q ∧ ∀ t ∈ s.out, t.2 < s.frm
  to : ∀ t ∈ s.out, t.2 ≤ q
  num : ∀ x, x < cAt a b s → (mem s.out x || (s.ins && decide (s.frm ≤ x))) = g (mem a x) (mem b x)

theorem mInv_start {g : Bool → Bool → Bool} (h0 : g false false = false) {a b : List Sp} (ha : validB a = true) (hb : validB b = true) : MInv g a b cStart (-4398046511105) := by
  have ea := endAt_bd ha (n := 0) (by omega)
  have eb := endAt_bd hb (n := 0) (by omega)
  refine ⟨by simp [cStart], by simp [cStart], by simp [cStart], by simp [cStart], by simp [cStart]; omega, by simp [cStart]; omega, by simp [cStart, h0], canon_nil, by simp [cStart], by simp [cStart], fun x hx => ?_⟩
  have hx1 : x < endAt a 0 ∧ x < endAt b 0 := by unfold cAt cStart at hx; simp only at hx; omega
  rw [mem_between ha (n := 0) (by omega) (by simp) hx1.1, mem_between hb (n := 0) (by omega) (by simp) hx1.2]
  simp [cStart, mem_nil, h0]

theorem mInv_step {g : Bool → Bool → Bool} {a b : List Sp} (ha : validB a = true) (hb : validB b = true) {s : CS} {q : Int} (h : MInv g a b s q) (hon : cOn a b s) :
    MInv g a b (cStep g a b s) (cAt a b s) := by
  have hA := endAt_bd ha h.i
  have hB := endAt_bd hb h.k
  have hAl := fun h => endAt_lt ha (n := s.i) h
  have hBl := fun h => endAt_lt hb (n := s.k) h
  have tA : s.i = 2 * a.length → endAt a s.i = 8796093022208 := fun h => by rw [h]; exact endAt_top a
  have tB : s.k = 2 * b.length → endAt b s.k = 8796093022208 := fun h => by rw [h]; exact endAt_top b
  have hi := h.i
  have hk := h.k
  have hm : cAt a b s ≤ endAt a s.i ∧ cAt a b s ≤ endAt b s.k ∧ (cAt a b s = endAt a s.i ∨ cAt a b s = endAt b s.k) := by
    unfold cAt; omega
  have hq : q < cAt a b s := by have := h.na; have := h.nb; unfold cAt; omega
  have hat : cAt a b s ≤ 4398046511104 ∧ -4398046511104 ≤ cAt a b s := by unfold cOn at hon; omega
  have ei : (cStep g a b s).i = nI a b s := rfl
  have ek : (cStep g a b s).k = nK a b s := rfl
  have hI : nI a b s ≤ 2 * a.length ∧ (0 < nI a b s → endAt a (nI a b s - 1) ≤ cAt a b s) ∧ cAt a b s < endAt a (nI a b s) := by
    unfold nI
    split
    · rename_i he
      have hlt : s.i < 2 * a.length := by omega
      refine ⟨by omega, fun _ => by rw [Nat.add_sub_cancel]; omega, ?_⟩
      have := endAt_step ha hlt
      omega
    · rename_i he
      refine ⟨hi, fun h0 => ?_, by omega⟩
      have := h.pa h0; omega
  have hK : nK a b s ≤ 2 * b.length ∧ (0 < nK a b s → endAt b (nK a b s - 1) ≤ cAt a b s) ∧ cAt a b s < endAt b (nK a b s) := by
    unfold nK
    split
    · rename_i he
      have hlt : s.k < 2 * b.length := by omega
      refine ⟨by omega, fun _ => by rw [Nat.add_sub_cancel]; omega, ?_⟩
      have := endAt_step hb hlt
      omega
    · rename_i he
      refine ⟨hk, fun h0 => ?_, by omega⟩
      have := h.pb h0; omega
  have hins : (cStep g a b s).ins = nW g a b s := rfl
  have hfrm : (cStep g a b s).frm = if nW g a b s = s.ins then s.frm else cAt a b s := rfl
  have hout : (cStep g a b s).out = if nW g a b s = s.ins then s.out else if s.ins then s.out ++ [(s.frm, cAt a b s)] else s.out := rfl
  have hmore : ∀ x, cAt a b s ≤ x → x < cAt a b (cStep g a b s) → g (mem a x) (mem b x) = nW g a b s := by
    intro x h1 h2
    have h3 : x < endAt a (nI a b s) ∧ x < endAt b (nK a b s) := by unfold cAt at h2; rw [ei, ek] at h2; omega
    rw [mem_between ha hI.1 (fun h0 => by have := hI.2.1 h0; omega) h3.1, mem_between hb hK.1 (fun h0 => by have := hK.2.1 h0; omega) h3.2]
    rfl
  have hold := h.num
  have hto := h.to
  have hf := h.frm
  have hc := h.canon
  have hafter : ∀ x, cAt a b s ≤ x → mem s.out x = false := by
    intro x hx
    cases hmx : mem s.out x
    · rfl
    · obtain ⟨t, ht, _, h2⟩ := mem_iff.1 hmx
      have := hto t ht
      omega
  generalize hcs : cStep g a b s = s' at *
  cases hw : nW g a b s <;> cases hin : s.ins <;> simp only [hw, hin, if_true, if_false, reduceCtorEq, Bool.false_eq_true] at hins hfrm hout hmore hf hold
  · -- false, false
    refine ⟨by rw [ei]; exact hI.1, by rw [ek]; exact hK.1, by rw [ei]; exact hI.2.1, by rw [ek]; exact hK.2.1, by rw [ei]; exact hI.2.2, by rw [ek]; exact hK.2.2, by rw [hins, ei, ek]; exact hw.symm, by rw [hout]; exact hc, by rw [hins]; simp, ?_, ?_⟩
    · rw [hout]; intro t ht; have := hto t ht; omega
    · intro x hx
      rw [hout, hins]
      rcases Int.lt_or_le x (cAt a b s) with h1 | h1
      · have := hold x h1; simpa using this
      · rw [hmore x h1 hx, hafter x h1]; rfl
  · -- false, true : a span is closed
    obtain ⟨f1, f2, f3⟩ := hf trivial
    refine ⟨by rw [ei]; exact hI.1, by rw [ek]; exact hK.1, by rw [ei]; exact hI.2.1, by rw [ek]; exact hK.2.1, by rw [ei]; exact hI.2.2, by rw [ek]; exact hK.2.2, by rw [hins, ei, ek]; exact hw.symm, ?_, by rw [hins]; simp, ?_, ?_⟩
    · rw [hout]; exact canon_snoc hc ⟨f1, by show s.frm < cAt a b s; omega, hat.1⟩ f3
    · rw [hout]; intro t ht
      rcases List.mem_append.1 ht with h1 | h1
      · have := hto t h1; omega
      · rw [List.mem_singleton.1 h1]; exact Int.le_refl _
    · intro x hx
      rw [hout, hins, mem_append]
      rcases Int.lt_or_le x (cAt a b s) with h1 | h1
      · have := hold x h1
        rw [← this]
        simp [mem, h1]
      · rw [hmore x h1 hx, hafter x h1]; simp [mem]; omega
  · -- true, false : a span is opened
    refine ⟨by rw [ei]; exact hI.1, by rw [ek]; exact hK.1, by rw [ei]; exact hI.2.1, by rw [ek]; exact hK.2.1, by rw [ei]; exact hI.2.2, by rw [ek]; exact hK.2.2, by rw [hins, ei, ek]; exact hw.symm, by rw [hout]; exact hc, ?_, ?_, ?_⟩
    · intro _
      rw [hfrm, hout]
      exact ⟨hat.2, Int.le_refl _, fun t ht => by have := hto t ht; omega⟩
    · rw [hout]; intro t ht; have := hto t ht; omega
    · intro x hx
      rw [hout, hins, hfrm]
      rcases Int.lt_or_le x (cAt a b s) with h1 | h1
      · have := hold x h1
        rw [← this]; simp; omega
      · rw [hmore x h1 hx]; simp [h1]
  · -- true, true
    obtain ⟨f1, f2, f3⟩ := hf trivial
    refine ⟨by rw [ei]; exact hI.1, by rw [ek]; exact hK.1, by rw [ei]; exact hI.2.1, by rw [ek]; exact hK.2.1, by rw [ei]; exact hI.2.2, by rw [ek]; exact hK.2.2, by rw [hins, ei, ek]; exact hw.symm, by rw [hout]; exact hc, ?_, ?_, ?_⟩
    · intro _
      rw [hfrm, hout]
      exact ⟨f1, by omega, f3⟩
    · rw [hout]; intro t ht; have := hto t ht; omega
    · intro x hx
      rw [hout, hins, hfrm]
      rcases Int.lt_or_le x (cAt a b s) with h1 | h1
      · exact hold x h1
      · rw [hmore x h1 hx]; simp; right; omega

theorem cIter_mono (g : Bool → Bool → Bool) (a b : List Sp) : ∀ (d m : Nat), (cIter g a b m).i ≤ (cIter g a b (m + d)).i ∧ (cIter g a b m).k ≤ (cIter g a b (m + d)).k
  | 0, m => ⟨Nat.le_refl _, Nat.le_refl _⟩
  | d + 1, m => by
    have h1 := cIter_mono g a b d m
    have h2 : (cIter g a b (m + (d + 1))) = cStep g a b (cIter g a b (m + d)) := rfl
    have h3 : (cIter g a b (m + d)).i ≤ (cStep g a b (cIter g a b (m + d))).i := by show _ ≤ nI _ _ _; unfold nI; split <;> omega
    have h4 : (cIter g a b (m + d)).k ≤ (cStep g a b (cIter g a b (m + d))).k := by show _ ≤ nK _ _ _; unfold nK; split <;> omega
    rw [h2]; omega

theorem mInv_iter {g : Bool → Bool → Bool} (h0 : g false false = false) {a b : List Sp} (ha : validB a = true) (hb : validB b = true) {m : Nat} (hm : (cIter g a b m).i ≤ 2 * a.length ∧ (cIter g a b m).k ≤ 2 * b.length) :
    ∀ j, j ≤ m → ∃ q, MInv g a b (cIter g a b j) q
  | 0, _ => ⟨_, mInv_start h0 ha hb⟩
  | j + 1, hj => by
    obtain ⟨q, hq⟩ := mInv_iter h0 ha hb hm j (by omega)
    have hon : cOn a b (cIter g a b j) := by
      have h1 := hq.i
      have h2 := hq.k
      rcases Nat.lt_or_ge (cIter g a b j).i (2 * a.length) with h3 | h3
      · exact .inl h3
      rcases Nat.lt_or_ge (cIter g a b j).k (2 * b.length) with h4 | h4
      · exact .inr h4
      exfalso
      have hI : (cIter g a b (j + 1)).i = 2 * a.length + 1 := by
        show nI a b (cIter g a b j) = _
        unfold nI cAt
        rw [show (cIter g a b j).i = 2 * a.length from by omega, show (cIter g a b j).k = 2 * b.length from by omega, endAt_top, endAt_top]
        rfl
      have := (cIter_mono g a b (m - (j + 1)) (j + 1)).1
      rw [show j + 1 + (m - (j + 1)) = m from by omega] at this
      omega
    exact ⟨_, mInv_step ha hb hq hon⟩

theorem merge_isOp {g : Bool → Bool → Bool} (h0 : g false false = false) {a b : List Sp} (ha : validB a = true) (hb : validB b = true) {m : Nat} (hm : CInv a b (cIter g a b m)) (hoff : ¬ cOn a b (cIter g a b m)) :
    IsOp g a b (cIter g a b m).out := by
  obtain ⟨q, hq⟩ := mInv_iter h0 ha hb ⟨hm.i, hm.k⟩ m (Nat.le_refl _)
  generalize cIter g a b m = s at *
  have hi := hm.i
  have hk := hm.k
  unfold cOn at hoff
  have ei : s.i = 2 * a.length := by omega
  have ek : s.k = 2 * b.length := by omega
  have hins : s.ins = false := by
    rw [hq.ins, ei, ek]
    have e1 : ((((2 * a.length : Nat) : Int)) % 2 == 1) = false := by rw [beq_eq_false_iff_ne]; omega
    have e2 : ((((2 * b.length : Nat) : Int)) % 2 == 1) = false := by rw [beq_eq_false_iff_ne]; omega
    rw [e1, e2, h0]
  have hat : cAt a b s = 8796093022208 := by unfold cAt; rw [ei, ek, endAt_top, endAt_top]; rfl
  refine ⟨hq.canon, fun x => ?_⟩
  have big : ∀ (l : List Sp), Canon l → 8796093022208 ≤ x → mem l x = false := by
    intro l hl hx
    cases hmx : mem l x
    · rfl
    · obtain ⟨t, ht, _, h2⟩ := mem_iff.1 hmx
      have := hl.1 t ht
      unfold OkSp at this
      omega
  rcases Int.lt_or_le x 8796093022208 with h1 | h1
  · have := hq.num x (by rw [hat]; exact h1)
    rw [hins] at this
    simpa using this
  · rw [big _ hq.canon h1, big _ ((validB_iff a).1 ha).2 h1, big _ ((validB_iff b).1 hb).2 h1, h0]
end Go.Proofs.Ytahpcepnagpbdaa
