/- The facts of Depth add up to the depth at each point; the reference's way to them. Plain laws. -/
import Derived.Test.YtahpcepnagpbdaaDepP
import Derived.Test.YtahpcepnagpbdaaFewP
namespace Go.Proofs.Ytahpcepnagpbdaa

def sumAt : List Dep → Int → Int
  | [], _ => 0
  | f :: F, x => (if f.2.1 ≤ x ∧ x < f.2.2 then f.1 else 0) + sumAt F x
theorem sumAt_append (F G : List Dep) (x : Int) : sumAt (F ++ G) x = sumAt F x + sumAt G x := by
  induction F with
  | nil => simp [sumAt]
  | cons f F ih => simp only [List.cons_append, sumAt, ih]; omega
theorem sumAt_out {F : List Dep} {x : Int} (h : ∀ f ∈ F, f.2.2 ≤ x) : sumAt F x = 0 := by
  induction F with
  | nil => rfl
  | cons f F ih =>
    have h1 := h f (by simp)
    rw [sumAt, if_neg (by omega), ih (fun g hg => h g (by simp [hg]))]; rfl
theorem sumAt_one (n f t x : Int) : sumAt [(n, (f, t))] x = if f ≤ x ∧ x < t then n else 0 := by simp [sumAt]
theorem atS_const {l : List Sp} {x q : Int} (h : ∀ s ∈ l, (s.1 ≤ x ↔ s.1 ≤ q) ∧ (x < s.2 ↔ q < s.2)) : atS l x = atS l q := by
  induction l with
  | nil => rfl
  | cons s l ih =>
    obtain ⟨h1, h2⟩ := h s (by simp)
    rw [atS, atS, ih (fun s hs => h s (by simp [hs]))]
    simp only [h1, h2]
theorem atS_zero {l : List Sp} {x : Int} (h : ∀ s ∈ l, ¬ (s.1 ≤ x ∧ x < s.2)) : atS l x = 0 := by
  induction l with
  | nil => rfl
  | cons s l ih => rw [atS, if_neg (h s (by simp)), ih (fun s hs => h s (by simp [hs]))]; rfl
structure DOk (l : List Sp) (E : List Int) (p : Int) (st : DSt) : Prop where
  to : ∀ f ∈ st.out, f.2.2 ≤ st.frm
  pos : ∀ f ∈ st.out, 0 < f.1 ∧ f.2.1 < f.2.2 ∧ f.2.1 ∈ E ∧ f.2.2 ∈ E
  fr : st.out ≠ [] ∨ st.depth ≠ 0 → st.frm ≤ p
  fE : st.depth ≠ 0 → st.frm ∈ E
  dep : st.depth = atS l p
  sum : ∀ x, x ≤ p → sumAt st.out x + (if st.frm ≤ x then st.depth else 0) = atS l x
theorem dOk_all (l : List Sp) : ∀ (E : List Int) (p : Int) (rest : List Int), Asc (E ++ [p] ++ rest) → (∀ s ∈ l, s.1 ∈ E ++ [p] ++ rest ∧ s.2 ∈ E ++ [p] ++ rest) → DOk l (E ++ [p]) p (dRun l (E ++ [p])) := by
  refine snocRec ?_ ?_
  · intro p rest hA hE
    have hlow : ∀ y ∈ ([] ++ [p] ++ rest : List Int), p ≤ y := fun y hy => by
      rw [List.nil_append, List.singleton_append] at hy hA
      rcases List.mem_cons.1 hy with rfl | hy
      · exact Int.le_refl _
      · have := (List.pairwise_cons.1 hA).1 y hy; omega
    have hz : ∀ x, x < p → atS l x = 0 := fun x hx => atS_zero fun s hs => by have := hlow _ (hE s hs).1; omega
    show DOk l [p] p (dStep l ⟨[], 0, 0⟩ p)
    rw [dStep]
    split
    · rename_i h
      refine ⟨by simp, by simp, fun h => by simp at h, fun h => absurd rfl h, h.symm, fun x hx => ?_⟩
      rcases Int.lt_or_eq_of_le hx with h1 | h1
      · rw [hz x h1]; simp [sumAt]
      · rw [h1, h]; simp [sumAt]
    · refine ⟨by simp, by simp, fun _ => Int.le_refl _, fun _ => by simp, rfl, fun x hx => ?_⟩
      simp only [if_neg (show ¬ (0 : Int) < 0 by omega), sumAt]
      rcases Int.lt_or_eq_of_le hx with h1 | h1
      · rw [hz x h1, if_neg (by omega)]; rfl
      · rw [h1, if_pos (Int.le_refl _)]; omega
  · intro E q ih p rest hA hE
    have hA' : Asc (E ++ [q] ++ (p :: rest)) := by rw [show E ++ [q] ++ (p :: rest) = E ++ [q] ++ [p] ++ rest from by simp]; exact hA
    have hE' : ∀ s ∈ l, s.1 ∈ E ++ [q] ++ (p :: rest) ∧ s.2 ∈ E ++ [q] ++ (p :: rest) := fun s hs => by rw [show E ++ [q] ++ (p :: rest) = E ++ [q] ++ [p] ++ rest from by simp]; exact hE s hs
    obtain ⟨h1, h2, h3, h4, h5, h6⟩ := ih q (p :: rest) hA' hE'
    have hpw := List.pairwise_append.1 hA'
    have hqp : q < p := hpw.2.2 q (by simp) p (by simp)
    have hgap : ∀ y ∈ E ++ [q] ++ (p :: rest), y ≤ q ∨ p ≤ y := fun y hy => by
      rcases List.mem_append.1 hy with hy | hy
      · rcases List.mem_append.1 hy with hy | hy
        · have := (List.pairwise_append.1 hpw.1).2.2 y hy q (by simp); omega
        · rw [List.mem_singleton.1 hy]; exact .inl (Int.le_refl _)
      · rcases List.mem_cons.1 hy with rfl | hy
        · exact .inr (Int.le_refl _)
        · have := (List.pairwise_cons.1 hpw.2.1).1 y hy; omega
    have hc : ∀ x, q ≤ x → x < p → atS l x = atS l q := fun x hx hx2 => atS_const fun s hs => by
      have e1 := hgap _ (hE' s hs).1
      have e2 := hgap _ (hE' s hs).2
      omega
    have hnn := (atS_nonneg l q).1
    generalize hst : dRun l (E ++ [q]) = st at *
    have hout : ∀ x, q ≤ x → sumAt st.out x = 0 := fun x hx => by
      cases ho : st.out with
      | nil => rfl
      | cons f F =>
        have := h3 (.inl (by rw [ho]; simp))
        rw [← ho]
        exact sumAt_out fun f hf => by have := h1 f hf; omega
    rw [dRun_snoc, hst, dStep]
    split
    · rename_i hd
      refine ⟨h1, fun f hf => ?_, fun h => by have := h3 h; omega, fun h => List.mem_append.2 (.inl (h4 h)), hd.symm, fun x hx => ?_⟩
      · obtain ⟨a1, a2, a3, a4⟩ := h2 f hf
        exact ⟨a1, a2, List.mem_append.2 (.inl a3), List.mem_append.2 (.inl a4)⟩
      · by_cases hxq : x ≤ q
        · exact h6 x hxq
        · rw [hout x (by omega)]
          by_cases hz : st.depth = 0
          · rw [hz]
            have : atS l x = 0 := by
              rcases Int.lt_or_eq_of_le hx with e | e
              · rw [hc x (by omega) e, ← h5, hz]
              · rw [e, hd, hz]
            rw [this]; split <;> rfl
          · have := h3 (.inr hz)
            rw [if_pos (by omega)]
            rcases Int.lt_or_eq_of_le hx with e | e
            · rw [hc x (by omega) e, ← h5]; omega
            · rw [e, hd]; omega
    · rename_i hd
      have hpos : 0 ≤ st.depth := by rw [h5]; exact hnn
      refine ⟨fun f hf => ?_, fun f hf => ?_, fun _ => Int.le_refl _, fun _ => by simp, rfl, fun x hx => ?_⟩
      · show f.2.2 ≤ p
        revert hf; dsimp only; split
        · intro hf
          rcases List.mem_append.1 hf with hf | hf
          · have := h1 f hf; have := h3 (.inl (List.ne_nil_of_mem hf)); omega
          · rw [List.mem_singleton.1 hf]; exact Int.le_refl _
        · intro hf
          have := h1 f hf; have := h3 (.inl (List.ne_nil_of_mem hf)); omega
      · have old : ∀ f ∈ st.out, 0 < f.1 ∧ f.2.1 < f.2.2 ∧ f.2.1 ∈ E ++ [q] ++ [p] ∧ f.2.2 ∈ E ++ [q] ++ [p] := fun f hf => by
          obtain ⟨a1, a2, a3, a4⟩ := h2 f hf
          exact ⟨a1, a2, List.mem_append.2 (.inl a3), List.mem_append.2 (.inl a4)⟩
        revert hf; dsimp only; split
        · rename_i h0
          intro hf
          rcases List.mem_append.1 hf with hf | hf
          · exact old f hf
          · rw [List.mem_singleton.1 hf]
            have e1 := h3 (.inr (by omega))
            exact ⟨h0, by show st.frm < p; omega, List.mem_append.2 (.inl (h4 (by omega))), by simp⟩
        · exact old f
      · dsimp only
        by_cases h0 : 0 < st.depth
        · rw [if_pos h0, sumAt_append, sumAt_one]
          have e1 := h3 (.inr (by omega))
          by_cases hxq : x ≤ q
          · have := h6 x hxq
            rw [if_neg (show ¬ p ≤ x by omega)]
            by_cases hf : st.frm ≤ x
            · rw [if_pos ⟨hf, by omega⟩]; rw [if_pos hf] at this; omega
            · rw [if_neg (by omega)]; rw [if_neg hf] at this; omega
          · rw [hout x (by omega)]
            rcases Int.lt_or_eq_of_le hx with e | e
            · rw [if_pos ⟨by omega, e⟩, if_neg (by omega), hc x (by omega) e, ← h5]; omega
            · rw [if_neg (by omega), if_pos (by omega), e]; omega
        · rw [if_neg h0]
          have hz : st.depth = 0 := by omega
          by_cases hxq : x ≤ q
          · have := h6 x hxq
            rw [hz] at this
            rw [if_neg (show ¬ p ≤ x by omega)]
            revert this; split <;> (intro this; omega)
          · rw [hout x (by omega)]
            rcases Int.lt_or_eq_of_le hx with e | e
            · rw [if_neg (by omega), hc x (by omega) e, ← h5, hz]; rfl
            · rw [if_pos (by omega), e]; omega
theorem dep_sum {l : List Sp} {F : List Dep} (hok : ∀ s ∈ l, s.1 < s.2) (h : DepRes l F) : (∀ x, sumAt F x = atS l x) ∧ ∀ f ∈ F, 0 < f.1 ∧ f.2.1 < f.2.2 ∧ (∃ s ∈ l, f.2.1 = s.1 ∨ f.2.1 = s.2) ∧ (∃ s ∈ l, f.2.2 = s.1 ∨ f.2.2 = s.2) := by
  obtain ⟨E, hE, rfl⟩ := h
  have hin : ∀ s ∈ l, s.1 ∈ E ∧ s.2 ∈ E := fun s hs => ⟨(hE.mem _).2 ⟨s, hs, .inl rfl⟩, (hE.mem _).2 ⟨s, hs, .inr rfl⟩⟩
  rcases List.eq_nil_or_concat E with rfl | ⟨E', p, rfl⟩
  · have hl : l = [] := by
      cases l with
      | nil => rfl
      | cons s l => exact absurd (hin s (by simp)).1 (by simp)
    subst hl
    exact ⟨fun x => rfl, fun f hf => by simp [dRun] at hf⟩
  · rw [List.concat_eq_append] at *
    have h0 := dRun_end hok hE
    obtain ⟨h1, h2, h3, h4, h5, h6⟩ := dOk_all l E' p [] (by rw [List.append_nil]; exact hE.asc) (fun s hs => by rw [List.append_nil]; exact hin s hs)
    refine ⟨fun x => ?_, fun f hf => ?_⟩
    · by_cases hx : x ≤ p
      · have := h6 x hx
        rw [h0] at this
        revert this; split <;> (intro this; omega)
      · have e1 : sumAt (dRun l (E' ++ [p])).out x = 0 := by
          cases ho : (dRun l (E' ++ [p])).out with
          | nil => rfl
          | cons f F =>
            have := h3 (.inl (by rw [ho]; simp))
            rw [← ho]
            exact sumAt_out fun f hf => by have := h1 f hf; omega
        rw [e1, atS_zero fun s hs => ?_]
        have hle : ∀ y ∈ E' ++ [p], y ≤ p := fun y hy => by
          rcases List.mem_append.1 hy with hy | hy
          · have := (List.pairwise_append.1 hE.asc).2.2 y hy p (by simp); omega
          · rw [List.mem_singleton.1 hy]; exact Int.le_refl _
        have := hle _ (hin s hs).2
        omega
    · obtain ⟨a1, a2, a3, a4⟩ := h2 f hf
      exact ⟨a1, a2, (hE.mem _).1 a3, (hE.mem _).1 a4⟩

/-- The reference's facts behind i pairs of ends. -/
def refL (l : List Sp) (E : List Int) (i : Nat) : List Dep := (dRun l (E.take i)).out ++ (if 0 < (dRun l (E.take i)).depth then [((dRun l (E.take i)).depth, ((dRun l (E.take i)).frm, iv E i))] else [])
theorem refL_zero (l : List Sp) (E : List Int) : refL l E 0 = [] := by simp [refL, dRun]
theorem take_iv {E : List Int} {i : Nat} (hi : i < E.length) : E.take (i + 1) = E.take i ++ [iv E i] := by rw [List.take_succ_eq_append_getElem hi, iv_at hi]
def RefCase (n : Int) (p q : Int) (R R' : List Dep) : Prop :=
  (n = 0 ∧ R' = R) ∨ (n ≠ 0 ∧ ∃ R0 f, R = R0 ++ [(n, (f, p))] ∧ R' = R0 ++ [(n, (f, q))]) ∨ (n ≠ 0 ∧ R' = R ++ [(n, (p, q))] ∧ (R = [] ∨ ∃ R0 n' f' t', R = R0 ++ [(n', (f', t'))] ∧ (n' ≠ n ∨ t' ≠ p)))
theorem ref_step {l : List Sp} {E : List Int} (hE : IsEnds l E) {i : Nat} (hi : i + 1 < E.length) : RefCase (atS l (iv E i)) (iv E i) (iv E (i + 1)) (refL l E i) (refL l E (i + 1)) := by
  have hnn := (atS_nonneg l (iv E i)).1
  have hin : ∀ s ∈ l, s.1 ∈ E ∧ s.2 ∈ E := fun s hs => ⟨(hE.mem _).2 ⟨s, hs, .inl rfl⟩, (hE.mem _).2 ⟨s, hs, .inr rfl⟩⟩
  have hlast : (dRun l (E.take i)).out ≠ [] → (dRun l (E.take i)).frm < iv E i ∧ ∀ f ∈ (dRun l (E.take i)).out, f.2.2 ≤ (dRun l (E.take i)).frm := fun hne => by
    rcases Nat.eq_zero_or_pos i with rfl | hp
    · exact absurd rfl hne
    · obtain ⟨j, rfl⟩ : ∃ j, i = j + 1 := ⟨i - 1, by omega⟩
      have hsplit : E = E.take j ++ [iv E j] ++ E.drop (j + 1) := by rw [← take_iv (by omega), List.take_append_drop]
      have hd := dOk_all l (E.take j) (iv E j) (E.drop (j + 1)) (by rw [← hsplit]; exact hE.asc) (fun s hs => by rw [← hsplit]; exact hin s hs)
      rw [← take_iv (by omega)] at hd
      have h1 := hd.fr (.inl hne)
      have h2 := asc_lt hE.asc (show j < j + 1 by omega) (show j + 1 < E.length by omega)
      exact ⟨by omega, hd.to⟩
  unfold refL
  rw [take_iv (by omega), dRun_snoc, dStep]
  generalize dRun l (E.take i) = st at *
  generalize atS l (iv E i) = n at *
  by_cases h0 : n = 0
  · refine .inl ⟨h0, ?_⟩
    split
    · rename_i hd; rw [if_neg (show ¬ 0 < st.depth by omega), if_neg (show ¬ 0 < st.depth by omega)]
    · rename_i hd
      dsimp only
      rw [if_neg (show ¬ 0 < n by omega), List.append_nil]
      split <;> simp
  · by_cases hd : n = st.depth
    · refine .inr (.inl ⟨h0, st.out, st.frm, ?_, ?_⟩)
      · rw [if_pos (by omega), hd]
      · rw [if_pos hd, if_pos (by omega), hd]
    · refine .inr (.inr ⟨h0, ?_, ?_⟩)
      · rw [if_neg hd]
        dsimp only
        rw [if_pos (show 0 < n by omega)]
        split <;> simp
      · by_cases hp : 0 < st.depth
        · rw [if_pos hp]
          exact .inr ⟨st.out, st.depth, st.frm, iv E i, rfl, .inl (fun e => hd e.symm)⟩
        · rw [if_neg hp, List.append_nil]
          rcases List.eq_nil_or_concat st.out with e | ⟨R0, r, e⟩
          · exact .inl e
          · rw [List.concat_eq_append] at e
            obtain ⟨a1, a2⟩ := hlast (by rw [e]; simp)
            have := a2 r (by rw [e]; simp)
            exact .inr ⟨R0, r.1, r.2.1, r.2.2, e, .inr (by omega)⟩
theorem ref_done {l : List Sp} {E : List Int} (hok : ∀ s ∈ l, s.1 < s.2) (hE : IsEnds l E) {i : Nat} (hi : ¬ i + 1 < E.length) (hi2 : i = 0 ∨ i < E.length) : DepRes l (refL l E i) := by
  refine ⟨E, hE, ?_⟩
  rcases List.eq_nil_or_concat E with rfl | ⟨E', p, rfl⟩
  · simp [refL, dRun]
  · rw [List.concat_eq_append] at *
    have hl : (E' ++ [p]).length = E'.length + 1 := by simp
    obtain rfl : i = E'.length := by omega
    have h0 := dRun_end hok hE
    have hp : iv (E' ++ [p]) E'.length = p := by simp [iv]
    rw [dRun_snoc, dStep] at h0
    unfold refL
    rw [List.take_left' rfl, hp, dRun_snoc, dStep]
    split at h0
    · rename_i hd
      rw [if_pos hd, if_neg (by omega), List.append_nil]
    · rename_i hd
      rw [if_neg hd]
      dsimp only
      split <;> simp
end Go.Proofs.Ytahpcepnagpbdaa
