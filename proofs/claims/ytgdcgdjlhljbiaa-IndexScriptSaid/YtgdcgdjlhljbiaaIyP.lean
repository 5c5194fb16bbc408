/- Law 42: a list of entries with one more, or one less: what the reference reckons. Plain law (no program). -/
import Derived.Test.YtgdcgdjlhljbiaaIdxX
namespace Go.Proofs.Ytgdcgdjlhljbiaa

theorem enLt_tri (a b : En) : enLt a b ∨ a = b ∨ enLt b a := by
  obtain ⟨a1, a2, a3⟩ := a
  obtain ⟨b1, b2, b3⟩ := b
  simp only [enLt, Prod.mk.injEq]
  omega
def insStep (x : En) (s : List En × Bool) (e : En) : List En × Bool := if s.2 = false ∧ enLt x e then (s.1 ++ [x] ++ [e], true) else (s.1 ++ [e], s.2)
def insRun (x : En) (l : List En) : List En × Bool := l.foldl (insStep x) ([], false)
theorem insRun_snoc (x : En) (l : List En) (e : En) : insRun x (l ++ [e]) = insStep x (insRun x l) e := by simp [insRun]
def insE (l : List En) (x : En) : List En × Bool := if x ∈ l then ([], false) else (if (insRun x l).2 = true then (insRun x l).1 else (insRun x l).1 ++ [x], true)
theorem insRun_len (x : En) (l : List En) : (insRun x l).1.length ≤ l.length + 1 ∧ ((insRun x l).2 = false → (insRun x l).1.length = l.length) := by
  induction l using snocRec with
  | nil => simp [insRun]
  | snoc l e ih =>
    rw [insRun_snoc]
    unfold insStep
    split
    · rename_i h
      have := ih.2 h.1
      simp; omega
    · simp only [List.length_append, List.length_singleton]
      exact ⟨by omega, fun h => by rw [ih.2 h]⟩
theorem insRun_prop (x : En) (l : List En) : l.Pairwise enLt → x ∉ l →
    ((insRun x l).2 = false → (insRun x l).1 = l ∧ ∀ e ∈ l, enLt e x) ∧ ((insRun x l).2 = true → (insRun x l).1.Pairwise enLt ∧ (insRun x l).1.Perm (x :: l) ∧ ∃ d ∈ l, enLt x d) := by
  induction l using snocRec with
  | nil => intro _ _; simp [insRun]
  | snoc l e ih =>
    intro ho hx
    obtain ⟨h1, _, h3⟩ := List.pairwise_append.1 ho
    have h3 : ∀ a ∈ l, enLt a e := fun a ha => h3 a ha e (by simp)
    have hxl : x ∉ l := fun h => hx (by simp [h])
    have hxe : x ≠ e := fun h => hx (by simp [h])
    obtain ⟨i1, i2⟩ := ih h1 hxl
    rw [insRun_snoc]
    unfold insStep
    cases hd : (insRun x l).2
    · obtain ⟨j1, j2⟩ := i1 hd
      by_cases hlt : enLt x e
      · rw [if_pos ⟨rfl, hlt⟩, j1]
        refine ⟨(fun h => by cases h), fun _ => ⟨?_, ?_, e, by simp, hlt⟩⟩
        · rw [List.append_assoc, List.pairwise_append]
          refine ⟨h1, by simpa using hlt, fun a ha b hb => ?_⟩
          simp only [List.singleton_append, List.mem_cons, List.not_mem_nil, or_false] at hb
          rcases hb with rfl | rfl
          · exact j2 a ha
          · exact h3 a ha
        · rw [List.append_assoc]
          exact List.perm_middle (l₁ := l) (a := x) (l₂ := [e])
      · rw [if_neg (fun h => hlt h.2), j1]
        refine ⟨fun _ => ⟨rfl, fun a ha => ?_⟩, (fun h => by cases h)⟩
        rcases List.mem_append.1 ha with h | h
        · exact j2 a h
        · rw [List.mem_singleton.1 h]
          rcases enLt_tri x e with h | h | h
          · exact absurd h hlt
          · exact absurd h hxe
          · exact h
    · obtain ⟨j1, j2, d, j3, j4⟩ := i2 hd
      rw [if_neg (fun h => by cases h.1)]
      refine ⟨(fun h => by cases h), fun _ => ⟨?_, ?_, d, by simp [j3], j4⟩⟩
      · rw [List.pairwise_append]
        refine ⟨j1, by simp, fun a ha b hb => ?_⟩
        rw [List.mem_singleton.1 hb]
        rcases List.mem_cons.1 (j2.mem_iff.1 ha) with rfl | h
        · exact enLt_trans j4 (h3 d j3)
        · exact h3 a h
      · exact j2.append_right [e]
theorem insE_spec {l : List En} {x : En} (ho : l.Pairwise enLt) (hx : x ∉ l) : (insE l x).2 = true ∧ (insE l x).1.Pairwise enLt ∧ (insE l x).1.Perm (x :: l) := by
  obtain ⟨h1, h2⟩ := insRun_prop x l ho hx
  unfold insE
  rw [if_neg hx]
  refine ⟨rfl, ?_⟩
  cases hd : (insRun x l).2
  · obtain ⟨e1, e2⟩ := h1 hd
    rw [if_neg (by simp), e1]
    refine ⟨List.pairwise_append.2 ⟨ho, by simp, fun a ha b hb => by rw [List.mem_singleton.1 hb]; exact e2 a ha⟩, ?_⟩
    exact List.perm_append_comm (l₁ := l) (l₂ := [x])
  · obtain ⟨e1, e2, _⟩ := h2 hd
    rw [if_pos rfl]
    exact ⟨e1, e2⟩
theorem insE_found {l : List En} {x : En} (hx : x ∈ l) : insE l x = ([], false) := if_pos hx
theorem insE_len (l : List En) (x : En) : (insE l x).1.length ≤ l.length + 1 := by
  have h := insRun_len x l
  unfold insE
  split
  · simp
  · simp only
    split
    · exact h.1
    · rename_i hd
      have := h.2 (by simpa using hd)
      simp; omega
/-- Without an entry. -/
def delE (l : List En) (x : En) : List En := l.filter fun e => decide (e ≠ x)
theorem delE_len (l : List En) (x : En) : (delE l x).length ≤ l.length := List.length_filter_le _ _
theorem delE_found {l : List En} {x : En} : (delE l x).length < l.length ↔ x ∈ l := by
  unfold delE
  constructor
  · intro h
    refine Classical.byContradiction fun hx => ?_
    rw [List.filter_eq_self.2 (fun a ha => by simp; rintro rfl; exact hx ha)] at h
    omega
  · intro h
    rcases Nat.lt_or_ge (l.filter fun e => decide (e ≠ x)).length l.length with h1 | h1
    · exact h1
    · have := List.length_filter_eq_length_iff.1 (Nat.le_antisymm (List.length_filter_le _ _) h1) x h
      simp at this
theorem delE_sorted {l : List En} (x : En) (ho : l.Pairwise enLt) : (delE l x).Pairwise enLt := ho.filter _
theorem enLt_nodup {l : List En} (ho : l.Pairwise enLt) : l.Nodup := ho.imp fun h e => by rw [e] at h; exact enLt_irrefl _ h
theorem delE_perm {l : List En} {x : En} (ho : l.Pairwise enLt) (hx : x ∈ l) : (x :: delE l x).Perm l := by
  have hn := enLt_nodup ho
  refine (List.perm_ext_iff_of_nodup (List.nodup_cons.2 ⟨by simp, hn.filter _⟩) hn).2 fun a => ?_
  simp only [List.mem_cons, List.mem_filter, decide_eq_true_eq]
  constructor
  · rintro (rfl | h)
    · exact hx
    · exact h.1
  · intro h
    by_cases e : a = x
    · exact .inl e
    · exact .inr ⟨h, e⟩
end Go.Proofs.Ytgdcgdjlhljbiaa
