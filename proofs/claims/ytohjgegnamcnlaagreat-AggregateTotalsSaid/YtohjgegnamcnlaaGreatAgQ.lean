/- Law 39: a table's facts, sorted, are the normal list. Plain law. -/
import Derived.Test.YtohjgegnamcnlaaGreatAgN
namespace Go.Proofs.YtohjgegnamcnlaaGreat
open Go.RowKit Go.Shelf

def flatE (E : List Ent) : List Fct := E.flatMap fun e => e.2.map fun s => (e.1, s)
theorem mem_flatE {E : List Ent} {f : Fct} : f ∈ flatE E ↔ ∃ e ∈ E, f.1 = e.1 ∧ f.2 ∈ e.2 := by
  unfold flatE
  rw [List.mem_flatMap]
  constructor
  · rintro ⟨e, he, h⟩
    obtain ⟨s, hs, rfl⟩ := List.mem_map.1 h
    exact ⟨e, he, rfl, hs⟩
  · rintro ⟨e, he, h1, h2⟩
    exact ⟨e, he, List.mem_map.2 ⟨f.2, h2, by rw [← h1]⟩⟩
theorem EntOk.rows {E : List Ent} (h : EntOk E) : E.Pairwise fun a b => a.1 ≠ b.1 := by
  rw [List.pairwise_iff_getElem]
  intro i j hi hj hij e
  rw [ent_at hi, ent_at hj] at e
  have := h.inj i j hi hj e
  omega
theorem flatE_apart {E : List Ent} (h : EntOk E) (hc : ∀ e ∈ E, Canon e.2) : (flatE E).Pairwise fun a b => a.1 ≠ b.1 ∨ a.2.1 ≠ b.2.1 := by
  unfold flatE
  rw [List.pairwise_flatMap]
  refine ⟨fun e he => ?_, ?_⟩
  · rw [List.pairwise_map]
    refine (List.Pairwise.and_mem.1 (hc e he).2).imp ?_
    rintro a b ⟨ha, hb, hab⟩
    have := (hc e he).1 a ha
    unfold OkSp at this
    exact .inr (by simp only; omega)
  · refine h.rows.imp fun {a b} hab x hx y hy => ?_
    obtain ⟨s, hs, rfl⟩ := List.mem_map.1 hx
    obtain ⟨t, ht, rfl⟩ := List.mem_map.1 hy
    exact .inl hab
theorem cmpF_tri (a b : Fct) (h1 : ¬ cmpF b a < 0) (h2 : a.1 ≠ b.1 ∨ a.2.1 ≠ b.2.1) : cmpF a b < 0 := by
  have e1 := (ordR.lex ordI).anti (a.1, a.2.1) (b.1, b.2.1)
  have e2 := (ordR.lex ordI).eq (a.1, a.2.1) (b.1, b.2.1)
  unfold cmpF at h1 ⊢
  rcases Int.lt_trichotomy (lexC cmpR sgI (a.1, a.2.1) (b.1, b.2.1)) 0 with h | h | h
  · exact h
  · have := e2.1 h
    injection this with p q
    rcases h2 with e | e
    · exact absurd p e
    · exact absurd q e
  · omega
theorem cmpF_row {a b : Fct} (h : a.1 = b.1) (hl : cmpF a b < 0) : a.2.1 < b.2.1 := by
  unfold cmpF lexC at hl
  rw [h, ordR.refl] at hl
  simp only [ne_eq, not_true, if_false] at hl
  unfold sgI at hl
  split at hl
  · assumption
  · split at hl <;> omega
theorem norm_tab {E : List Ent} {A F : List Fct} (hE : EntOk E) (hT : TabOk E A) (hp : F.Perm (flatE E)) (hs : F.Pairwise fun a b => ¬ cmpF b a < 0) : NormOf F fun r t => ∃ a ∈ A, a.1 = r ∧ a.2.1 ≤ t ∧ t < a.2.2 := by
  have hap : F.Pairwise fun a b => a.1 ≠ b.1 ∨ a.2.1 ≠ b.2.1 := (hp.pairwise_iff fun {a b} h => h.imp (fun e q => e q.symm) (fun e q => e q.symm)).2 (flatE_apart hE hT.can)
  have hst : F.Pairwise fun a b => cmpF a b < 0 := (hs.and hap).imp fun {a b} h => cmpF_tri a b h.1 h.2
  have hm : ∀ f, f ∈ F ↔ ∃ e ∈ E, f.1 = e.1 ∧ f.2 ∈ e.2 := fun f => hp.mem_iff.trans mem_flatE
  refine ⟨hst, fun v => ?_, fun v t => ?_⟩
  · by_cases hv : ∃ e ∈ E, e.1 = v
    · obtain ⟨e, he, rfl⟩ := hv
      have huniq : ∀ e2 ∈ E, e2.1 = e.1 → e2 = e := fun e2 he2 q => by
        obtain ⟨i, hi, rfl⟩ := List.getElem_of_mem he
        obtain ⟨j, hj, rfl⟩ := List.getElem_of_mem he2
        rw [ent_at hi, ent_at hj] at q ⊢
        rw [hE.inj j i hj hi q]
      have key : (F.filter fun f => decide (f.1 = e.1)).map (·.2) = e.2 := by
        refine sorted_ext (r := fun s t : Sp => s.1 < t.1) (fun a => Int.lt_irrefl _) (fun a b h => Int.lt_asymm h) ?_ ?_ fun x => ?_
        · rw [List.pairwise_map]
          refine (List.Pairwise.and_mem.1 (hst.filter _)).imp ?_
          rintro a b ⟨ha, hb, hab⟩
          have h1 := of_decide_eq_true (List.mem_filter.1 ha).2
          have h2 := of_decide_eq_true (List.mem_filter.1 hb).2
          exact cmpF_row (h1.trans h2.symm) hab
        · refine (List.Pairwise.and_mem.1 (hT.can e he).2).imp ?_
          rintro a b ⟨ha, hb, hab⟩
          have := (hT.can e he).1 a ha
          unfold OkSp at this
          omega
        · rw [List.mem_map]
          constructor
          · rintro ⟨f, hf, rfl⟩
            obtain ⟨h1, h2⟩ := List.mem_filter.1 hf
            obtain ⟨e2, he2, h3, h4⟩ := (hm f).1 h1
            rw [huniq e2 he2 (h3.symm.trans (of_decide_eq_true h2))] at h4
            exact h4
          · intro hx
            exact ⟨(e.1, x), List.mem_filter.2 ⟨(hm _).2 ⟨e, he, rfl, hx⟩, decide_eq_true rfl⟩, rfl⟩
      rw [key]
      exact hT.can e he
    · have key : (F.filter fun f => decide (f.1 = v)) = [] := by
        rw [List.filter_eq_nil_iff]
        intro f hf hd
        obtain ⟨e, he, h1, _⟩ := (hm f).1 hf
        exact hv ⟨e, he, by rw [← h1]; exact of_decide_eq_true hd⟩
      rw [key]
      exact canon_nil
  · rw [← hT.pts]
    constructor
    · rintro ⟨f, hf, h1, h2, h3⟩
      obtain ⟨e, he, h4, h5⟩ := (hm f).1 hf
      exact ⟨e, he, h4.symm.trans h1, mem_iff.2 ⟨f.2, h5, h2, h3⟩⟩
    · rintro ⟨e, he, h1, h2⟩
      obtain ⟨s, hs, h3, h4⟩ := mem_iff.1 h2
      exact ⟨(e.1, s), (hm _).2 ⟨e, he, rfl, hs⟩, h1, h3, h4⟩
end Go.Proofs.YtohjgegnamcnlaaGreat
