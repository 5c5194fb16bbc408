/- The merge of spans in the order of their beginnings: what runs.Of computes, said of plain lists. No program in sight. -/
import Derived.Test.YtahpcepnagpbdaaRunsQ
import Derived.Test.YtahpcepnagpbdaaRunsD
namespace Go.Proofs.Ytahpcepnagpbdaa

def mrg (r : List Sp) (s : Sp) : List Sp :=
  if 0 < r.length ∧ s.1 ≤ tt r (r.length - 1) then r.take (r.length - 1) ++ [(fr r (r.length - 1), max (tt r (r.length - 1)) s.2)] else r ++ [s]
theorem mrg_join {r : List Sp} {s : Sp} (h : 0 < r.length) (h2 : s.1 ≤ tt r (r.length - 1)) : mrg r s = r.take (r.length - 1) ++ [(fr r (r.length - 1), max (tt r (r.length - 1)) s.2)] := if_pos ⟨h, h2⟩
theorem mrg_push {r : List Sp} {s : Sp} (h : ¬ (0 < r.length ∧ s.1 ≤ tt r (r.length - 1))) : mrg r s = r ++ [s] := if_neg h
structure MI (P r : List Sp) : Prop where
  canon : Canon r
  mem : ∀ x, mem r x = mem P x
  len : r.length ≤ P.length
  low : ∀ t ∈ r, ∃ p ∈ P, t.1 = p.1
theorem mi_nil : MI [] [] := ⟨canon_nil, fun _ => rfl, Nat.le_refl _, fun t ht => by simp at ht⟩
theorem mi_step {P r : List Sp} {s : Sp} (h : MI P r) (hs : OkSp s) (ho : ∀ p ∈ P, p.1 ≤ s.1) : MI (P ++ [s]) (mrg r s) := by
  have hlow : ∀ t ∈ r, t.1 ≤ s.1 := fun t ht => by
    obtain ⟨p, hp, h1⟩ := h.low t ht
    have := ho p hp; omega
  by_cases hr : 0 < r.length
  · obtain ⟨I, t, rfl⟩ : ∃ I t, r = I ++ [t] := ⟨r.dropLast, r.getLast (List.length_pos_iff.1 hr), (List.dropLast_concat_getLast _).symm⟩
    have e1 : fr (I ++ [t]) ((I ++ [t]).length - 1) = t.1 := by simp [fr]
    have e2 : tt (I ++ [t]) ((I ++ [t]).length - 1) = t.2 := by simp [tt]
    have e3 : (I ++ [t]).take ((I ++ [t]).length - 1) = I := by simp
    have ht : OkSp t := h.canon.1 t (by simp)
    have hpw := List.pairwise_append.1 h.canon.2
    have hI : Canon I := ⟨fun u hu => h.canon.1 u (by simp [hu]), hpw.1⟩
    have hlt : ∀ u ∈ I, u.2 < t.1 := fun u hu => hpw.2.2 u hu t (by simp)
    have hts := hlow t (by simp)
    by_cases hj : s.1 ≤ t.2
    · rw [mrg_join hr (by rw [e2]; exact hj), e1, e2, e3]
      have hok : OkSp (t.1, max t.2 s.2) := by unfold OkSp at *; simp only at *; omega
      refine ⟨canon_snoc hI hok hlt, fun x => ?_, ?_, fun u hu => ?_⟩
      · rw [mem_append P, ← h.mem x, mem_append, mem_append, Bool.or_assoc]
        congr 1
        rw [Bool.eq_iff_iff]
        unfold OkSp at ht hs
        simp [mem]
        omega
      · have := h.len; simp at this ⊢; omega
      · rcases List.mem_append.1 hu with hu | hu
        · obtain ⟨p, hp, h1⟩ := h.low u (by simp [hu])
          exact ⟨p, by simp [hp], h1⟩
        · obtain ⟨p, hp, h1⟩ := h.low t (by simp)
          rw [List.mem_singleton.1 hu]
          exact ⟨p, by simp [hp], h1⟩
    · rw [mrg_push (by rw [e2]; exact fun h => hj h.2)]
      refine ⟨canon_snoc h.canon hs fun u hu => ?_, fun x => by rw [mem_append P, ← h.mem x, mem_append _ [s]], by have := h.len; simp at this ⊢; omega, fun u hu => ?_⟩
      · rcases List.mem_append.1 hu with hu | hu
        · have := hlt u hu
          unfold OkSp at ht; omega
        · rw [List.mem_singleton.1 hu]; omega
      · rcases List.mem_append.1 hu with hu | hu
        · obtain ⟨p, hp, h1⟩ := h.low u hu
          exact ⟨p, by simp [hp], h1⟩
        · rw [List.mem_singleton.1 hu]; exact ⟨s, by simp, rfl⟩
  · obtain rfl : r = [] := List.length_eq_zero_iff.1 (by omega)
    rw [mrg_push (by simp)]
    refine ⟨canon_snoc canon_nil hs (by simp), fun x => by rw [mem_append, mem_append, h.mem], by simp, fun u hu => ?_⟩
    simp at hu
    exact ⟨s, by simp, by rw [hu]⟩
/-- What Of hands back. -/
def OfSpec (l : List Sp) (r : List Sp × Int) : Prop :=
  if l.all okSpan = true then ∃ m, Canon m ∧ (∀ x, mem m x = mem l x) ∧ m.length ≤ 2 * l.length ∧ r = opR m else r = ([], 1)
theorem mem_perm {l m : List Sp} (h : l.Perm m) (x : Int) : mem l x = mem m x := by
  unfold mem
  rw [Bool.eq_iff_iff, List.any_eq_true, List.any_eq_true]
  exact ⟨fun ⟨s, h1, h2⟩ => ⟨s, h.mem_iff.1 h1, h2⟩, fun ⟨s, h1, h2⟩ => ⟨s, h.mem_iff.2 h1, h2⟩⟩
theorem of_sorted {l L r : List Sp} (ho : l.all okSpan = true) (hp : L.Perm l) (h : MI L r) : OfSpec l (opR r) := by
  rw [OfSpec, if_pos ho]
  exact ⟨r, h.canon, fun x => by rw [h.mem, mem_perm hp], by have := h.len; have := hp.length_eq; omega, rfl⟩
theorem of_bad {l : List Sp} (ho : l.all okSpan = false) : OfSpec l ([], 1) := by
  rw [OfSpec, if_neg (by rw [ho]; exact Bool.false_ne_true)]
theorem of_one {l : List Sp} {r r' : List Sp × Int} (h : OfSpec l r) (h' : OfSpec l r') : r = r' := by
  unfold OfSpec at h h'
  cases ho : l.all okSpan
  · rw [if_neg (by rw [ho]; exact Bool.false_ne_true)] at h h'
    rw [h, h']
  · rw [if_pos ho] at h h'
    obtain ⟨m, h1, h2, h3, rfl⟩ := h
    obtain ⟨m', h1', h2', h3', rfl⟩ := h'
    rw [canon_ext h1 h1' fun x => by rw [h2, h2']]
theorem of_small {l : List Sp} {r : List Sp × Int} (h : OfSpec l r) (hl : l.length ≤ 1000) (ho : l.all okSpan = true) : r.2 = 0 ∧ validB r.1 = true ∧ (∀ x, mem r.1 x = mem l x) ∧ r.1.length ≤ 2 * l.length ∧ (validB l = true → r.1 = l) := by
  rw [OfSpec, if_pos ho] at h
  obtain ⟨m, h1, h2, h3, rfl⟩ := h
  rw [opR, if_pos (by omega)]
  exact ⟨rfl, (validB_iff m).2 ⟨by omega, h1⟩, h2, h3, fun hv => canon_ext h1 ((validB_iff l).1 hv).2 h2⟩
theorem of_comb {l r : List Sp} (ho : l.all okSpan = true) (hc : Canon r) (hm : ∀ x, mem r x = mem l x) (hl : r.length ≤ 2 * l.length) : OfSpec l (opR r) := by
  rw [OfSpec, if_pos ho]
  exact ⟨r, hc, hm, hl, rfl⟩
end Go.Proofs.Ytahpcepnagpbdaa
