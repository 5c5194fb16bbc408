/- Canonical lists of spans as sets of numbers: a canonical list is determined by its numbers; the merge of two canonical lists has the numbers that its rule keeps. Plain laws, no program. -/
import Derived.Test.YtahpcepnagpbdaaRunsS
namespace Go.Proofs.Ytahpcepnagpbdaa

def OkSp (s : Sp) : Prop := -4398046511104 ≤ s.1 ∧ s.1 < s.2 ∧ s.2 ≤ 4398046511104
def Canon (l : List Sp) : Prop := (∀ s ∈ l, OkSp s) ∧ l.Pairwise (fun s t => s.2 < t.1)
def mem (l : List Sp) (x : Int) : Bool := l.any fun s => decide (s.1 ≤ x) && decide (x < s.2)

theorem okSpan_iff (s : Sp) : okSpan s = true ↔ OkSp s := by
  simp [okSpan, onLine, OkSp]; omega
theorem mem_iff {l : List Sp} {x : Int} : mem l x = true ↔ ∃ s ∈ l, s.1 ≤ x ∧ x < s.2 := by
  simp [mem]
theorem mem_cons (s : Sp) (l : List Sp) (x : Int) : mem (s :: l) x = ((decide (s.1 ≤ x) && decide (x < s.2)) || mem l x) := by simp [mem]
theorem mem_append (l m : List Sp) (x : Int) : mem (l ++ m) x = (mem l x || mem m x) := by simp [mem]
theorem mem_nil (x : Int) : mem [] x = false := rfl
theorem canon_nil : Canon [] := ⟨by simp, List.Pairwise.nil⟩
theorem canon_tail {s : Sp} {l : List Sp} (h : Canon (s :: l)) : Canon l := ⟨fun t ht => h.1 t (by simp [ht]), (List.pairwise_cons.1 h.2).2⟩
theorem canon_head {s : Sp} {l : List Sp} (h : Canon (s :: l)) : OkSp s ∧ ∀ t ∈ l, s.2 < t.1 := ⟨h.1 s (by simp), (List.pairwise_cons.1 h.2).1⟩
theorem canon_snoc {l : List Sp} {s : Sp} (h : Canon l) (hs : OkSp s) (hl : ∀ t ∈ l, t.2 < s.1) : Canon (l ++ [s]) := by
  refine ⟨fun t ht => ?_, ?_⟩
  · rcases List.mem_append.1 ht with h1 | h1
    · exact h.1 t h1
    · rw [List.mem_singleton.1 h1]; exact hs
  · rw [List.pairwise_append]
    exact ⟨h.2, List.pairwise_singleton _ _, fun a ha b hb => by rw [List.mem_singleton.1 hb]; exact hl a ha⟩

theorem mem_low {s : Sp} {l : List Sp} (h : Canon (s :: l)) {x : Int} (hx : mem (s :: l) x = true) : s.1 ≤ x := by
  obtain ⟨t, ht, h1, h2⟩ := mem_iff.1 hx
  rcases List.mem_cons.1 ht with rfl | ht
  · exact h1
  · have := (canon_head h).2 t ht
    have := (canon_head h).1
    unfold OkSp at this
    omega
theorem mem_tail {s : Sp} {l : List Sp} (h : Canon (s :: l)) {x : Int} (hx : mem l x = true) : s.2 < x := by
  obtain ⟨t, ht, h1, h2⟩ := mem_iff.1 hx
  have := (canon_head h).2 t ht
  omega

/-- A canonical list is determined by its numbers. -/
theorem canon_ext : ∀ {l m : List Sp}, Canon l → Canon m → (∀ x, mem l x = mem m x) → l = m
  | [], [], _, _, _ => rfl
  | [], s :: m, _, hm, h => by
    have h1 := h s.1
    have := (canon_head hm).1
    unfold OkSp at this
    rw [mem_nil, mem_cons] at h1
    simp at h1; omega
  | s :: l, [], hl, _, h => by
    have h1 := h s.1
    have := (canon_head hl).1
    unfold OkSp at this
    rw [mem_nil, mem_cons] at h1
    simp at h1; omega
  | s :: l, t :: m, hl, hm, h => by
    have os := (canon_head hl).1
    have ot := (canon_head hm).1
    unfold OkSp at os ot
    have hs1 : mem (s :: l) s.1 = true := by rw [mem_cons]; simp; omega
    have ht1 : mem (t :: m) t.1 = true := by rw [mem_cons]; simp; omega
    have e1 : s.1 = t.1 := by
      have a1 := mem_low hm (by rw [← h]; exact hs1)
      have a2 := mem_low hl (by rw [h]; exact ht1)
      omega
    have e2 : s.2 = t.2 := by
      rcases Int.lt_trichotomy s.2 t.2 with h1 | h1 | h1
      · have h2 : mem (t :: m) s.2 = true := by rw [mem_cons]; simp; omega
        rw [← h, mem_cons] at h2
        simp at h2
        have := mem_tail hl h2
        omega
      · exact h1
      · have h2 : mem (s :: l) t.2 = true := by rw [mem_cons]; simp; omega
        rw [h, mem_cons] at h2
        simp at h2
        have := mem_tail hm h2
        omega
    have est : s = t := Prod.ext e1 e2
    subst est
    have := canon_ext (canon_tail hl) (canon_tail hm) (fun x => by
      have hx := h x
      rw [mem_cons, mem_cons] at hx
      cases h1 : mem l x <;> cases h2 : mem m x <;> simp [h1, h2] at hx ⊢
      · have := mem_tail hm h2; omega
      · have := mem_tail hl h1; omega)
    rw [this]

/-! ### the canonical lists of the program: by indices -/
theorem fr_cons (s : Sp) (l : List Sp) (i : Nat) : fr (s :: l) (i + 1) = fr l i := by simp [fr]
theorem tt_cons (s : Sp) (l : List Sp) (i : Nat) : tt (s :: l) (i + 1) = tt l i := by simp [tt]
theorem fr_zero (s : Sp) (l : List Sp) : fr (s :: l) 0 = s.1 := by simp [fr]
theorem tt_zero (s : Sp) (l : List Sp) : tt (s :: l) 0 = s.2 := by simp [tt]
theorem sp_at (l : List Sp) (i : Nat) (hi : i < l.length) : l[i] = (fr l i, tt l i) := by simp [fr, tt, hi]
theorem mem_idx {l : List Sp} {s : Sp} (h : s ∈ l) : ∃ i, i < l.length ∧ s = (fr l i, tt l i) := by
  obtain ⟨i, hi, rfl⟩ := List.getElem_of_mem h
  exact ⟨i, hi, sp_at l i hi⟩
theorem idx_mem {l : List Sp} {i : Nat} (hi : i < l.length) : (fr l i, tt l i) ∈ l := by rw [← sp_at l i hi]; exact List.getElem_mem hi
theorem canon_of_chk {l : List Sp} (h : (List.range l.length).all (chk l) = true) : Canon l := by
  have hok : ∀ i, i < l.length → OkSp (fr l i, tt l i) ∧ (0 < i → tt l (i - 1) < fr l i) := by
    intro i hi
    have := List.all_eq_true.1 h i (by simpa using hi)
    simp only [chk, Bool.and_eq_true, Bool.or_eq_true, decide_eq_true_eq, beq_iff_eq] at this
    exact ⟨(okSpan_iff _).1 this.1, fun h0 => by rcases this.2 with h1 | h1 <;> omega⟩
  have hlt : ∀ d i, i + (d + 1) < l.length → tt l i < fr l (i + (d + 1)) := by
    intro d
    induction d with
    | zero => intro i hi; exact (hok (i + 1) hi).2 (by omega)
    | succ d ih =>
      intro i hi
      have h1 := ih i (by omega)
      have h2 := (hok (i + (d + 1)) (by omega)).1
      have h3 := (hok (i + (d + 1 + 1)) hi).2 (by omega)
      unfold OkSp at h2
      simp only at h2
      have e : i + (d + 1 + 1) - 1 = i + (d + 1) := by omega
      rw [e] at h3
      omega
  refine ⟨fun s hs => ?_, ?_⟩
  · obtain ⟨i, hi, rfl⟩ := mem_idx hs
    exact (hok i hi).1
  · rw [List.pairwise_iff_getElem]
    intro i j hi hj hij
    rw [sp_at l i hi, sp_at l j hj]
    have := hlt (j - i - 1) i (by omega)
    rwa [show i + (j - i - 1 + 1) = j from by omega] at this
theorem chk_of_canon {l : List Sp} (h : Canon l) : (List.range l.length).all (chk l) = true := by
  rw [List.all_eq_true]
  intro i hi
  have hi : i < l.length := by simpa using hi
  simp only [chk, Bool.and_eq_true, Bool.or_eq_true, decide_eq_true_eq, beq_iff_eq]
  refine ⟨(okSpan_iff _).2 (h.1 _ (idx_mem hi)), ?_⟩
  rcases Nat.eq_zero_or_pos i with h0 | h0
  · exact .inl h0
  · right
    have := List.pairwise_iff_getElem.1 h.2 (i - 1) i (by omega) hi (by omega)
    rwa [sp_at l _ (by omega), sp_at l i hi] at this
theorem validB_iff (l : List Sp) : validB l = true ↔ l.length ≤ 2000 ∧ Canon l := by
  unfold validB
  rw [Bool.and_eq_true, decide_eq_true_eq]
  exact ⟨fun ⟨h1, h2⟩ => ⟨h1, canon_of_chk h2⟩, fun ⟨h1, h2⟩ => ⟨h1, chk_of_canon h2⟩⟩
end Go.Proofs.Ytahpcepnagpbdaa
