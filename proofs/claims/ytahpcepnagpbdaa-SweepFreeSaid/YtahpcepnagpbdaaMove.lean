/- Moved lists of spans. Plain laws. -/
import Derived.Test.YtahpcepnagpbdaaRunsQ
import Derived.Test.YtahpcepnagpbdaaRunsT
namespace Go.Proofs.Ytahpcepnagpbdaa

def shiftL (n : Int) (l : List Sp) : List Sp := l.map fun s => (s.1 + n, s.2 + n)
def moveR (l : List Sp) (n : Int) : List Sp × Int :=
  if validB l = false then ([], 1) else if 8796093022208 < n ∨ n < -8796093022208 then ([], 2) else if (shiftL n l).all okSpan = true then (shiftL n l, 0) else ([], 2)
/-- The row while its spans are moved one by one. -/
def mvL (n : Int) (l : List Sp) (k : Nat) : List Sp := shiftL n (l.take k) ++ l.drop k
theorem shift_len (n : Int) (l : List Sp) : (shiftL n l).length = l.length := by simp [shiftL]
theorem mv_len {n : Int} {l : List Sp} {k : Nat} (hk : k ≤ l.length) : (mvL n l k).length = l.length := by simp [mvL, shift_len]; omega
theorem mv_zero (n : Int) (l : List Sp) : mvL n l 0 = l := by simp [mvL, shiftL]
theorem mv_all (n : Int) (l : List Sp) : mvL n l l.length = shiftL n l := by simp [mvL]
theorem shift_nil (n : Int) : shiftL n [] = [] := rfl
theorem mv_get {n : Int} {l : List Sp} {k : Nat} (hk : k < l.length) : fr (mvL n l k) k = fr l k ∧ tt (mvL n l k) k = tt l k := by
  have hl : (shiftL n (l.take k)).length = k := by rw [shift_len]; simp; omega
  have h1 : (mvL n l k)[k]? = l[k]? := by
    rw [mvL, List.getElem?_append_right (by omega), hl]; simp
  simp [fr, tt, List.getD, h1]
theorem mv_set {n : Int} {l : List Sp} {k : Nat} (hk : k < l.length) : (mvL n l k).set k (fr l k + n, tt l k + n) = mvL n l (k + 1) := by
  have hl : (shiftL n (l.take k)).length = k := by rw [shift_len]; simp; omega
  unfold mvL
  rw [List.set_append_right _ _ (by omega), hl, Nat.sub_self, drop_step hk, List.set_cons_zero, List.take_succ_eq_append_getElem hk, shiftL, shiftL, List.map_append, sp_at l k hk]
  simp
theorem flat_set {L : List Sp} {k : Nat} {p q : Int} (hk : k < L.length) : ((flat L).set (k * 2) (.int .i64 p)).set (k * 2 + 1) (.int .i64 q) = flat (L.set k (p, q)) := by
  induction L generalizing k with
  | nil => simp at hk
  | cons s L ih =>
    cases k with
    | zero => simp [flat]
    | succ k =>
      have h1 := ih (k := k) (by simpa using hk)
      have h2 : (k + 1) * 2 = k * 2 + 1 + 1 := by omega
      have h3 : flat (s :: L) = .int .i64 s.1 :: .int .i64 s.2 :: flat L := by simp [flat]
      have h4 : flat ((s :: L).set (k + 1) (p, q)) = .int .i64 s.1 :: .int .i64 s.2 :: flat (L.set k (p, q)) := by simp [flat]
      rw [h2, h3, h4, ← h1]
      simp [List.set_cons_succ]
theorem shift_fail {n : Int} {l : List Sp} {k : Nat} (hk : k < l.length) (h : okSpan (fr l k + n, tt l k + n) = false) : (shiftL n l).all okSpan = false := by
  rw [List.all_eq_false]
  refine ⟨(fr l k + n, tt l k + n), ?_, by rw [h]; exact Bool.false_ne_true⟩
  exact List.mem_map.2 ⟨(fr l k, tt l k), idx_mem hk, rfl⟩
theorem shift_ok {n : Int} {l : List Sp} (h : ∀ k, k < l.length → okSpan (fr l k + n, tt l k + n) = true) : (shiftL n l).all okSpan = true := by
  rw [List.all_eq_true]
  intro s hs
  obtain ⟨t, ht, rfl⟩ := List.mem_map.1 hs
  obtain ⟨k, hk, rfl⟩ := mem_idx ht
  exact h k hk
theorem shift_mem (n : Int) (l : List Sp) (x : Int) : mem (shiftL n l) x = mem l (x - n) := by
  rw [Bool.eq_iff_iff, mem_iff, mem_iff]
  constructor
  · rintro ⟨s, hs, h1, h2⟩
    obtain ⟨t, ht, rfl⟩ := List.mem_map.1 hs
    exact ⟨t, ht, by simp only at h1; omega, by simp only at h2; omega⟩
  · rintro ⟨t, ht, h1, h2⟩
    exact ⟨_, List.mem_map.2 ⟨t, ht, rfl⟩, by simp only; omega, by simp only; omega⟩
theorem shift_canon {n : Int} {l : List Sp} (h : Canon l) (ho : (shiftL n l).all okSpan = true) : Canon (shiftL n l) := by
  rw [List.all_eq_true] at ho
  refine ⟨fun s hs => (okSpan_iff s).1 (ho s hs), ?_⟩
  unfold shiftL
  rw [List.pairwise_map]
  exact h.2.imp fun h => by simp only; omega
theorem shift_valid {n : Int} {l : List Sp} (h : validB l = true) (ho : (shiftL n l).all okSpan = true) : validB (shiftL n l) = true := by
  rw [validB_iff] at h ⊢
  exact ⟨by rw [shift_len]; exact h.1, shift_canon h.2 ho⟩
theorem shift_back (n : Int) (l : List Sp) : shiftL (-n) (shiftL n l) = l := by
  unfold shiftL
  rw [List.map_map]
  conv => rhs; rw [← List.map_id l]
  apply List.map_congr_left
  intro s _
  simp only [Function.comp, id]
  ext <;> simp only <;> omega
theorem shift_meas (n : Int) : ∀ l : List Sp, measL (shiftL n l) = measL l
  | [] => rfl
  | s :: l => by
    have ih := shift_meas n l
    simp only [shiftL, List.map_cons, measL] at *
    rw [ih]; omega
theorem move_cases (l : List Sp) (n : Int) : (∃ e, moveR l n = ([], e) ∧ (e = 1 ∨ e = 2)) ∨ (moveR l n = (shiftL n l, 0) ∧ validB l = true ∧ -8796093022208 ≤ n ∧ n ≤ 8796093022208 ∧ (shiftL n l).all okSpan = true) := by
  unfold moveR
  cases hv : validB l
  · exact .inl ⟨1, rfl, .inl rfl⟩
  · rw [if_neg Bool.noConfusion]
    by_cases hn : 8796093022208 < n ∨ n < -8796093022208
    · rw [if_pos hn]; exact .inl ⟨2, rfl, .inr rfl⟩
    · rw [if_neg hn]
      cases ho : (shiftL n l).all okSpan
      · rw [if_neg Bool.noConfusion]; exact .inl ⟨2, rfl, .inr rfl⟩
      · rw [if_pos rfl]; exact .inr ⟨rfl, rfl, by omega, by omega, rfl⟩
theorem move_ok {l : List Sp} {n : Int} (hv : validB l = true) (h1 : -8796093022208 ≤ n) (h2 : n ≤ 8796093022208) (ho : (shiftL n l).all okSpan = true) : moveR l n = (shiftL n l, 0) := by
  unfold moveR
  rw [if_neg (by rw [hv]; exact Bool.noConfusion), if_neg (by omega), if_pos ho]
theorem move_back {l : List Sp} {n : Int} (hv : validB l = true) (h1 : -8796093022208 ≤ n) (h2 : n ≤ 8796093022208) (ho : (shiftL n l).all okSpan = true) : moveR (shiftL n l) (-n) = (l, 0) := by
  have hb := shift_back n l
  rw [move_ok (shift_valid hv ho) (by omega) (by omega), hb]
  rw [hb, List.all_eq_true]
  intro s hs
  exact (okSpan_iff s).2 (((validB_iff l).1 hv).2.1 s hs)
/-- A span of a canonical list lies in the hull of whatever covers its points. -/
theorem cover {g : Bool → Bool → Bool} (hg : g false false = false) {a b u : List Sp} (h : IsOp g a b u) {s : Sp} (hs : s ∈ u) : (∃ t, (t ∈ a ∨ t ∈ b) ∧ t.1 ≤ s.1) ∧ ∃ t, (t ∈ a ∨ t ∈ b) ∧ s.2 ≤ t.2 := by
  have hok := h.1.1 s hs
  unfold OkSp at hok
  have key : ∀ x, s.1 ≤ x → x < s.2 → ∃ t, (t ∈ a ∨ t ∈ b) ∧ t.1 ≤ x ∧ x < t.2 := fun x h1 h2 => by
    have h3 : mem u x = true := mem_iff.2 ⟨s, hs, h1, h2⟩
    rw [h.2 x] at h3
    cases ha : mem a x
    · cases hb : mem b x
      · rw [ha, hb, hg] at h3; cases h3
      · obtain ⟨t, ht, h4, h5⟩ := mem_iff.1 hb
        exact ⟨t, .inr ht, h4, h5⟩
    · obtain ⟨t, ht, h4, h5⟩ := mem_iff.1 ha
      exact ⟨t, .inl ht, h4, h5⟩
  obtain ⟨t, ht, h1, _⟩ := key s.1 (Int.le_refl _) hok.2.1
  obtain ⟨t', ht', _, h2⟩ := key (s.2 - 1) (by omega) (by omega)
  exact ⟨⟨t, ht, h1⟩, t', ht', by omega⟩
theorem shift_op {g : Bool → Bool → Bool} (hg : g false false = false) {a b u : List Sp} {n : Int} (h : IsOp g a b u) (ha : (shiftL n a).all okSpan = true) (hb : (shiftL n b).all okSpan = true) :
    (shiftL n u).all okSpan = true ∧ IsOp g (shiftL n a) (shiftL n b) (shiftL n u) := by
  have hall : ∀ t, t ∈ a ∨ t ∈ b → OkSp (t.1 + n, t.2 + n) := fun t ht => by
    rw [List.all_eq_true] at ha hb
    rcases ht with ht | ht
    · exact (okSpan_iff _).1 (ha _ (List.mem_map.2 ⟨t, ht, rfl⟩))
    · exact (okSpan_iff _).1 (hb _ (List.mem_map.2 ⟨t, ht, rfl⟩))
  have ho : (shiftL n u).all okSpan = true := by
    rw [List.all_eq_true]
    intro s hs
    obtain ⟨r, hr, rfl⟩ := List.mem_map.1 hs
    obtain ⟨⟨t, ht, h1⟩, t', ht', h2⟩ := cover hg h hr
    have h3 := hall t ht
    have h4 := hall t' ht'
    have h5 := h.1.1 r hr
    rw [okSpan_iff]
    unfold OkSp at *
    simp only at *
    omega
  exact ⟨ho, shift_canon h.1 ho, fun x => by rw [shift_mem, shift_mem, shift_mem, h.2]⟩
end Go.Proofs.Ytahpcepnagpbdaa
