/- Lists of indices in the order of a key: one such list only. First-fit rooms and earliest packings along such a list. Plain laws, no program in sight. -/
import Derived.Test.YtahpcepnagpbdaaRunsQ
namespace Go.Proofs.Ytahpcepnagpbdaa

theorem pairwise_one {α : Type} {r : α → α → Prop} (asy : ∀ a b, r a b → ¬ r b a) : ∀ {L M : List α}, L.Perm M → L.Pairwise r → M.Pairwise r → L = M
  | [], M, hp, _, _ => by rw [List.Perm.eq_nil hp.symm]
  | a :: L, [], hp, _, _ => by have := hp.length_eq; simp at this
  | a :: L, b :: M, hp, h1, h2 => by
    have h1' := List.pairwise_cons.1 h1
    have h2' := List.pairwise_cons.1 h2
    have hab : a = b := by
      have ha : a ∈ b :: M := hp.mem_iff.1 (by simp)
      have hb : b ∈ a :: L := hp.mem_iff.2 (by simp)
      rcases List.mem_cons.1 ha with ha | ha
      · exact ha
      · rcases List.mem_cons.1 hb with hb | hb
        · exact hb.symm
        · exact absurd (h1'.1 b hb) (asy _ _ (h2'.1 a ha))
    subst hab
    rw [pairwise_one asy ((List.perm_cons a).1 hp) h1'.2 h2'.2]

theorem snocRec {α : Type} {motive : List α → Prop} (nil : motive []) (snoc : ∀ L x, motive L → motive (L ++ [x])) : ∀ L, motive L := fun L => by
  have key : ∀ M : List α, motive M.reverse := fun M => by
    induction M with
    | nil => exact nil
    | cons x M ih => rw [List.reverse_cons]; exact snoc _ _ ih
  have := key L.reverse
  rwa [List.reverse_reverse] at this
def lexLt (key : Nat → Int) (i k : Nat) : Prop := key i < key k ∨ (key i = key k ∧ i < k)
theorem lex_asymm (key : Nat → Int) (a b : Nat) (h : lexLt key a b) : ¬ lexLt key b a := by
  unfold lexLt at *; omega
theorem lex_trans {key : Nat → Int} {a b c : Nat} (h : lexLt key a b) (k : lexLt key b c) : lexLt key a c := by
  unfold lexLt at *; omega
theorem lex_le {key : Nat → Int} {a b : Nat} (h : lexLt key a b) : key a ≤ key b := by
  unfold lexLt at h; omega
/-- L has the elements of I, in the order of the key, and then of the index. -/
structure OrdOf (key : Nat → Int) (I L : List Nat) : Prop where
  perm : L.Perm I
  asc : L.Pairwise (lexLt key)
theorem ord_one {key : Nat → Int} {I L M : List Nat} (h : OrdOf key I L) (k : OrdOf key I M) : L = M :=
  pairwise_one (lex_asymm key) (h.perm.trans k.perm.symm) h.asc k.asc
theorem ord_filter {key : Nat → Int} {I L : List Nat} (h : OrdOf key I L) (p : Nat → Bool) : OrdOf key (I.filter p) (L.filter p) := ⟨h.perm.filter p, h.asc.filter p⟩
theorem ord_nil (key : Nat → Int) : OrdOf key [] [] := ⟨List.Perm.nil, List.Pairwise.nil⟩
/-- An index greater than all others is inserted behind all that are not behind it. -/
theorem ord_insert {key : Nat → Int} {i k : Nat} {L : List Nat} (h : OrdOf key (List.range i) L) (hk : k ≤ L.length) (h1 : ∀ j, j < k → (hj : j < L.length) → key L[j] ≤ key i) (h2 : ∀ j, k ≤ j → (hj : j < L.length) → key i < key L[j]) :
    OrdOf key (List.range (i + 1)) (L.take k ++ [i] ++ L.drop k) := by
  have hlt : ∀ j ∈ L, j < i := fun j hj => List.mem_range.1 (h.perm.mem_iff.1 hj)
  refine ⟨?_, ?_⟩
  · rw [List.range_succ]
    have e : (L.take k ++ [i] ++ L.drop k).Perm (L.take k ++ L.drop k ++ [i]) := by
      rw [List.append_assoc, List.append_assoc]
      exact List.Perm.append_left _ List.perm_append_comm
    rw [List.take_append_drop] at e
    exact e.trans (h.perm.append_right _)
  · have hp := List.pairwise_append.1 (by rw [List.take_append_drop]; exact h.asc : (L.take k ++ L.drop k).Pairwise (lexLt key))
    rw [List.append_assoc, List.pairwise_append]
    have take_mem : ∀ a ∈ L.take k, key a ≤ key i ∧ a < i := fun a ha => by
      obtain ⟨j, hj, rfl⟩ := List.mem_iff_getElem.1 ha
      rw [List.length_take] at hj
      rw [List.getElem_take]
      exact ⟨h1 j (by omega) (by omega), hlt _ (List.getElem_mem _)⟩
    have drop_mem : ∀ a ∈ L.drop k, key i < key a := fun a ha => by
      obtain ⟨j, hj, rfl⟩ := List.mem_iff_getElem.1 ha
      rw [List.length_drop] at hj
      rw [List.getElem_drop]
      exact h2 (k + j) (by omega) (by omega)
    refine ⟨hp.1, ?_, ?_⟩
    · rw [List.singleton_append, List.pairwise_cons]
      exact ⟨fun a ha => .inl (drop_mem a ha), hp.2.1⟩
    · intro a ha b hb
      rw [List.singleton_append, List.mem_cons] at hb
      rcases hb with rfl | hb
      · have := take_mem a ha
        unfold lexLt; omega
      · exact hp.2.2 a ha b hb

def sfr (l : List Sp) (i : Nat) : Int := fr l i
def comSp (s t : Sp) : Bool := decide (s.1 < t.2) && decide (t.1 < s.2)
def sp (l : List Sp) (i : Nat) : Sp := (fr l i, tt l i)

/-! ### first-fit rooms -/
/-- Room r is taken for i by those of A. -/
def rTaken (l : List Sp) (A : List (Nat × Nat)) (i r : Nat) : Bool := A.any fun p => p.2 == r && comSp (sp l p.1) (sp l i)
structure IsRoom (l : List Sp) (A : List (Nat × Nat)) (i r : Nat) : Prop where
  free : rTaken l A i r = false
  least : ∀ q, q < r → rTaken l A i q = true
theorem room_one {l : List Sp} {A : List (Nat × Nat)} {i r q : Nat} (h : IsRoom l A i r) (k : IsRoom l A i q) : r = q := by
  rcases Nat.lt_trichotomy r q with h1 | h1 | h1
  · have := k.least r h1; rw [h.free] at this; cases this
  · exact h1
  · have := h.least q h1; rw [k.free] at this; cases this
/-- A assigns rooms along L. -/
inductive RoomsOf (l : List Sp) : List Nat → List (Nat × Nat) → Prop
  | nil : RoomsOf l [] []
  | snoc {L : List Nat} {A : List (Nat × Nat)} {i r : Nat} : RoomsOf l L A → IsRoom l A i r → RoomsOf l (L ++ [i]) (A ++ [(i, r)])
theorem rooms_fst {l : List Sp} {L : List Nat} {A : List (Nat × Nat)} (h : RoomsOf l L A) : A.map (·.1) = L := by
  induction h with
  | nil => rfl
  | snoc _ _ ih => rw [List.map_append, ih]; rfl
theorem rooms_one {l : List Sp} {L : List Nat} {A : List (Nat × Nat)} (h : RoomsOf l L A) : ∀ {B : List (Nat × Nat)}, RoomsOf l L B → A = B := by
  induction h with
  | nil =>
    intro B h
    have := rooms_fst h
    simpa using this.symm
  | @snoc L A i r h1 h2 ih =>
    intro B h
    generalize hM : L ++ [i] = M at h
    cases h with
    | nil => simp at hM
    | @snoc L' A' i' r' k1 k2 =>
      obtain ⟨rfl, e⟩ := List.append_inj' hM rfl
      have e := (List.cons.inj e).1
      subst e
      rw [ih k1] at h2 ⊢
      rw [room_one h2 k2]
theorem nodup_sub {α : Type} [DecidableEq α] : ∀ {L M : List α}, L.Nodup → (∀ x ∈ L, x ∈ M) → L.length ≤ M.length
  | [], _, _, _ => Nat.zero_le _
  | a :: L, M, hn, hs => by
    have hn' := List.nodup_cons.1 hn
    have ha : a ∈ M := hs a (by simp)
    have h := nodup_sub (L := L) (M := M.erase a) hn'.2 fun x hx => (List.mem_erase_of_ne (fun e => hn'.1 (by rw [← e]; exact hx))).2 (hs x (by simp [hx]))
    rw [List.length_erase_of_mem ha] at h
    have := List.length_pos_of_mem ha
    simp only [List.length_cons]
    omega
theorem room_bound {l : List Sp} {A : List (Nat × Nat)} {i r : Nat} (h : ∀ q, q < r → rTaken l A i q = true) : r ≤ A.length := by
  have hs : ∀ q ∈ List.range r, q ∈ A.map (·.2) := fun q hq => by
    have := h q (List.mem_range.1 hq)
    unfold rTaken at this
    obtain ⟨p, hp, h1⟩ := List.any_eq_true.1 this
    rw [Bool.and_eq_true, beq_iff_eq] at h1
    exact List.mem_map.2 ⟨p, hp, h1.1⟩
  have := nodup_sub (List.nodup_range (n := r)) hs
  simpa using this

/-! ### the earliest packing along a list -/
def pkOk (l : List Sp) (P : List Nat) (i : Nat) : Bool := P.length == 0 || decide (tt l (P.getD (P.length - 1) 0) ≤ fr l i)
def pk (l : List Sp) (P : List Nat) (i : Nat) : List Nat := if pkOk l P i = true then P ++ [i] else P
def packL (l : List Sp) (L : List Nat) : List Nat := L.foldl (pk l) []
theorem packL_snoc (l : List Sp) (L : List Nat) (i : Nat) : packL l (L ++ [i]) = pk l (packL l L) i := by simp [packL]
theorem pk_sub {l : List Sp} {P : List Nat} {i j : Nat} (h : j ∈ pk l P i) : j ∈ P ∨ j = i := by
  unfold pk at h
  split at h
  · rcases List.mem_append.1 h with h | h
    · exact .inl h
    · exact .inr (List.mem_singleton.1 h)
  · exact .inl h
theorem packL_mem {l : List Sp} : ∀ {L : List Nat} {j : Nat}, j ∈ packL l L → j ∈ L := by
  intro L
  induction L using snocRec with
  | nil => intro j h; simp [packL] at h
  | snoc L i ih =>
    intro j h
    rw [packL_snoc] at h
    rcases pk_sub h with h | h
    · exact List.mem_append_left _ (ih h)
    · rw [h]; simp
theorem pk_len (l : List Sp) (P : List Nat) (i : Nat) : (pk l P i).length ≤ P.length + 1 := by
  unfold pk; split <;> simp
theorem packL_len {l : List Sp} : ∀ {L : List Nat}, (packL l L).length ≤ L.length := by
  intro L
  induction L using snocRec with
  | nil => exact Nat.le_refl _
  | snoc L i ih =>
    rw [packL_snoc]
    have := pk_len l (packL l L) i
    simp; omega
theorem take_snocN {L : List Nat} {k : Nat} (hk : k < L.length) : L.take (k + 1) = L.take k ++ [L[k]] := List.take_succ_eq_append_getElem hk
def insideB (s t : Sp) : Bool := decide (s.1 ≤ t.1) && decide (t.2 ≤ s.2)
end Go.Proofs.Ytahpcepnagpbdaa
